/-
  The walk of the law EncodeNumbers.
-/
import Derived.Test.YtkjkgpdfhmoenaaDoorEncKnown
import Derived.Test.YtkjkgpdfhmoenaaDoorEncParts
import Derived.Laws.MakeOwn
import Derived.Laws.IdiomStrings
namespace Go.Proofs.YtkjkgpdfhmoenaaDoor.encodeNumbers
open Go Go.RowKit Go.Proofs.YtkjkgpdfhmoenaaDoor.Kit Go.Proofs.YtkjkgpdfhmoenaaDoor.Seg Go.Proofs.YtkjkgpdfhmoenaaDoor.ItGo Go.Proofs.YtkjkgpdfhmoenaaDoor.Dt Go.Proofs.YtkjkgpdfhmoenaaDoor.Mo Go.Proofs.YtkjkgpdfhmoenaaDoor.MoNew Go.Proofs.YtkjkgpdfhmoenaaDoor.Keep Go.Proofs.YtkjkgpdfhmoenaaDoor.House Go.Proofs.YtkjkgpdfhmoenaaDoor.EncLaw Go.Proofs.YtkjkgpdfhmoenaaDoor.EncGo Go.Proofs.YtkjkgpdfhmoenaaDoor.BpeGo Go.Proofs.YtkjkgpdfhmoenaaDoor.EncKnown
attribute [local irreducible] wpQuiet

/-- A text of very many zeros. -/
theorem zeros (w : World) : ∃ W s, (Instr.makeSlice 96 (.int .i64 1048577) (.int .i64 1048577)).run Tryd.prog w = .ok (.slice (some ⟨w.heap.size, 0, none⟩) 1048577 1048577) W ∧
    (convert 96 9 (.slice (some ⟨w.heap.size, 0, none⟩) 1048577 1048577)).run Tryd.prog W = .ok (.string s) W ∧ 1048576 < s.size ∧ Below w.heap.size w W := by
  obtain ⟨n, hn⟩ : ∃ n : Nat, n = 1048577 := ⟨_, rfl⟩
  have hi0 : (Tryd.prog.info? 5).map (fun i => (i.zero, i.size, i.bytes)) = some (some (.int .u8 0), 1, 1) := by kernel_rfl
  obtain ⟨i, hi, hz, hs, hb⟩ := info_parts hi0
  have hr := run_makeSlice (P := Tryd.prog) (w := w) 96 5 i _ Tryd.underlying96 hi hz .i64 .i64 (n : Int) (n : Int) (by omega) (by omega) (by rw [hs]; omega) (by rw [hb]; omega) (by omega)
  rw [hs, Nat.mul_one, Int.toNat_natCast] at hr
  obtain ⟨W, hW⟩ : ∃ W, w.alloc (.cells (madeCells (Value.int .u8 0).cells n) 5) = W := ⟨_, rfl⟩
  rw [hW] at hr
  have hl : (List.replicate n (0 : UInt8)).length = n := List.length_replicate
  have hc := run_convert_bytes_back (P := Tryd.prog) W 96 9 5 ⟨w.heap.size, 0, none⟩ n (List.replicate n 0) Tryd.underlying96 Tryd.underlying5 Tryd.underlying9 (fun j hj => by
    rw [add_plain, ← hW, cell_at (alloc_new rfl), Nat.zero_add]
    show (madeCells #[.int .u8 0] n)[j]? = _
    rw [← Array.getElem?_toList, toList_madeCells_one, List.getElem?_replicate, if_pos (by omega)]
    simp)
  rw [hl] at hc
  have hz' : (ByteArray.mk (List.replicate n (0 : UInt8)).toArray).size = n := by simp [ByteArray.size]
  have hb : Below w.heap.size w W := by rw [← hW]; exact (Below.refl _ _).alloc (Nat.le_refl _) _
  subst hn
  exact ⟨W, _, hr, hc, by rw [hz']; decide, hb⟩


theorem zeros1 (w : World) : ∃ W s, (Instr.makeSlice 96 (.int .i64 1048576) (.int .i64 1048576)).run Tryd.prog w = .ok (.slice (some ⟨w.heap.size, 0, none⟩) 1048576 1048576) W ∧
    (convert 96 9 (.slice (some ⟨w.heap.size, 0, none⟩) 1048576 1048576)).run Tryd.prog W = .ok (.string s) W ∧ s.size = 1048576 ∧ Below w.heap.size w W := by
  obtain ⟨n, hn⟩ : ∃ n : Nat, n = 1048576 := ⟨_, rfl⟩
  have hi0 : (Tryd.prog.info? 5).map (fun i => (i.zero, i.size, i.bytes)) = some (some (.int .u8 0), 1, 1) := by kernel_rfl
  obtain ⟨i, hi, hz, hs, hb⟩ := info_parts hi0
  have hr := run_makeSlice (P := Tryd.prog) (w := w) 96 5 i _ Tryd.underlying96 hi hz .i64 .i64 (n : Int) (n : Int) (by omega) (by omega) (by rw [hs]; omega) (by rw [hb]; omega) (by omega)
  rw [hs, Nat.mul_one, Int.toNat_natCast] at hr
  obtain ⟨W, hW⟩ : ∃ W, w.alloc (.cells (madeCells (Value.int .u8 0).cells n) 5) = W := ⟨_, rfl⟩
  rw [hW] at hr
  have hl : (List.replicate n (0 : UInt8)).length = n := List.length_replicate
  have hc := run_convert_bytes_back (P := Tryd.prog) W 96 9 5 ⟨w.heap.size, 0, none⟩ n (List.replicate n 0) Tryd.underlying96 Tryd.underlying5 Tryd.underlying9 (fun j hj => by
    rw [add_plain, ← hW, cell_at (alloc_new rfl), Nat.zero_add]
    show (madeCells #[.int .u8 0] n)[j]? = _
    rw [← Array.getElem?_toList, toList_madeCells_one, List.getElem?_replicate, if_pos (by omega)]
    simp)
  rw [hl] at hc
  have hz' : (ByteArray.mk (List.replicate n (0 : UInt8)).toArray).size = n := by simp [ByteArray.size]
  have hb : Below w.heap.size w W := by rw [← hW]; exact (Below.refl _ _).alloc (Nat.le_refl _) _
  subst hn
  exact ⟨W, _, hr, hc, by rw [hz'], hb⟩


/-- Too many bytes in the second of two parts. -/
theorem Parts_long2 (mb : Nat) (s t : ByteArray) (g cap : Nat) (w : World) (hr : w.heap[g]? = some (.cells #[.string s, .string t] 9 (0, 0))) (hs : s.size = 1048576) (ht : t.size = 1) :
    Calls Tryd.prog 34 #[.pointer (some ⟨mb, 0, none⟩), .int .i64 1, .slice (some ⟨g, 0, none⟩) 2 cap] w fun e w' => e = .returned (.tuple #[.slice none 0 0, .int .i64 0, .int .i64 3]) ∧ Below w.heap.size w w' := by
  have HR := Lib.hid hr
  have hs1 : (s.size : Int) = 1048576 := by omega
  have ht1 : (t.size : Int) = 1 := by omega
  have e1 : IntKind.i64.wrap 1048576 = 1048576 := by decide
  have e2 : IntKind.i64.wrap 1048577 = 1048577 := by decide
  clear hr hs ht
  go_enter Tryd.func34, Tryd.ntmps34
  go_wp2_with fail
  go_loopg [9, 15] 2 (fun n s9 s15 wr => ∃ k : Nat, k ≤ 1 ∧ n = 2 - k ∧ s9 = .int .i64 (if k = 0 then 0 else 1048576) ∧ s15 = .int .i64 k ∧ Below w.heap.size w wr)
  case atStart => exact ⟨0, Nat.zero_le _, by omega, rfl, rfl, Below.refl _ _⟩
  case round =>
    obtain ⟨k, hk, hg, rfl, rfl, hbw⟩ := hrel
    have HG := Lib.hid hg
    have HB := Lib.hid hbw
    have HRR := Lib.hid ((hbw.block _ (lt_of_heap HR.out)).trans HR.out)
    clear hg hbw
    have r0 := cell_at HRR.out 0
    have r1 := cell_at HRR.out 1
    have rz := lt_of_heap HRR.out
    simp only [List.getElem?_toArray, List.getElem?_cons_zero, List.getElem?_cons_succ] at r0 r1
    rcases (show k = 0 ∨ k = 1 by omega) with rfl | rfl
    · rw [if_pos rfl]
      go_wp2_with fail
      go_roundg 1
      case measure => have := HG.out; omega
      case rel => exact ⟨1, Nat.le_refl _, rfl, by simp, by go_num, HB.out⟩
    · rw [if_neg (by decide)]
      go_wp2_with fail
      refine (wrong_long mb 1 1048577 wr (by decide) (by decide) (by decide)).mono ?_
      rintro e W2 ⟨rfl, rfl⟩
      go_wp2_with fail
      refine bodyPost_ret (v := .tuple #[.slice none 0 0, .int .i64 0, .int .i64 3]) (by simp [results, Tryd.results34, go_sem, *]) rfl (⟨rfl, HB.out⟩)
set_option maxRecDepth 100000 in
theorem Over_nil (most : Int) (s : ByteArray) (w : World) : Calls Tryd.prog 21 #[.pointer none, .int .i64 most, .string s] w fun e w' => e = .returned (overV none) ∧ Below w.heap.size w w' := by
  obtain ⟨W1, hW1⟩ : ∃ Xz, w.alloc (.cells #[.int .i64 most] 3) = Xz := ⟨_, rfl⟩
  obtain ⟨b4, hb4⟩ : ∃ xz, w.heap.size = xz := ⟨_, rfl⟩
  have hb1 : Below w.heap.size w W1 := by rw [← hW1]; exact (Below.refl _ _).alloc (Nat.le_refl _) _
  have HB4 := Lib.hid (by rw [← hW1, ← hb4]; exact alloc_new rfl : W1.heap[b4]? = some (.cells #[.int .i64 most] 3 (0, 0)))
  have EW1 := Lib.hid hW1
  have Eb4 := Lib.hid hb4
  clear hW1 hb4
  obtain ⟨W2, hW2⟩ : ∃ Xz, W1.alloc (.cells #[.int .i64 0, .int .i64 0] 39) = Xz := ⟨_, rfl⟩
  obtain ⟨b6, hb6⟩ : ∃ xz, W1.heap.size = xz := ⟨_, rfl⟩
  have hb2 : Below W1.heap.size W1 W2 := by rw [← hW2]; exact (Below.refl _ _).alloc (Nat.le_refl _) _
  have HB6 := Lib.hid (by rw [← hW2, ← hb6]; exact alloc_new rfl : W2.heap[b6]? = some (.cells #[.int .i64 0, .int .i64 0] 39 (0, 0)))
  have EW2 := Lib.hid hW2
  have Eb6 := Lib.hid hb6
  clear hW2 hb6
  have n6 := Lib.hid (show b4 + 1 = b6 from by rw [← Eb6.out, ← EW1.out, ← Eb4.out]; simp)
  have l4 : b4 < b6 := by have := lt_of_heap HB4.out; have := Eb6.out; omega
  have HB4 := Lib.hid ((hb2.block _ (lt_of_heap HB4.out)).trans HB4.out)
  obtain ⟨W3, hW3⟩ : ∃ Xz, W2.alloc (.cells #[.bool false] 4) = Xz := ⟨_, rfl⟩
  obtain ⟨b7, hb7⟩ : ∃ xz, W2.heap.size = xz := ⟨_, rfl⟩
  have hb3 : Below W2.heap.size W2 W3 := by rw [← hW3]; exact (Below.refl _ _).alloc (Nat.le_refl _) _
  have HB7 := Lib.hid (by rw [← hW3, ← hb7]; exact alloc_new rfl : W3.heap[b7]? = some (.cells #[.bool false] 4 (0, 0)))
  have EW3 := Lib.hid hW3
  have Eb7 := Lib.hid hb7
  clear hW3 hb7
  have n7 := Lib.hid (show b6 + 1 = b7 from by rw [← Eb7.out, ← EW2.out, ← Eb6.out]; simp)
  have l6 : b6 < b7 := by have := lt_of_heap HB6.out; have := Eb7.out; omega
  have HB4 := Lib.hid ((hb3.block _ (lt_of_heap HB4.out)).trans HB4.out)
  have HB6 := Lib.hid ((hb3.block _ (lt_of_heap HB6.out)).trans HB6.out)
  have l0 : w.heap.size ≤ b4 := by have := Eb4.out; omega
  have HB := Lib.hid (chain (chain hb1 hb2) hb3 : Below w.heap.size w W3)
  have HW := Lib.hid (wrong_nil most s.size W3)
  obtain ⟨A3, hA3⟩ : ∃ z, ((W3.setCell ⟨b6, 0, none⟩ (.int .i64 (ovA none))).setCell ⟨b6, 1, none⟩ (.int .i64 (ovB none))).setCell ⟨b7, 0, none⟩ (.bool (none : Option Cu.Tk).isSome) = z := ⟨_, rfl⟩
  have HEE := Lib.hid (OEnds.make (o := none) (Below.refl _ W3) HB6.out HB7.out l6 hA3)
  have EA3 := Lib.hid hA3
  unfold ovA ovB at EA3
  simp only [Option.isSome_none] at EA3
  clear hb1 hb2 hb3 hA3
  refine Range.calls_of_wp_marks Tryd.func21 rfl ?_
  simp only [Tryd.ntmps21, List.size_toArray, List.length_cons, List.length_nil, Nat.reduceAdd, Nat.reduceSub, Array.replicate_succ, Array.replicate_zero, List.push_toArray, List.append_toArray, List.nil_append, List.cons_append]
  have d0 := cell_at HB4.out 0
  have dz := lt_of_heap HB4.out
  simp only [List.getElem?_toArray, List.getElem?_cons_zero] at d0
  have f0 := cell_at HB6.out 0
  have f1 := cell_at HB6.out 1
  have ff := free_all HB6.out
  have fz := lt_of_heap HB6.out
  simp only [List.getElem?_toArray, List.getElem?_cons_zero, List.getElem?_cons_succ] at f0 f1
  have g0 := cell_at HB7.out 0
  have gf := free_all HB7.out
  have gz := lt_of_heap HB7.out
  simp only [List.getElem?_toArray, List.getElem?_cons_zero] at g0
  go_upto_region 1 with fail
  rw [EW1.out, Eb4.out, n6.out, EW2.out, n7.out, EW3.out]
  go_wp2_with fail
  refine HW.out.mono ?_
  rintro e W ⟨rfl, rfl⟩
  go_wp2_with fail
  rw [EA3.out]
  have he := HEE.out.1
  refine Range.leaves_marks (v := overV none) [] _ (fun d hd => by cases hd) (by simp) (fun w' hu => ?_)
  have he2 := he.upd hu (fun b hb hh => by cases hh) (fun b hb hh => by cases hh)
  have f6 := cell_at he2.c6 0
  have f6' := cell_at he2.c6 1
  have f7 := cell_at he2.c7 0
  simp only [List.getElem?_toArray, List.getElem?_cons_zero, List.getElem?_cons_succ] at f6 f6' f7
  refine ⟨by simp [results, Tryd.results21, go_sem, f6, f6', f7, overV], rfl, ?_⟩
  exact HB.out.trans (he2.u.below HB.out.size (fun b hb h => by omega))

theorem run_a : encode HD 2 [97, 98, 32, 97, 98] = ([256], some ⟨2, 5, 2⟩) := by decide +kernel
theorem run_d : encode HD 9 [97, 98] = ([256], none) := by decide +kernel
theorem run_k : encode HD 1 [195, 169] = ([], some ⟨0, 2, 2⟩) := by decide +kernel

set_option maxHeartbeats 4000000 in
set_option maxRecDepth 100000 in
theorem walk (w : World) (hT : Tabs w) : Calls Tryd.prog 15 #[] w fun e w' => e = .returned (.bool true) ∧ Below w.heap.size w w' := by
  have HT := Lib.hid hT
  clear hT
  go_enter Tryd.func15, Tryd.ntmps15
  go_wp2_with fail
  refine (House_calls w).mono ?_
  rintro e W1 ⟨p, rfl, hat, hb1⟩
  go_wp2_with fail
  refine (model_calls p W1 hat).mono ?_
  rintro e W2 ⟨mb, rfl, hM, hb2⟩
  have HB := Lib.hid (chain hb1 hb2)
  have HM := Lib.hid hM
  clear hat hb1 hb2 hM
  -- a
  go_wp2_with fail
  have ea : encode HD 2 (ByteArray.mk #[97, 98, 32, 97, 98]).data.toList = ([256], some ⟨2, 5, 2⟩) := run_a
  have hcc := Encode_calls HD mb 2 ⟨#[97, 98, 32, 97, 98]⟩ W2 HM.out (HT.out.below HB.out) (by decide) (by decide) (by decide)
  rw [ea] at hcc
  refine hcc.mono ?_
  rintro e W3 ⟨v, rfl, hr, hb⟩
  obtain ⟨aa, ca, rfl, -, hrow⟩ := NRow.row hr
  have HRA := Lib.hid hrow
  have HB := Lib.hid (chain HB.out hb)
  have HM := Lib.hid (HM.out.below hb)
  clear hcc hr hb hrow
  unfold stOf
  simp only [List.length_cons, List.length_nil, Nat.reduceAdd]
  -- x
  go_wp2_with fail
  have hoc := Over_calls HD mb 2 ⟨#[97, 98, 32, 97, 98]⟩ W3 HM.out (HT.out.below HB.out) (by decide) (by decide) (by decide)
  rw [ea] at hoc
  refine hoc.mono ?_
  rintro e W4 ⟨rfl, hb⟩
  have HRA := Lib.hid (HRA.out.below hb)
  have HB := Lib.hid (chain HB.out hb)
  have HM := Lib.hid (HM.out.below hb)
  clear hoc hb ea
  unfold overV ovA ovB
  simp only [Option.isSome_some]
  obtain ⟨W5, hW5⟩ : ∃ Xz, W4.alloc (.cells #[.int .i64 2, .int .i64 5] 39) = Xz := ⟨_, rfl⟩
  obtain ⟨xb, hxb⟩ : ∃ xz, W4.heap.size = xz := ⟨_, rfl⟩
  have hb : Below W4.heap.size W4 W5 := by rw [← hW5]; exact (Below.refl _ _).alloc (Nat.le_refl _) _
  have HX := Lib.hid (by rw [← hW5, ← hxb]; exact alloc_new rfl : W5.heap[xb]? = some (.cells #[.int .i64 2, .int .i64 5] 39 (0, 0)))
  have EW5 := Lib.hid hW5
  have Exb := Lib.hid hxb
  clear hW5 hxb
  obtain ⟨W6, hW6⟩ : ∃ Xz, W5.alloc (.cells #[.string ⟨#[97]⟩, .string ⟨#[98]⟩] 9) = Xz := ⟨_, rfl⟩
  obtain ⟨pb, hpb⟩ : ∃ xz, W5.heap.size = xz := ⟨_, rfl⟩
  have hb6 : Below W5.heap.size W5 W6 := by rw [← hW6]; exact (Below.refl _ _).alloc (Nat.le_refl _) _
  have HPB := Lib.hid (by rw [← hW6, ← hpb]; exact alloc_new rfl : W6.heap[pb]? = some (.cells #[.string ⟨#[97]⟩, .string ⟨#[98]⟩] 9 (0, 0)))
  have EW6 := Lib.hid hW6
  have Epb := Lib.hid hpb
  clear hW6 hpb
  have HX := Lib.hid ((hb6.block _ (lt_of_heap HX.out)).trans HX.out)
  have HRA := Lib.hid ((HRA.out.below hb).below hb6)
  have HB := Lib.hid (chain (chain HB.out hb) hb6)
  have HM := Lib.hid ((HM.out.below hb).below hb6)
  clear hb hb6
  -- d
  go_upto_region 6 with fail
  rw [EW5.out, Exb.out]
  have ed : encode HD 9 (glue [⟨#[97]⟩, ⟨#[98]⟩]).data.toList = ([256], none) := run_d
  have hpc := Parts_calls HD mb 9 (some ⟨pb, 0, none⟩) 2 [⟨#[97]⟩, ⟨#[98]⟩] W6 HM.out (HT.out.below HB.out) (by decide) (by decide) (.inr ⟨pb, 0, rfl, lt_of_heap HPB.out, fun j x hx => by
    rw [cell_at HPB.out, Nat.zero_add]
    match j, hx with
    | 0, hx => simp at hx; rw [← hx]; rfl
    | 1, hx => simp at hx; rw [← hx]; rfl
    | j + 2, hx => simp at hx⟩) (by decide) (by decide) (by decide)
  rw [ed] at hpc
  go_wp2_with fail
  rw [EW6.out, Epb.out]
  refine hpc.mono ?_
  rintro e W7 ⟨v, rfl, hr, hb⟩
  obtain ⟨ad, cd, rfl, -, hrow⟩ := NRow.row hr
  have HRD := Lib.hid hrow
  have HRA := Lib.hid (HRA.out.below hb)
  have HX := Lib.hid ((hb.block _ (lt_of_heap HX.out)).trans HX.out)
  have HB := Lib.hid (chain HB.out hb)
  have HM := Lib.hid (HM.out.below hb)
  clear hpc ed hr hb hrow
  unfold stOf
  simp only [List.length_cons, List.length_nil, Nat.reduceAdd]
  -- f
  go_wp2_with fail
  refine (Encode_bad (some ⟨mb, 0, none⟩) 0 1 ⟨#[97]⟩ W7 (fun W => wrong_most mb 0 _ W (.inl (by decide))) (by decide)).mono ?_
  rintro e V1 ⟨rfl, hb⟩
  have HRD := Lib.hid (HRD.out.below hb)
  have HRA := Lib.hid (HRA.out.below hb)
  have HX := Lib.hid ((hb.block _ (lt_of_heap HX.out)).trans HX.out)
  have HB := Lib.hid (chain HB.out hb)
  have HM := Lib.hid (HM.out.below hb)
  clear hb
  -- h
  go_wp2_with fail
  refine (Encode_bad none 1 1 ⟨#[97]⟩ V1 (fun W => wrong_nil 1 _ W) (by decide)).mono ?_
  rintro e V2 ⟨rfl, hb⟩
  have HRD := Lib.hid (HRD.out.below hb)
  have HRA := Lib.hid (HRA.out.below hb)
  have HX := Lib.hid ((hb.block _ (lt_of_heap HX.out)).trans HX.out)
  have HB := Lib.hid (chain HB.out hb)
  have HM := Lib.hid (HM.out.below hb)
  clear hb
  -- i
  obtain ⟨V3, s, hmk, hcv, hs, hb⟩ := zeros V2
  have HRD := Lib.hid (HRD.out.below hb)
  have HRA := Lib.hid (HRA.out.below hb)
  have HX := Lib.hid ((hb.block _ (lt_of_heap HX.out)).trans HX.out)
  have HB := Lib.hid (chain HB.out hb)
  have HM := Lib.hid (HM.out.below hb)
  clear hb
  have HS := Lib.hid hs
  clear hs
  go_wp2_with fail
  refine (Encode_bad (some ⟨mb, 0, none⟩) 1 3 s V3 (fun W => wrong_long mb 1 _ W (by decide) (by decide) (by have := HS.out; omega)) (by decide)).mono ?_
  rintro e V4 ⟨rfl, hb⟩
  clear hmk hcv
  have HRD := Lib.hid (HRD.out.below hb)
  have HRA := Lib.hid (HRA.out.below hb)
  have HX := Lib.hid ((hb.block _ (lt_of_heap HX.out)).trans HX.out)
  have HB := Lib.hid (chain HB.out hb)
  have HM := Lib.hid (HM.out.below hb)
  clear hb
  -- j
  obtain ⟨V5, t, hmk, hcv, hs, hb⟩ := zeros1 V4
  have HRD := Lib.hid (HRD.out.below hb)
  have HRA := Lib.hid (HRA.out.below hb)
  have HX := Lib.hid ((hb.block _ (lt_of_heap HX.out)).trans HX.out)
  have HB := Lib.hid (chain HB.out hb)
  have HM := Lib.hid (HM.out.below hb)
  clear hb
  obtain ⟨V6, hV6⟩ : ∃ Xz, V5.alloc (.cells #[.string t, .string ⟨#[97]⟩] 9) = Xz := ⟨_, rfl⟩
  obtain ⟨qb, hqb⟩ : ∃ xz, V5.heap.size = xz := ⟨_, rfl⟩
  have hb : Below V5.heap.size V5 V6 := by rw [← hV6]; exact (Below.refl _ _).alloc (Nat.le_refl _) _
  have HQB := Lib.hid (by rw [← hV6, ← hqb]; exact alloc_new rfl : V6.heap[qb]? = some (.cells #[.string t, .string ⟨#[97]⟩] 9 (0, 0)))
  have EV6 := Lib.hid hV6
  have Eqb := Lib.hid hqb
  clear hV6 hqb
  have HRD := Lib.hid (HRD.out.below hb)
  have HRA := Lib.hid (HRA.out.below hb)
  have HX := Lib.hid ((hb.block _ (lt_of_heap HX.out)).trans HX.out)
  have HB := Lib.hid (chain HB.out hb)
  have HM := Lib.hid (HM.out.below hb)
  clear hb
  have HPL := Lib.hid (Parts_long2 mb t ⟨#[97]⟩ qb 2 V6 HQB.out hs rfl)
  clear hs
  go_wp2_with fail
  rw [EV6.out, Eqb.out]
  refine HPL.out.mono ?_
  rintro e V7 ⟨rfl, hb⟩
  clear hmk hcv HPL
  have HRD := Lib.hid (HRD.out.below hb)
  have HRA := Lib.hid (HRA.out.below hb)
  have HX := Lib.hid ((hb.block _ (lt_of_heap HX.out)).trans HX.out)
  have HB := Lib.hid (chain HB.out hb)
  have HM := Lib.hid (HM.out.below hb)
  clear hb
  -- k
  go_wp2_with fail
  have ek : encode HD 1 (ByteArray.mk #[195, 169]).data.toList = ([], some ⟨0, 2, 2⟩) := run_k
  have hkc := Encode_calls HD mb 1 ⟨#[195, 169]⟩ V7 HM.out (HT.out.below HB.out) (by decide) (by decide) (by decide)
  rw [ek] at hkc
  refine hkc.mono ?_
  rintro e V8 ⟨v, rfl, hr, hb⟩
  obtain ⟨ak, ck, rfl, -, -⟩ := NRow.row hr
  clear hkc ek hr
  have HRD := Lib.hid (HRD.out.below hb)
  have HRA := Lib.hid (HRA.out.below hb)
  have HX := Lib.hid ((hb.block _ (lt_of_heap HX.out)).trans HX.out)
  have HB := Lib.hid (chain HB.out hb)
  have HM := Lib.hid (HM.out.below hb)
  clear hb
  unfold stOf
  simp only [List.length_nil]
  -- no
  go_wp2_with fail
  refine (Over_nil 1 ⟨#[97, 98]⟩ V8).mono ?_
  rintro e V9 ⟨rfl, hb⟩
  have HRD := Lib.hid (HRD.out.below hb)
  have HRA := Lib.hid (HRA.out.below hb)
  have HX := Lib.hid ((hb.block _ (lt_of_heap HX.out)).trans HX.out)
  have HB := Lib.hid (chain HB.out hb)
  have HM := Lib.hid (HM.out.below hb)
  clear hb
  unfold overV ovA ovB
  simp only [Option.isSome_none]
  obtain ⟨Va, hVa⟩ : ∃ Xz, V9.alloc (.cells #[.int .i64 0, .int .i64 0] 39) = Xz := ⟨_, rfl⟩
  obtain ⟨yb, hyb⟩ : ∃ xz, V9.heap.size = xz := ⟨_, rfl⟩
  have hb : Below V9.heap.size V9 Va := by rw [← hVa]; exact (Below.refl _ _).alloc (Nat.le_refl _) _
  have HY := Lib.hid (by rw [← hVa, ← hyb]; exact alloc_new rfl : Va.heap[yb]? = some (.cells #[.int .i64 0, .int .i64 0] 39 (0, 0)))
  have EVa := Lib.hid hVa
  have Eyb := Lib.hid hyb
  clear hVa hyb
  have HRD := Lib.hid (HRD.out.below hb)
  have HRA := Lib.hid (HRA.out.below hb)
  have HX := Lib.hid ((hb.block _ (lt_of_heap HX.out)).trans HX.out)
  have HB := Lib.hid (chain HB.out hb)
  have HM := Lib.hid (HM.out.below hb)
  clear hb
  obtain ⟨Vb, hVb⟩ : ∃ Xz, Va.alloc (.cells #[.int .i64 256] 3) = Xz := ⟨_, rfl⟩
  obtain ⟨zb, hzb⟩ : ∃ xz, Va.heap.size = xz := ⟨_, rfl⟩
  have hb : Below Va.heap.size Va Vb := by rw [← hVb]; exact (Below.refl _ _).alloc (Nat.le_refl _) _
  have HZ := Lib.hid (by rw [← hVb, ← hzb]; exact alloc_new rfl : Vb.heap[zb]? = some (.cells #[.int .i64 256] 3 (0, 0)))
  have EVb := Lib.hid hVb
  have Ezb := Lib.hid hzb
  clear hVb hzb
  have HRD := Lib.hid (HRD.out.below hb)
  have HRA := Lib.hid (HRA.out.below hb)
  have HX := Lib.hid ((hb.block _ (lt_of_heap HX.out)).trans HX.out)
  have HB := Lib.hid (chain HB.out hb)
  have HM := Lib.hid (HM.out.below hb)
  clear hb
  have HSA := Lib.hid (SameInt.Same_calls aa (some ⟨zb, 0, none⟩) 1 ca 1 _ Vb HRA.out (lit_row [256] HZ.out (fun i hi => by
    have hi1 : i < 1 := hi
    match i, hi1 with
    | 0, _ => rfl)) (by decide))
  have nz := Lib.hid (show yb + 1 = zb from by rw [← Ezb.out, ← EVa.out, ← Eyb.out]; simp)
  go_wp2_with fail
  rw [EVa.out, Eyb.out, nz.out, EVb.out]
  refine HSA.out.mono ?_
  rintro e Vc ⟨rfl, hb⟩
  have HRD := Lib.hid (HRD.out.below hb)
  have HRA := Lib.hid (HRA.out.below hb)
  have HX := Lib.hid ((hb.block _ (lt_of_heap HX.out)).trans HX.out)
  have HB := Lib.hid (chain HB.out hb)
  have HM := Lib.hid (HM.out.below hb)
  clear hb
  have x0 := cell_at HX.out 0
  have x1 := cell_at HX.out 1
  have xz := lt_of_heap HX.out
  simp only [List.getElem?_toArray, List.getElem?_cons_zero, List.getElem?_cons_succ] at x0 x1
  obtain ⟨Vd, hVd⟩ : ∃ Xz, Vc.alloc (.cells #[.int .i64 256] 3) = Xz := ⟨_, rfl⟩
  obtain ⟨ub, hub⟩ : ∃ xz, Vc.heap.size = xz := ⟨_, rfl⟩
  have hb : Below Vc.heap.size Vc Vd := by rw [← hVd]; exact (Below.refl _ _).alloc (Nat.le_refl _) _
  have HU := Lib.hid (by rw [← hVd, ← hub]; exact alloc_new rfl : Vd.heap[ub]? = some (.cells #[.int .i64 256] 3 (0, 0)))
  have EVd := Lib.hid hVd
  have Eub := Lib.hid hub
  clear hVd hub
  have HRD := Lib.hid (HRD.out.below hb)
  have HRA := Lib.hid (HRA.out.below hb)
  have HX := Lib.hid ((hb.block _ (lt_of_heap HX.out)).trans HX.out)
  have HB := Lib.hid (chain HB.out hb)
  have HM := Lib.hid (HM.out.below hb)
  clear hb
  have HSD := Lib.hid (SameInt.Same_calls ad (some ⟨ub, 0, none⟩) 1 cd 1 _ Vd HRD.out (lit_row [256] HU.out (fun i hi => by
    have hi1 : i < 1 := hi
    match i, hi1 with
    | 0, _ => rfl)) (by decide))
  go_wp2_with fail
  rw [EVd.out, Eub.out]
  refine HSD.out.mono ?_
  rintro e Ve ⟨rfl, hb⟩
  have HRD := Lib.hid (HRD.out.below hb)
  have HRA := Lib.hid (HRA.out.below hb)
  have HX := Lib.hid ((hb.block _ (lt_of_heap HX.out)).trans HX.out)
  have HB := Lib.hid (chain HB.out hb)
  have HM := Lib.hid (HM.out.below hb)
  clear hb
  go_wp2_with fail
  refine (known_calls Ve (HT.out.below HB.out)).mono ?_
  rintro e Wz ⟨rfl, hbz⟩
  have HB := Lib.hid (chain HB.out hbz)
  clear hbz
  go_wp2_with fail
  go_ret
  exact ⟨rfl, HB.out⟩
end Go.Proofs.YtkjkgpdfhmoenaaDoor.encodeNumbers
