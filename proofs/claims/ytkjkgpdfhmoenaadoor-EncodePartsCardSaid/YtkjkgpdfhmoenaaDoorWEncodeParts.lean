/-
  The walk of the law EncodeParts.
-/
import Derived.Test.YtkjkgpdfhmoenaaDoorEncKnown
import Derived.Test.YtkjkgpdfhmoenaaDoorEncParts
import Derived.Test.YtkjkgpdfhmoenaaDoorRoomStr
namespace Go.Proofs.YtkjkgpdfhmoenaaDoor.encodeParts
open Go Go.RowKit Go.Proofs.YtkjkgpdfhmoenaaDoor.Kit Go.Proofs.YtkjkgpdfhmoenaaDoor.Seg Go.Proofs.YtkjkgpdfhmoenaaDoor.ItGo Go.Proofs.YtkjkgpdfhmoenaaDoor.Dt Go.Proofs.YtkjkgpdfhmoenaaDoor.MoNew Go.Proofs.YtkjkgpdfhmoenaaDoor.Keep Go.Proofs.YtkjkgpdfhmoenaaDoor.EncLaw Go.Proofs.YtkjkgpdfhmoenaaDoor.EncGo Go.Proofs.YtkjkgpdfhmoenaaDoor.BpeGo Go.Proofs.YtkjkgpdfhmoenaaDoor.Few Go.Proofs.YtkjkgpdfhmoenaaDoor.EncKnown Go.Proofs.YtkjkgpdfhmoenaaDoor.Good
attribute [local irreducible] wpQuiet

/-- What both answer. -/
def Ans (x : List Int) (st why : Int) (W : World) (e : Ending) (W' : World) : Prop := ∃ v, e = .returned (.tuple #[v, .int .i64 st, .int .i64 why]) ∧ NRow W' W.heap.size v x ∧ Below W.heap.size W W'
theorem both (D : Dt) (mb : Nat) (n : Int) (L : List ByteArray) (hl : L.length ≤ 1000) (ht : tot L ≤ 1048576) : ∃ x st why, x.length ≤ 1048576 ∧ (∀ W a cap, Mod W mb D → Tabs W → TxRow W a L → L.length ≤ cap → Calls Tryd.prog 34 #[.pointer (some ⟨mb, 0, none⟩), .int .i64 n, .slice a L.length cap] W (Ans x st why W)) ∧
    ∀ W, Mod W mb D → Tabs W → Calls Tryd.prog 20 #[.pointer (some ⟨mb, 0, none⟩), .int .i64 n, .string (glue L)] W (Ans x st why W) := by
  by_cases h : 1 ≤ n ∧ n ≤ 65536
  · obtain ⟨k, rfl⟩ : ∃ k : Nat, n = k := ⟨n.toNat, by omega⟩
    by_cases hD : Good.Good D
    · refine ⟨(encode D k (glue L).data.toList).1, stOf (encode D k (glue L).data.toList).2, 0, ?_, fun W a cap hM hT hr hc => Parts_calls D mb k a cap L W hM hT (by omega) (by omega) hr (by omega) hc ht, fun W hM hT => Encode_calls D mb k (glue L) W hM hT (by omega) (by omega) (by rw [glue_size]; exact ht)⟩
      have := (encode_cat hD k (glue L).data.toList).2.1
      rw [size_list, glue_size] at this
      omega
    · exact ⟨[], 0, 0, by simp, fun W a cap hM => absurd (Good.of_mod hM) hD, fun W hM => absurd (Good.of_mod hM) hD⟩
  · have hb : n < 1 ∨ 65536 < n := by omega
    refine ⟨[], 0, 1, by simp, fun W a cap hM hT hr hc => ?_, fun W hM hT => ?_⟩
    · refine (Parts_bad mb n 1 a cap L W hr (by omega) ht (fun W => wrong_most mb n _ W hb) (by decide)).mono ?_
      rintro e W' ⟨rfl, hb⟩
      exact ⟨_, rfl, Seg.nil _ _ _ _, hb⟩
    · refine (Encode_bad (some ⟨mb, 0, none⟩) n 1 (glue L) W (fun W => wrong_most mb n _ W hb) (by decide)).mono ?_
      rintro e W' ⟨rfl, hb⟩
      exact ⟨_, rfl, Seg.nil _ _ _ _, hb⟩

/-- The first texts, shortened. -/
def sh (T : Nat → ByteArray) (m : Nat) : List ByteArray := (List.range m).map fun i => few (T i) 100
theorem sh_len (T : Nat → ByteArray) (m : Nat) : (sh T m).length = m := by simp [sh]
theorem sh_succ (T : Nat → ByteArray) (m : Nat) : sh T (m + 1) = sh T m ++ [few (T m) 100] := by simp [sh, List.range_succ]
theorem sh_at {T : Nat → ByteArray} {m k : Nat} (h : k < m) : (sh T m)[k]? = some (few (T k) 100) := by simp [sh, h]
theorem sh_tot (T : Nat → ByteArray) : ∀ m, tot (sh T m) ≤ 100 * m
  | 0 => by simp [sh, tot]
  | m + 1 => by
    have ih := sh_tot T m
    have h1 := (few_size (T m) 100).1
    rw [sh_succ]
    unfold tot at *
    simp only [List.map_append, List.sum_append, List.map_cons, List.map_nil, List.sum_cons, List.sum_nil]
    omega
theorem glue_succ (L : List ByteArray) (x : ByteArray) : glue (L ++ [x]) = glue L ++ x := by
  refine ByteArray.ext (Array.toList_inj.1 ?_)
  rw [glue_list, bytes_append, glue_list]
  simp

/-- Texts in a row of their own. -/
def SR (w : World) (g m : Nat) (f : Nat → ByteArray) : Prop := ∃ cur, w.heap[g]? = some (.cells cur 9 (0, 0)) ∧ m ≤ cur.size ∧ ∀ k, k < m → cur[k]? = some (.string (f k))
def upt (f : Nat → ByteArray) (i : Nat) (v : ByteArray) : Nat → ByteArray := fun k => if k = i then v else f k
theorem SR.set {w : World} {g m : Nat} {f : Nat → ByteArray} (h : SR w g m f) {k : Nat} (hk : k < m) (v : ByteArray) : SR (w.setCell ⟨g, k, none⟩ (.string v)) g m (upt f k v) := by
  obtain ⟨cur, h1, h2, h3⟩ := h
  refine ⟨_, heap_set h1 _ _, by simpa using h2, fun j hj => ?_⟩
  rw [Array.getElem?_setIfInBounds]
  unfold upt
  by_cases e : j = k
  · subst e
    rw [if_pos rfl, if_pos rfl, if_pos (by omega)]
  · rw [if_neg (by omega), if_neg e]
    exact h3 j hj
theorem SR.cell {w : World} {g m : Nat} {f : Nat → ByteArray} (h : SR w g m f) {k : Nat} (hk : k < m) : w.cell? ⟨g, k, none⟩ = some (.string (f k)) := by
  obtain ⟨cur, h1, h2, h3⟩ := h
  rw [cell_at h1]
  exact h3 k hk
theorem SR.free {w : World} {g m : Nat} {f : Nat → ByteArray} (h : SR w g m f) : ∀ k, w.frozen? ⟨g, k, none⟩ = false := by
  obtain ⟨cur, h1, _⟩ := h
  exact free_all h1
theorem SR.lt {w : World} {g m : Nat} {f : Nat → ByteArray} (h : SR w g m f) : g < w.heap.size := by
  obtain ⟨cur, h1, _⟩ := h
  exact lt_of_heap h1
theorem SR.ext {w : World} {g m : Nat} {f f' : Nat → ByteArray} (h : SR w g m f) (he : ∀ k, k < m → f k = f' k) : SR w g m f' := by
  obtain ⟨cur, h1, h2, h3⟩ := h
  exact ⟨cur, h1, h2, fun k hk => by rw [← he k hk]; exact h3 k hk⟩
theorem makeS (m : Nat) (hm : m ≤ 1048576) (w : World) :
    (Instr.makeSlice 22 (.int .i64 m) (.int .i64 m)).run Tryd.prog w = .ok (.slice (some ⟨w.heap.size, 0, none⟩) m m) (w.alloc (.cells (madeCells #[.string ByteArray.empty] m) 9)) := by
  obtain ⟨i, hi, hzz⟩ := Option.map_eq_some_iff.1 RoomStr.info0
  simp only [Prod.mk.injEq] at hzz
  obtain ⟨hz, hs, hb⟩ := hzz
  have hr := run_make (P := Tryd.prog) w 22 9 i _ Tryd.underlying22 hi hz .i64 .i64 (m : Int) (m : Int) (by omega) (by omega) (by rw [hb]; omega) (by omega)
  rw [hs, Nat.mul_one, Int.toNat_natCast] at hr
  exact hr
theorem made_s (m j : Nat) (h : j < m) : (madeCells #[.string ByteArray.empty] m)[j]? = some (.string ByteArray.empty) := by
  rw [← Array.getElem?_toList, toList_madeCells_one, List.getElem?_replicate, if_pos h]

set_option maxHeartbeats 4000000 in
set_option maxRecDepth 100000 in
theorem walk (D : Dt) (Q : Pl) (n : Int) (a : Option Addr) (len cap : Nat) (T : Nat → ByteArray) (w : World) (hd : At w D Q) (_hn : -9223372036854775808 ≤ n ∧ n ≤ 9223372036854775807) (hcap : len ≤ cap) (hr : WRow w a len T) (hl : len ≤ 8796093022208) (hz : ∀ i, i < len → (T i).size ≤ 140737488355328) (hT : Tabs w) :
    Calls Tryd.prog 10 #[.agg #[.slice Q.a0 D.nw Q.c0, .slice Q.a1 D.nm Q.c1, .slice Q.a2 D.n0 Q.c2, .slice Q.a3 D.n1 Q.c3, .slice Q.a4 D.n2 Q.c4], .int .i64 n, .slice a len cap] w fun e w' => e = .returned (.bool true) ∧ Below w.heap.size w w' := by
  have HA := Lib.hid hd
  have HT := Lib.hid hT
  have HTR := Lib.hid (show SameStr.Row w a len T from hr)
  have HZ := Lib.hid hz
  clear hd hT hr hz
  obtain ⟨W1, hW1⟩ : ∃ Xz, w.alloc (.cells #[.slice Q.a0 D.nw Q.c0, .slice Q.a1 D.nm Q.c1, .slice Q.a2 D.n0 Q.c2, .slice Q.a3 D.n1 Q.c3, .slice Q.a4 D.n2 Q.c4] 26) = Xz := ⟨_, rfl⟩
  obtain ⟨bd, hbd⟩ : ∃ xz, w.heap.size = xz := ⟨_, rfl⟩
  have hb1 : Below w.heap.size w W1 := by rw [← hW1]; exact (Below.refl _ _).alloc (Nat.le_refl _) _
  have HX := Lib.hid (by rw [← hW1, ← hbd]; exact alloc_new rfl : W1.heap[bd]? = some (.cells #[.slice Q.a0 D.nw Q.c0, .slice Q.a1 D.nm Q.c1, .slice Q.a2 D.n0 Q.c2, .slice Q.a3 D.n1 Q.c3, .slice Q.a4 D.n2 Q.c4] 26 (0, 0)))
  have EW1 := Lib.hid hW1
  have Ebd := Lib.hid hbd
  clear hW1 hbd
  have HB := Lib.hid hb1
  have HA := Lib.hid (HA.out.below hb1)
  have HO := Lib.hid (Of_calls D Q W1 HA.out)
  clear hb1
  have x0 := cell_at HX.out 0
  have x1 := cell_at HX.out 1
  have x2 := cell_at HX.out 2
  have x3 := cell_at HX.out 3
  have x4 := cell_at HX.out 4
  have xz := lt_of_heap HX.out
  simp only [List.getElem?_toArray, List.getElem?_cons_zero, List.getElem?_cons_succ] at x0 x1 x2 x3 x4
  go_enter Tryd.func10, Tryd.ntmps10
  go_upto_region 1 with fail
  rw [EW1.out, Ebd.out]
  go_wp2_with fail
  refine HO.out.mono ?_
  clear x0 x1 x2 x3 x4 xz
  rintro e W2 (⟨rfl, hb2⟩ | ⟨mb, rfl, hM, _, hb2, _⟩)
  · have HB := Lib.hid (chain HB.out hb2)
    clear hb2
    go_wp2_with fail
    refine (known_calls W2 (HT.out.below HB.out)).mono ?_
    rintro e W3 ⟨rfl, hb3⟩
    have HB := Lib.hid (chain HB.out hb3)
    clear hb3
    go_wp2_with fail
    go_ret
    exact ⟨rfl, HB.out⟩
  have HM := Lib.hid hM
  have HG := Lib.hid (Good.of_mod hM)
  have HB := Lib.hid (chain HB.out hb2)
  clear hM hb2
  have HTR := Lib.hid (HTR.out.below HB.out)
  have HTR0 := HTR
  by_cases h20 : 20 < len
  · have h20' : (20 : Int) < len := by omega
    have hc2 : (20 : Int) ≤ cap := by omega
    obtain ⟨m, hm⟩ : ∃ m : Nat, 20 = m := ⟨_, rfl⟩
    have hv : Value.slice a 20 cap = Value.slice a m cap := by rw [← hm]
    have HV := Lib.hid hv
    have hml : m ≤ len := by omega
    have hm20 : m ≤ 20 := by omega
    have HTR := Lib.hid (HTR.out.mono (len' := m) hml)
    clear hv hm
    go_upto_region 6 with fail
    rw [HV.out]
    have hmk := makeS m (by omega)
    clear HV h20 h20' hc2
    obtain ⟨W3, hW3⟩ : ∃ Xz, W2.alloc (.cells (madeCells #[.string ByteArray.empty] m) 9) = Xz := ⟨_, rfl⟩
    obtain ⟨sb, hsb⟩ : ∃ xz, W2.heap.size = xz := ⟨_, rfl⟩
    have hb3 : Below W2.heap.size W2 W3 := by rw [← hW3]; exact (Below.refl _ _).alloc (Nat.le_refl _) _
    have HS := Lib.hid (by rw [← hW3, ← hsb]; exact alloc_new rfl : W3.heap[sb]? = some (.cells (madeCells #[.string ByteArray.empty] m) 9 (0, 0)))
    have EW3 := Lib.hid hW3
    have Esb := Lib.hid hsb
    clear hW3 hsb
    have HSR := Lib.hid (show SR W3 sb m (fun j => if j < 0 then few (T j) 100 else ByteArray.empty) from ⟨_, HS.out, by rw [size_madeCells]; omega, fun k hk => by show _ = some (Value.string (if k < 0 then few (T k) 100 else ByteArray.empty)); rw [if_neg (by omega)]; exact made_s m k hk⟩)
    have HTR := Lib.hid (HTR.out.below hb3)
    have HM3 := Lib.hid (HM.out.below hb3)
    have HB3 := Lib.hid (chain HB.out hb3)
    have hlo : W2.heap.size ≤ sb := by rw [← Esb.out]; exact Nat.le_refl _
    have hlo0 : w.heap.size ≤ sb := by have := HB.out.size; omega
    clear hb3
    go_upto_region 7 with fail
    rw [EW3.out, Esb.out]
    clear hmk
    go_wp2_with fail
    go_loopg [11, 12] m (fun g s11 s12 wr => ∃ k : Nat, k ≤ m ∧ g = m - k ∧ s11 = .string (glue (sh T k)) ∧ s12 = .int .i64 k ∧ SR wr sb m (fun j => if j < k then few (T j) 100 else ByteArray.empty) ∧ Below w.heap.size w wr ∧ Below W2.heap.size W2 wr)
    case atStart => exact ⟨0, Nat.zero_le _, by omega, rfl, rfl, HSR.out, HB3.out, by rw [← EW3.out]; exact (Below.refl _ _).alloc (Nat.le_refl _) _⟩
    case round =>
      obtain ⟨k, hk, hg, rfl, rfl, hsr, hbw, hb2⟩ := hrel
      have HG2 := Lib.hid hg
      have HSR := Lib.hid hsr
      have HBW := Lib.hid hbw
      have HB2 := Lib.hid hb2
      clear hg hsr hbw
      by_cases hlt : k < m
      · obtain ⟨b, o, rfl, hbl, hc⟩ := (HTR0.out.below hb2).at (k := k) (by omega)
        have c0 := hc k (by omega)
        have s0 := HSR.out.cell hlt
        have sf := HSR.out.free
        have sz := HSR.out.lt
        have i1 : (k : Int) < m := by omega
        have i2 : (0 : Int) ≤ k := by omega
        have hfz := few_size (T k) 100
        have hzt := HZ.out k (by omega)
        have hgz := glue_size (sh T k)
        have hst := sh_tot T k
        have e2 : IntKind.i64.wrap ((k : Int) + 1) = ((k + 1 : Nat) : Int) := by rw [i64w _ (by omega) (by omega)]; omega
        have HFW := Lib.hid (few_calls (T k) 100 wr (by decide))
        obtain ⟨fx, hfx⟩ : ∃ z, few (T k) 100 = z := ⟨_, rfl⟩
        obtain ⟨ga, hga⟩ : ∃ z, glue (sh T k) = z := ⟨_, rfl⟩
        rw [hfx] at hfz HFW
        rw [hga] at hgz ⊢
        obtain ⟨tk, htk⟩ : ∃ z, T k = z := ⟨_, rfl⟩
        rw [htk] at c0 HFW
        have HGS := Lib.hid (show glue (sh T (k + 1)) = ga ++ fx from by rw [sh_succ, glue_succ, hga, hfx])
        have hadd : ∀ w, (Op.stringOp .add ga fx).run Tryd.prog w = .ok (.string (ga ++ fx)) w := fun w => run_string_add_sum w ga fx (by omega)
        obtain ⟨W5, hW5⟩ : ∃ z, wr.setCell ⟨sb, k, none⟩ (.string fx) = z := ⟨_, rfl⟩
        have HSR5 := Lib.hid (show SR W5 sb m (fun j => if j < k + 1 then few (T j) 100 else ByteArray.empty) from hW5 ▸ (HSR.out.set hlt fx).ext (fun j hj => by
          unfold upt
          by_cases e : j = k
          · rw [if_pos e, if_pos (by omega), e, hfx]
          · rw [if_neg e]
            show (if j < k then _ else _) = _
            by_cases e2 : j < k
            · rw [if_pos e2, if_pos (by omega)]
            · rw [if_neg e2, if_neg (by omega)]))
        have HB5 := Lib.hid (show Below w.heap.size w W5 from hW5 ▸ HBW.out.setCell hlo0 _)
        have HB25 := Lib.hid (show Below W2.heap.size W2 W5 from hW5 ▸ HB2.out.setCell hlo _)
        have u0 := HSR5.out.cell hlt
        rw [if_pos (Nat.lt_succ_self k), hfx] at u0
        have uz := HSR5.out.lt
        have EW5 := Lib.hid hW5
        clear hc hfx hga htk hW5 hb2
        go_wp2_with fail
        refine HFW.out.mono ?_
        rintro e wz ⟨rfl, rfl⟩
        go_upto_region 12 with fail
        rw [EW5.out]
        go_wp2_with fail
        go_roundg (m - (k + 1))
        case measure => have := HG2.out; omega
        case rel => exact ⟨k + 1, by omega, rfl, by rw [HGS.out], by go_num, HSR5.out, HB5.out, HB25.out⟩
      · have hkm : k = m := by omega
        subst hkm
        have hi : ¬ ((k : Int) < k) := by omega
        have hsrow : SameStr.Row wr (some ⟨sb, 0, none⟩) k (fun j => few (T j) 100) := by
          obtain ⟨cur, h1, h2, h3⟩ := HSR.out
          refine .inr ⟨sb, 0, rfl, lt_of_heap h1, fun i hi => ?_⟩
          rw [cell_at h1, Nat.zero_add, h3 i hi]
          show some (Value.string (if i < k then few (T i) 100 else ByteArray.empty)) = _
          rw [if_pos hi]
        have HSROW := Lib.hid hsrow
        have htl := sh_len T k
        have htt := sh_tot T k
        obtain ⟨x, st, why, hxl, hp, he⟩ := both D mb n (sh T k) (by omega) (by omega)
        have HP := Lib.hid hp
        have HE := Lib.hid he
        clear hb2 hsrow hp he
        go_wp2_with fail
        refine (RoomStr.Roomy_calls _ k k (fun j => few (T j) 100) ⟨#[98, 101, 104, 105, 110, 100]⟩ wr HSROW.out (by omega)).mono ?_
        rintro e W6 ⟨f, _, rfl, hfr, hb6⟩
        have HFR := Lib.hid hfr
        have HSROW := Lib.hid (HSROW.out.below hb6)
        have HB := Lib.hid (chain HBW.out hb6)
        have HM6 := Lib.hid (HM.out.below (chain HB2.out hb6))
        have htx : TxRow W6 (some ⟨f, 0, none⟩) (sh T k) := by
          rcases hfr with h | ⟨b, o, h1, h2, h3⟩
          · omega
          · refine .inr ⟨b, o, h1, h2, fun j x hx => ?_⟩
            have hj : j < k := by
              rcases Nat.lt_or_ge j k with h | h
              · exact h
              · rw [List.getElem?_eq_none (by rw [htl]; exact h)] at hx; cases hx
            rw [sh_at hj] at hx
            simp only [Option.some.injEq] at hx
            rw [h3 j (by omega), ← hx]
            unfold RoomStr.ext
            rw [if_pos hj]
        have hpc := HP.out W6 (some ⟨f, 0, none⟩) (k + 80) HM6.out (HT.out.below HB.out) htx (by omega)
        rw [htl] at hpc
        have HPC := Lib.hid hpc
        have j1 : (k : Int) ≤ ((k + 80 : Nat) : Int) := by omega
        have j2 : (0 : Int) ≤ k := by omega
        have j3 : (k : Int) ≤ (k : Int) + 80 := by omega
        clear hfr hb6 htx hpc HP
        go_wp2_with fail
        refine HPC.out.mono ?_
        rintro e W7 ⟨v, rfl, hr7, hb7⟩
        obtain ⟨a7, c7, rfl, _, hrow7⟩ := NRow.row hr7
        have HFR := Lib.hid (HFR.out.below hb7)
        have HSROW := Lib.hid (HSROW.out.below hb7)
        have HB := Lib.hid (chain HB.out hb7)
        have HM7 := Lib.hid (HM6.out.below hb7)
        have HR7 := Lib.hid hrow7
        clear hr7 hb7 hrow7 HPC
        go_wp2_with fail
        refine (HE.out W7 HM7.out (HT.out.below HB.out)).mono ?_
        rintro e W8 ⟨v, rfl, hr8, hb8⟩
        obtain ⟨a8, c8, rfl, _, hrow8⟩ := NRow.row hr8
        have HFR := Lib.hid (HFR.out.below hb8)
        have HSROW := Lib.hid (HSROW.out.below hb8)
        have HB := Lib.hid (chain HB.out hb8)
        have HSM := Lib.hid (SameInt.Same_calls a7 a8 x.length c7 c8 _ W8 (HR7.out.below hb8) hrow8 (by omega))
        have es : (st == st) = true := by simp
        have ew : (why == why) = true := by simp
        clear hr8 hb8 hrow8
        go_wp2_with fail
        refine HSM.out.mono ?_
        rintro e W9 ⟨rfl, hb9⟩
        have HFR := Lib.hid (HFR.out.below hb9)
        have HSROW := Lib.hid (HSROW.out.below hb9)
        have HB := Lib.hid (chain HB.out hb9)
        clear hb9
        go_wp2_with fail
        refine (RoomStr.Intact_calls f _ k k (fun j => few (T j) 100) ⟨#[98, 101, 104, 105, 110, 100]⟩ W9 HFR.out HSROW.out (by omega)).mono ?_
        rintro e W10 ⟨rfl, hb10⟩
        have HB := Lib.hid (chain HB.out hb10)
        clear hb10
        go_wp2_with fail
        refine (known_calls W10 (HT.out.below HB.out)).mono ?_
        rintro e Wz ⟨rfl, hbz⟩
        have HB := Lib.hid (chain HB.out hbz)
        clear hbz
        go_wp2_with fail
        go_ret
        exact ⟨rfl, HB.out⟩
  · have h20' : ¬ ((20 : Int) < len) := by omega
    obtain ⟨m, hm⟩ : ∃ m : Nat, m = len := ⟨_, rfl⟩
    subst hm
    have hml : m ≤ m := Nat.le_refl _
    have hm20 : m ≤ 20 := by omega
    have hmk := makeS m (by omega)
    obtain ⟨W3, hW3⟩ : ∃ Xz, W2.alloc (.cells (madeCells #[.string ByteArray.empty] m) 9) = Xz := ⟨_, rfl⟩
    obtain ⟨sb, hsb⟩ : ∃ xz, W2.heap.size = xz := ⟨_, rfl⟩
    have hb3 : Below W2.heap.size W2 W3 := by rw [← hW3]; exact (Below.refl _ _).alloc (Nat.le_refl _) _
    have HS := Lib.hid (by rw [← hW3, ← hsb]; exact alloc_new rfl : W3.heap[sb]? = some (.cells (madeCells #[.string ByteArray.empty] m) 9 (0, 0)))
    have EW3 := Lib.hid hW3
    have Esb := Lib.hid hsb
    clear hW3 hsb
    have HSR := Lib.hid (show SR W3 sb m (fun j => if j < 0 then few (T j) 100 else ByteArray.empty) from ⟨_, HS.out, by rw [size_madeCells]; omega, fun k hk => by show _ = some (Value.string (if k < 0 then few (T k) 100 else ByteArray.empty)); rw [if_neg (by omega)]; exact made_s m k hk⟩)
    have HTR := Lib.hid (HTR.out.below hb3)
    have HM3 := Lib.hid (HM.out.below hb3)
    have HB3 := Lib.hid (chain HB.out hb3)
    have hlo : W2.heap.size ≤ sb := by rw [← Esb.out]; exact Nat.le_refl _
    have hlo0 : w.heap.size ≤ sb := by have := HB.out.size; omega
    clear hb3
    go_upto_region 7 with fail
    rw [EW3.out, Esb.out]
    clear hmk
    go_wp2_with fail
    go_loopg [11, 12] m (fun g s11 s12 wr => ∃ k : Nat, k ≤ m ∧ g = m - k ∧ s11 = .string (glue (sh T k)) ∧ s12 = .int .i64 k ∧ SR wr sb m (fun j => if j < k then few (T j) 100 else ByteArray.empty) ∧ Below w.heap.size w wr ∧ Below W2.heap.size W2 wr)
    case atStart => exact ⟨0, Nat.zero_le _, by omega, rfl, rfl, HSR.out, HB3.out, by rw [← EW3.out]; exact (Below.refl _ _).alloc (Nat.le_refl _) _⟩
    case round =>
      obtain ⟨k, hk, hg, rfl, rfl, hsr, hbw, hb2⟩ := hrel
      have HG2 := Lib.hid hg
      have HSR := Lib.hid hsr
      have HBW := Lib.hid hbw
      have HB2 := Lib.hid hb2
      clear hg hsr hbw
      by_cases hlt : k < m
      · obtain ⟨b, o, rfl, hbl, hc⟩ := (HTR0.out.below hb2).at (k := k) (by omega)
        have c0 := hc k (by omega)
        have s0 := HSR.out.cell hlt
        have sf := HSR.out.free
        have sz := HSR.out.lt
        have i1 : (k : Int) < m := by omega
        have i2 : (0 : Int) ≤ k := by omega
        have hfz := few_size (T k) 100
        have hzt := HZ.out k (by omega)
        have hgz := glue_size (sh T k)
        have hst := sh_tot T k
        have e2 : IntKind.i64.wrap ((k : Int) + 1) = ((k + 1 : Nat) : Int) := by rw [i64w _ (by omega) (by omega)]; omega
        have HFW := Lib.hid (few_calls (T k) 100 wr (by decide))
        obtain ⟨fx, hfx⟩ : ∃ z, few (T k) 100 = z := ⟨_, rfl⟩
        obtain ⟨ga, hga⟩ : ∃ z, glue (sh T k) = z := ⟨_, rfl⟩
        rw [hfx] at hfz HFW
        rw [hga] at hgz ⊢
        obtain ⟨tk, htk⟩ : ∃ z, T k = z := ⟨_, rfl⟩
        rw [htk] at c0 HFW
        have HGS := Lib.hid (show glue (sh T (k + 1)) = ga ++ fx from by rw [sh_succ, glue_succ, hga, hfx])
        have hadd : ∀ w, (Op.stringOp .add ga fx).run Tryd.prog w = .ok (.string (ga ++ fx)) w := fun w => run_string_add_sum w ga fx (by omega)
        obtain ⟨W5, hW5⟩ : ∃ z, wr.setCell ⟨sb, k, none⟩ (.string fx) = z := ⟨_, rfl⟩
        have HSR5 := Lib.hid (show SR W5 sb m (fun j => if j < k + 1 then few (T j) 100 else ByteArray.empty) from hW5 ▸ (HSR.out.set hlt fx).ext (fun j hj => by
          unfold upt
          by_cases e : j = k
          · rw [if_pos e, if_pos (by omega), e, hfx]
          · rw [if_neg e]
            show (if j < k then _ else _) = _
            by_cases e2 : j < k
            · rw [if_pos e2, if_pos (by omega)]
            · rw [if_neg e2, if_neg (by omega)]))
        have HB5 := Lib.hid (show Below w.heap.size w W5 from hW5 ▸ HBW.out.setCell hlo0 _)
        have HB25 := Lib.hid (show Below W2.heap.size W2 W5 from hW5 ▸ HB2.out.setCell hlo _)
        have u0 := HSR5.out.cell hlt
        rw [if_pos (Nat.lt_succ_self k), hfx] at u0
        have uz := HSR5.out.lt
        have EW5 := Lib.hid hW5
        clear hc hfx hga htk hW5 hb2
        go_wp2_with fail
        refine HFW.out.mono ?_
        rintro e wz ⟨rfl, rfl⟩
        go_upto_region 12 with fail
        rw [EW5.out]
        go_wp2_with fail
        go_roundg (m - (k + 1))
        case measure => have := HG2.out; omega
        case rel => exact ⟨k + 1, by omega, rfl, by rw [HGS.out], by go_num, HSR5.out, HB5.out, HB25.out⟩
      · have hkm : k = m := by omega
        subst hkm
        have hi : ¬ ((k : Int) < k) := by omega
        have hsrow : SameStr.Row wr (some ⟨sb, 0, none⟩) k (fun j => few (T j) 100) := by
          obtain ⟨cur, h1, h2, h3⟩ := HSR.out
          refine .inr ⟨sb, 0, rfl, lt_of_heap h1, fun i hi => ?_⟩
          rw [cell_at h1, Nat.zero_add, h3 i hi]
          show some (Value.string (if i < k then few (T i) 100 else ByteArray.empty)) = _
          rw [if_pos hi]
        have HSROW := Lib.hid hsrow
        have htl := sh_len T k
        have htt := sh_tot T k
        obtain ⟨x, st, why, hxl, hp, he⟩ := both D mb n (sh T k) (by omega) (by omega)
        have HP := Lib.hid hp
        have HE := Lib.hid he
        clear hb2 hsrow hp he
        go_wp2_with fail
        refine (RoomStr.Roomy_calls _ k k (fun j => few (T j) 100) ⟨#[98, 101, 104, 105, 110, 100]⟩ wr HSROW.out (by omega)).mono ?_
        rintro e W6 ⟨f, _, rfl, hfr, hb6⟩
        have HFR := Lib.hid hfr
        have HSROW := Lib.hid (HSROW.out.below hb6)
        have HB := Lib.hid (chain HBW.out hb6)
        have HM6 := Lib.hid (HM.out.below (chain HB2.out hb6))
        have htx : TxRow W6 (some ⟨f, 0, none⟩) (sh T k) := by
          rcases hfr with h | ⟨b, o, h1, h2, h3⟩
          · omega
          · refine .inr ⟨b, o, h1, h2, fun j x hx => ?_⟩
            have hj : j < k := by
              rcases Nat.lt_or_ge j k with h | h
              · exact h
              · rw [List.getElem?_eq_none (by rw [htl]; exact h)] at hx; cases hx
            rw [sh_at hj] at hx
            simp only [Option.some.injEq] at hx
            rw [h3 j (by omega), ← hx]
            unfold RoomStr.ext
            rw [if_pos hj]
        have hpc := HP.out W6 (some ⟨f, 0, none⟩) (k + 80) HM6.out (HT.out.below HB.out) htx (by omega)
        rw [htl] at hpc
        have HPC := Lib.hid hpc
        have j1 : (k : Int) ≤ ((k + 80 : Nat) : Int) := by omega
        have j2 : (0 : Int) ≤ k := by omega
        have j3 : (k : Int) ≤ (k : Int) + 80 := by omega
        clear hfr hb6 htx hpc HP
        go_wp2_with fail
        refine HPC.out.mono ?_
        rintro e W7 ⟨v, rfl, hr7, hb7⟩
        obtain ⟨a7, c7, rfl, _, hrow7⟩ := NRow.row hr7
        have HFR := Lib.hid (HFR.out.below hb7)
        have HSROW := Lib.hid (HSROW.out.below hb7)
        have HB := Lib.hid (chain HB.out hb7)
        have HM7 := Lib.hid (HM6.out.below hb7)
        have HR7 := Lib.hid hrow7
        clear hr7 hb7 hrow7 HPC
        go_wp2_with fail
        refine (HE.out W7 HM7.out (HT.out.below HB.out)).mono ?_
        rintro e W8 ⟨v, rfl, hr8, hb8⟩
        obtain ⟨a8, c8, rfl, _, hrow8⟩ := NRow.row hr8
        have HFR := Lib.hid (HFR.out.below hb8)
        have HSROW := Lib.hid (HSROW.out.below hb8)
        have HB := Lib.hid (chain HB.out hb8)
        have HSM := Lib.hid (SameInt.Same_calls a7 a8 x.length c7 c8 _ W8 (HR7.out.below hb8) hrow8 (by omega))
        have es : (st == st) = true := by simp
        have ew : (why == why) = true := by simp
        clear hr8 hb8 hrow8
        go_wp2_with fail
        refine HSM.out.mono ?_
        rintro e W9 ⟨rfl, hb9⟩
        have HFR := Lib.hid (HFR.out.below hb9)
        have HSROW := Lib.hid (HSROW.out.below hb9)
        have HB := Lib.hid (chain HB.out hb9)
        clear hb9
        go_wp2_with fail
        refine (RoomStr.Intact_calls f _ k k (fun j => few (T j) 100) ⟨#[98, 101, 104, 105, 110, 100]⟩ W9 HFR.out HSROW.out (by omega)).mono ?_
        rintro e W10 ⟨rfl, hb10⟩
        have HB := Lib.hid (chain HB.out hb10)
        clear hb10
        go_wp2_with fail
        refine (known_calls W10 (HT.out.below HB.out)).mono ?_
        rintro e Wz ⟨rfl, hbz⟩
        have HB := Lib.hid (chain HB.out hbz)
        clear hbz
        go_wp2_with fail
        go_ret
        exact ⟨rfl, HB.out⟩
end Go.Proofs.YtkjkgpdfhmoenaaDoor.encodeParts
