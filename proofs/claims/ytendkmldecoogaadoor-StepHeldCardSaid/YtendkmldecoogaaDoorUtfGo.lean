/-
  (*strings.Builder).copyCheck, WriteRune, walked (the library's contract can't be laid where the loader refuses copyCheck's panic). utf.beginning, utf.Tail, utf.Replace.
-/
import Derived.Test.YtendkmldecoogaaDoorKit
import Derived.Test.YtendkmldecoogaaDoorShelfA
import Derived.Lib.FrozenHead
import Derived.Lib.OthersKept
import Derived.Lib.Builder
import Derived.Laws.Externs
import Derived.Test.YtendkmldecoogaaDoorFullRune
import Derived.Test.YtendkmldecoogaaDoorIt
namespace Go.Proofs.YtendkmldecoogaaDoor.Bld
open Go Go.RowKit Go.Proofs.YtendkmldecoogaaDoor.Kit
attribute [local irreducible] wpQuiet

theorem sizeB : (Tryd.prog.info? 178).map (·.size) = some 2 := by kernel_rfl
theorem liesB : liesAt Tryd.prog Tryd.prog.depth 178 (2 / Tryd.prog.cellsOf 178) 0 178 1 = true := by kernel_rfl

set_option maxHeartbeats 1000000 in
set_option maxRecDepth 100000 in
theorem check_used (b : Nat) (w : World) (h0 : w.cell? ⟨b, 0, none⟩ = some (.pointer (some ⟨b, 0, none⟩))) (_hz : b < w.heap.size) :
    Calls Tryd.prog 140 #[.pointer (some ⟨b, 0, none⟩)] w fun e w' => e = .returned (.tuple #[]) ∧ w' = w := by
  obtain ⟨j, hj, _⟩ := Option.map_eq_some_iff.1 sizeB
  go_enter Tryd.func140, Tryd.ntmps140
  go_wp2
  rw [Lib.run_neq_ptr_same w _ Tryd.underlying176 hj]
  go_wp2
  go_end0
  exact ⟨rfl, rfl⟩

set_option maxHeartbeats 1000000 in
set_option maxRecDepth 100000 in
theorem check_fresh (b : Nat) (w : World) (h0 : w.cell? ⟨b, 0, none⟩ = some (.pointer none)) (hsh : w.shape? b = some (178, 2)) (hfz : w.frozen? ⟨b, 0, none⟩ = false) (_hz : b < w.heap.size) :
    Calls Tryd.prog 140 #[.pointer (some ⟨b, 0, none⟩)] w fun e w' => e = .returned (.tuple #[]) ∧ w' = w.setCell ⟨b, 0, none⟩ (.pointer (some ⟨b, 0, none⟩)) := by
  obtain ⟨j, hj, hjs⟩ := Option.map_eq_some_iff.1 sizeB
  go_enter Tryd.func140, Tryd.ntmps140
  go_wp2
  rw [Lib.run_to_unsafe w ⟨b, 0, none⟩ Tryd.underlying176 Tryd.underlying226 hj (by rw [hjs]; decide) hsh (Nat.zero_lt_succ 1)]
  simp only [Result.andThen]
  rw [Oper.upon_value]
  go_wp2
  rw [run_callFunc_extern Tryd.func151 (by kernel_rfl) (by kernel_rfl) (by kernel_rfl) (e := Extern.AbiNoEscape.same) (by kernel_rfl)]
  rw [Lib.run_noEscape]
  simp only [Result.andThen]
  rw [Oper.upon_value]
  go_wp2
  rw [Lib.run_from_unsafe w ⟨b, 0, none⟩ Tryd.underlying226 Tryd.underlying176 hj hsh liesB]
  simp only [Result.andThen]
  rw [Oper.upon_value]
  go_wp2
  go_end0
  exact ⟨rfl, rfl⟩

/-- A builder in block b, made since B, that holds these bytes. -/
abbrev IsB (B b : Nat) (bs : List Value) (w : World) : Prop := Lib.IsBuilderF 178 5 B b bs w
abbrev AtB (B b : Nat) (bs : List Value) (w : World) : Prop := Lib.BuilderAtF 178 5 B b (.pointer (some ⟨b, 0, none⟩)) bs w

set_option maxRecDepth 100000 in
theorem check_calls (B b : Nat) (bs : List Value) (w : World) (h : IsB B b bs w) :
    Calls Tryd.prog 140 #[.pointer (some ⟨b, 0, none⟩)] w fun e w' => e = .returned (.tuple #[]) ∧ AtB B b bs w' ∧ Below B w w' ∧ Lib.OthersKept 5 (some b) w w' := by
  rcases h with h | h
  · refine (check_fresh b w h.cell0 h.shape h.frozen0 (lt_of_cell h.cell0)).mono ?_
    rintro e w' ⟨rfl, rfl⟩
    exact ⟨rfl, h.used _, (Below.refl B w).setCell (p := ⟨b, 0, none⟩) h.1 _, (Lib.OthersKept.refl _ _ w).setCell ⟨b, 0, none⟩ rfl _⟩
  · refine (check_used b w h.cell0 (lt_of_cell h.cell0)).mono ?_
    rintro e w' ⟨rfl, rfl⟩
    exact ⟨rfl, h, Below.refl B _, Lib.OthersKept.refl _ _ _⟩

set_option maxHeartbeats 2000000 in
set_option maxRecDepth 100000 in
theorem WriteRune_calls (B b : Nat) (bs : List Value) (r : Int) (hr0 : -2147483648 ≤ r) (hr1 : r ≤ 2147483647) (w : World) (h : IsB B b bs w) (hlen : bs.length + 4 ≤ 140737488355328) (hBw : B ≤ w.heap.size) :
    Calls Tryd.prog 113 #[.pointer (some ⟨b, 0, none⟩), .int .i32 r] w fun e w' => (∃ z, e = .returned z) ∧ AtB B b (bs ++ Lib.runeCells r) w' ∧ Below B w w' ∧ Lib.OthersKept 5 (some b) w w' := by
  have hk4 := Lib.runeCells_le r
  go_enter Tryd.func113, Tryd.ntmps113
  go_wp2_with fail
  refine (check_calls B b bs _ h).mono ?_
  rintro e w1 ⟨rfl, h1, hb1, hk1⟩
  obtain ⟨hB, v, hbk, hown, hne⟩ := h1
  obtain ⟨ao, cap, rfl⟩ : ∃ ao cap, v = .slice ao bs.length cap := by
    rcases hown.2 with ⟨hv, h0⟩ | ⟨g, cap, cur, fz, hv, _⟩
    · exact ⟨none, 0, by rw [hv, h0]⟩
    · exact ⟨_, _, hv⟩
  have HBK := Lib.hid hbk
  have HOWN := Lib.hid hown
  have HK1 := Lib.hid hk1
  have HB1 := Lib.hid hb1
  have HNE := Lib.hid hne
  have hz1 := hb1.size
  clear hown hk1 hb1 hne
  have c0 := cell_at HBK.out 0
  have c1 := cell_at HBK.out 1
  have cz := lt_of_heap HBK.out
  simp only [List.getElem?_toArray, List.getElem?_cons_zero, List.getElem?_cons_succ] at c0 c1
  clear hbk
  go_wp2_with fail
  refine (ShelfA.utf8_AppendRune_row B _ bs.length bs r hr0 hr1 _ HOWN.out hlen (by omega)).mono ?_
  rintro e w2 ⟨v', rfl, hown', o, hgrow⟩
  have hlt := lt_of_heap HBK.out
  have hb2 : w2.heap[b]? = some (.cells #[.pointer (some ⟨b, 0, none⟩), .slice ao bs.length cap] 178 (0, 0)) := by
    rw [hgrow.block b (by simp; omega) (fun e => HNE.out e.symm), alloc_old hlt]
    exact HBK.out
  have HBK2 := Lib.hid hb2
  clear c0 c1 cz
  obtain ⟨g, cap', rfl⟩ : ∃ g cap', v' = .slice (some ⟨g, 0, none⟩) (bs.length + (Lib.runeCells r).length) cap' := by
    rcases hown'.2 with ⟨_, h0⟩ | ⟨g, cap', cur, fz, hv, _⟩
    · omega
    · exact ⟨g, cap', hv⟩
  have HG := Lib.hid hgrow
  have HOWN' := Lib.hid hown'
  clear hgrow hown' hb2
  have d0 := cell_at HBK2.out 0
  have d1 := cell_at HBK2.out 1
  have df := free_all HBK2.out
  have dz := lt_of_heap HBK2.out
  simp only [List.getElem?_toArray, List.getElem?_cons_zero, List.getElem?_cons_succ] at d0 d1
  obtain ⟨m, hm⟩ : ∃ m, (Lib.runeCells r).length = m := ⟨_, rfl⟩
  rw [hm] at hk4 HOWN' ⊢
  go_wp2_with fail
  go_ret2
  have hgrow := HG.out
  refine ⟨⟨_, rfl⟩, ?_, ?_, ((HK1.out.alloc _).grown hgrow (Lib.ownsRowF_kind (HOWN.out.alloc _))).setCell ⟨b, 1, none⟩ rfl _⟩
  · rw [← hm]
    exact Lib.BuilderAtF.put (T := 178) (e := 5) hB HBK2.out (bs' := bs ++ Lib.runeCells r) (by rw [List.length_append, hm]; exact HOWN'.out) (by decide)
  · exact ((HB1.out.alloc (by have := HB1.out.size; omega) _).grown hgrow (by have := HB1.out.size; simp; omega) (fun k hk => (HOWN.out.lt k hk).1)).setCell (p := ⟨b, 1, none⟩) hB _
end Go.Proofs.YtendkmldecoogaaDoor.Bld
namespace Go.Proofs.YtendkmldecoogaaDoor.UtfGo
open Go Go.RowKit Go.Lib Go.Proofs.YtendkmldecoogaaDoor.Kit Go.Proofs.YtendkmldecoogaaDoor.Utf Go.Proofs.YtendkmldecoogaaDoor.It Go.Proofs.YtendkmldecoogaaDoor.ItGo Go.Proofs.YtendkmldecoogaaDoor.FullRune Go.Proofs.YtendkmldecoogaaDoor.UtfLaw Go.Proofs.YtendkmldecoogaaDoor.Bld
attribute [local irreducible] wpQuiet

theorem full_beg (s : ByteArray) (h : s.size ≠ 0) : decide (FullP s.size (firstT (s.get! 0).toNat % 8) (accLo (firstT (s.get! 0).toNat / 16)) (accHi (firstT (s.get! 0).toNat / 16)) (s.get! 1).toNat (s.get! 2).toNat) = !decide (BegP s.data.toList) := by
  have hl := size_list s
  have g0 := get_by s 0 (by omega)
  have e : FullP s.size (firstT (s.get! 0).toNat % 8) (accLo (firstT (s.get! 0).toNat / 16)) (accHi (firstT (s.get! 0).toNat / 16)) (s.get! 1).toNat (s.get! 2).toNat ↔ ¬ BegP s.data.toList := by
    unfold FullP
    rw [full_num _ _ _ _ (s.get! 0).toNat_lt]
    unfold BegP
    rw [hl, ← g0]
    have o1 : 1 < s.size → (ok s.data.toList 1 = true ↔ second (s.get! 0).toNat (s.get! 1).toNat = true) := fun h => by
      unfold ok
      rw [if_pos rfl, ← g0, ← get_by s 1 h]
    have o2 : 2 < s.size → (ok s.data.toList 2 = true ↔ 128 ≤ (s.get! 2).toNat ∧ (s.get! 2).toNat ≤ 191) := fun h => by
      unfold ok
      rw [if_neg (by decide), ← get_by s 2 h, decide_eq_true_eq]
    constructor
    · rintro ⟨_, h1⟩ ⟨_, h2, h3, h4⟩
      exact h1 ⟨h2, fun h => (o1 h).1 (h3 h), fun h => (o2 h).1 (h4 h)⟩
    · intro h1
      exact ⟨h, fun ⟨h2, h3, h4⟩ => h1 ⟨by omega, h2, fun h => (o1 h).2 (h3 h), fun h => (o2 h).2 (h4 h)⟩⟩
  by_cases hb : BegP s.data.toList
  · simp [hb, e]
  · simp [hb, e]

theorem empty_size {s : ByteArray} : s = ⟨#[]⟩ ↔ s.size = 0 := by
  constructor
  · rintro rfl; rfl
  · intro h
    have h1 := size_list s
    rw [h] at h1
    have h2 := List.length_eq_zero_iff.1 h1
    cases s with
    | mk d =>
      have : d = #[] := by simpa using h2
      rw [this]

theorem toList_nil {s : ByteArray} : s.toList = [] ↔ s.size = 0 := by
  rw [ByteArray.toList_eq, ← size_list s, List.length_eq_zero_iff]

set_option maxRecDepth 100000 in
theorem beginning_calls (s : ByteArray) (w : World) (hT : Tabs w) :
    Calls Tryd.prog 114 #[.string s] w fun e w' => e = .returned (.bool (decide (BegP s.data.toList))) ∧ Below w.heap.size w w' := by
  by_cases h0 : s.size = 0
  · have hs := empty_size.2 h0
    subst hs
    have hb : decide (BegP (ByteArray.mk #[]).data.toList) = false := decide_eq_false (fun h => by simp [BegP] at h)
    rw [hb]
    clear hb
    go_enter Tryd.func114, Tryd.ntmps114
    go_wp2
    go_ret
    exact ⟨rfl, Below.refl _ _⟩
  · have hs : s.toList.isEmpty = false := by rw [List.isEmpty_eq_false_iff]; exact fun h => h0 (toList_nil.1 h)
    have HF := Lib.hid (Full_calls s w hT)
    rw [full_beg s h0] at HF
    obtain ⟨b, hb⟩ : ∃ b, decide (BegP s.data.toList) = b := ⟨_, rfl⟩
    rw [hb] at HF ⊢
    clear hb
    go_enter Tryd.func114, Tryd.ntmps114
    go_wp2_with fail
    refine HF.out.mono ?_
    rintro e w1 ⟨rfl, hb1⟩
    have HB := Lib.hid hb1
    clear hb1
    cases b with
    | true =>
      go_wp2_with fail
      go_ret
      exact ⟨rfl, HB.out⟩
    | false =>
      go_wp2_with fail
      go_ret
      exact ⟨rfl, HB.out⟩

set_option maxHeartbeats 1000000 in
set_option maxRecDepth 100000 in
theorem Tail_calls (s : ByteArray) (w : World) (hT : Tabs w) (hs : s.size ≤ 140737488355328) :
    Calls Tryd.prog 81 #[.string s] w fun e w' => e = .returned (.int .i64 (tailN s.data.toList)) ∧ Below w.heap.size w w' := by
  have HT := Lib.hid hT
  have hl := size_list s
  obtain ⟨m, hm⟩ : ∃ m : Nat, min (3 : Int) s.size = m := ⟨(min (3 : Int) s.size).toNat, by omega⟩
  have hm3 : m ≤ 3 ∧ m ≤ s.size ∧ (m = 3 ∨ m = s.size) := by omega
  go_enter Tryd.func81, Tryd.ntmps81
  go_wp2_with fail
  go_loopg [3] m (fun g s3 wr => ∃ n : Nat, n ≤ m ∧ g = n ∧ s3 = .int .i64 n ∧ Below w.heap.size w wr ∧ ∀ j, n < j → j ≤ m → ¬ BegP (s.data.toList.drop (s.size - j)))
  case atStart => exact ⟨m, Nat.le_refl _, rfl, rfl, Below.refl _ _, fun j h1 h2 => by omega⟩
  case round =>
    obtain ⟨n, hn, rfl, rfl, hb, hno⟩ := hrel
    have HB := Lib.hid hb
    have HNO := Lib.hid hno
    clear hb hno
    by_cases h0 : 0 < gk
    · have h0' : (0 : Int) < gk := by omega
      have hw1 : IntKind.i64.wrap ((s.size : Int) - gk) = (s.size : Int) - gk := i64w _ (by omega) (by omega)
      have hw2 : IntKind.i64.wrap ((gk : Int) - 1) = ((gk - 1 : Nat) : Int) := by rw [i64w _ (by omega) (by omega)]; omega
      have ht : ((s.size : Int) - gk).toNat = s.size - gk := by omega
      have h1 : (0 : Int) ≤ (s.size : Int) - gk := by omega
      have h2 : (s.size : Int) - gk ≤ s.size := by omega
      have HG := Lib.hid (beginning_calls (s.extract (s.size - gk) s.size) wr (HT.out.below HB.out))
      rw [drop_list s _ _ rfl] at HG
      go_wp2_with fail
      refine HG.out.mono ?_
      rintro e w1 ⟨rfl, hb1⟩
      have HB := Lib.hid (chain HB.out hb1)
      clear hb1
      by_cases hbg : BegP (s.data.toList.drop (s.size - gk))
      · have hd : decide (BegP (s.data.toList.drop (s.size - gk))) = true := decide_eq_true hbg
        have HTS := Lib.hid (tail_some (l := s.data.toList) h0 (by omega) (by rw [hl]; exact hbg))
        clear hbg
        go_wp2_with fail
        go_ret
        exact ⟨ret_int (by rw [HTS.out]), HB.out⟩
      · have hd : decide (BegP (s.data.toList.drop (s.size - gk))) = false := decide_eq_false hbg
        have HNB := Lib.hid hbg
        clear hbg
        go_wp2_with fail
        go_roundg (gk - 1)
        case measure => omega
        case rel => exact ⟨gk - 1, by omega, rfl, by first | rfl | (rw [← hw2]; rfl), HB.out, fun j h1 h2 => (show j = gk ∨ gk < j by omega).elim (fun h => by rw [h]; exact HNB.out) (fun h => HNO.out j h h2)⟩
    · have hz : gk = 0 := by omega
      subst hz
      have HTN := Lib.hid (tail_none (l := s.data.toList) (fun j h1 h2 h3 => by rw [hl] at h3 ⊢; exact HNO.out j h1 (by omega)))
      go_wp2_with fail
      go_ret
      exact ⟨ret_int (by rw [HTN.out]; rfl), HB.out⟩

theorem take_list (s : ByteArray) (n : Nat) : (s.extract 0 n).data.toList = s.data.toList.take n := by
  rw [ByteArray.data_extract, Array.toList_extract, List.extract_eq_take_drop]
  simp
theorem cells_app (a b : List UInt8) : byteCells (a ++ b) = byteCells a ++ byteCells b := by simp [byteCells]

theorem IsB.below {B b : Nat} {bs : List Value} {w w' : World} (h : IsB B b bs w) (hb : Below w.heap.size w w') : IsB B b bs w' := by
  have k : ∀ p, Lib.BuilderAtF 178 5 B b p bs w → Lib.BuilderAtF 178 5 B b p bs w' := by
    rintro p ⟨hB, v, hbk, ⟨hn, hown⟩, hne⟩
    refine ⟨hB, v, (hb.block _ (lt_of_heap hbk)).trans hbk, ⟨hn, ?_⟩, hne⟩
    rcases hown with h | ⟨g, cap, cur, fz, h1, h2, h3, rest⟩
    · exact .inl h
    · exact .inr ⟨g, cap, cur, fz, h1, h2, (hb.block g (lt_of_heap h3)).trans h3, rest⟩
  exact h.elim (fun h => .inl (k _ h)) (fun h => .inr (k _ h))


set_option maxHeartbeats 4000000 in
set_option maxRecDepth 100000 in
theorem Replace_calls (s : ByteArray) (w : World) (hT : Tabs w) (hs : s.size ≤ 35184372088832) :
    Calls Tryd.prog 80 #[.string s] w fun e w' => e = .returned (.string ⟨(rep s.data.toList).toArray⟩) ∧ Below w.heap.size w w' := by
  have HT := Lib.hid hT
  have hl := size_list s
  obtain ⟨W1, hW1⟩ : ∃ Xz, w.alloc (.cells #[.pointer none, .slice none 0 0] 178) = Xz := ⟨_, rfl⟩
  obtain ⟨bb, hbb⟩ : ∃ xz, w.heap.size = xz := ⟨_, rfl⟩
  have hb1 : Below w.heap.size w W1 := by rw [← hW1]; exact (Below.refl _ _).alloc (Nat.le_refl _) _
  have HBB := Lib.hid (by rw [← hW1, ← hbb]; exact alloc_new rfl : W1.heap[bb]? = some (.cells #[.pointer none, .slice none 0 0] 178 (0, 0)))
  have EW1 := Lib.hid hW1
  have Ebb := Lib.hid hbb
  clear hW1 hbb
  have HI := Lib.hid (show IsB bb bb [] W1 from .inl ⟨Nat.le_refl _, .slice none 0 0, HBB.out, by exact ⟨rfl, .inl ⟨rfl, rfl⟩⟩, by simp [Value.ownBlock]⟩)
  have HB1 := Lib.hid (show Below bb w W1 from by rw [← Ebb.out]; exact hb1)
  have hBw : bb ≤ W1.heap.size := by rw [← Ebb.out]; exact hb1.size
  clear hb1
  go_enter Tryd.func80, Tryd.ntmps80
  go_wp2_with fail
  rw [EW1.out, Ebb.out]
  go_loopg [0] s.size (fun g s0 wr => ∃ (p : Nat) (t : ByteArray) (acc : List UInt8), p ≤ s.size ∧ g = s.size - p ∧ s0 = .string t ∧ t.data.toList = s.data.toList.drop p ∧ IsB bb bb (byteCells acc) wr ∧ acc ++ rep (s.data.toList.drop p) = rep s.data.toList ∧ acc.length ≤ 3 * p ∧ Below bb w wr ∧ bb ≤ wr.heap.size)
  case atStart => exact ⟨0, s, [], Nat.zero_le _, by omega, rfl, rfl, HI.out, rfl, Nat.zero_le _, HB1.out, hBw⟩
  case round =>
    obtain ⟨p, t, acc, hp, hg, rfl, ht, hi, hr, hac, hb, hbz⟩ := hrel
    have HG := Lib.hid hg
    have HTL := Lib.hid ht
    have HI := Lib.hid hi
    have HR := Lib.hid hr
    have HB := Lib.hid hb
    have htl := size_list t
    have htz : t.size = s.size - p := by rw [← htl, ht, List.length_drop, hl]
    clear hg ht hi hr hb
    have HTW := Lib.hid (show Tabs wr from HT.out.below (by rw [Ebb.out]; exact HB.out))
    by_cases h0 : t.size = 0
    · have he : t.toList.isEmpty = true := by rw [List.isEmpty_iff]; exact toList_nil.2 h0
      have hacc : acc = rep s.data.toList := by
        have h1 := HR.out
        have h2 : s.data.toList.drop p = [] := by rw [← HTL.out]; exact List.length_eq_zero_iff.1 (by rw [htl]; exact h0)
        rw [h2, rep_nil, List.append_nil] at h1
        exact h1
      have HAC := Lib.hid hacc
      clear hacc h0
      go_wp2_with fail
      refine (Shelf.Builder_String_any_k bb bb acc wr HI.out hbz).mono ?_
      rintro e w1 ⟨rfl, _, hb1, _⟩
      have HB := Lib.hid (HB.out.trans hb1)
      clear hb1
      go_wp2_with fail
      go_ret
      refine ⟨by rw [HAC.out]; rfl, by rw [Ebb.out]; exact HB.out⟩
    · have he : t.toList.isEmpty = false := by rw [List.isEmpty_eq_false_iff]; exact fun h => h0 (toList_nil.1 h)
      have hne : t.data.toList ≠ [] := fun h => h0 (by rw [← htl, h]; rfl)
      have HNE := Lib.hid hne
      have hrl := rune_le t.data.toList
      obtain ⟨x, hx⟩ : ∃ x, one 0 t.data.toList = x := ⟨_, rfl⟩
      have HX := Lib.hid hx
      have hxr : x.rune ≤ 1114111 := by rw [← hx]; exact hrl
      have hxb : 1 ≤ x.bytes ∧ x.bytes ≤ t.size := by rw [← hx, ← htl]; exact ⟨one_pos 0 _, one_le 0 hne⟩
      clear hx hrl
      go_wp2_with fail
      refine (first_calls t 0 wr (by omega) HTW.out).mono ?_
      rw [HX.out]
      rintro e W2 ⟨rfl, hb2⟩
      unfold encI
      have HI := Lib.hid (IsB.below HI.out hb2)
      have HB := Lib.hid (HB.out.trans (hb2.mono hbz))
      have hbz2 : bb ≤ W2.heap.size := Nat.le_trans hbz hb2.size
      clear hb2
      obtain ⟨W3, hW3⟩ : ∃ Xz, W2.alloc (.cells #[.int .i64 x.from', .int .i64 x.bytes, .int .i32 x.rune, .bool x.bad] 58) = Xz := ⟨_, rfl⟩
      obtain ⟨bx, hbx⟩ : ∃ xz, W2.heap.size = xz := ⟨_, rfl⟩
      have hb3 : Below W2.heap.size W2 W3 := by rw [← hW3]; exact (Below.refl _ _).alloc (Nat.le_refl _) _
      have HXB := Lib.hid (by rw [← hW3, ← hbx]; exact alloc_new rfl : W3.heap[bx]? = some (.cells #[.int .i64 x.from', .int .i64 x.bytes, .int .i32 x.rune, .bool x.bad] 58 (0, 0)))
      have EW3 := Lib.hid hW3
      have Ebx := Lib.hid hbx
      clear hW3 hbx
      have HI := Lib.hid (IsB.below HI.out hb3)
      have HB := Lib.hid (HB.out.trans (hb3.mono hbz2))
      have hbz3 : bb ≤ W3.heap.size := Nat.le_trans hbz2 hb3.size
      have hbx : bx ≠ bb := by
        intro e
        have h1 : bb < W3.heap.size ∧ W3.heap[bb]? ≠ some (.cells #[.int .i64 x.from', .int .i64 x.bytes, .int .i32 x.rune, .bool x.bad] 58 (0, 0)) := by
          rcases HI.out with ⟨_, v, hv, _⟩ | ⟨_, v, hv, _⟩
          · exact ⟨lt_of_heap hv, fun h => by rw [hv] at h; simp at h⟩
          · exact ⟨lt_of_heap hv, fun h => by rw [hv] at h; simp at h⟩
        rw [← e] at h1
        exact h1.2 HXB.out
      clear hb3
      have x0 := cell_at HXB.out 0
      have x1 := cell_at HXB.out 1
      have x2 := cell_at HXB.out 2
      have x3 := cell_at HXB.out 3
      have xz := lt_of_heap HXB.out
      simp only [List.getElem?_toArray, List.getElem?_cons_zero, List.getElem?_cons_succ] at x0 x1 x2 x3
      go_wp2_with fail
      rw [EW3.out, Ebx.out]
      have hal : (byteCells acc).length = acc.length := by simp [byteCells]
      refine (WriteRune_calls bb bb (byteCells acc) x.rune (by omega) (by omega) W3 HI.out (by rw [hal]; omega) hbz3).mono ?_
      rintro e W4 ⟨⟨z, rfl⟩, hi4, hb4, hk4⟩
      have HXB := Lib.hid (hk4 bx _ HXB.out (by simpa using hbx) (fun c fz h => by simp at h))
      have HI := Lib.hid hi4
      have HB := Lib.hid (HB.out.trans hb4)
      have hbz4 : bb ≤ W4.heap.size := Nat.le_trans hbz3 hb4.size
      clear hi4 hb4 hk4 x0 x1 x2 x3 xz hal
      have x0 := cell_at HXB.out 0
      have x1 := cell_at HXB.out 1
      have x2 := cell_at HXB.out 2
      have x3 := cell_at HXB.out 3
      have xz := lt_of_heap HXB.out
      simp only [List.getElem?_toArray, List.getElem?_cons_zero, List.getElem?_cons_succ] at x0 x1 x2 x3
      by_cases hbad : x.bad = true
      · have hw0 : width t.data.toList = 0 := by
          have h1 := HX.out
          rw [← h1] at hbad
          unfold It.one at hbad
          simpa using hbad
        have hx1 : x = ⟨0, 1, 65533, true⟩ := by rw [← HX.out]; exact one_bad hw0
        have hN := badN_le hne
        rw [htl] at hN
        have HW0 := Lib.hid hw0
        have HI2 := Lib.hid (show IsB bb bb (byteCells (acc ++ [239, 191, 189])) W4 from by
          rw [cells_app, ← bad_cells]
          have := HI.out
          rw [hx1] at this
          exact .inr this)
        have HRB := Lib.hid (rep_bad hw0 hne)
        have HLP := Lib.hid (fun n (h1 : 1 ≤ n) (h2 : n ≤ badN t.data.toList) => bad_loop h1 h2 hne)
        obtain ⟨N, hNN⟩ : ∃ N, badN t.data.toList = N := ⟨_, rfl⟩
        rw [hNN] at hN HRB HLP
        subst hx1
        clear hw0 hNN hbad hxr hxb hne
        go_wp2_with fail
        clear x0 x1 x2 x3 xz
        go_loopg [5] (N - 1) (fun g s5 wq => ∃ n : Nat, 1 ≤ n ∧ n ≤ N ∧ g = N - n ∧ s5 = .int .i64 n ∧ IsB bb bb (byteCells (acc ++ [239, 191, 189])) wq ∧ wq.heap[bx]? = some (.cells #[.int .i64 (0 : Nat), .int .i64 (1 : Nat), .int .i32 (65533 : Nat), .bool true] 58 (0, 0)) ∧ Below bb w wq ∧ bb ≤ wq.heap.size)
        case atStart => exact ⟨1, Nat.le_refl _, hN.1, rfl, rfl, HI2.out, HXB.out, HB.out, hbz4⟩
        case round =>
          obtain ⟨n, hn1, hnN, hg2, rfl, hi, hxb, hb, hbq⟩ := hrel
          have HG2' := Lib.hid hg2
          have HI := Lib.hid hi
          have HXB := Lib.hid hxb
          have HB := Lib.hid hb
          clear hg2 hi hxb hb
          have HTQ := Lib.hid (show Tabs wr from HT.out.below (by rw [Ebb.out]; exact HB.out))
          have x0 := cell_at HXB.out 0
          have x1 := cell_at HXB.out 1
          have x2 := cell_at HXB.out 2
          have x3 := cell_at HXB.out 3
          have xz := lt_of_heap HXB.out
          simp only [List.getElem?_toArray, List.getElem?_cons_zero, List.getElem?_cons_succ] at x0 x1 x2 x3
          by_cases hlt : n < t.size
          · have hlt' : (n : Int) < t.size := by omega
            have hle' : (n : Int) ≤ t.size := by omega
            have h0n : (0 : Int) ≤ n := by omega
            have HG1 := Lib.hid (beginning_calls (t.extract 0 n) wr HTQ.out)
            rw [take_list] at HG1
            go_wp2_with fail
            refine HG1.out.mono ?_
            rintro e W5 ⟨rfl, hb5⟩
            have HI := Lib.hid (IsB.below HI.out hb5)
            have HB := Lib.hid (HB.out.trans (hb5.mono hbq))
            have HTQ := Lib.hid (HTQ.out.below hb5)
            have hbq5 : bb ≤ W5.heap.size := Nat.le_trans hbq hb5.size
            have HXB := Lib.hid ((hb5.block _ (lt_of_heap HXB.out)).trans HXB.out)
            clear hb5 x0 x1 x2 x3 xz HG1
            by_cases hb1 : BegP (t.data.toList.take n)
            · have hd1 : decide (BegP (t.data.toList.take n)) = true := decide_eq_true hb1
              have hw1 : IntKind.i64.wrap ((n : Int) + 1) = ((n + 1 : Nat) : Int) := by rw [i64w _ (by omega) (by omega)]; omega
              have hle2 : ((n + 1 : Nat) : Int) ≤ t.size := by omega
              have h0n2 : (0 : Int) ≤ ((n + 1 : Nat) : Int) := by omega
              have HG2 := Lib.hid (beginning_calls (t.extract 0 (n + 1)) W5 HTQ.out)
              rw [take_list] at HG2
              have HB1 := Lib.hid hb1
              clear hb1
              go_wp2_with fail
              refine HG2.out.mono ?_
              rintro e W6 ⟨rfl, hb6⟩
              have HI := Lib.hid (IsB.below HI.out hb6)
              have HB := Lib.hid (HB.out.trans (hb6.mono hbq5))
              have hbq6 : bb ≤ W6.heap.size := Nat.le_trans hbq5 hb6.size
              have HXB := Lib.hid ((hb6.block _ (lt_of_heap HXB.out)).trans HXB.out)
              clear hb6
              by_cases hb2 : BegP (t.data.toList.take (n + 1))
              · have hd2 : decide (BegP (t.data.toList.take (n + 1))) = true := decide_eq_true hb2
                have hlN : n < N := (HLP.out n hn1 hnN).1 ⟨by rw [htl]; exact hlt, HB1.out, hb2⟩
                clear hb2
                go_wp2_with fail
                go_roundg (N - (n + 1))
                case measure => have := HG2'.out; omega
                case rel => exact ⟨n + 1, by omega, by omega, rfl, by go_num, HI.out, HXB.out, HB.out, hbq6⟩
              · have hd2 : decide (BegP (t.data.toList.take (n + 1))) = false := decide_eq_false hb2
                have hnn : n = N := by
                  rcases Nat.lt_or_ge n N with h | h
                  · exact absurd ((HLP.out n hn1 hnN).2 h).2.2 hb2
                  · omega
                clear hb2
                subst hnn
                go_wp2_with fail
                go_roundg (s.size - (p + n))
                case measure => have := HG.out; omega
                case rel =>
                  refine ⟨p + n, t.extract n t.size, acc ++ [239, 191, 189], by omega, rfl, by rw [htz], ?_, HI.out, ?_, ?_, HB.out, hbq6⟩
                  · rw [drop_list t _ _ rfl, HTL.out, List.drop_drop]
                  · have h1 := HR.out
                    rw [← HTL.out] at h1
                    rw [← h1, List.append_assoc, ← List.drop_drop, ← HTL.out]
                    congr 1
                    rw [HRB.out]
                  · rw [List.length_append]
                    simp; omega
            · have hd1 : decide (BegP (t.data.toList.take n)) = false := decide_eq_false hb1
              have hnn : n = N := by
                rcases Nat.lt_or_ge n N with h | h
                · exact absurd ((HLP.out n hn1 hnN).2 h).2.1 hb1
                · omega
              clear hb1
              subst hnn
              go_wp2_with fail
              go_roundg (s.size - (p + n))
              case measure => have := HG.out; omega
              case rel =>
                refine ⟨p + n, t.extract n t.size, acc ++ [239, 191, 189], by omega, rfl, by rw [htz], ?_, HI.out, ?_, ?_, HB.out, hbq5⟩
                · rw [drop_list t _ _ rfl, HTL.out, List.drop_drop]
                · have h1 := HR.out
                  rw [← HTL.out] at h1
                  rw [← h1, List.append_assoc, ← List.drop_drop, ← HTL.out]
                  congr 1
                  rw [HRB.out]
                · rw [List.length_append]
                  simp; omega
          · have hlt' : ¬ ((n : Int) < t.size) := by omega
            have hnn : n = N := by omega
            subst hnn
            have hle' : (n : Int) ≤ t.size := by omega
            go_wp2_with fail
            go_roundg (s.size - (p + n))
            case measure => have := HG.out; omega
            case rel =>
              refine ⟨p + n, t.extract n t.size, acc ++ [239, 191, 189], by omega, rfl, by rw [htz], ?_, HI.out, ?_, ?_, HB.out, hbq⟩
              · rw [drop_list t _ _ rfl, HTL.out, List.drop_drop]
              · have h1 := HR.out
                rw [← HTL.out] at h1
                rw [← h1, List.append_assoc, ← List.drop_drop, ← HTL.out]
                congr 1
                rw [HRB.out]
              · rw [List.length_append]
                simp; omega
      · have hbf : x.bad = false := by simpa using hbad
        have hw0 : width t.data.toList ≠ 0 := by
          have h1 := HX.out
          rw [← h1] at hbf
          unfold It.one at hbf
          simpa using hbf
        have hxe : x.bytes = width t.data.toList ∧ x.rune = rune t.data.toList (width t.data.toList) := by
          rw [← HX.out]
          unfold It.one dec
          rw [if_neg hw0]
          exact ⟨rfl, rfl⟩
        have HI := Lib.hid (show IsB bb bb (byteCells (acc ++ t.data.toList.take x.bytes)) W4 from by
          have := HI.out
          rw [hxe.2, rune_cells hw0 hne] at this
          rw [cells_app, hxe.1]
          exact .inr this)
        have HRG := Lib.hid (show rep t.data.toList = t.data.toList.take x.bytes ++ rep (t.data.toList.drop x.bytes) from by rw [hxe.1]; exact rep_good hw0 hne)
        obtain ⟨n, hn⟩ : ∃ n, x.bytes = n := ⟨_, rfl⟩
        rw [hn] at hxb x1 HI HRG
        rw [hbf] at x3
        clear hw0 hxe hn hne hbad
        go_wp2_with fail
        go_loopg [5] 0 (fun g s5 wq => g = 0 ∧ s5 = .int .i64 n ∧ wq = W4)
        case atStart => exact ⟨rfl, rfl, rfl⟩
        case round =>
          obtain ⟨rfl, rfl, rfl⟩ := hrel
          have hni : (n : Int) ≤ t.size := by omega
          go_wp2_with fail
          go_roundg (s.size - (p + n))
          case measure => have := HG.out; omega
          case rel =>
            refine ⟨p + n, t.extract n t.size, acc ++ t.data.toList.take n, by omega, rfl, by rw [htz], ?_, HI.out, ?_, ?_, HB.out, hbz4⟩
            · rw [drop_list t _ _ rfl, HTL.out, List.drop_drop]
            · have h1 := HR.out
              rw [← HTL.out] at h1
              rw [← h1, List.append_assoc, ← List.drop_drop, ← HTL.out]
              congr 1
              rw [HRG.out]
            · rw [List.length_append]
              rw [List.length_take]; omega
end Go.Proofs.YtendkmldecoogaaDoor.UtfGo
