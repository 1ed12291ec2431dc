/-
  (*strings.Builder).copyCheck, WriteRune, walked (the library's contract can't be laid where the loader refuses copyCheck's panic).
-/
import Derived.Test.YtendkmldecoogaaDoorKit
import Derived.Test.YtendkmldecoogaaDoorShelfA
import Derived.Lib.FrozenHead
import Derived.Lib.OthersKept
import Derived.Lib.Builder
import Derived.Laws.Externs
namespace Go.Proofs.YtendkmldecoogaaDoor.Bld
open Go Go.RowKit Go.Proofs.YtendkmldecoogaaDoor.Kit
attribute [local irreducible] wpQuiet

theorem sizeB : (Tryd.prog.info? 178).map (·.size) = some 2 := by kernel_rfl
theorem liesB : liesAt Tryd.prog Tryd.prog.depth 178 (2 / Tryd.prog.cellsOf 178) 0 178 1 = true := by kernel_rfl

set_option maxHeartbeats 1000000 in
set_option maxRecDepth 100000 in
theorem check_used (b : Nat) (w : World) (h0 : w.cell? ⟨b, 0, none⟩ = some (.pointer (some ⟨b, 0, none⟩))) (_hz : b < w.heap.size) :
    Calls Tryd.prog 140 #[.pointer (some ⟨b, 0, none⟩)] w fun e w' => e = .returned (.tuple #[]) ∧ w' = w := by
  obtain ⟨j, hj, _⟩ := Option.map_eq_some_iff.1 sizeB
  go_enter Tryd.func140, Tryd.ntmps140
  go_wp2
  rw [Lib.run_neq_ptr_same w _ Tryd.underlying176 hj]
  go_wp2
  go_end0
  exact ⟨rfl, rfl⟩

set_option maxHeartbeats 1000000 in
set_option maxRecDepth 100000 in
theorem check_fresh (b : Nat) (w : World) (h0 : w.cell? ⟨b, 0, none⟩ = some (.pointer none)) (hsh : w.shape? b = some (178, 2)) (hfz : w.frozen? ⟨b, 0, none⟩ = false) (_hz : b < w.heap.size) :
    Calls Tryd.prog 140 #[.pointer (some ⟨b, 0, none⟩)] w fun e w' => e = .returned (.tuple #[]) ∧ w' = w.setCell ⟨b, 0, none⟩ (.pointer (some ⟨b, 0, none⟩)) := by
  obtain ⟨j, hj, hjs⟩ := Option.map_eq_some_iff.1 sizeB
  go_enter Tryd.func140, Tryd.ntmps140
  go_wp2
  rw [Lib.run_to_unsafe w ⟨b, 0, none⟩ Tryd.underlying176 Tryd.underlying226 hj (by rw [hjs]; decide) hsh (Nat.zero_lt_succ 1)]
  simp only [Result.andThen]
  rw [Oper.upon_value]
  go_wp2
  rw [run_callFunc_extern Tryd.func151 (by kernel_rfl) (by kernel_rfl) (by kernel_rfl) (e := Extern.AbiNoEscape.same) (by kernel_rfl)]
  rw [Lib.run_noEscape]
  simp only [Result.andThen]
  rw [Oper.upon_value]
  go_wp2
  rw [Lib.run_from_unsafe w ⟨b, 0, none⟩ Tryd.underlying226 Tryd.underlying176 hj hsh liesB]
  simp only [Result.andThen]
  rw [Oper.upon_value]
  go_wp2
  go_end0
  exact ⟨rfl, rfl⟩

/-- A builder in block b, made since B, that holds these bytes. -/
abbrev IsB (B b : Nat) (bs : List Value) (w : World) : Prop := Lib.IsBuilderF 178 5 B b bs w
abbrev AtB (B b : Nat) (bs : List Value) (w : World) : Prop := Lib.BuilderAtF 178 5 B b (.pointer (some ⟨b, 0, none⟩)) bs w

set_option maxRecDepth 100000 in
theorem check_calls (B b : Nat) (bs : List Value) (w : World) (h : IsB B b bs w) :
    Calls Tryd.prog 140 #[.pointer (some ⟨b, 0, none⟩)] w fun e w' => e = .returned (.tuple #[]) ∧ AtB B b bs w' ∧ Below B w w' ∧ Lib.OthersKept 5 (some b) w w' := by
  rcases h with h | h
  · refine (check_fresh b w h.cell0 h.shape h.frozen0 (lt_of_cell h.cell0)).mono ?_
    rintro e w' ⟨rfl, rfl⟩
    exact ⟨rfl, h.used _, (Below.refl B w).setCell (p := ⟨b, 0, none⟩) h.1 _, (Lib.OthersKept.refl _ _ w).setCell ⟨b, 0, none⟩ rfl _⟩
  · refine (check_used b w h.cell0 (lt_of_cell h.cell0)).mono ?_
    rintro e w' ⟨rfl, rfl⟩
    exact ⟨rfl, h, Below.refl B _, Lib.OthersKept.refl _ _ _⟩

set_option maxHeartbeats 2000000 in
set_option maxRecDepth 100000 in
theorem WriteRune_calls (B b : Nat) (bs : List Value) (r : Int) (hr0 : -2147483648 ≤ r) (hr1 : r ≤ 2147483647) (w : World) (h : IsB B b bs w) (hlen : bs.length + 4 ≤ 140737488355328) (hBw : B ≤ w.heap.size) :
    Calls Tryd.prog 113 #[.pointer (some ⟨b, 0, none⟩), .int .i32 r] w fun e w' => (∃ z, e = .returned z) ∧ AtB B b (bs ++ Lib.runeCells r) w' ∧ Below B w w' ∧ Lib.OthersKept 5 (some b) w w' := by
  have hk4 := Lib.runeCells_le r
  go_enter Tryd.func113, Tryd.ntmps113
  go_wp2_with fail
  refine (check_calls B b bs _ h).mono ?_
  rintro e w1 ⟨rfl, h1, hb1, hk1⟩
  obtain ⟨hB, v, hbk, hown, hne⟩ := h1
  obtain ⟨ao, cap, rfl⟩ : ∃ ao cap, v = .slice ao bs.length cap := by
    rcases hown.2 with ⟨hv, h0⟩ | ⟨g, cap, cur, fz, hv, _⟩
    · exact ⟨none, 0, by rw [hv, h0]⟩
    · exact ⟨_, _, hv⟩
  have HBK := Lib.hid hbk
  have HOWN := Lib.hid hown
  have HK1 := Lib.hid hk1
  have HB1 := Lib.hid hb1
  have HNE := Lib.hid hne
  have hz1 := hb1.size
  clear hown hk1 hb1 hne
  have c0 := cell_at HBK.out 0
  have c1 := cell_at HBK.out 1
  have cz := lt_of_heap HBK.out
  simp only [List.getElem?_toArray, List.getElem?_cons_zero, List.getElem?_cons_succ] at c0 c1
  clear hbk
  go_wp2_with fail
  refine (ShelfA.utf8_AppendRune_row B _ bs.length bs r hr0 hr1 _ HOWN.out hlen (by omega)).mono ?_
  rintro e w2 ⟨v', rfl, hown', o, hgrow⟩
  have hlt := lt_of_heap HBK.out
  have hb2 : w2.heap[b]? = some (.cells #[.pointer (some ⟨b, 0, none⟩), .slice ao bs.length cap] 178 (0, 0)) := by
    rw [hgrow.block b (by simp; omega) (fun e => HNE.out e.symm), alloc_old hlt]
    exact HBK.out
  have HBK2 := Lib.hid hb2
  clear c0 c1 cz
  obtain ⟨g, cap', rfl⟩ : ∃ g cap', v' = .slice (some ⟨g, 0, none⟩) (bs.length + (Lib.runeCells r).length) cap' := by
    rcases hown'.2 with ⟨_, h0⟩ | ⟨g, cap', cur, fz, hv, _⟩
    · omega
    · exact ⟨g, cap', hv⟩
  have HG := Lib.hid hgrow
  have HOWN' := Lib.hid hown'
  clear hgrow hown' hb2
  have d0 := cell_at HBK2.out 0
  have d1 := cell_at HBK2.out 1
  have df := free_all HBK2.out
  have dz := lt_of_heap HBK2.out
  simp only [List.getElem?_toArray, List.getElem?_cons_zero, List.getElem?_cons_succ] at d0 d1
  obtain ⟨m, hm⟩ : ∃ m, (Lib.runeCells r).length = m := ⟨_, rfl⟩
  rw [hm] at hk4 HOWN' ⊢
  go_wp2_with fail
  go_ret2
  have hgrow := HG.out
  refine ⟨⟨_, rfl⟩, ?_, ?_, ((HK1.out.alloc _).grown hgrow (Lib.ownsRowF_kind (HOWN.out.alloc _))).setCell ⟨b, 1, none⟩ rfl _⟩
  · rw [← hm]
    exact Lib.BuilderAtF.put (T := 178) (e := 5) hB HBK2.out (bs' := bs ++ Lib.runeCells r) (by rw [List.length_append, hm]; exact HOWN'.out) (by decide)
  · exact ((HB1.out.alloc (by have := HB1.out.size; omega) _).grown hgrow (by have := HB1.out.size; simp; omega) (fun k hk => (HOWN.out.lt k hk).1)).setCell (p := ⟨b, 1, none⟩) hB _
end Go.Proofs.YtendkmldecoogaaDoor.Bld
