/-
  (*Model).pairs' inner function: is an id a byte's, or made by a merge ahead?
-/
import Derived.Test.YtendkmldecoogaaDoorMo
import Derived.Test.YtendkmldecoogaaDoorRef5c
namespace Go.Proofs.YtendkmldecoogaaDoor.MoPart
open Go Go.RowKit Go.Proofs.YtendkmldecoogaaDoor.Kit Go.Proofs.YtendkmldecoogaaDoor.SpFns Go.Proofs.YtendkmldecoogaaDoor.Dt Go.Proofs.YtendkmldecoogaaDoor.Mo
attribute [local irreducible] wpQuiet

/-- Which of the words the first k merges have made. -/
structure Bools (w : World) (D : Dt) (vb k : Nat) (V : Array Value) : Prop where
  v : w.heap[vb]? = some (.cells V 4 (0, 0))
  n : V.size = D.nw
  e : ∀ j : Nat, j < D.nw → V[j]? = some (.bool (decide (∃ i, i < k ∧ D.I i = 256 + (j : Int))))

structure Cap (w : World) (c1 c2 mb vb : Nat) (D : Dt) : Prop where
  m : w.heap[c1]? = some (.cells #[.pointer (some ⟨mb, 0, none⟩)] 26 (0, 0))
  l : w.heap[c2]? = some (.cells #[.slice (some ⟨vb, 0, none⟩) D.nw D.nw] 203 (0, 0))

theorem made_bool {D : Dt} {k : Nat} {id : Int} {j : Nat} (hj : id = 256 + (j : Int)) : decide (Made D k id) = decide (∃ i, i < k ∧ D.I i = 256 + (j : Int)) := by
  refine decide_eq_decide.2 ?_
  subst hj
  exact ⟨fun h => h.elim (fun h => by omega) (fun h => h.2), fun h => .inr ⟨by omega, h⟩⟩

set_option maxRecDepth 100000 in
theorem part_calls (w : World) (c1 c2 mb vb k : Nat) (D : Dt) (q : Pl) (tp : Value) (mp : Nat) (lg : Int) (V : Array Value) (hM : Blk w mb D q tp mp lg) (hn : D.nw ≤ 4096) (hC : Cap w c1 c2 mb vb D) (hV : Bools w D vb k V) (hI : ∀ i, i < k → D.I i < 256 + (D.nw : Int)) (id : Int) (hid : -9223372036854775808 ≤ id ∧ id ≤ 9223372036854775807) :
    Calls Tryd.prog 129 #[.int .i64 id, .pointer (some ⟨c1, 0, none⟩), .pointer (some ⟨c2, 0, none⟩)] w fun x w' => x = .returned (.bool (decide (Made D k id))) ∧ w = w' := by
  have HS := Lib.hid (Size_calls w mb D q tp mp lg hM hn)
  have d1 := cell_at hC.m 0
  have d2 := cell_at hC.l 0
  have z1 := lt_of_heap hC.m
  have z2 := lt_of_heap hC.l
  have HV := Lib.hid hV
  simp only [List.getElem?_toArray, List.getElem?_cons_zero] at d1 d2
  have HI := Lib.hid hI
  clear hM hC hV hI
  by_cases h0 : id < 0
  · have HX := Lib.hid (decide_eq_false (fun h => h.elim (fun h => by omega) (fun h => by omega)) : decide (Made D k id) = false)
    have h1 : ¬ (0 ≤ id) := by omega
    have h2 : ¬ (256 ≤ id) := by omega
    go_enter Tryd.func129, Tryd.ntmps129
    go_wp2
    go_ret
    rw [HX.out]
    exact ⟨rfl, rfl⟩
  have h0' : 0 ≤ id := by omega
  by_cases h1 : id < 256
  · have HX := Lib.hid (decide_eq_true (.inl ⟨h0', h1⟩) : decide (Made D k id) = true)
    go_enter Tryd.func129, Tryd.ntmps129
    go_wp2
    go_ret
    rw [HX.out]
    exact ⟨rfl, rfl⟩
  have h2 : 256 ≤ id := by omega
  by_cases h3 : id < 256 + (D.nw : Int)
  · obtain ⟨j, hj⟩ : ∃ j : Nat, id = 256 + (j : Int) := ⟨(id - 256).toNat, by omega⟩
    have hjn : j < D.nw := by omega
    have hji : (j : Int) < D.nw := by omega
    have hX := made_bool (D := D) (k := k) hj
    have HX := Lib.hid hX
    have e := cell_at HV.out.v j
    rw [HV.out.e j hjn, ← hX] at e
    have zv := lt_of_heap HV.out.v
    have hw : IntKind.i64.wrap (id - 256) = j := by rw [i64w _ (by omega) (by omega)]; omega
    obtain ⟨bo, hbo⟩ : ∃ bo, decide (Made D k id) = bo := ⟨_, rfl⟩
    rw [hbo] at e ⊢
    clear hX hbo hj
    go_enter Tryd.func129, Tryd.ntmps129
    go_wp2_with (refine HS.out.mono ?_; rintro e w' ⟨rfl, rfl⟩)
    go_ret
    exact ⟨rfl, rfl⟩
  · have HX := Lib.hid (decide_eq_false (fun h => h.elim (fun h => by omega) (fun h => by obtain ⟨_, i, hi, he⟩ := h; have := HI.out i hi; omega)) : decide (Made D k id) = false)
    go_enter Tryd.func129, Tryd.ntmps129
    go_wp2_with (refine HS.out.mono ?_; rintro e w' ⟨rfl, rfl⟩)
    go_ret
    rw [HX.out]
    exact ⟨rfl, rfl⟩
end Go.Proofs.YtendkmldecoogaaDoor.MoPart
