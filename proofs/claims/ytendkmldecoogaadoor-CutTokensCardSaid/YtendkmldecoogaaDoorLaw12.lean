/-
  tesseralaw12.same.
-/
import Derived.Test.YtendkmldecoogaaDoorCutTokens
namespace Go.Proofs.YtendkmldecoogaaDoor.Law12
open Go Go.RowKit Go.Proofs.YtendkmldecoogaaDoor.Kit Go.Proofs.YtendkmldecoogaaDoor.Round Go.Proofs.YtendkmldecoogaaDoor.Dt Go.Proofs.YtendkmldecoogaaDoor.Cu Go.Proofs.YtendkmldecoogaaDoor.CutTokens
attribute [local irreducible] wpQuiet

/-- Pre-tokens lie there, three cells each. -/
def TCells (w : World) (g o : Nat) (T : List Tk) : Prop := g < w.heap.size ∧ ∀ i, i < T.length → w.cell? ⟨g, o + i * 3, none⟩ = some (.int .i64 (T.getD i default).a) ∧ w.cell? ⟨g, o + i * 3 + 1, none⟩ = some (.int .i64 (T.getD i default).b) ∧ w.cell? ⟨g, o + i * 3 + 2, none⟩ = some (.int .i64 (T.getD i default).s)
theorem TCells.below {w w' : World} {g o : Nat} {T : List Tk} (h : TCells w g o T) (hb : Below w.heap.size w w') : TCells w' g o T := by
  refine ⟨Nat.lt_of_lt_of_le h.1 hb.size, fun j hj => ?_⟩
  simp only [cell_keep (hb.block g h.1)]
  exact h.2 j hj

theorem TCells.take {w : World} {g o : Nat} {T : List Tk} (h : TCells w g o T) {k : Nat} (hk : k ≤ T.length) : TCells w g o (T.take k) := by
  refine ⟨h.1, fun i hi => ?_⟩
  rw [List.length_take] at hi
  have e : (T.take k).getD i default = T.getD i default := by simp only [List.getD]; rw [List.getElem?_take_of_lt (by omega)]
  rw [e]
  exact h.2 i (by omega)
theorem seg_cells {w : World} {base : Nat} {e : TypeId} {v : Value} {T : List Tk} (h : Seg.Seg w base e 3 v T.length (flat T)) : ∃ a cap, v = .slice a T.length cap ∧ T.length ≤ cap ∧ cap ≤ maxLen ∧ (a = none → cap = 0) ∧ (0 < T.length → ∃ g o, a = some ⟨g, o, none⟩ ∧ base ≤ g ∧ TCells w g o T) := by
  obtain ⟨a, cap, rfl, h1, h1', h2⟩ := Seg.Seg.shape h
  refine ⟨a, cap, rfl, h1, h1', fun h => (h2 h).2, fun hl => ?_⟩
  obtain ⟨g, o, h2, h3, h4, h5⟩ := Seg.Seg.cells h hl
  refine ⟨g, o, h2, h3, h4, fun i hi => ?_⟩
  obtain ⟨f1, f2, f3⟩ := flat_at hi
  exact ⟨h5 _ _ f1, by rw [Nat.add_assoc]; exact h5 _ _ f2, by rw [Nat.add_assoc]; exact h5 _ _ f3⟩

set_option maxHeartbeats 2000000 in
set_option maxRecDepth 100000 in
theorem same_calls (w : World) (a b : Option Addr) (ca cb : Nat) (T : List Tk) (hA : 0 < T.length → ∃ g o, a = some ⟨g, o, none⟩ ∧ TCells w g o T) (hB : 0 < T.length → ∃ g o, b = some ⟨g, o, none⟩ ∧ TCells w g o T) (hl : T.length ≤ 100000000000) :
    Calls Tryd.prog 26 #[.slice a T.length ca, .slice b T.length cb] w fun e w' => e = .returned (.bool true) ∧ Below w.heap.size w w' := by
  have HA := Lib.hid hA
  have HB := Lib.hid hB
  clear hA hB
  go_enter Tryd.func26, Tryd.ntmps26
  go_wp2_with fail
  go_loopg [5] T.length (fun g s5 wr => ∃ i : Nat, i ≤ T.length ∧ g = T.length - i ∧ s5 = .int .i64 i ∧ Below w.heap.size w wr)
  case atStart => exact ⟨0, Nat.zero_le _, by omega, rfl, Below.refl _ _⟩
  case round =>
    obtain ⟨i, hi, hg, rfl, hb⟩ := hrel
    have HG := Lib.hid hg
    have HBB := Lib.hid hb
    clear hg hb
    by_cases hlt : i < T.length
    · have hlti : (i : Int) < T.length := by omega
      obtain ⟨g, o, rfl, h1⟩ := HA.out (by omega)
      obtain ⟨g2, o2, rfl, h2⟩ := HB.out (by omega)
      have k1 := h1.below HBB.out
      have k2 := h2.below HBB.out
      have z1 := k1.1
      have z2 := k2.1
      obtain ⟨c0, c1, c2⟩ := k1.2 i hlt
      obtain ⟨d0, d1, d2⟩ := k2.2 i hlt
      obtain ⟨x, hx⟩ : ∃ x, T.getD i default = x := ⟨_, rfl⟩
      rw [hx] at c0 c1 c2 d0 d1 d2
      clear k1 k2 h1 h2 hx
      go_upto_region 6 with fail
      refine region_calm (by kernel_rfl) (by kernel_rfl) ?_
      repeat (quiet_step ((fail)))
      refine wpQuiet_nil ?_
      rintro _ ⟨y, rfl⟩
      have HBB := Lib.hid (Later.chain HBB.out y)
      generalize y.w = W6 at HBB ⊢
      clear y c0 c1 c2 d0 d1 d2 z1 z2
      go_wp2_with fail
      go_roundg (T.length - (i + 1))
      case measure => have := HG.out; omega
      case rel => exact ⟨i + 1, by omega, rfl, by go_num, HBB.out⟩
    · have hiT : i = T.length := by omega
      subst hiT
      go_wp2_with fail
      go_ret
      exact ⟨rfl, HBB.out⟩
end Go.Proofs.YtendkmldecoogaaDoor.Law12
