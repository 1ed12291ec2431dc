/-
  A drawn region some of whose operations may come up in any order: by a property that each of them keeps.
-/
import Derived.Test.YtendkmldecoogaaDoorKit
namespace Go.Proofs.YtendkmldecoogaaDoor.AnyOrd
open Go Go.RowKit Go.Proofs.YtendkmldecoogaaDoor.Kit

theorem RG_inv {P : Program} {ops : Array Oper} {R : Act → World → Prop} {B : World} (m : Nat) (J : Nat → Array Bool → Act → World → Prop)
    (h0 : ∀ listed a w, J m listed a w → RG P ops R B m listed a w)
    (hs : ∀ n listed a w, m ≤ n → J (n + 1) listed a w → Below B.heap.size B w → Region.ready .any ops listed ≠ [] ∧ ∀ i ∈ Region.ready .any ops listed, wpOp P ops (OnlyNormal R) i (fun a' w' => Below B.heap.size B w' ∧ J n (listed.setIfInBounds i true) a' w') a w) :
    ∀ n, m ≤ n → ∀ listed a w, J n listed a w → RG P ops R B n listed a w := by
  intro n hn
  induction hn with
  | refl => exact h0
  | step hle ih =>
    intro listed a w hJ hb
    obtain ⟨hne, h⟩ := hs _ listed a w hle hJ hb
    exact wpAnyH_all rfl hne fun i hi => wpOp_mono (fun a' w' hq => ⟨hq.1, ih _ _ _ hq.2 hq.1⟩) (h i hi)

theorem J_op {P : Program} {ops : Array Oper} {R : Act → World → Prop} {B : World} {J : Array Bool → Act → World → Prop} {i : Nat} {oi : Oper} {listed : Array Bool} (listed' : Array Bool) {a : Act} {w : World} (hi : ops[i]? = some oi) (hl : listed.setIfInBounds i true = listed') (hw : Region.wanted oi (yielded ops a.tmps) = true)
    (h : ∀ K : Act → World → Prop, (∀ a' w', Below B.heap.size B w' → J listed' a' w' → K a' w') → oi.wp P a w K (OnlyNormal R)) :
    wpOp P ops (OnlyNormal R) i (fun a' w' => Below B.heap.size B w' ∧ J (listed.setIfInBounds i true) a' w') a w := by
  subst hl
  unfold wpOp
  simp only [hi, hw, if_true]
  exact .inl (h _ fun a' w' hb hR => ⟨hb, hR⟩)
end Go.Proofs.YtendkmldecoogaaDoor.AnyOrd
