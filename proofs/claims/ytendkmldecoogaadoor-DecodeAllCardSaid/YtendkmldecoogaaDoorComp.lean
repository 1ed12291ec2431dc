/-
  The items that are complete, and from where on bytes are held.
-/
import Derived.Test.YtendkmldecoogaaDoorIt
namespace Go.Proofs.YtendkmldecoogaaDoor.Ref2c
open Go Go.Proofs.YtendkmldecoogaaDoor.Utf Go.Proofs.YtendkmldecoogaaDoor.It

/-- The items that are complete, and where bytes are held. -/
def compF : Nat → Nat → List UInt8 → List It × Nat
  | 0, a, _ => ([], a)
  | f + 1, a, l => if l = [] then ([], a) else if width l = 0 ∧ begins l = l.length then ([], a) else (one a l :: (compF f (a + (one a l).bytes) (l.drop (one a l).bytes)).1, (compF f (a + (one a l).bytes) (l.drop (one a l).bytes)).2)
def comp (a : Nat) (l : List UInt8) : List It × Nat := compF l.length a l
theorem compF_more : ∀ (f a : Nat) (l : List UInt8), l.length ≤ f → compF f a l = compF l.length a l
  | 0, a, l, h => by rw [show l.length = 0 by omega]
  | f + 1, a, l, h => by
    by_cases hl : l = []
    · subst hl; simp [compF]
    · have h1 := one_pos a l
      have h2 : 0 < l.length := List.length_pos_iff.2 hl
      have e : l.length = l.length - 1 + 1 := by omega
      have h3 : (l.drop (one a l).bytes).length ≤ l.length - 1 := by rw [List.length_drop]; omega
      have h4 : compF (l.length - 1 + 1) a l = compF (f + 1) a l := by
        simp only [compF, if_neg hl]
        rw [compF_more f _ _ (by omega), compF_more (l.length - 1) _ _ h3]
      rw [← e] at h4
      exact h4.symm
theorem comp_nil (a : Nat) : comp a [] = ([], a) := rfl
theorem comp_held {a : Nat} {l : List UInt8} (h : width l = 0) (hb : begins l = l.length) : comp a l = ([], a) := by
  unfold comp
  cases hl : l.length with
  | zero => rfl
  | succ f =>
    simp only [compF]
    split
    · rfl
    · rw [if_pos ⟨h, by rw [hb]⟩]
theorem comp_one {a : Nat} {l : List UInt8} (hl : l ≠ []) (h : ¬ (width l = 0 ∧ begins l = l.length)) : comp a l = (one a l :: (comp (a + (one a l).bytes) (l.drop (one a l).bytes)).1, (comp (a + (one a l).bytes) (l.drop (one a l).bytes)).2) := by
  have h1 := one_pos a l
  have h2 : 0 < l.length := List.length_pos_iff.2 hl
  have e : l.length = l.length - 1 + 1 := by omega
  unfold comp
  rw [e]
  simp only [compF, if_neg hl]
  rw [if_neg h, compF_more (l.length - 1) _ _ (by rw [List.length_drop]; omega)]
theorem comp_items (l : List UInt8) : ∀ a, a ≤ (comp a l).2 ∧ (comp a l).2 ≤ a + l.length ∧ (comp a l).1 ++ items (comp a l).2 (l.drop ((comp a l).2 - a)) = items a l ∧ ((comp a l).2 < a + l.length → width (l.drop ((comp a l).2 - a)) = 0 ∧ begins (l.drop ((comp a l).2 - a)) = (l.drop ((comp a l).2 - a)).length) := by
  induction l using ind with
  | h0 => intro a; simp [comp_nil, items_nil]
  | h1 l hl ih =>
    intro a
    by_cases h : width l = 0 ∧ begins l = l.length
    · rw [comp_held h.1 h.2]
      simp [h.1, h.2]
    · have hle := one_le a hl
      obtain ⟨g1, g2, g3, g4⟩ := ih (a + (one 0 l).bytes)
      rw [comp_one hl h, items_cons a hl]
      rw [one_bytes_eq 0 a] at g1 g2 g3 g4
      simp only
      rw [List.length_drop] at g2 g4
      have hd : (l.drop (one a l).bytes).drop ((comp (a + (one a l).bytes) (l.drop (one a l).bytes)).2 - (a + (one a l).bytes)) = l.drop ((comp (a + (one a l).bytes) (l.drop (one a l).bytes)).2 - a) := by
        rw [List.drop_drop]
        congr 1
        omega
      rw [hd] at g3 g4
      refine ⟨by omega, by omega, ?_, fun h5 => g4 (by omega)⟩
      rw [List.cons_append, g3]

end Go.Proofs.YtendkmldecoogaaDoor.Ref2c
