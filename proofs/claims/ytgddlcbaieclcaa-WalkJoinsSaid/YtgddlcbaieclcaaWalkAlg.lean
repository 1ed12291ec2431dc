/-
  Plain laws of walks in whole numbers: joining is associative, a text's walk is its parts', joined.
-/
import Derived.Test.YtgddlcbaieclcaaWalkLawFns
namespace Go.Proofs.Ytgddlcbaieclcaa.WalkFns
open Go Go.Proofs.Ytgddlcbaieclcaa.WalkNum

theorem J_assoc (a b c : W3) : J (J a b) c = J a (J b c) := by
  obtain ⟨t, x, y⟩ := a
  obtain ⟨u, z, v⟩ := b
  obtain ⟨r, p, q⟩ := c
  simp only [J]
  obtain ⟨i, hi⟩ : ∃ i, t % 4 = i := ⟨_, rfl⟩
  obtain ⟨j, hj⟩ : ∃ j, u % 4 = j := ⟨_, rfl⟩
  rw [hi, hj]
  have hi4 : i = 0 ∨ i = 1 ∨ i = 2 ∨ i = 3 := by omega
  have hj4 : j = 0 ∨ j = 1 ∨ j = 2 ∨ j = 3 := by omega
  rw [W3.mk.injEq]
  refine ⟨by omega, ?_, ?_⟩
  all_goals
    rcases hi4 with h | h | h | h <;> rcases hj4 with h' | h' | h' | h' <;> subst h <;> subst h' <;> simp [rot] <;> omega

theorem J_zero_left (b : W3) (h0 : 0 ≤ b.t) (h4 : b.t < 4) : J W0 b = b := by
  obtain ⟨u, z, v⟩ := b
  simp only at h0 h4
  simp only [J, W0, rot]
  rw [W3.mk.injEq]
  refine ⟨by omega, ?_, ?_⟩ <;> simp

theorem J_zero_right (b : W3) (h0 : 0 ≤ b.t) (h4 : b.t < 4) : J b W0 = b := by
  obtain ⟨u, z, v⟩ := b
  simp only at h0 h4
  have hr : rot (u % 4) 0 0 = (0, 0) := by
    unfold rot
    repeat' split
    all_goals simp
  simp only [J, W0, hr]
  rw [W3.mk.injEq]
  refine ⟨by omega, ?_, ?_⟩ <;> simp

theorem J_back (a : W3) (h0 : 0 ≤ a.t) (h4 : a.t < 4) : J a (BackW a) = W0 ∧ J (BackW a) a = W0 := by
  obtain ⟨t, x, y⟩ := a
  simp only at h0 h4
  have ht : t = 0 ∨ t = 1 ∨ t = 2 ∨ t = 3 := by omega
  rcases ht with rfl | rfl | rfl | rfl <;> simp [J, BackW, W0, rot] <;> omega

theorem J_t (a b : W3) : 0 ≤ (J a b).t ∧ (J a b).t < 4 := by simp only [J]; omega

theorem wk_from (a : W3) (l : List UInt8) (h0 : 0 ≤ a.t) (h4 : a.t < 4) : wk a l = J a (wk W0 l) := by
  induction l generalizing a with
  | nil => exact (J_zero_right a h0 h4).symm
  | cons c l ih =>
    have e1 : wk a (c :: l) = wk (J a (byteW c.toNat)) l := rfl
    have e2 : wk W0 (c :: l) = wk (J W0 (byteW c.toNat)) l := rfl
    have hb : J W0 (byteW c.toNat) = byteW c.toNat := J_zero_left _ (by simp only [byteW]; omega) (by simp only [byteW]; omega)
    rw [e1, e2, ih _ (J_t _ _).1 (J_t _ _).2, hb, ih (byteW c.toNat) (by simp only [byteW]; omega) (by simp only [byteW]; omega), J_assoc]

theorem wk_append (l r : List UInt8) : wk W0 (l ++ r) = J (wk W0 l) (wk W0 r) := by
  have h := wk_t l
  have e : wk W0 (l ++ r) = wk (wk W0 l) r := by simp [wk]
  rw [e, wk_from _ r h.1 h.2]

/-- Both parts are at most N. -/
def Sm (a : W3) (N : Nat) : Prop := a.x.natAbs ≤ N ∧ a.y.natAbs ≤ N

theorem J_sm {a b : W3} {N M : Nat} (ha : Sm a N) (hb : Sm b M) : Sm (J a b) (N + M) := by
  obtain ⟨h1, h2⟩ := ha
  obtain ⟨h3, h4⟩ := hb
  obtain ⟨r1, r2⟩ := rot_le (a.t % 4) b.x b.y
  have r3 : (rot (a.t % 4) b.x b.y).1.natAbs ≤ M := by omega
  have r4 : (rot (a.t % 4) b.x b.y).2.natAbs ≤ M := by omega
  clear r1 r2 h3 h4
  refine ⟨?_, ?_⟩
  · show (a.x + (rot (a.t % 4) b.x b.y).1).natAbs ≤ N + M
    omega
  · show (a.y + (rot (a.t % 4) b.x b.y).2).natAbs ≤ N + M
    omega

theorem Join_s {u v : WB} {a b : W3} {N M : Nat} (hu : IsB u a) (hv : IsB v b) (ha : Sm a N) (hb : Sm b M) (h : N + M < 9007199254740992) :
    (∀ w, Calls Try.prog 24 #[u.val, v.val] w fun e w' => e = .returned (JB u v).val ∧ RowKit.Below w.heap.size w w') ∧ IsB (JB u v) (J a b) := by
  obtain ⟨h1, h2⟩ := J_sm ha hb
  exact ⟨fun w => Join_b hu hv (Nat.lt_of_le_of_lt h1 h) (Nat.lt_of_le_of_lt h2 h) w, JB_is hu hv (Nat.lt_of_le_of_lt h1 h) (Nat.lt_of_le_of_lt h2 h)⟩

end Go.Proofs.Ytgddlcbaieclcaa.WalkFns
