/-
  Right lists of spans, in plain numbers.
-/
import Derived.Test.YtendkmldecoogaaDoorSpFind
import Derived.Test.YtendkmldecoogaaDoorSpSize
namespace Go.Proofs.YtendkmldecoogaaDoor.SpLists
open Go Go.Proofs.YtendkmldecoogaaDoor.SpFns Go.Proofs.YtendkmldecoogaaDoor.SpFind Go.Proofs.YtendkmldecoogaaDoor.SpSize

/-- A right list: runes, rising. -/
def Rt (L H : Nat → Int) (len : Nat) : Prop := ∀ i, i < len → VR (L i) ∧ VR (H i) ∧ L i ≤ H i ∧ (0 < i → H (i - 1) < L i)

theorem bad_zero {L H : Nat → Int} {i : Nat} (h : bad L H i = 0) : VR (L i) ∧ VR (H i) ∧ L i ≤ H i ∧ (0 < i → H (i - 1) < L i) := by
  rcases bad_cases L H i with ⟨hb, q⟩ | ⟨hb, q⟩ | ⟨hb, q⟩ | ⟨hb, q1, q2, q3, q4⟩ | ⟨hb, q⟩ | ⟨hb, q1, q2, q3, q4, q5⟩
  · rw [hb] at h; cases h
  · rw [hb] at h; cases h
  · rw [hb] at h; cases h
  · exact ⟨q1, q2, q3, fun h => by omega⟩
  · rw [hb] at h; cases h
  · exact ⟨q1, q2, q3, fun _ => q5⟩

theorem rt_zero {L H : Nat → Int} : ∀ (n i : Nat), (rt L H n i).2 = 0 → ∀ k, i ≤ k → k < i + n → bad L H k = 0
  | 0, i, _, k, h1, h2 => by omega
  | n + 1, i, h, k, h1, h2 => by
    simp only [rt] at h
    split at h
    · rename_i hb
      rcases Nat.eq_or_lt_of_le h1 with rfl | h3
      · exact hb
      · exact rt_zero n (i + 1) h k h3 (by omega)
    · rename_i hb
      exact absurd h hb

theorem Rt.of {L H : Nat → Int} {len : Nat} (h : (rt L H len 0).2 = 0) : Rt L H len := fun i hi => bad_zero (rt_zero len 0 h i (Nat.zero_le _) (by omega))

theorem Rt.rise {L H : Nat → Int} {len : Nat} (h : Rt L H len) {i : Nat} : ∀ (j : Nat), i < j → j < len → H i < L j
  | 0, hj, _ => by omega
  | j + 1, hj, hl => by
    have h1 := (h (j + 1) hl).2.2.2 (by omega)
    simp only [Nat.add_sub_cancel] at h1
    rcases Nat.eq_or_lt_of_le (Nat.le_of_lt_succ hj) with rfl | h2
    · exact h1
    · have h3 := h.rise j h2 (by omega)
      have h4 := (h j (by omega)).2.2.1
      omega

theorem vr_bounds {r : Int} (h : VR r) : 0 ≤ r ∧ r ≤ 1114111 := by
  have := (vr_iff r).1 h
  omega

theorem Rt.low {L H : Nat → Int} {len : Nat} (h : Rt L H len) : ∀ (i : Nat), i < len → (i : Int) ≤ L i
  | 0, hi => (vr_bounds (h 0 hi).1).1
  | i + 1, hi => by
    have h1 := h.rise (i := i) (i + 1) (by omega) hi
    have h2 := (h i (by omega)).2.2.1
    have h3 := h.low i (by omega)
    omega

theorem Rt.len_le {L H : Nat → Int} {len : Nat} (h : Rt L H len) : len ≤ 1114112 := by
  rcases Nat.eq_zero_or_pos len with h0 | h0
  · omega
  · have h1 := h.low (len - 1) (by omega)
    have h2 := vr_bounds (h (len - 1) (by omega)).1
    omega

theorem Rt.cut {L H : Nat → Int} (r : Int) : ∀ (len : Nat), Rt L H len → ∃ R, Cut H len r R
  | 0, _ => ⟨0, Nat.le_refl _, fun k hk => by omega, fun k _ hk => by omega⟩
  | n + 1, h => by
    obtain ⟨R, h1, h2, h3⟩ := Rt.cut r n (fun i hi => h i (by omega))
    rcases Nat.lt_or_ge R n with hR | hR
    · refine ⟨R, by omega, h2, fun k hk hk2 => ?_⟩
      rcases Nat.lt_or_ge k n with h4 | h4
      · exact h3 k hk h4
      · have hkn : k = n := by omega
        subst hkn
        have h5 := h.rise (i := R) k hR (by omega)
        have h6 := h3 R (Nat.le_refl _) hR
        have h7 := (h k (by omega)).2.2.1
        omega
    · have hRn : R = n := by omega
      subst hRn
      by_cases hr : r ≤ H R
      · exact ⟨R, by omega, h2, fun k hk hk2 => by have : k = R := by omega
                                                   subst this; exact hr⟩
      · refine ⟨R + 1, Nat.le_refl _, fun k hk => ?_, fun k hk hk2 => by omega⟩
        rcases Nat.lt_or_ge k R with h4 | h4
        · exact h2 k h4
        · have : k = R := by omega
          subst this
          omega

/-- The reference's size of a span. -/
def rsz (l h : Int) : Int := h - l + 1 - (if l < 55296 ∧ 57343 < h then 2048 else 0)
theorem sz_eq {l h : Int} (h1 : VR l) (h2 : VR h) (h3 : l ≤ h) : sz l h = rsz l h := by
  have g1 := (vr_iff l).1 h1
  have g2 := (vr_iff h).1 h2
  unfold sz rsz
  rw [if_pos (by omega)]
  split <;> omega

theorem sz_pos {l h : Int} (h1 : VR l) (h2 : VR h) (h3 : l ≤ h) : 0 < sz l h := by
  have g1 := (vr_iff l).1 h1
  have g2 := (vr_iff h).1 h2
  rw [sz_eq h1 h2 h3]
  unfold rsz
  split <;> omega

/-- The first i that p says yes to. -/
def fr (p : Nat → Bool) : Nat → Nat → Int × Bool
  | 0, _ => (0, false)
  | n + 1, i => if p i = true then (i, true) else fr p n (i + 1)

theorem fr_hit {p : Nat → Bool} {len k : Nat} {R : Int × Bool} (h : fr p (len - k) k = R) (hlt : k < len) (hp : p k = true) : R = ((k : Int), true) := by
  rw [← h, show len - k = (len - k - 1) + 1 by omega]
  simp [fr, hp]
theorem fr_on {p : Nat → Bool} {len k : Nat} {R : Int × Bool} (h : fr p (len - k) k = R) (hlt : k < len) (hp : p k = false) : fr p (len - (k + 1)) (k + 1) = R := by
  rw [← h, show len - k = (len - (k + 1)) + 1 by omega]
  simp [fr, hp]
theorem fr_end {p : Nat → Bool} {len : Nat} {R : Int × Bool} (h : fr p (len - len) len = R) : R = (0, false) := by
  rw [← h, Nat.sub_self]; rfl

/-- Span i of one list has a number in common with the other list. -/
def hit (L H L' H' : Nat → Int) (len' i : Nat) : Bool := decide (∃ j, j < len' ∧ L i ≤ H' j ∧ L' j ≤ H i)

theorem hit_cut {L H L' H' : Nat → Int} {len' i R : Nat} (h : Rt L' H' len') (hc : Cut H' len' (L i) R) : hit L H L' H' len' i = decide (R < len' ∧ L' R ≤ H i) := by
  unfold hit
  apply decide_eq_decide.2
  constructor
  · rintro ⟨j, hj, h1, h2⟩
    have hRj : R ≤ j := by
      rcases Nat.lt_or_ge j R with h3 | h3
      · have := hc.2.1 j h3
        omega
      · exact h3
    refine ⟨by omega, ?_⟩
    rcases Nat.eq_or_lt_of_le hRj with h3 | h3
    · rw [h3]; exact h2
    · have h4 := h.rise (i := R) j h3 hj
      have h5 := (h R (by omega)).2.2.1
      omega
  · rintro ⟨h1, h2⟩
    exact ⟨R, h1, hc.2.2 R (Nat.le_refl _) h1, h2⟩
end Go.Proofs.YtendkmldecoogaaDoor.SpLists
