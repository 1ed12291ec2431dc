/-
  The runes of spans that are right: they rise, lie in them, and are as many as the size tells.
-/
import Derived.Test.YtgddlcbaieclcaaSpAll
namespace Go.Proofs.Ytgddlcbaieclcaa.SpSeq
open Go Go.RowKit Go.Proofs.Ytgddlcbaieclcaa.SpFns Go.Proofs.Ytgddlcbaieclcaa.SpSize Go.Proofs.Ytgddlcbaieclcaa.SpLists Go.Proofs.Ytgddlcbaieclcaa.SpRef Go.Proofs.Ytgddlcbaieclcaa.SpAll

theorem rs_mem {x : Int} : ∀ {m : Nat} {r : Int}, x ∈ rs m r → r ≤ x ∧ x < r + m ∧ VR x
  | 0, r, h => by cases h
  | m + 1, r, h => by
    unfold rs at h
    split at h
    · rename_i hv
      rcases List.mem_cons.1 h with rfl | h
      · exact ⟨Int.le_refl _, by omega, hv⟩
      · have := rs_mem h
        exact ⟨by omega, by omega, this.2.2⟩
    · have := rs_mem h
      exact ⟨by omega, by omega, this.2.2⟩
theorem rs_rise : ∀ (m : Nat) (r : Int), (rs m r).Pairwise (· < ·)
  | 0, r => List.Pairwise.nil
  | m + 1, r => by
    unfold rs
    split
    · refine List.Pairwise.cons (fun x hx => ?_) (rs_rise m _)
      have := rs_mem hx
      omega
    · exact rs_rise m _
theorem rs_len : ∀ (m : Nat) (r : Int), 0 ≤ r → r + m ≤ 1114112 → ((rs m r).length : Int) = m - max 0 (min (r + m - 1) 57343 - max r 55296 + 1)
  | 0, r, h1, h2 => by simp only [rs, List.length_nil]; omega
  | m + 1, r, h1, h2 => by
    have ih := rs_len m (r + 1) (by omega) (by omega)
    unfold rs
    split
    · rename_i hv
      unfold VR at hv
      simp only [List.length_cons]
      omega
    · rename_i hv
      unfold VR at hv
      omega

theorem ra_mem {L H : Nat → Int} {x : Int} : ∀ {m i : Nat}, x ∈ ra L H m i → VR x ∧ ∃ j, i ≤ j ∧ j < i + m ∧ L j ≤ x ∧ x ≤ H j
  | 0, i, h => by cases h
  | m + 1, i, h => by
    unfold ra at h
    rcases List.mem_append.1 h with h | h
    · have := rs_mem h
      exact ⟨this.2.2, i, Nat.le_refl _, by omega, this.1, by omega⟩
    · obtain ⟨h1, j, h2, h3, h4⟩ := ra_mem h
      exact ⟨h1, j, by omega, by omega, h4⟩
theorem ra_rise {L H : Nat → Int} {len : Nat} (hR : Rt L H len) : ∀ (m i : Nat), i + m = len → (ra L H m i).Pairwise (· < ·)
  | 0, i, _ => List.Pairwise.nil
  | m + 1, i, h => by
    unfold ra
    refine List.pairwise_append.2 ⟨rs_rise _ _, ra_rise hR m (i + 1) (by omega), fun x hx y hy => ?_⟩
    have h1 := rs_mem hx
    obtain ⟨_, j, h2, h3, h4, _⟩ := ra_mem hy
    have h5 := hR.rise j (i := i) (by omega) (by omega)
    have h6 := (hR i (by omega)).2.2.1
    omega
theorem sum_from (L H : Nat → Int) {len : Nat} (hR : Rt L H len) : ∀ (m i : Nat), i + m = len → sum L H i + ((ra L H m i).length : Int) = sum L H len
  | 0, i, h => by
    have : i = len := by omega
    subst this
    simp [ra]
  | m + 1, i, h => by
    have ih := sum_from L H hR m (i + 1) (by omega)
    obtain ⟨h1, h2, h3, _⟩ := hR i (by omega)
    unfold VR at h1 h2
    have hl := rs_len (H i - L i + 1).toNat (L i) (by omega) (by omega)
    unfold ra
    rw [← ih, List.length_append]
    simp only [sum, sz]
    omega

theorem all_len {L H : Nat → Int} {len : Nat} (hR : Rt L H len) : ((ra L H len 0).length : Int) = sum L H len := by
  have := sum_from L H hR len 0 (by omega)
  simpa [sum] using this
theorem all_in {L H : Nat → Int} {len k : Nat} (h : k < (ra L H len 0).length) : InD L H len ((ra L H len 0).getD k 0) = true := by
  have hm : (ra L H len 0).getD k 0 ∈ ra L H len 0 := by
    rw [List.getD, List.getElem?_eq_getElem h]
    exact List.getElem_mem h
  obtain ⟨h1, j, _, h3, h4⟩ := ra_mem hm
  exact decide_eq_true ⟨h1, j, by omega, h4⟩
/-- The one ahead of the k-th. -/
def last (T : List Int) (k : Nat) : Int := if k = 0 then -1 else T.getD (k - 1) 0
theorem all_rise {L H : Nat → Int} {len k : Nat} (hR : Rt L H len) (h : k < (ra L H len 0).length) : last (ra L H len 0) k < (ra L H len 0).getD k 0 := by
  have hm : (ra L H len 0).getD k 0 ∈ ra L H len 0 := by
    rw [List.getD, List.getElem?_eq_getElem h]
    exact List.getElem_mem h
  unfold last
  split
  · have := (ra_mem hm).1
    unfold VR at this
    omega
  · have h1 := List.pairwise_iff_getElem.1 (ra_rise hR len 0 (by omega)) (k - 1) k (by omega) h (by omega)
    rw [List.getD, List.getElem?_eq_getElem (by omega), List.getD, List.getElem?_eq_getElem h]
    exact h1
theorem last_succ (T : List Int) (k : Nat) : last T (k + 1) = T.getD k 0 := by unfold last; simp
theorem vr_bounds {r : Int} (h : VR r) : 0 ≤ r ∧ r ≤ 1114111 := by unfold VR at h; omega
theorem all_bounds {L H : Nat → Int} {len k : Nat} (h : k < (ra L H len 0).length) : 0 ≤ (ra L H len 0).getD k 0 ∧ (ra L H len 0).getD k 0 ≤ 1114111 := by
  have := all_in h
  unfold InD at this
  exact vr_bounds (of_decide_eq_true this).1
end Go.Proofs.Ytgddlcbaieclcaa.SpSeq
