/-
  What is known of data with which nothing is wrong; the words of ids, one behind the other.
-/
import Derived.Test.YtendkmldecoogaaDoorMoNew
namespace Go.Proofs.YtendkmldecoogaaDoor.Good
open Go Go.RowKit Go.Proofs.YtendkmldecoogaaDoor.Kit Go.Proofs.YtendkmldecoogaaDoor.Dt Go.Proofs.YtendkmldecoogaaDoor.Mo Go.Proofs.YtendkmldecoogaaDoor.MoNew Go.Proofs.YtendkmldecoogaaDoor.Ref5a

structure Good (D : Dt) : Prop where
  nm : D.nm ≤ 4096
  eq : D.nw = D.nm
  c4 : (chk4 D).1 = 0
  w : ∀ i, i < D.nw → badW D i = 0
  m : ∀ i, i < D.nm → badM D i = 0

theorem good {D : Dt} (h : chk D = (0, 0, 0)) : Good D := by
  unfold chk at h
  split at h
  · simp at h
  split at h
  · simp at h
  split at h
  · rename_i h3
    rw [h] at h3
    exact absurd rfl h3
  split at h
  · rename_i h4
    simp only [Prod.mk.injEq] at h
    exact absurd h.1 h4
  split at h
  · rename_i h5
    simp only [Prod.mk.injEq] at h
    exact absurd h.1 h5
  rename_i h1 h2 h3 h4 h5
  exact ⟨by omega, by omega, Decidable.not_not.1 h3, fun i hi => fb_zero _ _ (Decidable.not_not.1 h4) i (Nat.zero_le _) (by omega), fun i hi => fb_zero _ _ (Decidable.not_not.1 h5) i (Nat.zero_le _) (by omega)⟩

theorem of_mod {w : World} {mb : Nat} {D : Dt} (h : Mod w mb D) : Good D := Good.good h.ok

theorem Good.len {D : Dt} (h : Good D) {i : Nat} (hi : i < D.nw) : 2 ≤ (D.W i).size ∧ (D.W i).size ≤ 256 := by
  have := h.w i hi
  unfold badW at this
  split at this
  · simp at this
  · rename_i h1
    exact Decidable.not_not.1 h1

theorem Good.word_le {D : Dt} (h : Good D) (id : Int) : (word D id).size ≤ 256 := by
  unfold word
  split
  · show (ByteArray.mk _).size ≤ 256
    simp [ByteArray.size]
  · split
    · exact (h.len (by omega)).2
    · simp

theorem Good.word_pos {D : Dt} (h : Good D) {id : Int} (hi : isId D id) : 0 < (word D id).size := by
  unfold isId at hi
  unfold word
  split
  · show 0 < (ByteArray.mk _).size
    simp [ByteArray.size]
  · split
    · have := (h.len (i := (id - 256).toNat) (by omega)).1
      omega
    · omega

/-- The first of n ids that is none (n: there is none such). -/
def upto (D : Dt) (F : Nat → Int) : Nat → Nat
  | 0 => 0
  | n + 1 => if upto D F n = n ∧ isId D (F n) then n + 1 else upto D F n
theorem upto_le (D : Dt) (F : Nat → Int) : ∀ n, upto D F n ≤ n
  | 0 => Nat.le_refl _
  | n + 1 => by
    have := upto_le D F n
    unfold upto
    split <;> omega
theorem upto_succ {D : Dt} {F : Nat → Int} {n : Nat} (h : upto D F n = n) (hi : isId D (F n)) : upto D F (n + 1) = n + 1 := by
  unfold upto
  rw [if_pos ⟨h, hi⟩]
theorem upto_stop {D : Dt} {F : Nat → Int} {k : Nat} (h : upto D F k = k) (hi : ¬ isId D (F k)) : ∀ n, k < n → upto D F n = k
  | 0, hn => by omega
  | n + 1, hn => by
    rcases Nat.lt_or_ge k n with h1 | h1
    · have h2 := upto_stop h hi n h1
      unfold upto
      rw [if_neg (by omega)]
      exact h2
    · have : n = k := by omega
      subst this
      unfold upto
      rw [if_neg (fun h => hi h.2)]
      exact h
theorem upto_isId {D : Dt} {F : Nat → Int} : ∀ {n i : Nat}, i < upto D F n → isId D (F i)
  | 0, i, h => by simp [upto] at h
  | n + 1, i, h => by
    unfold upto at h
    split at h
    · rename_i h1
      rcases Nat.lt_or_ge i n with h2 | h2
      · exact upto_isId (n := n) (by omega)
      · have : i = n := by omega
        subst this
        exact h1.2
    · exact upto_isId h
theorem upto_at {D : Dt} {F : Nat → Int} : ∀ {n : Nat}, upto D F n < n → ¬ isId D (F (upto D F n))
  | 0, h => by omega
  | n + 1, h => by
    by_cases h1 : upto D F n = n ∧ isId D (F n)
    · have : upto D F (n + 1) = n + 1 := by unfold upto; rw [if_pos h1]
      omega
    · have h2 : upto D F (n + 1) = upto D F n := by
        show (if _ then _ else _) = _
        rw [if_neg h1]
      rw [h2]
      have h3 := upto_le D F n
      rcases Nat.lt_or_ge (upto D F n) n with h4 | h4
      · exact upto_at h4
      · have h5 : upto D F n = n := by omega
        rw [h5]
        exact fun h => h1 ⟨h5, h⟩
theorem upto_cong {D : Dt} {F G : Nat → Int} : ∀ {n : Nat}, (∀ i, i < n → F i = G i) → upto D F n = upto D G n
  | 0, _ => rfl
  | n + 1, h => by
    unfold upto
    rw [upto_cong (fun i hi => h i (by omega)), h n (by omega)]

/-- The words of the first k ids. -/
def txt (D : Dt) (F : Nat → Int) : Nat → ByteArray
  | 0 => ByteArray.empty
  | k + 1 => txt D F k ++ word D (F k)
theorem txt_size {D : Dt} (h : Good D) (F : Nat → Int) : ∀ k, (txt D F k).size ≤ 256 * k
  | 0 => by simp [txt]
  | k + 1 => by
    have h1 := txt_size h F k
    have h2 := h.word_le (F k)
    simp only [txt, ByteArray.size_append]
    omega
theorem txt_cong {D : Dt} {F G : Nat → Int} : ∀ {n : Nat}, (∀ i, i < n → F i = G i) → txt D F n = txt D G n
  | 0, _ => rfl
  | n + 1, h => by
    unfold txt
    rw [txt_cong (fun i hi => h i (by omega)), h n (by omega)]
theorem bytes_append (a b : ByteArray) : (a ++ b).data.toList = a.data.toList ++ b.data.toList := by simp

/-- Word, of a right model. -/
theorem Word_mod {w : World} {mb : Nat} {D : Dt} (h : Mod w mb D) (id : Int) (hid : -9223372036854775808 ≤ id ∧ id ≤ 9223372036854775807) :
    Calls Tryd.prog 77 #[.pointer (some ⟨mb, 0, none⟩), .int .i64 id] w fun e w' => e = .returned (.tuple #[.string (word D id), .bool (decide (isId D id))]) ∧ Below w.heap.size w w' := by
  obtain ⟨q, tb, p, mp, h1, h2, _⟩ := h.ex
  exact Mo.Word_calls w mb D q _ mp _ h1 h2.rw h.nw id hid
theorem Size_mod {w : World} {mb : Nat} {D : Dt} (h : Mod w mb D) :
    Calls Tryd.prog 111 #[.pointer (some ⟨mb, 0, none⟩)] w fun x w' => x = .returned (.int .i64 (256 + D.nw)) ∧ w = w' := by
  obtain ⟨q, tb, p, mp, h1, _⟩ := h.ex
  exact Mo.Size_calls w mb D q _ mp _ h1 h.nw
end Go.Proofs.YtendkmldecoogaaDoor.Good
