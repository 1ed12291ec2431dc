/-
  Items of bytes, in plain Lean: what stands at a place; the reading of the model's decoder.
-/
import GoSem.Core.Utf8
namespace Go.Proofs.YtendkmldecoogaaDoor.Utf
open Go

/-- Byte k of a text; 0 behind its end. -/
def by' (l : List UInt8) (k : Nat) : Nat := (l.getD k 0).toNat
theorem by_lt (l : List UInt8) (k : Nat) : by' l k < 256 := (l.getD k 0).toBitVec.isLt

def need (c : Nat) : Nat := if 194 ≤ c ∧ c ≤ 223 then 2 else if 224 ≤ c ∧ c ≤ 239 then 3 else if 240 ≤ c ∧ c ≤ 244 then 4 else 0
def second (c d : Nat) : Bool := decide ((if c = 224 then 160 else if c = 240 then 144 else 128) ≤ d ∧ d ≤ (if c = 237 then 159 else if c = 244 then 143 else 191))
/-- May byte n stand there? -/
def ok (l : List UInt8) (n : Nat) : Bool := if n = 1 then second (by' l 0) (by' l 1) else decide (128 ≤ by' l n ∧ by' l n ≤ 191)
def fitsF (l : List UInt8) (most : Nat) : Nat → Nat → Nat
  | 0, n => n
  | f + 1, n => if n < most ∧ n < l.length then (if ok l n = true then fitsF l most f (n + 1) else n) else n
def fits (l : List UInt8) (most : Nat) : Nat := fitsF l most 4 1
/-- The bytes of the well-formed sequence that begins a text; 0: none. -/
def width (l : List UInt8) : Nat := if by' l 0 < 128 then 1 else if need (by' l 0) = 0 ∨ fits l (need (by' l 0)) < need (by' l 0) then 0 else need (by' l 0)
/-- The bytes of the longest beginning. -/
def begins (l : List UInt8) : Nat := if need (by' l 0) = 0 then 0 else fits l (need (by' l 0) - 1)
def rune (l : List UInt8) (n : Nat) : Nat :=
  if n = 1 then by' l 0 else if n = 2 then by' l 0 % 32 * 64 + by' l 1 % 64 else if n = 3 then (by' l 0 % 16 * 64 + by' l 1 % 64) * 64 + by' l 2 % 64
  else ((by' l 0 % 8 * 64 + by' l 1 % 64) * 64 + by' l 2 % 64) * 64 + by' l 3 % 64

theorem width_cases (l : List UInt8) : (width l = 1 ∧ by' l 0 < 128) ∨ (width l = 2 ∧ 194 ≤ by' l 0 ∧ by' l 0 ≤ 223 ∧ 1 < l.length ∧ ok l 1 = true) ∨
    (width l = 3 ∧ 224 ≤ by' l 0 ∧ by' l 0 ≤ 239 ∧ 2 < l.length ∧ ok l 1 = true ∧ ok l 2 = true) ∨ (width l = 4 ∧ 240 ≤ by' l 0 ∧ by' l 0 ≤ 244 ∧ 3 < l.length ∧ ok l 1 = true ∧ ok l 2 = true ∧ ok l 3 = true) ∨
    (width l = 0 ∧ 128 ≤ by' l 0 ∧ ¬ (194 ≤ by' l 0 ∧ by' l 0 ≤ 223 ∧ 1 < l.length ∧ ok l 1 = true) ∧ ¬ (224 ≤ by' l 0 ∧ by' l 0 ≤ 239 ∧ 2 < l.length ∧ ok l 1 = true ∧ ok l 2 = true) ∧ ¬ (240 ≤ by' l 0 ∧ by' l 0 ≤ 244 ∧ 3 < l.length ∧ ok l 1 = true ∧ ok l 2 = true ∧ ok l 3 = true)) := by
  unfold width
  by_cases h0 : by' l 0 < 128
  · rw [if_pos h0]; exact .inl ⟨rfl, h0⟩
  rw [if_neg h0]
  by_cases h2 : 194 ≤ by' l 0 ∧ by' l 0 ≤ 223
  · have hn : need (by' l 0) = 2 := by unfold need; rw [if_pos h2]
    rw [hn]
    by_cases hl : 1 < l.length
    · by_cases hk : ok l 1 = true
      · have : fits l 2 = 2 := by simp [fits, fitsF, hl, hk]
        rw [this]
        exact .inr (.inl ⟨rfl, h2.1, h2.2, hl, hk⟩)
      · have : fits l 2 = 1 := by simp [fits, fitsF, hl, hk]
        rw [this]
        exact .inr (.inr (.inr (.inr ⟨rfl, by omega, fun h => hk h.2.2.2, fun h => by omega, fun h => by omega⟩)))
    · have : fits l 2 = 1 := by simp [fits, fitsF, hl]
      rw [this]
      exact .inr (.inr (.inr (.inr ⟨rfl, by omega, fun h => hl h.2.2.1, fun h => by omega, fun h => by omega⟩)))
  by_cases h3 : 224 ≤ by' l 0 ∧ by' l 0 ≤ 239
  · have hn : need (by' l 0) = 3 := by unfold need; rw [if_neg h2, if_pos h3]
    rw [hn]
    by_cases hall : 2 < l.length ∧ ok l 1 = true ∧ ok l 2 = true
    · obtain ⟨hl, hk, hk2⟩ := hall
      have hl1 : 1 < l.length := by omega
      have : fits l 3 = 3 := by simp [fits, fitsF, hl, hl1, hk, hk2]
      rw [this]
      exact .inr (.inr (.inl ⟨rfl, h3.1, h3.2, hl, hk, hk2⟩))
    · have : fits l 3 < 3 := by
        simp only [fits, fitsF]
        repeat' split
        all_goals first | omega | (exfalso; apply hall; refine ⟨?_, ?_, ?_⟩ <;> first | assumption | omega)
      rw [if_pos (.inr this)]
      exact .inr (.inr (.inr (.inr ⟨rfl, by omega, fun h => by omega, fun h => hall h.2.2, fun h => by omega⟩)))
  by_cases h4 : 240 ≤ by' l 0 ∧ by' l 0 ≤ 244
  · have hn : need (by' l 0) = 4 := by unfold need; rw [if_neg h2, if_neg h3, if_pos h4]
    rw [hn]
    by_cases hall : 3 < l.length ∧ ok l 1 = true ∧ ok l 2 = true ∧ ok l 3 = true
    · obtain ⟨hl, hk, hk2, hk3⟩ := hall
      have hl1 : 1 < l.length := by omega
      have hl2 : 2 < l.length := by omega
      have : fits l 4 = 4 := by simp [fits, fitsF, hl, hl1, hl2, hk, hk2, hk3]
      rw [this]
      exact .inr (.inr (.inr (.inl ⟨rfl, h4.1, h4.2, hl, hk, hk2, hk3⟩)))
    · have : fits l 4 < 4 := by
        simp only [fits, fitsF]
        repeat' split
        all_goals first | omega | (exfalso; apply hall; refine ⟨?_, ?_, ?_, ?_⟩ <;> first | assumption | omega)
      rw [if_pos (.inr this)]
      exact .inr (.inr (.inr (.inr ⟨rfl, by omega, fun h => by omega, fun h => by omega, fun h => hall h.2.2⟩)))
  · have hn : need (by' l 0) = 0 := by unfold need; rw [if_neg h2, if_neg h3, if_neg h4]
    rw [hn]
    exact .inr (.inr (.inr (.inr ⟨rfl, by omega, fun h => h2 ⟨h.1, h.2.1⟩, fun h => h3 ⟨h.1, h.2.1⟩, fun h => h4 ⟨h.1, h.2.1⟩⟩)))

/-- What the model's decoder answers at a text that isn't empty. -/
def dec (l : List UInt8) : Nat × Nat := if width l = 0 then (65533, 1) else (rune l (width l), width l)

theorem get_by (s : ByteArray) (k : Nat) (h : k < s.size) : (s.get! k).toNat = by' s.data.toList k := by
  cases s with
  | mk d =>
    have hd : k < d.size := h
    have h1 : (ByteArray.mk d).get! k = d[k] := getElem!_pos d k hd
    rw [h1]
    unfold by'
    simp [List.getD, hd]

theorem ok1 (l : List UInt8) : ok l 1 = true ↔ (128 ≤ by' l 1 ∧ by' l 1 ≤ 191 ∧ (by' l 0 = 224 → 160 ≤ by' l 1) ∧ (by' l 0 = 240 → 144 ≤ by' l 1) ∧ (by' l 0 = 237 → by' l 1 ≤ 159) ∧ (by' l 0 = 244 → by' l 1 ≤ 143)) := by
  unfold ok second
  simp only [if_true, decide_eq_true_eq]
  constructor
  · rintro ⟨h1, h2⟩
    split at h1 <;> split at h2 <;> (try split at h1) <;> (try split at h2) <;> omega
  · rintro ⟨h1, h2, h3, h4, h5, h6⟩
    constructor
    · split
      · omega
      · split <;> omega
    · split
      · omega
      · split <;> omega
theorem ok2 (l : List UInt8) : ok l 2 = true ↔ (128 ≤ by' l 2 ∧ by' l 2 ≤ 191) := by unfold ok; simp
theorem ok3 (l : List UInt8) : ok l 3 = true ↔ (128 ≤ by' l 3 ∧ by' l 3 ≤ 191) := by unfold ok; simp

theorem decode_dec (s : ByteArray) (h : 0 < s.size) : Utf8.decode s 0 = dec s.data.toList := by
  have hsz : s.data.toList.length = s.size := by simp
  have b0 := get_by s 0 h
  have b1 := get_by s 1
  have b2 := get_by s 2
  have b3 := get_by s 3
  have l0 := by_lt s.data.toList 0
  have l1 := by_lt s.data.toList 1
  have l2 := by_lt s.data.toList 2
  have l3 := by_lt s.data.toList 3
  have hw := width_cases s.data.toList
  rw [ok1, ok2, ok3, hsz] at hw
  unfold Utf8.decode dec
  simp only [Nat.zero_add, b0, Utf8.valid, Bool.and_eq_true, Bool.or_eq_true, decide_eq_true_eq, beq_iff_eq, ge_iff_le, Utf8.runeError]
  generalize hc1 : by' s.data.toList 1 = c1 at *
  generalize hc2 : by' s.data.toList 2 = c2 at *
  generalize hc3 : by' s.data.toList 3 = c3 at *
  generalize hc0 : by' s.data.toList 0 = c0 at *
  rcases hw with ⟨hw, h0⟩ | ⟨hw, h0, h1, hl, hk⟩ | ⟨hw, h0, h1, hl, hk, hk2⟩ | ⟨hw, h0, h1, hl, hk, hk2, hk3⟩ | ⟨hw, h0, n2, n3, n4⟩
  · rw [hw, if_pos h0]
    simp [rune, hc0]
  · rw [hw, b1 hl, if_neg (by omega), if_pos ⟨by omega, hl, by omega⟩, if_pos (by omega)]
    simp [rune, hc0, hc1]
  · rw [hw, b1 (by omega), b2 hl, if_neg (by omega), if_neg (by omega), if_pos ⟨⟨by omega, by omega, by omega⟩, hl, by omega⟩, if_pos ⟨by omega, by omega⟩]
    simp only [rune, hc0, hc1, hc2]
    simp
    omega
  · rw [hw, b1 (by omega), b2 (by omega), b3 hl, if_neg (by omega), if_neg (by omega), if_neg (by omega), if_pos ⟨⟨⟨by omega, by omega, by omega⟩, by omega, by omega⟩, hl, by omega⟩, if_pos ⟨by omega, by omega⟩]
    simp only [rune, hc0, hc1, hc2, hc3]
    simp
    omega
  · rw [hw, if_neg (by omega), if_pos rfl]
    split
    · rename_i hA
      have e1 := b1 hA.2.1
      rw [e1] at hA ⊢
      rw [if_neg (by omega)]
    split
    · rename_i _ hA
      have e1 := b1 hA.1.2.1
      have e2 := b2 hA.2.1
      rw [e1, e2] at hA ⊢
      rw [if_neg]
      rintro ⟨h5, h6⟩
      omega
    split
    · rename_i _ _ hA
      have e1 := b1 hA.1.1.2.1
      have e2 := b2 hA.1.2.1
      have e3 := b3 hA.2.1
      rw [e1, e2, e3] at hA ⊢
      rw [if_neg]
      rintro ⟨h5, h6⟩
      omega
    · rfl
end Go.Proofs.YtendkmldecoogaaDoor.Utf
