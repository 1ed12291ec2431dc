/-
  Items of bytes, in plain Lean: what stands at a place; the reading of the model's decoder. Items of bytes as plain lists; kinds; the pre-tokens by items and by bytes. The items that are complete, and from where on bytes are held. Pure laws of UTF-8: beginnings, tails, replaced texts.
-/
import GoSem.Core.Utf8
import Derived.Lib.DecodeNEq
import Derived.Lib.RuneBytes
namespace Go.Proofs.YtkjkgpdfhmoenaaDoor.Utf
open Go

/-- Byte k of a text; 0 behind its end. -/
def by' (l : List UInt8) (k : Nat) : Nat := (l.getD k 0).toNat
theorem by_lt (l : List UInt8) (k : Nat) : by' l k < 256 := (l.getD k 0).toBitVec.isLt

def need (c : Nat) : Nat := if 194 ≤ c ∧ c ≤ 223 then 2 else if 224 ≤ c ∧ c ≤ 239 then 3 else if 240 ≤ c ∧ c ≤ 244 then 4 else 0
def second (c d : Nat) : Bool := decide ((if c = 224 then 160 else if c = 240 then 144 else 128) ≤ d ∧ d ≤ (if c = 237 then 159 else if c = 244 then 143 else 191))
/-- May byte n stand there? -/
def ok (l : List UInt8) (n : Nat) : Bool := if n = 1 then second (by' l 0) (by' l 1) else decide (128 ≤ by' l n ∧ by' l n ≤ 191)
def fitsF (l : List UInt8) (most : Nat) : Nat → Nat → Nat
  | 0, n => n
  | f + 1, n => if n < most ∧ n < l.length then (if ok l n = true then fitsF l most f (n + 1) else n) else n
def fits (l : List UInt8) (most : Nat) : Nat := fitsF l most 4 1
/-- The bytes of the well-formed sequence that begins a text; 0: none. -/
def width (l : List UInt8) : Nat := if by' l 0 < 128 then 1 else if need (by' l 0) = 0 ∨ fits l (need (by' l 0)) < need (by' l 0) then 0 else need (by' l 0)
/-- The bytes of the longest beginning. -/
def begins (l : List UInt8) : Nat := if need (by' l 0) = 0 then 0 else fits l (need (by' l 0) - 1)
def rune (l : List UInt8) (n : Nat) : Nat :=
  if n = 1 then by' l 0 else if n = 2 then by' l 0 % 32 * 64 + by' l 1 % 64 else if n = 3 then (by' l 0 % 16 * 64 + by' l 1 % 64) * 64 + by' l 2 % 64
  else ((by' l 0 % 8 * 64 + by' l 1 % 64) * 64 + by' l 2 % 64) * 64 + by' l 3 % 64

theorem width_cases (l : List UInt8) : (width l = 1 ∧ by' l 0 < 128) ∨ (width l = 2 ∧ 194 ≤ by' l 0 ∧ by' l 0 ≤ 223 ∧ 1 < l.length ∧ ok l 1 = true) ∨
    (width l = 3 ∧ 224 ≤ by' l 0 ∧ by' l 0 ≤ 239 ∧ 2 < l.length ∧ ok l 1 = true ∧ ok l 2 = true) ∨ (width l = 4 ∧ 240 ≤ by' l 0 ∧ by' l 0 ≤ 244 ∧ 3 < l.length ∧ ok l 1 = true ∧ ok l 2 = true ∧ ok l 3 = true) ∨
    (width l = 0 ∧ 128 ≤ by' l 0 ∧ ¬ (194 ≤ by' l 0 ∧ by' l 0 ≤ 223 ∧ 1 < l.length ∧ ok l 1 = true) ∧ ¬ (224 ≤ by' l 0 ∧ by' l 0 ≤ 239 ∧ 2 < l.length ∧ ok l 1 = true ∧ ok l 2 = true) ∧ ¬ (240 ≤ by' l 0 ∧ by' l 0 ≤ 244 ∧ 3 < l.length ∧ ok l 1 = true ∧ ok l 2 = true ∧ ok l 3 = true)) := by
  unfold width
  by_cases h0 : by' l 0 < 128
  · rw [if_pos h0]; exact .inl ⟨rfl, h0⟩
  rw [if_neg h0]
  by_cases h2 : 194 ≤ by' l 0 ∧ by' l 0 ≤ 223
  · have hn : need (by' l 0) = 2 := by unfold need; rw [if_pos h2]
    rw [hn]
    by_cases hl : 1 < l.length
    · by_cases hk : ok l 1 = true
      · have : fits l 2 = 2 := by simp [fits, fitsF, hl, hk]
        rw [this]
        exact .inr (.inl ⟨rfl, h2.1, h2.2, hl, hk⟩)
      · have : fits l 2 = 1 := by simp [fits, fitsF, hl, hk]
        rw [this]
        exact .inr (.inr (.inr (.inr ⟨rfl, by omega, fun h => hk h.2.2.2, fun h => by omega, fun h => by omega⟩)))
    · have : fits l 2 = 1 := by simp [fits, fitsF, hl]
      rw [this]
      exact .inr (.inr (.inr (.inr ⟨rfl, by omega, fun h => hl h.2.2.1, fun h => by omega, fun h => by omega⟩)))
  by_cases h3 : 224 ≤ by' l 0 ∧ by' l 0 ≤ 239
  · have hn : need (by' l 0) = 3 := by unfold need; rw [if_neg h2, if_pos h3]
    rw [hn]
    by_cases hall : 2 < l.length ∧ ok l 1 = true ∧ ok l 2 = true
    · obtain ⟨hl, hk, hk2⟩ := hall
      have hl1 : 1 < l.length := by omega
      have : fits l 3 = 3 := by simp [fits, fitsF, hl, hl1, hk, hk2]
      rw [this]
      exact .inr (.inr (.inl ⟨rfl, h3.1, h3.2, hl, hk, hk2⟩))
    · have : fits l 3 < 3 := by
        simp only [fits, fitsF]
        repeat' split
        all_goals first | omega | (exfalso; apply hall; refine ⟨?_, ?_, ?_⟩ <;> first | assumption | omega)
      rw [if_pos (.inr this)]
      exact .inr (.inr (.inr (.inr ⟨rfl, by omega, fun h => by omega, fun h => hall h.2.2, fun h => by omega⟩)))
  by_cases h4 : 240 ≤ by' l 0 ∧ by' l 0 ≤ 244
  · have hn : need (by' l 0) = 4 := by unfold need; rw [if_neg h2, if_neg h3, if_pos h4]
    rw [hn]
    by_cases hall : 3 < l.length ∧ ok l 1 = true ∧ ok l 2 = true ∧ ok l 3 = true
    · obtain ⟨hl, hk, hk2, hk3⟩ := hall
      have hl1 : 1 < l.length := by omega
      have hl2 : 2 < l.length := by omega
      have : fits l 4 = 4 := by simp [fits, fitsF, hl, hl1, hl2, hk, hk2, hk3]
      rw [this]
      exact .inr (.inr (.inr (.inl ⟨rfl, h4.1, h4.2, hl, hk, hk2, hk3⟩)))
    · have : fits l 4 < 4 := by
        simp only [fits, fitsF]
        repeat' split
        all_goals first | omega | (exfalso; apply hall; refine ⟨?_, ?_, ?_, ?_⟩ <;> first | assumption | omega)
      rw [if_pos (.inr this)]
      exact .inr (.inr (.inr (.inr ⟨rfl, by omega, fun h => by omega, fun h => by omega, fun h => hall h.2.2⟩)))
  · have hn : need (by' l 0) = 0 := by unfold need; rw [if_neg h2, if_neg h3, if_neg h4]
    rw [hn]
    exact .inr (.inr (.inr (.inr ⟨rfl, by omega, fun h => h2 ⟨h.1, h.2.1⟩, fun h => h3 ⟨h.1, h.2.1⟩, fun h => h4 ⟨h.1, h.2.1⟩⟩)))

/-- What the model's decoder answers at a text that isn't empty. -/
def dec (l : List UInt8) : Nat × Nat := if width l = 0 then (65533, 1) else (rune l (width l), width l)

theorem get_by (s : ByteArray) (k : Nat) (h : k < s.size) : (s.get! k).toNat = by' s.data.toList k := by
  cases s with
  | mk d =>
    have hd : k < d.size := h
    have h1 : (ByteArray.mk d).get! k = d[k] := getElem!_pos d k hd
    rw [h1]
    unfold by'
    simp [List.getD, hd]

theorem ok1 (l : List UInt8) : ok l 1 = true ↔ (128 ≤ by' l 1 ∧ by' l 1 ≤ 191 ∧ (by' l 0 = 224 → 160 ≤ by' l 1) ∧ (by' l 0 = 240 → 144 ≤ by' l 1) ∧ (by' l 0 = 237 → by' l 1 ≤ 159) ∧ (by' l 0 = 244 → by' l 1 ≤ 143)) := by
  unfold ok second
  simp only [if_true, decide_eq_true_eq]
  constructor
  · rintro ⟨h1, h2⟩
    split at h1 <;> split at h2 <;> (try split at h1) <;> (try split at h2) <;> omega
  · rintro ⟨h1, h2, h3, h4, h5, h6⟩
    constructor
    · split
      · omega
      · split <;> omega
    · split
      · omega
      · split <;> omega
theorem ok2 (l : List UInt8) : ok l 2 = true ↔ (128 ≤ by' l 2 ∧ by' l 2 ≤ 191) := by unfold ok; simp
theorem ok3 (l : List UInt8) : ok l 3 = true ↔ (128 ≤ by' l 3 ∧ by' l 3 ≤ 191) := by unfold ok; simp

theorem decode_dec (s : ByteArray) (h : 0 < s.size) : Utf8.decode s 0 = dec s.data.toList := by
  have hsz : s.data.toList.length = s.size := by simp
  have b0 := get_by s 0 h
  have b1 := get_by s 1
  have b2 := get_by s 2
  have b3 := get_by s 3
  have l0 := by_lt s.data.toList 0
  have l1 := by_lt s.data.toList 1
  have l2 := by_lt s.data.toList 2
  have l3 := by_lt s.data.toList 3
  have hw := width_cases s.data.toList
  rw [ok1, ok2, ok3, hsz] at hw
  unfold Utf8.decode dec
  simp only [Nat.zero_add, b0, Utf8.valid, Bool.and_eq_true, Bool.or_eq_true, decide_eq_true_eq, beq_iff_eq, ge_iff_le, Utf8.runeError]
  generalize hc1 : by' s.data.toList 1 = c1 at *
  generalize hc2 : by' s.data.toList 2 = c2 at *
  generalize hc3 : by' s.data.toList 3 = c3 at *
  generalize hc0 : by' s.data.toList 0 = c0 at *
  rcases hw with ⟨hw, h0⟩ | ⟨hw, h0, h1, hl, hk⟩ | ⟨hw, h0, h1, hl, hk, hk2⟩ | ⟨hw, h0, h1, hl, hk, hk2, hk3⟩ | ⟨hw, h0, n2, n3, n4⟩
  · rw [hw, if_pos h0]
    simp [rune, hc0]
  · rw [hw, b1 hl, if_neg (by omega), if_pos ⟨by omega, hl, by omega⟩, if_pos (by omega)]
    simp [rune, hc0, hc1]
  · rw [hw, b1 (by omega), b2 hl, if_neg (by omega), if_neg (by omega), if_pos ⟨⟨by omega, by omega, by omega⟩, hl, by omega⟩, if_pos ⟨by omega, by omega⟩]
    simp only [rune, hc0, hc1, hc2]
    simp
    omega
  · rw [hw, b1 (by omega), b2 (by omega), b3 hl, if_neg (by omega), if_neg (by omega), if_neg (by omega), if_pos ⟨⟨⟨by omega, by omega, by omega⟩, by omega, by omega⟩, hl, by omega⟩, if_pos ⟨by omega, by omega⟩]
    simp only [rune, hc0, hc1, hc2, hc3]
    simp
    omega
  · rw [hw, if_neg (by omega), if_pos rfl]
    split
    · rename_i hA
      have e1 := b1 hA.2.1
      rw [e1] at hA ⊢
      rw [if_neg (by omega)]
    split
    · rename_i _ hA
      have e1 := b1 hA.1.2.1
      have e2 := b2 hA.2.1
      rw [e1, e2] at hA ⊢
      rw [if_neg]
      rintro ⟨h5, h6⟩
      omega
    split
    · rename_i _ _ hA
      have e1 := b1 hA.1.1.2.1
      have e2 := b2 hA.1.2.1
      have e3 := b3 hA.2.1
      rw [e1, e2, e3] at hA ⊢
      rw [if_neg]
      rintro ⟨h5, h6⟩
      omega
    · rfl
end Go.Proofs.YtkjkgpdfhmoenaaDoor.Utf
namespace Go.Proofs.YtkjkgpdfhmoenaaDoor.It
open Go Go.Proofs.YtkjkgpdfhmoenaaDoor.Utf

/-- What stands at a place. -/
structure It where
  from' : Nat
  bytes : Nat
  rune : Nat
  bad : Bool
deriving Inhabited, DecidableEq

/-- The item that begins a text. -/
def one (a : Nat) (l : List UInt8) : It := ⟨a, (dec l).2, (dec l).1, decide (width l = 0)⟩
theorem one_bytes (a : Nat) (l : List UInt8) : (one a l).bytes = if width l = 0 then 1 else width l := by
  unfold one dec
  split <;> rfl
theorem one_pos (a : Nat) (l : List UInt8) : 0 < (one a l).bytes := by
  rw [one_bytes]
  split <;> omega
theorem width_le {l : List UInt8} (h : l ≠ []) : width l ≤ l.length := by
  have : 0 < l.length := List.length_pos_iff.2 h
  rcases width_cases l with h | h | h | h | h <;> omega
theorem one_le (a : Nat) {l : List UInt8} (h : l ≠ []) : (one a l).bytes ≤ l.length := by
  have := width_le h
  have : 0 < l.length := List.length_pos_iff.2 h
  rw [one_bytes]
  split <;> omega

def itemsF : Nat → Nat → List UInt8 → List It
  | 0, _, _ => []
  | f + 1, a, l => if l = [] then [] else one a l :: itemsF f (a + (one a l).bytes) (l.drop (one a l).bytes)
def items (a : Nat) (l : List UInt8) : List It := itemsF l.length a l

theorem itemsF_more : ∀ (f a : Nat) (l : List UInt8), l.length ≤ f → itemsF f a l = itemsF l.length a l
  | 0, a, l, h => by
    have : l.length = 0 := by omega
    rw [this]
  | f + 1, a, l, h => by
    by_cases hl : l = []
    · subst hl; simp [itemsF]
    · have h1 := one_pos a l
      have h2 : 0 < l.length := List.length_pos_iff.2 hl
      have e : l.length = l.length - 1 + 1 := by omega
      have h3 : (l.drop (one a l).bytes).length ≤ l.length - 1 := by rw [List.length_drop]; omega
      rw [e]
      simp only [itemsF, if_neg hl]
      rw [itemsF_more f _ _ (by omega), itemsF_more (l.length - 1) _ _ h3]

theorem items_nil (a : Nat) : items a [] = [] := rfl
theorem items_cons (a : Nat) {l : List UInt8} (h : l ≠ []) : items a l = one a l :: items (a + (one a l).bytes) (l.drop (one a l).bytes) := by
  have h1 := one_pos a l
  have h2 : 0 < l.length := List.length_pos_iff.2 h
  have e : l.length = l.length - 1 + 1 := by omega
  unfold items
  rw [e]
  simp only [itemsF, if_neg h]
  rw [itemsF_more]
  rw [List.length_drop]; omega

theorem items_ne {a : Nat} {l : List UInt8} (h : l ≠ []) : items a l ≠ [] := by
  rw [items_cons a h]; exact List.cons_ne_nil _ _
theorem items_eq_nil {a : Nat} {l : List UInt8} (h : items a l = []) : l = [] := Classical.byContradiction fun h1 => items_ne h1 h

/-- A strong induction over a text's items. -/
theorem ind {P : List UInt8 → Prop} (h0 : P []) (h1 : ∀ l, l ≠ [] → P (l.drop (one 0 l).bytes) → P l) (l : List UInt8) : P l := by
  generalize hn : l.length = n
  induction n using Nat.strongRecOn generalizing l with
  | _ n ih =>
    by_cases hl : l = []
    · subst hl; exact h0
    · refine h1 l hl (ih _ ?_ _ rfl)
      have := one_pos 0 l
      have : 0 < l.length := List.length_pos_iff.2 hl
      rw [List.length_drop]; omega

def shift (c : Nat) (x : It) : It := { x with from' := c + x.from' }
theorem one_shift (c a : Nat) (l : List UInt8) : one (c + a) l = shift c (one a l) := rfl
theorem one_bytes_eq (a b : Nat) (l : List UInt8) : (one a l).bytes = (one b l).bytes := rfl
theorem items_shift (c : Nat) (l : List UInt8) : ∀ a, items (c + a) l = (items a l).map (shift c) := by
  induction l using ind with
  | h0 => intro a; rfl
  | h1 l hl ih =>
    intro a
    rw [items_cons _ hl, items_cons a hl, List.map_cons, ← one_shift, one_bytes_eq (c + a) 0, one_bytes_eq a 0, Nat.add_assoc, ih]

/-- How many bytes items have. -/
def sum (L : List It) : Nat := (L.map It.bytes).sum
@[simp] theorem sum_nil : sum [] = 0 := rfl
@[simp] theorem sum_cons (x : It) (L : List It) : sum (x :: L) = x.bytes + sum L := by simp [sum]
theorem sum_append (L M : List It) : sum (L ++ M) = sum L + sum M := by simp [sum]
theorem sum_shift (c : Nat) (L : List It) : sum (L.map (shift c)) = sum L := by
  unfold sum
  rw [List.map_map]
  rfl
theorem sum_items (l : List UInt8) : ∀ a, sum (items a l) = l.length := by
  induction l using ind with
  | h0 => intro a; rfl
  | h1 l hl ih =>
    intro a
    have := one_le a hl
    rw [items_cons a hl, sum_cons, one_bytes_eq a 0, ih, List.length_drop]
    have := one_le 0 hl
    omega
theorem items_len (l : List UInt8) : ∀ a, (items a l).length ≤ l.length := by
  induction l using ind with
  | h0 => intro a; simp [items_nil]
  | h1 l hl ih =>
    intro a
    have h1 := one_pos 0 l
    have h2 := one_le 0 hl
    have h3 := ih (a + (one 0 l).bytes)
    rw [items_cons a hl, List.length_cons, one_bytes_eq a 0]
    rw [List.length_drop] at h3
    omega

theorem items_pos {a : Nat} {l : List UInt8} {x : It} : x ∈ items a l → 0 < x.bytes := by
  induction l using ind generalizing a with
  | h0 => intro h; simp [items_nil] at h
  | h1 l hl ih =>
    intro h
    rw [items_cons a hl, List.mem_cons] at h
    rcases h with rfl | h
    · exact one_pos _ _
    · exact ih h

/-- Items from the c-th on are those of the bytes from there on. -/
theorem items_drop (c : Nat) : ∀ (a : Nat) (l : List UInt8), (items a l).drop c = items (a + sum ((items a l).take c)) (l.drop (sum ((items a l).take c))) := by
  induction c with
  | zero => intro a l; simp
  | succ c ih =>
    intro a l
    by_cases hl : l = []
    · subst hl; simp [items_nil]
    · rw [items_cons a hl, List.drop_succ_cons, List.take_succ_cons, sum_cons, ih, Nat.add_assoc, List.drop_drop]
theorem sum_take_le (c a : Nat) (l : List UInt8) : sum ((items a l).take c) ≤ l.length := by
  rw [← sum_items l a]
  conv => rhs; rw [← List.take_append_drop c (items a l), sum_append]
  omega
theorem sum_take_succ {a : Nat} {l : List UInt8} {c : Nat} (h : c < (items a l).length) : sum ((items a l).take (c + 1)) = sum ((items a l).take c) + ((items a l).getD c default).bytes := by
  rw [List.take_add_one, sum_append]
  simp [List.getD, h]
theorem sum_take_lt {a : Nat} {l : List UInt8} {c : Nat} (h : c < (items a l).length) : sum ((items a l).take c) < l.length := by
  have h1 := sum_take_le (c + 1) a l
  rw [sum_take_succ h] at h1
  have : 0 < ((items a l).getD c default).bytes := by
    apply items_pos (a := a) (l := l)
    simp only [List.getD, List.getElem?_eq_getElem h, Option.getD_some]
    exact List.getElem_mem h
  omega
/-- Where the c-th item begins. -/
theorem from_at {a : Nat} {l : List UInt8} {c : Nat} (h : c < (items a l).length) : ((items a l).getD c default) = one (a + sum ((items a l).take c)) (l.drop (sum ((items a l).take c))) := by
  have h1 := items_drop c a l
  have h2 : l.drop (sum ((items a l).take c)) ≠ [] := by
    intro h3
    rw [h3, items_nil, List.drop_eq_nil_iff] at h1
    omega
  rw [items_cons _ h2] at h1
  have h3 : ((items a l).drop c).head? = (items a l)[c]? := by rw [List.head?_drop]
  rw [h1] at h3
  simp only [List.head?_cons] at h3
  simp [List.getD, ← h3]

/-! ### Bytes that continue -/
theorem width_zero_of {l : List UInt8} (h1 : 128 ≤ by' l 0) (h2 : by' l 0 ≤ 193) : width l = 0 := by
  rcases width_cases l with h | h | h | h | h <;> omega
/-- All bytes from here on are bad. -/
def allBad (a : Nat) : List UInt8 → List It
  | [] => []
  | _ :: l => ⟨a, 1, 65533, true⟩ :: allBad (a + 1) l
theorem one_bad {a : Nat} {l : List UInt8} (h : width l = 0) : one a l = ⟨a, 1, 65533, true⟩ := by
  unfold one dec
  rw [if_pos h, h]
  rfl
theorem items_bad {a : Nat} {l : List UInt8} (h : width l = 0) (hl : l ≠ []) : items a l = ⟨a, 1, 65533, true⟩ :: items (a + 1) (l.drop 1) := by
  rw [items_cons a hl, one_bad h]
theorem items_good {a : Nat} {l : List UInt8} (h : width l ≠ 0) (hl : l ≠ []) : items a l = ⟨a, width l, rune l (width l), false⟩ :: items (a + width l) (l.drop (width l)) := by
  have : one a l = ⟨a, width l, rune l (width l), false⟩ := by
    unfold one dec
    rw [if_neg h]
    simp [h]
  rw [items_cons a hl, this]

/-- Byte k of what is left. -/
theorem by_drop (l : List UInt8) (c k : Nat) : by' (l.drop c) k = by' l (c + k) := by
  unfold by'
  simp [List.getD]
theorem fitsF_ok {l : List UInt8} {most : Nat} : ∀ (f n k : Nat), n ≤ k → k < fitsF l most f n → ok l k = true ∧ k < l.length ∧ k < most
  | 0, n, k, h1, h2 => by simp only [fitsF] at h2; omega
  | f + 1, n, k, h1, h2 => by
    simp only [fitsF] at h2
    split at h2
    · rename_i h3
      split at h2
      · rename_i h4
        rcases Nat.lt_or_ge n k with h5 | h5
        · exact fitsF_ok f (n + 1) k (by omega) h2
        · have : n = k := by omega
          subst this
          exact ⟨h4, h3.2, h3.1⟩
      · omega
    · omega
theorem ok_range {l : List UInt8} {k : Nat} (h : ok l k = true) : 128 ≤ by' l k ∧ by' l k ≤ 191 := by
  by_cases hk : k = 1
  · subst hk
    rw [ok1] at h
    omega
  · unfold ok at h
    rw [if_neg hk] at h
    simpa using h
/-- A beginning goes on with bytes that continue. -/
theorem begins_tail {l : List UInt8} {k : Nat} (h1 : 1 ≤ k) (h2 : k < begins l) : 128 ≤ by' l k ∧ by' l k ≤ 191 := by
  unfold begins at h2
  split at h2
  · omega
  · exact ok_range (fitsF_ok 4 1 k h1 h2).1
theorem begins_end {l : List UInt8} (h : begins l = l.length) (hw : width l = 0) : ∀ k, k < l.length → width (l.drop k) = 0 := by
  intro k hk
  by_cases h0 : k = 0
  · subst h0; simpa using hw
  · have := begins_tail (l := l) (k := k) (by omega) (by omega)
    apply width_zero_of
    · rw [by_drop]; exact this.1
    · rw [by_drop]; show by' l k ≤ 193; omega
end Go.Proofs.YtkjkgpdfhmoenaaDoor.It
namespace Go.Proofs.YtkjkgpdfhmoenaaDoor.Ref2c
open Go Go.Proofs.YtkjkgpdfhmoenaaDoor.Utf Go.Proofs.YtkjkgpdfhmoenaaDoor.It

/-- The items that are complete, and where bytes are held. -/
def compF : Nat → Nat → List UInt8 → List It × Nat
  | 0, a, _ => ([], a)
  | f + 1, a, l => if l = [] then ([], a) else if width l = 0 ∧ begins l = l.length then ([], a) else (one a l :: (compF f (a + (one a l).bytes) (l.drop (one a l).bytes)).1, (compF f (a + (one a l).bytes) (l.drop (one a l).bytes)).2)
def comp (a : Nat) (l : List UInt8) : List It × Nat := compF l.length a l
theorem compF_more : ∀ (f a : Nat) (l : List UInt8), l.length ≤ f → compF f a l = compF l.length a l
  | 0, a, l, h => by rw [show l.length = 0 by omega]
  | f + 1, a, l, h => by
    by_cases hl : l = []
    · subst hl; simp [compF]
    · have h1 := one_pos a l
      have h2 : 0 < l.length := List.length_pos_iff.2 hl
      have e : l.length = l.length - 1 + 1 := by omega
      have h3 : (l.drop (one a l).bytes).length ≤ l.length - 1 := by rw [List.length_drop]; omega
      have h4 : compF (l.length - 1 + 1) a l = compF (f + 1) a l := by
        simp only [compF, if_neg hl]
        rw [compF_more f _ _ (by omega), compF_more (l.length - 1) _ _ h3]
      rw [← e] at h4
      exact h4.symm
theorem comp_nil (a : Nat) : comp a [] = ([], a) := rfl
theorem comp_held {a : Nat} {l : List UInt8} (h : width l = 0) (hb : begins l = l.length) : comp a l = ([], a) := by
  unfold comp
  cases hl : l.length with
  | zero => rfl
  | succ f =>
    simp only [compF]
    split
    · rfl
    · rw [if_pos ⟨h, by rw [hb]⟩]
theorem comp_one {a : Nat} {l : List UInt8} (hl : l ≠ []) (h : ¬ (width l = 0 ∧ begins l = l.length)) : comp a l = (one a l :: (comp (a + (one a l).bytes) (l.drop (one a l).bytes)).1, (comp (a + (one a l).bytes) (l.drop (one a l).bytes)).2) := by
  have h1 := one_pos a l
  have h2 : 0 < l.length := List.length_pos_iff.2 hl
  have e : l.length = l.length - 1 + 1 := by omega
  unfold comp
  rw [e]
  simp only [compF, if_neg hl]
  rw [if_neg h, compF_more (l.length - 1) _ _ (by rw [List.length_drop]; omega)]
theorem comp_items (l : List UInt8) : ∀ a, a ≤ (comp a l).2 ∧ (comp a l).2 ≤ a + l.length ∧ (comp a l).1 ++ items (comp a l).2 (l.drop ((comp a l).2 - a)) = items a l ∧ ((comp a l).2 < a + l.length → width (l.drop ((comp a l).2 - a)) = 0 ∧ begins (l.drop ((comp a l).2 - a)) = (l.drop ((comp a l).2 - a)).length) := by
  induction l using ind with
  | h0 => intro a; simp [comp_nil, items_nil]
  | h1 l hl ih =>
    intro a
    by_cases h : width l = 0 ∧ begins l = l.length
    · rw [comp_held h.1 h.2]
      simp [h.1, h.2]
    · have hle := one_le a hl
      obtain ⟨g1, g2, g3, g4⟩ := ih (a + (one 0 l).bytes)
      rw [comp_one hl h, items_cons a hl]
      rw [one_bytes_eq 0 a] at g1 g2 g3 g4
      simp only
      rw [List.length_drop] at g2 g4
      have hd : (l.drop (one a l).bytes).drop ((comp (a + (one a l).bytes) (l.drop (one a l).bytes)).2 - (a + (one a l).bytes)) = l.drop ((comp (a + (one a l).bytes) (l.drop (one a l).bytes)).2 - a) := by
        rw [List.drop_drop]
        congr 1
        omega
      rw [hd] at g3 g4
      refine ⟨by omega, by omega, ?_, fun h5 => g4 (by omega)⟩
      rw [List.cons_append, g3]

end Go.Proofs.YtkjkgpdfhmoenaaDoor.Ref2c
namespace Go.Proofs.YtkjkgpdfhmoenaaDoor.UtfLaw
open Go Go.Lib Go.Proofs.YtkjkgpdfhmoenaaDoor.Utf Go.Proofs.YtkjkgpdfhmoenaaDoor.It Go.Proofs.YtkjkgpdfhmoenaaDoor.Ref2c

/-- Bytes that could be the beginning of a sequence, and are none. -/
def BegP (l : List UInt8) : Prop := 0 < l.length ∧ l.length < need (by' l 0) ∧ (1 < l.length → ok l 1 = true) ∧ (2 < l.length → ok l 2 = true)
instance (l : List UInt8) : Decidable (BegP l) := by unfold BegP; infer_instance

set_option maxHeartbeats 4000000 in
theorem full_num (n b0 b1 b2 : Nat) (h0 : b0 < 256) : (n ≠ 0 ∧ (firstT b0 % 8 ≤ n ∨ (1 < n ∧ (b1 < accLo (firstT b0 / 16) ∨ accHi (firstT b0 / 16) < b1)) ∨ (2 < n ∧ (b2 < 128 ∨ 191 < b2)))) ↔
    n ≠ 0 ∧ ¬ (n < need b0 ∧ (1 < n → second b0 b1 = true) ∧ (2 < n → 128 ≤ b2 ∧ b2 ≤ 191)) := by
  have key : ∀ sz lo hi : Nat, firstT b0 % 8 = sz → accLo (firstT b0 / 16) = lo → accHi (firstT b0 / 16) = hi → (sz = need b0 ∨ (sz ≤ 1 ∧ need b0 = 0)) → (need b0 ≠ 0 → (second b0 b1 = true ↔ lo ≤ b1 ∧ b1 ≤ hi)) →
      ((n ≠ 0 ∧ (firstT b0 % 8 ≤ n ∨ (1 < n ∧ (b1 < accLo (firstT b0 / 16) ∨ accHi (firstT b0 / 16) < b1)) ∨ (2 < n ∧ (b2 < 128 ∨ 191 < b2)))) ↔
    n ≠ 0 ∧ ¬ (n < need b0 ∧ (1 < n → second b0 b1 = true) ∧ (2 < n → 128 ≤ b2 ∧ b2 ≤ 191))) := by
    rintro sz lo hi rfl rfl rfl h1 h2
    by_cases hn : need b0 = 0
    · omega
    · have h3 := h2 hn
      by_cases hs : second b0 b1 = true
      · have := h3.1 hs
        simp only [hs, implies_true, true_and]
        omega
      · have : ¬ (accLo (firstT b0 / 16) ≤ b1 ∧ b1 ≤ accHi (firstT b0 / 16)) := fun h => hs (h3.2 h)
        simp only [hs, Bool.false_eq_true, imp_false]
        omega
  rcases (show b0 < 128 ∨ 128 ≤ b0 ∧ b0 < 194 ∨ 194 ≤ b0 ∧ b0 < 224 ∨ b0 = 224 ∨ (225 ≤ b0 ∧ b0 < 237 ∨ 238 ≤ b0 ∧ b0 < 240) ∨ b0 = 237 ∨ b0 = 240 ∨ 241 ≤ b0 ∧ b0 < 244 ∨ b0 = 244 ∨ 245 ≤ b0 by omega) with h | h | h | h | h | h | h | h | h | h
  · have hf : firstT b0 = 240 := by
      unfold firstT
      repeat' split
      all_goals omega
    have hn : need b0 = 0 := by unfold need; (repeat' split) <;> omega
    exact key 0 0 0 (by rw [hf]) (by rw [hf]; simp [accLo]) (by rw [hf]; simp [accHi]) (.inr ⟨by omega, hn⟩) (fun h => absurd hn h)
  · have hf : firstT b0 = 241 := by
      unfold firstT
      repeat' split
      all_goals omega
    have hn : need b0 = 0 := by unfold need; (repeat' split) <;> omega
    exact key 1 0 0 (by rw [hf]) (by rw [hf]; simp [accLo]) (by rw [hf]; simp [accHi]) (.inr ⟨by omega, hn⟩) (fun h => absurd hn h)
  · have hf : firstT b0 = 2 := by
      unfold firstT
      repeat' split
      all_goals omega
    have hn : need b0 = 2 := by unfold need; (repeat' split) <;> omega
    refine key 2 128 191 (by rw [hf]) (by rw [hf]; simp [accLo]) (by rw [hf]; simp [accHi]) (.inl (by omega)) (fun _ => ?_)
    unfold second
    rw [decide_eq_true_eq]
    repeat' split
    all_goals omega
  · have hf : firstT b0 = 19 := by
      unfold firstT
      repeat' split
      all_goals omega
    have hn : need b0 = 3 := by unfold need; (repeat' split) <;> omega
    refine key 3 160 191 (by rw [hf]) (by rw [hf]; simp [accLo]) (by rw [hf]; simp [accHi]) (.inl (by omega)) (fun _ => ?_)
    unfold second
    rw [decide_eq_true_eq]
    repeat' split
    all_goals omega
  · have hf : firstT b0 = 3 := by
      unfold firstT
      repeat' split
      all_goals omega
    have hn : need b0 = 3 := by unfold need; (repeat' split) <;> omega
    refine key 3 128 191 (by rw [hf]) (by rw [hf]; simp [accLo]) (by rw [hf]; simp [accHi]) (.inl (by omega)) (fun _ => ?_)
    unfold second
    rw [decide_eq_true_eq]
    repeat' split
    all_goals omega
  · have hf : firstT b0 = 35 := by
      unfold firstT
      repeat' split
      all_goals omega
    have hn : need b0 = 3 := by unfold need; (repeat' split) <;> omega
    refine key 3 128 159 (by rw [hf]) (by rw [hf]; simp [accLo]) (by rw [hf]; simp [accHi]) (.inl (by omega)) (fun _ => ?_)
    unfold second
    rw [decide_eq_true_eq]
    repeat' split
    all_goals omega
  · have hf : firstT b0 = 52 := by
      unfold firstT
      repeat' split
      all_goals omega
    have hn : need b0 = 4 := by unfold need; (repeat' split) <;> omega
    refine key 4 144 191 (by rw [hf]) (by rw [hf]; simp [accLo]) (by rw [hf]; simp [accHi]) (.inl (by omega)) (fun _ => ?_)
    unfold second
    rw [decide_eq_true_eq]
    repeat' split
    all_goals omega
  · have hf : firstT b0 = 4 := by
      unfold firstT
      repeat' split
      all_goals omega
    have hn : need b0 = 4 := by unfold need; (repeat' split) <;> omega
    refine key 4 128 191 (by rw [hf]) (by rw [hf]; simp [accLo]) (by rw [hf]; simp [accHi]) (.inl (by omega)) (fun _ => ?_)
    unfold second
    rw [decide_eq_true_eq]
    repeat' split
    all_goals omega
  · have hf : firstT b0 = 68 := by
      unfold firstT
      repeat' split
      all_goals omega
    have hn : need b0 = 4 := by unfold need; (repeat' split) <;> omega
    refine key 4 128 143 (by rw [hf]) (by rw [hf]; simp [accLo]) (by rw [hf]; simp [accHi]) (.inl (by omega)) (fun _ => ?_)
    unfold second
    rw [decide_eq_true_eq]
    repeat' split
    all_goals omega
  · have hf : firstT b0 = 241 := by
      unfold firstT
      repeat' split
      all_goals omega
    have hn : need b0 = 0 := by unfold need; (repeat' split) <;> omega
    exact key 1 0 0 (by rw [hf]) (by rw [hf]; simp [accLo]) (by rw [hf]; simp [accHi]) (.inr ⟨by omega, hn⟩) (fun h => absurd hn h)

/-- Bytes that begin a text are such a beginning. -/
theorem beg_take (l : List UInt8) (k : Nat) (h1 : 1 ≤ k) (h2 : k ≤ l.length) : BegP (l.take k) ↔ k < need (by' l 0) ∧ (1 < k → ok l 1 = true) ∧ (2 < k → ok l 2 = true) := by
  have hl : (l.take k).length = k := by simp; omega
  have hb : ∀ j, j < k → by' (l.take k) j = by' l j := fun j hj => by
    unfold by'
    simp only [List.getD]
    rw [List.getElem?_take_of_lt hj]
  have ho1 : 1 < k → ok (l.take k) 1 = ok l 1 := fun h => by unfold ok; rw [if_pos rfl, if_pos rfl, hb 0 (by omega), hb 1 h]
  have ho2 : 2 < k → ok (l.take k) 2 = ok l 2 := fun h => by unfold ok; rw [if_neg (by omega), if_neg (by omega), hb 2 h]
  unfold BegP
  rw [hl, hb 0 (by omega)]
  constructor
  · rintro ⟨_, h3, h4, h5⟩
    exact ⟨h3, fun h => by rw [← ho1 h]; exact h4 h, fun h => by rw [← ho2 h]; exact h5 h⟩
  · rintro ⟨h3, h4, h5⟩
    exact ⟨by omega, h3, fun h => by rw [ho1 h]; exact h4 h, fun h => by rw [ho2 h]; exact h5 h⟩

theorem need_le4 (c : Nat) : need c = 0 ∨ (2 ≤ need c ∧ need c ≤ 4 ∧ 194 ≤ c) := by
  unfold need
  repeat' split
  all_goals omega
theorem fits_lt (l : List UInt8) (most n : Nat) (hm : most ≤ 4) (h1 : 1 ≤ n) : n < fits l most ↔ n < most ∧ n < l.length ∧ ∀ k, 1 ≤ k → k ≤ n → ok l k = true := by
  constructor
  · intro h
    refine ⟨(fitsF_ok 4 1 n h1 h).2.2, (fitsF_ok 4 1 n h1 h).2.1, fun k k1 k2 => (fitsF_ok 4 1 k k1 (Nat.lt_of_le_of_lt k2 h)).1⟩
  · rintro ⟨h2, h3, h4⟩
    have o1 := h4 1 (by omega) h1
    unfold fits
    simp only [fitsF]
    rw [if_pos ⟨by omega, by omega⟩, if_pos o1]
    by_cases c1 : 1 + 1 < most ∧ 1 + 1 < l.length
    · rw [if_pos c1]
      by_cases n2 : 2 ≤ n
      · rw [if_pos (h4 2 (by omega) n2)]
        by_cases c2 : 1 + 1 + 1 < most ∧ 1 + 1 + 1 < l.length
        · rw [if_pos c2]
          by_cases n3 : 3 ≤ n
          · rw [if_pos (h4 3 (by omega) n3)]
            split
            · split <;> omega
            · omega
          · split
            · split
              · split <;> omega
              · omega
            · omega
        · rw [if_neg c2]; omega
      · split
        · split
          · split
            · split
              · split <;> omega
              · omega
            · omega
          · omega
        · omega
    · rw [if_neg c1]; omega

/-- How many bytes go with a bad one. -/
def badN (l : List UInt8) : Nat := max 1 (begins l)
theorem begins_lt (l : List UInt8) (n : Nat) (h1 : 1 ≤ n) : n < begins l ↔ n + 1 < need (by' l 0) ∧ n < l.length ∧ ∀ k, 1 ≤ k → k ≤ n → ok l k = true := by
  unfold begins
  by_cases h : need (by' l 0) = 0
  · rw [if_pos h]; omega
  · rw [if_neg h, fits_lt l _ n (by have := need_le4 (by' l 0); omega) h1]
    have : n < need (by' l 0) - 1 ↔ n + 1 < need (by' l 0) := by omega
    rw [this]
theorem begins_le {l : List UInt8} (hl : l ≠ []) : begins l ≤ l.length := by
  have h0 : 0 < l.length := List.length_pos_iff.2 hl
  rcases Nat.lt_or_ge l.length (begins l) with h | h
  · have := (begins_lt l l.length h0).1 h
    omega
  · exact h
theorem badN_le {l : List UInt8} (hl : l ≠ []) : 1 ≤ badN l ∧ badN l ≤ l.length := by
  have h0 : 0 < l.length := List.length_pos_iff.2 hl
  have := begins_le hl
  unfold badN
  omega
/-- The loop behind a bad byte goes on just as long. -/
theorem bad_loop {l : List UInt8} {n : Nat} (h1 : 1 ≤ n) (_ : n ≤ badN l) (hl : l ≠ []) : (n < l.length ∧ BegP (l.take n) ∧ BegP (l.take (n + 1))) ↔ n < badN l := by
  have h0 : 0 < l.length := List.length_pos_iff.2 hl
  have hb : n < badN l ↔ n < begins l := by unfold badN; omega
  have hn := need_le4 (by' l 0)
  rw [hb, begins_lt l n h1]
  constructor
  · rintro ⟨g1, g2, g3⟩
    rw [beg_take l n h1 (by omega)] at g2
    rw [beg_take l (n + 1) (by omega) (by omega)] at g3
    refine ⟨g3.1, g1, fun k k1 k2 => ?_⟩
    rcases (show k = 1 ∨ k = 2 by omega) with rfl | rfl
    · exact g3.2.1 (by omega)
    · exact g3.2.2 (by omega)
  · rintro ⟨g1, g2, g3⟩
    refine ⟨g2, (beg_take l n h1 (by omega)).2 ⟨by omega, fun h => g3 1 (by omega) (by omega), fun h => g3 2 (by omega) (by omega)⟩, (beg_take l (n + 1) (by omega) (by omega)).2 ⟨g1, fun h => g3 1 (by omega) (by omega), fun h => g3 2 (by omega) (by omega)⟩⟩

/-! ### Tails -/
theorem beg_held {l : List UInt8} (h : BegP l) : width l = 0 ∧ begins l = l.length := by
  obtain ⟨h1, h2, h3, h4⟩ := h
  have hn := need_le4 (by' l 0)
  have hl : l ≠ [] := List.length_pos_iff.1 h1
  constructor
  · rcases width_cases l with ⟨_, q⟩ | ⟨_, q1, q2, q3, _⟩ | ⟨_, q1, q2, q3, _⟩ | ⟨_, q1, q2, q3, _⟩ | ⟨h, _⟩
    · omega
    · have : need (by' l 0) = 2 := by unfold need; (repeat' split) <;> omega
      omega
    · have : need (by' l 0) = 3 := by unfold need; (repeat' split) <;> omega
      omega
    · have : need (by' l 0) = 4 := by unfold need; (repeat' split) <;> omega
      omega
    · exact h
  · have hle := begins_le hl
    rcases Nat.lt_or_ge (begins l) l.length with h | h
    · have hb1 : 1 ≤ begins l := by
        unfold begins
        rw [if_neg (by omega)]
        rcases Nat.eq_zero_or_pos (fits l (need (by' l 0) - 1)) with hz | hz
        · exfalso
          unfold fits at hz
          simp only [fitsF] at hz
          split at hz
          · split at hz
            · split at hz
              · split at hz
                · split at hz
                  · split at hz
                    · split at hz
                      · split at hz <;> omega
                      · omega
                    · omega
                  · omega
                · omega
              · omega
            · omega
          · omega
        · exact hz
      exfalso
      refine absurd ((begins_lt l (begins l) hb1).2 ⟨by omega, h, fun k k1 k2 => ?_⟩) (Nat.lt_irrefl _)
      rcases (show k = 1 ∨ k = 2 by omega) with rfl | rfl
      · exact h3 (by omega)
      · exact h4 (by omega)
    · omega
theorem held_beg {l : List UInt8} (hl : l ≠ []) (h : begins l = l.length) : BegP l ∧ l.length ≤ 3 := by
  have h0 : 0 < l.length := List.length_pos_iff.2 hl
  have hn := need_le4 (by' l 0)
  have hnz : need (by' l 0) ≠ 0 := fun hz => by
    unfold begins at h
    rw [if_pos hz] at h
    omega
  have hlt : l.length < need (by' l 0) := by
    rcases (show l.length = 1 ∨ 2 ≤ l.length by omega) with h1 | h1
    · omega
    · have := (begins_lt l (l.length - 1) (by omega)).1 (by omega)
      omega
  have ho : ∀ k, 1 ≤ k → k < l.length → ok l k = true := fun k k1 k2 => ((begins_lt l k k1).1 (by omega)).2.2 k k1 (Nat.le_refl _)
  exact ⟨⟨h0, hlt, fun h => ho 1 (by omega) h, fun h => ho 2 (by omega) h⟩, by omega⟩

/-- Where a beginning stands at the end, just there bytes are held. -/
theorem comp_of_beg (l : List UInt8) : ∀ (a m : Nat), 0 < m → m ≤ l.length → BegP (l.drop (l.length - m)) → (comp a l).2 = a + (l.length - m) := by
  induction l using ind with
  | h0 => intro a m h1 h2 _; simp at h2; omega
  | h1 l hl ih =>
    intro a m h1 h2 h3
    by_cases hp : l.length - m = 0
    · rw [hp, List.drop_zero] at h3
      obtain ⟨g1, g2⟩ := beg_held h3
      rw [comp_held g1 g2, hp]
      rfl
    · have hlead : 194 ≤ by' l (l.length - m) := by
        have h4 := h3.2.1
        have h5 := h3.1
        have hb := by_drop l (l.length - m) 0
        rw [Nat.add_zero] at hb
        rw [hb] at h4
        have hn := need_le4 (by' l (l.length - m))
        omega
      have hnh : ¬ (width l = 0 ∧ begins l = l.length) := by
        rintro ⟨_, g⟩
        have := begins_tail (l := l) (k := l.length - m) (by omega) (by omega)
        omega
      have hbl : (one 0 l).bytes ≤ l.length - m := by
        rw [one_bytes]
        rcases width_cases l with ⟨h, q⟩ | ⟨h, q1, q2, q3, q4⟩ | ⟨h, q1, q2, q3, q4, q5⟩ | ⟨h, q1, q2, q3, q4, q5, q6⟩ | ⟨h, _⟩
        · rw [h]; simp; omega
        · rw [h, if_neg (by omega)]
          have r1 := ok_range q4
          rcases (show l.length - m = 1 ∨ 2 ≤ l.length - m by omega) with e | e
          · rw [e] at hlead; omega
          · exact e
        · rw [h, if_neg (by omega)]
          have r1 := ok_range q4
          have r2 := ok_range q5
          rcases (show l.length - m = 1 ∨ l.length - m = 2 ∨ 3 ≤ l.length - m by omega) with e | e | e
          · rw [e] at hlead; omega
          · rw [e] at hlead; omega
          · exact e
        · rw [h, if_neg (by omega)]
          have r1 := ok_range q4
          have r2 := ok_range q5
          have r3 := ok_range q6
          rcases (show l.length - m = 1 ∨ l.length - m = 2 ∨ l.length - m = 3 ∨ 4 ≤ l.length - m by omega) with e | e | e | e
          · rw [e] at hlead; omega
          · rw [e] at hlead; omega
          · rw [e] at hlead; omega
          · exact e
        · rw [h]; simp; omega
      rw [comp_one hl hnh]
      rw [one_bytes_eq a 0]
      simp only
      rw [ih (a + (one 0 l).bytes) m h1 (by rw [List.length_drop]; omega) (by
        rw [List.length_drop, List.drop_drop]
        have e : (one 0 l).bytes + (l.length - (one 0 l).bytes - m) = l.length - m := by omega
        rw [e]
        exact h3), List.length_drop]
      omega

/-- How many bytes at a text's end are a beginning. -/
def tailN (l : List UInt8) : Nat := l.length - (comp 0 l).2
theorem tail_some {l : List UInt8} {m : Nat} (h1 : 0 < m) (h2 : m ≤ l.length) (h3 : BegP (l.drop (l.length - m))) : tailN l = m := by
  unfold tailN
  rw [comp_of_beg l 0 m h1 h2 h3]
  omega
theorem tail_none {l : List UInt8} (h : ∀ m, 0 < m → m ≤ 3 → m ≤ l.length → ¬ BegP (l.drop (l.length - m))) : tailN l = 0 := by
  obtain ⟨g1, g2, g3, g4⟩ := comp_items l 0
  rw [Nat.zero_add] at g2 g4
  rcases Nat.lt_or_ge (comp 0 l).2 l.length with hlt | hge
  · exfalso
    obtain ⟨g5, g6⟩ := g4 hlt
    rw [Nat.sub_zero] at g5 g6
    have hne : l.drop (comp 0 l).2 ≠ [] := fun e => by
      have := congrArg List.length e
      rw [List.length_drop] at this
      simp at this
      omega
    obtain ⟨g7, g8⟩ := held_beg hne g6
    rw [List.length_drop] at g8
    refine h (l.length - (comp 0 l).2) (by omega) (by omega) (by omega) ?_
    rw [show l.length - (l.length - (comp 0 l).2) = (comp 0 l).2 by omega]
    exact g7
  · unfold tailN
    omega

/-! ### Replaced texts -/
def repF : Nat → List UInt8 → List UInt8
  | 0, _ => []
  | f + 1, l => if l = [] then [] else if width l ≠ 0 then l.take (width l) ++ repF f (l.drop (width l)) else [239, 191, 189] ++ repF f (l.drop (badN l))
/-- A text's valid form. -/
def rep (l : List UInt8) : List UInt8 := repF l.length l
theorem repF_more : ∀ (f : Nat) (l : List UInt8), l.length ≤ f → repF f l = repF l.length l
  | 0, l, h => by rw [show l.length = 0 by omega]
  | f + 1, l, h => by
    by_cases hl : l = []
    · subst hl; simp [repF]
    · have h2 : 0 < l.length := List.length_pos_iff.2 hl
      have e : l.length = l.length - 1 + 1 := by omega
      rw [e]
      simp only [repF, if_neg hl]
      have h3 := badN_le hl
      by_cases hw : width l = 0
      · rw [if_neg (by simp [hw]), if_neg (by simp [hw]), repF_more f _ (by rw [List.length_drop]; omega), repF_more (l.length - 1) _ (by rw [List.length_drop]; omega)]
      · rw [if_pos hw, if_pos hw, repF_more f _ (by rw [List.length_drop]; omega), repF_more (l.length - 1) _ (by rw [List.length_drop]; omega)]
theorem rep_nil : rep [] = [] := rfl
theorem rep_good {l : List UInt8} (hw : width l ≠ 0) (hl : l ≠ []) : rep l = l.take (width l) ++ rep (l.drop (width l)) := by
  have h2 : 0 < l.length := List.length_pos_iff.2 hl
  have e : l.length = l.length - 1 + 1 := by omega
  unfold rep
  rw [e]
  simp only [repF, if_neg hl]
  rw [if_pos hw, repF_more (l.length - 1) _ (by rw [List.length_drop]; omega)]
theorem rep_bad {l : List UInt8} (hw : width l = 0) (hl : l ≠ []) : rep l = [239, 191, 189] ++ rep (l.drop (badN l)) := by
  have h2 : 0 < l.length := List.length_pos_iff.2 hl
  have e : l.length = l.length - 1 + 1 := by omega
  have h3 := badN_le hl
  unfold rep
  rw [e]
  simp only [repF, if_neg hl]
  rw [if_neg (by simp [hw]), repF_more (l.length - 1) _ (by rw [List.length_drop]; omega)]
theorem rep_len : ∀ (f : Nat) (l : List UInt8), (repF f l).length ≤ 3 * l.length
  | 0, l => by simp [repF]
  | f + 1, l => by
    simp only [repF]
    split
    · simp
    · rename_i hl
      have h2 : 0 < l.length := List.length_pos_iff.2 hl
      have h3 := badN_le hl
      split
      · rename_i hw
        have h4 := width_le hl
        have h5 := rep_len f (l.drop (width l))
        rw [List.length_append, List.length_take]
        rw [List.length_drop] at h5
        omega
      · have h5 := rep_len f (l.drop (badN l))
        rw [List.length_append]
        rw [List.length_drop] at h5
        simp
        omega

/-- A rune's bytes are those it was read of. -/
theorem encode_rune {l : List UInt8} (hw : width l ≠ 0) (hl : l ≠ []) : encodeRuneZ (rune l (width l)) = (l.take (width l)).map fun x => (x.toNat : Int) := by
  have tk : ∀ n, n ≤ l.length → (l.take n).map (fun x => (x.toNat : Int)) = (List.range n).map fun k => (by' l k : Int) := by
    intro n hn
    apply List.ext_getElem?
    intro i
    rw [List.getElem?_map, List.getElem?_map]
    rcases Nat.lt_or_ge i n with hi | hi
    · rw [List.getElem?_take_of_lt hi, List.getElem?_range hi, List.getElem?_eq_getElem (by omega)]
      simp only [Option.map_some, by', List.getD]
      rw [List.getElem?_eq_getElem (by omega)]
      rfl
    · rw [List.getElem?_eq_none (by simp; omega), List.getElem?_eq_none (by simp; omega)]
      rfl
  have hwl := width_le hl
  rw [tk _ hwl]
  have b0 := by_lt l 0
  have b1 := by_lt l 1
  have b2 := by_lt l 2
  have b3 := by_lt l 3
  rcases width_cases l with ⟨h, q⟩ | ⟨h, q1, q2, q3, q4⟩ | ⟨h, q1, q2, q3, q4, q5⟩ | ⟨h, q1, q2, q3, q4, q5, q6⟩ | ⟨h, _⟩
  · rw [h]
    have : rune l 1 = by' l 0 := by simp [rune]
    rw [this, encodeRuneZ_one (by omega) (by omega)]
    simp [List.range_succ]
  · rw [h]
    rw [ok1] at q4
    have e : rune l 2 = by' l 0 % 32 * 64 + by' l 1 % 64 := by simp [rune]
    rw [e, encodeRuneZ_two (by omega) (by omega)]
    simp [List.range_succ]
    omega
  · rw [h]
    rw [ok1] at q4
    rw [ok2] at q5
    have e : rune l 3 = (by' l 0 % 16 * 64 + by' l 1 % 64) * 64 + by' l 2 % 64 := by simp [rune]
    rw [e, encodeRuneZ_three (by omega)]
    simp [List.range_succ]
    omega
  · rw [h]
    rw [ok1] at q4
    rw [ok2] at q5
    rw [ok3] at q6
    have e : rune l 4 = ((by' l 0 % 8 * 64 + by' l 1 % 64) * 64 + by' l 2 % 64) * 64 + by' l 3 % 64 := by simp [rune]
    rw [e, encodeRuneZ_four (by omega) (by omega)]
    simp [List.range_succ]
    omega
  · exact absurd h hw
theorem rune_cells {l : List UInt8} (hw : width l ≠ 0) (hl : l ≠ []) : runeCells (rune l (width l)) = byteCells (l.take (width l)) := by
  unfold runeCells
  rw [encode_rune hw hl, List.map_map]
  rfl
theorem bad_cells : runeCells 65533 = byteCells [239, 191, 189] := by simp [runeCells, encodeRuneZ, byteCells]

/-- A text whose items are all runes is its own valid form. -/
theorem rep_valid (l : List UInt8) : (∀ x, x ∈ items 0 l → x.bad = false) → rep l = l := by
  induction l using ind with
  | h0 => intro _; rfl
  | h1 l hl ih =>
    intro h
    rw [items_cons 0 hl] at h
    have h1 := h _ (List.mem_cons_self ..)
    have hw : width l ≠ 0 := by
      unfold one at h1
      simpa using h1
    have hb : (one 0 l).bytes = width l := by rw [one_bytes, if_neg hw]
    rw [rep_good hw hl]
    rw [hb, Nat.zero_add] at h
    rw [hb] at ih
    rw [ih (fun x hx => by
      have h2 := items_shift (width l) (l.drop (width l)) 0
      rw [Nat.add_zero] at h2
      have h3 : shift (width l) x ∈ items (width l) (l.drop (width l)) := by rw [h2]; exact List.mem_map_of_mem hx
      exact h (shift (width l) x) (List.mem_cons_of_mem _ h3)), List.take_append_drop]
end Go.Proofs.YtkjkgpdfhmoenaaDoor.UtfLaw
