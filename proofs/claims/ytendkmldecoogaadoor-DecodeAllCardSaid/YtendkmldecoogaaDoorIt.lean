/-
  Items of bytes, in plain Lean: what stands at a place; the reading of the model's decoder. Items of bytes as plain lists; kinds; the pre-tokens by items and by bytes.
-/
import GoSem.Core.Utf8
namespace Go.Proofs.YtendkmldecoogaaDoor.Utf
open Go

/-- Byte k of a text; 0 behind its end. -/
def by' (l : List UInt8) (k : Nat) : Nat := (l.getD k 0).toNat
theorem by_lt (l : List UInt8) (k : Nat) : by' l k < 256 := (l.getD k 0).toBitVec.isLt

def need (c : Nat) : Nat := if 194 ≤ c ∧ c ≤ 223 then 2 else if 224 ≤ c ∧ c ≤ 239 then 3 else if 240 ≤ c ∧ c ≤ 244 then 4 else 0
def second (c d : Nat) : Bool := decide ((if c = 224 then 160 else if c = 240 then 144 else 128) ≤ d ∧ d ≤ (if c = 237 then 159 else if c = 244 then 143 else 191))
/-- May byte n stand there? -/
def ok (l : List UInt8) (n : Nat) : Bool := if n = 1 then second (by' l 0) (by' l 1) else decide (128 ≤ by' l n ∧ by' l n ≤ 191)
def fitsF (l : List UInt8) (most : Nat) : Nat → Nat → Nat
  | 0, n => n
  | f + 1, n => if n < most ∧ n < l.length then (if ok l n = true then fitsF l most f (n + 1) else n) else n
def fits (l : List UInt8) (most : Nat) : Nat := fitsF l most 4 1
/-- The bytes of the well-formed sequence that begins a text; 0: none. -/
def width (l : List UInt8) : Nat := if by' l 0 < 128 then 1 else if need (by' l 0) = 0 ∨ fits l (need (by' l 0)) < need (by' l 0) then 0 else need (by' l 0)
/-- The bytes of the longest beginning. -/
def begins (l : List UInt8) : Nat := if need (by' l 0) = 0 then 0 else fits l (need (by' l 0) - 1)
def rune (l : List UInt8) (n : Nat) : Nat :=
  if n = 1 then by' l 0 else if n = 2 then by' l 0 % 32 * 64 + by' l 1 % 64 else if n = 3 then (by' l 0 % 16 * 64 + by' l 1 % 64) * 64 + by' l 2 % 64
  else ((by' l 0 % 8 * 64 + by' l 1 % 64) * 64 + by' l 2 % 64) * 64 + by' l 3 % 64

theorem width_cases (l : List UInt8) : (width l = 1 ∧ by' l 0 < 128) ∨ (width l = 2 ∧ 194 ≤ by' l 0 ∧ by' l 0 ≤ 223 ∧ 1 < l.length ∧ ok l 1 = true) ∨
    (width l = 3 ∧ 224 ≤ by' l 0 ∧ by' l 0 ≤ 239 ∧ 2 < l.length ∧ ok l 1 = true ∧ ok l 2 = true) ∨ (width l = 4 ∧ 240 ≤ by' l 0 ∧ by' l 0 ≤ 244 ∧ 3 < l.length ∧ ok l 1 = true ∧ ok l 2 = true ∧ ok l 3 = true) ∨
    (width l = 0 ∧ 128 ≤ by' l 0 ∧ ¬ (194 ≤ by' l 0 ∧ by' l 0 ≤ 223 ∧ 1 < l.length ∧ ok l 1 = true) ∧ ¬ (224 ≤ by' l 0 ∧ by' l 0 ≤ 239 ∧ 2 < l.length ∧ ok l 1 = true ∧ ok l 2 = true) ∧ ¬ (240 ≤ by' l 0 ∧ by' l 0 ≤ 244 ∧ 3 < l.length ∧ ok l 1 = true ∧ ok l 2 = true ∧ ok l 3 = true)) := by
  unfold width
  by_cases h0 : by' l 0 < 128
  · rw [if_pos h0]; exact .inl ⟨rfl, h0⟩
  rw [if_neg h0]
  by_cases h2 : 194 ≤ by' l 0 ∧ by' l 0 ≤ 223
  · have hn : need (by' l 0) = 2 := by unfold need; rw [if_pos h2]
    rw [hn]
    by_cases hl : 1 < l.length
    · by_cases hk : ok l 1 = true
      · have : fits l 2 = 2 := by simp [fits, fitsF, hl, hk]
        rw [this]
        exact .inr (.inl ⟨rfl, h2.1, h2.2, hl, hk⟩)
      · have : fits l 2 = 1 := by simp [fits, fitsF, hl, hk]
        rw [this]
        exact .inr (.inr (.inr (.inr ⟨rfl, by omega, fun h => hk h.2.2.2, fun h => by omega, fun h => by omega⟩)))
    · have : fits l 2 = 1 := by simp [fits, fitsF, hl]
      rw [this]
      exact .inr (.inr (.inr (.inr ⟨rfl, by omega, fun h => hl h.2.2.1, fun h => by omega, fun h => by omega⟩)))
  by_cases h3 : 224 ≤ by' l 0 ∧ by' l 0 ≤ 239
  · have hn : need (by' l 0) = 3 := by unfold need; rw [if_neg h2, if_pos h3]
    rw [hn]
    by_cases hall : 2 < l.length ∧ ok l 1 = true ∧ ok l 2 = true
    · obtain ⟨hl, hk, hk2⟩ := hall
      have hl1 : 1 < l.length := by omega
      have : fits l 3 = 3 := by simp [fits, fitsF, hl, hl1, hk, hk2]
      rw [this]
      exact .inr (.inr (.inl ⟨rfl, h3.1, h3.2, hl, hk, hk2⟩))
    · have : fits l 3 < 3 := by
        simp only [fits, fitsF]
        repeat' split
        all_goals first | omega | (exfalso; apply hall; refine ⟨?_, ?_, ?_⟩ <;> first | assumption | omega)
      rw [if_pos (.inr this)]
      exact .inr (.inr (.inr (.inr ⟨rfl, by omega, fun h => by omega, fun h => hall h.2.2, fun h => by omega⟩)))
  by_cases h4 : 240 ≤ by' l 0 ∧ by' l 0 ≤ 244
  · have hn : need (by' l 0) = 4 := by unfold need; rw [if_neg h2, if_neg h3, if_pos h4]
    rw [hn]
    by_cases hall : 3 < l.length ∧ ok l 1 = true ∧ ok l 2 = true ∧ ok l 3 = true
    · obtain ⟨hl, hk, hk2, hk3⟩ := hall
      have hl1 : 1 < l.length := by omega
      have hl2 : 2 < l.length := by omega
      have : fits l 4 = 4 := by simp [fits, fitsF, hl, hl1, hl2, hk, hk2, hk3]
      rw [this]
      exact .inr (.inr (.inr (.inl ⟨rfl, h4.1, h4.2, hl, hk, hk2, hk3⟩)))
    · have : fits l 4 < 4 := by
        simp only [fits, fitsF]
        repeat' split
        all_goals first | omega | (exfalso; apply hall; refine ⟨?_, ?_, ?_, ?_⟩ <;> first | assumption | omega)
      rw [if_pos (.inr this)]
      exact .inr (.inr (.inr (.inr ⟨rfl, by omega, fun h => by omega, fun h => by omega, fun h => hall h.2.2⟩)))
  · have hn : need (by' l 0) = 0 := by unfold need; rw [if_neg h2, if_neg h3, if_neg h4]
    rw [hn]
    exact .inr (.inr (.inr (.inr ⟨rfl, by omega, fun h => h2 ⟨h.1, h.2.1⟩, fun h => h3 ⟨h.1, h.2.1⟩, fun h => h4 ⟨h.1, h.2.1⟩⟩)))

/-- What the model's decoder answers at a text that isn't empty. -/
def dec (l : List UInt8) : Nat × Nat := if width l = 0 then (65533, 1) else (rune l (width l), width l)

theorem get_by (s : ByteArray) (k : Nat) (h : k < s.size) : (s.get! k).toNat = by' s.data.toList k := by
  cases s with
  | mk d =>
    have hd : k < d.size := h
    have h1 : (ByteArray.mk d).get! k = d[k] := getElem!_pos d k hd
    rw [h1]
    unfold by'
    simp [List.getD, hd]

theorem ok1 (l : List UInt8) : ok l 1 = true ↔ (128 ≤ by' l 1 ∧ by' l 1 ≤ 191 ∧ (by' l 0 = 224 → 160 ≤ by' l 1) ∧ (by' l 0 = 240 → 144 ≤ by' l 1) ∧ (by' l 0 = 237 → by' l 1 ≤ 159) ∧ (by' l 0 = 244 → by' l 1 ≤ 143)) := by
  unfold ok second
  simp only [if_true, decide_eq_true_eq]
  constructor
  · rintro ⟨h1, h2⟩
    split at h1 <;> split at h2 <;> (try split at h1) <;> (try split at h2) <;> omega
  · rintro ⟨h1, h2, h3, h4, h5, h6⟩
    constructor
    · split
      · omega
      · split <;> omega
    · split
      · omega
      · split <;> omega
theorem ok2 (l : List UInt8) : ok l 2 = true ↔ (128 ≤ by' l 2 ∧ by' l 2 ≤ 191) := by unfold ok; simp
theorem ok3 (l : List UInt8) : ok l 3 = true ↔ (128 ≤ by' l 3 ∧ by' l 3 ≤ 191) := by unfold ok; simp

theorem decode_dec (s : ByteArray) (h : 0 < s.size) : Utf8.decode s 0 = dec s.data.toList := by
  have hsz : s.data.toList.length = s.size := by simp
  have b0 := get_by s 0 h
  have b1 := get_by s 1
  have b2 := get_by s 2
  have b3 := get_by s 3
  have l0 := by_lt s.data.toList 0
  have l1 := by_lt s.data.toList 1
  have l2 := by_lt s.data.toList 2
  have l3 := by_lt s.data.toList 3
  have hw := width_cases s.data.toList
  rw [ok1, ok2, ok3, hsz] at hw
  unfold Utf8.decode dec
  simp only [Nat.zero_add, b0, Utf8.valid, Bool.and_eq_true, Bool.or_eq_true, decide_eq_true_eq, beq_iff_eq, ge_iff_le, Utf8.runeError]
  generalize hc1 : by' s.data.toList 1 = c1 at *
  generalize hc2 : by' s.data.toList 2 = c2 at *
  generalize hc3 : by' s.data.toList 3 = c3 at *
  generalize hc0 : by' s.data.toList 0 = c0 at *
  rcases hw with ⟨hw, h0⟩ | ⟨hw, h0, h1, hl, hk⟩ | ⟨hw, h0, h1, hl, hk, hk2⟩ | ⟨hw, h0, h1, hl, hk, hk2, hk3⟩ | ⟨hw, h0, n2, n3, n4⟩
  · rw [hw, if_pos h0]
    simp [rune, hc0]
  · rw [hw, b1 hl, if_neg (by omega), if_pos ⟨by omega, hl, by omega⟩, if_pos (by omega)]
    simp [rune, hc0, hc1]
  · rw [hw, b1 (by omega), b2 hl, if_neg (by omega), if_neg (by omega), if_pos ⟨⟨by omega, by omega, by omega⟩, hl, by omega⟩, if_pos ⟨by omega, by omega⟩]
    simp only [rune, hc0, hc1, hc2]
    simp
    omega
  · rw [hw, b1 (by omega), b2 (by omega), b3 hl, if_neg (by omega), if_neg (by omega), if_neg (by omega), if_pos ⟨⟨⟨by omega, by omega, by omega⟩, by omega, by omega⟩, hl, by omega⟩, if_pos ⟨by omega, by omega⟩]
    simp only [rune, hc0, hc1, hc2, hc3]
    simp
    omega
  · rw [hw, if_neg (by omega), if_pos rfl]
    split
    · rename_i hA
      have e1 := b1 hA.2.1
      rw [e1] at hA ⊢
      rw [if_neg (by omega)]
    split
    · rename_i _ hA
      have e1 := b1 hA.1.2.1
      have e2 := b2 hA.2.1
      rw [e1, e2] at hA ⊢
      rw [if_neg]
      rintro ⟨h5, h6⟩
      omega
    split
    · rename_i _ _ hA
      have e1 := b1 hA.1.1.2.1
      have e2 := b2 hA.1.2.1
      have e3 := b3 hA.2.1
      rw [e1, e2, e3] at hA ⊢
      rw [if_neg]
      rintro ⟨h5, h6⟩
      omega
    · rfl
end Go.Proofs.YtendkmldecoogaaDoor.Utf
namespace Go.Proofs.YtendkmldecoogaaDoor.It
open Go Go.Proofs.YtendkmldecoogaaDoor.Utf

/-- What stands at a place. -/
structure It where
  from' : Nat
  bytes : Nat
  rune : Nat
  bad : Bool
deriving Inhabited, DecidableEq

/-- The item that begins a text. -/
def one (a : Nat) (l : List UInt8) : It := ⟨a, (dec l).2, (dec l).1, decide (width l = 0)⟩
theorem one_bytes (a : Nat) (l : List UInt8) : (one a l).bytes = if width l = 0 then 1 else width l := by
  unfold one dec
  split <;> rfl
theorem one_pos (a : Nat) (l : List UInt8) : 0 < (one a l).bytes := by
  rw [one_bytes]
  split <;> omega
theorem width_le {l : List UInt8} (h : l ≠ []) : width l ≤ l.length := by
  have : 0 < l.length := List.length_pos_iff.2 h
  rcases width_cases l with h | h | h | h | h <;> omega
theorem one_le (a : Nat) {l : List UInt8} (h : l ≠ []) : (one a l).bytes ≤ l.length := by
  have := width_le h
  have : 0 < l.length := List.length_pos_iff.2 h
  rw [one_bytes]
  split <;> omega

def itemsF : Nat → Nat → List UInt8 → List It
  | 0, _, _ => []
  | f + 1, a, l => if l = [] then [] else one a l :: itemsF f (a + (one a l).bytes) (l.drop (one a l).bytes)
def items (a : Nat) (l : List UInt8) : List It := itemsF l.length a l

theorem itemsF_more : ∀ (f a : Nat) (l : List UInt8), l.length ≤ f → itemsF f a l = itemsF l.length a l
  | 0, a, l, h => by
    have : l.length = 0 := by omega
    rw [this]
  | f + 1, a, l, h => by
    by_cases hl : l = []
    · subst hl; simp [itemsF]
    · have h1 := one_pos a l
      have h2 : 0 < l.length := List.length_pos_iff.2 hl
      have e : l.length = l.length - 1 + 1 := by omega
      have h3 : (l.drop (one a l).bytes).length ≤ l.length - 1 := by rw [List.length_drop]; omega
      rw [e]
      simp only [itemsF, if_neg hl]
      rw [itemsF_more f _ _ (by omega), itemsF_more (l.length - 1) _ _ h3]

theorem items_nil (a : Nat) : items a [] = [] := rfl
theorem items_cons (a : Nat) {l : List UInt8} (h : l ≠ []) : items a l = one a l :: items (a + (one a l).bytes) (l.drop (one a l).bytes) := by
  have h1 := one_pos a l
  have h2 : 0 < l.length := List.length_pos_iff.2 h
  have e : l.length = l.length - 1 + 1 := by omega
  unfold items
  rw [e]
  simp only [itemsF, if_neg h]
  rw [itemsF_more]
  rw [List.length_drop]; omega

theorem items_ne {a : Nat} {l : List UInt8} (h : l ≠ []) : items a l ≠ [] := by
  rw [items_cons a h]; exact List.cons_ne_nil _ _
theorem items_eq_nil {a : Nat} {l : List UInt8} (h : items a l = []) : l = [] := Classical.byContradiction fun h1 => items_ne h1 h

/-- A strong induction over a text's items. -/
theorem ind {P : List UInt8 → Prop} (h0 : P []) (h1 : ∀ l, l ≠ [] → P (l.drop (one 0 l).bytes) → P l) (l : List UInt8) : P l := by
  generalize hn : l.length = n
  induction n using Nat.strongRecOn generalizing l with
  | _ n ih =>
    by_cases hl : l = []
    · subst hl; exact h0
    · refine h1 l hl (ih _ ?_ _ rfl)
      have := one_pos 0 l
      have : 0 < l.length := List.length_pos_iff.2 hl
      rw [List.length_drop]; omega

def shift (c : Nat) (x : It) : It := { x with from' := c + x.from' }
theorem one_shift (c a : Nat) (l : List UInt8) : one (c + a) l = shift c (one a l) := rfl
theorem one_bytes_eq (a b : Nat) (l : List UInt8) : (one a l).bytes = (one b l).bytes := rfl
theorem items_shift (c : Nat) (l : List UInt8) : ∀ a, items (c + a) l = (items a l).map (shift c) := by
  induction l using ind with
  | h0 => intro a; rfl
  | h1 l hl ih =>
    intro a
    rw [items_cons _ hl, items_cons a hl, List.map_cons, ← one_shift, one_bytes_eq (c + a) 0, one_bytes_eq a 0, Nat.add_assoc, ih]

/-- How many bytes items have. -/
def sum (L : List It) : Nat := (L.map It.bytes).sum
@[simp] theorem sum_nil : sum [] = 0 := rfl
@[simp] theorem sum_cons (x : It) (L : List It) : sum (x :: L) = x.bytes + sum L := by simp [sum]
theorem sum_append (L M : List It) : sum (L ++ M) = sum L + sum M := by simp [sum]
theorem sum_shift (c : Nat) (L : List It) : sum (L.map (shift c)) = sum L := by
  unfold sum
  rw [List.map_map]
  rfl
theorem sum_items (l : List UInt8) : ∀ a, sum (items a l) = l.length := by
  induction l using ind with
  | h0 => intro a; rfl
  | h1 l hl ih =>
    intro a
    have := one_le a hl
    rw [items_cons a hl, sum_cons, one_bytes_eq a 0, ih, List.length_drop]
    have := one_le 0 hl
    omega
theorem items_len (l : List UInt8) : ∀ a, (items a l).length ≤ l.length := by
  induction l using ind with
  | h0 => intro a; simp [items_nil]
  | h1 l hl ih =>
    intro a
    have h1 := one_pos 0 l
    have h2 := one_le 0 hl
    have h3 := ih (a + (one 0 l).bytes)
    rw [items_cons a hl, List.length_cons, one_bytes_eq a 0]
    rw [List.length_drop] at h3
    omega

theorem items_pos {a : Nat} {l : List UInt8} {x : It} : x ∈ items a l → 0 < x.bytes := by
  induction l using ind generalizing a with
  | h0 => intro h; simp [items_nil] at h
  | h1 l hl ih =>
    intro h
    rw [items_cons a hl, List.mem_cons] at h
    rcases h with rfl | h
    · exact one_pos _ _
    · exact ih h

/-- Items from the c-th on are those of the bytes from there on. -/
theorem items_drop (c : Nat) : ∀ (a : Nat) (l : List UInt8), (items a l).drop c = items (a + sum ((items a l).take c)) (l.drop (sum ((items a l).take c))) := by
  induction c with
  | zero => intro a l; simp
  | succ c ih =>
    intro a l
    by_cases hl : l = []
    · subst hl; simp [items_nil]
    · rw [items_cons a hl, List.drop_succ_cons, List.take_succ_cons, sum_cons, ih, Nat.add_assoc, List.drop_drop]
theorem sum_take_le (c a : Nat) (l : List UInt8) : sum ((items a l).take c) ≤ l.length := by
  rw [← sum_items l a]
  conv => rhs; rw [← List.take_append_drop c (items a l), sum_append]
  omega
theorem sum_take_succ {a : Nat} {l : List UInt8} {c : Nat} (h : c < (items a l).length) : sum ((items a l).take (c + 1)) = sum ((items a l).take c) + ((items a l).getD c default).bytes := by
  rw [List.take_add_one, sum_append]
  simp [List.getD, h]
theorem sum_take_lt {a : Nat} {l : List UInt8} {c : Nat} (h : c < (items a l).length) : sum ((items a l).take c) < l.length := by
  have h1 := sum_take_le (c + 1) a l
  rw [sum_take_succ h] at h1
  have : 0 < ((items a l).getD c default).bytes := by
    apply items_pos (a := a) (l := l)
    simp only [List.getD, List.getElem?_eq_getElem h, Option.getD_some]
    exact List.getElem_mem h
  omega
/-- Where the c-th item begins. -/
theorem from_at {a : Nat} {l : List UInt8} {c : Nat} (h : c < (items a l).length) : ((items a l).getD c default) = one (a + sum ((items a l).take c)) (l.drop (sum ((items a l).take c))) := by
  have h1 := items_drop c a l
  have h2 : l.drop (sum ((items a l).take c)) ≠ [] := by
    intro h3
    rw [h3, items_nil, List.drop_eq_nil_iff] at h1
    omega
  rw [items_cons _ h2] at h1
  have h3 : ((items a l).drop c).head? = (items a l)[c]? := by rw [List.head?_drop]
  rw [h1] at h3
  simp only [List.head?_cons] at h3
  simp [List.getD, ← h3]

/-! ### Bytes that continue -/
theorem width_zero_of {l : List UInt8} (h1 : 128 ≤ by' l 0) (h2 : by' l 0 ≤ 193) : width l = 0 := by
  rcases width_cases l with h | h | h | h | h <;> omega
/-- All bytes from here on are bad. -/
def allBad (a : Nat) : List UInt8 → List It
  | [] => []
  | _ :: l => ⟨a, 1, 65533, true⟩ :: allBad (a + 1) l
theorem one_bad {a : Nat} {l : List UInt8} (h : width l = 0) : one a l = ⟨a, 1, 65533, true⟩ := by
  unfold one dec
  rw [if_pos h, h]
  rfl
theorem items_bad {a : Nat} {l : List UInt8} (h : width l = 0) (hl : l ≠ []) : items a l = ⟨a, 1, 65533, true⟩ :: items (a + 1) (l.drop 1) := by
  rw [items_cons a hl, one_bad h]
theorem items_good {a : Nat} {l : List UInt8} (h : width l ≠ 0) (hl : l ≠ []) : items a l = ⟨a, width l, rune l (width l), false⟩ :: items (a + width l) (l.drop (width l)) := by
  have : one a l = ⟨a, width l, rune l (width l), false⟩ := by
    unfold one dec
    rw [if_neg h]
    simp [h]
  rw [items_cons a hl, this]

/-- Byte k of what is left. -/
theorem by_drop (l : List UInt8) (c k : Nat) : by' (l.drop c) k = by' l (c + k) := by
  unfold by'
  simp [List.getD]
theorem fitsF_ok {l : List UInt8} {most : Nat} : ∀ (f n k : Nat), n ≤ k → k < fitsF l most f n → ok l k = true ∧ k < l.length ∧ k < most
  | 0, n, k, h1, h2 => by simp only [fitsF] at h2; omega
  | f + 1, n, k, h1, h2 => by
    simp only [fitsF] at h2
    split at h2
    · rename_i h3
      split at h2
      · rename_i h4
        rcases Nat.lt_or_ge n k with h5 | h5
        · exact fitsF_ok f (n + 1) k (by omega) h2
        · have : n = k := by omega
          subst this
          exact ⟨h4, h3.2, h3.1⟩
      · omega
    · omega
theorem ok_range {l : List UInt8} {k : Nat} (h : ok l k = true) : 128 ≤ by' l k ∧ by' l k ≤ 191 := by
  by_cases hk : k = 1
  · subst hk
    rw [ok1] at h
    omega
  · unfold ok at h
    rw [if_neg hk] at h
    simpa using h
/-- A beginning goes on with bytes that continue. -/
theorem begins_tail {l : List UInt8} {k : Nat} (h1 : 1 ≤ k) (h2 : k < begins l) : 128 ≤ by' l k ∧ by' l k ≤ 191 := by
  unfold begins at h2
  split at h2
  · omega
  · exact ok_range (fitsF_ok 4 1 k h1 h2).1
theorem begins_end {l : List UInt8} (h : begins l = l.length) (hw : width l = 0) : ∀ k, k < l.length → width (l.drop k) = 0 := by
  intro k hk
  by_cases h0 : k = 0
  · subst h0; simpa using hw
  · have := begins_tail (l := l) (k := k) (by omega) (by omega)
    apply width_zero_of
    · rw [by_drop]; exact this.1
    · rw [by_drop]; show by' l k ≤ 193; omega
end Go.Proofs.YtendkmldecoogaaDoor.It
