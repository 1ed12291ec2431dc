/-
  The Cutter's state machine as plain functions; what it tells of items, one by one, is what chapter 12 tells of them. The Cutter's state machine, item by item: what it tells, when it is over. The Cutter's state machine: a quote; items in a row; the text's end. The Cutter's state machine: items in a row; the text's end. The scanner, in plain Lean: what is whole of a text and of the text with more behind it; items as texts have them. What the Cutter tells of all bytes so far, in plain Lean.
-/
import Derived.Test.YtendkmldecoogaaDoorCu
import Derived.Test.YtendkmldecoogaaDoorIt
import Derived.Test.YtendkmldecoogaaDoorCutAll
namespace Go.Proofs.YtendkmldecoogaaDoor.StepLaw
open Go Go.Proofs.YtendkmldecoogaaDoor.Utf Go.Proofs.YtendkmldecoogaaDoor.It Go.Proofs.YtendkmldecoogaaDoor.Dt Go.Proofs.YtendkmldecoogaaDoor.Cu

/-! ### What can be told stays told when items follow -/
theorem get_app {L Q : List It} {i : Nat} (h : i < L.length) : (L ++ Q).getD i default = L.getD i default := by
  simp only [List.getD, List.getElem?_append_left h]
theorem runI_app {D : Dt} {k : Int} (Q : List It) : ∀ {L : List It}, runI D k L < L.length → runI D k (L ++ Q) = runI D k L
  | [], h => by simp at h
  | x :: L, h => by
    by_cases h1 : kind D x = k
    · have e : ∀ M, runI D k (x :: M) = runI D k M + 1 := fun M => by simp [runI, h1]
      rw [List.cons_append, e, e, runI_app Q (by rw [e] at h; simpa using h)]
    · have e : ∀ M, runI D k (x :: M) = 0 := fun M => by simp [runI, h1]
      rw [List.cons_append, e, e]
theorem runI_full {D : Dt} {k : Int} (Q : List It) : ∀ {L : List It}, runI D k L = L.length → runI D k (L ++ Q) = L.length + runI D k Q
  | [], h => by simp
  | x :: L, h => by
    by_cases h1 : kind D x = k
    · have e : ∀ M, runI D k (x :: M) = runI D k M + 1 := fun M => by simp [runI, h1]
      rw [e] at h
      rw [List.cons_append, e, runI_full Q (by simpa using h), List.length_cons]
      omega
    · have e : runI D k (x :: L) = 0 := by simp [runI, h1]
      rw [e] at h
      simp at h
theorem shortI_app {L : List It} {n : Nat} (Q : List It) (fin : Bool) (hL : L ≠ []) (h : shortI L false = some n) : shortI (L ++ Q) fin = some n := by
  have h0 : 0 < L.length := List.length_pos_iff.2 hL
  unfold shortI at h ⊢
  rw [get_app h0]
  by_cases c1 : is (L.getD 0 default) 39 = false
  · rw [if_pos c1] at h ⊢; exact h
  rw [if_neg c1] at h ⊢
  by_cases c2 : L.length ≤ 1
  · rw [if_pos c2] at h; simp at h
  rw [if_neg c2] at h
  have hl : (L ++ Q).length = L.length + Q.length := List.length_append
  rw [if_neg (by omega), get_app (i := 1) (by omega)]
  by_cases c3 : is (L.getD 1 default) 115 = true ∨ is (L.getD 1 default) 116 = true ∨ is (L.getD 1 default) 109 = true ∨ is (L.getD 1 default) 100 = true
  · rw [if_pos c3] at h ⊢; exact h
  rw [if_neg c3] at h ⊢
  by_cases c4 : is (L.getD 1 default) 114 = false ∧ is (L.getD 1 default) 118 = false ∧ is (L.getD 1 default) 108 = false
  · rw [if_pos c4] at h ⊢; exact h
  rw [if_neg c4] at h ⊢
  by_cases c5 : L.length ≤ 2
  · rw [if_pos c5] at h; simp at h
  rw [if_neg c5] at h
  rw [if_neg (by omega), get_app (i := 2) (by omega)]
  exact h
theorem skip_app {D : Dt} {L : List It} (Q : List It) (hL : L ≠ []) (h : ¬ (is (L.getD 0 default) 32 = true ∧ L.length ≤ 1)) : skip D (L ++ Q) = skip D L := by
  have h0 : 0 < L.length := List.length_pos_iff.2 hL
  unfold skip
  rw [get_app h0]
  by_cases c1 : is (L.getD 0 default) 32 = true
  · have c2 : 1 < L.length := by
      rcases Nat.lt_or_ge 1 L.length with h2 | h2
      · exact h2
      · exact absurd ⟨c1, h2⟩ h
    have hl : (L ++ Q).length = L.length + Q.length := List.length_append
    rw [get_app (i := 1) c2]
    have c3 : 1 < (L ++ Q).length := by omega
    simp only [c1, c2, c3, true_and]
  · rw [if_neg (fun h => c1 h.1), if_neg (fun h => c1 h.1)]
theorem nextI_app {D : Dt} {L : List It} {n s : Nat} (Q : List It) (fin : Bool) (hL : L ≠ []) (h : nextI D L false = some (n, s)) : nextI D (L ++ Q) fin = some (n, s) := by
  have h0 : 0 < L.length := List.length_pos_iff.2 hL
  have hl : (L ++ Q).length = L.length + Q.length := List.length_append
  unfold nextI at h ⊢
  cases hs : shortI L false with
  | none => rw [hs] at h; cases h
  | some m =>
    rw [hs] at h
    rw [shortI_app Q fin hL hs]
    cases m with
    | succ m => exact h
    | zero =>
      simp only at h ⊢
      by_cases c1 : is (L.getD 0 default) 32 = true ∧ L.length ≤ 1
      · rw [if_pos ⟨c1.1, c1.2, trivial⟩] at h; cases h
      rw [if_neg (fun h => c1 ⟨h.1, h.2.1⟩)] at h
      have h1 := skip_le D hL
      rw [skip_app Q hL c1, get_app h0, get_app h1, List.drop_append_of_le_length (by omega)]
      rw [if_neg (fun h => by
        have := h.2.1
        by_cases c2 : 1 < L.length
        · omega
        · exact c1 ⟨h.1, by omega⟩)]
      obtain ⟨j, hj⟩ : ∃ j, skip D L = j := ⟨_, rfl⟩
      rw [hj] at h h1 ⊢
      obtain ⟨k, hk⟩ : ∃ k, kind D (L.getD j default) = k := ⟨_, rfl⟩
      rw [hk] at h ⊢
      have h3 := runI_le D k (L.drop j)
      rw [List.length_drop] at h3
      by_cases c3 : j + runI D k (L.drop j) = L.length
      · rw [if_pos ⟨c3, trivial⟩] at h; cases h
      rw [if_neg (fun h => c3 h.1)] at h
      rw [runI_app Q (by rw [List.length_drop]; omega), if_neg (fun h => by omega)]
      by_cases c4 : k = 3
      · rw [if_pos c4] at h ⊢
        by_cases c5 : j + runI D k (L.drop j) < L.length ∧ 2 ≤ j + runI D k (L.drop j)
        · rw [if_pos c5] at h
          rw [if_pos ⟨by omega, c5.2⟩]
          exact h
        · rw [if_neg c5] at h
          rw [if_neg (fun h => c5 ⟨by omega, h.2⟩)]
          exact h
      · rw [if_neg c4] at h ⊢
        exact h
theorem ofI_app {D : Dt} (Q : List It) (fin : Bool) : ∀ (m : Nat) (L : List It), L.length ≤ m → ofI D (L ++ Q) fin = ((ofI D L false).1 ++ (ofI D (L.drop (ofI D L false).2 ++ Q) fin).1, (ofI D L false).2 + (ofI D (L.drop (ofI D L false).2 ++ Q) fin).2)
  | 0, L, h => by
    have : L = [] := List.length_eq_zero_iff.1 (by omega)
    subst this
    simp [ofI_nil]
  | m + 1, L, h => by
    by_cases hL : L = []
    · subst hL; simp [ofI_nil]
    · cases hn : nextI D L false with
      | none => rw [ofI_none hn]; simp
      | some r =>
        obtain ⟨n, s⟩ := r
        obtain ⟨h1, h2, _⟩ := nextI_some hn hL
        have ih := ofI_app (D := D) Q fin m (L.drop n) (by rw [List.length_drop]; omega)
        have hq : L ++ Q ≠ [] := by simp [hL]
        rw [ofI_some hL hn, ofI_some hq (nextI_app Q fin hL hn), List.drop_append_of_le_length h2, ih, get_app (by omega), get_app (by omega), List.drop_drop]
        simp only [List.cons_append, Nat.add_assoc]
theorem ofI_le {D : Dt} (fin : Bool) : ∀ (m : Nat) (L : List It), L.length ≤ m → (ofI D L fin).2 ≤ L.length
  | 0, L, h => by
    have : L = [] := List.length_eq_zero_iff.1 (by omega)
    subst this
    simp [ofI_nil]
  | m + 1, L, h => by
    by_cases hL : L = []
    · subst hL; simp [ofI_nil]
    · cases hn : nextI D L fin with
      | none => rw [ofI_none hn]; simp
      | some r =>
        obtain ⟨n, s⟩ := r
        obtain ⟨h1, h2, _⟩ := nextI_some hn hL
        have ih := ofI_le (D := D) fin m (L.drop n) (by rw [List.length_drop]; omega)
        rw [ofI_some hL hn]
        rw [List.length_drop] at ih
        simp only
        omega
/-- What is left can't be told. -/
theorem ofI_left {D : Dt} : ∀ (m : Nat) (L : List It), L.length ≤ m → ofI D (L.drop (ofI D L false).2) false = ([], 0)
  | 0, L, h => by
    have : L = [] := List.length_eq_zero_iff.1 (by omega)
    subst this
    simp [ofI_nil]
  | m + 1, L, h => by
    by_cases hL : L = []
    · subst hL; simp [ofI_nil]
    · cases hn : nextI D L false with
      | none => rw [ofI_none hn]; simpa using ofI_none hn
      | some r =>
        obtain ⟨n, s⟩ := r
        obtain ⟨h1, h2, _⟩ := nextI_some hn hL
        have ih := ofI_left (D := D) m (L.drop n) (by rw [List.length_drop]; omega)
        rw [ofI_some hL hn]
        simpa [List.drop_drop] using ih

/-! ### Items that lie one behind the other -/
def Cont (a : Nat) (L : List It) : Prop := ∀ i, i < L.length → (L.getD i default).from' = a + sum (L.take i)
theorem Cont.nil (a : Nat) : Cont a [] := fun i h => by simp at h
theorem Cont.items (a : Nat) (l : List UInt8) : Cont a (items a l) := fun i h => by rw [from_at h]; rfl
theorem Cont.drop {a : Nat} {L : List It} (h : Cont a L) (n : Nat) : Cont (a + sum (L.take n)) (L.drop n) := by
  intro i hi
  rw [List.length_drop] at hi
  rw [getD_drop, h _ (by omega), List.take_add, sum_append, Nat.add_assoc]
theorem Cont.ends {a : Nat} {L : List It} (h : Cont a L) {n : Nat} (h0 : 0 < n) (hn : n ≤ L.length) : (L.getD (n - 1) default).from' + (L.getD (n - 1) default).bytes = a + sum (L.take n) := by
  rw [h _ (by omega)]
  have e : L.take n = L.take (n - 1) ++ [L.getD (n - 1) default] := by
    have h1 : n - 1 < L.length := by omega
    have h2 : n = n - 1 + 1 := by omega
    rw (occs := .pos [1]) [h2]
    rw [List.take_add_one]
    simp [List.getD, h1]
  rw [e, sum_append]
  simp [sum]
  omega
theorem ofI_tok {D : Dt} {a : Nat} {L : List It} {fin : Bool} {n s : Nat} (hc : Cont a L) (hL : L ≠ []) (h : nextI D L fin = some (n, s)) :
    ofI D L fin = (⟨a, a + sum (L.take n), s⟩ :: (ofI D (L.drop n) fin).1, n + (ofI D (L.drop n) fin).2) := by
  obtain ⟨h1, h2, _⟩ := nextI_some h hL
  have h3 := hc 0 (by omega)
  rw [List.take_zero] at h3
  rw [ofI_some hL h, hc.ends h1 h2, h3]
  simp [sum]

/-! ### The machine -/
/-- An item, as the machine sees it: its bytes, its kind, its byte where it is ASCII. -/
structure Ix where
  n : Nat
  k : Int
  c : Nat
def Ix.none : Ix := ⟨0, 0, 0⟩
structure Sx where
  st : Nat
  bytes : Nat
  sort : Nat
  kind : Int
  letter : Ix
  last : Ix
  many : Nat
  told : Nat
  out : List Tk
  over : Bool

variable (most : Nat)
def tell (S : Sx) (n sort : Nat) : Sx :=
  if S.over = true then S else if most < n then { S with over := true } else { S with out := S.out ++ [⟨S.told, S.told + n, sort⟩], told := S.told + n, st := 0, bytes := 0, many := 0, letter := Ix.none }
def runs (S : Sx) (x : Ix) (ahead : Nat) : Sx := { S with st := 2, kind := x.k, bytes := ahead + x.n, sort := sortOf x.k }
def one0 (S : Sx) (x : Ix) : Sx :=
  if S.over = true then S else if x.c = 39 then { S with st := 1, bytes := x.n } else if x.k = 3 then { S with st := 3, bytes := x.n, last := x, many := 1 } else runs S x 0
def oneR (S : Sx) (x : Ix) : Sx := if S.over = true then S else if x.k = S.kind then { S with bytes := S.bytes + x.n } else one0 (tell most S S.bytes S.sort) x
def parted (S : Sx) (x : Ix) : Sx :=
  let S1 := if 1 < S.many then tell most S (S.bytes - S.last.n) 5 else S
  if S.last.c = 32 then runs S1 x 1 else one0 (tell most S1 S.last.n 5) x
def oneS (S : Sx) (x : Ix) : Sx := if S.over = true then S else if x.k = 3 then { S with bytes := S.bytes + x.n, last := x, many := S.many + 1 } else parted most S x
def oneA (S : Sx) (x : Ix) : Sx := if S.st = 2 then oneR most S x else if S.st = 3 then oneS most S x else one0 S x
def unq (S : Sx) : Sx := if 0 < S.letter.n then oneR most (runs { S with letter := Ix.none } ⟨1, 4, 39⟩ 0) S.letter else runs { S with letter := Ix.none } ⟨1, 4, 39⟩ 0
def behind (S : Sx) (x : Ix) : Sx :=
  if S.letter.n = 0 ∧ (x.c = 115 ∨ x.c = 116 ∨ x.c = 109 ∨ x.c = 100) then tell most S 2 1
  else if S.letter.n = 0 ∧ (x.c = 114 ∨ x.c = 118 ∨ x.c = 108) then { S with letter := x }
  else if (S.letter.c = 114 ∧ x.c = 101) ∨ (S.letter.c = 118 ∧ x.c = 101) ∨ (S.letter.c = 108 ∧ x.c = 108) then tell most S 3 1
  else oneA most (unq most S) x
def oneF (S : Sx) (x : Ix) : Sx := if S.over = true then S else if S.st = 1 then behind most S x else oneA most S x
def sure (S : Sx) : Nat := if S.st = 2 then S.bytes else if S.st = 3 ∧ 1 < S.many then S.bytes - S.last.n else 0
/-- Items, one by one. -/
def feed (S : Sx) : List Ix → Sx
  | [] => S
  | x :: L =>
    let S1 := oneF most S x
    let S2 := { S1 with over := S1.over || decide (most < sure S1) }
    if S2.over = true then S2 else feed S2 L
/-- The text's end: what is held is told. -/
def fin (S : Sx) : Sx :=
  let S1 := if S.over = false ∧ S.st = 1 then unq most S else S
  if S1.over = true then S1 else if S1.st = 2 then tell most S1 S1.bytes S1.sort else if S1.st = 3 then tell most S1 S1.bytes 5 else S1
variable {most}

/-! ### What a state says of the items that aren't told -/
def ixOf (D : Dt) (x : It) : Ix := ⟨x.bytes, kind D x, if x.bytes = 1 ∧ x.bad = false then x.rune else 0⟩
/-- An item as texts have them. -/
structure WfI (D : Dt) (x : It) : Prop where
  pos : 0 < x.bytes
  ascii : x.bad = false → (x.rune < 128 ↔ x.bytes = 1)
  quote : is x 39 = true → kind D x = 4
  blank : is x 32 = true → kind D x = 3
theorem is_c {D : Dt} {x : It} (h : WfI D x) {r : Nat} (h0 : 0 < r) (hr : r < 128) : is x r = true ↔ (ixOf D x).c = r := by
  unfold is ixOf
  simp only [Bool.and_eq_true, Bool.not_eq_true', decide_eq_true_eq]
  constructor
  · rintro ⟨h1, rfl⟩
    rw [if_pos ⟨(h.ascii h1).1 hr, h1⟩]
  · intro h1
    split at h1
    · rename_i h2
      exact ⟨h2.2, h1⟩
    · omega
theorem is_one_byte {D : Dt} {x : It} (h : WfI D x) {r : Nat} (hr : r < 128) (hi : is x r = true) : x.bytes = 1 := by
  unfold is at hi
  simp only [Bool.and_eq_true, Bool.not_eq_true', decide_eq_true_eq] at hi
  exact (h.ascii hi.1).1 (by omega)

/-- A run of a kind that is no space, a blank may stand ahead. -/
def Rn (D : Dt) (P : List It) (k : Int) : Prop := k ≠ 3 ∧ ((P ≠ [] ∧ is (P.getD 0 default) 32 = false ∧ runI D k P = P.length) ∨ (∃ b P', P = b :: P' ∧ is b 32 = true ∧ P' ≠ [] ∧ runI D k P' = P'.length))
/-- No Short begins it, whatever follows. -/
def NS (P : List It) : Prop := ∀ Q fin, shortI (P ++ Q) fin = some 0

theorem get_of_run {D : Dt} {k : Int} {L : List It} (h : runI D k L = L.length) (h0 : L ≠ []) : kind D (L.getD 0 default) = k := runI_at (by have : 0 < L.length := List.length_pos_iff.2 h0; omega)

theorem Rn.next {D : Dt} {P Q : List It} {k : Int} {fin : Bool} (h : Rn D P k) (hs : shortI (P ++ Q) fin = some 0) :
    nextI D (P ++ Q) fin = if runI D k Q = Q.length ∧ fin = false then none else some (P.length + runI D k Q, sortOf k) := by
  obtain ⟨hk, h | ⟨b, P', rfl, hb, hP, hr⟩⟩ := h
  · obtain ⟨hP, hb, hr⟩ := h
    have h0 : 0 < P.length := List.length_pos_iff.2 hP
    unfold nextI
    rw [hs]
    have e0 : is ((P ++ Q).getD 0 default) 32 = false := by rw [get_app h0]; exact hb
    have e1 : skip D (P ++ Q) = 0 := by unfold skip; rw [if_neg (by rw [e0]; simp)]
    simp only [e0, Bool.false_eq_true, false_and, if_false, e1, List.drop_zero, Nat.zero_add]
    rw [get_app h0, get_of_run hr hP, runI_full Q hr, List.length_append, if_neg hk]
    by_cases c : runI D k Q = Q.length ∧ fin = false
    · rw [if_pos c, if_pos ⟨by omega, c.2⟩]
    · rw [if_neg c, if_neg (fun h => c ⟨by omega, h.2⟩)]
  · have h0 : 0 < P'.length := List.length_pos_iff.2 hP
    unfold nextI
    rw [hs]
    have hl : (b :: P' ++ Q).length = P'.length + 1 + Q.length := by simp; omega
    have e0 : (b :: P' ++ Q).getD 0 default = b := rfl
    have e2 : (b :: P' ++ Q).getD 1 default = P'.getD 0 default := by
      show (P' ++ Q).getD 0 default = _
      rw [get_app h0]
    have hk' := get_of_run hr hP
    have e1 : skip D (b :: P' ++ Q) = 1 := by unfold skip; rw [if_pos ⟨by rw [e0]; exact hb, by omega, by rw [e2, hk']; exact hk⟩]
    have e3 : (b :: P' ++ Q).drop 1 = P' ++ Q := rfl
    simp only [e1]
    rw [if_neg (by rw [hl]; omega), e2, hk', e3, runI_full Q hr, hl, List.length_cons, if_neg hk]
    by_cases c : runI D k Q = Q.length ∧ fin = false
    · rw [if_pos c, if_pos ⟨by omega, c.2⟩]
    · rw [if_neg c, if_neg (fun h => c ⟨by omega, h.2⟩)]
      congr 2
      omega
theorem Rn.more {D : Dt} {P : List It} {k : Int} (h : Rn D P k) {x : It} (hx : kind D x = k) : Rn D (P ++ [x]) k := by
  obtain ⟨hk, h | ⟨b, P', rfl, hb, hP, hr⟩⟩ := h
  · obtain ⟨hP, hb, hr⟩ := h
    have h0 : 0 < P.length := List.length_pos_iff.2 hP
    refine ⟨hk, .inl ⟨by simp, by rw [get_app h0]; exact hb, ?_⟩⟩
    rw [runI_full [x] hr, List.length_append]
    simp [runI, hx]
  · refine ⟨hk, .inr ⟨b, P' ++ [x], rfl, hb, by simp, ?_⟩⟩
    rw [runI_full [x] hr, List.length_append]
    simp [runI, hx]

/-- Spaces, then others. -/
theorem spaces_next {D : Dt} {P Q : List It} {fin : Bool} (hP : P ≠ []) (hr : runI D 3 P = P.length) (hs : shortI (P ++ Q) fin = some 0) (hb : 1 < P.length ∨ is (P.getD 0 default) 32 = false) :
    nextI D (P ++ Q) fin = if runI D 3 Q = Q.length ∧ fin = false then none else if runI D 3 Q < Q.length ∧ 2 ≤ P.length + runI D 3 Q then some (P.length + runI D 3 Q - 1, 5) else some (P.length + runI D 3 Q, 5) := by
  have h0 : 0 < P.length := List.length_pos_iff.2 hP
  unfold nextI
  rw [hs]
  have e1 : skip D (P ++ Q) = 0 := by
    unfold skip
    rw [if_neg]
    rintro ⟨h1, h2, h3⟩
    rw [get_app h0] at h1
    rcases hb with hb | hb
    · rw [get_app hb] at h3
      exact h3 (runI_at (by omega))
    · rw [hb] at h1; cases h1
  have hl : (P ++ Q).length = P.length + Q.length := List.length_append
  simp only [e1, List.drop_zero, Nat.zero_add]
  rw [get_app h0, get_of_run hr hP, runI_full Q hr, hl]
  rw [if_neg (by
    rintro ⟨h1, h2, _⟩
    rcases hb with hb | hb
    · omega
    · rw [hb] at h1; cases h1)]
  simp only [if_true]
  by_cases c : runI D 3 Q = Q.length ∧ fin = false
  · rw [if_pos c, if_pos ⟨by omega, c.2⟩]
  · rw [if_neg c, if_neg (fun h => c ⟨by omega, h.2⟩)]
    by_cases c2 : runI D 3 Q < Q.length ∧ 2 ≤ P.length + runI D 3 Q
    · rw [if_pos c2, if_pos ⟨by omega, c2.2⟩]
    · rw [if_neg c2, if_neg (fun h => c2 ⟨by omega, h.2⟩)]
theorem next_one (D : Dt) (x : It) : nextI D [x] false = none := by
  unfold nextI
  cases hs : shortI [x] false with
  | none => rfl
  | some m =>
    unfold shortI at hs
    split at hs
    · simp only [Option.some.injEq] at hs
      subst hs
      simp only
      split
      · rfl
      · have e1 : skip D [x] = 0 := by unfold skip; rw [if_neg (by simp)]
        simp only [e1]
        rw [if_pos]
        simp [runI]
    · rw [if_pos (by simp)] at hs; simp at hs
end Go.Proofs.YtendkmldecoogaaDoor.StepLaw
namespace Go.Proofs.YtendkmldecoogaaDoor.StepLaw
open Go Go.Proofs.YtendkmldecoogaaDoor.Utf Go.Proofs.YtendkmldecoogaaDoor.It Go.Proofs.YtendkmldecoogaaDoor.Dt Go.Proofs.YtendkmldecoogaaDoor.Cu

/-- What a state says of the items that aren't told. -/
def Inv (D : Dt) (P : List It) (S : Sx) : Prop :=
  (∀ x, x ∈ P → WfI D x) ∧
  ((S.st = 0 ∧ P = [] ∧ S.letter = Ix.none)
  ∨ (S.st = 1 ∧ ∃ q, is q 39 = true ∧ ((P = [q] ∧ S.letter = Ix.none) ∨ ∃ y, P = [q, y] ∧ S.letter = ixOf D y ∧ (is y 114 = true ∨ is y 118 = true ∨ is y 108 = true)))
  ∨ (S.st = 2 ∧ S.letter = Ix.none ∧ Rn D P S.kind ∧ NS P ∧ S.bytes = sum P ∧ S.sort = sortOf S.kind)
  ∨ (S.st = 3 ∧ S.letter = Ix.none ∧ P ≠ [] ∧ runI D 3 P = P.length ∧ S.bytes = sum P ∧ S.many = P.length ∧ S.last = ixOf D (P.getD (P.length - 1) default)))

def okT (most : Nat) (t : Tk) : Bool := decide (t.b - t.a ≤ most)
/-- Behind items L, that begin at byte a. -/
def Res (D : Dt) (most : Nat) (S' : Sx) (out0 : List Tk) (a : Nat) (L : List It) : Prop :=
  ((ofI D L false).1.all (okT most) = true ∧ S'.over = false ∧ S'.out = out0 ++ (ofI D L false).1 ∧ S'.told = a + sum (L.take (ofI D L false).2) ∧ Inv D (L.drop (ofI D L false).2) S')
  ∨ ((ofI D L false).1.all (okT most) = false ∧ S'.over = true ∧ S'.out = out0 ++ (ofI D L false).1.takeWhile (okT most))

variable {D : Dt} {most : Nat} {S S' : Sx} {L P : List It} {x : It} {a n s : Nat} {out0 : List Tk}
theorem Res.none (h : nextI D L false = Option.none) (h1 : S'.over = false) (h2 : S'.out = out0) (h3 : S'.told = a) (h4 : Inv D L S') : Res D most S' out0 a L := by
  left
  rw [ofI_none h]
  exact ⟨rfl, h1, by simp [h2], by simp [h3, sum], by simpa using h4⟩
theorem Res.over (hc : Cont a L) (hL : L ≠ []) (h : nextI D L false = some (n, s)) (hm : most < sum (L.take n)) (h1 : S'.over = true) (h2 : S'.out = out0) : Res D most S' out0 a L := by
  right
  have hk : okT most ⟨a, a + sum (L.take n), s⟩ = false := by simp [okT]; omega
  rw [ofI_tok hc hL h]
  exact ⟨by simp [hk], h1, by simp [hk, h2]⟩
theorem Res.tok (hc : Cont a L) (hL : L ≠ []) (h : nextI D L false = some (n, s)) (hm : sum (L.take n) ≤ most) (hr : Res D most S' (out0 ++ [⟨a, a + sum (L.take n), s⟩]) (a + sum (L.take n)) (L.drop n)) : Res D most S' out0 a L := by
  have hk : okT most ⟨a, a + sum (L.take n), s⟩ = true := by simp [okT]; omega
  rcases hr with ⟨r1, r2, r3, r4, r5⟩ | ⟨r1, r2, r3⟩
  · left
    rw [ofI_tok hc hL h]
    refine ⟨by simp [hk, r1], r2, by rw [r3]; simp, ?_, by rw [List.drop_drop] at r5; exact r5⟩
    rw [r4, List.take_add, sum_append, Nat.add_assoc]
  · right
    rw [ofI_tok hc hL h]
    refine ⟨by simp [hk, r1], r2, by rw [r3]; simp [hk]⟩

theorem tell_over (h : S.over = false) (h1 : most < n) : tell most S n s = { S with over := true } := by unfold tell; rw [if_neg (by simp [h]), if_pos h1]
theorem tell_ok (h : S.over = false) (h1 : n ≤ most) : tell most S n s = { S with out := S.out ++ [⟨S.told, S.told + n, s⟩], told := S.told + n, st := 0, bytes := 0, many := 0, letter := Ix.none } := by unfold tell; rw [if_neg (by simp [h]), if_neg (by omega)]
theorem one0_over {y : Ix} (h : S.over = true) : one0 S y = S := by unfold one0; rw [if_pos h]

theorem one0_inv (h : S.over = false) (hl : S.letter = Ix.none) (hx : WfI D x) : Inv D [x] (one0 S (ixOf D x)) ∧ (one0 S (ixOf D x)).over = false ∧ (one0 S (ixOf D x)).out = S.out ∧ (one0 S (ixOf D x)).told = S.told := by
  have hw : ∀ y, y ∈ [x] → WfI D y := fun y hy => by rw [List.mem_singleton.1 hy]; exact hx
  unfold one0
  rw [if_neg (by simp [h])]
  by_cases c1 : (ixOf D x).c = 39
  · rw [if_pos c1]
    exact ⟨⟨hw, .inr (.inl ⟨rfl, x, (is_c hx (by omega) (by omega)).2 c1, .inl ⟨rfl, hl⟩⟩)⟩, h, rfl, rfl⟩
  rw [if_neg c1]
  have hq : is x 39 = false := by
    cases hq : is x 39
    · rfl
    · exact absurd ((is_c hx (by omega) (by omega)).1 hq) c1
  by_cases c2 : (ixOf D x).k = 3
  · rw [if_pos c2]
    refine ⟨⟨hw, .inr (.inr (.inr ⟨rfl, hl, by simp, ?_, ?_, rfl, rfl⟩))⟩, h, rfl, rfl⟩
    · have c3 : kind D x = 3 := c2
      simp [runI, c3]
    · simp [ixOf, sum]
  · rw [if_neg c2]
    have c3 : kind D x ≠ 3 := c2
    refine ⟨⟨hw, .inr (.inr (.inl ⟨rfl, hl, ⟨c3, .inl ⟨by simp, ?_, ?_⟩⟩, ?_, ?_, rfl⟩))⟩, h, rfl, rfl⟩
    · show is x 32 = false
      cases hb : is x 32
      · rfl
      · exact absurd (hx.blank hb) c3
    · simp [runI, runs, ixOf]
    · intro Q f
      unfold shortI
      rw [if_pos (by exact hq)]
    · simp [runs, ixOf, sum]
theorem one0_res (h : S.over = false) (hl : S.letter = Ix.none) (hx : WfI D x) : Res D most (one0 S (ixOf D x)) S.out S.told [x] := by
  obtain ⟨h1, h2, h3, h4⟩ := one0_inv h hl hx
  exact Res.none (next_one D x) h2 h3 h4 h1

theorem take_len (P : List It) (x : It) : (P ++ [x]).take P.length = P := by simp
theorem drop_len (P : List It) (x : It) : (P ++ [x]).drop P.length = [x] := by simp

theorem oneR_res (h : S.over = false) (h2 : S.st = 2) (hl : S.letter = Ix.none) (hR : Rn D P S.kind) (hN : NS (P ++ [x])) (hb : S.bytes = sum P) (hs : S.sort = sortOf S.kind) (hc : Cont S.told (P ++ [x])) (hw : ∀ y, y ∈ P ++ [x] → WfI D y) :
    Res D most (oneR most S (ixOf D x)) S.out S.told (P ++ [x]) := by
  have hx : WfI D x := hw x (by simp)
  have hs0 := hN [] false
  rw [List.append_nil] at hs0
  have hn := hR.next (Q := [x]) hs0
  unfold oneR
  rw [if_neg (by simp [h])]
  by_cases c : kind D x = S.kind
  · rw [if_pos (show (ixOf D x).k = S.kind from c)]
    refine Res.none ?_ h rfl rfl ⟨hw, .inr (.inr (.inl ⟨h2, hl, hR.more c, hN, ?_, hs⟩))⟩
    · rw [hn, if_pos ⟨by simp [runI, c], rfl⟩]
    · show S.bytes + x.bytes = _
      rw [hb, sum_append]
      simp [sum]
  · rw [if_neg (show ¬ (ixOf D x).k = S.kind from c)]
    have h0 : runI D S.kind [x] = 0 := by simp [runI, c]
    rw [h0, if_neg (by simp), Nat.add_zero] at hn
    by_cases hm : most < sum P
    · rw [hb, tell_over h hm, one0_over rfl]
      exact Res.over hc (by simp) hn (by rw [take_len]; exact hm) rfl rfl
    · rw [hb, tell_ok h (by omega), hs]
      refine Res.tok hc (by simp) hn (by rw [take_len]; omega) ?_
      rw [take_len, drop_len]
      exact one0_res h rfl hx

theorem oneS_res (h : S.over = false) (h2 : S.st = 3) (hl : S.letter = Ix.none) (hP : P ≠ []) (hr : runI D 3 P = P.length) (hb : S.bytes = sum P) (hm' : S.many = P.length) (hla : S.last = ixOf D (P.getD (P.length - 1) default)) (hc : Cont S.told (P ++ [x])) (hw : ∀ y, y ∈ P ++ [x] → WfI D y) :
    Res D most (oneS most S (ixOf D x)) S.out S.told (P ++ [x]) := by
  have hx : WfI D x := hw x (by simp)
  have h0 : 0 < P.length := List.length_pos_iff.2 hP
  have hk0 : ∀ i, i < P.length → kind D (P.getD i default) = 3 := fun i hi => runI_at (by omega)
  have hmem : ∀ i, i < P.length → WfI D (P.getD i default) := fun i hi => hw _ (List.mem_append_left _ (by rw [List.getD, List.getElem?_eq_getElem hi]; exact List.getElem_mem hi))
  have hq : is (P.getD 0 default) 39 = false := by
    cases hq : is (P.getD 0 default) 39
    · rfl
    · have := (hmem 0 h0).quote hq
      rw [hk0 0 h0] at this
      exact absurd this (by decide)
  have hN : ∀ Q f, shortI (P ++ Q) f = some 0 := fun Q f => by
    unfold shortI
    rw [if_pos (by rw [get_app h0]; exact hq)]
  unfold oneS
  rw [if_neg (by simp [h])]
  by_cases c : kind D x = 3
  · rw [if_pos (show (ixOf D x).k = 3 from c)]
    have hr' : runI D 3 (P ++ [x]) = (P ++ [x]).length := by rw [runI_full [x] hr, List.length_append]; simp [runI, c]
    refine Res.none ?_ h rfl rfl ⟨hw, .inr (.inr (.inr ⟨h2, hl, by simp, hr', ?_, ?_, ?_⟩))⟩
    · by_cases hb2 : 1 < P.length ∨ is (P.getD 0 default) 32 = false
      · rw [spaces_next hP hr (hN _ _) hb2, if_pos ⟨by simp [runI, c], rfl⟩]
      · have h1 := spaces_next (P := P ++ [x]) (Q := []) (fin := false) (by simp) hr' (by rw [List.append_assoc]; exact hN _ _) (.inl (by rw [List.length_append]; simp; omega))
        rw [List.append_nil] at h1
        rw [h1, if_pos ⟨rfl, rfl⟩]
    · show S.bytes + x.bytes = _
      rw [hb, sum_append]
      simp [sum]
    · show S.many + 1 = _
      rw [hm']
      simp
    · show ixOf D x = _
      simp
  · rw [if_neg (show ¬ (ixOf D x).k = 3 from c)]
    -- the last space and x, where the machine stands at the last space
    have tail : ∀ (S1 : Sx) (y : It), S1.over = false → S1.letter = Ix.none → WfI D y → kind D y = 3 → Cont S1.told [y, x] →
        Res D most (if (ixOf D y).c = 32 then runs S1 (ixOf D x) 1 else one0 (tell most S1 (ixOf D y).n 5) (ixOf D x)) S1.out S1.told [y, x] := by
      intro S1 y o1 o2 hy hky hcy
      have hwy : ∀ z, z ∈ [y, x] → WfI D z := fun z hz => by
        rcases List.mem_cons.1 hz with rfl | hz
        · exact hy
        · rw [List.mem_singleton.1 hz]; exact hx
      have hyq : is y 39 = false := by
        cases hq : is y 39
        · rfl
        · have := hy.quote hq
          rw [hky] at this
          exact absurd this (by decide)
      have hNy : NS [y, x] := fun Q f => by
        unfold shortI
        rw [if_pos (by exact hyq)]
      by_cases c1 : (ixOf D y).c = 32
      · rw [if_pos c1]
        have hyb := (is_c hy (r := 32) (by omega) (by omega)).2 c1
        have hy1 := is_one_byte hy (by omega) hyb
        have hRn : Rn D [y, x] (kind D x) := ⟨c, .inr ⟨y, [x], rfl, hyb, by simp, by simp [runI]⟩⟩
        refine Res.none ?_ o1 rfl rfl ⟨hwy, .inr (.inr (.inl ⟨rfl, o2, hRn, hNy, ?_, rfl⟩))⟩
        · have := hRn.next (Q := []) (fin := false) (by simpa using hNy [] false)
          simpa [runI] using this
        · show 1 + x.bytes = _
          simp [sum, hy1]
      · rw [if_neg c1]
        have hyb : is y 32 = false := by
          cases hb : is y 32
          · rfl
          · exact absurd ((is_c hy (by omega) (by omega)).1 hb) c1
        have hn := spaces_next (D := D) (P := [y]) (Q := [x]) (fin := false) (by simp) (by simp [runI, hky]) (by simpa using hNy [] false) (.inr hyb)
        have h0 : runI D 3 [x] = 0 := by simp [runI, c]
        rw [h0] at hn
        simp only [List.length_singleton, Nat.add_zero] at hn
        rw [if_neg (by omega), if_neg (by omega)] at hn
        have e1 : sum ([y, x].take 1) = y.bytes := by simp [sum]
        by_cases hm : most < y.bytes
        · rw [show (ixOf D y).n = y.bytes from rfl, tell_over o1 hm, one0_over rfl]
          exact Res.over hcy (by simp) hn (by rw [e1]; exact hm) rfl rfl
        · rw [show (ixOf D y).n = y.bytes from rfl, tell_ok o1 (by omega)]
          refine Res.tok hcy (by simp) hn (by rw [e1]; omega) ?_
          rw [e1]
          exact one0_res o1 rfl hx
    obtain ⟨y, hy⟩ : ∃ y, P.getD (P.length - 1) default = y := ⟨_, rfl⟩
    have hwy := hmem (P.length - 1) (by omega)
    have hky := hk0 (P.length - 1) (by omega)
    rw [hy] at hla hwy hky
    have eP : P = P.take (P.length - 1) ++ [y] := by
      have h1 : P.take (P.length - 1 + 1) = P := by rw [show P.length - 1 + 1 = P.length by omega, List.take_length]
      rw [List.take_add_one] at h1
      have h2 : P[P.length - 1]? = some y := by
        rw [← hy, List.getD, List.getElem?_eq_getElem (by omega)]
        rfl
      rw [h2] at h1
      exact h1.symm
    have hsum : sum P = sum (P.take (P.length - 1)) + y.bytes := by
      rw (occs := .pos [1]) [eP]
      rw [sum_append]
      simp [sum]
    unfold parted
    simp only [hla, hm', hb]
    by_cases c2 : 1 < P.length
    · rw [if_pos c2]
      have hn := spaces_next (Q := [x]) (fin := false) hP hr (hN _ _) (.inl c2)
      have h1 : runI D 3 [x] = 0 := by simp [runI, c]
      rw [h1] at hn
      simp only [List.length_singleton, Nat.add_zero] at hn
      rw [if_neg (by omega), if_pos (by omega)] at hn
      have e1 : (P ++ [x]).take (P.length - 1) = P.take (P.length - 1) := List.take_append_of_le_length (by omega)
      have e2 : (P ++ [x]).drop (P.length - 1) = [y, x] := by
        rw [List.drop_append_of_le_length (by omega)]
        have h3 : P.drop (P.length - 1) = [y] := by
          have h4 : (P.take (P.length - 1) ++ [y]).drop (P.length - 1) = [y] := by
            rw [List.drop_append_of_le_length (by simp), List.drop_eq_nil_of_le (by simp)]
            rfl
          rw [← eP] at h4
          exact h4
        rw [h3]
        rfl
      have e3 : sum P - y.bytes = sum (P.take (P.length - 1)) := by omega
      rw [show (ixOf D y).n = y.bytes from rfl, e3]
      by_cases hm : most < sum (P.take (P.length - 1))
      · rw [tell_over h hm]
        refine Res.over hc (by simp) hn (by rw [e1]; exact hm) ?_ ?_
        · split
          · rfl
          · rw [show tell most { S with over := true } y.bytes 5 = { S with over := true } by unfold tell; rw [if_pos rfl], one0_over rfl]
        · split
          · rfl
          · rw [show tell most { S with over := true } y.bytes 5 = { S with over := true } by unfold tell; rw [if_pos rfl], one0_over rfl]
      · rw [tell_ok h (by omega)]
        refine Res.tok hc (by simp) hn (by rw [e1]; omega) ?_
        have hcd := hc.drop (P.length - 1)
        rw [e1] at hcd
        rw [e1, e2]
        rw [e2] at hcd
        exact tail _ y h rfl hwy hky hcd
    · rw [if_neg c2]
      have h1 : P.length - 1 = 0 := by omega
      rw [h1, List.take_zero, List.nil_append] at eP
      rw [eP] at hc ⊢
      exact tail S y h hl hwy hky hc

theorem oneA_res (hI : Inv D P S) (h : S.over = false) (h1 : S.st ≠ 1) (hx : WfI D x) (hc : Cont S.told (P ++ [x])) : Res D most (oneA most S (ixOf D x)) S.out S.told (P ++ [x]) := by
  obtain ⟨hw, hI⟩ := hI
  have hw' : ∀ y, y ∈ P ++ [x] → WfI D y := fun y hy => by
    rcases List.mem_append.1 hy with hy | hy
    · exact hw y hy
    · rw [List.mem_singleton.1 hy]; exact hx
  unfold oneA
  rcases hI with ⟨a1, a2, a3⟩ | ⟨a1, _⟩ | ⟨a1, a2, a3, a4, a5, a6⟩ | ⟨a1, a2, a3, a4, a5, a6, a7⟩
  · rw [if_neg (by omega), if_neg (by omega)]
    subst a2
    exact one0_res h a3 hx
  · exact absurd a1 h1
  · rw [if_pos a1]
    exact oneR_res h a1 a2 a3 (fun Q f => by rw [List.append_assoc]; exact a4 _ f) a5 a6 hc hw'
  · rw [if_neg (by omega), if_pos a1]
    exact oneS_res h a1 a2 a3 a4 a5 a6 a7 hc hw'
end Go.Proofs.YtendkmldecoogaaDoor.StepLaw
namespace Go.Proofs.YtendkmldecoogaaDoor.StepLaw
open Go Go.Proofs.YtendkmldecoogaaDoor.Utf Go.Proofs.YtendkmldecoogaaDoor.It Go.Proofs.YtendkmldecoogaaDoor.Dt Go.Proofs.YtendkmldecoogaaDoor.Cu

variable {D : Dt} {most : Nat} {S S' : Sx} {L P : List It} {x q y : It} {a n s : Nat} {out0 : List Tk}

theorem is_no {r : Nat} (h : is x 39 = true) (hr : r ≠ 39) : is x r = false := by
  unfold is at h ⊢
  simp only [Bool.and_eq_true, Bool.not_eq_true', decide_eq_true_eq] at h
  rw [h.1, h.2]
  simp
  omega
theorem is_not {r : Nat} (hx : WfI D x) (h0 : 0 < r) (hr : r < 128) (h : (ixOf D x).c ≠ r) : is x r = false := by
  cases hb : is x r
  · rfl
  · exact absurd ((is_c hx h0 hr).1 hb) h

theorem two_short (hq : is q 39 = true) (h : is x 115 = true ∨ is x 116 = true ∨ is x 109 = true ∨ is x 100 = true) (Q : List It) (f : Bool) : shortI (q :: x :: Q) f = some 2 := by
  unfold shortI
  have e0 : (q :: x :: Q).getD 0 default = q := rfl
  have e1 : (q :: x :: Q).getD 1 default = x := rfl
  rw [e0, e1, if_neg (by rw [hq]; simp), if_neg (by simp), if_pos h]
theorem two_none (hq : is q 39 = true) (h1 : ¬ (is x 115 = true ∨ is x 116 = true ∨ is x 109 = true ∨ is x 100 = true)) (h2 : ¬ (is x 114 = false ∧ is x 118 = false ∧ is x 108 = false)) (f : Bool) : shortI [q, x] f = if f = true then some 0 else none := by
  unfold shortI
  have e0 : [q, x].getD 0 default = q := rfl
  have e1 : [q, x].getD 1 default = x := rfl
  rw [e0, e1, if_neg (by rw [hq]; simp), if_neg (by simp), if_neg h1, if_neg h2, if_pos (by simp)]
theorem two_not (hq : is q 39 = true) (h1 : ¬ (is x 115 = true ∨ is x 116 = true ∨ is x 109 = true ∨ is x 100 = true)) (h2 : is x 114 = false ∧ is x 118 = false ∧ is x 108 = false) : NS [q, x] := by
  intro Q f
  show shortI (q :: x :: Q) f = some 0
  unfold shortI
  have e0 : (q :: x :: Q).getD 0 default = q := rfl
  have e1 : (q :: x :: Q).getD 1 default = x := rfl
  rw [e0, e1, if_neg (by rw [hq]; simp), if_neg (by simp), if_neg h1, if_pos h2]
theorem three (hq : is q 39 = true) (h1 : ¬ (is y 115 = true ∨ is y 116 = true ∨ is y 109 = true ∨ is y 100 = true)) (h2 : ¬ (is y 114 = false ∧ is y 118 = false ∧ is y 108 = false)) (Q : List It) (f : Bool) :
    shortI (q :: y :: x :: Q) f = if (is y 108 = true ∧ is x 108 = true) ∨ (is y 108 = false ∧ is x 101 = true) then some 3 else some 0 := by
  unfold shortI
  have e0 : (q :: y :: x :: Q).getD 0 default = q := rfl
  have e1 : (q :: y :: x :: Q).getD 1 default = y := rfl
  have e2 : (q :: y :: x :: Q).getD 2 default = x := rfl
  rw [e0, e1, e2, if_neg (by rw [hq]; simp), if_neg (by simp), if_neg h1, if_neg h2, if_neg (by simp)]
theorem short_next {m : Nat} (hs : shortI L false = some (m + 1)) : nextI D L false = some (m + 1, 1) := by unfold nextI; rw [hs]

theorem rvl_is (hy : WfI D y) (h : is y 114 = true ∨ is y 118 = true ∨ is y 108 = true) : ((ixOf D y).c = 114 ∨ (ixOf D y).c = 118 ∨ (ixOf D y).c = 108) ∧ y.bytes = 1 := by
  rcases h with h | h | h
  · exact ⟨.inl ((is_c hy (by omega) (by omega)).1 h), is_one_byte hy (by omega) h⟩
  · exact ⟨.inr (.inl ((is_c hy (by omega) (by omega)).1 h)), is_one_byte hy (by omega) h⟩
  · exact ⟨.inr (.inr ((is_c hy (by omega) (by omega)).1 h)), is_one_byte hy (by omega) h⟩

theorem quote_run (hq : is q 39 = true) (hw : WfI D q) : Rn D [q] 4 ∧ q.bytes = 1 := by
  refine ⟨⟨by decide, .inl ⟨by simp, is_no hq (by omega), ?_⟩⟩, is_one_byte hw (by omega) hq⟩
  have := hw.quote hq
  simp [runI, this]

/-- The machine behind a quote, and nothing or a letter behind it. -/
theorem behind_res (hm : 1 ≤ most) (hI : Inv D P S) (h : S.over = false) (h1 : S.st = 1) (hx : WfI D x) (hc : Cont S.told (P ++ [x])) : Res D most (behind most S (ixOf D x)) S.out S.told (P ++ [x]) := by
  obtain ⟨hw, hI⟩ := hI
  rcases hI with ⟨a1, _⟩ | ⟨_, q, hq, hP⟩ | ⟨a1, _⟩ | ⟨a1, _⟩
  · omega
  · have hw' : ∀ y, y ∈ P ++ [x] → WfI D y := fun y hy => by
      rcases List.mem_append.1 hy with hy | hy
      · exact hw y hy
      · rw [List.mem_singleton.1 hy]; exact hx
    have hwq : WfI D q := hw q (by rcases hP with ⟨rfl, _⟩ | ⟨y, rfl, _⟩ <;> simp)
    obtain ⟨hRq, hq1⟩ := quote_run hq hwq
    rcases hP with ⟨rfl, hl⟩ | ⟨y, rfl, hl, hy⟩
    · unfold behind
      rw [hl]
      by_cases c1 : (ixOf D x).c = 115 ∨ (ixOf D x).c = 116 ∨ (ixOf D x).c = 109 ∨ (ixOf D x).c = 100
      · rw [if_pos ⟨rfl, c1⟩]
        have c1' : is x 115 = true ∨ is x 116 = true ∨ is x 109 = true ∨ is x 100 = true := by
          rw [is_c hx (by omega) (by omega), is_c hx (by omega) (by omega), is_c hx (by omega) (by omega), is_c hx (by omega) (by omega)]
          exact c1
        have hx1 : x.bytes = 1 := by
          rcases c1' with c | c | c | c <;> exact is_one_byte hx (by omega) c
        have hn : nextI D ([q] ++ [x]) false = some (2, 1) := short_next (two_short hq c1' [] false)
        have e1 : sum (([q] ++ [x]).take 2) = 2 := by simp [sum, hq1, hx1]
        by_cases hm2 : most < 2
        · rw [tell_over h hm2]
          exact Res.over hc (by simp) hn (by rw [e1]; exact hm2) rfl rfl
        · rw [tell_ok h (by omega)]
          refine Res.tok hc (by simp) hn (by rw [e1]; omega) ?_
          rw [e1]
          left
          rw [show ([q] ++ [x]).drop 2 = [] from rfl, ofI_nil]
          exact ⟨rfl, h, by simp, by simp [sum], fun y hy => by simp at hy, .inl ⟨rfl, rfl, rfl⟩⟩
      · have c1' : ¬ (is x 115 = true ∨ is x 116 = true ∨ is x 109 = true ∨ is x 100 = true) := by
          rw [is_c hx (by omega) (by omega), is_c hx (by omega) (by omega), is_c hx (by omega) (by omega), is_c hx (by omega) (by omega)]
          exact c1
        rw [if_neg (fun h => c1 h.2)]
        by_cases c2 : (ixOf D x).c = 114 ∨ (ixOf D x).c = 118 ∨ (ixOf D x).c = 108
        · rw [if_pos ⟨rfl, c2⟩]
          have c2' : is x 114 = true ∨ is x 118 = true ∨ is x 108 = true := by
            rw [is_c hx (by omega) (by omega), is_c hx (by omega) (by omega), is_c hx (by omega) (by omega)]
            exact c2
          have c3 : ¬ (is x 114 = false ∧ is x 118 = false ∧ is x 108 = false) := by
            rintro ⟨h1, h2, h3⟩
            rcases c2' with c | c | c
            · rw [h1] at c; cases c
            · rw [h2] at c; cases c
            · rw [h3] at c; cases c
          refine Res.none ?_ h rfl rfl ⟨hw', .inr (.inl ⟨h1, q, hq, .inr ⟨x, rfl, rfl, c2'⟩⟩)⟩
          unfold nextI
          rw [show [q] ++ [x] = [q, x] from rfl, two_none hq c1' c3]
          rfl
        · rw [if_neg (fun h => c2 h.2), if_neg (by simp [Ix.none])]
          have c2' : is x 114 = false ∧ is x 118 = false ∧ is x 108 = false := ⟨is_not hx (by omega) (by omega) (fun h => c2 (.inl h)), is_not hx (by omega) (by omega) (fun h => c2 (.inr (.inl h))), is_not hx (by omega) (by omega) (fun h => c2 (.inr (.inr h)))⟩
          have hN := two_not hq c1' c2'
          unfold unq
          rw [hl, if_neg (by simp [Ix.none])]
          unfold oneA
          rw [if_pos (by rfl)]
          exact oneR_res (S := runs { S with letter := Ix.none } ⟨1, 4, 39⟩ 0) h rfl rfl hRq hN (by simp [runs, sum, hq1]) rfl hc hw'
    · have hwy : WfI D y := hw y (by simp)
      obtain ⟨hyc, hy1⟩ := rvl_is hwy hy
      have hyn : (ixOf D y).n = 1 := hy1
      have n1 : ¬ (is y 115 = true ∨ is y 116 = true ∨ is y 109 = true ∨ is y 100 = true) := by
        rw [is_c hwy (by omega) (by omega), is_c hwy (by omega) (by omega), is_c hwy (by omega) (by omega), is_c hwy (by omega) (by omega)]
        omega
      have n2 : ¬ (is y 114 = false ∧ is y 118 = false ∧ is y 108 = false) := by
        rintro ⟨h1, h2, h3⟩
        rcases hy with c | c | c
        · rw [h1] at c; cases c
        · rw [h2] at c; cases c
        · rw [h3] at c; cases c
      unfold behind
      rw [hl, if_neg (by omega), if_neg (by omega)]
      have h3 := three (x := x) hq n1 n2
      by_cases c1 : ((ixOf D y).c = 114 ∧ (ixOf D x).c = 101) ∨ ((ixOf D y).c = 118 ∧ (ixOf D x).c = 101) ∨ ((ixOf D y).c = 108 ∧ (ixOf D x).c = 108)
      · rw [if_pos c1]
        have c2 : (is y 108 = true ∧ is x 108 = true) ∨ (is y 108 = false ∧ is x 101 = true) := by
          rcases c1 with ⟨c, d⟩ | ⟨c, d⟩ | ⟨c, d⟩
          · exact .inr ⟨is_not hwy (by omega) (by omega) (by omega), (is_c hx (by omega) (by omega)).2 d⟩
          · exact .inr ⟨is_not hwy (by omega) (by omega) (by omega), (is_c hx (by omega) (by omega)).2 d⟩
          · exact .inl ⟨(is_c hwy (by omega) (by omega)).2 c, (is_c hx (by omega) (by omega)).2 d⟩
        have hx1 : x.bytes = 1 := by
          rcases c2 with c | c
          · exact is_one_byte hx (by omega) c.2
          · exact is_one_byte hx (by omega) c.2
        have hn : nextI D ([q, y] ++ [x]) false = some (3, 1) := short_next (by
          show shortI (q :: y :: x :: []) false = some 3
          rw [h3, if_pos c2])
        have e1 : sum (([q, y] ++ [x]).take 3) = 3 := by simp [sum, hq1, hx1, hy1]
        by_cases hm2 : most < 3
        · rw [tell_over h hm2]
          exact Res.over hc (by simp) hn (by rw [e1]; exact hm2) rfl rfl
        · rw [tell_ok h (by omega)]
          refine Res.tok hc (by simp) hn (by rw [e1]; omega) ?_
          rw [e1]
          left
          rw [show ([q, y] ++ [x]).drop 3 = [] from rfl, ofI_nil]
          exact ⟨rfl, h, by simp, by simp [sum], fun y hy => by simp at hy, .inl ⟨rfl, rfl, rfl⟩⟩
      · rw [if_neg c1]
        have c2 : ¬ ((is y 108 = true ∧ is x 108 = true) ∨ (is y 108 = false ∧ is x 101 = true)) := by
          rintro (⟨c, d⟩ | ⟨c, d⟩)
          · exact c1 (.inr (.inr ⟨(is_c hwy (by omega) (by omega)).1 c, (is_c hx (by omega) (by omega)).1 d⟩))
          · have d' := (is_c hx (by omega) (by omega)).1 d
            rcases hyc with e | e | e
            · exact c1 (.inl ⟨e, d'⟩)
            · exact c1 (.inr (.inl ⟨e, d'⟩))
            · rw [(is_c hwy (by omega) (by omega)).2 e] at c; cases c
        have hN : NS ([q, y] ++ [x]) := fun Q f => by
          show shortI (q :: y :: x :: Q) f = some 0
          rw [h3, if_neg c2]
        unfold unq
        rw [hl, if_pos (by omega)]
        obtain ⟨S1, hS1⟩ : ∃ S1, runs { S with letter := Ix.none } ⟨1, 4, 39⟩ 0 = S1 := ⟨_, rfl⟩
        have s1 : S1.over = false ∧ S1.st = 2 ∧ S1.letter = Ix.none ∧ S1.kind = 4 ∧ S1.bytes = 1 ∧ S1.sort = 4 ∧ S1.told = S.told ∧ S1.out = S.out := by
          rw [← hS1]
          exact ⟨h, rfl, rfl, rfl, rfl, rfl, rfl, rfl⟩
        rw [hS1]
        obtain ⟨g1, g2, g3, g4, g5, g6, g7, g8⟩ := s1
        by_cases c3 : kind D y = 4
        · have e1 : oneR most S1 (ixOf D y) = { S1 with bytes := S1.bytes + y.bytes } := by
            unfold oneR
            rw [if_neg (by simp [g1]), if_pos (show (ixOf D y).k = S1.kind by rw [g4]; exact c3)]
            rfl
          rw [e1]
          unfold oneA
          rw [if_pos (by exact g2)]
          rw [← g7] at hc
          rw [← g7, ← g8]
          exact oneR_res (most := most) (x := x) (S := { S1 with bytes := S1.bytes + y.bytes }) (P := [q, y]) g1 g2 g3 (by rw [show ({ S1 with bytes := S1.bytes + y.bytes } : Sx).kind = 4 from g4]; exact hRq.more c3) hN (by simp [g5, sum, hq1]) (by rw [show ({ S1 with bytes := S1.bytes + y.bytes } : Sx).kind = 4 from g4]; exact g6) hc hw'
        · have e1 : oneR most S1 (ixOf D y) = one0 (tell most S1 1 4) (ixOf D y) := by
            unfold oneR
            rw [if_neg (by simp [g1]), if_neg (show ¬ (ixOf D y).k = S1.kind by rw [g4]; exact c3), g5, g6]
          rw [e1, tell_ok g1 hm]
          obtain ⟨S2, hS2⟩ : ∃ S2 : Sx, { S1 with out := S1.out ++ [⟨S1.told, S1.told + 1, 4⟩], told := S1.told + 1, st := 0, bytes := 0, many := 0, letter := Ix.none } = S2 := ⟨_, rfl⟩
          have s2 : S2.over = false ∧ S2.letter = Ix.none ∧ S2.told = S.told + 1 ∧ S2.out = S.out ++ [⟨S.told, S.told + 1, 4⟩] := by
            rw [← hS2, ← g7, ← g8]
            exact ⟨g1, rfl, rfl, rfl⟩
          rw [hS2]
          obtain ⟨p1, p2, p3, p4⟩ := s2
          obtain ⟨r1, r2, r3, r4⟩ := one0_inv p1 p2 hwy
          have hst : (one0 S2 (ixOf D y)).st ≠ 1 := by
            unfold one0
            rw [if_neg (by simp [p1]), if_neg (by omega)]
            split
            · simp
            · simp [runs]
          have hn := hRq.next (Q := [y, x]) (fin := false) (hN [] false)
          have h0 : runI D 4 [y, x] = 0 := by simp [runI, c3]
          rw [h0, if_neg (by simp)] at hn
          have e2 : sum (([q, y] ++ [x]).take 1) = 1 := by simp [sum, hq1]
          have hcd := hc.drop 1
          rw [e2] at hcd
          refine Res.tok hc (by simp) hn (by rw [show ([q].length + 0) = 1 from rfl, e2]; exact hm) ?_
          rw [show ([q].length + 0) = 1 from rfl, e2]
          have := oneA_res (most := most) (x := x) r1 r2 hst hx (by rw [r4, p3]; exact hcd)
          rw [r3, r4, p3, p4] at this
          exact this
  · omega
  · omega

theorem oneF_res (hm : 1 ≤ most) (hI : Inv D P S) (h : S.over = false) (hx : WfI D x) (hc : Cont S.told (P ++ [x])) : Res D most (oneF most S (ixOf D x)) S.out S.told (P ++ [x]) := by
  unfold oneF
  rw [if_neg (by simp [h])]
  by_cases c : S.st = 1
  · rw [if_pos c]
    exact behind_res hm hI h c hx hc
  · rw [if_neg c]
    exact oneA_res hI h c hx hc
end Go.Proofs.YtendkmldecoogaaDoor.StepLaw
namespace Go.Proofs.YtendkmldecoogaaDoor.StepLaw
open Go Go.Proofs.YtendkmldecoogaaDoor.Utf Go.Proofs.YtendkmldecoogaaDoor.It Go.Proofs.YtendkmldecoogaaDoor.Dt Go.Proofs.YtendkmldecoogaaDoor.Cu

/-- The bytes that are sure of what can't be told. -/
def sureI (D : Dt) (P : List It) : Nat :=
  if is (P.getD 0 default) 39 = true ∧ (P.length = 1 ∨ (P.length = 2 ∧ (is (P.getD 1 default) 114 = true ∨ is (P.getD 1 default) 118 = true ∨ is (P.getD 1 default) 108 = true))) then 1
  else if kind D (P.getD 0 default) ≠ 3 ∨ (is (P.getD 0 default) 32 = true ∧ 1 < P.length ∧ kind D (P.getD 1 default) ≠ 3) then sum P
  else if P.length = 1 then 1 else sum P - (P.getD (P.length - 1) default).bytes

variable {D : Dt} {most : Nat} {S S' : Sx} {L P Q : List It} {x q y : It} {a n s : Nat} {out0 : List Tk}

theorem rvl_no_stmd {y : It} (h : is y 114 = true ∨ is y 118 = true ∨ is y 108 = true) : ¬ (is y 115 = true ∨ is y 116 = true ∨ is y 109 = true ∨ is y 100 = true) := by
  unfold is at h ⊢
  simp only [Bool.and_eq_true, Bool.not_eq_true', decide_eq_true_eq] at h ⊢
  omega
theorem NS.first (h : NS P) (h0 : P ≠ []) : ¬ (is (P.getD 0 default) 39 = true ∧ (P.length = 1 ∨ (P.length = 2 ∧ (is (P.getD 1 default) 114 = true ∨ is (P.getD 1 default) 118 = true ∨ is (P.getD 1 default) 108 = true)))) := by
  rintro ⟨h1, h2⟩
  have h3 := h [] false
  rw [List.append_nil] at h3
  rcases h2 with h2 | ⟨h2, h4⟩
  · unfold shortI at h3
    rw [if_neg (by rw [h1]; simp), if_pos (by omega)] at h3
    simp at h3
  · obtain ⟨q, y, rfl⟩ : ∃ q y, P = [q, y] := by
      match P, h2 with
      | [q, y], _ => exact ⟨q, y, rfl⟩
    have h1' : is q 39 = true := h1
    have h4' : is y 114 = true ∨ is y 118 = true ∨ is y 108 = true := h4
    rw [two_none h1' (rvl_no_stmd h4') (fun hh => by
      rcases h4' with c | c | c
      · rw [hh.1] at c; cases c
      · rw [hh.2.1] at c; cases c
      · rw [hh.2.2] at c; cases c)] at h3
    simp at h3
theorem Rn.sure {k : Int} (h : Rn D P k) (hN : NS (P ++ Q)) : sureI D (P ++ Q) = sum (P ++ Q) := by
  obtain ⟨hk, h | ⟨b, P', rfl, hb, hP, hr⟩⟩ := h
  · obtain ⟨hP, hb, hr⟩ := h
    have h0 : 0 < P.length := List.length_pos_iff.2 hP
    unfold sureI
    rw [if_neg (hN.first (by simp [hP])), if_pos (.inl (by rw [get_app h0, get_of_run hr hP]; exact hk))]
  · have h0 : 0 < P'.length := List.length_pos_iff.2 hP
    unfold sureI
    rw [if_neg (hN.first (by simp)), if_pos]
    refine .inr ⟨hb, by simp; omega, ?_⟩
    show kind D ((P' ++ Q).getD 0 default) ≠ 3
    rw [get_app h0, get_of_run hr hP]
    exact hk
theorem spaces_sure (hw : ∀ x, x ∈ P → WfI D x) (hP : P ≠ []) (hr : runI D 3 P = P.length) : sureI D P = if P.length = 1 then 1 else sum P - (P.getD (P.length - 1) default).bytes := by
  have h0 : 0 < P.length := List.length_pos_iff.2 hP
  have k0 := get_of_run hr hP
  have hw0 : WfI D (P.getD 0 default) := hw _ (by rw [List.getD, List.getElem?_eq_getElem h0]; exact List.getElem_mem h0)
  unfold sureI
  rw [if_neg, if_neg]
  · rintro (h | ⟨_, h1, h2⟩)
    · exact h k0
    · exact h2 (runI_at (by omega))
  · rintro ⟨h, _⟩
    have := hw0.quote h
    rw [k0] at this
    exact absurd this (by decide)

theorem sum_mono (L : List It) {m n : Nat} (h : m ≤ n) : sum (L.take m) ≤ sum (L.take n) := by
  rw [show n = m + (n - m) by omega, List.take_add, sum_append]
  omega
theorem sum_last (h : P ≠ []) : sum P = sum (P.take (P.length - 1)) + (P.getD (P.length - 1) default).bytes := by
  have h0 : 0 < P.length := List.length_pos_iff.2 h
  have h1 : P.take (P.length - 1 + 1) = P := by rw [show P.length - 1 + 1 = P.length by omega, List.take_length]
  rw [List.take_add_one] at h1
  rw (occs := .pos [1]) [← h1]
  rw [sum_append]
  simp [sum, List.getD, show P.length - 1 < P.length by omega]

/-- Nothing can be told of what a state says. -/
theorem Inv.none (hI : Inv D P S) : ofI D P false = ([], 0) := by
  obtain ⟨hw, hI⟩ := hI
  rcases hI with ⟨_, rfl, _⟩ | ⟨_, q, hq, hP⟩ | ⟨_, _, a3, a4, _⟩ | ⟨_, _, a3, a4, _⟩
  · exact ofI_nil D false
  · rcases hP with ⟨rfl, _⟩ | ⟨y, rfl, _, hy⟩
    · exact ofI_none (next_one D q)
    · refine ofI_none ?_
      unfold nextI
      rw [two_none hq (rvl_no_stmd hy) (fun hh => by
        rcases hy with c | c | c
        · rw [hh.1] at c; cases c
        · rw [hh.2.1] at c; cases c
        · rw [hh.2.2] at c; cases c)]
      rfl
  · refine ofI_none ?_
    have := a3.next (Q := []) (fin := false) (by simpa using a4 [] false)
    simpa [runI] using this
  · refine ofI_none ?_
    have h0 : 0 < P.length := List.length_pos_iff.2 a3
    have k0 := get_of_run a4 a3
    have hw0 : WfI D (P.getD 0 default) := hw _ (by rw [List.getD, List.getElem?_eq_getElem h0]; exact List.getElem_mem h0)
    have hs : shortI P false = some 0 := by
      unfold shortI
      rw [if_pos]
      cases hq : is (P.getD 0 default) 39
      · rfl
      · have := hw0.quote hq
        rw [k0] at this
        exact absurd this (by decide)
    by_cases hb : 1 < P.length ∨ is (P.getD 0 default) 32 = false
    · have := spaces_next (Q := []) (fin := false) a3 a4 (by simpa using hs) hb
      simpa [runI] using this
    · obtain ⟨b, rfl⟩ : ∃ b, P = [b] := by
        match P, h0, hb with
        | [b], _, _ => exact ⟨b, rfl⟩
        | b :: c :: P, _, hb => exact absurd (.inl (by simp)) hb
      exact next_one D b

theorem sure_eq (hm : 1 ≤ most) (hI : Inv D P S) (hP : P ≠ []) : most < sureI D P ↔ most < sure S := by
  obtain ⟨hw, hI⟩ := hI
  rcases hI with ⟨_, h, _⟩ | ⟨a1, q, hq, hP'⟩ | ⟨a1, _, a3, a4, a5, _⟩ | ⟨a1, _, a3, a4, a5, a6, a7⟩
  · exact absurd h hP
  · have e1 : sure S = 0 := by unfold sure; rw [if_neg (by omega), if_neg (by omega)]
    have e2 : sureI D P = 1 := by
      unfold sureI
      rw [if_pos]
      rcases hP' with ⟨rfl, _⟩ | ⟨y, rfl, _, hy⟩
      · exact ⟨hq, .inl rfl⟩
      · exact ⟨hq, .inr ⟨rfl, hy⟩⟩
    rw [e1, e2]
    omega
  · have e1 : sure S = sum P := by unfold sure; rw [if_pos a1, a5]
    have e2 := a3.sure (Q := []) (by rw [List.append_nil]; exact a4)
    rw [List.append_nil] at e2
    rw [e1, e2]
  · have e2 := spaces_sure hw a3 a4
    have h0 : 0 < P.length := List.length_pos_iff.2 a3
    have e3 : sure S = if 1 < P.length then sum P - (P.getD (P.length - 1) default).bytes else 0 := by
      unfold sure
      rw [if_neg (by omega), a5, a6, a7]
      by_cases c : 1 < P.length
      · rw [if_pos ⟨a1, c⟩, if_pos c]
        rfl
      · rw [if_neg (fun h => c h.2), if_neg c]
    rw [e2, e3]
    by_cases c : P.length = 1
    · rw [if_pos c, if_neg (by omega)]
      omega
    · rw [if_neg c, if_pos (by omega)]

/-- What is sure stays so. -/
theorem sure_more (hI : Inv D P S) (hQ : ∀ x, x ∈ Q → WfI D x) (hs : most < sure S) (hc : Cont a (P ++ Q)) :
    P ≠ [] ∧ (((ofI D (P ++ Q) false).1 = [] ∧ (ofI D (P ++ Q) false).2 = 0 ∧ most < sureI D (P ++ Q)) ∨ ∃ t T', (ofI D (P ++ Q) false).1 = t :: T' ∧ okT most t = false) := by
  have hno : ∀ {n s : Nat}, most < n → okT most ⟨a, a + n, s⟩ = false := fun h => by simp [okT]; omega
  obtain ⟨hw, hI⟩ := hI
  have hw' : ∀ x, x ∈ P ++ Q → WfI D x := fun x hx => (List.mem_append.1 hx).elim (hw x) (hQ x)
  rcases hI with ⟨a1, _⟩ | ⟨a1, _⟩ | ⟨a1, _, a3, a4, a5, _⟩ | ⟨a1, _, a3, a4, a5, a6, a7⟩
  · unfold sure at hs
    rw [if_neg (by omega), if_neg (by omega)] at hs
    omega
  · unfold sure at hs
    rw [if_neg (by omega), if_neg (by omega)] at hs
    omega
  · have e1 : sure S = sum P := by unfold sure; rw [if_pos a1, a5]
    rw [e1] at hs
    have hP : P ≠ [] := by rintro rfl; simp [sum] at hs
    refine ⟨hP, ?_⟩
    have hn := a3.next (Q := Q) (fin := false) (a4 Q false)
    by_cases c : runI D S.kind Q = Q.length
    · rw [if_pos ⟨c, rfl⟩] at hn
      left
      rw [ofI_none hn]
      refine ⟨rfl, rfl, ?_⟩
      rw [a3.sure (fun Q' f => by rw [List.append_assoc]; exact a4 _ f), sum_append]
      omega
    · rw [if_neg (fun h => c h.1)] at hn
      right
      rw [ofI_tok hc (by simp [hP]) hn]
      refine ⟨_, _, rfl, hno ?_⟩
      have := sum_mono (P ++ Q) (show P.length ≤ P.length + runI D S.kind Q by omega)
      rw [List.take_left] at this
      omega
  · have h0 : 0 < P.length := List.length_pos_iff.2 a3
    unfold sure at hs
    rw [if_neg (by omega), a5, a6, a7] at hs
    by_cases c1 : 1 < P.length
    · rw [if_pos ⟨a1, c1⟩] at hs
      have hs' : most < sum P - (P.getD (P.length - 1) default).bytes := hs
      have hl := sum_last a3
      refine ⟨a3, ?_⟩
      have k0 := get_of_run a4 a3
      have hw0 : WfI D (P.getD 0 default) := hw _ (by rw [List.getD, List.getElem?_eq_getElem h0]; exact List.getElem_mem h0)
      have hsh : shortI (P ++ Q) false = some 0 := by
        unfold shortI
        rw [if_pos]
        rw [get_app h0]
        cases hq : is (P.getD 0 default) 39
        · rfl
        · have := hw0.quote hq
          rw [k0] at this
          exact absurd this (by decide)
      have hn := spaces_next (Q := Q) (fin := false) a3 a4 hsh (.inl c1)
      by_cases c : runI D 3 Q = Q.length
      · rw [if_pos ⟨c, rfl⟩] at hn
        left
        rw [ofI_none hn]
        refine ⟨rfl, rfl, ?_⟩
        have hr : runI D 3 (P ++ Q) = (P ++ Q).length := by rw [runI_full Q a4, c, List.length_append]
        rw [spaces_sure hw' (by simp [a3]) hr, if_neg (by rw [List.length_append]; omega)]
        by_cases c2 : Q = []
        · subst c2
          rw [List.append_nil]
          exact hs'
        · have h1 : 0 < Q.length := List.length_pos_iff.2 c2
          have e1 : (P ++ Q).getD ((P ++ Q).length - 1) default = Q.getD (Q.length - 1) default := by
            rw [List.length_append]
            simp only [List.getD]
            rw [List.getElem?_append_right (by omega), show P.length + Q.length - 1 - P.length = Q.length - 1 by omega]
          have h2 := sum_last c2
          rw [e1, sum_append]
          omega
      · have hlt : runI D 3 Q < Q.length := by have := runI_le D 3 Q; omega
        rw [if_neg (fun h => c h.1), if_pos ⟨hlt, by omega⟩] at hn
        right
        rw [ofI_tok hc (by simp [a3]) hn]
        refine ⟨_, _, rfl, hno ?_⟩
        have := sum_mono (P ++ Q) (show P.length - 1 ≤ P.length + runI D 3 Q - 1 by omega)
        rw [List.take_append_of_le_length (by omega)] at this
        omega
    · rw [if_neg (fun h => c1 h.2)] at hs
      omega

theorem take_all {p : Tk → Bool} : ∀ {A B : List Tk}, A.all p = true → (A ++ B).takeWhile p = A ++ B.takeWhile p
  | [], B, _ => rfl
  | x :: A, B, h => by
    simp only [List.all_cons, Bool.and_eq_true] at h
    rw [List.cons_append, List.takeWhile_cons, if_pos h.1, take_all h.2, List.cons_append]
theorem take_not {p : Tk → Bool} : ∀ {A B : List Tk}, A.all p = false → (A ++ B).takeWhile p = A.takeWhile p
  | [], B, h => by simp at h
  | x :: A, B, h => by
    rw [List.cons_append, List.takeWhile_cons, List.takeWhile_cons]
    by_cases c : p x = true
    · simp only [List.all_cons, c, Bool.true_and] at h
      rw [if_pos c, if_pos c, take_not h]
    · rw [if_neg c, if_neg c]

/-- Behind items, one by one. -/
def Fed (D : Dt) (most : Nat) (S' : Sx) (out0 : List Tk) (a : Nat) (L : List It) : Prop :=
  ((ofI D L false).1.all (okT most) = true ∧ ¬ ((ofI D L false).2 < L.length ∧ most < sureI D (L.drop (ofI D L false).2)) ∧ S'.over = false ∧ S'.out = out0 ++ (ofI D L false).1 ∧ S'.told = a + sum (L.take (ofI D L false).2) ∧ Inv D (L.drop (ofI D L false).2) S' ∧ sure S' ≤ most)
  ∨ (((ofI D L false).1.all (okT most) = false ∨ ((ofI D L false).2 < L.length ∧ most < sureI D (L.drop (ofI D L false).2))) ∧ S'.over = true ∧ S'.out = out0 ++ (ofI D L false).1.takeWhile (okT most))

theorem feed_res (hm : 1 ≤ most) : ∀ (X P : List It) (S : Sx), Inv D P S → S.over = false → sure S ≤ most → (∀ x, x ∈ X → WfI D x) → Cont S.told (P ++ X) → Fed D most (feed most S (X.map (ixOf D))) S.out S.told (P ++ X)
  | [], P, S, hI, h, hs, _, _ => by
    left
    have hn := hI.none
    rw [List.append_nil, hn]
    refine ⟨rfl, ?_, h, by simp [feed], by simp [feed, sum], by simpa [feed] using hI, hs⟩
    rintro ⟨h1, h2⟩
    have hP : P ≠ [] := List.length_pos_iff.1 h1
    rw [List.drop_zero] at h2
    have := (sure_eq hm hI hP).1 h2
    omega
  | x :: X, P, S, hI, h, hs, hX, hc => by
    have hx : WfI D x := hX x (List.mem_cons_self ..)
    have hX' : ∀ y, y ∈ X → WfI D y := fun y hy => hX y (List.mem_cons_of_mem _ hy)
    have hc1 : Cont S.told (P ++ [x]) := fun i hi => by
      have hi' : i < (P ++ x :: X).length := by simp at hi ⊢; omega
      have h1 := hc i hi'
      have e : P ++ x :: X = (P ++ [x]) ++ X := by simp
      rw [e, get_app hi, List.take_append_of_le_length (by omega)] at h1
      exact h1
    have hr := oneF_res hm hI h hx hc1
    have e : P ++ x :: X = (P ++ [x]) ++ X := by simp
    rw [e] at hc ⊢
    have ha := ofI_app (D := D) X false _ (P ++ [x]) (Nat.le_refl _)
    have hle := ofI_le (D := D) false _ (P ++ [x]) (Nat.le_refl _)
    rw [List.map_cons]
    unfold feed
    obtain ⟨S1, hS1⟩ : ∃ S1, oneF most S (ixOf D x) = S1 := ⟨_, rfl⟩
    rw [hS1] at hr ⊢
    obtain ⟨R1, hR1⟩ : ∃ R1, ofI D (P ++ [x]) false = R1 := ⟨_, rfl⟩
    have hwP : ∀ y, y ∈ P ++ [x] → WfI D y := fun y hy => by
      rcases List.mem_append.1 hy with hy | hy
      · exact hI.1 y hy
      · rw [List.mem_singleton.1 hy]; exact hx
    unfold Res at hr
    rw [hR1] at hr ha hle
    have hcd := hc.drop R1.2
    have e2 : ((P ++ [x]) ++ X).drop R1.2 = (P ++ [x]).drop R1.2 ++ X := List.drop_append_of_le_length hle
    have e3 : ((P ++ [x]) ++ X).take R1.2 = (P ++ [x]).take R1.2 := List.take_append_of_le_length hle
    rw [e2, e3] at hcd
    have hlen : ((P ++ [x]) ++ X).length = R1.2 + ((P ++ [x]).drop R1.2 ++ X).length := by
      rw [← e2, List.length_drop]
      rw [List.length_append]
      omega
    obtain ⟨P1, hP1⟩ : ∃ P1, (P ++ [x]).drop R1.2 = P1 := ⟨_, rfl⟩
    rw [hP1] at hr ha hcd e2 hlen
    obtain ⟨R2, hR2⟩ : ∃ R2, ofI D (P1 ++ X) false = R2 := ⟨_, rfl⟩
    rw [hR2] at ha
    have hdrop : ∀ m, ((P ++ [x]) ++ X).drop (R1.2 + m) = (P1 ++ X).drop m := fun m => by rw [← List.drop_drop, e2]
    have htake : ∀ m, sum (((P ++ [x]) ++ X).take (R1.2 + m)) = sum ((P ++ [x]).take R1.2) + sum ((P1 ++ X).take m) := fun m => by rw [List.take_add, sum_append, e3, e2]
    rcases hr with ⟨r1, r2, r3, r4, r5⟩ | ⟨r1, r2, r3⟩
    · by_cases c : most < sure S1
      · have ho : (S1.over || decide (most < sure S1)) = true := by simp [c]
        simp only [ho, if_true]
        obtain ⟨hP1n, hsm⟩ := sure_more (a := S.told + sum ((P ++ [x]).take R1.2)) r5 hX' c hcd
        rw [hR2] at hsm
        right
        unfold Fed at *
        rw [ha]
        rcases hsm with ⟨q1, q2, q3⟩ | ⟨t, T', q1, q2⟩
        · refine ⟨.inr ⟨?_, ?_⟩, rfl, ?_⟩
          · simp only [q2]
            rw [hlen, List.length_append]
            have : 0 < P1.length := List.length_pos_iff.2 hP1n
            omega
          · simp only [q2]
            rw [hdrop, List.drop_zero]
            exact q3
          · simp only [q1, List.append_nil]
            rw [r3, ← List.append_nil R1.1, take_all r1]
            simp
        · refine ⟨.inl ?_, rfl, ?_⟩
          · simp [q1, q2]
          · simp only [q1]
            rw [r3, take_all r1, List.takeWhile_cons, if_neg (by simp [q2]), List.append_nil]
      · have ho : (S1.over || decide (most < sure S1)) = false := by simp [c, r2]
        have hS2 : ({ S1 with over := S1.over || decide (most < sure S1) } : Sx) = S1 := by rw [ho, ← r2]
        show Fed D most (if (S1.over || decide (most < sure S1)) = true then ({ S1 with over := S1.over || decide (most < sure S1) } : Sx) else feed most ({ S1 with over := S1.over || decide (most < sure S1) } : Sx) (X.map (ixOf D))) S.out S.told (P ++ [x] ++ X)
        rw [if_neg (by rw [ho]; simp), hS2]
        have ih := feed_res hm X P1 S1 r5 r2 (by omega) hX' (by rw [r4]; exact hcd)
        obtain ⟨S', hS'⟩ : ∃ S', feed most S1 (X.map (ixOf D)) = S' := ⟨_, rfl⟩
        rw [hS'] at ih ⊢
        unfold Fed at ih ⊢
        rw [hR2] at ih
        rw [ha]
        rcases ih with ⟨i1, i2, i3, i4, i5, i6, i7⟩ | ⟨i1, i2, i3⟩
        · left
          refine ⟨by simp only [List.all_append, r1, i1, Bool.and_self], ?_, i3, by rw [i4, r3, List.append_assoc], ?_, ?_, i7⟩
          · rw [hdrop, hlen]
            rintro ⟨h1, h2⟩
            exact i2 ⟨by simp only at h1; omega, h2⟩
          · rw [htake, i5, r4, Nat.add_assoc]
          · rw [hdrop]
            exact i6
        · right
          refine ⟨?_, i2, by rw [i3, r3, take_all r1, List.append_assoc]⟩
          rcases i1 with i1 | ⟨i1, i1'⟩
          · exact .inl (by simp only [List.all_append, i1, Bool.and_false])
          · refine .inr ⟨by rw [hlen]; simp only; omega, ?_⟩
            rw [hdrop]
            exact i1'
    · have ho : (S1.over || decide (most < sure S1)) = true := by simp [r2]
      simp only [ho, if_true]
      right
      unfold Fed at *
      rw [ha]
      refine ⟨.inl ?_, rfl, ?_⟩
      · simp only [List.all_append, r1, Bool.false_and]
      · rw [take_not r1]
        exact r3

theorem spaces_fin (hP : P ≠ []) (hw : ∀ x, x ∈ P → WfI D x) (hr : runI D 3 P = P.length) : nextI D P true = some (P.length, 5) := by
  have h0 : 0 < P.length := List.length_pos_iff.2 hP
  have k0 := get_of_run hr hP
  have hw0 : WfI D (P.getD 0 default) := hw _ (by rw [List.getD, List.getElem?_eq_getElem h0]; exact List.getElem_mem h0)
  have hs : shortI P true = some 0 := by
    unfold shortI
    rw [if_pos]
    cases hq : is (P.getD 0 default) 39
    · rfl
    · have := hw0.quote hq
      rw [k0] at this
      exact absurd this (by decide)
  unfold nextI
  rw [hs]
  have e1 : skip D P = 0 := by
    unfold skip
    rw [if_neg]
    rintro ⟨h1, h2, h3⟩
    exact h3 (runI_at (by omega))
  simp only [e1, List.drop_zero, Nat.zero_add, k0, hr]
  simp

/-- A token at the text's end. -/
theorem tell_end (hc : Cont S.told P) (hP : P ≠ []) (h : S.over = false) (hn : nextI D P true = some (P.length, s)) :
    (tell most S (sum P) s).out = S.out ++ (ofI D P true).1.takeWhile (okT most) ∧ (tell most S (sum P) s).over = !((ofI D P true).1.all (okT most)) := by
  rw [ofI_tok hc hP hn, List.take_length, List.drop_length, ofI_nil]
  by_cases c : most < sum P
  · have hk : okT most ⟨S.told, S.told + sum P, s⟩ = false := by simp [okT]; omega
    rw [tell_over h c]
    simp [hk]
  · have hk : okT most ⟨S.told, S.told + sum P, s⟩ = true := by simp [okT]; omega
    rw [tell_ok h (by omega)]
    simp [hk, h]
theorem end_run (hI : Inv D P S) (h : S.over = false) (hc : Cont S.told P) (h1 : S.st ≠ 1) :
    (fin most S).out = S.out ++ (ofI D P true).1.takeWhile (okT most) ∧ (fin most S).over = !((ofI D P true).1.all (okT most)) := by
  obtain ⟨hw, hI⟩ := hI
  unfold fin
  simp only [h, h1, and_false, if_false, Bool.false_eq_true]
  rcases hI with ⟨a1, rfl, _⟩ | ⟨a1, _⟩ | ⟨a1, _, a3, a4, a5, a6⟩ | ⟨a1, _, a3, a4, a5, _⟩
  · rw [if_neg (by omega), if_neg (by omega), ofI_nil]
    simp [h]
  · omega
  · have hP : P ≠ [] := by
      obtain ⟨_, h | ⟨b, P', rfl, _⟩⟩ := a3
      · exact h.1
      · simp
    rw [if_pos a1, a5, a6]
    refine tell_end hc hP h ?_
    have := a3.next (Q := []) (fin := true) (by simpa using a4 [] true)
    simpa [runI] using this
  · rw [if_neg (by omega), if_pos a1, a5]
    exact tell_end hc a3 h (spaces_fin a3 hw a4)
theorem fin_res (hm : 1 ≤ most) (hI : Inv D P S) (h : S.over = false) (hc : Cont S.told P) :
    (fin most S).out = S.out ++ (ofI D P true).1.takeWhile (okT most) ∧ (fin most S).over = !((ofI D P true).1.all (okT most)) := by
  by_cases h1 : S.st = 1
  · obtain ⟨hw, hI⟩ := hI
    rcases hI with ⟨a1, _⟩ | ⟨_, q, hq, hP⟩ | ⟨a1, _⟩ | ⟨a1, _⟩
    · omega
    · have hwq : WfI D q := hw q (by rcases hP with ⟨rfl, _⟩ | ⟨y, rfl, _⟩ <;> simp)
      obtain ⟨hRq, hq1⟩ := quote_run hq hwq
      rcases hP with ⟨rfl, hl⟩ | ⟨y, rfl, hl, hy⟩
      · have e : fin most S = tell most (runs { S with letter := Ix.none } ⟨1, 4, 39⟩ 0) (sum [q]) 4 := by
          unfold fin unq
          rw [hl]
          simp [h, h1, Ix.none, runs, sum, hq1, sortOf]
        rw [e]
        refine tell_end (S := runs { S with letter := Ix.none } ⟨1, 4, 39⟩ 0) hc (by simp) h ?_
        have hs : shortI ([q] ++ []) true = some 0 := by
          unfold shortI
          simp [hq]
        have := hRq.next (Q := []) (fin := true) hs
        simpa [runI, sortOf] using this
      · have hwy : WfI D y := hw y (by simp)
        obtain ⟨hyc, hy1⟩ := rvl_is hwy hy
        have hyn : (ixOf D y).n = 1 := hy1
        have n2 : ¬ (is y 114 = false ∧ is y 118 = false ∧ is y 108 = false) := by
          rintro ⟨h1, h2, h3⟩
          rcases hy with c | c | c
          · rw [h1] at c; cases c
          · rw [h2] at c; cases c
          · rw [h3] at c; cases c
        have hs := two_none hq (rvl_no_stmd hy) n2 true
        rw [if_pos rfl] at hs
        obtain ⟨S1, hS1⟩ : ∃ S1, runs { S with letter := Ix.none } ⟨1, 4, 39⟩ 0 = S1 := ⟨_, rfl⟩
        have s1 : S1.over = false ∧ S1.st = 2 ∧ S1.letter = Ix.none ∧ S1.kind = 4 ∧ S1.bytes = 1 ∧ S1.sort = 4 ∧ S1.told = S.told ∧ S1.out = S.out := by
          rw [← hS1]
          exact ⟨h, rfl, rfl, rfl, rfl, rfl, rfl, rfl⟩
        have hu : unq most S = oneR most S1 (ixOf D y) := by
          unfold unq
          rw [hl, if_pos (by omega), hS1]
        obtain ⟨g1, g2, g3, g4, g5, g6, g7, g8⟩ := s1
        by_cases c3 : kind D y = 4
        · have e1 : oneR most S1 (ixOf D y) = { S1 with bytes := 2 } := by
            unfold oneR
            rw [if_neg (by simp [g1]), if_pos (show (ixOf D y).k = S1.kind by rw [g4]; exact c3), g5, hyn]
          have e : fin most S = tell most { S1 with bytes := 2 } (sum [q, y]) 4 := by
            unfold fin
            simp only [h, h1, and_self, if_true, hu, e1]
            rw [if_neg (by simp [g1]), if_pos (by exact g2)]
            simp [sum, hq1, hy1, g6]
          rw [e, ← g8]
          have hn := (hRq.more c3).next (Q := []) (fin := true) (by simpa using hs)
          exact tell_end (S := { S1 with bytes := 2 }) (by rw [show ({ S1 with bytes := 2 } : Sx).told = S.told from g7]; exact hc) (by simp) g1 (by simpa [runI, sortOf] using hn)
        · have e1 : oneR most S1 (ixOf D y) = one0 (tell most S1 1 4) (ixOf D y) := by
            unfold oneR
            rw [if_neg (by simp [g1]), if_neg (show ¬ (ixOf D y).k = S1.kind by rw [g4]; exact c3), g5, g6]
          rw [tell_ok g1 hm] at e1
          obtain ⟨S2, hS2⟩ : ∃ S2 : Sx, { S1 with out := S1.out ++ [⟨S1.told, S1.told + 1, 4⟩], told := S1.told + 1, st := 0, bytes := 0, many := 0, letter := Ix.none } = S2 := ⟨_, rfl⟩
          have s2 : S2.over = false ∧ S2.letter = Ix.none ∧ S2.told = S.told + 1 ∧ S2.out = S.out ++ [⟨S.told, S.told + 1, 4⟩] := by
            rw [← hS2, ← g7, ← g8]
            exact ⟨g1, rfl, rfl, rfl⟩
          rw [hS2] at e1
          obtain ⟨p1, p2, p3, p4⟩ := s2
          obtain ⟨r1, r2, r3, r4⟩ := one0_inv p1 p2 hwy
          have hst : (one0 S2 (ixOf D y)).st ≠ 1 := by
            unfold one0
            rw [if_neg (by simp [p1]), if_neg (by omega)]
            split
            · simp
            · simp [runs]
          obtain ⟨S3, hS3⟩ : ∃ S3, one0 S2 (ixOf D y) = S3 := ⟨_, rfl⟩
          rw [hS3] at e1 r1 r2 r3 r4 hst
          have e : fin most S = fin most S3 := by
            unfold fin
            simp only [h, h1, and_self, if_true, hu, e1, hst, and_false, if_false]
          have hn := hRq.next (Q := [y]) (fin := true) hs
          have h0 : runI D 4 [y] = 0 := by simp [runI, c3]
          rw [h0, if_neg (by simp)] at hn
          have hcd := hc.drop 1
          have e2 : sum ([q, y].take 1) = 1 := by simp [sum, hq1]
          rw [e2] at hcd
          have hf := end_run (most := most) r1 r2 (by rw [r4, p3]; exact hcd) hst
          have hk : okT most ⟨S.told, S.told + 1, 4⟩ = true := by simp [okT]; exact hm
          rw [e, hf.1, hf.2, ofI_tok hc (by simp) hn]
          have e5 : sum (([q] ++ [y]).take ([q].length + 0)) = 1 := e2
          simp only [List.singleton_append, List.length_singleton, Nat.add_zero] at e5 ⊢
          rw [e5]
          simp [sortOf, hk, r3, p4]
    · omega
    · omega
  · exact end_run hI h hc h1
end Go.Proofs.YtendkmldecoogaaDoor.StepLaw
namespace Go.Proofs.YtendkmldecoogaaDoor.ScanLaw
open Go Go.Proofs.YtendkmldecoogaaDoor.Utf Go.Proofs.YtendkmldecoogaaDoor.It Go.Proofs.YtendkmldecoogaaDoor.Ref2c Go.Proofs.YtendkmldecoogaaDoor.UtfLaw Go.Proofs.YtendkmldecoogaaDoor.WholeLaw Go.Proofs.YtendkmldecoogaaDoor.Dt Go.Proofs.YtendkmldecoogaaDoor.Tab Go.Proofs.YtendkmldecoogaaDoor.Cu Go.Proofs.YtendkmldecoogaaDoor.StepLaw

theorem held_iff {l : List UInt8} (hl : l ≠ []) : (width l = 0 ∧ begins l = l.length) ↔ BegP l := ⟨fun h => (held_beg hl h.2).1, beg_held⟩
theorem by_app {l : List UInt8} (m : List UInt8) {k : Nat} (h : k < l.length) : by' (l ++ m) k = by' l k := by
  have := by_take (l := l ++ m) h
  rw [List.take_left] at this
  exact this.symm
theorem ok_app {l : List UInt8} (m : List UInt8) {k : Nat} (h : k < l.length) : ok (l ++ m) k = ok l k := by
  have := ok_take (l := l ++ m) h
  rw [List.take_left] at this
  exact this.symm
theorem beg_prefix {l m : List UInt8} (hl : l ≠ []) (h : BegP (l ++ m)) : BegP l := by
  have h0 : 0 < l.length := List.length_pos_iff.2 hl
  obtain ⟨_, h2, h3, h4⟩ := h
  rw [by_app m h0, List.length_append] at h2
  rw [List.length_append] at h3 h4
  exact ⟨h0, by omega, fun h => by rw [← ok_app m h]; exact h3 (by omega), fun h => by rw [← ok_app m h]; exact h4 (by omega)⟩
theorem need2 {c : Nat} (h1 : 194 ≤ c) (h2 : c ≤ 223) : need c = 2 := by unfold need; rw [if_pos ⟨h1, h2⟩]
theorem need3 {c : Nat} (h1 : 224 ≤ c) (h2 : c ≤ 239) : need c = 3 := by unfold need; rw [if_neg (by omega), if_pos ⟨h1, h2⟩]
theorem need4 {c : Nat} (h1 : 240 ≤ c) (h2 : c ≤ 244) : need c = 4 := by unfold need; rw [if_neg (by omega), if_neg (by omega), if_pos ⟨h1, h2⟩]

theorem one_app {l m : List UInt8} (hl : l ≠ []) (h : ¬ BegP l) (a : Nat) : one a (l ++ m) = one a l := by
  have h0 : 0 < l.length := List.length_pos_iff.2 hl
  have key : (one a (l ++ m)).bytes ≤ l.length := by
    rw [one_bytes]
    split
    · exact h0
    refine Nat.le_of_not_lt (fun hlt => h ?_)
    have hn : ∀ n, need (by' (l ++ m) 0) = n → l.length < n → (1 < l.length → ok (l ++ m) 1 = true) → (2 < l.length → ok (l ++ m) 2 = true) → BegP l := fun n h1 h2 h3 h4 => by
      rw [by_app m h0] at h1
      exact ⟨h0, by omega, fun h => by rw [← ok_app m h]; exact h3 h, fun h => by rw [← ok_app m h]; exact h4 h⟩
    rcases width_cases (l ++ m) with h5 | ⟨h5, h6, h7, _, h8⟩ | ⟨h5, h6, h7, _, h8, h9⟩ | ⟨h5, h6, h7, _, h8, h9, _⟩ | h5
    · omega
    · exact hn 2 (need2 h6 h7) (by omega) (fun _ => h8) (fun _ => by omega)
    · exact hn 3 (need3 h6 h7) (by omega) (fun _ => h8) (fun _ => h9)
    · exact hn 4 (need4 h6 h7) (by omega) (fun _ => h8) (fun _ => h9)
    · omega
  have := one_take a key
  rw [List.take_left] at this
  exact this.symm

/-- What is whole of a text with more behind it: what was whole, and what is whole of what was held with more behind it. -/
theorem comp_app (m l : List UInt8) : ∀ a, comp a (l ++ m) = ((comp a l).1 ++ (comp (comp a l).2 (l.drop ((comp a l).2 - a) ++ m)).1, (comp (comp a l).2 (l.drop ((comp a l).2 - a) ++ m)).2) := by
  induction l using ind with
  | h0 => intro a; simp [comp_nil]
  | h1 l hl ih =>
    intro a
    by_cases hb : BegP l
    · have h1 := beg_held hb
      rw [comp_held h1.1 h1.2]
      simp
    · have hn : ¬ (width l = 0 ∧ begins l = l.length) := fun h => hb ((held_iff hl).1 h)
      have hlm : l ++ m ≠ [] := by simp [hl]
      have hn' : ¬ (width (l ++ m) = 0 ∧ begins (l ++ m) = (l ++ m).length) := fun h => hb (beg_prefix hl ((held_iff hlm).1 h))
      have hle := comp_items (l.drop (one 0 l).bytes) (a + (one a l).bytes)
      have h3 := ih (a + (one a l).bytes)
      rw [one_bytes_eq a 0] at hle h3
      rw [comp_one hlm hn', comp_one hl hn, one_app hl hb, one_bytes_eq a 0, List.drop_append_of_le_length (one_le 0 hl), h3]
      simp only [List.cons_append]
      rw [List.drop_drop, show (one 0 l).bytes + ((comp (a + (one 0 l).bytes) (l.drop (one 0 l).bytes)).2 - (a + (one 0 l).bytes)) = (comp (a + (one 0 l).bytes) (l.drop (one 0 l).bytes)).2 - a by omega]

/-- What is held. -/
def rest (l : List UInt8) : List UInt8 := l.drop (comp 0 l).2
theorem rest_beg (l : List UInt8) : rest l = [] ∨ (BegP (rest l) ∧ (rest l).length ≤ 3) := by
  by_cases h : rest l = []
  · exact .inl h
  · refine .inr ?_
    have h1 := (comp_items l 0).2.2.2 (by
      have : 0 < (rest l).length := List.length_pos_iff.2 h
      unfold rest at this
      rw [List.length_drop] at this
      omega)
    exact held_beg h h1.2
theorem rest_len (l : List UInt8) : (rest l).length ≤ 3 := by
  rcases rest_beg l with h | h
  · rw [h]; exact Nat.zero_le _
  · exact h.2
theorem comp_le (l : List UInt8) : (comp 0 l).2 ≤ l.length := by have := (comp_items l 0).2.1; omega
theorem rest_at (l : List UInt8) : (comp 0 l).2 + (rest l).length = l.length := by
  have := comp_le l
  unfold rest
  rw [List.length_drop]
  omega
theorem comp_put (l : List UInt8) (c : UInt8) : comp 0 (l ++ [c]) = ((comp 0 l).1 ++ (comp (comp 0 l).2 (rest l ++ [c])).1, (comp (comp 0 l).2 (rest l ++ [c])).2) := comp_app [c] l 0
theorem rest_put (l : List UInt8) (c : UInt8) : rest (l ++ [c]) = (rest l ++ [c]).drop ((comp (comp 0 l).2 (rest l ++ [c])).2 - (comp 0 l).2) := by
  have h1 := comp_put l c
  have h2 := comp_items (rest l ++ [c]) (comp 0 l).2
  have h3 := comp_le l
  have h4 := rest_at l
  unfold rest at h1 h2 h4 ⊢
  rw [h1]
  have e : l.drop (comp 0 l).2 ++ [c] = (l ++ [c]).drop (comp 0 l).2 := (List.drop_append_of_le_length h3).symm
  simp only
  rw [e, List.drop_drop]
  rw [e] at h2
  congr 1
  omega
theorem comp_end (l : List UInt8) : (comp 0 l).1 ++ items (comp 0 l).2 (rest l) = items 0 l := (comp_items l 0).2.2.1

theorem kind_marks {D : Dt} (h : Good.Good D) : kindOf D 39 = 4 := by
  have h4 := h.c4
  unfold chk4 at h4
  by_cases q0 : 512 < D.n0
  · rw [if_pos q0] at h4; exact absurd (show (_ : Int) = 0 from h4) (by first | decide | exact (by decide : ((16 : Int) ≠ 0)))
  rw [if_neg q0] at h4
  by_cases q1 : 512 < D.n1
  · rw [if_pos q1] at h4; exact absurd (show (_ : Int) = 0 from h4) (by first | decide | exact (by decide : ((16 : Int) ≠ 0)))
  rw [if_neg q1] at h4
  by_cases q2 : 512 < D.n2
  · rw [if_pos q2] at h4; exact absurd (show (_ : Int) = 0 from h4) (by first | decide | exact (by decide : ((16 : Int) ≠ 0)))
  rw [if_neg q2] at h4
  by_cases q3 : (SpFns.rt D.L0 D.H0 D.n0 0).2 ≠ 0
  · rw [if_pos q3] at h4; exact absurd h4 q3
  rw [if_neg q3] at h4
  by_cases q4 : (SpFns.rt D.L1 D.H1 D.n1 0).2 ≠ 0
  · rw [if_pos q4] at h4; exact absurd h4 q4
  rw [if_neg q4] at h4
  by_cases q5 : (SpFns.rt D.L2 D.H2 D.n2 0).2 ≠ 0
  · rw [if_pos q5] at h4; exact absurd h4 q5
  rw [if_neg q5] at h4
  by_cases q6 : (SpLists.fr (SpLists.hit D.L1 D.H1 D.L0 D.H0 D.n0) D.n1 0).2 = true
  · rw [if_pos q6] at h4; exact absurd (show (_ : Int) = 0 from h4) (by first | decide | exact (by decide : ((16 : Int) ≠ 0)))
  rw [if_neg q6] at h4
  by_cases q7 : (SpLists.fr (SpLists.hit D.L2 D.H2 D.L0 D.H0 D.n0) D.n2 0).2 = true ∧ (SpLists.fr (SpLists.hit D.L2 D.H2 D.L1 D.H1 D.n1) D.n2 0).2 = true
  · rw [if_pos q7] at h4; exact absurd (show (_ : Int) = 0 from h4) (by first | decide | exact (by decide : ((16 : Int) ≠ 0)))
  rw [if_neg q7] at h4
  by_cases q8 : (SpLists.fr (SpLists.hit D.L2 D.H2 D.L0 D.H0 D.n0) D.n2 0).2 = true
  · rw [if_pos q8] at h4; exact absurd (show (_ : Int) = 0 from h4) (by first | decide | exact (by decide : ((16 : Int) ≠ 0)))
  rw [if_neg q8] at h4
  by_cases q9 : (SpLists.fr (SpLists.hit D.L2 D.H2 D.L1 D.H1 D.n1) D.n2 0).2 = true
  · rw [if_pos q9] at h4; exact absurd (show (_ : Int) = 0 from h4) (by first | decide | exact (by decide : ((16 : Int) ≠ 0)))
  rw [if_neg q9] at h4
  by_cases q10 : SpRef.InD D.L2 D.H2 D.n2 32 = false ∨ SpRef.InD D.L0 D.H0 D.n0 39 = true ∨ SpRef.InD D.L1 D.H1 D.n1 39 = true ∨ SpRef.InD D.L2 D.H2 D.n2 39 = true
  · rw [if_pos q10] at h4; exact absurd (show (_ : Int) = 0 from h4) (by first | decide | exact (by decide : ((16 : Int) ≠ 0)))
  rw [if_neg q10] at h4
  have q : SpRef.InD D.L0 D.H0 D.n0 39 ≠ true ∧ SpRef.InD D.L1 D.H1 D.n1 39 ≠ true ∧ SpRef.InD D.L2 D.H2 D.n2 39 ≠ true := ⟨fun h => q10 (.inr (.inl h)), fun h => q10 (.inr (.inr (.inl h))), fun h => q10 (.inr (.inr (.inr h)))⟩
  unfold kindOf
  rw [if_neg q.1, if_neg q.2.1, if_neg q.2.2]

theorem one_wf {D : Dt} (hg : Good.Good D) (a : Nat) {l : List UInt8} : WfI D (one a l) := by
  refine ⟨one_pos a l, fun hb => ?_, fun h => ?_, fun h => ?_⟩
  · have hw : width l ≠ 0 := by
      unfold one at hb
      simpa using hb
    have e : (one a l).bytes = width l ∧ (one a l).rune = rune l (width l) := by
      unfold one dec
      rw [if_neg hw]
      exact ⟨rfl, rfl⟩
    rw [e.1, e.2]
    rcases width_cases l with h5 | ⟨h5, h6, h7, _, h8⟩ | ⟨h5, h6, h7, _, h8, h9⟩ | ⟨h5, h6, h7, _, h8, h9, _⟩ | h5
    · rw [h5.1]
      simp [rune, h5.2]
    · rw [h5]
      simp only [rune]
      simp
      omega
    · rw [h5]
      rw [ok1] at h8
      simp only [rune]
      simp
      omega
    · rw [h5]
      rw [ok1] at h8
      simp only [rune]
      simp
      omega
    · exact absurd h5.1 hw
  · unfold is at h
    simp only [Bool.and_eq_true, Bool.not_eq_true', decide_eq_true_eq] at h
    unfold kind
    rw [if_neg (by rw [h.1]; simp), h.2]
    exact kind_marks hg
  · unfold is at h
    simp only [Bool.and_eq_true, Bool.not_eq_true', decide_eq_true_eq] at h
    unfold kind
    rw [if_neg (by rw [h.1]; simp), h.2]
    exact kind_blank hg
theorem items_wf {D : Dt} (hg : Good.Good D) (l : List UInt8) : ∀ a x, x ∈ items a l → WfI D x := by
  induction l using ind with
  | h0 => intro a x h; simp [items_nil] at h
  | h1 l hl ih =>
    intro a x h
    rw [items_cons a hl, List.mem_cons, one_bytes_eq a 0] at h
    rcases h with rfl | h
    · exact one_wf hg a
    · exact ih _ _ h
theorem comp_wf {D : Dt} (hg : Good.Good D) (l : List UInt8) (a : Nat) : ∀ x, x ∈ (comp a l).1 → WfI D x := fun x h => by
  have h1 := (comp_items l a).2.2.1
  exact items_wf hg l a x (by rw [← h1]; exact List.mem_append_left _ h)
theorem comp_cont (l : List UInt8) (a : Nat) : Cont a (comp a l).1 := by
  have h1 := (comp_items l a).2.2.1
  intro i hi
  have h2 := Cont.items a l i (by rw [← h1, List.length_append]; omega)
  rw [← h1, get_app hi, List.take_append_of_le_length (by omega)] at h2
  exact h2
theorem comp_sum (l : List UInt8) (a : Nat) : (comp a l).2 = a + sum (comp a l).1 := by
  have h := comp_items l a
  have h1 := congrArg sum h.2.2.1
  rw [sum_append, sum_items, sum_items, List.length_drop] at h1
  omega
end Go.Proofs.YtendkmldecoogaaDoor.ScanLaw
namespace Go.Proofs.YtendkmldecoogaaDoor.StepRun
open Go Go.Proofs.YtendkmldecoogaaDoor.Utf Go.Proofs.YtendkmldecoogaaDoor.It Go.Proofs.YtendkmldecoogaaDoor.Ref2c Go.Proofs.YtendkmldecoogaaDoor.ScanLaw Go.Proofs.YtendkmldecoogaaDoor.Dt Go.Proofs.YtendkmldecoogaaDoor.Cu Go.Proofs.YtendkmldecoogaaDoor.CutAll Go.Proofs.YtendkmldecoogaaDoor.StepLaw

variable {D : Dt} {most : Nat}

theorem short_none {L : List It} (hL : L ≠ []) (h : shortI L false = none) : is (L.getD 0 default) 39 = true ∧ (L.length = 1 ∨ (L.length = 2 ∧ (is (L.getD 1 default) 114 = true ∨ is (L.getD 1 default) 118 = true ∨ is (L.getD 1 default) 108 = true))) := by
  have h0 : 0 < L.length := List.length_pos_iff.2 hL
  unfold shortI at h
  by_cases c1 : is (L.getD 0 default) 39 = false
  · rw [if_pos c1] at h; cases h
  rw [if_neg c1] at h
  refine ⟨by simpa using c1, ?_⟩
  by_cases c2 : L.length ≤ 1
  · exact .inl (by omega)
  rw [if_neg c2] at h
  by_cases c3 : is (L.getD 1 default) 115 = true ∨ is (L.getD 1 default) 116 = true ∨ is (L.getD 1 default) 109 = true ∨ is (L.getD 1 default) 100 = true
  · rw [if_pos c3] at h; cases h
  rw [if_neg c3] at h
  by_cases c4 : is (L.getD 1 default) 114 = false ∧ is (L.getD 1 default) 118 = false ∧ is (L.getD 1 default) 108 = false
  · rw [if_pos c4] at h; cases h
  rw [if_neg c4] at h
  by_cases c5 : L.length ≤ 2
  · refine .inr ⟨by omega, ?_⟩
    cases q1 : is (L.getD 1 default) 114
    · cases q2 : is (L.getD 1 default) 118
      · cases q3 : is (L.getD 1 default) 108
        · exact absurd ⟨q1, q2, q3⟩ c4
        · exact .inr (.inr rfl)
      · exact .inr (.inl rfl)
    · exact .inl rfl
  · rw [if_neg c5] at h
    split at h <;> cases h

/-- What can't be told and has more than one sure byte: a run, or spaces. -/
theorem shape {P : List It} (hw : ∀ x, x ∈ P → WfI D x) (hP : P ≠ []) (hn : nextI D P false = none) (hs : 1 < sureI D P) :
    NS P ∧ ((∃ k, Rn D P k) ∨ (runI D 3 P = P.length ∧ 1 < P.length)) := by
  have h0 : 0 < P.length := List.length_pos_iff.2 hP
  have hw0 : WfI D (P.getD 0 default) := hw _ (by rw [List.getD, List.getElem?_eq_getElem h0]; exact List.getElem_mem h0)
  cases hsh : shortI P false with
  | none =>
    have := short_none hP hsh
    unfold sureI at hs
    rw [if_pos this] at hs
    omega
  | some m =>
    cases m with
    | succ m =>
      unfold nextI at hn
      rw [hsh] at hn
      cases hn
    | zero =>
      refine ⟨fun Q fin => shortI_app Q fin hP hsh, ?_⟩
      unfold nextI at hn
      rw [hsh] at hn
      simp only at hn
      by_cases c1 : is (P.getD 0 default) 32 = true ∧ P.length ≤ 1
      · have hk := hw0.blank c1.1
        unfold sureI at hs
        rw [if_neg (by
          rintro ⟨h1, _⟩
          have := c1.1
          unfold is at h1 this
          simp only [Bool.and_eq_true, Bool.not_eq_true', decide_eq_true_eq] at h1 this
          omega), if_neg (by
          rintro (h1 | ⟨_, h1, _⟩)
          · exact h1 hk
          · omega), if_pos (by omega)] at hs
        omega
      · rw [if_neg (fun h => c1 ⟨h.1, h.2.1⟩)] at hn
        have hj := skip_le D hP
        obtain ⟨j, hjj⟩ : ∃ j, skip D P = j := ⟨_, rfl⟩
        rw [hjj] at hn hj
        obtain ⟨k, hk⟩ : ∃ k, kind D (P.getD j default) = k := ⟨_, rfl⟩
        rw [hk] at hn
        by_cases c2 : j + runI D k (P.drop j) = P.length
        · by_cases cj : j = 0
          · subst cj
            rw [List.drop_zero, Nat.zero_add] at c2
            by_cases c3 : k = 3
            · subst c3
              refine .inr ⟨c2, ?_⟩
              have := spaces_sure hw hP c2
              rw [this] at hs
              by_cases c4 : P.length = 1
              · rw [if_pos c4] at hs; omega
              · omega
            · refine .inl ⟨k, c3, .inl ⟨hP, ?_, c2⟩⟩
              cases hb : is (P.getD 0 default) 32
              · rfl
              · exact absurd (hk.symm.trans (hw0.blank hb)) c3
          · unfold skip at hjj
            split at hjj
            · rename_i h5
              subst hjj
              obtain ⟨b, P', rfl⟩ : ∃ b P', P = b :: P' := by
                cases P with
                | nil => exact absurd rfl hP
                | cons b P' => exact ⟨b, P', rfl⟩
              refine .inl ⟨k, ?_, .inr ⟨b, P', rfl, h5.1, ?_, ?_⟩⟩
              · rw [← hk]; exact h5.2.2
              · rintro rfl
                have := h5.2.1
                simp at this
              · simp only [List.drop_succ_cons, List.drop_zero, List.length_cons] at c2
                omega
            · omega
        · exfalso
          rw [if_neg (fun h => c2 h.1)] at hn
          split at hn
          · split at hn <;> cases hn
          · cases hn

/-- What is sure stays so, whatever follows. -/
theorem sure_all {P : List It} (hm : 1 ≤ most) (hw : ∀ x, x ∈ P → WfI D x) (hP : P ≠ []) (hn : nextI D P false = none) (hs : most < sureI D P) (Q : List It) (hQ : ∀ x, x ∈ Q → WfI D x) (fin : Bool) :
    (nextI D (P ++ Q) fin = none ∧ fin = false ∧ most < sureI D (P ++ Q)) ∨ ∃ n s, nextI D (P ++ Q) fin = some (n, s) ∧ most < sum ((P ++ Q).take n) := by
  obtain ⟨hNS, ⟨k, hR⟩ | ⟨hr, h1⟩⟩ := shape hw hP hn (by omega)
  · have e := hR.sure (Q := []) (by rw [List.append_nil]; exact hNS)
    rw [List.append_nil] at e
    rw [e] at hs
    have h2 := hR.next (Q := Q) (fin := fin) (hNS Q fin)
    by_cases c : runI D k Q = Q.length ∧ fin = false
    · rw [if_pos c] at h2
      refine .inl ⟨h2, c.2, ?_⟩
      rw [hR.sure (fun Q' f => by rw [List.append_assoc]; exact hNS _ f), sum_append]
      omega
    · rw [if_neg c] at h2
      refine .inr ⟨_, _, h2, ?_⟩
      have := sum_mono (P ++ Q) (show P.length ≤ P.length + runI D k Q by omega)
      rw [List.take_left] at this
      omega
  · have hw' : ∀ x, x ∈ P ++ Q → WfI D x := fun x hx => (List.mem_append.1 hx).elim (hw x) (hQ x)
    have e := spaces_sure hw hP hr
    rw [if_neg (by omega)] at e
    rw [e] at hs
    have hl := sum_last hP
    have h2 := spaces_next (Q := Q) (fin := fin) hP hr (hNS Q fin) (.inl h1)
    by_cases c : runI D 3 Q = Q.length ∧ fin = false
    · rw [if_pos c] at h2
      refine .inl ⟨h2, c.2, ?_⟩
      have hr2 : runI D 3 (P ++ Q) = (P ++ Q).length := by rw [runI_full Q hr, c.1, List.length_append]
      rw [spaces_sure hw' (by simp [hP]) hr2, if_neg (by rw [List.length_append]; omega)]
      by_cases c2 : Q = []
      · subst c2
        rw [List.append_nil]
        exact hs
      · have h1 : 0 < Q.length := List.length_pos_iff.2 c2
        have e1 : (P ++ Q).getD ((P ++ Q).length - 1) default = Q.getD (Q.length - 1) default := by
          rw [List.length_append]
          simp only [List.getD]
          rw [List.getElem?_append_right (by omega), show P.length + Q.length - 1 - P.length = Q.length - 1 by omega]
        have h2 := sum_last c2
        rw [e1, sum_append]
        omega
    · rw [if_neg c] at h2
      have m0 := sum_mono (P ++ Q) (show P.length - 1 ≤ P.length + runI D 3 Q - 1 by omega)
      have m1 := sum_mono (P ++ Q) (show P.length - 1 ≤ P.length + runI D 3 Q by omega)
      rw [List.take_append_of_le_length (by omega)] at m0 m1
      split at h2
      · exact .inr ⟨_, _, h2, by omega⟩
      · exact .inr ⟨_, _, h2, by omega⟩

/-! ### All bytes so far -/
/-- The items that are whole. -/
def L (l : List UInt8) : List It := (comp 0 l).1
/-- The pre-tokens that can be told, and how many items they have. -/
def R (D : Dt) (l : List UInt8) : List Tk × Nat := ofI D (L l) false
def tolds (D : Dt) (most : Nat) (l : List UInt8) : List Tk := (R D l).1.takeWhile (okT most)
def Overs (D : Dt) (most : Nat) (l : List UInt8) : Prop := (R D l).1.all (okT most) = false ∨ ((R D l).2 < (L l).length ∧ most < sureI D ((L l).drop (R D l).2))
instance (D : Dt) (most : Nat) (l : List UInt8) : Decidable (Overs D most l) := by unfold Overs; infer_instance
def toldE (D : Dt) (most : Nat) (l : List UInt8) : List Tk := (toks D 0 l).takeWhile (okT most)
def overE (D : Dt) (most : Nat) (l : List UInt8) : Bool := !(toks D 0 l).all (okT most)

theorem all_take {p : Tk → Bool} : ∀ {A : List Tk}, A.all p = true → A.takeWhile p = A
  | [], _ => rfl
  | x :: A, h => by
    simp only [List.all_cons, Bool.and_eq_true] at h
    rw [List.takeWhile_cons, if_pos h.1, all_take h.2]
theorem L_wf (hg : Good.Good D) (l : List UInt8) : ∀ x, x ∈ L l → WfI D x := comp_wf hg l 0
theorem L_cont (l : List UInt8) : Cont 0 (L l) := comp_cont l 0

/-- Over stays over: nothing more is told, whatever follows. -/
theorem over_more (hm : 1 ≤ most) (hg : Good.Good D) {l : List UInt8} (h : Overs D most l) (Q : List It) (hQ : ∀ x, x ∈ Q → WfI D x) (hc : Cont 0 (L l ++ Q)) (fin : Bool) :
    (ofI D (L l ++ Q) fin).1.takeWhile (okT most) = tolds D most l ∧
    ((ofI D (L l ++ Q) fin).1.all (okT most) = false ∨ (fin = false ∧ (ofI D (L l ++ Q) fin).2 < (L l ++ Q).length ∧ most < sureI D ((L l ++ Q).drop (ofI D (L l ++ Q) fin).2))) := by
  have ha := ofI_app (D := D) Q fin _ (L l) (Nat.le_refl _)
  have hle := ofI_le (D := D) false _ (L l) (Nat.le_refl _)
  have hlf := ofI_left (D := D) _ (L l) (Nat.le_refl _)
  have hcd := hc.drop (R D l).2
  have hwL := L_wf hg l
  unfold Overs at h
  unfold tolds
  change ofI D (L l ++ Q) fin = ((R D l).1 ++ (ofI D ((L l).drop (R D l).2 ++ Q) fin).1, (R D l).2 + (ofI D ((L l).drop (R D l).2 ++ Q) fin).2) at ha
  change (R D l).2 ≤ (L l).length at hle
  change ofI D ((L l).drop (R D l).2) false = ([], 0) at hlf
  rw [ha]
  rw [List.drop_append_of_le_length hle, List.take_append_of_le_length hle] at hcd
  cases hall : (R D l).1.all (okT most) with
  | false =>
    refine ⟨?_, .inl ?_⟩
    · simp only [take_not hall]
    · simp only [List.all_append, hall, Bool.false_and]
  | true =>
    rcases h with h | ⟨h1, h2⟩
    · rw [hall] at h; cases h
    have hP : (L l).drop (R D l).2 ≠ [] := by
      intro h3
      have := congrArg List.length h3
      rw [List.length_drop] at this
      simp at this
      omega
    have hn : nextI D ((L l).drop (R D l).2) false = none := by
      cases hx : nextI D ((L l).drop (R D l).2) false with
      | none => rfl
      | some r =>
        obtain ⟨n, s⟩ := r
        have h3 := ofI_some hP hx
        rw [hlf] at h3
        have := congrArg (fun z => z.1.length) h3
        simp at this
    have hwP : ∀ x, x ∈ (L l).drop (R D l).2 → WfI D x := fun x hx => hwL x (List.mem_of_mem_drop hx)
    rw [all_take hall]
    rcases sure_all hm hwP hP hn h2 Q hQ fin with ⟨q1, q2, q3⟩ | ⟨n, s, q1, q2⟩
    · rw [ofI_none q1]
      refine ⟨?_, .inr ⟨q2, ?_, ?_⟩⟩
      · simp only [List.append_nil, all_take hall]
      · simp only [List.length_append]
        omega
      · simp only [Nat.add_zero]
        rw [List.drop_append_of_le_length hle]
        exact q3
    · have hPQ : (L l).drop (R D l).2 ++ Q ≠ [] := by simp [hP]
      rw [ofI_tok hcd hPQ q1]
      have hno : okT most ⟨0 + sum ((L l).take (R D l).2), 0 + sum ((L l).take (R D l).2) + sum (((L l).drop (R D l).2 ++ Q).take n), s⟩ = false := by
        simp [okT]
        omega
      refine ⟨?_, .inl ?_⟩
      · simp only
        rw [take_all hall, List.takeWhile_cons, if_neg (by rw [hno]; simp), List.append_nil]
      · simp only [List.all_append, List.all_cons, hno, Bool.false_and, Bool.and_false]

theorem L_app (l m : List UInt8) : ∃ X, L (l ++ m) = L l ++ X := by
  unfold L
  rw [comp_app]
  exact ⟨_, rfl⟩
theorem items_app (l m : List UInt8) : ∃ Y, items 0 (l ++ m) = L l ++ Y := by
  obtain ⟨X, hX⟩ := L_app l m
  refine ⟨X ++ items (comp 0 (l ++ m)).2 (rest (l ++ m)), ?_⟩
  rw [← List.append_assoc, ← hX]
  exact (comp_end (l ++ m)).symm
theorem over_put (hm : 1 ≤ most) (hg : Good.Good D) {l : List UInt8} (h : Overs D most l) (m : List UInt8) : Overs D most (l ++ m) ∧ tolds D most (l ++ m) = tolds D most l := by
  obtain ⟨X, hX⟩ := L_app l m
  have hw := L_wf hg (l ++ m)
  have hc := L_cont (l ++ m)
  rw [hX] at hw hc
  have := over_more hm hg h X (fun x hx => hw x (List.mem_append_right _ hx)) hc false
  rw [← hX] at this
  refine ⟨?_, this.1⟩
  rcases this.2 with h1 | ⟨_, h1, h2⟩
  · exact .inl h1
  · exact .inr ⟨h1, h2⟩
theorem over_end (hm : 1 ≤ most) (hg : Good.Good D) {l : List UInt8} (h : Overs D most l) (m : List UInt8) : toldE D most (l ++ m) = tolds D most l ∧ overE D most (l ++ m) = true := by
  obtain ⟨Y, hY⟩ := items_app l m
  have hw := items_wf hg (l ++ m) 0
  have hc := Cont.items 0 (l ++ m)
  rw [hY] at hw hc
  have := over_more hm hg h Y (fun x hx => hw x (List.mem_append_right _ hx)) hc true
  rw [← hY] at this
  unfold toldE overE toks
  refine ⟨this.1, ?_⟩
  rcases this.2 with h1 | ⟨h1, _⟩
  · rw [h1]; rfl
  · cases h1

/-- A Cutter that took a text and is not over. -/
structure Run (D : Dt) (most : Nat) (l : List UInt8) (S : Sx) : Prop where
  over : S.over = false
  ok : ¬ Overs D most l
  out : S.out = []
  told : S.told = sum ((L l).take (R D l).2)
  inv : Inv D ((L l).drop (R D l).2) S
  sure : StepLaw.sure S ≤ most

def S0 : Sx := ⟨0, 0, 0, 0, Ix.none, Ix.none, 0, 0, [], false⟩
theorem Run.new (D : Dt) (most : Nat) : Run D most [] S0 := by
  have e1 : L [] = [] := rfl
  have e2 : R D [] = ([], 0) := by unfold R; rw [e1]; exact ofI_nil D false
  refine ⟨rfl, ?_, rfl, ?_, ?_, Nat.zero_le _⟩
  · unfold Overs
    rw [e2, e1]
    simp
  · rw [e1]; rfl
  · rw [e1, e2]
    exact ⟨fun x h => by simp at h, .inl ⟨rfl, rfl, rfl⟩⟩

theorem Run.all {l : List UInt8} {S : Sx} (h : Run D most l S) : (R D l).1.all (okT most) = true := by
  cases hx : (R D l).1.all (okT most)
  · exact absurd (.inl hx) h.ok
  · rfl
theorem Run.tolds {l : List UInt8} {S : Sx} (h : Run D most l S) : StepRun.tolds D most l = (R D l).1 := all_take h.all

/-- Items that follow. -/
theorem Run.fed (hm : 1 ≤ most) {l : List UInt8} {S : Sx} (h : Run D most l S) (X : List It) (hX : ∀ x, x ∈ X → WfI D x) (hc : Cont 0 (L l ++ X)) :
    Fed D most (feed most S (X.map (ixOf D))) [] (sum ((L l).take (R D l).2)) ((L l).drop (R D l).2 ++ X) ∧
    ofI D (L l ++ X) false = ((R D l).1 ++ (ofI D ((L l).drop (R D l).2 ++ X) false).1, (R D l).2 + (ofI D ((L l).drop (R D l).2 ++ X) false).2) ∧
    (∀ m, (L l ++ X).drop ((R D l).2 + m) = ((L l).drop (R D l).2 ++ X).drop m) ∧ (∀ m, sum ((L l ++ X).take ((R D l).2 + m)) = sum ((L l).take (R D l).2) + sum (((L l).drop (R D l).2 ++ X).take m)) ∧
    (L l ++ X).length = (R D l).2 + ((L l).drop (R D l).2 ++ X).length := by
  have hle : (R D l).2 ≤ (L l).length := ofI_le (D := D) false _ (L l) (Nat.le_refl _)
  have hcd := hc.drop (R D l).2
  rw [List.drop_append_of_le_length hle, List.take_append_of_le_length hle, Nat.zero_add] at hcd
  have hf := feed_res hm X _ S h.inv h.over h.sure hX (by rw [h.told]; exact hcd)
  rw [h.out, h.told] at hf
  have ed : ∀ m, (L l ++ X).drop ((R D l).2 + m) = ((L l).drop (R D l).2 ++ X).drop m := fun m => by rw [← List.drop_drop, List.drop_append_of_le_length hle]
  refine ⟨hf, ofI_app (D := D) X false _ (L l) (Nat.le_refl _), ed, fun m => ?_, ?_⟩
  · rw [List.take_add, sum_append, List.drop_append_of_le_length hle, List.take_append_of_le_length hle]
  · rw [List.length_append, List.length_append, List.length_drop]
    omega

theorem drop_app {A B : List Tk} : (A ++ B).drop A.length = B := by simp

/-- A byte more. -/
theorem Run.put (hm : 1 ≤ most) (hg : Good.Good D) {l : List UInt8} {S : Sx} (h : Run D most l S) (c : UInt8) :
    (feed most S ((comp (comp 0 l).2 (rest l ++ [c])).1.map (ixOf D))).out = (StepRun.tolds D most (l ++ [c])).drop (StepRun.tolds D most l).length ∧
    StepRun.tolds D most (l ++ [c]) = StepRun.tolds D most l ++ (feed most S ((comp (comp 0 l).2 (rest l ++ [c])).1.map (ixOf D))).out ∧
    ((feed most S ((comp (comp 0 l).2 (rest l ++ [c])).1.map (ixOf D))).over = true ↔ Overs D most (l ++ [c])) ∧
    (¬ Overs D most (l ++ [c]) → Run D most (l ++ [c]) { feed most S ((comp (comp 0 l).2 (rest l ++ [c])).1.map (ixOf D)) with out := [] }) := by
  have hL : L (l ++ [c]) = L l ++ (comp (comp 0 l).2 (rest l ++ [c])).1 := by unfold L; rw [comp_put]
  obtain ⟨X, hX⟩ : ∃ X, (comp (comp 0 l).2 (rest l ++ [c])).1 = X := ⟨_, rfl⟩
  rw [hX] at hL ⊢
  have hw := L_wf hg (l ++ [c])
  have hc := L_cont (l ++ [c])
  rw [hL] at hw hc
  obtain ⟨hf, h1, h2, h3, h4⟩ := h.fed hm X (fun x hx => hw x (List.mem_append_right _ hx)) hc
  obtain ⟨S', hS'⟩ : ∃ S', feed most S (X.map (ixOf D)) = S' := ⟨_, rfl⟩
  rw [hS'] at hf ⊢
  have hR : R D (l ++ [c]) = ((R D l).1 ++ (ofI D ((L l).drop (R D l).2 ++ X) false).1, (R D l).2 + (ofI D ((L l).drop (R D l).2 ++ X) false).2) := by unfold R; rw [hL]; exact h1
  obtain ⟨R2, hR2⟩ : ∃ R2, ofI D ((L l).drop (R D l).2 ++ X) false = R2 := ⟨_, rfl⟩
  have ht : StepRun.tolds D most (l ++ [c]) = StepRun.tolds D most l ++ R2.1.takeWhile (okT most) := by
    rw [h.tolds]
    unfold StepRun.tolds
    rw [hR, hR2]
    exact take_all h.all
  unfold Fed at hf
  rw [hR2] at hf hR
  rw [ht, drop_app]
  rcases hf with ⟨f1, f2, f3, f4, f5, f6, f7⟩ | ⟨f1, f2, f3⟩
  · have hno : ¬ Overs D most (l ++ [c]) := by
      rintro (q | ⟨q1, q2⟩)
      · rw [hR] at q
        simp only [List.all_append, h.all, f1, Bool.and_self] at q
        cases q
      · rw [hR, hL] at q1 q2
        rw [h4] at q1
        rw [h2] at q2
        simp only at q1 q2
        exact f2 ⟨by omega, q2⟩
    refine ⟨?_, ?_, ⟨fun q => ?_, fun q => absurd q hno⟩, fun _ => ⟨f3, hno, rfl, ?_, ?_, f7⟩⟩
    · rw [f4, List.nil_append, all_take f1]
    · rw [f4, List.nil_append, all_take f1]
    · rw [f3] at q; cases q
    · rw [hR, hL, h3]
      exact f5
    · rw [hR, hL, h2]
      exact f6
  · have hyes : Overs D most (l ++ [c]) := by
      rcases f1 with q | ⟨q1, q2⟩
      · refine .inl ?_
        rw [hR]
        simp only [List.all_append, q, Bool.and_false]
      · refine .inr ?_
        rw [hR, hL, h4, h2]
        exact ⟨by simp only; omega, q2⟩
    exact ⟨by rw [f3, List.nil_append], by rw [f3, List.nil_append], ⟨fun _ => hyes, fun _ => f2⟩, fun q => absurd hyes q⟩

/-- The text's end. -/
theorem Run.fin (hm : 1 ≤ most) (hg : Good.Good D) {l : List UInt8} {S : Sx} (h : Run D most l S) :
    (StepLaw.fin most (feed most S ((items (comp 0 l).2 (rest l)).map (ixOf D)))).out = (toldE D most l).drop (StepRun.tolds D most l).length ∧
    toldE D most l = StepRun.tolds D most l ++ (StepLaw.fin most (feed most S ((items (comp 0 l).2 (rest l)).map (ixOf D)))).out ∧
    (StepLaw.fin most (feed most S ((items (comp 0 l).2 (rest l)).map (ixOf D)))).over = overE D most l := by
  have hL : items 0 l = L l ++ items (comp 0 l).2 (rest l) := (comp_end l).symm
  obtain ⟨X, hX⟩ : ∃ X, items (comp 0 l).2 (rest l) = X := ⟨_, rfl⟩
  rw [hX] at hL ⊢
  have hw := items_wf hg l 0
  have hc := Cont.items 0 l
  rw [hL] at hw hc
  obtain ⟨hf, h1, h2, h3, h4⟩ := h.fed hm X (fun x hx => hw x (List.mem_append_right _ hx)) hc
  obtain ⟨S', hS'⟩ : ∃ S', feed most S (X.map (ixOf D)) = S' := ⟨_, rfl⟩
  rw [hS'] at hf ⊢
  obtain ⟨P, hP⟩ : ∃ P, (L l).drop (R D l).2 ++ X = P := ⟨_, rfl⟩
  obtain ⟨a, ha⟩ : ∃ a, sum ((L l).take (R D l).2) = a := ⟨_, rfl⟩
  rw [hP] at hf h1 h2 h3 h4
  rw [ha] at hf
  have hle : (R D l).2 ≤ (L l).length := ofI_le (D := D) false _ (L l) (Nat.le_refl _)
  have hcd := hc.drop (R D l).2
  rw [List.drop_append_of_le_length hle, List.take_append_of_le_length hle, Nat.zero_add, hP, ha] at hcd
  have hwP : ∀ x, x ∈ P → WfI D x := fun x hx => by
    rw [← hP] at hx
    rcases List.mem_append.1 hx with hx | hx
    · exact hw x (List.mem_append_left _ (List.mem_of_mem_drop hx))
    · exact hw x (List.mem_append_right _ hx)
  have hT : toks D 0 l = (R D l).1 ++ (ofI D P true).1 := by
    unfold toks
    rw [hL, ofI_app (D := D) X true _ (L l) (Nat.le_refl _)]
    show (R D l).1 ++ (ofI D ((L l).drop (R D l).2 ++ X) true).1 = _
    rw [hP]
  have e1 : toldE D most l = StepRun.tolds D most l ++ (ofI D P true).1.takeWhile (okT most) := by
    rw [h.tolds]
    unfold toldE
    rw [hT]
    exact take_all h.all
  have e2 : overE D most l = !(ofI D P true).1.all (okT most) := by
    unfold overE
    rw [hT, List.all_append, h.all, Bool.true_and]
  rw [e1, e2, drop_app]
  have key : (StepLaw.fin most S').out = (ofI D P true).1.takeWhile (okT most) ∧ (StepLaw.fin most S').over = !(ofI D P true).1.all (okT most) := by
    have hap := ofI_app (D := D) [] true _ P (Nat.le_refl _)
    rw [List.append_nil, List.append_nil] at hap
    have hle2 := ofI_le (D := D) false _ P (Nat.le_refl _)
    have hlf := ofI_left (D := D) _ P (Nat.le_refl _)
    unfold Fed at hf
    obtain ⟨R2, hR2⟩ : ∃ R2, ofI D P false = R2 := ⟨_, rfl⟩
    rw [hR2] at hf hap hle2 hlf
    have hcd2 := hcd.drop R2.2
    rcases hf with ⟨f1, f2, f3, f4, f5, f6, f7⟩ | ⟨f1, f2, f3⟩
    · have h5 := fin_res hm f6 f3 (by rw [f5]; exact hcd2)
      rw [f4, List.nil_append] at h5
      rw [h5.1, h5.2, hap]
      simp only
      exact ⟨(take_all f1).symm, by rw [List.all_append, f1, Bool.true_and]⟩
    · have c : ¬ (S'.over = false ∧ S'.st = 1) := by rintro ⟨h, _⟩; rw [f2] at h; cases h
      have e3 : StepLaw.fin most S' = S' := by
        unfold StepLaw.fin
        simp only [if_neg c]
        rw [if_pos f2]
      rw [e3, f3, List.nil_append, f2, hap]
      simp only
      cases hall : R2.1.all (okT most) with
      | false => exact ⟨(take_not hall).symm, by rw [List.all_append, hall, Bool.false_and]; rfl⟩
      | true =>
        rcases f1 with q | ⟨q1, q2⟩
        · rw [hall] at q; cases q
        have hPn : P.drop R2.2 ≠ [] := by
          intro h3
          have := congrArg List.length h3
          rw [List.length_drop] at this
          simp at this
          omega
        have hn : nextI D (P.drop R2.2) false = none := by
          cases hx : nextI D (P.drop R2.2) false with
          | none => rfl
          | some r =>
            obtain ⟨n, s⟩ := r
            have h3 := ofI_some hPn hx
            rw [hlf] at h3
            have := congrArg (fun z => z.1.length) h3
            simp at this
        rcases sure_all hm (fun x hx => hwP x (List.mem_of_mem_drop hx)) hPn hn q2 [] (fun x hx => by simp at hx) true with ⟨_, q, _⟩ | ⟨n, s, q3, q4⟩
        · cases q
        rw [List.append_nil] at q3 q4
        rw [ofI_tok hcd2 hPn q3]
        have hno : okT most ⟨a + sum (P.take R2.2), a + sum (P.take R2.2) + sum ((P.drop R2.2).take n), s⟩ = false := by
          simp [okT]
          omega
        refine ⟨?_, ?_⟩
        · rw [take_all hall, List.takeWhile_cons, if_neg (by rw [hno]; simp), List.append_nil, all_take hall]
        · simp only [List.all_append, List.all_cons, hno, Bool.false_and, Bool.and_false]
          rfl
  exact ⟨key.1, by rw [key.1], key.2⟩
end Go.Proofs.YtendkmldecoogaaDoor.StepRun
