/-
  The plain law of encoding: a pre-token's ids are its bytes, merged; a text's ids are those of its pre-tokens up to the first that is too long. The words of the ids are the text. The plain law of EncodeCounts: each id's word lies within one pre-token.
-/
import Derived.Test.YtkjkgpdfhmoenaaDoorBpeLaw
import Derived.Test.YtkjkgpdfhmoenaaDoorCutAll
namespace Go.Proofs.YtkjkgpdfhmoenaaDoor.EncLaw
open Go.Proofs.YtkjkgpdfhmoenaaDoor.Dt Go.Proofs.YtkjkgpdfhmoenaaDoor.MoNew Go.Proofs.YtkjkgpdfhmoenaaDoor.Good Go.Proofs.YtkjkgpdfhmoenaaDoor.BpeLaw Go.Proofs.YtkjkgpdfhmoenaaDoor.Utf Go.Proofs.YtkjkgpdfhmoenaaDoor.It Go.Proofs.YtkjkgpdfhmoenaaDoor.Cu Go.Proofs.YtkjkgpdfhmoenaaDoor.CutAll Go.Proofs.YtkjkgpdfhmoenaaDoor.WholeLaw

/-- The merge of two ids: its rank and what they become. -/
def mgF (D : Dt) (l r : Int) : Nat → Nat → Option (Int × Int)
  | 0, _ => none
  | n + 1, i => if D.A i = l ∧ D.B i = r then some ((i : Int), D.I i) else mgF D l r n (i + 1)
def mg (D : Dt) (l r : Int) : Option (Int × Int) := mgF D l r D.nm 0
theorem mgF_some {D : Dt} {l r : Int} : ∀ {n i : Nat} {x : Int × Int}, mgF D l r n i = some x → ∃ j : Nat, i ≤ j ∧ j < i + n ∧ D.A j = l ∧ D.B j = r ∧ x = ((j : Int), D.I j) ∧ ∀ k, i ≤ k → k < j → ¬ (D.A k = l ∧ D.B k = r)
  | 0, i, x, h => by cases h
  | n + 1, i, x, h => by
    unfold mgF at h
    split at h
    · rename_i hh
      exact ⟨i, Nat.le_refl _, by omega, hh.1, hh.2, by simpa using h.symm, fun k h1 h2 => by omega⟩
    · rename_i hh
      obtain ⟨j, h1, h2, h3, h4, h5, h6⟩ := mgF_some h
      refine ⟨j, by omega, by omega, h3, h4, h5, fun k k1 k2 => ?_⟩
      rcases Nat.eq_or_lt_of_le k1 with rfl | k3
      · exact hh
      · exact h6 k k3 k2
theorem mgF_none {D : Dt} {l r : Int} : ∀ {n i : Nat}, mgF D l r n i = none ↔ ∀ j, i ≤ j → j < i + n → ¬ (D.A j = l ∧ D.B j = r)
  | 0, i => ⟨fun _ j h1 h2 => (by omega), fun _ => rfl⟩
  | n + 1, i => by
    unfold mgF
    split
    · rename_i hh
      exact ⟨fun h => (by cases h), fun h => absurd hh (h i (Nat.le_refl _) (by omega))⟩
    · rename_i hh
      rw [mgF_none]
      constructor
      · intro h j h1 h2
        rcases Nat.eq_or_lt_of_le h1 with rfl | h3
        · exact hh
        · exact h j h3 (by omega)
      · intro h j h1 h2
        exact h j (by omega) (by omega)
theorem mg_some {D : Dt} {l r : Int} {x : Int × Int} (h : mg D l r = some x) : ∃ j : Nat, j < D.nm ∧ D.A j = l ∧ D.B j = r ∧ x = ((j : Int), D.I j) ∧ ∀ k, k < j → ¬ (D.A k = l ∧ D.B k = r) := by
  obtain ⟨j, _, h2, h3, h4, h5, h6⟩ := mgF_some h
  exact ⟨j, by omega, h3, h4, h5, fun k hk => h6 k (Nat.zero_le _) hk⟩

theorem Good.row {D : Dt} (h : Good.Good D) {i : Nat} (hi : i < D.nm) : 256 ≤ D.I i ∧ D.I i < 256 + (D.nw : Int) ∧ Made D i (D.A i) ∧ Made D i (D.B i) ∧ D.W (D.I i - 256).toNat = word D (D.A i) ++ word D (D.B i) ∧ (∀ j, j < i → D.I j ≠ D.I i) ∧ ∀ j, j < i → ¬ (D.A j = D.A i ∧ D.B j = D.B i) := by
  have := h.m i hi
  unfold badM at this
  split at this
  · simp at this
  rename_i h1
  split at this
  · simp at this
  rename_i h2
  split at this
  · simp at this
  rename_i h3
  split at this
  · simp at this
  rename_i h4
  have h2' := Decidable.not_not.1 h2
  refine ⟨by omega, by omega, h2'.1, h2'.2, Decidable.not_not.1 h3, fun j hj e => h1 (.inr (.inr ⟨j, hj, e⟩)), fun j hj e => h4 ⟨j, hj, e⟩⟩

/-- The bytes of ids, one behind the other. -/
def cat (D : Dt) (l : List Int) : List UInt8 := l.flatMap fun i => (word D i).data.toList
theorem cat_app (D : Dt) (a b : List Int) : cat D (a ++ b) = cat D a ++ cat D b := by simp [cat]
theorem cat_cons (D : Dt) (a : Int) (b : List Int) : cat D (a :: b) = (word D a).data.toList ++ cat D b := by simp [cat]

theorem word_mg {D : Dt} (h : Good.Good D) {l r rank id : Int} (hm : mg D l r = some (rank, id)) : isId D id ∧ (word D id).data.toList = (word D l).data.toList ++ (word D r).data.toList := by
  obtain ⟨j, hj, rfl, rfl, hx, _⟩ := mg_some hm
  simp only [Prod.mk.injEq] at hx
  obtain ⟨_, rfl⟩ := hx
  obtain ⟨g1, g2, _, _, g5, _⟩ := Good.row h hj
  refine ⟨⟨by omega, g2⟩, ?_⟩
  have : word D (D.I j) = D.W (D.I j - 256).toNat := by unfold word; rw [if_neg (by omega), if_pos ⟨g1, by omega⟩]
  rw [this, g5]
  simp

/-- A text's bytes as ids. -/
def byI (l : List UInt8) : List Int := l.map fun b => (b.toNat : Int)
theorem byI_len (l : List UInt8) : (byI l).length = l.length := by simp [byI]
theorem byI_id (D : Dt) (l : List UInt8) : ∀ i ∈ byI l, isId D i := by
  intro i hi
  obtain ⟨b, _, rfl⟩ := List.mem_map.1 hi
  have := b.toNat_lt
  exact ⟨by omega, by omega⟩
theorem cat_byI (D : Dt) : ∀ l, cat D (byI l) = l
  | [] => rfl
  | b :: l => by
    have ih := cat_byI D l
    unfold byI at ih ⊢
    rw [List.map_cons, cat_cons, ih]
    have hb := b.toNat_lt
    have : (word D (b.toNat : Int)).data.toList = [b] := by
      unfold word
      rw [if_pos ⟨by omega, by omega⟩]
      simp
    rw [this]
    rfl

theorem split_at {l : List Int} {i : Nat} (h : i + 1 < l.length) : l = l.take i ++ l.getD i 0 :: l.getD (i + 1) 0 :: l.drop (i + 2) := by
  have e1 : l.getD i 0 = l[i]'(by omega) := by rw [List.getD_eq_getElem?_getD, List.getElem?_eq_getElem (by omega)]; rfl
  have e2 : l.getD (i + 1) 0 = l[i + 1] := by rw [List.getD_eq_getElem?_getD, List.getElem?_eq_getElem h]; rfl
  have e3 : l.drop i = l[i]'(by omega) :: l.drop (i + 1) := List.drop_eq_getElem_cons (by omega)
  have e4 : l.drop (i + 1) = l[i + 1] :: l.drop (i + 2) := List.drop_eq_getElem_cons h
  rw [e1, e2, ← e4, ← e3, List.take_append_drop]

/-- A pre-token's ids. -/
def mrg (D : Dt) (l : List UInt8) : List Int := joined (mg D) (byI l)
theorem mrg_ok {D : Dt} (h : Good.Good D) (l : List UInt8) : cat D (mrg D l) = l ∧ (∀ i ∈ mrg D l, isId D i) ∧ (mrg D l).length ≤ l.length ∧ (l ≠ [] → mrg D l ≠ []) := by
  refine joined_ind (P := fun x => cat D x = l ∧ (∀ i ∈ x, isId D i) ∧ x.length ≤ l.length ∧ (l ≠ [] → x ≠ [])) ?_ (byI l).length (byI l) (Nat.le_refl _) ⟨cat_byI D l, byI_id D l, by rw [byI_len]; exact Nat.le_refl _, fun hl e => hl (by have := byI_len l; rw [e] at this; exact List.eq_nil_of_length_eq_zero this.symm)⟩
  rintro x r i id ⟨h1, h2, h3, h4⟩ hn
  obtain ⟨hi, hm⟩ := nxt_some hn
  obtain ⟨w1, w2⟩ := word_mg h hm
  have hs := split_at hi
  have hl := put_len id hi
  refine ⟨?_, ?_, by omega, fun _ e => ?_⟩
  · rw [hs] at h1
    rw [← h1]
    unfold put
    simp only [cat_app, cat_cons, w2, List.append_assoc]
  · intro k hk
    unfold put at hk
    simp only [List.mem_append, List.mem_cons] at hk
    rcases hk with hk | rfl | hk
    · exact h2 k (List.mem_of_mem_take hk)
    · exact w1
    · exact h2 k (List.mem_of_mem_drop hk)
  · rw [e] at hl
    simp at hl
    omega

/-- A pre-token's bytes. -/
def piece (T : List UInt8) (t : Tk) : List UInt8 := (T.drop t.a).take (t.b - t.a)

/-- The ids of pre-tokens up to the first that is too long, and that one. -/
def enc (D : Dt) (most : Nat) (T : List UInt8) : List Tk → List Int × Option Tk
  | [] => ([], none)
  | t :: S => if most < t.b - t.a then ([], some t) else (mrg D (piece T t) ++ (enc D most T S).1, (enc D most T S).2)

/-- Pre-tokens that lie one behind the other from a to e. -/
def Link : Nat → List Tk → Nat → Prop
  | a, [], e => a = e
  | a, t :: S, e => t.a = a ∧ a < t.b ∧ Link t.b S e
theorem Link.le : ∀ {S : List Tk} {a e : Nat}, Link a S e → a ≤ e
  | [], _, _, h => Nat.le_of_eq h
  | _ :: _, _, _, ⟨_, h2, h3⟩ => by have := h3.le; omega
theorem toks_link (D : Dt) : ∀ (n : Nat) (l : List UInt8) (a : Nat), l.length ≤ n → Link a (toks D a l) (a + l.length)
  | n, l, a, hn => by
    by_cases hl : l = []
    · subst hl; exact rfl
    obtain ⟨m, s, _, h1, h2, _, _, ht⟩ := toks_step D a hl
    have hMle := sum_take_le m a l
    have hM0 : 0 < sum ((items a l).take m) := by
      have := sum_le_take (L := items a l) (fun _ h => items_pos h) m h2
      omega
    rw [ht]
    generalize sum ((items a l).take m) = M at *
    refine ⟨rfl, by show a < a + M; omega, ?_⟩
    show Link (a + M) _ _
    match n with
    | 0 => omega
    | n + 1 =>
      have := toks_link D n (l.drop M) (a + M) (by rw [List.length_drop]; omega)
      rw [List.length_drop, show a + M + (l.length - M) = a + l.length by omega] at this
      exact this

/-- What the ids of pre-tokens from a on cover. -/
theorem enc_cat {D : Dt} (hg : Good.Good D) (most : Nat) (T : List UInt8) : ∀ (S : List Tk) (a : Nat), Link a S T.length →
    (∀ i ∈ (enc D most T S).1, isId D i) ∧ (enc D most T S).1.length ≤ T.length - a ∧
    match (enc D most T S).2 with
    | none => cat D (enc D most T S).1 = T.drop a ∧ ∀ t ∈ S, t.b - t.a ≤ most
    | some t => t ∈ S ∧ most < t.b - t.a ∧ a ≤ t.a ∧ t.a < t.b ∧ t.b ≤ T.length ∧ cat D (enc D most T S).1 = (T.drop a).take (t.a - a)
  | [], a, h => by
    have h : a = T.length := h
    subst h
    refine ⟨fun i hi => (by cases hi), Nat.zero_le _, ?_⟩
    show cat D [] = _ ∧ _
    rw [List.drop_length]
    exact ⟨rfl, fun t ht => (by cases ht)⟩
  | t :: S, a, ⟨h1, h2, h3⟩ => by
    have hle := h3.le
    unfold enc
    split
    · rename_i hm
      refine ⟨fun i hi => (by cases hi), Nat.zero_le _, ?_⟩
      show t ∈ t :: S ∧ _
      refine ⟨by simp, hm, by omega, by omega, hle, ?_⟩
      rw [h1, Nat.sub_self]
      rfl
    · rename_i hm
      obtain ⟨i1, i2, i3⟩ := enc_cat hg most T S t.b h3
      obtain ⟨m1, m2, m3, _⟩ := mrg_ok hg (piece T t)
      have hp : (piece T t).length = t.b - t.a := by unfold piece; rw [List.length_take, List.length_drop]; omega
      have hd : T.drop a = piece T t ++ T.drop t.b := by
        unfold piece
        rw [h1]
        conv => lhs; rw [← List.take_append_drop (t.b - a) (T.drop a)]
        rw [List.drop_drop, show a + (t.b - a) = t.b by omega]
      refine ⟨?_, ?_, ?_⟩
      · intro i hi
        rcases List.mem_append.1 hi with hi | hi
        · exact m2 i hi
        · exact i1 i hi
      · show (mrg D (piece T t) ++ (enc D most T S).1).length ≤ _
        rw [List.length_append]
        omega
      · cases he : (enc D most T S).2 with
        | none =>
          rw [he] at i3
          show cat D (mrg D (piece T t) ++ (enc D most T S).1) = _ ∧ _
          rw [cat_app, m1, i3.1, hd]
          refine ⟨rfl, fun u hu => ?_⟩
          rcases List.mem_cons.1 hu with rfl | hu
          · omega
          · exact i3.2 u hu
        | some u =>
          rw [he] at i3
          obtain ⟨j1, j2, j3, j4, j5, j6⟩ := i3
          show u ∈ t :: S ∧ most < u.b - u.a ∧ a ≤ u.a ∧ u.a < u.b ∧ u.b ≤ T.length ∧ cat D (mrg D (piece T t) ++ (enc D most T S).1) = _
          refine ⟨by simp [j1], j2, by omega, j4, j5, ?_⟩
          rw [cat_app, m1, j6, hd, List.take_append, hp]
          have e5 : (piece T t).take (u.a - a) = piece T t := List.take_of_length_le (by rw [hp, h1]; omega)
          rw [e5, show u.a - a - (t.b - t.a) = u.a - t.b by rw [h1]; omega]

/-- What Encode answers for a text: its ids, and the pre-token that is too long. -/
def encode (D : Dt) (most : Nat) (T : List UInt8) : List Int × Option Tk := enc D most T (toks D 0 T)

theorem encode_cat {D : Dt} (hg : Good.Good D) (most : Nat) (T : List UInt8) :
    (∀ i ∈ (encode D most T).1, isId D i) ∧ (encode D most T).1.length ≤ T.length ∧
    match (encode D most T).2 with
    | none => cat D (encode D most T).1 = T ∧ ∀ t ∈ toks D 0 T, t.b - t.a ≤ most
    | some t => t ∈ toks D 0 T ∧ most < t.b - t.a ∧ t.a < t.b ∧ t.b ≤ T.length ∧ cat D (encode D most T).1 = T.take t.a := by
  have hl := toks_link D T.length T 0 (Nat.le_refl _)
  rw [Nat.zero_add] at hl
  obtain ⟨h1, h2, h3⟩ := enc_cat hg most T (toks D 0 T) 0 hl
  unfold encode
  refine ⟨h1, by omega, ?_⟩
  cases he : (enc D most T (toks D 0 T)).2 with
  | none => rw [he] at h3; exact h3
  | some t =>
    rw [he] at h3
    obtain ⟨j1, j2, j3, j4, j5, j6⟩ := h3
    exact ⟨j1, j2, j4, j5, by simpa using j6⟩

/-- With a greater bound the ids go on. -/
theorem enc_grows (D : Dt) {most more : Nat} (hm : most ≤ more) (T : List UInt8) : ∀ (S : List Tk), ∃ R, (enc D more T S).1 = (enc D most T S).1 ++ R ∧ ((enc D most T S).2 = none → (enc D more T S).2 = none ∧ R = [])
  | [] => ⟨[], rfl, fun _ => ⟨rfl, rfl⟩⟩
  | t :: S => by
    obtain ⟨R, h1, h2⟩ := enc_grows D hm T S
    by_cases h3 : most < t.b - t.a
    · have e1 : enc D most T (t :: S) = ([], some t) := by unfold enc; rw [if_pos h3]
      rw [e1]
      exact ⟨_, rfl, fun h => by cases h⟩
    · have e1 : enc D most T (t :: S) = (mrg D (piece T t) ++ (enc D most T S).1, (enc D most T S).2) := by conv => lhs; unfold enc; rw [if_neg h3]
      have e2 : enc D more T (t :: S) = (mrg D (piece T t) ++ (enc D more T S).1, (enc D more T S).2) := by conv => lhs; unfold enc; rw [if_neg (by omega)]
      rw [e1, e2]
      refine ⟨R, ?_, h2⟩
      rw [h1, List.append_assoc]
theorem enc_over (D : Dt) (most : Nat) (T : List UInt8) : ∀ (S : List Tk), (enc D most T S).2 = none ↔ ∀ t ∈ S, ¬ most < t.b - t.a
  | [] => ⟨fun _ t h => (by cases h), fun _ => rfl⟩
  | t :: S => by
    have ih := enc_over D most T S
    unfold enc
    split
    · rename_i h
      exact ⟨fun h => (by cases h), fun hh => absurd h (hh t (by simp))⟩
    · rename_i h
      rw [ih]
      constructor
      · intro hh u hu
        rcases List.mem_cons.1 hu with rfl | hu
        · exact h
        · exact hh u hu
      · exact fun hh u hu => hh u (by simp [hu])
end Go.Proofs.YtkjkgpdfhmoenaaDoor.EncLaw
namespace Go.Proofs.YtkjkgpdfhmoenaaDoor.EncCount
open Go.Proofs.YtkjkgpdfhmoenaaDoor.Dt Go.Proofs.YtkjkgpdfhmoenaaDoor.MoNew Go.Proofs.YtkjkgpdfhmoenaaDoor.Good Go.Proofs.YtkjkgpdfhmoenaaDoor.BpeLaw Go.Proofs.YtkjkgpdfhmoenaaDoor.Cu Go.Proofs.YtkjkgpdfhmoenaaDoor.CutAll Go.Proofs.YtkjkgpdfhmoenaaDoor.EncLaw

/-- All ids of pre-tokens. -/
def ids (D : Dt) (T : List UInt8) (S : List Tk) : List Int := S.flatMap fun u => mrg D (piece T u)
theorem enc_all (D : Dt) (most : Nat) (T : List UInt8) : ∀ (S : List Tk), (∀ t ∈ S, ¬ most < t.b - t.a) → enc D most T S = (ids D T S, none)
  | [], _ => rfl
  | t :: S, h => by
    have ih := enc_all D most T S (fun u hu => h u (by simp [hu]))
    unfold enc
    rw [if_neg (h t (by simp)), ih]
    simp [ids]
theorem piece_len {T : List UInt8} {t : Tk} (h : t.b ≤ T.length) : (piece T t).length = t.b - t.a := by
  unfold piece; rw [List.length_take, List.length_drop]; omega
theorem Link.mem : ∀ {S : List Tk} {a e : Nat}, Link a S e → ∀ t ∈ S, a ≤ t.a ∧ t.a < t.b ∧ t.b ≤ e
  | [], _, _, _, t, h => by cases h
  | u :: S, a, e, ⟨h1, h2, h3⟩, t, h => by
    rcases List.mem_cons.1 h with rfl | h
    · exact ⟨by omega, by omega, h3.le⟩
    · have := Link.mem h3 t h
      exact ⟨by omega, this.2.1, this.2.2⟩
theorem ids_len {D : Dt} (hg : Good.Good D) {T : List UInt8} : ∀ {S : List Tk} {a : Nat}, Link a S T.length → S.length ≤ (ids D T S).length ∧ (ids D T S).length ≤ T.length - a
  | [], a, _ => ⟨Nat.le_refl _, Nat.zero_le _⟩
  | t :: S, a, ⟨h1, h2, h3⟩ => by
    obtain ⟨i1, i2⟩ := ids_len hg h3
    have hle := h3.le
    obtain ⟨_, _, m3, m4⟩ := mrg_ok hg (piece T t)
    have hp := piece_len (T := T) (t := t) hle
    have : 0 < (mrg D (piece T t)).length := List.length_pos_iff.2 (m4 (fun e => by rw [e] at hp; simp at hp; omega))
    unfold ids at i1 i2 ⊢
    rw [List.flatMap_cons, List.length_append, List.length_cons]
    omega

/-- What is left: the pre-tokens S, of whose first one the ids l go on at byte a. -/
def Rest (D : Dt) (T : List UInt8) : List Tk → Nat → List Int → Prop
  | [], _, l => l = []
  | t :: S, a, l => ∃ x, x ≠ [] ∧ l = x ++ ids D T S ∧ t.a ≤ a ∧ a + (cat D x).length = t.b ∧ ∀ i ∈ x, isId D i

theorem rest_begin {D : Dt} (hg : Good.Good D) {T : List UInt8} : ∀ {S : List Tk} {a : Nat}, Link a S T.length → Rest D T S a (ids D T S)
  | [], _, _ => rfl
  | t :: S, a, ⟨h1, h2, h3⟩ => by
    have hle := h3.le
    have hp := piece_len (T := T) (t := t) hle
    obtain ⟨m1, m2, m3, m4⟩ := mrg_ok hg (piece T t)
    refine ⟨mrg D (piece T t), m4 (fun e => by rw [e] at hp; simp at hp; omega), by simp [ids], by omega, ?_, m2⟩
    rw [m1, hp]
    omega

theorem rest_next {D : Dt} (hg : Good.Good D) {T : List UInt8} {t : Tk} {S : List Tk} {a a0 : Nat} {i : Int} {l : List Int} (hL : Link a0 (t :: S) T.length) (h : Rest D T (t :: S) a (i :: l)) :
    isId D i ∧ t.a ≤ a ∧ a + (word D i).size ≤ t.b ∧ (a + (word D i).size = t.b → Rest D T S t.b l) ∧ (a + (word D i).size ≠ t.b → Rest D T (t :: S) (a + (word D i).size) l) := by
  obtain ⟨x, hx, hl, h1, h2, h3⟩ := h
  cases x with
  | nil => exact absurd rfl hx
  | cons j x =>
    simp only [List.cons_append, List.cons.injEq] at hl
    obtain ⟨rfl, rfl⟩ := hl
    rw [cat_cons, List.length_append] at h2
    have hs : (word D i).data.toList.length = (word D i).size := by simp
    rw [hs] at h2
    refine ⟨h3 i (by simp), h1, by omega, fun he => ?_, fun he => ?_⟩
    · have hx0 : x = [] := by
        cases x with
        | nil => rfl
        | cons k x =>
          rw [cat_cons, List.length_append] at h2
          have := Good.word_pos hg (h3 k (by simp))
          have hs2 : (word D k).data.toList.length = (word D k).size := by simp
          omega
      subst hx0
      rw [List.nil_append]
      exact rest_begin hg hL.2.2
    · refine ⟨x, ?_, rfl, by omega, by omega, fun k hk => h3 k (by simp [hk])⟩
      rintro rfl
      simp [cat] at h2
      omega
theorem rest_none {D : Dt} {T : List UInt8} {S : List Tk} {a : Nat} (h : Rest D T S a []) : S = [] := by
  cases S with
  | nil => rfl
  | cons t S =>
    obtain ⟨x, hx, hl, _⟩ := h
    have := List.append_eq_nil_iff.1 hl.symm
    exact absurd this.1 hx
end Go.Proofs.YtkjkgpdfhmoenaaDoor.EncCount
