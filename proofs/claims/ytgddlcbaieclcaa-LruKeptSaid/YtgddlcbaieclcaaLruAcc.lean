/-
  What a cache keeps behind an access, as lists of keys and values.
-/
import Derived.Test.YtgddlcbaieclcaaLruabsK
namespace Go.Proofs.Ytgddlcbaieclcaa.LruAcc
open Go Go.RowKit Go.Proofs.Ytgddlcbaieclcaa.Kit Go.Proofs.Ytgddlcbaieclcaa.LruK Go.Proofs.Ytgddlcbaieclcaa.LrugetK Go.Proofs.Ytgddlcbaieclcaa.LruabsK

/-- All but a key's entry. -/
def drop (k : Ky) (L : List (Ky × Value)) : List (Ky × Value) := L.filter fun e => !decide (e.1 = k)
/-- What is kept behind a Put of a key: it is in front. -/
def acc (c : Nat) (L : List (Ky × Value)) (k : Ky) (v : Value) : List (Ky × Value) := ((k, v) :: drop k L).take c

theorem drop_no {k : Ky} {L : List (Ky × Value)} (h : k ∉ L.map (·.1)) : drop k L = L := by
  unfold drop
  rw [List.filter_eq_self]
  intro e he
  have : e.1 ≠ k := fun h' => h (List.mem_map.2 ⟨e, he, h'⟩)
  simp [this]
theorem drop_mid {k : Ky} {v : Value} {A B : List (Ky × Value)} (h : ((A ++ (k, v) :: B).map (·.1)).Nodup) : drop k (A ++ (k, v) :: B) = A ++ B := by
  rw [List.map_append, List.map_cons] at h
  have h2 := (nodup_mid h).1
  rw [List.mem_append, not_or] at h2
  unfold drop
  rw [List.filter_append, List.filter_cons_of_neg (by simp)]
  have a := drop_no (k := k) h2.1
  have b := drop_no (k := k) h2.2
  unfold drop at a b
  rw [a, b]
theorem mem_mid {k : Ky} {L : List (Ky × Value)} (h : k ∈ L.map (·.1)) : ∃ A v B, L = A ++ (k, v) :: B := by
  obtain ⟨e, he, rfl⟩ := List.mem_map.1 h
  obtain ⟨A, B, hAB⟩ := List.append_of_mem he
  exact ⟨A, e.2, B, hAB⟩

theorem drop_nodup {k : Ky} {L : List (Ky × Value)} (h : (L.map (·.1)).Nodup) : ((drop k L).map (·.1)).Nodup := h.sublist (List.Sublist.map _ List.filter_sublist)

theorem take_drop' {k : Ky} : ∀ (c : Nat) (L : List (Ky × Value)), (L.map (·.1)).Nodup → (drop k L).take c = (drop k (L.take (c + 1))).take c
  | _, [], _ => by simp [drop]
  | c, e :: L, h => by
    simp only [List.map_cons, List.nodup_cons] at h
    by_cases hk : e.1 = k
    · have h1 : k ∉ L.map (·.1) := hk ▸ h.1
      have h2 : k ∉ (L.take c).map (·.1) := fun hm => h1 ((List.Sublist.map _ (List.take_sublist c L)).mem hm)
      have a := drop_no h1
      have b := drop_no h2
      unfold drop at a b ⊢
      rw [List.take_succ_cons, List.filter_cons_of_neg (by simp [hk]), List.filter_cons_of_neg (by simp [hk]), a, b, List.take_take]
      simp
    · cases c with
      | zero => simp
      | succ c =>
        have ih := take_drop' (k := k) c L h.2
        unfold drop at ih ⊢
        rw [List.take_succ_cons, List.filter_cons_of_pos (by simp [hk]), List.filter_cons_of_pos (by simp [hk]), List.take_succ_cons, List.take_succ_cons, ih]

/-- The lesser cache keeps the greater's first ones, behind an access too. -/
theorem acc_take {c m : Nat} {L : List (Ky × Value)} {k : Ky} {v : Value} (h : (L.map (·.1)).Nodup) : (acc (c + m) L k v).take c = acc c (L.take c) k v := by
  unfold acc
  rw [List.take_take, Nat.min_eq_left (by omega)]
  cases c with
  | zero => simp
  | succ c =>
    rw [List.take_succ_cons, List.take_succ_cons, take_drop' c L h]

theorem acc_len (c : Nat) (L : List (Ky × Value)) (k : Ky) (v : Value) : (acc c L k v).length ≤ c := by
  unfold acc
  rw [List.length_take]
  omega
theorem acc_yes {c : Nat} {A B : List (Ky × Value)} {k : Ky} {v v' : Value} (h : ((A ++ (k, v) :: B).map (·.1)).Nodup) (hl : (A ++ (k, v) :: B).length ≤ c) : acc c (A ++ (k, v) :: B) k v' = (k, v') :: (A ++ B) := by
  unfold acc
  rw [drop_mid h, List.take_of_length_le (by simp at hl ⊢; omega)]
theorem acc_new {c : Nat} {L : List (Ky × Value)} {k : Ky} {v : Value} (hk : k ∉ L.map (·.1)) (hl : L.length < c) : acc c L k v = (k, v) :: L := by
  unfold acc
  rw [drop_no hk, List.take_of_length_le (by simp; omega)]
theorem acc_full {c : Nat} {L : List (Ky × Value)} {e : Ky × Value} {k : Ky} {v : Value} (hk : k ∉ (L ++ [e]).map (·.1)) (hl : L.length + 1 = c) : acc c (L ++ [e]) k v = (k, v) :: L := by
  unfold acc
  rw [drop_no hk, ← hl, List.take_succ_cons, List.take_left']
  rfl

/-- A cache that keeps no more than it may. -/
def Fine (w : World) (c most : Nat) (kv : List (Ky × Value)) (F : Nat → Prop) : Prop := IsC w c most kv F ∧ kv.length ≤ most

theorem Fine.upd {S : Nat → Prop} {w w' : World} {c most : Nat} {kv : List (Ky × Value)} {F : Nat → Prop} (h : Fine w c most kv F) (hu : Upd S w w') (hn : ∀ i, i < w.heap.size → S i → ¬ F i) : Fine w' c most kv F := ⟨h.1.upd hu hn, h.2⟩
theorem Fine.below {w w' : World} {c most : Nat} {kv : List (Ky × Value)} {F : Nat → Prop} (h : Fine w c most kv F) (hb : Below w.heap.size w w') : Fine w' c most kv F := ⟨h.1.below hb, h.2⟩

def PutF (c most : Nat) (kv : List (Ky × Value)) (F : Nat → Prop) (w : World) (x : Ending) (w' : World) : Prop :=
  x = .returned (.tuple #[]) ∧ ∃ F', Fine w' c most kv F' ∧ Upd F w w' ∧ ∀ i, i < w.heap.size → F' i → F i

theorem put {w : World} {c most : Nat} {kv : List (Ky × Value)} {F : Nat → Prop} (h : Fine w c most kv F) (k : Ky) (n : Int) :
    Calls Try.prog 43 #[.pointer (some ⟨c, 0, none⟩), encK k, .int .i64 n] w (PutF c most (acc most kv k (.int .i64 n)) F w) := by
  obtain ⟨hc, hl⟩ := h
  rcases Nat.eq_zero_or_pos most with rfl | hm
  · have hkv : kv = [] := List.eq_nil_of_length_eq_zero (by omega)
    subst hkv
    refine (put_zero hc k _).mono ?_
    rintro x w' ⟨rfl, hb⟩
    exact ⟨rfl, F, ⟨hc.below hb, acc_len _ _ _ _⟩, .of_below hb, fun _ _ h => h⟩
  · by_cases hk : k ∈ kv.map (·.1)
    · obtain ⟨A, v, B, rfl⟩ := mem_mid hk
      refine (put_yes hc ⟨n, rfl⟩ (by omega)).mono ?_
      rintro x w' ⟨rfl, h', hu⟩
      rw [acc_yes hc.nodup hl]
      exact ⟨rfl, F, ⟨h', by simp at hl ⊢; omega⟩, hu, fun _ _ h => h⟩
    · rcases Nat.lt_or_ge kv.length most with hlt | hge
      · refine (put_new hc ⟨n, rfl⟩ hk hlt).mono ?_
        rintro x w' ⟨rfl, F', h', hu, hf⟩
        rw [acc_new hk hlt]
        exact ⟨rfl, F', ⟨h', by simp; omega⟩, hu, hf⟩
      · obtain ⟨L, e, rfl⟩ : ∃ L e, kv = L ++ [e] := by
          rcases List.eq_nil_or_concat kv with rfl | ⟨L, e, rfl⟩
          · simp at hge; omega
          · exact ⟨L, e, by simp⟩
        have hL : L.length + 1 = most := by simp at hl hge; omega
        refine (put_full hc ⟨n, rfl⟩ hk hL).mono ?_
        rintro x w' ⟨rfl, F', h', hu, hf⟩
        rw [acc_full hk hL]
        exact ⟨rfl, F', ⟨h', by simp; omega⟩, hu, hf⟩

theorem get_in {w : World} {c most : Nat} {A B : List (Ky × Value)} {k : Ky} {v : Value} {F : Nat → Prop} (h : Fine w c most (A ++ (k, v) :: B) F) :
    Calls Try.prog 44 #[.pointer (some ⟨c, 0, none⟩), encK k] w fun x w' => x = .returned (.tuple #[v, .bool true]) ∧ Fine w' c most ((k, v) :: (A ++ B)) F ∧ Upd F w w' := by
  refine (get_yes h.1).mono ?_
  rintro x w' ⟨rfl, h', hu⟩
  have := h.2
  exact ⟨rfl, ⟨h', by simp at this ⊢; omega⟩, hu⟩
end Go.Proofs.Ytgddlcbaieclcaa.LruAcc
