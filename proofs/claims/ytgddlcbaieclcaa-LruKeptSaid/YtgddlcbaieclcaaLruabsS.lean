/-
  lru: what the methods do, told of keys and values in the order of use (keys: texts).
-/
import Derived.Test.YtgddlcbaieclcaaLrukeysS
import Derived.Test.YtgddlcbaieclcaaSameStr
namespace Go.Proofs.Ytgddlcbaieclcaa.LruabsS
open Go Go.RowKit Go.Proofs.Ytgddlcbaieclcaa.Kit Go.Proofs.Ytgddlcbaieclcaa.Maps Go.Proofs.Ytgddlcbaieclcaa.LruS Go.Proofs.Ytgddlcbaieclcaa.LrucoreS Go.Proofs.Ytgddlcbaieclcaa.LrugetS Go.Proofs.Ytgddlcbaieclcaa.LruputS Go.Proofs.Ytgddlcbaieclcaa.LrukeysS Go.Proofs.Ytgddlcbaieclcaa.SameStr

/-- A cache that keeps these keys and values; its blocks are F. -/
def IsC (w : World) (c most : Nat) (kv : List (Ky × Value)) (F : Nat → Prop) : Prop :=
  ∃ mb cnt L M, LRU w c mb most L M cnt ∧ kv = L.map (fun e => (e.1, e.2.1)) ∧ ∀ i, F i ↔ i ∈ c :: mb :: L.map (·.2.2)

theorem IsC.lt {w : World} {c most : Nat} {kv : List (Ky × Value)} {F : Nat → Prop} (h : IsC w c most kv F) {i : Nat} (hi : F i) : i < w.heap.size := by
  obtain ⟨mb, cnt, L, M, h, rfl, hF⟩ := h
  have := (hF i).1 hi
  simp only [List.mem_cons, List.mem_map] at this
  rcases this with rfl | rfl | ⟨e, he, rfl⟩
  · exact lt_of_heap h.cache
  · exact lt_of_heap h.map
  · exact seg_lt h.seg e he
theorem IsC.upd {S : Nat → Prop} {w w' : World} {c most : Nat} {kv : List (Ky × Value)} {F : Nat → Prop} (h : IsC w c most kv F) (hu : Upd S w w') (hn : ∀ i, i < w.heap.size → S i → ¬ F i) : IsC w' c most kv F := by
  have h0 := h
  obtain ⟨mb, cnt, L, M, h, rfl, hF⟩ := h
  refine ⟨mb, cnt, L, M, h.upd (fun i hi => hu.block i (h0.lt ((hF i).2 hi)) (fun hs => hn i (h0.lt ((hF i).2 hi)) hs ((hF i).2 hi))), rfl, hF⟩
theorem IsC.below {w w' : World} {c most : Nat} {kv : List (Ky × Value)} {F : Nat → Prop} (h : IsC w c most kv F) (hb : Below w.heap.size w w') : IsC w' c most kv F :=
  h.upd (S := fun _ => False) (.of_below hb) (fun _ _ h => h.elim)
theorem IsC.nodup {w : World} {c most : Nat} {kv : List (Ky × Value)} {F : Nat → Prop} (h : IsC w c most kv F) : (kv.map (·.1)).Nodup := by
  obtain ⟨mb, cnt, L, M, h, rfl, hF⟩ := h
  have := h.keys
  rw [List.map_map]
  exact this

theorem keysL (L : List En) : (L.map (fun e => (e.1, e.2.1))).map (·.1) = L.map (·.1) := by rw [List.map_map]; rfl

theorem split_mid {L : List En} {A B : List (Ky × Value)} {k : Ky} {v : Value} (h : A ++ (k, v) :: B = L.map (fun e => (e.1, e.2.1))) :
    ∃ A' b B', L = A' ++ (k, v, b) :: B' ∧ A = A'.map (fun e => (e.1, e.2.1)) ∧ B = B'.map (fun e => (e.1, e.2.1)) := by
  obtain ⟨A', C, rfl, h1, h2⟩ := List.map_eq_append_iff.1 h.symm
  obtain ⟨e, B', rfl, h3, h4⟩ := List.map_eq_cons_iff.1 h2
  obtain ⟨k', v', b⟩ := e
  simp only [Prod.mk.injEq] at h3
  obtain ⟨rfl, rfl⟩ := h3
  exact ⟨A', b, B', rfl, h1.symm, h4.symm⟩

theorem perm_mid {A B : List Nat} {c m b i : Nat} : (i ∈ c :: m :: (A ++ b :: B)) ↔ (i ∈ c :: m :: b :: (A ++ B)) := by
  simp only [List.mem_cons, List.mem_append]
  constructor
  · rintro (h | h | h | h | h) <;> simp [h]
  · rintro (h | h | h | h | h) <;> simp [h]

def Made (n : Nat) (w : World) (x : Ending) (w' : World) : Prop :=
  ∃ c F, x = .returned (.tuple #[.pointer (some ⟨c, 0, none⟩), .int .i64 0]) ∧ IsC w' c n [] F ∧ (∀ i, F i → w.heap.size ≤ i) ∧ Below w.heap.size w w'
theorem new (n : Int) (w : World) (h0 : 0 ≤ n) (h1 : n ≤ 4096) : Calls Try.prog 36 #[.int .i64 n] w (Made n.toNat w) := by
  refine (New_calls n w h0 h1).mono ?_
  rintro x w' ⟨c, mb, rfl, h, hc, hm, hb⟩
  exact ⟨c, fun i => i ∈ [c, mb], rfl, ⟨mb, 0, [], [], h, rfl, fun i => Iff.rfl⟩, fun i hi => (by simp only [List.mem_cons, List.not_mem_nil, or_false] at hi; rcases hi with rfl | rfl <;> assumption), hb⟩

theorem get_no {w : World} {c most : Nat} {kv : List (Ky × Value)} {F : Nat → Prop} (h : IsC w c most kv F) (k : Ky) (hk : k ∉ kv.map (·.1)) :
    Calls Try.prog 38 #[.pointer (some ⟨c, 0, none⟩), encK k] w fun x w' => x = .returned (.tuple #[.int .i64 0, .bool false]) ∧ Below w.heap.size w w' := by
  obtain ⟨mb, cnt, L, M, h, rfl, hF⟩ := h
  rw [keysL] at hk
  exact Get_no c mb most cnt L M k w h hk

theorem get_yes {w : World} {c most : Nat} {A B : List (Ky × Value)} {k : Ky} {v : Value} {F : Nat → Prop} (h : IsC w c most (A ++ (k, v) :: B) F) :
    Calls Try.prog 38 #[.pointer (some ⟨c, 0, none⟩), encK k] w fun x w' => x = .returned (.tuple #[v, .bool true]) ∧ IsC w' c most ((k, v) :: (A ++ B)) F ∧ Upd F w w' := by
  obtain ⟨mb, cnt, L, M, h, hL, hF⟩ := h
  obtain ⟨A', b, B', rfl, rfl, rfl⟩ := split_mid hL
  refine (Get_yes c mb most cnt A' B' M k v b w h).mono ?_
  rintro x w' ⟨rfl, h', hu⟩
  refine ⟨rfl, ⟨mb, cnt, _, M, h', by simp, fun i => ?_⟩, hu.mono (fun i _ hi => (hF i).2 (by simp only [List.mem_cons] at hi ⊢; exact hi.elim .inl (fun h => .inr (.inr h))))⟩
  rw [hF, List.map_append, List.map_cons, List.map_cons, List.map_append]
  exact perm_mid

theorem put_zero {w : World} {c : Nat} {kv : List (Ky × Value)} {F : Nat → Prop} (h : IsC w c 0 kv F) (k : Ky) (v : Value) :
    Calls Try.prog 37 #[.pointer (some ⟨c, 0, none⟩), encK k, v] w fun x w' => x = .returned (.tuple #[]) ∧ Below w.heap.size w w' := by
  obtain ⟨mb, cnt, L, M, h, rfl, hF⟩ := h
  exact Put_zero c mb cnt L M k v w h

theorem put_yes {w : World} {c most : Nat} {A B : List (Ky × Value)} {k : Ky} {v v' : Value} {F : Nat → Prop} (h : IsC w c most (A ++ (k, v) :: B) F) (hv : ∃ n, v' = .int .i64 n) (hm : most ≠ 0) :
    Calls Try.prog 37 #[.pointer (some ⟨c, 0, none⟩), encK k, v'] w fun x w' => x = .returned (.tuple #[]) ∧ IsC w' c most ((k, v') :: (A ++ B)) F ∧ Upd F w w' := by
  obtain ⟨mb, cnt, L, M, h, hL, hF⟩ := h
  obtain ⟨A', b, B', rfl, rfl, rfl⟩ := split_mid hL
  refine (Put_yes c mb most cnt A' B' M k v v' b w hv hm h).mono ?_
  rintro x w' ⟨rfl, h', hu⟩
  refine ⟨rfl, ⟨mb, cnt, _, M, h', by simp, fun i => ?_⟩, hu.mono (fun i _ hi => (hF i).2 (by simp only [List.mem_cons] at hi ⊢; exact hi.elim .inl (fun h => .inr (.inr h))))⟩
  rw [hF, List.map_append, List.map_cons, List.map_cons, List.map_append]
  exact perm_mid

def Put1 (c most : Nat) (kv : List (Ky × Value)) (F : Nat → Prop) (w : World) (x : Ending) (w' : World) : Prop :=
  x = .returned (.tuple #[]) ∧ ∃ F', IsC w' c most kv F' ∧ Upd F w w' ∧ ∀ i, i < w.heap.size → F' i → F i

theorem put_new {w : World} {c most : Nat} {kv : List (Ky × Value)} {F : Nat → Prop} (h : IsC w c most kv F) {k : Ky} {v' : Value} (hv : ∃ n, v' = .int .i64 n) (hk : k ∉ kv.map (·.1)) (hm : kv.length < most) :
    Calls Try.prog 37 #[.pointer (some ⟨c, 0, none⟩), encK k, v'] w (Put1 c most ((k, v') :: kv) F w) := by
  obtain ⟨mb, cnt, L, M, h, rfl, hF⟩ := h
  rw [keysL] at hk
  refine (Put_new c mb most cnt L M k v' w hv (by simpa using hm) hk h).mono ?_
  rintro x w' ⟨rfl, b, M', h', hb, hu⟩
  refine ⟨rfl, _, ⟨mb, _, _, M', h', by simp, fun i => Iff.rfl⟩, hu.mono (fun i _ hi => (hF i).2 hi), fun i hi hm => (hF i).2 ?_⟩
  simp only [List.map_cons, List.mem_cons] at hm ⊢
  rcases hm with h | h | h | h
  · exact .inl h
  · exact .inr (.inl h)
  · omega
  · exact .inr (.inr h)

theorem put_full {w : World} {c most : Nat} {kv : List (Ky × Value)} {e : Ky × Value} {F : Nat → Prop} (h : IsC w c most (kv ++ [e]) F) {k : Ky} {v' : Value} (hv : ∃ n, v' = .int .i64 n) (hk : k ∉ (kv ++ [e]).map (·.1)) (hm : kv.length + 1 = most) :
    Calls Try.prog 37 #[.pointer (some ⟨c, 0, none⟩), encK k, v'] w (Put1 c most ((k, v') :: kv) F w) := by
  obtain ⟨mb, cnt, L, M, h, hL, hF⟩ := h
  obtain ⟨k0, v0⟩ := e
  obtain ⟨A', b0, B', rfl, rfl, hB⟩ := split_mid hL
  obtain rfl : B' = [] := by cases B' with | nil => rfl | cons a l => simp at hB
  rw [hL, keysL] at hk
  refine (Put_full c mb most cnt A' k0 v0 b0 _ rfl M k v' w hv (by simpa using hm) hk h).mono ?_
  rintro x w' ⟨rfl, b, M', h', hb, hu⟩
  refine ⟨rfl, _, ⟨mb, _, _, M', h', by simp, fun i => Iff.rfl⟩, hu.mono (fun i _ hi => (hF i).2 hi), fun i hi hm => (hF i).2 ?_⟩
  simp only [List.map_cons, List.map_append, List.map_nil, List.mem_cons, List.mem_append, List.not_mem_nil, or_false] at hm ⊢
  rcases hm with h | h | h | h
  · exact .inl h
  · exact .inr (.inl h)
  · omega
  · exact .inr (.inr (.inl h))

theorem len {w : World} {c most : Nat} {kv : List (Ky × Value)} {F : Nat → Prop} (h : IsC w c most kv F) :
    Calls Try.prog 39 #[.pointer (some ⟨c, 0, none⟩)] w fun x w' => x = .returned (.int .i64 kv.length) ∧ w = w' := by
  obtain ⟨mb, cnt, L, M, h, rfl, hF⟩ := h
  rw [List.length_map]
  exact Len_calls c mb most cnt L M w h

/-- Keys' answer: new memory that holds the keys in the order of use. -/
def Listed (kv : List (Ky × Value)) (w : World) (x : Ending) (w' : World) : Prop :=
  ∃ a cap, x = .returned (.slice a kv.length cap) ∧ kv.length ≤ cap ∧ cap ≤ maxLen ∧ Row w' a kv.length (fun i => (kv.getD i (ByteArray.empty, undef)).1) ∧ (∀ x, a = some x → w.heap.size ≤ x.block ∧ x.block < w'.heap.size ∧ x.off = 0) ∧
    (∃ cur, w'.ownsRow w.heap.size 9 1 (.slice a kv.length cap) kv.length cur) ∧ Below w.heap.size w w'

theorem flat_at (L : List En) : ∀ i, i < L.length → (flat L)[i]? = some (.string (L.getD i (ByteArray.empty, undef, 0)).1) := by
  induction L with
  | nil => intro i hi; simp at hi
  | cons e L ih =>
    intro i hi
    cases i with
    | zero => simp [flat]
    | succ i =>
      have := ih i (by simpa using hi)
      simp only [flat, List.flatMap_cons] at this ⊢
      simpa using this

theorem keys {w : World} {c most : Nat} {kv : List (Ky × Value)} {F : Nat → Prop} (h : IsC w c most kv F) (hl : kv.length ≤ 4096) :
    Calls Try.prog 73 #[.pointer (some ⟨c, 0, none⟩)] w (Listed kv w) := by
  obtain ⟨mb, cnt, L, M, h, rfl, hF⟩ := h
  refine (Keys_calls c mb most cnt L M w h (by simpa using hl)).mono ?_
  rintro x w' ⟨v, rfl, ho, hb⟩
  have ho2 := ho
  obtain ⟨a, cap, rfl, h1, h2, h3, h4, _⟩ := Row.of_owns ho (fun i => (L.getD i (ByteArray.empty, undef, 0)).1) (flat_at L)
  refine ⟨a, cap, by rw [List.length_map], by rw [List.length_map]; exact h1, h2, ?_, h4, ⟨_, by rw [List.length_map]; exact ho2⟩, hb⟩
  rw [List.length_map]
  refine h3.cong (fun i hi => ?_)
  simp [List.getD, hi]
end Go.Proofs.Ytgddlcbaieclcaa.LruabsS
