/-
  lru: the cache's invariant; Get (keys: two numbers).
-/
import Derived.Test.YtgddlcbaieclcaaLrucoreK
namespace Go.Proofs.Ytgddlcbaieclcaa.LrugetK
open Go Go.RowKit Go.Proofs.Ytgddlcbaieclcaa.Kit Go.Proofs.Ytgddlcbaieclcaa.Maps Go.Proofs.Ytgddlcbaieclcaa.LruK Go.Proofs.Ytgddlcbaieclcaa.LrucoreK
attribute [local irreducible] wpQuiet

/-- A key as a value. -/
def encK (k : Ky) : Value := .agg #[.int .i64 k.1, .int .i64 k.2]

theorem keyLaw : KeyLaw Try.prog 73 encK := by
  refine struct_law (enc := fun k : Ky => #[.int .i64 k.1, .int .i64 k.2]) Try.underlying73 (fun e a w => by kernel_rfl) (fun a b w => ?_) (fun a => by simp [Instr.sameBits])
  exact two_equal (f0 := (Try.prog.fieldsOf 73)[0]!) (f1 := (Try.prog.fieldsOf 73)[1]!) (by kernel_rfl) (by kernel_rfl) (by kernel_rfl) (fun x y w => by kernel_rfl) (fun x y w => by kernel_rfl) (by decide +kernel) (by decide +kernel) (by kernel_rfl) (by kernel_rfl) a b w

structure LRU (w : World) (c mb most : Nat) (L : List En) (M : List (Ky × Value × Nat)) (cnt : Nat) : Prop where
  cache : w.heap[c]? = some (.cells #[.int .i64 most, .map (some mb), at' (hd L none), at' (lst L none)] 137 (0, 0))
  map : w.heap[mb]? = some (.map (ents encK M) cnt)
  seg : Seg w none L none
  nd : (c :: mb :: L.map (·.2.2)).Nodup
  keys : (L.map (·.1)).Nodup
  same : (M.map (fun e => (e.1, e.2.1))).Perm (L.map (fun e => (e.1, at' (some e.2.2))))

theorem mem_keys {L : List En} {M : List (Ky × Value × Nat)} (h : (M.map (fun e => (e.1, e.2.1))).Perm (L.map (fun e => (e.1, at' (some e.2.2))))) (k : Ky) : k ∈ M.map (·.1) ↔ k ∈ L.map (·.1) := by
  have h2 := h.map Prod.fst
  simp only [List.map_map] at h2
  exact h2.mem_iff

theorem at_inj {a b : Nat} (h : at' (some a) = at' (some b)) : a = b := by simpa [at'] using h

theorem key_inj {L : List En} (h : (L.map (·.1)).Nodup) {e f : En} (he : e ∈ L) (hf : f ∈ L) (hk : e.1 = f.1) : e = f := by
  induction L with
  | nil => cases he
  | cons a L ih =>
    simp only [List.map_cons, List.nodup_cons, List.mem_map, not_exists, not_and] at h
    rcases List.mem_cons.1 he with he1 | he1
    · rcases List.mem_cons.1 hf with hf1 | hf1
      · rw [he1, hf1]
      · rw [he1] at hk
        exact absurd hk.symm (h.1 f hf1)
    · rcases List.mem_cons.1 hf with hf1 | hf1
      · rw [hf1] at hk
        exact absurd hk (h.1 e he1)
      · exact ih h.2 he1 hf1

theorem LRU.look_no {w : World} {c mb most cnt : Nat} {L : List En} {M : List (Ky × Value × Nat)} (h : LRU w c mb most L M cnt) {k : Ky} (hk : k ∉ L.map (·.1)) : lk k M 0 = none :=
  lk_none.2 (fun hm => hk ((mem_keys h.same k).1 hm))
theorem LRU.look_yes {w : World} {c mb most cnt : Nat} {L : List En} {M : List (Ky × Value × Nat)} (h : LRU w c mb most L M cnt) {A B : List En} {k : Ky} {v : Value} {b : Nat} (hL : L = A ++ (k, v, b) :: B) :
    ∃ C e D, M = C ++ e :: D ∧ lk k M 0 = some (C.length, at' (some b)) ∧ e.1 = k ∧ e.2.1 = at' (some b) := by
  have hk : k ∈ L.map (·.1) := by rw [hL]; simp
  cases hl : lk k M 0 with
  | none => exact absurd ((mem_keys h.same k).2 hk) (lk_none.1 hl)
  | some x =>
    obtain ⟨j, u⟩ := x
    obtain ⟨C, e, D, hM, hj, he, hu⟩ := lk_some hl
    have hm : (k, u) ∈ M.map (fun e => (e.1, e.2.1)) := by rw [hM]; simp [he, hu]
    have hm2 := h.same.mem_iff.1 hm
    obtain ⟨f, hf, hfe⟩ := List.mem_map.1 hm2
    simp only [Prod.mk.injEq] at hfe
    have := key_inj h.keys hf (f := (k, v, b)) (by rw [hL]; simp) hfe.1
    subst this
    obtain ⟨_, rfl⟩ := hfe
    exact ⟨C, e, D, hM, by rw [hj]; simp, he, hu⟩

theorem LRU.upd {w w' : World} {c mb most cnt : Nat} {L : List En} {M : List (Ky × Value × Nat)} (h : LRU w c mb most L M cnt) (hc : ∀ b, b ∈ c :: mb :: L.map (·.2.2) → w'.heap[b]? = w.heap[b]?) : LRU w' c mb most L M cnt :=
  ⟨(hc c (by simp)).trans h.cache, (hc mb (by simp)).trans h.map, seg_upd h.seg (fun e he => hc _ (by simp only [List.mem_cons, List.mem_map]; exact .inr (.inr ⟨e, he, rfl⟩))), h.nd, h.keys, h.same⟩

set_option maxHeartbeats 1000000 in
set_option maxRecDepth 100000 in
theorem Get_no (c mb most cnt : Nat) (L : List En) (M : List (Ky × Value × Nat)) (k : Ky) (w : World) (h : LRU w c mb most L M cnt) (hk : k ∉ L.map (·.1)) :
    Calls Try.prog 44 #[.pointer (some ⟨c, 0, none⟩), encK k] w fun x w' => x = .returned (.tuple #[.int .i64 0, .bool false]) ∧ Below w.heap.size w w' := by
  have hno := h.look_no hk
  have hm := h.map
  have hc := h.cache
  have c1 := cell_at hc 1
  have zc := lt_of_heap hc
  have zm := lt_of_heap hm
  simp only [List.getElem?_toArray, List.getElem?_cons_zero, List.getElem?_cons_succ] at c1
  have hlk : ∀ {W : World}, Below w.heap.size w W → (Instr.lookup 134 (.map (some mb)) (encK k) true).run Try.prog W = .ok (.tuple #[.pointer none, .bool false]) W := fun {W} hb => by
    have := run_lookup2 keyLaw Try.underlying134 W mb M cnt k (.pointer none) ((hb.block mb zm).trans hm) (fun W => by kernel_rfl)
    rw [hno] at this
    exact this
  have hl1 : ∀ x : Later (w.alloc (.cells #[.int .i64 k.1, .int .i64 k.2] 73)), (Instr.lookup 134 (.map (some mb)) (encK k) true).run Try.prog x.w = .ok (.tuple #[.pointer none, .bool false]) x.w :=
    fun x => hlk (((Below.refl w.heap.size w).alloc (Nat.le_refl _) _).trans (x.h.mono (by simp)))
  simp only [encK] at hl1 ⊢
  clear hlk hm hc h
  go_enter Try.func44, Try.ntmps44
  go_wp2_with fail
  refine region_calm (by kernel_rfl) (by kernel_rfl) ?_
  repeat (quiet_step ((fail)))
  refine wpQuiet_nil ?_
  rintro _ ⟨x, rfl⟩
  go_wp2
  go_ret2
  exact ⟨rfl, Later.chain ((Below.refl w.heap.size w).alloc (Nat.le_refl _) _) x⟩

theorem LRU.core {w : World} {c mb most cnt : Nat} {L : List En} {M : List (Ky × Value × Nat)} (h : LRU w c mb most L M cnt) : Core w c (.int .i64 most) (.map (some mb)) L :=
  ⟨h.cache, h.seg, h.nd.sublist (List.Sublist.cons_cons c (List.sublist_cons_self _ _))⟩
theorem LRU.mbc {w : World} {c mb most cnt : Nat} {L : List En} {M : List (Ky × Value × Nat)} (h : LRU w c mb most L M cnt) : mb ∉ c :: L.map (·.2.2) := by
  have := h.nd
  simp only [List.nodup_cons, List.mem_cons, not_or] at this
  simp only [List.mem_cons, not_or]
  exact ⟨fun e => this.1.1 e.symm, this.2.1⟩

theorem nodup_mid {α : Type} {A B : List α} {e : α} (h : (A ++ e :: B).Nodup) : e ∉ A ++ B ∧ (A ++ B).Nodup := by
  have h2 : (e :: (A ++ B)).Nodup := (List.perm_middle).nodup_iff.1 h
  exact List.nodup_cons.1 h2

theorem LRU.front {w w' : World} {c mb most cnt : Nat} {A B : List En} {k : Ky} {v v' : Value} {b : Nat} {M : List (Ky × Value × Nat)} (h : LRU w c mb most (A ++ (k, v, b) :: B) M cnt)
    (hC : Core w' c (.int .i64 most) (.map (some mb)) ((k, v', b) :: (A ++ B))) (hm : w'.heap[mb]? = w.heap[mb]?) : LRU w' c mb most ((k, v', b) :: (A ++ B)) M cnt := by
  have hp : (A ++ (k, v, b) :: B).Perm ((k, v, b) :: (A ++ B)) := List.perm_middle
  refine ⟨hC.cache, hm.trans h.map, hC.seg, ?_, ?_, ?_⟩
  · exact (((hp.map (·.2.2)).cons mb).cons c).nodup_iff.1 h.nd
  · exact (hp.map (·.1)).nodup_iff.1 h.keys
  · exact h.same.trans (hp.map (fun e => (e.1, at' (some e.2.2))))

set_option maxHeartbeats 1000000 in
set_option maxRecDepth 100000 in
theorem Get_yes (c mb most cnt : Nat) (A B : List En) (M : List (Ky × Value × Nat)) (k : Ky) (v : Value) (b : Nat) (w : World) (h : LRU w c mb most (A ++ (k, v, b) :: B) M cnt) :
    Calls Try.prog 44 #[.pointer (some ⟨c, 0, none⟩), encK k] w fun x w' => x = .returned (.tuple #[v, .bool true]) ∧
      LRU w' c mb most ((k, v, b) :: (A ++ B)) M cnt ∧ Upd (fun i => i ∈ c :: (A ++ (k, v, b) :: B).map (·.2.2)) w w' := by
  obtain ⟨_, _, _, _, hyes, _⟩ := h.look_yes rfl
  have hm := h.map
  have hc := h.cache
  have c1 := cell_at hc 1
  have zc := lt_of_heap hc
  have zm := lt_of_heap hm
  simp only [List.getElem?_toArray, List.getElem?_cons_zero, List.getElem?_cons_succ] at c1
  have hlk : ∀ {W : World}, Below w.heap.size w W → (Instr.lookup 134 (.map (some mb)) (encK k) true).run Try.prog W = .ok (.tuple #[.pointer (some ⟨b, 0, none⟩), .bool true]) W := fun {W} hb => by
    have := run_lookup2 keyLaw Try.underlying134 W mb M cnt k (.pointer none) ((hb.block mb zm).trans hm) (fun W => by kernel_rfl)
    rw [hyes] at this
    exact this
  have hl1 : ∀ x : Later (w.alloc (.cells #[.int .i64 k.1, .int .i64 k.2] 73)), (Instr.lookup 134 (.map (some mb)) (encK k) true).run Try.prog x.w = .ok (.tuple #[.pointer (some ⟨b, 0, none⟩), .bool true]) x.w :=
    fun x => hlk (((Below.refl w.heap.size w).alloc (Nat.le_refl _) _).trans (x.h.mono (by simp)))
  simp only [encK] at hl1 ⊢
  have H := Lib.hid h
  clear hlk hm hc h
  go_enter Try.func44, Try.ntmps44
  go_wp2_with fail
  refine region_calm (by kernel_rfl) (by kernel_rfl) ?_
  repeat (quiet_step ((fail)))
  refine wpQuiet_nil ?_
  rintro _ ⟨x, rfl⟩
  have hb1 : Below w.heap.size w x.w := Later.chain ((Below.refl w.heap.size w).alloc (Nat.le_refl _) _) x
  have hK1 : ∀ i, i ∈ c :: mb :: (A ++ (k, v, b) :: B).map (·.2.2) → x.w.heap[i]? = w.heap[i]? := fun i hi => hb1.block i (by
    simp only [List.mem_cons, List.mem_map] at hi
    rcases hi with rfl | rfl | ⟨e, he, rfl⟩
    · exact zc
    · exact zm
    · exact seg_lt H.out.seg e he)
  have HL1 := Lib.hid (H.out.upd hK1)
  have HB1 := Lib.hid hb1
  generalize x.w = W1 at *
  clear hl1 hb1 hK1 c1
  go_wp2_with fail
  refine (cut_core c _ _ A B k v b W1 HL1.out.core).mono ?_
  rintro e W2 ⟨rfl, hC, hU⟩
  have hnb := (nodup_mid (by have := HL1.out.core.nd; simp only [List.map_append, List.map_cons] at this; exact this : ((c :: A.map (·.2.2)) ++ b :: B.map (·.2.2)).Nodup)).1
  have hbent := ((seg_append W1 A ((k, v, b) :: B) none none).1 HL1.out.seg).2.1
  have hb2 : W2.heap[b]? = some (.cells (entC k v (at' (lst A none)) (at' (hd B none))) 140 (0, 0)) := by
    rw [hU.block b (lt_of_heap hbent) (by simpa only [List.map_append, List.cons_append] using hnb)]
    exact hbent
  have HC := Lib.hid hC
  have HU := Lib.hid hU
  have HNB := Lib.hid hnb
  have HB2 := Lib.hid hb2
  clear hC hU hnb hbent hb2
  go_wp2_with fail
  refine (use_core c _ _ (A ++ B) k v _ _ b W2 HC.out HB2.out (by simpa only [List.map_append, List.cons_append] using HNB.out)).mono ?_
  rintro e W3 ⟨rfl, hC3, hU3⟩
  have v3 := cell_at hC3.seg.1 2
  simp only [entC, List.getElem?_toArray, List.getElem?_cons_zero, List.getElem?_cons_succ] at v3
  have HC3 := Lib.hid hC3
  have HU3 := Lib.hid hU3
  clear hC3 hU3
  go_wp2
  go_ret2
  refine ⟨rfl, HL1.out.front HC3.out ?_, ?_⟩
  · have hmb := HL1.out.mbc
    simp only [List.map_append, List.map_cons, List.mem_cons, List.mem_append, not_or] at hmb
    rw [HU3.out.block mb (Nat.lt_of_lt_of_le (lt_of_heap HL1.out.map) HU.out.size) (by simp only [List.map_append, List.mem_cons, List.mem_append, not_or]; exact ⟨hmb.1, hmb.2.2.1, hmb.2.1, hmb.2.2.2⟩),
      HU.out.block mb (lt_of_heap HL1.out.map) (by simp only [List.map_append, List.mem_cons, List.mem_append, not_or]; exact ⟨hmb.1, hmb.2.1, hmb.2.2.2⟩)]
  · refine (Upd.of_below HB1.out).trans ((HU.out.mono ?_).trans (HU3.out.mono ?_))
    · intro i _ hi
      simp only [List.map_append, List.map_cons, List.mem_cons, List.mem_append] at hi ⊢
      rcases hi with h | h | h <;> simp [h]
    · intro i _ hi
      simp only [List.map_append, List.map_cons, List.mem_cons, List.mem_append] at hi ⊢
      rcases hi with h | h | h | h <;> simp [h]
end Go.Proofs.Ytgddlcbaieclcaa.LrugetK
