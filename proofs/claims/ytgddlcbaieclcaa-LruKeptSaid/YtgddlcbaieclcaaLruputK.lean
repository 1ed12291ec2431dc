/-
  lru: Put (keys: two numbers).
-/
import Derived.Test.YtgddlcbaieclcaaLrugetK
namespace Go.Proofs.Ytgddlcbaieclcaa.LruputK
open Go Go.RowKit Go.Proofs.Ytgddlcbaieclcaa.Kit Go.Proofs.Ytgddlcbaieclcaa.Maps Go.Proofs.Ytgddlcbaieclcaa.LruK Go.Proofs.Ytgddlcbaieclcaa.LrucoreK Go.Proofs.Ytgddlcbaieclcaa.LrugetK
attribute [local irreducible] wpQuiet

theorem LRU_len {w : World} {c mb most cnt : Nat} {L : List En} {M : List (Ky × Value × Nat)} (h : LRU w c mb most L M cnt) : (ents encK M).size = L.length := by
  have := h.same.length_eq
  simpa [ents] using this

set_option maxRecDepth 100000 in
theorem Put_zero (c mb cnt : Nat) (L : List En) (M : List (Ky × Value × Nat)) (k : Ky) (v : Value) (w : World) (h : LRU w c mb 0 L M cnt) :
    Calls Try.prog 43 #[.pointer (some ⟨c, 0, none⟩), encK k, v] w fun x w' => x = .returned (.tuple #[]) ∧ Below w.heap.size w w' := by
  have hc := h.cache
  have c0 := cell_at hc 0
  have zc := lt_of_heap hc
  simp only [List.getElem?_toArray, List.getElem?_cons_zero] at c0
  simp only [encK]
  clear hc h
  go_enter Try.func43, Try.ntmps43
  go_wp2
  exact bodyPost_ret (v := .tuple #[]) (by simp [results, Try.results43, go_sem]) rfl ⟨rfl, (Below.refl w.heap.size w).alloc (Nat.le_refl _) _⟩

theorem seg_set {w : World} {p q : Option Nat} {A B : List En} {k : Ky} {v v' : Value} {b : Nat} (h : Seg w p (A ++ (k, v, b) :: B) q) (hn : b ∉ (A ++ B).map (·.2.2)) :
    Seg (w.setCell ⟨b, 2, none⟩ v') p (A ++ (k, v', b) :: B) q := by
  obtain ⟨h1, h2, h3⟩ := (seg_append w A ((k, v, b) :: B) p q).1 h
  have hA : ∀ e ∈ A, e.2.2 ≠ b := fun e he hb => hn (by simp only [List.mem_map, List.mem_append]; exact ⟨e, .inl he, hb⟩)
  have hB : ∀ e ∈ B, e.2.2 ≠ b := fun e he hb => hn (by simp only [List.mem_map, List.mem_append]; exact ⟨e, .inr he, hb⟩)
  refine (seg_append _ A ((k, v', b) :: B) p q).2 ⟨seg_upd h1 (fun e he => Below.heap_setCell _ _ _ _ (hA e he)), ?_, seg_upd h3 (fun e he => Below.heap_setCell _ _ _ _ (hB e he))⟩
  rw [heap_set h2]; rfl

set_option maxHeartbeats 1000000 in
set_option maxRecDepth 100000 in
theorem Put_yes (c mb most cnt : Nat) (A B : List En) (M : List (Ky × Value × Nat)) (k : Ky) (v v' : Value) (b : Nat) (w : World) (hv : ∃ n, v' = .int .i64 n) (hmost : most ≠ 0) (h : LRU w c mb most (A ++ (k, v, b) :: B) M cnt) :
    Calls Try.prog 43 #[.pointer (some ⟨c, 0, none⟩), encK k, v'] w fun x w' => x = .returned (.tuple #[]) ∧
      LRU w' c mb most ((k, v', b) :: (A ++ B)) M cnt ∧ Upd (fun i => i ∈ c :: (A ++ (k, v, b) :: B).map (·.2.2)) w w' := by
  obtain ⟨_, _, _, _, hyes, _⟩ := h.look_yes rfl
  have hm := h.map
  have hc := h.cache
  have c0 := cell_at hc 0
  have c1 := cell_at hc 1
  have zc := lt_of_heap hc
  have zm := lt_of_heap hm
  have hmost' : ¬ ((most : Int) = 0) := by omega
  simp only [List.getElem?_toArray, List.getElem?_cons_zero, List.getElem?_cons_succ] at c0 c1
  have hlk : ∀ {W : World}, Below w.heap.size w W → (Instr.lookup 134 (.map (some mb)) (encK k) true).run Try.prog W = .ok (.tuple #[.pointer (some ⟨b, 0, none⟩), .bool true]) W := fun {W} hb => by
    have := run_lookup2 keyLaw Try.underlying134 W mb M cnt k (.pointer none) ((hb.block mb zm).trans hm) (fun W => by kernel_rfl)
    rw [hyes] at this
    exact this
  have hl1 : ∀ x : Later (w.alloc (.cells #[.int .i64 k.1, .int .i64 k.2] 73)), (Instr.lookup 134 (.map (some mb)) (encK k) true).run Try.prog x.w = .ok (.tuple #[.pointer (some ⟨b, 0, none⟩), .bool true]) x.w :=
    fun x => hlk (((Below.refl w.heap.size w).alloc (Nat.le_refl _) _).trans (x.h.mono (by simp)))
  simp only [encK] at hl1 ⊢
  have H := Lib.hid h
  obtain ⟨n, rfl⟩ := hv
  clear hlk hm hc h hmost
  go_enter Try.func43, Try.ntmps43
  go_wp2_with fail
  refine region_calm (by kernel_rfl) (by kernel_rfl) ?_
  repeat (quiet_step ((fail)))
  refine wpQuiet_nil ?_
  rintro _ ⟨x, rfl⟩
  have hb1 : Below w.heap.size w x.w := Later.chain ((Below.refl w.heap.size w).alloc (Nat.le_refl _) _) x
  have hK1 : ∀ i, i ∈ c :: mb :: (A ++ (k, v, b) :: B).map (·.2.2) → x.w.heap[i]? = w.heap[i]? := fun i hi => hb1.block i (by
    simp only [List.mem_cons, List.mem_map] at hi
    rcases hi with rfl | rfl | ⟨e, he, rfl⟩
    · exact zc
    · exact zm
    · exact seg_lt H.out.seg e he)
  have HL1 := Lib.hid (H.out.upd hK1)
  have HB1 := Lib.hid hb1
  generalize x.w = W1 at *
  clear hl1 hb1 hK1 c1 c0
  have hbent := ((seg_append W1 A ((k, v, b) :: B) none none).1 HL1.out.seg).2.1
  have hnb := (nodup_mid (by have := HL1.out.core.nd; simp only [List.map_append, List.map_cons] at this; exact this : ((c :: A.map (·.2.2)) ++ b :: B.map (·.2.2)).Nodup)).1
  have q1 := free_at hbent 2
  have q2 := cell_at hbent 2
  simp only [entC, List.getElem?_toArray, List.getElem?_cons_zero, List.getElem?_cons_succ] at q2
  have HBE := Lib.hid hbent
  have HNB := Lib.hid hnb
  clear hbent hnb
  go_wp2_with fail
  have hC1 : Core (W1.setCell ⟨b, 2, none⟩ (.int .i64 n)) c (.int .i64 most) (.map (some mb)) (A ++ (k, (.int .i64 n), b) :: B) := by
    have h0 := HL1.out.core
    refine ⟨?_, seg_set h0.seg ?_, by simpa using h0.nd⟩
    · have := HNB.out
      simp only [List.cons_append, List.mem_cons, not_or] at this
      rw [Below.heap_setCell _ _ _ _ (fun e : c = b => this.1 e.symm), h0.cache]
      simp only [hd_mid, lst_mid]
    · have := HNB.out
      simp only [List.cons_append, List.mem_cons, not_or] at this
      simpa using this.2
  refine (cut_core c _ _ A B k (.int .i64 n) b _ hC1).mono ?_
  rintro e W2 ⟨rfl, hC, hU⟩
  have hb2 : W2.heap[b]? = some (.cells (entC k (.int .i64 n) (at' (lst A none)) (at' (hd B none))) 140 (0, 0)) := by
    rw [hU.block b (by rw [World.size_setCell]; exact lt_of_heap HBE.out) (by simpa only [List.map_append, List.cons_append] using HNB.out), heap_set HBE.out]
    rfl
  have HC := Lib.hid hC
  have HU := Lib.hid (((Upd.refl _ _).setCell (fun _ => List.mem_cons_self) _).trans (hU.mono (fun i _ hi => List.mem_cons_of_mem b hi)) : Upd (fun i => i ∈ b :: c :: (A ++ B).map (·.2.2)) W1 W2)
  have HB2 := Lib.hid hb2
  clear hC hU hb2 hC1 q1 q2
  go_wp2_with fail
  refine (use_core c _ _ (A ++ B) k (.int .i64 n) _ _ b W2 HC.out HB2.out (by simpa only [List.map_append, List.cons_append] using HNB.out)).mono ?_
  rintro e W3 ⟨rfl, hC3, hU3⟩
  have HC3 := Lib.hid hC3
  have HU3 := Lib.hid hU3
  clear hC3 hU3
  go_wp2
  refine bodyPost_ret (v := .tuple #[]) (by simp [results, Try.results43, go_sem]) rfl ⟨rfl, HL1.out.front HC3.out ?_, ?_⟩
  · have hmb := HL1.out.mbc
    simp only [List.map_append, List.map_cons, List.mem_cons, List.mem_append, not_or] at hmb
    rw [HU3.out.block mb (Nat.lt_of_lt_of_le (lt_of_heap HL1.out.map) HU.out.size) (by simp only [List.map_append, List.mem_cons, List.mem_append, not_or]; exact ⟨hmb.1, hmb.2.2.1, hmb.2.1, hmb.2.2.2⟩),
      HU.out.block mb (lt_of_heap HL1.out.map) (by simp only [List.map_append, List.mem_cons, List.mem_append, not_or]; exact ⟨hmb.2.2.1, hmb.1, hmb.2.1, hmb.2.2.2⟩)]
  · refine (Upd.of_below HB1.out).trans ((HU.out.mono ?_).trans (HU3.out.mono ?_))
    · intro i _ hi
      simp only [List.map_append, List.map_cons, List.mem_cons, List.mem_append] at hi ⊢
      rcases hi with h | h | h | h <;> simp [h]
    · intro i _ hi
      simp only [List.map_append, List.map_cons, List.mem_cons, List.mem_append] at hi ⊢
      rcases hi with h | h | h | h <;> simp [h]

theorem upd_trans {S S' : Nat → Prop} {a b c : World} (h : Upd S a b) (k : Upd S' b c) (hs : ∀ i, i < a.heap.size → S' i → S i) : Upd S a c :=
  ⟨k.os.trans h.os, k.tape.trans h.tape, k.output.trans h.output, Nat.le_trans h.size k.size, fun i hi hn => (k.block i (Nat.lt_of_lt_of_le hi h.size) (fun h' => hn (hs i hi h'))).trans (h.block i hi hn)⟩

/-- A world with another object at a place. -/
def putM (w : World) (b : Nat) (o : Obj) : World := { w with heap := w.heap.setIfInBounds b o }
theorem putM_at {w : World} {b : Nat} (o : Obj) (h : b < w.heap.size) : (putM w b o).heap[b]? = some o := by simp [putM, h]
theorem putM_ne {w : World} {b k : Nat} (o : Obj) (h : k ≠ b) : (putM w b o).heap[k]? = w.heap[k]? := by
  show (w.heap.setIfInBounds b o)[k]? = _
  rw [Array.getElem?_setIfInBounds]
  simp [Ne.symm h]
theorem putM_size (w : World) (b : Nat) (o : Obj) : (putM w b o).heap.size = w.heap.size := by simp [putM]
theorem putM_upd (w : World) (b : Nat) (o : Obj) : Upd (fun i => i = b) w (putM w b o) := ⟨rfl, rfl, rfl, by rw [putM_size]; exact Nat.le_refl _, fun k _ hk => putM_ne o hk⟩

/-- A new entry, and its key in the map. -/
theorem LRU_fresh {w w' : World} {c mb most cnt : Nat} {L : List En} {k : Ky} {v : Value} {b : Nat} {M : List (Ky × Value × Nat)} (h : LRU w c mb most L M cnt) (hk : k ∉ L.map (·.1)) (hb : b ∉ c :: mb :: L.map (·.2.2))
    (hC : Core w' c (.int .i64 most) (.map (some mb)) ((k, v, b) :: L)) (hm : w'.heap[mb]? = some (.map (ents encK (M ++ [(k, at' (some b), cnt)])) (cnt + 1))) :
    LRU w' c mb most ((k, v, b) :: L) (M ++ [(k, at' (some b), cnt)]) (cnt + 1) := by
  refine ⟨hC.cache, hm, hC.seg, ?_, ?_, ?_⟩
  · have h1 : (b :: c :: mb :: L.map (·.2.2)).Nodup := List.nodup_cons.2 ⟨hb, h.nd⟩
    have hp : (b :: c :: mb :: L.map (·.2.2)).Perm (c :: mb :: b :: L.map (·.2.2)) := (List.Perm.swap c b _).trans ((List.Perm.swap mb b _).cons c)
    exact hp.nodup_iff.1 h1
  · exact List.nodup_cons.2 ⟨hk, h.keys⟩
  · rw [List.map_append]
    exact List.perm_append_comm.trans (h.same.cons (k, at' (some b)))

set_option maxHeartbeats 2000000 in
set_option maxRecDepth 100000 in
theorem Put_new (c mb most cnt : Nat) (L : List En) (M : List (Ky × Value × Nat)) (k : Ky) (v' : Value) (w : World) (hv : ∃ n, v' = .int .i64 n) (hmost : L.length < most) (hk : k ∉ L.map (·.1)) (h : LRU w c mb most L M cnt) :
    Calls Try.prog 43 #[.pointer (some ⟨c, 0, none⟩), encK k, v'] w fun x w' => x = .returned (.tuple #[]) ∧
      ∃ b M', LRU w' c mb most ((k, v', b) :: L) M' (cnt + 1) ∧ w.heap.size ≤ b ∧ Upd (fun i => i ∈ c :: mb :: L.map (·.2.2)) w w' := by
  have hno := h.look_no hk
  have hlen := LRU_len h
  have hm := h.map
  have hc := h.cache
  have c0 := cell_at hc 0
  have c1 := cell_at hc 1
  have zc := lt_of_heap hc
  have zm := lt_of_heap hm
  have hmost' : ¬ ((most : Int) = 0) := by omega
  simp only [List.getElem?_toArray, List.getElem?_cons_zero, List.getElem?_cons_succ] at c0 c1
  have hlk : ∀ {W : World}, Below w.heap.size w W → (Instr.lookup 134 (.map (some mb)) (encK k) true).run Try.prog W = .ok (.tuple #[.pointer none, .bool false]) W := fun {W} hb => by
    have := run_lookup2 keyLaw Try.underlying134 W mb M cnt k (.pointer none) ((hb.block mb zm).trans hm) (fun W => by kernel_rfl)
    rw [hno] at this
    exact this
  have hl1 : ∀ x : Later (w.alloc (.cells #[.int .i64 k.1, .int .i64 k.2] 73)), (Instr.lookup 134 (.map (some mb)) (encK k) true).run Try.prog x.w = .ok (.tuple #[.pointer none, .bool false]) x.w :=
    fun x => hlk (((Below.refl w.heap.size w).alloc (Nat.le_refl _) _).trans (x.h.mono (by simp)))
  simp only [encK] at hl1 ⊢
  have H := Lib.hid h
  have HLEN := Lib.hid hlen
  have hbox := alloc_new (w := w) (o := .cells #[.int .i64 k.1, .int .i64 k.2] 73) rfl
  have HBOX := Lib.hid hbox
  obtain ⟨n, rfl⟩ := hv
  clear hlk hm hc h hlen hbox
  go_enter Try.func43, Try.ntmps43
  go_wp2_with fail
  refine region_calm (by kernel_rfl) (by kernel_rfl) ?_
  repeat (quiet_step ((fail)))
  refine wpQuiet_nil ?_
  rintro _ ⟨x, rfl⟩
  have hb1 : Below w.heap.size w x.w := Later.chain ((Below.refl w.heap.size w).alloc (Nat.le_refl _) _) x
  have hK1 : ∀ i, i ∈ c :: mb :: L.map (·.2.2) → x.w.heap[i]? = w.heap[i]? := fun i hi => hb1.block i (by
    simp only [List.mem_cons, List.mem_map] at hi
    rcases hi with rfl | rfl | ⟨e, he, rfl⟩
    · exact zc
    · exact zm
    · exact seg_lt H.out.seg e he)
  have HX1 := Lib.hid ((x.h.block w.heap.size (by simp)).trans HBOX.out)
  have HL1 := Lib.hid (H.out.upd hK1)
  have HB1 := Lib.hid hb1
  generalize x.w = W1 at *
  clear hl1 hb1 hK1 c1 c0
  have c1 := cell_at HL1.out.cache 1
  have c0 := cell_at HL1.out.cache 0
  simp only [List.getElem?_toArray, List.getElem?_cons_zero, List.getElem?_cons_succ] at c0 c1
  have hml : ∀ x : Later W1, (Builtin.len_ #[134] 3 #[.map (some mb)]).run Try.prog x.w = .ok (.int .i64 L.length) x.w := fun x => by
    rw [run_len_map x.w _ _ mb _ cnt (by kernel_rfl) ((x.heap (lt_of_heap HL1.out.map)).trans HL1.out.map), HLEN.out]
    rfl
  have zc1 := lt_of_heap HL1.out.cache
  go_wp2_with fail
  refine region_calm (by kernel_rfl) (by kernel_rfl) ?_
  repeat (quiet_step ((fail)))
  refine wpQuiet_nil ?_
  rintro _ ⟨x1, rfl⟩
  have hne : ((L.length : Int) == (most : Int)) = false := by simp; omega
  have hb2 : Below W1.heap.size W1 x1.w := x1.h
  have HX2 := Lib.hid ((hb2.block w.heap.size (lt_of_heap HX1.out)).trans HX1.out)
  have HL2 := Lib.hid (HL1.out.upd (fun i hi => hb2.block i (by
    simp only [List.mem_cons, List.mem_map] at hi
    rcases hi with rfl | rfl | ⟨e, he, rfl⟩
    · exact zc1
    · exact lt_of_heap HL1.out.map
    · exact seg_lt HL1.out.seg e he)))
  have HB2 := Lib.hid (chain HB1.out hb2)
  generalize x1.w = W2 at *
  clear hml hb2 c0 c1 zc1 
  have HUW := Lib.hid (Upd.of_below HB2.out : Upd (fun i => i ∈ c :: mb :: L.map (·.2.2)) w W2)
  have HKL := Lib.hid hk
  have HNO := Lib.hid hno
  clear hno hk
  have zx := lt_of_heap HX2.out
  have b0 := cell_at HX2.out 0
  have b1 := cell_at HX2.out 1
  simp only [List.getElem?_toArray, List.getElem?_cons_zero, List.getElem?_cons_succ] at b0 b1
  go_wp2_with fail
  generalize hW3 : World.alloc _ _ = W3
  have hU3 : Below W2.heap.size W2 W3 := by rw [← hW3]; exact (Below.refl _ _).alloc (Nat.le_refl _) _
  have hE3 : W3.heap[W2.heap.size]? = some (.cells (entC k (.int .i64 n) (at' none) (at' none)) 140 (0, 0)) := by rw [← hW3]; exact alloc_new rfl
  have HX3 := Lib.hid ((hU3.block w.heap.size zx).trans HX2.out)
  have HL3 := Lib.hid (HL2.out.upd (fun i hi => hU3.block i (by
    simp only [List.mem_cons, List.mem_map] at hi
    rcases hi with rfl | rfl | ⟨e, he, rfl⟩
    · exact lt_of_heap HL2.out.cache
    · exact lt_of_heap HL2.out.map
    · exact seg_lt HL2.out.seg e he)))
  have HB3 := Lib.hid (HUW.out.later hU3)
  have HE3 := Lib.hid hE3
  have hnew : W2.heap.size ∉ c :: mb :: L.map (·.2.2) := by
    intro hi
    simp only [List.mem_cons, List.mem_map] at hi
    rcases hi with hi | hi | ⟨e, he, hi⟩
    · have := lt_of_heap HL2.out.cache; omega
    · have := lt_of_heap HL2.out.map; omega
    · have := seg_lt HL2.out.seg e he; omega
  have HNEW := Lib.hid hnew
  have HSZ := Lib.hid (Nat.le_trans HUW.out.size (Nat.le_refl _))
  clear hW3 hU3 hE3 hnew b0 b1
  have c1 := cell_at HL3.out.cache 1
  simp only [List.getElem?_toArray, List.getElem?_cons_zero, List.getElem?_cons_succ] at c1
  have zc3 := lt_of_heap HL3.out.cache
  have zx := lt_of_heap HX3.out
  have b0 := cell_at HX3.out 0
  have b1 := cell_at HX3.out 1
  simp only [List.getElem?_toArray, List.getElem?_cons_zero, List.getElem?_cons_succ] at b0 b1
  obtain ⟨nb, hnb⟩ : ∃ nb, nb = W2.heap.size := ⟨_, rfl⟩
  rw [← hnb] at HE3 HNEW HSZ ⊢
  have HNBB := Lib.hid hnb
  clear hnb
  have hup := run_update_new keyLaw Try.underlying134 W3.drew mb M cnt k (at' (some nb)) HL3.out.map HNO.out
  rw [show ({ W3.drew with heap := W3.drew.heap.setIfInBounds mb (.map (ents encK (M ++ [(k, at' (some nb), cnt)])) (cnt + 1)) } : World) = putM W3.drew mb (.map (ents encK (M ++ [(k, at' (some nb), cnt)])) (cnt + 1)) from rfl] at hup
  simp only [encK, at'] at hup
  go_wp2_with fail
  refine region_tail 6 (by kernel_rfl) (by kernel_rfl) ?_
  simp only [List.take_succ_cons, List.take_zero, List.drop_succ_cons, List.drop_zero]
  repeat (first | still_step)
  refine wpStill_nil ?_
  go_wp2_with fail
  generalize hW4 : putM _ _ _ = W4
  have hU4 : Upd (fun i => i = mb) W3 W4 := by rw [← hW4]; exact (Upd.refl _ W3).drew.trans (putM_upd _ _ _)
  have hM4 : W4.heap[mb]? = some (.map (ents encK (M ++ [(k, at' (some nb), cnt)])) (cnt + 1)) := by rw [← hW4]; exact putM_at _ (lt_of_heap HL3.out.map)
  have hmbc := HL3.out.mbc
  have hC4 : Core W4 c (.int .i64 most) (.map (some mb)) L := HL3.out.core.upd (fun i hi => hU4.block i (by
    simp only [List.mem_cons, List.mem_map] at hi
    rcases hi with rfl | ⟨e, he, rfl⟩
    · exact lt_of_heap HL3.out.cache
    · exact seg_lt HL3.out.seg e he) (fun e => hmbc (e ▸ hi)))
  have hnbm : nb ≠ mb := fun e => HNEW.out (by simp [e])
  have hE4 : W4.heap[nb]? = some (.cells (entC k (.int .i64 n) (at' none) (at' none)) 140 (0, 0)) := (hU4.block nb (lt_of_heap HE3.out) hnbm).trans HE3.out
  have HC4 := Lib.hid hC4
  have HE4 := Lib.hid hE4
  have HM4 := Lib.hid hM4
  have HU4 := Lib.hid hU4
  have HMBC := Lib.hid hmbc
  have HNBM := Lib.hid hnbm
  clear hW4 hU4 hM4 hmbc hC4 hnbm hE4 hup c1 zc3 zx b0 b1
  refine (use_core c _ _ L k (.int .i64 n) _ _ nb W4 HC4.out HE4.out (fun hi => HNEW.out (by simp only [List.mem_cons] at hi ⊢; rcases hi with h | h <;> simp [h]))).mono ?_
  rintro e W5 ⟨rfl, hC5, hU5⟩
  have HC5 := Lib.hid hC5
  have HU5 := Lib.hid hU5
  clear hC5 hU5
  go_wp2
  go_end0
  refine ⟨rfl, nb, _, LRU_fresh HL3.out HKL.out HNEW.out HC5.out ?_, HSZ.out, ?_⟩
  · have h1 := HMBC.out
    simp only [List.mem_cons, not_or] at h1
    rw [HU5.out.block mb (lt_of_heap HM4.out) (by simp only [List.mem_cons, not_or]; exact ⟨h1.1, fun e => HNBM.out e.symm, h1.2⟩)]
    exact HM4.out
  · refine upd_trans (HB3.out.trans (HU4.out.mono ?_)) HU5.out ?_
    · intro i _ hi
      simp [hi]
    · intro i hlt hi
      simp only [List.mem_cons] at hi ⊢
      rcases hi with h | h | h
      · simp [h]
      · have := HSZ.out; omega
      · simp [h]
theorem LRU_drop {w w' : World} {c mb most cnt : Nat} {L LL : List En} {k : Ky} {v : Value} {b : Nat} {M C D : List (Ky × Value × Nat)} {e : Ky × Value × Nat} (h : LRU w c mb most L M cnt) (hL : L = LL ++ [(k, v, b)])
    (hM : M = C ++ e :: D) (he1 : e.1 = k) (he2 : e.2.1 = at' (some b)) (hC : Core w' c (.int .i64 most) (.map (some mb)) LL) (hm : w'.heap[mb]? = some (.map (ents encK (C ++ D)) cnt)) : LRU w' c mb most LL (C ++ D) cnt := by
  subst hL hM
  refine ⟨hC.cache, hm, hC.seg, ?_, ?_, ?_⟩
  · refine h.nd.sublist ?_
    rw [List.map_append]
    exact ((List.sublist_append_left _ _).cons_cons mb).cons_cons c
  · refine h.keys.sublist ?_
    rw [List.map_append]
    exact List.sublist_append_left _ _
  · have hs := h.same
    rw [List.map_append, List.map_cons, List.map_append, List.map_cons, List.map_nil, he1, he2] at hs
    have h2 := List.perm_middle.symm.trans (hs.trans List.perm_append_comm)
    rw [List.map_append]
    exact h2.cons_inv

set_option maxHeartbeats 4000000 in
set_option maxRecDepth 100000 in
theorem Put_full (c mb most cnt : Nat) (LL : List En) (ko : Ky) (vo : Value) (bo : Nat) (L : List En) (hL : L = LL ++ [(ko, vo, bo)]) (M : List (Ky × Value × Nat)) (k : Ky) (v' : Value) (w : World) (hv : ∃ n, v' = .int .i64 n) (hmost : L.length = most) (hk : k ∉ L.map (·.1)) (h : LRU w c mb most L M cnt) :
    Calls Try.prog 43 #[.pointer (some ⟨c, 0, none⟩), encK k, v'] w fun x w' => x = .returned (.tuple #[]) ∧
      ∃ b M', LRU w' c mb most ((k, v', b) :: LL) M' (cnt + 1) ∧ w.heap.size ≤ b ∧ Upd (fun i => i ∈ c :: mb :: L.map (·.2.2)) w w' := by
  have hno := h.look_no hk
  have hlen := LRU_len h
  have hm := h.map
  have hc := h.cache
  have c0 := cell_at hc 0
  have c1 := cell_at hc 1
  have zc := lt_of_heap hc
  have zm := lt_of_heap hm
  have hmost' : ¬ ((most : Int) = 0) := by rw [← hmost, hL]; simp; omega
  simp only [List.getElem?_toArray, List.getElem?_cons_zero, List.getElem?_cons_succ] at c0 c1
  have hlk : ∀ {W : World}, Below w.heap.size w W → (Instr.lookup 134 (.map (some mb)) (encK k) true).run Try.prog W = .ok (.tuple #[.pointer none, .bool false]) W := fun {W} hb => by
    have := run_lookup2 keyLaw Try.underlying134 W mb M cnt k (.pointer none) ((hb.block mb zm).trans hm) (fun W => by kernel_rfl)
    rw [hno] at this
    exact this
  have hl1 : ∀ x : Later (w.alloc (.cells #[.int .i64 k.1, .int .i64 k.2] 73)), (Instr.lookup 134 (.map (some mb)) (encK k) true).run Try.prog x.w = .ok (.tuple #[.pointer none, .bool false]) x.w :=
    fun x => hlk (((Below.refl w.heap.size w).alloc (Nat.le_refl _) _).trans (x.h.mono (by simp)))
  simp only [encK] at hl1 ⊢
  have H := Lib.hid h
  have HLEN := Lib.hid hlen
  have hbox := alloc_new (w := w) (o := .cells #[.int .i64 k.1, .int .i64 k.2] 73) rfl
  have HBOX := Lib.hid hbox
  obtain ⟨n, rfl⟩ := hv
  have HLL := Lib.hid hL
  have HMOST := Lib.hid hmost
  have HK := Lib.hid hk
  have HNO := Lib.hid hno
  clear hlk hm hc h hlen hbox hL hmost hk hno
  go_enter Try.func43, Try.ntmps43
  go_wp2_with fail
  refine region_calm (by kernel_rfl) (by kernel_rfl) ?_
  repeat (quiet_step ((fail)))
  refine wpQuiet_nil ?_
  rintro _ ⟨x, rfl⟩
  have hb1 : Below w.heap.size w x.w := Later.chain ((Below.refl w.heap.size w).alloc (Nat.le_refl _) _) x
  have hK1 : ∀ i, i ∈ c :: mb :: L.map (·.2.2) → x.w.heap[i]? = w.heap[i]? := fun i hi => hb1.block i (by
    simp only [List.mem_cons, List.mem_map] at hi
    rcases hi with rfl | rfl | ⟨e, he, rfl⟩
    · exact zc
    · exact zm
    · exact seg_lt H.out.seg e he)
  have HX1 := Lib.hid ((x.h.block w.heap.size (by simp)).trans HBOX.out)
  have HL1 := Lib.hid (H.out.upd hK1)
  have HB1 := Lib.hid hb1
  generalize x.w = W1 at *
  clear hl1 hb1 hK1 c1 c0
  have c1 := cell_at HL1.out.cache 1
  have c0 := cell_at HL1.out.cache 0
  simp only [List.getElem?_toArray, List.getElem?_cons_zero, List.getElem?_cons_succ] at c0 c1
  have hml : ∀ x : Later W1, (Builtin.len_ #[134] 3 #[.map (some mb)]).run Try.prog x.w = .ok (.int .i64 L.length) x.w := fun x => by
    rw [run_len_map x.w _ _ mb _ cnt (by kernel_rfl) ((x.heap (lt_of_heap HL1.out.map)).trans HL1.out.map), HLEN.out]
    rfl
  have zc1 := lt_of_heap HL1.out.cache
  go_wp2_with fail
  refine region_calm (by kernel_rfl) (by kernel_rfl) ?_
  repeat (quiet_step ((fail)))
  refine wpQuiet_nil ?_
  rintro _ ⟨x1, rfl⟩
  have hne : ((L.length : Int) == (most : Int)) = true := by have := HMOST.out; simp; omega
  have hb2 : Below W1.heap.size W1 x1.w := x1.h
  have HX2 := Lib.hid ((hb2.block w.heap.size (lt_of_heap HX1.out)).trans HX1.out)
  have HL2 := Lib.hid (HL1.out.upd (fun i hi => hb2.block i (by
    simp only [List.mem_cons, List.mem_map] at hi
    rcases hi with rfl | rfl | ⟨e, he, rfl⟩
    · exact zc1
    · exact lt_of_heap HL1.out.map
    · exact seg_lt HL1.out.seg e he)))
  have HB2 := Lib.hid (chain HB1.out hb2)
  generalize x1.w = W2 at *
  clear hml hb2 c0 c1 zc1 
  have c3 := cell_at HL2.out.cache 3
  simp only [List.getElem?_toArray, List.getElem?_cons_zero, List.getElem?_cons_succ] at c3
  rw [HLL.out, lst_mid] at c3
  simp only [lst, at'] at c3
  have hco := HL2.out.core
  rw [HLL.out] at hco
  have HCO := Lib.hid hco
  clear hco
  go_wp2_with fail
  refine (cut_core c _ _ LL [] ko vo bo W2 HCO.out).mono ?_
  rintro e W6 ⟨rfl, hC6, hU6⟩
  simp only [List.append_nil] at hC6 hU6
  have hnd := HCO.out.nd
  have hbent := ((seg_append W2 LL [(ko, vo, bo)] none none).1 HCO.out.seg).2.1
  have hbo : bo ∉ c :: LL.map (·.2.2) := by
    have := (nodup_mid (by have := hnd; simp only [List.map_append, List.map_cons, List.map_nil] at this; exact this : ((c :: LL.map (·.2.2)) ++ bo :: []).Nodup)).1
    simpa using this
  have hbent6 := (hU6.block bo (lt_of_heap hbent) hbo).trans hbent
  have hmb : mb ∉ c :: LL.map (·.2.2) := fun hi => HL2.out.mbc (by rw [HLL.out]; simp only [List.map_append, List.mem_cons, List.mem_append] at hi ⊢; rcases hi with h | h <;> simp [h])
  have hm6 := (hU6.block mb (lt_of_heap HL2.out.map) hmb).trans HL2.out.map
  have hx6 := (hU6.block w.heap.size (lt_of_heap HX2.out) (fun hi => by
    simp only [List.mem_cons, List.mem_map] at hi
    rcases hi with hi | ⟨e, he, hi⟩
    · omega
    · have := seg_lt H.out.seg e (by rw [HLL.out]; simp [he])
      omega)).trans HX2.out
  obtain ⟨C, e0, D, hM, hlk, he1, he2⟩ := HL2.out.look_yes (A := LL) (B := []) (k := ko) (v := vo) (b := bo) HLL.out
  have hdel := run_delete keyLaw Try.underlying134 W6.drew mb M cnt ko 73 0 hm6 _ _ hlk
  have hMe : M.eraseIdx C.length = C ++ D := by rw [hM]; simp [List.eraseIdx_append_of_length_le]
  rw [hMe, show ({ W6.drew with heap := W6.drew.heap.setIfInBounds mb (.map (ents encK (C ++ D)) cnt) } : World) = putM W6.drew mb (.map (ents encK (C ++ D)) cnt) from rfl] at hdel
  simp only [encK] at hdel
  have HLF := Lib.hid (fun (W : World) hC hm => LRU_drop HL2.out HLL.out hM he1 he2 (w' := W) hC hm)
  have HC6 := Lib.hid hC6
  have HU6 := Lib.hid hU6
  have HM6 := Lib.hid hm6
  have HX6 := Lib.hid hx6
  have HMB := Lib.hid hmb
  have g1 := cell_at HC6.out.cache 1
  have d0 := cell_at hbent6 0
  have d1 := cell_at hbent6 1
  simp only [entC, List.getElem?_toArray, List.getElem?_cons_zero, List.getElem?_cons_succ] at g1 d0 d1
  have zg := lt_of_heap HC6.out.cache
  have zb := lt_of_heap hbent6
  clear hC6 hU6 hnd hbent hbo hbent6 hmb hm6 hx6 hM hlk he1 he2 hMe c3
  obtain ⟨W7, hW7⟩ : ∃ W7, putM W6.drew mb (.map (ents encK (C ++ D)) cnt) = W7 := ⟨_, rfl⟩
  rw [hW7] at hdel
  have hU7 : Upd (fun i => i = mb) W6 W7 := by rw [← hW7]; exact (Upd.refl _ W6).drew.trans (putM_upd _ _ _)
  have hM7 : W7.heap[mb]? = some (.map (ents encK (C ++ D)) cnt) := by rw [← hW7]; exact putM_at _ (lt_of_heap HM6.out)
  have hC7 : Core W7 c (.int .i64 most) (.map (some mb)) LL := HC6.out.upd (fun i hi => hU7.block i (by
    simp only [List.mem_cons, List.mem_map] at hi
    rcases hi with rfl | ⟨e, he, rfl⟩
    · exact zg
    · exact seg_lt HC6.out.seg e he) (fun e => HMB.out (e ▸ hi)))
  have HL7 := Lib.hid (HLF.out W7 hC7 hM7)
  have HX7 := Lib.hid ((hU7.block w.heap.size (lt_of_heap HX6.out) (by omega)).trans HX6.out)
  have HKL := Lib.hid (fun h => HK.out (by rw [HLL.out]; simp only [List.map_append, List.mem_append]; exact .inl h) : k ∉ LL.map (·.1))
  have HNO := Lib.hid (HL7.out.look_no HKL.out)
  have HSUB := Lib.hid (fun i (h : i ∈ LL.map (·.2.2)) => (by rw [HLL.out]; simp only [List.map_append, List.mem_append]; exact .inl h : i ∈ L.map (·.2.2)))
  have HUW := Lib.hid ((Upd.of_below HB2.out : Upd (fun i => i ∈ c :: mb :: L.map (·.2.2)) w W2).trans ((HU6.out.mono (fun i _ hi => by
      simp only [List.mem_cons] at hi ⊢
      rcases hi with h | h
      · exact .inl h
      · exact .inr (.inr (HSUB.out i h)))).trans (hU7.mono (fun i _ hi => by simp [hi]))))
  clear hW7 hU7 hM7 hC7
  have zx := lt_of_heap HX7.out
  have b0 := cell_at HX7.out 0
  have b1 := cell_at HX7.out 1
  simp only [List.getElem?_toArray, List.getElem?_cons_zero, List.getElem?_cons_succ] at b0 b1
  go_wp2_with fail
  refine region_tail 8 (by kernel_rfl) (by kernel_rfl) ?_
  simp only [List.take_succ_cons, List.take_zero, List.drop_succ_cons, List.drop_zero]
  repeat (first | still_step)
  refine wpStill_nil ?_
  go_wp2_with fail
  clear hdel g1 d0 d1 zg zb
  generalize hW3 : World.alloc _ _ = W3
  have hU3 : Below W7.heap.size W7 W3 := by rw [← hW3]; exact (Below.refl _ _).alloc (Nat.le_refl _) _
  have hE3 : W3.heap[W7.heap.size]? = some (.cells (entC k (.int .i64 n) (at' none) (at' none)) 140 (0, 0)) := by rw [← hW3]; exact alloc_new rfl
  have HX3 := Lib.hid ((hU3.block w.heap.size zx).trans HX7.out)
  have HL3 := Lib.hid (HL7.out.upd (fun i hi => hU3.block i (by
    simp only [List.mem_cons, List.mem_map] at hi
    rcases hi with rfl | rfl | ⟨e, he, rfl⟩
    · exact lt_of_heap HL7.out.cache
    · exact lt_of_heap HL7.out.map
    · exact seg_lt HL7.out.seg e he)))
  have HB3 := Lib.hid (HUW.out.later hU3)
  have HE3 := Lib.hid hE3
  have hnew : W7.heap.size ∉ c :: mb :: LL.map (·.2.2) := by
    intro hi
    simp only [List.mem_cons, List.mem_map] at hi
    rcases hi with hi | hi | ⟨e, he, hi⟩
    · have := lt_of_heap HL7.out.cache; omega
    · have := lt_of_heap HL7.out.map; omega
    · have := seg_lt HL7.out.seg e he; omega
  have HNEW := Lib.hid hnew
  have HSZ := Lib.hid (Nat.le_trans HUW.out.size (Nat.le_refl _))
  clear hW3 hU3 hE3 hnew b0 b1
  have c1 := cell_at HL3.out.cache 1
  simp only [List.getElem?_toArray, List.getElem?_cons_zero, List.getElem?_cons_succ] at c1
  have zc3 := lt_of_heap HL3.out.cache
  have zx := lt_of_heap HX3.out
  have b0 := cell_at HX3.out 0
  have b1 := cell_at HX3.out 1
  simp only [List.getElem?_toArray, List.getElem?_cons_zero, List.getElem?_cons_succ] at b0 b1
  obtain ⟨nb, hnb⟩ : ∃ nb, nb = W7.heap.size := ⟨_, rfl⟩
  rw [← hnb] at HE3 HNEW HSZ ⊢
  have HNBB := Lib.hid hnb
  clear hnb
  have hup := run_update_new keyLaw Try.underlying134 W3.drew mb (C ++ D) cnt k (at' (some nb)) HL3.out.map HNO.out
  rw [show ({ W3.drew with heap := W3.drew.heap.setIfInBounds mb (.map (ents encK ((C ++ D) ++ [(k, at' (some nb), cnt)])) (cnt + 1)) } : World) = putM W3.drew mb (.map (ents encK ((C ++ D) ++ [(k, at' (some nb), cnt)])) (cnt + 1)) from rfl] at hup
  simp only [encK, at'] at hup
  go_wp2_with fail
  refine region_tail 6 (by kernel_rfl) (by kernel_rfl) ?_
  simp only [List.take_succ_cons, List.take_zero, List.drop_succ_cons, List.drop_zero]
  repeat (first | still_step)
  refine wpStill_nil ?_
  go_wp2_with fail
  generalize hW4 : putM _ _ _ = W4
  have hU4 : Upd (fun i => i = mb) W3 W4 := by rw [← hW4]; exact (Upd.refl _ W3).drew.trans (putM_upd _ _ _)
  have hM4 : W4.heap[mb]? = some (.map (ents encK ((C ++ D) ++ [(k, at' (some nb), cnt)])) (cnt + 1)) := by rw [← hW4, List.append_assoc]; exact putM_at _ (lt_of_heap HL3.out.map)
  have hmbc := HL3.out.mbc
  have hC4 : Core W4 c (.int .i64 most) (.map (some mb)) LL := HL3.out.core.upd (fun i hi => hU4.block i (by
    simp only [List.mem_cons, List.mem_map] at hi
    rcases hi with rfl | ⟨e, he, rfl⟩
    · exact lt_of_heap HL3.out.cache
    · exact seg_lt HL3.out.seg e he) (fun e => hmbc (e ▸ hi)))
  have hnbm : nb ≠ mb := fun e => HNEW.out (by simp [e])
  have hE4 : W4.heap[nb]? = some (.cells (entC k (.int .i64 n) (at' none) (at' none)) 140 (0, 0)) := (hU4.block nb (lt_of_heap HE3.out) hnbm).trans HE3.out
  have HC4 := Lib.hid hC4
  have HE4 := Lib.hid hE4
  have HM4 := Lib.hid hM4
  have HU4 := Lib.hid hU4
  have HMBC := Lib.hid hmbc
  have HNBM := Lib.hid hnbm
  clear hW4 hU4 hM4 hmbc hC4 hnbm hE4 hup c1 zc3 zx b0 b1
  refine (use_core c _ _ LL k (.int .i64 n) _ _ nb W4 HC4.out HE4.out (fun hi => HNEW.out (by simp only [List.mem_cons] at hi ⊢; rcases hi with h | h <;> simp [h]))).mono ?_
  rintro e W5 ⟨rfl, hC5, hU5⟩
  have HC5 := Lib.hid hC5
  have HU5 := Lib.hid hU5
  clear hC5 hU5
  go_wp2
  go_end0
  refine ⟨rfl, nb, _, LRU_fresh HL3.out HKL.out HNEW.out HC5.out ?_, HSZ.out, ?_⟩
  · have h1 := HMBC.out
    simp only [List.mem_cons, not_or] at h1
    rw [HU5.out.block mb (lt_of_heap HM4.out) (by simp only [List.mem_cons, not_or]; exact ⟨h1.1, fun e => HNBM.out e.symm, h1.2⟩)]
    exact HM4.out
  · refine upd_trans (HB3.out.trans (HU4.out.mono ?_)) HU5.out ?_
    · intro i _ hi
      simp [hi]
    · intro i hlt hi
      simp only [List.mem_cons] at hi ⊢
      rcases hi with h | h | h
      · simp [h]
      · have := HSZ.out; omega
      · exact .inr (.inr (HSUB.out i h))
end Go.Proofs.Ytgddlcbaieclcaa.LruputK
