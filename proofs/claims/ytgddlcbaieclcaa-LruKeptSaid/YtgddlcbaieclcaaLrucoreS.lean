/-
  lru: what cut and use do to the chain (keys: texts).
-/
import Derived.Test.YtgddlcbaieclcaaLruS
namespace Go.Proofs.Ytgddlcbaieclcaa.LrucoreS
open Go Go.RowKit Go.Proofs.Ytgddlcbaieclcaa.Kit Go.Proofs.Ytgddlcbaieclcaa.Maps Go.Proofs.Ytgddlcbaieclcaa.LruS

theorem hd_append (A B : List En) (q : Option Nat) : hd (A ++ B) q = hd A (hd B q) := by cases A <;> rfl
theorem lst_append (A B : List En) (p : Option Nat) : lst (A ++ B) p = lst B (lst A p) := by
  induction A generalizing p with
  | nil => rfl
  | cons a A ih => exact ih _

/-- The cache's block, and the chain. -/
structure Core (w : World) (c : Nat) (most mp : Value) (L : List En) : Prop where
  cache : w.heap[c]? = some (.cells #[most, mp, at' (hd L none), at' (lst L none)] 127 (0, 0))
  seg : Seg w none L none
  nd : (c :: L.map (·.2.2)).Nodup

theorem Core.upd {w w' : World} {c : Nat} {most mp : Value} {L : List En} (h : Core w c most mp L) (hc : ∀ b, b ∈ c :: L.map (·.2.2) → w'.heap[b]? = w.heap[b]?) : Core w' c most mp L :=
  ⟨(hc c (by simp)).trans h.cache, seg_upd h.seg (fun e he => hc _ (by simp only [List.mem_cons, List.mem_map]; exact .inr ⟨e, he, rfl⟩)), h.nd⟩

theorem hd_mid (A : List En) (e : En) (B : List En) (q : Option Nat) : hd (A ++ e :: B) q = hd A (some e.2.2) := hd_append A (e :: B) q
theorem lst_mid (A : List En) (e : En) (B : List En) (q : Option Nat) : lst (A ++ e :: B) q = lst B (some e.2.2) := lst_append A (e :: B) q

theorem hd_mem {L : List En} {i : Nat} (h : some i = hd L none) : i ∈ L.map (·.2.2) := by
  cases L with
  | nil => cases h
  | cons e L => cases h; simp
theorem lst_mem {L : List En} {i : Nat} (h : some i = lst L none) : i ∈ L.map (·.2.2) := by
  rcases lst_or L none with ⟨rfl, hl⟩ | ⟨A, e, rfl, hl⟩
  · rw [hl] at h; cases h
  · rw [hl] at h; cases h; simp

theorem seg_lt {w : World} {L : List En} {p q : Option Nat} (h : Seg w p L q) : ∀ e ∈ L, e.2.2 < w.heap.size := by
  induction L generalizing p with
  | nil => intro e he; cases he
  | cons a L ih =>
    intro e he
    rcases List.mem_cons.1 he with rfl | he
    · exact lt_of_heap h.1
    · exact ih h.2 e he

theorem seg_of_upd {S : Nat → Prop} {w w' : World} {L : List En} {p q : Option Nat} (hu : Upd S w w') (h : Seg w p L q) (hn : ∀ e ∈ L, ¬ S e.2.2) : Seg w' p L q :=
  seg_upd h (fun e he => hu.block _ (seg_lt h e he) (hn e he))

theorem cut_core (c : Nat) (most mp : Value) (A B : List En) (k : Ky) (v : Value) (b : Nat) (w : World) (h : Core w c most mp (A ++ (k, v, b) :: B)) :
    Calls Try.prog 70 #[.pointer (some ⟨c, 0, none⟩), .pointer (some ⟨b, 0, none⟩)] w fun x w' =>
      x = .returned (.tuple #[]) ∧ Core w' c most mp (A ++ B) ∧ Upd (fun i => i ∈ c :: (A ++ B).map (·.2.2)) w w' := by
  obtain ⟨s1, hb, s3⟩ := (seg_append w A ((k, v, b) :: B) none none).1 h.seg
  have hc := h.cache
  have hnd := h.nd
  simp only [List.map_append, List.map_cons, List.nodup_cons, List.nodup_append, List.mem_append, List.mem_cons, List.mem_map, not_or, not_exists, not_and] at hnd
  obtain ⟨⟨ncA, ncb, ncB⟩, ndA, ⟨nbB, ndB⟩, ndAB⟩ := hnd
  have hcb : c ≠ b := ncb
  simp only [hd] at s1
  rcases lst_or A none with ⟨rfl, hl⟩ | ⟨A', e0, rfl, hl⟩
  · cases B with
    | nil =>
      refine (cut_calls c b none none k v v v k v v v most mp _ _ k v w hc hb (fun b h => by cases h) (fun b h => by cases h) hcb).mono ?_
      rintro x w' ⟨rfl, hP⟩
      exact ⟨rfl, ⟨hP.cache, trivial, by simp⟩, hP.upd.mono (fun i _ hi => (by rcases hi with rfl | hi | hi <;> first | exact List.mem_cons_self | (cases hi; done) | (cases hi; simp)))⟩
    | cons e1 B =>
      obtain ⟨h1, s4⟩ := s3
      have ne1 := nbB e1 (by simp)
      have nc1 := ncB e1 (by simp)
      refine (cut_calls c b none (some e1.2.2) k v v v e1.1 e1.2.1 (at' (some b)) (at' (hd B none)) most mp _ _ k v w hc hb (fun b h => by cases h) (fun b' h => by cases h; exact ⟨ne1, nc1, by simp, h1⟩) hcb).mono ?_
      rintro x w' ⟨rfl, hP⟩
      simp only [List.map_cons, List.nodup_cons, List.mem_map, not_exists, not_and] at ndB
      refine ⟨rfl, ⟨hP.cache, ⟨hP.next _ rfl, seg_of_upd hP.upd s4 (fun e he hi => ?_)⟩, ?_⟩, hP.upd.mono (fun i _ hi => (by rcases hi with rfl | hi | hi <;> first | exact List.mem_cons_self | (cases hi; done) | (cases hi; simp)))⟩
      · rcases hi with hi | hi | hi
        · exact ncB e (by simp [he]) hi
        · cases hi
        · simp only [Option.some.injEq] at hi
          exact ndB.1 e he hi
      · simp only [List.nil_append, List.map_cons, List.nodup_cons, List.mem_cons, List.mem_map, not_or, not_exists, not_and]
        exact ⟨⟨fun h => nc1 h.symm, fun e he => ncB e (by simp [he])⟩, ⟨ndB.1, ndB.2⟩⟩
  · obtain ⟨sA, h0, _⟩ := (seg_append w A' [e0] none (some b)).1 s1
    simp only [List.map_append, List.map_cons, List.map_nil, List.mem_append, List.mem_cons, List.not_mem_nil, or_false] at ndA ndAB ncA
    have hc0 : ¬ c = e0.2.2 := fun h => ncA e0 (.inr rfl) h.symm
    have hb0 : ¬ e0.2.2 = b := fun h => ndAB e0.2.2 ⟨e0, .inr rfl, rfl⟩ b (.inl rfl) h
    have nA0 : ∀ e ∈ A', ¬ e.2.2 = e0.2.2 := fun e he h => by
      rw [List.nodup_append] at ndA
      exact ndA.2.2 _ (List.mem_map.2 ⟨e, he, rfl⟩) _ (by simp) h
    have nAc : ∀ e ∈ A', ¬ e.2.2 = c := fun e he h => ncA e (.inl he) h
    rw [hl] at hb
    cases B with
    | nil =>
      refine (cut_calls c b (some e0.2.2) none e0.1 e0.2.1 (at' (lst A' none)) (at' (some b)) k v v v most mp _ _ k v w hc hb (fun b' h => by cases h; exact ⟨hb0, fun h => hc0 h.symm, h0⟩) (fun b h => by cases h) hcb).mono ?_
      rintro x w' ⟨rfl, hP⟩
      refine ⟨rfl, ⟨?_, ?_, ?_⟩, hP.upd.mono (fun i _ hi => (by rcases hi with rfl | hi | hi <;> first | exact List.mem_cons_self | (cases hi; done) | (cases hi; simp)))⟩
      · have hC := hP.cache
        simp only [List.append_assoc, List.cons_append, List.nil_append, List.append_nil, hd_mid, lst_mid, lst, reduceCtorEq, if_false, if_true] at hC ⊢
        exact hC
      · rw [List.append_nil]
        refine (seg_append w' A' [e0] none none).2 ⟨seg_of_upd hP.upd sA (fun e he hi => ?_), hP.prev _ rfl, trivial⟩
        rcases hi with hi | hi | hi
        · exact nAc e he hi
        · simp only [Option.some.injEq] at hi
          exact nA0 e he hi
        · cases hi
      · simp only [List.append_nil, List.map_append, List.map_cons, List.map_nil, List.nodup_cons, List.mem_append, List.mem_cons, List.mem_map, not_or, not_exists, not_and, List.not_mem_nil, not_false_eq_true, and_true]
        exact ⟨⟨fun e he => nAc e he, hc0⟩, ndA⟩
    | cons e1 B =>
      obtain ⟨h1, s4⟩ := s3
      have ne1 : ¬ e1.2.2 = b := nbB e1 (by simp)
      have nc1 : ¬ e1.2.2 = c := ncB e1 (by simp)
      have n01 : ¬ e0.2.2 = e1.2.2 := fun h => ndAB e0.2.2 ⟨e0, .inr rfl, rfl⟩ e1.2.2 (.inr ⟨e1, by simp, rfl⟩) h
      refine (cut_calls c b (some e0.2.2) (some e1.2.2) e0.1 e0.2.1 (at' (lst A' none)) (at' (some b)) e1.1 e1.2.1 (at' (some b)) (at' (hd B none)) most mp _ _ k v w hc hb (fun b' h => by cases h; exact ⟨hb0, fun h => hc0 h.symm, h0⟩)
        (fun b' h => by cases h; exact ⟨ne1, nc1, by simpa using n01, h1⟩) hcb).mono ?_
      rintro x w' ⟨rfl, hP⟩
      simp only [List.map_cons, List.nodup_cons, List.mem_map, not_exists, not_and] at ndB
      refine ⟨rfl, ⟨?_, ?_, ?_⟩, hP.upd.mono (fun i _ hi => (by rcases hi with rfl | hi | hi <;> first | exact List.mem_cons_self | (cases hi; done) | (cases hi; simp)))⟩
      · have hC := hP.cache
        simp only [List.append_assoc, List.cons_append, List.nil_append, hd_mid, lst_mid, lst, reduceCtorEq, if_false] at hC ⊢
        exact hC
      · rw [List.append_assoc]
        refine (seg_append w' A' ([e0] ++ e1 :: B) none none).2 ⟨seg_of_upd hP.upd sA (fun e he hi => ?_), hP.prev _ rfl, hP.next _ rfl, seg_of_upd hP.upd s4 (fun e he hi => ?_)⟩
        · rcases hi with hi | hi | hi
          · exact nAc e he hi
          · simp only [Option.some.injEq] at hi
            exact nA0 e he hi
          · simp only [Option.some.injEq] at hi
            exact ndAB e.2.2 ⟨e, .inl he, rfl⟩ e1.2.2 (.inr ⟨e1, by simp, rfl⟩) hi
        · rcases hi with hi | hi | hi
          · exact ncB e (by simp [he]) hi
          · simp only [Option.some.injEq] at hi
            exact ndAB e0.2.2 ⟨e0, .inr rfl, rfl⟩ e.2.2 (.inr ⟨e, by simp [he], rfl⟩) hi.symm
          · simp only [Option.some.injEq] at hi
            exact ndB.1 e he hi
      · have hnd := h.nd
        simp only [List.map_append, List.map_cons, List.nodup_cons] at hnd ⊢
        obtain ⟨h1, h2⟩ := hnd
        refine ⟨fun hm => h1 ?_, ?_⟩
        · simp only [List.mem_append, List.mem_cons] at hm ⊢
          rcases hm with hm | hm
          · exact .inl hm
          · exact .inr (.inr hm)
        · exact h2.sublist (List.Sublist.append (List.Sublist.refl _) (List.sublist_cons_self _ _))

theorem use_core (c : Nat) (most mp : Value) (L : List En) (k : Ky) (v p n : Value) (b : Nat) (w : World) (h : Core w c most mp L) (hb : w.heap[b]? = some (.cells (entC k v p n) 130 (0, 0))) (hn : b ∉ c :: L.map (·.2.2)) :
    Calls Try.prog 71 #[.pointer (some ⟨c, 0, none⟩), .pointer (some ⟨b, 0, none⟩)] w fun x w' =>
      x = .returned (.tuple #[]) ∧ Core w' c most mp ((k, v, b) :: L) ∧ Upd (fun i => i ∈ c :: b :: L.map (·.2.2)) w w' := by
  have hc := h.cache
  have hnd := h.nd
  simp only [List.mem_cons, List.mem_map, not_or, not_exists, not_and, List.nodup_cons] at hn hnd
  obtain ⟨hbc, hbL⟩ := hn
  obtain ⟨hcL, hnL⟩ := hnd
  have hcb : c ≠ b := fun h => hbc h.symm
  cases L with
  | nil =>
    refine (use_calls c b none k v v v most mp _ k v p n w hc hb (fun b h => by cases h) hcb).mono ?_
    rintro x w' ⟨rfl, hP⟩
    exact ⟨rfl, ⟨hP.cache, ⟨hP.ent, trivial⟩, by simpa using hcb⟩, hP.upd.mono (fun i _ hi => (by rcases hi with rfl | hi | hi <;> first | exact List.mem_cons_self | (cases hi; done) | (cases hi; simp)))⟩
  | cons e0 L =>
    obtain ⟨h0, s1⟩ := h.seg
    have n0 := hbL e0 (by simp)
    have nc := hcL e0 (by simp)
    refine (use_calls c b (some e0.2.2) e0.1 e0.2.1 (at' none) (at' (hd L none)) most mp _ k v p n w hc hb (fun b' h => by cases h; exact ⟨n0, nc, h0⟩) hcb).mono ?_
    rintro x w' ⟨rfl, hP⟩
    simp only [List.map_cons, List.nodup_cons, List.mem_map, not_exists, not_and] at hnL
    refine ⟨rfl, ⟨hP.cache, ⟨hP.ent, hP.next _ rfl, seg_of_upd hP.upd s1 (fun e he hi => ?_)⟩, ?_⟩, hP.upd.mono (fun i _ hi => (by rcases hi with rfl | hi | hi <;> first | exact List.mem_cons_self | (cases hi; done) | (cases hi; simp)))⟩
    · rcases hi with hi | hi | hi
      · exact hcL e (by simp [he]) hi
      · exact hbL e (by simp [he]) hi
      · simp only [Option.some.injEq] at hi
        exact hnL.1 e he hi
    · simp only [List.map_cons, List.nodup_cons, List.mem_cons, List.mem_map, not_or, not_exists, not_and]
      exact ⟨⟨hcb, fun h => nc h.symm, fun e he => hcL e (by simp [he])⟩, ⟨fun h => n0 h.symm, fun e he => hbL e (by simp [he])⟩, hnL⟩
end Go.Proofs.Ytgddlcbaieclcaa.LrucoreS
