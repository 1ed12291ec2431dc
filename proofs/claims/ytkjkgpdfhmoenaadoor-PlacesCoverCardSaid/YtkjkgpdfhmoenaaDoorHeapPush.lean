/-
  heap.Heap of pairs: as it lies in memory; before, New, Least. heap.Heap of pairs: Push.
-/
import Derived.Test.YtkjkgpdfhmoenaaDoorChain
import Derived.Test.YtkjkgpdfhmoenaaDoorRgu
namespace Go.Proofs.YtkjkgpdfhmoenaaDoor.Heap
open Go Go.RowKit Go.Proofs.YtkjkgpdfhmoenaaDoor.Kit Go.Proofs.YtkjkgpdfhmoenaaDoor.Range Go.Proofs.YtkjkgpdfhmoenaaDoor.Round Go.Proofs.YtkjkgpdfhmoenaaDoor.Seg Go.Proofs.YtkjkgpdfhmoenaaDoor.Collect Go.Proofs.YtkjkgpdfhmoenaaDoor.BpeLaw Go.Proofs.YtkjkgpdfhmoenaaDoor.Chain
attribute [local irreducible] wpQuiet wpStill
set_option linter.unusedSimpArgs false

/-- A pair's cells. -/
def prC (x : Pr) : List Value := [.int .i64 x.rank, .int .i64 x.left, .int .i64 x.right, .int .i64 x.a, .int .i64 x.b, .int .i64 x.id]
def prV (x : Pr) : Value := .agg #[.int .i64 x.rank, .int .i64 x.left, .int .i64 x.right, .int .i64 x.a, .int .i64 x.b, .int .i64 x.id]
def flatP (l : List Pr) : List Value := l.flatMap prC
theorem flatP_len : ∀ l, (flatP l).length = l.length * 6
  | [] => rfl
  | x :: l => by
    have := flatP_len l
    unfold flatP at this ⊢
    rw [List.flatMap_cons, List.length_append, this]
    simp [prC]
    omega
theorem flatP_app (a b : List Pr) : flatP (a ++ b) = flatP a ++ flatP b := by simp [flatP]
theorem flatP_at : ∀ {l : List Pr} {i j : Nat}, i < l.length → j < 6 → (flatP l)[i * 6 + j]? = (prC (g l i))[j]?
  | [], i, j, h, _ => by cases h
  | x :: l, 0, j, _, hj => by
    unfold flatP g
    rw [List.flatMap_cons, List.getElem?_append_left (by simp [prC]; omega)]
    simp
  | x :: l, i + 1, j, h, hj => by
    have ih := flatP_at (l := l) (i := i) (j := j) (by simpa using h) hj
    unfold flatP g at ih ⊢
    rw [List.flatMap_cons, List.getElem?_append_right (by simp [prC]; omega)]
    have e : (i + 1) * 6 + j - (prC x).length = i * 6 + j := by simp [prC]; omega
    rw [e, ih]
    rfl
theorem flatP_set {l : List Pr} {i : Nat} (x : Pr) (hi : i < l.length) :
    ((((((flatP l).set (i * 6) (.int .i64 x.rank)).set (i * 6 + 1) (.int .i64 x.left)).set (i * 6 + 2) (.int .i64 x.right)).set (i * 6 + 3) (.int .i64 x.a)).set (i * 6 + 4) (.int .i64 x.b)).set (i * 6 + 5) (.int .i64 x.id) = flatP (l.set i x) := by
  apply List.ext_getElem?
  intro k
  have hl := flatP_len l
  have hl2 := flatP_len (l.set i x)
  rw [List.length_set] at hl2
  rcases Nat.lt_or_ge k (l.length * 6) with hk | hk
  · have hq : k / 6 < l.length := (Nat.div_lt_iff_lt_mul (by decide)).2 hk
    have hm : k % 6 < 6 := Nat.mod_lt _ (by decide)
    have hk6 : k = k / 6 * 6 + k % 6 := by omega
    rw [hk6, flatP_at (by simpa using hq) hm]
    have hgs := g_set l i (k / 6) x hi
    rw [hgs]
    simp only [List.getElem?_set, List.length_set, hl]
    by_cases he : i = k / 6
    · rw [if_pos he]
      have hm6 : k % 6 = 0 ∨ k % 6 = 1 ∨ k % 6 = 2 ∨ k % 6 = 3 ∨ k % 6 = 4 ∨ k % 6 = 5 := by omega
      rcases hm6 with h | h | h | h | h | h
      all_goals
        rw [h, ← he]
        simp [prC]
        try omega
    · rw [if_neg he, if_neg (by omega), if_neg (by omega), if_neg (by omega), if_neg (by omega), if_neg (by omega), if_neg (by omega), flatP_at hq hm]
  · rw [List.getElem?_eq_none (by simp only [List.length_set, hl]; exact hk), List.getElem?_eq_none (by rw [hl2]; exact hk)]

theorem elemP : Elem Tryd.prog 216 183 (.agg #[.int .i64 0, .int .i64 0, .int .i64 0, .int .i64 0, .int .i64 0, .int .i64 0]) 6 48 := ⟨Tryd.underlying216, by kernel_rfl, rfl, by decide⟩

/-- A cell of a row is written. -/
theorem seg_set {w : World} {base : Nat} {e : TypeId} {sz n gb o cap j : Nat} {xs : List Value} (h : Seg w base e sz (.slice (some ⟨gb, o, none⟩) n cap) n xs) (hj : j < n * sz) (v : Value) : Seg (w.setCell ⟨gb, o + j, none⟩ v) base e sz (.slice (some ⟨gb, o, none⟩) n cap) n (xs.set j v) := by
  refine ⟨by rw [List.length_set]; exact h.len, ?_⟩
  rcases h.at' with ⟨h0, _⟩ | ⟨g', o', cap', cur, h0, hb, hg, h1, h2, h3, h4⟩
  · cases h0
  · simp only [Value.slice.injEq, Option.some.injEq, Addr.mk.injEq, and_true, true_and] at h0
    obtain ⟨⟨rfl, rfl⟩, rfl⟩ := h0
    refine .inr ⟨gb, o, cap, _, rfl, hb, heap_set hg _ _, h1, h2, by simpa using h3, ?_⟩
    have hc : n * sz ≤ cap * sz := Nat.mul_le_mul_right _ h1
    rw [← h4]
    apply List.ext_getElem?
    intro k
    rw [List.getElem?_take, List.getElem?_drop, Array.getElem?_toList, Array.getElem?_setIfInBounds, List.getElem?_set, List.length_take, List.length_drop, List.getElem?_take, List.getElem?_drop, Array.length_toList, Array.getElem?_toList]
    by_cases hk : k < n * sz
    · rw [if_pos hk, if_pos hk]
      by_cases e : j = k
      · subst e
        rw [if_pos rfl, if_pos rfl, if_pos (by omega), if_pos (by omega)]
      · rw [if_neg (by omega), if_neg e]
    · rw [if_neg hk, if_neg (by omega), if_neg hk]

/-- Pairs in a row of the call's own. -/
def PRow (w : World) (base : Nat) (v : Value) (l : List Pr) : Prop := Seg w base 183 6 v l.length (flatP l)
/-- A pair is written into a row. -/
def setP (w : World) (gb o i : Nat) (x : Pr) : World :=
  (((((w.setCell ⟨gb, o + i * 6, none⟩ (.int .i64 x.rank)).setCell ⟨gb, o + i * 6 + 1, none⟩ (.int .i64 x.left)).setCell ⟨gb, o + i * 6 + 2, none⟩ (.int .i64 x.right)).setCell ⟨gb, o + i * 6 + 3, none⟩ (.int .i64 x.a)).setCell ⟨gb, o + i * 6 + 4, none⟩ (.int .i64 x.b)).setCell ⟨gb, o + i * 6 + 5, none⟩ (.int .i64 x.id)
theorem PRow.set {w : World} {base gb o cap i : Nat} {l : List Pr} (h : PRow w base (.slice (some ⟨gb, o, none⟩) l.length cap) l) (hi : i < l.length) (x : Pr) : PRow (setP w gb o i x) base (.slice (some ⟨gb, o, none⟩) l.length cap) (l.set i x) := by
  unfold PRow setP at *
  rw [← flatP_set x hi, List.length_set]
  have h6 : i * 6 + 6 ≤ l.length * 6 := by omega
  have s0 := seg_set h (j := i * 6) (by omega) (.int .i64 x.rank)
  have s1 := seg_set s0 (j := i * 6 + 1) (by omega) (.int .i64 x.left)
  have s2 := seg_set s1 (j := i * 6 + 2) (by omega) (.int .i64 x.right)
  have s3 := seg_set s2 (j := i * 6 + 3) (by omega) (.int .i64 x.a)
  have s4 := seg_set s3 (j := i * 6 + 4) (by omega) (.int .i64 x.b)
  have := seg_set s4 (j := i * 6 + 5) (by omega) (.int .i64 x.id)
  simpa only [Nat.add_assoc] using this
theorem PRow.cell {w : World} {base gb o cap n i : Nat} {l : List Pr} (h : PRow w base (.slice (some ⟨gb, o, none⟩) n cap) l) (hi : i < l.length) :
    w.cell? ⟨gb, o + i * 6, none⟩ = some (.int .i64 (g l i).rank) ∧ w.cell? ⟨gb, o + i * 6 + 1, none⟩ = some (.int .i64 (g l i).left) ∧ w.cell? ⟨gb, o + i * 6 + 2, none⟩ = some (.int .i64 (g l i).right) ∧
    w.cell? ⟨gb, o + i * 6 + 3, none⟩ = some (.int .i64 (g l i).a) ∧ w.cell? ⟨gb, o + i * 6 + 4, none⟩ = some (.int .i64 (g l i).b) ∧ w.cell? ⟨gb, o + i * 6 + 5, none⟩ = some (.int .i64 (g l i).id) := by
  have hn : n = l.length := by
    rcases Seg.at' h with ⟨h0, _⟩ | ⟨g', o', cap', cur, h0, _⟩
    · cases h0
    · simp only [Value.slice.injEq] at h0; exact h0.2.1
  subst hn
  obtain ⟨g', o', h0, _, _, hc⟩ := Seg.cells h (by omega)
  simp only [Option.some.injEq, Addr.mk.injEq, and_true] at h0
  obtain ⟨rfl, rfl⟩ := h0
  have f : ∀ j, j < 6 → ∀ u, (prC (g l i))[j]? = some u → w.cell? ⟨gb, o + (i * 6 + j), none⟩ = some u := fun j hj u hu => hc _ _ ((flatP_at hi hj).trans hu)
  refine ⟨f 0 (by decide) _ rfl, ?_, ?_, ?_, ?_, ?_⟩
  · have := f 1 (by decide) _ rfl; rwa [← Nat.add_assoc] at this
  · have := f 2 (by decide) _ rfl; rwa [← Nat.add_assoc] at this
  · have := f 3 (by decide) _ rfl; rwa [← Nat.add_assoc] at this
  · have := f 4 (by decide) _ rfl; rwa [← Nat.add_assoc] at this
  · have := f 5 (by decide) _ rfl; rwa [← Nat.add_assoc] at this

theorem before_dec (x y : Pr) : decide (before x y) = if (x.rank != y.rank) = true then decide (x.rank < y.rank) else decide (x.left < y.left) := by
  unfold before
  by_cases h : x.rank = y.rank
  · simp [h]
  · simp [h]

set_option maxRecDepth 100000 in
theorem before_calls (x y : Pr) (w : World) : Calls Tryd.prog 114 #[prV x, prV y] w fun e w' => e = .returned (.bool (decide (before x y))) ∧ Below w.heap.size w w' := by
  rw [before_dec]
  obtain ⟨xr, xl, xt, xa, xb, xi⟩ := x
  obtain ⟨yr, yl, yt, ya, yb, yi⟩ := y
  unfold prV
  simp only
  have hb : Below w.heap.size w ((w.alloc (.cells #[.int .i64 xr, .int .i64 xl, .int .i64 xt, .int .i64 xa, .int .i64 xb, .int .i64 xi] 183)).alloc (.cells #[.int .i64 yr, .int .i64 yl, .int .i64 yt, .int .i64 ya, .int .i64 yb, .int .i64 yi] 183)) :=
    ((Below.refl _ _).alloc (Nat.le_refl _) _).alloc (by simp) _
  have HB := Lib.hid hb
  clear hb
  cases hq : (xr != yr) with
  | true =>
    simp only [if_true]
    go_enter Tryd.func114, Tryd.ntmps114
    go_wp2_with fail
    go_ret
    exact ⟨rfl, HB.out⟩
  | false =>
    simp only [Bool.false_eq_true, if_false]
    go_enter Tryd.func114, Tryd.ntmps114
    go_wp2_with fail
    go_ret
    exact ⟨rfl, HB.out⟩
/-- A heap at hb: its pairs lie in the row v. -/
structure HeapAt (w : World) (base hb : Nat) (v : Value) (l : List Pr) : Prop where
  c : w.heap[hb]? = some (.cells #[.func (.func 114) #[] #[], v] 218 (0, 0))
  r : PRow w base v l
  lo : base ≤ w.heap.size
/-- The blocks of a heap. -/
def Hb (hb : Nat) (v : Value) (b : Nat) : Prop := b = hb ∨ v.ownBlock = some b
theorem HeapAt.keep {w w' : World} {base hb : Nat} {v : Value} {l : List Pr} (h : HeapAt w base hb v l) (hs : w.heap.size ≤ w'.heap.size) (hk : ∀ b, Hb hb v b → b < w.heap.size → w'.heap[b]? = w.heap[b]?) : HeapAt w' base hb v l :=
  ⟨(hk _ (.inl rfl) (lt_of_heap h.c)).trans h.c, Seg.keep h.r (fun b hb hl => hk b (.inr hb) hl), Nat.le_trans h.lo hs⟩
theorem HeapAt.below {w w' : World} {base hb : Nat} {v : Value} {l : List Pr} (h : HeapAt w base hb v l) (hbw : Below w.heap.size w w') : HeapAt w' base hb v l := h.keep hbw.size fun b _ hl => hbw.block b hl
theorem HeapAt.upd {S : Nat → Prop} {w w' : World} {base hb : Nat} {v : Value} {l : List Pr} (h : HeapAt w base hb v l) (hu : Upd S w w') (hs : ∀ b, Hb hb v b → ¬ S b) : HeapAt w' base hb v l := h.keep hu.size fun b hb hl => hu.block b hl (hs b hb)

set_option maxRecDepth 100000 in
theorem New_calls (w : World) : Calls Tryd.prog 113 #[.func (.func 114) #[] #[]] w fun e w' => ∃ hb, e = .returned (.pointer (some ⟨hb, 0, none⟩)) ∧ HeapAt w' w.heap.size hb (.slice none 0 0) [] ∧ w.heap.size ≤ hb ∧ Below w.heap.size w w' := by
  obtain ⟨W1, hW1⟩ : ∃ Xz, w.alloc (.cells #[.func (.func 114) #[] #[], .slice none 0 0] 218) = Xz := ⟨_, rfl⟩
  obtain ⟨hb, hhb⟩ : ∃ xz, w.heap.size = xz := ⟨_, rfl⟩
  have hb1 : Below w.heap.size w W1 := by rw [← hW1]; exact (Below.refl _ _).alloc (Nat.le_refl _) _
  have HC := Lib.hid (by rw [← hW1, ← hhb]; exact alloc_new rfl : W1.heap[hb]? = some (.cells #[.func (.func 114) #[] #[], .slice none 0 0] 218 (0, 0)))
  have EW1 := Lib.hid hW1
  have Ehb := Lib.hid hhb
  clear hW1 hhb
  have HB := Lib.hid hb1
  clear hb1
  have hq : ∀ W, (binOp BinOp.eql 199 (.func (.func 114) #[] #[]) .nilFunc).run Tryd.prog W = .ok (.bool false) W := fun W => by kernel_rfl
  go_enter Tryd.func113, Tryd.ntmps113
  go_wp2_with fail
  rw [EW1.out, Ehb.out]
  go_ret
  refine ⟨hb, rfl, ⟨HC.out, Seg.nil _ _ _ _, ?_⟩, Nat.le_refl _, ?_⟩
  · rw [← Ehb.out]; exact HB.out.size
  · rw [← Ehb.out]; exact HB.out
end Go.Proofs.YtkjkgpdfhmoenaaDoor.Heap
namespace Go.Proofs.YtkjkgpdfhmoenaaDoor.Heap
open Go Go.RowKit Go.Proofs.YtkjkgpdfhmoenaaDoor.Kit Go.Proofs.YtkjkgpdfhmoenaaDoor.Range Go.Proofs.YtkjkgpdfhmoenaaDoor.Round Go.Proofs.YtkjkgpdfhmoenaaDoor.Seg Go.Proofs.YtkjkgpdfhmoenaaDoor.Collect Go.Proofs.YtkjkgpdfhmoenaaDoor.BpeLaw Go.Proofs.YtkjkgpdfhmoenaaDoor.Chain
attribute [local irreducible] wpQuiet wpStill
set_option linter.unusedSimpArgs false

theorem seg_free {w : World} {base n m g0 o cap sz : Nat} {e : TypeId} {xs : List Value} (h : Seg w base e sz (.slice (some ⟨g0, o, none⟩) m cap) n xs) : ∀ k, w.frozen? ⟨g0, k, none⟩ = false := by
  rcases Seg.at' h with ⟨h0, _⟩ | ⟨g', o', cap', cur, h0, hb, hg, _⟩
  · cases h0
  · simp only [Value.slice.injEq, Option.some.injEq, Addr.mk.injEq, and_true] at h0
    obtain ⟨⟨rfl, rfl⟩, _⟩ := h0
    exact free_all hg
/-- What Push leaves. -/
def Pushed (W : World) (base hb : Nat) (v : Value) (l : List Pr) (x : Pr) (e : Ending) (W' : World) : Prop :=
  e = .returned (.tuple #[]) ∧ ∃ v' l', HeapAt W' base hb v' l' ∧ Hp l' ∧ (∀ y, y ∈ l' ↔ y ∈ l ∨ y = x) ∧ l'.length = l.length + 1 ∧ Upd (Hb hb v) W W' ∧ (∀ b, v'.ownBlock = some b → v.ownBlock = some b ∨ W.heap.size ≤ b)

/-- In the loop: the new one stands at i. -/
structure Sift (W wr : World) (base hb g0 o cap n : Nat) (v : Value) (l : List Pr) (x : Pr) (i : Nat) (l' : List Pr) : Prop where
  c : wr.heap[hb]? = some (.cells #[.func (.func 114) #[] #[], .slice (some ⟨g0, o, none⟩) n cap] 218 (0, 0))
  r : PRow wr base (.slice (some ⟨g0, o, none⟩) n cap) l'
  n : l'.length = n
  u : Up l' i
  m : ∀ y, y ∈ l' ↔ y ∈ l ∨ y = x
  upd : Upd (Hb hb v) W wr
  own : v.ownBlock = some g0 ∨ W.heap.size ≤ g0

theorem Sift.below {W wr wr' : World} {base hb g0 o cap n : Nat} {v : Value} {l : List Pr} {x : Pr} {i : Nat} {l' : List Pr} (h : Sift W wr base hb g0 o cap n v l x i l') (hbw : Below wr.heap.size wr wr') : Sift W wr' base hb g0 o cap n v l x i l' :=
  ⟨(hbw.block _ (lt_of_heap h.c)).trans h.c, Seg.below h.r hbw, h.n, h.u, h.m, h.upd.later hbw, h.own⟩
theorem setP_upd {w : World} {g0 o i : Nat} (x : Pr) : Upd (fun b => b = g0) w (setP w g0 o i x) := by
  unfold setP
  iterate 6 (refine Upd.setCell (S := fun b => b = g0) ?_ (fun _ => rfl) _)
  exact Upd.refl _ _
theorem swap_two {w : World} {base g0 o cap i j : Nat} {l : List Pr} (h : PRow w base (.slice (some ⟨g0, o, none⟩) l.length cap) l) (hi : i < l.length) (hj : j < l.length) :
    PRow (setP (setP w g0 o i (g l j)) g0 o j (g l i)) base (.slice (some ⟨g0, o, none⟩) l.length cap) (swap l i j) := by
  have h1 := PRow.set h hi (g l j)
  have e : (l.set i (g l j)).length = l.length := by simp
  rw [← e] at h1
  have h2 := PRow.set h1 (i := j) (by omega) (g l i)
  rw [e] at h2
  exact h2
theorem Sift.step {W wr wr' : World} {base hb g0 o cap n : Nat} {v : Value} {l : List Pr} {x : Pr} {i q : Nat} {l' : List Pr} (h : Sift W wr base hb g0 o cap n v l x i l') (hq : (i - 1) / 2 = q) (h0 : 0 < i) (hbf : before (g l' i) (g l' q)) (hW : Upd (Hb hb v) W wr)
    (he : setP (setP wr g0 o i (g l' q)) g0 o q (g l' i) = wr') : Sift W wr' base hb g0 o cap n v l x q (swap l' i q) := by
  subst hq
  have hi := h.u.lt
  have hql : (i - 1) / 2 < l'.length := by omega
  have hu : Upd (fun b => b = g0) wr wr' := by rw [← he]; exact (setP_upd _).trans (setP_upd _)
  have hne : hb ≠ g0 := fun e => by
    subst e
    exact no_own h.r h.c (by decide) rfl
  refine ⟨(hu.block hb (lt_of_heap h.c) hne).trans h.c, ?_, by rw [swap_len]; exact h.n, h.u.step h0 hbf, fun y => (mem_swap hi hql y).trans (h.m y), ?_, h.own⟩
  · rw [← he]
    have := h.r
    rw [← h.n] at this ⊢
    exact swap_two this hi hql
  · refine ⟨hu.os.trans hW.os, hu.tape.trans hW.tape, hu.output.trans hW.output, Nat.le_trans hW.size hu.size, fun b hb' hn => ?_⟩
    rw [hu.block b (Nat.lt_of_lt_of_le hb' hW.size) (fun e => ?_), hW.block b hb' hn]
    subst e
    rcases h.own with h5 | h5
    · exact hn (.inr h5)
    · omega
theorem Sift.fin {W wr : World} {base hb g0 o cap n : Nat} {v : Value} {l : List Pr} {x : Pr} {i : Nat} {l' : List Pr} (h : Sift W wr base hb g0 o cap n v l x i l') (hn : l.length + 1 = n) (hlo : base ≤ W.heap.size) (hs : i = 0 ∨ ¬ before (g l' i) (g l' ((i - 1) / 2))) : Pushed W base hb v l x (.returned (.tuple #[])) wr := by
  have h1 := h.r
  have h2 := h.n
  refine ⟨rfl, .slice (some ⟨g0, o, none⟩) n cap, l', ⟨h.c, h1, Nat.le_trans hlo h.upd.size⟩, h.u.stop hs, h.m, by omega, h.upd, fun b hb' => ?_⟩
  simp only [Value.ownBlock, Option.some.injEq] at hb'
  subst hb'
  exact h.own

set_option maxHeartbeats 4000000 in
set_option maxRecDepth 100000 in
theorem Push_calls (W : World) (base hb : Nat) (v : Value) (l : List Pr) (x : Pr) (h : HeapAt W base hb v l) (hp : Hp l) (hn : l.length ≤ 10000000) :
    Calls Tryd.prog 129 #[.pointer (some ⟨hb, 0, none⟩), prV x] W (Pushed W base hb v l x) := by
  have HH := Lib.hid h
  unfold prV
  obtain ⟨W1, hW1⟩ : ∃ Xz, W.alloc (.cells #[.int .i64 x.rank, .int .i64 x.left, .int .i64 x.right, .int .i64 x.a, .int .i64 x.b, .int .i64 x.id] 183) = Xz := ⟨_, rfl⟩
  obtain ⟨bx, hbx⟩ : ∃ xz, W.heap.size = xz := ⟨_, rfl⟩
  have hb1 : Below W.heap.size W W1 := by rw [← hW1]; exact (Below.refl _ _).alloc (Nat.le_refl _) _
  have HX := Lib.hid (by rw [← hW1, ← hbx]; exact alloc_new rfl : W1.heap[bx]? = some (.cells #[.int .i64 x.rank, .int .i64 x.left, .int .i64 x.right, .int .i64 x.a, .int .i64 x.b, .int .i64 x.id] 183 (0, 0)))
  have EW1 := Lib.hid hW1
  have Ebx := Lib.hid hbx
  clear hW1 hbx
  obtain ⟨W0, hW0⟩ : ∃ Xz, W1.alloc (.cells #[.int .i64 x.rank, .int .i64 x.left, .int .i64 x.right, .int .i64 x.a, .int .i64 x.b, .int .i64 x.id] 183) = Xz := ⟨_, rfl⟩
  obtain ⟨bn, hbn⟩ : ∃ xz, W1.heap.size = xz := ⟨_, rfl⟩
  have hb2 : Below W1.heap.size W1 W0 := by rw [← hW0]; exact (Below.refl _ _).alloc (Nat.le_refl _) _
  have HN := Lib.hid (by rw [← hW0, ← hbn]; exact alloc_new rfl : W0.heap[bn]? = some (.cells #[.int .i64 x.rank, .int .i64 x.left, .int .i64 x.right, .int .i64 x.a, .int .i64 x.b, .int .i64 x.id] 183 (0, 0)))
  have EW0 := Lib.hid hW0
  have Ebn := Lib.hid hbn
  clear hW0 hbn
  obtain ⟨W2, hW2⟩ : ∃ z, W0.drew = z := ⟨_, rfl⟩
  have hb12 : Below W1.heap.size W1 W2 := hW2 ▸ hb2.drew
  have hbW2 : Below W.heap.size W W2 := hb1.trans (hb12.mono hb1.size)
  have HN2 := Lib.hid (show W2.heap[bn]? = some (.cells #[.int .i64 x.rank, .int .i64 x.left, .int .i64 x.right, .int .i64 x.a, .int .i64 x.b, .int .i64 x.id] 183 (0, 0)) from hW2 ▸ HN.out)
  obtain ⟨i0, hi, hz0, hz1, hz2⟩ := elemP.parts
  have hsrc : Src W2 (.slice (some ⟨bn, 0, none⟩) 1 1) 1 (flatP [x]) := by
    refine ⟨some ⟨bn, 0, none⟩, 1, rfl, (fun h => by cases h), fun ad had j u hu => ?_⟩
    cases had
    rw [add_plain, cell_at HN2.out]
    simpa [flatP, prC] using hu
  obtain ⟨v2, A, hr, ha, _⟩ := run_append_seg (P := Tryd.prog) W2 base 216 216 183 i0 _ 6 48 elemP.t hi hz0 hz1 hz2 elemP.z elemP.p v l.length (flatP l) (Seg.below h.r hbW2) (.slice (some ⟨bn, 0, none⟩) 1 1) 1 _ (by rfl) hsrc (by simp [flatP, prC, Value.oneCell']) (by unfold maxLen; omega) (by omega) (Nat.le_trans h.lo hbW2.size)
  have hcW2 := (hbW2.block _ (lt_of_heap h.c)).trans h.c
  have hno := no_own (Seg.below h.r hbW2) hcW2 (by decide)
  have hcA := Upd.mem ha.u hcW2 hno
  rw [← flatP_app] at ha
  obtain ⟨a2, c2, hv2, _, _, hnone⟩ := ha.seg.shape
  have hno2 := no_own ha.seg hcA (by decide)
  have hat : ∃ g0 o, a2 = some ⟨g0, o, none⟩ := by
    cases a2 with
    | none => have := (hnone rfl).1; omega
    | some a2 =>
      subst hv2
      rcases Seg.at' ha.seg with ⟨h0, _⟩ | ⟨g0, o, _, _, h0, _⟩
      · cases h0
      · simp only [Value.slice.injEq, Option.some.injEq] at h0
        exact ⟨g0, o, by rw [h0.1]⟩
  obtain ⟨g0, o, rfl⟩ := hat
  subst hv2
  obtain ⟨W3, hW3⟩ : ∃ z, A.setCell ⟨hb, 1, none⟩ (.slice (some ⟨g0, o, none⟩) (l.length + 1) c2) = z := ⟨_, rfl⟩
  have hu3 : Upd (fun b => b = hb) A W3 := by rw [← hW3]; exact Upd.setCell (S := fun b => b = hb) (p := ⟨hb, 1, none⟩) (Upd.refl _ _) (fun _ => rfl) _
  obtain ⟨n, hnn⟩ : ∃ n, l.length + 1 = n := ⟨_, rfl⟩
  have hsift : Sift W W3 base hb g0 o c2 n v l x l.length (l ++ [x]) := by
    refine ⟨by rw [← hW3, ← hnn]; exact heap_set hcA 1 _, ?_, by rw [← hnn]; simp, Up.begin hp x, fun y => by simp, ?_, ?_⟩
    · unfold PRow
      rw [← hnn, List.length_append, List.length_singleton]
      exact Seg.upd ha.seg hu3 (fun b hb' h => by subst h; exact hno2 hb')
    · exact ((Upd.of_below hbW2).trans ((ha.u.mono fun b _ h => .inr h).trans (hu3.mono fun b _ h => .inl h)))
    · rcases ha.blk with e | e
      · exact .inl (by rw [← e]; rfl)
      · exact .inr (Nat.le_trans hbW2.size (e g0 rfl))
  have HSI := Lib.hid hsift
  have HCA := Lib.hid hcA
  have HC := Lib.hid h.c
  have HC1 := Lib.hid ((hb1.block _ (lt_of_heap h.c)).trans h.c)
  have HC2 := Lib.hid hcW2
  have HRUN := Lib.hid hr
  have HW2 := Lib.hid hW2
  have HW3 := Lib.hid hW3
  rw [← hW2, ← EW0.out, ← Ebn.out, hnn] at HRUN
  rw [hnn] at HW3
  obtain ⟨C, hC⟩ : ∃ C : Array Value, #[.func (.func 114) #[] #[], v] = C := ⟨_, rfl⟩
  have HOP := Lib.hid (fun (w' : World) (hw' : w'.heap[hb]? = some (.cells C 218 (0, 0)) ∧ w'.heap[bx]? = some (.cells #[.int .i64 x.rank, .int .i64 x.left, .int .i64 x.right, .int .i64 x.a, .int .i64 x.b, .int .i64 x.id] 183 (0, 0))) => (by rw [← hC] at hw'; exact ⟨cell_at hw'.1 1, cell_at hw'.2 0, cell_at hw'.2 1, cell_at hw'.2 2, cell_at hw'.2 3, cell_at hw'.2 4, cell_at hw'.2 5⟩ : w'.cell? ⟨hb, 1, none⟩ = some v ∧ w'.cell? ⟨bx, 0, none⟩ = some (.int .i64 x.rank) ∧ w'.cell? ⟨bx, 1, none⟩ = some (.int .i64 x.left) ∧ w'.cell? ⟨bx, 2, none⟩ = some (.int .i64 x.right) ∧ w'.cell? ⟨bx, 3, none⟩ = some (.int .i64 x.a) ∧ w'.cell? ⟨bx, 4, none⟩ = some (.int .i64 x.b) ∧ w'.cell? ⟨bx, 5, none⟩ = some (.int .i64 x.id)))
  have S1 := Lib.hid (show W1.drew.heap[hb]? = some (.cells C 218 (0, 0)) ∧ W1.drew.heap[bx]? = some (.cells #[.int .i64 x.rank, .int .i64 x.left, .int .i64 x.right, .int .i64 x.a, .int .i64 x.b, .int .i64 x.id] 183 (0, 0)) from ⟨by rw [← hC]; exact HC1.out, HX.out⟩)
  have S2 := Lib.hid (show W2.heap[hb]? = some (.cells C 218 (0, 0)) ∧ W2.heap[bx]? = some (.cells #[.int .i64 x.rank, .int .i64 x.left, .int .i64 x.right, .int .i64 x.a, .int .i64 x.b, .int .i64 x.id] 183 (0, 0)) from ⟨by rw [← hC]; exact HC2.out, (hb12.block _ (lt_of_heap HX.out)).trans HX.out⟩)
  have S3 := Lib.hid (show A.heap[hb]? = some (.cells C 218 (0, 0)) ∧ A.heap[bx]? = some (.cells #[.int .i64 x.rank, .int .i64 x.left, .int .i64 x.right, .int .i64 x.a, .int .i64 x.b, .int .i64 x.id] 183 (0, 0)) from ⟨by rw [← hC]; exact hcA, (ha.u.block bx (Nat.lt_of_lt_of_le (lt_of_heap HX.out) hb12.size) (fun e => by have := (Seg.lt (Seg.below h.r (Below.refl _ _)) bx e).2; have := Ebx.out; omega)).trans S2.out.2⟩)
  have hnb : n ≤ 10000001 := by omega
  have hln : (n : Int) - 1 = (l.length : Int) := by omega
  have hw1 : IntKind.i64.wrap ((n : Int) - 1) = (l.length : Int) := by rw [hln]; exact i64w _ (by omega) (by omega)
  obtain ⟨nl, hnl⟩ : ∃ nl, l.length = nl := ⟨_, rfl⟩
  rw [hnl] at hw1 HSI
  have HNN := Lib.hid hnn
  clear hr ha hsrc hb1 hb2 hb12 hbW2 hi hz0 hz1 hz2 hcW2 hno hno2 hcA hu3 hsift hW2 hW3 hnn h hC hln hnone
  have k1 := cell_at HCA.out 1
  have kf := free_all HCA.out
  have kz := lt_of_heap HCA.out
  simp only [List.getElem?_toArray, List.getElem?_cons_zero, List.getElem?_cons_succ] at k1
  go_enter Tryd.func129, Tryd.ntmps129
  go_upto_region 1 with fail
  rw [EW1.out, Ebx.out]
  refine Rgu.RGO_begin (fun w' => w'.heap[hb]? = some (.cells C 218 (0, 0)) ∧ w'.heap[bx]? = some (.cells #[.int .i64 x.rank, .int .i64 x.left, .int .i64 x.right, .int .i64 x.a, .int .i64 x.b, .int .i64 x.id] 183 (0, 0))) 10 11 [(0, 6), (1, 7), (5, 11), (2, 8), (3, 9), (4, 10)] (by rfl) (by decide +kernel) (by kernel_rfl) (S1.out) (fun R hR => ?_)
  repeat ((first | refine Rgu.RGO_take (by exact rfl) (by exact rfl) (by decide +kernel) (by exact rfl) (by intro w' hw'; obtain ⟨y0, y1, y2, y3, y4, y5, y6⟩ := HOP.out _ hw'; go_simp; try with_reducible rfl) ?_ | refine Rgu.RGO_skip (by exact rfl) (by exact rfl) (by decide +kernel) (by exact rfl) ?_); try simp only [Act.put, List.setIfInBounds_toArray, List.set_cons_zero, List.set_cons_succ])
  refine Rgu.RGO_one 6 [] (by exact rfl) (by decide +kernel) (by exact rfl) (fun K hK => ?_)
  go_wp2_with (fail)
  refine hK _ _ (by rw [EW0.out, HW2.out]; exact S2.out) ?_
  clear hK K
  try simp only [Act.put, List.setIfInBounds_toArray, List.set_cons_zero, List.set_cons_succ]
  refine Rgu.RGO_one 7 [(8, 14), (9, 15)] (by exact rfl) (by decide +kernel) (by exact rfl) (fun K hK => ?_)
  refine Rgu.append_op rfl rfl rfl HRUN.out ?_
  refine hK _ _ (S3.out) ?_
  clear hK K
  try simp only [Act.put, List.setIfInBounds_toArray, List.set_cons_zero, List.set_cons_succ]
  repeat ((first | refine Rgu.RGO_take (by exact rfl) (by exact rfl) (by decide +kernel) (by exact rfl) (by intro w' hw'; obtain ⟨y0, y1, y2, y3, y4, y5, y6⟩ := HOP.out _ hw'; go_simp; try with_reducible rfl) ?_ | refine Rgu.RGO_skip (by exact rfl) (by exact rfl) (by decide +kernel) (by exact rfl) ?_); try simp only [Act.put, List.setIfInBounds_toArray, List.set_cons_zero, List.set_cons_succ])
  refine Rgu.RGO_last 10 (by exact rfl) (by decide +kernel) (by exact rfl) (fun K hK => ?_)
  go_wp2_with (fail)
  try (refine hK _ _ ?_; clear hK K)
  try simp only [Act.put, List.setIfInBounds_toArray, List.set_cons_zero, List.set_cons_succ]
  refine Rgu.RGH_done (by decide +kernel) (hR _ _ ?_)
  clear hR R k1 kf kz
  rw [HW3.out]
  have HC3 := Lib.hid HSI.out.c
  have k1 := cell_at HC3.out 1
  have kz := lt_of_heap HC3.out
  simp only [List.getElem?_toArray, List.getElem?_cons_zero, List.getElem?_cons_succ] at k1
  go_upto_region 3 with fail
  clear k1 kz HC3 S1 S2 S3 HOP HRUN HCA HC HC1 HC2 HN HN2 HX HW2
  go_loopg [4] nl (fun g s4 wr => ∃ (i : Nat) (l' : List Pr), s4 = .int .i64 i ∧ g = i ∧ Sift W wr base hb g0 o c2 n v l x i l')
  case atStart => exact ⟨nl, _, rfl, rfl, HSI.out⟩
  case round =>
    obtain ⟨i, l', rfl, hgi, hs⟩ := hrel
    have HG := Lib.hid hgi
    have HS := Lib.hid hs
    clear hgi hs HSI
    by_cases h0 : 0 < i
    · have hi0 : (0 : Int) < i := by omega
      have hil := HS.out.u.lt
      have hln := HS.out.n
      obtain ⟨q, hq⟩ : ∃ q, (i - 1) / 2 = q := ⟨_, rfl⟩
      have hql : q < l'.length := by omega
      have hw1 : IntKind.i64.wrap ((i : Int) - 1) = ((i - 1 : Nat) : Int) := by rw [i64w _ (by omega) (by omega)]; omega
      have hw2 : Int.tdiv ((i - 1 : Nat) : Int) 2 = (q : Int) := by rw [Int.tdiv_eq_ediv_of_nonneg (by omega)]; omega
      have hw3 : IntKind.i64.wrap (q : Int) = q := i64w _ (by omega) (by omega)
      obtain ⟨xi0, xi1, xi2, xi3, xi4, xi5⟩ := PRow.cell HS.out.r hil
      obtain ⟨xq0, xq1, xq2, xq3, xq4, xq5⟩ := PRow.cell HS.out.r hql
      have hb1 : (i : Int) < n := by omega
      have hb2 : (0 : Int) ≤ i := by omega
      have hb3 : (q : Int) < n := by omega
      have hb4 : (0 : Int) ≤ q := by omega
      obtain ⟨xi, hxi⟩ : ∃ z, g l' i = z := ⟨_, rfl⟩
      obtain ⟨xq, hxq⟩ : ∃ z, g l' q = z := ⟨_, rfl⟩
      rw [hxi] at xi0 xi1 xi2 xi3 xi4 xi5
      rw [hxq] at xq0 xq1 xq2 xq3 xq4 xq5
      have HXI := Lib.hid hxi
      have HXQ := Lib.hid hxq
      have HBF := Lib.hid (before_calls xi xq wr.drew)
      unfold prV at HBF
      clear hxi hxq
      have HC3 := Lib.hid HS.out.c
      have gz := (Seg.lt HS.out.r g0 rfl).2
      have HQ := Lib.hid hq
      have HIL := Lib.hid hil
      have HQL := Lib.hid hql
      clear hq hil hln hql
      have k0 := cell_at HC3.out 0
      have k1 := cell_at HC3.out 1
      have kf := free_all HC3.out
      have kz := lt_of_heap HC3.out
      simp only [List.getElem?_toArray, List.getElem?_cons_zero, List.getElem?_cons_succ] at k0 k1
      go_upto_region 5 with fail
      refine region_tail 18 (by kernel_rfl) (by kernel_rfl) ?_
      simp only [List.take_succ_cons, List.take_zero, List.drop_succ_cons, List.drop_zero]
      repeat (first | still_step)
      refine wpStill_nil ?_
      go_wp2_with fail
      refine HBF.out.mono ?_
      rintro e W5 ⟨rfl, hb5'⟩
      have hb5 : Below wr.heap.size wr W5 := chain (Below.refl wr.heap.size wr).drew hb5'
      clear hb5'
      have HS5 := Lib.hid (HS.out.below hb5)
      clear hb5 HBF
      by_cases hbf : before xi xq
      · have hd : decide (before xi xq) = true := decide_eq_true hbf
        have HBF := Lib.hid hbf
        rw [hd]
        clear hd hbf xi0 xi1 xi2 xi3 xi4 xi5 xq0 xq1 xq2 xq3 xq4 xq5 k0 k1 kf kz HC3
        obtain ⟨xi0, xi1, xi2, xi3, xi4, xi5⟩ := PRow.cell HS5.out.r HIL.out
        obtain ⟨xq0, xq1, xq2, xq3, xq4, xq5⟩ := PRow.cell HS5.out.r HQL.out
        have HC3 := Lib.hid HS5.out.c
        rw [HXI.out] at xi0 xi1 xi2 xi3 xi4 xi5
        rw [HXQ.out] at xq0 xq1 xq2 xq3 xq4 xq5
        obtain ⟨W6, hW6⟩ : ∃ z, setP (setP W5 g0 o i xq) g0 o q xi = z := ⟨_, rfl⟩
        have hbq : before (g l' i) (g l' q) := by
          have h1 := HXI.out
          have h2 := HXQ.out
          rw [h1, h2]
          exact HBF.out
        have hW6' : setP (setP W5 g0 o i (g l' q)) g0 o q (g l' i) = W6 := by
          have h1 := HXI.out
          have h2 := HXQ.out
          rw [h1, h2]
          exact hW6
        have HFIN := Lib.hid (HS5.out.step HQ.out h0 hbq HS5.out.upd hW6')
        have HW6 := Lib.hid hW6
        clear hW6 hW6' hbq
        have hne : i ≠ q := by have := HQ.out; omega
        have gf := seg_free HS5.out.r
        have gz5 := (Seg.lt HS5.out.r g0 rfl).2
        have k0 := cell_at HC3.out 0
        have k1 := cell_at HC3.out 1
        have kf := free_all HC3.out
        have kz := lt_of_heap HC3.out
        simp only [List.getElem?_toArray, List.getElem?_cons_zero, List.getElem?_cons_succ] at k0 k1
        go_wp2_with fail
        refine Rgu.RGO_begin (fun w' => w' = W5.drew) 25 28 [(0, 47), (4, 51), (5, 52), (9, 56), (10, 57), (14, 61), (17, 64), (21, 68), (1, 48), (6, 53), (11, 58), (18, 65), (2, 49), (7, 54), (12, 59), (19, 66), (3, 50), (8, 55), (13, 60), (20, 67), (15, 62), (22, 69), (16, 63), (23, 70), (24, 71)] (by rfl) (by decide +kernel) (by kernel_rfl) (rfl) (fun R hR => ?_)
        repeat ((first | refine Rgu.RGO_take (by exact rfl) (by exact rfl) (by decide +kernel) (by exact rfl) (by intro w' hw'; subst hw'; go_simp; try with_reducible rfl) ?_ | refine Rgu.RGO_skip (by exact rfl) (by exact rfl) (by decide +kernel) (by exact rfl) ?_ | refine Rgu.RGO_free (by exact rfl) (by exact rfl) (by decide +kernel) (by exact rfl) (by intro w'; go_simp; try with_reducible rfl) ?_); try simp only [Act.put, List.setIfInBounds_toArray, List.set_cons_zero, List.set_cons_succ])
        refine Rgu.RGO_last 25 (by exact rfl) (by decide +kernel) (by exact rfl) (fun K hK => ?_)
        go_wp2_with (fail)
        try (refine hK _ _ ?_; clear hK K)
        try simp only [Act.put, List.setIfInBounds_toArray, List.set_cons_zero, List.set_cons_succ]
        refine Rgu.RGH_last 26 (by exact rfl) (by decide +kernel) (by exact rfl) (fun K hK => ?_)
        go_wp2_with (fail)
        try (refine hK _ _ ?_; clear hK K)
        try simp only [Act.put, List.setIfInBounds_toArray, List.set_cons_zero, List.set_cons_succ]
        refine Rgu.RGH_last 27 (by exact rfl) (by decide +kernel) (by exact rfl) (fun K hK => ?_)
        go_wp2_with (fail)
        try (refine hK _ _ ?_; clear hK K)
        try simp only [Act.put, List.setIfInBounds_toArray, List.set_cons_zero, List.set_cons_succ]
        refine Rgu.RGH_done (by decide +kernel) (hR _ _ ?_)
        clear hR R
        unfold setP at HW6
        rw [HW6.out]
        go_wp2_with fail
        go_roundg q
        case measure => have := HQ.out; have := HG.out; omega
        case rel => exact ⟨q, _, rfl, rfl, HFIN.out.below (Below.refl _ _).drew⟩
      · have hd : decide (before xi xq) = false := decide_eq_false hbf
        have HBF := Lib.hid hbf
        rw [hd]
        clear hd hbf
        go_wp2_with fail
        (try simp only [Exit.inBlock, Exit.then]); refine bodyPost_ret (results_none rfl _ _ _) rfl ?_
        exact HS5.out.fin HNN.out HH.out.lo (.inr (by rw [HQ.out, HXI.out, HXQ.out]; exact HBF.out))
    · have hi0 : ¬ ((0 : Int) < i) := by omega
      go_wp2_with fail
      go_end0
      exact HS.out.fin HNN.out HH.out.lo (.inl (by omega))
end Go.Proofs.YtkjkgpdfhmoenaaDoor.Heap
