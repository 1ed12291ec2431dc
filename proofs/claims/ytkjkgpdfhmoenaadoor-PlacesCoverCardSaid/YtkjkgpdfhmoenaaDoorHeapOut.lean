/-
  heap.Heap of pairs: Least, Pop. heap.Heap of pairs: Pop.
-/
import Derived.Test.YtkjkgpdfhmoenaaDoorHeapPush
namespace Go.Proofs.YtkjkgpdfhmoenaaDoor.Heap
open Go Go.RowKit Go.Proofs.YtkjkgpdfhmoenaaDoor.Kit Go.Proofs.YtkjkgpdfhmoenaaDoor.Range Go.Proofs.YtkjkgpdfhmoenaaDoor.Round Go.Proofs.YtkjkgpdfhmoenaaDoor.Seg Go.Proofs.YtkjkgpdfhmoenaaDoor.Collect Go.Proofs.YtkjkgpdfhmoenaaDoor.BpeLaw Go.Proofs.YtkjkgpdfhmoenaaDoor.Chain
attribute [local irreducible] wpQuiet wpStill
set_option linter.unusedSimpArgs false

theorem flatP_take (l : List Pr) (k : Nat) : (flatP l).take (k * 6) = flatP (l.take k) := by
  induction l generalizing k with
  | nil => simp [flatP]
  | cons x l ih =>
    cases k with
    | zero => simp [flatP]
    | succ k =>
      have e : (k + 1) * 6 = (prC x).length + k * 6 := by simp [prC]; omega
      unfold flatP at ih ⊢
      rw [List.take_succ_cons, List.flatMap_cons, List.flatMap_cons, e, List.take_length_add_append, ih]

/-- A boxed pair is written. -/
def setB (w : World) (b : Nat) (x : Pr) : World :=
  (((((w.setCell ⟨b, 0, none⟩ (.int .i64 x.rank)).setCell ⟨b, 1, none⟩ (.int .i64 x.left)).setCell ⟨b, 2, none⟩ (.int .i64 x.right)).setCell ⟨b, 3, none⟩ (.int .i64 x.a)).setCell ⟨b, 4, none⟩ (.int .i64 x.b)).setCell ⟨b, 5, none⟩ (.int .i64 x.id)
def boxC (x : Pr) : Array Value := #[.int .i64 x.rank, .int .i64 x.left, .int .i64 x.right, .int .i64 x.a, .int .i64 x.b, .int .i64 x.id]
theorem setB_at {w : World} {b : Nat} {v0 v1 v2 v3 v4 v5 : Value} {t : TypeId} (x : Pr) (h : w.heap[b]? = some (.cells #[v0, v1, v2, v3, v4, v5] t (0, 0))) : (setB w b x).heap[b]? = some (.cells (boxC x) t (0, 0)) := by
  have h0 := heap_set h 0 (.int .i64 x.rank)
  have h1 := heap_set h0 1 (.int .i64 x.left)
  have h2 := heap_set h1 2 (.int .i64 x.right)
  have h3 := heap_set h2 3 (.int .i64 x.a)
  have h4 := heap_set h3 4 (.int .i64 x.b)
  have h5 := heap_set h4 5 (.int .i64 x.id)
  exact h5
theorem setB_upd {w : World} {b : Nat} (x : Pr) : Upd (fun k => k = b) w (setB w b x) := by
  unfold setB
  iterate 6 (refine Upd.setCell (S := fun k => k = b) ?_ (fun _ => rfl) _)
  exact Upd.refl _ _

def zeroP : Pr := ⟨0, 0, 0, 0, 0, 0⟩
def Leasted (l : List Pr) (W : World) (e : Ending) (W' : World) : Prop := e = .returned (.tuple #[prV (if l = [] then zeroP else g l 0), .bool (decide (l ≠ []))]) ∧ Below W.heap.size W W'

theorem row_at {w : World} {base : Nat} {v : Value} {l : List Pr} (h : PRow w base v l) (hl : l ≠ []) : ∃ g0 o cap, v = .slice (some ⟨g0, o, none⟩) l.length cap ∧ l.length ≤ cap := by
  rcases Seg.at' h with ⟨_, h0⟩ | ⟨g0, o, cap, cur, h0, _, _, h1, _⟩
  · exact absurd (List.eq_nil_of_length_eq_zero h0) hl
  · exact ⟨g0, o, cap, h0, h1⟩

set_option maxHeartbeats 1000000 in
set_option maxRecDepth 100000 in
theorem Least_calls (W : World) (base hb : Nat) (v : Value) (l : List Pr) (h : HeapAt W base hb v l) :
    Calls Tryd.prog 130 #[.pointer (some ⟨hb, 0, none⟩)] W (Leasted l W) := by
  obtain ⟨W1, hW1⟩ : ∃ Xz, W.alloc (.cells #[.int .i64 0, .int .i64 0, .int .i64 0, .int .i64 0, .int .i64 0, .int .i64 0] 183) = Xz := ⟨_, rfl⟩
  obtain ⟨rb, hrb⟩ : ∃ xz, W.heap.size = xz := ⟨_, rfl⟩
  have hb1 : Below W.heap.size W W1 := by rw [← hW1]; exact (Below.refl _ _).alloc (Nat.le_refl _) _
  have HR := Lib.hid (by rw [← hW1, ← hrb]; exact alloc_new rfl : W1.heap[rb]? = some (.cells #[.int .i64 0, .int .i64 0, .int .i64 0, .int .i64 0, .int .i64 0, .int .i64 0] 183 (0, 0)))
  have EW1 := Lib.hid hW1
  have Erb := Lib.hid hrb
  clear hW1 hrb
  have HB := Lib.hid hb1
  have hH := h.below hb1
  have HH := Lib.hid hH
  have HC := Lib.hid hH.c
  have HL0 := Lib.hid (lt_of_heap h.c)
  clear h hb1
  by_cases hl : l = []
  · subst hl
    have hv : v = .slice none 0 0 ∨ ∃ a c, v = .slice (some a) 0 c := by
      obtain ⟨a, c, h1, _, _, h2⟩ := Seg.shape HH.out.r
      cases a with
      | none => have := h2 rfl; left; rw [h1, this.2]; rfl
      | some a => right; exact ⟨a, c, h1⟩
    obtain ⟨W2, hW2⟩ : ∃ Xz, W1.alloc (.cells #[.int .i64 0, .int .i64 0, .int .i64 0, .int .i64 0, .int .i64 0, .int .i64 0] 183) = Xz := ⟨_, rfl⟩
    obtain ⟨nb, hnb⟩ : ∃ xz, W1.heap.size = xz := ⟨_, rfl⟩
    have hb2 : Below W1.heap.size W1 W2 := by rw [← hW2]; exact (Below.refl _ _).alloc (Nat.le_refl _) _
    have HN := Lib.hid (by rw [← hW2, ← hnb]; exact alloc_new rfl : W2.heap[nb]? = some (.cells #[.int .i64 0, .int .i64 0, .int .i64 0, .int .i64 0, .int .i64 0, .int .i64 0] 183 (0, 0)))
    have EW2 := Lib.hid hW2
    have Enb := Lib.hid hnb
    clear hW2 hnb
    have HB2 := Lib.hid (chain HB.out hb2)
    have HR2 := Lib.hid ((hb2.block _ (lt_of_heap HR.out)).trans HR.out)
    have hrb : W.heap.size ≤ rb := by rw [← Erb.out]; exact Nat.le_refl _
    obtain ⟨Wf, hWf⟩ : ∃ z, setB W2 rb zeroP = z := ⟨_, rfl⟩
    have HWF0 := Lib.hid hWf
    have HWF := Lib.hid hWf
    unfold setB at HWF
    simp only [zeroP] at HWF
    clear hb2 hH hWf
    rcases hv with rfl | ⟨a, c, rfl⟩
    all_goals
      have k1 := cell_at HC.out 1
      have kz := lt_of_heap HC.out
      simp only [List.getElem?_toArray, List.getElem?_cons_zero, List.getElem?_cons_succ] at k1
      have n0 := cell_at HN.out 0
      have n1 := cell_at HN.out 1
      have n2 := cell_at HN.out 2
      have n3 := cell_at HN.out 3
      have n4 := cell_at HN.out 4
      have n5 := cell_at HN.out 5
      have nz := lt_of_heap HN.out
      simp only [List.getElem?_toArray, List.getElem?_cons_zero, List.getElem?_cons_succ] at n0 n1 n2 n3 n4 n5
      have r0 := cell_at HR2.out 0
      have r1 := cell_at HR2.out 1
      have r2 := cell_at HR2.out 2
      have r3 := cell_at HR2.out 3
      have r4 := cell_at HR2.out 4
      have r5 := cell_at HR2.out 5
      have rf := free_all HR2.out
      have rz := lt_of_heap HR2.out
      simp only [List.getElem?_toArray, List.getElem?_cons_zero, List.getElem?_cons_succ] at r0 r1 r2 r3 r4 r5
      go_enter Tryd.func130, Tryd.ntmps130
      go_upto_region 1 with fail
      rw [EW1.out, Erb.out]
      go_upto_region 3 with fail
      rw [EW2.out, Enb.out]
      go_wp2_with fail
      rw [HWF.out]
      have HRF := Lib.hid (HWF0.out ▸ setB_at zeroP HR2.out : Wf.heap[rb]? = some (.cells (boxC zeroP) 183 (0, 0)))
      have HBF := Lib.hid (HB2.out.trans ((HWF0.out ▸ setB_upd zeroP : Upd (fun k => k = rb) W2 Wf).below HB2.out.size (fun k hk e => by omega)))
      unfold boxC at HRF
      clear r0 r1 r2 r3 r4 r5 rf rz
      have r0 := cell_at HRF.out 0
      have r1 := cell_at HRF.out 1
      have r2 := cell_at HRF.out 2
      have r3 := cell_at HRF.out 3
      have r4 := cell_at HRF.out 4
      have r5 := cell_at HRF.out 5
      have rz := lt_of_heap HRF.out
      simp only [List.getElem?_toArray, List.getElem?_cons_zero, List.getElem?_cons_succ] at r0 r1 r2 r3 r4 r5
      simp only [zeroP] at r0 r1 r2 r3 r4 r5
      refine bodyPost_ret (v := .tuple #[.agg #[.int .i64 0, .int .i64 0, .int .i64 0, .int .i64 0, .int .i64 0, .int .i64 0], .bool false]) (by simp [results, Tryd.results130, go_sem, *]) rfl (⟨rfl, HBF.out⟩)
  · obtain ⟨g0, o, cap, rfl, _⟩ := row_at HH.out.r hl
    have hpos : 0 < l.length := List.length_pos_iff.2 hl
    obtain ⟨x0, x1, x2, x3, x4, x5⟩ := PRow.cell HH.out.r hpos
    simp only [Nat.zero_mul, Nat.add_zero] at x0 x1 x2 x3 x4 x5
    obtain ⟨x, hx⟩ : ∃ x, g l 0 = x := ⟨_, rfl⟩
    rw [hx] at x0 x1 x2 x3 x4 x5
    have gz := (Seg.lt HH.out.r g0 rfl).2
    have HX := Lib.hid hx
    have HNE := Lib.hid hl
    have hb1 : (0 : Int) < l.length := by omega
    have hb2 : ((l.length : Int) == 0) = false := by simp; omega
    have hrb : W.heap.size ≤ rb := by rw [← Erb.out]; exact Nat.le_refl _
    obtain ⟨Wf, hWf⟩ : ∃ z, setB W1 rb x = z := ⟨_, rfl⟩
    have HWF0 := Lib.hid hWf
    have HWF := Lib.hid hWf
    unfold setB at HWF
    clear hx hl hpos hH hWf
    have k1 := cell_at HC.out 1
    have kz := lt_of_heap HC.out
    simp only [List.getElem?_toArray, List.getElem?_cons_zero, List.getElem?_cons_succ] at k1
    have r0 := cell_at HR.out 0
    have r1 := cell_at HR.out 1
    have r2 := cell_at HR.out 2
    have r3 := cell_at HR.out 3
    have r4 := cell_at HR.out 4
    have r5 := cell_at HR.out 5
    have rf := free_all HR.out
    have rz := lt_of_heap HR.out
    simp only [List.getElem?_toArray, List.getElem?_cons_zero, List.getElem?_cons_succ] at r0 r1 r2 r3 r4 r5
    go_enter Tryd.func130, Tryd.ntmps130
    go_upto_region 1 with fail
    rw [EW1.out, Erb.out]
    go_wp2_with fail
    rw [HWF.out]
    have HRF := Lib.hid (HWF0.out ▸ setB_at x HR.out : Wf.heap[rb]? = some (.cells (boxC x) 183 (0, 0)))
    have HBF := Lib.hid (HB.out.trans ((HWF0.out ▸ setB_upd x : Upd (fun k => k = rb) W1 Wf).below HB.out.size (fun k hk e => by omega)))
    unfold boxC at HRF
    clear r0 r1 r2 r3 r4 r5 rf rz
    have r0 := cell_at HRF.out 0
    have r1 := cell_at HRF.out 1
    have r2 := cell_at HRF.out 2
    have r3 := cell_at HRF.out 3
    have r4 := cell_at HRF.out 4
    have r5 := cell_at HRF.out 5
    have rz := lt_of_heap HRF.out
    simp only [List.getElem?_toArray, List.getElem?_cons_zero, List.getElem?_cons_succ] at r0 r1 r2 r3 r4 r5
    refine bodyPost_ret (v := .tuple #[.agg #[.int .i64 x.rank, .int .i64 x.left, .int .i64 x.right, .int .i64 x.a, .int .i64 x.b, .int .i64 x.id], .bool true]) (by simp [results, Tryd.results130, go_sem, *]) rfl (⟨?_, HBF.out⟩)
    rw [if_neg HNE.out, HX.out, decide_eq_true HNE.out]
    rfl
end Go.Proofs.YtkjkgpdfhmoenaaDoor.Heap
namespace Go.Proofs.YtkjkgpdfhmoenaaDoor.Heap
open Go Go.RowKit Go.Proofs.YtkjkgpdfhmoenaaDoor.Kit Go.Proofs.YtkjkgpdfhmoenaaDoor.Range Go.Proofs.YtkjkgpdfhmoenaaDoor.Round Go.Proofs.YtkjkgpdfhmoenaaDoor.Seg Go.Proofs.YtkjkgpdfhmoenaaDoor.Collect Go.Proofs.YtkjkgpdfhmoenaaDoor.BpeLaw Go.Proofs.YtkjkgpdfhmoenaaDoor.Chain
attribute [local irreducible] wpQuiet wpStill
set_option linter.unusedSimpArgs false

/-- What Pop leaves. -/
def Popped (W : World) (base hb : Nat) (v : Value) (l : List Pr) (e : Ending) (W' : World) : Prop :=
  e = .returned (.tuple #[prV (g l 0), .bool true]) ∧ ∃ v' l', HeapAt W' base hb v' l' ∧ Hp l' ∧ (∀ y, y ∈ l' ↔ y ∈ pop l) ∧ l'.length + 1 = l.length ∧ Upd (Hb hb v) W W' ∧ (∀ b, v'.ownBlock = some b → v.ownBlock = some b)

set_option maxHeartbeats 1000000 in
set_option maxRecDepth 100000 in
theorem Pop_none (W : World) (base hb : Nat) (v : Value) (h : HeapAt W base hb v []) :
    Calls Tryd.prog 116 #[.pointer (some ⟨hb, 0, none⟩)] W fun e W' => e = .returned (.tuple #[prV zeroP, .bool false]) ∧ Below W.heap.size W W' := by
  obtain ⟨W1, hW1⟩ : ∃ Xz, W.alloc (.cells #[.int .i64 0, .int .i64 0, .int .i64 0, .int .i64 0, .int .i64 0, .int .i64 0] 183) = Xz := ⟨_, rfl⟩
  obtain ⟨rb, hrb⟩ : ∃ xz, W.heap.size = xz := ⟨_, rfl⟩
  have hb1 : Below W.heap.size W W1 := by rw [← hW1]; exact (Below.refl _ _).alloc (Nat.le_refl _) _
  have HR := Lib.hid (by rw [← hW1, ← hrb]; exact alloc_new rfl : W1.heap[rb]? = some (.cells #[.int .i64 0, .int .i64 0, .int .i64 0, .int .i64 0, .int .i64 0, .int .i64 0] 183 (0, 0)))
  have EW1 := Lib.hid hW1
  have Erb := Lib.hid hrb
  clear hW1 hrb
  have HB := Lib.hid hb1
  have HL := Lib.hid (Least_calls W1 base hb v [] (h.below hb1))
  have hrb : W.heap.size ≤ rb := by rw [← Erb.out]; exact Nat.le_refl _
  clear h hb1
  go_enter Tryd.func116, Tryd.ntmps116
  go_upto_region 1 with fail
  rw [EW1.out, Erb.out]
  go_wp2_with fail
  refine HL.out.mono ?_
  unfold Leasted
  rw [if_pos rfl]
  have hd : decide (([] : List Pr) ≠ []) = false := by simp
  rw [hd]
  simp only [prV, zeroP]
  rintro e W2 ⟨rfl, hb2⟩
  obtain ⟨W3, hW3⟩ : ∃ Xz, W2.alloc (.cells #[.int .i64 0, .int .i64 0, .int .i64 0, .int .i64 0, .int .i64 0, .int .i64 0] 183) = Xz := ⟨_, rfl⟩
  obtain ⟨xb, hxb⟩ : ∃ xz, W2.heap.size = xz := ⟨_, rfl⟩
  have hb3 : Below W2.heap.size W2 W3 := by rw [← hW3]; exact (Below.refl _ _).alloc (Nat.le_refl _) _
  have HX := Lib.hid (by rw [← hW3, ← hxb]; exact alloc_new rfl : W3.heap[xb]? = some (.cells #[.int .i64 0, .int .i64 0, .int .i64 0, .int .i64 0, .int .i64 0, .int .i64 0] 183 (0, 0)))
  have EW3 := Lib.hid hW3
  have Exb := Lib.hid hxb
  clear hW3 hxb
  have HR3 := Lib.hid (((chain hb2 hb3).block _ (lt_of_heap HR.out)).trans HR.out)
  have HB3 := Lib.hid (chain (chain HB.out hb2) hb3)
  obtain ⟨Wf, hWf⟩ : ∃ z, setB W3 rb zeroP = z := ⟨_, rfl⟩
  have HWF0 := Lib.hid hWf
  have HWF := Lib.hid hWf
  unfold setB at HWF
  simp only [zeroP] at HWF
  clear hb2 hb3 hWf HL hd
  have x0 := cell_at HX.out 0
  have x1 := cell_at HX.out 1
  have x2 := cell_at HX.out 2
  have x3 := cell_at HX.out 3
  have x4 := cell_at HX.out 4
  have x5 := cell_at HX.out 5
  have xz := lt_of_heap HX.out
  simp only [List.getElem?_toArray, List.getElem?_cons_zero, List.getElem?_cons_succ] at x0 x1 x2 x3 x4 x5
  have r0 := cell_at HR3.out 0
  have r1 := cell_at HR3.out 1
  have r2 := cell_at HR3.out 2
  have r3 := cell_at HR3.out 3
  have r4 := cell_at HR3.out 4
  have r5 := cell_at HR3.out 5
  have rf := free_all HR3.out
  have rz := lt_of_heap HR3.out
  simp only [List.getElem?_toArray, List.getElem?_cons_zero, List.getElem?_cons_succ] at r0 r1 r2 r3 r4 r5
  go_upto_region 2 with fail
  rw [EW3.out, Exb.out]
  go_wp2_with fail
  rw [HWF.out]
  have HRF := Lib.hid (HWF0.out ▸ setB_at zeroP HR3.out : Wf.heap[rb]? = some (.cells (boxC zeroP) 183 (0, 0)))
  have HBF := Lib.hid (HB3.out.trans ((HWF0.out ▸ setB_upd zeroP : Upd (fun k => k = rb) W3 Wf).below HB3.out.size (fun k hk e => by omega)))
  unfold boxC at HRF
  clear r0 r1 r2 r3 r4 r5 rf rz
  have r0 := cell_at HRF.out 0
  have r1 := cell_at HRF.out 1
  have r2 := cell_at HRF.out 2
  have r3 := cell_at HRF.out 3
  have r4 := cell_at HRF.out 4
  have r5 := cell_at HRF.out 5
  have rz := lt_of_heap HRF.out
  simp only [List.getElem?_toArray, List.getElem?_cons_zero, List.getElem?_cons_succ] at r0 r1 r2 r3 r4 r5
  simp only [zeroP] at r0 r1 r2 r3 r4 r5
  refine bodyPost_ret (v := .tuple #[.agg #[.int .i64 0, .int .i64 0, .int .i64 0, .int .i64 0, .int .i64 0, .int .i64 0], .bool false]) (by simp [results, Tryd.results116, go_sem, *]) rfl (⟨rfl, HBF.out⟩)

/-- In the loop: the one that was last stands at i. -/
structure Dnw (W wr : World) (base hb g0 o cap n : Nat) (v : Value) (rb xb : Nat) (x : Pr) (l : List Pr) (i : Nat) (l' : List Pr) : Prop where
  c : wr.heap[hb]? = some (.cells #[.func (.func 114) #[] #[], .slice (some ⟨g0, o, none⟩) n cap] 218 (0, 0))
  r : PRow wr base (.slice (some ⟨g0, o, none⟩) n cap) l'
  ln : l'.length = n
  ii : i < n ∨ (n = 0 ∧ i = 0)
  d : Dn l' i
  m : ∀ y, y ∈ l' ↔ y ∈ pop l
  upd : Upd (Hb hb v) W wr
  own : v.ownBlock = some g0 ∧ g0 < W.heap.size
  hrb : wr.heap[rb]? = some (.cells #[.int .i64 0, .int .i64 0, .int .i64 0, .int .i64 0, .int .i64 0, .int .i64 0] 183 (0, 0))
  hxb : wr.heap[xb]? = some (.cells (boxC x) 183 (0, 0))
  lo : W.heap.size ≤ rb ∧ W.heap.size ≤ xb
variable {W wr wr' : World} {base hb g0 o cap n rb xb i q : Nat} {v : Value} {x : Pr} {l l' : List Pr}
theorem Dnw.below (h : Dnw W wr base hb g0 o cap n v rb xb x l i l') (hbw : Below wr.heap.size wr wr') : Dnw W wr' base hb g0 o cap n v rb xb x l i l' :=
  ⟨(hbw.block _ (lt_of_heap h.c)).trans h.c, Seg.below h.r hbw, h.ln, h.ii, h.d, h.m, h.upd.later hbw, h.own, (hbw.block _ (lt_of_heap h.hrb)).trans h.hrb, (hbw.block _ (lt_of_heap h.hxb)).trans h.hxb, h.lo⟩
theorem Dnw.step (h : Dnw W wr base hb g0 o cap n v rb xb x l i l') (hi : i < n) (hq : low2 l' i = q) (hne : q ≠ i) (he : setP (setP wr g0 o i (g l' q)) g0 o q (g l' i) = wr') : Dnw W wr' base hb g0 o cap n v rb xb x l q (swap l' i q) := by
  have hil : i < l'.length := by rw [h.ln]; exact hi
  obtain ⟨_, hql, _, _⟩ := low_spec l' i hil
  have hu : Upd (fun b => b = g0) wr wr' := by rw [← he]; exact (setP_upd _).trans (setP_upd _)
  have hh : hb ≠ g0 := fun e => by
    subst e
    exact no_own h.r h.c (by decide) rfl
  have hd := h.d.step hil (by rw [hq]; exact hne)
  rw [hq] at hql hd
  refine ⟨(hu.block hb (lt_of_heap h.c) hh).trans h.c, ?_, by rw [swap_len]; exact h.ln, .inl (by rw [← h.ln]; exact hql), hd, fun y => (mem_swap hil hql y).trans (h.m y), ?_, h.own, ?_, ?_, h.lo⟩
  · rw [← he]
    have := h.r
    rw [← h.ln] at this ⊢
    exact swap_two this hil hql
  · refine ⟨hu.os.trans h.upd.os, hu.tape.trans h.upd.tape, hu.output.trans h.upd.output, Nat.le_trans h.upd.size hu.size, fun b hb' hn => ?_⟩
    rw [hu.block b (Nat.lt_of_lt_of_le hb' h.upd.size) (fun e => ?_), h.upd.block b hb' hn]
    subst e
    exact hn (.inr h.own.1)
  · exact (hu.block rb (lt_of_heap h.hrb) (fun e => by have := h.lo.1; have := h.own.2; omega)).trans h.hrb
  · exact (hu.block xb (lt_of_heap h.hxb) (fun e => by have := h.lo.2; have := h.own.2; omega)).trans h.hxb
theorem Dnw.fin (h : Dnw W wr base hb g0 o cap n v rb xb x l i l') (hs : low2 l' i = i) (hn : n + 1 = l.length) (hlo : base ≤ W.heap.size) (hx : g l 0 = x) (hu : Upd (fun b => b = rb) wr wr') : Popped W base hb v l (.returned (.tuple #[prV x, .bool true])) wr' := by
  have hh : hb ≠ rb := fun e => by
    have h1 := h.c
    rw [e, h.hrb] at h1
    simp only [Option.some.injEq, Obj.cells.injEq] at h1
    exact absurd h1.2.1 (by decide)
  have hg : g0 ≠ rb := fun e => by have := h.lo.1; have := h.own.2; omega
  refine ⟨by rw [hx], .slice (some ⟨g0, o, none⟩) n cap, l', ⟨(hu.block hb (lt_of_heap h.c) hh).trans h.c, Seg.upd h.r hu (fun b hb' e => ?_), Nat.le_trans hlo (Nat.le_trans h.upd.size hu.size)⟩, ?_, h.m, by rw [h.ln]; exact hn, ?_, fun b hb' => ?_⟩
  · simp only [Value.ownBlock, Option.some.injEq] at hb'
    exact hg (hb'.trans e)
  · rcases h.ii with hi | ⟨hi, _⟩
    · exact h.d.stop (by rw [h.ln]; exact hi) hs
    · intro k hk hkl
      rw [h.ln] at hkl
      omega
  · refine ⟨hu.os.trans h.upd.os, hu.tape.trans h.upd.tape, hu.output.trans h.upd.output, Nat.le_trans h.upd.size hu.size, fun b hb' hn => ?_⟩
    rw [hu.block b (Nat.lt_of_lt_of_le hb' h.upd.size) (fun e => by have := h.lo.1; omega), h.upd.block b hb' hn]
  · simp only [Value.ownBlock, Option.some.injEq] at hb'
    subst hb'
    exact h.own.1
theorem setP_at {w : World} {b g0 o i : Nat} {ob : Obj} (x : Pr) (h : w.heap[b]? = some ob) (hne : b ≠ g0) : (setP w g0 o i x).heap[b]? = some ob := ((setP_upd x).block b (lt_of_heap h) hne).trans h
/-- The way into the loop. -/
theorem Dnw.begin {W3 W4 W5 W6 W7 : World} (hl : l ≠ []) (hp : Hp l) (h : HeapAt W3 base hb (.slice (some ⟨g0, o, none⟩) l.length cap) l) (hW : Below W.heap.size W W3) (hg : g0 < W.heap.size) (hlo : W.heap.size ≤ rb ∧ W.heap.size ≤ xb)
    (hrb : W3.heap[rb]? = some (.cells #[.int .i64 0, .int .i64 0, .int .i64 0, .int .i64 0, .int .i64 0, .int .i64 0] 183 (0, 0))) (hxb : W3.heap[xb]? = some (.cells (boxC x) 183 (0, 0)))
    (hn : n + 1 = l.length) (h4 : (setP W3 g0 o 0 (g l n)).drew = W4) (h5 : W4.alloc (.cells #[.int .i64 0, .int .i64 0, .int .i64 0, .int .i64 0, .int .i64 0, .int .i64 0] 183) = W5) (h6 : (setP W5 g0 o n zeroP).drew = W6) (h7 : W6.setCell ⟨hb, 1, none⟩ (.slice (some ⟨g0, o, none⟩) n cap) = W7) :
    Dnw W W7 base hb g0 o cap n (.slice (some ⟨g0, o, none⟩) l.length cap) rb xb x l 0 (pop l) := by
  have hpos : 0 < l.length := List.length_pos_iff.2 hl
  have hgr : g0 ≠ rb := by omega
  have hgx : g0 ≠ xb := by omega
  have hgh : hb ≠ g0 := fun e => by
    subst e
    exact no_own h.r h.c (by decide) rfl
  have hhr : hb ≠ rb := fun e => by
    have h1 := h.c
    rw [e, hrb] at h1
    simp only [Option.some.injEq, Obj.cells.injEq] at h1
    exact absurd h1.2.1 (by decide)
  have hhx : hb ≠ xb := fun e => by
    have h1 := h.c
    rw [e, hxb] at h1
    simp only [Option.some.injEq, Obj.cells.injEq] at h1
    exact absurd h1.2.1 (by decide)
  have hb5 : Below W4.heap.size W4 W5 := by rw [← h5]; exact (Below.refl _ _).alloc (Nat.le_refl _) _
  have u4 : Upd (fun b => b = g0) W3 W4 := by rw [← h4]; exact (setP_upd _).drew
  have u6 : Upd (fun b => b = g0) W5 W6 := by rw [← h6]; exact (setP_upd _).drew
  have u7 : Upd (fun b => b = hb) W6 W7 := by rw [← h7]; exact Upd.setCell (S := fun b => b = hb) (p := ⟨hb, 1, none⟩) (Upd.refl _ _) (fun _ => rfl) _
  have r4 : PRow W4 base (.slice (some ⟨g0, o, none⟩) l.length cap) (l.set 0 (g l n)) := by
    rw [← h4]
    exact Seg.below (PRow.set h.r hpos (g l n)) (Below.refl _ _).drew
  have r5 := Seg.below r4 hb5
  have l1 : (l.set 0 (g l n)).length = l.length := by simp
  have r6 : PRow W6 base (.slice (some ⟨g0, o, none⟩) l.length cap) ((l.set 0 (g l n)).set n zeroP) := by
    rw [← h6]
    have r5' : PRow W5 base (.slice (some ⟨g0, o, none⟩) (l.set 0 (g l n)).length cap) (l.set 0 (g l n)) := by rw [l1]; exact r5
    have := PRow.set r5' (i := n) (by omega) zeroP
    rw [l1] at this
    exact Seg.below this (Below.refl _ _).drew
  have l2 : ((l.set 0 (g l n)).set n zeroP).length = l.length := by simp
  have hpop : ((l.set 0 (g l n)).set n zeroP).take n = pop l := by
    unfold pop
    rw [List.take_set_of_le (Nat.le_refl _), show l.length - 1 = n by omega]
  have r7 : PRow W7 base (.slice (some ⟨g0, o, none⟩) n cap) (pop l) := by
    have h8 : Seg W6 base 183 6 (.slice (some ⟨g0, o, none⟩) l.length cap) l.length (flatP ((l.set 0 (g l n)).set n zeroP)) := by have := r6; unfold PRow at this; rw [l2] at this; exact this
    have h9 := Seg.take h8 (k := n) (by omega)
    rw [flatP_take, hpop] at h9
    have h10 := Seg.upd h9 u7 (fun b hb' e => by simp only [Value.ownBlock, Option.some.injEq] at hb'; exact hgh (e.symm.trans hb'.symm))
    unfold PRow
    rw [pop_len, show l.length - 1 = n by omega]
    exact h10
  have k46 : ∀ b ob, b ≠ g0 → W3.heap[b]? = some ob → W6.heap[b]? = some ob := fun b ob hne hh => by
    have e4 := (u4.block b (lt_of_heap hh) hne).trans hh
    have e5 := (hb5.block b (lt_of_heap e4)).trans e4
    exact (u6.block b (lt_of_heap e5) hne).trans e5
  refine ⟨by rw [← h7]; exact heap_set (k46 hb _ hgh h.c) 1 _, r7, by rw [pop_len]; omega, ?_, Dn.begin hp, fun y => Iff.rfl, ?_, ⟨rfl, hg⟩, (u7.block rb (lt_of_heap (k46 rb _ (Ne.symm hgr) hrb)) (Ne.symm hhr)).trans (k46 rb _ (Ne.symm hgr) hrb), (u7.block xb (lt_of_heap (k46 xb _ (Ne.symm hgx) hxb)) (Ne.symm hhx)).trans (k46 xb _ (Ne.symm hgx) hxb), hlo⟩
  · rcases Nat.eq_zero_or_pos n with h0 | h0
    · exact .inr ⟨h0, rfl⟩
    · exact .inl h0
  · exact (Upd.of_below hW).trans ((u4.mono fun b _ e => .inr (by rw [e]; rfl)).trans ((Upd.of_below hb5).trans ((u6.mono fun b _ e => .inr (by rw [e]; rfl)).trans (u7.mono fun b _ e => .inl e))))

theorem pop_mid {W3 W4 W5 W6 : World} (hl : l ≠ []) (h : HeapAt W3 base hb (.slice (some ⟨g0, o, none⟩) l.length cap) l) (_hn : n + 1 = l.length) (h4 : (setP W3 g0 o 0 (g l n)).drew = W4)
    (h5 : W4.alloc (.cells #[.int .i64 0, .int .i64 0, .int .i64 0, .int .i64 0, .int .i64 0, .int .i64 0] 183) = W5) (h6 : (setP W5 g0 o n zeroP).drew = W6) :
    (∀ b ob, b ≠ g0 → W3.heap[b]? = some ob → W4.heap[b]? = some ob ∧ W5.heap[b]? = some ob ∧ W6.heap[b]? = some ob) ∧ Seg W5 base 183 6 (.slice (some ⟨g0, o, none⟩) l.length cap) l.length (flatP (l.set 0 (g l n))) := by
  have hpos : 0 < l.length := List.length_pos_iff.2 hl
  have hb5 : Below W4.heap.size W4 W5 := by rw [← h5]; exact (Below.refl _ _).alloc (Nat.le_refl _) _
  have u4 : Upd (fun b => b = g0) W3 W4 := by rw [← h4]; exact (setP_upd _).drew
  have u6 : Upd (fun b => b = g0) W5 W6 := by rw [← h6]; exact (setP_upd _).drew
  have r4 : PRow W4 base (.slice (some ⟨g0, o, none⟩) l.length cap) (l.set 0 (g l n)) := by
    rw [← h4]
    exact Seg.below (PRow.set h.r hpos (g l n)) (Below.refl _ _).drew
  refine ⟨fun b ob hne hh => ?_, by have := Seg.below r4 hb5; rwa [List.length_set] at this⟩
  have e4 := (u4.block b (lt_of_heap hh) hne).trans hh
  have e5 := (hb5.block b (lt_of_heap e4)).trans e4
  exact ⟨e4, e5, (u6.block b (lt_of_heap e5) hne).trans e5⟩
/-- The least of the first t of those below i, and i. -/
def lowT (l : List Pr) (i t : Nat) : Nat := if t = 0 then i else if t = 1 then low1 l i else low2 l i
theorem lowT_lt {l : List Pr} {i t : Nat} (hi : i < l.length) : lowT l i t < l.length := by
  unfold lowT
  split
  · exact hi
  · split
    · unfold low1; split
      · rename_i h; exact h.1
      · exact hi
    · exact (low_spec l i hi).2.1
theorem lowT_next {l : List Pr} {i t : Nat} (ht : t < 2) (hk : 2 * i + 1 + t < l.length) : lowT l i (t + 1) = if before (g l (2 * i + 1 + t)) (g l (lowT l i t)) then 2 * i + 1 + t else lowT l i t := by
  rcases (show t = 0 ∨ t = 1 by omega) with rfl | rfl
  · show low1 l i = if before (g l (2 * i + 1)) (g l i) then 2 * i + 1 else i
    unfold low1
    by_cases h : before (g l (2 * i + 1)) (g l i)
    · rw [if_pos h, if_pos ⟨hk, h⟩]
    · rw [if_neg h, if_neg (fun q => h q.2)]
  · show low2 l i = if before (g l (2 * i + 2)) (g l (low1 l i)) then 2 * i + 2 else low1 l i
    unfold low2
    by_cases h : before (g l (2 * i + 2)) (g l (low1 l i))
    · rw [if_pos h, if_pos ⟨hk, h⟩]
    · rw [if_neg h, if_neg (fun q => h q.2)]
theorem lowT_end {l : List Pr} {i t : Nat} (ht : t ≤ 2) (hk : t = 2 ∨ l.length ≤ 2 * i + 1 + t) : lowT l i t = low2 l i := by
  rcases (show t = 0 ∨ t = 1 ∨ t = 2 by omega) with rfl | rfl | rfl
  · show i = low2 l i
    unfold low2 low1
    rw [if_neg (fun q => by have := q.1; omega), if_neg (fun q => by have := q.1; omega)]
  · show low1 l i = low2 l i
    unfold low2
    rw [if_neg (fun q => by have := q.1; omega)]
  · rfl


set_option maxHeartbeats 4000000 in
set_option maxRecDepth 100000 in
theorem Pop_some (W : World) (base hb : Nat) (v : Value) (l : List Pr) (h : HeapAt W base hb v l) (hl : l ≠ []) (hp : Hp l) (hn : l.length ≤ 10000001) :
    Calls Tryd.prog 116 #[.pointer (some ⟨hb, 0, none⟩)] W (Popped W base hb v l) := by
  obtain ⟨g0, o, cap, rfl, _⟩ := row_at h.r hl
  have hg := (Seg.lt h.r g0 rfl).2
  have hlo := h.lo
  obtain ⟨n, hnn⟩ : ∃ n, n + 1 = l.length := ⟨l.length - 1, by have := List.length_pos_iff.2 hl; omega⟩
  obtain ⟨W1, hW1⟩ : ∃ Xz, W.alloc (.cells #[.int .i64 0, .int .i64 0, .int .i64 0, .int .i64 0, .int .i64 0, .int .i64 0] 183) = Xz := ⟨_, rfl⟩
  obtain ⟨rb, hrb⟩ : ∃ xz, W.heap.size = xz := ⟨_, rfl⟩
  have hb1 : Below W.heap.size W W1 := by rw [← hW1]; exact (Below.refl _ _).alloc (Nat.le_refl _) _
  have HR := Lib.hid (by rw [← hW1, ← hrb]; exact alloc_new rfl : W1.heap[rb]? = some (.cells #[.int .i64 0, .int .i64 0, .int .i64 0, .int .i64 0, .int .i64 0, .int .i64 0] 183 (0, 0)))
  have EW1 := Lib.hid hW1
  have Erb := Lib.hid hrb
  clear hW1 hrb
  have HB := Lib.hid hb1
  have HH := Lib.hid (h.below hb1)
  have HL := Lib.hid (Least_calls W1 base hb _ l (h.below hb1))
  have hrb : W.heap.size ≤ rb := by rw [← Erb.out]; exact Nat.le_refl _
  obtain ⟨x, hx⟩ : ∃ x, g l 0 = x := ⟨_, rfl⟩
  obtain ⟨y, hy⟩ : ∃ y, g l n = y := ⟨_, rfl⟩
  have HX := Lib.hid hx
  have HY := Lib.hid hy
  have HP := Lib.hid hp
  have HNE := Lib.hid hl
  have HLO := Lib.hid hlo
  have HG := Lib.hid hg
  obtain ⟨ll, hll⟩ : ∃ ll, l.length = ll := ⟨_, rfl⟩
  have hw1 : IntKind.i64.wrap ((ll : Int) - 1) = (n : Int) := by rw [i64w _ (by omega) (by omega)]; omega
  clear h hb1 hlo hg
  go_enter Tryd.func116, Tryd.ntmps116
  go_upto_region 1 with fail
  rw [EW1.out, Erb.out]
  go_wp2_with fail
  refine HL.out.mono ?_
  unfold Leasted
  rw [if_neg hl, decide_eq_true hl, hx]
  simp only [prV]
  rintro e W2 ⟨rfl, hb2⟩
  obtain ⟨W3, hW3⟩ : ∃ Xz, W2.alloc (.cells #[.int .i64 x.rank, .int .i64 x.left, .int .i64 x.right, .int .i64 x.a, .int .i64 x.b, .int .i64 x.id] 183) = Xz := ⟨_, rfl⟩
  obtain ⟨xb, hxb⟩ : ∃ xz, W2.heap.size = xz := ⟨_, rfl⟩
  have hb3 : Below W2.heap.size W2 W3 := by rw [← hW3]; exact (Below.refl _ _).alloc (Nat.le_refl _) _
  have HXB := Lib.hid (by rw [← hW3, ← hxb]; exact alloc_new rfl : W3.heap[xb]? = some (.cells #[.int .i64 x.rank, .int .i64 x.left, .int .i64 x.right, .int .i64 x.a, .int .i64 x.b, .int .i64 x.id] 183 (0, 0)))
  have EW3 := Lib.hid hW3
  have Exb := Lib.hid hxb
  clear hW3 hxb
  have HR3 := Lib.hid (((chain hb2 hb3).block _ (lt_of_heap HR.out)).trans HR.out)
  have HB3 := Lib.hid (chain (chain HB.out hb2) hb3)
  have HH3 := Lib.hid (HH.out.below (chain hb2 hb3))
  have hxb : W.heap.size ≤ xb := by rw [← Exb.out]; exact (chain HB.out hb2).size
  obtain ⟨W4, h4⟩ : ∃ z, (setP W3 g0 o 0 y).drew = z := ⟨_, rfl⟩
  obtain ⟨W5, h5⟩ : ∃ z, W4.alloc (.cells #[.int .i64 0, .int .i64 0, .int .i64 0, .int .i64 0, .int .i64 0, .int .i64 0] 183) = z := ⟨_, rfl⟩
  obtain ⟨nb, hnb⟩ : ∃ z, W4.heap.size = z := ⟨_, rfl⟩
  obtain ⟨W6, h6⟩ : ∃ z, (setP W5 g0 o n zeroP).drew = z := ⟨_, rfl⟩
  obtain ⟨W7, h7⟩ : ∃ z, W6.setCell ⟨hb, 1, none⟩ (.slice (some ⟨g0, o, none⟩) n cap) = z := ⟨_, rfl⟩
  have HD := Lib.hid (Dnw.begin (x := x) hl hp HH3.out HB3.out HG.out ⟨hrb, hxb⟩ HR3.out HXB.out hnn (by rw [hy]; exact h4) h5 h6 h7)
  obtain ⟨hmid, hr5⟩ := pop_mid hl HH3.out hnn (by rw [hy]; exact h4) h5 h6
  have hhg : hb ≠ g0 := fun e => by
    subst e
    exact no_own HH3.out.r HH3.out.c (by decide) rfl
  have hm := hmid hb _ hhg HH3.out.c
  have HC3 := Lib.hid HH3.out.c
  have HC4 := Lib.hid hm.1
  have HC5 := Lib.hid hm.2.1
  have HC6 := Lib.hid hm.2.2
  have HN5 := Lib.hid (show W5.heap[nb]? = some (.cells #[.int .i64 0, .int .i64 0, .int .i64 0, .int .i64 0, .int .i64 0, .int .i64 0] 183 (0, 0)) from by rw [← h5, ← hnb]; exact alloc_new rfl)
  obtain ⟨y0, y1, y2, y3, y4, y5⟩ := PRow.cell HH3.out.r (show n < l.length by omega)
  rw [hy] at y0 y1 y2 y3 y4 y5
  obtain ⟨z0, z1, z2, z3, z4, z5⟩ := PRow.cell HH3.out.r (show 0 < l.length by omega)
  simp only [Nat.zero_mul, Nat.add_zero] at z0 z1 z2 z3 z4 z5
  obtain ⟨q0, q1, q2, q3, q4, q5⟩ := PRow.cell (l := l.set 0 (g l n)) (by have := hr5; unfold PRow; rw [List.length_set]; exact this) (show n < (l.set 0 (g l n)).length by rw [List.length_set]; omega)
  generalize g (l.set 0 (g l n)) n = qq at q0 q1 q2 q3 q4 q5
  generalize g l 0 = zz at z0 z1 z2 z3 z4 z5
  have gf3 := seg_free HH3.out.r
  have gz3 := (Seg.lt HH3.out.r g0 rfl).2
  have gf5 := seg_free hr5
  have gz5 := (Seg.lt hr5 g0 rfl).2
  have H4 := Lib.hid h4
  have H5 := Lib.hid h5
  have H6 := Lib.hid h6
  have H7 := Lib.hid h7
  have HNB := Lib.hid hnb
  have HNN := Lib.hid hnn
  have hi1 : (n : Int) < ll := by omega
  have hi2 : (0 : Int) ≤ n := by omega
  have hi3 : (0 : Int) < ll := by omega
  have hi5 : 0 < ll := by omega
  have hN : n ≤ 10000000 := by omega
  have hi6 : n < ll := by omega
  have hi4 : (n : Int) ≤ cap := by omega
  unfold setP at H4 H6
  simp only [Nat.zero_mul, Nat.add_zero] at H4
  simp only [zeroP] at H6
  rw [hll] at HC3 HC4 HC5 HC6 HD
  clear hm hmid hr5 h4 h5 h6 h7 hnb hnn hb2 hb3 HL hx hy hp hl hn HH HR
  have HLL := Lib.hid hll
  clear hll
  have x0 := cell_at HXB.out 0
  have x1 := cell_at HXB.out 1
  have x2 := cell_at HXB.out 2
  have x3 := cell_at HXB.out 3
  have x4 := cell_at HXB.out 4
  have x5 := cell_at HXB.out 5
  have xz := lt_of_heap HXB.out
  simp only [List.getElem?_toArray, List.getElem?_cons_zero, List.getElem?_cons_succ] at x0 x1 x2 x3 x4 x5
  have k1 := cell_at HC3.out 1
  have kz := lt_of_heap HC3.out
  simp only [List.getElem?_toArray, List.getElem?_cons_zero, List.getElem?_cons_succ] at k1
  go_upto_region 2 with fail
  rw [EW3.out, Exb.out]
  go_upto_region 5 with fail
  refine region_tail 12 (by kernel_rfl) (by kernel_rfl) ?_
  simp only [List.take_succ_cons, List.take_zero, List.drop_succ_cons, List.drop_zero]
  repeat (first | still_step)
  refine wpStill_nil ?_
  go_upto_region 6 with fail
  rw [H4.out]
  clear x0 x1 x2 x3 x4 x5 xz k1 kz
  go_upto_region 7 with fail
  rw [H5.out, HNB.out]
  have k1 := cell_at HC5.out 1
  have kz := lt_of_heap HC5.out
  simp only [List.getElem?_toArray, List.getElem?_cons_zero, List.getElem?_cons_succ] at k1
  have x0 := cell_at HN5.out 0
  have x1 := cell_at HN5.out 1
  have x2 := cell_at HN5.out 2
  have x3 := cell_at HN5.out 3
  have x4 := cell_at HN5.out 4
  have x5 := cell_at HN5.out 5
  have xz := lt_of_heap HN5.out
  simp only [List.getElem?_toArray, List.getElem?_cons_zero, List.getElem?_cons_succ] at x0 x1 x2 x3 x4 x5
  refine region_tail 7 (by kernel_rfl) (by kernel_rfl) ?_
  simp only [List.take_succ_cons, List.take_zero, List.drop_succ_cons, List.drop_zero]
  repeat (first | still_step)
  refine wpStill_nil ?_
  go_upto_region 8 with fail
  rw [H6.out]
  clear k1 kz x0 x1 x2 x3 x4 x5 xz
  have k1 := cell_at HC6.out 1
  have kf := free_all HC6.out
  have kz := lt_of_heap HC6.out
  simp only [List.getElem?_toArray, List.getElem?_cons_zero, List.getElem?_cons_succ] at k1
  go_upto_region 10 with fail
  rw [H7.out]
  clear k1 kf kz y0 y1 y2 y3 y4 y5 z0 z1 z2 z3 z4 z5 q0 q1 q2 q3 q4 q5 gf3 gz3 gf5 gz5 HC3 HC4 HC5 HC6 HN5 HR3 HXB HB3 HH3 hw1 hi1 hi3 hi5 hi6 hi4 HY HP
  go_loopg [8] n (fun gg s8 wr => ∃ (i : Nat) (l' : List Pr), s8 = .int .i64 i ∧ gg = n - i ∧ Dnw W wr base hb g0 o cap n (.slice (some ⟨g0, o, none⟩) ll cap) rb xb x l i l')
  case atStart => exact ⟨0, _, rfl, rfl, HD.out⟩
  case round =>
    obtain ⟨i, l', rfl, hgi, hs⟩ := hrel
    have HGI := Lib.hid hgi
    have HS := Lib.hid hs
    have hii := hs.ii
    clear hgi hs HD
    obtain ⟨wo, hwo⟩ : ∃ wo : World, wo = wr := ⟨_, rfl⟩
    rw [← hwo] at HS ⊢
    have hw1 : IntKind.i64.wrap (2 * (i : Int)) = 2 * (i : Int) := i64w _ (by omega) (by omega)
    have hw2 : IntKind.i64.wrap (2 * (i : Int) + 1) = 2 * (i : Int) + 1 := i64w _ (by omega) (by omega)
    have hw3 : IntKind.i64.wrap (2 * (i : Int) + 2) = 2 * (i : Int) + 2 := i64w _ (by omega) (by omega)
    have HII := Lib.hid hii
    have hib : i ≤ 10000000 := by omega
    clear hwo hii
    go_upto_region 12 with fail
    go_loopg [9, 10] 2 (fun g2 s9 s10 wx => ∃ t k q : Nat, t ≤ 2 ∧ g2 = 2 - t ∧ lowT l' i t = q ∧ 2 * i + 1 + t = k ∧ s9 = .int .i64 q ∧ s10 = .int .i64 k ∧ Below wo.heap.size wo wx)
    case atStart => exact ⟨0, 2 * i + 1, i, by omega, by omega, rfl, rfl, rfl, by simp, Below.refl _ _⟩
    case round =>
      obtain ⟨t, k, q, ht, hg2, hq, hk, rfl, rfl, hbx⟩ := hrel
      have HG2 := Lib.hid hg2
      have HS2 := Lib.hid (HS.out.below hbx)
      have HBX := Lib.hid hbx
      have HC := Lib.hid HS2.out.c
      have HQ := Lib.hid hq
      have HK := Lib.hid hk
      have hw4 : IntKind.i64.wrap ((k : Int) + 1) = ((k + 1 : Nat) : Int) := by rw [i64w _ (by omega) (by omega)]; omega
      have hln := HS2.out.ln
      clear hg2 hbx
      by_cases hc : t < 2 ∧ k < n
      · have hin : i < l'.length := by rw [hln]; omega
        have hkl : k < l'.length := by rw [hln]; exact hc.2
        have hql : q < l'.length := by rw [← hq]; exact lowT_lt hin
        obtain ⟨xk, hxk⟩ : ∃ z, g l' k = z := ⟨_, rfl⟩
        obtain ⟨xq, hxq⟩ : ∃ z, g l' q = z := ⟨_, rfl⟩
        obtain ⟨y0, y1, y2, y3, y4, y5⟩ := PRow.cell HS2.out.r hkl
        obtain ⟨z0, z1, z2, z3, z4, z5⟩ := PRow.cell HS2.out.r hql
        rw [hxk] at y0 y1 y2 y3 y4 y5
        rw [hxq] at z0 z1 z2 z3 z4 z5
        have HNX := Lib.hid (lowT_next (l := l') (i := i) (t := t) hc.1 (by rw [hk]; exact hkl))
        rw [hk, hq, hxk, hxq] at HNX
        have hk1 : (k : Int) ≤ 2 * (i : Int) + 2 := by omega
        have hk2 : (k : Int) < n := by omega
        have hk3 : (0 : Int) ≤ k := by omega
        have hq1 : (q : Int) < n := by omega
        have hq2 : (0 : Int) ≤ q := by omega
        have hk4 : k < n := hc.2
        have hq4 : q < n := by omega
        have gz := (Seg.lt HS2.out.r g0 rfl).2
        have HTT := Lib.hid hc.1
        have HBF := Lib.hid (before_calls xk xq wr.drew)
        unfold prV at HBF
        clear hc hin hkl hql hxk hxq hq hk ht hln
        have k0 := cell_at HC.out 0
        have k1 := cell_at HC.out 1
        have kz := lt_of_heap HC.out
        simp only [List.getElem?_toArray, List.getElem?_cons_zero, List.getElem?_cons_succ] at k0 k1
        go_upto_region 14 with fail
        refine region_tail 18 (by kernel_rfl) (by kernel_rfl) ?_
        simp only [List.take_succ_cons, List.take_zero, List.drop_succ_cons, List.drop_zero]
        repeat (first | still_step)
        refine wpStill_nil ?_
        go_wp2_with fail
        refine HBF.out.mono ?_
        rintro e W8 ⟨rfl, hb8'⟩
        have hb8 : Below wo.heap.size wo W8 := chain HBX.out (chain (Below.refl wr.heap.size wr).drew hb8')
        have HB8 := Lib.hid hb8
        clear hb8 hb8' HBF y0 y1 y2 y3 y4 y5 z0 z1 z2 z3 z4 z5 k0 k1 kz gz
        by_cases hbf : before xk xq
        · have hd : decide (before xk xq) = true := decide_eq_true hbf
          rw [hd]
          have HN2 := Lib.hid (HNX.out.trans (if_pos hbf))
          clear hd hbf
          go_wp2_with fail
          go_roundg (2 - (t + 1))
          case measure => have := HG2.out; have := HTT.out; omega
          case rel => exact ⟨t + 1, k + 1, k, by have := HTT.out; omega, rfl, HN2.out, by have := HK.out; omega, rfl, rfl, HB8.out⟩
        · have hd : decide (before xk xq) = false := decide_eq_false hbf
          rw [hd]
          have HN2 := Lib.hid (HNX.out.trans (if_neg hbf))
          clear hd hbf
          go_wp2_with fail
          go_roundg (2 - (t + 1))
          case measure => have := HG2.out; have := HTT.out; omega
          case rel => exact ⟨t + 1, k + 1, q, by have := HTT.out; omega, rfl, HN2.out, by have := HK.out; omega, rfl, rfl, HB8.out⟩
      · have hlow : q = low2 l' i := by
          rw [← hq]
          exact lowT_end ht (by omega)
        by_cases ht2 : t < 2
        · have hk1 : (k : Int) ≤ 2 * (i : Int) + 2 := by omega
          have hk2 : ¬ ((k : Int) < n) := by omega
          have hk3 : ¬ (k < n) := by omega
          clear hc ht2
          have hc0 := cell_at HC.out 1
          simp only [List.getElem?_toArray, List.getElem?_cons_zero, List.getElem?_cons_succ] at hc0
          have hc1 := lt_of_heap HC.out
          go_upto_region 16 with fail
          clear hc0 hc1
          by_cases hqi : q = i
          · have heq : ((q : Int) == (i : Int)) = true := by simp [hqi]
            have hlo2 : low2 l' i = i := hlow.symm.trans hqi
            have HR2 := Lib.hid HS2.out.hrb
            have HX2 := Lib.hid HS2.out.hxb
            unfold boxC at HX2
            obtain ⟨Wf, hWf⟩ : ∃ z, setB wr rb x = z := ⟨_, rfl⟩
            have HWF0 := Lib.hid hWf
            have HWF := Lib.hid hWf
            unfold setB at HWF
            have HLOW := Lib.hid hlo2
            clear hWf hlo2 hlow hqi hln hq hk ht
            have x0 := cell_at HX2.out 0
            have x1 := cell_at HX2.out 1
            have x2 := cell_at HX2.out 2
            have x3 := cell_at HX2.out 3
            have x4 := cell_at HX2.out 4
            have x5 := cell_at HX2.out 5
            have xz := lt_of_heap HX2.out
            simp only [List.getElem?_toArray, List.getElem?_cons_zero, List.getElem?_cons_succ] at x0 x1 x2 x3 x4 x5
            have r0 := cell_at HR2.out 0
            have r1 := cell_at HR2.out 1
            have r2 := cell_at HR2.out 2
            have r3 := cell_at HR2.out 3
            have r4 := cell_at HR2.out 4
            have r5 := cell_at HR2.out 5
            have rf := free_all HR2.out
            have rz := lt_of_heap HR2.out
            simp only [List.getElem?_toArray, List.getElem?_cons_zero, List.getElem?_cons_succ] at r0 r1 r2 r3 r4 r5
            go_wp2_with fail
            rw [HWF.out]
            have HRF := Lib.hid (HWF0.out ▸ setB_at x HR2.out : Wf.heap[rb]? = some (.cells (boxC x) 183 (0, 0)))
            have HUF := Lib.hid (HWF0.out ▸ setB_upd x : Upd (fun k => k = rb) wr Wf)
            unfold boxC at HRF
            clear r0 r1 r2 r3 r4 r5 rf rz
            have r0 := cell_at HRF.out 0
            have r1 := cell_at HRF.out 1
            have r2 := cell_at HRF.out 2
            have r3 := cell_at HRF.out 3
            have r4 := cell_at HRF.out 4
            have r5 := cell_at HRF.out 5
            have rz := lt_of_heap HRF.out
            simp only [List.getElem?_toArray, List.getElem?_cons_zero, List.getElem?_cons_succ] at r0 r1 r2 r3 r4 r5
            refine bodyPost_ret (v := .tuple #[.agg #[.int .i64 x.rank, .int .i64 x.left, .int .i64 x.right, .int .i64 x.a, .int .i64 x.b, .int .i64 x.id], .bool true]) (by simp [results, Tryd.results116, go_sem, *]) rfl (?_)
            have hfin := HS2.out.fin (base := base) HLOW.out HNN.out HLO.out HX.out HUF.out
            rw [← HLL.out] at hfin
            exact hfin
          · have heq : ((q : Int) == (i : Int)) = false := by simp; omega
            have hin : i < n := by
              rcases HII.out with h | ⟨h1, h2⟩
              · exact h
              · exfalso
                refine hqi ?_
                rw [hlow, h2]
                unfold low2 low1
                rw [if_neg (fun z => by have := z.1; omega), if_neg (fun z => by have := z.1; omega)]
            have hil : i < l'.length := by rw [hln]; exact hin
            obtain ⟨sp1, sp2, _, _⟩ := low_spec l' i hil
            rw [← hlow] at sp1 sp2
            have hqg : i < q := by
              rcases sp1 with h | h
              · exact absurd h hqi
              · omega
            have hqn : q < n := by rw [← hln]; exact sp2
            obtain ⟨xi, hxi⟩ : ∃ z, g l' i = z := ⟨_, rfl⟩
            obtain ⟨xq, hxq⟩ : ∃ z, g l' q = z := ⟨_, rfl⟩
            obtain ⟨y0, y1, y2, y3, y4, y5⟩ := PRow.cell HS2.out.r hil
            obtain ⟨z0, z1, z2, z3, z4, z5⟩ := PRow.cell HS2.out.r sp2
            rw [hxi] at y0 y1 y2 y3 y4 y5
            rw [hxq] at z0 z1 z2 z3 z4 z5
            obtain ⟨W9, hW9⟩ : ∃ z, setP (setP wr g0 o i xq) g0 o q xi = z := ⟨_, rfl⟩
            have hW9' : setP (setP wr g0 o i (g l' q)) g0 o q (g l' i) = W9 := by rw [← hW9, hxi, hxq]
            have HFIN := Lib.hid (HS2.out.step hin hlow.symm hqi hW9')
            clear hW9'
            have HW9 := Lib.hid hW9
            unfold setP at HW9
            have gf := seg_free HS2.out.r
            have gz := (Seg.lt HS2.out.r g0 rfl).2
            have hi1 : (i : Int) < n := by omega
            have hi2 : (0 : Int) ≤ i := by omega
            have hq1 : (q : Int) < n := by omega
            have hq2 : (0 : Int) ≤ q := by omega
            have hne : i ≠ q := by omega
            have HQG := Lib.hid hqg
            have HQN := Lib.hid hqn
            clear hW9 hxi hxq sp1 sp2 hqi hlow hln hq hk ht hil hqg
            have k0 := cell_at HC.out 0
            have k1 := cell_at HC.out 1
            have kf := free_all HC.out
            have kz := lt_of_heap HC.out
            simp only [List.getElem?_toArray, List.getElem?_cons_zero, List.getElem?_cons_succ] at k0 k1
            go_wp2_with fail
            refine Rgu.RGO_begin (fun w' => w' = wr.drew) 25 28 [(0, 97), (4, 101), (5, 102), (9, 106), (10, 107), (14, 111), (17, 114), (21, 118), (1, 98), (6, 103), (11, 108), (18, 115), (2, 99), (7, 104), (12, 109), (19, 116), (3, 100), (8, 105), (13, 110), (20, 117), (15, 112), (22, 119), (16, 113), (23, 120), (24, 121)] (by rfl) (by decide +kernel) (by kernel_rfl) (rfl) (fun R hR => ?_)
            repeat ((first | refine Rgu.RGO_take (by exact rfl) (by exact rfl) (by decide +kernel) (by exact rfl) (by intro w' hw'; subst hw'; go_simp; try with_reducible rfl) ?_ | refine Rgu.RGO_skip (by exact rfl) (by exact rfl) (by decide +kernel) (by exact rfl) ?_ | refine Rgu.RGO_free (by exact rfl) (by exact rfl) (by decide +kernel) (by exact rfl) (by intro w'; go_simp; try with_reducible rfl) ?_); try simp only [Act.put, List.setIfInBounds_toArray, List.set_cons_zero, List.set_cons_succ])
            refine Rgu.RGO_last 25 (by exact rfl) (by decide +kernel) (by exact rfl) (fun K hK => ?_)
            go_wp2_with (fail)
            try (refine hK _ _ ?_; clear hK K)
            try simp only [Act.put, List.setIfInBounds_toArray, List.set_cons_zero, List.set_cons_succ]
            refine Rgu.RGH_last 26 (by exact rfl) (by decide +kernel) (by exact rfl) (fun K hK => ?_)
            go_wp2_with (fail)
            try (refine hK _ _ ?_; clear hK K)
            try simp only [Act.put, List.setIfInBounds_toArray, List.set_cons_zero, List.set_cons_succ]
            refine Rgu.RGH_last 27 (by exact rfl) (by decide +kernel) (by exact rfl) (fun K hK => ?_)
            go_wp2_with (fail)
            try (refine hK _ _ ?_; clear hK K)
            try simp only [Act.put, List.setIfInBounds_toArray, List.set_cons_zero, List.set_cons_succ]
            refine Rgu.RGH_done (by decide +kernel) (hR _ _ ?_)
            clear hR R
            rw [HW9.out]
            go_wp2_with fail
            go_roundg (n - q)
            case measure => have := HQG.out; have := HQN.out; have := HGI.out; omega
            case rel => exact ⟨q, _, rfl, rfl, HFIN.out.below (Below.refl _ _).drew⟩
        · have hk1 : ¬ ((k : Int) ≤ 2 * (i : Int) + 2) := by omega
          clear hc ht2
          go_upto_region 16 with fail
          by_cases hqi : q = i
          · have heq : ((q : Int) == (i : Int)) = true := by simp [hqi]
            have hlo2 : low2 l' i = i := hlow.symm.trans hqi
            have HR2 := Lib.hid HS2.out.hrb
            have HX2 := Lib.hid HS2.out.hxb
            unfold boxC at HX2
            obtain ⟨Wf, hWf⟩ : ∃ z, setB wr rb x = z := ⟨_, rfl⟩
            have HWF0 := Lib.hid hWf
            have HWF := Lib.hid hWf
            unfold setB at HWF
            have HLOW := Lib.hid hlo2
            clear hWf hlo2 hlow hqi hln hq hk ht
            have x0 := cell_at HX2.out 0
            have x1 := cell_at HX2.out 1
            have x2 := cell_at HX2.out 2
            have x3 := cell_at HX2.out 3
            have x4 := cell_at HX2.out 4
            have x5 := cell_at HX2.out 5
            have xz := lt_of_heap HX2.out
            simp only [List.getElem?_toArray, List.getElem?_cons_zero, List.getElem?_cons_succ] at x0 x1 x2 x3 x4 x5
            have r0 := cell_at HR2.out 0
            have r1 := cell_at HR2.out 1
            have r2 := cell_at HR2.out 2
            have r3 := cell_at HR2.out 3
            have r4 := cell_at HR2.out 4
            have r5 := cell_at HR2.out 5
            have rf := free_all HR2.out
            have rz := lt_of_heap HR2.out
            simp only [List.getElem?_toArray, List.getElem?_cons_zero, List.getElem?_cons_succ] at r0 r1 r2 r3 r4 r5
            go_wp2_with fail
            rw [HWF.out]
            have HRF := Lib.hid (HWF0.out ▸ setB_at x HR2.out : Wf.heap[rb]? = some (.cells (boxC x) 183 (0, 0)))
            have HUF := Lib.hid (HWF0.out ▸ setB_upd x : Upd (fun k => k = rb) wr Wf)
            unfold boxC at HRF
            clear r0 r1 r2 r3 r4 r5 rf rz
            have r0 := cell_at HRF.out 0
            have r1 := cell_at HRF.out 1
            have r2 := cell_at HRF.out 2
            have r3 := cell_at HRF.out 3
            have r4 := cell_at HRF.out 4
            have r5 := cell_at HRF.out 5
            have rz := lt_of_heap HRF.out
            simp only [List.getElem?_toArray, List.getElem?_cons_zero, List.getElem?_cons_succ] at r0 r1 r2 r3 r4 r5
            refine bodyPost_ret (v := .tuple #[.agg #[.int .i64 x.rank, .int .i64 x.left, .int .i64 x.right, .int .i64 x.a, .int .i64 x.b, .int .i64 x.id], .bool true]) (by simp [results, Tryd.results116, go_sem, *]) rfl (?_)
            have hfin := HS2.out.fin (base := base) HLOW.out HNN.out HLO.out HX.out HUF.out
            rw [← HLL.out] at hfin
            exact hfin
          · have heq : ((q : Int) == (i : Int)) = false := by simp; omega
            have hin : i < n := by
              rcases HII.out with h | ⟨h1, h2⟩
              · exact h
              · exfalso
                refine hqi ?_
                rw [hlow, h2]
                unfold low2 low1
                rw [if_neg (fun z => by have := z.1; omega), if_neg (fun z => by have := z.1; omega)]
            have hil : i < l'.length := by rw [hln]; exact hin
            obtain ⟨sp1, sp2, _, _⟩ := low_spec l' i hil
            rw [← hlow] at sp1 sp2
            have hqg : i < q := by
              rcases sp1 with h | h
              · exact absurd h hqi
              · omega
            have hqn : q < n := by rw [← hln]; exact sp2
            obtain ⟨xi, hxi⟩ : ∃ z, g l' i = z := ⟨_, rfl⟩
            obtain ⟨xq, hxq⟩ : ∃ z, g l' q = z := ⟨_, rfl⟩
            obtain ⟨y0, y1, y2, y3, y4, y5⟩ := PRow.cell HS2.out.r hil
            obtain ⟨z0, z1, z2, z3, z4, z5⟩ := PRow.cell HS2.out.r sp2
            rw [hxi] at y0 y1 y2 y3 y4 y5
            rw [hxq] at z0 z1 z2 z3 z4 z5
            obtain ⟨W9, hW9⟩ : ∃ z, setP (setP wr g0 o i xq) g0 o q xi = z := ⟨_, rfl⟩
            have hW9' : setP (setP wr g0 o i (g l' q)) g0 o q (g l' i) = W9 := by rw [← hW9, hxi, hxq]
            have HFIN := Lib.hid (HS2.out.step hin hlow.symm hqi hW9')
            clear hW9'
            have HW9 := Lib.hid hW9
            unfold setP at HW9
            have gf := seg_free HS2.out.r
            have gz := (Seg.lt HS2.out.r g0 rfl).2
            have hi1 : (i : Int) < n := by omega
            have hi2 : (0 : Int) ≤ i := by omega
            have hq1 : (q : Int) < n := by omega
            have hq2 : (0 : Int) ≤ q := by omega
            have hne : i ≠ q := by omega
            have HQG := Lib.hid hqg
            have HQN := Lib.hid hqn
            clear hW9 hxi hxq sp1 sp2 hqi hlow hln hq hk ht hil hqg
            have k0 := cell_at HC.out 0
            have k1 := cell_at HC.out 1
            have kf := free_all HC.out
            have kz := lt_of_heap HC.out
            simp only [List.getElem?_toArray, List.getElem?_cons_zero, List.getElem?_cons_succ] at k0 k1
            go_wp2_with fail
            refine Rgu.RGO_begin (fun w' => w' = wr.drew) 25 28 [(0, 97), (4, 101), (5, 102), (9, 106), (10, 107), (14, 111), (17, 114), (21, 118), (1, 98), (6, 103), (11, 108), (18, 115), (2, 99), (7, 104), (12, 109), (19, 116), (3, 100), (8, 105), (13, 110), (20, 117), (15, 112), (22, 119), (16, 113), (23, 120), (24, 121)] (by rfl) (by decide +kernel) (by kernel_rfl) (rfl) (fun R hR => ?_)
            repeat ((first | refine Rgu.RGO_take (by exact rfl) (by exact rfl) (by decide +kernel) (by exact rfl) (by intro w' hw'; subst hw'; go_simp; try with_reducible rfl) ?_ | refine Rgu.RGO_skip (by exact rfl) (by exact rfl) (by decide +kernel) (by exact rfl) ?_ | refine Rgu.RGO_free (by exact rfl) (by exact rfl) (by decide +kernel) (by exact rfl) (by intro w'; go_simp; try with_reducible rfl) ?_); try simp only [Act.put, List.setIfInBounds_toArray, List.set_cons_zero, List.set_cons_succ])
            refine Rgu.RGO_last 25 (by exact rfl) (by decide +kernel) (by exact rfl) (fun K hK => ?_)
            go_wp2_with (fail)
            try (refine hK _ _ ?_; clear hK K)
            try simp only [Act.put, List.setIfInBounds_toArray, List.set_cons_zero, List.set_cons_succ]
            refine Rgu.RGH_last 26 (by exact rfl) (by decide +kernel) (by exact rfl) (fun K hK => ?_)
            go_wp2_with (fail)
            try (refine hK _ _ ?_; clear hK K)
            try simp only [Act.put, List.setIfInBounds_toArray, List.set_cons_zero, List.set_cons_succ]
            refine Rgu.RGH_last 27 (by exact rfl) (by decide +kernel) (by exact rfl) (fun K hK => ?_)
            go_wp2_with (fail)
            try (refine hK _ _ ?_; clear hK K)
            try simp only [Act.put, List.setIfInBounds_toArray, List.set_cons_zero, List.set_cons_succ]
            refine Rgu.RGH_done (by decide +kernel) (hR _ _ ?_)
            clear hR R
            rw [HW9.out]
            go_wp2_with fail
            go_roundg (n - q)
            case measure => have := HQG.out; have := HQN.out; have := HGI.out; omega
            case rel => exact ⟨q, _, rfl, rfl, HFIN.out.below (Below.refl _ _).drew⟩
end Go.Proofs.YtkjkgpdfhmoenaaDoor.Heap
