/-
  The walk of the law WalkWhole: it answers true.
-/
import Derived.Test.YtgddlcbaieclcaaWalkKnown
import Derived.Test.YtgddlcbaieclcaaWalkAlg
import Derived.OpenShut
namespace Go.Proofs.Ytgddlcbaieclcaa.walkWhole
open Go Go.RowKit Go.Proofs.Ytgddlcbaieclcaa.WalkNum Go.Proofs.Ytgddlcbaieclcaa.Kit Go.Proofs.Ytgddlcbaieclcaa.WalkFns

/-- A walk out of three numbers. -/
def mk (t x y : Int) : W3 := ⟨t % 4, -1099511627776 + x % 2199023255553, -1099511627776 + y % 2199023255553⟩
def mkB (t x y : Int) : WB := ⟨t % 4, floatOfInt .f64 (-1099511627776 + x % 2199023255553), floatOfInt .f64 (-1099511627776 + y % 2199023255553)⟩
theorem mk_le (t x y : Int) : 0 ≤ (mk t x y).t ∧ (mk t x y).t < 4 ∧ (mk t x y).x.natAbs ≤ 1099511627776 ∧ (mk t x y).y.natAbs ≤ 1099511627776 := by
  simp only [mk]; omega
theorem mkB_is (t x y : Int) : IsB (mkB t x y) (mk t x y) := ⟨rfl, rep_int (by omega), rep_int (by omega)⟩

/-- What the two arrays hold when k of the walks are laid. -/
def c5 (a b : W3) : Nat → Array Value
  | 0 => #[.int .i64 0, .int .i64 0, .int .i64 0, .int .i64 0, .int .i64 0, .int .i64 0]
  | 1 => #[.int .i64 a.t, .int .i64 a.x, .int .i64 a.y, .int .i64 0, .int .i64 0, .int .i64 0]
  | _ => #[.int .i64 a.t, .int .i64 a.x, .int .i64 a.y, .int .i64 b.t, .int .i64 b.x, .int .i64 b.y]
def c6 (a b : WB) : Nat → Array Value
  | 0 => #[.int .i64 0, .complex .f64 0 0, .int .i64 0, .complex .f64 0 0]
  | 1 => #[.int .i64 a.t, .complex .f64 a.p a.q, .int .i64 0, .complex .f64 0 0]
  | _ => #[.int .i64 a.t, .complex .f64 a.p a.q, .int .i64 b.t, .complex .f64 b.p b.q]

theorem short (a0 : Option Addr) (len0 cap0 : Nat) (a1 : Option Addr) (len1 cap1 : Nat) (w : World) (h : len0 < 2 ∨ len1 < 4) (hl0 : len0 ≤ 9223372036854775807) (hl1 : len1 ≤ 9223372036854775807) :
    Calls Try.prog 6 #[.slice a0 len0 cap0, .slice a1 len1 cap1] w fun e w' => e = .returned (.bool true) ∧ Below w.heap.size w w' := by
  by_cases h0 : len0 < 2
  · have d0 : decide (len0 < 2) = true := by simpa using h0
    clear h
    go_enter Try.func6, Try.ntmps6
    go_wp2_with (go_at_call 23; refine (known_calls _).mono ?_; rintro e wx ⟨rfl, hbx⟩)
    go_ret
    exact ⟨rfl, by assumption⟩
  · have h1 : len1 < 4 := by omega
    clear h
    go_enter Try.func6, Try.ntmps6
    go_wp2_with (go_at_call 23; refine (known_calls _).mono ?_; rintro e wx ⟨rfl, hbx⟩)
    go_ret
    exact ⟨rfl, by assumption⟩

set_option maxHeartbeats 4000000 in
set_option maxRecDepth 100000 in
theorem walk (a0 : Option Addr) (len0 cap0 : Nat) (z0 : List Int) (a1 : Option Addr) (len1 cap1 : Nat) (z1 : List Int) (w : World) (w0 : IsRow .i64 w a0 len0 cap0 z0) (w1 : IsRow .i64 w a1 len1 cap1 z1) :
    Calls Try.prog 6 #[.slice a0 len0 cap0, .slice a1 len1 cap1] w fun e w' => e = .returned (.bool true) ∧ Below w.heap.size w w' := by
  have hl0 := w0.len_le
  have hl1 := w1.len_le
  by_cases h : len0 < 2 ∨ len1 < 4
  · exact short a0 len0 cap0 a1 len1 cap1 w h hl0 hl1
  have g0 : 2 ≤ len0 := by omega
  have g1 : 4 ≤ len1 := by omega
  clear h
  obtain ⟨b0, o0, rfl, hb0, hc0, hw0⟩ := w0.at (by omega)
  obtain ⟨b1, o1, rfl, hb1, hc1, hw1⟩ := w1.at (by omega)
  have n0 : ¬ len0 < 2 := by omega
  have p0 : (0 : Int) < len0 := by omega
  have p1 : (1 : Int) < len0 := by omega
  have r0 : (0 : Int) < len1 := by omega
  have r1 : (1 : Int) < len1 := by omega
  have r2 : (2 : Int) < len1 := by omega
  have r3 : (3 : Int) < len1 := by omega
  have p0' : 0 < len0 := by omega
  have p1' : 1 < len0 := by omega
  have r0' : 0 < len1 := by omega
  have r1' : 1 < len1 := by omega
  have r2' : 2 < len1 := by omega
  have r3' : 3 < len1 := by omega
  have n1 : ¬ len1 < 4 := by omega
  have HC0 := Lib.hid hc0
  have HC1 := Lib.hid hc1
  have HW0 := Lib.hid hw0
  have HW1 := Lib.hid hw1
  clear hc0 hc1 hw0 hw1 w0 w1
  go_enter Try.func6, Try.ntmps6
  go_wp2_with fail
  go_loopg [7] 2 (fun g s7 wr => ∃ k : Nat, k ≤ 2 ∧ g = 2 - k ∧ s7 = .int .i64 k ∧ Below w.heap.size w wr ∧
    wr.heap[w.heap.size]? = some (.cells (c5 (mk (z0.getD 0 0) (z1.getD 0 0) (z1.getD 1 0)) (mk (z0.getD 1 0) (z1.getD 2 0) (z1.getD 3 0)) k) 44 (0, 0)) ∧
    wr.heap[w.heap.size + 1]? = some (.cells (c6 (mkB (z0.getD 0 0) (z1.getD 0 0) (z1.getD 1 0)) (mkB (z0.getD 1 0) (z1.getD 2 0) (z1.getD 3 0)) k) 45 (0, 0)))
  case atStart => exact ⟨0, by omega, by omega, rfl, by repeat (first | exact Below.refl _ _ | apply Below.drew | assumption | (refine Below.alloc ?_ (by first | omega | (simp; done) | (simp <;> omega)) _) | (refine Below.setCell ?_ (by first | omega | (simp; done) | (simp <;> omega)) _)), by rw [alloc_old (by simp), alloc_new rfl]; rfl, by rw [alloc_new (by simp)]; rfl⟩
  case round =>
    obtain ⟨k, hk, hg, rfl, hb, h5, h6⟩ := hrel
    have HG := Lib.hid hg
    clear hg
    have hk2 : k = 0 ∨ k = 1 ∨ k = 2 := by omega
    rcases hk2 with rfl | rfl | rfl
    · have e1 : wr.cell? ⟨b0, o0, none⟩ = some (.int .i64 (z0.getD 0 0)) := by rw [hb.cell hb0]; exact HC0.out 0 (by omega)
      have e2 : wr.cell? ⟨b1, o1, none⟩ = some (.int .i64 (z1.getD 0 0)) := by rw [hb.cell hb1]; exact HC1.out 0 (by omega)
      have e3 : wr.cell? ⟨b1, o1 + 1, none⟩ = some (.int .i64 (z1.getD 1 0)) := by rw [hb.cell hb1]; exact HC1.out 1 (by omega)
      have y0 : b0 < wr.heap.size := lt_of_cell e1
      have y1 : b1 < wr.heap.size := lt_of_cell e2
      have l1 := bounds_i64 ((HW0.out 0).resolve_right (by omega))
      have l2 := bounds_i64 ((HW1.out 0).resolve_right (by omega))
      have l3 := bounds_i64 ((HW1.out 1).resolve_right (by omega))
      have k1 := fun w => flip (Within_calls (z0.getD 0 0) 0 3 w (by decide) (by decide) (by decide) l1.1 l1.2)
      have k2 := fun w => flip (Within_calls (z1.getD 0 0) (-1099511627776) 1099511627776 w (by decide) (by decide) (by decide) l2.1 l2.2)
      have k3 := fun w => flip (Within_calls (z1.getD 1 0) (-1099511627776) 1099511627776 w (by decide) (by decide) (by decide) l3.1 l3.2)
      have hm := mk_le (z0.getD 0 0) (z1.getD 0 0) (z1.getD 1 0)
      have K1 := Lib.hid k1
      have K2 := Lib.hid k2
      have K3 := Lib.hid k3
      clear k1 k2 k3 l1 l2 l3
      obtain ⟨n1, hn1⟩ : ∃ n, n = z0.getD 0 0 := ⟨_, rfl⟩
      obtain ⟨n2, hn2⟩ : ∃ n, n = z1.getD 0 0 := ⟨_, rfl⟩
      obtain ⟨n3, hn3⟩ : ∃ n, n = z1.getD 1 0 := ⟨_, rfl⟩
      rw [← hn1] at e1 K1 hm
      rw [← hn2] at e2 K2 hm
      rw [← hn3] at e3 K3 hm
      rw [← hn1, ← hn2, ← hn3] at h5 h6
      have HN := Lib.hid (And.intro hn1 (And.intro hn2 hn3))
      clear hn1 hn2 hn3
      simp only [c5] at h5
      simp only [c6] at h6
      have z5 := lt_of_heap h5
      have z6 := lt_of_heap h6
      have c0 := cell_at h5 0
      have f0 := free_at h5 0
      have c1 := cell_at h5 1
      have f1 := free_at h5 1
      have c2 := cell_at h5 2
      have f2 := free_at h5 2
      have d0 := cell_at h6 0
      have g0 := free_at h6 0
      have d1 := cell_at h6 1
      have g1 := free_at h6 1
      simp only [List.getElem?_toArray, List.getElem?_cons_zero, List.getElem?_cons_succ] at c0 c1 c2 d0 d1
      have H5 := Lib.hid h5
      have H6 := Lib.hid h6
      clear h5 h6
      go_wp2_with fail
      refine region_later 21 (by kernel_rfl) (by kernel_rfl) ?_
      simp only [List.take_succ_cons, List.take_zero, List.drop_succ_cons, List.drop_zero]
      repeat (quiet_step ((first | with_reducible exact Calls.mono (K1.out _) (fun _ _ h => ⟨h.1, _, h.2⟩) | with_reducible exact Calls.mono (K2.out _) (fun _ _ h => ⟨h.1, _, h.2⟩) | with_reducible exact Calls.mono (K3.out _) (fun _ _ h => ⟨h.1, _, h.2⟩))))
      refine wpQuiet_nil ?_
      intro x
      go_wp2_with fail
      generalize hW2 : World.setCell _ _ _ = W2
      have h5' : W2.heap[w.heap.size]? = some (.cells (c5 (mk (z0.getD 0 0) (z1.getD 0 0) (z1.getD 1 0)) (mk (z0.getD 1 0) (z1.getD 2 0) (z1.getD 3 0)) 1) 44 (0, 0)) := by
        have h5 := H5.out
        rw [← x.heap z5] at h5
        rw [← hW2, heap_set (heap_set (heap_set h5 _ _) _ _) _ _]
        simp [c5, mk, HN.out.1, HN.out.2.1, HN.out.2.2]
      have h6' : W2.heap[w.heap.size + 1]? = some (.cells (c6 (mkB (z0.getD 0 0) (z1.getD 0 0) (z1.getD 1 0)) (mkB (z0.getD 1 0) (z1.getD 2 0) (z1.getD 3 0)) 0) 45 (0, 0)) := by
        have h6 := H6.out
        rw [← x.heap z6] at h6
        rw [← hW2, Below.heap_setCell _ _ _ _ (by simp), Below.heap_setCell _ _ _ _ (by simp), Below.heap_setCell _ _ _ _ (by simp), h6]
        simp [c6, mkB, HN.out.1, HN.out.2.1, HN.out.2.2]
      have hb2 : Below w.heap.size w W2 := by
        rw [← hW2]
        exact (((hb.trans (x.h.mono hb.size)).setCell (by simp) _).setCell (by simp) _).setCell (by simp) _
      clear hW2 c0 c1 c2 f0 f1 f2 d0 d1 g0 g1 e1 e2 e3 H5 H6 hb z5 z6 y0 y1
      simp only [c5] at h5'
      simp only [c6] at h6'
      have z5 := lt_of_heap h5'
      have z6 := lt_of_heap h6'
      have c0 := cell_at h5' 0
      have c1 := cell_at h5' 1
      have c2 := cell_at h5' 2
      have d0 := cell_at h6' 0
      have g0 := free_at h6' 0
      have d1 := cell_at h6' 1
      have g1 := free_at h6' 1
      simp only [List.getElem?_toArray, List.getElem?_cons_zero, List.getElem?_cons_succ] at c0 c1 c2 d0 d1
      have H5 := Lib.hid h5'
      have H6 := Lib.hid h6'
      clear h5' h6'
      refine region_later 18 (by kernel_rfl) (by kernel_rfl) ?_
      simp only [List.take_succ_cons, List.take_zero, List.drop_succ_cons, List.drop_zero]
      repeat (quiet_step ((fail)))
      refine wpQuiet_nil ?_
      intro x2
      go_wp2
      go_roundg (gk - 1)
      case measure => have := HG.out; omega
      case rel =>
        refine ⟨1, by omega, by have := HG.out; omega, rfl, ?_, ?_, ?_⟩
        · exact ((hb2.trans (x2.h.mono hb2.size)).setCell (by simp) _).setCell (by simp) _
        · have h5 := H5.out
          rw [← x2.heap z5] at h5
          rw [Below.heap_setCell _ _ _ _ (by simp), Below.heap_setCell _ _ _ _ (by simp), h5]
          simp [c5]
        · have h6 := H6.out
          rw [← x2.heap z6] at h6
          rw [heap_set (heap_set h6 _ _) _ _]
          simp [c6, mk, mkB]
    · have e1 : wr.cell? ⟨b0, o0 + 1, none⟩ = some (.int .i64 (z0.getD 1 0)) := by rw [hb.cell hb0]; exact HC0.out 1 (by omega)
      have e2 : wr.cell? ⟨b1, o1 + 2, none⟩ = some (.int .i64 (z1.getD 2 0)) := by rw [hb.cell hb1]; exact HC1.out 2 (by omega)
      have e3 : wr.cell? ⟨b1, o1 + 3, none⟩ = some (.int .i64 (z1.getD 3 0)) := by rw [hb.cell hb1]; exact HC1.out 3 (by omega)
      have y0 : b0 < wr.heap.size := lt_of_cell e1
      have y1 : b1 < wr.heap.size := lt_of_cell e2
      have l1 := bounds_i64 ((HW0.out 1).resolve_right (by omega))
      have l2 := bounds_i64 ((HW1.out 2).resolve_right (by omega))
      have l3 := bounds_i64 ((HW1.out 3).resolve_right (by omega))
      have k1 := fun w => flip (Within_calls (z0.getD 1 0) 0 3 w (by decide) (by decide) (by decide) l1.1 l1.2)
      have k2 := fun w => flip (Within_calls (z1.getD 2 0) (-1099511627776) 1099511627776 w (by decide) (by decide) (by decide) l2.1 l2.2)
      have k3 := fun w => flip (Within_calls (z1.getD 3 0) (-1099511627776) 1099511627776 w (by decide) (by decide) (by decide) l3.1 l3.2)
      have hm := mk_le (z0.getD 1 0) (z1.getD 2 0) (z1.getD 3 0)
      have K1 := Lib.hid k1
      have K2 := Lib.hid k2
      have K3 := Lib.hid k3
      clear k1 k2 k3 l1 l2 l3
      obtain ⟨n1, hn1⟩ : ∃ n, n = z0.getD 1 0 := ⟨_, rfl⟩
      obtain ⟨n2, hn2⟩ : ∃ n, n = z1.getD 2 0 := ⟨_, rfl⟩
      obtain ⟨n3, hn3⟩ : ∃ n, n = z1.getD 3 0 := ⟨_, rfl⟩
      rw [← hn1] at e1 K1 hm
      rw [← hn2] at e2 K2 hm
      rw [← hn3] at e3 K3 hm
      rw [← hn1, ← hn2, ← hn3] at h5 h6
      have HN := Lib.hid (And.intro hn1 (And.intro hn2 hn3))
      clear hn1 hn2 hn3
      simp only [c5] at h5
      simp only [c6] at h6
      have z5 := lt_of_heap h5
      have z6 := lt_of_heap h6
      have c0 := cell_at h5 3
      have f0 := free_at h5 3
      have c1 := cell_at h5 4
      have f1 := free_at h5 4
      have c2 := cell_at h5 5
      have f2 := free_at h5 5
      have d0 := cell_at h6 2
      have g0 := free_at h6 2
      have d1 := cell_at h6 3
      have g1 := free_at h6 3
      simp only [List.getElem?_toArray, List.getElem?_cons_zero, List.getElem?_cons_succ] at c0 c1 c2 d0 d1
      have H5 := Lib.hid h5
      have H6 := Lib.hid h6
      clear h5 h6
      go_wp2_with fail
      refine region_later 21 (by kernel_rfl) (by kernel_rfl) ?_
      simp only [List.take_succ_cons, List.take_zero, List.drop_succ_cons, List.drop_zero]
      repeat (quiet_step ((first | with_reducible exact Calls.mono (K1.out _) (fun _ _ h => ⟨h.1, _, h.2⟩) | with_reducible exact Calls.mono (K2.out _) (fun _ _ h => ⟨h.1, _, h.2⟩) | with_reducible exact Calls.mono (K3.out _) (fun _ _ h => ⟨h.1, _, h.2⟩))))
      refine wpQuiet_nil ?_
      intro x
      go_wp2_with fail
      generalize hW2 : World.setCell _ _ _ = W2
      have h5' : W2.heap[w.heap.size]? = some (.cells (c5 (mk (z0.getD 0 0) (z1.getD 0 0) (z1.getD 1 0)) (mk (z0.getD 1 0) (z1.getD 2 0) (z1.getD 3 0)) 2) 44 (0, 0)) := by
        have h5 := H5.out
        rw [← x.heap z5] at h5
        rw [← hW2, heap_set (heap_set (heap_set h5 _ _) _ _) _ _]
        simp [c5, mk, HN.out.1, HN.out.2.1, HN.out.2.2]
      have h6' : W2.heap[w.heap.size + 1]? = some (.cells (c6 (mkB (z0.getD 0 0) (z1.getD 0 0) (z1.getD 1 0)) (mkB (z0.getD 1 0) (z1.getD 2 0) (z1.getD 3 0)) 1) 45 (0, 0)) := by
        have h6 := H6.out
        rw [← x.heap z6] at h6
        rw [← hW2, Below.heap_setCell _ _ _ _ (by simp), Below.heap_setCell _ _ _ _ (by simp), Below.heap_setCell _ _ _ _ (by simp), h6]
        simp [c6, mkB, HN.out.1, HN.out.2.1, HN.out.2.2]
      have hb2 : Below w.heap.size w W2 := by
        rw [← hW2]
        exact (((hb.trans (x.h.mono hb.size)).setCell (by simp) _).setCell (by simp) _).setCell (by simp) _
      clear hW2 c0 c1 c2 f0 f1 f2 d0 d1 g0 g1 e1 e2 e3 H5 H6 hb z5 z6 y0 y1
      simp only [c5] at h5'
      simp only [c6] at h6'
      have z5 := lt_of_heap h5'
      have z6 := lt_of_heap h6'
      have c0 := cell_at h5' 3
      have c1 := cell_at h5' 4
      have c2 := cell_at h5' 5
      have d0 := cell_at h6' 2
      have g0 := free_at h6' 2
      have d1 := cell_at h6' 3
      have g1 := free_at h6' 3
      simp only [List.getElem?_toArray, List.getElem?_cons_zero, List.getElem?_cons_succ] at c0 c1 c2 d0 d1
      have H5 := Lib.hid h5'
      have H6 := Lib.hid h6'
      clear h5' h6'
      refine region_later 18 (by kernel_rfl) (by kernel_rfl) ?_
      simp only [List.take_succ_cons, List.take_zero, List.drop_succ_cons, List.drop_zero]
      repeat (quiet_step ((fail)))
      refine wpQuiet_nil ?_
      intro x2
      go_wp2
      go_roundg (gk - 1)
      case measure => have := HG.out; omega
      case rel =>
        refine ⟨2, by omega, by have := HG.out; omega, rfl, ?_, ?_, ?_⟩
        · exact ((hb2.trans (x2.h.mono hb2.size)).setCell (by simp) _).setCell (by simp) _
        · have h5 := H5.out
          rw [← x2.heap z5] at h5
          rw [Below.heap_setCell _ _ _ _ (by simp), Below.heap_setCell _ _ _ _ (by simp), h5]
          simp [c5]
        · have h6 := H6.out
          rw [← x2.heap z6] at h6
          rw [heap_set (heap_set h6 _ _) _ _]
          simp [c6, mk, mkB]
    · have i1 := mkB_is (z0.getD 0 0) (z1.getD 0 0) (z1.getD 1 0)
      have i2 := mkB_is (z0.getD 1 0) (z1.getD 2 0) (z1.getD 3 0)
      have m1 := mk_le (z0.getD 0 0) (z1.getD 0 0) (z1.getD 1 0)
      have m2 := mk_le (z0.getD 1 0) (z1.getD 2 0) (z1.getD 3 0)
      generalize mk (z0.getD 0 0) (z1.getD 0 0) (z1.getD 1 0) = A at *
      generalize mk (z0.getD 1 0) (z1.getD 2 0) (z1.getD 3 0) = B at *
      generalize mkB (z0.getD 0 0) (z1.getD 0 0) (z1.getD 1 0) = U at *
      generalize mkB (z0.getD 1 0) (z1.getD 2 0) (z1.getD 3 0) = V at *
      have hr := rot_le (A.t % 4) B.x B.y
      have jx : (J A B).x.natAbs < 9007199254740992 := by simp only [J]; omega
      have jy : (J A B).y.natAbs < 9007199254740992 := by simp only [J]; omega
      have k1 := Join_b i1 i2 jx jy
      have k2 := refJoin_calls A B m1.1 m1.2.1 m2.1 m2.2.1 (by omega) (by omega) (by omega) (by omega)
      have k3 := is_yes (JB_is i1 i2 jx jy)
      have k4 := Back_calls U
      have k5 := refBack_calls A m1.1 m1.2.1 (by omega) (by omega)
      have k6 := is_yes (BackB_is i1)
      have K1 := Lib.hid k1
      have K2 := Lib.hid k2
      have K3 := Lib.hid k3
      have K4 := Lib.hid k4
      have K5 := Lib.hid k5
      have K6 := Lib.hid k6
      clear k1 k2 k3 k4 k5 k6 jx jy hr m1 m2 i1 i2
      simp only [WB.val, W3.val] at K1 K2 K3 K4 K5 K6
      simp only [c5] at h5
      simp only [c6] at h6
      have z5 := lt_of_heap h5
      have z6 := lt_of_heap h6
      have c0 := cell_at h5 0
      have c1 := cell_at h5 1
      have c2 := cell_at h5 2
      have c3 := cell_at h5 3
      have c4 := cell_at h5 4
      have c5 := cell_at h5 5
      have d0 := cell_at h6 0
      have d1 := cell_at h6 1
      have d2 := cell_at h6 2
      have d3 := cell_at h6 3
      simp only [List.getElem?_toArray, List.getElem?_cons_zero, List.getElem?_cons_succ] at c0 c1 c2 c3 c4 c5 d0 d1 d2 d3
      clear h5 h6
      go_wp2_with fail
      refine region_calm (by kernel_rfl) (by kernel_rfl) ?_
      repeat (quiet_step ((first | with_reducible exact later_call (K1.out _) | with_reducible exact later_call (K2.out _) | with_reducible exact later_call (K3.out _) | with_reducible exact later_call (K4.out _) | with_reducible exact later_call (K5.out _) | with_reducible exact later_call (K6.out _) | with_reducible exact later_call (known_calls _))))
      refine wpQuiet_nil ?_
      rintro _ ⟨x, rfl⟩
      go_wp2
      go_ret
      exact ⟨rfl, Later.chain hb x⟩
end Go.Proofs.Ytgddlcbaieclcaa.walkWhole
