/-
  The walk of the law WalkJoins: it answers true.
-/
import Derived.Test.YtgddlcbaieclcaaWalkKnown
import Derived.Test.YtgddlcbaieclcaaWalkAlg
import Derived.OpenShut
namespace Go.Proofs.Ytgddlcbaieclcaa.walkJoins
open Go Go.RowKit Go.Proofs.Ytgddlcbaieclcaa.WalkNum Go.Proofs.Ytgddlcbaieclcaa.Kit Go.Proofs.Ytgddlcbaieclcaa.WalkFns

/-- A walk out of three numbers. -/
def mk (t x y : Int) : W3 := ⟨t % 4, -1099511627776 + x % 2199023255553, -1099511627776 + y % 2199023255553⟩
def mkB (t x y : Int) : WB := ⟨t % 4, floatOfInt .f64 (-1099511627776 + x % 2199023255553), floatOfInt .f64 (-1099511627776 + y % 2199023255553)⟩
theorem mk_le (t x y : Int) : 0 ≤ (mk t x y).t ∧ (mk t x y).t < 4 ∧ (mk t x y).x.natAbs ≤ 1099511627776 ∧ (mk t x y).y.natAbs ≤ 1099511627776 := by
  simp only [mk]; omega
theorem mkB_is (t x y : Int) : IsB (mkB t x y) (mk t x y) := ⟨rfl, rep_int (by omega), rep_int (by omega)⟩

theorem BackW_sm {a : W3} {N : Nat} (h : Sm a N) : Sm (BackW a) N := by
  obtain ⟨h1, h2⟩ := h
  obtain ⟨r1, r2⟩ := rot_le (-(a.t % 4) % 4) (-a.x) (-a.y)
  rw [Int.natAbs_neg, Int.natAbs_neg] at r1 r2
  exact ⟨by show (rot (-(a.t % 4) % 4) (-a.x) (-a.y)).1.natAbs ≤ N; omega, by show (rot (-(a.t % 4) % 4) (-a.x) (-a.y)).2.natAbs ≤ N; omega⟩

theorem turned_same (a b : W3) : J ⟨a.t - 8, a.x, a.y⟩ b = J a b := by
  simp only [J]
  rw [show (a.t - 8) % 4 = a.t % 4 by omega]

/-- What the array holds when k of the walks are laid. -/
def c6 (a b c : WB) : Nat → Array Value
  | 0 => #[.int .i64 0, .complex .f64 0 0, .int .i64 0, .complex .f64 0 0, .int .i64 0, .complex .f64 0 0]
  | 1 => #[.int .i64 a.t, .complex .f64 a.p a.q, .int .i64 0, .complex .f64 0 0, .int .i64 0, .complex .f64 0 0]
  | 2 => #[.int .i64 a.t, .complex .f64 a.p a.q, .int .i64 b.t, .complex .f64 b.p b.q, .int .i64 0, .complex .f64 0 0]
  | _ => #[.int .i64 a.t, .complex .f64 a.p a.q, .int .i64 b.t, .complex .f64 b.p b.q, .int .i64 c.t, .complex .f64 c.p c.q]

theorem short (a0 : Option Addr) (len0 cap0 : Nat) (a1 : Option Addr) (len1 cap1 : Nat) (w : World) (h : len0 < 3 ∨ len1 < 6) (hl0 : len0 ≤ 9223372036854775807) (hl1 : len1 ≤ 9223372036854775807) :
    Calls Try.prog 5 #[.slice a0 len0 cap0, .slice a1 len1 cap1] w fun e w' => e = .returned (.bool true) ∧ Below w.heap.size w w' := by
  by_cases h0 : len0 < 3
  · have d0 : decide (len0 < 3) = true := by simpa using h0
    clear h
    go_enter Try.func5, Try.ntmps5
    go_wp2_with (go_at_call 23; refine (known_calls _).mono ?_; rintro e wx ⟨rfl, hbx⟩)
    go_ret
    exact ⟨rfl, by assumption⟩
  · have h1 : len1 < 6 := by omega
    clear h
    go_enter Try.func5, Try.ntmps5
    go_wp2_with (go_at_call 23; refine (known_calls _).mono ?_; rintro e wx ⟨rfl, hbx⟩)
    go_ret
    exact ⟨rfl, by assumption⟩

set_option maxHeartbeats 8000000 in
set_option maxRecDepth 100000 in
theorem walk (a0 : Option Addr) (len0 cap0 : Nat) (z0 : List Int) (a1 : Option Addr) (len1 cap1 : Nat) (z1 : List Int) (w : World) (w0 : IsRow .i64 w a0 len0 cap0 z0) (w1 : IsRow .i64 w a1 len1 cap1 z1) :
    Calls Try.prog 5 #[.slice a0 len0 cap0, .slice a1 len1 cap1] w fun e w' => e = .returned (.bool true) ∧ Below w.heap.size w w' := by
  have hl0 := w0.len_le
  have hl1 := w1.len_le
  by_cases h : len0 < 3 ∨ len1 < 6
  · exact short a0 len0 cap0 a1 len1 cap1 w h hl0 hl1
  have g0 : 3 ≤ len0 := by omega
  have g1 : 6 ≤ len1 := by omega
  clear h
  obtain ⟨b0, o0, rfl, hb0, hc0, hw0⟩ := w0.at (by omega)
  obtain ⟨b1, o1, rfl, hb1, hc1, hw1⟩ := w1.at (by omega)
  have n0 : ¬ len0 < 3 := by omega
  have p0 : (0 : Int) < len0 := by omega
  have p0' : 0 < len0 := by omega
  have p1 : (1 : Int) < len0 := by omega
  have p1' : 1 < len0 := by omega
  have p2 : (2 : Int) < len0 := by omega
  have p2' : 2 < len0 := by omega
  have r0 : (0 : Int) < len1 := by omega
  have r0' : 0 < len1 := by omega
  have r1 : (1 : Int) < len1 := by omega
  have r1' : 1 < len1 := by omega
  have r2 : (2 : Int) < len1 := by omega
  have r2' : 2 < len1 := by omega
  have r3 : (3 : Int) < len1 := by omega
  have r3' : 3 < len1 := by omega
  have r4 : (4 : Int) < len1 := by omega
  have r4' : 4 < len1 := by omega
  have r5 : (5 : Int) < len1 := by omega
  have r5' : 5 < len1 := by omega
  have n1 : ¬ len1 < 6 := by omega
  have HC0 := Lib.hid hc0
  have HC1 := Lib.hid hc1
  have HW0 := Lib.hid hw0
  have HW1 := Lib.hid hw1
  clear hc0 hc1 hw0 hw1 w0 w1
  go_enter Try.func5, Try.ntmps5
  go_wp2_with fail
  go_loopg [6] 3 (fun g s6 wr => ∃ k : Nat, k ≤ 3 ∧ g = 3 - k ∧ s6 = .int .i64 k ∧ Below w.heap.size w wr ∧
    wr.heap[w.heap.size]? = some (.cells (c6 (mkB (z0.getD 0 0) (z1.getD 0 0) (z1.getD 1 0)) (mkB (z0.getD 1 0) (z1.getD 2 0) (z1.getD 3 0)) (mkB (z0.getD 2 0) (z1.getD 4 0) (z1.getD 5 0)) k) 39 (0, 0)))
  case atStart => exact ⟨0, by omega, by omega, rfl, by repeat (first | exact Below.refl _ _ | apply Below.drew | assumption | (refine Below.alloc ?_ (by first | omega | (simp; done) | (simp <;> omega)) _) | (refine Below.setCell ?_ (by first | omega | (simp; done) | (simp <;> omega)) _)), by rw [alloc_new rfl]; rfl⟩
  case round =>
    obtain ⟨k, hk, hg, rfl, hb, h6⟩ := hrel
    have HG := Lib.hid hg
    clear hg
    have hk2 : k = 0 ∨ k = 1 ∨ k = 2 ∨ k = 3 := by omega
    rcases hk2 with rfl | rfl | rfl | rfl
    · have e1 : wr.cell? ⟨b0, o0, none⟩ = some (.int .i64 (z0.getD 0 0)) := by rw [hb.cell hb0]; exact HC0.out 0 (by omega)
      have e2 : wr.cell? ⟨b1, o1, none⟩ = some (.int .i64 (z1.getD 0 0)) := by rw [hb.cell hb1]; exact HC1.out 0 (by omega)
      have e3 : wr.cell? ⟨b1, o1 + 1, none⟩ = some (.int .i64 (z1.getD 1 0)) := by rw [hb.cell hb1]; exact HC1.out 1 (by omega)
      have y0 : b0 < wr.heap.size := lt_of_cell e1
      have y1 : b1 < wr.heap.size := lt_of_cell e2
      have l1 := bounds_i64 ((HW0.out 0).resolve_right (by omega))
      have l2 := bounds_i64 ((HW1.out 0).resolve_right (by omega))
      have l3 := bounds_i64 ((HW1.out 1).resolve_right (by omega))
      have k1 := fun w => flip (Within_calls (z0.getD 0 0) 0 3 w (by decide) (by decide) (by decide) l1.1 l1.2)
      have k2 := fun w => flip (Within_calls (z1.getD 0 0) (-1099511627776) 1099511627776 w (by decide) (by decide) (by decide) l2.1 l2.2)
      have k3 := fun w => flip (Within_calls (z1.getD 1 0) (-1099511627776) 1099511627776 w (by decide) (by decide) (by decide) l3.1 l3.2)
      have K1 := Lib.hid k1
      have K2 := Lib.hid k2
      have K3 := Lib.hid k3
      clear k1 k2 k3 l1 l2 l3
      obtain ⟨n1, hn1⟩ : ∃ n, n = z0.getD 0 0 := ⟨_, rfl⟩
      obtain ⟨n2, hn2⟩ : ∃ n, n = z1.getD 0 0 := ⟨_, rfl⟩
      obtain ⟨n3, hn3⟩ : ∃ n, n = z1.getD 1 0 := ⟨_, rfl⟩
      rw [← hn1] at e1 K1
      rw [← hn2] at e2 K2
      rw [← hn3] at e3 K3
      have HN := Lib.hid (And.intro hn1 (And.intro hn2 hn3))
      clear hn1 hn2 hn3
      simp only [c6] at h6
      have z6 := lt_of_heap h6
      have d0 := cell_at h6 0
      have g0 := free_at h6 0
      have d1 := cell_at h6 1
      have g1 := free_at h6 1
      simp only [List.getElem?_toArray, List.getElem?_cons_zero, List.getElem?_cons_succ] at d0 d1
      have H6 := Lib.hid h6
      clear h6
      go_wp2_with fail
      refine region_later 24 (by kernel_rfl) (by kernel_rfl) ?_
      simp only [List.take_succ_cons, List.take_zero, List.drop_succ_cons, List.drop_zero]
      repeat (quiet_step ((first | with_reducible exact Calls.mono (K1.out _) (fun _ _ h => ⟨h.1, _, h.2⟩) | with_reducible exact Calls.mono (K2.out _) (fun _ _ h => ⟨h.1, _, h.2⟩) | with_reducible exact Calls.mono (K3.out _) (fun _ _ h => ⟨h.1, _, h.2⟩))))
      refine wpQuiet_nil ?_
      intro x
      go_wp2
      go_roundg (gk - 1)
      case measure => have := HG.out; omega
      case rel =>
        refine ⟨1, by omega, by have := HG.out; omega, rfl, ?_, ?_⟩
        · exact ((hb.trans (x.h.mono hb.size)).setCell (by simp) _).setCell (by simp) _
        · have h6 := H6.out
          rw [← x.heap z6] at h6
          rw [heap_set (heap_set h6 _ _) _ _]
          simp [c6, mkB, HN.out.1, HN.out.2.1, HN.out.2.2]
    · have e1 : wr.cell? ⟨b0, o0 + 1, none⟩ = some (.int .i64 (z0.getD 1 0)) := by rw [hb.cell hb0]; exact HC0.out 1 (by omega)
      have e2 : wr.cell? ⟨b1, o1 + 2, none⟩ = some (.int .i64 (z1.getD 2 0)) := by rw [hb.cell hb1]; exact HC1.out 2 (by omega)
      have e3 : wr.cell? ⟨b1, o1 + 3, none⟩ = some (.int .i64 (z1.getD 3 0)) := by rw [hb.cell hb1]; exact HC1.out 3 (by omega)
      have y0 : b0 < wr.heap.size := lt_of_cell e1
      have y1 : b1 < wr.heap.size := lt_of_cell e2
      have l1 := bounds_i64 ((HW0.out 1).resolve_right (by omega))
      have l2 := bounds_i64 ((HW1.out 2).resolve_right (by omega))
      have l3 := bounds_i64 ((HW1.out 3).resolve_right (by omega))
      have k1 := fun w => flip (Within_calls (z0.getD 1 0) 0 3 w (by decide) (by decide) (by decide) l1.1 l1.2)
      have k2 := fun w => flip (Within_calls (z1.getD 2 0) (-1099511627776) 1099511627776 w (by decide) (by decide) (by decide) l2.1 l2.2)
      have k3 := fun w => flip (Within_calls (z1.getD 3 0) (-1099511627776) 1099511627776 w (by decide) (by decide) (by decide) l3.1 l3.2)
      have K1 := Lib.hid k1
      have K2 := Lib.hid k2
      have K3 := Lib.hid k3
      clear k1 k2 k3 l1 l2 l3
      obtain ⟨n1, hn1⟩ : ∃ n, n = z0.getD 1 0 := ⟨_, rfl⟩
      obtain ⟨n2, hn2⟩ : ∃ n, n = z1.getD 2 0 := ⟨_, rfl⟩
      obtain ⟨n3, hn3⟩ : ∃ n, n = z1.getD 3 0 := ⟨_, rfl⟩
      rw [← hn1] at e1 K1
      rw [← hn2] at e2 K2
      rw [← hn3] at e3 K3
      have HN := Lib.hid (And.intro hn1 (And.intro hn2 hn3))
      clear hn1 hn2 hn3
      simp only [c6] at h6
      have z6 := lt_of_heap h6
      have d0 := cell_at h6 2
      have g0 := free_at h6 2
      have d1 := cell_at h6 3
      have g1 := free_at h6 3
      simp only [List.getElem?_toArray, List.getElem?_cons_zero, List.getElem?_cons_succ] at d0 d1
      have H6 := Lib.hid h6
      clear h6
      go_wp2_with fail
      refine region_later 24 (by kernel_rfl) (by kernel_rfl) ?_
      simp only [List.take_succ_cons, List.take_zero, List.drop_succ_cons, List.drop_zero]
      repeat (quiet_step ((first | with_reducible exact Calls.mono (K1.out _) (fun _ _ h => ⟨h.1, _, h.2⟩) | with_reducible exact Calls.mono (K2.out _) (fun _ _ h => ⟨h.1, _, h.2⟩) | with_reducible exact Calls.mono (K3.out _) (fun _ _ h => ⟨h.1, _, h.2⟩))))
      refine wpQuiet_nil ?_
      intro x
      go_wp2
      go_roundg (gk - 1)
      case measure => have := HG.out; omega
      case rel =>
        refine ⟨2, by omega, by have := HG.out; omega, rfl, ?_, ?_⟩
        · exact ((hb.trans (x.h.mono hb.size)).setCell (by simp) _).setCell (by simp) _
        · have h6 := H6.out
          rw [← x.heap z6] at h6
          rw [heap_set (heap_set h6 _ _) _ _]
          simp [c6, mkB, HN.out.1, HN.out.2.1, HN.out.2.2]
    · have e1 : wr.cell? ⟨b0, o0 + 2, none⟩ = some (.int .i64 (z0.getD 2 0)) := by rw [hb.cell hb0]; exact HC0.out 2 (by omega)
      have e2 : wr.cell? ⟨b1, o1 + 4, none⟩ = some (.int .i64 (z1.getD 4 0)) := by rw [hb.cell hb1]; exact HC1.out 4 (by omega)
      have e3 : wr.cell? ⟨b1, o1 + 5, none⟩ = some (.int .i64 (z1.getD 5 0)) := by rw [hb.cell hb1]; exact HC1.out 5 (by omega)
      have y0 : b0 < wr.heap.size := lt_of_cell e1
      have y1 : b1 < wr.heap.size := lt_of_cell e2
      have l1 := bounds_i64 ((HW0.out 2).resolve_right (by omega))
      have l2 := bounds_i64 ((HW1.out 4).resolve_right (by omega))
      have l3 := bounds_i64 ((HW1.out 5).resolve_right (by omega))
      have k1 := fun w => flip (Within_calls (z0.getD 2 0) 0 3 w (by decide) (by decide) (by decide) l1.1 l1.2)
      have k2 := fun w => flip (Within_calls (z1.getD 4 0) (-1099511627776) 1099511627776 w (by decide) (by decide) (by decide) l2.1 l2.2)
      have k3 := fun w => flip (Within_calls (z1.getD 5 0) (-1099511627776) 1099511627776 w (by decide) (by decide) (by decide) l3.1 l3.2)
      have K1 := Lib.hid k1
      have K2 := Lib.hid k2
      have K3 := Lib.hid k3
      clear k1 k2 k3 l1 l2 l3
      obtain ⟨n1, hn1⟩ : ∃ n, n = z0.getD 2 0 := ⟨_, rfl⟩
      obtain ⟨n2, hn2⟩ : ∃ n, n = z1.getD 4 0 := ⟨_, rfl⟩
      obtain ⟨n3, hn3⟩ : ∃ n, n = z1.getD 5 0 := ⟨_, rfl⟩
      rw [← hn1] at e1 K1
      rw [← hn2] at e2 K2
      rw [← hn3] at e3 K3
      have HN := Lib.hid (And.intro hn1 (And.intro hn2 hn3))
      clear hn1 hn2 hn3
      simp only [c6] at h6
      have z6 := lt_of_heap h6
      have d0 := cell_at h6 4
      have g0 := free_at h6 4
      have d1 := cell_at h6 5
      have g1 := free_at h6 5
      simp only [List.getElem?_toArray, List.getElem?_cons_zero, List.getElem?_cons_succ] at d0 d1
      have H6 := Lib.hid h6
      clear h6
      go_wp2_with fail
      refine region_later 24 (by kernel_rfl) (by kernel_rfl) ?_
      simp only [List.take_succ_cons, List.take_zero, List.drop_succ_cons, List.drop_zero]
      repeat (quiet_step ((first | with_reducible exact Calls.mono (K1.out _) (fun _ _ h => ⟨h.1, _, h.2⟩) | with_reducible exact Calls.mono (K2.out _) (fun _ _ h => ⟨h.1, _, h.2⟩) | with_reducible exact Calls.mono (K3.out _) (fun _ _ h => ⟨h.1, _, h.2⟩))))
      refine wpQuiet_nil ?_
      intro x
      go_wp2
      go_roundg (gk - 1)
      case measure => have := HG.out; omega
      case rel =>
        refine ⟨3, by omega, by have := HG.out; omega, rfl, ?_, ?_⟩
        · exact ((hb.trans (x.h.mono hb.size)).setCell (by simp) _).setCell (by simp) _
        · have h6 := H6.out
          rw [← x.heap z6] at h6
          rw [heap_set (heap_set h6 _ _) _ _]
          simp [c6, mkB, HN.out.1, HN.out.2.1, HN.out.2.2]
    · have i0 := mkB_is (z0.getD 0 0) (z1.getD 0 0) (z1.getD 1 0)
      have m0 := mk_le (z0.getD 0 0) (z1.getD 0 0) (z1.getD 1 0)
      have i1 := mkB_is (z0.getD 1 0) (z1.getD 2 0) (z1.getD 3 0)
      have m1 := mk_le (z0.getD 1 0) (z1.getD 2 0) (z1.getD 3 0)
      have i2 := mkB_is (z0.getD 2 0) (z1.getD 4 0) (z1.getD 5 0)
      have m2 := mk_le (z0.getD 2 0) (z1.getD 4 0) (z1.getD 5 0)
      generalize mk (z0.getD 0 0) (z1.getD 0 0) (z1.getD 1 0) = A0 at *
      generalize mkB (z0.getD 0 0) (z1.getD 0 0) (z1.getD 1 0) = U0 at *
      generalize mk (z0.getD 1 0) (z1.getD 2 0) (z1.getD 3 0) = A1 at *
      generalize mkB (z0.getD 1 0) (z1.getD 2 0) (z1.getD 3 0) = U1 at *
      generalize mk (z0.getD 2 0) (z1.getD 4 0) (z1.getD 5 0) = A2 at *
      generalize mkB (z0.getD 2 0) (z1.getD 4 0) (z1.getD 5 0) = U2 at *
      simp only [c6] at h6
      have z6 := lt_of_heap h6
      have d0 := cell_at h6 0
      have d1 := cell_at h6 1
      have d2 := cell_at h6 2
      have d3 := cell_at h6 3
      have d4 := cell_at h6 4
      have d5 := cell_at h6 5
      simp only [List.getElem?_toArray, List.getElem?_cons_zero, List.getElem?_cons_succ] at d0 d1 d2 d3 d4 d5
      have s0 : Sm A0 1099511627776 := ⟨m0.2.2.1, m0.2.2.2⟩
      have s1 : Sm A1 1099511627776 := ⟨m1.2.2.1, m1.2.2.2⟩
      have s2 : Sm A2 1099511627776 := ⟨m2.2.2.1, m2.2.2.2⟩
      have sz : Sm W0 0 := ⟨Nat.le_refl _, Nat.le_refl _⟩
      have sb : Sm (BackW A0) 1099511627776 := BackW_sm s0
      have l0 := J_zero_left A0 m0.1 m0.2.1
      have l1 := J_zero_right A0 m0.1 m0.2.1
      have l2 := J_back A0 m0.1 m0.2.1
      have ib := BackB_is i0
      have kb := Back_calls U0
      obtain ⟨k1, j1⟩ := Join_s i0 i1 s0 s1 (by decide)
      obtain ⟨k2, j3⟩ := Join_s j1 i2 (J_sm s0 s1) s2 (by decide)
      obtain ⟨k3, j2⟩ := Join_s i1 i2 s1 s2 (by decide)
      obtain ⟨k4, j4⟩ := Join_s i0 j2 s0 (J_sm s1 s2) (by decide)
      rw [← J_assoc] at j4
      have k5 := same_yes j3 j4
      obtain ⟨k6, j5⟩ := Join_s B0_is i0 sz s0 (by decide)
      rw [l0] at j5
      have k7 := same_yes j5 i0
      obtain ⟨k8, j6⟩ := Join_s i0 B0_is s0 sz (by decide)
      rw [l1] at j6
      have k9 := same_yes j6 i0
      obtain ⟨k10, j7⟩ := Join_s i0 ib s0 sb (by decide)
      rw [l2.1] at j7
      have k11 := same_yes j7 B0_is
      obtain ⟨k12, j8⟩ := Join_s ib i0 sb s0 (by decide)
      rw [l2.2] at j8
      have k13 := same_yes j8 B0_is
      have ut : U0.t = A0.t := i0.1
      have it : IsB ⟨U0.t - 8, U0.p, U0.q⟩ ⟨A0.t - 8, A0.x, A0.y⟩ := ⟨by simp only [ut], i0.2.1, i0.2.2⟩
      have l3 := turned_same A0 A1
      obtain ⟨k14, j9⟩ := Join_s it i1 (show Sm ⟨A0.t - 8, A0.x, A0.y⟩ 1099511627776 from s0) s1 (by decide)
      rw [l3] at j9
      have k15 := same_yes j9 j1
      have ut0 : 0 ≤ U0.t := by rw [ut]; exact m0.1
      have ut4 : U0.t < 4 := by rw [ut]; exact m0.2.1
      have K1 := Lib.hid k1
      have K2 := Lib.hid k2
      have K3 := Lib.hid k3
      have K4 := Lib.hid k4
      have K5 := Lib.hid k5
      have K6 := Lib.hid k6
      have K7 := Lib.hid k7
      have K8 := Lib.hid k8
      have K9 := Lib.hid k9
      have K10 := Lib.hid k10
      have K11 := Lib.hid k11
      have K12 := Lib.hid k12
      have K13 := Lib.hid k13
      have K14 := Lib.hid k14
      have K15 := Lib.hid k15
      have KB := Lib.hid kb
      have H6 := Lib.hid h6
      clear k1 k2 k3 k4 k5 k6 k7 k8 k9 k10 k11 k12 k13 k14 k15 kb h6 ut l0 l1 l3 j1 j2 j3 j4 j5 j6 j7 j8 j9 ib it s0 s1 s2 sz sb m0 m1 m2 i0 i1 i2 l2
      simp only [WB.val, B0] at K1 K2 K3 K4 K5 K6 K7 K8 K9 K10 K11 K12 K13 K14 K15 KB
      have HB := Lib.hid hb
      clear hb
      go_wp2_with fail
      go_cut [7] (fun sv wx => ∃ g : Nat, sv = .pointer (some ⟨g, 0, none⟩) ∧ wr.heap.size ≤ g ∧ wx.heap[g]? = some (.cells #[.int .i64 (JB (JB U0 U1) U2).t, .complex .f64 (JB (JB U0 U1) U2).p (JB (JB U0 U1) U2).q] 29 (0, 0)) ∧ Below wr.heap.size wr wx)
      case first =>
        refine RG_begin 10 #[false, false, false, false, false, false, false, false, false, false] rfl rfl (by kernel_rfl) (fun R hR hacc => ?_)
        refine RG_take (i := 0) (v := ?v8x1) (some 48) #[true, false, false, false, false, false, false, false, false, false] rfl rfl (by kernel_rfl) (by kernel_rfl) (by kernel_rfl) rfl rfl (fun x => ?h8x1) ?n8x1
        case h8x1 => (go_simp; try with_reducible rfl)
        try simp only [Act.put, List.setIfInBounds_toArray, List.set_cons_zero, List.set_cons_succ]
        refine RG_take (i := 1) (v := ?v8x2) (some 49) #[true, true, false, false, false, false, false, false, false, false] rfl rfl (by kernel_rfl) (by kernel_rfl) (by kernel_rfl) rfl rfl (fun x => ?h8x2) ?n8x2
        case h8x2 => (go_simp; try with_reducible rfl)
        try simp only [Act.put, List.setIfInBounds_toArray, List.set_cons_zero, List.set_cons_succ]
        refine RG_take (i := 2) (v := ?v8x3) (some 50) #[true, true, true, false, false, false, false, false, false, false] rfl rfl (by kernel_rfl) (by kernel_rfl) (by kernel_rfl) rfl rfl (fun x => ?h8x3) ?n8x3
        case h8x3 => (go_simp; try with_reducible rfl)
        try simp only [Act.put, List.setIfInBounds_toArray, List.set_cons_zero, List.set_cons_succ]
        refine RG_take (i := 3) (v := ?v8x4) (some 51) #[true, true, true, true, false, false, false, false, false, false] rfl rfl (by kernel_rfl) (by kernel_rfl) (by kernel_rfl) rfl rfl (fun x => ?h8x4) ?n8x4
        case h8x4 => (go_simp; try with_reducible rfl)
        try simp only [Act.put, List.setIfInBounds_toArray, List.set_cons_zero, List.set_cons_succ]
        refine RG_take (i := 5) (v := ?v8x5) (some 53) #[true, true, true, true, false, true, false, false, false, false] rfl rfl (by kernel_rfl) (by kernel_rfl) (by kernel_rfl) rfl rfl (fun x => ?h8x5) ?n8x5
        case h8x5 => (go_simp; try with_reducible rfl)
        try simp only [Act.put, List.setIfInBounds_toArray, List.set_cons_zero, List.set_cons_succ]
        refine RG_take (i := 6) (v := ?v8x6) (some 54) #[true, true, true, true, false, true, true, false, false, false] rfl rfl (by kernel_rfl) (by kernel_rfl) (by kernel_rfl) rfl rfl (fun x => ?h8x6) ?n8x6
        case h8x6 => (go_simp; try with_reducible rfl)
        try simp only [Act.put, List.setIfInBounds_toArray, List.set_cons_zero, List.set_cons_succ]
        refine RG_two (i := 4) (j := 8) #[true, true, true, true, true, true, true, false, false, false] #[true, true, true, true, false, true, true, false, true, false] (by kernel_rfl) rfl rfl rfl rfl rfl rfl (fun K hK => ?_) (fun K hK => ?_)
        · go_wp2_with (first | (go_at_call 24; (with_reducible refine (K1.out _).mono ?_); rintro e wx ⟨rfl, hbx⟩; (try (have hg := new_in hbx)); (try (have hg := new_in' hbx)); (try (have hg := old_in hg hbx)); (try simp only [World.size_drew] at hg); (try (have g0 := cell_at hg.1 0; have g1 := cell_at hg.1 1; have gf0 := free_at hg.1 0; have gf1 := free_at hg.1 1; have hgl := hg.2; simp only [List.getElem?_toArray, List.getElem?_cons_zero, List.getElem?_cons_succ] at g0 g1))) | (go_at_call 24; (with_reducible refine (K2.out _).mono ?_); rintro e wx ⟨rfl, hbx⟩; (try (have hg := new_in hbx)); (try (have hg := new_in' hbx)); (try (have hg := old_in hg hbx)); (try simp only [World.size_drew] at hg); (try (have g0 := cell_at hg.1 0; have g1 := cell_at hg.1 1; have gf0 := free_at hg.1 0; have gf1 := free_at hg.1 1; have hgl := hg.2; simp only [List.getElem?_toArray, List.getElem?_cons_zero, List.getElem?_cons_succ] at g0 g1))))
          refine RG_keep hK (by first | exact chain hacc hbx | exact hacc.alloc hacc.size _ | exact Below.alloc (by assumption) (by omega) _ | exact hacc | exact hacc.trans (hbx.mono (by have := hacc.size; simp; omega)) | exact (hacc.alloc hacc.size _).trans (hbx.mono (by have := hacc.size; simp; omega)) | exact (hacc.setCell (by first | omega | (simp; done) | (simp; omega)) _).setCell (by first | omega | (simp; done) | (simp; omega)) _) (fun hacc => ?_)
          have hsz := hacc.size
          try simp only [World.size_alloc] at hsz
          clear hK K
          try simp only [Act.put, List.setIfInBounds_toArray, List.set_cons_zero, List.set_cons_succ]
          refine RG_two (i := 7) (j := 8) #[true, true, true, true, true, true, true, true, false, false] #[true, true, true, true, true, true, true, false, true, false] (by kernel_rfl) rfl rfl rfl rfl rfl rfl (fun K hK => ?_) (fun K hK => ?_)
          · go_wp2_with (first | (go_at_call 24; (with_reducible refine (K1.out _).mono ?_); rintro e wx ⟨rfl, hbx⟩; (try (have hg := new_in hbx)); (try (have hg := new_in' hbx)); (try (have hg := old_in hg hbx)); (try simp only [World.size_drew] at hg); (try (have g0 := cell_at hg.1 0; have g1 := cell_at hg.1 1; have gf0 := free_at hg.1 0; have gf1 := free_at hg.1 1; have hgl := hg.2; simp only [List.getElem?_toArray, List.getElem?_cons_zero, List.getElem?_cons_succ] at g0 g1))) | (go_at_call 24; (with_reducible refine (K2.out _).mono ?_); rintro e wx ⟨rfl, hbx⟩; (try (have hg := new_in hbx)); (try (have hg := new_in' hbx)); (try (have hg := old_in hg hbx)); (try simp only [World.size_drew] at hg); (try (have g0 := cell_at hg.1 0; have g1 := cell_at hg.1 1; have gf0 := free_at hg.1 0; have gf1 := free_at hg.1 1; have hgl := hg.2; simp only [List.getElem?_toArray, List.getElem?_cons_zero, List.getElem?_cons_succ] at g0 g1))))
            refine RG_keep hK (by first | exact chain hacc hbx | exact hacc.alloc hacc.size _ | exact Below.alloc (by assumption) (by omega) _ | exact hacc | exact hacc.trans (hbx.mono (by have := hacc.size; simp; omega)) | exact (hacc.alloc hacc.size _).trans (hbx.mono (by have := hacc.size; simp; omega)) | exact (hacc.setCell (by first | omega | (simp; done) | (simp; omega)) _).setCell (by first | omega | (simp; done) | (simp; omega)) _) (fun hacc => ?_)
            have hsz := hacc.size
            try simp only [World.size_alloc] at hsz
            clear hK K
            try simp only [Act.put, List.setIfInBounds_toArray, List.set_cons_zero, List.set_cons_succ]
            refine RG_one (i := 8) #[true, true, true, true, true, true, true, true, true, false] rfl (by kernel_rfl) rfl rfl (fun K hK => ?_)
            go_wp2_with (first | (go_at_call 24; (with_reducible refine (K1.out _).mono ?_); rintro e wx ⟨rfl, hbx⟩; (try (have hg := new_in hbx)); (try (have hg := new_in' hbx)); (try (have hg := old_in hg hbx)); (try simp only [World.size_drew] at hg); (try (have g0 := cell_at hg.1 0; have g1 := cell_at hg.1 1; have gf0 := free_at hg.1 0; have gf1 := free_at hg.1 1; have hgl := hg.2; simp only [List.getElem?_toArray, List.getElem?_cons_zero, List.getElem?_cons_succ] at g0 g1))) | (go_at_call 24; (with_reducible refine (K2.out _).mono ?_); rintro e wx ⟨rfl, hbx⟩; (try (have hg := new_in hbx)); (try (have hg := new_in' hbx)); (try (have hg := old_in hg hbx)); (try simp only [World.size_drew] at hg); (try (have g0 := cell_at hg.1 0; have g1 := cell_at hg.1 1; have gf0 := free_at hg.1 0; have gf1 := free_at hg.1 1; have hgl := hg.2; simp only [List.getElem?_toArray, List.getElem?_cons_zero, List.getElem?_cons_succ] at g0 g1))))
            refine RG_keep hK (by first | exact chain hacc hbx | exact hacc.alloc hacc.size _ | exact Below.alloc (by assumption) (by omega) _ | exact hacc | exact hacc.trans (hbx.mono (by have := hacc.size; simp; omega)) | exact (hacc.alloc hacc.size _).trans (hbx.mono (by have := hacc.size; simp; omega)) | exact (hacc.setCell (by first | omega | (simp; done) | (simp; omega)) _).setCell (by first | omega | (simp; done) | (simp; omega)) _) (fun hacc => ?_)
            have hsz := hacc.size
            try simp only [World.size_alloc] at hsz
            clear hK K
            try simp only [Act.put, List.setIfInBounds_toArray, List.set_cons_zero, List.set_cons_succ]
            refine RG_one (i := 9) #[true, true, true, true, true, true, true, true, true, true] rfl (by kernel_rfl) rfl rfl (fun K hK => ?_)
            go_wp2_with (first | (go_at_call 24; (with_reducible refine (K1.out _).mono ?_); rintro e wx ⟨rfl, hbx⟩; (try (have hg := new_in hbx)); (try (have hg := new_in' hbx)); (try (have hg := old_in hg hbx)); (try simp only [World.size_drew] at hg); (try (have g0 := cell_at hg.1 0; have g1 := cell_at hg.1 1; have gf0 := free_at hg.1 0; have gf1 := free_at hg.1 1; have hgl := hg.2; simp only [List.getElem?_toArray, List.getElem?_cons_zero, List.getElem?_cons_succ] at g0 g1))) | (go_at_call 24; (with_reducible refine (K2.out _).mono ?_); rintro e wx ⟨rfl, hbx⟩; (try (have hg := new_in hbx)); (try (have hg := new_in' hbx)); (try (have hg := old_in hg hbx)); (try simp only [World.size_drew] at hg); (try (have g0 := cell_at hg.1 0; have g1 := cell_at hg.1 1; have gf0 := free_at hg.1 0; have gf1 := free_at hg.1 1; have hgl := hg.2; simp only [List.getElem?_toArray, List.getElem?_cons_zero, List.getElem?_cons_succ] at g0 g1))))
            refine RG_keep hK (by first | exact chain hacc hbx | exact hacc.alloc hacc.size _ | exact Below.alloc (by assumption) (by omega) _ | exact hacc | exact hacc.trans (hbx.mono (by have := hacc.size; simp; omega)) | exact (hacc.alloc hacc.size _).trans (hbx.mono (by have := hacc.size; simp; omega)) | exact (hacc.setCell (by first | omega | (simp; done) | (simp; omega)) _).setCell (by first | omega | (simp; done) | (simp; omega)) _) (fun hacc => ?_)
            have hsz := hacc.size
            try simp only [World.size_alloc] at hsz
            clear hK K
            try simp only [Act.put, List.setIfInBounds_toArray, List.set_cons_zero, List.set_cons_succ]
            refine RG_done (by kernel_rfl) ?_
            refine hR _ _ ?_
            go_wp2_with fail
            go_meet
            first | exact ⟨_, rfl, by omega, alloc_new rfl, hacc⟩ | exact ⟨_, rfl, by first | omega | (simp; done) | (simp; omega), heap_set (heap_set hg.1 _ _) _ _, hacc⟩
          · go_wp2_with (first | (go_at_call 24; (with_reducible refine (K1.out _).mono ?_); rintro e wx ⟨rfl, hbx⟩; (try (have hg := new_in hbx)); (try (have hg := new_in' hbx)); (try (have hg := old_in hg hbx)); (try simp only [World.size_drew] at hg); (try (have g0 := cell_at hg.1 0; have g1 := cell_at hg.1 1; have gf0 := free_at hg.1 0; have gf1 := free_at hg.1 1; have hgl := hg.2; simp only [List.getElem?_toArray, List.getElem?_cons_zero, List.getElem?_cons_succ] at g0 g1))) | (go_at_call 24; (with_reducible refine (K2.out _).mono ?_); rintro e wx ⟨rfl, hbx⟩; (try (have hg := new_in hbx)); (try (have hg := new_in' hbx)); (try (have hg := old_in hg hbx)); (try simp only [World.size_drew] at hg); (try (have g0 := cell_at hg.1 0; have g1 := cell_at hg.1 1; have gf0 := free_at hg.1 0; have gf1 := free_at hg.1 1; have hgl := hg.2; simp only [List.getElem?_toArray, List.getElem?_cons_zero, List.getElem?_cons_succ] at g0 g1))))
            refine RG_keep hK (by first | exact chain hacc hbx | exact hacc.alloc hacc.size _ | exact Below.alloc (by assumption) (by omega) _ | exact hacc | exact hacc.trans (hbx.mono (by have := hacc.size; simp; omega)) | exact (hacc.alloc hacc.size _).trans (hbx.mono (by have := hacc.size; simp; omega)) | exact (hacc.setCell (by first | omega | (simp; done) | (simp; omega)) _).setCell (by first | omega | (simp; done) | (simp; omega)) _) (fun hacc => ?_)
            have hsz := hacc.size
            try simp only [World.size_alloc] at hsz
            clear hK K
            try simp only [Act.put, List.setIfInBounds_toArray, List.set_cons_zero, List.set_cons_succ]
            refine RG_one (i := 7) #[true, true, true, true, true, true, true, true, true, false] rfl (by kernel_rfl) rfl rfl (fun K hK => ?_)
            go_wp2_with (first | (go_at_call 24; (with_reducible refine (K1.out _).mono ?_); rintro e wx ⟨rfl, hbx⟩; (try (have hg := new_in hbx)); (try (have hg := new_in' hbx)); (try (have hg := old_in hg hbx)); (try simp only [World.size_drew] at hg); (try (have g0 := cell_at hg.1 0; have g1 := cell_at hg.1 1; have gf0 := free_at hg.1 0; have gf1 := free_at hg.1 1; have hgl := hg.2; simp only [List.getElem?_toArray, List.getElem?_cons_zero, List.getElem?_cons_succ] at g0 g1))) | (go_at_call 24; (with_reducible refine (K2.out _).mono ?_); rintro e wx ⟨rfl, hbx⟩; (try (have hg := new_in hbx)); (try (have hg := new_in' hbx)); (try (have hg := old_in hg hbx)); (try simp only [World.size_drew] at hg); (try (have g0 := cell_at hg.1 0; have g1 := cell_at hg.1 1; have gf0 := free_at hg.1 0; have gf1 := free_at hg.1 1; have hgl := hg.2; simp only [List.getElem?_toArray, List.getElem?_cons_zero, List.getElem?_cons_succ] at g0 g1))))
            refine RG_keep hK (by first | exact chain hacc hbx | exact hacc.alloc hacc.size _ | exact Below.alloc (by assumption) (by omega) _ | exact hacc | exact hacc.trans (hbx.mono (by have := hacc.size; simp; omega)) | exact (hacc.alloc hacc.size _).trans (hbx.mono (by have := hacc.size; simp; omega)) | exact (hacc.setCell (by first | omega | (simp; done) | (simp; omega)) _).setCell (by first | omega | (simp; done) | (simp; omega)) _) (fun hacc => ?_)
            have hsz := hacc.size
            try simp only [World.size_alloc] at hsz
            clear hK K
            try simp only [Act.put, List.setIfInBounds_toArray, List.set_cons_zero, List.set_cons_succ]
            refine RG_one (i := 9) #[true, true, true, true, true, true, true, true, true, true] rfl (by kernel_rfl) rfl rfl (fun K hK => ?_)
            go_wp2_with (first | (go_at_call 24; (with_reducible refine (K1.out _).mono ?_); rintro e wx ⟨rfl, hbx⟩; (try (have hg := new_in hbx)); (try (have hg := new_in' hbx)); (try (have hg := old_in hg hbx)); (try simp only [World.size_drew] at hg); (try (have g0 := cell_at hg.1 0; have g1 := cell_at hg.1 1; have gf0 := free_at hg.1 0; have gf1 := free_at hg.1 1; have hgl := hg.2; simp only [List.getElem?_toArray, List.getElem?_cons_zero, List.getElem?_cons_succ] at g0 g1))) | (go_at_call 24; (with_reducible refine (K2.out _).mono ?_); rintro e wx ⟨rfl, hbx⟩; (try (have hg := new_in hbx)); (try (have hg := new_in' hbx)); (try (have hg := old_in hg hbx)); (try simp only [World.size_drew] at hg); (try (have g0 := cell_at hg.1 0; have g1 := cell_at hg.1 1; have gf0 := free_at hg.1 0; have gf1 := free_at hg.1 1; have hgl := hg.2; simp only [List.getElem?_toArray, List.getElem?_cons_zero, List.getElem?_cons_succ] at g0 g1))))
            refine RG_keep hK (by first | exact chain hacc hbx | exact hacc.alloc hacc.size _ | exact Below.alloc (by assumption) (by omega) _ | exact hacc | exact hacc.trans (hbx.mono (by have := hacc.size; simp; omega)) | exact (hacc.alloc hacc.size _).trans (hbx.mono (by have := hacc.size; simp; omega)) | exact (hacc.setCell (by first | omega | (simp; done) | (simp; omega)) _).setCell (by first | omega | (simp; done) | (simp; omega)) _) (fun hacc => ?_)
            have hsz := hacc.size
            try simp only [World.size_alloc] at hsz
            clear hK K
            try simp only [Act.put, List.setIfInBounds_toArray, List.set_cons_zero, List.set_cons_succ]
            refine RG_done (by kernel_rfl) ?_
            refine hR _ _ ?_
            go_wp2_with fail
            go_meet
            first | exact ⟨_, rfl, by omega, alloc_new rfl, hacc⟩ | exact ⟨_, rfl, by first | omega | (simp; done) | (simp; omega), heap_set (heap_set hg.1 _ _) _ _, hacc⟩
        · go_wp2_with (first | (go_at_call 24; (with_reducible refine (K1.out _).mono ?_); rintro e wx ⟨rfl, hbx⟩; (try (have hg := new_in hbx)); (try (have hg := new_in' hbx)); (try (have hg := old_in hg hbx)); (try simp only [World.size_drew] at hg); (try (have g0 := cell_at hg.1 0; have g1 := cell_at hg.1 1; have gf0 := free_at hg.1 0; have gf1 := free_at hg.1 1; have hgl := hg.2; simp only [List.getElem?_toArray, List.getElem?_cons_zero, List.getElem?_cons_succ] at g0 g1))) | (go_at_call 24; (with_reducible refine (K2.out _).mono ?_); rintro e wx ⟨rfl, hbx⟩; (try (have hg := new_in hbx)); (try (have hg := new_in' hbx)); (try (have hg := old_in hg hbx)); (try simp only [World.size_drew] at hg); (try (have g0 := cell_at hg.1 0; have g1 := cell_at hg.1 1; have gf0 := free_at hg.1 0; have gf1 := free_at hg.1 1; have hgl := hg.2; simp only [List.getElem?_toArray, List.getElem?_cons_zero, List.getElem?_cons_succ] at g0 g1))))
          refine RG_keep hK (by first | exact chain hacc hbx | exact hacc.alloc hacc.size _ | exact Below.alloc (by assumption) (by omega) _ | exact hacc | exact hacc.trans (hbx.mono (by have := hacc.size; simp; omega)) | exact (hacc.alloc hacc.size _).trans (hbx.mono (by have := hacc.size; simp; omega)) | exact (hacc.setCell (by first | omega | (simp; done) | (simp; omega)) _).setCell (by first | omega | (simp; done) | (simp; omega)) _) (fun hacc => ?_)
          have hsz := hacc.size
          try simp only [World.size_alloc] at hsz
          clear hK K
          try simp only [Act.put, List.setIfInBounds_toArray, List.set_cons_zero, List.set_cons_succ]
          refine RG_one (i := 4) #[true, true, true, true, true, true, true, false, true, false] rfl (by kernel_rfl) rfl rfl (fun K hK => ?_)
          go_wp2_with (first | (go_at_call 24; (with_reducible refine (K1.out _).mono ?_); rintro e wx ⟨rfl, hbx⟩; (try (have hg := new_in hbx)); (try (have hg := new_in' hbx)); (try (have hg := old_in hg hbx)); (try simp only [World.size_drew] at hg); (try (have g0 := cell_at hg.1 0; have g1 := cell_at hg.1 1; have gf0 := free_at hg.1 0; have gf1 := free_at hg.1 1; have hgl := hg.2; simp only [List.getElem?_toArray, List.getElem?_cons_zero, List.getElem?_cons_succ] at g0 g1))) | (go_at_call 24; (with_reducible refine (K2.out _).mono ?_); rintro e wx ⟨rfl, hbx⟩; (try (have hg := new_in hbx)); (try (have hg := new_in' hbx)); (try (have hg := old_in hg hbx)); (try simp only [World.size_drew] at hg); (try (have g0 := cell_at hg.1 0; have g1 := cell_at hg.1 1; have gf0 := free_at hg.1 0; have gf1 := free_at hg.1 1; have hgl := hg.2; simp only [List.getElem?_toArray, List.getElem?_cons_zero, List.getElem?_cons_succ] at g0 g1))))
          refine RG_keep hK (by first | exact chain hacc hbx | exact hacc.alloc hacc.size _ | exact Below.alloc (by assumption) (by omega) _ | exact hacc | exact hacc.trans (hbx.mono (by have := hacc.size; simp; omega)) | exact (hacc.alloc hacc.size _).trans (hbx.mono (by have := hacc.size; simp; omega)) | exact (hacc.setCell (by first | omega | (simp; done) | (simp; omega)) _).setCell (by first | omega | (simp; done) | (simp; omega)) _) (fun hacc => ?_)
          have hsz := hacc.size
          try simp only [World.size_alloc] at hsz
          clear hK K
          try simp only [Act.put, List.setIfInBounds_toArray, List.set_cons_zero, List.set_cons_succ]
          refine RG_one (i := 7) #[true, true, true, true, true, true, true, true, true, false] rfl (by kernel_rfl) rfl rfl (fun K hK => ?_)
          go_wp2_with (first | (go_at_call 24; (with_reducible refine (K1.out _).mono ?_); rintro e wx ⟨rfl, hbx⟩; (try (have hg := new_in hbx)); (try (have hg := new_in' hbx)); (try (have hg := old_in hg hbx)); (try simp only [World.size_drew] at hg); (try (have g0 := cell_at hg.1 0; have g1 := cell_at hg.1 1; have gf0 := free_at hg.1 0; have gf1 := free_at hg.1 1; have hgl := hg.2; simp only [List.getElem?_toArray, List.getElem?_cons_zero, List.getElem?_cons_succ] at g0 g1))) | (go_at_call 24; (with_reducible refine (K2.out _).mono ?_); rintro e wx ⟨rfl, hbx⟩; (try (have hg := new_in hbx)); (try (have hg := new_in' hbx)); (try (have hg := old_in hg hbx)); (try simp only [World.size_drew] at hg); (try (have g0 := cell_at hg.1 0; have g1 := cell_at hg.1 1; have gf0 := free_at hg.1 0; have gf1 := free_at hg.1 1; have hgl := hg.2; simp only [List.getElem?_toArray, List.getElem?_cons_zero, List.getElem?_cons_succ] at g0 g1))))
          refine RG_keep hK (by first | exact chain hacc hbx | exact hacc.alloc hacc.size _ | exact Below.alloc (by assumption) (by omega) _ | exact hacc | exact hacc.trans (hbx.mono (by have := hacc.size; simp; omega)) | exact (hacc.alloc hacc.size _).trans (hbx.mono (by have := hacc.size; simp; omega)) | exact (hacc.setCell (by first | omega | (simp; done) | (simp; omega)) _).setCell (by first | omega | (simp; done) | (simp; omega)) _) (fun hacc => ?_)
          have hsz := hacc.size
          try simp only [World.size_alloc] at hsz
          clear hK K
          try simp only [Act.put, List.setIfInBounds_toArray, List.set_cons_zero, List.set_cons_succ]
          refine RG_one (i := 9) #[true, true, true, true, true, true, true, true, true, true] rfl (by kernel_rfl) rfl rfl (fun K hK => ?_)
          go_wp2_with (first | (go_at_call 24; (with_reducible refine (K1.out _).mono ?_); rintro e wx ⟨rfl, hbx⟩; (try (have hg := new_in hbx)); (try (have hg := new_in' hbx)); (try (have hg := old_in hg hbx)); (try simp only [World.size_drew] at hg); (try (have g0 := cell_at hg.1 0; have g1 := cell_at hg.1 1; have gf0 := free_at hg.1 0; have gf1 := free_at hg.1 1; have hgl := hg.2; simp only [List.getElem?_toArray, List.getElem?_cons_zero, List.getElem?_cons_succ] at g0 g1))) | (go_at_call 24; (with_reducible refine (K2.out _).mono ?_); rintro e wx ⟨rfl, hbx⟩; (try (have hg := new_in hbx)); (try (have hg := new_in' hbx)); (try (have hg := old_in hg hbx)); (try simp only [World.size_drew] at hg); (try (have g0 := cell_at hg.1 0; have g1 := cell_at hg.1 1; have gf0 := free_at hg.1 0; have gf1 := free_at hg.1 1; have hgl := hg.2; simp only [List.getElem?_toArray, List.getElem?_cons_zero, List.getElem?_cons_succ] at g0 g1))))
          refine RG_keep hK (by first | exact chain hacc hbx | exact hacc.alloc hacc.size _ | exact Below.alloc (by assumption) (by omega) _ | exact hacc | exact hacc.trans (hbx.mono (by have := hacc.size; simp; omega)) | exact (hacc.alloc hacc.size _).trans (hbx.mono (by have := hacc.size; simp; omega)) | exact (hacc.setCell (by first | omega | (simp; done) | (simp; omega)) _).setCell (by first | omega | (simp; done) | (simp; omega)) _) (fun hacc => ?_)
          have hsz := hacc.size
          try simp only [World.size_alloc] at hsz
          clear hK K
          try simp only [Act.put, List.setIfInBounds_toArray, List.set_cons_zero, List.set_cons_succ]
          refine RG_done (by kernel_rfl) ?_
          refine hR _ _ ?_
          go_wp2_with fail
          go_meet
          first | exact ⟨_, rfl, by omega, alloc_new rfl, hacc⟩ | exact ⟨_, rfl, by first | omega | (simp; done) | (simp; omega), heap_set (heap_set hg.1 _ _) _ _, hacc⟩
      case rest =>
        obtain ⟨g7, rfl, hg7, h7, hb7⟩ := hcut
        have h6' : wc.heap[w.heap.size]? = some (.cells (c6 U0 U1 U2 3) 39 (0, 0)) := by rw [hb7.block _ z6]; exact H6.out
        have hw7 : Below w.heap.size w wc := HB.out.trans (hb7.mono HB.out.size)
        clear hb7 H6 HB d0 d1 d2 d3 d4 d5
        simp only [c6] at h6'
        have z7 := lt_of_heap h7
        have z6' := lt_of_heap h6'
        have d0 := cell_at h6' 0
        have d1 := cell_at h6' 1
        have d2 := cell_at h6' 2
        have d3 := cell_at h6' 3
        have d4 := cell_at h6' 4
        have d5 := cell_at h6' 5
        simp only [List.getElem?_toArray, List.getElem?_cons_zero, List.getElem?_cons_succ] at d0 d1 d2 d3 d4 d5
        have H6 := Lib.hid h6'
        have H7 := Lib.hid h7
        have HB := Lib.hid hw7
        clear h6' h7 hw7
        go_wp2_with fail
        obtain ⟨W2, rfl⟩ : ∃ W2, W2 = wc := ⟨_, rfl⟩
        go_cut [8] (fun sv wx => ∃ g : Nat, sv = .pointer (some ⟨g, 0, none⟩) ∧ W2.heap.size ≤ g ∧ wx.heap[g]? = some (.cells #[.int .i64 (JB U0 (JB U1 U2)).t, .complex .f64 (JB U0 (JB U1 U2)).p (JB U0 (JB U1 U2)).q] 29 (0, 0)) ∧ Below W2.heap.size W2 wx)
        case first =>
          refine RG_begin 10 #[false, false, false, false, false, false, false, false, false, false] rfl rfl (by kernel_rfl) (fun R hR hacc => ?_)
          refine RG_take (i := 0) (v := ?v9x1) (some 56) #[true, false, false, false, false, false, false, false, false, false] rfl rfl (by kernel_rfl) (by kernel_rfl) (by kernel_rfl) rfl rfl (fun x => ?h9x1) ?n9x1
          case h9x1 => (go_simp; try with_reducible rfl)
          try simp only [Act.put, List.setIfInBounds_toArray, List.set_cons_zero, List.set_cons_succ]
          refine RG_take (i := 1) (v := ?v9x2) (some 57) #[true, true, false, false, false, false, false, false, false, false] rfl rfl (by kernel_rfl) (by kernel_rfl) (by kernel_rfl) rfl rfl (fun x => ?h9x2) ?n9x2
          case h9x2 => (go_simp; try with_reducible rfl)
          try simp only [Act.put, List.setIfInBounds_toArray, List.set_cons_zero, List.set_cons_succ]
          refine RG_take (i := 2) (v := ?v9x3) (some 58) #[true, true, true, false, false, false, false, false, false, false] rfl rfl (by kernel_rfl) (by kernel_rfl) (by kernel_rfl) rfl rfl (fun x => ?h9x3) ?n9x3
          case h9x3 => (go_simp; try with_reducible rfl)
          try simp only [Act.put, List.setIfInBounds_toArray, List.set_cons_zero, List.set_cons_succ]
          refine RG_take (i := 3) (v := ?v9x4) (some 59) #[true, true, true, true, false, false, false, false, false, false] rfl rfl (by kernel_rfl) (by kernel_rfl) (by kernel_rfl) rfl rfl (fun x => ?h9x4) ?n9x4
          case h9x4 => (go_simp; try with_reducible rfl)
          try simp only [Act.put, List.setIfInBounds_toArray, List.set_cons_zero, List.set_cons_succ]
          refine RG_take (i := 4) (v := ?v9x5) (some 60) #[true, true, true, true, true, false, false, false, false, false] rfl rfl (by kernel_rfl) (by kernel_rfl) (by kernel_rfl) rfl rfl (fun x => ?h9x5) ?n9x5
          case h9x5 => (go_simp; try with_reducible rfl)
          try simp only [Act.put, List.setIfInBounds_toArray, List.set_cons_zero, List.set_cons_succ]
          refine RG_take (i := 5) (v := ?v9x6) (some 61) #[true, true, true, true, true, true, false, false, false, false] rfl rfl (by kernel_rfl) (by kernel_rfl) (by kernel_rfl) rfl rfl (fun x => ?h9x6) ?n9x6
          case h9x6 => (go_simp; try with_reducible rfl)
          try simp only [Act.put, List.setIfInBounds_toArray, List.set_cons_zero, List.set_cons_succ]
          refine RG_two (i := 6) (j := 8) #[true, true, true, true, true, true, true, false, false, false] #[true, true, true, true, true, true, false, false, true, false] (by kernel_rfl) rfl rfl rfl rfl rfl rfl (fun K hK => ?_) (fun K hK => ?_)
          · go_wp2_with (first | (go_at_call 24; (with_reducible refine (K3.out _).mono ?_); rintro e wx ⟨rfl, hbx⟩; (try (have hg := new_in hbx)); (try (have hg := new_in' hbx)); (try (have hg := old_in hg hbx)); (try simp only [World.size_drew] at hg); (try (have g0 := cell_at hg.1 0; have g1 := cell_at hg.1 1; have gf0 := free_at hg.1 0; have gf1 := free_at hg.1 1; have hgl := hg.2; simp only [List.getElem?_toArray, List.getElem?_cons_zero, List.getElem?_cons_succ] at g0 g1))) | (go_at_call 24; (with_reducible refine (K4.out _).mono ?_); rintro e wx ⟨rfl, hbx⟩; (try (have hg := new_in hbx)); (try (have hg := new_in' hbx)); (try (have hg := old_in hg hbx)); (try simp only [World.size_drew] at hg); (try (have g0 := cell_at hg.1 0; have g1 := cell_at hg.1 1; have gf0 := free_at hg.1 0; have gf1 := free_at hg.1 1; have hgl := hg.2; simp only [List.getElem?_toArray, List.getElem?_cons_zero, List.getElem?_cons_succ] at g0 g1))))
            refine RG_keep hK (by first | exact chain hacc hbx | exact hacc.alloc hacc.size _ | exact Below.alloc (by assumption) (by omega) _ | exact hacc | exact hacc.trans (hbx.mono (by have := hacc.size; simp; omega)) | exact (hacc.alloc hacc.size _).trans (hbx.mono (by have := hacc.size; simp; omega)) | exact (hacc.setCell (by first | omega | (simp; done) | (simp; omega)) _).setCell (by first | omega | (simp; done) | (simp; omega)) _) (fun hacc => ?_)
            have hsz := hacc.size
            try simp only [World.size_alloc] at hsz
            clear hK K
            try simp only [Act.put, List.setIfInBounds_toArray, List.set_cons_zero, List.set_cons_succ]
            refine RG_two (i := 7) (j := 8) #[true, true, true, true, true, true, true, true, false, false] #[true, true, true, true, true, true, true, false, true, false] (by kernel_rfl) rfl rfl rfl rfl rfl rfl (fun K hK => ?_) (fun K hK => ?_)
            · go_wp2_with (first | (go_at_call 24; (with_reducible refine (K3.out _).mono ?_); rintro e wx ⟨rfl, hbx⟩; (try (have hg := new_in hbx)); (try (have hg := new_in' hbx)); (try (have hg := old_in hg hbx)); (try simp only [World.size_drew] at hg); (try (have g0 := cell_at hg.1 0; have g1 := cell_at hg.1 1; have gf0 := free_at hg.1 0; have gf1 := free_at hg.1 1; have hgl := hg.2; simp only [List.getElem?_toArray, List.getElem?_cons_zero, List.getElem?_cons_succ] at g0 g1))) | (go_at_call 24; (with_reducible refine (K4.out _).mono ?_); rintro e wx ⟨rfl, hbx⟩; (try (have hg := new_in hbx)); (try (have hg := new_in' hbx)); (try (have hg := old_in hg hbx)); (try simp only [World.size_drew] at hg); (try (have g0 := cell_at hg.1 0; have g1 := cell_at hg.1 1; have gf0 := free_at hg.1 0; have gf1 := free_at hg.1 1; have hgl := hg.2; simp only [List.getElem?_toArray, List.getElem?_cons_zero, List.getElem?_cons_succ] at g0 g1))))
              refine RG_keep hK (by first | exact chain hacc hbx | exact hacc.alloc hacc.size _ | exact Below.alloc (by assumption) (by omega) _ | exact hacc | exact hacc.trans (hbx.mono (by have := hacc.size; simp; omega)) | exact (hacc.alloc hacc.size _).trans (hbx.mono (by have := hacc.size; simp; omega)) | exact (hacc.setCell (by first | omega | (simp; done) | (simp; omega)) _).setCell (by first | omega | (simp; done) | (simp; omega)) _) (fun hacc => ?_)
              have hsz := hacc.size
              try simp only [World.size_alloc] at hsz
              clear hK K
              try simp only [Act.put, List.setIfInBounds_toArray, List.set_cons_zero, List.set_cons_succ]
              refine RG_one (i := 8) #[true, true, true, true, true, true, true, true, true, false] rfl (by kernel_rfl) rfl rfl (fun K hK => ?_)
              go_wp2_with (first | (go_at_call 24; (with_reducible refine (K3.out _).mono ?_); rintro e wx ⟨rfl, hbx⟩; (try (have hg := new_in hbx)); (try (have hg := new_in' hbx)); (try (have hg := old_in hg hbx)); (try simp only [World.size_drew] at hg); (try (have g0 := cell_at hg.1 0; have g1 := cell_at hg.1 1; have gf0 := free_at hg.1 0; have gf1 := free_at hg.1 1; have hgl := hg.2; simp only [List.getElem?_toArray, List.getElem?_cons_zero, List.getElem?_cons_succ] at g0 g1))) | (go_at_call 24; (with_reducible refine (K4.out _).mono ?_); rintro e wx ⟨rfl, hbx⟩; (try (have hg := new_in hbx)); (try (have hg := new_in' hbx)); (try (have hg := old_in hg hbx)); (try simp only [World.size_drew] at hg); (try (have g0 := cell_at hg.1 0; have g1 := cell_at hg.1 1; have gf0 := free_at hg.1 0; have gf1 := free_at hg.1 1; have hgl := hg.2; simp only [List.getElem?_toArray, List.getElem?_cons_zero, List.getElem?_cons_succ] at g0 g1))))
              refine RG_keep hK (by first | exact chain hacc hbx | exact hacc.alloc hacc.size _ | exact Below.alloc (by assumption) (by omega) _ | exact hacc | exact hacc.trans (hbx.mono (by have := hacc.size; simp; omega)) | exact (hacc.alloc hacc.size _).trans (hbx.mono (by have := hacc.size; simp; omega)) | exact (hacc.setCell (by first | omega | (simp; done) | (simp; omega)) _).setCell (by first | omega | (simp; done) | (simp; omega)) _) (fun hacc => ?_)
              have hsz := hacc.size
              try simp only [World.size_alloc] at hsz
              clear hK K
              try simp only [Act.put, List.setIfInBounds_toArray, List.set_cons_zero, List.set_cons_succ]
              refine RG_one (i := 9) #[true, true, true, true, true, true, true, true, true, true] rfl (by kernel_rfl) rfl rfl (fun K hK => ?_)
              go_wp2_with (first | (go_at_call 24; (with_reducible refine (K3.out _).mono ?_); rintro e wx ⟨rfl, hbx⟩; (try (have hg := new_in hbx)); (try (have hg := new_in' hbx)); (try (have hg := old_in hg hbx)); (try simp only [World.size_drew] at hg); (try (have g0 := cell_at hg.1 0; have g1 := cell_at hg.1 1; have gf0 := free_at hg.1 0; have gf1 := free_at hg.1 1; have hgl := hg.2; simp only [List.getElem?_toArray, List.getElem?_cons_zero, List.getElem?_cons_succ] at g0 g1))) | (go_at_call 24; (with_reducible refine (K4.out _).mono ?_); rintro e wx ⟨rfl, hbx⟩; (try (have hg := new_in hbx)); (try (have hg := new_in' hbx)); (try (have hg := old_in hg hbx)); (try simp only [World.size_drew] at hg); (try (have g0 := cell_at hg.1 0; have g1 := cell_at hg.1 1; have gf0 := free_at hg.1 0; have gf1 := free_at hg.1 1; have hgl := hg.2; simp only [List.getElem?_toArray, List.getElem?_cons_zero, List.getElem?_cons_succ] at g0 g1))))
              refine RG_keep hK (by first | exact chain hacc hbx | exact hacc.alloc hacc.size _ | exact Below.alloc (by assumption) (by omega) _ | exact hacc | exact hacc.trans (hbx.mono (by have := hacc.size; simp; omega)) | exact (hacc.alloc hacc.size _).trans (hbx.mono (by have := hacc.size; simp; omega)) | exact (hacc.setCell (by first | omega | (simp; done) | (simp; omega)) _).setCell (by first | omega | (simp; done) | (simp; omega)) _) (fun hacc => ?_)
              have hsz := hacc.size
              try simp only [World.size_alloc] at hsz
              clear hK K
              try simp only [Act.put, List.setIfInBounds_toArray, List.set_cons_zero, List.set_cons_succ]
              refine RG_done (by kernel_rfl) ?_
              refine hR _ _ ?_
              go_wp2_with fail
              go_meet
              first | exact ⟨_, rfl, by omega, alloc_new rfl, hacc⟩ | exact ⟨_, rfl, by first | omega | (simp; done) | (simp; omega), heap_set (heap_set hg.1 _ _) _ _, hacc⟩
            · go_wp2_with (first | (go_at_call 24; (with_reducible refine (K3.out _).mono ?_); rintro e wx ⟨rfl, hbx⟩; (try (have hg := new_in hbx)); (try (have hg := new_in' hbx)); (try (have hg := old_in hg hbx)); (try simp only [World.size_drew] at hg); (try (have g0 := cell_at hg.1 0; have g1 := cell_at hg.1 1; have gf0 := free_at hg.1 0; have gf1 := free_at hg.1 1; have hgl := hg.2; simp only [List.getElem?_toArray, List.getElem?_cons_zero, List.getElem?_cons_succ] at g0 g1))) | (go_at_call 24; (with_reducible refine (K4.out _).mono ?_); rintro e wx ⟨rfl, hbx⟩; (try (have hg := new_in hbx)); (try (have hg := new_in' hbx)); (try (have hg := old_in hg hbx)); (try simp only [World.size_drew] at hg); (try (have g0 := cell_at hg.1 0; have g1 := cell_at hg.1 1; have gf0 := free_at hg.1 0; have gf1 := free_at hg.1 1; have hgl := hg.2; simp only [List.getElem?_toArray, List.getElem?_cons_zero, List.getElem?_cons_succ] at g0 g1))))
              refine RG_keep hK (by first | exact chain hacc hbx | exact hacc.alloc hacc.size _ | exact Below.alloc (by assumption) (by omega) _ | exact hacc | exact hacc.trans (hbx.mono (by have := hacc.size; simp; omega)) | exact (hacc.alloc hacc.size _).trans (hbx.mono (by have := hacc.size; simp; omega)) | exact (hacc.setCell (by first | omega | (simp; done) | (simp; omega)) _).setCell (by first | omega | (simp; done) | (simp; omega)) _) (fun hacc => ?_)
              have hsz := hacc.size
              try simp only [World.size_alloc] at hsz
              clear hK K
              try simp only [Act.put, List.setIfInBounds_toArray, List.set_cons_zero, List.set_cons_succ]
              refine RG_one (i := 7) #[true, true, true, true, true, true, true, true, true, false] rfl (by kernel_rfl) rfl rfl (fun K hK => ?_)
              go_wp2_with (first | (go_at_call 24; (with_reducible refine (K3.out _).mono ?_); rintro e wx ⟨rfl, hbx⟩; (try (have hg := new_in hbx)); (try (have hg := new_in' hbx)); (try (have hg := old_in hg hbx)); (try simp only [World.size_drew] at hg); (try (have g0 := cell_at hg.1 0; have g1 := cell_at hg.1 1; have gf0 := free_at hg.1 0; have gf1 := free_at hg.1 1; have hgl := hg.2; simp only [List.getElem?_toArray, List.getElem?_cons_zero, List.getElem?_cons_succ] at g0 g1))) | (go_at_call 24; (with_reducible refine (K4.out _).mono ?_); rintro e wx ⟨rfl, hbx⟩; (try (have hg := new_in hbx)); (try (have hg := new_in' hbx)); (try (have hg := old_in hg hbx)); (try simp only [World.size_drew] at hg); (try (have g0 := cell_at hg.1 0; have g1 := cell_at hg.1 1; have gf0 := free_at hg.1 0; have gf1 := free_at hg.1 1; have hgl := hg.2; simp only [List.getElem?_toArray, List.getElem?_cons_zero, List.getElem?_cons_succ] at g0 g1))))
              refine RG_keep hK (by first | exact chain hacc hbx | exact hacc.alloc hacc.size _ | exact Below.alloc (by assumption) (by omega) _ | exact hacc | exact hacc.trans (hbx.mono (by have := hacc.size; simp; omega)) | exact (hacc.alloc hacc.size _).trans (hbx.mono (by have := hacc.size; simp; omega)) | exact (hacc.setCell (by first | omega | (simp; done) | (simp; omega)) _).setCell (by first | omega | (simp; done) | (simp; omega)) _) (fun hacc => ?_)
              have hsz := hacc.size
              try simp only [World.size_alloc] at hsz
              clear hK K
              try simp only [Act.put, List.setIfInBounds_toArray, List.set_cons_zero, List.set_cons_succ]
              refine RG_one (i := 9) #[true, true, true, true, true, true, true, true, true, true] rfl (by kernel_rfl) rfl rfl (fun K hK => ?_)
              go_wp2_with (first | (go_at_call 24; (with_reducible refine (K3.out _).mono ?_); rintro e wx ⟨rfl, hbx⟩; (try (have hg := new_in hbx)); (try (have hg := new_in' hbx)); (try (have hg := old_in hg hbx)); (try simp only [World.size_drew] at hg); (try (have g0 := cell_at hg.1 0; have g1 := cell_at hg.1 1; have gf0 := free_at hg.1 0; have gf1 := free_at hg.1 1; have hgl := hg.2; simp only [List.getElem?_toArray, List.getElem?_cons_zero, List.getElem?_cons_succ] at g0 g1))) | (go_at_call 24; (with_reducible refine (K4.out _).mono ?_); rintro e wx ⟨rfl, hbx⟩; (try (have hg := new_in hbx)); (try (have hg := new_in' hbx)); (try (have hg := old_in hg hbx)); (try simp only [World.size_drew] at hg); (try (have g0 := cell_at hg.1 0; have g1 := cell_at hg.1 1; have gf0 := free_at hg.1 0; have gf1 := free_at hg.1 1; have hgl := hg.2; simp only [List.getElem?_toArray, List.getElem?_cons_zero, List.getElem?_cons_succ] at g0 g1))))
              refine RG_keep hK (by first | exact chain hacc hbx | exact hacc.alloc hacc.size _ | exact Below.alloc (by assumption) (by omega) _ | exact hacc | exact hacc.trans (hbx.mono (by have := hacc.size; simp; omega)) | exact (hacc.alloc hacc.size _).trans (hbx.mono (by have := hacc.size; simp; omega)) | exact (hacc.setCell (by first | omega | (simp; done) | (simp; omega)) _).setCell (by first | omega | (simp; done) | (simp; omega)) _) (fun hacc => ?_)
              have hsz := hacc.size
              try simp only [World.size_alloc] at hsz
              clear hK K
              try simp only [Act.put, List.setIfInBounds_toArray, List.set_cons_zero, List.set_cons_succ]
              refine RG_done (by kernel_rfl) ?_
              refine hR _ _ ?_
              go_wp2_with fail
              go_meet
              first | exact ⟨_, rfl, by omega, alloc_new rfl, hacc⟩ | exact ⟨_, rfl, by first | omega | (simp; done) | (simp; omega), heap_set (heap_set hg.1 _ _) _ _, hacc⟩
          · go_wp2_with (first | (go_at_call 24; (with_reducible refine (K3.out _).mono ?_); rintro e wx ⟨rfl, hbx⟩; (try (have hg := new_in hbx)); (try (have hg := new_in' hbx)); (try (have hg := old_in hg hbx)); (try simp only [World.size_drew] at hg); (try (have g0 := cell_at hg.1 0; have g1 := cell_at hg.1 1; have gf0 := free_at hg.1 0; have gf1 := free_at hg.1 1; have hgl := hg.2; simp only [List.getElem?_toArray, List.getElem?_cons_zero, List.getElem?_cons_succ] at g0 g1))) | (go_at_call 24; (with_reducible refine (K4.out _).mono ?_); rintro e wx ⟨rfl, hbx⟩; (try (have hg := new_in hbx)); (try (have hg := new_in' hbx)); (try (have hg := old_in hg hbx)); (try simp only [World.size_drew] at hg); (try (have g0 := cell_at hg.1 0; have g1 := cell_at hg.1 1; have gf0 := free_at hg.1 0; have gf1 := free_at hg.1 1; have hgl := hg.2; simp only [List.getElem?_toArray, List.getElem?_cons_zero, List.getElem?_cons_succ] at g0 g1))))
            refine RG_keep hK (by first | exact chain hacc hbx | exact hacc.alloc hacc.size _ | exact Below.alloc (by assumption) (by omega) _ | exact hacc | exact hacc.trans (hbx.mono (by have := hacc.size; simp; omega)) | exact (hacc.alloc hacc.size _).trans (hbx.mono (by have := hacc.size; simp; omega)) | exact (hacc.setCell (by first | omega | (simp; done) | (simp; omega)) _).setCell (by first | omega | (simp; done) | (simp; omega)) _) (fun hacc => ?_)
            have hsz := hacc.size
            try simp only [World.size_alloc] at hsz
            clear hK K
            try simp only [Act.put, List.setIfInBounds_toArray, List.set_cons_zero, List.set_cons_succ]
            refine RG_one (i := 6) #[true, true, true, true, true, true, true, false, true, false] rfl (by kernel_rfl) rfl rfl (fun K hK => ?_)
            go_wp2_with (first | (go_at_call 24; (with_reducible refine (K3.out _).mono ?_); rintro e wx ⟨rfl, hbx⟩; (try (have hg := new_in hbx)); (try (have hg := new_in' hbx)); (try (have hg := old_in hg hbx)); (try simp only [World.size_drew] at hg); (try (have g0 := cell_at hg.1 0; have g1 := cell_at hg.1 1; have gf0 := free_at hg.1 0; have gf1 := free_at hg.1 1; have hgl := hg.2; simp only [List.getElem?_toArray, List.getElem?_cons_zero, List.getElem?_cons_succ] at g0 g1))) | (go_at_call 24; (with_reducible refine (K4.out _).mono ?_); rintro e wx ⟨rfl, hbx⟩; (try (have hg := new_in hbx)); (try (have hg := new_in' hbx)); (try (have hg := old_in hg hbx)); (try simp only [World.size_drew] at hg); (try (have g0 := cell_at hg.1 0; have g1 := cell_at hg.1 1; have gf0 := free_at hg.1 0; have gf1 := free_at hg.1 1; have hgl := hg.2; simp only [List.getElem?_toArray, List.getElem?_cons_zero, List.getElem?_cons_succ] at g0 g1))))
            refine RG_keep hK (by first | exact chain hacc hbx | exact hacc.alloc hacc.size _ | exact Below.alloc (by assumption) (by omega) _ | exact hacc | exact hacc.trans (hbx.mono (by have := hacc.size; simp; omega)) | exact (hacc.alloc hacc.size _).trans (hbx.mono (by have := hacc.size; simp; omega)) | exact (hacc.setCell (by first | omega | (simp; done) | (simp; omega)) _).setCell (by first | omega | (simp; done) | (simp; omega)) _) (fun hacc => ?_)
            have hsz := hacc.size
            try simp only [World.size_alloc] at hsz
            clear hK K
            try simp only [Act.put, List.setIfInBounds_toArray, List.set_cons_zero, List.set_cons_succ]
            refine RG_one (i := 7) #[true, true, true, true, true, true, true, true, true, false] rfl (by kernel_rfl) rfl rfl (fun K hK => ?_)
            go_wp2_with (first | (go_at_call 24; (with_reducible refine (K3.out _).mono ?_); rintro e wx ⟨rfl, hbx⟩; (try (have hg := new_in hbx)); (try (have hg := new_in' hbx)); (try (have hg := old_in hg hbx)); (try simp only [World.size_drew] at hg); (try (have g0 := cell_at hg.1 0; have g1 := cell_at hg.1 1; have gf0 := free_at hg.1 0; have gf1 := free_at hg.1 1; have hgl := hg.2; simp only [List.getElem?_toArray, List.getElem?_cons_zero, List.getElem?_cons_succ] at g0 g1))) | (go_at_call 24; (with_reducible refine (K4.out _).mono ?_); rintro e wx ⟨rfl, hbx⟩; (try (have hg := new_in hbx)); (try (have hg := new_in' hbx)); (try (have hg := old_in hg hbx)); (try simp only [World.size_drew] at hg); (try (have g0 := cell_at hg.1 0; have g1 := cell_at hg.1 1; have gf0 := free_at hg.1 0; have gf1 := free_at hg.1 1; have hgl := hg.2; simp only [List.getElem?_toArray, List.getElem?_cons_zero, List.getElem?_cons_succ] at g0 g1))))
            refine RG_keep hK (by first | exact chain hacc hbx | exact hacc.alloc hacc.size _ | exact Below.alloc (by assumption) (by omega) _ | exact hacc | exact hacc.trans (hbx.mono (by have := hacc.size; simp; omega)) | exact (hacc.alloc hacc.size _).trans (hbx.mono (by have := hacc.size; simp; omega)) | exact (hacc.setCell (by first | omega | (simp; done) | (simp; omega)) _).setCell (by first | omega | (simp; done) | (simp; omega)) _) (fun hacc => ?_)
            have hsz := hacc.size
            try simp only [World.size_alloc] at hsz
            clear hK K
            try simp only [Act.put, List.setIfInBounds_toArray, List.set_cons_zero, List.set_cons_succ]
            refine RG_one (i := 9) #[true, true, true, true, true, true, true, true, true, true] rfl (by kernel_rfl) rfl rfl (fun K hK => ?_)
            go_wp2_with (first | (go_at_call 24; (with_reducible refine (K3.out _).mono ?_); rintro e wx ⟨rfl, hbx⟩; (try (have hg := new_in hbx)); (try (have hg := new_in' hbx)); (try (have hg := old_in hg hbx)); (try simp only [World.size_drew] at hg); (try (have g0 := cell_at hg.1 0; have g1 := cell_at hg.1 1; have gf0 := free_at hg.1 0; have gf1 := free_at hg.1 1; have hgl := hg.2; simp only [List.getElem?_toArray, List.getElem?_cons_zero, List.getElem?_cons_succ] at g0 g1))) | (go_at_call 24; (with_reducible refine (K4.out _).mono ?_); rintro e wx ⟨rfl, hbx⟩; (try (have hg := new_in hbx)); (try (have hg := new_in' hbx)); (try (have hg := old_in hg hbx)); (try simp only [World.size_drew] at hg); (try (have g0 := cell_at hg.1 0; have g1 := cell_at hg.1 1; have gf0 := free_at hg.1 0; have gf1 := free_at hg.1 1; have hgl := hg.2; simp only [List.getElem?_toArray, List.getElem?_cons_zero, List.getElem?_cons_succ] at g0 g1))))
            refine RG_keep hK (by first | exact chain hacc hbx | exact hacc.alloc hacc.size _ | exact Below.alloc (by assumption) (by omega) _ | exact hacc | exact hacc.trans (hbx.mono (by have := hacc.size; simp; omega)) | exact (hacc.alloc hacc.size _).trans (hbx.mono (by have := hacc.size; simp; omega)) | exact (hacc.setCell (by first | omega | (simp; done) | (simp; omega)) _).setCell (by first | omega | (simp; done) | (simp; omega)) _) (fun hacc => ?_)
            have hsz := hacc.size
            try simp only [World.size_alloc] at hsz
            clear hK K
            try simp only [Act.put, List.setIfInBounds_toArray, List.set_cons_zero, List.set_cons_succ]
            refine RG_done (by kernel_rfl) ?_
            refine hR _ _ ?_
            go_wp2_with fail
            go_meet
            first | exact ⟨_, rfl, by omega, alloc_new rfl, hacc⟩ | exact ⟨_, rfl, by first | omega | (simp; done) | (simp; omega), heap_set (heap_set hg.1 _ _) _ _, hacc⟩
        case rest =>
          obtain ⟨g8, rfl, hg8, h8, hb8⟩ := hcut
          have h7' : wc.heap[g7]? = some (.cells #[.int .i64 (JB (JB U0 U1) U2).t, .complex .f64 (JB (JB U0 U1) U2).p (JB (JB U0 U1) U2).q] 29 (0, 0)) := by rw [hb8.block _ z7]; exact H7.out
          have h6' : wc.heap[w.heap.size]? = some (.cells #[.int .i64 U0.t, .complex .f64 U0.p U0.q, .int .i64 U1.t, .complex .f64 U1.p U1.q, .int .i64 U2.t, .complex .f64 U2.p U2.q] 39 (0, 0)) := by rw [hb8.block _ z6']; exact H6.out
          have hw8 : Below w.heap.size w wc := HB.out.trans (hb8.mono HB.out.size)
          clear hb8 H6 H7 HB d0 d1 d2 d3 d4 d5
          have z8 := lt_of_heap h8
          have z7 := lt_of_heap h7'
          have z6' := lt_of_heap h6'
          have d0 := cell_at h6' 0
          have d1 := cell_at h6' 1
          have d2 := cell_at h6' 2
          have d3 := cell_at h6' 3
          have d4 := cell_at h6' 4
          have d5 := cell_at h6' 5
          simp only [List.getElem?_toArray, List.getElem?_cons_zero, List.getElem?_cons_succ] at d0 d1 d2 d3 d4 d5
          have a0 := cell_at h7' 0
          have a1 := cell_at h7' 1
          have e0 := cell_at h8 0
          have e1 := cell_at h8 1
          simp only [List.getElem?_toArray, List.getElem?_cons_zero, List.getElem?_cons_succ] at a0 a1 e0 e1
          have H6 := Lib.hid h6'
          have H7 := Lib.hid h7'
          have H8 := Lib.hid h8
          clear h6' h7' h8
          go_wp2_with fail
          generalize hW3 : World.alloc _ _ = W3
          have y6 : W3.heap[w.heap.size]? = some (.cells #[.int .i64 U0.t, .complex .f64 U0.p U0.q, .int .i64 U1.t, .complex .f64 U1.p U1.q, .int .i64 U2.t, .complex .f64 U2.p U2.q] 39 (0, 0)) := by rw [← hW3, alloc_old (by simp; omega), alloc_old z6']; exact H6.out
          have y7 : W3.heap[g7]? = some (.cells #[.int .i64 (JB (JB U0 U1) U2).t, .complex .f64 (JB (JB U0 U1) U2).p (JB (JB U0 U1) U2).q] 29 (0, 0)) := by rw [← hW3, alloc_old (by simp; omega), alloc_old z7]; exact H7.out
          have y8 : W3.heap[g8]? = some (.cells #[.int .i64 (JB U0 (JB U1 U2)).t, .complex .f64 (JB U0 (JB U1 U2)).p (JB U0 (JB U1 U2)).q] 29 (0, 0)) := by rw [← hW3, alloc_old (by simp; omega), alloc_old z8]; exact H8.out
          have y9 : W3.heap[wc.heap.size]? = some (.cells #[.int .i64 0, .complex .f64 0 0] 29 (0, 0)) := by rw [← hW3, alloc_old (by simp), alloc_new rfl]
          have y10 : W3.heap[wc.heap.size + 1]? = some (.cells #[.int .i64 (U0.t - 8), .complex .f64 U0.p U0.q] 29 (0, 0)) := by rw [← hW3, alloc_new (by simp)]
          have hW : Below w.heap.size w W3 := by rw [← hW3]; exact (hw8.alloc hw8.size _).alloc (by have := hw8.size; simp; omega) _
          clear hW3 d0 d1 d2 d3 d4 d5 a0 a1 e0 e1 H6 H7 H8 hw8 z6' z7 z8
          have z6 := lt_of_heap y6
          have z7 := lt_of_heap y7
          have z8 := lt_of_heap y8
          have z9 := lt_of_heap y9
          have z10 := lt_of_heap y10
          have d0 := cell_at y6 0
          have d1 := cell_at y6 1
          have d2 := cell_at y6 2
          have d3 := cell_at y6 3
          have d4 := cell_at y6 4
          have d5 := cell_at y6 5
          have a0 := cell_at y7 0
          have a1 := cell_at y7 1
          have e0 := cell_at y8 0
          have e1 := cell_at y8 1
          have f0 := cell_at y9 0
          have f1 := cell_at y9 1
          have v0 := cell_at y10 0
          have v1 := cell_at y10 1
          simp only [List.getElem?_toArray, List.getElem?_cons_zero, List.getElem?_cons_succ] at d0 d1 d2 d3 d4 d5 a0 a1 e0 e1 f0 f1 v0 v1
          clear y6 y7 y8 y9 y10
          refine region_calm (by kernel_rfl) (by kernel_rfl) ?_
          repeat (quiet_step ((first | with_reducible exact later_call (K1.out _) | with_reducible exact later_call (K5.out _) | with_reducible exact later_call (K6.out _) | with_reducible exact later_call (K7.out _) | with_reducible exact later_call (K8.out _) | with_reducible exact later_call (K9.out _) | with_reducible exact later_call (K10.out _) | with_reducible exact later_call (K11.out _) | with_reducible exact later_call (K12.out _) | with_reducible exact later_call (K13.out _) | with_reducible exact later_call (K14.out _) | with_reducible exact later_call (K15.out _) | with_reducible exact later_call (KB.out _) | with_reducible exact later_call (known_calls _))))
          refine wpQuiet_nil ?_
          rintro _ ⟨x, rfl⟩
          go_wp2
          go_ret
          exact ⟨rfl, Later.chain hW x⟩
end Go.Proofs.Ytgddlcbaieclcaa.walkJoins
