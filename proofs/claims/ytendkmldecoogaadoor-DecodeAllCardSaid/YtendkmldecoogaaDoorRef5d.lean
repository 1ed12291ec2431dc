/-
  tesseraref5.Check.
-/
import Derived.Test.YtendkmldecoogaaDoorRef5c
import Derived.Test.YtendkmldecoogaaDoorRef4
namespace Go.Proofs.YtendkmldecoogaaDoor.Ref5d
open Go Go.RowKit Go.Proofs.YtendkmldecoogaaDoor.Kit Go.Proofs.YtendkmldecoogaaDoor.SpFns Go.Proofs.YtendkmldecoogaaDoor.Dt Go.Proofs.YtendkmldecoogaaDoor.Ref5a Go.Proofs.YtendkmldecoogaaDoor.Ref5b Go.Proofs.YtendkmldecoogaaDoor.Ref5c
attribute [local irreducible] wpQuiet

theorem chk_1 {D : Dt} (h : 4096 < D.nm) : chk D = (4, 5, 4096) := by unfold chk; rw [if_pos h]
theorem chk_2 {D : Dt} (h : ¬ 4096 < D.nm) (h2 : D.nw ≠ D.nm) : chk D = (4, 4, min (D.nw : Int) (D.nm : Int)) := by unfold chk; rw [if_neg h, if_pos h2]
theorem chk_3 {D : Dt} (h : ¬ 4096 < D.nm) (h2 : D.nw = D.nm) (h3 : (chk4 D).1 ≠ 0) : chk D = chk4 D := by unfold chk; rw [if_neg h, if_neg (fun h' => h' h2), if_pos h3]
theorem chk_4 {D : Dt} (h : ¬ 4096 < D.nm) (h2 : D.nw = D.nm) (h3 : (chk4 D).1 = 0) (h4 : (fb (badW D) D.nw 0).2 ≠ 0) : chk D = fault 4 (fb (badW D) D.nw 0) := by unfold chk fault; rw [if_neg h, if_neg (fun h' => h' h2), if_neg (fun h' => h' h3), if_pos h4, if_pos h4]
theorem chk_5 {D : Dt} (h : ¬ 4096 < D.nm) (h2 : D.nw = D.nm) (h3 : (chk4 D).1 = 0) (h4 : (fb (badW D) D.nw 0).2 = 0) : chk D = fault 5 (fb (badM D) D.nm 0) := by unfold chk fault; rw [if_neg h, if_neg (fun h' => h' h2), if_neg (fun h' => h' h3), if_neg (fun h' => h' h4)]
theorem fault_1 (l : Int) (R : Int × Int) : (fault l R).1 = R.2 := by
  unfold fault
  split
  · rfl
  · rename_i h; have : R.2 = 0 := Classical.not_not.1 h
    exact this.symm

set_option maxHeartbeats 4000000 in
set_option maxRecDepth 100000 in
theorem Check_calls (D : Dt) (p : Pl) (w : World) (h : At w D p) :
    Calls Tryd.prog 67 #[.agg #[.slice p.a0 D.nw p.c0, .slice p.a1 D.nm p.c1, .slice p.a2 D.n0 p.c2, .slice p.a3 D.n1 p.c3, .slice p.a4 D.n2 p.c4]] w fun e w' => e = .returned (.agg #[.int .i64 (chk D).1, .int .i64 (chk D).2.1, .int .i64 (chk D).2.2]) ∧ Below w.heap.size w w' := by
  obtain ⟨T, hT⟩ : ∃ T, T = chk D := ⟨_, rfl⟩
  rw [← hT]
  have HT := Lib.hid hT
  have H := Lib.hid h
  have hbw := h.bw
  have hbm := h.bm
  clear h hT
  obtain ⟨W0, hW0⟩ : ∃ W0, w.alloc (.cells #[.slice p.a0 D.nw p.c0, .slice p.a1 D.nm p.c1, .slice p.a2 D.n0 p.c2, .slice p.a3 D.n1 p.c3, .slice p.a4 D.n2 p.c4] 33) = W0 := ⟨_, rfl⟩
  obtain ⟨hb0, hx0, ha0⟩ := boxed H.out hW0
  obtain ⟨W1, hW1⟩ : ∃ W1, W0.alloc (.cells #[.int .i64 0, .int .i64 0, .int .i64 0] 114) = W1 := ⟨_, rfl⟩
  have hb1 : Below W0.heap.size W0 W1 := by rw [← hW1]; exact (Below.refl _ _).alloc (Nat.le_refl _) _
  have HA := Lib.hid (ha0.below hb1)
  have HX := Lib.hid ((hb1.block _ (lt_of_heap hx0)).trans hx0)
  have HB := Lib.hid (chain hb0 hb1)
  have HR := Lib.hid (by rw [← hW1]; exact alloc_new rfl : W1.heap[W0.heap.size]? = some (.cells #[.int .i64 0, .int .i64 0, .int .i64 0] 114 (0, 0)))
  have hsz : w.heap.size ≤ W0.heap.size := hb0.size
  clear hb0 hx0 ha0 hb1
  obtain ⟨rb, hrb⟩ : ∃ rb, W0.heap.size = rb := ⟨_, rfl⟩
  rw [hrb] at HR hsz
  have b0 := cell_at HX.out 0
  have b1 := cell_at HX.out 1
  have b2 := cell_at HX.out 2
  have b3 := cell_at HX.out 3
  have b4 := cell_at HX.out 4
  have r0 := cell_at HR.out 0
  have q0 := free_at HR.out 0
  have r1 := cell_at HR.out 1
  have q1 := free_at HR.out 1
  have r2 := cell_at HR.out 2
  have q2 := free_at HR.out 2
  have zr := lt_of_heap HR.out
  have zx := lt_of_heap HX.out
  simp only [List.getElem?_toArray, List.getElem?_cons_zero, List.getElem?_cons_succ] at b0 b1 b2 b3 b4 r0 r1 r2
  by_cases h1 : 4096 < D.nm
  · have h1' : (4096 : Int) < D.nm := by omega
    have HL := Lib.hid (HT.out.trans (chk_1 h1))
    go_enter Tryd.func67, Tryd.ntmps67
    go_wp2_with fail
    rw [show T = (4, 5, 4096) from HL.out]
    refine bodyPost_ret (v := .agg #[.int .i64 (4), .int .i64 (5), .int .i64 (4096)]) (by simp [results, Tryd.results67, go_sem, *]) rfl ⟨rfl, ?_⟩
    have hB := HB.out
    repeat (first | exact hB | refine Below.setCell ?_ hsz _ | refine Below.setCell ?_ (by have := hB.size; simp; omega) _ | refine Below.alloc ?_ (by have := hB.size; simp; omega) _ )
  · have h1' : ¬ ((4096 : Int) < D.nm) := by omega
    by_cases h2 : D.nw = D.nm
    · have h2' : ((D.nw : Int) != (D.nm : Int)) = false := by simp; omega
      have H1 := Lib.hid h1
      have H2 := Lib.hid h2
      clear h1 h2
      have K4 := Lib.hid (fun W (h : At W D p) => Ref4.Check_calls D p W h)
      have K5 := Lib.hid (fun W (h : At W D p) => words_calls D p W h)
      have K6 := Lib.hid (fun W (h : At W D p) => merges_calls D p W h)
      have C3 := Lib.hid (fun (h : (chk4 D).1 ≠ 0) => HT.out.trans (chk_3 H1.out H2.out h))
      have C4 := Lib.hid (fun (h : (chk4 D).1 = 0) (h4 : (fault 4 (fb (badW D) D.nw 0)).1 ≠ 0) => HT.out.trans (chk_4 H1.out H2.out h (by rw [← fault_1 4]; exact h4)))
      have C5 := Lib.hid (fun (h : (chk4 D).1 = 0) (h4 : (fault 4 (fb (badW D) D.nw 0)).1 = 0) => HT.out.trans (chk_5 H1.out H2.out h (by rw [← fault_1 4]; exact h4)))
      generalize chk4 D = Q at K4 C3 C4 C5
      generalize fault 4 (fb (badW D) D.nw 0) = Y at K5 C4 C5
      generalize fault 5 (fb (badM D) D.nm 0) = Z at K6 C5
      obtain ⟨Q1, Q2, Q3⟩ := Q
      obtain ⟨Y1, Y2, Y3⟩ := Y
      obtain ⟨Z1, Z2, Z3⟩ := Z
      simp only at K4 K5 K6 C3 C4 C5
      go_enter Tryd.func67, Tryd.ntmps67
      go_wp2_with fail
      refine (K4.out _ HA.out).mono ?_
      rintro e W2 ⟨rfl, hb⟩
      clear hW0 hW1 hrb b0 b1 b2 b3 b4 r0 r1 r2 q0 q1 q2 zr zx
      have HA := Lib.hid (HA.out.below hb)
      have HX := Lib.hid ((hb.block _ (lt_of_heap HX.out)).trans HX.out)
      have HR := Lib.hid ((hb.block _ (lt_of_heap HR.out)).trans HR.out)
      have HB := Lib.hid (chain HB.out hb)
      have b0 := cell_at HX.out 0
      have b1 := cell_at HX.out 1
      have b2 := cell_at HX.out 2
      have b3 := cell_at HX.out 3
      have b4 := cell_at HX.out 4
      have r0 := cell_at HR.out 0
      have q0 := free_at HR.out 0
      have r1 := cell_at HR.out 1
      have q1 := free_at HR.out 1
      have r2 := cell_at HR.out 2
      have q2 := free_at HR.out 2
      have zr := lt_of_heap HR.out
      have zx := lt_of_heap HX.out
      simp only [List.getElem?_toArray, List.getElem?_cons_zero, List.getElem?_cons_succ] at b0 b1 b2 b3 b4 r0 r1 r2
      clear hb
      by_cases hq : Q1 = 0
      · have C4' := Lib.hid (C4.out hq)
        have C5' := Lib.hid (C5.out hq)
        clear C3 C4 C5
        subst hq
        go_wp2_with fail
        refine (K5.out _ (HA.out.below ((Below.refl _ _).alloc (Nat.le_refl _) _))).mono ?_
        rintro e W3 ⟨rfl, hb⟩
        clear b0 b1 b2 b3 b4 r0 r1 r2 q0 q1 q2 zr zx
        have hb' := chain ((Below.refl W2.heap.size W2).alloc (Nat.le_refl _) _) hb
        have HA := Lib.hid (HA.out.below hb')
        have HX := Lib.hid ((hb'.block _ (lt_of_heap HX.out)).trans HX.out)
        have HR := Lib.hid ((hb'.block _ (lt_of_heap HR.out)).trans HR.out)
        have HB := Lib.hid (chain HB.out hb')
        have b0 := cell_at HX.out 0
        have b1 := cell_at HX.out 1
        have b2 := cell_at HX.out 2
        have b3 := cell_at HX.out 3
        have b4 := cell_at HX.out 4
        have r0 := cell_at HR.out 0
        have q0 := free_at HR.out 0
        have r1 := cell_at HR.out 1
        have q1 := free_at HR.out 1
        have r2 := cell_at HR.out 2
        have q2 := free_at HR.out 2
        have zr := lt_of_heap HR.out
        have zx := lt_of_heap HX.out
        simp only [List.getElem?_toArray, List.getElem?_cons_zero, List.getElem?_cons_succ] at b0 b1 b2 b3 b4 r0 r1 r2
        clear hb hb'
        by_cases hy : Y1 = 0
        · have C6 := Lib.hid (C5'.out hy)
          subst hy
          clear C4' C5'
          go_wp2_with fail
          refine (K6.out _ (HA.out.below ((Below.refl _ _).alloc (Nat.le_refl _) _))).mono ?_
          rintro e W4 ⟨rfl, hb⟩
          clear b0 b1 b2 b3 b4 r0 r1 r2 q0 q1 q2 zr zx
          have hb' := chain ((Below.refl W3.heap.size W3).alloc (Nat.le_refl _) _) hb
          have HA := Lib.hid (HA.out.below hb')
          have HX := Lib.hid ((hb'.block _ (lt_of_heap HX.out)).trans HX.out)
          have HR := Lib.hid ((hb'.block _ (lt_of_heap HR.out)).trans HR.out)
          have HB := Lib.hid (chain HB.out hb')
          have b0 := cell_at HX.out 0
          have b1 := cell_at HX.out 1
          have b2 := cell_at HX.out 2
          have b3 := cell_at HX.out 3
          have b4 := cell_at HX.out 4
          have r0 := cell_at HR.out 0
          have q0 := free_at HR.out 0
          have r1 := cell_at HR.out 1
          have q1 := free_at HR.out 1
          have r2 := cell_at HR.out 2
          have q2 := free_at HR.out 2
          have zr := lt_of_heap HR.out
          have zx := lt_of_heap HX.out
          simp only [List.getElem?_toArray, List.getElem?_cons_zero, List.getElem?_cons_succ] at b0 b1 b2 b3 b4 r0 r1 r2
          clear hb hb'
          go_wp2_with fail
          rw [show T = (Z1, Z2, Z3) from C6.out]
          refine bodyPost_ret (v := .agg #[.int .i64 (Z1), .int .i64 (Z2), .int .i64 (Z3)]) (by simp [results, Tryd.results67, go_sem, *]) rfl ⟨rfl, ?_⟩
          have hB := HB.out
          repeat (first | exact hB | refine Below.setCell ?_ hsz _ | refine Below.setCell ?_ (by have := hB.size; simp; omega) _ | refine Below.alloc ?_ (by have := hB.size; simp; omega) _ )
        · have C6 := Lib.hid (C4'.out hy)
          have hy' : (Y1 != 0) = true := by simpa using hy
          clear C4' C5' hy
          go_wp2_with fail
          rw [show T = (Y1, Y2, Y3) from C6.out]
          refine bodyPost_ret (v := .agg #[.int .i64 (Y1), .int .i64 (Y2), .int .i64 (Y3)]) (by simp [results, Tryd.results67, go_sem, *]) rfl ⟨rfl, ?_⟩
          have hB := HB.out
          repeat (first | exact hB | refine Below.setCell ?_ hsz _ | refine Below.setCell ?_ (by have := hB.size; simp; omega) _ | refine Below.alloc ?_ (by have := hB.size; simp; omega) _ )
      · have C6 := Lib.hid (C3.out hq)
        have hq' : (Q1 != 0) = true := by simpa using hq
        clear C3 C4 C5 hq
        go_wp2_with fail
        rw [show T = (Q1, Q2, Q3) from C6.out]
        refine bodyPost_ret (v := .agg #[.int .i64 (Q1), .int .i64 (Q2), .int .i64 (Q3)]) (by simp [results, Tryd.results67, go_sem, *]) rfl ⟨rfl, ?_⟩
        have hB := HB.out
        repeat (first | exact hB | refine Below.setCell ?_ hsz _ | refine Below.setCell ?_ (by have := hB.size; simp; omega) _ | refine Below.alloc ?_ (by have := hB.size; simp; omega) _ )
    · have h2' : ((D.nw : Int) != (D.nm : Int)) = true := by simp; omega
      have HL := Lib.hid (HT.out.trans (chk_2 h1 h2))
      clear h2
      by_cases h3 : D.nm < D.nw
      · have h3' : (D.nm : Int) < D.nw := by omega
        have HL2 := Lib.hid (HL.out.trans (by rw [Int.min_eq_right (by omega)]) : T = (4, 4, (D.nm : Int)))
        go_enter Tryd.func67, Tryd.ntmps67
        go_wp2_with fail
        rw [show T = (4, 4, (D.nm : Int)) from HL2.out]
        refine bodyPost_ret (v := .agg #[.int .i64 (4), .int .i64 (4), .int .i64 ((D.nm : Int))]) (by simp [results, Tryd.results67, go_sem, *]) rfl ⟨rfl, ?_⟩
        have hB := HB.out
        repeat (first | exact hB | refine Below.setCell ?_ hsz _ | refine Below.setCell ?_ (by have := hB.size; simp; omega) _ | refine Below.alloc ?_ (by have := hB.size; simp; omega) _ )
      · have h3' : ¬ ((D.nm : Int) < D.nw) := by omega
        have HL2 := Lib.hid (HL.out.trans (by rw [Int.min_eq_left (by omega)]) : T = (4, 4, (D.nw : Int)))
        go_enter Tryd.func67, Tryd.ntmps67
        go_wp2_with fail
        rw [show T = (4, 4, (D.nw : Int)) from HL2.out]
        refine bodyPost_ret (v := .agg #[.int .i64 (4), .int .i64 (4), .int .i64 ((D.nw : Int))]) (by simp [results, Tryd.results67, go_sem, *]) rfl ⟨rfl, ?_⟩
        have hB := HB.out
        repeat (first | exact hB | refine Below.setCell ?_ hsz _ | refine Below.setCell ?_ (by have := hB.size; simp; omega) _ | refine Below.alloc ?_ (by have := hB.size; simp; omega) _ )
end Go.Proofs.YtendkmldecoogaaDoor.Ref5d
