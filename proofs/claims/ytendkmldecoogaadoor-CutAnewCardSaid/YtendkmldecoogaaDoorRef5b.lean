/-
  tesseraref5.words.
-/
import Derived.Test.YtendkmldecoogaaDoorRef5a
import Derived.Test.YtendkmldecoogaaDoorMap
namespace Go.Proofs.YtendkmldecoogaaDoor.Ref5b
open Go Go.RowKit Go.Proofs.YtendkmldecoogaaDoor.Kit Go.Proofs.YtendkmldecoogaaDoor.SpFns Go.Proofs.YtendkmldecoogaaDoor.Dt Go.Proofs.YtendkmldecoogaaDoor.Ref5a
attribute [local irreducible] wpQuiet

/-- A fault of a list. -/
def fault (l : Int) (R : Int × Int) : Int × Int × Int := if R.2 ≠ 0 then (R.2, l, R.1) else (0, 0, 0)
theorem fault_some {l : Int} {k : Int} {e : Int} (h : e ≠ 0) : fault l (k, e) = (e, l, k) := by unfold fault; rw [if_pos h]
theorem fault_none {l : Int} {k : Int} : fault l (k, 0) = (0, 0, 0) := by unfold fault; rw [if_neg (by simp)]

theorem beq_texts (a b : ByteArray) : (a.toList == b.toList) = decide (a = b) := by rw [← beq_toListBytes, Maps.beq_bytes]

theorem badW_cases (D : Dt) (k : Nat) : (badW D k = 21 ∧ (D.W k).size < 2) ∨ (badW D k = 21 ∧ 2 ≤ (D.W k).size ∧ 256 < (D.W k).size) ∨
    (2 ≤ (D.W k).size ∧ (D.W k).size ≤ 256 ∧ ((∃ j, j < k ∧ D.W j = D.W k) → badW D k = 22) ∧ ((∀ j, j < k → D.W j ≠ D.W k) → badW D k = 0)) := by
  unfold badW
  by_cases h1 : 2 ≤ (D.W k).size
  · by_cases h2 : (D.W k).size ≤ 256
    · refine .inr (.inr ⟨h1, h2, fun h => ?_, fun h => ?_⟩)
      · rw [if_neg (by simp [h1, h2]), if_pos h]
      · rw [if_neg (by simp [h1, h2]), if_neg (fun ⟨j, hj, e⟩ => h j hj e)]
    · exact .inr (.inl ⟨by rw [if_pos (by omega)], h1, by omega⟩)
  · exact .inl ⟨by rw [if_pos (by omega)], by omega⟩

set_option maxHeartbeats 1000000 in
set_option maxRecDepth 100000 in
theorem words_calls (D : Dt) (p : Pl) (w : World) (h : At w D p) :
    Calls Tryd.prog 100 #[.agg #[.slice p.a0 D.nw p.c0, .slice p.a1 D.nm p.c1, .slice p.a2 D.n0 p.c2, .slice p.a3 D.n1 p.c3, .slice p.a4 D.n2 p.c4]] w fun e w' =>
      e = .returned (.agg #[.int .i64 (fault 4 (fb (badW D) D.nw 0)).1, .int .i64 (fault 4 (fb (badW D) D.nw 0)).2.1, .int .i64 (fault 4 (fb (badW D) D.nw 0)).2.2]) ∧ Below w.heap.size w w' := by
  obtain ⟨R, hR⟩ : ∃ R, fb (badW D) D.nw 0 = R := ⟨_, rfl⟩
  rw [hR]
  have HR := Lib.hid hR
  have H := Lib.hid h
  have hbw := h.bw
  clear h hR
  obtain ⟨W0, hW0⟩ : ∃ W0, w.alloc (.cells #[.slice p.a0 D.nw p.c0, .slice p.a1 D.nm p.c1, .slice p.a2 D.n0 p.c2, .slice p.a3 D.n1 p.c3, .slice p.a4 D.n2 p.c4] 33) = W0 := ⟨_, rfl⟩
  obtain ⟨hb0, hx0, ha0⟩ := boxed H.out hW0
  obtain ⟨W1, hW1⟩ : ∃ W1, W0.alloc (.cells #[.int .i64 0, .int .i64 0, .int .i64 0] 114) = W1 := ⟨_, rfl⟩
  have hb1 : Below W0.heap.size W0 W1 := by rw [← hW1]; exact (Below.refl _ _).alloc (Nat.le_refl _) _
  have HA1 := Lib.hid (ha0.below hb1)
  have HX1 := Lib.hid ((hb1.block _ (lt_of_heap hx0)).trans hx0)
  have HB1 := Lib.hid (chain hb0 hb1)
  have HR1 := Lib.hid (by rw [← hW1]; exact alloc_new rfl : W1.heap[W0.heap.size]? = some (.cells #[.int .i64 0, .int .i64 0, .int .i64 0] 114 (0, 0)))
  have hsz : w.heap.size ≤ W0.heap.size := hb0.size
  clear hb0 hx0 ha0 hb1
  go_enter Tryd.func100, Tryd.ntmps100
  go_wp2_with fail
  obtain ⟨rb, hrb⟩ : ∃ rb, W0.heap.size = rb := ⟨_, rfl⟩
  rw [hrb] at HR1 hsz ⊢
  clear hW0 hW1 hrb
  go_loopg [3] D.nw (fun g s3 wr => ∃ k : Nat, k ≤ D.nw ∧ g = D.nw - k ∧ s3 = .int .i64 k ∧ Below W1.heap.size W1 wr ∧ fb (badW D) (D.nw - k) k = R)
  case atStart => exact ⟨0, Nat.zero_le _, by omega, rfl, Below.refl _ _, HR.out⟩
  case round =>
    obtain ⟨k, hk, hg, rfl, hbw1, hfb⟩ := hrel
    have HG := Lib.hid hg
    have HBW := Lib.hid hbw1
    have b0 := (bcell hbw1).1 _ 0 (lt_of_heap HX1.out)
    rw [cell_at HX1.out 0] at b0
    have hr := (hbw1.block _ (lt_of_heap HR1.out)).trans HR1.out
    have r0 := cell_at hr 0
    have r1 := cell_at hr 1
    have r2 := cell_at hr 2
    have q0 := free_at hr 0
    have q1 := free_at hr 1
    have q2 := free_at hr 2
    have zr := lt_of_heap hr
    have zx : w.heap.size < wr.heap.size := Nat.lt_of_lt_of_le (lt_of_heap HX1.out) hbw1.size
    simp only [List.getElem?_toArray, List.getElem?_cons_zero, List.getElem?_cons_succ] at b0 r0 r1 r2
    have HA := Lib.hid (HA1.out.below hbw1)
    have hki : (k : Int) ≤ D.nw := by omega
    clear hg hbw1 hr
    by_cases hlt : k < D.nw
    · obtain ⟨b, off, hpa, hbl, hc⟩ := HA.out.rw.at hlt
      have c0 := hc k hlt
      have HC := Lib.hid hc
      rw [hpa] at b0
      have hlti : (k : Int) < D.nw := by omega
      have HS := Lib.hid (fun e (h1 : badW D k = e) (h2 : e ≠ 0) => fb_stop hfb hlt h1 h2)
      have HO := Lib.hid (fun (h1 : badW D k = 0) => fb_on hfb hlt h1)
      clear hc hpa hfb
      obtain ⟨s, hs⟩ : ∃ s, s = D.W k := ⟨_, rfl⟩
      have hcs := badW_cases D k
      rw [← hs] at c0 hcs
      have HSS := Lib.hid hs
      clear hs
      rcases hcs with ⟨hq, h1⟩ | ⟨hq, h1, h2⟩ | ⟨h1, h2, h3, h4⟩
      · have hi1 : (s.size : Int) < 2 := by omega
        go_wp2_with fail
        rw [HS.out 21 hq (by decide), fault_some (by decide)]
        refine bodyPost_ret (v := .agg #[.int .i64 21, .int .i64 4, .int .i64 k]) (by simp [results, Tryd.results100, go_sem, *]) rfl ⟨rfl, ?_⟩
        have hB := chain HB1.out HBW.out
        exact ((hB.setCell hsz _).setCell hsz _).setCell hsz _
      · have hi1 : ¬ ((s.size : Int) < 2) := by omega
        have hi2 : (256 : Int) < s.size := by omega
        go_wp2_with fail
        rw [HS.out 21 hq (by decide), fault_some (by decide)]
        refine bodyPost_ret (v := .agg #[.int .i64 21, .int .i64 4, .int .i64 k]) (by simp [results, Tryd.results100, go_sem, *]) rfl ⟨rfl, ?_⟩
        have hB := chain HB1.out HBW.out
        exact ((hB.setCell hsz _).setCell hsz _).setCell hsz _
      · have hi1 : ¬ ((s.size : Int) < 2) := by omega
        have hi2 : ¬ ((256 : Int) < s.size) := by omega
        have H3 := Lib.hid h3
        have H4 := Lib.hid h4
        clear h3 h4
        go_wp2_with fail
        clear r0 r1 r2 q0 q1 q2 b0 c0 zr zx
        obtain ⟨wo, hwo⟩ : ∃ wo : World, wo = wr := ⟨_, rfl⟩
        rw [← hwo] at HBW ⊢
        clear HA HC hbl hwo
        go_loopg [4] k (fun g2 s4 wx => ∃ j : Nat, j ≤ k ∧ g2 = k - j ∧ s4 = .int .i64 j ∧ Below wo.heap.size wo wx ∧ ∀ j', j' < j → D.W j' ≠ s)
        case atStart => exact ⟨0, Nat.zero_le _, by omega, rfl, Below.refl _ _, fun j' hj' => by omega⟩
        case round =>
          obtain ⟨j, hj, hg2, rfl, hbx, hno⟩ := hrel
          have HG2 := Lib.hid hg2
          have HBX := Lib.hid (chain HBW.out hbx)
          have HNO := Lib.hid hno
          have hbx1 := chain HBW.out hbx
          have b0 := (bcell hbx1).1 _ 0 (lt_of_heap HX1.out)
          rw [cell_at HX1.out 0] at b0
          have hr := (hbx1.block _ (lt_of_heap HR1.out)).trans HR1.out
          have r0 := cell_at hr 0
          have r1 := cell_at hr 1
          have r2 := cell_at hr 2
          have q0 := free_at hr 0
          have q1 := free_at hr 1
          have q2 := free_at hr 2
          have zr := lt_of_heap hr
          have zx : w.heap.size < wr.heap.size := Nat.lt_of_lt_of_le (lt_of_heap HX1.out) hbx1.size
          simp only [List.getElem?_toArray, List.getElem?_cons_zero, List.getElem?_cons_succ] at b0 r0 r1 r2
          have hpa := (HA1.out.below hbx1).rw.at hlt
          have HBXW := Lib.hid hbx
          clear hg2 hbx hbx1 hr hno
          by_cases hjl : j < k
          · obtain ⟨b, off, hpa, hbl, hc⟩ := hpa
            have c0 := hc k hlt
            have c1 := hc j (by omega)
            rw [← HSS.out] at c0
            rw [hpa] at b0
            have hji : (j : Int) < k := by omega
            have hjw : (j : Int) < D.nw := by omega
            have hjw' : j < D.nw := by omega
            obtain ⟨u, hu⟩ : ∃ u, u = D.W j := ⟨_, rfl⟩
            rw [← hu] at c1
            have HUU := Lib.hid hu
            clear hc hpa hu
            by_cases hus : u = s
            · have hq := H3.out ⟨j, hjl, HUU.out.symm.trans hus⟩
              have e1 : (u.toList == s.toList) = true := by rw [beq_texts]; exact decide_eq_true hus
              have HQ := Lib.hid hq
              clear hus hq
              go_wp2_with fail
              refine region_calm (by kernel_rfl) (by kernel_rfl) ?_
              repeat (quiet_step ((fail)))
              refine wpQuiet_nil ?_
              rintro _ ⟨x, rfl⟩
              have hB := x.h
              have r0' := ((bcell hB).1 rb 0 zr).trans r0
              have r1' := ((bcell hB).1 rb 1 zr).trans r1
              have r2' := ((bcell hB).1 rb 2 zr).trans r2
              have q0' := ((bcell hB).2 rb 0 zr).trans q0
              have q1' := ((bcell hB).2 rb 1 zr).trans q1
              have q2' := ((bcell hB).2 rb 2 zr).trans q2
              have zr' := Nat.lt_of_lt_of_le zr hB.size
              have HBF := Lib.hid (chain (chain HB1.out HBX.out) hB)
              generalize x.w = W9 at *
              clear hB r0 r1 r2 q0 q1 q2 b0 c0 c1
              go_wp2_with fail
              rw [HS.out 22 HQ.out (by decide), fault_some (by decide)]
              refine bodyPost_ret (v := .agg #[.int .i64 22, .int .i64 4, .int .i64 k]) (by simp [results, Tryd.results100, go_sem, *]) rfl ⟨rfl, ?_⟩
              have hB := HBF.out
              exact ((hB.setCell hsz _).setCell hsz _).setCell hsz _
            · have e1 : (u.toList == s.toList) = false := by rw [beq_texts]; exact decide_eq_false hus
              have HUS := Lib.hid hus
              clear hus
              go_wp2_with fail
              refine region_calm (by kernel_rfl) (by kernel_rfl) ?_
              repeat (quiet_step ((fail)))
              refine wpQuiet_nil ?_
              rintro _ ⟨x, rfl⟩
              have HBF := Lib.hid x.h
              have hsx := x.h.size
              generalize x.w = W9 at *
              clear b0 c0 c1 r0 r1 r2 q0 q1 q2
              go_wp2_with fail
              go_roundg (k - (j + 1))
              case measure => have := HG2.out; omega
              case rel =>
                refine ⟨j + 1, by omega, rfl, by go_num, ?_, fun j' hj' => ?_⟩
                · exact chain HBXW.out HBF.out
                · rcases Nat.lt_or_ge j' j with h | h
                  · exact HNO.out j' h
                  · have : j' = j := by omega
                    subst this
                    rw [← HUU.out]
                    exact HUS.out
          · have hjk : j = k := by omega
            subst hjk
            have hO := HO.out (H4.out HNO.out)
            have HO2 := Lib.hid hO
            clear hO b0 r0 r1 r2 q0 q1 q2
            go_wp2_with fail
            go_roundg (D.nw - (j + 1))
            case measure => have := HG.out; omega
            case rel => exact ⟨j + 1, by omega, rfl, by go_num, HBX.out, HO2.out⟩
    · have hkn : k = D.nw := by omega
      have hlti : ¬ ((k : Int) < D.nw) := by omega
      have hR2 : R = (0, 0) := fb_end (hkn ▸ hfb)
      have HR2 := Lib.hid hR2
      clear hR2 hfb
      go_wp2_with fail
      rw [HR2.out, fault_none]
      refine bodyPost_ret (v := .agg #[.int .i64 0, .int .i64 0, .int .i64 0]) (by simp [results, Tryd.results100, go_sem, *]) rfl ⟨rfl, ?_⟩
      have hB := chain HB1.out HBW.out
      exact ((hB.setCell hsz _).setCell hsz _).setCell hsz _
end Go.Proofs.YtendkmldecoogaaDoor.Ref5b
