/-
  tesseraref5.words. tesseraref5.merges.
-/
import Derived.Test.YtkjkgpdfhmoenaaDoorDt
import Derived.Test.YtkjkgpdfhmoenaaDoorMap
namespace Go.Proofs.YtkjkgpdfhmoenaaDoor.Ref5b
open Go Go.RowKit Go.Proofs.YtkjkgpdfhmoenaaDoor.Kit Go.Proofs.YtkjkgpdfhmoenaaDoor.SpFns Go.Proofs.YtkjkgpdfhmoenaaDoor.Dt Go.Proofs.YtkjkgpdfhmoenaaDoor.Ref5a
attribute [local irreducible] wpQuiet

/-- A fault of a list. -/
def fault (l : Int) (R : Int × Int) : Int × Int × Int := if R.2 ≠ 0 then (R.2, l, R.1) else (0, 0, 0)
theorem fault_some {l : Int} {k : Int} {e : Int} (h : e ≠ 0) : fault l (k, e) = (e, l, k) := by unfold fault; rw [if_pos h]
theorem fault_none {l : Int} {k : Int} : fault l (k, 0) = (0, 0, 0) := by unfold fault; rw [if_neg (by simp)]

theorem beq_texts (a b : ByteArray) : (a.toList == b.toList) = decide (a = b) := by rw [← beq_toListBytes, Maps.beq_bytes]

theorem badW_cases (D : Dt) (k : Nat) : (badW D k = 21 ∧ (D.W k).size < 2) ∨ (badW D k = 21 ∧ 2 ≤ (D.W k).size ∧ 256 < (D.W k).size) ∨
    (2 ≤ (D.W k).size ∧ (D.W k).size ≤ 256 ∧ ((∃ j, j < k ∧ D.W j = D.W k) → badW D k = 22) ∧ ((∀ j, j < k → D.W j ≠ D.W k) → badW D k = 0)) := by
  unfold badW
  by_cases h1 : 2 ≤ (D.W k).size
  · by_cases h2 : (D.W k).size ≤ 256
    · refine .inr (.inr ⟨h1, h2, fun h => ?_, fun h => ?_⟩)
      · rw [if_neg (by simp [h1, h2]), if_pos h]
      · rw [if_neg (by simp [h1, h2]), if_neg (fun ⟨j, hj, e⟩ => h j hj e)]
    · exact .inr (.inl ⟨by rw [if_pos (by omega)], h1, by omega⟩)
  · exact .inl ⟨by rw [if_pos (by omega)], by omega⟩

set_option maxHeartbeats 1000000 in
set_option maxRecDepth 100000 in
theorem words_calls (D : Dt) (p : Pl) (w : World) (h : At w D p) :
    Calls Tryd.prog 70 #[.agg #[.slice p.a0 D.nw p.c0, .slice p.a1 D.nm p.c1, .slice p.a2 D.n0 p.c2, .slice p.a3 D.n1 p.c3, .slice p.a4 D.n2 p.c4]] w fun e w' =>
      e = .returned (.agg #[.int .i64 (fault 4 (fb (badW D) D.nw 0)).1, .int .i64 (fault 4 (fb (badW D) D.nw 0)).2.1, .int .i64 (fault 4 (fb (badW D) D.nw 0)).2.2]) ∧ Below w.heap.size w w' := by
  obtain ⟨R, hR⟩ : ∃ R, fb (badW D) D.nw 0 = R := ⟨_, rfl⟩
  rw [hR]
  have HR := Lib.hid hR
  have H := Lib.hid h
  have hbw := h.bw
  clear h hR
  obtain ⟨W0, hW0⟩ : ∃ W0, w.alloc (.cells #[.slice p.a0 D.nw p.c0, .slice p.a1 D.nm p.c1, .slice p.a2 D.n0 p.c2, .slice p.a3 D.n1 p.c3, .slice p.a4 D.n2 p.c4] 26) = W0 := ⟨_, rfl⟩
  obtain ⟨hb0, hx0, ha0⟩ := boxed H.out hW0
  obtain ⟨W1, hW1⟩ : ∃ W1, W0.alloc (.cells #[.int .i64 0, .int .i64 0, .int .i64 0] 104) = W1 := ⟨_, rfl⟩
  have hb1 : Below W0.heap.size W0 W1 := by rw [← hW1]; exact (Below.refl _ _).alloc (Nat.le_refl _) _
  have HA1 := Lib.hid (ha0.below hb1)
  have HX1 := Lib.hid ((hb1.block _ (lt_of_heap hx0)).trans hx0)
  have HB1 := Lib.hid (chain hb0 hb1)
  have HR1 := Lib.hid (by rw [← hW1]; exact alloc_new rfl : W1.heap[W0.heap.size]? = some (.cells #[.int .i64 0, .int .i64 0, .int .i64 0] 104 (0, 0)))
  have hsz : w.heap.size ≤ W0.heap.size := hb0.size
  clear hb0 hx0 ha0 hb1
  go_enter Tryd.func70, Tryd.ntmps70
  go_wp2_with fail
  obtain ⟨rb, hrb⟩ : ∃ rb, W0.heap.size = rb := ⟨_, rfl⟩
  rw [hrb] at HR1 hsz ⊢
  clear hW0 hW1 hrb
  go_loopg [3] D.nw (fun g s3 wr => ∃ k : Nat, k ≤ D.nw ∧ g = D.nw - k ∧ s3 = .int .i64 k ∧ Below W1.heap.size W1 wr ∧ fb (badW D) (D.nw - k) k = R)
  case atStart => exact ⟨0, Nat.zero_le _, by omega, rfl, Below.refl _ _, HR.out⟩
  case round =>
    obtain ⟨k, hk, hg, rfl, hbw1, hfb⟩ := hrel
    have HG := Lib.hid hg
    have HBW := Lib.hid hbw1
    have b0 := (bcell hbw1).1 _ 0 (lt_of_heap HX1.out)
    rw [cell_at HX1.out 0] at b0
    have hr := (hbw1.block _ (lt_of_heap HR1.out)).trans HR1.out
    have r0 := cell_at hr 0
    have r1 := cell_at hr 1
    have r2 := cell_at hr 2
    have q0 := free_at hr 0
    have q1 := free_at hr 1
    have q2 := free_at hr 2
    have zr := lt_of_heap hr
    have zx : w.heap.size < wr.heap.size := Nat.lt_of_lt_of_le (lt_of_heap HX1.out) hbw1.size
    simp only [List.getElem?_toArray, List.getElem?_cons_zero, List.getElem?_cons_succ] at b0 r0 r1 r2
    have HA := Lib.hid (HA1.out.below hbw1)
    have hki : (k : Int) ≤ D.nw := by omega
    clear hg hbw1 hr
    by_cases hlt : k < D.nw
    · obtain ⟨b, off, hpa, hbl, hc⟩ := HA.out.rw.at hlt
      have c0 := hc k hlt
      have HC := Lib.hid hc
      rw [hpa] at b0
      have hlti : (k : Int) < D.nw := by omega
      have HS := Lib.hid (fun e (h1 : badW D k = e) (h2 : e ≠ 0) => fb_stop hfb hlt h1 h2)
      have HO := Lib.hid (fun (h1 : badW D k = 0) => fb_on hfb hlt h1)
      clear hc hpa hfb
      obtain ⟨s, hs⟩ : ∃ s, s = D.W k := ⟨_, rfl⟩
      have hcs := badW_cases D k
      rw [← hs] at c0 hcs
      have HSS := Lib.hid hs
      clear hs
      rcases hcs with ⟨hq, h1⟩ | ⟨hq, h1, h2⟩ | ⟨h1, h2, h3, h4⟩
      · have hi1 : (s.size : Int) < 2 := by omega
        go_wp2_with fail
        rw [HS.out 21 hq (by decide), fault_some (by decide)]
        refine bodyPost_ret (v := .agg #[.int .i64 21, .int .i64 4, .int .i64 k]) (by simp [results, Tryd.results70, go_sem, *]) rfl ⟨rfl, ?_⟩
        have hB := chain HB1.out HBW.out
        exact ((hB.setCell hsz _).setCell hsz _).setCell hsz _
      · have hi1 : ¬ ((s.size : Int) < 2) := by omega
        have hi2 : (256 : Int) < s.size := by omega
        go_wp2_with fail
        rw [HS.out 21 hq (by decide), fault_some (by decide)]
        refine bodyPost_ret (v := .agg #[.int .i64 21, .int .i64 4, .int .i64 k]) (by simp [results, Tryd.results70, go_sem, *]) rfl ⟨rfl, ?_⟩
        have hB := chain HB1.out HBW.out
        exact ((hB.setCell hsz _).setCell hsz _).setCell hsz _
      · have hi1 : ¬ ((s.size : Int) < 2) := by omega
        have hi2 : ¬ ((256 : Int) < s.size) := by omega
        have H3 := Lib.hid h3
        have H4 := Lib.hid h4
        clear h3 h4
        go_wp2_with fail
        clear r0 r1 r2 q0 q1 q2 b0 c0 zr zx
        obtain ⟨wo, hwo⟩ : ∃ wo : World, wo = wr := ⟨_, rfl⟩
        rw [← hwo] at HBW ⊢
        clear HA HC hbl hwo
        go_loopg [4] k (fun g2 s4 wx => ∃ j : Nat, j ≤ k ∧ g2 = k - j ∧ s4 = .int .i64 j ∧ Below wo.heap.size wo wx ∧ ∀ j', j' < j → D.W j' ≠ s)
        case atStart => exact ⟨0, Nat.zero_le _, by omega, rfl, Below.refl _ _, fun j' hj' => by omega⟩
        case round =>
          obtain ⟨j, hj, hg2, rfl, hbx, hno⟩ := hrel
          have HG2 := Lib.hid hg2
          have HBX := Lib.hid (chain HBW.out hbx)
          have HNO := Lib.hid hno
          have hbx1 := chain HBW.out hbx
          have b0 := (bcell hbx1).1 _ 0 (lt_of_heap HX1.out)
          rw [cell_at HX1.out 0] at b0
          have hr := (hbx1.block _ (lt_of_heap HR1.out)).trans HR1.out
          have r0 := cell_at hr 0
          have r1 := cell_at hr 1
          have r2 := cell_at hr 2
          have q0 := free_at hr 0
          have q1 := free_at hr 1
          have q2 := free_at hr 2
          have zr := lt_of_heap hr
          have zx : w.heap.size < wr.heap.size := Nat.lt_of_lt_of_le (lt_of_heap HX1.out) hbx1.size
          simp only [List.getElem?_toArray, List.getElem?_cons_zero, List.getElem?_cons_succ] at b0 r0 r1 r2
          have hpa := (HA1.out.below hbx1).rw.at hlt
          have HBXW := Lib.hid hbx
          clear hg2 hbx hbx1 hr hno
          by_cases hjl : j < k
          · obtain ⟨b, off, hpa, hbl, hc⟩ := hpa
            have c0 := hc k hlt
            have c1 := hc j (by omega)
            rw [← HSS.out] at c0
            rw [hpa] at b0
            have hji : (j : Int) < k := by omega
            have hjw : (j : Int) < D.nw := by omega
            have hjw' : j < D.nw := by omega
            obtain ⟨u, hu⟩ : ∃ u, u = D.W j := ⟨_, rfl⟩
            rw [← hu] at c1
            have HUU := Lib.hid hu
            clear hc hpa hu
            by_cases hus : u = s
            · have hq := H3.out ⟨j, hjl, HUU.out.symm.trans hus⟩
              have e1 : (u.toList == s.toList) = true := by rw [beq_texts]; exact decide_eq_true hus
              have HQ := Lib.hid hq
              clear hus hq
              go_wp2_with fail
              refine region_calm (by kernel_rfl) (by kernel_rfl) ?_
              repeat (quiet_step ((fail)))
              refine wpQuiet_nil ?_
              rintro _ ⟨x, rfl⟩
              have hB := x.h
              have r0' := ((bcell hB).1 rb 0 zr).trans r0
              have r1' := ((bcell hB).1 rb 1 zr).trans r1
              have r2' := ((bcell hB).1 rb 2 zr).trans r2
              have q0' := ((bcell hB).2 rb 0 zr).trans q0
              have q1' := ((bcell hB).2 rb 1 zr).trans q1
              have q2' := ((bcell hB).2 rb 2 zr).trans q2
              have zr' := Nat.lt_of_lt_of_le zr hB.size
              have HBF := Lib.hid (chain (chain HB1.out HBX.out) hB)
              generalize x.w = W9 at *
              clear hB r0 r1 r2 q0 q1 q2 b0 c0 c1
              go_wp2_with fail
              rw [HS.out 22 HQ.out (by decide), fault_some (by decide)]
              refine bodyPost_ret (v := .agg #[.int .i64 22, .int .i64 4, .int .i64 k]) (by simp [results, Tryd.results70, go_sem, *]) rfl ⟨rfl, ?_⟩
              have hB := HBF.out
              exact ((hB.setCell hsz _).setCell hsz _).setCell hsz _
            · have e1 : (u.toList == s.toList) = false := by rw [beq_texts]; exact decide_eq_false hus
              have HUS := Lib.hid hus
              clear hus
              go_wp2_with fail
              refine region_calm (by kernel_rfl) (by kernel_rfl) ?_
              repeat (quiet_step ((fail)))
              refine wpQuiet_nil ?_
              rintro _ ⟨x, rfl⟩
              have HBF := Lib.hid x.h
              have hsx := x.h.size
              generalize x.w = W9 at *
              clear b0 c0 c1 r0 r1 r2 q0 q1 q2
              go_wp2_with fail
              go_roundg (k - (j + 1))
              case measure => have := HG2.out; omega
              case rel =>
                refine ⟨j + 1, by omega, rfl, by go_num, ?_, fun j' hj' => ?_⟩
                · exact chain HBXW.out HBF.out
                · rcases Nat.lt_or_ge j' j with h | h
                  · exact HNO.out j' h
                  · have : j' = j := by omega
                    subst this
                    rw [← HUU.out]
                    exact HUS.out
          · have hjk : j = k := by omega
            subst hjk
            have hO := HO.out (H4.out HNO.out)
            have HO2 := Lib.hid hO
            clear hO b0 r0 r1 r2 q0 q1 q2
            go_wp2_with fail
            go_roundg (D.nw - (j + 1))
            case measure => have := HG.out; omega
            case rel => exact ⟨j + 1, by omega, rfl, by go_num, HBX.out, HO2.out⟩
    · have hkn : k = D.nw := by omega
      have hlti : ¬ ((k : Int) < D.nw) := by omega
      have hR2 : R = (0, 0) := fb_end (hkn ▸ hfb)
      have HR2 := Lib.hid hR2
      clear hR2 hfb
      go_wp2_with fail
      rw [HR2.out, fault_none]
      refine bodyPost_ret (v := .agg #[.int .i64 0, .int .i64 0, .int .i64 0]) (by simp [results, Tryd.results70, go_sem, *]) rfl ⟨rfl, ?_⟩
      have hB := chain HB1.out HBW.out
      exact ((hB.setCell hsz _).setCell hsz _).setCell hsz _
end Go.Proofs.YtkjkgpdfhmoenaaDoor.Ref5b
namespace Go.Proofs.YtkjkgpdfhmoenaaDoor.Ref5c
open Go Go.RowKit Go.Proofs.YtkjkgpdfhmoenaaDoor.Kit Go.Proofs.YtkjkgpdfhmoenaaDoor.SpFns Go.Proofs.YtkjkgpdfhmoenaaDoor.Dt Go.Proofs.YtkjkgpdfhmoenaaDoor.Ref5a Go.Proofs.YtkjkgpdfhmoenaaDoor.Ref5b
attribute [local irreducible] wpQuiet

theorem made_id {D : Dt} {k : Nat} {id : Int} (h : 256 ≤ id) : decide (Made D k id) = true ↔ ∃ j, j < k ∧ D.I j = id := by
  rw [decide_eq_true_iff]
  exact ⟨fun h2 => h2.elim (fun h3 => by omega) (fun h3 => h3.2), fun h2 => .inr ⟨h, h2⟩⟩

theorem badM_1 {D : Dt} {k : Nat} (h : D.I k < 256) : badM D k = 24 := by unfold badM; rw [if_pos (.inl h)]
theorem badM_2 {D : Dt} {k : Nat} (h : 256 + (D.nw : Int) ≤ D.I k) : badM D k = 24 := by unfold badM; rw [if_pos (.inr (.inl h))]
theorem badM_3 {D : Dt} {k : Nat} (h0 : 256 ≤ D.I k) (h : decide (Made D k (D.I k)) = true) : badM D k = 24 := by unfold badM; rw [if_pos (.inr (.inr ((made_id h0).1 h)))]
theorem no_24 {D : Dt} {k : Nat} (h0 : 256 ≤ D.I k) (h1 : D.I k < 256 + (D.nw : Int)) (h : decide (Made D k (D.I k)) = false) : ¬ (D.I k < 256 ∨ 256 + (D.nw : Int) ≤ D.I k ∨ ∃ j, j < k ∧ D.I j = D.I k) := by
  rintro (h2 | h2 | h2)
  · omega
  · omega
  · rw [(made_id h0).2 h2] at h; cases h
theorem badM_4 {D : Dt} {k : Nat} (h0 : 256 ≤ D.I k) (h1 : D.I k < 256 + (D.nw : Int)) (h : decide (Made D k (D.I k)) = false) (h2 : decide (Made D k (D.A k)) = false ∨ decide (Made D k (D.B k)) = false) : badM D k = 23 := by
  unfold badM
  rw [if_neg (no_24 h0 h1 h), if_pos (fun h3 => h2.elim (fun h4 => absurd h3.1 (of_decide_eq_false h4)) (fun h4 => absurd h3.2 (of_decide_eq_false h4)))]
theorem badM_5 {D : Dt} {k : Nat} (h0 : 256 ≤ D.I k) (h1 : D.I k < 256 + (D.nw : Int)) (h : decide (Made D k (D.I k)) = false) (h2 : decide (Made D k (D.A k)) = true) (h3 : decide (Made D k (D.B k)) = true)
    (h4 : D.W (D.I k - 256).toNat ≠ word D (D.A k) ++ word D (D.B k)) : badM D k = 25 := by
  unfold badM
  rw [if_neg (no_24 h0 h1 h), if_neg (fun h5 => h5 ⟨of_decide_eq_true h2, of_decide_eq_true h3⟩), if_pos h4]
theorem badM_6 {D : Dt} {k : Nat} (h0 : 256 ≤ D.I k) (h1 : D.I k < 256 + (D.nw : Int)) (h : decide (Made D k (D.I k)) = false) (h2 : decide (Made D k (D.A k)) = true) (h3 : decide (Made D k (D.B k)) = true)
    (h4 : D.W (D.I k - 256).toNat = word D (D.A k) ++ word D (D.B k)) : (∃ j, j < k ∧ D.A j = D.A k ∧ D.B j = D.B k) → badM D k = 22 := by
  intro h5
  unfold badM
  rw [if_neg (no_24 h0 h1 h), if_neg (fun h5 => h5 ⟨of_decide_eq_true h2, of_decide_eq_true h3⟩), if_neg (fun h6 => h6 h4), if_pos h5]
theorem badM_7 {D : Dt} {k : Nat} (h0 : 256 ≤ D.I k) (h1 : D.I k < 256 + (D.nw : Int)) (h : decide (Made D k (D.I k)) = false) (h2 : decide (Made D k (D.A k)) = true) (h3 : decide (Made D k (D.B k)) = true)
    (h4 : D.W (D.I k - 256).toNat = word D (D.A k) ++ word D (D.B k)) : (∀ j, j < k → ¬ (D.A j = D.A k ∧ D.B j = D.B k)) → badM D k = 0 := by
  intro h5
  unfold badM
  rw [if_neg (no_24 h0 h1 h), if_neg (fun h5 => h5 ⟨of_decide_eq_true h2, of_decide_eq_true h3⟩), if_neg (fun h6 => h6 h4), if_neg (fun ⟨j, hj, e⟩ => h5 j hj e)]

theorem word_size {D : Dt} (h : ∀ i, i < D.nw → (D.W i).size ≤ 140737488355328) (id : Int) : (word D id).size ≤ 140737488355328 := by
  unfold word
  split
  · exact (by decide : (1 : Nat) ≤ 140737488355328)
  · split
    · rename_i h1
      exact h _ (by omega)
    · decide

set_option maxHeartbeats 8000000 in
set_option maxRecDepth 100000 in
theorem merges_calls (D : Dt) (p : Pl) (w : World) (h : At w D p) :
    Calls Tryd.prog 71 #[.agg #[.slice p.a0 D.nw p.c0, .slice p.a1 D.nm p.c1, .slice p.a2 D.n0 p.c2, .slice p.a3 D.n1 p.c3, .slice p.a4 D.n2 p.c4]] w fun e w' =>
      e = .returned (.agg #[.int .i64 (fault 5 (fb (badM D) D.nm 0)).1, .int .i64 (fault 5 (fb (badM D) D.nm 0)).2.1, .int .i64 (fault 5 (fb (badM D) D.nm 0)).2.2]) ∧ Below w.heap.size w w' := by
  obtain ⟨R, hR⟩ : ∃ R, fb (badM D) D.nm 0 = R := ⟨_, rfl⟩
  rw [hR]
  have HR := Lib.hid hR
  have H := Lib.hid h
  have hbw := h.bw
  have hbm := h.bm
  clear h hR
  obtain ⟨W0, hW0⟩ : ∃ W0, w.alloc (.cells #[.slice p.a0 D.nw p.c0, .slice p.a1 D.nm p.c1, .slice p.a2 D.n0 p.c2, .slice p.a3 D.n1 p.c3, .slice p.a4 D.n2 p.c4] 26) = W0 := ⟨_, rfl⟩
  obtain ⟨hb0, hx0, ha0⟩ := boxed H.out hW0
  obtain ⟨W1, hW1⟩ : ∃ W1, W0.alloc (.cells #[.int .i64 0, .int .i64 0, .int .i64 0] 104) = W1 := ⟨_, rfl⟩
  have hb1 : Below W0.heap.size W0 W1 := by rw [← hW1]; exact (Below.refl _ _).alloc (Nat.le_refl _) _
  have HA1 := Lib.hid (ha0.below hb1)
  have HX1 := Lib.hid ((hb1.block _ (lt_of_heap hx0)).trans hx0)
  have HBW1 := Lib.hid (chain hb0 hb1)
  have HR1 := Lib.hid (by rw [← hW1]; exact alloc_new rfl : W1.heap[W0.heap.size]? = some (.cells #[.int .i64 0, .int .i64 0, .int .i64 0] 104 (0, 0)))
  have hsz : w.heap.size ≤ W0.heap.size := hb0.size
  clear hb0 hx0 ha0 hb1
  go_enter Tryd.func71, Tryd.ntmps71
  go_wp2_with fail
  obtain ⟨rb, hrb⟩ : ∃ rb, W0.heap.size = rb := ⟨_, rfl⟩
  rw [hrb] at HR1 hsz ⊢
  clear hW0 hW1 hrb
  go_loopg [3] D.nm (fun g s3 wr => ∃ k : Nat, k ≤ D.nm ∧ g = D.nm - k ∧ s3 = .int .i64 k ∧ Below W1.heap.size W1 wr ∧ fb (badM D) (D.nm - k) k = R)
  case atStart => exact ⟨0, Nat.zero_le _, by omega, rfl, Below.refl _ _, HR.out⟩
  case round =>
    obtain ⟨k, hk, hg, rfl, hbw1, hfb⟩ := hrel
    have HG := Lib.hid hg
    have HB1 := Lib.hid hbw1
    have HBC := Lib.hid (chain HBW1.out hbw1)
    have HAC := Lib.hid (HA1.out.below hbw1)
    have HXC := Lib.hid ((hbw1.block _ (lt_of_heap HX1.out)).trans HX1.out)
    have HRC := Lib.hid ((hbw1.block _ (lt_of_heap HR1.out)).trans HR1.out)
    have hki : (k : Int) ≤ D.nm := by omega
    clear hg hbw1
    by_cases hlt : k < D.nm
    · have hlti : (k : Int) < D.nm := by omega
      have HS := Lib.hid (fun e (h1 : badM D k = e) (h2 : e ≠ 0) => fb_stop hfb hlt h1 h2)
      have HO := Lib.hid (fun (h1 : badM D k = 0) => fb_on hfb hlt h1)
      have hrg := HAC.out.rng k hlt
      clear hfb
      obtain ⟨b, off, hpa, hbl, hc⟩ := HAC.out.rm.at hlt
      obtain ⟨c0, c1, c2⟩ := hc k hlt
      clear hc
      obtain ⟨va, hva⟩ : ∃ v, v = D.A k := ⟨_, rfl⟩
      obtain ⟨vb, hvb⟩ : ∃ v, v = D.B k := ⟨_, rfl⟩
      obtain ⟨vi, hvi⟩ : ∃ v, v = D.I k := ⟨_, rfl⟩
      rw [← hva] at c0 hrg
      rw [← hvb] at c1 hrg
      rw [← hvi] at c2 hrg
      obtain ⟨hra, hrb', hri⟩ := hrg
      obtain ⟨W2, hW2⟩ : ∃ W2, wr.alloc (.cells #[.int .i64 va, .int .i64 vb, .int .i64 vi] 127) = W2 := ⟨_, rfl⟩
      have hb2 : Below wr.heap.size wr W2 := by rw [← hW2]; exact (Below.refl _ _).alloc (Nat.le_refl _) _
      have hxb : W2.heap[wr.heap.size]? = some (.cells #[.int .i64 va, .int .i64 vb, .int .i64 vi] 127 (0, 0)) := by rw [← hW2]; exact alloc_new rfl
      obtain ⟨xb, hxbe⟩ : ∃ xb, wr.heap.size = xb := ⟨_, rfl⟩
      rw [hxbe] at hxb
      have HBX := Lib.hid hxb
      have b1 := cell_at HXC.out 1
      simp only [List.getElem?_toArray, List.getElem?_cons_zero, List.getElem?_cons_succ] at b1
      rw [hpa] at b1
      have zx0 := lt_of_heap HXC.out
      have hb2' := hb2
      have HVA := Lib.hid hva
      have HVB := Lib.hid hvb
      have HVI := Lib.hid hvi
      have HPA := Lib.hid hpa
      clear hxb hva hvb hvi hpa
      have HAC := Lib.hid (HAC.out.below hb2)
      have HXC := Lib.hid ((hb2.block _ (lt_of_heap HXC.out)).trans HXC.out)
      have HRC := Lib.hid ((hb2.block _ (lt_of_heap HRC.out)).trans HRC.out)
      have HBC := Lib.hid (chain HBC.out hb2)
      have HB1 := Lib.hid (chain HB1.out hb2)
      have b0 := cell_at HXC.out 0
      have b1x := cell_at HXC.out 1
      have b2 := cell_at HXC.out 2
      have b3 := cell_at HXC.out 3
      have b4 := cell_at HXC.out 4
      have r0 := cell_at HRC.out 0
      have q0 := free_at HRC.out 0
      have r1 := cell_at HRC.out 1
      have q1 := free_at HRC.out 1
      have r2 := cell_at HRC.out 2
      have q2 := free_at HRC.out 2
      have zr := lt_of_heap HRC.out
      have zx := lt_of_heap HXC.out
      have x0 := cell_at HBX.out 0
      have x1 := cell_at HBX.out 1
      have x2 := cell_at HBX.out 2
      have zxb := lt_of_heap HBX.out
      simp only [List.getElem?_toArray, List.getElem?_cons_zero, List.getElem?_cons_succ] at b0 b1x b2 b3 b4 r0 r1 r2 x0 x1 x2
      have hw : IntKind.i64.wrap (vi - 256) = vi - 256 ∨ vi < 256 := by
        rcases (show vi < 256 ∨ 256 ≤ vi by omega) with h | h
        · exact .inr h
        · exact .inl (i64w _ (by omega) (by omega))
      clear hb2 hb2'
      by_cases h1 : vi < 256
      · have HQ := Lib.hid (badM_1 (HVI.out ▸ h1))
        clear hw
        go_wp2_with fail
        rw [HS.out 24 HQ.out (by decide), fault_some (by decide)]
        refine bodyPost_ret (v := .agg #[.int .i64 24, .int .i64 5, .int .i64 k]) (by simp [results, Tryd.results71, go_sem, *]) rfl ⟨rfl, ?_⟩
        have hB := HBC.out
        exact ((hB.setCell hsz _).setCell hsz _).setCell hsz _
      · have h1' : 256 ≤ vi := by omega
        have hwv : IntKind.i64.wrap (vi - 256) = vi - 256 := hw.resolve_right h1
        clear hw
        by_cases h2 : 256 + (D.nw : Int) ≤ vi
        · have h2' : ¬ (vi - 256 < (D.nw : Int)) := by omega
          have HQ := Lib.hid (badM_2 (HVI.out ▸ h2))
          go_wp2_with fail
          rw [HS.out 24 HQ.out (by decide), fault_some (by decide)]
          refine bodyPost_ret (v := .agg #[.int .i64 24, .int .i64 5, .int .i64 k]) (by simp [results, Tryd.results71, go_sem, *]) rfl ⟨rfl, ?_⟩
          have hB := HBC.out
          exact ((hB.setCell hsz _).setCell hsz _).setCell hsz _
        · have h2' : ¬ ((D.nw : Int) ≤ vi - 256) := by omega
          have k1 := fun (i : Int) W (h : At W D p) => made_calls D p k i W h (Nat.le_of_lt hlt)
          have K1 := Lib.hid k1
          clear k1
          go_wp2_with fail
          have gm := K1.out vi _ HAC.out
          obtain ⟨m1, hm1⟩ : ∃ m, m = decide (Made D k vi) := ⟨_, rfl⟩
          rw [← hm1] at gm
          have HM1 := Lib.hid hm1
          clear hm1
          refine gm.mono ?_
          clear gm
          rintro e W3 ⟨rfl, hb⟩
          clear b0 b1 b2 b3 b4 r0 r1 r2 q0 q1 q2 zr zx x0 x1 x2 zxb b1x hW2 hxbe c0 c1 c2 hbl zx0
          have HAC := Lib.hid (HAC.out.below hb)
          have HXC := Lib.hid ((hb.block _ (lt_of_heap HXC.out)).trans HXC.out)
          have HRC := Lib.hid ((hb.block _ (lt_of_heap HRC.out)).trans HRC.out)
          have HBX := Lib.hid ((hb.block _ (lt_of_heap HBX.out)).trans HBX.out)
          have HBC := Lib.hid (chain HBC.out hb)
          have HB1 := Lib.hid (chain HB1.out hb)
          have b0 := cell_at HXC.out 0
          have b1 := cell_at HXC.out 1
          have b2 := cell_at HXC.out 2
          have b3 := cell_at HXC.out 3
          have b4 := cell_at HXC.out 4
          have r0 := cell_at HRC.out 0
          have q0 := free_at HRC.out 0
          have r1 := cell_at HRC.out 1
          have q1 := free_at HRC.out 1
          have r2 := cell_at HRC.out 2
          have q2 := free_at HRC.out 2
          have zr := lt_of_heap HRC.out
          have zx := lt_of_heap HXC.out
          have x0 := cell_at HBX.out 0
          have x1 := cell_at HBX.out 1
          have x2 := cell_at HBX.out 2
          have zxb := lt_of_heap HBX.out
          simp only [List.getElem?_toArray, List.getElem?_cons_zero, List.getElem?_cons_succ] at b0 b1 b2 b3 b4 r0 r1 r2 x0 x1 x2
          clear hb
          cases m1 with
          | true =>
            have HQ := Lib.hid (badM_3 (HVI.out ▸ h1') (by rw [← HVI.out]; exact HM1.out.symm))
            go_wp2_with fail
            rw [HS.out 24 HQ.out (by decide), fault_some (by decide)]
            refine bodyPost_ret (v := .agg #[.int .i64 24, .int .i64 5, .int .i64 k]) (by simp [results, Tryd.results71, go_sem, *]) rfl ⟨rfl, ?_⟩
            have hB := HBC.out
            exact ((hB.setCell hsz _).setCell hsz _).setCell hsz _
          | false =>
            go_wp2_with fail
            have gm := K1.out va _ HAC.out
            obtain ⟨m2, hm2⟩ : ∃ m, m = decide (Made D k va) := ⟨_, rfl⟩
            rw [← hm2] at gm
            have HM2 := Lib.hid hm2
            clear hm2
            refine gm.mono ?_
            clear gm
            rintro e W4 ⟨rfl, hb⟩
            clear b0 b1 b2 b3 b4 r0 r1 r2 q0 q1 q2 zr zx x0 x1 x2 zxb
            have HAC := Lib.hid (HAC.out.below hb)
            have HXC := Lib.hid ((hb.block _ (lt_of_heap HXC.out)).trans HXC.out)
            have HRC := Lib.hid ((hb.block _ (lt_of_heap HRC.out)).trans HRC.out)
            have HBX := Lib.hid ((hb.block _ (lt_of_heap HBX.out)).trans HBX.out)
            have HBC := Lib.hid (chain HBC.out hb)
            have HB1 := Lib.hid (chain HB1.out hb)
            have b0 := cell_at HXC.out 0
            have b1 := cell_at HXC.out 1
            have b2 := cell_at HXC.out 2
            have b3 := cell_at HXC.out 3
            have b4 := cell_at HXC.out 4
            have r0 := cell_at HRC.out 0
            have q0 := free_at HRC.out 0
            have r1 := cell_at HRC.out 1
            have q1 := free_at HRC.out 1
            have r2 := cell_at HRC.out 2
            have q2 := free_at HRC.out 2
            have zr := lt_of_heap HRC.out
            have zx := lt_of_heap HXC.out
            have x0 := cell_at HBX.out 0
            have x1 := cell_at HBX.out 1
            have x2 := cell_at HBX.out 2
            have zxb := lt_of_heap HBX.out
            simp only [List.getElem?_toArray, List.getElem?_cons_zero, List.getElem?_cons_succ] at b0 b1 b2 b3 b4 r0 r1 r2 x0 x1 x2
            clear hb
            cases m2 with
            | false =>
              have HQ := Lib.hid (badM_4 (HVI.out ▸ h1') (by rw [← HVI.out]; omega) (by rw [← HVI.out]; exact HM1.out.symm) (.inl (by rw [← HVA.out]; exact HM2.out.symm)))
              go_wp2_with fail
              rw [HS.out 23 HQ.out (by decide), fault_some (by decide)]
              refine bodyPost_ret (v := .agg #[.int .i64 23, .int .i64 5, .int .i64 k]) (by simp [results, Tryd.results71, go_sem, *]) rfl ⟨rfl, ?_⟩
              have hB := HBC.out
              exact ((hB.setCell hsz _).setCell hsz _).setCell hsz _
            | true =>
              go_wp2_with fail
              have gm := K1.out vb _ HAC.out
              obtain ⟨m3, hm3⟩ : ∃ m, m = decide (Made D k vb) := ⟨_, rfl⟩
              rw [← hm3] at gm
              have HM3 := Lib.hid hm3
              clear hm3
              refine gm.mono ?_
              clear gm
              rintro e W5 ⟨rfl, hb⟩
              clear b0 b1 b2 b3 b4 r0 r1 r2 q0 q1 q2 zr zx x0 x1 x2 zxb
              have HAC := Lib.hid (HAC.out.below hb)
              have HXC := Lib.hid ((hb.block _ (lt_of_heap HXC.out)).trans HXC.out)
              have HRC := Lib.hid ((hb.block _ (lt_of_heap HRC.out)).trans HRC.out)
              have HBX := Lib.hid ((hb.block _ (lt_of_heap HBX.out)).trans HBX.out)
              have HBC := Lib.hid (chain HBC.out hb)
              have HB1 := Lib.hid (chain HB1.out hb)
              have b0 := cell_at HXC.out 0
              have b1 := cell_at HXC.out 1
              have b2 := cell_at HXC.out 2
              have b3 := cell_at HXC.out 3
              have b4 := cell_at HXC.out 4
              have r0 := cell_at HRC.out 0
              have q0 := free_at HRC.out 0
              have r1 := cell_at HRC.out 1
              have q1 := free_at HRC.out 1
              have r2 := cell_at HRC.out 2
              have q2 := free_at HRC.out 2
              have zr := lt_of_heap HRC.out
              have zx := lt_of_heap HXC.out
              have x0 := cell_at HBX.out 0
              have x1 := cell_at HBX.out 1
              have x2 := cell_at HBX.out 2
              have zxb := lt_of_heap HBX.out
              simp only [List.getElem?_toArray, List.getElem?_cons_zero, List.getElem?_cons_succ] at b0 b1 b2 b3 b4 r0 r1 r2 x0 x1 x2
              clear hb
              cases m3 with
              | false =>
                have HQ := Lib.hid (badM_4 (HVI.out ▸ h1') (by rw [← HVI.out]; omega) (by rw [← HVI.out]; exact HM1.out.symm) (.inr (by rw [← HVB.out]; exact HM3.out.symm)))
                go_wp2_with fail
                rw [HS.out 23 HQ.out (by decide), fault_some (by decide)]
                refine bodyPost_ret (v := .agg #[.int .i64 23, .int .i64 5, .int .i64 k]) (by simp [results, Tryd.results71, go_sem, *]) rfl ⟨rfl, ?_⟩
                have hB := HBC.out
                exact ((hB.setCell hsz _).setCell hsz _).setCell hsz _
              | true =>
                go_wp2_with fail
                have gm := Word_calls D p va _ HAC.out hra
                obtain ⟨s1, hs1⟩ : ∃ s, s = word D va := ⟨_, rfl⟩
                obtain ⟨o1, ho1⟩ : ∃ o, o = decide (isId D va) := ⟨_, rfl⟩
                rw [← hs1, ← ho1] at gm
                have HSW1 := Lib.hid hs1
                clear hs1 ho1
                refine gm.mono ?_
                clear gm
                rintro e W6 ⟨rfl, hb⟩
                clear b0 b1 b2 b3 b4 r0 r1 r2 q0 q1 q2 zr zx x0 x1 x2 zxb
                have HAC := Lib.hid (HAC.out.below hb)
                have HXC := Lib.hid ((hb.block _ (lt_of_heap HXC.out)).trans HXC.out)
                have HRC := Lib.hid ((hb.block _ (lt_of_heap HRC.out)).trans HRC.out)
                have HBX := Lib.hid ((hb.block _ (lt_of_heap HBX.out)).trans HBX.out)
                have HBC := Lib.hid (chain HBC.out hb)
                have HB1 := Lib.hid (chain HB1.out hb)
                have b0 := cell_at HXC.out 0
                have b1 := cell_at HXC.out 1
                have b2 := cell_at HXC.out 2
                have b3 := cell_at HXC.out 3
                have b4 := cell_at HXC.out 4
                have r0 := cell_at HRC.out 0
                have q0 := free_at HRC.out 0
                have r1 := cell_at HRC.out 1
                have q1 := free_at HRC.out 1
                have r2 := cell_at HRC.out 2
                have q2 := free_at HRC.out 2
                have zr := lt_of_heap HRC.out
                have zx := lt_of_heap HXC.out
                have x0 := cell_at HBX.out 0
                have x1 := cell_at HBX.out 1
                have x2 := cell_at HBX.out 2
                have zxb := lt_of_heap HBX.out
                simp only [List.getElem?_toArray, List.getElem?_cons_zero, List.getElem?_cons_succ] at b0 b1 b2 b3 b4 r0 r1 r2 x0 x1 x2
                clear hb
                go_wp2_with fail
                have gm := Word_calls D p vb _ HAC.out hrb'
                obtain ⟨s2, hs2⟩ : ∃ s, s = word D vb := ⟨_, rfl⟩
                obtain ⟨o2, ho2⟩ : ∃ o, o = decide (isId D vb) := ⟨_, rfl⟩
                rw [← hs2, ← ho2] at gm
                have HSW2 := Lib.hid hs2
                clear hs2 ho2
                refine gm.mono ?_
                clear gm
                rintro e W7 ⟨rfl, hb⟩
                clear b0 b1 b2 b3 b4 r0 r1 r2 q0 q1 q2 zr zx x0 x1 x2 zxb
                have HAC := Lib.hid (HAC.out.below hb)
                have HXC := Lib.hid ((hb.block _ (lt_of_heap HXC.out)).trans HXC.out)
                have HRC := Lib.hid ((hb.block _ (lt_of_heap HRC.out)).trans HRC.out)
                have HBX := Lib.hid ((hb.block _ (lt_of_heap HBX.out)).trans HBX.out)
                have HBC := Lib.hid (chain HBC.out hb)
                have HB1 := Lib.hid (chain HB1.out hb)
                have b0 := cell_at HXC.out 0
                have b1 := cell_at HXC.out 1
                have b2 := cell_at HXC.out 2
                have b3 := cell_at HXC.out 3
                have b4 := cell_at HXC.out 4
                have r0 := cell_at HRC.out 0
                have q0 := free_at HRC.out 0
                have r1 := cell_at HRC.out 1
                have q1 := free_at HRC.out 1
                have r2 := cell_at HRC.out 2
                have q2 := free_at HRC.out 2
                have zr := lt_of_heap HRC.out
                have zx := lt_of_heap HXC.out
                have x0 := cell_at HBX.out 0
                have x1 := cell_at HBX.out 1
                have x2 := cell_at HBX.out 2
                have zxb := lt_of_heap HBX.out
                simp only [List.getElem?_toArray, List.getElem?_cons_zero, List.getElem?_cons_succ] at b0 b1 b2 b3 b4 r0 r1 r2 x0 x1 x2
                clear hb
                obtain ⟨t, ht⟩ : ∃ t : Nat, vi = 256 + t := ⟨(vi - 256).toNat, by omega⟩
                have htn : t < D.nw := by omega
                have hti : (t : Int) < D.nw := by omega
                obtain ⟨bw, ow, hpw, hbwl, hcw⟩ := HAC.out.rw.at htn
                have cw := hcw t htn
                rw [hpw] at b0
                clear hwv
                have hwv : IntKind.i64.wrap (vi - 256) = (t : Int) := by rw [i64w _ (by omega) (by omega)]; omega
                have htt : (D.I k - 256).toNat = t := by rw [← HVI.out]; omega
                obtain ⟨u, hu⟩ : ∃ u, u = D.W t := ⟨_, rfl⟩
                rw [← hu] at cw
                have HU := Lib.hid hu
                have HTT := Lib.hid htt
                have HT := Lib.hid ht
                have HPW := Lib.hid hpw
                have hls : s1.size + s2.size ≤ 9223372036854775807 := by
                  have h1 := word_size HAC.out.sz va
                  have h2 := word_size HAC.out.sz vb
                  rw [HSW1.out, HSW2.out]
                  omega
                clear hcw hu htt ht hpw
                by_cases hus : u = s1 ++ s2
                · have hq : D.W (D.I k - 256).toNat = word D (D.A k) ++ word D (D.B k) := by rw [HTT.out, ← HU.out, hus, HSW1.out, HSW2.out, HVA.out, HVB.out]
                  have e1 : (!(u.toList == (s1 ++ s2).toList)) = false := by rw [beq_texts, decide_eq_true hus]; rfl
                  have h0I : 256 ≤ D.I k := HVI.out ▸ h1'
                  have h1I : D.I k < 256 + (D.nw : Int) := by rw [← HVI.out]; omega
                  have hm1 : decide (Made D k (D.I k)) = false := by rw [← HVI.out]; exact HM1.out.symm
                  have hm2 : decide (Made D k (D.A k)) = true := by rw [← HVA.out]; exact HM2.out.symm
                  have hm3 : decide (Made D k (D.B k)) = true := by rw [← HVB.out]; exact HM3.out.symm
                  have H6 := Lib.hid (badM_6 h0I h1I hm1 hm2 hm3 hq)
                  have H7 := Lib.hid (badM_7 h0I h1I hm1 hm2 hm3 hq)
                  clear hus hq h0I h1I hm1 hm2 hm3
                  go_wp2_with fail
                  clear b0 b1 b2 b3 b4 r0 r1 r2 q0 q1 q2 zr zx x0 x1 x2 zxb cw e1
                  obtain ⟨wo, hwo⟩ : ∃ wo : World, wo = W7 := ⟨_, rfl⟩
                  rw [← hwo] at HAC HXC HRC HBX HBC HB1 ⊢
                  clear hwo
                  go_loopg [9] k (fun g2 s9 wx => ∃ j : Nat, j ≤ k ∧ g2 = k - j ∧ s9 = .int .i64 j ∧ Below wo.heap.size wo wx ∧ ∀ j', j' < j → ¬ (D.A j' = D.A k ∧ D.B j' = D.B k))
                  case atStart => exact ⟨0, Nat.zero_le _, by omega, rfl, Below.refl _ _, fun j' hj' => by omega⟩
                  case round =>
                    obtain ⟨j, hj, hg2, rfl, hb, hno⟩ := hrel
                    have HG2 := Lib.hid hg2
                    have HNO := Lib.hid hno
                    have HBO := Lib.hid hb
                    have HAC := Lib.hid (HAC.out.below hb)
                    have HXC := Lib.hid ((hb.block _ (lt_of_heap HXC.out)).trans HXC.out)
                    have HRC := Lib.hid ((hb.block _ (lt_of_heap HRC.out)).trans HRC.out)
                    have HBX := Lib.hid ((hb.block _ (lt_of_heap HBX.out)).trans HBX.out)
                    have HBC := Lib.hid (chain HBC.out hb)
                    have HB1 := Lib.hid (chain HB1.out hb)
                    have b0 := cell_at HXC.out 0
                    have b1 := cell_at HXC.out 1
                    have b2 := cell_at HXC.out 2
                    have b3 := cell_at HXC.out 3
                    have b4 := cell_at HXC.out 4
                    have r0 := cell_at HRC.out 0
                    have q0 := free_at HRC.out 0
                    have r1 := cell_at HRC.out 1
                    have q1 := free_at HRC.out 1
                    have r2 := cell_at HRC.out 2
                    have q2 := free_at HRC.out 2
                    have zr := lt_of_heap HRC.out
                    have zx := lt_of_heap HXC.out
                    have x0 := cell_at HBX.out 0
                    have x1 := cell_at HBX.out 1
                    have x2 := cell_at HBX.out 2
                    have zxb := lt_of_heap HBX.out
                    simp only [List.getElem?_toArray, List.getElem?_cons_zero, List.getElem?_cons_succ] at b0 b1 b2 b3 b4 r0 r1 r2 x0 x1 x2
                    clear hb hg2 hno
                    by_cases hjl : j < k
                    · have hji : (j : Int) < k := by omega
                      have hjm : j < D.nm := by omega
                      have hjmi : (j : Int) < D.nm := by omega
                      obtain ⟨b', off', hpa', hbl', hc'⟩ := HAC.out.rm.at hjm
                      obtain ⟨c0, c1, _⟩ := hc' j hjm
                      rw [hpa'] at b1
                      obtain ⟨ya, hya⟩ : ∃ v, v = D.A j := ⟨_, rfl⟩
                      obtain ⟨yb, hyb⟩ : ∃ v, v = D.B j := ⟨_, rfl⟩
                      rw [← hya] at c0
                      rw [← hyb] at c1
                      have HYA := Lib.hid hya
                      have HYB := Lib.hid hyb
                      have HX := Lib.hid (fun (h : ¬ (ya = va ∧ yb = vb)) => (fun j' (hj' : j' < j + 1) => (by
                        rcases Nat.lt_or_ge j' j with h' | h'
                        · exact HNO.out j' h'
                        · have : j' = j := by omega
                          subst this
                          rw [← HYA.out, ← HYB.out, ← HVA.out, ← HVB.out]
                          exact h : ¬ (D.A j' = D.A k ∧ D.B j' = D.B k))))
                      clear hc' hya hyb hpa'
                      by_cases e1 : ya = va
                      · by_cases e2 : yb = vb
                        · have HQ := Lib.hid (H6.out ⟨j, hjl, by rw [← HYA.out, ← HVA.out]; exact e1, by rw [← HYB.out, ← HVB.out]; exact e2⟩)
                          have t1 : (ya == va) = true := by simpa using e1
                          have t2 : (yb == vb) = true := by simpa using e2
                          clear e1 e2
                          go_wp2_with fail
                          refine region_calm (by kernel_rfl) (by kernel_rfl) ?_
                          repeat (quiet_step ((fail)))
                          refine wpQuiet_nil ?_
                          rintro _ ⟨x, rfl⟩
                          have hb := x.h
                          clear b0 b1 b2 b3 b4 r0 r1 r2 q0 q1 q2 zr zx x0 x1 x2 zxb c0 c1
                          have HAC := Lib.hid (HAC.out.below hb)
                          have HXC := Lib.hid ((hb.block _ (lt_of_heap HXC.out)).trans HXC.out)
                          have HRC := Lib.hid ((hb.block _ (lt_of_heap HRC.out)).trans HRC.out)
                          have HBX := Lib.hid ((hb.block _ (lt_of_heap HBX.out)).trans HBX.out)
                          have HBC := Lib.hid (chain HBC.out hb)
                          have HB1 := Lib.hid (chain HB1.out hb)
                          have b0 := cell_at HXC.out 0
                          have b1 := cell_at HXC.out 1
                          have b2 := cell_at HXC.out 2
                          have b3 := cell_at HXC.out 3
                          have b4 := cell_at HXC.out 4
                          have r0 := cell_at HRC.out 0
                          have q0 := free_at HRC.out 0
                          have r1 := cell_at HRC.out 1
                          have q1 := free_at HRC.out 1
                          have r2 := cell_at HRC.out 2
                          have q2 := free_at HRC.out 2
                          have zr := lt_of_heap HRC.out
                          have zx := lt_of_heap HXC.out
                          have x0 := cell_at HBX.out 0
                          have x1 := cell_at HBX.out 1
                          have x2 := cell_at HBX.out 2
                          have zxb := lt_of_heap HBX.out
                          simp only [List.getElem?_toArray, List.getElem?_cons_zero, List.getElem?_cons_succ] at b0 b1 b2 b3 b4 r0 r1 r2 x0 x1 x2
                          generalize x.w = W9 at *
                          clear hb
                          go_wp2_with fail
                          rw [HS.out 22 HQ.out (by decide), fault_some (by decide)]
                          refine bodyPost_ret (v := .agg #[.int .i64 22, .int .i64 5, .int .i64 k]) (by simp [results, Tryd.results71, go_sem, *]) rfl ⟨rfl, ?_⟩
                          have hB := HBC.out
                          exact ((hB.setCell hsz _).setCell hsz _).setCell hsz _
                        · have t1 : (ya == va) = true := by simpa using e1
                          have t2 : (yb == vb) = false := by simpa using e2
                          have HX2 := Lib.hid (HX.out (fun h => e2 h.2))
                          clear e1 e2
                          go_wp2_with fail
                          refine region_calm (by kernel_rfl) (by kernel_rfl) ?_
                          repeat (quiet_step ((fail)))
                          refine wpQuiet_nil ?_
                          rintro _ ⟨x, rfl⟩
                          have HBN := Lib.hid (chain HBO.out x.h)
                          generalize x.w = W9 at *
                          clear b0 b1 b2 b3 b4 r0 r1 r2 q0 q1 q2 zr zx x0 x1 x2 zxb c0 c1
                          go_wp2_with fail
                          go_roundg (k - (j + 1))
                          case measure => have := HG2.out; omega
                          case rel => exact ⟨j + 1, by omega, rfl, by go_num, HBN.out, HX2.out⟩
                      · have t1 : (ya == va) = false := by simpa using e1
                        have HX2 := Lib.hid (HX.out (fun h => e1 h.1))
                        clear e1
                        go_wp2_with fail
                        refine region_calm (by kernel_rfl) (by kernel_rfl) ?_
                        repeat (quiet_step ((fail)))
                        refine wpQuiet_nil ?_
                        rintro _ ⟨x, rfl⟩
                        have HBN := Lib.hid (chain HBO.out x.h)
                        generalize x.w = W9 at *
                        clear b0 b1 b2 b3 b4 r0 r1 r2 q0 q1 q2 zr zx x0 x1 x2 zxb c0 c1
                        go_wp2_with fail
                        go_roundg (k - (j + 1))
                        case measure => have := HG2.out; omega
                        case rel => exact ⟨j + 1, by omega, rfl, by go_num, HBN.out, HX2.out⟩
                    · have hjk : j = k := by omega
                      subst hjk
                      have HO2 := Lib.hid (HO.out (H7.out HNO.out))
                      clear b0 b1 b2 b3 b4 r0 r1 r2 q0 q1 q2 zr zx x0 x1 x2 zxb
                      go_wp2_with fail
                      go_roundg (D.nm - (j + 1))
                      case measure => have := HG.out; omega
                      case rel => exact ⟨j + 1, by omega, rfl, by go_num, HB1.out, HO2.out⟩
                · have HQ := Lib.hid (badM_5 (HVI.out ▸ h1') (by rw [← HVI.out]; omega) (by rw [← HVI.out]; exact HM1.out.symm) (by rw [← HVA.out]; exact HM2.out.symm) (by rw [← HVB.out]; exact HM3.out.symm) (by rw [HTT.out, ← HU.out, ← HVA.out, ← HVB.out, ← HSW1.out, ← HSW2.out]; exact hus))
                  have e1 : (!(u.toList == (s1 ++ s2).toList)) = true := by rw [beq_texts, decide_eq_false hus]; rfl
                  clear hus
                  go_wp2_with fail
                  rw [HS.out 25 HQ.out (by decide), fault_some (by decide)]
                  refine bodyPost_ret (v := .agg #[.int .i64 25, .int .i64 5, .int .i64 k]) (by simp [results, Tryd.results71, go_sem, *]) rfl ⟨rfl, ?_⟩
                  have hB := HBC.out
                  exact ((hB.setCell hsz _).setCell hsz _).setCell hsz _
    · have hkn : k = D.nm := by omega
      have hlti : ¬ ((k : Int) < D.nm) := by omega
      have HR2 := Lib.hid (fb_end (hkn ▸ hfb) : R = (0, 0))
      clear hfb
      have b0 := cell_at HXC.out 0
      have b1 := cell_at HXC.out 1
      have b2 := cell_at HXC.out 2
      have b3 := cell_at HXC.out 3
      have b4 := cell_at HXC.out 4
      have r0 := cell_at HRC.out 0
      have q0 := free_at HRC.out 0
      have r1 := cell_at HRC.out 1
      have q1 := free_at HRC.out 1
      have r2 := cell_at HRC.out 2
      have q2 := free_at HRC.out 2
      have zr := lt_of_heap HRC.out
      have zx := lt_of_heap HXC.out
      simp only [List.getElem?_toArray, List.getElem?_cons_zero, List.getElem?_cons_succ] at b0 b1 b2 b3 b4 r0 r1 r2
      go_wp2_with fail
      rw [HR2.out, fault_none]
      refine bodyPost_ret (v := .agg #[.int .i64 0, .int .i64 0, .int .i64 0]) (by simp [results, Tryd.results71, go_sem, *]) rfl ⟨rfl, ?_⟩
      have hB := HBC.out
      exact ((hB.setCell hsz _).setCell hsz _).setCell hsz _
end Go.Proofs.YtkjkgpdfhmoenaaDoor.Ref5c
