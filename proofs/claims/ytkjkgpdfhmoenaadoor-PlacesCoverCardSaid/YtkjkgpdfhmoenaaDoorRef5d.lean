/-
  tesseraref4.Check. tesseraref5.Check.
-/
import Derived.Test.YtkjkgpdfhmoenaaDoorTab
import Derived.Test.YtkjkgpdfhmoenaaDoorSpMeet
import Derived.Test.YtkjkgpdfhmoenaaDoorRef5c
namespace Go.Proofs.YtkjkgpdfhmoenaaDoor.Ref4
open Go Go.RowKit Go.Proofs.YtkjkgpdfhmoenaaDoor.Kit Go.Proofs.YtkjkgpdfhmoenaaDoor.SpFns Go.Proofs.YtkjkgpdfhmoenaaDoor.SpFind Go.Proofs.YtkjkgpdfhmoenaaDoor.SpSize Go.Proofs.YtkjkgpdfhmoenaaDoor.SpLists Go.Proofs.YtkjkgpdfhmoenaaDoor.SpRef Go.Proofs.YtkjkgpdfhmoenaaDoor.SpRefMeet Go.Proofs.YtkjkgpdfhmoenaaDoor.Dt Go.Proofs.YtkjkgpdfhmoenaaDoor.Chk4
attribute [local irreducible] wpQuiet

/-- The boxes in a world: three lists; the answer. -/
structure Bx (w : World) (D : Dt) (p : Pl) (lb rb : Nat) : Prop where
  at_ : At w D p
  l : w.heap[lb]? = some (.cells #[.slice p.a2 D.n0 p.c2, .slice p.a3 D.n1 p.c3, .slice p.a4 D.n2 p.c4] 24 (0, 0))
  r : w.heap[rb]? = some (.cells #[.int .i64 0, .int .i64 0, .int .i64 0] 136 (0, 0))
theorem Bx.below {w w' : World} {D : Dt} {p : Pl} {lb rb : Nat} (h : Bx w D p lb rb) (hb : Below w.heap.size w w') : Bx w' D p lb rb :=
  ⟨h.at_.below hb, (hb.block _ (lt_of_heap h.l)).trans h.l, (hb.block _ (lt_of_heap h.r)).trans h.r⟩

set_option maxHeartbeats 4000000 in
set_option maxRecDepth 100000 in
theorem Check_calls (D : Dt) (p : Pl) (w : World) (h : At w D p) :
    Calls Tryd.prog 69 #[.slice p.a2 D.n0 p.c2, .slice p.a3 D.n1 p.c3, .slice p.a4 D.n2 p.c4] w fun e w' =>
      e = .returned (.agg #[.int .i64 (chk4 D).1, .int .i64 (chk4 D).2.1, .int .i64 (chk4 D).2.2]) ∧ Below w.heap.size w w' := by
  obtain ⟨T, hT⟩ : ∃ T, T = chk4 D := ⟨_, rfl⟩
  rw [← hT]
  have HT := Lib.hid hT
  have H := Lib.hid h
  clear hT h
  go_enter Tryd.func69, Tryd.ntmps69
  go_wp2_with fail
  generalize hW : (World.alloc (World.alloc _ _) _) = W1
  have hb1 : Below w.heap.size w W1 := by rw [← hW]; exact ((Below.refl _ _).alloc (Nat.le_refl _) _).alloc (by simp) _
  have HX1 := Lib.hid (⟨H.out.below hb1, by rw [← hW]; exact alloc_new (by simp), by rw [← hW, alloc_old (by simp)]; exact alloc_new rfl⟩ : Bx W1 D p (w.heap.size + 1) w.heap.size)
  have HB1 := Lib.hid hb1
  obtain ⟨lb, hlb⟩ : ∃ lb, lb = w.heap.size + 1 := ⟨_, rfl⟩
  obtain ⟨rb, hrb⟩ : ∃ rb, rb = w.heap.size := ⟨_, rfl⟩
  have hsz : w.heap.size ≤ rb := by omega
  rw [← hlb, ← hrb] at HX1
  rw [← hlb, ← hrb]
  clear hW hb1 hlb hrb
  go_loopg [8] 3 (fun g s8 wr => ∃ k : Nat, k ≤ 3 ∧ g = 3 - k ∧ s8 = .int .i64 k ∧ W1 = wr ∧ Few D k)
  case atStart => exact ⟨0, by omega, by omega, rfl, rfl, fun j hj => by omega⟩
  case round =>
    obtain ⟨k, hk, hg, rfl, rfl, hfew⟩ := hrel
    have HG := Lib.hid hg
    have HF := Lib.hid hfew
    have HX := HX1
    have HB := HB1
    clear hg hfew
    by_cases hlt : k < 3
    · have hlti : (k : Int) < 3 := by omega
      have ck := cell_k HX.out.l hlt
      have hn := nk_le HX.out.at_ k
      have r0 := cell_at HX.out.r 0
      have r1 := cell_at HX.out.r 1
      have r2 := cell_at HX.out.r 2
      have q0 := free_at HX.out.r 0
      have q1 := free_at HX.out.r 1
      have q2 := free_at HX.out.r 2
      have zr := lt_of_heap HX.out.r
      have zl := lt_of_heap HX.out.l
      simp only [List.getElem?_toArray, List.getElem?_cons_zero, List.getElem?_cons_succ] at r0 r1 r2
      have HL := Lib.hid (fun (h : 512 < nk D k) => HT.out.trans (chk_many hlt HF.out h))
      have HS := Lib.hid (fun (h : ¬ 512 < nk D k) => few_step HF.out h)
      have hw : IntKind.i64.wrap ((k : Int) + 1) = (k : Int) + 1 := i64w _ (by omega) (by omega)
      generalize nk D k = n at ck hn HL HS
      generalize Chk4.ck p k = c at ck
      generalize ak p k = a at ck
      by_cases hbig : 512 < n
      · have hbi : (512 : Int) < n := by omega
        go_wp2_with fail
        rw [show T = (4, (k : Int) + 1, 512) from HL.out hbig]
        refine bodyPost_ret (v := .agg #[.int .i64 (4), .int .i64 ((k : Int) + 1), .int .i64 (512)]) (by simp [results, Tryd.results69, go_sem, *]) rfl ⟨rfl, ?_⟩
        have hB := HB.out
        exact ((hB.setCell hsz _).setCell hsz _).setCell hsz _
      · have hbi : ¬ ((512 : Int) < n) := by omega
        clear hw
        go_wp2_with fail
        go_roundg (3 - (k + 1))
        case measure => have := HG.out; omega
        case rel => exact ⟨k + 1, by omega, rfl, by go_num, rfl, HS.out hbig⟩
    · have hk3 : k = 3 := by omega
      subst hk3
      go_wp2_with fail
      go_loopg [9] 3 (fun g s9 wr => ∃ k : Nat, k ≤ 3 ∧ g = 3 - k ∧ s9 = .int .i64 k ∧ Below W1.heap.size W1 wr ∧ Ok D k)
      case atStart => exact ⟨0, by omega, by omega, rfl, Below.refl _ _, fun j hj => by omega⟩
      case round =>
        obtain ⟨k, hk, hg, rfl, hb, hok⟩ := hrel
        have HG := Lib.hid hg
        have HO := Lib.hid hok
        have HX := Lib.hid (HX1.out.below hb)
        have HB := Lib.hid (chain HB1.out hb)
        have HBW := Lib.hid hb
        clear hg hok hb
        by_cases hlt : k < 3
        · have hlti : (k : Int) < 3 := by omega
          have ck := cell_k HX.out.l hlt
          have zl := lt_of_heap HX.out.l
          have K1 := Lib.hid (fun W (h : At W D p) => refRight_calls (ak p k) (nk D k) (Chk4.ck p k) (lk D k) (Chk4.hk D k) W (row_k h k) (by have := nk_le h k; omega))
          have HL := Lib.hid (fun (h : (rk D k).2 ≠ 0) => HT.out.trans (chk_wrong hlt HF.out HO.out h))
          have HS := Lib.hid (fun (h : (rk D k).2 = 0) => ok_step HO.out h)
          have hrk : rt (lk D k) (Chk4.hk D k) (nk D k) 0 = rk D k := rfl
          rw [hrk] at K1
          generalize rk D k = R at K1 HL HS
          generalize nk D k = n at ck K1
          generalize Chk4.ck p k = c at ck K1
          generalize ak p k = a at ck K1
          clear hrk
          go_wp2_with fail
          refine (K1.out _ HX.out.at_).mono ?_
          rintro e W2 ⟨rfl, hb⟩
          have HX := Lib.hid (HX.out.below hb)
          have HB := Lib.hid (chain HB.out hb)
          have HBW := Lib.hid (chain HBW.out hb)
          obtain ⟨R1, R2⟩ := R
          simp only at HL HS
          clear hb ck zl
          have r0 := cell_at HX.out.r 0
          have r1 := cell_at HX.out.r 1
          have r2 := cell_at HX.out.r 2
          have q0 := free_at HX.out.r 0
          have q1 := free_at HX.out.r 1
          have q2 := free_at HX.out.r 2
          have zr := lt_of_heap HX.out.r
          have zl := lt_of_heap HX.out.l
          simp only [List.getElem?_toArray, List.getElem?_cons_zero, List.getElem?_cons_succ] at r0 r1 r2
          by_cases hR : R2 = 0
          · have HS2 := Lib.hid (HS.out hR)
            subst hR
            go_wp2_with fail
            go_roundg (3 - (k + 1))
            case measure => have := HG.out; omega
            case rel => exact ⟨k + 1, by omega, rfl, by go_num, HBW.out, HS2.out⟩
          · have hw : IntKind.i64.wrap ((k : Int) + 1) = (k : Int) + 1 := i64w _ (by omega) (by omega)
            have HL2 := Lib.hid (HL.out hR)
            go_wp2_with fail
            rw [show T = (R2, (k : Int) + 1, R1) from HL2.out]
            refine bodyPost_ret (v := .agg #[.int .i64 (R2), .int .i64 ((k : Int) + 1), .int .i64 (R1)]) (by simp [results, Tryd.results69, go_sem, *]) rfl ⟨rfl, ?_⟩
            have hB := HB.out
            exact ((hB.setCell hsz _).setCell hsz _).setCell hsz _
        · have hk3 : k = 3 := by omega
          subst hk3
          go_wp2_with fail
          obtain ⟨wa, hwa⟩ : ∃ wa : World, wa = wr := ⟨_, rfl⟩
          rw [← hwa] at HX HB HBW ⊢
          clear hwa
          go_loopg [12] 2 (fun g s12 wx => ∃ i : Nat, 1 ≤ i ∧ i ≤ 3 ∧ g = 3 - i ∧ s12 = .int .i64 i ∧ Below wa.heap.size wa wx ∧ Apart D i)
          case atStart => exact ⟨1, by omega, by omega, by omega, rfl, Below.refl _ _, fun i' hi' j hj => by omega⟩
          case round =>
            obtain ⟨i, h1, hk, hg, rfl, hb, hap⟩ := hrel
            have HG := Lib.hid hg
            have HAP := Lib.hid hap
            have HX := Lib.hid (HX.out.below hb)
            have HB := Lib.hid (chain HB.out hb)
            have HBA := Lib.hid hb
            clear hg hap hb
            by_cases hlt : i < 3
            · have hlti : (i : Int) < 3 := by omega
              have HOV := Lib.hid (fun (h : 0 ≤ F D i i) => HT.out.trans (chk_over h1 hlt HF.out HO.out HAP.out h))
              have HNX := Lib.hid (fun (h : F D i i < 0) => apart_step h1 hlt HAP.out h)
              go_wp2_with fail
              obtain ⟨wo, hwo⟩ : ∃ wo : World, wo = wr := ⟨_, rfl⟩
              rw [← hwo] at HX HB HBA ⊢
              clear hwo
              go_loopg [14, 13] i (fun g s14 s13 wx => ∃ j : Nat, j ≤ i ∧ g = i - j ∧ s14 = .int .i64 j ∧ s13 = .int .i64 (F D i j) ∧ Below wo.heap.size wo wx)
              case atStart => exact ⟨0, by omega, by omega, rfl, rfl, Below.refl _ _⟩
              case round =>
                obtain ⟨j, hj, hg2, rfl, rfl, hb⟩ := hrel
                have HG2 := Lib.hid hg2
                have HX := Lib.hid (HX.out.below hb)
                have HB := Lib.hid (chain HB.out hb)
                have HBA := Lib.hid (chain HBA.out hb)
                have HBO := Lib.hid hb
                clear hg2 hb
                by_cases hjl : j < i
                · have hji : (j : Int) < i := by omega
                  have hj3 : (j : Int) < 3 := by omega
                  have ci := cell_k HX.out.l hlt
                  have cj := cell_k HX.out.l (show j < 3 by omega)
                  have zl := lt_of_heap HX.out.l
                  have K1 := Lib.hid (fun W (h : At W D p) => refMeet_calls (ak p i) (ak p j) (nk D i) (Chk4.ck p i) (nk D j) (Chk4.ck p j) (lk D i) (Chk4.hk D i) (lk D j) (Chk4.hk D j) W (row_k h i) (row_k h j) (rt_all HO.out i) (rt_all HO.out j))
                  have hmk : fr (hit (lk D i) (Chk4.hk D i) (lk D j) (Chk4.hk D j) (nk D j)) (nk D i) 0 = mk D i j := rfl
                  rw [hmk] at K1
                  clear hmk
                  have hF : F D i (j + 1) = st (mk D i j) (F D i j) := rfl
                  have HFF := Lib.hid hF
                  clear hF
                  generalize mk D i j = M at K1 HFF
                  generalize ak p i = ai at ci K1
                  generalize ak p j = aj at cj K1
                  generalize nk D i = ni at ci K1
                  generalize nk D j = nj at cj K1
                  generalize Chk4.ck p i = cci at ci K1
                  generalize Chk4.ck p j = ccj at cj K1
                  obtain ⟨M1, M2⟩ := M
                  simp only at K1
                  obtain ⟨f, hf⟩ : ∃ f, f = F D i j := ⟨_, rfl⟩
                  rw [← hf] at HFF ⊢
                  clear hf
                  have HFN := Lib.hid (rfl : f = f)
                  have KL := Lib.hid (fun x : Later wr => K1.out x.w (HX.out.below x.h).at_)
                  go_wp2_with fail
                  refine region_calm (by kernel_rfl) (by kernel_rfl) ?_
                  repeat (quiet_step ((with_reducible exact later_same (KL.out _))))
                  refine wpQuiet_nil ?_
                  rintro _ ⟨x, rfl⟩
                  have HX := Lib.hid (HX.out.below x.h)
                  have HB := Lib.hid (chain HB.out x.h)
                  have HBO := Lib.hid (chain HBO.out x.h)
                  generalize x.w = W3 at *
                  clear ci cj zl
                  cases M2 with
                  | false =>
                    have hq : F D i (j + 1) = f := HFF.out.trans (by simp [st])
                    have HQ := Lib.hid hq
                    clear hq
                    go_wp2_with fail
                    go_roundg (i - (j + 1))
                    case measure => have := HG2.out; omega
                    case rel => exact ⟨j + 1, by omega, rfl, by go_num, by rw [HQ.out], HBO.out⟩
                  | true =>
                    by_cases g1 : f < 0
                    · have hq : F D i (j + 1) = M1 := HFF.out.trans (by simp [st, g1])
                      have HQ := Lib.hid hq
                      clear hq
                      go_wp2_with fail
                      go_roundg (i - (j + 1))
                      case measure => have := HG2.out; omega
                      case rel => exact ⟨j + 1, by omega, rfl, by go_num, by rw [HQ.out], HBO.out⟩
                    · by_cases g2 : M1 < f
                      · have hq : F D i (j + 1) = M1 := HFF.out.trans (by simp [st, g2])
                        have HQ := Lib.hid hq
                        clear hq
                        go_wp2_with fail
                        go_roundg (i - (j + 1))
                        case measure => have := HG2.out; omega
                        case rel => exact ⟨j + 1, by omega, rfl, by go_num, by rw [HQ.out], HBO.out⟩
                      · have hq : F D i (j + 1) = f := HFF.out.trans (by simp [st, g1, g2])
                        have HQ := Lib.hid hq
                        clear hq
                        go_wp2_with fail
                        go_roundg (i - (j + 1))
                        case measure => have := HG2.out; omega
                        case rel => exact ⟨j + 1, by omega, rfl, by go_num, by rw [HQ.out], HBO.out⟩
                · have hjk : j = i := by omega
                  subst hjk
                  have r0 := cell_at HX.out.r 0
                  have r1 := cell_at HX.out.r 1
                  have r2 := cell_at HX.out.r 2
                  have q0 := free_at HX.out.r 0
                  have q1 := free_at HX.out.r 1
                  have q2 := free_at HX.out.r 2
                  have zr := lt_of_heap HX.out.r
                  have zl := lt_of_heap HX.out.l
                  simp only [List.getElem?_toArray, List.getElem?_cons_zero, List.getElem?_cons_succ] at r0 r1 r2
                  have hw : IntKind.i64.wrap ((j : Int) + 1) = (j : Int) + 1 := i64w _ (by omega) (by omega)
                  generalize F D j j = f at HOV HNX ⊢
                  by_cases g : 0 ≤ f
                  · have HL := Lib.hid (HOV.out g)
                    have g' : ¬ (f < 0) := by omega
                    go_wp2_with fail
                    rw [show T = (16, (j : Int) + 1, f) from HL.out]
                    refine bodyPost_ret (v := .agg #[.int .i64 (16), .int .i64 ((j : Int) + 1), .int .i64 (f)]) (by simp [results, Tryd.results69, go_sem, *]) rfl ⟨rfl, ?_⟩
                    have hB := HB.out
                    exact ((hB.setCell hsz _).setCell hsz _).setCell hsz _
                  · have g' : f < 0 := by omega
                    have HN := Lib.hid (HNX.out g')
                    clear hw
                    go_wp2_with fail
                    go_roundg (3 - (j + 1))
                    case measure => have := HG.out; omega
                    case rel => exact ⟨j + 1, by omega, by omega, rfl, by go_num, HBA.out, HN.out⟩
            · have hk3 : i = 3 := by omega
              subst hk3
              have HL := Lib.hid (chk_last HF.out HO.out HAP.out)
              have I0 := Lib.hid (fun r W (h : At W D p) => refIn_calls p.a2 D.n0 p.c2 D.L0 D.H0 r W h.l0 (by have := h.b0; omega))
              have I1 := Lib.hid (fun r W (h : At W D p) => refIn_calls p.a3 D.n1 p.c3 D.L1 D.H1 r W h.l1 (by have := h.b1; omega))
              have I2 := Lib.hid (fun r W (h : At W D p) => refIn_calls p.a4 D.n2 p.c4 D.L2 D.H2 r W h.l2 (by have := h.b2; omega))
              have J0 := Lib.hid (I0.out 39)
              have J1 := Lib.hid (I1.out 39)
              have J2 := Lib.hid (I2.out 39)
              have J3 := Lib.hid (I2.out 32)
              unfold Blank at HL
              generalize InD D.L0 D.H0 D.n0 39 = g0 at HL J0
              generalize InD D.L1 D.H1 D.n1 39 = g1 at HL J1
              generalize InD D.L2 D.H2 D.n2 39 = g2 at HL J2
              generalize InD D.L2 D.H2 D.n2 32 = g3 at HL J3
              clear I0 I1 I2
              have r0 := cell_at HX.out.r 0
              have r1 := cell_at HX.out.r 1
              have r2 := cell_at HX.out.r 2
              have q0 := free_at HX.out.r 0
              have q1 := free_at HX.out.r 1
              have q2 := free_at HX.out.r 2
              have zr := lt_of_heap HX.out.r
              have zl := lt_of_heap HX.out.l
              simp only [List.getElem?_toArray, List.getElem?_cons_zero, List.getElem?_cons_succ] at r0 r1 r2
              go_wp2_with fail
              refine (J3.out _ HX.out.at_).mono ?_
              rintro e W3 ⟨rfl, rfl⟩
              cases g3 with
              | false =>
                have HL2 := Lib.hid (HT.out.trans (HL.out.2 (by simp)))
                go_wp2_with fail
                rw [show T = (20, 3, 0) from HL2.out]
                refine bodyPost_ret (v := .agg #[.int .i64 (20), .int .i64 (3), .int .i64 (0)]) (by simp [results, Tryd.results69, go_sem, *]) rfl ⟨rfl, ?_⟩
                have hB := HB.out
                exact ((hB.setCell hsz _).setCell hsz _).setCell hsz _
              | true =>
                go_wp2_with fail
                refine (J0.out _ HX.out.at_).mono ?_
                rintro e W3 ⟨rfl, rfl⟩
                cases g0 with
                | true =>
                  have HL2 := Lib.hid (HT.out.trans (HL.out.2 (by simp)))
                  go_wp2_with fail
                  rw [show T = (20, 3, 0) from HL2.out]
                  refine bodyPost_ret (v := .agg #[.int .i64 (20), .int .i64 (3), .int .i64 (0)]) (by simp [results, Tryd.results69, go_sem, *]) rfl ⟨rfl, ?_⟩
                  have hB := HB.out
                  exact ((hB.setCell hsz _).setCell hsz _).setCell hsz _
                | false =>
                  go_wp2_with fail
                  refine (J1.out _ HX.out.at_).mono ?_
                  rintro e W3 ⟨rfl, rfl⟩
                  cases g1 with
                  | true =>
                    have HL2 := Lib.hid (HT.out.trans (HL.out.2 (by simp)))
                    go_wp2_with fail
                    rw [show T = (20, 3, 0) from HL2.out]
                    refine bodyPost_ret (v := .agg #[.int .i64 (20), .int .i64 (3), .int .i64 (0)]) (by simp [results, Tryd.results69, go_sem, *]) rfl ⟨rfl, ?_⟩
                    have hB := HB.out
                    exact ((hB.setCell hsz _).setCell hsz _).setCell hsz _
                  | false =>
                    go_wp2_with fail
                    refine (J2.out _ HX.out.at_).mono ?_
                    rintro e W3 ⟨rfl, rfl⟩
                    cases g2 with
                    | true =>
                      have HL2 := Lib.hid (HT.out.trans (HL.out.2 (by simp)))
                      go_wp2_with fail
                      rw [show T = (20, 3, 0) from HL2.out]
                      refine bodyPost_ret (v := .agg #[.int .i64 (20), .int .i64 (3), .int .i64 (0)]) (by simp [results, Tryd.results69, go_sem, *]) rfl ⟨rfl, ?_⟩
                      have hB := HB.out
                      exact ((hB.setCell hsz _).setCell hsz _).setCell hsz _
                    | false =>
                      have HL2 := Lib.hid (HT.out.trans (HL.out.1 (by simp)))
                      go_wp2_with fail
                      rw [show T = (0, 0, 0) from HL2.out]
                      refine bodyPost_ret (v := .agg #[.int .i64 (0), .int .i64 (0), .int .i64 (0)]) (by simp [results, Tryd.results69, go_sem, *]) rfl ⟨rfl, ?_⟩
                      have hB := HB.out
                      exact ((hB.setCell hsz _).setCell hsz _).setCell hsz _
end Go.Proofs.YtkjkgpdfhmoenaaDoor.Ref4
namespace Go.Proofs.YtkjkgpdfhmoenaaDoor.Ref5d
open Go Go.RowKit Go.Proofs.YtkjkgpdfhmoenaaDoor.Kit Go.Proofs.YtkjkgpdfhmoenaaDoor.SpFns Go.Proofs.YtkjkgpdfhmoenaaDoor.Dt Go.Proofs.YtkjkgpdfhmoenaaDoor.Ref5a Go.Proofs.YtkjkgpdfhmoenaaDoor.Ref5b Go.Proofs.YtkjkgpdfhmoenaaDoor.Ref5c
attribute [local irreducible] wpQuiet

theorem chk_1 {D : Dt} (h : 4096 < D.nm) : chk D = (4, 5, 4096) := by unfold chk; rw [if_pos h]
theorem chk_2 {D : Dt} (h : ¬ 4096 < D.nm) (h2 : D.nw ≠ D.nm) : chk D = (4, 4, min (D.nw : Int) (D.nm : Int)) := by unfold chk; rw [if_neg h, if_pos h2]
theorem chk_3 {D : Dt} (h : ¬ 4096 < D.nm) (h2 : D.nw = D.nm) (h3 : (chk4 D).1 ≠ 0) : chk D = chk4 D := by unfold chk; rw [if_neg h, if_neg (fun h' => h' h2), if_pos h3]
theorem chk_4 {D : Dt} (h : ¬ 4096 < D.nm) (h2 : D.nw = D.nm) (h3 : (chk4 D).1 = 0) (h4 : (fb (badW D) D.nw 0).2 ≠ 0) : chk D = fault 4 (fb (badW D) D.nw 0) := by unfold chk fault; rw [if_neg h, if_neg (fun h' => h' h2), if_neg (fun h' => h' h3), if_pos h4, if_pos h4]
theorem chk_5 {D : Dt} (h : ¬ 4096 < D.nm) (h2 : D.nw = D.nm) (h3 : (chk4 D).1 = 0) (h4 : (fb (badW D) D.nw 0).2 = 0) : chk D = fault 5 (fb (badM D) D.nm 0) := by unfold chk fault; rw [if_neg h, if_neg (fun h' => h' h2), if_neg (fun h' => h' h3), if_neg (fun h' => h' h4)]
theorem fault_1 (l : Int) (R : Int × Int) : (fault l R).1 = R.2 := by
  unfold fault
  split
  · rfl
  · rename_i h; have : R.2 = 0 := Classical.not_not.1 h
    exact this.symm

set_option maxHeartbeats 4000000 in
set_option maxRecDepth 100000 in
theorem Check_calls (D : Dt) (p : Pl) (w : World) (h : At w D p) :
    Calls Tryd.prog 51 #[.agg #[.slice p.a0 D.nw p.c0, .slice p.a1 D.nm p.c1, .slice p.a2 D.n0 p.c2, .slice p.a3 D.n1 p.c3, .slice p.a4 D.n2 p.c4]] w fun e w' => e = .returned (.agg #[.int .i64 (chk D).1, .int .i64 (chk D).2.1, .int .i64 (chk D).2.2]) ∧ Below w.heap.size w w' := by
  obtain ⟨T, hT⟩ : ∃ T, T = chk D := ⟨_, rfl⟩
  rw [← hT]
  have HT := Lib.hid hT
  have H := Lib.hid h
  have hbw := h.bw
  have hbm := h.bm
  clear h hT
  obtain ⟨W0, hW0⟩ : ∃ W0, w.alloc (.cells #[.slice p.a0 D.nw p.c0, .slice p.a1 D.nm p.c1, .slice p.a2 D.n0 p.c2, .slice p.a3 D.n1 p.c3, .slice p.a4 D.n2 p.c4] 26) = W0 := ⟨_, rfl⟩
  obtain ⟨hb0, hx0, ha0⟩ := boxed H.out hW0
  obtain ⟨W1, hW1⟩ : ∃ W1, W0.alloc (.cells #[.int .i64 0, .int .i64 0, .int .i64 0] 104) = W1 := ⟨_, rfl⟩
  have hb1 : Below W0.heap.size W0 W1 := by rw [← hW1]; exact (Below.refl _ _).alloc (Nat.le_refl _) _
  have HA := Lib.hid (ha0.below hb1)
  have HX := Lib.hid ((hb1.block _ (lt_of_heap hx0)).trans hx0)
  have HB := Lib.hid (chain hb0 hb1)
  have HR := Lib.hid (by rw [← hW1]; exact alloc_new rfl : W1.heap[W0.heap.size]? = some (.cells #[.int .i64 0, .int .i64 0, .int .i64 0] 104 (0, 0)))
  have hsz : w.heap.size ≤ W0.heap.size := hb0.size
  clear hb0 hx0 ha0 hb1
  obtain ⟨rb, hrb⟩ : ∃ rb, W0.heap.size = rb := ⟨_, rfl⟩
  rw [hrb] at HR hsz
  have b0 := cell_at HX.out 0
  have b1 := cell_at HX.out 1
  have b2 := cell_at HX.out 2
  have b3 := cell_at HX.out 3
  have b4 := cell_at HX.out 4
  have r0 := cell_at HR.out 0
  have q0 := free_at HR.out 0
  have r1 := cell_at HR.out 1
  have q1 := free_at HR.out 1
  have r2 := cell_at HR.out 2
  have q2 := free_at HR.out 2
  have zr := lt_of_heap HR.out
  have zx := lt_of_heap HX.out
  simp only [List.getElem?_toArray, List.getElem?_cons_zero, List.getElem?_cons_succ] at b0 b1 b2 b3 b4 r0 r1 r2
  by_cases h1 : 4096 < D.nm
  · have h1' : (4096 : Int) < D.nm := by omega
    have HL := Lib.hid (HT.out.trans (chk_1 h1))
    go_enter Tryd.func51, Tryd.ntmps51
    go_wp2_with fail
    rw [show T = (4, 5, 4096) from HL.out]
    refine bodyPost_ret (v := .agg #[.int .i64 (4), .int .i64 (5), .int .i64 (4096)]) (by simp [results, Tryd.results51, go_sem, *]) rfl ⟨rfl, ?_⟩
    have hB := HB.out
    repeat (first | exact hB | refine Below.setCell ?_ hsz _ | refine Below.setCell ?_ (by have := hB.size; simp; omega) _ | refine Below.alloc ?_ (by have := hB.size; simp; omega) _ )
  · have h1' : ¬ ((4096 : Int) < D.nm) := by omega
    by_cases h2 : D.nw = D.nm
    · have h2' : ((D.nw : Int) != (D.nm : Int)) = false := by simp; omega
      have H1 := Lib.hid h1
      have H2 := Lib.hid h2
      clear h1 h2
      have K4 := Lib.hid (fun W (h : At W D p) => Ref4.Check_calls D p W h)
      have K5 := Lib.hid (fun W (h : At W D p) => words_calls D p W h)
      have K6 := Lib.hid (fun W (h : At W D p) => merges_calls D p W h)
      have C3 := Lib.hid (fun (h : (chk4 D).1 ≠ 0) => HT.out.trans (chk_3 H1.out H2.out h))
      have C4 := Lib.hid (fun (h : (chk4 D).1 = 0) (h4 : (fault 4 (fb (badW D) D.nw 0)).1 ≠ 0) => HT.out.trans (chk_4 H1.out H2.out h (by rw [← fault_1 4]; exact h4)))
      have C5 := Lib.hid (fun (h : (chk4 D).1 = 0) (h4 : (fault 4 (fb (badW D) D.nw 0)).1 = 0) => HT.out.trans (chk_5 H1.out H2.out h (by rw [← fault_1 4]; exact h4)))
      generalize chk4 D = Q at K4 C3 C4 C5
      generalize fault 4 (fb (badW D) D.nw 0) = Y at K5 C4 C5
      generalize fault 5 (fb (badM D) D.nm 0) = Z at K6 C5
      obtain ⟨Q1, Q2, Q3⟩ := Q
      obtain ⟨Y1, Y2, Y3⟩ := Y
      obtain ⟨Z1, Z2, Z3⟩ := Z
      simp only at K4 K5 K6 C3 C4 C5
      go_enter Tryd.func51, Tryd.ntmps51
      go_wp2_with fail
      refine (K4.out _ HA.out).mono ?_
      rintro e W2 ⟨rfl, hb⟩
      clear hW0 hW1 hrb b0 b1 b2 b3 b4 r0 r1 r2 q0 q1 q2 zr zx
      have HA := Lib.hid (HA.out.below hb)
      have HX := Lib.hid ((hb.block _ (lt_of_heap HX.out)).trans HX.out)
      have HR := Lib.hid ((hb.block _ (lt_of_heap HR.out)).trans HR.out)
      have HB := Lib.hid (chain HB.out hb)
      have b0 := cell_at HX.out 0
      have b1 := cell_at HX.out 1
      have b2 := cell_at HX.out 2
      have b3 := cell_at HX.out 3
      have b4 := cell_at HX.out 4
      have r0 := cell_at HR.out 0
      have q0 := free_at HR.out 0
      have r1 := cell_at HR.out 1
      have q1 := free_at HR.out 1
      have r2 := cell_at HR.out 2
      have q2 := free_at HR.out 2
      have zr := lt_of_heap HR.out
      have zx := lt_of_heap HX.out
      simp only [List.getElem?_toArray, List.getElem?_cons_zero, List.getElem?_cons_succ] at b0 b1 b2 b3 b4 r0 r1 r2
      clear hb
      by_cases hq : Q1 = 0
      · have C4' := Lib.hid (C4.out hq)
        have C5' := Lib.hid (C5.out hq)
        clear C3 C4 C5
        subst hq
        go_wp2_with fail
        refine (K5.out _ (HA.out.below ((Below.refl _ _).alloc (Nat.le_refl _) _))).mono ?_
        rintro e W3 ⟨rfl, hb⟩
        clear b0 b1 b2 b3 b4 r0 r1 r2 q0 q1 q2 zr zx
        have hb' := chain ((Below.refl W2.heap.size W2).alloc (Nat.le_refl _) _) hb
        have HA := Lib.hid (HA.out.below hb')
        have HX := Lib.hid ((hb'.block _ (lt_of_heap HX.out)).trans HX.out)
        have HR := Lib.hid ((hb'.block _ (lt_of_heap HR.out)).trans HR.out)
        have HB := Lib.hid (chain HB.out hb')
        have b0 := cell_at HX.out 0
        have b1 := cell_at HX.out 1
        have b2 := cell_at HX.out 2
        have b3 := cell_at HX.out 3
        have b4 := cell_at HX.out 4
        have r0 := cell_at HR.out 0
        have q0 := free_at HR.out 0
        have r1 := cell_at HR.out 1
        have q1 := free_at HR.out 1
        have r2 := cell_at HR.out 2
        have q2 := free_at HR.out 2
        have zr := lt_of_heap HR.out
        have zx := lt_of_heap HX.out
        simp only [List.getElem?_toArray, List.getElem?_cons_zero, List.getElem?_cons_succ] at b0 b1 b2 b3 b4 r0 r1 r2
        clear hb hb'
        by_cases hy : Y1 = 0
        · have C6 := Lib.hid (C5'.out hy)
          subst hy
          clear C4' C5'
          go_wp2_with fail
          refine (K6.out _ (HA.out.below ((Below.refl _ _).alloc (Nat.le_refl _) _))).mono ?_
          rintro e W4 ⟨rfl, hb⟩
          clear b0 b1 b2 b3 b4 r0 r1 r2 q0 q1 q2 zr zx
          have hb' := chain ((Below.refl W3.heap.size W3).alloc (Nat.le_refl _) _) hb
          have HA := Lib.hid (HA.out.below hb')
          have HX := Lib.hid ((hb'.block _ (lt_of_heap HX.out)).trans HX.out)
          have HR := Lib.hid ((hb'.block _ (lt_of_heap HR.out)).trans HR.out)
          have HB := Lib.hid (chain HB.out hb')
          have b0 := cell_at HX.out 0
          have b1 := cell_at HX.out 1
          have b2 := cell_at HX.out 2
          have b3 := cell_at HX.out 3
          have b4 := cell_at HX.out 4
          have r0 := cell_at HR.out 0
          have q0 := free_at HR.out 0
          have r1 := cell_at HR.out 1
          have q1 := free_at HR.out 1
          have r2 := cell_at HR.out 2
          have q2 := free_at HR.out 2
          have zr := lt_of_heap HR.out
          have zx := lt_of_heap HX.out
          simp only [List.getElem?_toArray, List.getElem?_cons_zero, List.getElem?_cons_succ] at b0 b1 b2 b3 b4 r0 r1 r2
          clear hb hb'
          go_wp2_with fail
          rw [show T = (Z1, Z2, Z3) from C6.out]
          refine bodyPost_ret (v := .agg #[.int .i64 (Z1), .int .i64 (Z2), .int .i64 (Z3)]) (by simp [results, Tryd.results51, go_sem, *]) rfl ⟨rfl, ?_⟩
          have hB := HB.out
          repeat (first | exact hB | refine Below.setCell ?_ hsz _ | refine Below.setCell ?_ (by have := hB.size; simp; omega) _ | refine Below.alloc ?_ (by have := hB.size; simp; omega) _ )
        · have C6 := Lib.hid (C4'.out hy)
          have hy' : (Y1 != 0) = true := by simpa using hy
          clear C4' C5' hy
          go_wp2_with fail
          rw [show T = (Y1, Y2, Y3) from C6.out]
          refine bodyPost_ret (v := .agg #[.int .i64 (Y1), .int .i64 (Y2), .int .i64 (Y3)]) (by simp [results, Tryd.results51, go_sem, *]) rfl ⟨rfl, ?_⟩
          have hB := HB.out
          repeat (first | exact hB | refine Below.setCell ?_ hsz _ | refine Below.setCell ?_ (by have := hB.size; simp; omega) _ | refine Below.alloc ?_ (by have := hB.size; simp; omega) _ )
      · have C6 := Lib.hid (C3.out hq)
        have hq' : (Q1 != 0) = true := by simpa using hq
        clear C3 C4 C5 hq
        go_wp2_with fail
        rw [show T = (Q1, Q2, Q3) from C6.out]
        refine bodyPost_ret (v := .agg #[.int .i64 (Q1), .int .i64 (Q2), .int .i64 (Q3)]) (by simp [results, Tryd.results51, go_sem, *]) rfl ⟨rfl, ?_⟩
        have hB := HB.out
        repeat (first | exact hB | refine Below.setCell ?_ hsz _ | refine Below.setCell ?_ (by have := hB.size; simp; omega) _ | refine Below.alloc ?_ (by have := hB.size; simp; omega) _ )
    · have h2' : ((D.nw : Int) != (D.nm : Int)) = true := by simp; omega
      have HL := Lib.hid (HT.out.trans (chk_2 h1 h2))
      clear h2
      by_cases h3 : D.nm < D.nw
      · have h3' : (D.nm : Int) < D.nw := by omega
        have HL2 := Lib.hid (HL.out.trans (by rw [Int.min_eq_right (by omega)]) : T = (4, 4, (D.nm : Int)))
        go_enter Tryd.func51, Tryd.ntmps51
        go_wp2_with fail
        rw [show T = (4, 4, (D.nm : Int)) from HL2.out]
        refine bodyPost_ret (v := .agg #[.int .i64 (4), .int .i64 (4), .int .i64 ((D.nm : Int))]) (by simp [results, Tryd.results51, go_sem, *]) rfl ⟨rfl, ?_⟩
        have hB := HB.out
        repeat (first | exact hB | refine Below.setCell ?_ hsz _ | refine Below.setCell ?_ (by have := hB.size; simp; omega) _ | refine Below.alloc ?_ (by have := hB.size; simp; omega) _ )
      · have h3' : ¬ ((D.nm : Int) < D.nw) := by omega
        have HL2 := Lib.hid (HL.out.trans (by rw [Int.min_eq_left (by omega)]) : T = (4, 4, (D.nw : Int)))
        go_enter Tryd.func51, Tryd.ntmps51
        go_wp2_with fail
        rw [show T = (4, 4, (D.nw : Int)) from HL2.out]
        refine bodyPost_ret (v := .agg #[.int .i64 (4), .int .i64 (4), .int .i64 ((D.nw : Int))]) (by simp [results, Tryd.results51, go_sem, *]) rfl ⟨rfl, ?_⟩
        have hB := HB.out
        repeat (first | exact hB | refine Below.setCell ?_ hsz _ | refine Below.setCell ?_ (by have := hB.size; simp; omega) _ | refine Below.alloc ?_ (by have := hB.size; simp; omega) _ )
end Go.Proofs.YtkjkgpdfhmoenaaDoor.Ref5d
