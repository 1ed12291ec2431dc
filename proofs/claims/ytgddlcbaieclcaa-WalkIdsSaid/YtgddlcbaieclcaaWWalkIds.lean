/-
  The walk of the law WalkIds.
-/
import Derived.Test.YtgddlcbaieclcaaWalkIds
import Derived.Test.YtgddlcbaieclcaaWalkKnown
import Derived.Test.YtgddlcbaieclcaaKeep
import Derived.Test.YtgddlcbaieclcaaRoomInt
import Derived.Test.YtgddlcbaieclcaaRowInt
namespace Go.Proofs.Ytgddlcbaieclcaa.walkIds
open Go Go.RowKit Go.Proofs.Ytgddlcbaieclcaa.WalkNum Go.Proofs.Ytgddlcbaieclcaa.WalkFns Go.Proofs.Ytgddlcbaieclcaa.Kit Go.Proofs.Ytgddlcbaieclcaa.Dt Go.Proofs.Ytgddlcbaieclcaa.MoNew Go.Proofs.Ytgddlcbaieclcaa.Good Go.Proofs.Ytgddlcbaieclcaa.Keep Go.Proofs.Ytgddlcbaieclcaa.SameInt Go.Proofs.Ytgddlcbaieclcaa.RoomInt Go.Proofs.Ytgddlcbaieclcaa.RowInt Go.Proofs.Ytgddlcbaieclcaa.WalkIds
attribute [local irreducible] wpQuiet

theorem ext_lt {n : Nat} {F : Nat → Int} {l : Int} : ∀ i, i < n → ext n F l i = F i := fun i hi => by simp [ext, hi]

set_option maxHeartbeats 4000000 in
set_option maxRecDepth 100000 in
theorem walk (D : Dt) (p : Pl) (a : Option Addr) (len cap : Nat) (zs : List Int) (w : World) (hA : At w D p) (hr : IsRow .i64 w a len cap zs) (hl : len ≤ 35184372088832) :
    Calls Try.prog 17 #[.agg #[.slice p.a0 D.nw p.c0, .slice p.a1 D.nm p.c1, .slice p.a2 D.n0 p.c2, .slice p.a3 D.n1 p.c3, .slice p.a4 D.n2 p.c4], .slice a len cap] w fun e w' => e = .returned (.bool true) ∧ Below w.heap.size w w' := by
  obtain ⟨hr1, hr2⟩ := row_of hr
  have hcap : len ≤ cap := by
    rcases hr with ⟨_, rfl, rfl, _⟩ | ⟨_, _, h, _⟩
    · exact Nat.le_refl _
    · exact h
  obtain ⟨F, hF⟩ : ∃ F : Nat → Int, (fun i => zs.getD i 0) = F := ⟨_, rfl⟩
  have hF' : ∀ i, zs.getD i 0 = F i := fun i => by rw [← hF]
  rw [hF] at hr1
  simp only [hF'] at hr2
  have H := Lib.hid hA
  have HR := Lib.hid hr1
  have HI := Lib.hid hr2
  clear hA hr hr1 hr2 hF hF'
  obtain ⟨W1, hW1⟩ : ∃ W1, w.alloc (.cells #[.slice p.a0 D.nw p.c0, .slice p.a1 D.nm p.c1, .slice p.a2 D.n0 p.c2, .slice p.a3 D.n1 p.c3, .slice p.a4 D.n2 p.c4] 107) = W1 := ⟨_, rfl⟩
  obtain ⟨hb1, hx1, ha1⟩ := Ref5a.boxed H.out hW1
  obtain ⟨xb, hxb⟩ : ∃ b, w.heap.size = b := ⟨_, rfl⟩
  rw [hxb] at hx1
  have HX := Lib.hid hx1
  have HA := Lib.hid ha1
  have HB := Lib.hid hb1
  have HR := Lib.hid (HR.out.below hb1)
  clear H hx1 ha1 hb1
  have b0 := cell_at HX.out 0
  have b1 := cell_at HX.out 1
  have b2 := cell_at HX.out 2
  have b3 := cell_at HX.out 3
  have b4 := cell_at HX.out 4
  have bz := lt_of_heap HX.out
  simp only [List.getElem?_toArray, List.getElem?_cons_zero, List.getElem?_cons_succ] at b0 b1 b2 b3 b4
  go_enter Try.func17, Try.ntmps17
  go_wp2_with fail
  refine (Of_calls D p W1 HA.out).mono ?_
  clear hW1 hxb b0 b1 b2 b3 b4 bz
  rintro e W2 (⟨rfl, hb⟩ | ⟨mb, rfl, hm, hmb, hb, h300⟩)
  · have HB := Lib.hid (chain HB.out hb)
    clear hb
    go_wp2_with fail
    refine (known_calls W2).mono ?_
    rintro e W3 ⟨rfl, hb⟩
    have HB := Lib.hid (chain HB.out hb)
    clear hb
    go_wp2_with fail
    go_ret
    exact ⟨rfl, HB.out⟩
  have HM := Lib.hid hm
  have HR := Lib.hid (HR.out.below hb)
  have HB := Lib.hid (chain HB.out hb)
  clear hb hm hmb h300 HX HA
  by_cases h2 : 200 < len
  · have h2' : (200 : Int) < len := by omega
    have hc2 : (200 : Int) ≤ cap := by omega
    go_wp2_with fail
    obtain ⟨n, hn⟩ : ∃ n : Nat, 200 = n := ⟨_, rfl⟩
    rw [hn]
    have hn2 : n ≤ 200 := by omega
    have HRN := Lib.hid (HR.out.mono (len' := n) (by omega))
    have HIN := Lib.hid (fun i (hi : i < n) => HI.out i (by omega))
    clear HR HI h2 h2' hc2 hcap hl hn
    refine (Roomy_calls a n cap F (-7) W2 HRN.out (by omega)).mono ?_
    rintro e V3 ⟨fb, hfb, rfl, hrow, hb3⟩
    have HF := Lib.hid hrow
    have HM := Lib.hid (HM.out.below hb3)
    have HRN := Lib.hid (HRN.out.below hb3)
    have HB := Lib.hid (chain HB.out hb3)
    clear hrow hb3 hfb
    go_wp2_with fail
    have hIds := Ids_calls V3 mb D HM.out (some ⟨fb, 0, none⟩) n (n + 80) (ext n F (-7)) (HF.out.mono (by omega)) (by omega) (fun i hi => by rw [ext_lt i hi]; exact HIN.out i hi)
    have e1 : upto D (ext n F (-7)) n = upto D F n := upto_cong ext_lt
    rw [e1] at hIds
    have e2 : wkT D (ext n F (-7)) (upto D F n) = wkT D F (upto D F n) := by
      have := upto_le D F n
      unfold wkT
      rw [txt_cong (fun i hi => ext_lt i (by omega))]
    rw [e2] at hIds
    obtain ⟨R, hR⟩ : ∃ R, upto D F n = R := ⟨_, rfl⟩
    rw [hR] at hIds
    have HRR := Lib.hid hR
    have hRn : R ≤ n := by rw [← hR]; exact upto_le D F n
    have HIDS := Lib.hid hIds
    unfold WB.val at HIDS
    have HZ := Lib.hid (txt_size (of_mod HM.out) F R)
    clear e1 e2 hR hIds
    refine HIDS.out.mono ?_
    rintro e W4 ⟨rfl, hb4⟩
    have HF := Lib.hid (HF.out.below hb4)
    have HM := Lib.hid (HM.out.below hb4)
    have HRN := Lib.hid (HRN.out.below hb4)
    have HB := Lib.hid (chain HB.out hb4)
    clear hb4 HIDS
    obtain ⟨W5, hW5⟩ : ∃ Xz, W4.alloc (.cells #[.int .i64 (wkT D F R).t, .complex .f64 (wkT D F R).p (wkT D F R).q] 29) = Xz := ⟨_, rfl⟩
    obtain ⟨wb, hwb⟩ : ∃ xz, W4.heap.size = xz := ⟨_, rfl⟩
    have hb5 : Below W4.heap.size W4 W5 := by rw [← hW5]; exact (Below.refl _ _).alloc (Nat.le_refl _) _
    have HW := Lib.hid (by rw [← hW5, ← hwb]; exact alloc_new rfl : W5.heap[wb]? = some (.cells #[.int .i64 (wkT D F R).t, .complex .f64 (wkT D F R).p (wkT D F R).q] 29 (0, 0)))
    have EW5 := Lib.hid hW5
    have Ewb := Lib.hid hwb
    clear hW5 hwb
    have HF := Lib.hid (HF.out.below hb5)
    have HM := Lib.hid (HM.out.below hb5)
    have HRN := Lib.hid (HRN.out.below hb5)
    have HB := Lib.hid (chain HB.out hb5)
    clear hb5
    go_wp2_with fail
    rw [EW5.out, Ewb.out]
    go_loopg [11, 12, 13, 14] n (fun g s11 s12 s13 s14 wr => ∃ k : Nat, k ≤ n ∧ g = n - k ∧ s12 = .int .i64 k ∧ s11 = .string (txt D F k) ∧ upto D F k = k ∧ Below W5.heap.size W5 wr)
    case atStart => exact ⟨0, Nat.zero_le _, by omega, rfl, rfl, rfl, Below.refl _ _⟩
    case round =>
      obtain ⟨k, hk, hg, rfl, rfl, hu, hbw⟩ := hrel
      have HG := Lib.hid hg
      have HU := Lib.hid hu
      have HBB := Lib.hid hbw
      clear hg hu
      by_cases hlt : k < n
      · obtain ⟨b, o, rfl, hbl, hc⟩ := (HRN.out.below hbw).at hlt
        have c0 := hc k hlt
        have hi : (k : Int) < n := by omega
        have hid := HIN.out k hlt
        obtain ⟨id, hidd⟩ : ∃ id, F k = id := ⟨_, rfl⟩
        rw [hidd] at c0 hid
        have HID := Lib.hid hidd
        clear hc hidd hbw
        go_wp2_with fail
        refine (Word_mod (HM.out.below HBB.out) id hid).mono ?_
        rintro e W6 ⟨rfl, hb⟩
        have HBB := Lib.hid (chain HBB.out hb)
        clear hb c0 hbl
        by_cases hkn : isId D id
        · have HN := Lib.hid (upto_succ HU.out (HID.out.symm ▸ hkn))
          have hd : decide (isId D id) = true := decide_eq_true hkn
          have HS := Lib.hid (show txt D F k ++ word D (F k) = txt D F (k + 1) from rfl)
          rw [HID.out] at HS
          have hw := (of_mod HM.out).word_le id
          have hz := txt_size (of_mod HM.out) F k
          obtain ⟨s, hs⟩ : ∃ s, word D id = s := ⟨_, rfl⟩
          obtain ⟨t, ht⟩ : ∃ t, txt D F k = t := ⟨_, rfl⟩
          rw [hs, ht] at HS
          rw [hs] at hw ⊢
          rw [ht] at hz ⊢
          have hadd : ∀ w, (Op.stringOp .add t s).run Try.prog w = .ok (.string (t ++ s)) w := fun w => run_string_add_sum w t s (by omega)
          clear hkn hs ht
          go_wp2_with fail
          rw [HS.out]
          go_roundg (gk - 1)
          case measure => have := HG.out; omega
          case rel => exact ⟨k + 1, by omega, by have := HG.out; omega, by go_num, rfl, HN.out, HBB.out⟩
        · have hd : decide (isId D id) = false := decide_eq_false hkn
          have hN := upto_stop HU.out (by rw [HID.out]; exact hkn) n hlt
          obtain rfl : R = k := by rw [← hN]; exact HRR.out.symm
          clear hkn hN
          have hsz := HZ.out
          have hlen : (txt D F R).data.toList.length = (txt D F R).size := by simp
          have hwl := wk_le W0 (txt D F R).data.toList
          have hx0 : W0.x.natAbs = 0 := rfl
          have hy0 : W0.y.natAbs = 0 := rfl
          have i1 : IsB (wkT D F R) (wk W0 (txt D F R).data.toList) := wkB_is B0_is _ (by omega) (by omega)
          have K1 := Lib.hid (fun w => is_yes i1 w)
          have K2 := Lib.hid (fun w => refOf_calls (txt D F R) (by omega) w)
          have K3 := Lib.hid (fun (x : Later W6) => Intact_calls fb _ n cap F (-7) x.w (HF.out.below (chain HBB.out x.h)) (HRN.out.below (chain HBB.out x.h)) (by omega))
          have HW := Lib.hid ((HBB.out.block _ (lt_of_heap HW.out)).trans HW.out)
          have HB := Lib.hid (chain HB.out HBB.out)
          unfold WB.val WalkFns.W3.val at K1
          unfold WalkFns.W3.val at K2
          clear i1 hsz hlen hwl hx0 hy0
          have c0 := cell_at HW.out 0
          have c1 := cell_at HW.out 1
          have cz := lt_of_heap HW.out
          simp only [List.getElem?_toArray, List.getElem?_cons_zero, List.getElem?_cons_succ] at c0 c1
          obtain ⟨at1, hat1⟩ : ∃ z, wkT D F R = z := ⟨_, rfl⟩
          obtain ⟨at2, hat2⟩ : ∃ z, wk W0 (txt D F R).data.toList = z := ⟨_, rfl⟩
          obtain ⟨tx, htx⟩ : ∃ z, txt D F R = z := ⟨_, rfl⟩
          rw [hat1] at c0 c1
          rw [hat1, hat2] at K1
          rw [htx] at hat2
          rw [htx, hat2] at K2
          clear hat1 hat2
          rw [htx]
          clear htx
          go_wp2_with fail
          refine region_later 17 (by kernel_rfl) (by kernel_rfl) ?_
          simp only [List.take_succ_cons, List.take_zero, List.drop_succ_cons, List.drop_zero]
          repeat (quiet_step ((first | exact later_call (K2.out _)|exact later_call (K1.out _)|exact later_call (K3.out _)|exact later_call (known_calls _))))
          refine wpQuiet_nil ?_
          intro x
          go_wp2
          go_ret
          exact ⟨rfl, chain HB.out x.h⟩
      · have hkn : k = n := by omega
        obtain rfl : R = k := by rw [← HU.out, hkn]; exact HRR.out.symm
        have hi : ¬ ((R : Int) < n) := by omega
        clear hbw hkn
        have hsz := HZ.out
        have hlen : (txt D F R).data.toList.length = (txt D F R).size := by simp
        have hwl := wk_le W0 (txt D F R).data.toList
        have hx0 : W0.x.natAbs = 0 := rfl
        have hy0 : W0.y.natAbs = 0 := rfl
        have i1 : IsB (wkT D F R) (wk W0 (txt D F R).data.toList) := wkB_is B0_is _ (by omega) (by omega)
        have K1 := Lib.hid (fun w => is_yes i1 w)
        have K2 := Lib.hid (fun w => refOf_calls (txt D F R) (by omega) w)
        have K3 := Lib.hid (fun (x : Later wr) => Intact_calls fb _ n cap F (-7) x.w (HF.out.below (chain HBB.out x.h)) (HRN.out.below (chain HBB.out x.h)) (by omega))
        have HW := Lib.hid ((HBB.out.block _ (lt_of_heap HW.out)).trans HW.out)
        have HB := Lib.hid (chain HB.out HBB.out)
        unfold WB.val WalkFns.W3.val at K1
        unfold WalkFns.W3.val at K2
        clear i1 hsz hlen hwl hx0 hy0
        have c0 := cell_at HW.out 0
        have c1 := cell_at HW.out 1
        have cz := lt_of_heap HW.out
        simp only [List.getElem?_toArray, List.getElem?_cons_zero, List.getElem?_cons_succ] at c0 c1
        obtain ⟨at1, hat1⟩ : ∃ z, wkT D F R = z := ⟨_, rfl⟩
        obtain ⟨at2, hat2⟩ : ∃ z, wk W0 (txt D F R).data.toList = z := ⟨_, rfl⟩
        obtain ⟨tx, htx⟩ : ∃ z, txt D F R = z := ⟨_, rfl⟩
        rw [hat1] at c0 c1
        rw [hat1, hat2] at K1
        rw [htx] at hat2
        rw [htx, hat2] at K2
        clear hat1 hat2
        rw [htx]
        clear htx
        go_wp2_with fail
        refine region_later 17 (by kernel_rfl) (by kernel_rfl) ?_
        simp only [List.take_succ_cons, List.take_zero, List.drop_succ_cons, List.drop_zero]
        repeat (quiet_step ((first | exact later_call (K2.out _)|exact later_call (K1.out _)|exact later_call (K3.out _)|exact later_call (known_calls _))))
        refine wpQuiet_nil ?_
        intro x
        go_wp2
        go_ret
        exact ⟨rfl, chain HB.out x.h⟩
  · have h2' : ¬ ((200 : Int) < len) := by omega
    go_wp2_with fail
    obtain ⟨n, rfl⟩ : ∃ n : Nat, n = len := ⟨_, rfl⟩
    have hn2 : n ≤ 200 := by omega
    have HRN := Lib.hid HR.out
    have HIN := Lib.hid HI.out
    clear HR HI h2 h2' hcap hl
    refine (Roomy_calls a n cap F (-7) W2 HRN.out (by omega)).mono ?_
    rintro e V3 ⟨fb, hfb, rfl, hrow, hb3⟩
    have HF := Lib.hid hrow
    have HM := Lib.hid (HM.out.below hb3)
    have HRN := Lib.hid (HRN.out.below hb3)
    have HB := Lib.hid (chain HB.out hb3)
    clear hrow hb3 hfb
    go_wp2_with fail
    have hIds := Ids_calls V3 mb D HM.out (some ⟨fb, 0, none⟩) n (n + 80) (ext n F (-7)) (HF.out.mono (by omega)) (by omega) (fun i hi => by rw [ext_lt i hi]; exact HIN.out i hi)
    have e1 : upto D (ext n F (-7)) n = upto D F n := upto_cong ext_lt
    rw [e1] at hIds
    have e2 : wkT D (ext n F (-7)) (upto D F n) = wkT D F (upto D F n) := by
      have := upto_le D F n
      unfold wkT
      rw [txt_cong (fun i hi => ext_lt i (by omega))]
    rw [e2] at hIds
    obtain ⟨R, hR⟩ : ∃ R, upto D F n = R := ⟨_, rfl⟩
    rw [hR] at hIds
    have HRR := Lib.hid hR
    have hRn : R ≤ n := by rw [← hR]; exact upto_le D F n
    have HIDS := Lib.hid hIds
    unfold WB.val at HIDS
    have HZ := Lib.hid (txt_size (of_mod HM.out) F R)
    clear e1 e2 hR hIds
    refine HIDS.out.mono ?_
    rintro e W4 ⟨rfl, hb4⟩
    have HF := Lib.hid (HF.out.below hb4)
    have HM := Lib.hid (HM.out.below hb4)
    have HRN := Lib.hid (HRN.out.below hb4)
    have HB := Lib.hid (chain HB.out hb4)
    clear hb4 HIDS
    obtain ⟨W5, hW5⟩ : ∃ Xz, W4.alloc (.cells #[.int .i64 (wkT D F R).t, .complex .f64 (wkT D F R).p (wkT D F R).q] 29) = Xz := ⟨_, rfl⟩
    obtain ⟨wb, hwb⟩ : ∃ xz, W4.heap.size = xz := ⟨_, rfl⟩
    have hb5 : Below W4.heap.size W4 W5 := by rw [← hW5]; exact (Below.refl _ _).alloc (Nat.le_refl _) _
    have HW := Lib.hid (by rw [← hW5, ← hwb]; exact alloc_new rfl : W5.heap[wb]? = some (.cells #[.int .i64 (wkT D F R).t, .complex .f64 (wkT D F R).p (wkT D F R).q] 29 (0, 0)))
    have EW5 := Lib.hid hW5
    have Ewb := Lib.hid hwb
    clear hW5 hwb
    have HF := Lib.hid (HF.out.below hb5)
    have HM := Lib.hid (HM.out.below hb5)
    have HRN := Lib.hid (HRN.out.below hb5)
    have HB := Lib.hid (chain HB.out hb5)
    clear hb5
    go_wp2_with fail
    rw [EW5.out, Ewb.out]
    go_loopg [11, 12, 13, 14] n (fun g s11 s12 s13 s14 wr => ∃ k : Nat, k ≤ n ∧ g = n - k ∧ s12 = .int .i64 k ∧ s11 = .string (txt D F k) ∧ upto D F k = k ∧ Below W5.heap.size W5 wr)
    case atStart => exact ⟨0, Nat.zero_le _, by omega, rfl, rfl, rfl, Below.refl _ _⟩
    case round =>
      obtain ⟨k, hk, hg, rfl, rfl, hu, hbw⟩ := hrel
      have HG := Lib.hid hg
      have HU := Lib.hid hu
      have HBB := Lib.hid hbw
      clear hg hu
      by_cases hlt : k < n
      · obtain ⟨b, o, rfl, hbl, hc⟩ := (HRN.out.below hbw).at hlt
        have c0 := hc k hlt
        have hi : (k : Int) < n := by omega
        have hid := HIN.out k hlt
        obtain ⟨id, hidd⟩ : ∃ id, F k = id := ⟨_, rfl⟩
        rw [hidd] at c0 hid
        have HID := Lib.hid hidd
        clear hc hidd hbw
        go_wp2_with fail
        refine (Word_mod (HM.out.below HBB.out) id hid).mono ?_
        rintro e W6 ⟨rfl, hb⟩
        have HBB := Lib.hid (chain HBB.out hb)
        clear hb c0 hbl
        by_cases hkn : isId D id
        · have HN := Lib.hid (upto_succ HU.out (HID.out.symm ▸ hkn))
          have hd : decide (isId D id) = true := decide_eq_true hkn
          have HS := Lib.hid (show txt D F k ++ word D (F k) = txt D F (k + 1) from rfl)
          rw [HID.out] at HS
          have hw := (of_mod HM.out).word_le id
          have hz := txt_size (of_mod HM.out) F k
          obtain ⟨s, hs⟩ : ∃ s, word D id = s := ⟨_, rfl⟩
          obtain ⟨t, ht⟩ : ∃ t, txt D F k = t := ⟨_, rfl⟩
          rw [hs, ht] at HS
          rw [hs] at hw ⊢
          rw [ht] at hz ⊢
          have hadd : ∀ w, (Op.stringOp .add t s).run Try.prog w = .ok (.string (t ++ s)) w := fun w => run_string_add_sum w t s (by omega)
          clear hkn hs ht
          go_wp2_with fail
          rw [HS.out]
          go_roundg (gk - 1)
          case measure => have := HG.out; omega
          case rel => exact ⟨k + 1, by omega, by have := HG.out; omega, by go_num, rfl, HN.out, HBB.out⟩
        · have hd : decide (isId D id) = false := decide_eq_false hkn
          have hN := upto_stop HU.out (by rw [HID.out]; exact hkn) n hlt
          obtain rfl : R = k := by rw [← hN]; exact HRR.out.symm
          clear hkn hN
          have hsz := HZ.out
          have hlen : (txt D F R).data.toList.length = (txt D F R).size := by simp
          have hwl := wk_le W0 (txt D F R).data.toList
          have hx0 : W0.x.natAbs = 0 := rfl
          have hy0 : W0.y.natAbs = 0 := rfl
          have i1 : IsB (wkT D F R) (wk W0 (txt D F R).data.toList) := wkB_is B0_is _ (by omega) (by omega)
          have K1 := Lib.hid (fun w => is_yes i1 w)
          have K2 := Lib.hid (fun w => refOf_calls (txt D F R) (by omega) w)
          have K3 := Lib.hid (fun (x : Later W6) => Intact_calls fb _ n cap F (-7) x.w (HF.out.below (chain HBB.out x.h)) (HRN.out.below (chain HBB.out x.h)) (by omega))
          have HW := Lib.hid ((HBB.out.block _ (lt_of_heap HW.out)).trans HW.out)
          have HB := Lib.hid (chain HB.out HBB.out)
          unfold WB.val WalkFns.W3.val at K1
          unfold WalkFns.W3.val at K2
          clear i1 hsz hlen hwl hx0 hy0
          have c0 := cell_at HW.out 0
          have c1 := cell_at HW.out 1
          have cz := lt_of_heap HW.out
          simp only [List.getElem?_toArray, List.getElem?_cons_zero, List.getElem?_cons_succ] at c0 c1
          obtain ⟨at1, hat1⟩ : ∃ z, wkT D F R = z := ⟨_, rfl⟩
          obtain ⟨at2, hat2⟩ : ∃ z, wk W0 (txt D F R).data.toList = z := ⟨_, rfl⟩
          obtain ⟨tx, htx⟩ : ∃ z, txt D F R = z := ⟨_, rfl⟩
          rw [hat1] at c0 c1
          rw [hat1, hat2] at K1
          rw [htx] at hat2
          rw [htx, hat2] at K2
          clear hat1 hat2
          rw [htx]
          clear htx
          go_wp2_with fail
          refine region_later 17 (by kernel_rfl) (by kernel_rfl) ?_
          simp only [List.take_succ_cons, List.take_zero, List.drop_succ_cons, List.drop_zero]
          repeat (quiet_step ((first | exact later_call (K2.out _)|exact later_call (K1.out _)|exact later_call (K3.out _)|exact later_call (known_calls _))))
          refine wpQuiet_nil ?_
          intro x
          go_wp2
          go_ret
          exact ⟨rfl, chain HB.out x.h⟩
      · have hkn : k = n := by omega
        obtain rfl : R = k := by rw [← HU.out, hkn]; exact HRR.out.symm
        have hi : ¬ ((R : Int) < n) := by omega
        clear hbw hkn
        have hsz := HZ.out
        have hlen : (txt D F R).data.toList.length = (txt D F R).size := by simp
        have hwl := wk_le W0 (txt D F R).data.toList
        have hx0 : W0.x.natAbs = 0 := rfl
        have hy0 : W0.y.natAbs = 0 := rfl
        have i1 : IsB (wkT D F R) (wk W0 (txt D F R).data.toList) := wkB_is B0_is _ (by omega) (by omega)
        have K1 := Lib.hid (fun w => is_yes i1 w)
        have K2 := Lib.hid (fun w => refOf_calls (txt D F R) (by omega) w)
        have K3 := Lib.hid (fun (x : Later wr) => Intact_calls fb _ n cap F (-7) x.w (HF.out.below (chain HBB.out x.h)) (HRN.out.below (chain HBB.out x.h)) (by omega))
        have HW := Lib.hid ((HBB.out.block _ (lt_of_heap HW.out)).trans HW.out)
        have HB := Lib.hid (chain HB.out HBB.out)
        unfold WB.val WalkFns.W3.val at K1
        unfold WalkFns.W3.val at K2
        clear i1 hsz hlen hwl hx0 hy0
        have c0 := cell_at HW.out 0
        have c1 := cell_at HW.out 1
        have cz := lt_of_heap HW.out
        simp only [List.getElem?_toArray, List.getElem?_cons_zero, List.getElem?_cons_succ] at c0 c1
        obtain ⟨at1, hat1⟩ : ∃ z, wkT D F R = z := ⟨_, rfl⟩
        obtain ⟨at2, hat2⟩ : ∃ z, wk W0 (txt D F R).data.toList = z := ⟨_, rfl⟩
        obtain ⟨tx, htx⟩ : ∃ z, txt D F R = z := ⟨_, rfl⟩
        rw [hat1] at c0 c1
        rw [hat1, hat2] at K1
        rw [htx] at hat2
        rw [htx, hat2] at K2
        clear hat1 hat2
        rw [htx]
        clear htx
        go_wp2_with fail
        refine region_later 17 (by kernel_rfl) (by kernel_rfl) ?_
        simp only [List.take_succ_cons, List.take_zero, List.drop_succ_cons, List.drop_zero]
        repeat (quiet_step ((first | exact later_call (K2.out _)|exact later_call (K1.out _)|exact later_call (K3.out _)|exact later_call (known_calls _))))
        refine wpQuiet_nil ?_
        intro x
        go_wp2
        go_ret
        exact ⟨rfl, chain HB.out x.h⟩
end Go.Proofs.Ytgddlcbaieclcaa.walkIds
