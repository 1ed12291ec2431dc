/-
  The walk of the law SpansMeets.
-/
import Derived.Test.YtgddlcbaieclcaaSpMeet
import Derived.Test.YtgddlcbaieclcaaSpRef
namespace Go.Proofs.Ytgddlcbaieclcaa.spansMeets
open Go Go.RowKit Go.Proofs.Ytgddlcbaieclcaa.Kit Go.Proofs.Ytgddlcbaieclcaa.SpFns Go.Proofs.Ytgddlcbaieclcaa.SpRight Go.Proofs.Ytgddlcbaieclcaa.SpFind Go.Proofs.Ytgddlcbaieclcaa.SpSize Go.Proofs.Ytgddlcbaieclcaa.SpKnown Go.Proofs.Ytgddlcbaieclcaa.SpLists Go.Proofs.Ytgddlcbaieclcaa.SpMeet Go.Proofs.Ytgddlcbaieclcaa.SpRef
attribute [local irreducible] wpQuiet

theorem fr_snd (p : Nat → Bool) : ∀ (n i : Nat), ((fr p n i).2 = true ↔ ∃ k, i ≤ k ∧ k < i + n ∧ p k = true)
  | 0, i => Iff.intro (fun h => (by cases h)) (fun ⟨k, h1, h2, _⟩ => by omega)
  | n + 1, i => by
    rw [fr]
    by_cases h : p i = true
    · rw [if_pos h]
      exact ⟨fun _ => ⟨i, Nat.le_refl _, by omega, h⟩, fun _ => rfl⟩
    · rw [if_neg h, fr_snd p n (i + 1)]
      refine ⟨fun ⟨k, h1, h2, h3⟩ => ⟨k, by omega, by omega, h3⟩, fun ⟨k, h1, h2, h3⟩ => ?_⟩
      rcases Nat.eq_or_lt_of_le h1 with rfl | h4
      · exact absurd h3 h
      · exact ⟨k, h4, by omega, h3⟩

theorem fr_both (L H L' H' : Nat → Int) (la lb : Nat) : (fr (hit L H L' H' lb) la 0).2 = (fr (hit L' H' L H la) lb 0).2 := by
  rw [Bool.eq_iff_iff, fr_snd, fr_snd]
  constructor
  · rintro ⟨k, _, h2, h3⟩
    obtain ⟨j, h4, h5, h6⟩ := of_decide_eq_true h3
    exact ⟨j, by omega, by omega, decide_eq_true ⟨k, by omega, by omega, by omega⟩⟩
  · rintro ⟨k, _, h2, h3⟩
    obtain ⟨j, h4, h5, h6⟩ := of_decide_eq_true h3
    exact ⟨j, by omega, by omega, decide_eq_true ⟨k, by omega, by omega, by omega⟩⟩

theorem fr_rune {L H L' H' : Nat → Int} {la lb : Nat} {r : Int} (h1 : InD L H la r = true) (h2 : InD L' H' lb r = true) : (fr (hit L H L' H' lb) la 0).2 = true := by
  obtain ⟨_, i, hi, h3, h4⟩ := of_decide_eq_true h1
  obtain ⟨_, j, hj, h5, h6⟩ := of_decide_eq_true h2
  exact (fr_snd _ _ _).2 ⟨i, by omega, by omega, decide_eq_true ⟨j, hj, by omega, by omega⟩⟩

set_option maxHeartbeats 1000000 in
set_option maxRecDepth 100000 in
theorem walk (a : Option Addr) (la ca : Nat) (L H : Nat → Int) (b : Option Addr) (lb cb : Nat) (L' H' : Nat → Int) (c : Option Addr) (lc cc : Nat) (zs : List Int) (w : World) (hra : Row w a la L H) (hla : la ≤ 17592186044416) (hrb : Row w b lb L' H') (hlb : lb ≤ 17592186044416) (hrc : IsRow .i32 w c lc cc zs) (hlc : lc ≤ 35184372088832) :
    Calls Try.prog 15 #[.slice a la ca, .slice b lb cb, .slice c lc cc] w fun e w' => e = .returned (.bool true) ∧ Below w.heap.size w w' := by
  have HA := Lib.hid hra
  have HB := Lib.hid hrb
  have HC := Lib.hid hrc
  clear hra hrb hrc
  obtain ⟨ra, hra⟩ : ∃ ra, ra = rt L H la 0 := ⟨_, rfl⟩
  obtain ⟨rb, hrb⟩ : ∃ rb, rb = rt L' H' lb 0 := ⟨_, rfl⟩
  have RA := Lib.hid (fun w (h : Row w a la L H) => refRight_calls a la ca L H w h (by omega))
  have RB := Lib.hid (fun w (h : Row w b lb L' H') => refRight_calls b lb cb L' H' w h (by omega))
  rw [← hra] at RA
  rw [← hrb] at RB
  have EA := Lib.hid hra
  have EB := Lib.hid hrb
  clear hra hrb
  go_enter Try.func15, Try.ntmps15
  go_wp2_with fail
  refine (RA.out w HA.out).mono ?_
  rintro e w1 ⟨rfl, hb⟩
  have HB1 := Lib.hid hb
  clear hb
  go_wp2_with fail
  refine (RB.out w1 (HB.out.below HB1.out)).mono ?_
  rintro e w2 ⟨rfl, hb⟩
  have HB2 := Lib.hid (chain HB1.out hb)
  clear hb
  by_cases ha : ra.2 = 0
  · by_cases hb : rb.2 = 0
    · have ta : Rt L H la := Rt.of (by rw [← EA.out]; exact ha)
      have tb : Rt L' H' lb := Rt.of (by rw [← EB.out]; exact hb)
      have TA := Lib.hid ta
      have TB := Lib.hid tb
      clear ta tb
      have HM := Lib.hid (fun w (h : Row w a la L H) (h' : Row w b lb L' H') => Meet_calls a b la ca lb cb L H L' H' w h h' TA.out TB.out)
      have HM' := Lib.hid (fun w (h : Row w a la L H) (h' : Row w b lb L' H') => Meet_calls b a lb cb la ca L' H' L H w h' h TB.out TA.out)
      obtain ⟨F, hF⟩ : ∃ F, F = fr (hit L H L' H' lb) la 0 := ⟨_, rfl⟩
      obtain ⟨G, hG⟩ : ∃ G, G = fr (hit L' H' L H la) lb 0 := ⟨_, rfl⟩
      have hFG : G.2 = F.2 := by rw [hF, hG]; exact fr_both L' H' L H lb la
      have hR : ∀ r, InD L H la r = true → InD L' H' lb r = true → F.2 = true := fun r h1 h2 => by rw [hF]; exact fr_rune h1 h2
      rw [← hF] at HM
      rw [← hG] at HM'
      obtain ⟨f1, f2⟩ := F
      obtain ⟨g1, g2⟩ := G
      simp only at hFG hR HM HM'
      subst hFG
      have HR := Lib.hid hR
      clear hF hG hR
      have HI := Lib.hid (fun r w (h : Row w a la L H) => let ⟨R, hcut⟩ := Rt.cut r la TA.out; InD_cut TA.out hcut ▸ In_calls a la ca L H r R w h (by omega) hcut)
      have HI' := Lib.hid (fun r w (h : Row w b lb L' H') => let ⟨R, hcut⟩ := Rt.cut r lb TB.out; InD_cut TB.out hcut ▸ In_calls b lb cb L' H' r R w h (by omega) hcut)
      go_wp2_with fail
      refine (HM.out w2 (HA.out.below HB2.out) (HB.out.below HB2.out)).mono ?_
      rintro e w3 ⟨rfl, hb3⟩
      have HB3 := Lib.hid (chain HB2.out hb3)
      clear hb3
      go_wp2_with fail
      refine (HM'.out w3 (HA.out.below HB3.out) (HB.out.below HB3.out)).mono ?_
      rintro e w4 ⟨rfl, hb4⟩
      have HB4 := Lib.hid (chain HB3.out hb4)
      clear hb4
      go_wp2_with fail
      go_loopg [15] lc (fun g i wr => ∃ k : Nat, k ≤ lc ∧ g = lc - k ∧ i = .int .i64 k ∧ Below w.heap.size w wr)
      case atStart => exact ⟨0, Nat.zero_le _, by omega, rfl, HB4.out⟩
      case round =>
        obtain ⟨k, hk, hg, rfl, hbw⟩ := hrel
        have HG := Lib.hid hg
        have HBW := Lib.hid hbw
        clear hg hbw
        by_cases hlt : k < lc
        · obtain ⟨bc, oc, rfl, hbc, hcc, _⟩ := HC.out.at (by omega)
          have e0 := (HBW.out.cell (p := ⟨bc, oc + k, none⟩) hbc).trans (hcc k hlt)
          have hi : (k : Int) < lc := by omega
          have hbc2 : bc < wr.heap.size := Nat.lt_of_lt_of_le hbc HBW.out.size
          obtain ⟨r, hr⟩ : ∃ r, r = zs.getD k 0 := ⟨_, rfl⟩
          rw [← hr] at e0
          clear hcc hr
          have h3 := HR.out r
          have K1 := Lib.hid (HI.out r)
          have K2 := Lib.hid (HI'.out r)
          generalize InD L H la r = p1 at h3 K1
          generalize InD L' H' lb r = p2 at h3 K2
          have HRR := Lib.hid h3
          clear h3
          cases p1 with
          | false =>
            go_wp2_with fail
            refine (K1.out wr (HA.out.below HBW.out)).mono ?_
            rintro e w5 ⟨rfl, hb5⟩
            have HB5 := Lib.hid (chain HBW.out hb5)
            clear hb5
            go_wp2_with fail
            go_roundg (lc - (k + 1))
            case measure => have := HG.out; omega
            case rel => exact ⟨k + 1, by omega, rfl, by go_num, HB5.out⟩
          | true =>
            go_wp2_with fail
            refine (K1.out wr (HA.out.below HBW.out)).mono ?_
            rintro e w5 ⟨rfl, hb5⟩
            have HB5 := Lib.hid (chain HBW.out hb5)
            have e1 := ((bcell hb5).1 bc (oc + k) hbc2).trans e0
            clear hb5
            cases p2 with
            | false =>
              go_wp2_with fail
              refine (K2.out w5 (HB.out.below HB5.out)).mono ?_
              rintro e w6 ⟨rfl, hb6⟩
              have HB6 := Lib.hid (chain HB5.out hb6)
              clear hb6
              go_wp2_with fail
              go_roundg (lc - (k + 1))
              case measure => have := HG.out; omega
              case rel => exact ⟨k + 1, by omega, rfl, by go_num, HB6.out⟩
            | true =>
              have hg : g2 = true := by have h := HRR.out; simpa using h
              subst hg
              go_wp2_with fail
              refine (K2.out w5 (HB.out.below HB5.out)).mono ?_
              rintro e w6 ⟨rfl, hb6⟩
              have HB6 := Lib.hid (chain HB5.out hb6)
              clear hb6
              go_wp2_with fail
              go_roundg (lc - (k + 1))
              case measure => have := HG.out; omega
              case rel => exact ⟨k + 1, by omega, rfl, by go_num, HB6.out⟩
        · go_wp2_with fail
          refine (known_calls wr).mono ?_
          rintro e w3 ⟨rfl, hb3⟩
          have HB3 := Lib.hid (chain HBW.out hb3)
          clear hb3
          go_wp2
          go_ret
          exact ⟨rfl, HB3.out⟩
    · go_wp2_with fail
      refine (known_calls w2).mono ?_
      rintro e w3 ⟨rfl, hb3⟩
      have HB3 := Lib.hid (chain HB2.out hb3)
      clear hb3
      go_wp2
      go_ret
      exact ⟨rfl, HB3.out⟩
  · go_wp2_with fail
    refine (known_calls w2).mono ?_
    rintro e w3 ⟨rfl, hb3⟩
    have HB3 := Lib.hid (chain HB2.out hb3)
    clear hb3
    go_wp2
    go_ret
    exact ⟨rfl, HB3.out⟩
end Go.Proofs.Ytgddlcbaieclcaa.spansMeets
