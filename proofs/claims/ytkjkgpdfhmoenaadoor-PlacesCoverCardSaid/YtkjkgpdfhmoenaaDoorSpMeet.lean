/-
  spans.Right. spans.Meet of right lists. The reference's Meet of right lists.
-/
import Derived.Test.YtkjkgpdfhmoenaaDoorSpLists
namespace Go.Proofs.YtkjkgpdfhmoenaaDoor.SpRight
open Go Go.RowKit Go.Proofs.YtkjkgpdfhmoenaaDoor.Kit Go.Proofs.YtkjkgpdfhmoenaaDoor.SpFns
attribute [local irreducible] wpQuiet

theorem worldFacts {wr W3 : World} {b : Nat} {l h : Int} {t : TypeId} (hW : wr.alloc (.cells #[.int .i32 l, .int .i32 h] t) = W3) (hb : b < wr.heap.size) :
    Below wr.heap.size wr W3 ∧ b < W3.heap.size ∧ wr.heap.size < W3.heap.size ∧ W3.cell? ⟨wr.heap.size, 0, none⟩ = some (.int .i32 l) ∧ W3.cell? ⟨wr.heap.size, 1, none⟩ = some (.int .i32 h) ∧ (∀ b o, b < wr.heap.size → W3.cell? ⟨b, o, none⟩ = wr.cell? ⟨b, o, none⟩) := by
  subst hW
  have hB := (Below.refl wr.heap.size wr).alloc (Nat.le_refl _) (.cells #[.int .i32 l, .int .i32 h] t)
  exact ⟨hB, by simp; omega, by simp, by rw [cell_at (alloc_new rfl)]; rfl, by rw [cell_at (alloc_new rfl)]; rfl, (bcell hB).1⟩

set_option maxHeartbeats 4000000 in
set_option maxRecDepth 100000 in
theorem Right_calls (a : Option Addr) (len cap : Nat) (L H : Nat → Int) (w : World) (hr : Row w a len L H) (hl : len ≤ 9223372036854775807) :
    Calls Tryd.prog 83 #[.slice a len cap] w fun e w' =>
      e = .returned (.tuple #[.int .i64 (rt L H len 0).1, .int .i64 (rt L H len 0).2]) ∧ Below w.heap.size w w' := by
  obtain ⟨R, hR⟩ : ∃ R, rt L H len 0 = R := ⟨_, rfl⟩
  rw [hR]
  have HR := Lib.hid hR
  have HROW := Lib.hid hr
  clear hR hr
  go_enter Tryd.func83, Tryd.ntmps83
  go_wp2_with fail
  go_loopg [8] len (fun g i wr => ∃ k : Nat, k ≤ len ∧ g = len - k ∧ i = .int .i64 k ∧ Below w.heap.size w wr ∧ rt L H (len - k) k = R)
  case atStart => exact ⟨0, Nat.zero_le _, by omega, rfl, by repeat (first | exact Below.refl _ _ | apply Below.drew | assumption | (refine Below.alloc ?_ (by first | omega | (simp; done) | (simp <;> omega)) _) | (refine Below.setCell ?_ (by first | omega | (simp; done) | (simp <;> omega)) _)), HR.out⟩
  case round =>
    obtain ⟨k, hk, hg, rfl, hbw, hrt⟩ := hrel
    have HG := Lib.hid hg
    clear hg
    have HBW := Lib.hid hbw
    by_cases hlt : k < len
    · have hr2 := HROW.out.below hbw
      clear hbw
      obtain ⟨b, off, rfl, hbl, hc⟩ := hr2.at hlt
      have c0 := (hc k hlt).1
      have c1 := (hc k hlt).2
      have hs : ∀ e, bad L H k = e → e ≠ 0 → R = ((k : Int), e) := fun e h1 h2 => rt_stop hrt hlt h1 h2
      have ho := @rt_on L H len k R hrt hlt
      have HS := Lib.hid hs
      have HO := Lib.hid ho
      clear hrt hs ho hr2
      have hi : (k : Int) < len := by omega
      rcases bad_cases L H k with ⟨hb, q1⟩ | ⟨hb, q1, q2⟩ | ⟨hb, q1, q2, q3⟩ | ⟨hb, q1, q2, q3, q4⟩ | ⟨hb, q1, q2, q3, q4, q5⟩ | ⟨hb, q1, q2, q3, q4, q5⟩
      · go_wp2_with (go_at_call 103; refine (ValidRune_calls _ _).mono ?_; rintro e w' ⟨rfl, rfl⟩)
        go_ret2
        rw [HS.out _ hb (by decide)]
        have hbw := HBW.out
        exact ⟨rfl, hbw.alloc hbw.size _⟩
      · go_wp2_with (go_at_call 103; refine (ValidRune_calls _ _).mono ?_; rintro e w' ⟨rfl, rfl⟩)
        go_ret2
        rw [HS.out _ hb (by decide)]
        have hbw := HBW.out
        exact ⟨rfl, hbw.alloc hbw.size _⟩
      · go_wp2_with (go_at_call 103; refine (ValidRune_calls _ _).mono ?_; rintro e w' ⟨rfl, rfl⟩)
        generalize hW : World.alloc _ _ = W3
        obtain ⟨hb3, hbl3, hn3, d0, d1, d2⟩ := worldFacts hW hbl
        clear hW
        clear d2 hc
        refine region_calm (by kernel_rfl) (by kernel_rfl) ?_
        repeat (quiet_step ((fail)))
        refine wpQuiet_nil ?_
        rintro _ ⟨x, rfl⟩
        go_wp2
        go_ret2
        rw [HS.out _ hb (by decide)]
        exact ⟨rfl, Later.chain (chain HBW.out hb3) x⟩
      · subst q4
        simp only [Nat.zero_mul, Nat.add_zero] at c0 c1
        go_wp2_with (go_at_call 103; refine (ValidRune_calls _ _).mono ?_; rintro e w' ⟨rfl, rfl⟩)
        generalize hW : World.alloc _ _ = W3
        obtain ⟨hb3, hbl3, hn3, d0, d1, d2⟩ := worldFacts hW hbl
        clear hW
        clear d2 hc
        refine region_calm (by kernel_rfl) (by kernel_rfl) ?_
        repeat (quiet_step ((fail)))
        refine wpQuiet_nil ?_
        rintro _ ⟨x, rfl⟩
        go_wp2
        go_roundg (gk - 1)
        case measure => have := HG.out; omega
        case rel => exact ⟨0 + 1, by omega, by have := HG.out; omega, by go_num, Later.chain (chain HBW.out hb3) x, HO.out hb⟩
      · have q6 : (0 : Int) < k := by omega
        have c2 := (hc (k - 1) (by omega)).2
        have hw : IntKind.i64.wrap ((k : Int) - 1) = ((k - 1 : Nat) : Int) := by rw [i64w _ (by omega) (by omega)]; omega
        have hj : k - 1 < len := by omega
        have hj' : ((k - 1 : Nat) : Int) < len := by omega
        go_wp2_with (go_at_call 103; refine (ValidRune_calls _ _).mono ?_; rintro e w' ⟨rfl, rfl⟩)
        generalize hW : World.alloc _ _ = W3
        obtain ⟨hb3, hbl3, hn3, d0, d1, d2⟩ := worldFacts hW hbl
        clear hW
        have e2 := d2 b (off + (k - 1) * 2 + 1) hbl
        rw [c2] at e2
        clear d2 hc
        refine region_calm (by kernel_rfl) (by kernel_rfl) ?_
        repeat (quiet_step ((fail)))
        refine wpQuiet_nil ?_
        rintro _ ⟨x, rfl⟩
        go_wp2
        go_ret2
        rw [HS.out _ hb (by decide)]
        exact ⟨rfl, Later.chain (chain HBW.out hb3) x⟩
      · have q6 : (0 : Int) < k := by omega
        have c2 := (hc (k - 1) (by omega)).2
        have hw : IntKind.i64.wrap ((k : Int) - 1) = ((k - 1 : Nat) : Int) := by rw [i64w _ (by omega) (by omega)]; omega
        have hj : k - 1 < len := by omega
        have hj' : ((k - 1 : Nat) : Int) < len := by omega
        go_wp2_with (go_at_call 103; refine (ValidRune_calls _ _).mono ?_; rintro e w' ⟨rfl, rfl⟩)
        generalize hW : World.alloc _ _ = W3
        obtain ⟨hb3, hbl3, hn3, d0, d1, d2⟩ := worldFacts hW hbl
        clear hW
        have e2 := d2 b (off + (k - 1) * 2 + 1) hbl
        rw [c2] at e2
        clear d2 hc
        refine region_calm (by kernel_rfl) (by kernel_rfl) ?_
        repeat (quiet_step ((fail)))
        refine wpQuiet_nil ?_
        rintro _ ⟨x, rfl⟩
        go_wp2
        go_roundg (gk - 1)
        case measure => have := HG.out; omega
        case rel => exact ⟨k + 1, by omega, by have := HG.out; omega, by go_num, Later.chain (chain HBW.out hb3) x, HO.out hb⟩
    · have hkn : k = len := by omega
      subst hkn
      go_wp2
      go_ret2
      rw [rt_end hrt]
      exact ⟨rfl, hbw⟩
end Go.Proofs.YtkjkgpdfhmoenaaDoor.SpRight
namespace Go.Proofs.YtkjkgpdfhmoenaaDoor.SpMeet
open Go Go.RowKit Go.Proofs.YtkjkgpdfhmoenaaDoor.Kit Go.Proofs.YtkjkgpdfhmoenaaDoor.SpFns Go.Proofs.YtkjkgpdfhmoenaaDoor.SpFind Go.Proofs.YtkjkgpdfhmoenaaDoor.SpSize Go.Proofs.YtkjkgpdfhmoenaaDoor.SpLists Go.Proofs.YtkjkgpdfhmoenaaDoor.SpRight
attribute [local irreducible] wpQuiet

theorem sizeOne (W4 : World) (l h : Int) :
    Calls Tryd.prog 105 #[.slice (some ⟨W4.heap.size + 1, 0, none⟩) 1 1] ((W4.alloc (.cells #[.int .i32 l, .int .i32 h] 129)).alloc (.cells #[.int .i32 l, .int .i32 h] 129)).drew fun e w' =>
      e = .returned (.int .i64 (sz l h)) ∧ Below W4.heap.size W4 w' := by
  have h0 : ((W4.alloc (.cells #[.int .i32 l, .int .i32 h] 129)).alloc (.cells #[.int .i32 l, .int .i32 h] 129)).drew.heap[W4.heap.size + 1]? = some (.cells #[.int .i32 l, .int .i32 h] 129 (0, 0)) := alloc_new (by simp)
  have hS := Size_calls _ 1 1 _ _ _ (SpKnown.Row.one h0) (by decide)
  refine hS.mono ?_
  rintro e w' ⟨rfl, hb⟩
  have hB : Below W4.heap.size W4 ((W4.alloc (.cells #[.int .i32 l, .int .i32 h] 129)).alloc (.cells #[.int .i32 l, .int .i32 h] 129)).drew := (((Below.refl _ _).alloc (Nat.le_refl _) _).alloc (by simp) _).drew
  exact ⟨by simp [sum, SpKnown.nth], chain hB hb⟩

set_option maxHeartbeats 4000000 in
set_option maxRecDepth 100000 in
theorem Meet_calls (a b : Option Addr) (la ca lb cb : Nat) (L H L' H' : Nat → Int) (w : World) (hra : Row w a la L H) (hrb : Row w b lb L' H') (ha : Rt L H la) (hb : Rt L' H' lb) :
    Calls Tryd.prog 84 #[.slice a la ca, .slice b lb cb] w fun e w' =>
      e = .returned (.tuple #[.int .i64 (fr (hit L H L' H' lb) la 0).1, .bool (fr (hit L H L' H' lb) la 0).2]) ∧ Below w.heap.size w w' := by
  obtain ⟨F, hF⟩ : ∃ F, fr (hit L H L' H' lb) la 0 = F := ⟨_, rfl⟩
  rw [hF]
  have hla := ha.len_le
  have hlb := hb.len_le
  have HA := Lib.hid hra
  have HB := Lib.hid hrb
  have TA := Lib.hid ha
  have TB := Lib.hid hb
  have HF := Lib.hid hF
  clear hra hrb ha hb hF
  go_enter Tryd.func84, Tryd.ntmps84
  go_wp2_with fail
  go_loopg [12] la (fun g i wr => ∃ k : Nat, k ≤ la ∧ g = la - k ∧ i = .int .i64 k ∧ Below w.heap.size w wr ∧ fr (hit L H L' H' lb) (la - k) k = F)
  case atStart => exact ⟨0, Nat.zero_le _, by omega, rfl, Below.refl _ _, HF.out⟩
  case round =>
    obtain ⟨k, hk, hg, rfl, hbw, hfr⟩ := hrel
    have HG := Lib.hid hg
    have HBW := Lib.hid hbw
    clear hg
    by_cases hlt : k < la
    · have hr1 := HA.out.below hbw
      have hr2 := HB.out.below hbw
      obtain ⟨b1, o1, rfl, hb1, hc1⟩ := hr1.at hlt
      have c0 := (hc1 k hlt).1
      have c1 := (hc1 k hlt).2
      have hi : (k : Int) < la := by omega
      have t := TA.out k hlt
      obtain ⟨R, hcut⟩ := Rt.cut (L k) lb TB.out
      have hh := hit_cut (L := L) (H := H) (i := k) TB.out hcut
      have hRl := hcut.1
      have hhit : hit L H L' H' lb k = true → F = ((k : Int), true) := fun h => fr_hit hfr hlt h
      have hmiss : hit L H L' H' lb k = false → fr (hit L H L' H' lb) (la - (k + 1)) (k + 1) = F := fun h => fr_on hfr hlt h
      have HH := Lib.hid hhit
      have HM := Lib.hid hmiss
      have HFD := Lib.hid (fun w2 (h : Below wr.heap.size wr w2) => find_calls b lb cb L' H' (L k) R w2 (hr2.below h) (by omega) hcut)
      have HR2 := Lib.hid hr2
      have HT := Lib.hid t
      have HC := Lib.hid hcut
      have HHT := Lib.hid hh
      clear hc1 hr1 hr2 hfr hbw t hcut hhit hmiss hh
      go_wp2_with fail
      generalize hW : World.alloc _ _ = W3
      obtain ⟨hb3, hbl3, hn3, d0, d1, d2⟩ := worldFacts hW hb1
      refine (HFD.out W3 hb3).mono ?_
      rintro e w1 ⟨rfl, hb4⟩
      have e0 := ((bcell hb4).1 wr.heap.size 0 hn3).trans d0
      have e1 := ((bcell hb4).1 wr.heap.size 1 hn3).trans d1
      have hn4 := Nat.lt_of_lt_of_le hn3 hb4.size
      have HB4 := Lib.hid (chain HBW.out (chain hb3 hb4))
      have HR4 := Lib.hid (HR2.out.below (chain hb3 hb4))
      obtain ⟨n, hn⟩ : ∃ n, n = wr.heap.size := ⟨_, rfl⟩
      rw [← hn] at e0 e1 hn4 ⊢
      clear hW hb3 hbl3 hn3 d0 d1 d2 hb4 c0 c1 hb1 hn
      go_wp2_with fail
      go_loopg [8] 1 (fun g s8 wx => s8 = .int .i64 R ∧ wx = w1)
      case atStart => exact ⟨rfl, rfl⟩
      case round =>
        obtain ⟨rfl, rfl⟩ := hrel
        by_cases hit1 : R < lb
        · obtain ⟨b2, o2, rfl, hb2, hc2⟩ := HR4.out.at hit1
          have f0 := (hc2 R hit1).1
          have f1 := (hc2 R hit1).2
          have hRi : (R : Int) < lb := by omega
          clear hc2
          by_cases hle : L' R ≤ H k
          · go_wp2_with fail
            refine region_calm (by kernel_rfl) (by kernel_rfl) ?_
            repeat (quiet_step ((fail)))
            refine wpQuiet_nil ?_
            rintro _ ⟨x, rfl⟩
            go_wp2_with fail
            have g0 := (bcell x.h).1 n 0 hn4
            have g1 := (bcell x.h).1 n 1 hn4
            have g2 := (bcell x.h).1 b2 (o2 + R * 2) hb2
            have g3 := (bcell x.h).1 b2 (o2 + R * 2 + 1) hb2
            have gn := Nat.lt_of_lt_of_le hn4 x.h.size
            have gb := Nat.lt_of_lt_of_le hb2 x.h.size
            rw [e0] at g0
            rw [e1] at g1
            rw [f0] at g2
            rw [f1] at g3
            have HBX := Lib.hid (Later.chain HB4.out x)
            have hF := HH.out (by rw [HHT.out]; exact decide_eq_true ⟨hit1, hle⟩)
            generalize x.w = W4 at g0 g1 g2 g3 gn gb HBX ⊢
            clear e0 e1 f0 f1 hn4 hb2
            rcases (show L k < L' R ∨ L' R ≤ L k by omega) with hmx | hmx <;> rcases (show H' R < H k ∨ H k ≤ H' R by omega) with hmn | hmn
            · have hp := sz_pos (TB.out R hit1).1 (TB.out R hit1).2.1 (TB.out R hit1).2.2.1
              go_wp2_with fail
              refine RG_begin 19 #[false, false, false, false, false, false, false, false, false, false, false, false, false, false, false, false, false, false, false] rfl rfl (by kernel_rfl) (fun R hR hacc => ?_)
              refine RG_take (i := 0) (v := ?v7xa1) (some 37) #[true, false, false, false, false, false, false, false, false, false, false, false, false, false, false, false, false, false, false] rfl rfl (by kernel_rfl) (by kernel_rfl) (by kernel_rfl) rfl rfl (fun x => ?h7xa1) ?n7xa1
              case h7xa1 => (go_simp; try with_reducible rfl)
              try simp only [Act.put, List.setIfInBounds_toArray, List.set_cons_zero, List.set_cons_succ]
              refine RG_take (i := 1) (v := ?v7xa2) (some 38) #[true, true, false, false, false, false, false, false, false, false, false, false, false, false, false, false, false, false, false] rfl rfl (by kernel_rfl) (by kernel_rfl) (by kernel_rfl) rfl rfl (fun x => ?h7xa2) ?n7xa2
              case h7xa2 => (go_simp; try with_reducible rfl)
              try simp only [Act.put, List.setIfInBounds_toArray, List.set_cons_zero, List.set_cons_succ]
              refine RG_take (i := 2) (v := ?v7xa3) (some 39) #[true, true, true, false, false, false, false, false, false, false, false, false, false, false, false, false, false, false, false] rfl rfl (by kernel_rfl) (by kernel_rfl) (by kernel_rfl) rfl rfl (fun x => ?h7xa3) ?n7xa3
              case h7xa3 => (go_simp; try with_reducible rfl)
              try simp only [Act.put, List.setIfInBounds_toArray, List.set_cons_zero, List.set_cons_succ]
              refine RG_take (i := 3) (v := ?v7xa4) (some 40) #[true, true, true, true, false, false, false, false, false, false, false, false, false, false, false, false, false, false, false] rfl rfl (by kernel_rfl) (by kernel_rfl) (by kernel_rfl) rfl rfl (fun x => ?h7xa4) ?n7xa4
              case h7xa4 => (go_simp; try with_reducible rfl)
              try simp only [Act.put, List.setIfInBounds_toArray, List.set_cons_zero, List.set_cons_succ]
              refine RG_take (i := 4) (v := ?v7xa5) (some 41) #[true, true, true, true, true, false, false, false, false, false, false, false, false, false, false, false, false, false, false] rfl rfl (by kernel_rfl) (by kernel_rfl) (by kernel_rfl) rfl rfl (fun x => ?h7xa5) ?n7xa5
              case h7xa5 => (go_simp; try with_reducible rfl)
              try simp only [Act.put, List.setIfInBounds_toArray, List.set_cons_zero, List.set_cons_succ]
              refine RG_take (i := 5) (v := ?v7xa6) (some 42) #[true, true, true, true, true, true, false, false, false, false, false, false, false, false, false, false, false, false, false] rfl rfl (by kernel_rfl) (by kernel_rfl) (by kernel_rfl) rfl rfl (fun x => ?h7xa6) ?n7xa6
              case h7xa6 => (go_simp; try with_reducible rfl)
              try simp only [Act.put, List.setIfInBounds_toArray, List.set_cons_zero, List.set_cons_succ]
              refine RG_take (i := 6) (v := ?v7xa7) (some 43) #[true, true, true, true, true, true, true, false, false, false, false, false, false, false, false, false, false, false, false] rfl rfl (by kernel_rfl) (by kernel_rfl) (by kernel_rfl) rfl rfl (fun x => ?h7xa7) ?n7xa7
              case h7xa7 => (go_simp; try with_reducible rfl)
              try simp only [Act.put, List.setIfInBounds_toArray, List.set_cons_zero, List.set_cons_succ]
              refine RG_take (i := 7) (v := ?v7xa8) (some 44) #[true, true, true, true, true, true, true, true, false, false, false, false, false, false, false, false, false, false, false] rfl rfl (by kernel_rfl) (by kernel_rfl) (by kernel_rfl) rfl rfl (fun x => ?h7xa8) ?n7xa8
              case h7xa8 => (go_simp; try with_reducible rfl)
              try simp only [Act.put, List.setIfInBounds_toArray, List.set_cons_zero, List.set_cons_succ]
              refine RG_take (i := 8) (v := ?v7xa9) (some 45) #[true, true, true, true, true, true, true, true, true, false, false, false, false, false, false, false, false, false, false] rfl rfl (by kernel_rfl) (by kernel_rfl) (by kernel_rfl) rfl rfl (fun x => ?h7xa9) ?n7xa9
              case h7xa9 => (go_simp; try with_reducible rfl)
              try simp only [Act.put, List.setIfInBounds_toArray, List.set_cons_zero, List.set_cons_succ]
              refine RG_take (i := 9) (v := ?v7xa10) (some 46) #[true, true, true, true, true, true, true, true, true, true, false, false, false, false, false, false, false, false, false] rfl rfl (by kernel_rfl) (by kernel_rfl) (by kernel_rfl) rfl rfl (fun x => ?h7xa10) ?n7xa10
              case h7xa10 => (go_simp; try with_reducible rfl)
              try simp only [Act.put, List.setIfInBounds_toArray, List.set_cons_zero, List.set_cons_succ]
              refine RG_take (i := 10) (v := ?v7xa11) (some 47) #[true, true, true, true, true, true, true, true, true, true, true, false, false, false, false, false, false, false, false] rfl rfl (by kernel_rfl) (by kernel_rfl) (by kernel_rfl) rfl rfl (fun x => ?h7xa11) ?n7xa11
              case h7xa11 => (go_simp; try with_reducible rfl)
              try simp only [Act.put, List.setIfInBounds_toArray, List.set_cons_zero, List.set_cons_succ]
              refine RG_take (i := 11) (v := ?v7xa12) (some 48) #[true, true, true, true, true, true, true, true, true, true, true, true, false, false, false, false, false, false, false] rfl rfl (by kernel_rfl) (by kernel_rfl) (by kernel_rfl) rfl rfl (fun x => ?h7xa12) ?n7xa12
              case h7xa12 => (go_simp; try with_reducible rfl)
              try simp only [Act.put, List.setIfInBounds_toArray, List.set_cons_zero, List.set_cons_succ]
              refine RG_take (i := 12) (v := ?v7xa13) (some 49) #[true, true, true, true, true, true, true, true, true, true, true, true, true, false, false, false, false, false, false] rfl rfl (by kernel_rfl) (by kernel_rfl) (by kernel_rfl) rfl rfl (fun x => ?h7xa13) ?n7xa13
              case h7xa13 => (go_simp; try with_reducible rfl)
              try simp only [Act.put, List.setIfInBounds_toArray, List.set_cons_zero, List.set_cons_succ]
              refine RG_take (i := 13) (v := ?v7xa14) (some 50) #[true, true, true, true, true, true, true, true, true, true, true, true, true, true, false, false, false, false, false] rfl rfl (by kernel_rfl) (by kernel_rfl) (by kernel_rfl) rfl rfl (fun x => ?h7xa14) ?n7xa14
              case h7xa14 => (go_simp; try with_reducible rfl)
              try simp only [Act.put, List.setIfInBounds_toArray, List.set_cons_zero, List.set_cons_succ]
              refine RG_take (i := 14) (v := ?v7xa15) (some 51) #[true, true, true, true, true, true, true, true, true, true, true, true, true, true, true, false, false, false, false] rfl rfl (by kernel_rfl) (by kernel_rfl) (by kernel_rfl) rfl rfl (fun x => ?h7xa15) ?n7xa15
              case h7xa15 => (go_simp; try with_reducible rfl)
              try simp only [Act.put, List.setIfInBounds_toArray, List.set_cons_zero, List.set_cons_succ]
              refine RG_take (i := 15) (v := ?v7xa16) (some 52) #[true, true, true, true, true, true, true, true, true, true, true, true, true, true, true, true, false, false, false] rfl rfl (by kernel_rfl) (by kernel_rfl) (by kernel_rfl) rfl rfl (fun x => ?h7xa16) ?n7xa16
              case h7xa16 => (go_simp; try with_reducible rfl)
              try simp only [Act.put, List.setIfInBounds_toArray, List.set_cons_zero, List.set_cons_succ]
              refine RG_take (i := 16) (v := ?v7xa17) (some 53) #[true, true, true, true, true, true, true, true, true, true, true, true, true, true, true, true, true, false, false] rfl rfl (by kernel_rfl) (by kernel_rfl) (by kernel_rfl) rfl rfl (fun x => ?h7xa17) ?n7xa17
              case h7xa17 => (go_simp; try with_reducible rfl)
              try simp only [Act.put, List.setIfInBounds_toArray, List.set_cons_zero, List.set_cons_succ]
              refine RG_one (i := 17) #[true, true, true, true, true, true, true, true, true, true, true, true, true, true, true, true, true, true, false] rfl (by kernel_rfl) rfl rfl (fun K hK => ?_)
              go_wp2_with (fail)
              refine RG_keep hK (by first | exact ((Below.refl _ _).alloc (Nat.le_refl _) _).drew | exact chain hacc hbx | exact hacc.alloc hacc.size _ | exact Below.alloc (by assumption) (by omega) _ | exact hacc | exact hacc.trans (hbx.mono (by have := hacc.size; simp; omega)) | exact (hacc.alloc hacc.size _).trans (hbx.mono (by have := hacc.size; simp; omega)) | exact (hacc.setCell (by first | omega | (simp; done) | (simp; omega)) _).setCell (by first | omega | (simp; done) | (simp; omega)) _ | (repeat (first | (with_reducible exact hacc) | (with_reducible refine Below.setCell ?_ (by first | exact Nat.le_refl _ | omega) _)))) (fun hacc => ?_)
              have hsz := hacc.size
              try simp only [World.size_alloc] at hsz
              clear hK K
              try simp only [Act.put, List.setIfInBounds_toArray, List.set_cons_zero, List.set_cons_succ]
              refine RG_one (i := 18) #[true, true, true, true, true, true, true, true, true, true, true, true, true, true, true, true, true, true, true] rfl (by kernel_rfl) rfl rfl (fun K hK => ?_)
              go_wp2_with (fail)
              refine RG_keep hK (by first | exact ((Below.refl _ _).alloc (Nat.le_refl _) _).drew | exact chain hacc hbx | exact hacc.alloc hacc.size _ | exact Below.alloc (by assumption) (by omega) _ | exact hacc | exact hacc.trans (hbx.mono (by have := hacc.size; simp; omega)) | exact (hacc.alloc hacc.size _).trans (hbx.mono (by have := hacc.size; simp; omega)) | exact (hacc.setCell (by first | omega | (simp; done) | (simp; omega)) _).setCell (by first | omega | (simp; done) | (simp; omega)) _ | (repeat (first | (with_reducible exact hacc) | (with_reducible refine Below.setCell ?_ (by first | exact Nat.le_refl _ | omega) _)))) (fun hacc => ?_)
              have hsz := hacc.size
              try simp only [World.size_alloc] at hsz
              clear hK K
              try simp only [Act.put, List.setIfInBounds_toArray, List.set_cons_zero, List.set_cons_succ]
              refine RG_done (by kernel_rfl) ?_
              refine hR _ _ ?_
              go_wp2_with fail
              refine (sizeOne W4 _ _).mono ?_
              rintro e w9 ⟨rfl, hb9⟩
              have HB9 := Lib.hid hb9
              clear hb9
              go_wp2
              go_ret2
              rw [hF]
              exact ⟨rfl, chain HBX.out HB9.out⟩
            · have hp := sz_pos (TB.out R hit1).1 HT.out.2.1 hle
              go_wp2_with fail
              refine RG_begin 19 #[false, false, false, false, false, false, false, false, false, false, false, false, false, false, false, false, false, false, false] rfl rfl (by kernel_rfl) (fun R hR hacc => ?_)
              refine RG_take (i := 0) (v := ?v7xb1) (some 37) #[true, false, false, false, false, false, false, false, false, false, false, false, false, false, false, false, false, false, false] rfl rfl (by kernel_rfl) (by kernel_rfl) (by kernel_rfl) rfl rfl (fun x => ?h7xb1) ?n7xb1
              case h7xb1 => (go_simp; try with_reducible rfl)
              try simp only [Act.put, List.setIfInBounds_toArray, List.set_cons_zero, List.set_cons_succ]
              refine RG_take (i := 1) (v := ?v7xb2) (some 38) #[true, true, false, false, false, false, false, false, false, false, false, false, false, false, false, false, false, false, false] rfl rfl (by kernel_rfl) (by kernel_rfl) (by kernel_rfl) rfl rfl (fun x => ?h7xb2) ?n7xb2
              case h7xb2 => (go_simp; try with_reducible rfl)
              try simp only [Act.put, List.setIfInBounds_toArray, List.set_cons_zero, List.set_cons_succ]
              refine RG_take (i := 2) (v := ?v7xb3) (some 39) #[true, true, true, false, false, false, false, false, false, false, false, false, false, false, false, false, false, false, false] rfl rfl (by kernel_rfl) (by kernel_rfl) (by kernel_rfl) rfl rfl (fun x => ?h7xb3) ?n7xb3
              case h7xb3 => (go_simp; try with_reducible rfl)
              try simp only [Act.put, List.setIfInBounds_toArray, List.set_cons_zero, List.set_cons_succ]
              refine RG_take (i := 3) (v := ?v7xb4) (some 40) #[true, true, true, true, false, false, false, false, false, false, false, false, false, false, false, false, false, false, false] rfl rfl (by kernel_rfl) (by kernel_rfl) (by kernel_rfl) rfl rfl (fun x => ?h7xb4) ?n7xb4
              case h7xb4 => (go_simp; try with_reducible rfl)
              try simp only [Act.put, List.setIfInBounds_toArray, List.set_cons_zero, List.set_cons_succ]
              refine RG_take (i := 4) (v := ?v7xb5) (some 41) #[true, true, true, true, true, false, false, false, false, false, false, false, false, false, false, false, false, false, false] rfl rfl (by kernel_rfl) (by kernel_rfl) (by kernel_rfl) rfl rfl (fun x => ?h7xb5) ?n7xb5
              case h7xb5 => (go_simp; try with_reducible rfl)
              try simp only [Act.put, List.setIfInBounds_toArray, List.set_cons_zero, List.set_cons_succ]
              refine RG_take (i := 5) (v := ?v7xb6) (some 42) #[true, true, true, true, true, true, false, false, false, false, false, false, false, false, false, false, false, false, false] rfl rfl (by kernel_rfl) (by kernel_rfl) (by kernel_rfl) rfl rfl (fun x => ?h7xb6) ?n7xb6
              case h7xb6 => (go_simp; try with_reducible rfl)
              try simp only [Act.put, List.setIfInBounds_toArray, List.set_cons_zero, List.set_cons_succ]
              refine RG_take (i := 6) (v := ?v7xb7) (some 43) #[true, true, true, true, true, true, true, false, false, false, false, false, false, false, false, false, false, false, false] rfl rfl (by kernel_rfl) (by kernel_rfl) (by kernel_rfl) rfl rfl (fun x => ?h7xb7) ?n7xb7
              case h7xb7 => (go_simp; try with_reducible rfl)
              try simp only [Act.put, List.setIfInBounds_toArray, List.set_cons_zero, List.set_cons_succ]
              refine RG_take (i := 7) (v := ?v7xb8) (some 44) #[true, true, true, true, true, true, true, true, false, false, false, false, false, false, false, false, false, false, false] rfl rfl (by kernel_rfl) (by kernel_rfl) (by kernel_rfl) rfl rfl (fun x => ?h7xb8) ?n7xb8
              case h7xb8 => (go_simp; try with_reducible rfl)
              try simp only [Act.put, List.setIfInBounds_toArray, List.set_cons_zero, List.set_cons_succ]
              refine RG_take (i := 8) (v := ?v7xb9) (some 45) #[true, true, true, true, true, true, true, true, true, false, false, false, false, false, false, false, false, false, false] rfl rfl (by kernel_rfl) (by kernel_rfl) (by kernel_rfl) rfl rfl (fun x => ?h7xb9) ?n7xb9
              case h7xb9 => (go_simp; try with_reducible rfl)
              try simp only [Act.put, List.setIfInBounds_toArray, List.set_cons_zero, List.set_cons_succ]
              refine RG_take (i := 9) (v := ?v7xb10) (some 46) #[true, true, true, true, true, true, true, true, true, true, false, false, false, false, false, false, false, false, false] rfl rfl (by kernel_rfl) (by kernel_rfl) (by kernel_rfl) rfl rfl (fun x => ?h7xb10) ?n7xb10
              case h7xb10 => (go_simp; try with_reducible rfl)
              try simp only [Act.put, List.setIfInBounds_toArray, List.set_cons_zero, List.set_cons_succ]
              refine RG_take (i := 10) (v := ?v7xb11) (some 47) #[true, true, true, true, true, true, true, true, true, true, true, false, false, false, false, false, false, false, false] rfl rfl (by kernel_rfl) (by kernel_rfl) (by kernel_rfl) rfl rfl (fun x => ?h7xb11) ?n7xb11
              case h7xb11 => (go_simp; try with_reducible rfl)
              try simp only [Act.put, List.setIfInBounds_toArray, List.set_cons_zero, List.set_cons_succ]
              refine RG_take (i := 11) (v := ?v7xb12) (some 48) #[true, true, true, true, true, true, true, true, true, true, true, true, false, false, false, false, false, false, false] rfl rfl (by kernel_rfl) (by kernel_rfl) (by kernel_rfl) rfl rfl (fun x => ?h7xb12) ?n7xb12
              case h7xb12 => (go_simp; try with_reducible rfl)
              try simp only [Act.put, List.setIfInBounds_toArray, List.set_cons_zero, List.set_cons_succ]
              refine RG_take (i := 12) (v := ?v7xb13) (some 49) #[true, true, true, true, true, true, true, true, true, true, true, true, true, false, false, false, false, false, false] rfl rfl (by kernel_rfl) (by kernel_rfl) (by kernel_rfl) rfl rfl (fun x => ?h7xb13) ?n7xb13
              case h7xb13 => (go_simp; try with_reducible rfl)
              try simp only [Act.put, List.setIfInBounds_toArray, List.set_cons_zero, List.set_cons_succ]
              refine RG_take (i := 13) (v := ?v7xb14) (some 50) #[true, true, true, true, true, true, true, true, true, true, true, true, true, true, false, false, false, false, false] rfl rfl (by kernel_rfl) (by kernel_rfl) (by kernel_rfl) rfl rfl (fun x => ?h7xb14) ?n7xb14
              case h7xb14 => (go_simp; try with_reducible rfl)
              try simp only [Act.put, List.setIfInBounds_toArray, List.set_cons_zero, List.set_cons_succ]
              refine RG_take (i := 14) (v := ?v7xb15) (some 51) #[true, true, true, true, true, true, true, true, true, true, true, true, true, true, true, false, false, false, false] rfl rfl (by kernel_rfl) (by kernel_rfl) (by kernel_rfl) rfl rfl (fun x => ?h7xb15) ?n7xb15
              case h7xb15 => (go_simp; try with_reducible rfl)
              try simp only [Act.put, List.setIfInBounds_toArray, List.set_cons_zero, List.set_cons_succ]
              refine RG_take (i := 15) (v := ?v7xb16) (some 52) #[true, true, true, true, true, true, true, true, true, true, true, true, true, true, true, true, false, false, false] rfl rfl (by kernel_rfl) (by kernel_rfl) (by kernel_rfl) rfl rfl (fun x => ?h7xb16) ?n7xb16
              case h7xb16 => (go_simp; try with_reducible rfl)
              try simp only [Act.put, List.setIfInBounds_toArray, List.set_cons_zero, List.set_cons_succ]
              refine RG_take (i := 16) (v := ?v7xb17) (some 53) #[true, true, true, true, true, true, true, true, true, true, true, true, true, true, true, true, true, false, false] rfl rfl (by kernel_rfl) (by kernel_rfl) (by kernel_rfl) rfl rfl (fun x => ?h7xb17) ?n7xb17
              case h7xb17 => (go_simp; try with_reducible rfl)
              try simp only [Act.put, List.setIfInBounds_toArray, List.set_cons_zero, List.set_cons_succ]
              refine RG_one (i := 17) #[true, true, true, true, true, true, true, true, true, true, true, true, true, true, true, true, true, true, false] rfl (by kernel_rfl) rfl rfl (fun K hK => ?_)
              go_wp2_with (fail)
              refine RG_keep hK (by first | exact ((Below.refl _ _).alloc (Nat.le_refl _) _).drew | exact chain hacc hbx | exact hacc.alloc hacc.size _ | exact Below.alloc (by assumption) (by omega) _ | exact hacc | exact hacc.trans (hbx.mono (by have := hacc.size; simp; omega)) | exact (hacc.alloc hacc.size _).trans (hbx.mono (by have := hacc.size; simp; omega)) | exact (hacc.setCell (by first | omega | (simp; done) | (simp; omega)) _).setCell (by first | omega | (simp; done) | (simp; omega)) _ | (repeat (first | (with_reducible exact hacc) | (with_reducible refine Below.setCell ?_ (by first | exact Nat.le_refl _ | omega) _)))) (fun hacc => ?_)
              have hsz := hacc.size
              try simp only [World.size_alloc] at hsz
              clear hK K
              try simp only [Act.put, List.setIfInBounds_toArray, List.set_cons_zero, List.set_cons_succ]
              refine RG_one (i := 18) #[true, true, true, true, true, true, true, true, true, true, true, true, true, true, true, true, true, true, true] rfl (by kernel_rfl) rfl rfl (fun K hK => ?_)
              go_wp2_with (fail)
              refine RG_keep hK (by first | exact ((Below.refl _ _).alloc (Nat.le_refl _) _).drew | exact chain hacc hbx | exact hacc.alloc hacc.size _ | exact Below.alloc (by assumption) (by omega) _ | exact hacc | exact hacc.trans (hbx.mono (by have := hacc.size; simp; omega)) | exact (hacc.alloc hacc.size _).trans (hbx.mono (by have := hacc.size; simp; omega)) | exact (hacc.setCell (by first | omega | (simp; done) | (simp; omega)) _).setCell (by first | omega | (simp; done) | (simp; omega)) _ | (repeat (first | (with_reducible exact hacc) | (with_reducible refine Below.setCell ?_ (by first | exact Nat.le_refl _ | omega) _)))) (fun hacc => ?_)
              have hsz := hacc.size
              try simp only [World.size_alloc] at hsz
              clear hK K
              try simp only [Act.put, List.setIfInBounds_toArray, List.set_cons_zero, List.set_cons_succ]
              refine RG_done (by kernel_rfl) ?_
              refine hR _ _ ?_
              go_wp2_with fail
              refine (sizeOne W4 _ _).mono ?_
              rintro e w9 ⟨rfl, hb9⟩
              have HB9 := Lib.hid hb9
              clear hb9
              go_wp2
              go_ret2
              rw [hF]
              exact ⟨rfl, chain HBX.out HB9.out⟩
            · have hp := sz_pos HT.out.1 (TB.out R hit1).2.1 (HC.out.2.2 R (Nat.le_refl _) hit1)
              go_wp2_with fail
              refine RG_begin 19 #[false, false, false, false, false, false, false, false, false, false, false, false, false, false, false, false, false, false, false] rfl rfl (by kernel_rfl) (fun R hR hacc => ?_)
              refine RG_take (i := 0) (v := ?v7xc1) (some 37) #[true, false, false, false, false, false, false, false, false, false, false, false, false, false, false, false, false, false, false] rfl rfl (by kernel_rfl) (by kernel_rfl) (by kernel_rfl) rfl rfl (fun x => ?h7xc1) ?n7xc1
              case h7xc1 => (go_simp; try with_reducible rfl)
              try simp only [Act.put, List.setIfInBounds_toArray, List.set_cons_zero, List.set_cons_succ]
              refine RG_take (i := 1) (v := ?v7xc2) (some 38) #[true, true, false, false, false, false, false, false, false, false, false, false, false, false, false, false, false, false, false] rfl rfl (by kernel_rfl) (by kernel_rfl) (by kernel_rfl) rfl rfl (fun x => ?h7xc2) ?n7xc2
              case h7xc2 => (go_simp; try with_reducible rfl)
              try simp only [Act.put, List.setIfInBounds_toArray, List.set_cons_zero, List.set_cons_succ]
              refine RG_take (i := 2) (v := ?v7xc3) (some 39) #[true, true, true, false, false, false, false, false, false, false, false, false, false, false, false, false, false, false, false] rfl rfl (by kernel_rfl) (by kernel_rfl) (by kernel_rfl) rfl rfl (fun x => ?h7xc3) ?n7xc3
              case h7xc3 => (go_simp; try with_reducible rfl)
              try simp only [Act.put, List.setIfInBounds_toArray, List.set_cons_zero, List.set_cons_succ]
              refine RG_take (i := 3) (v := ?v7xc4) (some 40) #[true, true, true, true, false, false, false, false, false, false, false, false, false, false, false, false, false, false, false] rfl rfl (by kernel_rfl) (by kernel_rfl) (by kernel_rfl) rfl rfl (fun x => ?h7xc4) ?n7xc4
              case h7xc4 => (go_simp; try with_reducible rfl)
              try simp only [Act.put, List.setIfInBounds_toArray, List.set_cons_zero, List.set_cons_succ]
              refine RG_take (i := 4) (v := ?v7xc5) (some 41) #[true, true, true, true, true, false, false, false, false, false, false, false, false, false, false, false, false, false, false] rfl rfl (by kernel_rfl) (by kernel_rfl) (by kernel_rfl) rfl rfl (fun x => ?h7xc5) ?n7xc5
              case h7xc5 => (go_simp; try with_reducible rfl)
              try simp only [Act.put, List.setIfInBounds_toArray, List.set_cons_zero, List.set_cons_succ]
              refine RG_take (i := 5) (v := ?v7xc6) (some 42) #[true, true, true, true, true, true, false, false, false, false, false, false, false, false, false, false, false, false, false] rfl rfl (by kernel_rfl) (by kernel_rfl) (by kernel_rfl) rfl rfl (fun x => ?h7xc6) ?n7xc6
              case h7xc6 => (go_simp; try with_reducible rfl)
              try simp only [Act.put, List.setIfInBounds_toArray, List.set_cons_zero, List.set_cons_succ]
              refine RG_take (i := 6) (v := ?v7xc7) (some 43) #[true, true, true, true, true, true, true, false, false, false, false, false, false, false, false, false, false, false, false] rfl rfl (by kernel_rfl) (by kernel_rfl) (by kernel_rfl) rfl rfl (fun x => ?h7xc7) ?n7xc7
              case h7xc7 => (go_simp; try with_reducible rfl)
              try simp only [Act.put, List.setIfInBounds_toArray, List.set_cons_zero, List.set_cons_succ]
              refine RG_take (i := 7) (v := ?v7xc8) (some 44) #[true, true, true, true, true, true, true, true, false, false, false, false, false, false, false, false, false, false, false] rfl rfl (by kernel_rfl) (by kernel_rfl) (by kernel_rfl) rfl rfl (fun x => ?h7xc8) ?n7xc8
              case h7xc8 => (go_simp; try with_reducible rfl)
              try simp only [Act.put, List.setIfInBounds_toArray, List.set_cons_zero, List.set_cons_succ]
              refine RG_take (i := 8) (v := ?v7xc9) (some 45) #[true, true, true, true, true, true, true, true, true, false, false, false, false, false, false, false, false, false, false] rfl rfl (by kernel_rfl) (by kernel_rfl) (by kernel_rfl) rfl rfl (fun x => ?h7xc9) ?n7xc9
              case h7xc9 => (go_simp; try with_reducible rfl)
              try simp only [Act.put, List.setIfInBounds_toArray, List.set_cons_zero, List.set_cons_succ]
              refine RG_take (i := 9) (v := ?v7xc10) (some 46) #[true, true, true, true, true, true, true, true, true, true, false, false, false, false, false, false, false, false, false] rfl rfl (by kernel_rfl) (by kernel_rfl) (by kernel_rfl) rfl rfl (fun x => ?h7xc10) ?n7xc10
              case h7xc10 => (go_simp; try with_reducible rfl)
              try simp only [Act.put, List.setIfInBounds_toArray, List.set_cons_zero, List.set_cons_succ]
              refine RG_take (i := 10) (v := ?v7xc11) (some 47) #[true, true, true, true, true, true, true, true, true, true, true, false, false, false, false, false, false, false, false] rfl rfl (by kernel_rfl) (by kernel_rfl) (by kernel_rfl) rfl rfl (fun x => ?h7xc11) ?n7xc11
              case h7xc11 => (go_simp; try with_reducible rfl)
              try simp only [Act.put, List.setIfInBounds_toArray, List.set_cons_zero, List.set_cons_succ]
              refine RG_take (i := 11) (v := ?v7xc12) (some 48) #[true, true, true, true, true, true, true, true, true, true, true, true, false, false, false, false, false, false, false] rfl rfl (by kernel_rfl) (by kernel_rfl) (by kernel_rfl) rfl rfl (fun x => ?h7xc12) ?n7xc12
              case h7xc12 => (go_simp; try with_reducible rfl)
              try simp only [Act.put, List.setIfInBounds_toArray, List.set_cons_zero, List.set_cons_succ]
              refine RG_take (i := 12) (v := ?v7xc13) (some 49) #[true, true, true, true, true, true, true, true, true, true, true, true, true, false, false, false, false, false, false] rfl rfl (by kernel_rfl) (by kernel_rfl) (by kernel_rfl) rfl rfl (fun x => ?h7xc13) ?n7xc13
              case h7xc13 => (go_simp; try with_reducible rfl)
              try simp only [Act.put, List.setIfInBounds_toArray, List.set_cons_zero, List.set_cons_succ]
              refine RG_take (i := 13) (v := ?v7xc14) (some 50) #[true, true, true, true, true, true, true, true, true, true, true, true, true, true, false, false, false, false, false] rfl rfl (by kernel_rfl) (by kernel_rfl) (by kernel_rfl) rfl rfl (fun x => ?h7xc14) ?n7xc14
              case h7xc14 => (go_simp; try with_reducible rfl)
              try simp only [Act.put, List.setIfInBounds_toArray, List.set_cons_zero, List.set_cons_succ]
              refine RG_take (i := 14) (v := ?v7xc15) (some 51) #[true, true, true, true, true, true, true, true, true, true, true, true, true, true, true, false, false, false, false] rfl rfl (by kernel_rfl) (by kernel_rfl) (by kernel_rfl) rfl rfl (fun x => ?h7xc15) ?n7xc15
              case h7xc15 => (go_simp; try with_reducible rfl)
              try simp only [Act.put, List.setIfInBounds_toArray, List.set_cons_zero, List.set_cons_succ]
              refine RG_take (i := 15) (v := ?v7xc16) (some 52) #[true, true, true, true, true, true, true, true, true, true, true, true, true, true, true, true, false, false, false] rfl rfl (by kernel_rfl) (by kernel_rfl) (by kernel_rfl) rfl rfl (fun x => ?h7xc16) ?n7xc16
              case h7xc16 => (go_simp; try with_reducible rfl)
              try simp only [Act.put, List.setIfInBounds_toArray, List.set_cons_zero, List.set_cons_succ]
              refine RG_take (i := 16) (v := ?v7xc17) (some 53) #[true, true, true, true, true, true, true, true, true, true, true, true, true, true, true, true, true, false, false] rfl rfl (by kernel_rfl) (by kernel_rfl) (by kernel_rfl) rfl rfl (fun x => ?h7xc17) ?n7xc17
              case h7xc17 => (go_simp; try with_reducible rfl)
              try simp only [Act.put, List.setIfInBounds_toArray, List.set_cons_zero, List.set_cons_succ]
              refine RG_one (i := 17) #[true, true, true, true, true, true, true, true, true, true, true, true, true, true, true, true, true, true, false] rfl (by kernel_rfl) rfl rfl (fun K hK => ?_)
              go_wp2_with (fail)
              refine RG_keep hK (by first | exact ((Below.refl _ _).alloc (Nat.le_refl _) _).drew | exact chain hacc hbx | exact hacc.alloc hacc.size _ | exact Below.alloc (by assumption) (by omega) _ | exact hacc | exact hacc.trans (hbx.mono (by have := hacc.size; simp; omega)) | exact (hacc.alloc hacc.size _).trans (hbx.mono (by have := hacc.size; simp; omega)) | exact (hacc.setCell (by first | omega | (simp; done) | (simp; omega)) _).setCell (by first | omega | (simp; done) | (simp; omega)) _ | (repeat (first | (with_reducible exact hacc) | (with_reducible refine Below.setCell ?_ (by first | exact Nat.le_refl _ | omega) _)))) (fun hacc => ?_)
              have hsz := hacc.size
              try simp only [World.size_alloc] at hsz
              clear hK K
              try simp only [Act.put, List.setIfInBounds_toArray, List.set_cons_zero, List.set_cons_succ]
              refine RG_one (i := 18) #[true, true, true, true, true, true, true, true, true, true, true, true, true, true, true, true, true, true, true] rfl (by kernel_rfl) rfl rfl (fun K hK => ?_)
              go_wp2_with (fail)
              refine RG_keep hK (by first | exact ((Below.refl _ _).alloc (Nat.le_refl _) _).drew | exact chain hacc hbx | exact hacc.alloc hacc.size _ | exact Below.alloc (by assumption) (by omega) _ | exact hacc | exact hacc.trans (hbx.mono (by have := hacc.size; simp; omega)) | exact (hacc.alloc hacc.size _).trans (hbx.mono (by have := hacc.size; simp; omega)) | exact (hacc.setCell (by first | omega | (simp; done) | (simp; omega)) _).setCell (by first | omega | (simp; done) | (simp; omega)) _ | (repeat (first | (with_reducible exact hacc) | (with_reducible refine Below.setCell ?_ (by first | exact Nat.le_refl _ | omega) _)))) (fun hacc => ?_)
              have hsz := hacc.size
              try simp only [World.size_alloc] at hsz
              clear hK K
              try simp only [Act.put, List.setIfInBounds_toArray, List.set_cons_zero, List.set_cons_succ]
              refine RG_done (by kernel_rfl) ?_
              refine hR _ _ ?_
              go_wp2_with fail
              refine (sizeOne W4 _ _).mono ?_
              rintro e w9 ⟨rfl, hb9⟩
              have HB9 := Lib.hid hb9
              clear hb9
              go_wp2
              go_ret2
              rw [hF]
              exact ⟨rfl, chain HBX.out HB9.out⟩
            · have hp := sz_pos HT.out.1 HT.out.2.1 HT.out.2.2.1
              go_wp2_with fail
              refine RG_begin 19 #[false, false, false, false, false, false, false, false, false, false, false, false, false, false, false, false, false, false, false] rfl rfl (by kernel_rfl) (fun R hR hacc => ?_)
              refine RG_take (i := 0) (v := ?v7xd1) (some 37) #[true, false, false, false, false, false, false, false, false, false, false, false, false, false, false, false, false, false, false] rfl rfl (by kernel_rfl) (by kernel_rfl) (by kernel_rfl) rfl rfl (fun x => ?h7xd1) ?n7xd1
              case h7xd1 => (go_simp; try with_reducible rfl)
              try simp only [Act.put, List.setIfInBounds_toArray, List.set_cons_zero, List.set_cons_succ]
              refine RG_take (i := 1) (v := ?v7xd2) (some 38) #[true, true, false, false, false, false, false, false, false, false, false, false, false, false, false, false, false, false, false] rfl rfl (by kernel_rfl) (by kernel_rfl) (by kernel_rfl) rfl rfl (fun x => ?h7xd2) ?n7xd2
              case h7xd2 => (go_simp; try with_reducible rfl)
              try simp only [Act.put, List.setIfInBounds_toArray, List.set_cons_zero, List.set_cons_succ]
              refine RG_take (i := 2) (v := ?v7xd3) (some 39) #[true, true, true, false, false, false, false, false, false, false, false, false, false, false, false, false, false, false, false] rfl rfl (by kernel_rfl) (by kernel_rfl) (by kernel_rfl) rfl rfl (fun x => ?h7xd3) ?n7xd3
              case h7xd3 => (go_simp; try with_reducible rfl)
              try simp only [Act.put, List.setIfInBounds_toArray, List.set_cons_zero, List.set_cons_succ]
              refine RG_take (i := 3) (v := ?v7xd4) (some 40) #[true, true, true, true, false, false, false, false, false, false, false, false, false, false, false, false, false, false, false] rfl rfl (by kernel_rfl) (by kernel_rfl) (by kernel_rfl) rfl rfl (fun x => ?h7xd4) ?n7xd4
              case h7xd4 => (go_simp; try with_reducible rfl)
              try simp only [Act.put, List.setIfInBounds_toArray, List.set_cons_zero, List.set_cons_succ]
              refine RG_take (i := 4) (v := ?v7xd5) (some 41) #[true, true, true, true, true, false, false, false, false, false, false, false, false, false, false, false, false, false, false] rfl rfl (by kernel_rfl) (by kernel_rfl) (by kernel_rfl) rfl rfl (fun x => ?h7xd5) ?n7xd5
              case h7xd5 => (go_simp; try with_reducible rfl)
              try simp only [Act.put, List.setIfInBounds_toArray, List.set_cons_zero, List.set_cons_succ]
              refine RG_take (i := 5) (v := ?v7xd6) (some 42) #[true, true, true, true, true, true, false, false, false, false, false, false, false, false, false, false, false, false, false] rfl rfl (by kernel_rfl) (by kernel_rfl) (by kernel_rfl) rfl rfl (fun x => ?h7xd6) ?n7xd6
              case h7xd6 => (go_simp; try with_reducible rfl)
              try simp only [Act.put, List.setIfInBounds_toArray, List.set_cons_zero, List.set_cons_succ]
              refine RG_take (i := 6) (v := ?v7xd7) (some 43) #[true, true, true, true, true, true, true, false, false, false, false, false, false, false, false, false, false, false, false] rfl rfl (by kernel_rfl) (by kernel_rfl) (by kernel_rfl) rfl rfl (fun x => ?h7xd7) ?n7xd7
              case h7xd7 => (go_simp; try with_reducible rfl)
              try simp only [Act.put, List.setIfInBounds_toArray, List.set_cons_zero, List.set_cons_succ]
              refine RG_take (i := 7) (v := ?v7xd8) (some 44) #[true, true, true, true, true, true, true, true, false, false, false, false, false, false, false, false, false, false, false] rfl rfl (by kernel_rfl) (by kernel_rfl) (by kernel_rfl) rfl rfl (fun x => ?h7xd8) ?n7xd8
              case h7xd8 => (go_simp; try with_reducible rfl)
              try simp only [Act.put, List.setIfInBounds_toArray, List.set_cons_zero, List.set_cons_succ]
              refine RG_take (i := 8) (v := ?v7xd9) (some 45) #[true, true, true, true, true, true, true, true, true, false, false, false, false, false, false, false, false, false, false] rfl rfl (by kernel_rfl) (by kernel_rfl) (by kernel_rfl) rfl rfl (fun x => ?h7xd9) ?n7xd9
              case h7xd9 => (go_simp; try with_reducible rfl)
              try simp only [Act.put, List.setIfInBounds_toArray, List.set_cons_zero, List.set_cons_succ]
              refine RG_take (i := 9) (v := ?v7xd10) (some 46) #[true, true, true, true, true, true, true, true, true, true, false, false, false, false, false, false, false, false, false] rfl rfl (by kernel_rfl) (by kernel_rfl) (by kernel_rfl) rfl rfl (fun x => ?h7xd10) ?n7xd10
              case h7xd10 => (go_simp; try with_reducible rfl)
              try simp only [Act.put, List.setIfInBounds_toArray, List.set_cons_zero, List.set_cons_succ]
              refine RG_take (i := 10) (v := ?v7xd11) (some 47) #[true, true, true, true, true, true, true, true, true, true, true, false, false, false, false, false, false, false, false] rfl rfl (by kernel_rfl) (by kernel_rfl) (by kernel_rfl) rfl rfl (fun x => ?h7xd11) ?n7xd11
              case h7xd11 => (go_simp; try with_reducible rfl)
              try simp only [Act.put, List.setIfInBounds_toArray, List.set_cons_zero, List.set_cons_succ]
              refine RG_take (i := 11) (v := ?v7xd12) (some 48) #[true, true, true, true, true, true, true, true, true, true, true, true, false, false, false, false, false, false, false] rfl rfl (by kernel_rfl) (by kernel_rfl) (by kernel_rfl) rfl rfl (fun x => ?h7xd12) ?n7xd12
              case h7xd12 => (go_simp; try with_reducible rfl)
              try simp only [Act.put, List.setIfInBounds_toArray, List.set_cons_zero, List.set_cons_succ]
              refine RG_take (i := 12) (v := ?v7xd13) (some 49) #[true, true, true, true, true, true, true, true, true, true, true, true, true, false, false, false, false, false, false] rfl rfl (by kernel_rfl) (by kernel_rfl) (by kernel_rfl) rfl rfl (fun x => ?h7xd13) ?n7xd13
              case h7xd13 => (go_simp; try with_reducible rfl)
              try simp only [Act.put, List.setIfInBounds_toArray, List.set_cons_zero, List.set_cons_succ]
              refine RG_take (i := 13) (v := ?v7xd14) (some 50) #[true, true, true, true, true, true, true, true, true, true, true, true, true, true, false, false, false, false, false] rfl rfl (by kernel_rfl) (by kernel_rfl) (by kernel_rfl) rfl rfl (fun x => ?h7xd14) ?n7xd14
              case h7xd14 => (go_simp; try with_reducible rfl)
              try simp only [Act.put, List.setIfInBounds_toArray, List.set_cons_zero, List.set_cons_succ]
              refine RG_take (i := 14) (v := ?v7xd15) (some 51) #[true, true, true, true, true, true, true, true, true, true, true, true, true, true, true, false, false, false, false] rfl rfl (by kernel_rfl) (by kernel_rfl) (by kernel_rfl) rfl rfl (fun x => ?h7xd15) ?n7xd15
              case h7xd15 => (go_simp; try with_reducible rfl)
              try simp only [Act.put, List.setIfInBounds_toArray, List.set_cons_zero, List.set_cons_succ]
              refine RG_take (i := 15) (v := ?v7xd16) (some 52) #[true, true, true, true, true, true, true, true, true, true, true, true, true, true, true, true, false, false, false] rfl rfl (by kernel_rfl) (by kernel_rfl) (by kernel_rfl) rfl rfl (fun x => ?h7xd16) ?n7xd16
              case h7xd16 => (go_simp; try with_reducible rfl)
              try simp only [Act.put, List.setIfInBounds_toArray, List.set_cons_zero, List.set_cons_succ]
              refine RG_take (i := 16) (v := ?v7xd17) (some 53) #[true, true, true, true, true, true, true, true, true, true, true, true, true, true, true, true, true, false, false] rfl rfl (by kernel_rfl) (by kernel_rfl) (by kernel_rfl) rfl rfl (fun x => ?h7xd17) ?n7xd17
              case h7xd17 => (go_simp; try with_reducible rfl)
              try simp only [Act.put, List.setIfInBounds_toArray, List.set_cons_zero, List.set_cons_succ]
              refine RG_one (i := 17) #[true, true, true, true, true, true, true, true, true, true, true, true, true, true, true, true, true, true, false] rfl (by kernel_rfl) rfl rfl (fun K hK => ?_)
              go_wp2_with (fail)
              refine RG_keep hK (by first | exact ((Below.refl _ _).alloc (Nat.le_refl _) _).drew | exact chain hacc hbx | exact hacc.alloc hacc.size _ | exact Below.alloc (by assumption) (by omega) _ | exact hacc | exact hacc.trans (hbx.mono (by have := hacc.size; simp; omega)) | exact (hacc.alloc hacc.size _).trans (hbx.mono (by have := hacc.size; simp; omega)) | exact (hacc.setCell (by first | omega | (simp; done) | (simp; omega)) _).setCell (by first | omega | (simp; done) | (simp; omega)) _ | (repeat (first | (with_reducible exact hacc) | (with_reducible refine Below.setCell ?_ (by first | exact Nat.le_refl _ | omega) _)))) (fun hacc => ?_)
              have hsz := hacc.size
              try simp only [World.size_alloc] at hsz
              clear hK K
              try simp only [Act.put, List.setIfInBounds_toArray, List.set_cons_zero, List.set_cons_succ]
              refine RG_one (i := 18) #[true, true, true, true, true, true, true, true, true, true, true, true, true, true, true, true, true, true, true] rfl (by kernel_rfl) rfl rfl (fun K hK => ?_)
              go_wp2_with (fail)
              refine RG_keep hK (by first | exact ((Below.refl _ _).alloc (Nat.le_refl _) _).drew | exact chain hacc hbx | exact hacc.alloc hacc.size _ | exact Below.alloc (by assumption) (by omega) _ | exact hacc | exact hacc.trans (hbx.mono (by have := hacc.size; simp; omega)) | exact (hacc.alloc hacc.size _).trans (hbx.mono (by have := hacc.size; simp; omega)) | exact (hacc.setCell (by first | omega | (simp; done) | (simp; omega)) _).setCell (by first | omega | (simp; done) | (simp; omega)) _ | (repeat (first | (with_reducible exact hacc) | (with_reducible refine Below.setCell ?_ (by first | exact Nat.le_refl _ | omega) _)))) (fun hacc => ?_)
              have hsz := hacc.size
              try simp only [World.size_alloc] at hsz
              clear hK K
              try simp only [Act.put, List.setIfInBounds_toArray, List.set_cons_zero, List.set_cons_succ]
              refine RG_done (by kernel_rfl) ?_
              refine hR _ _ ?_
              go_wp2_with fail
              refine (sizeOne W4 _ _).mono ?_
              rintro e w9 ⟨rfl, hb9⟩
              have HB9 := Lib.hid hb9
              clear hb9
              go_wp2
              go_ret2
              rw [hF]
              exact ⟨rfl, chain HBX.out HB9.out⟩
          · have hno := HM.out (by rw [HHT.out]; exact decide_eq_false (fun h => hle h.2))
            go_wp2_with fail
            refine region_calm (by kernel_rfl) (by kernel_rfl) ?_
            repeat (quiet_step ((fail)))
            refine wpQuiet_nil ?_
            rintro _ ⟨x, rfl⟩
            go_wp2_with fail
            go_roundg (la - (k + 1))
            case measure => have := HG.out; omega
            case rel => exact ⟨k + 1, by omega, rfl, by go_num, Later.chain HB4.out x, hno⟩
        · have hno := HM.out (by rw [HHT.out]; exact decide_eq_false (fun h => hit1 h.1))
          have hRi : ¬ ((R : Int) < lb) := by omega
          go_wp2_with fail
          refine region_calm (by kernel_rfl) (by kernel_rfl) ?_
          repeat (quiet_step ((fail)))
          refine wpQuiet_nil ?_
          rintro _ ⟨x, rfl⟩
          go_wp2_with fail
          go_roundg (la - (k + 1))
          case measure => have := HG.out; omega
          case rel => exact ⟨k + 1, by omega, rfl, by go_num, Later.chain HB4.out x, hno⟩
    · have hkn : k = la := by omega
      subst hkn
      go_wp2
      go_ret2
      rw [fr_end hfr]
      exact ⟨rfl, hbw⟩
end Go.Proofs.YtkjkgpdfhmoenaaDoor.SpMeet
namespace Go.Proofs.YtkjkgpdfhmoenaaDoor.SpRefMeet
open Go Go.RowKit Go.Proofs.YtkjkgpdfhmoenaaDoor.Kit Go.Proofs.YtkjkgpdfhmoenaaDoor.SpFns Go.Proofs.YtkjkgpdfhmoenaaDoor.SpFind Go.Proofs.YtkjkgpdfhmoenaaDoor.SpSize Go.Proofs.YtkjkgpdfhmoenaaDoor.SpLists
attribute [local irreducible] wpQuiet

set_option maxHeartbeats 4000000 in
set_option maxRecDepth 100000 in
theorem refMeet_calls (a b : Option Addr) (la ca lb cb : Nat) (L H L' H' : Nat → Int) (w : World) (hra : Row w a la L H) (hrb : Row w b lb L' H') (ha : Rt L H la) (hb : Rt L' H' lb) :
    Calls Tryd.prog 90 #[.slice a la ca, .slice b lb cb] w fun e w' =>
      e = .returned (.tuple #[.int .i64 (fr (hit L H L' H' lb) la 0).1, .bool (fr (hit L H L' H' lb) la 0).2]) ∧ w = w' := by
  obtain ⟨F, hF⟩ : ∃ F, fr (hit L H L' H' lb) la 0 = F := ⟨_, rfl⟩
  rw [hF]
  have hla := ha.len_le
  have hlb := hb.len_le
  have HA := Lib.hid hra
  have HB := Lib.hid hrb
  have TA := Lib.hid ha
  have TB := Lib.hid hb
  have HF := Lib.hid hF
  clear hra hrb ha hb hF
  go_enter Tryd.func90, Tryd.ntmps90
  go_wp2_with fail
  go_loopg [6] la (fun g i wr => ∃ k : Nat, k ≤ la ∧ g = la - k ∧ i = .int .i64 k ∧ w = wr ∧ fr (hit L H L' H' lb) (la - k) k = F)
  case atStart => exact ⟨0, Nat.zero_le _, by omega, rfl, rfl, HF.out⟩
  case round =>
    obtain ⟨k, hk, hg, rfl, rfl, hfr⟩ := hrel
    have HG := Lib.hid hg
    clear hg
    by_cases hlt : k < la
    · obtain ⟨b1, o1, rfl, hb1, hc1⟩ := HA.out.at hlt
      have c0 := (hc1 k hlt).1
      have c1 := (hc1 k hlt).2
      have hi : (k : Int) < la := by omega
      obtain ⟨t1, _, t3, _⟩ := TA.out k hlt
      have hhit : hit L H L' H' lb k = true → F = ((k : Int), true) := fun h => fr_hit hfr hlt h
      have hmiss : hit L H L' H' lb k = false → fr (hit L H L' H' lb) (la - (k + 1)) (k + 1) = F := fun h => fr_on hfr hlt h
      have HH := Lib.hid hhit
      have HM := Lib.hid hmiss
      clear hc1 hfr hhit hmiss
      go_wp2_with fail
      go_loopg [7] lb (fun g s7 wx => ∃ j : Nat, j ≤ lb ∧ g = lb - j ∧ s7 = .int .i64 j ∧ w = wx ∧ ∀ j', j' < j → ¬ (L k ≤ H' j' ∧ L' j' ≤ H k))
      case atStart => exact ⟨0, Nat.zero_le _, by omega, rfl, rfl, fun j' hj' => by omega⟩
      case round =>
        obtain ⟨j, hj, hg2, rfl, rfl, hno⟩ := hrel
        have HG2 := Lib.hid hg2
        have HN := Lib.hid hno
        clear hg2 hno
        by_cases hjl : j < lb
        · obtain ⟨b2, o2, rfl, hb2, hc2⟩ := HB.out.at hjl
          have f0 := (hc2 j hjl).1
          have f1 := (hc2 j hjl).2
          have hji : (j : Int) < lb := by omega
          obtain ⟨u1, _, u3, _⟩ := TB.out j hjl
          clear hc2
          have hnext : ¬ (L k ≤ H' j ∧ L' j ≤ H k) → ∀ j', j' < j + 1 → ¬ (L k ≤ H' j' ∧ L' j' ≤ H k) := fun h j' h' => by
            rcases Nat.lt_or_ge j' j with h2 | h2
            · exact HN.out j' h2
            · have : j' = j := by omega
              subst this
              exact h
          have HX := Lib.hid hnext
          clear hnext
          by_cases a3 : L k ≤ H' j
          · by_cases a4 : L' j ≤ H k
            · have hF := HH.out (decide_eq_true ⟨j, hjl, a3, a4⟩)
              have HFF := Lib.hid hF
              clear hF
              go_wp2_with (go_at_call 107; refine (Rune_calls _ _).mono ?_; rintro e w' ⟨rfl, rfl⟩)
              all_goals
                go_ret2
                rw [HFF.out]
                exact ⟨rfl, rfl⟩
            · have q1 : L k < L' j := by omega
              have q2 : ¬ H' j < H k := by omega
              go_wp2_with (go_at_call 107; refine (Rune_calls _ _).mono ?_; rintro e w' ⟨rfl, rfl⟩)
              go_roundg (lb - (j + 1))
              case measure => have := HG2.out; omega
              case rel => exact ⟨j + 1, by omega, rfl, by go_num, rfl, HX.out (fun h => by have := h.2; omega)⟩
          · have q1 : ¬ L k < L' j := by omega
            have q2 : H' j < H k := by omega
            go_wp2_with (go_at_call 107; refine (Rune_calls _ _).mono ?_; rintro e w' ⟨rfl, rfl⟩)
            go_roundg (lb - (j + 1))
            case measure => have := HG2.out; omega
            case rel => exact ⟨j + 1, by omega, rfl, by go_num, rfl, HX.out (fun h => by have := h.1; omega)⟩
        · have hjn : j = lb := by omega
          subst hjn
          have hno := HM.out (decide_eq_false (fun ⟨j', h1, h2⟩ => HN.out j' h1 h2))
          have HNO := Lib.hid hno
          clear hno
          go_wp2_with fail
          go_roundg (la - (k + 1))
          case measure => have := HG.out; omega
          case rel => exact ⟨k + 1, by omega, rfl, by go_num, rfl, HNO.out⟩
    · have hkn : k = la := by omega
      subst hkn
      go_wp2
      go_ret2
      rw [fr_end hfr]
      exact ⟨rfl, rfl⟩
end Go.Proofs.YtkjkgpdfhmoenaaDoor.SpRefMeet
