/-
  spans.Right.
-/
import Derived.Test.YtendkmldecoogaaDoorSpFns
namespace Go.Proofs.YtendkmldecoogaaDoor.SpRight
open Go Go.RowKit Go.Proofs.YtendkmldecoogaaDoor.Kit Go.Proofs.YtendkmldecoogaaDoor.SpFns
attribute [local irreducible] wpQuiet

theorem worldFacts {wr W3 : World} {b : Nat} {l h : Int} {t : TypeId} (hW : wr.alloc (.cells #[.int .i32 l, .int .i32 h] t) = W3) (hb : b < wr.heap.size) :
    Below wr.heap.size wr W3 ∧ b < W3.heap.size ∧ wr.heap.size < W3.heap.size ∧ W3.cell? ⟨wr.heap.size, 0, none⟩ = some (.int .i32 l) ∧ W3.cell? ⟨wr.heap.size, 1, none⟩ = some (.int .i32 h) ∧ (∀ b o, b < wr.heap.size → W3.cell? ⟨b, o, none⟩ = wr.cell? ⟨b, o, none⟩) := by
  subst hW
  have hB := (Below.refl wr.heap.size wr).alloc (Nat.le_refl _) (.cells #[.int .i32 l, .int .i32 h] t)
  exact ⟨hB, by simp; omega, by simp, by rw [cell_at (alloc_new rfl)]; rfl, by rw [cell_at (alloc_new rfl)]; rfl, (bcell hB).1⟩

set_option maxHeartbeats 4000000 in
set_option maxRecDepth 100000 in
theorem Right_calls (a : Option Addr) (len cap : Nat) (L H : Nat → Int) (w : World) (hr : Row w a len L H) (hl : len ≤ 9223372036854775807) :
    Calls Tryd.prog 125 #[.slice a len cap] w fun e w' =>
      e = .returned (.tuple #[.int .i64 (rt L H len 0).1, .int .i64 (rt L H len 0).2]) ∧ Below w.heap.size w w' := by
  obtain ⟨R, hR⟩ : ∃ R, rt L H len 0 = R := ⟨_, rfl⟩
  rw [hR]
  have HR := Lib.hid hR
  have HROW := Lib.hid hr
  clear hR hr
  go_enter Tryd.func125, Tryd.ntmps125
  go_wp2_with fail
  go_loopg [8] len (fun g i wr => ∃ k : Nat, k ≤ len ∧ g = len - k ∧ i = .int .i64 k ∧ Below w.heap.size w wr ∧ rt L H (len - k) k = R)
  case atStart => exact ⟨0, Nat.zero_le _, by omega, rfl, by repeat (first | exact Below.refl _ _ | apply Below.drew | assumption | (refine Below.alloc ?_ (by first | omega | (simp; done) | (simp <;> omega)) _) | (refine Below.setCell ?_ (by first | omega | (simp; done) | (simp <;> omega)) _)), HR.out⟩
  case round =>
    obtain ⟨k, hk, hg, rfl, hbw, hrt⟩ := hrel
    have HG := Lib.hid hg
    clear hg
    have HBW := Lib.hid hbw
    by_cases hlt : k < len
    · have hr2 := HROW.out.below hbw
      clear hbw
      obtain ⟨b, off, rfl, hbl, hc⟩ := hr2.at hlt
      have c0 := (hc k hlt).1
      have c1 := (hc k hlt).2
      have hs : ∀ e, bad L H k = e → e ≠ 0 → R = ((k : Int), e) := fun e h1 h2 => rt_stop hrt hlt h1 h2
      have ho := @rt_on L H len k R hrt hlt
      have HS := Lib.hid hs
      have HO := Lib.hid ho
      clear hrt hs ho hr2
      have hi : (k : Int) < len := by omega
      rcases bad_cases L H k with ⟨hb, q1⟩ | ⟨hb, q1, q2⟩ | ⟨hb, q1, q2, q3⟩ | ⟨hb, q1, q2, q3, q4⟩ | ⟨hb, q1, q2, q3, q4, q5⟩ | ⟨hb, q1, q2, q3, q4, q5⟩
      · go_wp2_with (go_at_call 139; refine (ValidRune_calls _ _).mono ?_; rintro e w' ⟨rfl, rfl⟩)
        go_ret2
        rw [HS.out _ hb (by decide)]
        have hbw := HBW.out
        exact ⟨rfl, hbw.alloc hbw.size _⟩
      · go_wp2_with (go_at_call 139; refine (ValidRune_calls _ _).mono ?_; rintro e w' ⟨rfl, rfl⟩)
        go_ret2
        rw [HS.out _ hb (by decide)]
        have hbw := HBW.out
        exact ⟨rfl, hbw.alloc hbw.size _⟩
      · go_wp2_with (go_at_call 139; refine (ValidRune_calls _ _).mono ?_; rintro e w' ⟨rfl, rfl⟩)
        generalize hW : World.alloc _ _ = W3
        obtain ⟨hb3, hbl3, hn3, d0, d1, d2⟩ := worldFacts hW hbl
        clear hW
        clear d2 hc
        refine region_calm (by kernel_rfl) (by kernel_rfl) ?_
        repeat (quiet_step ((fail)))
        refine wpQuiet_nil ?_
        rintro _ ⟨x, rfl⟩
        go_wp2
        go_ret2
        rw [HS.out _ hb (by decide)]
        exact ⟨rfl, Later.chain (chain HBW.out hb3) x⟩
      · subst q4
        simp only [Nat.zero_mul, Nat.add_zero] at c0 c1
        go_wp2_with (go_at_call 139; refine (ValidRune_calls _ _).mono ?_; rintro e w' ⟨rfl, rfl⟩)
        generalize hW : World.alloc _ _ = W3
        obtain ⟨hb3, hbl3, hn3, d0, d1, d2⟩ := worldFacts hW hbl
        clear hW
        clear d2 hc
        refine region_calm (by kernel_rfl) (by kernel_rfl) ?_
        repeat (quiet_step ((fail)))
        refine wpQuiet_nil ?_
        rintro _ ⟨x, rfl⟩
        go_wp2
        go_roundg (gk - 1)
        case measure => have := HG.out; omega
        case rel => exact ⟨0 + 1, by omega, by have := HG.out; omega, by go_num, Later.chain (chain HBW.out hb3) x, HO.out hb⟩
      · have q6 : (0 : Int) < k := by omega
        have c2 := (hc (k - 1) (by omega)).2
        have hw : IntKind.i64.wrap ((k : Int) - 1) = ((k - 1 : Nat) : Int) := by rw [i64w _ (by omega) (by omega)]; omega
        have hj : k - 1 < len := by omega
        have hj' : ((k - 1 : Nat) : Int) < len := by omega
        go_wp2_with (go_at_call 139; refine (ValidRune_calls _ _).mono ?_; rintro e w' ⟨rfl, rfl⟩)
        generalize hW : World.alloc _ _ = W3
        obtain ⟨hb3, hbl3, hn3, d0, d1, d2⟩ := worldFacts hW hbl
        clear hW
        have e2 := d2 b (off + (k - 1) * 2 + 1) hbl
        rw [c2] at e2
        clear d2 hc
        refine region_calm (by kernel_rfl) (by kernel_rfl) ?_
        repeat (quiet_step ((fail)))
        refine wpQuiet_nil ?_
        rintro _ ⟨x, rfl⟩
        go_wp2
        go_ret2
        rw [HS.out _ hb (by decide)]
        exact ⟨rfl, Later.chain (chain HBW.out hb3) x⟩
      · have q6 : (0 : Int) < k := by omega
        have c2 := (hc (k - 1) (by omega)).2
        have hw : IntKind.i64.wrap ((k : Int) - 1) = ((k - 1 : Nat) : Int) := by rw [i64w _ (by omega) (by omega)]; omega
        have hj : k - 1 < len := by omega
        have hj' : ((k - 1 : Nat) : Int) < len := by omega
        go_wp2_with (go_at_call 139; refine (ValidRune_calls _ _).mono ?_; rintro e w' ⟨rfl, rfl⟩)
        generalize hW : World.alloc _ _ = W3
        obtain ⟨hb3, hbl3, hn3, d0, d1, d2⟩ := worldFacts hW hbl
        clear hW
        have e2 := d2 b (off + (k - 1) * 2 + 1) hbl
        rw [c2] at e2
        clear d2 hc
        refine region_calm (by kernel_rfl) (by kernel_rfl) ?_
        repeat (quiet_step ((fail)))
        refine wpQuiet_nil ?_
        rintro _ ⟨x, rfl⟩
        go_wp2
        go_roundg (gk - 1)
        case measure => have := HG.out; omega
        case rel => exact ⟨k + 1, by omega, by have := HG.out; omega, by go_num, Later.chain (chain HBW.out hb3) x, HO.out hb⟩
    · have hkn : k = len := by omega
      subst hkn
      go_wp2
      go_ret2
      rw [rt_end hrt]
      exact ⟨rfl, hbw⟩
end Go.Proofs.YtendkmldecoogaaDoor.SpRight
