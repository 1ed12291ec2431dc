/-
  spans.Size.
-/
import Derived.Test.YtendkmldecoogaaDoorSpCut
namespace Go.Proofs.YtendkmldecoogaaDoor.SpSize
open Go Go.RowKit Go.Proofs.YtendkmldecoogaaDoor.Kit Go.Proofs.YtendkmldecoogaaDoor.SpFns Go.Proofs.YtendkmldecoogaaDoor.SpCut
attribute [local irreducible] wpQuiet

/-- How many runes a span has. -/
def sz (l h : Int) : Int := if max l 0 ≤ min h 1114111 then min h 1114111 - max l 0 + 1 - max 0 (min (min h 1114111) 57343 - max (max l 0) 55296 + 1) else 0
def sum (L H : Nat → Int) : Nat → Int
  | 0 => 0
  | k + 1 => sum L H k + sz (L k) (H k)

theorem sz_le (l h : Int) : 0 ≤ sz l h ∧ sz l h ≤ 1114112 := by
  unfold sz
  split <;> omega
theorem sum_le (L H : Nat → Int) (k : Nat) : 0 ≤ sum L H k ∧ sum L H k ≤ 1114112 * k := by
  induction k with
  | zero => exact ⟨Int.le_refl _, by simp [sum]⟩
  | succ k ih =>
    have := sz_le (L k) (H k)
    simp only [sum]
    omega
theorem i32w (n : Int) (h1 : -2147483648 ≤ n) (h2 : n ≤ 2147483647) : IntKind.i32.wrap n = n := IntWalk.i32_in n ⟨h1, h2⟩
theorem roundBelow {w wr w1 : World} {o o' : Obj} (h : Below w.heap.size w wr) (hb : Below (wr.alloc o).heap.size (wr.alloc o) w1) : Below w.heap.size w (w1.alloc o') := by
  have h2 := chain (h.alloc h.size o) hb
  exact h2.alloc h2.size o'

set_option maxHeartbeats 2000000 in
set_option maxRecDepth 100000 in
theorem Size_calls (a : Option Addr) (len cap : Nat) (L H : Nat → Int) (w : World) (hr : Row w a len L H) (hl : len ≤ 1114112) :
    Calls Tryd.prog 146 #[.slice a len cap] w fun e w' => e = .returned (.int .i64 (sum L H len)) ∧ Below w.heap.size w w' := by
  have HROW := Lib.hid hr
  clear hr
  go_enter Tryd.func146, Tryd.ntmps146
  go_wp2_with fail
  go_loopg [10, 3] len (fun g s10 s3 wr => ∃ k : Nat, k ≤ len ∧ g = len - k ∧ s10 = .int .i64 k ∧ s3 = .int .i64 (sum L H k) ∧ Below w.heap.size w wr)
  case atStart => exact ⟨0, Nat.zero_le _, by omega, rfl, rfl, Below.refl _ _⟩
  case round =>
    obtain ⟨k, hk, hg, rfl, rfl, hbw⟩ := hrel
    have HG := Lib.hid hg
    have HBW := Lib.hid hbw
    clear hg
    by_cases hlt : k < len
    · obtain ⟨b, off, rfl, hbl, hc⟩ := (HROW.out.below hbw).at hlt
      have c0 := (hc k hlt).1
      have c1 := (hc k hlt).2
      clear hc hbw
      have hi : (k : Int) < len := by omega
      obtain ⟨l, hl'⟩ : ∃ l, l = L k := ⟨_, rfl⟩
      obtain ⟨h, hh'⟩ : ∃ h, h = H k := ⟨_, rfl⟩
      rw [← hl'] at c0
      rw [← hh'] at c1
      have hs : sum L H (k + 1) = sum L H k + sz l h := by rw [hl', hh']; rfl
      have hsk := sum_le L H k
      have hsz := sz_le l h
      obtain ⟨S, hS⟩ : ∃ S, S = sum L H k := ⟨_, rfl⟩
      rw [← hS] at hs hsk ⊢
      clear hl' hh' hS
      have HS := Lib.hid hs
      clear hs
      obtain ⟨lo, hlo⟩ : ∃ lo, lo = max l 0 := ⟨_, rfl⟩
      obtain ⟨hi', hhi⟩ : ∃ hi', hi' = min h 1114111 := ⟨_, rfl⟩
      have HCUT := Lib.hid (fun w => cut_calls l h w)
      unfold sz at HS hsz
      simp only [← hlo, ← hhi] at HCUT HS hsz
      have b1 : 0 ≤ lo := by omega
      have b2 : hi' ≤ 1114111 := by omega
      clear hlo hhi
      have HSZ := Lib.hid hsz
      clear hsz
      by_cases hok : lo ≤ hi'
      · have m1 : IntKind.i32.wrap (hi' - lo) = hi' - lo := i32w _ (by omega) (by omega)
        go_wp2_with (go_at_call 154; with_reducible refine (HCUT.out _).mono ?_; rintro e w1 ⟨rfl, hb⟩; have HB := Lib.hid hb; clear hb)
        all_goals
          go_roundg (gk - 1)
          · exact ⟨k + 1, by omega, by have := HG.out; omega, by go_num, by rw [HS.out, if_pos hok]; exact congrArg (Value.int .i64) (by omega), roundBelow HBW.out HB.out⟩
          · have := HG.out; omega
      · simp only [decide_eq_false hok] at HCUT
        go_wp2_with (go_at_call 154; with_reducible refine (HCUT.out _).mono ?_; rintro e w1 ⟨rfl, hb⟩; have HB := Lib.hid hb; clear hb)
        all_goals
          go_roundg (gk - 1)
          · exact ⟨k + 1, by omega, by have := HG.out; omega, by go_num, by rw [HS.out, if_neg (by omega)]; exact congrArg (Value.int .i64) (by omega), roundBelow HBW.out HB.out⟩
          · have := HG.out; omega
    · have hkn : k = len := by omega
      subst hkn
      go_wp2
      go_ret
      exact ⟨rfl, hbw⟩
end Go.Proofs.YtendkmldecoogaaDoor.SpSize
