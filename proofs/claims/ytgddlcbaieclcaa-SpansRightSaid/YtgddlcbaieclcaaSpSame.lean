/-
  tesserabook's Same and Intact of spans, where they say true.
-/
import Derived.Test.YtgddlcbaieclcaaSpRoom
namespace Go.Proofs.Ytgddlcbaieclcaa.SpSame
open Go Go.RowKit Go.Proofs.Ytgddlcbaieclcaa.Kit Go.Proofs.Ytgddlcbaieclcaa.SpFns Go.Proofs.Ytgddlcbaieclcaa.SpRoom
attribute [local irreducible] wpQuiet

set_option maxRecDepth 100000 in
theorem Same_calls (a b : Option Addr) (len ca cb : Nat) (L H : Nat → Int) (w : World) (hr : Row w a len L H) (hq : Row w b len L H) (hl : len ≤ 1000000000000000000) :
    Calls Try.prog 69 #[.slice a len ca, .slice b len cb] w fun e w' => e = .returned (.bool true) ∧ Below w.heap.size w w' := by
  have HA := Lib.hid hr
  have HB := Lib.hid hq
  clear hr hq
  go_enter Try.func69, Try.ntmps69
  go_wp2_with fail
  go_loopg [5] len (fun g s5 wr => ∃ k : Nat, k ≤ len ∧ g = len - k ∧ s5 = .int .i64 k ∧ Below w.heap.size w wr)
  case atStart => exact ⟨0, Nat.zero_le _, by omega, rfl, Below.refl _ _⟩
  case round =>
    obtain ⟨k, hk, hg, rfl, hbw⟩ := hrel
    have HG := Lib.hid hg
    have HBW := Lib.hid hbw
    clear hg
    by_cases hlt : k < len
    · obtain ⟨b1, o1, rfl, hb1, hc1⟩ := (HA.out.below hbw).at hlt
      obtain ⟨b2, o2, rfl, hb2, hc2⟩ := (HB.out.below hbw).at hlt
      have c0 := (hc1 k hlt).1
      have c1 := (hc1 k hlt).2
      have d0 := (hc2 k hlt).1
      have d1 := (hc2 k hlt).2
      have hi : (k : Int) < len := by omega
      clear hc1 hc2 hbw
      go_wp2
      refine region_calm (by kernel_rfl) (by kernel_rfl) ?_
      repeat (quiet_step ((fail)))
      refine wpQuiet_nil ?_
      rintro _ ⟨x, rfl⟩
      go_wp2
      go_roundg (gk - 1)
      case measure => have := HG.out; omega
      case rel => exact ⟨k + 1, by omega, by have := HG.out; omega, by go_num, Later.chain HBW.out x⟩
    · have hkn : k = len := by omega
      subst hkn
      go_wp2
      go_ret
      exact ⟨rfl, hbw⟩

theorem Row.cong {w : World} {a : Option Addr} {len len' : Nat} {L H L' H' : Nat → Int} (h : Row w a len L H) (hl : len' ≤ len) (h1 : ∀ i, i < len' → L i = L' i ∧ H i = H' i) : Row w a len' L' H' := by
  rcases h with h | ⟨b, off, rfl, hb, hc⟩
  · exact .inl (by omega)
  · exact .inr ⟨b, off, rfl, hb, fun i hi => by rw [← (h1 i hi).1, ← (h1 i hi).2]; exact hc i (by omega)⟩

set_option maxRecDepth 100000 in
theorem Intact_calls (n : Nat) (a : Option Addr) (len cap : Nat) (L H : Nat → Int) (l h : Int) (w : World) (hf : Row w (some ⟨n, 0, none⟩) (len + 80) (ext len L l) (ext len H h)) (hr : Row w a len L H) (hl : len ≤ 17592186044416) :
    Calls Try.prog 34 #[.slice (some ⟨n, 0, none⟩) (len + 80) (len + 80), .slice a len cap, .agg #[.int .i32 l, .int .i32 h]] w fun e w' => e = .returned (.bool true) ∧ Below w.heap.size w w' := by
  have HF := Lib.hid hf
  have HR := Lib.hid hr
  clear hf hr
  go_enter Try.func34, Try.ntmps34
  go_wp2_with fail
  have hbox : (w.alloc (.cells #[.int .i32 l, .int .i32 h] 53)).heap[w.heap.size]? = some (.cells #[.int .i32 l, .int .i32 h] 53 (0, 0)) := alloc_new rfl
  have hB := (Below.refl w.heap.size w).alloc (Nat.le_refl _) (.cells #[.int .i32 l, .int .i32 h] 53)
  generalize World.alloc _ _ = W2 at hbox hB ⊢
  have hS := Same_calls (some ⟨n, 0, none⟩) a len (len + 80) cap L H W2 (Row.cong (HF.out.below hB) (by omega) (fun i hi => by simp [ext, hi])) (HR.out.below hB) (by omega)
  refine hS.mono ?_
  rintro e w1 ⟨rfl, hb⟩
  have hb1 := chain hB hb
  have hbox1 : w1.heap[w.heap.size]? = some (.cells #[.int .i32 l, .int .i32 h] 53 (0, 0)) := by rw [hb.block _ (lt_of_heap hbox)]; exact hbox
  have H1 := Lib.hid hb1
  have HX := Lib.hid hbox1
  clear hS hb hB hbox hb1 hbox1
  go_wp2_with fail
  go_loopg [7] 80 (fun g s7 wr => ∃ k : Nat, len ≤ k ∧ k ≤ len + 80 ∧ g = len + 80 - k ∧ s7 = .int .i64 k ∧ Below w1.heap.size w1 wr)
  case atStart => exact ⟨len, Nat.le_refl _, by omega, by omega, rfl, Below.refl _ _⟩
  case round =>
    obtain ⟨k, hlk, hk, hg, rfl, hbw⟩ := hrel
    have HG := Lib.hid hg
    have HBW := Lib.hid hbw
    clear hg
    by_cases hlt : k < len + 80
    · obtain ⟨b2, o2, hh, hb2, hc2⟩ := (HF.out.below (chain H1.out hbw)).at hlt
      cases hh
      have hq := hc2 k hlt
      have hlk' : ¬ k < len := by omega
      simp only [ext, if_neg hlk', Nat.zero_add] at hq
      obtain ⟨d0, d1⟩ := hq
      have hx2 : wr.heap[w.heap.size]? = _ := (hbw.block _ (lt_of_heap HX.out)).trans HX.out
      have c0 := cell_at hx2 0
      have c1 := cell_at hx2 1
      have hb3 := lt_of_heap hx2
      simp only [List.getElem?_toArray, List.getElem?_cons_zero, List.getElem?_cons_succ] at c0 c1
      have hi : (k : Int) < (len : Int) + 80 := by omega
      clear hc2 hbw hx2 hlk'
      go_wp2_with fail
      refine region_calm (by kernel_rfl) (by kernel_rfl) ?_
      repeat (quiet_step ((fail)))
      refine wpQuiet_nil ?_
      rintro _ ⟨x, rfl⟩
      go_wp2
      go_roundg (gk - 1)
      case measure => have := HG.out; omega
      case rel => exact ⟨k + 1, by omega, by omega, by have := HG.out; omega, by go_num, Later.chain HBW.out x⟩
    · have hkn : k = len + 80 := by omega
      subst hkn
      go_wp2
      go_ret
      exact ⟨rfl, chain H1.out hbw⟩
end Go.Proofs.Ytgddlcbaieclcaa.SpSame
