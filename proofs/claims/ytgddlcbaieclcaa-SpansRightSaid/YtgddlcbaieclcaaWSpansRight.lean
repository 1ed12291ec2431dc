/-
  The walk of the law SpansRight.
-/
import Derived.Test.YtgddlcbaieclcaaSpSame
import Derived.Test.YtgddlcbaieclcaaSpKnown
namespace Go.Proofs.Ytgddlcbaieclcaa.spansRight
open Go Go.RowKit Go.Proofs.Ytgddlcbaieclcaa.Kit Go.Proofs.Ytgddlcbaieclcaa.SpFns Go.Proofs.Ytgddlcbaieclcaa.SpRight Go.Proofs.Ytgddlcbaieclcaa.SpRoom Go.Proofs.Ytgddlcbaieclcaa.SpSame Go.Proofs.Ytgddlcbaieclcaa.SpKnown
attribute [local irreducible] wpQuiet

theorem rt_cong {L H L' H' : Nat → Int} (len : Nat) (h : ∀ i, i < len → L i = L' i ∧ H i = H' i) : ∀ (n i : Nat), i + n = len → rt L H n i = rt L' H' n i
  | 0, _, _ => rfl
  | n + 1, i, hi => by
    have h1 := h i (by omega)
    have hb : bad L H i = bad L' H' i := by
      unfold bad
      rw [h1.1, h1.2]
      by_cases h0 : 0 < i
      · rw [(h (i - 1) (by omega)).2]
      · simp [h0]
    simp only [rt, hb]
    rw [rt_cong len h n (i + 1) (by omega)]

set_option maxRecDepth 100000 in
theorem walk (a : Option Addr) (len cap : Nat) (L H : Nat → Int) (w : World) (hr : Row w a len L H) (hl : len ≤ 17592186044416) :
    Calls Try.prog 8 #[.slice a len cap] w fun e w' => e = .returned (.bool true) ∧ Below w.heap.size w w' := by
  have HR := Lib.hid hr
  go_enter Try.func8, Try.ntmps8
  go_wp2_with fail
  refine (Roomy_calls a len cap L H (-7) 0 w hr hl).mono ?_
  rintro e w1 ⟨n, hn, rfl, hf, hb⟩
  have HB1 := Lib.hid hb
  have HF := Lib.hid hf
  have hf2 := Row.cong hf (len' := len) (L' := L) (H' := H) (by omega) (fun i hi => by simp [ext, hi])
  clear hr hf hb
  go_wp2_with fail
  refine (Right_calls _ len (len + 80) L H w1 hf2 (by omega)).mono ?_
  rintro e w2 ⟨rfl, hb⟩
  have HB2 := Lib.hid (chain HB1.out hb)
  have HF2 := Lib.hid (HF.out.below hb)
  clear hb hf2
  go_wp2_with fail
  refine (refRight_calls a len cap L H w2 (HR.out.below HB2.out) (by omega)).mono ?_
  rintro e w3 ⟨rfl, hb⟩
  have HB3 := Lib.hid (chain HB2.out hb)
  have HF3 := Lib.hid (HF2.out.below hb)
  clear hb
  go_wp2_with fail
  refine (Intact_calls n a len cap L H (-7) 0 w3 HF3.out (HR.out.below HB3.out) hl).mono ?_
  rintro e w4 ⟨rfl, hb⟩
  have HB4 := Lib.hid (chain HB3.out hb)
  clear hb
  go_wp2_with fail
  refine (known_calls w4).mono ?_
  rintro e w5 ⟨rfl, hb⟩
  have HB5 := Lib.hid (chain HB4.out hb)
  clear hb
  go_wp2
  go_ret
  exact ⟨rfl, HB5.out⟩
end Go.Proofs.Ytgddlcbaieclcaa.spansRight
