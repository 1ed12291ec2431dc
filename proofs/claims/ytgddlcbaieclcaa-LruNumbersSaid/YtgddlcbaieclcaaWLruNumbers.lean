/-
  The walk of the law LruNumbers (a closed sentence).
-/
import Derived.Test.YtgddlcbaieclcaaLruKnown
namespace Go.Proofs.Ytgddlcbaieclcaa.lruNumbers
open Go Go.RowKit Go.Proofs.Ytgddlcbaieclcaa.Kit Go.Proofs.Ytgddlcbaieclcaa.Maps Go.Proofs.Ytgddlcbaieclcaa.LruS Go.Proofs.Ytgddlcbaieclcaa.LrugetS Go.Proofs.Ytgddlcbaieclcaa.LrukeysS Go.Proofs.Ytgddlcbaieclcaa.LruabsS Go.Proofs.Ytgddlcbaieclcaa.LruKnown
attribute [local irreducible] wpQuiet

set_option maxHeartbeats 1000000 in
set_option maxRecDepth 100000 in
theorem walk (w : World) : Calls Try.prog 9 #[] w fun x w' => x = .returned (.bool true) ∧ Below w.heap.size w w' := by
  go_enter Try.func9, Try.ntmps9
  go_wp2_with fail
  refine (New_no (-1) w (by decide)).mono ?_
  rintro e w0 ⟨rfl, rfl⟩
  go_wp2_with fail
  refine (New_no 4097 w (by decide)).mono ?_
  rintro e w0 ⟨rfl, rfl⟩
  go_wp2_with fail
  refine (new 0 w (by decide) (by decide)).mono ?_
  rintro e w1 ⟨c, F1, rfl, h1, hf1, hb1⟩
  have H1 := Lib.hid h1
  have HF1 := Lib.hid hf1
  have HB1 := Lib.hid hb1
  clear h1 hf1 hb1
  go_wp2_with fail
  refine (put_zero H1.out sa _).mono ?_
  rintro e w2 ⟨rfl, hb2⟩
  have H2 := Lib.hid (H1.out.below hb2)
  have HB2 := Lib.hid (chain HB1.out hb2)
  clear hb2
  go_wp2_with fail
  refine (get_no H2.out sa (by simp)).mono ?_
  rintro e w3 ⟨rfl, hb3⟩
  have H3 := Lib.hid (H2.out.below hb3)
  have HB3 := Lib.hid (chain HB2.out hb3)
  clear hb3
  go_wp2_with fail
  refine (new 2 w3 (by decide) (by decide)).mono ?_
  rintro e w4 ⟨d, F4, rfl, h4, hf4, hb4⟩
  have H4 := Lib.hid h4
  have HC4 := Lib.hid (H3.out.below hb4)
  have HF4 := Lib.hid hf4
  have HD4 := Lib.hid (fun i (h : F1 i) => H3.out.lt h)
  have HB4 := Lib.hid (chain HB3.out hb4)
  have HS4 := Lib.hid hb4.size
  clear h4 hf4 hb4
  go_wp2_with fail
  refine (put_new H4.out (k := sa) ⟨1, rfl⟩ (by simp) (by decide)).mono ?_
  rintro e w5 ⟨rfl, F5, h5, hu5, hf5⟩
  have H5 := Lib.hid h5
  have hdis : ∀ i, i < w4.heap.size → F4 i → ¬ F1 i := fun i _ h h' => by have := HF4.out i h; have := HD4.out i h'; omega
  have HC5 := Lib.hid (HC4.out.upd hu5 hdis)
  have HDIS := Lib.hid (fun i (hi : i < w4.heap.size) (h : F5 i) => hdis i hi (hf5 i hi h))
  have HOLD := Lib.hid (fun i (h : F1 i) => HC4.out.lt h)
  have hb5 : Below w.heap.size w w5 := HB4.out.trans (hu5.below HB4.out.size (fun k hk h => by have := HF4.out k h; have := HB3.out.size; omega))
  have HB5 := Lib.hid hb5
  have HN5 := Lib.hid (fun k (hk : k < w.heap.size) (h : F5 k) => (by have h1 := hf5 k (by have := HB4.out.size; omega) h; have := HF4.out k h1; have := HB3.out.size; omega : False))
  clear h5 hu5 hf5 hdis hb5
  go_wp2_with fail
  refine (put_yes (A := []) (B := []) H5.out ⟨2, rfl⟩ (by decide)).mono ?_
  rintro e w6 ⟨rfl, h6, hu6⟩
  have H6 := Lib.hid h6
  have HC6 := Lib.hid (HC5.out.upd hu6 (fun i _ h h' => HDIS.out i (HOLD.out i h') h h'))
  have HB6 := Lib.hid (HB5.out.trans (hu6.below HB5.out.size HN5.out))
  clear h6 hu6
  go_wp2_with fail
  refine (get_yes (A := []) (B := []) H6.out).mono ?_
  rintro e w7 ⟨rfl, h7, hu7⟩
  have H7 := Lib.hid h7
  have HC7 := Lib.hid (HC6.out.upd hu7 (fun i _ h h' => HDIS.out i (HOLD.out i h') h h'))
  have HB7 := Lib.hid (HB6.out.trans (hu7.below HB6.out.size HN5.out))
  clear h7 hu7
  go_wp2_with fail
  refine (len HC7.out).mono ?_
  rintro e w8 ⟨rfl, rfl⟩
  simp only [List.length_nil]
  go_wp2_with fail
  refine (len H7.out).mono ?_
  rintro e w8 ⟨rfl, rfl⟩
  simp only [List.length_cons, List.length_nil, List.nil_append]
  go_wp2_with fail
  refine (known_calls w7).mono ?_
  rintro e w9 ⟨rfl, hb9⟩
  have HB9 := Lib.hid (chain HB7.out hb9)
  clear hb9
  go_wp2
  go_ret
  exact ⟨rfl, HB9.out⟩
end Go.Proofs.Ytgddlcbaieclcaa.lruNumbers
