/-
  Chapter 11's known runs.
-/
import Derived.Test.YtgddlcbaieclcaaLruabsS
namespace Go.Proofs.Ytgddlcbaieclcaa.LruKnown
open Go Go.RowKit Go.Proofs.Ytgddlcbaieclcaa.Kit Go.Proofs.Ytgddlcbaieclcaa.Maps Go.Proofs.Ytgddlcbaieclcaa.LruS Go.Proofs.Ytgddlcbaieclcaa.LrugetS Go.Proofs.Ytgddlcbaieclcaa.LruabsS
attribute [local irreducible] wpQuiet

theorem row2 {w : World} {b : Nat} {x y : ByteArray} (h : w.heap[b]? = some (.cells #[.string x, .string y] 9 (0, 0))) (F : Nat → ByteArray) (h0 : F 0 = x) (h1 : F 1 = y) : SameStr.Row w (some ⟨b, 0, none⟩) 2 F := by
  refine .inr ⟨b, 0, rfl, lt_of_heap h, fun i hi => ?_⟩
  rw [Nat.zero_add, cell_at h]
  have : i = 0 ∨ i = 1 := by omega
  rcases this with rfl | rfl
  · rw [h0]; rfl
  · rw [h1]; rfl

abbrev sa : ByteArray := ⟨#[97]⟩
abbrev sb : ByteArray := ⟨#[98]⟩
abbrev sc : ByteArray := ⟨#[99]⟩

set_option maxHeartbeats 1000000 in
set_option maxRecDepth 100000 in
theorem known_calls (w : World) : Calls Try.prog 40 #[] w fun x w' => x = .returned (.bool true) ∧ Below w.heap.size w w' := by
  go_enter Try.func40, Try.ntmps40
  go_wp2_with fail
  refine (new 2 w (by decide) (by decide)).mono ?_
  rintro e w1 ⟨c, F1, rfl, h1, hf1, hb1⟩
  have H1 := Lib.hid h1
  have HF1 := Lib.hid hf1
  have HB1 := Lib.hid hb1
  clear h1 hf1 hb1
  go_wp2_with fail
  refine (put_new H1.out (k := sa) ⟨1, rfl⟩ (by simp) (by decide)).mono ?_
  rintro e w2 ⟨rfl, F2, h2, hu2, hf2⟩
  have H2 := Lib.hid h2
  have HF2 := Lib.hid (fun i hi (h : F2 i) => hf2 i hi h)
  have HU2 := Lib.hid hu2
  clear h2 hf2 hu2
  go_wp2_with fail
  refine (put_new H2.out (k := sb) ⟨2, rfl⟩ (by simp only [List.map_cons, List.map_nil, List.mem_cons, List.not_mem_nil, or_false]; exact (by decide : ¬ sb = sa)) (by decide)).mono ?_
  rintro e w3 ⟨rfl, F3, h3, hu3, hf3⟩
  have H3 := Lib.hid h3
  have HF3 := Lib.hid (fun i hi (h : F3 i) => hf3 i hi h)
  have HU3 := Lib.hid hu3
  clear h3 hf3 hu3
  go_wp2_with fail
  refine (get_yes (A := [(sb, _)]) (B := []) H3.out).mono ?_
  rintro e w4 ⟨rfl, h4, hu4⟩
  have H4 := Lib.hid h4
  have HU4 := Lib.hid hu4
  clear h4 hu4
  go_wp2_with fail
  refine (put_full (kv := [(sa, _)]) H4.out (k := sc) ⟨3, rfl⟩ (by simp only [List.cons_append, List.nil_append, List.map_cons, List.map_nil, List.mem_cons, List.not_mem_nil, or_false, not_or]; exact ⟨(by decide : ¬ sc = sa), (by decide : ¬ sc = sb)⟩) (by decide)).mono ?_
  rintro e w5 ⟨rfl, F5, h5, hu5, hf5⟩
  have H5 := Lib.hid h5
  have HF5 := Lib.hid (fun i hi (h : F5 i) => hf5 i hi h)
  have HU5 := Lib.hid hu5
  clear h5 hf5 hu5
  go_wp2_with fail
  refine (get_no H5.out sb (by simp only [List.map_cons, List.map_nil, List.mem_cons, List.not_mem_nil, or_false, not_or]; exact ⟨(by decide : ¬ sb = sc), (by decide : ¬ sb = sa)⟩)).mono ?_
  rintro e w6 ⟨rfl, hb6⟩
  have H6 := Lib.hid (H5.out.below hb6)
  have HB6 := Lib.hid hb6
  clear hb6
  go_wp2_with fail
  refine (keys H6.out (by decide)).mono ?_
  rintro e w7 ⟨a, cap, rfl, _, _, hr, _, _, hb7⟩
  have H7 := Lib.hid (H6.out.below hb7)
  have HB7 := Lib.hid hb7
  have HR7 := Lib.hid hr
  clear hb7 hr
  simp only [List.length_cons, List.length_nil]
  go_wp2_with fail
  have hr8 : SameStr.Row (w7.alloc (.cells #[.string sc, .string sa] 9)) (some ⟨w7.heap.size, 0, none⟩) 2 _ := row2 (alloc_new rfl) (fun i => ([(sc, Value.int .i64 3), (sa, Value.int .i64 1)].getD i (ByteArray.empty, undef)).1) rfl rfl
  refine (SameStr.Same_calls a _ 2 cap 2 _ _ (HR7.out.below ((Below.refl _ _).alloc (Nat.le_refl _) _)) hr8 (by decide)).mono ?_
  rintro e w8 ⟨rfl, hb8⟩
  have hb8' := chain ((Below.refl w7.heap.size w7).alloc (Nat.le_refl _) (.cells #[.string sc, .string sa] 9)) hb8
  have H8 := Lib.hid (H7.out.below hb8')
  have HB8 := Lib.hid hb8'
  clear hb8 hb8' hr8
  go_wp2_with fail
  refine (len H8.out).mono ?_
  rintro e w9 ⟨rfl, rfl⟩
  simp only [List.length_cons, List.length_nil]
  go_wp2
  go_ret
  refine ⟨rfl, ?_⟩
  have g1 : Below w.heap.size w w2 := HB1.out.trans (HU2.out.below HB1.out.size (fun k hk h => by have := HF1.out k h; omega))
  have n2 : ∀ k, k < w.heap.size → ¬ F2 k := fun k hk h => by have := HF1.out k (HF2.out k (by have := HB1.out.size; omega) h); omega
  have g2 : Below w.heap.size w w3 := g1.trans (HU3.out.below g1.size n2)
  have n3 : ∀ k, k < w.heap.size → ¬ F3 k := fun k hk h => n2 k hk (HF3.out k (by have := g1.size; omega) h)
  have g3 : Below w.heap.size w w4 := g2.trans (HU4.out.below g2.size n3)
  have g4 : Below w.heap.size w w5 := g3.trans (HU5.out.below g3.size n3)
  exact chain (chain (chain g4 HB6.out) HB7.out) HB8.out
end Go.Proofs.Ytgddlcbaieclcaa.LruKnown
