/-
  tesseralaw14: few, known.
-/
import Derived.Test.YtkjkgpdfhmoenaaDoorEncOver
import Derived.Test.YtkjkgpdfhmoenaaDoorHouse
import Derived.Test.YtkjkgpdfhmoenaaDoorSameInt
import Derived.Test.YtkjkgpdfhmoenaaDoorFew
namespace Go.Proofs.YtkjkgpdfhmoenaaDoor.EncKnown
open Go Go.RowKit Go.Proofs.YtkjkgpdfhmoenaaDoor.Kit Go.Proofs.YtkjkgpdfhmoenaaDoor.Seg Go.Proofs.YtkjkgpdfhmoenaaDoor.ItGo Go.Proofs.YtkjkgpdfhmoenaaDoor.Dt Go.Proofs.YtkjkgpdfhmoenaaDoor.MoNew Go.Proofs.YtkjkgpdfhmoenaaDoor.Keep Go.Proofs.YtkjkgpdfhmoenaaDoor.House Go.Proofs.YtkjkgpdfhmoenaaDoor.EncLaw Go.Proofs.YtkjkgpdfhmoenaaDoor.EncGo Go.Proofs.YtkjkgpdfhmoenaaDoor.BpeGo Go.Proofs.YtkjkgpdfhmoenaaDoor.Few
attribute [local irreducible] wpQuiet

/-- A list of numbers, as Same looks at it. -/
theorem NRow.row {w : World} {base : Nat} {v : Value} {l : List Int} (h : NRow w base v l) : ∃ a cap, v = .slice a l.length cap ∧ l.length ≤ cap ∧ SameInt.Row w a l.length (fun i => l.getD i 0) := by
  obtain ⟨a, cap, rfl, h1, _, _⟩ := Seg.shape h
  refine ⟨a, cap, rfl, h1, ?_⟩
  by_cases h0 : l.length = 0
  · exact .inl h0
  · obtain ⟨g, o, h2, _, h4, h5⟩ := Seg.cells h (by omega)
    refine .inr ⟨g, o, h2, h4, fun i hi => h5 i _ ?_⟩
    unfold vals
    show _ = some (Value.int IntKind.i64 (l.getD i 0))
    rw [List.getElem?_map, List.getD_eq_getElem?_getD, List.getElem?_eq_getElem hi]
    rfl
/-- A list of numbers that was written out. -/
theorem lit_row {w : World} {b : Nat} {cs : Array Value} (l : List Int) (h : w.heap[b]? = some (.cells cs 3 (0, 0))) (hc : ∀ i, i < l.length → cs[i]? = some (.int .i64 (l.getD i 0))) : SameInt.Row w (some ⟨b, 0, none⟩) l.length (fun i => l.getD i 0) := by
  refine .inr ⟨b, 0, rfl, lt_of_heap h, fun i hi => ?_⟩
  rw [cell_at h, Nat.zero_add]
  exact hc i hi

set_option maxRecDepth 100000 in
theorem few_calls (s : ByteArray) (n : Nat) (w : World) (hn : n ≤ 1000000) : Calls Tryd.prog 19 #[.string s, .int .i64 n] w fun e w' => e = .returned (.string (few s n)) ∧ w = w' := by
  unfold few
  by_cases h : n < s.size
  · have h1 : (n : Int) < s.size := by omega
    rw [if_pos h]
    clear h
    go_enter Tryd.func19, Tryd.ntmps19
    go_wp2
    go_ret
    exact ⟨rfl, rfl⟩
  · have h1 : ¬ ((n : Int) < s.size) := by omega
    rw [if_neg h]
    clear h
    go_enter Tryd.func19, Tryd.ntmps19
    go_wp2
    go_ret
    exact ⟨rfl, rfl⟩

theorem run_1 : encode HD 9 [97, 98, 32, 97, 98, 32, 116, 104, 101] = ([256, 32, 256, 32, 259], none) := by decide +kernel

set_option maxHeartbeats 1000000 in
set_option maxRecDepth 100000 in
theorem known_calls (w : World) (hT : Tabs w) : Calls Tryd.prog 17 #[] w fun e w' => e = .returned (.bool true) ∧ Below w.heap.size w w' := by
  have HT := Lib.hid hT
  clear hT
  go_enter Tryd.func17, Tryd.ntmps17
  go_wp2_with fail
  refine (House_calls w).mono ?_
  rintro e W1 ⟨p, rfl, hat, hb1⟩
  go_wp2_with fail
  refine (model_calls p W1 hat).mono ?_
  rintro e W2 ⟨mb, rfl, hM, hb2⟩
  have HB := Lib.hid (chain hb1 hb2)
  have HM := Lib.hid hM
  clear hat hb1 hb2 hM
  go_wp2_with fail
  refine (Encode_calls HD mb 9 ⟨#[97, 98, 32, 97, 98, 32, 116, 104, 101]⟩ W2 HM.out (HT.out.below HB.out) (by decide) (by decide) (by decide)).mono ?_
  rintro e W3 ⟨v, rfl, hr, hb3⟩
  have h1 : encode HD 9 (ByteArray.mk #[97, 98, 32, 97, 98, 32, 116, 104, 101]).data.toList = ([256, 32, 256, 32, 259], none) := run_1
  rw [h1] at hr ⊢
  obtain ⟨a, cap, rfl, hcap, hrow⟩ := NRow.row hr
  obtain ⟨W4, hW4⟩ : ∃ Xz, W3.alloc (.cells #[.int .i64 256, .int .i64 32, .int .i64 256, .int .i64 32, .int .i64 259] 3) = Xz := ⟨_, rfl⟩
  obtain ⟨nb, hnb⟩ : ∃ xz, W3.heap.size = xz := ⟨_, rfl⟩
  have hb4 : Below W3.heap.size W3 W4 := by rw [← hW4]; exact (Below.refl _ _).alloc (Nat.le_refl _) _
  have HN := Lib.hid (by rw [← hW4, ← hnb]; exact alloc_new rfl : W4.heap[nb]? = some (.cells #[.int .i64 256, .int .i64 32, .int .i64 256, .int .i64 32, .int .i64 259] 3 (0, 0)))
  have EW4 := Lib.hid hW4
  have Enb := Lib.hid hnb
  clear hW4 hnb
  have HR := Lib.hid (hrow.below hb4)
  have HB := Lib.hid (chain (chain HB.out hb3) hb4)
  have HL := Lib.hid (lit_row [256, 32, 256, 32, 259] HN.out (fun i hi => by
    have hi5 : i < 5 := hi
    match i, hi5 with
    | 0, _ => rfl
    | 1, _ => rfl
    | 2, _ => rfl
    | 3, _ => rfl
    | 4, _ => rfl))
  have HS := Lib.hid (SameInt.Same_calls a (some ⟨nb, 0, none⟩) 5 cap 5 _ W4 HR.out HL.out (by decide))
  clear hr hrow hb3 hb4 h1 hcap
  unfold stOf
  simp only [List.length_cons, List.length_nil, Nat.reduceAdd]
  go_wp2_with fail
  rw [EW4.out, Enb.out]
  refine HS.out.mono ?_
  rintro e W5 ⟨rfl, hb5⟩
  have HB := Lib.hid (chain HB.out hb5)
  clear hb5
  go_wp2_with fail
  go_ret
  exact ⟨rfl, HB.out⟩
end Go.Proofs.YtkjkgpdfhmoenaaDoor.EncKnown
