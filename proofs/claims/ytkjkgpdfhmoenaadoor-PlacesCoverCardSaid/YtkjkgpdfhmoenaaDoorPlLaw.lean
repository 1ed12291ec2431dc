/-
  The plain law of places: tokens lie one behind the other, items rise.
-/
import Derived.Test.YtkjkgpdfhmoenaaDoorPlKnown
namespace Go.Proofs.YtkjkgpdfhmoenaaDoor.PlLaw
open Go Go.Proofs.YtkjkgpdfhmoenaaDoor.Kit Go.Proofs.YtkjkgpdfhmoenaaDoor.It Go.Proofs.YtkjkgpdfhmoenaaDoor.Dt Go.Proofs.YtkjkgpdfhmoenaaDoor.MoNew Go.Proofs.YtkjkgpdfhmoenaaDoor.Good Go.Proofs.YtkjkgpdfhmoenaaDoor.EncLaw Go.Proofs.YtkjkgpdfhmoenaaDoor.PlGo Go.Proofs.YtkjkgpdfhmoenaaDoor.CutAll

theorem numT_rise (L : List It) : ∀ k, (numT L k).Pairwise (· ≤ ·)
  | 0 => List.Pairwise.nil
  | k + 1 => by
    refine List.pairwise_append.2 ⟨numT_rise L k, ?_, fun x hx y hy => ?_⟩
    · rw [List.pairwise_replicate]
      exact .inr (Int.le_refl _)
    · have := (numT_mem hx).2
      have := List.eq_of_mem_replicate hy
      omega
theorem nums_rise (T : List UInt8) {i j : Nat} (h : i ≤ j) (hj : j < T.length) : (nums T).getD i 0 ≤ (nums T).getD j 0 := by
  have hl := nums_len T
  rcases Nat.eq_or_lt_of_le h with rfl | h
  · exact Int.le_refl _
  · rw [List.getD_eq_getElem?_getD, List.getD_eq_getElem?_getD, List.getElem?_eq_getElem (by omega), List.getElem?_eq_getElem (by omega)]
    exact List.pairwise_iff_getElem.1 (numT_rise _ _) i j (by unfold nums at hl; omega) (by unfold nums at hl; omega) h
/-- The ids' bytes are a beginning of the text. -/
theorem cat_pre {D : Dt} (hg : Good.Good D) (most : Nat) (T : List UInt8) : ∃ R, T = cat D (encode D most T).1 ++ R := by
  have h := (encode_cat hg most T).2.2
  cases ho : (encode D most T).2 with
  | none => rw [ho] at h; exact ⟨[], by rw [h.1, List.append_nil]⟩
  | some t => rw [ho] at h; exact ⟨T.drop t.a, by rw [h.2.2.2.2, List.take_append_drop]⟩
theorem word_at {D : Dt} {T R : List UInt8} {l : List Int} (h : T = cat D l ++ R) {k : Nat} (hk : k < l.length) : (T.drop (pos D l k)).take (word D (l.getD k 0)).size = (word D (l.getD k 0)).data.toList := by
  have e : l = l.take k ++ l.getD k 0 :: l.drop (k + 1) := by
    rw [List.getD_eq_getElem?_getD, List.getElem?_eq_getElem hk]
    conv => lhs; rw [← List.take_append_drop k l, List.drop_eq_getElem_cons hk]
    rfl
  have hc : cat D l = cat D (l.take k) ++ ((word D (l.getD k 0)).data.toList ++ cat D (l.drop (k + 1))) := by
    conv => lhs; rw [e]
    rw [cat_app, cat_cons]
  rw [h, hc, List.append_assoc, List.append_assoc]
  unfold pos
  rw [List.drop_left]
  have hs : (word D (l.getD k 0)).size = (word D (l.getD k 0)).data.toList.length := by simp
  rw [hs, List.take_left]
theorem pos_mono {D : Dt} (l : List Int) {i j : Nat} (h : i ≤ j) : pos D l i ≤ pos D l j := by
  unfold pos
  have : l.take i = (l.take j).take i := by rw [List.take_take, Nat.min_eq_left h]
  rw [this]
  conv => rhs; rw [← List.take_append_drop i (l.take j), cat_app, List.length_append]
  omega
/-- Where a byte lies. -/
theorem first_at {D : Dt} {N l : List Int} {F : Nat → Pc} (hF : ∀ i, i < l.length → F i = pcAt D N l i) {k : Nat} (hk : k < l.length) {b : Int} (h1 : (pos D l k : Int) ≤ b) (h2 : b < pos D l (k + 1)) : First F l.length b k := by
  refine .inr ⟨k, hk, rfl, ?_, fun j hj hh => ?_⟩
  · unfold Hit
    rw [hF k hk]
    exact ⟨h1, h2⟩
  · unfold Hit at hh
    rw [hF j (by omega)] at hh
    have h3 : b < pos D l (j + 1) := hh.2
    have := pos_mono (D := D) l (show j + 1 ≤ k by omega)
    omega
theorem first_none {D : Dt} {N l : List Int} {F : Nat → Pc} (hF : ∀ i, i < l.length → F i = pcAt D N l i) {b : Int} (h : b < 0 ∨ (pos D l l.length : Int) ≤ b) : First F l.length b (-1) := by
  refine .inl ⟨rfl, fun i hi hh => ?_⟩
  unfold Hit at hh
  rw [hF i hi] at hh
  have h1 : (pos D l i : Int) ≤ b := hh.1
  have h2 : b < pos D l (i + 1) := hh.2
  have := pos_mono (D := D) l (show i + 1 ≤ l.length by omega)
  omega
theorem pcs_at (D : Dt) (N l : List Int) {n i : Nat} (h : i < n) : (pcs D N l n).getD i default = pcAt D N l i := by
  unfold pcs
  rw [List.getD_eq_getElem?_getD, List.getElem?_map, List.getElem?_range h]
  rfl
end Go.Proofs.YtkjkgpdfhmoenaaDoor.PlLaw
