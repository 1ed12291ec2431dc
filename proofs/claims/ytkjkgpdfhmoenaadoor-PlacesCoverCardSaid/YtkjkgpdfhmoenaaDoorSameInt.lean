/-
  tesserabook.Same of lists of numbers, where they are the same.
-/
import Derived.Test.YtkjkgpdfhmoenaaDoorProg
import Derived.Test.YtkjkgpdfhmoenaaDoorKit
import Derived.Laws.AppendOwn
namespace Go.Proofs.YtkjkgpdfhmoenaaDoor.SameInt
open Go Go.RowKit Go.Proofs.YtkjkgpdfhmoenaaDoor.Kit
attribute [local irreducible] wpQuiet

/-- A slice of numbers as it lies in memory. -/
def Row (w : World) (a : Option Addr) (len : Nat) (F : Nat → Int) : Prop :=
  len = 0 ∨ ∃ b off, a = some ⟨b, off, none⟩ ∧ b < w.heap.size ∧ ∀ i, i < len → w.cell? ⟨b, off + i, none⟩ = some (.int .i64 (F i))

theorem Row.at {w : World} {a : Option Addr} {len : Nat} {F : Nat → Int} (h : Row w a len F) {k : Nat} (hk : k < len) :
    ∃ b off, a = some ⟨b, off, none⟩ ∧ b < w.heap.size ∧ ∀ i, i < len → w.cell? ⟨b, off + i, none⟩ = some (.int .i64 (F i)) := by
  rcases h with rfl | h
  · omega
  · exact h
theorem Row.keep {w w' : World} {a : Option Addr} {len : Nat} {F : Nat → Int} (h : Row w a len F) (hs : w.heap.size ≤ w'.heap.size) (hb : ∀ x, a = some x → x.block < w.heap.size → w'.heap[x.block]? = w.heap[x.block]?) : Row w' a len F := by
  rcases h with h | ⟨b, off, rfl, hl, hc⟩
  · exact .inl h
  · have h1 := hb _ rfl hl
    have h2 : ∀ o, w'.cell? ⟨b, o, none⟩ = w.cell? ⟨b, o, none⟩ := fun o => World.cell?_of_block (a := ⟨b, o, none⟩) h1
    exact .inr ⟨b, off, rfl, by omega, fun i hi => by simp only [h2]; exact hc i hi⟩
theorem Row.below {w w' : World} {a : Option Addr} {len : Nat} {F : Nat → Int} (h : Row w a len F) (hb : Below w.heap.size w w') : Row w' a len F := h.keep hb.size (fun _ _ hx => hb.block _ hx)
theorem Row.upd {S : Nat → Prop} {w w' : World} {a : Option Addr} {len : Nat} {F : Nat → Int} (h : Row w a len F) (hb : Upd S w w') (hn : ∀ x, a = some x → x.block < w.heap.size → ¬ S x.block) : Row w' a len F := h.keep hb.size (fun _ hx hl => hb.block _ hl (hn _ hx hl))

theorem Row.cong {w : World} {a : Option Addr} {len : Nat} {F : Nat → Int} {F' : Nat → Int} (h : Row w a len F) (hx : ∀ i, i < len → F i = F' i) : Row w a len F' := by
  rcases h with h | ⟨b, off, rfl, hl, hc⟩
  · exact .inl h
  · refine .inr ⟨b, off, rfl, hl, fun i hi => ?_⟩
    have hx := hx i hi
    rw [← hx]; exact hc i hi

theorem Row.mono {w : World} {a : Option Addr} {len len' : Nat} {F : Nat → Int} (h : Row w a len F) (hl : len' ≤ len) : Row w a len' F := by
  rcases h with h | ⟨b, off, rfl, hb, hc⟩
  · exact .inl (by omega)
  · exact .inr ⟨b, off, rfl, hb, fun i hi => hc i (by omega)⟩

set_option maxRecDepth 100000 in
theorem Same_calls (a b : Option Addr) (len ca cb : Nat) (F : Nat → Int) (w : World) (hr : Row w a len F) (hq : Row w b len F) (hl : len ≤ 1000000000000000000) :
    Calls Tryd.prog 24 #[.slice a len ca, .slice b len cb] w fun e w' => e = .returned (.bool true) ∧ Below w.heap.size w w' := by
  have HA := Lib.hid hr
  have HB := Lib.hid hq
  clear hr hq
  go_enter Tryd.func24, Tryd.ntmps24
  go_wp2_with fail
  go_loopg [5] len (fun g s5 wr => ∃ k : Nat, k ≤ len ∧ g = len - k ∧ s5 = .int .i64 k ∧ Below w.heap.size w wr)
  case atStart => exact ⟨0, Nat.zero_le _, by omega, rfl, Below.refl _ _⟩
  case round =>
    obtain ⟨k, hk, hg, rfl, hbw⟩ := hrel
    have HG := Lib.hid hg
    have HBW := Lib.hid hbw
    clear hg
    by_cases hlt : k < len
    · obtain ⟨b1, o1, rfl, hb1, hc1⟩ := (HA.out.below hbw).at hlt
      obtain ⟨b2, o2, rfl, hb2, hc2⟩ := (HB.out.below hbw).at hlt
      have c0 := (hc1 k hlt)
      have d0 := (hc2 k hlt)
      have hi : (k : Int) < len := by omega
      clear hc1 hc2 hbw
      go_wp2
      refine region_calm (by kernel_rfl) (by kernel_rfl) ?_
      repeat (quiet_step ((fail)))
      refine wpQuiet_nil ?_
      rintro _ ⟨x, rfl⟩
      go_wp2
      go_roundg (gk - 1)
      case measure => have := HG.out; omega
      case rel => exact ⟨k + 1, by omega, by have := HG.out; omega, by go_num, Later.chain HBW.out x⟩
    · have hkn : k = len := by omega
      subst hkn
      go_wp2
      go_ret
      exact ⟨rfl, hbw⟩

/-- A row that the call made, as such a slice. -/
theorem Row.of_owns {w : World} {base : Nat} {t : TypeId} {v : Value} {n : Nat} {xs : List Value} (h : w.ownsRow base t 1 v n xs) (F : Nat → Int) (hx : ∀ i, i < n → xs[i]? = some (.int .i64 (F i))) :
    ∃ a cap, v = .slice a n cap ∧ n ≤ cap ∧ cap ≤ maxLen ∧ Row w a n F ∧ (∀ x, a = some x → base ≤ x.block ∧ x.block < w.heap.size ∧ x.off = 0) ∧ (a = none → n = 0 ∧ cap = 0) := by
  rcases h.2 with ⟨rfl, rfl⟩ | ⟨g, cap, cur, rfl, hb, hg, hn, hm, hs, ht⟩
  · exact ⟨none, 0, rfl, Nat.le_refl _, Nat.zero_le _, .inl rfl, fun x hx => (by cases hx), fun _ => ⟨rfl, rfl⟩⟩
  · have hlt : g < w.heap.size := lt_of_heap hg
    have hc := h.cells (g := g) rfl
    simp only [add_plain, Nat.zero_add] at hc
    refine ⟨some ⟨g, 0, none⟩, cap, rfl, hn, hm, .inr ⟨g, 0, rfl, hlt, fun i hi => ?_⟩, fun x hx => (by cases hx; exact ⟨hb, hlt, rfl⟩), fun e => (by cases e)⟩
    have hx := hx i hi
    simp only [Nat.zero_add]
    exact hc _ _ hx
end Go.Proofs.YtkjkgpdfhmoenaaDoor.SameInt
