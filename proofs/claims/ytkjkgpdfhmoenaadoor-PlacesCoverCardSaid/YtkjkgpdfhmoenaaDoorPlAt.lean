/-
  places: At.
-/
import Derived.Test.YtkjkgpdfhmoenaaDoorPlOf
namespace Go.Proofs.YtkjkgpdfhmoenaaDoor.PlGo
open Go Go.RowKit Go.Proofs.YtkjkgpdfhmoenaaDoor.Kit Go.Proofs.YtkjkgpdfhmoenaaDoor.Seg Go.Proofs.YtkjkgpdfhmoenaaDoor.Dt Go.Proofs.YtkjkgpdfhmoenaaDoor.EncLaw
attribute [local irreducible] wpQuiet wpStill
set_option linter.unusedSimpArgs false

/-- Places as they lie in memory. -/
def PR (w : World) (a : Option Addr) (n : Nat) (F : Nat → Pc) : Prop := n = 0 ∨ ∃ g o, a = some ⟨g, o, none⟩ ∧ g < w.heap.size ∧ ∀ i, i < n →
  w.cell? ⟨g, o + i * 5, none⟩ = some (.int .i64 (F i).id) ∧ w.cell? ⟨g, o + i * 5 + 1, none⟩ = some (.int .i64 (F i).a) ∧ w.cell? ⟨g, o + i * 5 + 2, none⟩ = some (.int .i64 (F i).b) ∧ w.cell? ⟨g, o + i * 5 + 3, none⟩ = some (.int .i64 (F i).f) ∧ w.cell? ⟨g, o + i * 5 + 4, none⟩ = some (.int .i64 (F i).e)
theorem PR.below {w w' : World} {a : Option Addr} {n : Nat} {F : Nat → Pc} (h : PR w a n F) (hb : Below w.heap.size w w') : PR w' a n F := by
  rcases h with h | ⟨g, o, rfl, h1, h2⟩
  · exact .inl h
  · have hc : ∀ x, w'.cell? ⟨g, x, none⟩ = w.cell? ⟨g, x, none⟩ := fun x => World.cell?_of_block (a := ⟨g, x, none⟩) (hb.block g h1)
    exact .inr ⟨g, o, rfl, Nat.lt_of_lt_of_le h1 hb.size, fun i hi => by simp only [hc]; exact h2 i hi⟩
theorem PcRow.pr {w : World} {base : Nat} {v : Value} {l : List Pc} (h : PcRow w base v l) : ∃ a cap, v = .slice a l.length cap ∧ l.length ≤ cap ∧ PR w a l.length (fun i => l.getD i default) := by
  obtain ⟨a, cap, rfl, h1, _, _⟩ := Seg.shape h
  refine ⟨a, cap, rfl, h1, ?_⟩
  by_cases h0 : l.length = 0
  · exact .inl h0
  · obtain ⟨g, o, h2, _, h4, h5⟩ := Seg.cells h (by omega)
    refine .inr ⟨g, o, h2, h4, fun i hi => ?_⟩
    have hj : ∀ j u, (pcC (l.getD i default))[j]? = some u → j < 5 → w.cell? ⟨g, o + i * 5 + j, none⟩ = some u := fun j u hu hj => by
      rw [Nat.add_assoc]
      exact h5 _ _ (by rw [flatPc_at hi hj]; exact hu)
    exact ⟨hj 0 _ rfl (by decide), hj 1 _ rfl (by decide), hj 2 _ rfl (by decide), hj 3 _ rfl (by decide), hj 4 _ rfl (by decide)⟩

/-- The first place that covers a byte. -/
def Hit (F : Nat → Pc) (b : Int) (i : Nat) : Prop := (F i).a ≤ b ∧ b < (F i).b
def First (F : Nat → Pc) (n : Nat) (b r : Int) : Prop := (r = -1 ∧ ∀ i, i < n → ¬ Hit F b i) ∨ ∃ i, i < n ∧ r = i ∧ Hit F b i ∧ ∀ j, j < i → ¬ Hit F b j

set_option maxHeartbeats 1000000 in
set_option maxRecDepth 100000 in
theorem At_calls (a : Option Addr) (n cap : Nat) (F : Nat → Pc) (b r : Int) (w : World) (h : PR w a n F) (hn : n ≤ 10000000) (hr : First F n b r) :
    Calls Tryd.prog 30 #[.slice a n cap, .int .i64 b] w fun e w' => e = .returned (.int .i64 r) ∧ Below w.heap.size w w' := by
  have HP := Lib.hid h
  have HR := Lib.hid hr
  clear h hr
  go_enter Tryd.func30, Tryd.ntmps30
  go_wp2_with fail
  go_loopg [9] n (fun g s9 wr => ∃ k : Nat, k ≤ n ∧ g = n - k ∧ s9 = .int .i64 k ∧ (∀ j, j < k → ¬ Hit F b j) ∧ Below w.heap.size w wr)
  case atStart => exact ⟨0, Nat.zero_le _, by omega, rfl, fun j hj => (by omega), Below.refl _ _⟩
  case round =>
    obtain ⟨k, hk, hg, rfl, hno, hbw⟩ := hrel
    have HG := Lib.hid hg
    have HNO := Lib.hid hno
    have HBW := Lib.hid hbw
    clear hg hno
    by_cases hlt : k < n
    · obtain ⟨g, o, rfl, hgl, hc⟩ : ∃ g o, a = some ⟨g, o, none⟩ ∧ g < wr.heap.size ∧ ∀ i, i < n → _ := (HP.out.below hbw).resolve_left (by omega)
      obtain ⟨c0, c1, c2, c3, c4⟩ := hc k hlt
      obtain ⟨p, hp⟩ : ∃ p, F k = p := ⟨_, rfl⟩
      rw [hp] at c0 c1 c2 c3 c4
      have HPP := Lib.hid hp
      have i1 : (k : Int) < n := by omega
      have i2 : (0 : Int) ≤ k := by omega
      have e1 : IntKind.i64.wrap ((k : Int) + 1) = ((k + 1 : Nat) : Int) := by rw [i64w _ (by omega) (by omega)]; omega
      obtain ⟨W1, hW1⟩ : ∃ Xz, wr.alloc (.cells #[.int .i64 p.id, .int .i64 p.a, .int .i64 p.b, .int .i64 p.f, .int .i64 p.e] 62) = Xz := ⟨_, rfl⟩
      obtain ⟨tb, htb⟩ : ∃ xz, wr.heap.size = xz := ⟨_, rfl⟩
      have hb1 : Below wr.heap.size wr W1 := by rw [← hW1]; exact (Below.refl _ _).alloc (Nat.le_refl _) _
      have HT := Lib.hid (by rw [← hW1, ← htb]; exact alloc_new rfl : W1.heap[tb]? = some (.cells #[.int .i64 p.id, .int .i64 p.a, .int .i64 p.b, .int .i64 p.f, .int .i64 p.e] 62 (0, 0)))
      have EW1 := Lib.hid hW1
      have Etb := Lib.hid htb
      clear hW1 htb
      have HB1 := Lib.hid (chain hbw hb1)
      clear hc hp hbw hb1
      have t1 := cell_at HT.out 1
      have t2 := cell_at HT.out 2
      have tz := lt_of_heap HT.out
      simp only [List.getElem?_toArray, List.getElem?_cons_zero, List.getElem?_cons_succ] at t1 t2
      go_upto_region 4 with fail
      rw [EW1.out, Etb.out]
      by_cases h1 : p.a ≤ b
      · by_cases h2 : b < p.b
        · have HQ := Lib.hid (show r = (k : Int) from by
            have hh : Hit F b k := by unfold Hit; rw [HPP.out]; exact ⟨h1, h2⟩
            rcases HR.out with ⟨_, h3⟩ | ⟨i, hi, rfl, h4, h5⟩
            · exact absurd hh (h3 k hlt)
            · rcases Nat.lt_trichotomy i k with h6 | h6 | h6
              · exact absurd h4 (HNO.out i h6)
              · rw [h6]
              · exact absurd hh (h5 k h6))
          go_wp2_with fail
          go_ret
          exact ⟨by rw [HQ.out]; rfl, HB1.out⟩
        · have HQ := Lib.hid (show ¬ Hit F b k from fun hh => h2 (by unfold Hit at hh; rw [HPP.out] at hh; exact hh.2))
          go_wp2_with fail
          go_roundg (n - (k + 1))
          case measure => have := HG.out; omega
          case rel => exact ⟨k + 1, by omega, rfl, by go_num, fun j hj => by
            rcases Nat.eq_or_lt_of_le (Nat.le_of_lt_succ hj) with rfl | h3
            · exact HQ.out
            · exact HNO.out j h3, HB1.out⟩
      · have HQ := Lib.hid (show ¬ Hit F b k from fun hh => h1 (by unfold Hit at hh; rw [HPP.out] at hh; exact hh.1))
        go_wp2_with fail
        go_roundg (n - (k + 1))
        case measure => have := HG.out; omega
        case rel => exact ⟨k + 1, by omega, rfl, by go_num, fun j hj => by
          rcases Nat.eq_or_lt_of_le (Nat.le_of_lt_succ hj) with rfl | h3
          · exact HQ.out
          · exact HNO.out j h3, HB1.out⟩
    · have hkn : k = n := by omega
      subst hkn
      have hi : ¬ ((k : Int) < k) := by omega
      have HQ := Lib.hid (show r = -1 from by
        rcases HR.out with ⟨h, _⟩ | ⟨i, hi, rfl, h4, _⟩
        · exact h
        · exact absurd h4 (HNO.out i hi))
      go_wp2_with fail
      go_ret
      exact ⟨by rw [HQ.out]; rfl, HBW.out⟩
end Go.Proofs.YtkjkgpdfhmoenaaDoor.PlGo
