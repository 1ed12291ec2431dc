/-
  tesserabook's Roomy of spans.
-/
import Derived.Test.YtgddlcbaieclcaaSpFns
import Derived.Laws.CopyRow
import Derived.Laws.IdiomCopy
import Derived.Laws.MakeOwn
import Derived.Deep.WholeRow
namespace Go.Proofs.Ytgddlcbaieclcaa.SpRoom
open Go Go.RowKit Go.Proofs.Ytgddlcbaieclcaa.Kit Go.Proofs.Ytgddlcbaieclcaa.SpFns
attribute [local irreducible] wpQuiet

section
variable {P : Program}
/-- 'copy' into a row that is owned, elements of k cells each. -/
theorem run_copy_row_sz (w : World) (dT sT ty elem : TypeId) (k g o dLen dCap : Nat) (a : Addr) (sLen sCap : Nat) (cur : Array Value) (t : TypeId) (cs : List Value)
    (hu : P.underlying dT = some (.slice elem)) (hs : (P.info? elem).map (·.size) = some k)
    (hg : w.heap[g]? = some (.cells cur t (0, 0))) (hn : cs.length = Nat.min sLen dLen * k)
    (hsrc : ∀ j v, cs[j]? = some v → w.cell? (a.add j) = some v) (hfit : o + cs.length ≤ cur.size) (h1 : ∀ v ∈ cs, v.oneCell' = true) :
    (Builtin.copy_ #[dT, sT] ty #[.slice (some ⟨g, o, none⟩) dLen dCap, .slice (some a) sLen sCap]).run P w =
      .ok (goInt (Nat.min sLen dLen)) (w.setRow g (cur.toList.take o ++ cs ++ cur.toList.drop (o + cs.length)).toArray) := by
  have hl := run_loadCells_list (P := P) w a cs hsrc
  have hst := run_storeCells_at P g o t cs 0 cur w hg (by simpa using hfit) h1
  cases hq : P.info? elem with
  | none => simp [hq] at hs
  | some i =>
    have hi : i.size = k := by simpa [hq] using hs
    simp [Builtin.copy_, run_underlying hu, Builtin.lenOf, Builtin.firstCells, sizeOf, typeInfo, hq, hi, ← hn, hl, hst]
/-- Nothing goes over where one of the two has no element. -/
theorem run_copy_none_sz (w : World) (dT sT ty elem : TypeId) (k : Nat) (d a : Option Addr) (dLen dCap sLen sCap : Nat) (hu : P.underlying dT = some (.slice elem)) (hs : (P.info? elem).map (·.size) = some k) (hn : Nat.min sLen dLen = 0) :
    (Builtin.copy_ #[dT, sT] ty #[.slice d dLen dCap, .slice a sLen sCap]).run P w = .ok (goInt 0) w := by
  cases hq : P.info? elem with
  | none => simp [hq] at hs
  | some i =>
    have hl : ∀ (x : Addr), (loadCells x 0).run P w = .ok #[] w := fun x => by simpa using run_loadCells_list (P := P) w x [] (by simp)
    cases d <;> cases a <;> simp [Builtin.copy_, run_underlying hu, Builtin.lenOf, Builtin.firstCells, sizeOf, typeInfo, hq, hn, storeCells, hl]
end

def cellv (L H : Nat → Int) (j : Nat) : Value := if j % 2 = 0 then .int .i32 (L (j / 2)) else .int .i32 (H (j / 2))
def cells (L H : Nat → Int) (len : Nat) : List Value := (List.range (len * 2)).map (cellv L H)

theorem cells_at {L H : Nat → Int} {len j : Nat} {v : Value} (h : (cells L H len)[j]? = some v) : j < len * 2 ∧ v = cellv L H j := by
  unfold cells at h
  rw [List.getElem?_map] at h
  rcases Nat.lt_or_ge j (len * 2) with hj | hj
  · rw [List.getElem?_range hj] at h
    simp at h
    exact ⟨hj, h.symm⟩
  · rw [List.getElem?_eq_none (by simpa using hj)] at h
    cases h

theorem cellv_even (L H : Nat → Int) (i : Nat) : cellv L H (i * 2) = .int .i32 (L i) := by
  unfold cellv
  rw [if_pos (by omega), show i * 2 / 2 = i by omega]
theorem cellv_odd (L H : Nat → Int) (i : Nat) : cellv L H (i * 2 + 1) = .int .i32 (H i) := by
  unfold cellv
  rw [if_neg (by omega), show (i * 2 + 1) / 2 = i by omega]

/-- len spans, the rest are marks. -/
def ext (len : Nat) (L : Nat → Int) (l : Int) (i : Nat) : Int := if i < len then L i else l

theorem copied {len : Nat} {L H : Nat → Int} {l h : Int} {cur : Array Value} (hs : cur.size = (len + 80) * 2) :
    (cur.toList.take 0 ++ cells L H len ++ cur.toList.drop (0 + (cells L H len).length)).toArray.size = (len + 80) * 2 ∧
    ∀ j, j < len * 2 → (cur.toList.take 0 ++ cells L H len ++ cur.toList.drop (0 + (cells L H len).length)).toArray[j]? = some (cellv (ext len L l) (ext len H h) j) := by
  have hlen : (cells L H len).length = len * 2 := by simp [cells]
  refine ⟨by simp [hlen, hs]; omega, fun j hj => ?_⟩
  simp only [List.take_zero, List.nil_append, List.getElem?_toArray]
  rw [List.getElem?_append_left (by omega)]
  unfold cells
  rw [List.getElem?_map, List.getElem?_range hj]
  have h2 : j / 2 < len := by omega
  simp [cellv, ext, h2]

theorem info53 : (Try.prog.info? 53).map (fun i => (i.zero, i.size, i.bytes)) = some (some (.agg #[.int .i32 0, .int .i32 0]), 2, 8) := by kernel_rfl

theorem make53 (len : Nat) (hl : len ≤ 17592186044416) (w : World) :
    (Instr.makeSlice 50 (.int .i64 ((len : Int) + 80)) (.int .i64 ((len : Int) + 80))).run Try.prog w =
      .ok (.slice (some ⟨w.heap.size, 0, none⟩) (len + 80) (len + 80)) (w.alloc (.cells (madeCells #[.int .i32 0, .int .i32 0] ((len + 80) * 2)) 53)) := by
  obtain ⟨i, hi, hzz⟩ := Option.map_eq_some_iff.1 info53
  simp only [Prod.mk.injEq] at hzz
  obtain ⟨hz, hs, hb⟩ := hzz
  have hr := run_make (P := Try.prog) w 50 53 i _ Try.underlying50 hi hz .i64 .i64 ((len : Int) + 80) ((len : Int) + 80) (by omega) (by omega) (by rw [hb]; omega) (by omega)
  rw [hs] at hr
  rw [show (((len : Int) + 80).toNat) = len + 80 by omega] at hr
  exact hr

theorem copyFact (a : Option Addr) (len cap : Nat) (L H : Nat → Int) (l h : Int) (W2 : World) (hr : Row W2 a len L H) :
    ∃ C : Array Value, C.size = (len + 80) * 2 ∧ (∀ j, j < len * 2 → C[j]? = some (cellv (ext len L l) (ext len H h) j)) ∧
      (Builtin.copy_ #[50, 50] 3 #[.slice (some ⟨W2.heap.size, 0, none⟩) (len + 80) (len + 80), .slice a len cap]).run Try.prog (W2.alloc (.cells (madeCells #[.int .i32 0, .int .i32 0] ((len + 80) * 2)) 53)) =
        .ok (goInt len) (W2.alloc (.cells C 53)) := by
  have hsz : (madeCells #[.int .i32 0, .int .i32 0] ((len + 80) * 2)).size = (len + 80) * 2 := size_madeCells _ _
  rcases hr with rfl | ⟨b, off, rfl, hb, hc⟩
  · exact ⟨_, hsz, fun j hj => by omega, run_copy_none_sz _ _ _ _ _ 2 _ _ _ _ _ _ Try.underlying50 (by kernel_rfl) (Nat.zero_min _)⟩
  · have hlen : (cells L H len).length = len * 2 := by simp [cells]
    obtain ⟨k1, k2⟩ := copied (L := L) (H := H) (l := l) (h := h) hsz
    refine ⟨_, k1, k2, ?_⟩
    have hrun := run_copy_row_sz (P := Try.prog) (W2.alloc (.cells (madeCells #[.int .i32 0, .int .i32 0] ((len + 80) * 2)) 53)) 50 50 3 53 2 W2.heap.size 0 (len + 80) (len + 80) ⟨b, off, none⟩ len cap _ 53 (cells L H len)
      Try.underlying50 (by kernel_rfl) (alloc_new rfl) (by rw [hlen, show Nat.min len (len + 80) = len from Nat.min_eq_left (by omega)])
      (fun j v hv => by
        obtain ⟨hj, rfl⟩ := cells_at hv
        have hB := (Below.refl W2.heap.size W2).alloc (Nat.le_refl _) (.cells (madeCells #[.int .i32 0, .int .i32 0] ((len + 80) * 2)) 53)
        rw [add_plain, (bcell hB).1 _ _ hb]
        have hq := hc (j / 2) (by omega)
        unfold cellv
        split
        · rw [show off + j = off + j / 2 * 2 by omega]; exact hq.1
        · rw [show off + j = off + j / 2 * 2 + 1 by omega]; exact hq.2)
      (by rw [hlen, hsz]; omega)
      (fun v hv => by
        unfold cells at hv
        obtain ⟨j, _, rfl⟩ := List.mem_map.1 hv
        unfold cellv
        split <;> rfl)
    rw [show Nat.min len (len + 80) = len from Nat.min_eq_left (by omega), World.setRow_alloc_new] at hrun
    exact hrun

set_option maxRecDepth 100000 in
theorem Roomy_calls (a : Option Addr) (len cap : Nat) (L H : Nat → Int) (l h : Int) (w : World) (hr : Row w a len L H) (hl : len ≤ 17592186044416) :
    Calls Try.prog 31 #[.slice a len cap, .agg #[.int .i32 l, .int .i32 h]] w fun e w' =>
      ∃ n, w.heap.size ≤ n ∧ e = .returned (.slice (some ⟨n, 0, none⟩) (len + 80) (len + 80)) ∧ Row w' (some ⟨n, 0, none⟩) (len + 80) (ext len L l) (ext len H h) ∧ Below w.heap.size w w' := by
  have hm := fun w => make53 len hl w
  go_enter Try.func31, Try.ntmps31
  have hrw := hr.below ((Below.refl w.heap.size w).alloc (Nat.le_refl _) (.cells #[.int .i32 l, .int .i32 h] 53))
  obtain ⟨C, hC1, hC2, hcp⟩ := copyFact a len cap L H l h _ hrw
  rw [World.size_alloc] at hcp
  clear hrw
  go_wp2_with fail
  generalize hW : World.alloc _ _ = W3
  obtain ⟨m, hm'⟩ : ∃ m, m = w.heap.size := ⟨_, rfl⟩
  have h3 : Below w.heap.size w W3 ∧ W3.heap[m]? = some (.cells #[.int .i32 l, .int .i32 h] 53 (0, 0)) ∧ W3.heap[m + 1]? = some (.cells C 53 (0, 0)) := by
    subst hW
    subst hm'
    exact ⟨((Below.refl _ _).alloc (Nat.le_refl _) _).alloc (by simp) _, by rw [alloc_old (by simp)]; exact alloc_new rfl, alloc_new (by simp)⟩
  rw [← hm']
  clear hW hcp hm
  have HM := Lib.hid hm'
  have H3 := Lib.hid h3
  have HC2 := Lib.hid hC2
  clear hm' h3 hC2 hr
  go_loopg [6] 80 (fun g s6 wr => ∃ k : Nat, len ≤ k ∧ k ≤ len + 80 ∧ g = len + 80 - k ∧ s6 = .int .i64 k ∧ Below w.heap.size w wr ∧ wr.heap[m]? = some (.cells #[.int .i32 l, .int .i32 h] 53 (0, 0)) ∧
    ∃ D, wr.heap[m + 1]? = some (.cells D 53 (0, 0)) ∧ D.size = (len + 80) * 2 ∧ ∀ j, j < k * 2 → D[j]? = some (cellv (ext len L l) (ext len H h) j))
  case atStart => exact ⟨len, Nat.le_refl _, by omega, by omega, rfl, H3.out.1, H3.out.2.1, C, H3.out.2.2, hC1, HC2.out⟩
  case round =>
    obtain ⟨k, hlk, hk, hg, rfl, hbw, hbox, D, hD, hDs, hDc⟩ := hrel
    have HG := Lib.hid hg
    have HBW := Lib.hid hbw
    clear hg hbw
    by_cases hlt : k < len + 80
    · have hi : (k : Int) < (len : Int) + 80 := by omega
      have c0 := cell_at hbox 0
      have c1 := cell_at hbox 1
      simp only [List.getElem?_toArray, List.getElem?_cons_zero, List.getElem?_cons_succ] at c0 c1
      obtain ⟨v0, d0⟩ : ∃ v, wr.cell? ⟨m + 1, k * 2, none⟩ = some v := ⟨_, by rw [cell_at hD, Array.getElem?_eq_getElem (by omega)]⟩
      obtain ⟨v1, d1⟩ : ∃ v, wr.cell? ⟨m + 1, k * 2 + 1, none⟩ = some v := ⟨_, by rw [cell_at hD, Array.getElem?_eq_getElem (by omega)]⟩
      have f0 := free_at hD (k * 2)
      have f1 := free_at hD (k * 2 + 1)
      have HD := Lib.hid hD
      have HX := Lib.hid hbox
      have HDC := Lib.hid hDc
      clear hD hbox hDc
      go_wp2
      go_roundg (gk - 1)
      case measure => have := HG.out; omega
      case rel =>
        have hm1 : w.heap.size ≤ m := by have := HM.out; omega
        have g1 := heap_set HD.out (k * 2) (.int .i32 l)
        have g2 := heap_set g1 (k * 2 + 1) (.int .i32 h)
        refine ⟨k + 1, by omega, by omega, by have := HG.out; omega, by go_num, (HBW.out.setCell (by simp; omega) _).setCell (by simp; omega) _, ?_, _, g2, by simp [hDs], fun j hj => ?_⟩
        · rw [Below.heap_setCell _ _ _ _ (by simp), Below.heap_setCell _ _ _ _ (by simp)]
          exact HX.out
        · rcases Nat.lt_or_ge j (k * 2) with h1 | h1
          · rw [Array.getElem?_setIfInBounds_ne (by omega), Array.getElem?_setIfInBounds_ne (by omega)]
            exact HDC.out j h1
          · have hj2 : j = k * 2 ∨ j = k * 2 + 1 := by omega
            have hlk' : ¬ k < len := by omega
            rcases hj2 with rfl | rfl
            · rw [Array.getElem?_setIfInBounds_ne (by omega), Array.getElem?_setIfInBounds_self_of_lt (by omega), cellv_even]
              simp [ext, hlk']
            · rw [Array.getElem?_setIfInBounds_self_of_lt (by simp; omega), cellv_odd]
              simp [ext, hlk']
    · have hkn : k = len + 80 := by omega
      subst hkn
      go_wp2
      go_ret
      refine ⟨m + 1, by have := HM.out; omega, rfl, .inr ⟨m + 1, 0, rfl, lt_of_heap hD, fun i hi => ?_⟩, HBW.out⟩
      rw [cell_at hD, cell_at hD, Nat.zero_add, hDc _ (by omega), hDc _ (by omega), cellv_even, cellv_odd]
      exact ⟨rfl, rfl⟩
end Go.Proofs.Ytgddlcbaieclcaa.SpRoom
