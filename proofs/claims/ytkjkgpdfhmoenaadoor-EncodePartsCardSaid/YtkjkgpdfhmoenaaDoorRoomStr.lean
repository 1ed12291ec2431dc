/-
  tesserabook.Roomy, tesserabook.Intact of lists of texts.
-/
import Derived.Test.YtkjkgpdfhmoenaaDoorSameStr
import Derived.Test.YtkjkgpdfhmoenaaDoorCopyRow
namespace Go.Proofs.YtkjkgpdfhmoenaaDoor.RoomStr
open Go Go.RowKit Go.Proofs.YtkjkgpdfhmoenaaDoor.Kit Go.Proofs.YtkjkgpdfhmoenaaDoor.CopyRow Go.Proofs.YtkjkgpdfhmoenaaDoor.SameStr
attribute [local irreducible] wpQuiet

def ext (len : Nat) (F : Nat → ByteArray) (l : ByteArray) (i : Nat) : ByteArray := if i < len then F i else l

theorem info0 : (Tryd.prog.info? 9).map (fun i => (i.zero, i.size, i.bytes)) = some (some (.string (ByteArray.empty)), 1, 16) := by kernel_rfl

theorem make0 (len : Nat) (hl : len ≤ 17592186044416) (w : World) (_ha : (len + 80) * 16 ≤ 281474976710656) :
    (Instr.makeSlice 22 (.int .i64 ((len : Int) + 80)) (.int .i64 ((len : Int) + 80))).run Tryd.prog w =
      .ok (.slice (some ⟨w.heap.size, 0, none⟩) (len + 80) (len + 80)) (w.alloc (.cells (madeCells #[.string (ByteArray.empty)] (len + 80)) 9)) := by
  obtain ⟨i, hi, hzz⟩ := Option.map_eq_some_iff.1 info0
  simp only [Prod.mk.injEq] at hzz
  obtain ⟨hz, hs, hb⟩ := hzz
  have hr := run_make (P := Tryd.prog) w 22 9 i _ Tryd.underlying22 hi hz .i64 .i64 ((len : Int) + 80) ((len : Int) + 80) (by omega) (by omega) (by rw [hb]; omega) (by omega)
  rw [hs, Nat.mul_one, show (((len : Int) + 80).toNat) = len + 80 by omega] at hr
  exact hr

theorem copyFact (a : Option Addr) (len cap : Nat) (F : Nat → ByteArray) (l : ByteArray) (W2 : World) (hr : Row W2 a len F) :
    ∃ C : Array Value, C.size = len + 80 ∧ (∀ j, j < len → C[j]? = some (.string (ext len F l j))) ∧
      (Builtin.copy_ #[22, 22] 3 #[.slice (some ⟨W2.heap.size, 0, none⟩) (len + 80) (len + 80), .slice a len cap]).run Tryd.prog (W2.alloc (.cells (madeCells #[.string (ByteArray.empty)] (len + 80)) 9)) =
        .ok (goInt len) (W2.alloc (.cells C 9)) := by
  have hsz : (madeCells #[.string (ByteArray.empty)] (len + 80)).size = len + 80 := size_madeCells _ _
  rcases hr with rfl | ⟨b, off, rfl, hb, hc⟩
  · exact ⟨_, hsz, fun j hj => by omega, run_copy_none_sz _ _ _ _ _ 1 _ _ _ _ _ _ Tryd.underlying22 (by kernel_rfl) (Nat.zero_min _)⟩
  · obtain ⟨cs, hcs⟩ : ∃ cs : List Value, cs = (List.range len).map fun j => .string (F j) := ⟨_, rfl⟩
    have hlen : cs.length = len := by simp [hcs]
    have hat : ∀ (j : Nat) v, cs[j]? = some v → j < len ∧ v = .string (F j) := fun j v hv => by
      rw [hcs, List.getElem?_map] at hv
      have hj : j < len := by
        rcases Nat.lt_or_ge j len with h | h
        · exact h
        · rw [List.getElem?_eq_none (by simpa using h)] at hv; cases hv
      rw [List.getElem?_range hj] at hv
      exact ⟨hj, by simpa using hv.symm⟩
    refine ⟨((madeCells #[.string (ByteArray.empty)] (len + 80)).toList.take 0 ++ cs ++ (madeCells #[.string (ByteArray.empty)] (len + 80)).toList.drop (0 + cs.length)).toArray, by simp [hlen, hsz], fun j hj => ?_, ?_⟩
    · simp only [List.take_zero, List.nil_append, List.getElem?_toArray]
      rw [List.getElem?_append_left (by omega), hcs, List.getElem?_map, List.getElem?_range hj]
      simp [ext, hj]
    · have hrun := run_copy_row_sz (P := Tryd.prog) (W2.alloc (.cells (madeCells #[.string (ByteArray.empty)] (len + 80)) 9)) 22 22 3 9 1 W2.heap.size 0 (len + 80) (len + 80) ⟨b, off, none⟩ len cap _ 9 cs
        Tryd.underlying22 (by kernel_rfl) (alloc_new rfl) (by rw [hlen, show Nat.min len (len + 80) = len from Nat.min_eq_left (by omega), Nat.mul_one])
        (fun j v hv => by
          obtain ⟨hj, rfl⟩ := hat j v hv
          have hB := (Below.refl W2.heap.size W2).alloc (Nat.le_refl _) (.cells (madeCells #[.string (ByteArray.empty)] (len + 80)) 9)
          rw [add_plain, (bcell hB).1 _ _ hb]
          exact hc j hj)
        (by rw [hlen, hsz]; omega)
        (fun v hv => by
          rw [hcs] at hv
          obtain ⟨j, _, rfl⟩ := List.mem_map.1 hv
          rfl)
      rw [show Nat.min len (len + 80) = len from Nat.min_eq_left (by omega), World.setRow_alloc_new] at hrun
      exact hrun

set_option maxRecDepth 100000 in
theorem Roomy_calls (a : Option Addr) (len cap : Nat) (F : Nat → ByteArray) (l : ByteArray) (w : World) (hr : Row w a len F) (hl : len ≤ 8796093022128) :
    Calls Tryd.prog 33 #[.slice a len cap, .string (l)] w fun e w' =>
      ∃ n, w.heap.size ≤ n ∧ e = .returned (.slice (some ⟨n, 0, none⟩) (len + 80) (len + 80)) ∧ Row w' (some ⟨n, 0, none⟩) (len + 80) (ext len F l) ∧ Below w.heap.size w w' := by
  have hm := fun w => make0 len (by omega) w (by omega)
  obtain ⟨C, hC1, hC2, hcp⟩ := copyFact a len cap F l w hr
  obtain ⟨m, hm'⟩ : ∃ m, w.heap.size = m := ⟨_, rfl⟩
  obtain ⟨W3, hW3⟩ : ∃ W3, w.alloc (.cells C 9) = W3 := ⟨_, rfl⟩
  have hB3 : Below w.heap.size w W3 := by rw [← hW3]; exact (Below.refl _ _).alloc (Nat.le_refl _) _
  have h3 : W3.heap[m]? = some (.cells C 9 (0, 0)) := by rw [← hW3, ← hm']; exact alloc_new rfl
  have HM := Lib.hid hm'
  have HB3 := Lib.hid hB3
  have H3 := Lib.hid h3
  have HC2 := Lib.hid hC2
  have EW3 := Lib.hid hW3
  clear hr hB3 h3 hC2 hW3 hm'
  go_enter Tryd.func33, Tryd.ntmps33
  go_wp2_with fail
  rw [EW3.out, HM.out]
  clear hm hcp
  go_loopg [6] 80 (fun g s6 wr => ∃ k : Nat, len ≤ k ∧ k ≤ len + 80 ∧ g = len + 80 - k ∧ s6 = .int .i64 k ∧ Below w.heap.size w wr ∧
    ∃ D, wr.heap[m]? = some (.cells D 9 (0, 0)) ∧ D.size = len + 80 ∧ ∀ j, j < k → D[j]? = some (.string (ext len F l j)))
  case atStart => exact ⟨len, Nat.le_refl _, by omega, by omega, rfl, HB3.out, C, H3.out, hC1, HC2.out⟩
  case round =>
    obtain ⟨k, hlk, hk, hg, rfl, hbw, D, hD, hDs, hDc⟩ := hrel
    have HG := Lib.hid hg
    have HBW := Lib.hid hbw
    clear hg hbw
    by_cases hlt : k < len + 80
    · have hi : (k : Int) < (len : Int) + 80 := by omega
      obtain ⟨v0, d0⟩ : ∃ v, wr.cell? ⟨m, k, none⟩ = some v := ⟨_, by rw [cell_at hD, Array.getElem?_eq_getElem (by omega)]⟩
      have f0 := free_at hD k
      have HD := Lib.hid hD
      have HDC := Lib.hid hDc
      clear hD hDc
      go_wp2
      go_roundg (gk - 1)
      case measure => have := HG.out; omega
      case rel =>
        have g1 := heap_set HD.out k (.string (l))
        refine ⟨k + 1, by omega, by omega, by have := HG.out; omega, by go_num, HBW.out.setCell (by have := HM.out; simp; omega) _, _, g1, by simp [hDs], fun j hj => ?_⟩
        rcases Nat.lt_or_ge j k with h1 | h1
        · rw [Array.getElem?_setIfInBounds_ne (by omega)]
          exact HDC.out j h1
        · have hj2 : j = k := by omega
          have hlk' : ¬ k < len := by omega
          subst hj2
          rw [Array.getElem?_setIfInBounds_self_of_lt (by omega)]
          simp [ext, hlk']
    · have hkn : k = len + 80 := by omega
      subst hkn
      go_wp2
      go_ret
      refine ⟨m, by have := HM.out; omega, rfl, .inr ⟨m, 0, rfl, lt_of_heap hD, fun i hi => ?_⟩, HBW.out⟩
      rw [cell_at hD, Nat.zero_add, hDc _ hi]

set_option maxRecDepth 100000 in
theorem Intact_calls (n : Nat) (a : Option Addr) (len cap : Nat) (F : Nat → ByteArray) (l : ByteArray) (w : World) (hf : Row w (some ⟨n, 0, none⟩) (len + 80) (ext len F l)) (hr : Row w a len F) (hl : len ≤ 17592186044416) :
    Calls Tryd.prog 35 #[.slice (some ⟨n, 0, none⟩) (len + 80) (len + 80), .slice a len cap, .string (l)] w fun e w' => e = .returned (.bool true) ∧ Below w.heap.size w w' := by
  have HF := Lib.hid hf
  have HR := Lib.hid hr
  clear hf hr
  have hne : ((len : Int) + 80 != (len : Int) + 80) = false := by simp
  go_enter Tryd.func35, Tryd.ntmps35
  go_wp2_with fail
  have hS := Same_calls (some ⟨n, 0, none⟩) a len (len + 80) cap F w ((HF.out.mono (by omega)).cong (fun i hi => by simp [ext, hi])) HR.out (by omega)
  refine hS.mono ?_
  rintro e w1 ⟨rfl, hb⟩
  have H1 := Lib.hid hb
  clear hS hb
  go_wp2_with fail
  go_loopg [7] 80 (fun g s7 wr => ∃ k : Nat, len ≤ k ∧ k ≤ len + 80 ∧ g = len + 80 - k ∧ s7 = .int .i64 k ∧ Below w1.heap.size w1 wr)
  case atStart => exact ⟨len, Nat.le_refl _, by omega, by omega, rfl, Below.refl _ _⟩
  case round =>
    obtain ⟨k, hlk, hk, hg, rfl, hbw⟩ := hrel
    have HG := Lib.hid hg
    have HBW := Lib.hid hbw
    clear hg
    by_cases hlt : k < len + 80
    · obtain ⟨b2, o2, hh, hb2, hc2⟩ := (HF.out.below (chain H1.out hbw)).at hlt
      cases hh
      have hq := hc2 k hlt
      have hlk' : ¬ k < len := by omega
      simp only [ext, if_neg hlk', Nat.zero_add] at hq
      have hi : (k : Int) < (len : Int) + 80 := by omega
      clear hc2 hbw hlk'
      go_wp2
      go_roundg (gk - 1)
      case measure => have := HG.out; omega
      case rel => exact ⟨k + 1, by omega, by omega, by have := HG.out; omega, by go_num, HBW.out⟩
    · have hkn : k = len + 80 := by omega
      subst hkn
      go_wp2
      go_ret
      exact ⟨rfl, chain H1.out hbw⟩
end Go.Proofs.YtkjkgpdfhmoenaaDoor.RoomStr
