/-
  utf8.FullRuneInString, utf.beginning, utf.Tail.
-/
import Derived.Test.YtendkmldecoogaaDoorItGo
namespace Go.Proofs.YtendkmldecoogaaDoor.FullRune
open Go Go.RowKit Go.Lib Go.Proofs.YtendkmldecoogaaDoor.Kit Go.Proofs.YtendkmldecoogaaDoor.Utf Go.Proofs.YtendkmldecoogaaDoor.It Go.Proofs.YtendkmldecoogaaDoor.ItGo
attribute [local irreducible] wpQuiet

/-- What FullRuneInString reckons. -/
def FullP (n sz lo hi b1 b2 : Nat) : Prop := n ≠ 0 ∧ (sz ≤ n ∨ (1 < n ∧ (b1 < lo ∨ hi < b1)) ∨ (2 < n ∧ (b2 < 128 ∨ 191 < b2)))
instance (n sz lo hi b1 b2 : Nat) : Decidable (FullP n sz lo hi b1 b2) := by unfold FullP; infer_instance




set_option maxHeartbeats 8000000 in
set_option maxRecDepth 1000000 in
theorem Full_calls (s : ByteArray) (w : World) (hT : Tabs w) :
    Calls Tryd.prog 143 #[.string s] w fun e w' => e = .returned (.bool (decide (FullP s.size (firstT (s.get! 0).toNat % 8) (accLo (firstT (s.get! 0).toNat / 16)) (accHi (firstT (s.get! 0).toNat / 16)) (s.get! 1).toNat (s.get! 2).toNat))) ∧ Below w.heap.size w w' := by
  by_cases h0 : s.size = 0
  · have hz : (s.size : Int) = 0 := by omega
    have hp : ∀ a b c d e, decide (FullP s.size a b c d e) = false := fun a b c d e => decide_eq_false (by unfold FullP; omega)
    rw [hp]
    clear hp
    go_enter Tryd.func143, Tryd.ntmps143
    go_wp2
    go_ret
    exact ⟨rfl, Below.refl _ _⟩
  · have hz0 : (0 : Int) < (s.size : Int) := by omega
    have hz0' : ¬ ((s.size : Int) = 0) := by omega
    obtain ⟨x0, hx0⟩ : ∃ x0, s.get! 0 = x0 := ⟨_, rfl⟩
    obtain ⟨x1, hx1⟩ : ∃ x1, s.get! 1 = x1 := ⟨_, rfl⟩
    obtain ⟨x2, hx2⟩ : ∃ x2, s.get! 2 = x2 := ⟨_, rfl⟩
    have hs0 : s[0]'(by omega) = x0 := by rw [← hx0]; exact (Utf8W.get!_of_lt s 0 (by omega)).symm
    have l0 := x0.toNat_lt; have l1 := x1.toNat_lt; have l2 := x2.toNat_lt
    rw [hx0, hx1, hx2]
    have hc0 : w.cell? ⟨0, x0.toNat, none⟩ = some (.int .u8 (firstT x0.toNat)) := hT.1 x0.toNat (by omega)
    have HT2 := Lib.hid (show ∀ i, i < 16 → w.cell? ⟨1, 2 * i, none⟩ = some (.int .u8 (accLo i)) ∧ w.cell? ⟨1, 2 * i + 1, none⟩ = some (.int .u8 (accHi i)) from hT.2)
    have hzg := lt_of_cell hc0
    rcases Lib.firstT_cases x0.toNat with hX | hX | hX | hX | hX | hX | hX | hX | hX
    · rw [hX] at hc0 ⊢
      have hp : decide (FullP s.size (240 % 8) (accLo (240 / 16)) (accHi (240 / 16)) x1.toNat x2.toNat) = true := decide_eq_true (by unfold FullP; omega)
      rw [hp]
      clear hT hX hp
      go_enter Tryd.func143, Tryd.ntmps143
      go_wp2
      go_ret
      exact ⟨rfl, Below.refl _ _⟩
    · rw [hX] at hc0 ⊢
      have hp : decide (FullP s.size (241 % 8) (accLo (241 / 16)) (accHi (241 / 16)) x1.toNat x2.toNat) = true := decide_eq_true (by unfold FullP; omega)
      rw [hp]
      have h1n : (1 : Int) ≤ (s.size : Int) := by omega
      clear hT hX hp
      go_enter Tryd.func143, Tryd.ntmps143
      go_wp2
      go_ret
      exact ⟨rfl, Below.refl _ _⟩
    · rw [hX] at hc0 ⊢
      have ha0 := (HT2.out 0 (by omega)).1
      have ha1 := (HT2.out 0 (by omega)).2
      simp only [accLo, accHi, Nat.reduceMul, Nat.reduceAdd, Nat.reduceEqDiff, if_true, if_false, Nat.reduceMod, Nat.reduceDiv] at ha0 ha1 ⊢
      clear hT hX
      have hzh := lt_of_cell ha0
      by_cases hn : 2 ≤ s.size
      · have hp : decide (FullP s.size 2 128 191 x1.toNat x2.toNat) = true := decide_eq_true (by unfold FullP; omega)
        rw [hp]
        have hn' : (2 : Int) ≤ (s.size : Int) := by omega
        clear hp
        go_enter Tryd.func143, Tryd.ntmps143
        go_wp2
        go_ret
        exact ⟨rfl, Below.refl _ _⟩
      · have hn' : ¬ ((2 : Int) ≤ (s.size : Int)) := by omega
        by_cases hn1 : s.size = 1
        · have h1 : s.size = 1 := by omega
          have h1' : ¬ ((1 : Int) < (s.size : Int)) := by omega
          have h1'' : ¬ ((2 : Int) < (s.size : Int)) := by omega
          have hp : decide (FullP s.size 2 128 191 x1.toNat x2.toNat) = false := decide_eq_false (by unfold FullP; omega)
          rw [hp]
          obtain ⟨W1, hW1⟩ : ∃ Xz, w.alloc (.cells #[.int .u8 128, .int .u8 191] 223) = Xz := ⟨_, rfl⟩
          obtain ⟨rb, hrb⟩ : ∃ xz, w.heap.size = xz := ⟨_, rfl⟩
          have hb1 : Below w.heap.size w W1 := by rw [← hW1]; exact (Below.refl _ _).alloc (Nat.le_refl _) _
          have HR := Lib.hid (by rw [← hW1, ← hrb]; exact alloc_new rfl : W1.heap[rb]? = some (.cells #[.int .u8 128, .int .u8 191] 223 (0, 0)))
          have EW1 := Lib.hid hW1
          have Erb := Lib.hid hrb
          clear hW1 hrb
          have HB := Lib.hid hb1
          clear hp hb1 h1
          go_enter Tryd.func143, Tryd.ntmps143
          go_upto_region 8 with fail
          rw [EW1.out, Erb.out]
          refine region_calm (by kernel_rfl) (by kernel_rfl) ?_
          repeat (quiet_step ((fail)))
          refine wpQuiet_nil ?_
          rintro _ ⟨y, rfl⟩
          go_wp2
          go_ret
          exact ⟨rfl, Later.chain HB.out y⟩
        · exfalso; omega
    · rw [hX] at hc0 ⊢
      have ha0 := (HT2.out 1 (by omega)).1
      have ha1 := (HT2.out 1 (by omega)).2
      simp only [accLo, accHi, Nat.reduceMul, Nat.reduceAdd, Nat.reduceEqDiff, if_true, if_false, Nat.reduceMod, Nat.reduceDiv] at ha0 ha1 ⊢
      clear hT hX
      have hzh := lt_of_cell ha0
      by_cases hn : 3 ≤ s.size
      · have hp : decide (FullP s.size 3 160 191 x1.toNat x2.toNat) = true := decide_eq_true (by unfold FullP; omega)
        rw [hp]
        have hn' : (3 : Int) ≤ (s.size : Int) := by omega
        clear hp
        go_enter Tryd.func143, Tryd.ntmps143
        go_wp2
        go_ret
        exact ⟨rfl, Below.refl _ _⟩
      · have hn' : ¬ ((3 : Int) ≤ (s.size : Int)) := by omega
        by_cases hn1 : s.size = 1
        · have h1 : s.size = 1 := by omega
          have h1' : ¬ ((1 : Int) < (s.size : Int)) := by omega
          have h1'' : ¬ ((2 : Int) < (s.size : Int)) := by omega
          have hp : decide (FullP s.size 3 160 191 x1.toNat x2.toNat) = false := decide_eq_false (by unfold FullP; omega)
          rw [hp]
          obtain ⟨W1, hW1⟩ : ∃ Xz, w.alloc (.cells #[.int .u8 160, .int .u8 191] 223) = Xz := ⟨_, rfl⟩
          obtain ⟨rb, hrb⟩ : ∃ xz, w.heap.size = xz := ⟨_, rfl⟩
          have hb1 : Below w.heap.size w W1 := by rw [← hW1]; exact (Below.refl _ _).alloc (Nat.le_refl _) _
          have HR := Lib.hid (by rw [← hW1, ← hrb]; exact alloc_new rfl : W1.heap[rb]? = some (.cells #[.int .u8 160, .int .u8 191] 223 (0, 0)))
          have EW1 := Lib.hid hW1
          have Erb := Lib.hid hrb
          clear hW1 hrb
          have HB := Lib.hid hb1
          clear hp hb1 h1
          go_enter Tryd.func143, Tryd.ntmps143
          go_upto_region 8 with fail
          rw [EW1.out, Erb.out]
          refine region_calm (by kernel_rfl) (by kernel_rfl) ?_
          repeat (quiet_step ((fail)))
          refine wpQuiet_nil ?_
          rintro _ ⟨y, rfl⟩
          go_wp2
          go_ret
          exact ⟨rfl, Later.chain HB.out y⟩
        · have h1' : (1 : Int) < (s.size : Int) := by omega
          have h1n : 1 < s.size := by omega
          have hs1 : s[1]'(by omega) = x1 := by rw [← hx1]; exact (Utf8W.get!_of_lt s 1 (by omega)).symm
          by_cases c1 : x1.toNat < 160
          · have hp : decide (FullP s.size 3 160 191 x1.toNat x2.toNat) = true := decide_eq_true (by unfold FullP; omega)
            have d1 : decide ((x1.toNat : Int) < 160) = true := decide_eq_true (by omega)
            rw [hp]
            clear hp c1
            obtain ⟨W1, hW1⟩ : ∃ Xz, w.alloc (.cells #[.int .u8 160, .int .u8 191] 223) = Xz := ⟨_, rfl⟩
            obtain ⟨rb, hrb⟩ : ∃ xz, w.heap.size = xz := ⟨_, rfl⟩
            have hb1 : Below w.heap.size w W1 := by rw [← hW1]; exact (Below.refl _ _).alloc (Nat.le_refl _) _
            have HR := Lib.hid (by rw [← hW1, ← hrb]; exact alloc_new rfl : W1.heap[rb]? = some (.cells #[.int .u8 160, .int .u8 191] 223 (0, 0)))
            have EW1 := Lib.hid hW1
            have Erb := Lib.hid hrb
            clear hW1 hrb
            have HB := Lib.hid hb1
            clear hb1
            have r0 := cell_at HR.out 0
            have r1 := cell_at HR.out 1
            have rz := lt_of_heap HR.out
            simp only [List.getElem?_toArray, List.getElem?_cons_zero, List.getElem?_cons_succ] at r0 r1
            go_enter Tryd.func143, Tryd.ntmps143
            go_upto_region 8 with fail
            rw [EW1.out, Erb.out]
            refine region_calm (by kernel_rfl) (by kernel_rfl) ?_
            repeat (quiet_step ((fail)))
            refine wpQuiet_nil ?_
            rintro _ ⟨y, rfl⟩
            go_wp2
            go_ret
            exact ⟨rfl, Later.chain HB.out y⟩
          by_cases c2 : 191 < x1.toNat
          · have hp : decide (FullP s.size 3 160 191 x1.toNat x2.toNat) = true := decide_eq_true (by unfold FullP; omega)
            have d1 : decide ((x1.toNat : Int) < 160) = false := decide_eq_false (by omega)
            have d2 : decide ((191 : Int) < x1.toNat) = true := decide_eq_true (by omega)
            rw [hp]
            clear hp c1 c2
            obtain ⟨W1, hW1⟩ : ∃ Xz, w.alloc (.cells #[.int .u8 160, .int .u8 191] 223) = Xz := ⟨_, rfl⟩
            obtain ⟨rb, hrb⟩ : ∃ xz, w.heap.size = xz := ⟨_, rfl⟩
            have hb1 : Below w.heap.size w W1 := by rw [← hW1]; exact (Below.refl _ _).alloc (Nat.le_refl _) _
            have HR := Lib.hid (by rw [← hW1, ← hrb]; exact alloc_new rfl : W1.heap[rb]? = some (.cells #[.int .u8 160, .int .u8 191] 223 (0, 0)))
            have EW1 := Lib.hid hW1
            have Erb := Lib.hid hrb
            clear hW1 hrb
            have HB := Lib.hid hb1
            clear hb1
            have r0 := cell_at HR.out 0
            have r1 := cell_at HR.out 1
            have rz := lt_of_heap HR.out
            simp only [List.getElem?_toArray, List.getElem?_cons_zero, List.getElem?_cons_succ] at r0 r1
            go_enter Tryd.func143, Tryd.ntmps143
            go_upto_region 8 with fail
            rw [EW1.out, Erb.out]
            refine region_calm (by kernel_rfl) (by kernel_rfl) ?_
            repeat (quiet_step ((fail)))
            refine wpQuiet_nil ?_
            rintro _ ⟨y, rfl⟩
            go_wp2
            go_ret
            exact ⟨rfl, Later.chain HB.out y⟩
          have d1 : decide ((x1.toNat : Int) < 160) = false := decide_eq_false (by omega)
          have d2 : decide ((191 : Int) < x1.toNat) = false := decide_eq_false (by omega)
          have h1'' : ¬ ((2 : Int) < (s.size : Int)) := by omega
          have hp : decide (FullP s.size 3 160 191 x1.toNat x2.toNat) = false := decide_eq_false (by unfold FullP; omega)
          rw [hp]
          clear hp c1 c2
          obtain ⟨W1, hW1⟩ : ∃ Xz, w.alloc (.cells #[.int .u8 160, .int .u8 191] 223) = Xz := ⟨_, rfl⟩
          obtain ⟨rb, hrb⟩ : ∃ xz, w.heap.size = xz := ⟨_, rfl⟩
          have hb1 : Below w.heap.size w W1 := by rw [← hW1]; exact (Below.refl _ _).alloc (Nat.le_refl _) _
          have HR := Lib.hid (by rw [← hW1, ← hrb]; exact alloc_new rfl : W1.heap[rb]? = some (.cells #[.int .u8 160, .int .u8 191] 223 (0, 0)))
          have EW1 := Lib.hid hW1
          have Erb := Lib.hid hrb
          clear hW1 hrb
          have HB := Lib.hid hb1
          clear hb1
          have r0 := cell_at HR.out 0
          have r1 := cell_at HR.out 1
          have rz := lt_of_heap HR.out
          simp only [List.getElem?_toArray, List.getElem?_cons_zero, List.getElem?_cons_succ] at r0 r1
          go_enter Tryd.func143, Tryd.ntmps143
          go_upto_region 8 with fail
          rw [EW1.out, Erb.out]
          refine region_calm (by kernel_rfl) (by kernel_rfl) ?_
          repeat (quiet_step ((fail)))
          refine wpQuiet_nil ?_
          rintro _ ⟨y, rfl⟩
          go_wp2
          go_ret
          exact ⟨rfl, Later.chain HB.out y⟩
    · rw [hX] at hc0 ⊢
      have ha0 := (HT2.out 0 (by omega)).1
      have ha1 := (HT2.out 0 (by omega)).2
      simp only [accLo, accHi, Nat.reduceMul, Nat.reduceAdd, Nat.reduceEqDiff, if_true, if_false, Nat.reduceMod, Nat.reduceDiv] at ha0 ha1 ⊢
      clear hT hX
      have hzh := lt_of_cell ha0
      by_cases hn : 3 ≤ s.size
      · have hp : decide (FullP s.size 3 128 191 x1.toNat x2.toNat) = true := decide_eq_true (by unfold FullP; omega)
        rw [hp]
        have hn' : (3 : Int) ≤ (s.size : Int) := by omega
        clear hp
        go_enter Tryd.func143, Tryd.ntmps143
        go_wp2
        go_ret
        exact ⟨rfl, Below.refl _ _⟩
      · have hn' : ¬ ((3 : Int) ≤ (s.size : Int)) := by omega
        by_cases hn1 : s.size = 1
        · have h1 : s.size = 1 := by omega
          have h1' : ¬ ((1 : Int) < (s.size : Int)) := by omega
          have h1'' : ¬ ((2 : Int) < (s.size : Int)) := by omega
          have hp : decide (FullP s.size 3 128 191 x1.toNat x2.toNat) = false := decide_eq_false (by unfold FullP; omega)
          rw [hp]
          obtain ⟨W1, hW1⟩ : ∃ Xz, w.alloc (.cells #[.int .u8 128, .int .u8 191] 223) = Xz := ⟨_, rfl⟩
          obtain ⟨rb, hrb⟩ : ∃ xz, w.heap.size = xz := ⟨_, rfl⟩
          have hb1 : Below w.heap.size w W1 := by rw [← hW1]; exact (Below.refl _ _).alloc (Nat.le_refl _) _
          have HR := Lib.hid (by rw [← hW1, ← hrb]; exact alloc_new rfl : W1.heap[rb]? = some (.cells #[.int .u8 128, .int .u8 191] 223 (0, 0)))
          have EW1 := Lib.hid hW1
          have Erb := Lib.hid hrb
          clear hW1 hrb
          have HB := Lib.hid hb1
          clear hp hb1 h1
          go_enter Tryd.func143, Tryd.ntmps143
          go_upto_region 8 with fail
          rw [EW1.out, Erb.out]
          refine region_calm (by kernel_rfl) (by kernel_rfl) ?_
          repeat (quiet_step ((fail)))
          refine wpQuiet_nil ?_
          rintro _ ⟨y, rfl⟩
          go_wp2
          go_ret
          exact ⟨rfl, Later.chain HB.out y⟩
        · have h1' : (1 : Int) < (s.size : Int) := by omega
          have h1n : 1 < s.size := by omega
          have hs1 : s[1]'(by omega) = x1 := by rw [← hx1]; exact (Utf8W.get!_of_lt s 1 (by omega)).symm
          by_cases c1 : x1.toNat < 128
          · have hp : decide (FullP s.size 3 128 191 x1.toNat x2.toNat) = true := decide_eq_true (by unfold FullP; omega)
            have d1 : decide ((x1.toNat : Int) < 128) = true := decide_eq_true (by omega)
            rw [hp]
            clear hp c1
            obtain ⟨W1, hW1⟩ : ∃ Xz, w.alloc (.cells #[.int .u8 128, .int .u8 191] 223) = Xz := ⟨_, rfl⟩
            obtain ⟨rb, hrb⟩ : ∃ xz, w.heap.size = xz := ⟨_, rfl⟩
            have hb1 : Below w.heap.size w W1 := by rw [← hW1]; exact (Below.refl _ _).alloc (Nat.le_refl _) _
            have HR := Lib.hid (by rw [← hW1, ← hrb]; exact alloc_new rfl : W1.heap[rb]? = some (.cells #[.int .u8 128, .int .u8 191] 223 (0, 0)))
            have EW1 := Lib.hid hW1
            have Erb := Lib.hid hrb
            clear hW1 hrb
            have HB := Lib.hid hb1
            clear hb1
            have r0 := cell_at HR.out 0
            have r1 := cell_at HR.out 1
            have rz := lt_of_heap HR.out
            simp only [List.getElem?_toArray, List.getElem?_cons_zero, List.getElem?_cons_succ] at r0 r1
            go_enter Tryd.func143, Tryd.ntmps143
            go_upto_region 8 with fail
            rw [EW1.out, Erb.out]
            refine region_calm (by kernel_rfl) (by kernel_rfl) ?_
            repeat (quiet_step ((fail)))
            refine wpQuiet_nil ?_
            rintro _ ⟨y, rfl⟩
            go_wp2
            go_ret
            exact ⟨rfl, Later.chain HB.out y⟩
          by_cases c2 : 191 < x1.toNat
          · have hp : decide (FullP s.size 3 128 191 x1.toNat x2.toNat) = true := decide_eq_true (by unfold FullP; omega)
            have d1 : decide ((x1.toNat : Int) < 128) = false := decide_eq_false (by omega)
            have d2 : decide ((191 : Int) < x1.toNat) = true := decide_eq_true (by omega)
            rw [hp]
            clear hp c1 c2
            obtain ⟨W1, hW1⟩ : ∃ Xz, w.alloc (.cells #[.int .u8 128, .int .u8 191] 223) = Xz := ⟨_, rfl⟩
            obtain ⟨rb, hrb⟩ : ∃ xz, w.heap.size = xz := ⟨_, rfl⟩
            have hb1 : Below w.heap.size w W1 := by rw [← hW1]; exact (Below.refl _ _).alloc (Nat.le_refl _) _
            have HR := Lib.hid (by rw [← hW1, ← hrb]; exact alloc_new rfl : W1.heap[rb]? = some (.cells #[.int .u8 128, .int .u8 191] 223 (0, 0)))
            have EW1 := Lib.hid hW1
            have Erb := Lib.hid hrb
            clear hW1 hrb
            have HB := Lib.hid hb1
            clear hb1
            have r0 := cell_at HR.out 0
            have r1 := cell_at HR.out 1
            have rz := lt_of_heap HR.out
            simp only [List.getElem?_toArray, List.getElem?_cons_zero, List.getElem?_cons_succ] at r0 r1
            go_enter Tryd.func143, Tryd.ntmps143
            go_upto_region 8 with fail
            rw [EW1.out, Erb.out]
            refine region_calm (by kernel_rfl) (by kernel_rfl) ?_
            repeat (quiet_step ((fail)))
            refine wpQuiet_nil ?_
            rintro _ ⟨y, rfl⟩
            go_wp2
            go_ret
            exact ⟨rfl, Later.chain HB.out y⟩
          have d1 : decide ((x1.toNat : Int) < 128) = false := decide_eq_false (by omega)
          have d2 : decide ((191 : Int) < x1.toNat) = false := decide_eq_false (by omega)
          have h1'' : ¬ ((2 : Int) < (s.size : Int)) := by omega
          have hp : decide (FullP s.size 3 128 191 x1.toNat x2.toNat) = false := decide_eq_false (by unfold FullP; omega)
          rw [hp]
          clear hp c1 c2
          obtain ⟨W1, hW1⟩ : ∃ Xz, w.alloc (.cells #[.int .u8 128, .int .u8 191] 223) = Xz := ⟨_, rfl⟩
          obtain ⟨rb, hrb⟩ : ∃ xz, w.heap.size = xz := ⟨_, rfl⟩
          have hb1 : Below w.heap.size w W1 := by rw [← hW1]; exact (Below.refl _ _).alloc (Nat.le_refl _) _
          have HR := Lib.hid (by rw [← hW1, ← hrb]; exact alloc_new rfl : W1.heap[rb]? = some (.cells #[.int .u8 128, .int .u8 191] 223 (0, 0)))
          have EW1 := Lib.hid hW1
          have Erb := Lib.hid hrb
          clear hW1 hrb
          have HB := Lib.hid hb1
          clear hb1
          have r0 := cell_at HR.out 0
          have r1 := cell_at HR.out 1
          have rz := lt_of_heap HR.out
          simp only [List.getElem?_toArray, List.getElem?_cons_zero, List.getElem?_cons_succ] at r0 r1
          go_enter Tryd.func143, Tryd.ntmps143
          go_upto_region 8 with fail
          rw [EW1.out, Erb.out]
          refine region_calm (by kernel_rfl) (by kernel_rfl) ?_
          repeat (quiet_step ((fail)))
          refine wpQuiet_nil ?_
          rintro _ ⟨y, rfl⟩
          go_wp2
          go_ret
          exact ⟨rfl, Later.chain HB.out y⟩
    · rw [hX] at hc0 ⊢
      have ha0 := (HT2.out 2 (by omega)).1
      have ha1 := (HT2.out 2 (by omega)).2
      simp only [accLo, accHi, Nat.reduceMul, Nat.reduceAdd, Nat.reduceEqDiff, if_true, if_false, Nat.reduceMod, Nat.reduceDiv] at ha0 ha1 ⊢
      clear hT hX
      have hzh := lt_of_cell ha0
      by_cases hn : 3 ≤ s.size
      · have hp : decide (FullP s.size 3 128 159 x1.toNat x2.toNat) = true := decide_eq_true (by unfold FullP; omega)
        rw [hp]
        have hn' : (3 : Int) ≤ (s.size : Int) := by omega
        clear hp
        go_enter Tryd.func143, Tryd.ntmps143
        go_wp2
        go_ret
        exact ⟨rfl, Below.refl _ _⟩
      · have hn' : ¬ ((3 : Int) ≤ (s.size : Int)) := by omega
        by_cases hn1 : s.size = 1
        · have h1 : s.size = 1 := by omega
          have h1' : ¬ ((1 : Int) < (s.size : Int)) := by omega
          have h1'' : ¬ ((2 : Int) < (s.size : Int)) := by omega
          have hp : decide (FullP s.size 3 128 159 x1.toNat x2.toNat) = false := decide_eq_false (by unfold FullP; omega)
          rw [hp]
          obtain ⟨W1, hW1⟩ : ∃ Xz, w.alloc (.cells #[.int .u8 128, .int .u8 159] 223) = Xz := ⟨_, rfl⟩
          obtain ⟨rb, hrb⟩ : ∃ xz, w.heap.size = xz := ⟨_, rfl⟩
          have hb1 : Below w.heap.size w W1 := by rw [← hW1]; exact (Below.refl _ _).alloc (Nat.le_refl _) _
          have HR := Lib.hid (by rw [← hW1, ← hrb]; exact alloc_new rfl : W1.heap[rb]? = some (.cells #[.int .u8 128, .int .u8 159] 223 (0, 0)))
          have EW1 := Lib.hid hW1
          have Erb := Lib.hid hrb
          clear hW1 hrb
          have HB := Lib.hid hb1
          clear hp hb1 h1
          go_enter Tryd.func143, Tryd.ntmps143
          go_upto_region 8 with fail
          rw [EW1.out, Erb.out]
          refine region_calm (by kernel_rfl) (by kernel_rfl) ?_
          repeat (quiet_step ((fail)))
          refine wpQuiet_nil ?_
          rintro _ ⟨y, rfl⟩
          go_wp2
          go_ret
          exact ⟨rfl, Later.chain HB.out y⟩
        · have h1' : (1 : Int) < (s.size : Int) := by omega
          have h1n : 1 < s.size := by omega
          have hs1 : s[1]'(by omega) = x1 := by rw [← hx1]; exact (Utf8W.get!_of_lt s 1 (by omega)).symm
          by_cases c1 : x1.toNat < 128
          · have hp : decide (FullP s.size 3 128 159 x1.toNat x2.toNat) = true := decide_eq_true (by unfold FullP; omega)
            have d1 : decide ((x1.toNat : Int) < 128) = true := decide_eq_true (by omega)
            rw [hp]
            clear hp c1
            obtain ⟨W1, hW1⟩ : ∃ Xz, w.alloc (.cells #[.int .u8 128, .int .u8 159] 223) = Xz := ⟨_, rfl⟩
            obtain ⟨rb, hrb⟩ : ∃ xz, w.heap.size = xz := ⟨_, rfl⟩
            have hb1 : Below w.heap.size w W1 := by rw [← hW1]; exact (Below.refl _ _).alloc (Nat.le_refl _) _
            have HR := Lib.hid (by rw [← hW1, ← hrb]; exact alloc_new rfl : W1.heap[rb]? = some (.cells #[.int .u8 128, .int .u8 159] 223 (0, 0)))
            have EW1 := Lib.hid hW1
            have Erb := Lib.hid hrb
            clear hW1 hrb
            have HB := Lib.hid hb1
            clear hb1
            have r0 := cell_at HR.out 0
            have r1 := cell_at HR.out 1
            have rz := lt_of_heap HR.out
            simp only [List.getElem?_toArray, List.getElem?_cons_zero, List.getElem?_cons_succ] at r0 r1
            go_enter Tryd.func143, Tryd.ntmps143
            go_upto_region 8 with fail
            rw [EW1.out, Erb.out]
            refine region_calm (by kernel_rfl) (by kernel_rfl) ?_
            repeat (quiet_step ((fail)))
            refine wpQuiet_nil ?_
            rintro _ ⟨y, rfl⟩
            go_wp2
            go_ret
            exact ⟨rfl, Later.chain HB.out y⟩
          by_cases c2 : 159 < x1.toNat
          · have hp : decide (FullP s.size 3 128 159 x1.toNat x2.toNat) = true := decide_eq_true (by unfold FullP; omega)
            have d1 : decide ((x1.toNat : Int) < 128) = false := decide_eq_false (by omega)
            have d2 : decide ((159 : Int) < x1.toNat) = true := decide_eq_true (by omega)
            rw [hp]
            clear hp c1 c2
            obtain ⟨W1, hW1⟩ : ∃ Xz, w.alloc (.cells #[.int .u8 128, .int .u8 159] 223) = Xz := ⟨_, rfl⟩
            obtain ⟨rb, hrb⟩ : ∃ xz, w.heap.size = xz := ⟨_, rfl⟩
            have hb1 : Below w.heap.size w W1 := by rw [← hW1]; exact (Below.refl _ _).alloc (Nat.le_refl _) _
            have HR := Lib.hid (by rw [← hW1, ← hrb]; exact alloc_new rfl : W1.heap[rb]? = some (.cells #[.int .u8 128, .int .u8 159] 223 (0, 0)))
            have EW1 := Lib.hid hW1
            have Erb := Lib.hid hrb
            clear hW1 hrb
            have HB := Lib.hid hb1
            clear hb1
            have r0 := cell_at HR.out 0
            have r1 := cell_at HR.out 1
            have rz := lt_of_heap HR.out
            simp only [List.getElem?_toArray, List.getElem?_cons_zero, List.getElem?_cons_succ] at r0 r1
            go_enter Tryd.func143, Tryd.ntmps143
            go_upto_region 8 with fail
            rw [EW1.out, Erb.out]
            refine region_calm (by kernel_rfl) (by kernel_rfl) ?_
            repeat (quiet_step ((fail)))
            refine wpQuiet_nil ?_
            rintro _ ⟨y, rfl⟩
            go_wp2
            go_ret
            exact ⟨rfl, Later.chain HB.out y⟩
          have d1 : decide ((x1.toNat : Int) < 128) = false := decide_eq_false (by omega)
          have d2 : decide ((159 : Int) < x1.toNat) = false := decide_eq_false (by omega)
          have h1'' : ¬ ((2 : Int) < (s.size : Int)) := by omega
          have hp : decide (FullP s.size 3 128 159 x1.toNat x2.toNat) = false := decide_eq_false (by unfold FullP; omega)
          rw [hp]
          clear hp c1 c2
          obtain ⟨W1, hW1⟩ : ∃ Xz, w.alloc (.cells #[.int .u8 128, .int .u8 159] 223) = Xz := ⟨_, rfl⟩
          obtain ⟨rb, hrb⟩ : ∃ xz, w.heap.size = xz := ⟨_, rfl⟩
          have hb1 : Below w.heap.size w W1 := by rw [← hW1]; exact (Below.refl _ _).alloc (Nat.le_refl _) _
          have HR := Lib.hid (by rw [← hW1, ← hrb]; exact alloc_new rfl : W1.heap[rb]? = some (.cells #[.int .u8 128, .int .u8 159] 223 (0, 0)))
          have EW1 := Lib.hid hW1
          have Erb := Lib.hid hrb
          clear hW1 hrb
          have HB := Lib.hid hb1
          clear hb1
          have r0 := cell_at HR.out 0
          have r1 := cell_at HR.out 1
          have rz := lt_of_heap HR.out
          simp only [List.getElem?_toArray, List.getElem?_cons_zero, List.getElem?_cons_succ] at r0 r1
          go_enter Tryd.func143, Tryd.ntmps143
          go_upto_region 8 with fail
          rw [EW1.out, Erb.out]
          refine region_calm (by kernel_rfl) (by kernel_rfl) ?_
          repeat (quiet_step ((fail)))
          refine wpQuiet_nil ?_
          rintro _ ⟨y, rfl⟩
          go_wp2
          go_ret
          exact ⟨rfl, Later.chain HB.out y⟩
    · rw [hX] at hc0 ⊢
      have ha0 := (HT2.out 3 (by omega)).1
      have ha1 := (HT2.out 3 (by omega)).2
      simp only [accLo, accHi, Nat.reduceMul, Nat.reduceAdd, Nat.reduceEqDiff, if_true, if_false, Nat.reduceMod, Nat.reduceDiv] at ha0 ha1 ⊢
      clear hT hX
      have hzh := lt_of_cell ha0
      by_cases hn : 4 ≤ s.size
      · have hp : decide (FullP s.size 4 144 191 x1.toNat x2.toNat) = true := decide_eq_true (by unfold FullP; omega)
        rw [hp]
        have hn' : (4 : Int) ≤ (s.size : Int) := by omega
        clear hp
        go_enter Tryd.func143, Tryd.ntmps143
        go_wp2
        go_ret
        exact ⟨rfl, Below.refl _ _⟩
      · have hn' : ¬ ((4 : Int) ≤ (s.size : Int)) := by omega
        by_cases hn1 : s.size = 1
        · have h1 : s.size = 1 := by omega
          have h1' : ¬ ((1 : Int) < (s.size : Int)) := by omega
          have h1'' : ¬ ((2 : Int) < (s.size : Int)) := by omega
          have hp : decide (FullP s.size 4 144 191 x1.toNat x2.toNat) = false := decide_eq_false (by unfold FullP; omega)
          rw [hp]
          obtain ⟨W1, hW1⟩ : ∃ Xz, w.alloc (.cells #[.int .u8 144, .int .u8 191] 223) = Xz := ⟨_, rfl⟩
          obtain ⟨rb, hrb⟩ : ∃ xz, w.heap.size = xz := ⟨_, rfl⟩
          have hb1 : Below w.heap.size w W1 := by rw [← hW1]; exact (Below.refl _ _).alloc (Nat.le_refl _) _
          have HR := Lib.hid (by rw [← hW1, ← hrb]; exact alloc_new rfl : W1.heap[rb]? = some (.cells #[.int .u8 144, .int .u8 191] 223 (0, 0)))
          have EW1 := Lib.hid hW1
          have Erb := Lib.hid hrb
          clear hW1 hrb
          have HB := Lib.hid hb1
          clear hp hb1 h1
          go_enter Tryd.func143, Tryd.ntmps143
          go_upto_region 8 with fail
          rw [EW1.out, Erb.out]
          refine region_calm (by kernel_rfl) (by kernel_rfl) ?_
          repeat (quiet_step ((fail)))
          refine wpQuiet_nil ?_
          rintro _ ⟨y, rfl⟩
          go_wp2
          go_ret
          exact ⟨rfl, Later.chain HB.out y⟩
        · by_cases hn2 : s.size = 2
          · have h1' : (1 : Int) < (s.size : Int) := by omega
            have h1n : 1 < s.size := by omega
            have hs1 : s[1]'(by omega) = x1 := by rw [← hx1]; exact (Utf8W.get!_of_lt s 1 (by omega)).symm
            by_cases c1 : x1.toNat < 144
            · have hp : decide (FullP s.size 4 144 191 x1.toNat x2.toNat) = true := decide_eq_true (by unfold FullP; omega)
              have d1 : decide ((x1.toNat : Int) < 144) = true := decide_eq_true (by omega)
              rw [hp]
              clear hp c1
              obtain ⟨W1, hW1⟩ : ∃ Xz, w.alloc (.cells #[.int .u8 144, .int .u8 191] 223) = Xz := ⟨_, rfl⟩
              obtain ⟨rb, hrb⟩ : ∃ xz, w.heap.size = xz := ⟨_, rfl⟩
              have hb1 : Below w.heap.size w W1 := by rw [← hW1]; exact (Below.refl _ _).alloc (Nat.le_refl _) _
              have HR := Lib.hid (by rw [← hW1, ← hrb]; exact alloc_new rfl : W1.heap[rb]? = some (.cells #[.int .u8 144, .int .u8 191] 223 (0, 0)))
              have EW1 := Lib.hid hW1
              have Erb := Lib.hid hrb
              clear hW1 hrb
              have HB := Lib.hid hb1
              clear hb1
              have r0 := cell_at HR.out 0
              have r1 := cell_at HR.out 1
              have rz := lt_of_heap HR.out
              simp only [List.getElem?_toArray, List.getElem?_cons_zero, List.getElem?_cons_succ] at r0 r1
              go_enter Tryd.func143, Tryd.ntmps143
              go_upto_region 8 with fail
              rw [EW1.out, Erb.out]
              refine region_calm (by kernel_rfl) (by kernel_rfl) ?_
              repeat (quiet_step ((fail)))
              refine wpQuiet_nil ?_
              rintro _ ⟨y, rfl⟩
              go_wp2
              go_ret
              exact ⟨rfl, Later.chain HB.out y⟩
            by_cases c2 : 191 < x1.toNat
            · have hp : decide (FullP s.size 4 144 191 x1.toNat x2.toNat) = true := decide_eq_true (by unfold FullP; omega)
              have d1 : decide ((x1.toNat : Int) < 144) = false := decide_eq_false (by omega)
              have d2 : decide ((191 : Int) < x1.toNat) = true := decide_eq_true (by omega)
              rw [hp]
              clear hp c1 c2
              obtain ⟨W1, hW1⟩ : ∃ Xz, w.alloc (.cells #[.int .u8 144, .int .u8 191] 223) = Xz := ⟨_, rfl⟩
              obtain ⟨rb, hrb⟩ : ∃ xz, w.heap.size = xz := ⟨_, rfl⟩
              have hb1 : Below w.heap.size w W1 := by rw [← hW1]; exact (Below.refl _ _).alloc (Nat.le_refl _) _
              have HR := Lib.hid (by rw [← hW1, ← hrb]; exact alloc_new rfl : W1.heap[rb]? = some (.cells #[.int .u8 144, .int .u8 191] 223 (0, 0)))
              have EW1 := Lib.hid hW1
              have Erb := Lib.hid hrb
              clear hW1 hrb
              have HB := Lib.hid hb1
              clear hb1
              have r0 := cell_at HR.out 0
              have r1 := cell_at HR.out 1
              have rz := lt_of_heap HR.out
              simp only [List.getElem?_toArray, List.getElem?_cons_zero, List.getElem?_cons_succ] at r0 r1
              go_enter Tryd.func143, Tryd.ntmps143
              go_upto_region 8 with fail
              rw [EW1.out, Erb.out]
              refine region_calm (by kernel_rfl) (by kernel_rfl) ?_
              repeat (quiet_step ((fail)))
              refine wpQuiet_nil ?_
              rintro _ ⟨y, rfl⟩
              go_wp2
              go_ret
              exact ⟨rfl, Later.chain HB.out y⟩
            have d1 : decide ((x1.toNat : Int) < 144) = false := decide_eq_false (by omega)
            have d2 : decide ((191 : Int) < x1.toNat) = false := decide_eq_false (by omega)
            have h1'' : ¬ ((2 : Int) < (s.size : Int)) := by omega
            have hp : decide (FullP s.size 4 144 191 x1.toNat x2.toNat) = false := decide_eq_false (by unfold FullP; omega)
            rw [hp]
            clear hp c1 c2
            obtain ⟨W1, hW1⟩ : ∃ Xz, w.alloc (.cells #[.int .u8 144, .int .u8 191] 223) = Xz := ⟨_, rfl⟩
            obtain ⟨rb, hrb⟩ : ∃ xz, w.heap.size = xz := ⟨_, rfl⟩
            have hb1 : Below w.heap.size w W1 := by rw [← hW1]; exact (Below.refl _ _).alloc (Nat.le_refl _) _
            have HR := Lib.hid (by rw [← hW1, ← hrb]; exact alloc_new rfl : W1.heap[rb]? = some (.cells #[.int .u8 144, .int .u8 191] 223 (0, 0)))
            have EW1 := Lib.hid hW1
            have Erb := Lib.hid hrb
            clear hW1 hrb
            have HB := Lib.hid hb1
            clear hb1
            have r0 := cell_at HR.out 0
            have r1 := cell_at HR.out 1
            have rz := lt_of_heap HR.out
            simp only [List.getElem?_toArray, List.getElem?_cons_zero, List.getElem?_cons_succ] at r0 r1
            go_enter Tryd.func143, Tryd.ntmps143
            go_upto_region 8 with fail
            rw [EW1.out, Erb.out]
            refine region_calm (by kernel_rfl) (by kernel_rfl) ?_
            repeat (quiet_step ((fail)))
            refine wpQuiet_nil ?_
            rintro _ ⟨y, rfl⟩
            go_wp2
            go_ret
            exact ⟨rfl, Later.chain HB.out y⟩
          · have h1' : (1 : Int) < (s.size : Int) := by omega
            have h1n : 1 < s.size := by omega
            have hs1 : s[1]'(by omega) = x1 := by rw [← hx1]; exact (Utf8W.get!_of_lt s 1 (by omega)).symm
            by_cases c1 : x1.toNat < 144
            · have hp : decide (FullP s.size 4 144 191 x1.toNat x2.toNat) = true := decide_eq_true (by unfold FullP; omega)
              have d1 : decide ((x1.toNat : Int) < 144) = true := decide_eq_true (by omega)
              rw [hp]
              clear hp c1
              obtain ⟨W1, hW1⟩ : ∃ Xz, w.alloc (.cells #[.int .u8 144, .int .u8 191] 223) = Xz := ⟨_, rfl⟩
              obtain ⟨rb, hrb⟩ : ∃ xz, w.heap.size = xz := ⟨_, rfl⟩
              have hb1 : Below w.heap.size w W1 := by rw [← hW1]; exact (Below.refl _ _).alloc (Nat.le_refl _) _
              have HR := Lib.hid (by rw [← hW1, ← hrb]; exact alloc_new rfl : W1.heap[rb]? = some (.cells #[.int .u8 144, .int .u8 191] 223 (0, 0)))
              have EW1 := Lib.hid hW1
              have Erb := Lib.hid hrb
              clear hW1 hrb
              have HB := Lib.hid hb1
              clear hb1
              have r0 := cell_at HR.out 0
              have r1 := cell_at HR.out 1
              have rz := lt_of_heap HR.out
              simp only [List.getElem?_toArray, List.getElem?_cons_zero, List.getElem?_cons_succ] at r0 r1
              go_enter Tryd.func143, Tryd.ntmps143
              go_upto_region 8 with fail
              rw [EW1.out, Erb.out]
              refine region_calm (by kernel_rfl) (by kernel_rfl) ?_
              repeat (quiet_step ((fail)))
              refine wpQuiet_nil ?_
              rintro _ ⟨y, rfl⟩
              go_wp2
              go_ret
              exact ⟨rfl, Later.chain HB.out y⟩
            by_cases c2 : 191 < x1.toNat
            · have hp : decide (FullP s.size 4 144 191 x1.toNat x2.toNat) = true := decide_eq_true (by unfold FullP; omega)
              have d1 : decide ((x1.toNat : Int) < 144) = false := decide_eq_false (by omega)
              have d2 : decide ((191 : Int) < x1.toNat) = true := decide_eq_true (by omega)
              rw [hp]
              clear hp c1 c2
              obtain ⟨W1, hW1⟩ : ∃ Xz, w.alloc (.cells #[.int .u8 144, .int .u8 191] 223) = Xz := ⟨_, rfl⟩
              obtain ⟨rb, hrb⟩ : ∃ xz, w.heap.size = xz := ⟨_, rfl⟩
              have hb1 : Below w.heap.size w W1 := by rw [← hW1]; exact (Below.refl _ _).alloc (Nat.le_refl _) _
              have HR := Lib.hid (by rw [← hW1, ← hrb]; exact alloc_new rfl : W1.heap[rb]? = some (.cells #[.int .u8 144, .int .u8 191] 223 (0, 0)))
              have EW1 := Lib.hid hW1
              have Erb := Lib.hid hrb
              clear hW1 hrb
              have HB := Lib.hid hb1
              clear hb1
              have r0 := cell_at HR.out 0
              have r1 := cell_at HR.out 1
              have rz := lt_of_heap HR.out
              simp only [List.getElem?_toArray, List.getElem?_cons_zero, List.getElem?_cons_succ] at r0 r1
              go_enter Tryd.func143, Tryd.ntmps143
              go_upto_region 8 with fail
              rw [EW1.out, Erb.out]
              refine region_calm (by kernel_rfl) (by kernel_rfl) ?_
              repeat (quiet_step ((fail)))
              refine wpQuiet_nil ?_
              rintro _ ⟨y, rfl⟩
              go_wp2
              go_ret
              exact ⟨rfl, Later.chain HB.out y⟩
            have d1 : decide ((x1.toNat : Int) < 144) = false := decide_eq_false (by omega)
            have d2 : decide ((191 : Int) < x1.toNat) = false := decide_eq_false (by omega)
            have h2' : (2 : Int) < (s.size : Int) := by omega
            have h2n : 2 < s.size := by omega
            have hs2 : s[2]'(by omega) = x2 := by rw [← hx2]; exact (Utf8W.get!_of_lt s 2 (by omega)).symm
            by_cases c3 : x2.toNat < 128
            · have hp : decide (FullP s.size 4 144 191 x1.toNat x2.toNat) = true := decide_eq_true (by unfold FullP; omega)
              have d3 : (x2.toNat : Int) < 128 := by omega
              rw [hp]
              clear hp c1 c2 c3
              obtain ⟨W1, hW1⟩ : ∃ Xz, w.alloc (.cells #[.int .u8 144, .int .u8 191] 223) = Xz := ⟨_, rfl⟩
              obtain ⟨rb, hrb⟩ : ∃ xz, w.heap.size = xz := ⟨_, rfl⟩
              have hb1 : Below w.heap.size w W1 := by rw [← hW1]; exact (Below.refl _ _).alloc (Nat.le_refl _) _
              have HR := Lib.hid (by rw [← hW1, ← hrb]; exact alloc_new rfl : W1.heap[rb]? = some (.cells #[.int .u8 144, .int .u8 191] 223 (0, 0)))
              have EW1 := Lib.hid hW1
              have Erb := Lib.hid hrb
              clear hW1 hrb
              have HB := Lib.hid hb1
              clear hb1
              have r0 := cell_at HR.out 0
              have r1 := cell_at HR.out 1
              have rz := lt_of_heap HR.out
              simp only [List.getElem?_toArray, List.getElem?_cons_zero, List.getElem?_cons_succ] at r0 r1
              go_enter Tryd.func143, Tryd.ntmps143
              go_upto_region 8 with fail
              rw [EW1.out, Erb.out]
              refine region_calm (by kernel_rfl) (by kernel_rfl) ?_
              repeat (quiet_step ((fail)))
              refine wpQuiet_nil ?_
              rintro _ ⟨y, rfl⟩
              go_wp2
              go_ret
              exact ⟨rfl, Later.chain HB.out y⟩
            have d3 : ¬ ((x2.toNat : Int) < 128) := by omega
            by_cases c4 : 191 < x2.toNat
            · have hp : decide (FullP s.size 4 144 191 x1.toNat x2.toNat) = true := decide_eq_true (by unfold FullP; omega)
              have d4 : (191 : Int) < (x2.toNat : Int) := by omega
              rw [hp]
              clear hp c1 c2 c3 c4
              obtain ⟨W1, hW1⟩ : ∃ Xz, w.alloc (.cells #[.int .u8 144, .int .u8 191] 223) = Xz := ⟨_, rfl⟩
              obtain ⟨rb, hrb⟩ : ∃ xz, w.heap.size = xz := ⟨_, rfl⟩
              have hb1 : Below w.heap.size w W1 := by rw [← hW1]; exact (Below.refl _ _).alloc (Nat.le_refl _) _
              have HR := Lib.hid (by rw [← hW1, ← hrb]; exact alloc_new rfl : W1.heap[rb]? = some (.cells #[.int .u8 144, .int .u8 191] 223 (0, 0)))
              have EW1 := Lib.hid hW1
              have Erb := Lib.hid hrb
              clear hW1 hrb
              have HB := Lib.hid hb1
              clear hb1
              have r0 := cell_at HR.out 0
              have r1 := cell_at HR.out 1
              have rz := lt_of_heap HR.out
              simp only [List.getElem?_toArray, List.getElem?_cons_zero, List.getElem?_cons_succ] at r0 r1
              go_enter Tryd.func143, Tryd.ntmps143
              go_upto_region 8 with fail
              rw [EW1.out, Erb.out]
              refine region_calm (by kernel_rfl) (by kernel_rfl) ?_
              repeat (quiet_step ((fail)))
              refine wpQuiet_nil ?_
              rintro _ ⟨y, rfl⟩
              go_wp2
              go_ret
              exact ⟨rfl, Later.chain HB.out y⟩
            have hp : decide (FullP s.size 4 144 191 x1.toNat x2.toNat) = false := decide_eq_false (by unfold FullP; omega)
            have d4 : ¬ ((191 : Int) < (x2.toNat : Int)) := by omega
            rw [hp]
            clear hp c1 c2 c3 c4
            obtain ⟨W1, hW1⟩ : ∃ Xz, w.alloc (.cells #[.int .u8 144, .int .u8 191] 223) = Xz := ⟨_, rfl⟩
            obtain ⟨rb, hrb⟩ : ∃ xz, w.heap.size = xz := ⟨_, rfl⟩
            have hb1 : Below w.heap.size w W1 := by rw [← hW1]; exact (Below.refl _ _).alloc (Nat.le_refl _) _
            have HR := Lib.hid (by rw [← hW1, ← hrb]; exact alloc_new rfl : W1.heap[rb]? = some (.cells #[.int .u8 144, .int .u8 191] 223 (0, 0)))
            have EW1 := Lib.hid hW1
            have Erb := Lib.hid hrb
            clear hW1 hrb
            have HB := Lib.hid hb1
            clear hb1
            have r0 := cell_at HR.out 0
            have r1 := cell_at HR.out 1
            have rz := lt_of_heap HR.out
            simp only [List.getElem?_toArray, List.getElem?_cons_zero, List.getElem?_cons_succ] at r0 r1
            go_enter Tryd.func143, Tryd.ntmps143
            go_upto_region 8 with fail
            rw [EW1.out, Erb.out]
            refine region_calm (by kernel_rfl) (by kernel_rfl) ?_
            repeat (quiet_step ((fail)))
            refine wpQuiet_nil ?_
            rintro _ ⟨y, rfl⟩
            go_wp2
            go_ret
            exact ⟨rfl, Later.chain HB.out y⟩
    · rw [hX] at hc0 ⊢
      have ha0 := (HT2.out 0 (by omega)).1
      have ha1 := (HT2.out 0 (by omega)).2
      simp only [accLo, accHi, Nat.reduceMul, Nat.reduceAdd, Nat.reduceEqDiff, if_true, if_false, Nat.reduceMod, Nat.reduceDiv] at ha0 ha1 ⊢
      clear hT hX
      have hzh := lt_of_cell ha0
      by_cases hn : 4 ≤ s.size
      · have hp : decide (FullP s.size 4 128 191 x1.toNat x2.toNat) = true := decide_eq_true (by unfold FullP; omega)
        rw [hp]
        have hn' : (4 : Int) ≤ (s.size : Int) := by omega
        clear hp
        go_enter Tryd.func143, Tryd.ntmps143
        go_wp2
        go_ret
        exact ⟨rfl, Below.refl _ _⟩
      · have hn' : ¬ ((4 : Int) ≤ (s.size : Int)) := by omega
        by_cases hn1 : s.size = 1
        · have h1 : s.size = 1 := by omega
          have h1' : ¬ ((1 : Int) < (s.size : Int)) := by omega
          have h1'' : ¬ ((2 : Int) < (s.size : Int)) := by omega
          have hp : decide (FullP s.size 4 128 191 x1.toNat x2.toNat) = false := decide_eq_false (by unfold FullP; omega)
          rw [hp]
          obtain ⟨W1, hW1⟩ : ∃ Xz, w.alloc (.cells #[.int .u8 128, .int .u8 191] 223) = Xz := ⟨_, rfl⟩
          obtain ⟨rb, hrb⟩ : ∃ xz, w.heap.size = xz := ⟨_, rfl⟩
          have hb1 : Below w.heap.size w W1 := by rw [← hW1]; exact (Below.refl _ _).alloc (Nat.le_refl _) _
          have HR := Lib.hid (by rw [← hW1, ← hrb]; exact alloc_new rfl : W1.heap[rb]? = some (.cells #[.int .u8 128, .int .u8 191] 223 (0, 0)))
          have EW1 := Lib.hid hW1
          have Erb := Lib.hid hrb
          clear hW1 hrb
          have HB := Lib.hid hb1
          clear hp hb1 h1
          go_enter Tryd.func143, Tryd.ntmps143
          go_upto_region 8 with fail
          rw [EW1.out, Erb.out]
          refine region_calm (by kernel_rfl) (by kernel_rfl) ?_
          repeat (quiet_step ((fail)))
          refine wpQuiet_nil ?_
          rintro _ ⟨y, rfl⟩
          go_wp2
          go_ret
          exact ⟨rfl, Later.chain HB.out y⟩
        · by_cases hn2 : s.size = 2
          · have h1' : (1 : Int) < (s.size : Int) := by omega
            have h1n : 1 < s.size := by omega
            have hs1 : s[1]'(by omega) = x1 := by rw [← hx1]; exact (Utf8W.get!_of_lt s 1 (by omega)).symm
            by_cases c1 : x1.toNat < 128
            · have hp : decide (FullP s.size 4 128 191 x1.toNat x2.toNat) = true := decide_eq_true (by unfold FullP; omega)
              have d1 : decide ((x1.toNat : Int) < 128) = true := decide_eq_true (by omega)
              rw [hp]
              clear hp c1
              obtain ⟨W1, hW1⟩ : ∃ Xz, w.alloc (.cells #[.int .u8 128, .int .u8 191] 223) = Xz := ⟨_, rfl⟩
              obtain ⟨rb, hrb⟩ : ∃ xz, w.heap.size = xz := ⟨_, rfl⟩
              have hb1 : Below w.heap.size w W1 := by rw [← hW1]; exact (Below.refl _ _).alloc (Nat.le_refl _) _
              have HR := Lib.hid (by rw [← hW1, ← hrb]; exact alloc_new rfl : W1.heap[rb]? = some (.cells #[.int .u8 128, .int .u8 191] 223 (0, 0)))
              have EW1 := Lib.hid hW1
              have Erb := Lib.hid hrb
              clear hW1 hrb
              have HB := Lib.hid hb1
              clear hb1
              have r0 := cell_at HR.out 0
              have r1 := cell_at HR.out 1
              have rz := lt_of_heap HR.out
              simp only [List.getElem?_toArray, List.getElem?_cons_zero, List.getElem?_cons_succ] at r0 r1
              go_enter Tryd.func143, Tryd.ntmps143
              go_upto_region 8 with fail
              rw [EW1.out, Erb.out]
              refine region_calm (by kernel_rfl) (by kernel_rfl) ?_
              repeat (quiet_step ((fail)))
              refine wpQuiet_nil ?_
              rintro _ ⟨y, rfl⟩
              go_wp2
              go_ret
              exact ⟨rfl, Later.chain HB.out y⟩
            by_cases c2 : 191 < x1.toNat
            · have hp : decide (FullP s.size 4 128 191 x1.toNat x2.toNat) = true := decide_eq_true (by unfold FullP; omega)
              have d1 : decide ((x1.toNat : Int) < 128) = false := decide_eq_false (by omega)
              have d2 : decide ((191 : Int) < x1.toNat) = true := decide_eq_true (by omega)
              rw [hp]
              clear hp c1 c2
              obtain ⟨W1, hW1⟩ : ∃ Xz, w.alloc (.cells #[.int .u8 128, .int .u8 191] 223) = Xz := ⟨_, rfl⟩
              obtain ⟨rb, hrb⟩ : ∃ xz, w.heap.size = xz := ⟨_, rfl⟩
              have hb1 : Below w.heap.size w W1 := by rw [← hW1]; exact (Below.refl _ _).alloc (Nat.le_refl _) _
              have HR := Lib.hid (by rw [← hW1, ← hrb]; exact alloc_new rfl : W1.heap[rb]? = some (.cells #[.int .u8 128, .int .u8 191] 223 (0, 0)))
              have EW1 := Lib.hid hW1
              have Erb := Lib.hid hrb
              clear hW1 hrb
              have HB := Lib.hid hb1
              clear hb1
              have r0 := cell_at HR.out 0
              have r1 := cell_at HR.out 1
              have rz := lt_of_heap HR.out
              simp only [List.getElem?_toArray, List.getElem?_cons_zero, List.getElem?_cons_succ] at r0 r1
              go_enter Tryd.func143, Tryd.ntmps143
              go_upto_region 8 with fail
              rw [EW1.out, Erb.out]
              refine region_calm (by kernel_rfl) (by kernel_rfl) ?_
              repeat (quiet_step ((fail)))
              refine wpQuiet_nil ?_
              rintro _ ⟨y, rfl⟩
              go_wp2
              go_ret
              exact ⟨rfl, Later.chain HB.out y⟩
            have d1 : decide ((x1.toNat : Int) < 128) = false := decide_eq_false (by omega)
            have d2 : decide ((191 : Int) < x1.toNat) = false := decide_eq_false (by omega)
            have h1'' : ¬ ((2 : Int) < (s.size : Int)) := by omega
            have hp : decide (FullP s.size 4 128 191 x1.toNat x2.toNat) = false := decide_eq_false (by unfold FullP; omega)
            rw [hp]
            clear hp c1 c2
            obtain ⟨W1, hW1⟩ : ∃ Xz, w.alloc (.cells #[.int .u8 128, .int .u8 191] 223) = Xz := ⟨_, rfl⟩
            obtain ⟨rb, hrb⟩ : ∃ xz, w.heap.size = xz := ⟨_, rfl⟩
            have hb1 : Below w.heap.size w W1 := by rw [← hW1]; exact (Below.refl _ _).alloc (Nat.le_refl _) _
            have HR := Lib.hid (by rw [← hW1, ← hrb]; exact alloc_new rfl : W1.heap[rb]? = some (.cells #[.int .u8 128, .int .u8 191] 223 (0, 0)))
            have EW1 := Lib.hid hW1
            have Erb := Lib.hid hrb
            clear hW1 hrb
            have HB := Lib.hid hb1
            clear hb1
            have r0 := cell_at HR.out 0
            have r1 := cell_at HR.out 1
            have rz := lt_of_heap HR.out
            simp only [List.getElem?_toArray, List.getElem?_cons_zero, List.getElem?_cons_succ] at r0 r1
            go_enter Tryd.func143, Tryd.ntmps143
            go_upto_region 8 with fail
            rw [EW1.out, Erb.out]
            refine region_calm (by kernel_rfl) (by kernel_rfl) ?_
            repeat (quiet_step ((fail)))
            refine wpQuiet_nil ?_
            rintro _ ⟨y, rfl⟩
            go_wp2
            go_ret
            exact ⟨rfl, Later.chain HB.out y⟩
          · have h1' : (1 : Int) < (s.size : Int) := by omega
            have h1n : 1 < s.size := by omega
            have hs1 : s[1]'(by omega) = x1 := by rw [← hx1]; exact (Utf8W.get!_of_lt s 1 (by omega)).symm
            by_cases c1 : x1.toNat < 128
            · have hp : decide (FullP s.size 4 128 191 x1.toNat x2.toNat) = true := decide_eq_true (by unfold FullP; omega)
              have d1 : decide ((x1.toNat : Int) < 128) = true := decide_eq_true (by omega)
              rw [hp]
              clear hp c1
              obtain ⟨W1, hW1⟩ : ∃ Xz, w.alloc (.cells #[.int .u8 128, .int .u8 191] 223) = Xz := ⟨_, rfl⟩
              obtain ⟨rb, hrb⟩ : ∃ xz, w.heap.size = xz := ⟨_, rfl⟩
              have hb1 : Below w.heap.size w W1 := by rw [← hW1]; exact (Below.refl _ _).alloc (Nat.le_refl _) _
              have HR := Lib.hid (by rw [← hW1, ← hrb]; exact alloc_new rfl : W1.heap[rb]? = some (.cells #[.int .u8 128, .int .u8 191] 223 (0, 0)))
              have EW1 := Lib.hid hW1
              have Erb := Lib.hid hrb
              clear hW1 hrb
              have HB := Lib.hid hb1
              clear hb1
              have r0 := cell_at HR.out 0
              have r1 := cell_at HR.out 1
              have rz := lt_of_heap HR.out
              simp only [List.getElem?_toArray, List.getElem?_cons_zero, List.getElem?_cons_succ] at r0 r1
              go_enter Tryd.func143, Tryd.ntmps143
              go_upto_region 8 with fail
              rw [EW1.out, Erb.out]
              refine region_calm (by kernel_rfl) (by kernel_rfl) ?_
              repeat (quiet_step ((fail)))
              refine wpQuiet_nil ?_
              rintro _ ⟨y, rfl⟩
              go_wp2
              go_ret
              exact ⟨rfl, Later.chain HB.out y⟩
            by_cases c2 : 191 < x1.toNat
            · have hp : decide (FullP s.size 4 128 191 x1.toNat x2.toNat) = true := decide_eq_true (by unfold FullP; omega)
              have d1 : decide ((x1.toNat : Int) < 128) = false := decide_eq_false (by omega)
              have d2 : decide ((191 : Int) < x1.toNat) = true := decide_eq_true (by omega)
              rw [hp]
              clear hp c1 c2
              obtain ⟨W1, hW1⟩ : ∃ Xz, w.alloc (.cells #[.int .u8 128, .int .u8 191] 223) = Xz := ⟨_, rfl⟩
              obtain ⟨rb, hrb⟩ : ∃ xz, w.heap.size = xz := ⟨_, rfl⟩
              have hb1 : Below w.heap.size w W1 := by rw [← hW1]; exact (Below.refl _ _).alloc (Nat.le_refl _) _
              have HR := Lib.hid (by rw [← hW1, ← hrb]; exact alloc_new rfl : W1.heap[rb]? = some (.cells #[.int .u8 128, .int .u8 191] 223 (0, 0)))
              have EW1 := Lib.hid hW1
              have Erb := Lib.hid hrb
              clear hW1 hrb
              have HB := Lib.hid hb1
              clear hb1
              have r0 := cell_at HR.out 0
              have r1 := cell_at HR.out 1
              have rz := lt_of_heap HR.out
              simp only [List.getElem?_toArray, List.getElem?_cons_zero, List.getElem?_cons_succ] at r0 r1
              go_enter Tryd.func143, Tryd.ntmps143
              go_upto_region 8 with fail
              rw [EW1.out, Erb.out]
              refine region_calm (by kernel_rfl) (by kernel_rfl) ?_
              repeat (quiet_step ((fail)))
              refine wpQuiet_nil ?_
              rintro _ ⟨y, rfl⟩
              go_wp2
              go_ret
              exact ⟨rfl, Later.chain HB.out y⟩
            have d1 : decide ((x1.toNat : Int) < 128) = false := decide_eq_false (by omega)
            have d2 : decide ((191 : Int) < x1.toNat) = false := decide_eq_false (by omega)
            have h2' : (2 : Int) < (s.size : Int) := by omega
            have h2n : 2 < s.size := by omega
            have hs2 : s[2]'(by omega) = x2 := by rw [← hx2]; exact (Utf8W.get!_of_lt s 2 (by omega)).symm
            by_cases c3 : x2.toNat < 128
            · have hp : decide (FullP s.size 4 128 191 x1.toNat x2.toNat) = true := decide_eq_true (by unfold FullP; omega)
              have d3 : (x2.toNat : Int) < 128 := by omega
              rw [hp]
              clear hp c1 c2 c3
              obtain ⟨W1, hW1⟩ : ∃ Xz, w.alloc (.cells #[.int .u8 128, .int .u8 191] 223) = Xz := ⟨_, rfl⟩
              obtain ⟨rb, hrb⟩ : ∃ xz, w.heap.size = xz := ⟨_, rfl⟩
              have hb1 : Below w.heap.size w W1 := by rw [← hW1]; exact (Below.refl _ _).alloc (Nat.le_refl _) _
              have HR := Lib.hid (by rw [← hW1, ← hrb]; exact alloc_new rfl : W1.heap[rb]? = some (.cells #[.int .u8 128, .int .u8 191] 223 (0, 0)))
              have EW1 := Lib.hid hW1
              have Erb := Lib.hid hrb
              clear hW1 hrb
              have HB := Lib.hid hb1
              clear hb1
              have r0 := cell_at HR.out 0
              have r1 := cell_at HR.out 1
              have rz := lt_of_heap HR.out
              simp only [List.getElem?_toArray, List.getElem?_cons_zero, List.getElem?_cons_succ] at r0 r1
              go_enter Tryd.func143, Tryd.ntmps143
              go_upto_region 8 with fail
              rw [EW1.out, Erb.out]
              refine region_calm (by kernel_rfl) (by kernel_rfl) ?_
              repeat (quiet_step ((fail)))
              refine wpQuiet_nil ?_
              rintro _ ⟨y, rfl⟩
              go_wp2
              go_ret
              exact ⟨rfl, Later.chain HB.out y⟩
            have d3 : ¬ ((x2.toNat : Int) < 128) := by omega
            by_cases c4 : 191 < x2.toNat
            · have hp : decide (FullP s.size 4 128 191 x1.toNat x2.toNat) = true := decide_eq_true (by unfold FullP; omega)
              have d4 : (191 : Int) < (x2.toNat : Int) := by omega
              rw [hp]
              clear hp c1 c2 c3 c4
              obtain ⟨W1, hW1⟩ : ∃ Xz, w.alloc (.cells #[.int .u8 128, .int .u8 191] 223) = Xz := ⟨_, rfl⟩
              obtain ⟨rb, hrb⟩ : ∃ xz, w.heap.size = xz := ⟨_, rfl⟩
              have hb1 : Below w.heap.size w W1 := by rw [← hW1]; exact (Below.refl _ _).alloc (Nat.le_refl _) _
              have HR := Lib.hid (by rw [← hW1, ← hrb]; exact alloc_new rfl : W1.heap[rb]? = some (.cells #[.int .u8 128, .int .u8 191] 223 (0, 0)))
              have EW1 := Lib.hid hW1
              have Erb := Lib.hid hrb
              clear hW1 hrb
              have HB := Lib.hid hb1
              clear hb1
              have r0 := cell_at HR.out 0
              have r1 := cell_at HR.out 1
              have rz := lt_of_heap HR.out
              simp only [List.getElem?_toArray, List.getElem?_cons_zero, List.getElem?_cons_succ] at r0 r1
              go_enter Tryd.func143, Tryd.ntmps143
              go_upto_region 8 with fail
              rw [EW1.out, Erb.out]
              refine region_calm (by kernel_rfl) (by kernel_rfl) ?_
              repeat (quiet_step ((fail)))
              refine wpQuiet_nil ?_
              rintro _ ⟨y, rfl⟩
              go_wp2
              go_ret
              exact ⟨rfl, Later.chain HB.out y⟩
            have hp : decide (FullP s.size 4 128 191 x1.toNat x2.toNat) = false := decide_eq_false (by unfold FullP; omega)
            have d4 : ¬ ((191 : Int) < (x2.toNat : Int)) := by omega
            rw [hp]
            clear hp c1 c2 c3 c4
            obtain ⟨W1, hW1⟩ : ∃ Xz, w.alloc (.cells #[.int .u8 128, .int .u8 191] 223) = Xz := ⟨_, rfl⟩
            obtain ⟨rb, hrb⟩ : ∃ xz, w.heap.size = xz := ⟨_, rfl⟩
            have hb1 : Below w.heap.size w W1 := by rw [← hW1]; exact (Below.refl _ _).alloc (Nat.le_refl _) _
            have HR := Lib.hid (by rw [← hW1, ← hrb]; exact alloc_new rfl : W1.heap[rb]? = some (.cells #[.int .u8 128, .int .u8 191] 223 (0, 0)))
            have EW1 := Lib.hid hW1
            have Erb := Lib.hid hrb
            clear hW1 hrb
            have HB := Lib.hid hb1
            clear hb1
            have r0 := cell_at HR.out 0
            have r1 := cell_at HR.out 1
            have rz := lt_of_heap HR.out
            simp only [List.getElem?_toArray, List.getElem?_cons_zero, List.getElem?_cons_succ] at r0 r1
            go_enter Tryd.func143, Tryd.ntmps143
            go_upto_region 8 with fail
            rw [EW1.out, Erb.out]
            refine region_calm (by kernel_rfl) (by kernel_rfl) ?_
            repeat (quiet_step ((fail)))
            refine wpQuiet_nil ?_
            rintro _ ⟨y, rfl⟩
            go_wp2
            go_ret
            exact ⟨rfl, Later.chain HB.out y⟩
    · rw [hX] at hc0 ⊢
      have ha0 := (HT2.out 4 (by omega)).1
      have ha1 := (HT2.out 4 (by omega)).2
      simp only [accLo, accHi, Nat.reduceMul, Nat.reduceAdd, Nat.reduceEqDiff, if_true, if_false, Nat.reduceMod, Nat.reduceDiv] at ha0 ha1 ⊢
      clear hT hX
      have hzh := lt_of_cell ha0
      by_cases hn : 4 ≤ s.size
      · have hp : decide (FullP s.size 4 128 143 x1.toNat x2.toNat) = true := decide_eq_true (by unfold FullP; omega)
        rw [hp]
        have hn' : (4 : Int) ≤ (s.size : Int) := by omega
        clear hp
        go_enter Tryd.func143, Tryd.ntmps143
        go_wp2
        go_ret
        exact ⟨rfl, Below.refl _ _⟩
      · have hn' : ¬ ((4 : Int) ≤ (s.size : Int)) := by omega
        by_cases hn1 : s.size = 1
        · have h1 : s.size = 1 := by omega
          have h1' : ¬ ((1 : Int) < (s.size : Int)) := by omega
          have h1'' : ¬ ((2 : Int) < (s.size : Int)) := by omega
          have hp : decide (FullP s.size 4 128 143 x1.toNat x2.toNat) = false := decide_eq_false (by unfold FullP; omega)
          rw [hp]
          obtain ⟨W1, hW1⟩ : ∃ Xz, w.alloc (.cells #[.int .u8 128, .int .u8 143] 223) = Xz := ⟨_, rfl⟩
          obtain ⟨rb, hrb⟩ : ∃ xz, w.heap.size = xz := ⟨_, rfl⟩
          have hb1 : Below w.heap.size w W1 := by rw [← hW1]; exact (Below.refl _ _).alloc (Nat.le_refl _) _
          have HR := Lib.hid (by rw [← hW1, ← hrb]; exact alloc_new rfl : W1.heap[rb]? = some (.cells #[.int .u8 128, .int .u8 143] 223 (0, 0)))
          have EW1 := Lib.hid hW1
          have Erb := Lib.hid hrb
          clear hW1 hrb
          have HB := Lib.hid hb1
          clear hp hb1 h1
          go_enter Tryd.func143, Tryd.ntmps143
          go_upto_region 8 with fail
          rw [EW1.out, Erb.out]
          refine region_calm (by kernel_rfl) (by kernel_rfl) ?_
          repeat (quiet_step ((fail)))
          refine wpQuiet_nil ?_
          rintro _ ⟨y, rfl⟩
          go_wp2
          go_ret
          exact ⟨rfl, Later.chain HB.out y⟩
        · by_cases hn2 : s.size = 2
          · have h1' : (1 : Int) < (s.size : Int) := by omega
            have h1n : 1 < s.size := by omega
            have hs1 : s[1]'(by omega) = x1 := by rw [← hx1]; exact (Utf8W.get!_of_lt s 1 (by omega)).symm
            by_cases c1 : x1.toNat < 128
            · have hp : decide (FullP s.size 4 128 143 x1.toNat x2.toNat) = true := decide_eq_true (by unfold FullP; omega)
              have d1 : decide ((x1.toNat : Int) < 128) = true := decide_eq_true (by omega)
              rw [hp]
              clear hp c1
              obtain ⟨W1, hW1⟩ : ∃ Xz, w.alloc (.cells #[.int .u8 128, .int .u8 143] 223) = Xz := ⟨_, rfl⟩
              obtain ⟨rb, hrb⟩ : ∃ xz, w.heap.size = xz := ⟨_, rfl⟩
              have hb1 : Below w.heap.size w W1 := by rw [← hW1]; exact (Below.refl _ _).alloc (Nat.le_refl _) _
              have HR := Lib.hid (by rw [← hW1, ← hrb]; exact alloc_new rfl : W1.heap[rb]? = some (.cells #[.int .u8 128, .int .u8 143] 223 (0, 0)))
              have EW1 := Lib.hid hW1
              have Erb := Lib.hid hrb
              clear hW1 hrb
              have HB := Lib.hid hb1
              clear hb1
              have r0 := cell_at HR.out 0
              have r1 := cell_at HR.out 1
              have rz := lt_of_heap HR.out
              simp only [List.getElem?_toArray, List.getElem?_cons_zero, List.getElem?_cons_succ] at r0 r1
              go_enter Tryd.func143, Tryd.ntmps143
              go_upto_region 8 with fail
              rw [EW1.out, Erb.out]
              refine region_calm (by kernel_rfl) (by kernel_rfl) ?_
              repeat (quiet_step ((fail)))
              refine wpQuiet_nil ?_
              rintro _ ⟨y, rfl⟩
              go_wp2
              go_ret
              exact ⟨rfl, Later.chain HB.out y⟩
            by_cases c2 : 143 < x1.toNat
            · have hp : decide (FullP s.size 4 128 143 x1.toNat x2.toNat) = true := decide_eq_true (by unfold FullP; omega)
              have d1 : decide ((x1.toNat : Int) < 128) = false := decide_eq_false (by omega)
              have d2 : decide ((143 : Int) < x1.toNat) = true := decide_eq_true (by omega)
              rw [hp]
              clear hp c1 c2
              obtain ⟨W1, hW1⟩ : ∃ Xz, w.alloc (.cells #[.int .u8 128, .int .u8 143] 223) = Xz := ⟨_, rfl⟩
              obtain ⟨rb, hrb⟩ : ∃ xz, w.heap.size = xz := ⟨_, rfl⟩
              have hb1 : Below w.heap.size w W1 := by rw [← hW1]; exact (Below.refl _ _).alloc (Nat.le_refl _) _
              have HR := Lib.hid (by rw [← hW1, ← hrb]; exact alloc_new rfl : W1.heap[rb]? = some (.cells #[.int .u8 128, .int .u8 143] 223 (0, 0)))
              have EW1 := Lib.hid hW1
              have Erb := Lib.hid hrb
              clear hW1 hrb
              have HB := Lib.hid hb1
              clear hb1
              have r0 := cell_at HR.out 0
              have r1 := cell_at HR.out 1
              have rz := lt_of_heap HR.out
              simp only [List.getElem?_toArray, List.getElem?_cons_zero, List.getElem?_cons_succ] at r0 r1
              go_enter Tryd.func143, Tryd.ntmps143
              go_upto_region 8 with fail
              rw [EW1.out, Erb.out]
              refine region_calm (by kernel_rfl) (by kernel_rfl) ?_
              repeat (quiet_step ((fail)))
              refine wpQuiet_nil ?_
              rintro _ ⟨y, rfl⟩
              go_wp2
              go_ret
              exact ⟨rfl, Later.chain HB.out y⟩
            have d1 : decide ((x1.toNat : Int) < 128) = false := decide_eq_false (by omega)
            have d2 : decide ((143 : Int) < x1.toNat) = false := decide_eq_false (by omega)
            have h1'' : ¬ ((2 : Int) < (s.size : Int)) := by omega
            have hp : decide (FullP s.size 4 128 143 x1.toNat x2.toNat) = false := decide_eq_false (by unfold FullP; omega)
            rw [hp]
            clear hp c1 c2
            obtain ⟨W1, hW1⟩ : ∃ Xz, w.alloc (.cells #[.int .u8 128, .int .u8 143] 223) = Xz := ⟨_, rfl⟩
            obtain ⟨rb, hrb⟩ : ∃ xz, w.heap.size = xz := ⟨_, rfl⟩
            have hb1 : Below w.heap.size w W1 := by rw [← hW1]; exact (Below.refl _ _).alloc (Nat.le_refl _) _
            have HR := Lib.hid (by rw [← hW1, ← hrb]; exact alloc_new rfl : W1.heap[rb]? = some (.cells #[.int .u8 128, .int .u8 143] 223 (0, 0)))
            have EW1 := Lib.hid hW1
            have Erb := Lib.hid hrb
            clear hW1 hrb
            have HB := Lib.hid hb1
            clear hb1
            have r0 := cell_at HR.out 0
            have r1 := cell_at HR.out 1
            have rz := lt_of_heap HR.out
            simp only [List.getElem?_toArray, List.getElem?_cons_zero, List.getElem?_cons_succ] at r0 r1
            go_enter Tryd.func143, Tryd.ntmps143
            go_upto_region 8 with fail
            rw [EW1.out, Erb.out]
            refine region_calm (by kernel_rfl) (by kernel_rfl) ?_
            repeat (quiet_step ((fail)))
            refine wpQuiet_nil ?_
            rintro _ ⟨y, rfl⟩
            go_wp2
            go_ret
            exact ⟨rfl, Later.chain HB.out y⟩
          · have h1' : (1 : Int) < (s.size : Int) := by omega
            have h1n : 1 < s.size := by omega
            have hs1 : s[1]'(by omega) = x1 := by rw [← hx1]; exact (Utf8W.get!_of_lt s 1 (by omega)).symm
            by_cases c1 : x1.toNat < 128
            · have hp : decide (FullP s.size 4 128 143 x1.toNat x2.toNat) = true := decide_eq_true (by unfold FullP; omega)
              have d1 : decide ((x1.toNat : Int) < 128) = true := decide_eq_true (by omega)
              rw [hp]
              clear hp c1
              obtain ⟨W1, hW1⟩ : ∃ Xz, w.alloc (.cells #[.int .u8 128, .int .u8 143] 223) = Xz := ⟨_, rfl⟩
              obtain ⟨rb, hrb⟩ : ∃ xz, w.heap.size = xz := ⟨_, rfl⟩
              have hb1 : Below w.heap.size w W1 := by rw [← hW1]; exact (Below.refl _ _).alloc (Nat.le_refl _) _
              have HR := Lib.hid (by rw [← hW1, ← hrb]; exact alloc_new rfl : W1.heap[rb]? = some (.cells #[.int .u8 128, .int .u8 143] 223 (0, 0)))
              have EW1 := Lib.hid hW1
              have Erb := Lib.hid hrb
              clear hW1 hrb
              have HB := Lib.hid hb1
              clear hb1
              have r0 := cell_at HR.out 0
              have r1 := cell_at HR.out 1
              have rz := lt_of_heap HR.out
              simp only [List.getElem?_toArray, List.getElem?_cons_zero, List.getElem?_cons_succ] at r0 r1
              go_enter Tryd.func143, Tryd.ntmps143
              go_upto_region 8 with fail
              rw [EW1.out, Erb.out]
              refine region_calm (by kernel_rfl) (by kernel_rfl) ?_
              repeat (quiet_step ((fail)))
              refine wpQuiet_nil ?_
              rintro _ ⟨y, rfl⟩
              go_wp2
              go_ret
              exact ⟨rfl, Later.chain HB.out y⟩
            by_cases c2 : 143 < x1.toNat
            · have hp : decide (FullP s.size 4 128 143 x1.toNat x2.toNat) = true := decide_eq_true (by unfold FullP; omega)
              have d1 : decide ((x1.toNat : Int) < 128) = false := decide_eq_false (by omega)
              have d2 : decide ((143 : Int) < x1.toNat) = true := decide_eq_true (by omega)
              rw [hp]
              clear hp c1 c2
              obtain ⟨W1, hW1⟩ : ∃ Xz, w.alloc (.cells #[.int .u8 128, .int .u8 143] 223) = Xz := ⟨_, rfl⟩
              obtain ⟨rb, hrb⟩ : ∃ xz, w.heap.size = xz := ⟨_, rfl⟩
              have hb1 : Below w.heap.size w W1 := by rw [← hW1]; exact (Below.refl _ _).alloc (Nat.le_refl _) _
              have HR := Lib.hid (by rw [← hW1, ← hrb]; exact alloc_new rfl : W1.heap[rb]? = some (.cells #[.int .u8 128, .int .u8 143] 223 (0, 0)))
              have EW1 := Lib.hid hW1
              have Erb := Lib.hid hrb
              clear hW1 hrb
              have HB := Lib.hid hb1
              clear hb1
              have r0 := cell_at HR.out 0
              have r1 := cell_at HR.out 1
              have rz := lt_of_heap HR.out
              simp only [List.getElem?_toArray, List.getElem?_cons_zero, List.getElem?_cons_succ] at r0 r1
              go_enter Tryd.func143, Tryd.ntmps143
              go_upto_region 8 with fail
              rw [EW1.out, Erb.out]
              refine region_calm (by kernel_rfl) (by kernel_rfl) ?_
              repeat (quiet_step ((fail)))
              refine wpQuiet_nil ?_
              rintro _ ⟨y, rfl⟩
              go_wp2
              go_ret
              exact ⟨rfl, Later.chain HB.out y⟩
            have d1 : decide ((x1.toNat : Int) < 128) = false := decide_eq_false (by omega)
            have d2 : decide ((143 : Int) < x1.toNat) = false := decide_eq_false (by omega)
            have h2' : (2 : Int) < (s.size : Int) := by omega
            have h2n : 2 < s.size := by omega
            have hs2 : s[2]'(by omega) = x2 := by rw [← hx2]; exact (Utf8W.get!_of_lt s 2 (by omega)).symm
            by_cases c3 : x2.toNat < 128
            · have hp : decide (FullP s.size 4 128 143 x1.toNat x2.toNat) = true := decide_eq_true (by unfold FullP; omega)
              have d3 : (x2.toNat : Int) < 128 := by omega
              rw [hp]
              clear hp c1 c2 c3
              obtain ⟨W1, hW1⟩ : ∃ Xz, w.alloc (.cells #[.int .u8 128, .int .u8 143] 223) = Xz := ⟨_, rfl⟩
              obtain ⟨rb, hrb⟩ : ∃ xz, w.heap.size = xz := ⟨_, rfl⟩
              have hb1 : Below w.heap.size w W1 := by rw [← hW1]; exact (Below.refl _ _).alloc (Nat.le_refl _) _
              have HR := Lib.hid (by rw [← hW1, ← hrb]; exact alloc_new rfl : W1.heap[rb]? = some (.cells #[.int .u8 128, .int .u8 143] 223 (0, 0)))
              have EW1 := Lib.hid hW1
              have Erb := Lib.hid hrb
              clear hW1 hrb
              have HB := Lib.hid hb1
              clear hb1
              have r0 := cell_at HR.out 0
              have r1 := cell_at HR.out 1
              have rz := lt_of_heap HR.out
              simp only [List.getElem?_toArray, List.getElem?_cons_zero, List.getElem?_cons_succ] at r0 r1
              go_enter Tryd.func143, Tryd.ntmps143
              go_upto_region 8 with fail
              rw [EW1.out, Erb.out]
              refine region_calm (by kernel_rfl) (by kernel_rfl) ?_
              repeat (quiet_step ((fail)))
              refine wpQuiet_nil ?_
              rintro _ ⟨y, rfl⟩
              go_wp2
              go_ret
              exact ⟨rfl, Later.chain HB.out y⟩
            have d3 : ¬ ((x2.toNat : Int) < 128) := by omega
            by_cases c4 : 191 < x2.toNat
            · have hp : decide (FullP s.size 4 128 143 x1.toNat x2.toNat) = true := decide_eq_true (by unfold FullP; omega)
              have d4 : (191 : Int) < (x2.toNat : Int) := by omega
              rw [hp]
              clear hp c1 c2 c3 c4
              obtain ⟨W1, hW1⟩ : ∃ Xz, w.alloc (.cells #[.int .u8 128, .int .u8 143] 223) = Xz := ⟨_, rfl⟩
              obtain ⟨rb, hrb⟩ : ∃ xz, w.heap.size = xz := ⟨_, rfl⟩
              have hb1 : Below w.heap.size w W1 := by rw [← hW1]; exact (Below.refl _ _).alloc (Nat.le_refl _) _
              have HR := Lib.hid (by rw [← hW1, ← hrb]; exact alloc_new rfl : W1.heap[rb]? = some (.cells #[.int .u8 128, .int .u8 143] 223 (0, 0)))
              have EW1 := Lib.hid hW1
              have Erb := Lib.hid hrb
              clear hW1 hrb
              have HB := Lib.hid hb1
              clear hb1
              have r0 := cell_at HR.out 0
              have r1 := cell_at HR.out 1
              have rz := lt_of_heap HR.out
              simp only [List.getElem?_toArray, List.getElem?_cons_zero, List.getElem?_cons_succ] at r0 r1
              go_enter Tryd.func143, Tryd.ntmps143
              go_upto_region 8 with fail
              rw [EW1.out, Erb.out]
              refine region_calm (by kernel_rfl) (by kernel_rfl) ?_
              repeat (quiet_step ((fail)))
              refine wpQuiet_nil ?_
              rintro _ ⟨y, rfl⟩
              go_wp2
              go_ret
              exact ⟨rfl, Later.chain HB.out y⟩
            have hp : decide (FullP s.size 4 128 143 x1.toNat x2.toNat) = false := decide_eq_false (by unfold FullP; omega)
            have d4 : ¬ ((191 : Int) < (x2.toNat : Int)) := by omega
            rw [hp]
            clear hp c1 c2 c3 c4
            obtain ⟨W1, hW1⟩ : ∃ Xz, w.alloc (.cells #[.int .u8 128, .int .u8 143] 223) = Xz := ⟨_, rfl⟩
            obtain ⟨rb, hrb⟩ : ∃ xz, w.heap.size = xz := ⟨_, rfl⟩
            have hb1 : Below w.heap.size w W1 := by rw [← hW1]; exact (Below.refl _ _).alloc (Nat.le_refl _) _
            have HR := Lib.hid (by rw [← hW1, ← hrb]; exact alloc_new rfl : W1.heap[rb]? = some (.cells #[.int .u8 128, .int .u8 143] 223 (0, 0)))
            have EW1 := Lib.hid hW1
            have Erb := Lib.hid hrb
            clear hW1 hrb
            have HB := Lib.hid hb1
            clear hb1
            have r0 := cell_at HR.out 0
            have r1 := cell_at HR.out 1
            have rz := lt_of_heap HR.out
            simp only [List.getElem?_toArray, List.getElem?_cons_zero, List.getElem?_cons_succ] at r0 r1
            go_enter Tryd.func143, Tryd.ntmps143
            go_upto_region 8 with fail
            rw [EW1.out, Erb.out]
            refine region_calm (by kernel_rfl) (by kernel_rfl) ?_
            repeat (quiet_step ((fail)))
            refine wpQuiet_nil ?_
            rintro _ ⟨y, rfl⟩
            go_wp2
            go_ret
            exact ⟨rfl, Later.chain HB.out y⟩
end Go.Proofs.YtendkmldecoogaaDoor.FullRune
