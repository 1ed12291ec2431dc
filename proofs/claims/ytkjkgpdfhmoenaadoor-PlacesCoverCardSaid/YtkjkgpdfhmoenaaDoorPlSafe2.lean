/-
  places: Safe.
-/
import Derived.Test.YtkjkgpdfhmoenaaDoorPlSafe
namespace Go.Proofs.YtkjkgpdfhmoenaaDoor.PlSafe
open Go Go.RowKit Go.Proofs.YtkjkgpdfhmoenaaDoor.Kit Go.Proofs.YtkjkgpdfhmoenaaDoor.Range Go.Proofs.YtkjkgpdfhmoenaaDoor.Round Go.Proofs.YtkjkgpdfhmoenaaDoor.Seg Go.Proofs.YtkjkgpdfhmoenaaDoor.Collect Go.Proofs.YtkjkgpdfhmoenaaDoor.It Go.Proofs.YtkjkgpdfhmoenaaDoor.ItGo Go.Proofs.YtkjkgpdfhmoenaaDoor.Dt Go.Proofs.YtkjkgpdfhmoenaaDoor.Mo Go.Proofs.YtkjkgpdfhmoenaaDoor.MoNew Go.Proofs.YtkjkgpdfhmoenaaDoor.Cu Go.Proofs.YtkjkgpdfhmoenaaDoor.CutAll Go.Proofs.YtkjkgpdfhmoenaaDoor.CutTokens Go.Proofs.YtkjkgpdfhmoenaaDoor.EncLaw
attribute [local irreducible] wpQuiet wpStill
attribute [local go_sem] Oper.semAt_some
set_option linter.unusedSimpArgs false

/-- The places rise. -/
theorem link_rise : ∀ {S : List Tk} {a n : Nat}, Link a S n → ∀ {j k : Nat}, j < k → k < S.length → (S.getD j default).b < (S.getD k default).b
  | [], _, _, _, _, _, _, hk => by simp at hk
  | t :: S, a, n, h, 0, k + 1, _, hk => by
    have hk' : k < S.length := by simpa using hk
    have := EncCount.Link.mem h.2.2 (S.getD k default) (by rw [List.getD_eq_getElem?_getD, List.getElem?_eq_getElem hk']; exact List.getElem_mem hk')
    show t.b < (S.getD k default).b
    omega
  | t :: S, a, n, h, j + 1, k + 1, hj, hk => link_rise h.2.2 (j := j) (k := k) (by omega) (by simpa using hk)
theorem cutsN_mem {T : List UInt8} {S : List Tk} : ∀ {n : Nat} {p : Nat}, p ∈ cutsN T S n ↔ ∃ k, k < n ∧ okAt T S k = true ∧ (S.getD k default).b = p
  | 0, p => by simp [cutsN]
  | n + 1, p => by
    show p ∈ cutsN T S n ++ (if okAt T S n = true then [(S.getD n default).b] else []) ↔ _
    rw [List.mem_append, cutsN_mem]
    constructor
    · rintro (⟨k, h1, h2, h3⟩ | h)
      · exact ⟨k, by omega, h2, h3⟩
      · split at h
        · rename_i ho
          simp only [List.mem_singleton] at h
          exact ⟨n, by omega, ho, h.symm⟩
        · simp at h
    · rintro ⟨k, h1, h2, h3⟩
      rcases Nat.eq_or_lt_of_le (Nat.le_of_lt_succ h1) with rfl | h4
      · right; rw [if_pos h2, ← h3]; simp
      · exact .inl ⟨k, h4, h2, h3⟩
theorem cutsN_rise {T : List UInt8} {S : List Tk} {a m : Nat} (hL : Link a S m) : ∀ {n : Nat}, n ≤ S.length → (cutsN T S n).Pairwise (· < ·)
  | 0, _ => List.Pairwise.nil
  | n + 1, h => by
    show (cutsN T S n ++ (if okAt T S n = true then [(S.getD n default).b] else [])).Pairwise (· < ·)
    refine List.pairwise_append.2 ⟨cutsN_rise hL (by omega), by split <;> simp, fun x hx y hy => ?_⟩
    split at hy
    · obtain ⟨k, h1, _, h3⟩ := cutsN_mem.1 hx
      simp only [List.mem_singleton] at hy
      rw [← h3, hy]
      exact link_rise hL h1 (by omega)
    · simp at hy
theorem rise_at {l : List Nat} (h : l.Pairwise (· < ·)) {i j : Nat} (hij : i < j) (hj : j < l.length) : l.getD i 0 < l.getD j 0 := by
  rw [List.getD_eq_getElem?_getD, List.getD_eq_getElem?_getD, List.getElem?_eq_getElem (by omega), List.getElem?_eq_getElem hj]
  exact List.pairwise_iff_getElem.1 h i j (by omega) hj hij

/-- May a text be cut there? -/
def safeB (D : Dt) (T : List UInt8) (at' : Int) : Bool := decide (at' = 0 ∨ at' = T.length) || decide (∃ p ∈ cuts D T, (p : Int) = at')
theorem safeB_zero {D : Dt} {T : List UInt8} {z : Int} (h : z = 0 ∨ z = T.length) : safeB D T z = true := by
  unfold safeB
  rw [decide_eq_true h]
  rfl
theorem safeB_cut {D : Dt} {T : List UInt8} {z : Int} (h : ¬ (z = 0 ∨ z = T.length)) : safeB D T z = decide (∃ p ∈ cuts D T, (p : Int) = z) := by
  unfold safeB
  rw [decide_eq_false h]
  rfl
theorem cuts_rise (D : Dt) (T : List UInt8) : (cuts D T).Pairwise (· < ·) := by
  have hl := toks_link D T.length T 0 (Nat.le_refl _)
  exact cutsN_rise hl (Nat.le_refl _)

set_option maxHeartbeats 2000000 in
set_option maxRecDepth 100000 in
theorem Safe_calls (D : Dt) (mb : Nat) (s : ByteArray) (z : Int) (w : World) (h : Mod w mb D) (hT : Tabs w) (hl : s.size ≤ 1048576) :
    Calls Tryd.prog 32 #[.pointer (some ⟨mb, 0, none⟩), .string s, .int .i64 z] w fun e w' => e = .returned (.bool (safeB D s.data.toList z)) ∧ Below w.heap.size w w' := by
  have HM := Lib.hid h
  have HT := Lib.hid hT
  have hsz := size_list s
  have hl' : ¬ ((1048576 : Int) < s.size) := by omega
  obtain ⟨v, hv⟩ : ∃ v, safeB D s.data.toList z = v := ⟨_, rfl⟩
  rw [hv]
  have HV0 := Lib.hid hv
  clear h hT hv
  obtain ⟨W1, hW1⟩ : ∃ Xz, w.alloc (.cells #[.int .i64 z] 3) = Xz := ⟨_, rfl⟩
  obtain ⟨b5, hb5⟩ : ∃ xz, w.heap.size = xz := ⟨_, rfl⟩
  have hb1 : Below w.heap.size w W1 := by rw [← hW1]; exact (Below.refl _ _).alloc (Nat.le_refl _) _
  have HB5 := Lib.hid (by rw [← hW1, ← hb5]; exact alloc_new rfl : W1.heap[b5]? = some (.cells #[.int .i64 z] 3 (0, 0)))
  have EW1 := Lib.hid hW1
  have Eb5 := Lib.hid hb5
  clear hW1 hb5
  obtain ⟨W2, hW2⟩ : ∃ Xz, W1.alloc (.cells #[.bool false] 4) = Xz := ⟨_, rfl⟩
  obtain ⟨b6, hb6⟩ : ∃ xz, W1.heap.size = xz := ⟨_, rfl⟩
  have hb2 : Below W1.heap.size W1 W2 := by rw [← hW2]; exact (Below.refl _ _).alloc (Nat.le_refl _) _
  have HB6 := Lib.hid (by rw [← hW2, ← hb6]; exact alloc_new rfl : W2.heap[b6]? = some (.cells #[.bool false] 4 (0, 0)))
  have EW2 := Lib.hid hW2
  have Eb6 := Lib.hid hb6
  clear hW2 hb6
  have n6 := Lib.hid (show b5 + 1 = b6 from by rw [← Eb6.out, ← EW1.out, ← Eb5.out]; simp)
  have l5 : b5 < b6 := by have := lt_of_heap HB5.out; have := Eb6.out; omega
  have l0 : w.heap.size ≤ b5 := by have := Eb5.out; omega
  have HB5 := Lib.hid ((hb2.block _ (lt_of_heap HB5.out)).trans HB5.out)
  have HB := Lib.hid (chain hb1 hb2 : Below w.heap.size w W2)
  clear hb1 hb2
  refine calls_of_wp_marks Tryd.func32 rfl ?_
  simp only [Tryd.ntmps32, List.size_toArray, List.length_cons, List.length_nil, Nat.reduceAdd, Nat.reduceSub, Array.replicate_succ, Array.replicate_zero, List.push_toArray, List.append_toArray, List.nil_append, List.cons_append]
  go_upto_region 1 with fail
  rw [EW1.out, Eb5.out, n6.out, EW2.out]
  by_cases h0 : z = 0 ∨ z = s.size
  · obtain rfl : v = true := by rw [← HV0.out]; exact safeB_zero (by rw [hsz]; exact h0)
    obtain ⟨Wf, hWf⟩ : ∃ z, W2.setCell ⟨b6, 0, none⟩ (.bool true) = z := ⟨_, rfl⟩
    have HF6 := Lib.hid (show Wf.heap[b6]? = some (.cells #[.bool true] 4 (0, 0)) from by rw [← hWf, heap_set HB6.out 0 _]; rfl)
    have HUF := Lib.hid (show Upd (fun b => b = b6) W2 Wf from by rw [← hWf]; exact Upd.setCell (S := fun b => b = b6) (p := ⟨b6, 0, none⟩) (Upd.refl _ _) (fun _ => rfl) _)
    have HWF := Lib.hid hWf
    clear hWf
    have HBF := Lib.hid (HB.out.trans (HUF.out.below HB.out.size (fun b hb e => by omega)))
    have a0 := cell_at HB5.out 0
    have az := lt_of_heap HB5.out
    simp only [List.getElem?_toArray, List.getElem?_cons_zero] at a0
    have r0 := cell_at HB6.out 0
    have rf := free_all HB6.out
    have rz := lt_of_heap HB6.out
    simp only [List.getElem?_toArray, List.getElem?_cons_zero] at r0
    by_cases hz : z = 0
    · have hz' : (z == 0) = true := by simp [hz]
      clear h0 hz
      go_wp2_with fail
      rw [HWF.out]
      refine leaves_marks (v := .bool true) [] _ (fun d hd => ?_) (by simp) (fun w' hu => ?_)
      · first | (cases hd; done) | (rw [List.mem_singleton] at hd; rw [hd]; exact HDD.out)
      · have f6 : w'.cell? ⟨b6, 0, none⟩ = some (.bool true) := (hu.cell (p := ⟨b6, 0, none⟩) (lt_of_heap HF6.out) (by first | (intro hh; cases hh; done) | (intro hh; rw [List.mem_singleton] at hh; have := lt_of_heap HB6.out; simp only at hh; omega))).trans (cell_at HF6.out 0)
        refine ⟨by simp [results, Tryd.results32, go_sem, f6], rfl, ?_⟩
        exact HBF.out.trans (hu.below HBF.out.size (fun b hb hh => by first | (cases hh; done) | (rw [List.mem_singleton] at hh; have := HB.out.size; omega)))
    · have hz' : (z == 0) = false := by simpa using hz
      have hz2 : (z == (s.size : Int)) = true := by rw [beq_iff_eq]; omega
      clear h0 hz
      go_wp2_with fail
      rw [HWF.out]
      refine leaves_marks (v := .bool true) [] _ (fun d hd => ?_) (by simp) (fun w' hu => ?_)
      · first | (cases hd; done) | (rw [List.mem_singleton] at hd; rw [hd]; exact HDD.out)
      · have f6 : w'.cell? ⟨b6, 0, none⟩ = some (.bool true) := (hu.cell (p := ⟨b6, 0, none⟩) (lt_of_heap HF6.out) (by first | (intro hh; cases hh; done) | (intro hh; rw [List.mem_singleton] at hh; have := lt_of_heap HB6.out; simp only at hh; omega))).trans (cell_at HF6.out 0)
        refine ⟨by simp [results, Tryd.results32, go_sem, f6], rfl, ?_⟩
        exact HBF.out.trans (hu.below HBF.out.size (fun b hb hh => by first | (cases hh; done) | (rw [List.mem_singleton] at hh; have := HB.out.size; omega)))
  have hv := HV0.out
  rw [safeB_cut (by rw [hsz]; exact h0)] at hv
  have hz1 : (z == 0) = false := by rw [beq_eq_false_iff_ne]; omega
  have hz2 : (z == (s.size : Int)) = false := by rw [beq_eq_false_iff_ne]; omega
  have HV := Lib.hid hv
  have HRI := Lib.hid (fun i j => rise_at (cuts_rise D s.data.toList) (i := i) (j := j))
  clear h0 hv
  have a0 := cell_at HB5.out 0
  have az := lt_of_heap HB5.out
  simp only [List.getElem?_toArray, List.getElem?_cons_zero] at a0
  go_wp2_with fail
  refine (safe_new mb s W2).mono ?_
  rintro e W3 ⟨bm, bs, rfl, hbm, hbs, o2, o3, hb3⟩
  have HMB := Lib.hid hbm
  have HSB := Lib.hid hbs
  have l9 : b6 < bm := Nat.lt_of_lt_of_le (lt_of_heap HB6.out) o2
  have o5 : bs < W3.heap.size := lt_of_heap hbs
  have HB5 := Lib.hid ((hb3.block _ (lt_of_heap HB5.out)).trans HB5.out)
  have HB6 := Lib.hid ((hb3.block _ (lt_of_heap HB6.out)).trans HB6.out)
  have HB := Lib.hid (chain HB.out hb3)
  clear hbm hbs o2 hb3 a0 az
  go_wp2_with fail
  refine range_outer (w0 := W3) (N := (cuts D s.data.toList).length) (Cap := fun b => b < w.heap.size ∨ b = bm ∨ b = bs) (gf := 77) (lb := #[.pointer (some ⟨bm, 0, none⟩), .pointer (some ⟨bs, 0, none⟩)]) (encs := fun k => #[.int .i64 ((cuts D s.data.toList).getD k 0 : Nat)]) rfl (Go.Proofs.enters_of Tryd.func77 (by kernel_rfl) rfl)
    (safe_iter D mb w W3 bm bs s HM.out HT.out HB.out HMB.out HSB.out hl) (Below.refl _ _) (fun _ => rfl) ?cap
    (fun k S W => (∀ b, S b ↔ b = b6) ∧ Below W3.heap.size W3 W ∧ ∀ j, j < k → ((cuts D s.data.toList).getD j 0 : Int) < z)
    (fun c k S W => c = .ret ∧ (∀ b, S b ↔ b = b6) ∧ W.heap[b6]? = some (.cells #[.bool v] 4 (0, 0)) ∧ Upd (fun b => b = b6) W3 W)
    ?ki ?kx (fun b => b = b6) ⟨fun b => Iff.rfl, Below.refl _ _, fun j hj => (by omega)⟩ ?s0 ?round ?done ?stop
  case cap =>
    have := HB.out.size
    rintro b (h | rfl | rfl) <;> omega
  case ki =>
    rintro k S A B ⟨hS, hst, hm⟩ hu
    exact ⟨hS, hst.trans (hu.below hst.size (fun b hb h => by have := h.1; omega)), hm⟩
  case kx =>
    rintro c k S A B ⟨rfl, hS, hc, hu0⟩ hu
    exact ⟨rfl, hS, Upd.mem hu hc (fun h => h.2 ((hS _).2 rfl)), grow hu0 hu (fun b hb h => by have := h.1; omega)⟩
  case s0 =>
    have hlast := lt_of_heap HB6.out
    rintro b rfl
    refine ⟨hlast, ?_⟩
    rintro (h3 | rfl | rfl) <;> omega
  case round =>
    rintro l k S A hk ⟨hS, hst, hm⟩ j1 j2 j3 j4 j5 j6
    obtain ⟨x, hx⟩ : ∃ x, (cuts D s.data.toList).getD k 0 = x := ⟨_, rfl⟩
    rw [hx]
    have HX := Lib.hid hx
    clear hx hS hst hm j5 j6
    gi_wp2
    refine ⟨Below.refl _ _, fun A2 hu hz hI2 hr2 => ?_⟩
    obtain ⟨hS2, hst2, hm2⟩ := hI2
    have HS2 := Lib.hid hS2
    have HST := Lib.hid hst2
    have HMM := Lib.hid hm2
    have R5 := Lib.hid ((hst2.block _ (lt_of_heap HB5.out)).trans HB5.out)
    have R6 := Lib.hid ((hst2.block _ (lt_of_heap HB6.out)).trans HB6.out)
    clear hS2 hst2 hm2 hr2 hu hz
    have a0 := cell_at R5.out 0
    have az := lt_of_heap R5.out
    simp only [List.getElem?_toArray, List.getElem?_cons_zero] at a0
    by_cases hlt : z ≤ (x : Int)
    · obtain ⟨Wf, hWf⟩ : ∃ z, A2.setCell ⟨b6, 0, none⟩ (.bool v) = z := ⟨_, rfl⟩
      have HF6 := Lib.hid (show Wf.heap[b6]? = some (.cells #[.bool v] 4 (0, 0)) from by rw [← hWf, heap_set R6.out 0 _]; rfl)
      have HUF := Lib.hid (show Upd (fun b => b = b6) A2 Wf from by rw [← hWf]; exact Upd.setCell (S := fun b => b = b6) (p := ⟨b6, 0, none⟩) (Upd.refl _ _) (fun _ => rfl) _)
      have HWF := Lib.hid hWf
      clear hWf
      have hvx : ((x : Int) == z) = v := by
        rw [← HV.out]
        by_cases he : (x : Int) = z
        · rw [decide_eq_true ⟨x, by rw [← HX.out, List.getD_eq_getElem?_getD, List.getElem?_eq_getElem hk]; exact List.getElem_mem hk, he⟩]
          simp [he]
        · rw [decide_eq_false, beq_eq_false_iff_ne]
          · exact he
          · rintro ⟨p, hp, hpz⟩
            obtain ⟨i, hi, rfl⟩ := List.getElem_of_mem hp
            have hgi : (cuts D s.data.toList).getD i 0 = (cuts D s.data.toList)[i] := by rw [List.getD_eq_getElem?_getD, List.getElem?_eq_getElem hi]; rfl
            rcases Nat.lt_trichotomy i k with h1 | h1 | h1
            · have := HMM.out i h1
              rw [hgi] at this
              omega
            · subst h1
              rw [← hgi, HX.out] at hpz
              exact he hpz
            · have := HRI.out k i h1 hi
              rw [HX.out, hgi] at this
              omega
      have r0 := cell_at R6.out 0
      have rf := free_all R6.out
      have rz := lt_of_heap R6.out
      simp only [List.getElem?_toArray, List.getElem?_cons_zero] at r0
      gi_wp2_with fail
      rw [HWF.out]
      refine ⟨_, ⟨rfl, HS2.out, HF6.out, (Upd.of_below HST.out).trans HUF.out⟩, HUF.out.mono (fun b _ e => .inl ((HS2.out b).2 e)), fun b hb => ⟨.inl hb, ?_⟩⟩
      rw [(HS2.out b).1 hb]
      exact lt_of_heap HF6.out
    · gi_wp2_with fail
      refine ⟨S, ⟨HS2.out, HST.out, fun j hj => ?_⟩, Upd.refl _ _, fun b hb => ⟨.inl hb, ?_⟩⟩
      · rcases Nat.eq_or_lt_of_le (Nat.le_of_lt_succ hj) with rfl | h1
        · have hxx := HX.out
          rw [List.getD_eq_getElem?_getD] at hxx
          rw [hxx]
          omega
        · exact HMM.out j h1
      · rw [(HS2.out b).1 hb]
        exact lt_of_heap R6.out
  case done =>
    rintro S B ⟨hS, hst, hm⟩ hD
    have HDD0 := Lib.hid hD
    have R6 := Lib.hid ((hst.block _ (lt_of_heap HB6.out)).trans HB6.out)
    have hvf : v = false := by
      rw [← HV.out]
      refine decide_eq_false ?_
      rintro ⟨p, hp, hpz⟩
      obtain ⟨i, hi, rfl⟩ := List.getElem_of_mem hp
      have := hm i hi
      rw [List.getD_eq_getElem?_getD, List.getElem?_eq_getElem hi] at this
      simp only [Option.getD_some] at this
      omega
    have HST := Lib.hid hst
    subst hvf
    clear hS hst hm hD
    obtain ⟨Wf, hWf⟩ : ∃ z, B.setCell ⟨b6, 0, none⟩ (.bool false) = z := ⟨_, rfl⟩
    have HF6 := Lib.hid (show Wf.heap[b6]? = some (.cells #[.bool false] 4 (0, 0)) from by rw [← hWf, heap_set R6.out 0 _]; rfl)
    have HUF := Lib.hid (show Upd (fun b => b = b6) B Wf from by rw [← hWf]; exact Upd.setCell (S := fun b => b = b6) (p := ⟨b6, 0, none⟩) (Upd.refl _ _) (fun _ => rfl) _)
    have HWF := Lib.hid hWf
    clear hWf
    have HBF := Lib.hid ((HB.out.trans (HST.out.mono HB.out.size)).trans (HUF.out.below (by have := HB.out.size; have := HST.out.size; omega) (fun b hb e => by omega)))
    have HDD := Lib.hid ((HUF.out.block _ (lt_of_heap HDD0.out) (by have := lt_of_heap HB6.out; omega)).trans HDD0.out)
    have r0 := cell_at R6.out 0
    have rf := free_all R6.out
    have rz := lt_of_heap R6.out
    simp only [List.getElem?_toArray, List.getElem?_cons_zero] at r0
    go_wp2_with fail
    rw [HWF.out]
    refine leaves_marks (v := .bool false) [W3.heap.size] _ (fun d hd => ?_) (by simp) (fun w' hu => ?_)
    · first | (cases hd; done) | (rw [List.mem_singleton] at hd; rw [hd]; exact HDD.out)
    · have f6 : w'.cell? ⟨b6, 0, none⟩ = some (.bool false) := (hu.cell (p := ⟨b6, 0, none⟩) (lt_of_heap HF6.out) (by first | (intro hh; cases hh; done) | (intro hh; rw [List.mem_singleton] at hh; have := lt_of_heap HB6.out; simp only at hh; omega))).trans (cell_at HF6.out 0)
      refine ⟨by simp [results, Tryd.results32, go_sem, f6], rfl, ?_⟩
      exact HBF.out.trans (hu.below HBF.out.size (fun b hb hh => by first | (cases hh; done) | (rw [List.mem_singleton] at hh; have := HB.out.size; omega)))
  case stop =>
    rintro c k S B hk ⟨rfl, hS, hc, hu0⟩ hD
    have HDD := Lib.hid hD
    have HF6 := Lib.hid hc
    have HBF := Lib.hid (HB.out.trans (hu0.below HB.out.size (fun b hb e => by omega)))
    clear hS hc hu0 hD
    go_wp2_with fail
    refine leaves_marks (v := .bool v) [W3.heap.size] _ (fun d hd => ?_) (by simp) (fun w' hu => ?_)
    · first | (cases hd; done) | (rw [List.mem_singleton] at hd; rw [hd]; exact HDD.out)
    · have f6 : w'.cell? ⟨b6, 0, none⟩ = some (.bool v) := (hu.cell (p := ⟨b6, 0, none⟩) (lt_of_heap HF6.out) (by first | (intro hh; cases hh; done) | (intro hh; rw [List.mem_singleton] at hh; have := lt_of_heap HB6.out; simp only at hh; omega))).trans (cell_at HF6.out 0)
      refine ⟨by simp [results, Tryd.results32, go_sem, f6], rfl, ?_⟩
      exact HBF.out.trans (hu.below HBF.out.size (fun b hb hh => by first | (cases hh; done) | (rw [List.mem_singleton] at hh; have := HB.out.size; omega)))
end Go.Proofs.YtkjkgpdfhmoenaaDoor.PlSafe
