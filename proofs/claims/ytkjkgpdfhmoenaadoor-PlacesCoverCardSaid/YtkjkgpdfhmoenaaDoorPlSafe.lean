/-
  places: single, safe: where a text may be cut.
-/
import Derived.Test.YtkjkgpdfhmoenaaDoorCutAll
import Derived.Test.YtkjkgpdfhmoenaaDoorEncLaw
namespace Go.Proofs.YtkjkgpdfhmoenaaDoor.PlSafe
open Go Go.RowKit Go.Proofs.YtkjkgpdfhmoenaaDoor.Kit Go.Proofs.YtkjkgpdfhmoenaaDoor.Range Go.Proofs.YtkjkgpdfhmoenaaDoor.Round Go.Proofs.YtkjkgpdfhmoenaaDoor.Seg Go.Proofs.YtkjkgpdfhmoenaaDoor.Collect Go.Proofs.YtkjkgpdfhmoenaaDoor.It Go.Proofs.YtkjkgpdfhmoenaaDoor.ItGo Go.Proofs.YtkjkgpdfhmoenaaDoor.Dt Go.Proofs.YtkjkgpdfhmoenaaDoor.Mo Go.Proofs.YtkjkgpdfhmoenaaDoor.MoNew Go.Proofs.YtkjkgpdfhmoenaaDoor.Cu Go.Proofs.YtkjkgpdfhmoenaaDoor.CutAll Go.Proofs.YtkjkgpdfhmoenaaDoor.CutTokens Go.Proofs.YtkjkgpdfhmoenaaDoor.EncLaw
attribute [local irreducible] wpQuiet wpStill
attribute [local go_sem] Oper.semAt_some
set_option linter.unusedSimpArgs false

/-- A blank of one item. -/
def One (T : List UInt8) (x : Tk) : Prop := x.s = 5 ∧ (items 0 (piece T x)).length = 1
instance (T : List UInt8) (x : Tk) : Decidable (One T x) := by unfold One; infer_instance

theorem ext_piece (s : ByteArray) (x : Tk) : (s.extract x.a x.b).data.toList = piece s.data.toList x := by
  unfold piece
  rw [ByteArray.data_extract, Array.toList_extract, List.extract_eq_take_drop]

set_option maxHeartbeats 1000000 in
set_option maxRecDepth 100000 in
theorem single_calls (s : ByteArray) (x : Tk) (w : World) (hT : Tabs w) (h1 : x.a ≤ x.b) (h2 : x.b ≤ s.size) (hl : s.size ≤ 1048576) :
    Calls Tryd.prog 78 #[.string s, encT x] w fun e w' => e = .returned (.bool (decide (One s.data.toList x))) ∧ Below w.heap.size w w' := by
  have HT := Lib.hid hT
  clear hT
  obtain ⟨N, hN⟩ : ∃ N, (items 0 (piece s.data.toList x)).length = N := ⟨_, rfl⟩
  have hNl : N ≤ s.size := by
    rw [← hN]
    have h3 := items_len (piece s.data.toList x) 0
    have h4 : (piece s.data.toList x).length = x.b - x.a := by unfold piece; rw [List.length_take, List.length_drop, size_list]; omega
    omega
  have HN0 := Lib.hid hN
  have hsx := Go.run_slice_string (P := Tryd.prog) w 9 s .i64 .i64 (x.a : Int) (x.b : Int) Tryd.underlying9 (by omega) (by omega) (by omega)
  clear hsx
  have i1 : (0 : Int) ≤ x.a := by omega
  have i2 : (x.a : Int) ≤ x.b := by omega
  have i3 : (x.b : Int) ≤ s.size := by omega
  unfold encT
  obtain ⟨W1, hW1⟩ : ∃ Xz, w.alloc (.cells #[.int .i64 x.a, .int .i64 x.b, .int .i64 x.s] 50) = Xz := ⟨_, rfl⟩
  obtain ⟨b3, hb3⟩ : ∃ xz, w.heap.size = xz := ⟨_, rfl⟩
  have hb1 : Below w.heap.size w W1 := by rw [← hW1]; exact (Below.refl _ _).alloc (Nat.le_refl _) _
  have HB3 := Lib.hid (by rw [← hW1, ← hb3]; exact alloc_new rfl : W1.heap[b3]? = some (.cells #[.int .i64 x.a, .int .i64 x.b, .int .i64 x.s] 50 (0, 0)))
  have EW1 := Lib.hid hW1
  have Eb3 := Lib.hid hb3
  clear hW1 hb3
  obtain ⟨W2, hW2⟩ : ∃ Xz, W1.alloc (.cells #[.int .i64 0] 3) = Xz := ⟨_, rfl⟩
  obtain ⟨b5, hb5⟩ : ∃ xz, W1.heap.size = xz := ⟨_, rfl⟩
  have hb2 : Below W1.heap.size W1 W2 := by rw [← hW2]; exact (Below.refl _ _).alloc (Nat.le_refl _) _
  have HB5 := Lib.hid (by rw [← hW2, ← hb5]; exact alloc_new rfl : W2.heap[b5]? = some (.cells #[.int .i64 0] 3 (0, 0)))
  have EW2 := Lib.hid hW2
  have Eb5 := Lib.hid hb5
  clear hW2 hb5
  have n5 := Lib.hid (show b3 + 1 = b5 from by rw [← Eb5.out, ← EW1.out, ← Eb3.out]; simp)
  have l3 : b3 < b5 := by have := lt_of_heap HB3.out; have := Eb5.out; omega
  have l0 : w.heap.size ≤ b3 := by have := Eb3.out; omega
  have HB3 := Lib.hid ((hb2.block _ (lt_of_heap HB3.out)).trans HB3.out)
  obtain ⟨W3, hW3⟩ : ∃ Xz, W2.alloc (.cells #[.string (s.extract x.a x.b)] 9) = Xz := ⟨_, rfl⟩
  obtain ⟨bi, hbi⟩ : ∃ xz, W2.heap.size = xz := ⟨_, rfl⟩
  have hb3 : Below W2.heap.size W2 W3 := by rw [← hW3]; exact (Below.refl _ _).alloc (Nat.le_refl _) _
  have HI := Lib.hid (by rw [← hW3, ← hbi]; exact alloc_new rfl : W3.heap[bi]? = some (.cells #[.string (s.extract x.a x.b)] 9 (0, 0)))
  have EW3 := Lib.hid hW3
  have Ebi := Lib.hid hbi
  clear hW3 hbi
  have l5 : b5 < bi := by have := lt_of_heap HB5.out; have := Ebi.out; omega
  have HB3 := Lib.hid ((hb3.block _ (lt_of_heap HB3.out)).trans HB3.out)
  have HB5 := Lib.hid ((hb3.block _ (lt_of_heap HB5.out)).trans HB5.out)
  have H32 := Lib.hid (HB3.out)
  have HB := Lib.hid (chain (chain hb1 hb2) hb3 : Below w.heap.size w W3)
  have o5 : bi < W3.heap.size := lt_of_heap HI.out
  clear hb1 hb2
  have hsx := Go.run_slice_string (P := Tryd.prog) W2 9 s .i64 .i64 (x.a : Int) (x.b : Int) Tryd.underlying9 (by omega) (by omega) (by omega)
  rw [Int.toNat_natCast, Int.toNat_natCast] at hsx
  have d0 := ((bcell hb3).1 b3 0 (by have := Ebi.out; omega)).symm.trans (cell_at HB3.out 0)
  have d1 := ((bcell hb3).1 b3 1 (by have := Ebi.out; omega)).symm.trans (cell_at HB3.out 1)
  have dz : b3 < W2.heap.size := by have := Ebi.out; omega
  simp only [List.getElem?_toArray, List.getElem?_cons_zero, List.getElem?_cons_succ] at d0 d1
  clear hb3
  refine calls_of_wp_marks Tryd.func78 rfl ?_
  simp only [Tryd.ntmps78, List.size_toArray, List.length_cons, List.length_nil, Nat.reduceAdd, Nat.reduceSub, Array.replicate_succ, Array.replicate_zero, List.push_toArray, List.append_toArray, List.nil_append, List.cons_append]
  go_upto_region 2 with fail
  rw [EW1.out, Eb3.out, n5.out, EW2.out]
  go_wp2_with fail
  refine (Items_calls (s.extract x.a x.b) W2).mono ?_
  rintro e W ⟨rfl, rfl⟩
  rw [EW3.out, Ebi.out]
  clear d0 d1 dz hsx
  go_wp2_with fail
  refine range_outer (w0 := W3) (N := (items 0 (s.extract x.a x.b).data.toList).length) (Cap := fun b => b = bi ∨ b = Shelf.lays197_ren.g 3 ∨ b = Shelf.lays197_ren.g 4) (gf := 57) (lb := #[.pointer (some ⟨bi, 0, none⟩)]) (encs := fun k => #[encI ((items 0 (s.extract x.a x.b).data.toList).getD k default)]) rfl (Go.Proofs.enters_of Tryd.func57 (by kernel_rfl) rfl)
    (items_iter W3 bi (s.extract x.a x.b) HI.out (HT.out.below HB.out) (by simp; omega)) (Below.refl _ _) (fun _ => rfl) ?cap
    (fun k S W => (∀ b, S b ↔ b = b5) ∧ Upd (fun b => b = b5) W3 W ∧ W.heap[b5]? = some (.cells #[.int .i64 k] 3 (0, 0)))
    (fun c k S W => False)
    ?ki ?kx (fun b => b = b5) ⟨fun b => Iff.rfl, Upd.refl _ _, HB5.out⟩ ?s0 ?round ?done ?stop
  case cap =>
    have h3 := Tabs.lt3 (HT.out.below HB.out)
    rintro b (rfl | rfl | rfl)
    · exact o5
    · exact h3.1
    · exact h3.2
  case ki =>
    rintro k S A B ⟨hS, hst, hc⟩ hu
    exact ⟨hS, grow hst hu (fun b hb h => by have := h.1; omega), Upd.mem hu hc (fun h => h.2 ((hS _).2 rfl))⟩
  case kx =>
    rintro c k S A B h hu
    exact h
  case s0 =>
    have h3 := Tabs.lt3 HT.out
    rintro b rfl
    exact ⟨by omega, by omega⟩
  case round =>
    rintro l k S A hk ⟨hS, hst, hc⟩ j1 j2 j3 j4 j5 j6
    rw [ext_piece, HN0.out] at hk
    have HSI := Lib.hid hS
    have H6 := Lib.hid j6
    have e1 : IntKind.i64.wrap ((k : Int) + 1) = ((k + 1 : Nat) : Int) := by rw [i64w _ (by omega) (by omega)]; omega
    clear hS hst hc j5 j6
    gi_wp2
    refine ⟨Below.refl _ _, fun A2 hu hz hI2 hr2 => ?_⟩
    obtain ⟨hS2, hst2, hc2⟩ := hI2
    have HC := Lib.hid hc2
    have HST := Lib.hid hst2
    clear hS2 hst2 hc2 hr2 hu
    obtain ⟨A3, hA3⟩ : ∃ z, A2.setCell ⟨b5, 0, none⟩ (.int .i64 ((k : Int) + 1)) = z := ⟨_, rfl⟩
    have hu3 : Upd (fun b => b = b5) A2 A3 := by rw [← hA3]; exact Upd.setCell (S := fun b => b = b5) (p := ⟨b5, 0, none⟩) (Upd.refl _ _) (fun _ => rfl) _
    have hc3 : A3.heap[b5]? = some (.cells #[.int .i64 ((k + 1 : Nat) : Int)] 3 (0, 0)) := by
      rw [← hA3, heap_set HC.out 0 _]
      simp
    have HU3 := Lib.hid hu3
    have HC3 := Lib.hid hc3
    have EA3 := Lib.hid hA3
    clear hu3 hc3 hA3
    have c0 := cell_at HC.out 0
    have cf := free_all HC.out
    have cz := lt_of_heap HC.out
    simp only [List.getElem?_toArray, List.getElem?_cons_zero] at c0
    gi_wp2_with fail
    rw [EA3.out]
    refine ⟨S, ⟨HSI.out, HST.out.trans HU3.out, HC3.out⟩, HU3.out.mono (fun b _ h => .inl ((HSI.out b).2 h)), fun b hb => ⟨.inl hb, ?_⟩⟩
    rw [(HSI.out b).1 hb]
    exact lt_of_heap HC3.out
  case done =>
    rintro S B ⟨hS, hst, hc⟩ hD
    rw [ext_piece, HN0.out] at hc
    have HC := Lib.hid hc
    have HST := Lib.hid hst
    have HDD := Lib.hid hD
    have HB3B := Lib.hid ((hst.block _ (lt_of_heap HB3.out) (by omega)).trans HB3.out)
    clear hS hst hc hD
    have c0 := cell_at HC.out 0
    have cz := lt_of_heap HC.out
    simp only [List.getElem?_toArray, List.getElem?_cons_zero] at c0
    have t2 := cell_at HB3B.out 2
    have tz := lt_of_heap HB3B.out
    simp only [List.getElem?_toArray, List.getElem?_cons_zero, List.getElem?_cons_succ] at t2
    have hv : ∃ v, v = decide (One s.data.toList x) := ⟨_, rfl⟩
    obtain ⟨v, hv⟩ := hv
    by_cases e5 : x.s = 5
    · have e5' : ((x.s : Int) == 5) = true := by simp [e5]
      have HE5 := Lib.hid e5
      clear e5
      by_cases e1 : N = 1
      · have e1' : ((N : Int) == 1) = true := by simp [e1]
        have HV := Lib.hid (show decide (One s.data.toList x) = true from decide_eq_true ⟨HE5.out, by rw [HN0.out]; exact e1⟩)
        clear e1 hv
        go_wp2_with fail
        rw [HV.out]
        refine leaves_marks (v := .bool true) [W3.heap.size] _ (fun d hd => ?_) (by simp) (fun w' hu => ⟨?_, rfl, ?_⟩)
        · rw [List.mem_singleton] at hd
          rw [hd]
          exact HDD.out
        · simp [results, Tryd.results78, go_sem]
        · exact (HB.out.trans (HST.out.below HB.out.size (fun b hb h => by omega))).trans (hu.below (by have := HB.out.size; have := HST.out.size; omega) (fun b hb h => by rw [List.mem_singleton] at h; have := HB.out.size; omega))
      · have e1' : ((N : Int) == 1) = false := by rw [beq_eq_false_iff_ne]; omega
        have HV := Lib.hid (show decide (One s.data.toList x) = false from decide_eq_false (fun h => e1 (by rw [← HN0.out]; exact h.2)))
        clear e1 hv
        go_wp2_with fail
        rw [HV.out]
        refine leaves_marks (v := .bool false) [W3.heap.size] _ (fun d hd => ?_) (by simp) (fun w' hu => ⟨?_, rfl, ?_⟩)
        · rw [List.mem_singleton] at hd
          rw [hd]
          exact HDD.out
        · simp [results, Tryd.results78, go_sem]
        · exact (HB.out.trans (HST.out.below HB.out.size (fun b hb h => by omega))).trans (hu.below (by have := HB.out.size; have := HST.out.size; omega) (fun b hb h => by rw [List.mem_singleton] at h; have := HB.out.size; omega))
    · have e5' : ((x.s : Int) == 5) = false := by rw [beq_eq_false_iff_ne]; omega
      have HV := Lib.hid (show decide (One s.data.toList x) = false from decide_eq_false (fun h => e5 h.1))
      clear e5 hv
      go_wp2_with fail
      rw [HV.out]
      refine leaves_marks (v := .bool false) [W3.heap.size] _ (fun d hd => ?_) (by simp) (fun w' hu => ⟨?_, rfl, ?_⟩)
      · rw [List.mem_singleton] at hd
        rw [hd]
        exact HDD.out
      · simp [results, Tryd.results78, go_sem]
      · exact (HB.out.trans (HST.out.below HB.out.size (fun b hb h => by omega))).trans (hu.below (by have := HB.out.size; have := HST.out.size; omega) (fun b hb h => by rw [List.mem_singleton] at h; have := HB.out.size; omega))
  case stop =>
    rintro c k S B hk h hD
    exact h.elim

/-! ### safe -/
/-- Is the end of pre-token k a place that is handed out? -/
def okAt (T : List UInt8) (S : List Tk) (k : Nat) : Bool := decide ((S.getD k default).b < T.length) && !(decide (0 < k ∧ (S.getD (k - 1) default).s = 5) && decide (One T (S.getD k default)))
/-- The places behind the first pre-tokens. -/
def cutsN (T : List UInt8) (S : List Tk) : Nat → List Nat
  | 0 => []
  | k + 1 => cutsN T S k ++ (if okAt T S k = true then [(S.getD k default).b] else [])
def cuts (D : Dt) (T : List UInt8) : List Nat := cutsN T (toks D 0 T) (toks D 0 T).length
theorem cutsN_pre (T : List UInt8) (S : List Tk) (k : Nat) : ∀ j, ∃ R, cutsN T S (k + j) = cutsN T S k ++ R
  | 0 => ⟨[], by simp⟩
  | j + 1 => by
    obtain ⟨R, h⟩ := cutsN_pre T S k j
    exact ⟨R ++ (if okAt T S (k + j) = true then [(S.getD (k + j) default).b] else []), by rw [← Nat.add_assoc]; show cutsN T S (k + j) ++ _ = _; rw [h, List.append_assoc]⟩
theorem cutsN_at {T : List UInt8} {S : List Tk} {k n : Nat} (hk : k < n) (h : okAt T S k = true) : (cutsN T S k).length < (cutsN T S n).length ∧ (cutsN T S n).getD (cutsN T S k).length 0 = (S.getD k default).b ∧ (cutsN T S (k + 1)).length = (cutsN T S k).length + 1 := by
  obtain ⟨R, hR⟩ := cutsN_pre T S (k + 1) (n - (k + 1))
  rw [show k + 1 + (n - (k + 1)) = n by omega] at hR
  have e : cutsN T S (k + 1) = cutsN T S k ++ [(S.getD k default).b] := by
    show cutsN T S k ++ (if okAt T S k = true then _ else _) = _
    rw [if_pos h]
  rw [e, List.append_assoc] at hR
  refine ⟨by rw [hR]; simp, ?_, by rw [e]; simp⟩
  rw [hR, List.getD_eq_getElem?_getD, List.getElem?_append_right (Nat.le_refl _)]
  simp
theorem cutsN_no {T : List UInt8} {S : List Tk} {k : Nat} (h : okAt T S k = false) : cutsN T S (k + 1) = cutsN T S k := by
  show cutsN T S k ++ (if okAt T S k = true then _ else _) = _
  rw [h]
  simp

theorem safe_new (mb : Nat) (s : ByteArray) (w : World) : Calls Tryd.prog 60 #[.pointer (some ⟨mb, 0, none⟩), .string s] w fun e w' => ∃ bm bs,
    e = .returned (.func (.func 77) #[] #[.pointer (some ⟨bm, 0, none⟩), .pointer (some ⟨bs, 0, none⟩)]) ∧ w'.heap[bm]? = some (.cells #[.pointer (some ⟨mb, 0, none⟩)] 27 (0, 0)) ∧ w'.heap[bs]? = some (.cells #[.string s] 9 (0, 0)) ∧ w.heap.size ≤ bm ∧ bm < bs ∧ Below w.heap.size w w' := by
  have hmf : ∀ (fn : Fn) (first cap : Array Value) (w : World), (Instr.makeFunc fn first cap).run Tryd.prog w = .ok (.func fn first cap) w := fun _ _ _ _ => rfl
  go_enter Tryd.func60, Tryd.ntmps60
  go_wp2
  go_ret
  refine ⟨_, _, rfl, ?_, alloc_new (by simp), Nat.le_refl _, by omega, ((Below.refl _ _).alloc (Nat.le_refl _) _).alloc (by simp) _⟩
  rw [alloc_old (by simp), alloc_new rfl]

theorem round_lift {P : Program} {l : Nat} {f : FuncId} {tmps : Array Value} {assign body : Code} {w : World} {R : Ending → World → Prop} (l' : Nat) (h : RoundIn Fence.wide 0 P l f tmps assign body w R) : RoundIn (Fence.wide.inRound l') 0 P l f tmps assign body w R :=
  ⟨h.1, fun c cs hroom => h.2 c cs hroom⟩

/-- What the iterator keeps. -/
structure Sf (D : Dt) (s : ByteArray) (J : Nat → (Nat → Prop) → World → Prop) (w W W3 : World) (b3 b4 bs l : Nat) (k : Nat) (S S1 : Nat → Prop) (A : World) : Prop where
  ss : ∀ b, S b ↔ S1 b ∨ b = b4
  j : J (cutsN s.data.toList (toks D 0 s.data.toList) k).length S1 A
  c4 : A.heap[b4]? = some (.cells #[.bool (decide (0 < k ∧ ((toks D 0 s.data.toList).getD (k - 1) default).s = 5))] 4 (0, 0))
  c3 : A.heap[b3]? = some (.cells #[.func (.yield l) #[] #[]] 144 (0, 0))
  cs : A.heap[bs]? = some (.cells #[.string s] 9 (0, 0))
  b : Below w.heap.size w A
  lo : ∀ b, S1 b → b < W.heap.size ∨ W3.heap.size < b
  sz : W3.heap.size ≤ A.heap.size

theorem Sf.next {D : Dt} {s : ByteArray} {J : Nat → (Nat → Prop) → World → Prop} {w W W3 A A2 A' B B2 : World} {b3 b4 bm bs l k n : Nat} {S S1 S2 : Nat → Prop} {x : Tk} (h : Sf D s J w W W3 b3 b4 bs l k S S1 A2)
    (hJ : ∀ k S A B, J k S A → Upd (fun b => W.heap.size ≤ b ∧ ¬ S b) A B → J k S B) (hS : ∀ k S A, J k S A → W.heap.size ≤ A.heap.size ∧ ∀ b, S b → b < A.heap.size ∧ ¬ (b < w.heap.size ∨ b = bm ∨ b = bs))
    (hSB : ∀ b, S1 b → b ≠ b3 ∧ b ≠ b4 ∧ b ≠ bs) (hA : A.heap.size ≤ A2.heap.size) (hA' : Below A2.heap.size A2 A') (hu : Upd S1 A' B) (hs : ∀ b, S2 b → S1 b ∨ A'.heap.size ≤ b) (hj : J n S2 B) (hn : (cutsN s.data.toList (toks D 0 s.data.toList) (k + 1)).length = n)
    (hx : (toks D 0 s.data.toList).getD k default = x) (hB : B.setCell ⟨b4, 0, none⟩ (.bool (decide (x.s = 5))) = B2) (l0 : W.heap.size ≤ b3) (l3 : b3 < b4) (l4 : b4 < W3.heap.size) (lw : w.heap.size ≤ W.heap.size) (lA : W3.heap.size < A.heap.size) :
    Sf D s J w W W3 b3 b4 bs l (k + 1) (fun b => S2 b ∨ b = b4) S2 B2 ∧ Upd (fun b => S b ∨ A.heap.size ≤ b) A2 B2 ∧ ∀ b, (S2 b ∨ b = b4) → (S b ∨ A.heap.size ≤ b) ∧ b < B2.heap.size := by
  have z1 := hA'.size
  have z2 := hu.size
  have z3 := h.sz
  have u2 : Upd (fun b => b = b4) B B2 := by rw [← hB]; exact Upd.setCell (S := fun b => b = b4) (p := ⟨b4, 0, none⟩) (Upd.refl _ _) (fun _ => rfl) _
  have z4 := u2.size
  have hn4 : ¬ S1 b4 := fun hh => (hSB b4 hh).2.1 rfl
  have hn3 : ¬ S1 b3 := fun hh => (hSB b3 hh).1 rfl
  have hns : ¬ S1 bs := fun hh => (hSB bs hh).2.2 rfl
  have c4 : B.heap[b4]? = A2.heap[b4]? := (hu.block b4 (by omega) hn4).trans (hA'.block b4 (by omega))
  have c3 : B2.heap[b3]? = A2.heap[b3]? := (u2.block b3 (by omega) (by omega)).trans ((hu.block b3 (by omega) hn3).trans (hA'.block b3 (by omega)))
  have hbs := lt_of_heap h.cs
  have n2 : ∀ b, S2 b → b ≠ b4 := fun b hb e => by
    rcases hs b hb with h1 | h1
    · exact (hSB b h1).2.1 e
    · omega
  have hbn : bs ≠ b4 := fun e => by
    have h1 := h.cs
    rw [e, h.c4] at h1
    simp only [Option.some.injEq, Obj.cells.injEq] at h1
    exact absurd h1.2.1 (by decide)
  have low : ∀ b, S1 b → ¬ b < w.heap.size := fun b hb hh => ((hS _ _ _ h.j).2 b hb).2 (.inl hh)
  refine ⟨⟨fun b => Iff.rfl, ?_, ?_, c3.trans h.c3, ?_, ?_, ?_, by omega⟩, ?_, ?_⟩
  · rw [hn]
    exact hJ _ _ _ _ hj (u2.mono (fun b _ e => ⟨by omega, fun hh => n2 b hh e⟩))
  · rw [← hB, heap_set (c4.trans h.c4) 0 _]
    have e : decide (0 < k + 1 ∧ ((toks D 0 s.data.toList).getD (k + 1 - 1) default).s = 5) = decide (x.s = 5) := by
      rw [Nat.add_sub_cancel, hx]
      by_cases h5 : x.s = 5
      · rw [decide_eq_true h5, decide_eq_true ⟨Nat.succ_pos k, h5⟩]
      · rw [decide_eq_false h5, decide_eq_false (fun hh => h5 hh.2)]
    rw [e]
    rfl
  · rw [u2.block bs (by omega) hbn, hu.block bs (by omega) hns, hA'.block bs hbs]
    exact h.cs
  · exact ((h.b.trans (hA'.mono h.b.size)).trans (hu.below (by have := h.b.size; omega) (fun b hb hh => low b hh hb))).trans (u2.below (by have := h.b.size; omega) (fun b hb e => by omega))
  · intro b hb
    rcases hs b hb with h1 | h1
    · exact h.lo b h1
    · exact .inr (by omega)
  · refine ((Upd.of_below hA').trans (hu.mono (fun b _ hb => .inl ((h.ss b).2 (.inl hb))))).trans (u2.mono (fun b _ e => .inl ((h.ss b).2 (.inr e))))
  · intro b hb
    rcases hb with hb | rfl
    · refine ⟨?_, by have := ((hS _ _ _ hj).2 b hb).1; omega⟩
      rcases hs b hb with h1 | h1
      · exact .inl ((h.ss b).2 (.inl h1))
      · exact .inr (by omega)
    · exact ⟨.inl ((h.ss _).2 (.inr rfl)), by omega⟩

set_option maxHeartbeats 2000000 in
set_option maxRecDepth 100000 in
theorem safe_iter (D : Dt) (mb : Nat) (w w0 : World) (bm bs : Nat) (s : ByteArray) (h : Mod w mb D) (hT : Tabs w) (hw : Below w.heap.size w w0) (hm : w0.heap[bm]? = some (.cells #[.pointer (some ⟨mb, 0, none⟩)] 27 (0, 0))) (hx : w0.heap[bs]? = some (.cells #[.string s] 9 (0, 0))) (hl : s.size ≤ 1048576) :
    Iter Tryd.prog 77 #[.pointer (some ⟨bm, 0, none⟩), .pointer (some ⟨bs, 0, none⟩)] (fun k => #[.int .i64 ((cuts D s.data.toList).getD k 0 : Nat)]) (cuts D s.data.toList).length (fun b => b < w.heap.size ∨ b = bm ∨ b = bs) w0 := by
  intro l J Jx W hW hJ hJx hS hY S0 h0
  have HJ := Lib.hid hJ
  have HJx := Lib.hid hJx
  have HS := Lib.hid hS
  have HY := Lib.hid hY
  have HM := Lib.hid h
  have HT := Lib.hid hT
  have HBW := Lib.hid (chain hw hW)
  have HBM := Lib.hid ((hW.block bm (lt_of_heap hm)).trans hm)
  have HBS := Lib.hid ((hW.block bs (lt_of_heap hx)).trans hx)
  have H0 := Lib.hid h0
  have hsz := size_list s
  have hlink := toks_link D s.data.toList.length s.data.toList 0 (Nat.le_refl _)
  rw [Nat.zero_add] at hlink
  have HLK := Lib.hid hlink
  clear hW hJ hJx hS hY hx hm h hT hw h0 hlink
  obtain ⟨W1, hW1⟩ : ∃ Xz, W.alloc (.cells #[.func (.yield l) #[] #[]] 144) = Xz := ⟨_, rfl⟩
  obtain ⟨b3, hb3⟩ : ∃ xz, W.heap.size = xz := ⟨_, rfl⟩
  have hb1 : Below W.heap.size W W1 := by rw [← hW1]; exact (Below.refl _ _).alloc (Nat.le_refl _) _
  have HB3 := Lib.hid (by rw [← hW1, ← hb3]; exact alloc_new rfl : W1.heap[b3]? = some (.cells #[.func (.yield l) #[] #[]] 144 (0, 0)))
  have EW1 := Lib.hid hW1
  have Eb3 := Lib.hid hb3
  clear hW1 hb3
  obtain ⟨W2, hW2⟩ : ∃ Xz, W1.alloc (.cells #[.bool false] 4) = Xz := ⟨_, rfl⟩
  obtain ⟨b4, hb4⟩ : ∃ xz, W1.heap.size = xz := ⟨_, rfl⟩
  have hb2 : Below W1.heap.size W1 W2 := by rw [← hW2]; exact (Below.refl _ _).alloc (Nat.le_refl _) _
  have HB4 := Lib.hid (by rw [← hW2, ← hb4]; exact alloc_new rfl : W2.heap[b4]? = some (.cells #[.bool false] 4 (0, 0)))
  have EW2 := Lib.hid hW2
  have Eb4 := Lib.hid hb4
  clear hW2 hb4
  have n4 := Lib.hid (show b3 + 1 = b4 from by rw [← Eb4.out, ← EW1.out, ← Eb3.out]; simp)
  have l3 : b3 < b4 := by have := lt_of_heap HB3.out; have := Eb4.out; omega
  have l0 : W.heap.size ≤ b3 := by have := Eb3.out; omega
  have obs : bs < W.heap.size := lt_of_heap HBS.out
  have obm : bm < W.heap.size := lt_of_heap HBM.out
  have HB3 := Lib.hid ((hb2.block _ (lt_of_heap HB3.out)).trans HB3.out)
  have HBM2 := Lib.hid (((chain hb1 hb2).block bm obm).trans HBM.out)
  have HBS2 := Lib.hid (((chain hb1 hb2).block bs obs).trans HBS.out)
  have HB2 := Lib.hid (chain hb1 hb2 : Below W.heap.size W W2)
  clear hb1 hb2
  refine callsIn_wide.2 ?_
  refine calls_of_wp_marks Tryd.func77 rfl ?_
  simp only [Tryd.ntmps77, List.size_toArray, List.length_cons, List.length_nil, Nat.reduceAdd, Nat.reduceSub, Array.replicate_succ, Array.replicate_zero, List.push_toArray, List.append_toArray, List.nil_append, List.cons_append]
  have m0 := cell_at HBM2.out 0
  have mz := lt_of_heap HBM2.out
  simp only [List.getElem?_toArray, List.getElem?_cons_zero] at m0
  have x0 := cell_at HBS2.out 0
  have xz := lt_of_heap HBS2.out
  simp only [List.getElem?_toArray, List.getElem?_cons_zero] at x0
  go_upto_region 2 with fail
  rw [EW1.out, Eb3.out, n4.out, EW2.out]
  go_wp2_with fail
  refine (All_new mb s W2).mono ?_
  rintro e W3 ⟨bm2, bs2, rfl, hbm, hbs, o2, o3, hb3⟩
  have HM2 := Lib.hid hbm
  have HX2 := Lib.hid hbs
  have l9 : b4 < bm2 := Nat.lt_of_lt_of_le (lt_of_heap HB4.out) o2
  have o5 : bs2 < W3.heap.size := lt_of_heap hbs
  have HB3 := Lib.hid ((hb3.block _ (lt_of_heap HB3.out)).trans HB3.out)
  have HB4 := Lib.hid ((hb3.block _ (lt_of_heap HB4.out)).trans HB4.out)
  have HB2 := Lib.hid (chain HB2.out hb3)
  have HBS3 := Lib.hid ((HB2.out.block bs obs).trans HBS.out)
  have HB := Lib.hid (chain HBW.out HB2.out : Below w.heap.size w W3)
  have hs0 := (HS.out 0 S0 W H0.out).2
  have HS0 := Lib.hid hs0
  have hww := HBW.out.size
  clear hbm hbs o2 hb3 m0 mz x0 xz hs0
  go_wp2_with fail
  refine range_outer (w0 := W3) (N := (toks D 0 s.data.toList).length) (Cap := fun b => b < w.heap.size ∨ b = bm2 ∨ b = bs2) (gf := 72) (lb := #[.pointer (some ⟨bm2, 0, none⟩), .pointer (some ⟨bs2, 0, none⟩)]) (encs := fun k => #[encT ((toks D 0 s.data.toList).getD k default)]) rfl (Go.Proofs.enters_of Tryd.func72 (by kernel_rfl) rfl)
    (all_iter D mb w W3 bm2 bs2 s HM.out HT.out HB.out HM2.out HX2.out hl) (Below.refl _ _) (fun _ => rfl) ?cap
    (fun k S A => ∃ S1, Sf D s J w W W3 b3 b4 bs l k S S1 A)
    (fun c k S A => c = .ret ∧ ∃ A0 S1 k', k' < (cuts D s.data.toList).length ∧ Jx k' S1 A0 ∧ Upd (fun b => W.heap.size ≤ b ∧ ¬ S1 b) A0 A ∧ (∀ b, S1 b → b < A0.heap.size → S b) ∧ (∀ b, S1 b → b < W.heap.size ∨ W3.heap.size < b))
    ?ki ?kx (fun b => S0 b ∨ b = b4) ⟨S0, fun b => Iff.rfl, HJ.out 0 S0 W W3 H0.out (Upd.of_below HB2.out), HB4.out, HB3.out, HBS3.out, HB.out, fun b hb => .inl (HS0.out b hb).1, Nat.le_refl _⟩ ?s0 ?round ?done ?stop
  case cap =>
    have := HB.out.size
    rintro b (h | rfl | rfl) <;> omega
  case ki =>
    rintro k S A B ⟨S1, hst⟩ hu
    have hbl := lt_of_heap HB4.out
    exact ⟨S1, hst.ss, HJ.out _ _ _ _ hst.j (hu.mono (fun b _ hb => ⟨by have := hb.1; omega, fun h => hb.2 ((hst.ss b).2 (.inl h))⟩)), Upd.mem hu hst.c4 (fun h => h.2 ((hst.ss _).2 (.inr rfl))), Upd.mem hu hst.c3 (fun h => by have := h.1; omega), Upd.mem hu hst.cs (fun h => by have := h.1; omega),
      hst.b.trans (hu.below hst.b.size (fun b hb h => by have := h.1; omega)), hst.lo, Nat.le_trans hst.sz hu.size⟩
  case kx =>
    rintro c k S A B ⟨rfl, A0, S1, k', hk', hj, hu0, hs, hlo⟩ hu
    exact ⟨rfl, A0, S1, k', hk', hj, grow hu0 hu (fun b hb hx => ⟨by have := hx.1; omega, fun h => hx.2 (hs b h hb)⟩), hs, hlo⟩
  case s0 =>
    have hbl := lt_of_heap HB4.out
    rintro b (h | rfl)
    · obtain ⟨q1, q2⟩ := HS0.out b h
      refine ⟨by omega, ?_⟩
      rintro (h3 | rfl | rfl)
      · exact q2 (.inl h3)
      · omega
      · omega
    · refine ⟨hbl, ?_⟩
      rintro (h3 | rfl | rfl) <;> omega
  case round =>
    rintro l' k S A hk ⟨S1, hst⟩ j1 j2 j3 j4 j5 j6
    obtain ⟨x, hx⟩ : ∃ x, (toks D 0 s.data.toList).getD k default = x := ⟨_, rfl⟩
    have hxm : x ∈ toks D 0 s.data.toList := by rw [← hx, List.getD_eq_getElem?_getD, List.getElem?_eq_getElem hk]; exact List.getElem_mem hk
    obtain ⟨t1, t2, t3⟩ := EncCount.Link.mem HLK.out x hxm
    rw [hx]
    obtain ⟨ev, hev⟩ : ∃ z, encT x = z := ⟨_, rfl⟩
    have HEV := Lib.hid hev
    unfold encT
    obtain ⟨A1, hA1⟩ : ∃ Xz, A.alloc (.cells #[.int .i64 x.a, .int .i64 x.b, .int .i64 x.s] 50) = Xz := ⟨_, rfl⟩
    obtain ⟨bt, hbt⟩ : ∃ xz, A.heap.size = xz := ⟨_, rfl⟩
    have hbA : Below A.heap.size A A1 := by rw [← hA1]; exact (Below.refl _ _).alloc (Nat.le_refl _) _
    have HV := Lib.hid (by rw [← hA1, ← hbt]; exact alloc_new rfl : A1.heap[bt]? = some (.cells #[.int .i64 x.a, .int .i64 x.b, .int .i64 x.s] 50 (0, 0)))
    have EA1 := Lib.hid hA1
    have Ebt := Lib.hid hbt
    clear hA1 hbt
    have HX0 := Lib.hid hx
    have H6 := Lib.hid j6
    have oA0 := hst.sz
    clear hx hst j5 j6 hxm hev
    gi_wp2
    rw [EA1.out, Ebt.out]
    rw [Ebt.out] at hbA
    refine ⟨hbA, fun A2 hu hz hI2 hr2 => ?_⟩
    obtain ⟨S1, hst⟩ := hI2
    have HST := Lib.hid hst
    have HVV := Lib.hid (Upd.mem hu HV.out (by have := Ebt.out; omega))
    have oA : A.heap.size = bt := Ebt.out
    have obt : bt < A2.heap.size := lt_of_heap HVV.out
    have HSB := Lib.hid (show ∀ b, S1 b → b < bt ∧ b ≠ b3 ∧ b ≠ b4 ∧ b ≠ bs from fun b hb => by
      have q1 := (H6.out b ((hst.ss b).2 (.inl hb))).1
      have q2 := hst.lo b hb
      have q3 := lt_of_heap HB4.out
      have q4 := (HS.out _ _ _ hst.j).2 b hb
      refine ⟨by omega, by omega, by omega, fun e => q4.2 (.inr (.inr e))⟩)
    have HC4 := Lib.hid hst.c4
    have HCS := Lib.hid hst.cs
    have HC3 := Lib.hid hst.c3
    obtain ⟨bl, hbl⟩ : ∃ z, decide (0 < k ∧ ((toks D 0 s.data.toList).getD (k - 1) default).s = 5) = z := ⟨_, rfl⟩
    rw [hbl] at HC4
    have hok : okAt s.data.toList (toks D 0 s.data.toList) k = (decide (x.b < s.size) && !(bl && decide (One s.data.toList x))) := by
      unfold okAt
      rw [HX0.out, hbl, hsz]
    have HOK := Lib.hid hok
    have HBL := Lib.hid hbl
    have HTA := Lib.hid (HT.out.below hst.b)
    have e5 : (((x.s : Nat) : Int) == 5) = decide (x.s = 5) := by
      by_cases h : x.s = 5
      · simp [h]
      · have h1 : ((x.s : Int) == 5) = false := by rw [beq_eq_false_iff_ne]; omega
        rw [h1, decide_eq_false h]
    clear hst hr2 hu hz hbA hok hbl
    by_cases hlt : x.b < s.size
    · have hlt' : (x.b : Int) < s.size := by omega
      cases bl with
      | false =>
        have HOK2 := Lib.hid (show okAt s.data.toList (toks D 0 s.data.toList) k = true from by rw [HOK.out, decide_eq_true hlt]; rfl)
        clear HOK
        have v0 := cell_at HVV.out 0
        have v1 := cell_at HVV.out 1
        have v2 := cell_at HVV.out 2
        have vz := lt_of_heap HVV.out
        simp only [List.getElem?_toArray, List.getElem?_cons_zero, List.getElem?_cons_succ] at v0 v1 v2
        have c0 := cell_at HC4.out 0
        have cz := lt_of_heap HC4.out
        simp only [List.getElem?_toArray, List.getElem?_cons_zero] at c0
        have d0 := cell_at HC3.out 0
        have dz := lt_of_heap HC3.out
        simp only [List.getElem?_toArray, List.getElem?_cons_zero] at d0
        have y0 := cell_at HCS.out 0
        have yz := lt_of_heap HCS.out
        simp only [List.getElem?_toArray, List.getElem?_cons_zero] at y0
        obtain ⟨q1, q2, q3⟩ := cutsN_at hk HOK2.out
        obtain ⟨fn, tmps, assign, body, hy, hrd⟩ := HY.out (cutsN s.data.toList (toks D 0 s.data.toList) k).length S1 A2 q1 HST.out.j
        rw [show cuts D s.data.toList = cutsN s.data.toList (toks D 0 s.data.toList) (toks D 0 s.data.toList).length from rfl, q2, HX0.out] at hy
        have HRD := Lib.hid (round_lift l' hrd)
        have Q3 := Lib.hid q3
        have Q1 := Lib.hid q1
        clear hrd q1 q2 q3
        gi_wp2_with fail
        try ((first | refine ⟨trivial, ?_⟩ | refine ⟨fun f hf => (by cases hf), ?_⟩); (first | (rename_i h1; refine h1 _ _ ?_; clear h1) | (rename_i h1 _; refine h1 _ _ ?_; clear h1) | (rename_i h1 _ _; refine h1 _ _ ?_; clear h1) | (rename_i h1 _ _ _; refine h1 _ _ ?_; clear h1) | (rename_i h1 _ _ _ _; refine h1 _ _ ?_; clear h1)); gi_wp2_with fail)
        refine ⟨rfl, HRD.out.mono ?_⟩
        rintro e B (⟨rfl, S2, hj, hu2, hs2⟩ | ⟨rfl, S2, hj, hu2, hs2⟩)
        · have hzz := hu2.size
          have HVB := Lib.hid ((hu2.block bt (lt_of_heap HVV.out) (fun h => by have := HSB.out bt h; omega)).trans HVV.out)
          have HC4B := Lib.hid ((hu2.block b4 (lt_of_heap HC4.out) (fun h => by have := HSB.out b4 h; omega)).trans HC4.out)
          obtain ⟨B2, hB2⟩ : ∃ z, B.setCell ⟨b4, 0, none⟩ (.bool (decide (x.s = 5))) = z := ⟨_, rfl⟩
          have HN := Lib.hid (HST.out.next (bm := bm) (A := A) HJ.out HS.out (fun b hb => (HSB.out b hb).2) (by omega) (Below.refl _ _) hu2 hs2 hj Q3.out HX0.out hB2 l0 l3 (lt_of_heap HB4.out) hww j1)
          clear hj hu2 hs2 HRD hy v0 v1 v2 vz c0 cz d0 dz y0 yz
          have EB2 := Lib.hid hB2
          clear hB2
          have v2 := cell_at HVB.out 2
          have vz := lt_of_heap HVB.out
          simp only [List.getElem?_toArray, List.getElem?_cons_zero, List.getElem?_cons_succ] at v2
          have c0 := cell_at HC4B.out 0
          have cf := free_all HC4B.out
          have cz := lt_of_heap HC4B.out
          simp only [List.getElem?_toArray, List.getElem?_cons_zero] at c0
          gi_wp2_with fail
          rw [EB2.out]
          exact ⟨_, ⟨S2, HN.out.1⟩, HN.out.2.1, HN.out.2.2⟩
        · have HJX := Lib.hid hj
          have HU2 := Lib.hid hu2
          have HS2 := Lib.hid hs2
          clear hj hu2 hs2 HRD hy v0 v1 v2 vz c0 cz d0 dz y0 yz
          gi_wp2_with fail
          have hA' : Below A2.heap.size A2 _ := (Below.refl _ _)
          have hz1 := hA'.size
          have hz2 := HU2.out.size
          have hl4 := lt_of_heap HB4.out
          have hq1 := Q1.out
          refine ⟨fun b => (S2 b ∧ b < B.heap.size) ∨ b = b4, ⟨rfl, B, S2, _, hq1, HJX.out, Upd.refl _ _, fun b h1 h2 => .inl ⟨h1, h2⟩, fun b hb => ?_⟩, ?_, fun b hb => ?_⟩
          · rcases HS2.out b hb with h1 | h1
            · exact HST.out.lo b h1
            · have := HST.out.sz; exact .inr (by omega)
          · exact (Upd.of_below hA').trans (HU2.out.mono (fun b _ hb => .inl ((HST.out.ss b).2 (.inl hb))))
          · rcases hb with ⟨hb, hb2⟩ | rfl
            · refine ⟨?_, hb2⟩
              rcases HS2.out b hb with h1 | h1
              · exact .inl ((HST.out.ss b).2 (.inl h1))
              · exact .inr (by omega)
            · have := HST.out.sz
              exact ⟨.inl ((HST.out.ss _).2 (.inr rfl)), by omega⟩
      | true =>
        have HSC := Lib.hid (single_calls s x A2 HTA.out (by omega) (by omega) hl)
        rw [HEV.out] at HSC
        unfold encT at HEV
        rw [← HEV.out] at HSC
        have v0 := cell_at HVV.out 0
        have v1 := cell_at HVV.out 1
        have v2 := cell_at HVV.out 2
        have vz := lt_of_heap HVV.out
        simp only [List.getElem?_toArray, List.getElem?_cons_zero, List.getElem?_cons_succ] at v0 v1 v2
        have c0 := cell_at HC4.out 0
        have cz := lt_of_heap HC4.out
        simp only [List.getElem?_toArray, List.getElem?_cons_zero] at c0
        have y0 := cell_at HCS.out 0
        have yz := lt_of_heap HCS.out
        simp only [List.getElem?_toArray, List.getElem?_cons_zero] at y0
        gi_wp2_with fail
        refine ⟨trivial, rfl, (CallsIn.inRound l' (callsIn_wide.2 HSC.out)).mono ?_⟩
        rintro e A3 ⟨rfl, hb3⟩
        have HV3 := Lib.hid ((hb3.block _ (lt_of_heap HVV.out)).trans HVV.out)
        have HC43 := Lib.hid ((hb3.block _ (lt_of_heap HC4.out)).trans HC4.out)
        have HC33 := Lib.hid ((hb3.block _ (lt_of_heap HC3.out)).trans HC3.out)
        have HB33 := Lib.hid hb3
        have HJ3 := Lib.hid (HJ.out _ _ _ _ HST.out.j (Upd.of_below hb3))
        clear hb3 HSC v0 v1 v2 vz c0 cz y0 yz
        by_cases ho : One s.data.toList x
        · have ho' : decide (One s.data.toList x) = true := decide_eq_true ho
          have HNO := Lib.hid (show okAt s.data.toList (toks D 0 s.data.toList) k = false from by rw [HOK.out, ho']; simp)
          rw [ho']
          clear ho ho' HOK
          obtain ⟨B2, hB2⟩ : ∃ z, A3.setCell ⟨b4, 0, none⟩ (.bool (decide (x.s = 5))) = z := ⟨_, rfl⟩
          have HN := Lib.hid (HST.out.next (bm := bm) (A := A) HJ.out HS.out (fun b hb => (HSB.out b hb).2) (by omega) HB33.out (Upd.refl _ _) (fun b hb => .inl hb) HJ3.out (by rw [cutsN_no HNO.out]) HX0.out hB2 l0 l3 (lt_of_heap HB4.out) hww j1)
          have EB2 := Lib.hid hB2
          clear hB2
          have v2 := cell_at HV3.out 2
          have vz := lt_of_heap HV3.out
          simp only [List.getElem?_toArray, List.getElem?_cons_zero, List.getElem?_cons_succ] at v2
          have c0 := cell_at HC43.out 0
          have cf := free_all HC43.out
          have cz := lt_of_heap HC43.out
          simp only [List.getElem?_toArray, List.getElem?_cons_zero] at c0
          gi_wp2_with fail
          try ((first | refine ⟨trivial, ?_⟩ | refine ⟨fun f hf => (by cases hf), ?_⟩); (first | (rename_i h1; refine h1 _ _ ?_; clear h1) | (rename_i h1 _; refine h1 _ _ ?_; clear h1) | (rename_i h1 _ _; refine h1 _ _ ?_; clear h1) | (rename_i h1 _ _ _; refine h1 _ _ ?_; clear h1) | (rename_i h1 _ _ _ _; refine h1 _ _ ?_; clear h1)); gi_wp2_with fail)
          rw [EB2.out]
          exact ⟨_, ⟨S1, HN.out.1⟩, HN.out.2.1, HN.out.2.2⟩
        · have ho' : decide (One s.data.toList x) = false := decide_eq_false ho
          have HOK2 := Lib.hid (show okAt s.data.toList (toks D 0 s.data.toList) k = true from by rw [HOK.out, decide_eq_true hlt, ho']; rfl)
          rw [ho']
          clear ho ho' HOK
          have v0 := cell_at HV3.out 0
          have v1 := cell_at HV3.out 1
          have v2 := cell_at HV3.out 2
          have vz := lt_of_heap HV3.out
          simp only [List.getElem?_toArray, List.getElem?_cons_zero, List.getElem?_cons_succ] at v0 v1 v2
          have d0 := cell_at HC33.out 0
          have dz := lt_of_heap HC33.out
          simp only [List.getElem?_toArray, List.getElem?_cons_zero] at d0
          obtain ⟨q1, q2, q3⟩ := cutsN_at hk HOK2.out
          obtain ⟨fn, tmps, assign, body, hy, hrd⟩ := HY.out (cutsN s.data.toList (toks D 0 s.data.toList) k).length S1 A3 q1 HJ3.out
          rw [show cuts D s.data.toList = cutsN s.data.toList (toks D 0 s.data.toList) (toks D 0 s.data.toList).length from rfl, q2, HX0.out] at hy
          have HRD := Lib.hid (round_lift l' hrd)
          have Q3 := Lib.hid q3
          have Q1 := Lib.hid q1
          clear hrd q1 q2 q3
          gi_wp2_with fail
          try ((first | refine ⟨trivial, ?_⟩ | refine ⟨fun f hf => (by cases hf), ?_⟩); (first | (rename_i h1; refine h1 _ _ ?_; clear h1) | (rename_i h1 _; refine h1 _ _ ?_; clear h1) | (rename_i h1 _ _; refine h1 _ _ ?_; clear h1) | (rename_i h1 _ _ _; refine h1 _ _ ?_; clear h1) | (rename_i h1 _ _ _ _; refine h1 _ _ ?_; clear h1)); gi_wp2_with fail)
          refine ⟨rfl, HRD.out.mono ?_⟩
          rintro e B (⟨rfl, S2, hj, hu2, hs2⟩ | ⟨rfl, S2, hj, hu2, hs2⟩)
          · have hzz := hu2.size
            have HVB := Lib.hid ((hu2.block bt (lt_of_heap HV3.out) (fun h => by have := HSB.out bt h; omega)).trans HV3.out)
            have HC4B := Lib.hid ((hu2.block b4 (lt_of_heap HC43.out) (fun h => by have := HSB.out b4 h; omega)).trans HC43.out)
            obtain ⟨B2, hB2⟩ : ∃ z, B.setCell ⟨b4, 0, none⟩ (.bool (decide (x.s = 5))) = z := ⟨_, rfl⟩
            have HN := Lib.hid (HST.out.next (bm := bm) (A := A) HJ.out HS.out (fun b hb => (HSB.out b hb).2) (by omega) HB33.out hu2 hs2 hj Q3.out HX0.out hB2 l0 l3 (lt_of_heap HB4.out) hww j1)
            clear hj hu2 hs2 HRD hy v0 v1 v2 vz d0 dz
            have EB2 := Lib.hid hB2
            clear hB2
            have v2 := cell_at HVB.out 2
            have vz := lt_of_heap HVB.out
            simp only [List.getElem?_toArray, List.getElem?_cons_zero, List.getElem?_cons_succ] at v2
            have c0 := cell_at HC4B.out 0
            have cf := free_all HC4B.out
            have cz := lt_of_heap HC4B.out
            simp only [List.getElem?_toArray, List.getElem?_cons_zero] at c0
            gi_wp2_with fail
            rw [EB2.out]
            exact ⟨_, ⟨S2, HN.out.1⟩, HN.out.2.1, HN.out.2.2⟩
          · have HJX := Lib.hid hj
            have HU2 := Lib.hid hu2
            have HS2 := Lib.hid hs2
            clear hj hu2 hs2 HRD hy v0 v1 v2 vz d0 dz
            gi_wp2_with fail
            have hA' : Below A2.heap.size A2 _ := HB33.out
            have hz1 := hA'.size
            have hz2 := HU2.out.size
            have hl4 := lt_of_heap HB4.out
            have hq1 := Q1.out
            refine ⟨fun b => (S2 b ∧ b < B.heap.size) ∨ b = b4, ⟨rfl, B, S2, _, hq1, HJX.out, Upd.refl _ _, fun b h1 h2 => .inl ⟨h1, h2⟩, fun b hb => ?_⟩, ?_, fun b hb => ?_⟩
            · rcases HS2.out b hb with h1 | h1
              · exact HST.out.lo b h1
              · have := HST.out.sz; exact .inr (by omega)
            · exact (Upd.of_below hA').trans (HU2.out.mono (fun b _ hb => .inl ((HST.out.ss b).2 (.inl hb))))
            · rcases hb with ⟨hb, hb2⟩ | rfl
              · refine ⟨?_, hb2⟩
                rcases HS2.out b hb with h1 | h1
                · exact .inl ((HST.out.ss b).2 (.inl h1))
                · exact .inr (by omega)
              · have := HST.out.sz
                exact ⟨.inl ((HST.out.ss _).2 (.inr rfl)), by omega⟩
    · have hlt' : ¬ (x.b : Int) < s.size := by omega
      have hd1 : decide (x.b < s.size) = false := decide_eq_false hlt
      have hd2 : decide ((x.b : Int) < s.size) = false := decide_eq_false hlt'
      have HNO := Lib.hid (show okAt s.data.toList (toks D 0 s.data.toList) k = false from by rw [HOK.out, decide_eq_false hlt]; rfl)
      clear HOK
      obtain ⟨B2, hB2⟩ : ∃ z, A2.setCell ⟨b4, 0, none⟩ (.bool (decide (x.s = 5))) = z := ⟨_, rfl⟩
      have HN := Lib.hid (HST.out.next (bm := bm) (A := A) HJ.out HS.out (fun b hb => (HSB.out b hb).2) (by omega) (Below.refl _ _) (Upd.refl _ _) (fun b hb => .inl hb) HST.out.j (by rw [cutsN_no HNO.out]) HX0.out hB2 l0 l3 (lt_of_heap HB4.out) hww j1)
      have EB2 := Lib.hid hB2
      clear hB2
      have v0 := cell_at HVV.out 0
      have v1 := cell_at HVV.out 1
      have v2 := cell_at HVV.out 2
      have vz := lt_of_heap HVV.out
      simp only [List.getElem?_toArray, List.getElem?_cons_zero, List.getElem?_cons_succ] at v0 v1 v2
      have c0 := cell_at HC4.out 0
      have cf := free_all HC4.out
      have cz := lt_of_heap HC4.out
      simp only [List.getElem?_toArray, List.getElem?_cons_zero] at c0
      have y0 := cell_at HCS.out 0
      have yz := lt_of_heap HCS.out
      simp only [List.getElem?_toArray, List.getElem?_cons_zero] at y0
      gi_wp2_with fail
      all_goals try (rename_i hq _; exact absurd hq (by simp [undef]))
      try ((first | refine ⟨trivial, ?_⟩ | refine ⟨fun f hf => (by cases hf), ?_⟩); (first | (rename_i h1; refine h1 _ _ ?_; clear h1) | (rename_i h1 _; refine h1 _ _ ?_; clear h1) | (rename_i h1 _ _; refine h1 _ _ ?_; clear h1) | (rename_i h1 _ _ _; refine h1 _ _ ?_; clear h1) | (rename_i h1 _ _ _ _; refine h1 _ _ ?_; clear h1)); gi_wp2_with fail)
      try ((first | refine ⟨trivial, ?_⟩ | refine ⟨fun f hf => (by cases hf), ?_⟩); (first | (rename_i h1; refine h1 _ _ ?_; clear h1) | (rename_i h1 _; refine h1 _ _ ?_; clear h1) | (rename_i h1 _ _; refine h1 _ _ ?_; clear h1) | (rename_i h1 _ _ _; refine h1 _ _ ?_; clear h1) | (rename_i h1 _ _ _ _; refine h1 _ _ ?_; clear h1)); gi_wp2_with fail)
      rw [EB2.out]
      exact ⟨_, ⟨S1, HN.out.1⟩, HN.out.2.1, HN.out.2.2⟩
  case done =>
    rintro S B ⟨S1, hst⟩ hD
    have HST := Lib.hid hst
    have HDD := Lib.hid hD
    clear hst hD
    go_wp2_with fail
    refine leaves_marks (v := .tuple #[]) [W3.heap.size] _ (fun d hd => ?_) (by simp) (fun w' hu => ⟨?_, ⟨_, rfl⟩, .inl ⟨S1, ?_⟩⟩)
    · rw [List.mem_singleton] at hd
      rw [hd]
      exact HDD.out
    · simp [results, Tryd.results77, go_sem]
    · refine HJ.out _ _ _ _ HST.out.j (hu.mono (fun b _ hb => ?_))
      rw [List.mem_singleton] at hb
      refine ⟨by omega, fun h => ?_⟩
      have := HST.out.lo b h
      have := lt_of_heap HB4.out
      omega
  case stop =>
    rintro c k S B hk ⟨rfl, A0, S1, k', hk', hj, hu0, hs, hlo⟩ hD
    have HJ' := Lib.hid hj
    have HDD := Lib.hid hD
    have HU0 := Lib.hid hu0
    clear hj hD hu0
    go_wp2_with fail
    refine leaves_marks (v := .tuple #[]) [W3.heap.size] _ (fun d hd => ?_) (by simp) (fun w' hu => ⟨?_, ⟨_, rfl⟩, .inr ⟨k', S1, hk', ?_⟩⟩)
    · rw [List.mem_singleton] at hd
      rw [hd]
      exact HDD.out
    · simp [results, Tryd.results77, go_sem]
    · refine HJx.out _ _ _ _ HJ'.out (grow HU0.out hu (fun b _ hb => ?_))
      rw [List.mem_singleton] at hb
      refine ⟨by omega, fun h => ?_⟩
      have := hlo b h
      have := lt_of_heap HB4.out
      omega
end Go.Proofs.YtkjkgpdfhmoenaaDoor.PlSafe
