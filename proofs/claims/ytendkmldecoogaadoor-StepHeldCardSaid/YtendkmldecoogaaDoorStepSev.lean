/-
  step.Cutter: items are taken. step.Cutter: New, Put, End, Held, Over, At. step.Cutter: New, End, Held, Over, At.
-/
import Derived.Test.YtendkmldecoogaaDoorStepGo
import Derived.Test.YtendkmldecoogaaDoorCutRun
namespace Go.Proofs.YtendkmldecoogaaDoor.StepGo
open Go Go.RowKit Go.Proofs.YtendkmldecoogaaDoor Go.Proofs.YtendkmldecoogaaDoor.Kit Go.Proofs.YtendkmldecoogaaDoor.Round Go.Proofs.YtendkmldecoogaaDoor.Seg Go.Proofs.YtendkmldecoogaaDoor.Collect Go.Proofs.YtendkmldecoogaaDoor.Utf Go.Proofs.YtendkmldecoogaaDoor.It Go.Proofs.YtendkmldecoogaaDoor.ItGo Go.Proofs.YtendkmldecoogaaDoor.Ref2c Go.Proofs.YtendkmldecoogaaDoor.Dt Go.Proofs.YtendkmldecoogaaDoor.Cu Go.Proofs.YtendkmldecoogaaDoor.CutRun Go.Proofs.YtendkmldecoogaaDoor.CutTokens Go.Proofs.YtendkmldecoogaaDoor.StepLaw Go.Proofs.YtendkmldecoogaaDoor.Scan
attribute [local irreducible] wpQuiet wpStill
set_option linter.unusedSimpArgs false

variable {W W' : World} {base cb tb sb most : Nat} {en : Bool} {at' : Nat} {S S' : Sx} {D : Dt}

/-- Items not taken yet, and what the state is behind the others. -/
structure Fd (D : Dt) (most K : Nat) (F : Sx) (S : Sx) (X : List It) : Prop where
  feed : StepLaw.feed most S (X.map (ixOf D)) = F
  over : S.over = false
  inv : ∃ P, Inv D P S ∧ Cont S.told (P ++ X)
  bc : Bc K S
  wf : ∀ x, x ∈ X → WfI D x ∧ x.bytes ≤ 4
theorem Fd.next {K : Nat} {F : Sx} {x : It} {X : List It} (hm : 1 ≤ most) (h : Fd D most K F S (x :: X)) :
    let S1 := oneF most S (ixOf D x)
    Bc (K + 54) S1 ∧ (S1.over = true → F = S1) ∧ (S1.over = false → (most < sure S1 → F = { S1 with over := true }) ∧ (¬ most < sure S1 → Fd D most (K + 54) F S1 X)) := by
  obtain ⟨hf, ho, ⟨P, hI, hc⟩, hb, hw⟩ := h
  have hx := hw x (List.mem_cons_self ..)
  have hl4 : S.letter.n ≤ 4 := by
    rcases (Inv.ready hI).2 with h | h
    · rw [h]; exact Nat.zero_le _
    · exact h.2.1
  have hbc := oneF_bc (most := most) hb (x := ixOf D x) hx.2 hl4
  have hc1 : Cont S.told (P ++ [x]) := fun i hi => by
    have hi' : i < (P ++ x :: X).length := by simp at hi ⊢; omega
    have h1 := hc i hi'
    have e : P ++ x :: X = (P ++ [x]) ++ X := by simp
    rw [e, get_app hi, List.take_append_of_le_length (by omega)] at h1
    exact h1
  have hr := oneF_res hm hI ho hx.1 hc1
  rw [List.map_cons] at hf
  unfold StepLaw.feed at hf
  obtain ⟨S1, hS1⟩ : ∃ S1, oneF most S (ixOf D x) = S1 := ⟨_, rfl⟩
  rw [hS1] at hf hbc hr ⊢
  refine ⟨hbc, fun h1 => ?_, fun h1 => ⟨fun h2 => ?_, fun h2 => ?_⟩⟩
  · have h3 : (S1.over || decide (most < sure S1)) = S1.over := by rw [h1]; rfl
    simp only [h3, h1, if_true] at hf
    have e : ({ S1 with over := true } : Sx) = S1 := by rw [← h1]
    exact hf.symm.trans e
  · simp only [h1, h2, decide_true, Bool.or_true, if_true] at hf
    exact hf.symm
  · have h3 : (S1.over || decide (most < sure S1)) = S1.over := by rw [decide_eq_false h2, Bool.or_false]
    have e : ({ S1 with over := S1.over || decide (most < sure S1) } : Sx) = S1 := by rw [h3]
    simp only [e] at hf
    have hno : ¬ (S1.over || decide (most < sure S1)) = true := by rw [h3, h1]; simp
    rw [if_neg hno] at hf
    rcases hr with ⟨r1, r2, r3, r4, r5⟩ | ⟨_, r2, _⟩
    · refine ⟨hf, h1, ⟨_, r5, ?_⟩, hbc, fun y hy => hw y (List.mem_cons_of_mem _ hy)⟩
      have hle := ofI_le (D := D) false _ (P ++ [x]) (Nat.le_refl _)
      have hcd := hc.drop (ofI D (P ++ [x]) false).2
      have e2 : P ++ x :: X = (P ++ [x]) ++ X := by simp
      rw [e2, List.drop_append_of_le_length hle, List.take_append_of_le_length hle] at hcd
      rw [r4]
      exact hcd
    · rw [h1] at r2; cases r2

theorem St.fin2 {V : World} {v : Value} {cs : Array Value} {en' : Bool} {at2 : Nat} (h : St V base cb tb sb most en at' S) (hu0 : Upd (Mine W base cb) W V) (hc : V.heap[cb]? = some (.cells cs 149 (0, 0))) (hr : TRow V base v S'.out) (hu : Upd (fun b => b = cb) V W')
    (hh : W'.heap[cb]? = some (.cells (cellsC cb tb sb most v en' at2 S') 149 (0, 0))) : St W' base cb tb sb most en' at2 S' ∧ Upd (Mine W base cb) W W' :=
  have h1 := St.fin h (Upd.refl _ _) hc hr hu hh
  ⟨h1.1, Mine.trans hu0 h1.2⟩
theorem St.box {bt : Nat} {cs : Array Value} {fr : Nat × Nat} (h : St W base cb tb sb most en at' S) (hu : Upd (fun b => b = bt) W W') (hb : W.heap[bt]? = some (.cells cs 147 fr)) (hn : bt ≠ cb) : St W' base cb tb sb most en at' S := by
  obtain ⟨v, h1, h2⟩ := h.cell
  exact ⟨⟨v, Upd.mem hu h1 (fun e => hn e.symm), Seg.upd h2 hu (fun k hk hh => by rw [hh] at hk; exact no_own h2 hb (by decide) hk)⟩, h.lo, Nat.le_trans h.hi hu.size⟩

theorem ix_c (D : Dt) {x : It} (h : x.bytes = 1) (hb : x.bad = false) : (ixOf D x).c = x.rune := by unfold ixOf; rw [if_pos ⟨h, hb⟩]
theorem ix_z (D : Dt) {x : It} (h : ¬ (x.bytes = 1 ∧ x.bad = false)) : (ixOf D x).c = 0 := by unfold ixOf; rw [if_neg h]
theorem ix_lt {x : It} (h : WfI D x) : (ixOf D x).c < 256 := by
  by_cases hh : x.bytes = 1 ∧ x.bad = false
  · rw [ix_c D hh.1 hh.2]
    have := (h.ascii hh.2).2 hh.1
    omega
  · rw [ix_z D hh]; decide

theorem ISeg.cells {w : World} {b : Nat} {a : Option Addr} {cap : Nat} {X : List It} (h : ISeg w b (.slice a X.length cap) X) (hX : 0 < X.length) : ∃ g o, a = some ⟨g, o, none⟩ ∧ g < w.heap.size ∧ (∃ cs, w.heap[g]? = some (.cells cs 58 (0, 0))) ∧ ∀ j, j < X.length →
    w.cell? ⟨g, o + j * 4, none⟩ = some (.int .i64 (X.getD j default).from') ∧ w.cell? ⟨g, o + j * 4 + 1, none⟩ = some (.int .i64 (X.getD j default).bytes) ∧ w.cell? ⟨g, o + j * 4 + 2, none⟩ = some (.int .i32 (X.getD j default).rune) ∧ w.cell? ⟨g, o + j * 4 + 3, none⟩ = some (.bool (X.getD j default).bad) := by
  obtain ⟨g, o, rfl, _, hg, hc⟩ := Seg.cells h hX
  obtain ⟨cs, hcs⟩ := seg_block h (b := g) rfl
  refine ⟨g, o, rfl, hg, ⟨cs, hcs⟩, fun j hj => ?_⟩
  have hf := flatI_at hj
  exact ⟨hc _ _ hf.1, by rw [Nat.add_assoc]; exact hc _ _ hf.2.1, by rw [Nat.add_assoc]; exact hc _ _ hf.2.2.1, by rw [Nat.add_assoc]; exact hc _ _ hf.2.2.2⟩


set_option maxHeartbeats 4000000 in
set_option maxRecDepth 100000 in
theorem items_calls (w0 : World) (X : List It) (v : Value) (b0 K : Nat) (F : Sx) (W : World) (h : St W base cb tb sb most en at' S) (hT : TabOk w0 D tb) (hw0 : Below w0.heap.size w0 W) (hcb : w0.heap.size ≤ cb)
    (hX : ISeg W b0 v X) (hF : Fd D most K F S X) (hl : X.length ≤ 10) (hk : K ≤ 1000000) (hm : 1 ≤ most ∧ most ≤ 1000000000000) :
    Calls Tryd.prog 88 #[.pointer (some ⟨cb, 0, none⟩), v] W fun e w' => e = .returned (.tuple #[]) ∧ St w' base cb tb sb most en at' F ∧ Upd (Mine W base cb) W w' := by
  obtain ⟨a, cap, rfl, hc1, hc2, _⟩ := Seg.shape hX
  have HST := Lib.hid h
  have HX := Lib.hid hX
  have HF := Lib.hid hF
  have HT := Lib.hid hT
  have HW0 := Lib.hid hw0
  clear h hX hF hT hw0
  go_enter Tryd.func88, Tryd.ntmps88
  go_wp2_with fail
  go_loopg [9] X.length (fun g s9 wr => ∃ (k : Nat) (S' : Sx), k ≤ X.length ∧ g = X.length - k ∧ s9 = .int .i64 k ∧ St wr base cb tb sb most en at' S' ∧ Upd (Mine W base cb) W wr ∧ Fd D most (K + 54 * k) F S' (X.drop k))
  case atStart => exact ⟨0, S, Nat.zero_le _, by omega, rfl, HST.out, Upd.refl _ _, by simpa using HF.out⟩
  case round =>
    obtain ⟨k, S', hk1, hg, rfl, hs, hu, hf⟩ := hrel
    have HG := Lib.hid hg
    have HS := Lib.hid hs
    have HU := Lib.hid hu
    have HFD := Lib.hid hf
    clear hg hs hu hf
    by_cases hlt : k < X.length
    · have hi : (k : Int) < X.length := by omega
      have hxr : ISeg wr b0 (.slice a X.length cap) X := Seg.upd HX.out HU.out (fun q hq hm => by
        rcases hm with hm | ⟨_, c, hc⟩
        · obtain ⟨v, hv, _⟩ := HST.out.cell
          rw [hm] at hq
          exact no_own HX.out hv (by decide) hq
        · exact no_own HX.out hc (by decide) hq)
      obtain ⟨g, o, rfl, hgl, _, hcl⟩ := ISeg.cells hxr (by omega)
      obtain ⟨r0, r1, r2, r3⟩ := hcl k hlt
      obtain ⟨x, hx⟩ : ∃ x, X.getD k default = x := ⟨_, rfl⟩
      rw [hx] at r0 r1 r2 r3
      have hdx : X.drop k = x :: X.drop (k + 1) := by rw [← hx, List.drop_eq_getElem_cons hlt]; simp [List.getD, hlt]
      have HFX := Lib.hid (by have h := HFD.out; rw [hdx] at h; exact h : Fd D most (K + 54 * k) F S' (x :: X.drop (k + 1)))
      have hwf := HFX.out.wf x (List.mem_cons_self ..)
      have hlt' := ix_lt hwf.1
      have hx4 := hwf.2
      have HWF := Lib.hid hwf.1
      clear hx hdx hxr hcl hwf HFD
      obtain ⟨W2, hW2⟩ : ∃ Xz, wr.alloc (.cells #[.int .i64 x.from', .int .i64 x.bytes, .int .i32 x.rune, .bool x.bad] 58) = Xz := ⟨_, rfl⟩
      obtain ⟨bi, hbi⟩ : ∃ xz, wr.heap.size = xz := ⟨_, rfl⟩
      have hb2 : Below wr.heap.size wr W2 := by rw [← hW2]; exact (Below.refl _ _).alloc (Nat.le_refl _) _
      have HI := Lib.hid (by rw [← hW2, ← hbi]; exact alloc_new rfl : W2.heap[bi]? = some (.cells #[.int .i64 x.from', .int .i64 x.bytes, .int .i32 x.rune, .bool x.bad] 58 (0, 0)))
      have EW2 := Lib.hid hW2
      have Ebi := Lib.hid hbi
      clear hW2 hbi
      have hW2 : Below w0.heap.size w0 W2 := (HW0.out.trans (HU.out.below (by exact HW0.out.size) (fun b hb hm => by
        rcases hm with hm | ⟨hm, _⟩
        · omega
        · have := HST.out.lo; omega))).trans (hb2.mono (Nat.le_trans HW0.out.size HU.out.size))
      have HW2 := Lib.hid hW2
      have HS2 := Lib.hid (HS.out.below hb2)
      have HB2 := Lib.hid hb2
      clear hb2 hW2
      obtain ⟨vc, hvc, _⟩ := HS2.out.cell
      have HC2 := Lib.hid hvc
      unfold cellsC at HC2
      clear hvc
      have c0 := cell_at HC2.out 0
      have cz := lt_of_heap HC2.out
      simp only [List.getElem?_toArray, List.getElem?_cons_zero] at c0
      have i0 := cell_at HI.out 0
      have i1 := cell_at HI.out 1
      have i2 := cell_at HI.out 2
      have i3 := cell_at HI.out 3
      have iz := lt_of_heap HI.out
      simp only [List.getElem?_toArray, List.getElem?_cons_zero, List.getElem?_cons_succ] at i0 i1 i2 i3
      have HKD := Lib.hid (fun (y : Later W2) => (Kind_calls D tb x y.w ((HT.out.below HW2.out).below y.h) : Calls _ _ _ _ _))
      unfold encI at HKD
      go_wp2_with fail
      rw [EW2.out, Ebi.out]
      clear r0 r1 r2 r3
      refine Code.wp_mono (Q := fun e a w' => e = .normal ∧ ∃ (bt : Nat) (z10 z11 z12 z13 z14 z15 z16 z17 z18 z19 z20 z21 : Value), W2.heap.size ≤ bt ∧ w'.heap[bt]? = some (.cells #[.int .i64 x.bytes, .int .i64 (kind D x), .int .u8 0] 147 (0, 0)) ∧ Below W2.heap.size W2 w' ∧
        a = { tmps := #[.pointer (some ⟨cb, 0, none⟩), .slice (some ⟨g, o, none⟩) X.length cap, undef, undef, undef, .pointer (some ⟨bi, 0, none⟩), .pointer (some ⟨bt, 0, none⟩), .slice (some ⟨g, o, none⟩) X.length cap, .int .i64 X.length, .int .i64 k, z10, z11, z12, z13, z14, z15, z16, z17, z18, z19, z20, z21, u22, u23, u24, u25, u26, u27, u28, u29, u30, u31, u32, u33, u34, u35, u36, u37, u38, u39, u40, u41, u42, u43, u44, u45, u46, u47, u48, u49, u50, u51, u52, u53, u54, u55, u56, u57, u58, u59, u60], defers := [] }) ?cont ?reg
      case reg =>
        refine RG_begin 11 #[false, false, false, false, false, false, false, false, false, false, false] rfl rfl (by kernel_rfl) (fun R hR hacc => ?_)
        refine RG_take (i := 0) (v := ?v3x1) (some 13) #[true, false, false, false, false, false, false, false, false, false, false] rfl rfl (by kernel_rfl) (by kernel_rfl) (by kernel_rfl) rfl rfl (fun x => ?h3x1) ?n3x1
        case h3x1 => (go_simp; try with_reducible rfl)
        try simp only [Act.put, List.setIfInBounds_toArray, List.set_cons_zero, List.set_cons_succ]
        refine RG_take (i := 1) (v := ?v3x2) (some 14) #[true, true, false, false, false, false, false, false, false, false, false] rfl rfl (by kernel_rfl) (by kernel_rfl) (by kernel_rfl) rfl rfl (fun x => ?h3x2) ?n3x2
        case h3x2 => (go_simp; try with_reducible rfl)
        try simp only [Act.put, List.setIfInBounds_toArray, List.set_cons_zero, List.set_cons_succ]
        refine RG_take (i := 2) (v := ?v3x3) (some 15) #[true, true, true, false, false, false, false, false, false, false, false] rfl rfl (by kernel_rfl) (by kernel_rfl) (by kernel_rfl) rfl rfl (fun x => ?h3x3) ?n3x3
        case h3x3 => (go_simp; try with_reducible rfl)
        try simp only [Act.put, List.setIfInBounds_toArray, List.set_cons_zero, List.set_cons_succ]
        refine RG_take (i := 3) (v := ?v3x4) (some 16) #[true, true, true, true, false, false, false, false, false, false, false] rfl rfl (by kernel_rfl) (by kernel_rfl) (by kernel_rfl) rfl rfl (fun x => ?h3x4) ?n3x4
        case h3x4 => (go_simp; try with_reducible rfl)
        try simp only [Act.put, List.setIfInBounds_toArray, List.set_cons_zero, List.set_cons_succ]
        refine RG_take (i := 4) (v := ?v3x5) (some 17) #[true, true, true, true, true, false, false, false, false, false, false] rfl rfl (by kernel_rfl) (by kernel_rfl) (by kernel_rfl) rfl rfl (fun x => ?h3x5) ?n3x5
        case h3x5 => (go_simp; try with_reducible rfl)
        try simp only [Act.put, List.setIfInBounds_toArray, List.set_cons_zero, List.set_cons_succ]
        refine RG_take (i := 5) (v := ?v3x6) (some 18) #[true, true, true, true, true, true, false, false, false, false, false] rfl rfl (by kernel_rfl) (by kernel_rfl) (by kernel_rfl) rfl rfl (fun x => ?h3x6) ?n3x6
        case h3x6 => (go_simp; try with_reducible rfl)
        try simp only [Act.put, List.setIfInBounds_toArray, List.set_cons_zero, List.set_cons_succ]
        refine RG_take (i := 6) (v := ?v3x7) (some 19) #[true, true, true, true, true, true, true, false, false, false, false] rfl rfl (by kernel_rfl) (by kernel_rfl) (by kernel_rfl) rfl rfl (fun x => ?h3x7) ?n3x7
        case h3x7 => (go_simp; try with_reducible rfl)
        try simp only [Act.put, List.setIfInBounds_toArray, List.set_cons_zero, List.set_cons_succ]
        refine RG_two (i := 7) (j := 9) #[true, true, true, true, true, true, true, true, false, false, false] #[true, true, true, true, true, true, true, false, false, true, false] (by kernel_rfl) rfl rfl rfl rfl rfl rfl (fun K hK => ?_) (fun K hK => ?_)
        · go_wp2_with (go_at_call 30; refine (HKD.out ⟨_, hacc⟩).mono ?_; rintro e wx ⟨rfl, hbx⟩; (try (have hg := (by first | exact new_in' hbx | exact new_in hbx : wx.heap[W2.heap.size]? = some (.cells #[.int .i64 0, .int .i64 0, .int .u8 0] 147 (0, 0)) ∧ W2.heap.size < wx.heap.size); have g0 := cell_at hg.1 0; have g1 := cell_at hg.1 1; have g2 := cell_at hg.1 2; have gf := free_all hg.1; simp only [List.getElem?_toArray, List.getElem?_cons_zero, List.getElem?_cons_succ] at g0 g1 g2)))
          refine RG_keep hK (by first | exact ((Below.refl _ _).alloc (Nat.le_refl _) _).drew | exact chain hacc hbx | exact hacc.alloc hacc.size _ | exact Below.alloc (by assumption) (by omega) _ | exact hacc | exact hacc.trans (hbx.mono (by have := hacc.size; simp; omega)) | exact (hacc.alloc hacc.size _).trans (hbx.mono (by have := hacc.size; simp; omega)) | exact (hacc.setCell (by first | omega | (simp; done) | (simp; omega)) _).setCell (by first | omega | (simp; done) | (simp; omega)) _ | (repeat (first | (with_reducible exact hacc) | (with_reducible refine Below.setCell ?_ (by first | exact Nat.le_refl _ | omega) _)))) (fun hacc => ?_)
          have hsz := hacc.size
          try simp only [World.size_alloc] at hsz
          clear hK K
          try simp only [Act.put, List.setIfInBounds_toArray, List.set_cons_zero, List.set_cons_succ]
          refine RG_take (i := 8) (v := ?v3x8) (some 21) #[true, true, true, true, true, true, true, true, true, false, false] rfl rfl (by kernel_rfl) (by kernel_rfl) (by kernel_rfl) rfl rfl (fun x => ?h3x8) ?n3x8
          case h3x8 => (go_simp; try with_reducible rfl)
          try simp only [Act.put, List.setIfInBounds_toArray, List.set_cons_zero, List.set_cons_succ]
          refine RG_one (i := 9) #[true, true, true, true, true, true, true, true, true, true, false] rfl (by kernel_rfl) rfl rfl (fun K hK => ?_)
          go_wp2_with (go_at_call 30; refine (HKD.out ⟨_, hacc⟩).mono ?_; rintro e wx ⟨rfl, hbx⟩; (try (have hg := (by first | exact new_in' hbx | exact new_in hbx : wx.heap[W2.heap.size]? = some (.cells #[.int .i64 0, .int .i64 0, .int .u8 0] 147 (0, 0)) ∧ W2.heap.size < wx.heap.size); have g0 := cell_at hg.1 0; have g1 := cell_at hg.1 1; have g2 := cell_at hg.1 2; have gf := free_all hg.1; simp only [List.getElem?_toArray, List.getElem?_cons_zero, List.getElem?_cons_succ] at g0 g1 g2)))
          refine RG_keep hK (by first | exact ((Below.refl _ _).alloc (Nat.le_refl _) _).drew | exact chain hacc hbx | exact hacc.alloc hacc.size _ | exact Below.alloc (by assumption) (by omega) _ | exact hacc | exact hacc.trans (hbx.mono (by have := hacc.size; simp; omega)) | exact (hacc.alloc hacc.size _).trans (hbx.mono (by have := hacc.size; simp; omega)) | exact (hacc.setCell (by first | omega | (simp; done) | (simp; omega)) _).setCell (by first | omega | (simp; done) | (simp; omega)) _ | (repeat (first | (with_reducible exact hacc) | (with_reducible refine Below.setCell ?_ (by first | exact Nat.le_refl _ | omega) _)))) (fun hacc => ?_)
          have hsz := hacc.size
          try simp only [World.size_alloc] at hsz
          clear hK K
          try simp only [Act.put, List.setIfInBounds_toArray, List.set_cons_zero, List.set_cons_succ]
          refine RG_one (i := 10) #[true, true, true, true, true, true, true, true, true, true, true] rfl (by kernel_rfl) rfl rfl (fun K hK => ?_)
          go_wp2_with (go_at_call 30; refine (HKD.out ⟨_, hacc⟩).mono ?_; rintro e wx ⟨rfl, hbx⟩; (try (have hg := (by first | exact new_in' hbx | exact new_in hbx : wx.heap[W2.heap.size]? = some (.cells #[.int .i64 0, .int .i64 0, .int .u8 0] 147 (0, 0)) ∧ W2.heap.size < wx.heap.size); have g0 := cell_at hg.1 0; have g1 := cell_at hg.1 1; have g2 := cell_at hg.1 2; have gf := free_all hg.1; simp only [List.getElem?_toArray, List.getElem?_cons_zero, List.getElem?_cons_succ] at g0 g1 g2)))
          refine RG_keep hK (by first | exact ((Below.refl _ _).alloc (Nat.le_refl _) _).drew | exact chain hacc hbx | exact hacc.alloc hacc.size _ | exact Below.alloc (by assumption) (by omega) _ | exact hacc | exact hacc.trans (hbx.mono (by have := hacc.size; simp; omega)) | exact (hacc.alloc hacc.size _).trans (hbx.mono (by have := hacc.size; simp; omega)) | exact (hacc.setCell (by first | omega | (simp; done) | (simp; omega)) _).setCell (by first | omega | (simp; done) | (simp; omega)) _ | (repeat (first | (with_reducible exact hacc) | (with_reducible refine Below.setCell ?_ (by first | exact Nat.le_refl _ | omega) _)))) (fun hacc => ?_)
          have hsz := hacc.size
          try simp only [World.size_alloc] at hsz
          clear hK K
          try simp only [Act.put, List.setIfInBounds_toArray, List.set_cons_zero, List.set_cons_succ]
          refine RG_done (by kernel_rfl) ?_
          refine hR _ _ ?_
          refine ⟨trivial, _, _, _, _, _, _, _, _, _, _, _, _, _, ?_, ?_, hacc, rfl⟩
          · first | exact Nat.le_refl _ | exact hbx.size
          · first | exact alloc_new rfl | (rw [heap_set (heap_set (heap_set hg.1 _ _) _ _) _ _]; rfl)
        · go_wp2_with (go_at_call 30; refine (HKD.out ⟨_, hacc⟩).mono ?_; rintro e wx ⟨rfl, hbx⟩; (try (have hg := (by first | exact new_in' hbx | exact new_in hbx : wx.heap[W2.heap.size]? = some (.cells #[.int .i64 0, .int .i64 0, .int .u8 0] 147 (0, 0)) ∧ W2.heap.size < wx.heap.size); have g0 := cell_at hg.1 0; have g1 := cell_at hg.1 1; have g2 := cell_at hg.1 2; have gf := free_all hg.1; simp only [List.getElem?_toArray, List.getElem?_cons_zero, List.getElem?_cons_succ] at g0 g1 g2)))
          refine RG_keep hK (by first | exact ((Below.refl _ _).alloc (Nat.le_refl _) _).drew | exact chain hacc hbx | exact hacc.alloc hacc.size _ | exact Below.alloc (by assumption) (by omega) _ | exact hacc | exact hacc.trans (hbx.mono (by have := hacc.size; simp; omega)) | exact (hacc.alloc hacc.size _).trans (hbx.mono (by have := hacc.size; simp; omega)) | exact (hacc.setCell (by first | omega | (simp; done) | (simp; omega)) _).setCell (by first | omega | (simp; done) | (simp; omega)) _ | (repeat (first | (with_reducible exact hacc) | (with_reducible refine Below.setCell ?_ (by first | exact Nat.le_refl _ | omega) _)))) (fun hacc => ?_)
          have hsz := hacc.size
          try simp only [World.size_alloc] at hsz
          clear hK K
          try simp only [Act.put, List.setIfInBounds_toArray, List.set_cons_zero, List.set_cons_succ]
          refine RG_one (i := 7) #[true, true, true, true, true, true, true, true, false, true, false] rfl (by kernel_rfl) rfl rfl (fun K hK => ?_)
          go_wp2_with (go_at_call 30; refine (HKD.out ⟨_, hacc⟩).mono ?_; rintro e wx ⟨rfl, hbx⟩; (try (have hg := (by first | exact new_in' hbx | exact new_in hbx : wx.heap[W2.heap.size]? = some (.cells #[.int .i64 0, .int .i64 0, .int .u8 0] 147 (0, 0)) ∧ W2.heap.size < wx.heap.size); have g0 := cell_at hg.1 0; have g1 := cell_at hg.1 1; have g2 := cell_at hg.1 2; have gf := free_all hg.1; simp only [List.getElem?_toArray, List.getElem?_cons_zero, List.getElem?_cons_succ] at g0 g1 g2)))
          refine RG_keep hK (by first | exact ((Below.refl _ _).alloc (Nat.le_refl _) _).drew | exact chain hacc hbx | exact hacc.alloc hacc.size _ | exact Below.alloc (by assumption) (by omega) _ | exact hacc | exact hacc.trans (hbx.mono (by have := hacc.size; simp; omega)) | exact (hacc.alloc hacc.size _).trans (hbx.mono (by have := hacc.size; simp; omega)) | exact (hacc.setCell (by first | omega | (simp; done) | (simp; omega)) _).setCell (by first | omega | (simp; done) | (simp; omega)) _ | (repeat (first | (with_reducible exact hacc) | (with_reducible refine Below.setCell ?_ (by first | exact Nat.le_refl _ | omega) _)))) (fun hacc => ?_)
          have hsz := hacc.size
          try simp only [World.size_alloc] at hsz
          clear hK K
          try simp only [Act.put, List.setIfInBounds_toArray, List.set_cons_zero, List.set_cons_succ]
          refine RG_take (i := 8) (v := ?v3x9) (some 21) #[true, true, true, true, true, true, true, true, true, true, false] rfl rfl (by kernel_rfl) (by kernel_rfl) (by kernel_rfl) rfl rfl (fun x => ?h3x9) ?n3x9
          case h3x9 => (go_simp; try with_reducible rfl)
          try simp only [Act.put, List.setIfInBounds_toArray, List.set_cons_zero, List.set_cons_succ]
          refine RG_one (i := 10) #[true, true, true, true, true, true, true, true, true, true, true] rfl (by kernel_rfl) rfl rfl (fun K hK => ?_)
          go_wp2_with (go_at_call 30; refine (HKD.out ⟨_, hacc⟩).mono ?_; rintro e wx ⟨rfl, hbx⟩; (try (have hg := (by first | exact new_in' hbx | exact new_in hbx : wx.heap[W2.heap.size]? = some (.cells #[.int .i64 0, .int .i64 0, .int .u8 0] 147 (0, 0)) ∧ W2.heap.size < wx.heap.size); have g0 := cell_at hg.1 0; have g1 := cell_at hg.1 1; have g2 := cell_at hg.1 2; have gf := free_all hg.1; simp only [List.getElem?_toArray, List.getElem?_cons_zero, List.getElem?_cons_succ] at g0 g1 g2)))
          refine RG_keep hK (by first | exact ((Below.refl _ _).alloc (Nat.le_refl _) _).drew | exact chain hacc hbx | exact hacc.alloc hacc.size _ | exact Below.alloc (by assumption) (by omega) _ | exact hacc | exact hacc.trans (hbx.mono (by have := hacc.size; simp; omega)) | exact (hacc.alloc hacc.size _).trans (hbx.mono (by have := hacc.size; simp; omega)) | exact (hacc.setCell (by first | omega | (simp; done) | (simp; omega)) _).setCell (by first | omega | (simp; done) | (simp; omega)) _ | (repeat (first | (with_reducible exact hacc) | (with_reducible refine Below.setCell ?_ (by first | exact Nat.le_refl _ | omega) _)))) (fun hacc => ?_)
          have hsz := hacc.size
          try simp only [World.size_alloc] at hsz
          clear hK K
          try simp only [Act.put, List.setIfInBounds_toArray, List.set_cons_zero, List.set_cons_succ]
          refine RG_done (by kernel_rfl) ?_
          refine hR _ _ ?_
          refine ⟨trivial, _, _, _, _, _, _, _, _, _, _, _, _, _, ?_, ?_, hacc, rfl⟩
          · first | exact Nat.le_refl _ | exact hbx.size
          · first | exact alloc_new rfl | (rw [heap_set (heap_set (heap_set hg.1 _ _) _ _) _ _]; rfl)
      case cont =>
        rintro e a V ⟨rfl, bt, z10, z11, z12, z13, z14, z15, z16, z17, z18, z19, z20, z21, h1, h2, h3, rfl⟩
        have HSV := Lib.hid (HS2.out.below h3)
        have HBT := Lib.hid h2
        have HIV := Lib.hid ((h3.block _ (lt_of_heap HI.out)).trans HI.out)
        have hne : bt ≠ cb := by have := lt_of_heap HC2.out; omega
        have HNE := Lib.hid hne
        have HUV := Lib.hid (HU.out.later (chain HB2.out h3))
        have hbw : bt < V.heap.size ∧ W.heap.size ≤ bt := ⟨lt_of_heap h2, by have := HU.out.size; have := HB2.out.size; omega⟩
        have HBW := Lib.hid hbw
        clear h1 h2 h3 HC2 HKD HI HS2 c0 cz i0 i1 i2 i3 iz hne hbw
        by_cases hb1 : x.bytes = 1
        · cases hbad : x.bad with
          | false =>
            have hrl : x.rune < 128 := (HWF.out.ascii hbad).2 hb1
            have hw1 : IntKind.u8.wrap (x.rune : Int) = x.rune := IntWalk.u8_in _ ⟨by omega, by omega⟩
            have hcx := ix_c D hb1 hbad
            have hbi : ((x.bytes : Int) == 1) = true := by simp; omega
            rw [hbad] at HIV
            have i1 := cell_at HIV.out 1
            have i2 := cell_at HIV.out 2
            have i3 := cell_at HIV.out 3
            have iz := lt_of_heap HIV.out
            simp only [List.getElem?_toArray, List.getElem?_cons_zero, List.getElem?_cons_succ] at i1 i2 i3
            have t0 := cell_at HBT.out 0
            have t1 := cell_at HBT.out 1
            have t2 := cell_at HBT.out 2
            have tf := free_all HBT.out
            have tz := lt_of_heap HBT.out
            simp only [List.getElem?_toArray, List.getElem?_cons_zero, List.getElem?_cons_succ] at t0 t1 t2
            clear hbad hb1
            go_upto_region 6 with fail
            obtain ⟨V2, hV2⟩ : ∃ z, V.setCell ⟨bt, 2, none⟩ (.int .u8 x.rune) = z := ⟨_, rfl⟩
            have hu2 : Upd (fun b => b = bt) V V2 := by rw [← hV2]; exact by repeat (first | (with_reducible exact Upd.refl _ _) | (with_reducible refine Upd.drew ?_) | (with_reducible refine Upd.setCell ?_ (by intro _; rfl) _))
            have HST2 := Lib.hid (HSV.out.box hu2 HBT.out HNE.out)
            have HB2 := Lib.hid (by rw [← hV2, heap_set HBT.out]; rfl : V2.heap[bt]? = some (.cells #[.int .i64 x.bytes, .int .i64 (kind D x), .int .u8 x.rune] 147 (0, 0)))
            have HU2 := Lib.hid (grow HUV.out hu2 (fun b hb hh => by have := HBW.out.2; omega) : Upd (Mine W base cb) W V2)
            rw [hV2]
            clear hV2 hu2 i1 i2 i3 iz t0 t1 t2 tf tz hw1 hbi
            generalize x.rune = cx at hcx HB2
            have HCX := Lib.hid hcx
            obtain ⟨hbc, hF1, hF2⟩ := Fd.next hm.1 HFX.out
            have hrdy := Inv.ready HFX.out.inv.choose_spec.1
            have hv : itemV (ixOf D x) = .agg #[.int .i64 x.bytes, .int .i64 (kind D x), .int .u8 cx] := by unfold itemV; rw [hcx]; rfl
            have hd3 : Below V2.heap.size V2 V2.drew := (Below.refl _ _).drew
            have HK := Lib.hid (one_calls (ixOf D x) V2.drew (HST2.out.below hd3) (by show x.bytes ≤ 9; omega) hlt' hrdy HFX.out.bc.bd (by omega) hm.2)
            rw [hv] at HK
            obtain ⟨S1, hS1⟩ : ∃ S1, oneF most S' (ixOf D x) = S1 := ⟨_, rfl⟩
            rw [hS1] at HK hbc hF1 hF2
            have HD3 := Lib.hid hd3
            have HF1 := Lib.hid hF1
            have HF2 := Lib.hid hF2
            have HBC := Lib.hid hbc
            obtain ⟨vc, hvc, _⟩ := HST2.out.cell
            have HC2 := Lib.hid hvc
            unfold cellsC at HC2
            clear hcx hrdy hv hd3 hS1 hF1 hF2 hbc hvc hlt'
            have c3 := cell_at HC2.out 3
            have cz := lt_of_heap HC2.out
            simp only [List.getElem?_toArray, List.getElem?_cons_zero, List.getElem?_cons_succ] at c3
            have t0 := cell_at HB2.out 0
            have t1 := cell_at HB2.out 1
            have t2 := cell_at HB2.out 2
            have tz := lt_of_heap HB2.out
            simp only [List.getElem?_toArray, List.getElem?_cons_zero, List.getElem?_cons_succ] at t0 t1 t2
            go_wp2_with fail
            refine region_tail 5 (by kernel_rfl) (by kernel_rfl) ?_
            simp only [List.take_succ_cons, List.take_zero, List.drop_succ_cons, List.drop_zero]
            repeat (first | still_step)
            refine wpStill_nil ?_
            go_wp2_with fail
            refine HK.out.mono ?_
            rintro e V3 ⟨rfl, hs3, hu3⟩
            have HS3 := Lib.hid hs3
            have HU3 := Lib.hid (Mine.trans HU2.out (Mine.trans (Mine.below HD3.out) hu3))
            clear hs3 hu3 HK c3 cz t0 t1 t2 tz
            obtain ⟨vd, hvd, hrd⟩ := HS3.out.cell
            have HC3 := Lib.hid hvd
            have HRD := Lib.hid hrd
            unfold cellsC at HC3
            clear hvd hrd
            have c2 := cell_at HC3.out 2
            have c18 := cell_at HC3.out 18
            have cf := free_all HC3.out
            have cz := lt_of_heap HC3.out
            simp only [List.getElem?_toArray, List.getElem?_cons_zero, List.getElem?_cons_succ] at c2 c18
            cases hov : S1.over with
            | true =>
              rw [hov] at c18
              have HFE := Lib.hid (HF1.out hov)
              have HOV := Lib.hid hov
              clear hov
              go_wp2_with fail
              refine region_tail 16 (by kernel_rfl) (by kernel_rfl) ?_
              simp only [List.take_succ_cons, List.take_zero, List.drop_succ_cons, List.drop_zero]
              repeat (first | still_step)
              refine wpStill_nil ?_
              go_wp2_with fail
              (try simp only [Exit.inBlock, Exit.then]); refine bodyPost_ret (results_none rfl _ _ _) rfl ?_
              rw [HFE.out]
              refine ⟨rfl, St.fin2 HS3.out HU3.out HC3.out HRD.out (by repeat (first | (with_reducible exact Upd.refl _ _) | (with_reducible refine Upd.drew ?_) | (with_reducible refine Upd.setCell ?_ (by intro _; rfl) _))) ?_⟩
              unfold cellsC
              rw [HOV.out]
              exact by simp only [World.setCell, World.drew, Array.getElem?_modify, if_true, HC3.out, Option.map_some, Option.isSome_none, Bool.false_eq_true, if_false, List.setIfInBounds_toArray, List.set_cons_zero, List.set_cons_succ] <;> rfl
            | false =>
              rw [hov] at c18
              have HOV := Lib.hid hov
              have hbb := HBC.out.bd
              have HSU := Lib.hid (fun y => (sure_calls y.w (HS3.out.below y.h) (by have := hbb.bytes; omega) hbb.sp).mono fun e w' ⟨h1, z, h2⟩ => ⟨h1, by rw [h2]; exact z.h⟩ : ∀ y : Later V3, Calls Tryd.prog 121 #[.pointer (some ⟨cb, 0, none⟩)] y.w fun e w' => e = .returned (.int .i64 (sure S1)) ∧ Below y.w.heap.size y.w w')
              by_cases hsm : most < sure S1
              · have hsmi : (most : Int) < sure S1 := by omega
                have HFE := Lib.hid ((HF2.out hov).1 hsm)
                clear hov hsm hbb
                go_wp2_with fail
                refine region_later 16 (by kernel_rfl) (by kernel_rfl) ?_
                simp only [List.take_succ_cons, List.take_zero, List.drop_succ_cons, List.drop_zero]
                repeat (quiet_step ((exact later_call (HSU.out _))))
                refine wpQuiet_nil ?_
                intro y
                have HS4 := Lib.hid (HS3.out.below y.h)
                have HC4 := Lib.hid ((y.h.block _ (lt_of_heap HC3.out)).trans HC3.out)
                have HRD4 := Lib.hid (HRD.out.below y.h)
                have HU4 := Lib.hid (HU3.out.later y.h)
                clear HSU c2 c18 cf cz
                generalize y.w = V4 at HS4 HC4 HRD4 HU4 ⊢
                have c18 := cell_at HC4.out 18
                have cf := free_all HC4.out
                have cz := lt_of_heap HC4.out
                simp only [List.getElem?_toArray, List.getElem?_cons_zero, List.getElem?_cons_succ] at c18
                go_wp2_with fail
                (try simp only [Exit.inBlock, Exit.then]); refine bodyPost_ret (results_none rfl _ _ _) rfl ?_
                rw [HFE.out]
                refine ⟨rfl, St.fin2 HS4.out HU4.out HC4.out HRD4.out (by repeat (first | (with_reducible exact Upd.refl _ _) | (with_reducible refine Upd.drew ?_) | (with_reducible refine Upd.setCell ?_ (by intro _; rfl) _))) ?_⟩
                unfold cellsC
                exact by simp only [World.setCell, World.drew, Array.getElem?_modify, if_true, HC4.out, Option.map_some, Option.isSome_none, Bool.false_eq_true, if_false, List.setIfInBounds_toArray, List.set_cons_zero, List.set_cons_succ] <;> rfl
              · have hsmi : ¬ ((most : Int) < sure S1) := by omega
                have HFE := Lib.hid ((HF2.out hov).2 hsm)
                clear hov hsm hbb
                go_wp2_with fail
                refine region_later 16 (by kernel_rfl) (by kernel_rfl) ?_
                simp only [List.take_succ_cons, List.take_zero, List.drop_succ_cons, List.drop_zero]
                repeat (quiet_step ((exact later_call (HSU.out _))))
                refine wpQuiet_nil ?_
                intro y
                have HS4 := Lib.hid (HS3.out.below y.h)
                have HC4 := Lib.hid ((y.h.block _ (lt_of_heap HC3.out)).trans HC3.out)
                have HRD4 := Lib.hid (HRD.out.below y.h)
                have HU4 := Lib.hid (HU3.out.later y.h)
                clear HSU c2 c18 cf cz
                generalize y.w = V4 at HS4 HC4 HRD4 HU4 ⊢
                have c18 := cell_at HC4.out 18
                have cf := free_all HC4.out
                have cz := lt_of_heap HC4.out
                simp only [List.getElem?_toArray, List.getElem?_cons_zero, List.getElem?_cons_succ] at c18
                have hw9 : IntKind.i64.wrap ((k : Int) + 1) = ((k + 1 : Nat) : Int) := by rw [i64w _ (by omega) (by omega)]; omega
                go_wp2_with fail
                go_roundg (X.length - (k + 1))
                case measure => have := HG.out; omega
                case rel =>
                  have hfin := St.fin2 (S' := S1) (W' := V4.setCell ⟨cb, 18, none⟩ (.bool false)) HS4.out HU4.out HC4.out HRD4.out (by repeat (first | (with_reducible exact Upd.refl _ _) | (with_reducible refine Upd.drew ?_) | (with_reducible refine Upd.setCell ?_ (by intro _; rfl) _))) (by
                    unfold cellsC
                    rw [HOV.out]
                    exact by simp only [World.setCell, World.drew, Array.getElem?_modify, if_true, HC4.out, Option.map_some, Option.isSome_none, Bool.false_eq_true, if_false, List.setIfInBounds_toArray, List.set_cons_zero, List.set_cons_succ] <;> rfl)
                  exact ⟨k + 1, S1, by omega, rfl, by first | rfl | go_num, hfin.1, hfin.2, by have := HFE.out; rw [show K + 54 * k + 54 = K + 54 * (k + 1) by omega] at this; exact this⟩
          | true =>
            have hcx := ix_z D (x := x) (fun h => by rw [hbad] at h; cases h.2)
            have hbi : ((x.bytes : Int) == 1) = true := by simp; omega
            rw [hbad] at HIV
            have i1 := cell_at HIV.out 1
            have i2 := cell_at HIV.out 2
            have i3 := cell_at HIV.out 3
            have iz := lt_of_heap HIV.out
            simp only [List.getElem?_toArray, List.getElem?_cons_zero, List.getElem?_cons_succ] at i1 i2 i3
            clear hbad hb1
            go_upto_region 6 with fail
            have HST2 := HSV
            have HB2 := HBT
            have HU2 := HUV
            clear i1 i2 i3 iz hbi
            obtain ⟨cx, hz⟩ : ∃ z : Nat, z = 0 := ⟨0, rfl⟩
            rw [← hz] at hcx
            have HB2 := Lib.hid (show V.heap[bt]? = some (.cells #[.int .i64 x.bytes, .int .i64 (kind D x), .int .u8 cx] 147 (0, 0)) by rw [hz]; exact HB2.out)
            clear hz
            generalize V = V2 at HST2 HB2 HU2 ⊢
            have HCX := Lib.hid hcx
            obtain ⟨hbc, hF1, hF2⟩ := Fd.next hm.1 HFX.out
            have hrdy := Inv.ready HFX.out.inv.choose_spec.1
            have hv : itemV (ixOf D x) = .agg #[.int .i64 x.bytes, .int .i64 (kind D x), .int .u8 cx] := by unfold itemV; rw [hcx]; rfl
            have hd3 : Below V2.heap.size V2 V2.drew := (Below.refl _ _).drew
            have HK := Lib.hid (one_calls (ixOf D x) V2.drew (HST2.out.below hd3) (by show x.bytes ≤ 9; omega) hlt' hrdy HFX.out.bc.bd (by omega) hm.2)
            rw [hv] at HK
            obtain ⟨S1, hS1⟩ : ∃ S1, oneF most S' (ixOf D x) = S1 := ⟨_, rfl⟩
            rw [hS1] at HK hbc hF1 hF2
            have HD3 := Lib.hid hd3
            have HF1 := Lib.hid hF1
            have HF2 := Lib.hid hF2
            have HBC := Lib.hid hbc
            obtain ⟨vc, hvc, _⟩ := HST2.out.cell
            have HC2 := Lib.hid hvc
            unfold cellsC at HC2
            clear hcx hrdy hv hd3 hS1 hF1 hF2 hbc hvc hlt'
            have c3 := cell_at HC2.out 3
            have cz := lt_of_heap HC2.out
            simp only [List.getElem?_toArray, List.getElem?_cons_zero, List.getElem?_cons_succ] at c3
            have t0 := cell_at HB2.out 0
            have t1 := cell_at HB2.out 1
            have t2 := cell_at HB2.out 2
            have tz := lt_of_heap HB2.out
            simp only [List.getElem?_toArray, List.getElem?_cons_zero, List.getElem?_cons_succ] at t0 t1 t2
            go_wp2_with fail
            refine region_tail 5 (by kernel_rfl) (by kernel_rfl) ?_
            simp only [List.take_succ_cons, List.take_zero, List.drop_succ_cons, List.drop_zero]
            repeat (first | still_step)
            refine wpStill_nil ?_
            go_wp2_with fail
            refine HK.out.mono ?_
            rintro e V3 ⟨rfl, hs3, hu3⟩
            have HS3 := Lib.hid hs3
            have HU3 := Lib.hid (Mine.trans HU2.out (Mine.trans (Mine.below HD3.out) hu3))
            clear hs3 hu3 HK c3 cz t0 t1 t2 tz
            obtain ⟨vd, hvd, hrd⟩ := HS3.out.cell
            have HC3 := Lib.hid hvd
            have HRD := Lib.hid hrd
            unfold cellsC at HC3
            clear hvd hrd
            have c2 := cell_at HC3.out 2
            have c18 := cell_at HC3.out 18
            have cf := free_all HC3.out
            have cz := lt_of_heap HC3.out
            simp only [List.getElem?_toArray, List.getElem?_cons_zero, List.getElem?_cons_succ] at c2 c18
            cases hov : S1.over with
            | true =>
              rw [hov] at c18
              have HFE := Lib.hid (HF1.out hov)
              have HOV := Lib.hid hov
              clear hov
              go_wp2_with fail
              refine region_tail 16 (by kernel_rfl) (by kernel_rfl) ?_
              simp only [List.take_succ_cons, List.take_zero, List.drop_succ_cons, List.drop_zero]
              repeat (first | still_step)
              refine wpStill_nil ?_
              go_wp2_with fail
              (try simp only [Exit.inBlock, Exit.then]); refine bodyPost_ret (results_none rfl _ _ _) rfl ?_
              rw [HFE.out]
              refine ⟨rfl, St.fin2 HS3.out HU3.out HC3.out HRD.out (by repeat (first | (with_reducible exact Upd.refl _ _) | (with_reducible refine Upd.drew ?_) | (with_reducible refine Upd.setCell ?_ (by intro _; rfl) _))) ?_⟩
              unfold cellsC
              rw [HOV.out]
              exact by simp only [World.setCell, World.drew, Array.getElem?_modify, if_true, HC3.out, Option.map_some, Option.isSome_none, Bool.false_eq_true, if_false, List.setIfInBounds_toArray, List.set_cons_zero, List.set_cons_succ] <;> rfl
            | false =>
              rw [hov] at c18
              have HOV := Lib.hid hov
              have hbb := HBC.out.bd
              have HSU := Lib.hid (fun y => (sure_calls y.w (HS3.out.below y.h) (by have := hbb.bytes; omega) hbb.sp).mono fun e w' ⟨h1, z, h2⟩ => ⟨h1, by rw [h2]; exact z.h⟩ : ∀ y : Later V3, Calls Tryd.prog 121 #[.pointer (some ⟨cb, 0, none⟩)] y.w fun e w' => e = .returned (.int .i64 (sure S1)) ∧ Below y.w.heap.size y.w w')
              by_cases hsm : most < sure S1
              · have hsmi : (most : Int) < sure S1 := by omega
                have HFE := Lib.hid ((HF2.out hov).1 hsm)
                clear hov hsm hbb
                go_wp2_with fail
                refine region_later 16 (by kernel_rfl) (by kernel_rfl) ?_
                simp only [List.take_succ_cons, List.take_zero, List.drop_succ_cons, List.drop_zero]
                repeat (quiet_step ((exact later_call (HSU.out _))))
                refine wpQuiet_nil ?_
                intro y
                have HS4 := Lib.hid (HS3.out.below y.h)
                have HC4 := Lib.hid ((y.h.block _ (lt_of_heap HC3.out)).trans HC3.out)
                have HRD4 := Lib.hid (HRD.out.below y.h)
                have HU4 := Lib.hid (HU3.out.later y.h)
                clear HSU c2 c18 cf cz
                generalize y.w = V4 at HS4 HC4 HRD4 HU4 ⊢
                have c18 := cell_at HC4.out 18
                have cf := free_all HC4.out
                have cz := lt_of_heap HC4.out
                simp only [List.getElem?_toArray, List.getElem?_cons_zero, List.getElem?_cons_succ] at c18
                go_wp2_with fail
                (try simp only [Exit.inBlock, Exit.then]); refine bodyPost_ret (results_none rfl _ _ _) rfl ?_
                rw [HFE.out]
                refine ⟨rfl, St.fin2 HS4.out HU4.out HC4.out HRD4.out (by repeat (first | (with_reducible exact Upd.refl _ _) | (with_reducible refine Upd.drew ?_) | (with_reducible refine Upd.setCell ?_ (by intro _; rfl) _))) ?_⟩
                unfold cellsC
                exact by simp only [World.setCell, World.drew, Array.getElem?_modify, if_true, HC4.out, Option.map_some, Option.isSome_none, Bool.false_eq_true, if_false, List.setIfInBounds_toArray, List.set_cons_zero, List.set_cons_succ] <;> rfl
              · have hsmi : ¬ ((most : Int) < sure S1) := by omega
                have HFE := Lib.hid ((HF2.out hov).2 hsm)
                clear hov hsm hbb
                go_wp2_with fail
                refine region_later 16 (by kernel_rfl) (by kernel_rfl) ?_
                simp only [List.take_succ_cons, List.take_zero, List.drop_succ_cons, List.drop_zero]
                repeat (quiet_step ((exact later_call (HSU.out _))))
                refine wpQuiet_nil ?_
                intro y
                have HS4 := Lib.hid (HS3.out.below y.h)
                have HC4 := Lib.hid ((y.h.block _ (lt_of_heap HC3.out)).trans HC3.out)
                have HRD4 := Lib.hid (HRD.out.below y.h)
                have HU4 := Lib.hid (HU3.out.later y.h)
                clear HSU c2 c18 cf cz
                generalize y.w = V4 at HS4 HC4 HRD4 HU4 ⊢
                have c18 := cell_at HC4.out 18
                have cf := free_all HC4.out
                have cz := lt_of_heap HC4.out
                simp only [List.getElem?_toArray, List.getElem?_cons_zero, List.getElem?_cons_succ] at c18
                have hw9 : IntKind.i64.wrap ((k : Int) + 1) = ((k + 1 : Nat) : Int) := by rw [i64w _ (by omega) (by omega)]; omega
                go_wp2_with fail
                go_roundg (X.length - (k + 1))
                case measure => have := HG.out; omega
                case rel =>
                  have hfin := St.fin2 (S' := S1) (W' := V4.setCell ⟨cb, 18, none⟩ (.bool false)) HS4.out HU4.out HC4.out HRD4.out (by repeat (first | (with_reducible exact Upd.refl _ _) | (with_reducible refine Upd.drew ?_) | (with_reducible refine Upd.setCell ?_ (by intro _; rfl) _))) (by
                    unfold cellsC
                    rw [HOV.out]
                    exact by simp only [World.setCell, World.drew, Array.getElem?_modify, if_true, HC4.out, Option.map_some, Option.isSome_none, Bool.false_eq_true, if_false, List.setIfInBounds_toArray, List.set_cons_zero, List.set_cons_succ] <;> rfl)
                  exact ⟨k + 1, S1, by omega, rfl, by first | rfl | go_num, hfin.1, hfin.2, by have := HFE.out; rw [show K + 54 * k + 54 = K + 54 * (k + 1) by omega] at this; exact this⟩
        · have hcx := ix_z D (x := x) (fun h => hb1 h.1)
          have hbi : ((x.bytes : Int) == 1) = false := by simp; omega
          have i1 := cell_at HIV.out 1
          have i2 := cell_at HIV.out 2
          have i3 := cell_at HIV.out 3
          have iz := lt_of_heap HIV.out
          simp only [List.getElem?_toArray, List.getElem?_cons_zero, List.getElem?_cons_succ] at i1 i2 i3
          clear hb1
          go_upto_region 6 with fail
          have HST2 := HSV
          have HB2 := HBT
          have HU2 := HUV
          clear i1 i2 i3 iz hbi
          obtain ⟨cx, hz⟩ : ∃ z : Nat, z = 0 := ⟨0, rfl⟩
          rw [← hz] at hcx
          have HB2 := Lib.hid (show V.heap[bt]? = some (.cells #[.int .i64 x.bytes, .int .i64 (kind D x), .int .u8 cx] 147 (0, 0)) by rw [hz]; exact HB2.out)
          clear hz
          generalize V = V2 at HST2 HB2 HU2 ⊢
          have HCX := Lib.hid hcx
          obtain ⟨hbc, hF1, hF2⟩ := Fd.next hm.1 HFX.out
          have hrdy := Inv.ready HFX.out.inv.choose_spec.1
          have hv : itemV (ixOf D x) = .agg #[.int .i64 x.bytes, .int .i64 (kind D x), .int .u8 cx] := by unfold itemV; rw [hcx]; rfl
          have hd3 : Below V2.heap.size V2 V2.drew := (Below.refl _ _).drew
          have HK := Lib.hid (one_calls (ixOf D x) V2.drew (HST2.out.below hd3) (by show x.bytes ≤ 9; omega) hlt' hrdy HFX.out.bc.bd (by omega) hm.2)
          rw [hv] at HK
          obtain ⟨S1, hS1⟩ : ∃ S1, oneF most S' (ixOf D x) = S1 := ⟨_, rfl⟩
          rw [hS1] at HK hbc hF1 hF2
          have HD3 := Lib.hid hd3
          have HF1 := Lib.hid hF1
          have HF2 := Lib.hid hF2
          have HBC := Lib.hid hbc
          obtain ⟨vc, hvc, _⟩ := HST2.out.cell
          have HC2 := Lib.hid hvc
          unfold cellsC at HC2
          clear hcx hrdy hv hd3 hS1 hF1 hF2 hbc hvc hlt'
          have c3 := cell_at HC2.out 3
          have cz := lt_of_heap HC2.out
          simp only [List.getElem?_toArray, List.getElem?_cons_zero, List.getElem?_cons_succ] at c3
          have t0 := cell_at HB2.out 0
          have t1 := cell_at HB2.out 1
          have t2 := cell_at HB2.out 2
          have tz := lt_of_heap HB2.out
          simp only [List.getElem?_toArray, List.getElem?_cons_zero, List.getElem?_cons_succ] at t0 t1 t2
          go_wp2_with fail
          refine region_tail 5 (by kernel_rfl) (by kernel_rfl) ?_
          simp only [List.take_succ_cons, List.take_zero, List.drop_succ_cons, List.drop_zero]
          repeat (first | still_step)
          refine wpStill_nil ?_
          go_wp2_with fail
          refine HK.out.mono ?_
          rintro e V3 ⟨rfl, hs3, hu3⟩
          have HS3 := Lib.hid hs3
          have HU3 := Lib.hid (Mine.trans HU2.out (Mine.trans (Mine.below HD3.out) hu3))
          clear hs3 hu3 HK c3 cz t0 t1 t2 tz
          obtain ⟨vd, hvd, hrd⟩ := HS3.out.cell
          have HC3 := Lib.hid hvd
          have HRD := Lib.hid hrd
          unfold cellsC at HC3
          clear hvd hrd
          have c2 := cell_at HC3.out 2
          have c18 := cell_at HC3.out 18
          have cf := free_all HC3.out
          have cz := lt_of_heap HC3.out
          simp only [List.getElem?_toArray, List.getElem?_cons_zero, List.getElem?_cons_succ] at c2 c18
          cases hov : S1.over with
          | true =>
            rw [hov] at c18
            have HFE := Lib.hid (HF1.out hov)
            have HOV := Lib.hid hov
            clear hov
            go_wp2_with fail
            refine region_tail 16 (by kernel_rfl) (by kernel_rfl) ?_
            simp only [List.take_succ_cons, List.take_zero, List.drop_succ_cons, List.drop_zero]
            repeat (first | still_step)
            refine wpStill_nil ?_
            go_wp2_with fail
            (try simp only [Exit.inBlock, Exit.then]); refine bodyPost_ret (results_none rfl _ _ _) rfl ?_
            rw [HFE.out]
            refine ⟨rfl, St.fin2 HS3.out HU3.out HC3.out HRD.out (by repeat (first | (with_reducible exact Upd.refl _ _) | (with_reducible refine Upd.drew ?_) | (with_reducible refine Upd.setCell ?_ (by intro _; rfl) _))) ?_⟩
            unfold cellsC
            rw [HOV.out]
            exact by simp only [World.setCell, World.drew, Array.getElem?_modify, if_true, HC3.out, Option.map_some, Option.isSome_none, Bool.false_eq_true, if_false, List.setIfInBounds_toArray, List.set_cons_zero, List.set_cons_succ] <;> rfl
          | false =>
            rw [hov] at c18
            have HOV := Lib.hid hov
            have hbb := HBC.out.bd
            have HSU := Lib.hid (fun y => (sure_calls y.w (HS3.out.below y.h) (by have := hbb.bytes; omega) hbb.sp).mono fun e w' ⟨h1, z, h2⟩ => ⟨h1, by rw [h2]; exact z.h⟩ : ∀ y : Later V3, Calls Tryd.prog 121 #[.pointer (some ⟨cb, 0, none⟩)] y.w fun e w' => e = .returned (.int .i64 (sure S1)) ∧ Below y.w.heap.size y.w w')
            by_cases hsm : most < sure S1
            · have hsmi : (most : Int) < sure S1 := by omega
              have HFE := Lib.hid ((HF2.out hov).1 hsm)
              clear hov hsm hbb
              go_wp2_with fail
              refine region_later 16 (by kernel_rfl) (by kernel_rfl) ?_
              simp only [List.take_succ_cons, List.take_zero, List.drop_succ_cons, List.drop_zero]
              repeat (quiet_step ((exact later_call (HSU.out _))))
              refine wpQuiet_nil ?_
              intro y
              have HS4 := Lib.hid (HS3.out.below y.h)
              have HC4 := Lib.hid ((y.h.block _ (lt_of_heap HC3.out)).trans HC3.out)
              have HRD4 := Lib.hid (HRD.out.below y.h)
              have HU4 := Lib.hid (HU3.out.later y.h)
              clear HSU c2 c18 cf cz
              generalize y.w = V4 at HS4 HC4 HRD4 HU4 ⊢
              have c18 := cell_at HC4.out 18
              have cf := free_all HC4.out
              have cz := lt_of_heap HC4.out
              simp only [List.getElem?_toArray, List.getElem?_cons_zero, List.getElem?_cons_succ] at c18
              go_wp2_with fail
              (try simp only [Exit.inBlock, Exit.then]); refine bodyPost_ret (results_none rfl _ _ _) rfl ?_
              rw [HFE.out]
              refine ⟨rfl, St.fin2 HS4.out HU4.out HC4.out HRD4.out (by repeat (first | (with_reducible exact Upd.refl _ _) | (with_reducible refine Upd.drew ?_) | (with_reducible refine Upd.setCell ?_ (by intro _; rfl) _))) ?_⟩
              unfold cellsC
              exact by simp only [World.setCell, World.drew, Array.getElem?_modify, if_true, HC4.out, Option.map_some, Option.isSome_none, Bool.false_eq_true, if_false, List.setIfInBounds_toArray, List.set_cons_zero, List.set_cons_succ] <;> rfl
            · have hsmi : ¬ ((most : Int) < sure S1) := by omega
              have HFE := Lib.hid ((HF2.out hov).2 hsm)
              clear hov hsm hbb
              go_wp2_with fail
              refine region_later 16 (by kernel_rfl) (by kernel_rfl) ?_
              simp only [List.take_succ_cons, List.take_zero, List.drop_succ_cons, List.drop_zero]
              repeat (quiet_step ((exact later_call (HSU.out _))))
              refine wpQuiet_nil ?_
              intro y
              have HS4 := Lib.hid (HS3.out.below y.h)
              have HC4 := Lib.hid ((y.h.block _ (lt_of_heap HC3.out)).trans HC3.out)
              have HRD4 := Lib.hid (HRD.out.below y.h)
              have HU4 := Lib.hid (HU3.out.later y.h)
              clear HSU c2 c18 cf cz
              generalize y.w = V4 at HS4 HC4 HRD4 HU4 ⊢
              have c18 := cell_at HC4.out 18
              have cf := free_all HC4.out
              have cz := lt_of_heap HC4.out
              simp only [List.getElem?_toArray, List.getElem?_cons_zero, List.getElem?_cons_succ] at c18
              have hw9 : IntKind.i64.wrap ((k : Int) + 1) = ((k + 1 : Nat) : Int) := by rw [i64w _ (by omega) (by omega)]; omega
              go_wp2_with fail
              go_roundg (X.length - (k + 1))
              case measure => have := HG.out; omega
              case rel =>
                have hfin := St.fin2 (S' := S1) (W' := V4.setCell ⟨cb, 18, none⟩ (.bool false)) HS4.out HU4.out HC4.out HRD4.out (by repeat (first | (with_reducible exact Upd.refl _ _) | (with_reducible refine Upd.drew ?_) | (with_reducible refine Upd.setCell ?_ (by intro _; rfl) _))) (by
                  unfold cellsC
                  rw [HOV.out]
                  exact by simp only [World.setCell, World.drew, Array.getElem?_modify, if_true, HC4.out, Option.map_some, Option.isSome_none, Bool.false_eq_true, if_false, List.setIfInBounds_toArray, List.set_cons_zero, List.set_cons_succ] <;> rfl)
                exact ⟨k + 1, S1, by omega, rfl, by first | rfl | go_num, hfin.1, hfin.2, by have := HFE.out; rw [show K + 54 * k + 54 = K + 54 * (k + 1) by omega] at this; exact this⟩
    · have hkl : k = X.length := by omega
      have hi : ¬ ((k : Int) < X.length) := by omega
      subst hkl
      have hff := HFD.out.feed
      rw [List.drop_length] at hff
      have HFF := Lib.hid (show S' = F from hff)
      clear hff
      go_wp2_with fail
      go_end0
      rw [← HFF.out]
      exact ⟨rfl, HS.out, HU.out⟩
end Go.Proofs.YtendkmldecoogaaDoor.StepGo
namespace Go.Proofs.YtendkmldecoogaaDoor.StepGo
open Go Go.RowKit Go.Proofs.YtendkmldecoogaaDoor Go.Proofs.YtendkmldecoogaaDoor.Kit Go.Proofs.YtendkmldecoogaaDoor.Round Go.Proofs.YtendkmldecoogaaDoor.Seg Go.Proofs.YtendkmldecoogaaDoor.Collect Go.Proofs.YtendkmldecoogaaDoor.Utf Go.Proofs.YtendkmldecoogaaDoor.It Go.Proofs.YtendkmldecoogaaDoor.ItGo Go.Proofs.YtendkmldecoogaaDoor.Ref2c Go.Proofs.YtendkmldecoogaaDoor.Dt Go.Proofs.YtendkmldecoogaaDoor.Mo Go.Proofs.YtendkmldecoogaaDoor.MoNew Go.Proofs.YtendkmldecoogaaDoor.Cu Go.Proofs.YtendkmldecoogaaDoor.CutRun Go.Proofs.YtendkmldecoogaaDoor.CutTokens Go.Proofs.YtendkmldecoogaaDoor.ScanLaw Go.Proofs.YtendkmldecoogaaDoor.StepLaw Go.Proofs.YtendkmldecoogaaDoor.StepRun Go.Proofs.YtendkmldecoogaaDoor.Scan
attribute [local irreducible] wpQuiet wpStill
set_option linter.unusedSimpArgs false

variable {W W' : World} {base cb tb sb most : Nat} {en : Bool} {at' : Nat} {S S' : Sx} {D : Dt}

set_option maxRecDepth 100000 in
theorem answer_calls (W : World) (h : St W base cb tb sb most en at' S) :
    Calls Tryd.prog 90 #[.pointer (some ⟨cb, 0, none⟩)] W fun e w' => ∃ v, e = .returned v ∧ TRow w' base v S.out ∧ w'.heap[cb]? = some (.cells (cellsC cb tb sb most (.slice none 0 0) en at' { S with out := [] }) 149 (0, 0)) ∧ Upd (fun b => b = cb) W w' := by
  obtain ⟨v, hc, hr⟩ := h.cell
  have HC := Lib.hid hc
  have HR := Lib.hid hr
  unfold cellsC at HC
  clear h hc hr
  have c16 := cell_at HC.out 16
  have cf := free_all HC.out
  have cz := lt_of_heap HC.out
  simp only [List.getElem?_toArray, List.getElem?_cons_zero, List.getElem?_cons_succ] at c16
  go_enter Tryd.func90, Tryd.ntmps90
  go_wp2_with fail
  obtain ⟨V, hV⟩ : ∃ z, W.setCell ⟨cb, 16, none⟩ (.slice none 0 0) = z := ⟨_, rfl⟩
  have hu : Upd (fun b => b = cb) W V := by rw [← hV]; exact by repeat (first | (with_reducible exact Upd.refl _ _) | (with_reducible refine Upd.drew ?_) | (with_reducible refine Upd.setCell ?_ (by intro _; rfl) _))
  have hcell : V.heap[cb]? = some (.cells (cellsC cb tb sb most (.slice none 0 0) en at' { S with out := [] }) 149 (0, 0)) := by
    rw [← hV]
    unfold cellsC
    exact by simp only [World.setCell, World.drew, Array.getElem?_modify, if_true, HC.out, Option.map_some, Option.isSome_none, Bool.false_eq_true, if_false, List.setIfInBounds_toArray, List.set_cons_zero, List.set_cons_succ] <;> rfl
  rw [hV]
  refine bodyPost_ret (v := v) (by simp [results, Tryd.results90, go_sem, *]) rfl (⟨v, rfl, Seg.upd HR.out hu (fun k hk hh => by rw [hh] at hk; exact no_own HR.out HC.out (by decide) hk), hcell, hu⟩)

theorem feed_bc {F : Sx} : ∀ {X : List It} {K : Nat} {S : Sx}, 1 ≤ most → Fd D most K F S X → Bc (K + 54 * X.length) F
  | [], K, S, _, h => by
    have := h.feed
    simp only [List.map_nil, StepLaw.feed] at this
    rw [← this]
    exact h.bc.up (by omega)
  | x :: X, K, S, hm, h => by
    obtain ⟨h1, h2, h3⟩ := Fd.next hm h
    rw [List.length_cons]
    cases ho : (oneF most S (ixOf D x)).over with
    | true => rw [h2 ho]; exact h1.up (by omega)
    | false =>
      by_cases hs : most < sure (oneF most S (ixOf D x))
      · rw [(h3 ho).1 hs]
        exact ⟨by have := h1.tb; simp only; omega, by have := h1.out; simp only; omega, by have := h1.many; simp only; omega, h1.letter, h1.last, h1.sp⟩
      · exact (feed_bc hm ((h3 ho).2 hs)).up (by omega)
theorem comp_len (a : Nat) (l : List UInt8) : (comp a l).1.length ≤ l.length := by
  have h1 := (comp_items l a).2.2.1
  have h2 := items_len l a
  rw [← h1, List.length_append] at h2
  omega
theorem one_le4 (a : Nat) (l : List UInt8) : (one a l).bytes ≤ 4 := by
  rw [one_bytes]
  rcases width_cases l with h | h | h | h | h <;> (split <;> omega)
theorem items_le4 (l : List UInt8) : ∀ a x, x ∈ items a l → x.bytes ≤ 4 := by
  induction l using ind with
  | h0 => intro a x h; simp [items_nil] at h
  | h1 l hl ih =>
    intro a x h
    rw [items_cons a hl, List.mem_cons, one_bytes_eq a 0] at h
    rcases h with rfl | h
    · exact one_le4 a l
    · exact ih _ _ h
theorem comp_le4 (l : List UInt8) (a : Nat) : ∀ x, x ∈ (comp a l).1 → x.bytes ≤ 4 := fun x h => by
  have h1 := (comp_items l a).2.2.1
  exact items_le4 l a x (by rw [← h1]; exact List.mem_append_left _ h)

/-- A Cutter that took a text, is not over and not ended; all of it was made since w0. -/
structure CutAt (w0 : World) (D : Dt) (most cb tb sb : Nat) (W : World) (hv : Value) (l : List UInt8) : Prop where
  cell : ∃ S, W.heap[cb]? = some (.cells (cellsC cb tb sb most (.slice none 0 0) false l.length S) 149 (0, 0)) ∧ Run D most l S ∧ Bc (216 * l.length) S
  scan : ScanAt w0.heap.size W sb l hv
  lo : w0.heap.size ≤ cb
  ne : cb ≠ sb
  bel : Below w0.heap.size w0 W
  tab : TabOk w0 D tb
  tabs : Tabs w0
  good : Good.Good D
  most : 1 ≤ most ∧ most ≤ 65536
/-- A Cutter that is ended or over. -/
def Shut (W : World) (cb n : Nat) (ov : Bool) : Prop := ∃ tb sb most v en S, W.heap[cb]? = some (.cells (cellsC cb tb sb most v en n S) 149 (0, 0)) ∧ S.over = ov ∧ (en = true ∨ ov = true)

theorem CutAt.upd {w0 : World} {hv : Value} {l : List UInt8} {X : Nat → Prop} (h : CutAt w0 D most cb tb sb W hv l) (hu : Upd X W W') (h1 : ¬ X cb) (h2 : ¬ X sb) (h3 : ∀ b, hv.ownBlock = some b → ¬ X b) (h4 : ∀ b, b < w0.heap.size → ¬ X b) : CutAt w0 D most cb tb sb W' hv l := by
  obtain ⟨S, hc, hr⟩ := h.cell
  exact ⟨⟨S, Upd.mem hu hc h1, hr⟩, h.scan.upd hu h2 h3, h.lo, h.ne, h.bel.trans (hu.below h.bel.size h4), h.tab, h.tabs, h.good, h.most⟩
theorem CutAt.below {w0 : World} {hv : Value} {l : List UInt8} (h : CutAt w0 D most cb tb sb W hv l) (hb : Below W.heap.size W W') : CutAt w0 D most cb tb sb W' hv l :=
  h.upd (X := fun _ => False) (Upd.of_below hb) id id (fun _ _ => id) (fun _ _ => id)
theorem Shut.upd {n : Nat} {ov : Bool} {X : Nat → Prop} (h : Shut W cb n ov) (hu : Upd X W W') (h1 : ¬ X cb) : Shut W' cb n ov := by
  obtain ⟨tb, sb, most, v, en, S, hc, hr⟩ := h
  exact ⟨tb, sb, most, v, en, S, Upd.mem hu hc h1, hr⟩
/-- What a Cutter's own blocks are. -/
def Own (cb sb : Nat) (hv : Value) (b : Nat) : Prop := b = cb ∨ b = sb ∨ hv.ownBlock = some b

set_option maxHeartbeats 2000000 in
set_option maxRecDepth 100000 in
theorem Put_calls (w0 : World) (hv : Value) (l : List UInt8) (c : UInt8) (W : World) (h : CutAt w0 D most cb tb sb W hv l) (hl : l.length ≤ 4000) :
    Calls Tryd.prog 53 #[.pointer (some ⟨cb, 0, none⟩), .int .u8 c.toNat] W fun e w' => ∃ v hv', e = .returned v ∧ TRow w' W.heap.size v ((tolds D most (l ++ [c])).drop (tolds D most l).length) ∧
      tolds D most (l ++ [c]) = tolds D most l ++ (tolds D most (l ++ [c])).drop (tolds D most l).length ∧ Upd (Own cb sb hv) W w' ∧ (∀ b, hv'.ownBlock = some b → W.heap.size ≤ b) ∧
      (Overs D most (l ++ [c]) → Shut w' cb (l.length + 1) true) ∧ (¬ Overs D most (l ++ [c]) → CutAt w0 D most cb tb sb w' hv' (l ++ [c])) := by
  obtain ⟨S, hc, hrun, hbc⟩ := h.cell
  have hcw := lt_of_heap hc
  have hov := hrun.over
  have hm1 := h.most
  obtain ⟨W1, hW1⟩ : ∃ z, W.setCell ⟨cb, 19, none⟩ (.int .i64 ((l.length : Int) + 1)) = z := ⟨_, rfl⟩
  have hu1 : Upd (fun b => b = cb) W W1 := by rw [← hW1]; exact by repeat (first | (with_reducible exact Upd.refl _ _) | (with_reducible refine Upd.drew ?_) | (with_reducible refine Upd.setCell ?_ (by intro _; rfl) _))
  have hc1 : W1.heap[cb]? = some (.cells (cellsC cb tb sb most (.slice none 0 0) false (l.length + 1) S) 149 (0, 0)) := by
    rw [← hW1]
    unfold cellsC at hc ⊢
    exact by simp only [World.setCell, World.drew, Array.getElem?_modify, if_true, hc, Option.map_some, Option.isSome_none, Bool.false_eq_true, if_false, List.setIfInBounds_toArray, List.set_cons_zero, List.set_cons_succ] <;> rfl
  have hst1 : St W1 W.heap.size cb tb sb most false (l.length + 1) S := ⟨⟨_, hc1, by rw [hrun.out]; exact Seg.nil _ _ _ _⟩, hcw, hu1.size⟩
  have hnv : ¬ hv.ownBlock = some cb := no_own h.scan.r hc (by decide)
  have hscan1 := h.scan.upd hu1 (fun e => h.ne e.symm) (fun b hb e => hnv (by rw [hb, e]))
  have htb : TabsB w0.heap.size W1 := (TabsB.of h.tabs h.bel).upd hu1 (fun b hb e => by have := h.lo; omega)
  have HPS := Lib.hid (Scan.Put_calls w0.heap.size sb l hv c W1 hscan1 (by omega) htb)
  have HH := Lib.hid h
  have HC := Lib.hid hc
  have HC1 := Lib.hid hc1
  have HU1 := Lib.hid hu1
  have HST1 := Lib.hid hst1
  have HRUN := Lib.hid hrun
  have HBC := Lib.hid hbc
  have HNV := Lib.hid hnv
  have HW1 := Lib.hid hW1
  unfold cellsC at HC HC1
  rw [hov] at HC HC1
  have hw1 : IntKind.i64.wrap ((l.length : Int) + 1) = ((l.length + 1 : Nat) : Int) := by rw [i64w _ (by omega) (by omega)]; omega
  clear hc hrun hbc hov hu1 hc1 hst1 hnv hscan1 htb h hW1
  have c1 := cell_at HC.out 1
  have c17 := cell_at HC.out 17
  have c18 := cell_at HC.out 18
  have c19 := cell_at HC.out 19
  have cf := free_all HC.out
  have cz := lt_of_heap HC.out
  simp only [List.getElem?_toArray, List.getElem?_cons_zero, List.getElem?_cons_succ] at c1 c17 c18 c19
  go_enter Tryd.func53, Tryd.ntmps53
  go_upto_region 4 with fail
  rw [HW1.out]
  clear c1 c17 c18 c19 cf cz
  have c1 := cell_at HC1.out 1
  have cz := lt_of_heap HC1.out
  simp only [List.getElem?_toArray, List.getElem?_cons_zero, List.getElem?_cons_succ] at c1
  go_wp2_with fail
  refine HPS.out.mono ?_
  rintro e W2 ⟨v2, hv', rfl, hs2, hn2, hi2, hu2⟩
  have hst2 : St W2 W.heap.size cb tb sb most false (l.length + 1) S := by
    obtain ⟨v, q1, q2⟩ := HST1.out.cell
    have hn : ¬ (cb = sb ∨ hv.ownBlock = some cb) := fun hh => hh.elim HH.out.ne HNV.out
    refine ⟨⟨v, Upd.mem hu2 q1 hn, Seg.upd q2 hu2 (fun b hb hh => ?_)⟩, hcw, Nat.le_trans HST1.out.hi hu2.size⟩
    have := (Seg.lt q2 b hb).1
    rcases hh with hh | hh
    · have := lt_of_heap HH.out.scan.c; omega
    · have := (Seg.lt HH.out.scan.r b hh).2; omega
  obtain ⟨X, hX⟩ : ∃ X, (comp (comp 0 l).2 (rest l ++ [c])).1 = X := ⟨_, rfl⟩
  obtain ⟨F, hF⟩ : ∃ F, StepLaw.feed most S (X.map (ixOf D)) = F := ⟨_, rfl⟩
  have hput := HRUN.out.put hm1.1 HH.out.good c
  rw [hX, hF] at hput
  rw [hX] at hi2
  have hXL : L (l ++ [c]) = L l ++ X := by unfold L; rw [comp_put, hX]
  have hxlen : X.length ≤ 4 := by
    rw [← hX]
    have h1 := comp_len (comp 0 l).2 (rest l ++ [c])
    have h2 := rest_len l
    rw [List.length_append, List.length_singleton] at h1
    omega
  have hxw : ∀ x, x ∈ X → WfI D x ∧ x.bytes ≤ 4 := fun x hx => ⟨L_wf HH.out.good (l ++ [c]) x (by rw [hXL]; exact List.mem_append_right _ hx), comp_le4 (rest l ++ [c]) (comp 0 l).2 x (by rw [hX]; exact hx)⟩
  have hle : (R D l).2 ≤ (L l).length := ofI_le (D := D) false _ (L l) (Nat.le_refl _)
  have hcont := (L_cont (l ++ [c])).drop (R D l).2
  rw [hXL, List.drop_append_of_le_length hle, List.take_append_of_le_length hle, Nat.zero_add, ← HRUN.out.told] at hcont
  have hfd : Fd D most (216 * l.length) F S X := ⟨hF, HRUN.out.over, ⟨_, HRUN.out.inv, hcont⟩, HBC.out, hxw⟩
  have hbF := feed_bc hm1.1 hfd
  have hU2 : Upd (Own cb sb hv) W W2 := (HU1.out.mono fun b _ hh => .inl hh).trans (hu2.mono fun b _ hh => .inr hh)
  have hw2 : Below w0.heap.size w0 W2 := HH.out.bel.trans (hU2.below HH.out.bel.size (fun b hb hh => by
    rcases hh with hh | hh | hh
    · have := HH.out.lo; omega
    · have := HH.out.scan.lo; omega
    · have := (Seg.lt HH.out.scan.r b hh).1; omega))
  have HK := Lib.hid (items_calls w0 X v2 W1.heap.size (216 * l.length) F W2 hst2 HH.out.tab hw2 HH.out.lo hi2 hfd (by omega) (by omega) ⟨hm1.1, by omega⟩)
  have HS2 := Lib.hid hs2
  have HN2 := Lib.hid hn2
  have HU2 := Lib.hid hU2
  have HW2 := Lib.hid hw2
  have HBF := Lib.hid hbF
  have HPUT := Lib.hid hput
  clear hst2 hX hF hput hXL hxw hle hcont hfd hbF hU2 hw2 hs2 hn2 hi2 hu2 HPS c1 cz
  go_wp2_with fail
  refine HK.out.mono ?_
  rintro e W3 ⟨rfl, hst3, hu3⟩
  have HKA := Lib.hid (answer_calls W3 hst3)
  have HS3 := Lib.hid (HS2.out.upd hu3 (fun hh => by
    rcases hh with hh | ⟨_, c, hh⟩
    · exact HH.out.ne hh.symm
    · rw [HS2.out.c] at hh; simp at hh) (fun b hb hh => by
    rcases hh with hh | ⟨_, c, hh⟩
    · have := HN2.out b hb; have := HU1.out.size; omega
    · exact no_own HS2.out.r hh (by decide) hb))
  have HU3 := Lib.hid (grow HU2.out hu3 (fun b hb hh => by
    rcases hh with hh | ⟨hh, _⟩
    · exact .inl hh
    · omega) : Upd (Own cb sb hv) W W3)
  clear hst3 hu3 HK
  go_wp2_with fail
  refine HKA.out.mono ?_
  rintro e W4 ⟨v, rfl, hr4, hc4, hu4⟩
  have hS4 := HS3.out.upd hu4 (fun e => HH.out.ne e.symm) (fun b hb e => by have := HN2.out b hb; have := HU1.out.size; omega)
  have hU4 : Upd (Own cb sb hv) W W4 := HU3.out.trans (hu4.mono fun b _ hh => .inl hh)
  have hn4 : ∀ b, hv'.ownBlock = some b → W.heap.size ≤ b := fun b hb => by have := HN2.out b hb; have := HU1.out.size; omega
  have hw4 : Below w0.heap.size w0 W4 := HH.out.bel.trans (hU4.below HH.out.bel.size (fun b hb hh => by
    rcases hh with hh | hh | hh
    · have := HH.out.lo; omega
    · have := HH.out.scan.lo; omega
    · have := (Seg.lt HH.out.scan.r b hh).1; omega))
  have HFIN := Lib.hid (show TRow W4 W.heap.size v ((tolds D most (l ++ [c])).drop (tolds D most l).length) ∧ tolds D most (l ++ [c]) = tolds D most l ++ (tolds D most (l ++ [c])).drop (tolds D most l).length ∧ Upd (Own cb sb hv) W W4 ∧ (∀ b, hv'.ownBlock = some b → W.heap.size ≤ b) ∧
      (Overs D most (l ++ [c]) → Shut W4 cb (l.length + 1) true) ∧ (¬ Overs D most (l ++ [c]) → CutAt w0 D most cb tb sb W4 hv' (l ++ [c])) by
    obtain ⟨p1, p2, p3, p4⟩ := HPUT.out
    refine ⟨by rw [← p1]; exact hr4, by rw [← p1]; exact p2, hU4, hn4, fun ho => ⟨tb, sb, most, _, false, _, hc4, p3.2 ho, .inr rfl⟩, fun ho => ⟨⟨_, by rw [List.length_append, List.length_singleton]; exact hc4, p4 ho, ?_⟩, hS4, HH.out.lo, HH.out.ne, hw4, HH.out.tab, HH.out.tabs, HH.out.good, hm1⟩⟩
    have hb := HBF.out
    rw [List.length_append, List.length_singleton]
    exact ⟨by have := hb.tb; simp only; omega, Nat.zero_le _, by have := hb.many; simp only; omega, hb.letter, hb.last, hb.sp⟩)
  clear hr4 hc4 hu4 hS4 hU4 hn4 hw4 HKA
  go_wp2_with fail
  refine bodyPost_ret (v := v) (by simp [results, Tryd.results53, go_sem, *]) rfl (⟨v, hv', rfl, HFIN.out⟩)
end Go.Proofs.YtendkmldecoogaaDoor.StepGo
namespace Go.Proofs.YtendkmldecoogaaDoor.StepGo
open Go Go.RowKit Go.Proofs.YtendkmldecoogaaDoor Go.Proofs.YtendkmldecoogaaDoor.Kit Go.Proofs.YtendkmldecoogaaDoor.Round Go.Proofs.YtendkmldecoogaaDoor.Seg Go.Proofs.YtendkmldecoogaaDoor.Collect Go.Proofs.YtendkmldecoogaaDoor.Utf Go.Proofs.YtendkmldecoogaaDoor.It Go.Proofs.YtendkmldecoogaaDoor.ItGo Go.Proofs.YtendkmldecoogaaDoor.Ref2c Go.Proofs.YtendkmldecoogaaDoor.Dt Go.Proofs.YtendkmldecoogaaDoor.Mo Go.Proofs.YtendkmldecoogaaDoor.MoNew Go.Proofs.YtendkmldecoogaaDoor.Cu Go.Proofs.YtendkmldecoogaaDoor.CutAll Go.Proofs.YtendkmldecoogaaDoor.CutRun Go.Proofs.YtendkmldecoogaaDoor.CutTokens Go.Proofs.YtendkmldecoogaaDoor.ScanLaw Go.Proofs.YtendkmldecoogaaDoor.StepLaw Go.Proofs.YtendkmldecoogaaDoor.StepRun Go.Proofs.YtendkmldecoogaaDoor.Scan
attribute [local irreducible] wpQuiet wpStill
set_option linter.unusedSimpArgs false

variable {W W' : World} {base cb tb sb most : Nat} {en : Bool} {at' : Nat} {S S' : Sx} {D : Dt}

/-! ### A Cutter that is ended or over -/
theorem Shut.put {n : Nat} {ov : Bool} (c : Nat) (h : Shut W cb n ov) : Calls Tryd.prog 53 #[.pointer (some ⟨cb, 0, none⟩), .int .u8 c] W fun e w' => e = .returned (.slice none 0 0) ∧ w' = W := by
  obtain ⟨tb, sb, most, v, en, S, hc, ho, hh⟩ := h
  have HC := Lib.hid hc
  unfold cellsC at HC
  rw [ho] at HC
  clear hc ho
  have c17 := cell_at HC.out 17
  have c18 := cell_at HC.out 18
  have cz := lt_of_heap HC.out
  simp only [List.getElem?_toArray, List.getElem?_cons_zero, List.getElem?_cons_succ] at c17 c18
  go_enter Tryd.func53, Tryd.ntmps53
  cases en with
  | true =>
    go_wp2_with fail
    go_ret
    exact ⟨rfl, rfl⟩
  | false =>
    obtain rfl : ov = true := hh.resolve_left (by simp)
    go_wp2_with fail
    go_ret
    exact ⟨rfl, rfl⟩
theorem Shut.ends {n : Nat} {ov : Bool} (h : Shut W cb n ov) : Calls Tryd.prog 54 #[.pointer (some ⟨cb, 0, none⟩)] W fun e w' => e = .returned (.slice none 0 0) ∧ w' = W := by
  obtain ⟨tb, sb, most, v, en, S, hc, ho, hh⟩ := h
  have HC := Lib.hid hc
  unfold cellsC at HC
  rw [ho] at HC
  clear hc ho
  have c17 := cell_at HC.out 17
  have c18 := cell_at HC.out 18
  have cz := lt_of_heap HC.out
  simp only [List.getElem?_toArray, List.getElem?_cons_zero, List.getElem?_cons_succ] at c17 c18
  go_enter Tryd.func54, Tryd.ntmps54
  cases en with
  | true =>
    go_wp2_with fail
    go_ret
    exact ⟨rfl, rfl⟩
  | false =>
    obtain rfl : ov = true := hh.resolve_left (by simp)
    go_wp2_with fail
    go_ret
    exact ⟨rfl, rfl⟩
theorem Shut.held {n : Nat} {ov : Bool} (h : Shut W cb n ov) : Calls Tryd.prog 56 #[.pointer (some ⟨cb, 0, none⟩)] W fun e w' => e = .returned (.int .i64 0) ∧ w' = W := by
  obtain ⟨tb, sb, most, v, en, S, hc, ho, hh⟩ := h
  have HC := Lib.hid hc
  unfold cellsC at HC
  rw [ho] at HC
  clear hc ho
  have c17 := cell_at HC.out 17
  have c18 := cell_at HC.out 18
  have cz := lt_of_heap HC.out
  simp only [List.getElem?_toArray, List.getElem?_cons_zero, List.getElem?_cons_succ] at c17 c18
  go_enter Tryd.func56, Tryd.ntmps56
  cases en with
  | true =>
    go_wp2_with fail
    go_ret
    exact ⟨rfl, rfl⟩
  | false =>
    obtain rfl : ov = true := hh.resolve_left (by simp)
    go_wp2_with fail
    go_ret
    exact ⟨rfl, rfl⟩
theorem over_cell {v : Value} {en : Bool} {n : Nat} (hc : W.heap[cb]? = some (.cells (cellsC cb tb sb most v en n S) 149 (0, 0))) : Calls Tryd.prog 63 #[.pointer (some ⟨cb, 0, none⟩)] W fun e w' => e = .returned (.bool S.over) ∧ w' = W := by
  have HC := Lib.hid hc
  unfold cellsC at HC
  clear hc
  have c18 := cell_at HC.out 18
  have cz := lt_of_heap HC.out
  simp only [List.getElem?_toArray, List.getElem?_cons_zero, List.getElem?_cons_succ] at c18
  go_enter Tryd.func63, Tryd.ntmps63
  go_wp2_with fail
  go_ret
  exact ⟨rfl, rfl⟩
theorem at_cell {v : Value} {en : Bool} {n : Nat} (hc : W.heap[cb]? = some (.cells (cellsC cb tb sb most v en n S) 149 (0, 0))) : Calls Tryd.prog 58 #[.pointer (some ⟨cb, 0, none⟩)] W fun e w' => e = .returned (.int .i64 n) ∧ w' = W := by
  have HC := Lib.hid hc
  unfold cellsC at HC
  clear hc
  have c19 := cell_at HC.out 19
  have cz := lt_of_heap HC.out
  simp only [List.getElem?_toArray, List.getElem?_cons_zero, List.getElem?_cons_succ] at c19
  go_enter Tryd.func58, Tryd.ntmps58
  go_wp2_with fail
  go_ret
  exact ⟨rfl, rfl⟩
theorem Shut.over {n : Nat} {ov : Bool} (h : Shut W cb n ov) : Calls Tryd.prog 63 #[.pointer (some ⟨cb, 0, none⟩)] W fun e w' => e = .returned (.bool ov) ∧ w' = W := by
  obtain ⟨tb, sb, most, v, en, S, hc, ho, hh⟩ := h
  rw [← ho]
  exact over_cell hc
theorem Shut.place {n : Nat} {ov : Bool} (h : Shut W cb n ov) : Calls Tryd.prog 58 #[.pointer (some ⟨cb, 0, none⟩)] W fun e w' => e = .returned (.int .i64 n) ∧ w' = W := by
  obtain ⟨tb, sb, most, v, en, S, hc, ho, hh⟩ := h
  exact at_cell hc

/-! ### One that runs -/
variable {w0 : World} {hv : Value} {l : List UInt8}
theorem CutAt.over (h : CutAt w0 D most cb tb sb W hv l) : Calls Tryd.prog 63 #[.pointer (some ⟨cb, 0, none⟩)] W fun e w' => e = .returned (.bool false) ∧ w' = W := by
  obtain ⟨S, hc, hr, _⟩ := h.cell
  rw [← hr.over]
  exact over_cell hc
theorem CutAt.place (h : CutAt w0 D most cb tb sb W hv l) : Calls Tryd.prog 58 #[.pointer (some ⟨cb, 0, none⟩)] W fun e w' => e = .returned (.int .i64 l.length) ∧ w' = W := by
  obtain ⟨S, hc, hr, _⟩ := h.cell
  exact at_cell hc

/-- How many bytes the pre-tokens have that can be told. -/
def endN (D : Dt) (l : List UInt8) : Nat := sum ((L l).take (R D l).2)
theorem endN_le (D : Dt) (l : List UInt8) : endN D l ≤ l.length := by
  unfold endN
  have h1 := comp_end l
  have h2 := sum_items l 0
  rw [← h1, sum_append] at h2
  have h3 : sum ((L l).take (R D l).2) + sum ((L l).drop (R D l).2) = sum (L l) := by rw [← sum_append, List.take_append_drop]
  unfold L at h3 ⊢
  omega
theorem CutAt.held (h : CutAt w0 D most cb tb sb W hv l) (hl : l.length ≤ 100000000) : Calls Tryd.prog 56 #[.pointer (some ⟨cb, 0, none⟩)] W fun e w' => e = .returned (.int .i64 (l.length - endN D l : Nat)) ∧ Below W.heap.size W w' := by
  obtain ⟨S, hc, hr, _⟩ := h.cell
  have hle := endN_le D l
  have ht : S.told = endN D l := hr.told
  have HC := Lib.hid hc
  unfold cellsC at HC
  rw [hr.over, ht] at HC
  have hw1 : IntKind.i64.wrap ((l.length : Int) - endN D l) = ((l.length - endN D l : Nat) : Int) := by rw [i64w _ (by omega) (by omega)]; omega
  clear hc hr ht h
  have c15 := cell_at HC.out 15
  have c17 := cell_at HC.out 17
  have c18 := cell_at HC.out 18
  have c19 := cell_at HC.out 19
  have cz := lt_of_heap HC.out
  simp only [List.getElem?_toArray, List.getElem?_cons_zero, List.getElem?_cons_succ] at c15 c17 c18 c19
  go_enter Tryd.func56, Tryd.ntmps56
  go_wp2_with fail
  go_region
  go_wp2_with fail
  go_ret
  exact ⟨rfl, (Below.refl _ _).drew⟩

/-! ### New -/
theorem New_nil (n : Int) (w : World) : Calls Tryd.prog 52 #[.pointer none, .int .i64 n] w fun e w' => e = .returned (.tuple #[.pointer none, .int .i64 1]) ∧ w' = w := by
  go_enter Tryd.func52, Tryd.ntmps52
  go_wp2_with fail
  go_ret2
  exact ⟨rfl, rfl⟩
theorem New_bad (mb : Nat) (n : Int) (w : World) (hn : n < 1 ∨ 65536 < n) : Calls Tryd.prog 52 #[.pointer (some ⟨mb, 0, none⟩), .int .i64 n] w fun e w' => e = .returned (.tuple #[.pointer none, .int .i64 1]) ∧ w' = w := by
  by_cases h1 : n < 1
  · clear hn
    go_enter Tryd.func52, Tryd.ntmps52
    go_wp2_with fail
    go_ret2
    exact ⟨rfl, rfl⟩
  · have h2 : 65536 < n := hn.resolve_left h1
    clear hn
    go_enter Tryd.func52, Tryd.ntmps52
    go_wp2_with fail
    go_ret2
    exact ⟨rfl, rfl⟩
set_option maxHeartbeats 1000000 in
set_option maxRecDepth 100000 in
theorem New_calls (mb most : Nat) (w : World) (hM : Mod w mb D) (hT : Tabs w) (hm : 1 ≤ most ∧ most ≤ 65536) :
    Calls Tryd.prog 52 #[.pointer (some ⟨mb, 0, none⟩), .int .i64 most] w fun e w' => ∃ cb tb sb, e = .returned (.tuple #[.pointer (some ⟨cb, 0, none⟩), .int .i64 0]) ∧ CutAt w D most cb tb sb w' (.slice none 0 0) [] ∧ Below w.heap.size w w' := by
  obtain ⟨tb, hTab, hK⟩ := Table_mod hM
  have HK := Lib.hid (hK w (Below.refl _ _))
  have HT := Lib.hid hT
  have HTB := Lib.hid hTab
  have HG := Lib.hid (Good.of_mod hM)
  clear hM hT hTab hK
  have h1 : ¬ ((most : Int) < 1) := by omega
  have h2 : ¬ ((65536 : Int) < most) := by omega
  go_enter Tryd.func52, Tryd.ntmps52
  go_wp2_with fail
  refine HK.out.mono ?_
  rintro e w' ⟨rfl, rfl⟩
  go_wp2_with fail
  refine (Scan.New_calls w).mono ?_
  rintro e W1 ⟨rfl, hW1⟩
  have hsc := ScanAt.new w.heap.size w (Nat.le_refl _)
  rw [← hW1] at hsc
  have hb1 : Below w.heap.size w W1 := by rw [hW1]; exact (Below.refl _ _).alloc (Nat.le_refl _) _
  have HSC := Lib.hid hsc
  have HB1 := Lib.hid hb1
  clear hW1 hsc hb1
  go_wp2_with fail
  go_ret2
  have hba : Below W1.heap.size W1 (W1.alloc (.cells (cellsC W1.heap.size tb w.heap.size most (.slice none 0 0) false 0 S0) 149)) := (Below.refl _ _).alloc (Nat.le_refl _) _
  exact ⟨W1.heap.size, tb, w.heap.size, rfl, ⟨⟨S0, alloc_new rfl, Run.new D most, ⟨Nat.zero_le _, Nat.zero_le _, Nat.zero_le _, by decide, by decide, fun h => by cases h⟩⟩, HSC.out.below hba, HB1.out.size, by have := lt_of_heap HSC.out.c; omega, chain HB1.out hba, HTB.out, HT.out, HG.out, hm⟩, chain HB1.out hba⟩

/-! ### End -/

set_option maxHeartbeats 4000000 in
set_option maxRecDepth 100000 in
theorem End_calls (w0 : World) (hv : Value) (l : List UInt8) (W : World) (h : CutAt w0 D most cb tb sb W hv l) (hl : l.length ≤ 4000) :
    Calls Tryd.prog 54 #[.pointer (some ⟨cb, 0, none⟩)] W fun e w' => ∃ v, e = .returned v ∧ TRow w' W.heap.size v ((toldE D most l).drop (tolds D most l).length) ∧
      toldE D most l = tolds D most l ++ (toldE D most l).drop (tolds D most l).length ∧ Upd (Own cb sb hv) W w' ∧ Shut w' cb l.length (overE D most l) := by
  obtain ⟨S, hc, hrun, hbc⟩ := h.cell
  have hcw := lt_of_heap hc
  have hov := hrun.over
  have hm1 := h.most
  obtain ⟨W1, hW1⟩ : ∃ z, W.setCell ⟨cb, 17, none⟩ (.bool true) = z := ⟨_, rfl⟩
  have hu1 : Upd (fun b => b = cb) W W1 := by rw [← hW1]; exact by repeat (first | (with_reducible exact Upd.refl _ _) | (with_reducible refine Upd.drew ?_) | (with_reducible refine Upd.setCell ?_ (by intro _; rfl) _))
  have hc1 : W1.heap[cb]? = some (.cells (cellsC cb tb sb most (.slice none 0 0) true l.length S) 149 (0, 0)) := by
    rw [← hW1]
    unfold cellsC at hc ⊢
    exact by simp only [World.setCell, World.drew, Array.getElem?_modify, if_true, hc, Option.map_some, Option.isSome_none, Bool.false_eq_true, if_false, List.setIfInBounds_toArray, List.set_cons_zero, List.set_cons_succ] <;> rfl
  have hst1 : St W1 W.heap.size cb tb sb most true l.length S := ⟨⟨_, hc1, by rw [hrun.out]; exact Seg.nil _ _ _ _⟩, hcw, hu1.size⟩
  have hnv : ¬ hv.ownBlock = some cb := no_own h.scan.r hc (by decide)
  have hscan1 := h.scan.upd hu1 (fun e => h.ne e.symm) (fun b hb e => hnv (by rw [hb, e]))
  have htb : TabsB w0.heap.size W1 := (TabsB.of h.tabs h.bel).upd hu1 (fun b hb e => by have := h.lo; omega)
  have HPS := Lib.hid (Scan.End_calls w0.heap.size sb l hv W1 hscan1 (by omega) htb.1)
  have HH := Lib.hid h
  have HC := Lib.hid hc
  have HC1 := Lib.hid hc1
  have HU1 := Lib.hid hu1
  have HST1 := Lib.hid hst1
  have HRUN := Lib.hid hrun
  have HBC := Lib.hid hbc
  have HNV := Lib.hid hnv
  have HW1 := Lib.hid hW1
  unfold cellsC at HC HC1
  rw [hov] at HC HC1
  clear hc hrun hbc hov hu1 hc1 hst1 hnv hscan1 htb h hW1
  have c1 := cell_at HC.out 1
  have c17 := cell_at HC.out 17
  have c18 := cell_at HC.out 18
  have cf := free_all HC.out
  have cz := lt_of_heap HC.out
  simp only [List.getElem?_toArray, List.getElem?_cons_zero, List.getElem?_cons_succ] at c1 c17 c18
  go_enter Tryd.func54, Tryd.ntmps54
  go_upto_region 4 with fail
  rw [HW1.out]
  clear c1 c17 c18 cf cz
  have c1 := cell_at HC1.out 1
  have cz := lt_of_heap HC1.out
  simp only [List.getElem?_toArray, List.getElem?_cons_zero, List.getElem?_cons_succ] at c1
  go_wp2_with fail
  refine HPS.out.mono ?_
  rintro e W2 ⟨v2, rfl, hi2, hu2⟩
  have hst2 : St W2 W.heap.size cb tb sb most true l.length S := by
    obtain ⟨v, q1, q2⟩ := HST1.out.cell
    refine ⟨⟨v, Upd.mem hu2 q1 HH.out.ne, Seg.upd q2 hu2 (fun b hb hh => ?_)⟩, hcw, Nat.le_trans HST1.out.hi hu2.size⟩
    have := (Seg.lt q2 b hb).1
    have := lt_of_heap HH.out.scan.c
    omega
  obtain ⟨X, hX⟩ : ∃ X, items (comp 0 l).2 (rest l) = X := ⟨_, rfl⟩
  obtain ⟨F, hF⟩ : ∃ F, StepLaw.feed most S (X.map (ixOf D)) = F := ⟨_, rfl⟩
  have hput := HRUN.out.fin hm1.1 HH.out.good
  rw [hX, hF] at hput
  rw [hX] at hi2
  have hXL : items 0 l = L l ++ X := by rw [← hX]; exact (comp_end l).symm
  have hxlen : X.length ≤ 4 := by
    rw [← hX]
    have h1 := items_len (rest l) (comp 0 l).2
    have h2 := rest_len l
    omega
  have hxw : ∀ x, x ∈ X → WfI D x ∧ x.bytes ≤ 4 := fun x hx => ⟨items_wf HH.out.good l 0 x (by rw [hXL]; exact List.mem_append_right _ hx), items_le4 (rest l) (comp 0 l).2 x (by rw [hX]; exact hx)⟩
  have hle : (R D l).2 ≤ (L l).length := ofI_le (D := D) false _ (L l) (Nat.le_refl _)
  have hcont := (Cont.items 0 l).drop (R D l).2
  rw [hXL, List.drop_append_of_le_length hle, List.take_append_of_le_length hle, Nat.zero_add, ← HRUN.out.told] at hcont
  have hfd : Fd D most (216 * l.length) F S X := ⟨hF, HRUN.out.over, ⟨_, HRUN.out.inv, hcont⟩, HBC.out, hxw⟩
  have hbF := feed_bc hm1.1 hfd
  have hU2 : Upd (Own cb sb hv) W W2 := (HU1.out.mono fun b _ hh => .inl hh).trans (hu2.mono fun b _ hh => .inr (.inl hh))
  have hw2 : Below w0.heap.size w0 W2 := HH.out.bel.trans (hU2.below HH.out.bel.size (fun b hb hh => by
    rcases hh with hh | hh | hh
    · have := HH.out.lo; omega
    · have := HH.out.scan.lo; omega
    · have := (Seg.lt HH.out.scan.r b hh).1; omega))
  have HK := Lib.hid (items_calls w0 X v2 W1.heap.size (216 * l.length) F W2 hst2 HH.out.tab hw2 HH.out.lo hi2 hfd (by omega) (by omega) ⟨hm1.1, by omega⟩)
  have HU2 := Lib.hid hU2
  have HBF := Lib.hid hbF
  have HFN := Lib.hid hput
  clear hst2 hX hF hput hXL hxw hle hcont hfd hbF hU2 hw2 hi2 hu2 HPS c1 cz
  go_wp2_with fail
  refine HK.out.mono ?_
  rintro e W3 ⟨rfl, hst3, hu3⟩
  have HS3 := Lib.hid hst3
  have HU3 := Lib.hid hu3
  clear hst3 hu3 HK
  obtain ⟨vc, hvc, _⟩ := HS3.out.cell
  have HC3 := Lib.hid hvc
  unfold cellsC at HC3
  clear hvc
  have c4 := cell_at HC3.out 4
  have c18 := cell_at HC3.out 18
  have cz := lt_of_heap HC3.out
  simp only [List.getElem?_toArray, List.getElem?_cons_zero, List.getElem?_cons_succ] at c4 c18
  by_cases hq : F.over = false ∧ F.st = 1
  · have HQ := Lib.hid hq
    rw [hq.1] at c18
    rw [hq.2] at c4
    clear hq
    have HBS := Lib.hid (unq_bc (most := most) HBF.out)
    have HKU := Lib.hid (unquoted_calls W3 HS3.out HBF.out.bd (by omega) (by omega))
    go_wp2_with fail
    refine HKU.out.mono ?_
    rintro e W4 ⟨rfl, hs4, hu4⟩
    have HS4 := Lib.hid hs4
    have HU4 := Lib.hid (Mine.trans HU3.out hu4)
    clear hs4 hu4 HKU c4 c18 cz
    obtain ⟨vd, hvd, _⟩ := HS4.out.cell
    have HC5 := Lib.hid hvd
    unfold cellsC at HC5
    clear hvd
    have c4 := cell_at HC5.out 4
    have c5 := cell_at HC5.out 5
    have c6 := cell_at HC5.out 6
    have c18 := cell_at HC5.out 18
    have cz := lt_of_heap HC5.out
    simp only [List.getElem?_toArray, List.getElem?_cons_zero, List.getElem?_cons_succ] at c4 c5 c6 c18
    cases hov : (unq most F).over with
    | true =>
      rw [hov] at c18
      have HE := Lib.hid (show StepLaw.fin most F = unq most F by
        unfold StepLaw.fin; simp only [if_pos HQ.out]
        rw [if_pos hov])
      clear hov
      go_wp2_with fail
      refine (answer_calls W4 HS4.out).mono ?_
      rintro e W6 ⟨v, rfl, hr6, hc6, hu6⟩
      have HSQ := Lib.hid ((HS4.out.hi))
      have HUQ := HU4
      rw [← HE.out] at hr6 hc6
      have hU6 : Upd (Own cb sb hv) W W6 := (grow HU2.out (HUQ.out.trans (hu6.mono fun b _ hh => .inl hh)) (fun b hb hh => by
        rcases hh with hh | ⟨hh, _⟩
        · exact .inl hh
        · omega) : Upd (Own cb sb hv) W W6)
      have HFIN := Lib.hid (show TRow W6 W.heap.size v ((toldE D most l).drop (tolds D most l).length) ∧ toldE D most l = tolds D most l ++ (toldE D most l).drop (tolds D most l).length ∧ Upd (Own cb sb hv) W W6 ∧ Shut W6 cb l.length (overE D most l) by
        obtain ⟨p1, p2, p3⟩ := HFN.out
        exact ⟨by rw [← p1]; exact hr6, by rw [← p1]; exact p2, hU6, ⟨tb, sb, most, _, true, _, hc6, p3, .inl rfl⟩⟩)
      clear hr6 hc6 hu6 hU6
      go_wp2_with fail
      refine bodyPost_ret (v := v) (by simp [results, Tryd.results54, go_sem, *]) rfl (⟨v, rfl, HFIN.out⟩)
    | false =>
      rw [hov] at c18
      by_cases q2 : (unq most F).st = 2
      · have HE := Lib.hid (show StepLaw.fin most F = tell most (unq most F) (unq most F).bytes (unq most F).sort by
          unfold StepLaw.fin; simp only [if_pos HQ.out]
          rw [if_neg (by rw [hov]; simp), if_pos q2])
        rw [q2] at c4
        clear hov q2
        have hbd := HBS.out
        go_wp2_with fail
        refine region_tail 9 (by kernel_rfl) (by kernel_rfl) ?_
        simp only [List.take_succ_cons, List.take_zero, List.drop_succ_cons, List.drop_zero]
        repeat (first | still_step)
        refine wpStill_nil ?_
        have hd5 : Below (W4).heap.size W4 (W4).drew := (Below.refl _ _).drew
        have HK5 := Lib.hid (tell_calls (unq most F).bytes (unq most F).sort (W4).drew (HS4.out.below hd5) ⟨by have := hbd.tb; omega, by have := hbd.out; omega, by omega⟩)
        have HUD := Lib.hid (Mine.trans HU4.out (Mine.below hd5))
        clear hbd hd5
        go_wp2_with fail
        refine HK5.out.mono ?_
        rintro e W5 ⟨rfl, hs5, hu5⟩
        have HS5 := Lib.hid hs5
        have HUQ := Lib.hid (Mine.trans HUD.out hu5)
        clear hs5 hu5 HK5 c4 c5 c6 c18 cz
        go_wp2_with fail
        refine (answer_calls W5 HS5.out).mono ?_
        rintro e W6 ⟨v, rfl, hr6, hc6, hu6⟩
        rw [← HE.out] at hr6 hc6
        have hU6 : Upd (Own cb sb hv) W W6 := (grow HU2.out (HUQ.out.trans (hu6.mono fun b _ hh => .inl hh)) (fun b hb hh => by
          rcases hh with hh | ⟨hh, _⟩
          · exact .inl hh
          · omega) : Upd (Own cb sb hv) W W6)
        have HFIN := Lib.hid (show TRow W6 W.heap.size v ((toldE D most l).drop (tolds D most l).length) ∧ toldE D most l = tolds D most l ++ (toldE D most l).drop (tolds D most l).length ∧ Upd (Own cb sb hv) W W6 ∧ Shut W6 cb l.length (overE D most l) by
          obtain ⟨p1, p2, p3⟩ := HFN.out
          exact ⟨by rw [← p1]; exact hr6, by rw [← p1]; exact p2, hU6, ⟨tb, sb, most, _, true, _, hc6, p3, .inl rfl⟩⟩)
        clear hr6 hc6 hu6 hU6
        go_wp2_with fail
        refine bodyPost_ret (v := v) (by simp [results, Tryd.results54, go_sem, *]) rfl (⟨v, rfl, HFIN.out⟩)
      · have q2' : (((unq most F).st : Int) == 2) = false := by simp; omega
        by_cases q3 : (unq most F).st = 3
        · have HE := Lib.hid (show StepLaw.fin most F = tell most (unq most F) (unq most F).bytes 5 by
            unfold StepLaw.fin; simp only [if_pos HQ.out]
            rw [if_neg (by rw [hov]; simp), if_neg q2, if_pos q3])
          rw [q3] at c4 q2'
          clear hov q2 q3
          have hbd := HBS.out
          have HK5 := Lib.hid (tell_calls (unq most F).bytes 5 W4 HS4.out ⟨by have := hbd.tb; omega, by have := hbd.out; omega, by omega⟩)
          clear hbd
          go_wp2_with fail
          refine HK5.out.mono ?_
          rintro e W5 ⟨rfl, hs5, hu5⟩
          have HS5 := Lib.hid hs5
          have HUQ := Lib.hid (Mine.trans HU4.out hu5)
          clear hs5 hu5 HK5 c4 c5 c6 c18 cz
          go_wp2_with fail
          refine (answer_calls W5 HS5.out).mono ?_
          rintro e W6 ⟨v, rfl, hr6, hc6, hu6⟩
          rw [← HE.out] at hr6 hc6
          have hU6 : Upd (Own cb sb hv) W W6 := (grow HU2.out (HUQ.out.trans (hu6.mono fun b _ hh => .inl hh)) (fun b hb hh => by
            rcases hh with hh | ⟨hh, _⟩
            · exact .inl hh
            · omega) : Upd (Own cb sb hv) W W6)
          have HFIN := Lib.hid (show TRow W6 W.heap.size v ((toldE D most l).drop (tolds D most l).length) ∧ toldE D most l = tolds D most l ++ (toldE D most l).drop (tolds D most l).length ∧ Upd (Own cb sb hv) W W6 ∧ Shut W6 cb l.length (overE D most l) by
            obtain ⟨p1, p2, p3⟩ := HFN.out
            exact ⟨by rw [← p1]; exact hr6, by rw [← p1]; exact p2, hU6, ⟨tb, sb, most, _, true, _, hc6, p3, .inl rfl⟩⟩)
          clear hr6 hc6 hu6 hU6
          go_wp2_with fail
          refine bodyPost_ret (v := v) (by simp [results, Tryd.results54, go_sem, *]) rfl (⟨v, rfl, HFIN.out⟩)
        · have q3' : (((unq most F).st : Int) == 3) = false := by simp; omega
          have HE := Lib.hid (show StepLaw.fin most F = unq most F by
            unfold StepLaw.fin; simp only [if_pos HQ.out]
            rw [if_neg (by rw [hov]; simp), if_neg q2, if_neg q3])
          skip
          clear hov q2 q3
          go_wp2_with fail
          refine (answer_calls W4 HS4.out).mono ?_
          rintro e W6 ⟨v, rfl, hr6, hc6, hu6⟩
          have HUQ := HU4
          rw [← HE.out] at hr6 hc6
          have hU6 : Upd (Own cb sb hv) W W6 := (grow HU2.out (HUQ.out.trans (hu6.mono fun b _ hh => .inl hh)) (fun b hb hh => by
            rcases hh with hh | ⟨hh, _⟩
            · exact .inl hh
            · omega) : Upd (Own cb sb hv) W W6)
          have HFIN := Lib.hid (show TRow W6 W.heap.size v ((toldE D most l).drop (tolds D most l).length) ∧ toldE D most l = tolds D most l ++ (toldE D most l).drop (tolds D most l).length ∧ Upd (Own cb sb hv) W W6 ∧ Shut W6 cb l.length (overE D most l) by
            obtain ⟨p1, p2, p3⟩ := HFN.out
            exact ⟨by rw [← p1]; exact hr6, by rw [← p1]; exact p2, hU6, ⟨tb, sb, most, _, true, _, hc6, p3, .inl rfl⟩⟩)
          clear hr6 hc6 hu6 hU6
          go_wp2_with fail
          refine bodyPost_ret (v := v) (by simp [results, Tryd.results54, go_sem, *]) rfl (⟨v, rfl, HFIN.out⟩)
  · have HQ := Lib.hid hq
    have HBS := Lib.hid (HBF.out.up (show 216 * l.length + 54 * X.length ≤ 216 * l.length + 54 * X.length + 27 by omega))
    have hgo : F.over = true ∨ (F.over = false ∧ ((F.st : Int) == 1) = false) := by
      cases ho : F.over with
      | true => exact .inl rfl
      | false => exact .inr ⟨rfl, by simp; exact fun h => hq ⟨ho, by omega⟩⟩
    clear hq c4 c18 cz
    obtain ⟨vd, hvd, _⟩ := HS3.out.cell
    have HC5 := Lib.hid hvd
    unfold cellsC at HC5
    clear hvd
    have c4 := cell_at HC5.out 4
    have c5 := cell_at HC5.out 5
    have c6 := cell_at HC5.out 6
    have c18 := cell_at HC5.out 18
    have cz := lt_of_heap HC5.out
    simp only [List.getElem?_toArray, List.getElem?_cons_zero, List.getElem?_cons_succ] at c4 c5 c6 c18
    cases hov : (F).over with
    | true =>
      rw [hov] at c18
      have HE := Lib.hid (show StepLaw.fin most F = F by
        unfold StepLaw.fin; simp only [if_neg HQ.out]
        rw [if_pos hov])
      clear hov
      go_wp2_with fail
      refine (answer_calls W3 HS3.out).mono ?_
      rintro e W6 ⟨v, rfl, hr6, hc6, hu6⟩
      have HSQ := Lib.hid ((HS3.out.hi))
      have HUQ := HU3
      rw [← HE.out] at hr6 hc6
      have hU6 : Upd (Own cb sb hv) W W6 := (grow HU2.out (HUQ.out.trans (hu6.mono fun b _ hh => .inl hh)) (fun b hb hh => by
        rcases hh with hh | ⟨hh, _⟩
        · exact .inl hh
        · omega) : Upd (Own cb sb hv) W W6)
      have HFIN := Lib.hid (show TRow W6 W.heap.size v ((toldE D most l).drop (tolds D most l).length) ∧ toldE D most l = tolds D most l ++ (toldE D most l).drop (tolds D most l).length ∧ Upd (Own cb sb hv) W W6 ∧ Shut W6 cb l.length (overE D most l) by
        obtain ⟨p1, p2, p3⟩ := HFN.out
        exact ⟨by rw [← p1]; exact hr6, by rw [← p1]; exact p2, hU6, ⟨tb, sb, most, _, true, _, hc6, p3, .inl rfl⟩⟩)
      clear hr6 hc6 hu6 hU6
      go_wp2_with fail
      refine bodyPost_ret (v := v) (by simp [results, Tryd.results54, go_sem, *]) rfl (⟨v, rfl, HFIN.out⟩)
    | false =>
      rw [hov] at c18
      by_cases q2 : (F).st = 2
      · have HE := Lib.hid (show StepLaw.fin most F = tell most (F) (F).bytes (F).sort by
          unfold StepLaw.fin; simp only [if_neg HQ.out]
          rw [if_neg (by rw [hov]; simp), if_pos q2])
        rw [q2] at c4
        clear hov q2
        have hbd := HBS.out
        go_wp2_with fail
        refine region_tail 9 (by kernel_rfl) (by kernel_rfl) ?_
        simp only [List.take_succ_cons, List.take_zero, List.drop_succ_cons, List.drop_zero]
        repeat (first | still_step)
        refine wpStill_nil ?_
        have hd5 : Below (W3).heap.size W3 (W3).drew := (Below.refl _ _).drew
        have HK5 := Lib.hid (tell_calls (F).bytes (F).sort (W3).drew (HS3.out.below hd5) ⟨by have := hbd.tb; omega, by have := hbd.out; omega, by omega⟩)
        have HUD := Lib.hid (Mine.trans HU3.out (Mine.below hd5))
        clear hbd hd5
        go_wp2_with fail
        refine HK5.out.mono ?_
        rintro e W5 ⟨rfl, hs5, hu5⟩
        have HS5 := Lib.hid hs5
        have HUQ := Lib.hid (Mine.trans HUD.out hu5)
        clear hs5 hu5 HK5 c4 c5 c6 c18 cz
        go_wp2_with fail
        refine (answer_calls W5 HS5.out).mono ?_
        rintro e W6 ⟨v, rfl, hr6, hc6, hu6⟩
        rw [← HE.out] at hr6 hc6
        have hU6 : Upd (Own cb sb hv) W W6 := (grow HU2.out (HUQ.out.trans (hu6.mono fun b _ hh => .inl hh)) (fun b hb hh => by
          rcases hh with hh | ⟨hh, _⟩
          · exact .inl hh
          · omega) : Upd (Own cb sb hv) W W6)
        have HFIN := Lib.hid (show TRow W6 W.heap.size v ((toldE D most l).drop (tolds D most l).length) ∧ toldE D most l = tolds D most l ++ (toldE D most l).drop (tolds D most l).length ∧ Upd (Own cb sb hv) W W6 ∧ Shut W6 cb l.length (overE D most l) by
          obtain ⟨p1, p2, p3⟩ := HFN.out
          exact ⟨by rw [← p1]; exact hr6, by rw [← p1]; exact p2, hU6, ⟨tb, sb, most, _, true, _, hc6, p3, .inl rfl⟩⟩)
        clear hr6 hc6 hu6 hU6
        go_wp2_with fail
        refine bodyPost_ret (v := v) (by simp [results, Tryd.results54, go_sem, *]) rfl (⟨v, rfl, HFIN.out⟩)
      · have q2' : (((F).st : Int) == 2) = false := by simp; omega
        by_cases q3 : (F).st = 3
        · have HE := Lib.hid (show StepLaw.fin most F = tell most (F) (F).bytes 5 by
            unfold StepLaw.fin; simp only [if_neg HQ.out]
            rw [if_neg (by rw [hov]; simp), if_neg q2, if_pos q3])
          rw [q3] at c4 q2'
          clear hov q2 q3
          have hbd := HBS.out
          have HK5 := Lib.hid (tell_calls (F).bytes 5 W3 HS3.out ⟨by have := hbd.tb; omega, by have := hbd.out; omega, by omega⟩)
          clear hbd
          go_wp2_with fail
          refine HK5.out.mono ?_
          rintro e W5 ⟨rfl, hs5, hu5⟩
          have HS5 := Lib.hid hs5
          have HUQ := Lib.hid (Mine.trans HU3.out hu5)
          clear hs5 hu5 HK5 c4 c5 c6 c18 cz
          go_wp2_with fail
          refine (answer_calls W5 HS5.out).mono ?_
          rintro e W6 ⟨v, rfl, hr6, hc6, hu6⟩
          rw [← HE.out] at hr6 hc6
          have hU6 : Upd (Own cb sb hv) W W6 := (grow HU2.out (HUQ.out.trans (hu6.mono fun b _ hh => .inl hh)) (fun b hb hh => by
            rcases hh with hh | ⟨hh, _⟩
            · exact .inl hh
            · omega) : Upd (Own cb sb hv) W W6)
          have HFIN := Lib.hid (show TRow W6 W.heap.size v ((toldE D most l).drop (tolds D most l).length) ∧ toldE D most l = tolds D most l ++ (toldE D most l).drop (tolds D most l).length ∧ Upd (Own cb sb hv) W W6 ∧ Shut W6 cb l.length (overE D most l) by
            obtain ⟨p1, p2, p3⟩ := HFN.out
            exact ⟨by rw [← p1]; exact hr6, by rw [← p1]; exact p2, hU6, ⟨tb, sb, most, _, true, _, hc6, p3, .inl rfl⟩⟩)
          clear hr6 hc6 hu6 hU6
          go_wp2_with fail
          refine bodyPost_ret (v := v) (by simp [results, Tryd.results54, go_sem, *]) rfl (⟨v, rfl, HFIN.out⟩)
        · have q3' : (((F).st : Int) == 3) = false := by simp; omega
          have HE := Lib.hid (show StepLaw.fin most F = F by
            unfold StepLaw.fin; simp only [if_neg HQ.out]
            rw [if_neg (by rw [hov]; simp), if_neg q2, if_neg q3])
          have q1' := (hgo.resolve_left (by rw [hov]; simp)).2
          clear hov q2 q3
          go_wp2_with fail
          refine (answer_calls W3 HS3.out).mono ?_
          rintro e W6 ⟨v, rfl, hr6, hc6, hu6⟩
          have HUQ := HU3
          rw [← HE.out] at hr6 hc6
          have hU6 : Upd (Own cb sb hv) W W6 := (grow HU2.out (HUQ.out.trans (hu6.mono fun b _ hh => .inl hh)) (fun b hb hh => by
            rcases hh with hh | ⟨hh, _⟩
            · exact .inl hh
            · omega) : Upd (Own cb sb hv) W W6)
          have HFIN := Lib.hid (show TRow W6 W.heap.size v ((toldE D most l).drop (tolds D most l).length) ∧ toldE D most l = tolds D most l ++ (toldE D most l).drop (tolds D most l).length ∧ Upd (Own cb sb hv) W W6 ∧ Shut W6 cb l.length (overE D most l) by
            obtain ⟨p1, p2, p3⟩ := HFN.out
            exact ⟨by rw [← p1]; exact hr6, by rw [← p1]; exact p2, hU6, ⟨tb, sb, most, _, true, _, hc6, p3, .inl rfl⟩⟩)
          clear hr6 hc6 hu6 hU6
          go_wp2_with fail
          refine bodyPost_ret (v := v) (by simp [results, Tryd.results54, go_sem, *]) rfl (⟨v, rfl, HFIN.out⟩)
end Go.Proofs.YtendkmldecoogaaDoor.StepGo
