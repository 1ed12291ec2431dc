/-
  classes' Kind of an item; cut.run: the items that have the first one's kind.
-/
import Derived.Test.YtkjkgpdfhmoenaaDoorCu
import Derived.Test.YtkjkgpdfhmoenaaDoorItGo
import Derived.Test.YtkjkgpdfhmoenaaDoorCollect
import Derived.Test.YtkjkgpdfhmoenaaDoorMoNew
import Derived.WalkMore
import Derived.Sort.CutIn
namespace Go.Proofs.YtkjkgpdfhmoenaaDoor.CutRun
open Go Go.RowKit Go.Proofs.YtkjkgpdfhmoenaaDoor.Kit Go.Proofs.YtkjkgpdfhmoenaaDoor.Range Go.Proofs.YtkjkgpdfhmoenaaDoor.Round Go.Proofs.YtkjkgpdfhmoenaaDoor.Utf Go.Proofs.YtkjkgpdfhmoenaaDoor.It Go.Proofs.YtkjkgpdfhmoenaaDoor.ItGo Go.Proofs.YtkjkgpdfhmoenaaDoor.Dt Go.Proofs.YtkjkgpdfhmoenaaDoor.Chk4 Go.Proofs.YtkjkgpdfhmoenaaDoor.Tab Go.Proofs.YtkjkgpdfhmoenaaDoor.Mo Go.Proofs.YtkjkgpdfhmoenaaDoor.MoNew Go.Proofs.YtkjkgpdfhmoenaaDoor.Cu
attribute [local irreducible] wpQuiet
attribute [local go_sem] Oper.semAt_some

/-- A right table. -/
def TabOk (w : World) (D : Dt) (tb : Nat) : Prop := ∃ p, Tab.Tab w D tb p ∧ Ok D 3
theorem TabOk.below {w w' : World} {D : Dt} {tb : Nat} (h : TabOk w D tb) (hb : Below w.heap.size w w') : TabOk w' D tb := by
  obtain ⟨p, h1, h2⟩ := h
  exact ⟨p, h1.below hb, h2⟩

set_option maxRecDepth 100000 in
theorem Kind_calls (D : Dt) (tb : Nat) (x : It) (w : World) (h : TabOk w D tb) :
    Calls Tryd.prog 110 #[.pointer (some ⟨tb, 0, none⟩), encI x] w fun e w' => e = .returned (.int .i64 (kind D x)) ∧ Below w.heap.size w w' := by
  obtain ⟨p, h1, h2⟩ := h
  have H := Lib.hid (fun w' (hb : Below w.heap.size w w') => Tab.Of_calls D tb p x.rune w' (h1.below hb) h2)
  obtain ⟨kv, hkv⟩ : ∃ z, kind D x = z := ⟨_, rfl⟩
  have HK := Lib.hid hkv
  rw [hkv]
  clear hkv
  unfold encI
  obtain ⟨W1, hW1⟩ : ∃ Xz, w.alloc (.cells #[.int .i64 x.from', .int .i64 x.bytes, .int .i32 x.rune, .bool x.bad] 60) = Xz := ⟨_, rfl⟩
  obtain ⟨rb, hrb⟩ : ∃ xz, w.heap.size = xz := ⟨_, rfl⟩
  have hb : Below w.heap.size w W1 := by rw [← hW1]; exact (Below.refl _ _).alloc (Nat.le_refl _) _
  have HX := Lib.hid (by rw [← hW1, ← hrb]; exact alloc_new rfl : W1.heap[rb]? = some (.cells #[.int .i64 x.from', .int .i64 x.bytes, .int .i32 x.rune, .bool x.bad] 60 (0, 0)))
  have EW1 := Lib.hid hW1
  have Erb := Lib.hid hrb
  clear hW1 hrb
  have HB := Lib.hid hb
  clear h1 h2 hb
  have c0 := cell_at HX.out 0
  have c1 := cell_at HX.out 1
  have c2 := cell_at HX.out 2
  have c3 := cell_at HX.out 3
  have cz := lt_of_heap HX.out
  simp only [List.getElem?_toArray, List.getElem?_cons_zero, List.getElem?_cons_succ] at c0 c1 c2 c3
  go_enter Tryd.func110, Tryd.ntmps110
  go_upto_region 1 with fail
  rw [EW1.out, Erb.out]
  cases hbad : x.bad with
  | true =>
    rw [hbad] at c3
    have HV := Lib.hid (show 4 = kv by rw [← HK.out]; simp [kind, hbad])
    clear hbad
    go_wp2_with fail
    go_ret
    exact ⟨ret_int HV.out, HB.out⟩
  | false =>
    rw [hbad] at c3
    have HV := Lib.hid (show kindOf D x.rune = kv by rw [← HK.out]; simp [kind, hbad])
    clear hbad
    go_wp2_with fail
    refine (H.out W1 HB.out).mono ?_
    rintro e W2 ⟨rfl, hb2⟩
    have HB := Lib.hid (chain HB.out hb2)
    clear hb2
    go_wp2_with fail
    go_ret
    exact ⟨ret_int HV.out, HB.out⟩

set_option maxRecDepth 100000 in
theorem Table_mod {w : World} {mb : Nat} {D : Dt} (h : Mod w mb D) : ∃ tb, TabOk w D tb ∧ ∀ W, Below w.heap.size w W →
    Calls Tryd.prog 109 #[.pointer (some ⟨mb, 0, none⟩)] W fun e w' => e = .returned (.pointer (some ⟨tb, 0, none⟩)) ∧ W = w' := by
  obtain ⟨q, tb, p, mp, h1, h2, h3, h4⟩ := h.ex
  refine ⟨tb, ⟨p, h3, h.ok3⟩, fun W hW => ?_⟩
  have h1' := (hW.block _ (lt_of_heap h1)).trans h1
  have c5 := cell_at h1' 5
  have cz := lt_of_heap h1'
  simp only [List.getElem?_toArray, List.getElem?_cons_zero, List.getElem?_cons_succ] at c5
  clear h h1 h1' h2 h3 h4 hW
  go_enter Tryd.func109, Tryd.ntmps109
  go_wp2_with fail
  go_ret
  exact ⟨rfl, rfl⟩

theorem run_said {D : Dt} {t : List UInt8} : Ending.returned (.tuple #[.int .i64 (sum ((items 0 t).take (Cu.runN D t)) : Int), .int .i64 (if Cu.runN D t = 0 then 0 else ((items 0 t).getD (Cu.runN D t - 1) default).bytes : Int), .int .i64 (if Cu.runN D t = 0 then 0 else headK D t)]) = .returned (.tuple #[.int .i64 (runB D t), .int .i64 (lastB D t), .int .i64 (headK D t)]) := by
  by_cases ht : t = []
  · subst ht
    simp [Cu.runN, runB, lastB, headK, items_nil, runI]
  · have h1 := Cu.runN_pos (D := D) ht
    rw [if_neg (by omega), if_neg (by omega)]
    unfold runB lastB
    rw [if_neg ht]

/-- What run's cells hold behind k items. -/
structure St (D : Dt) (t : List UInt8) (bn bl bk i : Nat) (w0 W : World) : Prop where
  u : Upd (fun b => b = bn ∨ b = bl ∨ b = bk) w0 W
  n : W.heap[bn]? = some (.cells #[.int .i64 (sum ((items 0 t).take i))] 3 (0, 0))
  l : W.heap[bl]? = some (.cells #[.int .i64 (if i = 0 then 0 else ((items 0 t).getD (i - 1) default).bytes)] 3 (0, 0))
  k : W.heap[bk]? = some (.cells #[.int .i64 (if i = 0 then 0 else headK D t)] 3 (0, 0))
  le : i ≤ Cu.runN D t

theorem St.keep {D : Dt} {t : List UInt8} {bn bl bk i : Nat} {w0 A B : World} (h : St D t bn bl bk i w0 A) {X : Nat → Prop} (hu : Upd X A B) (h1 : ¬ X bn) (h2 : ¬ X bl) (h3 : ¬ X bk) (h4 : ∀ b, b < w0.heap.size → ¬ X b) : St D t bn bl bk i w0 B :=
  ⟨grow h.u hu (fun b hb hx => (h4 b hb hx).elim), Upd.mem hu h.n h1, Upd.mem hu h.l h2, Upd.mem hu h.k h3, h.le⟩

/-- The next item is taken. -/
theorem St.next {D : Dt} {t : List UInt8} {bn bl bk i : Nat} {w0 A B : World} {n x : Int} {v : Value} (hu : Upd (fun b => b = bn ∨ b = bl ∨ b = bk) w0 A) (hn : A.heap[bn]? = some (.cells #[.int .i64 n] 3 (0, 0)))
    (hl : A.heap[bl]? = some (.cells #[v] 3 (0, 0))) (hk : A.heap[bk]? = some (.cells #[.int .i64 (headK D t)] 3 (0, 0))) (hle : i + 1 ≤ Cu.runN D t) (hx : x = ((items 0 t).getD i default).bytes) (hs : n = sum ((items 0 t).take i))
    (o1 : bn < bl) (o2 : bl < bk) (hB : (A.setCell ⟨bn, 0, none⟩ (.int .i64 (n + x))).setCell ⟨bl, 0, none⟩ (.int .i64 x) = B) :
    St D t bn bl bk (i + 1) w0 B ∧ Upd (fun b => b = bn ∨ b = bl ∨ b = bk) A B := by
  have u1 : Upd (fun b => b = bn) A (A.setCell ⟨bn, 0, none⟩ (.int .i64 (n + x))) := Upd.setCell (S := fun b => b = bn) (p := ⟨bn, 0, none⟩) (Upd.refl _ _) (fun _ => rfl) _
  have u2 : Upd (fun b => b = bl) (A.setCell ⟨bn, 0, none⟩ (.int .i64 (n + x))) B := by rw [← hB]; exact Upd.setCell (S := fun b => b = bl) (p := ⟨bl, 0, none⟩) (Upd.refl _ _) (fun _ => rfl) _
  have u : Upd (fun b => b = bn ∨ b = bl ∨ b = bk) A B := (u1.mono fun _ _ h => .inl h).trans (u2.mono fun _ _ h => .inr (.inl h))
  have hn1 := heap_set hn 0 (.int .i64 (n + x))
  have hl1 := Upd.mem u1 hl (by omega)
  refine ⟨⟨grow hu u (fun _ _ h => h), ?_, ?_, ?_, hle⟩, u⟩
  · rw [Upd.mem u2 hn1 (by omega), sum_take_succ (by have := runN_le D t; omega), hx, hs]
    rfl
  · rw [← hB, heap_set hl1, hx]
    simp
  · rw [Upd.mem u2 (Upd.mem u1 hk (by omega)) (by omega)]
    simp

set_option maxHeartbeats 4000000 in
set_option maxRecDepth 100000 in
theorem run_calls (D : Dt) (mb : Nat) (s : ByteArray) (w : World) (h : Mod w mb D) (hT : Tabs w) (hl : s.size ≤ 140737488355328) :
    Calls Tryd.prog 95 #[.pointer (some ⟨mb, 0, none⟩), .string s] w fun e w' => e = .returned (.tuple #[.int .i64 (runB D s.data.toList), .int .i64 (lastB D s.data.toList), .int .i64 (headK D s.data.toList)]) ∧ Below w.heap.size w w' := by
  have HM := Lib.hid h
  have HT := Lib.hid hT
  clear h hT
  refine calls_of_wp_marks Tryd.func95 rfl ?_
  simp only [Tryd.ntmps95, List.size_toArray, List.length_cons, List.length_nil, Nat.reduceAdd, Nat.reduceSub, Array.replicate_succ, Array.replicate_zero, List.push_toArray, List.append_toArray, List.nil_append, List.cons_append]
  obtain ⟨W1, hW1⟩ : ∃ Xz, w.alloc (.cells #[.pointer (some ⟨mb, 0, none⟩)] 27) = Xz := ⟨_, rfl⟩
  obtain ⟨bx, hbx⟩ : ∃ xz, w.heap.size = xz := ⟨_, rfl⟩
  have hb1 : Below w.heap.size w W1 := by rw [← hW1]; exact (Below.refl _ _).alloc (Nat.le_refl _) _
  have HX := Lib.hid (by rw [← hW1, ← hbx]; exact alloc_new rfl : W1.heap[bx]? = some (.cells #[.pointer (some ⟨mb, 0, none⟩)] 27 (0, 0)))
  have EW1 := Lib.hid hW1
  have Ebx := Lib.hid hbx
  clear hW1 hbx
  obtain ⟨W2, hW2⟩ : ∃ Xz, W1.alloc (.cells #[.int .i64 0] 3) = Xz := ⟨_, rfl⟩
  obtain ⟨bn, hbn⟩ : ∃ xz, W1.heap.size = xz := ⟨_, rfl⟩
  have hb2 : Below W1.heap.size W1 W2 := by rw [← hW2]; exact (Below.refl _ _).alloc (Nat.le_refl _) _
  have HN := Lib.hid (by rw [← hW2, ← hbn]; exact alloc_new rfl : W2.heap[bn]? = some (.cells #[.int .i64 0] 3 (0, 0)))
  have EW2 := Lib.hid hW2
  have Ebn := Lib.hid hbn
  clear hW2 hbn
  obtain ⟨W3, hW3⟩ : ∃ Xz, W2.alloc (.cells #[.int .i64 0] 3) = Xz := ⟨_, rfl⟩
  obtain ⟨bl, hbl⟩ : ∃ xz, W2.heap.size = xz := ⟨_, rfl⟩
  have hb3 : Below W2.heap.size W2 W3 := by rw [← hW3]; exact (Below.refl _ _).alloc (Nat.le_refl _) _
  have HL := Lib.hid (by rw [← hW3, ← hbl]; exact alloc_new rfl : W3.heap[bl]? = some (.cells #[.int .i64 0] 3 (0, 0)))
  have EW3 := Lib.hid hW3
  have Ebl := Lib.hid hbl
  clear hW3 hbl
  obtain ⟨W4, hW4⟩ : ∃ Xz, W3.alloc (.cells #[.int .i64 0] 3) = Xz := ⟨_, rfl⟩
  obtain ⟨bk, hbk⟩ : ∃ xz, W3.heap.size = xz := ⟨_, rfl⟩
  have hb4 : Below W3.heap.size W3 W4 := by rw [← hW4]; exact (Below.refl _ _).alloc (Nat.le_refl _) _
  have HK := Lib.hid (by rw [← hW4, ← hbk]; exact alloc_new rfl : W4.heap[bk]? = some (.cells #[.int .i64 0] 3 (0, 0)))
  have EW4 := Lib.hid hW4
  have Ebk := Lib.hid hbk
  clear hW4 hbk
  have o0 : w.heap.size ≤ bx := Nat.le_of_eq Ebx.out
  have o1 : bx < bn := by rw [← Ebn.out]; exact lt_of_heap HX.out
  have o2 : bn < bl := by rw [← Ebl.out]; exact lt_of_heap HN.out
  have o3 : bl < bk := by rw [← Ebk.out]; exact lt_of_heap HL.out
  have HX := Lib.hid ((hb2.block _ (lt_of_heap HX.out)).trans HX.out)
  have HB := Lib.hid (chain hb1 hb2)
  have HX := Lib.hid ((hb3.block _ (lt_of_heap HX.out)).trans HX.out)
  have HN := Lib.hid ((hb3.block _ (lt_of_heap HN.out)).trans HN.out)
  have HB := Lib.hid (chain HB.out hb3)
  have HX := Lib.hid ((hb4.block _ (lt_of_heap HX.out)).trans HX.out)
  have HN := Lib.hid ((hb4.block _ (lt_of_heap HN.out)).trans HN.out)
  have HL := Lib.hid ((hb4.block _ (lt_of_heap HL.out)).trans HL.out)
  have HB := Lib.hid (chain HB.out hb4)
  clear hb1 hb2 hb3 hb4
  have e1 : bx + 1 = bn := by rw [← Ebn.out, ← EW1.out, ← Ebx.out]; simp
  have e2 : bn + 1 = bl := by rw [← Ebl.out, ← EW2.out, ← Ebn.out]; simp
  have e3 : bl + 1 = bk := by rw [← Ebk.out, ← EW3.out, ← Ebl.out]; simp
  go_wp2_with fail
  rw [EW1.out, EW2.out, EW3.out, EW4.out, Ebx.out, e1, e2, e3]
  clear e1 e2 e3
  go_step3
  go_wp2_with fail
  go_step3
  go_wp2_with fail
  refine (Items_calls s W4).mono ?_
  rintro e W5 ⟨rfl, hW5⟩
  obtain ⟨bi, hbi⟩ : ∃ z, W4.heap.size = z := ⟨_, rfl⟩
  have o4 : bk < bi := by rw [← hbi]; exact lt_of_heap HK.out
  have hb : Below W4.heap.size W4 W5 := by rw [← hW5]; exact (Below.refl _ _).alloc (Nat.le_refl _) _
  have HI := Lib.hid (by rw [← hW5, ← hbi]; exact alloc_new rfl : W5.heap[bi]? = some (.cells #[.string s] 9 (0, 0)))
  have HX := Lib.hid ((hb.block _ (lt_of_heap HX.out)).trans HX.out)
  have HN := Lib.hid ((hb.block _ (lt_of_heap HN.out)).trans HN.out)
  have HL := Lib.hid ((hb.block _ (lt_of_heap HL.out)).trans HL.out)
  have HK := Lib.hid ((hb.block _ (lt_of_heap HK.out)).trans HK.out)
  have HB := Lib.hid (chain HB.out hb)
  have o5 : bi < W5.heap.size := lt_of_heap HI.out
  rw [hbi]
  clear hb hW5 hbi
  go_wp2_with fail
  refine range_outer (w0 := W5) (N := (items 0 s.data.toList).length) (Cap := fun b => b = bi ∨ b = Shelf.lays197_ren.g 3 ∨ b = Shelf.lays197_ren.g 4) (gf := 57) (lb := #[.pointer (some ⟨bi, 0, none⟩)]) (encs := fun k => #[encI ((items 0 s.data.toList).getD k default)]) rfl (Go.Proofs.enters_of Tryd.func57 (by kernel_rfl) rfl)
    (items_iter W5 bi s HI.out (HT.out.below HB.out) hl) (Below.refl _ _) (fun _ => rfl) ?cap
    (fun k S W => (∀ b, S b ↔ b = bn ∨ b = bl ∨ b = bk) ∧ St D s.data.toList bn bl bk k W5 W)
    (fun c k S W => (∀ b, S b ↔ b = bn ∨ b = bl ∨ b = bk) ∧ St D s.data.toList bn bl bk k W5 W ∧ Cu.runN D s.data.toList = k ∧ c = .exit 0)
    ?ki ?kx (fun b => b = bn ∨ b = bl ∨ b = bk) ⟨fun b => Iff.rfl, ⟨Upd.refl _ _, HN.out, HL.out, HK.out, Nat.zero_le _⟩⟩ ?s0 ?round ?done ?stop
  case cap =>
    have h3 := Tabs.lt3 (HT.out.below HB.out)
    rintro b (rfl | rfl | rfl)
    · exact o5
    · exact h3.1
    · exact h3.2
  case ki =>
    rintro k S A B ⟨hS, hst⟩ hu
    exact ⟨hS, hst.keep hu (fun h => h.2 ((hS _).2 (.inl rfl))) (fun h => h.2 ((hS _).2 (.inr (.inl rfl)))) (fun h => h.2 ((hS _).2 (.inr (.inr rfl)))) (fun b hb h => by have := h.1; omega)⟩
  case kx =>
    rintro c k S A B ⟨hS, hst, hc⟩ hu
    exact ⟨hS, hst.keep hu (fun h => h.2 ((hS _).2 (.inl rfl))) (fun h => h.2 ((hS _).2 (.inr (.inl rfl)))) (fun h => h.2 ((hS _).2 (.inr (.inr rfl)))) (fun b hb h => by have := h.1; omega), hc⟩
  case s0 =>
    have h3 := Tabs.lt3 HT.out
    rintro b (rfl | rfl | rfl) <;> exact ⟨by omega, by omega⟩
  case round =>
    rintro l k S A hk ⟨hS, hst⟩ h1 h2 h3 h4 h5 h6
    obtain ⟨x, hx⟩ : ∃ x, (items 0 s.data.toList).getD k default = x := ⟨_, rfl⟩
    rw [hx]
    unfold encI
    obtain ⟨A1, hA1⟩ : ∃ Xz, A.alloc (.cells #[.int .i64 x.from', .int .i64 x.bytes, .int .i32 x.rune, .bool x.bad] 60) = Xz := ⟨_, rfl⟩
    obtain ⟨bt, hbt⟩ : ∃ xz, A.heap.size = xz := ⟨_, rfl⟩
    have hbA : Below A.heap.size A A1 := by rw [← hA1]; exact (Below.refl _ _).alloc (Nat.le_refl _) _
    have HV := Lib.hid (by rw [← hA1, ← hbt]; exact alloc_new rfl : A1.heap[bt]? = some (.cells #[.int .i64 x.from', .int .i64 x.bytes, .int .i32 x.rune, .bool x.bad] 60 (0, 0)))
    have EA1 := Lib.hid hA1
    have Ebt := Lib.hid hbt
    clear hA1 hbt
    have HX0 := Lib.hid hx
    have H6 := Lib.hid h6
    have HSI := Lib.hid hS
    clear hx hst h5 h6 hS
    gi_wp2
    rw [EA1.out, Ebt.out]
    rw [Ebt.out] at hbA
    refine ⟨hbA, fun A2 hu hz hI2 hr2 => ?_⟩
    have HST := Lib.hid hI2.2
    have HVV := Lib.hid (Upd.mem hu HV.out (by have := Ebt.out; omega))
    have HBA := Lib.hid (HB.out.trans (HST.out.u.below HB.out.size (fun b hb h => by omega)))
    have HXA := Lib.hid (Upd.mem HST.out.u HX.out (by omega))
    have oA : A.heap.size = bt := Ebt.out
    clear hI2 hr2 hu hz hbA
    obtain ⟨tb, hto, htc⟩ := Table_mod (HM.out.below HBA.out)
    have HTC := Lib.hid htc
    have HKC := Lib.hid (fun (y : Later A2) => Kind_calls D tb x y.w (hto.below y.h))
    unfold encI at HKC
    obtain ⟨kv, hkv⟩ : ∃ z, kind D x = z := ⟨_, rfl⟩
    rw [hkv] at HKC
    have HKV := Lib.hid hkv
    clear hto htc hkv
    have x0 := cell_at HXA.out 0
    have xz := lt_of_heap HXA.out
    simp only [List.getElem?_toArray, List.getElem?_cons_zero] at x0
    have v0 := cell_at HVV.out 0
    have v1 := cell_at HVV.out 1
    have v2 := cell_at HVV.out 2
    have v3 := cell_at HVV.out 3
    have vz := lt_of_heap HVV.out
    simp only [List.getElem?_toArray, List.getElem?_cons_zero, List.getElem?_cons_succ] at v0 v1 v2 v3
    gi_upto_region 3 with fail
    refine Round.region_calm_in (by kernel_rfl) (by kernel_rfl) (by kernel_rfl) ?_
    repeat (quiet_step ((first | exact later_same (HTC.out _ (Later.chain (Below.refl _ _) _)) | exact later_call (HKC.out _))))
    refine wpQuiet_nil ?_
    rintro _ ⟨y, rfl⟩
    have HST := Lib.hid (HST.out.keep (X := fun _ => False) (Upd.of_below y.h) id id id (fun _ _ => id))
    have HVV := Lib.hid ((y.h.block _ vz).trans HVV.out)
    have HU2 := Lib.hid (Upd.of_below y.h : Upd (fun b => S b ∨ A.heap.size ≤ b) A2 y.w)
    generalize y.w = A3 at HST HVV HU2 ⊢
    clear y x0 xz v0 v1 v2 v3 vz HTC HKC HXA
    have hkN : k < (items 0 s.data.toList).length := hk
    have hpos : 0 < x.bytes := items_pos (a := 0) (l := s.data.toList) (by rw [← HX0.out]; simp only [List.getD, List.getElem?_eq_getElem hkN, Option.getD_some]; exact List.getElem_mem hkN)
    have hsum := sum_take_succ (a := 0) (l := s.data.toList) (c := k) hkN
    rw [HX0.out] at hsum
    have hsl := sum_take_le (k + 1) 0 s.data.toList
    rw [size_list] at hsl
    have hn := HST.out.n
    have hq := HST.out.l
    have hr := HST.out.k
    have hle := HST.out.le
    obtain ⟨nn, hnn⟩ : ∃ z, sum ((items 0 s.data.toList).take k) = z := ⟨_, rfl⟩
    rw [hnn] at hn hsum
    have hwr : IntKind.i64.wrap ((nn : Int) + x.bytes) = (nn : Int) + x.bytes := i64w _ (by omega) (by omega)
    have HNN := Lib.hid hnn
    by_cases hk0 : k = 0
    · subst hk0
      have hkv : kv = headK D s.data.toList := by
        rw [← HKV.out, ← HX0.out, head_eq D (fun h => by rw [h, items_nil] at hkN; cases hkN)]
      have hn0 : nn = 0 := by rw [← hnn]; rfl
      have hR := Cu.runN_pos (D := D) (l := s.data.toList) (fun h => by rw [h, items_nil] at hkN; cases hkN)
      simp only [if_true] at hq hr
      have HN := Lib.hid hn
      have HQ := Lib.hid hq
      have HR := Lib.hid hr
      have HKW := Lib.hid hkv
      have e0 : ((nn : Int) == 0) = true := by simp [hn0]
      clear hn hq hr hsum hnn hsl hkv hn0 hle
      have n0 := cell_at HN.out 0
      have nf := free_all HN.out
      have nz := lt_of_heap HN.out
      simp only [List.getElem?_toArray, List.getElem?_cons_zero] at n0
      have q0 := cell_at HQ.out 0
      have qf := free_all HQ.out
      have qz := lt_of_heap HQ.out
      simp only [List.getElem?_toArray, List.getElem?_cons_zero] at q0
      have r0 := cell_at HR.out 0
      have rf := free_all HR.out
      have rz := lt_of_heap HR.out
      simp only [List.getElem?_toArray, List.getElem?_cons_zero] at r0
      have v1 := cell_at HVV.out 1
      have vz := lt_of_heap HVV.out
      simp only [List.getElem?_toArray, List.getElem?_cons_zero, List.getElem?_cons_succ] at v1
      gi_wp2_with fail
      have u3 : Upd (fun b => b = bk) A3 (A3.setCell ⟨bk, 0, none⟩ (.int .i64 kv)) := Upd.setCell (S := fun b => b = bk) (p := ⟨bk, 0, none⟩) (Upd.refl _ _) (fun _ => rfl) _
      have hr4 := heap_set HR.out 0 (.int .i64 kv)
      obtain ⟨h7, h8⟩ := St.next (D := D) (t := s.data.toList) (i := 0) (grow HST.out.u u3 (fun _ _ h => .inr (.inr h))) (Upd.mem u3 HN.out (by omega)) (Upd.mem u3 HQ.out (by omega)) (by rw [hr4, HKW.out]; rfl) hR (by rw [HX0.out]) (by rw [HNN.out]) o2 o3 rfl
      refine ⟨S, ⟨HSI.out, h7⟩, (HU2.out.trans (u3.mono fun b _ h => .inl ((HSI.out b).2 (.inr (.inr h))))).trans (h8.mono fun b _ h => .inl ((HSI.out b).2 h)), fun b hb => ⟨.inl hb, ?_⟩⟩
      have := (H6.out b hb).1
      have := h8.size
      have := u3.size
      omega
    · have hnp : 0 < nn := by
        have h1 := sum_le_take (L := items 0 s.data.toList) (fun _ h => items_pos h) k (by omega)
        omega
      rw [if_neg hk0] at hq hr
      obtain ⟨qv, hqv⟩ : ∃ z, ((items 0 s.data.toList).getD (k - 1) default).bytes = z := ⟨_, rfl⟩
      obtain ⟨hd, hhd⟩ : ∃ z, headK D s.data.toList = z := ⟨_, rfl⟩
      rw [hqv] at hq
      have HR := Lib.hid hr
      rw [hhd] at hr
      have HN := Lib.hid hn
      have HQ := Lib.hid hq
      have HR' := Lib.hid hr
      have e0 : ((nn : Int) == 0) = false := by simp; omega
      have HLE := Lib.hid hle
      have HHD := Lib.hid hhd
      clear hn hq hr hsum hnn hsl hle hqv hhd
      have n0 := cell_at HN.out 0
      have nf := free_all HN.out
      have nz := lt_of_heap HN.out
      simp only [List.getElem?_toArray, List.getElem?_cons_zero] at n0
      have q0 := cell_at HQ.out 0
      have qf := free_all HQ.out
      have qz := lt_of_heap HQ.out
      simp only [List.getElem?_toArray, List.getElem?_cons_zero] at q0
      have r0 := cell_at HR'.out 0
      have rf := free_all HR'.out
      have rz := lt_of_heap HR'.out
      simp only [List.getElem?_toArray, List.getElem?_cons_zero] at r0
      have v1 := cell_at HVV.out 1
      have vz := lt_of_heap HVV.out
      simp only [List.getElem?_toArray, List.getElem?_cons_zero, List.getElem?_cons_succ] at v1
      by_cases hkk : kv = hd
      · have e1 : (kv != hd) = false := by simp [hkk]
        have hR : k + 1 ≤ Cu.runN D s.data.toList := by
          rcases Nat.lt_or_ge k (Cu.runN D s.data.toList) with h | h
          · exact h
          · have h9 : Cu.runN D s.data.toList = k := by have := HLE.out; omega
            have h10 := runI_stop (D := D) (k := headK D s.data.toList) (L := items 0 s.data.toList) (by show Cu.runN D s.data.toList < _; omega)
            rw [show runI D (headK D s.data.toList) (items 0 s.data.toList) = k from h9, HX0.out, HKV.out, HHD.out] at h10
            exact absurd hkk h10
        clear hkk
        gi_wp2_with fail
        obtain ⟨h7, h8⟩ := St.next (D := D) (t := s.data.toList) (i := k) HST.out.u HN.out HQ.out HR.out hR (by rw [HX0.out]) (by rw [HNN.out]) o2 o3 rfl
        refine ⟨S, ⟨HSI.out, h7⟩, HU2.out.trans (h8.mono fun b _ h => .inl ((HSI.out b).2 h)), fun b hb => ⟨.inl hb, ?_⟩⟩
        have := (H6.out b hb).1
        have := h8.size
        omega
      · have e1 : (kv != hd) = true := by simp [hkk]
        have hR : Cu.runN D s.data.toList = k := by
          rcases Nat.lt_or_ge k (Cu.runN D s.data.toList) with h | h
          · have h10 := runI_at (D := D) (k := headK D s.data.toList) (L := items 0 s.data.toList) h
            rw [HX0.out, HKV.out, HHD.out] at h10
            exact absurd h10 hkk
          · have := HLE.out; omega
        have HRR := Lib.hid hR
        clear hkk hR
        gi_wp2_with fail
        refine ⟨S, ⟨HSI.out, HST.out, HRR.out, rfl⟩, HU2.out, fun b hb => ⟨.inl hb, ?_⟩⟩
        have := (H6.out b hb).1
        omega
  case done =>
    rintro S B ⟨hS, hst⟩ hD
    have hle := Cu.runN_le D s.data.toList
    have hr : Cu.runN D s.data.toList = (items 0 s.data.toList).length := by have := hst.le; omega
    rw [← hr] at hst
    have HST := Lib.hid hst
    have HDD := Lib.hid hD
    have HBB := Lib.hid (HB.out.trans (HST.out.u.below HB.out.size (fun b hb h => by omega)))
    have hn := HST.out.n
    have hq := HST.out.l
    have hr := HST.out.k
    obtain ⟨nn, hnn⟩ : ∃ z : Int, (sum ((items 0 s.data.toList).take (Cu.runN D s.data.toList)) : Int) = z := ⟨_, rfl⟩
    obtain ⟨qv, hqv⟩ : ∃ z : Int, (if Cu.runN D s.data.toList = 0 then 0 else ((items 0 s.data.toList).getD (Cu.runN D s.data.toList - 1) default).bytes : Int) = z := ⟨_, rfl⟩
    obtain ⟨kd, hkd⟩ : ∃ z, (if Cu.runN D s.data.toList = 0 then 0 else headK D s.data.toList) = z := ⟨_, rfl⟩
    rw [hnn] at hn
    rw [hqv] at hq
    rw [hkd] at hr
    have HN := Lib.hid hn
    have HQ := Lib.hid hq
    have HR := Lib.hid hr
    have HE := Lib.hid (And.intro hnn (And.intro hqv hkd))
    clear hn hq hr hnn hqv hkd hst hD hS
    have n0 := cell_at HN.out 0
    have nf := free_all HN.out
    have nz := lt_of_heap HN.out
    simp only [List.getElem?_toArray, List.getElem?_cons_zero] at n0
    have q0 := cell_at HQ.out 0
    have qf := free_all HQ.out
    have qz := lt_of_heap HQ.out
    simp only [List.getElem?_toArray, List.getElem?_cons_zero] at q0
    have r0 := cell_at HR.out 0
    have rf := free_all HR.out
    have rz := lt_of_heap HR.out
    simp only [List.getElem?_toArray, List.getElem?_cons_zero] at r0
    have s0 := set_later n0 nz
    have s1 := set_later q0 qz
    have s2 := set_later r0 rz
    go_upto_region 9 with fail
    refine region_calm (by kernel_rfl) (by kernel_rfl) ?_
    repeat (quiet_step ((fail)))
    refine wpQuiet_nil ?_
    rintro _ ⟨y, rfl⟩
    go_wp2_with fail
    rw [Exit.noGoto_ret]
    have hB := HBB.out.trans (y.h.mono HBB.out.size)
    have hD' := (y.h.block _ (lt_of_heap HDD.out)).trans HDD.out
    have hz5 : bk < W5.heap.size := by omega
    refine leaves_marks (v := .tuple #[.int .i64 nn, .int .i64 qv, .int .i64 kd]) [W5.heap.size] _ (fun d hd => ?_) (by simp) (fun w' hu => ⟨?_, ?_, ?_⟩)
    · rw [List.mem_singleton] at hd
      rw [hd]
      exact hD'
    · have k0 : w'.cell? ⟨bn, 0, none⟩ = some (.int .i64 nn) := cell_at (Upd.mem hu ((y.h.block _ nz).trans HN.out) (by simp; omega)) 0
      have k1 : w'.cell? ⟨bl, 0, none⟩ = some (.int .i64 qv) := cell_at (Upd.mem hu ((y.h.block _ qz).trans HQ.out) (by simp; omega)) 0
      have k2 : w'.cell? ⟨bk, 0, none⟩ = some (.int .i64 kd) := cell_at (Upd.mem hu ((y.h.block _ rz).trans HR.out) (by simp; omega)) 0
      simp [results, Tryd.results95, go_sem, k0, k1, k2]
    · rw [← HE.out.1, ← HE.out.2.1, ← HE.out.2.2, run_said]
    · exact hB.trans (hu.below hB.size (fun k hk h => by
        rw [List.mem_singleton] at h
        have := HB.out.size
        omega))
  case stop =>
    rintro c k S B hk ⟨hS, hst, hr, rfl⟩ hD
    rw [← hr] at hst
    have HST := Lib.hid hst
    have HDD := Lib.hid hD
    have HBB := Lib.hid (HB.out.trans (HST.out.u.below HB.out.size (fun b hb h => by omega)))
    have hn := HST.out.n
    have hq := HST.out.l
    have hr := HST.out.k
    obtain ⟨nn, hnn⟩ : ∃ z : Int, (sum ((items 0 s.data.toList).take (Cu.runN D s.data.toList)) : Int) = z := ⟨_, rfl⟩
    obtain ⟨qv, hqv⟩ : ∃ z : Int, (if Cu.runN D s.data.toList = 0 then 0 else ((items 0 s.data.toList).getD (Cu.runN D s.data.toList - 1) default).bytes : Int) = z := ⟨_, rfl⟩
    obtain ⟨kd, hkd⟩ : ∃ z, (if Cu.runN D s.data.toList = 0 then 0 else headK D s.data.toList) = z := ⟨_, rfl⟩
    rw [hnn] at hn
    rw [hqv] at hq
    rw [hkd] at hr
    have HN := Lib.hid hn
    have HQ := Lib.hid hq
    have HR := Lib.hid hr
    have HE := Lib.hid (And.intro hnn (And.intro hqv hkd))
    clear hn hq hr hnn hqv hkd hst hD hS
    have n0 := cell_at HN.out 0
    have nf := free_all HN.out
    have nz := lt_of_heap HN.out
    simp only [List.getElem?_toArray, List.getElem?_cons_zero] at n0
    have q0 := cell_at HQ.out 0
    have qf := free_all HQ.out
    have qz := lt_of_heap HQ.out
    simp only [List.getElem?_toArray, List.getElem?_cons_zero] at q0
    have r0 := cell_at HR.out 0
    have rf := free_all HR.out
    have rz := lt_of_heap HR.out
    simp only [List.getElem?_toArray, List.getElem?_cons_zero] at r0
    have s0 := set_later n0 nz
    have s1 := set_later q0 qz
    have s2 := set_later r0 rz
    go_upto_region 9 with fail
    refine region_calm (by kernel_rfl) (by kernel_rfl) ?_
    repeat (quiet_step ((fail)))
    refine wpQuiet_nil ?_
    rintro _ ⟨y, rfl⟩
    go_wp2_with fail
    rw [Exit.noGoto_ret]
    have hB := HBB.out.trans (y.h.mono HBB.out.size)
    have hD' := (y.h.block _ (lt_of_heap HDD.out)).trans HDD.out
    have hz5 : bk < W5.heap.size := by omega
    refine leaves_marks (v := .tuple #[.int .i64 nn, .int .i64 qv, .int .i64 kd]) [W5.heap.size] _ (fun d hd => ?_) (by simp) (fun w' hu => ⟨?_, ?_, ?_⟩)
    · rw [List.mem_singleton] at hd
      rw [hd]
      exact hD'
    · have k0 : w'.cell? ⟨bn, 0, none⟩ = some (.int .i64 nn) := cell_at (Upd.mem hu ((y.h.block _ nz).trans HN.out) (by simp; omega)) 0
      have k1 : w'.cell? ⟨bl, 0, none⟩ = some (.int .i64 qv) := cell_at (Upd.mem hu ((y.h.block _ qz).trans HQ.out) (by simp; omega)) 0
      have k2 : w'.cell? ⟨bk, 0, none⟩ = some (.int .i64 kd) := cell_at (Upd.mem hu ((y.h.block _ rz).trans HR.out) (by simp; omega)) 0
      simp [results, Tryd.results95, go_sem, k0, k1, k2]
    · rw [← HE.out.1, ← HE.out.2.1, ← HE.out.2.2, run_said]
    · exact hB.trans (hu.below hB.size (fun k hk h => by
        rw [List.mem_singleton] at h
        have := HB.out.size
        omega))
end Go.Proofs.YtkjkgpdfhmoenaaDoor.CutRun
