/-
  The walk of the law CutTokens.
-/
import Derived.Test.YtendkmldecoogaaDoorCutAs
import Derived.Test.YtendkmldecoogaaDoorWithin
import Derived.Test.YtendkmldecoogaaDoorLaw12
import Derived.Test.YtendkmldecoogaaDoorRefTok
import Derived.Test.YtendkmldecoogaaDoorMoNew
namespace Go.Proofs.YtendkmldecoogaaDoor.cutTokens
open Go Go.RowKit Go.Proofs.YtendkmldecoogaaDoor.Kit Go.Proofs.YtendkmldecoogaaDoor.Range Go.Proofs.YtendkmldecoogaaDoor.Round Go.Proofs.YtendkmldecoogaaDoor.Seg Go.Proofs.YtendkmldecoogaaDoor.Collect Go.Proofs.YtendkmldecoogaaDoor.Utf Go.Proofs.YtendkmldecoogaaDoor.It Go.Proofs.YtendkmldecoogaaDoor.ItGo Go.Proofs.YtendkmldecoogaaDoor.Dt Go.Proofs.YtendkmldecoogaaDoor.Mo Go.Proofs.YtendkmldecoogaaDoor.MoNew Go.Proofs.YtendkmldecoogaaDoor.Keep Go.Proofs.YtendkmldecoogaaDoor.Cu Go.Proofs.YtendkmldecoogaaDoor.CutRun Go.Proofs.YtendkmldecoogaaDoor.CutNext Go.Proofs.YtendkmldecoogaaDoor.CutAll Go.Proofs.YtendkmldecoogaaDoor.CutTokens Go.Proofs.YtendkmldecoogaaDoor.CutAs Go.Proofs.YtendkmldecoogaaDoor.Within Go.Proofs.YtendkmldecoogaaDoor.Law12
attribute [local irreducible] wpQuiet
attribute [local go_sem] Oper.semAt_some

theorem seq_nil (f : Fn) (p q : Array Value) (w : World) : (Go.binOp .eql 42 (.func f p q) .nilFunc).run Tryd.prog w = .ok (.bool false) w := by kernel_rfl

theorem tcells_upd {w w' : World} {g o b : Nat} {T : List Tk} {v : Value} {t : TypeId} {fr : Nat × Nat} (h : TCells w g o T) (hT : 0 < T.length) (hu : Upd (fun x => x = b) w w') (hb : w.heap[b]? = some (.cells #[v] t fr)) : TCells w' g o T := by
  have hne : g ≠ b := by
    rintro rfl
    have := (ModUpd.one_cell hb (h.2 0 hT).2.1).1
    omega
  refine ⟨Nat.lt_of_lt_of_le h.1 hu.size, fun j hj => ?_⟩
  simp only [cell_keep (hu.block g h.1 hne)]
  exact h.2 j hj




set_option maxHeartbeats 4000000 in
set_option maxRecDepth 100000 in
theorem walk (D : Dt) (Q : Pl) (s : ByteArray) (n : Int) (w : World) (hd : At w D Q) (_hs : s.size ≤ 140737488355328) (hn : -9223372036854775808 ≤ n ∧ n ≤ 9223372036854775807) (hT : Tabs w) :
    Calls Tryd.prog 4 #[.agg #[.slice Q.a0 D.nw Q.c0, .slice Q.a1 D.nm Q.c1, .slice Q.a2 D.n0 Q.c2, .slice Q.a3 D.n1 Q.c3, .slice Q.a4 D.n2 Q.c4], .string s, .int .i64 n] w fun e w' => e = .returned (.bool true) ∧ Below w.heap.size w w' := by
  have HA := Lib.hid hd
  have HT := Lib.hid hT
  clear hd hT
  refine calls_of_wp_marks Tryd.func4 rfl ?_
  simp only [Tryd.ntmps4, List.size_toArray, List.length_cons, List.length_nil, Nat.reduceAdd, Nat.reduceSub, Array.replicate_succ, Array.replicate_zero, List.push_toArray, List.append_toArray, List.nil_append, List.cons_append]
  obtain ⟨W1, hW1⟩ : ∃ Xz, w.alloc (.cells #[.slice Q.a0 D.nw Q.c0, .slice Q.a1 D.nm Q.c1, .slice Q.a2 D.n0 Q.c2, .slice Q.a3 D.n1 Q.c3, .slice Q.a4 D.n2 Q.c4] 33) = Xz := ⟨_, rfl⟩
  obtain ⟨bd, hbd⟩ : ∃ xz, w.heap.size = xz := ⟨_, rfl⟩
  have hb1 : Below w.heap.size w W1 := by rw [← hW1]; exact (Below.refl _ _).alloc (Nat.le_refl _) _
  have HX := Lib.hid (by rw [← hW1, ← hbd]; exact alloc_new rfl : W1.heap[bd]? = some (.cells #[.slice Q.a0 D.nw Q.c0, .slice Q.a1 D.nm Q.c1, .slice Q.a2 D.n0 Q.c2, .slice Q.a3 D.n1 Q.c3, .slice Q.a4 D.n2 Q.c4] 33 (0, 0)))
  have EW1 := Lib.hid hW1
  have Ebd := Lib.hid hbd
  clear hW1 hbd
  obtain ⟨W2, hW2⟩ : ∃ Xz, W1.alloc (.cells #[.int .i64 n] 3) = Xz := ⟨_, rfl⟩
  obtain ⟨bs, hbs⟩ : ∃ xz, W1.heap.size = xz := ⟨_, rfl⟩
  have hb2 : Below W1.heap.size W1 W2 := by rw [← hW2]; exact (Below.refl _ _).alloc (Nat.le_refl _) _
  have HSC := Lib.hid (by rw [← hW2, ← hbs]; exact alloc_new rfl : W2.heap[bs]? = some (.cells #[.int .i64 n] 3 (0, 0)))
  have EW2 := Lib.hid hW2
  have Ebs := Lib.hid hbs
  clear hW2 hbs
  have o0 : w.heap.size ≤ bd := Nat.le_of_eq Ebd.out
  have o1 : bd < bs := by rw [← Ebs.out]; exact lt_of_heap HX.out
  have HX := Lib.hid ((hb2.block _ (lt_of_heap HX.out)).trans HX.out)
  have HB := Lib.hid (chain hb1 hb2)
  have HA := Lib.hid (HA.out.below HB.out)
  have HO := Lib.hid (Of_calls D Q W2 HA.out)
  clear hb1 hb2
  have x0 := cell_at HX.out 0
  have x1 := cell_at HX.out 1
  have x2 := cell_at HX.out 2
  have x3 := cell_at HX.out 3
  have x4 := cell_at HX.out 4
  have xz := lt_of_heap HX.out
  simp only [List.getElem?_toArray, List.getElem?_cons_zero, List.getElem?_cons_succ] at x0 x1 x2 x3 x4
  obtain ⟨fs, hfs⟩ : ∃ z, few s 1000 = z := ⟨_, rfl⟩
  have hf1 := few_size s 1000
  have HF := Lib.hid (fun w => few_calls s 1000 w (by decide))
  rw [hfs] at HF hf1
  have hfz : fs.size ≤ 1000 := hf1.1
  clear hfs hf1
  go_wp2_with fail
  have e1 : bd + 1 = bs := by rw [← Ebs.out, ← EW1.out, ← Ebd.out]; simp
  rw [EW1.out, EW2.out, Ebd.out, e1]
  clear e1
  refine HO.out.mono ?_
  clear x0 x1 x2 x3 x4 xz
  rintro e W3 (⟨rfl, hb3⟩ | ⟨mb, rfl, hM, _, hb3, _⟩)
  · have HB := Lib.hid (chain HB.out hb3)
    clear hb3
    go_wp2_with fail
    refine (known_calls W3 (HT.out.below HB.out)).mono ?_
    rintro e W4 ⟨rfl, hb4⟩
    have HB := Lib.hid (chain HB.out hb4)
    clear hb4
    go_wp2_with fail
    refine leaves_marks (v := .bool true) [] _ (by simp) List.nodup_nil (fun w' hu => ⟨?_, rfl, ?_⟩)
    · simp [results, Tryd.results4, go_sem]
    · exact HB.out.trans (hu.below HB.out.size (by simp))
  have HM := Lib.hid hM
  have HG := Lib.hid (Good.of_mod hM)
  have HX := Lib.hid ((hb3.block _ (lt_of_heap HX.out)).trans HX.out)
  have HSC := Lib.hid ((hb3.block _ (lt_of_heap HSC.out)).trans HSC.out)
  have HB := Lib.hid (chain HB.out hb3)
  have HA := Lib.hid (HA.out.below hb3)
  clear hM hb3
  go_wp2_with fail
  refine (HF.out W3).mono ?_
  rintro e w' ⟨rfl, rfl⟩
  have HRT := Lib.hid (RefTok.Tokens_calls D Q fs W3 HA.out (by omega))
  have x0 := cell_at HX.out 0
  have x1 := cell_at HX.out 1
  have x2 := cell_at HX.out 2
  have x3 := cell_at HX.out 3
  have x4 := cell_at HX.out 4
  have xz := lt_of_heap HX.out
  simp only [List.getElem?_toArray, List.getElem?_cons_zero, List.getElem?_cons_succ] at x0 x1 x2 x3 x4
  go_wp2_with fail
  refine HRT.out.mono ?_
  clear x0 x1 x2 x3 x4 xz HRT
  rintro e W4 ⟨vw, rfl, hrow, hb4⟩
  have HX := Lib.hid ((hb4.block _ (lt_of_heap HX.out)).trans HX.out)
  have HSC := Lib.hid ((hb4.block _ (lt_of_heap HSC.out)).trans HSC.out)
  have HB := Lib.hid (chain HB.out hb4)
  have HM := Lib.hid (HM.out.below hb4)
  have hlen := toks_len D HG.out fs.data.toList 0
  rw [size_list] at hlen
  obtain ⟨T, hTT⟩ : ∃ T, toks D 0 fs.data.toList = T := ⟨_, rfl⟩
  rw [hTT] at hrow hlen
  have HTT := Lib.hid hTT
  obtain ⟨aw, cw, rfl, hcw, hcw', haw, hwc⟩ := seg_cells hrow
  have HWC := Lib.hid hwc
  have HAW := Lib.hid haw
  clear hb4 hrow hwc haw
  go_wp2_with fail
  have HTK := Lib.hid (CutTokens.Tokens_calls D mb fs W4 HM.out (HT.out.below HB.out) (by omega))
  rw [hTT] at HTK
  clear hTT
  refine HTK.out.mono ?_
  rintro e W5 ⟨vl, rfl, hrow, hb5⟩
  have HWC := Lib.hid (fun h => by obtain ⟨g, o, h1, h2, h3⟩ := HWC.out h; exact ⟨g, o, h1, h3.below hb5⟩ : 0 < T.length → ∃ g o, aw = some ⟨g, o, none⟩ ∧ TCells W5 g o T)
  have HX := Lib.hid ((hb5.block _ (lt_of_heap HX.out)).trans HX.out)
  have HSC := Lib.hid ((hb5.block _ (lt_of_heap HSC.out)).trans HSC.out)
  have HB := Lib.hid (chain HB.out hb5)
  have HM := Lib.hid (HM.out.below hb5)
  obtain ⟨al, cl, rfl, _, _, _, hlc⟩ := seg_cells hrow
  have HLC := Lib.hid (fun h => by obtain ⟨g, o, h1, h2, h3⟩ := hlc h; exact ⟨g, o, h1, h3⟩ : 0 < T.length → ∃ g o, al = some ⟨g, o, none⟩ ∧ TCells W5 g o T)
  clear HTK hb5 hrow hlc
  go_wp2_with fail
  refine (All_new mb fs W5).mono ?_
  rintro e W6 ⟨bm, bf, rfl, hbm, hbf, o2, o3, hb6⟩
  have HMB := Lib.hid hbm
  have HFB := Lib.hid hbf
  have o4 : bs < bm := Nat.lt_of_lt_of_le (lt_of_heap HSC.out) o2
  have oz : bf < W6.heap.size := lt_of_heap hbf
  have hit := all_iter D mb W5 W6 bm bf fs HM.out (HT.out.below HB.out) hb6 hbm hbf (by omega)
  rw [HTT.out] at hit
  have HIT := Lib.hid hit
  have HWC := Lib.hid (fun w' (hb : Below W6.heap.size W6 w') h => by obtain ⟨g, o, h1, h3⟩ := HWC.out h; exact ⟨g, o, h1, (h3.below hb6).below hb⟩ : ∀ w', Below W6.heap.size W6 w' → 0 < T.length → ∃ g o, aw = some ⟨g, o, none⟩ ∧ TCells w' g o T)
  have HLC := Lib.hid (fun h => by obtain ⟨g, o, h1, h3⟩ := HLC.out h; exact ⟨g, o, h1, h3.below hb6⟩ : 0 < T.length → ∃ g o, al = some ⟨g, o, none⟩ ∧ TCells W6 g o T)
  have HX := Lib.hid ((hb6.block _ (lt_of_heap HX.out)).trans HX.out)
  have HSC := Lib.hid ((hb6.block _ (lt_of_heap HSC.out)).trans HSC.out)
  have HB := Lib.hid (chain HB.out hb6)
  have HM := Lib.hid (HM.out.below hb6)
  have HSM := Lib.hid (same_calls W6 al aw cl cw T HLC.out (HWC.out W6 (Below.refl _ _)) (by omega))
  have hsn := seq_nil
  have sz5 := hb6.size
  clear hbm hbf hb6 hit
  go_wp2_with fail
  refine HSM.out.mono ?_
  rintro e W7 ⟨rfl, hb7⟩
  have HX := Lib.hid ((hb7.block _ (lt_of_heap HX.out)).trans HX.out)
  have HSC := Lib.hid ((hb7.block _ (lt_of_heap HSC.out)).trans HSC.out)
  have HB := Lib.hid (chain HB.out hb7)
  have HB6 := Lib.hid hb7
  clear hb7
  have s0 := cell_at HSC.out 0
  have sf := free_all HSC.out
  have sz := lt_of_heap HSC.out
  simp only [List.getElem?_toArray, List.getElem?_cons_zero] at s0
  obtain ⟨st, hst⟩ : ∃ z, 0 + n % (9 - 0 + 1) = z := ⟨_, rfl⟩
  have hs1 : 0 ≤ st ∧ st ≤ 9 := by omega
  go_wp2_with fail
  refine (Within_calls n 0 9 W7 (by decide) (by decide) (by decide) hn.1 hn.2).mono ?_
  rw [hst]
  rintro e w' ⟨rfl, rfl⟩
  clear hst hsn
  obtain ⟨W8, hW8⟩ : ∃ z, W7.setCell ⟨bs, 0, none⟩ (.int .i64 st) = z := ⟨_, rfl⟩
  have hu8 : Upd (fun b => b = bs) W7 W8 := by rw [← hW8]; exact Upd.setCell (S := fun b => b = bs) (p := ⟨bs, 0, none⟩) (Upd.refl _ _) (fun _ => rfl) _
  have HM8 := Lib.hid (ModUpd.mod_upd (HM.out.below HB6.out) hu8 HSC.out (fun s => by simp))
  have HB8 := Lib.hid (HB.out.trans (hu8.below HB.out.size (fun b hb e => by omega)))
  have HT8 := Lib.hid (HT.out.below HB8.out)
  have HMB := Lib.hid ((hu8.block _ (Nat.lt_of_lt_of_le (lt_of_heap HMB.out) HB6.out.size) (by omega)).trans ((HB6.out.block _ (lt_of_heap HMB.out)).trans HMB.out))
  have HFB := Lib.hid ((hu8.block _ (Nat.lt_of_lt_of_le (lt_of_heap HFB.out) HB6.out.size) (by omega)).trans ((HB6.out.block _ (lt_of_heap HFB.out)).trans HFB.out))
  have HWC := Lib.hid (fun w' (hb : Below W8.heap.size W8 w') h => by obtain ⟨g, o, h1, h3⟩ := HWC.out W7 HB6.out h; exact ⟨g, o, h1, (tcells_upd h3 h hu8 HSC.out).below hb⟩ : ∀ w', Below W8.heap.size W8 w' → 0 < T.length → ∃ g o, aw = some ⟨g, o, none⟩ ∧ TCells w' g o T)
  have HSC8 := Lib.hid (by rw [← hW8, heap_set HSC.out]; rfl : W8.heap[bs]? = some (.cells #[.int .i64 st] 3 (0, 0)))
  have EW8 := Lib.hid hW8
  have o5 : W7.heap.size = W8.heap.size := by rw [← hW8]; simp
  have HZ8 := Lib.hid (show bf < W8.heap.size by have := HB6.out.size; omega)
  have oy : bf < W8.heap.size := HZ8.out
  clear hW8 HM HB HX HLC HSM HIT HT HA HO sz5 HB6 hu8
  obtain ⟨W9, hW9⟩ : ∃ Xz, W8.alloc (.cells #[.int .i64 0] 3) = Xz := ⟨_, rfl⟩
  obtain ⟨bt, hbt⟩ : ∃ xz, W8.heap.size = xz := ⟨_, rfl⟩
  have hb9 : Below W8.heap.size W8 W9 := by rw [← hW9]; exact (Below.refl _ _).alloc (Nat.le_refl _) _
  have HTC := Lib.hid (by rw [← hW9, ← hbt]; exact alloc_new rfl : W9.heap[bt]? = some (.cells #[.int .i64 0] 3 (0, 0)))
  have EW9 := Lib.hid hW9
  have Ebt := Lib.hid hbt
  clear hW9 hbt
  have HB := Lib.hid hb9
  have o6 : W8.heap.size ≤ bt := Nat.le_of_eq Ebt.out
  clear hb9
  go_wp2_with fail
  rw [EW8.out, EW9.out, Ebt.out]
  clear s0 sf sz o5
  have HSC := HSC8
  clear HSC8
  refine wp_loop_rounds 3 ?_
  rw [rounds_succ]
  have HDS := Lib.hid (show ∀ d, d ∈ ([] : List Nat) → W9.heap[d]? = some (.deferred (some [])) from fun d hd => by cases hd)
  have t0 := cell_at HTC.out 0
  have tz := lt_of_heap HTC.out
  simp only [List.getElem?_toArray, List.getElem?_cons_zero] at t0
  obtain ⟨W10, hW10⟩ : ∃ Xz, W9.alloc (.cells #[.slice none 0 0] 22) = Xz := ⟨_, rfl⟩
  obtain ⟨bl, hbl⟩ : ∃ xz, W9.heap.size = xz := ⟨_, rfl⟩
  have hb10 : Below W9.heap.size W9 W10 := by rw [← hW10]; exact (Below.refl _ _).alloc (Nat.le_refl _) _
  have HL := Lib.hid (by rw [← hW10, ← hbl]; exact alloc_new rfl : W10.heap[bl]? = some (.cells #[.slice none 0 0] 22 (0, 0)))
  have EW10 := Lib.hid hW10
  have Ebl := Lib.hid hbl
  clear hW10 hbl
  have o7 : bt < bl := by rw [← Ebl.out]; exact lt_of_heap HTC.out
  have HTC := Lib.hid ((hb10.block _ (lt_of_heap HTC.out)).trans HTC.out)
  have HB := Lib.hid (chain HB.out hb10)
  have HDS := Lib.hid (fun d hd => by have h1 := HDS.out d hd; exact (hb10.block d (lt_of_heap h1)).trans h1 : ∀ d, d ∈ ([] : List Nat) → W10.heap[d]? = some (.deferred (some [])))
  have hit := all_iter D mb W8 W10 bm bf fs HM8.out HT8.out HB.out ((HB.out.block _ (lt_of_heap HMB.out)).trans HMB.out) ((HB.out.block _ (lt_of_heap HFB.out)).trans HFB.out) (by omega)
  rw [HTT.out] at hit
  have HIT := Lib.hid hit
  have HB0 := Lib.hid HB.out.size
  clear hb10 hit
  go_wp2_with fail
  rw [EW10.out, Ebl.out]
  refine range_outer (w0 := W10) (N := T.length) (Cap := fun b => b < W8.heap.size ∨ b = bm ∨ b = bf) (gf := 70) (lb := #[.pointer (some ⟨bm, 0, none⟩), .pointer (some ⟨bf, 0, none⟩)]) (encs := fun k => #[encT (T.getD k default)]) rfl (Go.Proofs.enters_of Tryd.func70 (by kernel_rfl) rfl)
    HIT.out (Below.refl _ _) (fun _ => rfl) ?capa
    (fun k S W => ∃ v, (∀ b, S b ↔ b = bl ∨ v.ownBlock = some b) ∧ Col 22 49 3 k (flat (T.take k)) bl W10 v W)
    (fun c k S W => (0 : Int) = 1 ∧ c = .exit 2 ∧ ∃ v, (∀ b, S b ↔ b = bl ∨ v.ownBlock = some b) ∧ Col 22 49 3 (k + 1) (flat (T.take (k + 1))) bl W10 v W)
    ?kia ?kxa (fun b => b = bl) ⟨.slice none 0 0, fun b => by simp [Value.ownBlock], ⟨Upd.refl _ _, HL.out, Seg.nil _ _ _ _⟩⟩ ?s0a ?rounda ?donea ?stopa
  case capa =>
    have := HB.out.size
    have := lt_of_heap HL.out
    rintro b (h | rfl | rfl) <;> omega
  case kia =>
    rintro k S A B ⟨v, hS, hst⟩ hu
    exact ⟨v, hS, hst.keep hu (fun h => h.2 ((hS _).2 (.inl rfl))) (fun b hb h => h.2 ((hS _).2 (.inr hb))) (fun b hb h => by have := h.1; omega)⟩
  case kxa =>
    rintro c k S A B ⟨h1, h2, v, hS, hst⟩ hu
    exact ⟨h1, h2, v, hS, hst.keep hu (fun h => h.2 ((hS _).2 (.inl rfl))) (fun b hb h => h.2 ((hS _).2 (.inr hb))) (fun b hb h => by have := h.1; omega)⟩
  case s0a =>
    rintro b rfl
    have := lt_of_heap HL.out
    have := HZ8.out
    exact ⟨by omega, by omega⟩
  case rounda =>
    rintro l k S A hk ⟨v, hS, hst⟩ h1 h2 h3 h4 h5 h6
    obtain ⟨x, hx⟩ : ∃ x, T.getD k default = x := ⟨_, rfl⟩
    rw [hx]
    unfold encT
    obtain ⟨A1, hA1⟩ : ∃ Xz, A.alloc (.cells #[.int .i64 x.a, .int .i64 x.b, .int .i64 x.s] 49) = Xz := ⟨_, rfl⟩
    obtain ⟨bq, hbq⟩ : ∃ xz, A.heap.size = xz := ⟨_, rfl⟩
    have hbA : Below A.heap.size A A1 := by rw [← hA1]; exact (Below.refl _ _).alloc (Nat.le_refl _) _
    have HV := Lib.hid (by rw [← hA1, ← hbq]; exact alloc_new rfl : A1.heap[bq]? = some (.cells #[.int .i64 x.a, .int .i64 x.b, .int .i64 x.s] 49 (0, 0)))
    have EA1 := Lib.hid hA1
    have Ebq := Lib.hid hbq
    clear hA1 hbq
    have HX0 := Lib.hid hx
    have H6 := Lib.hid h6
    clear hx hst h5 h6 hS
    gi_wp2
    rw [EA1.out, Ebq.out]
    rw [Ebq.out] at hbA
    refine ⟨hbA, fun A2 hu hz hI2 hr2 => ?_⟩
    obtain ⟨v2, hS2, hst2⟩ := hI2
    have HST := Lib.hid hst2
    have HS2 := Lib.hid hS2
    have HVV := Lib.hid (Upd.mem hu HV.out (by have := Ebq.out; omega))
    have oA : A.heap.size = bq := Ebq.out
    clear hS2 hst2 hr2 hu hz hbA
    obtain ⟨A3, hA3⟩ : ∃ Xz, A2.alloc (.cells #[.int .i64 x.a, .int .i64 x.b, .int .i64 x.s] 49) = Xz := ⟨_, rfl⟩
    obtain ⟨br, hbr⟩ : ∃ xz, A2.heap.size = xz := ⟨_, rfl⟩
    have hbn : Below A2.heap.size A2 A3 := by rw [← hA3]; exact (Below.refl _ _).alloc (Nat.le_refl _) _
    have HN := Lib.hid (by rw [← hA3, ← hbr]; exact alloc_new rfl : A3.heap[br]? = some (.cells #[.int .i64 x.a, .int .i64 x.b, .int .i64 x.s] 49 (0, 0)))
    have EA3 := Lib.hid hA3
    have Ebr := Lib.hid hbr
    clear hA3 hbr
    obtain ⟨v3, A4, hrun, hcl, hcol, hu4, hown, ⟨av, cv, hvv⟩, hzz⟩ := Col.next elemT (HST.out.below hbn) HN.out rfl (by simp [Value.oneCell']) (by unfold maxLen; omega) (by omega) (by have := lt_of_heap HL.out; omega) 22
    subst hvv
    have HCOL := Lib.hid hcol
    have HCL := Lib.hid hcl
    have HU4 := Lib.hid hu4
    have HOWN := Lib.hid hown
    have HC0 := Lib.hid HST.out.c
    have o6 := hbn.size
    have HBN := Lib.hid hbn
    rw [← EA3.out, ← Ebr.out] at hrun
    obtain ⟨A5, hA5⟩ : ∃ z, A4.setCell ⟨bl, 0, none⟩ (.slice (some av) (k + 1) cv) = z := ⟨_, rfl⟩
    rw [hA5] at HCOL HU4
    have EA5 := Lib.hid hA5
    have HG5 := Lib.hid (HCOL.out.c)
    have HTC5 := Lib.hid (Upd.mem HCOL.out.u HTC.out (by omega))
    have HSC5 := Lib.hid (Upd.mem HCOL.out.u ((HB.out.block _ (lt_of_heap HSC.out)).trans HSC.out) (by omega))
    clear hcol hcl hu4 hown hbn hA5
    have c0 := cell_at HC0.out 0
    have cz := lt_of_heap HC0.out
    simp only [List.getElem?_toArray, List.getElem?_cons_zero] at c0
    have q0 := cell_at HCL.out 0
    have qf := free_all HCL.out
    have qz := lt_of_heap HCL.out
    simp only [List.getElem?_toArray, List.getElem?_cons_zero] at q0
    have v0 := cell_at HVV.out 0
    have v1 := cell_at HVV.out 1
    have v2 := cell_at HVV.out 2
    have vz := lt_of_heap HVV.out
    simp only [List.getElem?_toArray, List.getElem?_cons_zero, List.getElem?_cons_succ] at v0 v1 v2
    have HRUN := Lib.hid hrun
    clear hrun
    have hA4 : ∀ b, b ≠ bl → A4.heap[b]? = A5.heap[b]? := fun b hb => by rw [← EA5.out]; exact (Below.heap_setCell _ _ _ _ hb).symm
    have HTC4 := Lib.hid ((hA4 bt (by omega)).trans HTC5.out)
    have HSC4 := Lib.hid ((hA4 bs (by omega)).trans HSC5.out)
    have t0 := cell_at HTC4.out 0
    have tz := lt_of_heap HTC4.out
    simp only [List.getElem?_toArray, List.getElem?_cons_zero] at t0
    have s0 := cell_at HSC4.out 0
    have sz := lt_of_heap HSC4.out
    simp only [List.getElem?_toArray, List.getElem?_cons_zero] at s0
    have e4 : bt ≠ bl := by omega
    have e5 : bs ≠ bl := by omega
    clear hA4
    have hft := flat_take hk
    rw [HX0.out] at hft
    rw [← hft] at HCOL
    have hz4 := HU4.out.size
    clear hft
    gi_wp2_with (gi_at_builtin; refine append_run_in rfl rfl rfl rfl HRUN.out ?_)
    rw [EA5.out]
    refine ⟨fun b => b = bl ∨ (Value.slice (some av) (k + 1) cv).ownBlock = some b, ⟨_, fun b => Iff.rfl, HCOL.out⟩, ?_, fun b hb => ⟨?_, ?_⟩⟩
    · refine (Upd.of_below HBN.out : Upd (fun b => S b ∨ A.heap.size ≤ b) A2 A3).trans (HU4.out.mono fun b _ hh => .inl ((HS2.out b).2 hh))
    · rcases hb with hb | hb
      · exact .inl ((HS2.out b).2 (.inl hb))
      · rcases HOWN.out b hb with h7 | h7
        · exact .inl ((HS2.out b).2 (.inr h7))
        · exact .inr (by omega)
    · rcases hb with hb | hb
      · have := HCOL.out.c
        rw [hb]
        exact lt_of_heap this
      · exact (HCOL.out.r.lt b hb).2
  case stopa =>
    rintro c k S B hk ⟨h, _⟩ hD
    cases h
  case donea =>
    rintro S B ⟨v, hS, hst⟩ hD
    rw [List.take_length] at hst
    have HST := Lib.hid hst
    have HDD := Lib.hid hD
    have HBB := Lib.hid (HB.out.trans (HST.out.u.below HB.out.size (fun b hb h => by omega)))
    have HTC1 := Lib.hid (Upd.mem HST.out.u HTC.out (by omega))
    have HC0 := Lib.hid HST.out.c
    obtain ⟨ag, cg, rfl, hcg, hcg', hag, hgc⟩ := seg_cells HST.out.r
    have hzz := HBB.out.size
    have HSMR := Lib.hid (fun (x : Later B) => same_calls x.w ag aw cg cw T (fun h => by obtain ⟨g, o, h1, _, h3⟩ := hgc h; exact ⟨g, o, h1, h3.below x.h⟩) (HWC.out _ (chain HBB.out x.h)) (by omega))
    clear hst hD hS hgc t0 tz
    have c0 := cell_at HC0.out 0
    have cz := lt_of_heap HC0.out
    simp only [List.getElem?_toArray, List.getElem?_cons_zero] at c0
    have t0 := cell_at HTC1.out 0
    have tz := lt_of_heap HTC1.out
    simp only [List.getElem?_toArray, List.getElem?_cons_zero] at t0
    go_wp2_with fail
    refine region_calm (by kernel_rfl) (by kernel_rfl) ?_
    repeat (quiet_step ((exact later_call (HSMR.out _))))
    refine wpQuiet_nil ?_
    rintro _ ⟨x, rfl⟩
    have HB := Lib.hid (chain HBB.out x.h)
    have HDV := Lib.hid ((x.h.block _ (lt_of_heap HDD.out)).trans HDD.out)
    have HTV := Lib.hid ((x.h.block _ (lt_of_heap HTC1.out)).trans HTC1.out)
    obtain ⟨q1, hq⟩ : ∃ z, W10.heap.size = z := ⟨_, rfl⟩
    rw [hq] at HDV ⊢
    have oq : W8.heap.size ≤ q1 := by rw [← hq]; exact HB0.out
    clear hq HSMR c0 cz t0 tz
    generalize x.w = V at HB HDV HTV ⊢
    have t0 := cell_at HTV.out 0
    have tz := lt_of_heap HTV.out
    simp only [List.getElem?_toArray, List.getElem?_cons_zero] at t0
    obtain ⟨V1, hV1⟩ : ∃ Xz, V.alloc (.cells #[.int .i64 1] 3) = Xz := ⟨_, rfl⟩
    obtain ⟨bt, hbt⟩ : ∃ xz, V.heap.size = xz := ⟨_, rfl⟩
    have hbu : Below V.heap.size V V1 := by rw [← hV1]; exact (Below.refl _ _).alloc (Nat.le_refl _) _
    have HTC := Lib.hid (by rw [← hV1, ← hbt]; exact alloc_new rfl : V1.heap[bt]? = some (.cells #[.int .i64 1] 3 (0, 0)))
    have EV1 := Lib.hid hV1
    have Ebt := Lib.hid hbt
    clear hV1 hbt
    have HB := Lib.hid (chain HB.out hbu)
    have o6 : W8.heap.size ≤ bt := by have := HB.out.size; have := Ebt.out; omega
    have HDS := Lib.hid (show ∀ e, e ∈ ([q1] : List Nat) → V1.heap[e]? = some (.deferred (some [])) from fun e he => by rw [List.mem_singleton] at he; rw [he]; exact (hbu.block _ (lt_of_heap HDV.out)).trans HDV.out)
    clear hbu
    go_wp2_with fail
    rw [EV1.out, Ebt.out]
    rw [rounds_succ]
    clear t0 tz
    have t0 := cell_at HTC.out 0
    have tz := lt_of_heap HTC.out
    simp only [List.getElem?_toArray, List.getElem?_cons_zero] at t0
    obtain ⟨W10, hW10⟩ : ∃ Xz, V1.alloc (.cells #[.slice none 0 0] 22) = Xz := ⟨_, rfl⟩
    obtain ⟨bl, hbl⟩ : ∃ xz, V1.heap.size = xz := ⟨_, rfl⟩
    have hb10 : Below V1.heap.size V1 W10 := by rw [← hW10]; exact (Below.refl _ _).alloc (Nat.le_refl _) _
    have HL := Lib.hid (by rw [← hW10, ← hbl]; exact alloc_new rfl : W10.heap[bl]? = some (.cells #[.slice none 0 0] 22 (0, 0)))
    have EW10 := Lib.hid hW10
    have Ebl := Lib.hid hbl
    clear hW10 hbl
    have o7 : bt < bl := by rw [← Ebl.out]; exact lt_of_heap HTC.out
    have HTC := Lib.hid ((hb10.block _ (lt_of_heap HTC.out)).trans HTC.out)
    have HB := Lib.hid (chain HB.out hb10)
    have HDS := Lib.hid (fun d hd => by have h1 := HDS.out d hd; exact (hb10.block d (lt_of_heap h1)).trans h1 : ∀ d, d ∈ ([q1] : List Nat) → W10.heap[d]? = some (.deferred (some [])))
    have hit := all_iter D mb W8 W10 bm bf fs HM8.out HT8.out HB.out ((HB.out.block _ (lt_of_heap HMB.out)).trans HMB.out) ((HB.out.block _ (lt_of_heap HFB.out)).trans HFB.out) (by omega)
    rw [HTT.out] at hit
    have HIT := Lib.hid hit
    have HB0 := Lib.hid HB.out.size
    clear hb10 hit
    go_wp2_with fail
    rw [EW10.out, Ebl.out]
    refine range_outer (w0 := W10) (N := T.length) (Cap := fun b => b < W8.heap.size ∨ b = bm ∨ b = bf) (gf := 70) (lb := #[.pointer (some ⟨bm, 0, none⟩), .pointer (some ⟨bf, 0, none⟩)]) (encs := fun k => #[encT (T.getD k default)]) rfl (Go.Proofs.enters_of Tryd.func70 (by kernel_rfl) rfl)
      HIT.out (Below.refl _ _) (fun _ => rfl) ?capb
      (fun k S W => ∃ v, (∀ b, S b ↔ b = bl ∨ v.ownBlock = some b) ∧ Col 22 49 3 k (flat (T.take k)) bl W10 v W)
      (fun c k S W => (1 : Int) = 1 ∧ c = .exit 2 ∧ ∃ v, (∀ b, S b ↔ b = bl ∨ v.ownBlock = some b) ∧ Col 22 49 3 (k + 1) (flat (T.take (k + 1))) bl W10 v W)
      ?kib ?kxb (fun b => b = bl) ⟨.slice none 0 0, fun b => by simp [Value.ownBlock], ⟨Upd.refl _ _, HL.out, Seg.nil _ _ _ _⟩⟩ ?s0b ?roundb ?doneb ?stopb
    case capb =>
      have := HB.out.size
      have := lt_of_heap HL.out
      rintro b (h | rfl | rfl) <;> omega
    case kib =>
      rintro k S A B ⟨v, hS, hst⟩ hu
      exact ⟨v, hS, hst.keep hu (fun h => h.2 ((hS _).2 (.inl rfl))) (fun b hb h => h.2 ((hS _).2 (.inr hb))) (fun b hb h => by have := h.1; omega)⟩
    case kxb =>
      rintro c k S A B ⟨h1, h2, v, hS, hst⟩ hu
      exact ⟨h1, h2, v, hS, hst.keep hu (fun h => h.2 ((hS _).2 (.inl rfl))) (fun b hb h => h.2 ((hS _).2 (.inr hb))) (fun b hb h => by have := h.1; omega)⟩
    case s0b =>
      rintro b rfl
      have := lt_of_heap HL.out
      have := HZ8.out
      exact ⟨by omega, by omega⟩
    case roundb =>
      rintro l k S A hk ⟨v, hS, hst⟩ h1 h2 h3 h4 h5 h6
      obtain ⟨x, hx⟩ : ∃ x, T.getD k default = x := ⟨_, rfl⟩
      rw [hx]
      unfold encT
      obtain ⟨A1, hA1⟩ : ∃ Xz, A.alloc (.cells #[.int .i64 x.a, .int .i64 x.b, .int .i64 x.s] 49) = Xz := ⟨_, rfl⟩
      obtain ⟨bq, hbq⟩ : ∃ xz, A.heap.size = xz := ⟨_, rfl⟩
      have hbA : Below A.heap.size A A1 := by rw [← hA1]; exact (Below.refl _ _).alloc (Nat.le_refl _) _
      have HV := Lib.hid (by rw [← hA1, ← hbq]; exact alloc_new rfl : A1.heap[bq]? = some (.cells #[.int .i64 x.a, .int .i64 x.b, .int .i64 x.s] 49 (0, 0)))
      have EA1 := Lib.hid hA1
      have Ebq := Lib.hid hbq
      clear hA1 hbq
      have HX0 := Lib.hid hx
      have H6 := Lib.hid h6
      clear hx hst h5 h6 hS
      gi_wp2
      rw [EA1.out, Ebq.out]
      rw [Ebq.out] at hbA
      refine ⟨hbA, fun A2 hu hz hI2 hr2 => ?_⟩
      obtain ⟨v2, hS2, hst2⟩ := hI2
      have HST := Lib.hid hst2
      have HS2 := Lib.hid hS2
      have HVV := Lib.hid (Upd.mem hu HV.out (by have := Ebq.out; omega))
      have oA : A.heap.size = bq := Ebq.out
      clear hS2 hst2 hr2 hu hz hbA
      obtain ⟨A3, hA3⟩ : ∃ Xz, A2.alloc (.cells #[.int .i64 x.a, .int .i64 x.b, .int .i64 x.s] 49) = Xz := ⟨_, rfl⟩
      obtain ⟨br, hbr⟩ : ∃ xz, A2.heap.size = xz := ⟨_, rfl⟩
      have hbn : Below A2.heap.size A2 A3 := by rw [← hA3]; exact (Below.refl _ _).alloc (Nat.le_refl _) _
      have HN := Lib.hid (by rw [← hA3, ← hbr]; exact alloc_new rfl : A3.heap[br]? = some (.cells #[.int .i64 x.a, .int .i64 x.b, .int .i64 x.s] 49 (0, 0)))
      have EA3 := Lib.hid hA3
      have Ebr := Lib.hid hbr
      clear hA3 hbr
      obtain ⟨v3, A4, hrun, hcl, hcol, hu4, hown, ⟨av, cv, hvv⟩, hzz⟩ := Col.next elemT (HST.out.below hbn) HN.out rfl (by simp [Value.oneCell']) (by unfold maxLen; omega) (by omega) (by have := lt_of_heap HL.out; omega) 22
      subst hvv
      have HCOL := Lib.hid hcol
      have HCL := Lib.hid hcl
      have HU4 := Lib.hid hu4
      have HOWN := Lib.hid hown
      have HC0 := Lib.hid HST.out.c
      have o6 := hbn.size
      have HBN := Lib.hid hbn
      rw [← EA3.out, ← Ebr.out] at hrun
      obtain ⟨A5, hA5⟩ : ∃ z, A4.setCell ⟨bl, 0, none⟩ (.slice (some av) (k + 1) cv) = z := ⟨_, rfl⟩
      rw [hA5] at HCOL HU4
      have EA5 := Lib.hid hA5
      have HG5 := Lib.hid (HCOL.out.c)
      have HTC5 := Lib.hid (Upd.mem HCOL.out.u HTC.out (by omega))
      have HSC5 := Lib.hid (Upd.mem HCOL.out.u ((HB.out.block _ (lt_of_heap HSC.out)).trans HSC.out) (by omega))
      clear hcol hcl hu4 hown hbn hA5
      have c0 := cell_at HC0.out 0
      have cz := lt_of_heap HC0.out
      simp only [List.getElem?_toArray, List.getElem?_cons_zero] at c0
      have q0 := cell_at HCL.out 0
      have qf := free_all HCL.out
      have qz := lt_of_heap HCL.out
      simp only [List.getElem?_toArray, List.getElem?_cons_zero] at q0
      have v0 := cell_at HVV.out 0
      have v1 := cell_at HVV.out 1
      have v2 := cell_at HVV.out 2
      have vz := lt_of_heap HVV.out
      simp only [List.getElem?_toArray, List.getElem?_cons_zero, List.getElem?_cons_succ] at v0 v1 v2
      have HRUN := Lib.hid hrun
      clear hrun
      have hA4 : ∀ b, b ≠ bl → A4.heap[b]? = A5.heap[b]? := fun b hb => by rw [← EA5.out]; exact (Below.heap_setCell _ _ _ _ hb).symm
      have HTC4 := Lib.hid ((hA4 bt (by omega)).trans HTC5.out)
      have HSC4 := Lib.hid ((hA4 bs (by omega)).trans HSC5.out)
      have t0 := cell_at HTC4.out 0
      have tz := lt_of_heap HTC4.out
      simp only [List.getElem?_toArray, List.getElem?_cons_zero] at t0
      have s0 := cell_at HSC4.out 0
      have sz := lt_of_heap HSC4.out
      simp only [List.getElem?_toArray, List.getElem?_cons_zero] at s0
      have e4 : bt ≠ bl := by omega
      have e5 : bs ≠ bl := by omega
      clear hA4
      have hft := flat_take hk
      rw [HX0.out] at hft
      rw [← hft] at HCOL
      have hz4 := HU4.out.size
      clear hft
      by_cases he : st < (k : Int) + 1
      · gi_wp2_with (gi_at_builtin; refine append_run_in rfl rfl rfl rfl HRUN.out ?_)
        rw [EA5.out]
        refine ⟨fun b => b = bl ∨ (Value.slice (some av) (k + 1) cv).ownBlock = some b, ⟨trivial, rfl, _, fun b => Iff.rfl, HCOL.out⟩, ?_, fun b hb => ⟨?_, ?_⟩⟩
        · refine (Upd.of_below HBN.out : Upd (fun b => S b ∨ A.heap.size ≤ b) A2 A3).trans (HU4.out.mono fun b _ hh => .inl ((HS2.out b).2 hh))
        · rcases hb with hb | hb
          · exact .inl ((HS2.out b).2 (.inl hb))
          · rcases HOWN.out b hb with h7 | h7
            · exact .inl ((HS2.out b).2 (.inr h7))
            · exact .inr (by omega)
        · rcases hb with hb | hb
          · have := HCOL.out.c
            rw [hb]
            exact lt_of_heap this
          · exact (HCOL.out.r.lt b hb).2
      · gi_wp2_with (gi_at_builtin; refine append_run_in rfl rfl rfl rfl HRUN.out ?_)
        rw [EA5.out]
        refine ⟨fun b => b = bl ∨ (Value.slice (some av) (k + 1) cv).ownBlock = some b, ⟨_, fun b => Iff.rfl, HCOL.out⟩, ?_, fun b hb => ⟨?_, ?_⟩⟩
        · refine (Upd.of_below HBN.out : Upd (fun b => S b ∨ A.heap.size ≤ b) A2 A3).trans (HU4.out.mono fun b _ hh => .inl ((HS2.out b).2 hh))
        · rcases hb with hb | hb
          · exact .inl ((HS2.out b).2 (.inl hb))
          · rcases HOWN.out b hb with h7 | h7
            · exact .inl ((HS2.out b).2 (.inr h7))
            · exact .inr (by omega)
        · rcases hb with hb | hb
          · have := HCOL.out.c
            rw [hb]
            exact lt_of_heap this
          · exact (HCOL.out.r.lt b hb).2
    case doneb =>
      rintro S B ⟨v, hS, hst⟩ hD
      obtain ⟨m, hm⟩ : ∃ m, T.length = m := ⟨_, rfl⟩
      rw [hm] at hst
      have hmT : m ≤ T.length := by omega
      clear hm
      have hlt : (T.take m).length = m := by simp; omega
      obtain ⟨T', hT'⟩ : ∃ z, T.take m = z := ⟨_, rfl⟩
      have HST := Lib.hid hst
      have hr := hst.r
      rw [hT'] at hr hlt
      subst hlt
      have HDD := Lib.hid hD
      have HBB := Lib.hid (HB.out.trans (HST.out.u.below HB.out.size (fun b hb h => by omega)))
      have HTC1 := Lib.hid (Upd.mem HST.out.u HTC.out (by omega))
      have HDS1 := Lib.hid (Upd.mem HST.out.u (HDS.out q1 (List.mem_singleton.2 rfl)) (by have := lt_of_heap (HDV.out); have := Ebl.out; have := o7; have := Ebt.out; omega))
      have HC0 := Lib.hid HST.out.c
      obtain ⟨ag, cg, rfl, hcg, hcg', hag, hgc⟩ := seg_cells hr
      have hzz := HBB.out.size
      have hsl := HAW.out
      have HSMR := Lib.hid (fun (x : Later B) (b : Option Addr) (cb : Nat) (hb : b = aw) => same_calls x.w ag b cg cb T' (fun h => by obtain ⟨g, o, h1, _, h3⟩ := hgc h; exact ⟨g, o, h1, h3.below x.h⟩) (fun h => by obtain ⟨g, o, h1, h3⟩ := HWC.out _ (chain HBB.out x.h) (by omega); exact ⟨g, o, hb.trans h1, by rw [← hT']; exact h3.take (by omega)⟩) (by omega))
      have f1 : ¬ ((T.length : Int) < T'.length) := by omega
      have f2 : (T'.length : Int) ≤ cw := by omega
      clear hst hD hS hgc hr hT' t0 tz
      have c0 := cell_at HC0.out 0
      have cz := lt_of_heap HC0.out
      simp only [List.getElem?_toArray, List.getElem?_cons_zero] at c0
      have t0 := cell_at HTC1.out 0
      have tz := lt_of_heap HTC1.out
      simp only [List.getElem?_toArray, List.getElem?_cons_zero] at t0
      go_wp2_with fail
      refine region_calm (by kernel_rfl) (by kernel_rfl) ?_
      repeat (quiet_step ((exact later_call (HSMR.out _ _ _ (by first | rfl | (split <;> simp))))))
      refine wpQuiet_nil ?_
      rintro _ ⟨x, rfl⟩
      have HB := Lib.hid (chain HBB.out x.h)
      have HDV := Lib.hid ((x.h.block _ (lt_of_heap HDD.out)).trans HDD.out)
      have HDW := Lib.hid ((x.h.block _ (lt_of_heap HDS1.out)).trans HDS1.out)
      have HTV := Lib.hid ((x.h.block _ (lt_of_heap HTC1.out)).trans HTC1.out)
      obtain ⟨q2, hq⟩ : ∃ z, W10.heap.size = z := ⟨_, rfl⟩
      rw [hq] at HDV ⊢
      have oq2 : q1 < q2 := by rw [← hq]; exact lt_of_heap (HDS.out q1 (List.mem_singleton.2 rfl))
      clear hq HSMR c0 cz t0 tz
      generalize x.w = V at HB HDV HTV HDW ⊢
      have t0 := cell_at HTV.out 0
      have tz := lt_of_heap HTV.out
      simp only [List.getElem?_toArray, List.getElem?_cons_zero] at t0
      obtain ⟨V1, hV1⟩ : ∃ Xz, V.alloc (.cells #[.int .i64 2] 3) = Xz := ⟨_, rfl⟩
      obtain ⟨bt, hbt⟩ : ∃ xz, V.heap.size = xz := ⟨_, rfl⟩
      have hbu : Below V.heap.size V V1 := by rw [← hV1]; exact (Below.refl _ _).alloc (Nat.le_refl _) _
      have HTC := Lib.hid (by rw [← hV1, ← hbt]; exact alloc_new rfl : V1.heap[bt]? = some (.cells #[.int .i64 2] 3 (0, 0)))
      have EV1 := Lib.hid hV1
      have Ebt := Lib.hid hbt
      clear hV1 hbt
      have HB := Lib.hid (chain HB.out hbu)
      have HDV := Lib.hid ((hbu.block _ (lt_of_heap HDV.out)).trans HDV.out)
      have HDW := Lib.hid ((hbu.block _ (lt_of_heap HDW.out)).trans HDW.out)
      clear hbu
      go_wp2_with fail
      rw [EV1.out, Ebt.out]
      rw [rounds_succ]
      clear t0 tz
      have t0 := cell_at HTC.out 0
      have tz := lt_of_heap HTC.out
      simp only [List.getElem?_toArray, List.getElem?_cons_zero] at t0
      go_wp2_with fail
      refine (known_calls V1 (HT8.out.below HB.out)).mono ?_
      rintro e V2 ⟨rfl, hb⟩
      have HDV := Lib.hid ((hb.block _ (lt_of_heap HDV.out)).trans HDV.out)
      have HDW := Lib.hid ((hb.block _ (lt_of_heap HDW.out)).trans HDW.out)
      have HB := Lib.hid (HB8.out.trans ((chain HB.out hb).mono (by have := HB8.out.size; omega)))
      clear hb t0 tz
      go_wp2_with fail
      have hB := HB.out
      have ow : w.heap.size ≤ W8.heap.size := HB8.out.size
      refine leaves_marks (v := .bool true) [q2, q1] _ (fun d hd => ?_) (by simp; omega) (fun w' hu => ⟨?_, rfl, ?_⟩)
      · rcases List.mem_cons.1 hd with rfl | hd
        · exact HDV.out
        · rw [List.mem_singleton] at hd
          rw [hd]
          exact HDW.out
      · simp [results, Tryd.results4, go_sem]
      · exact hB.trans (hu.below hB.size (fun k hk h => by
          simp only [List.mem_cons, List.not_mem_nil, or_false] at h
          omega))
    case stopb =>
      rintro c k S B hk ⟨_, rfl, v, hS, hst⟩ hD
      obtain ⟨m, hm⟩ : ∃ m, k + 1 = m := ⟨_, rfl⟩
      rw [hm] at hst
      have hmT : m ≤ T.length := by omega
      clear hm
      have hlt : (T.take m).length = m := by simp; omega
      obtain ⟨T', hT'⟩ : ∃ z, T.take m = z := ⟨_, rfl⟩
      have HST := Lib.hid hst
      have hr := hst.r
      rw [hT'] at hr hlt
      subst hlt
      have HDD := Lib.hid hD
      have HBB := Lib.hid (HB.out.trans (HST.out.u.below HB.out.size (fun b hb h => by omega)))
      have HTC1 := Lib.hid (Upd.mem HST.out.u HTC.out (by omega))
      have HDS1 := Lib.hid (Upd.mem HST.out.u (HDS.out q1 (List.mem_singleton.2 rfl)) (by have := lt_of_heap (HDV.out); have := Ebl.out; have := o7; have := Ebt.out; omega))
      have HC0 := Lib.hid HST.out.c
      obtain ⟨ag, cg, rfl, hcg, hcg', hag, hgc⟩ := seg_cells hr
      have hzz := HBB.out.size
      have hsl := HAW.out
      have HSMR := Lib.hid (fun (x : Later B) (b : Option Addr) (cb : Nat) (hb : b = aw) => same_calls x.w ag b cg cb T' (fun h => by obtain ⟨g, o, h1, _, h3⟩ := hgc h; exact ⟨g, o, h1, h3.below x.h⟩) (fun h => by obtain ⟨g, o, h1, h3⟩ := HWC.out _ (chain HBB.out x.h) (by omega); exact ⟨g, o, hb.trans h1, by rw [← hT']; exact h3.take (by omega)⟩) (by omega))
      have f1 : ¬ ((T.length : Int) < T'.length) := by omega
      have f2 : (T'.length : Int) ≤ cw := by omega
      clear hst hD hS hgc hr hT' t0 tz
      have c0 := cell_at HC0.out 0
      have cz := lt_of_heap HC0.out
      simp only [List.getElem?_toArray, List.getElem?_cons_zero] at c0
      have t0 := cell_at HTC1.out 0
      have tz := lt_of_heap HTC1.out
      simp only [List.getElem?_toArray, List.getElem?_cons_zero] at t0
      go_wp2_with fail
      refine region_calm (by kernel_rfl) (by kernel_rfl) ?_
      repeat (quiet_step ((exact later_call (HSMR.out _ _ _ (by first | rfl | (split <;> simp))))))
      refine wpQuiet_nil ?_
      rintro _ ⟨x, rfl⟩
      have HB := Lib.hid (chain HBB.out x.h)
      have HDV := Lib.hid ((x.h.block _ (lt_of_heap HDD.out)).trans HDD.out)
      have HDW := Lib.hid ((x.h.block _ (lt_of_heap HDS1.out)).trans HDS1.out)
      have HTV := Lib.hid ((x.h.block _ (lt_of_heap HTC1.out)).trans HTC1.out)
      obtain ⟨q2, hq⟩ : ∃ z, W10.heap.size = z := ⟨_, rfl⟩
      rw [hq] at HDV ⊢
      have oq2 : q1 < q2 := by rw [← hq]; exact lt_of_heap (HDS.out q1 (List.mem_singleton.2 rfl))
      clear hq HSMR c0 cz t0 tz
      generalize x.w = V at HB HDV HTV HDW ⊢
      have t0 := cell_at HTV.out 0
      have tz := lt_of_heap HTV.out
      simp only [List.getElem?_toArray, List.getElem?_cons_zero] at t0
      obtain ⟨V1, hV1⟩ : ∃ Xz, V.alloc (.cells #[.int .i64 2] 3) = Xz := ⟨_, rfl⟩
      obtain ⟨bt, hbt⟩ : ∃ xz, V.heap.size = xz := ⟨_, rfl⟩
      have hbu : Below V.heap.size V V1 := by rw [← hV1]; exact (Below.refl _ _).alloc (Nat.le_refl _) _
      have HTC := Lib.hid (by rw [← hV1, ← hbt]; exact alloc_new rfl : V1.heap[bt]? = some (.cells #[.int .i64 2] 3 (0, 0)))
      have EV1 := Lib.hid hV1
      have Ebt := Lib.hid hbt
      clear hV1 hbt
      have HB := Lib.hid (chain HB.out hbu)
      have HDV := Lib.hid ((hbu.block _ (lt_of_heap HDV.out)).trans HDV.out)
      have HDW := Lib.hid ((hbu.block _ (lt_of_heap HDW.out)).trans HDW.out)
      clear hbu
      go_wp2_with fail
      rw [EV1.out, Ebt.out]
      rw [rounds_succ]
      clear t0 tz
      have t0 := cell_at HTC.out 0
      have tz := lt_of_heap HTC.out
      simp only [List.getElem?_toArray, List.getElem?_cons_zero] at t0
      go_wp2_with fail
      refine (known_calls V1 (HT8.out.below HB.out)).mono ?_
      rintro e V2 ⟨rfl, hb⟩
      have HDV := Lib.hid ((hb.block _ (lt_of_heap HDV.out)).trans HDV.out)
      have HDW := Lib.hid ((hb.block _ (lt_of_heap HDW.out)).trans HDW.out)
      have HB := Lib.hid (HB8.out.trans ((chain HB.out hb).mono (by have := HB8.out.size; omega)))
      clear hb t0 tz
      go_wp2_with fail
      have hB := HB.out
      have ow : w.heap.size ≤ W8.heap.size := HB8.out.size
      refine leaves_marks (v := .bool true) [q2, q1] _ (fun d hd => ?_) (by simp; omega) (fun w' hu => ⟨?_, rfl, ?_⟩)
      · rcases List.mem_cons.1 hd with rfl | hd
        · exact HDV.out
        · rw [List.mem_singleton] at hd
          rw [hd]
          exact HDW.out
      · simp [results, Tryd.results4, go_sem]
      · exact hB.trans (hu.below hB.size (fun k hk h => by
          simp only [List.mem_cons, List.not_mem_nil, or_false] at h
          omega))
end Go.Proofs.YtendkmldecoogaaDoor.cutTokens
