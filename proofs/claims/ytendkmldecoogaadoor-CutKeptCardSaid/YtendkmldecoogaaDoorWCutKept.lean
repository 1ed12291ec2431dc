/-
  The walk of the law CutKept.
-/
import Derived.Test.YtendkmldecoogaaDoorCutAs
import Derived.Test.YtendkmldecoogaaDoorBookATok
namespace Go.Proofs.YtendkmldecoogaaDoor.cutKept
open Go Go.RowKit Go.Proofs.YtendkmldecoogaaDoor.Kit Go.Proofs.YtendkmldecoogaaDoor.Range Go.Proofs.YtendkmldecoogaaDoor.Round Go.Proofs.YtendkmldecoogaaDoor.Seg Go.Proofs.YtendkmldecoogaaDoor.Collect Go.Proofs.YtendkmldecoogaaDoor.Utf Go.Proofs.YtendkmldecoogaaDoor.It Go.Proofs.YtendkmldecoogaaDoor.ItGo Go.Proofs.YtendkmldecoogaaDoor.Dt Go.Proofs.YtendkmldecoogaaDoor.Mo Go.Proofs.YtendkmldecoogaaDoor.MoNew Go.Proofs.YtendkmldecoogaaDoor.Keep Go.Proofs.YtendkmldecoogaaDoor.Cu Go.Proofs.YtendkmldecoogaaDoor.CutRun Go.Proofs.YtendkmldecoogaaDoor.CutNext Go.Proofs.YtendkmldecoogaaDoor.CutAll Go.Proofs.YtendkmldecoogaaDoor.CutTokens Go.Proofs.YtendkmldecoogaaDoor.CutAs Go.Proofs.YtendkmldecoogaaDoor.BookTok
attribute [local irreducible] wpQuiet

set_option maxRecDepth 100000 in
theorem mark_calls (i j : Nat) (w : World) (hi : i ≤ 10000000) (hj : j ≤ maxLen) : Calls Tryd.prog 33 #[.int .i64 i, .int .i64 j] w fun e w' => e = .returned (.agg #[.int .i64 (-100 - (i : Int)), .int .i64 (-(j : Int)), .int .i64 0]) ∧ Below w.heap.size w w' := by
  have hj2 : j ≤ 9223372036854775807 := by unfold maxLen at hj; omega
  have w1 : IntKind.i64.wrap (-100 - (i : Int)) = -100 - (i : Int) := i64w _ (by omega) (by omega)
  have w2 : IntKind.i64.wrap (-(j : Int)) = -(j : Int) := i64w _ (by omega) (by omega)
  obtain ⟨W1, hW1⟩ : ∃ Xz, w.alloc (.cells #[.int .i64 (-100 - (i : Int)), .int .i64 (-(j : Int)), .int .i64 0] 49) = Xz := ⟨_, rfl⟩
  obtain ⟨rb, hrb⟩ : ∃ xz, w.heap.size = xz := ⟨_, rfl⟩
  have hb1 : Below w.heap.size w W1 := by rw [← hW1]; exact (Below.refl _ _).alloc (Nat.le_refl _) _
  have HR := Lib.hid (by rw [← hW1, ← hrb]; exact alloc_new rfl : W1.heap[rb]? = some (.cells #[.int .i64 (-100 - (i : Int)), .int .i64 (-(j : Int)), .int .i64 0] 49 (0, 0)))
  have EW1 := Lib.hid hW1
  have Erb := Lib.hid hrb
  clear hW1 hrb
  have HB := Lib.hid hb1
  clear hb1
  have r0 := cell_at HR.out 0
  have r1 := cell_at HR.out 1
  have r2 := cell_at HR.out 2
  have rz := lt_of_heap HR.out
  simp only [List.getElem?_toArray, List.getElem?_cons_zero, List.getElem?_cons_succ] at r0 r1 r2
  go_enter Tryd.func33, Tryd.ntmps33
  go_wp2_with fail
  rw [EW1.out, Erb.out]
  refine bodyPost_ret (v := .agg #[.int .i64 (-100 - (i : Int)), .int .i64 (-(j : Int)), .int .i64 0]) (by simp [results, Tryd.results33, go_sem, *]) rfl (⟨rfl, by have := HB.out; rw [Erb.out] at this; exact this⟩)

theorem flat_shaped (T : List Tk) : Shaped T.length (flat T) := ⟨fun i hi => by
  obtain ⟨f1, f2, f3⟩ := flat_at hi
  exact ⟨_, _, _, f1, f2, f3⟩, fun u hu => by
    unfold flat at hu
    obtain ⟨t, _, h⟩ := List.mem_flatMap.1 hu
    simp at h
    rcases h with rfl | rfl | rfl <;> rfl⟩

theorem fresh {W W' : World} {base bb n : Nat} {L : List Rec} {lv wv v : Value} {held : Int} {xs : List Value} (h : Bk W base bb L lv wv held) (hv : Seg W' W.heap.size 49 3 v n xs) : ∀ r, r ∈ L → ∀ b, r.v.ownBlock = some b → v.ownBlock ≠ some b := fun r hr b hb hvb => by
  have h1 := ((h.vs r hr).1.lt b hb).2
  have h2 := (hv.lt b hvb).1
  omega

set_option maxHeartbeats 4000000 in
set_option maxRecDepth 100000 in
theorem walk (D : Dt) (Q : Pl) (s : ByteArray) (w : World) (hd : At w D Q) (_hs : s.size ≤ 140737488355328) (hT : Tabs w) :
    Calls Tryd.prog 7 #[.agg #[.slice Q.a0 D.nw Q.c0, .slice Q.a1 D.nm Q.c1, .slice Q.a2 D.n0 Q.c2, .slice Q.a3 D.n1 Q.c3, .slice Q.a4 D.n2 Q.c4], .string s] w fun e w' => e = .returned (.bool true) ∧ Below w.heap.size w w' := by
  have HA := Lib.hid hd
  have HT := Lib.hid hT
  clear hd hT
  obtain ⟨W1, hW1⟩ : ∃ Xz, w.alloc (.cells #[.slice Q.a0 D.nw Q.c0, .slice Q.a1 D.nm Q.c1, .slice Q.a2 D.n0 Q.c2, .slice Q.a3 D.n1 Q.c3, .slice Q.a4 D.n2 Q.c4] 33) = Xz := ⟨_, rfl⟩
  obtain ⟨bd, hbd⟩ : ∃ xz, w.heap.size = xz := ⟨_, rfl⟩
  have hb1 : Below w.heap.size w W1 := by rw [← hW1]; exact (Below.refl _ _).alloc (Nat.le_refl _) _
  have HX := Lib.hid (by rw [← hW1, ← hbd]; exact alloc_new rfl : W1.heap[bd]? = some (.cells #[.slice Q.a0 D.nw Q.c0, .slice Q.a1 D.nm Q.c1, .slice Q.a2 D.n0 Q.c2, .slice Q.a3 D.n1 Q.c3, .slice Q.a4 D.n2 Q.c4] 33 (0, 0)))
  have EW1 := Lib.hid hW1
  have Ebd := Lib.hid hbd
  clear hW1 hbd
  have HB := Lib.hid hb1
  have HA := Lib.hid (HA.out.below hb1)
  have HO := Lib.hid (Of_calls D Q W1 HA.out)
  clear hb1
  have x0 := cell_at HX.out 0
  have x1 := cell_at HX.out 1
  have x2 := cell_at HX.out 2
  have x3 := cell_at HX.out 3
  have x4 := cell_at HX.out 4
  have xz := lt_of_heap HX.out
  simp only [List.getElem?_toArray, List.getElem?_cons_zero, List.getElem?_cons_succ] at x0 x1 x2 x3 x4
  obtain ⟨fs, hfs⟩ : ∃ z, few s 300 = z := ⟨_, rfl⟩
  have hf1 := few_size s 300
  have HF := Lib.hid (fun w => few_calls s 300 w (by decide))
  rw [hfs] at HF hf1
  have hfz : fs.size ≤ 300 := hf1.1
  clear hfs hf1
  go_enter Tryd.func7, Tryd.ntmps7
  go_upto_region 1 with fail
  rw [EW1.out, Ebd.out]
  go_wp2_with fail
  refine HO.out.mono ?_
  clear x0 x1 x2 x3 x4 xz
  rintro e W2 (⟨rfl, hb2⟩ | ⟨mb, rfl, hM, _, hb2, _⟩)
  · have HB := Lib.hid (chain HB.out hb2)
    clear hb2
    go_wp2_with fail
    refine (known_calls W2 (HT.out.below HB.out)).mono ?_
    rintro e W3 ⟨rfl, hb3⟩
    have HB := Lib.hid (chain HB.out hb3)
    clear hb3
    go_wp2_with fail
    go_ret
    exact ⟨rfl, HB.out⟩
  have HM := Lib.hid hM
  have HG := Lib.hid (Good.of_mod hM)
  have HB := Lib.hid (chain HB.out hb2)
  clear hM hb2
  go_wp2_with fail
  refine (HF.out W2).mono ?_
  rintro e w' ⟨rfl, rfl⟩
  obtain ⟨base, hbase⟩ : ∃ z, W2.heap.size = z := ⟨_, rfl⟩
  obtain ⟨W3, hW3⟩ : ∃ Xz, W2.alloc (.cells #[.slice none 0 0, .slice none 0 0, .int .i64 0, .bool false] 64) = Xz := ⟨_, rfl⟩
  obtain ⟨bb, hbb⟩ : ∃ xz, W2.heap.size = xz := ⟨_, rfl⟩
  have hb3 : Below W2.heap.size W2 W3 := by rw [← hW3]; exact (Below.refl _ _).alloc (Nat.le_refl _) _
  have HBB := Lib.hid (by rw [← hW3, ← hbb]; exact alloc_new rfl : W3.heap[bb]? = some (.cells #[.slice none 0 0, .slice none 0 0, .int .i64 0, .bool false] 64 (0, 0)))
  have EW3 := Lib.hid hW3
  have Ebb := Lib.hid hbb
  clear hW3 hbb
  have HK := Lib.hid (show Bk W3 base bb [] (.slice none 0 0) (.slice none 0 0) 0 from ⟨by rw [← hbase, ← Ebb.out]; exact Nat.le_refl _, HBB.out, Seg.nil _ _ _ _, Seg.nil _ _ _ _, fun b h => (by simp [Value.ownBlock] at h), fun r hr => (by cases hr), List.Pairwise.nil⟩)
  rw [hbase] at hb3
  have HB3 := Lib.hid hb3
  have hz : base ≤ W3.heap.size := by rw [← hbase]; exact hb3.size
  have HBS := Lib.hid hbase
  clear hb3 hbase HBB
  have hlen := toks_len D HG.out fs.data.toList 0
  rw [size_list] at hlen
  go_wp2_with fail
  rw [EW3.out, Ebb.out]
  go_loopg [9] 2 (fun g s9 wr => ∃ (i : Nat) (L : List Rec) (lv wv : Value) (held : Int), i ≤ 2 ∧ g = 2 - i ∧ s9 = .int .i64 i ∧ Bk wr base bb L lv wv held ∧ L.length ≤ i ∧ Below base W2 wr ∧ base ≤ wr.heap.size)
  case atStart => exact ⟨0, [], _, _, _, by omega, by omega, rfl, HK.out, Nat.le_refl _, HB3.out, hz⟩
  case round =>
    obtain ⟨i, L, lv, wv, held, hi, hg, rfl, hk, hl, hb, hbz⟩ := hrel
    have HG2 := Lib.hid hg
    have HK := Lib.hid hk
    have HBB := Lib.hid hb
    clear hg hk hb
    have HM4 := Lib.hid (HM.out.below (by rw [HBS.out]; exact HBB.out))
    have HB4 := Lib.hid (show Below w.heap.size w wr from chain HB.out (by rw [HBS.out]; exact HBB.out))
    by_cases hlt : i < 2
    · have hlti : (i : Int) < 2 := by omega
      go_wp2_with fail
      refine (Tokens_calls D mb fs wr HM4.out (HT.out.below HB4.out) (by omega)).mono ?_
      rintro e W5 ⟨v, rfl, hrow, hb5⟩
      have HROW := Lib.hid hrow
      have HK5 := Lib.hid (HK.out.below hb5)
      have HFR := Lib.hid (fresh HK.out hrow)
      have HB5 := Lib.hid (HBB.out.trans (hb5.mono hbz))
      have hbz5 : base ≤ W5.heap.size := Nat.le_trans hbz hb5.size
      clear hrow hb5
      go_wp2_with fail
      refine (Keep_calls bb base L lv wv held v _ _ W5 HK5.out (HROW.out.rebase (fun b hb => Nat.le_trans hbz (HROW.out.lt b hb).1)) (flat_shaped _) (by omega) HFR.out (by omega) hbz5).mono ?_
      rintro e W6 ⟨⟨z, rfl⟩, L', lv', wv', held', hk6, _, hl6, hu6⟩
      have HK6 := Lib.hid hk6
      have HB6 := Lib.hid (HB5.out.trans (hu6.below hbz5 (fun b hb h => by have := h.1; omega)))
      have hbz6 := Nat.le_trans hbz5 hu6.size
      clear hk6 hu6 HFR HROW
      go_wp2_with fail
      go_roundg (2 - (i + 1))
      case measure => have := HG2.out; omega
      case rel => exact ⟨i + 1, L', lv', wv', held', by omega, rfl, by go_num, HK6.out, by omega, HB6.out, hbz6⟩
    · have hi2 : i = 2 := by omega
      subst hi2
      go_wp2_with fail
      refine (Apart_calls 33 (fun i _ => -100 - (i : Int)) (fun _ j => -(j : Int)) (fun _ _ => 0) mark_calls (Go.Proofs.enters_of Tryd.func33 (by kernel_rfl) rfl) bb base L lv wv held wr HK.out (by omega) hbz).mono ?_
      rintro e W5 ⟨rfl, hb5⟩
      have HB5 := Lib.hid (chain HB.out (by rw [HBS.out]; exact HBB.out.trans hb5) : Below w.heap.size w W5)
      clear hb5
      go_wp2_with fail
      refine (known_calls W5 (HT.out.below HB5.out)).mono ?_
      rintro e W6 ⟨rfl, hb6⟩
      have HB := Lib.hid (chain HB5.out hb6)
      clear hb6
      go_wp2_with fail
      go_ret
      exact ⟨rfl, HB.out⟩
end Go.Proofs.YtendkmldecoogaaDoor.cutKept
