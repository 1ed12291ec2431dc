/-
  tesserabook.Within. Pre-tokens: cut anew from where one ends. The walk of the law CutAnew.
-/
import Derived.Test.YtendkmldecoogaaDoorProg
import Derived.Test.YtendkmldecoogaaDoorKit
import Derived.Test.YtendkmldecoogaaDoorCutAll
import Derived.Test.YtendkmldecoogaaDoorCutAs
namespace Go.Proofs.YtendkmldecoogaaDoor.Within
open Go Go.RowKit Go.Proofs.YtendkmldecoogaaDoor.Kit

/-- A number brought into lo .. hi. -/
theorem Within_calls (n lo hi : Int) (w : World) (h1 : lo ≤ hi) (h2 : -2199023255552 ≤ lo) (h3 : hi ≤ 2199023255552) (_h4 : -9223372036854775808 ≤ n) (_h5 : n ≤ 9223372036854775807) :
    Calls Tryd.prog 27 #[.int .i64 n, .int .i64 lo, .int .i64 hi] w fun e w' => e = .returned (.int .i64 (lo + n % (hi - lo + 1))) ∧ w = w' := by
  obtain ⟨m, hm⟩ : ∃ m, m = hi - lo + 1 := ⟨_, rfl⟩
  have hm1 : 0 < m := by omega
  have hm2 : m ≤ 4398046511105 := by omega
  have ht := Int.tmod_add_mul_tdiv n m
  have b1 := Int.lt_tmod_of_pos n hm1
  have b2 := Int.tmod_lt_of_pos n hm1
  have hn0 : hi - lo + 1 ≠ 0 := by omega
  have hres : (if n.tmod m < 0 then n.tmod m + m else n.tmod m) = n % m := by
    have hq : n = n.tmod m + m * n.tdiv m := ht.symm
    split
    · rename_i hneg
      have h := Int.add_mul_emod_self_left (n.tmod m + m) m (n.tdiv m - 1)
      rw [show n.tmod m + m + m * (n.tdiv m - 1) = n by rw [Int.mul_sub]; omega] at h
      rw [h, Int.emod_eq_of_lt (by omega) (by omega)]
    · rename_i hneg
      have h := Int.add_mul_emod_self_left (n.tmod m) m (n.tdiv m)
      rw [ht] at h
      rw [h, Int.emod_eq_of_lt (by omega) (by omega)]
  rw [← hm]
  rw [← hres]
  clear ht hres
  have HM := Lib.hid hm
  by_cases hneg : n.tmod m < 0
  · rw [if_pos hneg]
    rw [hm] at hneg b1 b2
    clear hm hm1
    go_enter Tryd.func27, Tryd.ntmps27
    go_wp2
    go_ret
    exact ⟨ret_int (by rw [HM.out]; omega), rfl⟩
  · rw [if_neg hneg]
    rw [hm] at hneg b1 b2
    clear hm hm1
    go_enter Tryd.func27, Tryd.ntmps27
    go_wp2
    go_ret
    exact ⟨ret_int (by rw [HM.out]), rfl⟩
end Go.Proofs.YtendkmldecoogaaDoor.Within
namespace Go.Proofs.YtendkmldecoogaaDoor.CutPlain
open Go Go.Proofs.YtendkmldecoogaaDoor.Utf Go.Proofs.YtendkmldecoogaaDoor.It Go.Proofs.YtendkmldecoogaaDoor.Dt Go.Proofs.YtendkmldecoogaaDoor.Cu Go.Proofs.YtendkmldecoogaaDoor.CutAll

theorem strong {P : List UInt8 → Prop} (h : ∀ l, (∀ m : List UInt8, m.length < l.length → P m) → P l) (l : List UInt8) : P l := by
  generalize hn : l.length = n
  induction n using Nat.strongRecOn generalizing l with
  | _ n ih => exact h l fun m hm => ih _ (by omega) m rfl

theorem drop_lt {D : Dt} (hg : Good.Good D) {l : List UInt8} (hl : l ≠ []) : (l.drop (nextB D l).1).length < l.length := by
  obtain ⟨_, h2, h3, _⟩ := toks_cons hg 0 hl
  rw [List.length_drop]; omega

def shT (c : Nat) (t : Tk) : Tk := ⟨c + t.a, c + t.b, t.s⟩
theorem toks_shift {D : Dt} (hg : Good.Good D) (c : Nat) (l : List UInt8) : ∀ a, toks D (c + a) l = (toks D a l).map (shT c) := by
  induction l using strong with
  | h l ih =>
    intro a
    by_cases hl : l = []
    · subst hl; rfl
    · have h1 := (toks_cons hg (c + a) hl).1
      have h2 := (toks_cons hg a hl).1
      rw [h1, h2, List.map_cons, Nat.add_assoc, ih _ (drop_lt hg hl)]
      simp only [shT]

/-- The k-th pre-token ends within the text, behind its beginning; behind it the rest is cut. -/
theorem toks_at {D : Dt} (hg : Good.Good D) (l : List UInt8) : ∀ (a k : Nat), k < (toks D a l).length → a ≤ ((toks D a l).getD k default).a ∧ ((toks D a l).getD k default).a < ((toks D a l).getD k default).b ∧ ((toks D a l).getD k default).b ≤ a + l.length ∧
    1 ≤ ((toks D a l).getD k default).s ∧ ((toks D a l).getD k default).s ≤ 5 ∧ (toks D a l).drop (k + 1) = toks D ((toks D a l).getD k default).b (l.drop (((toks D a l).getD k default).b - a)) := by
  induction l using strong with
  | h l ih =>
    intro a k hk
    by_cases hl : l = []
    · subst hl; simp [toks_nil] at hk
    · obtain ⟨h1, h2, h3, h4, h5⟩ := toks_cons hg a hl
      rw [h1] at hk ⊢
      cases k with
      | zero =>
        refine ⟨Nat.le_refl _, ?_, ?_, h4, h5, ?_⟩
        · show a < a + (nextB D l).1; omega
        · show a + (nextB D l).1 ≤ a + l.length; omega
        · show toks D (a + (nextB D l).1) (l.drop (nextB D l).1) = toks D (a + (nextB D l).1) (l.drop (a + (nextB D l).1 - a))
          rw [Nat.add_sub_cancel_left]
      | succ k =>
        rw [List.length_cons] at hk
        obtain ⟨g1, g2, g3, g4, g5, g6⟩ := ih _ (drop_lt hg hl) (a + (nextB D l).1) k (by omega)
        rw [List.length_drop] at g3
        show a ≤ ((toks D (a + (nextB D l).1) (l.drop (nextB D l).1)).getD k default).a ∧ _
        refine ⟨by omega, g2, ?_, g4, g5, ?_⟩
        · show ((toks D (a + (nextB D l).1) (l.drop (nextB D l).1)).getD k default).b ≤ _; omega
        · show (toks D (a + (nextB D l).1) (l.drop (nextB D l).1)).drop (k + 1) = toks D ((toks D (a + (nextB D l).1) (l.drop (nextB D l).1)).getD k default).b (l.drop (((toks D (a + (nextB D l).1) (l.drop (nextB D l).1)).getD k default).b - a))
          rw [g6, List.drop_drop]
          congr 2
          omega

theorem cut_anew {D : Dt} (hg : Good.Good D) (l : List UInt8) {k : Nat} (hk : k < (toks D 0 l).length) : (toks D 0 (l.drop ((toks D 0 l).getD k default).b)).length = (toks D 0 l).length - k - 1 ∧
    ∀ i, i < (toks D 0 (l.drop ((toks D 0 l).getD k default).b)).length → (toks D 0 l).getD (k + 1 + i) default = shT ((toks D 0 l).getD k default).b ((toks D 0 (l.drop ((toks D 0 l).getD k default).b)).getD i default) := by
  obtain ⟨_, _, _, _, _, h⟩ := toks_at hg l 0 k hk
  rw [Nat.sub_zero] at h
  have h2 := toks_shift hg ((toks D 0 l).getD k default).b (l.drop ((toks D 0 l).getD k default).b) 0
  rw [Nat.add_zero] at h2
  rw [h2] at h
  refine ⟨?_, fun i hi => ?_⟩
  · have := congrArg List.length h
    rw [List.length_drop, List.length_map] at this
    omega
  · rw [← getD_drop, h]
    obtain ⟨N, hN⟩ : ∃ N, toks D 0 (l.drop ((toks D 0 l).getD k default).b) = N := ⟨_, rfl⟩
    rw [hN] at hi ⊢
    simp only [List.getD, List.getElem?_map, List.getElem?_eq_getElem hi, Option.map_some, Option.getD_some]
end Go.Proofs.YtendkmldecoogaaDoor.CutPlain
namespace Go.Proofs.YtendkmldecoogaaDoor.cutAnew
open Go Go.RowKit Go.Proofs.YtendkmldecoogaaDoor.Kit Go.Proofs.YtendkmldecoogaaDoor.Range Go.Proofs.YtendkmldecoogaaDoor.Round Go.Proofs.YtendkmldecoogaaDoor.Seg Go.Proofs.YtendkmldecoogaaDoor.Utf Go.Proofs.YtendkmldecoogaaDoor.It Go.Proofs.YtendkmldecoogaaDoor.ItGo Go.Proofs.YtendkmldecoogaaDoor.Dt Go.Proofs.YtendkmldecoogaaDoor.Mo Go.Proofs.YtendkmldecoogaaDoor.MoNew Go.Proofs.YtendkmldecoogaaDoor.Keep Go.Proofs.YtendkmldecoogaaDoor.Cu Go.Proofs.YtendkmldecoogaaDoor.CutRun Go.Proofs.YtendkmldecoogaaDoor.CutNext Go.Proofs.YtendkmldecoogaaDoor.CutAll Go.Proofs.YtendkmldecoogaaDoor.CutTokens Go.Proofs.YtendkmldecoogaaDoor.CutAs Go.Proofs.YtendkmldecoogaaDoor.Within Go.Proofs.YtendkmldecoogaaDoor.CutPlain
attribute [local irreducible] wpQuiet

set_option maxHeartbeats 4000000 in
set_option maxRecDepth 100000 in
theorem walk (D : Dt) (Q : Pl) (s : ByteArray) (n : Int) (w : World) (hd : At w D Q) (_hs : s.size ≤ 140737488355328) (hn : -9223372036854775808 ≤ n ∧ n ≤ 9223372036854775807) (hT : Tabs w) :
    Calls Tryd.prog 6 #[.agg #[.slice Q.a0 D.nw Q.c0, .slice Q.a1 D.nm Q.c1, .slice Q.a2 D.n0 Q.c2, .slice Q.a3 D.n1 Q.c3, .slice Q.a4 D.n2 Q.c4], .string s, .int .i64 n] w fun e w' => e = .returned (.bool true) ∧ Below w.heap.size w w' := by
  have HA := Lib.hid hd
  have HT := Lib.hid hT
  clear hd hT
  obtain ⟨W1, hW1⟩ : ∃ Xz, w.alloc (.cells #[.slice Q.a0 D.nw Q.c0, .slice Q.a1 D.nm Q.c1, .slice Q.a2 D.n0 Q.c2, .slice Q.a3 D.n1 Q.c3, .slice Q.a4 D.n2 Q.c4] 33) = Xz := ⟨_, rfl⟩
  obtain ⟨bd, hbd⟩ : ∃ xz, w.heap.size = xz := ⟨_, rfl⟩
  have hb1 : Below w.heap.size w W1 := by rw [← hW1]; exact (Below.refl _ _).alloc (Nat.le_refl _) _
  have HX := Lib.hid (by rw [← hW1, ← hbd]; exact alloc_new rfl : W1.heap[bd]? = some (.cells #[.slice Q.a0 D.nw Q.c0, .slice Q.a1 D.nm Q.c1, .slice Q.a2 D.n0 Q.c2, .slice Q.a3 D.n1 Q.c3, .slice Q.a4 D.n2 Q.c4] 33 (0, 0)))
  have EW1 := Lib.hid hW1
  have Ebd := Lib.hid hbd
  clear hW1 hbd
  have HB := Lib.hid hb1
  have HA := Lib.hid (HA.out.below hb1)
  have HO := Lib.hid (Of_calls D Q W1 HA.out)
  clear hb1
  have x0 := cell_at HX.out 0
  have x1 := cell_at HX.out 1
  have x2 := cell_at HX.out 2
  have x3 := cell_at HX.out 3
  have x4 := cell_at HX.out 4
  have xz := lt_of_heap HX.out
  simp only [List.getElem?_toArray, List.getElem?_cons_zero, List.getElem?_cons_succ] at x0 x1 x2 x3 x4
  obtain ⟨fs, hfs⟩ : ∃ z, few s 500 = z := ⟨_, rfl⟩
  have hf1 := few_size s 500
  have HF := Lib.hid (fun w => few_calls s 500 w (by decide))
  rw [hfs] at HF hf1
  have hfz : fs.size ≤ 500 := hf1.1
  clear hfs hf1
  go_enter Tryd.func6, Tryd.ntmps6
  go_upto_region 1 with fail
  rw [EW1.out, Ebd.out]
  go_wp2_with fail
  refine HO.out.mono ?_
  clear x0 x1 x2 x3 x4 xz
  rintro e W2 (⟨rfl, hb2⟩ | ⟨mb, rfl, hM, _, hb2, _⟩)
  · have HB := Lib.hid (chain HB.out hb2)
    clear hb2
    go_wp2_with fail
    refine (known_calls W2 (HT.out.below HB.out)).mono ?_
    rintro e W3 ⟨rfl, hb3⟩
    have HB := Lib.hid (chain HB.out hb3)
    clear hb3
    go_wp2_with fail
    go_ret
    exact ⟨rfl, HB.out⟩
  have HM := Lib.hid hM
  have HG := Lib.hid (Good.of_mod hM)
  have HB := Lib.hid (chain HB.out hb2)
  clear hM hb2
  go_wp2_with fail
  refine (HF.out W2).mono ?_
  rintro e w' ⟨rfl, rfl⟩
  go_wp2_with fail
  refine (Tokens_calls D mb fs W2 HM.out (HT.out.below HB.out) (by omega)).mono ?_
  rintro e W3 ⟨v, rfl, hrow, hb3⟩
  have HB := Lib.hid (chain HB.out hb3)
  have HM := Lib.hid (HM.out.below hb3)
  obtain ⟨av, cv, rfl, hcv, hcells⟩ := hrow.shape
  have hlen := toks_len D HG.out fs.data.toList 0
  rw [size_list] at hlen
  obtain ⟨T, hTT⟩ : ∃ T, toks D 0 fs.data.toList = T := ⟨_, rfl⟩
  rw [hTT] at hcells hcv hlen ⊢
  have HCE := Lib.hid hcells
  have HTT := Lib.hid hTT
  clear hrow hb3 hcells hTT
  by_cases hz : T.length = 0
  · have hz' : ((T.length : Int) == 0) = true := by simp [hz]
    have HZ := Lib.hid hz
    clear hz
    go_wp2_with fail
    refine (known_calls W3 (HT.out.below HB.out)).mono ?_
    rintro e W4 ⟨rfl, hb4⟩
    have HB := Lib.hid (chain HB.out hb4)
    clear hb4
    go_wp2_with fail
    go_ret
    exact ⟨rfl, HB.out⟩
  have hz' : ((T.length : Int) == 0) = false := by rw [beq_eq_false_iff_ne]; omega
  have hpos : 0 < T.length := by omega
  have hw1 : IntKind.i64.wrap ((T.length : Int) - 1) = (T.length : Int) - 1 := i64w _ (by omega) (by omega)
  go_wp2_with fail
  refine (Within_calls n 0 ((T.length : Int) - 1) W3 (by omega) (by decide) (by omega) hn.1 hn.2).mono ?_
  have hm : (T.length : Int) - 1 - 0 + 1 = (T.length : Int) := by omega
  rw [hm]
  have hm1 := Int.emod_nonneg n (b := (T.length : Int)) (by omega)
  have hm2 := Int.emod_lt_of_pos n (b := (T.length : Int)) (by omega)
  obtain ⟨k, hk⟩ : ∃ k : Nat, 0 + n % (T.length : Int) = (k : Int) := ⟨(n % (T.length : Int)).toNat, by rw [Int.zero_add, Int.toNat_of_nonneg hm1]⟩
  have hkT' : (k : Int) < T.length := by rw [← hk, Int.zero_add]; exact hm2
  have hkT : k < T.length := by omega
  rw [hk]
  rintro e w' ⟨rfl, rfl⟩
  clear hk hz hz' hw1 hm hm1 hm2 hkT'
  have hki : (k : Int) < T.length := by omega
  obtain ⟨g, o, rfl, _, hgl, hce⟩ := HCE.out k hkT
  have HCL := Lib.hid hce
  obtain ⟨_, c1, _⟩ := hce k hkT
  have hat := toks_at HG.out fs.data.toList 0 k (by rw [HTT.out]; exact hkT)
  have han := cut_anew HG.out fs.data.toList (k := k) (by rw [HTT.out]; exact hkT)
  rw [HTT.out] at hat han
  obtain ⟨x, hx⟩ : ∃ x, T.getD k default = x := ⟨_, rfl⟩
  rw [hx] at c1 hat han
  obtain ⟨_, hx1, hx2, _, _, _⟩ := hat
  rw [size_list] at hx2
  have hx3 : ¬ ((x.b : Int) < 0) := by omega
  have hx4 : ¬ ((fs.size : Int) < x.b) := by omega
  have HXK := Lib.hid hx
  have HAN := Lib.hid han
  clear han hx hce
  go_wp2_with fail
  refine (Tokens_calls D mb (fs.extract x.b fs.size) W3 HM.out (HT.out.below HB.out) (by simp; omega)).mono ?_
  rw [drop_list fs x.b fs.size rfl]
  rintro e W4 ⟨v2, rfl, hrow, hb4⟩
  have HB := Lib.hid (chain HB.out hb4)
  obtain ⟨av2, cv2, rfl, hcv2, hcells2⟩ := hrow.shape
  obtain ⟨hn1, hn2⟩ := HAN.out
  obtain ⟨N, hNN⟩ : ∃ N, toks D 0 (fs.data.toList.drop x.b) = N := ⟨_, rfl⟩
  rw [hNN] at hcells2 hcv2 hn1 hn2 ⊢
  have HCE2 := Lib.hid hcells2
  have HSH := Lib.hid hn2
  have HB4 := Lib.hid hb4
  have e1 : IntKind.i64.wrap ((T.length : Int) - k) = (T.length : Int) - k := i64w _ (by omega) (by omega)
  have e2 : IntKind.i64.wrap ((T.length : Int) - k - 1) = (T.length : Int) - k - 1 := i64w _ (by omega) (by omega)
  have e3 : ((N.length : Int) != (T.length : Int) - k - 1) = false := by
    have : (N.length : Int) = (T.length : Int) - k - 1 := by omega
    simp [this]
  have HN1 := Lib.hid hn1
  have HNN := Lib.hid hNN
  clear hrow hcells2 hn2 hNN hb4 hn1
  have HC0 := Lib.hid HCL.out
  clear c1
  go_wp2_with fail
  clear e1 e2 e3
  go_loopg [14, 15] N.length (fun g' s14 s15 wr => ∃ i : Nat, i ≤ N.length ∧ g' = N.length - i ∧ s14 = .int .i64 i ∧ Below W4.heap.size W4 wr)
  case atStart => exact ⟨0, Nat.zero_le _, by omega, rfl, Below.refl _ _⟩
  case round =>
    obtain ⟨i, hi, hg, rfl, hb⟩ := hrel
    have HGG := Lib.hid hg
    have HBB := Lib.hid hb
    clear hg
    by_cases hlt : i < N.length
    · have hlti : (i : Int) < N.length := by omega
      obtain ⟨g2, o2, rfl, _, hgl2, hce2⟩ := HCE2.out i hlt
      obtain ⟨d0, d1, d2⟩ := hce2 i hlt
      rw [← cell_keep (hb.block g2 hgl2)] at d0 d1 d2
      have zg2 : g2 < wr.heap.size := Nat.lt_of_lt_of_le hgl2 hb.size
      have hsh := HSH.out i hlt
      have hn1 := HN1.out
      have hji : k + 1 + i < T.length := by omega
      obtain ⟨c0, c1, c2⟩ := HCL.out (k + 1 + i) hji
      obtain ⟨_, b1, _⟩ := HCL.out k hkT
      have hb34 := chain HB4.out hb
      rw [← cell_keep (hb34.block g hgl)] at c0 c1 c2 b1
      have zg : g < wr.heap.size := Nat.lt_of_lt_of_le hgl hb34.size
      rw [hsh] at c0 c1 c2
      rw [HXK.out] at b1
      obtain ⟨y, hy⟩ : ∃ y, N.getD i default = y := ⟨_, rfl⟩
      rw [hy] at c0 c1 c2 d0 d1 d2
      simp only [shT, Int.natCast_add] at c0 c1 c2
      obtain ⟨_, y1, y2, _, _, _⟩ := toks_at HG.out (fs.data.toList.drop x.b) 0 i (by rw [HNN.out]; exact hlt)
      rw [HNN.out, hy] at y1 y2
      rw [List.length_drop, size_list] at y2
      rw [Int.add_comm] at c0 c1
      have w1 : IntKind.i64.wrap ((k : Int) + 1) = (k : Int) + 1 := i64w _ (by omega) (by omega)
      have w2 : IntKind.i64.wrap ((k : Int) + 1 + i) = (k : Int) + 1 + i := i64w _ (by omega) (by omega)
      have w3 : IntKind.i64.wrap ((y.a : Int) + x.b) = (y.a : Int) + x.b := i64w _ (by omega) (by omega)
      have w4 : IntKind.i64.wrap ((y.b : Int) + x.b) = (y.b : Int) + x.b := i64w _ (by omega) (by omega)
      have i1 : (k : Int) + 1 + i < T.length := by omega
      have i2 : ((k : Int) + 1 + i).toNat = k + 1 + i := by omega
      have HY := Lib.hid (And.intro y1 y2)
      clear hn1 hsh hy hce2 y1 y2 hb34 hb
      obtain ⟨W5, hW5⟩ : ∃ Xz, wr.alloc (.cells #[.int .i64 ((y.a : Int) + x.b), .int .i64 ((y.b : Int) + x.b), .int .i64 y.s] 49) = Xz := ⟨_, rfl⟩
      obtain ⟨bx, hbx⟩ : ∃ xz, wr.heap.size = xz := ⟨_, rfl⟩
      have hbv : Below wr.heap.size wr W5 := by rw [← hW5]; exact (Below.refl _ _).alloc (Nat.le_refl _) _
      have HV := Lib.hid (by rw [← hW5, ← hbx]; exact alloc_new rfl : W5.heap[bx]? = some (.cells #[.int .i64 ((y.a : Int) + x.b), .int .i64 ((y.b : Int) + x.b), .int .i64 y.s] 49 (0, 0)))
      have EW5 := Lib.hid hW5
      have Ebx := Lib.hid hbx
      clear hW5 hbx
      go_upto_region 18 with fail
      rw [EW5.out, Ebx.out]
      rw [← cell_keep (hbv.block g zg)] at b1
      rw [← cell_keep (hbv.block g2 zg2)] at d0 d1 d2
      have zg' := Nat.lt_of_lt_of_le zg hbv.size
      have zg2' := Nat.lt_of_lt_of_le zg2 hbv.size
      have HBB := Lib.hid (chain HBB.out hbv)
      clear zg zg2 c0 c1 c2 hbv w1 w2 i1 i2
      have v0 := cell_at HV.out 0
      have v1 := cell_at HV.out 1
      have v2 := cell_at HV.out 2
      have vz := lt_of_heap HV.out
      simp only [List.getElem?_toArray, List.getElem?_cons_zero, List.getElem?_cons_succ] at v0 v1 v2
      refine region_calm (by kernel_rfl) (by kernel_rfl) ?_
      repeat (quiet_step ((fail)))
      refine wpQuiet_nil ?_
      rintro _ ⟨y5, rfl⟩
      have HBB := Lib.hid (Later.chain HBB.out y5)
      generalize y5.w = W6 at HBB ⊢
      clear y5 b1 d0 d1 d2 v0 v1 v2 vz
      go_wp2_with fail
      go_roundg (N.length - (i + 1))
      case measure => have := HGG.out; omega
      case rel => exact ⟨i + 1, by omega, rfl, by go_num, HBB.out⟩
    · have hiT : i = N.length := by omega
      subst hiT
      go_wp2_with fail
      refine (known_calls _ (HT.out.below (chain HB.out HBB.out))).mono ?_
      rintro e W5 ⟨rfl, hb5⟩
      have HB := Lib.hid (chain (chain HB.out HBB.out) hb5)
      clear hb5
      go_wp2_with fail
      go_ret
      exact ⟨rfl, HB.out⟩
end Go.Proofs.YtendkmldecoogaaDoor.cutAnew
