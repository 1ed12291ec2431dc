/-
  cut.All: the pre-tokens, one behind the other; the iterator hands them out.
-/
import Derived.Test.YtendkmldecoogaaDoorCutNext
namespace Go.Proofs.YtendkmldecoogaaDoor.CutAll
open Go Go.RowKit Go.Proofs.YtendkmldecoogaaDoor.Kit Go.Proofs.YtendkmldecoogaaDoor.Range Go.Proofs.YtendkmldecoogaaDoor.Round Go.Proofs.YtendkmldecoogaaDoor.Utf Go.Proofs.YtendkmldecoogaaDoor.It Go.Proofs.YtendkmldecoogaaDoor.ItGo Go.Proofs.YtendkmldecoogaaDoor.Dt Go.Proofs.YtendkmldecoogaaDoor.Mo Go.Proofs.YtendkmldecoogaaDoor.MoNew Go.Proofs.YtendkmldecoogaaDoor.Cu Go.Proofs.YtendkmldecoogaaDoor.CutRun Go.Proofs.YtendkmldecoogaaDoor.CutNext
attribute [local irreducible] wpQuiet

/-- A text's pre-tokens, from place a on. -/
def toks (D : Dt) (a : Nat) (l : List UInt8) : List Tk := (ofI D (items a l) true).1
theorem toks_nil (D : Dt) (a : Nat) : toks D a [] = [] := rfl
theorem toks_cons {D : Dt} (hg : Good.Good D) (a : Nat) {l : List UInt8} (h : l ≠ []) :
    toks D a l = ⟨a, a + (nextB D l).1, (nextB D l).2⟩ :: toks D (a + (nextB D l).1) (l.drop (nextB D l).1) ∧ 0 < (nextB D l).1 ∧ (nextB D l).1 ≤ l.length ∧ 1 ≤ (nextB D l).2 ∧ (nextB D l).2 ≤ 5 := by
  obtain ⟨n, h1, h2, h3, h4, h5, h6⟩ := next_eq hg a h
  have hs := sum_eq a n l
  have h7 : n ≤ sum ((items a l).take n) := sum_le_take (fun _ h => items_pos h) n h3
  have h8 := sum_take_le n a l
  rw [hs, ← h4] at h7 h8
  refine ⟨?_, by omega, h8, h5, h6⟩
  unfold toks
  rw [ofI_some (items_ne h) h1]
  have e0 : ((items a l).getD 0 default).from' = a := by rw [items_one h]; rfl
  have e1 : ((items a l).getD (n - 1) default).from' + ((items a l).getD (n - 1) default).bytes = a + (nextB D l).1 := by
    have h9 := sum_take_succ (a := a) (l := l) (c := n - 1) (by omega)
    rw [show n - 1 + 1 = n by omega, hs, ← h4] at h9
    have h10 := from_at (a := a) (l := l) (c := n - 1) (by omega)
    have h11 : ((items a l).getD (n - 1) default).from' = a + sum ((items a l).take (n - 1)) := by rw [h10]; rfl
    rw [h11, h9, Nat.add_assoc]
  rw [e0, e1, items_drop, hs, ← h4]

/-- A pre-token as a value. -/
def encT (t : Tk) : Value := .agg #[.int .i64 t.a, .int .i64 t.b, .int .i64 t.s]

set_option maxRecDepth 100000 in
theorem All_calls (mb : Nat) (s : ByteArray) (w : World) : Calls Tryd.prog 25 #[.pointer (some ⟨mb, 0, none⟩), .string s] w fun e w' =>
    e = .returned (.func (.func 70) #[] #[.pointer (some ⟨w.heap.size, 0, none⟩), .pointer (some ⟨w.heap.size + 1, 0, none⟩)]) ∧ (w.alloc (.cells #[.pointer (some ⟨mb, 0, none⟩)] 26)).alloc (.cells #[.string s] 9) = w' := by
  have hmf : ∀ (fn : Fn) (first cap : Array Value) (w : World), (Instr.makeFunc fn first cap).run Tryd.prog w = .ok (.func fn first cap) w := fun _ _ _ _ => rfl
  go_enter Tryd.func25, Tryd.ntmps25
  go_wp2
  go_ret
  exact ⟨rfl, rfl⟩

set_option maxHeartbeats 2000000 in
set_option maxRecDepth 100000 in
theorem all_iter (D : Dt) (mb : Nat) (w w0 : World) (bm bs : Nat) (s : ByteArray) (h : Mod w mb D) (hT : Tabs w) (hw : Below w.heap.size w w0) (hm : w0.heap[bm]? = some (.cells #[.pointer (some ⟨mb, 0, none⟩)] 26 (0, 0))) (hx : w0.heap[bs]? = some (.cells #[.string s] 9 (0, 0))) (hl : s.size ≤ 1048576) :
    Iter Tryd.prog 70 #[.pointer (some ⟨bm, 0, none⟩), .pointer (some ⟨bs, 0, none⟩)] (fun k => #[encT ((toks D 0 s.data.toList).getD k default)]) (toks D 0 s.data.toList).length (fun b => b < w.heap.size ∨ b = bm ∨ b = bs) w0 := by
  intro l J Jx W hW hJ hJx hS hY S0 h0
  have HG := Lib.hid (Good.of_mod h)
  have HJ := Lib.hid hJ
  have HJx := Lib.hid hJx
  have HS := Lib.hid hS
  have HY := Lib.hid hY
  have HMM := Lib.hid h
  have HT := Lib.hid hT
  have HB := Lib.hid (chain hw hW)
  have HM := Lib.hid ((hW.block bm (lt_of_heap hm)).trans hm)
  have HX := Lib.hid ((hW.block bs (lt_of_heap hx)).trans hx)
  obtain ⟨T, htt⟩ : ∃ T, toks D 0 s.data.toList = T := ⟨_, rfl⟩
  have HTT := Lib.hid htt
  rw [htt] at HY ⊢
  clear hW hJ hJx hS hY hx hm htt h hT hw
  refine callsIn_wide.2 ?_
  have H0 := Lib.hid h0
  clear h0
  have hpn : ∀ W, (Go.binOp .eql 26 (.pointer (some ⟨mb, 0, none⟩)) (.pointer none)).run Tryd.prog W = .ok (.bool false) W := fun W => by kernel_rfl
  have hl' : ¬ ((1048576 : Int) < s.size) := by omega
  have m0 := cell_at HM.out 0
  have mz := lt_of_heap HM.out
  simp only [List.getElem?_toArray, List.getElem?_cons_zero] at m0
  have x0 := cell_at HX.out 0
  have xz := lt_of_heap HX.out
  simp only [List.getElem?_toArray, List.getElem?_cons_zero] at x0
  go_enter Tryd.func70, Tryd.ntmps70
  go_wp2_with fail
  clear hpn
  go_loopg [4] s.size (fun g s4 wr => ∃ (a k : Nat) (S : Nat → Prop), a ≤ s.size ∧ g = s.size - a ∧ s4 = .int .i64 a ∧ J k S wr ∧ k ≤ T.length ∧ T.drop k = toks D a (s.data.toList.drop a) ∧ Below w.heap.size w wr ∧ wr.heap[bm]? = some (.cells #[.pointer (some ⟨mb, 0, none⟩)] 26 (0, 0)) ∧ wr.heap[bs]? = some (.cells #[.string s] 9 (0, 0)))
  case atStart => exact ⟨0, 0, S0, Nat.zero_le _, by omega, rfl, H0.out, Nat.zero_le _, HTT.out.symm, HB.out, HM.out, HX.out⟩
  case round =>
    obtain ⟨a, k, S, ha, hg, rfl, hj, hk, hd, hb, hm, hx⟩ := hrel
    have HGK := Lib.hid hg
    have HJK := Lib.hid hj
    have HD := Lib.hid hd
    have HB := Lib.hid hb
    have HM := Lib.hid hm
    have HX := Lib.hid hx
    clear hg hj hd hb hm hx m0 mz x0 xz
    have m0 := cell_at HM.out 0
    have mz := lt_of_heap HM.out
    simp only [List.getElem?_toArray, List.getElem?_cons_zero] at m0
    have x0 := cell_at HX.out 0
    have xz := lt_of_heap HX.out
    simp only [List.getElem?_toArray, List.getElem?_cons_zero] at x0
    by_cases hlt : a < s.size
    · have hlti : (a : Int) < s.size := by omega
      have hsz := size_list s
      have hne : s.data.toList.drop a ≠ [] := by
        intro h
        rw [List.drop_eq_nil_iff] at h
        omega
      have hC := fun W2 (hb : Below w.heap.size w W2) => next_calls D mb (s.extract a s.size) W2 (HMM.out.below hb) (HT.out.below hb) (by simp; omega) (by simp; omega)
      rw [drop_list s a s.size rfl] at hC
      obtain ⟨hd, h1, h2, h3, h4⟩ := toks_cons HG.out a hne
      obtain ⟨n, hn⟩ : ∃ n, (nextB D (s.data.toList.drop a)).1 = n := ⟨_, rfl⟩
      obtain ⟨q, hq⟩ : ∃ q, (nextB D (s.data.toList.drop a)).2 = q := ⟨_, rfl⟩
      rw [hn, hq] at hC hd
      rw [hn] at h1 h2
      rw [List.length_drop, hsz] at h2
      have hD := HD.out
      rw [hd, List.drop_drop] at hD
      have hklt : k < T.length := by
        rcases Nat.lt_or_ge k T.length with h | h
        · exact h
        · rw [List.drop_eq_nil_of_le h] at hD
          cases hD
      rw [List.drop_eq_getElem_cons hklt, List.cons.injEq] at hD
      have hTk : T.getD k default = ⟨a, a + n, q⟩ := by
        rw [List.getD, List.getElem?_eq_getElem hklt, ← hD.1]
        rfl
      have HD2 := Lib.hid hD.2
      have HC := Lib.hid hC
      have HNN := Lib.hid (And.intro h1 h2)
      have HTK := Lib.hid hTk
      have hw1 : IntKind.i64.wrap ((a : Int) + n) = (a : Int) + n := i64w _ (by omega) (by omega)
      clear hC hD hd h1 h2 h3 h4 hne hTk hn hq hsz
      go_upto_region 3 with fail
      refine region_calm (by kernel_rfl) (by kernel_rfl) ?_
      repeat (quiet_step ((exact later_call (HC.out _ (Later.chain HB.out _)))))
      refine wpQuiet_nil ?_
      rintro _ ⟨y, rfl⟩
      have HJ3 := Lib.hid (HJ.out k S wr y.w HJK.out (.of_below y.h))
      have hb3 := y.h
      generalize y.w = W3 at HJ3 hb3 ⊢
      have HM := Lib.hid ((hb3.block _ (lt_of_heap HM.out)).trans HM.out)
      have HX := Lib.hid ((hb3.block _ (lt_of_heap HX.out)).trans HX.out)
      have HB := Lib.hid (chain HB.out hb3)
      clear y hb3 m0 mz x0 xz
      obtain ⟨fn, tmps, assign, body, hy, hrd⟩ := HY.out k S W3 hklt HJ3.out
      rw [HTK.out] at hy
      unfold encT at hy
      simp only [Int.natCast_add] at hy
      have HRD := Lib.hid hrd
      clear hrd
      go_upto_region 4 with fail
      refine (wpIn_wide (n := 0)).1 ?_
      gi_wp2_with fail
      refine ⟨rfl, HRD.out.mono ?_⟩
      rintro e B (⟨rfl, S2, hj, hu, hs⟩ | ⟨rfl, S2, hj, hu, hs⟩)
      · have hcap := (HS.out k S W3 HJ3.out).2
        have HJ4 := Lib.hid hj
        have HX2 := Lib.hid (Upd.mem hu HX.out (fun h => (hcap _ h).2 (.inr (.inr rfl))))
        have HM2 := Lib.hid (Upd.mem hu HM.out (fun h => (hcap _ h).2 (.inr (.inl rfl))))
        have HB2 := Lib.hid (HB.out.trans (hu.below HB.out.size (fun b hb h => (hcap _ h).2 (.inl hb))))
        clear hcap hj hu hs hy
        gi_wp2
        go_wp2_with fail
        obtain ⟨hx1, hx2⟩ := HNN.out
        have hgg := HGK.out
        go_roundg (s.size - (a + n))
        case measure => omega
        case rel => exact ⟨a + n, k + 1, S2, by omega, rfl, congrArg (Value.int .i64) (by first | exact IntWalk.wrap64_in ((a : Int) + n) (by omega) | omega | rfl), HJ4.out, hklt, HD2.out, HB2.out, HM2.out, HX2.out⟩
      · have HJ4 := Lib.hid hj
        clear hj hu hs
        gi_wp2
        go_wp2_with fail
        refine bodyPost_ret (results_none rfl _ _ _) rfl ?_
        exact ⟨⟨_, rfl⟩, .inr ⟨k, S2, hklt, HJ4.out⟩⟩
    · have hil : a = s.size := by omega
      subst hil
      have hD := HD.out
      rw [show s.data.toList.drop s.size = [] from List.drop_eq_nil_iff.2 (by rw [size_list]; exact Nat.le_refl _), toks_nil] at hD
      have hkT : k = T.length := by
        rcases Nat.lt_or_ge k T.length with h | h
        · rw [List.drop_eq_getElem_cons h] at hD
          cases hD
        · omega
      have HK := Lib.hid hkT
      clear hD hkT
      go_wp2_with fail
      go_end0
      rw [← HK.out]
      exact ⟨⟨_, rfl⟩, .inl ⟨S, HJK.out⟩⟩
end Go.Proofs.YtendkmldecoogaaDoor.CutAll
