/-
  The walk of the law DecodeAll.
-/
import Derived.Test.YtendkmldecoogaaDoorDecodeK
import Derived.Test.YtendkmldecoogaaDoorKeep
import Derived.Test.YtendkmldecoogaaDoorRowInt
import Derived.Test.YtendkmldecoogaaDoorRoomInt
import Derived.Test.YtendkmldecoogaaDoorRefBytes
import Derived.Test.YtendkmldecoogaaDoorRgu
namespace Go.Proofs.YtendkmldecoogaaDoor.decodeAll
open Go Go.RowKit Go.Proofs.YtendkmldecoogaaDoor.Kit Go.Proofs.YtendkmldecoogaaDoor.Round Go.Proofs.YtendkmldecoogaaDoor.Utf Go.Proofs.YtendkmldecoogaaDoor.It Go.Proofs.YtendkmldecoogaaDoor.ItGo Go.Proofs.YtendkmldecoogaaDoor.Dt Go.Proofs.YtendkmldecoogaaDoor.MoNew Go.Proofs.YtendkmldecoogaaDoor.Good Go.Proofs.YtendkmldecoogaaDoor.Keep Go.Proofs.YtendkmldecoogaaDoor.RowInt Go.Proofs.YtendkmldecoogaaDoor.RoomInt Go.Proofs.YtendkmldecoogaaDoor.UtfLaw Go.Proofs.YtendkmldecoogaaDoor.Decode Go.Proofs.YtendkmldecoogaaDoor.DecodeT Go.Proofs.YtendkmldecoogaaDoor.DecodeK
attribute [local irreducible] wpQuiet

theorem row_cong {w : World} {a : Option Addr} {n : Nat} {F G : Nat → Int} (h : SameInt.Row w a n F) (e : ∀ i, i < n → F i = G i) : SameInt.Row w a n G := by
  rcases h with h | ⟨b, o, rfl, hb, hc⟩
  · exact .inl h
  · exact .inr ⟨b, o, rfl, hb, fun i hi => by rw [hc i hi, e i hi]⟩
theorem ext_lt {n : Nat} {F : Nat → Int} {l : Int} : ∀ i, i < n → ext n F l i = F i := fun i hi => by simp [ext, hi]
theorem wl_at (D : Dt) (F : Nat → Int) {k j : Nat} (h : j < k) : (wl D F k)[j]? = some (word D (F j)) := by simp [wl, h]
set_option maxHeartbeats 4000000 in
set_option maxRecDepth 100000 in
theorem walk (D : Dt) (p : Pl) (a : Option Addr) (len cap : Nat) (zs : List Int) (w : World) (hA : At w D p) (hr : IsRow .i64 w a len cap zs) (hl : len ≤ 35184372088832) (hT : Tabs w) :
    Calls Tryd.prog 11 #[.agg #[.slice p.a0 D.nw p.c0, .slice p.a1 D.nm p.c1, .slice p.a2 D.n0 p.c2, .slice p.a3 D.n1 p.c3, .slice p.a4 D.n2 p.c4], .slice a len cap] w fun e w' => e = .returned (.bool true) ∧ Below w.heap.size w w' := by
  obtain ⟨hr1, hr2⟩ := row_of hr
  have hcap : len ≤ cap := by
    rcases hr with ⟨_, rfl, rfl, _⟩ | ⟨_, _, h, _⟩
    · exact Nat.le_refl _
    · exact h
  obtain ⟨F, hF⟩ : ∃ F : Nat → Int, (fun i => zs.getD i 0) = F := ⟨_, rfl⟩
  have hF' : ∀ i, zs.getD i 0 = F i := fun i => by rw [← hF]
  rw [hF] at hr1
  simp only [hF'] at hr2
  have HT := Lib.hid hT
  have H := Lib.hid hA
  have HR := Lib.hid hr1
  have HI := Lib.hid hr2
  clear hA hr hr1 hr2 hF hF' hT
  obtain ⟨W1, hW1⟩ : ∃ W1, w.alloc (.cells #[.slice p.a0 D.nw p.c0, .slice p.a1 D.nm p.c1, .slice p.a2 D.n0 p.c2, .slice p.a3 D.n1 p.c3, .slice p.a4 D.n2 p.c4] 33) = W1 := ⟨_, rfl⟩
  obtain ⟨hb1, hx1, ha1⟩ := Ref5a.boxed H.out hW1
  obtain ⟨xb, hxb⟩ : ∃ b, w.heap.size = b := ⟨_, rfl⟩
  rw [hxb] at hx1
  have HX := Lib.hid hx1
  have HA := Lib.hid ha1
  have HB := Lib.hid hb1
  have HR := Lib.hid (HR.out.below hb1)
  clear H hx1 ha1 hb1
  have b0 := cell_at HX.out 0
  have b1 := cell_at HX.out 1
  have b2 := cell_at HX.out 2
  have b3 := cell_at HX.out 3
  have b4 := cell_at HX.out 4
  have bz := lt_of_heap HX.out
  simp only [List.getElem?_toArray, List.getElem?_cons_zero, List.getElem?_cons_succ] at b0 b1 b2 b3 b4
  go_enter Tryd.func11, Tryd.ntmps11
  go_wp2_with fail
  refine (Of_calls D p W1 HA.out).mono ?_
  clear hW1 hxb b0 b1 b2 b3 b4 bz
  rintro e W2 (⟨rfl, hb⟩ | ⟨mb, rfl, hm, hmb, hb, h300⟩)
  · have HB := Lib.hid (chain HB.out hb)
    clear hb
    go_wp2_with fail
    refine (known_calls W2 (HT.out.below HB.out)).mono ?_
    rintro e W3 ⟨rfl, hb⟩
    have HB := Lib.hid (chain HB.out hb)
    clear hb
    go_wp2_with fail
    go_ret
    exact ⟨rfl, HB.out⟩
  have HM := Lib.hid hm
  have HR := Lib.hid (HR.out.below hb)
  have HX := Lib.hid ((hb.block _ (lt_of_heap HX.out)).trans HX.out)
  have HA := Lib.hid (HA.out.below hb)
  have HB := Lib.hid (chain HB.out hb)
  clear hb hm hmb h300
  by_cases h2 : 500 < len
  · have h2' : (500 : Int) < len := by omega
    have hc2 : (500 : Int) ≤ cap := by omega
    go_wp2_with fail
    obtain ⟨n, hn⟩ : ∃ n : Nat, 500 = n := ⟨_, rfl⟩
    rw [hn]
    have hn2 : n ≤ 500 := by omega
    have HRN := Lib.hid (HR.out.mono (len' := n) (by omega))
    have HIN := Lib.hid (fun i (hi : i < n) => HI.out i (by omega))
    clear HR HI h2 h2' hc2 hcap hl hn
    refine (Roomy_calls a n cap F (-7) W2 HRN.out (by omega)).mono ?_
    rintro e V3 ⟨fb, hfb, rfl, hrow, hb3⟩
    have HF := Lib.hid hrow
    have HFN := Lib.hid (row_cong (hrow.mono (len' := n) (by omega)) ext_lt)
    have HM := Lib.hid (HM.out.below hb3)
    have HRN := Lib.hid (HRN.out.below hb3)
    have HX := Lib.hid ((hb3.block _ (lt_of_heap HX.out)).trans HX.out)
    have HA := Lib.hid (HA.out.below hb3)
    have HB := Lib.hid (chain HB.out hb3)
    have hup := upto_le D F n
    have hz := txt_size (of_mod HM.out) F (upto D F n)
    clear hrow hb3 hfb
    obtain ⟨R, hR⟩ : ∃ z, upto D F n = z := ⟨_, rfl⟩
    rw [hR] at hup hz
    obtain ⟨T, hTT⟩ : ∃ z, txt D F R = z := ⟨_, rfl⟩
    rw [hTT] at hz
    have HRR := Lib.hid hR
    have HTT := Lib.hid hTT
    clear hR hTT
    have K1 := Lib.hid (show ∀ W, Mod W mb D → SameInt.Row W (some ⟨fb, 0, none⟩) n F → Calls Tryd.prog 35 #[.pointer (some ⟨mb, 0, none⟩), .slice (some ⟨fb, 0, none⟩) n (n + 80)] W (fun e w' => e = .returned (.tuple #[.string T, .int .i64 R]) ∧ Below W.heap.size W w') from fun W h1 h2 => by
      have h := Bytes_calls W mb D h1 _ n (n + 80) F h2 (by omega) HIN.out
      rw [HRR.out, HTT.out] at h
      exact h)
    have K2 := Lib.hid (show ∀ W, Mod W mb D → Tabs W → SameInt.Row W (some ⟨fb, 0, none⟩) n F → Calls Tryd.prog 41 #[.pointer (some ⟨mb, 0, none⟩), .slice (some ⟨fb, 0, none⟩) n (n + 80)] W (fun e w' => e = .returned (.tuple #[.string ⟨(rep T.data.toList).toArray⟩, .int .i64 R]) ∧ Below W.heap.size W w') from fun W h1 h3 h2 => by
      have h := Text_calls W mb D h1 h3 _ n (n + 80) F h2 (by omega) HIN.out
      rw [HRR.out, HTT.out] at h
      exact h)
    have K3 := Lib.hid (show ∀ W, Good.Good D → At W D p → SameInt.Row W a n F → Calls Tryd.prog 45 #[.agg #[.slice p.a0 D.nw p.c0, .slice p.a1 D.nm p.c1, .slice p.a2 D.n0 p.c2, .slice p.a3 D.n1 p.c3, .slice p.a4 D.n2 p.c4], .slice a n cap] W (fun e w' => e = .returned (.tuple #[.string T, .int .i64 R]) ∧ Below W.heap.size W w') from fun W h0 h1 h2 => by
      have h := RefBytes.Bytes_calls D h0 p W h1 a n cap F h2 (by omega) HIN.out
      rw [HRR.out, HTT.out] at h
      exact h)
    have K4 := Lib.hid (show ∀ W, Mod W mb D → Tabs W → SameInt.Row W (some ⟨fb, 0, none⟩) n F → Calls Tryd.prog 42 #[.pointer (some ⟨mb, 0, none⟩), .slice (some ⟨fb, 0, none⟩) n (n + 80)] W (fun e w' => e = .returned (.int .i64 ((T.size : Int) - tailN T.data.toList)) ∧ Below W.heap.size W w') from fun W h1 h3 h2 => by
      have h := Ready_calls W mb D h1 h3 _ n (n + 80) F h2 (by omega) HIN.out
      rw [HRR.out, HTT.out] at h
      exact h)
    have K5 := Lib.hid (show ∀ W, Mod W mb D → SameInt.Row W (some ⟨fb, 0, none⟩) n F → Calls Tryd.prog 37 #[.pointer (some ⟨mb, 0, none⟩), .slice (some ⟨fb, 0, none⟩) n (n + 80)] W (fun e w' => ∃ v, e = .returned v ∧ Texts w' W.heap.size v (wl D F R) ∧ Below W.heap.size W w') from fun W h1 h2 => by
      have h := Words_calls W mb D h1 _ n (n + 80) F h2 (by omega) HIN.out
      rw [HRR.out] at h
      exact h)
    have K6 := Lib.hid (show ∀ W, Calls Tryd.prog 46 #[.string T] W (fun e w' => e = .returned (.string ⟨(rep T.data.toList).toArray⟩) ∧ Below W.heap.size W w') from fun W => RefBytes.Replace_calls T W (by omega))
    have K7 := Lib.hid (show ∀ W, Calls Tryd.prog 47 #[.string T] W (fun e w' => e = .returned (.int .i64 (tailN T.data.toList)) ∧ Below W.heap.size W w') from fun W => RefBytes.Tail_calls T W (by omega))
    have htl : tailN T.data.toList ≤ T.size := by unfold tailN; rw [size_list]; omega
    obtain ⟨rp, hrp⟩ : ∃ z : ByteArray, (⟨(rep T.data.toList).toArray⟩ : ByteArray) = z := ⟨_, rfl⟩
    obtain ⟨tl, htn⟩ : ∃ z, tailN T.data.toList = z := ⟨_, rfl⟩
    rw [hrp] at K2 K6
    rw [htn] at K4 K7 htl
    clear hrp htn
    obtain ⟨rd, hrd⟩ : ∃ z : Int, (T.size : Int) - tl = z := ⟨_, rfl⟩
    have hw1 : IntKind.i64.wrap ((T.size : Int) - tl) = rd := by rw [i64w _ (by omega) (by omega)]; exact hrd
    rw [hrd] at K4
    clear hrd
    have HGD := Lib.hid (of_mod HM.out)
    go_wp2_with fail
    refine (K1.out V3 HM.out HFN.out).mono ?_
    rintro e V4 ⟨rfl, hb⟩
    have HF := Lib.hid (HF.out.below hb)
    have HFN := Lib.hid (HFN.out.below hb)
    have HM := Lib.hid (HM.out.below hb)
    have HRN := Lib.hid (HRN.out.below hb)
    have HX := Lib.hid ((hb.block _ (lt_of_heap HX.out)).trans HX.out)
    have HA := Lib.hid (HA.out.below hb)
    have HB := Lib.hid (chain HB.out hb)
    clear hb
    go_wp2_with fail
    refine (K2.out V4 HM.out (HT.out.below HB.out) HFN.out).mono ?_
    rintro e V5 ⟨rfl, hb⟩
    have HF := Lib.hid (HF.out.below hb)
    have HFN := Lib.hid (HFN.out.below hb)
    have HM := Lib.hid (HM.out.below hb)
    have HRN := Lib.hid (HRN.out.below hb)
    have HX := Lib.hid ((hb.block _ (lt_of_heap HX.out)).trans HX.out)
    have HA := Lib.hid (HA.out.below hb)
    have HB := Lib.hid (chain HB.out hb)
    clear hb
    have x0 := cell_at HX.out 0
    have x1 := cell_at HX.out 1
    have x2 := cell_at HX.out 2
    have x3 := cell_at HX.out 3
    have x4 := cell_at HX.out 4
    have xz := lt_of_heap HX.out
    simp only [List.getElem?_toArray, List.getElem?_cons_zero, List.getElem?_cons_succ] at x0 x1 x2 x3 x4
    go_wp2_with fail
    refine (K3.out V5 HGD.out HA.out HRN.out).mono ?_
    rintro e V6 ⟨rfl, hb⟩
    have HF := Lib.hid (HF.out.below hb)
    have HFN := Lib.hid (HFN.out.below hb)
    have HM := Lib.hid (HM.out.below hb)
    have HRN := Lib.hid (HRN.out.below hb)
    have HX := Lib.hid ((hb.block _ (lt_of_heap HX.out)).trans HX.out)
    have HA := Lib.hid (HA.out.below hb)
    have HB := Lib.hid (chain HB.out hb)
    clear hb x0 x1 x2 x3 x4 xz
    go_wp2_with fail
    refine (K5.out V6 HM.out HFN.out).mono ?_
    rintro e V7 ⟨v, rfl, htx, hb⟩
    have hwlen := wl_len D F R
    have HWA := Lib.hid (fun j (h : j < R) => wl_at D F h)
    obtain ⟨wa, wc, rfl, _, hcells⟩ := htx.cells
    rw [hwlen] at hcells ⊢
    have HC := Lib.hid hcells
    have HF := Lib.hid (HF.out.below hb)
    have HFN := Lib.hid (HFN.out.below hb)
    have HM := Lib.hid (HM.out.below hb)
    have HRN := Lib.hid (HRN.out.below hb)
    have HX := Lib.hid ((hb.block _ (lt_of_heap HX.out)).trans HX.out)
    have HA := Lib.hid (HA.out.below hb)
    have HB := Lib.hid (chain HB.out hb)
    clear hb htx hcells hwlen
    have HB7 := Lib.hid (Below.refl V7.heap.size V7)
    go_wp2_with fail
    refine (K6.out V7).mono ?_
    rintro e V8 ⟨rfl, hb⟩
    have HF := Lib.hid (HF.out.below hb)
    have HFN := Lib.hid (HFN.out.below hb)
    have HM := Lib.hid (HM.out.below hb)
    have HRN := Lib.hid (HRN.out.below hb)
    have HX := Lib.hid ((hb.block _ (lt_of_heap HX.out)).trans HX.out)
    have HA := Lib.hid (HA.out.below hb)
    have HB := Lib.hid (chain HB.out hb)
    have HB7 := Lib.hid (chain HB7.out hb)
    clear hb
    go_wp2_with fail
    refine (K4.out V8 HM.out (HT.out.below HB.out) HFN.out).mono ?_
    rintro e V9 ⟨rfl, hb⟩
    have HF := Lib.hid (HF.out.below hb)
    have HFN := Lib.hid (HFN.out.below hb)
    have HM := Lib.hid (HM.out.below hb)
    have HRN := Lib.hid (HRN.out.below hb)
    have HX := Lib.hid ((hb.block _ (lt_of_heap HX.out)).trans HX.out)
    have HA := Lib.hid (HA.out.below hb)
    have HB := Lib.hid (chain HB.out hb)
    have HB7 := Lib.hid (chain HB7.out hb)
    clear hb
    go_wp2_with fail
    refine (K7.out V9).mono ?_
    rintro e V10 ⟨rfl, hb⟩
    have HF := Lib.hid (HF.out.below hb)
    have HFN := Lib.hid (HFN.out.below hb)
    have HM := Lib.hid (HM.out.below hb)
    have HRN := Lib.hid (HRN.out.below hb)
    have HX := Lib.hid ((hb.block _ (lt_of_heap HX.out)).trans HX.out)
    have HA := Lib.hid (HA.out.below hb)
    have HB := Lib.hid (chain HB.out hb)
    have HB7 := Lib.hid (chain HB7.out hb)
    clear hb
    go_wp2_with fail
    refine (Intact_calls fb a n cap F (-7) V10 HF.out HRN.out (by omega)).mono ?_
    rintro e V11 ⟨rfl, hb⟩
    have HF := Lib.hid (HF.out.below hb)
    have HFN := Lib.hid (HFN.out.below hb)
    have HM := Lib.hid (HM.out.below hb)
    have HRN := Lib.hid (HRN.out.below hb)
    have HX := Lib.hid ((hb.block _ (lt_of_heap HX.out)).trans HX.out)
    have HA := Lib.hid (HA.out.below hb)
    have HB := Lib.hid (chain HB.out hb)
    have HB7 := Lib.hid (chain HB7.out hb)
    clear hb
    clear HF HFN HM K1 K2 K3 K4 K5 K6 K7
    go_wp2_with fail
    go_loopg [17, 18, 19] R (fun g s17 s18 s19 wr => ∃ j : Nat, j ≤ R ∧ g = R - j ∧ s17 = .int .i64 j ∧ Below V11.heap.size V11 wr)
    case atStart => exact ⟨0, Nat.zero_le _, rfl, rfl, Below.refl _ _⟩
    case round =>
      obtain ⟨k, hk, hg, rfl, hb⟩ := hrel
      have HG := Lib.hid hg
      have HRN := Lib.hid (HRN.out.below hb)
      have HX := Lib.hid ((hb.block _ (lt_of_heap HX.out)).trans HX.out)
      have HA := Lib.hid (HA.out.below hb)
      have HBW := Lib.hid (chain HB.out hb)
      have HB7 := Lib.hid (chain HB7.out hb)
      have HB11 := Lib.hid hb
      clear hg hb
      by_cases hlt : k < R
      · have hlt' : (k : Int) < R := by omega
        have hlt2 : (k : Int) < n := by omega
        obtain ⟨b, o, rfl, hbl, hc⟩ := HRN.out.at (show k < n by omega)
        have c0 := hc k (by omega)
        have hid := HIN.out k (by omega)
        have hwk := HWA.out k hlt
        obtain ⟨g, og, rfl, _, hgl, hgc⟩ := HC.out (by omega)
        have hgk := hgc k _ hwk
        obtain ⟨id, hidd⟩ : ∃ id, F k = id := ⟨_, rfl⟩
        rw [hidd] at c0 hid hgk
        have HGK := Lib.hid (⟨hgk, hgl⟩ : _ ∧ _)
        clear hc hidd hwk hgc hgl hgk
        have HSS := Lib.hid (fun (w' : World) (h : Below wr.heap.size wr w') => (⟨(h.cell (p := ⟨xb, 0, none⟩) (lt_of_heap HX.out)).trans (cell_at HX.out 0), (h.cell (p := ⟨xb, 1, none⟩) (lt_of_heap HX.out)).trans (cell_at HX.out 1), (h.cell (p := ⟨xb, 2, none⟩) (lt_of_heap HX.out)).trans (cell_at HX.out 2), (h.cell (p := ⟨xb, 3, none⟩) (lt_of_heap HX.out)).trans (cell_at HX.out 3), (h.cell (p := ⟨xb, 4, none⟩) (lt_of_heap HX.out)).trans (cell_at HX.out 4), (h.cell (p := ⟨b, o + k, none⟩) hbl).trans c0, Nat.lt_of_lt_of_le (lt_of_heap HX.out) h.size, Nat.lt_of_lt_of_le hbl h.size⟩ :
          w'.cell? ⟨xb, 0, none⟩ = some (.slice p.a0 D.nw p.c0) ∧ w'.cell? ⟨xb, 1, none⟩ = some (.slice p.a1 D.nm p.c1) ∧ w'.cell? ⟨xb, 2, none⟩ = some (.slice p.a2 D.n0 p.c2) ∧ w'.cell? ⟨xb, 3, none⟩ = some (.slice p.a3 D.n1 p.c3) ∧ w'.cell? ⟨xb, 4, none⟩ = some (.slice p.a4 D.n2 p.c4) ∧ w'.cell? ⟨b, o + k, none⟩ = some (.int .i64 id) ∧ xb < w'.heap.size ∧ b < w'.heap.size))
        clear c0 hbl
        go_wp2_with fail
        refine Rgu.RGO_begin (fun w' => Below wr.heap.size wr w') 11 11 [(0, 112), (1, 113), (2, 114), (3, 115), (4, 116)] rfl (by decide +kernel) (by kernel_rfl) (Below.refl _ _).drew (fun R' hR => ?_)
        repeat ((first | refine Rgu.RGO_take (by exact rfl) (by exact rfl) (by decide +kernel) (by exact rfl) (by intro w' hw'; obtain ⟨q0, q1, q2, q3, q4, q5, q6, q7⟩ := HSS.out _ hw'; go_simp; try with_reducible rfl) ?_ | refine Rgu.RGO_skip (by exact rfl) (by exact rfl) (by decide +kernel) (by exact rfl) ?_); try simp only [Act.put, List.setIfInBounds_toArray, List.set_cons_zero, List.set_cons_succ])
        have hbd : Below wr.heap.size wr wr.drew := (Below.refl _ _).drew
        have HWC := Lib.hid (Ref5a.Word_calls D p id wr.drew (HA.out.below hbd) hid)
        have HBD := Lib.hid hbd
        clear hbd
        refine Rgu.RGO_one 5 [(6, 111), (7, 118), (8, 119), (9, 18), (10, 19)] (by exact rfl) (by decide +kernel) (by exact rfl) (fun K hK => ?_)
        go_wp2_with fail
        refine HWC.out.mono ?_
        rintro e W9 ⟨rfl, hb2⟩
        have hb2' := chain HBD.out hb2
        refine hK _ _ hb2' ?_
        clear hK K
        try simp only [Act.put, List.setIfInBounds_toArray, List.set_cons_zero, List.set_cons_succ]
        repeat ((first | refine Rgu.RGO_take (by exact rfl) (by exact rfl) (by decide +kernel) (by exact rfl) (by intro w' hw'; obtain ⟨q0, q1, q2, q3, q4, q5, q6, q7⟩ := HSS.out _ hw'; go_simp; try with_reducible rfl) ?_ | refine Rgu.RGO_skip (by exact rfl) (by exact rfl) (by decide +kernel) (by exact rfl) ?_); try simp only [Act.put, List.setIfInBounds_toArray, List.set_cons_zero, List.set_cons_succ])
        refine Rgu.RGO_done (by decide +kernel) (hR _ _ ?_)
        have hb7 := chain HB7.out hb2'
        have c1 := (hb7.cell (p := ⟨g, og + k, none⟩) HGK.out.2).trans HGK.out.1
        have hgz := Nat.lt_of_lt_of_le HGK.out.2 hb7.size
        have HB11 := Lib.hid (chain HB11.out hb2')
        clear hR R' HSS HBD HWC hb2 hb2' hb7
        generalize word D id = sd at c1 ⊢
        generalize decide (isId D id) = db
        go_wp2_with fail
        go_roundg (R - (k + 1))
        case measure => have := HG.out; omega
        case rel => exact ⟨k + 1, by omega, rfl, by go_num, HB11.out⟩
      · have hkn : k = R := by omega
        have hlt' : ¬ ((k : Int) < R) := by omega
        subst hkn
        go_wp2_with fail
        refine (known_calls wr (HT.out.below HBW.out)).mono ?_
        rintro e W6 ⟨rfl, hb⟩
        have HB := Lib.hid (chain HBW.out hb)
        clear hb
        go_wp2_with fail
        go_ret
        exact ⟨rfl, HB.out⟩
  · have h2' : ¬ ((500 : Int) < len) := by omega
    go_wp2_with fail
    obtain ⟨n, rfl⟩ : ∃ n : Nat, n = len := ⟨_, rfl⟩
    have hn2 : n ≤ 500 := by omega
    have HRN := Lib.hid HR.out
    have HIN := Lib.hid HI.out
    clear HR HI h2 h2' hcap hl
    refine (Roomy_calls a n cap F (-7) W2 HRN.out (by omega)).mono ?_
    rintro e V3 ⟨fb, hfb, rfl, hrow, hb3⟩
    have HF := Lib.hid hrow
    have HFN := Lib.hid (row_cong (hrow.mono (len' := n) (by omega)) ext_lt)
    have HM := Lib.hid (HM.out.below hb3)
    have HRN := Lib.hid (HRN.out.below hb3)
    have HX := Lib.hid ((hb3.block _ (lt_of_heap HX.out)).trans HX.out)
    have HA := Lib.hid (HA.out.below hb3)
    have HB := Lib.hid (chain HB.out hb3)
    have hup := upto_le D F n
    have hz := txt_size (of_mod HM.out) F (upto D F n)
    clear hrow hb3 hfb
    obtain ⟨R, hR⟩ : ∃ z, upto D F n = z := ⟨_, rfl⟩
    rw [hR] at hup hz
    obtain ⟨T, hTT⟩ : ∃ z, txt D F R = z := ⟨_, rfl⟩
    rw [hTT] at hz
    have HRR := Lib.hid hR
    have HTT := Lib.hid hTT
    clear hR hTT
    have K1 := Lib.hid (show ∀ W, Mod W mb D → SameInt.Row W (some ⟨fb, 0, none⟩) n F → Calls Tryd.prog 35 #[.pointer (some ⟨mb, 0, none⟩), .slice (some ⟨fb, 0, none⟩) n (n + 80)] W (fun e w' => e = .returned (.tuple #[.string T, .int .i64 R]) ∧ Below W.heap.size W w') from fun W h1 h2 => by
      have h := Bytes_calls W mb D h1 _ n (n + 80) F h2 (by omega) HIN.out
      rw [HRR.out, HTT.out] at h
      exact h)
    have K2 := Lib.hid (show ∀ W, Mod W mb D → Tabs W → SameInt.Row W (some ⟨fb, 0, none⟩) n F → Calls Tryd.prog 41 #[.pointer (some ⟨mb, 0, none⟩), .slice (some ⟨fb, 0, none⟩) n (n + 80)] W (fun e w' => e = .returned (.tuple #[.string ⟨(rep T.data.toList).toArray⟩, .int .i64 R]) ∧ Below W.heap.size W w') from fun W h1 h3 h2 => by
      have h := Text_calls W mb D h1 h3 _ n (n + 80) F h2 (by omega) HIN.out
      rw [HRR.out, HTT.out] at h
      exact h)
    have K3 := Lib.hid (show ∀ W, Good.Good D → At W D p → SameInt.Row W a n F → Calls Tryd.prog 45 #[.agg #[.slice p.a0 D.nw p.c0, .slice p.a1 D.nm p.c1, .slice p.a2 D.n0 p.c2, .slice p.a3 D.n1 p.c3, .slice p.a4 D.n2 p.c4], .slice a n cap] W (fun e w' => e = .returned (.tuple #[.string T, .int .i64 R]) ∧ Below W.heap.size W w') from fun W h0 h1 h2 => by
      have h := RefBytes.Bytes_calls D h0 p W h1 a n cap F h2 (by omega) HIN.out
      rw [HRR.out, HTT.out] at h
      exact h)
    have K4 := Lib.hid (show ∀ W, Mod W mb D → Tabs W → SameInt.Row W (some ⟨fb, 0, none⟩) n F → Calls Tryd.prog 42 #[.pointer (some ⟨mb, 0, none⟩), .slice (some ⟨fb, 0, none⟩) n (n + 80)] W (fun e w' => e = .returned (.int .i64 ((T.size : Int) - tailN T.data.toList)) ∧ Below W.heap.size W w') from fun W h1 h3 h2 => by
      have h := Ready_calls W mb D h1 h3 _ n (n + 80) F h2 (by omega) HIN.out
      rw [HRR.out, HTT.out] at h
      exact h)
    have K5 := Lib.hid (show ∀ W, Mod W mb D → SameInt.Row W (some ⟨fb, 0, none⟩) n F → Calls Tryd.prog 37 #[.pointer (some ⟨mb, 0, none⟩), .slice (some ⟨fb, 0, none⟩) n (n + 80)] W (fun e w' => ∃ v, e = .returned v ∧ Texts w' W.heap.size v (wl D F R) ∧ Below W.heap.size W w') from fun W h1 h2 => by
      have h := Words_calls W mb D h1 _ n (n + 80) F h2 (by omega) HIN.out
      rw [HRR.out] at h
      exact h)
    have K6 := Lib.hid (show ∀ W, Calls Tryd.prog 46 #[.string T] W (fun e w' => e = .returned (.string ⟨(rep T.data.toList).toArray⟩) ∧ Below W.heap.size W w') from fun W => RefBytes.Replace_calls T W (by omega))
    have K7 := Lib.hid (show ∀ W, Calls Tryd.prog 47 #[.string T] W (fun e w' => e = .returned (.int .i64 (tailN T.data.toList)) ∧ Below W.heap.size W w') from fun W => RefBytes.Tail_calls T W (by omega))
    have htl : tailN T.data.toList ≤ T.size := by unfold tailN; rw [size_list]; omega
    obtain ⟨rp, hrp⟩ : ∃ z : ByteArray, (⟨(rep T.data.toList).toArray⟩ : ByteArray) = z := ⟨_, rfl⟩
    obtain ⟨tl, htn⟩ : ∃ z, tailN T.data.toList = z := ⟨_, rfl⟩
    rw [hrp] at K2 K6
    rw [htn] at K4 K7 htl
    clear hrp htn
    obtain ⟨rd, hrd⟩ : ∃ z : Int, (T.size : Int) - tl = z := ⟨_, rfl⟩
    have hw1 : IntKind.i64.wrap ((T.size : Int) - tl) = rd := by rw [i64w _ (by omega) (by omega)]; exact hrd
    rw [hrd] at K4
    clear hrd
    have HGD := Lib.hid (of_mod HM.out)
    go_wp2_with fail
    refine (K1.out V3 HM.out HFN.out).mono ?_
    rintro e V4 ⟨rfl, hb⟩
    have HF := Lib.hid (HF.out.below hb)
    have HFN := Lib.hid (HFN.out.below hb)
    have HM := Lib.hid (HM.out.below hb)
    have HRN := Lib.hid (HRN.out.below hb)
    have HX := Lib.hid ((hb.block _ (lt_of_heap HX.out)).trans HX.out)
    have HA := Lib.hid (HA.out.below hb)
    have HB := Lib.hid (chain HB.out hb)
    clear hb
    go_wp2_with fail
    refine (K2.out V4 HM.out (HT.out.below HB.out) HFN.out).mono ?_
    rintro e V5 ⟨rfl, hb⟩
    have HF := Lib.hid (HF.out.below hb)
    have HFN := Lib.hid (HFN.out.below hb)
    have HM := Lib.hid (HM.out.below hb)
    have HRN := Lib.hid (HRN.out.below hb)
    have HX := Lib.hid ((hb.block _ (lt_of_heap HX.out)).trans HX.out)
    have HA := Lib.hid (HA.out.below hb)
    have HB := Lib.hid (chain HB.out hb)
    clear hb
    have x0 := cell_at HX.out 0
    have x1 := cell_at HX.out 1
    have x2 := cell_at HX.out 2
    have x3 := cell_at HX.out 3
    have x4 := cell_at HX.out 4
    have xz := lt_of_heap HX.out
    simp only [List.getElem?_toArray, List.getElem?_cons_zero, List.getElem?_cons_succ] at x0 x1 x2 x3 x4
    go_wp2_with fail
    refine (K3.out V5 HGD.out HA.out HRN.out).mono ?_
    rintro e V6 ⟨rfl, hb⟩
    have HF := Lib.hid (HF.out.below hb)
    have HFN := Lib.hid (HFN.out.below hb)
    have HM := Lib.hid (HM.out.below hb)
    have HRN := Lib.hid (HRN.out.below hb)
    have HX := Lib.hid ((hb.block _ (lt_of_heap HX.out)).trans HX.out)
    have HA := Lib.hid (HA.out.below hb)
    have HB := Lib.hid (chain HB.out hb)
    clear hb x0 x1 x2 x3 x4 xz
    go_wp2_with fail
    refine (K5.out V6 HM.out HFN.out).mono ?_
    rintro e V7 ⟨v, rfl, htx, hb⟩
    have hwlen := wl_len D F R
    have HWA := Lib.hid (fun j (h : j < R) => wl_at D F h)
    obtain ⟨wa, wc, rfl, _, hcells⟩ := htx.cells
    rw [hwlen] at hcells ⊢
    have HC := Lib.hid hcells
    have HF := Lib.hid (HF.out.below hb)
    have HFN := Lib.hid (HFN.out.below hb)
    have HM := Lib.hid (HM.out.below hb)
    have HRN := Lib.hid (HRN.out.below hb)
    have HX := Lib.hid ((hb.block _ (lt_of_heap HX.out)).trans HX.out)
    have HA := Lib.hid (HA.out.below hb)
    have HB := Lib.hid (chain HB.out hb)
    clear hb htx hcells hwlen
    have HB7 := Lib.hid (Below.refl V7.heap.size V7)
    go_wp2_with fail
    refine (K6.out V7).mono ?_
    rintro e V8 ⟨rfl, hb⟩
    have HF := Lib.hid (HF.out.below hb)
    have HFN := Lib.hid (HFN.out.below hb)
    have HM := Lib.hid (HM.out.below hb)
    have HRN := Lib.hid (HRN.out.below hb)
    have HX := Lib.hid ((hb.block _ (lt_of_heap HX.out)).trans HX.out)
    have HA := Lib.hid (HA.out.below hb)
    have HB := Lib.hid (chain HB.out hb)
    have HB7 := Lib.hid (chain HB7.out hb)
    clear hb
    go_wp2_with fail
    refine (K4.out V8 HM.out (HT.out.below HB.out) HFN.out).mono ?_
    rintro e V9 ⟨rfl, hb⟩
    have HF := Lib.hid (HF.out.below hb)
    have HFN := Lib.hid (HFN.out.below hb)
    have HM := Lib.hid (HM.out.below hb)
    have HRN := Lib.hid (HRN.out.below hb)
    have HX := Lib.hid ((hb.block _ (lt_of_heap HX.out)).trans HX.out)
    have HA := Lib.hid (HA.out.below hb)
    have HB := Lib.hid (chain HB.out hb)
    have HB7 := Lib.hid (chain HB7.out hb)
    clear hb
    go_wp2_with fail
    refine (K7.out V9).mono ?_
    rintro e V10 ⟨rfl, hb⟩
    have HF := Lib.hid (HF.out.below hb)
    have HFN := Lib.hid (HFN.out.below hb)
    have HM := Lib.hid (HM.out.below hb)
    have HRN := Lib.hid (HRN.out.below hb)
    have HX := Lib.hid ((hb.block _ (lt_of_heap HX.out)).trans HX.out)
    have HA := Lib.hid (HA.out.below hb)
    have HB := Lib.hid (chain HB.out hb)
    have HB7 := Lib.hid (chain HB7.out hb)
    clear hb
    go_wp2_with fail
    refine (Intact_calls fb a n cap F (-7) V10 HF.out HRN.out (by omega)).mono ?_
    rintro e V11 ⟨rfl, hb⟩
    have HF := Lib.hid (HF.out.below hb)
    have HFN := Lib.hid (HFN.out.below hb)
    have HM := Lib.hid (HM.out.below hb)
    have HRN := Lib.hid (HRN.out.below hb)
    have HX := Lib.hid ((hb.block _ (lt_of_heap HX.out)).trans HX.out)
    have HA := Lib.hid (HA.out.below hb)
    have HB := Lib.hid (chain HB.out hb)
    have HB7 := Lib.hid (chain HB7.out hb)
    clear hb
    clear HF HFN HM K1 K2 K3 K4 K5 K6 K7
    go_wp2_with fail
    go_loopg [17, 18, 19] R (fun g s17 s18 s19 wr => ∃ j : Nat, j ≤ R ∧ g = R - j ∧ s17 = .int .i64 j ∧ Below V11.heap.size V11 wr)
    case atStart => exact ⟨0, Nat.zero_le _, rfl, rfl, Below.refl _ _⟩
    case round =>
      obtain ⟨k, hk, hg, rfl, hb⟩ := hrel
      have HG := Lib.hid hg
      have HRN := Lib.hid (HRN.out.below hb)
      have HX := Lib.hid ((hb.block _ (lt_of_heap HX.out)).trans HX.out)
      have HA := Lib.hid (HA.out.below hb)
      have HBW := Lib.hid (chain HB.out hb)
      have HB7 := Lib.hid (chain HB7.out hb)
      have HB11 := Lib.hid hb
      clear hg hb
      by_cases hlt : k < R
      · have hlt' : (k : Int) < R := by omega
        have hlt2 : (k : Int) < n := by omega
        obtain ⟨b, o, rfl, hbl, hc⟩ := HRN.out.at (show k < n by omega)
        have c0 := hc k (by omega)
        have hid := HIN.out k (by omega)
        have hwk := HWA.out k hlt
        obtain ⟨g, og, rfl, _, hgl, hgc⟩ := HC.out (by omega)
        have hgk := hgc k _ hwk
        obtain ⟨id, hidd⟩ : ∃ id, F k = id := ⟨_, rfl⟩
        rw [hidd] at c0 hid hgk
        have HGK := Lib.hid (⟨hgk, hgl⟩ : _ ∧ _)
        clear hc hidd hwk hgc hgl hgk
        have HSS := Lib.hid (fun (w' : World) (h : Below wr.heap.size wr w') => (⟨(h.cell (p := ⟨xb, 0, none⟩) (lt_of_heap HX.out)).trans (cell_at HX.out 0), (h.cell (p := ⟨xb, 1, none⟩) (lt_of_heap HX.out)).trans (cell_at HX.out 1), (h.cell (p := ⟨xb, 2, none⟩) (lt_of_heap HX.out)).trans (cell_at HX.out 2), (h.cell (p := ⟨xb, 3, none⟩) (lt_of_heap HX.out)).trans (cell_at HX.out 3), (h.cell (p := ⟨xb, 4, none⟩) (lt_of_heap HX.out)).trans (cell_at HX.out 4), (h.cell (p := ⟨b, o + k, none⟩) hbl).trans c0, Nat.lt_of_lt_of_le (lt_of_heap HX.out) h.size, Nat.lt_of_lt_of_le hbl h.size⟩ :
          w'.cell? ⟨xb, 0, none⟩ = some (.slice p.a0 D.nw p.c0) ∧ w'.cell? ⟨xb, 1, none⟩ = some (.slice p.a1 D.nm p.c1) ∧ w'.cell? ⟨xb, 2, none⟩ = some (.slice p.a2 D.n0 p.c2) ∧ w'.cell? ⟨xb, 3, none⟩ = some (.slice p.a3 D.n1 p.c3) ∧ w'.cell? ⟨xb, 4, none⟩ = some (.slice p.a4 D.n2 p.c4) ∧ w'.cell? ⟨b, o + k, none⟩ = some (.int .i64 id) ∧ xb < w'.heap.size ∧ b < w'.heap.size))
        clear c0 hbl
        go_wp2_with fail
        refine Rgu.RGO_begin (fun w' => Below wr.heap.size wr w') 11 11 [(0, 112), (1, 113), (2, 114), (3, 115), (4, 116)] rfl (by decide +kernel) (by kernel_rfl) (Below.refl _ _).drew (fun R' hR => ?_)
        repeat ((first | refine Rgu.RGO_take (by exact rfl) (by exact rfl) (by decide +kernel) (by exact rfl) (by intro w' hw'; obtain ⟨q0, q1, q2, q3, q4, q5, q6, q7⟩ := HSS.out _ hw'; go_simp; try with_reducible rfl) ?_ | refine Rgu.RGO_skip (by exact rfl) (by exact rfl) (by decide +kernel) (by exact rfl) ?_); try simp only [Act.put, List.setIfInBounds_toArray, List.set_cons_zero, List.set_cons_succ])
        have hbd : Below wr.heap.size wr wr.drew := (Below.refl _ _).drew
        have HWC := Lib.hid (Ref5a.Word_calls D p id wr.drew (HA.out.below hbd) hid)
        have HBD := Lib.hid hbd
        clear hbd
        refine Rgu.RGO_one 5 [(6, 111), (7, 118), (8, 119), (9, 18), (10, 19)] (by exact rfl) (by decide +kernel) (by exact rfl) (fun K hK => ?_)
        go_wp2_with fail
        refine HWC.out.mono ?_
        rintro e W9 ⟨rfl, hb2⟩
        have hb2' := chain HBD.out hb2
        refine hK _ _ hb2' ?_
        clear hK K
        try simp only [Act.put, List.setIfInBounds_toArray, List.set_cons_zero, List.set_cons_succ]
        repeat ((first | refine Rgu.RGO_take (by exact rfl) (by exact rfl) (by decide +kernel) (by exact rfl) (by intro w' hw'; obtain ⟨q0, q1, q2, q3, q4, q5, q6, q7⟩ := HSS.out _ hw'; go_simp; try with_reducible rfl) ?_ | refine Rgu.RGO_skip (by exact rfl) (by exact rfl) (by decide +kernel) (by exact rfl) ?_); try simp only [Act.put, List.setIfInBounds_toArray, List.set_cons_zero, List.set_cons_succ])
        refine Rgu.RGO_done (by decide +kernel) (hR _ _ ?_)
        have hb7 := chain HB7.out hb2'
        have c1 := (hb7.cell (p := ⟨g, og + k, none⟩) HGK.out.2).trans HGK.out.1
        have hgz := Nat.lt_of_lt_of_le HGK.out.2 hb7.size
        have HB11 := Lib.hid (chain HB11.out hb2')
        clear hR R' HSS HBD HWC hb2 hb2' hb7
        generalize word D id = sd at c1 ⊢
        generalize decide (isId D id) = db
        go_wp2_with fail
        go_roundg (R - (k + 1))
        case measure => have := HG.out; omega
        case rel => exact ⟨k + 1, by omega, rfl, by go_num, HB11.out⟩
      · have hkn : k = R := by omega
        have hlt' : ¬ ((k : Int) < R) := by omega
        subst hkn
        go_wp2_with fail
        refine (known_calls wr (HT.out.below HBW.out)).mono ?_
        rintro e W6 ⟨rfl, hb⟩
        have HB := Lib.hid (chain HBW.out hb)
        clear hb
        go_wp2_with fail
        go_ret
        exact ⟨rfl, HB.out⟩
end Go.Proofs.YtendkmldecoogaaDoor.decodeAll
