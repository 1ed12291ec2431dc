/-
  The reference's pre-tokens: is, short, Kind, Next. The reference's short.
-/
import Derived.Test.YtendkmldecoogaaDoorRef2c
import Derived.Test.YtendkmldecoogaaDoorCutRun
namespace Go.Proofs.YtendkmldecoogaaDoor.Ref12
open Go Go.RowKit Go.Proofs.YtendkmldecoogaaDoor.Kit Go.Proofs.YtendkmldecoogaaDoor.Seg Go.Proofs.YtendkmldecoogaaDoor.Utf Go.Proofs.YtendkmldecoogaaDoor.It Go.Proofs.YtendkmldecoogaaDoor.ItGo Go.Proofs.YtendkmldecoogaaDoor.Dt Go.Proofs.YtendkmldecoogaaDoor.Tab Go.Proofs.YtendkmldecoogaaDoor.Cu Go.Proofs.YtendkmldecoogaaDoor.Ref2c
attribute [local irreducible] wpQuiet

set_option maxRecDepth 100000 in
theorem is_calls (x : It) (r : Nat) (w : World) : Calls Tryd.prog 135 #[encI x, .int .i32 r] w fun e w' => e = .returned (.bool (is x r)) ∧ Below w.heap.size w w' := by
  obtain ⟨b, hb⟩ : ∃ b, is x r = b := ⟨_, rfl⟩
  rw [hb]
  unfold is at hb
  have HI := Lib.hid hb
  unfold encI
  obtain ⟨W1, hW1⟩ : ∃ Xz, w.alloc (.cells #[.int .i64 x.from', .int .i64 x.bytes, .int .i32 x.rune, .bool x.bad] 166) = Xz := ⟨_, rfl⟩
  obtain ⟨rb, hrb⟩ : ∃ xz, w.heap.size = xz := ⟨_, rfl⟩
  have hw1 : Below w.heap.size w W1 := by rw [← hW1]; exact (Below.refl _ _).alloc (Nat.le_refl _) _
  have HX := Lib.hid (by rw [← hW1, ← hrb]; exact alloc_new rfl : W1.heap[rb]? = some (.cells #[.int .i64 x.from', .int .i64 x.bytes, .int .i32 x.rune, .bool x.bad] 166 (0, 0)))
  have EW1 := Lib.hid hW1
  have Erb := Lib.hid hrb
  clear hW1 hrb
  have HB := Lib.hid hw1
  clear hb hw1
  have c0 := cell_at HX.out 0
  have c1 := cell_at HX.out 1
  have c2 := cell_at HX.out 2
  have c3 := cell_at HX.out 3
  have cz := lt_of_heap HX.out
  simp only [List.getElem?_toArray, List.getElem?_cons_zero, List.getElem?_cons_succ] at c0 c1 c2 c3
  go_enter Tryd.func135, Tryd.ntmps135
  go_upto_region 1 with fail
  rw [EW1.out, Erb.out]
  cases hbad : x.bad with
  | true =>
    rw [hbad] at c3
    have HV := Lib.hid (show false = b by rw [← HI.out]; simp [hbad])
    clear hbad
    go_wp2_with fail
    go_ret
    exact ⟨by rw [HV.out]; rfl, HB.out⟩
  | false =>
    rw [hbad] at c3
    by_cases hr : x.rune = r
    · have e : ((x.rune : Int) == r) = true := by simp [hr]
      have HV := Lib.hid (show true = b by rw [← HI.out]; simp [hbad, hr])
      clear hbad hr
      go_wp2_with fail
      go_ret
      exact ⟨by rw [HV.out]; rfl, HB.out⟩
    · have e : ((x.rune : Int) == r) = false := by rw [beq_eq_false_iff_ne]; omega
      have HV := Lib.hid (show false = b by rw [← HI.out]; simp [hbad, hr])
      clear hbad hr
      go_wp2_with fail
      go_ret
      exact ⟨by rw [HV.out]; rfl, HB.out⟩

set_option maxRecDepth 100000 in
theorem Of_calls (D : Dt) (p : Pl) (r : Int) (w : World) (h : At w D p) :
    Calls Tryd.prog 148 #[.agg #[.slice p.a0 D.nw p.c0, .slice p.a1 D.nm p.c1, .slice p.a2 D.n0 p.c2, .slice p.a3 D.n1 p.c3, .slice p.a4 D.n2 p.c4], .int .i32 r] w fun e w' => e = .returned (.int .i64 (kindOf D r)) ∧ Below w.heap.size w w' := by
  have HA := Lib.hid h
  obtain ⟨W1, hW1⟩ : ∃ Xz, w.alloc (.cells #[.slice p.a0 D.nw p.c0, .slice p.a1 D.nm p.c1, .slice p.a2 D.n0 p.c2, .slice p.a3 D.n1 p.c3, .slice p.a4 D.n2 p.c4] 33) = Xz := ⟨_, rfl⟩
  obtain ⟨rb, hrb⟩ : ∃ xz, w.heap.size = xz := ⟨_, rfl⟩
  have hw1 : Below w.heap.size w W1 := by rw [← hW1]; exact (Below.refl _ _).alloc (Nat.le_refl _) _
  have HX := Lib.hid (by rw [← hW1, ← hrb]; exact alloc_new rfl : W1.heap[rb]? = some (.cells #[.slice p.a0 D.nw p.c0, .slice p.a1 D.nm p.c1, .slice p.a2 D.n0 p.c2, .slice p.a3 D.n1 p.c3, .slice p.a4 D.n2 p.c4] 33 (0, 0)))
  have EW1 := Lib.hid hW1
  have Erb := Lib.hid hrb
  clear hW1 hrb
  have HB := Lib.hid hw1
  have hA1 := h.below hw1
  have C0 := Lib.hid (SpRef.refIn_calls p.a2 D.n0 p.c2 D.L0 D.H0 r W1 hA1.l0 (by have := h.b0; omega))
  have C1 := Lib.hid (SpRef.refIn_calls p.a3 D.n1 p.c3 D.L1 D.H1 r W1 hA1.l1 (by have := h.b1; omega))
  have C2 := Lib.hid (SpRef.refIn_calls p.a4 D.n2 p.c4 D.L2 D.H2 r W1 hA1.l2 (by have := h.b2; omega))
  clear h hw1 hA1
  unfold kindOf
  obtain ⟨b0, h0⟩ : ∃ b, SpRef.InD D.L0 D.H0 D.n0 r = b := ⟨_, rfl⟩
  obtain ⟨b1, h1⟩ : ∃ b, SpRef.InD D.L1 D.H1 D.n1 r = b := ⟨_, rfl⟩
  obtain ⟨b2, h2⟩ : ∃ b, SpRef.InD D.L2 D.H2 D.n2 r = b := ⟨_, rfl⟩
  rw [h0] at C0 ⊢
  rw [h1] at C1 ⊢
  rw [h2] at C2 ⊢
  clear h0 h1 h2
  have c0 := cell_at HX.out 0
  have c1 := cell_at HX.out 1
  have c2 := cell_at HX.out 2
  have c3 := cell_at HX.out 3
  have c4 := cell_at HX.out 4
  have cz := lt_of_heap HX.out
  simp only [List.getElem?_toArray, List.getElem?_cons_zero, List.getElem?_cons_succ] at c0 c1 c2 c3 c4
  go_enter Tryd.func148, Tryd.ntmps148
  go_upto_region 1 with fail
  rw [EW1.out, Erb.out]
  go_wp2_with fail
  refine C0.out.mono ?_
  rintro e w' ⟨rfl, rfl⟩
  cases b0 with
  | true =>
    go_wp2_with fail
    go_ret
    exact ⟨rfl, HB.out⟩
  | false =>
    go_wp2_with fail
    refine C1.out.mono ?_
    rintro e w' ⟨rfl, rfl⟩
    cases b1 with
    | true =>
      go_wp2_with fail
      go_ret
      exact ⟨rfl, HB.out⟩
    | false =>
      go_wp2_with fail
      refine C2.out.mono ?_
      rintro e w' ⟨rfl, rfl⟩
      cases b2 with
      | true =>
        go_wp2_with fail
        go_ret
        exact ⟨rfl, HB.out⟩
      | false =>
        go_wp2_with fail
        go_ret
        exact ⟨rfl, HB.out⟩

set_option maxRecDepth 100000 in
theorem Kind_calls (D : Dt) (p : Pl) (x : It) (w : World) (h : At w D p) :
    Calls Tryd.prog 136 #[.agg #[.slice p.a0 D.nw p.c0, .slice p.a1 D.nm p.c1, .slice p.a2 D.n0 p.c2, .slice p.a3 D.n1 p.c3, .slice p.a4 D.n2 p.c4], encI x] w fun e w' => e = .returned (.int .i64 (kind D x)) ∧ Below w.heap.size w w' := by
  have HA := Lib.hid h
  obtain ⟨kv, hkv⟩ : ∃ z, kind D x = z := ⟨_, rfl⟩
  have HK := Lib.hid hkv
  rw [hkv]
  unfold encI
  obtain ⟨W1, hW1⟩ : ∃ Xz, w.alloc (.cells #[.slice p.a0 D.nw p.c0, .slice p.a1 D.nm p.c1, .slice p.a2 D.n0 p.c2, .slice p.a3 D.n1 p.c3, .slice p.a4 D.n2 p.c4] 33) = Xz := ⟨_, rfl⟩
  obtain ⟨rd, hrd⟩ : ∃ xz, w.heap.size = xz := ⟨_, rfl⟩
  have hw1 : Below w.heap.size w W1 := by rw [← hW1]; exact (Below.refl _ _).alloc (Nat.le_refl _) _
  have HD := Lib.hid (by rw [← hW1, ← hrd]; exact alloc_new rfl : W1.heap[rd]? = some (.cells #[.slice p.a0 D.nw p.c0, .slice p.a1 D.nm p.c1, .slice p.a2 D.n0 p.c2, .slice p.a3 D.n1 p.c3, .slice p.a4 D.n2 p.c4] 33 (0, 0)))
  have EW1 := Lib.hid hW1
  have Erd := Lib.hid hrd
  clear hW1 hrd
  obtain ⟨W2, hW2⟩ : ∃ Xz, W1.alloc (.cells #[.int .i64 x.from', .int .i64 x.bytes, .int .i32 x.rune, .bool x.bad] 166) = Xz := ⟨_, rfl⟩
  obtain ⟨rb, hrb⟩ : ∃ xz, W1.heap.size = xz := ⟨_, rfl⟩
  have hw2 : Below W1.heap.size W1 W2 := by rw [← hW2]; exact (Below.refl _ _).alloc (Nat.le_refl _) _
  have HX := Lib.hid (by rw [← hW2, ← hrb]; exact alloc_new rfl : W2.heap[rb]? = some (.cells #[.int .i64 x.from', .int .i64 x.bytes, .int .i32 x.rune, .bool x.bad] 166 (0, 0)))
  have EW2 := Lib.hid hW2
  have Erb := Lib.hid hrb
  clear hW2 hrb
  have HD := Lib.hid ((hw2.block _ (lt_of_heap HD.out)).trans HD.out)
  have HB := Lib.hid (chain hw1 hw2)
  have hrr : rd + 1 = rb := by rw [← Erb.out, ← EW1.out, ← Erd.out]; simp
  have HO := Lib.hid (Of_calls D p x.rune W2 (HA.out.below HB.out))
  clear hkv h hw1 hw2
  have d0 := cell_at HD.out 0
  have d1 := cell_at HD.out 1
  have d2 := cell_at HD.out 2
  have d3 := cell_at HD.out 3
  have d4 := cell_at HD.out 4
  have dz := lt_of_heap HD.out
  simp only [List.getElem?_toArray, List.getElem?_cons_zero, List.getElem?_cons_succ] at d0 d1 d2 d3 d4
  have c0 := cell_at HX.out 0
  have c1 := cell_at HX.out 1
  have c2 := cell_at HX.out 2
  have c3 := cell_at HX.out 3
  have cz := lt_of_heap HX.out
  simp only [List.getElem?_toArray, List.getElem?_cons_zero, List.getElem?_cons_succ] at c0 c1 c2 c3
  go_enter Tryd.func136, Tryd.ntmps136
  go_upto_region 1 with fail
  rw [EW1.out, EW2.out, Erd.out, hrr]
  clear hrr
  cases hbad : x.bad with
  | true =>
    rw [hbad] at c3
    have HV := Lib.hid (show 4 = kv by rw [← HK.out]; simp [kind, hbad])
    clear hbad
    go_wp2_with fail
    go_ret
    exact ⟨ret_int HV.out, HB.out⟩
  | false =>
    rw [hbad] at c3
    have HV := Lib.hid (show kindOf D x.rune = kv by rw [← HK.out]; simp [kind, hbad])
    clear hbad
    go_wp2_with fail
    refine HO.out.mono ?_
    rintro e W3 ⟨rfl, hb3⟩
    have HB := Lib.hid (chain HB.out hb3)
    clear hb3
    go_wp2_with fail
    go_ret
    exact ⟨ret_int HV.out, HB.out⟩
end Go.Proofs.YtendkmldecoogaaDoor.Ref12
namespace Go.Proofs.YtendkmldecoogaaDoor.RefShort
open Go Go.RowKit Go.Proofs.YtendkmldecoogaaDoor.Kit Go.Proofs.YtendkmldecoogaaDoor.Utf Go.Proofs.YtendkmldecoogaaDoor.It Go.Proofs.YtendkmldecoogaaDoor.ItGo Go.Proofs.YtendkmldecoogaaDoor.Dt Go.Proofs.YtendkmldecoogaaDoor.Cu Go.Proofs.YtendkmldecoogaaDoor.Ref2c Go.Proofs.YtendkmldecoogaaDoor.Ref12
attribute [local irreducible] wpQuiet

/-- Items lie there. -/
def ICells (w : World) (g o : Nat) (L : List It) : Prop := g < w.heap.size ∧ ∀ j, j < L.length → w.cell? ⟨g, o + j * 4, none⟩ = some (.int .i64 (L.getD j default).from') ∧ w.cell? ⟨g, o + j * 4 + 1, none⟩ = some (.int .i64 (L.getD j default).bytes) ∧
  w.cell? ⟨g, o + j * 4 + 2, none⟩ = some (.int .i32 (L.getD j default).rune) ∧ w.cell? ⟨g, o + j * 4 + 3, none⟩ = some (.bool (L.getD j default).bad)
theorem ICells.below {w w' : World} {g o : Nat} {L : List It} (h : ICells w g o L) (hb : Below w.heap.size w w') : ICells w' g o L := by
  refine ⟨Nat.lt_of_lt_of_le h.1 hb.size, fun j hj => ?_⟩
  simp only [cell_keep (hb.block g h.1)]
  exact h.2 j hj
theorem IRow.cells {w : World} {base : Nat} {v : Value} {T : List It} (h : IRow w base v T) (hT : 0 < T.length) : ∃ g o c, v = .slice (some ⟨g, o, none⟩) T.length c ∧ T.length ≤ c ∧ base ≤ g ∧ ICells w g o T := by
  obtain ⟨a, c, rfl, h1, _, _⟩ := Seg.Seg.shape h
  obtain ⟨g, o, rfl, h3, h4, h5⟩ := Seg.Seg.cells h hT
  refine ⟨g, o, c, rfl, h1, h3, h4, fun j hj => ?_⟩
  obtain ⟨f1, f2, f3, f4⟩ := flatI_at hj
  exact ⟨h5 _ _ f1, by rw [Nat.add_assoc]; exact h5 _ _ f2, by rw [Nat.add_assoc]; exact h5 _ _ f3, by rw [Nat.add_assoc]; exact h5 _ _ f4⟩

/-- What short answers. -/
def shV : Option Nat → Value
  | some n => .tuple #[.int .i64 n, .bool true]
  | none => .tuple #[.int .i64 0, .bool false]

set_option maxHeartbeats 4000000 in
set_option maxRecDepth 100000 in
theorem short_calls (w : World) (g o c : Nat) (L : List It) (i : Nat) (fin : Bool) (hc : ICells w g o L) (hi : i < L.length) (hL : L.length ≤ 1000000000000) :
    Calls Tryd.prog 134 #[.slice (some ⟨g, o, none⟩) L.length c, .int .i64 i, .bool fin] w fun e w' => e = .returned (shV (shortI (L.drop i) fin)) ∧ Below w.heap.size w w' := by
  have HC := Lib.hid hc
  have hii : (i : Int) < L.length := by omega
  have hlen : (L.drop i).length = L.length - i := List.length_drop
  have g0 : (L.drop i).getD 0 default = L.getD i default := by rw [getD_drop, Nat.add_zero]
  have g1 : (L.drop i).getD 1 default = L.getD (i + 1) default := getD_drop _ _ _
  have g2 : (L.drop i).getD 2 default = L.getD (i + 2) default := getD_drop _ _ _
  have hs : shortI (L.drop i) fin = shortI (L.drop i) fin := rfl
  conv at hs => rhs; unfold shortI
  rw [g0, g1, g2] at hs
  obtain ⟨M, hM⟩ : ∃ M, L.drop i = M := ⟨_, rfl⟩
  rw [hM] at hs hlen ⊢
  obtain ⟨x, hx⟩ : ∃ x, L.getD i default = x := ⟨_, rfl⟩
  obtain ⟨y, hy⟩ : ∃ y, L.getD (i + 1) default = y := ⟨_, rfl⟩
  obtain ⟨z, hz⟩ : ∃ z, L.getD (i + 2) default = z := ⟨_, rfl⟩
  rw [hx, hy, hz] at hs
  have HX := Lib.hid hx
  have HY := Lib.hid hy
  have HZ := Lib.hid hz
  have w1 : IntKind.i64.wrap ((i : Int) + 1) = (i : Int) + 1 := i64w _ (by omega) (by omega)
  have w2 : IntKind.i64.wrap ((i : Int) + 2) = (i : Int) + 2 := i64w _ (by omega) (by omega)
  have n1 : ((i : Int) + 1).toNat = i + 1 := by omega
  have n2 : ((i : Int) + 2).toNat = i + 2 := by omega
  have HLEN := Lib.hid hlen
  have HB := Lib.hid (Below.refl w.heap.size w)
  have hx0 := is_calls x 39
  have hy115 := is_calls y 115
  have hy116 := is_calls y 116
  have hy109 := is_calls y 109
  have hy100 := is_calls y 100
  have hy114 := is_calls y 114
  have hy118 := is_calls y 118
  have hy108 := is_calls y 108
  have hz108 := is_calls z 108
  have hz101 := is_calls z 101
  unfold encI at hx0 hy115 hy116 hy109 hy100 hy114 hy118 hy108 hz108 hz101
  have Hx39 := Lib.hid hx0
  obtain ⟨bx39, ex39⟩ : ∃ b, is x 39 = b := ⟨_, rfl⟩
  rw [ex39] at Hx39 hs
  have Hy115 := Lib.hid hy115
  obtain ⟨by115, ey115⟩ : ∃ b, is y 115 = b := ⟨_, rfl⟩
  rw [ey115] at Hy115 hs
  have Hy116 := Lib.hid hy116
  obtain ⟨by116, ey116⟩ : ∃ b, is y 116 = b := ⟨_, rfl⟩
  rw [ey116] at Hy116 hs
  have Hy109 := Lib.hid hy109
  obtain ⟨by109, ey109⟩ : ∃ b, is y 109 = b := ⟨_, rfl⟩
  rw [ey109] at Hy109 hs
  have Hy100 := Lib.hid hy100
  obtain ⟨by100, ey100⟩ : ∃ b, is y 100 = b := ⟨_, rfl⟩
  rw [ey100] at Hy100 hs
  have Hy114 := Lib.hid hy114
  obtain ⟨by114, ey114⟩ : ∃ b, is y 114 = b := ⟨_, rfl⟩
  rw [ey114] at Hy114 hs
  have Hy118 := Lib.hid hy118
  obtain ⟨by118, ey118⟩ : ∃ b, is y 118 = b := ⟨_, rfl⟩
  rw [ey118] at Hy118 hs
  have Hy108 := Lib.hid hy108
  obtain ⟨by108, ey108⟩ : ∃ b, is y 108 = b := ⟨_, rfl⟩
  rw [ey108] at Hy108 hs
  have Hz108 := Lib.hid hz108
  obtain ⟨bz108, ez108⟩ : ∃ b, is z 108 = b := ⟨_, rfl⟩
  rw [ez108] at Hz108 hs
  have Hz101 := Lib.hid hz101
  obtain ⟨bz101, ez101⟩ : ∃ b, is z 101 = b := ⟨_, rfl⟩
  rw [ez101] at Hz101 hs
  have HS := Lib.hid hs
  clear hc hM hx hy hz hlen g0 g1 g2 hs hx0 ex39 hy115 ey115 hy116 ey116 hy109 ey109 hy100 ey100 hy114 ey114 hy118 ey118 hy108 ey108 hz108 ez108 hz101 ez101
  go_enter Tryd.func134, Tryd.ntmps134
  have hcc := HC.out.below HB.out
  have cz := hcc.1
  obtain ⟨cx0, cx1, cx2, cx3⟩ := hcc.2 (i) (by first | omega | (have := HLEN.out; omega))
  rw [HX.out] at cx0 cx1 cx2 cx3
  clear hcc
  go_wp2_with fail
  refine (Hx39.out w).mono ?_
  rintro e W1 ⟨rfl, hb⟩
  have HB := Lib.hid (chain HB.out hb)
  clear hb cx0 cx1 cx2 cx3 cz
  cases bx39 with
  | true =>
    by_cases q1 : i + 1 < L.length
    · have q1z : ¬ ((L.length : Int) ≤ (i : Int) + 1) := by omega
      have m1 : ¬ M.length ≤ 1 := by have := HLEN.out; omega
      have p1z : (i : Int) + 1 < L.length := by omega
      have hcc := HC.out.below HB.out
      have cz := hcc.1
      obtain ⟨cy0, cy1, cy2, cy3⟩ := hcc.2 (i + 1) (by first | omega | (have := HLEN.out; omega))
      rw [HY.out] at cy0 cy1 cy2 cy3
      clear hcc
      go_wp2_with fail
      refine (Hy115.out W1).mono ?_
      rintro e W2 ⟨rfl, hb⟩
      have HB := Lib.hid (chain HB.out hb)
      clear hb cy0 cy1 cy2 cy3 cz
      cases by115 with
      | true =>
        go_wp2_with fail
        refine bodyPost_ret (v := .tuple #[.int .i64 2, .bool true]) (by simp [results, Tryd.results134, go_sem, *]) rfl (⟨by rw [HS.out]; simp [shV, *], HB.out⟩)
      | false =>
        have hcc := HC.out.below HB.out
        have cz := hcc.1
        obtain ⟨cy0, cy1, cy2, cy3⟩ := hcc.2 (i + 1) (by first | omega | (have := HLEN.out; omega))
        rw [HY.out] at cy0 cy1 cy2 cy3
        clear hcc
        go_wp2_with fail
        refine (Hy116.out W2).mono ?_
        rintro e W3 ⟨rfl, hb⟩
        have HB := Lib.hid (chain HB.out hb)
        clear hb cy0 cy1 cy2 cy3 cz
        cases by116 with
        | true =>
          go_wp2_with fail
          refine bodyPost_ret (v := .tuple #[.int .i64 2, .bool true]) (by simp [results, Tryd.results134, go_sem, *]) rfl (⟨by rw [HS.out]; simp [shV, *], HB.out⟩)
        | false =>
          have hcc := HC.out.below HB.out
          have cz := hcc.1
          obtain ⟨cy0, cy1, cy2, cy3⟩ := hcc.2 (i + 1) (by first | omega | (have := HLEN.out; omega))
          rw [HY.out] at cy0 cy1 cy2 cy3
          clear hcc
          go_wp2_with fail
          refine (Hy109.out W3).mono ?_
          rintro e W4 ⟨rfl, hb⟩
          have HB := Lib.hid (chain HB.out hb)
          clear hb cy0 cy1 cy2 cy3 cz
          cases by109 with
          | true =>
            go_wp2_with fail
            refine bodyPost_ret (v := .tuple #[.int .i64 2, .bool true]) (by simp [results, Tryd.results134, go_sem, *]) rfl (⟨by rw [HS.out]; simp [shV, *], HB.out⟩)
          | false =>
            have hcc := HC.out.below HB.out
            have cz := hcc.1
            obtain ⟨cy0, cy1, cy2, cy3⟩ := hcc.2 (i + 1) (by first | omega | (have := HLEN.out; omega))
            rw [HY.out] at cy0 cy1 cy2 cy3
            clear hcc
            go_wp2_with fail
            refine (Hy100.out W4).mono ?_
            rintro e W5 ⟨rfl, hb⟩
            have HB := Lib.hid (chain HB.out hb)
            clear hb cy0 cy1 cy2 cy3 cz
            cases by100 with
            | true =>
              go_wp2_with fail
              refine bodyPost_ret (v := .tuple #[.int .i64 2, .bool true]) (by simp [results, Tryd.results134, go_sem, *]) rfl (⟨by rw [HS.out]; simp [shV, *], HB.out⟩)
            | false =>
              have hcc := HC.out.below HB.out
              have cz := hcc.1
              obtain ⟨cy0, cy1, cy2, cy3⟩ := hcc.2 (i + 1) (by first | omega | (have := HLEN.out; omega))
              rw [HY.out] at cy0 cy1 cy2 cy3
              clear hcc
              go_wp2_with fail
              refine (Hy114.out W5).mono ?_
              rintro e W6 ⟨rfl, hb⟩
              have HB := Lib.hid (chain HB.out hb)
              clear hb cy0 cy1 cy2 cy3 cz
              cases by114 with
              | true =>
                by_cases q2 : i + 2 < L.length
                · have q2z : ¬ ((L.length : Int) ≤ (i : Int) + 2) := by omega
                  have m2 : ¬ M.length ≤ 2 := by have := HLEN.out; omega
                  have p2z : (i : Int) + 2 < L.length := by omega
                  have hcc := HC.out.below HB.out
                  have cz := hcc.1
                  obtain ⟨cy0, cy1, cy2, cy3⟩ := hcc.2 (i + 1) (by first | omega | (have := HLEN.out; omega))
                  rw [HY.out] at cy0 cy1 cy2 cy3
                  obtain ⟨cz0, cz1, cz2, cz3⟩ := hcc.2 (i + 2) (by first | omega | (have := HLEN.out; omega))
                  rw [HZ.out] at cz0 cz1 cz2 cz3
                  clear hcc
                  go_wp2_with fail
                  refine (Hy108.out W6).mono ?_
                  rintro e W7 ⟨rfl, hb⟩
                  have HB := Lib.hid (chain HB.out hb)
                  clear hb cy0 cy1 cy2 cy3 cz0 cz1 cz2 cz3 cz
                  cases by108 with
                  | true =>
                    have hcc := HC.out.below HB.out
                    have cz := hcc.1
                    obtain ⟨cy0, cy1, cy2, cy3⟩ := hcc.2 (i + 1) (by first | omega | (have := HLEN.out; omega))
                    rw [HY.out] at cy0 cy1 cy2 cy3
                    obtain ⟨cz0, cz1, cz2, cz3⟩ := hcc.2 (i + 2) (by first | omega | (have := HLEN.out; omega))
                    rw [HZ.out] at cz0 cz1 cz2 cz3
                    clear hcc
                    go_wp2_with fail
                    refine (Hz108.out W7).mono ?_
                    rintro e W8 ⟨rfl, hb⟩
                    have HB := Lib.hid (chain HB.out hb)
                    clear hb cy0 cy1 cy2 cy3 cz0 cz1 cz2 cz3 cz
                    cases bz108 with
                    | true =>
                      go_wp2_with fail
                      refine bodyPost_ret (v := .tuple #[.int .i64 3, .bool true]) (by simp [results, Tryd.results134, go_sem, *]) rfl (⟨by rw [HS.out]; simp [shV, *], HB.out⟩)
                    | false =>
                      have hcc := HC.out.below HB.out
                      have cz := hcc.1
                      obtain ⟨cy0, cy1, cy2, cy3⟩ := hcc.2 (i + 1) (by first | omega | (have := HLEN.out; omega))
                      rw [HY.out] at cy0 cy1 cy2 cy3
                      obtain ⟨cz0, cz1, cz2, cz3⟩ := hcc.2 (i + 2) (by first | omega | (have := HLEN.out; omega))
                      rw [HZ.out] at cz0 cz1 cz2 cz3
                      clear hcc
                      go_wp2_with fail
                      refine (Hy108.out W8).mono ?_
                      rintro e W9 ⟨rfl, hb⟩
                      have HB := Lib.hid (chain HB.out hb)
                      clear hb cy0 cy1 cy2 cy3 cz0 cz1 cz2 cz3 cz
                      go_wp2_with fail
                      refine bodyPost_ret (v := .tuple #[.int .i64 0, .bool true]) (by simp [results, Tryd.results134, go_sem, *]) rfl (⟨by rw [HS.out]; simp [shV, *], HB.out⟩)
                  | false =>
                    have hcc := HC.out.below HB.out
                    have cz := hcc.1
                    obtain ⟨cy0, cy1, cy2, cy3⟩ := hcc.2 (i + 1) (by first | omega | (have := HLEN.out; omega))
                    rw [HY.out] at cy0 cy1 cy2 cy3
                    obtain ⟨cz0, cz1, cz2, cz3⟩ := hcc.2 (i + 2) (by first | omega | (have := HLEN.out; omega))
                    rw [HZ.out] at cz0 cz1 cz2 cz3
                    clear hcc
                    go_wp2_with fail
                    refine (Hy108.out W7).mono ?_
                    rintro e W10 ⟨rfl, hb⟩
                    have HB := Lib.hid (chain HB.out hb)
                    clear hb cy0 cy1 cy2 cy3 cz0 cz1 cz2 cz3 cz
                    have hcc := HC.out.below HB.out
                    have cz := hcc.1
                    obtain ⟨cy0, cy1, cy2, cy3⟩ := hcc.2 (i + 1) (by first | omega | (have := HLEN.out; omega))
                    rw [HY.out] at cy0 cy1 cy2 cy3
                    obtain ⟨cz0, cz1, cz2, cz3⟩ := hcc.2 (i + 2) (by first | omega | (have := HLEN.out; omega))
                    rw [HZ.out] at cz0 cz1 cz2 cz3
                    clear hcc
                    go_wp2_with fail
                    refine (Hz101.out W10).mono ?_
                    rintro e W11 ⟨rfl, hb⟩
                    have HB := Lib.hid (chain HB.out hb)
                    clear hb cy0 cy1 cy2 cy3 cz0 cz1 cz2 cz3 cz
                    cases bz101 with
                    | true =>
                      go_wp2_with fail
                      refine bodyPost_ret (v := .tuple #[.int .i64 3, .bool true]) (by simp [results, Tryd.results134, go_sem, *]) rfl (⟨by rw [HS.out]; simp [shV, *], HB.out⟩)
                    | false =>
                      go_wp2_with fail
                      refine bodyPost_ret (v := .tuple #[.int .i64 0, .bool true]) (by simp [results, Tryd.results134, go_sem, *]) rfl (⟨by rw [HS.out]; simp [shV, *], HB.out⟩)
                · have q2z : (L.length : Int) ≤ (i : Int) + 2 := by omega
                  have m2 : M.length ≤ 2 := by have := HLEN.out; omega
                  cases fin with
                  | true =>
                    go_wp2_with fail
                    refine bodyPost_ret (v := .tuple #[.int .i64 0, .bool true]) (by simp [results, Tryd.results134, go_sem, *]) rfl (⟨by rw [HS.out]; simp [shV, *], HB.out⟩)
                  | false =>
                    go_wp2_with fail
                    refine bodyPost_ret (v := .tuple #[.int .i64 0, .bool false]) (by simp [results, Tryd.results134, go_sem, *]) rfl (⟨by rw [HS.out]; simp [shV, *], HB.out⟩)
              | false =>
                have hcc := HC.out.below HB.out
                have cz := hcc.1
                obtain ⟨cy0, cy1, cy2, cy3⟩ := hcc.2 (i + 1) (by first | omega | (have := HLEN.out; omega))
                rw [HY.out] at cy0 cy1 cy2 cy3
                clear hcc
                go_wp2_with fail
                refine (Hy118.out W6).mono ?_
                rintro e W12 ⟨rfl, hb⟩
                have HB := Lib.hid (chain HB.out hb)
                clear hb cy0 cy1 cy2 cy3 cz
                cases by118 with
                | true =>
                  by_cases q2 : i + 2 < L.length
                  · have q2z : ¬ ((L.length : Int) ≤ (i : Int) + 2) := by omega
                    have m2 : ¬ M.length ≤ 2 := by have := HLEN.out; omega
                    have p2z : (i : Int) + 2 < L.length := by omega
                    have hcc := HC.out.below HB.out
                    have cz := hcc.1
                    obtain ⟨cy0, cy1, cy2, cy3⟩ := hcc.2 (i + 1) (by first | omega | (have := HLEN.out; omega))
                    rw [HY.out] at cy0 cy1 cy2 cy3
                    obtain ⟨cz0, cz1, cz2, cz3⟩ := hcc.2 (i + 2) (by first | omega | (have := HLEN.out; omega))
                    rw [HZ.out] at cz0 cz1 cz2 cz3
                    clear hcc
                    go_wp2_with fail
                    refine (Hy108.out W12).mono ?_
                    rintro e W13 ⟨rfl, hb⟩
                    have HB := Lib.hid (chain HB.out hb)
                    clear hb cy0 cy1 cy2 cy3 cz0 cz1 cz2 cz3 cz
                    cases by108 with
                    | true =>
                      have hcc := HC.out.below HB.out
                      have cz := hcc.1
                      obtain ⟨cy0, cy1, cy2, cy3⟩ := hcc.2 (i + 1) (by first | omega | (have := HLEN.out; omega))
                      rw [HY.out] at cy0 cy1 cy2 cy3
                      obtain ⟨cz0, cz1, cz2, cz3⟩ := hcc.2 (i + 2) (by first | omega | (have := HLEN.out; omega))
                      rw [HZ.out] at cz0 cz1 cz2 cz3
                      clear hcc
                      go_wp2_with fail
                      refine (Hz108.out W13).mono ?_
                      rintro e W14 ⟨rfl, hb⟩
                      have HB := Lib.hid (chain HB.out hb)
                      clear hb cy0 cy1 cy2 cy3 cz0 cz1 cz2 cz3 cz
                      cases bz108 with
                      | true =>
                        go_wp2_with fail
                        refine bodyPost_ret (v := .tuple #[.int .i64 3, .bool true]) (by simp [results, Tryd.results134, go_sem, *]) rfl (⟨by rw [HS.out]; simp [shV, *], HB.out⟩)
                      | false =>
                        have hcc := HC.out.below HB.out
                        have cz := hcc.1
                        obtain ⟨cy0, cy1, cy2, cy3⟩ := hcc.2 (i + 1) (by first | omega | (have := HLEN.out; omega))
                        rw [HY.out] at cy0 cy1 cy2 cy3
                        obtain ⟨cz0, cz1, cz2, cz3⟩ := hcc.2 (i + 2) (by first | omega | (have := HLEN.out; omega))
                        rw [HZ.out] at cz0 cz1 cz2 cz3
                        clear hcc
                        go_wp2_with fail
                        refine (Hy108.out W14).mono ?_
                        rintro e W15 ⟨rfl, hb⟩
                        have HB := Lib.hid (chain HB.out hb)
                        clear hb cy0 cy1 cy2 cy3 cz0 cz1 cz2 cz3 cz
                        go_wp2_with fail
                        refine bodyPost_ret (v := .tuple #[.int .i64 0, .bool true]) (by simp [results, Tryd.results134, go_sem, *]) rfl (⟨by rw [HS.out]; simp [shV, *], HB.out⟩)
                    | false =>
                      have hcc := HC.out.below HB.out
                      have cz := hcc.1
                      obtain ⟨cy0, cy1, cy2, cy3⟩ := hcc.2 (i + 1) (by first | omega | (have := HLEN.out; omega))
                      rw [HY.out] at cy0 cy1 cy2 cy3
                      obtain ⟨cz0, cz1, cz2, cz3⟩ := hcc.2 (i + 2) (by first | omega | (have := HLEN.out; omega))
                      rw [HZ.out] at cz0 cz1 cz2 cz3
                      clear hcc
                      go_wp2_with fail
                      refine (Hy108.out W13).mono ?_
                      rintro e W16 ⟨rfl, hb⟩
                      have HB := Lib.hid (chain HB.out hb)
                      clear hb cy0 cy1 cy2 cy3 cz0 cz1 cz2 cz3 cz
                      have hcc := HC.out.below HB.out
                      have cz := hcc.1
                      obtain ⟨cy0, cy1, cy2, cy3⟩ := hcc.2 (i + 1) (by first | omega | (have := HLEN.out; omega))
                      rw [HY.out] at cy0 cy1 cy2 cy3
                      obtain ⟨cz0, cz1, cz2, cz3⟩ := hcc.2 (i + 2) (by first | omega | (have := HLEN.out; omega))
                      rw [HZ.out] at cz0 cz1 cz2 cz3
                      clear hcc
                      go_wp2_with fail
                      refine (Hz101.out W16).mono ?_
                      rintro e W17 ⟨rfl, hb⟩
                      have HB := Lib.hid (chain HB.out hb)
                      clear hb cy0 cy1 cy2 cy3 cz0 cz1 cz2 cz3 cz
                      cases bz101 with
                      | true =>
                        go_wp2_with fail
                        refine bodyPost_ret (v := .tuple #[.int .i64 3, .bool true]) (by simp [results, Tryd.results134, go_sem, *]) rfl (⟨by rw [HS.out]; simp [shV, *], HB.out⟩)
                      | false =>
                        go_wp2_with fail
                        refine bodyPost_ret (v := .tuple #[.int .i64 0, .bool true]) (by simp [results, Tryd.results134, go_sem, *]) rfl (⟨by rw [HS.out]; simp [shV, *], HB.out⟩)
                  · have q2z : (L.length : Int) ≤ (i : Int) + 2 := by omega
                    have m2 : M.length ≤ 2 := by have := HLEN.out; omega
                    cases fin with
                    | true =>
                      go_wp2_with fail
                      refine bodyPost_ret (v := .tuple #[.int .i64 0, .bool true]) (by simp [results, Tryd.results134, go_sem, *]) rfl (⟨by rw [HS.out]; simp [shV, *], HB.out⟩)
                    | false =>
                      go_wp2_with fail
                      refine bodyPost_ret (v := .tuple #[.int .i64 0, .bool false]) (by simp [results, Tryd.results134, go_sem, *]) rfl (⟨by rw [HS.out]; simp [shV, *], HB.out⟩)
                | false =>
                  have hcc := HC.out.below HB.out
                  have cz := hcc.1
                  obtain ⟨cy0, cy1, cy2, cy3⟩ := hcc.2 (i + 1) (by first | omega | (have := HLEN.out; omega))
                  rw [HY.out] at cy0 cy1 cy2 cy3
                  clear hcc
                  go_wp2_with fail
                  refine (Hy108.out W12).mono ?_
                  rintro e W18 ⟨rfl, hb⟩
                  have HB := Lib.hid (chain HB.out hb)
                  clear hb cy0 cy1 cy2 cy3 cz
                  cases by108 with
                  | true =>
                    by_cases q2 : i + 2 < L.length
                    · have q2z : ¬ ((L.length : Int) ≤ (i : Int) + 2) := by omega
                      have m2 : ¬ M.length ≤ 2 := by have := HLEN.out; omega
                      have p2z : (i : Int) + 2 < L.length := by omega
                      have hcc := HC.out.below HB.out
                      have cz := hcc.1
                      obtain ⟨cy0, cy1, cy2, cy3⟩ := hcc.2 (i + 1) (by first | omega | (have := HLEN.out; omega))
                      rw [HY.out] at cy0 cy1 cy2 cy3
                      obtain ⟨cz0, cz1, cz2, cz3⟩ := hcc.2 (i + 2) (by first | omega | (have := HLEN.out; omega))
                      rw [HZ.out] at cz0 cz1 cz2 cz3
                      clear hcc
                      go_wp2_with fail
                      refine (Hy108.out W18).mono ?_
                      rintro e W19 ⟨rfl, hb⟩
                      have HB := Lib.hid (chain HB.out hb)
                      clear hb cy0 cy1 cy2 cy3 cz0 cz1 cz2 cz3 cz
                      have hcc := HC.out.below HB.out
                      have cz := hcc.1
                      obtain ⟨cy0, cy1, cy2, cy3⟩ := hcc.2 (i + 1) (by first | omega | (have := HLEN.out; omega))
                      rw [HY.out] at cy0 cy1 cy2 cy3
                      obtain ⟨cz0, cz1, cz2, cz3⟩ := hcc.2 (i + 2) (by first | omega | (have := HLEN.out; omega))
                      rw [HZ.out] at cz0 cz1 cz2 cz3
                      clear hcc
                      go_wp2_with fail
                      refine (Hz108.out W19).mono ?_
                      rintro e W20 ⟨rfl, hb⟩
                      have HB := Lib.hid (chain HB.out hb)
                      clear hb cy0 cy1 cy2 cy3 cz0 cz1 cz2 cz3 cz
                      cases bz108 with
                      | true =>
                        go_wp2_with fail
                        refine bodyPost_ret (v := .tuple #[.int .i64 3, .bool true]) (by simp [results, Tryd.results134, go_sem, *]) rfl (⟨by rw [HS.out]; simp [shV, *], HB.out⟩)
                      | false =>
                        have hcc := HC.out.below HB.out
                        have cz := hcc.1
                        obtain ⟨cy0, cy1, cy2, cy3⟩ := hcc.2 (i + 1) (by first | omega | (have := HLEN.out; omega))
                        rw [HY.out] at cy0 cy1 cy2 cy3
                        obtain ⟨cz0, cz1, cz2, cz3⟩ := hcc.2 (i + 2) (by first | omega | (have := HLEN.out; omega))
                        rw [HZ.out] at cz0 cz1 cz2 cz3
                        clear hcc
                        go_wp2_with fail
                        refine (Hy108.out W20).mono ?_
                        rintro e W21 ⟨rfl, hb⟩
                        have HB := Lib.hid (chain HB.out hb)
                        clear hb cy0 cy1 cy2 cy3 cz0 cz1 cz2 cz3 cz
                        go_wp2_with fail
                        refine bodyPost_ret (v := .tuple #[.int .i64 0, .bool true]) (by simp [results, Tryd.results134, go_sem, *]) rfl (⟨by rw [HS.out]; simp [shV, *], HB.out⟩)
                    · have q2z : (L.length : Int) ≤ (i : Int) + 2 := by omega
                      have m2 : M.length ≤ 2 := by have := HLEN.out; omega
                      cases fin with
                      | true =>
                        go_wp2_with fail
                        refine bodyPost_ret (v := .tuple #[.int .i64 0, .bool true]) (by simp [results, Tryd.results134, go_sem, *]) rfl (⟨by rw [HS.out]; simp [shV, *], HB.out⟩)
                      | false =>
                        go_wp2_with fail
                        refine bodyPost_ret (v := .tuple #[.int .i64 0, .bool false]) (by simp [results, Tryd.results134, go_sem, *]) rfl (⟨by rw [HS.out]; simp [shV, *], HB.out⟩)
                  | false =>
                    go_wp2_with fail
                    refine bodyPost_ret (v := .tuple #[.int .i64 0, .bool true]) (by simp [results, Tryd.results134, go_sem, *]) rfl (⟨by rw [HS.out]; simp [shV, *], HB.out⟩)
    · have q1z : (L.length : Int) ≤ (i : Int) + 1 := by omega
      have m1 : M.length ≤ 1 := by have := HLEN.out; omega
      cases fin with
      | true =>
        go_wp2_with fail
        refine bodyPost_ret (v := .tuple #[.int .i64 0, .bool true]) (by simp [results, Tryd.results134, go_sem, *]) rfl (⟨by rw [HS.out]; simp [shV, *], HB.out⟩)
      | false =>
        go_wp2_with fail
        refine bodyPost_ret (v := .tuple #[.int .i64 0, .bool false]) (by simp [results, Tryd.results134, go_sem, *]) rfl (⟨by rw [HS.out]; simp [shV, *], HB.out⟩)
  | false =>
    go_wp2_with fail
    refine bodyPost_ret (v := .tuple #[.int .i64 0, .bool true]) (by simp [results, Tryd.results134, go_sem, *]) rfl (⟨by rw [HS.out]; simp [shV, *], HB.out⟩)
end Go.Proofs.YtendkmldecoogaaDoor.RefShort
