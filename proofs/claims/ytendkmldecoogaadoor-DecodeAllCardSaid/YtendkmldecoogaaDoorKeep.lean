/-
  tesserakeep.Large, tesserakeep.Of.
-/
import Derived.Test.YtendkmldecoogaaDoorMoNew
namespace Go.Proofs.YtendkmldecoogaaDoor.Keep
open Go Go.RowKit Go.Proofs.YtendkmldecoogaaDoor.Kit Go.Proofs.YtendkmldecoogaaDoor.SpFns Go.Proofs.YtendkmldecoogaaDoor.Dt Go.Proofs.YtendkmldecoogaaDoor.Mo Go.Proofs.YtendkmldecoogaaDoor.MoNew Go.Proofs.YtendkmldecoogaaDoor.Ref5d
attribute [local irreducible] wpQuiet

def large (D : Dt) : Bool := decide (300 < D.nm ∧ D.nm ≤ 4096)

set_option maxRecDepth 100000 in
theorem Large_calls (D : Dt) (p : Pl) (w : World) (h : At w D p) :
    Calls Tryd.prog 65 #[.agg #[.slice p.a0 D.nw p.c0, .slice p.a1 D.nm p.c1, .slice p.a2 D.n0 p.c2, .slice p.a3 D.n1 p.c3, .slice p.a4 D.n2 p.c4]] w fun x w' => x = .returned (.bool (large D)) ∧ Below w.heap.size w w' := by
  have hbm := h.bm
  by_cases h1 : 300 < D.nm
  · have h1' : (300 : Int) < D.nm := by omega
    by_cases h2 : D.nm ≤ 4096
    · have h2' : (D.nm : Int) ≤ 4096 := by omega
      have HX := Lib.hid (show large D = true from decide_eq_true ⟨h1, h2⟩)
      go_enter Tryd.func65, Tryd.ntmps65
      go_wp2
      go_ret
      rw [HX.out]
      exact ⟨rfl, (Below.refl _ _).alloc (Nat.le_refl _) _⟩
    · have h2' : ¬ ((D.nm : Int) ≤ 4096) := by omega
      have HX := Lib.hid (show large D = false from decide_eq_false (fun h => h2 h.2))
      go_enter Tryd.func65, Tryd.ntmps65
      go_wp2
      go_ret
      rw [HX.out]
      exact ⟨rfl, (Below.refl _ _).alloc (Nat.le_refl _) _⟩
  · have h1' : ¬ ((300 : Int) < D.nm) := by omega
    have HX := Lib.hid (show large D = false from decide_eq_false (fun h => h1 h.1))
    go_enter Tryd.func65, Tryd.ntmps65
    go_wp2
    go_ret
    rw [HX.out]
    exact ⟨rfl, (Below.refl _ _).alloc (Nat.le_refl _) _⟩

/-- What Of answers: there is no model, and none should be; or there is a right one. -/
def Kept (D : Dt) (w : World) (x : Ending) (w' : World) : Prop :=
  (x = .returned (.tuple #[.pointer none, .bool false, .bool true]) ∧ Below w.heap.size w w') ∨
  ∃ mb, x = .returned (.tuple #[.pointer (some ⟨mb, 0, none⟩), .bool true, .bool true]) ∧ Mod w' mb D ∧ w.heap.size ≤ mb ∧ Below w.heap.size w w' ∧ D.nm ≤ 300

/-- The same, and why there is none. -/
def KeptX (D : Dt) (w : World) (x : Ending) (w' : World) : Prop :=
  ((x = .returned (.tuple #[.pointer none, .bool false, .bool true]) ∧ Below w.heap.size w w') ∧ ¬ (chk D = (0, 0, 0) ∧ D.nm ≤ 300)) ∨
  ∃ mb, x = .returned (.tuple #[.pointer (some ⟨mb, 0, none⟩), .bool true, .bool true]) ∧ Mod w' mb D ∧ w.heap.size ≤ mb ∧ Below w.heap.size w w' ∧ D.nm ≤ 300

set_option maxHeartbeats 1000000 in
set_option maxRecDepth 100000 in
theorem OfX_calls (D : Dt) (p : Pl) (w : World) (h : At w D p) :
    Calls Tryd.prog 19 #[.agg #[.slice p.a0 D.nw p.c0, .slice p.a1 D.nm p.c1, .slice p.a2 D.n0 p.c2, .slice p.a3 D.n1 p.c3, .slice p.a4 D.n2 p.c4]] w (KeptX D w) := by
  have H := Lib.hid h
  obtain ⟨W1, hW1⟩ : ∃ W1, w.alloc (.cells #[.slice p.a0 D.nw p.c0, .slice p.a1 D.nm p.c1, .slice p.a2 D.n0 p.c2, .slice p.a3 D.n1 p.c3, .slice p.a4 D.n2 p.c4] 33) = W1 := ⟨_, rfl⟩
  obtain ⟨hb1, hx1, ha1⟩ := Ref5a.boxed H.out hW1
  obtain ⟨xb, hxb⟩ : ∃ b, w.heap.size = b := ⟨_, rfl⟩
  rw [hxb] at hx1
  have HX := Lib.hid hx1
  have HA := Lib.hid ha1
  have HB := Lib.hid hb1
  clear h hx1 ha1 hb1
  have b0 := cell_at HX.out 0
  have b1 := cell_at HX.out 1
  have b2 := cell_at HX.out 2
  have b3 := cell_at HX.out 3
  have b4 := cell_at HX.out 4
  have bz := lt_of_heap HX.out
  simp only [List.getElem?_toArray, List.getElem?_cons_zero, List.getElem?_cons_succ] at b0 b1 b2 b3 b4
  have HL := Lib.hid (Large_calls D p W1 HA.out)
  have HLL := Lib.hid (rfl : large D = large D)
  obtain ⟨lr, hlr⟩ : ∃ lr, large D = lr := ⟨_, rfl⟩
  rw [hlr] at HL
  have HLR := Lib.hid hlr
  clear hlr HLL
  go_enter Tryd.func19, Tryd.ntmps19
  go_wp2_with fail
  clear hW1 hxb b0 b1 b2 b3 b4 bz
  refine HL.out.mono ?_
  rintro e W2 ⟨rfl, hb⟩
  have HX := Lib.hid ((hb.block _ (lt_of_heap HX.out)).trans HX.out)
  have HA := Lib.hid (HA.out.below hb)
  have HB := Lib.hid (chain HB.out hb)
  clear hb HL
  have b0 := cell_at HX.out 0
  have b1 := cell_at HX.out 1
  have b2 := cell_at HX.out 2
  have b3 := cell_at HX.out 3
  have b4 := cell_at HX.out 4
  have bz := lt_of_heap HX.out
  simp only [List.getElem?_toArray, List.getElem?_cons_zero, List.getElem?_cons_succ] at b0 b1 b2 b3 b4
  cases lr
  case true =>
    go_wp2_with fail
    go_ret3
    exact .inl ⟨⟨rfl, HB.out⟩, fun h => by have h1 := of_decide_eq_true HLR.out; omega⟩
  go_wp2_with fail
  refine (New_calls D p W2 HA.out).mono ?_
  rintro e W3 (⟨hq, rfl, hb⟩ | ⟨hq, mb, rfl, hm, hmb, hb⟩)
  · have HX := Lib.hid ((hb.block _ (lt_of_heap HX.out)).trans HX.out)
    have HA := Lib.hid (HA.out.below hb)
    have HB := Lib.hid (chain HB.out hb)
    have HC := Lib.hid (fun W (h : At W D p) => Check_calls D p W h)
    have HQ := Lib.hid hq
    have HQN := Lib.hid (show ¬ (chk D = (0, 0, 0) ∧ D.nm ≤ 300) from fun h => hq (by rw [h.1]))
    generalize hQ0 : chk D = Q at HC HQ
    clear hQ0
    obtain ⟨Q1, Q2, Q3⟩ := Q
    clear hq b0 b1 b2 b3 b4 bz hb
    dsimp only at HQ HC ⊢
    obtain ⟨W4, hW4⟩ : ∃ Xz, W3.alloc (.cells #[.int .i64 Q1, .int .i64 Q2, .int .i64 Q3] 80) = Xz := ⟨_, rfl⟩
    obtain ⟨fb, hfb⟩ : ∃ xz, W3.heap.size = xz := ⟨_, rfl⟩
    have hb4 : Below W3.heap.size W3 W4 := by rw [← hW4]; exact (Below.refl _ _).alloc (Nat.le_refl _) _
    have HF := Lib.hid (by rw [← hW4, ← hfb]; exact alloc_new rfl : W4.heap[fb]? = some (.cells #[.int .i64 Q1, .int .i64 Q2, .int .i64 Q3] 80 (0, 0)))
    have EW4 := Lib.hid hW4
    have Efb := Lib.hid hfb
    clear hW4 hfb
    have b0 := cell_at HX.out 0
    have b1 := cell_at HX.out 1
    have b2 := cell_at HX.out 2
    have b3 := cell_at HX.out 3
    have b4 := cell_at HX.out 4
    have bz := lt_of_heap HX.out
    simp only [List.getElem?_toArray, List.getElem?_cons_zero, List.getElem?_cons_succ] at b0 b1 b2 b3 b4
    have HX := Lib.hid ((hb4.block _ (lt_of_heap HX.out)).trans HX.out)
    have HA := Lib.hid (HA.out.below hb4)
    have HB := Lib.hid (chain HB.out hb4)
    clear hb4
    go_wp2_with fail
    rw [EW4.out]
    refine (HC.out W4 HA.out).mono ?_
    clear b0 b1 b2 b3 b4 bz
    rintro e W5 ⟨rfl, hb⟩
    have HF := Lib.hid ((hb.block _ (lt_of_heap HF.out)).trans HF.out)
    have HA := Lib.hid (HA.out.below hb)
    have HB := Lib.hid (chain HB.out hb)
    clear hb
    rw [Efb.out]
    have f0 := cell_at HF.out 0
    have f1 := cell_at HF.out 1
    have f2 := cell_at HF.out 2
    have fz := lt_of_heap HF.out
    simp only [List.getElem?_toArray, List.getElem?_cons_zero, List.getElem?_cons_succ] at f0 f1 f2
    obtain ⟨W6, hW6⟩ : ∃ Xz, W5.alloc (.cells #[.int .i64 Q1, .int .i64 Q2, .int .i64 Q3] 114) = Xz := ⟨_, rfl⟩
    obtain ⟨gb, hgb⟩ : ∃ xz, W5.heap.size = xz := ⟨_, rfl⟩
    have hb6 : Below W5.heap.size W5 W6 := by rw [← hW6]; exact (Below.refl _ _).alloc (Nat.le_refl _) _
    have HG := Lib.hid (by rw [← hW6, ← hgb]; exact alloc_new rfl : W6.heap[gb]? = some (.cells #[.int .i64 Q1, .int .i64 Q2, .int .i64 Q3] 114 (0, 0)))
    have EW6 := Lib.hid hW6
    have Egb := Lib.hid hgb
    clear hW6 hgb
    have hn : (Q1 != 0) = true := by simpa using HQ.out
    go_wp2_with fail
    refine region_calm (by kernel_rfl) (by kernel_rfl) ?_
    repeat (quiet_step ((fail)))
    refine wpQuiet_nil ?_
    rintro _ ⟨x, rfl⟩
    go_wp2
    go_ret3
    exact .inl ⟨⟨rfl, Later.chain (HB.out.alloc HB.out.size _) x⟩, HQN.out⟩
  · have HM := Lib.hid hm
    have HMB := Lib.hid (Nat.le_trans HB.out.size hmb)
    have hn3 : D.nm ≤ 300 := by
      have h1 := of_decide_eq_false HLR.out
      have h2 := hm.nw
      have h3 := hm.nm
      omega
    have HN := Lib.hid hn3
    have HC := Lib.hid (fun W (h : At W D p) => Check_calls D p W h)
    have HX := Lib.hid ((hb.block _ (lt_of_heap HX.out)).trans HX.out)
    have HA := Lib.hid (HA.out.below hb)
    have HB := Lib.hid (chain HB.out hb)
    rw [hq] at HC
    clear hq hm hmb hn3 b0 b1 b2 b3 b4 bz hb
    dsimp only at HC
    obtain ⟨W4, hW4⟩ : ∃ Xz, W3.alloc (.cells #[.int .i64 0, .int .i64 0, .int .i64 0] 80) = Xz := ⟨_, rfl⟩
    obtain ⟨fb, hfb⟩ : ∃ xz, W3.heap.size = xz := ⟨_, rfl⟩
    have hb4 : Below W3.heap.size W3 W4 := by rw [← hW4]; exact (Below.refl _ _).alloc (Nat.le_refl _) _
    have HF := Lib.hid (by rw [← hW4, ← hfb]; exact alloc_new rfl : W4.heap[fb]? = some (.cells #[.int .i64 0, .int .i64 0, .int .i64 0] 80 (0, 0)))
    have EW4 := Lib.hid hW4
    have Efb := Lib.hid hfb
    clear hW4 hfb
    have b0 := cell_at HX.out 0
    have b1 := cell_at HX.out 1
    have b2 := cell_at HX.out 2
    have b3 := cell_at HX.out 3
    have b4 := cell_at HX.out 4
    have bz := lt_of_heap HX.out
    simp only [List.getElem?_toArray, List.getElem?_cons_zero, List.getElem?_cons_succ] at b0 b1 b2 b3 b4
    have HX := Lib.hid ((hb4.block _ (lt_of_heap HX.out)).trans HX.out)
    have HA := Lib.hid (HA.out.below hb4)
    have HM := Lib.hid (HM.out.below hb4)
    have HB := Lib.hid (chain HB.out hb4)
    clear hb4
    go_wp2_with fail
    rw [EW4.out]
    refine (HC.out W4 HA.out).mono ?_
    clear b0 b1 b2 b3 b4 bz
    rintro e W5 ⟨rfl, hb⟩
    have HF := Lib.hid ((hb.block _ (lt_of_heap HF.out)).trans HF.out)
    have HM := Lib.hid (HM.out.below hb)
    have HB := Lib.hid (chain HB.out hb)
    clear hb
    rw [Efb.out]
    have f0 := cell_at HF.out 0
    have f1 := cell_at HF.out 1
    have f2 := cell_at HF.out 2
    have fz := lt_of_heap HF.out
    simp only [List.getElem?_toArray, List.getElem?_cons_zero, List.getElem?_cons_succ] at f0 f1 f2
    go_wp2_with fail
    go_ret3
    exact .inr ⟨mb, rfl, HM.out.below ((Below.refl _ _).alloc (Nat.le_refl _) _), HMB.out, HB.out.alloc HB.out.size _, HN.out⟩
theorem Of_calls (D : Dt) (p : Pl) (w : World) (h : At w D p) :
    Calls Tryd.prog 19 #[.agg #[.slice p.a0 D.nw p.c0, .slice p.a1 D.nm p.c1, .slice p.a2 D.n0 p.c2, .slice p.a3 D.n1 p.c3, .slice p.a4 D.n2 p.c4]] w (Kept D w) :=
  (OfX_calls D p w h).mono fun _ _ h => h.elim (fun h => .inl h.1) .inr
end Go.Proofs.YtendkmldecoogaaDoor.Keep
