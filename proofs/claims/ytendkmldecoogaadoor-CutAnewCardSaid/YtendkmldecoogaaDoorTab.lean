/-
  classes.Table: how it lies in memory; Of, Kind.
-/
import Derived.Test.YtendkmldecoogaaDoorChk4
import Derived.Test.YtendkmldecoogaaDoorSpRef
namespace Go.Proofs.YtendkmldecoogaaDoor.Tab
open Go Go.RowKit Go.Proofs.YtendkmldecoogaaDoor.Kit Go.Proofs.YtendkmldecoogaaDoor.SpFns Go.Proofs.YtendkmldecoogaaDoor.SpFind Go.Proofs.YtendkmldecoogaaDoor.SpSize Go.Proofs.YtendkmldecoogaaDoor.SpLists Go.Proofs.YtendkmldecoogaaDoor.SpRef Go.Proofs.YtendkmldecoogaaDoor.Dt Go.Proofs.YtendkmldecoogaaDoor.Chk4
attribute [local irreducible] wpQuiet

/-- A table at a block: three lists. -/
structure Tab (w : World) (D : Dt) (tb : Nat) (p : Pl) : Prop where
  t : w.heap[tb]? = some (.cells #[.slice p.a2 D.n0 p.c2, .slice p.a3 D.n1 p.c3, .slice p.a4 D.n2 p.c4] 174 (0, 0))
  r : ∀ k, k < 3 → Row w (ak p k) (nk D k) (lk D k) (hk D k)
  b : ∀ k, k < 3 → nk D k ≤ 17592186044416

/-- A block is the table's or one of its lists'. -/
def Pl.tab (p : Pl) (tb b : Nat) : Prop := b = tb ∨ ∃ k, k < 3 ∧ ∃ x, ak p k = some x ∧ x.block = b

theorem Tab.keep {w w' : World} {D : Dt} {tb : Nat} {p : Pl} (h : Tab w D tb p) (hs : w.heap.size ≤ w'.heap.size) (hb : ∀ b, Pl.tab p tb b → b < w.heap.size → w'.heap[b]? = w.heap[b]?) : Tab w' D tb p :=
  ⟨(hb tb (.inl rfl) (lt_of_heap h.t)).trans h.t, fun k hk => SRow.keep (h.r k hk) hs (fun x hx hl => hb _ (.inr ⟨k, hk, x, hx, rfl⟩) hl), h.b⟩
theorem Tab.below {w w' : World} {D : Dt} {tb : Nat} {p : Pl} (h : Tab w D tb p) (hb : Below w.heap.size w w') : Tab w' D tb p := h.keep hb.size (fun b _ hl => hb.block b hl)

theorem index_k {T : TypeId} {D : Dt} {p : Pl} {P : Program} {e : TypeId} (h0 : ∀ (x0 x1 x2 : Value) w, (Instr.index T (.agg #[x0, x1, x2]) (.int .i64 0)).run P w = .ok x0 w) (h1 : ∀ (x0 x1 x2 : Value) w, (Instr.index T (.agg #[x0, x1, x2]) (.int .i64 1)).run P w = .ok x1 w)
    (h2 : ∀ (x0 x1 x2 : Value) w, (Instr.index T (.agg #[x0, x1, x2]) (.int .i64 2)).run P w = .ok x2 w) (_e : e = e) {k : Nat} (hk : k < 3) (w : World) :
    (Instr.index T (.agg #[.slice p.a2 D.n0 p.c2, .slice p.a3 D.n1 p.c3, .slice p.a4 D.n2 p.c4]) (.int .i64 k)).run P w = .ok (.slice (ak p k) (nk D k) (ck p k)) w := by
  match k, hk with
  | 0, _ => exact h0 _ _ _ w
  | 1, _ => exact h1 _ _ _ w
  | 2, _ => exact h2 _ _ _ w

/-- A rune's kind. -/
def kindOf (D : Dt) (r : Int) : Int := if InD D.L0 D.H0 D.n0 r = true then 1 else if InD D.L1 D.H1 D.n1 r = true then 2 else if InD D.L2 D.H2 D.n2 r = true then 3 else 4

theorem kind_hit {D : Dt} {r : Int} {k : Nat} (hk : k < 3) (hn : ∀ j, j < k → InD (lk D j) (Chk4.hk D j) (nk D j) r = false) (h : InD (lk D k) (Chk4.hk D k) (nk D k) r = true) : kindOf D r = 1 + (k : Int) := by
  unfold kindOf
  match k, hk with
  | 0, _ => rw [if_pos (show InD D.L0 D.H0 D.n0 r = true from h)]; rfl
  | 1, _ => rw [if_neg (by rw [show InD D.L0 D.H0 D.n0 r = false from hn 0 (by decide)]; simp), if_pos (show InD D.L1 D.H1 D.n1 r = true from h)]; rfl
  | 2, _ => rw [if_neg (by rw [show InD D.L0 D.H0 D.n0 r = false from hn 0 (by decide)]; simp), if_neg (by rw [show InD D.L1 D.H1 D.n1 r = false from hn 1 (by decide)]; simp), if_pos (show InD D.L2 D.H2 D.n2 r = true from h)]; rfl
theorem no_step {D : Dt} {r : Int} {k : Nat} (h : ∀ j, j < k → InD (lk D j) (Chk4.hk D j) (nk D j) r = false) (h2 : InD (lk D k) (Chk4.hk D k) (nk D k) r = false) : ∀ j, j < k + 1 → InD (lk D j) (Chk4.hk D j) (nk D j) r = false := fun j hj => (Nat.lt_or_ge j k).elim (h j) (fun h' => by
  have : j = k := by omega
  rw [this]
  exact h2)
theorem kind_none {D : Dt} {r : Int} (hn : ∀ j, j < 3 → InD (lk D j) (Chk4.hk D j) (nk D j) r = false) : kindOf D r = 4 := by
  unfold kindOf
  rw [if_neg (by rw [show InD D.L0 D.H0 D.n0 r = false from hn 0 (by decide)]; simp), if_neg (by rw [show InD D.L1 D.H1 D.n1 r = false from hn 1 (by decide)]; simp), if_neg (by rw [show InD D.L2 D.H2 D.n2 r = false from hn 2 (by decide)]; simp)]

theorem in_calls {D : Dt} (ho : Ok D 3) {k : Nat} (r : Int) {w : World} {p : Pl} (h : Row w (ak p k) (nk D k) (lk D k) (Chk4.hk D k)) (hb : nk D k ≤ 17592186044416) :
    Calls Tryd.prog 107 #[.slice (ak p k) (nk D k) (ck p k), .int .i32 r] w fun e w' => e = .returned (.bool (InD (lk D k) (Chk4.hk D k) (nk D k) r)) ∧ Below w.heap.size w w' := by
  obtain ⟨R, hcut⟩ := Rt.cut r (nk D k) (rt_all ho k)
  have := In_calls (ak p k) (nk D k) (ck p k) (lk D k) (Chk4.hk D k) r R w h (by omega) hcut
  rw [InD_cut (rt_all ho k) hcut] at this
  exact this

set_option maxHeartbeats 1000000 in
set_option maxRecDepth 100000 in
theorem Of_calls (D : Dt) (tb : Nat) (p : Pl) (r : Int) (w : World) (h : Tab w D tb p) (ho : Ok D 3) :
    Calls Tryd.prog 74 #[.pointer (some ⟨tb, 0, none⟩), .int .i32 r] w fun e w' => e = .returned (.int .i64 (kindOf D r)) ∧ Below w.heap.size w w' := by
  have H := Lib.hid h
  have HO := Lib.hid ho
  have b0 := cell_at h.t 0
  have b1 := cell_at h.t 1
  have b2 := cell_at h.t 2
  have zt := lt_of_heap h.t
  simp only [List.getElem?_toArray, List.getElem?_cons_zero, List.getElem?_cons_succ] at b0 b1 b2
  clear h ho
  go_enter Tryd.func74, Tryd.ntmps74
  go_wp2_with fail
  clear b0 b1 b2
  go_loopg [11] 3 (fun g s11 wr => ∃ k : Nat, k ≤ 3 ∧ g = 3 - k ∧ s11 = .int .i64 k ∧ Below w.heap.size w wr ∧ ∀ j, j < k → InD (lk D j) (Chk4.hk D j) (nk D j) r = false)
  case atStart => exact ⟨0, by omega, by omega, rfl, Below.refl _ _, fun j hj => by omega⟩
  case round =>
    obtain ⟨k, hk, hg, rfl, hb, hno⟩ := hrel
    have HG := Lib.hid hg
    have HNO := Lib.hid hno
    have HB := Lib.hid hb
    clear hg hno hb
    by_cases hlt : k < 3
    · have hlti : (k : Int) < 3 := by omega
      have hix := fun w => index_k (T := 172) (P := Tryd.prog) (e := 0) (D := D) (p := p) (fun x0 x1 x2 w => by kernel_rfl) (fun x0 x1 x2 w => by kernel_rfl) (fun x0 x1 x2 w => by kernel_rfl) rfl hlt w
      have K1 := Lib.hid (in_calls HO.out (k := k) r (p := p) ((H.out.below HB.out).r k hlt) (H.out.b k hlt))
      have HH := Lib.hid (fun h => kind_hit (D := D) (r := r) hlt HNO.out h)
      have HN := Lib.hid (fun h => no_step (D := D) (r := r) HNO.out h)
      generalize InD (lk D k) (Chk4.hk D k) (nk D k) r = b at K1 HH HN
      go_wp2_with fail
      refine K1.out.mono ?_
      rintro e W2 ⟨rfl, hb⟩
      have HB := Lib.hid (chain HB.out hb)
      clear hb hix
      cases b with
      | true =>
        have hw : IntKind.i64.wrap (1 + (k : Int)) = 1 + (k : Int) := i64w _ (by omega) (by omega)
        have HK := Lib.hid (HH.out rfl)
        go_wp2_with fail
        go_ret
        exact ⟨ret_int HK.out.symm, HB.out⟩
      | false =>
        have HNN := Lib.hid (HN.out rfl)
        go_wp2_with fail
        go_roundg (3 - (k + 1))
        case measure => have := HG.out; omega
        case rel => exact ⟨k + 1, by omega, rfl, by go_num, HB.out, HNN.out⟩
    · have hk3 : k = 3 := by omega
      subst hk3
      have HK := Lib.hid (kind_none HNO.out)
      go_wp2_with fail
      go_ret
      exact ⟨ret_int HK.out.symm, HB.out⟩
end Go.Proofs.YtendkmldecoogaaDoor.Tab
