/-
  The reference's Of and Tokens. The reference's Tokens.
-/
import Derived.Test.YtendkmldecoogaaDoorRefNext
import Derived.Test.YtendkmldecoogaaDoorCutTokens
import Derived.Test.YtendkmldecoogaaDoorCutAll
namespace Go.Proofs.YtendkmldecoogaaDoor.RefOf
open Go Go.RowKit Go.Proofs.YtendkmldecoogaaDoor.Kit Go.Proofs.YtendkmldecoogaaDoor.Seg Go.Proofs.YtendkmldecoogaaDoor.Collect Go.Proofs.YtendkmldecoogaaDoor.Utf Go.Proofs.YtendkmldecoogaaDoor.It Go.Proofs.YtendkmldecoogaaDoor.ItGo Go.Proofs.YtendkmldecoogaaDoor.Dt Go.Proofs.YtendkmldecoogaaDoor.Cu Go.Proofs.YtendkmldecoogaaDoor.CutTokens Go.Proofs.YtendkmldecoogaaDoor.Ref2c Go.Proofs.YtendkmldecoogaaDoor.Ref12 Go.Proofs.YtendkmldecoogaaDoor.RefShort Go.Proofs.YtendkmldecoogaaDoor.RefNext
attribute [local irreducible] wpQuiet

/-! ### A drawn region by a condition S on worlds that every operation keeps -/
section
variable {P : Program} {ops : Array Oper} {R : Act → World → Prop} {S : World → Prop}
def RGS (P : Program) (ops : Array Oper) (R : Act → World → Prop) (S : World → Prop) (n : Nat) (listed : Array Bool) (a : Act) (w : World) : Prop :=
  S w → wpAnyH P .any ops (OnlyNormal R) S n listed a w
theorem RGS_begin (S : World → Prop) {Q : Exit → Act → World → Prop} {id : Nat} {a : Act} {w : World} {l : List Oper} (n : Nat) (listed : Array Bool) (hn : l.length = n) (hl : Array.replicate n false = listed) (hm : P.follows .mixedOrders = true) (hS : S w.drew)
    (h : ∀ R : Act → World → Prop, (∀ a w, Q .normal a w → R a w) → RGS P l.toArray R S n listed a w.drew) : (Code.region id l.toArray true).wp P Q a w := by
  refine Code.wp_mono (Q := OnlyNormal (Q .normal)) (fun e a w hq => by cases e <;> first | exact hq | exact hq.elim) ?_
  refine wp_region_held (S := S) hm ?_
  have h' := h _ (fun _ _ h => h) hS
  subst hn
  subst hl
  simpa using h'
theorem RGS_take {i : Nat} {oi : Oper} {v : Value} {n : Nat} {listed : Array Bool} (d : Option Tmp) (listed' : Array Bool) {a : Act} {w : World} (hi : ops[i]? = some oi) (hd : oi.dst = d)
    (hs : Region.noSelect ops = true) (hf : Region.free .any ops listed i = true) (hr : (Region.ready .any ops listed).contains i = true) (hl : listed.setIfInBounds i true = listed')
    (hw : Region.wanted oi (yielded ops a.tmps) = true) (hy : ∀ w', S w' → (execOp a.eval oi).run P w' = .ok (.value v) w')
    (h : RGS P ops R S n listed' (a.put d v) w) : RGS P ops R S (n + 1) listed a w := by
  subst hl
  subst hd
  exact fun hb => wpAnyH_take hi hs hf hr (fun _ _ _ h => h) (.inl ⟨hw, fun w' hb => hy w' hb⟩) hb (h hb)
theorem RGS_one {i : Nat} {oi : Oper} {n : Nat} {listed : Array Bool} (listed' : Array Bool) {a : Act} {w : World} (hi : ops[i]? = some oi) (hr : Region.ready .any ops listed = [i]) (hl : listed.setIfInBounds i true = listed') (hw : Region.wanted oi (yielded ops a.tmps) = true)
    (h : ∀ K : Act → World → Prop, (∀ a' w', S w' → RGS P ops R S n listed' a' w' → K a' w') → oi.wp P a w K (OnlyNormal R)) :
    RGS P ops R S (n + 1) listed a w := fun _ =>
  wpAnyH_all hr (by simp) fun j hj => by
    obtain rfl : j = i := by simpa using hj
    subst hl
    unfold wpOp
    simp only [hi, hw, if_true]
    exact .inl (h _ fun a' w' hb hR => ⟨hb, hR hb⟩)
theorem RGS_done {listed : Array Bool} {a : Act} {w : World} {n : Nat} (hr : Region.ready .any ops listed = []) (h : R a w) : RGS P ops R S n listed a w :=
  fun _ => wpAnyH_done hr h n
end

/-- An append whose run is known, as one operation. -/
theorem append_op {P : Program} {t : TypeId} {w w' : World} {o : Oper} {a : Act} {K : Act → World → Prop} {Q : Exit → Act → World → Prop} {x s : Operand} {v xv v' : Value}
    (hop : o.op = Op.call { callee := Callee.builtin Builtin.append, args := #[s, x], argTypes := #[t, t] }) (hs : a.eval s = v) (hx : a.eval x = xv) (hrun : (Builtin.append_ #[t, t] o.type #[v, xv]).run P w = .ok v' w')
    (h : K (a.put o.dst v') w') : o.wp P a w K Q := by
  unfold Oper.wp execOp
  simp only [hop, resolve, invoke, builtin, Sem.run_bind, Sem.run_pure, Result.andThen_ok, List.map_toArray, List.map_cons, List.map_nil, hs, hx, hrun]
  exact h

/-- A list of the reference's pre-tokens of the call's own. -/
def TRow' (w : World) (base : Nat) (v : Value) (T : List Tk) : Prop := Seg w base 126 3 v T.length (flat T)
theorem elemT' : Elem Tryd.prog 39 126 (.agg #[.int .i64 0, .int .i64 0, .int .i64 0]) 3 24 := ⟨Tryd.underlying39, by kernel_rfl, rfl, by decide⟩
theorem TRow'.below {w w' : World} {base : Nat} {v : Value} {T : List Tk} (h : TRow' w base v T) (hb : Below w.heap.size w w') : TRow' w' base v T := Seg.below h hb

theorem TRow'.next {w0 A : World} {v : Value} {T : List Tk} {bb : Nat} (x : Tk) (hb0 : Below w0.heap.size w0 A) (h : TRow' A w0.heap.size v T) (hb : A.heap[bb]? = some (.cells #[.int .i64 x.a, .int .i64 x.b, .int .i64 x.s] 126 (0, 0))) (hn : T.length < 1000000000000) (ty : TypeId) :
    ∃ v' A', (Builtin.append_ #[39, 39] ty #[v, .slice (some ⟨bb, 0, none⟩) 1 1]).run Tryd.prog A = .ok v' A' ∧ TRow' A' w0.heap.size v' (T ++ [x]) ∧ Below w0.heap.size w0 A' ∧ ∀ (b : Nat) (c : Array Value) (t : TypeId), t ≠ 126 → A.heap[b]? = some (.cells c t (0, 0)) → A'.heap[b]? = some (.cells c t (0, 0)) := by
  obtain ⟨i, hi, hz0, hz1, hz2⟩ := elemT'.parts
  have hsrc : Src A (.slice (some ⟨bb, 0, none⟩) 1 1) 1 [.int .i64 x.a, .int .i64 x.b, .int .i64 x.s] := by
    refine ⟨some ⟨bb, 0, none⟩, 1, rfl, (fun h => by cases h), fun ad had j u hu => ?_⟩
    cases had
    rw [add_plain, cell_at hb]
    simpa using hu
  obtain ⟨v', A', hr, ha, _⟩ := run_append_seg (P := Tryd.prog) A w0.heap.size 39 ty 126 i _ 3 24 elemT'.t hi hz0 hz1 hz2 elemT'.z elemT'.p v T.length (flat T) h (.slice (some ⟨bb, 0, none⟩) 1 1) 1 _ (by rfl) hsrc (by simp [Value.oneCell']) (by unfold maxLen; omega) (by omega) hb0.size
  refine ⟨v', A', hr, ?_, hb0.trans (ha.u.below hb0.size (fun b hb hh => by have := (h.lt b hh).1; omega)), fun b c t ht hbc => ?_⟩
  · unfold TRow'
    rw [flat_append, List.length_append]
    exact ha.seg
  · refine (ha.u.block b (lt_of_heap hbc) (fun hh => ?_)).trans hbc
    rcases h.at' with ⟨h9, _⟩ | ⟨g, o, cap, cur, h9, _, hg, _⟩
    · rw [h9] at hh; cases hh
    · rw [h9] at hh
      simp only [Value.ownBlock, Option.some.injEq] at hh
      rw [hh, hbc] at hg
      simp only [Option.some.injEq, Obj.cells.injEq] at hg
      exact ht hg.2.1

set_option maxHeartbeats 4000000 in
set_option maxRecDepth 100000 in
theorem Of_calls (D : Dt) (p : Pl) (w : World) (a : Option Addr) (c : Nat) (L : List It) (fin : Bool) (hd : At w D p) (hc : 0 < L.length → ∃ g o, a = some ⟨g, o, none⟩ ∧ ICells w g o L) (hL : L.length ≤ 100000000000) (hsz : ∀ j, j < L.length → (L.getD j default).from' ≤ 1000000000000 ∧ (L.getD j default).bytes ≤ 4) :
    Calls Tryd.prog 68 #[.agg #[.slice p.a0 D.nw p.c0, .slice p.a1 D.nm p.c1, .slice p.a2 D.n0 p.c2, .slice p.a3 D.n1 p.c3, .slice p.a4 D.n2 p.c4], .slice a L.length c, .bool fin] w fun e w' => ∃ v, e = .returned (.tuple #[v, .int .i64 (ofI D L fin).2]) ∧ TRow' w' w.heap.size v (ofI D L fin).1 ∧ Below w.heap.size w w' := by
  have HA := Lib.hid hd
  have HC := Lib.hid hc
  have HSZ := Lib.hid hsz
  obtain ⟨R, hR⟩ : ∃ R, ofI D L fin = R := ⟨_, rfl⟩
  rw [hR]
  have HR := Lib.hid hR
  obtain ⟨W1, hW1⟩ : ∃ Xz, w.alloc (.cells #[.slice p.a0 D.nw p.c0, .slice p.a1 D.nm p.c1, .slice p.a2 D.n0 p.c2, .slice p.a3 D.n1 p.c3, .slice p.a4 D.n2 p.c4] 33) = Xz := ⟨_, rfl⟩
  obtain ⟨rd, hrd⟩ : ∃ xz, w.heap.size = xz := ⟨_, rfl⟩
  have hw1 : Below w.heap.size w W1 := by rw [← hW1]; exact (Below.refl _ _).alloc (Nat.le_refl _) _
  have HD := Lib.hid (by rw [← hW1, ← hrd]; exact alloc_new rfl : W1.heap[rd]? = some (.cells #[.slice p.a0 D.nw p.c0, .slice p.a1 D.nm p.c1, .slice p.a2 D.n0 p.c2, .slice p.a3 D.n1 p.c3, .slice p.a4 D.n2 p.c4] 33 (0, 0)))
  have EW1 := Lib.hid hW1
  have Erd := Lib.hid hrd
  clear hW1 hrd
  have HB := Lib.hid hw1
  have hrd : w.heap.size ≤ rd := Nat.le_of_eq Erd.out
  clear hd hc hsz hR hw1
  go_enter Tryd.func68, Tryd.ntmps68
  go_upto_region 1 with fail
  rw [EW1.out, Erd.out]
  go_wp2_with fail
  go_loopg [8, 9] L.length (fun g' s8 s9 wr => ∃ (i : Nat) (T : List Tk), i ≤ L.length ∧ g' = L.length - i ∧ s9 = .int .i64 i ∧ TRow' wr w.heap.size s8 T ∧ T.length ≤ i ∧ (T ++ (ofI D (L.drop i) fin).1 = R.1 ∧ i + (ofI D (L.drop i) fin).2 = R.2) ∧ wr.heap[rd]? = some (.cells #[.slice p.a0 D.nw p.c0, .slice p.a1 D.nm p.c1, .slice p.a2 D.n0 p.c2, .slice p.a3 D.n1 p.c3, .slice p.a4 D.n2 p.c4] 33 (0, 0)) ∧ Below w.heap.size w wr)
  case atStart => exact ⟨0, [], Nat.zero_le _, by omega, rfl, Seg.nil _ _ _ _, Nat.le_refl _, ⟨by rw [List.drop_zero, HR.out]; rfl, by rw [List.drop_zero, HR.out, Nat.zero_add]⟩, HD.out, HB.out⟩
  case round =>
    obtain ⟨i, T, hi, hg, rfl, hrow, hTi, hof, hdd, hb⟩ := hrel
    have HG := Lib.hid hg
    have HROW := Lib.hid hrow
    have HOF := Lib.hid hof
    have HD := Lib.hid hdd
    have HB := Lib.hid hb
    clear hg hrow hof hdd hb
    by_cases hlt : i < L.length
    · have hltz : (i : Int) < L.length := by omega
      obtain ⟨g, o, rfl, hic⟩ := HC.out (by omega)
      have HIC := Lib.hid hic
      have HN := Lib.hid (Next_calls D p wr g o c L i fin (HA.out.below HB.out) (hic.below HB.out) hlt (by omega))
      have hne : L.drop i ≠ [] := by
        intro h
        rw [List.drop_eq_nil_iff] at h
        omega
      cases hnx : nextI D (L.drop i) fin with
      | none =>
        have hof := HOF.out
        rw [ofI_none hnx, List.append_nil, Nat.add_zero] at hof
        rw [hnx] at HN
        have HOF2 := Lib.hid hof
        clear hof hnx hne hic
        simp only [nxV] at HN
        have d0 := cell_at HD.out 0
        have d1 := cell_at HD.out 1
        have d2 := cell_at HD.out 2
        have d3 := cell_at HD.out 3
        have d4 := cell_at HD.out 4
        have dz := lt_of_heap HD.out
        simp only [List.getElem?_toArray, List.getElem?_cons_zero, List.getElem?_cons_succ] at d0 d1 d2 d3 d4
        go_wp2_with fail
        refine HN.out.mono ?_
        rintro e W2 ⟨rfl, hb2⟩
        have HB := Lib.hid (chain HB.out hb2)
        have HROW := Lib.hid (HROW.out.below hb2)
        clear hb2 d0 d1 d2 d3 d4 dz
        go_wp2_with fail
        refine bodyPost_ret (v := .tuple #[u8, .int .i64 i]) (by simp [results, Tryd.results68, go_sem, *]) rfl (⟨u8, ?_, ?_, HB.out⟩)
        · rw [HOF2.out.2]
        · rw [← HOF2.out.1]
          exact HROW.out
      | some q =>
        obtain ⟨n, s⟩ := q
        obtain ⟨hn1, hn2, _, _⟩ := nextI_some hnx hne
        rw [List.length_drop] at hn2
        have hof := HOF.out
        rw [ofI_some hne hnx, List.drop_drop] at hof
        rw [getD_drop, getD_drop, Nat.add_zero] at hof
        have hsz1 := HSZ.out (i + (n - 1)) (by omega)
        rw [hnx] at HN
        simp only [nxV] at HN
        obtain ⟨x, hx⟩ : ∃ x, L.getD i default = x := ⟨_, rfl⟩
        obtain ⟨y, hy⟩ : ∃ y, L.getD (i + (n - 1)) default = y := ⟨_, rfl⟩
        rw [hx, hy] at hof
        rw [hy] at hsz1
        have HOF2 := Lib.hid hof
        have HX := Lib.hid hx
        have HY := Lib.hid hy
        have w1 : IntKind.i64.wrap ((i : Int) + n) = (i : Int) + n := i64w _ (by omega) (by omega)
        have w2 : IntKind.i64.wrap ((i : Int) + n - 1) = (i : Int) + n - 1 := i64w _ (by omega) (by omega)
        have w3 : IntKind.i64.wrap ((y.from' : Int) + y.bytes) = (y.from' : Int) + y.bytes := i64w _ (by omega) (by omega)
        have n1 : ((i : Int) + n - 1).toNat = i + (n - 1) := by omega
        have b1 : (i : Int) + n - 1 < L.length := by omega
        have b2 : (0 : Int) ≤ (i : Int) + n - 1 := by omega
        have b3 : ¬ ((i : Int) + n - 1 < 0) := by omega
        have hji : i + (n - 1) < L.length := by omega
        clear hof hnx hne hic hx hy
        have d0 := cell_at HD.out 0
        have d1 := cell_at HD.out 1
        have d2 := cell_at HD.out 2
        have d3 := cell_at HD.out 3
        have d4 := cell_at HD.out 4
        have dz := lt_of_heap HD.out
        simp only [List.getElem?_toArray, List.getElem?_cons_zero, List.getElem?_cons_succ] at d0 d1 d2 d3 d4
        go_wp2_with fail
        refine HN.out.mono ?_
        rintro e W2 ⟨rfl, hb2⟩
        have HD := Lib.hid ((hb2.block _ (lt_of_heap HD.out)).trans HD.out)
        have HB := Lib.hid (chain HB.out hb2)
        have HROW := Lib.hid (HROW.out.below hb2)
        clear hb2 d0 d1 d2 d3 d4 dz
        have hcc := HIC.out.below HB.out
        have cz := hcc.1
        obtain ⟨c0, c1, c2, c3⟩ := hcc.2 (i + (n - 1)) hji
        rw [HY.out] at c0 c1 c2 c3
        clear hcc
        obtain ⟨W3, hW3⟩ : ∃ Xz, W2.alloc (.cells #[.int .i64 y.from', .int .i64 y.bytes, .int .i32 y.rune, .bool y.bad] 166) = Xz := ⟨_, rfl⟩
        obtain ⟨bl, hbl⟩ : ∃ xz, W2.heap.size = xz := ⟨_, rfl⟩
        have hb3 : Below W2.heap.size W2 W3 := by rw [← hW3]; exact (Below.refl _ _).alloc (Nat.le_refl _) _
        have HL := Lib.hid (by rw [← hW3, ← hbl]; exact alloc_new rfl : W3.heap[bl]? = some (.cells #[.int .i64 y.from', .int .i64 y.bytes, .int .i32 y.rune, .bool y.bad] 166 (0, 0)))
        have EW3 := Lib.hid hW3
        have Ebl := Lib.hid hbl
        clear hW3 hbl
        go_upto_region 8 with fail
        rw [EW3.out, Ebl.out]
        have HD := Lib.hid ((hb3.block _ (lt_of_heap HD.out)).trans HD.out)
        have HB := Lib.hid (chain HB.out hb3)
        have HROW := Lib.hid (HROW.out.below hb3)
        clear hb3 c0 c1 c2 c3 cz
        have hcc := HIC.out.below HB.out
        have cz := hcc.1
        obtain ⟨c0, _, _, _⟩ := hcc.2 i hlt
        rw [HX.out] at c0
        clear hcc
        have l0 := cell_at HL.out 0
        have l1 := cell_at HL.out 1
        have lz := lt_of_heap HL.out
        simp only [List.getElem?_toArray, List.getElem?_cons_zero, List.getElem?_cons_succ] at l0 l1
        have HSS := Lib.hid (fun (w' : World) (h : w'.cell? ⟨g, o + i * 4, none⟩ = some (.int .i64 x.from') ∧ w'.heap[bl]? = some (.cells #[.int .i64 y.from', .int .i64 y.bytes, .int .i32 y.rune, .bool y.bad] 166 (0, 0)) ∧ Below w.heap.size w w') =>
          (⟨h.1, cell_at h.2.1 0, cell_at h.2.1 1, lt_of_heap h.2.1, h.2.2⟩ : w'.cell? ⟨g, o + i * 4, none⟩ = some (.int .i64 x.from') ∧ w'.cell? ⟨bl, 0, none⟩ = _ ∧ w'.cell? ⟨bl, 1, none⟩ = _ ∧ bl < w'.heap.size ∧ Below w.heap.size w w'))
        refine RGS_begin (fun w' => w'.cell? ⟨g, o + i * 4, none⟩ = some (.int .i64 x.from') ∧ w'.heap[bl]? = some (.cells #[.int .i64 y.from', .int .i64 y.bytes, .int .i32 y.rune, .bool y.bad] 166 (0, 0)) ∧ Below w.heap.size w w') 16 #[false, false, false, false, false, false, false, false, false, false, false, false, false, false, false, false] rfl rfl (by kernel_rfl) ⟨c0, HL.out, HB.out.drew⟩ (fun R hR => ?_)
        refine RGS_take (i := 0) (v := ?v8x0) (some 38) #[true, false, false, false, false, false, false, false, false, false, false, false, false, false, false, false] rfl rfl (by kernel_rfl) (by kernel_rfl) (by kernel_rfl) rfl rfl (fun w' hw' => ?h8x0) ?n8x0
        case h8x0 =>
          obtain ⟨q0, q1, q2, qz, _⟩ := HSS.out _ hw'
          go_simp
          try with_reducible rfl
        try simp only [Act.put, List.setIfInBounds_toArray, List.set_cons_zero, List.set_cons_succ]
        refine RGS_take (i := 1) (v := ?v8x1) (some 39) #[true, true, false, false, false, false, false, false, false, false, false, false, false, false, false, false] rfl rfl (by kernel_rfl) (by kernel_rfl) (by kernel_rfl) rfl rfl (fun w' hw' => ?h8x1) ?n8x1
        case h8x1 =>
          obtain ⟨q0, q1, q2, qz, _⟩ := HSS.out _ hw'
          go_simp
          try with_reducible rfl
        try simp only [Act.put, List.setIfInBounds_toArray, List.set_cons_zero, List.set_cons_succ]
        refine RGS_take (i := 2) (v := ?v8x2) (some 40) #[true, true, true, false, false, false, false, false, false, false, false, false, false, false, false, false] rfl rfl (by kernel_rfl) (by kernel_rfl) (by kernel_rfl) rfl rfl (fun w' hw' => ?h8x2) ?n8x2
        case h8x2 =>
          obtain ⟨q0, q1, q2, qz, _⟩ := HSS.out _ hw'
          go_simp
          try with_reducible rfl
        try simp only [Act.put, List.setIfInBounds_toArray, List.set_cons_zero, List.set_cons_succ]
        refine RGS_take (i := 3) (v := ?v8x3) (some 41) #[true, true, true, true, false, false, false, false, false, false, false, false, false, false, false, false] rfl rfl (by kernel_rfl) (by kernel_rfl) (by kernel_rfl) rfl rfl (fun w' hw' => ?h8x3) ?n8x3
        case h8x3 =>
          obtain ⟨q0, q1, q2, qz, _⟩ := HSS.out _ hw'
          go_simp
          try with_reducible rfl
        try simp only [Act.put, List.setIfInBounds_toArray, List.set_cons_zero, List.set_cons_succ]
        refine RGS_take (i := 4) (v := ?v8x4) (some 42) #[true, true, true, true, true, false, false, false, false, false, false, false, false, false, false, false] rfl rfl (by kernel_rfl) (by kernel_rfl) (by kernel_rfl) rfl rfl (fun w' hw' => ?h8x4) ?n8x4
        case h8x4 =>
          obtain ⟨q0, q1, q2, qz, _⟩ := HSS.out _ hw'
          go_simp
          try with_reducible rfl
        try simp only [Act.put, List.setIfInBounds_toArray, List.set_cons_zero, List.set_cons_succ]
        refine RGS_take (i := 5) (v := ?v8x5) (some 43) #[true, true, true, true, true, true, false, false, false, false, false, false, false, false, false, false] rfl rfl (by kernel_rfl) (by kernel_rfl) (by kernel_rfl) rfl rfl (fun w' hw' => ?h8x5) ?n8x5
        case h8x5 =>
          obtain ⟨q0, q1, q2, qz, _⟩ := HSS.out _ hw'
          go_simp
          try with_reducible rfl
        try simp only [Act.put, List.setIfInBounds_toArray, List.set_cons_zero, List.set_cons_succ]
        refine RGS_take (i := 6) (v := ?v8x6) (some 44) #[true, true, true, true, true, true, true, false, false, false, false, false, false, false, false, false] rfl rfl (by kernel_rfl) (by kernel_rfl) (by kernel_rfl) rfl rfl (fun w' hw' => ?h8x6) ?n8x6
        case h8x6 =>
          obtain ⟨q0, q1, q2, qz, _⟩ := HSS.out _ hw'
          go_simp
          try with_reducible rfl
        try simp only [Act.put, List.setIfInBounds_toArray, List.set_cons_zero, List.set_cons_succ]
        refine RGS_take (i := 7) (v := ?v8x7) (some 45) #[true, true, true, true, true, true, true, true, false, false, false, false, false, false, false, false] rfl rfl (by kernel_rfl) (by kernel_rfl) (by kernel_rfl) rfl rfl (fun w' hw' => ?h8x7) ?n8x7
        case h8x7 =>
          obtain ⟨q0, q1, q2, qz, _⟩ := HSS.out _ hw'
          go_simp
          try with_reducible rfl
        try simp only [Act.put, List.setIfInBounds_toArray, List.set_cons_zero, List.set_cons_succ]
        refine RGS_take (i := 8) (v := ?v8x8) (some 46) #[true, true, true, true, true, true, true, true, true, false, false, false, false, false, false, false] rfl rfl (by kernel_rfl) (by kernel_rfl) (by kernel_rfl) rfl rfl (fun w' hw' => ?h8x8) ?n8x8
        case h8x8 =>
          obtain ⟨q0, q1, q2, qz, _⟩ := HSS.out _ hw'
          go_simp
          try with_reducible rfl
        try simp only [Act.put, List.setIfInBounds_toArray, List.set_cons_zero, List.set_cons_succ]
        refine RGS_take (i := 9) (v := ?v8x9) (some 47) #[true, true, true, true, true, true, true, true, true, true, false, false, false, false, false, false] rfl rfl (by kernel_rfl) (by kernel_rfl) (by kernel_rfl) rfl rfl (fun w' hw' => ?h8x9) ?n8x9
        case h8x9 =>
          obtain ⟨q0, q1, q2, qz, _⟩ := HSS.out _ hw'
          go_simp
          try with_reducible rfl
        try simp only [Act.put, List.setIfInBounds_toArray, List.set_cons_zero, List.set_cons_succ]
        refine RGS_take (i := 10) (v := ?v8x10) (some 48) #[true, true, true, true, true, true, true, true, true, true, true, false, false, false, false, false] rfl rfl (by kernel_rfl) (by kernel_rfl) (by kernel_rfl) rfl rfl (fun w' hw' => ?h8x10) ?n8x10
        case h8x10 =>
          obtain ⟨q0, q1, q2, qz, _⟩ := HSS.out _ hw'
          go_simp
          try with_reducible rfl
        try simp only [Act.put, List.setIfInBounds_toArray, List.set_cons_zero, List.set_cons_succ]
        refine RGS_take (i := 11) (v := ?v8x11) (some 49) #[true, true, true, true, true, true, true, true, true, true, true, true, false, false, false, false] rfl rfl (by kernel_rfl) (by kernel_rfl) (by kernel_rfl) rfl rfl (fun w' hw' => ?h8x11) ?n8x11
        case h8x11 =>
          obtain ⟨q0, q1, q2, qz, _⟩ := HSS.out _ hw'
          go_simp
          try with_reducible rfl
        try simp only [Act.put, List.setIfInBounds_toArray, List.set_cons_zero, List.set_cons_succ]
        refine RGS_take (i := 12) (v := ?v8x12) (some 50) #[true, true, true, true, true, true, true, true, true, true, true, true, true, false, false, false] rfl rfl (by kernel_rfl) (by kernel_rfl) (by kernel_rfl) rfl rfl (fun w' hw' => ?h8x12) ?n8x12
        case h8x12 =>
          obtain ⟨q0, q1, q2, qz, _⟩ := HSS.out _ hw'
          go_simp
          try with_reducible rfl
        try simp only [Act.put, List.setIfInBounds_toArray, List.set_cons_zero, List.set_cons_succ]
        have hbd : Below W3.heap.size W3 W3.drew := (Below.refl _ _).drew
        obtain ⟨W4, hW4⟩ : ∃ W4, W3.drew = W4 := ⟨_, rfl⟩
        rw [hW4] at hbd ⊢
        have HB := Lib.hid (chain HB.out hbd)
        have HROW := Lib.hid (HROW.out.below hbd)
        have HD := Lib.hid ((hbd.block _ (lt_of_heap HD.out)).trans HD.out)
        have HL := Lib.hid ((hbd.block _ (lt_of_heap HL.out)).trans HL.out)
        have hg0 := HIC.out.1
        have HC0 := Lib.hid (fun (w' : World) (h : Below w.heap.size w w') => by have h1 := (HIC.out.below h).2 i hlt; rw [HX.out] at h1; exact h1.1 : ∀ w', Below w.heap.size w w' → w'.cell? ⟨g, o + i * 4, none⟩ = some (.int .i64 x.from'))
        clear hW4 hbd c0 cz l0 l1 lz
        obtain ⟨W5, hW5⟩ : ∃ Xz, W4.alloc (.cells #[.int .i64 x.from', .int .i64 ((y.from' : Int) + y.bytes), .int .i64 s] 126) = Xz := ⟨_, rfl⟩
        obtain ⟨bb, hbb⟩ : ∃ xz, W4.heap.size = xz := ⟨_, rfl⟩
        have hb5 : Below W4.heap.size W4 W5 := by rw [← hW5]; exact (Below.refl _ _).alloc (Nat.le_refl _) _
        have HV := Lib.hid (by rw [← hW5, ← hbb]; exact alloc_new rfl : W5.heap[bb]? = some (.cells #[.int .i64 x.from', .int .i64 ((y.from' : Int) + y.bytes), .int .i64 s] 126 (0, 0)))
        have EW5 := Lib.hid hW5
        have Ebb := Lib.hid hbb
        clear hW5 hbb
        obtain ⟨v', A2, hrun, hrow2, hb2, hkp⟩ := TRow'.next (w0 := w) ⟨x.from', y.from' + y.bytes, s⟩ (chain HB.out hb5) (HROW.out.below hb5) (by simp only [Int.natCast_add]; exact HV.out) (by omega) 39
        have HD := Lib.hid ((hb5.block _ (lt_of_heap HD.out)).trans HD.out)
        have HL := Lib.hid ((hb5.block _ (lt_of_heap HL.out)).trans HL.out)
        have HB := Lib.hid (chain HB.out hb5)
        have HL2 := Lib.hid (hkp bl _ _ (by decide) HL.out)
        have HD2 := Lib.hid (hkp rd _ _ (by decide) HD.out)
        have HRUN := Lib.hid hrun
        have HROW2 := Lib.hid hrow2
        have HB2 := Lib.hid hb2
        clear hrun hrow2 hb2 hkp hb5
        refine RGS_one (i := 13) #[true, true, true, true, true, true, true, true, true, true, true, true, true, true, false, false] rfl (by kernel_rfl) rfl rfl (fun K hK => ?_)
        go_wp2
        rw [EW5.out, Ebb.out]
        refine hK _ _ ⟨HC0.out _ HB.out, HL.out, HB.out⟩ ?_
        clear hK K
        try simp only [Act.put, List.setIfInBounds_toArray, List.set_cons_zero, List.set_cons_succ]
        refine RGS_one (i := 14) #[true, true, true, true, true, true, true, true, true, true, true, true, true, true, true, false] rfl (by kernel_rfl) rfl rfl (fun K hK => ?_)
        refine append_op rfl rfl rfl HRUN.out (hK _ _ ⟨HC0.out _ HB2.out, HL2.out, HB2.out⟩ ?_)
        clear hK K
        try simp only [Act.put, List.setIfInBounds_toArray]
        refine RGS_one (i := 15) #[true, true, true, true, true, true, true, true, true, true, true, true, true, true, true, true] rfl (by kernel_rfl) rfl rfl (fun K hK => ?_)
        go_wp2
        refine hK _ _ ⟨HC0.out _ HB2.out, HL2.out, HB2.out⟩ ?_
        clear hK K
        refine RGS_done (by kernel_rfl) (hR _ _ ?_)
        go_wp2_with fail
        go_roundg (L.length - (i + n))
        case measure => have := HG.out; omega
        case rel =>
          refine ⟨i + n, T ++ [⟨x.from', y.from' + y.bytes, s⟩], by omega, rfl, by go_num, HROW2.out, by rw [List.length_append]; simp; omega, ⟨?_, ?_⟩, HD2.out, HB2.out⟩
          · rw [List.append_assoc]
            exact HOF2.out.1
          · rw [Nat.add_assoc]
            exact HOF2.out.2
    · have hil : i = L.length := by omega
      subst hil
      have hof := HOF.out
      rw [List.drop_length, ofI_nil, List.append_nil, Nat.add_zero] at hof
      have HOF2 := Lib.hid hof
      clear hof
      go_wp2_with fail
      refine bodyPost_ret (v := .tuple #[u8, .int .i64 L.length]) (by simp [results, Tryd.results68, go_sem, *]) rfl (⟨u8, ?_, ?_, HB.out⟩)
      · rw [HOF2.out.2]
      · rw [← HOF2.out.1]
        exact HROW.out
end Go.Proofs.YtendkmldecoogaaDoor.RefOf
namespace Go.Proofs.YtendkmldecoogaaDoor.RefTok
open Go Go.RowKit Go.Proofs.YtendkmldecoogaaDoor.Kit Go.Proofs.YtendkmldecoogaaDoor.Utf Go.Proofs.YtendkmldecoogaaDoor.It Go.Proofs.YtendkmldecoogaaDoor.ItGo Go.Proofs.YtendkmldecoogaaDoor.Dt Go.Proofs.YtendkmldecoogaaDoor.Cu Go.Proofs.YtendkmldecoogaaDoor.CutAll Go.Proofs.YtendkmldecoogaaDoor.CutTokens Go.Proofs.YtendkmldecoogaaDoor.Ref2c Go.Proofs.YtendkmldecoogaaDoor.Ref12 Go.Proofs.YtendkmldecoogaaDoor.RefShort Go.Proofs.YtendkmldecoogaaDoor.RefNext Go.Proofs.YtendkmldecoogaaDoor.RefOf
attribute [local irreducible] wpQuiet

theorem items_small (l : List UInt8) : ∀ (a j : Nat), j < (items a l).length → ((items a l).getD j default).from' ≤ a + l.length ∧ ((items a l).getD j default).bytes ≤ 4 := by
  intro a j hj
  have h1 := from_at hj
  have h2 := sum_take_le j a l
  rw [h1]
  refine ⟨?_, ?_⟩
  · show a + sum ((items a l).take j) ≤ _
    omega
  · rw [one_bytes]
    rcases width_cases (l.drop (sum ((items a l).take j))) with h | h | h | h | h <;> (split <;> omega)

set_option maxHeartbeats 4000000 in
set_option maxRecDepth 100000 in
theorem Tokens_calls (D : Dt) (p : Pl) (s : ByteArray) (w : World) (hd : At w D p) (hs : s.size ≤ 1000000) :
    Calls Tryd.prog 24 #[.agg #[.slice p.a0 D.nw p.c0, .slice p.a1 D.nm p.c1, .slice p.a2 D.n0 p.c2, .slice p.a3 D.n1 p.c3, .slice p.a4 D.n2 p.c4], .string s] w fun e w' => ∃ v, e = .returned v ∧ TRow' w' w.heap.size v (toks D 0 s.data.toList) ∧ Below w.heap.size w w' := by
  have HA := Lib.hid hd
  obtain ⟨W1, hW1⟩ : ∃ Xz, w.alloc (.cells #[.slice p.a0 D.nw p.c0, .slice p.a1 D.nm p.c1, .slice p.a2 D.n0 p.c2, .slice p.a3 D.n1 p.c3, .slice p.a4 D.n2 p.c4] 33) = Xz := ⟨_, rfl⟩
  obtain ⟨rd, hrd⟩ : ∃ xz, w.heap.size = xz := ⟨_, rfl⟩
  have hw1 : Below w.heap.size w W1 := by rw [← hW1]; exact (Below.refl _ _).alloc (Nat.le_refl _) _
  have HD := Lib.hid (by rw [← hW1, ← hrd]; exact alloc_new rfl : W1.heap[rd]? = some (.cells #[.slice p.a0 D.nw p.c0, .slice p.a1 D.nm p.c1, .slice p.a2 D.n0 p.c2, .slice p.a3 D.n1 p.c3, .slice p.a4 D.n2 p.c4] 33 (0, 0)))
  have EW1 := Lib.hid hW1
  have Erd := Lib.hid hrd
  clear hW1 hrd
  have HB := Lib.hid hw1
  clear hd hw1
  have HSS := Lib.hid (fun (w' : World) (h : w'.heap[rd]? = some (.cells #[.slice p.a0 D.nw p.c0, .slice p.a1 D.nm p.c1, .slice p.a2 D.n0 p.c2, .slice p.a3 D.n1 p.c3, .slice p.a4 D.n2 p.c4] 33 (0, 0)) ∧ Below w.heap.size w w') =>
    (⟨cell_at h.1 0, cell_at h.1 1, cell_at h.1 2, cell_at h.1 3, cell_at h.1 4, lt_of_heap h.1⟩ : w'.cell? ⟨rd, 0, none⟩ = _ ∧ w'.cell? ⟨rd, 1, none⟩ = _ ∧ w'.cell? ⟨rd, 2, none⟩ = _ ∧ w'.cell? ⟨rd, 3, none⟩ = _ ∧ w'.cell? ⟨rd, 4, none⟩ = _ ∧ rd < w'.heap.size))
  go_enter Tryd.func24, Tryd.ntmps24
  go_upto_region 1 with fail
  rw [EW1.out, Erd.out]
  refine RGS_begin (fun w' => w'.heap[rd]? = some (.cells #[.slice p.a0 D.nw p.c0, .slice p.a1 D.nm p.c1, .slice p.a2 D.n0 p.c2, .slice p.a3 D.n1 p.c3, .slice p.a4 D.n2 p.c4] 33 (0, 0)) ∧ Below w.heap.size w w') 9 #[false, false, false, false, false, false, false, false, false] rfl rfl (by kernel_rfl) ⟨HD.out, HB.out.drew⟩ (fun R hR => ?_)
  refine RGS_take (i := 0) (v := ?v0) (some 8) #[true, false, false, false, false, false, false, false, false] rfl rfl (by kernel_rfl) (by kernel_rfl) (by kernel_rfl) rfl rfl (fun w' hw' => ?h0) ?n0
  case h0 =>
    obtain ⟨q0, q1, q2, q3, q4, qz⟩ := HSS.out _ hw'
    go_simp
    try with_reducible rfl
  try simp only [Act.put, List.setIfInBounds_toArray, List.set_cons_zero, List.set_cons_succ]
  refine RGS_take (i := 1) (v := ?v1) (some 9) #[true, true, false, false, false, false, false, false, false] rfl rfl (by kernel_rfl) (by kernel_rfl) (by kernel_rfl) rfl rfl (fun w' hw' => ?h1) ?n1
  case h1 =>
    obtain ⟨q0, q1, q2, q3, q4, qz⟩ := HSS.out _ hw'
    go_simp
    try with_reducible rfl
  try simp only [Act.put, List.setIfInBounds_toArray, List.set_cons_zero, List.set_cons_succ]
  have hbd : Below W1.heap.size W1 W1.drew := (Below.refl _ _).drew
  obtain ⟨W4, hW4⟩ : ∃ W4, W1.drew = W4 := ⟨_, rfl⟩
  rw [hW4] at hbd ⊢
  have HD := Lib.hid ((hbd.block _ (lt_of_heap HD.out)).trans HD.out)
  have HB := Lib.hid (chain HB.out hbd)
  clear hW4 hbd
  refine RGS_one (i := 2) #[true, true, true, false, false, false, false, false, false] rfl (by kernel_rfl) rfl rfl (fun K hK => ?_)
  go_wp2_with fail
  refine (Items_calls s W4 (by omega)).mono ?_
  rintro e W5 ⟨v, rfl, hrow, hb5⟩
  have HD := Lib.hid ((hb5.block _ (lt_of_heap HD.out)).trans HD.out)
  have HB := Lib.hid (chain HB.out hb5)
  have HB5 := HB
  refine hK _ _ ⟨HD.out, HB.out⟩ ?_
  clear hK K hb5
  try simp only [Act.put, List.setIfInBounds_toArray, List.set_cons_zero, List.set_cons_succ]
  have hlen := items_len s.data.toList 0
  rw [size_list] at hlen
  have hsm := items_small s.data.toList 0
  rw [size_list] at hsm
  obtain ⟨L, hL⟩ : ∃ L, items 0 s.data.toList = L := ⟨_, rfl⟩
  have htk : toks D 0 s.data.toList = (ofI D L true).1 := by unfold toks; rw [hL]
  have HTK := Lib.hid htk
  rw [hL] at hrow hlen hsm
  clear htk hL
  have hcc : 0 < L.length → ∃ g o c, v = .slice (some ⟨g, o, none⟩) L.length c ∧ L.length ≤ c ∧ W4.heap.size ≤ g ∧ ICells W5 g o L := fun h => IRow.cells hrow h
  obtain ⟨a, c, rfl, _, _, _⟩ := Seg.Seg.shape hrow
  have HOF := Lib.hid (RefOf.Of_calls D p W5 a c L true (HA.out.below HB.out) (fun h => by
    obtain ⟨g, o, c', h1, _, _, h2⟩ := hcc h
    simp only [Value.slice.injEq, true_and] at h1
    exact ⟨g, o, h1.1, h2⟩) (by omega) (fun j hj => by have := hsm j hj; omega))
  clear hcc hrow hsm hlen
  refine RGS_one (i := 3) #[true, true, true, true, false, false, false, false, false] rfl (by kernel_rfl) rfl rfl (fun K hK => ?_)
  go_wp2_with fail
  refine HOF.out.mono ?_
  rintro e W6 ⟨v2, rfl, hrow2, hb6⟩
  have HD := Lib.hid ((hb6.block _ (lt_of_heap HD.out)).trans HD.out)
  have HB := Lib.hid (chain HB.out hb6)
  have HROW2 := Lib.hid (Seg.Seg.rebase hrow2 (base' := w.heap.size) (fun b hb => by have h1 := (hrow2.lt b hb).1; have h2 := HB5.out.size; omega))
  refine hK _ _ ⟨HD.out, HB.out⟩ ?_
  clear hK K hb6 hrow2
  try simp only [Act.put, List.setIfInBounds_toArray, List.set_cons_zero, List.set_cons_succ]
  refine RGS_take (i := 4) (v := ?v4) (some 7) #[true, true, true, true, true, false, false, false, false] rfl rfl (by kernel_rfl) (by kernel_rfl) (by kernel_rfl) rfl rfl (fun w' hw' => ?h4) ?n4
  case h4 =>
    go_simp
    try with_reducible rfl
  try simp only [Act.put, List.setIfInBounds_toArray, List.set_cons_zero, List.set_cons_succ]
  refine RGS_take (i := 5) (v := ?v5) (some 12) #[true, true, true, true, true, true, false, false, false] rfl rfl (by kernel_rfl) (by kernel_rfl) (by kernel_rfl) rfl rfl (fun w' hw' => ?h5) ?n5
  case h5 =>
    go_simp
    try with_reducible rfl
  try simp only [Act.put, List.setIfInBounds_toArray, List.set_cons_zero, List.set_cons_succ]
  refine RGS_take (i := 6) (v := ?v6) (some 13) #[true, true, true, true, true, true, true, false, false] rfl rfl (by kernel_rfl) (by kernel_rfl) (by kernel_rfl) rfl rfl (fun w' hw' => ?h6) ?n6
  case h6 =>
    go_simp
    try with_reducible rfl
  try simp only [Act.put, List.setIfInBounds_toArray, List.set_cons_zero, List.set_cons_succ]
  refine RGS_take (i := 7) (v := ?v7) (some 5) #[true, true, true, true, true, true, true, true, false] rfl rfl (by kernel_rfl) (by kernel_rfl) (by kernel_rfl) rfl rfl (fun w' hw' => ?h7) ?n7
  case h7 =>
    go_simp
    try with_reducible rfl
  try simp only [Act.put, List.setIfInBounds_toArray, List.set_cons_zero, List.set_cons_succ]
  refine RGS_take (i := 8) (v := ?v8) (some 6) #[true, true, true, true, true, true, true, true, true] rfl rfl (by kernel_rfl) (by kernel_rfl) (by kernel_rfl) rfl rfl (fun w' hw' => ?h8) ?n8
  case h8 =>
    go_simp
    try with_reducible rfl
  try simp only [Act.put, List.setIfInBounds_toArray, List.set_cons_zero, List.set_cons_succ]
  refine RGS_done (by kernel_rfl) (hR _ _ ?_)
  go_wp2_with fail
  go_ret
  exact ⟨v2, rfl, by rw [HTK.out]; exact HROW2.out, HB.out⟩
end Go.Proofs.YtendkmldecoogaaDoor.RefTok
