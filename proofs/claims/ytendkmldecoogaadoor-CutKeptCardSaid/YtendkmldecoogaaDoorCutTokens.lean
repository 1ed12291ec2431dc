/-
  cut.Tokens.
-/
import Derived.Test.YtendkmldecoogaaDoorCutAll
import Derived.Test.YtendkmldecoogaaDoorCollect
namespace Go.Proofs.YtendkmldecoogaaDoor.CutTokens
open Go Go.RowKit Go.Proofs.YtendkmldecoogaaDoor.Kit Go.Proofs.YtendkmldecoogaaDoor.Range Go.Proofs.YtendkmldecoogaaDoor.Round Go.Proofs.YtendkmldecoogaaDoor.Seg Go.Proofs.YtendkmldecoogaaDoor.Collect Go.Proofs.YtendkmldecoogaaDoor.Utf Go.Proofs.YtendkmldecoogaaDoor.It Go.Proofs.YtendkmldecoogaaDoor.ItGo Go.Proofs.YtendkmldecoogaaDoor.Dt Go.Proofs.YtendkmldecoogaaDoor.Mo Go.Proofs.YtendkmldecoogaaDoor.MoNew Go.Proofs.YtendkmldecoogaaDoor.Cu Go.Proofs.YtendkmldecoogaaDoor.CutRun Go.Proofs.YtendkmldecoogaaDoor.CutNext Go.Proofs.YtendkmldecoogaaDoor.CutAll
attribute [local irreducible] wpQuiet
attribute [local go_sem] Oper.semAt_some

/-- Pre-tokens' cells. -/
def flat (T : List Tk) : List Value := T.flatMap fun t => [.int .i64 t.a, .int .i64 t.b, .int .i64 t.s]
theorem flat_len : ∀ T, (flat T).length = T.length * 3
  | [] => rfl
  | t :: T => by
    have := flat_len T
    unfold flat at this ⊢
    rw [List.flatMap_cons, List.length_append, this]
    simp; omega
theorem flat_append (S T : List Tk) : flat (S ++ T) = flat S ++ flat T := by simp [flat]
theorem flat_at {T : List Tk} : ∀ {i : Nat}, i < T.length → (flat T)[i * 3]? = some (.int .i64 (T.getD i default).a) ∧ (flat T)[i * 3 + 1]? = some (.int .i64 (T.getD i default).b) ∧ (flat T)[i * 3 + 2]? = some (.int .i64 (T.getD i default).s) := by
  induction T with
  | nil => intro i h; simp at h
  | cons t T ih =>
    intro i h
    cases i with
    | zero => exact ⟨rfl, rfl, rfl⟩
    | succ i =>
      have h1 := ih (i := i) (by simpa using h)
      have e : ∀ j, (flat (t :: T))[(i + 1) * 3 + j]? = (flat T)[i * 3 + j]? := fun j => by
        rw [show (i + 1) * 3 + j = (i * 3 + j) + 3 by omega]
        rfl
      have e0 := e 0
      simp only [Nat.add_zero] at e0
      rw [e0, e 1, e 2]
      simpa using h1

/-- A list of pre-tokens of the call's own. -/
def TRow (w : World) (base : Nat) (v : Value) (T : List Tk) : Prop := Seg w base 49 3 v T.length (flat T)

theorem TRow.below {w w' : World} {base : Nat} {v : Value} {T : List Tk} (h : TRow w base v T) (hb : Below w.heap.size w w') : TRow w' base v T := Seg.below h hb
theorem TRow.shape {w : World} {base : Nat} {v : Value} {T : List Tk} (h : TRow w base v T) : ∃ a cap, v = .slice a T.length cap ∧ T.length ≤ cap ∧ ∀ i, i < T.length → ∃ g o, a = some ⟨g, o, none⟩ ∧ base ≤ g ∧ g < w.heap.size ∧
    ∀ i, i < T.length → w.cell? ⟨g, o + i * 3, none⟩ = some (.int .i64 (T.getD i default).a) ∧ w.cell? ⟨g, o + i * 3 + 1, none⟩ = some (.int .i64 (T.getD i default).b) ∧ w.cell? ⟨g, o + i * 3 + 2, none⟩ = some (.int .i64 (T.getD i default).s) := by
  obtain ⟨a, cap, rfl, h1, _, _⟩ := Seg.shape h
  refine ⟨a, cap, rfl, h1, fun i hi => ?_⟩
  obtain ⟨g, o, h2, h3, h4, h5⟩ := Seg.cells h (by omega)
  refine ⟨g, o, h2, h3, h4, fun i hi => ?_⟩
  obtain ⟨f1, f2, f3⟩ := flat_at hi
  exact ⟨h5 _ _ f1, by rw [Nat.add_assoc]; exact h5 _ _ f2, by rw [Nat.add_assoc]; exact h5 _ _ f3⟩

theorem elemT : Elem Tryd.prog 22 49 (.agg #[.int .i64 0, .int .i64 0, .int .i64 0]) 3 24 := ⟨Tryd.underlying22, by kernel_rfl, rfl, by decide⟩
theorem flat_take {T : List Tk} {k : Nat} (h : k < T.length) : flat (T.take (k + 1)) = flat (T.take k) ++ [.int .i64 (T.getD k default).a, .int .i64 (T.getD k default).b, .int .i64 (T.getD k default).s] := by
  rw [List.take_add_one, flat_append]
  simp [flat, List.getD, h]
theorem toks_len (D : Dt) (hg : Good.Good D) (l : List UInt8) : ∀ a, (toks D a l).length ≤ l.length := by
  generalize hn : l.length = n
  induction n using Nat.strongRecOn generalizing l with
  | _ n ih =>
    intro a
    by_cases hl : l = []
    · subst hl; simp [toks_nil]
    · obtain ⟨h1, h2, h3, _⟩ := toks_cons hg a hl
      rw [h1, List.length_cons]
      have := ih _ (by rw [← hn, List.length_drop]; omega) (l.drop (nextB D l).1) rfl (a + (nextB D l).1)
      rw [List.length_drop] at this
      omega

theorem All_new (mb : Nat) (s : ByteArray) (w : World) : Calls Tryd.prog 25 #[.pointer (some ⟨mb, 0, none⟩), .string s] w fun e w' => ∃ bm bs,
    e = .returned (.func (.func 70) #[] #[.pointer (some ⟨bm, 0, none⟩), .pointer (some ⟨bs, 0, none⟩)]) ∧ w'.heap[bm]? = some (.cells #[.pointer (some ⟨mb, 0, none⟩)] 26 (0, 0)) ∧ w'.heap[bs]? = some (.cells #[.string s] 9 (0, 0)) ∧ w.heap.size ≤ bm ∧ bm < bs ∧ Below w.heap.size w w' := by
  refine (CutAll.All_calls mb s w).mono ?_
  rintro e w' ⟨rfl, rfl⟩
  refine ⟨_, _, rfl, ?_, alloc_new (by simp), Nat.le_refl _, by omega, ((Below.refl _ _).alloc (Nat.le_refl _) _).alloc (by simp) _⟩
  rw [alloc_old (by simp), alloc_new rfl]

set_option maxHeartbeats 2000000 in
set_option maxRecDepth 100000 in
theorem Tokens_calls (D : Dt) (mb : Nat) (s : ByteArray) (w : World) (h : Mod w mb D) (hT : Tabs w) (hl : s.size ≤ 1048576) :
    Calls Tryd.prog 18 #[.pointer (some ⟨mb, 0, none⟩), .string s] w fun e w' => ∃ v, e = .returned (.tuple #[v, .int .i64 0]) ∧ TRow w' w.heap.size v (toks D 0 s.data.toList) ∧ Below w.heap.size w w' := by
  have HM := Lib.hid h
  have HT := Lib.hid hT
  have hsz := size_list s
  have hlen := toks_len D (Good.of_mod h) s.data.toList 0
  rw [hsz] at hlen
  have hl' : ¬ ((1048576 : Int) < s.size) := by omega
  clear h hT hsz
  refine calls_of_wp_marks Tryd.func18 rfl ?_
  simp only [Tryd.ntmps18, List.size_toArray, List.length_cons, List.length_nil, Nat.reduceAdd, Nat.reduceSub, Array.replicate_succ, Array.replicate_zero, List.push_toArray, List.append_toArray, List.nil_append, List.cons_append]
  obtain ⟨W1, hW1⟩ : ∃ Xz, w.alloc (.cells #[.slice none 0 0] 22) = Xz := ⟨_, rfl⟩
  obtain ⟨bl, hbl⟩ : ∃ xz, w.heap.size = xz := ⟨_, rfl⟩
  have hb1 : Below w.heap.size w W1 := by rw [← hW1]; exact (Below.refl _ _).alloc (Nat.le_refl _) _
  have HL := Lib.hid (by rw [← hW1, ← hbl]; exact alloc_new rfl : W1.heap[bl]? = some (.cells #[.slice none 0 0] 22 (0, 0)))
  have EW1 := Lib.hid hW1
  have Ebl := Lib.hid hbl
  clear hW1 hbl
  have o1 : w.heap.size ≤ bl := Nat.le_of_eq Ebl.out
  have HB := Lib.hid hb1
  clear hb1
  go_wp2_with fail
  rw [EW1.out, Ebl.out]
  refine (All_new mb s W1).mono ?_
  rintro e W2 ⟨bm, bs, rfl, hbm, hbs, o2, o3, hb2⟩
  have HMB := Lib.hid hbm
  have HSB := Lib.hid hbs
  have o4 : bl < bm := Nat.lt_of_lt_of_le (lt_of_heap HL.out) o2
  have o5 : bs < W2.heap.size := lt_of_heap hbs
  have HL := Lib.hid ((hb2.block _ (lt_of_heap HL.out)).trans HL.out)
  have HB := Lib.hid (chain HB.out hb2)
  clear hbm hbs o2 hb2
  go_wp2_with fail
  refine range_outer (w0 := W2) (N := (toks D 0 s.data.toList).length) (Cap := fun b => b < w.heap.size ∨ b = bm ∨ b = bs) (gf := 70) (lb := #[.pointer (some ⟨bm, 0, none⟩), .pointer (some ⟨bs, 0, none⟩)]) (encs := fun k => #[encT ((toks D 0 s.data.toList).getD k default)]) rfl (Go.Proofs.enters_of Tryd.func70 (by kernel_rfl) rfl)
    (all_iter D mb w W2 bm bs s HM.out HT.out HB.out HMB.out HSB.out hl) (Below.refl _ _) (fun _ => rfl) ?cap
    (fun k S W => ∃ v, (∀ b, S b ↔ b = bl ∨ v.ownBlock = some b) ∧ Col 22 49 3 k (flat ((toks D 0 s.data.toList).take k)) bl W2 v W)
    (fun c k S W => False)
    ?ki ?kx (fun b => b = bl) ⟨.slice none 0 0, fun b => by simp [Value.ownBlock], ⟨Upd.refl _ _, HL.out, Seg.nil _ _ _ _⟩⟩ ?s0 ?round ?done ?stop
  case cap =>
    have := HB.out.size
    rintro b (h | rfl | rfl) <;> omega
  case ki =>
    rintro k S A B ⟨v, hS, hst⟩ hu
    exact ⟨v, hS, hst.keep hu (fun h => h.2 ((hS _).2 (.inl rfl))) (fun b hb h => h.2 ((hS _).2 (.inr hb))) (fun b hb h => by have := h.1; omega)⟩
  case kx =>
    rintro c k S A B h hu
    exact h
  case s0 =>
    rintro b rfl
    exact ⟨by omega, by omega⟩
  case round =>
    rintro l k S A hk ⟨v, hS, hst⟩ h1 h2 h3 h4 h5 h6
    obtain ⟨x, hx⟩ : ∃ x, (toks D 0 s.data.toList).getD k default = x := ⟨_, rfl⟩
    rw [hx]
    unfold encT
    obtain ⟨A1, hA1⟩ : ∃ Xz, A.alloc (.cells #[.int .i64 x.a, .int .i64 x.b, .int .i64 x.s] 49) = Xz := ⟨_, rfl⟩
    obtain ⟨bt, hbt⟩ : ∃ xz, A.heap.size = xz := ⟨_, rfl⟩
    have hbA : Below A.heap.size A A1 := by rw [← hA1]; exact (Below.refl _ _).alloc (Nat.le_refl _) _
    have HV := Lib.hid (by rw [← hA1, ← hbt]; exact alloc_new rfl : A1.heap[bt]? = some (.cells #[.int .i64 x.a, .int .i64 x.b, .int .i64 x.s] 49 (0, 0)))
    have EA1 := Lib.hid hA1
    have Ebt := Lib.hid hbt
    clear hA1 hbt
    have HX0 := Lib.hid hx
    have H6 := Lib.hid h6
    clear hx hst h5 h6 hS
    gi_wp2
    rw [EA1.out, Ebt.out]
    rw [Ebt.out] at hbA
    refine ⟨hbA, fun A2 hu hz hI2 hr2 => ?_⟩
    obtain ⟨v2, hS2, hst2⟩ := hI2
    have HST := Lib.hid hst2
    have HS2 := Lib.hid hS2
    have HVV := Lib.hid (Upd.mem hu HV.out (by have := Ebt.out; omega))
    have oA : A.heap.size = bt := Ebt.out
    clear hS2 hst2 hr2 hu hz hbA
    obtain ⟨A3, hA3⟩ : ∃ Xz, A2.alloc (.cells #[.int .i64 x.a, .int .i64 x.b, .int .i64 x.s] 49) = Xz := ⟨_, rfl⟩
    obtain ⟨bq, hbq⟩ : ∃ xz, A2.heap.size = xz := ⟨_, rfl⟩
    have hbn : Below A2.heap.size A2 A3 := by rw [← hA3]; exact (Below.refl _ _).alloc (Nat.le_refl _) _
    have HN := Lib.hid (by rw [← hA3, ← hbq]; exact alloc_new rfl : A3.heap[bq]? = some (.cells #[.int .i64 x.a, .int .i64 x.b, .int .i64 x.s] 49 (0, 0)))
    have EA3 := Lib.hid hA3
    have Ebq := Lib.hid hbq
    clear hA3 hbq
    obtain ⟨v3, A4, hrun, hcl, hcol, hu4, hown, ⟨av, cv, hvv⟩, hzz⟩ := Col.next elemT (HST.out.below hbn) HN.out rfl (by simp [Value.oneCell']) (by unfold maxLen; omega) (by omega) (by omega) 22
    subst hvv
    have HCOL := Lib.hid hcol
    have HCL := Lib.hid hcl
    have HU4 := Lib.hid hu4
    have HOWN := Lib.hid hown
    have HC0 := Lib.hid HST.out.c
    have o6 := hbn.size
    have HBN := Lib.hid hbn
    rw [← EA3.out, ← Ebq.out] at hrun
    clear hcol hcl hu4 hown hbn
    have c0 := cell_at HC0.out 0
    have cz := lt_of_heap HC0.out
    simp only [List.getElem?_toArray, List.getElem?_cons_zero] at c0
    have q0 := cell_at HCL.out 0
    have qf := free_all HCL.out
    have qz := lt_of_heap HCL.out
    simp only [List.getElem?_toArray, List.getElem?_cons_zero] at q0
    have v0 := cell_at HVV.out 0
    have v1 := cell_at HVV.out 1
    have v2 := cell_at HVV.out 2
    have vz := lt_of_heap HVV.out
    simp only [List.getElem?_toArray, List.getElem?_cons_zero, List.getElem?_cons_succ] at v0 v1 v2
    have HRUN := Lib.hid hrun
    clear hrun
    gi_wp2_with (gi_at_builtin; refine append_run_in rfl rfl rfl rfl HRUN.out ?_)
    have hz4 := HU4.out.size
    have HX0' := HX0.out
    rw [show k = k from rfl] at hk
    have hft := flat_take hk
    rw [HX0'] at hft
    rw [← hft] at HCOL
    refine ⟨fun b => b = bl ∨ (Value.slice (some av) (k + 1) cv).ownBlock = some b, ⟨_, fun b => Iff.rfl, HCOL.out⟩, ?_, fun b hb => ⟨?_, ?_⟩⟩
    · refine (Upd.of_below HBN.out : Upd (fun b => S b ∨ A.heap.size ≤ b) A2 A3).trans (HU4.out.mono fun b _ hh => .inl ((HS2.out b).2 hh))
    · rcases hb with hb | hb
      · exact .inl ((HS2.out b).2 (.inl hb))
      · rcases HOWN.out b hb with h7 | h7
        · exact .inl ((HS2.out b).2 (.inr h7))
        · exact .inr (by omega)
    · rcases hb with hb | hb
      · have := HCOL.out.c
        rw [hb]
        exact lt_of_heap this
      · exact (HCOL.out.r.lt b hb).2
  case done =>
    rintro S B ⟨v, hS, hst⟩ hD
    rw [List.take_length] at hst
    have HST := Lib.hid hst
    have HDD := Lib.hid hD
    have HBB := Lib.hid (HB.out.trans (HST.out.u.below HB.out.size (fun b hb h => by omega)))
    have HC0 := Lib.hid HST.out.c
    clear hst hD hS
    have c0 := cell_at HC0.out 0
    have cz := lt_of_heap HC0.out
    simp only [List.getElem?_toArray, List.getElem?_cons_zero] at c0
    go_wp2_with fail
    have hB := HBB.out
    refine leaves_marks (v := .tuple #[v, .int .i64 0]) [W2.heap.size] _ (fun d hd => ?_) (by simp) (fun w' hu => ⟨?_, v, rfl, ?_, ?_⟩)
    · rw [List.mem_singleton] at hd
      rw [hd]
      exact HDD.out
    · simp [results, Tryd.results18, go_sem]
    · refine Seg.rebase (Seg.upd HST.out.r hu (fun b hb hh => ?_)) (fun b hb => ?_)
      · rw [List.mem_singleton] at hh
        rcases HST.out.r.at' with ⟨h9, _⟩ | ⟨g, o, cap, cur, h9, _, hg, _⟩
        · rw [h9] at hb; cases hb
        · rw [h9] at hb
          simp only [Value.ownBlock, Option.some.injEq] at hb
          rw [hb, hh, HDD.out] at hg
          cases hg
      · have := (HST.out.r.lt b hb).1
        have := HB.out.size
        omega
    · exact hB.trans (hu.below hB.size (fun k hk h => by
        rw [List.mem_singleton] at h
        have := HB.out.size
        omega))
  case stop =>
    rintro c k S B hk h hD
    exact h.elim
end Go.Proofs.YtendkmldecoogaaDoor.CutTokens
