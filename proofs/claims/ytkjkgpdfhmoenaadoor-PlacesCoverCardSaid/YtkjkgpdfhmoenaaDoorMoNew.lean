/-
  A right model as it lies in memory; model.New. What is known of data with which nothing is wrong; the words of ids, one behind the other. A right model lies as it lay when a cell of one number is written. tesserakeep.Large, tesserakeep.Of.
-/
import Derived.Test.YtkjkgpdfhmoenaaDoorMoPairs
import Derived.Test.YtkjkgpdfhmoenaaDoorCls
import Derived.Test.YtkjkgpdfhmoenaaDoorCopied
import Derived.Test.YtkjkgpdfhmoenaaDoorRef5d
namespace Go.Proofs.YtkjkgpdfhmoenaaDoor.MoNew
open Go Go.RowKit Go.Proofs.YtkjkgpdfhmoenaaDoor.Kit Go.Proofs.YtkjkgpdfhmoenaaDoor.Maps Go.Proofs.YtkjkgpdfhmoenaaDoor.SpFns Go.Proofs.YtkjkgpdfhmoenaaDoor.Dt Go.Proofs.YtkjkgpdfhmoenaaDoor.Chk4 Go.Proofs.YtkjkgpdfhmoenaaDoor.Tab Go.Proofs.YtkjkgpdfhmoenaaDoor.Mo Go.Proofs.YtkjkgpdfhmoenaaDoor.MoWords Go.Proofs.YtkjkgpdfhmoenaaDoor.MoPairs Go.Proofs.YtkjkgpdfhmoenaaDoor.MapArr Go.Proofs.YtkjkgpdfhmoenaaDoor.Copied Go.Proofs.YtkjkgpdfhmoenaaDoor.Ref5b Go.Proofs.YtkjkgpdfhmoenaaDoor.Ref5d
attribute [local irreducible] wpQuiet

/-- A right model of data D at a block. -/
structure Mod (w : World) (mb : Nat) (D : Dt) : Prop where
  ex : ∃ q tb p mp, Blk w mb D q (.pointer (some ⟨tb, 0, none⟩)) mp (lg D D.nw) ∧ At w D q ∧ Tab w D tb p ∧ w.heap[mp]? = some (.map (ents encP (prs D D.nm)) D.nm)
  ok : chk D = (0, 0, 0)
  nw : D.nw ≤ 4096
  nm : D.nm = D.nw
  ok3 : Ok D 3

theorem Mod.below {w w' : World} {mb : Nat} {D : Dt} (h : Mod w mb D) (hb : Below w.heap.size w w') : Mod w' mb D := by
  obtain ⟨q, tb, p, mp, h1, h2, h3, h4⟩ := h.ex
  exact ⟨⟨q, tb, p, mp, (hb.block _ (lt_of_heap h1)).trans h1, h2.below hb, h3.below hb, (hb.block _ (lt_of_heap h4)).trans h4⟩, h.ok, h.nw, h.nm, h.ok3⟩
theorem Mod.lt {w : World} {mb : Nat} {D : Dt} (h : Mod w mb D) : mb < w.heap.size := by
  obtain ⟨q, tb, p, mp, h1, _⟩ := h.ex
  exact lt_of_heap h1

def fields (T : Int × Int × Int) : Value := .agg #[.int .i64 T.1, .int .i64 T.2.1, .int .i64 T.2.2]

/-- What New answers. -/
def Newed (D : Dt) (w : World) (x : Ending) (w' : World) : Prop :=
  ((chk D).1 ≠ 0 ∧ x = .returned (.tuple #[.pointer none, .agg #[.int .i64 (chk D).1, .int .i64 (chk D).2.1, .int .i64 (chk D).2.2]]) ∧ Below w.heap.size w w') ∨
  (chk D = (0, 0, 0) ∧ ∃ mb, x = .returned (.tuple #[.pointer (some ⟨mb, 0, none⟩), .agg #[.int .i64 0, .int .i64 0, .int .i64 0]]) ∧ Mod w' mb D ∧ w.heap.size ≤ mb ∧ Below w.heap.size w w')

theorem newed_no {D : Dt} {w w' : World} {T : Int × Int × Int} {x : Ending} (h : chk D = T) (hT : T.1 ≠ 0) (hx : x = .returned (.tuple #[.pointer none, .agg #[.int .i64 T.1, .int .i64 T.2.1, .int .i64 T.2.2]])) (hb : Below w.heap.size w w') : Newed D w x w' := by
  subst h
  exact .inl ⟨hT, hx, hb⟩

set_option maxHeartbeats 4000000 in
set_option maxRecDepth 100000 in
theorem New_calls (D : Dt) (p : Pl) (w : World) (h : At w D p) :
    Calls Tryd.prog 50 #[.agg #[.slice p.a0 D.nw p.c0, .slice p.a1 D.nm p.c1, .slice p.a2 D.n0 p.c2, .slice p.a3 D.n1 p.c3, .slice p.a4 D.n2 p.c4]] w (Newed D w) := by
  have H := Lib.hid h
  have hbw := h.bw
  have hbm := h.bm
  obtain ⟨W0, hW0⟩ : ∃ W0, w.alloc (.cells #[.slice p.a0 D.nw p.c0, .slice p.a1 D.nm p.c1, .slice p.a2 D.n0 p.c2, .slice p.a3 D.n1 p.c3, .slice p.a4 D.n2 p.c4] 26) = W0 := ⟨_, rfl⟩
  obtain ⟨hb0, hx0, ha0⟩ := Ref5a.boxed H.out hW0
  obtain ⟨W1, hW1⟩ : ∃ Xz, W0.alloc (.cells #[.int .i64 0, .int .i64 0, .int .i64 0] 100) = Xz := ⟨_, rfl⟩
  obtain ⟨rb, hrb⟩ : ∃ xz, W0.heap.size = xz := ⟨_, rfl⟩
  have hb1 : Below W0.heap.size W0 W1 := by rw [← hW1]; exact (Below.refl _ _).alloc (Nat.le_refl _) _
  have HR := Lib.hid (by rw [← hW1, ← hrb]; exact alloc_new rfl : W1.heap[rb]? = some (.cells #[.int .i64 0, .int .i64 0, .int .i64 0] 100 (0, 0)))
  obtain ⟨xb, hxb⟩ : ∃ b, w.heap.size = b := ⟨_, rfl⟩
  rw [hxb] at hx0
  have HX := Lib.hid hx0
  have HR1 := Lib.hid (lt_of_heap HR.out)
  have HA := Lib.hid ha0
  have HB := Lib.hid hb0
  have HX := Lib.hid ((hb1.block _ (lt_of_heap HX.out)).trans HX.out)
  have HA := Lib.hid (HA.out.below hb1)
  have HB := Lib.hid (chain HB.out hb1)
  have hsz : w.heap.size ≤ rb := by rw [← hrb]; exact hb0.size
  clear h hb0 hx0 ha0 hb1
  have b0 := cell_at HX.out 0
  have b1 := cell_at HX.out 1
  have b2 := cell_at HX.out 2
  have b3 := cell_at HX.out 3
  have b4 := cell_at HX.out 4
  have bz := lt_of_heap HX.out
  simp only [List.getElem?_toArray, List.getElem?_cons_zero, List.getElem?_cons_succ] at b0 b1 b2 b3 b4
  have r0 := cell_at HR.out 0
  have r1 := cell_at HR.out 1
  have r2 := cell_at HR.out 2
  have rf := free_all HR.out
  have rz := lt_of_heap HR.out
  simp only [List.getElem?_toArray, List.getElem?_cons_zero, List.getElem?_cons_succ] at r0 r1 r2
  by_cases h1 : 4096 < D.nm
  · have h1' : (4096 : Int) < D.nm := by omega
    have HL := Lib.hid (chk_1 h1)
    go_enter Tryd.func50, Tryd.ntmps50
    go_wp2_with fail
    have hB := HB.out
    refine bodyPost_ret (v := .tuple #[.pointer none, .agg #[.int .i64 4, .int .i64 5, .int .i64 4096]]) (by simp [results, Tryd.results50, go_sem, *]) rfl (newed_no HL.out (by decide) rfl ?_)
    repeat (first | exact hB | refine Below.setCell ?_ (by first | omega | (have := hB.size; simp; omega)) _ | refine Below.alloc ?_ (by have := hB.size; simp; omega) _ | refine Below.drew ?_)
  have h1' : ¬ ((4096 : Int) < D.nm) := by omega
  by_cases h2 : D.nw ≠ D.nm
  · have h2' : ((D.nw : Int) != (D.nm : Int)) = true := by simp; omega
    have HL := Lib.hid (chk_2 h1 h2)
    obtain ⟨mn, hmn⟩ : ∃ mn, min (D.nw : Int) (D.nm : Int) = mn := ⟨_, rfl⟩
    rw [hmn] at HL
    clear h2
    rcases Int.lt_or_le (D.nm : Int) (D.nw : Int) with h3 | h3
    · have hm : mn = D.nm := by omega
      rw [hm] at HL
      clear hmn hm
      go_enter Tryd.func50, Tryd.ntmps50
      go_wp2_with fail
      refine region_tail 9 (by kernel_rfl) (by kernel_rfl) ?_
      simp only [List.take_succ_cons, List.take_zero, List.drop_succ_cons, List.drop_zero]
      repeat (first | still_step)
      refine wpStill_nil ?_
      go_wp2_with fail
      have hB := HB.out
      refine bodyPost_ret (v := .tuple #[.pointer none, .agg #[.int .i64 4, .int .i64 4, .int .i64 D.nm]]) (by simp [results, Tryd.results50, go_sem, *]) rfl (newed_no HL.out (by simp) rfl ?_)
      repeat (first | exact hB | refine Below.setCell ?_ (by first | omega | (have := hB.size; simp; omega)) _ | refine Below.alloc ?_ (by have := hB.size; simp; omega) _ | refine Below.drew ?_)
    · have hm : mn = D.nw := by omega
      rw [hm] at HL
      clear hmn hm
      go_enter Tryd.func50, Tryd.ntmps50
      go_wp2_with fail
      refine region_tail 9 (by kernel_rfl) (by kernel_rfl) ?_
      simp only [List.take_succ_cons, List.take_zero, List.drop_succ_cons, List.drop_zero]
      repeat (first | still_step)
      refine wpStill_nil ?_
      go_wp2_with fail
      have hB := HB.out
      refine bodyPost_ret (v := .tuple #[.pointer none, .agg #[.int .i64 4, .int .i64 4, .int .i64 D.nw]]) (by simp [results, Tryd.results50, go_sem, *]) rfl (newed_no HL.out (by simp) rfl ?_)
      repeat (first | exact hB | refine Below.setCell ?_ (by first | omega | (have := hB.size; simp; omega)) _ | refine Below.alloc ?_ (by have := hB.size; simp; omega) _ | refine Below.drew ?_)
  have h2' : ((D.nw : Int) != (D.nm : Int)) = false := by simp; omega
  replace h2 : D.nw = D.nm := by omega
  have H1 := Lib.hid h1
  have H2 := Lib.hid h2
  clear h1 h2
  go_enter Tryd.func50, Tryd.ntmps50
  go_wp2_with fail
  refine (Cls.New_calls D p W1 HA.out).mono ?_
  have C3 := Lib.hid (fun (h : (chk4 D).1 ≠ 0) => chk_3 H1.out H2.out h)
  have C4 := Lib.hid (fun (h : (chk4 D).1 = 0) (h4 : (fb (badW D) D.nw 0).2 ≠ 0) => chk_4 H1.out H2.out h h4)
  have C5 := Lib.hid (fun (h : (chk4 D).1 = 0) (h4 : (fb (badW D) D.nw 0).2 = 0) => chk_5 H1.out H2.out h h4)
  clear hxb hrb hW0 hW1 b0 b1 b2 b3 b4 bz r0 r1 r2 rf rz
  rintro e W2 (⟨hq, rfl, hb⟩ | ⟨hq, tb, pt, rfl, htab, htn, hok, hb⟩)
  · have HL := Lib.hid (C3.out hq)
    have HQ := Lib.hid hq
    clear C3 C4 C5 hq
    generalize chk4 D = Q at HL HQ
    obtain ⟨Q1, Q2, Q3⟩ := Q
    have HX := Lib.hid ((hb.block _ (lt_of_heap HX.out)).trans HX.out)
    have HR := Lib.hid ((hb.block _ (lt_of_heap HR.out)).trans HR.out)
    have HA := Lib.hid (HA.out.below hb)
    have HB := Lib.hid (chain HB.out hb)
    clear hb
    have r0 := cell_at HR.out 0
    have r1 := cell_at HR.out 1
    have r2 := cell_at HR.out 2
    have rf := free_all HR.out
    have rz := lt_of_heap HR.out
    simp only [List.getElem?_toArray, List.getElem?_cons_zero, List.getElem?_cons_succ] at r0 r1 r2
    go_wp2_with fail
    refine region_tail 8 (by kernel_rfl) (by kernel_rfl) ?_
    simp only [List.take_succ_cons, List.take_zero, List.drop_succ_cons, List.drop_zero]
    repeat (first | still_step)
    refine wpStill_nil ?_
    go_wp2_with fail
    have hB := HB.out
    refine bodyPost_ret (v := .tuple #[.pointer none, .agg #[.int .i64 Q1, .int .i64 Q2, .int .i64 Q3]]) (by simp [results, Tryd.results50, go_sem, *]) rfl (newed_no HL.out HQ.out rfl ?_)
    repeat (first | exact hB | refine Below.setCell ?_ (by first | omega | (have := hB.size; simp; omega)) _ | refine Below.alloc ?_ (by have := hB.size; simp; omega) _ | refine Below.drew ?_)
  have C4' := Lib.hid (C4.out (by rw [hq]))
  have C5' := Lib.hid (C5.out (by rw [hq]))
  have HX := Lib.hid ((hb.block _ (lt_of_heap HX.out)).trans HX.out)
  have HR := Lib.hid ((hb.block _ (lt_of_heap HR.out)).trans HR.out)
  have HA := Lib.hid (HA.out.below hb)
  have HB := Lib.hid (chain HB.out hb)
  have HT := Lib.hid htab
  have HTN := Lib.hid htn
  have HOK := Lib.hid hok
  clear C3 C4 C5 hq hb htab htn hok
  have b0 := cell_at HX.out 0
  have b1 := cell_at HX.out 1
  have b2 := cell_at HX.out 2
  have b3 := cell_at HX.out 3
  have b4 := cell_at HX.out 4
  have bz := lt_of_heap HX.out
  simp only [List.getElem?_toArray, List.getElem?_cons_zero, List.getElem?_cons_succ] at b0 b1 b2 b3 b4
  have r0 := cell_at HR.out 0
  have r1 := cell_at HR.out 1
  have r2 := cell_at HR.out 2
  have rf := free_all HR.out
  have rz := lt_of_heap HR.out
  simp only [List.getElem?_toArray, List.getElem?_cons_zero, List.getElem?_cons_succ] at r0 r1 r2
  obtain ⟨W3, hW3⟩ : ∃ Xz, W2.alloc (.cells #[.int .i64 0, .int .i64 0, .int .i64 0] 130) = Xz := ⟨_, rfl⟩
  obtain ⟨wb, hwb⟩ : ∃ xz, W2.heap.size = xz := ⟨_, rfl⟩
  have hb3 : Below W2.heap.size W2 W3 := by rw [← hW3]; exact (Below.refl _ _).alloc (Nat.le_refl _) _
  have HW := Lib.hid (by rw [← hW3, ← hwb]; exact alloc_new rfl : W3.heap[wb]? = some (.cells #[.int .i64 0, .int .i64 0, .int .i64 0] 130 (0, 0)))
  have HX := Lib.hid ((hb3.block _ (lt_of_heap HX.out)).trans HX.out)
  have HR := Lib.hid ((hb3.block _ (lt_of_heap HR.out)).trans HR.out)
  have HA := Lib.hid (HA.out.below hb3)
  have HT := Lib.hid (HT.out.below hb3)
  have HB := Lib.hid (chain HB.out hb3)
  have EW3 := Lib.hid hW3
  have hs3 := hb3.size
  have HR3 := Lib.hid (lt_of_heap HR.out)
  have Ewb := Lib.hid hwb
  clear hW3 hwb hb3
  go_wp2_with fail
  rw [EW3.out]
  refine (copied_calls D p W3 HA.out (by have := H1.out; have := H2.out; omega) (by have := H1.out; omega)).mono ?_
  clear b0 b1 b2 b3 b4 bz r0 r1 r2 rf rz
  rintro e W4 ⟨q, rfl, hq, hqn, hb⟩
  have HX := Lib.hid ((hb.block _ (lt_of_heap HX.out)).trans HX.out)
  have HR := Lib.hid ((hb.block _ (lt_of_heap HR.out)).trans HR.out)
  have HW := Lib.hid ((hb.block _ (lt_of_heap HW.out)).trans HW.out)
  have HT := Lib.hid (HT.out.below hb)
  have HB := Lib.hid (chain HB.out hb)
  have HQ := Lib.hid hq
  have HQN := Lib.hid (fun b h => (hqn b h).2)
  have HQR := Lib.hid (fun b h e => by have h1 := (hqn b h).1; have h2 := HR3.out; omega : ∀ b, q.has b → ¬ b = rb)
  have HT2 := Lib.hid (Below.refl W4.heap.size W4)
  have HT4 := Lib.hid HT.out
  clear hq hqn hb
  have r0 := cell_at HR.out 0
  have r1 := cell_at HR.out 1
  have r2 := cell_at HR.out 2
  have rf := free_all HR.out
  have rz := lt_of_heap HR.out
  simp only [List.getElem?_toArray, List.getElem?_cons_zero, List.getElem?_cons_succ] at r0 r1 r2
  have htl := lt_of_heap HT.out.t
  obtain ⟨W5, hW5⟩ : ∃ Xz, W4.alloc (.map #[] 0) = Xz := ⟨_, rfl⟩
  obtain ⟨mp, hmp⟩ : ∃ xz, W4.heap.size = xz := ⟨_, rfl⟩
  have hb5 : Below W4.heap.size W4 W5 := by rw [← hW5]; exact (Below.refl _ _).alloc (Nat.le_refl _) _
  have HP := Lib.hid (by rw [← hW5, ← hmp]; exact alloc_new rfl : W5.heap[mp]? = some (.map #[] 0))
  have EW5 := Lib.hid hW5
  have Emp := Lib.hid hmp
  clear hW5 hmp
  have nx : xb ≠ mp ∧ rb ≠ mp := ⟨by have := lt_of_heap HX.out; rw [Emp.out] at this; omega, by have := lt_of_heap HR.out; rw [Emp.out] at this; omega⟩
  have nq : ∀ b, q.has b → b < mp := fun b h => by have := HQN.out b h; rw [Emp.out] at this; exact this
  have nz : w.heap.size ≤ mp := by rw [← Emp.out]; exact HB.out.size
  have HX := Lib.hid ((hb5.block _ (lt_of_heap HX.out)).trans HX.out)
  have HR := Lib.hid ((hb5.block _ (lt_of_heap HR.out)).trans HR.out)
  have HT := Lib.hid (HT.out.below hb5)
  have HQ := Lib.hid (HQ.out.below hb5)
  have HB := Lib.hid (chain HB.out hb5)
  have HT2 := Lib.hid (chain HT2.out hb5)
  obtain ⟨W6, hW6⟩ : ∃ Xz, W5.alloc (.cells #[.slice q.a0 D.nw q.c0, .slice q.a1 D.nm q.c1, .slice q.a2 D.n0 q.c2, .slice q.a3 D.n1 q.c3, .slice q.a4 D.n2 q.c4, .pointer (some ⟨tb, 0, none⟩), .map (some mp), .int .i64 1] 116) = Xz := ⟨_, rfl⟩
  obtain ⟨mb, hmb⟩ : ∃ xz, W5.heap.size = xz := ⟨_, rfl⟩
  have hb6 : Below W5.heap.size W5 W6 := by rw [← hW6]; exact (Below.refl _ _).alloc (Nat.le_refl _) _
  have HM := Lib.hid (by rw [← hW6, ← hmb]; exact alloc_new rfl : W6.heap[mb]? = some (.cells #[.slice q.a0 D.nw q.c0, .slice q.a1 D.nm q.c1, .slice q.a2 D.n0 q.c2, .slice q.a3 D.n1 q.c3, .slice q.a4 D.n2 q.c4, .pointer (some ⟨tb, 0, none⟩), .map (some mp), .int .i64 1] 116 (0, 0)))
  have EW6 := Lib.hid hW6
  have Emb := Lib.hid hmb
  clear hW6 hmb
  have hmb : mp + 1 = mb := by rw [← Emb.out, ← EW5.out, ← Emp.out]; simp
  have mx : xb ≠ mb ∧ rb ≠ mb := ⟨by have := lt_of_heap HX.out; rw [Emb.out] at this; omega, by have := lt_of_heap HR.out; rw [Emb.out] at this; omega⟩
  have HX := Lib.hid ((hb6.block _ (lt_of_heap HX.out)).trans HX.out)
  have HR := Lib.hid ((hb6.block _ (lt_of_heap HR.out)).trans HR.out)
  have HP := Lib.hid ((hb6.block _ (lt_of_heap HP.out)).trans HP.out)
  have HT := Lib.hid (HT.out.below hb6)
  have HQ := Lib.hid (HQ.out.below hb6)
  have HB := Lib.hid (chain HB.out hb6)
  have HT2 := Lib.hid (chain HT2.out hb6)
  have NX := Lib.hid nx
  have NQ := Lib.hid nq
  have NZ := Lib.hid nz
  have MX := Lib.hid mx
  have HMB := Lib.hid hmb
  clear hb5 hb6 nx nq nz mx hmb
  have hmm := @run_makeMap Tryd.prog
  go_wp2_with fail
  rw [Emp.out, EW5.out, EW6.out, HMB.out]
  clear hmm rf rz r0 r1 r2
  refine (words_calls W6 mb D q (.pointer (some ⟨tb, 0, none⟩)) mp HM.out HQ.out.rw (fun x hx => by have := NQ.out x.block (.inl ⟨x, hx, rfl⟩); have := HMB.out; omega) (by have := H1.out; have := H2.out; omega)).mono ?_
  unfold MoWords.Said
  generalize fb (badW D) D.nw 0 = Y at C4' C5'
  obtain ⟨Y1, Y2⟩ := Y
  dsimp only at C4' C5' ⊢
  rintro e W7 ⟨rfl, ⟨l7, hm7, hl7⟩, hu7⟩
  have HM7 := Lib.hid hm7
  have HL7 := Lib.hid hl7
  have hb7 : Below W5.heap.size W6 W7 := hu7.below (by rw [← EW6.out]; simp) (fun k hk e => by rw [Emb.out] at hk; omega)
  have HX := Lib.hid ((hu7.block _ (lt_of_heap HX.out) (MX.out.1)).trans HX.out)
  have HR := Lib.hid ((hu7.block _ (lt_of_heap HR.out) (MX.out.2)).trans HR.out)
  have HP := Lib.hid ((hu7.block _ (lt_of_heap HP.out) (by have := HMB.out; omega)).trans HP.out)
  have HB7 := Lib.hid (HB.out.trans (hu7.below HB.out.size (fun k hk e => by have := NZ.out; have := HMB.out; omega)))
  have HT7 := Lib.hid (HT2.out.trans (hu7.below HT2.out.size (fun k hk e => by rw [Emp.out] at hk; have := HMB.out; omega)))
  have HQ7 := Lib.hid (HQ.out.upd hu7 (fun b h e => by have := NQ.out b h; have := HMB.out; omega))
  clear hm7 hl7 hu7 hb7
  have r0 := cell_at HR.out 0
  have r1 := cell_at HR.out 1
  have r2 := cell_at HR.out 2
  have rf := free_all HR.out
  have rz := lt_of_heap HR.out
  simp only [List.getElem?_toArray, List.getElem?_cons_zero, List.getElem?_cons_succ] at r0 r1 r2
  have nz : w.heap.size ≤ rb := hsz
  by_cases hy : Y2 ≠ 0
  · have hy' : (Y2 != 0) = true := by simpa using hy
    have HL := Lib.hid (C4'.out hy)
    unfold fault at HL
    have HL2 := Lib.hid (HL.out.trans (if_pos hy))
    clear hy
    go_wp2_with fail
    have hB := HB7.out
    refine bodyPost_ret (v := .tuple #[.pointer none, .agg #[.int .i64 Y2, .int .i64 4, .int .i64 Y1]]) (by simp [results, Tryd.results50, go_sem, *]) rfl (newed_no HL2.out (by simpa using hy') rfl ?_)
    repeat (first | exact hB | refine Below.setCell ?_ (by first | omega | (have := hB.size; simp; omega)) _ | refine Below.alloc ?_ (by have := hB.size; simp; omega) _ | refine Below.drew ?_)
  replace hy : Y2 = 0 := by omega
  have HL := Lib.hid (C5'.out hy)
  subst hy
  go_wp2_with fail
  refine (pairs_calls W7 mb D q (.pointer (some ⟨tb, 0, none⟩)) mp l7 HM7.out HQ7.out HP.out ⟨by have := HMB.out; omega, fun b h e => by have := NQ.out b h; omega⟩ (by have := H1.out; have := H2.out; omega) H2.out.symm).mono ?_
  unfold MoPairs.Said
  have F5 := fault_1 5 (fb (badM D) D.nm 0)
  unfold fault at HL F5
  generalize fb (badM D) D.nm 0 = Z at HL F5
  obtain ⟨Z1, Z2⟩ := Z
  dsimp only at HL F5 ⊢
  rintro e W8 ⟨rfl, hz, hu8⟩
  have HX := Lib.hid ((hu8.block _ (lt_of_heap HX.out) (NX.out.1)).trans HX.out)
  have HR := Lib.hid ((hu8.block _ (lt_of_heap HR.out) (NX.out.2)).trans HR.out)
  have HM7 := Lib.hid ((hu8.block _ (lt_of_heap HM7.out) (by have := HMB.out; omega)).trans HM7.out)
  have HB8 := Lib.hid (HB7.out.trans (hu8.below HB7.out.size (fun k hk e => by have := NZ.out; omega)))
  have HT8 := Lib.hid (HT7.out.trans (hu8.below HT7.out.size (fun k hk e => by rw [Emp.out] at hk; omega)))
  have HQ8 := Lib.hid (HQ7.out.upd hu8 (fun b h e => by have := NQ.out b h; omega))
  have HZ := Lib.hid hz
  have HF5 := Lib.hid F5
  clear hz hu8 r0 r1 r2 rf rz F5
  have r0 := cell_at HR.out 0
  have r1 := cell_at HR.out 1
  have r2 := cell_at HR.out 2
  have rf := free_all HR.out
  have rz := lt_of_heap HR.out
  simp only [List.getElem?_toArray, List.getElem?_cons_zero, List.getElem?_cons_succ] at r0 r1 r2
  by_cases hz : Z2 = 0
  · subst hz
    have hB := HB8.out
    have HLL := Lib.hid HL.out
    simp only [if_neg (show ¬ ((0 : Int) ≠ 0) by simp)] at HLL
    go_wp2_with fail
    refine bodyPost_ret (v := .tuple #[.pointer (some ⟨mb, 0, none⟩), .agg #[.int .i64 0, .int .i64 0, .int .i64 0]]) (by simp [results, Tryd.results50, go_sem, *]) rfl (.inr ⟨HLL.out, mb, rfl, ?_, ?_, ?_⟩)
    · have hw : ∀ W', Upd (fun i => i = rb) W8 W' → Mod W' mb D := fun W' hu => by
        have hl7 := HL7.out trivial
        rw [hl7] at HM7
        refine ⟨⟨q, tb, pt, mp, (hu.block mb (lt_of_heap HM7.out) (Ne.symm MX.out.2)).trans HM7.out, HQ8.out.upd hu HQR.out, (HT4.out.below HT8.out).keep hu.size (fun b h hl => hu.block b hl (fun e => by have := HTN.out b h; have := HR1.out; omega)), ?_⟩, HLL.out, by have := H1.out; have := H2.out; omega, H2.out.symm, HOK.out⟩
        have hp := HZ.out trivial
        exact (hu.block mp (lt_of_heap hp) (Ne.symm NX.out.2)).trans hp
      refine hw _ ?_
      repeat (first | exact Upd.refl _ _ | refine Upd.setCell (S := fun i => i = rb) ?_ (fun _ => rfl) _)
    · have := NZ.out
      have := HMB.out
      omega
    · repeat (first | exact hB | refine Below.setCell ?_ (by first | omega | (have := hB.size; simp; omega)) _ | refine Below.alloc ?_ (by have := hB.size; simp; omega) _ | refine Below.drew ?_)
  · have hz' : (Z2 != 0) = true := by simpa using hz
    have HL2 := Lib.hid (HL.out.trans (if_pos hz))
    clear hz
    go_wp2_with fail
    have hB := HB8.out
    refine bodyPost_ret (v := .tuple #[.pointer none, .agg #[.int .i64 Z2, .int .i64 5, .int .i64 Z1]]) (by simp [results, Tryd.results50, go_sem, *]) rfl (newed_no HL2.out (by simpa using hz') rfl ?_)
    repeat (first | exact hB | refine Below.setCell ?_ (by first | omega | (have := hB.size; simp; omega)) _ | refine Below.alloc ?_ (by have := hB.size; simp; omega) _ | refine Below.drew ?_)
end Go.Proofs.YtkjkgpdfhmoenaaDoor.MoNew
namespace Go.Proofs.YtkjkgpdfhmoenaaDoor.Good
open Go Go.RowKit Go.Proofs.YtkjkgpdfhmoenaaDoor.Kit Go.Proofs.YtkjkgpdfhmoenaaDoor.Dt Go.Proofs.YtkjkgpdfhmoenaaDoor.Mo Go.Proofs.YtkjkgpdfhmoenaaDoor.MoNew Go.Proofs.YtkjkgpdfhmoenaaDoor.Ref5a

structure Good (D : Dt) : Prop where
  nm : D.nm ≤ 4096
  eq : D.nw = D.nm
  c4 : (chk4 D).1 = 0
  w : ∀ i, i < D.nw → badW D i = 0
  m : ∀ i, i < D.nm → badM D i = 0

theorem good {D : Dt} (h : chk D = (0, 0, 0)) : Good D := by
  unfold chk at h
  split at h
  · simp at h
  split at h
  · simp at h
  split at h
  · rename_i h3
    rw [h] at h3
    exact absurd rfl h3
  split at h
  · rename_i h4
    simp only [Prod.mk.injEq] at h
    exact absurd h.1 h4
  split at h
  · rename_i h5
    simp only [Prod.mk.injEq] at h
    exact absurd h.1 h5
  rename_i h1 h2 h3 h4 h5
  exact ⟨by omega, by omega, Decidable.not_not.1 h3, fun i hi => fb_zero _ _ (Decidable.not_not.1 h4) i (Nat.zero_le _) (by omega), fun i hi => fb_zero _ _ (Decidable.not_not.1 h5) i (Nat.zero_le _) (by omega)⟩

theorem of_mod {w : World} {mb : Nat} {D : Dt} (h : Mod w mb D) : Good D := Good.good h.ok

theorem Good.len {D : Dt} (h : Good D) {i : Nat} (hi : i < D.nw) : 2 ≤ (D.W i).size ∧ (D.W i).size ≤ 256 := by
  have := h.w i hi
  unfold badW at this
  split at this
  · simp at this
  · rename_i h1
    exact Decidable.not_not.1 h1

theorem Good.word_le {D : Dt} (h : Good D) (id : Int) : (word D id).size ≤ 256 := by
  unfold word
  split
  · show (ByteArray.mk _).size ≤ 256
    simp [ByteArray.size]
  · split
    · exact (h.len (by omega)).2
    · simp

theorem Good.word_pos {D : Dt} (h : Good D) {id : Int} (hi : isId D id) : 0 < (word D id).size := by
  unfold isId at hi
  unfold word
  split
  · show 0 < (ByteArray.mk _).size
    simp [ByteArray.size]
  · split
    · have := (h.len (i := (id - 256).toNat) (by omega)).1
      omega
    · omega

/-- The first of n ids that is none (n: there is none such). -/
def upto (D : Dt) (F : Nat → Int) : Nat → Nat
  | 0 => 0
  | n + 1 => if upto D F n = n ∧ isId D (F n) then n + 1 else upto D F n
theorem upto_le (D : Dt) (F : Nat → Int) : ∀ n, upto D F n ≤ n
  | 0 => Nat.le_refl _
  | n + 1 => by
    have := upto_le D F n
    unfold upto
    split <;> omega
theorem upto_succ {D : Dt} {F : Nat → Int} {n : Nat} (h : upto D F n = n) (hi : isId D (F n)) : upto D F (n + 1) = n + 1 := by
  unfold upto
  rw [if_pos ⟨h, hi⟩]
theorem upto_stop {D : Dt} {F : Nat → Int} {k : Nat} (h : upto D F k = k) (hi : ¬ isId D (F k)) : ∀ n, k < n → upto D F n = k
  | 0, hn => by omega
  | n + 1, hn => by
    rcases Nat.lt_or_ge k n with h1 | h1
    · have h2 := upto_stop h hi n h1
      unfold upto
      rw [if_neg (by omega)]
      exact h2
    · have : n = k := by omega
      subst this
      unfold upto
      rw [if_neg (fun h => hi h.2)]
      exact h
theorem upto_isId {D : Dt} {F : Nat → Int} : ∀ {n i : Nat}, i < upto D F n → isId D (F i)
  | 0, i, h => by simp [upto] at h
  | n + 1, i, h => by
    unfold upto at h
    split at h
    · rename_i h1
      rcases Nat.lt_or_ge i n with h2 | h2
      · exact upto_isId (n := n) (by omega)
      · have : i = n := by omega
        subst this
        exact h1.2
    · exact upto_isId h
theorem upto_at {D : Dt} {F : Nat → Int} : ∀ {n : Nat}, upto D F n < n → ¬ isId D (F (upto D F n))
  | 0, h => by omega
  | n + 1, h => by
    by_cases h1 : upto D F n = n ∧ isId D (F n)
    · have : upto D F (n + 1) = n + 1 := by unfold upto; rw [if_pos h1]
      omega
    · have h2 : upto D F (n + 1) = upto D F n := by
        show (if _ then _ else _) = _
        rw [if_neg h1]
      rw [h2]
      have h3 := upto_le D F n
      rcases Nat.lt_or_ge (upto D F n) n with h4 | h4
      · exact upto_at h4
      · have h5 : upto D F n = n := by omega
        rw [h5]
        exact fun h => h1 ⟨h5, h⟩
theorem upto_cong {D : Dt} {F G : Nat → Int} : ∀ {n : Nat}, (∀ i, i < n → F i = G i) → upto D F n = upto D G n
  | 0, _ => rfl
  | n + 1, h => by
    unfold upto
    rw [upto_cong (fun i hi => h i (by omega)), h n (by omega)]

/-- The words of the first k ids. -/
def txt (D : Dt) (F : Nat → Int) : Nat → ByteArray
  | 0 => ByteArray.empty
  | k + 1 => txt D F k ++ word D (F k)
theorem txt_size {D : Dt} (h : Good D) (F : Nat → Int) : ∀ k, (txt D F k).size ≤ 256 * k
  | 0 => by simp [txt]
  | k + 1 => by
    have h1 := txt_size h F k
    have h2 := h.word_le (F k)
    simp only [txt, ByteArray.size_append]
    omega
theorem txt_cong {D : Dt} {F G : Nat → Int} : ∀ {n : Nat}, (∀ i, i < n → F i = G i) → txt D F n = txt D G n
  | 0, _ => rfl
  | n + 1, h => by
    unfold txt
    rw [txt_cong (fun i hi => h i (by omega)), h n (by omega)]
theorem bytes_append (a b : ByteArray) : (a ++ b).data.toList = a.data.toList ++ b.data.toList := by simp

/-- Word, of a right model. -/
theorem Word_mod {w : World} {mb : Nat} {D : Dt} (h : Mod w mb D) (id : Int) (hid : -9223372036854775808 ≤ id ∧ id ≤ 9223372036854775807) :
    Calls Tryd.prog 22 #[.pointer (some ⟨mb, 0, none⟩), .int .i64 id] w fun e w' => e = .returned (.tuple #[.string (word D id), .bool (decide (isId D id))]) ∧ Below w.heap.size w w' := by
  obtain ⟨q, tb, p, mp, h1, h2, _⟩ := h.ex
  exact Mo.Word_calls w mb D q _ mp _ h1 h2.rw h.nw id hid
theorem Size_mod {w : World} {mb : Nat} {D : Dt} (h : Mod w mb D) :
    Calls Tryd.prog 55 #[.pointer (some ⟨mb, 0, none⟩)] w fun x w' => x = .returned (.int .i64 (256 + D.nw)) ∧ w = w' := by
  obtain ⟨q, tb, p, mp, h1, _⟩ := h.ex
  exact Mo.Size_calls w mb D q _ mp _ h1 h.nw
end Go.Proofs.YtkjkgpdfhmoenaaDoor.Good
namespace Go.Proofs.YtkjkgpdfhmoenaaDoor.ModUpd
open Go Go.RowKit Go.Proofs.YtkjkgpdfhmoenaaDoor.Kit Go.Proofs.YtkjkgpdfhmoenaaDoor.Maps Go.Proofs.YtkjkgpdfhmoenaaDoor.SpFns Go.Proofs.YtkjkgpdfhmoenaaDoor.Dt Go.Proofs.YtkjkgpdfhmoenaaDoor.Tab Go.Proofs.YtkjkgpdfhmoenaaDoor.Mo Go.Proofs.YtkjkgpdfhmoenaaDoor.MoNew

theorem one_cell {w : World} {b o : Nat} {v u : Value} {t : TypeId} {fr : Nat × Nat} (hb : w.heap[b]? = some (.cells #[v] t fr)) (h : w.cell? ⟨b, o, none⟩ = some u) : o = 0 ∧ u = v := by
  rw [cell_at hb] at h
  rcases o with _ | o
  · simp at h; exact ⟨rfl, h.symm⟩
  · simp at h
theorem row_ne {w : World} {a : Option Addr} {len b : Nat} {L H : Nat → Int} {v : Value} {t : TypeId} {fr : Nat × Nat} (h : Row w a len L H) (hb : w.heap[b]? = some (.cells #[v] t fr)) (h0 : 0 < len) : ∀ x, a = some x → x.block ≠ b := by
  rintro x rfl rfl
  obtain ⟨g, o, h1, _, h2⟩ := h.at h0
  cases h1
  have := (one_cell hb (h2 0 h0).2).1
  omega
theorem wrow_ne {w : World} {a : Option Addr} {len b : Nat} {W : Nat → ByteArray} {v : Value} {t : TypeId} {fr : Nat × Nat} (h : WRow w a len W) (hb : w.heap[b]? = some (.cells #[v] t fr)) (hv : ∀ s, v ≠ .string s) (h0 : 0 < len) : ∀ x, a = some x → x.block ≠ b := by
  rintro x rfl rfl
  obtain ⟨g, o, h1, _, h2⟩ := h.at h0
  cases h1
  exact hv _ (one_cell hb (h2 0 h0)).2.symm
theorem mrow_ne {w : World} {a : Option Addr} {len b : Nat} {A B I : Nat → Int} {v : Value} {t : TypeId} {fr : Nat × Nat} (h : MRow w a len A B I) (hb : w.heap[b]? = some (.cells #[v] t fr)) (h0 : 0 < len) : ∀ x, a = some x → x.block ≠ b := by
  rintro x rfl rfl
  obtain ⟨g, o, h1, _, h2⟩ := h.at h0
  cases h1
  have := (one_cell hb (h2 0 h0).2.1).1
  omega
variable {w w' : World} {b : Nat} {v : Value} {t : TypeId} {fr : Nat × Nat}
theorem row_upd {a : Option Addr} {len : Nat} {L H : Nat → Int} (h : Row w a len L H) (hu : Upd (fun x => x = b) w w') (hb : w.heap[b]? = some (.cells #[v] t fr)) : Row w' a len L H := by
  rcases Nat.eq_zero_or_pos len with h0 | h0
  · exact .inl h0
  · exact SRow.keep h hu.size (fun x hx hl => hu.block _ hl (row_ne h hb h0 x hx))
theorem wrow_upd {a : Option Addr} {len : Nat} {W : Nat → ByteArray} (h : WRow w a len W) (hu : Upd (fun x => x = b) w w') (hb : w.heap[b]? = some (.cells #[v] t fr)) (hv : ∀ s, v ≠ .string s) : WRow w' a len W := by
  rcases Nat.eq_zero_or_pos len with h0 | h0
  · exact .inl h0
  · exact WRow.keep h hu.size (fun x hx hl => hu.block _ hl (wrow_ne h hb hv h0 x hx))
theorem mrow_upd {a : Option Addr} {len : Nat} {A B I : Nat → Int} (h : MRow w a len A B I) (hu : Upd (fun x => x = b) w w') (hb : w.heap[b]? = some (.cells #[v] t fr)) : MRow w' a len A B I := by
  rcases Nat.eq_zero_or_pos len with h0 | h0
  · exact .inl h0
  · exact MRow.keep h hu.size (fun x hx hl => hu.block _ hl (mrow_ne h hb h0 x hx))
theorem at_upd {D : Dt} {p : Pl} (h : At w D p) (hu : Upd (fun x => x = b) w w') (hb : w.heap[b]? = some (.cells #[v] t fr)) (hv : ∀ s, v ≠ .string s) : At w' D p :=
  ⟨wrow_upd h.rw hu hb hv, mrow_upd h.rm hu hb, row_upd h.l0 hu hb, row_upd h.l1 hu hb, row_upd h.l2 hu hb, h.bw, h.bm, h.b0, h.b1, h.b2, h.cw, h.cm, h.cl0, h.cl1, h.cl2, h.rng, h.sz⟩
theorem mod_upd {mb : Nat} {D : Dt} (h : Mod w mb D) (hu : Upd (fun x => x = b) w w') (hb : w.heap[b]? = some (.cells #[v] t fr)) (hv : ∀ s, v ≠ .string s) : Mod w' mb D := by
  obtain ⟨q, tb, p, mp, h1, h2, h3, h4⟩ := h.ex
  have n1 : mb ≠ b := fun e => by unfold Blk at h1; rw [e, hb] at h1; simp at h1
  have n3 : tb ≠ b := fun e => by have h5 := h3.t; rw [e, hb] at h5; simp at h5
  have n4 : mp ≠ b := fun e => by rw [e, hb] at h4; simp at h4
  exact ⟨⟨q, tb, p, mp, (hu.block _ (lt_of_heap h1) n1).trans h1, at_upd h2 hu hb hv, ⟨(hu.block _ (lt_of_heap h3.t) n3).trans h3.t, fun k hk => row_upd (h3.r k hk) hu hb, h3.b⟩, (hu.block _ (lt_of_heap h4) n4).trans h4⟩, h.ok, h.nw, h.nm, h.ok3⟩
end Go.Proofs.YtkjkgpdfhmoenaaDoor.ModUpd
namespace Go.Proofs.YtkjkgpdfhmoenaaDoor.Keep
open Go Go.RowKit Go.Proofs.YtkjkgpdfhmoenaaDoor.Kit Go.Proofs.YtkjkgpdfhmoenaaDoor.SpFns Go.Proofs.YtkjkgpdfhmoenaaDoor.Dt Go.Proofs.YtkjkgpdfhmoenaaDoor.Mo Go.Proofs.YtkjkgpdfhmoenaaDoor.MoNew Go.Proofs.YtkjkgpdfhmoenaaDoor.Ref5d
attribute [local irreducible] wpQuiet

def large (D : Dt) : Bool := decide (300 < D.nm ∧ D.nm ≤ 4096)

set_option maxRecDepth 100000 in
theorem Large_calls (D : Dt) (p : Pl) (w : World) (h : At w D p) :
    Calls Tryd.prog 49 #[.agg #[.slice p.a0 D.nw p.c0, .slice p.a1 D.nm p.c1, .slice p.a2 D.n0 p.c2, .slice p.a3 D.n1 p.c3, .slice p.a4 D.n2 p.c4]] w fun x w' => x = .returned (.bool (large D)) ∧ Below w.heap.size w w' := by
  have hbm := h.bm
  by_cases h1 : 300 < D.nm
  · have h1' : (300 : Int) < D.nm := by omega
    by_cases h2 : D.nm ≤ 4096
    · have h2' : (D.nm : Int) ≤ 4096 := by omega
      have HX := Lib.hid (show large D = true from decide_eq_true ⟨h1, h2⟩)
      go_enter Tryd.func49, Tryd.ntmps49
      go_wp2
      go_ret
      rw [HX.out]
      exact ⟨rfl, (Below.refl _ _).alloc (Nat.le_refl _) _⟩
    · have h2' : ¬ ((D.nm : Int) ≤ 4096) := by omega
      have HX := Lib.hid (show large D = false from decide_eq_false (fun h => h2 h.2))
      go_enter Tryd.func49, Tryd.ntmps49
      go_wp2
      go_ret
      rw [HX.out]
      exact ⟨rfl, (Below.refl _ _).alloc (Nat.le_refl _) _⟩
  · have h1' : ¬ ((300 : Int) < D.nm) := by omega
    have HX := Lib.hid (show large D = false from decide_eq_false (fun h => h1 h.1))
    go_enter Tryd.func49, Tryd.ntmps49
    go_wp2
    go_ret
    rw [HX.out]
    exact ⟨rfl, (Below.refl _ _).alloc (Nat.le_refl _) _⟩

/-- What Of answers: there is no model, and none should be; or there is a right one. -/
def Kept (D : Dt) (w : World) (x : Ending) (w' : World) : Prop :=
  (x = .returned (.tuple #[.pointer none, .bool false, .bool true]) ∧ Below w.heap.size w w') ∨
  ∃ mb, x = .returned (.tuple #[.pointer (some ⟨mb, 0, none⟩), .bool true, .bool true]) ∧ Mod w' mb D ∧ w.heap.size ≤ mb ∧ Below w.heap.size w w' ∧ D.nm ≤ 300

/-- The same, and why there is none. -/
def KeptX (D : Dt) (w : World) (x : Ending) (w' : World) : Prop :=
  ((x = .returned (.tuple #[.pointer none, .bool false, .bool true]) ∧ Below w.heap.size w w') ∧ ¬ (chk D = (0, 0, 0) ∧ D.nm ≤ 300)) ∨
  ∃ mb, x = .returned (.tuple #[.pointer (some ⟨mb, 0, none⟩), .bool true, .bool true]) ∧ Mod w' mb D ∧ w.heap.size ≤ mb ∧ Below w.heap.size w w' ∧ D.nm ≤ 300

set_option maxHeartbeats 1000000 in
set_option maxRecDepth 100000 in
theorem OfX_calls (D : Dt) (p : Pl) (w : World) (h : At w D p) :
    Calls Tryd.prog 16 #[.agg #[.slice p.a0 D.nw p.c0, .slice p.a1 D.nm p.c1, .slice p.a2 D.n0 p.c2, .slice p.a3 D.n1 p.c3, .slice p.a4 D.n2 p.c4]] w (KeptX D w) := by
  have H := Lib.hid h
  obtain ⟨W1, hW1⟩ : ∃ W1, w.alloc (.cells #[.slice p.a0 D.nw p.c0, .slice p.a1 D.nm p.c1, .slice p.a2 D.n0 p.c2, .slice p.a3 D.n1 p.c3, .slice p.a4 D.n2 p.c4] 26) = W1 := ⟨_, rfl⟩
  obtain ⟨hb1, hx1, ha1⟩ := Ref5a.boxed H.out hW1
  obtain ⟨xb, hxb⟩ : ∃ b, w.heap.size = b := ⟨_, rfl⟩
  rw [hxb] at hx1
  have HX := Lib.hid hx1
  have HA := Lib.hid ha1
  have HB := Lib.hid hb1
  clear h hx1 ha1 hb1
  have b0 := cell_at HX.out 0
  have b1 := cell_at HX.out 1
  have b2 := cell_at HX.out 2
  have b3 := cell_at HX.out 3
  have b4 := cell_at HX.out 4
  have bz := lt_of_heap HX.out
  simp only [List.getElem?_toArray, List.getElem?_cons_zero, List.getElem?_cons_succ] at b0 b1 b2 b3 b4
  have HL := Lib.hid (Large_calls D p W1 HA.out)
  have HLL := Lib.hid (rfl : large D = large D)
  obtain ⟨lr, hlr⟩ : ∃ lr, large D = lr := ⟨_, rfl⟩
  rw [hlr] at HL
  have HLR := Lib.hid hlr
  clear hlr HLL
  go_enter Tryd.func16, Tryd.ntmps16
  go_wp2_with fail
  clear hW1 hxb b0 b1 b2 b3 b4 bz
  refine HL.out.mono ?_
  rintro e W2 ⟨rfl, hb⟩
  have HX := Lib.hid ((hb.block _ (lt_of_heap HX.out)).trans HX.out)
  have HA := Lib.hid (HA.out.below hb)
  have HB := Lib.hid (chain HB.out hb)
  clear hb HL
  have b0 := cell_at HX.out 0
  have b1 := cell_at HX.out 1
  have b2 := cell_at HX.out 2
  have b3 := cell_at HX.out 3
  have b4 := cell_at HX.out 4
  have bz := lt_of_heap HX.out
  simp only [List.getElem?_toArray, List.getElem?_cons_zero, List.getElem?_cons_succ] at b0 b1 b2 b3 b4
  cases lr
  case true =>
    go_wp2_with fail
    go_ret3
    exact .inl ⟨⟨rfl, HB.out⟩, fun h => by have h1 := of_decide_eq_true HLR.out; omega⟩
  go_wp2_with fail
  refine (New_calls D p W2 HA.out).mono ?_
  rintro e W3 (⟨hq, rfl, hb⟩ | ⟨hq, mb, rfl, hm, hmb, hb⟩)
  · have HX := Lib.hid ((hb.block _ (lt_of_heap HX.out)).trans HX.out)
    have HA := Lib.hid (HA.out.below hb)
    have HB := Lib.hid (chain HB.out hb)
    have HC := Lib.hid (fun W (h : At W D p) => Check_calls D p W h)
    have HQ := Lib.hid hq
    have HQN := Lib.hid (show ¬ (chk D = (0, 0, 0) ∧ D.nm ≤ 300) from fun h => hq (by rw [h.1]))
    generalize hQ0 : chk D = Q at HC HQ
    clear hQ0
    obtain ⟨Q1, Q2, Q3⟩ := Q
    clear hq b0 b1 b2 b3 b4 bz hb
    dsimp only at HQ HC ⊢
    obtain ⟨W4, hW4⟩ : ∃ Xz, W3.alloc (.cells #[.int .i64 Q1, .int .i64 Q2, .int .i64 Q3] 100) = Xz := ⟨_, rfl⟩
    obtain ⟨fb, hfb⟩ : ∃ xz, W3.heap.size = xz := ⟨_, rfl⟩
    have hb4 : Below W3.heap.size W3 W4 := by rw [← hW4]; exact (Below.refl _ _).alloc (Nat.le_refl _) _
    have HF := Lib.hid (by rw [← hW4, ← hfb]; exact alloc_new rfl : W4.heap[fb]? = some (.cells #[.int .i64 Q1, .int .i64 Q2, .int .i64 Q3] 100 (0, 0)))
    have EW4 := Lib.hid hW4
    have Efb := Lib.hid hfb
    clear hW4 hfb
    have b0 := cell_at HX.out 0
    have b1 := cell_at HX.out 1
    have b2 := cell_at HX.out 2
    have b3 := cell_at HX.out 3
    have b4 := cell_at HX.out 4
    have bz := lt_of_heap HX.out
    simp only [List.getElem?_toArray, List.getElem?_cons_zero, List.getElem?_cons_succ] at b0 b1 b2 b3 b4
    have HX := Lib.hid ((hb4.block _ (lt_of_heap HX.out)).trans HX.out)
    have HA := Lib.hid (HA.out.below hb4)
    have HB := Lib.hid (chain HB.out hb4)
    clear hb4
    go_wp2_with fail
    rw [EW4.out]
    refine (HC.out W4 HA.out).mono ?_
    clear b0 b1 b2 b3 b4 bz
    rintro e W5 ⟨rfl, hb⟩
    have HF := Lib.hid ((hb.block _ (lt_of_heap HF.out)).trans HF.out)
    have HA := Lib.hid (HA.out.below hb)
    have HB := Lib.hid (chain HB.out hb)
    clear hb
    rw [Efb.out]
    have f0 := cell_at HF.out 0
    have f1 := cell_at HF.out 1
    have f2 := cell_at HF.out 2
    have fz := lt_of_heap HF.out
    simp only [List.getElem?_toArray, List.getElem?_cons_zero, List.getElem?_cons_succ] at f0 f1 f2
    obtain ⟨W6, hW6⟩ : ∃ Xz, W5.alloc (.cells #[.int .i64 Q1, .int .i64 Q2, .int .i64 Q3] 104) = Xz := ⟨_, rfl⟩
    obtain ⟨gb, hgb⟩ : ∃ xz, W5.heap.size = xz := ⟨_, rfl⟩
    have hb6 : Below W5.heap.size W5 W6 := by rw [← hW6]; exact (Below.refl _ _).alloc (Nat.le_refl _) _
    have HG := Lib.hid (by rw [← hW6, ← hgb]; exact alloc_new rfl : W6.heap[gb]? = some (.cells #[.int .i64 Q1, .int .i64 Q2, .int .i64 Q3] 104 (0, 0)))
    have EW6 := Lib.hid hW6
    have Egb := Lib.hid hgb
    clear hW6 hgb
    have hn : (Q1 != 0) = true := by simpa using HQ.out
    go_wp2_with fail
    refine region_calm (by kernel_rfl) (by kernel_rfl) ?_
    repeat (quiet_step ((fail)))
    refine wpQuiet_nil ?_
    rintro _ ⟨x, rfl⟩
    go_wp2
    go_ret3
    exact .inl ⟨⟨rfl, Later.chain (HB.out.alloc HB.out.size _) x⟩, HQN.out⟩
  · have HM := Lib.hid hm
    have HMB := Lib.hid (Nat.le_trans HB.out.size hmb)
    have hn3 : D.nm ≤ 300 := by
      have h1 := of_decide_eq_false HLR.out
      have h2 := hm.nw
      have h3 := hm.nm
      omega
    have HN := Lib.hid hn3
    have HC := Lib.hid (fun W (h : At W D p) => Check_calls D p W h)
    have HX := Lib.hid ((hb.block _ (lt_of_heap HX.out)).trans HX.out)
    have HA := Lib.hid (HA.out.below hb)
    have HB := Lib.hid (chain HB.out hb)
    rw [hq] at HC
    clear hq hm hmb hn3 b0 b1 b2 b3 b4 bz hb
    dsimp only at HC
    obtain ⟨W4, hW4⟩ : ∃ Xz, W3.alloc (.cells #[.int .i64 0, .int .i64 0, .int .i64 0] 100) = Xz := ⟨_, rfl⟩
    obtain ⟨fb, hfb⟩ : ∃ xz, W3.heap.size = xz := ⟨_, rfl⟩
    have hb4 : Below W3.heap.size W3 W4 := by rw [← hW4]; exact (Below.refl _ _).alloc (Nat.le_refl _) _
    have HF := Lib.hid (by rw [← hW4, ← hfb]; exact alloc_new rfl : W4.heap[fb]? = some (.cells #[.int .i64 0, .int .i64 0, .int .i64 0] 100 (0, 0)))
    have EW4 := Lib.hid hW4
    have Efb := Lib.hid hfb
    clear hW4 hfb
    have b0 := cell_at HX.out 0
    have b1 := cell_at HX.out 1
    have b2 := cell_at HX.out 2
    have b3 := cell_at HX.out 3
    have b4 := cell_at HX.out 4
    have bz := lt_of_heap HX.out
    simp only [List.getElem?_toArray, List.getElem?_cons_zero, List.getElem?_cons_succ] at b0 b1 b2 b3 b4
    have HX := Lib.hid ((hb4.block _ (lt_of_heap HX.out)).trans HX.out)
    have HA := Lib.hid (HA.out.below hb4)
    have HM := Lib.hid (HM.out.below hb4)
    have HB := Lib.hid (chain HB.out hb4)
    clear hb4
    go_wp2_with fail
    rw [EW4.out]
    refine (HC.out W4 HA.out).mono ?_
    clear b0 b1 b2 b3 b4 bz
    rintro e W5 ⟨rfl, hb⟩
    have HF := Lib.hid ((hb.block _ (lt_of_heap HF.out)).trans HF.out)
    have HM := Lib.hid (HM.out.below hb)
    have HB := Lib.hid (chain HB.out hb)
    clear hb
    rw [Efb.out]
    have f0 := cell_at HF.out 0
    have f1 := cell_at HF.out 1
    have f2 := cell_at HF.out 2
    have fz := lt_of_heap HF.out
    simp only [List.getElem?_toArray, List.getElem?_cons_zero, List.getElem?_cons_succ] at f0 f1 f2
    go_wp2_with fail
    go_ret3
    exact .inr ⟨mb, rfl, HM.out.below ((Below.refl _ _).alloc (Nat.le_refl _) _), HMB.out, HB.out.alloc HB.out.size _, HN.out⟩
theorem Of_calls (D : Dt) (p : Pl) (w : World) (h : At w D p) :
    Calls Tryd.prog 16 #[.agg #[.slice p.a0 D.nw p.c0, .slice p.a1 D.nm p.c1, .slice p.a2 D.n0 p.c2, .slice p.a3 D.n1 p.c3, .slice p.a4 D.n2 p.c4]] w (Kept D w) :=
  (OfX_calls D p w h).mono fun _ _ h => h.elim (fun h => .inl h.1) .inr
end Go.Proofs.YtkjkgpdfhmoenaaDoor.Keep
