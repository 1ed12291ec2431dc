/-
  classes.New.
-/
import Derived.Test.YtkjkgpdfhmoenaaDoorTab
import Derived.Test.YtkjkgpdfhmoenaaDoorCopied
import Derived.Test.YtkjkgpdfhmoenaaDoorSpMeet
namespace Go.Proofs.YtkjkgpdfhmoenaaDoor.Cls
open Go Go.RowKit Go.Proofs.YtkjkgpdfhmoenaaDoor.Kit Go.Proofs.YtkjkgpdfhmoenaaDoor.SpFns Go.Proofs.YtkjkgpdfhmoenaaDoor.SpFind Go.Proofs.YtkjkgpdfhmoenaaDoor.SpSize Go.Proofs.YtkjkgpdfhmoenaaDoor.SpLists Go.Proofs.YtkjkgpdfhmoenaaDoor.SpRef Go.Proofs.YtkjkgpdfhmoenaaDoor.SpRight Go.Proofs.YtkjkgpdfhmoenaaDoor.SpMeet Go.Proofs.YtkjkgpdfhmoenaaDoor.Dt Go.Proofs.YtkjkgpdfhmoenaaDoor.Chk4 Go.Proofs.YtkjkgpdfhmoenaaDoor.Tab Go.Proofs.YtkjkgpdfhmoenaaDoor.Clone
attribute [local irreducible] wpQuiet

/-- classes.New's answer: a table, or what is wrong. -/
def Made (D : Dt) (T : Int × Int × Int) (w : World) (x : Ending) (w' : World) : Prop :=
  (T.1 ≠ 0 ∧ x = .returned (.tuple #[.pointer none, .agg #[.int .i64 T.1, .int .i64 T.2.1, .int .i64 T.2.2]]) ∧ Below w.heap.size w w') ∨
  (T = (0, 0, 0) ∧ ∃ tb p, x = .returned (.tuple #[.pointer (some ⟨tb, 0, none⟩), .agg #[.int .i64 0, .int .i64 0, .int .i64 0]]) ∧ Tab w' D tb p ∧ (∀ b, Pl.tab p tb b → w.heap.size ≤ b) ∧ Ok D 3 ∧ Below w.heap.size w w')

structure Bx (w : World) (D : Dt) (p : Pl) (tb rb : Nat) : Prop where
  t : Tab w D tb p
  r : w.heap[rb]? = some (.cells #[.int .i64 0, .int .i64 0, .int .i64 0] 130 (0, 0))
theorem Bx.below {w w' : World} {D : Dt} {p : Pl} {tb rb : Nat} (h : Bx w D p tb rb) (hb : Below w.heap.size w w') : Bx w' D p tb rb := ⟨h.t.below hb, (hb.block _ (lt_of_heap h.r)).trans h.r⟩

/-- The row that the program has found of list i behind j lists. -/
def Rw (D : Dt) (i j : Nat) : Int := if F D i j < 0 then nk D i else F D i j

theorem F_lt (D : Dt) (i : Nat) : ∀ j, F D i j < nk D i ∧ -1 ≤ F D i j
  | 0 => ⟨by show (-1 : Int) < _; omega, by show (-1 : Int) ≤ -1; omega⟩
  | j + 1 => by
    have h := F_lt D i j
    have n := fr_nonneg (hit (lk D i) (Chk4.hk D i) (lk D j) (Chk4.hk D j) (nk D j)) (nk D i) 0
    have e : mk D i j = fr (hit (lk D i) (Chk4.hk D i) (lk D j) (Chk4.hk D j) (nk D j)) (nk D i) 0 := rfl
    simp only [F]
    split
    · rename_i hm
      have := fr_lt (hit (lk D i) (Chk4.hk D i) (lk D j) (Chk4.hk D j) (nk D j)) (nk D i) 0 (by rw [← e]; exact hm.1)
      rw [← e] at this n
      omega
    · exact h
theorem Rw_no {D : Dt} {i j : Nat} (h : (mk D i j).2 = false) : Rw D i (j + 1) = Rw D i j ∧ F D i (j + 1) = F D i j := by
  have : F D i (j + 1) = F D i j := by simp [F, h]
  exact ⟨by unfold Rw; rw [this], this⟩
theorem Rw_yes {D : Dt} {i j : Nat} (h : (mk D i j).2 = true) : Rw D i (j + 1) = min (Rw D i j) (mk D i j).1 ∧ 0 ≤ F D i (j + 1) := by
  have n := fr_nonneg (hit (lk D i) (Chk4.hk D i) (lk D j) (Chk4.hk D j) (nk D j)) (nk D i) 0
  have e : mk D i j = fr (hit (lk D i) (Chk4.hk D i) (lk D j) (Chk4.hk D j) (nk D j)) (nk D i) 0 := rfl
  have l := fr_lt (hit (lk D i) (Chk4.hk D i) (lk D j) (Chk4.hk D j) (nk D j)) (nk D i) 0 (by rw [← e]; exact h)
  rw [← e] at n l
  have hF : F D i (j + 1) = if F D i j < 0 ∨ (mk D i j).1 < F D i j then (mk D i j).1 else F D i j := by simp [F, h]
  unfold Rw
  rw [hF]
  generalize (mk D i j).1 = m at n l ⊢
  generalize F D i j = f
  by_cases h1 : f < 0
  · have e1 : (if f < 0 ∨ m < f then m else f) = m := if_pos (.inl h1)
    have e2 : ¬ m < 0 := by omega
    rw [e1, if_neg e2, if_pos h1]
    exact ⟨(Int.min_eq_right (by omega)).symm, n⟩
  · by_cases h2 : m < f
    · have e1 : (if f < 0 ∨ m < f then m else f) = m := if_pos (.inr h2)
      have e2 : ¬ m < 0 := by omega
      rw [e1, if_neg e2, if_neg h1]
      exact ⟨(Int.min_eq_right (by omega)).symm, n⟩
    · have e1 : (if f < 0 ∨ m < f then m else f) = f := if_neg (by omega)
      rw [e1, if_neg h1]
      exact ⟨(Int.min_eq_left (by omega)).symm, by omega⟩

theorem in_apart {D : Dt} {i j : Nat} {r : Int} (h : (mk D i j).2 = false) (h1 : InD (lk D i) (Chk4.hk D i) (nk D i) r = true) (h2 : InD (lk D j) (Chk4.hk D j) (nk D j) r = true) : False := by
  obtain ⟨_, a, ha, h3, h4⟩ := of_decide_eq_true h1
  obtain ⟨_, b, hb, h5, h6⟩ := of_decide_eq_true h2
  have hh : hit (lk D i) (Chk4.hk D i) (lk D j) (Chk4.hk D j) (nk D j) a = true := decide_eq_true ⟨b, hb, by omega, by omega⟩
  have : ∀ (n s : Nat), s ≤ a → a < s + n → (fr (hit (lk D i) (Chk4.hk D i) (lk D j) (Chk4.hk D j) (nk D j)) n s).2 = true := by
    intro n
    induction n with
    | zero => intro s h1 h2; omega
    | succ n ih =>
      intro s h1 h2
      rw [fr]
      split
      · rfl
      · rename_i hn
        rcases Nat.eq_or_lt_of_le h1 with rfl | h7
        · exact absurd hh hn
        · exact ih (s + 1) h7 (by omega)
  have h8 := this (nk D i) 0 (Nat.zero_le _) (by omega)
  rw [show fr (hit (lk D i) (Chk4.hk D i) (lk D j) (Chk4.hk D j) (nk D j)) (nk D i) 0 = mk D i j from rfl, h] at h8
  cases h8

theorem slice_arr (w : World) (i : Nat) (hi : i ≤ 3) {tb : Nat} : (Instr.sliceAt 156 (.pointer (some ⟨tb, 0, none⟩)) none (some (.int .i64 (i : Int))) none).run Tryd.prog w = .ok (.slice (some ⟨tb, 0, none⟩) i 3) w := by
  have h0 : ∀ w, (Instr.sliceAt 156 (.pointer (some ⟨tb, 0, none⟩)) none (some (.int .i64 0)) none).run Tryd.prog w = .ok (.slice (some ⟨tb, 0, none⟩) 0 3) w := fun w => by kernel_rfl
  have h1 : ∀ w, (Instr.sliceAt 156 (.pointer (some ⟨tb, 0, none⟩)) none (some (.int .i64 1)) none).run Tryd.prog w = .ok (.slice (some ⟨tb, 0, none⟩) 1 3) w := fun w => by kernel_rfl
  have h2 : ∀ w, (Instr.sliceAt 156 (.pointer (some ⟨tb, 0, none⟩)) none (some (.int .i64 2)) none).run Tryd.prog w = .ok (.slice (some ⟨tb, 0, none⟩) 2 3) w := fun w => by kernel_rfl
  have h3 : ∀ w, (Instr.sliceAt 156 (.pointer (some ⟨tb, 0, none⟩)) none (some (.int .i64 3)) none).run Tryd.prog w = .ok (.slice (some ⟨tb, 0, none⟩) 3 3) w := fun w => by kernel_rfl
  have hi4 : i = 0 ∨ i = 1 ∨ i = 2 ∨ i = 3 := by omega
  rcases hi4 with rfl | rfl | rfl | rfl
  · exact h0 w
  · exact h1 w
  · exact h2 w
  · exact h3 w

theorem blank_iff {D : Dt} (ha : Apart D 3) : Blank D ↔ kindOf D 32 = 3 ∧ kindOf D 39 = 4 := by
  have a20 := ha 2 (by decide) 0 (by decide)
  have a21 := ha 2 (by decide) 1 (by decide)
  have i0 := fun h => in_apart (r := 32) a20 h
  have i1 := fun h => in_apart (r := 32) a21 h
  simp only [lk, Chk4.hk, nk] at i0 i1
  unfold Blank kindOf
  cases g3 : InD D.L2 D.H2 D.n2 32 <;> cases g0 : InD D.L0 D.H0 D.n0 39 <;> cases g1 : InD D.L1 D.H1 D.n1 39 <;> cases g2 : InD D.L2 D.H2 D.n2 39 <;> cases g4 : InD D.L0 D.H0 D.n0 32 <;> cases g5 : InD D.L1 D.H1 D.n1 32 <;> simp [g3, g4, g5] at i0 i1 ⊢

theorem rt_wrong_lt {L H : Nat → Int} : ∀ (n i : Nat), 0 ≤ (rt L H n i).2
  | 0, _ => Int.le_refl _
  | n + 1, i => by
    rw [rt]
    split
    · exact rt_wrong_lt n (i + 1)
    · rename_i h
      rcases bad_cases L H i with ⟨hb, _⟩ | ⟨hb, _⟩ | ⟨hb, _⟩ | ⟨hb, _⟩ | ⟨hb, _⟩ | ⟨hb, _⟩ <;> (show 0 ≤ bad L H i; rw [hb]; decide)

set_option maxHeartbeats 4000000 in
set_option maxRecDepth 100000 in
theorem New_calls (D : Dt) (p0 : Pl) (w : World) (h : At w D p0) :
    Calls Tryd.prog 65 #[.slice p0.a2 D.n0 p0.c2, .slice p0.a3 D.n1 p0.c3, .slice p0.a4 D.n2 p0.c4] w (Made D (chk4 D) w) := by
  obtain ⟨T, hT⟩ : ∃ T, T = chk4 D := ⟨_, rfl⟩
  rw [← hT]
  have HT := Lib.hid hT
  have H := Lib.hid h
  clear hT h
  go_enter Tryd.func65, Tryd.ntmps65
  go_wp2_with fail
  generalize hW : World.alloc _ _ = W1
  have hb1 : Below w.heap.size w W1 := by rw [← hW]; exact (Below.refl _ _).alloc (Nat.le_refl _) _
  have hr1 : W1.heap[w.heap.size]? = some (.cells #[.int .i64 0, .int .i64 0, .int .i64 0] 130 (0, 0)) := by rw [← hW]; exact alloc_new rfl
  have HA := Lib.hid (H.out.below hb1)
  have HB := Lib.hid hb1
  have HR := Lib.hid hr1
  obtain ⟨rb, hrb⟩ : ∃ rb, rb = w.heap.size := ⟨_, rfl⟩
  have hsz : w.heap.size ≤ rb := by omega
  rw [← hrb] at HR ⊢
  clear hW hb1 hr1 hrb
  refine (CloneS _ _ _ _ _ W1 HA.out.l0 (by have := HA.out.b0; omega)).mono ?_
  rintro e W2 ⟨a2, c2, rfl, hc2, hl0, hn0, hb2⟩
  have HL0 := Lib.hid hl0
  have HN0 := Lib.hid (fun y hy => Nat.le_trans HB.out.size (hn0 y hy).1)
  have hrlt : rb < W1.heap.size := lt_of_heap HR.out
  have hnn0 : ∀ y, a2 = some y → rb < y.block := fun y hy => Nat.lt_of_lt_of_le hrlt (hn0 y hy).1
  have hs12 := hb2.size
  have HA := Lib.hid (HA.out.below hb2)
  have HR := Lib.hid ((hb2.block _ (lt_of_heap HR.out)).trans HR.out)
  have HB := Lib.hid (chain HB.out hb2)
  clear hl0 hn0 hb2 hc2
  go_wp2_with fail
  refine (CloneS _ _ _ _ _ W2 HA.out.l1 (by have := HA.out.b1; omega)).mono ?_
  rintro e W3 ⟨a3, c3, rfl, hc3, hl1, hn1, hb3⟩
  have HL1 := Lib.hid hl1
  have HN1 := Lib.hid (fun y hy => Nat.le_trans HB.out.size (hn1 y hy).1)
  have hnn1 : ∀ y, a3 = some y → rb < y.block := fun y hy => by have := (hn1 y hy).1; omega
  have hs23 := hb3.size
  have HL0 := Lib.hid (HL0.out.below hb3)
  have HA := Lib.hid (HA.out.below hb3)
  have HR := Lib.hid ((hb3.block _ (lt_of_heap HR.out)).trans HR.out)
  have HB := Lib.hid (chain HB.out hb3)
  clear hl1 hn1 hb3 hc3
  go_wp2_with fail
  refine (CloneS _ _ _ _ _ W3 HA.out.l2 (by have := HA.out.b2; omega)).mono ?_
  rintro e W4 ⟨a4, c4, rfl, hc4, hl2, hn2, hb4⟩
  have HL2 := Lib.hid hl2
  have HN2 := Lib.hid (fun y hy => Nat.le_trans HB.out.size (hn2 y hy).1)
  have hnn2 : ∀ y, a4 = some y → rb < y.block := fun y hy => by have := (hn2 y hy).1; omega
  have hs34 := hb4.size
  have HL0 := Lib.hid (HL0.out.below hb4)
  have HL1 := Lib.hid (HL1.out.below hb4)
  have HA := Lib.hid (HA.out.below hb4)
  have HR := Lib.hid ((hb4.block _ (lt_of_heap HR.out)).trans HR.out)
  have HB := Lib.hid (chain HB.out hb4)
  clear hl2 hn2 hb4 hc4
  obtain ⟨W5, hW5⟩ : ∃ W5, W4.alloc (.cells #[.slice a2 D.n0 c2, .slice a3 D.n1 c3, .slice a4 D.n2 c4] 158) = W5 := ⟨_, rfl⟩
  have hb5 : Below W4.heap.size W4 W5 := by rw [← hW5]; exact (Below.refl _ _).alloc (Nat.le_refl _) _
  have ht5 : W5.heap[W4.heap.size]? = some (.cells #[.slice a2 D.n0 c2, .slice a3 D.n1 c3, .slice a4 D.n2 c4] 158 (0, 0)) := by rw [← hW5]; exact alloc_new rfl
  obtain ⟨tb, htb⟩ : ∃ tb, W4.heap.size = tb := ⟨_, rfl⟩
  have hszt : w.heap.size ≤ tb := by rw [← htb]; exact HB.out.size
  rw [htb] at ht5
  obtain ⟨p, hp⟩ : ∃ p : Pl, p = ⟨none, 0, none, 0, a2, c2, a3, c3, a4, c4⟩ := ⟨_, rfl⟩
  have hx5 : Bx W5 D p tb rb := by
    rw [hp]
    refine ⟨⟨ht5, fun k hk => ?_, fun k hk => ?_⟩, (hb5.block _ (lt_of_heap HR.out)).trans HR.out⟩
    · match k, hk with
      | 0, _ => exact HL0.out.below hb5
      | 1, _ => exact HL1.out.below hb5
      | 2, _ => exact HL2.out.below hb5
    · match k, hk with
      | 0, _ => exact HA.out.b0
      | 1, _ => exact HA.out.b1
      | 2, _ => exact HA.out.b2
  have hnew : ∀ b, Pl.tab p tb b → w.heap.size ≤ b := by
    rw [hp]
    rintro b (rfl | ⟨k, hk, x, hx, rfl⟩)
    · exact hszt
    · match k, hk with
      | 0, _ => exact HN0.out x hx
      | 1, _ => exact HN1.out x hx
      | 2, _ => exact HN2.out x hx
  have hne : ∀ b, Pl.tab p tb b → b ≠ rb := by
    rw [hp]
    rintro b (rfl | ⟨k, hk, x, hx, rfl⟩)
    · intro e
      have := lt_of_heap HR.out
      omega
    · have h1 := hrlt
      match k, hk with
      | 0, _ => have := hnn0 x hx; omega
      | 1, _ => have := hnn1 x hx; omega
      | 2, _ => have := hnn2 x hx; omega
  have HX5 := Lib.hid hx5
  have HNEW := Lib.hid hnew
  have HNE := Lib.hid hne
  have HB5 := Lib.hid (chain HB.out hb5)
  obtain ⟨rfl, rfl, rfl, rfl, rfl, rfl⟩ : a2 = p.a2 ∧ c2 = p.c2 ∧ a3 = p.a3 ∧ c3 = p.c3 ∧ a4 = p.a4 ∧ c4 = p.c4 := by rw [hp]; exact ⟨rfl, rfl, rfl, rfl, rfl, rfl⟩
  clear hb5 ht5 hx5 hnew hne hp hnn0 hnn1 hnn2 hs12 hs23 hs34 hrlt HL0 HL1 HL2 HN0 HN1 HN2 HR HB HA
  have HX := HX5
  have r0 := cell_at HX.out.r 0
  have r1 := cell_at HX.out.r 1
  have r2 := cell_at HX.out.r 2
  have q0 := free_at HX.out.r 0
  have q1 := free_at HX.out.r 1
  have q2 := free_at HX.out.r 2
  have zr := lt_of_heap HX.out.r
  have t0 := cell_at HX.out.t.t 0
  have t1 := cell_at HX.out.t.t 1
  have t2 := cell_at HX.out.t.t 2
  have zt := lt_of_heap HX.out.t.t
  simp only [List.getElem?_toArray, List.getElem?_cons_zero, List.getElem?_cons_succ] at r0 r1 r2 t0 t1 t2
  go_wp2_with fail
  clear hW5 htb r0 r1 r2 q0 q1 q2 zr t0 t1 t2 zt HX
  go_loopg [36] 3 (fun g s36 wr => ∃ k : Nat, k ≤ 3 ∧ g = 3 - k ∧ s36 = .int .i64 k ∧ W5 = wr ∧ Few D k)
  case atStart => exact ⟨0, by omega, by omega, rfl, rfl, fun j hj => by omega⟩
  case round =>
    obtain ⟨k, hk, hg, rfl, rfl, hfew⟩ := hrel
    have HG := Lib.hid hg
    have HF := Lib.hid hfew
    have HX := HX5
    have HB := HB5
    clear hg hfew
    have r0 := cell_at HX.out.r 0
    have r1 := cell_at HX.out.r 1
    have r2 := cell_at HX.out.r 2
    have q0 := free_at HX.out.r 0
    have q1 := free_at HX.out.r 1
    have q2 := free_at HX.out.r 2
    have zr := lt_of_heap HX.out.r
    have t0 := cell_at HX.out.t.t 0
    have t1 := cell_at HX.out.t.t 1
    have t2 := cell_at HX.out.t.t 2
    have zt := lt_of_heap HX.out.t.t
    simp only [List.getElem?_toArray, List.getElem?_cons_zero, List.getElem?_cons_succ] at r0 r1 r2 t0 t1 t2
    by_cases hlt : k < 3
    · have hlti : (k : Int) < 3 := by omega
      have hix := fun w => index_k (T := 156) (P := Tryd.prog) (e := 0) (D := D) (p := p) (fun x0 x1 x2 w => by kernel_rfl) (fun x0 x1 x2 w => by kernel_rfl) (fun x0 x1 x2 w => by kernel_rfl) rfl hlt w
      have hn := HX.out.t.b k hlt
      have HL := Lib.hid (fun (h : 512 < nk D k) => HT.out.trans (chk_many hlt HF.out h))
      have HS := Lib.hid (fun (h : ¬ 512 < nk D k) => few_step HF.out h)
      have hw : IntKind.i64.wrap (1 + (k : Int)) = (k : Int) + 1 := by rw [i64w _ (by omega) (by omega)]; omega
      generalize nk D k = n at hix hn HL HS
      generalize Chk4.ck p k = c at hix
      generalize ak p k = a at hix
      by_cases hbig : 512 < n
      · have hbi : (512 : Int) < n := by omega
        have HL2 := Lib.hid (HL.out hbig)
        go_wp2_with fail
        refine bodyPost_ret (v := .tuple #[.pointer none, .agg #[.int .i64 (4), .int .i64 ((k : Int) + 1), .int .i64 (512)]]) (by simp [results, Tryd.results65, go_sem, *]) rfl (.inl ⟨?_, ?_, ?_⟩)
        · show T.1 ≠ 0
          rw [show T = (4, (k : Int) + 1, 512) from HL2.out]
          exact (by decide : (4 : Int) ≠ 0)
        · rw [show T = (4, (k : Int) + 1, 512) from HL2.out]
        · have hB := HB.out
          exact ((hB.setCell hsz _).setCell hsz _).setCell hsz _
      · have hbi : ¬ ((512 : Int) < n) := by omega
        clear hw
        go_wp2_with fail
        go_roundg (3 - (k + 1))
        case measure => have := HG.out; omega
        case rel => exact ⟨k + 1, by omega, rfl, by go_num, rfl, HS.out hbig⟩
    · have hk3 : k = 3 := by omega
      subst hk3
      go_wp2_with fail
      clear r0 r1 r2 q0 q1 q2 zr t0 t1 t2 zt HX HB
      go_loopg [51] 3 (fun g s51 wr => ∃ k : Nat, k ≤ 3 ∧ g = 3 - k ∧ s51 = .int .i64 k ∧ Below W5.heap.size W5 wr ∧ Ok D k)
      case atStart => exact ⟨0, by omega, by omega, rfl, Below.refl _ _, fun j hj => by omega⟩
      case round =>
        obtain ⟨k, hk, hg, rfl, hb, hok⟩ := hrel
        have HG := Lib.hid hg
        have HO := Lib.hid hok
        have HX := Lib.hid (HX5.out.below hb)
        have HB := Lib.hid (chain HB5.out hb)
        have HBW := Lib.hid hb
        clear hg hok hb
        by_cases hlt : k < 3
        · have hlti : (k : Int) < 3 := by omega
          have hix := fun w => index_k (T := 156) (P := Tryd.prog) (e := 0) (D := D) (p := p) (fun x0 x1 x2 w => by kernel_rfl) (fun x0 x1 x2 w => by kernel_rfl) (fun x0 x1 x2 w => by kernel_rfl) rfl hlt w
          have K1 := Lib.hid (Right_calls (ak p k) (nk D k) (Chk4.ck p k) (lk D k) (Chk4.hk D k) wr (HX.out.t.r k hlt) (by have := HX.out.t.b k hlt; omega))
          have HL := Lib.hid (fun (h : (rk D k).2 ≠ 0) => HT.out.trans (chk_wrong hlt HF.out HO.out h))
          have HS := Lib.hid (fun (h : (rk D k).2 = 0) => ok_step HO.out h)
          have hrk : rt (lk D k) (Chk4.hk D k) (nk D k) 0 = rk D k := rfl
          rw [hrk] at K1
          generalize rk D k = R at K1 HL HS
          generalize nk D k = n at hix K1
          generalize Chk4.ck p k = c at hix K1
          generalize ak p k = a at hix K1
          clear hrk
          go_wp2_with fail
          refine K1.out.mono ?_
          rintro e W6 ⟨rfl, hb⟩
          have HX := Lib.hid (HX.out.below hb)
          have HB := Lib.hid (chain HB.out hb)
          have HBW := Lib.hid (chain HBW.out hb)
          obtain ⟨R1, R2⟩ := R
          simp only at HL HS
          clear hb hix
          have r0 := cell_at HX.out.r 0
          have r1 := cell_at HX.out.r 1
          have r2 := cell_at HX.out.r 2
          have q0 := free_at HX.out.r 0
          have q1 := free_at HX.out.r 1
          have q2 := free_at HX.out.r 2
          have zr := lt_of_heap HX.out.r
          have t0 := cell_at HX.out.t.t 0
          have t1 := cell_at HX.out.t.t 1
          have t2 := cell_at HX.out.t.t 2
          have zt := lt_of_heap HX.out.t.t
          simp only [List.getElem?_toArray, List.getElem?_cons_zero, List.getElem?_cons_succ] at r0 r1 r2 t0 t1 t2
          by_cases hR : R2 = 0
          · have HS2 := Lib.hid (HS.out hR)
            subst hR
            go_wp2_with fail
            go_roundg (3 - (k + 1))
            case measure => have := HG.out; omega
            case rel => exact ⟨k + 1, by omega, rfl, by go_num, HBW.out, HS2.out⟩
          · have hw : IntKind.i64.wrap (1 + (k : Int)) = (k : Int) + 1 := by rw [i64w _ (by omega) (by omega)]; omega
            have HL2 := Lib.hid (HL.out hR)
            have HRN := Lib.hid hR
            have hR' : (R2 != 0) = true := by simpa using hR
            clear hR
            go_wp2_with fail
            refine bodyPost_ret (v := .tuple #[.pointer none, .agg #[.int .i64 (R2), .int .i64 ((k : Int) + 1), .int .i64 (R1)]]) (by simp [results, Tryd.results65, go_sem, *]) rfl (.inl ⟨?_, ?_, ?_⟩)
            · show T.1 ≠ 0
              rw [show T = (R2, (k : Int) + 1, R1) from HL2.out]
              exact HRN.out
            · rw [show T = (R2, (k : Int) + 1, R1) from HL2.out]
            · have hB := HB.out
              exact ((hB.setCell hsz _).setCell hsz _).setCell hsz _
        · have hk3 : k = 3 := by omega
          subst hk3
          have r0 := cell_at HX.out.r 0
          have r1 := cell_at HX.out.r 1
          have r2 := cell_at HX.out.r 2
          have q0 := free_at HX.out.r 0
          have q1 := free_at HX.out.r 1
          have q2 := free_at HX.out.r 2
          have zr := lt_of_heap HX.out.r
          have t0 := cell_at HX.out.t.t 0
          have t1 := cell_at HX.out.t.t 1
          have t2 := cell_at HX.out.t.t 2
          have zt := lt_of_heap HX.out.t.t
          simp only [List.getElem?_toArray, List.getElem?_cons_zero, List.getElem?_cons_succ] at r0 r1 r2 t0 t1 t2
          go_wp2_with fail
          clear r0 r1 r2 q0 q1 q2 zr t0 t1 t2 zt
          obtain ⟨wa, hwa⟩ : ∃ wa : World, wa = wr := ⟨_, rfl⟩
          rw [← hwa] at HX HB HBW ⊢
          clear hwa
          go_loopg [72] 3 (fun g s72 wx => ∃ i : Nat, i ≤ 3 ∧ g = 3 - i ∧ s72 = .int .i64 i ∧ Below wa.heap.size wa wx ∧ Apart D i)
          case atStart => exact ⟨0, by omega, by omega, rfl, Below.refl _ _, fun i' hi' j hj => by omega⟩
          case round =>
            obtain ⟨i, hk, hg, rfl, hb, hap⟩ := hrel
            have HG := Lib.hid hg
            have HAP := Lib.hid hap
            have HX := Lib.hid (HX.out.below hb)
            have HB := Lib.hid (chain HB.out hb)
            have HBA := Lib.hid hb
            clear hg hap hb
            have r0 := cell_at HX.out.r 0
            have r1 := cell_at HX.out.r 1
            have r2 := cell_at HX.out.r 2
            have q0 := free_at HX.out.r 0
            have q1 := free_at HX.out.r 1
            have q2 := free_at HX.out.r 2
            have zr := lt_of_heap HX.out.r
            have t0 := cell_at HX.out.t.t 0
            have t1 := cell_at HX.out.t.t 1
            have t2 := cell_at HX.out.t.t 2
            have zt := lt_of_heap HX.out.t.t
            simp only [List.getElem?_toArray, List.getElem?_cons_zero, List.getElem?_cons_succ] at r0 r1 r2 t0 t1 t2
            by_cases hlt : i < 3
            · have hlti : (i : Int) < 3 := by omega
              have hix := fun w => index_k (T := 156) (P := Tryd.prog) (e := 0) (D := D) (p := p) (fun x0 x1 x2 w => by kernel_rfl) (fun x0 x1 x2 w => by kernel_rfl) (fun x0 x1 x2 w => by kernel_rfl) rfl hlt w
              have HOV := Lib.hid (fun (h1 : 1 ≤ i) (h : 0 ≤ F D i i) => HT.out.trans (chk_over h1 hlt HF.out HO.out HAP.out h))
              have HNX := Lib.hid (fun (h : F D i i < 0) => (Nat.eq_zero_or_pos i).elim (fun h0 => (fun i' hi' j hj => by omega : Apart D (i + 1))) (fun h1 => apart_step h1 hlt HAP.out h))
              have hnb := HX.out.t.b i hlt
              have hsl : ∀ w, (Instr.sliceAt 156 (.pointer (some ⟨tb, 0, none⟩)) none (some (.int .i64 (i : Int))) none).run Tryd.prog w = .ok (.slice (some ⟨tb, 0, none⟩) i 3) w := fun w => slice_arr w i (by omega)
              have hR0 : (nk D i : Int) = Rw D i 0 := rfl
              have hF0 : false = decide (0 ≤ F D i 0) := rfl
              have HR0 := Lib.hid hR0
              have HF0 := Lib.hid hF0
              clear hR0 hF0
              go_wp2_with fail
              clear r0 r1 r2 q0 q1 q2 zr t0 t1 t2 zt hix hsl
              rw [HR0.out]
              obtain ⟨wo, hwo⟩ : ∃ wo : World, wo = wr := ⟨_, rfl⟩
              rw [← hwo] at HX HB HBA ⊢
              clear hwo
              go_loopg [84, 17, 18] i (fun g s84 s17 s18 wx => ∃ j : Nat, j ≤ i ∧ g = i - j ∧ s84 = .int .i64 j ∧ s17 = .int .i64 (Rw D i j) ∧ s18 = .bool (decide (0 ≤ F D i j)) ∧ Below wo.heap.size wo wx)
              case atStart => exact ⟨0, by omega, by omega, rfl, rfl, by rw [← HF0.out], Below.refl _ _⟩
              case round =>
                obtain ⟨j, hj, hg2, rfl, rfl, rfl, hb⟩ := hrel
                have HG2 := Lib.hid hg2
                have HX := Lib.hid (HX.out.below hb)
                have HB := Lib.hid (chain HB.out hb)
                have HBA := Lib.hid (chain HBA.out hb)
                have HBO := Lib.hid hb
                clear hg2 hb
                by_cases hjl : j < i
                · have hji : (j : Int) < i := by omega
                  have cj := cell_k HX.out.t.t (show j < 3 by omega)
                  have zl := lt_of_heap HX.out.t.t
                  have K1 := Lib.hid (Meet_calls (ak p i) (ak p j) (nk D i) (Chk4.ck p i) (nk D j) (Chk4.ck p j) (lk D i) (Chk4.hk D i) (lk D j) (Chk4.hk D j) wr (HX.out.t.r i hlt) (HX.out.t.r j (by omega)) (rt_all HO.out i) (rt_all HO.out j))
                  have hmk : fr (hit (lk D i) (Chk4.hk D i) (lk D j) (Chk4.hk D j) (nk D j)) (nk D i) 0 = mk D i j := rfl
                  rw [hmk] at K1
                  clear hmk
                  have HY := Lib.hid (Rw_yes (D := D) (i := i) (j := j))
                  have HN := Lib.hid (Rw_no (D := D) (i := i) (j := j))
                  generalize mk D i j = M at K1 HY HN
                  obtain ⟨M1, M2⟩ := M
                  simp only at K1 HY HN
                  have cj' := cj
                  clear cj
                  obtain ⟨aj, haj⟩ : ∃ a, a = ak p j := ⟨_, rfl⟩
                  obtain ⟨nj, hnj⟩ : ∃ a, a = nk D j := ⟨_, rfl⟩
                  obtain ⟨ccj, hccj⟩ : ∃ a, a = Chk4.ck p j := ⟨_, rfl⟩
                  rw [← haj, ← hnj, ← hccj] at cj' K1
                  have cj := cj'
                  clear cj' haj hnj hccj
                  obtain ⟨R, hR⟩ : ∃ R, R = Rw D i j := ⟨_, rfl⟩
                  obtain ⟨o, ho⟩ : ∃ o, o = decide (0 ≤ F D i j) := ⟨_, rfl⟩
                  rw [← hR] at HY HN ⊢
                  rw [← ho]
                  have HOO := Lib.hid ho
                  clear hR ho
                  go_wp2_with fail
                  refine K1.out.mono ?_
                  rintro e W6 ⟨rfl, hb⟩
                  have HBO := Lib.hid (chain HBO.out hb)
                  clear hb cj zl
                  cases M2 with
                  | false =>
                    have HN2 := Lib.hid (HN.out rfl)
                    go_wp2_with fail
                    go_roundg (i - (j + 1))
                    case measure => have := HG2.out; omega
                    case rel => exact ⟨j + 1, by omega, rfl, by go_num, by rw [HN2.out.1], by rw [HOO.out, HN2.out.2], HBO.out⟩
                  | true =>
                    have HY2 := Lib.hid (HY.out rfl)
                    by_cases hm : R ≤ M1
                    · have hmn : min R M1 = R := Int.min_eq_left hm
                      have HM := Lib.hid hmn
                      clear hmn
                      go_wp2_with fail
                      go_roundg (i - (j + 1))
                      case measure => have := HG2.out; omega
                      case rel => exact ⟨j + 1, by omega, rfl, by go_num, by rw [HY2.out.1, HM.out], by rw [decide_eq_true HY2.out.2], HBO.out⟩
                    · have hmn : min R M1 = M1 := Int.min_eq_right (by omega)
                      have HM := Lib.hid hmn
                      have hm2 : M1 < R := by omega
                      clear hmn
                      go_wp2_with fail
                      go_roundg (i - (j + 1))
                      case measure => have := HG2.out; omega
                      case rel => exact ⟨j + 1, by omega, rfl, by go_num, by rw [HY2.out.1, HM.out], by rw [decide_eq_true HY2.out.2], HBO.out⟩
                · have hjk : j = i := by omega
                  subst hjk
                  have hw : IntKind.i64.wrap (1 + (j : Int)) = (j : Int) + 1 := by rw [i64w _ (by omega) (by omega)]; omega
                  by_cases g : 0 ≤ F D j j
                  · have g0 : j ≠ 0 := by
                      intro h
                      subst h
                      simp [F] at g
                    have HL := Lib.hid (HOV.out (by omega) g)
                    have hRw : Rw D j j = F D j j := by unfold Rw; rw [if_neg (by omega)]
                    have e1 : decide (0 ≤ F D j j) = true := decide_eq_true g
                    rw [hRw, e1]
                    generalize F D j j = f at HL ⊢
                    clear g g0 hRw e1
                    have r0 := cell_at HX.out.r 0
                    have r1 := cell_at HX.out.r 1
                    have r2 := cell_at HX.out.r 2
                    have q0 := free_at HX.out.r 0
                    have q1 := free_at HX.out.r 1
                    have q2 := free_at HX.out.r 2
                    have zr := lt_of_heap HX.out.r
                    have t0 := cell_at HX.out.t.t 0
                    have t1 := cell_at HX.out.t.t 1
                    have t2 := cell_at HX.out.t.t 2
                    have zt := lt_of_heap HX.out.t.t
                    simp only [List.getElem?_toArray, List.getElem?_cons_zero, List.getElem?_cons_succ] at r0 r1 r2 t0 t1 t2
                    go_wp2_with fail
                    refine bodyPost_ret (v := .tuple #[.pointer none, .agg #[.int .i64 (16), .int .i64 ((j : Int) + 1), .int .i64 (f)]]) (by simp [results, Tryd.results65, go_sem, *]) rfl (.inl ⟨?_, ?_, ?_⟩)
                    · show T.1 ≠ 0
                      rw [show T = (16, (j : Int) + 1, f) from HL.out]
                      exact (by decide : (16 : Int) ≠ 0)
                    · rw [show T = (16, (j : Int) + 1, f) from HL.out]
                    · have hB := HB.out
                      exact ((hB.setCell hsz _).setCell hsz _).setCell hsz _
                  · have HN := Lib.hid (HNX.out (by omega))
                    have e1 : decide (0 ≤ F D j j) = false := decide_eq_false g
                    rw [e1]
                    generalize Rw D j j = f
                    clear g e1 hw
                    go_wp2_with fail
                    go_roundg (3 - (j + 1))
                    case measure => have := HG.out; omega
                    case rel => exact ⟨j + 1, by omega, rfl, by go_num, HBA.out, HN.out⟩
            · have hk3 : i = 3 := by omega
              subst hk3
              have HL := Lib.hid (chk_last HF.out HO.out HAP.out)
              have hbi := blank_iff HAP.out
              have I0 := Lib.hid (fun r W (h : Tab W D tb p) => Of_calls D tb p r W h HO.out)
              have J0 := Lib.hid (I0.out 32)
              have J1 := Lib.hid (I0.out 39)
              rw [hbi] at HL
              generalize kindOf D 32 = k0 at HL J0
              generalize kindOf D 39 = k1 at HL J1
              clear hbi I0 r0 r1 r2 q0 q1 q2 zr t0 t1 t2 zt
              go_wp2_with fail
              refine (J0.out _ HX.out.t).mono ?_
              rintro e W6 ⟨rfl, hb⟩
              have HX := Lib.hid (HX.out.below hb)
              have HB := Lib.hid (chain HB.out hb)
              clear hb
              have r0 := cell_at HX.out.r 0
              have r1 := cell_at HX.out.r 1
              have r2 := cell_at HX.out.r 2
              have q0 := free_at HX.out.r 0
              have q1 := free_at HX.out.r 1
              have q2 := free_at HX.out.r 2
              have zr := lt_of_heap HX.out.r
              have t0 := cell_at HX.out.t.t 0
              have t1 := cell_at HX.out.t.t 1
              have t2 := cell_at HX.out.t.t 2
              have zt := lt_of_heap HX.out.t.t
              simp only [List.getElem?_toArray, List.getElem?_cons_zero, List.getElem?_cons_succ] at r0 r1 r2 t0 t1 t2
              by_cases h0 : k0 = 3
              · have e0 : (k0 != 3) = false := by simp [h0]
                clear r0 r1 r2 q0 q1 q2 zr t0 t1 t2 zt
                have H0 := Lib.hid h0
                clear h0
                go_wp2_with fail
                refine (J1.out _ HX.out.t).mono ?_
                rintro e W7 ⟨rfl, hb⟩
                have HX := Lib.hid (HX.out.below hb)
                have HB := Lib.hid (chain HB.out hb)
                clear hb
                have r0 := cell_at HX.out.r 0
                have r1 := cell_at HX.out.r 1
                have r2 := cell_at HX.out.r 2
                have q0 := free_at HX.out.r 0
                have q1 := free_at HX.out.r 1
                have q2 := free_at HX.out.r 2
                have zr := lt_of_heap HX.out.r
                have t0 := cell_at HX.out.t.t 0
                have t1 := cell_at HX.out.t.t 1
                have t2 := cell_at HX.out.t.t 2
                have zt := lt_of_heap HX.out.t.t
                simp only [List.getElem?_toArray, List.getElem?_cons_zero, List.getElem?_cons_succ] at r0 r1 r2 t0 t1 t2
                by_cases h1 : k1 = 4
                · have e1 : (k1 != 4) = false := by simp [h1]
                  have HT0 := Lib.hid (HT.out.trans (HL.out.1 ⟨H0.out, h1⟩))
                  clear h1
                  go_wp2_with fail
                  refine bodyPost_ret (v := .tuple #[.pointer (some ⟨tb, 0, none⟩), .agg #[.int .i64 0, .int .i64 0, .int .i64 0]]) (by simp [results, Tryd.results65, go_sem, *]) rfl (.inr ⟨HT0.out, tb, p, rfl, ?_, HNEW.out, HO.out, ?_⟩)
                  · refine HX.out.t.keep (by simp) (fun b hb hlt => ?_)
                    have hne := HNE.out b hb
                    rw [Below.heap_setCell _ _ _ _ hne, Below.heap_setCell _ _ _ _ hne, Below.heap_setCell _ _ _ _ hne]
                  · have hB := HB.out
                    exact ((hB.setCell hsz _).setCell hsz _).setCell hsz _
                · have e1 : (k1 != 4) = true := by simpa using h1
                  have HL2 := Lib.hid (HT.out.trans (HL.out.2 (fun h => h1 h.2)))
                  clear h1
                  go_wp2_with fail
                  refine bodyPost_ret (v := .tuple #[.pointer none, .agg #[.int .i64 (20), .int .i64 (3), .int .i64 (0)]]) (by simp [results, Tryd.results65, go_sem, *]) rfl (.inl ⟨?_, ?_, ?_⟩)
                  · show T.1 ≠ 0
                    rw [show T = (20, 3, 0) from HL2.out]
                    exact (by decide : (20 : Int) ≠ 0)
                  · rw [show T = (20, 3, 0) from HL2.out]
                  · have hB := HB.out
                    exact ((hB.setCell hsz _).setCell hsz _).setCell hsz _
              · have e0 : (k0 != 3) = true := by simpa using h0
                have HL2 := Lib.hid (HT.out.trans (HL.out.2 (fun h => h0 h.1)))
                clear h0
                go_wp2_with fail
                refine bodyPost_ret (v := .tuple #[.pointer none, .agg #[.int .i64 (20), .int .i64 (3), .int .i64 (0)]]) (by simp [results, Tryd.results65, go_sem, *]) rfl (.inl ⟨?_, ?_, ?_⟩)
                · show T.1 ≠ 0
                  rw [show T = (20, 3, 0) from HL2.out]
                  exact (by decide : (20 : Int) ≠ 0)
                · rw [show T = (20, 3, 0) from HL2.out]
                · have hB := HB.out
                  exact ((hB.setCell hsz _).setCell hsz _).setCell hsz _
end Go.Proofs.YtkjkgpdfhmoenaaDoor.Cls
