/-
  How many bytes a Cutter holds, in plain Lean; what is told first stays told. The walk of the law StepHeld.
-/
import Derived.Test.YtendkmldecoogaaDoorStepCt
import Derived.Test.YtendkmldecoogaaDoorWithin
namespace Go.Proofs.YtendkmldecoogaaDoor.StepHeldLaw
open Go Go.Proofs.YtendkmldecoogaaDoor Go.Proofs.YtendkmldecoogaaDoor.Utf Go.Proofs.YtendkmldecoogaaDoor.It Go.Proofs.YtendkmldecoogaaDoor.Ref2c Go.Proofs.YtendkmldecoogaaDoor.Dt Go.Proofs.YtendkmldecoogaaDoor.Cu Go.Proofs.YtendkmldecoogaaDoor.ScanLaw Go.Proofs.YtendkmldecoogaaDoor.StepLaw Go.Proofs.YtendkmldecoogaaDoor.StepRun Go.Proofs.YtendkmldecoogaaDoor.StepGo

theorem held_le {D : Dt} {most : Nat} {l : List UInt8} {S : Sx} (hm : 1 ≤ most) (h : Run D most l S) : l.length - endN D l ≤ most + 8 := by
  have h1 := rest_at l
  have h2 := rest_len l
  have h3 := comp_sum l 0
  have h4 : sum ((L l).take (R D l).2) + sum ((L l).drop (R D l).2) = sum (L l) := by rw [← sum_append, List.take_append_drop]
  have hw : ∀ x, x ∈ (L l).drop (R D l).2 → x.bytes ≤ 4 := fun x hx => comp_le4 l 0 x (List.mem_of_mem_drop hx)
  have key : sum ((L l).drop (R D l).2) ≤ most + 4 := by
    have hs := h.sure
    obtain ⟨hwf, hI⟩ := h.inv
    obtain ⟨P, hP⟩ : ∃ P, (L l).drop (R D l).2 = P := ⟨_, rfl⟩
    rw [hP] at hwf hI hw ⊢
    rcases hI with ⟨_, rfl, _⟩ | ⟨_, q, hq, hp⟩ | ⟨a1, _, a3, a4, a5, _⟩ | ⟨a1, _, a3, a4, a5, a6, a7⟩
    · simp
    · rcases hp with ⟨rfl, _⟩ | ⟨y, rfl, _, _⟩
      · have := hw q (by simp); simp; omega
      · have e1 := hw q (by simp)
        have e2 := is_one_byte (hwf q (by simp)) (by decide) hq
        have e3 := hw y (by simp)
        simp; omega
    · unfold StepLaw.sure at hs
      rw [if_pos a1, a5] at hs
      omega
    · unfold StepLaw.sure at hs
      have hlast : (P.getD (P.length - 1) default).bytes ≤ 4 := hw _ (by
        have : P.length - 1 < P.length := by have := List.length_pos_iff.2 a3; omega
        rw [List.getD, List.getElem?_eq_getElem this]
        exact List.getElem_mem this)
      by_cases c : 1 < P.length
      · rw [if_neg (by omega), a6, if_pos ⟨a1, c⟩, a5, a7] at hs
        have e : (ixOf D (P.getD (P.length - 1) default)).n = (P.getD (P.length - 1) default).bytes := rfl
        rw [e] at hs
        omega
      · obtain ⟨b, rfl⟩ : ∃ b, P = [b] := by
          have : 0 < P.length := List.length_pos_iff.2 a3
          match P, this, c with
          | [b], _, _ => exact ⟨b, rfl⟩
          | b :: c :: P, _, hh => exact absurd (by simp) hh
        have := hw b (by simp)
        simp; omega
  unfold endN
  unfold L at h4 key ⊢
  omega
end Go.Proofs.YtendkmldecoogaaDoor.StepHeldLaw
namespace Go.Proofs.YtendkmldecoogaaDoor.stepHeld
open Go Go.RowKit Go.Proofs.YtendkmldecoogaaDoor Go.Proofs.YtendkmldecoogaaDoor.Kit Go.Proofs.YtendkmldecoogaaDoor.Round Go.Proofs.YtendkmldecoogaaDoor.Seg Go.Proofs.YtendkmldecoogaaDoor.Collect Go.Proofs.YtendkmldecoogaaDoor.Utf Go.Proofs.YtendkmldecoogaaDoor.It Go.Proofs.YtendkmldecoogaaDoor.ItGo Go.Proofs.YtendkmldecoogaaDoor.Dt Go.Proofs.YtendkmldecoogaaDoor.Mo Go.Proofs.YtendkmldecoogaaDoor.MoNew Go.Proofs.YtendkmldecoogaaDoor.Keep Go.Proofs.YtendkmldecoogaaDoor.Cu Go.Proofs.YtendkmldecoogaaDoor.CutAll Go.Proofs.YtendkmldecoogaaDoor.CutRun Go.Proofs.YtendkmldecoogaaDoor.CutTokens Go.Proofs.YtendkmldecoogaaDoor.CutAs Go.Proofs.YtendkmldecoogaaDoor.Within Go.Proofs.YtendkmldecoogaaDoor.StepLaw Go.Proofs.YtendkmldecoogaaDoor.StepRun Go.Proofs.YtendkmldecoogaaDoor.Scan Go.Proofs.YtendkmldecoogaaDoor.StepGo Go.Proofs.YtendkmldecoogaaDoor.StepCt Go.Proofs.YtendkmldecoogaaDoor.StepMore Go.Proofs.YtendkmldecoogaaDoor.Law13 Go.Proofs.YtendkmldecoogaaDoor.SameTok
attribute [local irreducible] wpQuiet wpStill
set_option linter.unusedSimpArgs false

/-- New, where the model lay there long since. -/
theorem New_at {D : Dt} (mb most : Nat) (w0 w : World) (hM : Mod w0 mb D) (hT : Tabs w0) (hb : Below w0.heap.size w0 w) (hm : 1 ≤ most ∧ most ≤ 65536) :
    Calls Tryd.prog 52 #[.pointer (some ⟨mb, 0, none⟩), .int .i64 most] w fun e w' => ∃ cb tb sb, e = .returned (.tuple #[.pointer (some ⟨cb, 0, none⟩), .int .i64 0]) ∧ CutAt w0 D most cb tb sb w' (.slice none 0 0) [] ∧ Below w.heap.size w w' ∧ w.heap.size ≤ sb ∧ w.heap.size ≤ cb := by
  obtain ⟨tb, hTab, hK⟩ := Table_mod hM
  have HK := Lib.hid (hK w hb)
  have HT := Lib.hid hT
  have HTB := Lib.hid hTab
  have HG := Lib.hid (Good.of_mod hM)
  have HB := Lib.hid hb
  have hz := hb.size
  clear hM hT hTab hK hb
  have h1 : ¬ ((most : Int) < 1) := by omega
  have h2 : ¬ ((65536 : Int) < most) := by omega
  go_enter Tryd.func52, Tryd.ntmps52
  go_wp2_with fail
  refine HK.out.mono ?_
  rintro e w' ⟨rfl, rfl⟩
  go_wp2_with fail
  refine (Scan.New_calls w).mono ?_
  rintro e W1 ⟨rfl, hW1⟩
  have hsc := ScanAt.new w0.heap.size w hz
  rw [← hW1] at hsc
  have hb1 : Below w.heap.size w W1 := by rw [hW1]; exact (Below.refl _ _).alloc (Nat.le_refl _) _
  have HSC := Lib.hid hsc
  have HB1 := Lib.hid hb1
  clear hW1 hsc hb1
  go_wp2_with fail
  go_ret2
  have hba : Below W1.heap.size W1 (W1.alloc (.cells (cellsC W1.heap.size tb w.heap.size most (.slice none 0 0) false 0 S0) 149)) := (Below.refl _ _).alloc (Nat.le_refl _) _
  exact ⟨W1.heap.size, tb, w.heap.size, rfl, ⟨⟨S0, alloc_new rfl, Run.new D most, ⟨Nat.zero_le _, Nat.zero_le _, Nat.zero_le _, by decide, by decide, fun h => by cases h⟩⟩, HSC.out.below hba, Nat.le_trans hz HB1.out.size, by have := lt_of_heap HSC.out.c; omega, HB.out.trans ((chain HB1.out hba).mono hz), HTB.out, HT.out, HG.out, hm⟩, chain HB1.out hba, Nat.le_refl _, HB1.out.size⟩

def heldN (D : Dt) (most : Nat) (t : List UInt8) : Nat := if Overs D most t then 0 else t.length - endN D t
theorem Ct_held {w0 W : World} {D : Dt} {most cb tb sb : Nat} {hv : Value} {t : List UInt8} (h : Ct w0 D most cb tb sb W hv t) (hl : t.length ≤ 1000000) :
    Calls Tryd.prog 56 #[.pointer (some ⟨cb, 0, none⟩)] W fun e w' => e = .returned (.int .i64 (heldN D most t)) ∧ Below W.heap.size W w' := by
  unfold heldN
  rcases h.st with ⟨a, hc⟩ | ⟨a, n, hs, hn⟩
  · rw [if_neg a]; exact hc.held (by omega)
  · rw [if_pos a]
    refine hs.held.mono ?_
    rintro e w' ⟨rfl, rfl⟩
    exact ⟨rfl, Below.refl _ _⟩
theorem heldN_le {w0 W : World} {D : Dt} {most cb tb sb : Nat} {hv : Value} {t : List UInt8} (h : Ct w0 D most cb tb sb W hv t) : heldN D most t ≤ most + 8 ∧ heldN D most t ≤ t.length := by
  unfold heldN
  rcases h.st with ⟨a, hc⟩ | ⟨a, n, hs, hn⟩
  · rw [if_neg a]
    obtain ⟨S, _, hr, _⟩ := hc.cell
    exact ⟨StepHeldLaw.held_le h.mo hr, by omega⟩
  · rw [if_pos a]; exact ⟨by omega, by omega⟩

/-- No block lies in both. -/
def Dj (A B : Nat → Prop) : Prop := ∀ b, A b → ¬ B b
theorem Dj.symm {A B : Nat → Prop} (h : Dj A B) : Dj B A := fun b h1 h2 => h b h2 h1
theorem Dj.grow {A A' B : Nat → Prop} {n : Nat} (h : Dj A B) (hA : ∀ b, A' b → A b ∨ n ≤ b) (hB : ∀ b, B b → b < n) : Dj A' B := fun b h1 h2 => (hA b h1).elim (fun h3 => h b h3 h2) (fun h3 => by have := hB b h2; omega)
def Blk (v : Value) (b : Nat) : Prop := v.ownBlock = some b

/-- Two Cutters and two lists, that share nothing. -/
structure Two (w0 : World) (D : Dt) (most c1 t1 s1 c2 t2 s2 base : Nat) (W : World) (h1 h2 x y : Value) (l1 l2 : List UInt8) (T1 T2 : List Tk) : Prop where
  a : Ct w0 D most c1 t1 s1 W h1 l1
  b : Ct w0 D most c2 t2 s2 W h2 l2
  rx : TRow W base x T1
  ry : TRow W base y T2
  ab : Dj (StepGo.Own c1 s1 h1) (StepGo.Own c2 s2 h2)
  ax : Dj (StepGo.Own c1 s1 h1) (Blk x)
  ay : Dj (StepGo.Own c1 s1 h1) (Blk y)
  bx : Dj (StepGo.Own c2 s2 h2) (Blk x)
  by' : Dj (StepGo.Own c2 s2 h2) (Blk y)
  xy : Dj (Blk x) (Blk y)
  lo : w0.heap.size ≤ base
  hi : base ≤ W.heap.size
  bel : Below w0.heap.size w0 W
variable {w0 W W' : World} {D : Dt} {most c1 t1 s1 c2 t2 s2 base : Nat} {h1 h2 x y h1' x' v : Value} {l1 l2 l1' : List UInt8} {T1 T2 N : List Tk}
theorem Two.swap (h : Two w0 D most c1 t1 s1 c2 t2 s2 base W h1 h2 x y l1 l2 T1 T2) : Two w0 D most c2 t2 s2 c1 t1 s1 base W h2 h1 y x l2 l1 T2 T1 :=
  ⟨h.b, h.a, h.ry, h.rx, h.ab.symm, h.by', h.bx, h.ay, h.ax, h.xy.symm, h.lo, h.hi, h.bel⟩
theorem Two.below (h : Two w0 D most c1 t1 s1 c2 t2 s2 base W h1 h2 x y l1 l2 T1 T2) (hb : Below W.heap.size W W') : Two w0 D most c1 t1 s1 c2 t2 s2 base W' h1 h2 x y l1 l2 T1 T2 :=
  ⟨h.a.below hb, h.b.below hb, h.rx.below hb, h.ry.below hb, h.ab, h.ax, h.ay, h.bx, h.by', h.xy, h.lo, Nat.le_trans h.hi hb.size, h.bel.trans (hb.mono h.bel.size)⟩
/-- The first Cutter took a byte. -/
theorem Two.put (h : Two w0 D most c1 t1 s1 c2 t2 s2 base W h1 h2 x y l1 l2 T1 T2) (hu : Upd (StepGo.Own c1 s1 h1) W W') (hn : ∀ b, h1'.ownBlock = some b → W.heap.size ≤ b) (hc : Ct w0 D most c1 t1 s1 W' h1' l1') : Two w0 D most c1 t1 s1 c2 t2 s2 base W' h1' h2 x y l1' l2 T1 T2 := by
  have hg : ∀ b, StepGo.Own c1 s1 h1' b → StepGo.Own c1 s1 h1 b ∨ W.heap.size ≤ b := fun b hb => by
    rcases hb with hb | hb | hb
    · exact .inl (.inl hb)
    · exact .inl (.inr (.inl hb))
    · exact .inr (hn b hb)
  exact ⟨hc, h.b.upd hu (fun e => h.ab _ e (.inl rfl)) (fun e => h.ab _ e (.inr (.inl rfl))) (fun b hb e => h.ab b e (.inr (.inr hb))) (fun b hb e => by have := (own_lo h.a e).1; omega),
    Seg.upd h.rx hu (fun b hb e => h.ax b e hb), Seg.upd h.ry hu (fun b hb e => h.ay b e hb), h.ab.grow hg (fun b hb => (own_lo h.b hb).2), h.ax.grow hg (fun b hb => (Seg.lt h.rx b hb).2), h.ay.grow hg (fun b hb => (Seg.lt h.ry b hb).2), h.bx, h.by', h.xy, h.lo, Nat.le_trans h.hi hu.size,
    h.bel.trans (hu.below h.bel.size (fun b hb e => by have := (own_lo h.a e).1; omega))⟩
/-- The first list grew. -/
theorem Two.app (h : Two w0 D most c1 t1 s1 c2 t2 s2 base W h1 h2 x y l1 l2 T1 T2) (hu : Upd (Blk x) W W') (hr : TRow W' base x' N) (ho : ∀ b, x'.ownBlock = some b → x.ownBlock = some b ∨ W.heap.size ≤ b) : Two w0 D most c1 t1 s1 c2 t2 s2 base W' h1 h2 x' y l1 l2 N T2 :=
  ⟨h.a.upd hu (fun e => h.ax _ (.inl rfl) e) (fun e => h.ax _ (.inr (.inl rfl)) e) (fun b hb e => h.ax b (.inr (.inr hb)) e) (fun b hb e => by have := (Seg.lt h.rx b e).1; have := h.lo; omega),
   h.b.upd hu (fun e => h.bx _ (.inl rfl) e) (fun e => h.bx _ (.inr (.inl rfl)) e) (fun b hb e => h.bx b (.inr (.inr hb)) e) (fun b hb e => by have := (Seg.lt h.rx b e).1; have := h.lo; omega),
   hr, Seg.upd h.ry hu (fun b hb e => h.xy b e hb), h.ab, (h.ax.symm.grow (A' := Blk x') ho (fun b hb => (own_lo h.a hb).2)).symm, h.ay, (h.bx.symm.grow (A' := Blk x') ho (fun b hb => (own_lo h.b hb).2)).symm, h.by', h.xy.grow (A' := Blk x') ho (fun b hb => (Seg.lt h.ry b hb).2), h.lo, Nat.le_trans h.hi hu.size,
   h.bel.trans (hu.below h.bel.size (fun b hb e => by have := (Seg.lt h.rx b e).1; have := h.lo; omega))⟩

/-- A byte put and its list grown, as a walk needs it: the world behind the put, and the append's run there. -/
theorem Two.more (h : Two w0 D most c1 t1 s1 c2 t2 s2 base W h1 h2 x y l1 l2 (tolds D most l1) T2) {W4 : World} {v : Value} {hv' : Value} {c : UInt8} (hl : l1.length ≤ 1000) (hr4 : TRow W4 W.heap.size v (news D most l1 c)) (htl : tolds D most (l1 ++ [c]) = tolds D most l1 ++ news D most l1 c)
    (hu4 : Upd (StepGo.Own c1 s1 h1) W W4) (hn4 : ∀ b, hv'.ownBlock = some b → W.heap.size ≤ b) (hct4 : Ct w0 D most c1 t1 s1 W4 hv' (l1 ++ [c])) :
    ∃ V A, (Builtin.append_ #[22, 22] 22 #[x, v]).run Tryd.prog W4 = .ok V A ∧ Two w0 D most c1 t1 s1 c2 t2 s2 base A hv' h2 V y (l1 ++ [c]) l2 (tolds D most (l1 ++ [c])) T2 ∧ W.heap.size ≤ A.heap.size := by
  have h4 := h.put hu4 hn4 hct4
  obtain ⟨V, A, hrun, hra, hua, hoa⟩ := StepMore.more h4.rx hr4 h4.hi (by
    have h1 := tolds_len D most (l1 ++ [c])
    rw [htl, List.length_append] at h1
    simp only [List.length_append, List.length_singleton] at h1
    omega) 22
  exact ⟨V, A, hrun, h4.app hua (by rw [htl]; exact hra) hoa, Nat.le_trans hu4.size hua.size⟩

/-- One Cutter that goes on, and two lists. -/
structure One (w0 : World) (D : Dt) (most c2 t2 s2 base : Nat) (W : World) (h2 x y : Value) (l2 : List UInt8) (X T2 : List Tk) : Prop where
  b : Ct w0 D most c2 t2 s2 W h2 l2
  rx : TRow W base x X
  ry : TRow W base y T2
  bx : Dj (StepGo.Own c2 s2 h2) (Blk x)
  by' : Dj (StepGo.Own c2 s2 h2) (Blk y)
  xy : Dj (Blk x) (Blk y)
  lo : w0.heap.size ≤ base
  hi : base ≤ W.heap.size
  bel : Below w0.heap.size w0 W
theorem Two.stop (h : Two w0 D most c1 t1 s1 c2 t2 s2 base W h1 h2 x y l1 l2 T1 T2) (hu : Upd (StepGo.Own c1 s1 h1) W W') : One w0 D most c2 t2 s2 base W' h2 x y l2 T1 T2 :=
  ⟨h.b.upd hu (fun e => h.ab _ e (.inl rfl)) (fun e => h.ab _ e (.inr (.inl rfl))) (fun b hb e => h.ab b e (.inr (.inr hb))) (fun b hb e => by have := (own_lo h.a e).1; omega),
    Seg.upd h.rx hu (fun b hb e => h.ax b e hb), Seg.upd h.ry hu (fun b hb e => h.ay b e hb), h.bx, h.by', h.xy, h.lo, Nat.le_trans h.hi hu.size,
    h.bel.trans (hu.below h.bel.size (fun b hb e => by have := (own_lo h.a e).1; omega))⟩
theorem One.appx (h : One w0 D most c2 t2 s2 base W h2 x y l2 T1 T2) (hu : Upd (Blk x) W W') (hr : TRow W' base x' N) (ho : ∀ b, x'.ownBlock = some b → x.ownBlock = some b ∨ W.heap.size ≤ b) : One w0 D most c2 t2 s2 base W' h2 x' y l2 N T2 :=
  ⟨h.b.upd hu (fun e => h.bx _ (.inl rfl) e) (fun e => h.bx _ (.inr (.inl rfl)) e) (fun b hb e => h.bx b (.inr (.inr hb)) e) (fun b hb e => by have := (Seg.lt h.rx b e).1; have := h.lo; omega),
   hr, Seg.upd h.ry hu (fun b hb e => h.xy b e hb), (h.bx.symm.grow (A' := Blk x') ho (fun b hb => (own_lo h.b hb).2)).symm, h.by', h.xy.grow (A' := Blk x') ho (fun b hb => (Seg.lt h.ry b hb).2), h.lo, Nat.le_trans h.hi hu.size,
   h.bel.trans (hu.below h.bel.size (fun b hb e => by have := (Seg.lt h.rx b e).1; have := h.lo; omega))⟩
theorem One.appy (h : One w0 D most c2 t2 s2 base W h2 x y l2 T1 T2) (hu : Upd (Blk y) W W') (hr : TRow W' base x' N) (ho : ∀ b, x'.ownBlock = some b → y.ownBlock = some b ∨ W.heap.size ≤ b) : One w0 D most c2 t2 s2 base W' h2 x x' l2 T1 N :=
  ⟨h.b.upd hu (fun e => h.by' _ (.inl rfl) e) (fun e => h.by' _ (.inr (.inl rfl)) e) (fun b hb e => h.by' b (.inr (.inr hb)) e) (fun b hb e => by have := (Seg.lt h.ry b e).1; have := h.lo; omega),
   Seg.upd h.rx hu (fun b hb e => h.xy b hb e), hr, h.bx, (h.by'.symm.grow (A' := Blk x') ho (fun b hb => (own_lo h.b hb).2)).symm, (h.xy.symm.grow (A' := Blk x') ho (fun b hb => (Seg.lt h.rx b hb).2)).symm, h.lo, Nat.le_trans h.hi hu.size,
   h.bel.trans (hu.below h.bel.size (fun b hb e => by have := (Seg.lt h.ry b e).1; have := h.lo; omega))⟩
theorem One.put (h : One w0 D most c2 t2 s2 base W h2 x y l2 T1 T2) (hu : Upd (StepGo.Own c2 s2 h2) W W') (hn : ∀ b, h1'.ownBlock = some b → W.heap.size ≤ b) (hc : Ct w0 D most c2 t2 s2 W' h1' l1') : One w0 D most c2 t2 s2 base W' h1' x y l1' T1 T2 := by
  have hg : ∀ b, StepGo.Own c2 s2 h1' b → StepGo.Own c2 s2 h2 b ∨ W.heap.size ≤ b := fun b hb => by
    rcases hb with hb | hb | hb
    · exact .inl (.inl hb)
    · exact .inl (.inr (.inl hb))
    · exact .inr (hn b hb)
  exact ⟨hc, Seg.upd h.rx hu (fun b hb e => h.bx b e hb), Seg.upd h.ry hu (fun b hb e => h.by' b e hb), h.bx.grow hg (fun b hb => (Seg.lt h.rx b hb).2), h.by'.grow hg (fun b hb => (Seg.lt h.ry b hb).2), h.xy, h.lo, Nat.le_trans h.hi hu.size,
    h.bel.trans (hu.below h.bel.size (fun b hb e => by have := (own_lo h.b e).1; omega))⟩

set_option maxHeartbeats 4000000 in
set_option maxRecDepth 100000 in
theorem walk (D : Dt) (Q : Pl) (n : Int) (s t : ByteArray) (w : World) (hd : At w D Q) (hn : -9223372036854775808 ≤ n ∧ n ≤ 9223372036854775807) (_hs : s.size ≤ 140737488355328) (_ht : t.size ≤ 140737488355328) (hT : Tabs w) :
    Calls Tryd.prog 13 #[.agg #[.slice Q.a0 D.nw Q.c0, .slice Q.a1 D.nm Q.c1, .slice Q.a2 D.n0 Q.c2, .slice Q.a3 D.n1 Q.c3, .slice Q.a4 D.n2 Q.c4], .int .i64 n, .string s, .string t] w fun e w' => e = .returned (.bool true) ∧ Below w.heap.size w w' := by
  have HA := Lib.hid hd
  have HT := Lib.hid hT
  clear hd hT
  obtain ⟨W1, hW1⟩ : ∃ Xz, w.alloc (.cells #[.slice Q.a0 D.nw Q.c0, .slice Q.a1 D.nm Q.c1, .slice Q.a2 D.n0 Q.c2, .slice Q.a3 D.n1 Q.c3, .slice Q.a4 D.n2 Q.c4] 33) = Xz := ⟨_, rfl⟩
  obtain ⟨bd, hbd⟩ : ∃ xz, w.heap.size = xz := ⟨_, rfl⟩
  have hb1 : Below w.heap.size w W1 := by rw [← hW1]; exact (Below.refl _ _).alloc (Nat.le_refl _) _
  have HX := Lib.hid (by rw [← hW1, ← hbd]; exact alloc_new rfl : W1.heap[bd]? = some (.cells #[.slice Q.a0 D.nw Q.c0, .slice Q.a1 D.nm Q.c1, .slice Q.a2 D.n0 Q.c2, .slice Q.a3 D.n1 Q.c3, .slice Q.a4 D.n2 Q.c4] 33 (0, 0)))
  have EW1 := Lib.hid hW1
  have Ebd := Lib.hid hbd
  clear hW1 hbd
  have HB := Lib.hid hb1
  have HA := Lib.hid (HA.out.below hb1)
  have HO := Lib.hid (Of_calls D Q W1 HA.out)
  clear hb1
  have x0 := cell_at HX.out 0
  have x1 := cell_at HX.out 1
  have x2 := cell_at HX.out 2
  have x3 := cell_at HX.out 3
  have x4 := cell_at HX.out 4
  have xz := lt_of_heap HX.out
  simp only [List.getElem?_toArray, List.getElem?_cons_zero, List.getElem?_cons_succ] at x0 x1 x2 x3 x4
  obtain ⟨fs, hfs⟩ : ∃ z, few s 300 = z := ⟨_, rfl⟩
  obtain ⟨ft, hft⟩ : ∃ z, few t 300 = z := ⟨_, rfl⟩
  have hf1 := few_size s 300
  have hf2 := few_size t 300
  have HF := Lib.hid (fun w => Law13.few_calls s 300 w (by decide))
  have HF2 := Lib.hid (fun w => Law13.few_calls t 300 w (by decide))
  rw [hfs] at HF hf1
  rw [hft] at HF2 hf2
  have hfz : fs.size ≤ 300 := hf1.1
  have hftz : ft.size ≤ 300 := hf2.1
  have hls := size_list fs
  have hlt2 := size_list ft
  clear hfs hf1 hft hf2
  go_enter Tryd.func13, Tryd.ntmps13
  go_upto_region 1 with fail
  rw [EW1.out, Ebd.out]
  go_wp2_with fail
  refine HO.out.mono ?_
  clear x0 x1 x2 x3 x4 xz
  rintro e W2 (⟨rfl, hb2⟩ | ⟨mb, rfl, hM, _, hb2, _⟩)
  · have HB := Lib.hid (chain HB.out hb2)
    clear hb2
    go_wp2_with fail
    refine (Law13.known_calls W2 (HT.out.below HB.out)).mono ?_
    rintro e W3 ⟨rfl, hb3⟩
    have HB := Lib.hid (chain HB.out hb3)
    clear hb3
    go_wp2_with fail
    go_ret
    exact ⟨rfl, HB.out⟩
  have HM := Lib.hid hM
  have HB := Lib.hid (chain HB.out hb2)
  clear hM hb2
  go_wp2_with fail
  refine (Within_calls n 1 60 W2 (by decide) (by decide) (by decide) hn.1 hn.2).mono ?_
  have hm1 := Int.emod_nonneg n (b := 60) (by omega)
  have hm2 := Int.emod_lt_of_pos n (b := 60) (by omega)
  obtain ⟨most, hk⟩ : ∃ k : Nat, 1 + n % (60 - 1 + 1) = (k : Int) := ⟨(1 + n % 60).toNat, by omega⟩
  have hmo : 1 ≤ most ∧ most ≤ 60 := by omega
  rw [hk]
  rintro e w' ⟨rfl, rfl⟩
  clear hk hm1 hm2
  go_wp2_with fail
  refine (HF.out W2).mono ?_
  rintro e w' ⟨rfl, rfl⟩
  have HTT := Lib.hid (HT.out.below HB.out)
  go_wp2_with fail
  refine (New_at mb most W2 W2 HM.out HTT.out (Below.refl _ _) ⟨hmo.1, by omega⟩).mono ?_
  rintro e W3 ⟨c1, t1, s1, rfl, hc3, hb3, _, _⟩
  have HC1 := Lib.hid (Ct.new HM.out hc3)
  have HB3 := Lib.hid hb3
  clear hc3 hb3
  go_wp2_with fail
  refine (New_at mb most W2 W3 HM.out HTT.out HB3.out ⟨hmo.1, by omega⟩).mono ?_
  rintro e W4 ⟨c2, t2, s2, rfl, hc4, hb4, hs2, hc2⟩
  obtain ⟨base, hbase⟩ : ∃ z, W4.heap.size = z := ⟨_, rfl⟩
  have HTW := Lib.hid (show Two W2 D most c1 t1 s1 c2 t2 s2 base W4 (.slice none 0 0) (.slice none 0 0) (.slice none 0 0) (.slice none 0 0) [] [] (tolds D most []) (tolds D most []) by
    have ha := HC1.out.below hb4
    have hb := Ct.new HM.out hc4
    have hn : ∀ A, Dj A (Blk (.slice none 0 0)) := fun A b _ h => by simp [Blk, Value.ownBlock] at h
    refine ⟨ha, hb, Seg.nil _ _ _ _, Seg.nil _ _ _ _, fun b h1 h2 => ?_, hn _, hn _, hn _, hn _, fun b h => by simp [Blk, Value.ownBlock] at h, ?_, Nat.le_of_eq hbase.symm, HB3.out.trans (hb4.mono HB3.out.size)⟩
    · have h3 := (own_lo HC1.out h1).2
      rcases h2 with h2 | h2 | h2
      · omega
      · omega
      · simp [Value.ownBlock] at h2
    · rw [← hbase]; exact Nat.le_trans HB3.out.size hb4.size)
  clear hc4 hb4 hs2 hc2 HB3 HC1
  go_wp2_with fail
  go_loopg [16, 17, 18] fs.size (fun g s16 s17 s18 wr => ∃ (i : Nat) (h1 h2 : Value), i ≤ fs.size ∧ g = fs.size - i ∧ s18 = .int .i64 i ∧ Two W2 D most c1 t1 s1 c2 t2 s2 base wr h1 h2 s16 s17 (fs.data.toList.take i) (fs.data.toList.take i) (tolds D most (fs.data.toList.take i)) (tolds D most (fs.data.toList.take i)))
  case atStart => exact ⟨0, _, _, Nat.zero_le _, by omega, rfl, by simpa using HTW.out⟩
  case round =>
    obtain ⟨i, h1, h2, hi, hg, rfl, htw⟩ := hrel
    have HGG := Lib.hid hg
    have HTW := Lib.hid htw
    clear hg htw
    by_cases hlt : i < fs.size
    · have hlti : (i : Int) < fs.size := by omega
      have hti : fs.data.toList.take (i + 1) = fs.data.toList.take i ++ [fs[i]] := by rw [byte_at hlt]; exact take_more (by omega)
      have htlen : (fs.data.toList.take i).length ≤ 1000 := by rw [List.length_take]; omega
      have hw9 : IntKind.i64.wrap ((i : Int) + 1) = ((i + 1 : Nat) : Int) := by rw [i64w _ (by omega) (by omega)]; omega
      have HTI := Lib.hid hti
      clear hti
      go_wp2_with fail
      refine (HTW.out.a.put fs[i] (by omega)).mono ?_
      rintro e W5 ⟨v, h1', rfl, hr4, htl, hu4, hn4, hct4⟩
      obtain ⟨V, A, hrun, htw5, _⟩ := HTW.out.more htlen hr4 htl hu4 hn4 hct4
      have HRUN := Lib.hid hrun
      have HTW5 := Lib.hid htw5.swap
      clear hr4 htl hu4 hn4 hct4 hrun htw5
      go_wp2_with (at_builtin; refine append_run rfl rfl rfl rfl HRUN.out ?_)
      refine (HTW5.out.a.put fs[i] (by omega)).mono ?_
      rintro e W6 ⟨v, h2', rfl, hr4, htl, hu4, hn4, hct4⟩
      obtain ⟨V2, A2, hrun, htw6, _⟩ := HTW5.out.more htlen hr4 htl hu4 hn4 hct4
      have HRUN2 := Lib.hid hrun
      have htw6 := htw6.swap
      rw [← HTI.out] at htw6
      have HTW6 := Lib.hid htw6
      clear hr4 htl hu4 hn4 hct4 hrun htw6
      have hhl := heldN_le HTW6.out.a
      rw [List.length_take] at hhl
      have HHD := Lib.hid (fun (W : World) h => Ct_held (W := W) h (by rw [List.length_take]; omega) : ∀ W, Ct W2 D most c1 t1 s1 W h1' (fs.data.toList.take (i + 1)) → _)
      obtain ⟨q, hq⟩ : ∃ q, heldN D most (fs.data.toList.take (i + 1)) = q := ⟨_, rfl⟩
      rw [hq] at hhl HHD
      clear hq
      have e1 : ¬ ((q : Int) < 0) := by omega
      have hw8 : IntKind.i64.wrap ((most : Int) + 8) = (most : Int) + 8 := i64w _ (by omega) (by omega)
      have hw7 : IntKind.i64.wrap ((i : Int) + 1) = (i : Int) + 1 := i64w _ (by omega) (by omega)
      have e2 : ¬ ((most : Int) + 8 < q) := by omega
      have e3 : ¬ ((i : Int) + 1 < q) := by omega
      clear hw9
      go_wp2_with (at_builtin; refine append_run rfl rfl rfl rfl HRUN2.out ?_)
      refine (HHD.out A2 HTW6.out.a).mono ?_
      rintro e W7 ⟨rfl, hb7⟩
      have HTW7 := Lib.hid (HTW6.out.below hb7)
      clear hb7
      go_wp2_with fail
      refine (HHD.out W7 HTW7.out.a).mono ?_
      rintro e W8 ⟨rfl, hb8⟩
      have HTW8 := Lib.hid (HTW7.out.below hb8)
      clear hb8
      go_wp2_with fail
      refine (HHD.out W8 HTW8.out.a).mono ?_
      rintro e W9 ⟨rfl, hb9⟩
      have HTW9 := Lib.hid (HTW8.out.below hb9)
      clear hb9
      go_wp2_with fail
      go_roundg (fs.size - (i + 1))
      case measure => have := HGG.out; omega
      case rel => exact ⟨i + 1, h1', h2', by omega, rfl, by first | rfl | go_num, HTW9.out⟩
    · have hil : i = fs.size := by omega
      subst hil
      have htk : fs.data.toList.take fs.size = fs.data.toList := List.take_of_length_le (by omega)
      rw [htk] at HTW
      go_wp2_with fail
      refine (HTW.out.a.ends (by omega)).mono ?_
      rintro e W5 ⟨v, rfl, hr4, htl, hu4, _⟩
      have h5 := HTW.out.stop hu4
      obtain ⟨V, A, hrun, hra, hua, hoa⟩ := StepMore.more h5.rx hr4 h5.hi (by
        have h1 := toldE_len D most fs.data.toList
        rw [htl, List.length_append] at h1
        omega) 22
      have hone := h5.appx hua hra hoa
      obtain ⟨T0, hT0⟩ : ∃ z, tolds D most fs.data.toList = z := ⟨_, rfl⟩
      obtain ⟨Z0, hZ0⟩ : ∃ z, (toldE D most fs.data.toList).drop (tolds D most fs.data.toList).length = z := ⟨_, rfl⟩
      have hl0 := tolds_len D most fs.data.toList
      rw [hZ0, hT0] at hone
      rw [hT0] at hl0
      obtain ⟨m, hm⟩ : ∃ z, T0.length = z := ⟨_, rfl⟩
      obtain ⟨ay, cy, hyv, hcy, _⟩ := TRow.shape hone.ry
      rw [hm] at hyv hcy
      subst hyv
      obtain ⟨ax, cx, hxv, hcx, _⟩ := TRow.shape hone.rx
      obtain ⟨mx, hmx⟩ : ∃ z, (T0 ++ Z0).length = z := ⟨_, rfl⟩
      rw [hmx] at hxv hcx
      subst hxv
      have hmmx : m ≤ mx := by rw [← hmx, ← hm, List.length_append]; omega
      have HRUN := Lib.hid hrun
      have HONE := Lib.hid hone
      have HT0 := Lib.hid hT0
      have HMX := Lib.hid hmx
      have HMM := Lib.hid hm
      clear hr4 htl hu4 h5 hrun hra hua hoa hone hT0 hZ0 hmx
      go_wp2_with (at_builtin; refine append_run rfl rfl rfl rfl HRUN.out ?_)
      refine (HF2.out A).mono ?_
      rintro e w' ⟨rfl, rfl⟩
      go_wp2_with fail
      go_loopg [17, 20] ft.size (fun g s17 s20 wq => ∃ (j : Nat) (h2' : Value) (Z : List Tk), j ≤ ft.size ∧ g = ft.size - j ∧ s20 = .int .i64 j ∧ tolds D most (fs.data.toList ++ ft.data.toList.take j) = T0 ++ Z ∧ One W2 D most c2 t2 s2 base wq h2' (.slice ax mx cx) s17 (fs.data.toList ++ ft.data.toList.take j) (T0 ++ Z0) (T0 ++ Z))
      case atStart => exact ⟨0, _, [], Nat.zero_le _, by omega, rfl, by simp [HT0.out], by simpa using HONE.out⟩
      case round =>
        obtain ⟨j, h2', Z, hj, hg, rfl, hz, hone⟩ := hrel
        have HG2 := Lib.hid hg
        have HZ := Lib.hid hz
        have HONE := Lib.hid hone
        clear hg hz hone
        by_cases hlj : j < ft.size
        · have hlji : (j : Int) < ft.size := by omega
          have htj : fs.data.toList ++ ft.data.toList.take (j + 1) = (fs.data.toList ++ ft.data.toList.take j) ++ [ft[j]] := by rw [byte_at hlj, take_more (by omega), List.append_assoc]
          have hw9 : IntKind.i64.wrap ((j : Int) + 1) = ((j + 1 : Nat) : Int) := by rw [i64w _ (by omega) (by omega)]; omega
          have HTJ := Lib.hid htj
          clear htj
          go_wp2_with fail
          refine (HONE.out.b.put ft[j] (by rw [List.length_append, List.length_take]; omega)).mono ?_
          rintro e W6 ⟨v, h3', rfl, hr4, htl, hu4, hn4, hct4⟩
          have h6 := HONE.out.put hu4 hn4 hct4
          obtain ⟨V2, A2, hrun, hra, hua, hoa⟩ := StepMore.more h6.ry hr4 h6.hi (by
            have h1 := tolds_len D most (fs.data.toList ++ ft.data.toList.take j ++ [ft[j]])
            rw [htl, HZ.out, List.length_append] at h1
            simp only [List.length_append, List.length_take, List.length_singleton] at h1 ⊢
            omega) 22
          have h7 := h6.appy hua hra hoa
          rw [← HTJ.out, HZ.out, List.append_assoc] at htl
          rw [← HTJ.out, List.append_assoc] at h7
          have HRUN2 := Lib.hid hrun
          have HZ2 := Lib.hid htl
          have HONE2 := Lib.hid h7
          clear hr4 htl hu4 hn4 hct4 h6 hrun hra hua hoa h7
          go_wp2_with (at_builtin; refine append_run rfl rfl rfl rfl HRUN2.out ?_)
          go_roundg (ft.size - (j + 1))
          case measure => have := HG2.out; omega
          case rel => exact ⟨j + 1, h3', _, by omega, rfl, by first | rfl | go_num, HZ2.out, HONE2.out⟩
        · obtain ⟨ay2, cy2, hyv, hcy2, _⟩ := TRow.shape HONE.out.ry
          obtain ⟨my, hmy⟩ : ∃ z, (T0 ++ Z).length = z := ⟨_, rfl⟩
          rw [hmy] at hyv hcy2
          subst hyv
          have hmmy : m ≤ my := by rw [← hmy, ← hm, List.length_append]; omega
          have hjj : j = ft.size := by omega
          subst hjj
          have hrx := HONE.out.rx
          have hry := HONE.out.ry
          rw [← HMX.out] at hrx
          rw [← hmy] at hry
          have HSM := Lib.hid (fun (z : Later wr) => (Same_calls ay2 ax m cy2 cx _ _ _ z.w ((row_all (hry.below z.h)).mono (by rw [List.length_append]; omega)) (((row_all (hrx.below z.h)).mono (by rw [List.length_append]; omega)).cong (fun i hi => by
            have e : (T0 ++ Z0).getD i default = (T0 ++ Z).getD i default := by
              have : i < T0.length := by omega
              simp [List.getD, List.getElem?_append_left this]
            rw [e]
            exact ⟨rfl, rfl, rfl⟩)) (by omega) : Calls _ _ _ _ _))
          have HKN := Lib.hid (fun (z : Later wr) => (Law13.known_calls z.w (HTT.out.below (HONE.out.bel.trans (z.h.mono HONE.out.bel.size))) : Calls _ _ _ _ _))
          have q1 : (m : Int) ≤ mx := by omega
          have q2 : (m : Int) ≤ cy2 := by omega
          have q3 : (m : Int) ≤ cx := by omega
          have q4 : decide ((m : Int) ≤ mx) = true := decide_eq_true q1
          have q0 : (0 : Int) ≤ m := by omega
          have HBF := Lib.hid (chain HB.out HONE.out.bel)
          clear hrx hry hmy hm
          go_wp2_with fail
          refine region_calm (by kernel_rfl) (by kernel_rfl) ?_
          repeat (quiet_step ((first | exact later_call (HSM.out _) | exact later_call (HKN.out _))))
          refine wpQuiet_nil ?_
          rintro _ ⟨z, rfl⟩
          go_wp2_with fail
          go_ret
          exact ⟨rfl, chain HBF.out z.h⟩
end Go.Proofs.YtendkmldecoogaaDoor.stepHeld
