/-
  step.Cutter, whatever was put. tesseralaw13: few, told, known. tesseralaw13: known. Lists of what a Cutter tells, put behind one another.
-/
import Derived.Test.YtendkmldecoogaaDoorStepSev
import Derived.Test.YtendkmldecoogaaDoorCutAs
import Derived.Test.YtendkmldecoogaaDoorSameTok
namespace Go.Proofs.YtendkmldecoogaaDoor.StepCt
open Go Go.RowKit Go.Proofs.YtendkmldecoogaaDoor Go.Proofs.YtendkmldecoogaaDoor.Kit Go.Proofs.YtendkmldecoogaaDoor.Round Go.Proofs.YtendkmldecoogaaDoor.Seg Go.Proofs.YtendkmldecoogaaDoor.Collect Go.Proofs.YtendkmldecoogaaDoor.Utf Go.Proofs.YtendkmldecoogaaDoor.It Go.Proofs.YtendkmldecoogaaDoor.Dt Go.Proofs.YtendkmldecoogaaDoor.Mo Go.Proofs.YtendkmldecoogaaDoor.MoNew Go.Proofs.YtendkmldecoogaaDoor.Cu Go.Proofs.YtendkmldecoogaaDoor.CutTokens Go.Proofs.YtendkmldecoogaaDoor.StepLaw Go.Proofs.YtendkmldecoogaaDoor.StepRun Go.Proofs.YtendkmldecoogaaDoor.Scan Go.Proofs.YtendkmldecoogaaDoor.StepGo

/-- A Cutter that was given a text, not ended. -/
structure Ct (w0 : World) (D : Dt) (most cb tb sb : Nat) (W : World) (hv : Value) (t : List UInt8) : Prop where
  st : (¬ Overs D most t ∧ CutAt w0 D most cb tb sb W hv t) ∨ (Overs D most t ∧ ∃ n, StepGo.Shut W cb n true ∧ n ≤ t.length)
  good : Good.Good D
  mo : 1 ≤ most
  cl : cb < W.heap.size
  lo : w0.heap.size ≤ cb
  ls : w0.heap.size ≤ sb
  hl : ∀ b, hv.ownBlock = some b → w0.heap.size ≤ b ∧ b < W.heap.size
  z : sb < W.heap.size
  ty : ∀ b, hv.ownBlock = some b → ∃ c, W.heap[b]? = some (.cells c 5 (0, 0))
/-- What a Cutter's own blocks hold. -/
def Typ (W : World) (b : Nat) : Prop := ∃ c ty, W.heap[b]? = some (.cells c ty (0, 0)) ∧ (ty = 149 ∨ ty = 191 ∨ ty = 5)
variable {w0 W W' : World} {D : Dt} {most cb tb sb : Nat} {hv : Value} {t : List UInt8}

theorem Ct.new {mb : Nat} {w : World} (hM : Mod w mb D) (h : CutAt w D most cb tb sb W (.slice none 0 0) []) : Ct w D most cb tb sb W (.slice none 0 0) [] := by
  obtain ⟨S, hc, hr, _⟩ := h.cell
  exact ⟨.inl ⟨hr.ok, h⟩, Good.of_mod hM, h.most.1, lt_of_heap hc, h.lo, h.scan.lo, fun b hb => by simp [Value.ownBlock] at hb, lt_of_heap h.scan.c, fun b hb => by simp [Value.ownBlock] at hb⟩
theorem Ct.upd {X : Nat → Prop} (h : Ct w0 D most cb tb sb W hv t) (hu : Upd X W W') (h1 : ¬ X cb) (h2 : ¬ X sb) (h3 : ∀ b, hv.ownBlock = some b → ¬ X b) (h4 : ∀ b, b < w0.heap.size → ¬ X b) : Ct w0 D most cb tb sb W' hv t := by
  refine ⟨?_, h.good, h.mo, Nat.lt_of_lt_of_le h.cl hu.size, h.lo, h.ls, fun b hb => ⟨(h.hl b hb).1, Nat.lt_of_lt_of_le (h.hl b hb).2 hu.size⟩, Nat.lt_of_lt_of_le h.z hu.size, fun b hb => by obtain ⟨c, hc⟩ := h.ty b hb; exact ⟨c, Upd.mem hu hc (h3 b hb)⟩⟩
  rcases h.st with ⟨a, b⟩ | ⟨a, n, b, c⟩
  · exact .inl ⟨a, b.upd hu h1 h2 h3 h4⟩
  · exact .inr ⟨a, n, b.upd hu h1, c⟩
theorem Ct.below (h : Ct w0 D most cb tb sb W hv t) (hb : Below W.heap.size W W') : Ct w0 D most cb tb sb W' hv t :=
  h.upd (X := fun _ => False) (Upd.of_below hb) id id (fun _ _ => id) (fun _ _ => id)
theorem own_lo (h : Ct w0 D most cb tb sb W hv t) {b : Nat} (hb : StepGo.Own cb sb hv b) : w0.heap.size ≤ b ∧ b < W.heap.size := by
  rcases hb with rfl | rfl | hb
  · exact ⟨h.lo, h.cl⟩
  · exact ⟨h.ls, h.z⟩
  · exact h.hl b hb

/-- What a byte more tells. -/
def news (D : Dt) (most : Nat) (t : List UInt8) (c : UInt8) : List Tk := (tolds D most (t ++ [c])).drop (tolds D most t).length

theorem typ_own (h : CutAt w0 D most cb tb sb W hv t) {b : Nat} (hb : StepGo.Own cb sb hv b) : Typ W b := by
  obtain ⟨S, hc, _⟩ := h.cell
  rcases hb with rfl | rfl | hb
  · exact ⟨_, _, hc, .inl rfl⟩
  · exact ⟨_, _, h.scan.c, .inr (.inl rfl)⟩
  · obtain ⟨c, hc⟩ := Scan.seg_block h.scan.r hb
    exact ⟨c, _, hc, .inr (.inr rfl)⟩
theorem Ct.putT (h : Ct w0 D most cb tb sb W hv t) (c : UInt8) (hl : t.length ≤ 4000) :
    Calls Tryd.prog 53 #[.pointer (some ⟨cb, 0, none⟩), .int .u8 c.toNat] W fun e w' => ∃ v hv', e = .returned v ∧ TRow w' W.heap.size v (news D most t c) ∧ tolds D most (t ++ [c]) = tolds D most t ++ news D most t c ∧
      Upd (StepGo.Own cb sb hv) W w' ∧ (∀ b, hv'.ownBlock = some b → W.heap.size ≤ b) ∧ Ct w0 D most cb tb sb w' hv' (t ++ [c]) ∧ Upd (Typ W) W w' := by
  rcases h.st with ⟨a, hc⟩ | ⟨a, n, hs, hn⟩
  · refine (Put_calls w0 hv t c W hc hl).mono ?_
    rintro e w' ⟨v, hv', rfl, h1, h2, h3, h4, h5, h6⟩
    by_cases ho : Overs D most (t ++ [c])
    · exact ⟨v, .slice none 0 0, rfl, h1, h2, h3, fun b hb => by simp [Value.ownBlock] at hb, ⟨.inr ⟨ho, _, h5 ho, by simp⟩, h.good, h.mo, Nat.lt_of_lt_of_le h.cl h3.size, h.lo, h.ls, fun b hb => by simp [Value.ownBlock] at hb, Nat.lt_of_lt_of_le h.z h3.size, fun b hb => by simp [Value.ownBlock] at hb⟩, h3.mono fun b _ hb => typ_own hc hb⟩
    · have hx := h6 ho
      exact ⟨v, hv', rfl, h1, h2, h3, h4, ⟨.inl ⟨ho, hx⟩, h.good, h.mo, Nat.lt_of_lt_of_le h.cl h3.size, h.lo, h.ls, fun b hb => Seg.lt hx.scan.r b hb, Nat.lt_of_lt_of_le h.z h3.size, fun b hb => Scan.seg_block hx.scan.r hb⟩, h3.mono fun b _ hb => typ_own hc hb⟩
  · have ho := over_put h.mo h.good a [c]
    refine (hs.put c.toNat).mono ?_
    rintro e w' ⟨rfl, rfl⟩
    have hnw : news D most t c = [] := by unfold news; rw [ho.2]; simp
    rw [hnw, ho.2]
    exact ⟨_, .slice none 0 0, rfl, Seg.nil _ _ _ _, by simp, Upd.refl _ _, fun b hb => by simp [Value.ownBlock] at hb, ⟨.inr ⟨ho.1, n, hs, by simp; omega⟩, h.good, h.mo, h.cl, h.lo, h.ls, fun b hb => by simp [Value.ownBlock] at hb, h.z, fun b hb => by simp [Value.ownBlock] at hb⟩, Upd.refl _ _⟩
theorem Ct.put (h : Ct w0 D most cb tb sb W hv t) (c : UInt8) (hl : t.length ≤ 4000) :
    Calls Tryd.prog 53 #[.pointer (some ⟨cb, 0, none⟩), .int .u8 c.toNat] W fun e w' => ∃ v hv', e = .returned v ∧ TRow w' W.heap.size v (news D most t c) ∧ tolds D most (t ++ [c]) = tolds D most t ++ news D most t c ∧
      Upd (StepGo.Own cb sb hv) W w' ∧ (∀ b, hv'.ownBlock = some b → W.heap.size ≤ b) ∧ Ct w0 D most cb tb sb w' hv' (t ++ [c]) :=
  (h.putT c hl).mono fun _ _ ⟨v, hv', a, b, c, d, e, f, _⟩ => ⟨v, hv', a, b, c, d, e, f⟩
theorem Ct.endsT (h : Ct w0 D most cb tb sb W hv t) (hl : t.length ≤ 4000) :
    Calls Tryd.prog 54 #[.pointer (some ⟨cb, 0, none⟩)] W fun e w' => ∃ v, e = .returned v ∧ TRow w' W.heap.size v ((toldE D most t).drop (tolds D most t).length) ∧
      toldE D most t = tolds D most t ++ (toldE D most t).drop (tolds D most t).length ∧ Upd (StepGo.Own cb sb hv) W w' ∧ (∃ n, StepGo.Shut w' cb n (overE D most t)) ∧ Upd (Typ W) W w' := by
  rcases h.st with ⟨a, hc⟩ | ⟨a, n, hs, hn⟩
  · refine (End_calls w0 hv t W hc hl).mono ?_
    rintro e w' ⟨v, rfl, h1, h2, h3, h4⟩
    exact ⟨v, rfl, h1, h2, h3, ⟨_, h4⟩, h3.mono fun b _ hb => typ_own hc hb⟩
  · have ho := over_end h.mo h.good a []
    rw [List.append_nil] at ho
    refine hs.ends.mono ?_
    rintro e w' ⟨rfl, rfl⟩
    rw [ho.1, ho.2]
    exact ⟨_, rfl, by rw [List.drop_length]; exact Seg.nil _ _ _ _, by simp, Upd.refl _ _, ⟨n, hs⟩, Upd.refl _ _⟩
theorem Ct.ends (h : Ct w0 D most cb tb sb W hv t) (hl : t.length ≤ 4000) :
    Calls Tryd.prog 54 #[.pointer (some ⟨cb, 0, none⟩)] W fun e w' => ∃ v, e = .returned v ∧ TRow w' W.heap.size v ((toldE D most t).drop (tolds D most t).length) ∧
      toldE D most t = tolds D most t ++ (toldE D most t).drop (tolds D most t).length ∧ Upd (StepGo.Own cb sb hv) W w' ∧ ∃ n, StepGo.Shut w' cb n (overE D most t) :=
  (h.endsT hl).mono fun _ _ ⟨v, a, b, c, d, e, _⟩ => ⟨v, a, b, c, d, e⟩
theorem Ct.over (h : Ct w0 D most cb tb sb W hv t) : Calls Tryd.prog 63 #[.pointer (some ⟨cb, 0, none⟩)] W fun e w' => e = .returned (.bool (decide (Overs D most t))) ∧ w' = W := by
  rcases h.st with ⟨a, hc⟩ | ⟨a, n, hs, hn⟩
  · rw [decide_eq_false a]; exact hc.over
  · rw [decide_eq_true a]; exact hs.over
end Go.Proofs.YtendkmldecoogaaDoor.StepCt
namespace Go.Proofs.YtendkmldecoogaaDoor.Law13
open Go Go.RowKit Go.Proofs.YtendkmldecoogaaDoor Go.Proofs.YtendkmldecoogaaDoor.Kit Go.Proofs.YtendkmldecoogaaDoor.Round Go.Proofs.YtendkmldecoogaaDoor.Seg Go.Proofs.YtendkmldecoogaaDoor.Utf Go.Proofs.YtendkmldecoogaaDoor.It Go.Proofs.YtendkmldecoogaaDoor.ItGo Go.Proofs.YtendkmldecoogaaDoor.Dt Go.Proofs.YtendkmldecoogaaDoor.Mo Go.Proofs.YtendkmldecoogaaDoor.MoNew Go.Proofs.YtendkmldecoogaaDoor.Cu Go.Proofs.YtendkmldecoogaaDoor.CutTokens Go.Proofs.YtendkmldecoogaaDoor.House Go.Proofs.YtendkmldecoogaaDoor.CutAs Go.Proofs.YtendkmldecoogaaDoor.StepLaw Go.Proofs.YtendkmldecoogaaDoor.StepRun Go.Proofs.YtendkmldecoogaaDoor.StepGo Go.Proofs.YtendkmldecoogaaDoor.StepCt
attribute [local irreducible] wpQuiet wpStill
set_option linter.unusedSimpArgs false

set_option maxRecDepth 100000 in
theorem few_calls (s : ByteArray) (n : Nat) (w : World) (hn : n ≤ 1000000) : Calls Tryd.prog 51 #[.string s, .int .i64 n] w fun e w' => e = .returned (.string (few s n)) ∧ w = w' := by
  unfold few
  by_cases h : n < s.size
  · have h1 : (n : Int) < s.size := by omega
    rw [if_pos h]
    clear h
    go_enter Tryd.func51, Tryd.ntmps51
    go_wp2
    go_ret
    exact ⟨rfl, rfl⟩
  · have h1 : ¬ ((n : Int) < s.size) := by omega
    rw [if_neg h]
    clear h
    go_enter Tryd.func51, Tryd.ntmps51
    go_wp2
    go_ret
    exact ⟨rfl, rfl⟩

theorem ret_bool {a b : Bool} (h : a = b) : Ending.returned (.bool a) = .returned (.bool b) := by rw [h]

/-- How many pre-tokens byte i tells; -1: over. -/
def numI (D : Dt) (most : Nat) (l : List UInt8) (i : Nat) : Int := if Overs D most (l.take (i + 1)) then -1 else ((tolds D most (l.take (i + 1))).length - (tolds D most (l.take i)).length : Nat)
def endI (D : Dt) (most : Nat) (l : List UInt8) : Int := ((toldE D most l).length - (tolds D most l).length : Nat)

theorem take_more {l : List UInt8} {i : Nat} (h : i < l.length) : l.take (i + 1) = l.take i ++ [l.getD i 0] := by
  rw [List.take_add_one]
  simp [List.getD, h]

set_option maxHeartbeats 2000000 in
set_option maxRecDepth 100000 in
theorem told_calls (s : ByteArray) (most n cap : Nat) (a : Option Addr) (F : Nat → Int) (w : World) (hr : SameInt.Row w a n F) (hm : 1 ≤ most ∧ most ≤ 65536) (hs : s.size ≤ 1000) (hT : Tabs w) (hF : ∀ i, i < s.size → F i = numI HD most s.data.toList i)
    (hn : n = s.size ∨ (n = s.size + 1 ∧ F s.size = endI HD most s.data.toList)) :
    Calls Tryd.prog 59 #[.string s, .int .i64 most, .slice a n cap] w fun e w' => e = .returned (.bool true) ∧ Below w.heap.size w w' := by
  have HT := Lib.hid hT
  have HR := Lib.hid hr
  have HF := Lib.hid hF
  have HN := Lib.hid hn
  have hn1 : s.size ≤ n := by omega
  have hls := size_list s
  clear hT hr hF hn
  go_enter Tryd.func59, Tryd.ntmps59
  go_wp2_with fail
  refine (House_calls w).mono ?_
  rintro e W1 ⟨p, rfl, hA, hb1⟩
  have HB := Lib.hid hb1
  have HA := Lib.hid hA
  clear hA hb1
  go_wp2_with fail
  refine (model_calls p W1 HA.out).mono ?_
  rintro e W2 ⟨mb, rfl, hM, hb2⟩
  have HB := Lib.hid (chain HB.out hb2)
  have HM := Lib.hid hM
  clear hM hb2
  go_wp2_with fail
  refine (New_calls mb most W2 HM.out (HT.out.below HB.out) hm).mono ?_
  rintro e W3 ⟨cb, tb, sb, rfl, hc3, hb3⟩
  have HC := Lib.hid (Ct.new HM.out hc3)
  have HB3 := Lib.hid (chain HB.out hb3)
  clear hc3 hb3
  go_wp2_with fail
  go_loopg [12] s.size (fun g s12 wr => ∃ (i : Nat) (hv : Value), i ≤ s.size ∧ g = s.size - i ∧ s12 = .int .i64 i ∧ Ct W2 HD most cb tb sb wr hv (s.data.toList.take i) ∧ Below w.heap.size w wr)
  case atStart => exact ⟨0, _, Nat.zero_le _, by omega, rfl, by simpa using HC.out, HB3.out⟩
  case round =>
    obtain ⟨i, hv, hi, hg, rfl, hct, hbw⟩ := hrel
    have HG := Lib.hid hg
    have HCT := Lib.hid hct
    have HBW := Lib.hid hbw
    clear hg hct hbw
    by_cases hlt : i < s.size
    · have hlti : (i : Int) < s.size := by omega
      obtain ⟨g, o, rfl, hgl, hcl⟩ := SameInt.Row.at HR.out (k := i) (by omega)
      have hci := hcl i (by omega)
      have hfi := HF.out i hlt
      have hnn : ¬ ((n : Int) ≤ i) := by omega
      have hin : (i : Int) < n := by omega
      have hti : s.data.toList.take (i + 1) = s.data.toList.take i ++ [s[i]] := by rw [byte_at hlt]; exact take_more (by omega)
      have hw9 : IntKind.i64.wrap ((i : Int) + 1) = ((i + 1 : Nat) : Int) := by rw [i64w _ (by omega) (by omega)]; omega
      have HTI := Lib.hid hti
      have HFI := Lib.hid hfi
      clear hcl hti hfi
      go_wp2_with fail
      refine (HCT.out.put s[i] (by rw [List.length_take]; omega)).mono ?_
      rintro e W4 ⟨v, hv', rfl, hrow, _, hu4, hn4, hct4⟩
      obtain ⟨av, cv, hvv, _, _⟩ := hrow.shape
      obtain ⟨m, hm⟩ : ∃ m, (news HD most (s.data.toList.take i) s[i]).length = m := ⟨_, rfl⟩
      rw [hm] at hvv
      subst hvv
      have hb4 : Below w.heap.size w W4 := HBW.out.trans (hu4.below HBW.out.size (fun b hb hh => by
        have := (own_lo HCT.out hh).1
        have := HB.out.size
        omega))
      have c4 : W4.cell? ⟨g, o + i, none⟩ = some (.int .i64 (F i)) := (hb4.cell (p := ⟨g, o + i, none⟩) hgl).trans hci
      rw [← HTI.out] at hct4
      have HCT4 := Lib.hid hct4
      have HB4 := Lib.hid hb4
      have hg4 : g < W4.heap.size := Nat.lt_of_lt_of_le hgl hb4.size
      have hml : m = (tolds HD most (s.data.toList.take (i + 1))).length - (tolds HD most (s.data.toList.take i)).length := by
        rw [← hm]
        unfold news
        rw [List.length_drop, ← HTI.out]
      have HML := Lib.hid hml
      clear hrow hu4 hn4 hct4 hb4 hci hgl hm hml
      go_wp2_with fail
      refine HCT4.out.over.mono ?_
      rintro e W5 ⟨rfl, rfl⟩
      by_cases ho : Overs HD most (s.data.toList.take (i + 1))
      · have hod : decide (Overs HD most (s.data.toList.take (i + 1))) = true := decide_eq_true ho
        have hf : F i = -1 := by rw [HFI.out]; unfold numI; rw [if_pos ho]
        rw [hf] at c4
        clear ho hf
        go_wp2_with fail
        go_roundg (s.size - (i + 1))
        case measure => have := HG.out; omega
        case rel => exact ⟨i + 1, hv', by omega, rfl, by first | rfl | go_num, HCT4.out, HB4.out⟩
      · have hod : decide (Overs HD most (s.data.toList.take (i + 1))) = false := decide_eq_false ho
        have hf : F i = m := by rw [HFI.out, HML.out]; unfold numI; rw [if_neg ho]
        rw [hf] at c4
        clear ho hf
        go_wp2_with fail
        go_roundg (s.size - (i + 1))
        case measure => have := HG.out; omega
        case rel => exact ⟨i + 1, hv', by omega, rfl, by first | rfl | go_num, HCT4.out, HB4.out⟩
    · have hil : i = s.size := by omega
      subst hil
      have htk : s.data.toList.take s.size = s.data.toList := List.take_of_length_le (by omega)
      rw [htk] at HCT
      rcases HN.out with hn | ⟨hn, hf⟩
      · subst hn
        go_wp2_with fail
        refine region_calm (by kernel_rfl) (by kernel_rfl) ?_
        repeat (quiet_step ((fail)))
        refine wpQuiet_nil ?_
        rintro _ ⟨y, rfl⟩
        go_wp2_with fail
        go_ret
        exact ⟨rfl, HBW.out.trans (y.h.mono HBW.out.size)⟩
      · subst hn
        obtain ⟨g, o, rfl, hgl, hcl⟩ := SameInt.Row.at HR.out (k := s.size) (by omega)
        have hci := hcl s.size (by omega)
        rw [hf] at hci
        have HCI := Lib.hid (fun (w' : World) (h : Below w.heap.size w w') => (⟨(h.cell (p := ⟨g, o + s.size, none⟩) hgl).trans hci, Nat.lt_of_lt_of_le hgl h.size⟩ : w'.cell? ⟨g, o + s.size, none⟩ = some (.int .i64 (endI HD most s.data.toList)) ∧ g < w'.heap.size))
        have hbd : Below w.heap.size w wr.drew := HBW.out.drew
        have HBD := Lib.hid hbd
        have HE := Lib.hid ((HCT.out.below (W' := wr.drew) (Below.refl _ _).drew).ends (by omega))
        have hsn : ((s.size : Int) + 1 == s.size) = false := by simp; omega
        have hsl : (s.size : Int) < (s.size : Int) + 1 := by omega
        have hw9 : IntKind.i64.wrap ((s.size : Int) + 1) = (s.size : Int) + 1 := i64w _ (by omega) (by omega)
        clear hcl hci hbd hf
        go_wp2_with fail
        refine Rgs.RGT_begin (fun w' => Below w.heap.size w w') 25 [(0, 60), (2, 62), (1, 61), (3, 63), (4, 64), (5, 65), (6, 66), (8, 68), (7, 67), (9, 69), (10, 70), (11, 71), (12, 72), (13, 73), (16, 76), (17, 77), (18, 78), (19, 79), (20, 80)] (by rfl) (by decide +kernel) (by kernel_rfl) (HBD.out) (fun R hR => ?_)
        repeat ((first | refine Rgs.RGT_take (by exact rfl) (by exact rfl) (by decide +kernel) (by exact rfl) (by intro w' hw'; obtain ⟨y0, y1⟩ := HCI.out _ hw'; go_simp; try with_reducible rfl) ?_ | refine Rgs.RGT_skip (by exact rfl) (by exact rfl) (by decide +kernel) (by exact rfl) ?_); try simp only [Act.put, List.setIfInBounds_toArray, List.set_cons_zero, List.set_cons_succ])
        refine Rgs.RGT_one 14 [(15, 75), (21, 81), (22, 82), (23, 83), (24, 6)] (by exact rfl) (by decide +kernel) (by exact rfl) (fun K hK => ?_)
        go_wp2_with fail; refine HE.out.mono ?_; rintro e W5 ⟨v, rfl, hrow, _, hu5, _⟩; obtain ⟨av, cv, hvv, _, _⟩ := hrow.shape; obtain ⟨m, hm⟩ : ∃ m, ((toldE HD most s.data.toList).drop (tolds HD most s.data.toList).length).length = m := ⟨_, rfl⟩; rw [hm] at hvv; subst hvv; have hb5 : Below w.heap.size w W5 := HBD.out.trans (hu5.below HBD.out.size (fun b hb hh => by have h1 := (own_lo HCT.out hh).1; have h2 := HB.out.size; omega))
        refine hK _ _ (hb5) ?_
        clear hK K
        try simp only [Act.put, List.setIfInBounds_toArray, List.set_cons_zero, List.set_cons_succ]
        repeat ((first | refine Rgs.RGT_take (by exact rfl) (by exact rfl) (by decide +kernel) (by exact rfl) (by intro w' hw'; obtain ⟨y0, y1⟩ := HCI.out _ hw'; go_simp; try with_reducible rfl) ?_ | refine Rgs.RGT_skip (by exact rfl) (by exact rfl) (by decide +kernel) (by exact rfl) ?_); try simp only [Act.put, List.setIfInBounds_toArray, List.set_cons_zero, List.set_cons_succ])
        refine Rgs.RGT_done (by decide +kernel) (hR _ _ ?_)
        have hmm : ((m : Int) == endI HD most s.data.toList) = true := by
          rw [beq_iff_eq, ← hm]
          unfold endI
          rw [List.length_drop]
        clear hm hrow hu5 hR R
        have HB5 := Lib.hid hb5
        clear hb5
        go_wp2_with fail
        go_ret
        exact ⟨ret_bool hmm, HB5.out⟩

end Go.Proofs.YtendkmldecoogaaDoor.Law13
namespace Go.Proofs.YtendkmldecoogaaDoor.Law13
open Go Go.RowKit Go.Proofs.YtendkmldecoogaaDoor Go.Proofs.YtendkmldecoogaaDoor.Kit Go.Proofs.YtendkmldecoogaaDoor.ItGo Go.Proofs.YtendkmldecoogaaDoor.Dt Go.Proofs.YtendkmldecoogaaDoor.House Go.Proofs.YtendkmldecoogaaDoor.StepLaw Go.Proofs.YtendkmldecoogaaDoor.StepRun
attribute [local irreducible] wpQuiet wpStill
set_option linter.unusedSimpArgs false

/-- The same as a test. -/
def toldB (most : Nat) (l : List UInt8) (ws : List Int) : Bool :=
  (List.range l.length).all (fun i => decide (ws.getD i 0 = numI HD most l i)) && (decide (ws.length = l.length) || (decide (ws.length = l.length + 1) && decide (ws.getD l.length 0 = endI HD most l)))
theorem told_new (most : Nat) (l : List UInt8) (ws : List Int) (h : toldB most l ws = true) (hm : 1 ≤ most ∧ most ≤ 65536) (hl : l.length ≤ 1000) (W : World) (hT : Tabs W) (n : Nat) (t : ByteArray) (o : Obj) (mi : Int) (hmi : mi = most) (ht : t = CutAs.bytes l) (hnn : n = ws.length) (ho : o = .cells (ws.map (Value.int .i64)).toArray 3) :
    Calls Tryd.prog 59 #[.string t, .int .i64 mi, .slice (some ⟨W.heap.size, 0, none⟩) n n] (W.alloc o) fun e w' => e = .returned (.bool true) ∧ Below W.heap.size W w' := by
  subst ht hnn ho hmi
  have hb : Below W.heap.size W (W.alloc (.cells (ws.map (Value.int .i64)).toArray 3)) := (Below.refl _ _).alloc (Nat.le_refl _) _
  unfold toldB at h
  simp only [Bool.and_eq_true, Bool.or_eq_true, decide_eq_true_eq, List.all_eq_true, List.mem_range] at h
  refine (told_calls (CutAs.bytes l) most ws.length ws.length _ (fun i => ws.getD i 0) _ (.inr ⟨W.heap.size, 0, rfl, by simp, fun i hi => ?_⟩) hm (by rw [CutAs.bytes_size]; exact hl) (hT.below hb) (fun i hi => ?_) ?_).mono fun _ _ ⟨h1, h2⟩ => ⟨h1, chain hb h2⟩
  · rw [cell_at (alloc_new rfl)]
    simp [List.getD, hi]
  · rw [CutAs.bytes_size] at hi
    exact h.1 i hi
  · rw [CutAs.bytes_size]
    exact h.2

theorem t1 : toldB 4 [105, 116, 39, 115] [0, 0, 1, 1] = true := by decide +kernel
theorem t2 : toldB 4 [39, 114, 120, 49] [0, 0, 1, 1] = true := by decide +kernel
theorem t3 : toldB 4 [32, 32, 97] [0, 0, 1] = true := by decide +kernel

set_option maxHeartbeats 1000000 in
set_option maxRecDepth 100000 in
theorem known_calls (w : World) (hT : Tabs w) : Calls Tryd.prog 50 #[] w fun e w' => e = .returned (.bool true) ∧ Below w.heap.size w w' := by
  have HT := Lib.hid hT
  clear hT
  go_enter Tryd.func50, Tryd.ntmps50
  go_wp2_with fail
  refine (told_new 4 _ _ t1 (by decide) (by decide) w HT.out _ _ _ _ rfl rfl rfl rfl).mono ?_
  rintro e W1 ⟨rfl, hb1⟩
  have HB := Lib.hid hb1
  clear hb1
  go_wp2_with fail
  refine (told_new 4 _ _ t2 (by decide) (by decide) W1 (HT.out.below HB.out) _ _ _ _ rfl rfl rfl rfl).mono ?_
  rintro e W2 ⟨rfl, hb2⟩
  have HB := Lib.hid (chain HB.out hb2)
  clear hb2
  go_wp2_with fail
  refine (told_new 4 _ _ t3 (by decide) (by decide) W2 (HT.out.below HB.out) _ _ _ _ rfl rfl rfl rfl).mono ?_
  rintro e W3 ⟨rfl, hb3⟩
  have HB := Lib.hid (chain HB.out hb3)
  clear hb3
  go_wp2_with fail
  go_ret
  exact ⟨rfl, HB.out⟩
end Go.Proofs.YtendkmldecoogaaDoor.Law13
namespace Go.Proofs.YtendkmldecoogaaDoor.StepMore
open Go Go.RowKit Go.Proofs.YtendkmldecoogaaDoor Go.Proofs.YtendkmldecoogaaDoor.Kit Go.Proofs.YtendkmldecoogaaDoor.Round Go.Proofs.YtendkmldecoogaaDoor.Seg Go.Proofs.YtendkmldecoogaaDoor.Collect Go.Proofs.YtendkmldecoogaaDoor.Dt Go.Proofs.YtendkmldecoogaaDoor.Cu Go.Proofs.YtendkmldecoogaaDoor.CutAll Go.Proofs.YtendkmldecoogaaDoor.CutTokens Go.Proofs.YtendkmldecoogaaDoor.StepLaw Go.Proofs.YtendkmldecoogaaDoor.StepRun Go.Proofs.YtendkmldecoogaaDoor.StepCt
attribute [local irreducible] wpQuiet

variable {w0 W W4 A : World} {D : Dt} {most cb tb sb base : Nat} {hv hv' v v2 : Value} {t t' : List UInt8} {T N : List Tk}

theorem one_cells {T : List Tk} {u : Value} (h : u ∈ flat T) : u.oneCell' = true := by
  unfold flat at h
  obtain ⟨x, _, hx⟩ := List.mem_flatMap.1 h
  simp only [List.mem_cons, List.not_mem_nil, or_false] at hx
  rcases hx with rfl | rfl | rfl <;> rfl
/-- A list is put behind a list. -/
theorem more (hr : TRow W4 base v T) (hr2 : TRow W4 W.heap.size v2 N) (hb : base ≤ W4.heap.size) (hl : T.length + N.length ≤ 1000000) (ty : TypeId) :
    ∃ v' A, (Builtin.append_ #[22, 22] ty #[v, v2]).run Tryd.prog W4 = .ok v' A ∧ TRow A base v' (T ++ N) ∧ Upd (fun b => v.ownBlock = some b) W4 A ∧ (∀ b, v'.ownBlock = some b → v.ownBlock = some b ∨ W4.heap.size ≤ b) := by
  obtain ⟨i, hi, hz0, hz1, hz2⟩ := elemT.parts
  obtain ⟨v', A, h1, ha, _⟩ := run_append_seg (P := Tryd.prog) W4 base 22 ty 49 i _ 3 24 elemT.t hi hz0 hz1 hz2 elemT.z elemT.p v T.length (flat T) hr v2 N.length (flat N) (flat_len N) (Seg.src hr2) (fun u hu => one_cells hu) (by unfold maxLen; omega) (by omega) hb
  refine ⟨v', A, h1, ?_, ha.u, fun b hb => ?_⟩
  · unfold TRow
    rw [flat_append, List.length_append]
    exact ha.seg
  · rcases ha.blk with q | q
    · exact .inl (by rw [← q]; exact hb)
    · exact .inr (q b hb)

/-- What lies apart from a Cutter. -/
def Apart (cb sb : Nat) (hv v : Value) : Prop := ∀ b, v.ownBlock = some b → ¬ StepGo.Own cb sb hv b
theorem keep_row (hu : Upd (StepGo.Own cb sb hv) W W4) (hr : TRow W base v T) (hd : Apart cb sb hv v) : TRow W4 base v T := Seg.upd hr hu hd
/-- Behind a byte put and an append. -/
theorem turn (hn : ∀ b, hv'.ownBlock = some b → W.heap.size ≤ b) (h4 : Ct w0 D most cb tb sb W4 hv' t') (hr : TRow W base v T) (hd : Apart cb sb hv v) (hb : w0.heap.size ≤ base)
    (hA : Upd (fun b => v.ownBlock = some b) W4 A) (hv2 : ∀ b, v2.ownBlock = some b → v.ownBlock = some b ∨ W4.heap.size ≤ b) : Ct w0 D most cb tb sb A hv' t' ∧ Apart cb sb hv' v2 := by
  have hlt : ∀ b, v.ownBlock = some b → base ≤ b ∧ b < W.heap.size := fun b hb => Seg.lt hr b hb
  refine ⟨h4.upd hA (fun e => hd cb e (.inl rfl)) (fun e => hd sb e (.inr (.inl rfl))) (fun b h1 h2 => ?_) (fun b h1 h2 => ?_), fun b h1 h2 => ?_⟩
  · have := hn b h1; have := (hlt b h2).2; omega
  · have := (hlt b h2).1; omega
  · rcases hv2 b h1 with h3 | h3
    · rcases h2 with h2 | h2 | h2
      · exact hd b h3 (.inl h2)
      · exact hd b h3 (.inr (.inl h2))
      · have := hn b h2; have := (hlt b h3).2; omega
    · have := (own_lo h4 h2).2
      omega

theorem ofI_len {D : Dt} (fin : Bool) : ∀ (m : Nat) (L : List It.It), L.length ≤ m → (ofI D L fin).1.length ≤ L.length
  | 0, L, h => by
    have : L = [] := List.length_eq_zero_iff.1 (by omega)
    subst this
    simp [ofI_nil]
  | m + 1, L, h => by
    by_cases hL : L = []
    · subst hL; simp [ofI_nil]
    · cases hn : nextI D L fin with
      | none => rw [ofI_none hn]; simp
      | some r =>
        obtain ⟨n, s⟩ := r
        obtain ⟨h1, h2, _⟩ := nextI_some hn hL
        have ih := ofI_len (D := D) fin m (L.drop n) (by rw [List.length_drop]; omega)
        rw [ofI_some hL hn]
        rw [List.length_drop] at ih
        simp only [List.length_cons]
        omega
theorem tolds_len (D : Dt) (most : Nat) (l : List UInt8) : (tolds D most l).length ≤ l.length := by
  have h1 : (tolds D most l).length ≤ (R D l).1.length := (List.takeWhile_sublist _).length_le
  have h2 : (R D l).1.length ≤ (L l).length := ofI_len false _ (L l) (Nat.le_refl _)
  have h3 := StepGo.comp_len 0 l
  unfold L at h2
  omega
theorem toldE_len (D : Dt) (most : Nat) (l : List UInt8) : (toldE D most l).length ≤ l.length := by
  have h1 : (toldE D most l).length ≤ (toks D 0 l).length := (List.takeWhile_sublist _).length_le
  have h2 : (toks D 0 l).length ≤ (It.items 0 l).length := ofI_len true _ _ (Nat.le_refl _)
  have h3 := It.items_len l 0
  omega

theorem while_take {p : Tk → Bool} : ∀ {T : List Tk} {k : Nat}, k ≤ T.length → (∀ i, i < k → p (T.getD i default) = true) → (k < T.length → p (T.getD k default) = false) → T.takeWhile p = T.take k
  | [], k, h, _, _ => by simp
  | x :: T, 0, _, _, h2 => by
    have := h2 (by simp)
    simp only [List.getD_cons_zero] at this
    rw [List.takeWhile_cons, if_neg (by rw [this]; simp), List.take_zero]
  | x :: T, k + 1, h, h1, h2 => by
    have h0 := h1 0 (by omega)
    simp only [List.getD_cons_zero] at h0
    rw [List.takeWhile_cons, if_pos h0, List.take_succ_cons, while_take (k := k) (by simpa using h) (fun i hi => by simpa using h1 (i + 1) (by omega)) (fun hk => by simpa using h2 (by simpa using hk))]
theorem all_of {p : Tk → Bool} {T : List Tk} {k : Nat} (hk : k ≤ T.length) (h1 : ∀ i, i < k → p (T.getD i default) = true) (h2 : k < T.length → p (T.getD k default) = false) : T.all p = decide (¬ k < T.length) := by
  by_cases h : k < T.length
  · rw [decide_eq_false (by simpa using h)]
    have h3 := h2 h
    cases hx : T.all p
    · rfl
    · have := List.all_eq_true.1 hx (T.getD k default) (by rw [List.getD, List.getElem?_eq_getElem h]; exact List.getElem_mem h)
      rw [h3] at this
      cases this
  · rw [decide_eq_true h, List.all_eq_true]
    intro x hx
    obtain ⟨i, hi, rfl⟩ := List.mem_iff_getElem.1 hx
    have := h1 i (by omega)
    simpa [List.getD, hi] using this

theorem row_all {w : World} {a : Option Addr} {cap : Nat} {T : List Tk} (h : TRow w base (.slice a T.length cap) T) : SameTok.Row w a T.length (fun i => ((T.getD i default).a : Int)) (fun i => ((T.getD i default).b : Int)) (fun i => ((T.getD i default).s : Int)) := by
  rcases Nat.eq_zero_or_pos T.length with h0 | h0
  · exact .inl h0
  · obtain ⟨g, o, rfl, _, hg, hc⟩ := Seg.cells h h0
    refine .inr ⟨g, o, rfl, hg, fun i hi => ?_⟩
    obtain ⟨f1, f2, f3⟩ := flat_at hi
    exact ⟨hc _ _ f1, by rw [Nat.add_assoc]; exact hc _ _ f2, by rw [Nat.add_assoc]; exact hc _ _ f3⟩
theorem row_take {w : World} {v : Value} {T : List Tk} {k : Nat} (hk : k ≤ T.length) (h : TRow w base v (T.take k)) : ∃ a cap, v = .slice a k cap ∧ SameTok.Row w a k (fun i => ((T.getD i default).a : Int)) (fun i => ((T.getD i default).b : Int)) (fun i => ((T.getD i default).s : Int)) := by
  have hl : (T.take k).length = k := by rw [List.length_take]; omega
  obtain ⟨a, cap, rfl, _⟩ := TRow.shape h
  have h1 := row_all h
  rw [hl] at h1 ⊢
  refine ⟨a, cap, rfl, SameTok.Row.cong h1 (fun i hi => ?_)⟩
  have e : (T.take k).getD i default = T.getD i default := by simp [List.getD, hi]
  rw [e]
  exact ⟨rfl, rfl, rfl⟩
end Go.Proofs.YtendkmldecoogaaDoor.StepMore
