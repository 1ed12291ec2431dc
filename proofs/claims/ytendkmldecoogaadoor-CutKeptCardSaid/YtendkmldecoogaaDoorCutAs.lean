/-
  tesseralaw12: few, cutAs, known.
-/
import Derived.Test.YtendkmldecoogaaDoorCutTokens
import Derived.Test.YtendkmldecoogaaDoorHouse
namespace Go.Proofs.YtendkmldecoogaaDoor.CutAs
open Go Go.RowKit Go.Proofs.YtendkmldecoogaaDoor.Kit Go.Proofs.YtendkmldecoogaaDoor.Range Go.Proofs.YtendkmldecoogaaDoor.Round Go.Proofs.YtendkmldecoogaaDoor.Seg Go.Proofs.YtendkmldecoogaaDoor.Utf Go.Proofs.YtendkmldecoogaaDoor.It Go.Proofs.YtendkmldecoogaaDoor.ItGo Go.Proofs.YtendkmldecoogaaDoor.Dt Go.Proofs.YtendkmldecoogaaDoor.Mo Go.Proofs.YtendkmldecoogaaDoor.MoNew Go.Proofs.YtendkmldecoogaaDoor.Cu Go.Proofs.YtendkmldecoogaaDoor.CutRun Go.Proofs.YtendkmldecoogaaDoor.CutNext Go.Proofs.YtendkmldecoogaaDoor.CutAll Go.Proofs.YtendkmldecoogaaDoor.CutTokens Go.Proofs.YtendkmldecoogaaDoor.House
attribute [local irreducible] wpQuiet

def few (s : ByteArray) (n : Nat) : ByteArray := if n < s.size then s.extract 0 n else s
theorem few_size (s : ByteArray) (n : Nat) : (few s n).size ≤ n ∧ (few s n).size ≤ s.size := by
  unfold few
  split
  · simp; omega
  · omega

set_option maxRecDepth 100000 in
theorem few_calls (s : ByteArray) (n : Nat) (w : World) (hn : n ≤ 1000000) : Calls Tryd.prog 23 #[.string s, .int .i64 n] w fun e w' => e = .returned (.string (few s n)) ∧ w = w' := by
  unfold few
  by_cases h : n < s.size
  · have h1 : (n : Int) < s.size := by omega
    rw [if_pos h]
    clear h
    go_enter Tryd.func23, Tryd.ntmps23
    go_wp2
    go_ret
    exact ⟨rfl, rfl⟩
  · have h1 : ¬ ((n : Int) < s.size) := by omega
    rw [if_neg h]
    clear h
    go_enter Tryd.func23, Tryd.ntmps23
    go_wp2
    go_ret
    exact ⟨rfl, rfl⟩

/-- A text is cut into these. -/
structure Cuts (t : ByteArray) (T : List Tk) (W : Nat → ByteArray) : Prop where
  le : ∀ i, i < T.length → (T.getD i default).a ≤ (T.getD i default).b ∧ (T.getD i default).b ≤ t.size
  eq : ∀ i, i < T.length → t.extract (T.getD i default).a (T.getD i default).b = W i

set_option maxHeartbeats 2000000 in
set_option maxRecDepth 100000 in
theorem cutAs_calls (t : ByteArray) (W : Nat → ByteArray) (a : Option Addr) (cap : Nat) (T : List Tk) (w : World) (hT : Tabs w) (hr : WRow w a T.length W) (hc : Cuts t T W) (ht : toks HD 0 t.data.toList = T) (hl : t.size ≤ 1000) (hn : T.length ≤ 1000) :
    Calls Tryd.prog 21 #[.string t, .slice a T.length cap] w fun e w' => e = .returned (.bool true) ∧ Below w.heap.size w w' := by
  have HT := Lib.hid hT
  have HR := Lib.hid hr
  have HC := Lib.hid hc
  have HTT := Lib.hid ht
  clear hT hr hc ht
  go_enter Tryd.func21, Tryd.ntmps21
  go_wp2_with fail
  refine (House_calls w).mono ?_
  rintro e W1 ⟨p, rfl, hA, hb1⟩
  have HB := Lib.hid hb1
  have HA := Lib.hid hA
  clear hA hb1
  go_wp2_with fail
  refine (model_calls p W1 HA.out).mono ?_
  rintro e W2 ⟨mb, rfl, hM, hb2⟩
  have HB := Lib.hid (chain HB.out hb2)
  have HM := Lib.hid hM
  clear hM hb2
  go_wp2_with fail
  refine (Tokens_calls HD mb t W2 HM.out (HT.out.below HB.out) (by omega)).mono ?_
  rintro e W3 ⟨v, rfl, hrow, hb3⟩
  have HB := Lib.hid (chain HB.out hb3)
  rw [HTT.out] at hrow
  obtain ⟨av, cv, rfl, hcv, hcells⟩ := hrow.shape
  have HCE := Lib.hid hcells
  clear hrow hb3 hcells
  go_wp2_with fail
  go_loopg [10] T.length (fun g s10 wr => ∃ i : Nat, i ≤ T.length ∧ g = T.length - i ∧ s10 = .int .i64 i ∧ Below W3.heap.size W3 wr)
  case atStart => exact ⟨0, Nat.zero_le _, by omega, rfl, Below.refl _ _⟩
  case round =>
    obtain ⟨i, hi, hg, rfl, hb⟩ := hrel
    have HG := Lib.hid hg
    have HBB := Lib.hid hb
    clear hg
    by_cases hlt : i < T.length
    · have hlti : (i : Int) < T.length := by omega
      obtain ⟨g, o, rfl, _, hgl, hce⟩ := HCE.out i hlt
      obtain ⟨c0, c1, _⟩ := hce i hlt
      rw [← cell_keep (hb.block g hgl)] at c0 c1
      obtain ⟨bw, ow, rfl, hwl, hcw⟩ := WRow.at (WRow.keep HR.out (chain HB.out hb).size (fun x hx hl => (chain HB.out hb).block _ hl)) hlt
      have w0 := hcw i hlt
      obtain ⟨le1, le2⟩ := HC.out.le i hlt
      have heq := HC.out.eq i hlt
      have zg : g < wr.heap.size := Nat.lt_of_lt_of_le hgl hb.size
      obtain ⟨x, hx⟩ : ∃ x, T.getD i default = x := ⟨_, rfl⟩
      rw [hx] at c0 c1 le1 le2 heq
      have d1 : ¬ ((x.a : Int) < 0) := by omega
      have d2 : ¬ ((t.size : Int) < x.b) := by omega
      have d3 : ¬ ((x.b : Int) < x.a) := by omega
      clear hce hcw hx hgl hb
      go_upto_region 10 with fail
      refine region_calm (by kernel_rfl) (by kernel_rfl) ?_
      repeat (quiet_step ((fail)))
      refine wpQuiet_nil ?_
      rintro _ ⟨y, rfl⟩
      have HBB := Lib.hid (Later.chain HBB.out y)
      generalize y.w = W5 at HBB ⊢
      go_wp2_with fail
      go_roundg (T.length - (i + 1))
      case measure => have := HG.out; omega
      case rel => exact ⟨i + 1, by omega, rfl, by go_num, HBB.out⟩
    · have hiT : i = T.length := by omega
      subst hiT
      go_wp2_with fail
      go_ret
      exact ⟨rfl, chain HB.out HBB.out⟩

/-- The same as a test. -/
def cutsB (l : List UInt8) (ws : List (List UInt8)) : Bool :=
  let T := toks HD 0 l
  decide (T.length = ws.length) && (List.range ws.length).all fun i => decide ((T.getD i default).a ≤ (T.getD i default).b ∧ (T.getD i default).b ≤ l.length) && decide ((l.drop (T.getD i default).a).take ((T.getD i default).b - (T.getD i default).a) = ws.getD i [])
def bytes (l : List UInt8) : ByteArray := ⟨l.toArray⟩
theorem bytes_list (l : List UInt8) : (bytes l).data.toList = l := rfl
theorem bytes_size (l : List UInt8) : (bytes l).size = l.length := by rw [← size_list, bytes_list]
theorem bytes_ext {a b : ByteArray} (h : a.data.toList = b.data.toList) : a = b := by
  cases a; cases b
  exact congrArg ByteArray.mk (Array.ext' h)
theorem cuts_of {l : List UInt8} {ws : List (List UInt8)} (h : cutsB l ws = true) : (toks HD 0 l).length = ws.length ∧ Cuts (bytes l) (toks HD 0 l) (fun i => bytes (ws.getD i [])) := by
  unfold cutsB at h
  simp only [Bool.and_eq_true, decide_eq_true_eq, List.all_eq_true, List.mem_range] at h
  obtain ⟨h1, h2⟩ := h
  refine ⟨h1, fun i hi => ?_, fun i hi => ?_⟩
  · rw [bytes_size]
    exact (h2 i (by omega)).1
  · obtain ⟨⟨h3, h4⟩, h5⟩ := h2 i (by omega)
    apply bytes_ext
    rw [bytes_list, ← h5]
    rw [ByteArray.data_extract, Array.toList_extract, List.extract_eq_take_drop, bytes_list]

theorem cutAs_at (l : List UInt8) (ws : List (List UInt8)) (h : cutsB l ws = true) (hl : l.length ≤ 1000) (hn : ws.length ≤ 1000) (w : World) (bw : Nat) (hT : Tabs w) (hb : w.heap[bw]? = some (.cells (ws.map fun x => Value.string (bytes x)).toArray 9 (0, 0))) :
    Calls Tryd.prog 21 #[.string (bytes l), .slice (some ⟨bw, 0, none⟩) ws.length ws.length] w fun e w' => e = .returned (.bool true) ∧ Below w.heap.size w w' := by
  obtain ⟨h1, h2⟩ := cuts_of h
  rw [← h1]
  refine cutAs_calls (bytes l) (fun i => bytes (ws.getD i [])) _ _ _ w hT (.inr ⟨bw, 0, rfl, lt_of_heap hb, fun i hi => ?_⟩) h2 rfl (by rw [bytes_size]; exact hl) (by omega)
  rw [cell_at hb]
  have : i < ws.length := by omega
  simp [List.getD, this]
theorem cutAs_none (l : List UInt8) (h : cutsB l [] = true) (hl : l.length ≤ 1000) (w : World) (hT : Tabs w) :
    Calls Tryd.prog 21 #[.string (bytes l), .slice none 0 0] w fun e w' => e = .returned (.bool true) ∧ Below w.heap.size w w' := by
  obtain ⟨h1, h2⟩ := cuts_of h
  have := cutAs_calls (bytes l) (fun i => bytes (([] : List (List UInt8)).getD i [])) none 0 _ w hT (.inl h1) h2 rfl (by rw [bytes_size]; exact hl) (by rw [h1]; decide)
  rw [h1] at this
  exact this

/-! ### The chapter's runs -/
theorem run_1 : cutsB [105, 116, 39, 115, 32, 49, 50, 32, 32, 111, 39, 99, 108, 111, 99, 107] [[105, 116], [39, 115], [32, 49, 50], [32], [32, 111], [39], [99, 108, 111, 99, 107]] = true := by decide +kernel
theorem run_2 : cutsB [10, 10, 97] [[10], [10], [97]] = true := by decide +kernel

theorem cutAs_new (l : List UInt8) (ws : List (List UInt8)) (h : cutsB l ws = true) (hl : l.length ≤ 1000) (hn : ws.length ≤ 1000) (W : World) (hT : Tabs W) (n : Nat) (t : ByteArray) (o : Obj) (ht : t = bytes l) (hnn : n = ws.length) (ho : o = .cells (ws.map fun x => Value.string (bytes x)).toArray 9) :
    Calls Tryd.prog 21 #[.string t, .slice (some ⟨W.heap.size, 0, none⟩) n n] (W.alloc o) fun e w' => e = .returned (.bool true) ∧ Below W.heap.size W w' := by
  subst ht hnn ho
  have hb : Below W.heap.size W (W.alloc (.cells (ws.map fun x => Value.string (bytes x)).toArray 9)) := (Below.refl _ _).alloc (Nat.le_refl _) _
  exact (cutAs_at l ws h hl hn _ _ (hT.below hb) (alloc_new rfl)).mono fun _ _ ⟨h1, h2⟩ => ⟨h1, chain hb h2⟩

set_option maxHeartbeats 1000000 in
set_option maxRecDepth 100000 in
theorem known_calls (w : World) (hT : Tabs w) : Calls Tryd.prog 22 #[] w fun e w' => e = .returned (.bool true) ∧ Below w.heap.size w w' := by
  have HT := Lib.hid hT
  clear hT
  go_enter Tryd.func22, Tryd.ntmps22
  go_wp2_with fail
  refine (cutAs_new _ _ run_1 (by decide) (by decide) w HT.out _ _ _ rfl rfl rfl).mono ?_
  rintro e W1 ⟨rfl, hb1⟩
  have HB := Lib.hid hb1
  clear hb1
  go_wp2_with fail
  refine (cutAs_new _ _ run_2 (by decide) (by decide) W1 (HT.out.below HB.out) _ _ _ rfl rfl rfl).mono ?_
  rintro e W2 ⟨rfl, hb2⟩
  have HB := Lib.hid (chain HB.out hb2)
  clear hb2
  go_wp2_with fail
  go_ret
  exact ⟨rfl, HB.out⟩
end Go.Proofs.YtendkmldecoogaaDoor.CutAs
