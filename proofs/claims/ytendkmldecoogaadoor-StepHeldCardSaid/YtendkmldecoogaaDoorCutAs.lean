/-
  tesserabook.House: a small right model's data. tesseralaw12: few, cutAs, known.
-/
import Derived.Test.YtendkmldecoogaaDoorMoNew
import Derived.Test.YtendkmldecoogaaDoorCutAll
namespace Go.Proofs.YtendkmldecoogaaDoor.House
open Go Go.RowKit Go.Proofs.YtendkmldecoogaaDoor.Kit Go.Proofs.YtendkmldecoogaaDoor.SpFns Go.Proofs.YtendkmldecoogaaDoor.Dt Go.Proofs.YtendkmldecoogaaDoor.MoNew Go.Proofs.YtendkmldecoogaaDoor.Keep
attribute [local irreducible] wpQuiet

def hw : Nat → ByteArray | 0 => ⟨#[97, 98]⟩ | 1 => ⟨#[32, 97]⟩ | 2 => ⟨#[116, 104]⟩ | 3 => ⟨#[116, 104, 101]⟩ | 4 => ⟨#[104, 101]⟩ | _ => ⟨#[195, 169]⟩
def ha : Nat → Int | 0 => 97 | 1 => 32 | 2 => 116 | 3 => 258 | 4 => 104 | _ => 195
def hb : Nat → Int | 0 => 98 | 1 => 97 | 2 => 104 | 3 => 101 | 4 => 101 | _ => 169
def hi (i : Nat) : Int := 256 + i
def l0 : Nat → Int | 0 => 97 | _ => 233
def h0 : Nat → Int | 0 => 122 | _ => 233
def l2 : Nat → Int | 0 => 9 | _ => 32
def h2 : Nat → Int | 0 => 10 | _ => 32
def HD : Dt := ⟨6, hw, 6, ha, hb, hi, 2, l0, h0, 1, fun _ => 48, fun _ => 57, 2, l2, h2⟩

theorem chk_HD : chk HD = (0, 0, 0) := by decide +kernel

theorem six (w : World) (o0 o1 o2 o3 o4 o5 : Obj) (W : World) (h : (((((w.alloc o0).alloc o1).alloc o2).alloc o3).alloc o4).alloc o5 = W) :
    W.heap[w.heap.size]? = some o0 ∧ W.heap[w.heap.size + 1]? = some o1 ∧ W.heap[w.heap.size + 1 + 1]? = some o2 ∧ W.heap[w.heap.size + 1 + 1 + 1]? = some o3 ∧ W.heap[w.heap.size + 1 + 1 + 1 + 1]? = some o4 ∧ W.heap[w.heap.size + 1 + 1 + 1 + 1 + 1]? = some o5 ∧ Below w.heap.size w W := by
  subst h
  refine ⟨?_, ?_, ?_, ?_, ?_, alloc_new (by simp only [World.size_alloc]), ?_⟩
  · rw [alloc_old (by simp only [World.size_alloc]; omega), alloc_old (by simp only [World.size_alloc]; omega), alloc_old (by simp only [World.size_alloc]; omega), alloc_old (by simp only [World.size_alloc]; omega), alloc_old (by simp only [World.size_alloc]; omega), alloc_new rfl]
  · rw [alloc_old (by simp only [World.size_alloc]; omega), alloc_old (by simp only [World.size_alloc]; omega), alloc_old (by simp only [World.size_alloc]; omega), alloc_old (by simp only [World.size_alloc]; omega), alloc_new (by simp only [World.size_alloc])]
  · rw [alloc_old (by simp only [World.size_alloc]; omega), alloc_old (by simp only [World.size_alloc]; omega), alloc_old (by simp only [World.size_alloc]; omega), alloc_new (by simp only [World.size_alloc])]
  · rw [alloc_old (by simp only [World.size_alloc]; omega), alloc_old (by simp only [World.size_alloc]; omega), alloc_new (by simp only [World.size_alloc])]
  · rw [alloc_old (by simp only [World.size_alloc]; omega), alloc_new (by simp only [World.size_alloc])]
  · exact ((((((Below.refl _ w).alloc (Nat.le_refl _) _).alloc (by simp only [World.size_alloc]; omega) _).alloc (by simp only [World.size_alloc]; omega) _).alloc (by simp only [World.size_alloc]; omega) _).alloc (by simp only [World.size_alloc]; omega) _).alloc (by simp only [World.size_alloc]; omega) _

set_option maxHeartbeats 1000000 in
set_option maxRecDepth 100000 in
theorem House_calls (w : World) : Calls Tryd.prog 20 #[] w fun e w' => ∃ p, e = .returned (.agg #[.slice p.a0 HD.nw p.c0, .slice p.a1 HD.nm p.c1, .slice p.a2 HD.n0 p.c2, .slice p.a3 HD.n1 p.c3, .slice p.a4 HD.n2 p.c4]) ∧ At w' HD p ∧ Below w.heap.size w w' := by
  obtain ⟨W, hW⟩ : ∃ W, ((((((w.alloc (.cells #[.slice (some ⟨w.heap.size + 1, 0, none⟩) 6 6, .slice (some ⟨w.heap.size + 1 + 1, 0, none⟩) 6 6, .slice (some ⟨w.heap.size + 1 + 1 + 1, 0, none⟩) 2 2, .slice (some ⟨w.heap.size + 1 + 1 + 1 + 1, 0, none⟩) 1 1, .slice (some ⟨w.heap.size + 1 + 1 + 1 + 1 + 1, 0, none⟩) 2 2] 33)).alloc (.cells #[.string ⟨#[97, 98]⟩, .string ⟨#[32, 97]⟩, .string ⟨#[116, 104]⟩, .string ⟨#[116, 104, 101]⟩, .string ⟨#[104, 101]⟩, .string ⟨#[195, 169]⟩] 9)).alloc (.cells #[.int .i64 97, .int .i64 98, .int .i64 256, .int .i64 32, .int .i64 97, .int .i64 257, .int .i64 116, .int .i64 104, .int .i64 258, .int .i64 258, .int .i64 101, .int .i64 259, .int .i64 104, .int .i64 101, .int .i64 260, .int .i64 195, .int .i64 169, .int .i64 261] 117)).alloc (.cells #[.int .i32 97, .int .i32 122, .int .i32 233, .int .i32 233] 84)).alloc (.cells #[.int .i32 48, .int .i32 57] 84)).alloc (.cells #[.int .i32 9, .int .i32 10, .int .i32 32, .int .i32 32] 84)) = W := ⟨_, rfl⟩
  have H := Lib.hid (six w _ _ _ _ _ _ W hW)
  have HW := Lib.hid hW
  clear hW
  go_enter Tryd.func20, Tryd.ntmps20
  go_wp2_with fail
  rw [HW.out]
  obtain ⟨s0, s1, s2, s3, s4, s5, sb⟩ := H.out
  have c0 := cell_at s0 0
  have c1 := cell_at s0 1
  have c2 := cell_at s0 2
  have c3 := cell_at s0 3
  have c4 := cell_at s0 4
  simp only [List.getElem?_toArray, List.getElem?_cons_zero, List.getElem?_cons_succ] at c0 c1 c2 c3 c4
  refine bodyPost_ret (v := .agg #[.slice (some ⟨w.heap.size + 1, 0, none⟩) 6 6, .slice (some ⟨w.heap.size + 1 + 1, 0, none⟩) 6 6, .slice (some ⟨w.heap.size + 1 + 1 + 1, 0, none⟩) 2 2, .slice (some ⟨w.heap.size + 1 + 1 + 1 + 1, 0, none⟩) 1 1, .slice (some ⟨w.heap.size + 1 + 1 + 1 + 1 + 1, 0, none⟩) 2 2]) (by simp [results, Tryd.results20, go_sem, c0, c1, c2, c3, c4]) rfl ⟨⟨some ⟨w.heap.size + 1, 0, none⟩, 6, some ⟨w.heap.size + 1 + 1, 0, none⟩, 6, some ⟨w.heap.size + 1 + 1 + 1, 0, none⟩, 2, some ⟨w.heap.size + 1 + 1 + 1 + 1, 0, none⟩, 1, some ⟨w.heap.size + 1 + 1 + 1 + 1 + 1, 0, none⟩, 2⟩, rfl, ?_, sb⟩
  refine ⟨.inr ⟨_, 0, rfl, lt_of_heap s1, fun i hi => ?_⟩, .inr ⟨_, 0, rfl, lt_of_heap s2, fun i hi => ?_⟩, .inr ⟨_, 0, rfl, lt_of_heap s3, fun i hi => ?_⟩, .inr ⟨_, 0, rfl, lt_of_heap s4, fun i hi => ?_⟩, .inr ⟨_, 0, rfl, lt_of_heap s5, fun i hi => ?_⟩,
    by decide, by decide, by decide, by decide, by decide, Nat.le_refl _, Nat.le_refl _, Nat.le_refl _, Nat.le_refl _, Nat.le_refl _, ?_, ?_⟩
  · have hi6 : i < 6 := hi
    match i, hi6 with
    | 0, _ => exact cell_at s1 0
    | 1, _ => exact cell_at s1 1
    | 2, _ => exact cell_at s1 2
    | 3, _ => exact cell_at s1 3
    | 4, _ => exact cell_at s1 4
    | 5, _ => exact cell_at s1 5
  · have hi6 : i < 6 := hi
    match i, hi6 with
    | 0, _ => exact ⟨cell_at s2 0, cell_at s2 1, cell_at s2 2⟩
    | 1, _ => exact ⟨cell_at s2 3, cell_at s2 4, cell_at s2 5⟩
    | 2, _ => exact ⟨cell_at s2 6, cell_at s2 7, cell_at s2 8⟩
    | 3, _ => exact ⟨cell_at s2 9, cell_at s2 10, cell_at s2 11⟩
    | 4, _ => exact ⟨cell_at s2 12, cell_at s2 13, cell_at s2 14⟩
    | 5, _ => exact ⟨cell_at s2 15, cell_at s2 16, cell_at s2 17⟩
  · have hi2 : i < 2 := hi
    match i, hi2 with
    | 0, _ => exact ⟨cell_at s3 0, cell_at s3 1⟩
    | 1, _ => exact ⟨cell_at s3 2, cell_at s3 3⟩
  · have hi1 : i < 1 := hi
    match i, hi1 with
    | 0, _ => exact ⟨cell_at s4 0, cell_at s4 1⟩
  · have hi2 : i < 2 := hi
    match i, hi2 with
    | 0, _ => exact ⟨cell_at s5 0, cell_at s5 1⟩
    | 1, _ => exact ⟨cell_at s5 2, cell_at s5 3⟩
  · intro i hi
    have hi6 : i < 6 := hi
    match i, hi6 with
    | 0, _ => decide
    | 1, _ => decide
    | 2, _ => decide
    | 3, _ => decide
    | 4, _ => decide
    | 5, _ => decide
  · intro i hi
    have hi6 : i < 6 := hi
    match i, hi6 with
    | 0, _ => decide
    | 1, _ => decide
    | 2, _ => decide
    | 3, _ => decide
    | 4, _ => decide
    | 5, _ => decide

/-- A right model of it. -/
theorem model_calls (p : Pl) (w : World) (h : At w HD p) : Calls Tryd.prog 19 #[.agg #[.slice p.a0 HD.nw p.c0, .slice p.a1 HD.nm p.c1, .slice p.a2 HD.n0 p.c2, .slice p.a3 HD.n1 p.c3, .slice p.a4 HD.n2 p.c4]] w fun e w' =>
    ∃ mb, e = .returned (.tuple #[.pointer (some ⟨mb, 0, none⟩), .bool true, .bool true]) ∧ Mod w' mb HD ∧ Below w.heap.size w w' := by
  refine (OfX_calls HD p w h).mono ?_
  rintro e w' (⟨_, h⟩ | ⟨mb, h1, h2, _, h3, _⟩)
  · exact absurd ⟨chk_HD, by decide⟩ h
  · exact ⟨mb, h1, h2, h3⟩
end Go.Proofs.YtendkmldecoogaaDoor.House
namespace Go.Proofs.YtendkmldecoogaaDoor.CutAs
open Go Go.RowKit Go.Proofs.YtendkmldecoogaaDoor.Kit Go.Proofs.YtendkmldecoogaaDoor.Range Go.Proofs.YtendkmldecoogaaDoor.Round Go.Proofs.YtendkmldecoogaaDoor.Seg Go.Proofs.YtendkmldecoogaaDoor.Utf Go.Proofs.YtendkmldecoogaaDoor.It Go.Proofs.YtendkmldecoogaaDoor.ItGo Go.Proofs.YtendkmldecoogaaDoor.Dt Go.Proofs.YtendkmldecoogaaDoor.Mo Go.Proofs.YtendkmldecoogaaDoor.MoNew Go.Proofs.YtendkmldecoogaaDoor.Cu Go.Proofs.YtendkmldecoogaaDoor.CutRun Go.Proofs.YtendkmldecoogaaDoor.CutNext Go.Proofs.YtendkmldecoogaaDoor.CutAll Go.Proofs.YtendkmldecoogaaDoor.CutTokens Go.Proofs.YtendkmldecoogaaDoor.House
attribute [local irreducible] wpQuiet

def few (s : ByteArray) (n : Nat) : ByteArray := if n < s.size then s.extract 0 n else s
theorem few_size (s : ByteArray) (n : Nat) : (few s n).size ≤ n ∧ (few s n).size ≤ s.size := by
  unfold few
  split
  · simp; omega
  · omega

set_option maxRecDepth 100000 in
theorem few_calls (s : ByteArray) (n : Nat) (w : World) (hn : n ≤ 1000000) : Calls Tryd.prog 23 #[.string s, .int .i64 n] w fun e w' => e = .returned (.string (few s n)) ∧ w = w' := by
  unfold few
  by_cases h : n < s.size
  · have h1 : (n : Int) < s.size := by omega
    rw [if_pos h]
    clear h
    go_enter Tryd.func23, Tryd.ntmps23
    go_wp2
    go_ret
    exact ⟨rfl, rfl⟩
  · have h1 : ¬ ((n : Int) < s.size) := by omega
    rw [if_neg h]
    clear h
    go_enter Tryd.func23, Tryd.ntmps23
    go_wp2
    go_ret
    exact ⟨rfl, rfl⟩

/-- A text is cut into these. -/
structure Cuts (t : ByteArray) (T : List Tk) (W : Nat → ByteArray) : Prop where
  le : ∀ i, i < T.length → (T.getD i default).a ≤ (T.getD i default).b ∧ (T.getD i default).b ≤ t.size
  eq : ∀ i, i < T.length → t.extract (T.getD i default).a (T.getD i default).b = W i

set_option maxHeartbeats 2000000 in
set_option maxRecDepth 100000 in
theorem cutAs_calls (t : ByteArray) (W : Nat → ByteArray) (a : Option Addr) (cap : Nat) (T : List Tk) (w : World) (hT : Tabs w) (hr : WRow w a T.length W) (hc : Cuts t T W) (ht : toks HD 0 t.data.toList = T) (hl : t.size ≤ 1000) (hn : T.length ≤ 1000) :
    Calls Tryd.prog 21 #[.string t, .slice a T.length cap] w fun e w' => e = .returned (.bool true) ∧ Below w.heap.size w w' := by
  have HT := Lib.hid hT
  have HR := Lib.hid hr
  have HC := Lib.hid hc
  have HTT := Lib.hid ht
  clear hT hr hc ht
  go_enter Tryd.func21, Tryd.ntmps21
  go_wp2_with fail
  refine (House_calls w).mono ?_
  rintro e W1 ⟨p, rfl, hA, hb1⟩
  have HB := Lib.hid hb1
  have HA := Lib.hid hA
  clear hA hb1
  go_wp2_with fail
  refine (model_calls p W1 HA.out).mono ?_
  rintro e W2 ⟨mb, rfl, hM, hb2⟩
  have HB := Lib.hid (chain HB.out hb2)
  have HM := Lib.hid hM
  clear hM hb2
  go_wp2_with fail
  refine (Tokens_calls HD mb t W2 HM.out (HT.out.below HB.out) (by omega)).mono ?_
  rintro e W3 ⟨v, rfl, hrow, hb3⟩
  have HB := Lib.hid (chain HB.out hb3)
  rw [HTT.out] at hrow
  obtain ⟨av, cv, rfl, hcv, hcells⟩ := hrow.shape
  have HCE := Lib.hid hcells
  clear hrow hb3 hcells
  go_wp2_with fail
  go_loopg [10] T.length (fun g s10 wr => ∃ i : Nat, i ≤ T.length ∧ g = T.length - i ∧ s10 = .int .i64 i ∧ Below W3.heap.size W3 wr)
  case atStart => exact ⟨0, Nat.zero_le _, by omega, rfl, Below.refl _ _⟩
  case round =>
    obtain ⟨i, hi, hg, rfl, hb⟩ := hrel
    have HG := Lib.hid hg
    have HBB := Lib.hid hb
    clear hg
    by_cases hlt : i < T.length
    · have hlti : (i : Int) < T.length := by omega
      obtain ⟨g, o, rfl, _, hgl, hce⟩ := HCE.out i hlt
      obtain ⟨c0, c1, _⟩ := hce i hlt
      rw [← cell_keep (hb.block g hgl)] at c0 c1
      obtain ⟨bw, ow, rfl, hwl, hcw⟩ := WRow.at (WRow.keep HR.out (chain HB.out hb).size (fun x hx hl => (chain HB.out hb).block _ hl)) hlt
      have w0 := hcw i hlt
      obtain ⟨le1, le2⟩ := HC.out.le i hlt
      have heq := HC.out.eq i hlt
      have zg : g < wr.heap.size := Nat.lt_of_lt_of_le hgl hb.size
      obtain ⟨x, hx⟩ : ∃ x, T.getD i default = x := ⟨_, rfl⟩
      rw [hx] at c0 c1 le1 le2 heq
      have d1 : ¬ ((x.a : Int) < 0) := by omega
      have d2 : ¬ ((t.size : Int) < x.b) := by omega
      have d3 : ¬ ((x.b : Int) < x.a) := by omega
      clear hce hcw hx hgl hb
      go_upto_region 10 with fail
      refine region_calm (by kernel_rfl) (by kernel_rfl) ?_
      repeat (quiet_step ((fail)))
      refine wpQuiet_nil ?_
      rintro _ ⟨y, rfl⟩
      have HBB := Lib.hid (Later.chain HBB.out y)
      generalize y.w = W5 at HBB ⊢
      go_wp2_with fail
      go_roundg (T.length - (i + 1))
      case measure => have := HG.out; omega
      case rel => exact ⟨i + 1, by omega, rfl, by go_num, HBB.out⟩
    · have hiT : i = T.length := by omega
      subst hiT
      go_wp2_with fail
      go_ret
      exact ⟨rfl, chain HB.out HBB.out⟩

/-- The same as a test. -/
def cutsB (l : List UInt8) (ws : List (List UInt8)) : Bool :=
  let T := toks HD 0 l
  decide (T.length = ws.length) && (List.range ws.length).all fun i => decide ((T.getD i default).a ≤ (T.getD i default).b ∧ (T.getD i default).b ≤ l.length) && decide ((l.drop (T.getD i default).a).take ((T.getD i default).b - (T.getD i default).a) = ws.getD i [])
def bytes (l : List UInt8) : ByteArray := ⟨l.toArray⟩
theorem bytes_list (l : List UInt8) : (bytes l).data.toList = l := rfl
theorem bytes_size (l : List UInt8) : (bytes l).size = l.length := by rw [← size_list, bytes_list]
theorem bytes_ext {a b : ByteArray} (h : a.data.toList = b.data.toList) : a = b := by
  cases a; cases b
  exact congrArg ByteArray.mk (Array.ext' h)
theorem cuts_of {l : List UInt8} {ws : List (List UInt8)} (h : cutsB l ws = true) : (toks HD 0 l).length = ws.length ∧ Cuts (bytes l) (toks HD 0 l) (fun i => bytes (ws.getD i [])) := by
  unfold cutsB at h
  simp only [Bool.and_eq_true, decide_eq_true_eq, List.all_eq_true, List.mem_range] at h
  obtain ⟨h1, h2⟩ := h
  refine ⟨h1, fun i hi => ?_, fun i hi => ?_⟩
  · rw [bytes_size]
    exact (h2 i (by omega)).1
  · obtain ⟨⟨h3, h4⟩, h5⟩ := h2 i (by omega)
    apply bytes_ext
    rw [bytes_list, ← h5]
    rw [ByteArray.data_extract, Array.toList_extract, List.extract_eq_take_drop, bytes_list]

theorem cutAs_at (l : List UInt8) (ws : List (List UInt8)) (h : cutsB l ws = true) (hl : l.length ≤ 1000) (hn : ws.length ≤ 1000) (w : World) (bw : Nat) (hT : Tabs w) (hb : w.heap[bw]? = some (.cells (ws.map fun x => Value.string (bytes x)).toArray 9 (0, 0))) :
    Calls Tryd.prog 21 #[.string (bytes l), .slice (some ⟨bw, 0, none⟩) ws.length ws.length] w fun e w' => e = .returned (.bool true) ∧ Below w.heap.size w w' := by
  obtain ⟨h1, h2⟩ := cuts_of h
  rw [← h1]
  refine cutAs_calls (bytes l) (fun i => bytes (ws.getD i [])) _ _ _ w hT (.inr ⟨bw, 0, rfl, lt_of_heap hb, fun i hi => ?_⟩) h2 rfl (by rw [bytes_size]; exact hl) (by omega)
  rw [cell_at hb]
  have : i < ws.length := by omega
  simp [List.getD, this]
theorem cutAs_none (l : List UInt8) (h : cutsB l [] = true) (hl : l.length ≤ 1000) (w : World) (hT : Tabs w) :
    Calls Tryd.prog 21 #[.string (bytes l), .slice none 0 0] w fun e w' => e = .returned (.bool true) ∧ Below w.heap.size w w' := by
  obtain ⟨h1, h2⟩ := cuts_of h
  have := cutAs_calls (bytes l) (fun i => bytes (([] : List (List UInt8)).getD i [])) none 0 _ w hT (.inl h1) h2 rfl (by rw [bytes_size]; exact hl) (by rw [h1]; decide)
  rw [h1] at this
  exact this

/-! ### The chapter's runs -/
theorem run_1 : cutsB [105, 116, 39, 115, 32, 49, 50, 32, 32, 111, 39, 99, 108, 111, 99, 107] [[105, 116], [39, 115], [32, 49, 50], [32], [32, 111], [39], [99, 108, 111, 99, 107]] = true := by decide +kernel
theorem run_2 : cutsB [10, 10, 97] [[10], [10], [97]] = true := by decide +kernel

theorem cutAs_new (l : List UInt8) (ws : List (List UInt8)) (h : cutsB l ws = true) (hl : l.length ≤ 1000) (hn : ws.length ≤ 1000) (W : World) (hT : Tabs W) (n : Nat) (t : ByteArray) (o : Obj) (ht : t = bytes l) (hnn : n = ws.length) (ho : o = .cells (ws.map fun x => Value.string (bytes x)).toArray 9) :
    Calls Tryd.prog 21 #[.string t, .slice (some ⟨W.heap.size, 0, none⟩) n n] (W.alloc o) fun e w' => e = .returned (.bool true) ∧ Below W.heap.size W w' := by
  subst ht hnn ho
  have hb : Below W.heap.size W (W.alloc (.cells (ws.map fun x => Value.string (bytes x)).toArray 9)) := (Below.refl _ _).alloc (Nat.le_refl _) _
  exact (cutAs_at l ws h hl hn _ _ (hT.below hb) (alloc_new rfl)).mono fun _ _ ⟨h1, h2⟩ => ⟨h1, chain hb h2⟩

set_option maxHeartbeats 1000000 in
set_option maxRecDepth 100000 in
theorem known_calls (w : World) (hT : Tabs w) : Calls Tryd.prog 22 #[] w fun e w' => e = .returned (.bool true) ∧ Below w.heap.size w w' := by
  have HT := Lib.hid hT
  clear hT
  go_enter Tryd.func22, Tryd.ntmps22
  go_wp2_with fail
  refine (cutAs_new _ _ run_1 (by decide) (by decide) w HT.out _ _ _ rfl rfl rfl).mono ?_
  rintro e W1 ⟨rfl, hb1⟩
  have HB := Lib.hid hb1
  clear hb1
  go_wp2_with fail
  refine (cutAs_new _ _ run_2 (by decide) (by decide) W1 (HT.out.below HB.out) _ _ _ rfl rfl rfl).mono ?_
  rintro e W2 ⟨rfl, hb2⟩
  have HB := Lib.hid (chain HB.out hb2)
  clear hb2
  go_wp2_with fail
  go_ret
  exact ⟨rfl, HB.out⟩
end Go.Proofs.YtendkmldecoogaaDoor.CutAs
