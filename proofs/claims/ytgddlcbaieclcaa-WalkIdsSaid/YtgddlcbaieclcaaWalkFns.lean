/-
  The functions of package walk, stepped through: what quarter, turned, Byte, Join and Back return, the parts of a place told by their bits.
-/
import Derived.Test.YtgddlcbaieclcaaProg
import Derived.Test.YtgddlcbaieclcaaWalkNum
import Derived.Test.YtgddlcbaieclcaaKit
namespace Go.Proofs.Ytgddlcbaieclcaa.WalkFns
open Go Go.RowKit Go.Proofs.Ytgddlcbaieclcaa.WalkNum Go.Proofs.Ytgddlcbaieclcaa.Kit

theorem qt_eq (n : Int) : (n.tmod 4 + 4) % 4 = n % 4 := by
  have h := Int.tmod_add_mul_tdiv n 4
  omega

theorem quarter_calls (n : Int) (w : World) :
    Calls Try.prog 65 #[.int .i64 n] w fun e w' => e = .returned (.int .i64 (n % 4)) ∧ w = w' := by
  have h1 := Int.lt_tmod_of_pos n (show (0 : Int) < 4 by decide)
  have h2 := Int.tmod_lt_of_pos n (show (0 : Int) < 4 by decide)
  go_enter Try.func65, Try.ntmps65
  go_wp2
  go_ret
  exact ⟨ret_int (qt_eq n), rfl⟩

attribute [local go_sem] unary_neg_float

/-- The bits of a place turned by k quarters. -/
def trd (k : Int) (a b : Nat) : Nat × Nat :=
  if k = 1 then (Op.negFloat .f64 b, a) else if k = 2 then (Op.negFloat .f64 a, Op.negFloat .f64 b) else if k = 3 then (b, Op.negFloat .f64 a) else (a, b)

theorem turned_calls (a b : Nat) (n : Int) (w : World) :
    Calls Try.prog 66 #[.complex .f64 a b, .int .i64 n] w fun e w' => e = .returned (.complex .f64 (trd (n % 4) a b).1 (trd (n % 4) a b).2) ∧ w = w' := by
  obtain ⟨k, hk⟩ : ∃ k, n % 4 = k := ⟨_, rfl⟩
  have h0 : 0 ≤ k := by omega
  have h4 : k < 4 := by omega
  have HK := Lib.hid hk
  clear hk
  have hc : k = 0 ∨ k = 1 ∨ k = 2 ∨ k = 3 := by omega
  rcases hc with rfl | rfl | rfl | rfl
  all_goals
    go_enter Try.func66, Try.ntmps66
    go_wp2_with (go_at_call 65; refine (quarter_calls _ _).mono ?_; rintro e w' ⟨rfl, rfl⟩; rw [HK.out])
    go_ret
    rw [HK.out]
    exact ⟨rfl, rfl⟩

/-- A turn of the plane by k quarters, of whole numbers. -/
def rot (k x y : Int) : Int × Int := if k = 1 then (-y, x) else if k = 2 then (-x, -y) else if k = 3 then (y, -x) else (x, y)

theorem rep_trd {k : Int} {a b : Nat} {x y : Int} (ha : Rep a x) (hb : Rep b y) : Rep (trd k a b).1 (rot k x y).1 ∧ Rep (trd k a b).2 (rot k x y).2 := by
  unfold trd rot
  split
  · exact ⟨rep_neg hb, ha⟩
  · split
    · exact ⟨rep_neg ha, rep_neg hb⟩
    · split
      · exact ⟨hb, rep_neg ha⟩
      · exact ⟨ha, hb⟩

theorem rot_le (k x y : Int) : (rot k x y).1.natAbs ≤ max x.natAbs y.natAbs ∧ (rot k x y).2.natAbs ≤ max x.natAbs y.natAbs := by
  unfold rot
  repeat' split
  all_goals (simp only []; omega)

/-- A walk, in whole numbers. -/
structure W3 where
  t : Int
  x : Int
  y : Int

/-- A walk, its place told by bits. -/
structure WB where
  t : Int
  p : Nat
  q : Nat

@[go_sem] def WB.val (a : WB) : Value := .agg #[.int .i64 a.t, .complex .f64 a.p a.q]

/-- These bits stand for that walk. -/
def IsB (a : WB) (m : W3) : Prop := a.t = m.t ∧ Rep a.p m.x ∧ Rep a.q m.y

def J (a b : W3) : W3 := ⟨(a.t % 4 + b.t % 4) % 4, a.x + (rot (a.t % 4) b.x b.y).1, a.y + (rot (a.t % 4) b.x b.y).2⟩
def fadd (a b : Nat) : Nat := (Ieee.double.add a b).getD 0
def JB (a b : WB) : WB := ⟨(a.t % 4 + b.t % 4) % 4, fadd a.p (trd (a.t % 4) b.p b.q).1, fadd a.q (trd (a.t % 4) b.p b.q).2⟩

theorem fadd_of {a b : Nat} {m n : Int} (ha : Rep a m) (hb : Rep b n) (h : (m + n).natAbs < 9007199254740992) : Ieee.double.add a b = some (fadd a b) ∧ Rep (fadd a b) (m + n) := by
  obtain ⟨r, hr, g⟩ := rep_add ha hb h
  unfold fadd
  rw [hr]
  exact ⟨rfl, g⟩

set_option maxRecDepth 100000 in
theorem Join_calls (t u : Int) (a b c d r s : Nat) (hr : Ieee.double.add a (trd (t % 4) c d).1 = some r) (hs : Ieee.double.add b (trd (t % 4) c d).2 = some s) (w : World) :
    Calls Try.prog 24 #[.agg #[.int .i64 t, .complex .f64 a b], .agg #[.int .i64 u, .complex .f64 c d]] w fun e w' =>
      e = .returned (.agg #[.int .i64 ((t % 4 + u % 4) % 4), .complex .f64 r s]) ∧ Below w.heap.size w w' := by
  have hadd : ∀ w, (binOp .add 27 (.complex .f64 a b) (.complex .f64 (trd (t % 4) c d).1 (trd (t % 4) c d).2)).run Try.prog w = .ok (.complex .f64 r s) w := fun w =>
    run_complex_sum w .add (.inl rfl) _ .f64 a b _ _ r s (by unfold cSumBits; rw [show floatBits .add .f64 a (trd (t % 4) c d).1 = some r from hr, show floatBits .add .f64 b (trd (t % 4) c d).2 = some s from hs]; rfl)
  clear hr hs
  have q1 : 0 ≤ t % 4 := by omega
  have q2 : t % 4 < 4 := by omega
  have q3 : 0 ≤ u % 4 := by omega
  have q4 : u % 4 < 4 := by omega
  go_enter Try.func24, Try.ntmps24
  go_wp2_with fail
  refine region_tail 17 (by kernel_rfl) (by kernel_rfl) ?_
  simp only [List.take_succ_cons, List.take_zero, List.drop_succ_cons, List.drop_zero]
  repeat (first | still_step | still_call (flip (quarter_calls _ _)) | still_call (flip (turned_calls _ _ _ _)))
  refine wpStill_nil ?_
  go_wp2
  exact bodyPost_ret (v := .agg #[.int .i64 ((t % 4 + u % 4) % 4), .complex .f64 r s]) (by simp [results, Try.results24, go_sem]) rfl ⟨rfl, ((((Below.refl _ _).alloc (Nat.le_refl _) _).alloc (by simp) _).alloc (by simp; omega) _).drew⟩

theorem JB_is {a b : WB} {m n : W3} (ha : IsB a m) (hb : IsB b n) (hx : (J m n).x.natAbs < 9007199254740992) (hy : (J m n).y.natAbs < 9007199254740992) : IsB (JB a b) (J m n) := by
  obtain ⟨ht, hp, hq⟩ := ha
  obtain ⟨ht', hp', hq'⟩ := hb
  obtain ⟨k1, k2⟩ := rep_trd (k := m.t % 4) hp' hq'
  unfold IsB JB
  rw [ht, ht']
  exact ⟨rfl, (fadd_of hp k1 hx).2, (fadd_of hq k2 hy).2⟩

theorem Join_b {a b : WB} {m n : W3} (ha : IsB a m) (hb : IsB b n) (hx : (J m n).x.natAbs < 9007199254740992) (hy : (J m n).y.natAbs < 9007199254740992) (w : World) :
    Calls Try.prog 24 #[a.val, b.val] w fun e w' => e = .returned (JB a b).val ∧ Below w.heap.size w w' := by
  obtain ⟨ht, hp, hq⟩ := ha
  obtain ⟨ht', hp', hq'⟩ := hb
  obtain ⟨k1, k2⟩ := rep_trd (k := m.t % 4) hp' hq'
  rw [← ht] at k1 k2
  have gx : (m.x + (rot (a.t % 4) n.x n.y).1).natAbs < 9007199254740992 := by rw [ht]; exact hx
  have gy : (m.y + (rot (a.t % 4) n.x n.y).2).natAbs < 9007199254740992 := by rw [ht]; exact hy
  exact Join_calls _ _ _ _ _ _ _ _ (fadd_of hp k1 gx).1 (fadd_of hq k2 gy).1 w

def byteW (c : Int) : W3 := ⟨c % 4, c / 4 + 1, c % 16⟩
def byteB (c : Int) : WB := ⟨c % 4, floatOfInt .f64 (c / 4 + 1), floatOfInt .f64 (c % 16)⟩

theorem byteB_is (c : Int) (h0 : 0 ≤ c) (h1 : c < 256) : IsB (byteB c) (byteW c) := ⟨rfl, rep_int (by omega), rep_int (by omega)⟩

theorem Byte_calls (c : Int) (h0 : 0 ≤ c) (h1 : c < 256) (w : World) :
    Calls Try.prog 22 #[.int .u8 c] w fun e w' => e = .returned (byteB c).val ∧ Below w.heap.size w w' := by
  go_enter Try.func22, Try.ntmps22
  go_wp2
  refine bodyPost_ret (v := .agg #[.int .i64 (c % 4), .complex .f64 (floatOfInt .f64 (c / 4 + 1)) (floatOfInt .f64 (c % 16))]) (by simp [results, Try.results22, go_sem, *]) rfl ⟨rfl, by repeat (first | exact Below.refl _ _ | apply Below.drew | assumption | (refine Below.alloc ?_ (by first | omega | (simp; done) | (simp <;> omega)) _) | (refine Below.setCell ?_ (by first | omega | (simp; done) | (simp <;> omega)) _))⟩

/-- The walk over bytes, from a on. -/
def wk (a : W3) (l : List UInt8) : W3 := l.foldl (fun a c => J a (byteW c.toNat)) a
def wkB (a : WB) (l : List UInt8) : WB := l.foldl (fun a c => JB a (byteB c.toNat)) a

theorem wk_snoc (a : W3) (l : List UInt8) (c : UInt8) : wk a (l ++ [c]) = J (wk a l) (byteW c.toNat) := by simp [wk]
theorem wkB_snoc (a : WB) (l : List UInt8) (c : UInt8) : wkB a (l ++ [c]) = JB (wkB a l) (byteB c.toNat) := by simp [wkB]

theorem u8_lt (c : UInt8) : c.toNat < 256 := c.toBitVec.isLt

theorem J_byte_le (a : W3) (c : UInt8) : (J a (byteW c.toNat)).x.natAbs ≤ a.x.natAbs + 64 ∧ (J a (byteW c.toNat)).y.natAbs ≤ a.y.natAbs + 64 := by
  have hc := u8_lt c
  obtain ⟨h1, h2⟩ := rot_le (a.t % 4) (byteW c.toNat).x (byteW c.toNat).y
  have h3 : (byteW c.toNat).x.natAbs ≤ 64 := by simp only [byteW]; omega
  have h4 : (byteW c.toNat).y.natAbs ≤ 64 := by simp only [byteW]; omega
  simp only [J]
  omega

theorem wk_le (a : W3) (l : List UInt8) : (wk a l).x.natAbs ≤ a.x.natAbs + 64 * l.length ∧ (wk a l).y.natAbs ≤ a.y.natAbs + 64 * l.length := by
  induction l generalizing a with
  | nil => simp [wk]
  | cons c l ih =>
    have h1 := ih (J a (byteW c.toNat))
    have h2 := J_byte_le a c
    have e : wk a (c :: l) = wk (J a (byteW c.toNat)) l := rfl
    rw [e]
    simp only [List.length_cons]
    omega

theorem wkB_is {a : WB} {m : W3} (h : IsB a m) (l : List UInt8) (hx : m.x.natAbs + 64 * l.length < 9007199254740992) (hy : m.y.natAbs + 64 * l.length < 9007199254740992) : IsB (wkB a l) (wk m l) := by
  induction l generalizing a m with
  | nil => exact h
  | cons c l ih =>
    have hc := u8_lt c
    have h2 := J_byte_le m c
    simp only [List.length_cons] at hx hy
    have e1 : wkB a (c :: l) = wkB (JB a (byteB c.toNat)) l := rfl
    have e2 : wk m (c :: l) = wk (J m (byteW c.toNat)) l := rfl
    rw [e1, e2]
    exact ih (JB_is h (byteB_is c.toNat (by omega) (by omega)) (by omega) (by omega)) (by omega) (by omega)

/-- Block bx holds that walk. -/
def WAt (w : World) (bx : Nat) (a : WB) : Prop := w.heap[bx]? = some (.cells #[.int .i64 a.t, .complex .f64 a.p a.q] 159 (0, 0))

theorem take_snoc (l : List UInt8) (k : Nat) (h : k < l.length) : l.take (k + 1) = l.take k ++ [l.getD k 0] := by
  rw [List.take_succ_eq_append_getElem h]
  simp [List.getD, h]

set_option maxRecDepth 100000 in
theorem Write_calls (bx b o n cap : Nat) (l : List UInt8) (hn : l.length = n) (a0 : WB) (m0 : W3) (w : World) (hbx : WAt w bx a0) (h0 : IsB a0 m0)
    (hc : ∀ i, i < l.length → w.cell? ⟨b, o + i, none⟩ = some (.int .u8 (l.getD i 0).toNat)) (hne : b ≠ bx)
    (hl : l.length ≤ 1000000) (hx : m0.x.natAbs ≤ 1000000000) (hy : m0.y.natAbs ≤ 1000000000) :
    Calls Try.prog 63 #[.pointer (some ⟨bx, 0, none⟩), .slice (some ⟨b, o, none⟩) n cap] w fun e w' =>
      e = .returned (.tuple #[]) ∧ Upd (· = bx) w w' ∧ WAt w' bx (wkB a0 l) := by
  subst hn
  have HC := Lib.hid hc
  clear hc
  go_enter Try.func63, Try.ntmps63
  go_wp2_with fail
  go_loopg [8] l.length (fun g i wr => ∃ k : Nat, k ≤ l.length ∧ g = l.length - k ∧ i = .int .i64 k ∧ Upd (· = bx) w wr ∧ WAt wr bx (wkB a0 (l.take k)))
  case atStart => exact ⟨0, Nat.zero_le _, by omega, rfl, Upd.refl _ _, hbx⟩
  case round =>
    obtain ⟨k, hk, hg, rfl, hu, hh⟩ := hrel
    have HG := Lib.hid hg
    clear hg
    by_cases hlt : k < l.length
    · have hcell : wr.cell? ⟨b, o + k, none⟩ = some (.int .u8 (l.getD k 0).toNat) := by
        have h1 := HC.out k hlt
        rw [hu.cell (lt_of_cell h1) hne]; exact h1
      obtain ⟨c, hcc⟩ : ∃ c, c = l.getD k 0 := ⟨_, rfl⟩
      rw [← hcc] at hcell
      have hc256 := u8_lt c
      have hbnd := wk_le m0 (l.take k)
      have hbnd2 := J_byte_le (wk m0 (l.take k)) c
      have hlen : (l.take k).length ≤ k := List.length_take_le _ _
      have hJ := Join_b (wkB_is h0 (l.take k) (by omega) (by omega)) (byteB_is c.toNat (by omega) (by omega)) (by omega) (by omega)
      have hws : wkB a0 (l.take (k + 1)) = JB (wkB a0 (l.take k)) (byteB c.toNat) := by rw [take_snoc l k hlt, wkB_snoc, hcc]
      rw [← hws] at hJ
      clear hws hbnd hbnd2 hlen hcc hbx
      have c0 := cell_at hh 0
      have c1 := cell_at hh 1
      have f0 := free_at hh 0
      have f1 := free_at hh 1
      have hbl := lt_of_heap hh
      simp only [List.getElem?_toArray, List.getElem?_cons_zero, List.getElem?_cons_succ] at c0 c1
      have HH := Lib.hid hh
      obtain ⟨a2, ha2⟩ : ∃ a2, a2 = wkB a0 (l.take k) := ⟨_, rfl⟩
      obtain ⟨a1, ha1⟩ : ∃ a1, a1 = wkB a0 (l.take (k + 1)) := ⟨_, rfl⟩
      rw [← ha2] at hJ c0 c1
      rw [← ha1] at hJ
      have HJ := Lib.hid hJ
      have A1 := Lib.hid ha1
      have A2 := Lib.hid ha2
      clear hJ ha1 ha2 hh
      unfold WB.val at HJ
      go_wp2_with fail
      refine region_later 10 (by kernel_rfl) (by kernel_rfl) ?_
      simp only [List.take_succ_cons, List.take_zero, List.drop_succ_cons, List.drop_zero]
      repeat (quiet_step ((first | exact later_call (Byte_calls _ (by omega) (by omega) _) | exact later_call (HJ.out _))))
      refine wpQuiet_nil ?_
      intro x
      go_wp2
      go_roundg (gk - 1)
      case measure => have := HG.out; omega
      case rel =>
        have hxb := HH.out
        unfold WAt at hxb
        rw [← x.heap hbl] at hxb
        refine ⟨k + 1, by omega, by have := HG.out; omega, by go_num, ?_, ?_⟩
        · exact ((hu.later x.h).setCell (fun _ => rfl) _).setCell (fun _ => rfl) _
        · rw [← A1.out]; exact heap_set (heap_set hxb 0 _) 1 _
    · go_wp2
      go_end0
      have : k = l.length := by omega
      subst this
      rw [List.take_length] at hh
      exact ⟨rfl, hu, hh⟩

def W0 : W3 := ⟨0, 0, 0⟩
def B0 : WB := ⟨0, 0, 0⟩
theorem B0_is : IsB B0 W0 := ⟨rfl, rep_zero, rep_zero⟩

theorem Walk_calls (bx : Nat) (a : WB) (w : World) (h : WAt w bx a) :
    Calls Try.prog 64 #[.pointer (some ⟨bx, 0, none⟩)] w fun e w' => e = .returned a.val ∧ Below w.heap.size w w' := by
  have c0 := cell_at h 0
  have c1 := cell_at h 1
  have hbl := lt_of_heap h
  simp only [List.getElem?_toArray, List.getElem?_cons_zero, List.getElem?_cons_succ] at c0 c1
  clear h
  go_enter Try.func64, Try.ntmps64
  go_wp2
  refine bodyPost_ret (v := .agg #[.int .i64 a.t, .complex .f64 a.p a.q]) (by simp [results, Try.results64, go_sem, *]) rfl ⟨rfl, by repeat (first | exact Below.refl _ _ | apply Below.drew | assumption | (refine Below.alloc ?_ (by first | omega | (simp; done) | (simp <;> omega)) _) | (refine Below.setCell ?_ (by first | omega | (simp; done) | (simp <;> omega)) _))⟩

theorem New_calls (w : World) :
    Calls Try.prog 62 #[] w fun e w' => e = .returned (.pointer (some ⟨w.heap.size, 0, none⟩)) ∧ w.alloc (.cells #[.int .i64 0, .complex .f64 0 0] 159) = w' := by
  go_enter Try.func62, Try.ntmps62
  go_wp2
  go_ret
  exact ⟨rfl, rfl⟩

set_option maxRecDepth 100000 in
theorem Of_calls (s : ByteArray) (hs : s.size ≤ 1000000) (w : World) :
    Calls Try.prog 21 #[.string s] w fun e w' => e = .returned (wkB B0 s.data.toList).val ∧ Below w.heap.size w w' := by
  have hsl : s.data.toList.length = s.size := by simp
  have kc := fun (w : World) => Lib.run_convert_string_bytes (P := Try.prog) w 9 32 5 s Try.underlying9 Try.underlying32 Try.underlying5
  go_enter Try.func21, Try.ntmps21
  go_wp2_with (go_at_call 62; refine (New_calls _).mono ?_; rintro e w' ⟨rfl, rfl⟩)
  refine (Write_calls _ _ _ _ _ s.data.toList hsl B0 W0 _ ?_ B0_is (fun i hi => ?_) (by simp) (by omega) (by decide) (by decide)).mono ?_
  · unfold WAt
    rw [bw_old (by simp), alloc_new (by simp)]
    rfl
  · simp only [Nat.zero_add]
    exact bw_cell (by simp) (by omega)
  rintro e w1 ⟨rfl, hu, hw⟩
  have hb1 : w1.heap[w.heap.size]? = some (.cells #[.int .i64 0, .complex .f64 0 0] 29 (0, 0)) := by
    rw [hu.block _ (by rw [Lib.bytesWorld_size]; simp; omega) (by omega), bw_old (by simp; omega), alloc_old (by simp), alloc_new rfl]
  have B1 : Below w.heap.size w w1 := (((Below.refl _ _).alloc (Nat.le_refl _) _).alloc (by simp) _).trans (((bytes_below _ _ _).mono (by simp; omega)).trans (hu.below (by rw [Lib.bytesWorld_size]; simp; omega) (by omega)))
  have c0 := cell_at hb1 0
  have c1 := cell_at hb1 1
  have f0 := free_at hb1 0
  have f1 := free_at hb1 1
  have hz := lt_of_heap hb1
  simp only [List.getElem?_toArray, List.getElem?_cons_zero, List.getElem?_cons_succ] at c0 c1
  clear hb1 hu kc
  have HW := Lib.hid hw
  clear hw
  go_wp2_with fail
  refine (Walk_calls _ _ _ HW.out).mono ?_
  rintro e w2 ⟨rfl, hb2⟩
  obtain ⟨hc2, hf2⟩ := bcell hb2
  have hz2 := hb2.size
  go_wp2
  refine bodyPost_ret (v := .agg #[.int .i64 (wkB B0 s.data.toList).t, .complex .f64 (wkB B0 s.data.toList).p (wkB B0 s.data.toList).q]) (by simp [results, Try.results21, go_sem, *]) rfl ⟨rfl, ?_⟩
  exact ((B1.trans (hb2.mono (by omega))).setCell (Nat.le_refl _) _).setCell (Nat.le_refl _) _
end Go.Proofs.Ytgddlcbaieclcaa.WalkFns
