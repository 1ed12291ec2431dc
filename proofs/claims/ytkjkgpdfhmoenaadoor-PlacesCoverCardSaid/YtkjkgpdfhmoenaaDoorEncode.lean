/-
  encode: wrong, Encode, Over.
-/
import Derived.Test.YtkjkgpdfhmoenaaDoorBpeJoin
import Derived.Test.YtkjkgpdfhmoenaaDoorEncLaw
import Derived.Test.YtkjkgpdfhmoenaaDoorCollect
namespace Go.Proofs.YtkjkgpdfhmoenaaDoor.EncGo
open Go Go.RowKit Go.Proofs.YtkjkgpdfhmoenaaDoor.Kit Go.Proofs.YtkjkgpdfhmoenaaDoor.Range Go.Proofs.YtkjkgpdfhmoenaaDoor.Round Go.Proofs.YtkjkgpdfhmoenaaDoor.Seg Go.Proofs.YtkjkgpdfhmoenaaDoor.Collect Go.Proofs.YtkjkgpdfhmoenaaDoor.It Go.Proofs.YtkjkgpdfhmoenaaDoor.ItGo Go.Proofs.YtkjkgpdfhmoenaaDoor.Dt Go.Proofs.YtkjkgpdfhmoenaaDoor.Mo Go.Proofs.YtkjkgpdfhmoenaaDoor.MoNew Go.Proofs.YtkjkgpdfhmoenaaDoor.Cu Go.Proofs.YtkjkgpdfhmoenaaDoor.CutAll Go.Proofs.YtkjkgpdfhmoenaaDoor.CutTokens Go.Proofs.YtkjkgpdfhmoenaaDoor.EncLaw Go.Proofs.YtkjkgpdfhmoenaaDoor.EncCount Go.Proofs.YtkjkgpdfhmoenaaDoor.BpeGo Go.Proofs.YtkjkgpdfhmoenaaDoor.Chain
attribute [local irreducible] wpQuiet wpStill
attribute [local go_sem] Oper.semAt_some
set_option linter.unusedSimpArgs false

/-! ### wrong -/
set_option maxRecDepth 100000 in
theorem wrong_ok (mb : Nat) (most bytes : Int) (w : World) (h1 : 1 ≤ most) (h2 : most ≤ 65536) (h3 : bytes ≤ 1048576) :
    Calls Tryd.prog 52 #[.pointer (some ⟨mb, 0, none⟩), .int .i64 most, .int .i64 bytes] w fun e w' => e = .returned (.int .i64 0) ∧ w = w' := by
  have a1 : ¬ most < 1 := by omega
  have a2 : ¬ 65536 < most := by omega
  have a3 : ¬ 1048576 < bytes := by omega
  go_enter Tryd.func52, Tryd.ntmps52
  go_wp2_with fail
  go_ret
  exact ⟨rfl, rfl⟩
set_option maxRecDepth 100000 in
theorem wrong_long (mb : Nat) (most bytes : Int) (w : World) (h1 : 1 ≤ most) (h2 : most ≤ 65536) (h3 : 1048576 < bytes) :
    Calls Tryd.prog 52 #[.pointer (some ⟨mb, 0, none⟩), .int .i64 most, .int .i64 bytes] w fun e w' => e = .returned (.int .i64 3) ∧ w = w' := by
  have a1 : ¬ most < 1 := by omega
  have a2 : ¬ 65536 < most := by omega
  go_enter Tryd.func52, Tryd.ntmps52
  go_wp2_with fail
  go_ret
  exact ⟨rfl, rfl⟩
set_option maxRecDepth 100000 in
theorem wrong_most (mb : Nat) (most bytes : Int) (w : World) (h : most < 1 ∨ 65536 < most) :
    Calls Tryd.prog 52 #[.pointer (some ⟨mb, 0, none⟩), .int .i64 most, .int .i64 bytes] w fun e w' => e = .returned (.int .i64 1) ∧ w = w' := by
  by_cases a1 : most < 1
  · go_enter Tryd.func52, Tryd.ntmps52
    go_wp2_with fail
    go_ret
    exact ⟨rfl, rfl⟩
  · have a2 : 65536 < most := by omega
    go_enter Tryd.func52, Tryd.ntmps52
    go_wp2_with fail
    go_ret
    exact ⟨rfl, rfl⟩
set_option maxRecDepth 100000 in
theorem wrong_nil (most bytes : Int) (w : World) :
    Calls Tryd.prog 52 #[.pointer none, .int .i64 most, .int .i64 bytes] w fun e w' => e = .returned (.int .i64 1) ∧ w = w' := by
  go_enter Tryd.func52, Tryd.ntmps52
  go_wp2_with fail
  go_ret
  exact ⟨rfl, rfl⟩

/-! ### Encode -/
theorem enc_stop (D : Dt) (most : Nat) (T : List UInt8) : ∀ (S : List Tk) (k : Nat), k < S.length → (∀ t ∈ S.take k, ¬ most < t.b - t.a) → most < (S.getD k default).b - (S.getD k default).a → enc D most T S = (ids D T (S.take k), some (S.getD k default))
  | [], k, hk, _, _ => by simp at hk
  | t :: S, 0, _, _, h => by
    have h : most < t.b - t.a := h
    unfold enc
    rw [if_pos h]
    rfl
  | t :: S, k + 1, hk, hs, h => by
    have ih := enc_stop D most T S k (by simpa using hk) (fun u hu => hs u (by simp [hu])) (by simpa using h)
    unfold enc
    rw [if_neg (hs t (by simp)), ih]
    simp [ids]
theorem ids_take {D : Dt} {T : List UInt8} {S : List Tk} {k : Nat} (h : k < S.length) : ids D T (S.take (k + 1)) = ids D T (S.take k) ++ mrg D (piece T (S.getD k default)) := by
  unfold ids
  rw [List.take_add_one, List.getElem?_eq_getElem h, List.flatMap_append, List.getD_eq_getElem?_getD, List.getElem?_eq_getElem h]
  simp
theorem ids_le {D : Dt} (hg : Good.Good D) {T : List UInt8} {S : List Tk} (hL : Link 0 S T.length) (k : Nat) : (ids D T (S.take k)).length ≤ T.length := by
  have h := (ids_len hg hL).2
  have h2 : ids D T S = ids D T (S.take k) ++ ids D T (S.drop k) := by
    unfold ids
    rw [← List.flatMap_append, List.take_append_drop]
  rw [h2, List.length_append] at h
  omega

/-- An append of numbers to a list in a cell. -/
theorem col_more {A w0 : World} {bl : Nat} {v xv : Value} {xs news : List Int} (h : Col 33 3 1 xs.length (vals xs) bl w0 v A) {base : Nat} (hx : NRow A base xv news) (hlb : bl < w0.heap.size) (hlen : xs.length + news.length ≤ 10000000) (ty : TypeId) :
    ∃ v' A', (Builtin.append_ #[33, 33] ty #[v, xv]).run Tryd.prog A = .ok v' A' ∧ A'.heap[bl]? = some (.cells #[v] 33 (0, 0)) ∧ Col 33 3 1 (xs ++ news).length (vals (xs ++ news)) bl w0 v' (A'.setCell ⟨bl, 0, none⟩ v') ∧
      Upd (fun b => b = bl ∨ v.ownBlock = some b) A (A'.setCell ⟨bl, 0, none⟩ v') ∧ (∀ b, v'.ownBlock = some b → v.ownBlock = some b ∨ A.heap.size ≤ b) ∧ A.heap.size ≤ A'.heap.size := by
  obtain ⟨i, hi, hz0, hz1, hz2⟩ := elemI.parts
  obtain ⟨v', A', hr, ha, _⟩ := run_append_seg (P := Tryd.prog) A w0.heap.size 33 ty 3 i _ 1 8 elemI.t hi hz0 hz1 hz2 elemI.z elemI.p v xs.length (vals xs) h.r xv news.length (vals news) (by rw [vals_len]; omega) (Seg.src hx) (by intro u hu; unfold vals at hu; obtain ⟨z, _, rfl⟩ := List.mem_map.1 hu; rfl) (by unfold maxLen; omega) (by omega) h.u.size
  have hown : ∀ b, v.ownBlock = some b → w0.heap.size ≤ b := fun b hb => (h.r.lt b hb).1
  have hown' : ∀ b, v'.ownBlock = some b → v.ownBlock = some b ∨ A.heap.size ≤ b := by
    intro b hb
    rcases ha.blk with h2 | h2
    · exact .inl (by rw [← h2]; exact hb)
    · exact .inr (h2 b hb)
  have hnb : ¬ v.ownBlock = some bl := fun hh => by have := hown _ hh; omega
  have hc' := Upd.mem ha.u h.c hnb
  have u2 : Upd (fun b => b = bl) A' (A'.setCell ⟨bl, 0, none⟩ v') := Upd.setCell (S := fun b => b = bl) (p := ⟨bl, 0, none⟩) (Upd.refl _ _) (fun _ => rfl) _
  have hu : Upd (fun b => b = bl ∨ v.ownBlock = some b) A (A'.setCell ⟨bl, 0, none⟩ v') := (ha.u.mono fun _ _ h => .inr h).trans (u2.mono fun _ _ h => .inl h)
  refine ⟨v', A', hr, hc', ⟨grow h.u hu (fun b hb hx => ?_), ?_, ?_⟩, hu, hown', ha.u.size⟩
  · rcases hx with hx | hx
    · exact hx
    · have := hown _ hx; omega
  · rw [heap_set hc' 0 v']
    rfl
  · have := ha.seg.upd u2 (fun b hb he => by
      subst he
      rcases hown' _ hb with h3 | h3
      · exact hnb h3
      · have := h.u.size; omega)
    rw [vals_app, List.length_append]
    exact this

def stOf (o : Option Tk) : Int := match o with | none => 1 | some _ => 2
def Encoded (w : World) (x : List Int × Option Tk) (e : Ending) (w' : World) : Prop := ∃ v, e = .returned (.tuple #[v, .int .i64 (stOf x.2), .int .i64 0]) ∧ NRow w' w.heap.size v x.1 ∧ Below w.heap.size w w'

/-- The results are told: where they lie. -/
structure Ends (w0 W : World) (b6 b7 b8 b10 : Nat) (S : Nat → Prop) (v : Value) (x : List Int × Option Tk) : Prop where
  s : ∀ b, S b ↔ (b = b10 ∨ b = b6 ∨ b = b7 ∨ b = b8) ∨ v.ownBlock = some b
  c6 : W.heap[b6]? = some (.cells #[v] 33 (0, 0))
  c7 : W.heap[b7]? = some (.cells #[.int .i64 (stOf x.2)] 34 (0, 0))
  c8 : W.heap[b8]? = some (.cells #[.int .i64 0] 35 (0, 0))
  r : NRow W w0.heap.size v x.1
  u : Upd (fun b => b = b10 ∨ b = b6 ∨ b = b7 ∨ b = b8) w0 W
theorem Ends.upd {w0 A B : World} {b6 b7 b8 b10 : Nat} {S X : Nat → Prop} {v : Value} {x : List Int × Option Tk} (h : Ends w0 A b6 b7 b8 b10 S v x) (hu : Upd X A B) (h1 : ∀ b, S b → ¬ X b) (h2 : ∀ b, b < w0.heap.size → ¬ X b) : Ends w0 B b6 b7 b8 b10 S v x :=
  ⟨h.s, (hu.block _ (lt_of_heap h.c6) (h1 _ ((h.s _).2 (by simp)))).trans h.c6, (hu.block _ (lt_of_heap h.c7) (h1 _ ((h.s _).2 (by simp)))).trans h.c7, (hu.block _ (lt_of_heap h.c8) (h1 _ ((h.s _).2 (by simp)))).trans h.c8,
    Seg.upd h.r hu (fun b hb => h1 b ((h.s b).2 (.inr hb))), grow h.u hu (fun b hb hx => (h2 b hb hx).elim)⟩
theorem Ends.keep {w0 A B : World} {b6 b7 b8 b10 : Nat} {S : Nat → Prop} {v : Value} {x : List Int × Option Tk} (h : Ends w0 A b6 b7 b8 b10 S v x) (hu : Upd (fun b => w0.heap.size ≤ b ∧ ¬ S b) A B) : Ends w0 B b6 b7 b8 b10 S v x :=
  h.upd hu (fun b hb h => h.2 hb) (fun b hb h => by have := h.1; omega)

theorem Ends.make {w0 A : World} {b6 b7 b8 b10 : Nat} {v : Value} {xs : List Int} {x : List Int × Option Tk} (h : Col 33 3 1 xs.length (vals xs) b10 w0 v A) (h6 : A.heap[b6]? = some (.cells #[.slice none 0 0] 33 (0, 0))) (h7 : A.heap[b7]? = some (.cells #[.int .i64 0] 34 (0, 0))) (h8 : A.heap[b8]? = some (.cells #[.int .i64 0] 35 (0, 0)))
    (l6 : b6 < b7) (l7 : b7 < b8) (l8 : b8 < b10) (l9 : b10 < w0.heap.size) (hx : x.1 = xs) {B : World} (hB : ((A.setCell ⟨b6, 0, none⟩ v).setCell ⟨b7, 0, none⟩ (.int .i64 (stOf x.2))).setCell ⟨b8, 0, none⟩ (.int .i64 0) = B) :
    Ends w0 B b6 b7 b8 b10 (fun b => (b = b10 ∨ b = b6 ∨ b = b7 ∨ b = b8) ∨ v.ownBlock = some b) v x ∧ Upd (fun b => b = b6 ∨ b = b7 ∨ b = b8) A B := by
  have u6 : Upd (fun b => b = b6) A (A.setCell ⟨b6, 0, none⟩ v) := Upd.setCell (S := fun b => b = b6) (p := ⟨b6, 0, none⟩) (Upd.refl _ _) (fun _ => rfl) _
  obtain ⟨A6, hA6⟩ : ∃ z, A.setCell ⟨b6, 0, none⟩ v = z := ⟨_, rfl⟩
  have c6 : A6.heap[b6]? = some (.cells #[v] 33 (0, 0)) := by rw [← hA6, heap_set h6 0 v]; rfl
  rw [hA6] at hB u6
  have u7 : Upd (fun b => b = b7) A6 (A6.setCell ⟨b7, 0, none⟩ (.int .i64 (stOf x.2))) := Upd.setCell (S := fun b => b = b7) (p := ⟨b7, 0, none⟩) (Upd.refl _ _) (fun _ => rfl) _
  obtain ⟨A7, hA7⟩ : ∃ z, A6.setCell ⟨b7, 0, none⟩ (.int .i64 (stOf x.2)) = z := ⟨_, rfl⟩
  have c7 : A7.heap[b7]? = some (.cells #[.int .i64 (stOf x.2)] 34 (0, 0)) := by rw [← hA7, heap_set ((u6.block b7 (lt_of_heap h7) (by omega)).trans h7) 0 _]; rfl
  rw [hA7] at hB u7
  have u8 : Upd (fun b => b = b8) A7 B := by rw [← hB]; exact Upd.setCell (S := fun b => b = b8) (p := ⟨b8, 0, none⟩) (Upd.refl _ _) (fun _ => rfl) _
  have c8 : B.heap[b8]? = some (.cells #[.int .i64 0] 35 (0, 0)) := by rw [← hB, heap_set ((u7.block b8 (by have := u6.size; have := lt_of_heap h8; omega) (by omega)).trans ((u6.block b8 (lt_of_heap h8) (by omega)).trans h8)) 0 _]; rfl
  have u : Upd (fun b => b = b6 ∨ b = b7 ∨ b = b8) A B := ((u6.mono fun _ _ h => .inl h).trans (u7.mono fun _ _ h => .inr (.inl h))).trans (u8.mono fun _ _ h => .inr (.inr h))
  refine ⟨⟨fun b => Iff.rfl, ?_, ?_, c8, ?_, ?_⟩, u⟩
  · rw [u8.block b6 (by have := u7.size; have := lt_of_heap c6; omega) (by omega), u7.block b6 (lt_of_heap c6) (by omega)]
    exact c6
  · rw [u8.block b7 (lt_of_heap c7) (by omega)]
    exact c7
  · unfold NRow
    rw [hx]
    exact h.r.upd u (fun b hb hh => by have := (h.r.lt b hb).1; omega)
  · exact (h.u.mono fun _ _ h => .inl h).trans (u.mono fun _ _ h => .inr h)
theorem Ends.leave {w0 A B : World} {b6 b7 b8 b10 : Nat} {S : Nat → Prop} {v : Value} {x : List Int × Option Tk} (h : Ends w0 A b6 b7 b8 b10 S v x) (hD : A.heap[w0.heap.size]? = some (.deferred (some []))) (hu : Upd (fun b => b ∈ [w0.heap.size]) A B) (l6 : b6 < b7) (l7 : b7 < b8) (l8 : b8 < b10) (l9 : b10 < w0.heap.size) : Ends w0 B b6 b7 b8 b10 S v x := by
  refine h.upd hu (fun b hb hh => ?_) (fun b hb hh => by rw [List.mem_singleton] at hh; omega)
  rw [List.mem_singleton] at hh
  rcases (h.s b).1 hb with h1 | h1
  · omega
  · rcases Seg.at' h.r with ⟨h9, _⟩ | ⟨g, o, cap, cur, h9, _, hg, _⟩
    · rw [h9] at h1; cases h1
    · rw [h9] at h1
      simp only [Value.ownBlock, Option.some.injEq] at h1
      rw [h1, hh, hD] at hg
      cases hg
theorem extract_piece (s : ByteArray) (x : Tk) : (s.extract x.a x.b).data.toList = piece s.data.toList x := by
  unfold piece
  rw [ByteArray.data_extract, Array.toList_extract, List.extract_eq_take_drop]

set_option maxHeartbeats 4000000 in
set_option maxRecDepth 100000 in
theorem Encode_calls (D : Dt) (mb most : Nat) (s : ByteArray) (w : World) (h : Mod w mb D) (hT : Tabs w) (h1 : 1 ≤ most) (h2 : most ≤ 65536) (hl : s.size ≤ 1048576) :
    Calls Tryd.prog 20 #[.pointer (some ⟨mb, 0, none⟩), .int .i64 most, .string s] w (Encoded w (encode D most s.data.toList)) := by
  have HM := Lib.hid h
  have HT := Lib.hid hT
  have hsz := size_list s
  have hg := Good.of_mod h
  have HG := Lib.hid hg
  have hlink := toks_link D s.data.toList.length s.data.toList 0 (Nat.le_refl _)
  rw [Nat.zero_add] at hlink
  have HLK := Lib.hid hlink
  obtain ⟨S0, hS0⟩ : ∃ S, toks D 0 s.data.toList = S := ⟨_, rfl⟩
  have HS0 := Lib.hid hS0
  clear h hT hlink hS0 hg
  refine calls_of_wp_marks Tryd.func20 rfl ?_
  simp only [Tryd.ntmps20, List.size_toArray, List.length_cons, List.length_nil, Nat.reduceAdd, Nat.reduceSub, Array.replicate_succ, Array.replicate_zero, List.push_toArray, List.append_toArray, List.nil_append, List.cons_append]
  obtain ⟨W1, hW1⟩ : ∃ Xz, w.alloc (.cells #[.pointer (some ⟨mb, 0, none⟩)] 27) = Xz := ⟨_, rfl⟩
  obtain ⟨b3, hb3⟩ : ∃ xz, w.heap.size = xz := ⟨_, rfl⟩
  have hb1 : Below w.heap.size w W1 := by rw [← hW1]; exact (Below.refl _ _).alloc (Nat.le_refl _) _
  have HB3 := Lib.hid (by rw [← hW1, ← hb3]; exact alloc_new rfl : W1.heap[b3]? = some (.cells #[.pointer (some ⟨mb, 0, none⟩)] 27 (0, 0)))
  have EW1 := Lib.hid hW1
  have Eb3 := Lib.hid hb3
  clear hW1 hb3
  obtain ⟨W2, hW2⟩ : ∃ Xz, W1.alloc (.cells #[.int .i64 most] 3) = Xz := ⟨_, rfl⟩
  obtain ⟨b4, hb4⟩ : ∃ xz, W1.heap.size = xz := ⟨_, rfl⟩
  have hb2 : Below W1.heap.size W1 W2 := by rw [← hW2]; exact (Below.refl _ _).alloc (Nat.le_refl _) _
  have HB4 := Lib.hid (by rw [← hW2, ← hb4]; exact alloc_new rfl : W2.heap[b4]? = some (.cells #[.int .i64 most] 3 (0, 0)))
  have EW2 := Lib.hid hW2
  have Eb4 := Lib.hid hb4
  clear hW2 hb4
  have n4 := Lib.hid (show b3 + 1 = b4 from by rw [← Eb4.out, ← EW1.out, ← Eb3.out]; simp)
  have l3 : b3 < b4 := by have := lt_of_heap HB3.out; have := Eb4.out; omega
  have HB3 := Lib.hid ((hb2.block _ (lt_of_heap HB3.out)).trans HB3.out)
  obtain ⟨W3, hW3⟩ : ∃ Xz, W2.alloc (.cells #[.string s] 9) = Xz := ⟨_, rfl⟩
  obtain ⟨b5, hb5⟩ : ∃ xz, W2.heap.size = xz := ⟨_, rfl⟩
  have hb3 : Below W2.heap.size W2 W3 := by rw [← hW3]; exact (Below.refl _ _).alloc (Nat.le_refl _) _
  have HB5 := Lib.hid (by rw [← hW3, ← hb5]; exact alloc_new rfl : W3.heap[b5]? = some (.cells #[.string s] 9 (0, 0)))
  have EW3 := Lib.hid hW3
  have Eb5 := Lib.hid hb5
  clear hW3 hb5
  have n5 := Lib.hid (show b4 + 1 = b5 from by rw [← Eb5.out, ← EW2.out, ← Eb4.out]; simp)
  have l4 : b4 < b5 := by have := lt_of_heap HB4.out; have := Eb5.out; omega
  have HB3 := Lib.hid ((hb3.block _ (lt_of_heap HB3.out)).trans HB3.out)
  have HB4 := Lib.hid ((hb3.block _ (lt_of_heap HB4.out)).trans HB4.out)
  obtain ⟨W4, hW4⟩ : ∃ Xz, W3.alloc (.cells #[.slice none 0 0] 33) = Xz := ⟨_, rfl⟩
  obtain ⟨b6, hb6⟩ : ∃ xz, W3.heap.size = xz := ⟨_, rfl⟩
  have hb4 : Below W3.heap.size W3 W4 := by rw [← hW4]; exact (Below.refl _ _).alloc (Nat.le_refl _) _
  have HB6 := Lib.hid (by rw [← hW4, ← hb6]; exact alloc_new rfl : W4.heap[b6]? = some (.cells #[.slice none 0 0] 33 (0, 0)))
  have EW4 := Lib.hid hW4
  have Eb6 := Lib.hid hb6
  clear hW4 hb6
  have n6 := Lib.hid (show b5 + 1 = b6 from by rw [← Eb6.out, ← EW3.out, ← Eb5.out]; simp)
  have l5 : b5 < b6 := by have := lt_of_heap HB5.out; have := Eb6.out; omega
  have HB3 := Lib.hid ((hb4.block _ (lt_of_heap HB3.out)).trans HB3.out)
  have HB4 := Lib.hid ((hb4.block _ (lt_of_heap HB4.out)).trans HB4.out)
  have HB5 := Lib.hid ((hb4.block _ (lt_of_heap HB5.out)).trans HB5.out)
  obtain ⟨W5, hW5⟩ : ∃ Xz, W4.alloc (.cells #[.int .i64 0] 34) = Xz := ⟨_, rfl⟩
  obtain ⟨b7, hb7⟩ : ∃ xz, W4.heap.size = xz := ⟨_, rfl⟩
  have hb5 : Below W4.heap.size W4 W5 := by rw [← hW5]; exact (Below.refl _ _).alloc (Nat.le_refl _) _
  have HB7 := Lib.hid (by rw [← hW5, ← hb7]; exact alloc_new rfl : W5.heap[b7]? = some (.cells #[.int .i64 0] 34 (0, 0)))
  have EW5 := Lib.hid hW5
  have Eb7 := Lib.hid hb7
  clear hW5 hb7
  have n7 := Lib.hid (show b6 + 1 = b7 from by rw [← Eb7.out, ← EW4.out, ← Eb6.out]; simp)
  have l6 : b6 < b7 := by have := lt_of_heap HB6.out; have := Eb7.out; omega
  have HB3 := Lib.hid ((hb5.block _ (lt_of_heap HB3.out)).trans HB3.out)
  have HB4 := Lib.hid ((hb5.block _ (lt_of_heap HB4.out)).trans HB4.out)
  have HB5 := Lib.hid ((hb5.block _ (lt_of_heap HB5.out)).trans HB5.out)
  have HB6 := Lib.hid ((hb5.block _ (lt_of_heap HB6.out)).trans HB6.out)
  obtain ⟨W6, hW6⟩ : ∃ Xz, W5.alloc (.cells #[.int .i64 0] 35) = Xz := ⟨_, rfl⟩
  obtain ⟨b8, hb8⟩ : ∃ xz, W5.heap.size = xz := ⟨_, rfl⟩
  have hb6 : Below W5.heap.size W5 W6 := by rw [← hW6]; exact (Below.refl _ _).alloc (Nat.le_refl _) _
  have HB8 := Lib.hid (by rw [← hW6, ← hb8]; exact alloc_new rfl : W6.heap[b8]? = some (.cells #[.int .i64 0] 35 (0, 0)))
  have EW6 := Lib.hid hW6
  have Eb8 := Lib.hid hb8
  clear hW6 hb8
  have n8 := Lib.hid (show b7 + 1 = b8 from by rw [← Eb8.out, ← EW5.out, ← Eb7.out]; simp)
  have l7 : b7 < b8 := by have := lt_of_heap HB7.out; have := Eb8.out; omega
  have HB3 := Lib.hid ((hb6.block _ (lt_of_heap HB3.out)).trans HB3.out)
  have HB4 := Lib.hid ((hb6.block _ (lt_of_heap HB4.out)).trans HB4.out)
  have HB5 := Lib.hid ((hb6.block _ (lt_of_heap HB5.out)).trans HB5.out)
  have HB6 := Lib.hid ((hb6.block _ (lt_of_heap HB6.out)).trans HB6.out)
  have HB7 := Lib.hid ((hb6.block _ (lt_of_heap HB7.out)).trans HB7.out)
  have HW := Lib.hid (wrong_ok mb most s.size W6 (by omega) (by omega) (by omega))
  have H36 := HB3
  have H46 := HB4
  have H56 := HB5
  obtain ⟨W7, hW7⟩ : ∃ Xz, W6.alloc (.cells #[.slice none 0 0] 33) = Xz := ⟨_, rfl⟩
  obtain ⟨b10, hb10⟩ : ∃ xz, W6.heap.size = xz := ⟨_, rfl⟩
  have hb7 : Below W6.heap.size W6 W7 := by rw [← hW7]; exact (Below.refl _ _).alloc (Nat.le_refl _) _
  have HB10 := Lib.hid (by rw [← hW7, ← hb10]; exact alloc_new rfl : W7.heap[b10]? = some (.cells #[.slice none 0 0] 33 (0, 0)))
  have EW7 := Lib.hid hW7
  have Eb10 := Lib.hid hb10
  clear hW7 hb10
  have l8 : b8 < b10 := by have := lt_of_heap HB8.out; have := Eb10.out; omega
  have HB3 := Lib.hid ((hb7.block _ (lt_of_heap HB3.out)).trans HB3.out)
  have HB4 := Lib.hid ((hb7.block _ (lt_of_heap HB4.out)).trans HB4.out)
  have HB5 := Lib.hid ((hb7.block _ (lt_of_heap HB5.out)).trans HB5.out)
  have HB6 := Lib.hid ((hb7.block _ (lt_of_heap HB6.out)).trans HB6.out)
  have HB7 := Lib.hid ((hb7.block _ (lt_of_heap HB7.out)).trans HB7.out)
  have HB8 := Lib.hid ((hb7.block _ (lt_of_heap HB8.out)).trans HB8.out)
  have l0 : w.heap.size ≤ b3 := by have := Eb3.out; omega
  have HB := Lib.hid (chain (chain (chain (chain (chain (chain hb1 hb2) hb3) hb4) hb5) hb6) hb7 : Below w.heap.size w W7)
  clear hb1 hb2 hb3 hb4 hb5 hb6 hb7
  have c0 := cell_at H36.out 0
  have cz := lt_of_heap H36.out
  simp only [List.getElem?_toArray, List.getElem?_cons_zero] at c0
  have d0 := cell_at H46.out 0
  have dz := lt_of_heap H46.out
  simp only [List.getElem?_toArray, List.getElem?_cons_zero] at d0
  have e0 := cell_at H56.out 0
  have ez := lt_of_heap H56.out
  simp only [List.getElem?_toArray, List.getElem?_cons_zero] at e0
  go_upto_region 1 with fail
  rw [EW1.out, Eb3.out, n4.out, EW2.out, n5.out, EW3.out, n6.out, EW4.out, n7.out, EW5.out, n8.out, EW6.out]
  go_wp2_with fail
  refine HW.out.mono ?_
  rintro e W ⟨rfl, rfl⟩
  clear c0 cz d0 dz e0 ez HW
  have c0 := cell_at HB3.out 0
  have cz := lt_of_heap HB3.out
  simp only [List.getElem?_toArray, List.getElem?_cons_zero] at c0
  have e0 := cell_at HB5.out 0
  have ez := lt_of_heap HB5.out
  simp only [List.getElem?_toArray, List.getElem?_cons_zero] at e0
  go_upto_region 5 with fail
  rw [EW7.out, Eb10.out]
  go_wp2_with fail
  refine (All_new mb s W7).mono ?_
  rintro e W8 ⟨bm, bs, rfl, hbm, hbs, o2, o3, hb8⟩
  have HMB := Lib.hid hbm
  have HSB := Lib.hid hbs
  have l9 : b10 < bm := Nat.lt_of_lt_of_le (lt_of_heap HB10.out) o2
  have o5 : bs < W8.heap.size := lt_of_heap hbs
  have HB3 := Lib.hid ((hb8.block _ (lt_of_heap HB3.out)).trans HB3.out)
  have HB4 := Lib.hid ((hb8.block _ (lt_of_heap HB4.out)).trans HB4.out)
  have HB5 := Lib.hid ((hb8.block _ (lt_of_heap HB5.out)).trans HB5.out)
  have HB6 := Lib.hid ((hb8.block _ (lt_of_heap HB6.out)).trans HB6.out)
  have HB7 := Lib.hid ((hb8.block _ (lt_of_heap HB7.out)).trans HB7.out)
  have HB8 := Lib.hid ((hb8.block _ (lt_of_heap HB8.out)).trans HB8.out)
  have HB10 := Lib.hid ((hb8.block _ (lt_of_heap HB10.out)).trans HB10.out)
  have HB := Lib.hid (chain HB.out hb8)
  clear hbm hbs o2 hb8 c0 cz e0 ez
  go_wp2_with fail
  refine range_outer (w0 := W8) (N := (toks D 0 s.data.toList).length) (Cap := fun b => b < w.heap.size ∨ b = bm ∨ b = bs) (gf := 72) (lb := #[.pointer (some ⟨bm, 0, none⟩), .pointer (some ⟨bs, 0, none⟩)]) (encs := fun k => #[encT ((toks D 0 s.data.toList).getD k default)]) rfl (Go.Proofs.enters_of Tryd.func72 (by kernel_rfl) rfl)
    (all_iter D mb w W8 bm bs s HM.out HT.out HB.out HMB.out HSB.out hl) (Below.refl _ _) (fun _ => rfl) ?cap
    (fun k S W => ∃ v, (∀ b, S b ↔ (b = b10 ∨ b = b6 ∨ b = b7 ∨ b = b8) ∨ v.ownBlock = some b) ∧ Col 33 3 1 (ids D s.data.toList (S0.take k)).length (vals (ids D s.data.toList (S0.take k))) b10 W8 v W ∧ ∀ t ∈ S0.take k, ¬ most < t.b - t.a)
    (fun c k S W => c = .ret ∧ ∃ v x, Ends W8 W b6 b7 b8 b10 S v x ∧ encode D most s.data.toList = x)
    ?ki ?kx (fun b => b = b10 ∨ b = b6 ∨ b = b7 ∨ b = b8) ⟨.slice none 0 0, fun b => by simp [Value.ownBlock], ⟨Upd.refl _ _, HB10.out, Seg.nil _ _ _ _⟩, fun t ht => (by simp at ht)⟩ ?s0 ?round ?done ?stop
  case cap =>
    have := HB.out.size
    rintro b (h | rfl | rfl) <;> omega
  case ki =>
    rintro k S A B ⟨v, hS, hst, hm⟩ hu
    exact ⟨v, hS, hst.keep hu (fun h => h.2 ((hS _).2 (.inl (.inl rfl)))) (fun b hb h => h.2 ((hS _).2 (.inr hb))) (fun b hb h => by have := h.1; omega), hm⟩
  case kx =>
    rintro c k S A B ⟨rfl, v, x, he, hx⟩ hu
    exact ⟨rfl, v, x, he.keep hu, hx⟩
  case s0 =>
    have hlast := lt_of_heap HB10.out
    rintro b h
    refine ⟨by omega, ?_⟩
    rintro (h3 | rfl | rfl) <;> omega
  case round =>
    rintro l k S A hk ⟨v, hS, hst, hm⟩ j1 j2 j3 j4 j5 j6
    obtain ⟨x, hx⟩ : ∃ x, (toks D 0 s.data.toList).getD k default = x := ⟨_, rfl⟩
    have hxm : x ∈ toks D 0 s.data.toList := by rw [← hx, List.getD_eq_getElem?_getD, List.getElem?_eq_getElem hk]; exact List.getElem_mem hk
    obtain ⟨t1, t2, t3⟩ := EncCount.Link.mem HLK.out x hxm
    rw [hx]
    unfold encT
    obtain ⟨A1, hA1⟩ : ∃ Xz, A.alloc (.cells #[.int .i64 x.a, .int .i64 x.b, .int .i64 x.s] 50) = Xz := ⟨_, rfl⟩
    obtain ⟨bt, hbt⟩ : ∃ xz, A.heap.size = xz := ⟨_, rfl⟩
    have hbA : Below A.heap.size A A1 := by rw [← hA1]; exact (Below.refl _ _).alloc (Nat.le_refl _) _
    have HV := Lib.hid (by rw [← hA1, ← hbt]; exact alloc_new rfl : A1.heap[bt]? = some (.cells #[.int .i64 x.a, .int .i64 x.b, .int .i64 x.s] 50 (0, 0)))
    have EA1 := Lib.hid hA1
    have Ebt := Lib.hid hbt
    clear hA1 hbt
    have HX0 := Lib.hid hx
    have H6 := Lib.hid j6
    clear hx hst j5 j6 hS hxm
    gi_wp2
    rw [EA1.out, Ebt.out]
    rw [Ebt.out] at hbA
    refine ⟨hbA, fun A2 hu hz hI2 hr2 => ?_⟩
    obtain ⟨v2, hS2, hst2, hm2⟩ := hI2
    obtain ⟨av2, cv2, hv2, -⟩ := hst2.r.shape
    obtain ⟨n2, hn2⟩ : ∃ z, (ids D s.data.toList (S0.take k)).length = z := ⟨_, rfl⟩
    rw [hn2] at hv2
    subst hv2
    have HN2 := Lib.hid hn2
    have HST := Lib.hid hst2
    have HS2 := Lib.hid hS2
    have HMM := Lib.hid hm2
    have HVV := Lib.hid (Upd.mem hu HV.out (by have := Ebt.out; omega))
    have oA : A.heap.size = bt := Ebt.out
    have R3 := Lib.hid ((hst2.u.block _ (lt_of_heap HB3.out) (by omega)).trans HB3.out)
    have R4 := Lib.hid ((hst2.u.block _ (lt_of_heap HB4.out) (by omega)).trans HB4.out)
    have R5 := Lib.hid ((hst2.u.block _ (lt_of_heap HB5.out) (by omega)).trans HB5.out)
    have R6 := Lib.hid ((hst2.u.block _ (lt_of_heap HB6.out) (by omega)).trans HB6.out)
    have R7 := Lib.hid ((hst2.u.block _ (lt_of_heap HB7.out) (by omega)).trans HB7.out)
    have R8 := Lib.hid ((hst2.u.block _ (lt_of_heap HB8.out) (by omega)).trans HB8.out)
    have HC0 := Lib.hid hst2.c
    have HW2 := Lib.hid (HB.out.trans (hst2.u.below HB.out.size (fun b hb h => by omega)))
    have hw : IntKind.i64.wrap ((x.b : Int) - x.a) = (x.b : Int) - x.a := i64w _ (by omega) (by omega)
    clear hS2 hst2 hm2 hr2 hu hz hbA hm hn2
    by_cases hm : (most : Int) < (x.b : Int) - x.a
    · have hmd : decide ((most : Int) < (x.b : Int) - x.a) = true := by simp [hm]
      obtain ⟨A3, hA3⟩ : ∃ z, ((A2.setCell ⟨b6, 0, none⟩ (.slice av2 n2 cv2)).setCell ⟨b7, 0, none⟩ (.int .i64 (stOf (some x)))).setCell ⟨b8, 0, none⟩ (.int .i64 0) = z := ⟨_, rfl⟩
      have HEE := Lib.hid (Ends.make (x := (ids D s.data.toList (S0.take k), some x)) HST.out R6.out R7.out R8.out l6 l7 l8 (by omega) rfl hA3)
      have EA3 := Lib.hid hA3
      unfold stOf at EA3
      simp only at EA3
      clear hA3
      have v0 := cell_at HVV.out 0
      have v1 := cell_at HVV.out 1
      have vz := lt_of_heap HVV.out
      simp only [List.getElem?_toArray, List.getElem?_cons_zero, List.getElem?_cons_succ] at v0 v1
      have d0 := cell_at R4.out 0
      have dz := lt_of_heap R4.out
      simp only [List.getElem?_toArray, List.getElem?_cons_zero] at d0
      have c0 := cell_at HC0.out 0
      have cz := lt_of_heap HC0.out
      simp only [List.getElem?_toArray, List.getElem?_cons_zero] at c0
      have f0 := cell_at R6.out 0
      have ff := free_all R6.out
      have fz := lt_of_heap R6.out
      simp only [List.getElem?_toArray, List.getElem?_cons_zero] at f0
      have g0 := cell_at R7.out 0
      have gf := free_all R7.out
      have gz := lt_of_heap R7.out
      simp only [List.getElem?_toArray, List.getElem?_cons_zero] at g0
      have h0 := cell_at R8.out 0
      have hf := free_all R8.out
      have hz := lt_of_heap R8.out
      simp only [List.getElem?_toArray, List.getElem?_cons_zero] at h0
      gi_wp2_with fail
      rw [EA3.out]
      refine ⟨_, ⟨rfl, _, _, HEE.out.1, ?_⟩, HEE.out.2.mono (fun b _ hh => .inl ((HS2.out b).2 ?_)), fun b hb => ⟨.inl ((HS2.out b).2 hb), ?_⟩⟩
      · unfold encode
        rw [HS0.out, enc_stop D most s.data.toList S0 k (by rw [← HS0.out]; exact hk) HMM.out (by rw [← HS0.out, HX0.out]; omega), ← HS0.out, HX0.out]
      · left; rcases hh with h | h | h <;> simp [h]
      · have h7 := HEE.out.1
        have h8 := HEE.out.2.size
        have h9 := h7.u.size
        have h10 := lt_of_heap HB10.out
        rcases hb with hb | hb
        · omega
        · exact (Seg.lt h7.r b hb).2
    · have hmd : decide ((most : Int) < (x.b : Int) - x.a) = false := by simp [hm]
      have hsx := fun W : World => Go.run_slice_string (P := Tryd.prog) W 9 s .i64 .i64 (x.a : Int) (x.b : Int) Tryd.underlying9 (by omega) (by omega) (by omega)
      simp only [Int.toNat_natCast] at hsx
      have HMG := Lib.hid (Merge_calls D mb (s.extract x.a x.b) A2.drew (HM.out.below HW2.out.drew) (by simp; omega) (by simp; omega))
      have HNL := Lib.hid (show ¬ most < x.b - x.a from by omega)
      clear hm
      have v0 := cell_at HVV.out 0
      have v1 := cell_at HVV.out 1
      have vz := lt_of_heap HVV.out
      simp only [List.getElem?_toArray, List.getElem?_cons_zero, List.getElem?_cons_succ] at v0 v1
      have d0 := cell_at R4.out 0
      have dz := lt_of_heap R4.out
      simp only [List.getElem?_toArray, List.getElem?_cons_zero] at d0
      have p0 := cell_at R3.out 0
      have pz := lt_of_heap R3.out
      simp only [List.getElem?_toArray, List.getElem?_cons_zero] at p0
      have q0 := cell_at R5.out 0
      have qz := lt_of_heap R5.out
      simp only [List.getElem?_toArray, List.getElem?_cons_zero] at q0
      gi_upto_region 9 with fail
      refine Rgin.RGT_begin_in (fun w' => Below A2.heap.size A2 w') 15 [(0, 37), (1, 38), (2, 39), (5, 42), (3, 40), (6, 43), (4, 41), (7, 44), (8, 45)] (by rfl) (by decide +kernel) (by kernel_rfl) (by kernel_rfl) ((Below.refl _ _).drew) (fun R hR => ?_)
      repeat ((first | refine Rgs.RGT_take (by exact rfl) (by exact rfl) (by decide +kernel) (by exact rfl) (by intro w' hw'; have y0 := ((bcell hw').1 b3 0 pz).trans p0; have y1 := ((bcell hw').1 b5 0 qz).trans q0; have y2 := ((bcell hw').1 bt 0 vz).trans v0; have y3 := ((bcell hw').1 bt 1 vz).trans v1; have hsx := hsx w'; go_simp; try with_reducible rfl) ?_ | refine Rgs.RGT_skip (by exact rfl) (by exact rfl) (by decide +kernel) (by exact rfl) ?_); try simp only [Act.put, List.setIfInBounds_toArray, List.set_cons_zero, List.set_cons_succ])
      refine Rgs.RGT_one 9 [(10, 36), (11, 47), (12, 48), (13, 12), (14, 13)] (by exact rfl) (by decide +kernel) (by exact rfl) (fun K hK => ?_)
      (go_wp2_with fail; refine HMG.out.mono ?_; rintro e A3 ⟨vm, rfl, hr, hb3⟩)
      refine hK _ _ (chain (Below.refl _ _).drew hb3) ?_
      clear hK K
      try simp only [Act.put, List.setIfInBounds_toArray, List.set_cons_zero, List.set_cons_succ]
      repeat ((first | refine Rgs.RGT_take (by exact rfl) (by exact rfl) (by decide +kernel) (by exact rfl) (by intro w' hw'; have y0 := ((bcell hw').1 b3 0 pz).trans p0; have y1 := ((bcell hw').1 b5 0 qz).trans q0; have y2 := ((bcell hw').1 bt 0 vz).trans v0; have y3 := ((bcell hw').1 bt 1 vz).trans v1; have hsx := hsx w'; go_simp; try with_reducible rfl) ?_ | refine Rgs.RGT_skip (by exact rfl) (by exact rfl) (by decide +kernel) (by exact rfl) ?_); try simp only [Act.put, List.setIfInBounds_toArray, List.set_cons_zero, List.set_cons_succ])
      refine Rgs.RGT_done (by decide +kernel) (hR _ _ ?_)
      clear hR R
      rw [extract_piece] at hr
      have hb23 : Below A2.heap.size A2 A3 := chain ((Below.refl _ _).drew) hb3
      have hk0 : k < S0.length := by rw [← HS0.out]; exact hk
      have hit := ids_take (D := D) (T := s.data.toList) hk0
      rw [show S0.getD k default = x from by rw [← HS0.out]; exact HX0.out] at hit
      have hle := ids_le HG.out (HS0.out ▸ HLK.out) (D := D) (T := s.data.toList) (k + 1)
      have hlen : (ids D s.data.toList (S0.take k)).length + (mrg D (piece s.data.toList x)).length ≤ 10000000 := by
        rw [hit, List.length_append] at hle; omega
      obtain ⟨v3, A4, hrun, hcl, hcol, hu4, hown, hzz⟩ := col_more (HST.out.below hb23) hr (lt_of_heap HB10.out) hlen 33
      rw [← hit] at hcol
      obtain ⟨av3, cv3, hv3, -⟩ := hcol.r.shape
      obtain ⟨n3, hn3⟩ : ∃ z, (ids D s.data.toList (S0.take (k + 1))).length = z := ⟨_, rfl⟩
      rw [hn3] at hv3
      subst hv3
      have HN3 := Lib.hid hn3
      obtain ⟨am, cm, hvm, -⟩ := Seg.shape hr
      obtain ⟨nm, hnm⟩ : ∃ z, (mrg D (piece s.data.toList x)).length = z := ⟨_, rfl⟩
      rw [hnm] at hvm
      subst hvm
      have HCOL := Lib.hid hcol
      have HCL := Lib.hid hcl
      have HU4 := Lib.hid hu4
      have HOWN := Lib.hid hown
      have HC3 := Lib.hid ((hb23.block _ (lt_of_heap HC0.out)).trans HC0.out)
      have HB23 := Lib.hid hb23
      have HRUN := Lib.hid hrun
      have oZ := hb23.size
      have HML := Lib.hid (show ∀ t ∈ S0.take (k + 1), ¬ most < t.b - t.a from fun t ht => by
        rw [List.take_add_one, List.mem_append] at ht
        rcases ht with ht | ht
        · exact HMM.out t ht
        · rw [← HS0.out, List.getElem?_eq_getElem hk] at ht
          have h3 := HX0.out
          rw [List.getD_eq_getElem?_getD, List.getElem?_eq_getElem hk] at h3
          simp only [Option.toList_some, List.mem_singleton, Option.getD_some] at ht h3
          rw [ht, h3]
          exact HNL.out)
      clear hr hb3 hit hle hlen hrun hcl hcol hu4 hown hn3 hnm hb23 HMG hsx v0 v1 vz d0 dz p0 pz q0 qz
      have c0 := cell_at HC3.out 0
      have cz := lt_of_heap HC3.out
      simp only [List.getElem?_toArray, List.getElem?_cons_zero] at c0
      have q0 := cell_at HCL.out 0
      have qf := free_all HCL.out
      have qz := lt_of_heap HCL.out
      simp only [List.getElem?_toArray, List.getElem?_cons_zero] at q0
      gi_wp2_with (gi_at_builtin; refine append_run_in rfl rfl rfl rfl HRUN.out ?_)
      refine ⟨_, ⟨_, fun b => Iff.rfl, HCOL.out, HML.out⟩, ?_, fun b hb => ⟨?_, ?_⟩⟩
      · refine (Upd.of_below HB23.out : Upd (fun b => S b ∨ A.heap.size ≤ b) A2 A3).trans (HU4.out.mono fun b _ hh => .inl ((HS2.out b).2 ?_))
        rcases hh with h | h
        · exact .inl (.inl h)
        · exact .inr h
      · rcases hb with hb | hb
        · exact .inl ((HS2.out b).2 (.inl hb))
        · rcases HOWN.out b hb with h7 | h7
          · exact .inl ((HS2.out b).2 (.inr h7))
          · exact .inr (by have := lt_of_heap HVV.out; omega)
      · have h10 := lt_of_heap HB10.out
        have h9 := HCOL.out.u.size
        rcases hb with hb | hb
        · omega
        · exact (HCOL.out.r.lt b hb).2
  case done =>
    rintro S B ⟨v, hS, hst, hm⟩ hD
    rw [HS0.out, List.take_length] at hst hm
    obtain ⟨av, cv, hv, -⟩ := hst.r.shape
    obtain ⟨n2, hn2⟩ : ∃ z, (ids D s.data.toList S0).length = z := ⟨_, rfl⟩
    rw [hn2] at hv
    subst hv
    have HST := Lib.hid hst
    have HDD := Lib.hid hD
    have R6 := Lib.hid ((hst.u.block _ (lt_of_heap HB6.out) (by omega)).trans HB6.out)
    have R7 := Lib.hid ((hst.u.block _ (lt_of_heap HB7.out) (by omega)).trans HB7.out)
    have R8 := Lib.hid ((hst.u.block _ (lt_of_heap HB8.out) (by omega)).trans HB8.out)
    have HC0 := Lib.hid hst.c
    obtain ⟨A3, hA3⟩ : ∃ z, ((B.setCell ⟨b6, 0, none⟩ (.slice av n2 cv)).setCell ⟨b7, 0, none⟩ (.int .i64 (stOf none))).setCell ⟨b8, 0, none⟩ (.int .i64 0) = z := ⟨_, rfl⟩
    have HEE := Lib.hid (Ends.make (x := (ids D s.data.toList S0, none)) HST.out R6.out R7.out R8.out l6 l7 l8 (lt_of_heap HB10.out) rfl hA3)
    have HX := Lib.hid (show encode D most s.data.toList = (ids D s.data.toList S0, none) from by
      unfold encode
      rw [HS0.out]
      exact enc_all D most _ _ hm)
    have EA3 := Lib.hid hA3
    unfold stOf at EA3
    simp only at EA3
    clear hst hD hS hm hn2 hA3
    have c0 := cell_at HC0.out 0
    have cz := lt_of_heap HC0.out
    simp only [List.getElem?_toArray, List.getElem?_cons_zero] at c0
    have f0 := cell_at R6.out 0
    have ff := free_all R6.out
    have fz := lt_of_heap R6.out
    simp only [List.getElem?_toArray, List.getElem?_cons_zero] at f0
    have g0 := cell_at R7.out 0
    have gf := free_all R7.out
    have gz := lt_of_heap R7.out
    simp only [List.getElem?_toArray, List.getElem?_cons_zero] at g0
    have h0 := cell_at R8.out 0
    have hf := free_all R8.out
    have hz := lt_of_heap R8.out
    simp only [List.getElem?_toArray, List.getElem?_cons_zero] at h0
    go_wp2_with fail
    rw [EA3.out]
    have HD3 := Lib.hid ((HEE.out.2.block _ (lt_of_heap HDD.out) (by have := lt_of_heap HB10.out; omega)).trans HDD.out)
    rw [HX.out]
    have he := HEE.out.1
    refine leaves_marks (v := .tuple #[.slice av n2 cv, .int .i64 (stOf none), .int .i64 0]) [W8.heap.size] _ (fun d hd => ?_) (by simp) (fun w' hu => ?_)
    · rw [List.mem_singleton] at hd
      rw [hd]
      exact HD3.out
    · have he2 := he.leave HD3.out hu l6 l7 l8 (lt_of_heap HB10.out)
      have f6 := cell_at he2.c6 0
      have f7 := cell_at he2.c7 0
      have f8 := cell_at he2.c8 0
      simp only [List.getElem?_toArray, List.getElem?_cons_zero] at f6 f7 f8
      refine ⟨by simp [results, Tryd.results20, go_sem, f6, f7, f8], _, rfl, ?_, ?_⟩
      · exact Seg.rebase he2.r (fun b hb => by have := (Seg.lt he2.r b hb).1; have := HB.out.size; omega)
      · exact HB.out.trans (he2.u.below HB.out.size (fun b hb h => by omega))
  case stop =>
    rintro c k S B hk ⟨rfl, v, x, he, hx⟩ hD
    have HX := Lib.hid hx
    have HD3 := Lib.hid hD
    clear hx hD
    rw [HX.out]
    go_wp2_with fail
    refine leaves_marks (v := .tuple #[v, .int .i64 (stOf x.2), .int .i64 0]) [W8.heap.size] _ (fun d hd => ?_) (by simp) (fun w' hu => ?_)
    · rw [List.mem_singleton] at hd
      rw [hd]
      exact HD3.out
    · have he2 := he.leave HD3.out hu l6 l7 l8 (lt_of_heap HB10.out)
      have f6 := cell_at he2.c6 0
      have f7 := cell_at he2.c7 0
      have f8 := cell_at he2.c8 0
      simp only [List.getElem?_toArray, List.getElem?_cons_zero] at f6 f7 f8
      refine ⟨by simp [results, Tryd.results20, go_sem, f6, f7, f8], _, rfl, ?_, ?_⟩
      · exact Seg.rebase he2.r (fun b hb => by have := (Seg.lt he2.r b hb).1; have := HB.out.size; omega)
      · exact HB.out.trans (he2.u.below HB.out.size (fun b hb h => by omega))
end Go.Proofs.YtkjkgpdfhmoenaaDoor.EncGo
