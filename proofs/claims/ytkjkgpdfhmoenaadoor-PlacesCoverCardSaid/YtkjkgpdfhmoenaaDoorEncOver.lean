/-
  encode: Over; Encode that is refused.
-/
import Derived.Test.YtkjkgpdfhmoenaaDoorEncode
namespace Go.Proofs.YtkjkgpdfhmoenaaDoor.EncGo
open Go Go.RowKit Go.Proofs.YtkjkgpdfhmoenaaDoor.Kit Go.Proofs.YtkjkgpdfhmoenaaDoor.Range Go.Proofs.YtkjkgpdfhmoenaaDoor.Round Go.Proofs.YtkjkgpdfhmoenaaDoor.Seg Go.Proofs.YtkjkgpdfhmoenaaDoor.Collect Go.Proofs.YtkjkgpdfhmoenaaDoor.It Go.Proofs.YtkjkgpdfhmoenaaDoor.ItGo Go.Proofs.YtkjkgpdfhmoenaaDoor.Dt Go.Proofs.YtkjkgpdfhmoenaaDoor.Mo Go.Proofs.YtkjkgpdfhmoenaaDoor.MoNew Go.Proofs.YtkjkgpdfhmoenaaDoor.Cu Go.Proofs.YtkjkgpdfhmoenaaDoor.CutAll Go.Proofs.YtkjkgpdfhmoenaaDoor.CutTokens Go.Proofs.YtkjkgpdfhmoenaaDoor.EncLaw Go.Proofs.YtkjkgpdfhmoenaaDoor.EncCount Go.Proofs.YtkjkgpdfhmoenaaDoor.BpeGo Go.Proofs.YtkjkgpdfhmoenaaDoor.Chain
attribute [local irreducible] wpQuiet wpStill
attribute [local go_sem] Oper.semAt_some
set_option linter.unusedSimpArgs false

/-- What wrong answers. -/
def Wrong (p : Option Addr) (most bytes why : Int) : Prop := ∀ W, Calls Tryd.prog 52 #[.pointer p, .int .i64 most, .int .i64 bytes] W fun e w' => e = .returned (.int .i64 why) ∧ W = w'

set_option maxHeartbeats 1000000 in
set_option maxRecDepth 100000 in
theorem Encode_bad (p : Option Addr) (most why : Int) (s : ByteArray) (w : World) (hw : Wrong p most s.size why) (h0 : why ≠ 0) :
    Calls Tryd.prog 20 #[.pointer p, .int .i64 most, .string s] w fun e w' => e = .returned (.tuple #[.slice none 0 0, .int .i64 0, .int .i64 why]) ∧ Below w.heap.size w w' := by
  have HW := Lib.hid hw
  have h0' : (why != 0) = true := by simpa using h0
  clear hw h0
  obtain ⟨W1, hW1⟩ : ∃ Xz, w.alloc (.cells #[.pointer p] 27) = Xz := ⟨_, rfl⟩
  obtain ⟨b3, hb3⟩ : ∃ xz, w.heap.size = xz := ⟨_, rfl⟩
  have hb1 : Below w.heap.size w W1 := by rw [← hW1]; exact (Below.refl _ _).alloc (Nat.le_refl _) _
  have HB3 := Lib.hid (by rw [← hW1, ← hb3]; exact alloc_new rfl : W1.heap[b3]? = some (.cells #[.pointer p] 27 (0, 0)))
  have EW1 := Lib.hid hW1
  have Eb3 := Lib.hid hb3
  clear hW1 hb3
  obtain ⟨W2, hW2⟩ : ∃ Xz, W1.alloc (.cells #[.int .i64 most] 3) = Xz := ⟨_, rfl⟩
  obtain ⟨b4, hb4⟩ : ∃ xz, W1.heap.size = xz := ⟨_, rfl⟩
  have hb2 : Below W1.heap.size W1 W2 := by rw [← hW2]; exact (Below.refl _ _).alloc (Nat.le_refl _) _
  have HB4 := Lib.hid (by rw [← hW2, ← hb4]; exact alloc_new rfl : W2.heap[b4]? = some (.cells #[.int .i64 most] 3 (0, 0)))
  have EW2 := Lib.hid hW2
  have Eb4 := Lib.hid hb4
  clear hW2 hb4
  have n4 := Lib.hid (show b3 + 1 = b4 from by rw [← Eb4.out, ← EW1.out, ← Eb3.out]; simp)
  have l3 : b3 < b4 := by have := lt_of_heap HB3.out; have := Eb4.out; omega
  have HB3 := Lib.hid ((hb2.block _ (lt_of_heap HB3.out)).trans HB3.out)
  obtain ⟨W3, hW3⟩ : ∃ Xz, W2.alloc (.cells #[.string s] 9) = Xz := ⟨_, rfl⟩
  obtain ⟨b5, hb5⟩ : ∃ xz, W2.heap.size = xz := ⟨_, rfl⟩
  have hb3 : Below W2.heap.size W2 W3 := by rw [← hW3]; exact (Below.refl _ _).alloc (Nat.le_refl _) _
  have HB5 := Lib.hid (by rw [← hW3, ← hb5]; exact alloc_new rfl : W3.heap[b5]? = some (.cells #[.string s] 9 (0, 0)))
  have EW3 := Lib.hid hW3
  have Eb5 := Lib.hid hb5
  clear hW3 hb5
  have n5 := Lib.hid (show b4 + 1 = b5 from by rw [← Eb5.out, ← EW2.out, ← Eb4.out]; simp)
  have l4 : b4 < b5 := by have := lt_of_heap HB4.out; have := Eb5.out; omega
  have HB3 := Lib.hid ((hb3.block _ (lt_of_heap HB3.out)).trans HB3.out)
  have HB4 := Lib.hid ((hb3.block _ (lt_of_heap HB4.out)).trans HB4.out)
  obtain ⟨W4, hW4⟩ : ∃ Xz, W3.alloc (.cells #[.slice none 0 0] 33) = Xz := ⟨_, rfl⟩
  obtain ⟨b6, hb6⟩ : ∃ xz, W3.heap.size = xz := ⟨_, rfl⟩
  have hb4 : Below W3.heap.size W3 W4 := by rw [← hW4]; exact (Below.refl _ _).alloc (Nat.le_refl _) _
  have HB6 := Lib.hid (by rw [← hW4, ← hb6]; exact alloc_new rfl : W4.heap[b6]? = some (.cells #[.slice none 0 0] 33 (0, 0)))
  have EW4 := Lib.hid hW4
  have Eb6 := Lib.hid hb6
  clear hW4 hb6
  have n6 := Lib.hid (show b5 + 1 = b6 from by rw [← Eb6.out, ← EW3.out, ← Eb5.out]; simp)
  have l5 : b5 < b6 := by have := lt_of_heap HB5.out; have := Eb6.out; omega
  have HB3 := Lib.hid ((hb4.block _ (lt_of_heap HB3.out)).trans HB3.out)
  have HB4 := Lib.hid ((hb4.block _ (lt_of_heap HB4.out)).trans HB4.out)
  have HB5 := Lib.hid ((hb4.block _ (lt_of_heap HB5.out)).trans HB5.out)
  obtain ⟨W5, hW5⟩ : ∃ Xz, W4.alloc (.cells #[.int .i64 0] 34) = Xz := ⟨_, rfl⟩
  obtain ⟨b7, hb7⟩ : ∃ xz, W4.heap.size = xz := ⟨_, rfl⟩
  have hb5 : Below W4.heap.size W4 W5 := by rw [← hW5]; exact (Below.refl _ _).alloc (Nat.le_refl _) _
  have HB7 := Lib.hid (by rw [← hW5, ← hb7]; exact alloc_new rfl : W5.heap[b7]? = some (.cells #[.int .i64 0] 34 (0, 0)))
  have EW5 := Lib.hid hW5
  have Eb7 := Lib.hid hb7
  clear hW5 hb7
  have n7 := Lib.hid (show b6 + 1 = b7 from by rw [← Eb7.out, ← EW4.out, ← Eb6.out]; simp)
  have l6 : b6 < b7 := by have := lt_of_heap HB6.out; have := Eb7.out; omega
  have HB3 := Lib.hid ((hb5.block _ (lt_of_heap HB3.out)).trans HB3.out)
  have HB4 := Lib.hid ((hb5.block _ (lt_of_heap HB4.out)).trans HB4.out)
  have HB5 := Lib.hid ((hb5.block _ (lt_of_heap HB5.out)).trans HB5.out)
  have HB6 := Lib.hid ((hb5.block _ (lt_of_heap HB6.out)).trans HB6.out)
  obtain ⟨W6, hW6⟩ : ∃ Xz, W5.alloc (.cells #[.int .i64 0] 35) = Xz := ⟨_, rfl⟩
  obtain ⟨b8, hb8⟩ : ∃ xz, W5.heap.size = xz := ⟨_, rfl⟩
  have hb6 : Below W5.heap.size W5 W6 := by rw [← hW6]; exact (Below.refl _ _).alloc (Nat.le_refl _) _
  have HB8 := Lib.hid (by rw [← hW6, ← hb8]; exact alloc_new rfl : W6.heap[b8]? = some (.cells #[.int .i64 0] 35 (0, 0)))
  have EW6 := Lib.hid hW6
  have Eb8 := Lib.hid hb8
  clear hW6 hb8
  have n8 := Lib.hid (show b7 + 1 = b8 from by rw [← Eb8.out, ← EW5.out, ← Eb7.out]; simp)
  have l7 : b7 < b8 := by have := lt_of_heap HB7.out; have := Eb8.out; omega
  have HB3 := Lib.hid ((hb6.block _ (lt_of_heap HB3.out)).trans HB3.out)
  have HB4 := Lib.hid ((hb6.block _ (lt_of_heap HB4.out)).trans HB4.out)
  have HB5 := Lib.hid ((hb6.block _ (lt_of_heap HB5.out)).trans HB5.out)
  have HB6 := Lib.hid ((hb6.block _ (lt_of_heap HB6.out)).trans HB6.out)
  have HB7 := Lib.hid ((hb6.block _ (lt_of_heap HB7.out)).trans HB7.out)
  have l0 : w.heap.size ≤ b3 := by have := Eb3.out; omega
  have HB := Lib.hid (chain (chain (chain (chain (chain hb1 hb2) hb3) hb4) hb5) hb6 : Below w.heap.size w W6)
  clear hb1 hb2 hb3 hb4 hb5 hb6
  refine calls_of_wp_marks Tryd.func20 rfl ?_
  simp only [Tryd.ntmps20, List.size_toArray, List.length_cons, List.length_nil, Nat.reduceAdd, Nat.reduceSub, Array.replicate_succ, Array.replicate_zero, List.push_toArray, List.append_toArray, List.nil_append, List.cons_append]
  have c0 := cell_at HB3.out 0
  have cz := lt_of_heap HB3.out
  simp only [List.getElem?_toArray, List.getElem?_cons_zero] at c0
  have d0 := cell_at HB4.out 0
  have dz := lt_of_heap HB4.out
  simp only [List.getElem?_toArray, List.getElem?_cons_zero] at d0
  have e0 := cell_at HB5.out 0
  have ez := lt_of_heap HB5.out
  simp only [List.getElem?_toArray, List.getElem?_cons_zero] at e0
  go_upto_region 1 with fail
  rw [EW1.out, Eb3.out, n4.out, EW2.out, n5.out, EW3.out, n6.out, EW4.out, n7.out, EW5.out, n8.out, EW6.out]
  go_wp2_with fail
  refine (HW.out W6).mono ?_
  rintro e W ⟨rfl, rfl⟩
  obtain ⟨Wf, hWf⟩ : ∃ z, ((W6.setCell ⟨b6, 0, none⟩ (.slice none 0 0)).setCell ⟨b7, 0, none⟩ (.int .i64 0)).setCell ⟨b8, 0, none⟩ (.int .i64 why) = z := ⟨_, rfl⟩
  have h6 : Wf.heap[b6]? = some (.cells #[.slice none 0 0] 33 (0, 0)) := by rw [← hWf, Below.heap_setCell _ _ _ _ (by show b6 ≠ b8; omega), Below.heap_setCell _ _ _ _ (by show b6 ≠ b7; omega), heap_set HB6.out 0 _]; rfl
  have h7 : Wf.heap[b7]? = some (.cells #[.int .i64 0] 34 (0, 0)) := by rw [← hWf, Below.heap_setCell _ _ _ _ (by show b7 ≠ b8; omega), heap_set ((Below.heap_setCell _ _ _ _ (by show b7 ≠ b6; omega)).trans HB7.out) 0 _]; rfl
  have h8 : Wf.heap[b8]? = some (.cells #[.int .i64 why] 35 (0, 0)) := by rw [← hWf, heap_set ((Below.heap_setCell _ _ _ _ (by show b8 ≠ b7; omega)).trans ((Below.heap_setCell _ _ _ _ (by show b8 ≠ b6; omega)).trans HB8.out)) 0 _]; rfl
  have HBF := Lib.hid (show Below w.heap.size w Wf from by rw [← hWf]; exact ((HB.out.setCell (by show _ ≤ b6; omega) _).setCell (by show _ ≤ b7; omega) _).setCell (by show _ ≤ b8; omega) _)
  have HWF := Lib.hid hWf
  have H6 := Lib.hid h6
  have H7 := Lib.hid h7
  have H8 := Lib.hid h8
  clear hWf h6 h7 h8 c0 cz d0 dz e0 ez HW
  have f0 := cell_at HB6.out 0
  have ff := free_all HB6.out
  have fz := lt_of_heap HB6.out
  simp only [List.getElem?_toArray, List.getElem?_cons_zero] at f0
  have g0 := cell_at HB7.out 0
  have gf := free_all HB7.out
  have gz := lt_of_heap HB7.out
  simp only [List.getElem?_toArray, List.getElem?_cons_zero] at g0
  have h0 := cell_at HB8.out 0
  have hf := free_all HB8.out
  have hz := lt_of_heap HB8.out
  simp only [List.getElem?_toArray, List.getElem?_cons_zero] at h0
  go_wp2_with fail
  rw [HWF.out]
  clear f0 ff fz g0 gf gz h0 hf hz
  have f0 := cell_at H6.out 0
  have fz := lt_of_heap H6.out
  simp only [List.getElem?_toArray, List.getElem?_cons_zero] at f0
  have g0 := cell_at H7.out 0
  have gz := lt_of_heap H7.out
  simp only [List.getElem?_toArray, List.getElem?_cons_zero] at g0
  have h0 := cell_at H8.out 0
  have hz := lt_of_heap H8.out
  simp only [List.getElem?_toArray, List.getElem?_cons_zero] at h0
  refine leaves_marks (v := .tuple #[.slice none 0 0, .int .i64 0, .int .i64 why]) [] _ (fun d hd => by cases hd) (by simp) (fun w' hu => ?_)
  have e6 : w'.cell? ⟨b6, 0, none⟩ = some (.slice none 0 0) := (hu.cell (p := ⟨b6, 0, none⟩) fz (by simp)).trans f0
  have e7 : w'.cell? ⟨b7, 0, none⟩ = some (.int .i64 0) := (hu.cell (p := ⟨b7, 0, none⟩) gz (by simp)).trans g0
  have e8 : w'.cell? ⟨b8, 0, none⟩ = some (.int .i64 why) := (hu.cell (p := ⟨b8, 0, none⟩) hz (by simp)).trans h0
  exact ⟨by simp [results, Tryd.results20, go_sem, e6, e7, e8], rfl, HBF.out.trans (hu.below HBF.out.size (fun b hb h => by cases h))⟩

/-! ### Over -/
def ovA (o : Option Tk) : Int := match o with | none => 0 | some t => t.a
def ovB (o : Option Tk) : Int := match o with | none => 0 | some t => t.b
def overV (o : Option Tk) : Value := .tuple #[.agg #[.int .i64 (ovA o), .int .i64 (ovB o)], .bool o.isSome]
structure OEnds (w0 W : World) (b6 b7 : Nat) (S : Nat → Prop) (o : Option Tk) : Prop where
  s : ∀ b, S b ↔ b = b6 ∨ b = b7
  c6 : W.heap[b6]? = some (.cells #[.int .i64 (ovA o), .int .i64 (ovB o)] 39 (0, 0))
  c7 : W.heap[b7]? = some (.cells #[.bool o.isSome] 4 (0, 0))
  u : Upd (fun b => b = b6 ∨ b = b7) w0 W
theorem OEnds.upd {w0 A B : World} {b6 b7 : Nat} {S X : Nat → Prop} {o : Option Tk} (h : OEnds w0 A b6 b7 S o) (hu : Upd X A B) (h1 : ∀ b, S b → ¬ X b) (h2 : ∀ b, b < w0.heap.size → ¬ X b) : OEnds w0 B b6 b7 S o :=
  ⟨h.s, (hu.block _ (lt_of_heap h.c6) (h1 _ ((h.s _).2 (by simp)))).trans h.c6, (hu.block _ (lt_of_heap h.c7) (h1 _ ((h.s _).2 (by simp)))).trans h.c7, grow h.u hu (fun b hb hx => (h2 b hb hx).elim)⟩
theorem OEnds.make {w0 A B : World} {b6 b7 : Nat} {o : Option Tk} (hb : Below w0.heap.size w0 A) (h6 : A.heap[b6]? = some (.cells #[.int .i64 0, .int .i64 0] 39 (0, 0))) (h7 : A.heap[b7]? = some (.cells #[.bool false] 4 (0, 0))) (l6 : b6 < b7)
    (hB : ((A.setCell ⟨b6, 0, none⟩ (.int .i64 (ovA o))).setCell ⟨b6, 1, none⟩ (.int .i64 (ovB o))).setCell ⟨b7, 0, none⟩ (.bool o.isSome) = B) : OEnds w0 B b6 b7 (fun b => b = b6 ∨ b = b7) o ∧ Upd (fun b => b = b6 ∨ b = b7) A B := by
  have u : Upd (fun b => b = b6 ∨ b = b7) A B := by
    rw [← hB]
    refine Upd.setCell (S := fun b => b = b6 ∨ b = b7) (p := ⟨b7, 0, none⟩) ?_ (fun _ => .inr rfl) _
    refine Upd.setCell (S := fun b => b = b6 ∨ b = b7) (p := ⟨b6, 1, none⟩) ?_ (fun _ => .inl rfl) _
    exact Upd.setCell (S := fun b => b = b6 ∨ b = b7) (p := ⟨b6, 0, none⟩) (Upd.refl _ _) (fun _ => .inl rfl) _
  refine ⟨⟨fun b => Iff.rfl, ?_, ?_, (Upd.of_below hb).trans u⟩, u⟩
  · rw [← hB, Below.heap_setCell _ _ _ _ (by show b6 ≠ b7; omega), heap_set (heap_set h6 0 _) 1 _]
    rfl
  · rw [← hB, heap_set ((Below.heap_setCell _ _ _ _ (by show b7 ≠ b6; omega)).trans ((Below.heap_setCell _ _ _ _ (by show b7 ≠ b6; omega)).trans h7)) 0 _]
    rfl

set_option maxHeartbeats 4000000 in
set_option maxRecDepth 100000 in
theorem Over_calls (D : Dt) (mb most : Nat) (s : ByteArray) (w : World) (h : Mod w mb D) (hT : Tabs w) (h1 : 1 ≤ most) (h2 : most ≤ 65536) (hl : s.size ≤ 1048576) :
    Calls Tryd.prog 21 #[.pointer (some ⟨mb, 0, none⟩), .int .i64 most, .string s] w fun e w' => e = .returned (overV (encode D most s.data.toList).2) ∧ Below w.heap.size w w' := by
  have HM := Lib.hid h
  have HT := Lib.hid hT
  have hsz := size_list s
  have hlink := toks_link D s.data.toList.length s.data.toList 0 (Nat.le_refl _)
  rw [Nat.zero_add] at hlink
  have HLK := Lib.hid hlink
  obtain ⟨S0, hS0⟩ : ∃ S, toks D 0 s.data.toList = S := ⟨_, rfl⟩
  have HS0 := Lib.hid hS0
  clear h hT hlink hS0
  obtain ⟨W1, hW1⟩ : ∃ Xz, w.alloc (.cells #[.int .i64 most] 3) = Xz := ⟨_, rfl⟩
  obtain ⟨b4, hb4⟩ : ∃ xz, w.heap.size = xz := ⟨_, rfl⟩
  have hb1 : Below w.heap.size w W1 := by rw [← hW1]; exact (Below.refl _ _).alloc (Nat.le_refl _) _
  have HB4 := Lib.hid (by rw [← hW1, ← hb4]; exact alloc_new rfl : W1.heap[b4]? = some (.cells #[.int .i64 most] 3 (0, 0)))
  have EW1 := Lib.hid hW1
  have Eb4 := Lib.hid hb4
  clear hW1 hb4
  obtain ⟨W2, hW2⟩ : ∃ Xz, W1.alloc (.cells #[.int .i64 0, .int .i64 0] 39) = Xz := ⟨_, rfl⟩
  obtain ⟨b6, hb6⟩ : ∃ xz, W1.heap.size = xz := ⟨_, rfl⟩
  have hb2 : Below W1.heap.size W1 W2 := by rw [← hW2]; exact (Below.refl _ _).alloc (Nat.le_refl _) _
  have HB6 := Lib.hid (by rw [← hW2, ← hb6]; exact alloc_new rfl : W2.heap[b6]? = some (.cells #[.int .i64 0, .int .i64 0] 39 (0, 0)))
  have EW2 := Lib.hid hW2
  have Eb6 := Lib.hid hb6
  clear hW2 hb6
  have n6 := Lib.hid (show b4 + 1 = b6 from by rw [← Eb6.out, ← EW1.out, ← Eb4.out]; simp)
  have l4 : b4 < b6 := by have := lt_of_heap HB4.out; have := Eb6.out; omega
  have HB4 := Lib.hid ((hb2.block _ (lt_of_heap HB4.out)).trans HB4.out)
  obtain ⟨W3, hW3⟩ : ∃ Xz, W2.alloc (.cells #[.bool false] 4) = Xz := ⟨_, rfl⟩
  obtain ⟨b7, hb7⟩ : ∃ xz, W2.heap.size = xz := ⟨_, rfl⟩
  have hb3 : Below W2.heap.size W2 W3 := by rw [← hW3]; exact (Below.refl _ _).alloc (Nat.le_refl _) _
  have HB7 := Lib.hid (by rw [← hW3, ← hb7]; exact alloc_new rfl : W3.heap[b7]? = some (.cells #[.bool false] 4 (0, 0)))
  have EW3 := Lib.hid hW3
  have Eb7 := Lib.hid hb7
  clear hW3 hb7
  have n7 := Lib.hid (show b6 + 1 = b7 from by rw [← Eb7.out, ← EW2.out, ← Eb6.out]; simp)
  have l6 : b6 < b7 := by have := lt_of_heap HB6.out; have := Eb7.out; omega
  have HB4 := Lib.hid ((hb3.block _ (lt_of_heap HB4.out)).trans HB4.out)
  have HB6 := Lib.hid ((hb3.block _ (lt_of_heap HB6.out)).trans HB6.out)
  have l0 : w.heap.size ≤ b4 := by have := Eb4.out; omega
  have HB := Lib.hid (chain (chain hb1 hb2) hb3 : Below w.heap.size w W3)
  have HW := Lib.hid (wrong_ok mb most s.size W3 (by omega) (by omega) (by omega))
  clear hb1 hb2 hb3
  refine calls_of_wp_marks Tryd.func21 rfl ?_
  simp only [Tryd.ntmps21, List.size_toArray, List.length_cons, List.length_nil, Nat.reduceAdd, Nat.reduceSub, Array.replicate_succ, Array.replicate_zero, List.push_toArray, List.append_toArray, List.nil_append, List.cons_append]
  have d0 := cell_at HB4.out 0
  have dz := lt_of_heap HB4.out
  simp only [List.getElem?_toArray, List.getElem?_cons_zero] at d0
  go_upto_region 1 with fail
  rw [EW1.out, Eb4.out, n6.out, EW2.out, n7.out, EW3.out]
  go_wp2_with fail
  refine HW.out.mono ?_
  rintro e W ⟨rfl, rfl⟩
  clear d0 dz HW
  go_wp2_with fail
  refine (All_new mb s W3).mono ?_
  rintro e W8 ⟨bm, bs, rfl, hbm, hbs, o2, o3, hb8⟩
  have HMB := Lib.hid hbm
  have HSB := Lib.hid hbs
  have l9 : b7 < bm := Nat.lt_of_lt_of_le (lt_of_heap HB7.out) o2
  have o5 : bs < W8.heap.size := lt_of_heap hbs
  have HB4 := Lib.hid ((hb8.block _ (lt_of_heap HB4.out)).trans HB4.out)
  have HB6 := Lib.hid ((hb8.block _ (lt_of_heap HB6.out)).trans HB6.out)
  have HB7 := Lib.hid ((hb8.block _ (lt_of_heap HB7.out)).trans HB7.out)
  have HB := Lib.hid (chain HB.out hb8)
  clear hbm hbs o2 hb8
  go_wp2_with fail
  refine range_outer (w0 := W8) (N := (toks D 0 s.data.toList).length) (Cap := fun b => b < w.heap.size ∨ b = bm ∨ b = bs) (gf := 72) (lb := #[.pointer (some ⟨bm, 0, none⟩), .pointer (some ⟨bs, 0, none⟩)]) (encs := fun k => #[encT ((toks D 0 s.data.toList).getD k default)]) rfl (Go.Proofs.enters_of Tryd.func72 (by kernel_rfl) rfl)
    (all_iter D mb w W8 bm bs s HM.out HT.out HB.out HMB.out HSB.out hl) (Below.refl _ _) (fun _ => rfl) ?cap
    (fun k S W => (∀ b, S b ↔ b = b6 ∨ b = b7) ∧ Below W8.heap.size W8 W ∧ ∀ t ∈ S0.take k, ¬ most < t.b - t.a)
    (fun c k S W => c = .ret ∧ ∃ x, OEnds W8 W b6 b7 S x ∧ (encode D most s.data.toList).2 = x)
    ?ki ?kx (fun b => b = b6 ∨ b = b7) ⟨fun b => Iff.rfl, Below.refl _ _, fun t ht => (by simp at ht)⟩ ?s0 ?round ?done ?stop
  case cap =>
    have := HB.out.size
    rintro b (h | rfl | rfl) <;> omega
  case ki =>
    rintro k S A B ⟨hS, hst, hm⟩ hu
    exact ⟨hS, hst.trans (hu.below hst.size (fun b hb h => by have := h.1; omega)), hm⟩
  case kx =>
    rintro c k S A B ⟨rfl, x, he, hx⟩ hu
    exact ⟨rfl, x, he.upd hu (fun b hb h => h.2 hb) (fun b hb h => by have := h.1; omega), hx⟩
  case s0 =>
    have hlast := lt_of_heap HB7.out
    rintro b h
    refine ⟨by omega, ?_⟩
    rintro (h3 | rfl | rfl) <;> omega
  case round =>
    rintro l k S A hk ⟨hS, hst, hm⟩ j1 j2 j3 j4 j5 j6
    obtain ⟨x, hx⟩ : ∃ x, (toks D 0 s.data.toList).getD k default = x := ⟨_, rfl⟩
    have hxm : x ∈ toks D 0 s.data.toList := by rw [← hx, List.getD_eq_getElem?_getD, List.getElem?_eq_getElem hk]; exact List.getElem_mem hk
    obtain ⟨t1, t2, t3⟩ := EncCount.Link.mem HLK.out x hxm
    rw [hx]
    unfold encT
    obtain ⟨A1, hA1⟩ : ∃ Xz, A.alloc (.cells #[.int .i64 x.a, .int .i64 x.b, .int .i64 x.s] 50) = Xz := ⟨_, rfl⟩
    obtain ⟨bt, hbt⟩ : ∃ xz, A.heap.size = xz := ⟨_, rfl⟩
    have hbA : Below A.heap.size A A1 := by rw [← hA1]; exact (Below.refl _ _).alloc (Nat.le_refl _) _
    have HV := Lib.hid (by rw [← hA1, ← hbt]; exact alloc_new rfl : A1.heap[bt]? = some (.cells #[.int .i64 x.a, .int .i64 x.b, .int .i64 x.s] 50 (0, 0)))
    have EA1 := Lib.hid hA1
    have Ebt := Lib.hid hbt
    clear hA1 hbt
    have HX0 := Lib.hid hx
    have H6 := Lib.hid j6
    clear hx hst j5 j6 hS hxm hm
    gi_wp2
    rw [EA1.out, Ebt.out]
    rw [Ebt.out] at hbA
    refine ⟨hbA, fun A2 hu hz hI2 hr2 => ?_⟩
    obtain ⟨hS2, hst2, hm2⟩ := hI2
    have HS2 := Lib.hid hS2
    have HMM := Lib.hid hm2
    have HVV := Lib.hid (Upd.mem hu HV.out (by have := Ebt.out; omega))
    have oA : A.heap.size = bt := Ebt.out
    have R4 := Lib.hid ((hst2.block _ (lt_of_heap HB4.out)).trans HB4.out)
    have R6 := Lib.hid ((hst2.block _ (lt_of_heap HB6.out)).trans HB6.out)
    have R7 := Lib.hid ((hst2.block _ (lt_of_heap HB7.out)).trans HB7.out)
    have HST := Lib.hid hst2
    have hw : IntKind.i64.wrap ((x.b : Int) - x.a) = (x.b : Int) - x.a := i64w _ (by omega) (by omega)
    clear hS2 hst2 hm2 hr2 hu hz hbA
    by_cases hm : (most : Int) < (x.b : Int) - x.a
    · have hmd : decide ((most : Int) < (x.b : Int) - x.a) = true := by simp [hm]
      obtain ⟨A3, hA3⟩ : ∃ z, ((A2.setCell ⟨b6, 0, none⟩ (.int .i64 (ovA (some x)))).setCell ⟨b6, 1, none⟩ (.int .i64 (ovB (some x)))).setCell ⟨b7, 0, none⟩ (.bool (some x).isSome) = z := ⟨_, rfl⟩
      have HEE := Lib.hid (OEnds.make (o := some x) HST.out R6.out R7.out l6 hA3)
      have EA3 := Lib.hid hA3
      unfold ovA ovB at EA3
      simp only [Option.isSome_some] at EA3
      clear hA3
      have v0 := cell_at HVV.out 0
      have v1 := cell_at HVV.out 1
      have vz := lt_of_heap HVV.out
      simp only [List.getElem?_toArray, List.getElem?_cons_zero, List.getElem?_cons_succ] at v0 v1
      have d0 := cell_at R4.out 0
      have dz := lt_of_heap R4.out
      simp only [List.getElem?_toArray, List.getElem?_cons_zero] at d0
      have f0 := cell_at R6.out 0
      have f1 := cell_at R6.out 1
      have ff := free_all R6.out
      have fz := lt_of_heap R6.out
      simp only [List.getElem?_toArray, List.getElem?_cons_zero, List.getElem?_cons_succ] at f0 f1
      have g0 := cell_at R7.out 0
      have gf := free_all R7.out
      have gz := lt_of_heap R7.out
      simp only [List.getElem?_toArray, List.getElem?_cons_zero] at g0
      gi_wp2_with fail
      rw [EA3.out]
      refine ⟨_, ⟨rfl, _, HEE.out.1, ?_⟩, HEE.out.2.mono (fun b _ hh => .inl ((HS2.out b).2 hh)), fun b hb => ⟨.inl ((HS2.out b).2 hb), ?_⟩⟩
      · unfold encode
        rw [HS0.out, enc_stop D most s.data.toList S0 k (by rw [← HS0.out]; exact hk) HMM.out (by rw [← HS0.out, HX0.out]; omega), ← HS0.out, HX0.out]
      · have h9 := HEE.out.1.u.size
        have h10 := lt_of_heap HB7.out
        rcases hb with hb | hb <;> omega
    · have hmd : decide ((most : Int) < (x.b : Int) - x.a) = false := by simp [hm]
      have HML := Lib.hid (show ∀ t ∈ S0.take (k + 1), ¬ most < t.b - t.a from fun t ht => by
        rw [List.take_add_one, List.mem_append] at ht
        rcases ht with ht | ht
        · exact HMM.out t ht
        · rw [← HS0.out, List.getElem?_eq_getElem hk] at ht
          have h3 := HX0.out
          rw [List.getD_eq_getElem?_getD, List.getElem?_eq_getElem hk] at h3
          simp only [Option.toList_some, List.mem_singleton, Option.getD_some] at ht h3
          rw [ht, h3]
          omega)
      have v0 := cell_at HVV.out 0
      have v1 := cell_at HVV.out 1
      have vz := lt_of_heap HVV.out
      simp only [List.getElem?_toArray, List.getElem?_cons_zero, List.getElem?_cons_succ] at v0 v1
      have d0 := cell_at R4.out 0
      have dz := lt_of_heap R4.out
      simp only [List.getElem?_toArray, List.getElem?_cons_zero] at d0
      gi_wp2_with fail
      refine ⟨S, ⟨HS2.out, HST.out, fun t ht => by have := HML.out t ht; omega⟩, Upd.refl _ _, fun b hb => ⟨.inl hb, ?_⟩⟩
      have h9 := HST.out.size
      have h10 := lt_of_heap HB7.out
      have := (HS2.out b).1 hb
      omega
  case done =>
    rintro S B ⟨hS, hst, hm⟩ hD
    rw [HS0.out, List.take_length] at hm
    have HST := Lib.hid hst
    have HDD := Lib.hid hD
    have R6 := Lib.hid ((hst.block _ (lt_of_heap HB6.out)).trans HB6.out)
    have R7 := Lib.hid ((hst.block _ (lt_of_heap HB7.out)).trans HB7.out)
    obtain ⟨A3, hA3⟩ : ∃ z, ((B.setCell ⟨b6, 0, none⟩ (.int .i64 (ovA none))).setCell ⟨b6, 1, none⟩ (.int .i64 (ovB none))).setCell ⟨b7, 0, none⟩ (.bool (none : Option Tk).isSome) = z := ⟨_, rfl⟩
    have HEE := Lib.hid (OEnds.make (o := none) HST.out R6.out R7.out l6 hA3)
    have HX := Lib.hid (show (encode D most s.data.toList).2 = none from by
      unfold encode
      rw [HS0.out, enc_all D most _ _ hm])
    have EA3 := Lib.hid hA3
    unfold ovA ovB at EA3
    simp only [Option.isSome_none] at EA3
    clear hst hD hS hm hA3
    have f0 := cell_at R6.out 0
    have f1 := cell_at R6.out 1
    have ff := free_all R6.out
    have fz := lt_of_heap R6.out
    simp only [List.getElem?_toArray, List.getElem?_cons_zero, List.getElem?_cons_succ] at f0 f1
    have g0 := cell_at R7.out 0
    have gf := free_all R7.out
    have gz := lt_of_heap R7.out
    simp only [List.getElem?_toArray, List.getElem?_cons_zero] at g0
    go_wp2_with fail
    rw [EA3.out]
    have hlast := lt_of_heap HB7.out
    have HD3 := Lib.hid ((HEE.out.2.block _ (lt_of_heap HDD.out) (by omega)).trans HDD.out)
    rw [HX.out]
    have he := HEE.out.1
    refine leaves_marks (v := overV none) [W8.heap.size] _ (fun d hd => ?_) (by simp) (fun w' hu => ?_)
    · first | (cases hd; done) | (rw [List.mem_singleton] at hd; rw [hd]; exact HD3.out)
    · have he2 := he.upd hu (fun b hb hh => by first | (cases hh; done) | (rw [List.mem_singleton] at hh; have := (he.s b).1 hb; omega)) (fun b hb hh => by first | (cases hh; done) | (rw [List.mem_singleton] at hh; omega))
      have f6 := cell_at he2.c6 0
      have f6' := cell_at he2.c6 1
      have f7 := cell_at he2.c7 0
      simp only [List.getElem?_toArray, List.getElem?_cons_zero, List.getElem?_cons_succ] at f6 f6' f7
      refine ⟨by simp [results, Tryd.results21, go_sem, f6, f6', f7, overV], rfl, ?_⟩
      exact HB.out.trans (he2.u.below HB.out.size (fun b hb h => by omega))
  case stop =>
    rintro c k S B hk ⟨rfl, x, he, hx⟩ hD
    have HX := Lib.hid hx
    have HD3 := Lib.hid hD
    have hlast := lt_of_heap HB7.out
    clear hx hD
    go_wp2_with fail
    rw [HX.out]
    refine leaves_marks (v := overV x) [W8.heap.size] _ (fun d hd => ?_) (by simp) (fun w' hu => ?_)
    · first | (cases hd; done) | (rw [List.mem_singleton] at hd; rw [hd]; exact HD3.out)
    · have he2 := he.upd hu (fun b hb hh => by first | (cases hh; done) | (rw [List.mem_singleton] at hh; have := (he.s b).1 hb; omega)) (fun b hb hh => by first | (cases hh; done) | (rw [List.mem_singleton] at hh; omega))
      have f6 := cell_at he2.c6 0
      have f6' := cell_at he2.c6 1
      have f7 := cell_at he2.c7 0
      simp only [List.getElem?_toArray, List.getElem?_cons_zero, List.getElem?_cons_succ] at f6 f6' f7
      refine ⟨by simp [results, Tryd.results21, go_sem, f6, f6', f7, overV], rfl, ?_⟩
      exact HB.out.trans (he2.u.below HB.out.size (fun b hb h => by omega))
end Go.Proofs.YtkjkgpdfhmoenaaDoor.EncGo
