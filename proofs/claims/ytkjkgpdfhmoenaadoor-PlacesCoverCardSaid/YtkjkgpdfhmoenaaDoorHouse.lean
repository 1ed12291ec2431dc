/-
  tesserabook.House: a small right model's data.
-/
import Derived.Test.YtkjkgpdfhmoenaaDoorMoNew
namespace Go.Proofs.YtkjkgpdfhmoenaaDoor.House
open Go Go.RowKit Go.Proofs.YtkjkgpdfhmoenaaDoor.Kit Go.Proofs.YtkjkgpdfhmoenaaDoor.SpFns Go.Proofs.YtkjkgpdfhmoenaaDoor.Dt Go.Proofs.YtkjkgpdfhmoenaaDoor.MoNew Go.Proofs.YtkjkgpdfhmoenaaDoor.Keep
attribute [local irreducible] wpQuiet

def hw : Nat → ByteArray | 0 => ⟨#[97, 98]⟩ | 1 => ⟨#[32, 97]⟩ | 2 => ⟨#[116, 104]⟩ | 3 => ⟨#[116, 104, 101]⟩ | 4 => ⟨#[104, 101]⟩ | _ => ⟨#[195, 169]⟩
def ha : Nat → Int | 0 => 97 | 1 => 32 | 2 => 116 | 3 => 258 | 4 => 104 | _ => 195
def hb : Nat → Int | 0 => 98 | 1 => 97 | 2 => 104 | 3 => 101 | 4 => 101 | _ => 169
def hi (i : Nat) : Int := 256 + i
def l0 : Nat → Int | 0 => 97 | _ => 233
def h0 : Nat → Int | 0 => 122 | _ => 233
def l2 : Nat → Int | 0 => 9 | _ => 32
def h2 : Nat → Int | 0 => 10 | _ => 32
def HD : Dt := ⟨6, hw, 6, ha, hb, hi, 2, l0, h0, 1, fun _ => 48, fun _ => 57, 2, l2, h2⟩

theorem chk_HD : chk HD = (0, 0, 0) := by decide +kernel

theorem six (w : World) (o0 o1 o2 o3 o4 o5 : Obj) (W : World) (h : (((((w.alloc o0).alloc o1).alloc o2).alloc o3).alloc o4).alloc o5 = W) :
    W.heap[w.heap.size]? = some o0 ∧ W.heap[w.heap.size + 1]? = some o1 ∧ W.heap[w.heap.size + 1 + 1]? = some o2 ∧ W.heap[w.heap.size + 1 + 1 + 1]? = some o3 ∧ W.heap[w.heap.size + 1 + 1 + 1 + 1]? = some o4 ∧ W.heap[w.heap.size + 1 + 1 + 1 + 1 + 1]? = some o5 ∧ Below w.heap.size w W := by
  subst h
  refine ⟨?_, ?_, ?_, ?_, ?_, alloc_new (by simp only [World.size_alloc]), ?_⟩
  · rw [alloc_old (by simp only [World.size_alloc]; omega), alloc_old (by simp only [World.size_alloc]; omega), alloc_old (by simp only [World.size_alloc]; omega), alloc_old (by simp only [World.size_alloc]; omega), alloc_old (by simp only [World.size_alloc]; omega), alloc_new rfl]
  · rw [alloc_old (by simp only [World.size_alloc]; omega), alloc_old (by simp only [World.size_alloc]; omega), alloc_old (by simp only [World.size_alloc]; omega), alloc_old (by simp only [World.size_alloc]; omega), alloc_new (by simp only [World.size_alloc])]
  · rw [alloc_old (by simp only [World.size_alloc]; omega), alloc_old (by simp only [World.size_alloc]; omega), alloc_old (by simp only [World.size_alloc]; omega), alloc_new (by simp only [World.size_alloc])]
  · rw [alloc_old (by simp only [World.size_alloc]; omega), alloc_old (by simp only [World.size_alloc]; omega), alloc_new (by simp only [World.size_alloc])]
  · rw [alloc_old (by simp only [World.size_alloc]; omega), alloc_new (by simp only [World.size_alloc])]
  · exact ((((((Below.refl _ w).alloc (Nat.le_refl _) _).alloc (by simp only [World.size_alloc]; omega) _).alloc (by simp only [World.size_alloc]; omega) _).alloc (by simp only [World.size_alloc]; omega) _).alloc (by simp only [World.size_alloc]; omega) _).alloc (by simp only [World.size_alloc]; omega) _

set_option maxHeartbeats 1000000 in
set_option maxRecDepth 100000 in
theorem House_calls (w : World) : Calls Tryd.prog 46 #[] w fun e w' => ∃ p, e = .returned (.agg #[.slice p.a0 HD.nw p.c0, .slice p.a1 HD.nm p.c1, .slice p.a2 HD.n0 p.c2, .slice p.a3 HD.n1 p.c3, .slice p.a4 HD.n2 p.c4]) ∧ At w' HD p ∧ Below w.heap.size w w' := by
  obtain ⟨W, hW⟩ : ∃ W, ((((((w.alloc (.cells #[.slice (some ⟨w.heap.size + 1, 0, none⟩) 6 6, .slice (some ⟨w.heap.size + 1 + 1, 0, none⟩) 6 6, .slice (some ⟨w.heap.size + 1 + 1 + 1, 0, none⟩) 2 2, .slice (some ⟨w.heap.size + 1 + 1 + 1 + 1, 0, none⟩) 1 1, .slice (some ⟨w.heap.size + 1 + 1 + 1 + 1 + 1, 0, none⟩) 2 2] 26)).alloc (.cells #[.string ⟨#[97, 98]⟩, .string ⟨#[32, 97]⟩, .string ⟨#[116, 104]⟩, .string ⟨#[116, 104, 101]⟩, .string ⟨#[104, 101]⟩, .string ⟨#[195, 169]⟩] 9)).alloc (.cells #[.int .i64 97, .int .i64 98, .int .i64 256, .int .i64 32, .int .i64 97, .int .i64 257, .int .i64 116, .int .i64 104, .int .i64 258, .int .i64 258, .int .i64 101, .int .i64 259, .int .i64 104, .int .i64 101, .int .i64 260, .int .i64 195, .int .i64 169, .int .i64 261] 127)).alloc (.cells #[.int .i32 97, .int .i32 122, .int .i32 233, .int .i32 233] 129)).alloc (.cells #[.int .i32 48, .int .i32 57] 129)).alloc (.cells #[.int .i32 9, .int .i32 10, .int .i32 32, .int .i32 32] 129)) = W := ⟨_, rfl⟩
  have H := Lib.hid (six w _ _ _ _ _ _ W hW)
  have HW := Lib.hid hW
  clear hW
  go_enter Tryd.func46, Tryd.ntmps46
  go_wp2_with fail
  rw [HW.out]
  obtain ⟨s0, s1, s2, s3, s4, s5, sb⟩ := H.out
  have c0 := cell_at s0 0
  have c1 := cell_at s0 1
  have c2 := cell_at s0 2
  have c3 := cell_at s0 3
  have c4 := cell_at s0 4
  simp only [List.getElem?_toArray, List.getElem?_cons_zero, List.getElem?_cons_succ] at c0 c1 c2 c3 c4
  refine bodyPost_ret (v := .agg #[.slice (some ⟨w.heap.size + 1, 0, none⟩) 6 6, .slice (some ⟨w.heap.size + 1 + 1, 0, none⟩) 6 6, .slice (some ⟨w.heap.size + 1 + 1 + 1, 0, none⟩) 2 2, .slice (some ⟨w.heap.size + 1 + 1 + 1 + 1, 0, none⟩) 1 1, .slice (some ⟨w.heap.size + 1 + 1 + 1 + 1 + 1, 0, none⟩) 2 2]) (by simp [results, Tryd.results46, go_sem, c0, c1, c2, c3, c4]) rfl ⟨⟨some ⟨w.heap.size + 1, 0, none⟩, 6, some ⟨w.heap.size + 1 + 1, 0, none⟩, 6, some ⟨w.heap.size + 1 + 1 + 1, 0, none⟩, 2, some ⟨w.heap.size + 1 + 1 + 1 + 1, 0, none⟩, 1, some ⟨w.heap.size + 1 + 1 + 1 + 1 + 1, 0, none⟩, 2⟩, rfl, ?_, sb⟩
  refine ⟨.inr ⟨_, 0, rfl, lt_of_heap s1, fun i hi => ?_⟩, .inr ⟨_, 0, rfl, lt_of_heap s2, fun i hi => ?_⟩, .inr ⟨_, 0, rfl, lt_of_heap s3, fun i hi => ?_⟩, .inr ⟨_, 0, rfl, lt_of_heap s4, fun i hi => ?_⟩, .inr ⟨_, 0, rfl, lt_of_heap s5, fun i hi => ?_⟩,
    by decide, by decide, by decide, by decide, by decide, Nat.le_refl _, Nat.le_refl _, Nat.le_refl _, Nat.le_refl _, Nat.le_refl _, ?_, ?_⟩
  · have hi6 : i < 6 := hi
    match i, hi6 with
    | 0, _ => exact cell_at s1 0
    | 1, _ => exact cell_at s1 1
    | 2, _ => exact cell_at s1 2
    | 3, _ => exact cell_at s1 3
    | 4, _ => exact cell_at s1 4
    | 5, _ => exact cell_at s1 5
  · have hi6 : i < 6 := hi
    match i, hi6 with
    | 0, _ => exact ⟨cell_at s2 0, cell_at s2 1, cell_at s2 2⟩
    | 1, _ => exact ⟨cell_at s2 3, cell_at s2 4, cell_at s2 5⟩
    | 2, _ => exact ⟨cell_at s2 6, cell_at s2 7, cell_at s2 8⟩
    | 3, _ => exact ⟨cell_at s2 9, cell_at s2 10, cell_at s2 11⟩
    | 4, _ => exact ⟨cell_at s2 12, cell_at s2 13, cell_at s2 14⟩
    | 5, _ => exact ⟨cell_at s2 15, cell_at s2 16, cell_at s2 17⟩
  · have hi2 : i < 2 := hi
    match i, hi2 with
    | 0, _ => exact ⟨cell_at s3 0, cell_at s3 1⟩
    | 1, _ => exact ⟨cell_at s3 2, cell_at s3 3⟩
  · have hi1 : i < 1 := hi
    match i, hi1 with
    | 0, _ => exact ⟨cell_at s4 0, cell_at s4 1⟩
  · have hi2 : i < 2 := hi
    match i, hi2 with
    | 0, _ => exact ⟨cell_at s5 0, cell_at s5 1⟩
    | 1, _ => exact ⟨cell_at s5 2, cell_at s5 3⟩
  · intro i hi
    have hi6 : i < 6 := hi
    match i, hi6 with
    | 0, _ => decide
    | 1, _ => decide
    | 2, _ => decide
    | 3, _ => decide
    | 4, _ => decide
    | 5, _ => decide
  · intro i hi
    have hi6 : i < 6 := hi
    match i, hi6 with
    | 0, _ => decide
    | 1, _ => decide
    | 2, _ => decide
    | 3, _ => decide
    | 4, _ => decide
    | 5, _ => decide

/-- A right model of it. -/
theorem model_calls (p : Pl) (w : World) (h : At w HD p) : Calls Tryd.prog 16 #[.agg #[.slice p.a0 HD.nw p.c0, .slice p.a1 HD.nm p.c1, .slice p.a2 HD.n0 p.c2, .slice p.a3 HD.n1 p.c3, .slice p.a4 HD.n2 p.c4]] w fun e w' =>
    ∃ mb, e = .returned (.tuple #[.pointer (some ⟨mb, 0, none⟩), .bool true, .bool true]) ∧ Mod w' mb HD ∧ Below w.heap.size w w' := by
  refine (OfX_calls HD p w h).mono ?_
  rintro e w' (⟨_, h⟩ | ⟨mb, h1, h2, _, h3, _⟩)
  · exact absurd ⟨chk_HD, by decide⟩ h
  · exact ⟨mb, h1, h2, h3⟩
end Go.Proofs.YtkjkgpdfhmoenaaDoor.House
