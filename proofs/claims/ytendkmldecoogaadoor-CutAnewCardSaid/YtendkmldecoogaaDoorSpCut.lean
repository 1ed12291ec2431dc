/-
  spans.cut and spans.Size.
-/
import Derived.Test.YtendkmldecoogaaDoorSpFns
namespace Go.Proofs.YtendkmldecoogaaDoor.SpCut
open Go Go.RowKit Go.Proofs.YtendkmldecoogaaDoor.Kit Go.Proofs.YtendkmldecoogaaDoor.SpFns
attribute [local irreducible] wpQuiet

theorem oneFacts {w W2 : World} {A : Array Value} {t : TypeId} (hW : w.alloc (.cells A t) = W2) {k : Nat} (hk : k = w.heap.size) :
    Below w.heap.size w W2 ∧ W2.heap.size = k + 1 ∧ W2.heap[k]? = some (.cells A t (0, 0)) := by
  subst hW
  exact ⟨(Below.refl _ _).alloc (Nat.le_refl _) _, by simp [hk], alloc_new hk⟩

theorem RG_begin_at {P : Program} {Q : Exit → Act → World → Prop} {id : Nat} {a : Act} {w B : World} {l : List Oper} (n : Nat) (listed : Array Bool) (hn : l.length = n) (hl : Array.replicate n false = listed) (hm : P.follows .mixedOrders = true)
    (hB : Below B.heap.size B w)
    (h : ∀ R : Act → World → Prop, (∀ a w, Q .normal a w → R a w) → Below B.heap.size B w.drew → RG P l.toArray R B n listed a w.drew) : (Code.region id l.toArray true).wp P Q a w := by
  refine Code.wp_mono (Q := OnlyNormal (Q .normal)) (fun e a w hq => by cases e <;> first | exact hq | exact hq.elim) ?_
  refine wp_region_held (S := Below B.heap.size B) hm ?_
  have hd : Below B.heap.size B w.drew := hB.drew
  have h' := h _ (fun _ _ h => h) hd hd
  subst hn
  subst hl
  simpa using h'

set_option maxRecDepth 100000 in
theorem cut_calls (l h' : Int) (w : World) :
    Calls Tryd.prog 154 #[.agg #[.int .i32 l, .int .i32 h']] w fun e w' =>
      e = .returned (.tuple #[.agg #[.int .i32 (max l 0), .int .i32 (min h' 1114111)], .bool (decide (max l 0 ≤ min h' 1114111))]) ∧ Below w.heap.size w w' := by
  go_enter Tryd.func154, Tryd.ntmps154
  go_wp2_with fail
  · generalize hW2 : World.alloc w _ = W2
    obtain ⟨k, hk⟩ : ∃ k, k = w.heap.size := ⟨_, rfl⟩
    obtain ⟨hB, hk2, hh⟩ := oneFacts hW2 hk
    have e1 := cell_at hh
    have c0 := e1 0
    have c1 := e1 1
    have hn : k < W2.heap.size := by omega
    simp only [List.getElem?_toArray, List.getElem?_cons_zero, List.getElem?_cons_succ] at c0 c1
    rw [← hk, ← hk2]
    clear hW2 e1 hh
    have HB := Lib.hid hB
    have HK := Lib.hid hk
    clear hB hk
    have hB3 : Below W2.heap.size W2 (W2.alloc (.cells #[.int .i32 0, .int .i32 0] 84)) := (Below.refl _ _).alloc (Nat.le_refl _) _
    refine RG_begin_at 8 #[false, false, false, false, false, false, false, false] rfl rfl (by kernel_rfl) hB3 (fun R hR hacc => ?_)
    refine RG_take (i := 0) (v := ?v32x1) (some 12) #[true, false, false, false, false, false, false, false] rfl rfl (by kernel_rfl) (by kernel_rfl) (by kernel_rfl) rfl rfl (fun x => ?h32x1) ?n32x1
    case h32x1 => (go_simp; try with_reducible rfl)
    try simp only [Act.put, List.setIfInBounds_toArray, List.set_cons_zero, List.set_cons_succ]
    refine RG_take (i := 1) (v := ?v32x2) (some 13) #[true, true, false, false, false, false, false, false] rfl rfl (by kernel_rfl) (by kernel_rfl) (by kernel_rfl) rfl rfl (fun x => ?h32x2) ?n32x2
    case h32x2 => (go_simp; try with_reducible rfl)
    try simp only [Act.put, List.setIfInBounds_toArray, List.set_cons_zero, List.set_cons_succ]
    refine RG_take (i := 2) (v := ?v32x3) (some 14) #[true, true, true, false, false, false, false, false] rfl rfl (by kernel_rfl) (by kernel_rfl) (by kernel_rfl) rfl rfl (fun x => ?h32x3) ?n32x3
    case h32x3 => (go_simp; try with_reducible rfl)
    try simp only [Act.put, List.setIfInBounds_toArray, List.set_cons_zero, List.set_cons_succ]
    refine RG_take (i := 3) (v := ?v32x4) (some 15) #[true, true, true, true, false, false, false, false] rfl rfl (by kernel_rfl) (by kernel_rfl) (by kernel_rfl) rfl rfl (fun x => ?h32x4) ?n32x4
    case h32x4 => (go_simp; try with_reducible rfl)
    try simp only [Act.put, List.setIfInBounds_toArray, List.set_cons_zero, List.set_cons_succ]
    refine RG_take (i := 4) (v := ?v32x5) (some 16) #[true, true, true, true, true, false, false, false] rfl rfl (by kernel_rfl) (by kernel_rfl) (by kernel_rfl) rfl rfl (fun x => ?h32x5) ?n32x5
    case h32x5 => (go_simp; try with_reducible rfl)
    try simp only [Act.put, List.setIfInBounds_toArray, List.set_cons_zero, List.set_cons_succ]
    refine RG_take (i := 5) (v := ?v32x6) (some 17) #[true, true, true, true, true, true, false, false] rfl rfl (by kernel_rfl) (by kernel_rfl) (by kernel_rfl) rfl rfl (fun x => ?h32x6) ?n32x6
    case h32x6 => (go_simp; try with_reducible rfl)
    try simp only [Act.put, List.setIfInBounds_toArray, List.set_cons_zero, List.set_cons_succ]
    refine RG_one (i := 6) #[true, true, true, true, true, true, true, false] rfl (by kernel_rfl) rfl rfl (fun K hK => ?_)
    go_wp2_with fail
    refine RG_keep hK (by first | exact hacc | exact ((Below.refl _ _).alloc (Nat.le_refl _) _).drew | exact (hacc.setCell (by first | omega | (simp; done) | (simp; omega)) _).setCell (by first | omega | (simp; done) | (simp; omega)) _) (fun hacc => ?_)
    clear hK K
    try simp only [Act.put, List.setIfInBounds_toArray, List.set_cons_zero, List.set_cons_succ]
    refine RG_take (i := 7) (v := ?v32x7) (some 3) #[true, true, true, true, true, true, true, true] rfl rfl (by kernel_rfl) (by kernel_rfl) (by kernel_rfl) rfl rfl (fun x => ?h32x7) ?n32x7
    case h32x7 => (go_simp; try with_reducible rfl)
    try simp only [Act.put, List.setIfInBounds_toArray, List.set_cons_zero, List.set_cons_succ]
    refine RG_done (by kernel_rfl) ?_
    refine hR _ _ ?_
    clear hR R
    go_wp2
    refine bodyPost_ret (v := .tuple #[.agg #[.int .i32 (0), .int .i32 (1114111)], .bool (true)]) (by simp [results, Tryd.results154, go_sem, hk2]) rfl ⟨?_, ?_⟩
    · rw [show max l 0 = 0 by omega, show min h' 1114111 = 1114111 by omega]; rfl
    · have := HK.out
      exact HB.out.trans (hacc.mono (by omega))
  · generalize hW2 : World.alloc w _ = W2
    obtain ⟨k, hk⟩ : ∃ k, k = w.heap.size := ⟨_, rfl⟩
    obtain ⟨hB, hk2, hh⟩ := oneFacts hW2 hk
    have e1 := cell_at hh
    have c0 := e1 0
    have c1 := e1 1
    have hn : k < W2.heap.size := by omega
    simp only [List.getElem?_toArray, List.getElem?_cons_zero, List.getElem?_cons_succ] at c0 c1
    rw [← hk, ← hk2]
    clear hW2 e1 hh
    have HB := Lib.hid hB
    have HK := Lib.hid hk
    clear hB hk
    have hB3 : Below W2.heap.size W2 (W2.alloc (.cells #[.int .i32 0, .int .i32 0] 84)) := (Below.refl _ _).alloc (Nat.le_refl _) _
    refine RG_begin_at 8 #[false, false, false, false, false, false, false, false] rfl rfl (by kernel_rfl) hB3 (fun R hR hacc => ?_)
    refine RG_take (i := 0) (v := ?v42x1) (some 12) #[true, false, false, false, false, false, false, false] rfl rfl (by kernel_rfl) (by kernel_rfl) (by kernel_rfl) rfl rfl (fun x => ?h42x1) ?n42x1
    case h42x1 => (go_simp; try with_reducible rfl)
    try simp only [Act.put, List.setIfInBounds_toArray, List.set_cons_zero, List.set_cons_succ]
    refine RG_take (i := 1) (v := ?v42x2) (some 13) #[true, true, false, false, false, false, false, false] rfl rfl (by kernel_rfl) (by kernel_rfl) (by kernel_rfl) rfl rfl (fun x => ?h42x2) ?n42x2
    case h42x2 => (go_simp; try with_reducible rfl)
    try simp only [Act.put, List.setIfInBounds_toArray, List.set_cons_zero, List.set_cons_succ]
    refine RG_take (i := 2) (v := ?v42x3) (some 14) #[true, true, true, false, false, false, false, false] rfl rfl (by kernel_rfl) (by kernel_rfl) (by kernel_rfl) rfl rfl (fun x => ?h42x3) ?n42x3
    case h42x3 => (go_simp; try with_reducible rfl)
    try simp only [Act.put, List.setIfInBounds_toArray, List.set_cons_zero, List.set_cons_succ]
    refine RG_take (i := 3) (v := ?v42x4) (some 15) #[true, true, true, true, false, false, false, false] rfl rfl (by kernel_rfl) (by kernel_rfl) (by kernel_rfl) rfl rfl (fun x => ?h42x4) ?n42x4
    case h42x4 => (go_simp; try with_reducible rfl)
    try simp only [Act.put, List.setIfInBounds_toArray, List.set_cons_zero, List.set_cons_succ]
    refine RG_take (i := 4) (v := ?v42x5) (some 16) #[true, true, true, true, true, false, false, false] rfl rfl (by kernel_rfl) (by kernel_rfl) (by kernel_rfl) rfl rfl (fun x => ?h42x5) ?n42x5
    case h42x5 => (go_simp; try with_reducible rfl)
    try simp only [Act.put, List.setIfInBounds_toArray, List.set_cons_zero, List.set_cons_succ]
    refine RG_take (i := 5) (v := ?v42x6) (some 17) #[true, true, true, true, true, true, false, false] rfl rfl (by kernel_rfl) (by kernel_rfl) (by kernel_rfl) rfl rfl (fun x => ?h42x6) ?n42x6
    case h42x6 => (go_simp; try with_reducible rfl)
    try simp only [Act.put, List.setIfInBounds_toArray, List.set_cons_zero, List.set_cons_succ]
    refine RG_one (i := 6) #[true, true, true, true, true, true, true, false] rfl (by kernel_rfl) rfl rfl (fun K hK => ?_)
    go_wp2_with fail
    refine RG_keep hK (by first | exact hacc | exact ((Below.refl _ _).alloc (Nat.le_refl _) _).drew | exact (hacc.setCell (by first | omega | (simp; done) | (simp; omega)) _).setCell (by first | omega | (simp; done) | (simp; omega)) _) (fun hacc => ?_)
    clear hK K
    try simp only [Act.put, List.setIfInBounds_toArray, List.set_cons_zero, List.set_cons_succ]
    refine RG_take (i := 7) (v := ?v42x7) (some 3) #[true, true, true, true, true, true, true, true] rfl rfl (by kernel_rfl) (by kernel_rfl) (by kernel_rfl) rfl rfl (fun x => ?h42x7) ?n42x7
    case h42x7 => (go_simp; try with_reducible rfl)
    try simp only [Act.put, List.setIfInBounds_toArray, List.set_cons_zero, List.set_cons_succ]
    refine RG_done (by kernel_rfl) ?_
    refine hR _ _ ?_
    clear hR R
    go_wp2
    refine bodyPost_ret (v := .tuple #[.agg #[.int .i32 (0), .int .i32 (h')], .bool (decide (0 ≤ h'))]) (by simp [results, Tryd.results154, go_sem, hk2]) rfl ⟨?_, ?_⟩
    · rw [show max l 0 = 0 by omega, show min h' 1114111 = h' by omega]
    · have := HK.out
      exact HB.out.trans (hacc.mono (by omega))
  · generalize hW2 : World.alloc w _ = W2
    obtain ⟨k, hk⟩ : ∃ k, k = w.heap.size := ⟨_, rfl⟩
    obtain ⟨hB, hk2, hh⟩ := oneFacts hW2 hk
    have e1 := cell_at hh
    have c0 := e1 0
    have c1 := e1 1
    have hn : k < W2.heap.size := by omega
    simp only [List.getElem?_toArray, List.getElem?_cons_zero, List.getElem?_cons_succ] at c0 c1
    rw [← hk, ← hk2]
    clear hW2 e1 hh
    have HB := Lib.hid hB
    have HK := Lib.hid hk
    clear hB hk
    have hB3 : Below W2.heap.size W2 (W2.alloc (.cells #[.int .i32 0, .int .i32 0] 84)) := (Below.refl _ _).alloc (Nat.le_refl _) _
    refine RG_begin_at 8 #[false, false, false, false, false, false, false, false] rfl rfl (by kernel_rfl) hB3 (fun R hR hacc => ?_)
    refine RG_take (i := 0) (v := ?v52x1) (some 12) #[true, false, false, false, false, false, false, false] rfl rfl (by kernel_rfl) (by kernel_rfl) (by kernel_rfl) rfl rfl (fun x => ?h52x1) ?n52x1
    case h52x1 => (go_simp; try with_reducible rfl)
    try simp only [Act.put, List.setIfInBounds_toArray, List.set_cons_zero, List.set_cons_succ]
    refine RG_take (i := 1) (v := ?v52x2) (some 13) #[true, true, false, false, false, false, false, false] rfl rfl (by kernel_rfl) (by kernel_rfl) (by kernel_rfl) rfl rfl (fun x => ?h52x2) ?n52x2
    case h52x2 => (go_simp; try with_reducible rfl)
    try simp only [Act.put, List.setIfInBounds_toArray, List.set_cons_zero, List.set_cons_succ]
    refine RG_take (i := 2) (v := ?v52x3) (some 14) #[true, true, true, false, false, false, false, false] rfl rfl (by kernel_rfl) (by kernel_rfl) (by kernel_rfl) rfl rfl (fun x => ?h52x3) ?n52x3
    case h52x3 => (go_simp; try with_reducible rfl)
    try simp only [Act.put, List.setIfInBounds_toArray, List.set_cons_zero, List.set_cons_succ]
    refine RG_take (i := 3) (v := ?v52x4) (some 15) #[true, true, true, true, false, false, false, false] rfl rfl (by kernel_rfl) (by kernel_rfl) (by kernel_rfl) rfl rfl (fun x => ?h52x4) ?n52x4
    case h52x4 => (go_simp; try with_reducible rfl)
    try simp only [Act.put, List.setIfInBounds_toArray, List.set_cons_zero, List.set_cons_succ]
    refine RG_take (i := 4) (v := ?v52x5) (some 16) #[true, true, true, true, true, false, false, false] rfl rfl (by kernel_rfl) (by kernel_rfl) (by kernel_rfl) rfl rfl (fun x => ?h52x5) ?n52x5
    case h52x5 => (go_simp; try with_reducible rfl)
    try simp only [Act.put, List.setIfInBounds_toArray, List.set_cons_zero, List.set_cons_succ]
    refine RG_take (i := 5) (v := ?v52x6) (some 17) #[true, true, true, true, true, true, false, false] rfl rfl (by kernel_rfl) (by kernel_rfl) (by kernel_rfl) rfl rfl (fun x => ?h52x6) ?n52x6
    case h52x6 => (go_simp; try with_reducible rfl)
    try simp only [Act.put, List.setIfInBounds_toArray, List.set_cons_zero, List.set_cons_succ]
    refine RG_one (i := 6) #[true, true, true, true, true, true, true, false] rfl (by kernel_rfl) rfl rfl (fun K hK => ?_)
    go_wp2_with fail
    refine RG_keep hK (by first | exact hacc | exact ((Below.refl _ _).alloc (Nat.le_refl _) _).drew | exact (hacc.setCell (by first | omega | (simp; done) | (simp; omega)) _).setCell (by first | omega | (simp; done) | (simp; omega)) _) (fun hacc => ?_)
    clear hK K
    try simp only [Act.put, List.setIfInBounds_toArray, List.set_cons_zero, List.set_cons_succ]
    refine RG_take (i := 7) (v := ?v52x7) (some 3) #[true, true, true, true, true, true, true, true] rfl rfl (by kernel_rfl) (by kernel_rfl) (by kernel_rfl) rfl rfl (fun x => ?h52x7) ?n52x7
    case h52x7 => (go_simp; try with_reducible rfl)
    try simp only [Act.put, List.setIfInBounds_toArray, List.set_cons_zero, List.set_cons_succ]
    refine RG_done (by kernel_rfl) ?_
    refine hR _ _ ?_
    clear hR R
    go_wp2
    refine bodyPost_ret (v := .tuple #[.agg #[.int .i32 (l), .int .i32 (1114111)], .bool (decide (l ≤ 1114111))]) (by simp [results, Tryd.results154, go_sem, hk2]) rfl ⟨?_, ?_⟩
    · rw [show max l 0 = l by omega, show min h' 1114111 = 1114111 by omega]
    · have := HK.out
      exact HB.out.trans (hacc.mono (by omega))
  · generalize hW2 : World.alloc w _ = W2
    obtain ⟨k, hk⟩ : ∃ k, k = w.heap.size := ⟨_, rfl⟩
    obtain ⟨hB, hk2, hh⟩ := oneFacts hW2 hk
    have e1 := cell_at hh
    have c0 := e1 0
    have c1 := e1 1
    have hn : k < W2.heap.size := by omega
    simp only [List.getElem?_toArray, List.getElem?_cons_zero, List.getElem?_cons_succ] at c0 c1
    rw [← hk, ← hk2]
    clear hW2 e1 hh
    have HB := Lib.hid hB
    have HK := Lib.hid hk
    clear hB hk
    have hB3 : Below W2.heap.size W2 (W2.alloc (.cells #[.int .i32 0, .int .i32 0] 84)) := (Below.refl _ _).alloc (Nat.le_refl _) _
    refine RG_begin_at 8 #[false, false, false, false, false, false, false, false] rfl rfl (by kernel_rfl) hB3 (fun R hR hacc => ?_)
    refine RG_take (i := 0) (v := ?v62x1) (some 12) #[true, false, false, false, false, false, false, false] rfl rfl (by kernel_rfl) (by kernel_rfl) (by kernel_rfl) rfl rfl (fun x => ?h62x1) ?n62x1
    case h62x1 => (go_simp; try with_reducible rfl)
    try simp only [Act.put, List.setIfInBounds_toArray, List.set_cons_zero, List.set_cons_succ]
    refine RG_take (i := 1) (v := ?v62x2) (some 13) #[true, true, false, false, false, false, false, false] rfl rfl (by kernel_rfl) (by kernel_rfl) (by kernel_rfl) rfl rfl (fun x => ?h62x2) ?n62x2
    case h62x2 => (go_simp; try with_reducible rfl)
    try simp only [Act.put, List.setIfInBounds_toArray, List.set_cons_zero, List.set_cons_succ]
    refine RG_take (i := 2) (v := ?v62x3) (some 14) #[true, true, true, false, false, false, false, false] rfl rfl (by kernel_rfl) (by kernel_rfl) (by kernel_rfl) rfl rfl (fun x => ?h62x3) ?n62x3
    case h62x3 => (go_simp; try with_reducible rfl)
    try simp only [Act.put, List.setIfInBounds_toArray, List.set_cons_zero, List.set_cons_succ]
    refine RG_take (i := 3) (v := ?v62x4) (some 15) #[true, true, true, true, false, false, false, false] rfl rfl (by kernel_rfl) (by kernel_rfl) (by kernel_rfl) rfl rfl (fun x => ?h62x4) ?n62x4
    case h62x4 => (go_simp; try with_reducible rfl)
    try simp only [Act.put, List.setIfInBounds_toArray, List.set_cons_zero, List.set_cons_succ]
    refine RG_take (i := 4) (v := ?v62x5) (some 16) #[true, true, true, true, true, false, false, false] rfl rfl (by kernel_rfl) (by kernel_rfl) (by kernel_rfl) rfl rfl (fun x => ?h62x5) ?n62x5
    case h62x5 => (go_simp; try with_reducible rfl)
    try simp only [Act.put, List.setIfInBounds_toArray, List.set_cons_zero, List.set_cons_succ]
    refine RG_take (i := 5) (v := ?v62x6) (some 17) #[true, true, true, true, true, true, false, false] rfl rfl (by kernel_rfl) (by kernel_rfl) (by kernel_rfl) rfl rfl (fun x => ?h62x6) ?n62x6
    case h62x6 => (go_simp; try with_reducible rfl)
    try simp only [Act.put, List.setIfInBounds_toArray, List.set_cons_zero, List.set_cons_succ]
    refine RG_one (i := 6) #[true, true, true, true, true, true, true, false] rfl (by kernel_rfl) rfl rfl (fun K hK => ?_)
    go_wp2_with fail
    refine RG_keep hK (by first | exact hacc | exact ((Below.refl _ _).alloc (Nat.le_refl _) _).drew | exact (hacc.setCell (by first | omega | (simp; done) | (simp; omega)) _).setCell (by first | omega | (simp; done) | (simp; omega)) _) (fun hacc => ?_)
    clear hK K
    try simp only [Act.put, List.setIfInBounds_toArray, List.set_cons_zero, List.set_cons_succ]
    refine RG_take (i := 7) (v := ?v62x7) (some 3) #[true, true, true, true, true, true, true, true] rfl rfl (by kernel_rfl) (by kernel_rfl) (by kernel_rfl) rfl rfl (fun x => ?h62x7) ?n62x7
    case h62x7 => (go_simp; try with_reducible rfl)
    try simp only [Act.put, List.setIfInBounds_toArray, List.set_cons_zero, List.set_cons_succ]
    refine RG_done (by kernel_rfl) ?_
    refine hR _ _ ?_
    clear hR R
    go_wp2
    refine bodyPost_ret (v := .tuple #[.agg #[.int .i32 (l), .int .i32 (h')], .bool (decide (l ≤ h'))]) (by simp [results, Tryd.results154, go_sem, hk2]) rfl ⟨?_, ?_⟩
    · rw [show max l 0 = l by omega, show min h' 1114111 = h' by omega]
    · have := HK.out
      exact HB.out.trans (hacc.mono (by omega))
end Go.Proofs.YtendkmldecoogaaDoor.SpCut
