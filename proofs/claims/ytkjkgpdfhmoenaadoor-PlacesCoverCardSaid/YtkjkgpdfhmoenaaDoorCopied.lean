/-
  slices.Clone. model.copied: the same data in new memory.
-/
import Derived.Test.YtkjkgpdfhmoenaaDoorDt
import Derived.Laws.AppendOwn
import Derived.Lib.SliceRun
import Derived.Test.YtkjkgpdfhmoenaaDoorMap
import Derived.Test.YtkjkgpdfhmoenaaDoorSpLists
namespace Go.Proofs.YtkjkgpdfhmoenaaDoor.Clone
open Go Go.RowKit Go.Proofs.YtkjkgpdfhmoenaaDoor.Kit Go.Proofs.YtkjkgpdfhmoenaaDoor.SpFns Go.Proofs.YtkjkgpdfhmoenaaDoor.Dt
attribute [local irreducible] wpQuiet

theorem flat_len {α : Type} (f : Nat → List α) {n : Nat} (h : ∀ i, (f i).length = n) : ∀ len, ((List.range len).flatMap f).length = len * n
  | 0 => by simp
  | len + 1 => by rw [List.range_succ, List.flatMap_append, List.length_append, flat_len f h len]; simp [h, Nat.add_mul]
theorem flat_get {α : Type} (f : Nat → List α) {n : Nat} (h : ∀ i, (f i).length = n) : ∀ len i j, i < len → j < n → ((List.range len).flatMap f)[i * n + j]? = (f i)[j]?
  | 0, i, j, hi, _ => by omega
  | len + 1, i, j, hi, hj => by
    rw [List.range_succ, List.flatMap_append]
    have hl := flat_len f h len
    rcases Nat.lt_or_ge i len with h1 | h1
    · have h2 : i * n + j < len * n := by
        have : (i + 1) * n ≤ len * n := Nat.mul_le_mul_right n h1
        rw [Nat.add_mul] at this
        omega
      rw [List.getElem?_append_left (by rw [hl]; exact h2), flat_get f h len i j h1 hj]
    · have h3 : i = len := by omega
      subst h3
      rw [List.getElem?_append_right (by rw [hl]; omega), hl]
      simp
theorem flat_at {α : Type} (f : Nat → List α) {n : Nat} (hn : 0 < n) (h : ∀ i, (f i).length = n) {len k : Nat} {u : α} (hu : ((List.range len).flatMap f)[k]? = some u) : k / n < len ∧ (f (k / n))[k % n]? = some u := by
  have hk : k < len * n := by
    have := (List.getElem?_eq_some_iff.1 hu).1
    rwa [flat_len f h] at this
  have h1 : k / n < len := (Nat.div_lt_iff_lt_mul hn).2 hk
  refine ⟨h1, ?_⟩
  rw [← flat_get f h len (k / n) (k % n) h1 (Nat.mod_lt _ hn), Nat.mul_comm, Nat.div_add_mod]
  exact hu
theorem add_block (a : Addr) (j : Nat) : (a.add j).block = a.block := by unfold Addr.add; split <;> rfl
theorem own_none {w : World} {e : TypeId} {sz : Nat} : (w.alloc (.cells #[] e)).ownsRow w.heap.size e sz (.slice (some ⟨w.heap.size, 0, none⟩) 0 0) 0 [] := World.ownsRow_made w #[] 0 (Nat.le_refl _) (Nat.zero_le _) (by simp)

theorem infoS : (Tryd.prog.info? 129).map (fun i => (i.zero, i.size, i.bytes)) = some (some (.agg #[.int .i32 0, .int .i32 0]), 2, 8) := by kernel_rfl

def ClonedS (w : World) (len : Nat) (L H : Nat → Int) (x : Ending) (w' : World) : Prop :=
  ∃ a' cap', x = .returned (.slice a' len cap') ∧ len ≤ cap' ∧ Row w' a' len L H ∧ (∀ y, a' = some y → w.heap.size ≤ y.block ∧ y.block < w'.heap.size) ∧ Below w.heap.size w w'

set_option maxHeartbeats 1000000 in
set_option maxRecDepth 100000 in
theorem CloneS (a : Option Addr) (len cap : Nat) (L H : Nat → Int) (w : World) (h : Row w a len L H) (hl : len * 8 ≤ 140737488355328) :
    Calls Tryd.prog 82 #[.slice a len cap] w (ClonedS w len L H) := by
  cases a with
  | none =>
    have h0 : len = 0 := by
      rcases h with h | ⟨_, _, h, _⟩
      · exact h
      · cases h
    subst h0
    have hnl := fun (w : World) (n c : Nat) => Lib.run_eql_slice_nil (P := Tryd.prog) w 24 129 none n c 0 0 Tryd.underlying24
    simp only [Option.isNone_none] at hnl
    go_enter Tryd.func82, Tryd.ntmps82
    go_wp2
    go_ret
    exact ⟨none, 0, rfl, Nat.le_refl _, .inl rfl, (fun y hy => by cases hy), Below.refl _ _⟩
  | some ad =>
    have hn : ∀ j u, ((List.range len).flatMap (fun i => [.int .i32 (L i), .int .i32 (H i)] : Nat → List Value))[j]? = some u → w.cell? (ad.add j) = some u ∧ ad.block < w.heap.size ∧ ad.spot = none := by
      intro j u hu
      obtain ⟨h1, h2⟩ := flat_at (fun i => [.int .i32 (L i), .int .i32 (H i)] : Nat → List Value) (n := 2) (by decide) (fun i => rfl) hu
      rcases h with h | ⟨b, off, hb, hlt, hc⟩
      · omega
      · cases hb
        have hcc := hc _ h1
        have hj : j = j / 2 * 2 + j % 2 := by omega
        refine ⟨?_, hlt, rfl⟩
        rw [add_plain, hj]
        have hm : j % 2 = 0 ∨ j % 2 = 1 := by omega
        rcases hm with hm | hm
        · rw [hm] at h2 ⊢; simp only [List.getElem?_cons_zero, Option.some.injEq] at h2; rw [← h2]; exact hcc.1
        · rw [hm] at h2 ⊢; simp only [List.getElem?_cons_zero, List.getElem?_cons_succ, Option.some.injEq] at h2; rw [← h2]; exact hcc.2
    have hs : ∀ u ∈ (List.range len).flatMap (fun i => [.int .i32 (L i), .int .i32 (H i)] : Nat → List Value), u.oneCell' = true := by
      intro u hu
      obtain ⟨i, _, hi⟩ := List.mem_flatMap.1 hu
      simp only [List.mem_cons, List.not_mem_nil, or_false] at hi
      rcases hi with rfl | rfl <;> rfl
    have HN := Lib.hid (fun j u (hu : ((List.range len).flatMap (fun i => [.int .i32 (L i), .int .i32 (H i)] : Nat → List Value))[j]? = some u) => (by
      obtain ⟨h1, h2, h3⟩ := hn j u hu
      rw [(((Below.refl w.heap.size w).alloc (Nat.le_refl _) (.cells #[] 129)).cell (p := ad.add j) (by rw [add_block]; exact h2))]
      exact h1 : (w.alloc (.cells #[] 129)).cell? (ad.add j) = some u))
    have hlen := flat_len (fun i => [.int .i32 (L i), .int .i32 (H i)] : Nat → List Value) (n := 2) (fun i => rfl) len
    have HLEN := Lib.hid hlen
    have HSS := Lib.hid hs
    obtain ⟨i0, hi, hz0, hz1, hz2⟩ := info_parts infoS
    clear h hn hs hlen
    have hnl := fun (w : World) (n c : Nat) => Lib.run_eql_slice_nil (P := Tryd.prog) w 24 129 (some ad) n c 0 0 Tryd.underlying24
    simp only [Option.isNone_some] at hnl
    go_enter Tryd.func82, Tryd.ntmps82
    go_wp2_with (at_builtin; refine wpList_append_own _ rfl _ _ 24 rfl w.heap.size 129 i0 (.agg #[.int .i32 0, .int .i32 0]) 2 8 Tryd.underlying24 hi hz0 hz1 hz2 rfl (by decide) _ _ _ rfl own_none ad len cap ((List.range len).flatMap (fun i => [.int .i32 (L i), .int .i32 (H i)] : Nat → List Value)) rfl HLEN.out HN.out HSS.out (by unfold maxLen; omega) (by omega) (by simp) ?_; intro v' w1 hown' hgrow hnil)
    have hown := hown'
    simp only [Nat.zero_add, List.nil_append] at hown
    have hB : Below w.heap.size w w1 := by
      have h1 : Below w.heap.size w (w.alloc (.cells #[] 129)) := (Below.refl _ _).alloc (Nat.le_refl _) _
      refine ⟨hgrow.os.trans h1.os, hgrow.tape.trans h1.tape, hgrow.output.trans h1.output, Nat.le_trans h1.size hgrow.size, fun i hi => ?_⟩
      rw [hgrow.block i (Nat.lt_of_lt_of_le hi h1.size) (fun e => by simp [Value.ownBlock, Act.eval] at e; omega), h1.block i hi]
    have HOWN := Lib.hid hown
    have HB := Lib.hid hB
    clear hown hown' hgrow hnil hB
    go_ret
    obtain ⟨h1, h2⟩ := HOWN.out
    rcases h2 with ⟨rfl, rfl⟩ | ⟨g, cp, cur, rfl, hb, hg, hn2, hm, hsz, htake⟩
    · exact ⟨none, 0, rfl, Nat.le_refl _, .inl rfl, (fun y hy => by cases hy), HB.out⟩
    · refine ⟨some ⟨g, 0, none⟩, cp, rfl, hn2, .inr ⟨g, 0, rfl, lt_of_heap hg, fun i hi2 => ?_⟩, (fun y hy => by cases hy; exact ⟨hb, lt_of_heap hg⟩), HB.out⟩
      have hc := HOWN.out.cells (g := g) rfl
      simp only [add_plain, Nat.zero_add] at hc ⊢
      exact ⟨hc (i * 2) _ (by have := flat_get (fun i => [.int .i32 (L i), .int .i32 (H i)] : Nat → List Value) (n := 2) (fun i => rfl) len i 0 hi2 (by decide); simpa using this), hc (i * 2 + 1) _ (by have := flat_get (fun i => [.int .i32 (L i), .int .i32 (H i)] : Nat → List Value) (n := 2) (fun i => rfl) len i 1 hi2 (by decide); simpa using this)⟩

theorem infoW : (Tryd.prog.info? 9).map (fun i => (i.zero, i.size, i.bytes)) = some (some (.string ByteArray.empty), 1, 16) := by kernel_rfl

def ClonedW (w : World) (len : Nat) (W : Nat → ByteArray) (x : Ending) (w' : World) : Prop :=
  ∃ a' cap', x = .returned (.slice a' len cap') ∧ len ≤ cap' ∧ WRow w' a' len W ∧ (∀ y, a' = some y → w.heap.size ≤ y.block ∧ y.block < w'.heap.size) ∧ Below w.heap.size w w'

set_option maxHeartbeats 1000000 in
set_option maxRecDepth 100000 in
theorem CloneW (a : Option Addr) (len cap : Nat) (W : Nat → ByteArray) (w : World) (h : WRow w a len W) (hl : len * 16 ≤ 140737488355328) :
    Calls Tryd.prog 86 #[.slice a len cap] w (ClonedW w len W) := by
  cases a with
  | none =>
    have h0 : len = 0 := by
      rcases h with h | ⟨_, _, h, _⟩
      · exact h
      · cases h
    subst h0
    have hnl := fun (w : World) (n c : Nat) => Lib.run_eql_slice_nil (P := Tryd.prog) w 22 9 none n c 0 0 Tryd.underlying22
    simp only [Option.isNone_none] at hnl
    go_enter Tryd.func86, Tryd.ntmps86
    go_wp2
    go_ret
    exact ⟨none, 0, rfl, Nat.le_refl _, .inl rfl, (fun y hy => by cases hy), Below.refl _ _⟩
  | some ad =>
    have hn : ∀ j u, ((List.range len).flatMap (fun i => [.string (W i)] : Nat → List Value))[j]? = some u → w.cell? (ad.add j) = some u ∧ ad.block < w.heap.size ∧ ad.spot = none := by
      intro j u hu
      obtain ⟨h1, h2⟩ := flat_at (fun i => [.string (W i)] : Nat → List Value) (n := 1) (by decide) (fun i => rfl) hu
      rcases h with h | ⟨b, off, hb, hlt, hc⟩
      · omega
      · cases hb
        have hcc := hc _ h1
        have hj : j = j / 1 * 1 + j % 1 := by omega
        refine ⟨?_, hlt, rfl⟩
        rw [add_plain, hj]
        simp only [Nat.mod_one, Nat.div_one, List.getElem?_cons_zero, Option.some.injEq] at h2 hcc ⊢
        rw [← h2]
        simpa using hcc
    have hs : ∀ u ∈ (List.range len).flatMap (fun i => [.string (W i)] : Nat → List Value), u.oneCell' = true := by
      intro u hu
      obtain ⟨i, _, hi⟩ := List.mem_flatMap.1 hu
      simp only [List.mem_cons, List.not_mem_nil, or_false] at hi
      rcases hi with rfl <;> rfl
    have HN := Lib.hid (fun j u (hu : ((List.range len).flatMap (fun i => [.string (W i)] : Nat → List Value))[j]? = some u) => (by
      obtain ⟨h1, h2, h3⟩ := hn j u hu
      rw [(((Below.refl w.heap.size w).alloc (Nat.le_refl _) (.cells #[] 9)).cell (p := ad.add j) (by rw [add_block]; exact h2))]
      exact h1 : (w.alloc (.cells #[] 9)).cell? (ad.add j) = some u))
    have hlen := flat_len (fun i => [.string (W i)] : Nat → List Value) (n := 1) (fun i => rfl) len
    have HLEN := Lib.hid hlen
    have HSS := Lib.hid hs
    obtain ⟨i0, hi, hz0, hz1, hz2⟩ := info_parts infoW
    clear h hn hs hlen
    have hnl := fun (w : World) (n c : Nat) => Lib.run_eql_slice_nil (P := Tryd.prog) w 22 9 (some ad) n c 0 0 Tryd.underlying22
    simp only [Option.isNone_some] at hnl
    go_enter Tryd.func86, Tryd.ntmps86
    go_wp2_with (at_builtin; refine wpList_append_own _ rfl _ _ 22 rfl w.heap.size 9 i0 (.string ByteArray.empty) 1 16 Tryd.underlying22 hi hz0 hz1 hz2 rfl (by decide) _ _ _ rfl own_none ad len cap ((List.range len).flatMap (fun i => [.string (W i)] : Nat → List Value)) rfl HLEN.out HN.out HSS.out (by unfold maxLen; omega) (by omega) (by simp) ?_; intro v' w1 hown' hgrow hnil)
    have hown := hown'
    simp only [Nat.zero_add, List.nil_append] at hown
    have hB : Below w.heap.size w w1 := by
      have h1 : Below w.heap.size w (w.alloc (.cells #[] 9)) := (Below.refl _ _).alloc (Nat.le_refl _) _
      refine ⟨hgrow.os.trans h1.os, hgrow.tape.trans h1.tape, hgrow.output.trans h1.output, Nat.le_trans h1.size hgrow.size, fun i hi => ?_⟩
      rw [hgrow.block i (Nat.lt_of_lt_of_le hi h1.size) (fun e => by simp [Value.ownBlock, Act.eval] at e; omega), h1.block i hi]
    have HOWN := Lib.hid hown
    have HB := Lib.hid hB
    clear hown hown' hgrow hnil hB
    go_ret
    obtain ⟨h1, h2⟩ := HOWN.out
    rcases h2 with ⟨rfl, rfl⟩ | ⟨g, cp, cur, rfl, hb, hg, hn2, hm, hsz, htake⟩
    · exact ⟨none, 0, rfl, Nat.le_refl _, .inl rfl, (fun y hy => by cases hy), HB.out⟩
    · refine ⟨some ⟨g, 0, none⟩, cp, rfl, hn2, .inr ⟨g, 0, rfl, lt_of_heap hg, fun i hi2 => ?_⟩, (fun y hy => by cases hy; exact ⟨hb, lt_of_heap hg⟩), HB.out⟩
      have hc := HOWN.out.cells (g := g) rfl
      simp only [add_plain, Nat.zero_add] at hc ⊢
      exact hc i _ (by have := flat_get (fun i => [.string (W i)] : Nat → List Value) (n := 1) (fun i => rfl) len i 0 hi2 (by decide); simpa using this)

theorem infoM : (Tryd.prog.info? 127).map (fun i => (i.zero, i.size, i.bytes)) = some (some (.agg #[.int .i64 0, .int .i64 0, .int .i64 0]), 3, 24) := by kernel_rfl

def ClonedM (w : World) (len : Nat) (A B I : Nat → Int) (x : Ending) (w' : World) : Prop :=
  ∃ a' cap', x = .returned (.slice a' len cap') ∧ len ≤ cap' ∧ MRow w' a' len A B I ∧ (∀ y, a' = some y → w.heap.size ≤ y.block ∧ y.block < w'.heap.size) ∧ Below w.heap.size w w'

set_option maxHeartbeats 1000000 in
set_option maxRecDepth 100000 in
theorem CloneM (a : Option Addr) (len cap : Nat) (A B I : Nat → Int) (w : World) (h : MRow w a len A B I) (hl : len * 24 ≤ 140737488355328) :
    Calls Tryd.prog 87 #[.slice a len cap] w (ClonedM w len A B I) := by
  cases a with
  | none =>
    have h0 : len = 0 := by
      rcases h with h | ⟨_, _, h, _⟩
      · exact h
      · cases h
    subst h0
    have hnl := fun (w : World) (n c : Nat) => Lib.run_eql_slice_nil (P := Tryd.prog) w 23 127 none n c 0 0 Tryd.underlying23
    simp only [Option.isNone_none] at hnl
    go_enter Tryd.func87, Tryd.ntmps87
    go_wp2
    go_ret
    exact ⟨none, 0, rfl, Nat.le_refl _, .inl rfl, (fun y hy => by cases hy), Below.refl _ _⟩
  | some ad =>
    have hn : ∀ j u, ((List.range len).flatMap (fun i => [.int .i64 (A i), .int .i64 (B i), .int .i64 (I i)] : Nat → List Value))[j]? = some u → w.cell? (ad.add j) = some u ∧ ad.block < w.heap.size ∧ ad.spot = none := by
      intro j u hu
      obtain ⟨h1, h2⟩ := flat_at (fun i => [.int .i64 (A i), .int .i64 (B i), .int .i64 (I i)] : Nat → List Value) (n := 3) (by decide) (fun i => rfl) hu
      rcases h with h | ⟨b, off, hb, hlt, hc⟩
      · omega
      · cases hb
        have hcc := hc _ h1
        have hj : j = j / 3 * 3 + j % 3 := by omega
        refine ⟨?_, hlt, rfl⟩
        rw [add_plain, hj]
        have hm : j % 3 = 0 ∨ j % 3 = 1 ∨ j % 3 = 2 := by omega
        rcases hm with hm | hm | hm
        · rw [hm] at h2 ⊢; simp only [List.getElem?_cons_zero, Option.some.injEq] at h2; rw [← h2]; exact hcc.1
        · rw [hm] at h2 ⊢; simp only [List.getElem?_cons_zero, List.getElem?_cons_succ, Option.some.injEq] at h2; rw [← h2]; exact hcc.2.1
        · rw [hm] at h2 ⊢; simp only [List.getElem?_cons_zero, List.getElem?_cons_succ, Option.some.injEq] at h2; rw [← h2]; exact hcc.2.2
    have hs : ∀ u ∈ (List.range len).flatMap (fun i => [.int .i64 (A i), .int .i64 (B i), .int .i64 (I i)] : Nat → List Value), u.oneCell' = true := by
      intro u hu
      obtain ⟨i, _, hi⟩ := List.mem_flatMap.1 hu
      simp only [List.mem_cons, List.not_mem_nil, or_false] at hi
      rcases hi with rfl | rfl | rfl <;> rfl
    have HN := Lib.hid (fun j u (hu : ((List.range len).flatMap (fun i => [.int .i64 (A i), .int .i64 (B i), .int .i64 (I i)] : Nat → List Value))[j]? = some u) => (by
      obtain ⟨h1, h2, h3⟩ := hn j u hu
      rw [(((Below.refl w.heap.size w).alloc (Nat.le_refl _) (.cells #[] 127)).cell (p := ad.add j) (by rw [add_block]; exact h2))]
      exact h1 : (w.alloc (.cells #[] 127)).cell? (ad.add j) = some u))
    have hlen := flat_len (fun i => [.int .i64 (A i), .int .i64 (B i), .int .i64 (I i)] : Nat → List Value) (n := 3) (fun i => rfl) len
    have HLEN := Lib.hid hlen
    have HSS := Lib.hid hs
    obtain ⟨i0, hi, hz0, hz1, hz2⟩ := info_parts infoM
    clear h hn hs hlen
    have hnl := fun (w : World) (n c : Nat) => Lib.run_eql_slice_nil (P := Tryd.prog) w 23 127 (some ad) n c 0 0 Tryd.underlying23
    simp only [Option.isNone_some] at hnl
    go_enter Tryd.func87, Tryd.ntmps87
    go_wp2_with (at_builtin; refine wpList_append_own _ rfl _ _ 23 rfl w.heap.size 127 i0 (.agg #[.int .i64 0, .int .i64 0, .int .i64 0]) 3 24 Tryd.underlying23 hi hz0 hz1 hz2 rfl (by decide) _ _ _ rfl own_none ad len cap ((List.range len).flatMap (fun i => [.int .i64 (A i), .int .i64 (B i), .int .i64 (I i)] : Nat → List Value)) rfl HLEN.out HN.out HSS.out (by unfold maxLen; omega) (by omega) (by simp) ?_; intro v' w1 hown' hgrow hnil)
    have hown := hown'
    simp only [Nat.zero_add, List.nil_append] at hown
    have hB : Below w.heap.size w w1 := by
      have h1 : Below w.heap.size w (w.alloc (.cells #[] 127)) := (Below.refl _ _).alloc (Nat.le_refl _) _
      refine ⟨hgrow.os.trans h1.os, hgrow.tape.trans h1.tape, hgrow.output.trans h1.output, Nat.le_trans h1.size hgrow.size, fun i hi => ?_⟩
      rw [hgrow.block i (Nat.lt_of_lt_of_le hi h1.size) (fun e => by simp [Value.ownBlock, Act.eval] at e; omega), h1.block i hi]
    have HOWN := Lib.hid hown
    have HB := Lib.hid hB
    clear hown hown' hgrow hnil hB
    go_ret
    obtain ⟨h1, h2⟩ := HOWN.out
    rcases h2 with ⟨rfl, rfl⟩ | ⟨g, cp, cur, rfl, hb, hg, hn2, hm, hsz, htake⟩
    · exact ⟨none, 0, rfl, Nat.le_refl _, .inl rfl, (fun y hy => by cases hy), HB.out⟩
    · refine ⟨some ⟨g, 0, none⟩, cp, rfl, hn2, .inr ⟨g, 0, rfl, lt_of_heap hg, fun i hi2 => ?_⟩, (fun y hy => by cases hy; exact ⟨hb, lt_of_heap hg⟩), HB.out⟩
      have hc := HOWN.out.cells (g := g) rfl
      simp only [add_plain, Nat.zero_add] at hc ⊢
      exact ⟨hc (i * 3) _ (by have := flat_get (fun i => [.int .i64 (A i), .int .i64 (B i), .int .i64 (I i)] : Nat → List Value) (n := 3) (fun i => rfl) len i 0 hi2 (by decide); simpa using this), hc (i * 3 + 1) _ (by have := flat_get (fun i => [.int .i64 (A i), .int .i64 (B i), .int .i64 (I i)] : Nat → List Value) (n := 3) (fun i => rfl) len i 1 hi2 (by decide); simpa using this), hc (i * 3 + 2) _ (by have := flat_get (fun i => [.int .i64 (A i), .int .i64 (B i), .int .i64 (I i)] : Nat → List Value) (n := 3) (fun i => rfl) len i 2 hi2 (by decide); simpa using this)⟩
end Go.Proofs.YtkjkgpdfhmoenaaDoor.Clone
namespace Go.Proofs.YtkjkgpdfhmoenaaDoor.Copied
open Go Go.RowKit Go.Proofs.YtkjkgpdfhmoenaaDoor.Kit Go.Proofs.YtkjkgpdfhmoenaaDoor.SpFns Go.Proofs.YtkjkgpdfhmoenaaDoor.Dt Go.Proofs.YtkjkgpdfhmoenaaDoor.Clone Go.Proofs.YtkjkgpdfhmoenaaDoor.AnyOrd
attribute [local irreducible] wpQuiet

def Copied (D : Dt) (w : World) (x : Ending) (w' : World) : Prop :=
  ∃ q : Pl, x = .returned (.agg #[.slice q.a0 D.nw q.c0, .slice q.a1 D.nm q.c1, .slice q.a2 D.n0 q.c2, .slice q.a3 D.n1 q.c3, .slice q.a4 D.n2 q.c4]) ∧ At w' D q ∧ (∀ b, q.has b → w.heap.size ≤ b ∧ b < w'.heap.size) ∧ Below w.heap.size w w'

def GotW (D : Dt) (z : Nat) (v : Value) (w : World) : Prop := ∃ a c, v = .slice a D.nw c ∧ D.nw ≤ c ∧ WRow w a D.nw D.W ∧ ∀ y, a = some y → z ≤ y.block ∧ y.block < w.heap.size
def GotM (D : Dt) (z : Nat) (v : Value) (w : World) : Prop := ∃ a c, v = .slice a D.nm c ∧ D.nm ≤ c ∧ MRow w a D.nm D.A D.B D.I ∧ ∀ y, a = some y → z ≤ y.block ∧ y.block < w.heap.size
def GotS (n : Nat) (L H : Nat → Int) (z : Nat) (v : Value) (w : World) : Prop := ∃ a c, v = .slice a n c ∧ n ≤ c ∧ Row w a n L H ∧ ∀ y, a = some y → z ≤ y.block ∧ y.block < w.heap.size

theorem GotW.below {D : Dt} {z : Nat} {v : Value} {w w' : World} (h : GotW D z v w) (hb : Below w.heap.size w w') : GotW D z v w' := by
  obtain ⟨a, c, h1, h2, h3, h4⟩ := h
  exact ⟨a, c, h1, h2, h3.keep hb.size (fun _ _ hx => hb.block _ hx), fun y hy => ⟨(h4 y hy).1, Nat.lt_of_lt_of_le (h4 y hy).2 hb.size⟩⟩
theorem GotM.below {D : Dt} {z : Nat} {v : Value} {w w' : World} (h : GotM D z v w) (hb : Below w.heap.size w w') : GotM D z v w' := by
  obtain ⟨a, c, h1, h2, h3, h4⟩ := h
  exact ⟨a, c, h1, h2, h3.keep hb.size (fun _ _ hx => hb.block _ hx), fun y hy => ⟨(h4 y hy).1, Nat.lt_of_lt_of_le (h4 y hy).2 hb.size⟩⟩
theorem GotS.below {n : Nat} {L H : Nat → Int} {z : Nat} {v : Value} {w w' : World} (h : GotS n L H z v w) (hb : Below w.heap.size w w') : GotS n L H z v w' := by
  obtain ⟨a, c, h1, h2, h3, h4⟩ := h
  exact ⟨a, c, h1, h2, SRow.keep h3 hb.size (fun _ _ hx => hb.block _ hx), fun y hy => ⟨(h4 y hy).1, Nat.lt_of_lt_of_le (h4 y hy).2 hb.size⟩⟩

theorem set1 (w : World) (b o : Nat) (v : Value) : Upd (fun i => i = b) w (w.setCell ⟨b, o, none⟩ v) := Upd.setCell (S := fun i => i = b) (p := ⟨b, o, none⟩) (Upd.refl _ w) (fun _ => rfl) v
theorem set5 (w : World) (b : Nat) (v0 v1 v2 v3 v4 : Value) : Upd (fun i => i = b) w (((((w.setCell ⟨b, 0, none⟩ v0).setCell ⟨b, 1, none⟩ v1).setCell ⟨b, 2, none⟩ v2).setCell ⟨b, 3, none⟩ v3).setCell ⟨b, 4, none⟩ v4) :=
  ((((set1 _ _ _ _).trans (set1 _ _ _ _)).trans (set1 _ _ _ _)).trans (set1 _ _ _ _)).trans (set1 _ _ _ _)

theorem name_ops {P : Program} {ops : Array Oper} {R : Act → World → Prop} {B : World} {n : Nat} {l : Array Bool} {a : Act} {w : World} (h : ∀ ops', ops' = ops → RG P ops' R B n l a w) : RG P ops R B n l a w := h ops rfl

set_option maxHeartbeats 1000000 in
set_option maxRecDepth 100000 in
theorem copied_calls (D : Dt) (p : Pl) (w : World) (h : At w D p) (hw : D.nw ≤ 4096) (hm : D.nm ≤ 4096) :
    Calls Tryd.prog 66 #[.agg #[.slice p.a0 D.nw p.c0, .slice p.a1 D.nm p.c1, .slice p.a2 D.n0 p.c2, .slice p.a3 D.n1 p.c3, .slice p.a4 D.n2 p.c4]] w (Copied D w) := by
  have HA := Lib.hid h
  have HW := Lib.hid hw
  have HM := Lib.hid hm
  clear h hw hm
  obtain ⟨W1, hW1⟩ : ∃ W1, w.alloc (.cells #[.slice p.a0 D.nw p.c0, .slice p.a1 D.nm p.c1, .slice p.a2 D.n0 p.c2, .slice p.a3 D.n1 p.c3, .slice p.a4 D.n2 p.c4] 26) = W1 := ⟨_, rfl⟩
  obtain ⟨W2, hW2⟩ : ∃ W2, W1.alloc (.cells #[.slice none 0 0, .slice none 0 0, .slice none 0 0, .slice none 0 0, .slice none 0 0] 26) = W2 := ⟨_, rfl⟩
  obtain ⟨b1, hb1⟩ : ∃ b1, w.heap.size = b1 := ⟨_, rfl⟩
  obtain ⟨b2, hb2⟩ : ∃ b2, W1.heap.size = b2 := ⟨_, rfl⟩
  have hB1 : Below w.heap.size w W1 := by rw [← hW1]; exact (Below.refl _ _).alloc (Nat.le_refl _) _
  have hB2 : Below W1.heap.size W1 W2 := by rw [← hW2]; exact (Below.refl _ _).alloc (Nat.le_refl _) _
  have h1 : W1.heap[b1]? = some (.cells #[.slice p.a0 D.nw p.c0, .slice p.a1 D.nm p.c1, .slice p.a2 D.n0 p.c2, .slice p.a3 D.n1 p.c3, .slice p.a4 D.n2 p.c4] 26 (0, 0)) := by rw [← hW1, ← hb1]; exact alloc_new rfl
  have h2 : W2.heap[b2]? = some (.cells #[.slice none 0 0, .slice none 0 0, .slice none 0 0, .slice none 0 0, .slice none 0 0] 26 (0, 0)) := by rw [← hW2, ← hb2]; exact alloc_new rfl
  have h12 : b1 < b2 := by rw [← hb2]; exact lt_of_heap h1
  have HX1 := Lib.hid h1
  have HB12 := Lib.hid hB2
  have HX2 := Lib.hid h2
  have HB := Lib.hid hB1
  have HA2 := Lib.hid (HA.out.below hB1)
  have hwb : w.heap.size ≤ b1 := by omega
  have HWB := Lib.hid hwb
  have c0 := cell_at HX1.out 0
  have c1 := cell_at HX1.out 1
  have c2 := cell_at HX1.out 2
  have c3 := cell_at HX1.out 3
  have c4 := cell_at HX1.out 4
  simp only [List.getElem?_toArray, List.getElem?_cons_zero, List.getElem?_cons_succ] at c0 c1 c2 c3 c4
  have z1 := lt_of_heap HX1.out
  have z2 := lt_of_heap HX2.out
  clear hB1 hB2 h1 h2 hwb
  go_enter Tryd.func66, Tryd.ntmps66
  go_wp2_with fail
  clear hW1 hW2 hb1
  have HW1B := Lib.hid hb2
  clear hb2
  refine SpCut.RG_begin_at (B := W1) 17 #[false, false, false, false, false, false, false, false, false, false, false, false, false, false, false, false, false] rfl rfl (by kernel_rfl) HB12.out (fun R hR hacc => ?_)
  refine RG_take (i := 0) (v := ?v0) (some 3) #[true, false, false, false, false, false, false, false, false, false, false, false, false, false, false, false, false] rfl rfl (by kernel_rfl) (by kernel_rfl) (by kernel_rfl) rfl rfl (fun x => ?h0) ?n0
  case h0 => (go_simp; try with_reducible rfl)
  try simp only [Act.put, List.setIfInBounds_toArray, List.set_cons_zero, List.set_cons_succ]
  refine RG_take (i := 1) (v := ?v1) (some 4) #[true, true, false, false, false, false, false, false, false, false, false, false, false, false, false, false, false] rfl rfl (by kernel_rfl) (by kernel_rfl) (by kernel_rfl) rfl rfl (fun x => ?h1) ?n1
  case h1 => (go_simp; try with_reducible rfl)
  try simp only [Act.put, List.setIfInBounds_toArray, List.set_cons_zero, List.set_cons_succ]
  refine RG_take (i := 3) (v := ?v3) (some 6) #[true, true, false, true, false, false, false, false, false, false, false, false, false, false, false, false, false] rfl rfl (by kernel_rfl) (by kernel_rfl) (by kernel_rfl) rfl rfl (fun x => ?h3) ?n3
  case h3 => (go_simp; try with_reducible rfl)
  try simp only [Act.put, List.setIfInBounds_toArray, List.set_cons_zero, List.set_cons_succ]
  refine RG_take (i := 4) (v := ?v4) (some 7) #[true, true, false, true, true, false, false, false, false, false, false, false, false, false, false, false, false] rfl rfl (by kernel_rfl) (by kernel_rfl) (by kernel_rfl) rfl rfl (fun x => ?h4) ?n4
  case h4 => (go_simp; try with_reducible rfl)
  try simp only [Act.put, List.setIfInBounds_toArray, List.set_cons_zero, List.set_cons_succ]
  refine RG_take (i := 6) (v := ?v6) (some 9) #[true, true, false, true, true, false, true, false, false, false, false, false, false, false, false, false, false] rfl rfl (by kernel_rfl) (by kernel_rfl) (by kernel_rfl) rfl rfl (fun x => ?h6) ?n6
  case h6 => (go_simp; try with_reducible rfl)
  try simp only [Act.put, List.setIfInBounds_toArray, List.set_cons_zero, List.set_cons_succ]
  refine RG_take (i := 7) (v := ?v7) (some 10) #[true, true, false, true, true, false, true, true, false, false, false, false, false, false, false, false, false] rfl rfl (by kernel_rfl) (by kernel_rfl) (by kernel_rfl) rfl rfl (fun x => ?h7) ?n7
  case h7 => (go_simp; try with_reducible rfl)
  try simp only [Act.put, List.setIfInBounds_toArray, List.set_cons_zero, List.set_cons_succ]
  refine RG_take (i := 9) (v := ?v9) (some 12) #[true, true, false, true, true, false, true, true, false, true, false, false, false, false, false, false, false] rfl rfl (by kernel_rfl) (by kernel_rfl) (by kernel_rfl) rfl rfl (fun x => ?h9) ?n9
  case h9 => (go_simp; try with_reducible rfl)
  try simp only [Act.put, List.setIfInBounds_toArray, List.set_cons_zero, List.set_cons_succ]
  refine RG_take (i := 10) (v := ?v10) (some 13) #[true, true, false, true, true, false, true, true, false, true, true, false, false, false, false, false, false] rfl rfl (by kernel_rfl) (by kernel_rfl) (by kernel_rfl) rfl rfl (fun x => ?h10) ?n10
  case h10 => (go_simp; try with_reducible rfl)
  try simp only [Act.put, List.setIfInBounds_toArray, List.set_cons_zero, List.set_cons_succ]
  refine RG_take (i := 12) (v := ?v12) (some 15) #[true, true, false, true, true, false, true, true, false, true, true, false, true, false, false, false, false] rfl rfl (by kernel_rfl) (by kernel_rfl) (by kernel_rfl) rfl rfl (fun x => ?h12) ?n12
  case h12 => (go_simp; try with_reducible rfl)
  try simp only [Act.put, List.setIfInBounds_toArray, List.set_cons_zero, List.set_cons_succ]
  refine RG_take (i := 13) (v := ?v13) (some 16) #[true, true, false, true, true, false, true, true, false, true, true, false, true, true, false, false, false] rfl rfl (by kernel_rfl) (by kernel_rfl) (by kernel_rfl) rfl rfl (fun x => ?h13) ?n13
  case h13 => (go_simp; try with_reducible rfl)
  try simp only [Act.put, List.setIfInBounds_toArray, List.set_cons_zero, List.set_cons_succ]
  refine name_ops (fun OPS hOPS => ?_)
  have hrb : ∀ b0' b1' b2' b3' b4' : Bool, (b0' && b1' && b2' && b3' && b4') = false → (!(Region.ready .any OPS #[true, true, b0', true, true, b1', true, true, b2', true, true, b3', true, true, b4', false, false]).isEmpty && (Region.ready .any OPS #[true, true, b0', true, true, b1', true, true, b2', true, true, b3', true, true, b4', false, false]).all (fun i => (i == 2 && !b0') || (i == 5 && !b1') || (i == 8 && !b2') || (i == 11 && !b3') || (i == 14 && !b4'))) = true := by
    rw [hOPS]
    intro b0' b1' b2' b3' b4'
    cases b0' <;> cases b1' <;> cases b2' <;> cases b3' <;> cases b4' <;> intro h <;> first | (exact absurd h (by decide)) | (kernel_rfl)
  have hrd : ∀ b0' b1' b2' b3' b4' : Bool, (b0' && b1' && b2' && b3' && b4') = false → Region.ready .any OPS #[true, true, b0', true, true, b1', true, true, b2', true, true, b3', true, true, b4', false, false] ≠ [] ∧ ∀ i ∈ Region.ready .any OPS #[true, true, b0', true, true, b1', true, true, b2', true, true, b3', true, true, b4', false, false], (i = 2 ∧ b0' = false) ∨ (i = 5 ∧ b1' = false) ∨ (i = 8 ∧ b2' = false) ∨ (i = 11 ∧ b3' = false) ∨ (i = 14 ∧ b4' = false) := by
    intro b0' b1' b2' b3' b4' h
    have h2 := hrb b0' b1' b2' b3' b4' h
    rw [Bool.and_eq_true] at h2
    refine ⟨fun h3 => by rw [h3] at h2; exact absurd h2.1 (by decide), fun i hi => ?_⟩
    have h4 := List.all_eq_true.1 h2.2 i hi
    simp only [Bool.or_eq_true, Bool.and_eq_true, beq_iff_eq, Bool.not_eq_true'] at h4
    simpa only [or_assoc] using h4
  clear hrb
  have HRD := Lib.hid hrd
  clear hrd
  have HOPS := Lib.hid hOPS
  clear hOPS
  refine RG_inv 2 (fun n listed a w => ∃ (b0' b1' b2' b3' b4' : Bool) (v0 v1 v2 v3 v4 : Value), listed = #[true, true, b0', true, true, b1', true, true, b2', true, true, b3', true, true, b4', false, false] ∧ n = 2 + ((!b0').toNat + (!b1').toNat + (!b2').toNat + (!b3').toNat + (!b4').toNat) ∧ a = { tmps := #[.agg #[.slice p.a0 D.nw p.c0, .slice p.a1 D.nm p.c1, .slice p.a2 D.n0 p.c2, .slice p.a3 D.n1 p.c3, .slice p.a4 D.n2 p.c4], .pointer (some ⟨b1, 0, none⟩), .pointer (some ⟨b2, 0, none⟩), .pointer (some ⟨b1, 0, none⟩), .slice p.a0 D.nw p.c0, v0, .pointer (some ⟨b1, 1, none⟩), .slice p.a1 D.nm p.c1, v1, .pointer (some ⟨b1, 2, none⟩), .slice p.a2 D.n0 p.c2, v2, .pointer (some ⟨b1, 3, none⟩), .slice p.a3 D.n1 p.c3, v3, .pointer (some ⟨b1, 4, none⟩), .slice p.a4 D.n2 p.c4, v4, undef], defers := [] } ∧ (b0' = true → GotW D (b2 + 1) v0 w) ∧ (b1' = true → GotM D (b2 + 1) v1 w) ∧ (b2' = true → GotS D.n0 D.L0 D.H0 (b2 + 1) v2 w) ∧ (b3' = true → GotS D.n1 D.L1 D.H1 (b2 + 1) v3 w) ∧ (b4' = true → GotS D.n2 D.L2 D.H2 (b2 + 1) v4 w) ∧ w.heap[b2]? = some (.cells #[.slice none 0 0, .slice none 0 0, .slice none 0 0, .slice none 0 0, .slice none 0 0] 26 (0, 0))) ?_ ?_ 7 (by decide) _ _ _ ⟨false, false, false, false, false, _, _, _, _, _, rfl, rfl, rfl, (fun h => by cases h), (fun h => by cases h), (fun h => by cases h), (fun h => by cases h), (fun h => by cases h), HX2.out⟩
  · rintro listed a w9 ⟨b0', b1', b2', b3', b4', v0, v1, v2, v3, v4, rfl, hn, rfl, g0, g1, g2, g3, g4, hx2⟩
    have hall : b0' = true ∧ b1' = true ∧ b2' = true ∧ b3' = true ∧ b4' = true := by
      revert hn
      cases b0' <;> cases b1' <;> cases b2' <;> cases b3' <;> cases b4' <;> decide
    obtain ⟨e0, e1, e2, e3, e4⟩ := hall
    rw [e0, e1, e2, e3, e4]
    obtain ⟨a0, k0, rfl, q0, r0, s0⟩ := g0 e0
    obtain ⟨a1, k1, rfl, q1, r1, s1⟩ := g1 e1
    obtain ⟨a2, k2, rfl, q2, r2, s2⟩ := g2 e2
    obtain ⟨a3, k3, rfl, q3, r3, s3⟩ := g3 e3
    obtain ⟨a4, k4, rfl, q4, r4, s4⟩ := g4 e4
    intro hbelow
    have HBW := Lib.hid hbelow
    have HQ := Lib.hid (⟨q0, q1, q2, q3, q4⟩ : D.nw ≤ k0 ∧ D.nm ≤ k1 ∧ D.n0 ≤ k2 ∧ D.n1 ≤ k3 ∧ D.n2 ≤ k4)
    have HR0 := Lib.hid r0
    have HR1 := Lib.hid r1
    have HR2 := Lib.hid r2
    have HR3 := Lib.hid r3
    have HR4 := Lib.hid r4
    have HS := Lib.hid (⟨s0, s1, s2, s3, s4⟩ : (∀ y, a0 = some y → b2 + 1 ≤ y.block ∧ y.block < w9.heap.size) ∧ (∀ y, a1 = some y → b2 + 1 ≤ y.block ∧ y.block < w9.heap.size) ∧ (∀ y, a2 = some y → b2 + 1 ≤ y.block ∧ y.block < w9.heap.size) ∧ (∀ y, a3 = some y → b2 + 1 ≤ y.block ∧ y.block < w9.heap.size) ∧ ∀ y, a4 = some y → b2 + 1 ≤ y.block ∧ y.block < w9.heap.size)
    have HY2 := Lib.hid hx2
    have f0 := free_at hx2 0
    have f1 := free_at hx2 1
    have f2 := free_at hx2 2
    have f3 := free_at hx2 3
    have f4 := free_at hx2 4
    have d0 := cell_at hx2 0
    have d1 := cell_at hx2 1
    have d2 := cell_at hx2 2
    have d3 := cell_at hx2 3
    have d4 := cell_at hx2 4
    simp only [List.getElem?_toArray, List.getElem?_cons_zero, List.getElem?_cons_succ] at d0 d1 d2 d3 d4
    have zz := lt_of_heap hx2
    revert hbelow
    clear hx2 q0 q1 q2 q3 q4 r0 r1 r2 r3 r4 s0 s1 s2 s3 s4 g0 g1 g2 g3 g4 hn c0 c1 c2 c3 c4 e0 e1 e2 e3 e4
    rw [HOPS.out]
    show RG _ _ _ _ _ _ _ _
    refine RG_one (i := 15) #[true, true, true, true, true, true, true, true, true, true, true, true, true, true, true, true, false] rfl (by kernel_rfl) rfl rfl (fun K hK => ?_)
    go_wp2_with fail
    refine RG_keep hK HBW.out (fun hacc2 => ?_)
    clear hK K
    refine RG_one (i := 16) #[true, true, true, true, true, true, true, true, true, true, true, true, true, true, true, true, true] rfl (by kernel_rfl) rfl rfl (fun K hK => ?_)
    go_wp2_with fail
    refine RG_keep hK (by have h3 := HBW.out; have h4 : W1.heap.size ≤ b2 := Nat.le_of_eq HW1B.out; exact ((((h3.setCell h4 _).setCell h4 _).setCell h4 _).setCell h4 _).setCell h4 _) (fun hacc3 => ?_)
    clear hK K
    refine RG_done (by kernel_rfl) ?_
    refine hR _ _ ?_
    go_wp2_with fail
    refine bodyPost_ret (v := .agg #[.slice a0 D.nw k0, .slice a1 D.nm k1, .slice a2 D.n0 k2, .slice a3 D.n1 k3, .slice a4 D.n2 k4]) (by simp [results, Tryd.results66, go_sem, *]) rfl ⟨⟨a0, k0, a1, k1, a2, k2, a3, k3, a4, k4⟩, rfl, ?_, ?_, ?_⟩
    · have hne : ∀ b, Pl.has ⟨a0, k0, a1, k1, a2, k2, a3, k3, a4, k4⟩ b → b ≠ b2 := by
        obtain ⟨s0, s1, s2, s3, s4⟩ := HS.out
        rintro b (⟨x, h, rfl⟩ | ⟨x, h, rfl⟩ | ⟨x, h, rfl⟩ | ⟨x, h, rfl⟩ | ⟨x, h, rfl⟩) e
        · have := (s0 x h).1; omega
        · have := (s1 x h).1; omega
        · have := (s2 x h).1; omega
        · have := (s3 x h).1; omega
        · have := (s4 x h).1; omega
      have hA := HA.out
      have h9 : At w9 D ⟨a0, k0, a1, k1, a2, k2, a3, k3, a4, k4⟩ := ⟨HR0.out, HR1.out, HR2.out, HR3.out, HR4.out, hA.bw, hA.bm, hA.b0, hA.b1, hA.b2, HQ.out.1, HQ.out.2.1, HQ.out.2.2.1, HQ.out.2.2.2.1, HQ.out.2.2.2.2, hA.rng, hA.sz⟩
      refine h9.upd (S := fun b => b = b2) ?_ hne
      exact set5 w9 b2 _ _ _ _ _
    · obtain ⟨s0, s1, s2, s3, s4⟩ := HS.out
      have hz : w.heap.size ≤ b2 := by have := HWB.out; omega
      rintro b (⟨x, h, rfl⟩ | ⟨x, h, rfl⟩ | ⟨x, h, rfl⟩ | ⟨x, h, rfl⟩ | ⟨x, h, rfl⟩)
      · have := (s0 x h).1; exact ⟨by omega, Nat.lt_of_lt_of_le (s0 x h).2 (set5 w9 b2 _ _ _ _ _).size⟩
      · have := (s1 x h).1; exact ⟨by omega, Nat.lt_of_lt_of_le (s1 x h).2 (set5 w9 b2 _ _ _ _ _).size⟩
      · have := (s2 x h).1; exact ⟨by omega, Nat.lt_of_lt_of_le (s2 x h).2 (set5 w9 b2 _ _ _ _ _).size⟩
      · have := (s3 x h).1; exact ⟨by omega, Nat.lt_of_lt_of_le (s3 x h).2 (set5 w9 b2 _ _ _ _ _).size⟩
      · have := (s4 x h).1; exact ⟨by omega, Nat.lt_of_lt_of_le (s4 x h).2 (set5 w9 b2 _ _ _ _ _).size⟩
    · have hz : w.heap.size ≤ b2 := by have := HWB.out; omega
      have h3 := chain HB.out HBW.out
      exact ((((h3.setCell hz _).setCell hz _).setCell hz _).setCell hz _).setCell hz _
  · rintro n listed a w9 hn ⟨b0', b1', b2', b3', b4', v0, v1, v2, v3, v4, rfl, hn', rfl, g0, g1, g2, g3, g4, gz⟩ hb9
    have hnall : (b0' && b1' && b2' && b3' && b4') = false := by
      revert hn'
      cases b0' <;> cases b1' <;> cases b2' <;> cases b3' <;> cases b4' <;> first | (intro _; rfl) | (intro h; exfalso; simp at h; omega)
    refine ⟨(HRD.out b0' b1' b2' b3' b4' hnall).1, fun i hi => ?_⟩
    have hor := (HRD.out b0' b1' b2' b3' b4' hnall).2 i hi
    have HG := Lib.hid (⟨g0, g1, g2, g3, g4⟩ : (b0' = true → GotW D (b2 + 1) v0 w9) ∧ (b1' = true → GotM D (b2 + 1) v1 w9) ∧ (b2' = true → GotS D.n0 D.L0 D.H0 (b2 + 1) v2 w9) ∧ (b3' = true → GotS D.n1 D.L1 D.H1 (b2 + 1) v3 w9) ∧ (b4' = true → GotS D.n2 D.L2 D.H2 (b2 + 1) v4 w9))
    have HB9 := Lib.hid hb9
    have HN' := Lib.hid hn'
    have HGZ := Lib.hid gz
    have HA9 := Lib.hid (HA2.out.below hb9)
    clear hi hnall g0 g1 g2 g3 g4 gz hb9 hn' c0 c1 c2 c3 c4
    rcases hor with ⟨rfl, rfl⟩ | ⟨rfl, rfl⟩ | ⟨rfl, rfl⟩ | ⟨rfl, rfl⟩ | ⟨rfl, rfl⟩
    · refine J_op (J := fun listed a w => ∃ (b0' b1' b2' b3' b4' : Bool) (v0 v1 v2 v3 v4 : Value), listed = #[true, true, b0', true, true, b1', true, true, b2', true, true, b3', true, true, b4', false, false] ∧ n = 2 + ((!b0').toNat + (!b1').toNat + (!b2').toNat + (!b3').toNat + (!b4').toNat) ∧ a = { tmps := #[.agg #[.slice p.a0 D.nw p.c0, .slice p.a1 D.nm p.c1, .slice p.a2 D.n0 p.c2, .slice p.a3 D.n1 p.c3, .slice p.a4 D.n2 p.c4], .pointer (some ⟨b1, 0, none⟩), .pointer (some ⟨b2, 0, none⟩), .pointer (some ⟨b1, 0, none⟩), .slice p.a0 D.nw p.c0, v0, .pointer (some ⟨b1, 1, none⟩), .slice p.a1 D.nm p.c1, v1, .pointer (some ⟨b1, 2, none⟩), .slice p.a2 D.n0 p.c2, v2, .pointer (some ⟨b1, 3, none⟩), .slice p.a3 D.n1 p.c3, v3, .pointer (some ⟨b1, 4, none⟩), .slice p.a4 D.n2 p.c4, v4, undef], defers := [] } ∧ (b0' = true → GotW D (b2 + 1) v0 w) ∧ (b1' = true → GotM D (b2 + 1) v1 w) ∧ (b2' = true → GotS D.n0 D.L0 D.H0 (b2 + 1) v2 w) ∧ (b3' = true → GotS D.n1 D.L1 D.H1 (b2 + 1) v3 w) ∧ (b4' = true → GotS D.n2 D.L2 D.H2 (b2 + 1) v4 w) ∧ w.heap[b2]? = some (.cells #[.slice none 0 0, .slice none 0 0, .slice none 0 0, .slice none 0 0, .slice none 0 0] 26 (0, 0))) #[true, true, true, true, true, b1', true, true, b2', true, true, b3', true, true, b4', false, false] (by rw [HOPS.out]; rfl) rfl rfl (fun K hK => ?_)
      go_wp2_with fail
      refine (CloneW p.a0 D.nw p.c0 D.W w9 HA9.out.rw (by have := HW.out; omega)).mono ?_
      rintro e w7 ⟨a7, c7, rfl, h7, h8, h9, hb7⟩
      have hJ : Below W1.heap.size W1 w7 := chain HB9.out hb7
      go_wp2_with fail
      refine hK _ _ hJ ⟨true, b1', b2', b3', b4', _, v1, v2, v3, v4, rfl, ?_, rfl, (fun h => ⟨a7, c7, rfl, h7, h8, fun y hy => by have := lt_of_heap HGZ.out; have := h9 y hy; exact ⟨by omega, this.2⟩⟩), (fun h => (HG.out.2.1 h).below hb7), (fun h => (HG.out.2.2.1 h).below hb7), (fun h => (HG.out.2.2.2.1 h).below hb7), (fun h => (HG.out.2.2.2.2 h).below hb7), (hb7.block b2 (lt_of_heap HGZ.out)).trans HGZ.out⟩
      have := HN'.out
      simp only [Bool.not_false, Bool.not_true, Bool.toNat_true, Bool.toNat_false] at this ⊢
      omega
    · refine J_op (J := fun listed a w => ∃ (b0' b1' b2' b3' b4' : Bool) (v0 v1 v2 v3 v4 : Value), listed = #[true, true, b0', true, true, b1', true, true, b2', true, true, b3', true, true, b4', false, false] ∧ n = 2 + ((!b0').toNat + (!b1').toNat + (!b2').toNat + (!b3').toNat + (!b4').toNat) ∧ a = { tmps := #[.agg #[.slice p.a0 D.nw p.c0, .slice p.a1 D.nm p.c1, .slice p.a2 D.n0 p.c2, .slice p.a3 D.n1 p.c3, .slice p.a4 D.n2 p.c4], .pointer (some ⟨b1, 0, none⟩), .pointer (some ⟨b2, 0, none⟩), .pointer (some ⟨b1, 0, none⟩), .slice p.a0 D.nw p.c0, v0, .pointer (some ⟨b1, 1, none⟩), .slice p.a1 D.nm p.c1, v1, .pointer (some ⟨b1, 2, none⟩), .slice p.a2 D.n0 p.c2, v2, .pointer (some ⟨b1, 3, none⟩), .slice p.a3 D.n1 p.c3, v3, .pointer (some ⟨b1, 4, none⟩), .slice p.a4 D.n2 p.c4, v4, undef], defers := [] } ∧ (b0' = true → GotW D (b2 + 1) v0 w) ∧ (b1' = true → GotM D (b2 + 1) v1 w) ∧ (b2' = true → GotS D.n0 D.L0 D.H0 (b2 + 1) v2 w) ∧ (b3' = true → GotS D.n1 D.L1 D.H1 (b2 + 1) v3 w) ∧ (b4' = true → GotS D.n2 D.L2 D.H2 (b2 + 1) v4 w) ∧ w.heap[b2]? = some (.cells #[.slice none 0 0, .slice none 0 0, .slice none 0 0, .slice none 0 0, .slice none 0 0] 26 (0, 0))) #[true, true, b0', true, true, true, true, true, b2', true, true, b3', true, true, b4', false, false] (by rw [HOPS.out]; rfl) rfl rfl (fun K hK => ?_)
      go_wp2_with fail
      refine (CloneM p.a1 D.nm p.c1 D.A D.B D.I w9 HA9.out.rm (by have := HM.out; omega)).mono ?_
      rintro e w7 ⟨a7, c7, rfl, h7, h8, h9, hb7⟩
      have hJ : Below W1.heap.size W1 w7 := chain HB9.out hb7
      go_wp2_with fail
      refine hK _ _ hJ ⟨b0', true, b2', b3', b4', v0, _, v2, v3, v4, rfl, ?_, rfl, (fun h => (HG.out.1 h).below hb7), (fun h => ⟨a7, c7, rfl, h7, h8, fun y hy => by have := lt_of_heap HGZ.out; have := h9 y hy; exact ⟨by omega, this.2⟩⟩), (fun h => (HG.out.2.2.1 h).below hb7), (fun h => (HG.out.2.2.2.1 h).below hb7), (fun h => (HG.out.2.2.2.2 h).below hb7), (hb7.block b2 (lt_of_heap HGZ.out)).trans HGZ.out⟩
      have := HN'.out
      simp only [Bool.not_false, Bool.not_true, Bool.toNat_true, Bool.toNat_false] at this ⊢
      omega
    · refine J_op (J := fun listed a w => ∃ (b0' b1' b2' b3' b4' : Bool) (v0 v1 v2 v3 v4 : Value), listed = #[true, true, b0', true, true, b1', true, true, b2', true, true, b3', true, true, b4', false, false] ∧ n = 2 + ((!b0').toNat + (!b1').toNat + (!b2').toNat + (!b3').toNat + (!b4').toNat) ∧ a = { tmps := #[.agg #[.slice p.a0 D.nw p.c0, .slice p.a1 D.nm p.c1, .slice p.a2 D.n0 p.c2, .slice p.a3 D.n1 p.c3, .slice p.a4 D.n2 p.c4], .pointer (some ⟨b1, 0, none⟩), .pointer (some ⟨b2, 0, none⟩), .pointer (some ⟨b1, 0, none⟩), .slice p.a0 D.nw p.c0, v0, .pointer (some ⟨b1, 1, none⟩), .slice p.a1 D.nm p.c1, v1, .pointer (some ⟨b1, 2, none⟩), .slice p.a2 D.n0 p.c2, v2, .pointer (some ⟨b1, 3, none⟩), .slice p.a3 D.n1 p.c3, v3, .pointer (some ⟨b1, 4, none⟩), .slice p.a4 D.n2 p.c4, v4, undef], defers := [] } ∧ (b0' = true → GotW D (b2 + 1) v0 w) ∧ (b1' = true → GotM D (b2 + 1) v1 w) ∧ (b2' = true → GotS D.n0 D.L0 D.H0 (b2 + 1) v2 w) ∧ (b3' = true → GotS D.n1 D.L1 D.H1 (b2 + 1) v3 w) ∧ (b4' = true → GotS D.n2 D.L2 D.H2 (b2 + 1) v4 w) ∧ w.heap[b2]? = some (.cells #[.slice none 0 0, .slice none 0 0, .slice none 0 0, .slice none 0 0, .slice none 0 0] 26 (0, 0))) #[true, true, b0', true, true, b1', true, true, true, true, true, b3', true, true, b4', false, false] (by rw [HOPS.out]; rfl) rfl rfl (fun K hK => ?_)
      go_wp2_with fail
      refine (CloneS p.a2 D.n0 p.c2 D.L0 D.H0 w9 HA9.out.l0 (by have := HA9.out.b0; omega)).mono ?_
      rintro e w7 ⟨a7, c7, rfl, h7, h8, h9, hb7⟩
      have hJ : Below W1.heap.size W1 w7 := chain HB9.out hb7
      go_wp2_with fail
      refine hK _ _ hJ ⟨b0', b1', true, b3', b4', v0, v1, _, v3, v4, rfl, ?_, rfl, (fun h => (HG.out.1 h).below hb7), (fun h => (HG.out.2.1 h).below hb7), (fun h => ⟨a7, c7, rfl, h7, h8, fun y hy => by have := lt_of_heap HGZ.out; have := h9 y hy; exact ⟨by omega, this.2⟩⟩), (fun h => (HG.out.2.2.2.1 h).below hb7), (fun h => (HG.out.2.2.2.2 h).below hb7), (hb7.block b2 (lt_of_heap HGZ.out)).trans HGZ.out⟩
      have := HN'.out
      simp only [Bool.not_false, Bool.not_true, Bool.toNat_true, Bool.toNat_false] at this ⊢
      omega
    · refine J_op (J := fun listed a w => ∃ (b0' b1' b2' b3' b4' : Bool) (v0 v1 v2 v3 v4 : Value), listed = #[true, true, b0', true, true, b1', true, true, b2', true, true, b3', true, true, b4', false, false] ∧ n = 2 + ((!b0').toNat + (!b1').toNat + (!b2').toNat + (!b3').toNat + (!b4').toNat) ∧ a = { tmps := #[.agg #[.slice p.a0 D.nw p.c0, .slice p.a1 D.nm p.c1, .slice p.a2 D.n0 p.c2, .slice p.a3 D.n1 p.c3, .slice p.a4 D.n2 p.c4], .pointer (some ⟨b1, 0, none⟩), .pointer (some ⟨b2, 0, none⟩), .pointer (some ⟨b1, 0, none⟩), .slice p.a0 D.nw p.c0, v0, .pointer (some ⟨b1, 1, none⟩), .slice p.a1 D.nm p.c1, v1, .pointer (some ⟨b1, 2, none⟩), .slice p.a2 D.n0 p.c2, v2, .pointer (some ⟨b1, 3, none⟩), .slice p.a3 D.n1 p.c3, v3, .pointer (some ⟨b1, 4, none⟩), .slice p.a4 D.n2 p.c4, v4, undef], defers := [] } ∧ (b0' = true → GotW D (b2 + 1) v0 w) ∧ (b1' = true → GotM D (b2 + 1) v1 w) ∧ (b2' = true → GotS D.n0 D.L0 D.H0 (b2 + 1) v2 w) ∧ (b3' = true → GotS D.n1 D.L1 D.H1 (b2 + 1) v3 w) ∧ (b4' = true → GotS D.n2 D.L2 D.H2 (b2 + 1) v4 w) ∧ w.heap[b2]? = some (.cells #[.slice none 0 0, .slice none 0 0, .slice none 0 0, .slice none 0 0, .slice none 0 0] 26 (0, 0))) #[true, true, b0', true, true, b1', true, true, b2', true, true, true, true, true, b4', false, false] (by rw [HOPS.out]; rfl) rfl rfl (fun K hK => ?_)
      go_wp2_with fail
      refine (CloneS p.a3 D.n1 p.c3 D.L1 D.H1 w9 HA9.out.l1 (by have := HA9.out.b1; omega)).mono ?_
      rintro e w7 ⟨a7, c7, rfl, h7, h8, h9, hb7⟩
      have hJ : Below W1.heap.size W1 w7 := chain HB9.out hb7
      go_wp2_with fail
      refine hK _ _ hJ ⟨b0', b1', b2', true, b4', v0, v1, v2, _, v4, rfl, ?_, rfl, (fun h => (HG.out.1 h).below hb7), (fun h => (HG.out.2.1 h).below hb7), (fun h => (HG.out.2.2.1 h).below hb7), (fun h => ⟨a7, c7, rfl, h7, h8, fun y hy => by have := lt_of_heap HGZ.out; have := h9 y hy; exact ⟨by omega, this.2⟩⟩), (fun h => (HG.out.2.2.2.2 h).below hb7), (hb7.block b2 (lt_of_heap HGZ.out)).trans HGZ.out⟩
      have := HN'.out
      simp only [Bool.not_false, Bool.not_true, Bool.toNat_true, Bool.toNat_false] at this ⊢
      omega
    · refine J_op (J := fun listed a w => ∃ (b0' b1' b2' b3' b4' : Bool) (v0 v1 v2 v3 v4 : Value), listed = #[true, true, b0', true, true, b1', true, true, b2', true, true, b3', true, true, b4', false, false] ∧ n = 2 + ((!b0').toNat + (!b1').toNat + (!b2').toNat + (!b3').toNat + (!b4').toNat) ∧ a = { tmps := #[.agg #[.slice p.a0 D.nw p.c0, .slice p.a1 D.nm p.c1, .slice p.a2 D.n0 p.c2, .slice p.a3 D.n1 p.c3, .slice p.a4 D.n2 p.c4], .pointer (some ⟨b1, 0, none⟩), .pointer (some ⟨b2, 0, none⟩), .pointer (some ⟨b1, 0, none⟩), .slice p.a0 D.nw p.c0, v0, .pointer (some ⟨b1, 1, none⟩), .slice p.a1 D.nm p.c1, v1, .pointer (some ⟨b1, 2, none⟩), .slice p.a2 D.n0 p.c2, v2, .pointer (some ⟨b1, 3, none⟩), .slice p.a3 D.n1 p.c3, v3, .pointer (some ⟨b1, 4, none⟩), .slice p.a4 D.n2 p.c4, v4, undef], defers := [] } ∧ (b0' = true → GotW D (b2 + 1) v0 w) ∧ (b1' = true → GotM D (b2 + 1) v1 w) ∧ (b2' = true → GotS D.n0 D.L0 D.H0 (b2 + 1) v2 w) ∧ (b3' = true → GotS D.n1 D.L1 D.H1 (b2 + 1) v3 w) ∧ (b4' = true → GotS D.n2 D.L2 D.H2 (b2 + 1) v4 w) ∧ w.heap[b2]? = some (.cells #[.slice none 0 0, .slice none 0 0, .slice none 0 0, .slice none 0 0, .slice none 0 0] 26 (0, 0))) #[true, true, b0', true, true, b1', true, true, b2', true, true, b3', true, true, true, false, false] (by rw [HOPS.out]; rfl) rfl rfl (fun K hK => ?_)
      go_wp2_with fail
      refine (CloneS p.a4 D.n2 p.c4 D.L2 D.H2 w9 HA9.out.l2 (by have := HA9.out.b2; omega)).mono ?_
      rintro e w7 ⟨a7, c7, rfl, h7, h8, h9, hb7⟩
      have hJ : Below W1.heap.size W1 w7 := chain HB9.out hb7
      go_wp2_with fail
      refine hK _ _ hJ ⟨b0', b1', b2', b3', true, v0, v1, v2, v3, _, rfl, ?_, rfl, (fun h => (HG.out.1 h).below hb7), (fun h => (HG.out.2.1 h).below hb7), (fun h => (HG.out.2.2.1 h).below hb7), (fun h => (HG.out.2.2.2.1 h).below hb7), (fun h => ⟨a7, c7, rfl, h7, h8, fun y hy => by have := lt_of_heap HGZ.out; have := h9 y hy; exact ⟨by omega, this.2⟩⟩), (hb7.block b2 (lt_of_heap HGZ.out)).trans HGZ.out⟩
      have := HN'.out
      simp only [Bool.not_false, Bool.not_true, Bool.toNat_true, Bool.toNat_false] at this ⊢
      omega
end Go.Proofs.YtkjkgpdfhmoenaaDoor.Copied
