/-
  slices.Clone.
-/
import Derived.Test.YtendkmldecoogaaDoorDt
import Derived.Laws.AppendOwn
import Derived.Lib.SliceRun
namespace Go.Proofs.YtendkmldecoogaaDoor.Clone
open Go Go.RowKit Go.Proofs.YtendkmldecoogaaDoor.Kit Go.Proofs.YtendkmldecoogaaDoor.SpFns Go.Proofs.YtendkmldecoogaaDoor.Dt
attribute [local irreducible] wpQuiet

theorem flat_len {α : Type} (f : Nat → List α) {n : Nat} (h : ∀ i, (f i).length = n) : ∀ len, ((List.range len).flatMap f).length = len * n
  | 0 => by simp
  | len + 1 => by rw [List.range_succ, List.flatMap_append, List.length_append, flat_len f h len]; simp [h, Nat.add_mul]
theorem flat_get {α : Type} (f : Nat → List α) {n : Nat} (h : ∀ i, (f i).length = n) : ∀ len i j, i < len → j < n → ((List.range len).flatMap f)[i * n + j]? = (f i)[j]?
  | 0, i, j, hi, _ => by omega
  | len + 1, i, j, hi, hj => by
    rw [List.range_succ, List.flatMap_append]
    have hl := flat_len f h len
    rcases Nat.lt_or_ge i len with h1 | h1
    · have h2 : i * n + j < len * n := by
        have : (i + 1) * n ≤ len * n := Nat.mul_le_mul_right n h1
        rw [Nat.add_mul] at this
        omega
      rw [List.getElem?_append_left (by rw [hl]; exact h2), flat_get f h len i j h1 hj]
    · have h3 : i = len := by omega
      subst h3
      rw [List.getElem?_append_right (by rw [hl]; omega), hl]
      simp
theorem flat_at {α : Type} (f : Nat → List α) {n : Nat} (hn : 0 < n) (h : ∀ i, (f i).length = n) {len k : Nat} {u : α} (hu : ((List.range len).flatMap f)[k]? = some u) : k / n < len ∧ (f (k / n))[k % n]? = some u := by
  have hk : k < len * n := by
    have := (List.getElem?_eq_some_iff.1 hu).1
    rwa [flat_len f h] at this
  have h1 : k / n < len := (Nat.div_lt_iff_lt_mul hn).2 hk
  refine ⟨h1, ?_⟩
  rw [← flat_get f h len (k / n) (k % n) h1 (Nat.mod_lt _ hn), Nat.mul_comm, Nat.div_add_mod]
  exact hu
theorem add_block (a : Addr) (j : Nat) : (a.add j).block = a.block := by unfold Addr.add; split <;> rfl
theorem own_none {w : World} {e : TypeId} {sz : Nat} : (w.alloc (.cells #[] e)).ownsRow w.heap.size e sz (.slice (some ⟨w.heap.size, 0, none⟩) 0 0) 0 [] := World.ownsRow_made w #[] 0 (Nat.le_refl _) (Nat.zero_le _) (by simp)

theorem infoS : (Tryd.prog.info? 84).map (fun i => (i.zero, i.size, i.bytes)) = some (some (.agg #[.int .i32 0, .int .i32 0]), 2, 8) := by kernel_rfl

def ClonedS (w : World) (len : Nat) (L H : Nat → Int) (x : Ending) (w' : World) : Prop :=
  ∃ a' cap', x = .returned (.slice a' len cap') ∧ len ≤ cap' ∧ Row w' a' len L H ∧ (∀ y, a' = some y → w.heap.size ≤ y.block ∧ y.block < w'.heap.size) ∧ Below w.heap.size w w'

set_option maxHeartbeats 1000000 in
set_option maxRecDepth 100000 in
theorem CloneS (a : Option Addr) (len cap : Nat) (L H : Nat → Int) (w : World) (h : Row w a len L H) (hl : len * 8 ≤ 140737488355328) :
    Calls Tryd.prog 124 #[.slice a len cap] w (ClonedS w len L H) := by
  cases a with
  | none =>
    have h0 : len = 0 := by
      rcases h with h | ⟨_, _, h, _⟩
      · exact h
      · cases h
    subst h0
    have hnl := fun (w : World) (n c : Nat) => Lib.run_eql_slice_nil (P := Tryd.prog) w 31 84 none n c 0 0 Tryd.underlying31
    simp only [Option.isNone_none] at hnl
    go_enter Tryd.func124, Tryd.ntmps124
    go_wp2
    go_ret
    exact ⟨none, 0, rfl, Nat.le_refl _, .inl rfl, (fun y hy => by cases hy), Below.refl _ _⟩
  | some ad =>
    have hn : ∀ j u, ((List.range len).flatMap (fun i => [.int .i32 (L i), .int .i32 (H i)] : Nat → List Value))[j]? = some u → w.cell? (ad.add j) = some u ∧ ad.block < w.heap.size ∧ ad.spot = none := by
      intro j u hu
      obtain ⟨h1, h2⟩ := flat_at (fun i => [.int .i32 (L i), .int .i32 (H i)] : Nat → List Value) (n := 2) (by decide) (fun i => rfl) hu
      rcases h with h | ⟨b, off, hb, hlt, hc⟩
      · omega
      · cases hb
        have hcc := hc _ h1
        have hj : j = j / 2 * 2 + j % 2 := by omega
        refine ⟨?_, hlt, rfl⟩
        rw [add_plain, hj]
        have hm : j % 2 = 0 ∨ j % 2 = 1 := by omega
        rcases hm with hm | hm
        · rw [hm] at h2 ⊢; simp only [List.getElem?_cons_zero, Option.some.injEq] at h2; rw [← h2]; exact hcc.1
        · rw [hm] at h2 ⊢; simp only [List.getElem?_cons_zero, List.getElem?_cons_succ, Option.some.injEq] at h2; rw [← h2]; exact hcc.2
    have hs : ∀ u ∈ (List.range len).flatMap (fun i => [.int .i32 (L i), .int .i32 (H i)] : Nat → List Value), u.oneCell' = true := by
      intro u hu
      obtain ⟨i, _, hi⟩ := List.mem_flatMap.1 hu
      simp only [List.mem_cons, List.not_mem_nil, or_false] at hi
      rcases hi with rfl | rfl <;> rfl
    have HN := Lib.hid (fun j u (hu : ((List.range len).flatMap (fun i => [.int .i32 (L i), .int .i32 (H i)] : Nat → List Value))[j]? = some u) => (by
      obtain ⟨h1, h2, h3⟩ := hn j u hu
      rw [(((Below.refl w.heap.size w).alloc (Nat.le_refl _) (.cells #[] 84)).cell (p := ad.add j) (by rw [add_block]; exact h2))]
      exact h1 : (w.alloc (.cells #[] 84)).cell? (ad.add j) = some u))
    have hlen := flat_len (fun i => [.int .i32 (L i), .int .i32 (H i)] : Nat → List Value) (n := 2) (fun i => rfl) len
    have HLEN := Lib.hid hlen
    have HSS := Lib.hid hs
    obtain ⟨i0, hi, hz0, hz1, hz2⟩ := info_parts infoS
    clear h hn hs hlen
    have hnl := fun (w : World) (n c : Nat) => Lib.run_eql_slice_nil (P := Tryd.prog) w 31 84 (some ad) n c 0 0 Tryd.underlying31
    simp only [Option.isNone_some] at hnl
    go_enter Tryd.func124, Tryd.ntmps124
    go_wp2_with (at_builtin; refine wpList_append_own _ rfl _ _ 31 rfl w.heap.size 84 i0 (.agg #[.int .i32 0, .int .i32 0]) 2 8 Tryd.underlying31 hi hz0 hz1 hz2 rfl (by decide) _ _ _ rfl own_none ad len cap ((List.range len).flatMap (fun i => [.int .i32 (L i), .int .i32 (H i)] : Nat → List Value)) rfl HLEN.out HN.out HSS.out (by unfold maxLen; omega) (by omega) (by simp) ?_; intro v' w1 hown' hgrow hnil)
    have hown := hown'
    simp only [Nat.zero_add, List.nil_append] at hown
    have hB : Below w.heap.size w w1 := by
      have h1 : Below w.heap.size w (w.alloc (.cells #[] 84)) := (Below.refl _ _).alloc (Nat.le_refl _) _
      refine ⟨hgrow.os.trans h1.os, hgrow.tape.trans h1.tape, hgrow.output.trans h1.output, Nat.le_trans h1.size hgrow.size, fun i hi => ?_⟩
      rw [hgrow.block i (Nat.lt_of_lt_of_le hi h1.size) (fun e => by simp [Value.ownBlock, Act.eval] at e; omega), h1.block i hi]
    have HOWN := Lib.hid hown
    have HB := Lib.hid hB
    clear hown hown' hgrow hnil hB
    go_ret
    obtain ⟨h1, h2⟩ := HOWN.out
    rcases h2 with ⟨rfl, rfl⟩ | ⟨g, cp, cur, rfl, hb, hg, hn2, hm, hsz, htake⟩
    · exact ⟨none, 0, rfl, Nat.le_refl _, .inl rfl, (fun y hy => by cases hy), HB.out⟩
    · refine ⟨some ⟨g, 0, none⟩, cp, rfl, hn2, .inr ⟨g, 0, rfl, lt_of_heap hg, fun i hi2 => ?_⟩, (fun y hy => by cases hy; exact ⟨hb, lt_of_heap hg⟩), HB.out⟩
      have hc := HOWN.out.cells (g := g) rfl
      simp only [add_plain, Nat.zero_add] at hc ⊢
      exact ⟨hc (i * 2) _ (by have := flat_get (fun i => [.int .i32 (L i), .int .i32 (H i)] : Nat → List Value) (n := 2) (fun i => rfl) len i 0 hi2 (by decide); simpa using this), hc (i * 2 + 1) _ (by have := flat_get (fun i => [.int .i32 (L i), .int .i32 (H i)] : Nat → List Value) (n := 2) (fun i => rfl) len i 1 hi2 (by decide); simpa using this)⟩

theorem infoW : (Tryd.prog.info? 9).map (fun i => (i.zero, i.size, i.bytes)) = some (some (.string ByteArray.empty), 1, 16) := by kernel_rfl

def ClonedW (w : World) (len : Nat) (W : Nat → ByteArray) (x : Ending) (w' : World) : Prop :=
  ∃ a' cap', x = .returned (.slice a' len cap') ∧ len ≤ cap' ∧ WRow w' a' len W ∧ (∀ y, a' = some y → w.heap.size ≤ y.block ∧ y.block < w'.heap.size) ∧ Below w.heap.size w w'

set_option maxHeartbeats 1000000 in
set_option maxRecDepth 100000 in
theorem CloneW (a : Option Addr) (len cap : Nat) (W : Nat → ByteArray) (w : World) (h : WRow w a len W) (hl : len * 16 ≤ 140737488355328) :
    Calls Tryd.prog 127 #[.slice a len cap] w (ClonedW w len W) := by
  cases a with
  | none =>
    have h0 : len = 0 := by
      rcases h with h | ⟨_, _, h, _⟩
      · exact h
      · cases h
    subst h0
    have hnl := fun (w : World) (n c : Nat) => Lib.run_eql_slice_nil (P := Tryd.prog) w 29 9 none n c 0 0 Tryd.underlying29
    simp only [Option.isNone_none] at hnl
    go_enter Tryd.func127, Tryd.ntmps127
    go_wp2
    go_ret
    exact ⟨none, 0, rfl, Nat.le_refl _, .inl rfl, (fun y hy => by cases hy), Below.refl _ _⟩
  | some ad =>
    have hn : ∀ j u, ((List.range len).flatMap (fun i => [.string (W i)] : Nat → List Value))[j]? = some u → w.cell? (ad.add j) = some u ∧ ad.block < w.heap.size ∧ ad.spot = none := by
      intro j u hu
      obtain ⟨h1, h2⟩ := flat_at (fun i => [.string (W i)] : Nat → List Value) (n := 1) (by decide) (fun i => rfl) hu
      rcases h with h | ⟨b, off, hb, hlt, hc⟩
      · omega
      · cases hb
        have hcc := hc _ h1
        have hj : j = j / 1 * 1 + j % 1 := by omega
        refine ⟨?_, hlt, rfl⟩
        rw [add_plain, hj]
        simp only [Nat.mod_one, Nat.div_one, List.getElem?_cons_zero, Option.some.injEq] at h2 hcc ⊢
        rw [← h2]
        simpa using hcc
    have hs : ∀ u ∈ (List.range len).flatMap (fun i => [.string (W i)] : Nat → List Value), u.oneCell' = true := by
      intro u hu
      obtain ⟨i, _, hi⟩ := List.mem_flatMap.1 hu
      simp only [List.mem_cons, List.not_mem_nil, or_false] at hi
      rcases hi with rfl <;> rfl
    have HN := Lib.hid (fun j u (hu : ((List.range len).flatMap (fun i => [.string (W i)] : Nat → List Value))[j]? = some u) => (by
      obtain ⟨h1, h2, h3⟩ := hn j u hu
      rw [(((Below.refl w.heap.size w).alloc (Nat.le_refl _) (.cells #[] 9)).cell (p := ad.add j) (by rw [add_block]; exact h2))]
      exact h1 : (w.alloc (.cells #[] 9)).cell? (ad.add j) = some u))
    have hlen := flat_len (fun i => [.string (W i)] : Nat → List Value) (n := 1) (fun i => rfl) len
    have HLEN := Lib.hid hlen
    have HSS := Lib.hid hs
    obtain ⟨i0, hi, hz0, hz1, hz2⟩ := info_parts infoW
    clear h hn hs hlen
    have hnl := fun (w : World) (n c : Nat) => Lib.run_eql_slice_nil (P := Tryd.prog) w 29 9 (some ad) n c 0 0 Tryd.underlying29
    simp only [Option.isNone_some] at hnl
    go_enter Tryd.func127, Tryd.ntmps127
    go_wp2_with (at_builtin; refine wpList_append_own _ rfl _ _ 29 rfl w.heap.size 9 i0 (.string ByteArray.empty) 1 16 Tryd.underlying29 hi hz0 hz1 hz2 rfl (by decide) _ _ _ rfl own_none ad len cap ((List.range len).flatMap (fun i => [.string (W i)] : Nat → List Value)) rfl HLEN.out HN.out HSS.out (by unfold maxLen; omega) (by omega) (by simp) ?_; intro v' w1 hown' hgrow hnil)
    have hown := hown'
    simp only [Nat.zero_add, List.nil_append] at hown
    have hB : Below w.heap.size w w1 := by
      have h1 : Below w.heap.size w (w.alloc (.cells #[] 9)) := (Below.refl _ _).alloc (Nat.le_refl _) _
      refine ⟨hgrow.os.trans h1.os, hgrow.tape.trans h1.tape, hgrow.output.trans h1.output, Nat.le_trans h1.size hgrow.size, fun i hi => ?_⟩
      rw [hgrow.block i (Nat.lt_of_lt_of_le hi h1.size) (fun e => by simp [Value.ownBlock, Act.eval] at e; omega), h1.block i hi]
    have HOWN := Lib.hid hown
    have HB := Lib.hid hB
    clear hown hown' hgrow hnil hB
    go_ret
    obtain ⟨h1, h2⟩ := HOWN.out
    rcases h2 with ⟨rfl, rfl⟩ | ⟨g, cp, cur, rfl, hb, hg, hn2, hm, hsz, htake⟩
    · exact ⟨none, 0, rfl, Nat.le_refl _, .inl rfl, (fun y hy => by cases hy), HB.out⟩
    · refine ⟨some ⟨g, 0, none⟩, cp, rfl, hn2, .inr ⟨g, 0, rfl, lt_of_heap hg, fun i hi2 => ?_⟩, (fun y hy => by cases hy; exact ⟨hb, lt_of_heap hg⟩), HB.out⟩
      have hc := HOWN.out.cells (g := g) rfl
      simp only [add_plain, Nat.zero_add] at hc ⊢
      exact hc i _ (by have := flat_get (fun i => [.string (W i)] : Nat → List Value) (n := 1) (fun i => rfl) len i 0 hi2 (by decide); simpa using this)

theorem infoM : (Tryd.prog.info? 117).map (fun i => (i.zero, i.size, i.bytes)) = some (some (.agg #[.int .i64 0, .int .i64 0, .int .i64 0]), 3, 24) := by kernel_rfl

def ClonedM (w : World) (len : Nat) (A B I : Nat → Int) (x : Ending) (w' : World) : Prop :=
  ∃ a' cap', x = .returned (.slice a' len cap') ∧ len ≤ cap' ∧ MRow w' a' len A B I ∧ (∀ y, a' = some y → w.heap.size ≤ y.block ∧ y.block < w'.heap.size) ∧ Below w.heap.size w w'

set_option maxHeartbeats 1000000 in
set_option maxRecDepth 100000 in
theorem CloneM (a : Option Addr) (len cap : Nat) (A B I : Nat → Int) (w : World) (h : MRow w a len A B I) (hl : len * 24 ≤ 140737488355328) :
    Calls Tryd.prog 128 #[.slice a len cap] w (ClonedM w len A B I) := by
  cases a with
  | none =>
    have h0 : len = 0 := by
      rcases h with h | ⟨_, _, h, _⟩
      · exact h
      · cases h
    subst h0
    have hnl := fun (w : World) (n c : Nat) => Lib.run_eql_slice_nil (P := Tryd.prog) w 30 117 none n c 0 0 Tryd.underlying30
    simp only [Option.isNone_none] at hnl
    go_enter Tryd.func128, Tryd.ntmps128
    go_wp2
    go_ret
    exact ⟨none, 0, rfl, Nat.le_refl _, .inl rfl, (fun y hy => by cases hy), Below.refl _ _⟩
  | some ad =>
    have hn : ∀ j u, ((List.range len).flatMap (fun i => [.int .i64 (A i), .int .i64 (B i), .int .i64 (I i)] : Nat → List Value))[j]? = some u → w.cell? (ad.add j) = some u ∧ ad.block < w.heap.size ∧ ad.spot = none := by
      intro j u hu
      obtain ⟨h1, h2⟩ := flat_at (fun i => [.int .i64 (A i), .int .i64 (B i), .int .i64 (I i)] : Nat → List Value) (n := 3) (by decide) (fun i => rfl) hu
      rcases h with h | ⟨b, off, hb, hlt, hc⟩
      · omega
      · cases hb
        have hcc := hc _ h1
        have hj : j = j / 3 * 3 + j % 3 := by omega
        refine ⟨?_, hlt, rfl⟩
        rw [add_plain, hj]
        have hm : j % 3 = 0 ∨ j % 3 = 1 ∨ j % 3 = 2 := by omega
        rcases hm with hm | hm | hm
        · rw [hm] at h2 ⊢; simp only [List.getElem?_cons_zero, Option.some.injEq] at h2; rw [← h2]; exact hcc.1
        · rw [hm] at h2 ⊢; simp only [List.getElem?_cons_zero, List.getElem?_cons_succ, Option.some.injEq] at h2; rw [← h2]; exact hcc.2.1
        · rw [hm] at h2 ⊢; simp only [List.getElem?_cons_zero, List.getElem?_cons_succ, Option.some.injEq] at h2; rw [← h2]; exact hcc.2.2
    have hs : ∀ u ∈ (List.range len).flatMap (fun i => [.int .i64 (A i), .int .i64 (B i), .int .i64 (I i)] : Nat → List Value), u.oneCell' = true := by
      intro u hu
      obtain ⟨i, _, hi⟩ := List.mem_flatMap.1 hu
      simp only [List.mem_cons, List.not_mem_nil, or_false] at hi
      rcases hi with rfl | rfl | rfl <;> rfl
    have HN := Lib.hid (fun j u (hu : ((List.range len).flatMap (fun i => [.int .i64 (A i), .int .i64 (B i), .int .i64 (I i)] : Nat → List Value))[j]? = some u) => (by
      obtain ⟨h1, h2, h3⟩ := hn j u hu
      rw [(((Below.refl w.heap.size w).alloc (Nat.le_refl _) (.cells #[] 117)).cell (p := ad.add j) (by rw [add_block]; exact h2))]
      exact h1 : (w.alloc (.cells #[] 117)).cell? (ad.add j) = some u))
    have hlen := flat_len (fun i => [.int .i64 (A i), .int .i64 (B i), .int .i64 (I i)] : Nat → List Value) (n := 3) (fun i => rfl) len
    have HLEN := Lib.hid hlen
    have HSS := Lib.hid hs
    obtain ⟨i0, hi, hz0, hz1, hz2⟩ := info_parts infoM
    clear h hn hs hlen
    have hnl := fun (w : World) (n c : Nat) => Lib.run_eql_slice_nil (P := Tryd.prog) w 30 117 (some ad) n c 0 0 Tryd.underlying30
    simp only [Option.isNone_some] at hnl
    go_enter Tryd.func128, Tryd.ntmps128
    go_wp2_with (at_builtin; refine wpList_append_own _ rfl _ _ 30 rfl w.heap.size 117 i0 (.agg #[.int .i64 0, .int .i64 0, .int .i64 0]) 3 24 Tryd.underlying30 hi hz0 hz1 hz2 rfl (by decide) _ _ _ rfl own_none ad len cap ((List.range len).flatMap (fun i => [.int .i64 (A i), .int .i64 (B i), .int .i64 (I i)] : Nat → List Value)) rfl HLEN.out HN.out HSS.out (by unfold maxLen; omega) (by omega) (by simp) ?_; intro v' w1 hown' hgrow hnil)
    have hown := hown'
    simp only [Nat.zero_add, List.nil_append] at hown
    have hB : Below w.heap.size w w1 := by
      have h1 : Below w.heap.size w (w.alloc (.cells #[] 117)) := (Below.refl _ _).alloc (Nat.le_refl _) _
      refine ⟨hgrow.os.trans h1.os, hgrow.tape.trans h1.tape, hgrow.output.trans h1.output, Nat.le_trans h1.size hgrow.size, fun i hi => ?_⟩
      rw [hgrow.block i (Nat.lt_of_lt_of_le hi h1.size) (fun e => by simp [Value.ownBlock, Act.eval] at e; omega), h1.block i hi]
    have HOWN := Lib.hid hown
    have HB := Lib.hid hB
    clear hown hown' hgrow hnil hB
    go_ret
    obtain ⟨h1, h2⟩ := HOWN.out
    rcases h2 with ⟨rfl, rfl⟩ | ⟨g, cp, cur, rfl, hb, hg, hn2, hm, hsz, htake⟩
    · exact ⟨none, 0, rfl, Nat.le_refl _, .inl rfl, (fun y hy => by cases hy), HB.out⟩
    · refine ⟨some ⟨g, 0, none⟩, cp, rfl, hn2, .inr ⟨g, 0, rfl, lt_of_heap hg, fun i hi2 => ?_⟩, (fun y hy => by cases hy; exact ⟨hb, lt_of_heap hg⟩), HB.out⟩
      have hc := HOWN.out.cells (g := g) rfl
      simp only [add_plain, Nat.zero_add] at hc ⊢
      exact ⟨hc (i * 3) _ (by have := flat_get (fun i => [.int .i64 (A i), .int .i64 (B i), .int .i64 (I i)] : Nat → List Value) (n := 3) (fun i => rfl) len i 0 hi2 (by decide); simpa using this), hc (i * 3 + 1) _ (by have := flat_get (fun i => [.int .i64 (A i), .int .i64 (B i), .int .i64 (I i)] : Nat → List Value) (n := 3) (fun i => rfl) len i 1 hi2 (by decide); simpa using this), hc (i * 3 + 2) _ (by have := flat_get (fun i => [.int .i64 (A i), .int .i64 (B i), .int .i64 (I i)] : Nat → List Value) (n := 3) (fun i => rfl) len i 2 hi2 (by decide); simpa using this)⟩
end Go.Proofs.YtendkmldecoogaaDoor.Clone
