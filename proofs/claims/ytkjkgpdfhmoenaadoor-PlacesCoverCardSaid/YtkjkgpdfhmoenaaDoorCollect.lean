/-
  Slices that lead into a row of the call's own, at any place of it: append, cut, read. Regions that draw their order, in a round of a range over a function; what rounds leave as it lay. A loop that puts elements behind a list in a cell. Drawn regions op by op, in a round of a range over a function.
-/
import Derived.Test.YtkjkgpdfhmoenaaDoorProg
import Derived.Test.YtkjkgpdfhmoenaaDoorKit
import Derived.Laws.AppendOwn
import Derived.Laws.OwnMore
import Derived.Laws.CopyRow
import Derived.OrdersIn
import Derived.Test.YtkjkgpdfhmoenaaDoorRange
import Derived.OwnWalkIn
import Derived.Test.YtkjkgpdfhmoenaaDoorRgu
namespace Go.Proofs.YtkjkgpdfhmoenaaDoor.Seg
open Go Go.RowKit Go.Proofs.YtkjkgpdfhmoenaaDoor.Kit

/-- A slice of n elements of sz cells each, whose cells are xs; it leads into a row of its own at or behind base; or it is nil. -/
structure Seg (w : World) (base : Nat) (e : TypeId) (sz : Nat) (v : Value) (n : Nat) (xs : List Value) : Prop where
  len : xs.length = n * sz
  at' : (v = .slice none 0 0 ∧ n = 0) ∨ ∃ g o cap cur, v = .slice (some ⟨g, o, none⟩) n cap ∧ base ≤ g ∧ w.heap[g]? = some (.cells cur e (0, 0)) ∧ n ≤ cap ∧ cap ≤ maxLen ∧ o + cap * sz ≤ cur.size ∧ (cur.toList.drop o).take (n * sz) = xs

variable {w w' : World} {base : Nat} {e : TypeId} {sz : Nat} {v : Value} {n : Nat} {xs : List Value}

theorem Seg.nil (w : World) (base : Nat) (e : TypeId) (sz : Nat) : Seg w base e sz (.slice none 0 0) 0 [] := ⟨by simp, .inl ⟨rfl, rfl⟩⟩
theorem Seg.of_owns (h : w.ownsRow base e sz v n xs) : Seg w base e sz v n xs := by
  refine ⟨h.1, ?_⟩
  rcases h.2 with h | ⟨g, cap, cur, rfl, hb, hg, hn, hm, hs, ht⟩
  · exact .inl h
  · exact .inr ⟨g, 0, cap, cur, rfl, hb, hg, hn, hm, by omega, by simpa using ht⟩
theorem Seg.lt (h : Seg w base e sz v n xs) : ∀ k, v.ownBlock = some k → base ≤ k ∧ k < w.heap.size := by
  intro k hk
  rcases h.at' with ⟨rfl, _⟩ | ⟨g, o, cap, cur, rfl, hb, hg, _⟩
  · simp [Value.ownBlock] at hk
  · simp only [Value.ownBlock, Option.some.injEq] at hk
    subst hk
    exact ⟨hb, lt_of_heap hg⟩
theorem Seg.keep (h : Seg w base e sz v n xs) (hb : ∀ k, v.ownBlock = some k → k < w.heap.size → w'.heap[k]? = w.heap[k]?) : Seg w' base e sz v n xs := by
  refine ⟨h.len, ?_⟩
  rcases h.at' with h | ⟨g, o, cap, cur, rfl, h1, hg, rest⟩
  · exact .inl h
  · exact .inr ⟨g, o, cap, cur, rfl, h1, (hb g rfl (lt_of_heap hg)).trans hg, rest⟩
theorem Seg.below (h : Seg w base e sz v n xs) (hb : Below w.heap.size w w') : Seg w' base e sz v n xs := h.keep fun _ _ hl => hb.block _ hl
theorem Seg.upd {S : Nat → Prop} (h : Seg w base e sz v n xs) (hu : Upd S w w') (hn : ∀ k, v.ownBlock = some k → ¬ S k) : Seg w' base e sz v n xs := h.keep fun k hk hl => hu.block k hl (hn k hk)
theorem Seg.rebase {base' : Nat} (h : Seg w base e sz v n xs) (hb : ∀ k, v.ownBlock = some k → base' ≤ k) : Seg w base' e sz v n xs := by
  refine ⟨h.len, ?_⟩
  rcases h.at' with h | ⟨g, o, cap, cur, rfl, h1, rest⟩
  · exact .inl h
  · exact .inr ⟨g, o, cap, cur, rfl, hb g rfl, rest⟩
theorem Seg.shape (h : Seg w base e sz v n xs) : ∃ a cap, v = .slice a n cap ∧ n ≤ cap ∧ cap ≤ maxLen ∧ (a = none → n = 0 ∧ cap = 0) := by
  rcases h.at' with ⟨rfl, rfl⟩ | ⟨g, o, cap, cur, rfl, _, _, h1, h2, _⟩
  · exact ⟨none, 0, rfl, Nat.le_refl _, Nat.zero_le _, fun _ => ⟨rfl, rfl⟩⟩
  · exact ⟨some ⟨g, o, none⟩, cap, rfl, h1, h2, fun h => by cases h⟩
theorem Seg.cells {a : Option Addr} {cap : Nat} (h : Seg w base e sz (.slice a n cap) n xs) (hn : 0 < n) : ∃ g o, a = some ⟨g, o, none⟩ ∧ base ≤ g ∧ g < w.heap.size ∧ ∀ (j : Nat) u, xs[j]? = some u → w.cell? ⟨g, o + j, none⟩ = some u := by
  rcases h.at' with ⟨_, rfl⟩ | ⟨g, o, cap', cur, h0, hb, hg, h1, h2, h3, h4⟩
  · omega
  · simp only [Value.slice.injEq, true_and] at h0
    obtain ⟨rfl, rfl⟩ := h0
    refine ⟨g, o, rfl, hb, lt_of_heap hg, fun j u hu => ?_⟩
    rw [cell_at hg]
    rw [← h4, List.getElem?_take] at hu
    split at hu
    · simpa using hu
    · cases hu

/-- The source of an append: the cells of m elements. -/
def Src (w : World) (x : Value) (m : Nat) (news : List Value) : Prop := ∃ a c, x = .slice a m c ∧ (a = none → m = 0) ∧ ∀ ad, a = some ad → ∀ (j : Nat) u, news[j]? = some u → w.cell? (ad.add j) = some u

theorem Seg.src (h : Seg w base e sz v n xs) : Src w v n xs := by
  rcases h.at' with ⟨rfl, rfl⟩ | ⟨g, o, cap, cur, rfl, _, hg, _, _, _, h4⟩
  · exact ⟨none, 0, rfl, fun _ => rfl, fun ad h => by cases h⟩
  · refine ⟨some ⟨g, o, none⟩, cap, rfl, (fun h => by cases h), fun ad h j u hu => ?_⟩
    cases h
    rw [add_plain, cell_at hg]
    rw [← h4, List.getElem?_take] at hu
    split at hu
    · simpa using hu
    · cases hu

section
variable {P : Program}
theorem run_room_seg (w : World) (t ty e : TypeId) (i : TypeInfo) (ht : P.underlying t = some (.slice e)) (hi : P.info? e = some i)
    (g o sLen sCap : Nat) (cur : Array Value) (hg : w.heap[g]? = some (.cells cur e (0, 0)))
    (a : Addr) (m c : Nat) (news : List Value) (hl : news.length = m * i.size) (hnews : ∀ (j : Nat) u, news[j]? = some u → w.cell? (a.add j) = some u) (h1 : ∀ u ∈ news, u.oneCell' = true)
    (hroom : sLen + m ≤ sCap) (hfit : o + sLen * i.size + news.length ≤ cur.size) :
    (Builtin.append_ #[t, t] ty #[.slice (some ⟨g, o, none⟩) sLen sCap, .slice (some a) m c]).run P w =
      .ok (.slice (some ⟨g, o, none⟩) (sLen + m) sCap) (w.setRow g (cur.toList.take (o + sLen * i.size) ++ news ++ cur.toList.drop (o + sLen * i.size + news.length)).toArray) := by
  have hf := run_firstCells_some (P := P) w i.size m a m c news hl hnews
  have hst := run_storeCells_at P g (o + sLen * i.size) e news 0 cur w hg (by simpa using hfit) h1
  simp only [Nat.add_zero] at hst
  simp [Builtin.append_, run_underlying ht, sizeOf, typeInfo, hi, Builtin.lenOf, hroom, hf, add_plain, hst]

theorem run_seg_none (w : World) (base : Nat) (t ty e : TypeId) (i : TypeInfo) (size : Nat) (ht : P.underlying t = some (.slice e)) (hi : P.info? e = some i)
    (v : Value) (n : Nat) (xs : List Value) (h : Seg w base e size v n xs) (c : Nat) : (Builtin.append_ #[t, t] ty #[v, .slice none 0 c]).run P w = .ok v w := by
  rcases h.at' with ⟨rfl, rfl⟩ | ⟨g, o, cap, cur, rfl, _, _, hnc, _⟩
  · simp [Builtin.append_, run_underlying ht, sizeOf, typeInfo, hi, Builtin.lenOf, Builtin.firstCells]
  · simp [Builtin.append_, run_underlying ht, sizeOf, typeInfo, hi, Builtin.lenOf, Builtin.firstCells, hnc, storeCells]

/-- What an append leaves. -/
structure Appended (w w' : World) (base : Nat) (e : TypeId) (sz : Nat) (v v' : Value) (n : Nat) (xs : List Value) : Prop where
  seg : Seg w' base e sz v' n xs
  u : Upd (fun b => v.ownBlock = some b) w w'
  blk : v'.ownBlock = v.ownBlock ∨ ∀ b, v'.ownBlock = some b → w.heap.size ≤ b

theorem run_append_seg (w : World) (base : Nat) (t ty e : TypeId) (i : TypeInfo) (z : Value) (size bytes : Nat) (ht : P.underlying t = some (.slice e)) (hi : P.info? e = some i) (hz : i.zero = some z)
    (hsize : i.size = size) (hby : i.bytes = bytes) (hzs : z.cells.size = size) (_hsz : 0 < size)
    (v : Value) (n : Nat) (xs : List Value) (hown : Seg w base e size v n xs)
    (x : Value) (m : Nat) (news : List Value) (hl : news.length = m * size) (hx : Src w x m news) (h1 : ∀ u ∈ news, u.oneCell' = true)
    (h63 : n + m ≤ maxLen) (hbytes : (n + m) * bytes ≤ 140737488355328) (hbase : base ≤ w.heap.size) :
    ∃ v' w', (Builtin.append_ #[t, t] ty #[v, x]).run P w = .ok v' w' ∧ Appended w w' base e size v v' (n + m) (xs ++ news) ∧ (v' = .slice none 0 0 ↔ v = .slice none 0 0 ∧ m = 0) := by
  subst hsize
  subst hby
  obtain ⟨a, c, rfl, hnone, hsrc⟩ := hx
  have hsmall : n + m ≤ 9223372036854775807 := by simp only [maxLen] at h63; omega
  have hlen : (xs ++ news).length = (n + m) * i.size := by rw [List.length_append, hown.len, hl, Nat.add_mul]
  cases a with
  | none =>
    obtain rfl := hnone rfl
    obtain rfl : news = [] := List.eq_nil_of_length_eq_zero (by omega)
    exact ⟨v, w, run_seg_none w base t ty e i i.size ht hi v n xs hown c, ⟨by simpa using hown, Upd.refl _ _, .inl rfl⟩, by simp⟩
  | some a =>
  have hnews := hsrc a rfl
  have grown : ∀ (old : Nat), old < n + m → ∀ v : Value,
      Appended w (w.drew.alloc (.cells (xs.toArray ++ news.toArray ++ Builtin.zeroCells z.cells (grownCap w (n + m) old e - (n + m))) e)) base e i.size v (.slice (some ⟨w.heap.size, 0, none⟩) (n + m) (grownCap w (n + m) old e)) (n + m) (xs ++ news) := by
    intro old ho v
    have hge := grownCap_ge w (n + m) old e
    have hcm : grownCap w (n + m) old e ≤ maxLen := grownCap_le_maxLen w (n + m) old e h63
    refine ⟨⟨hlen, .inr ⟨w.heap.size, 0, _, _, rfl, hbase, heap_alloc_new w.drew _, hge, hcm, ?_, ?_⟩⟩, ((Upd.refl _ w).drew).alloc _, .inr fun b hb => ?_⟩
    · simp only [Array.size_append, List.size_toArray, size_zeroCells, hzs, hown.len, hl, ← Nat.add_mul]
      rw [Nat.zero_add]
      refine Nat.mul_le_mul_right _ ?_
      omega
    · simp only [Array.toList_append, List.append_assoc, List.drop_zero]
      rw [← List.append_assoc, ← hlen]
      exact List.take_left
    · simp only [Value.ownBlock, Option.some.injEq] at hb
      omega
  rcases hown.at' with ⟨rfl, rfl⟩ | ⟨g, o, cap, cur, rfl, hbg, hg, hnc, hcm, hcs, htake⟩
  · have hxs : xs = [] := List.eq_nil_of_length_eq_zero (by simpa using hown.len)
    subst hxs
    by_cases hm : m = 0
    · subst hm
      have hn : news = [] := List.eq_nil_of_length_eq_zero (by simpa using hl)
      subst hn
      refine ⟨.slice none 0 0, w, ?_, ⟨by simpa using hown, Upd.refl _ _, .inl rfl⟩, by simp⟩
      simp [Builtin.append_, run_underlying ht, sizeOf, typeInfo, hi, Builtin.lenOf, Builtin.firstCells, loadCells, loadCellsFrom]
    · have hr := run_append_nil (P := P) w t ty e i z ht hi hz a m c news hl hnews (by omega) (by omega) (by have hb := hbytes; simp only [Nat.zero_add] at hb; omega)
      have hgr := grown 0 (by omega) (.slice none 0 0)
      simp only [Nat.zero_add, List.nil_append, Array.empty_append] at hgr ⊢
      exact ⟨_, _, hr, hgr, by simp [hm]⟩
  · by_cases hroom : n + m ≤ cap
    · have hle : (n + m) * i.size ≤ cap * i.size := Nat.mul_le_mul_right _ hroom
      rw [Nat.add_mul] at hle
      have hfit : o + n * i.size + news.length ≤ cur.size := by rw [hl]; omega
      have hr := run_room_seg (P := P) w t ty e i ht hi g o n cap cur hg a m c news hl hnews h1 hroom hfit
      refine ⟨_, _, hr, ⟨⟨hlen, .inr ⟨g, o, cap, _, rfl, hbg, setRow_heap w g cur _ e _ hg, hroom, hcm, ?_, ?_⟩⟩, ⟨rfl, rfl, rfl, by simp, fun k _ hk => setRow_other w g k _ (fun e => hk (by simp [Value.ownBlock, e]))⟩, .inl rfl⟩, by simp⟩
      · simp only [List.size_toArray, List.length_append, List.length_take, List.length_drop, Array.length_toList]
        omega
      · have hlo : o ≤ cur.toList.length := by simp; omega
        have h2 : cur.toList.take (o + n * i.size) = cur.toList.take o ++ (cur.toList.drop o).take (n * i.size) := List.take_add
        rw [h2, htake, List.append_assoc, List.append_assoc]
        rw [List.drop_append_of_le_length (by simp; omega), List.drop_eq_nil_of_le (by simp; omega), List.nil_append, ← List.append_assoc, ← hlen]
        exact List.take_left
    · have holds : ∀ (j : Nat) u, xs[j]? = some u → w.cell? ((⟨g, o, none⟩ : Addr).add j) = some u := by
        obtain ⟨_, _, h0, _, hs⟩ := hown.src
        cases h0
        exact hs _ rfl
      have hr := run_append_grow (P := P) w t ty e i z ht hi hz ⟨g, o, none⟩ n cap xs hown.len holds a m c news hl hnews (by omega) (by omega) (growslice_fits (by omega) hbytes)
      exact ⟨_, _, hr, grown cap (by omega) _, by simp⟩

theorem wp_append_seg {o : Oper} {a : Act} {K : Act → World → Prop} {Q : Exit → Act → World → Prop} (w : World) (s x : Operand) (t : TypeId)
    (ho : o.op = .call { callee := .builtin .append, args := #[s, x], argTypes := #[t, t] })
    (base : Nat) (e : TypeId) (i : TypeInfo) (z : Value) (size bytes : Nat) (ht : P.underlying t = some (.slice e)) (hi : P.info? e = some i) (hz : i.zero = some z)
    (hsize : i.size = size) (hby : i.bytes = bytes) (hzs : z.cells.size = size) (hsz : 0 < size)
    (v : Value) (n : Nat) (xs : List Value) (hs : a.eval s = v) (hown : Seg w base e size v n xs)
    (xv : Value) (m : Nat) (news : List Value) (hxv : a.eval x = xv) (hl : news.length = m * size) (hx : Src w xv m news) (h1 : ∀ u ∈ news, u.oneCell' = true)
    (h63 : n + m ≤ maxLen) (hbytes : (n + m) * bytes ≤ 140737488355328) (hbase : base ≤ w.heap.size)
    (h : ∀ v' w', Appended w w' base e size v v' (n + m) (xs ++ news) → (v' = .slice none 0 0 ↔ v = .slice none 0 0 ∧ m = 0) → K (a.put o.dst v') w') : o.wp P a w K Q := by
  obtain ⟨v', w', hr, h2, h3⟩ := run_append_seg (P := P) w base t o.type e i z size bytes ht hi hz hsize hby hzs hsz v n xs hown xv m news hl hx h1 h63 hbytes hbase
  unfold Oper.wp execOp
  simp only [ho, resolve, invoke, builtin, Sem.run_bind, Sem.run_pure, Result.andThen_ok, List.map_toArray, List.map_cons, List.map_nil, hs, hxv, hr]
  exact h v' w' h2 h3

theorem wpList_append_seg {ops : Array Oper} {rest : List Oper} {o : Oper} {a : Act} {Q : Exit → Act → World → Prop} (w : World) (hgd : o.guard = none) (s x : Operand) (t : TypeId)
    (ho : o.op = .call { callee := .builtin .append, args := #[s, x], argTypes := #[t, t] })
    (base : Nat) (e : TypeId) (i : TypeInfo) (z : Value) (size bytes : Nat) (ht : P.underlying t = some (.slice e)) (hi : P.info? e = some i) (hz : i.zero = some z)
    (hsize : i.size = size) (hby : i.bytes = bytes) (hzs : z.cells.size = size) (hsz : 0 < size)
    (v : Value) (n : Nat) (xs : List Value) (hs : a.eval s = v) (hown : Seg w base e size v n xs)
    (xv : Value) (m : Nat) (news : List Value) (hxv : a.eval x = xv) (hl : news.length = m * size) (hx : Src w xv m news) (h1 : ∀ u ∈ news, u.oneCell' = true)
    (h63 : n + m ≤ maxLen) (hbytes : (n + m) * bytes ≤ 140737488355328) (hbase : base ≤ w.heap.size)
    (h : ∀ v' w', Appended w w' base e size v v' (n + m) (xs ++ news) → (v' = .slice none 0 0 ↔ v = .slice none 0 0 ∧ m = 0) → wpList P ops Q rest (a.put o.dst v') w') : wpList P ops Q (o :: rest) a w :=
  wpList_plain hgd fun _ hK => wp_append_seg w s x t ho base e i z size bytes ht hi hz hsize hby hzs hsz v n xs hs hown xv m news hxv hl hx h1 h63 hbytes hbase fun v' w' h2 h3 => hK _ _ (h v' w' h2 h3)
end

/-- The rest of it from element k on, as memory: whatever address an empty rest is given. -/
theorem Seg.drop {g o cap k : Nat} (h : Seg w base e sz (.slice (some ⟨g, o, none⟩) n cap) n xs) (hk : k ≤ n) : Seg w base e sz (.slice (some ⟨g, o + k * sz, none⟩) (n - k) (cap - k)) (n - k) (xs.drop (k * sz)) := by
  have hks : k * sz ≤ n * sz := Nat.mul_le_mul_right _ hk
  refine ⟨by rw [List.length_drop, h.len, Nat.sub_mul], ?_⟩
  rcases h.at' with ⟨h0, _⟩ | ⟨g', o', cap', cur, h0, hb, hg, h1, h2, h3, h4⟩
  · cases h0
  · simp only [Value.slice.injEq, Option.some.injEq, Addr.mk.injEq, and_true, true_and] at h0
    obtain ⟨⟨rfl, rfl⟩, rfl⟩ := h0
    have hc : k * sz ≤ cap * sz := Nat.mul_le_mul_right _ (by omega)
    refine .inr ⟨g, o + k * sz, cap - k, cur, rfl, hb, hg, by omega, by omega, ?_, ?_⟩
    · rw [Nat.sub_mul]
      omega
    · rw [← h4, List.drop_take, List.drop_drop, Nat.sub_mul]
/-- The first k elements. -/
theorem Seg.take {a : Option Addr} {cap k : Nat} (h : Seg w base e sz (.slice a n cap) n xs) (hk : k ≤ n) : Seg w base e sz (.slice a k cap) k (xs.take (k * sz)) := by
  have hks : k * sz ≤ n * sz := Nat.mul_le_mul_right _ hk
  refine ⟨by rw [List.length_take, h.len]; omega, ?_⟩
  rcases h.at' with ⟨h0, h5⟩ | ⟨g', o', cap', cur, h0, hb, hg, h1, h2, h3, h4⟩
  · simp only [Value.slice.injEq] at h0
    obtain ⟨rfl, _, rfl⟩ := h0
    obtain rfl : k = 0 := by omega
    exact .inl ⟨rfl, rfl⟩
  · simp only [Value.slice.injEq, true_and] at h0
    obtain ⟨rfl, rfl⟩ := h0
    refine .inr ⟨g', o', cap, cur, rfl, hb, hg, by omega, h2, h3, ?_⟩
    rw [← h4, List.take_take, Nat.min_eq_left hks]
end Go.Proofs.YtkjkgpdfhmoenaaDoor.Seg
namespace Go.Proofs.YtkjkgpdfhmoenaaDoor.Round
open Go Go.RowKit Go.Proofs.YtkjkgpdfhmoenaaDoor.Kit

/-- What was changed since w, and then since A: blocks of S alone lie otherwise in B than in w. -/
theorem grow {S X : Nat → Prop} {w A B : World} (h : Upd S w A) (k : Upd X A B) (hX : ∀ b, b < w.heap.size → X b → S b) : Upd S w B :=
  ⟨k.os.trans h.os, k.tape.trans h.tape, k.output.trans h.output, Nat.le_trans h.size k.size, fun b hb hn => (k.block b (Nat.lt_of_lt_of_le hb h.size) (fun hx => hn (hX b hb hx))).trans (h.block b hb hn)⟩
theorem grow_below {S : Nat → Prop} {w A B : World} (h : Upd S w A) (k : Below A.heap.size A B) : Upd S w B := grow (X := fun _ => False) h (Upd.of_below k) (fun _ _ h => h.elim)
theorem Upd.mem {S : Nat → Prop} {w A : World} (h : Upd S w A) {b : Nat} {o : Obj} (hb : w.heap[b]? = some o) (hn : ¬ S b) : A.heap[b]? = some o := (h.block b (lt_of_heap hb) hn).trans hb

/-- What lies there is put there. -/
theorem set_same {w : World} {b o : Nat} {v : Value} (h : w.cell? ⟨b, o, none⟩ = some v) : w.setCell ⟨b, o, none⟩ v = w := by
  have : (w.setCell ⟨b, o, none⟩ v).heap = w.heap := by
    apply Array.ext_getElem?
    intro i
    by_cases hi : i = b
    · subst hi
      unfold World.cell? at h
      split at h
      · rename_i c t fr hh
        rw [heap_set hh o v, hh]
        have h1 : c.setIfInBounds o v = c := by
          apply Array.ext_getElem?
          intro j
          rw [Array.getElem?_setIfInBounds]
          split
          · rename_i hj
            subst hj
            simp only [Option.isSome_none, Bool.false_eq_true, if_false] at h
            rw [h]
            split
            · rfl
            · rename_i hz
              rw [Array.getElem?_eq_none (by omega)] at h
              cases h
          · rfl
        rw [h1]
      · cases h
    · exact Below.heap_setCell _ _ _ _ hi
  show { w with heap := (w.setCell ⟨b, o, none⟩ v).heap } = w
  rw [this]
theorem set_later {W : World} {b o : Nat} {v : Value} (h : W.cell? ⟨b, o, none⟩ = some v) (hb : b < W.heap.size) (x : Later W) : x.w.setCell ⟨b, o, none⟩ v = x.w := set_same ((x.h.cell (p := ⟨b, o, none⟩) hb).trans h)

section
variable {P : Program} {ops : Array Oper}

/-- No operation puts a call off. -/
def calmOps (l : List Oper) : Bool := l.all fun o => match o.op with | .defer _ => false | _ => true

theorem calm_at {l : List Oper} (h : calmOps l = true) {i : Nat} {o : Oper} (ho : l.toArray[i]? = some o) : ∀ c, o.op ≠ .defer c := by
  intro c hc
  have h1 : o ∈ l := by
    rw [List.getElem?_toArray] at ho
    exact List.mem_of_getElem? ho
  have h2 := List.all_eq_true.1 h o h1
  rw [hc] at h2
  cases h2

theorem oper_in {o : Oper} (hd : ∀ c, o.op ≠ .defer c) {l0 : Nat} {a : Act} {w : World} {R : Act → World → Prop} {K K' : Act → World → Prop} {Q : Exit → Act → World → Prop} (hK : ∀ a w, K a w → K' a w)
    (h : o.wp P a w K (OnlyNormal R)) : o.wpIn (Fence.wide.inRound l0) 0 P a w K' Q := by
  refine ⟨fun _ _ => trivial, ?_⟩
  rw [Oper.semAt_eq _ _ _ hd]
  unfold Oper.wp at h
  generalize (execOp a.eval o).run P w = r at h ⊢
  have no : ∀ {R : Act → World → Prop}, ¬ LetsOut (OnlyNormal R) := fun ⟨_, _, h⟩ => h
  cases r with
  | ok x w' =>
    cases x with
    | value v => exact hK _ _ h
    | skip => exact hK _ _ h
    | defer d => exact hK _ _ h
    | enter f args =>
      refine ⟨(fun q => by cases q), CallsIn.inRound l0 (callsIn_wide.2 (Calls.mono h ?_))⟩
      intro e w'' he
      match e, he with
      | .returned v, he => exact hK _ _ he
      | .panicked c, he => exact he.elim
      | .outgrown, he => exact (no he).elim
    | row row args =>
      refine ⟨(fun q => by cases q), fun c cs _ => ?_⟩
      obtain ⟨v, w'', r, s⟩ := Rows.mono h (R' := fun v w'' => K' (a.put o.dst v) w'') (fun _ _ he => hK _ _ he) c cs
      exact ⟨v, w'', r, stepsIn_wide.2 s⟩
    | _ => exact h.elim
  | halt x w' =>
    cases x with
    | panic v => exact h.elim
    | _ => exact h.elim

theorem any_in {l : List Oper} (hd : calmOps l = true) {l0 : Nat} {Q : Exit → Act → World → Prop} : ∀ (n : Nat) (listed : Array Bool) (a : Act) (w : World),
    wpAny P .any l.toArray (OnlyNormal (Q .normal)) n listed a w → wpAnyIn (Fence.wide.inRound l0) 0 P .any l.toArray Q n listed a w
  | 0, _, _, _, h => h
  | n + 1, listed, a, w, h => by
    refine ⟨h.1, fun i hi => ?_⟩
    have h2 := h.2 i hi
    unfold wpOp at h2
    unfold wpOpIn
    cases ho : l.toArray[i]? with
    | none =>
      rw [ho] at h2
      exact any_in hd n _ a w h2
    | some o =>
      rw [ho] at h2
      simp only at h2 ⊢
      split
      · rename_i hw
        rw [if_pos hw] at h2
        rcases h2 with h2 | ⟨_, a1, w1, h3⟩
        · exact oper_in (calm_at hd ho) (fun a w h => any_in hd n _ a w h) h2
        · exact h3.elim
      · rename_i hw
        rw [if_neg hw] at h2
        exact ⟨fun _ _ => trivial, any_in hd n _ _ w h2⟩

variable {id : Nat} {Q : Exit → Act → World → Prop} {a : Act} {W : World} {l : List Oper} {l0 : Nat}

/-- 'region_tail', in a round. -/
theorem region_tail_in (n : Nat) (hm : P.follows .mixedOrders = true) (hB : Region.lexTailB .any l.toArray n = true) (hd : calmOps l = true)
    (h : wpStill P l.toArray W.drew (fun a' => wpList P l.toArray (OnlyNormal (Q .normal)) (l.drop n) a' W.drew) (l.take n) a) : (Code.region id l.toArray true).wpIn (Fence.wide.inRound l0) 0 P Q a W := by
  simp only [Region.lexTailB, Bool.and_eq_true, decide_eq_true_eq] at hB
  obtain ⟨⟨⟨⟨hsel, hn⟩, hs⟩, hc⟩, hlex⟩ := hB
  have hn' : n < l.length := by simpa using hn
  have htl : (l.take n).length = n := by simp; omega
  have hdl : (l.drop n).length = l.toArray.size - n := by simp
  have inv0 : HeadInv .any l.toArray n (Array.replicate l.toArray.size false) :=
    ⟨by simp, fun j oj _ hl => (by rw [getD_replicate_false] at hl; cases hl), fun t _ ht => getD_in (by simpa using ht) (getD_replicate_false _ _)⟩
  have H := wpAnyL_lex (md := .any) (g := l.toArray.size - n) hsel hs hc hn (l.take n) 0 _ a (fun j hj => by
    have hj' : j < n := by rw [htl] at hj; exact hj
    simp [hj']) (by simpa using htl) inv0 (by rw [htl]; exact hlex) h
  refine wpIn_region_any hm (any_in hd _ _ _ _ ?_)
  have := wpAny_of_head (Q' := OnlyNormal (Q .normal)) (g := l.toArray.size - n) (fun listed a' hL => by
    have := wpAny_of_seq (md := .any) (Q' := OnlyNormal (Q .normal)) (l.drop n) n listed a' { W with drawn := W.drawn + 1 } (fun j => by simp [List.getElem?_drop]) (by rw [hdl]; exact hL.1) hL.2
    rwa [hdl] at this) _ _ _ H
  rw [htl, show n + (l.toArray.size - n) = l.toArray.size by omega] at this
  exact this

/-- 'region_later', in a round. -/
theorem region_later_in (n : Nat) (hm : P.follows .mixedOrders = true) (hB : Region.lexTailB .any l.toArray n = true) (hd : calmOps l = true)
    (h : wpQuiet P l.toArray (fun w' => ∃ x : Later W, w' = x.w) (fun a' => ∀ x : Later W, wpList P l.toArray (OnlyNormal (Q .normal)) (l.drop n) a' x.w) (l.take n) a) : (Code.region id l.toArray true).wpIn (Fence.wide.inRound l0) 0 P Q a W := by
  simp only [Region.lexTailB, Bool.and_eq_true, decide_eq_true_eq] at hB
  obtain ⟨⟨⟨⟨hsel, hn⟩, hs⟩, hc⟩, hlex⟩ := hB
  have hn' : n < l.length := by simpa using hn
  have htl : (l.take n).length = n := by simp; omega
  have hdl : (l.drop n).length = l.toArray.size - n := by simp
  have inv0 : HeadInv .any l.toArray n (Array.replicate l.toArray.size false) :=
    ⟨by simp, fun j oj _ hl => (by rw [getD_replicate_false] at hl; cases hl), fun t _ ht => getD_in (by simpa using ht) (getD_replicate_false _ _)⟩
  have H := anyLQ_lex (md := .any) (g := l.toArray.size - n) hsel hs hc hn (l.take n) 0 _ a (fun j hj => by
    have hj' : j < n := by rw [htl] at hj; exact hj
    simp [hj']) (by simpa using htl) inv0 (by rw [htl]; exact hlex) h
  refine wpIn_region_any hm (any_in hd _ _ _ _ ?_)
  rw [show l.toArray.size = n + (l.toArray.size - n) by omega]
  rw [htl] at H
  refine any_of_headQ (C := fun w' => ∃ x : Later W, w' = x.w) (fun listed a' w' hw' hL => ?_) n _ a _ ⟨⟨_, (Below.refl _ _).drew⟩, rfl⟩ (by simpa [show n + (l.length - n) = l.length by omega] using H)
  obtain ⟨x, rfl⟩ := hw'
  have := wpAny_of_seq (P := P) (md := .any) (Q' := OnlyNormal (Q .normal)) (l.drop n) n listed a' x.w (fun j => by simp) (by rw [hdl]; exact hL.1) (hL.2 x)
  rwa [hdl] at this

/-- 'region_calm', in a round. -/
theorem region_calm_in (hm : P.follows .mixedOrders = true) (hB : Region.lexB .any l.toArray = true) (hd : calmOps l = true)
    (h : wpQuiet P l.toArray (fun w' => ∃ x : Later W, w' = x.w) (fun a' => ∀ w', (∃ x : Later W, w' = x.w) → Q .normal a' w') l a) : (Code.region id l.toArray true).wpIn (Fence.wide.inRound l0) 0 P Q a W := by
  simp only [Region.lexB, Bool.and_eq_true] at hB
  refine wpIn_region_any hm (any_in hd _ _ _ _ (wpAny_of_quiet (C := fun w' => ∃ x : Later W, w' = x.w) (Q' := OnlyNormal (Q .normal)) (Q := fun a' => ∀ w', (∃ x : Later W, w' = x.w) → Q .normal a' w') (fun _ w' hw' h => h w' hw') _ _ _ _ ⟨⟨_, (Below.refl _ _).drew⟩, rfl⟩ ?_))
  have := wpAnyQ_lex (C := fun w' => ∃ x : Later W, w' = x.w) (md := .any) hB.1 l 0 (Array.replicate l.length false) a (by simp) (by simpa using hB.2) h
  simpa using this
end
end Go.Proofs.YtkjkgpdfhmoenaaDoor.Round
namespace Go.Proofs.YtkjkgpdfhmoenaaDoor.Collect
open Go Go.RowKit Go.Proofs.YtkjkgpdfhmoenaaDoor.Kit Go.Proofs.YtkjkgpdfhmoenaaDoor.Round Go.Proofs.YtkjkgpdfhmoenaaDoor.Seg

/-- A slice's type, its elements' type, their cells and bytes. -/
structure Elem (P : Program) (t e : TypeId) (z : Value) (sz by' : Nat) : Prop where
  t : P.underlying t = some (.slice e)
  e : (P.info? e).map (fun i => (i.zero, i.size, i.bytes)) = some (some z, sz, by')
  z : z.cells.size = sz
  p : 0 < sz

theorem Elem.parts {P : Program} {t e : TypeId} {z : Value} {sz by' : Nat} (h : Elem P t e z sz by') : ∃ i, P.info? e = some i ∧ i.zero = some z ∧ i.size = sz ∧ i.bytes = by' := by
  have h1 := h.e
  cases hi : P.info? e with
  | none => rw [hi] at h1; cases h1
  | some i =>
    rw [hi] at h1
    simp only [Option.map_some, Option.some.injEq, Prod.mk.injEq] at h1
    exact ⟨i, rfl, h1.1, h1.2.1, h1.2.2⟩

/-- The list in the cell at bl: n elements, whose cells are xs, in a row of its own made since w0; since w0 that cell alone was changed. -/
structure Col (t e : TypeId) (sz n : Nat) (xs : List Value) (bl : Nat) (w0 : World) (v : Value) (W : World) : Prop where
  u : Upd (fun b => b = bl) w0 W
  c : W.heap[bl]? = some (.cells #[v] t (0, 0))
  r : Seg W w0.heap.size e sz v n xs

variable {P : Program} {t e : TypeId} {sz by' n : Nat} {xs : List Value} {bl : Nat} {w0 A B : World} {v z : Value}

theorem Col.keep (h : Col t e sz n xs bl w0 v A) {X : Nat → Prop} (hu : Upd X A B) (h1 : ¬ X bl) (h2 : ∀ b, v.ownBlock = some b → ¬ X b) (h4 : ∀ b, b < w0.heap.size → ¬ X b) : Col t e sz n xs bl w0 v B :=
  ⟨grow h.u hu (fun b hb hx => (h4 b hb hx).elim), Upd.mem hu h.c h1, h.r.upd hu h2⟩
theorem Col.below (h : Col t e sz n xs bl w0 v A) (hb : Below A.heap.size A B) : Col t e sz n xs bl w0 v B := h.keep (X := fun _ => False) (Upd.of_below hb) id (fun _ _ => id) (fun _ _ => id)

/-- One more is put behind. -/
theorem Col.next (E : Elem P t e z sz by') (h : Col t e sz n xs bl w0 v A) {bb : Nat} {news : List Value} (hb : A.heap[bb]? = some (.cells news.toArray e (0, 0))) (hl : news.length = sz) (h1 : ∀ u ∈ news, u.oneCell' = true)
    (h63 : n + 1 ≤ maxLen) (hby : (n + 1) * by' ≤ 140737488355328) (hlb : bl < w0.heap.size) (ty : TypeId) :
    ∃ v' A', (Builtin.append_ #[t, t] ty #[v, .slice (some ⟨bb, 0, none⟩) 1 1]).run P A = .ok v' A' ∧ A'.heap[bl]? = some (.cells #[v] t (0, 0)) ∧ Col t e sz (n + 1) (xs ++ news) bl w0 v' (A'.setCell ⟨bl, 0, none⟩ v') ∧
      Upd (fun b => b = bl ∨ v.ownBlock = some b) A (A'.setCell ⟨bl, 0, none⟩ v') ∧ (∀ b, v'.ownBlock = some b → v.ownBlock = some b ∨ A.heap.size ≤ b) ∧ (∃ a c, v' = .slice (some a) (n + 1) c) ∧ A.heap.size ≤ A'.heap.size := by
  obtain ⟨i, hi, hz0, hz1, hz2⟩ := E.parts
  have hsrc : Src A (.slice (some ⟨bb, 0, none⟩) 1 1) 1 news := by
    refine ⟨some ⟨bb, 0, none⟩, 1, rfl, (fun h => by cases h), fun ad had j u hu => ?_⟩
    cases had
    rw [add_plain, cell_at hb]
    simpa using hu
  obtain ⟨v', A', hr, ha, hnil⟩ := run_append_seg (P := P) A w0.heap.size t ty e i z sz by' E.t hi hz0 hz1 hz2 E.z E.p v n xs h.r (.slice (some ⟨bb, 0, none⟩) 1 1) 1 news (by rw [hl]; omega) hsrc h1 h63 hby h.u.size
  have hown : ∀ b, v.ownBlock = some b → w0.heap.size ≤ b := fun b hb => (h.r.lt b hb).1
  have hown' : ∀ b, v'.ownBlock = some b → v.ownBlock = some b ∨ A.heap.size ≤ b := by
    intro b hb
    rcases ha.blk with h2 | h2
    · exact .inl (by rw [← h2]; exact hb)
    · exact .inr (h2 b hb)
  have hnb : ¬ v.ownBlock = some bl := fun hh => by have := hown _ hh; omega
  have hc' := Upd.mem ha.u h.c hnb
  have u2 : Upd (fun b => b = bl) A' (A'.setCell ⟨bl, 0, none⟩ v') := Upd.setCell (S := fun b => b = bl) (p := ⟨bl, 0, none⟩) (Upd.refl _ _) (fun _ => rfl) _
  have hu : Upd (fun b => b = bl ∨ v.ownBlock = some b) A (A'.setCell ⟨bl, 0, none⟩ v') := (ha.u.mono fun _ _ h => .inr h).trans (u2.mono fun _ _ h => .inl h)
  refine ⟨v', A', hr, hc', ⟨grow h.u hu (fun b hb hx => ?_), ?_, ?_⟩, hu, hown', ?_, ha.u.size⟩
  · rcases hx with hx | hx
    · exact hx
    · have := hown _ hx; omega
  · rw [heap_set hc' 0 v']
    rfl
  · refine ha.seg.upd u2 (fun b hb he => ?_)
    subst he
    rcases hown' _ hb with h3 | h3
    · exact hnb h3
    · have := h.u.size; omega
  · rcases ha.seg.at' with ⟨h3, h4⟩ | ⟨g, o, cap, cur, h3, _⟩
    · omega
    · exact ⟨_, _, h3⟩
/-- An append whose run is known, in a walk. -/
theorem append_run {w w' : World} {ops : Array Oper} {rest : List Oper} {o : Oper} {a : Act} {Q : Exit → Act → World → Prop} {x : Operand} {s : Operand} {v xv v' : Value} (hg : o.guard = none)
    (hop : o.op = Op.call { callee := Callee.builtin Builtin.append, args := #[s, x], argTypes := #[t, t] }) (hs : a.eval s = v) (hx : a.eval x = xv) (hrun : (Builtin.append_ #[t, t] o.type #[v, xv]).run P w = .ok v' w')
    (h : wpList P ops Q rest (a.put o.dst v') w') : wpList P ops Q (o :: rest) a w :=
  wpList_plain hg fun K hK' => by
    unfold Oper.wp execOp
    simp only [hop, resolve, invoke, builtin, Sem.run_bind, Sem.run_pure, Result.andThen_ok, List.map_toArray, List.map_cons, List.map_nil, hs, hx, hrun]
    exact hK' _ _ h
/-- The same behind a fence. -/
theorem append_run_in {F : Fence} {k : Nat} {w w' : World} {ops : Array Oper} {rest : List Oper} {o : Oper} {a : Act} {Q : Exit → Act → World → Prop} {x : Operand} {s : Operand} {v xv v' : Value} (hg : o.guard = none)
    (hop : o.op = Op.call { callee := Callee.builtin Builtin.append, args := #[s, x], argTypes := #[t, t] }) (hs : a.eval s = v) (hx : a.eval x = xv) (hrun : (Builtin.append_ #[t, t] o.type #[v, xv]).run P w = .ok v' w')
    (h : wpListIn F k P ops Q rest (a.put o.dst v') w') : wpListIn F k P ops Q (o :: rest) a w :=
  wpListIn_plain hg fun K hK' => by
    unfold Oper.wpIn
    refine ⟨?_, ?_⟩
    · simp [Oper.about, hop, resolve, Target.leads, Sem.run_pure]
    · rw [Oper.semAt_plain F _ _ (by rw [hop]; intro c hc'; cases hc')]
      simp [execOp, hop, resolve, invoke, builtin, hs, hx, hrun, Result.andThen]
      exact hK' _ _ h
end Go.Proofs.YtkjkgpdfhmoenaaDoor.Collect
namespace Go.Proofs.YtkjkgpdfhmoenaaDoor.Rgin
open Go Go.RowKit Go.Proofs.YtkjkgpdfhmoenaaDoor.Kit
section
variable {P : Program}
theorem RGO_begin_in (A : World → Prop) (k N : Nat) (ord : List (Nat × Nat)) {Q : Exit → Act → World → Prop} {id : Nat} {a : Act} {w : World} {l : List Oper} {l0 : Nat} (hn : l.length = N) (hl : Array.replicate N false = Rgu.bits N 0) (hm : P.follows .mixedOrders = true) (hd : Round.calmOps l = true) (hS : A w.drew)
    (h : ∀ R : Act → World → Prop, (∀ a w, Q .normal a w → R a w) → Rgu.RGO P l.toArray R A k N 0 ord N a w.drew) : (Code.region id l.toArray true).wpIn (Fence.wide.inRound l0) 0 P Q a w := by
  refine wpIn_region_any hm (Round.any_in hd _ _ _ _ ?_)
  refine Rgu.any_of_K (A := A) (k := k) _ _ _ _ ?_
  have h' := h _ (fun _ _ h => h) hS
  rw [← hl] at h'
  subst hn
  simpa using h'
theorem RGT_begin_in (S : World → Prop) (N : Nat) (ord : List (Nat × Nat)) {Q : Exit → Act → World → Prop} {id : Nat} {a : Act} {w : World} {l : List Oper} {l0 : Nat} (hn : l.length = N) (hl : Array.replicate N false = Rgu.bits N 0) (hm : P.follows .mixedOrders = true) (hd : Round.calmOps l = true) (hS : S w.drew)
    (h : ∀ R : Act → World → Prop, (∀ a w, Q .normal a w → R a w) → Rgs.RGT P l.toArray R S N 0 ord N a w.drew) : (Code.region id l.toArray true).wpIn (Fence.wide.inRound l0) 0 P Q a w := by
  refine wpIn_region_any hm (Round.any_in hd _ _ _ _ ?_)
  refine wpAny_of_held (S := S) _ _ _ _ ?_
  have h' := h _ (fun _ _ h => h) hS
  rw [← hl] at h'
  subst hn
  simpa using h'
end
end Go.Proofs.YtkjkgpdfhmoenaaDoor.Rgin
