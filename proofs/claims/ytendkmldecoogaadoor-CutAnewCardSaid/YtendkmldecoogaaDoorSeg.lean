/-
  Slices that lead into a row of the call's own, at any place of it: append, cut, read.
-/
import Derived.Test.YtendkmldecoogaaDoorProg
import Derived.Test.YtendkmldecoogaaDoorKit
import Derived.Laws.AppendOwn
import Derived.Laws.OwnMore
import Derived.Laws.CopyRow
namespace Go.Proofs.YtendkmldecoogaaDoor.Seg
open Go Go.RowKit Go.Proofs.YtendkmldecoogaaDoor.Kit

/-- A slice of n elements of sz cells each, whose cells are xs; it leads into a row of its own at or behind base; or it is nil. -/
structure Seg (w : World) (base : Nat) (e : TypeId) (sz : Nat) (v : Value) (n : Nat) (xs : List Value) : Prop where
  len : xs.length = n * sz
  at' : (v = .slice none 0 0 ∧ n = 0) ∨ ∃ g o cap cur, v = .slice (some ⟨g, o, none⟩) n cap ∧ base ≤ g ∧ w.heap[g]? = some (.cells cur e (0, 0)) ∧ n ≤ cap ∧ cap ≤ maxLen ∧ o + cap * sz ≤ cur.size ∧ (cur.toList.drop o).take (n * sz) = xs

variable {w w' : World} {base : Nat} {e : TypeId} {sz : Nat} {v : Value} {n : Nat} {xs : List Value}

theorem Seg.nil (w : World) (base : Nat) (e : TypeId) (sz : Nat) : Seg w base e sz (.slice none 0 0) 0 [] := ⟨by simp, .inl ⟨rfl, rfl⟩⟩
theorem Seg.of_owns (h : w.ownsRow base e sz v n xs) : Seg w base e sz v n xs := by
  refine ⟨h.1, ?_⟩
  rcases h.2 with h | ⟨g, cap, cur, rfl, hb, hg, hn, hm, hs, ht⟩
  · exact .inl h
  · exact .inr ⟨g, 0, cap, cur, rfl, hb, hg, hn, hm, by omega, by simpa using ht⟩
theorem Seg.lt (h : Seg w base e sz v n xs) : ∀ k, v.ownBlock = some k → base ≤ k ∧ k < w.heap.size := by
  intro k hk
  rcases h.at' with ⟨rfl, _⟩ | ⟨g, o, cap, cur, rfl, hb, hg, _⟩
  · simp [Value.ownBlock] at hk
  · simp only [Value.ownBlock, Option.some.injEq] at hk
    subst hk
    exact ⟨hb, lt_of_heap hg⟩
theorem Seg.keep (h : Seg w base e sz v n xs) (hb : ∀ k, v.ownBlock = some k → k < w.heap.size → w'.heap[k]? = w.heap[k]?) : Seg w' base e sz v n xs := by
  refine ⟨h.len, ?_⟩
  rcases h.at' with h | ⟨g, o, cap, cur, rfl, h1, hg, rest⟩
  · exact .inl h
  · exact .inr ⟨g, o, cap, cur, rfl, h1, (hb g rfl (lt_of_heap hg)).trans hg, rest⟩
theorem Seg.below (h : Seg w base e sz v n xs) (hb : Below w.heap.size w w') : Seg w' base e sz v n xs := h.keep fun _ _ hl => hb.block _ hl
theorem Seg.upd {S : Nat → Prop} (h : Seg w base e sz v n xs) (hu : Upd S w w') (hn : ∀ k, v.ownBlock = some k → ¬ S k) : Seg w' base e sz v n xs := h.keep fun k hk hl => hu.block k hl (hn k hk)
theorem Seg.rebase {base' : Nat} (h : Seg w base e sz v n xs) (hb : ∀ k, v.ownBlock = some k → base' ≤ k) : Seg w base' e sz v n xs := by
  refine ⟨h.len, ?_⟩
  rcases h.at' with h | ⟨g, o, cap, cur, rfl, h1, rest⟩
  · exact .inl h
  · exact .inr ⟨g, o, cap, cur, rfl, hb g rfl, rest⟩
theorem Seg.shape (h : Seg w base e sz v n xs) : ∃ a cap, v = .slice a n cap ∧ n ≤ cap ∧ cap ≤ maxLen ∧ (a = none → n = 0 ∧ cap = 0) := by
  rcases h.at' with ⟨rfl, rfl⟩ | ⟨g, o, cap, cur, rfl, _, _, h1, h2, _⟩
  · exact ⟨none, 0, rfl, Nat.le_refl _, Nat.zero_le _, fun _ => ⟨rfl, rfl⟩⟩
  · exact ⟨some ⟨g, o, none⟩, cap, rfl, h1, h2, fun h => by cases h⟩
theorem Seg.cells {a : Option Addr} {cap : Nat} (h : Seg w base e sz (.slice a n cap) n xs) (hn : 0 < n) : ∃ g o, a = some ⟨g, o, none⟩ ∧ base ≤ g ∧ g < w.heap.size ∧ ∀ (j : Nat) u, xs[j]? = some u → w.cell? ⟨g, o + j, none⟩ = some u := by
  rcases h.at' with ⟨_, rfl⟩ | ⟨g, o, cap', cur, h0, hb, hg, h1, h2, h3, h4⟩
  · omega
  · simp only [Value.slice.injEq, true_and] at h0
    obtain ⟨rfl, rfl⟩ := h0
    refine ⟨g, o, rfl, hb, lt_of_heap hg, fun j u hu => ?_⟩
    rw [cell_at hg]
    rw [← h4, List.getElem?_take] at hu
    split at hu
    · simpa using hu
    · cases hu

/-- The source of an append: the cells of m elements. -/
def Src (w : World) (x : Value) (m : Nat) (news : List Value) : Prop := ∃ a c, x = .slice a m c ∧ (a = none → m = 0) ∧ ∀ ad, a = some ad → ∀ (j : Nat) u, news[j]? = some u → w.cell? (ad.add j) = some u

theorem Seg.src (h : Seg w base e sz v n xs) : Src w v n xs := by
  rcases h.at' with ⟨rfl, rfl⟩ | ⟨g, o, cap, cur, rfl, _, hg, _, _, _, h4⟩
  · exact ⟨none, 0, rfl, fun _ => rfl, fun ad h => by cases h⟩
  · refine ⟨some ⟨g, o, none⟩, cap, rfl, (fun h => by cases h), fun ad h j u hu => ?_⟩
    cases h
    rw [add_plain, cell_at hg]
    rw [← h4, List.getElem?_take] at hu
    split at hu
    · simpa using hu
    · cases hu

section
variable {P : Program}
theorem run_room_seg (w : World) (t ty e : TypeId) (i : TypeInfo) (ht : P.underlying t = some (.slice e)) (hi : P.info? e = some i)
    (g o sLen sCap : Nat) (cur : Array Value) (hg : w.heap[g]? = some (.cells cur e (0, 0)))
    (a : Addr) (m c : Nat) (news : List Value) (hl : news.length = m * i.size) (hnews : ∀ (j : Nat) u, news[j]? = some u → w.cell? (a.add j) = some u) (h1 : ∀ u ∈ news, u.oneCell' = true)
    (hroom : sLen + m ≤ sCap) (hfit : o + sLen * i.size + news.length ≤ cur.size) :
    (Builtin.append_ #[t, t] ty #[.slice (some ⟨g, o, none⟩) sLen sCap, .slice (some a) m c]).run P w =
      .ok (.slice (some ⟨g, o, none⟩) (sLen + m) sCap) (w.setRow g (cur.toList.take (o + sLen * i.size) ++ news ++ cur.toList.drop (o + sLen * i.size + news.length)).toArray) := by
  have hf := run_firstCells_some (P := P) w i.size m a m c news hl hnews
  have hst := run_storeCells_at P g (o + sLen * i.size) e news 0 cur w hg (by simpa using hfit) h1
  simp only [Nat.add_zero] at hst
  simp [Builtin.append_, run_underlying ht, sizeOf, typeInfo, hi, Builtin.lenOf, hroom, hf, add_plain, hst]

theorem run_seg_none (w : World) (base : Nat) (t ty e : TypeId) (i : TypeInfo) (size : Nat) (ht : P.underlying t = some (.slice e)) (hi : P.info? e = some i)
    (v : Value) (n : Nat) (xs : List Value) (h : Seg w base e size v n xs) (c : Nat) : (Builtin.append_ #[t, t] ty #[v, .slice none 0 c]).run P w = .ok v w := by
  rcases h.at' with ⟨rfl, rfl⟩ | ⟨g, o, cap, cur, rfl, _, _, hnc, _⟩
  · simp [Builtin.append_, run_underlying ht, sizeOf, typeInfo, hi, Builtin.lenOf, Builtin.firstCells]
  · simp [Builtin.append_, run_underlying ht, sizeOf, typeInfo, hi, Builtin.lenOf, Builtin.firstCells, hnc, storeCells]

/-- What an append leaves. -/
structure Appended (w w' : World) (base : Nat) (e : TypeId) (sz : Nat) (v v' : Value) (n : Nat) (xs : List Value) : Prop where
  seg : Seg w' base e sz v' n xs
  u : Upd (fun b => v.ownBlock = some b) w w'
  blk : v'.ownBlock = v.ownBlock ∨ ∀ b, v'.ownBlock = some b → w.heap.size ≤ b

theorem run_append_seg (w : World) (base : Nat) (t ty e : TypeId) (i : TypeInfo) (z : Value) (size bytes : Nat) (ht : P.underlying t = some (.slice e)) (hi : P.info? e = some i) (hz : i.zero = some z)
    (hsize : i.size = size) (hby : i.bytes = bytes) (hzs : z.cells.size = size) (_hsz : 0 < size)
    (v : Value) (n : Nat) (xs : List Value) (hown : Seg w base e size v n xs)
    (x : Value) (m : Nat) (news : List Value) (hl : news.length = m * size) (hx : Src w x m news) (h1 : ∀ u ∈ news, u.oneCell' = true)
    (h63 : n + m ≤ maxLen) (hbytes : (n + m) * bytes ≤ 140737488355328) (hbase : base ≤ w.heap.size) :
    ∃ v' w', (Builtin.append_ #[t, t] ty #[v, x]).run P w = .ok v' w' ∧ Appended w w' base e size v v' (n + m) (xs ++ news) ∧ (v' = .slice none 0 0 ↔ v = .slice none 0 0 ∧ m = 0) := by
  subst hsize
  subst hby
  obtain ⟨a, c, rfl, hnone, hsrc⟩ := hx
  have hsmall : n + m ≤ 9223372036854775807 := by simp only [maxLen] at h63; omega
  have hlen : (xs ++ news).length = (n + m) * i.size := by rw [List.length_append, hown.len, hl, Nat.add_mul]
  cases a with
  | none =>
    obtain rfl := hnone rfl
    obtain rfl : news = [] := List.eq_nil_of_length_eq_zero (by omega)
    exact ⟨v, w, run_seg_none w base t ty e i i.size ht hi v n xs hown c, ⟨by simpa using hown, Upd.refl _ _, .inl rfl⟩, by simp⟩
  | some a =>
  have hnews := hsrc a rfl
  have grown : ∀ (old : Nat), old < n + m → ∀ v : Value,
      Appended w (w.drew.alloc (.cells (xs.toArray ++ news.toArray ++ Builtin.zeroCells z.cells (grownCap w (n + m) old e - (n + m))) e)) base e i.size v (.slice (some ⟨w.heap.size, 0, none⟩) (n + m) (grownCap w (n + m) old e)) (n + m) (xs ++ news) := by
    intro old ho v
    have hge := grownCap_ge w (n + m) old e
    have hcm : grownCap w (n + m) old e ≤ maxLen := grownCap_le_maxLen w (n + m) old e h63
    refine ⟨⟨hlen, .inr ⟨w.heap.size, 0, _, _, rfl, hbase, heap_alloc_new w.drew _, hge, hcm, ?_, ?_⟩⟩, ((Upd.refl _ w).drew).alloc _, .inr fun b hb => ?_⟩
    · simp only [Array.size_append, List.size_toArray, size_zeroCells, hzs, hown.len, hl, ← Nat.add_mul]
      rw [Nat.zero_add]
      refine Nat.mul_le_mul_right _ ?_
      omega
    · simp only [Array.toList_append, List.append_assoc, List.drop_zero]
      rw [← List.append_assoc, ← hlen]
      exact List.take_left
    · simp only [Value.ownBlock, Option.some.injEq] at hb
      omega
  rcases hown.at' with ⟨rfl, rfl⟩ | ⟨g, o, cap, cur, rfl, hbg, hg, hnc, hcm, hcs, htake⟩
  · have hxs : xs = [] := List.eq_nil_of_length_eq_zero (by simpa using hown.len)
    subst hxs
    by_cases hm : m = 0
    · subst hm
      have hn : news = [] := List.eq_nil_of_length_eq_zero (by simpa using hl)
      subst hn
      refine ⟨.slice none 0 0, w, ?_, ⟨by simpa using hown, Upd.refl _ _, .inl rfl⟩, by simp⟩
      simp [Builtin.append_, run_underlying ht, sizeOf, typeInfo, hi, Builtin.lenOf, Builtin.firstCells, loadCells, loadCellsFrom]
    · have hr := run_append_nil (P := P) w t ty e i z ht hi hz a m c news hl hnews (by omega) (by omega) (by have hb := hbytes; simp only [Nat.zero_add] at hb; omega)
      have hgr := grown 0 (by omega) (.slice none 0 0)
      simp only [Nat.zero_add, List.nil_append, Array.empty_append] at hgr ⊢
      exact ⟨_, _, hr, hgr, by simp [hm]⟩
  · by_cases hroom : n + m ≤ cap
    · have hle : (n + m) * i.size ≤ cap * i.size := Nat.mul_le_mul_right _ hroom
      rw [Nat.add_mul] at hle
      have hfit : o + n * i.size + news.length ≤ cur.size := by rw [hl]; omega
      have hr := run_room_seg (P := P) w t ty e i ht hi g o n cap cur hg a m c news hl hnews h1 hroom hfit
      refine ⟨_, _, hr, ⟨⟨hlen, .inr ⟨g, o, cap, _, rfl, hbg, setRow_heap w g cur _ e _ hg, hroom, hcm, ?_, ?_⟩⟩, ⟨rfl, rfl, rfl, by simp, fun k _ hk => setRow_other w g k _ (fun e => hk (by simp [Value.ownBlock, e]))⟩, .inl rfl⟩, by simp⟩
      · simp only [List.size_toArray, List.length_append, List.length_take, List.length_drop, Array.length_toList]
        omega
      · have hlo : o ≤ cur.toList.length := by simp; omega
        have h2 : cur.toList.take (o + n * i.size) = cur.toList.take o ++ (cur.toList.drop o).take (n * i.size) := List.take_add
        rw [h2, htake, List.append_assoc, List.append_assoc]
        rw [List.drop_append_of_le_length (by simp; omega), List.drop_eq_nil_of_le (by simp; omega), List.nil_append, ← List.append_assoc, ← hlen]
        exact List.take_left
    · have holds : ∀ (j : Nat) u, xs[j]? = some u → w.cell? ((⟨g, o, none⟩ : Addr).add j) = some u := by
        obtain ⟨_, _, h0, _, hs⟩ := hown.src
        cases h0
        exact hs _ rfl
      have hr := run_append_grow (P := P) w t ty e i z ht hi hz ⟨g, o, none⟩ n cap xs hown.len holds a m c news hl hnews (by omega) (by omega) (growslice_fits (by omega) hbytes)
      exact ⟨_, _, hr, grown cap (by omega) _, by simp⟩

theorem wp_append_seg {o : Oper} {a : Act} {K : Act → World → Prop} {Q : Exit → Act → World → Prop} (w : World) (s x : Operand) (t : TypeId)
    (ho : o.op = .call { callee := .builtin .append, args := #[s, x], argTypes := #[t, t] })
    (base : Nat) (e : TypeId) (i : TypeInfo) (z : Value) (size bytes : Nat) (ht : P.underlying t = some (.slice e)) (hi : P.info? e = some i) (hz : i.zero = some z)
    (hsize : i.size = size) (hby : i.bytes = bytes) (hzs : z.cells.size = size) (hsz : 0 < size)
    (v : Value) (n : Nat) (xs : List Value) (hs : a.eval s = v) (hown : Seg w base e size v n xs)
    (xv : Value) (m : Nat) (news : List Value) (hxv : a.eval x = xv) (hl : news.length = m * size) (hx : Src w xv m news) (h1 : ∀ u ∈ news, u.oneCell' = true)
    (h63 : n + m ≤ maxLen) (hbytes : (n + m) * bytes ≤ 140737488355328) (hbase : base ≤ w.heap.size)
    (h : ∀ v' w', Appended w w' base e size v v' (n + m) (xs ++ news) → (v' = .slice none 0 0 ↔ v = .slice none 0 0 ∧ m = 0) → K (a.put o.dst v') w') : o.wp P a w K Q := by
  obtain ⟨v', w', hr, h2, h3⟩ := run_append_seg (P := P) w base t o.type e i z size bytes ht hi hz hsize hby hzs hsz v n xs hown xv m news hl hx h1 h63 hbytes hbase
  unfold Oper.wp execOp
  simp only [ho, resolve, invoke, builtin, Sem.run_bind, Sem.run_pure, Result.andThen_ok, List.map_toArray, List.map_cons, List.map_nil, hs, hxv, hr]
  exact h v' w' h2 h3

theorem wpList_append_seg {ops : Array Oper} {rest : List Oper} {o : Oper} {a : Act} {Q : Exit → Act → World → Prop} (w : World) (hgd : o.guard = none) (s x : Operand) (t : TypeId)
    (ho : o.op = .call { callee := .builtin .append, args := #[s, x], argTypes := #[t, t] })
    (base : Nat) (e : TypeId) (i : TypeInfo) (z : Value) (size bytes : Nat) (ht : P.underlying t = some (.slice e)) (hi : P.info? e = some i) (hz : i.zero = some z)
    (hsize : i.size = size) (hby : i.bytes = bytes) (hzs : z.cells.size = size) (hsz : 0 < size)
    (v : Value) (n : Nat) (xs : List Value) (hs : a.eval s = v) (hown : Seg w base e size v n xs)
    (xv : Value) (m : Nat) (news : List Value) (hxv : a.eval x = xv) (hl : news.length = m * size) (hx : Src w xv m news) (h1 : ∀ u ∈ news, u.oneCell' = true)
    (h63 : n + m ≤ maxLen) (hbytes : (n + m) * bytes ≤ 140737488355328) (hbase : base ≤ w.heap.size)
    (h : ∀ v' w', Appended w w' base e size v v' (n + m) (xs ++ news) → (v' = .slice none 0 0 ↔ v = .slice none 0 0 ∧ m = 0) → wpList P ops Q rest (a.put o.dst v') w') : wpList P ops Q (o :: rest) a w :=
  wpList_plain hgd fun _ hK => wp_append_seg w s x t ho base e i z size bytes ht hi hz hsize hby hzs hsz v n xs hs hown xv m news hxv hl hx h1 h63 hbytes hbase fun v' w' h2 h3 => hK _ _ (h v' w' h2 h3)
end

/-- The rest of it from element k on, as memory: whatever address an empty rest is given. -/
theorem Seg.drop {g o cap k : Nat} (h : Seg w base e sz (.slice (some ⟨g, o, none⟩) n cap) n xs) (hk : k ≤ n) : Seg w base e sz (.slice (some ⟨g, o + k * sz, none⟩) (n - k) (cap - k)) (n - k) (xs.drop (k * sz)) := by
  have hks : k * sz ≤ n * sz := Nat.mul_le_mul_right _ hk
  refine ⟨by rw [List.length_drop, h.len, Nat.sub_mul], ?_⟩
  rcases h.at' with ⟨h0, _⟩ | ⟨g', o', cap', cur, h0, hb, hg, h1, h2, h3, h4⟩
  · cases h0
  · simp only [Value.slice.injEq, Option.some.injEq, Addr.mk.injEq, and_true, true_and] at h0
    obtain ⟨⟨rfl, rfl⟩, rfl⟩ := h0
    have hc : k * sz ≤ cap * sz := Nat.mul_le_mul_right _ (by omega)
    refine .inr ⟨g, o + k * sz, cap - k, cur, rfl, hb, hg, by omega, by omega, ?_, ?_⟩
    · rw [Nat.sub_mul]
      omega
    · rw [← h4, List.drop_take, List.drop_drop, Nat.sub_mul]
/-- The first k elements. -/
theorem Seg.take {a : Option Addr} {cap k : Nat} (h : Seg w base e sz (.slice a n cap) n xs) (hk : k ≤ n) : Seg w base e sz (.slice a k cap) k (xs.take (k * sz)) := by
  have hks : k * sz ≤ n * sz := Nat.mul_le_mul_right _ hk
  refine ⟨by rw [List.length_take, h.len]; omega, ?_⟩
  rcases h.at' with ⟨h0, h5⟩ | ⟨g', o', cap', cur, h0, hb, hg, h1, h2, h3, h4⟩
  · simp only [Value.slice.injEq] at h0
    obtain ⟨rfl, _, rfl⟩ := h0
    obtain rfl : k = 0 := by omega
    exact .inl ⟨rfl, rfl⟩
  · simp only [Value.slice.injEq, true_and] at h0
    obtain ⟨rfl, rfl⟩ := h0
    refine .inr ⟨g', o', cap, cur, rfl, hb, hg, by omega, h2, h3, ?_⟩
    rw [← h4, List.take_take, Nat.min_eq_left hks]
end Go.Proofs.YtendkmldecoogaaDoor.Seg
