/-
  utf.Scanner: New, Put, End. utf.Scanner: New, Put, End.
-/
import Derived.Test.YtendkmldecoogaaDoorUtfGo
import Derived.Test.YtendkmldecoogaaDoorStepLaw
import Derived.Test.YtendkmldecoogaaDoorDecode
import Derived.Test.YtendkmldecoogaaDoorRef2c
import Derived.WalkMore
namespace Go.Proofs.YtendkmldecoogaaDoor.Scan
open Go Go.RowKit Go.Lib Go.Proofs.YtendkmldecoogaaDoor.Kit Go.Proofs.YtendkmldecoogaaDoor.Round Go.Proofs.YtendkmldecoogaaDoor.Seg Go.Proofs.YtendkmldecoogaaDoor.Collect Go.Proofs.YtendkmldecoogaaDoor.Utf Go.Proofs.YtendkmldecoogaaDoor.It Go.Proofs.YtendkmldecoogaaDoor.ItGo Go.Proofs.YtendkmldecoogaaDoor.Ref2c Go.Proofs.YtendkmldecoogaaDoor.UtfLaw Go.Proofs.YtendkmldecoogaaDoor.UtfGo Go.Proofs.YtendkmldecoogaaDoor.ScanLaw
attribute [local irreducible] wpQuiet

/-! ### A scope with several labels -/
/-- As Q; by a goto: J of its label. -/
def jumps (J : Nat → Act → World → Prop) (Q : Exit → Act → World → Prop) : Exit → Act → World → Prop
  | .goto l, a, w => J l a w
  | e, a, w => Q e a w

theorem wp_scope_jumps {P : Program} {a : Act} {w : World} {Q : Exit → Act → World → Prop} {c : Code} (J : Nat → Nat → Act → World → Prop)
    (first : c.wp P (jumps (fun l a w => ∃ n, J l n a w) Q) a w)
    (pass : ∀ l n a w, J l n a w → ∃ rest, findLabel c l = some rest ∧ rest.wp P (jumps (fun l a w => ∃ m, m < n ∧ J l m a w) Q) a w) : (Code.scope c).wp P Q a w := by
  intro b k cs
  have key : ∀ n l a w rest, J l n a w → findLabel c l = some rest → ∃ e a' w', Q e a' w' ∧ Arrives P (lone (b.at a (.code rest :: .inScope c :: k)) cs w) b k cs e a' w' := by
    intro n
    induction n using Nat.strongRecOn with
    | _ n ih =>
      intro l a w rest hJ hf
      obtain ⟨rest', hf', hp⟩ := pass l n a w hJ
      rw [hf] at hf'
      obtain rfl := Option.some.inj hf'
      obtain ⟨e, a₁, w₁, hq, harr⟩ := hp b (.inScope c :: k) cs
      cases e with
      | normal => exact ⟨.normal, a₁, w₁, hq, Steps.trans harr (.one step_inScope)⟩
      | exit id => exact ⟨.exit id, a₁, w₁, hq, fun k' hk => harr k' (by simp [exitTo, hk])⟩
      | goto l' =>
        obtain ⟨m, hm, hJ'⟩ := hq
        obtain ⟨rest2, hf2, _⟩ := pass l' m a₁ w₁ hJ'
        have hg : gotoIn l' (.inScope c :: k) = some (.code rest2 :: .inScope c :: k) := by simp [gotoIn, hf2]
        obtain ⟨e₂, a₂, w₂, hq₂, harr₂⟩ := ih m hm l' a₁ w₁ rest2 hJ' hf2
        exact ⟨e₂, a₂, w₂, hq₂, .of_steps (harr _ hg) harr₂⟩
      | ret => exact ⟨_, a₁, w₁, hq, harr⟩
      | panic ch => exact ⟨_, a₁, w₁, hq, harr⟩
      | outgrown => exact ⟨_, a₁, w₁, hq, harr⟩
  obtain ⟨e, a₁, w₁, hq, harr⟩ := first b (.inScope c :: k) cs
  cases e with
  | normal => exact ⟨.normal, a₁, w₁, hq, .head step_scope (Steps.trans harr (.one step_inScope))⟩
  | exit id => exact ⟨.exit id, a₁, w₁, hq, fun k' hk => .head step_scope (harr k' (by simp [exitTo, hk]))⟩
  | goto l' =>
    obtain ⟨m, hJ'⟩ := hq
    obtain ⟨rest2, hf2, _⟩ := pass l' m a₁ w₁ hJ'
    have hg : gotoIn l' (.inScope c :: k) = some (.code rest2 :: .inScope c :: k) := by simp [gotoIn, hf2]
    obtain ⟨e₂, a₂, w₂, hq₂, harr₂⟩ := key m l' a₁ w₁ rest2 hJ' hf2
    exact ⟨e₂, a₂, w₂, hq₂, .of_steps (.head step_scope (harr _ hg)) harr₂⟩
  | ret => exact ⟨_, a₁, w₁, hq, .of_steps (.one step_scope) harr⟩
  | panic ch => exact ⟨_, a₁, w₁, hq, .of_steps (.one step_scope) harr⟩
  | outgrown => exact ⟨_, a₁, w₁, hq, .of_steps (.one step_scope) harr⟩

/-! ### In plain Lean -/
/-- The items that are taken; what is left. -/
def whole (all : Bool) (a : Nat) (h : List UInt8) : List It := if all = true then items a h else (comp a h).1
def left (all : Bool) (a : Nat) (h : List UInt8) : List UInt8 := if all = true then [] else h.drop ((comp a h).2 - a)
/-- Nothing more is taken. -/
def Stops (all : Bool) (h : List UInt8) : Prop := h = [] ∨ (all = false ∧ BegP h)
theorem whole_stop {all : Bool} {h : List UInt8} (a : Nat) (hs : Stops all h) : whole all a h = [] ∧ left all a h = h := by
  unfold whole left
  rcases hs with rfl | ⟨rfl, hb⟩
  · cases all <;> simp [items_nil, comp_nil]
  · have h1 := beg_held hb
    rw [comp_held h1.1 h1.2]
    simp
theorem whole_one {all : Bool} {h : List UInt8} (a : Nat) (hs : ¬ Stops all h) : whole all a h = one a h :: whole all (a + (one a h).bytes) (h.drop (one a h).bytes) ∧ left all a h = left all (a + (one a h).bytes) (h.drop (one a h).bytes) ∧ h ≠ [] := by
  have hn : h ≠ [] := fun e => hs (.inl e)
  unfold whole left
  cases all with
  | true =>
    simp only [if_true]
    exact ⟨items_cons a hn, trivial, hn⟩
  | false =>
    have hb : ¬ BegP h := fun hb => hs (.inr ⟨rfl, hb⟩)
    have h1 : ¬ (width h = 0 ∧ begins h = h.length) := fun q => hb ((held_iff hn).1 q)
    have hle := comp_items (h.drop (one a h).bytes) (a + (one a h).bytes)
    simp only [Bool.false_eq_true, if_false]
    rw [comp_one hn h1]
    refine ⟨rfl, ?_, hn⟩
    simp only
    rw [List.drop_drop]
    congr 1
    omega

def bytesV (l : List UInt8) : List Value := l.map fun b => .int .u8 b.toNat
theorem bytesV_len (l : List UInt8) : (bytesV l).length = l.length := by simp [bytesV]
theorem bytesV_one {l : List UInt8} {u : Value} (h : u ∈ bytesV l) : u.oneCell' = true := by
  obtain ⟨b, _, rfl⟩ := List.mem_map.1 h
  rfl
/-- Bytes in a row of the call's own, at any place of it. -/
def BSeg (w : World) (base : Nat) (v : Value) (l : List UInt8) : Prop := Seg w base 5 1 v l.length (bytesV l)
def ISeg (w : World) (base : Nat) (v : Value) (T : List It) : Prop := Seg w base 58 4 v T.length (flatI T)
theorem elemU : Elem Tryd.prog 151 58 (.agg #[.int .i64 0, .int .i64 0, .int .i32 0, .bool false]) 4 24 := ⟨Tryd.underlying151, by kernel_rfl, rfl, by decide⟩
theorem elemB : Elem Tryd.prog 35 5 (.int .u8 0) 1 1 := ⟨Tryd.underlying35, by kernel_rfl, rfl, by decide⟩

/-- As a text. -/
theorem BSeg.text {w : World} {base : Nat} {v : Value} {l : List UInt8} (h : BSeg w base v l) : (convert 35 9 v).run Tryd.prog w = .ok (.string ⟨l.toArray⟩) w := by
  rcases Seg.at' h with ⟨rfl, h0⟩ | ⟨g, o, cap, cur, rfl, h1, h2, _, _, _, h3⟩
  · obtain rfl : l = [] := List.length_eq_zero_iff.1 h0
    exact run_convert_bytes_nil (P := Tryd.prog) w 35 5 Tryd.underlying35 Tryd.underlying5 0 0 9 Tryd.underlying9
  · exact run_convert_bytes_back (P := Tryd.prog) w 35 9 5 ⟨g, o, none⟩ cap l Tryd.underlying35 Tryd.underlying5 Tryd.underlying9 (fun j hj => by
      rw [add_plain, cell_at h2]
      have h4 : ((cur.toList.drop o).take (l.length * 1))[j]? = (bytesV l)[j]? := by rw [h3]
      rw [List.getElem?_take, if_pos (by omega), List.getElem?_drop] at h4
      unfold bytesV at h4
      simpa [hj] using h4)

theorem Tabs.ne {w : World} (h : Tabs w) {b : Nat} {cs : Array Value} {t : TypeId} {fr : Nat × Nat} (hb : w.heap[b]? = some (.cells cs t fr)) (hs : cs.size ≤ 20) : b ≠ Shelf.lays197_ren.g 3 ∧ b ≠ Shelf.lays197_ren.g 4 := by
  constructor
  · rintro rfl
    have h1 := h.1 200 (by decide)
    rw [cell_at hb, Array.getElem?_eq_none (by omega)] at h1
    cases h1
  · rintro rfl
    have h1 := (h.2 12 (by decide)).1
    rw [cell_at hb, Array.getElem?_eq_none (by omega)] at h1
    cases h1

/-- The rest of it from element k on. -/
theorem Seg.from {w : World} {base : Nat} {e : TypeId} {sz n cap k : Nat} {a : Option Addr} {xs : List Value} (h : Seg w base e sz (.slice a n cap) n xs) (hk : k ≤ n) : Seg w base e sz (.slice (if cap = k then a else a.map (·.add (k * sz))) (n - k) (cap - k)) (n - k) (xs.drop (k * sz)) := by
  rcases Seg.at' h with ⟨h0, h1⟩ | ⟨g, o, cap', cur, h0, hb, hg, h1, h2, h3, h4⟩
  · simp only [Value.slice.injEq] at h0
    obtain ⟨rfl, rfl, rfl⟩ := h0
    obtain rfl : k = 0 := by omega
    have hx : xs = [] := List.length_eq_zero_iff.1 (by rw [h.len]; omega)
    subst hx
    simpa using Seg.nil w base e sz
  · simp only [Value.slice.injEq, true_and] at h0
    obtain ⟨rfl, rfl⟩ := h0
    by_cases hc : cap = k
    · subst hc
      obtain rfl : n = cap := by omega
      rw [if_pos rfl]
      have hx : xs.drop (n * sz) = [] := List.drop_eq_nil_of_le (by rw [h.len]; exact Nat.le_refl _)
      rw [hx]
      refine ⟨by simp, .inr ⟨g, o, n - n, cur, rfl, hb, hg, Nat.le_refl _, by omega, ?_, by simp⟩⟩
      rw [Nat.sub_self, Nat.zero_mul]
      exact Nat.le_trans (Nat.le_add_right _ _) h3
    · rw [if_neg hc]
      simp only [Option.map_some, add_plain]
      exact Seg.drop h hk

theorem seg_block {w : World} {base : Nat} {e : TypeId} {sz : Nat} {v : Value} {n : Nat} {xs : List Value} (h : Seg w base e sz v n xs) {b : Nat} (hb : v.ownBlock = some b) : ∃ c, w.heap[b]? = some (.cells c e (0, 0)) := by
  rcases h.at' with ⟨rfl, _⟩ | ⟨g, o, cap, cur, rfl, _, hg, _⟩
  · cases hb
  · simp only [Value.ownBlock, Option.some.injEq] at hb
    subst hb
    exact ⟨_, hg⟩
theorem no_own {w : World} {base : Nat} {e t : TypeId} {sz n bb : Nat} {v : Value} {xs : List Value} {cs : Array Value} {fr : Nat × Nat} (h : Seg w base e sz v n xs) (hb : w.heap[bb]? = some (.cells cs t fr)) (he : e ≠ t) : ¬ v.ownBlock = some bb := fun hh => by
  obtain ⟨c, hc⟩ := seg_block h hh
  rw [hb] at hc
  simp only [Option.some.injEq, Obj.cells.injEq] at hc
  exact he hc.2.1.symm
theorem own_ne {w : World} {base base' : Nat} {e e' : TypeId} {sz n sz' n' bb : Nat} {v v' : Value} {xs xs' : List Value} (h : Seg w base e sz v n xs) (h' : Seg w base' e' sz' v' n' xs') (he : e ≠ e') (hb : v.ownBlock = some bb) : ¬ v'.ownBlock = some bb := fun hh => by
  obtain ⟨c, hc⟩ := seg_block h' hh
  exact no_own h hc he hb

def itemC (x : It) : Array Value := #[.int .i64 x.from', .int .i64 x.bytes, .int .i32 x.rune, .bool x.bad]
/-- What lies there in a pass. -/
structure Wd (w0 : World) (sb p it : Nat) (hv : Value) (rem : List UInt8) (v : Value) (T : List It) (V : World) : Prop where
  c : V.heap[sb]? = some (.cells #[hv, .int .i64 p] 191 (0, 0))
  b : BSeg V 0 hv rem
  q : ISeg V w0.heap.size v T
  i : ∃ a b c d, V.heap[it]? = some (.cells #[a, b, c, d] 58 (0, 0))
  n : ¬ v.ownBlock = some it
  u : Upd (fun b => b = sb) w0 V
  t : Tabs V
  z : Tabs w0
  o : w0.heap.size ≤ it
  s : sb < w0.heap.size

variable {w0 V W : World} {sb p it : Nat} {hv v : Value} {rem : List UInt8} {T : List It}
theorem Wd.below (h : Wd w0 sb p it hv rem v T V) (hb : Below V.heap.size V W) : Wd w0 sb p it hv rem v T W := by
  obtain ⟨a, b, c, d, hi⟩ := h.i
  exact ⟨(hb.block _ (lt_of_heap h.c)).trans h.c, Seg.below h.b hb, Seg.below h.q hb, ⟨a, b, c, d, (hb.block _ (lt_of_heap hi)).trans hi⟩, h.n, grow_below h.u hb, h.t.below hb, h.z, h.o, h.s⟩

def setItem (V : World) (it : Nat) (x : It) : World := (((V.setCell ⟨it, 0, none⟩ (.int .i64 x.from')).setCell ⟨it, 1, none⟩ (.int .i64 x.bytes)).setCell ⟨it, 2, none⟩ (.int .i32 x.rune)).setCell ⟨it, 3, none⟩ (.bool x.bad)
theorem Wd.item (h : Wd w0 sb p it hv rem v T V) (x : It) : Wd w0 sb p it hv rem v T (setItem V it x) ∧ (setItem V it x).heap[it]? = some (.cells (itemC x) 58 (0, 0)) := by
  obtain ⟨a, b, c, d, hi⟩ := h.i
  have hu : Upd (fun b => b = it) V (setItem V it x) :=
    ((((Upd.refl _ _).setCell (S := fun b => b = it) (p := ⟨it, 0, none⟩) (fun _ => rfl) _).setCell (S := fun b => b = it) (p := ⟨it, 1, none⟩) (fun _ => rfl) _).setCell (S := fun b => b = it) (p := ⟨it, 2, none⟩) (fun _ => rfl) _).setCell (S := fun b => b = it) (p := ⟨it, 3, none⟩) (fun _ => rfl) _
  have hi' : (setItem V it x).heap[it]? = some (.cells (itemC x) 58 (0, 0)) := by
    unfold setItem
    rw [heap_set (heap_set (heap_set (heap_set hi 0 _) 1 _) 2 _) 3 _]
    rfl
  have hn : ¬ sb = it := fun e => by have := h.o; have := h.s; omega
  refine ⟨⟨Upd.mem hu h.c hn, Seg.upd h.b hu (fun k hk hh => ?_), Seg.upd h.q hu (fun k hk hh => h.n (by rw [hk, hh])), ⟨_, _, _, _, hi'⟩, h.n, grow h.u hu (fun b hb hh => ?_), h.t.upd hu (fun hh => ?_) (fun hh => ?_), h.z, h.o, h.s⟩, hi'⟩
  · rw [hh] at hk
    exact no_own h.b hi (by decide) hk
  · have := h.o; omega
  · exact (Tabs.ne h.t hi (by simp)).1 hh.symm
  · exact (Tabs.ne h.t hi (by simp)).2 hh.symm

/-- An item more in the list. -/
theorem Wd.next (h : Wd w0 sb p it hv rem v T V) (x : It) (hT : T.length ≤ 1000000000000) (ty : TypeId) :
    ∃ v' A, (Builtin.append_ #[151, 151] ty #[v, .slice (some ⟨V.heap.size, 0, none⟩) 1 1]).run Tryd.prog (V.alloc (.cells (itemC x) 58)) = .ok v' A ∧ Wd w0 sb p it hv rem v' (T ++ [x]) A ∧ ∀ o, V.heap[it]? = some o → A.heap[it]? = some o := by
  have hb : Below V.heap.size V (V.alloc (.cells (itemC x) 58)) := (Below.refl _ _).alloc (Nat.le_refl _) _
  have h2 := h.below hb
  have hnew : (V.alloc (.cells (itemC x) 58)).heap[V.heap.size]? = some (.cells (itemC x) 58 (0, 0)) := alloc_new rfl
  obtain ⟨W, hW⟩ : ∃ z, V.alloc (.cells (itemC x) 58) = z := ⟨_, rfl⟩
  rw [hW] at h2 hnew hb ⊢
  obtain ⟨g, hg⟩ : ∃ z, V.heap.size = z := ⟨_, rfl⟩
  rw [hg] at hnew ⊢
  obtain ⟨i, hi, hz0, hz1, hz2⟩ := elemU.parts
  have hsrc : Src W (.slice (some ⟨g, 0, none⟩) 1 1) 1 [.int .i64 x.from', .int .i64 x.bytes, .int .i32 x.rune, .bool x.bad] := by
    refine ⟨some ⟨g, 0, none⟩, 1, rfl, (fun h => by cases h), fun ad had j u hu => ?_⟩
    cases had
    rw [add_plain, cell_at hnew]
    simpa [itemC] using hu
  obtain ⟨v', A, hr, ha, _⟩ := run_append_seg (P := Tryd.prog) W w0.heap.size 151 ty 58 i _ 4 24 elemU.t hi hz0 hz1 hz2 elemU.z elemU.p v T.length _ h2.q (.slice (some ⟨g, 0, none⟩) 1 1) 1 _ (by rfl) hsrc (by simp [Value.oneCell']) (by unfold maxLen; omega) (by omega) h2.u.size
  obtain ⟨a, b, c, d, hit⟩ := h2.i
  have hls := lt_of_heap hit
  refine ⟨v', A, hr, ⟨Upd.mem ha.u h2.c (no_own h2.q h2.c (by decide)), Seg.upd h2.b ha.u (fun k hk hh => own_ne h2.b h2.q (by decide) hk hh), ?_, ⟨a, b, c, d, Upd.mem ha.u hit h2.n⟩, ?_, grow h2.u ha.u (fun b hb hh => ?_), h2.t.upd ha.u (fun hh => ?_) (fun hh => ?_), h.z, h.o, h.s⟩, fun o ho => Upd.mem ha.u ((hb.block _ (lt_of_heap ho)).trans ho) h2.n⟩
  · unfold ISeg
    rw [List.length_append, flatI_append]
    exact ha.seg
  · intro hh
    rcases ha.blk with q | q
    · exact h2.n (by rw [← q]; exact hh)
    · have := q _ hh; omega
  · have := (h2.q.lt _ hh).1; omega
  · have := (h2.q.lt _ hh).1
    have := h.z.lt3.1
    omega
  · have := (h2.q.lt _ hh).1
    have := h.z.lt3.2
    omega

/-- The scanner holds what is left. -/
theorem Wd.put (h : Wd w0 sb p it hv rem v T V) {hv' : Value} {rem' : List UInt8} (hb : BSeg V 0 hv' rem') : Wd w0 sb p it hv' rem' v T (V.setCell ⟨sb, 0, none⟩ hv') := by
  have hu : Upd (fun b => b = sb) V (V.setCell ⟨sb, 0, none⟩ hv') := Upd.setCell (S := fun b => b = sb) (p := ⟨sb, 0, none⟩) (Upd.refl _ _) (fun _ => rfl) _
  obtain ⟨a, b, c, d, hi⟩ := h.i
  have hn : ¬ it = sb := fun e => by have := h.o; have := h.s; omega
  refine ⟨by rw [heap_set h.c]; rfl, Seg.upd hb hu (fun k hk hh => ?_), Seg.upd h.q hu (fun k hk hh => ?_), ⟨a, b, c, d, Upd.mem hu hi hn⟩, h.n, h.u.trans hu, h.t.upd hu (fun hh => (Tabs.ne h.t h.c (by simp)).1 hh.symm) (fun hh => (Tabs.ne h.t h.c (by simp)).2 hh.symm), h.z, h.o, h.s⟩
  · rw [hh] at hk
    exact no_own hb h.c (by decide) hk
  · rw [hh] at hk
    exact no_own h.q h.c (by decide) hk

/-- What a pass finds. -/
structure Pass (all : Bool) (sb p : Nat) (h : List UInt8) (w0 : World) (l n it : Nat) (v : Value) (w : World) : Prop where
  rest : ∃ (d : Nat) (T : List It) (hv : Value), d ≤ h.length ∧ n = h.length - d + l ∧ T ++ whole all (p - h.length + d) (h.drop d) = whole all (p - h.length) h ∧ left all (p - h.length + d) (h.drop d) = left all (p - h.length) h ∧ T.length ≤ d ∧
    Wd w0 sb p it hv (h.drop d) v T w ∧ (l = 0 → Stops all (h.drop d)) ∧ l ≤ 1

def Look (all : Bool) (sb p : Nat) (h : List UInt8) (w0 : World) (it l n : Nat) (a : Act) (w : World) : Prop :=
  ∃ (v u7 u8 u9 u10 u11 u12 u13 u14 u15 u16 u17 u18 u19 u20 u21 u22 u23 u24 u25 u26 u27 u28 u29 u30 u31 u32 u33 u34 u35 u36 u37 u38 u39 u40 u41 u42 u43 u44 u45 u46 u47 u48 u49 u50 u51 u52 u53 u54 u55 u56 u57 u58 u59 u60 u61 : Value), a = { tmps := #[.pointer (some ⟨sb, 0, none⟩), .bool all, undef, undef, .slice none 0 0, v, .pointer (some ⟨it, 0, none⟩), u7, u8, u9, u10, u11, u12, u13, u14, u15, u16, u17, u18, u19, u20, u21, u22, u23, u24, u25, u26, u27, u28, u29, u30, u31, u32, u33, u34, u35, u36, u37, u38, u39, u40, u41, u42, u43, u44, u45, u46, u47, u48, u49, u50, u51, u52, u53, u54, u55, u56, u57, u58, u59, u60, u61], defers := [] } ∧ Pass all sb p h w0 l n it v w
theorem Look.mk {all : Bool} {sb p : Nat} {h : List UInt8} {w0 : World} {it l n : Nat} {w : World} {v u7 u8 u9 u10 u11 u12 u13 u14 u15 u16 u17 u18 u19 u20 u21 u22 u23 u24 u25 u26 u27 u28 u29 u30 u31 u32 u33 u34 u35 u36 u37 u38 u39 u40 u41 u42 u43 u44 u45 u46 u47 u48 u49 u50 u51 u52 u53 u54 u55 u56 u57 u58 u59 u60 u61 : Value} (hP : Pass all sb p h w0 l n it v w) :
    Look all sb p h w0 it l n { tmps := #[.pointer (some ⟨sb, 0, none⟩), .bool all, undef, undef, .slice none 0 0, v, .pointer (some ⟨it, 0, none⟩), u7, u8, u9, u10, u11, u12, u13, u14, u15, u16, u17, u18, u19, u20, u21, u22, u23, u24, u25, u26, u27, u28, u29, u30, u31, u32, u33, u34, u35, u36, u37, u38, u39, u40, u41, u42, u43, u44, u45, u46, u47, u48, u49, u50, u51, u52, u53, u54, u55, u56, u57, u58, u59, u60, u61], defers := [] } w := ⟨v, u7, u8, u9, u10, u11, u12, u13, u14, u15, u16, u17, u18, u19, u20, u21, u22, u23, u24, u25, u26, u27, u28, u29, u30, u31, u32, u33, u34, u35, u36, u37, u38, u39, u40, u41, u42, u43, u44, u45, u46, u47, u48, u49, u50, u51, u52, u53, u54, u55, u56, u57, u58, u59, u60, u61, rfl, hP⟩




set_option maxHeartbeats 2000000 in
set_option maxRecDepth 100000 in
theorem take_calls (all : Bool) (sb p : Nat) (hv : Value) (h : List UInt8) (w : World) (hS : w.heap[sb]? = some (.cells #[hv, .int .i64 p] 191 (0, 0))) (hr : BSeg w 0 hv h) (hl : h.length ≤ p) (hp : p ≤ 1000000000000) (hT : Tabs w) :
    Calls Tryd.prog 122 #[.pointer (some ⟨sb, 0, none⟩), .bool all] w fun e w' => ∃ v hv', e = .returned v ∧ w'.heap[sb]? = some (.cells #[hv', .int .i64 p] 191 (0, 0)) ∧
      BSeg w' w.heap.size hv' (left all (p - h.length) h) ∧ ISeg w' w.heap.size v (whole all (p - h.length) h) ∧ Upd (fun b => b = sb) w w' := by
  have HS := Lib.hid hS
  have HR := Lib.hid hr
  have HT := Lib.hid hT
  clear hS hr hT
  obtain ⟨W1, hW1⟩ : ∃ Xz, w.alloc (.cells #[.int .i64 0, .int .i64 0, .int .i32 0, .bool false] 58) = Xz := ⟨_, rfl⟩
  obtain ⟨it, hit⟩ : ∃ xz, w.heap.size = xz := ⟨_, rfl⟩
  have hb1 : Below w.heap.size w W1 := by rw [← hW1]; exact (Below.refl _ _).alloc (Nat.le_refl _) _
  have HI := Lib.hid (by rw [← hW1, ← hit]; exact alloc_new rfl : W1.heap[it]? = some (.cells #[.int .i64 0, .int .i64 0, .int .i32 0, .bool false] 58 (0, 0)))
  have EW1 := Lib.hid hW1
  have Eit := Lib.hid hit
  clear hW1 hit
  go_enter Tryd.func122, Tryd.ntmps122
  go_wp2_with fail
  refine wp_scope_jumps (fun l n a' w' => Look all sb p h w it l n a' w') ?_ ?_
  · obtain ⟨d, hd0⟩ : ∃ d : Nat, d = 0 := ⟨0, rfl⟩
    obtain ⟨T, hT0⟩ : ∃ T : List It, T = [] := ⟨[], rfl⟩
    have HWD := Lib.hid (show Wd w sb p it hv (h.drop d) (.slice none 0 0) T W1 by
      subst hd0; subst hT0
      exact ⟨(hb1.block _ (lt_of_heap HS.out)).trans HS.out, Seg.below HR.out hb1, Seg.nil _ _ _ _, ⟨_, _, _, _, HI.out⟩, by simp [Value.ownBlock], Upd.of_below hb1, HT.out.below hb1, HT.out, Nat.le_of_eq Eit.out, lt_of_heap HS.out⟩)
    have HW := Lib.hid (show T ++ whole all (p - h.length + d) (h.drop d) = whole all (p - h.length) h by subst hd0; subst hT0; rfl)
    have HL := Lib.hid (show left all (p - h.length + d) (h.drop d) = left all (p - h.length) h by subst hd0; rfl)
    have hd : d ≤ h.length := by omega
    have HTL := Lib.hid (show T.length ≤ d by subst hT0; exact Nat.zero_le _)
    clear hb1 HR hd0 hT0 HS HI
    go_wp2_with fail
    go_step3
    rw [EW1.out, Eit.out]
    have hrl : (h.drop d).length = h.length - d := List.length_drop
    obtain ⟨rem, hrem⟩ : ∃ z, h.drop d = z := ⟨_, rfl⟩
    obtain ⟨rn, hrn⟩ : ∃ z, h.length - d = z := ⟨_, rfl⟩
    rw [hrem] at HW HL HWD hrl
    rw [hrn] at hrl
    obtain ⟨ah, ch, hvv, hc1, hc2, hc3⟩ := Seg.shape HWD.out.b
    rw [hrl] at hvv hc1 hc3
    subst hvv
    have HREM := Lib.hid hrem
    have HRL := Lib.hid hrl
    have HS := Lib.hid HWD.out.c
    clear hrem hrl
    have s0 := cell_at HS.out 0
    have s1 := cell_at HS.out 1
    have sf := free_all HS.out
    have sz := lt_of_heap HS.out
    simp only [List.getElem?_toArray, List.getElem?_cons_zero, List.getElem?_cons_succ] at s0 s1
    by_cases hz : rn = 0
    · subst hz
      have hr0 : rem = [] := List.length_eq_zero_iff.1 HRL.out
      have HST := Lib.hid (show Stops all (h.drop d) from .inl (by rw [HREM.out]; exact hr0))
      clear hr0
      go_wp2_with fail
      go_step3
      exact (show ∃ m, _ from ⟨h.length - d,  Look.mk ⟨⟨d, T, _, hd, rfl, by rw [HREM.out]; exact HW.out, by rw [HREM.out]; exact HL.out, HTL.out, by rw [HREM.out]; exact HWD.out, fun _ => HST.out, by omega⟩⟩⟩)
    · have hzi : ((rn : Int) == 0) = false := by simp; omega
      cases all with
      | true =>
        have HNS := Lib.hid (show ¬ Stops true rem from fun h => h.elim (fun h => by have := HRL.out; rw [h] at this; simp at this; omega) (fun h => by cases h.1))
        have hw := whole_one (p - h.length + d) HNS.out
        have hp1 := one_pos (p - h.length + d) rem
        have hp2 := one_le (p - h.length + d) hw.2.2
        obtain ⟨xx, hxx⟩ : ∃ x, one (p - h.length + d) rem = x := ⟨_, rfl⟩
        rw [hxx] at hw hp1 hp2
        rw [HRL.out] at hp2
        have hrx := rune_le rem
        have HWN := Lib.hid hw
        have hw1 : IntKind.i64.wrap ((p : Int) - (rn : Int)) = ((p - rn : Nat) : Int) := by rw [i64w _ (by omega) (by omega)]; omega
        have ea : p - h.length + d = p - rn := by omega
        rw [ea] at hxx
        have HF := Lib.hid (fun (x : Later W1) => (first_calls ⟨rem.toArray⟩ (p - rn) x.w (by have := HRL.out; show 0 < rem.toArray.size; simp; omega) (HWD.out.t.below x.h) : Calls _ _ _ _ _))
        rw [show (ByteArray.mk rem.toArray).data.toList = rem by simp, hxx] at HF
        have hcx := fun (x : Later W1) => BSeg.text (Seg.below HWD.out.b x.h)
        clear hw hxx ea
        unfold encI at HF
        go_wp2_with fail
        refine region_later 16 (by kernel_rfl) (by kernel_rfl) ?_
        simp only [List.take_succ_cons, List.take_zero, List.drop_succ_cons, List.drop_zero]
        repeat (quiet_step ((exact later_call (HF.out _))))
        refine wpQuiet_nil ?_
        intro x
        have HWD := Lib.hid (HWD.out.below x.h)
        clear HF hcx s0 s1 sf sz
        generalize x.w = V at HWD ⊢
        obtain ⟨hwd4, hit4⟩ := HWD.out.item xx
        obtain ⟨v', A, hrun, hwd5, hia⟩ := hwd4.next xx (by have := HTL.out; omega) 151
        obtain ⟨q0, q1, q2, q3, hi⟩ := HWD.out.i
        have HI := Lib.hid hi
        have q0 := cell_at HI.out 0
        have q1 := cell_at HI.out 1
        have q2 := cell_at HI.out 2
        have q3 := cell_at HI.out 3
        have qf := free_all HI.out
        have qz := lt_of_heap HI.out
        simp only [List.getElem?_toArray, List.getElem?_cons_zero, List.getElem?_cons_succ] at q0 q1 q2 q3
        rw [show (setItem V it xx).heap.size = V.heap.size by unfold setItem; simp] at hrun
        unfold itemC setItem at hrun
        unfold itemC setItem at hit4
        have HIA := Lib.hid (hia _ hit4)
        have HRUN := Lib.hid hrun
        have HWD5 := Lib.hid hwd5
        clear hwd4 hit4 hrun hwd5 hi hia
        go_wp2_with (at_builtin; refine append_run rfl rfl rfl rfl HRUN.out ?_)
        clear q0 q1 q2 q3 qf qz
        have HSA := Lib.hid HWD5.out.c
        have s0 := cell_at HSA.out 0
        have sf := free_all HSA.out
        have sz := lt_of_heap HSA.out
        simp only [List.getElem?_toArray, List.getElem?_cons_zero] at s0
        have q1 := cell_at HIA.out 1
        have qz := lt_of_heap HIA.out
        simp only [List.getElem?_toArray, List.getElem?_cons_zero, List.getElem?_cons_succ] at q1
        have hx0 : (0 : Int) ≤ xx.bytes := by omega
        have hx1 : (xx.bytes : Int) ≤ rn := by omega
        by_cases hcc : ch = xx.bytes
        · refine region_tail 10 (by kernel_rfl) (by kernel_rfl) ?_
          simp only [List.take_succ_cons, List.take_zero, List.drop_succ_cons, List.drop_zero]
          repeat (first | still_step)
          refine wpStill_nil ?_
          go_wp2_with fail
          go_step3
          have hseg : BSeg A 0 (.slice (if ch = xx.bytes then ah else ah.map (·.add (xx.bytes * 1))) (rn - xx.bytes) (ch - xx.bytes)) (rem.drop xx.bytes) := by
            have h1 := HWD5.out.b
            unfold BSeg at h1 ⊢
            rw [HRL.out] at h1
            have h2 := Seg.from h1 hp2
            rw [List.length_drop, HRL.out]
            unfold bytesV at h2 ⊢
            rw [← List.map_drop, Nat.mul_one] at h2
            rw [Nat.mul_one]
            exact h2
          first | rw [if_pos hcc, hcc, Nat.sub_self] at hseg | rw [if_neg hcc] at hseg
          try rw [Nat.mul_one] at hseg
          have hd0 : Below A.heap.size A A.drew := (Below.refl _ _).drew
          have hfin := (HWD5.out.below hd0).put (Seg.below hseg hd0)
          have hdr : h.drop (d + xx.bytes) = rem.drop xx.bytes := by rw [← List.drop_drop, HREM.out]
          exact (show ∃ m, _ from ⟨h.length - (d + xx.bytes) + 1,  Look.mk ⟨⟨d + xx.bytes, T ++ [xx], _, by omega, rfl, by
            rw [hdr, ← HW.out, HWN.out.1, List.append_assoc, ← Nat.add_assoc]; rfl, by rw [hdr, ← HL.out, HWN.out.2.1, ← Nat.add_assoc], by have := HTL.out; simp; omega, by rw [hdr]; exact hfin, by omega, Nat.le_refl _⟩⟩⟩)
        · refine region_tail 10 (by kernel_rfl) (by kernel_rfl) ?_
          simp only [List.take_succ_cons, List.take_zero, List.drop_succ_cons, List.drop_zero]
          repeat (first | still_step)
          refine wpStill_nil ?_
          go_wp2_with fail
          go_step3
          have hseg : BSeg A 0 (.slice (if ch = xx.bytes then ah else ah.map (·.add (xx.bytes * 1))) (rn - xx.bytes) (ch - xx.bytes)) (rem.drop xx.bytes) := by
            have h1 := HWD5.out.b
            unfold BSeg at h1 ⊢
            rw [HRL.out] at h1
            have h2 := Seg.from h1 hp2
            rw [List.length_drop, HRL.out]
            unfold bytesV at h2 ⊢
            rw [← List.map_drop, Nat.mul_one] at h2
            rw [Nat.mul_one]
            exact h2
          first | rw [if_pos hcc, hcc, Nat.sub_self] at hseg | rw [if_neg hcc] at hseg
          try rw [Nat.mul_one] at hseg
          have hd0 : Below A.heap.size A A.drew := (Below.refl _ _).drew
          have hfin := (HWD5.out.below hd0).put (Seg.below hseg hd0)
          have hdr : h.drop (d + xx.bytes) = rem.drop xx.bytes := by rw [← List.drop_drop, HREM.out]
          exact (show ∃ m, _ from ⟨h.length - (d + xx.bytes) + 1,  Look.mk ⟨⟨d + xx.bytes, T ++ [xx], _, by omega, rfl, by
            rw [hdr, ← HW.out, HWN.out.1, List.append_assoc, ← Nat.add_assoc]; rfl, by rw [hdr, ← HL.out, HWN.out.2.1, ← Nat.add_assoc], by have := HTL.out; simp; omega, by rw [hdr]; exact hfin, by omega, Nat.le_refl _⟩⟩⟩)
      | false =>
        have HG := Lib.hid (beginning_calls ⟨rem.toArray⟩ W1 HWD.out.t)
        rw [show (ByteArray.mk rem.toArray).data.toList = rem by simp] at HG
        have hct := BSeg.text HWD.out.b
        go_wp2_with fail
        refine HG.out.mono ?_
        rintro e V1 ⟨rfl, hb1⟩
        have HWD := Lib.hid (HWD.out.below hb1)
        have HS := Lib.hid HWD.out.c
        clear hb1 HG hct s0 s1 sf sz
        have s0 := cell_at HS.out 0
        have s1 := cell_at HS.out 1
        have sf := free_all HS.out
        have sz := lt_of_heap HS.out
        simp only [List.getElem?_toArray, List.getElem?_cons_zero, List.getElem?_cons_succ] at s0 s1
        by_cases hbg : BegP rem
        · have hdb : decide (BegP rem) = true := decide_eq_true hbg
          have HST := Lib.hid (show Stops false (h.drop d) from .inr ⟨rfl, by rw [HREM.out]; exact hbg⟩)
          clear hbg
          go_wp2_with fail
          go_step3
          exact (show ∃ m, _ from ⟨h.length - d,  Look.mk ⟨⟨d, T, _, hd, rfl, by rw [HREM.out]; exact HW.out, by rw [HREM.out]; exact HL.out, HTL.out, by rw [HREM.out]; exact HWD.out, fun _ => HST.out, by omega⟩⟩⟩)
        · have hdb : decide (BegP rem) = false := decide_eq_false hbg
          have HNS := Lib.hid (show ¬ Stops false rem from fun h => h.elim (fun h => by have := HRL.out; rw [h] at this; simp at this; omega) (fun h => hbg h.2))
          clear hbg
          have hw := whole_one (p - h.length + d) HNS.out
          have hp1 := one_pos (p - h.length + d) rem
          have hp2 := one_le (p - h.length + d) hw.2.2
          obtain ⟨xx, hxx⟩ : ∃ x, one (p - h.length + d) rem = x := ⟨_, rfl⟩
          rw [hxx] at hw hp1 hp2
          rw [HRL.out] at hp2
          have hrx := rune_le rem
          have HWN := Lib.hid hw
          have hw1 : IntKind.i64.wrap ((p : Int) - (rn : Int)) = ((p - rn : Nat) : Int) := by rw [i64w _ (by omega) (by omega)]; omega
          have ea : p - h.length + d = p - rn := by omega
          rw [ea] at hxx
          have HF := Lib.hid (fun (x : Later V1) => (first_calls ⟨rem.toArray⟩ (p - rn) x.w (by have := HRL.out; show 0 < rem.toArray.size; simp; omega) (HWD.out.t.below x.h) : Calls _ _ _ _ _))
          rw [show (ByteArray.mk rem.toArray).data.toList = rem by simp, hxx] at HF
          have hcx := fun (x : Later V1) => BSeg.text (Seg.below HWD.out.b x.h)
          clear hw hxx ea
          unfold encI at HF
          go_wp2_with fail
          refine region_later 16 (by kernel_rfl) (by kernel_rfl) ?_
          simp only [List.take_succ_cons, List.take_zero, List.drop_succ_cons, List.drop_zero]
          repeat (quiet_step ((exact later_call (HF.out _))))
          refine wpQuiet_nil ?_
          intro x
          have HWD := Lib.hid (HWD.out.below x.h)
          clear HF hcx s0 s1 sf sz
          generalize x.w = V at HWD ⊢
          obtain ⟨hwd4, hit4⟩ := HWD.out.item xx
          obtain ⟨v', A, hrun, hwd5, hia⟩ := hwd4.next xx (by have := HTL.out; omega) 151
          obtain ⟨q0, q1, q2, q3, hi⟩ := HWD.out.i
          have HI := Lib.hid hi
          have q0 := cell_at HI.out 0
          have q1 := cell_at HI.out 1
          have q2 := cell_at HI.out 2
          have q3 := cell_at HI.out 3
          have qf := free_all HI.out
          have qz := lt_of_heap HI.out
          simp only [List.getElem?_toArray, List.getElem?_cons_zero, List.getElem?_cons_succ] at q0 q1 q2 q3
          rw [show (setItem V it xx).heap.size = V.heap.size by unfold setItem; simp] at hrun
          unfold itemC setItem at hrun
          unfold itemC setItem at hit4
          have HIA := Lib.hid (hia _ hit4)
          have HRUN := Lib.hid hrun
          have HWD5 := Lib.hid hwd5
          clear hwd4 hit4 hrun hwd5 hi hia
          go_wp2_with (at_builtin; refine append_run rfl rfl rfl rfl HRUN.out ?_)
          clear q0 q1 q2 q3 qf qz
          have HSA := Lib.hid HWD5.out.c
          have s0 := cell_at HSA.out 0
          have sf := free_all HSA.out
          have sz := lt_of_heap HSA.out
          simp only [List.getElem?_toArray, List.getElem?_cons_zero] at s0
          have q1 := cell_at HIA.out 1
          have qz := lt_of_heap HIA.out
          simp only [List.getElem?_toArray, List.getElem?_cons_zero, List.getElem?_cons_succ] at q1
          have hx0 : (0 : Int) ≤ xx.bytes := by omega
          have hx1 : (xx.bytes : Int) ≤ rn := by omega
          by_cases hcc : ch = xx.bytes
          · refine region_tail 10 (by kernel_rfl) (by kernel_rfl) ?_
            simp only [List.take_succ_cons, List.take_zero, List.drop_succ_cons, List.drop_zero]
            repeat (first | still_step)
            refine wpStill_nil ?_
            go_wp2_with fail
            go_step3
            have hseg : BSeg A 0 (.slice (if ch = xx.bytes then ah else ah.map (·.add (xx.bytes * 1))) (rn - xx.bytes) (ch - xx.bytes)) (rem.drop xx.bytes) := by
              have h1 := HWD5.out.b
              unfold BSeg at h1 ⊢
              rw [HRL.out] at h1
              have h2 := Seg.from h1 hp2
              rw [List.length_drop, HRL.out]
              unfold bytesV at h2 ⊢
              rw [← List.map_drop, Nat.mul_one] at h2
              rw [Nat.mul_one]
              exact h2
            first | rw [if_pos hcc, hcc, Nat.sub_self] at hseg | rw [if_neg hcc] at hseg
            try rw [Nat.mul_one] at hseg
            have hd0 : Below A.heap.size A A.drew := (Below.refl _ _).drew
            have hfin := (HWD5.out.below hd0).put (Seg.below hseg hd0)
            have hdr : h.drop (d + xx.bytes) = rem.drop xx.bytes := by rw [← List.drop_drop, HREM.out]
            exact (show ∃ m, _ from ⟨h.length - (d + xx.bytes) + 1,  Look.mk ⟨⟨d + xx.bytes, T ++ [xx], _, by omega, rfl, by
              rw [hdr, ← HW.out, HWN.out.1, List.append_assoc, ← Nat.add_assoc]; rfl, by rw [hdr, ← HL.out, HWN.out.2.1, ← Nat.add_assoc], by have := HTL.out; simp; omega, by rw [hdr]; exact hfin, by omega, Nat.le_refl _⟩⟩⟩)
          · refine region_tail 10 (by kernel_rfl) (by kernel_rfl) ?_
            simp only [List.take_succ_cons, List.take_zero, List.drop_succ_cons, List.drop_zero]
            repeat (first | still_step)
            refine wpStill_nil ?_
            go_wp2_with fail
            go_step3
            have hseg : BSeg A 0 (.slice (if ch = xx.bytes then ah else ah.map (·.add (xx.bytes * 1))) (rn - xx.bytes) (ch - xx.bytes)) (rem.drop xx.bytes) := by
              have h1 := HWD5.out.b
              unfold BSeg at h1 ⊢
              rw [HRL.out] at h1
              have h2 := Seg.from h1 hp2
              rw [List.length_drop, HRL.out]
              unfold bytesV at h2 ⊢
              rw [← List.map_drop, Nat.mul_one] at h2
              rw [Nat.mul_one]
              exact h2
            first | rw [if_pos hcc, hcc, Nat.sub_self] at hseg | rw [if_neg hcc] at hseg
            try rw [Nat.mul_one] at hseg
            have hd0 : Below A.heap.size A A.drew := (Below.refl _ _).drew
            have hfin := (HWD5.out.below hd0).put (Seg.below hseg hd0)
            have hdr : h.drop (d + xx.bytes) = rem.drop xx.bytes := by rw [← List.drop_drop, HREM.out]
            exact (show ∃ m, _ from ⟨h.length - (d + xx.bytes) + 1,  Look.mk ⟨⟨d + xx.bytes, T ++ [xx], _, by omega, rfl, by
              rw [hdr, ← HW.out, HWN.out.1, List.append_assoc, ← Nat.add_assoc]; rfl, by rw [hdr, ← HL.out, HWN.out.2.1, ← Nat.add_assoc], by have := HTL.out; simp; omega, by rw [hdr]; exact hfin, by omega, Nat.le_refl _⟩⟩⟩)
  · rintro l n a' w' ⟨v, u7, u8, u9, u10, u11, u12, u13, u14, u15, u16, u17, u18, u19, u20, u21, u22, u23, u24, u25, u26, u27, u28, u29, u30, u31, u32, u33, u34, u35, u36, u37, u38, u39, u40, u41, u42, u43, u44, u45, u46, u47, u48, u49, u50, u51, u52, u53, u54, u55, u56, u57, u58, u59, u60, u61, rfl, hP⟩
    obtain ⟨d, T, hv2, hd, hn, hW2, hL2, hTL2, hwd, hst, hl1⟩ := hP.rest
    have HWD := Lib.hid hwd
    have HW := Lib.hid hW2
    have HL := Lib.hid hL2
    have HTL := Lib.hid hTL2
    have HSTP := Lib.hid hst
    clear hP hW2 hL2 hTL2 hwd hst HS HR HI
    rcases (show l = 0 ∨ l = 1 by omega) with rfl | rfl
    · refine ⟨_, rfl, ?_⟩
      have hws := whole_stop (p - h.length + d) (HSTP.out rfl)
      obtain ⟨rem, hrem⟩ : ∃ z, h.drop d = z := ⟨_, rfl⟩
      rw [hrem] at HWD HW HL hws
      rw [hws.1, List.append_nil] at HW
      rw [hws.2] at HL
      obtain ⟨i, hi, hz0, hz1, hz2⟩ := elemB.parts
      have hrl : rem.length ≤ h.length := by rw [← hrem, List.length_drop]; omega
      have hsrc := Seg.src HWD.out.b
      obtain ⟨hv3, A, hr, ha, _⟩ := run_append_seg (P := Tryd.prog) w' w.heap.size 35 35 5 i _ 1 1 elemB.t hi hz0 hz1 hz2 elemB.z elemB.p (.slice none 0 0) 0 [] (Seg.nil _ _ _ _) hv2 rem.length (bytesV rem) (by rw [bytesV_len]; omega) hsrc (fun u hu => bytesV_one hu) (by unfold maxLen; omega) (by omega) HWD.out.u.size
      have hbA : Below w'.heap.size w' A := ha.u.below (Nat.le_refl _) (fun b hb hh => by simp [Value.ownBlock] at hh)
      have hseg := ha.seg
      rw [List.nil_append, Nat.zero_add] at hseg
      obtain ⟨a3, c3, rfl, _, _, _⟩ := Seg.shape hseg
      have HSC := Lib.hid HWD.out.c
      have HWDA := Lib.hid (HWD.out.below hbA)
      have HSA := Lib.hid HWDA.out.c
      have HSG := Lib.hid hseg
      have HRUN := Lib.hid hr
      clear hws hrem hr ha hseg hsrc hbA hi hz0 hz1 hz2
      have s0 := cell_at HSC.out 0
      have sz := lt_of_heap HSC.out
      simp only [List.getElem?_toArray, List.getElem?_cons_zero] at s0
      have k0 := cell_at HSA.out 0
      have kf := free_all HSA.out
      have kz := lt_of_heap HSA.out
      simp only [List.getElem?_toArray, List.getElem?_cons_zero] at k0
      go_wp2_with (at_builtin; refine append_run rfl rfl rfl rfl HRUN.out ?_)
      simp only [jumps]
      have hu4 : Upd (fun b => b = sb) A (A.setCell ⟨sb, 0, none⟩ (.slice a3 rem.length c3)) := Upd.setCell (S := fun b => b = sb) (p := ⟨sb, 0, none⟩) (Upd.refl _ _) (fun _ => rfl) _
      have hfin := HWDA.out.put (hv' := .slice a3 rem.length c3) (rem' := rem) (HSG.out.rebase (fun _ _ => Nat.zero_le _))
      refine bodyPost_ret (v := v) (by simp [results, Tryd.results122, go_sem, *]) rfl (⟨v, _, rfl, hfin.c, ?_, ?_, hfin.u⟩)
      · rw [← HL.out]
        exact Seg.upd HSG.out hu4 (fun k hk hh => by rw [hh] at hk; exact no_own HSG.out HSA.out (by decide) hk)
      · rw [← HW.out]
        exact hfin.q
    · refine ⟨_, rfl, ?_⟩
      clear HSTP
      have hrl : (h.drop d).length = h.length - d := List.length_drop
      obtain ⟨rem, hrem⟩ : ∃ z, h.drop d = z := ⟨_, rfl⟩
      obtain ⟨rn, hrn⟩ : ∃ z, h.length - d = z := ⟨_, rfl⟩
      rw [hrem] at HW HL HWD hrl
      rw [hrn] at hrl
      obtain ⟨ah, ch, hvv, hc1, hc2, hc3⟩ := Seg.shape HWD.out.b
      rw [hrl] at hvv hc1 hc3
      subst hvv
      have HREM := Lib.hid hrem
      have HRL := Lib.hid hrl
      have HS := Lib.hid HWD.out.c
      clear hrem hrl
      have s0 := cell_at HS.out 0
      have s1 := cell_at HS.out 1
      have sf := free_all HS.out
      have sz := lt_of_heap HS.out
      simp only [List.getElem?_toArray, List.getElem?_cons_zero, List.getElem?_cons_succ] at s0 s1
      by_cases hz : rn = 0
      · subst hz
        have hr0 : rem = [] := List.length_eq_zero_iff.1 HRL.out
        have HST := Lib.hid (show Stops all (h.drop d) from .inl (by rw [HREM.out]; exact hr0))
        clear hr0
        go_wp2_with fail
        go_step3
        exact (show ∃ m, _ from ⟨h.length - d, by omega,  Look.mk ⟨⟨d, T, _, hd, rfl, by rw [HREM.out]; exact HW.out, by rw [HREM.out]; exact HL.out, HTL.out, by rw [HREM.out]; exact HWD.out, fun _ => HST.out, by omega⟩⟩⟩)
      · have hzi : ((rn : Int) == 0) = false := by simp; omega
        cases all with
        | true =>
          have HNS := Lib.hid (show ¬ Stops true rem from fun h => h.elim (fun h => by have := HRL.out; rw [h] at this; simp at this; omega) (fun h => by cases h.1))
          have hw := whole_one (p - h.length + d) HNS.out
          have hp1 := one_pos (p - h.length + d) rem
          have hp2 := one_le (p - h.length + d) hw.2.2
          obtain ⟨xx, hxx⟩ : ∃ x, one (p - h.length + d) rem = x := ⟨_, rfl⟩
          rw [hxx] at hw hp1 hp2
          rw [HRL.out] at hp2
          have hrx := rune_le rem
          have HWN := Lib.hid hw
          have hw1 : IntKind.i64.wrap ((p : Int) - (rn : Int)) = ((p - rn : Nat) : Int) := by rw [i64w _ (by omega) (by omega)]; omega
          have ea : p - h.length + d = p - rn := by omega
          rw [ea] at hxx
          have HF := Lib.hid (fun (x : Later w') => (first_calls ⟨rem.toArray⟩ (p - rn) x.w (by have := HRL.out; show 0 < rem.toArray.size; simp; omega) (HWD.out.t.below x.h) : Calls _ _ _ _ _))
          rw [show (ByteArray.mk rem.toArray).data.toList = rem by simp, hxx] at HF
          have hcx := fun (x : Later w') => BSeg.text (Seg.below HWD.out.b x.h)
          clear hw hxx ea
          unfold encI at HF
          go_wp2_with fail
          refine region_later 16 (by kernel_rfl) (by kernel_rfl) ?_
          simp only [List.take_succ_cons, List.take_zero, List.drop_succ_cons, List.drop_zero]
          repeat (quiet_step ((exact later_call (HF.out _))))
          refine wpQuiet_nil ?_
          intro x
          have HWD := Lib.hid (HWD.out.below x.h)
          clear HF hcx s0 s1 sf sz
          generalize x.w = V at HWD ⊢
          obtain ⟨hwd4, hit4⟩ := HWD.out.item xx
          obtain ⟨v', A, hrun, hwd5, hia⟩ := hwd4.next xx (by have := HTL.out; omega) 151
          obtain ⟨q0, q1, q2, q3, hi⟩ := HWD.out.i
          have HI := Lib.hid hi
          have q0 := cell_at HI.out 0
          have q1 := cell_at HI.out 1
          have q2 := cell_at HI.out 2
          have q3 := cell_at HI.out 3
          have qf := free_all HI.out
          have qz := lt_of_heap HI.out
          simp only [List.getElem?_toArray, List.getElem?_cons_zero, List.getElem?_cons_succ] at q0 q1 q2 q3
          rw [show (setItem V it xx).heap.size = V.heap.size by unfold setItem; simp] at hrun
          unfold itemC setItem at hrun
          unfold itemC setItem at hit4
          have HIA := Lib.hid (hia _ hit4)
          have HRUN := Lib.hid hrun
          have HWD5 := Lib.hid hwd5
          clear hwd4 hit4 hrun hwd5 hi hia
          go_wp2_with (at_builtin; refine append_run rfl rfl rfl rfl HRUN.out ?_)
          clear q0 q1 q2 q3 qf qz
          have HSA := Lib.hid HWD5.out.c
          have s0 := cell_at HSA.out 0
          have sf := free_all HSA.out
          have sz := lt_of_heap HSA.out
          simp only [List.getElem?_toArray, List.getElem?_cons_zero] at s0
          have q1 := cell_at HIA.out 1
          have qz := lt_of_heap HIA.out
          simp only [List.getElem?_toArray, List.getElem?_cons_zero, List.getElem?_cons_succ] at q1
          have hx0 : (0 : Int) ≤ xx.bytes := by omega
          have hx1 : (xx.bytes : Int) ≤ rn := by omega
          by_cases hcc : ch = xx.bytes
          · refine region_tail 10 (by kernel_rfl) (by kernel_rfl) ?_
            simp only [List.take_succ_cons, List.take_zero, List.drop_succ_cons, List.drop_zero]
            repeat (first | still_step)
            refine wpStill_nil ?_
            go_wp2_with fail
            go_step3
            have hseg : BSeg A 0 (.slice (if ch = xx.bytes then ah else ah.map (·.add (xx.bytes * 1))) (rn - xx.bytes) (ch - xx.bytes)) (rem.drop xx.bytes) := by
              have h1 := HWD5.out.b
              unfold BSeg at h1 ⊢
              rw [HRL.out] at h1
              have h2 := Seg.from h1 hp2
              rw [List.length_drop, HRL.out]
              unfold bytesV at h2 ⊢
              rw [← List.map_drop, Nat.mul_one] at h2
              rw [Nat.mul_one]
              exact h2
            first | rw [if_pos hcc, hcc, Nat.sub_self] at hseg | rw [if_neg hcc] at hseg
            try rw [Nat.mul_one] at hseg
            have hd0 : Below A.heap.size A A.drew := (Below.refl _ _).drew
            have hfin := (HWD5.out.below hd0).put (Seg.below hseg hd0)
            have hdr : h.drop (d + xx.bytes) = rem.drop xx.bytes := by rw [← List.drop_drop, HREM.out]
            exact (show ∃ m, _ from ⟨h.length - (d + xx.bytes) + 1, by omega,  Look.mk ⟨⟨d + xx.bytes, T ++ [xx], _, by omega, rfl, by
              rw [hdr, ← HW.out, HWN.out.1, List.append_assoc, ← Nat.add_assoc]; rfl, by rw [hdr, ← HL.out, HWN.out.2.1, ← Nat.add_assoc], by have := HTL.out; simp; omega, by rw [hdr]; exact hfin, by omega, Nat.le_refl _⟩⟩⟩)
          · refine region_tail 10 (by kernel_rfl) (by kernel_rfl) ?_
            simp only [List.take_succ_cons, List.take_zero, List.drop_succ_cons, List.drop_zero]
            repeat (first | still_step)
            refine wpStill_nil ?_
            go_wp2_with fail
            go_step3
            have hseg : BSeg A 0 (.slice (if ch = xx.bytes then ah else ah.map (·.add (xx.bytes * 1))) (rn - xx.bytes) (ch - xx.bytes)) (rem.drop xx.bytes) := by
              have h1 := HWD5.out.b
              unfold BSeg at h1 ⊢
              rw [HRL.out] at h1
              have h2 := Seg.from h1 hp2
              rw [List.length_drop, HRL.out]
              unfold bytesV at h2 ⊢
              rw [← List.map_drop, Nat.mul_one] at h2
              rw [Nat.mul_one]
              exact h2
            first | rw [if_pos hcc, hcc, Nat.sub_self] at hseg | rw [if_neg hcc] at hseg
            try rw [Nat.mul_one] at hseg
            have hd0 : Below A.heap.size A A.drew := (Below.refl _ _).drew
            have hfin := (HWD5.out.below hd0).put (Seg.below hseg hd0)
            have hdr : h.drop (d + xx.bytes) = rem.drop xx.bytes := by rw [← List.drop_drop, HREM.out]
            exact (show ∃ m, _ from ⟨h.length - (d + xx.bytes) + 1, by omega,  Look.mk ⟨⟨d + xx.bytes, T ++ [xx], _, by omega, rfl, by
              rw [hdr, ← HW.out, HWN.out.1, List.append_assoc, ← Nat.add_assoc]; rfl, by rw [hdr, ← HL.out, HWN.out.2.1, ← Nat.add_assoc], by have := HTL.out; simp; omega, by rw [hdr]; exact hfin, by omega, Nat.le_refl _⟩⟩⟩)
        | false =>
          have HG := Lib.hid (beginning_calls ⟨rem.toArray⟩ w' HWD.out.t)
          rw [show (ByteArray.mk rem.toArray).data.toList = rem by simp] at HG
          have hct := BSeg.text HWD.out.b
          go_wp2_with fail
          refine HG.out.mono ?_
          rintro e V1 ⟨rfl, hb1⟩
          have HWD := Lib.hid (HWD.out.below hb1)
          have HS := Lib.hid HWD.out.c
          clear hb1 HG hct s0 s1 sf sz
          have s0 := cell_at HS.out 0
          have s1 := cell_at HS.out 1
          have sf := free_all HS.out
          have sz := lt_of_heap HS.out
          simp only [List.getElem?_toArray, List.getElem?_cons_zero, List.getElem?_cons_succ] at s0 s1
          by_cases hbg : BegP rem
          · have hdb : decide (BegP rem) = true := decide_eq_true hbg
            have HST := Lib.hid (show Stops false (h.drop d) from .inr ⟨rfl, by rw [HREM.out]; exact hbg⟩)
            clear hbg
            go_wp2_with fail
            go_step3
            exact (show ∃ m, _ from ⟨h.length - d, by omega,  Look.mk ⟨⟨d, T, _, hd, rfl, by rw [HREM.out]; exact HW.out, by rw [HREM.out]; exact HL.out, HTL.out, by rw [HREM.out]; exact HWD.out, fun _ => HST.out, by omega⟩⟩⟩)
          · have hdb : decide (BegP rem) = false := decide_eq_false hbg
            have HNS := Lib.hid (show ¬ Stops false rem from fun h => h.elim (fun h => by have := HRL.out; rw [h] at this; simp at this; omega) (fun h => hbg h.2))
            clear hbg
            have hw := whole_one (p - h.length + d) HNS.out
            have hp1 := one_pos (p - h.length + d) rem
            have hp2 := one_le (p - h.length + d) hw.2.2
            obtain ⟨xx, hxx⟩ : ∃ x, one (p - h.length + d) rem = x := ⟨_, rfl⟩
            rw [hxx] at hw hp1 hp2
            rw [HRL.out] at hp2
            have hrx := rune_le rem
            have HWN := Lib.hid hw
            have hw1 : IntKind.i64.wrap ((p : Int) - (rn : Int)) = ((p - rn : Nat) : Int) := by rw [i64w _ (by omega) (by omega)]; omega
            have ea : p - h.length + d = p - rn := by omega
            rw [ea] at hxx
            have HF := Lib.hid (fun (x : Later V1) => (first_calls ⟨rem.toArray⟩ (p - rn) x.w (by have := HRL.out; show 0 < rem.toArray.size; simp; omega) (HWD.out.t.below x.h) : Calls _ _ _ _ _))
            rw [show (ByteArray.mk rem.toArray).data.toList = rem by simp, hxx] at HF
            have hcx := fun (x : Later V1) => BSeg.text (Seg.below HWD.out.b x.h)
            clear hw hxx ea
            unfold encI at HF
            go_wp2_with fail
            refine region_later 16 (by kernel_rfl) (by kernel_rfl) ?_
            simp only [List.take_succ_cons, List.take_zero, List.drop_succ_cons, List.drop_zero]
            repeat (quiet_step ((exact later_call (HF.out _))))
            refine wpQuiet_nil ?_
            intro x
            have HWD := Lib.hid (HWD.out.below x.h)
            clear HF hcx s0 s1 sf sz
            generalize x.w = V at HWD ⊢
            obtain ⟨hwd4, hit4⟩ := HWD.out.item xx
            obtain ⟨v', A, hrun, hwd5, hia⟩ := hwd4.next xx (by have := HTL.out; omega) 151
            obtain ⟨q0, q1, q2, q3, hi⟩ := HWD.out.i
            have HI := Lib.hid hi
            have q0 := cell_at HI.out 0
            have q1 := cell_at HI.out 1
            have q2 := cell_at HI.out 2
            have q3 := cell_at HI.out 3
            have qf := free_all HI.out
            have qz := lt_of_heap HI.out
            simp only [List.getElem?_toArray, List.getElem?_cons_zero, List.getElem?_cons_succ] at q0 q1 q2 q3
            rw [show (setItem V it xx).heap.size = V.heap.size by unfold setItem; simp] at hrun
            unfold itemC setItem at hrun
            unfold itemC setItem at hit4
            have HIA := Lib.hid (hia _ hit4)
            have HRUN := Lib.hid hrun
            have HWD5 := Lib.hid hwd5
            clear hwd4 hit4 hrun hwd5 hi hia
            go_wp2_with (at_builtin; refine append_run rfl rfl rfl rfl HRUN.out ?_)
            clear q0 q1 q2 q3 qf qz
            have HSA := Lib.hid HWD5.out.c
            have s0 := cell_at HSA.out 0
            have sf := free_all HSA.out
            have sz := lt_of_heap HSA.out
            simp only [List.getElem?_toArray, List.getElem?_cons_zero] at s0
            have q1 := cell_at HIA.out 1
            have qz := lt_of_heap HIA.out
            simp only [List.getElem?_toArray, List.getElem?_cons_zero, List.getElem?_cons_succ] at q1
            have hx0 : (0 : Int) ≤ xx.bytes := by omega
            have hx1 : (xx.bytes : Int) ≤ rn := by omega
            by_cases hcc : ch = xx.bytes
            · refine region_tail 10 (by kernel_rfl) (by kernel_rfl) ?_
              simp only [List.take_succ_cons, List.take_zero, List.drop_succ_cons, List.drop_zero]
              repeat (first | still_step)
              refine wpStill_nil ?_
              go_wp2_with fail
              go_step3
              have hseg : BSeg A 0 (.slice (if ch = xx.bytes then ah else ah.map (·.add (xx.bytes * 1))) (rn - xx.bytes) (ch - xx.bytes)) (rem.drop xx.bytes) := by
                have h1 := HWD5.out.b
                unfold BSeg at h1 ⊢
                rw [HRL.out] at h1
                have h2 := Seg.from h1 hp2
                rw [List.length_drop, HRL.out]
                unfold bytesV at h2 ⊢
                rw [← List.map_drop, Nat.mul_one] at h2
                rw [Nat.mul_one]
                exact h2
              first | rw [if_pos hcc, hcc, Nat.sub_self] at hseg | rw [if_neg hcc] at hseg
              try rw [Nat.mul_one] at hseg
              have hd0 : Below A.heap.size A A.drew := (Below.refl _ _).drew
              have hfin := (HWD5.out.below hd0).put (Seg.below hseg hd0)
              have hdr : h.drop (d + xx.bytes) = rem.drop xx.bytes := by rw [← List.drop_drop, HREM.out]
              exact (show ∃ m, _ from ⟨h.length - (d + xx.bytes) + 1, by omega,  Look.mk ⟨⟨d + xx.bytes, T ++ [xx], _, by omega, rfl, by
                rw [hdr, ← HW.out, HWN.out.1, List.append_assoc, ← Nat.add_assoc]; rfl, by rw [hdr, ← HL.out, HWN.out.2.1, ← Nat.add_assoc], by have := HTL.out; simp; omega, by rw [hdr]; exact hfin, by omega, Nat.le_refl _⟩⟩⟩)
            · refine region_tail 10 (by kernel_rfl) (by kernel_rfl) ?_
              simp only [List.take_succ_cons, List.take_zero, List.drop_succ_cons, List.drop_zero]
              repeat (first | still_step)
              refine wpStill_nil ?_
              go_wp2_with fail
              go_step3
              have hseg : BSeg A 0 (.slice (if ch = xx.bytes then ah else ah.map (·.add (xx.bytes * 1))) (rn - xx.bytes) (ch - xx.bytes)) (rem.drop xx.bytes) := by
                have h1 := HWD5.out.b
                unfold BSeg at h1 ⊢
                rw [HRL.out] at h1
                have h2 := Seg.from h1 hp2
                rw [List.length_drop, HRL.out]
                unfold bytesV at h2 ⊢
                rw [← List.map_drop, Nat.mul_one] at h2
                rw [Nat.mul_one]
                exact h2
              first | rw [if_pos hcc, hcc, Nat.sub_self] at hseg | rw [if_neg hcc] at hseg
              try rw [Nat.mul_one] at hseg
              have hd0 : Below A.heap.size A A.drew := (Below.refl _ _).drew
              have hfin := (HWD5.out.below hd0).put (Seg.below hseg hd0)
              have hdr : h.drop (d + xx.bytes) = rem.drop xx.bytes := by rw [← List.drop_drop, HREM.out]
              exact (show ∃ m, _ from ⟨h.length - (d + xx.bytes) + 1, by omega,  Look.mk ⟨⟨d + xx.bytes, T ++ [xx], _, by omega, rfl, by
                rw [hdr, ← HW.out, HWN.out.1, List.append_assoc, ← Nat.add_assoc]; rfl, by rw [hdr, ← HL.out, HWN.out.2.1, ← Nat.add_assoc], by have := HTL.out; simp; omega, by rw [hdr]; exact hfin, by omega, Nat.le_refl _⟩⟩⟩)
end Go.Proofs.YtendkmldecoogaaDoor.Scan
namespace Go.Proofs.YtendkmldecoogaaDoor.Scan
open Go Go.RowKit Go.Lib Go.Proofs.YtendkmldecoogaaDoor.Kit Go.Proofs.YtendkmldecoogaaDoor.Round Go.Proofs.YtendkmldecoogaaDoor.Seg Go.Proofs.YtendkmldecoogaaDoor.Collect Go.Proofs.YtendkmldecoogaaDoor.Utf Go.Proofs.YtendkmldecoogaaDoor.It Go.Proofs.YtendkmldecoogaaDoor.ItGo Go.Proofs.YtendkmldecoogaaDoor.Ref2c Go.Proofs.YtendkmldecoogaaDoor.UtfLaw Go.Proofs.YtendkmldecoogaaDoor.UtfGo Go.Proofs.YtendkmldecoogaaDoor.ScanLaw
attribute [local irreducible] wpQuiet

/-- A scanner that took a text; all of it was made since B. -/
structure ScanAt (B : Nat) (W : World) (sb : Nat) (l : List UInt8) (hv : Value) : Prop where
  c : W.heap[sb]? = some (.cells #[hv, .int .i64 l.length] 191 (0, 0))
  r : BSeg W B hv (rest l)
  lo : B ≤ sb
theorem ScanAt.below {B : Nat} {W W' : World} {sb : Nat} {l : List UInt8} {hv : Value} (h : ScanAt B W sb l hv) (hb : Below W.heap.size W W') : ScanAt B W' sb l hv := ⟨(hb.block _ (lt_of_heap h.c)).trans h.c, Seg.below h.r hb, h.lo⟩
theorem ScanAt.upd {B : Nat} {W W' : World} {sb : Nat} {l : List UInt8} {hv : Value} {S : Nat → Prop} (h : ScanAt B W sb l hv) (hu : Upd S W W') (h1 : ¬ S sb) (h2 : ∀ b, hv.ownBlock = some b → ¬ S b) : ScanAt B W' sb l hv := ⟨Upd.mem hu h.c h1, Seg.upd h.r hu h2, h.lo⟩
/-- Go's tables lie below B. -/
def TabsB (B : Nat) (w : World) : Prop := Tabs w ∧ Shelf.lays197_ren.g 3 < B ∧ Shelf.lays197_ren.g 4 < B
theorem TabsB.of {w w' : World} (h : Tabs w) (hb : Below w.heap.size w w') : TabsB w.heap.size w' := ⟨h.below hb, h.lt3⟩
theorem TabsB.upd {B : Nat} {w w' : World} {S : Nat → Prop} (h : TabsB B w) (hu : Upd S w w') (hS : ∀ b, b < B → ¬ S b) : TabsB B w' := ⟨h.1.upd hu (hS _ h.2.1) (hS _ h.2.2), h.2⟩
theorem TabsB.below {B : Nat} {w w' : World} (h : TabsB B w) (hb : Below w.heap.size w w') : TabsB B w' := ⟨h.1.below hb, h.2⟩

theorem New_calls (w : World) : Calls Tryd.prog 86 #[] w fun e w' => e = .returned (.pointer (some ⟨w.heap.size, 0, none⟩)) ∧ w' = w.alloc (.cells #[.slice none 0 0, .int .i64 0] 191) := by
  go_enter Tryd.func86, Tryd.ntmps86
  go_wp2
  go_ret
  exact ⟨rfl, rfl⟩
theorem ScanAt.new (B : Nat) (w : World) (hB : B ≤ w.heap.size) : ScanAt B (w.alloc (.cells #[.slice none 0 0, .int .i64 0] 191)) w.heap.size [] (.slice none 0 0) := ⟨alloc_new rfl, Seg.nil _ _ _ _, hB⟩

set_option maxHeartbeats 1000000 in
set_option maxRecDepth 100000 in
theorem Put_calls (B0 sb : Nat) (l : List UInt8) (hv : Value) (c : UInt8) (w : World) (hS : ScanAt B0 w sb l hv) (hl : l.length ≤ 100000000000) (hT : TabsB B0 w) :
    Calls Tryd.prog 89 #[.pointer (some ⟨sb, 0, none⟩), .int .u8 c.toNat] w fun e w' => ∃ v hv', e = .returned v ∧ ScanAt B0 w' sb (l ++ [c]) hv' ∧ (∀ b, hv'.ownBlock = some b → w.heap.size ≤ b) ∧
      ISeg w' w.heap.size v (comp (comp 0 l).2 (rest l ++ [c])).1 ∧ Upd (fun b => b = sb ∨ hv.ownBlock = some b) w w' := by
  obtain ⟨ah, ch, rfl, hc1, hc2, _⟩ := Seg.shape hS.r
  have hrl := rest_len l
  have hra := rest_at l
  have hrp := rest_put l c
  obtain ⟨W1, hW1⟩ : ∃ Xz, w.alloc (.cells #[.int .u8 c.toNat] 5) = Xz := ⟨_, rfl⟩
  obtain ⟨bn, hbn⟩ : ∃ xz, w.heap.size = xz := ⟨_, rfl⟩
  have hb1 : Below w.heap.size w W1 := by rw [← hW1]; exact (Below.refl _ _).alloc (Nat.le_refl _) _
  have HN := Lib.hid (by rw [← hW1, ← hbn]; exact alloc_new rfl : W1.heap[bn]? = some (.cells #[.int .u8 c.toNat] 5 (0, 0)))
  have EW1 := Lib.hid hW1
  have Ebn := Lib.hid hbn
  clear hW1 hbn
  obtain ⟨i, hi, hz0, hz1, hz2⟩ := elemB.parts
  have hsrc : Src W1 (.slice (some ⟨bn, 0, none⟩) 1 1) 1 (bytesV [c]) := by
    refine ⟨some ⟨bn, 0, none⟩, 1, rfl, (fun h => by cases h), fun ad had j u hu => ?_⟩
    cases had
    rw [add_plain, cell_at HN.out]
    simpa [bytesV] using hu
  have hS1 := hS.below hb1
  obtain ⟨hv1, A, hr, ha, _⟩ := run_append_seg (P := Tryd.prog) W1 B0 35 35 5 i _ 1 1 elemB.t hi hz0 hz1 hz2 elemB.z elemB.p (.slice ah (rest l).length ch) (rest l).length (bytesV (rest l)) hS1.r (.slice (some ⟨bn, 0, none⟩) 1 1) 1 (bytesV [c]) (by rfl) hsrc (fun u hu => bytesV_one hu) (by unfold maxLen; omega) (by omega) (Nat.le_of_lt (Nat.lt_of_le_of_lt hS.lo (lt_of_heap hS1.c)))
  have hseg : BSeg A B0 hv1 (rest l ++ [c]) := by
    unfold BSeg
    have h1 := ha.seg
    rw [List.length_append, show bytesV (rest l ++ [c]) = bytesV (rest l) ++ bytesV [c] by simp [bytesV]]
    exact h1
  have hSA : A.heap[sb]? = some (.cells #[.slice ah (rest l).length ch, .int .i64 l.length] 191 (0, 0)) := Upd.mem ha.u hS1.c (no_own hS1.r hS1.c (by decide))
  obtain ⟨a1, c1, rfl, _, _, _⟩ := Seg.shape hseg
  rw [show (rest l ++ [c]).length = (rest l).length + 1 by simp] at hseg hr
  obtain ⟨B, hB⟩ : ∃ z, (A.setCell ⟨sb, 0, none⟩ (.slice a1 ((rest l).length + 1) c1)).setCell ⟨sb, 1, none⟩ (.int .i64 ((l.length : Int) + 1)) = z := ⟨_, rfl⟩
  have huB : Upd (fun b => b = sb) A B := by
    rw [← hB]
    exact ((Upd.refl _ _).setCell (S := fun b => b = sb) (p := ⟨sb, 0, none⟩) (fun _ => rfl) _).setCell (S := fun b => b = sb) (p := ⟨sb, 1, none⟩) (fun _ => rfl) _
  have hSB : B.heap[sb]? = some (.cells #[.slice a1 ((rest l).length + 1) c1, .int .i64 ((l.length : Int) + 1)] 191 (0, 0)) := by
    rw [← hB, heap_set (heap_set hSA 0 _) 1 _]
    rfl
  have hsegB : BSeg B B0 (.slice a1 ((rest l).length + 1) c1) (rest l ++ [c]) := Seg.upd hseg huB (fun k hk hh => by rw [hh] at hk; exact no_own hseg hSA (by decide) hk)
  have hu : Upd (fun b => b = sb ∨ (Value.slice ah (rest l).length ch).ownBlock = some b) w B :=
    (grow (S := fun b => b = sb ∨ (Value.slice ah (rest l).length ch).ownBlock = some b) (Upd.of_below hb1) ha.u (fun b _ h => .inr h)).trans (huB.mono fun b _ h => .inl h)
  have hTB : Tabs B := (hT.upd hu (fun b hb h => by
    rcases h with h | h
    · have := hS.lo; omega
    · have := (hS.r.lt _ h).1; omega)).1
  have HK := Lib.hid (take_calls false sb (l.length + 1) _ _ B hSB (Seg.rebase hsegB (fun _ _ => Nat.zero_le _)) (by rw [List.length_append, List.length_singleton]; omega) (by omega) hTB)
  have hw1 : IntKind.i64.wrap ((l.length : Int) + 1) = ((l.length + 1 : Nat) : Int) := by rw [i64w _ (by omega) (by omega)]; omega
  have HRUN := Lib.hid hr
  rw [← EW1.out, ← Ebn.out] at HRUN
  have HSA := Lib.hid hSA
  have HSC := Lib.hid hS.c
  have HB := Lib.hid hB
  have HU := Lib.hid hu
  clear hr hSA hB hu hsegB huB hseg hsrc hS1 hz0 hz1 hz2 hSB
  have s0 := cell_at HSC.out 0
  have sz := lt_of_heap HSC.out
  simp only [List.getElem?_toArray, List.getElem?_cons_zero] at s0
  have k0 := cell_at HSA.out 0
  have k1 := cell_at HSA.out 1
  have kf := free_all HSA.out
  have kz := lt_of_heap HSA.out
  simp only [List.getElem?_toArray, List.getElem?_cons_zero, List.getElem?_cons_succ] at k0 k1
  go_enter Tryd.func89, Tryd.ntmps89
  go_wp2_with (at_builtin; refine append_run rfl rfl rfl rfl HRUN.out ?_)
  rw [HB.out]
  refine HK.out.mono ?_
  rintro e W5 ⟨v, hv', rfl, k1, k2, k3, k4⟩
  rw [show l.length + 1 - (rest l ++ [c]).length = (comp 0 l).2 by rw [List.length_append, List.length_singleton]; omega] at k2 k3
  have HUB := HU.out.size
  have hown := fun b hb => (Seg.lt k2 b hb).1
  have hk2 : BSeg W5 B0 hv' (rest (l ++ [c])) := by
    rw [hrp]
    exact Seg.rebase k2 (fun b hb => by have := hown b hb; have := hS.lo; have := lt_of_heap hS.c; omega)
  have K1 := Lib.hid k1
  have K2 := Lib.hid hk2
  have K3 := Lib.hid (Seg.rebase (base' := w.heap.size) k3 (fun b hb => by have := (Seg.lt k3 b hb).1; omega))
  have K4 := Lib.hid (HU.out.trans (k4.mono fun b _ h => .inl h) : Upd (fun b => b = sb ∨ (Value.slice ah (rest l).length ch).ownBlock = some b) w W5)
  have hown' : ∀ b, hv'.ownBlock = some b → w.heap.size ≤ b := fun b hb => by have := hown b hb; omega
  clear k1 k2 hk2 k3 k4 HK
  go_wp2_with fail
  go_ret
  exact ⟨v, hv', rfl, ⟨by rw [K1.out]; simp, K2.out, hS.lo⟩, hown', K3.out, K4.out⟩

set_option maxRecDepth 100000 in
theorem End_calls (B0 sb : Nat) (l : List UInt8) (hv : Value) (w : World) (hS : ScanAt B0 w sb l hv) (hl : l.length ≤ 100000000000) (hT : Tabs w) :
    Calls Tryd.prog 91 #[.pointer (some ⟨sb, 0, none⟩)] w fun e w' => ∃ v, e = .returned v ∧ ISeg w' w.heap.size v (items (comp 0 l).2 (rest l)) ∧ Upd (fun b => b = sb) w w' := by
  have hra := rest_at l
  have HK := Lib.hid (take_calls true sb l.length hv (rest l) w hS.c (Seg.rebase hS.r (fun _ _ => Nat.zero_le _)) (by omega) (by omega) hT)
  rw [show l.length - (rest l).length = (comp 0 l).2 by omega] at HK
  clear hS hT hra
  go_enter Tryd.func91, Tryd.ntmps91
  go_wp2_with fail
  refine HK.out.mono ?_
  rintro e W5 ⟨v, hv', rfl, _, _, k3, k4⟩
  have K3 := Lib.hid k3
  have K4 := Lib.hid k4
  clear k3 k4
  go_wp2_with fail
  go_ret
  exact ⟨v, rfl, K3.out, K4.out⟩
end Go.Proofs.YtendkmldecoogaaDoor.Scan
