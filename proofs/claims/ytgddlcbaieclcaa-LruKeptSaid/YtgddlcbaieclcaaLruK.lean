/-
  lru: the chain of entries; cut, use (keys: two numbers).
-/
import Derived.Test.YtgddlcbaieclcaaProg
import Derived.Test.YtgddlcbaieclcaaKit
import Derived.Test.YtgddlcbaieclcaaMap
namespace Go.Proofs.Ytgddlcbaieclcaa.LruK
open Go Go.RowKit Go.Proofs.Ytgddlcbaieclcaa.Kit Go.Proofs.Ytgddlcbaieclcaa.Maps
attribute [local irreducible] wpQuiet

/-- A pointer to a block, or nil. -/
def at' : Option Nat → Value
  | none => .pointer none
  | some b => .pointer (some ⟨b, 0, none⟩)

abbrev Ky := Int × Int
/-- An entry's cells. -/
def entC (k : Ky) (v p n : Value) : Array Value := #[.int .i64 k.1, .int .i64 k.2, v, p, n]

/-- A key, its value, its block. -/
abbrev En := Ky × Value × Nat
def hd (L : List En) (q : Option Nat) : Option Nat := match L with | [] => q | e :: _ => some e.2.2
def lst : List En → Option Nat → Option Nat
  | [], p => p
  | e :: l, _ => lst l (some e.2.2)

/-- Entries that are linked, between two others. -/
def Seg (w : World) : Option Nat → List En → Option Nat → Prop
  | _, [], _ => True
  | p, e :: l, q => w.heap[e.2.2]? = some (.cells (entC e.1 e.2.1 (at' p) (at' (hd l q))) 140 (0, 0)) ∧ Seg w (some e.2.2) l q

theorem seg_append (w : World) (A B : List En) (p q : Option Nat) : Seg w p (A ++ B) q ↔ Seg w p A (hd B q) ∧ Seg w (lst A p) B q := by
  induction A generalizing p with
  | nil => simp [Seg, lst]
  | cons e A ih =>
    have h : hd (A ++ B) q = hd A (hd B q) := by cases A <;> rfl
    simp only [List.cons_append, Seg, lst, ih, h, and_assoc]
theorem seg_upd {w w' : World} {L : List En} {p q : Option Nat} (h : Seg w p L q) (hk : ∀ e ∈ L, w'.heap[e.2.2]? = w.heap[e.2.2]?) : Seg w' p L q := by
  induction L generalizing p with
  | nil => trivial
  | cons e l ih => exact ⟨(hk e (by simp)).trans h.1, ih h.2 (fun e' he => hk e' (by simp [he]))⟩
theorem lst_snoc (A : List En) (e : En) (p : Option Nat) : lst (A ++ [e]) p = some e.2.2 := by
  induction A generalizing p with
  | nil => rfl
  | cons a A ih => exact ih _
theorem lst_or (A : List En) (p : Option Nat) : (A = [] ∧ lst A p = p) ∨ ∃ A' e, A = A' ++ [e] ∧ lst A p = some e.2.2 := by
  rcases List.eq_nil_or_concat A with rfl | ⟨A', e, rfl⟩
  · exact .inl ⟨rfl, rfl⟩
  · exact .inr ⟨A', e, by simp, by rw [List.concat_eq_append]; exact lst_snoc A' e p⟩

structure CutP (w w' : World) (c : Nat) (most mp last first : Value) (p n : Option Nat) (kp : Ky) (vp lp : Value) (kn : Ky) (vn on : Value) : Prop where
  upd : Upd (fun b => b = c ∨ some b = p ∨ some b = n) w w'
  cache : w'.heap[c]? = some (.cells #[most, mp, if p = none then at' n else last, if n = none then at' p else first] 137 (0, 0))
  prev : ∀ b, p = some b → w'.heap[b]? = some (.cells (entC kp vp lp (at' n)) 140 (0, 0))
  next : ∀ b, n = some b → w'.heap[b]? = some (.cells (entC kn vn (at' p) on) 140 (0, 0))

theorem heap_set_ne {w : World} {b k : Nat} {o : Nat} {v : Value} {s : Option Obj} (hb : w.heap[k]? = s) (h : k ≠ b) : (w.setCell ⟨b, o, none⟩ v).heap[k]? = s := by
  rw [Below.heap_setCell _ _ _ _ h]; exact hb
theorem heap_drew {w : World} {k : Nat} : w.drew.heap[k]? = w.heap[k]? := rfl

set_option maxHeartbeats 1000000 in
set_option maxRecDepth 100000 in
theorem cut_calls (c e : Nat) (p n : Option Nat) (kp : Ky) (vp lp op : Value) (kn : Ky) (vn ln on : Value) (most mp last first : Value) (k : Ky) (v : Value) (w : World)
    (hc : w.heap[c]? = some (.cells #[most, mp, last, first] 137 (0, 0)))
    (he : w.heap[e]? = some (.cells (entC k v (at' p) (at' n)) 140 (0, 0)))
    (hp : ∀ b, p = some b → b ≠ e ∧ b ≠ c ∧ w.heap[b]? = some (.cells (entC kp vp lp op) 140 (0, 0)))
    (hn : ∀ b, n = some b → b ≠ e ∧ b ≠ c ∧ p ≠ some b ∧ w.heap[b]? = some (.cells (entC kn vn ln on) 140 (0, 0))) (hce : c ≠ e) :
    Calls Try.prog 74 #[.pointer (some ⟨c, 0, none⟩), .pointer (some ⟨e, 0, none⟩)] w fun x w' => x = .returned (.tuple #[]) ∧ CutP w w' c most mp last first p n kp vp lp kn vn on := by
  have zc := lt_of_heap hc
  have ze := lt_of_heap he
  have HC := Lib.hid hc
  have HE := Lib.hid he
  have HP := Lib.hid hp
  have HN := Lib.hid hn
  have f2 := free_at hc 2
  have f3 := free_at hc 3
  have e2 := cell_at he 3
  have e3 := cell_at he 4
  have c2 := cell_at hc 2
  have c3 := cell_at hc 3
  simp only [entC, List.getElem?_toArray, List.getElem?_cons_zero, List.getElem?_cons_succ] at e2 e3 c2 c3
  have hec : e ≠ c := Ne.symm hce
  cases p with
  | none =>
    simp only [at'] at e2
    cases n with
    | none =>
      simp only [at'] at e3
      clear hc he hp hn
      go_enter Try.func74, Try.ntmps74
      go_wp2_with fail
      go_end0
      exact ⟨rfl, ⟨(by repeat (first | exact Upd.refl _ _ | refine Upd.drew ?_ | refine Upd.setCell ?_ (fun _ => by simp) _)), by (repeat rw [heap_drew]); rw [heap_set (heap_set HC.out _ _) _ _]; rfl, (fun b h => by cases h), (fun b h => by cases h)⟩⟩
    | some bn =>
      obtain ⟨n1, n2, _, hbn⟩ := hn bn rfl
      have n1' := Ne.symm n1
      have n2' := Ne.symm n2
      have g1 := free_at hbn 3
      have g2 := cell_at hbn 3
      have zn := lt_of_heap hbn
      simp only [at', entC, List.getElem?_toArray, List.getElem?_cons_zero, List.getElem?_cons_succ] at e3 g2
      have HBN := Lib.hid hbn
      clear hc he hp hn hbn
      go_enter Try.func74, Try.ntmps74
      go_wp2_with fail
      refine region_tail 10 (by kernel_rfl) (by kernel_rfl) ?_
      simp only [List.take_succ_cons, List.take_zero, List.drop_succ_cons, List.drop_zero]
      repeat (first | still_step)
      refine wpStill_nil ?_
      go_wp2_with fail
      go_end0
      exact ⟨rfl, ⟨(by repeat (first | exact Upd.refl _ _ | refine Upd.drew ?_ | refine Upd.setCell ?_ (fun _ => by simp) _)), by (repeat rw [heap_drew]); rw [heap_set_ne (heap_set HC.out _ _) n2']; rfl, (fun b h => by cases h), (fun b h => by cases h; (repeat rw [heap_drew]); rw [heap_set (heap_set_ne HBN.out n2) _ _]; rfl)⟩⟩
  | some bp =>
    obtain ⟨p1, p2, hbp⟩ := hp bp rfl
    have p1' := Ne.symm p1
    have p2' := Ne.symm p2
    have h1 := free_at hbp 4
    have h2 := cell_at hbp 4
    have zp := lt_of_heap hbp
    simp only [at', entC, List.getElem?_toArray, List.getElem?_cons_zero, List.getElem?_cons_succ] at e2 h2
    have HBP := Lib.hid hbp
    clear hbp
    cases n with
    | none =>
      simp only [at'] at e3
      clear hc he hp hn
      go_enter Try.func74, Try.ntmps74
      go_wp2_with fail
      refine region_tail 10 (by kernel_rfl) (by kernel_rfl) ?_
      simp only [List.take_succ_cons, List.take_zero, List.drop_succ_cons, List.drop_zero]
      repeat (first | still_step)
      refine wpStill_nil ?_
      go_wp2_with fail
      go_end0
      exact ⟨rfl, ⟨(by repeat (first | exact Upd.refl _ _ | refine Upd.drew ?_ | refine Upd.setCell ?_ (fun _ => by simp) _)), by (repeat rw [heap_drew]); rw [heap_set (heap_set_ne HC.out p2') _ _]; rfl, (fun b h => by cases h; (repeat rw [heap_drew]); rw [heap_set_ne (heap_set HBP.out _ _) p2]; rfl), (fun b h => by cases h)⟩⟩
    | some bn =>
      obtain ⟨n1, n2, n3, hbn⟩ := hn bn rfl
      have n3 : bp ≠ bn := fun h => n3 (by rw [h])
      have n3' := Ne.symm n3
      have n1' := Ne.symm n1
      have n2' := Ne.symm n2
      have g1 := free_at hbn 3
      have g2 := cell_at hbn 3
      have zn := lt_of_heap hbn
      simp only [at', entC, List.getElem?_toArray, List.getElem?_cons_zero, List.getElem?_cons_succ] at e3 g2
      have HBN := Lib.hid hbn
      clear hc he hp hn hbn
      go_enter Try.func74, Try.ntmps74
      go_wp2_with fail
      refine region_tail 10 (by kernel_rfl) (by kernel_rfl) ?_
      simp only [List.take_succ_cons, List.take_zero, List.drop_succ_cons, List.drop_zero]
      repeat (first | still_step)
      refine wpStill_nil ?_
      go_wp2_with fail
      refine region_tail 10 (by kernel_rfl) (by kernel_rfl) ?_
      simp only [List.take_succ_cons, List.take_zero, List.drop_succ_cons, List.drop_zero]
      repeat (first | still_step)
      refine wpStill_nil ?_
      go_wp2_with fail
      go_end0
      exact ⟨rfl, ⟨(by repeat (first | exact Upd.refl _ _ | refine Upd.drew ?_ | refine Upd.setCell ?_ (fun _ => by simp) _)), by (repeat rw [heap_drew]); rw [heap_set_ne (heap_set_ne HC.out p2') n2']; rfl, (fun b h => by cases h; (repeat rw [heap_drew]); rw [heap_set_ne (heap_set HBP.out _ _) n3]; rfl), (fun b h => by cases h; (repeat rw [heap_drew]); rw [heap_set (heap_set_ne HBN.out n3') _ _]; rfl)⟩⟩

structure UseP (w w' : World) (c e : Nat) (most mp first : Value) (l : Option Nat) (k : Ky) (v : Value) (kl : Ky) (vl ol : Value) : Prop where
  upd : Upd (fun b => b = c ∨ b = e ∨ some b = l) w w'
  cache : w'.heap[c]? = some (.cells #[most, mp, at' (some e), if l = none then at' (some e) else first] 137 (0, 0))
  ent : w'.heap[e]? = some (.cells (entC k v (at' none) (at' l)) 140 (0, 0))
  next : ∀ b, l = some b → w'.heap[b]? = some (.cells (entC kl vl (at' (some e)) ol) 140 (0, 0))

set_option maxHeartbeats 1000000 in
set_option maxRecDepth 100000 in
theorem use_calls (c e : Nat) (l : Option Nat) (kl : Ky) (vl ll ol : Value) (most mp first : Value) (k : Ky) (v p n : Value) (w : World)
    (hc : w.heap[c]? = some (.cells #[most, mp, at' l, first] 137 (0, 0)))
    (he : w.heap[e]? = some (.cells (entC k v p n) 140 (0, 0)))
    (hl : ∀ b, l = some b → b ≠ e ∧ b ≠ c ∧ w.heap[b]? = some (.cells (entC kl vl ll ol) 140 (0, 0))) (hce : c ≠ e) :
    Calls Try.prog 75 #[.pointer (some ⟨c, 0, none⟩), .pointer (some ⟨e, 0, none⟩)] w fun x w' => x = .returned (.tuple #[]) ∧ UseP w w' c e most mp first l k v kl vl ol := by
  have zc := lt_of_heap hc
  have ze := lt_of_heap he
  have HC := Lib.hid hc
  have HE := Lib.hid he
  have HL := Lib.hid hl
  have f2 := free_at hc 2
  have f3 := free_at hc 3
  have q2 := free_at he 3
  have q3 := free_at he 4
  have e2 := cell_at he 3
  have e3 := cell_at he 4
  have c2 := cell_at hc 2
  have c3 := cell_at hc 3
  simp only [entC, List.getElem?_toArray, List.getElem?_cons_zero, List.getElem?_cons_succ] at e2 e3 c2 c3
  have hec : e ≠ c := Ne.symm hce
  cases l with
  | none =>
    simp only [at'] at c2
    clear hc he hl
    go_enter Try.func75, Try.ntmps75
    go_wp2_with fail
    go_end0
    exact ⟨rfl, ⟨(by repeat (first | exact Upd.refl _ _ | refine Upd.drew ?_ | refine Upd.setCell ?_ (fun _ => by simp) _)), by (repeat rw [heap_drew]); rw [heap_set (heap_set (heap_set_ne (heap_set_ne HC.out hce) hce) _ _) _ _]; rfl, by (repeat rw [heap_drew]); rw [heap_set_ne (heap_set_ne (heap_set (heap_set HE.out _ _) _ _) hec) hec]; rfl, (fun b h => by cases h)⟩⟩
  | some bn =>
    obtain ⟨n1, n2, hbn⟩ := hl bn rfl
    have n1' := Ne.symm n1
    have n2' := Ne.symm n2
    have g1 := free_at hbn 3
    have g2 := cell_at hbn 3
    have zn := lt_of_heap hbn
    simp only [at', entC, List.getElem?_toArray, List.getElem?_cons_zero, List.getElem?_cons_succ] at c2 g2
    have HBN := Lib.hid hbn
    clear hc he hl hbn
    go_enter Try.func75, Try.ntmps75
    go_wp2_with fail
    go_end0
    exact ⟨rfl, ⟨(by repeat (first | exact Upd.refl _ _ | refine Upd.drew ?_ | refine Upd.setCell ?_ (fun _ => by simp) _)), by (repeat rw [heap_drew]); rw [heap_set (heap_set_ne (heap_set_ne (heap_set_ne HC.out hce) hce) n2') _ _]; rfl, by (repeat rw [heap_drew]); rw [heap_set_ne (heap_set_ne (heap_set (heap_set HE.out _ _) _ _) n1') hec]; rfl, (fun b h => by cases h; (repeat rw [heap_drew]); rw [heap_set_ne (heap_set (heap_set_ne (heap_set_ne HBN.out n1) n1) _ _) n2]; rfl)⟩⟩
end Go.Proofs.Ytgddlcbaieclcaa.LruK
