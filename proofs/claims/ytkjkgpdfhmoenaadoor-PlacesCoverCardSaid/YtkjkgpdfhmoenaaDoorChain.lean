/-
  The plain law of numbers that are linked: what stands behind and ahead of each one, and what that becomes when one is cut out. chain.Chain: numbers that are linked, as they lie in memory; its methods. chain.Chain: New. chain.Chain: Cut. chain.Chain: All: the numbers that stand there.
-/
import Derived.Test.YtkjkgpdfhmoenaaDoorKit
import Derived.Test.YtkjkgpdfhmoenaaDoorCollect
import Derived.Test.YtkjkgpdfhmoenaaDoorRgu
import Derived.Test.YtkjkgpdfhmoenaaDoorBpeLaw
namespace Go.Proofs.YtkjkgpdfhmoenaaDoor.ChainLaw

/-- The first one; -1: there is none. -/
def hdI (L : List Nat) : Int := match L with | [] => -1 | a :: _ => a
/-- The last one; p: there is none. -/
def lsI (p : Int) : List Nat → Int
  | [] => p
  | a :: l => lsI a l
/-- The one behind i; of one that isn't there: itself. -/
def nx : List Nat → Nat → Int
  | [], i => i
  | a :: l, i => if i = a then hdI l else nx l i
/-- The one ahead of i; of the first one: p; of one that isn't there: itself. -/
def pv : Int → List Nat → Nat → Int
  | _, [], i => i
  | p, a :: l, i => if i = a then p else pv a l i

theorem nx_out : ∀ {L : List Nat} {i : Nat}, i ∉ L → nx L i = i
  | [], _, _ => rfl
  | a :: l, i, h => by
    simp only [List.mem_cons, not_or] at h
    unfold nx
    rw [if_neg h.1]
    exact nx_out h.2
theorem pv_out : ∀ {L : List Nat} {p : Int} {i : Nat}, i ∉ L → pv p L i = i
  | [], _, _, _ => rfl
  | a :: l, p, i, h => by
    simp only [List.mem_cons, not_or] at h
    unfold pv
    rw [if_neg h.1]
    exact pv_out h.2
theorem nx_mid : ∀ {A B : List Nat} {i : Nat}, i ∉ A → nx (A ++ i :: B) i = hdI B
  | [], B, i, _ => by simp [nx]
  | a :: A, B, i, h => by
    simp only [List.mem_cons, not_or] at h
    simp only [List.cons_append, nx]
    rw [if_neg h.1]
    exact nx_mid h.2
theorem pv_mid : ∀ {A B : List Nat} {p : Int} {i : Nat}, i ∉ A → pv p (A ++ i :: B) i = lsI p A
  | [], B, p, i, _ => by simp [pv, lsI]
  | a :: A, B, p, i, h => by
    simp only [List.mem_cons, not_or] at h
    simp only [List.cons_append, pv, lsI]
    rw [if_neg h.1]
    exact pv_mid h.2
theorem hdI_ne {L : List Nat} {i : Nat} (h : i ∉ L) : hdI L ≠ i := by
  cases L with
  | nil => simp [hdI] <;> omega
  | cons a l =>
    simp only [List.mem_cons, not_or] at h
    simp only [hdI]
    omega
/-- It is there just if what stands behind it is another. -/
theorem nx_has {L : List Nat} (hn : L.Nodup) (i : Nat) : i ∈ L ↔ nx L i ≠ i := by
  constructor
  · intro h
    obtain ⟨A, B, rfl⟩ := List.append_of_mem h
    have h2 := List.nodup_append.1 hn
    have hA : i ∉ A := fun hh => h2.2.2 i hh i (by simp) rfl
    rw [nx_mid hA]
    exact hdI_ne (List.nodup_cons.1 h2.2.1).1
  · intro h
    exact Decidable.by_contra fun hh => h (nx_out hh)

theorem lsI_nat : ∀ (A : List Nat) (p : Int), A ≠ [] → ∃ (A' : List Nat) (a : Nat), A = A' ++ [a] ∧ lsI p A = a
  | [], p, h => absurd rfl h
  | [a], p, _ => ⟨[], a, rfl, rfl⟩
  | a :: b :: l, p, _ => by
    obtain ⟨A', c, h1, h2⟩ := lsI_nat (b :: l) a (by simp)
    exact ⟨a :: A', c, by rw [h1]; rfl, h2⟩
theorem lsI_app : ∀ (A : List Nat) (a : Nat) (p : Int), lsI p (A ++ [a]) = a
  | [], a, p => rfl
  | b :: A, a, p => by simp only [List.cons_append, lsI]; exact lsI_app A a b

theorem nx_cut : ∀ {A B : List Nat} {i : Nat} (k : Nat), (A ++ i :: B).Nodup → nx (A ++ B) k = if k = i then (i : Int) else if A ≠ [] ∧ lsI 0 A = k then hdI B else nx (A ++ i :: B) k
  | [], B, i, k, hn => by
    simp only [List.nil_append] at hn ⊢
    have hi := (List.nodup_cons.1 hn).1
    by_cases h1 : k = i
    · subst h1; rw [if_pos rfl, nx_out hi]
    · rw [if_neg h1, if_neg (by simp)]
      simp only [nx]
      rw [if_neg h1]
  | [a], B, i, k, hn => by
    simp only [List.cons_append, List.nil_append, List.nodup_cons, List.mem_cons, not_or] at hn
    simp only [List.cons_append, List.nil_append, nx, lsI, hdI]
    by_cases h1 : k = i
    · subst h1
      rw [if_pos rfl, if_neg (Ne.symm hn.1.1), nx_out hn.2.1]
    · by_cases h2 : k = a
      · subst h2; simp [h1]
      · rw [if_neg h1, if_neg h2, if_neg (by simp; omega), if_neg h2, if_neg h1]
  | a :: b :: A, B, i, k, hn => by
    have hn2 : ((b :: A) ++ i :: B).Nodup := (List.nodup_cons.1 hn).2
    have ha : a ∉ (b :: A) ++ i :: B := (List.nodup_cons.1 hn).1
    have ih := nx_cut (A := b :: A) (B := B) (i := i) k hn2
    obtain ⟨A', c, e1, e2⟩ := lsI_nat (b :: A) a (by simp)
    have e3 : lsI 0 (b :: A) = lsI a (b :: A) := rfl
    have hc : c ∈ b :: A := by rw [e1]; simp
    simp only [List.mem_cons, List.mem_append, not_or] at ha hc
    simp only [List.cons_append] at ih ⊢
    by_cases h2 : k = a
    · subst h2
      have hki : k ≠ i := ha.2.1
      rw [if_neg hki, if_neg (by
        rintro ⟨_, h5⟩
        have h6 : lsI 0 (k :: b :: A) = c := e2
        rw [h6] at h5
        rcases hc with h | h
        · exact ha.1.1 (by omega)
        · have : c = k := by omega
          exact ha.1.2 (this ▸ h))]
      show nx (k :: b :: (A ++ B)) k = nx (k :: b :: (A ++ i :: B)) k
      simp [nx, hdI]
    · have h3 : nx (a :: b :: (A ++ B)) k = nx (b :: (A ++ B)) k := by conv => lhs; unfold nx; rw [if_neg h2]
      have h4 : nx (a :: b :: (A ++ i :: B)) k = nx (b :: (A ++ i :: B)) k := by conv => lhs; unfold nx; rw [if_neg h2]
      rw [h3, h4, ih]
      simp [lsI]

theorem pv_cut : ∀ {A B : List Nat} {p : Int} {i : Nat} (k : Nat), (A ++ i :: B).Nodup → pv p (A ++ B) k = if k = i then (i : Int) else if B ≠ [] ∧ hdI B = k then lsI p A else pv p (A ++ i :: B) k
  | [], B, p, i, k, hn => by
    simp only [List.nil_append] at hn ⊢
    have hi := (List.nodup_cons.1 hn).1
    by_cases h1 : k = i
    · subst h1; rw [if_pos rfl, pv_out hi]
    · rw [if_neg h1]
      cases B with
      | nil =>
        rw [if_neg (fun q => q.1 rfl)]
        simp [pv, h1]
      | cons b B =>
        by_cases h2 : k = b
        · have e1 : pv p (b :: B) k = p := by unfold pv; rw [if_pos h2]
          rw [e1, if_pos ⟨by simp, by rw [h2]; rfl⟩]
          rfl
        · have e1 : pv p (b :: B) k = pv b B k := by conv => lhs; unfold pv; rw [if_neg h2]
          have e2 : pv p (i :: b :: B) k = pv b B k := by
            conv => lhs; unfold pv; rw [if_neg h1]
            conv => lhs; unfold pv; rw [if_neg h2]
          rw [e1, e2, if_neg (fun q => h2 (by have h3 : (b : Int) = k := q.2; omega))]
  | a :: A, B, p, i, k, hn => by
    have hn2 : (A ++ i :: B).Nodup := (List.nodup_cons.1 hn).2
    have ha : a ∉ A ++ i :: B := (List.nodup_cons.1 hn).1
    have ih := pv_cut (A := A) (B := B) (p := a) (i := i) k hn2
    simp only [List.mem_append, List.mem_cons, not_or] at ha
    simp only [List.cons_append, pv, lsI]
    rw [ih]
    by_cases h2 : k = a
    · subst h2
      rw [if_pos rfl, if_neg ha.2.1, if_pos rfl]
      rw [if_neg (by
        rintro ⟨h5, h6⟩
        cases B with
        | nil => exact h5 rfl
        | cons b B =>
          simp only [hdI] at h6
          exact ha.2.2 (by simp; left; omega))]
    · rw [if_neg h2, if_neg h2]

/-- All numbers below n, linked. -/
theorem nx_range : ∀ (n s k : Nat), s ≤ k → k < s + n → nx (List.range' s n) k = if k + 1 = s + n then -1 else ((k + 1 : Nat) : Int)
  | 0, s, k, h1, h2 => by omega
  | n + 1, s, k, h1, h2 => by
    rw [List.range'_succ]
    unfold nx
    by_cases h : k = s
    · subst h
      rw [if_pos rfl]
      cases n with
      | zero => simp [hdI]
      | succ n => rw [if_neg (by omega), List.range'_succ]; rfl
    · rw [if_neg h, nx_range n (s + 1) k (by omega) (by omega)]
      by_cases h3 : k + 1 = s + (n + 1)
      · rw [if_pos (by omega), if_pos h3]
      · rw [if_neg (by omega), if_neg h3]
theorem pv_range : ∀ (n s k : Nat) (p : Int), s ≤ k → k < s + n → pv p (List.range' s n) k = if k = s then p else ((k : Int) - 1)
  | 0, s, k, p, h1, h2 => by omega
  | n + 1, s, k, p, h1, h2 => by
    rw [List.range'_succ]
    unfold pv
    by_cases h : k = s
    · rw [if_pos h, if_pos h]
    · rw [if_neg h, if_neg h, pv_range n (s + 1) k s (by omega) (by omega)]
      by_cases h3 : k = s + 1
      · rw [if_pos h3]; omega
      · rw [if_neg h3]
end Go.Proofs.YtkjkgpdfhmoenaaDoor.ChainLaw
namespace Go.Proofs.YtkjkgpdfhmoenaaDoor.Chain
open Go Go.RowKit Go.Proofs.YtkjkgpdfhmoenaaDoor.Kit Go.Proofs.YtkjkgpdfhmoenaaDoor.Range Go.Proofs.YtkjkgpdfhmoenaaDoor.Round Go.Proofs.YtkjkgpdfhmoenaaDoor.Seg Go.Proofs.YtkjkgpdfhmoenaaDoor.Collect Go.Proofs.YtkjkgpdfhmoenaaDoor.ChainLaw Go.Proofs.YtkjkgpdfhmoenaaDoor.BpeLaw
attribute [local irreducible] wpQuiet wpStill
set_option linter.unusedSimpArgs false

/-- n numbers of a row. -/
def IR (w : World) (g o n : Nat) (f : Nat → Int) : Prop := ∃ cur, w.heap[g]? = some (.cells cur 3 (0, 0)) ∧ o + n ≤ cur.size ∧ ∀ k, k < n → cur[o + k]? = some (.int .i64 (f k))
section
variable {w w' : World} {g o n : Nat} {f f' : Nat → Int}
theorem IR.cell (h : IR w g o n f) {k : Nat} (hk : k < n) : w.cell? ⟨g, o + k, none⟩ = some (.int .i64 (f k)) := by
  obtain ⟨cur, h1, _, h3⟩ := h
  rw [cell_at h1]
  exact h3 k hk
theorem IR.free (h : IR w g o n f) : ∀ k, w.frozen? ⟨g, k, none⟩ = false := by
  obtain ⟨cur, h1, _⟩ := h
  exact free_all h1
theorem IR.lt (h : IR w g o n f) : g < w.heap.size := by
  obtain ⟨cur, h1, _⟩ := h
  exact lt_of_heap h1
theorem IR.keep (h : IR w g o n f) (hb : w'.heap[g]? = w.heap[g]?) : IR w' g o n f := by
  obtain ⟨cur, h1, h2⟩ := h
  exact ⟨cur, hb.trans h1, h2⟩
theorem IR.below (h : IR w g o n f) (hb : Below w.heap.size w w') : IR w' g o n f := h.keep (hb.block _ h.lt)
theorem IR.ext (h : IR w g o n f) (he : ∀ k, k < n → f k = f' k) : IR w g o n f' := by
  obtain ⟨cur, h1, h2, h3⟩ := h
  exact ⟨cur, h1, h2, fun k hk => by rw [← he k hk]; exact h3 k hk⟩
theorem IR.drew (h : IR w g o n f) : IR w.drew g o n f := h
theorem IR.other (h : IR w g o n f) {p : Addr} (hp : p.block ≠ g) (v : Value) : IR (w.setCell p v) g o n f := by
  refine h.keep ?_
  simp only [World.setCell, Array.getElem?_modify]
  rw [if_neg hp]
theorem IR.set (h : IR w g o n f) {k : Nat} (hk : k < n) (v : Int) : IR (w.setCell ⟨g, o + k, none⟩ (.int .i64 v)) g o n (ups f k v) := by
  obtain ⟨cur, h1, h2, h3⟩ := h
  refine ⟨_, heap_set h1 _ _, by simpa using h2, fun j hj => ?_⟩
  rw [Array.getElem?_setIfInBounds]
  unfold ups
  by_cases e : j = k
  · subst e
    rw [if_pos rfl, if_pos rfl, if_pos (by omega)]
  · rw [if_neg (by omega), if_neg e]
    exact h3 j hj
theorem IR.ne (h : IR w g o n f) {b : Nat} {cs : Array Value} {t : TypeId} {fr : Nat × Nat} (hb : w.heap[b]? = some (.cells cs t fr)) (ht : t ≠ 3) : b ≠ g := by
  rintro rfl
  obtain ⟨cur, h1, _⟩ := h
  rw [hb] at h1
  simp only [Option.some.injEq, Obj.cells.injEq] at h1
  exact ht h1.2.1
end

/-- Where a chain's lists lie. -/
structure Cp where
  g1 : Nat
  o1 : Nat
  c1 : Nat
  g2 : Nat
  o2 : Nat
  c2 : Nat
def cellsC (p : Cp) (n : Nat) (L : List Nat) : Array Value := #[.slice (some ⟨p.g1, p.o1, none⟩) n p.c1, .slice (some ⟨p.g2, p.o2, none⟩) n p.c2, .int .i64 (hdI L), .int .i64 L.length]

/-- A chain of the numbers L, all below n. -/
structure Chn (w : World) (cb : Nat) (p : Cp) (n : Nat) (L : List Nat) : Prop where
  c : w.heap[cb]? = some (.cells (cellsC p n L) 215 (0, 0))
  n1 : IR w p.g1 p.o1 n (nx L)
  n2 : IR w p.g2 p.o2 n (pv (-1) L)
  d : p.g1 ≠ p.g2
  nd : L.Nodup
  lt : ∀ i ∈ L, i < n
  z : n ≤ 1048576
/-- The blocks of a chain. -/
def Cb (cb : Nat) (p : Cp) (b : Nat) : Prop := b = cb ∨ b = p.g1 ∨ b = p.g2

variable {w w' : World} {cb n : Nat} {p : Cp} {L : List Nat}
theorem Chn.keep (h : Chn w cb p n L) (hb : ∀ b, Cb cb p b → b < w.heap.size → w'.heap[b]? = w.heap[b]?) : Chn w' cb p n L :=
  ⟨(hb _ (.inl rfl) (lt_of_heap h.c)).trans h.c, h.n1.keep (hb _ (.inr (.inl rfl)) h.n1.lt), h.n2.keep (hb _ (.inr (.inr rfl)) h.n2.lt), h.d, h.nd, h.lt, h.z⟩
theorem Chn.below (h : Chn w cb p n L) (hb : Below w.heap.size w w') : Chn w' cb p n L := h.keep fun b _ hl => hb.block b hl
theorem Chn.upd {S : Nat → Prop} (h : Chn w cb p n L) (hu : Upd S w w') (hs : ∀ b, Cb cb p b → ¬ S b) : Chn w' cb p n L := h.keep fun b hb hl => hu.block b hl (hs b hb)

set_option maxHeartbeats 1000000 in
set_option maxRecDepth 100000 in
theorem Has_calls (i : Nat) (w : World) (h : Chn w cb p n L) (hi : i < n) :
    Calls Tryd.prog 131 #[.pointer (some ⟨cb, 0, none⟩), .int .i64 i] w fun e w' => e = .returned (.bool (decide (i ∈ L))) ∧ w = w' := by
  have HC := Lib.hid h.c
  have ni := h.n1.cell hi
  have hz := h.n1.lt
  have hq : (nx L i != (i : Int)) = decide (i ∈ L) := by
    by_cases hm : i ∈ L
    · have := (nx_has h.nd i).1 hm
      simp [hm, this]
    · rw [nx_out hm]
      simp [hm]
  have hi1 : (i : Int) < n := by omega
  have hi2 : (0 : Int) ≤ i := by omega
  unfold cellsC at HC
  generalize nx L i = v at ni hq
  generalize decide (i ∈ L) = b at hq ⊢
  clear h
  have c0 := cell_at HC.out 0
  have cz := lt_of_heap HC.out
  simp only [List.getElem?_toArray, List.getElem?_cons_zero] at c0
  go_enter Tryd.func131, Tryd.ntmps131
  go_wp2_with fail
  go_ret
  exact ⟨rfl, rfl⟩

set_option maxHeartbeats 1000000 in
set_option maxRecDepth 100000 in
theorem Next_calls (i : Nat) (w : World) (h : Chn w cb p n L) (hi : i < n) :
    Calls Tryd.prog 117 #[.pointer (some ⟨cb, 0, none⟩), .int .i64 i] w fun e w' => e = .returned (.int .i64 (if i ∈ L then nx L i else -1)) ∧ w = w' := by
  have HC := Lib.hid h.c
  have ni := h.n1.cell hi
  have hz := h.n1.lt
  have HH := Lib.hid (Has_calls i w h hi)
  have hi1 : (i : Int) < n := by omega
  have hi2 : (0 : Int) ≤ i := by omega
  unfold cellsC at HC
  clear h
  have c0 := cell_at HC.out 0
  have cz := lt_of_heap HC.out
  simp only [List.getElem?_toArray, List.getElem?_cons_zero] at c0
  by_cases hm : i ∈ L
  · have hd : decide (i ∈ L) = true := by simp [hm]
    rw [if_pos hm]
    rw [hd] at HH
    clear hd hm
    go_enter Tryd.func117, Tryd.ntmps117
    go_wp2_with fail
    refine HH.out.mono ?_
    rintro e W ⟨rfl, rfl⟩
    clear HH
    go_wp2_with fail
    go_ret
    exact ⟨rfl, rfl⟩
  · have hd : decide (i ∈ L) = false := by simp [hm]
    rw [if_neg hm]
    rw [hd] at HH
    clear hd hm
    go_enter Tryd.func117, Tryd.ntmps117
    go_wp2_with fail
    refine HH.out.mono ?_
    rintro e W ⟨rfl, rfl⟩
    clear HH
    go_wp2_with fail
    go_ret
    exact ⟨rfl, rfl⟩

set_option maxHeartbeats 1000000 in
set_option maxRecDepth 100000 in
theorem Prev_calls (i : Nat) (w : World) (h : Chn w cb p n L) (hi : i < n) :
    Calls Tryd.prog 119 #[.pointer (some ⟨cb, 0, none⟩), .int .i64 i] w fun e w' => e = .returned (.int .i64 (if i ∈ L then pv (-1) L i else -1)) ∧ w = w' := by
  have HC := Lib.hid h.c
  have ni := h.n2.cell hi
  have hz := h.n2.lt
  have HH := Lib.hid (Has_calls i w h hi)
  have hi1 : (i : Int) < n := by omega
  have hi2 : (0 : Int) ≤ i := by omega
  unfold cellsC at HC
  clear h
  have c1 := cell_at HC.out 1
  have cz := lt_of_heap HC.out
  simp only [List.getElem?_toArray, List.getElem?_cons_zero, List.getElem?_cons_succ] at c1
  by_cases hm : i ∈ L
  · have hd : decide (i ∈ L) = true := by simp [hm]
    rw [if_pos hm]
    rw [hd] at HH
    clear hd hm
    go_enter Tryd.func119, Tryd.ntmps119
    go_wp2_with fail
    refine HH.out.mono ?_
    rintro e W ⟨rfl, rfl⟩
    clear HH
    go_wp2_with fail
    go_ret
    exact ⟨rfl, rfl⟩
  · have hd : decide (i ∈ L) = false := by simp [hm]
    rw [if_neg hm]
    rw [hd] at HH
    clear hd hm
    go_enter Tryd.func119, Tryd.ntmps119
    go_wp2_with fail
    refine HH.out.mono ?_
    rintro e W ⟨rfl, rfl⟩
    clear HH
    go_wp2_with fail
    go_ret
    exact ⟨rfl, rfl⟩

/-- A chain in the middle of a change. -/
structure Mid (w : World) (cb : Nat) (p : Cp) (n : Nat) (fi ln : Int) (f1 f2 : Nat → Int) : Prop where
  c : w.heap[cb]? = some (.cells #[.slice (some ⟨p.g1, p.o1, none⟩) n p.c1, .slice (some ⟨p.g2, p.o2, none⟩) n p.c2, .int .i64 fi, .int .i64 ln] 215 (0, 0))
  n1 : IR w p.g1 p.o1 n f1
  n2 : IR w p.g2 p.o2 n f2
  d : p.g1 ≠ p.g2
variable {fi ln : Int} {f1 f2 : Nat → Int}
theorem Mid.drew (h : Mid w cb p n fi ln f1 f2) : Mid w.drew cb p n fi ln f1 f2 := ⟨h.c, h.n1, h.n2, h.d⟩
theorem heap_other {w : World} {b g : Nat} {o : Nat} {v : Value} (h : b ≠ g) : (w.setCell ⟨g, o, none⟩ v).heap[b]? = w.heap[b]? := by
  simp only [World.setCell, Array.getElem?_modify]
  rw [if_neg (Ne.symm h)]
theorem Mid.set1 (h : Mid w cb p n fi ln f1 f2) {k : Nat} (hk : k < n) (v : Int) : Mid (w.setCell ⟨p.g1, p.o1 + k, none⟩ (.int .i64 v)) cb p n fi ln (ups f1 k v) f2 :=
  ⟨(heap_other (h.n1.ne h.c (by decide))).trans h.c, h.n1.set hk v, h.n2.other h.d _, h.d⟩
theorem Mid.set2 (h : Mid w cb p n fi ln f1 f2) {k : Nat} (hk : k < n) (v : Int) : Mid (w.setCell ⟨p.g2, p.o2 + k, none⟩ (.int .i64 v)) cb p n fi ln f1 (ups f2 k v) :=
  ⟨(heap_other (h.n2.ne h.c (by decide))).trans h.c, h.n1.other (Ne.symm h.d) _, h.n2.set hk v, h.d⟩
theorem Mid.setF (h : Mid w cb p n fi ln f1 f2) (v : Int) : Mid (w.setCell ⟨cb, 2, none⟩ (.int .i64 v)) cb p n v ln f1 f2 :=
  ⟨heap_set h.c 2 _, h.n1.other (h.n1.ne h.c (by decide)) _, h.n2.other (h.n2.ne h.c (by decide)) _, h.d⟩
theorem Mid.setL (h : Mid w cb p n fi ln f1 f2) (v : Int) : Mid (w.setCell ⟨cb, 3, none⟩ (.int .i64 v)) cb p n fi v f1 f2 :=
  ⟨heap_set h.c 3 _, h.n1.other (h.n1.ne h.c (by decide)) _, h.n2.other (h.n2.ne h.c (by decide)) _, h.d⟩
theorem Chn.mid (h : Chn w cb p n L) : Mid w cb p n (hdI L) L.length (nx L) (pv (-1) L) := ⟨h.c, h.n1, h.n2, h.d⟩
theorem Mid.chn {A B : List Nat} {i : Nat} (h : Mid w cb p n fi ln f1 f2) (hn : (A ++ i :: B).Nodup) (hl : ∀ k ∈ A ++ i :: B, k < n) (hz : n ≤ 1048576) (hfi : fi = hdI (A ++ B)) (hln : ln = ((A ++ B).length : Int))
    (h1 : ∀ k, k < n → f1 k = nx (A ++ B) k) (h2 : ∀ k, k < n → f2 k = pv (-1) (A ++ B) k) : Chn w cb p n (A ++ B) := by
  subst hfi
  subst hln
  refine ⟨h.c, h.n1.ext h1, h.n2.ext h2, h.d, ?_, fun k hk => hl k ?_, hz⟩
  · exact hn.sublist (List.Sublist.append_left (List.sublist_cons_self _ _) _)
  · simp only [List.mem_append, List.mem_cons] at hk ⊢
    rcases hk with hk | hk <;> simp [hk]

theorem cb0 : Cb cb p cb := .inl rfl
theorem cb1 : Cb cb p p.g1 := .inr (.inl rfl)
theorem cb2 : Cb cb p p.g2 := .inr (.inr rfl)
/-- The heads of a chain's lists. -/
def Hd (cb : Nat) (s1 s2 : Value) (w : World) : Prop := w.cell? ⟨cb, 0, none⟩ = some s1 ∧ w.cell? ⟨cb, 1, none⟩ = some s2
theorem Hd.drew {s1 s2 : Value} (h : Hd cb s1 s2 w) : Hd cb s1 s2 w.drew := h
theorem Hd.set {s1 s2 : Value} (h : Hd cb s1 s2 w) {g o : Nat} (hne : g ≠ cb ∨ 1 < o) (v : Value) : Hd cb s1 s2 (w.setCell ⟨g, o, none⟩ v) :=
  ⟨(World.cell?_setCell_other _ _ _ _ (by intro e; cases e; omega)).trans h.1, (World.cell?_setCell_other _ _ _ _ (by intro e; cases e; omega)).trans h.2⟩

end Go.Proofs.YtkjkgpdfhmoenaaDoor.Chain
namespace Go.Proofs.YtkjkgpdfhmoenaaDoor.Chain
open Go Go.RowKit Go.Proofs.YtkjkgpdfhmoenaaDoor.Kit Go.Proofs.YtkjkgpdfhmoenaaDoor.Range Go.Proofs.YtkjkgpdfhmoenaaDoor.Round Go.Proofs.YtkjkgpdfhmoenaaDoor.Seg Go.Proofs.YtkjkgpdfhmoenaaDoor.Collect Go.Proofs.YtkjkgpdfhmoenaaDoor.ChainLaw Go.Proofs.YtkjkgpdfhmoenaaDoor.BpeLaw
attribute [local irreducible] wpQuiet wpStill
set_option linter.unusedSimpArgs false
variable {w w' : World} {cb n : Nat} {p : Cp} {L : List Nat}

theorem no_own {w : World} {base : Nat} {e t : TypeId} {sz n bb : Nat} {v : Value} {xs : List Value} {cs : Array Value} {fr : Nat × Nat} (h : Seg w base e sz v n xs) (hb : w.heap[bb]? = some (.cells cs t fr)) (he : e ≠ t) : ¬ v.ownBlock = some bb := fun hh => by
  rcases h.at' with ⟨h0, _⟩ | ⟨g, o, cap, cur, h0, _, hg, _⟩
  · rw [h0] at hh; cases hh
  · rw [h0] at hh
    simp only [Value.ownBlock, Option.some.injEq] at hh
    subst hh
    rw [hb] at hg
    simp only [Option.some.injEq, Obj.cells.injEq] at hg
    exact he hg.2.1.symm
theorem elemI : Elem Tryd.prog 33 3 (.int .i64 0) 1 8 := ⟨Tryd.underlying33, by kernel_rfl, rfl, by decide⟩
/-- Numbers as values. -/
def ints (n : Nat) (f : Nat → Int) : List Value := (List.range n).map fun k => .int .i64 (f k)
theorem ints_len (n : Nat) (f : Nat → Int) : (ints n f).length = n := by simp [ints]
theorem ints_succ (n : Nat) (f : Nat → Int) : ints n f ++ [.int .i64 (f n)] = ints (n + 1) f := by simp [ints, List.range_succ]
theorem ints_at {n k : Nat} (f : Nat → Int) (h : k < n) : (ints n f)[k]? = some (.int .i64 (f k)) := by simp [ints, h]
theorem IR.of_seg {w : World} {base g o n cap : Nat} {f : Nat → Int} (h : Seg w base 3 1 (.slice (some ⟨g, o, none⟩) n cap) n (ints n f)) : IR w g o n f := by
  rcases h.at' with ⟨h0, _⟩ | ⟨g', o', cap', cur, h0, hb, hg, h1, h2, h3, h4⟩
  · cases h0
  · simp only [Value.slice.injEq, Option.some.injEq, Addr.mk.injEq, and_true, true_and] at h0
    obtain ⟨⟨rfl, rfl⟩, rfl⟩ := h0
    refine ⟨cur, hg, by omega, fun k hk => ?_⟩
    have h5 := ints_at f hk
    rw [← h4, List.getElem?_take, if_pos (by omega), List.getElem?_drop] at h5
    simpa using h5

/-- An append of one number to a row of the call's own. -/
theorem append_int {A : World} {base n : Nat} {v : Value} {f : Nat → Int} (h : Seg A base 3 1 v n (ints n f)) {bn : Nat} (hb : A.heap[bn]? = some (.cells #[.int .i64 (f n)] 3 (0, 0))) (hn : n < 100000000) (hbase : base ≤ A.heap.size) (ty : TypeId) :
    ∃ v' A', (Builtin.append_ #[33, 33] ty #[v, .slice (some ⟨bn, 0, none⟩) 1 1]).run Tryd.prog A = .ok v' A' ∧ Appended A A' base 3 1 v v' (n + 1) (ints (n + 1) f) ∧ ∃ a c, v' = .slice (some a) (n + 1) c := by
  obtain ⟨i, hi, hz0, hz1, hz2⟩ := elemI.parts
  have hsrc : Src A (.slice (some ⟨bn, 0, none⟩) 1 1) 1 [.int .i64 (f n)] := by
    refine ⟨some ⟨bn, 0, none⟩, 1, rfl, (fun h => by cases h), fun ad had j u hu => ?_⟩
    cases had
    rw [add_plain, cell_at hb]
    simpa using hu
  obtain ⟨v2, A2, hr, ha, hnil⟩ := run_append_seg (P := Tryd.prog) A base 33 ty 3 i _ 1 8 elemI.t hi hz0 hz1 hz2 elemI.z elemI.p v n (ints n f) h (.slice (some ⟨bn, 0, none⟩) 1 1) 1 _ (by rfl) hsrc (by simp [Value.oneCell']) (by unfold maxLen; omega) (by omega) hbase
  rw [ints_succ] at ha
  obtain ⟨a, c, hv, h1, h2, h3⟩ := ha.seg.shape
  refine ⟨v2, A2, hr, ha, ?_⟩
  cases a with
  | none => have := (h3 rfl).1; omega
  | some a => exact ⟨a, c, hv⟩

/-- A chain that is being made. -/
structure Nw (w W : World) (cb n k : Nat) : Prop where
  ex : ∃ v1 v2, W.heap[cb]? = some (.cells #[v1, v2, .int .i64 (-1), .int .i64 n] 215 (0, 0)) ∧ Seg W w.heap.size 3 1 v1 k (ints k fun i => (i : Int) + 1) ∧ Seg W w.heap.size 3 1 v2 k (ints k fun i => (i : Int) - 1) ∧ (∀ b, v1.ownBlock = some b → v2.ownBlock ≠ some b) ∧
    (k = 0 ∨ ∃ a c a' c', v1 = .slice (some a) k c ∧ v2 = .slice (some a') k c')
  b : Below w.heap.size w W
  lo : w.heap.size ≤ cb

def Newed (n : Nat) (w : World) (e : Ending) (w' : World) : Prop := ∃ cb p, e = .returned (.pointer (some ⟨cb, 0, none⟩)) ∧ Chn w' cb p n (List.range' 0 n) ∧ (∀ b, Cb cb p b → w.heap.size ≤ b) ∧ Below w.heap.size w w'

set_option maxHeartbeats 2000000 in
set_option maxRecDepth 100000 in
theorem New_calls (n : Nat) (w : World) (hn : n ≤ 1048576) (h0 : 0 < n) :
    Calls Tryd.prog 112 #[.int .i64 n] w (Newed n w) := by
  have m1 : max (n : Int) 0 = n := by omega
  have m2 : min (n : Int) 1048576 = n := by omega
  obtain ⟨W1, hW1⟩ : ∃ Xz, w.alloc (.cells #[.slice none 0 0, .slice none 0 0, .int .i64 (-1), .int .i64 n] 215) = Xz := ⟨_, rfl⟩
  obtain ⟨cb, hcb⟩ : ∃ xz, w.heap.size = xz := ⟨_, rfl⟩
  have hb1 : Below w.heap.size w W1 := by rw [← hW1]; exact (Below.refl _ _).alloc (Nat.le_refl _) _
  have HC := Lib.hid (by rw [← hW1, ← hcb]; exact alloc_new rfl : W1.heap[cb]? = some (.cells #[.slice none 0 0, .slice none 0 0, .int .i64 (-1), .int .i64 n] 215 (0, 0)))
  have EW1 := Lib.hid hW1
  have Ecb := Lib.hid hcb
  clear hW1 hcb
  have HB := Lib.hid hb1
  have HZ := Lib.hid hn
  clear hb1
  go_enter Tryd.func112, Tryd.ntmps112
  go_wp2_with fail
  rw [EW1.out, Ecb.out]
  go_loopg [12] n (fun g s12 wr => ∃ k : Nat, k ≤ n ∧ g = n - k ∧ s12 = .int .i64 k ∧ Nw w wr cb n k)
  case atStart =>
    refine ⟨0, Nat.zero_le _, by omega, rfl, ⟨⟨.slice none 0 0, .slice none 0 0, HC.out, Seg.nil _ _ _ _, Seg.nil _ _ _ _, fun b h => by simp [Value.ownBlock] at h, .inl rfl⟩, HB.out, by rw [← Ecb.out]; exact Nat.le_refl _⟩⟩
  case round =>
    obtain ⟨k, hk, hg, rfl, hnw⟩ := hrel
    have HG := Lib.hid hg
    have HN := Lib.hid hnw
    clear hg hnw
    by_cases hlt : k < n
    · obtain ⟨v1, v2, hc, s1, s2, hne, _⟩ := HN.out.ex
      have HC := Lib.hid hc
      have hbw := HN.out.b
      have hlo := HN.out.lo
      have hw1 : IntKind.i64.wrap ((k : Int) + 1) = (k : Int) + 1 := i64w _ (by omega) (by omega)
      have hw2 : IntKind.i64.wrap ((k : Int) - 1) = (k : Int) - 1 := i64w _ (by omega) (by omega)
      have hi : (k : Int) < n := by omega
      obtain ⟨W2, hW2⟩ : ∃ Xz, wr.alloc (.cells #[.int .i64 ((k : Int) + 1)] 3) = Xz := ⟨_, rfl⟩
      obtain ⟨bn, hbn⟩ : ∃ xz, wr.heap.size = xz := ⟨_, rfl⟩
      have hb2 : Below wr.heap.size wr W2 := by rw [← hW2]; exact (Below.refl _ _).alloc (Nat.le_refl _) _
      have HBN := Lib.hid (by rw [← hW2, ← hbn]; exact alloc_new rfl : W2.heap[bn]? = some (.cells #[.int .i64 ((k : Int) + 1)] 3 (0, 0)))
      have EW2 := Lib.hid hW2
      have Ebn := Lib.hid hbn
      clear hW2 hbn
      obtain ⟨v1', A1, hr1, ha1, a1, c1, hv1⟩ := append_int (Seg.below s1 hb2) HBN.out (by omega) (Nat.le_trans hbw.size hb2.size) 33
      have hc2 := (hb2.block _ (lt_of_heap hc)).trans hc
      have n1 := no_own (Seg.below s1 hb2) hc2 (by decide)
      have hcA1 := Upd.mem ha1.u hc2 n1
      have s2A : Seg A1 w.heap.size 3 1 v2 k (ints k fun i => (i : Int) - 1) := Seg.upd (Seg.below s2 hb2) ha1.u (fun b hb h => hne b h hb)
      have n1' := no_own ha1.seg hcA1 (by decide)
      have n2A := no_own s2A hcA1 (by decide)
      obtain ⟨W3, hW3⟩ : ∃ z, A1.setCell ⟨cb, 0, none⟩ v1' = z := ⟨_, rfl⟩
      have hu3 : Upd (fun b => b = cb) A1 W3 := by rw [← hW3]; exact Upd.setCell (S := fun b => b = cb) (p := ⟨cb, 0, none⟩) (Upd.refl _ _) (fun _ => rfl) _
      have hc3 : W3.heap[cb]? = some (.cells #[v1', v2, .int .i64 (-1), .int .i64 n] 215 (0, 0)) := by rw [← hW3]; exact heap_set hcA1 0 _
      have s13 := Seg.upd ha1.seg hu3 (fun b hb h => by subst h; exact n1' hb)
      have s23 := Seg.upd s2A hu3 (fun b hb h => by subst h; exact n2A hb)
      obtain ⟨W4, hW4⟩ : ∃ Xz, W3.alloc (.cells #[.int .i64 ((k : Int) - 1)] 3) = Xz := ⟨_, rfl⟩
      obtain ⟨bm, hbm⟩ : ∃ xz, W3.heap.size = xz := ⟨_, rfl⟩
      have hb4 : Below W3.heap.size W3 W4 := by rw [← hW4]; exact (Below.refl _ _).alloc (Nat.le_refl _) _
      have HBM := Lib.hid (by rw [← hW4, ← hbm]; exact alloc_new rfl : W4.heap[bm]? = some (.cells #[.int .i64 ((k : Int) - 1)] 3 (0, 0)))
      have EW4 := Lib.hid hW4
      have Ebm := Lib.hid hbm
      clear hW4 hbm
      have hbase4 : w.heap.size ≤ W4.heap.size := Nat.le_trans (Nat.le_trans hbw.size hb2.size) (Nat.le_trans ha1.u.size (Nat.le_trans hu3.size hb4.size))
      obtain ⟨v2', A2, hr2, ha2, a2, c2, hv2⟩ := append_int (Seg.below s23 hb4) HBM.out (by omega) hbase4 33
      have hc4 := (hb4.block _ (lt_of_heap hc3)).trans hc3
      have n24 := no_own (Seg.below s23 hb4) hc4 (by decide)
      have hcA2 := Upd.mem ha2.u hc4 n24
      have hne4 : ∀ b, v1'.ownBlock = some b → v2.ownBlock ≠ some b := fun b hb hb2' => by
        rcases ha1.blk with e | e
        · rw [e] at hb; exact hne b hb hb2'
        · have := e b hb
          have := (Seg.lt (Seg.below s2 hb2) b hb2').2
          omega
      have s14 : Seg A2 w.heap.size 3 1 v1' (k + 1) (ints (k + 1) fun i => (i : Int) + 1) := Seg.upd (Seg.below s13 hb4) ha2.u (fun b hb h => hne4 b hb h)
      have n1A2 := no_own s14 hcA2 (by decide)
      have n2A2 := no_own ha2.seg hcA2 (by decide)
      have hfin : Nw w (A2.setCell ⟨cb, 1, none⟩ v2') cb n (k + 1) := by
        have hu5 : Upd (fun b => b = cb) A2 (A2.setCell ⟨cb, 1, none⟩ v2') := Upd.setCell (S := fun b => b = cb) (p := ⟨cb, 1, none⟩) (Upd.refl _ _) (fun _ => rfl) _
        refine ⟨⟨v1', v2', heap_set hcA2 1 _, Seg.upd s14 hu5 (fun b hb h => by subst h; exact n1A2 hb), Seg.upd ha2.seg hu5 (fun b hb h => by subst h; exact n2A2 hb), fun b hb hb' => ?_, .inr ⟨a1, c1, a2, c2, hv1, hv2⟩⟩, ?_, hlo⟩
        · rcases ha2.blk with e | e
          · rw [e] at hb'; exact hne4 b hb hb'
          · have := e b hb'
            have := (Seg.lt (Seg.below s13 hb4) b hb).2
            omega
        · have q1 := chain hbw hb2
          have q2 := q1.trans (ha1.u.below q1.size (fun b hb h => by have := (Seg.lt (Seg.below s1 hb2) b h).1; omega))
          have q3 := q2.trans (hu3.below q2.size (fun b hb h => by omega))
          have q4 := chain q3 hb4
          have q5 := q4.trans (ha2.u.below q4.size (fun b hb h => by have := (Seg.lt (Seg.below s23 hb4) b h).1; omega))
          exact q5.trans (hu5.below q5.size (fun b hb h => by omega))
      have HFIN := Lib.hid hfin
      have HCA1 := Lib.hid hcA1
      have HCA2 := Lib.hid hcA2
      have HC3 := Lib.hid hc3
      rw [← EW2.out, ← Ebn.out] at hr1
      rw [← EW4.out, ← Ebm.out] at hr2
      have HR1 := Lib.hid hr1
      have HR2 := Lib.hid hr2
      have HW3 := Lib.hid hW3
      subst hv1
      subst hv2
      clear hr1 hr2 ha1 ha2 s1 s2 s13 s23 s14 s2A hne hne4 hfin hc hc2 hc3 hc4 hcA1 hcA2 n1 n1' n2A n24 n1A2 n2A2 hb2 hb4 hu3 hbw hlo hbase4 hW3 hn h0 m1 m2
      have c0 := cell_at HC.out 0
      have cz := lt_of_heap HC.out
      simp only [List.getElem?_toArray, List.getElem?_cons_zero] at c0
      have d0 := cell_at HCA1.out 0
      have d1 := cell_at HCA1.out 1
      have df := free_all HCA1.out
      have dz := lt_of_heap HCA1.out
      simp only [List.getElem?_toArray, List.getElem?_cons_zero, List.getElem?_cons_succ] at d0 d1
      have f1 := cell_at HC3.out 1
      have fz := lt_of_heap HC3.out
      simp only [List.getElem?_toArray, List.getElem?_cons_zero, List.getElem?_cons_succ] at f1
      have e1 := cell_at HCA2.out 1
      have ef := free_all HCA2.out
      have ez := lt_of_heap HCA2.out
      simp only [List.getElem?_toArray, List.getElem?_cons_zero, List.getElem?_cons_succ] at e1
      go_upto_region 6 with fail
      go_upto_region 7 with (at_builtin; refine append_run (v := v1) rfl rfl rfl rfl HR1.out ?_)
      rw [HW3.out]
      go_upto_region 8 with (at_builtin; refine append_run (v := v2) rfl rfl rfl rfl HR2.out ?_)
      go_wp2_with fail
      go_roundg (n - (k + 1))
      case measure => have := HG.out; omega
      case rel => exact ⟨k + 1, by omega, rfl, by go_num, HFIN.out⟩
    · have hkn : k = n := by omega
      subst hkn
      obtain ⟨v1, v2, hc, s1, s2, hne, hsh⟩ := HN.out.ex
      have hsh : ∃ a c a' c', v1 = .slice (some a) k c ∧ v2 = .slice (some a') k c' := by
        rcases hsh with h | h
        · omega
        · exact h
      obtain ⟨a1, c1, a2, c2, rfl, rfl⟩ := hsh
      have i1 : ∃ g o, a1 = ⟨g, o, none⟩ := by
        rcases Seg.at' s1 with ⟨h, _⟩ | ⟨g, o, _, _, h, _⟩
        · cases h
        · simp only [Value.slice.injEq, Option.some.injEq] at h; exact ⟨g, o, h.1⟩
      have i2 : ∃ g o, a2 = ⟨g, o, none⟩ := by
        rcases Seg.at' s2 with ⟨h, _⟩ | ⟨g, o, _, _, h, _⟩
        · cases h
        · simp only [Value.slice.injEq, Option.some.injEq] at h; exact ⟨g, o, h.1⟩
      obtain ⟨g1, o1, rfl⟩ := i1
      obtain ⟨g2, o2, rfl⟩ := i2
      have d : g1 ≠ g2 := fun e => hne g1 rfl (by rw [e]; rfl)
      have HM := Lib.hid (⟨hc, IR.of_seg s1, IR.of_seg s2, d⟩ : Mid wr cb ⟨g1, o1, c1, g2, o2, c2⟩ k (-1) k (fun i => (i : Int) + 1) (fun i => (i : Int) - 1))
      have hk1 : k - 1 < k := by omega
      have v1 := HM.out.n1.cell hk1
      have f1 := HM.out.n1.free
      have z1 := HM.out.n1.lt
      have hlt2 := Seg.lt s2 g2 rfl
      have hlt1 := Seg.lt s1 g1 rfl
      have HC := Lib.hid hc
      have HBW := Lib.hid HN.out.b
      have HLO := Lib.hid HN.out.lo
      have HL1 := Lib.hid hlt1.1
      have HL2 := Lib.hid hlt2.1
      have hw1 : IntKind.i64.wrap ((k : Int) - 1) = ((k - 1 : Nat) : Int) := by rw [i64w _ (by omega) (by omega)]; omega
      have hp : (k : Int) > 0 := by omega
      have hp2 : (0 : Int) < k := by omega
      have hi1 : (0 : Int) ≤ ((k - 1 : Nat) : Int) := by omega
      have hi2 : ((k - 1 : Nat) : Int) < k := by omega
      have d3 : cb ≠ g1 := IR.ne HM.out.n1 hc (by decide)
      have d5 : g1 ≠ cb := Ne.symm d3
      simp only at v1 f1 z1
      clear hc s1 s2 hne hlt1 hlt2 hn h0 m1 m2 HG
      have k0 := cell_at HC.out 0
      have k2 := cell_at HC.out 2
      have kf := free_all HC.out
      have kz := lt_of_heap HC.out
      simp only [List.getElem?_toArray, List.getElem?_cons_zero, List.getElem?_cons_succ] at k0 k2
      go_wp2_with fail
      go_ret
      refine ⟨cb, ⟨g1, o1, c1, g2, o2, c2⟩, rfl, ?_, ?_, ?_⟩
      · have hm := (HM.out.setF 0).set1 hk1 (-1)
        refine ⟨?_, hm.n1.ext fun j hj => ?_, hm.n2.ext fun j hj => ?_, d, List.nodup_range', fun i hi => ?_, HZ.out⟩
        · have := hm.c
          unfold cellsC
          rw [show hdI (List.range' 0 k) = 0 by obtain ⟨m, rfl⟩ : ∃ m, k = m + 1 := ⟨k - 1, by omega⟩; rfl, List.length_range']
          exact this
        · rw [nx_range k 0 j (by omega) (by omega)]
          unfold ups
          by_cases h : j = k - 1
          · rw [if_pos h, if_pos (by omega)]
          · rw [if_neg h, if_neg (by omega)]
            show (j : Int) + 1 = ((j + 1 : Nat) : Int)
            omega
        · rw [pv_range k 0 j _ (by omega) (by omega)]
          by_cases h : j = 0
          · rw [if_pos h]
            show (j : Int) - 1 = -1
            omega
          · rw [if_neg h]
        · simpa using hi
      · have h1 := HL1.out
        have h2 := HL2.out
        have h3 := HLO.out
        rintro b (rfl | rfl | rfl)
        · exact h3
        · exact h1
        · exact h2
      · have h1 := HL1.out
        have h3 := HLO.out
        exact (HBW.out.setCell h3 _).setCell h1 _
end Go.Proofs.YtkjkgpdfhmoenaaDoor.Chain
namespace Go.Proofs.YtkjkgpdfhmoenaaDoor.Chain
open Go Go.RowKit Go.Proofs.YtkjkgpdfhmoenaaDoor.Kit Go.Proofs.YtkjkgpdfhmoenaaDoor.Range Go.Proofs.YtkjkgpdfhmoenaaDoor.Round Go.Proofs.YtkjkgpdfhmoenaaDoor.Seg Go.Proofs.YtkjkgpdfhmoenaaDoor.Collect Go.Proofs.YtkjkgpdfhmoenaaDoor.ChainLaw Go.Proofs.YtkjkgpdfhmoenaaDoor.BpeLaw
attribute [local irreducible] wpQuiet wpStill
set_option linter.unusedSimpArgs false
variable {w w' : World} {cb n : Nat} {p : Cp} {L : List Nat}

theorem hd_app {A B : List Nat} {i : Nat} {z : Int} (hA : A ≠ []) (h : hdI (A ++ i :: B) = z) : z = hdI (A ++ B) := by
  cases A with
  | nil => exact absurd rfl hA
  | cons a A => exact h.symm
theorem cutA {A B : List Nat} {i : Nat} (h : ∀ k, nx (A ++ B) k = if k = i then (i : Int) else if A ≠ [] ∧ lsI 0 A = k then hdI B else nx (A ++ i :: B) k) (hA : A = []) (k : Nat) : ups (nx (A ++ i :: B)) i i k = nx (A ++ B) k := by
  rw [h k]
  unfold ups
  by_cases k1 : k = i
  · rw [if_pos k1, if_pos k1]
  · rw [if_neg k1, if_neg k1, if_neg (fun q => q.1 hA)]
theorem cutA2 {A B : List Nat} {i q : Nat} (h : ∀ k, nx (A ++ B) k = if k = i then (i : Int) else if A ≠ [] ∧ lsI 0 A = k then hdI B else nx (A ++ i :: B) k) (hA : A ≠ []) (hq : lsI 0 A = q) (k : Nat) : ups (ups (nx (A ++ i :: B)) q (hdI B)) i i k = nx (A ++ B) k := by
  rw [h k]
  unfold ups
  by_cases k1 : k = i
  · rw [if_pos k1, if_pos k1]
  · rw [if_neg k1, if_neg k1]
    by_cases k2 : k = q
    · rw [if_pos k2, if_pos ⟨hA, by rw [hq, k2]⟩]
    · rw [if_neg k2, if_neg (fun x => k2 (by have := x.2; omega))]
theorem cutB {A B : List Nat} {i : Nat} (h : ∀ k, pv (-1) (A ++ B) k = if k = i then (i : Int) else if B ≠ [] ∧ hdI B = k then lsI (-1) A else pv (-1) (A ++ i :: B) k) (hB : B = []) (k : Nat) : ups (pv (-1) (A ++ i :: B)) i i k = pv (-1) (A ++ B) k := by
  rw [h k]
  unfold ups
  by_cases k1 : k = i
  · rw [if_pos k1, if_pos k1]
  · rw [if_neg k1, if_neg k1, if_neg (fun q => q.1 hB)]
theorem cutB2 {A B : List Nat} {i r : Nat} (h : ∀ k, pv (-1) (A ++ B) k = if k = i then (i : Int) else if B ≠ [] ∧ hdI B = k then lsI (-1) A else pv (-1) (A ++ i :: B) k) (hB : B ≠ []) (hr : hdI B = r) (k : Nat) : ups (ups (pv (-1) (A ++ i :: B)) r (lsI (-1) A)) i i k = pv (-1) (A ++ B) k := by
  rw [h k]
  unfold ups
  by_cases k1 : k = i
  · rw [if_pos k1, if_pos k1]
  · rw [if_neg k1, if_neg k1]
    by_cases k2 : k = r
    · rw [if_pos k2, if_pos ⟨hB, by rw [hr, k2]⟩]
    · rw [if_neg k2, if_neg (fun x => k2 (by have := x.2; omega))]



set_option maxHeartbeats 2000000 in
set_option maxRecDepth 100000 in
theorem Cut_calls (A B : List Nat) (i : Nat) (w : World) (h : Chn w cb p n (A ++ i :: B)) :
    Calls Tryd.prog 118 #[.pointer (some ⟨cb, 0, none⟩), .int .i64 i] w fun e w' => e = .returned (.bool true) ∧ Chn w' cb p n (A ++ B) ∧ Upd (Cb cb p) w w' := by
  have hi : i < n := h.lt i (by simp)
  have HH := Lib.hid (Has_calls i w h hi)
  have hd : decide (i ∈ A ++ i :: B) = true := by simp
  rw [hd] at HH
  have hnd := h.nd
  obtain ⟨q1, q2, q3⟩ := List.nodup_append.1 hnd
  have hA : i ∉ A := fun hh => q3 i hh i (by simp) rfl
  have hB : i ∉ B := (List.nodup_cons.1 q2).1
  have v1 := h.n1.cell hi
  have v2 := h.n2.cell hi
  rw [nx_mid hA] at v1
  rw [pv_mid hA] at v2
  have HM := Lib.hid h.mid
  have HLT := Lib.hid h.lt
  have HND := Lib.hid hnd
  have HZ := Lib.hid h.z
  have hln : ((A ++ i :: B).length : Int) - 1 = ((A ++ B).length : Int) := by simp; omega
  obtain ⟨nl, hnl⟩ : ∃ z : Int, ((A ++ B).length : Int) = z := ⟨_, rfl⟩
  have HNL := Lib.hid hnl
  have hw1 : IntKind.i64.wrap (((A ++ i :: B).length : Int) - 1) = nl := by rw [← hnl, hln]; exact i64w _ (by omega) (by have := h.z; have := h.nd; have h3 : (A ++ B).length ≤ n := Nat.le_trans (List.Nodup.length_le_of_subset (l₂ := List.range n) ((hnd.sublist (List.Sublist.append_left (List.sublist_cons_self _ _) _))) (fun k hk => List.mem_range.2 (h.lt k (by simp only [List.mem_append, List.mem_cons] at hk ⊢; rcases hk with hk | hk <;> simp [hk])))) (by simp); omega)
  have h2cell : ∀ k, k < n → w.cell? ⟨p.g2, p.o2 + k, none⟩ = some (.int .i64 (pv (-1) (A ++ i :: B) k)) := fun k hk => h.n2.cell hk
  have h1cell : ∀ k, k < n → w.cell? ⟨p.g1, p.o1 + k, none⟩ = some (.int .i64 (nx (A ++ i :: B) k)) := fun k hk => h.n1.cell hk
  have z1 := h.n1.lt
  have z2 := h.n2.lt
  have f1 := h.n1.free
  have f2 := h.n2.free
  have HC := Lib.hid h.c
  have d1 : p.g1 ≠ p.g2 := h.d
  have d2 : p.g2 ≠ p.g1 := Ne.symm h.d
  have d3 : cb ≠ p.g1 := h.n1.ne h.c (by decide)
  have d4 : cb ≠ p.g2 := h.n2.ne h.c (by decide)
  have d5 : p.g1 ≠ cb := Ne.symm d3
  have d6 : p.g2 ≠ cb := Ne.symm d4
  have hi1 : (i : Int) < n := by omega
  have hi2 : (0 : Int) ≤ i := by omega
  unfold cellsC at HC
  generalize ((A ++ i :: B).length : Int) = ln0 at HC hw1 HM hln
  clear hln hnl
  obtain ⟨fi0, hfi0⟩ : ∃ z, hdI (A ++ i :: B) = z := ⟨_, rfl⟩
  rw [hfi0] at HC HM
  have HFI := Lib.hid hfi0
  clear hfi0
  have HNX := Lib.hid (fun k => nx_cut (A := A) (B := B) (i := i) k hnd)
  have HPV := Lib.hid (fun k => pv_cut (A := A) (B := B) (p := -1) (i := i) k hnd)
  clear hd h q1 q2 q3
  have c0 := cell_at HC.out 0
  have c1 := cell_at HC.out 1
  have c2 := cell_at HC.out 2
  have c3 := cell_at HC.out 3
  have cf := free_all HC.out
  have cz := lt_of_heap HC.out
  simp only [List.getElem?_toArray, List.getElem?_cons_zero, List.getElem?_cons_succ] at c0 c1 c2 c3
  have HHD := Lib.hid (⟨c0, c1⟩ : Hd cb (.slice (some ⟨p.g1, p.o1, none⟩) n p.c1) (.slice (some ⟨p.g2, p.o2, none⟩) n p.c2) w)
  by_cases hA0 : A = []
  · have HA0 := Lib.hid hA0
    have e2 : lsI (-1) A = -1 := by rw [hA0]; rfl
    rw [e2] at v2
    by_cases hB0 : B = []
    · have HB0 := Lib.hid hB0
      have e1 : hdI B = -1 := by rw [hB0]; rfl
      rw [e1] at v1
      clear hA0 hB0 e1 e2 hA hB hnd h1cell h2cell
      go_enter Tryd.func118, Tryd.ntmps118
      go_wp2_with fail
      refine HH.out.mono ?_
      rintro e W ⟨rfl, rfl⟩
      clear HH
      go_wp2_with fail
      have hhd := HHD.out
      refine Rgs.RGT_begin (Hd cb (.slice (some ⟨p.g1, p.o1, none⟩) n p.c1) (.slice (some ⟨p.g2, p.o2, none⟩) n p.c2)) 16 [(0, 73), (4, 77), (5, 78), (9, 82), (10, 83), (11, 84), (1, 74), (6, 79), (2, 75), (7, 80), (3, 76), (8, 81), (12, 85)] (by rfl) (by decide +kernel) (by kernel_rfl) (by (repeat (first | (with_reducible refine Hd.drew ?_) | (with_reducible refine Hd.set ?_ (by first | (left; assumption) | (right; decide)) _))); exact hhd) (fun R hR => ?_)
      repeat ((first | refine Rgs.RGT_take (by exact rfl) (by exact rfl) (by decide +kernel) (by exact rfl) (by intro w' hw'; obtain ⟨y0, y1⟩ := hw'; go_simp; try with_reducible rfl) ?_ | refine Rgs.RGT_skip (by exact rfl) (by exact rfl) (by decide +kernel) (by exact rfl) ?_); try simp only [Act.put, List.setIfInBounds_toArray, List.set_cons_zero, List.set_cons_succ])
      refine Rgs.RGT_one 13 [(14, 86)] (by exact rfl) (by decide +kernel) (by exact rfl) (fun K hK => ?_)
      go_wp2_with (fail)
      refine hK _ _ (by (repeat (first | (with_reducible refine Hd.drew ?_) | (with_reducible refine Hd.set ?_ (by first | (left; assumption) | (right; decide)) _))); exact hhd) ?_
      clear hK K
      try simp only [Act.put, List.setIfInBounds_toArray, List.set_cons_zero, List.set_cons_succ]
      repeat ((first | refine Rgs.RGT_take (by exact rfl) (by exact rfl) (by decide +kernel) (by exact rfl) (by intro w' hw'; obtain ⟨y0, y1⟩ := hw'; go_simp; try with_reducible rfl) ?_ | refine Rgs.RGT_skip (by exact rfl) (by exact rfl) (by decide +kernel) (by exact rfl) ?_); try simp only [Act.put, List.setIfInBounds_toArray, List.set_cons_zero, List.set_cons_succ])
      refine Rgs.RGT_one 15 [] (by exact rfl) (by decide +kernel) (by exact rfl) (fun K hK => ?_)
      go_wp2_with (fail)
      refine hK _ _ (by (repeat (first | (with_reducible refine Hd.drew ?_) | (with_reducible refine Hd.set ?_ (by first | (left; assumption) | (right; decide)) _))); exact hhd) ?_
      clear hK K
      try simp only [Act.put, List.setIfInBounds_toArray, List.set_cons_zero, List.set_cons_succ]
      refine Rgs.RGT_done (by decide +kernel) (hR _ _ ?_)
      clear hR R
      go_wp2_with fail
      go_ret
      refine ⟨rfl, ?_, by repeat (first | (with_reducible exact Upd.refl _ _) | (with_reducible refine Upd.drew ?_) | (with_reducible refine Upd.setCell ?_ (fun _ => by first | exact cb0 | exact cb1 | exact cb2) _))⟩
      refine Mid.chn (i := i) ((((HM.out.setF (-1)).set1 hi i).set2 hi i).setL nl).drew HND.out HLT.out HZ.out ?_ HNL.out.symm ?_ ?_
      · rw [HA0.out, HB0.out]; rfl
      · exact fun k _ => cutA HNX.out HA0.out k
      · exact fun k _ => cutB HPV.out HB0.out k
    · obtain ⟨r, B', rfl⟩ : ∃ r B', B = r :: B' := by
        cases B with
        | nil => exact absurd rfl hB0
        | cons r B' => exact ⟨r, B', rfl⟩
      have hr : r < n := HLT.out r (by simp)
      have hri : r ≠ i := fun e => hB (by simp [e])
      have hir : i ≠ r := Ne.symm hri
      have hr1 : (r : Int) < n := by omega
      have hr2 : (0 : Int) ≤ r := by omega
      have hr3 : ((r : Int) != -1) = true := by simp <;> omega
      simp only [hdI] at v1
      have vr := h2cell r hr
      clear hB0 e2 hA hB hnd hA0 h1cell h2cell
      go_enter Tryd.func118, Tryd.ntmps118
      go_wp2_with fail
      refine HH.out.mono ?_
      rintro e W ⟨rfl, rfl⟩
      clear HH
      go_wp2_with fail
      refine region_tail 19 (by kernel_rfl) (by kernel_rfl) ?_
      simp only [List.take_succ_cons, List.take_zero, List.drop_succ_cons, List.drop_zero]
      repeat (first | still_step)
      refine wpStill_nil ?_
      go_wp2_with fail
      have hhd := HHD.out
      refine Rgs.RGT_begin (Hd cb (.slice (some ⟨p.g1, p.o1, none⟩) n p.c1) (.slice (some ⟨p.g2, p.o2, none⟩) n p.c2)) 16 [(0, 73), (4, 77), (5, 78), (9, 82), (10, 83), (11, 84), (1, 74), (6, 79), (2, 75), (7, 80), (3, 76), (8, 81), (12, 85)] (by rfl) (by decide +kernel) (by kernel_rfl) (by (repeat (first | (with_reducible refine Hd.drew ?_) | (with_reducible refine Hd.set ?_ (by first | (left; assumption) | (right; decide)) _))); exact hhd) (fun R hR => ?_)
      repeat ((first | refine Rgs.RGT_take (by exact rfl) (by exact rfl) (by decide +kernel) (by exact rfl) (by intro w' hw'; obtain ⟨y0, y1⟩ := hw'; go_simp; try with_reducible rfl) ?_ | refine Rgs.RGT_skip (by exact rfl) (by exact rfl) (by decide +kernel) (by exact rfl) ?_); try simp only [Act.put, List.setIfInBounds_toArray, List.set_cons_zero, List.set_cons_succ])
      refine Rgs.RGT_one 13 [(14, 86)] (by exact rfl) (by decide +kernel) (by exact rfl) (fun K hK => ?_)
      go_wp2_with (fail)
      refine hK _ _ (by (repeat (first | (with_reducible refine Hd.drew ?_) | (with_reducible refine Hd.set ?_ (by first | (left; assumption) | (right; decide)) _))); exact hhd) ?_
      clear hK K
      try simp only [Act.put, List.setIfInBounds_toArray, List.set_cons_zero, List.set_cons_succ]
      repeat ((first | refine Rgs.RGT_take (by exact rfl) (by exact rfl) (by decide +kernel) (by exact rfl) (by intro w' hw'; obtain ⟨y0, y1⟩ := hw'; go_simp; try with_reducible rfl) ?_ | refine Rgs.RGT_skip (by exact rfl) (by exact rfl) (by decide +kernel) (by exact rfl) ?_); try simp only [Act.put, List.setIfInBounds_toArray, List.set_cons_zero, List.set_cons_succ])
      refine Rgs.RGT_one 15 [] (by exact rfl) (by decide +kernel) (by exact rfl) (fun K hK => ?_)
      go_wp2_with (fail)
      refine hK _ _ (by (repeat (first | (with_reducible refine Hd.drew ?_) | (with_reducible refine Hd.set ?_ (by first | (left; assumption) | (right; decide)) _))); exact hhd) ?_
      clear hK K
      try simp only [Act.put, List.setIfInBounds_toArray, List.set_cons_zero, List.set_cons_succ]
      refine Rgs.RGT_done (by decide +kernel) (hR _ _ ?_)
      clear hR R
      go_wp2_with fail
      go_ret
      refine ⟨rfl, ?_, by repeat (first | (with_reducible exact Upd.refl _ _) | (with_reducible refine Upd.drew ?_) | (with_reducible refine Upd.setCell ?_ (fun _ => by first | exact cb0 | exact cb1 | exact cb2) _))⟩
      refine Mid.chn (i := i) (((((HM.out.setF r).set2 hr (-1)).set1 hi i).set2 hi i).setL nl).drew.drew HND.out HLT.out HZ.out ?_ HNL.out.symm ?_ ?_
      · rw [HA0.out]; rfl
      · exact fun k _ => cutA HNX.out HA0.out k
      · exact fun k _ => by
          have e3 : lsI (-1) A = -1 := by rw [HA0.out]; rfl
          have := cutB2 HPV.out (by simp) rfl k
          rw [e3] at this
          exact this
  · obtain ⟨A', q, hAq, e2⟩ := lsI_nat A (-1) hA0
    obtain ⟨A2, q2, hAq2, e4⟩ := lsI_nat A 0 hA0
    have e5 : q2 = q := by have := congrArg List.getLast? (hAq.symm.trans hAq2); simpa using this.symm
    subst e5
    rw [e2] at v2
    have hqm : q2 ∈ A := by rw [hAq]; simp
    have hq : q2 < n := HLT.out q2 (by simp [hqm])
    have hqi : q2 ≠ i := fun e => hA (e ▸ hqm)
    have hiq : i ≠ q2 := Ne.symm hqi
    have hq1 : (q2 : Int) < n := by omega
    have hq2 : (0 : Int) ≤ q2 := by omega
    have hq3 : ((q2 : Int) == -1) = false := by simp <;> omega
    have vq := h1cell q2 hq
    have HQ := Lib.hid e4
    have HQ2 := Lib.hid e2
    have HA0 := Lib.hid hA0
    by_cases hB0 : B = []
    · have HB0 := Lib.hid hB0
      have e1 : hdI B = -1 := by rw [hB0]; rfl
      rw [e1] at v1
      clear hA0 hB0 e1 e2 hA hB hnd h1cell h2cell hAq hAq2 e4 hqm
      go_enter Tryd.func118, Tryd.ntmps118
      go_wp2_with fail
      refine HH.out.mono ?_
      rintro e W ⟨rfl, rfl⟩
      clear HH
      go_wp2_with fail
      refine region_tail 19 (by kernel_rfl) (by kernel_rfl) ?_
      simp only [List.take_succ_cons, List.take_zero, List.drop_succ_cons, List.drop_zero]
      repeat (first | still_step)
      refine wpStill_nil ?_
      go_wp2_with fail
      have hhd := HHD.out
      refine Rgs.RGT_begin (Hd cb (.slice (some ⟨p.g1, p.o1, none⟩) n p.c1) (.slice (some ⟨p.g2, p.o2, none⟩) n p.c2)) 16 [(0, 73), (4, 77), (5, 78), (9, 82), (10, 83), (11, 84), (1, 74), (6, 79), (2, 75), (7, 80), (3, 76), (8, 81), (12, 85)] (by rfl) (by decide +kernel) (by kernel_rfl) (by (repeat (first | (with_reducible refine Hd.drew ?_) | (with_reducible refine Hd.set ?_ (by first | (left; assumption) | (right; decide)) _))); exact hhd) (fun R hR => ?_)
      repeat ((first | refine Rgs.RGT_take (by exact rfl) (by exact rfl) (by decide +kernel) (by exact rfl) (by intro w' hw'; obtain ⟨y0, y1⟩ := hw'; go_simp; try with_reducible rfl) ?_ | refine Rgs.RGT_skip (by exact rfl) (by exact rfl) (by decide +kernel) (by exact rfl) ?_); try simp only [Act.put, List.setIfInBounds_toArray, List.set_cons_zero, List.set_cons_succ])
      refine Rgs.RGT_one 13 [(14, 86)] (by exact rfl) (by decide +kernel) (by exact rfl) (fun K hK => ?_)
      go_wp2_with (fail)
      refine hK _ _ (by (repeat (first | (with_reducible refine Hd.drew ?_) | (with_reducible refine Hd.set ?_ (by first | (left; assumption) | (right; decide)) _))); exact hhd) ?_
      clear hK K
      try simp only [Act.put, List.setIfInBounds_toArray, List.set_cons_zero, List.set_cons_succ]
      repeat ((first | refine Rgs.RGT_take (by exact rfl) (by exact rfl) (by decide +kernel) (by exact rfl) (by intro w' hw'; obtain ⟨y0, y1⟩ := hw'; go_simp; try with_reducible rfl) ?_ | refine Rgs.RGT_skip (by exact rfl) (by exact rfl) (by decide +kernel) (by exact rfl) ?_); try simp only [Act.put, List.setIfInBounds_toArray, List.set_cons_zero, List.set_cons_succ])
      refine Rgs.RGT_one 15 [] (by exact rfl) (by decide +kernel) (by exact rfl) (fun K hK => ?_)
      go_wp2_with (fail)
      refine hK _ _ (by (repeat (first | (with_reducible refine Hd.drew ?_) | (with_reducible refine Hd.set ?_ (by first | (left; assumption) | (right; decide)) _))); exact hhd) ?_
      clear hK K
      try simp only [Act.put, List.setIfInBounds_toArray, List.set_cons_zero, List.set_cons_succ]
      refine Rgs.RGT_done (by decide +kernel) (hR _ _ ?_)
      clear hR R
      go_wp2_with fail
      go_ret
      refine ⟨rfl, ?_, by repeat (first | (with_reducible exact Upd.refl _ _) | (with_reducible refine Upd.drew ?_) | (with_reducible refine Upd.setCell ?_ (fun _ => by first | exact cb0 | exact cb1 | exact cb2) _))⟩
      refine Mid.chn (i := i) ((((HM.out.set1 hq (-1)).set1 hi i).set2 hi i).setL nl).drew.drew HND.out HLT.out HZ.out ?_ HNL.out.symm ?_ ?_
      · exact hd_app HA0.out HFI.out
      · exact fun k _ => by
          have e3 : hdI B = -1 := by rw [HB0.out]; rfl
          have := cutA2 HNX.out HA0.out HQ.out k
          rw [e3] at this
          exact this
      · exact fun k _ => cutB HPV.out HB0.out k
    · obtain ⟨r, B', rfl⟩ : ∃ r B', B = r :: B' := by
        cases B with
        | nil => exact absurd rfl hB0
        | cons r B' => exact ⟨r, B', rfl⟩
      have hr : r < n := HLT.out r (by simp)
      have hri : r ≠ i := fun e => hB (by simp [e])
      have hir : i ≠ r := Ne.symm hri
      have hr1 : (r : Int) < n := by omega
      have hr2 : (0 : Int) ≤ r := by omega
      have hr3 : ((r : Int) != -1) = true := by simp <;> omega
      simp only [hdI] at v1
      have vr := h2cell r hr
      clear hB0 e2 hA hB hnd hA0 h1cell h2cell hAq hAq2 e4 hqm
      go_enter Tryd.func118, Tryd.ntmps118
      go_wp2_with fail
      refine HH.out.mono ?_
      rintro e W ⟨rfl, rfl⟩
      clear HH
      go_wp2_with fail
      refine region_tail 19 (by kernel_rfl) (by kernel_rfl) ?_
      simp only [List.take_succ_cons, List.take_zero, List.drop_succ_cons, List.drop_zero]
      repeat (first | still_step)
      refine wpStill_nil ?_
      go_wp2_with fail
      refine region_tail 19 (by kernel_rfl) (by kernel_rfl) ?_
      simp only [List.take_succ_cons, List.take_zero, List.drop_succ_cons, List.drop_zero]
      repeat (first | still_step)
      refine wpStill_nil ?_
      go_wp2_with fail
      have hhd := HHD.out
      refine Rgs.RGT_begin (Hd cb (.slice (some ⟨p.g1, p.o1, none⟩) n p.c1) (.slice (some ⟨p.g2, p.o2, none⟩) n p.c2)) 16 [(0, 73), (4, 77), (5, 78), (9, 82), (10, 83), (11, 84), (1, 74), (6, 79), (2, 75), (7, 80), (3, 76), (8, 81), (12, 85)] (by rfl) (by decide +kernel) (by kernel_rfl) (by (repeat (first | (with_reducible refine Hd.drew ?_) | (with_reducible refine Hd.set ?_ (by first | (left; assumption) | (right; decide)) _))); exact hhd) (fun R hR => ?_)
      repeat ((first | refine Rgs.RGT_take (by exact rfl) (by exact rfl) (by decide +kernel) (by exact rfl) (by intro w' hw'; obtain ⟨y0, y1⟩ := hw'; go_simp; try with_reducible rfl) ?_ | refine Rgs.RGT_skip (by exact rfl) (by exact rfl) (by decide +kernel) (by exact rfl) ?_); try simp only [Act.put, List.setIfInBounds_toArray, List.set_cons_zero, List.set_cons_succ])
      refine Rgs.RGT_one 13 [(14, 86)] (by exact rfl) (by decide +kernel) (by exact rfl) (fun K hK => ?_)
      go_wp2_with (fail)
      refine hK _ _ (by (repeat (first | (with_reducible refine Hd.drew ?_) | (with_reducible refine Hd.set ?_ (by first | (left; assumption) | (right; decide)) _))); exact hhd) ?_
      clear hK K
      try simp only [Act.put, List.setIfInBounds_toArray, List.set_cons_zero, List.set_cons_succ]
      repeat ((first | refine Rgs.RGT_take (by exact rfl) (by exact rfl) (by decide +kernel) (by exact rfl) (by intro w' hw'; obtain ⟨y0, y1⟩ := hw'; go_simp; try with_reducible rfl) ?_ | refine Rgs.RGT_skip (by exact rfl) (by exact rfl) (by decide +kernel) (by exact rfl) ?_); try simp only [Act.put, List.setIfInBounds_toArray, List.set_cons_zero, List.set_cons_succ])
      refine Rgs.RGT_one 15 [] (by exact rfl) (by decide +kernel) (by exact rfl) (fun K hK => ?_)
      go_wp2_with (fail)
      refine hK _ _ (by (repeat (first | (with_reducible refine Hd.drew ?_) | (with_reducible refine Hd.set ?_ (by first | (left; assumption) | (right; decide)) _))); exact hhd) ?_
      clear hK K
      try simp only [Act.put, List.setIfInBounds_toArray, List.set_cons_zero, List.set_cons_succ]
      refine Rgs.RGT_done (by decide +kernel) (hR _ _ ?_)
      clear hR R
      go_wp2_with fail
      go_ret
      refine ⟨rfl, ?_, by repeat (first | (with_reducible exact Upd.refl _ _) | (with_reducible refine Upd.drew ?_) | (with_reducible refine Upd.setCell ?_ (fun _ => by first | exact cb0 | exact cb1 | exact cb2) _))⟩
      refine Mid.chn (i := i) (((((HM.out.set1 hq r).set2 hr q2).set1 hi i).set2 hi i).setL nl).drew.drew.drew HND.out HLT.out HZ.out ?_ HNL.out.symm ?_ ?_
      · exact hd_app HA0.out HFI.out
      · exact fun k _ => cutA2 HNX.out HA0.out HQ.out k
      · exact fun k _ => by
          have := cutB2 HPV.out (by simp) rfl k
          rw [HQ2.out] at this
          exact this
end Go.Proofs.YtkjkgpdfhmoenaaDoor.Chain
namespace Go.Proofs.YtkjkgpdfhmoenaaDoor.Chain
open Go Go.RowKit Go.Proofs.YtkjkgpdfhmoenaaDoor.Kit Go.Proofs.YtkjkgpdfhmoenaaDoor.Range Go.Proofs.YtkjkgpdfhmoenaaDoor.Round Go.Proofs.YtkjkgpdfhmoenaaDoor.Seg Go.Proofs.YtkjkgpdfhmoenaaDoor.Collect Go.Proofs.YtkjkgpdfhmoenaaDoor.ChainLaw Go.Proofs.YtkjkgpdfhmoenaaDoor.BpeLaw
attribute [local irreducible] wpQuiet wpStill
set_option linter.unusedSimpArgs false
variable {w w' : World} {cb n : Nat} {p : Cp} {L : List Nat}

theorem All_calls (cb : Nat) (w : World) : Calls Tryd.prog 120 #[.pointer (some ⟨cb, 0, none⟩)] w fun e w' =>
    e = .returned (.func (.func 132) #[] #[.pointer (some ⟨w.heap.size, 0, none⟩)]) ∧ w.alloc (.cells #[.pointer (some ⟨cb, 0, none⟩)] 195) = w' := by
  have hmf : ∀ (fn : Fn) (first cap : Array Value) (w : World), (Instr.makeFunc fn first cap).run Tryd.prog w = .ok (.func fn first cap) w := fun _ _ _ _ => rfl
  go_enter Tryd.func120, Tryd.ntmps120
  go_wp2
  go_ret
  exact ⟨rfl, rfl⟩

set_option maxHeartbeats 1000000 in
set_option maxRecDepth 100000 in
theorem all_iter (w0 : World) (xb : Nat) (hx : w0.heap[xb]? = some (.cells #[.pointer (some ⟨cb, 0, none⟩)] 195 (0, 0))) (hc : Chn w0 cb p n L) :
    Iter Tryd.prog 132 #[.pointer (some ⟨xb, 0, none⟩)] (fun k => #[.int .i64 (L.getD k 0 : Nat)]) L.length (fun b => b = xb ∨ Cb cb p b) w0 := by
  intro l J Jx W hW hJ hJx hS hY S0 h0
  have HJ := Lib.hid hJ
  have HS := Lib.hid hS
  have HY := Lib.hid hY
  have HX := Lib.hid ((hW.block xb (lt_of_heap hx)).trans hx)
  have HC := Lib.hid (hc.below hW)
  have HND := Lib.hid hc.nd
  clear hW hJ hJx hS hY hx hc
  refine callsIn_wide.2 ?_
  have H0 := Lib.hid h0
  clear h0
  have h1 := HC.out.c
  unfold cellsC at h1
  obtain ⟨z0, hz0⟩ : ∃ z, hdI L = z := ⟨_, rfl⟩
  rw [hz0] at h1
  have HZ0 := Lib.hid hz0
  have HCC := Lib.hid h1
  clear h1 hz0
  have x0 := cell_at HX.out 0
  have xz := lt_of_heap HX.out
  simp only [List.getElem?_toArray, List.getElem?_cons_zero] at x0
  have c2 := cell_at HCC.out 2
  have cz := lt_of_heap HCC.out
  simp only [List.getElem?_toArray, List.getElem?_cons_zero, List.getElem?_cons_succ] at c2
  go_enter Tryd.func132, Tryd.ntmps132
  go_wp2_with fail
  clear x0 xz c2 cz HCC
  go_loopg [3] L.length (fun g s3 wr => ∃ (k : Nat) (S : Nat → Prop), k ≤ L.length ∧ g = L.length - k ∧ s3 = .int .i64 (hdI (L.drop k)) ∧ J k S wr ∧ Chn wr cb p n L ∧ wr.heap[xb]? = some (.cells #[.pointer (some ⟨cb, 0, none⟩)] 195 (0, 0)))
  case atStart => exact ⟨0, S0, Nat.zero_le _, by omega, by rw [← HZ0.out]; rfl, H0.out, HC.out, HX.out⟩
  case round =>
    obtain ⟨k, S, hk, hg, rfl, hj, hc, hx⟩ := hrel
    have HG := Lib.hid hg
    have HJK := Lib.hid hj
    have HC := Lib.hid hc
    have HX := Lib.hid hx
    clear hg hj hc hx
    by_cases hlt : k < L.length
    · have hL : L = L.take k ++ L[k] :: L.drop (k + 1) := by rw [← List.drop_eq_getElem_cons hlt, List.take_append_drop]
      have hd : L.drop k = L[k] :: L.drop (k + 1) := List.drop_eq_getElem_cons hlt
      have hgd : L.getD k 0 = L[k] := by rw [List.getD_eq_getElem?_getD, List.getElem?_eq_getElem hlt]; rfl
      obtain ⟨i, hi⟩ : ∃ i, L[k] = i := ⟨_, rfl⟩
      rw [hi] at hL hd hgd
      have hnx : nx L i = hdI (L.drop (k + 1)) := by
        have hn := HND.out
        rw [hL] at hn
        have hA : i ∉ L.take k := fun hh => (List.nodup_append.1 hn).2.2 i hh i (by simp) rfl
        conv => lhs; rw [hL]
        exact nx_mid hA
      have hin : i < n := HC.out.lt i (by rw [← hi]; exact List.getElem_mem hlt)
      rw [hd]
      simp only [hdI]
      obtain ⟨z, hz⟩ : ∃ z, hdI (L.drop (k + 1)) = z := ⟨_, rfl⟩
      rw [hz] at hnx
      have HZ := Lib.hid hz
      have HNX := Lib.hid hnx
      have HGD := Lib.hid hgd
      have hne : ((i : Int) != -1) = true := by simp <;> omega
      have hi1 : (i : Int) < n := by omega
      have hi2 : (0 : Int) ≤ i := by omega
      clear hi hL hd hnx hz hgd
      obtain ⟨fn, tmps, assign, body, hy, hrd⟩ := HY.out k S wr hlt HJK.out
      rw [HGD.out] at hy
      have HRD := Lib.hid hrd
      clear hrd
      refine (wpIn_wide (n := 0)).1 ?_
      gi_wp2_with fail
      refine ⟨rfl, HRD.out.mono ?_⟩
      rintro e B (⟨rfl, S2, hj, hu, hs⟩ | ⟨rfl, S2, hj, hu, hs⟩)
      · have hcap := (HS.out k S wr HJK.out).2
        have HJ4 := Lib.hid hj
        have hb : ∀ b, (b = xb ∨ Cb cb p b) → ¬ S b := fun b hb h => (hcap b h).2 hb
        have HX2 := Lib.hid ((hu.block xb (lt_of_heap HX.out) (hb _ (.inl rfl))).trans HX.out)
        have hc2 := HC.out.upd hu (fun b h => hb b (.inr h))
        have HC2 := Lib.hid hc2
        have h1 := hc2.c
        unfold cellsC at h1
        obtain ⟨z1, hz1⟩ : ∃ z, hdI L = z := ⟨_, rfl⟩
        rw [hz1] at h1
        have HCC := Lib.hid h1
        clear hz1
        have n1 := hc2.n1.cell hin
        have nz := hc2.n1.lt
        rw [HNX.out] at n1
        clear hcap hj hu hs hy hb h1 hc2
        have x0 := cell_at HX2.out 0
        have xz := lt_of_heap HX2.out
        simp only [List.getElem?_toArray, List.getElem?_cons_zero] at x0
        have c0 := cell_at HCC.out 0
        have cz := lt_of_heap HCC.out
        simp only [List.getElem?_toArray, List.getElem?_cons_zero] at c0
        gi_wp2
        go_wp2_with fail
        have hgg := HG.out
        go_roundg (L.length - (k + 1))
        case measure => omega
        case rel => exact ⟨k + 1, S2, hlt, rfl, by rw [HZ.out], HJ4.out, HC2.out, HX2.out⟩
      · have HJ4 := Lib.hid hj
        clear hj hu hs
        gi_wp2
        go_wp2_with fail
        go_end0
        exact ⟨⟨_, rfl⟩, .inr ⟨k, S2, hlt, HJ4.out⟩⟩
    · have hkl : k = L.length := by omega
      subst hkl
      rw [List.drop_length]
      simp only [hdI]
      go_wp2_with fail
      go_end0
      exact ⟨⟨_, rfl⟩, .inl ⟨S, HJK.out⟩⟩
end Go.Proofs.YtkjkgpdfhmoenaaDoor.Chain
