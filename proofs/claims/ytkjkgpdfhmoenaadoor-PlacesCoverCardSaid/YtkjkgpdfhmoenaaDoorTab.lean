/-
  What is wrong with classes, list by list. classes.Table: how it lies in memory; Of, Kind.
-/
import Derived.Test.YtkjkgpdfhmoenaaDoorDt
import Derived.Test.YtkjkgpdfhmoenaaDoorSpLists
namespace Go.Proofs.YtkjkgpdfhmoenaaDoor.Chk4
open Go Go.RowKit Go.Proofs.YtkjkgpdfhmoenaaDoor.Kit Go.Proofs.YtkjkgpdfhmoenaaDoor.SpFns Go.Proofs.YtkjkgpdfhmoenaaDoor.SpFind Go.Proofs.YtkjkgpdfhmoenaaDoor.SpSize Go.Proofs.YtkjkgpdfhmoenaaDoor.SpLists Go.Proofs.YtkjkgpdfhmoenaaDoor.SpRef Go.Proofs.YtkjkgpdfhmoenaaDoor.Dt

/-- List k of the three. -/
def nk (D : Dt) : Nat → Nat | 0 => D.n0 | 1 => D.n1 | _ => D.n2
def lk (D : Dt) : Nat → Nat → Int | 0 => D.L0 | 1 => D.L1 | _ => D.L2
def hk (D : Dt) : Nat → Nat → Int | 0 => D.H0 | 1 => D.H1 | _ => D.H2
def ak (p : Pl) : Nat → Option Addr | 0 => p.a2 | 1 => p.a3 | _ => p.a4
def ck (p : Pl) : Nat → Nat | 0 => p.c2 | 1 => p.c3 | _ => p.c4

theorem row_k {w : World} {D : Dt} {p : Pl} (h : At w D p) (k : Nat) : Row w (ak p k) (nk D k) (lk D k) (hk D k) := by
  match k with
  | 0 => exact h.l0
  | 1 => exact h.l1
  | _ + 2 => exact h.l2
theorem nk_le {w : World} {D : Dt} {p : Pl} (h : At w D p) (k : Nat) : nk D k ≤ 17592186044416 := by
  match k with
  | 0 => exact h.b0
  | 1 => exact h.b1
  | _ + 2 => exact h.b2

theorem cell_k {w : World} {b : Nat} {D : Dt} {p : Pl} {t : TypeId} (h : w.heap[b]? = some (.cells #[.slice p.a2 D.n0 p.c2, .slice p.a3 D.n1 p.c3, .slice p.a4 D.n2 p.c4] t (0, 0))) {k : Nat} (hk : k < 3) :
    w.cell? ⟨b, k, none⟩ = some (.slice (ak p k) (nk D k) (ck p k)) := by
  rw [cell_at h k]
  match k, hk with
  | 0, _ => rfl
  | 1, _ => rfl
  | 2, _ => rfl

/-- List k's first wrong row. -/
def rk (D : Dt) (k : Nat) : Int × Int := rt (lk D k) (hk D k) (nk D k) 0
/-- The first span of list i that meets list j. -/
def mk (D : Dt) (i j : Nat) : Int × Bool := fr (hit (lk D i) (hk D i) (lk D j) (hk D j) (nk D j)) (nk D i) 0

theorem fr_nonneg (p : Nat → Bool) : ∀ (n i : Nat), 0 ≤ (fr p n i).1
  | 0, _ => Int.le_refl _
  | n + 1, i => by
    rw [fr]
    split
    · exact Int.natCast_nonneg _
    · exact fr_nonneg p n (i + 1)
theorem fr_lt (p : Nat → Bool) : ∀ (n i : Nat), (fr p n i).2 = true → (fr p n i).1 < i + n
  | 0, _, h => by cases h
  | n + 1, i, h => by
    rw [fr] at h ⊢
    split
    · show (i : Int) < i + (n + 1 : Nat); omega
    · rename_i hp
      rw [if_neg hp] at h
      have := fr_lt p n (i + 1) h
      simp only [Int.natCast_add] at this ⊢
      omega

/-- What the reference has found of list i behind j lists. -/
def F (D : Dt) (i : Nat) : Nat → Int
  | 0 => -1
  | j + 1 => if (mk D i j).2 = true ∧ (F D i j < 0 ∨ (mk D i j).1 < F D i j) then (mk D i j).1 else F D i j

def Few (D : Dt) (k : Nat) : Prop := ∀ j, j < k → nk D j ≤ 512
def Ok (D : Dt) (k : Nat) : Prop := ∀ j, j < k → (rk D j).2 = 0
def Apart (D : Dt) (i : Nat) : Prop := ∀ i', i' < i → ∀ j, j < i' → (mk D i' j).2 = false

theorem chk_many {D : Dt} {k : Nat} (hk : k < 3) (hf : Few D k) (h : 512 < nk D k) : chk4 D = (4, (k : Int) + 1, 512) := by
  unfold chk4
  match k, hk with
  | 0, _ => rw [if_pos (show 512 < D.n0 from h)]; rfl
  | 1, _ => rw [if_neg (by have := hf 0 (by decide); simp only [nk] at this; omega), if_pos (show 512 < D.n1 from h)]; rfl
  | 2, _ => rw [if_neg (by have := hf 0 (by decide); simp only [nk] at this; omega), if_neg (by have := hf 1 (by decide); simp only [nk] at this; omega), if_pos (show 512 < D.n2 from h)]; rfl

theorem few_if {D : Dt} (hf : Few D 3) {α : Type} (a b c d : α) : (if 512 < D.n0 then a else if 512 < D.n1 then b else if 512 < D.n2 then c else d) = d := by
  rw [if_neg (by have := hf 0 (by decide); simp only [nk] at this; omega), if_neg (by have := hf 1 (by decide); simp only [nk] at this; omega), if_neg (by have := hf 2 (by decide); simp only [nk] at this; omega)]

theorem chk_wrong {D : Dt} {k : Nat} (hk : k < 3) (hf : Few D 3) (ho : Ok D k) (h : (rk D k).2 ≠ 0) : chk4 D = ((rk D k).2, (k : Int) + 1, (rk D k).1) := by
  unfold chk4
  rw [few_if hf]
  match k, hk with
  | 0, _ => rw [if_pos (show (rt D.L0 D.H0 D.n0 0).2 ≠ 0 from h)]; rfl
  | 1, _ => rw [if_neg (fun h' => h' (ho 0 (by decide))), if_pos (show (rt D.L1 D.H1 D.n1 0).2 ≠ 0 from h)]; rfl
  | 2, _ => rw [if_neg (fun h' => h' (ho 0 (by decide))), if_neg (fun h' => h' (ho 1 (by decide))), if_pos (show (rt D.L2 D.H2 D.n2 0).2 ≠ 0 from h)]; rfl

theorem ok_if {D : Dt} (ho : Ok D 3) {α : Type} (a b c d : α) : (if (rt D.L0 D.H0 D.n0 0).2 ≠ 0 then a else if (rt D.L1 D.H1 D.n1 0).2 ≠ 0 then b else if (rt D.L2 D.H2 D.n2 0).2 ≠ 0 then c else d) = d := by
  rw [if_neg (fun h' => h' (ho 0 (by decide))), if_neg (fun h' => h' (ho 1 (by decide))), if_neg (fun h' => h' (ho 2 (by decide)))]

theorem F_1 (D : Dt) : F D 1 1 = if (mk D 1 0).2 = true then (mk D 1 0).1 else -1 := by
  simp only [F]
  generalize mk D 1 0 = a
  obtain ⟨a1, a2⟩ := a
  cases a2 <;> simp

/-- One step of what the reference has found. -/
def st (m : Int × Bool) (f : Int) : Int := if m.2 = true ∧ (f < 0 ∨ m.1 < f) then m.1 else f
theorem st_two (a b : Int × Bool) (n0 : 0 ≤ a.1) : st b (st a (-1)) = if a.2 = true ∧ b.2 = true then min a.1 b.1 else if a.2 = true then a.1 else if b.2 = true then b.1 else -1 := by
  obtain ⟨a1, a2⟩ := a
  obtain ⟨b1, b2⟩ := b
  simp only at n0
  have h : ¬ a1 < 0 := by omega
  cases a2 <;> cases b2 <;> simp [st, h]
  split
  · rw [Int.min_eq_right (by omega)]
  · rw [Int.min_eq_left (by omega)]
theorem F_2 (D : Dt) : F D 2 2 = if (mk D 2 0).2 = true ∧ (mk D 2 1).2 = true then min (mk D 2 0).1 (mk D 2 1).1 else if (mk D 2 0).2 = true then (mk D 2 0).1 else if (mk D 2 1).2 = true then (mk D 2 1).1 else -1 :=
  st_two (mk D 2 0) (mk D 2 1) (fr_nonneg _ _ _)

theorem chk_over {D : Dt} {i : Nat} (h1 : 1 ≤ i) (h3 : i < 3) (hf : Few D 3) (ho : Ok D 3) (ha : Apart D i) (h : 0 ≤ F D i i) : chk4 D = (16, (i : Int) + 1, F D i i) := by
  unfold chk4
  rw [few_if hf, ok_if ho]
  have hi : i = 1 ∨ i = 2 := by omega
  rcases hi with rfl | rfl
  · rw [F_1] at h ⊢
    split at h
    · rename_i h2
      rw [if_pos h2, if_pos (show (fr (hit D.L1 D.H1 D.L0 D.H0 D.n0) D.n1 0).2 = true from h2)]
      rfl
    · omega
  · have a10 := ha 1 (by decide) 0 (by decide)
    rw [if_neg (show ¬ (fr (hit D.L1 D.H1 D.L0 D.H0 D.n0) D.n1 0).2 = true from fun h => by rw [show fr (hit D.L1 D.H1 D.L0 D.H0 D.n0) D.n1 0 = mk D 1 0 from rfl, a10] at h; cases h)]
    rw [show fr (hit D.L2 D.H2 D.L0 D.H0 D.n0) D.n2 0 = mk D 2 0 from rfl, show fr (hit D.L2 D.H2 D.L1 D.H1 D.n1) D.n2 0 = mk D 2 1 from rfl]
    rw [F_2] at h ⊢
    generalize mk D 2 0 = a at *
    generalize mk D 2 1 = b at *
    obtain ⟨a1, a2⟩ := a
    obtain ⟨b1, b2⟩ := b
    cases a2 <;> cases b2 <;> simp at h ⊢

theorem apart_step {D : Dt} {i : Nat} (h1 : 1 ≤ i) (h3 : i < 3) (ha : Apart D i) (h : F D i i < 0) : Apart D (i + 1) := by
  intro i' hi' j hj
  rcases Nat.lt_or_ge i' i with h4 | h4
  · exact ha i' h4 j hj
  · have hii : i' = i := by omega
    subst hii
    have hi : i' = 1 ∨ i' = 2 := by omega
    rcases hi with rfl | rfl
    · rw [F_1] at h
      have hj0 : j = 0 := by omega
      subst hj0
      have n0 := fr_nonneg (hit (lk D 1) (hk D 1) (lk D 0) (hk D 0) (nk D 0)) (nk D 1) 0
      rw [show fr (hit (lk D 1) (hk D 1) (lk D 0) (hk D 0) (nk D 0)) (nk D 1) 0 = mk D 1 0 from rfl] at n0
      cases hm : (mk D 1 0).2 with
      | false => rfl
      | true => rw [if_pos hm] at h; omega
    · rw [F_2] at h
      have n0 := fr_nonneg (hit (lk D 2) (hk D 2) (lk D 0) (hk D 0) (nk D 0)) (nk D 2) 0
      have n1 := fr_nonneg (hit (lk D 2) (hk D 2) (lk D 1) (hk D 1) (nk D 1)) (nk D 2) 0
      rw [show fr (hit (lk D 2) (hk D 2) (lk D 0) (hk D 0) (nk D 0)) (nk D 2) 0 = mk D 2 0 from rfl] at n0
      rw [show fr (hit (lk D 2) (hk D 2) (lk D 1) (hk D 1) (nk D 1)) (nk D 2) 0 = mk D 2 1 from rfl] at n1
      have hj2 : j = 0 ∨ j = 1 := by omega
      rcases hj2 with rfl | rfl
      · generalize mk D 2 0 = a at *
        generalize mk D 2 1 = b at *
        obtain ⟨a1, a2⟩ := a
        obtain ⟨b1, b2⟩ := b
        cases a2 <;> cases b2 <;> simp at h n0 n1 ⊢ <;> omega
      · generalize mk D 2 0 = a at *
        generalize mk D 2 1 = b at *
        obtain ⟨a1, a2⟩ := a
        obtain ⟨b1, b2⟩ := b
        cases a2 <;> cases b2 <;> simp at h n0 n1 ⊢ <;> omega

theorem few_step {D : Dt} {k : Nat} (h : Few D k) (h2 : ¬ 512 < nk D k) : Few D (k + 1) := fun j hj => (Nat.lt_or_ge j k).elim (h j) (fun h' => by
  have : j = k := by omega
  rw [this]
  omega)
theorem ok_step {D : Dt} {k : Nat} (h : Ok D k) (h2 : (rk D k).2 = 0) : Ok D (k + 1) := fun j hj => (Nat.lt_or_ge j k).elim (h j) (fun h' => by
  have : j = k := by omega
  rw [this]
  exact h2)

theorem rt_all {D : Dt} (ho : Ok D 3) (k : Nat) : Rt (lk D k) (hk D k) (nk D k) := by
  match k with
  | 0 => exact Rt.of (ho 0 (by decide))
  | 1 => exact Rt.of (ho 1 (by decide))
  | _ + 2 => exact Rt.of (ho 2 (by decide))

/-- All that the walks ask of the last test. -/
def Blank (D : Dt) : Prop := InD D.L2 D.H2 D.n2 32 = true ∧ InD D.L0 D.H0 D.n0 39 = false ∧ InD D.L1 D.H1 D.n1 39 = false ∧ InD D.L2 D.H2 D.n2 39 = false

theorem chk_last {D : Dt} (hf : Few D 3) (ho : Ok D 3) (ha : Apart D 3) : (Blank D → chk4 D = (0, 0, 0)) ∧ (¬ Blank D → chk4 D = (20, 3, 0)) := by
  have a10 := ha 1 (by decide) 0 (by decide)
  have a20 := ha 2 (by decide) 0 (by decide)
  have a21 := ha 2 (by decide) 1 (by decide)
  have e : chk4 D = if InD D.L2 D.H2 D.n2 32 = false ∨ InD D.L0 D.H0 D.n0 39 = true ∨ InD D.L1 D.H1 D.n1 39 = true ∨ InD D.L2 D.H2 D.n2 39 = true then (20, 3, 0) else (0, 0, 0) := by
    unfold chk4
    rw [few_if hf, ok_if ho]
    rw [show fr (hit D.L1 D.H1 D.L0 D.H0 D.n0) D.n1 0 = mk D 1 0 from rfl, show fr (hit D.L2 D.H2 D.L0 D.H0 D.n0) D.n2 0 = mk D 2 0 from rfl, show fr (hit D.L2 D.H2 D.L1 D.H1 D.n1) D.n2 0 = mk D 2 1 from rfl, a10, a20, a21]
    simp
  rw [e]
  unfold Blank
  constructor
  · rintro ⟨h1, h2, h3, h4⟩
    rw [if_neg (by simp [h1, h2, h3, h4])]
  · intro h
    rw [if_pos]
    cases g1 : InD D.L2 D.H2 D.n2 32 <;> cases g2 : InD D.L0 D.H0 D.n0 39 <;> cases g3 : InD D.L1 D.H1 D.n1 39 <;> cases g4 : InD D.L2 D.H2 D.n2 39 <;> simp_all
end Go.Proofs.YtkjkgpdfhmoenaaDoor.Chk4
namespace Go.Proofs.YtkjkgpdfhmoenaaDoor.Tab
open Go Go.RowKit Go.Proofs.YtkjkgpdfhmoenaaDoor.Kit Go.Proofs.YtkjkgpdfhmoenaaDoor.SpFns Go.Proofs.YtkjkgpdfhmoenaaDoor.SpFind Go.Proofs.YtkjkgpdfhmoenaaDoor.SpSize Go.Proofs.YtkjkgpdfhmoenaaDoor.SpLists Go.Proofs.YtkjkgpdfhmoenaaDoor.SpRef Go.Proofs.YtkjkgpdfhmoenaaDoor.Dt Go.Proofs.YtkjkgpdfhmoenaaDoor.Chk4
attribute [local irreducible] wpQuiet

/-- A table at a block: three lists. -/
structure Tab (w : World) (D : Dt) (tb : Nat) (p : Pl) : Prop where
  t : w.heap[tb]? = some (.cells #[.slice p.a2 D.n0 p.c2, .slice p.a3 D.n1 p.c3, .slice p.a4 D.n2 p.c4] 158 (0, 0))
  r : ∀ k, k < 3 → Row w (ak p k) (nk D k) (lk D k) (hk D k)
  b : ∀ k, k < 3 → nk D k ≤ 17592186044416

/-- A block is the table's or one of its lists'. -/
def Pl.tab (p : Pl) (tb b : Nat) : Prop := b = tb ∨ ∃ k, k < 3 ∧ ∃ x, ak p k = some x ∧ x.block = b

theorem Tab.keep {w w' : World} {D : Dt} {tb : Nat} {p : Pl} (h : Tab w D tb p) (hs : w.heap.size ≤ w'.heap.size) (hb : ∀ b, Pl.tab p tb b → b < w.heap.size → w'.heap[b]? = w.heap[b]?) : Tab w' D tb p :=
  ⟨(hb tb (.inl rfl) (lt_of_heap h.t)).trans h.t, fun k hk => SRow.keep (h.r k hk) hs (fun x hx hl => hb _ (.inr ⟨k, hk, x, hx, rfl⟩) hl), h.b⟩
theorem Tab.below {w w' : World} {D : Dt} {tb : Nat} {p : Pl} (h : Tab w D tb p) (hb : Below w.heap.size w w') : Tab w' D tb p := h.keep hb.size (fun b _ hl => hb.block b hl)

theorem index_k {T : TypeId} {D : Dt} {p : Pl} {P : Program} {e : TypeId} (h0 : ∀ (x0 x1 x2 : Value) w, (Instr.index T (.agg #[x0, x1, x2]) (.int .i64 0)).run P w = .ok x0 w) (h1 : ∀ (x0 x1 x2 : Value) w, (Instr.index T (.agg #[x0, x1, x2]) (.int .i64 1)).run P w = .ok x1 w)
    (h2 : ∀ (x0 x1 x2 : Value) w, (Instr.index T (.agg #[x0, x1, x2]) (.int .i64 2)).run P w = .ok x2 w) (_e : e = e) {k : Nat} (hk : k < 3) (w : World) :
    (Instr.index T (.agg #[.slice p.a2 D.n0 p.c2, .slice p.a3 D.n1 p.c3, .slice p.a4 D.n2 p.c4]) (.int .i64 k)).run P w = .ok (.slice (ak p k) (nk D k) (ck p k)) w := by
  match k, hk with
  | 0, _ => exact h0 _ _ _ w
  | 1, _ => exact h1 _ _ _ w
  | 2, _ => exact h2 _ _ _ w

/-- A rune's kind. -/
def kindOf (D : Dt) (r : Int) : Int := if InD D.L0 D.H0 D.n0 r = true then 1 else if InD D.L1 D.H1 D.n1 r = true then 2 else if InD D.L2 D.H2 D.n2 r = true then 3 else 4

theorem kind_hit {D : Dt} {r : Int} {k : Nat} (hk : k < 3) (hn : ∀ j, j < k → InD (lk D j) (Chk4.hk D j) (nk D j) r = false) (h : InD (lk D k) (Chk4.hk D k) (nk D k) r = true) : kindOf D r = 1 + (k : Int) := by
  unfold kindOf
  match k, hk with
  | 0, _ => rw [if_pos (show InD D.L0 D.H0 D.n0 r = true from h)]; rfl
  | 1, _ => rw [if_neg (by rw [show InD D.L0 D.H0 D.n0 r = false from hn 0 (by decide)]; simp), if_pos (show InD D.L1 D.H1 D.n1 r = true from h)]; rfl
  | 2, _ => rw [if_neg (by rw [show InD D.L0 D.H0 D.n0 r = false from hn 0 (by decide)]; simp), if_neg (by rw [show InD D.L1 D.H1 D.n1 r = false from hn 1 (by decide)]; simp), if_pos (show InD D.L2 D.H2 D.n2 r = true from h)]; rfl
theorem no_step {D : Dt} {r : Int} {k : Nat} (h : ∀ j, j < k → InD (lk D j) (Chk4.hk D j) (nk D j) r = false) (h2 : InD (lk D k) (Chk4.hk D k) (nk D k) r = false) : ∀ j, j < k + 1 → InD (lk D j) (Chk4.hk D j) (nk D j) r = false := fun j hj => (Nat.lt_or_ge j k).elim (h j) (fun h' => by
  have : j = k := by omega
  rw [this]
  exact h2)
theorem kind_none {D : Dt} {r : Int} (hn : ∀ j, j < 3 → InD (lk D j) (Chk4.hk D j) (nk D j) r = false) : kindOf D r = 4 := by
  unfold kindOf
  rw [if_neg (by rw [show InD D.L0 D.H0 D.n0 r = false from hn 0 (by decide)]; simp), if_neg (by rw [show InD D.L1 D.H1 D.n1 r = false from hn 1 (by decide)]; simp), if_neg (by rw [show InD D.L2 D.H2 D.n2 r = false from hn 2 (by decide)]; simp)]

theorem in_calls {D : Dt} (ho : Ok D 3) {k : Nat} (r : Int) {w : World} {p : Pl} (h : Row w (ak p k) (nk D k) (lk D k) (Chk4.hk D k)) (hb : nk D k ≤ 17592186044416) :
    Calls Tryd.prog 106 #[.slice (ak p k) (nk D k) (ck p k), .int .i32 r] w fun e w' => e = .returned (.bool (InD (lk D k) (Chk4.hk D k) (nk D k) r)) ∧ Below w.heap.size w w' := by
  obtain ⟨R, hcut⟩ := Rt.cut r (nk D k) (rt_all ho k)
  have := In_calls (ak p k) (nk D k) (ck p k) (lk D k) (Chk4.hk D k) r R w h (by omega) hcut
  rw [InD_cut (rt_all ho k) hcut] at this
  exact this

set_option maxHeartbeats 1000000 in
set_option maxRecDepth 100000 in
theorem Of_calls (D : Dt) (tb : Nat) (p : Pl) (r : Int) (w : World) (h : Tab w D tb p) (ho : Ok D 3) :
    Calls Tryd.prog 85 #[.pointer (some ⟨tb, 0, none⟩), .int .i32 r] w fun e w' => e = .returned (.int .i64 (kindOf D r)) ∧ Below w.heap.size w w' := by
  have H := Lib.hid h
  have HO := Lib.hid ho
  have b0 := cell_at h.t 0
  have b1 := cell_at h.t 1
  have b2 := cell_at h.t 2
  have zt := lt_of_heap h.t
  simp only [List.getElem?_toArray, List.getElem?_cons_zero, List.getElem?_cons_succ] at b0 b1 b2
  clear h ho
  go_enter Tryd.func85, Tryd.ntmps85
  go_wp2_with fail
  clear b0 b1 b2
  go_loopg [11] 3 (fun g s11 wr => ∃ k : Nat, k ≤ 3 ∧ g = 3 - k ∧ s11 = .int .i64 k ∧ Below w.heap.size w wr ∧ ∀ j, j < k → InD (lk D j) (Chk4.hk D j) (nk D j) r = false)
  case atStart => exact ⟨0, by omega, by omega, rfl, Below.refl _ _, fun j hj => by omega⟩
  case round =>
    obtain ⟨k, hk, hg, rfl, hb, hno⟩ := hrel
    have HG := Lib.hid hg
    have HNO := Lib.hid hno
    have HB := Lib.hid hb
    clear hg hno hb
    by_cases hlt : k < 3
    · have hlti : (k : Int) < 3 := by omega
      have hix := fun w => index_k (T := 156) (P := Tryd.prog) (e := 0) (D := D) (p := p) (fun x0 x1 x2 w => by kernel_rfl) (fun x0 x1 x2 w => by kernel_rfl) (fun x0 x1 x2 w => by kernel_rfl) rfl hlt w
      have K1 := Lib.hid (in_calls HO.out (k := k) r (p := p) ((H.out.below HB.out).r k hlt) (H.out.b k hlt))
      have HH := Lib.hid (fun h => kind_hit (D := D) (r := r) hlt HNO.out h)
      have HN := Lib.hid (fun h => no_step (D := D) (r := r) HNO.out h)
      generalize InD (lk D k) (Chk4.hk D k) (nk D k) r = b at K1 HH HN
      go_wp2_with fail
      refine K1.out.mono ?_
      rintro e W2 ⟨rfl, hb⟩
      have HB := Lib.hid (chain HB.out hb)
      clear hb hix
      cases b with
      | true =>
        have hw : IntKind.i64.wrap (1 + (k : Int)) = 1 + (k : Int) := i64w _ (by omega) (by omega)
        have HK := Lib.hid (HH.out rfl)
        go_wp2_with fail
        go_ret
        exact ⟨ret_int HK.out.symm, HB.out⟩
      | false =>
        have HNN := Lib.hid (HN.out rfl)
        go_wp2_with fail
        go_roundg (3 - (k + 1))
        case measure => have := HG.out; omega
        case rel => exact ⟨k + 1, by omega, rfl, by go_num, HB.out, HNN.out⟩
    · have hk3 : k = 3 := by omega
      subst hk3
      have HK := Lib.hid (kind_none HNO.out)
      go_wp2_with fail
      go_ret
      exact ⟨ret_int HK.out.symm, HB.out⟩
end Go.Proofs.YtkjkgpdfhmoenaaDoor.Tab
