/-
  A model's data: as plain data, as they lie in memory, and what chapter 5 says is wrong with them.
-/
import Derived.Test.YtendkmldecoogaaDoorSpLists
namespace Go.Proofs.YtendkmldecoogaaDoor.Dt
open Go Go.RowKit Go.Proofs.YtendkmldecoogaaDoor.Kit Go.Proofs.YtendkmldecoogaaDoor.SpFns Go.Proofs.YtendkmldecoogaaDoor.SpFind Go.Proofs.YtendkmldecoogaaDoor.SpSize Go.Proofs.YtendkmldecoogaaDoor.SpLists Go.Proofs.YtendkmldecoogaaDoor.SpRef

/-- A model as plain data. -/
structure Dt where
  nw : Nat
  W : Nat → ByteArray
  nm : Nat
  A : Nat → Int
  B : Nat → Int
  I : Nat → Int
  n0 : Nat
  L0 : Nat → Int
  H0 : Nat → Int
  n1 : Nat
  L1 : Nat → Int
  H1 : Nat → Int
  n2 : Nat
  L2 : Nat → Int
  H2 : Nat → Int

/-- Texts as they lie in memory. -/
def WRow (w : World) (a : Option Addr) (len : Nat) (W : Nat → ByteArray) : Prop :=
  len = 0 ∨ ∃ b off, a = some ⟨b, off, none⟩ ∧ b < w.heap.size ∧ ∀ i, i < len → w.cell? ⟨b, off + i, none⟩ = some (.string (W i))
/-- Merges as they lie in memory. -/
def MRow (w : World) (a : Option Addr) (len : Nat) (A B I : Nat → Int) : Prop :=
  len = 0 ∨ ∃ b off, a = some ⟨b, off, none⟩ ∧ b < w.heap.size ∧ ∀ i, i < len → w.cell? ⟨b, off + i * 3, none⟩ = some (.int .i64 (A i)) ∧ w.cell? ⟨b, off + i * 3 + 1, none⟩ = some (.int .i64 (B i)) ∧ w.cell? ⟨b, off + i * 3 + 2, none⟩ = some (.int .i64 (I i))

theorem WRow.at {w : World} {a : Option Addr} {len : Nat} {W : Nat → ByteArray} (h : WRow w a len W) {k : Nat} (hk : k < len) :
    ∃ b off, a = some ⟨b, off, none⟩ ∧ b < w.heap.size ∧ ∀ i, i < len → w.cell? ⟨b, off + i, none⟩ = some (.string (W i)) := by
  rcases h with rfl | h
  · omega
  · exact h
theorem MRow.at {w : World} {a : Option Addr} {len : Nat} {A B I : Nat → Int} (h : MRow w a len A B I) {k : Nat} (hk : k < len) :
    ∃ b off, a = some ⟨b, off, none⟩ ∧ b < w.heap.size ∧ ∀ i, i < len → w.cell? ⟨b, off + i * 3, none⟩ = some (.int .i64 (A i)) ∧ w.cell? ⟨b, off + i * 3 + 1, none⟩ = some (.int .i64 (B i)) ∧ w.cell? ⟨b, off + i * 3 + 2, none⟩ = some (.int .i64 (I i)) := by
  rcases h with rfl | h
  · omega
  · exact h

theorem cell_keep {w w' : World} {b : Nat} (h : w'.heap[b]? = w.heap[b]?) (o : Nat) : w'.cell? ⟨b, o, none⟩ = w.cell? ⟨b, o, none⟩ := World.cell?_of_block (a := ⟨b, o, none⟩) h

theorem WRow.keep {w w' : World} {a : Option Addr} {len : Nat} {W : Nat → ByteArray} (h : WRow w a len W) (hs : w.heap.size ≤ w'.heap.size) (hb : ∀ x, a = some x → x.block < w.heap.size → w'.heap[x.block]? = w.heap[x.block]?) : WRow w' a len W := by
  rcases h with h | ⟨b, off, rfl, hl, hc⟩
  · exact .inl h
  · exact .inr ⟨b, off, rfl, by omega, fun i hi => by rw [cell_keep (hb _ rfl hl)]; exact hc i hi⟩
theorem MRow.keep {w w' : World} {a : Option Addr} {len : Nat} {A B I : Nat → Int} (h : MRow w a len A B I) (hs : w.heap.size ≤ w'.heap.size) (hb : ∀ x, a = some x → x.block < w.heap.size → w'.heap[x.block]? = w.heap[x.block]?) : MRow w' a len A B I := by
  rcases h with h | ⟨b, off, rfl, hl, hc⟩
  · exact .inl h
  · exact .inr ⟨b, off, rfl, by omega, fun i hi => by simp only [cell_keep (hb _ rfl hl)]; exact hc i hi⟩
theorem SRow.keep {w w' : World} {a : Option Addr} {len : Nat} {L H : Nat → Int} (h : Row w a len L H) (hs : w.heap.size ≤ w'.heap.size) (hb : ∀ x, a = some x → x.block < w.heap.size → w'.heap[x.block]? = w.heap[x.block]?) : Row w' a len L H := by
  rcases h with h | ⟨b, off, rfl, hl, hc⟩
  · exact .inl h
  · exact .inr ⟨b, off, rfl, by omega, fun i hi => by simp only [cell_keep (hb _ rfl hl)]; exact hc i hi⟩

/-- Where data's lists lie. -/
structure Pl where
  a0 : Option Addr
  c0 : Nat
  a1 : Option Addr
  c1 : Nat
  a2 : Option Addr
  c2 : Nat
  a3 : Option Addr
  c3 : Nat
  a4 : Option Addr
  c4 : Nat

/-- A block is one of the lists'. -/
def Pl.has (p : Pl) (b : Nat) : Prop := (∃ x, p.a0 = some x ∧ x.block = b) ∨ (∃ x, p.a1 = some x ∧ x.block = b) ∨ (∃ x, p.a2 = some x ∧ x.block = b) ∨ (∃ x, p.a3 = some x ∧ x.block = b) ∨ ∃ x, p.a4 = some x ∧ x.block = b

/-- Data as they lie in memory. -/
structure At (w : World) (D : Dt) (p : Pl) : Prop where
  rw : WRow w p.a0 D.nw D.W
  rm : MRow w p.a1 D.nm D.A D.B D.I
  l0 : Row w p.a2 D.n0 D.L0 D.H0
  l1 : Row w p.a3 D.n1 D.L1 D.H1
  l2 : Row w p.a4 D.n2 D.L2 D.H2
  bw : D.nw ≤ 35184372088832
  bm : D.nm ≤ 35184372088832
  b0 : D.n0 ≤ 17592186044416
  b1 : D.n1 ≤ 17592186044416
  b2 : D.n2 ≤ 17592186044416
  cw : D.nw ≤ p.c0
  cm : D.nm ≤ p.c1
  cl0 : D.n0 ≤ p.c2
  cl1 : D.n1 ≤ p.c3
  cl2 : D.n2 ≤ p.c4
  rng : ∀ i, i < D.nm → (-9223372036854775808 ≤ D.A i ∧ D.A i ≤ 9223372036854775807) ∧ (-9223372036854775808 ≤ D.B i ∧ D.B i ≤ 9223372036854775807) ∧ (-9223372036854775808 ≤ D.I i ∧ D.I i ≤ 9223372036854775807)
  sz : ∀ i, i < D.nw → (D.W i).size ≤ 140737488355328

theorem At.keep {w w' : World} {D : Dt} {p : Pl} (h : At w D p) (hs : w.heap.size ≤ w'.heap.size) (hb : ∀ b, p.has b → b < w.heap.size → w'.heap[b]? = w.heap[b]?) : At w' D p :=
  ⟨h.rw.keep hs (fun x hx hl => hb _ (.inl ⟨x, hx, rfl⟩) hl), h.rm.keep hs (fun x hx hl => hb _ (.inr (.inl ⟨x, hx, rfl⟩)) hl), SRow.keep h.l0 hs (fun x hx hl => hb _ (.inr (.inr (.inl ⟨x, hx, rfl⟩))) hl),
    SRow.keep h.l1 hs (fun x hx hl => hb _ (.inr (.inr (.inr (.inl ⟨x, hx, rfl⟩)))) hl), SRow.keep h.l2 hs (fun x hx hl => hb _ (.inr (.inr (.inr (.inr ⟨x, hx, rfl⟩)))) hl), h.bw, h.bm, h.b0, h.b1, h.b2, h.cw, h.cm, h.cl0, h.cl1, h.cl2, h.rng, h.sz⟩
theorem At.below {w w' : World} {D : Dt} {p : Pl} (h : At w D p) (hb : Below w.heap.size w w') : At w' D p := h.keep hb.size (fun b _ hl => hb.block b hl)
theorem At.upd {S : Nat → Prop} {w w' : World} {D : Dt} {p : Pl} (h : At w D p) (hu : Upd S w w') (hn : ∀ b, p.has b → ¬ S b) : At w' D p := h.keep hu.size (fun b hp hl => hu.block b hl (hn b hp))

/-! ### What chapter 5 says is wrong -/
/-- The first of n places from i on where p is not 0, and what it is there. -/
def fb (p : Nat → Int) : Nat → Nat → Int × Int
  | 0, _ => (0, 0)
  | n + 1, i => if p i = 0 then fb p n (i + 1) else (i, p i)
theorem fb_stop {p : Nat → Int} {len k : Nat} {R : Int × Int} (h : fb p (len - k) k = R) (hlt : k < len) {e : Int} (hb : p k = e) (he : e ≠ 0) : R = ((k : Int), e) := by
  rw [← h, show len - k = (len - k - 1) + 1 by omega]
  simp [fb, hb, he]
theorem fb_on {p : Nat → Int} {len k : Nat} {R : Int × Int} (h : fb p (len - k) k = R) (hlt : k < len) (hb : p k = 0) : fb p (len - (k + 1)) (k + 1) = R := by
  rw [← h, show len - k = (len - (k + 1)) + 1 by omega]
  simp [fb, hb]
theorem fb_end {p : Nat → Int} {len : Nat} {R : Int × Int} (h : fb p (len - len) len = R) : R = (0, 0) := by
  rw [← h, Nat.sub_self]; rfl
theorem fb_zero {p : Nat → Int} : ∀ (n i : Nat), (fb p n i).2 = 0 → ∀ k, i ≤ k → k < i + n → p k = 0
  | 0, i, _, k, h1, h2 => by omega
  | n + 1, i, h, k, h1, h2 => by
    simp only [fb] at h
    split at h
    · rename_i hb
      rcases Nat.eq_or_lt_of_le h1 with rfl | h3
      · exact hb
      · exact fb_zero n (i + 1) h k h3 (by omega)
    · rename_i hb
      exact absurd h hb

/-- What is wrong with word i. -/
def badW (D : Dt) (i : Nat) : Int := if ¬ (2 ≤ (D.W i).size ∧ (D.W i).size ≤ 256) then 21 else if ∃ j, j < i ∧ D.W j = D.W i then 22 else 0

/-- An id is a byte's or one of the first n merges'. -/
def Made (D : Dt) (n : Nat) (id : Int) : Prop := (0 ≤ id ∧ id < 256) ∨ (256 ≤ id ∧ ∃ j, j < n ∧ D.I j = id)
instance (D : Dt) (n : Nat) (id : Int) : Decidable (Made D n id) := by unfold Made; infer_instance

/-- The bytes of an id. -/
def word (D : Dt) (id : Int) : ByteArray := if 0 ≤ id ∧ id < 256 then ⟨#[UInt8.ofNat id.toNat]⟩ else if 256 ≤ id ∧ id - 256 < D.nw then D.W (id - 256).toNat else ByteArray.empty
/-- An id is known. -/
def isId (D : Dt) (id : Int) : Prop := 0 ≤ id ∧ id < 256 + D.nw
instance (D : Dt) (id : Int) : Decidable (isId D id) := by unfold isId; infer_instance

/-- What is wrong with merge i. -/
def badM (D : Dt) (i : Nat) : Int :=
  if D.I i < 256 ∨ 256 + (D.nw : Int) ≤ D.I i ∨ ∃ j, j < i ∧ D.I j = D.I i then 24
  else if ¬ (Made D i (D.A i) ∧ Made D i (D.B i)) then 23
  else if D.W (D.I i - 256).toNat ≠ word D (D.A i) ++ word D (D.B i) then 25
  else if ∃ j, j < i ∧ D.A j = D.A i ∧ D.B j = D.B i then 22 else 0

/-- What is wrong with classes: why, list, row. -/
def chk4 (D : Dt) : Int × Int × Int :=
  if 512 < D.n0 then (4, 1, 512) else if 512 < D.n1 then (4, 2, 512) else if 512 < D.n2 then (4, 3, 512)
  else if (rt D.L0 D.H0 D.n0 0).2 ≠ 0 then ((rt D.L0 D.H0 D.n0 0).2, 1, (rt D.L0 D.H0 D.n0 0).1)
  else if (rt D.L1 D.H1 D.n1 0).2 ≠ 0 then ((rt D.L1 D.H1 D.n1 0).2, 2, (rt D.L1 D.H1 D.n1 0).1)
  else if (rt D.L2 D.H2 D.n2 0).2 ≠ 0 then ((rt D.L2 D.H2 D.n2 0).2, 3, (rt D.L2 D.H2 D.n2 0).1)
  else if (fr (hit D.L1 D.H1 D.L0 D.H0 D.n0) D.n1 0).2 = true then (16, 2, (fr (hit D.L1 D.H1 D.L0 D.H0 D.n0) D.n1 0).1)
  else if (fr (hit D.L2 D.H2 D.L0 D.H0 D.n0) D.n2 0).2 = true ∧ (fr (hit D.L2 D.H2 D.L1 D.H1 D.n1) D.n2 0).2 = true then (16, 3, min (fr (hit D.L2 D.H2 D.L0 D.H0 D.n0) D.n2 0).1 (fr (hit D.L2 D.H2 D.L1 D.H1 D.n1) D.n2 0).1)
  else if (fr (hit D.L2 D.H2 D.L0 D.H0 D.n0) D.n2 0).2 = true then (16, 3, (fr (hit D.L2 D.H2 D.L0 D.H0 D.n0) D.n2 0).1)
  else if (fr (hit D.L2 D.H2 D.L1 D.H1 D.n1) D.n2 0).2 = true then (16, 3, (fr (hit D.L2 D.H2 D.L1 D.H1 D.n1) D.n2 0).1)
  else if InD D.L2 D.H2 D.n2 32 = false ∨ InD D.L0 D.H0 D.n0 39 = true ∨ InD D.L1 D.H1 D.n1 39 = true ∨ InD D.L2 D.H2 D.n2 39 = true then (20, 3, 0) else (0, 0, 0)

/-- What is wrong with data: why, list, row. -/
def chk (D : Dt) : Int × Int × Int :=
  if 4096 < D.nm then (4, 5, 4096) else if D.nw ≠ D.nm then (4, 4, min D.nw D.nm)
  else if (chk4 D).1 ≠ 0 then chk4 D
  else if (fb (badW D) D.nw 0).2 ≠ 0 then ((fb (badW D) D.nw 0).2, 4, (fb (badW D) D.nw 0).1)
  else if (fb (badM D) D.nm 0).2 ≠ 0 then ((fb (badM D) D.nm 0).2, 5, (fb (badM D) D.nm 0).1)
  else (0, 0, 0)
end Go.Proofs.YtendkmldecoogaaDoor.Dt
