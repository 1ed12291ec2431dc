/-
  A model's data: as plain data, as they lie in memory, and what chapter 5 says is wrong with them. tesseraref5.made, Word, words.
-/
import Derived.Test.YtkjkgpdfhmoenaaDoorSpLists
import Derived.Lib.ConvBytes
import Derived.Laws.BytesArg
namespace Go.Proofs.YtkjkgpdfhmoenaaDoor.Dt
open Go Go.RowKit Go.Proofs.YtkjkgpdfhmoenaaDoor.Kit Go.Proofs.YtkjkgpdfhmoenaaDoor.SpFns Go.Proofs.YtkjkgpdfhmoenaaDoor.SpFind Go.Proofs.YtkjkgpdfhmoenaaDoor.SpSize Go.Proofs.YtkjkgpdfhmoenaaDoor.SpLists Go.Proofs.YtkjkgpdfhmoenaaDoor.SpRef

/-- A model as plain data. -/
structure Dt where
  nw : Nat
  W : Nat → ByteArray
  nm : Nat
  A : Nat → Int
  B : Nat → Int
  I : Nat → Int
  n0 : Nat
  L0 : Nat → Int
  H0 : Nat → Int
  n1 : Nat
  L1 : Nat → Int
  H1 : Nat → Int
  n2 : Nat
  L2 : Nat → Int
  H2 : Nat → Int

/-- Texts as they lie in memory. -/
def WRow (w : World) (a : Option Addr) (len : Nat) (W : Nat → ByteArray) : Prop :=
  len = 0 ∨ ∃ b off, a = some ⟨b, off, none⟩ ∧ b < w.heap.size ∧ ∀ i, i < len → w.cell? ⟨b, off + i, none⟩ = some (.string (W i))
/-- Merges as they lie in memory. -/
def MRow (w : World) (a : Option Addr) (len : Nat) (A B I : Nat → Int) : Prop :=
  len = 0 ∨ ∃ b off, a = some ⟨b, off, none⟩ ∧ b < w.heap.size ∧ ∀ i, i < len → w.cell? ⟨b, off + i * 3, none⟩ = some (.int .i64 (A i)) ∧ w.cell? ⟨b, off + i * 3 + 1, none⟩ = some (.int .i64 (B i)) ∧ w.cell? ⟨b, off + i * 3 + 2, none⟩ = some (.int .i64 (I i))

theorem WRow.at {w : World} {a : Option Addr} {len : Nat} {W : Nat → ByteArray} (h : WRow w a len W) {k : Nat} (hk : k < len) :
    ∃ b off, a = some ⟨b, off, none⟩ ∧ b < w.heap.size ∧ ∀ i, i < len → w.cell? ⟨b, off + i, none⟩ = some (.string (W i)) := by
  rcases h with rfl | h
  · omega
  · exact h
theorem MRow.at {w : World} {a : Option Addr} {len : Nat} {A B I : Nat → Int} (h : MRow w a len A B I) {k : Nat} (hk : k < len) :
    ∃ b off, a = some ⟨b, off, none⟩ ∧ b < w.heap.size ∧ ∀ i, i < len → w.cell? ⟨b, off + i * 3, none⟩ = some (.int .i64 (A i)) ∧ w.cell? ⟨b, off + i * 3 + 1, none⟩ = some (.int .i64 (B i)) ∧ w.cell? ⟨b, off + i * 3 + 2, none⟩ = some (.int .i64 (I i)) := by
  rcases h with rfl | h
  · omega
  · exact h

theorem cell_keep {w w' : World} {b : Nat} (h : w'.heap[b]? = w.heap[b]?) (o : Nat) : w'.cell? ⟨b, o, none⟩ = w.cell? ⟨b, o, none⟩ := World.cell?_of_block (a := ⟨b, o, none⟩) h

theorem WRow.keep {w w' : World} {a : Option Addr} {len : Nat} {W : Nat → ByteArray} (h : WRow w a len W) (hs : w.heap.size ≤ w'.heap.size) (hb : ∀ x, a = some x → x.block < w.heap.size → w'.heap[x.block]? = w.heap[x.block]?) : WRow w' a len W := by
  rcases h with h | ⟨b, off, rfl, hl, hc⟩
  · exact .inl h
  · exact .inr ⟨b, off, rfl, by omega, fun i hi => by rw [cell_keep (hb _ rfl hl)]; exact hc i hi⟩
theorem MRow.keep {w w' : World} {a : Option Addr} {len : Nat} {A B I : Nat → Int} (h : MRow w a len A B I) (hs : w.heap.size ≤ w'.heap.size) (hb : ∀ x, a = some x → x.block < w.heap.size → w'.heap[x.block]? = w.heap[x.block]?) : MRow w' a len A B I := by
  rcases h with h | ⟨b, off, rfl, hl, hc⟩
  · exact .inl h
  · exact .inr ⟨b, off, rfl, by omega, fun i hi => by simp only [cell_keep (hb _ rfl hl)]; exact hc i hi⟩
theorem SRow.keep {w w' : World} {a : Option Addr} {len : Nat} {L H : Nat → Int} (h : Row w a len L H) (hs : w.heap.size ≤ w'.heap.size) (hb : ∀ x, a = some x → x.block < w.heap.size → w'.heap[x.block]? = w.heap[x.block]?) : Row w' a len L H := by
  rcases h with h | ⟨b, off, rfl, hl, hc⟩
  · exact .inl h
  · exact .inr ⟨b, off, rfl, by omega, fun i hi => by simp only [cell_keep (hb _ rfl hl)]; exact hc i hi⟩

/-- Where data's lists lie. -/
structure Pl where
  a0 : Option Addr
  c0 : Nat
  a1 : Option Addr
  c1 : Nat
  a2 : Option Addr
  c2 : Nat
  a3 : Option Addr
  c3 : Nat
  a4 : Option Addr
  c4 : Nat

/-- A block is one of the lists'. -/
def Pl.has (p : Pl) (b : Nat) : Prop := (∃ x, p.a0 = some x ∧ x.block = b) ∨ (∃ x, p.a1 = some x ∧ x.block = b) ∨ (∃ x, p.a2 = some x ∧ x.block = b) ∨ (∃ x, p.a3 = some x ∧ x.block = b) ∨ ∃ x, p.a4 = some x ∧ x.block = b

/-- Data as they lie in memory. -/
structure At (w : World) (D : Dt) (p : Pl) : Prop where
  rw : WRow w p.a0 D.nw D.W
  rm : MRow w p.a1 D.nm D.A D.B D.I
  l0 : Row w p.a2 D.n0 D.L0 D.H0
  l1 : Row w p.a3 D.n1 D.L1 D.H1
  l2 : Row w p.a4 D.n2 D.L2 D.H2
  bw : D.nw ≤ 35184372088832
  bm : D.nm ≤ 35184372088832
  b0 : D.n0 ≤ 17592186044416
  b1 : D.n1 ≤ 17592186044416
  b2 : D.n2 ≤ 17592186044416
  cw : D.nw ≤ p.c0
  cm : D.nm ≤ p.c1
  cl0 : D.n0 ≤ p.c2
  cl1 : D.n1 ≤ p.c3
  cl2 : D.n2 ≤ p.c4
  rng : ∀ i, i < D.nm → (-9223372036854775808 ≤ D.A i ∧ D.A i ≤ 9223372036854775807) ∧ (-9223372036854775808 ≤ D.B i ∧ D.B i ≤ 9223372036854775807) ∧ (-9223372036854775808 ≤ D.I i ∧ D.I i ≤ 9223372036854775807)
  sz : ∀ i, i < D.nw → (D.W i).size ≤ 140737488355328

theorem At.keep {w w' : World} {D : Dt} {p : Pl} (h : At w D p) (hs : w.heap.size ≤ w'.heap.size) (hb : ∀ b, p.has b → b < w.heap.size → w'.heap[b]? = w.heap[b]?) : At w' D p :=
  ⟨h.rw.keep hs (fun x hx hl => hb _ (.inl ⟨x, hx, rfl⟩) hl), h.rm.keep hs (fun x hx hl => hb _ (.inr (.inl ⟨x, hx, rfl⟩)) hl), SRow.keep h.l0 hs (fun x hx hl => hb _ (.inr (.inr (.inl ⟨x, hx, rfl⟩))) hl),
    SRow.keep h.l1 hs (fun x hx hl => hb _ (.inr (.inr (.inr (.inl ⟨x, hx, rfl⟩)))) hl), SRow.keep h.l2 hs (fun x hx hl => hb _ (.inr (.inr (.inr (.inr ⟨x, hx, rfl⟩)))) hl), h.bw, h.bm, h.b0, h.b1, h.b2, h.cw, h.cm, h.cl0, h.cl1, h.cl2, h.rng, h.sz⟩
theorem At.below {w w' : World} {D : Dt} {p : Pl} (h : At w D p) (hb : Below w.heap.size w w') : At w' D p := h.keep hb.size (fun b _ hl => hb.block b hl)
theorem At.upd {S : Nat → Prop} {w w' : World} {D : Dt} {p : Pl} (h : At w D p) (hu : Upd S w w') (hn : ∀ b, p.has b → ¬ S b) : At w' D p := h.keep hu.size (fun b hp hl => hu.block b hl (hn b hp))

/-! ### What chapter 5 says is wrong -/
/-- The first of n places from i on where p is not 0, and what it is there. -/
def fb (p : Nat → Int) : Nat → Nat → Int × Int
  | 0, _ => (0, 0)
  | n + 1, i => if p i = 0 then fb p n (i + 1) else (i, p i)
theorem fb_stop {p : Nat → Int} {len k : Nat} {R : Int × Int} (h : fb p (len - k) k = R) (hlt : k < len) {e : Int} (hb : p k = e) (he : e ≠ 0) : R = ((k : Int), e) := by
  rw [← h, show len - k = (len - k - 1) + 1 by omega]
  simp [fb, hb, he]
theorem fb_on {p : Nat → Int} {len k : Nat} {R : Int × Int} (h : fb p (len - k) k = R) (hlt : k < len) (hb : p k = 0) : fb p (len - (k + 1)) (k + 1) = R := by
  rw [← h, show len - k = (len - (k + 1)) + 1 by omega]
  simp [fb, hb]
theorem fb_end {p : Nat → Int} {len : Nat} {R : Int × Int} (h : fb p (len - len) len = R) : R = (0, 0) := by
  rw [← h, Nat.sub_self]; rfl
theorem fb_zero {p : Nat → Int} : ∀ (n i : Nat), (fb p n i).2 = 0 → ∀ k, i ≤ k → k < i + n → p k = 0
  | 0, i, _, k, h1, h2 => by omega
  | n + 1, i, h, k, h1, h2 => by
    simp only [fb] at h
    split at h
    · rename_i hb
      rcases Nat.eq_or_lt_of_le h1 with rfl | h3
      · exact hb
      · exact fb_zero n (i + 1) h k h3 (by omega)
    · rename_i hb
      exact absurd h hb

/-- What is wrong with word i. -/
def badW (D : Dt) (i : Nat) : Int := if ¬ (2 ≤ (D.W i).size ∧ (D.W i).size ≤ 256) then 21 else if ∃ j, j < i ∧ D.W j = D.W i then 22 else 0

/-- An id is a byte's or one of the first n merges'. -/
def Made (D : Dt) (n : Nat) (id : Int) : Prop := (0 ≤ id ∧ id < 256) ∨ (256 ≤ id ∧ ∃ j, j < n ∧ D.I j = id)
instance (D : Dt) (n : Nat) (id : Int) : Decidable (Made D n id) := by unfold Made; infer_instance

/-- The bytes of an id. -/
def word (D : Dt) (id : Int) : ByteArray := if 0 ≤ id ∧ id < 256 then ⟨#[UInt8.ofNat id.toNat]⟩ else if 256 ≤ id ∧ id - 256 < D.nw then D.W (id - 256).toNat else ByteArray.empty
/-- An id is known. -/
def isId (D : Dt) (id : Int) : Prop := 0 ≤ id ∧ id < 256 + D.nw
instance (D : Dt) (id : Int) : Decidable (isId D id) := by unfold isId; infer_instance

/-- What is wrong with merge i. -/
def badM (D : Dt) (i : Nat) : Int :=
  if D.I i < 256 ∨ 256 + (D.nw : Int) ≤ D.I i ∨ ∃ j, j < i ∧ D.I j = D.I i then 24
  else if ¬ (Made D i (D.A i) ∧ Made D i (D.B i)) then 23
  else if D.W (D.I i - 256).toNat ≠ word D (D.A i) ++ word D (D.B i) then 25
  else if ∃ j, j < i ∧ D.A j = D.A i ∧ D.B j = D.B i then 22 else 0

/-- What is wrong with classes: why, list, row. -/
def chk4 (D : Dt) : Int × Int × Int :=
  if 512 < D.n0 then (4, 1, 512) else if 512 < D.n1 then (4, 2, 512) else if 512 < D.n2 then (4, 3, 512)
  else if (rt D.L0 D.H0 D.n0 0).2 ≠ 0 then ((rt D.L0 D.H0 D.n0 0).2, 1, (rt D.L0 D.H0 D.n0 0).1)
  else if (rt D.L1 D.H1 D.n1 0).2 ≠ 0 then ((rt D.L1 D.H1 D.n1 0).2, 2, (rt D.L1 D.H1 D.n1 0).1)
  else if (rt D.L2 D.H2 D.n2 0).2 ≠ 0 then ((rt D.L2 D.H2 D.n2 0).2, 3, (rt D.L2 D.H2 D.n2 0).1)
  else if (fr (hit D.L1 D.H1 D.L0 D.H0 D.n0) D.n1 0).2 = true then (16, 2, (fr (hit D.L1 D.H1 D.L0 D.H0 D.n0) D.n1 0).1)
  else if (fr (hit D.L2 D.H2 D.L0 D.H0 D.n0) D.n2 0).2 = true ∧ (fr (hit D.L2 D.H2 D.L1 D.H1 D.n1) D.n2 0).2 = true then (16, 3, min (fr (hit D.L2 D.H2 D.L0 D.H0 D.n0) D.n2 0).1 (fr (hit D.L2 D.H2 D.L1 D.H1 D.n1) D.n2 0).1)
  else if (fr (hit D.L2 D.H2 D.L0 D.H0 D.n0) D.n2 0).2 = true then (16, 3, (fr (hit D.L2 D.H2 D.L0 D.H0 D.n0) D.n2 0).1)
  else if (fr (hit D.L2 D.H2 D.L1 D.H1 D.n1) D.n2 0).2 = true then (16, 3, (fr (hit D.L2 D.H2 D.L1 D.H1 D.n1) D.n2 0).1)
  else if InD D.L2 D.H2 D.n2 32 = false ∨ InD D.L0 D.H0 D.n0 39 = true ∨ InD D.L1 D.H1 D.n1 39 = true ∨ InD D.L2 D.H2 D.n2 39 = true then (20, 3, 0) else (0, 0, 0)

/-- What is wrong with data: why, list, row. -/
def chk (D : Dt) : Int × Int × Int :=
  if 4096 < D.nm then (4, 5, 4096) else if D.nw ≠ D.nm then (4, 4, min D.nw D.nm)
  else if (chk4 D).1 ≠ 0 then chk4 D
  else if (fb (badW D) D.nw 0).2 ≠ 0 then ((fb (badW D) D.nw 0).2, 4, (fb (badW D) D.nw 0).1)
  else if (fb (badM D) D.nm 0).2 ≠ 0 then ((fb (badM D) D.nm 0).2, 5, (fb (badM D) D.nm 0).1)
  else (0, 0, 0)
end Go.Proofs.YtkjkgpdfhmoenaaDoor.Dt
namespace Go.Proofs.YtkjkgpdfhmoenaaDoor.Ref5a
open Go Go.RowKit Go.Proofs.YtkjkgpdfhmoenaaDoor.Kit Go.Proofs.YtkjkgpdfhmoenaaDoor.SpFns Go.Proofs.YtkjkgpdfhmoenaaDoor.Dt
attribute [local irreducible] wpQuiet

/-- What a walk asks of boxed data. -/
theorem boxed {w W1 : World} {D : Dt} {p : Pl} (h : At w D p) (hW : w.alloc (.cells #[.slice p.a0 D.nw p.c0, .slice p.a1 D.nm p.c1, .slice p.a2 D.n0 p.c2, .slice p.a3 D.n1 p.c3, .slice p.a4 D.n2 p.c4] 26) = W1) :
    Below w.heap.size w W1 ∧ (W1.heap[w.heap.size]? = some (.cells #[.slice p.a0 D.nw p.c0, .slice p.a1 D.nm p.c1, .slice p.a2 D.n0 p.c2, .slice p.a3 D.n1 p.c3, .slice p.a4 D.n2 p.c4] 26 (0, 0))) ∧ At W1 D p := by
  have hb : Below w.heap.size w W1 := by rw [← hW]; exact (Below.refl _ _).alloc (Nat.le_refl _) _
  exact ⟨hb, by rw [← hW]; exact alloc_new rfl, h.below hb⟩

theorem made_no {D : Dt} {n : Nat} {id : Int} (h1 : ¬ (0 ≤ id ∧ id < 256)) (h : ∀ j, j < n → D.I j ≠ id) : false = decide (Made D n id) :=
  (decide_eq_false (fun h2 => h2.elim h1 (fun ⟨_, j, hj, h3⟩ => h j hj h3))).symm
theorem made_hit {D : Dt} {n j : Nat} {id : Int} (h1 : ¬ (0 ≤ id ∧ id < 256)) (hj : j < n) (h : D.I j = id) : decide (256 ≤ id) = decide (Made D n id) :=
  decide_eq_decide.2 ⟨fun h2 => .inr ⟨h2, j, hj, h⟩, fun h2 => h2.elim (fun h3 => absurd h3 h1) (fun h3 => h3.1)⟩

set_option maxRecDepth 100000 in
theorem made_calls (D : Dt) (p : Pl) (n : Nat) (id : Int) (w : World) (h : At w D p) (hn : n ≤ D.nm) :
    Calls Tryd.prog 92 #[.agg #[.slice p.a0 D.nw p.c0, .slice p.a1 D.nm p.c1, .slice p.a2 D.n0 p.c2, .slice p.a3 D.n1 p.c3, .slice p.a4 D.n2 p.c4], .int .i64 n, .int .i64 id] w fun e w' => e = .returned (.bool (decide (Made D n id))) ∧ Below w.heap.size w w' := by
  have H := Lib.hid h
  have hbm := h.bm
  clear h
  by_cases hs : 0 ≤ id ∧ id < 256
  · obtain ⟨h0, h1⟩ := hs
    have hm : true = decide (Made D n id) := (decide_eq_true (.inl ⟨h0, h1⟩)).symm
    have HM := Lib.hid hm
    clear hm
    go_enter Tryd.func92, Tryd.ntmps92
    go_wp2
    go_ret
    exact ⟨ret_bool HM.out, (Below.refl _ _).alloc (Nat.le_refl _) _⟩
  · have HS := Lib.hid hs
    have hs2 : id < 0 ∨ 256 ≤ id := by omega
    clear hs
    obtain ⟨W1, hW⟩ : ∃ W1, w.alloc (.cells #[.slice p.a0 D.nw p.c0, .slice p.a1 D.nm p.c1, .slice p.a2 D.n0 p.c2, .slice p.a3 D.n1 p.c3, .slice p.a4 D.n2 p.c4] 26) = W1 := ⟨_, rfl⟩
    obtain ⟨hb1, hx1, ha1⟩ := boxed H.out hW
    have HA1 := Lib.hid ha1
    have HB1 := Lib.hid hb1
    have b1 := cell_at hx1 1
    have zx := lt_of_heap hx1
    simp only [List.getElem?_toArray, List.getElem?_cons_zero, List.getElem?_cons_succ] at b1
    clear hb1 hx1 ha1
    rcases hs2 with hs2 | hs2
    all_goals
      go_enter Tryd.func92, Tryd.ntmps92
      go_wp2_with fail
      go_loopg [7] n (fun g s7 wr => ∃ k : Nat, k ≤ n ∧ g = n - k ∧ s7 = .int .i64 k ∧ W1 = wr ∧ ∀ j, j < k → D.I j ≠ id)
      case atStart => exact ⟨0, Nat.zero_le _, by omega, rfl, rfl, fun j hj => by omega⟩
      case round =>
        obtain ⟨k, hk, hg, rfl, rfl, hno⟩ := hrel
        have HG := Lib.hid hg
        have HNO := Lib.hid hno
        clear hg hno
        by_cases hlt : k < n
        · obtain ⟨b, off, hpa, hbl, hc⟩ := HA1.out.rm.at (show k < D.nm by omega)
          have c2 := (hc k (by omega)).2.2
          have hi : (k : Int) < D.nm := by omega
          have hi2 : k < D.nm := by omega
          obtain ⟨v, hv⟩ : ∃ v, v = D.I k := ⟨_, rfl⟩
          rw [← hv] at c2
          have HV := Lib.hid hv
          have b1' := b1
          rw [hpa] at b1'
          clear hc hv hpa
          by_cases hvi : v = id
          · have HM := Lib.hid (made_hit HS.out hlt (HV.out.symm.trans hvi))
            have e1 : (v == id) = true := by simpa using hvi
            clear hvi b1
            go_wp2
            go_ret
            exact ⟨ret_bool (Eq.trans (by first | rfl | exact (decide_eq_true (by omega)).symm | exact (decide_eq_false (by omega)).symm) HM.out), HB1.out⟩
          · have e1 : (v == id) = false := by simpa using hvi
            have HN2 := Lib.hid hvi
            clear hvi b1
            go_wp2
            go_roundg (n - (k + 1))
            case measure => have := HG.out; omega
            case rel =>
              refine ⟨k + 1, by omega, rfl, by go_num, rfl, fun j hj => ?_⟩
              rcases Nat.lt_or_ge j k with h | h
              · exact HNO.out j h
              · have : j = k := by omega
                subst this
                rw [← HV.out]
                exact HN2.out
        · have hkn : k = n := by omega
          subst hkn
          go_wp2
          go_ret
          exact ⟨ret_bool (made_no HS.out HNO.out), HB1.out⟩

/-- A byte as a text. -/
def byteS (n : Int) : ByteArray := ⟨#[UInt8.ofNat n.toNat]⟩

theorem word_byte {D : Dt} {id : Int} (h0 : 0 ≤ id) (h1 : id < 256) : word D id = byteS id := by unfold word; rw [if_pos ⟨h0, h1⟩]; rfl
theorem word_list {D : Dt} {id : Int} (h0 : 256 ≤ id) (h1 : id - 256 < D.nw) : word D id = D.W (id - 256).toNat := by unfold word; rw [if_neg (by omega), if_pos ⟨h0, h1⟩]
theorem word_none {D : Dt} {id : Int} (h : id < 0 ∨ 256 + (D.nw : Int) ≤ id) : word D id = ByteArray.empty := by unfold word; rw [if_neg (by omega), if_neg (by omega)]

theorem u8w {n : Int} (h0 : 0 ≤ n) (h1 : n < 256) : IntKind.u8.wrap n = n := by
  simp [IntKind.wrap, IntKind.bits, IntKind.signed]
  omega

/-- A byte that was just laid, as a text. -/
theorem byte_text (W : World) (n : Int) : (convert 96 9 (.slice (some ⟨W.heap.size, 0, none⟩) 1 1)).run Tryd.prog (W.alloc (.cells #[.int .u8 n] 5)) = .ok (.string (byteS n)) (W.alloc (.cells #[.int .u8 n] 5)) := by
  have := run_convert_bytes_arg (P := Tryd.prog) (W.alloc (.cells #[.int .u8 n] 5)) 96 5 Tryd.underlying96 Tryd.underlying5 W.heap.size 0 1 1 [n] rfl (fun i hi => by
    have : i = 0 := by omega
    subst this
    rw [cell_at (alloc_new rfl)]; rfl) 9 Tryd.underlying9
  exact this

set_option maxRecDepth 100000 in
theorem Word_calls (D : Dt) (p : Pl) (id : Int) (w : World) (h : At w D p) (hid : -9223372036854775808 ≤ id ∧ id ≤ 9223372036854775807) :
    Calls Tryd.prog 93 #[.agg #[.slice p.a0 D.nw p.c0, .slice p.a1 D.nm p.c1, .slice p.a2 D.n0 p.c2, .slice p.a3 D.n1 p.c3, .slice p.a4 D.n2 p.c4], .int .i64 id] w fun e w' => e = .returned (.tuple #[.string (word D id), .bool (decide (isId D id))]) ∧ Below w.heap.size w w' := by
  have H := Lib.hid h
  have hbw := h.bw
  clear h
  by_cases hs : 0 ≤ id ∧ id < 256
  · obtain ⟨h0, h1⟩ := hs
    have HM := Lib.hid (word_byte (D := D) h0 h1)
    have HI := Lib.hid (decide_eq_true ⟨h0, by omega⟩ : decide (isId D id) = true)
    obtain ⟨W1, hW⟩ : ∃ W1, w.alloc (.cells #[.slice p.a0 D.nw p.c0, .slice p.a1 D.nm p.c1, .slice p.a2 D.n0 p.c2, .slice p.a3 D.n1 p.c3, .slice p.a4 D.n2 p.c4] 26) = W1 := ⟨_, rfl⟩
    obtain ⟨hb1, hx1, _⟩ := boxed H.out hW
    have HB1 := Lib.hid hb1
    have hcv := byte_text W1 id
    have hw : IntKind.u8.wrap id = id := u8w h0 h1
    clear hb1 hx1
    go_enter Tryd.func93, Tryd.ntmps93
    go_wp2
    go_ret2
    rw [HM.out, HI.out]
    exact ⟨rfl, HB1.out.alloc HB1.out.size _⟩
  · have hs2 : id < 0 ∨ 256 + (D.nw : Int) ≤ id ∨ (256 ≤ id ∧ id - 256 < D.nw) := by omega
    clear hs
    obtain ⟨W1, hW⟩ : ∃ W1, w.alloc (.cells #[.slice p.a0 D.nw p.c0, .slice p.a1 D.nm p.c1, .slice p.a2 D.n0 p.c2, .slice p.a3 D.n1 p.c3, .slice p.a4 D.n2 p.c4] 26) = W1 := ⟨_, rfl⟩
    obtain ⟨hb1, hx1, ha1⟩ := boxed H.out hW
    have HB1 := Lib.hid hb1
    have HA1 := Lib.hid ha1
    have b0 := cell_at hx1 0
    have zx := lt_of_heap hx1
    simp only [List.getElem?_toArray, List.getElem?_cons_zero] at b0
    clear hb1 hx1 ha1
    rcases hs2 with hs2 | hs2 | ⟨h0, h1⟩
    · have HM := Lib.hid (word_none (D := D) (.inl hs2))
      have HI := Lib.hid (decide_eq_false (fun h => by have := h.1; omega) : decide (isId D id) = false)
      go_enter Tryd.func93, Tryd.ntmps93
      go_wp2
      go_ret2
      rw [HM.out, HI.out]
      exact ⟨rfl, HB1.out⟩
    · have HM := Lib.hid (word_none (D := D) (.inr hs2))
      have HI := Lib.hid (decide_eq_false (fun h => by have := h.2; omega) : decide (isId D id) = false)
      have hw : IntKind.i64.wrap (id - 256) = id - 256 := i64w _ (by omega) (by omega)
      have hs3 : ¬ (id - 256 < (D.nw : Int)) := by omega
      go_enter Tryd.func93, Tryd.ntmps93
      go_wp2
      go_ret2
      rw [HM.out, HI.out]
      exact ⟨rfl, HB1.out⟩
    · have HM := Lib.hid (word_list h0 h1)
      have HI := Lib.hid (decide_eq_true ⟨by omega, by omega⟩ : decide (isId D id) = true)
      obtain ⟨k, hk⟩ : ∃ k : Nat, id = 256 + k := ⟨(id - 256).toNat, by omega⟩
      have hkn : k < D.nw := by omega
      have hki : (k : Int) < D.nw := by omega
      obtain ⟨b, off, hpa, hbl, hc⟩ := HA1.out.rw.at hkn
      have c0 := hc k hkn
      rw [hpa] at b0
      have hwk : (id - 256).toNat = k := by omega
      rw [hwk] at HM
      have hw : IntKind.i64.wrap (id - 256) = k := by rw [i64w _ (by omega) (by omega)]; omega
      clear hc hk hwk hpa h1
      go_enter Tryd.func93, Tryd.ntmps93
      go_wp2
      go_ret2
      rw [HM.out, HI.out]
      exact ⟨rfl, HB1.out⟩
end Go.Proofs.YtkjkgpdfhmoenaaDoor.Ref5a
