/-
  Maps in memory, raw: what a lookup, a store, a delete and len do to a block that holds the entries of a list of keys and values. Maps whose keys are texts. Maps whose keys are two numbers in an array. A drawn region some of whose operations may come up in any order: by a property that each of them keeps.
-/
import Derived.WalkKit
import Derived.WalkLawsBesides
import Derived.MapKept
import Derived.WideLaws
import Derived.Test.YtkjkgpdfhmoenaaDoorProg
import Derived.Test.YtkjkgpdfhmoenaaDoorKit
import Derived.ChangeKeysEq
namespace Go.Proofs.YtkjkgpdfhmoenaaDoor.Maps
open Go Go.RowKit

section
variable {α : Type} [DecidableEq α]

/-- The entries of a list of keys, values and times of birth. -/
def ents (enc : α → Value) (l : List (α × Value × Nat)) : Array MapEntry := (l.map fun e => (⟨enc e.1, e.2.1, e.2.2⟩ : MapEntry)).toArray

/-- The first entry of a key: its place and its value. -/
def lk (k : α) : List (α × Value × Nat) → Nat → Option (Nat × Value)
  | [], _ => none
  | e :: l, i => if k = e.1 then some (i, e.2.1) else lk k l (i + 1)

theorem eraseIdx_of_map {β γ : Type} (f : β → γ) (l : List β) (i : Nat) : (l.map f).eraseIdx i = (l.eraseIdx i).map f := by
  induction l generalizing i with
  | nil => simp
  | cons e l ih => cases i <;> simp [ih]

theorem run_setObj' {P : Program} {w : World} {r : Nat} {es : Array MapEntry} {c : Nat} (o : Obj) (hb : w.heap[r]? = some (.map es c)) : (setObj r o).run P w = .ok () { w with heap := w.heap.setIfInBounds r o } := by
  simp [setObj, Sem.run, hb]

theorem beq_bytes (a b : ByteArray) : (a == b) = decide (a = b) := by
  rw [beq_toListBytes]
  by_cases h : a = b
  · subst h; simp
  · rw [decide_eq_false h]
    have : ¬ a.toList = b.toList := fun h' => h (by
      rw [ByteArray.toList_eq, ByteArray.toList_eq] at h'
      exact ByteArray.ext (Array.toList_inj.1 h'))
    simpa using this

/-- The keys of type K are such ones, encoded so. -/
structure KeyLaw (P : Program) (K : TypeId) (enc : α → Value) : Prop where
  check : ∀ (e : Bool) (a : α) (w : World), (Instr.checkKey e 10000 K (enc a)).run P w = .ok () w
  find : ∀ (k : α) (l : List (α × Value × Nat)) (w : World), (Instr.findKey K (enc k) (l.map fun e => (⟨enc e.1, e.2.1, e.2.2⟩ : MapEntry))).run P w = .ok (lk k l 0) w
  bits : ∀ (k : α), Instr.sameBits 10000 (enc k) (enc k) = true

variable {P : Program} {K V T : TypeId} {enc : α → Value} (L : KeyLaw P K enc) (hT : P.underlying T = some (.map K V))
include L hT

theorem run_lookup2 (w : World) (b : Nat) (l : List (α × Value × Nat)) (c : Nat) (k : α) (z : Value) (hb : w.heap[b]? = some (.map (ents enc l) c)) (hz : ∀ w, (zeroValue V).run P w = .ok z w) :
    (Instr.lookup T (.map (some b)) (enc k) true).run P w = .ok (.tuple #[((lk k l 0).map (·.2)).getD z, .bool (lk k l 0).isSome]) w := by
  have hf := L.find k l w
  have he : (ents enc l).toList = l.map fun e => (⟨enc e.1, e.2.1, e.2.2⟩ : MapEntry) := by simp [ents]
  unfold Instr.lookup
  simp only [Sem.run_bind, run_underlying hT, Result.andThen, run_getObj_map w b _ c hb, Sem.run_pure, L.check, he, hf]
  cases lk k l 0 with
  | none => simp [hz]
  | some x => simp

theorem run_update_new (w : World) (b : Nat) (l : List (α × Value × Nat)) (c : Nat) (k : α) (v : Value) (hb : w.heap[b]? = some (.map (ents enc l) c)) (hn : lk k l 0 = none) :
    (Instr.mapUpdate T (.map (some b)) (enc k) v).run P w = .ok () { w with heap := w.heap.setIfInBounds b (.map (ents enc (l ++ [(k, v, c)])) (c + 1)) } := by
  have hf := L.find k l w
  have he : (ents enc l).toList = l.map fun e => (⟨enc e.1, e.2.1, e.2.2⟩ : MapEntry) := by simp [ents]
  unfold Instr.mapUpdate
  simp only [Sem.run_bind, run_underlying hT, Result.andThen, run_getObj_map w b _ c hb, L.check, he, hf, hn]
  rw [run_setObj' _ hb]
  simp [ents]

theorem run_delete (w : World) (b : Nat) (l : List (α × Value × Nat)) (c : Nat) (k : α) (T2 ty : TypeId) (hb : w.heap[b]? = some (.map (ents enc l) c)) (i : Nat) (v : Value) (hs : lk k l 0 = some (i, v)) :
    (Builtin.delete_ #[T, T2] ty #[.map (some b), enc k]).run P w = .ok (.tuple #[]) { w with heap := w.heap.setIfInBounds b (.map (ents enc (l.eraseIdx i)) c) } := by
  have hf := L.find k l w
  have he : (ents enc l).toList = l.map fun e => (⟨enc e.1, e.2.1, e.2.2⟩ : MapEntry) := by simp [ents]
  unfold Builtin.delete_
  simp [run_underlying hT, Result.andThen, run_getObj_map w b _ c hb, L.check, hf, hs, run_setObj' _ hb, ents, eraseIdx_of_map]
end

theorem lk_go {α : Type} [DecidableEq α] (k : α) (l : List (α × Value × Nat)) (i : Nat) : lk k l i = (lk k l 0).map fun x => (x.1 + i, x.2) := by
  induction l generalizing i with
  | nil => rfl
  | cons e l ih =>
    simp only [lk]
    split
    · simp
    · rw [ih (i + 1), ih 1]
      cases lk k l 0 <;> simp; omega

theorem lk_some {α : Type} [DecidableEq α] {k : α} : ∀ {M : List (α × Value × Nat)} {i j : Nat} {v : Value}, lk k M i = some (j, v) → ∃ A e B, M = A ++ e :: B ∧ j = i + A.length ∧ e.1 = k ∧ e.2.1 = v
  | [], i, j, v, h => by cases h
  | e :: M, i, j, v, h => by
    unfold lk at h
    split at h
    · rename_i hk
      cases h
      exact ⟨[], e, M, rfl, rfl, hk.symm, rfl⟩
    · obtain ⟨A, e', B, rfl, h2, h3, h4⟩ := lk_some h
      exact ⟨e :: A, e', B, rfl, by simp; omega, h3, h4⟩
theorem lk_none {α : Type} [DecidableEq α] {k : α} : ∀ {M : List (α × Value × Nat)} {i : Nat}, lk k M i = none ↔ k ∉ M.map (·.1)
  | [], i => by simp [lk]
  | e :: M, i => by
    unfold lk
    split
    · rename_i hk
      simp [hk]
    · rename_i hk
      rw [lk_none]
      simp [hk]

/-- Two numbers, compared as a struct. -/
theorem two_equal {P : Program} {T : TypeId} (hf : P.underlying T = some (.struct (P.fieldsOf T))) (hp : P.stoodInHeld T = false) {f0 f1 : Field} (hl : (P.fieldsOf T).toList = [f0, f1])
    (p0 : ∀ (x y : Int) w, (part f0.type #[.int .i64 x, .int .i64 y] f0.offset).run P w = .ok (.int .i64 x) w) (p1 : ∀ (x y : Int) w, (part f1.type #[.int .i64 x, .int .i64 y] f1.offset).run P w = .ok (.int .i64 y) w)
    (n0 : f0.name ≠ "_") (n1 : f1.name ≠ "_") (u0 : P.underlying f0.type = some (.int .i64)) (u1 : P.underlying f1.type = some (.int .i64)) (a b : Int × Int) (w : World) :
    (Op.equal T (.agg #[.int .i64 a.1, .int .i64 a.2]) (.agg #[.int .i64 b.1, .int .i64 b.2])).run P w = .ok (decide (a = b)) w := by
  obtain ⟨a1, a2⟩ := a
  obtain ⟨b1, b2⟩ := b
  simp only
  have h1 := run_equalIn_struct (P := P) w 9999 T #[.int .i64 a1, .int .i64 a2] #[.int .i64 b1, .int .i64 b2] hf hp
  have e0 : ∀ (x y : Int) w, (Op.equalIn 9999 f0.type (.int .i64 x) (.int .i64 y)).run P w = .ok (x == y) w := fun x y w => run_equalIn_int w 9998 _ .i64 .i64 x y u0
  have e1 : ∀ (x y : Int) w, (Op.equalIn 9999 f1.type (.int .i64 x) (.int .i64 y)).run P w = .ok (x == y) w := fun x y w => run_equalIn_int w 9998 _ .i64 .i64 x y u1
  rw [show Op.equal T (.agg #[.int .i64 a1, .int .i64 a2]) (.agg #[.int .i64 b1, .int .i64 b2]) = Op.equalIn (9999 + 1) T (.agg #[.int .i64 a1, .int .i64 a2]) (.agg #[.int .i64 b1, .int .i64 b2]) from rfl, h1, hl]
  simp only [Op.eqFields, if_pos n0, if_pos n1, Sem.run_bind, p0, Result.andThen_ok, e0]
  by_cases h1 : a1 = b1 <;> by_cases h2 : a2 = b2 <;> simp [h1, h2, p1, e1]

/-- Keys that are strings. -/
theorem string_law {P : Program} {K : TypeId} (hK : P.underlying K = some .string) : KeyLaw P K (fun s : ByteArray => Value.string s) where
  check e a w := MapKept.run_checkKey hK (by trivial) e 9999
  find k l w := by
    have h : ∀ (l : List (ByteArray × Value × Nat)) (i : Nat), Instr.findNow .string (.string k) (l.map fun e => (⟨.string e.1, e.2.1, e.2.2⟩ : MapEntry)) i = some (lk k l i) := by
      intro l
      induction l with
      | nil => intro i; rfl
      | cons e l ih =>
        intro i
        simp only [List.map_cons, Instr.findNow, Instr.sameNow, lk]
        rw [beq_bytes]
        by_cases hk : k = e.1
        · simp [hk]
        · simp [hk, ih]
    unfold Instr.findKey
    simp [run_underlying hK, Result.andThen, h]
  bits k := by simp [Instr.sameBits, beq_bytes]

/-- Keys that are structs, compared by '=='. -/
theorem struct_law {P : Program} {K : TypeId} {α : Type} [DecidableEq α] {fs : Array Field} {enc : α → Array Value} (hK : P.underlying K = some (.struct fs))
    (hc : ∀ (e : Bool) (a : α) (w : World), (Instr.checkKey e 10000 K (.agg (enc a))).run P w = .ok () w)
    (he : ∀ (a b : α) (w : World), (Op.equal K (.agg (enc a)) (.agg (enc b))).run P w = .ok (decide (a = b)) w)
    (hb : ∀ (a : α), Instr.sameBits 10000 (.agg (enc a)) (.agg (enc a)) = true) : KeyLaw P K (fun a : α => Value.agg (enc a)) where
  check := hc
  find k l w := by
    have h : ∀ (l : List (α × Value × Nat)) (i : Nat), (Instr.findAsking K (.agg (enc k)) (l.map fun e => (⟨.agg (enc e.1), e.2.1, e.2.2⟩ : MapEntry)) i).run P w = .ok (lk k l i) w := by
      intro l
      induction l with
      | nil => intro i; rfl
      | cons e l ih =>
        intro i
        simp only [List.map_cons, Instr.findAsking, lk, Sem.run_bind, he, Result.andThen]
        by_cases hk : k = e.1
        · simp [hk]
        · simp [hk, ih]
    unfold Instr.findKey
    cases l with
    | nil => simp [run_underlying hK, Result.andThen, Instr.findNow, lk]
    | cons e l =>
      have hl := h (e :: l) 0
      simp only [List.map_cons] at hl ⊢
      simp [run_underlying hK, Result.andThen, Instr.findNow, Instr.sameNow, hl]
  bits := hb
end Go.Proofs.YtkjkgpdfhmoenaaDoor.Maps
namespace Go.Proofs.YtkjkgpdfhmoenaaDoor.MapStr
open Go Go.RowKit Go.Proofs.YtkjkgpdfhmoenaaDoor.Maps
/-- A key as a value. -/
def encK (k : ByteArray) : Value := .string k
theorem keyLaw : KeyLaw Tryd.prog 9 encK := string_law Tryd.underlying9
end Go.Proofs.YtkjkgpdfhmoenaaDoor.MapStr
namespace Go.Proofs.YtkjkgpdfhmoenaaDoor.MapArr
open Go Go.RowKit Go.Proofs.YtkjkgpdfhmoenaaDoor.Kit Go.Proofs.YtkjkgpdfhmoenaaDoor.Maps

/-- Keys that are arrays, compared by '=='. -/
theorem array_law {P : Program} {K e : TypeId} {n : Nat} {α : Type} [DecidableEq α] {enc : α → Array Value} (hK : P.underlying K = some (.array n e))
    (hc : ∀ (e : Bool) (a : α) (w : World), (Instr.checkKey e 10000 K (.agg (enc a))).run P w = .ok () w)
    (he : ∀ (a b : α) (w : World), (Op.equal K (.agg (enc a)) (.agg (enc b))).run P w = .ok (decide (a = b)) w)
    (hb : ∀ (a : α), Instr.sameBits 10000 (.agg (enc a)) (.agg (enc a)) = true) : KeyLaw P K (fun a : α => Value.agg (enc a)) where
  check := hc
  find k l w := by
    have h : ∀ (l : List (α × Value × Nat)) (i : Nat), (Instr.findAsking K (.agg (enc k)) (l.map fun e => (⟨.agg (enc e.1), e.2.1, e.2.2⟩ : MapEntry)) i).run P w = .ok (lk k l i) w := by
      intro l
      induction l with
      | nil => intro i; rfl
      | cons e l ih =>
        intro i
        simp only [List.map_cons, Instr.findAsking, lk, Sem.run_bind, he, Result.andThen]
        by_cases hk : k = e.1
        · simp [hk]
        · simp [hk, ih]
    unfold Instr.findKey
    cases l with
    | nil => simp [run_underlying hK, Result.andThen, Instr.findNow, lk]
    | cons e l =>
      have hl := h (e :: l) 0
      simp only [List.map_cons] at hl ⊢
      simp [run_underlying hK, Result.andThen, Instr.findNow, Instr.sameNow, hl]
  bits := hb

/-- Two numbers, compared as an array. -/
theorem pair_equal {P : Program} {T e : TypeId} {i : TypeInfo} (hu : P.underlying T = some (.array 2 e)) (hi : P.info? e = some i) (hc : P.cellsOf e = 1)
    (p0 : ∀ (a b : Int) w, (part e #[.int .i64 a, .int .i64 b] 0).run P w = .ok (.int .i64 a) w) (p1 : ∀ (a b : Int) w, (part e #[.int .i64 a, .int .i64 b] 1).run P w = .ok (.int .i64 b) w) (u : P.underlying e = some (.int .i64)) (a b : Int × Int) (w : World) :
    (Op.equal T (.agg #[.int .i64 a.1, .int .i64 a.2]) (.agg #[.int .i64 b.1, .int .i64 b.2])).run P w = .ok (decide (a = b)) w := by
  obtain ⟨a1, a2⟩ := a
  obtain ⟨b1, b2⟩ := b
  simp only
  have h1 := run_equalIn_array (P := P) (w := w) 9999 (t := T) #[.int .i64 a1, .int .i64 a2] #[.int .i64 b1, .int .i64 b2] hu hi
  have e0 : ∀ (x y : Int) w, (Op.equalIn 9999 e (.int .i64 x) (.int .i64 y)).run P w = .ok (x == y) w := fun x y w => run_equalIn_int w 9998 _ .i64 .i64 x y u
  rw [show Op.equal T (.agg #[.int .i64 a1, .int .i64 a2]) (.agg #[.int .i64 b1, .int .i64 b2]) = Op.equalIn (9999 + 1) T (.agg #[.int .i64 a1, .int .i64 a2]) (.agg #[.int .i64 b1, .int .i64 b2]) from rfl, h1, hc]
  rw [show List.range 2 = [0, 1] from rfl]
  simp only [Op.eqItems, Nat.mul_one, Sem.run_bind, p0, Result.andThen_ok, e0]
  by_cases h1 : a1 = b1 <;> by_cases h2 : a2 = b2 <;> simp [h1, h2, p1, e0]
def encP (k : Int × Int) : Value := .agg #[.int .i64 k.1, .int .i64 k.2]
set_option maxRecDepth 100000 in
theorem pairLaw : KeyLaw Tryd.prog 168 encP := by
  obtain ⟨i, hi⟩ : ∃ i, Tryd.prog.info? 3 = some i := ⟨_, rfl⟩
  refine array_law (enc := fun k : Int × Int => #[.int .i64 k.1, .int .i64 k.2]) Tryd.underlying168 (fun e a w => by kernel_rfl) (fun a b w => ?_) (fun a => by simp [Instr.sameBits])
  exact pair_equal (e := 3) (by kernel_rfl) hi (by kernel_rfl) (fun x y w => by kernel_rfl) (fun x y w => by kernel_rfl) (by kernel_rfl) a b w
end Go.Proofs.YtkjkgpdfhmoenaaDoor.MapArr
namespace Go.Proofs.YtkjkgpdfhmoenaaDoor.AnyOrd
open Go Go.RowKit Go.Proofs.YtkjkgpdfhmoenaaDoor.Kit

theorem RG_inv {P : Program} {ops : Array Oper} {R : Act → World → Prop} {B : World} (m : Nat) (J : Nat → Array Bool → Act → World → Prop)
    (h0 : ∀ listed a w, J m listed a w → RG P ops R B m listed a w)
    (hs : ∀ n listed a w, m ≤ n → J (n + 1) listed a w → Below B.heap.size B w → Region.ready .any ops listed ≠ [] ∧ ∀ i ∈ Region.ready .any ops listed, wpOp P ops (OnlyNormal R) i (fun a' w' => Below B.heap.size B w' ∧ J n (listed.setIfInBounds i true) a' w') a w) :
    ∀ n, m ≤ n → ∀ listed a w, J n listed a w → RG P ops R B n listed a w := by
  intro n hn
  induction hn with
  | refl => exact h0
  | step hle ih =>
    intro listed a w hJ hb
    obtain ⟨hne, h⟩ := hs _ listed a w hle hJ hb
    exact wpAnyH_all rfl hne fun i hi => wpOp_mono (fun a' w' hq => ⟨hq.1, ih _ _ _ hq.2 hq.1⟩) (h i hi)

theorem J_op {P : Program} {ops : Array Oper} {R : Act → World → Prop} {B : World} {J : Array Bool → Act → World → Prop} {i : Nat} {oi : Oper} {listed : Array Bool} (listed' : Array Bool) {a : Act} {w : World} (hi : ops[i]? = some oi) (hl : listed.setIfInBounds i true = listed') (hw : Region.wanted oi (yielded ops a.tmps) = true)
    (h : ∀ K : Act → World → Prop, (∀ a' w', Below B.heap.size B w' → J listed' a' w' → K a' w') → oi.wp P a w K (OnlyNormal R)) :
    wpOp P ops (OnlyNormal R) i (fun a' w' => Below B.heap.size B w' ∧ J (listed.setIfInBounds i true) a' w') a w := by
  subst hl
  unfold wpOp
  simp only [hi, hw, if_true]
  exact .inl (h _ fun a' w' hb hR => ⟨hb, hR⟩)
end Go.Proofs.YtkjkgpdfhmoenaaDoor.AnyOrd
