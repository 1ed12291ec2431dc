/-
  Maps whose keys are two numbers in an array.
-/
import Derived.Test.YtendkmldecoogaaDoorMap
import Derived.Test.YtendkmldecoogaaDoorKit
import Derived.Test.YtendkmldecoogaaDoorProg
import Derived.ChangeKeysEq
namespace Go.Proofs.YtendkmldecoogaaDoor.MapArr
open Go Go.RowKit Go.Proofs.YtendkmldecoogaaDoor.Kit Go.Proofs.YtendkmldecoogaaDoor.Maps

/-- Keys that are arrays, compared by '=='. -/
theorem array_law {P : Program} {K e : TypeId} {n : Nat} {α : Type} [DecidableEq α] {enc : α → Array Value} (hK : P.underlying K = some (.array n e))
    (hc : ∀ (e : Bool) (a : α) (w : World), (Instr.checkKey e 10000 K (.agg (enc a))).run P w = .ok () w)
    (he : ∀ (a b : α) (w : World), (Op.equal K (.agg (enc a)) (.agg (enc b))).run P w = .ok (decide (a = b)) w)
    (hb : ∀ (a : α), Instr.sameBits 10000 (.agg (enc a)) (.agg (enc a)) = true) : KeyLaw P K (fun a : α => Value.agg (enc a)) where
  check := hc
  find k l w := by
    have h : ∀ (l : List (α × Value × Nat)) (i : Nat), (Instr.findAsking K (.agg (enc k)) (l.map fun e => (⟨.agg (enc e.1), e.2.1, e.2.2⟩ : MapEntry)) i).run P w = .ok (lk k l i) w := by
      intro l
      induction l with
      | nil => intro i; rfl
      | cons e l ih =>
        intro i
        simp only [List.map_cons, Instr.findAsking, lk, Sem.run_bind, he, Result.andThen]
        by_cases hk : k = e.1
        · simp [hk]
        · simp [hk, ih]
    unfold Instr.findKey
    cases l with
    | nil => simp [run_underlying hK, Result.andThen, Instr.findNow, lk]
    | cons e l =>
      have hl := h (e :: l) 0
      simp only [List.map_cons] at hl ⊢
      simp [run_underlying hK, Result.andThen, Instr.findNow, Instr.sameNow, hl]
  bits := hb

/-- Two numbers, compared as an array. -/
theorem pair_equal {P : Program} {T e : TypeId} {i : TypeInfo} (hu : P.underlying T = some (.array 2 e)) (hi : P.info? e = some i) (hc : P.cellsOf e = 1)
    (p0 : ∀ (a b : Int) w, (part e #[.int .i64 a, .int .i64 b] 0).run P w = .ok (.int .i64 a) w) (p1 : ∀ (a b : Int) w, (part e #[.int .i64 a, .int .i64 b] 1).run P w = .ok (.int .i64 b) w) (u : P.underlying e = some (.int .i64)) (a b : Int × Int) (w : World) :
    (Op.equal T (.agg #[.int .i64 a.1, .int .i64 a.2]) (.agg #[.int .i64 b.1, .int .i64 b.2])).run P w = .ok (decide (a = b)) w := by
  obtain ⟨a1, a2⟩ := a
  obtain ⟨b1, b2⟩ := b
  simp only
  have h1 := run_equalIn_array (P := P) (w := w) 9999 (t := T) #[.int .i64 a1, .int .i64 a2] #[.int .i64 b1, .int .i64 b2] hu hi
  have e0 : ∀ (x y : Int) w, (Op.equalIn 9999 e (.int .i64 x) (.int .i64 y)).run P w = .ok (x == y) w := fun x y w => run_equalIn_int w 9998 _ .i64 .i64 x y u
  rw [show Op.equal T (.agg #[.int .i64 a1, .int .i64 a2]) (.agg #[.int .i64 b1, .int .i64 b2]) = Op.equalIn (9999 + 1) T (.agg #[.int .i64 a1, .int .i64 a2]) (.agg #[.int .i64 b1, .int .i64 b2]) from rfl, h1, hc]
  rw [show List.range 2 = [0, 1] from rfl]
  simp only [Op.eqItems, Nat.mul_one, Sem.run_bind, p0, Result.andThen_ok, e0]
  by_cases h1 : a1 = b1 <;> by_cases h2 : a2 = b2 <;> simp [h1, h2, p1, e0]
def encP (k : Int × Int) : Value := .agg #[.int .i64 k.1, .int .i64 k.2]
set_option maxRecDepth 100000 in
theorem pairLaw : KeyLaw Tryd.prog 205 encP := by
  obtain ⟨i, hi⟩ : ∃ i, Tryd.prog.info? 3 = some i := ⟨_, rfl⟩
  refine array_law (enc := fun k : Int × Int => #[.int .i64 k.1, .int .i64 k.2]) Tryd.underlying205 (fun e a w => by kernel_rfl) (fun a b w => ?_) (fun a => by simp [Instr.sameBits])
  exact pair_equal (e := 3) (by kernel_rfl) hi (by kernel_rfl) (fun x y w => by kernel_rfl) (fun x y w => by kernel_rfl) (by kernel_rfl) a b w
end Go.Proofs.YtendkmldecoogaaDoor.MapArr
