/-
  The law SpansAll: whatever the input, the call answers true and each argument reads as before. No further condition.
-/
import Derived.Test.YtgddlcbaieclcaaRows
import Derived.WalkKit
import Derived.ProofKit
import Derived.OpenShut
import Derived.SizedLaws
import Derived.ShutString
import Derived.Test.YtgddlcbaieclcaaSpOpen
import Derived.Test.YtgddlcbaieclcaaWSpansAll
namespace Go.Proofs.Ytgddlcbaieclcaa.spansAll
open Go.ChangeShapes Go.WideShapes Go.ChangeAt Go.RowKit
open Go.ChangeMaps (open_string shut_string)
open Go.Proofs.Ytgddlcbaieclcaa.Kit (IsRow)
open Go.Proofs.Ytgddlcbaieclcaa.SpOpen
set_option linter.unusedVariables false

theorem own : ownKnob Try.prog.godebug = none := by kernel_rfl
theorem laidOut : laidOutB Try.prog = true := by kernel_rfl

set_option maxRecDepth 100000 in
theorem lifted (os : Os) (started : os.Started) (H : Type) (enc : TypeId × Value → H) :
    ReturnsInHanded {} Try.checked os 16 .any (Rows.spansAllSpec.pre6 enc Try.prog Try.f16 Rows.spansAllRow.domain false) (Rows.spansAllSpec.post enc Try.prog Try.f16 false true false false) := by
  refine returnsInHanded_of_change_sized (C := Try.checked) own started (by kernel_rfl) Try.func16
    (ChangeSpec.witness6 (enc := enc) (C := Try.checked) false ⟨#[], #[.slice none 0 0, .int .i64 0], []⟩ 8 (by kernel_rfl) (by kernel_rfl) (by kernel_rfl) (by kernel_rfl)) ?_
  intro W base args ds gs before hval0 hW hcnd hsz0 _
  have hsz := hsz0
  have hval : ∀ (j : Nat) t v, Try.f16.params[j]? = some t → args[j]? = some v → Value.okWide Try.prog W .any base t v := hval0
  have hW' := hW
  obtain ⟨p, q, hA0, hV, rfl, hfz, hnd⟩ := hW
  have hA : DataW.TrodAll enc Try.prog W 0 (fun _ => true) true Try.f16.params.toList args.toList ds p := hA0
  rw [Try.params16] at hA hval hsz
  obtain ⟨v0, vs0, d0, ds0, p0, q0, hargs, rfl, rfl, h0, r0⟩ := trodAll_cons hA
  obtain ⟨v1, vs1, d1, ds1, p1, q1, rfl, rfl, rfl, h1, r1⟩ := trodAll_cons r0
  obtain ⟨rfl, rfl, rfl⟩ := trodAll_nil r1
  obtain rfl : args = #[v0, v1] := by cases args; simp_all
  obtain ⟨rfl, rfl⟩ := trodVars_none hV
  have k0 := h0
  have lt0 : ∀ x ∈ p0, x.block < W.heap.size := by obtain ⟨m, hm⟩ := k0; exact DataW.trod_lt m _ _ _ hm
  obtain ⟨a0, len0, cap0, L0, H0, rfl, w0, y0, z0⟩ := open_spans (hval 0 50 v0 rfl rfl) h0
  have b0 := span_len hsz (j := 0) (d := d0) rfl rfl z0
  have k1 := h1
  have lt1 : ∀ x ∈ p1, x.block < W.heap.size := by obtain ⟨m, hm⟩ := k1; exact DataW.trod_lt m _ _ _ hm
  obtain ⟨n1, rfl, b1⟩ : ∃ n, v1 = .int .i64 n ∧ (Lit.int .i64 n).wf = true := by
    obtain ⟨n, rfl⟩ := okWide_int Try.underlying3 (hval 1 3 v1 rfl rfl)
    obtain ⟨fuel, hf⟩ := h1
    obtain ⟨n1, e1, _, e3⟩ := DataW.trod_int Try.underlying3 hf
    simp only [Value.cells, List.cons.injEq, Value.int.injEq, true_and, and_true] at e1
    exact ⟨n, rfl, by rw [e1]; exact e3⟩
  have b1 := bounds_i64 b1
  clear hA0 hval0 hsz hsz0
  refine (walk a0 len0 cap0 L0 H0 n1 W w0 b0 b1).mono fun e W' ⟨he, bel⟩ => ?_
  subst he
  exact ⟨_, rfl, _, _, _, [], _, [], hW', trodAll_mk1 (shut_bool Try.underlying4 _), (trodAll_cons_mk (Below.trod laidOut (by kernel_rfl) (of_decide_eq_true (by kernel_rfl)) k0 bel lt0) (trodAll_cons_mk (Below.trod laidOut (by kernel_rfl) (of_decide_eq_true (by kernel_rfl)) k1 bel lt1) trodAll_mk0)), rfl, bel.frame _, fun h => by cases h⟩

theorem over : Rows.spansAllRow.holds Try.pinned (OpenSpec.ofChange Rows.spansAllSpec) :=
  OpenClaim.holds_of_wide 16 Try.f16 rfl rfl rfl rfl rfl rfl rfl ⟨rfl, rfl, rfl, rfl, rfl⟩ rfl rfl rfl rfl rfl (by kernel_rfl) Try.func16 (by kernel_rfl)
    (of_decide_eq_true (by kernel_rfl)) (by unfold Func.isWrapper; first | (rw [if_pos (by decide +kernel)]; kernel_rfl) | (rw [if_neg (by decide +kernel)]; exact ⟨rfl, rfl⟩))
    (fun os started H enc _ => lifted os started H enc)

/-- THE STATEMENT -/
theorem proved : Rows.SpansAllSaid :=
  over
#print axioms proved
end Go.Proofs.Ytgddlcbaieclcaa.spansAll
