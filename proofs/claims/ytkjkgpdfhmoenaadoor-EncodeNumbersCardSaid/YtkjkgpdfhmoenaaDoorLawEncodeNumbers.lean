/-
  The law EncodeNumbers: whatever the input, the call answers true and each argument reads as before. No further condition.
-/
import Derived.Test.YtkjkgpdfhmoenaaDoorCards
import Derived.Test.YtkjkgpdfhmoenaaDoorTie
import Derived.SevenTiedAt
import Derived.Deep.DeepHandedRow
import Derived.Deep.DeepWitnessRowRef
import Derived.Test.YtkjkgpdfhmoenaaDoorLaid
import Derived.Test.YtkjkgpdfhmoenaaDoorRows
import Derived.WalkKit
import Derived.ProofKit
import Derived.OpenShut
import Derived.SizedLaws
import Derived.ShutString
import Derived.Test.YtkjkgpdfhmoenaaDoorWEncodeNumbers
namespace Go.Proofs.YtkjkgpdfhmoenaaDoor.encodeNumbers
open Go.ChangeShapes Go.WideShapes Go.ChangeAt Go.RowKit
open Go.Proofs.YtkjkgpdfhmoenaaDoor.Laid
open Go.ChangeMaps (open_string shut_string)
open Go.Proofs.YtkjkgpdfhmoenaaDoor.Kit (IsRow)
set_option linter.unusedVariables false

theorem own : ownKnob Tryd.prog.godebug = none := by kernel_rfl
theorem laidOut : laidOutB Tryd.prog = true := by kernel_rfl

theorem witness_row (os : Os) {H : Type} (enc : TypeId × Value → H) :
    (OpenSpec.ofChange Rows.encodeNumbersSpec).preRow enc Tryd.prog Tryd.f15 Rows.encodeNumbersRow.domain false Rows.encodeNumbersRow.laid ((laidWorld os).forCall (fun _ _ => 0) ⟨#[], #[], []⟩).memory #[] := by
  have hw : (DataW.whole enc Tryd.prog ((laidWorld os).forCall (fun _ _ => 0) ⟨#[], #[], []⟩).memory Tryd.f15.params.toList (OpenSpec.ofChange Rows.encodeNumbersSpec).vars false (#[] : Array Value).toList 8).map (fun x => (x.1, x.2.1)) =
      some ([], []) := by kernel_rfl
  obtain ⟨⟨x1, x2, x3⟩, hx, hx1⟩ := Option.map_eq_some_iff.1 hw
  simp only [Prod.mk.injEq] at hx1
  obtain ⟨rfl, rfl⟩ := hx1
  exact OpenSpec.preRow_of_cond 8 hx (by kernel_rfl) (fun k hk => by cases hk) (by kernel_rfl) (laid_met os _)

set_option maxRecDepth 100000 in
theorem lifted (os : Os) (started : os.Started) (H : Type) (enc : TypeId × Value → H) (F0 : Stop.Interp) :
    ReturnsInHanded {} Tryd.checked os 15 .any ((OpenSpec.ofChange Rows.encodeNumbersSpec).preRow enc Tryd.prog Tryd.f15 Rows.encodeNumbersRow.domain false Rows.encodeNumbersRow.laid) (((OpenSpec.ofChange Rows.encodeNumbersSpec).at F0).post enc Tryd.prog Tryd.f15 false true false false) := by
  refine returnsInHanded_of_row (C := Tryd.checked) (s := (OpenSpec.ofChange Rows.encodeNumbersSpec)) own started (by kernel_rfl) Tryd.func15
    (witness_row_atRef (enc := enc) (C := Tryd.checked) false (laidWorld os) #[] rfl (by kernel_rfl) (by kernel_rfl) (by kernel_rfl) (witness_row os enc)) ?_
  intro W base args ds gs before hval0 hW hcnd _ hsz0 hL _ _
  have hsz := hsz0
  have hval : ∀ (j : Nat) t v, Tryd.f15.params[j]? = some t → args[j]? = some v → Value.okWide Tryd.prog W .any base t v := hval0
  have hW' := hW
  obtain ⟨p, q, hA0, hV, rfl, hfz, hnd⟩ := hW
  have hA : DataW.TrodAll enc Tryd.prog W 0 (fun _ => true) true Tryd.f15.params.toList args.toList ds p := hA0
  rw [Tryd.params15] at hA hval hsz
  obtain ⟨rfl, rfl, rfl⟩ := trodAll_none hA
  obtain ⟨rfl, rfl⟩ := trodVars_none hV
  clear hA0 hval0 hsz hsz0
  simp only [List.append_nil] at hW'
  refine (walk  W (tabs_of hL)).mono fun e W' ⟨he, bel⟩ => ?_
  subst he
  exact ⟨_, rfl, _, _, _, [], [], [], hW', trodAll_mk1 (shut_bool Tryd.underlying4 _), rfl, rfl, bel.frame _, fun h => by cases h⟩

theorem over : Rows.encodeNumbersRow.holds Tryd.pinned (OpenSpec.ofChange Rows.encodeNumbersSpec) :=
  OpenClaim.holds_of_cond 15 Tryd.f15 rfl rfl rfl rfl rfl rfl rfl ⟨rfl, rfl, rfl, rfl, rfl⟩ rfl rfl rfl rfl rfl (by kernel_rfl) Tryd.func15 (by kernel_rfl)
    (of_decide_eq_true (by kernel_rfl)) (by unfold Func.isWrapper; first | (rw [if_pos (by decide +kernel)]; kernel_rfl) | (rw [if_neg (by decide +kernel)]; exact ⟨rfl, rfl⟩))
    (fun os started H enc _ F0 => by rw [OpenClaim.pre_eq_preRow]; exact lifted os started H enc F0)

/-- THE STATEMENT -/
theorem proved : Rows.EncodeNumbersCardSaid :=
  Claim7.holds_tied_plain_at .later [] [.data, .pinned] true (true, "a250ac083a1cee6123f8daa8534581b4a1e46ec5986d6fd75e8da3f4f1883a72") false
    over (fun _ h => by cases h) (by kernel_rfl) (fun _ h => by cases h) encodeNumbers_row_tie rfl ⟨rfl, rfl⟩ (by kernel_rfl) rfl
    (fun f fn hf hfn => by
      obtain rfl : f = 15 := Option.some.inj ((show Tryd.prog.funcNamed "tessera/tesseralaw14.EncodeNumbers" = some 15 by kernel_rfl).symm.trans hf) |>.symm
      obtain rfl : fn = Tryd.f15 := (Option.some.inj (Tryd.func15.symm.trans hfn)).symm
      exact ⟨by kernel_rfl, fun j t ht => by
        rw [Tryd.params15] at ht
        simp at ht⟩)
    (by kernel_rfl)
#print axioms proved
end Go.Proofs.YtkjkgpdfhmoenaaDoor.encodeNumbers
