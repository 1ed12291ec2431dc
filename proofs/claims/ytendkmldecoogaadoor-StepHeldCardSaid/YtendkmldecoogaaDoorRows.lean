/-
  NARROWER THAN 'FOR EVERY INPUT', by the rows' own cells (each row's printed sentence says how): CutNumbers: laid · CutTokens: laid · CutWhole: laid · CutAnew: laid · CutKept: laid · DecodeJoins: laid · DecodeKept: laid · DecodeNumbers: laid · DecodeAll: laid · StepKept: laid · StepHeld: laid · StepNumbers: laid · StepPlays: laid · StepWhole: laid · StepSooner: laid.
  DERIVED. THE GIVEN ROWS OF THIS SEAT. 15 by the template 'for every input the law returns true; each argument reads behind the call as it read before'; 0 by the template 'total and deterministic' (their statements: YtendkmldecoogaaDoorTotals.lean).
  GIVEN WITH THE SEED: the statements are not yours to turn. If you find one false, say at which input.
  Laid BY PROGRAM, IN A SANDBOX (cutbox-rows.mjs): the forced cells as the released guide's own fill.sh prints them over the translation 475d6d9d8aae1dea… (all of the seat's roots in one cut). By AI agents, Wed Nov 11 2026. No macro, syntax, notation, axiom, sorry.
-/
import Derived.Test.YtendkmldecoogaaDoorChecked
import GoSem.PinnedTables
import GoSem.Claim
import GoSem.ClaimJoined
import GoSem.ClaimMapViews
import Derived.JoinedTies
import Derived.KernelRfl
namespace Go.Proofs.YtendkmldecoogaaDoor
/- THE CELL 'sum', in the pinned program and in every row, IS THE sha256 OF THE DUMP (.gsa) THAT YtendkmldecoogaaDoorProg.lean LOADS. Nothing in Lean hashes anything: it is a label: what it is worth is what the hold of that sum in a sandbox is worth. -/
noncomputable def Tryd.pinned : Pinned := { name := "ytendkmldecoogaadoor", sum := "475d6d9d8aae1dea2a07b2dd611d0dfea6142fdd4a25438ac759028b7e06bfb3", checked := Tryd.checked }
namespace Rows
def none {H : Type} : Left H := { results := [], args := [] }

/- WHAT THE LISTED PACKAGE-LEVEL VARIABLES READ AS WHEN THE CALL BEGINS. Each datum BY PROGRAM (the guide's laid-datum.mjs) off the statement by which the dump's own 'gosem.cut.vars' lays the variable. In a bare row this is a premise. The card (YtendkmldecoogaaDoorCards.lean) ties it to the program's text. -/
def laid_unicode_utf8_acceptRanges {H : Type} : DataW H := .agg [.agg [.lit (.int .u8 128), .lit (.int .u8 191)], .agg [.lit (.int .u8 160), .lit (.int .u8 191)], .agg [.lit (.int .u8 128), .lit (.int .u8 159)], .agg [.lit (.int .u8 144), .lit (.int .u8 191)], .agg [.lit (.int .u8 128), .lit (.int .u8 143)], .agg [.lit (.int .u8 0), .lit (.int .u8 0)], .agg [.lit (.int .u8 0), .lit (.int .u8 0)], .agg [.lit (.int .u8 0), .lit (.int .u8 0)], .agg [.lit (.int .u8 0), .lit (.int .u8 0)], .agg [.lit (.int .u8 0), .lit (.int .u8 0)], .agg [.lit (.int .u8 0), .lit (.int .u8 0)], .agg [.lit (.int .u8 0), .lit (.int .u8 0)], .agg [.lit (.int .u8 0), .lit (.int .u8 0)], .agg [.lit (.int .u8 0), .lit (.int .u8 0)], .agg [.lit (.int .u8 0), .lit (.int .u8 0)], .agg [.lit (.int .u8 0), .lit (.int .u8 0)]]
/-- One of Go's own tables, pinned by name: the form's constant. -/
def laid_unicode_utf8_first : DataW Unit := Go.Pinned.utf8First

/-- 'tesseralaw12.CutNumbers': WHATEVER THE INPUT: true; the input reads as it did. -/
def cutNumbersSpec : ChangeSpec := { name := "cutNumbers", fn := fun _ => fun
  | [] => { results := [.lit (.bool true)], args := [] }
  | _ => none }
def cutNumbersRow : OpenClaim := { program := "ytendkmldecoogaadoor", sum := "475d6d9d8aae1dea2a07b2dd611d0dfea6142fdd4a25438ac759028b7e06bfb3", func := "tessera/tesseralaw12.CutNumbers", spec := "cutNumbers", unfollowed := true, recurses := true, named := ["unicode/utf8.first", "unicode/utf8.acceptRanges"], plainKeys := false, apart := false, laid := [("unicode/utf8.acceptRanges", laid_unicode_utf8_acceptRanges), ("unicode/utf8.first", laid_unicode_utf8_first)] }
def CutNumbersSaid : Prop := cutNumbersRow.holds Tryd.pinned (OpenSpec.ofChange cutNumbersSpec)

/-- ITS FALSE NEIGHBOUR: 'it returns false'. Refute it at one input. -/
def cutNumbersWrong : ChangeSpec := { name := "cutNumbers", fn := fun _ => fun
  | [] => { results := [.lit (.bool false)], args := [] }
  | _ => none }
def CutNumbersWrongFalsely : Prop := cutNumbersRow.holds Tryd.pinned (OpenSpec.ofChange cutNumbersWrong)

/-- 'tesseralaw12.CutTokens': WHATEVER THE INPUT: true; the input reads as it did. -/
def cutTokensSpec : ChangeSpec := { name := "cutTokens", fn := fun _ => fun
  | [d1, d2, d3] => { results := [.lit (.bool true)], args := [d1, d2, d3] }
  | _ => none }
def cutTokensRow : OpenClaim := { program := "ytendkmldecoogaadoor", sum := "475d6d9d8aae1dea2a07b2dd611d0dfea6142fdd4a25438ac759028b7e06bfb3", func := "tessera/tesseralaw12.CutTokens", spec := "cutTokens", unfollowed := true, recurses := true, named := ["unicode/utf8.first", "unicode/utf8.acceptRanges"], plainKeys := false, apart := false, laid := [("unicode/utf8.acceptRanges", laid_unicode_utf8_acceptRanges), ("unicode/utf8.first", laid_unicode_utf8_first)] }
def CutTokensSaid : Prop := cutTokensRow.holds Tryd.pinned (OpenSpec.ofChange cutTokensSpec)

/-- ITS FALSE NEIGHBOUR: 'it returns false'. Refute it at one input. -/
def cutTokensWrong : ChangeSpec := { name := "cutTokens", fn := fun _ => fun
  | [d1, d2, d3] => { results := [.lit (.bool false)], args := [d1, d2, d3] }
  | _ => none }
def CutTokensWrongFalsely : Prop := cutTokensRow.holds Tryd.pinned (OpenSpec.ofChange cutTokensWrong)

/-- 'tesseralaw12.CutWhole': WHATEVER THE INPUT: true; the input reads as it did. -/
def cutWholeSpec : ChangeSpec := { name := "cutWhole", fn := fun _ => fun
  | [d1, d2] => { results := [.lit (.bool true)], args := [d1, d2] }
  | _ => none }
def cutWholeRow : OpenClaim := { program := "ytendkmldecoogaadoor", sum := "475d6d9d8aae1dea2a07b2dd611d0dfea6142fdd4a25438ac759028b7e06bfb3", func := "tessera/tesseralaw12.CutWhole", spec := "cutWhole", unfollowed := true, recurses := true, named := ["unicode/utf8.first", "unicode/utf8.acceptRanges"], plainKeys := false, apart := false, laid := [("unicode/utf8.acceptRanges", laid_unicode_utf8_acceptRanges), ("unicode/utf8.first", laid_unicode_utf8_first)] }
def CutWholeSaid : Prop := cutWholeRow.holds Tryd.pinned (OpenSpec.ofChange cutWholeSpec)

/-- ITS FALSE NEIGHBOUR: 'it returns false'. Refute it at one input. -/
def cutWholeWrong : ChangeSpec := { name := "cutWhole", fn := fun _ => fun
  | [d1, d2] => { results := [.lit (.bool false)], args := [d1, d2] }
  | _ => none }
def CutWholeWrongFalsely : Prop := cutWholeRow.holds Tryd.pinned (OpenSpec.ofChange cutWholeWrong)

/-- 'tesseralaw12.CutAnew': WHATEVER THE INPUT: true; the input reads as it did. -/
def cutAnewSpec : ChangeSpec := { name := "cutAnew", fn := fun _ => fun
  | [d1, d2, d3] => { results := [.lit (.bool true)], args := [d1, d2, d3] }
  | _ => none }
def cutAnewRow : OpenClaim := { program := "ytendkmldecoogaadoor", sum := "475d6d9d8aae1dea2a07b2dd611d0dfea6142fdd4a25438ac759028b7e06bfb3", func := "tessera/tesseralaw12.CutAnew", spec := "cutAnew", unfollowed := true, recurses := true, named := ["unicode/utf8.first", "unicode/utf8.acceptRanges"], plainKeys := false, apart := false, laid := [("unicode/utf8.acceptRanges", laid_unicode_utf8_acceptRanges), ("unicode/utf8.first", laid_unicode_utf8_first)] }
def CutAnewSaid : Prop := cutAnewRow.holds Tryd.pinned (OpenSpec.ofChange cutAnewSpec)

/-- ITS FALSE NEIGHBOUR: 'it returns false'. Refute it at one input. -/
def cutAnewWrong : ChangeSpec := { name := "cutAnew", fn := fun _ => fun
  | [d1, d2, d3] => { results := [.lit (.bool false)], args := [d1, d2, d3] }
  | _ => none }
def CutAnewWrongFalsely : Prop := cutAnewRow.holds Tryd.pinned (OpenSpec.ofChange cutAnewWrong)

/-- 'tesseralaw12.CutKept': WHATEVER THE INPUT: true; the input reads as it did. -/
def cutKeptSpec : ChangeSpec := { name := "cutKept", fn := fun _ => fun
  | [d1, d2] => { results := [.lit (.bool true)], args := [d1, d2] }
  | _ => none }
def cutKeptRow : OpenClaim := { program := "ytendkmldecoogaadoor", sum := "475d6d9d8aae1dea2a07b2dd611d0dfea6142fdd4a25438ac759028b7e06bfb3", func := "tessera/tesseralaw12.CutKept", spec := "cutKept", unfollowed := true, recurses := true, named := ["unicode/utf8.first", "unicode/utf8.acceptRanges"], plainKeys := false, apart := false, laid := [("unicode/utf8.acceptRanges", laid_unicode_utf8_acceptRanges), ("unicode/utf8.first", laid_unicode_utf8_first)] }
def CutKeptSaid : Prop := cutKeptRow.holds Tryd.pinned (OpenSpec.ofChange cutKeptSpec)

/-- ITS FALSE NEIGHBOUR: 'it returns false'. Refute it at one input. -/
def cutKeptWrong : ChangeSpec := { name := "cutKept", fn := fun _ => fun
  | [d1, d2] => { results := [.lit (.bool false)], args := [d1, d2] }
  | _ => none }
def CutKeptWrongFalsely : Prop := cutKeptRow.holds Tryd.pinned (OpenSpec.ofChange cutKeptWrong)

/-- 'tesseralaw18.DecodeJoins': WHATEVER THE INPUT: true; the input reads as it did. -/
def decodeJoinsSpec : ChangeSpec := { name := "decodeJoins", fn := fun _ => fun
  | [d1, d2, d3] => { results := [.lit (.bool true)], args := [d1, d2, d3] }
  | _ => none }
def decodeJoinsRow : OpenClaim := { program := "ytendkmldecoogaadoor", sum := "475d6d9d8aae1dea2a07b2dd611d0dfea6142fdd4a25438ac759028b7e06bfb3", func := "tessera/tesseralaw18.DecodeJoins", spec := "decodeJoins", inPlace := ["internal/abi.NoEscape", "internal/bytealg.MakeNoZero"], unfollowed := true, recurses := true, named := ["unicode/utf8.first", "unicode/utf8.acceptRanges"], plainKeys := false, apart := false, laid := [("unicode/utf8.acceptRanges", laid_unicode_utf8_acceptRanges), ("unicode/utf8.first", laid_unicode_utf8_first)] }
def DecodeJoinsSaid : Prop := decodeJoinsRow.holds Tryd.pinned (OpenSpec.ofChange decodeJoinsSpec)

/-- ITS FALSE NEIGHBOUR: 'it returns false'. Refute it at one input. -/
def decodeJoinsWrong : ChangeSpec := { name := "decodeJoins", fn := fun _ => fun
  | [d1, d2, d3] => { results := [.lit (.bool false)], args := [d1, d2, d3] }
  | _ => none }
def DecodeJoinsWrongFalsely : Prop := decodeJoinsRow.holds Tryd.pinned (OpenSpec.ofChange decodeJoinsWrong)

/-- 'tesseralaw18.DecodeKept': WHATEVER THE INPUT: true; the input reads as it did. -/
def decodeKeptSpec : ChangeSpec := { name := "decodeKept", fn := fun _ => fun
  | [d1, d2] => { results := [.lit (.bool true)], args := [d1, d2] }
  | _ => none }
def decodeKeptRow : OpenClaim := { program := "ytendkmldecoogaadoor", sum := "475d6d9d8aae1dea2a07b2dd611d0dfea6142fdd4a25438ac759028b7e06bfb3", func := "tessera/tesseralaw18.DecodeKept", spec := "decodeKept", inPlace := ["internal/abi.NoEscape", "internal/bytealg.MakeNoZero"], unfollowed := true, recurses := true, named := ["unicode/utf8.first", "unicode/utf8.acceptRanges"], plainKeys := false, apart := false, laid := [("unicode/utf8.acceptRanges", laid_unicode_utf8_acceptRanges), ("unicode/utf8.first", laid_unicode_utf8_first)] }
def DecodeKeptSaid : Prop := decodeKeptRow.holds Tryd.pinned (OpenSpec.ofChange decodeKeptSpec)

/-- ITS FALSE NEIGHBOUR: 'it returns false'. Refute it at one input. -/
def decodeKeptWrong : ChangeSpec := { name := "decodeKept", fn := fun _ => fun
  | [d1, d2] => { results := [.lit (.bool false)], args := [d1, d2] }
  | _ => none }
def DecodeKeptWrongFalsely : Prop := decodeKeptRow.holds Tryd.pinned (OpenSpec.ofChange decodeKeptWrong)

/-- 'tesseralaw18.DecodeNumbers': WHATEVER THE INPUT: true; the input reads as it did. -/
def decodeNumbersSpec : ChangeSpec := { name := "decodeNumbers", fn := fun _ => fun
  | [] => { results := [.lit (.bool true)], args := [] }
  | _ => none }
def decodeNumbersRow : OpenClaim := { program := "ytendkmldecoogaadoor", sum := "475d6d9d8aae1dea2a07b2dd611d0dfea6142fdd4a25438ac759028b7e06bfb3", func := "tessera/tesseralaw18.DecodeNumbers", spec := "decodeNumbers", inPlace := ["internal/abi.NoEscape", "internal/bytealg.MakeNoZero"], unfollowed := true, recurses := true, named := ["unicode/utf8.first", "unicode/utf8.acceptRanges"], plainKeys := false, apart := false, laid := [("unicode/utf8.acceptRanges", laid_unicode_utf8_acceptRanges), ("unicode/utf8.first", laid_unicode_utf8_first)] }
def DecodeNumbersSaid : Prop := decodeNumbersRow.holds Tryd.pinned (OpenSpec.ofChange decodeNumbersSpec)

/-- ITS FALSE NEIGHBOUR: 'it returns false'. Refute it at one input. -/
def decodeNumbersWrong : ChangeSpec := { name := "decodeNumbers", fn := fun _ => fun
  | [] => { results := [.lit (.bool false)], args := [] }
  | _ => none }
def DecodeNumbersWrongFalsely : Prop := decodeNumbersRow.holds Tryd.pinned (OpenSpec.ofChange decodeNumbersWrong)

/-- 'tesseralaw18.DecodeAll': WHATEVER THE INPUT: true; the input reads as it did. -/
def decodeAllSpec : ChangeSpec := { name := "decodeAll", fn := fun _ => fun
  | [d1, d2] => { results := [.lit (.bool true)], args := [d1, d2] }
  | _ => none }
def decodeAllRow : OpenClaim := { program := "ytendkmldecoogaadoor", sum := "475d6d9d8aae1dea2a07b2dd611d0dfea6142fdd4a25438ac759028b7e06bfb3", func := "tessera/tesseralaw18.DecodeAll", spec := "decodeAll", inPlace := ["internal/abi.NoEscape", "internal/bytealg.MakeNoZero"], unfollowed := true, recurses := true, named := ["unicode/utf8.first", "unicode/utf8.acceptRanges"], plainKeys := false, apart := false, laid := [("unicode/utf8.acceptRanges", laid_unicode_utf8_acceptRanges), ("unicode/utf8.first", laid_unicode_utf8_first)] }
def DecodeAllSaid : Prop := decodeAllRow.holds Tryd.pinned (OpenSpec.ofChange decodeAllSpec)

/-- ITS FALSE NEIGHBOUR: 'it returns false'. Refute it at one input. -/
def decodeAllWrong : ChangeSpec := { name := "decodeAll", fn := fun _ => fun
  | [d1, d2] => { results := [.lit (.bool false)], args := [d1, d2] }
  | _ => none }
def DecodeAllWrongFalsely : Prop := decodeAllRow.holds Tryd.pinned (OpenSpec.ofChange decodeAllWrong)

/-- 'tesseralaw13.StepKept': WHATEVER THE INPUT: true; the input reads as it did. -/
def stepKeptSpec : ChangeSpec := { name := "stepKept", fn := fun _ => fun
  | [d1, d2] => { results := [.lit (.bool true)], args := [d1, d2] }
  | _ => none }
def stepKeptRow : OpenClaim := { program := "ytendkmldecoogaadoor", sum := "475d6d9d8aae1dea2a07b2dd611d0dfea6142fdd4a25438ac759028b7e06bfb3", func := "tessera/tesseralaw13.StepKept", spec := "stepKept", unfollowed := true, recurses := true, named := ["unicode/utf8.first", "unicode/utf8.acceptRanges"], plainKeys := false, apart := false, laid := [("unicode/utf8.acceptRanges", laid_unicode_utf8_acceptRanges), ("unicode/utf8.first", laid_unicode_utf8_first)] }
def StepKeptSaid : Prop := stepKeptRow.holds Tryd.pinned (OpenSpec.ofChange stepKeptSpec)

/-- ITS FALSE NEIGHBOUR: 'it returns false'. Refute it at one input. -/
def stepKeptWrong : ChangeSpec := { name := "stepKept", fn := fun _ => fun
  | [d1, d2] => { results := [.lit (.bool false)], args := [d1, d2] }
  | _ => none }
def StepKeptWrongFalsely : Prop := stepKeptRow.holds Tryd.pinned (OpenSpec.ofChange stepKeptWrong)

/-- 'tesseralaw13.StepHeld': WHATEVER THE INPUT: true; the input reads as it did. -/
def stepHeldSpec : ChangeSpec := { name := "stepHeld", fn := fun _ => fun
  | [d1, d2, d3, d4] => { results := [.lit (.bool true)], args := [d1, d2, d3, d4] }
  | _ => none }
def stepHeldRow : OpenClaim := { program := "ytendkmldecoogaadoor", sum := "475d6d9d8aae1dea2a07b2dd611d0dfea6142fdd4a25438ac759028b7e06bfb3", func := "tessera/tesseralaw13.StepHeld", spec := "stepHeld", unfollowed := true, recurses := true, named := ["unicode/utf8.first", "unicode/utf8.acceptRanges"], plainKeys := false, apart := false, laid := [("unicode/utf8.acceptRanges", laid_unicode_utf8_acceptRanges), ("unicode/utf8.first", laid_unicode_utf8_first)] }
def StepHeldSaid : Prop := stepHeldRow.holds Tryd.pinned (OpenSpec.ofChange stepHeldSpec)

/-- ITS FALSE NEIGHBOUR: 'it returns false'. Refute it at one input. -/
def stepHeldWrong : ChangeSpec := { name := "stepHeld", fn := fun _ => fun
  | [d1, d2, d3, d4] => { results := [.lit (.bool false)], args := [d1, d2, d3, d4] }
  | _ => none }
def StepHeldWrongFalsely : Prop := stepHeldRow.holds Tryd.pinned (OpenSpec.ofChange stepHeldWrong)

/-- 'tesseralaw13.StepNumbers': WHATEVER THE INPUT: true; the input reads as it did. -/
def stepNumbersSpec : ChangeSpec := { name := "stepNumbers", fn := fun _ => fun
  | [] => { results := [.lit (.bool true)], args := [] }
  | _ => none }
def stepNumbersRow : OpenClaim := { program := "ytendkmldecoogaadoor", sum := "475d6d9d8aae1dea2a07b2dd611d0dfea6142fdd4a25438ac759028b7e06bfb3", func := "tessera/tesseralaw13.StepNumbers", spec := "stepNumbers", unfollowed := true, recurses := true, named := ["unicode/utf8.first", "unicode/utf8.acceptRanges"], plainKeys := false, apart := false, laid := [("unicode/utf8.acceptRanges", laid_unicode_utf8_acceptRanges), ("unicode/utf8.first", laid_unicode_utf8_first)] }
def StepNumbersSaid : Prop := stepNumbersRow.holds Tryd.pinned (OpenSpec.ofChange stepNumbersSpec)

/-- ITS FALSE NEIGHBOUR: 'it returns false'. Refute it at one input. -/
def stepNumbersWrong : ChangeSpec := { name := "stepNumbers", fn := fun _ => fun
  | [] => { results := [.lit (.bool false)], args := [] }
  | _ => none }
def StepNumbersWrongFalsely : Prop := stepNumbersRow.holds Tryd.pinned (OpenSpec.ofChange stepNumbersWrong)

/-- 'tesseralaw13.StepPlays': WHATEVER THE INPUT: true; the input reads as it did. -/
def stepPlaysSpec : ChangeSpec := { name := "stepPlays", fn := fun _ => fun
  | [d1, d2, d3, d4] => { results := [.lit (.bool true)], args := [d1, d2, d3, d4] }
  | _ => none }
def stepPlaysRow : OpenClaim := { program := "ytendkmldecoogaadoor", sum := "475d6d9d8aae1dea2a07b2dd611d0dfea6142fdd4a25438ac759028b7e06bfb3", func := "tessera/tesseralaw13.StepPlays", spec := "stepPlays", unfollowed := true, recurses := true, named := ["unicode/utf8.first", "unicode/utf8.acceptRanges"], plainKeys := false, apart := false, laid := [("unicode/utf8.acceptRanges", laid_unicode_utf8_acceptRanges), ("unicode/utf8.first", laid_unicode_utf8_first)] }
def StepPlaysSaid : Prop := stepPlaysRow.holds Tryd.pinned (OpenSpec.ofChange stepPlaysSpec)

/-- ITS FALSE NEIGHBOUR: 'it returns false'. Refute it at one input. -/
def stepPlaysWrong : ChangeSpec := { name := "stepPlays", fn := fun _ => fun
  | [d1, d2, d3, d4] => { results := [.lit (.bool false)], args := [d1, d2, d3, d4] }
  | _ => none }
def StepPlaysWrongFalsely : Prop := stepPlaysRow.holds Tryd.pinned (OpenSpec.ofChange stepPlaysWrong)

/-- 'tesseralaw13.StepWhole': WHATEVER THE INPUT: true; the input reads as it did. -/
def stepWholeSpec : ChangeSpec := { name := "stepWhole", fn := fun _ => fun
  | [d1, d2, d3] => { results := [.lit (.bool true)], args := [d1, d2, d3] }
  | _ => none }
def stepWholeRow : OpenClaim := { program := "ytendkmldecoogaadoor", sum := "475d6d9d8aae1dea2a07b2dd611d0dfea6142fdd4a25438ac759028b7e06bfb3", func := "tessera/tesseralaw13.StepWhole", spec := "stepWhole", unfollowed := true, recurses := true, named := ["unicode/utf8.first", "unicode/utf8.acceptRanges"], plainKeys := false, apart := false, laid := [("unicode/utf8.acceptRanges", laid_unicode_utf8_acceptRanges), ("unicode/utf8.first", laid_unicode_utf8_first)] }
def StepWholeSaid : Prop := stepWholeRow.holds Tryd.pinned (OpenSpec.ofChange stepWholeSpec)

/-- ITS FALSE NEIGHBOUR: 'it returns false'. Refute it at one input. -/
def stepWholeWrong : ChangeSpec := { name := "stepWhole", fn := fun _ => fun
  | [d1, d2, d3] => { results := [.lit (.bool false)], args := [d1, d2, d3] }
  | _ => none }
def StepWholeWrongFalsely : Prop := stepWholeRow.holds Tryd.pinned (OpenSpec.ofChange stepWholeWrong)

/-- 'tesseralaw13.StepSooner': WHATEVER THE INPUT: true; the input reads as it did. -/
def stepSoonerSpec : ChangeSpec := { name := "stepSooner", fn := fun _ => fun
  | [d1, d2, d3] => { results := [.lit (.bool true)], args := [d1, d2, d3] }
  | _ => none }
def stepSoonerRow : OpenClaim := { program := "ytendkmldecoogaadoor", sum := "475d6d9d8aae1dea2a07b2dd611d0dfea6142fdd4a25438ac759028b7e06bfb3", func := "tessera/tesseralaw13.StepSooner", spec := "stepSooner", unfollowed := true, recurses := true, named := ["unicode/utf8.first", "unicode/utf8.acceptRanges"], plainKeys := false, apart := false, laid := [("unicode/utf8.acceptRanges", laid_unicode_utf8_acceptRanges), ("unicode/utf8.first", laid_unicode_utf8_first)] }
def StepSoonerSaid : Prop := stepSoonerRow.holds Tryd.pinned (OpenSpec.ofChange stepSoonerSpec)

/-- ITS FALSE NEIGHBOUR: 'it returns false'. Refute it at one input. -/
def stepSoonerWrong : ChangeSpec := { name := "stepSooner", fn := fun _ => fun
  | [d1, d2, d3] => { results := [.lit (.bool false)], args := [d1, d2, d3] }
  | _ => none }
def StepSoonerWrongFalsely : Prop := stepSoonerRow.holds Tryd.pinned (OpenSpec.ofChange stepSoonerWrong)

/- THE SECOND FORM. 'bulk': how many values and letters a reading holds, each counted each time it is reached (what is shared counts as often as it is met; a slice's spare places count too). A statement '..UptoSaid' is the law's where the arguments, and the package variables that the reading takes, are together of bulk at most 1048576: NARROWER than '..Said'. Prove '..Said' where nothing that the law and all that it calls make is longer than what came in: it says more and counts as full. Else prove '..UptoSaid'. A law counts once. -/
mutual
def uptoBulk {H : Type} : DataW H → Nat
  | .lit (.string bytes) => bytes.length + 1
  | .lit _ => 1
  | .nil => 1
  | .ptr d => uptoBulk d + 1
  | .slice elems spare => uptoBulkAll elems + uptoBulkAll spare + 1
  | .agg parts => uptoBulkAll parts + 1
  | .iface _ d => uptoBulk d + 1
  | .map entries => uptoBulkEntries entries + 1
  | .held _ => 1
def uptoBulkAll {H : Type} : List (DataW H) → Nat
  | [] => 0
  | d :: r => uptoBulk d + uptoBulkAll r
def uptoBulkEntries {H : Type} : List (Lit × DataW H) → Nat
  | [] => 0
  | x :: r => uptoBulkEntry x + uptoBulkEntries r
def uptoBulkEntry {H : Type} : Lit × DataW H → Nat
  | (.string bytes, d) => bytes.length + uptoBulk d + 1
  | (_, d) => uptoBulk d + 1
 end
def uptoSmall : (H : Type) → List (DataW H) → Bool := fun _ ds => decide (uptoBulkAll ds ≤ 1048576)
def OpenSpec.upto (s : _root_.Go.ChangeSpec) : _root_.Go.OpenSpec := { _root_.Go.OpenSpec.ofChange s with cond := some uptoSmall }

/-- 'tesseralaw12.CutNumbers', WHERE WHAT IT READS IS OF BULK AT MOST 1048576: true; the input reads as it did. -/
def cutNumbersUptoRow : OpenClaim := { program := "ytendkmldecoogaadoor", sum := "475d6d9d8aae1dea2a07b2dd611d0dfea6142fdd4a25438ac759028b7e06bfb3", func := "tessera/tesseralaw12.CutNumbers", spec := "cutNumbers", unfollowed := true, recurses := true, named := ["unicode/utf8.first", "unicode/utf8.acceptRanges"], plainKeys := false, apart := false, laid := [("unicode/utf8.acceptRanges", laid_unicode_utf8_acceptRanges), ("unicode/utf8.first", laid_unicode_utf8_first)], narrowed := true }
def CutNumbersUptoSaid : Prop := cutNumbersUptoRow.holds Tryd.pinned (OpenSpec.upto cutNumbersSpec)

/-- 'tesseralaw12.CutTokens', WHERE WHAT IT READS IS OF BULK AT MOST 1048576: true; the input reads as it did. -/
def cutTokensUptoRow : OpenClaim := { program := "ytendkmldecoogaadoor", sum := "475d6d9d8aae1dea2a07b2dd611d0dfea6142fdd4a25438ac759028b7e06bfb3", func := "tessera/tesseralaw12.CutTokens", spec := "cutTokens", unfollowed := true, recurses := true, named := ["unicode/utf8.first", "unicode/utf8.acceptRanges"], plainKeys := false, apart := false, laid := [("unicode/utf8.acceptRanges", laid_unicode_utf8_acceptRanges), ("unicode/utf8.first", laid_unicode_utf8_first)], narrowed := true }
def CutTokensUptoSaid : Prop := cutTokensUptoRow.holds Tryd.pinned (OpenSpec.upto cutTokensSpec)

/-- 'tesseralaw12.CutWhole', WHERE WHAT IT READS IS OF BULK AT MOST 1048576: true; the input reads as it did. -/
def cutWholeUptoRow : OpenClaim := { program := "ytendkmldecoogaadoor", sum := "475d6d9d8aae1dea2a07b2dd611d0dfea6142fdd4a25438ac759028b7e06bfb3", func := "tessera/tesseralaw12.CutWhole", spec := "cutWhole", unfollowed := true, recurses := true, named := ["unicode/utf8.first", "unicode/utf8.acceptRanges"], plainKeys := false, apart := false, laid := [("unicode/utf8.acceptRanges", laid_unicode_utf8_acceptRanges), ("unicode/utf8.first", laid_unicode_utf8_first)], narrowed := true }
def CutWholeUptoSaid : Prop := cutWholeUptoRow.holds Tryd.pinned (OpenSpec.upto cutWholeSpec)

/-- 'tesseralaw12.CutAnew', WHERE WHAT IT READS IS OF BULK AT MOST 1048576: true; the input reads as it did. -/
def cutAnewUptoRow : OpenClaim := { program := "ytendkmldecoogaadoor", sum := "475d6d9d8aae1dea2a07b2dd611d0dfea6142fdd4a25438ac759028b7e06bfb3", func := "tessera/tesseralaw12.CutAnew", spec := "cutAnew", unfollowed := true, recurses := true, named := ["unicode/utf8.first", "unicode/utf8.acceptRanges"], plainKeys := false, apart := false, laid := [("unicode/utf8.acceptRanges", laid_unicode_utf8_acceptRanges), ("unicode/utf8.first", laid_unicode_utf8_first)], narrowed := true }
def CutAnewUptoSaid : Prop := cutAnewUptoRow.holds Tryd.pinned (OpenSpec.upto cutAnewSpec)

/-- 'tesseralaw12.CutKept', WHERE WHAT IT READS IS OF BULK AT MOST 1048576: true; the input reads as it did. -/
def cutKeptUptoRow : OpenClaim := { program := "ytendkmldecoogaadoor", sum := "475d6d9d8aae1dea2a07b2dd611d0dfea6142fdd4a25438ac759028b7e06bfb3", func := "tessera/tesseralaw12.CutKept", spec := "cutKept", unfollowed := true, recurses := true, named := ["unicode/utf8.first", "unicode/utf8.acceptRanges"], plainKeys := false, apart := false, laid := [("unicode/utf8.acceptRanges", laid_unicode_utf8_acceptRanges), ("unicode/utf8.first", laid_unicode_utf8_first)], narrowed := true }
def CutKeptUptoSaid : Prop := cutKeptUptoRow.holds Tryd.pinned (OpenSpec.upto cutKeptSpec)

/-- 'tesseralaw18.DecodeJoins', WHERE WHAT IT READS IS OF BULK AT MOST 1048576: true; the input reads as it did. -/
def decodeJoinsUptoRow : OpenClaim := { program := "ytendkmldecoogaadoor", sum := "475d6d9d8aae1dea2a07b2dd611d0dfea6142fdd4a25438ac759028b7e06bfb3", func := "tessera/tesseralaw18.DecodeJoins", spec := "decodeJoins", inPlace := ["internal/abi.NoEscape", "internal/bytealg.MakeNoZero"], unfollowed := true, recurses := true, named := ["unicode/utf8.first", "unicode/utf8.acceptRanges"], plainKeys := false, apart := false, laid := [("unicode/utf8.acceptRanges", laid_unicode_utf8_acceptRanges), ("unicode/utf8.first", laid_unicode_utf8_first)], narrowed := true }
def DecodeJoinsUptoSaid : Prop := decodeJoinsUptoRow.holds Tryd.pinned (OpenSpec.upto decodeJoinsSpec)

/-- 'tesseralaw18.DecodeKept', WHERE WHAT IT READS IS OF BULK AT MOST 1048576: true; the input reads as it did. -/
def decodeKeptUptoRow : OpenClaim := { program := "ytendkmldecoogaadoor", sum := "475d6d9d8aae1dea2a07b2dd611d0dfea6142fdd4a25438ac759028b7e06bfb3", func := "tessera/tesseralaw18.DecodeKept", spec := "decodeKept", inPlace := ["internal/abi.NoEscape", "internal/bytealg.MakeNoZero"], unfollowed := true, recurses := true, named := ["unicode/utf8.first", "unicode/utf8.acceptRanges"], plainKeys := false, apart := false, laid := [("unicode/utf8.acceptRanges", laid_unicode_utf8_acceptRanges), ("unicode/utf8.first", laid_unicode_utf8_first)], narrowed := true }
def DecodeKeptUptoSaid : Prop := decodeKeptUptoRow.holds Tryd.pinned (OpenSpec.upto decodeKeptSpec)

/-- 'tesseralaw18.DecodeNumbers', WHERE WHAT IT READS IS OF BULK AT MOST 1048576: true; the input reads as it did. -/
def decodeNumbersUptoRow : OpenClaim := { program := "ytendkmldecoogaadoor", sum := "475d6d9d8aae1dea2a07b2dd611d0dfea6142fdd4a25438ac759028b7e06bfb3", func := "tessera/tesseralaw18.DecodeNumbers", spec := "decodeNumbers", inPlace := ["internal/abi.NoEscape", "internal/bytealg.MakeNoZero"], unfollowed := true, recurses := true, named := ["unicode/utf8.first", "unicode/utf8.acceptRanges"], plainKeys := false, apart := false, laid := [("unicode/utf8.acceptRanges", laid_unicode_utf8_acceptRanges), ("unicode/utf8.first", laid_unicode_utf8_first)], narrowed := true }
def DecodeNumbersUptoSaid : Prop := decodeNumbersUptoRow.holds Tryd.pinned (OpenSpec.upto decodeNumbersSpec)

/-- 'tesseralaw18.DecodeAll', WHERE WHAT IT READS IS OF BULK AT MOST 1048576: true; the input reads as it did. -/
def decodeAllUptoRow : OpenClaim := { program := "ytendkmldecoogaadoor", sum := "475d6d9d8aae1dea2a07b2dd611d0dfea6142fdd4a25438ac759028b7e06bfb3", func := "tessera/tesseralaw18.DecodeAll", spec := "decodeAll", inPlace := ["internal/abi.NoEscape", "internal/bytealg.MakeNoZero"], unfollowed := true, recurses := true, named := ["unicode/utf8.first", "unicode/utf8.acceptRanges"], plainKeys := false, apart := false, laid := [("unicode/utf8.acceptRanges", laid_unicode_utf8_acceptRanges), ("unicode/utf8.first", laid_unicode_utf8_first)], narrowed := true }
def DecodeAllUptoSaid : Prop := decodeAllUptoRow.holds Tryd.pinned (OpenSpec.upto decodeAllSpec)

/-- 'tesseralaw13.StepKept', WHERE WHAT IT READS IS OF BULK AT MOST 1048576: true; the input reads as it did. -/
def stepKeptUptoRow : OpenClaim := { program := "ytendkmldecoogaadoor", sum := "475d6d9d8aae1dea2a07b2dd611d0dfea6142fdd4a25438ac759028b7e06bfb3", func := "tessera/tesseralaw13.StepKept", spec := "stepKept", unfollowed := true, recurses := true, named := ["unicode/utf8.first", "unicode/utf8.acceptRanges"], plainKeys := false, apart := false, laid := [("unicode/utf8.acceptRanges", laid_unicode_utf8_acceptRanges), ("unicode/utf8.first", laid_unicode_utf8_first)], narrowed := true }
def StepKeptUptoSaid : Prop := stepKeptUptoRow.holds Tryd.pinned (OpenSpec.upto stepKeptSpec)

/-- 'tesseralaw13.StepHeld', WHERE WHAT IT READS IS OF BULK AT MOST 1048576: true; the input reads as it did. -/
def stepHeldUptoRow : OpenClaim := { program := "ytendkmldecoogaadoor", sum := "475d6d9d8aae1dea2a07b2dd611d0dfea6142fdd4a25438ac759028b7e06bfb3", func := "tessera/tesseralaw13.StepHeld", spec := "stepHeld", unfollowed := true, recurses := true, named := ["unicode/utf8.first", "unicode/utf8.acceptRanges"], plainKeys := false, apart := false, laid := [("unicode/utf8.acceptRanges", laid_unicode_utf8_acceptRanges), ("unicode/utf8.first", laid_unicode_utf8_first)], narrowed := true }
def StepHeldUptoSaid : Prop := stepHeldUptoRow.holds Tryd.pinned (OpenSpec.upto stepHeldSpec)

/-- 'tesseralaw13.StepNumbers', WHERE WHAT IT READS IS OF BULK AT MOST 1048576: true; the input reads as it did. -/
def stepNumbersUptoRow : OpenClaim := { program := "ytendkmldecoogaadoor", sum := "475d6d9d8aae1dea2a07b2dd611d0dfea6142fdd4a25438ac759028b7e06bfb3", func := "tessera/tesseralaw13.StepNumbers", spec := "stepNumbers", unfollowed := true, recurses := true, named := ["unicode/utf8.first", "unicode/utf8.acceptRanges"], plainKeys := false, apart := false, laid := [("unicode/utf8.acceptRanges", laid_unicode_utf8_acceptRanges), ("unicode/utf8.first", laid_unicode_utf8_first)], narrowed := true }
def StepNumbersUptoSaid : Prop := stepNumbersUptoRow.holds Tryd.pinned (OpenSpec.upto stepNumbersSpec)

/-- 'tesseralaw13.StepPlays', WHERE WHAT IT READS IS OF BULK AT MOST 1048576: true; the input reads as it did. -/
def stepPlaysUptoRow : OpenClaim := { program := "ytendkmldecoogaadoor", sum := "475d6d9d8aae1dea2a07b2dd611d0dfea6142fdd4a25438ac759028b7e06bfb3", func := "tessera/tesseralaw13.StepPlays", spec := "stepPlays", unfollowed := true, recurses := true, named := ["unicode/utf8.first", "unicode/utf8.acceptRanges"], plainKeys := false, apart := false, laid := [("unicode/utf8.acceptRanges", laid_unicode_utf8_acceptRanges), ("unicode/utf8.first", laid_unicode_utf8_first)], narrowed := true }
def StepPlaysUptoSaid : Prop := stepPlaysUptoRow.holds Tryd.pinned (OpenSpec.upto stepPlaysSpec)

/-- 'tesseralaw13.StepWhole', WHERE WHAT IT READS IS OF BULK AT MOST 1048576: true; the input reads as it did. -/
def stepWholeUptoRow : OpenClaim := { program := "ytendkmldecoogaadoor", sum := "475d6d9d8aae1dea2a07b2dd611d0dfea6142fdd4a25438ac759028b7e06bfb3", func := "tessera/tesseralaw13.StepWhole", spec := "stepWhole", unfollowed := true, recurses := true, named := ["unicode/utf8.first", "unicode/utf8.acceptRanges"], plainKeys := false, apart := false, laid := [("unicode/utf8.acceptRanges", laid_unicode_utf8_acceptRanges), ("unicode/utf8.first", laid_unicode_utf8_first)], narrowed := true }
def StepWholeUptoSaid : Prop := stepWholeUptoRow.holds Tryd.pinned (OpenSpec.upto stepWholeSpec)

/-- 'tesseralaw13.StepSooner', WHERE WHAT IT READS IS OF BULK AT MOST 1048576: true; the input reads as it did. -/
def stepSoonerUptoRow : OpenClaim := { program := "ytendkmldecoogaadoor", sum := "475d6d9d8aae1dea2a07b2dd611d0dfea6142fdd4a25438ac759028b7e06bfb3", func := "tessera/tesseralaw13.StepSooner", spec := "stepSooner", unfollowed := true, recurses := true, named := ["unicode/utf8.first", "unicode/utf8.acceptRanges"], plainKeys := false, apart := false, laid := [("unicode/utf8.acceptRanges", laid_unicode_utf8_acceptRanges), ("unicode/utf8.first", laid_unicode_utf8_first)], narrowed := true }
def StepSoonerUptoSaid : Prop := stepSoonerUptoRow.holds Tryd.pinned (OpenSpec.upto stepSoonerSpec)

end Rows
end Go.Proofs.YtendkmldecoogaaDoor
