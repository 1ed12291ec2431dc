/-
  DERIVED. GIVEN WITH THE SEED: THE CARDS: each row of YtendkmldecoogaaDoorRows.lean that lists a variable, with what it lists TIED to the program's text (the seventh form; the later family's looks); each row that meets fmt, with fmt's text TOLD by the authors' own Lean function (tested against real Go, not proved from fmt's source: count such statements apart). THE CARD IS WHAT COUNTS. Prove the row's statement (the work); the ties are given (YtendkmldecoogaaDoorTie.lean); close each card by the builder's one call (the guide's Derived/Test/ToyasCard.lean, 'card_holds'). Laid BY PROGRAM, IN A SANDBOX (cutbox-door.mjs). By AI agents, Wed Nov 11 2026. No macro, syntax, notation, axiom, sorry.
-/
import Derived.Test.YtendkmldecoogaaDoorRows
import GoSem.ClaimSeven
namespace Go.Proofs.YtendkmldecoogaaDoor
namespace Rows

/-- THE TIED CARD OF 'tesseralaw12.CutNumbers'. -/
def cutNumbersCard : Claim7 := { stood := { row := cutNumbersRow, standIns := [], harness := (true, "73677ad37922878d8882d1621ced7c909e4dfbaf7fc08d0e0d313ac47acf0f0a"), looks := false }, kinds := [], alts := [], laidByText := true, laidKinds := [.data, .pinned], laidTests := true, laidLooks := .later }
def CutNumbersCardSaid : Prop := Claim7.holds Tryd.pinned (.plain (OpenSpec.ofChange cutNumbersSpec)) cutNumbersCard

/-- THE TIED CARD OF 'tesseralaw12.CutTokens'. -/
def cutTokensCard : Claim7 := { stood := { row := cutTokensRow, standIns := [], harness := (true, "73677ad37922878d8882d1621ced7c909e4dfbaf7fc08d0e0d313ac47acf0f0a"), looks := false }, kinds := [], alts := [], laidByText := true, laidKinds := [.data, .pinned], laidTests := true, laidLooks := .later }
def CutTokensCardSaid : Prop := Claim7.holds Tryd.pinned (.plain (OpenSpec.ofChange cutTokensSpec)) cutTokensCard

/-- THE TIED CARD OF 'tesseralaw12.CutWhole'. -/
def cutWholeCard : Claim7 := { stood := { row := cutWholeRow, standIns := [], harness := (true, "73677ad37922878d8882d1621ced7c909e4dfbaf7fc08d0e0d313ac47acf0f0a"), looks := false }, kinds := [], alts := [], laidByText := true, laidKinds := [.data, .pinned], laidTests := true, laidLooks := .later }
def CutWholeCardSaid : Prop := Claim7.holds Tryd.pinned (.plain (OpenSpec.ofChange cutWholeSpec)) cutWholeCard

/-- THE TIED CARD OF 'tesseralaw12.CutAnew'. -/
def cutAnewCard : Claim7 := { stood := { row := cutAnewRow, standIns := [], harness := (true, "73677ad37922878d8882d1621ced7c909e4dfbaf7fc08d0e0d313ac47acf0f0a"), looks := false }, kinds := [], alts := [], laidByText := true, laidKinds := [.data, .pinned], laidTests := true, laidLooks := .later }
def CutAnewCardSaid : Prop := Claim7.holds Tryd.pinned (.plain (OpenSpec.ofChange cutAnewSpec)) cutAnewCard

/-- THE TIED CARD OF 'tesseralaw12.CutKept'. -/
def cutKeptCard : Claim7 := { stood := { row := cutKeptRow, standIns := [], harness := (true, "73677ad37922878d8882d1621ced7c909e4dfbaf7fc08d0e0d313ac47acf0f0a"), looks := false }, kinds := [], alts := [], laidByText := true, laidKinds := [.data, .pinned], laidTests := true, laidLooks := .later }
def CutKeptCardSaid : Prop := Claim7.holds Tryd.pinned (.plain (OpenSpec.ofChange cutKeptSpec)) cutKeptCard

/-- THE TIED CARD OF 'tesseralaw18.DecodeJoins'. -/
def decodeJoinsCard : Claim7 := { stood := { row := decodeJoinsRow, standIns := [], harness := (true, "73677ad37922878d8882d1621ced7c909e4dfbaf7fc08d0e0d313ac47acf0f0a"), looks := false }, kinds := [], alts := [], laidByText := true, laidKinds := [.data, .pinned], laidTests := true, laidLooks := .later }
def DecodeJoinsCardSaid : Prop := Claim7.holds Tryd.pinned (.plain (OpenSpec.ofChange decodeJoinsSpec)) decodeJoinsCard

/-- THE TIED CARD OF 'tesseralaw18.DecodeKept'. -/
def decodeKeptCard : Claim7 := { stood := { row := decodeKeptRow, standIns := [], harness := (true, "73677ad37922878d8882d1621ced7c909e4dfbaf7fc08d0e0d313ac47acf0f0a"), looks := false }, kinds := [], alts := [], laidByText := true, laidKinds := [.data, .pinned], laidTests := true, laidLooks := .later }
def DecodeKeptCardSaid : Prop := Claim7.holds Tryd.pinned (.plain (OpenSpec.ofChange decodeKeptSpec)) decodeKeptCard

/-- THE TIED CARD OF 'tesseralaw18.DecodeNumbers'. -/
def decodeNumbersCard : Claim7 := { stood := { row := decodeNumbersRow, standIns := [], harness := (true, "73677ad37922878d8882d1621ced7c909e4dfbaf7fc08d0e0d313ac47acf0f0a"), looks := false }, kinds := [], alts := [], laidByText := true, laidKinds := [.data, .pinned], laidTests := true, laidLooks := .later }
def DecodeNumbersCardSaid : Prop := Claim7.holds Tryd.pinned (.plain (OpenSpec.ofChange decodeNumbersSpec)) decodeNumbersCard

/-- THE TIED CARD OF 'tesseralaw18.DecodeAll'. -/
def decodeAllCard : Claim7 := { stood := { row := decodeAllRow, standIns := [], harness := (true, "73677ad37922878d8882d1621ced7c909e4dfbaf7fc08d0e0d313ac47acf0f0a"), looks := false }, kinds := [], alts := [], laidByText := true, laidKinds := [.data, .pinned], laidTests := true, laidLooks := .later }
def DecodeAllCardSaid : Prop := Claim7.holds Tryd.pinned (.plain (OpenSpec.ofChange decodeAllSpec)) decodeAllCard

/-- THE TIED CARD OF 'tesseralaw13.StepKept'. -/
def stepKeptCard : Claim7 := { stood := { row := stepKeptRow, standIns := [], harness := (true, "73677ad37922878d8882d1621ced7c909e4dfbaf7fc08d0e0d313ac47acf0f0a"), looks := false }, kinds := [], alts := [], laidByText := true, laidKinds := [.data, .pinned], laidTests := true, laidLooks := .later }
def StepKeptCardSaid : Prop := Claim7.holds Tryd.pinned (.plain (OpenSpec.ofChange stepKeptSpec)) stepKeptCard

/-- THE TIED CARD OF 'tesseralaw13.StepHeld'. -/
def stepHeldCard : Claim7 := { stood := { row := stepHeldRow, standIns := [], harness := (true, "73677ad37922878d8882d1621ced7c909e4dfbaf7fc08d0e0d313ac47acf0f0a"), looks := false }, kinds := [], alts := [], laidByText := true, laidKinds := [.data, .pinned], laidTests := true, laidLooks := .later }
def StepHeldCardSaid : Prop := Claim7.holds Tryd.pinned (.plain (OpenSpec.ofChange stepHeldSpec)) stepHeldCard

/-- THE TIED CARD OF 'tesseralaw13.StepNumbers'. -/
def stepNumbersCard : Claim7 := { stood := { row := stepNumbersRow, standIns := [], harness := (true, "73677ad37922878d8882d1621ced7c909e4dfbaf7fc08d0e0d313ac47acf0f0a"), looks := false }, kinds := [], alts := [], laidByText := true, laidKinds := [.data, .pinned], laidTests := true, laidLooks := .later }
def StepNumbersCardSaid : Prop := Claim7.holds Tryd.pinned (.plain (OpenSpec.ofChange stepNumbersSpec)) stepNumbersCard

/-- THE TIED CARD OF 'tesseralaw13.StepPlays'. -/
def stepPlaysCard : Claim7 := { stood := { row := stepPlaysRow, standIns := [], harness := (true, "73677ad37922878d8882d1621ced7c909e4dfbaf7fc08d0e0d313ac47acf0f0a"), looks := false }, kinds := [], alts := [], laidByText := true, laidKinds := [.data, .pinned], laidTests := true, laidLooks := .later }
def StepPlaysCardSaid : Prop := Claim7.holds Tryd.pinned (.plain (OpenSpec.ofChange stepPlaysSpec)) stepPlaysCard

/-- THE TIED CARD OF 'tesseralaw13.StepWhole'. -/
def stepWholeCard : Claim7 := { stood := { row := stepWholeRow, standIns := [], harness := (true, "73677ad37922878d8882d1621ced7c909e4dfbaf7fc08d0e0d313ac47acf0f0a"), looks := false }, kinds := [], alts := [], laidByText := true, laidKinds := [.data, .pinned], laidTests := true, laidLooks := .later }
def StepWholeCardSaid : Prop := Claim7.holds Tryd.pinned (.plain (OpenSpec.ofChange stepWholeSpec)) stepWholeCard

/-- THE TIED CARD OF 'tesseralaw13.StepSooner'. -/
def stepSoonerCard : Claim7 := { stood := { row := stepSoonerRow, standIns := [], harness := (true, "73677ad37922878d8882d1621ced7c909e4dfbaf7fc08d0e0d313ac47acf0f0a"), looks := false }, kinds := [], alts := [], laidByText := true, laidKinds := [.data, .pinned], laidTests := true, laidLooks := .later }
def StepSoonerCardSaid : Prop := Claim7.holds Tryd.pinned (.plain (OpenSpec.ofChange stepSoonerSpec)) stepSoonerCard

/-- THE SECOND FORM's CARD OF 'tesseralaw12.CutNumbers'. -/
def cutNumbersUptoCard : Claim7 := { stood := { row := cutNumbersUptoRow, standIns := [], harness := (true, "73677ad37922878d8882d1621ced7c909e4dfbaf7fc08d0e0d313ac47acf0f0a"), looks := false }, kinds := [], alts := [], laidByText := true, laidKinds := [.data, .pinned], laidTests := true, laidLooks := .later }
def CutNumbersUptoCardSaid : Prop := Claim7.holds Tryd.pinned (.plain (OpenSpec.upto cutNumbersSpec)) cutNumbersUptoCard

/-- THE SECOND FORM's CARD OF 'tesseralaw12.CutTokens'. -/
def cutTokensUptoCard : Claim7 := { stood := { row := cutTokensUptoRow, standIns := [], harness := (true, "73677ad37922878d8882d1621ced7c909e4dfbaf7fc08d0e0d313ac47acf0f0a"), looks := false }, kinds := [], alts := [], laidByText := true, laidKinds := [.data, .pinned], laidTests := true, laidLooks := .later }
def CutTokensUptoCardSaid : Prop := Claim7.holds Tryd.pinned (.plain (OpenSpec.upto cutTokensSpec)) cutTokensUptoCard

/-- THE SECOND FORM's CARD OF 'tesseralaw12.CutWhole'. -/
def cutWholeUptoCard : Claim7 := { stood := { row := cutWholeUptoRow, standIns := [], harness := (true, "73677ad37922878d8882d1621ced7c909e4dfbaf7fc08d0e0d313ac47acf0f0a"), looks := false }, kinds := [], alts := [], laidByText := true, laidKinds := [.data, .pinned], laidTests := true, laidLooks := .later }
def CutWholeUptoCardSaid : Prop := Claim7.holds Tryd.pinned (.plain (OpenSpec.upto cutWholeSpec)) cutWholeUptoCard

/-- THE SECOND FORM's CARD OF 'tesseralaw12.CutAnew'. -/
def cutAnewUptoCard : Claim7 := { stood := { row := cutAnewUptoRow, standIns := [], harness := (true, "73677ad37922878d8882d1621ced7c909e4dfbaf7fc08d0e0d313ac47acf0f0a"), looks := false }, kinds := [], alts := [], laidByText := true, laidKinds := [.data, .pinned], laidTests := true, laidLooks := .later }
def CutAnewUptoCardSaid : Prop := Claim7.holds Tryd.pinned (.plain (OpenSpec.upto cutAnewSpec)) cutAnewUptoCard

/-- THE SECOND FORM's CARD OF 'tesseralaw12.CutKept'. -/
def cutKeptUptoCard : Claim7 := { stood := { row := cutKeptUptoRow, standIns := [], harness := (true, "73677ad37922878d8882d1621ced7c909e4dfbaf7fc08d0e0d313ac47acf0f0a"), looks := false }, kinds := [], alts := [], laidByText := true, laidKinds := [.data, .pinned], laidTests := true, laidLooks := .later }
def CutKeptUptoCardSaid : Prop := Claim7.holds Tryd.pinned (.plain (OpenSpec.upto cutKeptSpec)) cutKeptUptoCard

/-- THE SECOND FORM's CARD OF 'tesseralaw18.DecodeJoins'. -/
def decodeJoinsUptoCard : Claim7 := { stood := { row := decodeJoinsUptoRow, standIns := [], harness := (true, "73677ad37922878d8882d1621ced7c909e4dfbaf7fc08d0e0d313ac47acf0f0a"), looks := false }, kinds := [], alts := [], laidByText := true, laidKinds := [.data, .pinned], laidTests := true, laidLooks := .later }
def DecodeJoinsUptoCardSaid : Prop := Claim7.holds Tryd.pinned (.plain (OpenSpec.upto decodeJoinsSpec)) decodeJoinsUptoCard

/-- THE SECOND FORM's CARD OF 'tesseralaw18.DecodeKept'. -/
def decodeKeptUptoCard : Claim7 := { stood := { row := decodeKeptUptoRow, standIns := [], harness := (true, "73677ad37922878d8882d1621ced7c909e4dfbaf7fc08d0e0d313ac47acf0f0a"), looks := false }, kinds := [], alts := [], laidByText := true, laidKinds := [.data, .pinned], laidTests := true, laidLooks := .later }
def DecodeKeptUptoCardSaid : Prop := Claim7.holds Tryd.pinned (.plain (OpenSpec.upto decodeKeptSpec)) decodeKeptUptoCard

/-- THE SECOND FORM's CARD OF 'tesseralaw18.DecodeNumbers'. -/
def decodeNumbersUptoCard : Claim7 := { stood := { row := decodeNumbersUptoRow, standIns := [], harness := (true, "73677ad37922878d8882d1621ced7c909e4dfbaf7fc08d0e0d313ac47acf0f0a"), looks := false }, kinds := [], alts := [], laidByText := true, laidKinds := [.data, .pinned], laidTests := true, laidLooks := .later }
def DecodeNumbersUptoCardSaid : Prop := Claim7.holds Tryd.pinned (.plain (OpenSpec.upto decodeNumbersSpec)) decodeNumbersUptoCard

/-- THE SECOND FORM's CARD OF 'tesseralaw18.DecodeAll'. -/
def decodeAllUptoCard : Claim7 := { stood := { row := decodeAllUptoRow, standIns := [], harness := (true, "73677ad37922878d8882d1621ced7c909e4dfbaf7fc08d0e0d313ac47acf0f0a"), looks := false }, kinds := [], alts := [], laidByText := true, laidKinds := [.data, .pinned], laidTests := true, laidLooks := .later }
def DecodeAllUptoCardSaid : Prop := Claim7.holds Tryd.pinned (.plain (OpenSpec.upto decodeAllSpec)) decodeAllUptoCard

/-- THE SECOND FORM's CARD OF 'tesseralaw13.StepKept'. -/
def stepKeptUptoCard : Claim7 := { stood := { row := stepKeptUptoRow, standIns := [], harness := (true, "73677ad37922878d8882d1621ced7c909e4dfbaf7fc08d0e0d313ac47acf0f0a"), looks := false }, kinds := [], alts := [], laidByText := true, laidKinds := [.data, .pinned], laidTests := true, laidLooks := .later }
def StepKeptUptoCardSaid : Prop := Claim7.holds Tryd.pinned (.plain (OpenSpec.upto stepKeptSpec)) stepKeptUptoCard

/-- THE SECOND FORM's CARD OF 'tesseralaw13.StepHeld'. -/
def stepHeldUptoCard : Claim7 := { stood := { row := stepHeldUptoRow, standIns := [], harness := (true, "73677ad37922878d8882d1621ced7c909e4dfbaf7fc08d0e0d313ac47acf0f0a"), looks := false }, kinds := [], alts := [], laidByText := true, laidKinds := [.data, .pinned], laidTests := true, laidLooks := .later }
def StepHeldUptoCardSaid : Prop := Claim7.holds Tryd.pinned (.plain (OpenSpec.upto stepHeldSpec)) stepHeldUptoCard

/-- THE SECOND FORM's CARD OF 'tesseralaw13.StepNumbers'. -/
def stepNumbersUptoCard : Claim7 := { stood := { row := stepNumbersUptoRow, standIns := [], harness := (true, "73677ad37922878d8882d1621ced7c909e4dfbaf7fc08d0e0d313ac47acf0f0a"), looks := false }, kinds := [], alts := [], laidByText := true, laidKinds := [.data, .pinned], laidTests := true, laidLooks := .later }
def StepNumbersUptoCardSaid : Prop := Claim7.holds Tryd.pinned (.plain (OpenSpec.upto stepNumbersSpec)) stepNumbersUptoCard

/-- THE SECOND FORM's CARD OF 'tesseralaw13.StepPlays'. -/
def stepPlaysUptoCard : Claim7 := { stood := { row := stepPlaysUptoRow, standIns := [], harness := (true, "73677ad37922878d8882d1621ced7c909e4dfbaf7fc08d0e0d313ac47acf0f0a"), looks := false }, kinds := [], alts := [], laidByText := true, laidKinds := [.data, .pinned], laidTests := true, laidLooks := .later }
def StepPlaysUptoCardSaid : Prop := Claim7.holds Tryd.pinned (.plain (OpenSpec.upto stepPlaysSpec)) stepPlaysUptoCard

/-- THE SECOND FORM's CARD OF 'tesseralaw13.StepWhole'. -/
def stepWholeUptoCard : Claim7 := { stood := { row := stepWholeUptoRow, standIns := [], harness := (true, "73677ad37922878d8882d1621ced7c909e4dfbaf7fc08d0e0d313ac47acf0f0a"), looks := false }, kinds := [], alts := [], laidByText := true, laidKinds := [.data, .pinned], laidTests := true, laidLooks := .later }
def StepWholeUptoCardSaid : Prop := Claim7.holds Tryd.pinned (.plain (OpenSpec.upto stepWholeSpec)) stepWholeUptoCard

/-- THE SECOND FORM's CARD OF 'tesseralaw13.StepSooner'. -/
def stepSoonerUptoCard : Claim7 := { stood := { row := stepSoonerUptoRow, standIns := [], harness := (true, "73677ad37922878d8882d1621ced7c909e4dfbaf7fc08d0e0d313ac47acf0f0a"), looks := false }, kinds := [], alts := [], laidByText := true, laidKinds := [.data, .pinned], laidTests := true, laidLooks := .later }
def StepSoonerUptoCardSaid : Prop := Claim7.holds Tryd.pinned (.plain (OpenSpec.upto stepSoonerSpec)) stepSoonerUptoCard
end Rows
end Go.Proofs.YtendkmldecoogaaDoor
