/-
  DERIVED. GIVEN WITH THE SEED: THE CARDS: each row of YtkjkgpdfhmoenaaDoorRows.lean that lists a variable, with what it lists TIED to the program's text (the seventh form; the later family's looks); each row that meets fmt, with fmt's text TOLD by the authors' own Lean function (tested against real Go, not proved from fmt's source: count such statements apart). THE CARD IS WHAT COUNTS. Prove the row's statement (the work); the ties are given (YtkjkgpdfhmoenaaDoorTie.lean); close each card by the builder's one call (the guide's Derived/Test/ToyasCard.lean, 'card_holds'). Laid BY PROGRAM, IN A SANDBOX (cutbox-door.mjs). By AI agents, Wed Nov 11 2026. No macro, syntax, notation, axiom, sorry.
-/
import Derived.Test.YtkjkgpdfhmoenaaDoorRows
import GoSem.ClaimSeven
namespace Go.Proofs.YtkjkgpdfhmoenaaDoor
namespace Rows

/-- THE TIED CARD OF 'tesseralaw14.EncodeCovers'. -/
def encodeCoversCard : Claim7 := { stood := { row := encodeCoversRow, standIns := [], harness := (true, "a250ac083a1cee6123f8daa8534581b4a1e46ec5986d6fd75e8da3f4f1883a72"), looks := false }, kinds := [], alts := [], laidByText := true, laidKinds := [.data, .pinned], laidTests := true, laidLooks := .later }
def EncodeCoversCardSaid : Prop := Claim7.holds Tryd.pinned (.plain (OpenSpec.ofChange encodeCoversSpec)) encodeCoversCard

/-- THE TIED CARD OF 'tesseralaw14.EncodeGrows'. -/
def encodeGrowsCard : Claim7 := { stood := { row := encodeGrowsRow, standIns := [], harness := (true, "a250ac083a1cee6123f8daa8534581b4a1e46ec5986d6fd75e8da3f4f1883a72"), looks := false }, kinds := [], alts := [], laidByText := true, laidKinds := [.data, .pinned], laidTests := true, laidLooks := .later }
def EncodeGrowsCardSaid : Prop := Claim7.holds Tryd.pinned (.plain (OpenSpec.ofChange encodeGrowsSpec)) encodeGrowsCard

/-- THE TIED CARD OF 'tesseralaw14.EncodeCounts'. -/
def encodeCountsCard : Claim7 := { stood := { row := encodeCountsRow, standIns := [], harness := (true, "a250ac083a1cee6123f8daa8534581b4a1e46ec5986d6fd75e8da3f4f1883a72"), looks := false }, kinds := [], alts := [], laidByText := true, laidKinds := [.data, .pinned], laidTests := true, laidLooks := .later }
def EncodeCountsCardSaid : Prop := Claim7.holds Tryd.pinned (.plain (OpenSpec.ofChange encodeCountsSpec)) encodeCountsCard

/-- THE TIED CARD OF 'tesseralaw21.PlacesItems'. -/
def placesItemsCard : Claim7 := { stood := { row := placesItemsRow, standIns := [], harness := (true, "a250ac083a1cee6123f8daa8534581b4a1e46ec5986d6fd75e8da3f4f1883a72"), looks := false }, kinds := [], alts := [], laidByText := true, laidKinds := [.data, .pinned], laidTests := true, laidLooks := .later }
def PlacesItemsCardSaid : Prop := Claim7.holds Tryd.pinned (.plain (OpenSpec.ofChange placesItemsSpec)) placesItemsCard

/-- THE TIED CARD OF 'tesseralaw21.PlacesAt'. -/
def placesAtCard : Claim7 := { stood := { row := placesAtRow, standIns := [], harness := (true, "a250ac083a1cee6123f8daa8534581b4a1e46ec5986d6fd75e8da3f4f1883a72"), looks := false }, kinds := [], alts := [], laidByText := true, laidKinds := [.data, .pinned], laidTests := true, laidLooks := .later }
def PlacesAtCardSaid : Prop := Claim7.holds Tryd.pinned (.plain (OpenSpec.ofChange placesAtSpec)) placesAtCard

/-- THE TIED CARD OF 'tesseralaw21.PlacesCover'. -/
def placesCoverCard : Claim7 := { stood := { row := placesCoverRow, standIns := [], harness := (true, "a250ac083a1cee6123f8daa8534581b4a1e46ec5986d6fd75e8da3f4f1883a72"), looks := false }, kinds := [], alts := [], laidByText := true, laidKinds := [.data, .pinned], laidTests := true, laidLooks := .later }
def PlacesCoverCardSaid : Prop := Claim7.holds Tryd.pinned (.plain (OpenSpec.ofChange placesCoverSpec)) placesCoverCard

/-- THE TIED CARD OF 'tesseralaw21.PlacesParted'. -/
def placesPartedCard : Claim7 := { stood := { row := placesPartedRow, standIns := [], harness := (true, "a250ac083a1cee6123f8daa8534581b4a1e46ec5986d6fd75e8da3f4f1883a72"), looks := false }, kinds := [], alts := [], laidByText := true, laidKinds := [.data, .pinned], laidTests := true, laidLooks := .later }
def PlacesPartedCardSaid : Prop := Claim7.holds Tryd.pinned (.plain (OpenSpec.ofChange placesPartedSpec)) placesPartedCard

/-- THE TIED CARD OF 'tesseralaw14.EncodeParts'. -/
def encodePartsCard : Claim7 := { stood := { row := encodePartsRow, standIns := [], harness := (true, "a250ac083a1cee6123f8daa8534581b4a1e46ec5986d6fd75e8da3f4f1883a72"), looks := false }, kinds := [], alts := [], laidByText := true, laidKinds := [.data, .pinned], laidTests := true, laidLooks := .later }
def EncodePartsCardSaid : Prop := Claim7.holds Tryd.pinned (.plain (OpenSpec.ofChange encodePartsSpec)) encodePartsCard

/-- THE TIED CARD OF 'tesseralaw14.EncodeKept'. -/
def encodeKeptCard : Claim7 := { stood := { row := encodeKeptRow, standIns := [], harness := (true, "a250ac083a1cee6123f8daa8534581b4a1e46ec5986d6fd75e8da3f4f1883a72"), looks := false }, kinds := [], alts := [], laidByText := true, laidKinds := [.data, .pinned], laidTests := true, laidLooks := .later }
def EncodeKeptCardSaid : Prop := Claim7.holds Tryd.pinned (.plain (OpenSpec.ofChange encodeKeptSpec)) encodeKeptCard

/-- THE TIED CARD OF 'tesseralaw21.PlacesSplit'. -/
def placesSplitCard : Claim7 := { stood := { row := placesSplitRow, standIns := [], harness := (true, "a250ac083a1cee6123f8daa8534581b4a1e46ec5986d6fd75e8da3f4f1883a72"), looks := false }, kinds := [], alts := [], laidByText := true, laidKinds := [.data, .pinned], laidTests := true, laidLooks := .later }
def PlacesSplitCardSaid : Prop := Claim7.holds Tryd.pinned (.plain (OpenSpec.ofChange placesSplitSpec)) placesSplitCard

/-- THE TIED CARD OF 'tesseralaw21.PlacesKept'. -/
def placesKeptCard : Claim7 := { stood := { row := placesKeptRow, standIns := [], harness := (true, "a250ac083a1cee6123f8daa8534581b4a1e46ec5986d6fd75e8da3f4f1883a72"), looks := false }, kinds := [], alts := [], laidByText := true, laidKinds := [.data, .pinned], laidTests := true, laidLooks := .later }
def PlacesKeptCardSaid : Prop := Claim7.holds Tryd.pinned (.plain (OpenSpec.ofChange placesKeptSpec)) placesKeptCard

/-- THE TIED CARD OF 'tesseralaw21.PlacesNumbers'. -/
def placesNumbersCard : Claim7 := { stood := { row := placesNumbersRow, standIns := [], harness := (true, "a250ac083a1cee6123f8daa8534581b4a1e46ec5986d6fd75e8da3f4f1883a72"), looks := false }, kinds := [], alts := [], laidByText := true, laidKinds := [.data, .pinned], laidTests := true, laidLooks := .later }
def PlacesNumbersCardSaid : Prop := Claim7.holds Tryd.pinned (.plain (OpenSpec.ofChange placesNumbersSpec)) placesNumbersCard

/-- THE TIED CARD OF 'tesseralaw14.EncodeNumbers'. -/
def encodeNumbersCard : Claim7 := { stood := { row := encodeNumbersRow, standIns := [], harness := (true, "a250ac083a1cee6123f8daa8534581b4a1e46ec5986d6fd75e8da3f4f1883a72"), looks := false }, kinds := [], alts := [], laidByText := true, laidKinds := [.data, .pinned], laidTests := true, laidLooks := .later }
def EncodeNumbersCardSaid : Prop := Claim7.holds Tryd.pinned (.plain (OpenSpec.ofChange encodeNumbersSpec)) encodeNumbersCard

/-- THE SECOND FORM's CARD OF 'tesseralaw14.EncodeCovers'. -/
def encodeCoversUptoCard : Claim7 := { stood := { row := encodeCoversUptoRow, standIns := [], harness := (true, "a250ac083a1cee6123f8daa8534581b4a1e46ec5986d6fd75e8da3f4f1883a72"), looks := false }, kinds := [], alts := [], laidByText := true, laidKinds := [.data, .pinned], laidTests := true, laidLooks := .later }
def EncodeCoversUptoCardSaid : Prop := Claim7.holds Tryd.pinned (.plain (OpenSpec.upto encodeCoversSpec)) encodeCoversUptoCard

/-- THE SECOND FORM's CARD OF 'tesseralaw14.EncodeGrows'. -/
def encodeGrowsUptoCard : Claim7 := { stood := { row := encodeGrowsUptoRow, standIns := [], harness := (true, "a250ac083a1cee6123f8daa8534581b4a1e46ec5986d6fd75e8da3f4f1883a72"), looks := false }, kinds := [], alts := [], laidByText := true, laidKinds := [.data, .pinned], laidTests := true, laidLooks := .later }
def EncodeGrowsUptoCardSaid : Prop := Claim7.holds Tryd.pinned (.plain (OpenSpec.upto encodeGrowsSpec)) encodeGrowsUptoCard

/-- THE SECOND FORM's CARD OF 'tesseralaw14.EncodeCounts'. -/
def encodeCountsUptoCard : Claim7 := { stood := { row := encodeCountsUptoRow, standIns := [], harness := (true, "a250ac083a1cee6123f8daa8534581b4a1e46ec5986d6fd75e8da3f4f1883a72"), looks := false }, kinds := [], alts := [], laidByText := true, laidKinds := [.data, .pinned], laidTests := true, laidLooks := .later }
def EncodeCountsUptoCardSaid : Prop := Claim7.holds Tryd.pinned (.plain (OpenSpec.upto encodeCountsSpec)) encodeCountsUptoCard

/-- THE SECOND FORM's CARD OF 'tesseralaw21.PlacesItems'. -/
def placesItemsUptoCard : Claim7 := { stood := { row := placesItemsUptoRow, standIns := [], harness := (true, "a250ac083a1cee6123f8daa8534581b4a1e46ec5986d6fd75e8da3f4f1883a72"), looks := false }, kinds := [], alts := [], laidByText := true, laidKinds := [.data, .pinned], laidTests := true, laidLooks := .later }
def PlacesItemsUptoCardSaid : Prop := Claim7.holds Tryd.pinned (.plain (OpenSpec.upto placesItemsSpec)) placesItemsUptoCard

/-- THE SECOND FORM's CARD OF 'tesseralaw21.PlacesAt'. -/
def placesAtUptoCard : Claim7 := { stood := { row := placesAtUptoRow, standIns := [], harness := (true, "a250ac083a1cee6123f8daa8534581b4a1e46ec5986d6fd75e8da3f4f1883a72"), looks := false }, kinds := [], alts := [], laidByText := true, laidKinds := [.data, .pinned], laidTests := true, laidLooks := .later }
def PlacesAtUptoCardSaid : Prop := Claim7.holds Tryd.pinned (.plain (OpenSpec.upto placesAtSpec)) placesAtUptoCard

/-- THE SECOND FORM's CARD OF 'tesseralaw21.PlacesCover'. -/
def placesCoverUptoCard : Claim7 := { stood := { row := placesCoverUptoRow, standIns := [], harness := (true, "a250ac083a1cee6123f8daa8534581b4a1e46ec5986d6fd75e8da3f4f1883a72"), looks := false }, kinds := [], alts := [], laidByText := true, laidKinds := [.data, .pinned], laidTests := true, laidLooks := .later }
def PlacesCoverUptoCardSaid : Prop := Claim7.holds Tryd.pinned (.plain (OpenSpec.upto placesCoverSpec)) placesCoverUptoCard

/-- THE SECOND FORM's CARD OF 'tesseralaw21.PlacesParted'. -/
def placesPartedUptoCard : Claim7 := { stood := { row := placesPartedUptoRow, standIns := [], harness := (true, "a250ac083a1cee6123f8daa8534581b4a1e46ec5986d6fd75e8da3f4f1883a72"), looks := false }, kinds := [], alts := [], laidByText := true, laidKinds := [.data, .pinned], laidTests := true, laidLooks := .later }
def PlacesPartedUptoCardSaid : Prop := Claim7.holds Tryd.pinned (.plain (OpenSpec.upto placesPartedSpec)) placesPartedUptoCard

/-- THE SECOND FORM's CARD OF 'tesseralaw14.EncodeParts'. -/
def encodePartsUptoCard : Claim7 := { stood := { row := encodePartsUptoRow, standIns := [], harness := (true, "a250ac083a1cee6123f8daa8534581b4a1e46ec5986d6fd75e8da3f4f1883a72"), looks := false }, kinds := [], alts := [], laidByText := true, laidKinds := [.data, .pinned], laidTests := true, laidLooks := .later }
def EncodePartsUptoCardSaid : Prop := Claim7.holds Tryd.pinned (.plain (OpenSpec.upto encodePartsSpec)) encodePartsUptoCard

/-- THE SECOND FORM's CARD OF 'tesseralaw14.EncodeKept'. -/
def encodeKeptUptoCard : Claim7 := { stood := { row := encodeKeptUptoRow, standIns := [], harness := (true, "a250ac083a1cee6123f8daa8534581b4a1e46ec5986d6fd75e8da3f4f1883a72"), looks := false }, kinds := [], alts := [], laidByText := true, laidKinds := [.data, .pinned], laidTests := true, laidLooks := .later }
def EncodeKeptUptoCardSaid : Prop := Claim7.holds Tryd.pinned (.plain (OpenSpec.upto encodeKeptSpec)) encodeKeptUptoCard

/-- THE SECOND FORM's CARD OF 'tesseralaw21.PlacesSplit'. -/
def placesSplitUptoCard : Claim7 := { stood := { row := placesSplitUptoRow, standIns := [], harness := (true, "a250ac083a1cee6123f8daa8534581b4a1e46ec5986d6fd75e8da3f4f1883a72"), looks := false }, kinds := [], alts := [], laidByText := true, laidKinds := [.data, .pinned], laidTests := true, laidLooks := .later }
def PlacesSplitUptoCardSaid : Prop := Claim7.holds Tryd.pinned (.plain (OpenSpec.upto placesSplitSpec)) placesSplitUptoCard

/-- THE SECOND FORM's CARD OF 'tesseralaw21.PlacesKept'. -/
def placesKeptUptoCard : Claim7 := { stood := { row := placesKeptUptoRow, standIns := [], harness := (true, "a250ac083a1cee6123f8daa8534581b4a1e46ec5986d6fd75e8da3f4f1883a72"), looks := false }, kinds := [], alts := [], laidByText := true, laidKinds := [.data, .pinned], laidTests := true, laidLooks := .later }
def PlacesKeptUptoCardSaid : Prop := Claim7.holds Tryd.pinned (.plain (OpenSpec.upto placesKeptSpec)) placesKeptUptoCard

/-- THE SECOND FORM's CARD OF 'tesseralaw21.PlacesNumbers'. -/
def placesNumbersUptoCard : Claim7 := { stood := { row := placesNumbersUptoRow, standIns := [], harness := (true, "a250ac083a1cee6123f8daa8534581b4a1e46ec5986d6fd75e8da3f4f1883a72"), looks := false }, kinds := [], alts := [], laidByText := true, laidKinds := [.data, .pinned], laidTests := true, laidLooks := .later }
def PlacesNumbersUptoCardSaid : Prop := Claim7.holds Tryd.pinned (.plain (OpenSpec.upto placesNumbersSpec)) placesNumbersUptoCard

/-- THE SECOND FORM's CARD OF 'tesseralaw14.EncodeNumbers'. -/
def encodeNumbersUptoCard : Claim7 := { stood := { row := encodeNumbersUptoRow, standIns := [], harness := (true, "a250ac083a1cee6123f8daa8534581b4a1e46ec5986d6fd75e8da3f4f1883a72"), looks := false }, kinds := [], alts := [], laidByText := true, laidKinds := [.data, .pinned], laidTests := true, laidLooks := .later }
def EncodeNumbersUptoCardSaid : Prop := Claim7.holds Tryd.pinned (.plain (OpenSpec.upto encodeNumbersSpec)) encodeNumbersUptoCard
end Rows
end Go.Proofs.YtkjkgpdfhmoenaaDoor
