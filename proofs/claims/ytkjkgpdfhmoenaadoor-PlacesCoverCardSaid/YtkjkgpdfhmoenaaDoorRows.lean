/-
  NARROWER THAN 'FOR EVERY INPUT', by the rows' own cells (each row's printed sentence says how): EncodeCovers: laid · EncodeGrows: laid · EncodeCounts: laid · PlacesItems: laid · PlacesAt: laid · PlacesCover: laid · PlacesParted: laid · EncodeParts: laid · EncodeKept: laid · PlacesSplit: laid · PlacesKept: laid · PlacesNumbers: laid · EncodeNumbers: laid.
  DERIVED. THE GIVEN ROWS OF THIS SEAT. 13 by the template 'for every input the law returns true; each argument reads behind the call as it read before'; 0 by the template 'total and deterministic' (their statements: YtkjkgpdfhmoenaaDoorTotals.lean).
  GIVEN WITH THE SEED: the statements are not yours to turn. If you find one false, say at which input.
  Laid BY PROGRAM, IN A SANDBOX (cutbox-rows.mjs): the forced cells as the released guide's own fill.sh prints them over the translation 47d8aa89d342213e… (all of the seat's roots in one cut). By AI agents, Wed Nov 11 2026. No macro, syntax, notation, axiom, sorry.
-/
import Derived.Test.YtkjkgpdfhmoenaaDoorChecked
import GoSem.PinnedTables
import GoSem.Claim
import GoSem.ClaimJoined
import GoSem.ClaimMapViews
import Derived.JoinedTies
import Derived.KernelRfl
namespace Go.Proofs.YtkjkgpdfhmoenaaDoor
/- THE CELL 'sum', in the pinned program and in every row, IS THE sha256 OF THE DUMP (.gsa) THAT YtkjkgpdfhmoenaaDoorProg.lean LOADS. Nothing in Lean hashes anything: it is a label: what it is worth is what the hold of that sum in a sandbox is worth. -/
noncomputable def Tryd.pinned : Pinned := { name := "ytkjkgpdfhmoenaadoor", sum := "47d8aa89d342213e922dd9169f4188dffd3caa8ec41edc739ede2403eb7cceb3", checked := Tryd.checked }
namespace Rows
def none {H : Type} : Left H := { results := [], args := [] }

/- WHAT THE LISTED PACKAGE-LEVEL VARIABLES READ AS WHEN THE CALL BEGINS. Each datum BY PROGRAM (the guide's laid-datum.mjs) off the statement by which the dump's own 'gosem.cut.vars' lays the variable. In a bare row this is a premise. The card (YtkjkgpdfhmoenaaDoorCards.lean) ties it to the program's text. -/
def laid_unicode_utf8_acceptRanges {H : Type} : DataW H := .agg [.agg [.lit (.int .u8 128), .lit (.int .u8 191)], .agg [.lit (.int .u8 160), .lit (.int .u8 191)], .agg [.lit (.int .u8 128), .lit (.int .u8 159)], .agg [.lit (.int .u8 144), .lit (.int .u8 191)], .agg [.lit (.int .u8 128), .lit (.int .u8 143)], .agg [.lit (.int .u8 0), .lit (.int .u8 0)], .agg [.lit (.int .u8 0), .lit (.int .u8 0)], .agg [.lit (.int .u8 0), .lit (.int .u8 0)], .agg [.lit (.int .u8 0), .lit (.int .u8 0)], .agg [.lit (.int .u8 0), .lit (.int .u8 0)], .agg [.lit (.int .u8 0), .lit (.int .u8 0)], .agg [.lit (.int .u8 0), .lit (.int .u8 0)], .agg [.lit (.int .u8 0), .lit (.int .u8 0)], .agg [.lit (.int .u8 0), .lit (.int .u8 0)], .agg [.lit (.int .u8 0), .lit (.int .u8 0)], .agg [.lit (.int .u8 0), .lit (.int .u8 0)]]
/-- One of Go's own tables, pinned by name: the form's constant. -/
def laid_unicode_utf8_first : DataW Unit := Go.Pinned.utf8First

/-- 'tesseralaw14.EncodeCovers': WHATEVER THE INPUT: true; the input reads as it did. -/
def encodeCoversSpec : ChangeSpec := { name := "encodeCovers", fn := fun _ => fun
  | [d1, d2, d3] => { results := [.lit (.bool true)], args := [d1, d2, d3] }
  | _ => none }
def encodeCoversRow : OpenClaim := { program := "ytkjkgpdfhmoenaadoor", sum := "47d8aa89d342213e922dd9169f4188dffd3caa8ec41edc739ede2403eb7cceb3", func := "tessera/tesseralaw14.EncodeCovers", spec := "encodeCovers", unfollowed := true, recurses := true, named := ["unicode/utf8.first", "unicode/utf8.acceptRanges"], plainKeys := false, apart := false, laid := [("unicode/utf8.acceptRanges", laid_unicode_utf8_acceptRanges), ("unicode/utf8.first", laid_unicode_utf8_first)] }
def EncodeCoversSaid : Prop := encodeCoversRow.holds Tryd.pinned (OpenSpec.ofChange encodeCoversSpec)

/-- ITS FALSE NEIGHBOUR: 'it returns false'. Refute it at one input. -/
def encodeCoversWrong : ChangeSpec := { name := "encodeCovers", fn := fun _ => fun
  | [d1, d2, d3] => { results := [.lit (.bool false)], args := [d1, d2, d3] }
  | _ => none }
def EncodeCoversWrongFalsely : Prop := encodeCoversRow.holds Tryd.pinned (OpenSpec.ofChange encodeCoversWrong)

/-- 'tesseralaw14.EncodeGrows': WHATEVER THE INPUT: true; the input reads as it did. -/
def encodeGrowsSpec : ChangeSpec := { name := "encodeGrows", fn := fun _ => fun
  | [d1, d2, d3, d4] => { results := [.lit (.bool true)], args := [d1, d2, d3, d4] }
  | _ => none }
def encodeGrowsRow : OpenClaim := { program := "ytkjkgpdfhmoenaadoor", sum := "47d8aa89d342213e922dd9169f4188dffd3caa8ec41edc739ede2403eb7cceb3", func := "tessera/tesseralaw14.EncodeGrows", spec := "encodeGrows", unfollowed := true, recurses := true, named := ["unicode/utf8.first", "unicode/utf8.acceptRanges"], plainKeys := false, apart := false, laid := [("unicode/utf8.acceptRanges", laid_unicode_utf8_acceptRanges), ("unicode/utf8.first", laid_unicode_utf8_first)] }
def EncodeGrowsSaid : Prop := encodeGrowsRow.holds Tryd.pinned (OpenSpec.ofChange encodeGrowsSpec)

/-- ITS FALSE NEIGHBOUR: 'it returns false'. Refute it at one input. -/
def encodeGrowsWrong : ChangeSpec := { name := "encodeGrows", fn := fun _ => fun
  | [d1, d2, d3, d4] => { results := [.lit (.bool false)], args := [d1, d2, d3, d4] }
  | _ => none }
def EncodeGrowsWrongFalsely : Prop := encodeGrowsRow.holds Tryd.pinned (OpenSpec.ofChange encodeGrowsWrong)

/-- 'tesseralaw14.EncodeCounts': WHATEVER THE INPUT: true; the input reads as it did. -/
def encodeCountsSpec : ChangeSpec := { name := "encodeCounts", fn := fun _ => fun
  | [d1, d2] => { results := [.lit (.bool true)], args := [d1, d2] }
  | _ => none }
def encodeCountsRow : OpenClaim := { program := "ytkjkgpdfhmoenaadoor", sum := "47d8aa89d342213e922dd9169f4188dffd3caa8ec41edc739ede2403eb7cceb3", func := "tessera/tesseralaw14.EncodeCounts", spec := "encodeCounts", unfollowed := true, recurses := true, named := ["unicode/utf8.first", "unicode/utf8.acceptRanges"], plainKeys := false, apart := false, laid := [("unicode/utf8.acceptRanges", laid_unicode_utf8_acceptRanges), ("unicode/utf8.first", laid_unicode_utf8_first)] }
def EncodeCountsSaid : Prop := encodeCountsRow.holds Tryd.pinned (OpenSpec.ofChange encodeCountsSpec)

/-- ITS FALSE NEIGHBOUR: 'it returns false'. Refute it at one input. -/
def encodeCountsWrong : ChangeSpec := { name := "encodeCounts", fn := fun _ => fun
  | [d1, d2] => { results := [.lit (.bool false)], args := [d1, d2] }
  | _ => none }
def EncodeCountsWrongFalsely : Prop := encodeCountsRow.holds Tryd.pinned (OpenSpec.ofChange encodeCountsWrong)

/-- 'tesseralaw21.PlacesItems': WHATEVER THE INPUT: true; the input reads as it did. -/
def placesItemsSpec : ChangeSpec := { name := "placesItems", fn := fun _ => fun
  | [d1, d2] => { results := [.lit (.bool true)], args := [d1, d2] }
  | _ => none }
def placesItemsRow : OpenClaim := { program := "ytkjkgpdfhmoenaadoor", sum := "47d8aa89d342213e922dd9169f4188dffd3caa8ec41edc739ede2403eb7cceb3", func := "tessera/tesseralaw21.PlacesItems", spec := "placesItems", unfollowed := true, recurses := true, named := ["unicode/utf8.first", "unicode/utf8.acceptRanges"], plainKeys := false, apart := false, laid := [("unicode/utf8.acceptRanges", laid_unicode_utf8_acceptRanges), ("unicode/utf8.first", laid_unicode_utf8_first)] }
def PlacesItemsSaid : Prop := placesItemsRow.holds Tryd.pinned (OpenSpec.ofChange placesItemsSpec)

/-- ITS FALSE NEIGHBOUR: 'it returns false'. Refute it at one input. -/
def placesItemsWrong : ChangeSpec := { name := "placesItems", fn := fun _ => fun
  | [d1, d2] => { results := [.lit (.bool false)], args := [d1, d2] }
  | _ => none }
def PlacesItemsWrongFalsely : Prop := placesItemsRow.holds Tryd.pinned (OpenSpec.ofChange placesItemsWrong)

/-- 'tesseralaw21.PlacesAt': WHATEVER THE INPUT: true; the input reads as it did. -/
def placesAtSpec : ChangeSpec := { name := "placesAt", fn := fun _ => fun
  | [d1, d2] => { results := [.lit (.bool true)], args := [d1, d2] }
  | _ => none }
def placesAtRow : OpenClaim := { program := "ytkjkgpdfhmoenaadoor", sum := "47d8aa89d342213e922dd9169f4188dffd3caa8ec41edc739ede2403eb7cceb3", func := "tessera/tesseralaw21.PlacesAt", spec := "placesAt", unfollowed := true, recurses := true, named := ["unicode/utf8.first", "unicode/utf8.acceptRanges"], plainKeys := false, apart := false, laid := [("unicode/utf8.acceptRanges", laid_unicode_utf8_acceptRanges), ("unicode/utf8.first", laid_unicode_utf8_first)] }
def PlacesAtSaid : Prop := placesAtRow.holds Tryd.pinned (OpenSpec.ofChange placesAtSpec)

/-- ITS FALSE NEIGHBOUR: 'it returns false'. Refute it at one input. -/
def placesAtWrong : ChangeSpec := { name := "placesAt", fn := fun _ => fun
  | [d1, d2] => { results := [.lit (.bool false)], args := [d1, d2] }
  | _ => none }
def PlacesAtWrongFalsely : Prop := placesAtRow.holds Tryd.pinned (OpenSpec.ofChange placesAtWrong)

/-- 'tesseralaw21.PlacesCover': WHATEVER THE INPUT: true; the input reads as it did. -/
def placesCoverSpec : ChangeSpec := { name := "placesCover", fn := fun _ => fun
  | [d1, d2, d3] => { results := [.lit (.bool true)], args := [d1, d2, d3] }
  | _ => none }
def placesCoverRow : OpenClaim := { program := "ytkjkgpdfhmoenaadoor", sum := "47d8aa89d342213e922dd9169f4188dffd3caa8ec41edc739ede2403eb7cceb3", func := "tessera/tesseralaw21.PlacesCover", spec := "placesCover", unfollowed := true, recurses := true, named := ["unicode/utf8.first", "unicode/utf8.acceptRanges"], plainKeys := false, apart := false, laid := [("unicode/utf8.acceptRanges", laid_unicode_utf8_acceptRanges), ("unicode/utf8.first", laid_unicode_utf8_first)] }
def PlacesCoverSaid : Prop := placesCoverRow.holds Tryd.pinned (OpenSpec.ofChange placesCoverSpec)

/-- ITS FALSE NEIGHBOUR: 'it returns false'. Refute it at one input. -/
def placesCoverWrong : ChangeSpec := { name := "placesCover", fn := fun _ => fun
  | [d1, d2, d3] => { results := [.lit (.bool false)], args := [d1, d2, d3] }
  | _ => none }
def PlacesCoverWrongFalsely : Prop := placesCoverRow.holds Tryd.pinned (OpenSpec.ofChange placesCoverWrong)

/-- 'tesseralaw21.PlacesParted': WHATEVER THE INPUT: true; the input reads as it did. -/
def placesPartedSpec : ChangeSpec := { name := "placesParted", fn := fun _ => fun
  | [d1, d2, d3, d4] => { results := [.lit (.bool true)], args := [d1, d2, d3, d4] }
  | _ => none }
def placesPartedRow : OpenClaim := { program := "ytkjkgpdfhmoenaadoor", sum := "47d8aa89d342213e922dd9169f4188dffd3caa8ec41edc739ede2403eb7cceb3", func := "tessera/tesseralaw21.PlacesParted", spec := "placesParted", unfollowed := true, recurses := true, named := ["unicode/utf8.first", "unicode/utf8.acceptRanges"], plainKeys := false, apart := false, laid := [("unicode/utf8.acceptRanges", laid_unicode_utf8_acceptRanges), ("unicode/utf8.first", laid_unicode_utf8_first)] }
def PlacesPartedSaid : Prop := placesPartedRow.holds Tryd.pinned (OpenSpec.ofChange placesPartedSpec)

/-- ITS FALSE NEIGHBOUR: 'it returns false'. Refute it at one input. -/
def placesPartedWrong : ChangeSpec := { name := "placesParted", fn := fun _ => fun
  | [d1, d2, d3, d4] => { results := [.lit (.bool false)], args := [d1, d2, d3, d4] }
  | _ => none }
def PlacesPartedWrongFalsely : Prop := placesPartedRow.holds Tryd.pinned (OpenSpec.ofChange placesPartedWrong)

/-- 'tesseralaw14.EncodeParts': WHATEVER THE INPUT: true; the input reads as it did. -/
def encodePartsSpec : ChangeSpec := { name := "encodeParts", fn := fun _ => fun
  | [d1, d2, d3] => { results := [.lit (.bool true)], args := [d1, d2, d3] }
  | _ => none }
def encodePartsRow : OpenClaim := { program := "ytkjkgpdfhmoenaadoor", sum := "47d8aa89d342213e922dd9169f4188dffd3caa8ec41edc739ede2403eb7cceb3", func := "tessera/tesseralaw14.EncodeParts", spec := "encodeParts", inPlace := ["internal/abi.NoEscape", "internal/bytealg.MakeNoZero"], unfollowed := true, recurses := true, named := ["unicode/utf8.first", "unicode/utf8.acceptRanges"], plainKeys := false, apart := false, laid := [("unicode/utf8.acceptRanges", laid_unicode_utf8_acceptRanges), ("unicode/utf8.first", laid_unicode_utf8_first)] }
def EncodePartsSaid : Prop := encodePartsRow.holds Tryd.pinned (OpenSpec.ofChange encodePartsSpec)

/-- ITS FALSE NEIGHBOUR: 'it returns false'. Refute it at one input. -/
def encodePartsWrong : ChangeSpec := { name := "encodeParts", fn := fun _ => fun
  | [d1, d2, d3] => { results := [.lit (.bool false)], args := [d1, d2, d3] }
  | _ => none }
def EncodePartsWrongFalsely : Prop := encodePartsRow.holds Tryd.pinned (OpenSpec.ofChange encodePartsWrong)

/-- 'tesseralaw14.EncodeKept': WHATEVER THE INPUT: true; the input reads as it did. -/
def encodeKeptSpec : ChangeSpec := { name := "encodeKept", fn := fun _ => fun
  | [d1, d2] => { results := [.lit (.bool true)], args := [d1, d2] }
  | _ => none }
def encodeKeptRow : OpenClaim := { program := "ytkjkgpdfhmoenaadoor", sum := "47d8aa89d342213e922dd9169f4188dffd3caa8ec41edc739ede2403eb7cceb3", func := "tessera/tesseralaw14.EncodeKept", spec := "encodeKept", inPlace := ["internal/abi.NoEscape", "internal/bytealg.MakeNoZero"], unfollowed := true, recurses := true, named := ["unicode/utf8.first", "unicode/utf8.acceptRanges"], plainKeys := false, apart := false, laid := [("unicode/utf8.acceptRanges", laid_unicode_utf8_acceptRanges), ("unicode/utf8.first", laid_unicode_utf8_first)] }
def EncodeKeptSaid : Prop := encodeKeptRow.holds Tryd.pinned (OpenSpec.ofChange encodeKeptSpec)

/-- ITS FALSE NEIGHBOUR: 'it returns false'. Refute it at one input. -/
def encodeKeptWrong : ChangeSpec := { name := "encodeKept", fn := fun _ => fun
  | [d1, d2] => { results := [.lit (.bool false)], args := [d1, d2] }
  | _ => none }
def EncodeKeptWrongFalsely : Prop := encodeKeptRow.holds Tryd.pinned (OpenSpec.ofChange encodeKeptWrong)

/-- 'tesseralaw21.PlacesSplit': WHATEVER THE INPUT: true; the input reads as it did. -/
def placesSplitSpec : ChangeSpec := { name := "placesSplit", fn := fun _ => fun
  | [d1, d2, d3, d4] => { results := [.lit (.bool true)], args := [d1, d2, d3, d4] }
  | _ => none }
def placesSplitRow : OpenClaim := { program := "ytkjkgpdfhmoenaadoor", sum := "47d8aa89d342213e922dd9169f4188dffd3caa8ec41edc739ede2403eb7cceb3", func := "tessera/tesseralaw21.PlacesSplit", spec := "placesSplit", unfollowed := true, recurses := true, named := ["unicode/utf8.first", "unicode/utf8.acceptRanges"], plainKeys := false, apart := false, laid := [("unicode/utf8.acceptRanges", laid_unicode_utf8_acceptRanges), ("unicode/utf8.first", laid_unicode_utf8_first)] }
def PlacesSplitSaid : Prop := placesSplitRow.holds Tryd.pinned (OpenSpec.ofChange placesSplitSpec)

/-- ITS FALSE NEIGHBOUR: 'it returns false'. Refute it at one input. -/
def placesSplitWrong : ChangeSpec := { name := "placesSplit", fn := fun _ => fun
  | [d1, d2, d3, d4] => { results := [.lit (.bool false)], args := [d1, d2, d3, d4] }
  | _ => none }
def PlacesSplitWrongFalsely : Prop := placesSplitRow.holds Tryd.pinned (OpenSpec.ofChange placesSplitWrong)

/-- 'tesseralaw21.PlacesKept': WHATEVER THE INPUT: true; the input reads as it did. -/
def placesKeptSpec : ChangeSpec := { name := "placesKept", fn := fun _ => fun
  | [d1, d2] => { results := [.lit (.bool true)], args := [d1, d2] }
  | _ => none }
def placesKeptRow : OpenClaim := { program := "ytkjkgpdfhmoenaadoor", sum := "47d8aa89d342213e922dd9169f4188dffd3caa8ec41edc739ede2403eb7cceb3", func := "tessera/tesseralaw21.PlacesKept", spec := "placesKept", unfollowed := true, recurses := true, named := ["unicode/utf8.first", "unicode/utf8.acceptRanges"], plainKeys := false, apart := false, laid := [("unicode/utf8.acceptRanges", laid_unicode_utf8_acceptRanges), ("unicode/utf8.first", laid_unicode_utf8_first)] }
def PlacesKeptSaid : Prop := placesKeptRow.holds Tryd.pinned (OpenSpec.ofChange placesKeptSpec)

/-- ITS FALSE NEIGHBOUR: 'it returns false'. Refute it at one input. -/
def placesKeptWrong : ChangeSpec := { name := "placesKept", fn := fun _ => fun
  | [d1, d2] => { results := [.lit (.bool false)], args := [d1, d2] }
  | _ => none }
def PlacesKeptWrongFalsely : Prop := placesKeptRow.holds Tryd.pinned (OpenSpec.ofChange placesKeptWrong)

/-- 'tesseralaw21.PlacesNumbers': WHATEVER THE INPUT: true; the input reads as it did. -/
def placesNumbersSpec : ChangeSpec := { name := "placesNumbers", fn := fun _ => fun
  | [] => { results := [.lit (.bool true)], args := [] }
  | _ => none }
def placesNumbersRow : OpenClaim := { program := "ytkjkgpdfhmoenaadoor", sum := "47d8aa89d342213e922dd9169f4188dffd3caa8ec41edc739ede2403eb7cceb3", func := "tessera/tesseralaw21.PlacesNumbers", spec := "placesNumbers", unfollowed := true, recurses := true, named := ["unicode/utf8.first", "unicode/utf8.acceptRanges"], plainKeys := false, apart := false, laid := [("unicode/utf8.acceptRanges", laid_unicode_utf8_acceptRanges), ("unicode/utf8.first", laid_unicode_utf8_first)] }
def PlacesNumbersSaid : Prop := placesNumbersRow.holds Tryd.pinned (OpenSpec.ofChange placesNumbersSpec)

/-- ITS FALSE NEIGHBOUR: 'it returns false'. Refute it at one input. -/
def placesNumbersWrong : ChangeSpec := { name := "placesNumbers", fn := fun _ => fun
  | [] => { results := [.lit (.bool false)], args := [] }
  | _ => none }
def PlacesNumbersWrongFalsely : Prop := placesNumbersRow.holds Tryd.pinned (OpenSpec.ofChange placesNumbersWrong)

/-- 'tesseralaw14.EncodeNumbers': WHATEVER THE INPUT: true; the input reads as it did. -/
def encodeNumbersSpec : ChangeSpec := { name := "encodeNumbers", fn := fun _ => fun
  | [] => { results := [.lit (.bool true)], args := [] }
  | _ => none }
def encodeNumbersRow : OpenClaim := { program := "ytkjkgpdfhmoenaadoor", sum := "47d8aa89d342213e922dd9169f4188dffd3caa8ec41edc739ede2403eb7cceb3", func := "tessera/tesseralaw14.EncodeNumbers", spec := "encodeNumbers", inPlace := ["internal/abi.NoEscape", "internal/bytealg.MakeNoZero"], unfollowed := true, recurses := true, named := ["unicode/utf8.first", "unicode/utf8.acceptRanges"], plainKeys := false, apart := false, laid := [("unicode/utf8.acceptRanges", laid_unicode_utf8_acceptRanges), ("unicode/utf8.first", laid_unicode_utf8_first)] }
def EncodeNumbersSaid : Prop := encodeNumbersRow.holds Tryd.pinned (OpenSpec.ofChange encodeNumbersSpec)

/-- ITS FALSE NEIGHBOUR: 'it returns false'. Refute it at one input. -/
def encodeNumbersWrong : ChangeSpec := { name := "encodeNumbers", fn := fun _ => fun
  | [] => { results := [.lit (.bool false)], args := [] }
  | _ => none }
def EncodeNumbersWrongFalsely : Prop := encodeNumbersRow.holds Tryd.pinned (OpenSpec.ofChange encodeNumbersWrong)

/- THE SECOND FORM. 'bulk': how many values and letters a reading holds, each counted each time it is reached (what is shared counts as often as it is met; a slice's spare places count too). A statement '..UptoSaid' is the law's where the arguments, and the package variables that the reading takes, are together of bulk at most 1048576: NARROWER than '..Said'. Prove '..Said' where nothing that the law and all that it calls make is longer than what came in: it says more and counts as full. Else prove '..UptoSaid'. A law counts once. -/
mutual
def uptoBulk {H : Type} : DataW H → Nat
  | .lit (.string bytes) => bytes.length + 1
  | .lit _ => 1
  | .nil => 1
  | .ptr d => uptoBulk d + 1
  | .slice elems spare => uptoBulkAll elems + uptoBulkAll spare + 1
  | .agg parts => uptoBulkAll parts + 1
  | .iface _ d => uptoBulk d + 1
  | .map entries => uptoBulkEntries entries + 1
  | .held _ => 1
def uptoBulkAll {H : Type} : List (DataW H) → Nat
  | [] => 0
  | d :: r => uptoBulk d + uptoBulkAll r
def uptoBulkEntries {H : Type} : List (Lit × DataW H) → Nat
  | [] => 0
  | x :: r => uptoBulkEntry x + uptoBulkEntries r
def uptoBulkEntry {H : Type} : Lit × DataW H → Nat
  | (.string bytes, d) => bytes.length + uptoBulk d + 1
  | (_, d) => uptoBulk d + 1
 end
def uptoSmall : (H : Type) → List (DataW H) → Bool := fun _ ds => decide (uptoBulkAll ds ≤ 1048576)
def OpenSpec.upto (s : _root_.Go.ChangeSpec) : _root_.Go.OpenSpec := { _root_.Go.OpenSpec.ofChange s with cond := some uptoSmall }

/-- 'tesseralaw14.EncodeCovers', WHERE WHAT IT READS IS OF BULK AT MOST 1048576: true; the input reads as it did. -/
def encodeCoversUptoRow : OpenClaim := { program := "ytkjkgpdfhmoenaadoor", sum := "47d8aa89d342213e922dd9169f4188dffd3caa8ec41edc739ede2403eb7cceb3", func := "tessera/tesseralaw14.EncodeCovers", spec := "encodeCovers", unfollowed := true, recurses := true, named := ["unicode/utf8.first", "unicode/utf8.acceptRanges"], plainKeys := false, apart := false, laid := [("unicode/utf8.acceptRanges", laid_unicode_utf8_acceptRanges), ("unicode/utf8.first", laid_unicode_utf8_first)], narrowed := true }
def EncodeCoversUptoSaid : Prop := encodeCoversUptoRow.holds Tryd.pinned (OpenSpec.upto encodeCoversSpec)

/-- 'tesseralaw14.EncodeGrows', WHERE WHAT IT READS IS OF BULK AT MOST 1048576: true; the input reads as it did. -/
def encodeGrowsUptoRow : OpenClaim := { program := "ytkjkgpdfhmoenaadoor", sum := "47d8aa89d342213e922dd9169f4188dffd3caa8ec41edc739ede2403eb7cceb3", func := "tessera/tesseralaw14.EncodeGrows", spec := "encodeGrows", unfollowed := true, recurses := true, named := ["unicode/utf8.first", "unicode/utf8.acceptRanges"], plainKeys := false, apart := false, laid := [("unicode/utf8.acceptRanges", laid_unicode_utf8_acceptRanges), ("unicode/utf8.first", laid_unicode_utf8_first)], narrowed := true }
def EncodeGrowsUptoSaid : Prop := encodeGrowsUptoRow.holds Tryd.pinned (OpenSpec.upto encodeGrowsSpec)

/-- 'tesseralaw14.EncodeCounts', WHERE WHAT IT READS IS OF BULK AT MOST 1048576: true; the input reads as it did. -/
def encodeCountsUptoRow : OpenClaim := { program := "ytkjkgpdfhmoenaadoor", sum := "47d8aa89d342213e922dd9169f4188dffd3caa8ec41edc739ede2403eb7cceb3", func := "tessera/tesseralaw14.EncodeCounts", spec := "encodeCounts", unfollowed := true, recurses := true, named := ["unicode/utf8.first", "unicode/utf8.acceptRanges"], plainKeys := false, apart := false, laid := [("unicode/utf8.acceptRanges", laid_unicode_utf8_acceptRanges), ("unicode/utf8.first", laid_unicode_utf8_first)], narrowed := true }
def EncodeCountsUptoSaid : Prop := encodeCountsUptoRow.holds Tryd.pinned (OpenSpec.upto encodeCountsSpec)

/-- 'tesseralaw21.PlacesItems', WHERE WHAT IT READS IS OF BULK AT MOST 1048576: true; the input reads as it did. -/
def placesItemsUptoRow : OpenClaim := { program := "ytkjkgpdfhmoenaadoor", sum := "47d8aa89d342213e922dd9169f4188dffd3caa8ec41edc739ede2403eb7cceb3", func := "tessera/tesseralaw21.PlacesItems", spec := "placesItems", unfollowed := true, recurses := true, named := ["unicode/utf8.first", "unicode/utf8.acceptRanges"], plainKeys := false, apart := false, laid := [("unicode/utf8.acceptRanges", laid_unicode_utf8_acceptRanges), ("unicode/utf8.first", laid_unicode_utf8_first)], narrowed := true }
def PlacesItemsUptoSaid : Prop := placesItemsUptoRow.holds Tryd.pinned (OpenSpec.upto placesItemsSpec)

/-- 'tesseralaw21.PlacesAt', WHERE WHAT IT READS IS OF BULK AT MOST 1048576: true; the input reads as it did. -/
def placesAtUptoRow : OpenClaim := { program := "ytkjkgpdfhmoenaadoor", sum := "47d8aa89d342213e922dd9169f4188dffd3caa8ec41edc739ede2403eb7cceb3", func := "tessera/tesseralaw21.PlacesAt", spec := "placesAt", unfollowed := true, recurses := true, named := ["unicode/utf8.first", "unicode/utf8.acceptRanges"], plainKeys := false, apart := false, laid := [("unicode/utf8.acceptRanges", laid_unicode_utf8_acceptRanges), ("unicode/utf8.first", laid_unicode_utf8_first)], narrowed := true }
def PlacesAtUptoSaid : Prop := placesAtUptoRow.holds Tryd.pinned (OpenSpec.upto placesAtSpec)

/-- 'tesseralaw21.PlacesCover', WHERE WHAT IT READS IS OF BULK AT MOST 1048576: true; the input reads as it did. -/
def placesCoverUptoRow : OpenClaim := { program := "ytkjkgpdfhmoenaadoor", sum := "47d8aa89d342213e922dd9169f4188dffd3caa8ec41edc739ede2403eb7cceb3", func := "tessera/tesseralaw21.PlacesCover", spec := "placesCover", unfollowed := true, recurses := true, named := ["unicode/utf8.first", "unicode/utf8.acceptRanges"], plainKeys := false, apart := false, laid := [("unicode/utf8.acceptRanges", laid_unicode_utf8_acceptRanges), ("unicode/utf8.first", laid_unicode_utf8_first)], narrowed := true }
def PlacesCoverUptoSaid : Prop := placesCoverUptoRow.holds Tryd.pinned (OpenSpec.upto placesCoverSpec)

/-- 'tesseralaw21.PlacesParted', WHERE WHAT IT READS IS OF BULK AT MOST 1048576: true; the input reads as it did. -/
def placesPartedUptoRow : OpenClaim := { program := "ytkjkgpdfhmoenaadoor", sum := "47d8aa89d342213e922dd9169f4188dffd3caa8ec41edc739ede2403eb7cceb3", func := "tessera/tesseralaw21.PlacesParted", spec := "placesParted", unfollowed := true, recurses := true, named := ["unicode/utf8.first", "unicode/utf8.acceptRanges"], plainKeys := false, apart := false, laid := [("unicode/utf8.acceptRanges", laid_unicode_utf8_acceptRanges), ("unicode/utf8.first", laid_unicode_utf8_first)], narrowed := true }
def PlacesPartedUptoSaid : Prop := placesPartedUptoRow.holds Tryd.pinned (OpenSpec.upto placesPartedSpec)

/-- 'tesseralaw14.EncodeParts', WHERE WHAT IT READS IS OF BULK AT MOST 1048576: true; the input reads as it did. -/
def encodePartsUptoRow : OpenClaim := { program := "ytkjkgpdfhmoenaadoor", sum := "47d8aa89d342213e922dd9169f4188dffd3caa8ec41edc739ede2403eb7cceb3", func := "tessera/tesseralaw14.EncodeParts", spec := "encodeParts", inPlace := ["internal/abi.NoEscape", "internal/bytealg.MakeNoZero"], unfollowed := true, recurses := true, named := ["unicode/utf8.first", "unicode/utf8.acceptRanges"], plainKeys := false, apart := false, laid := [("unicode/utf8.acceptRanges", laid_unicode_utf8_acceptRanges), ("unicode/utf8.first", laid_unicode_utf8_first)], narrowed := true }
def EncodePartsUptoSaid : Prop := encodePartsUptoRow.holds Tryd.pinned (OpenSpec.upto encodePartsSpec)

/-- 'tesseralaw14.EncodeKept', WHERE WHAT IT READS IS OF BULK AT MOST 1048576: true; the input reads as it did. -/
def encodeKeptUptoRow : OpenClaim := { program := "ytkjkgpdfhmoenaadoor", sum := "47d8aa89d342213e922dd9169f4188dffd3caa8ec41edc739ede2403eb7cceb3", func := "tessera/tesseralaw14.EncodeKept", spec := "encodeKept", inPlace := ["internal/abi.NoEscape", "internal/bytealg.MakeNoZero"], unfollowed := true, recurses := true, named := ["unicode/utf8.first", "unicode/utf8.acceptRanges"], plainKeys := false, apart := false, laid := [("unicode/utf8.acceptRanges", laid_unicode_utf8_acceptRanges), ("unicode/utf8.first", laid_unicode_utf8_first)], narrowed := true }
def EncodeKeptUptoSaid : Prop := encodeKeptUptoRow.holds Tryd.pinned (OpenSpec.upto encodeKeptSpec)

/-- 'tesseralaw21.PlacesSplit', WHERE WHAT IT READS IS OF BULK AT MOST 1048576: true; the input reads as it did. -/
def placesSplitUptoRow : OpenClaim := { program := "ytkjkgpdfhmoenaadoor", sum := "47d8aa89d342213e922dd9169f4188dffd3caa8ec41edc739ede2403eb7cceb3", func := "tessera/tesseralaw21.PlacesSplit", spec := "placesSplit", unfollowed := true, recurses := true, named := ["unicode/utf8.first", "unicode/utf8.acceptRanges"], plainKeys := false, apart := false, laid := [("unicode/utf8.acceptRanges", laid_unicode_utf8_acceptRanges), ("unicode/utf8.first", laid_unicode_utf8_first)], narrowed := true }
def PlacesSplitUptoSaid : Prop := placesSplitUptoRow.holds Tryd.pinned (OpenSpec.upto placesSplitSpec)

/-- 'tesseralaw21.PlacesKept', WHERE WHAT IT READS IS OF BULK AT MOST 1048576: true; the input reads as it did. -/
def placesKeptUptoRow : OpenClaim := { program := "ytkjkgpdfhmoenaadoor", sum := "47d8aa89d342213e922dd9169f4188dffd3caa8ec41edc739ede2403eb7cceb3", func := "tessera/tesseralaw21.PlacesKept", spec := "placesKept", unfollowed := true, recurses := true, named := ["unicode/utf8.first", "unicode/utf8.acceptRanges"], plainKeys := false, apart := false, laid := [("unicode/utf8.acceptRanges", laid_unicode_utf8_acceptRanges), ("unicode/utf8.first", laid_unicode_utf8_first)], narrowed := true }
def PlacesKeptUptoSaid : Prop := placesKeptUptoRow.holds Tryd.pinned (OpenSpec.upto placesKeptSpec)

/-- 'tesseralaw21.PlacesNumbers', WHERE WHAT IT READS IS OF BULK AT MOST 1048576: true; the input reads as it did. -/
def placesNumbersUptoRow : OpenClaim := { program := "ytkjkgpdfhmoenaadoor", sum := "47d8aa89d342213e922dd9169f4188dffd3caa8ec41edc739ede2403eb7cceb3", func := "tessera/tesseralaw21.PlacesNumbers", spec := "placesNumbers", unfollowed := true, recurses := true, named := ["unicode/utf8.first", "unicode/utf8.acceptRanges"], plainKeys := false, apart := false, laid := [("unicode/utf8.acceptRanges", laid_unicode_utf8_acceptRanges), ("unicode/utf8.first", laid_unicode_utf8_first)], narrowed := true }
def PlacesNumbersUptoSaid : Prop := placesNumbersUptoRow.holds Tryd.pinned (OpenSpec.upto placesNumbersSpec)

/-- 'tesseralaw14.EncodeNumbers', WHERE WHAT IT READS IS OF BULK AT MOST 1048576: true; the input reads as it did. -/
def encodeNumbersUptoRow : OpenClaim := { program := "ytkjkgpdfhmoenaadoor", sum := "47d8aa89d342213e922dd9169f4188dffd3caa8ec41edc739ede2403eb7cceb3", func := "tessera/tesseralaw14.EncodeNumbers", spec := "encodeNumbers", inPlace := ["internal/abi.NoEscape", "internal/bytealg.MakeNoZero"], unfollowed := true, recurses := true, named := ["unicode/utf8.first", "unicode/utf8.acceptRanges"], plainKeys := false, apart := false, laid := [("unicode/utf8.acceptRanges", laid_unicode_utf8_acceptRanges), ("unicode/utf8.first", laid_unicode_utf8_first)], narrowed := true }
def EncodeNumbersUptoSaid : Prop := encodeNumbersUptoRow.holds Tryd.pinned (OpenSpec.upto encodeNumbersSpec)

end Rows
end Go.Proofs.YtkjkgpdfhmoenaaDoor
