/-
  No cell of these rows narrows 'for every input' (looked for: loops, veiled, ifaces, maps, wideKeys, modest, calm, conditions, laid).
  DERIVED. THE GIVEN ROWS OF THIS SEAT. 15 by the template 'for every input the law returns true; each argument reads behind the call as it read before'; 0 by the template 'total and deterministic' (their statements: YtgddlcbaieclcaaTotals.lean).
  GIVEN WITH THE SEED: the statements are not yours to turn. If you find one false, say at which input.
  Laid BY PROGRAM, IN A SANDBOX (cutbox-rows.mjs): the forced cells as the released guide's own fill.sh prints them over the translation 89f9513c190328f3… (all of the seat's roots in one cut). By AI agents, Wed Nov 11 2026. No macro, syntax, notation, axiom, sorry.
-/
import Derived.Test.YtgddlcbaieclcaaChecked
import GoSem.Claim
import GoSem.ClaimJoined
import GoSem.ClaimMapViews
import Derived.JoinedTies
import Derived.KernelRfl
namespace Go.Proofs.Ytgddlcbaieclcaa
/- THE CELL 'sum', in the pinned program and in every row, IS THE sha256 OF THE DUMP (.gsa) THAT YtgddlcbaieclcaaProg.lean LOADS. Nothing in Lean hashes anything: it is a label: what it is worth is what the hold of that sum in a sandbox is worth. -/
noncomputable def Try.pinned : Pinned := { name := "ytgddlcbaieclcaa", sum := "89f9513c190328f3f5c683e315877196dbc31ce009d1065127c737bdf8097633", checked := Try.checked }
namespace Rows
def none {H : Type} : Left H := { results := [], args := [] }

/-- 'tesseralaw20.WalkOf': WHATEVER THE INPUT: true; the input reads as it did. -/
def walkOfSpec : ChangeSpec := { name := "walkOf", fn := fun _ => fun
  | [d1, d2] => { results := [.lit (.bool true)], args := [d1, d2] }
  | _ => none }
def walkOfRow : OpenClaim := { program := "ytgddlcbaieclcaa", sum := "89f9513c190328f3f5c683e315877196dbc31ce009d1065127c737bdf8097633", func := "tessera/tesseralaw20.WalkOf", spec := "walkOf", plainKeys := false, apart := false }
def WalkOfSaid : Prop := walkOfRow.holds Try.pinned (OpenSpec.ofChange walkOfSpec)

/-- ITS FALSE NEIGHBOUR: 'it returns false'. Refute it at one input. -/
def walkOfWrong : ChangeSpec := { name := "walkOf", fn := fun _ => fun
  | [d1, d2] => { results := [.lit (.bool false)], args := [d1, d2] }
  | _ => none }
def WalkOfWrongFalsely : Prop := walkOfRow.holds Try.pinned (OpenSpec.ofChange walkOfWrong)

/-- 'tesseralaw20.WalkTurns': WHATEVER THE INPUT: true; the input reads as it did. -/
def walkTurnsSpec : ChangeSpec := { name := "walkTurns", fn := fun _ => fun
  | [d1, d2] => { results := [.lit (.bool true)], args := [d1, d2] }
  | _ => none }
def walkTurnsRow : OpenClaim := { program := "ytgddlcbaieclcaa", sum := "89f9513c190328f3f5c683e315877196dbc31ce009d1065127c737bdf8097633", func := "tessera/tesseralaw20.WalkTurns", spec := "walkTurns", plainKeys := false, apart := false }
def WalkTurnsSaid : Prop := walkTurnsRow.holds Try.pinned (OpenSpec.ofChange walkTurnsSpec)

/-- ITS FALSE NEIGHBOUR: 'it returns false'. Refute it at one input. -/
def walkTurnsWrong : ChangeSpec := { name := "walkTurns", fn := fun _ => fun
  | [d1, d2] => { results := [.lit (.bool false)], args := [d1, d2] }
  | _ => none }
def WalkTurnsWrongFalsely : Prop := walkTurnsRow.holds Try.pinned (OpenSpec.ofChange walkTurnsWrong)

/-- 'tesseralaw20.WalkJoins': WHATEVER THE INPUT: true; the input reads as it did. -/
def walkJoinsSpec : ChangeSpec := { name := "walkJoins", fn := fun _ => fun
  | [d1, d2] => { results := [.lit (.bool true)], args := [d1, d2] }
  | _ => none }
def walkJoinsRow : OpenClaim := { program := "ytgddlcbaieclcaa", sum := "89f9513c190328f3f5c683e315877196dbc31ce009d1065127c737bdf8097633", func := "tessera/tesseralaw20.WalkJoins", spec := "walkJoins", plainKeys := false, apart := false }
def WalkJoinsSaid : Prop := walkJoinsRow.holds Try.pinned (OpenSpec.ofChange walkJoinsSpec)

/-- ITS FALSE NEIGHBOUR: 'it returns false'. Refute it at one input. -/
def walkJoinsWrong : ChangeSpec := { name := "walkJoins", fn := fun _ => fun
  | [d1, d2] => { results := [.lit (.bool false)], args := [d1, d2] }
  | _ => none }
def WalkJoinsWrongFalsely : Prop := walkJoinsRow.holds Try.pinned (OpenSpec.ofChange walkJoinsWrong)

/-- 'tesseralaw20.WalkWhole': WHATEVER THE INPUT: true; the input reads as it did. -/
def walkWholeSpec : ChangeSpec := { name := "walkWhole", fn := fun _ => fun
  | [d1, d2] => { results := [.lit (.bool true)], args := [d1, d2] }
  | _ => none }
def walkWholeRow : OpenClaim := { program := "ytgddlcbaieclcaa", sum := "89f9513c190328f3f5c683e315877196dbc31ce009d1065127c737bdf8097633", func := "tessera/tesseralaw20.WalkWhole", spec := "walkWhole", plainKeys := false, apart := false }
def WalkWholeSaid : Prop := walkWholeRow.holds Try.pinned (OpenSpec.ofChange walkWholeSpec)

/-- ITS FALSE NEIGHBOUR: 'it returns false'. Refute it at one input. -/
def walkWholeWrong : ChangeSpec := { name := "walkWhole", fn := fun _ => fun
  | [d1, d2] => { results := [.lit (.bool false)], args := [d1, d2] }
  | _ => none }
def WalkWholeWrongFalsely : Prop := walkWholeRow.holds Try.pinned (OpenSpec.ofChange walkWholeWrong)

/-- 'tesseralaw20.WalkNumbers': WHATEVER THE INPUT: true; the input reads as it did. -/
def walkNumbersSpec : ChangeSpec := { name := "walkNumbers", fn := fun _ => fun
  | [] => { results := [.lit (.bool true)], args := [] }
  | _ => none }
def walkNumbersRow : OpenClaim := { program := "ytgddlcbaieclcaa", sum := "89f9513c190328f3f5c683e315877196dbc31ce009d1065127c737bdf8097633", func := "tessera/tesseralaw20.WalkNumbers", spec := "walkNumbers", plainKeys := false, apart := false }
def WalkNumbersSaid : Prop := walkNumbersRow.holds Try.pinned (OpenSpec.ofChange walkNumbersSpec)

/-- ITS FALSE NEIGHBOUR: 'it returns false'. Refute it at one input. -/
def walkNumbersWrong : ChangeSpec := { name := "walkNumbers", fn := fun _ => fun
  | [] => { results := [.lit (.bool false)], args := [] }
  | _ => none }
def WalkNumbersWrongFalsely : Prop := walkNumbersRow.holds Try.pinned (OpenSpec.ofChange walkNumbersWrong)

/-- 'tesseralaw3.SpansRight': WHATEVER THE INPUT: true; the input reads as it did. -/
def spansRightSpec : ChangeSpec := { name := "spansRight", fn := fun _ => fun
  | [d] => { results := [.lit (.bool true)], args := [d] }
  | _ => none }
def spansRightRow : OpenClaim := { program := "ytgddlcbaieclcaa", sum := "89f9513c190328f3f5c683e315877196dbc31ce009d1065127c737bdf8097633", func := "tessera/tesseralaw3.SpansRight", spec := "spansRight", unfollowed := true, recurses := true, plainKeys := false, apart := false }
def SpansRightSaid : Prop := spansRightRow.holds Try.pinned (OpenSpec.ofChange spansRightSpec)

/-- ITS FALSE NEIGHBOUR: 'it returns false'. Refute it at one input. -/
def spansRightWrong : ChangeSpec := { name := "spansRight", fn := fun _ => fun
  | [d] => { results := [.lit (.bool false)], args := [d] }
  | _ => none }
def SpansRightWrongFalsely : Prop := spansRightRow.holds Try.pinned (OpenSpec.ofChange spansRightWrong)

/-- 'tesseralaw11.LruNumbers': WHATEVER THE INPUT: true; the input reads as it did. -/
def lruNumbersSpec : ChangeSpec := { name := "lruNumbers", fn := fun _ => fun
  | [] => { results := [.lit (.bool true)], args := [] }
  | _ => none }
def lruNumbersRow : OpenClaim := { program := "ytgddlcbaieclcaa", sum := "89f9513c190328f3f5c683e315877196dbc31ce009d1065127c737bdf8097633", func := "tessera/tesseralaw11.LruNumbers", spec := "lruNumbers", plainKeys := false, apart := false }
def LruNumbersSaid : Prop := lruNumbersRow.holds Try.pinned (OpenSpec.ofChange lruNumbersSpec)

/-- ITS FALSE NEIGHBOUR: 'it returns false'. Refute it at one input. -/
def lruNumbersWrong : ChangeSpec := { name := "lruNumbers", fn := fun _ => fun
  | [] => { results := [.lit (.bool false)], args := [] }
  | _ => none }
def LruNumbersWrongFalsely : Prop := lruNumbersRow.holds Try.pinned (OpenSpec.ofChange lruNumbersWrong)

/-- 'tesseralaw11.LruPlays': WHATEVER THE INPUT: true; the input reads as it did. -/
def lruPlaysSpec : ChangeSpec := { name := "lruPlays", fn := fun _ => fun
  | [d1, d2] => { results := [.lit (.bool true)], args := [d1, d2] }
  | _ => none }
def lruPlaysRow : OpenClaim := { program := "ytgddlcbaieclcaa", sum := "89f9513c190328f3f5c683e315877196dbc31ce009d1065127c737bdf8097633", func := "tessera/tesseralaw11.LruPlays", spec := "lruPlays", plainKeys := false, apart := false }
def LruPlaysSaid : Prop := lruPlaysRow.holds Try.pinned (OpenSpec.ofChange lruPlaysSpec)

/-- ITS FALSE NEIGHBOUR: 'it returns false'. Refute it at one input. -/
def lruPlaysWrong : ChangeSpec := { name := "lruPlays", fn := fun _ => fun
  | [d1, d2] => { results := [.lit (.bool false)], args := [d1, d2] }
  | _ => none }
def LruPlaysWrongFalsely : Prop := lruPlaysRow.holds Try.pinned (OpenSpec.ofChange lruPlaysWrong)

/-- 'tesseralaw11.LruGreater': WHATEVER THE INPUT: true; the input reads as it did. -/
def lruGreaterSpec : ChangeSpec := { name := "lruGreater", fn := fun _ => fun
  | [d1, d2, d3] => { results := [.lit (.bool true)], args := [d1, d2, d3] }
  | _ => none }
def lruGreaterRow : OpenClaim := { program := "ytgddlcbaieclcaa", sum := "89f9513c190328f3f5c683e315877196dbc31ce009d1065127c737bdf8097633", func := "tessera/tesseralaw11.LruGreater", spec := "lruGreater", plainKeys := false, apart := false }
def LruGreaterSaid : Prop := lruGreaterRow.holds Try.pinned (OpenSpec.ofChange lruGreaterSpec)

/-- ITS FALSE NEIGHBOUR: 'it returns false'. Refute it at one input. -/
def lruGreaterWrong : ChangeSpec := { name := "lruGreater", fn := fun _ => fun
  | [d1, d2, d3] => { results := [.lit (.bool false)], args := [d1, d2, d3] }
  | _ => none }
def LruGreaterWrongFalsely : Prop := lruGreaterRow.holds Try.pinned (OpenSpec.ofChange lruGreaterWrong)

/-- 'tesseralaw11.LruKept': WHATEVER THE INPUT: true; the input reads as it did. -/
def lruKeptSpec : ChangeSpec := { name := "lruKept", fn := fun _ => fun
  | [d] => { results := [.lit (.bool true)], args := [d] }
  | _ => none }
def lruKeptRow : OpenClaim := { program := "ytgddlcbaieclcaa", sum := "89f9513c190328f3f5c683e315877196dbc31ce009d1065127c737bdf8097633", func := "tessera/tesseralaw11.LruKept", spec := "lruKept", unfollowed := true, recurses := true, plainKeys := false, apart := false }
def LruKeptSaid : Prop := lruKeptRow.holds Try.pinned (OpenSpec.ofChange lruKeptSpec)

/-- ITS FALSE NEIGHBOUR: 'it returns false'. Refute it at one input. -/
def lruKeptWrong : ChangeSpec := { name := "lruKept", fn := fun _ => fun
  | [d] => { results := [.lit (.bool false)], args := [d] }
  | _ => none }
def LruKeptWrongFalsely : Prop := lruKeptRow.holds Try.pinned (OpenSpec.ofChange lruKeptWrong)

/-- 'tesseralaw3.SpansNumbers': WHATEVER THE INPUT: true; the input reads as it did. -/
def spansNumbersSpec : ChangeSpec := { name := "spansNumbers", fn := fun _ => fun
  | [] => { results := [.lit (.bool true)], args := [] }
  | _ => none }
def spansNumbersRow : OpenClaim := { program := "ytgddlcbaieclcaa", sum := "89f9513c190328f3f5c683e315877196dbc31ce009d1065127c737bdf8097633", func := "tessera/tesseralaw3.SpansNumbers", spec := "spansNumbers", unfollowed := true, recurses := true, plainKeys := false, apart := false }
def SpansNumbersSaid : Prop := spansNumbersRow.holds Try.pinned (OpenSpec.ofChange spansNumbersSpec)

/-- ITS FALSE NEIGHBOUR: 'it returns false'. Refute it at one input. -/
def spansNumbersWrong : ChangeSpec := { name := "spansNumbers", fn := fun _ => fun
  | [] => { results := [.lit (.bool false)], args := [] }
  | _ => none }
def SpansNumbersWrongFalsely : Prop := spansNumbersRow.holds Try.pinned (OpenSpec.ofChange spansNumbersWrong)

/-- 'tesseralaw3.SpansAsk': WHATEVER THE INPUT: true; the input reads as it did. -/
def spansAskSpec : ChangeSpec := { name := "spansAsk", fn := fun _ => fun
  | [d1, d2, d3] => { results := [.lit (.bool true)], args := [d1, d2, d3] }
  | _ => none }
def spansAskRow : OpenClaim := { program := "ytgddlcbaieclcaa", sum := "89f9513c190328f3f5c683e315877196dbc31ce009d1065127c737bdf8097633", func := "tessera/tesseralaw3.SpansAsk", spec := "spansAsk", unfollowed := true, recurses := true, plainKeys := false, apart := false }
def SpansAskSaid : Prop := spansAskRow.holds Try.pinned (OpenSpec.ofChange spansAskSpec)

/-- ITS FALSE NEIGHBOUR: 'it returns false'. Refute it at one input. -/
def spansAskWrong : ChangeSpec := { name := "spansAsk", fn := fun _ => fun
  | [d1, d2, d3] => { results := [.lit (.bool false)], args := [d1, d2, d3] }
  | _ => none }
def SpansAskWrongFalsely : Prop := spansAskRow.holds Try.pinned (OpenSpec.ofChange spansAskWrong)

/-- 'tesseralaw3.SpansMeets': WHATEVER THE INPUT: true; the input reads as it did. -/
def spansMeetsSpec : ChangeSpec := { name := "spansMeets", fn := fun _ => fun
  | [d1, d2, d3] => { results := [.lit (.bool true)], args := [d1, d2, d3] }
  | _ => none }
def spansMeetsRow : OpenClaim := { program := "ytgddlcbaieclcaa", sum := "89f9513c190328f3f5c683e315877196dbc31ce009d1065127c737bdf8097633", func := "tessera/tesseralaw3.SpansMeets", spec := "spansMeets", unfollowed := true, recurses := true, plainKeys := false, apart := false }
def SpansMeetsSaid : Prop := spansMeetsRow.holds Try.pinned (OpenSpec.ofChange spansMeetsSpec)

/-- ITS FALSE NEIGHBOUR: 'it returns false'. Refute it at one input. -/
def spansMeetsWrong : ChangeSpec := { name := "spansMeets", fn := fun _ => fun
  | [d1, d2, d3] => { results := [.lit (.bool false)], args := [d1, d2, d3] }
  | _ => none }
def SpansMeetsWrongFalsely : Prop := spansMeetsRow.holds Try.pinned (OpenSpec.ofChange spansMeetsWrong)

/-- 'tesseralaw3.SpansAll': WHATEVER THE INPUT: true; the input reads as it did. -/
def spansAllSpec : ChangeSpec := { name := "spansAll", fn := fun _ => fun
  | [d1, d2] => { results := [.lit (.bool true)], args := [d1, d2] }
  | _ => none }
def spansAllRow : OpenClaim := { program := "ytgddlcbaieclcaa", sum := "89f9513c190328f3f5c683e315877196dbc31ce009d1065127c737bdf8097633", func := "tessera/tesseralaw3.SpansAll", spec := "spansAll", unfollowed := true, recurses := true, plainKeys := false, apart := false }
def SpansAllSaid : Prop := spansAllRow.holds Try.pinned (OpenSpec.ofChange spansAllSpec)

/-- ITS FALSE NEIGHBOUR: 'it returns false'. Refute it at one input. -/
def spansAllWrong : ChangeSpec := { name := "spansAll", fn := fun _ => fun
  | [d1, d2] => { results := [.lit (.bool false)], args := [d1, d2] }
  | _ => none }
def SpansAllWrongFalsely : Prop := spansAllRow.holds Try.pinned (OpenSpec.ofChange spansAllWrong)

/-- 'tesseralaw20.WalkIds': WHATEVER THE INPUT: true; the input reads as it did. -/
def walkIdsSpec : ChangeSpec := { name := "walkIds", fn := fun _ => fun
  | [d1, d2] => { results := [.lit (.bool true)], args := [d1, d2] }
  | _ => none }
def walkIdsRow : OpenClaim := { program := "ytgddlcbaieclcaa", sum := "89f9513c190328f3f5c683e315877196dbc31ce009d1065127c737bdf8097633", func := "tessera/tesseralaw20.WalkIds", spec := "walkIds", unfollowed := true, recurses := true, plainKeys := false, apart := false }
def WalkIdsSaid : Prop := walkIdsRow.holds Try.pinned (OpenSpec.ofChange walkIdsSpec)

/-- ITS FALSE NEIGHBOUR: 'it returns false'. Refute it at one input. -/
def walkIdsWrong : ChangeSpec := { name := "walkIds", fn := fun _ => fun
  | [d1, d2] => { results := [.lit (.bool false)], args := [d1, d2] }
  | _ => none }
def WalkIdsWrongFalsely : Prop := walkIdsRow.holds Try.pinned (OpenSpec.ofChange walkIdsWrong)

/- THE SECOND FORM. 'bulk': how many values and letters a reading holds, each counted each time it is reached (what is shared counts as often as it is met; a slice's spare places count too). A statement '..UptoSaid' is the law's where the arguments, and the package variables that the reading takes, are together of bulk at most 1048576: NARROWER than '..Said'. Prove '..Said' where nothing that the law and all that it calls make is longer than what came in: it says more and counts as full. Else prove '..UptoSaid'. A law counts once. -/
mutual
def uptoBulk {H : Type} : DataW H → Nat
  | .lit (.string bytes) => bytes.length + 1
  | .lit _ => 1
  | .nil => 1
  | .ptr d => uptoBulk d + 1
  | .slice elems spare => uptoBulkAll elems + uptoBulkAll spare + 1
  | .agg parts => uptoBulkAll parts + 1
  | .iface _ d => uptoBulk d + 1
  | .map entries => uptoBulkEntries entries + 1
  | .held _ => 1
def uptoBulkAll {H : Type} : List (DataW H) → Nat
  | [] => 0
  | d :: r => uptoBulk d + uptoBulkAll r
def uptoBulkEntries {H : Type} : List (Lit × DataW H) → Nat
  | [] => 0
  | x :: r => uptoBulkEntry x + uptoBulkEntries r
def uptoBulkEntry {H : Type} : Lit × DataW H → Nat
  | (.string bytes, d) => bytes.length + uptoBulk d + 1
  | (_, d) => uptoBulk d + 1
 end
def uptoSmall : (H : Type) → List (DataW H) → Bool := fun _ ds => decide (uptoBulkAll ds ≤ 1048576)
def OpenSpec.upto (s : _root_.Go.ChangeSpec) : _root_.Go.OpenSpec := { _root_.Go.OpenSpec.ofChange s with cond := some uptoSmall }

/-- 'tesseralaw20.WalkOf', WHERE WHAT IT READS IS OF BULK AT MOST 1048576: true; the input reads as it did. -/
def walkOfUptoRow : OpenClaim := { program := "ytgddlcbaieclcaa", sum := "89f9513c190328f3f5c683e315877196dbc31ce009d1065127c737bdf8097633", func := "tessera/tesseralaw20.WalkOf", spec := "walkOf", plainKeys := false, apart := false, narrowed := true }
def WalkOfUptoSaid : Prop := walkOfUptoRow.holds Try.pinned (OpenSpec.upto walkOfSpec)

/-- 'tesseralaw20.WalkTurns', WHERE WHAT IT READS IS OF BULK AT MOST 1048576: true; the input reads as it did. -/
def walkTurnsUptoRow : OpenClaim := { program := "ytgddlcbaieclcaa", sum := "89f9513c190328f3f5c683e315877196dbc31ce009d1065127c737bdf8097633", func := "tessera/tesseralaw20.WalkTurns", spec := "walkTurns", plainKeys := false, apart := false, narrowed := true }
def WalkTurnsUptoSaid : Prop := walkTurnsUptoRow.holds Try.pinned (OpenSpec.upto walkTurnsSpec)

/-- 'tesseralaw20.WalkJoins', WHERE WHAT IT READS IS OF BULK AT MOST 1048576: true; the input reads as it did. -/
def walkJoinsUptoRow : OpenClaim := { program := "ytgddlcbaieclcaa", sum := "89f9513c190328f3f5c683e315877196dbc31ce009d1065127c737bdf8097633", func := "tessera/tesseralaw20.WalkJoins", spec := "walkJoins", plainKeys := false, apart := false, narrowed := true }
def WalkJoinsUptoSaid : Prop := walkJoinsUptoRow.holds Try.pinned (OpenSpec.upto walkJoinsSpec)

/-- 'tesseralaw20.WalkWhole', WHERE WHAT IT READS IS OF BULK AT MOST 1048576: true; the input reads as it did. -/
def walkWholeUptoRow : OpenClaim := { program := "ytgddlcbaieclcaa", sum := "89f9513c190328f3f5c683e315877196dbc31ce009d1065127c737bdf8097633", func := "tessera/tesseralaw20.WalkWhole", spec := "walkWhole", plainKeys := false, apart := false, narrowed := true }
def WalkWholeUptoSaid : Prop := walkWholeUptoRow.holds Try.pinned (OpenSpec.upto walkWholeSpec)

/-- 'tesseralaw20.WalkNumbers', WHERE WHAT IT READS IS OF BULK AT MOST 1048576: true; the input reads as it did. -/
def walkNumbersUptoRow : OpenClaim := { program := "ytgddlcbaieclcaa", sum := "89f9513c190328f3f5c683e315877196dbc31ce009d1065127c737bdf8097633", func := "tessera/tesseralaw20.WalkNumbers", spec := "walkNumbers", plainKeys := false, apart := false, narrowed := true }
def WalkNumbersUptoSaid : Prop := walkNumbersUptoRow.holds Try.pinned (OpenSpec.upto walkNumbersSpec)

/-- 'tesseralaw3.SpansRight', WHERE WHAT IT READS IS OF BULK AT MOST 1048576: true; the input reads as it did. -/
def spansRightUptoRow : OpenClaim := { program := "ytgddlcbaieclcaa", sum := "89f9513c190328f3f5c683e315877196dbc31ce009d1065127c737bdf8097633", func := "tessera/tesseralaw3.SpansRight", spec := "spansRight", unfollowed := true, recurses := true, plainKeys := false, apart := false, narrowed := true }
def SpansRightUptoSaid : Prop := spansRightUptoRow.holds Try.pinned (OpenSpec.upto spansRightSpec)

/-- 'tesseralaw11.LruNumbers', WHERE WHAT IT READS IS OF BULK AT MOST 1048576: true; the input reads as it did. -/
def lruNumbersUptoRow : OpenClaim := { program := "ytgddlcbaieclcaa", sum := "89f9513c190328f3f5c683e315877196dbc31ce009d1065127c737bdf8097633", func := "tessera/tesseralaw11.LruNumbers", spec := "lruNumbers", plainKeys := false, apart := false, narrowed := true }
def LruNumbersUptoSaid : Prop := lruNumbersUptoRow.holds Try.pinned (OpenSpec.upto lruNumbersSpec)

/-- 'tesseralaw11.LruPlays', WHERE WHAT IT READS IS OF BULK AT MOST 1048576: true; the input reads as it did. -/
def lruPlaysUptoRow : OpenClaim := { program := "ytgddlcbaieclcaa", sum := "89f9513c190328f3f5c683e315877196dbc31ce009d1065127c737bdf8097633", func := "tessera/tesseralaw11.LruPlays", spec := "lruPlays", plainKeys := false, apart := false, narrowed := true }
def LruPlaysUptoSaid : Prop := lruPlaysUptoRow.holds Try.pinned (OpenSpec.upto lruPlaysSpec)

/-- 'tesseralaw11.LruGreater', WHERE WHAT IT READS IS OF BULK AT MOST 1048576: true; the input reads as it did. -/
def lruGreaterUptoRow : OpenClaim := { program := "ytgddlcbaieclcaa", sum := "89f9513c190328f3f5c683e315877196dbc31ce009d1065127c737bdf8097633", func := "tessera/tesseralaw11.LruGreater", spec := "lruGreater", plainKeys := false, apart := false, narrowed := true }
def LruGreaterUptoSaid : Prop := lruGreaterUptoRow.holds Try.pinned (OpenSpec.upto lruGreaterSpec)

/-- 'tesseralaw11.LruKept', WHERE WHAT IT READS IS OF BULK AT MOST 1048576: true; the input reads as it did. -/
def lruKeptUptoRow : OpenClaim := { program := "ytgddlcbaieclcaa", sum := "89f9513c190328f3f5c683e315877196dbc31ce009d1065127c737bdf8097633", func := "tessera/tesseralaw11.LruKept", spec := "lruKept", unfollowed := true, recurses := true, plainKeys := false, apart := false, narrowed := true }
def LruKeptUptoSaid : Prop := lruKeptUptoRow.holds Try.pinned (OpenSpec.upto lruKeptSpec)

/-- 'tesseralaw3.SpansNumbers', WHERE WHAT IT READS IS OF BULK AT MOST 1048576: true; the input reads as it did. -/
def spansNumbersUptoRow : OpenClaim := { program := "ytgddlcbaieclcaa", sum := "89f9513c190328f3f5c683e315877196dbc31ce009d1065127c737bdf8097633", func := "tessera/tesseralaw3.SpansNumbers", spec := "spansNumbers", unfollowed := true, recurses := true, plainKeys := false, apart := false, narrowed := true }
def SpansNumbersUptoSaid : Prop := spansNumbersUptoRow.holds Try.pinned (OpenSpec.upto spansNumbersSpec)

/-- 'tesseralaw3.SpansAsk', WHERE WHAT IT READS IS OF BULK AT MOST 1048576: true; the input reads as it did. -/
def spansAskUptoRow : OpenClaim := { program := "ytgddlcbaieclcaa", sum := "89f9513c190328f3f5c683e315877196dbc31ce009d1065127c737bdf8097633", func := "tessera/tesseralaw3.SpansAsk", spec := "spansAsk", unfollowed := true, recurses := true, plainKeys := false, apart := false, narrowed := true }
def SpansAskUptoSaid : Prop := spansAskUptoRow.holds Try.pinned (OpenSpec.upto spansAskSpec)

/-- 'tesseralaw3.SpansMeets', WHERE WHAT IT READS IS OF BULK AT MOST 1048576: true; the input reads as it did. -/
def spansMeetsUptoRow : OpenClaim := { program := "ytgddlcbaieclcaa", sum := "89f9513c190328f3f5c683e315877196dbc31ce009d1065127c737bdf8097633", func := "tessera/tesseralaw3.SpansMeets", spec := "spansMeets", unfollowed := true, recurses := true, plainKeys := false, apart := false, narrowed := true }
def SpansMeetsUptoSaid : Prop := spansMeetsUptoRow.holds Try.pinned (OpenSpec.upto spansMeetsSpec)

/-- 'tesseralaw3.SpansAll', WHERE WHAT IT READS IS OF BULK AT MOST 1048576: true; the input reads as it did. -/
def spansAllUptoRow : OpenClaim := { program := "ytgddlcbaieclcaa", sum := "89f9513c190328f3f5c683e315877196dbc31ce009d1065127c737bdf8097633", func := "tessera/tesseralaw3.SpansAll", spec := "spansAll", unfollowed := true, recurses := true, plainKeys := false, apart := false, narrowed := true }
def SpansAllUptoSaid : Prop := spansAllUptoRow.holds Try.pinned (OpenSpec.upto spansAllSpec)

/-- 'tesseralaw20.WalkIds', WHERE WHAT IT READS IS OF BULK AT MOST 1048576: true; the input reads as it did. -/
def walkIdsUptoRow : OpenClaim := { program := "ytgddlcbaieclcaa", sum := "89f9513c190328f3f5c683e315877196dbc31ce009d1065127c737bdf8097633", func := "tessera/tesseralaw20.WalkIds", spec := "walkIds", unfollowed := true, recurses := true, plainKeys := false, apart := false, narrowed := true }
def WalkIdsUptoSaid : Prop := walkIdsUptoRow.holds Try.pinned (OpenSpec.upto walkIdsSpec)

end Rows
end Go.Proofs.Ytgddlcbaieclcaa
