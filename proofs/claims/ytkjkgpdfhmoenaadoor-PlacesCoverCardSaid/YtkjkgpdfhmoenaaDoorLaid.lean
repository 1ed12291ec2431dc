/-
  The world in which Go's two tables of UTF-8 lie as the rows list them.
-/
import Derived.Test.YtkjkgpdfhmoenaaDoorRows
import Derived.Test.YtkjkgpdfhmoenaaDoorItGo
import Derived.Lib.LaidIn
import Derived.Lib.LaidU8T
namespace Go.Proofs.YtkjkgpdfhmoenaaDoor.Laid
open Go Go.Proofs.YtkjkgpdfhmoenaaDoor.ItGo

theorem first_is : Rows.laid_unicode_utf8_first = Lib.firstData := by kernel_rfl
theorem accept_is : (Rows.laid_unicode_utf8_acceptRanges : DataW Unit) = Lib.acceptData := by kernel_rfl

/-- What the rows list. -/
def laid : List (String × DataW Unit) := [("unicode/utf8.acceptRanges", Rows.laid_unicode_utf8_acceptRanges), ("unicode/utf8.first", Rows.laid_unicode_utf8_first)]

/-- A world in which they lie so. -/
noncomputable def laidWorld (os : Os) : World :=
  let w0 := World.holding Tryd.prog os ⟨#[], #[], []⟩
  let put (h : Array Obj) (g : Nat) (cs : Array Value) : Array Obj := h.modify g fun
    | .cells _ t frozen => .cells cs t frozen
    | o => o
  let h1 := put w0.heap (Shelf.lays197_ren.g 3) (Lib.firstTab.map fun z => Value.int .u8 z).toArray
  let h2 := put h1 (Shelf.lays197_ren.g 4) ((List.range 16).flatMap fun i => [Value.int .u8 (Lib.accLo i), Value.int .u8 (Lib.accHi i)]).toArray
  { w0 with heap := h2 }
theorem laid_met (os : Os) (args : Array Value) : laidMet Tryd.prog laid ((laidWorld os).forCall (fun _ _ => 0) ⟨#[], args, []⟩).memory :=
  (LaidIn.of_run (l := laid) [Shelf.lays197_ren.g 4, Shelf.lays197_ren.g 3] 8 (by kernel_rfl) (by kernel_rfl) (by kernel_rfl) (by kernel_rfl)).met

theorem types : U8Types Tryd.prog Shelf.lays197_ren := { Shelf.lays197 with }
theorem tabs_of {W : World} (hL : laidMetH Tryd.prog laid W) : Tabs W := by
  have hL' : laidMet Tryd.prog laid W := hL
  exact utf8Tabs_of_readsT types ⟨by kernel_rfl, by kernel_rfl, by kernel_rfl, by kernel_rfl, by kernel_rfl, by kernel_rfl, by kernel_rfl⟩ (first_is ▸ Lib.laidMet.reads hL' (.tail _ (.head _))) (accept_is ▸ Lib.laidMet.reads hL' (.head _))
end Go.Proofs.YtkjkgpdfhmoenaaDoor.Laid
