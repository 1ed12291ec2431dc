/-
  Maps whose keys are texts.
-/
import Derived.Test.YtendkmldecoogaaDoorProg
import Derived.Test.YtendkmldecoogaaDoorMap
import Derived.Test.YtendkmldecoogaaDoorKit
namespace Go.Proofs.YtendkmldecoogaaDoor.MapStr
open Go Go.RowKit Go.Proofs.YtendkmldecoogaaDoor.Maps
/-- A key as a value. -/
def encK (k : ByteArray) : Value := .string k
theorem keyLaw : KeyLaw Tryd.prog 9 encK := string_law Tryd.underlying9
end Go.Proofs.YtendkmldecoogaaDoor.MapStr
