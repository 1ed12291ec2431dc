/-
  Contracts of the library at this program, laid by number (by program).
-/
import Derived.Shelf.Utf8.AppendRune
import Derived.Test.YtendkmldecoogaaDoorProg
namespace Go.Proofs.YtendkmldecoogaaDoor.ShelfA
open Go Go.Shelf
def lays242_ren : Go.Shelf.Ren := ⟨fun | 242 => 142 | 278 => 153 | n => n, fun | 37 => 35 | 21 => 21 | 51 => 229 | 4 => 4 | 5 => 5 | 46 => 137 | n => n, fun | n => n⟩
theorem lays242 : Go.Proofs.Lays.n242 Tryd.prog lays242_ren := {
  mixed := by kernel_rfl
  f242 := Tryd.func142.trans (congrArg some (by kernel_rfl))
  f278 := Tryd.func153.trans (congrArg some (by kernel_rfl))
  t4 := Tryd.underlying4
  a4 := Tryd.isAgg4
  z4 := Tryd.sizeOf4
  v4 := Tryd.zeroValue4
  t5 := Tryd.underlying5
  a5 := Tryd.isAgg5
  z5 := Tryd.sizeOf5
  v5 := Tryd.zeroValue5
  t21 := Tryd.underlying21
  a21 := Tryd.isAgg21
  z21 := Tryd.sizeOf21
  v21 := Tryd.zeroValue21
  t37 := Tryd.underlying35
  a37 := Tryd.isAgg35
  z37 := Tryd.sizeOf35
  v37 := Tryd.zeroValue35
  t46 := Tryd.underlying137
  a46 := Tryd.isAgg137
  z46 := Tryd.sizeOf137
  v46 := Tryd.zeroValue137
  t51 := Tryd.underlying229
  a51 := Tryd.isAgg229
  z51 := Tryd.sizeOf229
  v51 := Tryd.zeroValue229 }
open Go.RowKit in
theorem utf8_AppendRune_row (B : Nat) (v : Value) (n : Nat) (xs : List Value) (r : Int) (hr0 : -2147483648 ≤ r) (hr1 : r ≤ 2147483647) (w : World) (hown : w.ownsRowF B 5 1 v n xs) (hlen : n + 4 ≤ 140737488355328) (hBw : B ≤ w.heap.size) :
    Calls Tryd.prog 142 #[v, .int .i32 r] w fun e w' => ∃ v', e = .returned v' ∧ w'.ownsRowF B 5 1 v' (n + (Lib.runeCells r).length) (xs ++ Lib.runeCells r) ∧ ∃ o, (w.alloc o).grownBy w' v.ownBlock := Any.utf8_AppendRune_row lays242 (by kernel_rfl) B v n xs r hr0 hr1 w hown hlen hBw
end Go.Proofs.YtendkmldecoogaaDoor.ShelfA
