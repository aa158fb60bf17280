/-
  The orders of regions, certified: part 0.
-/
import Derived.Test.YtbchdbhojafpdaaGreatDoorMmEnv
namespace Go.Proofs.YtbchdbhojafpdaaGreatDoor
open Go Ev
def part0 : List Nat := [4, 5, 6, 7, 9, 11, 12, 13, 15, 23, 27, 33, 40, 41, 42, 46, 49]
theorem part0_ok : List.all part0 certF = true := by kernel_rfl
end Go.Proofs.YtbchdbhojafpdaaGreatDoor
