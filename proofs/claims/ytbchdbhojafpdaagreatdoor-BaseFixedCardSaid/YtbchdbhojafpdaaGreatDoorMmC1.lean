/-
  The orders of regions, certified: part 1.
-/
import Derived.Test.YtbchdbhojafpdaaGreatDoorMmEnv
namespace Go.Proofs.YtbchdbhojafpdaaGreatDoor
open Go Ev
def part1 : List Nat := [51, 54, 56, 58, 61, 66, 72, 76, 77, 78, 80, 81, 82, 83, 87, 89, 95]
theorem part1_ok : List.all part1 certF = true := by kernel_rfl
end Go.Proofs.YtbchdbhojafpdaaGreatDoor
