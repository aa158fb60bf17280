/-
  The orders of regions, certified: part 2.
-/
import Derived.Test.YtbchdbhojafpdaaGreatDoorMmEnv
namespace Go.Proofs.YtbchdbhojafpdaaGreatDoor
open Go Ev
def part2 : List Nat := [100, 104, 105, 106, 108, 109, 110, 111, 115, 116, 117, 119, 120, 121, 122, 128, 130]
theorem part2_ok : List.all part2 certF = true := by kernel_rfl
end Go.Proofs.YtbchdbhojafpdaaGreatDoor
