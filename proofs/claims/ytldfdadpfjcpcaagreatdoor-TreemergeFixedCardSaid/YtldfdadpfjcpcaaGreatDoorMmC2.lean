/-
  The orders of regions, certified: part 2.
-/
import Derived.Test.YtldfdadpfjcpcaaGreatDoorMmEnv
namespace Go.Proofs.YtldfdadpfjcpcaaGreatDoor
open Go Ev
def part2 : List Nat := [114, 115, 116, 118, 119, 120, 121, 126, 127, 128, 130, 131, 132, 133, 136, 142, 146]
theorem part2_ok : List.all part2 certF = true := by kernel_rfl
end Go.Proofs.YtldfdadpfjcpcaaGreatDoor
