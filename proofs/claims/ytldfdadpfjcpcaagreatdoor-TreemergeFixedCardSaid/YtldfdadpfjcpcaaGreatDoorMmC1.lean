/-
  The orders of regions, certified: part 1.
-/
import Derived.Test.YtldfdadpfjcpcaaGreatDoorMmEnv
namespace Go.Proofs.YtldfdadpfjcpcaaGreatDoor
open Go Ev
def part1 : List Nat := [52, 54, 56, 57, 60, 62, 65, 69, 82, 87, 88, 89, 91, 99, 100, 108, 113]
theorem part1_ok : List.all part1 certF = true := by kernel_rfl
end Go.Proofs.YtldfdadpfjcpcaaGreatDoor
