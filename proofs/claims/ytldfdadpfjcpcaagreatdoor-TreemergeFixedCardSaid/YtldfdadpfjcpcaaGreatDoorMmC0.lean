/-
  The orders of regions, certified: part 0.
-/
import Derived.Test.YtldfdadpfjcpcaaGreatDoorMmEnv
namespace Go.Proofs.YtldfdadpfjcpcaaGreatDoor
open Go Ev
def part0 : List Nat := [3, 4, 7, 8, 10, 13, 15, 18, 23, 27, 32, 38, 40, 48, 49, 50, 51]
theorem part0_ok : List.all part0 certF = true := by kernel_rfl
end Go.Proofs.YtldfdadpfjcpcaaGreatDoor
