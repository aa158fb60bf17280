/-
  The orders of regions, certified: part 7.
-/
import Derived.Test.YtldfdadpfjcpcaaGreatDoorMmEnv
namespace Go.Proofs.YtldfdadpfjcpcaaGreatDoor
open Go Ev
def part7 : List Nat := [314, 319]
theorem part7_ok : List.all part7 certF = true := by kernel_rfl
end Go.Proofs.YtldfdadpfjcpcaaGreatDoor
