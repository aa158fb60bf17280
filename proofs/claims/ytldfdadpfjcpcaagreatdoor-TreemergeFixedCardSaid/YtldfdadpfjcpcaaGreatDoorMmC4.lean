/-
  The orders of regions, certified: part 4.
-/
import Derived.Test.YtldfdadpfjcpcaaGreatDoorMmEnv
namespace Go.Proofs.YtldfdadpfjcpcaaGreatDoor
open Go Ev
def part4 : List Nat := [176, 179, 183, 185, 191, 199, 201, 202, 203, 206, 207, 208, 209, 210, 213, 214, 215]
theorem part4_ok : List.all part4 certF = true := by kernel_rfl
end Go.Proofs.YtldfdadpfjcpcaaGreatDoor
