/-
  The orders of regions, certified: part 5.
-/
import Derived.Test.YtldfdadpfjcpcaaGreatDoorMmEnv
namespace Go.Proofs.YtldfdadpfjcpcaaGreatDoor
open Go Ev
def part5 : List Nat := [217, 218, 220, 221, 222, 229, 232, 233, 240, 243, 244, 245, 246, 255, 256, 260, 264]
theorem part5_ok : List.all part5 certF = true := by kernel_rfl
end Go.Proofs.YtldfdadpfjcpcaaGreatDoor
