/-
  The orders of regions, certified: part 3.
-/
import Derived.Test.YtldfdadpfjcpcaaGreatDoorMmEnv
namespace Go.Proofs.YtldfdadpfjcpcaaGreatDoor
open Go Ev
def part3 : List Nat := [147, 148, 150, 151, 152, 153, 155, 156, 158, 159, 160, 169, 170, 171, 173, 174, 175]
theorem part3_ok : List.all part3 certF = true := by kernel_rfl
end Go.Proofs.YtldfdadpfjcpcaaGreatDoor
