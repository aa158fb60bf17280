/-
  The orders of regions, certified: part 6.
-/
import Derived.Test.YtldfdadpfjcpcaaGreatDoorMmEnv
namespace Go.Proofs.YtldfdadpfjcpcaaGreatDoor
open Go Ev
def part6 : List Nat := [265, 269, 272, 273, 280, 284, 288, 289, 290, 292, 306, 307, 308, 310, 311, 312, 313]
theorem part6_ok : List.all part6 certF = true := by kernel_rfl
end Go.Proofs.YtldfdadpfjcpcaaGreatDoor
