/-
  The orders of regions, certified: part 4.
-/
import Derived.Test.YtbchdbhojafpdaaGreatDoorMmEnv
namespace Go.Proofs.YtbchdbhojafpdaaGreatDoor
open Go Ev
def part4 : List Nat := [191, 193, 200, 204, 205, 215, 219, 225, 232, 233, 237, 242, 243, 244, 246, 247, 248]
theorem part4_ok : List.all part4 certF = true := by kernel_rfl
end Go.Proofs.YtbchdbhojafpdaaGreatDoor
