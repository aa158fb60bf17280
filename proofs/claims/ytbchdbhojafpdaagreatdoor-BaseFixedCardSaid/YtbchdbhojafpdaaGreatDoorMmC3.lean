/-
  The orders of regions, certified: part 3.
-/
import Derived.Test.YtbchdbhojafpdaaGreatDoorMmEnv
namespace Go.Proofs.YtbchdbhojafpdaaGreatDoor
open Go Ev
def part3 : List Nat := [131, 132, 139, 141, 148, 151, 158, 161, 162, 168, 171, 174, 175, 181, 184, 185, 189]
theorem part3_ok : List.all part3 certF = true := by kernel_rfl
end Go.Proofs.YtbchdbhojafpdaaGreatDoor
