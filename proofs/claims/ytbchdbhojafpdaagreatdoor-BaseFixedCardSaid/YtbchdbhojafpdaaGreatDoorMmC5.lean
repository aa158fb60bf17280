/-
  The orders of regions, certified: part 5.
-/
import Derived.Test.YtbchdbhojafpdaaGreatDoorMmEnv
namespace Go.Proofs.YtbchdbhojafpdaaGreatDoor
open Go Ev
def part5 : List Nat := [249, 250, 263, 283, 285, 286]
theorem part5_ok : List.all part5 certF = true := by kernel_rfl
end Go.Proofs.YtbchdbhojafpdaaGreatDoor
