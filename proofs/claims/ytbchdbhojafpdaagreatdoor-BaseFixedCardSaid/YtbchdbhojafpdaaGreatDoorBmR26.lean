/-
  Memos: their runs.
-/
import Derived.Test.YtbchdbhojafpdaaGreatDoorBmD0
set_option linter.unusedVariables false
set_option linter.unusedSimpArgs false
namespace Go.Proofs.YtbchdbhojafpdaaGreatDoor
open Go Ev
theorem s474 : cutS 13 m474.c = true := by kernel_rfl
set_option maxRecDepth 100000 in
theorem r474 (es : Nat → Nat) : memB (env0.mem 13 []) 60 m474.c es = true := by kernel_rfl
end Go.Proofs.YtbchdbhojafpdaaGreatDoor
