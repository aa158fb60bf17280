/-
  Memos: their runs.
-/
import Derived.Test.YtbchdbhojafpdaaGreatDoorBmD0
set_option linter.unusedVariables false
set_option linter.unusedSimpArgs false
namespace Go.Proofs.YtbchdbhojafpdaaGreatDoor
open Go Ev
theorem s332 : cutS 13 m332.c = true := by kernel_rfl
set_option maxRecDepth 100000 in
theorem r332 (es : Nat → Nat) : memB (env0.mem 13 [(243, [m333]), (250, [m336, m337, m338, m339, m340])]) 60 m332.c es = true := by kernel_rfl
end Go.Proofs.YtbchdbhojafpdaaGreatDoor
