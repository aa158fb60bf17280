/-
  Memos: their runs.
-/
import Derived.Test.YtbchdbhojafpdaaGreatDoorBmD0
set_option linter.unusedVariables false
set_option linter.unusedSimpArgs false
namespace Go.Proofs.YtbchdbhojafpdaaGreatDoor
open Go Ev
theorem s531 : cutS 13 m531.c = true := by kernel_rfl
set_option maxRecDepth 100000 in
theorem r531 (es : Nat → Nat) : memB (env0.mem 13 [(243, [m333]), (250, [m532, m533, m534, m535, m536])]) 60 m531.c es = true := by kernel_rfl
end Go.Proofs.YtbchdbhojafpdaaGreatDoor
