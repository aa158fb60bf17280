/-
  Memos: their runs.
-/
import Derived.Test.YtbchdbhojafpdaaGreatDoorBmD0
set_option linter.unusedVariables false
set_option linter.unusedSimpArgs false
namespace Go.Proofs.YtbchdbhojafpdaaGreatDoor
open Go Ev
theorem s351 : cutS 13 m351.c = true := by kernel_rfl
set_option maxRecDepth 100000 in
theorem r351 (es : Nat → Nat) : memB (env0.mem 13 [(243, [m333]), (250, [m352, m353, m354, m355, m356])]) 60 m351.c es = true := by kernel_rfl
end Go.Proofs.YtbchdbhojafpdaaGreatDoor
