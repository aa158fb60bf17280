/-
  Memos: their runs.
-/
import Derived.Test.YtbchdbhojafpdaaGreatDoorBmD0
set_option linter.unusedVariables false
set_option linter.unusedSimpArgs false
namespace Go.Proofs.YtbchdbhojafpdaaGreatDoor
open Go Ev
theorem s322 : cutS 13 m322.c = true := by kernel_rfl
set_option maxRecDepth 100000 in
theorem r322 (es : Nat → Nat) : memB (env0.mem 13 [(13, [m323, m372, m373])]) 60 m322.c es = true := by kernel_rfl
end Go.Proofs.YtbchdbhojafpdaaGreatDoor
