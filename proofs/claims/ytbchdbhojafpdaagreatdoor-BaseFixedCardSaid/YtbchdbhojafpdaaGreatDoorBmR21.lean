/-
  Memos: their runs.
-/
import Derived.Test.YtbchdbhojafpdaaGreatDoorBmD0
set_option linter.unusedVariables false
set_option linter.unusedSimpArgs false
namespace Go.Proofs.YtbchdbhojafpdaaGreatDoor
open Go Ev
theorem s381 : cutS 13 m381.c = true := by kernel_rfl
set_option maxRecDepth 100000 in
theorem r381 (es : Nat → Nat) : memB (env0.mem 13 []) 60 m381.c es = true := by kernel_rfl
theorem s379 : cutS 13 m379.c = true := by kernel_rfl
set_option maxRecDepth 100000 in
theorem r379 (es : Nat → Nat) : memB (env0.mem 13 [(100, [m10, m380, m381])]) 60 m379.c es = true := by kernel_rfl
theorem s378 : cutS 13 m378.c = true := by kernel_rfl
set_option maxRecDepth 100000 in
theorem r378 (es : Nat → Nat) : memB (env0.mem 13 [(56, [m379])]) 60 m378.c es = true := by kernel_rfl
end Go.Proofs.YtbchdbhojafpdaaGreatDoor
