/-
  Memos: their runs.
-/
import Derived.Test.YtbchdbhojafpdaaGreatDoorBmD0
set_option linter.unusedVariables false
set_option linter.unusedSimpArgs false
namespace Go.Proofs.YtbchdbhojafpdaaGreatDoor
open Go Ev
theorem s201 : cutS 13 m201.c = true := by kernel_rfl
set_option maxRecDepth 100000 in
theorem r201 (es : Nat → Nat) : memB (env0.mem 13 [(100, [m71, m72, m73, m202])]) 60 m201.c es = true := by kernel_rfl
theorem s200 : cutS 13 m200.c = true := by kernel_rfl
set_option maxRecDepth 100000 in
theorem r200 (es : Nat → Nat) : memB (env0.mem 13 [(56, [m201])]) 60 m200.c es = true := by kernel_rfl
end Go.Proofs.YtbchdbhojafpdaaGreatDoor
