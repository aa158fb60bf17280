/-
  Memos: their runs.
-/
import Derived.Test.YtldfdadpfjcpcaaGreatDoorTmD0
set_option linter.unusedVariables false
set_option linter.unusedSimpArgs false
namespace Go.Proofs.YtldfdadpfjcpcaaGreatDoor
open Go Ev
theorem s81 : cutS 11 m81.c = true := by kernel_rfl
set_option maxRecDepth 100000 in
theorem r81 (es : Nat → Nat) : memB (env0.mem 11 []) 60 m81.c es = true := by kernel_rfl
theorem s80 : cutS 11 m80.c = true := by kernel_rfl
set_option maxRecDepth 100000 in
theorem r80 (es : Nat → Nat) : memB (env0.mem 11 [(108, [m81]), (110, [m71])]) 60 m80.c es = true := by kernel_rfl
theorem s79 : cutS 11 m79.c = true := by kernel_rfl
set_option maxRecDepth 100000 in
theorem r79 (es : Nat → Nat) : memB (env0.mem 11 [(62, [m80])]) 60 m79.c es = true := by kernel_rfl
end Go.Proofs.YtldfdadpfjcpcaaGreatDoor
