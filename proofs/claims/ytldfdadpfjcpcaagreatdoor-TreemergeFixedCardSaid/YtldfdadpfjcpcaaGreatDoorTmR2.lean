/-
  Memos: their runs.
-/
import Derived.Test.YtldfdadpfjcpcaaGreatDoorTmD0
set_option linter.unusedVariables false
set_option linter.unusedSimpArgs false
namespace Go.Proofs.YtldfdadpfjcpcaaGreatDoor
open Go Ev
theorem s15 : cutS 11 m15.c = true := by kernel_rfl
set_option maxRecDepth 100000 in
theorem r15 (es : Nat → Nat) : memB (env0.mem 11 []) 60 m15.c es = true := by kernel_rfl
theorem s14 : cutS 11 m14.c = true := by kernel_rfl
set_option maxRecDepth 100000 in
theorem r14 (es : Nat → Nat) : memB (env0.mem 11 [(108, [m15]), (110, [m5])]) 60 m14.c es = true := by kernel_rfl
theorem s13 : cutS 11 m13.c = true := by kernel_rfl
set_option maxRecDepth 100000 in
theorem r13 (es : Nat → Nat) : memB (env0.mem 11 [(62, [m14])]) 60 m13.c es = true := by kernel_rfl
end Go.Proofs.YtldfdadpfjcpcaaGreatDoor
