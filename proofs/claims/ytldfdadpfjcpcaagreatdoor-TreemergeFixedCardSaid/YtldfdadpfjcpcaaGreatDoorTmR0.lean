/-
  Memos: their runs.
-/
import Derived.Test.YtldfdadpfjcpcaaGreatDoorTmD0
set_option linter.unusedVariables false
set_option linter.unusedSimpArgs false
namespace Go.Proofs.YtldfdadpfjcpcaaGreatDoor
open Go Ev
theorem s5 : cutS 11 m5.c = true := by kernel_rfl
set_option maxRecDepth 100000 in
theorem r5 (es : Nat → Nat) : memB (env0.mem 11 []) 60 m5.c es = true := by kernel_rfl
theorem s6 : cutS 11 m6.c = true := by kernel_rfl
set_option maxRecDepth 100000 in
theorem r6 (es : Nat → Nat) : memB (env0.mem 11 []) 60 m6.c es = true := by kernel_rfl
theorem s4 : cutS 11 m4.c = true := by kernel_rfl
set_option maxRecDepth 100000 in
theorem r4 (es : Nat → Nat) : memB (env0.mem 11 [(108, [m6]), (110, [m5])]) 60 m4.c es = true := by kernel_rfl
theorem s3 : cutS 11 m3.c = true := by kernel_rfl
set_option maxRecDepth 100000 in
theorem r3 (es : Nat → Nat) : memB (env0.mem 11 [(62, [m4])]) 60 m3.c es = true := by kernel_rfl
end Go.Proofs.YtldfdadpfjcpcaaGreatDoor
