/-
  Memos: their runs.
-/
import Derived.Test.YtldfdadpfjcpcaaGreatDoorTmD0
set_option linter.unusedVariables false
set_option linter.unusedSimpArgs false
namespace Go.Proofs.YtldfdadpfjcpcaaGreatDoor
open Go Ev
theorem s0 : cutS 11 m0.c = true := by kernel_rfl
set_option maxRecDepth 100000 in
theorem r0 (es : Nat → Nat) : memB (env0.mem 11 [(6, [m29, m30, m31, m66]), (7, [m32, m55]), (9, [m1]), (10, [m21])]) 60 m0.c es = true := by kernel_rfl
theorem s71 : cutS 11 m71.c = true := by kernel_rfl
set_option maxRecDepth 100000 in
theorem r71 (es : Nat → Nat) : memB (env0.mem 11 []) 60 m71.c es = true := by kernel_rfl
theorem s72 : cutS 11 m72.c = true := by kernel_rfl
set_option maxRecDepth 100000 in
theorem r72 (es : Nat → Nat) : memB (env0.mem 11 []) 60 m72.c es = true := by kernel_rfl
theorem s70 : cutS 11 m70.c = true := by kernel_rfl
set_option maxRecDepth 100000 in
theorem r70 (es : Nat → Nat) : memB (env0.mem 11 [(108, [m72]), (110, [m71])]) 60 m70.c es = true := by kernel_rfl
end Go.Proofs.YtldfdadpfjcpcaaGreatDoor
