/-
  Memos: their runs.
-/
import Derived.Test.YtldfdadpfjcpcaaGreatDoorTmD0
set_option linter.unusedVariables false
set_option linter.unusedSimpArgs false
namespace Go.Proofs.YtldfdadpfjcpcaaGreatDoor
open Go Ev
theorem s9 : cutS 11 m9.c = true := by kernel_rfl
set_option maxRecDepth 100000 in
theorem r9 (es : Nat → Nat) : memB (env0.mem 11 []) 60 m9.c es = true := by kernel_rfl
theorem s8 : cutS 11 m8.c = true := by kernel_rfl
set_option maxRecDepth 100000 in
theorem r8 (es : Nat → Nat) : memB (env0.mem 11 [(179, [m9])]) 60 m8.c es = true := by kernel_rfl
theorem s10 : cutS 11 m10.c = true := by kernel_rfl
set_option maxRecDepth 100000 in
theorem r10 (es : Nat → Nat) : memB (env0.mem 11 []) 60 m10.c es = true := by kernel_rfl
theorem s7 : cutS 11 m7.c = true := by kernel_rfl
set_option maxRecDepth 100000 in
theorem r7 (es : Nat → Nat) : memB (env0.mem 11 [(102, [m8]), (103, [m10])]) 60 m7.c es = true := by kernel_rfl
theorem s2 : cutS 11 m2.c = true := by kernel_rfl
set_option maxRecDepth 100000 in
theorem r2 (es : Nat → Nat) : memB (env0.mem 11 [(22, [m3]), (59, [m7])]) 60 m2.c es = true := by kernel_rfl
theorem s11 : cutS 11 m11.c = true := by kernel_rfl
set_option maxRecDepth 100000 in
theorem r11 (es : Nat → Nat) : memB (env0.mem 11 []) 60 m11.c es = true := by kernel_rfl
end Go.Proofs.YtldfdadpfjcpcaaGreatDoor
