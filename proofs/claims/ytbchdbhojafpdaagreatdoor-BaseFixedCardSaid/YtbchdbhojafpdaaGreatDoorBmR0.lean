/-
  Memos: their runs.
-/
import Derived.Test.YtbchdbhojafpdaaGreatDoorBmD0
set_option linter.unusedVariables false
set_option linter.unusedSimpArgs false
namespace Go.Proofs.YtbchdbhojafpdaaGreatDoor
open Go Ev
theorem s2 : cutS 13 m2.c = true := by kernel_rfl
set_option maxRecDepth 100000 in
theorem r2 (es : Nat → Nat) : memB (env0.mem 13 []) 60 m2.c es = true := by kernel_rfl
theorem s3 : cutS 13 m3.c = true := by kernel_rfl
set_option maxRecDepth 100000 in
theorem r3 (es : Nat → Nat) : memB (env0.mem 13 []) 60 m3.c es = true := by kernel_rfl
theorem s1 : cutS 13 m1.c = true := by kernel_rfl
set_option maxRecDepth 100000 in
theorem r1 (es : Nat → Nat) : memB (env0.mem 13 [(39, [m3]), (72, [m2])]) 60 m1.c es = true := by kernel_rfl
theorem s6 : cutS 13 m6.c = true := by kernel_rfl
set_option maxRecDepth 100000 in
theorem r6 (es : Nat → Nat) : memB (env0.mem 13 []) 60 m6.c es = true := by kernel_rfl
theorem s5 : cutS 13 m5.c = true := by kernel_rfl
set_option maxRecDepth 100000 in
theorem r5 (es : Nat → Nat) : memB (env0.mem 13 [(49, [m6])]) 60 m5.c es = true := by kernel_rfl
theorem s10 : cutS 13 m10.c = true := by kernel_rfl
set_option maxRecDepth 100000 in
theorem r10 (es : Nat → Nat) : memB (env0.mem 13 []) 60 m10.c es = true := by kernel_rfl
end Go.Proofs.YtbchdbhojafpdaaGreatDoor
