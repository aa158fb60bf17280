/-
  Memos: their runs.
-/
import Derived.Test.YtldfdadpfjcpcaaGreatDoorTmD0
set_option linter.unusedVariables false
set_option linter.unusedSimpArgs false
namespace Go.Proofs.YtldfdadpfjcpcaaGreatDoor
open Go Ev
theorem s18 : cutS 11 m18.c = true := by kernel_rfl
set_option maxRecDepth 100000 in
theorem r18 (es : Nat → Nat) : memB (env0.mem 11 []) 60 m18.c es = true := by kernel_rfl
theorem s17 : cutS 11 m17.c = true := by kernel_rfl
set_option maxRecDepth 100000 in
theorem r17 (es : Nat → Nat) : memB (env0.mem 11 [(179, [m18])]) 60 m17.c es = true := by kernel_rfl
theorem s19 : cutS 11 m19.c = true := by kernel_rfl
set_option maxRecDepth 100000 in
theorem r19 (es : Nat → Nat) : memB (env0.mem 11 []) 60 m19.c es = true := by kernel_rfl
theorem s16 : cutS 11 m16.c = true := by kernel_rfl
set_option maxRecDepth 100000 in
theorem r16 (es : Nat → Nat) : memB (env0.mem 11 [(102, [m17]), (103, [m19])]) 60 m16.c es = true := by kernel_rfl
theorem s12 : cutS 11 m12.c = true := by kernel_rfl
set_option maxRecDepth 100000 in
theorem r12 (es : Nat → Nat) : memB (env0.mem 11 [(22, [m13]), (59, [m16])]) 60 m12.c es = true := by kernel_rfl
theorem s20 : cutS 11 m20.c = true := by kernel_rfl
set_option maxRecDepth 100000 in
theorem r20 (es : Nat → Nat) : memB (env0.mem 11 []) 60 m20.c es = true := by kernel_rfl
theorem s1 : cutS 11 m1.c = true := by kernel_rfl
set_option maxRecDepth 100000 in
theorem r1 (es : Nat → Nat) : memB (env0.mem 11 [(21, [m2, m12]), (22, [m3, m13]), (64, [m11, m20])]) 60 m1.c es = true := by kernel_rfl
theorem s23 : cutS 11 m23.c = true := by kernel_rfl
set_option maxRecDepth 100000 in
theorem r23 (es : Nat → Nat) : memB (env0.mem 11 []) 60 m23.c es = true := by kernel_rfl
theorem s24 : cutS 11 m24.c = true := by kernel_rfl
set_option maxRecDepth 100000 in
theorem r24 (es : Nat → Nat) : memB (env0.mem 11 []) 60 m24.c es = true := by kernel_rfl
theorem s25 : cutS 11 m25.c = true := by kernel_rfl
set_option maxRecDepth 100000 in
theorem r25 (es : Nat → Nat) : memB (env0.mem 11 []) 60 m25.c es = true := by kernel_rfl
theorem s22 : cutS 11 m22.c = true := by kernel_rfl
set_option maxRecDepth 100000 in
theorem r22 (es : Nat → Nat) : memB (env0.mem 11 [(68, [m23, m24, m25])]) 60 m22.c es = true := by kernel_rfl
theorem s27 : cutS 11 m27.c = true := by kernel_rfl
set_option maxRecDepth 100000 in
theorem r27 (es : Nat → Nat) : memB (env0.mem 11 []) 60 m27.c es = true := by kernel_rfl
end Go.Proofs.YtldfdadpfjcpcaaGreatDoor
