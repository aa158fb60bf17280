/-
  Memos: their runs.
-/
import Derived.Test.YtldfdadpfjcpcaaGreatDoorTmD0
set_option linter.unusedVariables false
set_option linter.unusedSimpArgs false
namespace Go.Proofs.YtldfdadpfjcpcaaGreatDoor
open Go Ev
theorem s28 : cutS 11 m28.c = true := by kernel_rfl
set_option maxRecDepth 100000 in
theorem r28 (es : Nat → Nat) : memB (env0.mem 11 []) 60 m28.c es = true := by kernel_rfl
theorem s26 : cutS 11 m26.c = true := by kernel_rfl
set_option maxRecDepth 100000 in
theorem r26 (es : Nat → Nat) : memB (env0.mem 11 [(68, [m23, m27, m28])]) 60 m26.c es = true := by kernel_rfl
theorem s21 : cutS 11 m21.c = true := by kernel_rfl
set_option maxRecDepth 100000 in
theorem r21 (es : Nat → Nat) : memB (env0.mem 11 [(26, [m22, m26])]) 60 m21.c es = true := by kernel_rfl
theorem s29 : cutS 11 m29.c = true := by kernel_rfl
set_option maxRecDepth 100000 in
theorem r29 (es : Nat → Nat) : memB (env0.mem 11 []) 60 m29.c es = true := by kernel_rfl
theorem s30 : cutS 11 m30.c = true := by kernel_rfl
set_option maxRecDepth 100000 in
theorem r30 (es : Nat → Nat) : memB (env0.mem 11 []) 60 m30.c es = true := by kernel_rfl
theorem s31 : cutS 11 m31.c = true := by kernel_rfl
set_option maxRecDepth 100000 in
theorem r31 (es : Nat → Nat) : memB (env0.mem 11 []) 60 m31.c es = true := by kernel_rfl
theorem s35 : cutS 11 m35.c = true := by kernel_rfl
set_option maxRecDepth 100000 in
theorem r35 (es : Nat → Nat) : memB (env0.mem 11 []) 60 m35.c es = true := by kernel_rfl
theorem s34 : cutS 11 m34.c = true := by kernel_rfl
set_option maxRecDepth 100000 in
theorem r34 (es : Nat → Nat) : memB (env0.mem 11 [(68, [m35])]) 60 m34.c es = true := by kernel_rfl
theorem s33 : cutS 11 m33.c = true := by kernel_rfl
set_option maxRecDepth 100000 in
theorem r33 (es : Nat → Nat) : memB (env0.mem 11 [(26, [m34])]) 60 m33.c es = true := by kernel_rfl
theorem s38 : cutS 11 m38.c = true := by kernel_rfl
set_option maxRecDepth 100000 in
theorem r38 (es : Nat → Nat) : memB (env0.mem 11 []) 60 m38.c es = true := by kernel_rfl
theorem s37 : cutS 11 m37.c = true := by kernel_rfl
set_option maxRecDepth 100000 in
theorem r37 (es : Nat → Nat) : memB (env0.mem 11 [(68, [m38])]) 60 m37.c es = true := by kernel_rfl
theorem s36 : cutS 11 m36.c = true := by kernel_rfl
set_option maxRecDepth 100000 in
theorem r36 (es : Nat → Nat) : memB (env0.mem 11 [(26, [m37])]) 60 m36.c es = true := by kernel_rfl
theorem s39 : cutS 11 m39.c = true := by kernel_rfl
set_option maxRecDepth 100000 in
theorem r39 (es : Nat → Nat) : memB (env0.mem 11 [(26, [m34])]) 60 m39.c es = true := by kernel_rfl
theorem s48 : cutS 11 m48.c = true := by kernel_rfl
set_option maxRecDepth 100000 in
theorem r48 (es : Nat → Nat) : memB (env0.mem 11 []) 60 m48.c es = true := by kernel_rfl
end Go.Proofs.YtldfdadpfjcpcaaGreatDoor
