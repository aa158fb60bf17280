/-
  Memos: their runs.
-/
import Derived.Test.YtldfdadpfjcpcaaGreatDoorTmD0
set_option linter.unusedVariables false
set_option linter.unusedSimpArgs false
namespace Go.Proofs.YtldfdadpfjcpcaaGreatDoor
open Go Ev
theorem s32 : cutS 11 m32.c = true := by kernel_rfl
set_option maxRecDepth 100000 in
theorem r32 (es : Nat → Nat) : memB (env0.mem 11 [(13, [m40, m52]), (32, [m33, m36, m39])]) 60 m32.c es = true := by kernel_rfl
theorem s56 : cutS 11 m56.c = true := by kernel_rfl
set_option maxRecDepth 100000 in
theorem r56 (es : Nat → Nat) : memB (env0.mem 11 []) 60 m56.c es = true := by kernel_rfl
theorem s58 : cutS 11 m58.c = true := by kernel_rfl
set_option maxRecDepth 100000 in
theorem r58 (es : Nat → Nat) : memB (env0.mem 11 [(78, [m42])]) 60 m58.c es = true := by kernel_rfl
theorem s59 : cutS 11 m59.c = true := by kernel_rfl
set_option maxRecDepth 100000 in
theorem r59 (es : Nat → Nat) : memB (env0.mem 11 []) 60 m59.c es = true := by kernel_rfl
theorem s57 : cutS 11 m57.c = true := by kernel_rfl
set_option maxRecDepth 100000 in
theorem r57 (es : Nat → Nat) : memB (env0.mem 11 [(32, [m33, m56]), (37, [m58, m59])]) 60 m57.c es = true := by kernel_rfl
theorem s64 : cutS 11 m64.c = true := by kernel_rfl
set_option maxRecDepth 100000 in
theorem r64 (es : Nat → Nat) : memB (env0.mem 11 [(307, [m47])]) 60 m64.c es = true := by kernel_rfl
theorem s65 : cutS 11 m65.c = true := by kernel_rfl
set_option maxRecDepth 100000 in
theorem r65 (es : Nat → Nat) : memB (env0.mem 11 []) 60 m65.c es = true := by kernel_rfl
theorem s63 : cutS 11 m63.c = true := by kernel_rfl
set_option maxRecDepth 100000 in
theorem r63 (es : Nat → Nat) : memB (env0.mem 11 [(103, [m65]), (272, [m64])]) 60 m63.c es = true := by kernel_rfl
theorem s62 : cutS 11 m62.c = true := by kernel_rfl
set_option maxRecDepth 100000 in
theorem r62 (es : Nat → Nat) : memB (env0.mem 11 [(245, [m63])]) 60 m62.c es = true := by kernel_rfl
theorem s61 : cutS 11 m61.c = true := by kernel_rfl
set_option maxRecDepth 100000 in
theorem r61 (es : Nat → Nat) : memB (env0.mem 11 [(22, [m13]), (26, [m22, m26]), (64, [m20]), (198, [m62])]) 60 m61.c es = true := by kernel_rfl
theorem s60 : cutS 11 m60.c = true := by kernel_rfl
set_option maxRecDepth 100000 in
theorem r60 (es : Nat → Nat) : memB (env0.mem 11 [(26, [m22, m26]), (64, [m20]), (140, [m61])]) 60 m60.c es = true := by kernel_rfl
theorem s55 : cutS 11 m55.c = true := by kernel_rfl
set_option maxRecDepth 100000 in
theorem r55 (es : Nat → Nat) : memB (env0.mem 11 [(13, [m52, m57]), (32, [m33, m39, m56]), (78, [m60])]) 60 m55.c es = true := by kernel_rfl
theorem s66 : cutS 11 m66.c = true := by kernel_rfl
set_option maxRecDepth 100000 in
theorem r66 (es : Nat → Nat) : memB (env0.mem 11 []) 60 m66.c es = true := by kernel_rfl
end Go.Proofs.YtldfdadpfjcpcaaGreatDoor
