/-
  Memos: their runs.
-/
import Derived.Test.YtbchdbhojafpdaaGreatDoorBmD0
set_option linter.unusedVariables false
set_option linter.unusedSimpArgs false
namespace Go.Proofs.YtbchdbhojafpdaaGreatDoor
open Go Ev
theorem s14 : cutS 13 m14.c = true := by kernel_rfl
set_option maxRecDepth 100000 in
theorem r14 (es : Nat → Nat) : memB (env0.mem 13 [(148, [m15])]) 60 m14.c es = true := by kernel_rfl
theorem s56 : cutS 13 m56.c = true := by kernel_rfl
set_option maxRecDepth 100000 in
theorem r56 (es : Nat → Nat) : memB (env0.mem 13 []) 60 m56.c es = true := by kernel_rfl
theorem s13 : cutS 13 m13.c = true := by kernel_rfl
set_option maxRecDepth 100000 in
theorem r13 (es : Nat → Nat) : memB (env0.mem 13 [(96, [m14]), (97, [m56])]) 60 m13.c es = true := by kernel_rfl
theorem s7 : cutS 13 m7.c = true := by kernel_rfl
set_option maxRecDepth 100000 in
theorem r7 (es : Nat → Nat) : memB (env0.mem 13 [(22, [m8]), (53, [m13])]) 60 m7.c es = true := by kernel_rfl
theorem s57 : cutS 13 m57.c = true := by kernel_rfl
set_option maxRecDepth 100000 in
theorem r57 (es : Nat → Nat) : memB (env0.mem 13 []) 60 m57.c es = true := by kernel_rfl
theorem s4 : cutS 13 m4.c = true := by kernel_rfl
set_option maxRecDepth 100000 in
theorem r4 (es : Nat → Nat) : memB (env0.mem 13 [(20, [m5]), (21, [m7]), (22, [m8]), (39, [m57])]) 60 m4.c es = true := by kernel_rfl
theorem s60 : cutS 13 m60.c = true := by kernel_rfl
set_option maxRecDepth 100000 in
theorem r60 (es : Nat → Nat) : memB (env0.mem 13 []) 60 m60.c es = true := by kernel_rfl
theorem s61 : cutS 13 m61.c = true := by kernel_rfl
set_option maxRecDepth 100000 in
theorem r61 (es : Nat → Nat) : memB (env0.mem 13 []) 60 m61.c es = true := by kernel_rfl
theorem s62 : cutS 13 m62.c = true := by kernel_rfl
set_option maxRecDepth 100000 in
theorem r62 (es : Nat → Nat) : memB (env0.mem 13 []) 60 m62.c es = true := by kernel_rfl
theorem s59 : cutS 13 m59.c = true := by kernel_rfl
set_option maxRecDepth 100000 in
theorem r59 (es : Nat → Nat) : memB (env0.mem 13 [(60, [m60, m61, m62])]) 60 m59.c es = true := by kernel_rfl
theorem s58 : cutS 13 m58.c = true := by kernel_rfl
set_option maxRecDepth 100000 in
theorem r58 (es : Nat → Nat) : memB (env0.mem 13 [(26, [m59])]) 60 m58.c es = true := by kernel_rfl
theorem s63 : cutS 13 m63.c = true := by kernel_rfl
set_option maxRecDepth 100000 in
theorem r63 (es : Nat → Nat) : memB (env0.mem 13 [(39, [m3, m57]), (72, [m2])]) 60 m63.c es = true := by kernel_rfl
theorem s67 : cutS 13 m67.c = true := by kernel_rfl
set_option maxRecDepth 100000 in
theorem r67 (es : Nat → Nat) : memB (env0.mem 13 []) 60 m67.c es = true := by kernel_rfl
theorem s66 : cutS 13 m66.c = true := by kernel_rfl
set_option maxRecDepth 100000 in
theorem r66 (es : Nat → Nat) : memB (env0.mem 13 [(26, [m59]), (89, [m67])]) 60 m66.c es = true := by kernel_rfl
theorem s65 : cutS 13 m65.c = true := by kernel_rfl
set_option maxRecDepth 100000 in
theorem r65 (es : Nat → Nat) : memB (env0.mem 13 [(49, [m66])]) 60 m65.c es = true := by kernel_rfl
theorem s71 : cutS 13 m71.c = true := by kernel_rfl
set_option maxRecDepth 100000 in
theorem r71 (es : Nat → Nat) : memB (env0.mem 13 []) 60 m71.c es = true := by kernel_rfl
end Go.Proofs.YtbchdbhojafpdaaGreatDoor
