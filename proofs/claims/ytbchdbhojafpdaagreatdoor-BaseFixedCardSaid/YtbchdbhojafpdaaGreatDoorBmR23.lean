/-
  Memos: their runs.
-/
import Derived.Test.YtbchdbhojafpdaaGreatDoorBmD0
set_option linter.unusedVariables false
set_option linter.unusedSimpArgs false
namespace Go.Proofs.YtbchdbhojafpdaaGreatDoor
open Go Ev
theorem s383 : cutS 13 m383.c = true := by kernel_rfl
set_option maxRecDepth 100000 in
theorem r383 (es : Nat → Nat) : memB (env0.mem 13 [(148, [m384])]) 60 m383.c es = true := by kernel_rfl
theorem s425 : cutS 13 m425.c = true := by kernel_rfl
set_option maxRecDepth 100000 in
theorem r425 (es : Nat → Nat) : memB (env0.mem 13 []) 60 m425.c es = true := by kernel_rfl
theorem s382 : cutS 13 m382.c = true := by kernel_rfl
set_option maxRecDepth 100000 in
theorem r382 (es : Nat → Nat) : memB (env0.mem 13 [(96, [m383]), (97, [m425])]) 60 m382.c es = true := by kernel_rfl
theorem s377 : cutS 13 m377.c = true := by kernel_rfl
set_option maxRecDepth 100000 in
theorem r377 (es : Nat → Nat) : memB (env0.mem 13 [(22, [m378]), (53, [m382])]) 60 m377.c es = true := by kernel_rfl
theorem s426 : cutS 13 m426.c = true := by kernel_rfl
set_option maxRecDepth 100000 in
theorem r426 (es : Nat → Nat) : memB (env0.mem 13 []) 60 m426.c es = true := by kernel_rfl
theorem s376 : cutS 13 m376.c = true := by kernel_rfl
set_option maxRecDepth 100000 in
theorem r376 (es : Nat → Nat) : memB (env0.mem 13 [(20, [m65]), (21, [m377]), (22, [m378]), (39, [m426])]) 60 m376.c es = true := by kernel_rfl
theorem s429 : cutS 13 m429.c = true := by kernel_rfl
set_option maxRecDepth 100000 in
theorem r429 (es : Nat → Nat) : memB (env0.mem 13 []) 60 m429.c es = true := by kernel_rfl
theorem s430 : cutS 13 m430.c = true := by kernel_rfl
set_option maxRecDepth 100000 in
theorem r430 (es : Nat → Nat) : memB (env0.mem 13 []) 60 m430.c es = true := by kernel_rfl
theorem s428 : cutS 13 m428.c = true := by kernel_rfl
set_option maxRecDepth 100000 in
theorem r428 (es : Nat → Nat) : memB (env0.mem 13 [(60, [m60, m429, m430])]) 60 m428.c es = true := by kernel_rfl
theorem s427 : cutS 13 m427.c = true := by kernel_rfl
set_option maxRecDepth 100000 in
theorem r427 (es : Nat → Nat) : memB (env0.mem 13 [(26, [m59, m428])]) 60 m427.c es = true := by kernel_rfl
theorem s432 : cutS 13 m432.c = true := by kernel_rfl
set_option maxRecDepth 100000 in
theorem r432 (es : Nat → Nat) : memB (env0.mem 13 []) 60 m432.c es = true := by kernel_rfl
theorem s431 : cutS 13 m431.c = true := by kernel_rfl
set_option maxRecDepth 100000 in
theorem r431 (es : Nat → Nat) : memB (env0.mem 13 [(39, [m3, m432]), (72, [m2])]) 60 m431.c es = true := by kernel_rfl
theorem s436 : cutS 13 m436.c = true := by kernel_rfl
set_option maxRecDepth 100000 in
theorem r436 (es : Nat → Nat) : memB (env0.mem 13 []) 60 m436.c es = true := by kernel_rfl
theorem s435 : cutS 13 m435.c = true := by kernel_rfl
set_option maxRecDepth 100000 in
theorem r435 (es : Nat → Nat) : memB (env0.mem 13 [(26, [m59, m428]), (89, [m67, m436])]) 60 m435.c es = true := by kernel_rfl
theorem s434 : cutS 13 m434.c = true := by kernel_rfl
set_option maxRecDepth 100000 in
theorem r434 (es : Nat → Nat) : memB (env0.mem 13 [(49, [m435])]) 60 m434.c es = true := by kernel_rfl
end Go.Proofs.YtbchdbhojafpdaaGreatDoor
