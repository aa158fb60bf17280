/-
  Memos: their runs.
-/
import Derived.Test.YtbchdbhojafpdaaGreatDoorBmD0
set_option linter.unusedVariables false
set_option linter.unusedSimpArgs false
namespace Go.Proofs.YtbchdbhojafpdaaGreatDoor
open Go Ev
theorem s515 : cutS 13 m515.c = true := by kernel_rfl
set_option maxRecDepth 100000 in
theorem r515 (es : Nat → Nat) : memB (env0.mem 13 [(243, [m333]), (250, [m516, m517, m518, m519])]) 60 m515.c es = true := by kernel_rfl
theorem s520 : cutS 13 m520.c = true := by kernel_rfl
set_option maxRecDepth 100000 in
theorem r520 (es : Nat → Nat) : memB (env0.mem 13 []) 60 m520.c es = true := by kernel_rfl
theorem s514 : cutS 13 m514.c = true := by kernel_rfl
set_option maxRecDepth 100000 in
theorem r514 (es : Nat → Nat) : memB (env0.mem 13 [(97, [m520]), (191, [m515])]) 60 m514.c es = true := by kernel_rfl
theorem s513 : cutS 13 m513.c = true := by kernel_rfl
set_option maxRecDepth 100000 in
theorem r513 (es : Nat → Nat) : memB (env0.mem 13 [(161, [m514])]) 60 m513.c es = true := by kernel_rfl
theorem s512 : cutS 13 m512.c = true := by kernel_rfl
set_option maxRecDepth 100000 in
theorem r512 (es : Nat → Nat) : memB (env0.mem 13 [(22, [m378]), (26, [m59, m428, m499]), (39, [m426]), (127, [m513])]) 60 m512.c es = true := by kernel_rfl
theorem s511 : cutS 13 m511.c = true := by kernel_rfl
set_option maxRecDepth 100000 in
theorem r511 (es : Nat → Nat) : memB (env0.mem 13 [(26, [m59, m428, m499]), (39, [m426]), (64, [m512])]) 60 m511.c es = true := by kernel_rfl
theorem s521 : cutS 13 m521.c = true := by kernel_rfl
set_option maxRecDepth 100000 in
theorem r521 (es : Nat → Nat) : memB (env0.mem 13 [(12, [m375]), (89, [m343]), (135, [m344])]) 60 m521.c es = true := by kernel_rfl
theorem s510 : cutS 13 m510.c = true := by kernel_rfl
set_option maxRecDepth 100000 in
theorem r510 (es : Nat → Nat) : memB (env0.mem 13 [(32, [m511]), (33, [m521])]) 60 m510.c es = true := by kernel_rfl
theorem s503 : cutS 13 m503.c = true := by kernel_rfl
set_option maxRecDepth 100000 in
theorem r503 (es : Nat → Nat) : memB (env0.mem 13 [(10, [m507, m510]), (20, [m504])]) 60 m503.c es = true := by kernel_rfl
theorem s522 : cutS 13 m522.c = true := by kernel_rfl
set_option maxRecDepth 100000 in
theorem r522 (es : Nat → Nat) : memB (env0.mem 13 [(10, [m507]), (20, [m504])]) 60 m522.c es = true := by kernel_rfl
theorem s523 : cutS 13 m523.c = true := by kernel_rfl
set_option maxRecDepth 100000 in
theorem r523 (es : Nat → Nat) : memB (env0.mem 13 [(10, [m510]), (20, [m504])]) 60 m523.c es = true := by kernel_rfl
theorem s502 : cutS 13 m502.c = true := by kernel_rfl
set_option maxRecDepth 100000 in
theorem r502 (es : Nat → Nat) : memB (env0.mem 13 [(13, [m503, m522, m523])]) 60 m502.c es = true := by kernel_rfl
end Go.Proofs.YtbchdbhojafpdaaGreatDoor
