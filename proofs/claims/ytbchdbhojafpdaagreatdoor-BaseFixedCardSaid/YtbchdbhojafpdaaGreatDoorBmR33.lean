/-
  Memos: their runs.
-/
import Derived.Test.YtbchdbhojafpdaaGreatDoorBmD0
set_option linter.unusedVariables false
set_option linter.unusedSimpArgs false
namespace Go.Proofs.YtbchdbhojafpdaaGreatDoor
open Go Ev
theorem s537 : cutS 13 m537.c = true := by kernel_rfl
set_option maxRecDepth 100000 in
theorem r537 (es : Nat → Nat) : memB (env0.mem 13 []) 60 m537.c es = true := by kernel_rfl
theorem s530 : cutS 13 m530.c = true := by kernel_rfl
set_option maxRecDepth 100000 in
theorem r530 (es : Nat → Nat) : memB (env0.mem 13 [(97, [m537]), (191, [m531])]) 60 m530.c es = true := by kernel_rfl
theorem s529 : cutS 13 m529.c = true := by kernel_rfl
set_option maxRecDepth 100000 in
theorem r529 (es : Nat → Nat) : memB (env0.mem 13 [(161, [m530])]) 60 m529.c es = true := by kernel_rfl
theorem s528 : cutS 13 m528.c = true := by kernel_rfl
set_option maxRecDepth 100000 in
theorem r528 (es : Nat → Nat) : memB (env0.mem 13 [(22, [m438]), (26, [m59, m428, m499]), (39, [m497]), (127, [m529])]) 60 m528.c es = true := by kernel_rfl
theorem s527 : cutS 13 m527.c = true := by kernel_rfl
set_option maxRecDepth 100000 in
theorem r527 (es : Nat → Nat) : memB (env0.mem 13 [(26, [m59, m428, m499]), (39, [m497]), (64, [m528])]) 60 m527.c es = true := by kernel_rfl
theorem s539 : cutS 13 m539.c = true := by kernel_rfl
set_option maxRecDepth 100000 in
theorem r539 (es : Nat → Nat) : memB (env0.mem 13 []) 60 m539.c es = true := by kernel_rfl
theorem s540 : cutS 13 m540.c = true := by kernel_rfl
set_option maxRecDepth 100000 in
theorem r540 (es : Nat → Nat) : memB (env0.mem 13 [(39, [m3, m432]), (72, [m2])]) 60 m540.c es = true := by kernel_rfl
theorem s538 : cutS 13 m538.c = true := by kernel_rfl
set_option maxRecDepth 100000 in
theorem r538 (es : Nat → Nat) : memB (env0.mem 13 [(12, [m540]), (89, [m343, m539]), (135, [m344])]) 60 m538.c es = true := by kernel_rfl
theorem s526 : cutS 13 m526.c = true := by kernel_rfl
set_option maxRecDepth 100000 in
theorem r526 (es : Nat → Nat) : memB (env0.mem 13 [(32, [m527]), (33, [m538])]) 60 m526.c es = true := by kernel_rfl
theorem s542 : cutS 13 m542.c = true := by kernel_rfl
set_option maxRecDepth 100000 in
theorem r542 (es : Nat → Nat) : memB (env0.mem 13 [(26, [m59, m428, m499]), (39, [m432])]) 60 m542.c es = true := by kernel_rfl
theorem s541 : cutS 13 m541.c = true := by kernel_rfl
set_option maxRecDepth 100000 in
theorem r541 (es : Nat → Nat) : memB (env0.mem 13 [(32, [m542])]) 60 m541.c es = true := by kernel_rfl
theorem s525 : cutS 13 m525.c = true := by kernel_rfl
set_option maxRecDepth 100000 in
theorem r525 (es : Nat → Nat) : memB (env0.mem 13 [(10, [m526, m541]), (20, [m504])]) 60 m525.c es = true := by kernel_rfl
theorem s524 : cutS 13 m524.c = true := by kernel_rfl
set_option maxRecDepth 100000 in
theorem r524 (es : Nat → Nat) : memB (env0.mem 13 [(13, [m525])]) 60 m524.c es = true := by kernel_rfl
theorem s548 : cutS 13 m548.c = true := by kernel_rfl
set_option maxRecDepth 100000 in
theorem r548 (es : Nat → Nat) : memB (env0.mem 13 []) 60 m548.c es = true := by kernel_rfl
theorem s547 : cutS 13 m547.c = true := by kernel_rfl
set_option maxRecDepth 100000 in
theorem r547 (es : Nat → Nat) : memB (env0.mem 13 [(60, [m548])]) 60 m547.c es = true := by kernel_rfl
theorem s550 : cutS 13 m550.c = true := by kernel_rfl
set_option maxRecDepth 100000 in
theorem r550 (es : Nat → Nat) : memB (env0.mem 13 []) 60 m550.c es = true := by kernel_rfl
theorem s549 : cutS 13 m549.c = true := by kernel_rfl
set_option maxRecDepth 100000 in
theorem r549 (es : Nat → Nat) : memB (env0.mem 13 [(60, [m550])]) 60 m549.c es = true := by kernel_rfl
theorem s546 : cutS 13 m546.c = true := by kernel_rfl
set_option maxRecDepth 100000 in
theorem r546 (es : Nat → Nat) : memB (env0.mem 13 [(26, [m547, m549])]) 60 m546.c es = true := by kernel_rfl
theorem s545 : cutS 13 m545.c = true := by kernel_rfl
set_option maxRecDepth 100000 in
theorem r545 (es : Nat → Nat) : memB (env0.mem 13 [(49, [m546])]) 60 m545.c es = true := by kernel_rfl
theorem s544 : cutS 13 m544.c = true := by kernel_rfl
set_option maxRecDepth 100000 in
theorem r544 (es : Nat → Nat) : memB (env0.mem 13 [(20, [m545])]) 60 m544.c es = true := by kernel_rfl
theorem s543 : cutS 13 m543.c = true := by kernel_rfl
set_option maxRecDepth 100000 in
theorem r543 (es : Nat → Nat) : memB (env0.mem 13 [(13, [m544])]) 60 m543.c es = true := by kernel_rfl
theorem s552 : cutS 13 m552.c = true := by kernel_rfl
set_option maxRecDepth 100000 in
theorem r552 (es : Nat → Nat) : memB (env0.mem 13 [(20, [m504])]) 60 m552.c es = true := by kernel_rfl
theorem s551 : cutS 13 m551.c = true := by kernel_rfl
set_option maxRecDepth 100000 in
theorem r551 (es : Nat → Nat) : memB (env0.mem 13 [(13, [m552])]) 60 m551.c es = true := by kernel_rfl
theorem s554 : cutS 13 m554.c = true := by kernel_rfl
set_option maxRecDepth 100000 in
theorem r554 (es : Nat → Nat) : memB (env0.mem 13 [(10, [m507, m510]), (20, [m504])]) 60 m554.c es = true := by kernel_rfl
theorem s553 : cutS 13 m553.c = true := by kernel_rfl
set_option maxRecDepth 100000 in
theorem r553 (es : Nat → Nat) : memB (env0.mem 13 [(13, [m554])]) 60 m553.c es = true := by kernel_rfl
theorem s559 : cutS 13 m559.c = true := by kernel_rfl
set_option maxRecDepth 100000 in
theorem r559 (es : Nat → Nat) : memB (env0.mem 13 []) 60 m559.c es = true := by kernel_rfl
end Go.Proofs.YtbchdbhojafpdaaGreatDoor
