/-
  Memos: their runs.
-/
import Derived.Test.YtbchdbhojafpdaaGreatDoorBmD0
set_option linter.unusedVariables false
set_option linter.unusedSimpArgs false
namespace Go.Proofs.YtbchdbhojafpdaaGreatDoor
open Go Ev
theorem s558 : cutS 13 m558.c = true := by kernel_rfl
set_option maxRecDepth 100000 in
theorem r558 (es : Nat → Nat) : memB (env0.mem 13 [(100, [m559])]) 60 m558.c es = true := by kernel_rfl
theorem s557 : cutS 13 m557.c = true := by kernel_rfl
set_option maxRecDepth 100000 in
theorem r557 (es : Nat → Nat) : memB (env0.mem 13 [(56, [m558])]) 60 m557.c es = true := by kernel_rfl
theorem s562 : cutS 13 m562.c = true := by kernel_rfl
set_option maxRecDepth 100000 in
theorem r562 (es : Nat → Nat) : memB (env0.mem 13 []) 60 m562.c es = true := by kernel_rfl
theorem s561 : cutS 13 m561.c = true := by kernel_rfl
set_option maxRecDepth 100000 in
theorem r561 (es : Nat → Nat) : memB (env0.mem 13 [(148, [m562])]) 60 m561.c es = true := by kernel_rfl
theorem s570 : cutS 13 m570.c = true := by kernel_rfl
set_option maxRecDepth 100000 in
theorem r570 (es : Nat → Nat) : memB (env0.mem 13 []) 60 m570.c es = true := by kernel_rfl
theorem s560 : cutS 13 m560.c = true := by kernel_rfl
set_option maxRecDepth 100000 in
theorem r560 (es : Nat → Nat) : memB (env0.mem 13 [(96, [m561]), (97, [m570])]) 60 m560.c es = true := by kernel_rfl
theorem s556 : cutS 13 m556.c = true := by kernel_rfl
set_option maxRecDepth 100000 in
theorem r556 (es : Nat → Nat) : memB (env0.mem 13 [(22, [m557]), (53, [m560])]) 60 m556.c es = true := by kernel_rfl
theorem s571 : cutS 13 m571.c = true := by kernel_rfl
set_option maxRecDepth 100000 in
theorem r571 (es : Nat → Nat) : memB (env0.mem 13 []) 60 m571.c es = true := by kernel_rfl
theorem s555 : cutS 13 m555.c = true := by kernel_rfl
set_option maxRecDepth 100000 in
theorem r555 (es : Nat → Nat) : memB (env0.mem 13 [(20, [m504]), (21, [m556]), (22, [m557]), (39, [m571])]) 60 m555.c es = true := by kernel_rfl
theorem s574 : cutS 13 m574.c = true := by kernel_rfl
set_option maxRecDepth 100000 in
theorem r574 (es : Nat → Nat) : memB (env0.mem 13 []) 60 m574.c es = true := by kernel_rfl
theorem s575 : cutS 13 m575.c = true := by kernel_rfl
set_option maxRecDepth 100000 in
theorem r575 (es : Nat → Nat) : memB (env0.mem 13 []) 60 m575.c es = true := by kernel_rfl
theorem s573 : cutS 13 m573.c = true := by kernel_rfl
set_option maxRecDepth 100000 in
theorem r573 (es : Nat → Nat) : memB (env0.mem 13 [(60, [m60, m574, m575])]) 60 m573.c es = true := by kernel_rfl
theorem s572 : cutS 13 m572.c = true := by kernel_rfl
set_option maxRecDepth 100000 in
theorem r572 (es : Nat → Nat) : memB (env0.mem 13 [(26, [m59, m428, m499, m573])]) 60 m572.c es = true := by kernel_rfl
theorem s581 : cutS 13 m581.c = true := by kernel_rfl
set_option maxRecDepth 100000 in
theorem r581 (es : Nat → Nat) : memB (env0.mem 13 [(243, [m333])]) 60 m581.c es = true := by kernel_rfl
theorem s582 : cutS 13 m582.c = true := by kernel_rfl
set_option maxRecDepth 100000 in
theorem r582 (es : Nat → Nat) : memB (env0.mem 13 []) 60 m582.c es = true := by kernel_rfl
theorem s580 : cutS 13 m580.c = true := by kernel_rfl
set_option maxRecDepth 100000 in
theorem r580 (es : Nat → Nat) : memB (env0.mem 13 [(97, [m582]), (191, [m581])]) 60 m580.c es = true := by kernel_rfl
theorem s579 : cutS 13 m579.c = true := by kernel_rfl
set_option maxRecDepth 100000 in
theorem r579 (es : Nat → Nat) : memB (env0.mem 13 [(161, [m580])]) 60 m579.c es = true := by kernel_rfl
theorem s583 : cutS 13 m583.c = true := by kernel_rfl
set_option maxRecDepth 100000 in
theorem r583 (es : Nat → Nat) : memB (env0.mem 13 [(56, [m558])]) 60 m583.c es = true := by kernel_rfl
theorem s578 : cutS 13 m578.c = true := by kernel_rfl
set_option maxRecDepth 100000 in
theorem r578 (es : Nat → Nat) : memB (env0.mem 13 [(22, [m583]), (26, [m59, m428, m499, m573]), (39, [m571]), (127, [m579])]) 60 m578.c es = true := by kernel_rfl
theorem s577 : cutS 13 m577.c = true := by kernel_rfl
set_option maxRecDepth 100000 in
theorem r577 (es : Nat → Nat) : memB (env0.mem 13 [(26, [m59, m428, m499, m573]), (39, [m571]), (64, [m578])]) 60 m577.c es = true := by kernel_rfl
theorem s576 : cutS 13 m576.c = true := by kernel_rfl
set_option maxRecDepth 100000 in
theorem r576 (es : Nat → Nat) : memB (env0.mem 13 [(32, [m577])]) 60 m576.c es = true := by kernel_rfl
end Go.Proofs.YtbchdbhojafpdaaGreatDoor
