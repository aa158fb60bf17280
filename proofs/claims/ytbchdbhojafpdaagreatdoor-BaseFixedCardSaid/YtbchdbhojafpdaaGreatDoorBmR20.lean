/-
  Memos: their runs.
-/
import Derived.Test.YtbchdbhojafpdaaGreatDoorBmD0
set_option linter.unusedVariables false
set_option linter.unusedSimpArgs false
namespace Go.Proofs.YtbchdbhojafpdaaGreatDoor
open Go Ev
theorem s0 : cutS 13 m0.c = true := by kernel_rfl
set_option maxRecDepth 100000 in
theorem r0 (es : Nat → Nat) : memB (env0.mem 13 [(6, [m322]), (7, [m374]), (8, [m4, m64, m195]), (9, [m58, m190, m318]), (12, [m1, m63, m194])]) 60 m0.c es = true := by kernel_rfl
theorem s375 : cutS 13 m375.c = true := by kernel_rfl
set_option maxRecDepth 100000 in
theorem r375 (es : Nat → Nat) : memB (env0.mem 13 [(39, [m3]), (72, [m2])]) 60 m375.c es = true := by kernel_rfl
theorem s380 : cutS 13 m380.c = true := by kernel_rfl
set_option maxRecDepth 100000 in
theorem r380 (es : Nat → Nat) : memB (env0.mem 13 []) 60 m380.c es = true := by kernel_rfl
end Go.Proofs.YtbchdbhojafpdaaGreatDoor
