/-
  Memos: their runs.
-/
import Derived.Test.YtbchdbhojafpdaaGreatDoorBmD0
set_option linter.unusedVariables false
set_option linter.unusedSimpArgs false
namespace Go.Proofs.YtbchdbhojafpdaaGreatDoor
open Go Ev
theorem s11 : cutS 13 m11.c = true := by kernel_rfl
set_option maxRecDepth 100000 in
theorem r11 (es : Nat → Nat) : memB (env0.mem 13 []) 60 m11.c es = true := by kernel_rfl
theorem s12 : cutS 13 m12.c = true := by kernel_rfl
set_option maxRecDepth 100000 in
theorem r12 (es : Nat → Nat) : memB (env0.mem 13 []) 60 m12.c es = true := by kernel_rfl
theorem s9 : cutS 13 m9.c = true := by kernel_rfl
set_option maxRecDepth 100000 in
theorem r9 (es : Nat → Nat) : memB (env0.mem 13 [(100, [m10, m11, m12])]) 60 m9.c es = true := by kernel_rfl
end Go.Proofs.YtbchdbhojafpdaaGreatDoor
