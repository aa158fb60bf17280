/-
  Memos: their runs.
-/
import Derived.Test.YtbchdbhojafpdaaGreatDoorBmD0
set_option linter.unusedVariables false
set_option linter.unusedSimpArgs false
namespace Go.Proofs.YtbchdbhojafpdaaGreatDoor
open Go Ev
theorem s74 : cutS 13 m74.c = true := by kernel_rfl
set_option maxRecDepth 100000 in
theorem r74 (es : Nat → Nat) : memB (env0.mem 13 []) 60 m74.c es = true := by kernel_rfl
theorem s70 : cutS 13 m70.c = true := by kernel_rfl
set_option maxRecDepth 100000 in
theorem r70 (es : Nat → Nat) : memB (env0.mem 13 [(100, [m71, m72, m73, m74])]) 60 m70.c es = true := by kernel_rfl
theorem s69 : cutS 13 m69.c = true := by kernel_rfl
set_option maxRecDepth 100000 in
theorem r69 (es : Nat → Nat) : memB (env0.mem 13 [(56, [m70])]) 60 m69.c es = true := by kernel_rfl
end Go.Proofs.YtbchdbhojafpdaaGreatDoor
