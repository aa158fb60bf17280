/-
  Memos: their runs.
-/
import Derived.Test.YtbchdbhojafpdaaGreatDoorBmD0
set_option linter.unusedVariables false
set_option linter.unusedSimpArgs false
namespace Go.Proofs.YtbchdbhojafpdaaGreatDoor
open Go Ev
theorem s532 : cutS 13 m532.c = true := by kernel_rfl
set_option maxRecDepth 100000 in
theorem r532 (es : Nat → Nat) : memB (env0.mem 13 []) 60 m532.c es = true := by kernel_rfl
theorem s533 : cutS 13 m533.c = true := by kernel_rfl
set_option maxRecDepth 100000 in
theorem r533 (es : Nat → Nat) : memB (env0.mem 13 []) 60 m533.c es = true := by kernel_rfl
theorem s534 : cutS 13 m534.c = true := by kernel_rfl
set_option maxRecDepth 100000 in
theorem r534 (es : Nat → Nat) : memB (env0.mem 13 []) 60 m534.c es = true := by kernel_rfl
theorem s535 : cutS 13 m535.c = true := by kernel_rfl
set_option maxRecDepth 100000 in
theorem r535 (es : Nat → Nat) : memB (env0.mem 13 []) 60 m535.c es = true := by kernel_rfl
theorem s536 : cutS 13 m536.c = true := by kernel_rfl
set_option maxRecDepth 100000 in
theorem r536 (es : Nat → Nat) : memB (env0.mem 13 []) 60 m536.c es = true := by kernel_rfl
end Go.Proofs.YtbchdbhojafpdaaGreatDoor
