/-
  Memos: their runs.
-/
import Derived.Test.YtbchdbhojafpdaaGreatDoorBmD0
set_option linter.unusedVariables false
set_option linter.unusedSimpArgs false
namespace Go.Proofs.YtbchdbhojafpdaaGreatDoor
open Go Ev
theorem s336 : cutS 13 m336.c = true := by kernel_rfl
set_option maxRecDepth 100000 in
theorem r336 (es : Nat → Nat) : memB (env0.mem 13 []) 60 m336.c es = true := by kernel_rfl
theorem s337 : cutS 13 m337.c = true := by kernel_rfl
set_option maxRecDepth 100000 in
theorem r337 (es : Nat → Nat) : memB (env0.mem 13 []) 60 m337.c es = true := by kernel_rfl
theorem s338 : cutS 13 m338.c = true := by kernel_rfl
set_option maxRecDepth 100000 in
theorem r338 (es : Nat → Nat) : memB (env0.mem 13 []) 60 m338.c es = true := by kernel_rfl
theorem s339 : cutS 13 m339.c = true := by kernel_rfl
set_option maxRecDepth 100000 in
theorem r339 (es : Nat → Nat) : memB (env0.mem 13 []) 60 m339.c es = true := by kernel_rfl
theorem s340 : cutS 13 m340.c = true := by kernel_rfl
set_option maxRecDepth 100000 in
theorem r340 (es : Nat → Nat) : memB (env0.mem 13 []) 60 m340.c es = true := by kernel_rfl
end Go.Proofs.YtbchdbhojafpdaaGreatDoor
