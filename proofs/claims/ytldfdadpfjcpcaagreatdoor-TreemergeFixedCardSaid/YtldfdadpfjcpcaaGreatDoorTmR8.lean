/-
  Memos: their runs.
-/
import Derived.Test.YtldfdadpfjcpcaaGreatDoorTmD0
set_option linter.unusedVariables false
set_option linter.unusedSimpArgs false
namespace Go.Proofs.YtldfdadpfjcpcaaGreatDoor
open Go Ev
theorem s69 : cutS 11 m69.c = true := by kernel_rfl
set_option maxRecDepth 100000 in
theorem r69 (es : Nat → Nat) : memB (env0.mem 11 [(62, [m70])]) 60 m69.c es = true := by kernel_rfl
theorem s75 : cutS 11 m75.c = true := by kernel_rfl
set_option maxRecDepth 100000 in
theorem r75 (es : Nat → Nat) : memB (env0.mem 11 []) 60 m75.c es = true := by kernel_rfl
theorem s74 : cutS 11 m74.c = true := by kernel_rfl
set_option maxRecDepth 100000 in
theorem r74 (es : Nat → Nat) : memB (env0.mem 11 [(179, [m75])]) 60 m74.c es = true := by kernel_rfl
theorem s76 : cutS 11 m76.c = true := by kernel_rfl
set_option maxRecDepth 100000 in
theorem r76 (es : Nat → Nat) : memB (env0.mem 11 []) 60 m76.c es = true := by kernel_rfl
theorem s73 : cutS 11 m73.c = true := by kernel_rfl
set_option maxRecDepth 100000 in
theorem r73 (es : Nat → Nat) : memB (env0.mem 11 [(102, [m74]), (103, [m76])]) 60 m73.c es = true := by kernel_rfl
theorem s68 : cutS 11 m68.c = true := by kernel_rfl
set_option maxRecDepth 100000 in
theorem r68 (es : Nat → Nat) : memB (env0.mem 11 [(22, [m69]), (59, [m73])]) 60 m68.c es = true := by kernel_rfl
theorem s77 : cutS 11 m77.c = true := by kernel_rfl
set_option maxRecDepth 100000 in
theorem r77 (es : Nat → Nat) : memB (env0.mem 11 []) 60 m77.c es = true := by kernel_rfl
end Go.Proofs.YtldfdadpfjcpcaaGreatDoor
