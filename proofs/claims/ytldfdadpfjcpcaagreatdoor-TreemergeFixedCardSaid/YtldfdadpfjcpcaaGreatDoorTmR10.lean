/-
  Memos: their runs.
-/
import Derived.Test.YtldfdadpfjcpcaaGreatDoorTmD0
set_option linter.unusedVariables false
set_option linter.unusedSimpArgs false
namespace Go.Proofs.YtldfdadpfjcpcaaGreatDoor
open Go Ev
theorem s84 : cutS 11 m84.c = true := by kernel_rfl
set_option maxRecDepth 100000 in
theorem r84 (es : Nat → Nat) : memB (env0.mem 11 []) 60 m84.c es = true := by kernel_rfl
theorem s83 : cutS 11 m83.c = true := by kernel_rfl
set_option maxRecDepth 100000 in
theorem r83 (es : Nat → Nat) : memB (env0.mem 11 [(179, [m84])]) 60 m83.c es = true := by kernel_rfl
theorem s85 : cutS 11 m85.c = true := by kernel_rfl
set_option maxRecDepth 100000 in
theorem r85 (es : Nat → Nat) : memB (env0.mem 11 []) 60 m85.c es = true := by kernel_rfl
theorem s82 : cutS 11 m82.c = true := by kernel_rfl
set_option maxRecDepth 100000 in
theorem r82 (es : Nat → Nat) : memB (env0.mem 11 [(102, [m83]), (103, [m85])]) 60 m82.c es = true := by kernel_rfl
theorem s78 : cutS 11 m78.c = true := by kernel_rfl
set_option maxRecDepth 100000 in
theorem r78 (es : Nat → Nat) : memB (env0.mem 11 [(22, [m79]), (59, [m82])]) 60 m78.c es = true := by kernel_rfl
theorem s86 : cutS 11 m86.c = true := by kernel_rfl
set_option maxRecDepth 100000 in
theorem r86 (es : Nat → Nat) : memB (env0.mem 11 []) 60 m86.c es = true := by kernel_rfl
theorem s67 : cutS 11 m67.c = true := by kernel_rfl
set_option maxRecDepth 100000 in
theorem r67 (es : Nat → Nat) : memB (env0.mem 11 [(21, [m68, m78]), (22, [m69, m79]), (64, [m77, m86])]) 60 m67.c es = true := by kernel_rfl
theorem s89 : cutS 11 m89.c = true := by kernel_rfl
set_option maxRecDepth 100000 in
theorem r89 (es : Nat → Nat) : memB (env0.mem 11 []) 60 m89.c es = true := by kernel_rfl
theorem s90 : cutS 11 m90.c = true := by kernel_rfl
set_option maxRecDepth 100000 in
theorem r90 (es : Nat → Nat) : memB (env0.mem 11 []) 60 m90.c es = true := by kernel_rfl
theorem s88 : cutS 11 m88.c = true := by kernel_rfl
set_option maxRecDepth 100000 in
theorem r88 (es : Nat → Nat) : memB (env0.mem 11 [(68, [m23, m89, m90])]) 60 m88.c es = true := by kernel_rfl
theorem s92 : cutS 11 m92.c = true := by kernel_rfl
set_option maxRecDepth 100000 in
theorem r92 (es : Nat → Nat) : memB (env0.mem 11 []) 60 m92.c es = true := by kernel_rfl
end Go.Proofs.YtldfdadpfjcpcaaGreatDoor
