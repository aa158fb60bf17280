/-
  Memos: their runs.
-/
import Derived.Test.YtldfdadpfjcpcaaGreatDoorTmD0
set_option linter.unusedVariables false
set_option linter.unusedSimpArgs false
namespace Go.Proofs.YtldfdadpfjcpcaaGreatDoor
open Go Ev
theorem s123 : cutS 11 m123.c = true := by kernel_rfl
set_option maxRecDepth 100000 in
theorem r123 (es : Nat → Nat) : memB (env0.mem 11 [(13, [m124, m127]), (32, [m56, m97, m98]), (78, [m106]), (87, [m130])]) 60 m123.c es = true := by kernel_rfl
theorem s134 : cutS 11 m134.c = true := by kernel_rfl
set_option maxRecDepth 100000 in
theorem r134 (es : Nat → Nat) : memB (env0.mem 11 [(26, [m34])]) 60 m134.c es = true := by kernel_rfl
theorem s136 : cutS 11 m136.c = true := by kernel_rfl
set_option maxRecDepth 100000 in
theorem r136 (es : Nat → Nat) : memB (env0.mem 11 []) 60 m136.c es = true := by kernel_rfl
theorem s137 : cutS 11 m137.c = true := by kernel_rfl
set_option maxRecDepth 100000 in
theorem r137 (es : Nat → Nat) : memB (env0.mem 11 []) 60 m137.c es = true := by kernel_rfl
theorem s135 : cutS 11 m135.c = true := by kernel_rfl
set_option maxRecDepth 100000 in
theorem r135 (es : Nat → Nat) : memB (env0.mem 11 [(32, [m97, m134]), (37, [m136, m137])]) 60 m135.c es = true := by kernel_rfl
theorem s133 : cutS 11 m133.c = true := by kernel_rfl
set_option maxRecDepth 100000 in
theorem r133 (es : Nat → Nat) : memB (env0.mem 11 [(13, [m100, m135]), (32, [m97, m98, m134]), (78, [m106])]) 60 m133.c es = true := by kernel_rfl
theorem s138 : cutS 11 m138.c = true := by kernel_rfl
set_option maxRecDepth 100000 in
theorem r138 (es : Nat → Nat) : memB (env0.mem 11 []) 60 m138.c es = true := by kernel_rfl
theorem s141 : cutS 11 m141.c = true := by kernel_rfl
set_option maxRecDepth 100000 in
theorem r141 (es : Nat → Nat) : memB (env0.mem 11 [(68, [m35, m38])]) 60 m141.c es = true := by kernel_rfl
theorem s140 : cutS 11 m140.c = true := by kernel_rfl
set_option maxRecDepth 100000 in
theorem r140 (es : Nat → Nat) : memB (env0.mem 11 [(26, [m141])]) 60 m140.c es = true := by kernel_rfl
theorem s143 : cutS 11 m143.c = true := by kernel_rfl
set_option maxRecDepth 100000 in
theorem r143 (es : Nat → Nat) : memB (env0.mem 11 []) 60 m143.c es = true := by kernel_rfl
theorem s144 : cutS 11 m144.c = true := by kernel_rfl
set_option maxRecDepth 100000 in
theorem r144 (es : Nat → Nat) : memB (env0.mem 11 [(78, [m112])]) 60 m144.c es = true := by kernel_rfl
theorem s142 : cutS 11 m142.c = true := by kernel_rfl
set_option maxRecDepth 100000 in
theorem r142 (es : Nat → Nat) : memB (env0.mem 11 [(32, [m56, m140]), (37, [m143, m144])]) 60 m142.c es = true := by kernel_rfl
theorem s139 : cutS 11 m139.c = true := by kernel_rfl
set_option maxRecDepth 100000 in
theorem r139 (es : Nat → Nat) : memB (env0.mem 11 [(13, [m124, m142]), (32, [m56, m97, m140])]) 60 m139.c es = true := by kernel_rfl
theorem s145 : cutS 11 m145.c = true := by kernel_rfl
set_option maxRecDepth 100000 in
theorem r145 (es : Nat → Nat) : memB (env0.mem 11 [(32, [m56])]) 60 m145.c es = true := by kernel_rfl
theorem s147 : cutS 11 m147.c = true := by kernel_rfl
set_option maxRecDepth 100000 in
theorem r147 (es : Nat → Nat) : memB (env0.mem 11 [(26, [m34])]) 60 m147.c es = true := by kernel_rfl
theorem s146 : cutS 11 m146.c = true := by kernel_rfl
set_option maxRecDepth 100000 in
theorem r146 (es : Nat → Nat) : memB (env0.mem 11 [(32, [m56, m147])]) 60 m146.c es = true := by kernel_rfl
theorem s148 : cutS 11 m148.c = true := by kernel_rfl
set_option maxRecDepth 100000 in
theorem r148 (es : Nat → Nat) : memB (env0.mem 11 [(13, [m124]), (32, [m56, m97])]) 60 m148.c es = true := by kernel_rfl
end Go.Proofs.YtldfdadpfjcpcaaGreatDoor
