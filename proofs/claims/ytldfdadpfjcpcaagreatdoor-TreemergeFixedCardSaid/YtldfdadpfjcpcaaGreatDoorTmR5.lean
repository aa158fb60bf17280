/-
  Memos: their runs.
-/
import Derived.Test.YtldfdadpfjcpcaaGreatDoorTmD0
set_option linter.unusedVariables false
set_option linter.unusedSimpArgs false
namespace Go.Proofs.YtldfdadpfjcpcaaGreatDoor
open Go Ev
theorem s49 : cutS 11 m49.c = true := by kernel_rfl
set_option maxRecDepth 100000 in
theorem r49 (es : Nat → Nat) : memB (env0.mem 11 []) 60 m49.c es = true := by kernel_rfl
theorem s47 : cutS 11 m47.c = true := by kernel_rfl
set_option maxRecDepth 100000 in
theorem r47 (es : Nat → Nat) : memB (env0.mem 11 [(319, [m48, m49])]) 60 m47.c es = true := by kernel_rfl
theorem s46 : cutS 11 m46.c = true := by kernel_rfl
set_option maxRecDepth 100000 in
theorem r46 (es : Nat → Nat) : memB (env0.mem 11 [(307, [m47])]) 60 m46.c es = true := by kernel_rfl
theorem s50 : cutS 11 m50.c = true := by kernel_rfl
set_option maxRecDepth 100000 in
theorem r50 (es : Nat → Nat) : memB (env0.mem 11 []) 60 m50.c es = true := by kernel_rfl
theorem s45 : cutS 11 m45.c = true := by kernel_rfl
set_option maxRecDepth 100000 in
theorem r45 (es : Nat → Nat) : memB (env0.mem 11 [(103, [m50]), (272, [m46])]) 60 m45.c es = true := by kernel_rfl
theorem s44 : cutS 11 m44.c = true := by kernel_rfl
set_option maxRecDepth 100000 in
theorem r44 (es : Nat → Nat) : memB (env0.mem 11 [(245, [m45])]) 60 m44.c es = true := by kernel_rfl
theorem s43 : cutS 11 m43.c = true := by kernel_rfl
set_option maxRecDepth 100000 in
theorem r43 (es : Nat → Nat) : memB (env0.mem 11 [(22, [m3]), (26, [m22, m26]), (64, [m11]), (198, [m44])]) 60 m43.c es = true := by kernel_rfl
theorem s42 : cutS 11 m42.c = true := by kernel_rfl
set_option maxRecDepth 100000 in
theorem r42 (es : Nat → Nat) : memB (env0.mem 11 [(26, [m22, m26]), (64, [m11]), (140, [m43])]) 60 m42.c es = true := by kernel_rfl
theorem s41 : cutS 11 m41.c = true := by kernel_rfl
set_option maxRecDepth 100000 in
theorem r41 (es : Nat → Nat) : memB (env0.mem 11 [(78, [m42])]) 60 m41.c es = true := by kernel_rfl
theorem s51 : cutS 11 m51.c = true := by kernel_rfl
set_option maxRecDepth 100000 in
theorem r51 (es : Nat → Nat) : memB (env0.mem 11 [(78, [m42])]) 60 m51.c es = true := by kernel_rfl
theorem s40 : cutS 11 m40.c = true := by kernel_rfl
set_option maxRecDepth 100000 in
theorem r40 (es : Nat → Nat) : memB (env0.mem 11 [(32, [m33, m36]), (37, [m41, m51])]) 60 m40.c es = true := by kernel_rfl
theorem s53 : cutS 11 m53.c = true := by kernel_rfl
set_option maxRecDepth 100000 in
theorem r53 (es : Nat → Nat) : memB (env0.mem 11 []) 60 m53.c es = true := by kernel_rfl
theorem s54 : cutS 11 m54.c = true := by kernel_rfl
set_option maxRecDepth 100000 in
theorem r54 (es : Nat → Nat) : memB (env0.mem 11 []) 60 m54.c es = true := by kernel_rfl
theorem s52 : cutS 11 m52.c = true := by kernel_rfl
set_option maxRecDepth 100000 in
theorem r52 (es : Nat → Nat) : memB (env0.mem 11 [(32, [m33, m39]), (37, [m53, m54])]) 60 m52.c es = true := by kernel_rfl
end Go.Proofs.YtldfdadpfjcpcaaGreatDoor
