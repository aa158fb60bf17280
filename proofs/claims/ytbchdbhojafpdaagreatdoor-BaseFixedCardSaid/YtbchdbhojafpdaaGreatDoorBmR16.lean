/-
  Memos: their runs.
-/
import Derived.Test.YtbchdbhojafpdaaGreatDoorBmD0
set_option linter.unusedVariables false
set_option linter.unusedSimpArgs false
namespace Go.Proofs.YtbchdbhojafpdaaGreatDoor
open Go Ev
theorem s357 : cutS 13 m357.c = true := by kernel_rfl
set_option maxRecDepth 100000 in
theorem r357 (es : Nat → Nat) : memB (env0.mem 13 []) 60 m357.c es = true := by kernel_rfl
theorem s350 : cutS 13 m350.c = true := by kernel_rfl
set_option maxRecDepth 100000 in
theorem r350 (es : Nat → Nat) : memB (env0.mem 13 [(97, [m357]), (191, [m351])]) 60 m350.c es = true := by kernel_rfl
theorem s349 : cutS 13 m349.c = true := by kernel_rfl
set_option maxRecDepth 100000 in
theorem r349 (es : Nat → Nat) : memB (env0.mem 13 [(161, [m350])]) 60 m349.c es = true := by kernel_rfl
theorem s348 : cutS 13 m348.c = true := by kernel_rfl
set_option maxRecDepth 100000 in
theorem r348 (es : Nat → Nat) : memB (env0.mem 13 [(22, [m200]), (26, [m59, m191, m319]), (39, [m317]), (127, [m349])]) 60 m348.c es = true := by kernel_rfl
theorem s347 : cutS 13 m347.c = true := by kernel_rfl
set_option maxRecDepth 100000 in
theorem r347 (es : Nat → Nat) : memB (env0.mem 13 [(26, [m59, m191, m319]), (39, [m317]), (64, [m348])]) 60 m347.c es = true := by kernel_rfl
theorem s359 : cutS 13 m359.c = true := by kernel_rfl
set_option maxRecDepth 100000 in
theorem r359 (es : Nat → Nat) : memB (env0.mem 13 [(39, [m3, m57]), (72, [m2])]) 60 m359.c es = true := by kernel_rfl
theorem s358 : cutS 13 m358.c = true := by kernel_rfl
set_option maxRecDepth 100000 in
theorem r358 (es : Nat → Nat) : memB (env0.mem 13 [(12, [m359]), (89, [m67, m343]), (135, [m344])]) 60 m358.c es = true := by kernel_rfl
theorem s346 : cutS 13 m346.c = true := by kernel_rfl
set_option maxRecDepth 100000 in
theorem r346 (es : Nat → Nat) : memB (env0.mem 13 [(32, [m347]), (33, [m358])]) 60 m346.c es = true := by kernel_rfl
theorem s366 : cutS 13 m366.c = true := by kernel_rfl
set_option maxRecDepth 100000 in
theorem r366 (es : Nat → Nat) : memB (env0.mem 13 []) 60 m366.c es = true := by kernel_rfl
theorem s367 : cutS 13 m367.c = true := by kernel_rfl
set_option maxRecDepth 100000 in
theorem r367 (es : Nat → Nat) : memB (env0.mem 13 []) 60 m367.c es = true := by kernel_rfl
theorem s368 : cutS 13 m368.c = true := by kernel_rfl
set_option maxRecDepth 100000 in
theorem r368 (es : Nat → Nat) : memB (env0.mem 13 []) 60 m368.c es = true := by kernel_rfl
theorem s369 : cutS 13 m369.c = true := by kernel_rfl
set_option maxRecDepth 100000 in
theorem r369 (es : Nat → Nat) : memB (env0.mem 13 []) 60 m369.c es = true := by kernel_rfl
end Go.Proofs.YtbchdbhojafpdaaGreatDoor
