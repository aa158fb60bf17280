/-
  Memos: their runs.
-/
import Derived.Test.YtbchdbhojafpdaaGreatDoorBmD0
set_option linter.unusedVariables false
set_option linter.unusedSimpArgs false
namespace Go.Proofs.YtbchdbhojafpdaaGreatDoor
open Go Ev
theorem s365 : cutS 13 m365.c = true := by kernel_rfl
set_option maxRecDepth 100000 in
theorem r365 (es : Nat → Nat) : memB (env0.mem 13 [(243, [m333]), (250, [m366, m367, m368, m369])]) 60 m365.c es = true := by kernel_rfl
theorem s370 : cutS 13 m370.c = true := by kernel_rfl
set_option maxRecDepth 100000 in
theorem r370 (es : Nat → Nat) : memB (env0.mem 13 []) 60 m370.c es = true := by kernel_rfl
theorem s364 : cutS 13 m364.c = true := by kernel_rfl
set_option maxRecDepth 100000 in
theorem r364 (es : Nat → Nat) : memB (env0.mem 13 [(97, [m370]), (191, [m365])]) 60 m364.c es = true := by kernel_rfl
theorem s363 : cutS 13 m363.c = true := by kernel_rfl
set_option maxRecDepth 100000 in
theorem r363 (es : Nat → Nat) : memB (env0.mem 13 [(161, [m364])]) 60 m363.c es = true := by kernel_rfl
theorem s362 : cutS 13 m362.c = true := by kernel_rfl
set_option maxRecDepth 100000 in
theorem r362 (es : Nat → Nat) : memB (env0.mem 13 [(22, [m8]), (26, [m59, m191, m319]), (39, [m57]), (127, [m363])]) 60 m362.c es = true := by kernel_rfl
theorem s361 : cutS 13 m361.c = true := by kernel_rfl
set_option maxRecDepth 100000 in
theorem r361 (es : Nat → Nat) : memB (env0.mem 13 [(26, [m59, m191, m319]), (39, [m57]), (64, [m362])]) 60 m361.c es = true := by kernel_rfl
theorem s371 : cutS 13 m371.c = true := by kernel_rfl
set_option maxRecDepth 100000 in
theorem r371 (es : Nat → Nat) : memB (env0.mem 13 [(12, [m1]), (89, [m343]), (135, [m344])]) 60 m371.c es = true := by kernel_rfl
theorem s360 : cutS 13 m360.c = true := by kernel_rfl
set_option maxRecDepth 100000 in
theorem r360 (es : Nat → Nat) : memB (env0.mem 13 [(32, [m361]), (33, [m371])]) 60 m360.c es = true := by kernel_rfl
theorem s323 : cutS 13 m323.c = true := by kernel_rfl
set_option maxRecDepth 100000 in
theorem r323 (es : Nat → Nat) : memB (env0.mem 13 [(10, [m327, m346, m360]), (20, [m324])]) 60 m323.c es = true := by kernel_rfl
theorem s372 : cutS 13 m372.c = true := by kernel_rfl
set_option maxRecDepth 100000 in
theorem r372 (es : Nat → Nat) : memB (env0.mem 13 [(10, [m327, m360]), (20, [m324])]) 60 m372.c es = true := by kernel_rfl
theorem s373 : cutS 13 m373.c = true := by kernel_rfl
set_option maxRecDepth 100000 in
theorem r373 (es : Nat → Nat) : memB (env0.mem 13 [(10, [m346, m360]), (20, [m324])]) 60 m373.c es = true := by kernel_rfl
end Go.Proofs.YtbchdbhojafpdaaGreatDoor
