/-
  Memos: their runs.
-/
import Derived.Test.YtbchdbhojafpdaaGreatDoorBmD0
set_option linter.unusedVariables false
set_option linter.unusedSimpArgs false
namespace Go.Proofs.YtbchdbhojafpdaaGreatDoor
open Go Ev
theorem s341 : cutS 13 m341.c = true := by kernel_rfl
set_option maxRecDepth 100000 in
theorem r341 (es : Nat → Nat) : memB (env0.mem 13 []) 60 m341.c es = true := by kernel_rfl
theorem s331 : cutS 13 m331.c = true := by kernel_rfl
set_option maxRecDepth 100000 in
theorem r331 (es : Nat → Nat) : memB (env0.mem 13 [(97, [m341]), (191, [m332])]) 60 m331.c es = true := by kernel_rfl
theorem s330 : cutS 13 m330.c = true := by kernel_rfl
set_option maxRecDepth 100000 in
theorem r330 (es : Nat → Nat) : memB (env0.mem 13 [(161, [m331])]) 60 m330.c es = true := by kernel_rfl
theorem s329 : cutS 13 m329.c = true := by kernel_rfl
set_option maxRecDepth 100000 in
theorem r329 (es : Nat → Nat) : memB (env0.mem 13 [(22, [m69]), (26, [m59, m191, m319]), (39, [m189]), (127, [m330])]) 60 m329.c es = true := by kernel_rfl
theorem s328 : cutS 13 m328.c = true := by kernel_rfl
set_option maxRecDepth 100000 in
theorem r328 (es : Nat → Nat) : memB (env0.mem 13 [(26, [m59, m191, m319]), (39, [m189]), (64, [m329])]) 60 m328.c es = true := by kernel_rfl
theorem s343 : cutS 13 m343.c = true := by kernel_rfl
set_option maxRecDepth 100000 in
theorem r343 (es : Nat → Nat) : memB (env0.mem 13 []) 60 m343.c es = true := by kernel_rfl
theorem s344 : cutS 13 m344.c = true := by kernel_rfl
set_option maxRecDepth 100000 in
theorem r344 (es : Nat → Nat) : memB (env0.mem 13 [(72, [m2])]) 60 m344.c es = true := by kernel_rfl
theorem s345 : cutS 13 m345.c = true := by kernel_rfl
set_option maxRecDepth 100000 in
theorem r345 (es : Nat → Nat) : memB (env0.mem 13 [(39, [m3, m57]), (72, [m2])]) 60 m345.c es = true := by kernel_rfl
theorem s342 : cutS 13 m342.c = true := by kernel_rfl
set_option maxRecDepth 100000 in
theorem r342 (es : Nat → Nat) : memB (env0.mem 13 [(12, [m345]), (89, [m67, m343]), (135, [m344])]) 60 m342.c es = true := by kernel_rfl
theorem s327 : cutS 13 m327.c = true := by kernel_rfl
set_option maxRecDepth 100000 in
theorem r327 (es : Nat → Nat) : memB (env0.mem 13 [(32, [m328]), (33, [m342])]) 60 m327.c es = true := by kernel_rfl
theorem s352 : cutS 13 m352.c = true := by kernel_rfl
set_option maxRecDepth 100000 in
theorem r352 (es : Nat → Nat) : memB (env0.mem 13 []) 60 m352.c es = true := by kernel_rfl
theorem s353 : cutS 13 m353.c = true := by kernel_rfl
set_option maxRecDepth 100000 in
theorem r353 (es : Nat → Nat) : memB (env0.mem 13 []) 60 m353.c es = true := by kernel_rfl
theorem s354 : cutS 13 m354.c = true := by kernel_rfl
set_option maxRecDepth 100000 in
theorem r354 (es : Nat → Nat) : memB (env0.mem 13 []) 60 m354.c es = true := by kernel_rfl
theorem s355 : cutS 13 m355.c = true := by kernel_rfl
set_option maxRecDepth 100000 in
theorem r355 (es : Nat → Nat) : memB (env0.mem 13 []) 60 m355.c es = true := by kernel_rfl
theorem s356 : cutS 13 m356.c = true := by kernel_rfl
set_option maxRecDepth 100000 in
theorem r356 (es : Nat → Nat) : memB (env0.mem 13 []) 60 m356.c es = true := by kernel_rfl
end Go.Proofs.YtbchdbhojafpdaaGreatDoor
