/-
  Memos: their runs.
-/
import Derived.Test.YtbchdbhojafpdaaGreatDoorBmD0
set_option linter.unusedVariables false
set_option linter.unusedSimpArgs false
namespace Go.Proofs.YtbchdbhojafpdaaGreatDoor
open Go Ev
theorem s444 : cutS 13 m444.c = true := by kernel_rfl
set_option maxRecDepth 100000 in
theorem r444 (es : Nat → Nat) : memB (env0.mem 13 [(148, [m445])]) 60 m444.c es = true := by kernel_rfl
theorem s496 : cutS 13 m496.c = true := by kernel_rfl
set_option maxRecDepth 100000 in
theorem r496 (es : Nat → Nat) : memB (env0.mem 13 []) 60 m496.c es = true := by kernel_rfl
theorem s443 : cutS 13 m443.c = true := by kernel_rfl
set_option maxRecDepth 100000 in
theorem r443 (es : Nat → Nat) : memB (env0.mem 13 [(96, [m444]), (97, [m496])]) 60 m443.c es = true := by kernel_rfl
theorem s437 : cutS 13 m437.c = true := by kernel_rfl
set_option maxRecDepth 100000 in
theorem r437 (es : Nat → Nat) : memB (env0.mem 13 [(22, [m438]), (53, [m443])]) 60 m437.c es = true := by kernel_rfl
theorem s497 : cutS 13 m497.c = true := by kernel_rfl
set_option maxRecDepth 100000 in
theorem r497 (es : Nat → Nat) : memB (env0.mem 13 []) 60 m497.c es = true := by kernel_rfl
theorem s433 : cutS 13 m433.c = true := by kernel_rfl
set_option maxRecDepth 100000 in
theorem r433 (es : Nat → Nat) : memB (env0.mem 13 [(20, [m434]), (21, [m437]), (22, [m438]), (39, [m497])]) 60 m433.c es = true := by kernel_rfl
theorem s500 : cutS 13 m500.c = true := by kernel_rfl
set_option maxRecDepth 100000 in
theorem r500 (es : Nat → Nat) : memB (env0.mem 13 []) 60 m500.c es = true := by kernel_rfl
theorem s501 : cutS 13 m501.c = true := by kernel_rfl
set_option maxRecDepth 100000 in
theorem r501 (es : Nat → Nat) : memB (env0.mem 13 []) 60 m501.c es = true := by kernel_rfl
theorem s499 : cutS 13 m499.c = true := by kernel_rfl
set_option maxRecDepth 100000 in
theorem r499 (es : Nat → Nat) : memB (env0.mem 13 [(60, [m60, m500, m501])]) 60 m499.c es = true := by kernel_rfl
theorem s498 : cutS 13 m498.c = true := by kernel_rfl
set_option maxRecDepth 100000 in
theorem r498 (es : Nat → Nat) : memB (env0.mem 13 [(26, [m59, m428, m499])]) 60 m498.c es = true := by kernel_rfl
theorem s506 : cutS 13 m506.c = true := by kernel_rfl
set_option maxRecDepth 100000 in
theorem r506 (es : Nat → Nat) : memB (env0.mem 13 []) 60 m506.c es = true := by kernel_rfl
theorem s505 : cutS 13 m505.c = true := by kernel_rfl
set_option maxRecDepth 100000 in
theorem r505 (es : Nat → Nat) : memB (env0.mem 13 [(26, [m59, m428, m499]), (89, [m67, m436, m506])]) 60 m505.c es = true := by kernel_rfl
theorem s504 : cutS 13 m504.c = true := by kernel_rfl
set_option maxRecDepth 100000 in
theorem r504 (es : Nat → Nat) : memB (env0.mem 13 [(49, [m505])]) 60 m504.c es = true := by kernel_rfl
theorem s509 : cutS 13 m509.c = true := by kernel_rfl
set_option maxRecDepth 100000 in
theorem r509 (es : Nat → Nat) : memB (env0.mem 13 [(22, [m8]), (26, [m59, m428, m499]), (39, [m57]), (127, [m363])]) 60 m509.c es = true := by kernel_rfl
theorem s508 : cutS 13 m508.c = true := by kernel_rfl
set_option maxRecDepth 100000 in
theorem r508 (es : Nat → Nat) : memB (env0.mem 13 [(26, [m59, m428, m499]), (39, [m57]), (64, [m509])]) 60 m508.c es = true := by kernel_rfl
theorem s507 : cutS 13 m507.c = true := by kernel_rfl
set_option maxRecDepth 100000 in
theorem r507 (es : Nat → Nat) : memB (env0.mem 13 [(32, [m508]), (33, [m371])]) 60 m507.c es = true := by kernel_rfl
theorem s516 : cutS 13 m516.c = true := by kernel_rfl
set_option maxRecDepth 100000 in
theorem r516 (es : Nat → Nat) : memB (env0.mem 13 []) 60 m516.c es = true := by kernel_rfl
theorem s517 : cutS 13 m517.c = true := by kernel_rfl
set_option maxRecDepth 100000 in
theorem r517 (es : Nat → Nat) : memB (env0.mem 13 []) 60 m517.c es = true := by kernel_rfl
theorem s518 : cutS 13 m518.c = true := by kernel_rfl
set_option maxRecDepth 100000 in
theorem r518 (es : Nat → Nat) : memB (env0.mem 13 []) 60 m518.c es = true := by kernel_rfl
theorem s519 : cutS 13 m519.c = true := by kernel_rfl
set_option maxRecDepth 100000 in
theorem r519 (es : Nat → Nat) : memB (env0.mem 13 []) 60 m519.c es = true := by kernel_rfl
end Go.Proofs.YtbchdbhojafpdaaGreatDoor
