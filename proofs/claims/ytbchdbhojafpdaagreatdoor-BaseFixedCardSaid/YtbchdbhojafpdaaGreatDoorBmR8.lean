/-
  Memos: their runs.
-/
import Derived.Test.YtbchdbhojafpdaaGreatDoorBmD0
set_option linter.unusedVariables false
set_option linter.unusedSimpArgs false
namespace Go.Proofs.YtbchdbhojafpdaaGreatDoor
open Go Ev
theorem s76 : cutS 13 m76.c = true := by kernel_rfl
set_option maxRecDepth 100000 in
theorem r76 (es : Nat → Nat) : memB (env0.mem 13 [(148, [m77])]) 60 m76.c es = true := by kernel_rfl
theorem s188 : cutS 13 m188.c = true := by kernel_rfl
set_option maxRecDepth 100000 in
theorem r188 (es : Nat → Nat) : memB (env0.mem 13 []) 60 m188.c es = true := by kernel_rfl
theorem s75 : cutS 13 m75.c = true := by kernel_rfl
set_option maxRecDepth 100000 in
theorem r75 (es : Nat → Nat) : memB (env0.mem 13 [(96, [m76]), (97, [m188])]) 60 m75.c es = true := by kernel_rfl
theorem s68 : cutS 13 m68.c = true := by kernel_rfl
set_option maxRecDepth 100000 in
theorem r68 (es : Nat → Nat) : memB (env0.mem 13 [(22, [m69]), (53, [m75])]) 60 m68.c es = true := by kernel_rfl
theorem s189 : cutS 13 m189.c = true := by kernel_rfl
set_option maxRecDepth 100000 in
theorem r189 (es : Nat → Nat) : memB (env0.mem 13 []) 60 m189.c es = true := by kernel_rfl
theorem s64 : cutS 13 m64.c = true := by kernel_rfl
set_option maxRecDepth 100000 in
theorem r64 (es : Nat → Nat) : memB (env0.mem 13 [(20, [m65]), (21, [m68]), (22, [m69]), (39, [m189])]) 60 m64.c es = true := by kernel_rfl
theorem s192 : cutS 13 m192.c = true := by kernel_rfl
set_option maxRecDepth 100000 in
theorem r192 (es : Nat → Nat) : memB (env0.mem 13 []) 60 m192.c es = true := by kernel_rfl
theorem s193 : cutS 13 m193.c = true := by kernel_rfl
set_option maxRecDepth 100000 in
theorem r193 (es : Nat → Nat) : memB (env0.mem 13 []) 60 m193.c es = true := by kernel_rfl
theorem s191 : cutS 13 m191.c = true := by kernel_rfl
set_option maxRecDepth 100000 in
theorem r191 (es : Nat → Nat) : memB (env0.mem 13 [(60, [m60, m192, m193])]) 60 m191.c es = true := by kernel_rfl
theorem s190 : cutS 13 m190.c = true := by kernel_rfl
set_option maxRecDepth 100000 in
theorem r190 (es : Nat → Nat) : memB (env0.mem 13 [(26, [m59, m191])]) 60 m190.c es = true := by kernel_rfl
theorem s194 : cutS 13 m194.c = true := by kernel_rfl
set_option maxRecDepth 100000 in
theorem r194 (es : Nat → Nat) : memB (env0.mem 13 [(39, [m3, m57]), (72, [m2])]) 60 m194.c es = true := by kernel_rfl
theorem s198 : cutS 13 m198.c = true := by kernel_rfl
set_option maxRecDepth 100000 in
theorem r198 (es : Nat → Nat) : memB (env0.mem 13 []) 60 m198.c es = true := by kernel_rfl
theorem s197 : cutS 13 m197.c = true := by kernel_rfl
set_option maxRecDepth 100000 in
theorem r197 (es : Nat → Nat) : memB (env0.mem 13 [(26, [m59, m191]), (89, [m67, m198])]) 60 m197.c es = true := by kernel_rfl
theorem s196 : cutS 13 m196.c = true := by kernel_rfl
set_option maxRecDepth 100000 in
theorem r196 (es : Nat → Nat) : memB (env0.mem 13 [(49, [m197])]) 60 m196.c es = true := by kernel_rfl
theorem s202 : cutS 13 m202.c = true := by kernel_rfl
set_option maxRecDepth 100000 in
theorem r202 (es : Nat → Nat) : memB (env0.mem 13 []) 60 m202.c es = true := by kernel_rfl
end Go.Proofs.YtbchdbhojafpdaaGreatDoor
