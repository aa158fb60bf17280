/-
  Memos: their runs.
-/
import Derived.Test.YtbchdbhojafpdaaGreatDoorBmD0
set_option linter.unusedVariables false
set_option linter.unusedSimpArgs false
namespace Go.Proofs.YtbchdbhojafpdaaGreatDoor
open Go Ev
theorem s475 : cutS 13 m475.c = true := by kernel_rfl
set_option maxRecDepth 100000 in
theorem r475 (es : Nat → Nat) : memB (env0.mem 13 []) 60 m475.c es = true := by kernel_rfl
theorem s476 : cutS 13 m476.c = true := by kernel_rfl
set_option maxRecDepth 100000 in
theorem r476 (es : Nat → Nat) : memB (env0.mem 13 []) 60 m476.c es = true := by kernel_rfl
theorem s477 : cutS 13 m477.c = true := by kernel_rfl
set_option maxRecDepth 100000 in
theorem r477 (es : Nat → Nat) : memB (env0.mem 13 []) 60 m477.c es = true := by kernel_rfl
theorem s478 : cutS 13 m478.c = true := by kernel_rfl
set_option maxRecDepth 100000 in
theorem r478 (es : Nat → Nat) : memB (env0.mem 13 []) 60 m478.c es = true := by kernel_rfl
theorem s479 : cutS 13 m479.c = true := by kernel_rfl
set_option maxRecDepth 100000 in
theorem r479 (es : Nat → Nat) : memB (env0.mem 13 []) 60 m479.c es = true := by kernel_rfl
theorem s480 : cutS 13 m480.c = true := by kernel_rfl
set_option maxRecDepth 100000 in
theorem r480 (es : Nat → Nat) : memB (env0.mem 13 []) 60 m480.c es = true := by kernel_rfl
theorem s481 : cutS 13 m481.c = true := by kernel_rfl
set_option maxRecDepth 100000 in
theorem r481 (es : Nat → Nat) : memB (env0.mem 13 []) 60 m481.c es = true := by kernel_rfl
theorem s482 : cutS 13 m482.c = true := by kernel_rfl
set_option maxRecDepth 100000 in
theorem r482 (es : Nat → Nat) : memB (env0.mem 13 []) 60 m482.c es = true := by kernel_rfl
theorem s483 : cutS 13 m483.c = true := by kernel_rfl
set_option maxRecDepth 100000 in
theorem r483 (es : Nat → Nat) : memB (env0.mem 13 []) 60 m483.c es = true := by kernel_rfl
theorem s484 : cutS 13 m484.c = true := by kernel_rfl
set_option maxRecDepth 100000 in
theorem r484 (es : Nat → Nat) : memB (env0.mem 13 []) 60 m484.c es = true := by kernel_rfl
theorem s485 : cutS 13 m485.c = true := by kernel_rfl
set_option maxRecDepth 100000 in
theorem r485 (es : Nat → Nat) : memB (env0.mem 13 []) 60 m485.c es = true := by kernel_rfl
theorem s486 : cutS 13 m486.c = true := by kernel_rfl
set_option maxRecDepth 100000 in
theorem r486 (es : Nat → Nat) : memB (env0.mem 13 []) 60 m486.c es = true := by kernel_rfl
theorem s487 : cutS 13 m487.c = true := by kernel_rfl
set_option maxRecDepth 100000 in
theorem r487 (es : Nat → Nat) : memB (env0.mem 13 []) 60 m487.c es = true := by kernel_rfl
theorem s488 : cutS 13 m488.c = true := by kernel_rfl
set_option maxRecDepth 100000 in
theorem r488 (es : Nat → Nat) : memB (env0.mem 13 []) 60 m488.c es = true := by kernel_rfl
theorem s489 : cutS 13 m489.c = true := by kernel_rfl
set_option maxRecDepth 100000 in
theorem r489 (es : Nat → Nat) : memB (env0.mem 13 []) 60 m489.c es = true := by kernel_rfl
theorem s490 : cutS 13 m490.c = true := by kernel_rfl
set_option maxRecDepth 100000 in
theorem r490 (es : Nat → Nat) : memB (env0.mem 13 []) 60 m490.c es = true := by kernel_rfl
theorem s491 : cutS 13 m491.c = true := by kernel_rfl
set_option maxRecDepth 100000 in
theorem r491 (es : Nat → Nat) : memB (env0.mem 13 []) 60 m491.c es = true := by kernel_rfl
theorem s492 : cutS 13 m492.c = true := by kernel_rfl
set_option maxRecDepth 100000 in
theorem r492 (es : Nat → Nat) : memB (env0.mem 13 []) 60 m492.c es = true := by kernel_rfl
theorem s493 : cutS 13 m493.c = true := by kernel_rfl
set_option maxRecDepth 100000 in
theorem r493 (es : Nat → Nat) : memB (env0.mem 13 []) 60 m493.c es = true := by kernel_rfl
theorem s494 : cutS 13 m494.c = true := by kernel_rfl
set_option maxRecDepth 100000 in
theorem r494 (es : Nat → Nat) : memB (env0.mem 13 []) 60 m494.c es = true := by kernel_rfl
theorem s495 : cutS 13 m495.c = true := by kernel_rfl
set_option maxRecDepth 100000 in
theorem r495 (es : Nat → Nat) : memB (env0.mem 13 []) 60 m495.c es = true := by kernel_rfl
end Go.Proofs.YtbchdbhojafpdaaGreatDoor
