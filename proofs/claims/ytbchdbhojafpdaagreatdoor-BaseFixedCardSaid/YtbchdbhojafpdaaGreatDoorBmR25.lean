/-
  Memos: their runs.
-/
import Derived.Test.YtbchdbhojafpdaaGreatDoorBmD0
set_option linter.unusedVariables false
set_option linter.unusedSimpArgs false
namespace Go.Proofs.YtbchdbhojafpdaaGreatDoor
open Go Ev
theorem s442 : cutS 13 m442.c = true := by kernel_rfl
set_option maxRecDepth 100000 in
theorem r442 (es : Nat → Nat) : memB (env0.mem 13 []) 60 m442.c es = true := by kernel_rfl
theorem s439 : cutS 13 m439.c = true := by kernel_rfl
set_option maxRecDepth 100000 in
theorem r439 (es : Nat → Nat) : memB (env0.mem 13 [(100, [m71, m440, m441, m442])]) 60 m439.c es = true := by kernel_rfl
theorem s438 : cutS 13 m438.c = true := by kernel_rfl
set_option maxRecDepth 100000 in
theorem r438 (es : Nat → Nat) : memB (env0.mem 13 [(56, [m439])]) 60 m438.c es = true := by kernel_rfl
theorem s446 : cutS 13 m446.c = true := by kernel_rfl
set_option maxRecDepth 100000 in
theorem r446 (es : Nat → Nat) : memB (env0.mem 13 []) 60 m446.c es = true := by kernel_rfl
theorem s447 : cutS 13 m447.c = true := by kernel_rfl
set_option maxRecDepth 100000 in
theorem r447 (es : Nat → Nat) : memB (env0.mem 13 []) 60 m447.c es = true := by kernel_rfl
theorem s448 : cutS 13 m448.c = true := by kernel_rfl
set_option maxRecDepth 100000 in
theorem r448 (es : Nat → Nat) : memB (env0.mem 13 []) 60 m448.c es = true := by kernel_rfl
theorem s449 : cutS 13 m449.c = true := by kernel_rfl
set_option maxRecDepth 100000 in
theorem r449 (es : Nat → Nat) : memB (env0.mem 13 []) 60 m449.c es = true := by kernel_rfl
theorem s450 : cutS 13 m450.c = true := by kernel_rfl
set_option maxRecDepth 100000 in
theorem r450 (es : Nat → Nat) : memB (env0.mem 13 []) 60 m450.c es = true := by kernel_rfl
theorem s451 : cutS 13 m451.c = true := by kernel_rfl
set_option maxRecDepth 100000 in
theorem r451 (es : Nat → Nat) : memB (env0.mem 13 []) 60 m451.c es = true := by kernel_rfl
theorem s452 : cutS 13 m452.c = true := by kernel_rfl
set_option maxRecDepth 100000 in
theorem r452 (es : Nat → Nat) : memB (env0.mem 13 []) 60 m452.c es = true := by kernel_rfl
theorem s453 : cutS 13 m453.c = true := by kernel_rfl
set_option maxRecDepth 100000 in
theorem r453 (es : Nat → Nat) : memB (env0.mem 13 []) 60 m453.c es = true := by kernel_rfl
theorem s454 : cutS 13 m454.c = true := by kernel_rfl
set_option maxRecDepth 100000 in
theorem r454 (es : Nat → Nat) : memB (env0.mem 13 []) 60 m454.c es = true := by kernel_rfl
theorem s455 : cutS 13 m455.c = true := by kernel_rfl
set_option maxRecDepth 100000 in
theorem r455 (es : Nat → Nat) : memB (env0.mem 13 []) 60 m455.c es = true := by kernel_rfl
theorem s456 : cutS 13 m456.c = true := by kernel_rfl
set_option maxRecDepth 100000 in
theorem r456 (es : Nat → Nat) : memB (env0.mem 13 []) 60 m456.c es = true := by kernel_rfl
theorem s457 : cutS 13 m457.c = true := by kernel_rfl
set_option maxRecDepth 100000 in
theorem r457 (es : Nat → Nat) : memB (env0.mem 13 []) 60 m457.c es = true := by kernel_rfl
theorem s458 : cutS 13 m458.c = true := by kernel_rfl
set_option maxRecDepth 100000 in
theorem r458 (es : Nat → Nat) : memB (env0.mem 13 []) 60 m458.c es = true := by kernel_rfl
theorem s459 : cutS 13 m459.c = true := by kernel_rfl
set_option maxRecDepth 100000 in
theorem r459 (es : Nat → Nat) : memB (env0.mem 13 []) 60 m459.c es = true := by kernel_rfl
theorem s460 : cutS 13 m460.c = true := by kernel_rfl
set_option maxRecDepth 100000 in
theorem r460 (es : Nat → Nat) : memB (env0.mem 13 []) 60 m460.c es = true := by kernel_rfl
theorem s461 : cutS 13 m461.c = true := by kernel_rfl
set_option maxRecDepth 100000 in
theorem r461 (es : Nat → Nat) : memB (env0.mem 13 []) 60 m461.c es = true := by kernel_rfl
theorem s462 : cutS 13 m462.c = true := by kernel_rfl
set_option maxRecDepth 100000 in
theorem r462 (es : Nat → Nat) : memB (env0.mem 13 []) 60 m462.c es = true := by kernel_rfl
theorem s463 : cutS 13 m463.c = true := by kernel_rfl
set_option maxRecDepth 100000 in
theorem r463 (es : Nat → Nat) : memB (env0.mem 13 []) 60 m463.c es = true := by kernel_rfl
theorem s464 : cutS 13 m464.c = true := by kernel_rfl
set_option maxRecDepth 100000 in
theorem r464 (es : Nat → Nat) : memB (env0.mem 13 []) 60 m464.c es = true := by kernel_rfl
theorem s465 : cutS 13 m465.c = true := by kernel_rfl
set_option maxRecDepth 100000 in
theorem r465 (es : Nat → Nat) : memB (env0.mem 13 []) 60 m465.c es = true := by kernel_rfl
theorem s466 : cutS 13 m466.c = true := by kernel_rfl
set_option maxRecDepth 100000 in
theorem r466 (es : Nat → Nat) : memB (env0.mem 13 []) 60 m466.c es = true := by kernel_rfl
theorem s467 : cutS 13 m467.c = true := by kernel_rfl
set_option maxRecDepth 100000 in
theorem r467 (es : Nat → Nat) : memB (env0.mem 13 []) 60 m467.c es = true := by kernel_rfl
theorem s468 : cutS 13 m468.c = true := by kernel_rfl
set_option maxRecDepth 100000 in
theorem r468 (es : Nat → Nat) : memB (env0.mem 13 []) 60 m468.c es = true := by kernel_rfl
theorem s469 : cutS 13 m469.c = true := by kernel_rfl
set_option maxRecDepth 100000 in
theorem r469 (es : Nat → Nat) : memB (env0.mem 13 []) 60 m469.c es = true := by kernel_rfl
theorem s470 : cutS 13 m470.c = true := by kernel_rfl
set_option maxRecDepth 100000 in
theorem r470 (es : Nat → Nat) : memB (env0.mem 13 []) 60 m470.c es = true := by kernel_rfl
theorem s471 : cutS 13 m471.c = true := by kernel_rfl
set_option maxRecDepth 100000 in
theorem r471 (es : Nat → Nat) : memB (env0.mem 13 []) 60 m471.c es = true := by kernel_rfl
theorem s472 : cutS 13 m472.c = true := by kernel_rfl
set_option maxRecDepth 100000 in
theorem r472 (es : Nat → Nat) : memB (env0.mem 13 []) 60 m472.c es = true := by kernel_rfl
theorem s473 : cutS 13 m473.c = true := by kernel_rfl
set_option maxRecDepth 100000 in
theorem r473 (es : Nat → Nat) : memB (env0.mem 13 []) 60 m473.c es = true := by kernel_rfl
end Go.Proofs.YtbchdbhojafpdaaGreatDoor
