/-
  Memos: their runs.
-/
import Derived.Test.YtldfdadpfjcpcaaGreatDoorTmD0
set_option linter.unusedVariables false
set_option linter.unusedSimpArgs false
namespace Go.Proofs.YtldfdadpfjcpcaaGreatDoor
open Go Ev
theorem s93 : cutS 11 m93.c = true := by kernel_rfl
set_option maxRecDepth 100000 in
theorem r93 (es : Nat → Nat) : memB (env0.mem 11 []) 60 m93.c es = true := by kernel_rfl
theorem s91 : cutS 11 m91.c = true := by kernel_rfl
set_option maxRecDepth 100000 in
theorem r91 (es : Nat → Nat) : memB (env0.mem 11 [(68, [m23, m92, m93])]) 60 m91.c es = true := by kernel_rfl
theorem s87 : cutS 11 m87.c = true := by kernel_rfl
set_option maxRecDepth 100000 in
theorem r87 (es : Nat → Nat) : memB (env0.mem 11 [(26, [m88, m91])]) 60 m87.c es = true := by kernel_rfl
theorem s94 : cutS 11 m94.c = true := by kernel_rfl
set_option maxRecDepth 100000 in
theorem r94 (es : Nat → Nat) : memB (env0.mem 11 []) 60 m94.c es = true := by kernel_rfl
theorem s95 : cutS 11 m95.c = true := by kernel_rfl
set_option maxRecDepth 100000 in
theorem r95 (es : Nat → Nat) : memB (env0.mem 11 []) 60 m95.c es = true := by kernel_rfl
theorem s97 : cutS 11 m97.c = true := by kernel_rfl
set_option maxRecDepth 100000 in
theorem r97 (es : Nat → Nat) : memB (env0.mem 11 [(26, [m34])]) 60 m97.c es = true := by kernel_rfl
theorem s98 : cutS 11 m98.c = true := by kernel_rfl
set_option maxRecDepth 100000 in
theorem r98 (es : Nat → Nat) : memB (env0.mem 11 [(26, [m34])]) 60 m98.c es = true := by kernel_rfl
theorem s99 : cutS 11 m99.c = true := by kernel_rfl
set_option maxRecDepth 100000 in
theorem r99 (es : Nat → Nat) : memB (env0.mem 11 [(26, [m34])]) 60 m99.c es = true := by kernel_rfl
theorem s101 : cutS 11 m101.c = true := by kernel_rfl
set_option maxRecDepth 100000 in
theorem r101 (es : Nat → Nat) : memB (env0.mem 11 []) 60 m101.c es = true := by kernel_rfl
theorem s102 : cutS 11 m102.c = true := by kernel_rfl
set_option maxRecDepth 100000 in
theorem r102 (es : Nat → Nat) : memB (env0.mem 11 []) 60 m102.c es = true := by kernel_rfl
theorem s100 : cutS 11 m100.c = true := by kernel_rfl
set_option maxRecDepth 100000 in
theorem r100 (es : Nat → Nat) : memB (env0.mem 11 [(32, [m97, m98]), (37, [m101, m102])]) 60 m100.c es = true := by kernel_rfl
theorem s104 : cutS 11 m104.c = true := by kernel_rfl
set_option maxRecDepth 100000 in
theorem r104 (es : Nat → Nat) : memB (env0.mem 11 []) 60 m104.c es = true := by kernel_rfl
theorem s105 : cutS 11 m105.c = true := by kernel_rfl
set_option maxRecDepth 100000 in
theorem r105 (es : Nat → Nat) : memB (env0.mem 11 []) 60 m105.c es = true := by kernel_rfl
theorem s103 : cutS 11 m103.c = true := by kernel_rfl
set_option maxRecDepth 100000 in
theorem r103 (es : Nat → Nat) : memB (env0.mem 11 [(32, [m97, m99]), (37, [m104, m105])]) 60 m103.c es = true := by kernel_rfl
theorem s110 : cutS 11 m110.c = true := by kernel_rfl
set_option maxRecDepth 100000 in
theorem r110 (es : Nat → Nat) : memB (env0.mem 11 [(307, [m47])]) 60 m110.c es = true := by kernel_rfl
theorem s111 : cutS 11 m111.c = true := by kernel_rfl
set_option maxRecDepth 100000 in
theorem r111 (es : Nat → Nat) : memB (env0.mem 11 []) 60 m111.c es = true := by kernel_rfl
theorem s109 : cutS 11 m109.c = true := by kernel_rfl
set_option maxRecDepth 100000 in
theorem r109 (es : Nat → Nat) : memB (env0.mem 11 [(103, [m111]), (272, [m110])]) 60 m109.c es = true := by kernel_rfl
theorem s108 : cutS 11 m108.c = true := by kernel_rfl
set_option maxRecDepth 100000 in
theorem r108 (es : Nat → Nat) : memB (env0.mem 11 [(245, [m109])]) 60 m108.c es = true := by kernel_rfl
theorem s107 : cutS 11 m107.c = true := by kernel_rfl
set_option maxRecDepth 100000 in
theorem r107 (es : Nat → Nat) : memB (env0.mem 11 [(22, [m69]), (26, [m88, m91]), (64, [m77]), (198, [m108])]) 60 m107.c es = true := by kernel_rfl
theorem s106 : cutS 11 m106.c = true := by kernel_rfl
set_option maxRecDepth 100000 in
theorem r106 (es : Nat → Nat) : memB (env0.mem 11 [(26, [m88, m91]), (64, [m77]), (140, [m107])]) 60 m106.c es = true := by kernel_rfl
end Go.Proofs.YtldfdadpfjcpcaaGreatDoor
