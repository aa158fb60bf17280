/-
  Memos: their runs.
-/
import Derived.Test.YtldfdadpfjcpcaaGreatDoorTmD0
set_option linter.unusedVariables false
set_option linter.unusedSimpArgs false
namespace Go.Proofs.YtldfdadpfjcpcaaGreatDoor
open Go Ev
theorem s116 : cutS 11 m116.c = true := by kernel_rfl
set_option maxRecDepth 100000 in
theorem r116 (es : Nat → Nat) : memB (env0.mem 11 [(307, [m47])]) 60 m116.c es = true := by kernel_rfl
theorem s117 : cutS 11 m117.c = true := by kernel_rfl
set_option maxRecDepth 100000 in
theorem r117 (es : Nat → Nat) : memB (env0.mem 11 []) 60 m117.c es = true := by kernel_rfl
theorem s115 : cutS 11 m115.c = true := by kernel_rfl
set_option maxRecDepth 100000 in
theorem r115 (es : Nat → Nat) : memB (env0.mem 11 [(103, [m117]), (272, [m116])]) 60 m115.c es = true := by kernel_rfl
theorem s114 : cutS 11 m114.c = true := by kernel_rfl
set_option maxRecDepth 100000 in
theorem r114 (es : Nat → Nat) : memB (env0.mem 11 [(245, [m115])]) 60 m114.c es = true := by kernel_rfl
theorem s113 : cutS 11 m113.c = true := by kernel_rfl
set_option maxRecDepth 100000 in
theorem r113 (es : Nat → Nat) : memB (env0.mem 11 [(22, [m79]), (26, [m88, m91]), (64, [m86]), (198, [m114])]) 60 m113.c es = true := by kernel_rfl
theorem s112 : cutS 11 m112.c = true := by kernel_rfl
set_option maxRecDepth 100000 in
theorem r112 (es : Nat → Nat) : memB (env0.mem 11 [(26, [m88, m91]), (64, [m86]), (140, [m113])]) 60 m112.c es = true := by kernel_rfl
theorem s119 : cutS 11 m119.c = true := by kernel_rfl
set_option maxRecDepth 100000 in
theorem r119 (es : Nat → Nat) : memB (env0.mem 11 []) 60 m119.c es = true := by kernel_rfl
theorem s120 : cutS 11 m120.c = true := by kernel_rfl
set_option maxRecDepth 100000 in
theorem r120 (es : Nat → Nat) : memB (env0.mem 11 [(80, [m119])]) 60 m120.c es = true := by kernel_rfl
theorem s122 : cutS 11 m122.c = true := by kernel_rfl
set_option maxRecDepth 100000 in
theorem r122 (es : Nat → Nat) : memB (env0.mem 11 []) 60 m122.c es = true := by kernel_rfl
theorem s121 : cutS 11 m121.c = true := by kernel_rfl
set_option maxRecDepth 100000 in
theorem r121 (es : Nat → Nat) : memB (env0.mem 11 [(80, [m122])]) 60 m121.c es = true := by kernel_rfl
theorem s118 : cutS 11 m118.c = true := by kernel_rfl
set_option maxRecDepth 100000 in
theorem r118 (es : Nat → Nat) : memB (env0.mem 11 [(80, [m119]), (156, [m120, m121])]) 60 m118.c es = true := by kernel_rfl
theorem s96 : cutS 11 m96.c = true := by kernel_rfl
set_option maxRecDepth 100000 in
theorem r96 (es : Nat → Nat) : memB (env0.mem 11 [(13, [m100, m103]), (22, [m79]), (32, [m97, m98, m99]), (78, [m106, m112]), (87, [m118])]) 60 m96.c es = true := by kernel_rfl
theorem s125 : cutS 11 m125.c = true := by kernel_rfl
set_option maxRecDepth 100000 in
theorem r125 (es : Nat → Nat) : memB (env0.mem 11 []) 60 m125.c es = true := by kernel_rfl
theorem s126 : cutS 11 m126.c = true := by kernel_rfl
set_option maxRecDepth 100000 in
theorem r126 (es : Nat → Nat) : memB (env0.mem 11 [(78, [m106])]) 60 m126.c es = true := by kernel_rfl
theorem s124 : cutS 11 m124.c = true := by kernel_rfl
set_option maxRecDepth 100000 in
theorem r124 (es : Nat → Nat) : memB (env0.mem 11 [(32, [m56, m97]), (37, [m125, m126])]) 60 m124.c es = true := by kernel_rfl
theorem s128 : cutS 11 m128.c = true := by kernel_rfl
set_option maxRecDepth 100000 in
theorem r128 (es : Nat → Nat) : memB (env0.mem 11 []) 60 m128.c es = true := by kernel_rfl
theorem s129 : cutS 11 m129.c = true := by kernel_rfl
set_option maxRecDepth 100000 in
theorem r129 (es : Nat → Nat) : memB (env0.mem 11 [(78, [m106])]) 60 m129.c es = true := by kernel_rfl
theorem s127 : cutS 11 m127.c = true := by kernel_rfl
set_option maxRecDepth 100000 in
theorem r127 (es : Nat → Nat) : memB (env0.mem 11 [(32, [m56, m98]), (37, [m128, m129])]) 60 m127.c es = true := by kernel_rfl
theorem s131 : cutS 11 m131.c = true := by kernel_rfl
set_option maxRecDepth 100000 in
theorem r131 (es : Nat → Nat) : memB (env0.mem 11 []) 60 m131.c es = true := by kernel_rfl
theorem s132 : cutS 11 m132.c = true := by kernel_rfl
set_option maxRecDepth 100000 in
theorem r132 (es : Nat → Nat) : memB (env0.mem 11 [(80, [m119])]) 60 m132.c es = true := by kernel_rfl
theorem s130 : cutS 11 m130.c = true := by kernel_rfl
set_option maxRecDepth 100000 in
theorem r130 (es : Nat → Nat) : memB (env0.mem 11 [(80, [m131]), (156, [m132])]) 60 m130.c es = true := by kernel_rfl
end Go.Proofs.YtldfdadpfjcpcaaGreatDoor
