/-
  Memos: their runs.
-/
import Derived.Test.YtbchdbhojafpdaaGreatDoorBmD0
set_option linter.unusedVariables false
set_option linter.unusedSimpArgs false
namespace Go.Proofs.YtbchdbhojafpdaaGreatDoor
open Go Ev
theorem s204 : cutS 13 m204.c = true := by kernel_rfl
set_option maxRecDepth 100000 in
theorem r204 (es : Nat → Nat) : memB (env0.mem 13 [(148, [m205])]) 60 m204.c es = true := by kernel_rfl
theorem s316 : cutS 13 m316.c = true := by kernel_rfl
set_option maxRecDepth 100000 in
theorem r316 (es : Nat → Nat) : memB (env0.mem 13 []) 60 m316.c es = true := by kernel_rfl
theorem s203 : cutS 13 m203.c = true := by kernel_rfl
set_option maxRecDepth 100000 in
theorem r203 (es : Nat → Nat) : memB (env0.mem 13 [(96, [m204]), (97, [m316])]) 60 m203.c es = true := by kernel_rfl
theorem s199 : cutS 13 m199.c = true := by kernel_rfl
set_option maxRecDepth 100000 in
theorem r199 (es : Nat → Nat) : memB (env0.mem 13 [(22, [m200]), (53, [m203])]) 60 m199.c es = true := by kernel_rfl
theorem s317 : cutS 13 m317.c = true := by kernel_rfl
set_option maxRecDepth 100000 in
theorem r317 (es : Nat → Nat) : memB (env0.mem 13 []) 60 m317.c es = true := by kernel_rfl
theorem s195 : cutS 13 m195.c = true := by kernel_rfl
set_option maxRecDepth 100000 in
theorem r195 (es : Nat → Nat) : memB (env0.mem 13 [(20, [m196]), (21, [m199]), (22, [m200]), (39, [m317])]) 60 m195.c es = true := by kernel_rfl
theorem s320 : cutS 13 m320.c = true := by kernel_rfl
set_option maxRecDepth 100000 in
theorem r320 (es : Nat → Nat) : memB (env0.mem 13 []) 60 m320.c es = true := by kernel_rfl
theorem s321 : cutS 13 m321.c = true := by kernel_rfl
set_option maxRecDepth 100000 in
theorem r321 (es : Nat → Nat) : memB (env0.mem 13 []) 60 m321.c es = true := by kernel_rfl
theorem s319 : cutS 13 m319.c = true := by kernel_rfl
set_option maxRecDepth 100000 in
theorem r319 (es : Nat → Nat) : memB (env0.mem 13 [(60, [m60, m320, m321])]) 60 m319.c es = true := by kernel_rfl
theorem s318 : cutS 13 m318.c = true := by kernel_rfl
set_option maxRecDepth 100000 in
theorem r318 (es : Nat → Nat) : memB (env0.mem 13 [(26, [m59, m191, m319])]) 60 m318.c es = true := by kernel_rfl
theorem s326 : cutS 13 m326.c = true := by kernel_rfl
set_option maxRecDepth 100000 in
theorem r326 (es : Nat → Nat) : memB (env0.mem 13 []) 60 m326.c es = true := by kernel_rfl
theorem s325 : cutS 13 m325.c = true := by kernel_rfl
set_option maxRecDepth 100000 in
theorem r325 (es : Nat → Nat) : memB (env0.mem 13 [(26, [m59, m191, m319]), (89, [m67, m198, m326])]) 60 m325.c es = true := by kernel_rfl
theorem s324 : cutS 13 m324.c = true := by kernel_rfl
set_option maxRecDepth 100000 in
theorem r324 (es : Nat → Nat) : memB (env0.mem 13 [(49, [m325])]) 60 m324.c es = true := by kernel_rfl
theorem s334 : cutS 13 m334.c = true := by kernel_rfl
set_option maxRecDepth 100000 in
theorem r334 (es : Nat → Nat) : memB (env0.mem 13 []) 60 m334.c es = true := by kernel_rfl
theorem s335 : cutS 13 m335.c = true := by kernel_rfl
set_option maxRecDepth 100000 in
theorem r335 (es : Nat → Nat) : memB (env0.mem 13 []) 60 m335.c es = true := by kernel_rfl
theorem s333 : cutS 13 m333.c = true := by kernel_rfl
set_option maxRecDepth 100000 in
theorem r333 (es : Nat → Nat) : memB (env0.mem 13 [(263, [m334, m335])]) 60 m333.c es = true := by kernel_rfl
end Go.Proofs.YtbchdbhojafpdaaGreatDoor
