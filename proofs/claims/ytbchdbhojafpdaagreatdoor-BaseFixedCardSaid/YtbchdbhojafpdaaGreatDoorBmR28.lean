/-
  Memos: their runs.
-/
import Derived.Test.YtbchdbhojafpdaaGreatDoorBmD0
set_option linter.unusedVariables false
set_option linter.unusedSimpArgs false
namespace Go.Proofs.YtbchdbhojafpdaaGreatDoor
open Go Ev
theorem s445 : cutS 13 m445.c = true := by kernel_rfl
set_option maxRecDepth 100000 in
theorem r445 (es : Nat → Nat) : memB (env0.mem 13 [(175, [m446, m447, m448, m449, m450, m451, m452, m453, m454, m455, m456, m457, m458, m459, m460, m461, m462, m463, m464, m465, m466, m467, m468, m469, m470, m471, m472, m473, m474, m475, m476, m477, m478, m479, m480, m481, m482, m483, m484, m485, m486, m487, m488, m489, m490, m491, m492, m493, m494, m495])]) 60 m445.c es = true := by kernel_rfl
end Go.Proofs.YtbchdbhojafpdaaGreatDoor
