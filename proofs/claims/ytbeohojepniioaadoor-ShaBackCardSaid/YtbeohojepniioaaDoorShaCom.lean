/-
  Whole arrays as slices; calls that write nothing.
-/
import Derived.Test.YtbeohojepniioaaDoorShaAwake
set_option linter.unusedVariables false
set_option linter.unusedSimpArgs false
namespace Go.Proofs.YtbeohojepniioaaDoor
open Go Ev

theorem slA_all {h : AH} {b e n z : Nat} {cs : List V} (hc : Cells h b e cs) (hl : cs.length = n * z) (hn : 0 < n) : slA n z (.ptr ⟨b, n * z, 0⟩) none none none h = some (.slice ⟨b, n * z, 0⟩ n n true z) := by
  obtain ⟨k, k1, k2, k3, k4, k5, k6, k7, k8⟩ := hc
  simp only [slA, k1]
  rw [if_pos ⟨by omega, by omega, trivial⟩]
  simp only [cutV, bnd, if_true]
  rw [if_neg (by omega)]
  simp
theorem arr_bs {h : AH} {b e n : Nat} {l : List Nat} (hc : Cells h b e (byteL l)) (hl : l.length = n) (hb : ∀ x ∈ l, x < 256) : Bs h (.slice ⟨b, n * 1, 0⟩ n n true 1) l := by
  subst hl
  refine ⟨⟨by rw [byteL_len, Nat.mul_one], .inr ⟨_, _, _, rfl, Nat.le_refl _, ?_⟩⟩, hb⟩
  rw [hc.read (by rw [byteL_len, Nat.mul_one]) (by rw [byteL_len]; omega), List.drop_zero, List.take_of_length_le (by rw [byteL_len]; omega)]
/-- A call that leaves all old blocks, told as a quiet one. -/
theorem quiet_of {g : AH → Res} {h : AH} {v : V} (hg : ∃ h', g ⟨h.next, h.next, h.m⟩ = some (v, h') ∧ Old h.next ⟨h.next, h.next, h.m⟩ h') : ∃ h', quiet g h = some (v, h') ∧ Old h.next h h' := by
  obtain ⟨h', e, o⟩ := hg
  refine ⟨⟨h'.next, h.low, h'.m⟩, ?_, o.next, o.get, Nat.min_le_left _ _, o.wf⟩
  unfold quiet
  rw [e]
  simp only
  rw [if_pos (by have := o.low; simp only at this; omega)]
theorem wf_low {h : AH} (hw : h.WF) (l : Nat) : (⟨h.next, l, h.m⟩ : AH).WF := hw
end Go.Proofs.YtbeohojepniioaaDoor
