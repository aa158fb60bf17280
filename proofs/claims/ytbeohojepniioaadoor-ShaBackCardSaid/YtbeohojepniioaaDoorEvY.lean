/-
  copy, conversions whole, type assertions, len and its like; then every operation that calls no Go function. No program in sight. No condition.
-/
import Derived.Test.YtbeohojepniioaaDoorEvX
set_option linter.unusedVariables false
set_option linter.unusedSimpArgs false
namespace Go.Proofs.YtbeohojepniioaaDoor.Ev
open Go

/-! ## copy -/
noncomputable def absCopy (P : Program) (t : TypeId) (d x : V) (h : AH) : Option (V × AH) :=
  match P.underlying t with
  | some (.slice e) =>
    if (P.info? e).isSome then
      match srcLen x, srcLen d with
      | some m, some dn =>
        if Nat.min m dn = 0 then (match d with | .str _ => none | _ => some (.int .i64 0, h)) else
        match srcCells x (P.cellsOf e) (Nat.min m dn) h, d with
        | some cs, .slice a _ _ _ _ => (writeN h a cs).map fun h' => (.int .i64 (Nat.min m dn), h')
        | _, _ => none
      | _, _ => none
    else none
  | _ => none
theorem load0 (P : Program) (w : World) (c : Addr) : (loadCells c 0).run P w = .ok #[] w := rfl
theorem copy_sound {P : Program} {ρ : Rho} {h h' : AH} {w : World} {t xt ty : TypeId} {d x v : V} {a b : Value} (hr : HR ρ h w) (hd : R ρ d a) (hx : R ρ x b) (hs : absCopy P t d x h = some (v, h')) : Sim P ρ h w (Builtin.copy_ #[t, xt] ty #[a, b]) v h' := by
  unfold absCopy at hs
  split at hs
  case h_2 => cases hs
  rename_i e hu
  split at hs
  case isFalse => cases hs
  rename_i hi
  obtain ⟨i, hi⟩ := Option.isSome_iff_exists.1 hi
  have hsize : P.cellsOf e = i.size := by simp [Program.cellsOf, hi]
  have hsz : ∀ w0 : World, (sizeOf e).run P w0 = .ok i.size w0 := fun w0 => by simp [sizeOf, typeInfo, hi]
  split at hs
  case h_2 => cases hs
  rename_i m dn hm hdn
  have hlen := srcLen_sound (P := P) hx hm w
  split at hs
  · rename_i h0
    have key : ∀ (base : Option Addr) (cc : Nat), a = .slice base dn cc → v = .int .i64 0 → h' = h → Sim P ρ h w (Builtin.copy_ #[t, xt] ty #[a, b]) v h' := by
      rintro base cc rfl rfl rfl
      have hcells : (Builtin.firstCells i.size 0 b).run P w = .ok #[] w := by
        unfold srcLen at hm
        split at hm
        · rw [show b = _ from hx]; rfl
        · obtain ⟨c, cc, rfl⟩ := hx
          simp [Builtin.firstCells, load0]
        · obtain ⟨cb, sh, S, cc, rfl, _⟩ := hx
          simp [Builtin.firstCells, load0]
        · obtain ⟨t', rfl, _⟩ := hx
          simp only [Builtin.firstCells, Sem.run_pure]
          congr 1
          apply Array.ext'
          simp [ByteArray.data_extract]
        · cases hm
      refine Sim.pure hr ⟨.int .i64 0, ?_, rfl⟩
      unfold Builtin.copy_
      simp only [List.getElem?_toArray, List.getElem?_cons_zero, List.getElem?_cons_succ, Sem.run_bind, run_underlying hu, Result.andThen_ok, hsz, hlen, h0, hcells]
      cases base <;> rfl
    unfold srcLen at hdn
    split at hdn
    · cases hdn; cases hs; exact key none 0 (show a = _ from hd) rfl rfl
    · cases hdn; cases hs; obtain ⟨c, cc, rfl⟩ := hd; exact key (some c) cc rfl rfl rfl
    · cases hdn; cases hs; obtain ⟨cb, sh, S, cc, rfl, _⟩ := hd; exact key _ cc rfl rfl rfl
    · cases hs
    · cases hdn
  · rename_i h0
    split at hs
    case h_2 => cases hs
    rename_i cs p dn' _ _ _ hcs
    cases hdn
    obtain ⟨us, hRn, hus⟩ := srcCells_sound (P := P) hr hx hm (Nat.min_le_left _ _) hcs
    rw [hsize] at hus
    obtain ⟨cb, sh, S, cc, rfl, h1, h2, h3, h4, h5, h6⟩ := hd
    cases hwr : writeN h p cs with
    | none => rw [hwr] at hs; cases hs
    | some h1' =>
      rw [hwr] at hs
      cases hs
      obtain ⟨w', g1, g2, g3⟩ := write_sound P hr ⟨cb, sh, S, h1, h2, rfl⟩ hRn hwr
      refine ⟨_, w', ρ, ?_, rfl, g2, g3⟩
      unfold Builtin.copy_
      simp only [List.getElem?_toArray, List.getElem?_cons_zero, List.getElem?_cons_succ, Sem.run_bind, run_underlying hu, Result.andThen_ok, hsz, hlen, hus w rfl, g1, Sem.run_pure]
      rfl

/-! ## Conversions -/
theorem freeze_sound {ρ : Rho} {h : AH} {w : World} (hr : HR ρ h w) {b L cb S : Nat} {sh : Int} {k : Blk} (hk : h.get b = some k) (hρ : ρ b L = some (cb, sh, S)) (hm : k.minL ≤ L) (hf : k.fz = 0) (hro : k.ro = false) :
    HR ρ h (w.freeze ⟨cb, S, none⟩ 1) ∧ Step ρ h w ρ h (w.freeze ⟨cb, S, none⟩ 1) ∧ w.shape? cb = some (k.e, S) := by
  obtain ⟨cs, lo, hi, g1, g2, g3, g4, g5⟩ := hr.blk _ _ _ _ _ _ hk hρ hm
  have hheap : ∀ x, (w.freeze ⟨cb, S, none⟩ 1).heap[x]? = if x = cb then some (.cells cs k.e (if lo == hi then (S, S + 1) else (min lo S, max hi (S + 1)))) else w.heap[x]? := by
    intro x
    simp only [World.freeze, Nat.one_ne_zero, if_false, Array.getElem?_modify]
    by_cases hx : x = cb
    · subst hx; rw [if_pos rfl, if_pos rfl, g1]; rfl
    · rw [if_neg (fun e => hx e.symm), if_neg hx]
  have hsz : (w.freeze ⟨cb, S, none⟩ 1).heap.size = w.heap.size := by simp [World.freeze]
  refine ⟨⟨hr.fresh, hr.lives, fun b L c x hx => by rw [hsz]; exact hr.bound b L c x hx, hr.inj, hr.top, ?_⟩, ⟨Rho.le_refl ρ, fun b L c x hx _ => ⟨L, x, hx⟩, fun b k' hk' _ => ⟨k', hk', rfl⟩, Nat.le_refl _, ?_, ?_, ?_, Nat.le_of_eq hsz.symm, ?_, Nat.le_refl _, fun _ _ _ => rfl⟩, ?_⟩
  · intro b' k' L' cb' sh' S' hk' hρ' hm'
    by_cases hcb : cb' = cb
    · subst hcb
      obtain ⟨rfl, hx⟩ := hr.inj _ _ _ _ _ _ _ _ hρ hρ' hk hro
      cases hx
      rw [hk] at hk'
      cases hk'
      obtain ⟨cs', lo', hi', q1, q2, q3, q4, q5⟩ := hr.blk _ _ _ _ _ _ hk hρ' hm'
      rw [g1] at q1
      cases q1
      have h0 := hheap cb'
      rw [if_pos rfl] at h0
      by_cases hlh : lo = hi
      · subst hlh
        simp only [beq_self_eq_true, if_true] at h0
        exact ⟨cs, S, S + 1, h0, q2, q3, q4, fun _ => ⟨fun i _ hi => by omega, Nat.le_succ _, (g5 hro).2.2⟩⟩
      · rw [if_neg (by simpa using hlh)] at h0
        have hsh0 := (g5 hro).2.2
        refine ⟨cs, _, _, h0, q2, q3, q4, fun _ => ⟨fun i hfz hi' => ?_, by omega, hsh0⟩⟩
        by_cases hlt : lo < hi
        · have : S ≤ lo := by
            rcases Nat.lt_or_ge lo S with hl | hl
            · exact absurd ⟨Nat.le_refl lo, hlt⟩ ((g5 hro).1 lo (by omega) hl)
            · exact hl
          omega
        · have := (g5 hro).2.1; omega
    · refine (hr.blk _ _ _ _ _ _ hk' hρ' hm').mono (Rho.le_refl ρ) ?_
      rw [hheap, if_neg hcb]
  · unfold World.freeze; rfl
  · unfold World.freeze; rfl
  · unfold World.freeze; rfl
  · intro i hi' hn
    rw [hheap, if_neg]
    rintro rfl
    exact hn ⟨b, L, _, k, hρ, hk, hro⟩
  · simp [World.shape?, g1, g2]
end Go.Proofs.YtbeohojepniioaaDoor.Ev
