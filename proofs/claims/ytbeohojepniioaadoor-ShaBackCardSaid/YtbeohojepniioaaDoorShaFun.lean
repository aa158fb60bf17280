/-
  Contracts of the functions of the first layer, out of their runs.
-/
import Derived.Test.YtbeohojepniioaaDoorEwL
import Derived.Test.YtbeohojepniioaaDoorShaBlk
set_option linter.unusedVariables false
namespace Go.Proofs.YtbeohojepniioaaDoor
open Go Ev

theorem ints_of (l : List Int) : ints l.length (fun i => l.getD i 0) = l := by
  apply List.ext_getElem?
  intro i
  unfold ints
  by_cases hi : i < l.length
  · rw [List.getElem?_map, List.getElem?_range hi]; simp [hi]
  · rw [List.getElem?_eq_none (by simpa using hi), List.getElem?_eq_none (by simpa using hi)]
theorem ints_of' {l : List Int} {n : Nat} (h : l.length = n) : ints n (fun i => l.getD i 0) = l := by subst h; exact ints_of l
theorem of_fst {r : Option (V × AH)} {v : V} (h : r.map (·.1) = some v) : ∃ h', r = some (v, h') := by
  cases r with
  | none => cases h
  | some x => obtain ⟨a, b⟩ := x; cases h; exact ⟨b, rfl⟩
/-- What a contract owes (the fields of Env.OK). -/
def Owes (P : Program) (G : Nat → Option Nat) (f : FuncId) (g : List V → AH → Option (V × AH)) : Prop :=
  (∀ (ρ : Rho) (h : AH) (w : World) (args : List V) (args' : List Value) (v : V) (h' : AH), GOK ⟨P, G, fun _ _ _ => none, fun _ _ _ => none, fun _ => none⟩ ρ → HR ρ h w → RL ρ args args' → g args h = some (v, h') →
    Calls P f args'.toArray w fun e w' => ∃ u ρ', e = .returned u ∧ R ρ' v u ∧ HR ρ' h' w' ∧ Step ρ h w ρ' h' w') ∧
  ∀ args h v h', g args h = some (v, h') → AStep h h'
theorem RL_flat1 {v : V} (hv : Flat v) {ρ ρ' : Rho} {l : List Value} (h : RL ρ [v] l) : RL ρ' [v] l := flat_list (by intro x hx; simp only [List.mem_singleton] at hx; subst hx; exact hv) ρ ρ' l h
theorem RL_flat2 {v x : V} (hv : Flat v) (hx : Flat x) {ρ ρ' : Rho} {l : List Value} (h : RL ρ [v, x] l) : RL ρ' [v, x] l := flat_list (by
  intro y hy
  simp only [List.mem_cons, List.not_mem_nil, or_false] at hy
  rcases hy with rfl | rfl
  · exact hv
  · exact hx) ρ ρ' l h

/-! ## sha.Block: the table is read where it lies -/
noncomputable def gBlock (args : List V) (h : AH) : Option (V × AH) :=
  match args with
  | [.agg hs, .agg bs] =>
    match intsOf .u32 hs, intsOf .u8 bs, readN h ⟨0, 64, 0⟩ 64 with
    | some hs, some bs, some ks =>
      match intsOf .u32 ks with
      | some ks => bif Nat.beq hs.length 8 && Nat.beq bs.length 64 then some (.agg ((blockA ks hs bs).map (V.int .u32)), h) else none
      | none => none
    | _, _, _ => none
  | _ => none
theorem gBlock_owes : Owes Tryd.prog gOf 10 gBlock := by
  constructor
  · intro ρ h w args args' v h' hg hr hR hs
    unfold gBlock at hs
    split at hs
    case h_2 => cases hs
    rename_i hs0 bs0
    split at hs
    case h_2 => cases hs
    rename_i hs1 bs1 ks0 e1 e2 e3
    split at hs
    case h_2 => cases hs
    rename_i ks1 e4
    cases hb : Nat.beq hs1.length 8 && Nat.beq bs1.length 64 with
    | false => rw [hb] at hs; cases hs
    | true =>
      rw [hb] at hs
      cases hs
      simp only [Bool.and_eq_true] at hb
      have l1 : hs1.length = 8 := Nat.eq_of_beq_eq_true hb.1
      have l2 : bs1.length = 64 := Nat.eq_of_beq_eq_true hb.2
      obtain rfl := intsOf_spec e1
      obtain rfl := intsOf_spec e2
      obtain rfl := intsOf_spec e4
      obtain ⟨S, hS⟩ := hg 0 64 rfl
      obtain ⟨l3, e, hfit⟩ := fits_of_read hr e3 (a := ⟨0, 64, 0⟩) hS (Int.le_refl _) 0
      refine flat_call hr (flat_ints _ _) ?_
      obtain ⟨h'', hrun⟩ := of_fst (block_run (fun i => hs1.getD i 0) (fun i => bs1.getD i 0) (fun i => ks1.getD i 0) e)
      rw [ints_of' l1, ints_of' l2, ints_of' l3] at hrun
      refine (tab_calls env_ok (n := 20) (f := 10) (l := tabK e ks1) (pl := fun _ => ⟨0, 0, S⟩) (m := 1) (W := w) (args' := args') ?_ ?_ ?_ (RL_flat2 (flat_ints _ _) (flat_ints _ _) hR) hrun).mono ?_
      · intro t ht; simp only [tabK, List.mem_singleton] at ht; subst ht; exact Nat.one_pos
      · intro t ht; simp only [tabK, List.mem_singleton] at ht; subst ht; exact hfit
      · intro g L hgL
        cases g with
        | zero => cases hgL; exact ⟨_, rfl, by simp [l3], rfl, rfl⟩
        | succ g => cases hgL
      · rintro e w' ⟨u, ρ', rfl, q1, _, _, q2⟩
        exact ⟨u, ρ', rfl, q1, q2⟩
  · intro args h v h' hs
    unfold gBlock at hs
    split at hs
    case h_2 => cases hs
    split at hs
    case h_2 => cases hs
    split at hs
    case h_2 => cases hs
    rename_i hs1 bs1 _ _ _ _ _ _ _
    cases hb : Nat.beq hs1.length 8 && Nat.beq bs1.length 64 with
    | false => rw [hb] at hs; cases hs
    | true => rw [hb] at hs; cases hs; exact AStep.refl _

/-! ## ref.compress: the bytes are read where they lie -/
theorem env0_ok : env0.OK := ⟨by kernel_rfl, xOf_sound rfl xs_ok, xOf_astep xs_ok, fun f g h => (by cases h), fun f g h => (by cases h), fun o m h => (by cases h)⟩
noncomputable def gCompress (args : List V) (h : AH) : Option (V × AH) :=
  match args with
  | [.agg hs, .slice a n _ _ z] =>
    match intsOf .u32 hs, readN h a n with
    | some hs, some bs =>
      match intsOf .u8 bs with
      | some bs => bif Nat.beq hs.length 8 && (Nat.beq n 64 && Nat.beq z 1) then some (.agg ((blockB kTab hs bs).map (V.int .u32)), h) else none
      | none => none
    | _, _ => none
  | _ => none
theorem gCompress_owes (G : Nat → Option Nat) : Owes Tryd.prog G 26 gCompress := by
  constructor
  · intro ρ h w args args' v h' hg hr hR hs
    unfold gCompress at hs
    split at hs
    case h_2 => cases hs
    rename_i hs0 a n cap ex z
    split at hs
    case h_2 => cases hs
    rename_i hs1 bs0 e1 e2
    split at hs
    case h_2 => cases hs
    rename_i bs1 e3
    cases hb : Nat.beq hs1.length 8 && (Nat.beq n 64 && Nat.beq z 1) with
    | false => rw [hb] at hs; cases hs
    | true =>
      rw [hb] at hs
      cases hs
      simp only [Bool.and_eq_true] at hb
      have l1 : hs1.length = 8 := Nat.eq_of_beq_eq_true hb.1
      obtain rfl : n = 64 := Nat.eq_of_beq_eq_true hb.2.1
      obtain rfl : z = 1 := Nat.eq_of_beq_eq_true hb.2.2
      obtain rfl := intsOf_spec e1
      obtain rfl := intsOf_spec e3
      obtain ⟨x, y, rfl, hx, hy⟩ := RL2 hR
      obtain ⟨cb, sh, S, cc, rfl, f1, f2, f3, f4, f5, f6⟩ := hy
      obtain ⟨l3, e, hfit⟩ := fits_of_read hr e2 f1 f2 1
      refine flat_call hr (flat_ints _ _) ?_
      obtain ⟨h'', hrun⟩ := of_fst (compress_run (fun i => hs1.getD i 0) (fun i => bs1.getD i 0) e)
      rw [ints_of' l1, ints_of' l3] at hrun
      refine (tab_calls env0_ok (n := 20) (f := 26) (l := tabB e bs1) (pl := fun _ => ⟨cb, ((a.o : Int) - sh).toNat, S⟩) (m := 2) (W := w) (args' := [x, .slice (some ⟨cb, ((a.o : Int) - sh).toNat, none⟩) 64 cc]) ?_ ?_ ?_ ?_ hrun).mono ?_
      · intro t ht; simp only [tabB, List.mem_singleton] at ht; subst ht; exact Nat.lt_succ_self 1
      · intro t ht; simp only [tabB, List.mem_singleton] at ht; subst ht; exact hfit
      · intro g L hgL; cases hgL
      · refine ⟨x, _, rfl, flat_ints _ _ ρ _ x hx, _, [], rfl, ?_, rfl⟩
        refine ⟨cb, -((((a.o : Int) - sh).toNat : Nat) : Int), S, cc, ?_, ?_, ?_, by omega, (by intro h; cases h), Nat.le_refl _, ?_⟩
        · simp
        · have := tabsRho_of (l := tabB e bs1) (pl := fun _ => ⟨cb, ((a.o : Int) - sh).toNat, S⟩) (b := 1) (t := ⟨1, bs1.map (V.int .u8), e⟩) rfl
          simp only [List.length_map, l3] at this
          exact this
        · simp only; omega
        · simp only; omega
      · rintro e w' ⟨u, ρ', rfl, q1, _, _, q2⟩
        exact ⟨u, ρ', rfl, q1, q2⟩
  · intro args h v h' hs
    unfold gCompress at hs
    split at hs
    case h_2 => cases hs
    rename_i n _ _ z
    split at hs
    case h_2 => cases hs
    rename_i hs1 _ _ _
    split at hs
    case h_2 => cases hs
    cases hb : Nat.beq hs1.length 8 && (Nat.beq n 64 && Nat.beq z 1) with
    | false => rw [hb] at hs; cases hs
    | true => rw [hb] at hs; cases hs; exact AStep.refl _
end Go.Proofs.YtbeohojepniioaaDoor
