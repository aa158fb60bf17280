/-
  The machine's run, to a depth of calls; contracts in the place of functions; a run is sound. No program in sight. No condition.
-/
import Derived.Test.YtbeohojepniioaaDoorEwF
set_option linter.unusedVariables false
set_option linter.unusedSimpArgs false
namespace Go.Proofs.YtbeohojepniioaaDoor.Ev
open Go

/-! ## The slots in a trie: for runs by the kernel -/
noncomputable def orUndef (o : Option V) : V := Option.rec .bad (fun v => v) o
theorem orUndef_some (v : V) : orUndef (some v) = v := rfl
theorem orUndef_eq (o : Option V) : orUndef o = o.getD .bad := by cases o <;> rfl
noncomputable def iniT (l : List V) : Nat → T V → T V := List.rec (fun _ t => t) (fun v _ ih i t => ih (Nat.succ i) (t.set i v)) l
theorem iniT_cons (v : V) (l : List V) (k : Nat) (t : T V) : iniT (v :: l) k t = iniT l (k + 1) (t.set k v) := rfl
theorem get_iniT : ∀ (l : List V) (k : Nat) (t : T V) (i : Nat), (iniT l k t).get i = if k ≤ i ∧ i < k + l.length then l[i - k]? else t.get i := by
  intro l
  induction l with
  | nil => intro k t i; rw [if_neg (by simp only [List.length_nil]; omega)]; rfl
  | cons v l ih =>
    intro k t i
    rw [iniT_cons, ih, T.get_set]
    by_cases h1 : k + 1 ≤ i ∧ i < k + 1 + l.length
    · rw [if_pos h1, if_pos (by simp only [List.length_cons]; omega), show i - k = (i - (k + 1)) + 1 from by omega, List.getElem?_cons_succ]
    · rw [if_neg h1]
      by_cases h2 : i = k
      · subst h2; rw [if_pos rfl, if_pos (by simp only [List.length_cons]; omega)]; simp
      · rw [if_neg h2, if_neg (by simp only [List.length_cons]; omega)]
/-- A value, looked at before it is handed on. -/
noncomputable def seen (v : V) (K : V → Option (V × AH)) : Option (V × AH) := V.casesOn (motive_1 := fun _ => Option (V × AH)) v (K .bad) (fun b => K (.bool b)) (fun k n => K (.int k n)) (fun s => K (.str s)) (fun a => K (.ptr a)) (K .nilptr) (fun a n c e z => K (.slice a n c e z)) (K .nilslice) (K .loose) (fun f x y => K (.func f x y)) (K .nilFunc)
  (fun t v => K (.iface t v)) (K .nilIface) (fun c => K (.agg c)) (fun c => K (.tuple c))
theorem seen_eq (v : V) (K : V → Option (V × AH)) : seen v K = K v := by cases v <;> rfl
noncomputable def keepT (f : T V) (K : T V → Option (V × AH)) (l : List Nat) : T V → Option (V × AH) := List.rec (fun t => K t) (fun i _ ih t => seen (orUndef (f.get i)) fun v => ih (t.set i v)) l
theorem keepT_spec (f : T V) (K : T V → Option (V × AH)) : ∀ (l : List Nat) (t : T V), (∀ i, orUndef (t.get i) = orUndef (f.get i) ∨ orUndef (t.get i) = .bad) → ∃ t', keepT f K l t = K t' ∧ ∀ i, orUndef (t'.get i) = orUndef (f.get i) ∨ orUndef (t'.get i) = .bad := by
  intro l
  induction l with
  | nil => intro t h; exact ⟨t, rfl, h⟩
  | cons i l ih =>
    intro t h
    have e : keepT f K (i :: l) t = seen (orUndef (f.get i)) fun v => keepT f K l (t.set i v) := rfl
    rw [e, seen_eq]
    refine ih _ fun j => ?_
    rw [T.get_set]
    by_cases hj : j = i
    · subst hj; rw [if_pos rfl]; exact .inl rfl
    · rw [if_neg hj]; exact h j
/-- Slots in a trie; at the loops that are named the slots that are named are kept, the others forgotten. -/
noncomputable def foKeep (lv : Nat → Option (List Nat)) : FO where
  F := T V
  get := fun f i => orUndef (f.get i)
  set := fun f i v => f.set i v
  ini := fun l => iniT l 0 .leaf
  keepK := fun key f K => Option.rec (K f) (fun l => keepT f K l .leaf) (lv key)
  keepK_spec := fun key f K => by
    cases lv key with
    | none => exact .inr ⟨f, rfl, fun _ => .inl rfl⟩
    | some l => exact .inr (keepT_spec f K l .leaf fun i => .inr (by rw [T.get_leaf]; rfl))
  get_set := fun f i j v => by
    rw [T.get_set]
    by_cases h : j = i
    · rw [if_pos h, if_pos h]; rfl
    · rw [if_neg h, if_neg h]
  get_ini := fun l i => by
    rw [get_iniT, List.getD_eq_getElem?_getD, orUndef_eq]
    by_cases hi : i < l.length
    · rw [if_pos (by omega), Nat.sub_zero]
    · rw [if_neg (by omega), T.get_leaf, List.getElem?_eq_none (by omega)]
noncomputable def foTrie : FO := foKeep fun _ => none

/-- What a run is over: the program, the listed variables, the functions without a body, contracts, the way to keep slots, how many rounds a loop may go. -/
structure Env where
  P : Program
  G : Nat → Option Nat
  X : FuncId → List V → AH → Option (V × AH)
  I : FuncId → Option (List V → AH → Option (V × AH))
  fo : FuncId → FO
  fuel : Nat
  hint : Op → Option (Int × (Int → Bool)) := fun _ => none
noncomputable def runC (E : Env) : Nat → FuncId → List V → AH → Option (V × AH)
  | 0, _, _, _ => none
  | n + 1, f, args, h =>
    match E.I f with
    | some g => g args h
    | none => execFn ⟨E.P, E.G, runC E n, E.X, E.hint⟩ (E.fo f) E.fuel f args h
noncomputable def Env.cfg (E : Env) (n : Nat) : Cfg := ⟨E.P, E.G, runC E n, E.X, E.hint⟩

/-! ## What code keeps, seen from the own machine alone -/
theorem runOps_astep {c : Cfg} (hA : CAbs c) {fo : FO} {N : Nat} {ops : Array Oper} {qs : Nat → Bool} {r : V × AH} {k : fo.F → AH → Res} (hk : ∀ fr h, k fr h = some r → AStep h r.2) : ∀ (l : List Nat) (fr : fo.F) (h : AH), runOps c fo N ops qs l fr h k = some r → AStep h r.2 := by
  intro l
  induction l with
  | nil => intro fr h he; exact hk fr h he
  | cons i is ih =>
    intro fr h he
    unfold runOps at he
    split at he
    · exact ih fr h he
    · split at he
      · cases he
      · exact ih _ h he
      · split at he
        · cases he
        · rename_i v h' hs
          exact (stepV_astep hA hs).1.trans (ih _ h' (look_some he))
theorem keep_astep {fo : FO} {r : V × AH} {k : fo.F → AH → Res} (hk : ∀ fr h, k fr h = some r → AStep h r.2) (key : Nat) : ∀ fr h, (fo.keepK key fr fun fr => k fr h) = some r → AStep h r.2 := by
  intro fr h he
  rcases fo.keepK_spec key fr (fun fr => k fr h) with e | ⟨f', e, _⟩
  · rw [e] at he; cases he
  · rw [e] at he; exact hk f' h he
theorem exec_astep {c : Cfg} (hA : CAbs c) {fo : FO} {N fuel : Nat} {r : V × AH} : ∀ (code : Code) (fr : fo.F) (h : AH) (k : Kont fo), (∀ fr h, k.norm fr h = some r → AStep h r.2) → (∀ id fr h, k.exit id fr h = some r → AStep h r.2) → (∀ fr h, k.ret fr h = some r → AStep h r.2) →
    exec c fo N fuel code fr h k = some r → AStep h r.2 := by
  intro code
  induction code with
  | skip => intro fr h k h1 h2 h3 he; exact h1 fr h he
  | label l => intro fr h k h1 h2 h3 he; exact h1 fr h he
  | exit id => intro fr h k h1 h2 h3 he; exact h2 id fr h he
  | ret => intro fr h k h1 h2 h3 he; exact h3 fr h he
  | region id ops draw =>
    intro fr h k h1 h2 h3 he
    unfold exec at he
    (repeat' split at he) <;> first | (cases he; done) | exact runOps_astep hA (keep_astep h1 _) _ fr h he
  | seq x y ihx ihy =>
    intro fr h k h1 h2 h3 he
    unfold exec at he
    refine ihx fr h { k with norm := if isRegion x then fun fr h => exec c fo N fuel y fr h k else fun fr h => fo.keepK (preKey y) fr fun fr => exec c fo N fuel y fr h k } ?_ h2 h3 he
    split
    · exact fun fr1 h1' he1 => ihy fr1 h1' k h1 h2 h3 he1
    · exact keep_astep (k := fun fr h => exec c fo N fuel y fr h k) (fun fr1 h1' he1 => ihy fr1 h1' k h1 h2 h3 he1) _
  | cond x p q ihp ihq =>
    intro fr h k h1 h2 h3 he
    unfold exec at he
    split at he
    · exact ihp fr h k h1 h2 h3 he
    · exact ihq fr h k h1 h2 h3 he
    · cases he
  | block id b ih =>
    intro fr h k h1 h2 h3 he
    unfold exec at he
    refine ih fr h { k with exit := fun id' fr h => if id' = id then k.norm fr h else k.exit id' fr h } h1 ?_ h3 he
    intro id' fr1 h1' he1
    simp only at he1
    split at he1
    · exact h1 fr1 h1' he1
    · exact h2 id' fr1 h1' he1
  | loop b ih =>
    intro fr h k h1 h2 h3 he
    unfold exec at he
    have key : ∀ (m : Nat) (fr : fo.F) (h : AH), loopN fo.F m (fun fr h n => fo.keepK (preKey b) fr fun fr => exec c fo N fuel b fr h { k with norm := n }) fr h = some r → AStep h r.2 := by
      intro m
      induction m with
      | zero => intro fr h he; cases he
      | succ m ihm =>
        intro fr h he
        exact keep_astep (k := fun fr h => exec c fo N fuel b fr h { k with norm := loopN fo.F m (fun fr h n => fo.keepK (preKey b) fr fun fr => exec c fo N fuel b fr h { k with norm := n }) })
          (fun fr1 h1' he1 => ih fr1 h1' { k with norm := loopN fo.F m (fun fr h n => fo.keepK (preKey b) fr fun fr => exec c fo N fuel b fr h { k with norm := n }) } ihm h2 h3 he1) _ fr h he
    exact key fuel fr h he
  | rangeFunc f ps x y _ _ => intro fr h k _ _ _ he; cases he
  | scope b _ => intro fr h k _ _ _ he; cases he
  | goto l => intro fr h k _ _ _ he; cases he
  | refuse s => intro fr h k _ _ _ he; cases he
theorem execFn_astep {c : Cfg} (hA : CAbs c) {fo : FO} {fuel : Nat} {f : FuncId} {args : List V} {h h' : AH} {v : V} (hs : execFn c fo fuel f args h = some (v, h')) : AStep h h' := by
  unfold execFn at hs
  split at hs
  case h_1 => cases hs
  split at hs
  case h_1 => cases hs
  split at hs
  case isFalse => cases hs
  have hfin : ∀ fn fr h1, fin c fo fn fr h1 = some (v, h') → AStep h1 h' := by
    intro fn fr h1 he
    unfold fin at he
    obtain ⟨vs, _, h2⟩ := map_some he
    cases h2
    exact AStep.refl _
  exact exec_astep hA (r := (v, h')) _ _ _ _ (hfin _) (fun id fr h he => by cases he) (hfin _) hs

/-! ## A run is sound -/
structure Env.OK (E : Env) : Prop where
  mixed : E.P.follows .mixedOrders = true
  xsound : XRun ⟨E.P, E.G, fun _ _ _ => none, E.X, fun _ => none⟩
  xabs : ∀ f args h v h', E.X f args h = some (v, h') → AStep h h'
  isound : ∀ f g, E.I f = some g → ∀ (ρ : Rho) (h : AH) (w : World) (args : List V) (args' : List Value) (v : V) (h' : AH), GOK ⟨E.P, E.G, fun _ _ _ => none, E.X, fun _ => none⟩ ρ → HR ρ h w → RL ρ args args' → g args h = some (v, h') →
    Calls E.P f args'.toArray w fun e w' => ∃ u ρ', e = .returned u ∧ R ρ' v u ∧ HR ρ' h' w' ∧ Step ρ h w ρ' h' w'
  iabs : ∀ f g, E.I f = some g → ∀ args h v h', g args h = some (v, h') → AStep h h'
  hints : ∀ o m, E.hint o = some m → ∀ x, m.2 x = true → x = m.1
theorem runC_ok {E : Env} (ok : E.OK) : ∀ n, CSound (E.cfg n) ∧ CAbs (E.cfg n) := by
  intro n
  induction n with
  | zero => exact ⟨fun ρ h w f args args' v h' _ _ _ hs => (by cases hs), ⟨fun f args h v h' hs => (by cases hs), ok.xabs, ok.hints⟩⟩
  | succ n ih =>
    constructor
    · intro ρ h w f args args' v h' hg hr hR hs
      have hs' : (match E.I f with | some g => g args h | none => execFn (E.cfg n) (E.fo f) E.fuel f args h) = some (v, h') := hs
      cases hI : E.I f with
      | some g => rw [hI] at hs'; exact ok.isound f g hI ρ h w args args' v h' hg hr hR hs'
      | none => rw [hI] at hs'; exact execFn_sound (c := E.cfg n) ih.1 ⟨ok.xsound, ok.hints⟩ ih.2 ok.mixed hg hr hR hs'
    · refine ⟨fun f args h v h' hs => ?_, ok.xabs, ok.hints⟩
      have hs' : (match E.I f with | some g => g args h | none => execFn (E.cfg n) (E.fo f) E.fuel f args h) = some (v, h') := hs
      cases hI : E.I f with
      | some g => rw [hI] at hs'; exact ok.iabs f g hI args h v h' hs'
      | none => rw [hI] at hs'; exact execFn_astep ih.2 hs'
theorem runC_sound {E : Env} (ok : E.OK) {n : Nat} {ρ : Rho} {h h' : AH} {w : World} {f : FuncId} {args : List V} {args' : List Value} {v : V} (hg : GOK (E.cfg n) ρ) (hr : HR ρ h w) (hR : RL ρ args args') (hs : runC E n f args h = some (v, h')) :
    Calls E.P f args'.toArray w fun e w' => ∃ u ρ', e = .returned u ∧ R ρ' v u ∧ HR ρ' h' w' ∧ Step ρ h w ρ' h' w' := (runC_ok ok n).1 ρ h w f args args' v h' hg hr hR hs
end Go.Proofs.YtbeohojepniioaaDoor.Ev
