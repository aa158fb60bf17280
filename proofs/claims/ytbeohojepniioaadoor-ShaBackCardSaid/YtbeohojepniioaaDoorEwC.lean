/-
  Regions: in the text's order; in whatever order the edges allow. No program in sight. No condition.
-/
import Derived.Test.YtbeohojepniioaaDoorEwB
set_option linter.unusedVariables false
set_option linter.unusedSimpArgs false
namespace Go.Proofs.YtbeohojepniioaaDoor.Ev
open Go

section
variable (c : Cfg) (fo : FO) (N : Nat) (ops : Array Oper) (qs : Nat → Bool)
noncomputable def runOps : List Nat → fo.F → AH → (fo.F → AH → Res) → Res
  | [], fr, h, k => k fr h
  | i :: is, fr, h, k =>
    match ops[i]? with
    | none => runOps is fr h k
    | some o =>
      match wantedV fo ops o fr with
      | none => none
      | some false => runOps is (putF fo N fr o.dst undefV) h k
      | some true =>
        match stepV c (qs i) o.op (evO c fo fr) h with
        | none => none
        | some (v, h') => look c.P ops i o v fun v => runOps is (putF fo N fr o.dst v) h' k
end

/-- Where a piece of code may leave: what holds there. -/
def Post (c : Cfg) (fo : FO) (N : Nat) (ρ0 : Rho) (h0 : AH) (w0 : World) (r : V × AH) (k : fo.F → AH → Res) (Q : Act → World → Prop) : Prop :=
  ∀ (fr : fo.F) (h : AH) (a : Act) (w : World) (ρ : Rho), k fr h = some r → FR fo ρ fr a.tmps → a.tmps.size = N → a.defers = [] → GOK c ρ → HR ρ h w → Step ρ0 h0 w0 ρ h w → Q a w
theorem Post.step {c : Cfg} {fo : FO} {N : Nat} {ρ0 ρ1 : Rho} {h0 h1 : AH} {w0 w1 : World} {r : V × AH} {k : fo.F → AH → Res} {Q : Act → World → Prop} (hr : HR ρ0 h0 w0) (hs : Step ρ0 h0 w0 ρ1 h1 w1) (hp : Post c fo N ρ0 h0 w0 r k Q) : Post c fo N ρ1 h1 w1 r k Q :=
  fun fr h a w ρ hk hf hN hd hg hh hst => hp fr h a w ρ hk hf hN hd hg hh (Step.trans hr hs hst)

theorem runOps_wp {c : Cfg} (hC : CSound c) (hX : XSound c) {fo : FO} {N : Nat} {ops : Array Oper} {qs : Nat → Bool} {Q : Exit → Act → World → Prop} {r : V × AH} {k : fo.F → AH → Res} : ∀ (l : List Nat) (ρ : Rho) (fr : fo.F) (h : AH) (a : Act) (w : World),
    runOps c fo N ops qs l fr h k = some r → FR fo ρ fr a.tmps → a.tmps.size = N → a.defers = [] → GOK c ρ → HR ρ h w → Post c fo N ρ h w r k (Q .normal) → wpOps c.P ops Q l a w := by
  intro l
  induction l with
  | nil =>
    intro ρ fr h a w hrun hf hN hd hg hr hp
    exact hp fr h a w ρ hrun hf hN hd hg hr (Step.refl _ _ _)
  | cons i is ih =>
    intro ρ fr h a w hrun hf hN hd hg hr hp
    unfold runOps at hrun
    unfold wpOps
    cases ho : ops[i]? with
    | none => rw [ho] at hrun; exact ih ρ fr h a w hrun hf hN hd hg hr hp
    | some o =>
      rw [ho] at hrun
      simp only at hrun ⊢
      cases hw : wantedV fo ops o fr with
      | none => rw [hw] at hrun; cases hrun
      | some b =>
        rw [hw] at hrun
        have hwant := wantedV_sound hf hw
        cases b with
        | false =>
          simp only [hwant, Bool.false_eq_true, if_false] at hrun ⊢
          exact ih ρ _ h _ w hrun (hf.put hN o.dst (undefV_R ρ)) (by rw [put_size]; exact hN) (by rw [put_defers]; exact hd) hg hr hp
        | true =>
          simp only [hwant, if_true] at hrun ⊢
          cases hs : stepV c (qs i) o.op (evO c fo fr) h with
          | none => rw [hs] at hrun; cases hrun
          | some x =>
            obtain ⟨v, h'⟩ := x
            rw [hs] at hrun
            replace hrun := look_some hrun
            refine .inl (stepV_wp hC hX hg hr (evO_R hg hf) hs ?_)
            intro u w' ρ' g1 g2 g3
            exact ih ρ' _ h' _ w' hrun ((hf.mono g3.le).put hN o.dst g1) (by rw [put_size]; exact hN) (by rw [put_defers]; exact hd) (hg.mono g3.le) g2 (hp.step hr g3)

/-! ## Orders that the edges leave open -/
/-- 0: touches no memory; 1: reads; 2: makes or writes memory, or calls. -/
def cls (P : Program) (o : Op) : Nat :=
  match o with
  | .move _ | .assign _ | .pick .. | .build .. | .nilCheck _ | .binOp .. | .unOp .. | .sliceToArrayPointer .. | .makeInterface .. | .makeFunc .. | .fieldAddr .. | .field .. | .indexAddr .. | .index .. | .typeAssert .. | .extract .. => 0
  | .load .. | .slice .. => 1
  | .convert s d _ =>
    match P.underlying s, P.underlying d with
    | _, some (.int _) => 0
    | some .string, some .string => 0
    | some (.slice _), some .string => 1
    | _, _ => 2
  | .call { callee := .builtin b, .. } =>
    match b with
    | .len | .cap | .max | .min | .unsafeSliceData => 0
    | _ => 2
  | _ => 2
def blockOf : V → Option Nat
  | .ptr a => some a.b
  | .slice a _ _ _ _ => some a.b
  | _ => none
theorem readN_same {h h2 : AH} {a : A} {n : Nat} (he : h2.get a.b = h.get a.b) : readN h2 a n = readN h a n := by
  rw [readN_eq, readN_eq, he]
theorem loud_same {P : Program} {o : Op} {ev : Operand → V} {h h1 : AH} {v : V} (hc : cls P o ≠ 2) (hcall : isCall o = none) (hs : sop P o ev h = some (v, h1)) :
    h1 = h ∧ ∀ h2 : AH, (cls P o ≠ 0 → ∀ x b, blockOf (ev x) = some b → (h.get b).isSome = true → h2.get b = h.get b) → sop P o ev h2 = some (v, h2) := by
  have pureCase : ∀ (z : Option V), (z.map fun v => (v, h)) = some (v, h1) → h1 = h ∧ z = some v := by
    intro z hz
    cases z with
    | none => cases hz
    | some v' => cases hz; exact ⟨rfl, rfl⟩
  have outP : ∀ (z : Option V), (z.map fun v => (v, h)) = some (v, h1) → h1 = h ∧ ∀ h2 : AH, (cls P o ≠ 0 → ∀ x b, blockOf (ev x) = some b → (h.get b).isSome = true → h2.get b = h.get b) → (z.map fun v => (v, h2)) = some (v, h2) := by
    intro z hz
    obtain ⟨rfl, rfl⟩ := pureCase z hz
    exact ⟨rfl, fun h2 _ => rfl⟩
  cases o
  case move x => cases hs; exact ⟨rfl, fun _ _ => rfl⟩
  case assign x => cases hs; exact ⟨rfl, fun _ _ => rfl⟩
  case pick cc a b =>
    unfold sop at hs ⊢
    simp only at hs ⊢
    split at hs
    · cases hs; exact ⟨rfl, fun _ _ => rfl⟩
    · cases hs
  case build t ps => exact outP _ hs
  case nilCheck x => exact outP _ hs
  case binOp op t x y t2 => exact outP _ hs
  case unOp op t x => exact outP _ hs
  case sliceToArrayPointer t x => exact outP _ hs
  case makeInterface t x => exact outP _ hs
  case makeFunc f a b => exact outP _ hs
  case fieldAddr t x f => exact outP _ hs
  case field t x f => exact outP _ hs
  case indexAddr t x i => exact outP _ hs
  case index t x i => exact outP _ hs
  case typeAssert x t1 t2 ok => exact outP _ hs
  case extract x i => exact outP _ hs
  case load t x =>
    obtain ⟨rfl, hl⟩ := pureCase _ hs
    refine ⟨rfl, fun h2 hb => ?_⟩
    show ((absLoad P t (ev x) h2).map fun v => (v, h2)) = _
    have : absLoad P t (ev x) h2 = absLoad P t (ev x) h1 := by
      unfold absLoad
      cases hx : ev x with
      | ptr a =>
        have hsome : (h1.get a.b).isSome = true := by
          rw [hx] at hl
          unfold absLoad at hl
          cases hg : h1.get a.b with
          | some k => rfl
          | none =>
            exfalso
            have hr : ∀ n, readN h1 a n = none := fun n => by rw [readN_eq, hg]; rfl
            simp only [hr] at hl
            split at hl <;> cases hl
        have he := hb (by simp [cls]) x a.b (by rw [hx]; rfl) hsome
        simp only [readN_same he]
      | _ => rfl
    rw [this, hl]; rfl
  case slice t x lo hi mx =>
    obtain ⟨rfl, hl⟩ := pureCase _ hs
    refine ⟨rfl, fun h2 hb => ?_⟩
    show ((absSlice P t (ev x) _ _ _ h2).map fun v => (v, h2)) = _
    have : absSlice P t (ev x) (lo.map ev) (hi.map ev) (mx.map ev) h2 = absSlice P t (ev x) (lo.map ev) (hi.map ev) (mx.map ev) h1 := by
      unfold absSlice
      cases hx : ev x with
      | ptr a =>
        have hsome : ∀ n e, P.underlying t = some (.array n e) → (h1.get a.b).isSome = true := by
          intro n e hu
          rw [hx] at hl
          unfold absSlice at hl
          simp only [hu] at hl
          cases hg : h1.get a.b with
          | some k => rfl
          | none => rw [hg] at hl; cases hl
        cases hu : P.underlying t with
        | none => rfl
        | some d =>
          cases d with
          | array n e =>
            have he := hb (by simp [cls]) x a.b (by rw [hx]; rfl) (hsome n e hu)
            simp only [he]
          | _ => rfl
      | _ =>
        cases hu : P.underlying t with
        | none => rfl
        | some d => cases d <;> rfl
    rw [this, hl]; rfl
  case convert s d x =>
    have hno : ∀ h3, absUnsafePtr P s d (ev x) h3 = none := by
      intro h3
      unfold absUnsafePtr
      split
      · rename_i g1 g2; exact absurd (by simp [cls, g1, g2]) hc
      · rename_i g1 g2; exact absurd (by simp [cls, g1, g2]) hc
      · rename_i g1 g2; exact absurd (by simp [cls, g1, g2]) hc
      · rename_i g1 g2; exact absurd (by simp [cls, g1, g2]) hc
      · rfl
    have hs' : absConvert P s d (ev x) h = some (v, h1) := by
      unfold sop at hs
      simp only [hno] at hs
      exact hs
    have hgo : ∀ h2, sop P (.convert s d x) ev h2 = absConvert P s d (ev x) h2 := by
      intro h2
      unfold sop
      simp only [hno]
    simp only [hgo]
    generalize hx : ev x = y at hs'
    unfold absConvert at hs' ⊢
    cases hu1 : P.underlying s with
    | none => simp only [hu1] at hs'; cases hs'
    | some d1 =>
      cases hu2 : P.underlying d with
      | none => simp only [hu1, hu2] at hs'; cases d1 <;> cases hs'
      | some d2 =>
        have hcl : (match (some d1 : Option TypeDesc), (some d2 : Option TypeDesc) with
            | _, some (.int _) => 0
            | some .string, some .string => 0
            | some (.slice _), some .string => 1
            | _, _ => 2) ≠ 2 := by
          have := hc
          simp only [cls, hu1, hu2] at this
          exact this
        simp only [hu1, hu2] at hs'
        cases d2
        case int k =>
          cases y <;> cases d1 <;> first | (cases hs'; done) | (cases hs'; exact ⟨rfl, fun _ _ => rfl⟩)
        case string =>
          cases d1
          case string => cases y <;> first | (cases hs'; done) | (cases hs'; exact ⟨rfl, fun _ _ => rfl⟩)
          case slice e =>
            cases y
            case str => cases hs'; exact ⟨rfl, fun _ _ => rfl⟩
            case slice p n cap ex z =>
              simp only at hs' ⊢
              split at hs'
              · rename_i hu8
                obtain ⟨rfl, hl⟩ := pureCase _ hs'
                refine ⟨rfl, fun h2 hb => ?_⟩
                have hsome : (h1.get p.b).isSome = true := by
                  cases hg : h1.get p.b with
                  | some k => rfl
                  | none =>
                    exfalso
                    unfold absToStr at hl
                    simp only [readN_eq, hg] at hl
                    cases hl
                have he := hb (by simp [cls, hu1, hu2]) x p.b (by rw [hx]; rfl) hsome
                have : absToStr (.slice p n cap ex z) h2 = absToStr (.slice p n cap ex z) h1 := by
                  unfold absToStr
                  simp only [readN_same he]
                rw [if_pos hu8, this, hl]; rfl
              · cases hs'
            case nilslice =>
              simp only at hs' ⊢
              split at hs'
              · rename_i hu8; cases hs'; exact ⟨rfl, fun _ _ => by rw [if_pos hu8]⟩
              · cases hs'
            case loose =>
              simp only at hs' ⊢
              split at hs'
              · rename_i hu8; cases hs'; exact ⟨rfl, fun _ _ => by rw [if_pos hu8]⟩
              · cases hs'
            all_goals cases hs'
          all_goals exact absurd rfl hcl
        all_goals (cases d1 <;> exact absurd rfl hcl)
  case call cl =>
    obtain ⟨ce, args, ats⟩ := cl
    cases ce with
    | value f => simp [isCall] at hcall
    | invoke r n => simp [isCall] at hcall
    | builtin b =>
      have hs' : absBuiltin P b ats.toList (args.toList.map ev) h = some (v, h1) := hs
      show h1 = h ∧ ∀ h2 : AH, _ → absBuiltin P b ats.toList (args.toList.map ev) h2 = some (v, h2)
      unfold absBuiltin at hs' ⊢
      split at hs'
      · exact outP _ hs'
      · exact outP _ hs'
      · exact absurd rfl hc
      · exact absurd rfl hc
      · exact outP _ hs'
      · exact outP _ hs'
      · exact outP _ hs'
      · exact absurd rfl hc
      · cases hs'
  all_goals exact absurd rfl hc
end Go.Proofs.YtbeohojepniioaaDoor.Ev
