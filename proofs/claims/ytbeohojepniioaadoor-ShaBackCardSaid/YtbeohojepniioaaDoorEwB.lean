/-
  Frames, calls, one operation, a region in the text's order. No program in sight. No condition.
-/
import Derived.Test.YtbeohojepniioaaDoorEwA
import Derived.Orders
set_option linter.unusedVariables false
set_option linter.unusedSimpArgs false
namespace Go.Proofs.YtbeohojepniioaaDoor.Ev
open Go

def undefV : V := .tuple []
theorem undefV_R (ρ : Rho) : R ρ undefV undef := ⟨_, rfl, rfl⟩
/-- A way to keep a function's slots. -/
structure FO where
  F : Type
  get : F → Nat → V
  set : F → Nat → V → F
  ini : List V → F
  get_set : ∀ f i j v, get (set f i v) j = if j = i then v else get f j
  get_ini : ∀ l i, get (ini l) i = l.getD i .bad
  keepK : Nat → F → (F → Option (V × AH)) → Option (V × AH)
  keepK_spec : ∀ key f K, keepK key f K = none ∨ ∃ f', keepK key f K = K f' ∧ ∀ i, get f' i = get f i ∨ get f' i = .bad
/-- The slots as a function. -/
def foFun : FO where
  F := Nat → V
  get := fun f i => f i
  set := fun f i v j => bif Nat.beq j i then v else f j
  ini := fun l i => l.getD i .bad
  get_set := fun f i j v => by
    by_cases h : j = i
    · subst h; simp
    · have hb : Nat.beq j i = false := by
        cases hb : Nat.beq j i with
        | false => rfl
        | true => exact absurd (Nat.eq_of_beq_eq_true hb) h
      simp only [hb, cond_false, if_neg h]
  get_ini := fun _ _ => rfl
  keepK := fun _ f K => K f
  keepK_spec := fun _ f _ => .inr ⟨f, rfl, fun _ => .inl rfl⟩

/-- What a machine of ours is for: the program, the listed variables (their lengths), the ways to call. -/
structure Cfg where
  P : Program
  G : Nat → Option Nat
  C : FuncId → List V → AH → Option (V × AH)
  X : FuncId → List V → AH → Option (V × AH)
  hint : Op → Option (Int × (Int → Bool))

abbrev Res := Option (V × AH)
/-- What a value is expected to be. -/
inductive Ck : Type where
  | any
  | int (k : IntKind)
  | bool
  | str
  | agg
def Ck.ty : Ck → Type
  | .any => V
  | .int _ => Int
  | .bool => Bool
  | .str => List Nat
  | .agg => List V
def Ck.val : (c : Ck) → c.ty → V
  | .any, x => x
  | .int k, x => .int k x
  | .bool, x => .bool x
  | .str, x => .str x
  | .agg, x => .agg x
noncomputable def ckI (k : IntKind) (v : V) (K : Int → Res) : Res :=
  match v with
  | .int k' n => if k' = k then K n else none
  | _ => none
noncomputable def ckB (v : V) (K : Bool → Res) : Res :=
  match v with
  | .bool b => K b
  | _ => none
noncomputable def ckS (v : V) (K : List Nat → Res) : Res :=
  match v with
  | .str s => K s
  | _ => none
noncomputable def ckA (v : V) (K : List V → Res) : Res :=
  match v with
  | .agg cs => K cs
  | _ => none
noncomputable def ckT : (c : Ck) → V → (c.ty → Res) → Res
  | .any, v, K => K v
  | .int k, v, K => ckI k v K
  | .bool, v, K => ckB v K
  | .str, v, K => ckS v K
  | .agg, v, K => ckA v K
noncomputable def chk (c : Ck) (v : V) (K : V → Res) : Res := ckT c v fun x => K (c.val x)
theorem ckT_some {c : Ck} {v : V} {K : c.ty → Res} {r : V × AH} (h : ckT c v K = some r) : ∃ x, v = c.val x ∧ K x = some r := by
  cases c
  case any => exact ⟨v, rfl, h⟩
  case int k =>
    have h' : ckI k v K = some r := h
    unfold ckI at h'
    split at h'
    · split at h'
      · rename_i hk; subst hk; exact ⟨_, rfl, h'⟩
      · cases h'
    · cases h'
  case bool =>
    have h' : ckB v K = some r := h
    unfold ckB at h'
    split at h'
    · exact ⟨_, rfl, h'⟩
    · cases h'
  case str =>
    have h' : ckS v K = some r := h
    unfold ckS at h'
    split at h'
    · exact ⟨_, rfl, h'⟩
    · cases h'
  case agg =>
    have h' : ckA v K = some r := h
    unfold ckA at h'
    split at h'
    · exact ⟨_, rfl, h'⟩
    · cases h'
theorem chk_some {c : Ck} {v : V} {K : V → Res} {r : V × AH} (h : chk c v K = some r) : K v = some r := by
  obtain ⟨x, rfl, h2⟩ := ckT_some h
  exact h2
def kindOf (P : Program) (t : TypeId) : Ck :=
  match P.underlying t with
  | some (.int k) => .int k
  | some .bool => .bool
  | some .string => .str
  | some (.struct _) | some (.array _ _) => .agg
  | _ => .any
def ckOf (P : Program) (o : Oper) : Ck :=
  match o.dst with
  | none => .any
  | some _ => kindOf P o.type
/-- A truth that others hang on is looked at once. -/
noncomputable def seeB (g : Bool) (v : V) (K : V → Res) : Res :=
  match g, v with
  | true, .bool b => bif b then K (.bool true) else K (.bool false)
  | _, v => K v
theorem seeB_eq (g : Bool) (v : V) (K : V → Res) : seeB g v K = K v := by
  unfold seeB
  split
  · rename_i b; cases b <;> rfl
  · rfl
def guards (ops : Array Oper) (i : Nat) : Bool := ops.toList.any fun o => match o.guard with
  | some (j, _) => Nat.beq j i
  | none => false
/-- What is done with what an operation has made. -/
noncomputable def look (P : Program) (ops : Array Oper) (i : Nat) (o : Oper) (v : V) (K : V → Res) : Res := chk (ckOf P o) v fun v => seeB (guards ops i) v K
theorem look_some {P : Program} {ops : Array Oper} {i : Nat} {o : Oper} {v : V} {K : V → Res} {r : V × AH} (h : look P ops i o v K = some r) : K v = some r := by
  have := chk_some h
  rwa [seeB_eq] at this
/-- A number that is foretold: it is looked at, and goes on as foretold. -/
noncomputable def concR (m : Int × (Int → Bool)) (r : Res) : Res :=
  match r with
  | some (.int k x, h) => bif m.2 x then some (.int k m.1, h) else none
  | _ => none
noncomputable def conc (o : Option (Int × (Int → Bool))) (r : Res) : Res := Option.rec r (fun m => concR m r) o
theorem conc_none (r : Res) : conc none r = r := rfl
/-- What is foretold is looked at. -/
def HintOK (c : Cfg) : Prop := ∀ o m, c.hint o = some m → ∀ x, m.2 x = true → x = m.1
theorem conc_some {c : Cfg} (hH : HintOK c) {o : Op} {r : Res} {x : V × AH} (h : conc (c.hint o) r = some x) : r = some x := by
  cases ho : c.hint o with
  | none => rw [ho] at h; exact h
  | some m =>
    rw [ho] at h
    have h' : concR m r = some x := h
    unfold concR at h'
    split at h'
    · rename_i k y hh
      cases hy : m.2 y with
      | true => rw [hy] at h'; rw [hH o m ho y hy]; exact h'
      | false => rw [hy] at h'; cases h'
    · cases h'
theorem conc_of {c : Cfg} (hH : HintOK c) {o : Op} {r r' : Res} {v : V} {h h' : AH} (hc : conc (c.hint o) r = some (v, h)) (hr' : r' = some (v, h')) : conc (c.hint o) r' = some (v, h') := by
  have hr := conc_some hH hc
  subst hr hr'
  cases ho : c.hint o with
  | none => rfl
  | some m =>
    rw [ho] at hc
    have h1 : concR m (some (v, h)) = some (v, h) := hc
    show concR m (some (v, h')) = some (v, h')
    unfold concR at h1 ⊢
    split at h1
    · rename_i k y hh he
      cases he
      cases hy : m.2 y with
      | true => rw [hy] at h1; have h2 : V.int k m.1 = V.int k y := (Prod.mk.inj (Option.some.inj h1)).1; simp only [hy, cond_true, h2]
      | false => rw [hy] at h1; cases h1
    · cases h1

section
variable (c : Cfg) (fo : FO)
def evO (fr : fo.F) : Operand → V
  | .tmp t => fo.get fr t
  | .const v => absC v
  | .global g => match c.G g with
    | some L => .ptr ⟨g, L, 0⟩
    | none => .bad
  | .func f => .func f [] []
def putF (N : Nat) (fr : fo.F) (d : Option Nat) (v : V) : fo.F :=
  match d with
  | some d => bif Nat.blt d N then fo.set fr d v else fr
  | none => fr

/-- Which function a call comes to, with which arguments. -/
def callee (ev : Operand → V) (cl : Call) : Option (FuncId × List V) :=
  match cl.callee with
  | .value f => match ev f with
    | .func f fs cs => some (f, fs ++ cl.args.toList.map ev ++ cs)
    | _ => none
  | .invoke r name => match ev r with
    | .iface t v =>
      match c.P.info? t with
      | none => none
      | some i =>
        match i.methods.find? (·.name == name) with
        | none => none
        | some m =>
          if m.path.isEmpty then
            match m.func, c.P.underlying t with
            | some (f, true), some (.pointer _) => some (f, v :: cl.args.toList.map ev)
            | some (f, false), some (.pointer _) => none
            | some (f, false), some _ => some (f, v :: cl.args.toList.map ev)
            | _, _ => none
          else none
    | _ => none
  | .builtin _ => none
def hasBody (f : FuncId) : Option Bool :=
  match c.P.funcs[f]? with
  | none => none
  | some fn => if fn.name == "runtime.NumGoroutine" then none else some fn.body.isSome
noncomputable def callV (f : FuncId) (args : List V) (h : AH) : Res :=
  match hasBody c f with
  | some true => c.C f args h
  | some false => c.X f args h
  | none => none
/-- A call that writes nothing that was there. -/
noncomputable def quietV (f : FuncId) (args : List V) (h : AH) : Res :=
  match callV c f args ⟨h.next, h.next, h.m⟩ with
  | none => none
  | some (v, h1) => if h.next ≤ h1.low then some (v, ⟨h1.next, h.low, h1.m⟩) else none
def isCall : Op → Option Call
  | .call cl => match cl.callee with
    | .builtin _ => none
    | _ => some cl
  | _ => none
noncomputable def stepV (quiet : Bool) (o : Op) (ev : Operand → V) (h : AH) : Res :=
  match isCall o with
  | some cl =>
    match callee c ev cl with
    | some (f, args) => if quiet then quietV c f args h else callV c f args h
    | none => none
  | none => conc (c.hint o) (sop c.P o ev h)
/-- Is the operation to be carried out? -/
def wantedV (ops : Array Oper) (o : Oper) (fr : fo.F) : Option Bool :=
  match o.guard with
  | none => some true
  | some (j, want) =>
    match (ops[j]?).bind (·.dst) with
    | none => some false
    | some d =>
      match fo.get fr d with
      | .bool b => some (b == want)
      | .bad => none
      | _ => some false
end

/-! ## What fits -/
def GOK (c : Cfg) (ρ : Rho) : Prop := ∀ g L, c.G g = some L → ∃ S, ρ g L = some (g, 0, S)
theorem GOK.mono {c : Cfg} {ρ ρ' : Rho} (h : GOK c ρ) (hle : ρ.le ρ') : GOK c ρ' := fun g L hg => let ⟨S, hS⟩ := h g L hg; ⟨S, hle _ _ _ hS⟩
def FR (fo : FO) (ρ : Rho) (fr : fo.F) (tmps : Array Value) : Prop := ∀ t, R ρ (fo.get fr t) (tmps.getD t undef)
theorem FR.mono {fo : FO} {ρ ρ' : Rho} {fr : fo.F} {tmps : Array Value} (h : FR fo ρ fr tmps) (hle : ρ.le ρ') : FR fo ρ' fr tmps := fun t => (h t).mono hle
theorem FR.put {fo : FO} {ρ : Rho} {fr : fo.F} {a : Act} (h : FR fo ρ fr a.tmps) {N : Nat} (hN : a.tmps.size = N) (d : Option Nat) {v : V} {u : Value} (hR : R ρ v u) : FR fo ρ (putF fo N fr d v) (a.put d u).tmps := by
  cases d with
  | none => exact h
  | some d =>
    intro t
    unfold putF Act.put
    simp only [Array.getD_eq_getD_getElem?]
    rw [Arr.blt_eq]
    by_cases hd : d < N
    · simp only [hd, decide_true, cond_true, fo.get_set, Array.getElem?_setIfInBounds]
      by_cases ht : t = d
      · subst ht; rw [if_pos rfl, if_pos rfl, if_pos (by omega)]; exact hR
      · rw [if_neg ht, if_neg (fun e => ht e.symm)]
        have := h t
        rwa [Array.getD_eq_getD_getElem?] at this
    · simp only [hd, decide_false, cond_false, Array.getElem?_setIfInBounds]
      have := h t
      rw [Array.getD_eq_getD_getElem?] at this
      by_cases ht : d = t
      · subst ht; rw [if_pos rfl, if_neg (by omega)]
        rw [Array.getElem?_eq_none (by omega)] at this
        exact this
      · rw [if_neg ht]; exact this
theorem put_size (a : Act) (d : Option Tmp) (u : Value) : (a.put d u).tmps.size = a.tmps.size := by cases d <;> simp [Act.put]
theorem put_defers (a : Act) (d : Option Tmp) (u : Value) : (a.put d u).defers = a.defers := by cases d <;> simp [Act.put]
theorem evO_R {c : Cfg} {fo : FO} {ρ : Rho} {fr : fo.F} {a : Act} (hg : GOK c ρ) (h : FR fo ρ fr a.tmps) : ∀ x, R ρ (evO c fo fr x) (a.eval x) := by
  intro x
  cases x with
  | tmp t => exact h t
  | const v => exact absC_R ρ v
  | global g =>
    simp only [evO]
    cases hG : c.G g with
    | none => trivial
    | some L =>
      obtain ⟨S, hS⟩ := hg g L hG
      exact ⟨_, rfl, g, 0, S, hS, Int.le_refl _, rfl⟩
  | func f => exact ⟨_, _, rfl, rfl, rfl⟩

/-- What the ways to call owe. -/
def CSound (c : Cfg) : Prop := ∀ (ρ : Rho) (h : AH) (w : World) (f : FuncId) (args : List V) (args' : List Value) (v : V) (h' : AH), GOK c ρ → HR ρ h w → RL ρ args args' → c.C f args h = some (v, h') →
  Calls c.P f args'.toArray w fun e w' => ∃ u ρ', e = .returned u ∧ R ρ' v u ∧ HR ρ' h' w' ∧ Step ρ h w ρ' h' w'
def XRun (c : Cfg) : Prop := ∀ (ρ : Rho) (h : AH) (w : World) (f : FuncId) (args : List V) (args' : List Value) (v : V) (h' : AH), HR ρ h w → RL ρ args args' → c.X f args h = some (v, h') → SimN c.P ρ h w (callFunc f args'.toArray) v h'

def XSound (c : Cfg) : Prop := XRun c ∧ HintOK c
theorem callee_sound {c : Cfg} {ρ : Rho} {ev : Operand → V} {ρc : Operand → Value} {cl : Call} {f : FuncId} {args : List V} {ty : TypeId} (he : ∀ x, R ρ (ev x) (ρc x)) (h : callee c ev cl = some (f, args)) :
    ∃ args' : List Value, RL ρ args args' ∧ ∀ w, (do let d ← resolve ρc cl ty; invoke d.target d.args : Sem Next).run c.P w = (callFunc f args'.toArray).run c.P w := by
  unfold callee at h
  have hargs : RL ρ (cl.args.toList.map ev) (cl.args.toList.map ρc) := RL_map he _
  split at h
  · rename_i fo hcl
    split at h
    · rename_i f' fs cs hf
      cases h
      have hR := he fo
      rw [hf] at hR
      obtain ⟨xs, ys, hv, h1, h2⟩ := hR
      refine ⟨xs.toList ++ cl.args.toList.map ρc ++ ys.toList, (h1.append hargs).append h2, fun w => ?_⟩
      unfold resolve
      simp only [hcl, hv, Deferred.ofValue, Sem.run_bind, Sem.run_pure, Result.andThen_ok, invoke]
      congr 2
      apply Array.ext'
      simp
    · cases h
  · rename_i r name hcl
    split at h
    · rename_i t v hr
      have hR := he r
      rw [hr] at hR
      obtain ⟨y, hy, hRy⟩ := hR
      split at h
      · cases h
      · rename_i i hi
        split at h
        · cases h
        · rename_i m hm
          split at h
          · rename_i hp
            have hpe : m.path.toList = [] := by
              have : m.path = #[] := by simpa using hp
              rw [this]
            have hstep : ∀ (w : World) (f : FuncId) (b : Bool), m.func = some (f, b) → (∀ w0 : World, (receiverAt t (.val y) b (if m.path.isEmpty then some ((name.splitOn ".").getLastD name) else none)).run c.P w0 = .ok y w0) →
                (do let d ← resolve ρc cl ty; invoke d.target d.args : Sem Next).run c.P w = (callFunc f (y :: cl.args.toList.map ρc).toArray).run c.P w := by
              intro w f b hf hrec
              unfold resolve
              simp only [hcl, hy, Sem.run_bind, Sem.run_pure, Result.andThen_ok, invoke]
              have h0 : (#[Value.iface t y] ++ Array.map ρc cl.args)[0]? = some (.iface t y) := by rw [Array.getElem?_append_left (by simp)]; rfl
              rw [h0]
              simp only [callMethod, Sem.run_bind, run_program, Result.andThen_ok]
              obtain ⟨k, hk⟩ : ∃ k, c.P.types.size + Made.depth = k + 1 := ⟨c.P.types.size + Made.depth - 1, by have h00 : 0 < Made.depth := (by decide); omega⟩
              rw [hk]
              unfold method
              simp only [Sem.run_bind, typeInfo, run_program, hi, Sem.run_pure, Result.andThen_ok, hm, hpe, follow, hf, hrec]
              congr 2
              apply Array.ext'
              simp [List.take_of_length_le]
            split at h
            · rename_i f' e hf hu
              cases h
              refine ⟨y :: cl.args.toList.map ρc, ⟨_, _, rfl, hRy, hargs⟩, fun w => hstep w _ _ hf fun w0 => ?_⟩
              unfold receiverAt
              simp only [Sem.run_bind, run_underlying hu, Result.andThen_ok, Place.get, Sem.run_pure]
            · cases h
            · rename_i f' d hd hf hu
              cases h
              refine ⟨y :: cl.args.toList.map ρc, ⟨_, _, rfl, hRy, hargs⟩, fun w => hstep w _ _ hf fun w0 => ?_⟩
              unfold receiverAt
              simp only [Sem.run_bind, run_underlying hu, Result.andThen_ok]
              cases d <;> first | exact absurd rfl (hd _) | rfl
            · cases h
          · cases h
    · cases h
  · cases h

theorem callFunc_body {P : Program} {f : FuncId} {fn : Func} (h : P.funcs[f]? = some fn) (hn : (fn.name == "runtime.NumGoroutine") = false) (hb : fn.body.isSome = true) (args : Array Value) (w : World) : (callFunc f args).run P w = .ok (.enter f args) w := by
  unfold callFunc
  have : fn.body.isNone = false := by cases hh : fn.body with | none => rw [hh] at hb; cases hb | some => rfl
  simp only [Sem.run_bind, run_program, Result.andThen_ok, h, hn, this, Bool.false_eq_true, if_false, Sem.run_pure]

/-- What one operation owes its walk. -/
theorem callV_wp {c : Cfg} (hC : CSound c) (hX : XSound c) {ρ : Rho} {h h' : AH} {w : World} {f : FuncId} {args : List V} {args' : List Value} {v : V} (hg : GOK c ρ) (hr : HR ρ h w) (hR : RL ρ args args') (hs : callV c f args h = some (v, h'))
    {o : Oper} {a : Act} {next : Act → World → Prop} {Q : Exit → Act → World → Prop} (hn : ∀ u w' ρ', R ρ' v u → HR ρ' h' w' → Step ρ h w ρ' h' w' → next (a.put o.dst u) w') :
    o.upon c.P a next Q ((callFunc f args'.toArray).run c.P w) := by
  unfold callV at hs
  cases hb : hasBody c f with
  | none => rw [hb] at hs; cases hs
  | some b =>
    rw [hb] at hs
    unfold hasBody at hb
    split at hb
    · cases hb
    · rename_i fn hfn
      split at hb
      · cases hb
      · rename_i hname
        cases b with
        | true =>
          rw [callFunc_body hfn (by simpa using hname) (Option.some.inj hb)]
          simp only [Oper.upon]
          refine (hC ρ h w f args args' v h' hg hr hR hs).mono ?_
          rintro e w' ⟨u, ρ', rfl, h1, h2, h3⟩
          exact hn u w' ρ' h1 h2 h3
        | false =>
          obtain ⟨n, u, w', ρ', h1, h2, h3, h4, h5⟩ := hX.1 ρ h w f args args' v h' hr hR hs
          rw [h1]
          rcases h2 with rfl | ⟨rfl, rfl⟩
          · exact hn u w' ρ' h3 h4 h5
          · exact hn undef w' ρ' h3 h4 h5
theorem HR.low {ρ : Rho} {h : AH} {w : World} (hr : HR ρ h w) (l : Nat) : HR ρ ⟨h.next, l, h.m⟩ w := ⟨hr.fresh, hr.lives, hr.bound, hr.inj, hr.top, hr.blk⟩
theorem stepV_wp {c : Cfg} (hC : CSound c) (hX : XSound c) {ρ : Rho} {h h' : AH} {w : World} {quiet : Bool} {o : Oper} {a : Act} {ev : Operand → V} {v : V} (hg : GOK c ρ) (hr : HR ρ h w) (he : ∀ x, R ρ (ev x) (a.eval x)) (hs : stepV c quiet o.op ev h = some (v, h'))
    {next : Act → World → Prop} {Q : Exit → Act → World → Prop} (hn : ∀ u w' ρ', R ρ' v u → HR ρ' h' w' → Step ρ h w ρ' h' w' → next (a.put o.dst u) w') : o.wp c.P a w next Q := by
  unfold stepV at hs
  unfold Oper.wp
  split at hs
  · rename_i cl hcl
    have hop : o.op = .call cl := by
      unfold isCall at hcl
      split at hcl
      · split at hcl
        · cases hcl
        · cases hcl; assumption
      · cases hcl
    split at hs
    · rename_i f args hcall
      obtain ⟨args', hRL, hrun⟩ := callee_sound (ty := o.type) he hcall
      have hrun' : (execOp a.eval o).run c.P w = (callFunc f args'.toArray).run c.P w := by
        rw [← hrun w]
        unfold execOp
        rw [hop]
      rw [hrun']
      split at hs
      · unfold quietV at hs
        cases hq : callV c f args ⟨h.next, h.next, h.m⟩ with
        | none => rw [hq] at hs; cases hs
        | some x =>
          obtain ⟨v1, h1⟩ := x
          rw [hq] at hs
          simp only at hs
          split at hs
          · rename_i hlow
            cases hs
            refine callV_wp hC hX hg (hr.low h.next) hRL hq ?_
            intro u w' ρ' g1 g2 g3
            refine hn u w' ρ' g1 (g2.low h.low) ?_
            exact ⟨g3.le, g3.cons, g3.ro, g3.next, g3.os, g3.tape, g3.output, g3.size, g3.keep, Nat.le_refl _, fun b _ hb => g3.quiet b (Nat.lt_of_lt_of_le hb hlow) hb⟩
          · cases hs
      · exact callV_wp hC hX hg hr hRL hs hn
    · cases hs
  · obtain ⟨n, u, w', ρ', h1, h2, h3, h4, h5⟩ := sop_sound hr he (conc_some hX.2 hs)
    rw [h1]
    rcases h2 with rfl | ⟨rfl, rfl⟩
    · exact hn u w' ρ' h3 h4 h5
    · exact hn undef w' ρ' h3 h4 h5

theorem wantedV_sound {fo : FO} {ρ : Rho} {ops : Array Oper} {o : Oper} {fr : fo.F} {a : Act} {b : Bool} (h : FR fo ρ fr a.tmps) (hw : wantedV fo ops o fr = some b) : Region.wanted o (yielded ops a.tmps) = b := by
  unfold wantedV at hw
  unfold Region.wanted
  split at hw
  · rename_i hgd; rw [hgd]; exact Option.some.inj hw
  · rename_i j want hgd
    rw [hgd]
    simp only
    unfold yielded
    split at hw
    · rename_i hd; rw [hd]; simp only [Option.bind_none]; cases hw; rfl
    · rename_i d hd
      rw [hd]
      simp only [Option.bind_some]
      have hR := h d
      rw [Array.getD_eq_getD_getElem?] at hR
      split at hw
      · rename_i b' hv
        rw [hv] at hR
        cases hg : a.tmps[d]? with
        | none => rw [hg] at hR; simp only [Option.getD_none] at hR; cases (show undef = .bool b' from hR)
        | some u => rw [hg] at hR; simp only [Option.getD_some] at hR; rw [show u = _ from hR]; cases hw; cases b' <;> cases want <;> rfl
      · cases hw
      · rename_i hv hbad
        cases hw
        cases hg : a.tmps[d]? with
        | none => rfl
        | some u =>
          rw [hg] at hR
          simp only [Option.getD_some] at hR
          cases u with
          | bool b' =>
            exfalso
            have htag := R_tag hR (by cases hx : fo.get fr d <;> first | rfl | exact absurd hx hbad)
            cases hx : fo.get fr d <;> rw [hx] at htag <;> first | (simp [valueTag, V.tag] at htag; done) | exact hv _ hx
          | _ => rfl
end Go.Proofs.YtbeohojepniioaaDoor.Ev
