/-
  Slots with kinds, and code taken apart into functions of them: how a piece of code is one of its parts, one behind the other. No program in sight. No condition.
-/
import Derived.Test.YtbeohojepniioaaDoorEwL
set_option linter.unusedVariables false
set_option linter.unusedSimpArgs false
namespace Go.Proofs.YtbeohojepniioaaDoor.Ev
open Go

/-! ## Slots with kinds -/
abbrev Slots := List (Nat × Ck)
def Tup : Slots → Type
  | [] => Unit
  | (_, c) :: l => c.ty × Tup l
noncomputable def rdT (g : Nat → V) : (L : Slots) → (Tup L → Res) → Res
  | [], K => K ()
  | (i, c) :: l, K => ckT c (g i) fun x => rdT g l fun t => K (x, t)
noncomputable def mkT : (L : Slots) → Tup L → T V
  | [], _ => .leaf
  | (i, c) :: l, t => (mkT l t.2).set i (c.val t.1)
noncomputable def gT (f : T V) (i : Nat) : V := orUndef (f.get i)
theorem ckT_none {c : Ck} {v : V} {K : c.ty → Res} : ckT c v K = none ∨ ∃ x, v = c.val x ∧ ckT c v K = K x := by
  cases h : ckT c v K with
  | none => exact .inl rfl
  | some r =>
    obtain ⟨x, h1, h2⟩ := ckT_some h
    exact .inr ⟨x, h1, h2.symm⟩
theorem rdT_spec (g : Nat → V) : ∀ (L : Slots) (K : Tup L → Res), rdT g L K = none ∨ ∃ t, rdT g L K = K t ∧ ∀ i, gT (mkT L t) i = g i ∨ gT (mkT L t) i = .bad := by
  intro L
  induction L with
  | nil => intro K; exact .inr ⟨(), rfl, fun i => .inr (by show orUndef (T.leaf.get i) = _; rw [T.get_leaf]; rfl)⟩
  | cons a L ih =>
    obtain ⟨i, c⟩ := a
    intro K
    show ckT c (g i) (fun x => rdT g L fun t => K (x, t)) = none ∨ ∃ t, ckT c (g i) (fun x => rdT g L fun t => K (x, t)) = K t ∧ _
    rcases ckT_none (c := c) (v := g i) (K := fun x => rdT g L fun t => K (x, t)) with e | ⟨x, h1, h2⟩
    · exact .inl e
    · rcases ih (fun t => K (x, t)) with e | ⟨t, h3, h4⟩
      · exact .inl (h2.trans e)
      · refine .inr ⟨(x, t), h2.trans h3, fun j => ?_⟩
        show orUndef (((mkT L t).set i (c.val x)).get j) = g j ∨ orUndef (((mkT L t).set i (c.val x)).get j) = .bad
        rw [T.get_set]
        by_cases hj : j = i
        · subst hj; rw [if_pos rfl]; exact .inl h1.symm
        · rw [if_neg hj]; exact h4 j
theorem rdT_none (g : Nat → V) : ∀ (L : Slots), rdT g L (fun _ => none) = none := by
  intro L
  induction L with
  | nil => rfl
  | cons a L ih =>
    obtain ⟨i, c⟩ := a
    show ckT c (g i) (fun x => rdT g L fun t => none) = none
    simp only [ih]
    rcases ckT_none (c := c) (v := g i) (K := fun _ => none) with e | ⟨x, _, h2⟩
    · exact e
    · exact h2
noncomputable def foLive (lv : Nat → Option Slots) : FO where
  F := T V
  get := gT
  set := fun f i v => f.set i v
  ini := fun l => iniT l 0 .leaf
  keepK := fun key f K => match lv key with
    | none => K f
    | some L => rdT (gT f) L fun t => K (mkT L t)
  keepK_spec := fun key f K => by
    cases lv key with
    | none => exact .inr ⟨f, rfl, fun _ => .inl rfl⟩
    | some L =>
      rcases rdT_spec (gT f) L (fun t => K (mkT L t)) with e | ⟨t, h1, h2⟩
      · exact .inl e
      · exact .inr ⟨mkT L t, h1, h2⟩
  get_set := foTrie.get_set
  get_ini := foTrie.get_ini

/-! ## Where code leads -/
/-- What is behind a piece of code: some slots are read, the others forgotten. -/
noncomputable def jk (L : Slots) (J : Tup L → AH → Res) : T V → AH → Res := fun fr h => rdT (gT fr) L fun t => J t h
noncomputable def exK : List (Nat × (T V → AH → Res)) → Nat → T V → AH → Res
  | [], _, _, _ => none
  | (id, f) :: l, id', fr, h => if id' = id then f fr h else exK l id' fr h
section
variable (c : Cfg) (lv : Nat → Option Slots) (N F : Nat)
/-- A piece of code over kept slots. -/
noncomputable def exL (X : Code) (fr : T V) (h : AH) (n : T V → AH → Res) (e : Nat → T V → AH → Res) (r : T V → AH → Res) : Res := exec c (foLive lv) N F X fr h ⟨n, e, r⟩
/-- Regions, one behind the other. -/
noncomputable def runL : List Code → T V → AH → (T V → AH → Res) → (Nat → T V → AH → Res) → (T V → AH → Res) → Res
  | [], fr, h, n, _, _ => n fr h
  | a :: l, fr, h, n, e, r => exL c lv N F a fr h (fun fr h => runL l fr h n e r) e r
/-- The regions at the head of a piece of code, so many of them, and what is behind them. -/
def peel : Nat → Code → List Code × Code
  | k + 1, .seq (.region i o d) b => ((.region i o d) :: (peel k b).1, (peel k b).2)
  | _ + 1, .region i o d => ([.region i o d], .skip)
  | _, X => ([], X)
theorem peel_eq : ∀ (k : Nat) (X : Code) (fr : T V) (h : AH) (n : T V → AH → Res) (e : Nat → T V → AH → Res) (r : T V → AH → Res),
    exL c lv N F X fr h n e r = runL c lv N F (peel k X).1 fr h (fun fr h => exL c lv N F (peel k X).2 fr h n e r) e r := by
  intro k
  induction k with
  | zero => intro X fr h n e r; cases X <;> rfl
  | succ k ih =>
    intro X fr h n e r
    cases X
    case seq a b =>
      cases a
      case region i o d =>
        show exL c lv N F (.region i o d) fr h (fun fr h => exL c lv N F b fr h n e r) e r = exL c lv N F (.region i o d) fr h (fun fr h => runL c lv N F (peel k b).1 fr h (fun fr h => exL c lv N F (peel k b).2 fr h n e r) e r) e r
        congr 1
        funext fr h
        exact ih b fr h n e r
      all_goals rfl
    case region i o d => rfl
    all_goals rfl
variable {c lv N F}
theorem nd_chain {X : Code} {fr : T V} {h : AH} {n : T V → AH → Res} {e : Nat → T V → AH → Res} {r : T V → AH → Res} (k : Nat) {L : Slots} {S : (Tup L → AH → Res) → Res} {Q : Tup L → AH → Res}
    (hc : ∀ n, runL c lv N F (peel k X).1 fr h n e r = S (fun t h => n (mkT L t) h)) (he : ∀ t h, exL c lv N F (peel k X).2 (mkT L t) h n e r = Q t h) : exL c lv N F X fr h n e r = S Q := by
  rw [peel_eq c lv N F k, hc]
  congr 1
  funext t h
  exact he t h
theorem nd_norm {a b : Code} (ha : isRegion a = false) {L : Slots} (hl : lv (preKey b) = some L) {n : T V → AH → Res} {e : Nat → T V → AH → Res} {r : T V → AH → Res} {SB : Tup L → AH → Res} (hb : ∀ t h, exL c lv N F b (mkT L t) h n e r = SB t h) (fr : T V) (h : AH) :
    exL c lv N F (.seq a b) fr h n e r = exL c lv N F a fr h (jk L SB) e r := by
  unfold exL
  have e1 : exec c (foLive lv) N F (.seq a b) fr h ⟨n, e, r⟩ = exec c (foLive lv) N F a fr h ⟨if isRegion a then fun fr h => exec c (foLive lv) N F b fr h ⟨n, e, r⟩ else fun fr h => (foLive lv).keepK (preKey b) fr fun fr => exec c (foLive lv) N F b fr h ⟨n, e, r⟩, e, r⟩ := rfl
  rw [e1, ha]
  congr 1
  simp only [Bool.false_eq_true, if_false]
  congr 1
  funext fr h
  show (match lv (preKey b) with | none => _ | some L => rdT (gT fr) L fun t => exec c (foLive lv) N F b (mkT L t) h ⟨n, e, r⟩) = rdT (gT fr) L fun t => SB t h
  rw [hl]
  show (rdT (gT fr) L fun t => exec c (foLive lv) N F b (mkT L t) h ⟨n, e, r⟩) = rdT (gT fr) L fun t => SB t h
  congr 1
  funext t
  exact hb t h
theorem nd_cond {x : Operand} {a b : Code} {fr : T V} {h : AH} {n : T V → AH → Res} {e : Nat → T V → AH → Res} {r : T V → AH → Res} {t : Bool} {A B : Res} (hx : evO c (foLive lv) fr x = .bool t)
    (ha : exL c lv N F a fr h n e r = A) (hb : exL c lv N F b fr h n e r = B) : exL c lv N F (.cond x a b) fr h n e r = bif t then A else B := by
  have e1 : exL c lv N F (.cond x a b) fr h n e r = (match evO c (foLive lv) fr x with
    | .bool true => exec c (foLive lv) N F a fr h ⟨n, e, r⟩
    | .bool false => exec c (foLive lv) N F b fr h ⟨n, e, r⟩
    | _ => none) := rfl
  rw [e1, hx]
  cases t
  · exact hb
  · exact ha
theorem nd_block {id : Nat} {b : Code} {fr : T V} {h : AH} {n : T V → AH → Res} {es : List (Nat × (T V → AH → Res))} {r : T V → AH → Res} {A : Res} (hb : exL c lv N F b fr h n (exK ((id, n) :: es)) r = A) : exL c lv N F (.block id b) fr h n (exK es) r = A := hb
theorem nd_loop {b : Code} {n : T V → AH → Res} {e : Nat → T V → AH → Res} {r : T V → AH → Res} {L : Slots} (hl : lv (preKey b) = some L) {SB : (Tup L → AH → Res) → Tup L → AH → Res}
    (hb : ∀ J t h, exL c lv N F b (mkT L t) h (jk L J) e r = SB J t h) (fr : T V) (h : AH) : exL c lv N F (.loop b) fr h n e r = rdT (gT fr) L fun t => loopN (Tup L) F (fun t h J => SB J t h) t h := by
  have e1 : exL c lv N F (.loop b) fr h n e r = loopN (T V) F (fun fr h m => (foLive lv).keepK (preKey b) fr fun fr => exec c (foLive lv) N F b fr h ⟨m, e, r⟩) fr h := rfl
  rw [e1]
  have key : ∀ m (fr : T V) (h : AH), loopN (T V) m (fun fr h m => (foLive lv).keepK (preKey b) fr fun fr => exec c (foLive lv) N F b fr h ⟨m, e, r⟩) fr h = rdT (gT fr) L fun t => loopN (Tup L) m (fun t h J => SB J t h) t h := by
    intro m
    induction m with
    | zero => intro fr h; exact (rdT_none (gT fr) L).symm
    | succ m ih =>
      intro fr h
      have ih' : loopN (T V) m (fun fr h m => (foLive lv).keepK (preKey b) fr fun fr => exec c (foLive lv) N F b fr h ⟨m, e, r⟩) = jk L (fun t h => loopN (Tup L) m (fun t h J => SB J t h) t h) := by
        funext fr h; exact ih fr h
      show (match lv (preKey b) with
        | none => _
        | some L => rdT (gT fr) L fun t => exec c (foLive lv) N F b (mkT L t) h ⟨loopN (T V) m (fun fr h m => (foLive lv).keepK (preKey b) fr fun fr => exec c (foLive lv) N F b fr h ⟨m, e, r⟩), e, r⟩) = _
      rw [hl, ih']
      show (rdT (gT fr) L fun t => exL c lv N F b (mkT L t) h (jk L (fun t h => loopN (Tup L) m (fun t h J => SB J t h) t h)) e r) = rdT (gT fr) L fun t => SB (loopN (Tup L) m (fun t h J => SB J t h)) t h
      congr 1
      funext t
      exact hb _ t h
  exact key F fr h
theorem nd_chain' {X Y : Code} {fr : T V} {h : AH} {n : T V → AH → Res} {e : Nat → T V → AH → Res} {r : T V → AH → Res} (k : Nat) {L : Slots} {S : (Tup L → AH → Res) → Res} {Q : Tup L → AH → Res} (hY : (peel k X).2 = Y)
    (hc : ∀ n, runL c lv N F (peel k X).1 fr h n e r = S (fun t h => n (mkT L t) h)) (he : ∀ t h, exL c lv N F Y (mkT L t) h n e r = Q t h) : exL c lv N F X fr h n e r = S Q := nd_chain k hc (by rw [hY]; exact he)
theorem nd_norm' {X a b : Code} {L : Slots} (hX : X = .seq a b) (ha : isRegion a = false) (hl : lv (preKey b) = some L) {n : T V → AH → Res} {e : Nat → T V → AH → Res} {r : T V → AH → Res} {SB : Tup L → AH → Res} (hb : ∀ t h, exL c lv N F b (mkT L t) h n e r = SB t h) (fr : T V) (h : AH) :
    exL c lv N F X fr h n e r = exL c lv N F a fr h (jk L SB) e r := by rw [hX]; exact nd_norm ha hl hb fr h
theorem nd_cond' {X : Code} {x : Operand} {a b : Code} {fr : T V} {h : AH} {n : T V → AH → Res} {e : Nat → T V → AH → Res} {r : T V → AH → Res} {t : Bool} {A B : Res} (hX : X = .cond x a b) (hx : evO c (foLive lv) fr x = .bool t)
    (ha : exL c lv N F a fr h n e r = A) (hb : exL c lv N F b fr h n e r = B) : exL c lv N F X fr h n e r = bif t then A else B := by rw [hX]; exact nd_cond hx ha hb
theorem nd_block' {X : Code} {id : Nat} {b : Code} {fr : T V} {h : AH} {n : T V → AH → Res} {es : List (Nat × (T V → AH → Res))} {r : T V → AH → Res} {A : Res} (hX : X = .block id b) (hb : exL c lv N F b fr h n (exK ((id, n) :: es)) r = A) : exL c lv N F X fr h n (exK es) r = A := by rw [hX]; exact nd_block hb
theorem nd_loop' {X b : Code} {n : T V → AH → Res} {e : Nat → T V → AH → Res} {r : T V → AH → Res} {L : Slots} (hX : X = .loop b) (hl : lv (preKey b) = some L) {SB : (Tup L → AH → Res) → Tup L → AH → Res}
    (hb : ∀ J t h, exL c lv N F b (mkT L t) h (jk L J) e r = SB J t h) (fr : T V) (h : AH) : exL c lv N F X fr h n e r = rdT (gT fr) L fun t => loopN (Tup L) F (fun t h J => SB J t h) t h := by rw [hX]; exact nd_loop hl hb fr h
end
/-- A function: its code over its arguments. -/
theorem fn_eq {c : Cfg} {lv : Nat → Option Slots} {F : Nat} {f : FuncId} {args : List V} {h : AH} (fn : Func) (X : Code) (hf : c.P.funcs[f]? = some fn) (hb : fn.body = some X) (hn : args.length ≤ fn.ntmps) :
    execFn c (foLive lv) F f args h = exL c lv fn.ntmps F X (iniT args 0 .leaf) h (fin c (foLive lv) fn) (exK []) (fin c (foLive lv) fn) := by
  unfold execFn
  rw [hf]
  simp only [hb]
  rw [if_pos hn]
  have : (fun (_ : Nat) (_ : T V) (_ : AH) => (none : Res)) = exK [] := by funext a b c; rfl
  exact congrArg (fun x => exec c (foLive lv) fn.ntmps F X (iniT args 0 .leaf) h ⟨fin c (foLive lv) fn, x, fin c (foLive lv) fn⟩) this
/-- Parts of a piece of code: false: the first, true: the other. -/
def cAt : List Bool → Code → Code
  | [], X => X
  | false :: p, .seq a _ => cAt p a
  | true :: p, .seq _ b => cAt p b
  | false :: p, .cond _ a _ => cAt p a
  | true :: p, .cond _ _ b => cAt p b
  | _ :: p, .block _ b => cAt p b
  | _ :: p, .loop b => cAt p b
  | _ :: _, X => X
def cT : Nat → Code → Code
  | 0, X => X
  | k + 1, X => cT k (cAt [true] X)
/-- So many times to the other part, then to the first one, and so on. -/
def cP : List Nat → Code → Code
  | [], X => X
  | [k], X => cT k X
  | k :: l, X => cP l (cAt [false] (cT k X))
end Go.Proofs.YtbeohojepniioaaDoor.Ev
