/-
  The check of a region whose order is open; code; functions; the machine's run is sound. No program in sight. No condition.
-/
import Derived.Test.YtbeohojepniioaaDoorEwE
set_option linter.unusedVariables false
set_option linter.unusedSimpArgs false
namespace Go.Proofs.YtbeohojepniioaaDoor.Ev
open Go

/-! ## The check -/
def ordB (B : Array Nat) (i j : Nat) : Bool := (B.getD j 0).testBit i
def maskOf (B : Array Nat) (o : Oper) : Nat := o.after.toList.foldl (fun s e => if Region.binds .any e then s ||| 2 ^ e.on ||| B.getD e.on 0 else s) 0
def names (ops : Array Oper) (o : Oper) (t : Tmp) : Bool := (o.looksAt ops).contains t || o.dst == some t
/-- Must the operation s, a call, be a quiet one? -/
def needsQuiet (P : Program) (ops : Array Oper) (B : Array Nat) (s : Nat) : Bool :=
  (List.range ops.size).any fun i => match ops[i]? with
    | some o => (cls P o.op == 1) && !(ordB B i s) && !(ordB B s i) && i != s
    | none => false
def drawB (P : Program) (ops : Array Oper) (B : Array Nat) : Bool :=
  (List.range ops.size).all fun j => match ops[j]? with
    | none => false
    | some oj =>
      (oj.after.toList.all fun e => !Region.binds .any e || Nat.blt e.on j) && (B.getD j 0 == maskOf B oj) &&
      (List.range ops.size).all fun i => match ops[i]? with
        | none => false
        | some oi =>
          (i == j) ||
          ((match oi.dst with
            | none => true
            | some t => !names ops oj t || (if Nat.blt i j then ordB B i j else ordB B j i)) &&
           (!(cls P oi.op == 2 && cls P oj.op == 2 && Nat.blt i j) || ordB B i j) &&
           (!(cls P oi.op == 1 && cls P oj.op == 2) || ordB B i j || ordB B j i || (isCall oj.op).isSome))
theorem mask_bit (B : Array Nat) (i : Nat) : ∀ (l : List Edge) (s : Nat), (l.foldl (fun s e => if Region.binds .any e then s ||| 2 ^ e.on ||| B.getD e.on 0 else s) s).testBit i = true → s.testBit i = true ∨ ∃ e, e ∈ l ∧ Region.binds .any e = true ∧ (i = e.on ∨ (B.getD e.on 0).testBit i = true) := by
  intro l
  induction l with
  | nil => intro s h; exact .inl h
  | cons e l ih =>
    intro s h
    rw [List.foldl_cons] at h
    rcases ih _ h with h1 | ⟨e', h1, h2, h3⟩
    · by_cases hb : Region.binds .any e = true
      · rw [if_pos hb] at h1
        simp only [Nat.testBit_or, Bool.or_eq_true] at h1
        rcases h1 with (h1 | h1) | h1
        · exact .inl h1
        · refine .inr ⟨e, by simp, hb, .inl ?_⟩
          rw [Nat.testBit_two_pow] at h1
          simpa using (of_decide_eq_true h1).symm
        · exact .inr ⟨e, by simp, hb, .inr h1⟩
      · rw [if_neg hb] at h1; exact .inl h1
    · exact .inr ⟨e', by simp [h1], h2, h3⟩
theorem cls_le (P : Program) (o : Op) : cls P o = 0 ∨ cls P o = 1 ∨ cls P o = 2 := by
  unfold cls
  (repeat' split) <;> simp
theorem drawB_ok {P : Program} {ops : Array Oper} {B : Array Nat} (h : drawB P ops B = true) : DrawOK P ops (needsQuiet P ops B) (fun i j => ordB B i j = true) := by
  have lt : ∀ {i : Nat} {o : Oper}, ops[i]? = some o → i < ops.size := fun ho => (Array.getElem?_eq_some_iff.1 ho).1
  have row : ∀ j oj, ops[j]? = some oj → (∀ e ∈ oj.after.toList, Region.binds .any e = true → e.on < j) ∧ B.getD j 0 = maskOf B oj ∧ ∀ i oi, ops[i]? = some oi → i ≠ j →
      ((∀ t, oi.dst = some t → names ops oj t = true → (if Nat.blt i j then ordB B i j else ordB B j i) = true) ∧ (cls P oi.op = 2 → cls P oj.op = 2 → i < j → ordB B i j = true) ∧
       (cls P oi.op = 1 → cls P oj.op = 2 → ordB B i j = true ∨ ordB B j i = true ∨ (isCall oj.op).isSome = true)) := by
    intro j oj hj
    unfold drawB at h
    rw [List.all_eq_true] at h
    have hrow := h j (List.mem_range.2 (lt hj))
    rw [hj] at hrow
    simp only [Bool.and_eq_true] at hrow
    obtain ⟨⟨h1, h2⟩, h3⟩ := hrow
    refine ⟨fun e he hb => ?_, by simpa using h2, fun i oi hi hne => ?_⟩
    · rw [List.all_eq_true] at h1
      have := h1 e he
      simp only [hb, Bool.not_true, Bool.false_or] at this
      rw [Arr.blt_eq] at this
      exact of_decide_eq_true this
    · rw [List.all_eq_true] at h3
      have := h3 i (List.mem_range.2 (lt hi))
      rw [hi] at this
      have hne' : (i == j) = false := by simpa using hne
      simp only [hne', Bool.false_or] at this
      rw [Bool.and_eq_true, Bool.and_eq_true] at this
      obtain ⟨⟨g1, g2⟩, g3⟩ := this
      simp only [Bool.or_eq_true, Bool.not_eq_true'] at g2 g3
      refine ⟨fun t ht hn => ?_, fun c1 c2 hlt => ?_, fun c1 c2 => ?_⟩
      · rw [ht] at g1
        simpa only [hn, Bool.not_true, Bool.false_or] using g1
      · rcases g2 with g2 | g2
        · rw [c1, c2, Arr.blt_eq] at g2
          simp [hlt] at g2
        · exact g2
      · rcases g3 with ((g3 | g3) | g3) | g3
        · rw [c1, c2] at g3; cases g3
        · exact .inl g3
        · exact .inr (.inl g3)
        · exact .inr (.inr g3)
  refine ⟨fun j o e ho he hb => (row j o ho).1 e he hb, ?_, ?_, ?_, ?_⟩
  · intro i j o ho hord
    have hm := (row j o ho).2.1
    unfold ordB at hord
    rw [hm] at hord
    rcases mask_bit B i _ _ hord with h1 | ⟨e, h1, h2, h3⟩
    · simp at h1
    · exact ⟨e, h1, h2, h3⟩
  · intro i j oi oj t hi hj hne hdst hlook
    have hn : names ops oj t = true := by
      unfold names
      rcases hlook with hl | hl
      · simp only [Bool.or_eq_true]; exact .inl (by simpa using hl)
      · simp only [Bool.or_eq_true]; exact .inr (by rw [hl]; simp)
    have := ((row j oj hj).2.2 i oi hi hne).1 t hdst hn
    constructor
    · intro hlt
      rw [Arr.blt_eq] at this
      simpa [hlt] using this
    · intro hlt
      rw [Arr.blt_eq] at this
      simpa [show ¬ i < j from by omega] using this
  · intro i j oi oj hi hj hlt c1 c2
    exact ((row j oj hj).2.2 i oi hi (by omega)).2.1 c1 c2 hlt
  · intro i s oi os hi hs hne c1 c2 c3 h1 h2
    have hc : cls P oi.op = 1 := by rcases cls_le P oi.op with h | h | h <;> omega
    have hcall : (isCall os.op).isSome = true := by
      rcases ((row s os hs).2.2 i oi hi hne).2.2 hc c3 with h | h | h
      · exact absurd h h1
      · exact absurd h h2
      · exact h
    refine ⟨hcall, ?_⟩
    unfold needsQuiet
    rw [List.any_eq_true]
    refine ⟨i, List.mem_range.2 (lt hi), ?_⟩
    rw [hi]
    simp only [hc, beq_self_eq_true, Bool.true_and, Bool.and_eq_true, Bool.not_eq_true', bne_iff_ne]
    exact ⟨⟨by simpa using h1, by simpa using h2⟩, hne⟩

/-! ## Code -/
structure Kont (fo : FO) where
  norm : fo.F → AH → Res
  exit : Nat → fo.F → AH → Res
  ret : fo.F → AH → Res
noncomputable def loopN (F : Type) (fuel : Nat) (body : F → AH → (F → AH → Res) → Res) : F → AH → Res := Nat.rec (fun _ _ => none) (fun _ ih fr h => body fr h ih) fuel
/-- The place ahead of a piece of code: by its first region. -/
def preKey : Code → Nat
  | .region id _ _ => 2 * id + 1
  | .seq a _ => preKey a
  | .block _ b => preKey b
  | .loop b => preKey b
  | _ => 0
def isRegion : Code → Bool
  | .region .. => true
  | _ => false
section
variable (c : Cfg) (fo : FO) (N fuel : Nat)
noncomputable def exec : Code → fo.F → AH → Kont fo → Res
  | .skip, fr, h, k => k.norm fr h
  | .label _, fr, h, k => k.norm fr h
  | .region id ops draw, fr, h, k =>
    if draw then
      if drawB c.P ops (Region.before ops) then runOps c fo N ops (needsQuiet c.P ops (Region.before ops)) (List.range' 0 ops.size) fr h (fun fr h => fo.keepK (2 * id + 2) fr fun fr => k.norm fr h) else none
    else runOps c fo N ops (fun _ => false) (List.range ops.size) fr h (fun fr h => fo.keepK (2 * id + 2) fr fun fr => k.norm fr h)
  | .seq a b, fr, h, k => exec a fr h { k with norm := if isRegion a then fun fr h => exec b fr h k else fun fr h => fo.keepK (preKey b) fr fun fr => exec b fr h k }
  | .cond x a b, fr, h, k =>
    match evO c fo fr x with
    | .bool true => exec a fr h k
    | .bool false => exec b fr h k
    | _ => none
  | .block id b, fr, h, k => exec b fr h { k with exit := fun id' fr h => if id' = id then k.norm fr h else k.exit id' fr h }
  | .loop b, fr, h, k => loopN fo.F fuel (fun fr h n => fo.keepK (preKey b) fr fun fr => exec b fr h { k with norm := n }) fr h
  | .exit id, fr, h, k => k.exit id fr h
  | .ret, fr, h, k => k.ret fr h
  | _, _, _, _ => none
/-- The results of a function. -/
noncomputable def resOne (fr : fo.F) (h : AH) (r : ResultVar) : Option V :=
  match r with
  | .tmp t => some (fo.get fr t)
  | .cell a t => absLoad c.P t (fo.get fr a) h
noncomputable def resList (fr : fo.F) (h : AH) : List ResultVar → Option (List V)
  | [] => some []
  | r :: l => match resOne c fo fr h r with
    | none => none
    | some v => match resList fr h l with
      | none => none
      | some vs => some (v :: vs)
def pack : List V → V
  | [v] => v
  | vs => .tuple vs
noncomputable def fin (fn : Func) (fr : fo.F) (h : AH) : Res := (resList c fo fr h fn.results.toList).map fun vs => (pack vs, h)
noncomputable def execFn (f : FuncId) (args : List V) (h : AH) : Res :=
  match c.P.funcs[f]? with
  | none => none
  | some fn =>
    match fn.body with
    | none => none
    | some code => if args.length ≤ fn.ntmps then exec c fo fn.ntmps fuel code (fo.ini args) h ⟨fin c fo fn, fun _ _ _ => none, fin c fo fn⟩ else none
end

/-- What holds where a piece of code leaves. -/
def KPost (c : Cfg) (fo : FO) (N : Nat) (ρ0 : Rho) (h0 : AH) (w0 : World) (r : V × AH) (k : Kont fo) (Q : Exit → Act → World → Prop) : Prop :=
  Post c fo N ρ0 h0 w0 r k.norm (Q .normal) ∧ (∀ id, Post c fo N ρ0 h0 w0 r (k.exit id) (Q (.exit id))) ∧ Post c fo N ρ0 h0 w0 r k.ret (Q .ret)
theorem KPost.step {c : Cfg} {fo : FO} {N : Nat} {ρ0 ρ1 : Rho} {h0 h1 : AH} {w0 w1 : World} {r : V × AH} {k : Kont fo} {Q : Exit → Act → World → Prop} (hr : HR ρ0 h0 w0) (hs : Step ρ0 h0 w0 ρ1 h1 w1) (hp : KPost c fo N ρ0 h0 w0 r k Q) : KPost c fo N ρ1 h1 w1 r k Q :=
  ⟨hp.1.step hr hs, fun id => (hp.2.1 id).step hr hs, hp.2.2.step hr hs⟩

theorem Post.keep {c : Cfg} {fo : FO} {N : Nat} {ρ : Rho} {h : AH} {w : World} {r : V × AH} {k : fo.F → AH → Res} {Q : Act → World → Prop} (hp : Post c fo N ρ h w r k Q) (key : Nat) : Post c fo N ρ h w r (fun fr h => fo.keepK key fr fun fr => k fr h) Q := by
  intro fr h1 a w1 ρ1 hk hf hN hd hg hr hs
  rcases fo.keepK_spec key fr (fun fr => k fr h1) with e | ⟨f', e1, e2⟩
  · simp only [e] at hk; cases hk
  · simp only [e1] at hk
    refine hp f' h1 a w1 ρ1 hk (fun t => ?_) hN hd hg hr hs
    rcases e2 t with e | e
    · rw [e]; exact hf t
    · rw [e]; trivial
theorem exec_wp {c : Cfg} (hC : CSound c) (hX : XSound c) (hA : CAbs c) (hm : c.P.follows .mixedOrders = true) {fo : FO} {N fuel : Nat} {r : V × AH} : ∀ (code : Code) (k : Kont fo) (Q : Exit → Act → World → Prop) (ρ : Rho) (fr : fo.F) (h : AH) (a : Act) (w : World),
    exec c fo N fuel code fr h k = some r → FR fo ρ fr a.tmps → a.tmps.size = N → a.defers = [] → GOK c ρ → HR ρ h w → KPost c fo N ρ h w r k Q → code.wp c.P Q a w := by
  intro code
  induction code with
  | skip => intro k Q ρ fr h a w he hf hN hd hg hr hp; exact wp_skip (hp.1 fr h a w ρ he hf hN hd hg hr (Step.refl _ _ _))
  | label l => intro k Q ρ fr h a w he hf hN hd hg hr hp; exact wp_label (hp.1 fr h a w ρ he hf hN hd hg hr (Step.refl _ _ _))
  | exit id => intro k Q ρ fr h a w he hf hN hd hg hr hp; exact wp_exit (hp.2.1 id fr h a w ρ he hf hN hd hg hr (Step.refl _ _ _))
  | ret => intro k Q ρ fr h a w he hf hN hd hg hr hp; exact wp_ret (hp.2.2 fr h a w ρ he hf hN hd hg hr (Step.refl _ _ _))
  | region id ops draw =>
    intro k Q ρ fr h a w he hf hN hd hg hr hp
    unfold exec at he
    cases draw with
    | false =>
      simp only [Bool.false_eq_true, if_false] at he
      exact wp_region (runOps_wp hC hX _ ρ fr h a w he hf hN hd hg hr (hp.1.keep _))
    | true =>
      simp only [if_true] at he
      split at he
      case isFalse => cases he
      rename_i hdb
      have hok := drawB_ok hdb
      obtain ⟨frs, hs, e1, e2, e3, e4⟩ := trace_of ops.size 0 fr h (by omega) he
      simp only [Nat.zero_add] at e3 e4
      refine wp_region_any hm ?_
      have hr' : HR ρ h { w with drawn := w.drawn + 1 } := ⟨hr.fresh, hr.lives, hr.bound, hr.inj, hr.top, fun b k L cb sh S h1 h2 h3 => (hr.blk b k L cb sh S h1 h2 h3).mono (Rho.le_refl ρ) rfl⟩
      have hst : Step ρ h w ρ h { w with drawn := w.drawn + 1 } := ⟨Rho.le_refl ρ, fun b L c x hx _ => ⟨L, x, hx⟩, fun b k' hk' _ => ⟨k', hk', rfl⟩, Nat.le_refl _, rfl, rfl, rfl, Nat.le_refl _, fun _ _ _ => rfl, Nat.le_refl _, fun _ _ _ => rfl⟩
      have hfalse : ∀ j, (Array.replicate ops.size false).getD j false = false := by
        intro j
        rw [Array.getD_eq_getD_getElem?, Array.getElem?_replicate]
        split <;> rfl
      refine draw_wp hC hX hA hok (fun i hi => e3 i (Nat.zero_le _) hi) e4 hr' ((hp.1.keep _).step hr hst) ops.size _ a _ ρ 0 ?_ ?_
      · refine Nat.le_trans (List.length_filter_le _ _) ?_
        simp
      · refine ⟨by simp, (fun i j hj _ => by rw [hfalse] at hj; cases hj), Nat.zero_le _, (fun i o _ _ => by rw [hfalse]; simp), (by rw [e2]; exact hr'), (by rw [e2]; exact Step.refl _ _ _), hg, ?_, ?_, hN, hd⟩
        · intro q hq b kk hb
          obtain rfl : q = 0 := by omega
          rw [e2] at hb ⊢
          exact hr.lives b kk hb
        · intro t
          exact ⟨0, Nat.zero_le _, (fun i o _ _ => by rw [hfalse]; simp), (by rw [e1]; exact hf t)⟩
  | seq x y ihx ihy =>
    intro k Q ρ fr h a w he hf hN hd hg hr hp
    unfold exec at he
    refine wp_seq (ihx _ _ ρ fr h a w he hf hN hd hg hr ⟨?_, fun id => hp.2.1 id, hp.2.2⟩)
    have hpost : Post c fo N ρ h w r (fun fr h => exec c fo N fuel y fr h k) (fun a w => y.wp c.P Q a w) := by
      intro fr1 h1 a1 w1 ρ1 hk1 hf1 hN1 hd1 hg1 hr1 hs1
      exact ihy k Q ρ1 fr1 h1 a1 w1 hk1 hf1 hN1 hd1 hg1 hr1 (hp.step hr hs1)
    have hnorm : Post c fo N ρ h w r (if isRegion x then fun fr h => exec c fo N fuel y fr h k else fun fr h => fo.keepK (preKey y) fr fun fr => exec c fo N fuel y fr h k) (fun a w => y.wp c.P Q a w) := by
      split
      · exact hpost
      · exact hpost.keep _
    exact hnorm
  | cond x p q ihp ihq =>
    intro k Q ρ fr h a w he hf hN hd hg hr hp
    unfold exec at he
    have hx := evO_R (c := c) (fr := fr) hg hf x
    split at he
    · rename_i hb; rw [hb] at hx; exact wp_cond_true hx (ihp k Q ρ fr h a w he hf hN hd hg hr hp)
    · rename_i hb; rw [hb] at hx; exact wp_cond_false hx (ihq k Q ρ fr h a w he hf hN hd hg hr hp)
    · cases he
  | block id b ih =>
    intro k Q ρ fr h a w he hf hN hd hg hr hp
    unfold exec at he
    refine wp_block (ih _ _ ρ fr h a w he hf hN hd hg hr ⟨hp.1, fun id' => ?_, hp.2.2⟩)
    intro fr1 h1 a1 w1 ρ1 hk1 hf1 hN1 hd1 hg1 hr1 hs1
    simp only [Exit.inBlock]
    by_cases hid : id' = id
    · rw [if_pos hid]; simp only [if_pos hid] at hk1; exact hp.1 fr1 h1 a1 w1 ρ1 hk1 hf1 hN1 hd1 hg1 hr1 hs1
    · rw [if_neg hid]; simp only [if_neg hid] at hk1; exact hp.2.1 id' fr1 h1 a1 w1 ρ1 hk1 hf1 hN1 hd1 hg1 hr1 hs1
  | loop b ih =>
    intro k Q ρ fr h a w he hf hN hd hg hr hp
    unfold exec at he
    -- the rounds that are left
    let body : fo.F → AH → (fo.F → AH → Res) → Res := fun fr h n => fo.keepK (preKey b) fr fun fr => exec c fo N fuel b fr h { k with norm := n }
    let I : Nat → Act → World → Prop := fun m a' w' => ∃ (ρ' : Rho) (fr' : fo.F) (h' : AH), loopN fo.F m body fr' h' = some r ∧ FR fo ρ' fr' a'.tmps ∧ a'.tmps.size = N ∧ a'.defers = [] ∧ GOK c ρ' ∧ HR ρ' h' w' ∧ Step ρ h w ρ' h' w'
    have hround : ∀ (m : Nat) (a' : Act) (w' : World), I m a' w' → b.wp c.P (Exit.then (fun a'' w'' => ∃ m', m' < m ∧ I m' a'' w'') Q) a' w' := by
      intro m a' w' hI
      obtain ⟨ρ', fr', h', g1, g2, g3, g4, g5, g6, g7⟩ := hI
      cases m with
      | zero => cases g1
      | succ m =>
        have g1' : (fo.keepK (preKey b) fr' fun fr => exec c fo N fuel b fr h' { k with norm := loopN fo.F m body }) = some r := g1
        rcases fo.keepK_spec (preKey b) fr' (fun fr => exec c fo N fuel b fr h' { k with norm := loopN fo.F m body }) with e0 | ⟨f', e1, e2⟩
        · exact absurd (e0.symm.trans g1') (by simp)
        rw [e1] at g1'
        have g2' : FR fo ρ' f' a'.tmps := fun t => by
          rcases e2 t with e | e
          · rw [e]; exact g2 t
          · rw [e]; trivial
        refine ih _ _ ρ' f' h' a' w' g1' g2' g3 g4 g5 g6 ⟨?_, fun id => (hp.2.1 id).step hr g7, hp.2.2.step hr g7⟩
        intro fr1 h1 a1 w1 ρ1 hk1 hf1 hN1 hd1 hg1 hr1 hs1
        exact ⟨m, Nat.lt_succ_self m, ρ1, fr1, h1, hk1, hf1, hN1, hd1, hg1, hr1, Step.trans hr g7 hs1⟩
    -- by the number of rounds
    intro bf kk cs
    have key : ∀ (m : Nat) (a' : Act) (w' : World), I m a' w' → ∃ e a'' w'', Q e a'' w'' ∧ Arrives c.P (lone (bf.at a' (.code b :: .inLoop b :: kk)) cs w') bf kk cs e a'' w'' := by
      intro m
      induction m using Nat.strongRecOn with
      | _ m ihm =>
        intro a' w' hI
        obtain ⟨e, a1, w1, hq, harr⟩ := hround m a' w' hI bf (.inLoop b :: kk) cs
        cases e with
        | normal =>
          obtain ⟨m', hlt, hI'⟩ := hq
          obtain ⟨e2, a2, w2, hq2, harr2⟩ := ihm m' hlt a1 w1 hI'
          exact ⟨e2, a2, w2, hq2, .of_steps (Steps.trans harr (.one step_inLoop)) harr2⟩
        | exit id => exact ⟨_, a1, w1, hq, .pass (x := .inLoop b) rfl (fun _ _ => .inl (by simp)) harr⟩
        | goto l => exact ⟨_, a1, w1, hq, .pass (x := .inLoop b) rfl (fun _ _ => .inl (by simp)) harr⟩
        | ret => exact ⟨_, a1, w1, hq, .pass (x := .inLoop b) rfl (fun _ _ => .inl (by simp)) harr⟩
        | panic ch => exact ⟨_, a1, w1, hq, .pass (x := .inLoop b) rfl (fun _ _ => .inl (by simp)) harr⟩
        | outgrown => exact ⟨_, a1, w1, hq, .pass (x := .inLoop b) rfl (fun _ _ => .inl (by simp)) harr⟩
    obtain ⟨e, a', w', hq, harr⟩ := key fuel a w ⟨ρ, fr, h, he, hf, hN, hd, hg, hr, Step.refl _ _ _⟩
    exact ⟨e, a', w', hq, .of_steps (.one step_loop) harr⟩
  | rangeFunc f ps x y _ _ => intro k Q ρ fr h a w he; cases he
  | scope b _ => intro k Q ρ fr h a w he; cases he
  | goto l => intro k Q ρ fr h a w he; cases he
  | refuse s => intro k Q ρ fr h a w he; cases he

/-! ## Functions -/
theorem resOne_sound {c : Cfg} {fo : FO} {ρ : Rho} {fr : fo.F} {h : AH} {w : World} {tmps : Array Value} {r : ResultVar} {v : V} (hf : FR fo ρ fr tmps) (hr : HR ρ h w) (hs : resOne c fo fr h r = some v) :
    ∃ u, ((match r with | .tmp t => pure (tmps.getD t undef) | .cell a t => do loadVar t (← asAddr (tmps.getD a undef))) : Sem Value).run c.P w = .ok u w ∧ R ρ v u := by
  cases r with
  | tmp t => cases hs; exact ⟨_, rfl, hf t⟩
  | cell a t =>
    have hs' : absLoad c.P t (fo.get fr a) h = some v := hs
    have hR := hf a
    obtain ⟨u, h1, h2⟩ := load_sound (P := c.P) hr hR hs'
    refine ⟨u, ?_, h2⟩
    rw [← h1]
    unfold absLoad at hs'
    split at hs'
    · rename_i p hp
      rw [hp] at hR
      obtain ⟨cc, hcc, _⟩ := hR
      simp only [hcc, asAddr, Sem.run_bind, Sem.run_pure, Result.andThen_ok, Instr.loadAt, Instr.sureAddr]
    · cases hs'
theorem resList_sound {c : Cfg} {fo : FO} {ρ : Rho} {fr : fo.F} {h : AH} {w : World} {tmps : Array Value} (hf : FR fo ρ fr tmps) (hr : HR ρ h w) : ∀ {l : List ResultVar} {vs : List V}, resList c fo fr h l = some vs →
    ∃ us : List Value, (l.mapM (fun | .tmp t => pure (tmps.getD t undef) | .cell a t => do loadVar t (← asAddr (tmps.getD a undef)) : ResultVar → Sem Value)).run c.P w = .ok us w ∧ RL ρ vs us := by
  intro l
  induction l with
  | nil => intro vs hs; cases hs; exact ⟨[], rfl, rfl⟩
  | cons r l ih =>
    intro vs hs
    unfold resList at hs
    cases h1 : resOne c fo fr h r with
    | none => rw [h1] at hs; cases hs
    | some v =>
      cases h2 : resList c fo fr h l with
      | none => rw [h1, h2] at hs; cases hs
      | some vs' =>
        rw [h1, h2] at hs
        cases hs
        obtain ⟨u, g1, g2⟩ := resOne_sound (w := w) hf hr h1
        obtain ⟨us, g3, g4⟩ := ih h2
        refine ⟨u :: us, ?_, ⟨u, us, rfl, g2, g4⟩⟩
        rw [List.mapM_cons]
        simp only [Sem.run_bind]
        rw [g1]
        simp only [Result.andThen_ok]
        rw [g3]
        simp only [Result.andThen_ok, Sem.run_pure]
theorem fin_sound {c : Cfg} {fo : FO} {ρ : Rho} {fn : Func} {fr : fo.F} {h h' : AH} {w : World} {tmps : Array Value} {v : V} (hf : FR fo ρ fr tmps) (hr : HR ρ h w) (hs : fin c fo fn fr h = some (v, h')) : h' = h ∧ ∃ u, (results fn tmps).run c.P w = .ok u w ∧ R ρ v u := by
  unfold fin at hs
  obtain ⟨vs, h1, h2⟩ := map_some hs
  cases h2
  obtain ⟨us, g1, g2⟩ := resList_sound (w := w) hf hr h1
  refine ⟨rfl, ?_⟩
  have hrun : (results fn tmps).run c.P w = .ok (if hh : us.toArray.size = 1 then us.toArray[0] else .tuple us.toArray) w := by
    unfold results
    rw [Array.mapM_eq_mapM_toList]
    simp only [Sem.run_bind, Sem.run_map, Sem.run_pure]
    erw [g1]
    simp only [Result.andThen_ok]
  refine ⟨_, hrun, ?_⟩
  have hl := g2.length
  cases vs with
  | nil => rw [show us = [] from g2]; exact ⟨_, rfl, rfl⟩
  | cons v vs =>
    obtain ⟨u, us, rfl, q1, q2⟩ := g2
    cases vs with
    | nil => rw [show us = [] from q2]; exact q1
    | cons v2 vs =>
      obtain ⟨u2, us, rfl, q3, q4⟩ := q2
      rw [dif_neg (by simp)]
      exact ⟨_, rfl, u, _, rfl, q1, u2, us, rfl, q3, q4⟩

theorem execFn_sound {c : Cfg} (hC : CSound c) (hX : XSound c) (hA : CAbs c) (hm : c.P.follows .mixedOrders = true) {fo : FO} {fuel : Nat} {ρ : Rho} {h h' : AH} {w : World} {f : FuncId} {args : List V} {args' : List Value} {v : V} (hg : GOK c ρ) (hr : HR ρ h w) (hR : RL ρ args args') (hs : execFn c fo fuel f args h = some (v, h')) :
    Calls c.P f args'.toArray w fun e w' => ∃ u ρ', e = .returned u ∧ R ρ' v u ∧ HR ρ' h' w' ∧ Step ρ h w ρ' h' w' := by
  unfold execFn at hs
  split at hs
  case h_1 => cases hs
  rename_i fn hfn
  split at hs
  case h_1 => cases hs
  rename_i code hcode
  split at hs
  case isFalse => cases hs
  rename_i hle
  have hlen := hR.length
  refine calls_of_wp hfn hcode ?_
  have hsz : (args'.toArray ++ Array.replicate (fn.ntmps - args'.toArray.size) undef).size = fn.ntmps := by
    simp only [Array.size_append, List.size_toArray, Array.size_replicate]; omega
  have hf : FR fo ρ (fo.ini args) (args'.toArray ++ Array.replicate (fn.ntmps - args'.toArray.size) undef) := by
    intro t
    rw [fo.get_ini, Array.getD_eq_getD_getElem?, List.getD_eq_getElem?_getD]
    by_cases ht : t < args.length
    · rw [Array.getElem?_append_left (by simp; omega), List.getElem?_toArray]
      obtain ⟨y, h1, h2⟩ := hR.get (List.getElem?_eq_getElem ht)
      rw [h1, List.getElem?_eq_getElem ht]
      exact h2
    · rw [List.getElem?_eq_none (by omega), Array.getElem?_append_right (by simp; omega), Array.getElem?_replicate]
      split
      · trivial
      · trivial
  have hpost : ∀ e, (e = Exit.normal ∨ e = Exit.ret) → Post c fo fn.ntmps ρ h w (v, h') (fin c fo fn) (bodyPost c.P fn (fun e w' => ∃ u ρ', e = .returned u ∧ R ρ' v u ∧ HR ρ' h' w' ∧ Step ρ h w ρ' h' w') e) := by
    intro e he fr1 h1 a1 w1 ρ1 hk1 hf1 hN1 hd1 hg1 hr1 hs1
    obtain ⟨rfl, u, q1, q2⟩ := fin_sound hf1 hr1 hk1
    rcases he with rfl | rfl <;> exact ⟨hd1, u, q1, u, ρ1, rfl, q2, hr1, hs1⟩
  refine exec_wp hC hX hA hm code _ _ ρ (fo.ini args) h _ w hs hf hsz rfl hg hr ⟨hpost _ (.inl rfl), fun id fr1 h1 a1 w1 ρ1 hk1 => ?_, hpost _ (.inr rfl)⟩
  cases hk1
end Go.Proofs.YtbeohojepniioaaDoor.Ev
