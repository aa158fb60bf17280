/-
  Regions whose order the edges leave open: whatever order is drawn, the same comes out. No program in sight. No condition.
-/
import Derived.Test.YtbeohojepniioaaDoorEwC
set_option linter.unusedVariables false
set_option linter.unusedSimpArgs false
namespace Go.Proofs.YtbeohojepniioaaDoor.Ev
open Go

/-! ## What an operation keeps, seen from the own machine alone -/
structure AStep (h h' : AH) : Prop where
  next : h.next ≤ h'.next
  low : h'.low ≤ h.low
  quiet : ∀ b, b < h'.low → b < h.next → h'.get b = h.get b
theorem AStep.refl (h : AH) : AStep h h := ⟨Nat.le_refl _, Nat.le_refl _, fun _ _ _ => rfl⟩
theorem AStep.trans {a b d : AH} (x : AStep a b) (y : AStep b d) : AStep a d :=
  ⟨Nat.le_trans x.next y.next, Nat.le_trans y.low x.low, fun k hk hn => (y.quiet k hk (Nat.lt_of_lt_of_le hn x.next)).trans (x.quiet k (Nat.lt_of_lt_of_le hk y.low) hn)⟩
theorem AStep.add (h : AH) (k : Blk) : AStep h (h.add k) := ⟨Nat.le_succ _, Nat.le_refl _, fun b _ hb => by rw [AH.get_add, if_neg (by omega)]⟩
theorem AStep.write {h h' : AH} {a : A} {vs : List V} (hw : writeN h a vs = some h') : AStep h h' := by
  obtain ⟨k, _, _, _, _, _, _, _, rfl⟩ := writeN_inv hw
  refine ⟨Nat.le_refl _, Nat.min_le_left _ _, fun b hb _ => ?_⟩
  have h0 : Nat.min h.low a.b ≤ a.b := Nat.min_le_right h.low a.b
  have hb' : b < Nat.min h.low a.b := hb
  rw [AH.get_set, if_neg (by omega)]
theorem AStep.grow (h : AH) (b : Nat) (k : Blk) (xs : List V) : AStep h (h.grow b k xs) := by
  refine ⟨Nat.le_refl _, Nat.min_le_left _ _, fun b' hb _ => ?_⟩
  have h0 : Nat.min h.low b ≤ b := Nat.min_le_right h.low b
  have hb' : b' < Nat.min h.low b := hb
  rw [AH.get_grow, if_neg (by omega)]
theorem AStep.kill (h : AH) (b : Nat) (k : Blk) : AStep h (h.kill b k) := by
  refine ⟨Nat.le_refl _, Nat.min_le_left _ _, fun b' hb _ => ?_⟩
  have h0 : Nat.min h.low b ≤ b := Nat.min_le_right h.low b
  have hb' : b' < Nat.min h.low b := hb
  show (h.m.set b _).get b' = _
  rw [T.get_set, if_neg (by omega)]
  rfl
theorem map_self {z : Option V} {h h' : AH} {v : V} (hs : (z.map fun v => (v, h)) = some (v, h')) : h' = h := by
  cases z with
  | none => cases hs
  | some _ => cases hs; rfl
theorem sop_astep {P : Program} {o : Op} {ev : Operand → V} {h h' : AH} {v : V} (hs : sop P o ev h = some (v, h')) : AStep h h' := by
  have self : ∀ z : Option V, (z.map fun v => (v, h)) = some (v, h') → AStep h h' := fun z hz => by rw [map_self hz]; exact AStep.refl h
  unfold sop at hs
  split at hs
  · cases hs; exact AStep.refl h
  · cases hs; exact AStep.refl h
  · split at hs
    · cases hs; exact AStep.refl h
    · cases hs
  · unfold absAlloc at hs; split at hs
    · cases hs; exact AStep.add _ _
    · cases hs
  · unfold absBox at hs; split at hs
    · cases hs; exact AStep.add _ _
    · cases hs
  · exact self _ hs
  · unfold absBuildSlice at hs
    (repeat' split at hs) <;> first | (cases hs; done) | (cases hs; exact AStep.add _ _)
  · exact self _ hs
  · obtain ⟨h1, g1, g2⟩ := map_some hs
    cases g2
    unfold absStore at g1
    (repeat' split at g1) <;> first | (cases g1; done) | exact AStep.write g1
  · exact self _ hs
  · exact self _ hs
  · exact self _ hs
  · split at hs
    · cases hs; exact AStep.refl h
    unfold absConvert at hs
    (repeat' split at hs) <;> first | (cases hs; done) | (cases hs; exact AStep.refl h) | exact self _ hs | (cases hs; exact AStep.add _ _)
  · exact self _ hs
  · exact self _ hs
  · exact self _ hs
  · unfold absMakeSlice at hs
    (repeat' split at hs) <;> first | (cases hs; done) | (cases hs; exact AStep.add _ _)
  · exact self _ hs
  · exact self _ hs
  · exact self _ hs
  · exact self _ hs
  · exact self _ hs
  · exact self _ hs
  · exact self _ hs
  · unfold absBuiltin at hs
    split at hs
    · exact self _ hs
    · exact self _ hs
    · unfold absAppend at hs
      (repeat' split at hs) <;> first
        | (cases hs; done)
        | (cases hs; exact AStep.refl h)
        | (cases hs; exact AStep.add _ _)
        | (cases hs; exact AStep.grow _ _ _ _)
        | (obtain ⟨h1, g1, g2⟩ := map_some hs; cases g2; exact AStep.write g1)
    · unfold absCopy at hs
      (repeat' split at hs) <;> first
        | (cases hs; done)
        | (cases hs; exact AStep.refl h)
        | (obtain ⟨h1, g1, g2⟩ := map_some hs; cases g2; exact AStep.write g1)
    · exact self _ hs
    · exact self _ hs
    · exact self _ hs
    · unfold absUnsafeString at hs
      split at hs
      · split at hs
        · cases hs; exact AStep.refl h
        · cases hs
      · (repeat' split at hs) <;> first
          | (cases hs; done)
          | (cases hs; exact AStep.refl h)
          | (obtain ⟨h1, g1, g2⟩ := map_some hs; cases g2; exact AStep.kill _ _ _)
      · cases hs
    · cases hs
  · cases hs

/-- The ways to call keep that too. -/
def CAbs (c : Cfg) : Prop := (∀ f args h v h', c.C f args h = some (v, h') → AStep h h') ∧ (∀ f args h v h', c.X f args h = some (v, h') → AStep h h') ∧ HintOK c
theorem callV_astep {c : Cfg} (hA : CAbs c) {f : FuncId} {args : List V} {h h' : AH} {v : V} (hs : callV c f args h = some (v, h')) : AStep h h' := by
  unfold callV at hs
  split at hs
  · exact hA.1 _ _ _ _ _ hs
  · exact hA.2.1 _ _ _ _ _ hs
  · cases hs
theorem quietV_spec {c : Cfg} (hA : CAbs c) {f : FuncId} {args : List V} {h h' : AH} {v : V} (hs : quietV c f args h = some (v, h')) : AStep h h' ∧ ∀ b, b < h.next → h'.get b = h.get b := by
  unfold quietV at hs
  split at hs
  · cases hs
  · rename_i v1 h1 hq
    split at hs
    · rename_i hl
      cases hs
      have := callV_astep hA hq
      exact ⟨⟨this.next, Nat.le_refl _, fun b _ hb => this.quiet b (Nat.lt_of_lt_of_le hb hl) hb⟩, fun b hb => this.quiet b (Nat.lt_of_lt_of_le hb hl) hb⟩
    · cases hs
theorem stepV_astep {c : Cfg} (hA : CAbs c) {q : Bool} {o : Op} {ev : Operand → V} {h h' : AH} {v : V} (hs : stepV c q o ev h = some (v, h')) : AStep h h' ∧ ((isCall o).isSome = true → q = true → ∀ b, b < h.next → h'.get b = h.get b) := by
  unfold stepV at hs
  split at hs
  · rename_i cl hcl
    split at hs
    · split at hs
      · obtain ⟨g1, g2⟩ := quietV_spec hA hs; exact ⟨g1, fun _ _ => g2⟩
      · rename_i hq; exact ⟨callV_astep hA hs, fun _ hq' => absurd hq' hq⟩
    · cases hs
  · rename_i hcl; exact ⟨sop_astep (conc_some hA.2.2 hs), fun hsome => by rw [hcl] at hsome; cases hsome⟩

/-! ## Only the operands count -/
theorem stepV_congr {c : Cfg} {q : Bool} {o : Op} {ev ev' : Operand → V} (he : ∀ x, x ∈ o.operands.toList → ev x = ev' x) (h : AH) : stepV c q o ev h = stepV c q o ev' h := by
  have hps : ∀ ps : Array (Nat × Operand), (∀ x, x ∈ (ps.toList.map (·.2)) → ev x = ev' x) → (ps.toList.map fun p => (p.1, ev p.2)) = ps.toList.map fun p => (p.1, ev' p.2) := fun ps hx =>
    List.map_congr_left fun p hp => by rw [hx p.2 (List.mem_map.2 ⟨p, hp, rfl⟩)]
  have hopt : ∀ m : Option Operand, (∀ x, m = some x → ev x = ev' x) → m.map ev = m.map ev' := fun m hx => by cases m with | none => rfl | some y => simp [hx y rfl]
  cases o
  case move x => simp only [stepV, isCall, sop, he x (by simp [Op.operands])]
  case assign x => simp only [stepV, isCall, sop, he x (by simp [Op.operands])]
  case pick a b d => simp only [stepV, isCall, sop, he a (by simp [Op.operands]), he b (by simp [Op.operands]), he d (by simp [Op.operands])]
  case alloc t => rfl
  case box t x => simp only [stepV, isCall, sop, he x (by simp [Op.operands])]
  case build t ps => simp only [stepV, isCall, sop, hps ps (fun x hx => he x (by simpa [Op.operands] using hx))]
  case buildSlice t n ps => simp only [stepV, isCall, sop, hps ps (fun x hx => he x (by simpa [Op.operands] using hx))]
  case load t x => simp only [stepV, isCall, sop, he x (by simp [Op.operands])]
  case store t x y => simp only [stepV, isCall, sop, he x (by simp [Op.operands]), he y (by simp [Op.operands])]
  case nilCheck x => simp only [stepV, isCall, sop, he x (by simp [Op.operands])]
  case binOp op t x y t2 => simp only [stepV, isCall, sop, he x (by simp [Op.operands]), he y (by simp [Op.operands])]
  case unOp op t x => simp only [stepV, isCall, sop, he x (by simp [Op.operands])]
  case convert a b x => simp only [stepV, isCall, sop, he x (by simp [Op.operands])]
  case sliceToArrayPointer t x => simp only [stepV, isCall, sop, he x (by simp [Op.operands])]
  case makeInterface t x => simp only [stepV, isCall, sop, he x (by simp [Op.operands])]
  case makeFunc f a b =>
    have h1 : a.toList.map ev = a.toList.map ev' := List.map_congr_left fun x hx => he x (by simp only [Op.operands, Array.toList_append]; exact List.mem_append_left _ hx)
    have h2 : b.toList.map ev = b.toList.map ev' := List.map_congr_left fun x hx => he x (by simp only [Op.operands, Array.toList_append]; exact List.mem_append_right _ hx)
    simp only [stepV, isCall, sop, h1, h2]
  case makeSlice t x y => simp only [stepV, isCall, sop, he x (by simp [Op.operands]), he y (by simp [Op.operands])]
  case slice t x lo hi mx =>
    have h1 := hopt lo (fun y hy => he y (by subst hy; simp [Op.operands]))
    have h2 := hopt hi (fun y hy => he y (by subst hy; simp [Op.operands]))
    have h3 := hopt mx (fun y hy => he y (by subst hy; simp [Op.operands]))
    simp only [stepV, isCall, sop, he x (by simp [Op.operands]), h1, h2, h3]
  case fieldAddr t x f => simp only [stepV, isCall, sop, he x (by simp [Op.operands])]
  case field t x f => simp only [stepV, isCall, sop, he x (by simp [Op.operands])]
  case indexAddr t x y => simp only [stepV, isCall, sop, he x (by simp [Op.operands]), he y (by simp [Op.operands])]
  case index t x y => simp only [stepV, isCall, sop, he x (by simp [Op.operands]), he y (by simp [Op.operands])]
  case typeAssert x a b ok => simp only [stepV, isCall, sop, he x (by simp [Op.operands])]
  case extract x i => simp only [stepV, isCall, sop, he x (by simp [Op.operands])]
  case call cl =>
    obtain ⟨ce, args, ats⟩ := cl
    have h1 : args.toList.map ev = args.toList.map ev' := List.map_congr_left fun x hx => he x (by
      simp only [Op.operands, Call.operands, Array.toList_append]; exact List.mem_append_right _ hx)
    cases ce with
    | value f => simp only [stepV, isCall, callee, he f (by simp [Op.operands, Call.operands]), h1]
    | invoke r n => simp only [stepV, isCall, callee, he r (by simp [Op.operands, Call.operands]), h1]
    | builtin b => simp only [stepV, isCall, sop, h1]
  all_goals rfl

/-! ## The check -/
structure DrawOK (P : Program) (ops : Array Oper) (qs : Nat → Bool) (ord : Nat → Nat → Prop) : Prop where
  edge : ∀ j o e, ops[j]? = some o → e ∈ o.after.toList → Region.binds .any e = true → e.on < j
  closed : ∀ i j o, ops[j]? = some o → ord i j → ∃ e, e ∈ o.after.toList ∧ Region.binds .any e = true ∧ (i = e.on ∨ ord i e.on)
  slot : ∀ i j oi oj t, ops[i]? = some oi → ops[j]? = some oj → i ≠ j → oi.dst = some t → (t ∈ oj.looksAt ops ∨ oj.dst = some t) → (i < j → ord i j) ∧ (j < i → ord j i)
  spine : ∀ i j oi oj, ops[i]? = some oi → ops[j]? = some oj → i < j → cls P oi.op = 2 → cls P oj.op = 2 → ord i j
  read : ∀ i s oi os, ops[i]? = some oi → ops[s]? = some os → i ≠ s → cls P oi.op ≠ 2 → cls P oi.op ≠ 0 → cls P os.op = 2 → ¬ ord i s → ¬ ord s i → (isCall os.op).isSome = true ∧ qs s = true

/-- One operation of the own machine's run in the text's order. -/
def Trace (c : Cfg) (fo : FO) (N : Nat) (ops : Array Oper) (qs : Nat → Bool) (i : Nat) (fr : fo.F) (h : AH) (fr' : fo.F) (h' : AH) : Prop :=
  ∃ o, ops[i]? = some o ∧ ((wantedV fo ops o fr = some false ∧ fr' = putF fo N fr o.dst undefV ∧ h' = h) ∨
    (wantedV fo ops o fr = some true ∧ ∃ v, stepV c (qs i) o.op (evO c fo fr) h = some (v, h') ∧ fr' = putF fo N fr o.dst v))
theorem trace_of {c : Cfg} {fo : FO} {N : Nat} {ops : Array Oper} {qs : Nat → Bool} {r : V × AH} {k : fo.F → AH → Res} : ∀ (m s : Nat) (fr : fo.F) (h : AH), s + m = ops.size → runOps c fo N ops qs (List.range' s m) fr h k = some r →
    ∃ (frs : Nat → fo.F) (hs : Nat → AH), frs s = fr ∧ hs s = h ∧ (∀ i, s ≤ i → i < s + m → Trace c fo N ops qs i (frs i) (hs i) (frs (i + 1)) (hs (i + 1))) ∧ k (frs (s + m)) (hs (s + m)) = some r := by
  intro m
  induction m with
  | zero => intro s fr h _ hrun; exact ⟨fun _ => fr, fun _ => h, rfl, rfl, fun i h1 h2 => by omega, hrun⟩
  | succ m ih =>
    intro s fr h hsz hrun
    rw [List.range'_succ] at hrun
    unfold runOps at hrun
    have hlt : s < ops.size := by omega
    rw [Array.getElem?_eq_getElem hlt] at hrun
    simp only at hrun
    have go : ∀ (fr1 : fo.F) (h1 : AH), Trace c fo N ops qs s fr h fr1 h1 → runOps c fo N ops qs (List.range' (s + 1) m) fr1 h1 k = some r →
        (∃ (frs : Nat → fo.F) (hs : Nat → AH), frs s = fr ∧ hs s = h ∧ (∀ i, s ≤ i → i < s + (m + 1) → Trace c fo N ops qs i (frs i) (hs i) (frs (i + 1)) (hs (i + 1))) ∧ k (frs (s + (m + 1))) (hs (s + (m + 1))) = some r) := fun fr1 h1 ht hr1 => by
      obtain ⟨frs, hs, e1, e2, e3, e4⟩ := ih (s + 1) fr1 h1 (by omega) hr1
      refine ⟨fun i => if i = s then fr else frs i, fun i => if i = s then h else hs i, by simp, by simp, ?_, ?_⟩
      · intro i hi1 hi2
        by_cases his : i = s
        · subst his
          simp only [if_true, if_neg (show ¬ i + 1 = i by omega), e1, e2]
          exact ht
        · simp only [if_neg his, if_neg (show ¬ i + 1 = s by omega)]
          exact e3 i (by omega) (by omega)
      · simp only [if_neg (show ¬ s + (m + 1) = s by omega)]
        rw [show s + (m + 1) = s + 1 + m from by omega]
        exact e4
    cases hw : wantedV fo ops ops[s] fr with
    | none => rw [hw] at hrun; cases hrun
    | some b =>
      rw [hw] at hrun
      cases b with
      | false => exact go _ _ ⟨ops[s], Array.getElem?_eq_getElem hlt, .inl ⟨hw, rfl, rfl⟩⟩ hrun
      | true =>
        simp only at hrun
        cases hs : stepV c (qs s) ops[s].op (evO c fo fr) h with
        | none => rw [hs] at hrun; cases hrun
        | some x =>
          obtain ⟨v, h'⟩ := x
          rw [hs] at hrun
          replace hrun := look_some hrun
          exact go _ _ ⟨ops[s], Array.getElem?_eq_getElem hlt, .inr ⟨hw, v, hs, rfl⟩⟩ hrun
end Go.Proofs.YtbeohojepniioaaDoor.Ev
