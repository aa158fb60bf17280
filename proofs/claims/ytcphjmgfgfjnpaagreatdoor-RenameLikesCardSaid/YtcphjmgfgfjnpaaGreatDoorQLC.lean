/-
  Part of a proof, written in a short hand by a program of this workplace. No condition.
-/
import Derived.Test.YtcphjmgfgfjnpaaGreatDoorQLB
set_option linter.unusedVariables false
set_option linter.unusedSimpArgs false
namespace Go.Proofs.YtcphjmgfgfjnpaaGreatDoor.Ev
open Go
noncomputable def newAt (P : Program) (b : Nat) (o : Op) (ev : Operand → V) (h : AH) : Res :=
  match sop P o ev ⟨b, h.low, h.m⟩ with
  | some (v, h') => some (v, ⟨h.next, Nat.min h.low b, h'.m⟩)
  | none => none
noncomputable def stepN (c : Cfg) (b : Nat) (q : Bool) (o : Op) (ev : Operand → V) (h : AH) : Res := Bool.rec (stepV c q o ev h) (newAt c.P b o ev h) (isNew o)
theorem stepN_new {c : Cfg} {b : Nat} {q : Bool} {o : Op} {ev : Operand → V} {h : AH} (hn : isNew o = true) : stepN c b q o ev h = newAt c.P b o ev h := by unfold stepN; rw [hn]
theorem stepN_old {c : Cfg} {b : Nat} {q : Bool} {o : Op} {ev : Operand → V} {h : AH} (hn : isNew o = false) : stepN c b q o ev h = stepV c q o ev h := by unfold stepN; rw [hn]
def Trace2 (c : Cfg) (N : Nat) (ops : Array Oper) (qs : Nat → Bool) (base i : Nat) (fr : Nat → V) (h : AH) (fr' : Nat → V) (h' : AH) : Prop :=
  ∃ o, ops[i]? = some o ∧ ((wantedV foFun ops o fr = some false ∧ fr' = putF foFun N fr o.dst undefV ∧ h' = h) ∨
    (wantedV foFun ops o fr = some true ∧ ∃ v, stepN c (base + i) (qs i) o.op (evO c foFun fr) h = some (v, h') ∧ fr' = putF foFun N fr o.dst v))
structure DrawOK2 (P : Program) (ops : Array Oper) (qs : Nat → Bool) (ord : Nat → Nat → Prop) (idx pos : Nat → Nat) (sep : Nat → Nat → Prop) : Prop where
  ip : ∀ q, q < ops.size → idx q < ops.size ∧ pos (idx q) = q
  pi : ∀ i, i < ops.size → pos i < ops.size ∧ idx (pos i) = i
  edge : ∀ j o e, ops[j]? = some o → e ∈ o.after.toList → Region.binds .any e = true → e.on < ops.size ∧ ord e.on j
  closed : ∀ i j o, ops[j]? = some o → ord i j → ∃ e, e ∈ o.after.toList ∧ Region.binds .any e = true ∧ (i = e.on ∨ ord i e.on)
  fwd : ∀ i j, j < ops.size → ord i j → i < ops.size ∧ pos i < pos j
  slot : ∀ i j oi oj t, ops[i]? = some oi → ops[j]? = some oj → i ≠ j → oi.dst = some t → (t ∈ oj.looksAt ops ∨ oj.dst = some t) → (pos i < pos j → ord i j) ∧ (pos j < pos i → ord j i)
  spine : ∀ i j oi oj, ops[i]? = some oi → ops[j]? = some oj → cls P oi.op = 2 → cls P oj.op = 2 → isNew oj.op = false → pos i < pos j → ord i j
  read : ∀ i s oi os, ops[i]? = some oi → ops[s]? = some os → i ≠ s → cls P oi.op ≠ 2 → cls P oi.op ≠ 0 → cls P os.op = 2 → isNew os.op = false → ¬ ord i s → ¬ ord s i → ((isCall os.op).isSome = true ∧ qs s = true) ∨ (pos i < pos s ∧ sep i s)
theorem newAt_spec {P : Program} {ρ : Rho} {o : Oper} {ev : Operand → V} {ρc : Operand → Value} {b : Nat} {h h' : AH} {v : V} (hnew : isNew o.op = true) (he : ∀ x, R ρ (ev x) (ρc x)) (hs : newAt P b o.op ev h = some (v, h')) :
    ∃ k s, h' = h.at b k ∧ k.ro = false ∧ (∀ w, (execOp ρc o).run P w = (do pure (.value (← s)) : Sem Next).run P w) ∧ NewOK P ρ s b k v := by
  unfold newAt at hs
  split at hs
  · rename_i v' h1 hq
    cases hs
    obtain ⟨k, s, rfl, h2, h3, h4⟩ := new_spec hnew he hq
    exact ⟨k, s, rfl, h2, h3, h4⟩
  · cases hs
theorem newAt_at {P : Program} {o : Op} {ev : Operand → V} {b : Nat} {h h' : AH} {v : V} (hnew : isNew o = true) (hs : newAt P b o ev h = some (v, h')) : ∃ k, h' = h.at b k ∧ k.ro = false := by
  unfold newAt at hs
  split at hs
  · rename_i v' h1 hq
    cases hs
    cases o <;> simp only [isNew, Bool.false_eq_true] at hnew
    case alloc t =>
      change absAlloc P t _ = some (v, h1) at hq
      unfold absAlloc at hq
      split at hq
      · cases hq; exact ⟨_, rfl, rfl⟩
      · cases hq
    case box t x =>
      change absBox t (ev x) _ = some (v, h1) at hq
      unfold absBox at hq
      split at hq
      · cases hq; exact ⟨_, rfl, rfl⟩
      · cases hq
    case buildSlice t n ps =>
      change absBuildSlice P t n _ _ = some (v, h1) at hq
      unfold absBuildSlice at hq
      (repeat' split at hq) <;> first | (cases hq; done) | (cases hq; exact ⟨_, rfl, rfl⟩)
    case makeSlice t l c =>
      change absMakeSlice P t (ev l) (ev c) _ = some (v, h1) at hq
      unfold absMakeSlice at hq
      (repeat' split at hq) <;> first | (cases hq; done) | (cases hq; exact ⟨_, rfl, rfl⟩)
    case makeMap t r =>
      cases r with
      | none => cases (show some (V.mapv b, (⟨b, h.low, h.m⟩ : AH).add (Blk.obj 0 [.int .i64 0])) = some (v, h1) from hq); exact ⟨_, rfl, rfl⟩
      | some r =>
        change (match P.underlying t, ev r with
          | some (.map _ _), .int _ _ => absMakeMap P ⟨b, h.low, h.m⟩
          | _, _ => none) = some (v, h1) at hq
        split at hq
        · cases hq; exact ⟨_, rfl, rfl⟩
        · cases hq
  · cases hs
section
variable {D : List Deferred} {c : Cfg} {N base : Nat} {ops : Array Oper} {qs : Nat → Bool} {ord : Nat → Nat → Prop} {idx pos : Nat → Nat} {sep : Nat → Nat → Prop} {frs : Nat → Nat → V} {hs : Nat → AH}
theorem t_step (hA : CAbs c) {q : Nat} (ht : Trace2 c N ops qs base (idx q) (frs q) (hs q) (frs (q + 1)) (hs (q + 1))) : ∃ o, ops[idx q]? = some o ∧
    (hs (q + 1) = hs q ∨ (cls c.P o.op = 2 ∧ isNew o.op = true ∧ ∃ k, hs (q + 1) = (hs q).at (base + idx q) k ∧ k.ro = false) ∨ (cls c.P o.op = 2 ∧ isNew o.op = false ∧ AStep (hs q) (hs (q + 1)) ∧ ((isCall o.op).isSome = true → qs (idx q) = true → ∀ b, b < (hs q).next → (hs (q + 1)).get b = (hs q).get b))) := by
  obtain ⟨o, ho, hh⟩ := ht
  refine ⟨o, ho, ?_⟩
  rcases hh with ⟨_, _, e⟩ | ⟨_, v, e, _⟩
  · exact .inl e
  · cases hn : isNew o.op with
    | true =>
      rw [stepN_new hn] at e
      obtain ⟨k, h1, h2⟩ := newAt_at hn e
      exact .inr (.inl ⟨(isNew_cls hn).1, rfl, k, h1, h2⟩)
    | false =>
      rw [stepN_old hn] at e
      by_cases hc : cls c.P o.op = 2
      · obtain ⟨g1, g2⟩ := stepV_astep hA e
        exact .inr (.inr ⟨hc, rfl, g1, g2⟩)
      · have hcall : isCall o.op = none := by
          cases hi : isCall o.op with
          | none => rfl
          | some cl => exact absurd (cls_call (by rw [hi]; rfl)) hc
        unfold stepV at e
        rw [hcall] at e
        exact .inl (loud_same hc hcall (conc_some hA.2.2 e)).1
theorem t_next (hA : CAbs c) (ht : ∀ q, q < ops.size → Trace2 c N ops qs base (idx q) (frs q) (hs q) (frs (q + 1)) (hs (q + 1))) : ∀ (m q : Nat), q + m ≤ ops.size → (hs q).next ≤ (hs (q + m)).next ∧ (hs (q + m)).low ≤ (hs q).low := by
  intro m
  induction m with
  | zero => intro q _; exact ⟨Nat.le_refl _, Nat.le_refl _⟩
  | succ m ih =>
    intro q hle
    obtain ⟨i1, i2⟩ := ih q (by omega)
    rw [show q + (m + 1) = q + m + 1 from by omega]
    obtain ⟨o, _, h | ⟨_, _, k, h, _⟩ | ⟨_, _, h, _⟩⟩ := t_step hA (ht (q + m) (by omega))
    · rw [h]; exact ⟨i1, i2⟩
    · rw [h]; exact ⟨i1, Nat.le_trans (Nat.min_le_left _ _) i2⟩
    · exact ⟨Nat.le_trans i1 h.next, Nat.le_trans h.low i2⟩
theorem t_next_le (hA : CAbs c) (ht : ∀ q, q < ops.size → Trace2 c N ops qs base (idx q) (frs q) (hs q) (frs (q + 1)) (hs (q + 1))) {q q' : Nat} (h1 : q ≤ q') (h2 : q' ≤ ops.size) : (hs q).next ≤ (hs q').next ∧ (hs q').low ≤ (hs q).low := by
  have := t_next hA ht (q' - q) q (by omega)
  rwa [show q + (q' - q) = q' from by omega] at this
theorem t_none (hA : CAbs c) {P : Program} (hd : DrawOK2 P ops qs ord idx pos sep) (ht : ∀ q, q < ops.size → Trace2 c N ops qs base (idx q) (frs q) (hs q) (frs (q + 1)) (hs (q + 1))) (hb : (hs 0).next = base + ops.size) (h0 : ∀ i, i < ops.size → (hs 0).get (base + i) = none) (i : Nat) (hi : i < ops.size) : ∀ q, q ≤ pos i → (hs q).get (base + i) = none := by
  intro q
  induction q with
  | zero => intro _; exact h0 i hi
  | succ q ih =>
    intro hq
    have hqn : q < ops.size := by have := (hd.pi i hi).1; omega
    have hne : idx q ≠ i := fun e => by have := (hd.ip q hqn).2; rw [e] at this; omega
    have hprev := ih (by omega)
    obtain ⟨o, _, h | ⟨_, _, k, h, _⟩ | ⟨_, _, h, _⟩⟩ := t_step hA (ht q hqn)
    · rw [h]; exact hprev
    · rw [h, AH.get_at, if_neg (by omega)]; exact hprev
    · have hn := (t_next_le hA ht (Nat.zero_le q) (Nat.le_of_lt hqn)).1
      exact h.none _ (by omega) hprev
theorem t_same (hA : CAbs c) (ht : ∀ q, q < ops.size → Trace2 c N ops qs base (idx q) (frs q) (hs q) (frs (q + 1)) (hs (q + 1))) (b : Nat) : ∀ (m q : Nat), q + m ≤ ops.size →
    (∀ q' o, q ≤ q' → q' < q + m → ops[idx q']? = some o → cls c.P o.op = 2 → (isNew o.op = true ∧ b ≠ base + idx q') ∨ (isNew o.op = false ∧ (isCall o.op).isSome = true ∧ qs (idx q') = true ∧ b < (hs q').next) ∨ (hs (q' + 1)).get b = (hs q').get b) → (hs (q + m)).get b = (hs q).get b := by
  intro m
  induction m with
  | zero => intro q _ _; rfl
  | succ m ih =>
    intro q hle hno
    rw [← ih q (by omega) (fun q' o h1 h2 => hno q' o h1 (by omega)), show q + (m + 1) = q + m + 1 from by omega]
    obtain ⟨o, ho, h | ⟨hc, hn, k, h, _⟩ | ⟨hc, hn, h, hq⟩⟩ := t_step hA (ht (q + m) (by omega))
    · rw [h]
    · rcases hno (q + m) o (by omega) (by omega) ho hc with ⟨_, g⟩ | ⟨g, _⟩ | g
      · rw [h, AH.get_at, if_neg g]
      · rw [hn] at g; cases g
      · exact g
    · rcases hno (q + m) o (by omega) (by omega) ho hc with ⟨g, _⟩ | ⟨_, g1, g2, g3⟩ | g
      · rw [hn] at g; cases g
      · exact hq g1 g2 b g3
      · exact g
theorem t_frame (ht : ∀ q, q < ops.size → Trace2 c N ops qs base (idx q) (frs q) (hs q) (frs (q + 1)) (hs (q + 1))) (t : Nat) : ∀ (m q : Nat), q + m ≤ ops.size → (∀ q' o, q ≤ q' → q' < q + m → ops[idx q']? = some o → o.dst ≠ some t) → frs (q + m) t = frs q t := by
  intro m
  induction m with
  | zero => intro q _ _; rfl
  | succ m ih =>
    intro q hle hno
    rw [← ih q (by omega) (fun q' o h1 h2 h3 => hno q' o h1 (by omega) h3), show q + (m + 1) = q + m + 1 from by omega]
    obtain ⟨o, ho, hh⟩ := ht (q + m) (by omega)
    have hd := hno (q + m) o (by omega) (by omega) ho
    rcases hh with ⟨_, e, _⟩ | ⟨_, v, _, e⟩ <;> rw [e] <;> exact get_putF (fo := foFun) _ _ _ _ hd
theorem t_out (ht : ∀ q, q < ops.size → Trace2 c N ops qs base (idx q) (frs q) (hs q) (frs (q + 1)) (hs (q + 1))) {t : Nat} (hN : ¬ t < N) : ∀ q, q ≤ ops.size → frs q t = frs 0 t := by
  intro q
  induction q with
  | zero => intro _; rfl
  | succ q ih =>
    intro hq
    rw [← ih (by omega)]
    obtain ⟨o, ho, hh⟩ := ht q (by omega)
    have key : ∀ v, (putF foFun N (frs q) o.dst v : Nat → V) t = frs q t := by
      intro v
      cases hd : o.dst with
      | none => rfl
      | some d =>
        by_cases hdt : d = t
        · subst hdt
          rw [putF_ge (frs q) v (by rw [Arr.blt_eq]; exact decide_eq_false hN)]
        · exact get_putF (fo := foFun) _ _ _ _ (fun e => hdt (Option.some.inj e))
    rcases hh with ⟨_, e, _⟩ | ⟨_, v, _, e⟩ <;> rw [e] <;> exact key _
theorem t_ro (hA : CAbs c) {P : Program} (hd : DrawOK2 P ops qs ord idx pos sep) (ht : ∀ q, q < ops.size → Trace2 c N ops qs base (idx q) (frs q) (hs q) (frs (q + 1)) (hs (q + 1))) (hb : (hs 0).next = base + ops.size) (h0 : ∀ i, i < ops.size → (hs 0).get (base + i) = none) {i : Nat} {o : Oper} (ho : ops[i]? = some o) (hn : isNew o.op = true) {k : Blk} (hk : (hs (pos i + 1)).get (base + i) = some k) : k.ro = false := by
  have hi := (Array.getElem?_eq_some_iff.1 ho).1
  obtain ⟨hp, hip⟩ := hd.pi i hi
  have hno := t_none hA hd ht hb h0 i hi (pos i) (Nat.le_refl _)
  obtain ⟨o', ho', hc⟩ := t_step hA (ht (pos i) hp)
  rw [hip] at ho' hc
  rw [ho] at ho'
  cases ho'
  rcases hc with h | ⟨_, _, k', h, hro⟩ | ⟨_, h, _⟩
  · rw [h, hno] at hk; cases hk
  · rw [h, AH.get_at, if_pos rfl] at hk; cases hk; exact hro
  · rw [hn] at h; cases h
theorem put_back (H M : AH) (l base : Nat) (pend : Nat → Prop) (hno : ∀ i, pend i → H.get (base + i) = none) : ∀ n, ∃ X : AH, X.next = H.next ∧ X.low = l ∧ (∀ i, i < n → pend i → X.get (base + i) = M.get (base + i)) ∧ ∀ b, (∀ i, i < n → pend i → b ≠ base + i) → X.get b = H.get b := by
  intro n
  induction n with
  | zero => exact ⟨⟨H.next, l, H.m⟩, rfl, rfl, fun i h => by omega, fun b _ => rfl⟩
  | succ n ih =>
    obtain ⟨X, x1, x2, x3, x4⟩ := ih
    by_cases hp : pend n
    · cases hm : M.get (base + n) with
      | some k =>
        have hg : ∀ b, (⟨X.next, X.low, X.m.set (base + n) k⟩ : AH).get b = if b = base + n then some k else X.get b := fun b => T.get_set _ _ _ _
        refine ⟨⟨X.next, X.low, X.m.set (base + n) k⟩, x1, x2, fun i hi hpi => ?_, fun b hb => ?_⟩
        · rw [hg]
          by_cases e : i = n
          · subst e; rw [if_pos rfl, hm]
          · rw [if_neg (by omega)]; exact x3 i (by omega) hpi
        · rw [hg, if_neg (hb n (Nat.lt_succ_self _) hp)]
          exact x4 b fun i hi hpi => hb i (by omega) hpi
      | none =>
        refine ⟨X, x1, x2, fun i hi hpi => ?_, fun b hb => x4 b fun i hi hpi => hb i (by omega) hpi⟩
        by_cases e : i = n
        · subst e; rw [x4 _ (fun j hj _ => by omega), hno _ hp, hm]
        · exact x3 i (by omega) hpi
    · refine ⟨X, x1, x2, fun i hi hpi => ?_, fun b hb => x4 b fun i hi hpi => hb i (by omega) hpi⟩
      by_cases e : i = n
      · subst e; exact absurd hpi hp
      · exact x3 i (by omega) hpi
theorem Step.relow {ρ ρ' : Rho} {h h' : AH} {w w' : World} (hs : Step ρ h w ρ' h' w') (l : Nat) : Step ρ ⟨h.next, l, h.m⟩ w ρ' ⟨h'.next, Nat.min l h'.low, h'.m⟩ w' :=
  ⟨hs.le, hs.cons, hs.ro, hs.next, hs.os, hs.tape, hs.output, hs.size, hs.keep, Nat.min_le_left _ _, fun b hb hn => hs.quiet b (Nat.lt_of_lt_of_le hb (Nat.min_le_right _ _)) hn, hs.abs⟩
theorem sop_congr {P : Program} {o : Op} {ev ev' : Operand → V} (hn : isCall o = none) (he : ∀ x, x ∈ o.operands.toList → ev x = ev' x) (h : AH) : sop P o ev h = sop P o ev' h := by
  have := stepV_congr (c := ⟨P, fun _ => none, fun _ _ _ => none, fun _ _ _ => none, fun _ => none⟩) (q := false) he h
  unfold stepV at this
  rw [hn] at this
  exact this
theorem newAt_congr {P : Program} {b : Nat} {o : Op} {ev ev' : Operand → V} (hn : isNew o = true) (he : ∀ x, x ∈ o.operands.toList → ev x = ev' x) (h : AH) : newAt P b o ev h = newAt P b o ev' h := by
  unfold newAt
  rw [sop_congr (P := P) (isNew_cls (P := P) hn).2 he]
structure DInv2 (D : List Deferred) (c : Cfg) (N base : Nat) (ops : Array Oper) (ord : Nat → Nat → Prop) (pos : Nat → Nat) (frs : Nat → Nat → V) (hs : Nat → AH) (ρ0 : Rho) (h0 : AH) (w0 : World) (listed : Array Bool) (a : Act) (w : World) (ρ : Rho) (p : Nat) (M : AH) : Prop where
  size : listed.size = ops.size
  down : ∀ i j, listed.getD j false = true → ord i j → listed.getD i false = true
  ple : p ≤ ops.size
  spine : ∀ i o, ops[i]? = some o → cls c.P o.op = 2 → isNew o.op = false → (listed.getD i false = true ↔ pos i < p)
  below : ∀ i o, ops[i]? = some o → isNew o.op = true → pos i < p → listed.getD i false = true
  next : M.next = (hs p).next
  same : ∀ b, (∀ i o, ops[i]? = some o → isNew o.op = true → p ≤ pos i → b ≠ base + i) → M.get b = (hs p).get b
  newL : ∀ i o, ops[i]? = some o → isNew o.op = true → p ≤ pos i → listed.getD i false = true → M.get (base + i) = (hs (pos i + 1)).get (base + i)
  newU : ∀ i o, ops[i]? = some o → isNew o.op = true → listed.getD i false = false → M.get (base + i) = none ∧ ∀ L, ρ (base + i) L = none
  lives : ∀ q, q ≤ p → ∀ b k, (hs q).get b = some k → b < (hs q).next
  low : (hs ops.size).low ≤ M.low
  heap : HR ρ M w
  step : Step ρ0 h0 w0 ρ M w
  gok : GOK c ρ
  slots : ∀ t : Nat, ∃ d, d ≤ ops.size ∧ (∀ i o, ops[i]? = some o → o.dst = some t → (listed.getD i false = true ↔ pos i < d)) ∧ R ρ (frs d t) (a.tmps.getD t undef)
  tmps : a.tmps.size = N
  defers : a.defers = D
theorem advance1 (hA : CAbs c) (hd : DrawOK2 c.P ops qs ord idx pos sep) (ht : ∀ q, q < ops.size → Trace2 c N ops qs base (idx q) (frs q) (hs q) (frs (q + 1)) (hs (q + 1))) (hb : (hs 0).next = base + ops.size) {ρ0 : Rho} {h0 : AH} {w0 : World} {listed : Array Bool} {a : Act} {w : World} {ρ : Rho} {M : AH} {p : Nat}
    (inv : DInv2 D c N base ops ord pos frs hs ρ0 h0 w0 listed a w ρ p M) (hp : p < ops.size) (hl : ∀ o, ops[idx p]? = some o → cls c.P o.op = 2 → isNew o.op = true ∧ listed.getD (idx p) false = true) : DInv2 D c N base ops ord pos frs hs ρ0 h0 w0 listed a w ρ (p + 1) M := by
  obtain ⟨o, ho, hcase⟩ := t_step hA (ht p hp)
  obtain ⟨hip, hpi⟩ := hd.ip p hp
  have hlt : ∀ {i : Nat} {oi : Oper}, ops[i]? = some oi → i < ops.size := fun h => (Array.getElem?_eq_some_iff.1 h).1
  have hposne : ∀ i, i < ops.size → pos i = p → i = idx p := fun i hi e => by rw [← e, (hd.pi i hi).2]
  have hn0 := (t_next_le hA ht (Nat.zero_le p) (Nat.le_of_lt hp)).1
  have hnx : (hs (p + 1)).next = (hs p).next := by
    rcases hcase with h | ⟨_, _, k, h, _⟩ | ⟨hc, hn, _⟩
    · rw [h]
    · rw [h]; rfl
    · have := (hl o ho hc).1; rw [hn] at this; cases this
  have hget : ∀ b, b ≠ base + idx p ∨ isNew o.op = false → (hs (p + 1)).get b = (hs p).get b := by
    intro b hb
    rcases hcase with h | ⟨_, hn, k, h, _⟩ | ⟨hc, hn, _⟩
    · rw [h]
    · rw [h, AH.get_at, if_neg (hb.resolve_right (by rw [hn]; simp))]
    · have := (hl o ho hc).1; rw [hn] at this; cases this
  refine ⟨inv.size, inv.down, hp, ?_, ?_, by rw [hnx]; exact inv.next, ?_, ?_, inv.newU, ?_, inv.low, inv.heap, inv.step, inv.gok, inv.slots, inv.tmps, inv.defers⟩
  · intro i oi hi hc hn
    rw [inv.spine i oi hi hc hn]
    refine ⟨fun h => by omega, fun h => ?_⟩
    by_cases e : pos i = p
    · exfalso
      have e2 := hposne i (hlt hi) e
      rw [e2, ho] at hi
      cases hi
      have := (hl o ho hc).1
      rw [hn] at this; cases this
    · omega
  · intro i oi hi hn h
    by_cases e : pos i = p
    · have e2 := hposne i (hlt hi) e
      rw [e2, ho] at hi
      cases hi
      rw [e2]
      exact (hl o ho (isNew_cls hn).1).2
    · exact inv.below i oi hi hn (by omega)
  · intro b hb'
    by_cases hbi : b = base + idx p ∧ isNew o.op = true
    · obtain ⟨rfl, hn⟩ := hbi
      have := inv.newL (idx p) o ho hn (by omega) (hl o ho (isNew_cls hn).1).2
      rw [this, hpi]
    · have hor : b ≠ base + idx p ∨ isNew o.op = false := by
        by_cases e : b = base + idx p
        · right
          cases hh : isNew o.op with
          | false => rfl
          | true => exact absurd ⟨e, hh⟩ hbi
        · exact .inl e
      rw [hget b hor]
      refine inv.same b fun i oi hi hn hpos => ?_
      by_cases e : pos i = p
      · have e2 := hposne i (hlt hi) e
        rw [e2, ho] at hi
        cases hi
        rw [e2]
        exact hor.resolve_right (by rw [hn]; simp)
      · exact hb' i oi hi hn (by omega)
  · intro i oi hi hn hpos hli
    exact inv.newL i oi hi hn (by omega) hli
  · intro q hq b k hk
    by_cases hqp : q ≤ p
    · exact inv.lives q hqp b k hk
    · obtain rfl : q = p + 1 := by omega
      rw [hnx]
      by_cases e : b = base + idx p
      · omega
      · rw [hget b (.inl e)] at hk; exact inv.lives p (Nat.le_refl _) b k hk
theorem advance (hA : CAbs c) (hd : DrawOK2 c.P ops qs ord idx pos sep) (ht : ∀ q, q < ops.size → Trace2 c N ops qs base (idx q) (frs q) (hs q) (frs (q + 1)) (hs (q + 1))) (hb : (hs 0).next = base + ops.size) {ρ0 : Rho} {h0 : AH} {w0 : World} {listed : Array Bool} {a : Act} {w : World} {ρ : Rho} {M : AH} : ∀ (m : Nat) {p : Nat},
    DInv2 D c N base ops ord pos frs hs ρ0 h0 w0 listed a w ρ p M → p + m ≤ ops.size → (∀ q o, p ≤ q → q < p + m → ops[idx q]? = some o → cls c.P o.op = 2 → isNew o.op = true ∧ listed.getD (idx q) false = true) → DInv2 D c N base ops ord pos frs hs ρ0 h0 w0 listed a w ρ (p + m) M := by
  intro m
  induction m with
  | zero => intro p inv _ _; exact inv
  | succ m ih =>
    intro p inv hp hl
    have inv1 := advance1 hA hd ht hb inv (by omega) (fun o ho hc => hl p o (Nat.le_refl _) (by omega) ho hc)
    have inv2 := ih inv1 (by omega) (fun q o h1 h2 ho hc => hl q o (by omega) (by omega) ho hc)
    rw [show p + (m + 1) = p + 1 + m by omega]
    exact inv2
theorem all_listed2 {P : Program} (hd : DrawOK2 P ops qs ord idx pos sep) {listed : Array Bool} (hsz : listed.size = ops.size) (hr : Region.ready .any ops listed = []) : ∀ n i, i < ops.size → pos i < n → listed.getD i false = true := by
  intro n
  induction n with
  | zero => intro i _ h; omega
  | succ n ih =>
    intro i hi hlt
    cases hl : listed.getD i false with
    | true => rfl
    | false =>
      exfalso
      have : i ∈ Region.ready .any ops listed := (ready_iff hsz).2 ⟨hi, hl, fun o ho e he hb => by
        obtain ⟨h1, h2⟩ := hd.edge i o e ho he hb
        exact ih e.on h1 (by have := (hd.fwd e.on i hi h2).2; omega)⟩
      rw [hr] at this
      cases this
theorem frame_at2 {P : Program} (hd : DrawOK2 P ops qs ord idx pos sep) (ht : ∀ q, q < ops.size → Trace2 c N ops qs base (idx q) (frs q) (hs q) (frs (q + 1)) (hs (q + 1))) {listed : Array Bool} (hdown : ∀ i j, listed.getD j false = true → ord i j → listed.getD i false = true) {i : Nat} {o : Oper} (hi : i < ops.size) (ho : ops[i]? = some o) (hnl : listed.getD i false = false)
    (hpre : ∀ x, ord x i → listed.getD x false = true) {t d : Nat} (hlook : t ∈ o.looksAt ops) (hdle : d ≤ ops.size) (hdw : ∀ x ox, ops[x]? = some ox → ox.dst = some t → (listed.getD x false = true ↔ pos x < d)) : frs d t = frs (pos i) t := by
  have hwr : ∀ x ox, ops[x]? = some ox → ox.dst = some t → (pos x < pos i → pos x < d) ∧ (pos i ≤ pos x → d ≤ pos x) := by
    intro x ox hx hdst
    by_cases hxi : x = i
    · subst hxi
      refine ⟨fun h => absurd h (Nat.lt_irrefl _), fun _ => ?_⟩
      have h2 := hdw x ox hx hdst
      rw [hnl] at h2
      have : ¬ pos x < d := fun h => by have := h2.2 h; cases this
      omega
    · obtain ⟨s1, s2⟩ := hd.slot x i ox o t hx ho hxi hdst (.inl hlook)
      have hne : pos x ≠ pos i := fun e => hxi (by rw [← (hd.pi x (Array.getElem?_eq_some_iff.1 hx).1).2, e, (hd.pi i hi).2])
      refine ⟨fun h => (hdw x ox hx hdst).1 (hpre x (s1 h)), fun h => ?_⟩
      have hlt : pos i < pos x := by omega
      rcases Nat.lt_or_ge (pos x) d with hxd | hxd
      · have := hdown i x ((hdw x ox hx hdst).2 hxd) (s2 hlt)
        rw [hnl] at this; cases this
      · exact hxd
  have hpos := (hd.pi i hi).1
  rcases Nat.le_total d (pos i) with hle | hle
  · have := t_frame ht t (pos i - d) d (by omega) (fun q ox h1 h2 h3 h4 => by
      have hq := (hd.ip q (by omega)).2
      have := (hwr (idx q) ox h3 h4).1 (by omega); omega)
    rw [show d + (pos i - d) = pos i from by omega] at this
    exact this.symm
  · have := t_frame ht t (d - pos i) (pos i) (by omega) (fun q ox h1 h2 h3 h4 => by
      have hq := (hd.ip q (by omega)).2
      have := (hwr (idx q) ox h3 h4).2 (by omega); omega)
    rw [show pos i + (d - pos i) = d from by omega] at this
    exact this
open Classical in
set_option maxHeartbeats 4000000 in
theorem draw_wp2 {ro : Option Nat} {n : Nat} (hC : CSound c) (hX : XSound c) (hA : CAbs c) (hd : DrawOK2 c.P ops qs ord idx pos sep) (ht : ∀ q, q < ops.size → Trace2 c N ops qs base (idx q) (frs q) (hs q) (frs (q + 1)) (hs (q + 1))) (hb : (hs 0).next = base + ops.size) (hz : ∀ i, i < ops.size → (hs 0).get (base + i) = none)
    (hsep : ∀ i s oi v h2, ops[i]? = some oi → sep i s → sop c.P oi.op (evO c foFun (frs (pos i))) (hs (pos s)) = some (v, h2) → ∃ h3, sop c.P oi.op (evO c foFun (frs (pos i))) (hs (pos s + 1)) = some (v, h3))
    {Q : Exit → Act → World → Prop} {r : V × AH} {k : (Nat → V) → AH → Res} (hk : k (frs ops.size) (hs ops.size) = some r)
    {ρ0 : Rho} {h0 : AH} {w0 : World} (hr0 : HR ρ0 h0 w0) (h0b : h0.next = base) (hp : Post D c foFun N ρ0 h0 w0 r k (Q .normal)) : ∀ (fuel : Nat) (listed : Array Bool) (a : Act) (w : World) (ρ : Rho) (p : Nat) (M : AH),
    (listed.toList.filter (· == false)).length ≤ fuel → DInv2 D c N base ops ord pos frs hs ρ0 h0 w0 listed a w ρ p M → wpAnyIn (fen ro) n c.P .any ops Q fuel listed a w := by
  have hlt : ∀ {i : Nat} {oi : Oper}, ops[i]? = some oi → i < ops.size := fun h => (Array.getElem?_eq_some_iff.1 h).1
  have done : ∀ (listed : Array Bool) (a : Act) (w : World) (ρ : Rho) (p : Nat) (M : AH), DInv2 D c N base ops ord pos frs hs ρ0 h0 w0 listed a w ρ p M → Region.ready .any ops listed = [] → Q .normal a w := by
    intro listed a w ρ p M inv hr
    have hall : ∀ i, i < ops.size → listed.getD i false = true := fun i hi => all_listed2 hd inv.size hr _ i hi (hd.pi i hi).1
    have inv := advance hA hd ht hb (ops.size - p) inv (by have := inv.ple; omega) (fun q o h1 h2 ho hc => by
      have hq : q < ops.size := by have := inv.ple; omega
      obtain ⟨g1, g2⟩ := hd.ip q hq
      refine ⟨?_, hall _ g1⟩
      cases hn : isNew o.op with
      | true => rfl
      | false => have := (inv.spine (idx q) o ho hc hn).1 (hall _ g1); omega)
    rw [show p + (ops.size - p) = ops.size from by have := inv.ple; omega] at inv
    have hsame : ∀ b, M.get b = (hs ops.size).get b := fun b => inv.same b fun i o ho _ hle => by have := (hd.pi i (hlt ho)).1; omega
    refine hp (frs ops.size) (hs ops.size) a w ρ hk ?_ inv.tmps inv.defers inv.gok (inv.heap.forget inv.next fun b k hk => by rw [hsame]; exact hk) (inv.step.other (fun b _ => (hsame b).symm) (Nat.le_of_eq inv.next) inv.low)
    intro t
    obtain ⟨d, d1, d2, d3⟩ := inv.slots t
    have := t_frame ht t (ops.size - d) d (by omega) (fun q o h1 h2 ho hdst => by
      obtain ⟨g1, g2⟩ := hd.ip q (by omega)
      have := (d2 (idx q) o ho hdst).1 (hall _ g1)
      omega)
    rw [show d + (ops.size - d) = ops.size from by omega] at this
    show R ρ (frs ops.size t) _
    rw [this]
    exact d3
  intro fuel
  induction fuel with
  | zero =>
    intro listed a w ρ p M hf inv
    have hready : Region.ready .any ops listed = [] := by
      apply List.eq_nil_iff_forall_not_mem.2
      intro i hi
      obtain ⟨h1, h2, _⟩ := (ready_iff inv.size).1 hi
      have hnil : listed.toList.filter (· == false) = [] := List.eq_nil_of_length_eq_zero (by omega)
      have hmem : false ∈ listed.toList.filter (· == false) := by
        rw [List.mem_filter]
        refine ⟨?_, rfl⟩
        rw [Array.getD_eq_getD_getElem?, Array.getElem?_eq_getElem (by rw [inv.size]; exact h1), Option.getD_some] at h2
        rw [← h2]
        exact Array.mem_toList_iff.2 (Array.getElem_mem _)
      rw [hnil] at hmem
      cases hmem
    exact ⟨hready, done listed a w ρ p M inv hready⟩
  | succ fuel ih =>
    intro listed a w ρ p M hf inv
    refine ⟨done listed a w ρ p M inv, fun i hi => ?_⟩
    obtain ⟨hilt, hnl, hedges⟩ := (ready_iff inv.size).1 hi
    obtain ⟨hpos, hidx⟩ := hd.pi i hilt
    have htr := ht (pos i) hpos
    rw [hidx] at htr
    obtain ⟨o, ho, hcase⟩ := htr
    have hpre : ∀ x, ord x i → listed.getD x false = true := by
      intro x hx
      obtain ⟨e, he, hb, hor⟩ := hd.closed x i o ho hx
      have hl := hedges o ho e he hb
      rcases hor with rfl | hor
      · exact hl
      · exact inv.down x e.on hl hor
    have hislt : i < listed.size := by rw [inv.size]; exact hilt
    have hcount : ((listed.setIfInBounds i true).toList.filter (· == false)).length ≤ fuel := by
      have h1 : listed.toList[i]? = some false := by
        rw [Array.getD_eq_getD_getElem?, Array.getElem?_eq_getElem hislt, Option.getD_some] at hnl
        rw [Array.getElem?_toList, Array.getElem?_eq_getElem hislt, hnl]
      rw [Array.toList_setIfInBounds]
      have : ∀ (l : List Bool) (i : Nat), l[i]? = some false → ((l.set i true).filter (· == false)).length + 1 = (l.filter (· == false)).length := by
        intro l
        induction l with
        | nil => intro i h; simp at h
        | cons b l ihl =>
          intro i h
          cases i with
          | zero => simp at h; subst h; simp
          | succ i =>
            have := ihl i (by simpa using h)
            cases b <;> simp [List.set_cons_succ] <;> simpa using this
      have := this listed.toList i h1
      omega
    have hinj : ∀ x, x < ops.size → pos x = pos i → x = i := fun x hx e => by rw [← (hd.pi x hx).2, e, hidx]
    obtain ⟨p, inv, hturn⟩ : ∃ p, DInv2 D c N base ops ord pos frs hs ρ0 h0 w0 listed a w ρ p M ∧ (cls c.P o.op = 2 → isNew o.op = false → p = pos i) := by
      by_cases hc2 : cls c.P o.op = 2 ∧ isNew o.op = false
      · obtain ⟨hcl, hnn⟩ := hc2
        have hip : p ≤ pos i := by
          rcases Nat.lt_or_ge (pos i) p with h | h
          · have := (inv.spine i o ho hcl hnn).2 h; rw [hnl] at this; cases this
          · exact h
        refine ⟨pos i, ?_, fun _ _ => rfl⟩
        have := advance hA hd ht hb (pos i - p) inv (by omega) (fun q oq h1 h2 hq hc => by
          obtain ⟨g1, g2⟩ := hd.ip q (by omega)
          have hl := hpre (idx q) (hd.spine (idx q) i oq o hq ho hc hcl hnn (by omega))
          cases hnq : isNew oq.op with
          | true => exact ⟨rfl, hl⟩
          | false => have := (inv.spine (idx q) oq hq hc hnq).1 hl; omega)
        rwa [show p + (pos i - p) = pos i from by omega] at this
      · exact ⟨p, inv, fun h1 h2 => absurd ⟨h1, h2⟩ hc2⟩
    have hslot : ∀ t, t ∈ o.looksAt ops → R ρ (frs (pos i) t) (a.tmps.getD t undef) := by
      intro t hlook
      obtain ⟨d, d1, d2, d3⟩ := inv.slots t
      rw [← frame_at2 hd ht inv.down hilt ho hnl hpre hlook d1 d2]
      exact d3
    have hdown' : ∀ x j, (listed.setIfInBounds i true).getD j false = true → ord x j → (listed.setIfInBounds i true).getD x false = true := by
      intro x j hj hx
      rw [getD_set _ _ _ hislt] at hj ⊢
      by_cases hxi : x = i
      · rw [if_pos hxi]
      · rw [if_neg hxi]
        by_cases hji : j = i
        · subst hji; exact hpre x hx
        · rw [if_neg hji] at hj; exact inv.down x j hj hx
    have hslots' : ∀ (v : V) (u : Value) (ρ' : Rho), ρ.le ρ' → R ρ' v u → frs (pos i + 1) = putF foFun N (frs (pos i)) o.dst v → ∀ t : Nat, ∃ d, d ≤ ops.size ∧ (∀ x ox, ops[x]? = some ox → ox.dst = some t → ((listed.setIfInBounds i true).getD x false = true ↔ pos x < d)) ∧ R ρ' (frs d t) ((a.put o.dst u).tmps.getD t undef) := by
      intro v u ρ' hle hR hfr t
      by_cases hdst : o.dst = some t
      · refine ⟨pos i + 1, hpos, ?_, ?_⟩
        · intro x ox hx hxd
          rw [getD_set _ _ _ hislt]
          by_cases hxi : x = i
          · subst hxi; simp
          · rw [if_neg hxi]
            have hne : pos x ≠ pos i := fun e => hxi (hinj x (hlt hx) e)
            obtain ⟨s1, s2⟩ := hd.slot x i ox o t hx ho hxi hxd (.inr hdst)
            constructor
            · intro hl
              rcases Nat.lt_or_ge (pos x) (pos i) with h | h
              · omega
              · have := inv.down i x hl (s2 (by omega))
                rw [hnl] at this; cases this
            · intro h
              exact hpre x (s1 (by omega))
        · rw [hfr, hdst]
          by_cases htn : t < N
          · rw [putF_lt (frs (pos i)) v (by rw [Arr.blt_eq]; exact decide_eq_true htn)]
            unfold Act.put
            simp only [if_true, Array.getD_eq_getD_getElem?, Array.getElem?_setIfInBounds]
            rw [if_pos (by rw [inv.tmps]; exact htn)]
            exact hR
          · rw [putF_ge (frs (pos i)) v (by rw [Arr.blt_eq]; exact decide_eq_false htn)]
            obtain ⟨d, d1, d2, d3⟩ := inv.slots t
            rw [t_out ht htn (pos i) (Nat.le_of_lt hpos), ← t_out ht htn d d1]
            have := d3.mono hle
            rw [Array.getD_eq_getD_getElem?, Array.getElem?_eq_none (by rw [inv.tmps]; omega)] at this
            rw [Array.getD_eq_getD_getElem?, Array.getElem?_eq_none (by rw [put_size, inv.tmps]; omega)]
            exact this
      · obtain ⟨d, d1, d2, d3⟩ := inv.slots t
        refine ⟨d, d1, ?_, ?_⟩
        · intro x ox hx hxd
          rw [getD_set _ _ _ hislt]
          have hxi : x ≠ i := by
            rintro rfl
            rw [ho] at hx
            cases hx
            exact hdst hxd
          rw [if_neg hxi]
          exact d2 x ox hx hxd
        · have : (a.put o.dst u).tmps.getD t undef = a.tmps.getD t undef := by
            cases hdd : o.dst with
            | none => rfl
            | some dd =>
              simp only [Act.put, Array.getD_eq_getD_getElem?, Array.getElem?_setIfInBounds]
              rw [if_neg]
              intro he
              exact hdst (by rw [hdd, he])
          rw [this]
          exact d3.mono hle
    have hbn : ∀ q, q ≤ ops.size → ∀ x, x < ops.size → base + x < (hs q).next := fun q hq x hx => by
      have := (t_next_le hA ht (Nat.zero_le q) hq).1
      omega
    have hbM : ∀ x, x < ops.size → base + x < M.next := fun x hx => by rw [inv.next]; exact hbn p inv.ple x hx
    have keep : ∀ (v : V) (u : Value) (ρ' : Rho) (w' : World), R ρ' v u → frs (pos i + 1) = putF foFun N (frs (pos i)) o.dst v → HR ρ' M w' → Step ρ M w ρ' M w' → (cls c.P o.op = 2 → isNew o.op = true ∧ (hs (pos i + 1)).get (base + i) = none) → wpAnyIn (fen ro) n c.P .any ops Q fuel (listed.setIfInBounds i true) (a.put o.dst u) w' := by
      intro v u ρ' w' g1 hfr g2 g3 hno
      refine ih _ _ _ ρ' p M hcount ⟨by simpa using inv.size, hdown', inv.ple, ?_, ?_, inv.next, inv.same, ?_, ?_, inv.lives, inv.low, g2, Step.trans hr0 inv.step g3, inv.gok.mono g3.le, hslots' v u ρ' g3.le g1 hfr, by rw [put_size]; exact inv.tmps, by rw [put_defers]; exact inv.defers⟩
      · intro x ox hx hc hn
        rw [getD_set _ _ _ hislt, if_neg (by rintro rfl; rw [ho] at hx; cases hx; have := (hno hc).1; rw [hn] at this; cases this)]
        exact inv.spine x ox hx hc hn
      · intro x ox hx hn hlt'
        rw [getD_set _ _ _ hislt]
        split
        · rfl
        · exact inv.below x ox hx hn hlt'
      · intro x ox hx hn hle hl
        by_cases hxi : x = i
        · subst hxi
          rw [ho] at hx
          cases hx
          rw [(inv.newU x o ho hn hnl).1, (hno (isNew_cls hn).1).2]
        · rw [getD_set _ _ _ hislt, if_neg hxi] at hl
          exact inv.newL x ox hx hn hle hl
      · intro x ox hx hn hl
        rw [getD_set _ _ _ hislt] at hl
        split at hl
        · cases hl
        · obtain ⟨q1, q2⟩ := inv.newU x ox hx hn hl
          refine ⟨q1, fun L => ?_⟩
          cases hρ : ρ' (base + x) L with
          | none => rfl
          | some y =>
            have := (g3.abs (base + x) (hbM x (hlt hx)) q1).2 L y hρ
            rw [q2] at this; cases this
    have turn : cls c.P o.op = 2 → isNew o.op = false → ∀ (v : V) (u : Value) (ρ' : Rho) (w' : World), R ρ' v u → frs (pos i + 1) = putF foFun N (frs (pos i)) o.dst v → HR ρ' (hs (pos i + 1)) w' → Step ρ (hs (pos i)) w ρ' (hs (pos i + 1)) w' → wpAnyIn (fen ro) n c.P .any ops Q fuel (listed.setIfInBounds i true) (a.put o.dst u) w' := by
      intro hcl hnn v u ρ' w' g1 hfr g2 g3
      have hpe := hturn hcl hnn
      subst hpe
      have hpend : ∀ x, (∃ ox, ops[x]? = some ox ∧ isNew ox.op = true ∧ pos i < pos x) → (hs (pos i)).get (base + x) = none ∧ (hs (pos i + 1)).get (base + x) = none := fun x ⟨ox, hx, hn, hlt'⟩ => ⟨t_none hA hd ht hb hz x (hlt hx) _ (Nat.le_of_lt hlt'), t_none hA hd ht hb hz x (hlt hx) _ hlt'⟩
      have hnei : ∀ x ox, ops[x]? = some ox → isNew ox.op = true → x ≠ i ∧ pos x ≠ pos i := fun x ox hx hn => by
        have hxi : x ≠ i := by rintro rfl; rw [ho] at hx; cases hx; rw [hnn] at hn; cases hn
        exact ⟨hxi, fun e => hxi (hinj x (hlt hx) e)⟩
      obtain ⟨M', m1, m2, m3, m4⟩ := put_back (hs (pos i + 1)) M (Nat.min M.low (hs (pos i + 1)).low) base (fun x => ∃ ox, ops[x]? = some ox ∧ isNew ox.op = true ∧ pos i < pos x) (fun x hx => (hpend x hx).2) ops.size
      have hsub : ∀ b k, (hs (pos i)).get b = some k → M.get b = some k := by
        intro b k hk
        rw [inv.same b ?_]
        · exact hk
        · rintro x ox hx hn hle rfl
          rw [t_none hA hd ht hb hz x (hlt hx) _ hle] at hk; cases hk
      have hget' : ∀ b k, M'.get b = some k → (hs (pos i + 1)).get b = some k ∨ ((hs (pos i)).get b = none ∧ M.get b = some k ∧ k.ro = false) := by
        intro b k hk
        by_cases hb' : ∃ x, x < ops.size ∧ (∃ ox, ops[x]? = some ox ∧ isNew ox.op = true ∧ pos i < pos x) ∧ b = base + x
        · obtain ⟨x, hx, hpx, rfl⟩ := hb'
          rw [m3 x hx hpx] at hk
          refine .inr ⟨(hpend x hpx).1, hk, ?_⟩
          obtain ⟨ox, hox, hn, hlt'⟩ := hpx
          cases hl : listed.getD x false with
          | false => rw [(inv.newU x ox hox hn hl).1] at hk; cases hk
          | true =>
            rw [inv.newL x ox hox hn (Nat.le_of_lt hlt') hl] at hk
            exact t_ro hA hd ht hb hz hox hn hk
        · rw [m4 b (fun x hx hpx e => hb' ⟨x, hx, hpx, e⟩)] at hk
          exact .inl hk
      have hHR := HR.restore inv.heap hsub g3 g2 inv.next.symm m1 hget'
      have hb0 : ∀ b, b < h0.next → M.get b = (hs (pos i)).get b := fun b hlt' => inv.same b fun x _ _ _ _ e => by omega
      have s1 : Step ρ0 h0 w0 ρ ⟨(hs (pos i)).next, M.low, (hs (pos i)).m⟩ w := inv.step.other (fun b hlt' => (hb0 b hlt').symm) (Nat.le_of_eq inv.next) (Nat.le_refl _)
      have s3 := Step.trans hr0 s1 (g3.relow M.low)
      have s4 : Step ρ0 h0 w0 ρ' M' w' := s3.other (fun b hlt' => m4 b fun x _ _ e => by omega) (Nat.le_of_eq m1.symm) (Nat.le_of_eq m2)
      refine ih _ _ _ ρ' (pos i + 1) M' hcount ⟨by simpa using inv.size, hdown', hpos, ?_, ?_, m1, ?_, ?_, ?_, ?_, ?_, hHR, s4, inv.gok.mono g3.le, hslots' v u ρ' g3.le g1 hfr, by rw [put_size]; exact inv.tmps, by rw [put_defers]; exact inv.defers⟩
      · intro x ox hx hc hn
        rw [getD_set _ _ _ hislt]
        by_cases hxi : x = i
        · subst hxi; simp
        · have hne : pos x ≠ pos i := fun e => hxi (hinj x (hlt hx) e)
          rw [if_neg hxi, inv.spine x ox hx hc hn]
          constructor <;> (intro h; omega)
      · intro x ox hx hn hlt'
        rw [getD_set _ _ _ hislt]
        split
        · rfl
        · exact inv.below x ox hx hn (by have := (hnei x ox hx hn).2; omega)
      · intro b hb'
        exact m4 b fun x hx ⟨ox, hox, hn, hlt'⟩ => hb' x ox hox hn hlt'
      · intro x ox hx hn hle hl
        rw [getD_set _ _ _ hislt, if_neg (hnei x ox hx hn).1] at hl
        rw [m3 x (hlt hx) ⟨ox, hx, hn, hle⟩]
        exact inv.newL x ox hx hn (by omega) hl
      · intro x ox hx hn hl
        rw [getD_set _ _ _ hislt, if_neg (hnei x ox hx hn).1] at hl
        obtain ⟨q1, q2⟩ := inv.newU x ox hx hn hl
        have hlt' : pos i < pos x := by
          have h1 := (hnei x ox hx hn).2
          rcases Nat.lt_or_ge (pos x) (pos i) with h | h
          · have := inv.below x ox hx hn h; rw [hl] at this; cases this
          · omega
        refine ⟨by rw [m3 x (hlt hx) ⟨ox, hx, hn, hlt'⟩]; exact q1, fun L => ?_⟩
        cases hρ : ρ' (base + x) L with
        | none => rfl
        | some y =>
          have := (g3.abs (base + x) (hbn _ (Nat.le_of_lt hpos) x (hlt hx)) (hpend x ⟨ox, hx, hn, hlt'⟩).1).2 L y hρ
          rw [q2] at this; cases this
      · intro q hq b k hk
        by_cases hqp : q ≤ pos i
        · exact inv.lives q hqp b k hk
        · obtain rfl : q = pos i + 1 := by omega
          exact g2.lives b k hk
      · rw [m2]
        exact Nat.le_min.2 ⟨inv.low, (t_next_le hA ht (Nat.succ_le_of_lt hpos) (Nat.le_refl _)).2⟩
    unfold wpOpIn
    rw [ho]
    simp only
    have hwant : ∀ b, wantedV foFun ops o (frs (pos i)) = some b → Region.wanted o (yielded ops a.tmps) = b := by
      intro b hw
      let fr' : Nat → V := fun t => if t ∈ o.looksAt ops then frs (pos i) t else .bad
      have hfr' : FR foFun ρ fr' a.tmps := by
        intro t
        show R ρ (if t ∈ o.looksAt ops then frs (pos i) t else .bad) _
        by_cases hl : t ∈ o.looksAt ops
        · rw [if_pos hl]; exact hslot t hl
        · rw [if_neg hl]; trivial
      refine wantedV_sound (fo := foFun) hfr' ?_
      rw [← hw]
      unfold wantedV
      cases hg : o.guard with
      | none => rfl
      | some jb =>
        obtain ⟨j, b'⟩ := jb
        simp only
        cases hdd : (ops[j]?).bind (·.dst) with
        | none => rfl
        | some dd =>
          simp only
          have : foFun.get fr' dd = foFun.get (frs (pos i)) dd := by
            show (if dd ∈ o.looksAt ops then frs (pos i) dd else .bad) = _
            rw [if_pos (mem_guard hg hdd)]; rfl
          rw [this]
    rcases hcase with ⟨hw, hfr, hhp⟩ | ⟨hw, v, hstep, hfr⟩
    · rw [hwant false hw]
      simp only [Bool.false_eq_true, if_false]
      refine ⟨fun f _ => fen_fn ro f, ?_⟩
      by_cases hcl : cls c.P o.op = 2
      · cases hnn : isNew o.op with
        | true =>
          refine keep undefV undef ρ w (undefV_R ρ) hfr inv.heap (Step.refl ρ M w) fun _ => ⟨hnn, ?_⟩
          rw [hhp]
          exact t_none hA hd ht hb hz i hilt _ (Nat.le_refl _)
        | false =>
          have hpe := hturn hcl hnn
          have hH : HR ρ (hs (pos i)) w := inv.heap.forget (by rw [inv.next, hpe]) (fun b k hk => by
            rw [inv.same b ?_, hpe]
            · exact hk
            · rintro x ox hx hn hle rfl
              rw [t_none hA hd ht hb hz x (hlt hx) _ (by omega)] at hk; cases hk)
          exact turn hcl hnn undefV undef ρ w (undefV_R ρ) hfr (by rw [hhp]; exact hH) (by rw [hhp]; exact Step.refl ρ _ w)
      · exact keep undefV undef ρ w (undefV_R ρ) hfr inv.heap (Step.refl ρ M w) fun h => absurd h hcl
    · rw [hwant true hw]
      simp only [if_true]
      let ev' : Operand → V := fun x => if x ∈ o.op.operands.toList then evO c foFun (frs (pos i)) x else .bad
      have hev : ∀ x, R ρ (ev' x) (a.eval x) := by
        intro x
        show R ρ (if x ∈ o.op.operands.toList then evO c foFun (frs (pos i)) x else .bad) _
        by_cases hx : x ∈ o.op.operands.toList
        · rw [if_pos hx]
          cases x with
          | tmp t => exact hslot t (mem_looks hx)
          | const vv => exact absC_R ρ vv
          | global g =>
            simp only [evO]
            cases hG : c.G g with
            | none => trivial
            | some L =>
              obtain ⟨S, hS⟩ := inv.gok g L hG
              exact ⟨_, rfl, g, 0, S, hS, Int.le_refl _, rfl⟩
          | func f => exact ⟨_, _, rfl, rfl, rfl⟩
        · rw [if_neg hx]; trivial
      have hcx : ∀ x, x ∈ o.op.operands.toList → evO c foFun (frs (pos i)) x = ev' x := fun x hx => by
        show _ = if x ∈ o.op.operands.toList then evO c foFun (frs (pos i)) x else .bad
        rw [if_pos hx]
      cases hnn : isNew o.op with
      | true =>
        rw [stepN_new hnn, newAt_congr hnn hcx] at hstep
        obtain ⟨k, s, hk', hro, hrun, hN⟩ := newAt_spec (ρc := a.eval) hnn hev hstep
        obtain ⟨n1, n2⟩ := inv.newU i o ho hnn hnl
        obtain ⟨u, ρ', w', hsr, hRu, hHR, hSt, hle, hinv⟩ := at_sound inv.step inv.heap (hbM i hilt) (by omega) n1 n2 hN
        have hsem : o.semAt (fen ro).round a.eval = execOp a.eval o := Oper.semAt_eq _ _ _ fun cl hcl => by rw [hcl] at hnn; cases hnn
        refine ⟨fun f _ => fen_fn ro f, ?_⟩
        rw [hsem]
        have hval : (do pure (.value (← s)) : Sem Next).run c.P w = .ok (.value u) w' := by simp [Sem.run_bind, hsr, Sem.run_pure]
        rw [hrun w, hval, Oper.uponIn_value]
        have hpi : p ≤ pos i := by
          rcases Nat.lt_or_ge (pos i) p with h | h
          · have := inv.below i o ho hnn h; rw [hnl] at this; cases this
          · exact h
        refine ih _ _ _ ρ' p (M.at (base + i) k) hcount ⟨by simpa using inv.size, hdown', inv.ple, ?_, ?_, inv.next, ?_, ?_, ?_, inv.lives, ?_, hHR, hSt, inv.gok.mono hle, hslots' v u ρ' hle hRu hfr, by rw [put_size]; exact inv.tmps, by rw [put_defers]; exact inv.defers⟩
        · intro x ox hx hc hn
          rw [getD_set _ _ _ hislt, if_neg (by rintro rfl; rw [ho] at hx; cases hx; rw [hnn] at hn; cases hn)]
          exact inv.spine x ox hx hc hn
        · intro x ox hx hn hlt'
          rw [getD_set _ _ _ hislt]
          split
          · rfl
          · exact inv.below x ox hx hn hlt'
        · intro b hb'
          rw [AH.get_at, if_neg (hb' i o ho hnn hpi)]
          exact inv.same b hb'
        · intro x ox hx hn hle' hl
          rw [AH.get_at]
          by_cases hxi : x = i
          · subst hxi
            rw [if_pos rfl, hk', AH.get_at, if_pos rfl]
          · rw [getD_set _ _ _ hislt, if_neg hxi] at hl
            rw [if_neg (by omega)]
            exact inv.newL x ox hx hn hle' hl
        · intro x ox hx hn hl
          rw [getD_set _ _ _ hislt] at hl
          split at hl
          · cases hl
          · rename_i hxi
            obtain ⟨q1, q2⟩ := inv.newU x ox hx hn hl
            refine ⟨by rw [AH.get_at, if_neg (by omega)]; exact q1, fun L => ?_⟩
            cases hρ : ρ' (base + x) L with
            | none => rfl
            | some y =>
              rcases hinv _ _ _ hρ with e | e
              · omega
              · rw [q2] at e; cases e
        · have h1 := (t_next_le hA ht (Nat.succ_le_of_lt hpos) (Nat.le_refl _)).2
          rw [hk'] at h1
          exact Nat.le_min.2 ⟨inv.low, Nat.le_trans h1 (Nat.min_le_right _ _)⟩
      | false =>
        rw [stepN_old hnn, stepV_congr hcx] at hstep
        by_cases hcl : cls c.P o.op = 2
        · have hpe := hturn hcl hnn
          have hH : HR ρ (hs (pos i)) w := inv.heap.forget (by rw [inv.next, hpe]) (fun b k hk => by
            rw [inv.same b ?_, hpe]
            · exact hk
            · rintro x ox hx hn hle rfl
              rw [t_none hA hd ht hb hz x (hlt hx) _ (by omega)] at hk; cases hk)
          refine stepV_wpIn hC hX inv.gok hH hev hstep ?_
          intro u w' ρ' g1 g2 g3
          exact turn hcl hnn v u ρ' w' g1 hfr g2 g3
        · have hcall : isCall o.op = none := by
            cases hi : isCall o.op with
            | none => rfl
            | some cl => exact absurd (cls_call (by rw [hi]; rfl)) hcl
          have hconc : conc (c.hint o.op) (sop c.P o.op ev' (hs (pos i))) = some (v, hs (pos i + 1)) := by
            have := hstep
            unfold stepV at this
            rw [hcall] at this
            exact this
          have hsop : sop c.P o.op ev' (hs (pos i)) = some (v, hs (pos i + 1)) := conc_some hA.2.2 hconc
          obtain ⟨hsame, hmove⟩ := loud_same hcl hcall hsop
          have hsop' : sop c.P o.op ev' M = some (v, M) := by
            by_cases hc0 : cls c.P o.op = 0
            · exact hmove M fun h => absurd hc0 h
            have hread : ∀ q os, q < ops.size → ops[idx q]? = some os → cls c.P os.op = 2 → isNew os.op = false → ¬ ord (idx q) i → ¬ ord i (idx q) → ((isCall os.op).isSome = true ∧ qs (idx q) = true) ∨ (pos i < q ∧ sep i (idx q)) := fun q os hq hos hc hn h1 h2 => by
              have := hd.read i (idx q) o os ho hos (by rintro rfl; rw [ho] at hos; cases hos; exact hcl hc) hcl hc0 hc hn h2 h1
              rwa [(hd.ip q hq).2] at this
            rcases Nat.lt_or_ge (pos i) p with hle | hle
            · have chain : ∀ m, pos i + m ≤ p → sop c.P o.op ev' (hs (pos i + m)) = some (v, hs (pos i + m)) := by
                intro m
                induction m with
                | zero => intro _; rw [hsame] at hsop; exact hsop
                | succ m ihm =>
                  intro hm
                  have h0 := ihm (by omega)
                  have hple := inv.ple
                  have hq : pos i + m < ops.size := by omega
                  have hqi := (hd.ip (pos i + m) hq).2
                  obtain ⟨hs0, hmove0⟩ := loud_same hcl hcall h0
                  rw [show pos i + (m + 1) = pos i + m + 1 from rfl]
                  obtain ⟨os, hos, hh⟩ := t_step hA (ht (pos i + m) hq)
                  rcases hh with e | ⟨e1, e2, k, e3, _⟩ | ⟨e1, e2, e3, e4⟩
                  · rw [e]; exact h0
                  · refine hmove0 _ fun _ x b hbl hsome => ?_
                    rw [e3, AH.get_at, if_neg]
                    rintro rfl
                    rw [t_none hA hd ht hb hz (idx (pos i + m)) (hd.ip _ hq).1 (pos i + m) (by omega)] at hsome
                    cases hsome
                  · have hne : idx (pos i + m) ≠ i := fun e => by
                      rw [e, ho] at hos
                      cases hos
                      exact hcl e1
                    have hqne : pos i + m ≠ pos i := fun e => hne (by rw [e, hidx])
                    have hfw : ¬ ord (idx (pos i + m)) i := fun h => by
                      have := (hd.fwd (idx (pos i + m)) i hilt h).2
                      omega
                    have hunl : ¬ ord i (idx (pos i + m)) := fun h => by
                      have := inv.down i (idx (pos i + m)) ((inv.spine (idx (pos i + m)) os hos e1 e2).2 (by omega)) h
                      rw [hnl] at this; cases this
                    rcases hread (pos i + m) os hq hos e1 e2 hfw hunl with ⟨g1, g2⟩ | ⟨g1, g2⟩
                    · refine hmove0 _ fun _ x b hbl hsome => ?_
                      obtain ⟨kk, hkk⟩ := Option.isSome_iff_exists.1 hsome
                      exact e4 g1 g2 b (inv.lives _ (by omega) b kk hkk)
                    · have hcg := fun h => sop_congr (P := c.P) hcall hcx h
                      obtain ⟨h3, hh3⟩ := hsep i (idx (pos i + m)) o v _ ho g2 (by rw [hqi, hcg]; exact h0)
                      rw [hqi, hcg] at hh3
                      obtain ⟨hs3, _⟩ := loud_same hcl hcall hh3
                      rw [hs3] at hh3
                      exact hh3
              have hp := chain (p - pos i) (by omega)
              rw [show pos i + (p - pos i) = p from by omega] at hp
              obtain ⟨_, hmove1⟩ := loud_same hcl hcall hp
              refine hmove1 M fun _ x b hbl hsome => ?_
              refine inv.same b fun z oz hoz hnz hpz e => ?_
              subst e
              rw [t_none hA hd ht hb hz z (hlt hoz) p hpz] at hsome
              cases hsome
            refine hmove M ?_
            intro _ x b hbl hsome
            have hxo : x ∈ o.op.operands.toList := Classical.byContradiction fun h => by
              have : ev' x = .bad := if_neg h
              rw [this] at hbl; cases hbl
            have hbl' : blockOf (evO c foFun (frs (pos i)) x) = some b := by rw [hcx x hxo]; exact hbl
            obtain ⟨L, y, hρ⟩ : ∃ L y, ρ b L = some y := by
              have hR := hev x
              cases hx : ev' x <;> rw [hx] at hR hbl <;> simp only [blockOf, reduceCtorEq, Option.some.injEq] at hbl
              · obtain ⟨_, _, cb, sh, S, h1, _⟩ := hR; subst hbl; exact ⟨_, _, h1⟩
              · obtain ⟨cb, sh, S, cc, _, h1, _⟩ := hR; subst hbl; exact ⟨_, _, h1⟩
              · obtain ⟨cb, S, _, h1⟩ := hR; subst hbl; exact ⟨_, _, h1⟩
            have hbp : b < (hs p).next := by rw [← inv.next]; exact inv.heap.fresh _ _ _ hρ
            by_cases hnew : ∃ z oz, ops[z]? = some oz ∧ isNew oz.op = true ∧ p ≤ pos z ∧ b = base + z
            · obtain ⟨z, oz, hoz, hnz, hpz, rfl⟩ := hnew
              have hlz : listed.getD z false = true := by
                cases hl : listed.getD z false with
                | true => rfl
                | false => rw [(inv.newU z oz hoz hnz hl).2] at hρ; cases hρ
              have hzi : pos z < pos i := Nat.lt_of_not_le fun h => by
                rw [t_none hA hd ht hb hz z (hlt hoz) _ h] at hsome; cases hsome
              rw [inv.newL z oz hoz hnz hpz hlz]
              have := t_same hA ht (base + z) (pos i - (pos z + 1)) (pos z + 1) (by omega) (fun q os h1 h2 hos hc => by
                have hq : q < ops.size := by omega
                cases hn : isNew os.op with
                | true => exact .inl ⟨rfl, fun e => by
                    have hzq : z = idx q := by omega
                    have := (hd.ip q hq).2
                    rw [← hzq] at this
                    omega⟩
                | false =>
                  have hunl : ¬ ord (idx q) i := fun h => by
                    have := (inv.spine (idx q) os hos hc hn).1 (hpre _ h)
                    rw [(hd.ip q hq).2] at this
                    omega
                  have hfw : ¬ ord i (idx q) := fun h => by
                    have := (hd.fwd i (idx q) (hd.ip q hq).1 h).2
                    rw [(hd.ip q hq).2] at this
                    omega
                  rcases hread q os hq hos hc hn hunl hfw with ⟨g1, g2⟩ | ⟨g1, _⟩
                  · exact .inr (.inl ⟨rfl, g1, g2, hbn q (Nat.le_of_lt hq) z (hlt hoz)⟩)
                  · omega)
              rw [show pos z + 1 + (pos i - (pos z + 1)) = pos i from by omega] at this
              exact this.symm
            · rw [inv.same b (fun z oz hoz hnz hpz e => hnew ⟨z, oz, hoz, hnz, hpz, e⟩)]
              have := t_same hA ht b (pos i - p) p (by omega) (fun q os h1 h2 hos hc => by
                have hq : q < ops.size := by omega
                have hqi := (hd.ip q hq).2
                cases hn : isNew os.op with
                | true => exact .inl ⟨rfl, fun e => hnew ⟨idx q, os, hos, hn, by omega, e⟩⟩
                | false =>
                  have hunl : ¬ ord (idx q) i := fun h => by
                    have := (inv.spine (idx q) os hos hc hn).1 (hpre _ h)
                    omega
                  have hfw : ¬ ord i (idx q) := fun h => by
                    have := (hd.fwd i (idx q) (hd.ip q hq).1 h).2
                    omega
                  rcases hread q os hq hos hc hn hunl hfw with ⟨g1, g2⟩ | ⟨g1, _⟩
                  · exact .inr (.inl ⟨rfl, g1, g2, Nat.lt_of_lt_of_le hbp (t_next_le hA ht h1 (Nat.le_of_lt hq)).1⟩)
                  · omega)
              rw [show p + (pos i - p) = pos i from by omega] at this
              exact this.symm
          have hstep' : stepV c (qs i) o.op ev' M = some (v, M) := by
            unfold stepV
            rw [hcall]
            exact conc_of hA.2.2 hconc hsop'
          refine stepV_wpIn hC hX inv.gok inv.heap hev hstep' ?_
          intro u w' ρ' g1 g2 g3
          exact keep v u ρ' w' g1 hfr g2 g3 fun h => absurd h hcl
end
end Go.Proofs.YtcphjmgfgfjnpaaGreatDoor.Ev
namespace Go.Proofs.YtcphjmgfgfjnpaaGreatDoor.Ev
open Go
structure RC where
  l : List Nat
  p : List Nat
  s : List (Nat × List Nat)
def idxR (rc : Option RC) (q : Nat) : Nat := match rc with
  | none => q
  | some r => r.l.getD q 0
def posR (rc : Option RC) (i : Nat) : Nat := match rc with
  | none => i
  | some r => r.p.getD i 0
def spR (rc : Option RC) (s : Nat) : List Nat := match rc with
  | none => []
  | some r => (r.s.lookup s).getD []
def ordL (rc : Option RC) (n : Nat) : List Nat := match rc with
  | none => List.range n
  | some r => r.l
def lenR (rc : Option RC) (n : Nat) : Bool := match rc with
  | none => true
  | some r => Nat.beq r.l.length n
def stableB (ops : Array Oper) (rc : Option RC) (i : Nat) (oi : Oper) : Bool :=
  oi.op.operands.toList.all fun x => match x with
    | .tmp t => (List.range ops.size).all fun k => match ops[k]? with
      | some ok => !(ok.dst == some t) || Nat.blt (posR rc k) (posR rc i)
      | none => true
    | _ => true
def certB (P : Program) (ops : Array Oper) (B : Array Nat) (qm : Nat) (rc : Option RC) : Bool :=
  lenR rc ops.size && (List.range ops.size).all fun j => match ops[j]? with
    | none => false
    | some oj =>
      (Nat.blt (posR rc j) ops.size && Nat.beq (idxR rc (posR rc j)) j && Nat.blt (idxR rc j) ops.size && Nat.beq (posR rc (idxR rc j)) j) &&
      ((oj.after.toList.all fun e => !Region.binds .any e || Nat.blt e.on ops.size) && (B.getD j 0 == maskOf B oj) && Nat.blt (B.getD j 0) (2 ^ ops.size)) &&
      (List.range ops.size).all fun i => match ops[i]? with
        | none => false
        | some oi =>
          (!ordB B i j || Nat.blt (posR rc i) (posR rc j)) &&
          (Nat.beq i j ||
          ((match oi.dst with
            | none => true
            | some t => !names ops oj t || (if Nat.blt (posR rc i) (posR rc j) then ordB B i j else ordB B j i)) &&
           (!(cls P oi.op == 2 && cls P oj.op == 2 && !isNew oj.op && Nat.blt (posR rc i) (posR rc j)) || ordB B i j) &&
           (!(cls P oi.op == 1 && cls P oj.op == 2 && !isNew oj.op) || ordB B i j || ordB B j i || ((isCall oj.op).isSome && Nat.testBit qm j) || (Nat.blt (posR rc i) (posR rc j) && (spR rc j).contains i && stableB ops rc i oi))))
def sepR (ops : Array Oper) (rc : Option RC) (i s : Nat) : Prop := s < ops.size ∧ i ∈ spR rc s ∧ posR rc i < posR rc s ∧ ∃ oi, ops[i]? = some oi ∧ stableB ops rc i oi = true
theorem certB_ok {P : Program} {ops : Array Oper} {B : Array Nat} {qm : Nat} {rc : Option RC} (h : certB P ops B qm rc = true) : DrawOK2 P ops (fun i => Nat.testBit qm i) (fun i j => ordB B i j = true) (idxR rc) (posR rc) (sepR ops rc) ∧ lenR rc ops.size = true := by
  have lt : ∀ {i : Nat} {o : Oper}, ops[i]? = some o → i < ops.size := fun ho => (Array.getElem?_eq_some_iff.1 ho).1
  have bl : ∀ {a b : Nat}, Nat.blt a b = true ↔ a < b := fun {a b} => by rw [Arr.blt_eq]; simp
  unfold certB at h
  rw [Bool.and_eq_true] at h
  refine ⟨?_, h.1⟩
  have row : ∀ j oj, ops[j]? = some oj → (posR rc j < ops.size ∧ idxR rc (posR rc j) = j ∧ idxR rc j < ops.size ∧ posR rc (idxR rc j) = j) ∧ (∀ e ∈ oj.after.toList, Region.binds .any e = true → e.on < ops.size) ∧ B.getD j 0 = maskOf B oj ∧ B.getD j 0 < 2 ^ ops.size ∧
      ∀ i oi, ops[i]? = some oi → (ordB B i j = true → posR rc i < posR rc j) ∧ (i ≠ j →
      (∀ t, oi.dst = some t → names ops oj t = true → (if Nat.blt (posR rc i) (posR rc j) then ordB B i j else ordB B j i) = true) ∧ (cls P oi.op = 2 → cls P oj.op = 2 → isNew oj.op = false → posR rc i < posR rc j → ordB B i j = true) ∧
       (cls P oi.op = 1 → cls P oj.op = 2 → isNew oj.op = false → ordB B i j = true ∨ ordB B j i = true ∨ ((isCall oj.op).isSome = true ∧ Nat.testBit qm j = true) ∨ (posR rc i < posR rc j ∧ sepR ops rc i j))) := by
    intro j oj hj
    have hrow := h.2
    rw [List.all_eq_true] at hrow
    have hrow := hrow j (List.mem_range.2 (lt hj))
    rw [hj] at hrow
    simp only [Bool.and_eq_true] at hrow
    obtain ⟨⟨⟨⟨⟨a1, a2⟩, a3⟩, a4⟩, ⟨⟨b1, b2⟩, b3⟩⟩, h3⟩ := hrow
    refine ⟨⟨bl.1 a1, Nat.eq_of_beq_eq_true a2, bl.1 a3, Nat.eq_of_beq_eq_true a4⟩, fun e he hb => ?_, by simpa using b2, bl.1 b3, fun i oi hi => ?_⟩
    · rw [List.all_eq_true] at b1
      have := b1 e he
      simp only [hb, Bool.not_true, Bool.false_or] at this
      exact bl.1 this
    · rw [List.all_eq_true] at h3
      have := h3 i (List.mem_range.2 (lt hi))
      rw [hi] at this
      simp only [Bool.and_eq_true] at this
      obtain ⟨c1, c2⟩ := this
      refine ⟨fun ho => ?_, fun hne => ?_⟩
      · simp only [ho, Bool.not_true, Bool.false_or] at c1
        exact bl.1 c1
      · have hne' : Nat.beq i j = false := by
          cases hb : Nat.beq i j with
          | false => rfl
          | true => exact absurd (Nat.eq_of_beq_eq_true hb) hne
        simp only [hne', Bool.false_or, Bool.and_eq_true] at c2
        obtain ⟨⟨g1, g2⟩, g3⟩ := c2
        simp only [Bool.or_eq_true, Bool.not_eq_true', Bool.and_eq_true] at g2 g3
        refine ⟨fun t ht hn => ?_, fun c1 c2 c3 hlt => ?_, fun c1 c2 c3 => ?_⟩
        · rw [ht] at g1
          simpa only [hn, Bool.not_true, Bool.false_or] using g1
        · rcases g2 with g2 | g2
          · rw [c1, c2, c3, bl.2 hlt] at g2
            simp at g2
          · exact g2
        · rcases g3 with (((g3 | g3) | g3) | g3) | g3
          · rw [c1, c2, c3] at g3; simp at g3
          · exact .inl g3
          · exact .inr (.inl g3)
          · exact .inr (.inr (.inl g3))
          · obtain ⟨⟨q1, q2⟩, q3⟩ := g3
            exact .inr (.inr (.inr ⟨bl.1 q1, lt hj, by simpa using q2, bl.1 q1, oi, hi, q3⟩))
  have at' : ∀ {i : Nat}, i < ops.size → ops[i]? = some ops[i]! := fun {i} hi => by rw [Array.getElem?_eq_getElem hi, getElem!_pos ops i hi]
  refine ⟨fun q hq => (row q _ (at' hq)).1.2.2, fun i hi => ⟨(row i _ (at' hi)).1.1, (row i _ (at' hi)).1.2.1⟩, ?_, ?_, ?_, ?_, ?_, ?_⟩
  · intro j o e ho he hb
    obtain ⟨_, h1, h2, _⟩ := row j o ho
    refine ⟨h1 e he hb, ?_⟩
    unfold ordB
    rw [h2]
    have key : ∀ (l : List Edge) (s : Nat), (e ∈ l ∨ s.testBit e.on = true) → (l.foldl (fun s e => if Region.binds .any e then s ||| 2 ^ e.on ||| B.getD e.on 0 else s) s).testBit e.on = true := by
      intro l
      induction l with
      | nil => intro s h; exact h.resolve_left (by simp)
      | cons a l ih =>
        intro s h
        rw [List.foldl_cons]
        refine ih _ ?_
        rcases h with h | h
        · rcases List.mem_cons.1 h with rfl | h
          · right; rw [if_pos hb]; simp
          · exact .inl h
        · right
          split
          · simp [h]
          · exact h
    exact key _ _ (.inl he)
  · intro i j o ho hord
    have hm := (row j o ho).2.2.1
    unfold ordB at hord
    rw [hm] at hord
    rcases mask_bit B i _ _ hord with h1 | ⟨e, h1, h2, h3⟩
    · simp at h1
    · exact ⟨e, h1, h2, h3⟩
  · intro i j hj hord
    obtain ⟨_, _, _, h4, h5⟩ := row j _ (at' hj)
    have hi : i < ops.size := Nat.lt_of_not_le fun hle => by
      have : (B.getD j 0).testBit i = false := Nat.testBit_lt_two_pow (Nat.lt_of_lt_of_le h4 (Nat.pow_le_pow_right (by omega) hle))
      have hord' : (B.getD j 0).testBit i = true := hord
      rw [this] at hord'; cases hord'
    exact ⟨hi, (h5 i _ (at' hi)).1 hord⟩
  · intro i j oi oj t hi hj hne hdst hlook
    have hn : names ops oj t = true := names_iff hlook
    have := (((row j oj hj).2.2.2.2 i oi hi).2 hne).1 t hdst hn
    constructor
    · intro hlt
      rw [if_pos (bl.2 hlt)] at this
      exact this
    · intro hlt
      rw [if_neg (fun h => by have := bl.1 h; omega)] at this
      exact this
  · intro i j oi oj hi hj c1 c2 c3 hlt
    exact (((row j oj hj).2.2.2.2 i oi hi).2 (by rintro rfl; omega)).2.1 c1 c2 c3 hlt
  · intro i s oi os hi hs hne c1 c2 c3 c4 h1 h2
    have hc : cls P oi.op = 1 := by rcases cls_le P oi.op with h | h | h <;> omega
    rcases (((row s os hs).2.2.2.2 i oi hi).2 hne).2.2 hc c3 c4 with h | h | h | h
    · exact absurd h h1
    · exact absurd h h2
    · exact .inl h
    · exact .inr h
def tgt : Op → Option Operand
  | .store _ x _ => some x
  | .mapUpdate _ m _ _ => some m
  | _ => none
def sepOK (t : V) (xs : List V) : Bool := match blockOf t with
  | some b => xs.all fun x => match blockOf x with
    | some b' => !Nat.beq b' b
    | none => true
  | none => false
end Go.Proofs.YtcphjmgfgfjnpaaGreatDoor.Ev
namespace Go.Proofs.YtcphjmgfgfjnpaaGreatDoor.Ev
open Go
noncomputable def orUndef (o : Option V) : V := Option.rec .bad (fun v => v) o
theorem orUndef_eq (o : Option V) : orUndef o = o.getD .bad := by cases o <;> rfl
noncomputable def iniT (l : List V) : Nat → T V → T V := List.rec (fun _ t => t) (fun v _ ih i t => ih (Nat.succ i) (t.set i v)) l
theorem iniT_cons (v : V) (l : List V) (k : Nat) (t : T V) : iniT (v :: l) k t = iniT l (k + 1) (t.set k v) := rfl
theorem get_iniT : ∀ (l : List V) (k : Nat) (t : T V) (i : Nat), (iniT l k t).get i = if k ≤ i ∧ i < k + l.length then l[i - k]? else t.get i := by
  intro l
  induction l with
  | nil => intro k t i; rw [if_neg (by simp only [List.length_nil]; omega)]; rfl
  | cons v l ih =>
    intro k t i
    rw [iniT_cons, ih, T.get_set]
    by_cases h1 : k + 1 ≤ i ∧ i < k + 1 + l.length
    · rw [if_pos h1, if_pos (by simp only [List.length_cons]; omega), show i - k = (i - (k + 1)) + 1 from by omega, List.getElem?_cons_succ]
    · rw [if_neg h1]
      by_cases h2 : i = k
      · subst h2; rw [if_pos rfl, if_pos (by simp only [List.length_cons]; omega)]; simp
      · rw [if_neg h2, if_neg (by simp only [List.length_cons]; omega)]
noncomputable def seen (v : V) (K : V → Option (V × AH)) : Option (V × AH) := V.casesOn (motive_1 := fun _ => Option (V × AH)) v (K .bad) (fun b => K (.bool b)) (fun k n => K (.int k n)) (fun s => K (.str s)) (fun a => K (.ptr a)) (K .nilptr) (fun a n c e z => K (.slice a n c e z)) (K .nilslice) (K .loose) (fun f x y => K (.func f x y)) (K .nilFunc)
  (fun t v => K (.iface t v)) (K .nilIface) (fun c => K (.agg c)) (fun c => K (.tuple c)) (fun b => K (.mapv b)) (K .nilmap) (fun k a b => K (.complex k a b)) (fun k a => K (.float k a)) (fun b => K (.yield b)) (fun f p a b => K (.rcd f p a b))
theorem seen_eq (v : V) (K : V → Option (V × AH)) : seen v K = K v := by cases v <;> rfl
noncomputable def keepT (f : T V) (K : T V → Option (V × AH)) (l : List Nat) : T V → Option (V × AH) := List.rec (fun t => K t) (fun i _ ih t => seen (orUndef (f.get i)) fun v => ih (t.set i v)) l
theorem keepT_spec (f : T V) (K : T V → Option (V × AH)) : ∀ (l : List Nat) (t : T V), (∀ i, orUndef (t.get i) = orUndef (f.get i) ∨ orUndef (t.get i) = .bad) → ∃ t', keepT f K l t = K t' ∧ ∀ i, orUndef (t'.get i) = orUndef (f.get i) ∨ orUndef (t'.get i) = .bad := by
  intro l
  induction l with
  | nil => intro t h; exact ⟨t, rfl, h⟩
  | cons i l ih =>
    intro t h
    have e : keepT f K (i :: l) t = seen (orUndef (f.get i)) fun v => keepT f K l (t.set i v) := rfl
    rw [e, seen_eq]
    refine ih _ fun j => ?_
    rw [T.get_set]
    by_cases hj : j = i
    · subst hj; rw [if_pos rfl]; exact .inl rfl
    · rw [if_neg hj]; exact h j
noncomputable def foKeep (lv : Nat → Option (List Nat)) : FO where
  F := T V
  get := fun f i => orUndef (f.get i)
  set := fun f i v => f.set i v
  ini := fun l => iniT l 0 .leaf
  keepK := fun key f K => Option.rec (K f) (fun l => keepT f K l .leaf) (lv key)
  keepK_spec := fun key f K => by
    cases lv key with
    | none => exact .inr ⟨f, rfl, fun _ => .inl rfl⟩
    | some l => exact .inr (keepT_spec f K l .leaf fun i => .inr (by rw [T.get_leaf]; rfl))
  get_set := fun f i j v => by
    rw [T.get_set]
    by_cases h : j = i
    · rw [if_pos h, if_pos h]; rfl
    · rw [if_neg h, if_neg h]
  get_ini := fun l i => by
    rw [get_iniT, List.getD_eq_getElem?_getD, orUndef_eq]
    by_cases hi : i < l.length
    · rw [if_pos (by omega), Nat.sub_zero]
    · rw [if_neg (by omega), T.get_leaf, List.getElem?_eq_none (by omega)]
noncomputable def foTrie : FO := foKeep fun _ => none
structure Env where
  P : Program
  G : Nat → Option Nat
  X : FuncId → List V → AH → Option (V × AH)
  I : FuncId → Option (List V → AH → Option (V × AH))
  fo : FuncId → FO
  fuel : Nat
  hint : Op → Option (Int × (Int → Bool)) := fun _ => none
noncomputable def runC (E : Env) : Nat → FuncId → List V → AH → Option (V × AH)
  | 0, _, _, _ => none
  | n + 1, f, args, h =>
    match E.I f with
    | some g => g args h
    | none => execFn ⟨E.P, E.G, runC E n, E.X, E.hint⟩ (E.fo f) E.fuel f args h
noncomputable def Env.cfg (E : Env) (n : Nat) : Cfg := ⟨E.P, E.G, runC E n, E.X, E.hint⟩
theorem runOps_astep {c : Cfg} (hA : CAbs c) {fo : FO} {N : Nat} {ops : Array Oper} {qs : Nat → Bool} {r : V × AH} {k : fo.F → AH → Res} (hk : ∀ fr h, k fr h = some r → AStep h r.2) : ∀ (l : List Nat) (fr : fo.F) (h : AH), runOps c fo N ops qs l fr h k = some r → AStep h r.2 := by
  intro l
  induction l with
  | nil => intro fr h he; exact hk fr h he
  | cons i is ih =>
    intro fr h he
    unfold runOps at he
    split at he
    · exact ih fr h he
    · split at he
      · cases he
      · exact ih _ h he
      · split at he
        · cases he
        · rename_i v h' hs
          exact (stepV_astep hA hs).1.trans (ih _ h' (look_some he))
theorem keep_astep {fo : FO} {r : V × AH} {k : fo.F → AH → Res} (hk : ∀ fr h, k fr h = some r → AStep h r.2) (key : Nat) : ∀ fr h, (fo.keepK key fr fun fr => k fr h) = some r → AStep h r.2 := by
  intro fr h he
  rcases fo.keepK_spec key fr (fun fr => k fr h) with e | ⟨f', e, _⟩
  · rw [e] at he; cases he
  · rw [e] at he; exact hk f' h he
theorem exec_astep {c : Cfg} (hA : CAbs c) {fo : FO} {N fuel : Nat} {r : V × AH} : ∀ (code : Code) (fr : fo.F) (h : AH) (k : Kont fo), (∀ fr h, k.norm fr h = some r → AStep h r.2) → (∀ id fr h, k.exit id fr h = some r → AStep h r.2) → (∀ fr h, k.ret fr h = some r → AStep h r.2) →
    exec c fo N fuel code fr h k = some r → AStep h r.2 := by
  intro code
  induction code with
  | skip => intro fr h k h1 h2 h3 he; exact h1 fr h he
  | label l => intro fr h k h1 h2 h3 he; exact h1 fr h he
  | exit id => intro fr h k h1 h2 h3 he; exact h2 id fr h he
  | ret => intro fr h k h1 h2 h3 he; exact h3 fr h he
  | region id ops draw =>
    intro fr h k h1 h2 h3 he
    unfold exec at he
    (repeat' split at he) <;> first | (cases he; done) | exact runOps_astep hA (keep_astep h1 _) _ fr h he
  | seq x y ihx ihy =>
    intro fr h k h1 h2 h3 he
    unfold exec at he
    refine ihx fr h { k with norm := if isRegion x then fun fr h => exec c fo N fuel y fr h k else fun fr h => fo.keepK (preKey y) fr fun fr => exec c fo N fuel y fr h k } ?_ h2 h3 he
    split
    · exact fun fr1 h1' he1 => ihy fr1 h1' k h1 h2 h3 he1
    · exact keep_astep (k := fun fr h => exec c fo N fuel y fr h k) (fun fr1 h1' he1 => ihy fr1 h1' k h1 h2 h3 he1) _
  | cond x p q ihp ihq =>
    intro fr h k h1 h2 h3 he
    unfold exec at he
    split at he
    · exact ihp fr h k h1 h2 h3 he
    · exact ihq fr h k h1 h2 h3 he
    · cases he
  | block id b ih =>
    intro fr h k h1 h2 h3 he
    unfold exec at he
    refine ih fr h { k with exit := fun id' fr h => if id' = id then k.norm fr h else k.exit id' fr h } h1 ?_ h3 he
    intro id' fr1 h1' he1
    simp only at he1
    split at he1
    · exact h1 fr1 h1' he1
    · exact h2 id' fr1 h1' he1
  | loop b ih =>
    intro fr h k h1 h2 h3 he
    unfold exec at he
    have key : ∀ (m : Nat) (fr : fo.F) (h : AH), loopN fo.F m (fun fr h n => fo.keepK (preKey b) fr fun fr => exec c fo N fuel b fr h { k with norm := n }) fr h = some r → AStep h r.2 := by
      intro m
      induction m with
      | zero => intro fr h he; cases he
      | succ m ihm =>
        intro fr h he
        exact keep_astep (k := fun fr h => exec c fo N fuel b fr h { k with norm := loopN fo.F m (fun fr h n => fo.keepK (preKey b) fr fun fr => exec c fo N fuel b fr h { k with norm := n }) })
          (fun fr1 h1' he1 => ih fr1 h1' { k with norm := loopN fo.F m (fun fr h n => fo.keepK (preKey b) fr fun fr => exec c fo N fuel b fr h { k with norm := n }) } ihm h2 h3 he1) _ fr h he
    exact key fuel fr h he
  | rangeFunc f ps x y _ _ => intro fr h k _ _ _ he; cases he
  | scope b _ => intro fr h k _ _ _ he; cases he
  | goto l => intro fr h k _ _ _ he; cases he
  | refuse s => intro fr h k _ _ _ he; cases he
theorem execFn_astep {c : Cfg} (hA : CAbs c) {fo : FO} {fuel : Nat} {f : FuncId} {args : List V} {h h' : AH} {v : V} (hs : execFn c fo fuel f args h = some (v, h')) : AStep h h' := by
  unfold execFn at hs
  split at hs
  case h_1 => cases hs
  split at hs
  case h_1 => cases hs
  split at hs
  case isFalse => cases hs
  have hfin : ∀ fn fr h1, fin c fo fn fr h1 = some (v, h') → AStep h1 h' := by
    intro fn fr h1 he
    unfold fin at he
    obtain ⟨vs, _, h2⟩ := map_some he
    cases h2
    exact AStep.refl _
  exact exec_astep hA (r := (v, h')) _ _ _ _ (hfin _) (fun id fr h he => by cases he) (hfin _) hs
structure Env.OK (E : Env) : Prop where
  mixed : E.P.follows .mixedOrders = true
  xsound : XRun ⟨E.P, E.G, fun _ _ _ => none, E.X, fun _ => none⟩
  xabs : ∀ f args h v h', E.X f args h = some (v, h') → AStep h h'
  isound : ∀ f g, E.I f = some g → ∀ (ρ : Rho) (h : AH) (w : World) (args : List V) (args' : List Value) (v : V) (h' : AH), GOK ⟨E.P, E.G, fun _ _ _ => none, E.X, fun _ => none⟩ ρ → HR ρ h w → RL ρ args args' → g args h = some (v, h') →
    Calls E.P f args'.toArray w fun e w' => ∃ u ρ', e = .returned u ∧ R ρ' v u ∧ HR ρ' h' w' ∧ Step ρ h w ρ' h' w'
  iabs : ∀ f g, E.I f = some g → ∀ args h v h', g args h = some (v, h') → AStep h h'
  hints : ∀ o m, E.hint o = some m → ∀ x, m.2 x = true → x = m.1
theorem runC_ok {E : Env} (ok : E.OK) : ∀ n, CSound (E.cfg n) ∧ CAbs (E.cfg n) := by
  intro n
  induction n with
  | zero => exact ⟨fun ρ h w f args args' v h' _ _ _ hs => (by cases hs), ⟨fun f args h v h' hs => (by cases hs), ok.xabs, ok.hints⟩⟩
  | succ n ih =>
    constructor
    · intro ρ h w f args args' v h' hg hr hR hs
      have hs' : (match E.I f with | some g => g args h | none => execFn (E.cfg n) (E.fo f) E.fuel f args h) = some (v, h') := hs
      cases hI : E.I f with
      | some g => rw [hI] at hs'; exact ok.isound f g hI ρ h w args args' v h' hg hr hR hs'
      | none => rw [hI] at hs'; exact execFn_sound (c := E.cfg n) ih.1 ⟨ok.xsound, ok.hints⟩ ih.2 ok.mixed hg hr hR hs'
    · refine ⟨fun f args h v h' hs => ?_, ok.xabs, ok.hints⟩
      have hs' : (match E.I f with | some g => g args h | none => execFn (E.cfg n) (E.fo f) E.fuel f args h) = some (v, h') := hs
      cases hI : E.I f with
      | some g => rw [hI] at hs'; exact ok.iabs f g hI args h v h' hs'
      | none => rw [hI] at hs'; exact execFn_astep ih.2 hs'
theorem runC_sound {E : Env} (ok : E.OK) {n : Nat} {ρ : Rho} {h h' : AH} {w : World} {f : FuncId} {args : List V} {args' : List Value} {v : V} (hg : GOK (E.cfg n) ρ) (hr : HR ρ h w) (hR : RL ρ args args') (hs : runC E n f args h = some (v, h')) :
    Calls E.P f args'.toArray w fun e w' => ∃ u ρ', e = .returned u ∧ R ρ' v u ∧ HR ρ' h' w' ∧ Step ρ h w ρ' h' w' := (runC_ok ok n).1 ρ h w f args args' v h' hg hr hR hs
end Go.Proofs.YtcphjmgfgfjnpaaGreatDoor.Ev
namespace Go.Proofs.YtcphjmgfgfjnpaaGreatDoor.Ev
open Go
structure XRow where
  f : Nat
  e : Array Value → Sem Value
  g : List V → AH → Option (V × AH)
noncomputable def xOf (l : List XRow) (f : FuncId) (args : List V) (h : AH) : Option (V × AH) :=
  List.rec none (fun r _ ih => bif Nat.beq r.f f then r.g args h else ih) l
theorem xOf_cons (r : XRow) (l : List XRow) (f : FuncId) (args : List V) (h : AH) : xOf (r :: l) f args h = bif Nat.beq r.f f then r.g args h else xOf l f args h := rfl
structure XRow.OK (P : Program) (r : XRow) : Prop where
  fits : ∃ fn, P.funcs[r.f]? = some fn ∧ (fn.name == "runtime.NumGoroutine") = false ∧ fn.body.isNone = true ∧ Extern.findNext fn = none ∧ Extern.find fn = some r.e
  sound : ∀ (ρ : Rho) (h : AH) (w : World) (args : List V) (args' : List Value) (v : V) (h' : AH), HR ρ h w → RL ρ args args' → r.g args h = some (v, h') → Sim P ρ h w (r.e args'.toArray) v h'
  step : ∀ args h v h', r.g args h = some (v, h') → AStep h h'
theorem xOf_inv {l : List XRow} {f : FuncId} {args : List V} {h : AH} {x : V × AH} : xOf l f args h = some x → ∃ r ∈ l, r.f = f ∧ r.g args h = some x := by
  induction l with
  | nil => intro hx; cases hx
  | cons r l ih =>
    intro hx
    rw [xOf_cons] at hx
    cases hb : Nat.beq r.f f with
    | true => rw [hb] at hx; exact ⟨r, by simp, Nat.eq_of_beq_eq_true hb, hx⟩
    | false =>
      rw [hb] at hx
      obtain ⟨r', h1, h2, h3⟩ := ih hx
      exact ⟨r', by simp [h1], h2, h3⟩
theorem xOf_sound {c : Cfg} {l : List XRow} (hX : c.X = xOf l) (hl : ∀ r ∈ l, r.OK c.P) : XRun c := by
  intro ρ h w f args args' v h' hr hR hs
  rw [hX] at hs
  obtain ⟨r, h1, rfl, h3⟩ := xOf_inv hs
  obtain ⟨fn, g1, g2, g3, g4, g5⟩ := (hl r h1).fits
  obtain ⟨u, w', ρ', q1, q2, q3, q4⟩ := (hl r h1).sound ρ h w args args' v h' hr hR h3
  refine ⟨.value u, u, w', ρ', ?_, .inl rfl, q2, q3, q4⟩
  rw [run_callFunc_extern g1 g2 g3 g4 g5, q1]
  rfl
theorem xOf_astep {P : Program} {l : List XRow} (hl : ∀ r ∈ l, r.OK P) : ∀ f args h v h', xOf l f args h = some (v, h') → AStep h h' := by
  intro f args h v h' hs
  obtain ⟨r, h1, _, h3⟩ := xOf_inv hs
  exact (hl r h1).step args h v h' h3
noncomputable def bytesV (x : V) (h : AH) : Option (List Nat) :=
  match x with
  | .str s => some s
  | .nilslice => some []
  | .loose => some []
  | .slice a n _ _ _ => (readN h a n).bind toBytes
  | _ => none
theorem bytesV_sound {P : Program} {ρ : Rho} {h : AH} {w : World} {x : V} {a : Value} {l : List Nat} (hr : HR ρ h w) (hx : R ρ x a) (hs : bytesV x h = some l) :
    ∃ s : ByteArray, (Extern.Bytes.bytesOf a).run P w = .ok s w ∧ s.data.toList.map UInt8.toNat = l := by
  unfold bytesV at hs
  split at hs
  · cases hs; obtain ⟨t, rfl, ht⟩ := hx; exact ⟨t, rfl, ht⟩
  · cases hs; rw [show a = _ from hx]; exact ⟨.empty, rfl, rfl⟩
  · cases hs; obtain ⟨c, cc, rfl⟩ := hx; exact ⟨.empty, rfl, rfl⟩
  · rename_i p n _ _ _
    obtain ⟨cb, sh, S, cc, rfl, h1, h2, _⟩ := hx
    cases hread : readN h p n with
    | none => rw [hread] at hs; cases hs
    | some vs =>
      rw [hread] at hs
      simp only [Option.bind_some] at hs
      obtain ⟨us, hlen, hR, hcell⟩ := read_sound hr ⟨cb, sh, S, h1, h2, rfl⟩ hread
      obtain ⟨ns, g1, g2⟩ := toBytes_spec hs hR
      have hl : ns.length = n := by rw [← hlen, g1, List.length_map]
      have hrun := Lib.run_loadBytesX (P := P) w ns ⟨cb, ((p.o : Int) - sh).toNat, none⟩ .empty (fun j y hj => hcell j _ (by rw [g1, List.getElem?_map, hj]; rfl))
      rw [hl] at hrun
      refine ⟨_, hrun, ?_⟩
      have e : ByteArray.empty.data = #[] := rfl
      rw [e, g2, ← bytes_mod]
      simp [Lib.bytesOf]
  · cases hs
noncomputable def idxN (c : Nat) (l : List Nat) : Nat → Int := List.rec (fun _ => -1) (fun b _ ih i => bif Nat.beq b c then Int.ofNat i else ih (Nat.succ i)) l
theorem idxN_cons (c b : Nat) (l : List Nat) (i : Nat) : idxN c (b :: l) i = bif Nat.beq b c then (i : Int) else idxN c l (i + 1) := rfl
theorem idxN_eq (c : UInt8) : ∀ (t : List UInt8) (i : Nat), idxN c.toNat (t.map UInt8.toNat) i = if Lib.indexByte t c = -1 then -1 else Lib.indexByte t c + i := by
  intro t
  induction t with
  | nil => intro i; rfl
  | cons b t ih =>
    intro i
    rw [List.map_cons, idxN_cons, ih]
    have hge := Lib.indexByte_ge t c
    have hstep : Lib.indexByte (b :: t) c = if b == c then 0 else if Lib.indexByte t c == -1 then -1 else Lib.indexByte t c + 1 := rfl
    rw [hstep]
    by_cases hb : b = c
    · subst hb
      simp only [Nat.beq_refl, cond_true, beq_self_eq_true, if_true]
      rw [if_neg (by omega)]
      omega
    · have h1 : Nat.beq b.toNat c.toNat = false := by
        cases h : Nat.beq b.toNat c.toNat with
        | false => rfl
        | true => exact absurd (UInt8.toNat_inj.1 (Nat.eq_of_beq_eq_true h)) hb
      have h2 : (b == c) = false := by simpa using hb
      simp only [h1, h2, cond_false, Bool.false_eq_true, if_false, beq_iff_eq]
      by_cases h3 : Lib.indexByte t c = -1
      · simp only [h3, if_true]
      · simp only [h3, if_false]
        rw [if_neg (by omega)]
        push_cast
        omega
noncomputable def absIndexByte (args : List V) (h : AH) : Option (V × AH) :=
  match args with
  | [x, .int .u8 c] => (bytesV x h).map fun l => (.int .i64 (idxN (Nat.mod c.toNat 256) l 0), h)
  | _ => none
theorem indexByte_sound {P : Program} {ρ : Rho} {h h' : AH} {w : World} {args : List V} {args' : List Value} {v : V} (hr : HR ρ h w) (hR : RL ρ args args') (hs : absIndexByte args h = some (v, h')) : Sim P ρ h w (Extern.BytealgIndexByte.indexByte args'.toArray) v h' := by
  unfold absIndexByte at hs
  split at hs
  · rename_i x c
    obtain ⟨a, b, rfl, h1, h2⟩ := RL2 hR
    obtain ⟨l, g1, g2⟩ := map_some hs
    cases g2
    rw [show b = _ from h2]
    obtain ⟨s, q1, q2⟩ := bytesV_sound (P := P) hr h1 g1
    refine Sim.pure hr ⟨_, ?_, rfl⟩
    have hk := Lib.run_indexByteString (P := P) s c w
    change Sem.run P (do
      let b ← Extern.Bytes.bytesOf a
      let c ← Extern.Bytes.asByte (.int .u8 c)
      match (List.range b.size).find? fun i => b[i]! == c with
      | some i => pure (goInt i)
      | none => pure (goInt (-1))) w = _
    change Sem.run P (do
      let b ← Extern.Bytes.bytesOf (.string s)
      let c ← Extern.Bytes.asByte (.int .u8 c)
      match (List.range b.size).find? fun i => b[i]! == c with
      | some i => pure (goInt i)
      | none => pure (goInt (-1))) w = _ at hk
    simp only [Sem.run_bind, q1, Result.andThen] at hk ⊢
    simp only [Extern.Bytes.bytesOf, Sem.run_pure] at hk
    rw [hk]
    have hi := idxN_eq c.toNat.toUInt8 s.data.toList 0
    rw [q2] at hi
    have hc : c.toNat.toUInt8.toNat = Nat.mod c.toNat 256 := by simp; rfl
    rw [hc] at hi
    rw [hi]
    by_cases h3 : Lib.indexByte s.data.toList c.toNat.toUInt8 = -1
    · rw [if_pos h3, ← h3]
    · rw [if_neg h3]; simp
  · cases hs
noncomputable def cmpN (l : List Nat) : List Nat → Int := List.rec (fun m => List.rec 0 (fun _ _ _ => -1) m) (fun a _ ih m => List.rec 1 (fun b bs _ => bif Nat.blt a b then -1 else bif Nat.blt b a then 1 else ih bs) m) l
theorem cmpN_eq : ∀ (s t : List UInt8), cmpN (s.map UInt8.toNat) (t.map UInt8.toNat) = Lib.compareBytes s t := by
  intro s
  induction s with
  | nil => intro t; cases t <;> rfl
  | cons a s ih =>
    intro t
    cases t with
    | nil => rfl
    | cons b t =>
      show (bif Nat.blt a.toNat b.toNat then -1 else bif Nat.blt b.toNat a.toNat then 1 else cmpN (s.map UInt8.toNat) (t.map UInt8.toNat)) = _
      have hstep : Lib.compareBytes (a :: s) (b :: t) = if a < b then -1 else if b < a then 1 else Lib.compareBytes s t := rfl
      rw [ih, Arr.blt_eq, Arr.blt_eq, hstep]
      simp only [UInt8.lt_iff_toNat_lt]
      by_cases h1 : a.toNat < b.toNat
      · simp [h1]
      · by_cases h2 : b.toNat < a.toNat
        · simp [h1, h2]
        · simp [h1, h2]
noncomputable def absCompare (args : List V) (h : AH) : Option (V × AH) :=
  match args with
  | [x, y] =>
    match bytesV x h, bytesV y h with
    | some l, some m => some (.int .i64 (cmpN l m), h)
    | _, _ => none
  | _ => none
theorem compare_sound {P : Program} {ρ : Rho} {h h' : AH} {w : World} {args : List V} {args' : List Value} {v : V} (hr : HR ρ h w) (hR : RL ρ args args') (hs : absCompare args h = some (v, h')) : Sim P ρ h w (Extern.BytealgCompare.compare args'.toArray) v h' := by
  unfold absCompare at hs
  split at hs
  · rename_i x y
    obtain ⟨a, b, rfl, h1, h2⟩ := RL2 hR
    split at hs
    · rename_i l m g1 g2
      cases hs
      obtain ⟨s, q1, q2⟩ := bytesV_sound (P := P) hr h1 g1
      obtain ⟨t, q3, q4⟩ := bytesV_sound (P := P) hr h2 g2
      refine Sim.pure hr ⟨_, ?_, rfl⟩
      change Sem.run P (do pure (goInt (Extern.BytealgCompare.cmp (← Extern.Bytes.bytesOf a) (← Extern.Bytes.bytesOf b)))) w = _
      simp only [Sem.run_bind, q1, q3, Result.andThen, Sem.run_pure]
      rw [Lib.cmp_eq, ← cmpN_eq, q2, q4]
      rfl
    · cases hs
  · cases hs
def absSame (args : List V) (h : AH) : Option (V × AH) :=
  match args with
  | [x] => some (x, h)
  | _ => none
theorem same_sound {P : Program} {ρ : Rho} {h h' : AH} {w : World} {args : List V} {args' : List Value} {v : V} (hr : HR ρ h w) (hR : RL ρ args args') (hs : absSame args h = some (v, h')) : Sim P ρ h w (Extern.AbiNoEscape.same args'.toArray) v h' := by
  unfold absSame at hs
  split at hs
  · cases hs
    obtain ⟨a, rfl, h1⟩ := RL1 hR
    exact Sim.pure hr ⟨a, rfl, h1⟩
  · cases hs
theorem same_step : ∀ args h v h', absSame args h = some (v, h') → AStep h h' := by
  intro args h v h' hs
  unfold absSame at hs
  split at hs <;> cases hs
  exact AStep.refl _
theorem indexByte_step : ∀ args h v h', absIndexByte args h = some (v, h') → AStep h h' := by
  intro args h v h' hs
  unfold absIndexByte at hs
  split at hs
  · rw [map_some hs |>.choose_spec.2 |> Prod.mk.inj |>.2 |>.symm]; exact AStep.refl _
  · cases hs
theorem compare_step : ∀ args h v h', absCompare args h = some (v, h') → AStep h h' := by
  intro args h v h' hs
  unfold absCompare at hs
  (repeat' split at hs) <;> cases hs
  exact AStep.refl _
end Go.Proofs.YtcphjmgfgfjnpaaGreatDoor.Ev
namespace Go.Proofs.YtcphjmgfgfjnpaaGreatDoor.Ev
open Go Go.ChangeShapes Go.WideShapes Go.ChangeAt Go.RowKit
def Stays (W w : World) : Prop := W.keptBut w (fun _ => False) ∧ (∀ a : Addr, a.block < W.heap.size → w.frozen? a = W.frozen? a)
theorem keptBut_same {W w : World} (hos : w.os = W.os) (hout : w.output = W.output) (hb : ∀ i, i < W.heap.size → w.heap[i]? = W.heap[i]?) : W.keptBut w (fun _ => False) := by
  refine ⟨hos, hout, fun i hi => ?_⟩
  rw [hb i hi]
  cases W.heap[i]? with
  | none => rfl
  | some o =>
    cases o with
    | cells c t fr => exact ⟨rfl, rfl, rfl, fun _ _ => rfl⟩
    | map es clock => exact .inr ⟨rfl, rfl⟩
    | _ => rfl
theorem frozen_same {W w : World} {a : Addr} (h : w.heap[a.block]? = W.heap[a.block]?) : w.frozen? a = W.frozen? a := by
  unfold World.frozen?
  rw [h]
theorem Step.stays {ρ ρ' : Rho} {h h' : AH} {W w : World} (hs : Step ρ h W ρ' h' w) (hro : ∀ b k, h.get b = some k → k.ro = true) : Stays W w := by
  have hb : ∀ i, i < W.heap.size → w.heap[i]? = W.heap[i]? := fun i hi => hs.keep i hi (by
    rintro ⟨b, L, x, k, _, hk, hr⟩
    rw [hro b k hk] at hr
    cases hr)
  exact ⟨keptBut_same hs.os hs.output hb, fun a ha => frozen_same (hb _ ha)⟩
section
variable {H : Type} {enc : TypeId × Value → H} {P : Program}
theorem post_stays {f : Func} {s : ChangeSpec} {apart fresh handsOn again : Bool} {W W' : World} {args : Array Value} {v : Value} {ds gs : List (DataW H)} {before pa pv : List MemPlace}
    (hW : DataW.Whole enc P f.params.toList s.vars apart W args.toList ds gs before)
    (hres : ∀ (b : Nat) (sp : Nat → Bool) (hd : Bool), DataW.TrodAll enc P W' b sp hd f.resultTypes.toList (v.resultList f.resultTypes.size) (s.fn H (ds ++ gs)).results [])
    (hargs : ∀ sp : Nat → Bool, (∀ p ∈ before, sp p.block = true) → DataW.TrodAll enc P W' 0 sp true f.params.toList args.toList (s.fn H (ds ++ gs)).args pa)
    (hvars : ∀ sp : Nat → Bool, (∀ p ∈ before, sp p.block = true) → DataW.TrodVars enc P W' sp s.vars (s.fn H (ds ++ gs)).vars pv)
    (hps : before = pa ++ pv) (hst : Stays W W')
    (hok : ∀ (j : Nat) (t : TypeId) (r : Value), f.resultTypes[j]? = some t → (v.resultList f.resultTypes.size)[j]? = some r → Value.okWide P W' .any 0 t r) :
    s.post enc P f apart fresh handsOn again W args v W' := by
  have hlt := fun p hp => hW.lt p hp
  have hold : ∀ p ∈ before, (fun b => decide (b < W.heap.size)) p.block = true := fun p hp => by simpa using hlt p hp
  have hWhole := hW
  obtain ⟨_, _, _, _, _, hz, hn⟩ := hW
  refine ⟨ds, gs, before, [], pa, pv, hWhole, hres _ _ _, hargs _ hold, hvars _ hold, World.keptBut_mono (fun p hp => False.elim hp) hst.1, fun _ => ?_⟩
  refine ⟨hok, _, _, ([] ++ pa) ++ pv, ⟨[] ++ pa, pv, trodAll_append (hargs _ (fun _ _ => rfl)) (hres _ _ _), hvars _ (fun _ _ => rfl), rfl, ?_, ?_⟩, ?_⟩
  · intro b off hp
    have hm : MemPlace.cell b off ∈ before := by rw [hps]; simpa using hp
    have hb := hlt _ hm
    have := hst.2 ⟨b, off, none⟩ hb
    have hz' := hz b off hm
    first
      | exact this.trans hz'
      | (rw [hst.2 _ hb]; exact hz')
  · intro ha
    have := hn ha
    rw [hps] at this
    simpa using this
  · intro p hp _
    rw [hps]
    simpa using hp
end
structure Tab where
  g : Nat
  vs : List V
  e : Nat
structure Spot where
  cb : Nat
  off : Nat
  S : Nat
noncomputable def tabsT : List Tab → T Blk
  | [] => .leaf
  | t :: l => (tabsT l).set t.g ⟨Arr.ofList t.vs, 0, 0, true, t.e⟩
noncomputable def tabsH (n : Nat) (l : List Tab) : AH := ⟨n, n, tabsT l⟩
def tabOf (l : List Tab) (b : Nat) : Option Tab := l.find? fun t => t.g == b
def tabsRho (l : List Tab) (pl : Nat → Spot) : Rho := fun b L => match tabOf l b with
  | some t => if L = t.vs.length then some ((pl b).cb, -((pl b).off : Int), (pl b).S) else none
  | none => none
theorem tabsT_get : ∀ (l : List Tab) (b : Nat), (tabsT l).get b = (tabOf l b).map fun t => ⟨Arr.ofList t.vs, 0, 0, true, t.e⟩ := by
  intro l
  induction l with
  | nil => intro b; exact T.get_leaf b
  | cons t l ih =>
    intro b
    show ((tabsT l).set t.g _).get b = _
    rw [T.get_set, ih]
    unfold tabOf
    rw [List.find?_cons]
    by_cases h : b = t.g
    · subst h; simp
    · have : (t.g == b) = false := by simpa using fun e => h e.symm
      rw [if_neg h, this]
theorem tabOf_spec {l : List Tab} {b : Nat} {t : Tab} (h : tabOf l b = some t) : t ∈ l ∧ t.g = b := by
  unfold tabOf at h
  exact ⟨List.mem_of_find?_eq_some h, by simpa using List.find?_some h⟩
def Tab.Fits (t : Tab) (p : Spot) (W : World) : Prop := ∃ us lo hi, W.heap[p.cb]? = some (.cells us t.e (lo, hi)) ∧ us.size = p.S ∧ p.off + t.vs.length ≤ p.S ∧ ∀ ρ j v, t.vs[j]? = some v → ∃ u, us[p.off + j]? = some u ∧ R ρ v u
theorem tabsRho_inv {l : List Tab} {pl : Nat → Spot} {b L : Nat} {x : Nat × Int × Nat} (h : tabsRho l pl b L = some x) : ∃ t, tabOf l b = some t ∧ L = t.vs.length ∧ x = ((pl b).cb, -((pl b).off : Int), (pl b).S) := by
  unfold tabsRho at h
  split at h
  · rename_i t ht
    split at h
    · rename_i hL; cases h; exact ⟨t, ht, hL, rfl⟩
    · cases h
  · cases h
theorem tabsRho_of {l : List Tab} {pl : Nat → Spot} {b : Nat} {t : Tab} (h : tabOf l b = some t) : tabsRho l pl b t.vs.length = some ((pl b).cb, -((pl b).off : Int), (pl b).S) := by
  unfold tabsRho
  rw [h]
  simp
theorem tabsH_inv {n : Nat} {l : List Tab} {b : Nat} {k : Blk} (h : (tabsH n l).get b = some k) : ∃ t, tabOf l b = some t ∧ k = ⟨Arr.ofList t.vs, 0, 0, true, t.e⟩ := by
  have h' : (tabsT l).get b = some k := h
  rw [tabsT_get] at h'
  cases ht : tabOf l b with
  | none => rw [ht] at h'; cases h'
  | some t => rw [ht] at h'; exact ⟨t, rfl, (Option.some.inj h').symm⟩
theorem tabs_ro {n : Nat} {l : List Tab} : ∀ b k, (tabsH n l).get b = some k → k.ro = true := by
  intro b k h
  obtain ⟨t, _, rfl⟩ := tabsH_inv h
  rfl
theorem tabs_HR {n : Nat} {l : List Tab} {pl : Nat → Spot} {W : World} (hn : ∀ t ∈ l, t.g < n) (hf : ∀ t ∈ l, t.Fits (pl t.g) W) : HR (tabsRho l pl) (tabsH n l) W := by
  refine ⟨?_, ?_, ?_, ?_, ?_, ?_, fun b k hk ho => by obtain ⟨t, _, rfl⟩ := tabsH_inv hk; exact absurd (show 0 = 2 from ho.2) (by decide)⟩
  · intro b L x h
    obtain ⟨t, h1, _, _⟩ := tabsRho_inv h
    obtain ⟨h2, rfl⟩ := tabOf_spec h1
    exact hn t h2
  · intro b k h
    obtain ⟨t, h1, _⟩ := tabsH_inv h
    obtain ⟨h2, rfl⟩ := tabOf_spec h1
    exact hn t h2
  · intro b L cb x h
    obtain ⟨t, h1, _, h3⟩ := tabsRho_inv h
    cases h3
    obtain ⟨h2, rfl⟩ := tabOf_spec h1
    obtain ⟨us, lo, hi, g1, _⟩ := hf t h2
    exact (Array.getElem?_eq_some_iff.1 g1).1
  · intro b L b' L' cb x x' k _ _ hk hro
    rw [tabs_ro b k hk] at hro
    cases hro
  · intro b k L x hk h
    obtain ⟨t, h1, h2, _⟩ := tabsRho_inv h
    obtain ⟨t', h1', rfl⟩ := tabsH_inv hk
    rw [h1] at h1'
    cases h1'
    rw [Arr.ofList_n, h2]
    exact Nat.le_refl _
  · intro b k L cb sh S hk h _
    obtain ⟨t, h1, h2, h3⟩ := tabsRho_inv h
    cases h3
    obtain ⟨t', h1', rfl⟩ := tabsH_inv hk
    rw [h1] at h1'
    cases h1'
    obtain ⟨h4, rfl⟩ := tabOf_spec h1
    obtain ⟨us, lo, hi, g1, g2, g3, g4⟩ := hf t h4
    refine ⟨us, lo, hi, g1, g2, by omega, ?_, fun h5 => by cases h5⟩
    intro j v _ _ hv
    rw [Arr.get_ofList] at hv
    obtain ⟨u, q1, q2⟩ := g4 (tabsRho l pl) j v hv
    exact ⟨u, by rw [← q1]; congr 1; omega, q2⟩
theorem tab_fits {P : Program} {W : World} {name : String} {k : IntKind} {zs : List Int} {g : Nat} (h : Lib.TabIs P W name k zs) (hg : P.globalNamed name = some g) : ∃ e, Tab.Fits ⟨g, zs.map (V.int k), e⟩ ⟨g, 0, zs.length⟩ W := by
  unfold Lib.TabIs World.var? at h
  rw [hg] at h
  simp only [Option.bind_some] at h
  split at h
  · rename_i cs e fr hw
    obtain ⟨lo, hi⟩ := fr
    have hcs : cs = (zs.map fun z => Value.int k z).toArray := Option.some.inj h
    refine ⟨e, cs, lo, hi, hw, by rw [hcs]; simp, by simp, fun ρ j v hv => ?_⟩
    simp only [List.getElem?_map] at hv
    cases hz : zs[j]? with
    | none => rw [hz] at hv; cases hv
    | some z =>
      rw [hz] at hv
      cases hv
      refine ⟨.int k z, ?_, rfl⟩
      rw [hcs]
      simp only [Nat.zero_add, List.getElem?_toArray, List.getElem?_map, hz]
      rfl
  · cases h
structure Same (W w : World) : Prop where
  os : w.os = W.os
  tape : w.tape = W.tape
  output : w.output = W.output
  size : W.heap.size ≤ w.heap.size
  heap : ∀ i, i < W.heap.size → w.heap[i]? = W.heap[i]?
theorem Same.stays {W w : World} (h : Same W w) : Stays W w := ⟨keptBut_same h.os h.output h.heap, fun _ ha => frozen_same (h.heap _ ha)⟩
theorem Same.refl (W : World) : Same W W := ⟨rfl, rfl, rfl, Nat.le_refl _, fun _ _ => rfl⟩
theorem Same.trans {a b c : World} (x : Same a b) (y : Same b c) : Same a c := ⟨y.os.trans x.os, y.tape.trans x.tape, y.output.trans x.output, Nat.le_trans x.size y.size, fun i hi => (y.heap i (Nat.lt_of_lt_of_le hi x.size)).trans (x.heap i hi)⟩
theorem Step.same {ρ ρ' : Rho} {h h' : AH} {W w : World} (hs : Step ρ h W ρ' h' w) (hro : ∀ b k, h.get b = some k → k.ro = true) : Same W w :=
  ⟨hs.os, hs.tape, hs.output, hs.size, fun i hi => hs.keep i hi (by
    rintro ⟨b, L, x, k, _, hk, hr⟩
    rw [hro b k hk] at hr
    cases hr)⟩
theorem HR.same {ρ : Rho} {h : AH} {W w : World} (hr : HR ρ h W) (hs : Same W w) : HR ρ h w :=
  ⟨hr.fresh, hr.lives, fun b L cb x hx => Nat.lt_of_lt_of_le (hr.bound b L cb x hx) hs.size, hr.inj, hr.top, fun b k L cb sh S h1 h2 h3 => (hr.blk b k L cb sh S h1 h2 h3).mono (Rho.le_refl ρ) (hs.heap _ (hr.bound _ _ _ _ h2)), fun b k h1 ho => (hr.obj b k h1 ho).mono (Rho.le_refl ρ) fun cb S e => hs.heap _ (hr.bound _ _ _ _ e)⟩
theorem Same.step (ρ : Rho) (h : AH) {W w : World} (hs : Same W w) : Step ρ h W ρ h w :=
  ⟨Rho.le_refl ρ, fun b L c x hx _ => ⟨L, x, hx⟩, fun b k' hk' _ => ⟨k', hk', rfl⟩, Nat.le_refl _, hs.os, hs.tape, hs.output, hs.size, fun i hi _ => hs.heap i hi, Nat.le_refl _, fun _ _ _ => rfl, fun _ _ hb => ⟨hb, fun _ _ h => h⟩⟩
theorem tab_calls {E : Env} (ok : E.OK) {n f : Nat} {l : List Tab} {pl : Nat → Spot} {m : Nat} {W : World} {args : List V} {args' : List Value} {v : V} {h' : AH} (hn : ∀ t ∈ l, t.g < m) (hf : ∀ t ∈ l, t.Fits (pl t.g) W)
    (hg : ∀ g L, E.G g = some L → ∃ t, tabOf l g = some t ∧ t.vs.length = L ∧ (pl g).cb = g ∧ (pl g).off = 0) (hR : RL (tabsRho l pl) args args') (hrun : runC E n f args (tabsH m l) = some (v, h')) :
    Calls E.P f args'.toArray W fun e w => ∃ u ρ', e = .returned u ∧ R ρ' v u ∧ ((tabsRho l pl).le ρ' ∧ ∀ b L cb x, ρ' b L = some (cb, x) → cb < W.heap.size → ∃ L0 x0, tabsRho l pl b L0 = some (cb, x0)) ∧ HR ρ' h' w ∧ Same W w := by
  have hG : GOK (E.cfg n) (tabsRho l pl) := by
    intro g L hgl
    obtain ⟨t, h1, h2, h3, h4⟩ := hg g L hgl
    refine ⟨(pl g).S, ?_⟩
    rw [← h2, tabsRho_of h1, h3, h4]
    rfl
  refine (runC_sound ok (args' := args') hG (tabs_HR hn hf) hR hrun).mono ?_
  rintro e w ⟨u, ρ', rfl, h1, h2, h3⟩
  exact ⟨u, ρ', rfl, h1, ⟨h3.le, h3.cons⟩, h2, h3.same tabs_ro⟩
def isTrue (r : Option (V × AH)) : Bool := match r with | some (.bool true, _) => true | _ => false
end Go.Proofs.YtcphjmgfgfjnpaaGreatDoor.Ev
namespace Go.Proofs.YtcphjmgfgfjnpaaGreatDoor.Ev
open Go
theorem HR.drawn {ρ : Rho} {h : AH} {w : World} (hr : HR ρ h w) : HR ρ h { w with drawn := w.drawn + 1 } := ⟨hr.fresh, hr.lives, hr.bound, hr.inj, hr.top, fun b k L cb sh S h1 h2 h3 => (hr.blk b k L cb sh S h1 h2 h3).mono (Rho.le_refl ρ) rfl, fun b k h1 ho => (hr.obj b k h1 ho).mono (Rho.le_refl ρ) fun _ _ _ => rfl⟩
theorem Step.drawn (ρ : Rho) (h : AH) (w : World) : Step ρ h w ρ h { w with drawn := w.drawn + 1 } := ⟨Rho.le_refl ρ, fun b L c x hx _ => ⟨L, x, hx⟩, fun b k' hk' _ => ⟨k', hk', rfl⟩, Nat.le_refl _, rfl, rfl, rfl, Nat.le_refl _, fun _ _ _ => rfl, Nat.le_refl _, fun _ _ _ => rfl, fun _ _ hb => ⟨hb, fun _ _ h => h⟩⟩
noncomputable def manyStep (since last : Nat) (seen : List Nat) (l : List (V × V × Nat)) : Option (List (V × V × Nat)) :=
  if (!seen.isEmpty && !l.isEmpty && l.all (fun x => Nat.ble last x.2.2)) = true then none else
  match (l.filter fun x => !seen.contains x.2.2).filter (fun x => Nat.blt x.2.2 since), (l.filter fun x => !seen.contains x.2.2).filter (fun x => Nat.ble since x.2.2) with
  | a :: b :: cs, [] => some (a :: b :: cs)
  | _, _ => none
theorem manyStep_sound {ρ : Rho} {l : List (V × V × Nat)} {es : Array MapEntry} (hE : Ent ρ l es.toList) {since last : Nat} {seen : Array Nat} {cs : List (V × V × Nat)} (h : manyStep since last seen.toList l = some cs) :
    (!seen.isEmpty && !es.isEmpty && es.all (fun e => decide (e.born ≥ last))) = false ∧
    ∃ E : List MapEntry, Ent ρ cs E ∧ 2 ≤ E.length ∧ (if ((es.filter fun e => !seen.contains e.born).filter fun e => decide (e.born < since)).isEmpty = true then #[none] else #[]) ++ (((es.filter fun e => !seen.contains e.born).filter fun e => decide (e.born < since)) ++ ((es.filter fun e => !seen.contains e.born).filter fun e => decide (e.born ≥ since))).map some = (E.map some).toArray := by
  unfold manyStep at h
  have e1 : l.isEmpty = es.isEmpty := by rw [hE.empty, ← Array.isEmpty_toList]
  have e2 : l.all (fun x => Nat.ble last x.2.2) = es.all (fun e => decide (e.born ≥ last)) := by
    rw [hE.all (q := fun e => decide (e.born ≥ last)) (fun x e hx => by rw [hx, ble_dec]), ← Array.all_toList]
  have e3 : seen.toList.isEmpty = seen.isEmpty := Array.isEmpty_toList
  rw [e1, e2, e3] at h
  have f0 := hE.filter (p := fun x => !seen.toList.contains x.2.2) (q := fun e => !seen.contains e.born) (fun x e hx => by rw [hx]; simp)
  have f1 := f0.filter (p := fun x => Nat.blt x.2.2 since) (q := fun e => decide (e.born < since)) (fun x e hx => by rw [hx, Arr.blt_eq])
  have f2 := f0.filter (p := fun x => Nat.ble since x.2.2) (q := fun e => decide (e.born ≥ since)) (fun x e hx => by rw [hx, ble_dec])
  replace f1 : Ent ρ ((l.filter fun x => !seen.toList.contains x.2.2).filter fun x => Nat.blt x.2.2 since) ((es.filter fun e => !seen.contains e.born).filter fun e => decide (e.born < since)).toList := by
    rw [Array.toList_filter, Array.toList_filter]; exact f1
  replace f2 : Ent ρ ((l.filter fun x => !seen.toList.contains x.2.2).filter fun x => Nat.ble since x.2.2) ((es.filter fun e => !seen.contains e.born).filter fun e => decide (e.born ≥ since)).toList := by
    rw [Array.toList_filter, Array.toList_filter]; exact f2
  revert h f1 f2
  generalize ((es.filter fun e => !seen.contains e.born).filter fun e => decide (e.born < since)) = A
  generalize ((es.filter fun e => !seen.contains e.born).filter fun e => decide (e.born ≥ since)) = B
  generalize ((l.filter fun x => !seen.toList.contains x.2.2).filter fun x => Nat.blt x.2.2 since) = a
  generalize ((l.filter fun x => !seen.toList.contains x.2.2).filter fun x => Nat.ble since x.2.2) = b
  intro h f1 f2
  split at h
  · cases h
  · rename_i hc
    refine ⟨by simpa using hc, ?_⟩
    split at h
    · rename_i x y zs
      cases h
      have hB : B = #[] := Array.ext' (by simpa using f2.nil)
      subst hB
      obtain ⟨E⟩ := A
      refine ⟨E, f1, ?_, ?_⟩
      · match E, f1 with
        | _ :: _ :: _, _ => simp
      · match E, f1 with
        | p :: q :: E, _ => simp
    · cases h
theorem Ent.get {ρ : Rho} : ∀ {l : List (V × V × Nat)} {E : List MapEntry}, Ent ρ l E → ∀ {i : Nat}, i < E.length → ∃ x e, x ∈ l ∧ E[i]? = some e ∧ R ρ x.1 e.key ∧ R ρ x.2.1 e.val ∧ x.2.2 = e.born
  | [], [], _, i, hi => by simp at hi
  | x :: l, e :: E, ⟨h1, h2, h3, h4⟩, i, hi => by
    cases i with
    | zero => exact ⟨x, e, by simp, rfl, h1, h2, h3⟩
    | succ i =>
      obtain ⟨x', e', g1, g2⟩ := h4.get (i := i) (by simpa using hi)
      exact ⟨x', e', by simp [g1], by simpa using g2.1, g2.2⟩
noncomputable def nextL (x : V) (h : AH) : Option (List (V × AH)) :=
  match x with
  | .ptr a => if a.L = 0 ∧ a.o = 0 then
      match iterOf h a.b with
      | some (.mapv b, since, sv, last) =>
        match mapOf h b, natsV sv with
        | some (.int .i64 (.ofNat clock), data), some seen =>
          match trip data with
          | some l => (manyStep since last seen l).map fun cs => cs.map fun x => (.tuple [.bool true, x.1, x.2.1], h.put a.b (Blk.obj 3 [.mapv b, .int .i64 (.ofNat since), .tuple (sv ++ [.int .i64 (.ofNat x.2.2)]), .int .i64 (.ofNat clock)]))
          | none => none
        | _, _ => none
      | _ => none
    else none
  | _ => none
theorem run_mapNext {P : Program} {w : World} {n : Nat} (hn : 2 ≤ n) : ∃ i, i < n ∧ (choose (.mapNext n)).run P w = .ok i { w with drawn := w.drawn + 1 } := by
  refine ⟨w.tape w.drawn (.mapNext n) % n, Nat.mod_lt _ (by omega), ?_⟩
  have hf : (Question.mapNext n).forced = false := by simp [Question.forced]; omega
  simp [choose, Sem.run, hf, Question.cut]
theorem nextL_sound {P : Program} {ρ : Rho} {h : AH} {w : World} {ty : TypeId} {x : V} {a : Value} {l : List (V × AH)} (hr : HR ρ h w) (hx : R ρ x a) (hs : nextL x h = some l) : ∃ q ∈ l, Sim P ρ h w (Instr.next a false ty) q.1 q.2 := by
  unfold nextL at hs
  split at hs
  · rename_i q
    split at hs
    · rename_i hq
      obtain ⟨c, rfl, cb', sh, S', g1, g2, g3⟩ := hx
      split at hs
      · rename_i b since sv last hi
        obtain ⟨k, cb, S, m, seen, q1, q2, q3, q4, q5, q6⟩ := iterOf_spec hr hi
        rw [hq.1, q3] at g1
        cases g1
        rw [hq.2] at g3
        have hcc : c = ⟨cb', 0, none⟩ := by rw [g3]; rfl
        subst hcc
        obtain ⟨mb, Sm, hm, hρm⟩ := q6
        cases hm
        split at hs
        · rename_i clock data seen' hmo hsv
          rw [q5, natsV_of] at hsv
          cases hsv
          obtain ⟨kb, cb2, S2, es, clock', p1, p2, p3, p4, p5, p6⟩ := mapOf_spec hr hmo
          rw [hρm] at p3
          cases p3
          have hcl : clock' = clock := by
            have h6 : Value.int .i64 (clock' : Int) = .int .i64 (Int.ofNat clock) := p5
            exact Int.ofNat.inj (Value.int.inj h6).2
          subst hcl
          split at hs
          · rename_i l' ht
            obtain ⟨cs, hst, hl⟩ := map_some' hs
            subst hl
            obtain ⟨c1, E, hE, hlen, c2⟩ := manyStep_sound (trip_ent p6 ht) hst
            obtain ⟨i, hi1, hi2⟩ := run_mapNext (P := P) (w := w) (n := E.length) hlen
            obtain ⟨y, e, y1, y2, y3, y4, y5⟩ := hE.get hi1
            refine ⟨_, List.mem_map.2 ⟨y, y1, rfl⟩, ?_⟩
            have hr' := hr.drawn
            have hst' := Step.drawn ρ h w
            have hnew : ObjOK ρ 3 [.mapv b, .int .i64 (.ofNat since), .tuple (sv ++ [.int .i64 (.ofNat y.2.2)]), .int .i64 (.ofNat clock')] (some (.mapIter (some mb) since (seen.push e.born) clock')) :=
              ⟨some mb, since, seen.push e.born, clock', .mapv b, rfl, by rw [q5, y5, Array.toList_push, List.map_append]; rfl, mb, Sm, rfl, hρm⟩
            obtain ⟨o1, o2⟩ := obj_set hr' q1 q2 q3 3 _ _ hnew
            refine ⟨.tuple #[.bool true, e.key, e.val], _, ρ, ?_, ⟨_, rfl, RL_cons.2 ⟨rfl, RL_cons.2 ⟨y3, RL_cons.2 ⟨y4, RL_nil⟩⟩⟩⟩, o1, Step.trans hr hst' o2⟩
            unfold Instr.next
            simp only [Sem.run_bind, run_getIter q4, run_getMap p4, Result.andThen_ok, c1, Bool.false_eq_true, if_false, c2]
            have hsz : (E.map some).toArray.size = E.length := by simp
            have hget : (E.map some).toArray[i]? = some (some e) := by simp [y2]
            rw [hsz, hi2]
            simp only [Result.andThen_ok, hget]
            have hset := run_setIter (P := P) (w := { w with drawn := w.drawn + 1 }) (.mapIter (some mb) since (seen.push e.born) clock') q4
            simp only [Sem.run_bind, hset, Result.andThen_ok, Sem.run_pure]
          · cases hs
        · cases hs
      · cases hs
    · cases hs
  · cases hs
theorem nextL_astep {x : V} {h : AH} {l : List (V × AH)} (hs : nextL x h = some l) : ∀ q ∈ l, AStep h q.2 := by
  unfold nextL at hs
  split at hs
  · split at hs
    · split at hs
      · rename_i hi
        split at hs
        · split at hs
          · obtain ⟨cs, _, hl⟩ := map_some' hs
            subst hl
            intro q hq
            obtain ⟨y, _, rfl⟩ := List.mem_map.1 hq
            exact AStep.put _ _ _ (iterOf_isSome hi)
          · cases hs
        · cases hs
      · cases hs
    · cases hs
  · cases hs
def alikeH (h h' : AH) : Bool := Nat.beq h.next h'.next && (Nat.beq h.low h'.low && alikeT alikeB h.m h'.m)
theorem alikeH_eq {h h' : AH} (ha : alikeH h h' = true) : h = h' := by
  unfold alikeH at ha
  simp only [Bool.and_eq_true, Nat.beq_eq] at ha
  obtain ⟨a, b, m⟩ := h
  obtain ⟨a', b', m'⟩ := h'
  obtain ⟨h1, h2, h3⟩ := ha
  have h4 := alikeT_eq (fun _ _ => alikeB_eq) _ _ h3
  simp only at h1 h2 h4
  subst h1; subst h2; subst h4
  rfl
def alikeQ : Res → Res → Bool
  | some (v, h), some (v', h') => alikeV v v' && alikeH h h'
  | _, _ => false
theorem alikeQ_eq {x y : Res} {r : V × AH} (h : alikeQ x y = true) (hy : y = some r) : x = some r := by
  subst hy
  cases x with
  | none => cases h
  | some p =>
    obtain ⟨v, m⟩ := p
    obtain ⟨v', m'⟩ := r
    unfold alikeQ at h
    rw [Bool.and_eq_true] at h
    rw [alikeV_eq _ _ h.1, alikeH_eq h.2]
noncomputable def joinK (K : V × AH → Res) (p : V × AH) (ps : List (V × AH)) : Res := (fun r => bif ps.all (fun q => alikeQ (K q) r) then r else none) (K p)
theorem joinK_some {K : V × AH → Res} {p : V × AH} {ps : List (V × AH)} {r : V × AH} (h : joinK K p ps = some r) : ∀ q ∈ p :: ps, K q = some r := by
  unfold joinK at h
  simp only at h
  cases ha : ps.all (fun q => alikeQ (K q) (K p)) with
  | false => rw [ha] at h; cases h
  | true =>
    rw [ha] at h
    intro q hq
    rcases List.mem_cons.1 hq with rfl | hq
    · exact h
    · exact alikeQ_eq (List.all_eq_true.1 ha q hq) h
mutual
def refsV : V → List Nat
  | .ptr a => [a.b]
  | .slice a _ _ _ _ => [a.b]
  | .func _ x y => refsL x ++ refsL y
  | .iface _ v => refsV v
  | .agg x => refsL x
  | .tuple x => refsL x
  | .mapv b => [b]
  | .yield b => [b]
  | _ => []
def refsL : List V → List Nat
  | [] => []
  | x :: l => refsV x ++ refsL l
end
noncomputable def refsB (k : Blk) : List Nat := refsL k.cells.z ++ (List.range k.cells.n).flatMap fun i => match k.cells.get i with
  | some v => refsV v
  | none => []
noncomputable def keepN (base : Nat) (h : AH) : Nat → List Nat → T Blk → T Blk
  | 0, _, t => t
  | _ + 1, [], t => t
  | n + 1, b :: l, t => bif Nat.blt b base then keepN base h n l t else match t.get b with
    | some _ => keepN base h n l t
    | none => match h.get b with
      | some k => keepN base h n (refsB k ++ l) (t.set b k)
      | none => keepN base h n l t
theorem keepN_old {base : Nat} {h : AH} : ∀ (n : Nat) (l : List Nat) (t : T Blk) (b : Nat), b < base → (keepN base h n l t).get b = t.get b
  | 0, _, _, _, _ => rfl
  | _ + 1, [], _, _, _ => rfl
  | n + 1, b' :: l, t, b, hb => by
    unfold keepN
    cases hlt : Nat.blt b' base with
    | true => exact keepN_old n l t b hb
    | false =>
      simp only [cond_false]
      split
      · exact keepN_old n l t b hb
      · split
        · rw [keepN_old n _ _ b hb, T.get_set, if_neg]
          rintro rfl
          rw [Arr.blt_eq, decide_eq_false_iff_not] at hlt
          omega
        · exact keepN_old n l t b hb
theorem keepN_get {base : Nat} {h : AH} : ∀ (n : Nat) (l : List Nat) (t : T Blk), (∀ b k, t.get b = some k → h.get b = some k) → ∀ b k, (keepN base h n l t).get b = some k → h.get b = some k
  | 0, _, _, ht, b, k, hk => ht b k hk
  | _ + 1, [], _, ht, b, k, hk => ht b k hk
  | n + 1, b' :: l, t, ht, b, k, hk => by
    unfold keepN at hk
    cases hlt : Nat.blt b' base with
    | true => rw [hlt] at hk; exact keepN_get n l t ht b k hk
    | false =>
      rw [hlt] at hk
      simp only [cond_false] at hk
      split at hk
      · exact keepN_get n l t ht b k hk
      · split at hk
        · rename_i k' hk'
          refine keepN_get n _ _ (fun b2 k2 h2 => ?_) b k hk
          rw [T.get_set] at h2
          split at h2
          · cases h2; subst_vars; exact hk'
          · exact ht b2 k2 h2
        · exact keepN_get n l t ht b k hk
noncomputable def unionT {α : Type} : T α → T α → T α
  | .leaf, t => t
  | .node l v r, .leaf => .node l v r
  | .node l v r, .node l' v' r' => .node (unionT l l') (v.or v') (unionT r r')
theorem unionT_getP {α : Type} : ∀ (p : List Bool) (a b : T α), T.getP p (unionT a b) = (T.getP p a).or (T.getP p b)
  | p, .leaf, t => by unfold unionT; rw [T.getP_leaf]; simp
  | p, .node l v r, .leaf => by
    unfold unionT
    rw [T.getP_leaf]
    simp
  | [], .node l v r, .node l' v' r' => by
    unfold unionT
    rw [T.getP_nil, T.getP_nil, T.getP_nil]
  | c :: p, .node l v r, .node l' v' r' => by
    unfold unionT
    rw [T.getP_cons, T.getP_cons, T.getP_cons]
    cases c
    · exact unionT_getP p l l'
    · exact unionT_getP p r r'
theorem unionT_get {α : Type} (a b : T α) (i : Nat) : (unionT a b).get i = (a.get i).or (b.get i) := unionT_getP _ a b
noncomputable def gcI (h0 : AH) (v : V) (h : AH) : AH := ⟨h.next, h0.low, keepN h0.next h 100000 (refsV v) .leaf⟩
noncomputable def gcU (h0 h : AH) : AH := ⟨h.next, h.low, unionT h.m h0.m⟩
noncomputable def gcR (h0 : AH) (r : Res) : Res := match r with
  | some (v, h) => if Nat.ble h0.next h.low = true then some (v, gcI h0 v h) else none
  | none => none
noncomputable def gcO (h0 : AH) (r : Res) : Res := match r with
  | some (v, h) => some (v, gcU h0 h)
  | none => none
theorem gcR_some {h0 h' : AH} {r : Res} {v : V} (h : gcR h0 r = some (v, h')) : ∃ h1, r = some (v, h1) ∧ h0.next ≤ h1.low ∧ h' = gcI h0 v h1 := by
  unfold gcR at h
  split at h
  · split at h
    · rename_i hb
      cases h
      exact ⟨_, rfl, Nat.le_of_ble_eq_true hb, rfl⟩
    · cases h
  · cases h
theorem gcO_some {h0 h' : AH} {r : Res} {v : V} (h : gcO h0 r = some (v, h')) : ∃ h1, r = some (v, h1) ∧ h' = gcU h0 h1 := by
  unfold gcO at h
  split at h
  · cases h; exact ⟨_, rfl, rfl⟩
  · cases h
theorem gcU_get (h h2 : AH) (v : V) (b : Nat) : (gcU h (gcI h v h2)).get b = ((keepN h.next h2 100000 (refsV v) .leaf).get b).or (h.get b) := unionT_get _ _ _
theorem gcU_keep {h h2 : AH} {v : V} {b : Nat} (hb : b < h.next) : (gcU h (gcI h v h2)).get b = h.get b := by
  rw [gcU_get, keepN_old 100000 (refsV v) .leaf b hb, T.get_leaf]
  simp
theorem gc_sound {ρ ρ' : Rho} {h h2 : AH} {w w' : World} {v : V} (hr : HR ρ h w) (hl : h.next ≤ h2.low) (h1 : HR ρ' h2 w') (hs : Step ρ ⟨h.next, h.next, h.m⟩ w ρ' h2 w') : HR ρ' (gcU h (gcI h v h2)) w' ∧ Step ρ h w ρ' (gcU h (gcI h v h2)) w' := by
  have hold : ∀ b k, h.get b = some k → h2.get b = some k := fun b k hk => by
    have hb : b < h.next := hr.lives b k hk
    rw [hs.quiet b (Nat.lt_of_lt_of_le hb hl) hb]
    exact hk
  have hget : ∀ b k, (gcU h (gcI h v h2)).get b = some k → h2.get b = some k := fun b k hk => by
    rw [gcU_get] at hk
    cases hq : (keepN h.next h2 100000 (refsV v) .leaf).get b with
    | some k' =>
      rw [hq] at hk
      have hk2 : k' = k := by simpa using hk
      rw [← hk2]
      exact keepN_get 100000 (refsV v) .leaf (fun b k h0 => by rw [T.get_leaf] at h0; cases h0) b _ hq
    | none =>
      rw [hq] at hk
      exact hold b k (by simpa using hk)
  refine ⟨h1.forget rfl hget, ⟨hs.le, hs.cons, fun b k' hk' hb => hs.ro b k' (hget b k' hk') hb, hs.next, hs.os, hs.tape, hs.output, hs.size, fun i hi hn => hs.keep i hi ?_, Nat.le_refl _, fun b _ hb => gcU_keep hb, fun b hb hn => ⟨by rw [gcU_keep hb]; exact hn, (hs.abs b hb hn).2⟩⟩⟩
  rintro ⟨b, L, x, k, e1, e2, e3⟩
  exact hn ⟨b, L, x, k, e1, e2, e3⟩
theorem gc_astep {h h2 : AH} {v : V} (hl : h.next ≤ h2.low) (hs : AStep ⟨h.next, h.next, h.m⟩ h2) : AStep h (gcU h (gcI h v h2)) :=
  ⟨hs.next, Nat.le_refl _, fun b _ hb => gcU_keep hb, fun b hb hn => by rw [gcU_keep hb]; exact hn⟩
end Go.Proofs.YtcphjmgfgfjnpaaGreatDoor.Ev
namespace Go.Proofs.YtcphjmgfgfjnpaaGreatDoor.Ev
open Go
abbrev XF := T V
noncomputable def getX (f : XF) (t : Nat) : V := orUndef (f.get t)
def msk (m t : Nat) : Bool := Nat.testBit m t
noncomputable def posOf (t : Nat) : List Nat → Option Nat := List.rec none (fun d _ ih => Bool.rec (Option.rec none (fun i => some (Nat.succ i)) ih) (some 0) (Nat.beq d t))
noncomputable def hdV (s : List V) : V := List.rec .bad (fun a _ _ => a) s
noncomputable def tlV (s : List V) : List V := List.rec [] (fun _ l _ => l) s
noncomputable def nthV : Nat → List V → V := Nat.rec hdV (fun _ ih s => ih (tlV s))
inductive RD where
  | mk (g : List V → XF → V)
noncomputable def rdV (r : RD) : List V → XF → V := RD.rec (fun g => g) r
noncomputable def stkG (i : Nat) : RD :=
  match i with
  | 0 => .mk fun s _ => hdV s
  | 1 => .mk fun s _ => hdV (tlV s)
  | 2 => .mk fun s _ => hdV (tlV (tlV s))
  | 3 => .mk fun s _ => hdV (tlV (tlV (tlV s)))
  | n + 4 => .mk fun s _ => nthV n (tlV (tlV (tlV (tlV s))))
noncomputable def rdTmp (ds : List Nat) (t : Nat) : RD := Option.rec (.mk fun _ f => getX f t) (fun i => stkG i) (posOf t ds)
noncomputable def rdOp (c : Cfg) (ds : List Nat) (x : Operand) : RD :=
  match x with
  | .tmp t => rdTmp ds t
  | x => .mk fun _ _ => evO c foFun (fun _ => .bad) x
noncomputable def evX (c : Cfg) (ds : List Nat) (s : List V) (f : XF) (x : Operand) : V := rdV (rdOp c ds x) s f
structure XD where
  C : FuncId → List V → AH → Res
  Y : Nat → List V → AH → Res
  B : Nat
def Cfg.at (c : Cfg) (d : XD) : Cfg := ⟨c.P, c.G, d.C, c.X, c.hint⟩
inductive XI where
  | mk (g : XD → List V → XF → AH → (V → AH → Res) → Res)
noncomputable def xiRun (i : XI) : XD → List V → XF → AH → (V → AH → Res) → Res := XI.rec (fun g => g) i
noncomputable def resK (r : Res) (k : V → AH → Res) : Res := Option.rec none (fun p => Prod.rec (fun v h => k v h) p) r
def yieldAt (ev : Operand → V) (o : Op) : Option (Nat × List V) :=
  match o with
  | .call cl => match cl.callee with
    | .value f => match ev f with
      | .yield b => some (b, cl.args.toList.map ev)
      | _ => none
    | _ => none
  | _ => none
noncomputable def stepX (c : Cfg) (yl q : Bool) (o : Op) (d : XD) (ev : Operand → V) (h : AH) : Res :=
  match yl, yieldAt ev o with
  | true, some (b, args) => d.Y b args h
  | _, _ => stepV (c.at d) q o ev h
noncomputable def xi (c : Cfg) (yl q : Bool) (ds : List Nat) (o : Op) : XI := .mk fun d s f h k => resK (stepX c yl q o d (evX c ds s f) h) k
inductive XP where
  | mk (g : V → List V → XF → AH → (List V → XF → AH → Res) → Res)
noncomputable def xpRun (p : XP) : V → List V → XF → AH → (List V → XF → AH → Res) → Res := XP.rec (fun g => g) p
noncomputable def xp (m N : Nat) (dst : Option Nat) : XP :=
  match dst with
  | none => .mk fun _ s f h k => k s f h
  | some d => bif Nat.blt d N then (bif msk m d then .mk fun v s f h k => k (v :: s) (f.set d v) h else .mk fun v s f h k => k (v :: s) f h) else .mk fun _ s f h k => k s f h
noncomputable def nextDs (N : Nat) (dst : Option Nat) (ds : List Nat) : List Nat :=
  match dst with
  | none => ds
  | some d => bif Nat.blt d N then d :: ds else ds
inductive XR where
  | mk (g : XD → List V → XF → AH → (List V → XF → AH → Res) → Res)
noncomputable def xrRun (r : XR) : XD → List V → XF → AH → (List V → XF → AH → Res) → Res := XR.rec (fun g => g) r
noncomputable def guardK (v : V) (want : Bool) (yes no : Res) : Res :=
  match v with
  | .bool b => bif b == want then yes else no
  | .bad => none
  | _ => no
noncomputable def opG (c : Cfg) (I : Bool → List Nat → Op → XI) (m N : Nat) (ops : Array Oper) (q : Bool) (ds : List Nat) (o : Oper) : XR :=
  match o.guard with
  | none => .mk fun d s f h k => xiRun (I q ds o.op) d s f h fun v h' => xpRun (xp m N o.dst) v s f h' k
  | some (j, want) => match (ops[j]?).bind (·.dst) with
    | none => .mk fun d s f h k => xpRun (xp m N o.dst) undefV s f h k
    | some t => .mk fun d s f h k => guardK (rdV (rdTmp ds t) s f) want (xiRun (I q ds o.op) d s f h fun v h' => xpRun (xp m N o.dst) v s f h' k) (xpRun (xp m N o.dst) undefV s f h k)
noncomputable def nextG (c : Cfg) (I : Bool → List Nat → Op → XI) (m N : Nat) (ops : Array Oper) (q : Bool) (ds : List Nat) (o : Oper) (x : Operand) : XR :=
  .mk fun d s f h k => match nextL (rdV (rdOp c ds x) s f) h with
    | some (p :: ps) => joinK (fun q => xpRun (xp m N o.dst) q.1 s f q.2 k) p ps
    | _ => xrRun (opG c I m N ops q ds o) d s f h k
noncomputable def opN (c : Cfg) (I : Bool → List Nat → Op → XI) (m N : Nat) (ops : Array Oper) (q : Bool) (ds : List Nat) (o : Oper) : XR :=
  match o.op, o.guard with
  | .next x false, none => nextG c I m N ops q ds o x
  | _, _ => opG c I m N ops q ds o
inductive XL where
  | nil
  | cons (r : XR) (l : XL)
noncomputable def compL (c : Cfg) (I : Bool → List Nat → Op → XI) (m N : Nat) (ops : Array Oper) (qs : Nat → Bool) : List Oper → Nat → List Nat → XL :=
  List.rec (fun _ _ => .nil) (fun o _ ih i ds => .cons (opN c I m N ops (qs i) ds o) (ih (Nat.succ i) (nextDs N o.dst ds)))
structure QC where
  m : Nat
  r : Option RC
noncomputable def newI (i : Nat) (x : XI) : XI := .mk fun d s f h k => xiRun x d s f ⟨Nat.add d.B i, h.low, h.m⟩ fun v h' => k v ⟨h.next, Nat.min h.low (Nat.add d.B i), h'.m⟩
noncomputable def again (c : Cfg) (ops : Array Oper) (sp : List Nat) (ev : Operand → V) (h h' : AH) : Bool := sp.all fun i => match ops[i]? with
  | none => true
  | some oi => match sop c.P oi.op ev h with
    | none => true
    | some (v, _) => match sop c.P oi.op ev h' with
      | none => false
      | some (v', _) => alikeV v v'
noncomputable def sepI (c : Cfg) (ops : Array Oper) (sp : List Nat) (ds : List Nat) (x : XI) : XI := .mk fun d s f h k => xiRun x d s f h fun v h' => bif again c ops sp (evX c ds s f) h h' then k v h' else none
noncomputable def wrapI (c : Cfg) (I : Bool → List Nat → Op → XI) (ops : Array Oper) (sp : List Nat) (i : Nat) (q : Bool) (ds : List Nat) (o : Op) : XI :=
  match sp with
  | [] => Bool.rec (I q ds o) (newI i (I q ds o)) (isNew o)
  | a :: l => Bool.rec (sepI c ops (a :: l) ds (I q ds o)) (.mk fun _ _ _ _ _ => none) (isNew o)
noncomputable def compN (c : Cfg) (I : Bool → List Nat → Op → XI) (m N : Nat) (ops : Array Oper) (qs : Nat → Bool) (rc : Option RC) : List Nat → List Nat → XL :=
  List.rec (fun _ => .nil) (fun i _ ih ds => Option.rec .nil (fun o => .cons (opG c (wrapI c I ops (spR rc i) i) m N ops (qs i) ds o) (ih (nextDs N o.dst ds))) ops[i]?)
noncomputable def runL : XL → XD → List V → XF → AH → (XF → AH → Res) → Res :=
  XL.rec (fun _ _ f h k => k f h) (fun r _ ih d s f h k => xrRun r d s f h fun s f h => ih d s f h k)
structure XK where
  norm : XF → AH → Res
  exit : Nat → XF → AH → Res
  goto : Nat → XF → AH → Res
  ret : XF → AH → Res
noncomputable def onN (fm : Option Nat) (r : Res) : Res := Option.rec r (fun _ => none) fm
noncomputable def loopOf (h : AH) (b : Nat) : Option (V × V × Int × V) :=
  match h.get b with
  | some k => if k.cells.n = 0 ∧ k.minL = 2 ∧ k.e = 1 then (match k.cells.z with
    | [r, t, .int .i64 st, j] => some (r, t, st, j)
    | _ => none) else none
  | none => none
noncomputable def putLoop (h : AH) (b : Nat) (r t : V) (st : Int) (j : V) : AH := h.put b (Blk.obj 1 [r, t, .int .i64 st, j])
noncomputable def leapX (j : V) (f : XF) (h : AH) (k : XK) : Res :=
  match j with
  | .tuple [] => k.norm f h
  | .tuple [.bool true] => k.ret f h
  | .tuple [.int .u8 id] => k.exit id.toNat f h
  | .tuple [.int .u16 l] => k.goto l.toNat f h
  | _ => none
noncomputable def endX (b : Nat) (h : AH) (f : XF) (k : XK) : Res :=
  match loopOf h b with
  | some (r, t, st, j) => if st = 1 then none else leapX j f (putLoop h b r t 3 j) k
  | none => none
section
variable (c : Cfg) (I : Bool → Bool → List Nat → Op → XI) (d : XD) (rnd gd : Bool) (qt : Nat → QC) (fid N m fuel : Nat)
noncomputable def regX (id : Nat) (ops : Array Oper) (draw : Bool) (f : XF) (h : AH) (k : XF → AH → Res) : Res :=
  Bool.rec (runL (compL c (I true) m N ops (fun _ => false) ops.toList 0 []) d [] f h k)
    (Bool.rec none (runL (compN c (I false) m N ops (fun i => Nat.testBit (qt id).m i) (qt id).r (ordL (qt id).r ops.size) []) ⟨d.C, d.Y, h.next⟩ [] f ⟨Nat.add h.next ops.size, h.low, h.m⟩ k) gd) draw
noncomputable def rangeX (g : Operand) (ps : Array Tmp) (aas bd : Code) (f : XF) (h : AH) (k : XK) : Res :=
  if rnd then none else
  match evX c [] [] f g with
  | .func f' fs cs =>
    match hasBody c f' with
    | some true =>
      match d.C f' (fs ++ [.yield h.next] ++ cs) (h.add (Blk.obj 1 [.rcd fid ps aas bd, .tuple ((List.range N).map (getX f)), .int .i64 0, .tuple []])) with
      | some (_, h2) => endX h.next h2 f k
      | none => none
    | _ => none
  | _ => none
noncomputable def scopeX (b : Code) (ih : Option Nat → XF → AH → XK → Res) (fuel : Nat) : Option Nat → XF → AH → XK → Res :=
  Nat.rec (fun _ _ _ _ => none) (fun _ go fm f h k => ih fm f h ⟨k.norm, k.exit, fun l f h => bif (findLabel b l).isSome then go (some l) f h k else k.goto l f h, k.ret⟩) fuel
noncomputable def xexec (code : Code) : Option Nat → XF → AH → XK → Res :=
  Code.rec (motive := fun _ => Option Nat → XF → AH → XK → Res)
    (fun fm f h k => onN fm (k.norm f h))
    (fun id ops draw fm f h k => onN fm (regX c I d gd qt N m id ops draw f h k.norm))
    (fun a _ iha ihb fm f h k => Option.rec (iha none f h ⟨fun f h => ihb none f h k, k.exit, k.goto, k.ret⟩) (fun l => bif (findLabel a l).isSome then iha (some l) f h ⟨fun f h => ihb none f h k, k.exit, k.goto, k.ret⟩ else ihb (some l) f h k) fm)
    (fun x _ _ iha ihb fm f h k => onN fm (match evX c [] [] f x with
      | .bool true => iha none f h k
      | .bool false => ihb none f h k
      | _ => none))
    (fun id _ ih fm f h k => onN fm (ih none f h ⟨k.norm, fun id' f h => bif Nat.beq id' id then k.norm f h else k.exit id' f h, k.goto, k.ret⟩))
    (fun _ ih fm f h k => onN fm (loopN XF fuel (fun f h n => ih none f h ⟨n, k.exit, k.goto, k.ret⟩) f h))
    (fun g ps aas bd _ _ fm f h k => onN fm (rangeX c d rnd fid N g ps aas bd f h k))
    (fun id fm f h k => onN fm (k.exit id f h))
    (fun b ih fm f h k => onN fm (scopeX b ih fuel none f h k))
    (fun l' fm f h k => Option.rec (k.norm f h) (fun l => bif Nat.beq l' l then k.norm f h else none) fm)
    (fun l fm f h k => onN fm (k.goto l f h))
    (fun fm f h k => onN fm (k.ret f h))
    (fun _ _ _ _ _ => none) code
theorem xexec_skip (fm f h k) : xexec c I d rnd gd qt fid N m fuel .skip fm f h k = onN fm (k.norm f h) := rfl
theorem xexec_region (id ops draw fm f h k) : xexec c I d rnd gd qt fid N m fuel (.region id ops draw) fm f h k = onN fm (regX c I d gd qt N m id ops draw f h k.norm) := rfl
theorem xexec_seq_none (a b f h k) : xexec c I d rnd gd qt fid N m fuel (.seq a b) none f h k = xexec c I d rnd gd qt fid N m fuel a none f h ⟨fun f h => xexec c I d rnd gd qt fid N m fuel b none f h k, k.exit, k.goto, k.ret⟩ := rfl
theorem xexec_seq_some (a b l f h k) : xexec c I d rnd gd qt fid N m fuel (.seq a b) (some l) f h k = bif (findLabel a l).isSome then xexec c I d rnd gd qt fid N m fuel a (some l) f h ⟨fun f h => xexec c I d rnd gd qt fid N m fuel b none f h k, k.exit, k.goto, k.ret⟩ else xexec c I d rnd gd qt fid N m fuel b (some l) f h k := rfl
theorem xexec_cond (x a b fm f h k) : xexec c I d rnd gd qt fid N m fuel (.cond x a b) fm f h k = onN fm (match evX c [] [] f x with
      | .bool true => xexec c I d rnd gd qt fid N m fuel a none f h k
      | .bool false => xexec c I d rnd gd qt fid N m fuel b none f h k
      | _ => none) := rfl
theorem xexec_block (id b fm f h k) : xexec c I d rnd gd qt fid N m fuel (.block id b) fm f h k = onN fm (xexec c I d rnd gd qt fid N m fuel b none f h ⟨k.norm, fun id' f h => bif Nat.beq id' id then k.norm f h else k.exit id' f h, k.goto, k.ret⟩) := rfl
theorem xexec_loop (b fm f h k) : xexec c I d rnd gd qt fid N m fuel (.loop b) fm f h k = onN fm (loopN XF fuel (fun f h n => xexec c I d rnd gd qt fid N m fuel b none f h ⟨n, k.exit, k.goto, k.ret⟩) f h) := rfl
theorem xexec_range (g ps aas bd fm f h k) : xexec c I d rnd gd qt fid N m fuel (.rangeFunc g ps aas bd) fm f h k = onN fm (rangeX c d rnd fid N g ps aas bd f h k) := rfl
theorem xexec_exit (id fm f h k) : xexec c I d rnd gd qt fid N m fuel (.exit id) fm f h k = onN fm (k.exit id f h) := rfl
theorem xexec_scope (b fm f h k) : xexec c I d rnd gd qt fid N m fuel (.scope b) fm f h k = onN fm (scopeX b (xexec c I d rnd gd qt fid N m fuel b) fuel none f h k) := rfl
theorem xexec_label_some (l' l f h k) : xexec c I d rnd gd qt fid N m fuel (.label l') (some l) f h k = bif Nat.beq l' l then k.norm f h else none := rfl
theorem xexec_goto (l fm f h k) : xexec c I d rnd gd qt fid N m fuel (.goto l) fm f h k = onN fm (k.goto l f h) := rfl
theorem xexec_ret (fm f h k) : xexec c I d rnd gd qt fid N m fuel .ret fm f h k = onN fm (k.ret f h) := rfl
end
noncomputable def drawsOK (P : Program) (qt : Nat → QC) (code : Code) : Bool :=
  Code.rec (motive := fun _ => Bool) true
    (fun id ops draw => Bool.rec true (certB P ops (Region.before ops) (qt id).m (qt id).r) draw)
    (fun _ _ a b => Bool.rec false b a) (fun _ _ _ a b => Bool.rec false b a) (fun _ _ a => a) (fun _ a => a) (fun _ _ _ _ _ _ => true) (fun _ => true) (fun _ a => a) (fun _ => true) (fun _ => true) true (fun _ => true) code
noncomputable def iniM (m : Nat) (l : List V) : Nat → XF → XF := List.rec (fun _ f => f) (fun v _ ih i f => ih (Nat.succ i) (Bool.rec f (f.set i v) (msk m i))) l
structure XEnv where
  P : Program
  G : Nat → Option Nat
  X : FuncId → List V → AH → Option (V × AH)
  I : FuncId → Option (List V → AH → Option (V × AH))
  mask : FuncId → Nat
  fuel : Nat
  ops : Cfg → Bool → Bool → List Nat → Op → XI
  good : FuncId → Bool
  qt : FuncId → Nat → QC
  gc : FuncId → Bool
def XEnv.c0 (E : XEnv) : Cfg := ⟨E.P, E.G, fun _ _ _ => none, E.X, fun _ => none⟩
noncomputable def finX (c : Cfg) (fn : Func) (f : XF) (h : AH) : Res := (resList c foFun (getX f) h fn.results.toList).map fun vs => (pack vs, h)
noncomputable def xFn (E : XEnv) (d : XD) (f : FuncId) (args : List V) (h : AH) : Res :=
  match E.P.funcs[f]? with
  | none => none
  | some fn =>
    match fn.body with
    | none => none
    | some code => if args.length ≤ fn.ntmps then bif E.gc f then gcO h (xexec E.c0 (E.ops E.c0) d false (E.good f) (E.qt f) f fn.ntmps (E.mask f) E.fuel code none (iniM (E.mask f) args 0 .leaf) ⟨h.next, h.next, h.m⟩ ⟨fun f' h' => gcR h (finX E.c0 fn f' h'), fun _ _ _ => none, fun _ _ _ => none, fun f' h' => gcR h (finX E.c0 fn f' h')⟩) else xexec E.c0 (E.ops E.c0) d false (E.good f) (E.qt f) f fn.ntmps (E.mask f) E.fuel code none (iniM (E.mask f) args 0 .leaf) h ⟨finX E.c0 fn, fun _ _ _ => none, fun _ _ _ => none, finX E.c0 fn⟩ else none
noncomputable def endR (b : Nat) (st : Int) (j : V) (res : Bool) (h : AH) : Res :=
  match loopOf h b with
  | some (r, t, _, _) => some (.bool res, putLoop h b r t st j)
  | none => none
noncomputable def beginX (b : Nat) (h : AH) (k : AH → Res) : Res :=
  match loopOf h b with
  | some (r, t, 0, j) => k (putLoop h b r t 1 j)
  | _ => none
def setPs : List Nat → List V → List V → List V
  | p :: ps, a :: aas, l => setPs ps aas (l.set p a)
  | _, _, l => l
noncomputable def yX (E : XEnv) (d : XD) (b : Nat) (args : List V) (h : AH) : Res :=
  match loopOf h b with
  | some (.rcd f ps aas bd, .tuple tm, _, _) =>
    match E.P.funcs[f]? with
    | none => none
    | some fn =>
      if args.length = ps.size ∧ tm.length = fn.ntmps then
        xexec E.c0 (E.ops E.c0) d true (drawsOK E.P (E.qt f) aas) (E.qt f) f fn.ntmps (E.mask f) E.fuel aas none (iniM (E.mask f) (setPs ps.toList args tm) 0 .leaf) h
          ⟨fun f1 h1 => beginX b h1 fun h2 => xexec E.c0 (E.ops E.c0) d true (drawsOK E.P (E.qt f) bd) (E.qt f) f fn.ntmps (E.mask f) E.fuel bd none f1 h2
              ⟨fun _ h3 => endR b 0 (.tuple []) true h3, fun id _ h3 => endR b 2 (.tuple [.int .u8 id]) false h3, fun l _ h3 => endR b 2 (.tuple [.int .u16 l]) false h3, fun _ h3 => endR b 2 (.tuple [.bool true]) false h3⟩,
            fun _ _ _ => none, fun _ _ _ => none, fun _ _ => none⟩
      else none
  | _ => none
noncomputable def xD (E : XEnv) : Nat → XD := Nat.rec ⟨fun _ _ _ => none, fun _ _ _ => none, 0⟩ (fun _ d => ⟨fun f args h => Option.rec (xFn E d f args h) (fun g => g args h) (E.I f), fun b args h => yX E d b args h, 0⟩)
noncomputable def xrun (E : XEnv) (n : Nat) (f : FuncId) (args : List V) (h : AH) : Res := (xD E n).C f args h
end Go.Proofs.YtcphjmgfgfjnpaaGreatDoor.Ev
namespace Go.Proofs.YtcphjmgfgfjnpaaGreatDoor.Ev
open Go
theorem posOf_cons (t d : Nat) (l : List Nat) : posOf t (d :: l) = if d = t then some 0 else (posOf t l).map Nat.succ := by
  have h : posOf t (d :: l) = Bool.rec (motive := fun _ => Option Nat) (Option.rec (motive := fun _ => Option Nat) none (fun i => some (Nat.succ i)) (posOf t l)) (some 0) (Nat.beq d t) := rfl
  rw [h]
  by_cases e : d = t
  · subst e; rw [if_pos rfl, show Nat.beq d d = true from by simp]
  · rw [if_neg e, show Nat.beq d t = false from by cases hb : Nat.beq d t; rfl; exact absurd (Nat.eq_of_beq_eq_true hb) e]
    cases posOf t l <;> rfl
theorem nthV_cons (n : Nat) (v : V) (s : List V) : nthV (n + 1) (v :: s) = nthV n s := rfl
theorem stkG_eq (i : Nat) (s : List V) (f : XF) : rdV (stkG i) s f = nthV i s := by
  match i with
  | 0 => rfl
  | 1 => rfl
  | 2 => rfl
  | 3 => rfl
  | n + 4 => rfl
structure Rel (m N : Nat) (ds : List Nat) (s : List V) (f : XF) (fr : Nat → V) : Prop where
  stk : ∀ t i, posOf t ds = some i → nthV i s = fr t
  fre : ∀ t, posOf t ds = none → getX f t = fr t
  kept : ∀ t, msk m t = true → getX f t = fr t
  bad : ∀ t, msk m t = false → getX f t = .bad
theorem Rel.start {m N : Nat} {f : XF} (hb : ∀ t, msk m t = false → getX f t = .bad) : Rel m N [] [] f (getX f) := ⟨fun t i h => (by cases h), fun _ _ => rfl, fun _ _ => rfl, hb⟩
theorem rdTmp_eq {m N : Nat} {ds : List Nat} {s : List V} {f : XF} {fr : Nat → V} (h : Rel m N ds s f fr) (t : Nat) : rdV (rdTmp ds t) s f = fr t := by
  unfold rdTmp
  cases hp : posOf t ds with
  | none => exact h.fre t hp
  | some i => exact (stkG_eq i s f).trans (h.stk t i hp)
theorem evX_eq {c : Cfg} {m N : Nat} {ds : List Nat} {s : List V} {f : XF} {fr : Nat → V} (h : Rel m N ds s f fr) : evX c ds s f = evO c foFun fr := by
  funext x
  unfold evX
  cases x with
  | tmp t => exact rdTmp_eq h t
  | const v => rfl
  | global g => rfl
  | func g => rfl
theorem getX_set (f : XF) (i j : Nat) (v : V) : getX (f.set i v) j = if j = i then v else getX f j := by
  unfold getX
  rw [T.get_set]
  split
  · rfl
  · rfl
theorem xp_spec {m N : Nat} {ds : List Nat} {s : List V} {f : XF} {fr : Nat → V} (h : Rel m N ds s f fr) {dst : Option Nat} {v : V} {hh : AH} {k : List V → XF → AH → Res} {r : V × AH} (hr : xpRun (xp m N dst) v s f hh k = some r) :
    ∃ s' f', k s' f' hh = some r ∧ Rel m N (nextDs N dst ds) s' f' (putF foFun N fr dst v) := by
  cases dst with
  | none => exact ⟨s, f, hr, h⟩
  | some d =>
    unfold xp at hr
    unfold nextDs
    simp only at hr ⊢
    cases hd : Nat.blt d N with
    | false => rw [hd] at hr; rw [putF_ge fr v hd]; exact ⟨s, f, hr, h⟩
    | true =>
      rw [hd] at hr
      rw [putF_lt fr v hd]
      simp only [cond_true] at hr ⊢
      have hstk : ∀ t i, posOf t (d :: ds) = some i → nthV i (v :: s) = if t = d then v else fr t := by
        intro t i hp
        rw [posOf_cons] at hp
        by_cases e : d = t
        · rw [if_pos e] at hp; cases hp; rw [if_pos e.symm]; rfl
        · rw [if_neg e] at hp
          rw [if_neg (fun e' => e e'.symm)]
          obtain ⟨j, h1, h2⟩ := map_some' hp
          subst h2
          exact (nthV_cons j v s).trans (h.stk t j h1)
      have hno : ∀ t, posOf t (d :: ds) = none → t ≠ d ∧ posOf t ds = none := by
        intro t hp
        rw [posOf_cons] at hp
        by_cases e : d = t
        · rw [if_pos e] at hp; cases hp
        · rw [if_neg e] at hp
          refine ⟨fun e' => e e'.symm, ?_⟩
          cases hq : posOf t ds with
          | none => rfl
          | some _ => rw [hq] at hp; cases hp
      cases hm : msk m d with
      | true =>
        rw [hm] at hr
        refine ⟨v :: s, f.set d v, hr, hstk, ?_, ?_, ?_⟩
        · intro t hp
          obtain ⟨h1, h2⟩ := hno t hp
          simp only [getX_set, if_neg h1]; exact h.fre t h2
        · intro t ht
          simp only [getX_set]
          split
          · rfl
          · exact h.kept t ht
        · intro t ht
          have : t ≠ d := fun e => by rw [e, hm] at ht; cases ht
          rw [getX_set, if_neg this]; exact h.bad t ht
      | false =>
        rw [hm] at hr
        refine ⟨v :: s, f, hr, hstk, ?_, ?_, h.bad⟩
        · intro t hp
          obtain ⟨h1, h2⟩ := hno t hp
          simp only [if_neg h1]; exact h.fre t h2
        · intro t ht
          have : t ≠ d := fun e => by rw [e, hm] at ht; cases ht
          simp only [if_neg this]; exact h.kept t ht
def OpsOK (c : Cfg) (I : Bool → Bool → List Nat → Op → XI) : Prop := ∀ yl q ds o d s f h k r, xiRun (I yl q ds o) d s f h k = some r → ∃ v h', stepX c yl q o d (evX c ds s f) h = some (v, h') ∧ k v h' = some r
theorem resK_some {r : Res} {k : V → AH → Res} {x : V × AH} (h : resK r k = some x) : ∃ v h', r = some (v, h') ∧ k v h' = some x := by
  cases r with
  | none => cases h
  | some p => exact ⟨p.1, p.2, rfl, h⟩
theorem xi_ok (c : Cfg) : OpsOK c (xi c) := fun yl q ds o d s f h k r hr => resK_some hr
theorem guardK_some {v : V} {want : Bool} {yes no : Res} {r : V × AH} (h : guardK v want yes no = some r) : (v = .bool want ∧ yes = some r) ∨ ((∃ b, v = .bool b ∧ (b == want) = false) ∧ no = some r) ∨ ((∀ b, v ≠ .bool b) ∧ v ≠ .bad ∧ no = some r) := by
  unfold guardK at h
  split at h
  · rename_i b
    cases hb : b == want with
    | true => rw [hb] at h; exact .inl ⟨by rw [show b = want from by simpa using hb], h⟩
    | false => rw [hb] at h; exact .inr (.inl ⟨⟨b, rfl, hb⟩, h⟩)
  · cases h
  · rename_i h1 h2; exact .inr (.inr ⟨fun b e => h1 b e, h2, h⟩)
def One (c : Cfg) (d : XD) (yl : Bool) (N : Nat) (ops : Array Oper) (q : Bool) (o : Oper) (fr : Nat → V) (h : AH) (fr' : Nat → V) (h' : AH) : Prop :=
  (wantedV foFun ops o fr = some false ∧ fr' = putF foFun N fr o.dst undefV ∧ h' = h) ∨ (wantedV foFun ops o fr = some true ∧ ∃ v, stepX c yl q o.op d (evO c foFun fr) h = some (v, h') ∧ fr' = putF foFun N fr o.dst v)
theorem opG_specG {c : Cfg} {J : Bool → List Nat → Op → XI} {m N : Nat} {ops : Array Oper} {q : Bool} {ds : List Nat} {o : Oper} {d : XD} {St : (Operand → V) → AH → V → AH → Prop} (hJ : ∀ s f h k r, xiRun (J q ds o.op) d s f h k = some r → ∃ v h', St (evX c ds s f) h v h' ∧ k v h' = some r) {s : List V} {f : XF} {h : AH} {fr : Nat → V} (hR : Rel m N ds s f fr) {k : List V → XF → AH → Res} {r : V × AH}
    (hr : xrRun (opG c J m N ops q ds o) d s f h k = some r) : ∃ fr' h' s' f', k s' f' h' = some r ∧ Rel m N (nextDs N o.dst ds) s' f' fr' ∧ ((wantedV foFun ops o fr = some false ∧ fr' = putF foFun N fr o.dst undefV ∧ h' = h) ∨ (wantedV foFun ops o fr = some true ∧ ∃ v, St (evO c foFun fr) h v h' ∧ fr' = putF foFun N fr o.dst v)) := by
  have go : ∀ {K : List V → XF → AH → Res}, xiRun (J q ds o.op) d s f h (fun v h' => xpRun (xp m N o.dst) v s f h' K) = some r → ∃ v h' s' f', K s' f' h' = some r ∧ Rel m N (nextDs N o.dst ds) s' f' (putF foFun N fr o.dst v) ∧ St (evO c foFun fr) h v h' := by
    intro K hx
    obtain ⟨v, h', h1, h2⟩ := hJ _ _ _ _ _ hx
    rw [evX_eq hR] at h1
    obtain ⟨s', f', g1, g2⟩ := xp_spec hR h2
    exact ⟨v, h', s', f', g1, g2, h1⟩
  unfold opG at hr
  split at hr
  · rename_i hg
    obtain ⟨v, h', s', f', g1, g2, g3⟩ := go hr
    exact ⟨_, h', s', f', g1, g2, .inr ⟨by unfold wantedV; rw [hg], v, g3, rfl⟩⟩
  · rename_i j want hg
    split at hr
    · rename_i hn
      obtain ⟨s', f', g1, g2⟩ := xp_spec hR hr
      exact ⟨_, h, s', f', g1, g2, .inl ⟨by unfold wantedV; rw [hg]; simp only [hn], rfl, rfl⟩⟩
    · rename_i t ht
      rcases guardK_some hr with ⟨e, h1⟩ | ⟨⟨b, e, hb⟩, h1⟩ | ⟨e1, e2, h1⟩
      · rw [rdTmp_eq hR] at e
        obtain ⟨v, h', s', f', g1, g2, g3⟩ := go h1
        refine ⟨_, h', s', f', g1, g2, .inr ⟨?_, v, g3, rfl⟩⟩
        unfold wantedV
        rw [hg]
        simp only [ht]
        rw [show foFun.get fr t = _ from e]
        simp
      · rw [rdTmp_eq hR] at e
        obtain ⟨s', f', g1, g2⟩ := xp_spec hR h1
        refine ⟨_, h, s', f', g1, g2, .inl ⟨?_, rfl, rfl⟩⟩
        unfold wantedV
        rw [hg]
        simp only [ht]
        rw [show foFun.get fr t = _ from e]
        simp [hb]
      · rw [rdTmp_eq hR] at e1 e2
        obtain ⟨s', f', g1, g2⟩ := xp_spec hR h1
        refine ⟨_, h, s', f', g1, g2, .inl ⟨?_, rfl, rfl⟩⟩
        unfold wantedV
        rw [hg]
        simp only [ht]
        have e1' : ∀ b, foFun.get fr t ≠ .bool b := e1
        have e2' : foFun.get fr t ≠ .bad := e2
        generalize foFun.get fr t = x at e1' e2'
        cases x <;> first | rfl | exact absurd rfl (e1' _) | exact absurd rfl e2'
theorem opG_spec {c : Cfg} {I : Bool → Bool → List Nat → Op → XI} (hI : OpsOK c I) {yl : Bool} {m N : Nat} {ops : Array Oper} {q : Bool} {ds : List Nat} {o : Oper} {d : XD} {s : List V} {f : XF} {h : AH} {fr : Nat → V} (hR : Rel m N ds s f fr) {k : List V → XF → AH → Res} {r : V × AH}
    (hr : xrRun (opG c (I yl) m N ops q ds o) d s f h k = some r) : ∃ fr' h' s' f', k s' f' h' = some r ∧ Rel m N (nextDs N o.dst ds) s' f' fr' ∧ One c d yl N ops q o fr h fr' h' :=
  opG_specG (St := fun ev h v h' => stepX c yl q o.op d ev h = some (v, h')) (fun s f h k r hx => hI _ _ _ _ _ _ _ _ _ _ hx) hR hr
theorem opN_cases {c : Cfg} {I : Bool → Bool → List Nat → Op → XI} {yl : Bool} {m N : Nat} {ops : Array Oper} {q : Bool} {ds : List Nat} {o : Oper} {d : XD} {s : List V} {f : XF} {h : AH} {fr : Nat → V} (hR : Rel m N ds s f fr) {k : List V → XF → AH → Res} {r : V × AH}
    (hr : xrRun (opN c (I yl) m N ops q ds o) d s f h k = some r) : xrRun (opG c (I yl) m N ops q ds o) d s f h k = some r ∨
      ∃ x l, o.op = .next x false ∧ o.guard = none ∧ nextL (evO c foFun fr x) h = some l ∧ l ≠ [] ∧ ∀ p ∈ l, ∃ s' f', k s' f' p.2 = some r ∧ Rel m N (nextDs N o.dst ds) s' f' (putF foFun N fr o.dst p.1) := by
  unfold opN at hr
  split at hr
  · rename_i x h1 h2
    unfold nextG at hr
    change (match nextL (evX c ds s f x) h with
      | some (p :: ps) => joinK (fun q => xpRun (xp m N o.dst) q.1 s f q.2 k) p ps
      | _ => xrRun (opG c (I yl) m N ops q ds o) d s f h k) = some r at hr
    rw [evX_eq hR] at hr
    split at hr
    · rename_i p ps hn
      refine .inr ⟨x, p :: ps, h1, h2, hn, by simp, fun q hq => ?_⟩
      obtain ⟨s', f', g1, g2⟩ := xp_spec hR (joinK_some hr q hq)
      exact ⟨s', f', g1, g2⟩
    · exact .inl hr
  · exact .inl hr
theorem runL_nil (d : XD) (s : List V) (f : XF) (h : AH) (k : XF → AH → Res) : runL .nil d s f h k = k f h := rfl
theorem runL_cons (r : XR) (l : XL) (d : XD) (s : List V) (f : XF) (h : AH) (k : XF → AH → Res) : runL (.cons r l) d s f h k = xrRun r d s f h fun s f h => runL l d s f h k := rfl
theorem compL_cons (c : Cfg) (I : Bool → List Nat → Op → XI) (m N : Nat) (ops : Array Oper) (qs : Nat → Bool) (o : Oper) (l : List Oper) (i : Nat) (ds : List Nat) : compL c I m N ops qs (o :: l) i ds = .cons (opN c I m N ops (qs i) ds o) (compL c I m N ops qs l (i + 1) (nextDs N o.dst ds)) := rfl
theorem stepX_false {c : Cfg} {q : Bool} {o : Op} {d : XD} {ev : Operand → V} {h : AH} : stepX c false q o d ev h = stepV (c.at d) q o ev h := rfl
def Apart (c : Cfg) (ops : Array Oper) (sp : List Nat) (ev : Operand → V) (h h' : AH) : Prop := ∀ i, i ∈ sp → ∀ oi, ops[i]? = some oi → ∀ v h2, sop c.P oi.op ev h = some (v, h2) → ∃ h3, sop c.P oi.op ev h' = some (v, h3)
theorem again_spec {c : Cfg} {ops : Array Oper} {sp : List Nat} {ev : Operand → V} {h h' : AH} (ha : again c ops sp ev h h' = true) : Apart c ops sp ev h h' := by
  intro i hi oi hoi v h2 hs
  unfold again at ha
  rw [List.all_eq_true] at ha
  have := ha i hi
  rw [hoi] at this
  simp only [hs] at this
  split at this
  · cases this
  · rename_i v' h3 hs'
    rw [alikeV_eq _ _ this]
    exact ⟨h3, hs'⟩
theorem wrapI_spec {c : Cfg} (hH : HintOK c) {I : Bool → Bool → List Nat → Op → XI} (hI : OpsOK c I) {ops : Array Oper} {sp : List Nat} {i : Nat} {q : Bool} {ds : List Nat} {o : Op} {d : XD} {s : List V} {f : XF} {h : AH} {k : V → AH → Res} {r : V × AH} (hr : xiRun (wrapI c (I false) ops sp i q ds o) d s f h k = some r) :
    ∃ v h', (stepN (c.at d) (d.B + i) q o (evX c ds s f) h = some (v, h') ∧ Apart c ops sp (evX c ds s f) h h') ∧ k v h' = some r := by
  cases hn : isNew o with
  | true =>
    cases sp with
    | nil =>
      unfold wrapI at hr
      simp only [hn] at hr
      change xiRun (I false q ds o) d s f ⟨Nat.add d.B i, h.low, h.m⟩ (fun v h' => k v ⟨h.next, Nat.min h.low (Nat.add d.B i), h'.m⟩) = some r at hr
      obtain ⟨v, h', h1, h2⟩ := hI _ _ _ _ _ _ _ _ _ _ hr
      refine ⟨v, _, ⟨?_, fun i hi => by cases hi⟩, h2⟩
      rw [stepN_new hn]
      rw [stepX_false] at h1
      have h3 : sop c.P o (evX c ds s f) ⟨d.B + i, h.low, h.m⟩ = some (v, h') := by
        unfold stepV at h1
        rw [(isNew_cls (P := c.P) hn).2] at h1
        exact conc_some hH h1
      unfold newAt
      show (match sop c.P o (evX c ds s f) ⟨d.B + i, h.low, h.m⟩ with
        | some (v, h') => some (v, (⟨h.next, Nat.min h.low (d.B + i), h'.m⟩ : AH))
        | none => none) = _
      rw [h3]
      rfl
    | cons a l =>
      unfold wrapI at hr
      simp only [hn] at hr
      cases hr
  | false =>
    cases sp with
    | nil =>
      unfold wrapI at hr
      simp only [hn] at hr
      obtain ⟨v, h', h1, h2⟩ := hI _ _ _ _ _ _ _ _ _ _ hr
      refine ⟨v, _, ⟨?_, fun i hi => by cases hi⟩, h2⟩
      rw [stepN_old hn]
      exact h1
    | cons a l =>
      unfold wrapI at hr
      simp only [hn] at hr
      change xiRun (I false q ds o) d s f h (fun v h' => bif again c ops (a :: l) (evX c ds s f) h h' then k v h' else none) = some r at hr
      obtain ⟨v, h', h1, h2⟩ := hI _ _ _ _ _ _ _ _ _ _ hr
      cases hsb : again c ops (a :: l) (evX c ds s f) h h' with
      | false => simp only [hsb, cond_false] at h2; cases h2
      | true =>
        simp only [hsb, cond_true] at h2
        refine ⟨v, h', ⟨?_, again_spec hsb⟩, h2⟩
        rw [stepN_old hn]
        exact h1
theorem compN_nil (c : Cfg) (I : Bool → List Nat → Op → XI) (m N : Nat) (ops : Array Oper) (qs : Nat → Bool) (rc : Option RC) (ds : List Nat) : compN c I m N ops qs rc [] ds = .nil := rfl
theorem compN_cons (c : Cfg) (I : Bool → List Nat → Op → XI) (m N : Nat) (ops : Array Oper) (qs : Nat → Bool) (rc : Option RC) (i : Nat) (l : List Nat) (ds : List Nat) {o : Oper} (ho : ops[i]? = some o) : compN c I m N ops qs rc (i :: l) ds = .cons (opG c (wrapI c I ops (spR rc i) i) m N ops (qs i) ds o) (compN c I m N ops qs rc l (nextDs N o.dst ds)) := by
  show (Option.rec (motive := fun _ => XL) .nil (fun o => .cons (opG c (wrapI c I ops (spR rc i) i) m N ops (qs i) ds o) (compN c I m N ops qs rc l (nextDs N o.dst ds))) ops[i]?) = _
  rw [ho]
theorem runN_trace {c : Cfg} (hH : HintOK c) {I : Bool → Bool → List Nat → Op → XI} (hI : OpsOK c I) {m N : Nat} {ops : Array Oper} {qs : Nat → Bool} {rc : Option RC} {d : XD} {K : XF → AH → Res} {r : V × AH} {lst : List Nat} {idx : Nat → Nat} (hidx : ∀ q, q < lst.length → lst[q]? = some (idx q) ∧ idx q < ops.size) : ∀ (l : List Nat) (q : Nat) (ds : List Nat) (s : List V) (f : XF) (h : AH) (fr : Nat → V), lst.drop q = l → q ≤ lst.length → Rel m N ds s f fr → runL (compN c (I false) m N ops qs rc l ds) d s f h K = some r →
    ∃ (frs : Nat → Nat → V) (hs : Nat → AH), frs q = fr ∧ hs q = h ∧ (∀ j, q ≤ j → j < lst.length → Trace2 (c.at d) N ops qs d.B (idx j) (frs j) (hs j) (frs (j + 1)) (hs (j + 1)) ∧ Apart c ops (spR rc (idx j)) (evO c foFun (frs j)) (hs j) (hs (j + 1))) ∧ ∃ f' ds' s', Rel m N ds' s' f' (frs lst.length) ∧ K f' (hs lst.length) = some r := by
  intro l
  induction l with
  | nil =>
    intro q ds s f h fr hl hle hR hr
    rw [compN_nil, runL_nil] at hr
    have hsz : lst.length ≤ q := List.drop_eq_nil_iff.1 hl
    obtain rfl : q = lst.length := by omega
    exact ⟨fun _ => fr, fun _ => h, rfl, rfl, fun j h1 h2 => by omega, f, ds, s, hR, hr⟩
  | cons i l ih =>
    intro q ds s f h fr hl hle hR hr
    have hlt : q < lst.length := by
      rcases Nat.lt_or_ge q lst.length with h1 | h1
      · exact h1
      · rw [List.drop_eq_nil_iff.2 h1] at hl; cases hl
    have hi : i = idx q := by
      have := congrArg List.head? hl
      rw [List.head?_drop, (hidx q hlt).1] at this
      exact (Option.some.inj this).symm
    have ho : ops[i]? = some ops[i]! := by
      have hlt' := (hidx q hlt).2
      rw [← hi] at hlt'
      rw [Array.getElem?_eq_getElem hlt', getElem!_pos ops i hlt']
    generalize ops[i]! = o at ho
    rw [compN_cons (ho := ho), runL_cons] at hr
    obtain ⟨fr', h', s', f', g1, g2, g3⟩ := opG_specG (St := fun ev h v h' => stepN (c.at d) (d.B + i) (qs i) o.op ev h = some (v, h') ∧ Apart c ops (spR rc i) ev h h') (fun s f h k r hx => wrapI_spec hH hI hx) hR hr
    have hl' : lst.drop (q + 1) = l := by rw [← List.tail_drop, hl]; rfl
    obtain ⟨frs, hs, e1, e2, e3, e4⟩ := ih (q + 1) _ s' f' h' fr' hl' (by omega) g2 g1
    refine ⟨fun j => if j = q then fr else frs j, fun j => if j = q then h else hs j, by simp, by simp, ?_, ?_⟩
    · intro j h1 h2
      by_cases hj : j = q
      · subst hj
        simp only [if_true, if_neg (show ¬ j + 1 = j by omega), e1, e2]
        rw [← hi]
        rcases g3 with ⟨w1, w2, w3⟩ | ⟨w1, v, ⟨w2, w3⟩, w4⟩
        · exact ⟨⟨o, ho, .inl ⟨w1, w2, w3⟩⟩, fun i' _ oi _ v h2 hv => ⟨h2, by rw [w3]; exact hv⟩⟩
        · exact ⟨⟨o, ho, .inr ⟨w1, v, w2, w4⟩⟩, w3⟩
      · simp only [if_neg hj, if_neg (show ¬ j + 1 = q by omega)]
        exact e3 j (by omega) h2
    · simp only [if_neg (show ¬ lst.length = q by omega)]
      exact e4
end Go.Proofs.YtcphjmgfgfjnpaaGreatDoor.Ev
namespace Go.Proofs.YtcphjmgfgfjnpaaGreatDoor.Ev
open Go
def YSound (c : Cfg) (d : XD) : Prop := ∀ (ρ : Rho) (h : AH) (w : World) (b : Nat) (args : List V) (args' : List Value) (v : V) (h' : AH) (cb S : Nat), GOK c ρ → HR ρ h w → ρ b 0 = some (cb, 0, S) → RL ρ args args' → d.Y b args h = some (v, h') →
  ∃ r : Loop, w.heap[cb]? = some (.loop r) ∧ args'.length = r.params.size ∧ ∀ n, RoundIn Fence.wide n c.P cb r.fn ((r.params.zip args'.toArray).foldl (fun tmps (t, a) => tmps.setIfInBounds t a) r.tmps) r.assign r.body w fun e w' => ∃ u ρ', e = .returned u ∧ R ρ' v u ∧ HR ρ' h' w' ∧ Step ρ h w ρ' h' w'
structure DSound (c : Cfg) (d : XD) : Prop where
  C : CSound (c.at d)
  X : XSound (c.at d)
  A : CAbs (c.at d)
  Y : YSound c d
  YA : ∀ b args h v h', d.Y b args h = some (v, h') → AStep h h'
theorem yieldAt_some {ev : Operand → V} {o : Op} {b : Nat} {args : List V} (h : yieldAt ev o = some (b, args)) : ∃ cl f, o = .call cl ∧ cl.callee = .value f ∧ ev f = .yield b ∧ args = cl.args.toList.map ev := by
  unfold yieldAt at h
  split at h
  · rename_i cl
    split at h
    · rename_i f hf
      split at h
      · rename_i b' hb; cases h; exact ⟨cl, f, rfl, hf, hb, rfl⟩
      · cases h
    · cases h
  · cases h
theorem stepX_wpIn {c : Cfg} {d : XD} (hD : DSound c d) {ro : Option Nat} {n : Nat} {ρ : Rho} {h h' : AH} {w : World} {yl quiet : Bool} {o : Oper} {a : Act} {ev : Operand → V} {v : V} (hg : GOK c ρ) (hr : HR ρ h w) (he : ∀ x, R ρ (ev x) (a.eval x)) (hs : stepX c yl quiet o.op d ev h = some (v, h'))
    {next : Act → World → Prop} {Q : Exit → Act → World → Prop} (hn : ∀ u w' ρ', R ρ' v u → HR ρ' h' w' → Step ρ h w ρ' h' w' → next (a.put o.dst u) w') : o.wpIn (fen ro) n c.P a w next Q := by
  unfold stepX at hs
  split at hs
  · rename_i b args hy
    obtain ⟨cl, f, hop, hcl, hf, rfl⟩ := yieldAt_some hy
    have hR := he f
    rw [hf] at hR
    obtain ⟨cb, S, hv, hρ⟩ := hR
    obtain ⟨r, h1, h2, h3⟩ := hD.Y ρ h w b _ _ v h' cb S hg hr hρ (RL_map he cl.args.toList) hs
    refine ⟨fun f _ => fen_fn ro f, ?_⟩
    have hsem : o.semAt (fen ro).round a.eval = execOp a.eval o := Oper.semAt_eq _ _ _ fun cl hcl => by rw [hop] at hcl; cases hcl
    have hrun : (execOp a.eval o).run c.P w = (Instr.yield cb (cl.args.map a.eval)).run c.P w := by
      unfold execOp
      rw [hop]
      unfold resolve
      simp only [hcl, hv, Deferred.ofValue, Sem.run_bind, Sem.run_pure, Result.andThen_ok, invoke]
      congr 2
      simp
    have harr : (cl.args.toList.map a.eval).toArray = cl.args.map a.eval := Array.ext' (by simp)
    rw [hsem, hrun, run_yield h1 (by rw [← h2]; simp)]
    simp only [Oper.uponIn]
    refine ⟨fun hd => (by rw [fen_depth] at hd; cases hd), round_fen ?_⟩
    have h4 := h3 (n - 1)
    rw [harr] at h4
    refine h4.mono ?_
    rintro e w' ⟨u, ρ', rfl, q1, q2, q3⟩
    exact hn u w' ρ' q1 q2 q3
  · exact stepV_wpIn hD.C hD.X hg hr he hs hn
def Marks (B : Nat) (ρ : Rho) (w : World) : List Deferred → Prop
  | [] => True
  | d :: ds => (∃ r, d = { target := .collected r, args := #[] } ∧ B ≤ r ∧ (∀ b L x, ρ b L ≠ some (r, x)) ∧ w.heap[r]? = some (.deferred (some [])) ∧ ∀ d' ∈ ds, d'.target ≠ .collected r) ∧ Marks B ρ w ds
theorem Marks.step {B : Nat} {ρ ρ' : Rho} {h h' : AH} {w w' : World} (hs : Step ρ h w ρ' h' w') : ∀ {ds : List Deferred}, Marks B ρ w ds → Marks B ρ' w' ds := by
  intro ds
  induction ds with
  | nil => intro _; trivial
  | cons d ds ih =>
    rintro ⟨⟨r, h1, h2, h3, h4, h5⟩, hm⟩
    have hlt : r < w.heap.size := (Array.getElem?_eq_some_iff.1 h4).1
    refine ⟨⟨r, h1, h2, ?_, ?_, h5⟩, ih hm⟩
    · intro b L x hx
      obtain ⟨L0, x0, h0⟩ := hs.cons b L r x hx hlt
      exact h3 b L0 x0 h0
    · rw [hs.keep r hlt (by rintro ⟨b, L, x, k, hx, _⟩; exact h3 b L x hx)]; exact h4
def FRX (m : Nat) (ρ : Rho) (f : XF) (tmps : Array Value) : Prop := (∀ t, R ρ (getX f t) (tmps.getD t undef)) ∧ ∀ t, msk m t = false → getX f t = .bad
theorem FRX.mono {m : Nat} {ρ ρ' : Rho} {f : XF} {tmps : Array Value} (h : FRX m ρ f tmps) (hle : ρ.le ρ') : FRX m ρ' f tmps := ⟨fun t => (h.1 t).mono hle, h.2⟩
theorem Rel.frx {m N : Nat} {ds : List Nat} {s : List V} {f : XF} {fr : Nat → V} {ρ : Rho} {tmps : Array Value} (h : Rel m N ds s f fr) (hf : FR foFun ρ fr tmps) : FRX m ρ f tmps := by
  refine ⟨fun t => ?_, h.bad⟩
  cases hm : msk m t with
  | true => rw [h.kept t hm]; exact hf t
  | false => rw [h.bad t hm]; trivial
def XPost (B m N : Nat) (c : Cfg) (ρ0 : Rho) (h0 : AH) (w0 : World) (r : V × AH) (k : XF → AH → Res) (Q : Act → World → Prop) : Prop :=
  ∀ (f : XF) (h : AH) (a : Act) (w : World) (ρ : Rho), k f h = some r → FRX m ρ f a.tmps → a.tmps.size = N → Marks B ρ w a.defers → GOK c ρ → HR ρ h w → Step ρ0 h0 w0 ρ h w → Q a w
theorem XPost.step {B m N : Nat} {c : Cfg} {ρ0 ρ1 : Rho} {h0 h1 : AH} {w0 w1 : World} {r : V × AH} {k : XF → AH → Res} {Q : Act → World → Prop} (hr : HR ρ0 h0 w0) (hs : Step ρ0 h0 w0 ρ1 h1 w1) (hp : XPost B m N c ρ0 h0 w0 r k Q) : XPost B m N c ρ1 h1 w1 r k Q :=
  fun f h a w ρ hk hf hN hd hg hh hst => hp f h a w ρ hk hf hN hd hg hh (Step.trans hr hs hst)
theorem runL_wp {c : Cfg} {d : XD} (hD : DSound c d) {I : Bool → Bool → List Nat → Op → XI} (hI : OpsOK c I) {ro : Option Nat} {n B m N : Nat} {ops : Array Oper} {qs : Nat → Bool} {yl : Bool} {Q : Exit → Act → World → Prop} {K : XF → AH → Res} {r : V × AH} : ∀ (l : List Oper) (i : Nat) (ds : List Nat) (s : List V) (f : XF) (h : AH) (fr : Nat → V) (a : Act) (w : World) (ρ : Rho), ops.toList.drop i = l → Rel m N ds s f fr → runL (compL c (I yl) m N ops qs l i ds) d s f h K = some r →
    FR foFun ρ fr a.tmps → a.tmps.size = N → Marks B ρ w a.defers → GOK c ρ → HR ρ h w → XPost B m N c ρ h w r K (Q .normal) → wpOpsIn (fen ro) n c.P ops Q (List.range' i l.length) a w := by
  intro l
  induction l with
  | nil =>
    intro i ds s f h fr a w ρ _ hR hr hf hN hd hg hh hp
    exact hp f h a w ρ hr (hR.frx hf) hN hd hg hh (Step.refl _ _ _)
  | cons o l ih =>
    intro i ds s f h fr a w ρ hl hR hr hf hN hd hg hh hp
    rw [compL_cons, runL_cons] at hr
    have ho : ops[i]? = some o := by
      have := congrArg List.head? hl
      rw [List.head?_drop] at this
      rw [← Array.getElem?_toList]; exact this
    have hl' : ops.toList.drop (i + 1) = l := by rw [← List.tail_drop, hl]; rfl
    rcases opN_cases hR hr with hr | ⟨x, cl, hop, hgd, hnl, hne, hall⟩
    rotate_left
    · rw [List.length_cons, List.range'_succ]
      unfold wpOpsIn
      simp only [ho]
      have hw : wantedV foFun ops o fr = some true := by unfold wantedV; rw [hgd]
      rw [wantedV_sound hf hw]
      simp only [if_true]
      obtain ⟨p, hp1, u, w', ρ', e1, e2, e3, e4⟩ := nextL_sound (P := c.P) (ty := o.type) hh (evO_R hg hf x) hnl
      obtain ⟨s', f', g1, g2⟩ := hall p hp1
      refine ⟨fun f _ => fen_fn ro f, ?_⟩
      have hsem : o.semAt (fen ro).round a.eval = execOp a.eval o := Oper.semAt_eq _ _ _ fun cl hcl => by rw [hop] at hcl; cases hcl
      have hrun : (execOp a.eval o).run c.P w = .ok (.value u) w' := by
        unfold execOp
        rw [hop]
        simp only [Sem.run_bind, e1, Result.andThen_ok, Sem.run_pure]
      rw [hsem, hrun]
      exact ih _ _ _ _ _ _ _ w' ρ' hl' g2 g1 ((hf.mono e4.le).put hN o.dst e2) (by rw [put_size]; exact hN) (by rw [put_defers]; exact hd.step e4) (hg.mono e4.le) e3 (hp.step hh e4)
    obtain ⟨fr', h', s', f', g1, g2, g3⟩ := opG_spec hI hR hr
    rw [List.length_cons, List.range'_succ]
    unfold wpOpsIn
    simp only [ho]
    rcases g3 with ⟨hw, rfl, rfl⟩ | ⟨hw, v, hs, rfl⟩
    · rw [wantedV_sound hf hw]
      simp only [Bool.false_eq_true, if_false]
      exact ⟨fun f _ => fen_fn ro f, ih _ _ _ _ _ _ _ w ρ hl' g2 g1 (hf.put hN o.dst (undefV_R ρ)) (by rw [put_size]; exact hN) (by rw [put_defers]; exact hd) hg hh hp⟩
    · rw [wantedV_sound hf hw]
      simp only [if_true]
      refine stepX_wpIn hD hg hh (evO_R hg hf) hs ?_
      intro u w' ρ' q1 q2 q3
      exact ih _ _ _ _ _ _ _ w' ρ' hl' g2 g1 ((hf.mono q3.le).put hN o.dst q1) (by rw [put_size]; exact hN) (by rw [put_defers]; exact hd.step q3) (hg.mono q3.le) q2 (hp.step hh q3)
end Go.Proofs.YtcphjmgfgfjnpaaGreatDoor.Ev
namespace Go.Proofs.YtcphjmgfgfjnpaaGreatDoor.Ev
open Go
section
variable {P : Program} {b : Frame} {a : Act} {k : List Item} {cs : List Frame} {w : World}
theorem stepR_scope' {c : Code} : step P (lone (b.atR a (.code (.scope c) :: k)) cs w) = .next (lone (b.atR a (.code c :: .inScope c :: k)) cs w) := step_lone_go (by simp [stepG, stepG.exec, Frame.atR])
theorem stepR_inScope' {c : Code} : step P (lone (b.atR a (.inScope c :: k)) cs w) = .next (lone (b.atR a k) cs w) := step_lone_go (by simp [stepG, stepG.exec, Frame.atR])
end
def jumpsIn (F : Fence) (n : Nat) (P : Program) (c : Code) (Q : Exit → Act → World → Prop) : Nat → Code → Act → World → Prop
  | 0, _, _, _ => False
  | m + 1, cur, a, w => cur.wpIn F n P (fun e a' w' => match e with
    | .goto l => match findLabel c l with
      | some rest => jumpsIn F n P c Q m rest a' w'
      | none => Q (.goto l) a' w'
    | e => Q e a' w') a w
theorem wpIn_scope_jumps {F : Fence} {n : Nat} {P : Program} {Q : Exit → Act → World → Prop} {a : Act} {w : World} {c : Code} (m : Nat) (h : jumpsIn F n P c Q m c a w) : (Code.scope c).wpIn F n P Q a w := by
  intro b k cs hro hb hr
  have key : ∀ m cur a w, jumpsIn F n P c Q m cur a w → ∃ e a' w', Q e a' w' ∧ ArrivesIn (Machine.fenced P F) P (lone (b.atR a (.code cur :: .inScope c :: k)) cs w) b k cs e a' w' := by
    intro m
    induction m with
    | zero => intro cur a w h; exact h.elim
    | succ m ih =>
      intro cur a w h
      obtain ⟨e, a₁, w₁, hq, harr⟩ := h b (.inScope c :: k) cs hro hb hr
      cases e with
      | normal => exact ⟨.normal, a₁, w₁, hq, StepsIn.trans harr (.one (fenced_calm hb hr rfl) stepR_inScope')⟩
      | exit id =>
        have hx : exitTo id (.inScope c :: k) = exitTo id k := by simp [exitTo]
        exact ⟨.exit id, a₁, w₁, hq, fun k' hk => harr.1 k' (by rw [hx]; exact hk), fun hr' hk => harr.2 hr' (by rw [hx]; exact hk)⟩
      | goto l =>
        simp only at hq
        cases hf : findLabel c l with
        | some rest =>
          rw [hf] at hq
          obtain ⟨e₂, a₂, w₂, hq₂, harr₂⟩ := ih rest a₁ w₁ hq
          exact ⟨e₂, a₂, w₂, hq₂, .of_steps (harr.1 _ (by simp [gotoIn, hf])) harr₂⟩
        | none =>
          rw [hf] at hq
          have hx : gotoIn l (.inScope c :: k) = gotoIn l k := by simp [gotoIn, hf]
          exact ⟨.goto l, a₁, w₁, hq, fun k' hk => harr.1 k' (by rw [hx]; exact hk), fun hr' hk => harr.2 hr' (by rw [hx]; exact hk)⟩
      | ret => exact ⟨_, a₁, w₁, hq, harr⟩
      | panic ch => exact ⟨_, a₁, w₁, hq, harr⟩
      | outgrown => exact ⟨_, a₁, w₁, hq, harr⟩
  obtain ⟨e, a', w', hq, harr⟩ := key m c a w h
  exact ⟨e, a', w', hq, .of_steps (.one (fenced_calm hb hr rfl) stepR_scope') harr⟩
theorem loopOf_spec {ρ : Rho} {h : AH} {w : World} (hr : HR ρ h w) {b : Nat} {R T j : V} {st : Int} (hm : loopOf h b = some (R, T, st, j)) :
    ∃ k cb S r, h.get b = some k ∧ k.IsObj ∧ ρ b 0 = some (cb, 0, S) ∧ w.heap[cb]? = some (.loop r) ∧ ∃ fn tm, R = .rcd fn r.params r.assign r.body ∧ T = .tuple tm ∧ RL ρ tm r.tmps.toList ∧ st = stateN r.state ∧ jumpV r.pending = some j := by
  unfold loopOf at hm
  split at hm
  · rename_i k hk
    split at hm
    · rename_i hc
      obtain ⟨h1, h2, h3⟩ := hc
      obtain ⟨_, cb, S, g1, g2⟩ := hr.obj b k hk ⟨h1, h2⟩
      rw [h3] at g2
      obtain ⟨r, g3, fn, tm, j', g4, g5, g6⟩ := g2
      split at hm
      · rename_i hz
        cases hm
        rw [hz] at g4
        cases g4
        exact ⟨k, cb, S, r, hk, ⟨h1, h2⟩, g1, g3, fn, tm, rfl, rfl, g5, rfl, g6⟩
      · cases hm
    · cases hm
  · cases hm
theorem putLoop_sound {ρ : Rho} {h : AH} {w : World} (hr : HR ρ h w) {b : Nat} {k : Blk} (hk : h.get b = some k) (hob : k.IsObj) {cb S : Nat} (hb : ρ b 0 = some (cb, 0, S)) {fn : Nat} {tm : List V} {j : V} {st : Int} (r : Loop) (h1 : RL ρ tm r.tmps.toList) (h2 : st = stateN r.state) (h3 : jumpV r.pending = some j) :
    HR ρ (putLoop h b (.rcd fn r.params r.assign r.body) (.tuple tm) st j) (w.putObj cb (.loop r)) ∧ Step ρ h w ρ (putLoop h b (.rcd fn r.params r.assign r.body) (.tuple tm) st j) (w.putObj cb (.loop r)) :=
  obj_set hr hk hob hb 1 _ _ ⟨r, rfl, fn, tm, j, by rw [h2], h1, h3⟩
structure XKPost (B m N : Nat) (c : Cfg) (ρ0 : Rho) (h0 : AH) (w0 : World) (r : V × AH) (k : XK) (Q : Exit → Act → World → Prop) : Prop where
  norm : XPost B m N c ρ0 h0 w0 r k.norm (Q .normal)
  exit : ∀ id, XPost B m N c ρ0 h0 w0 r (k.exit id) (Q (.exit id))
  goto : ∀ l, XPost B m N c ρ0 h0 w0 r (k.goto l) (Q (.goto l))
  ret : XPost B m N c ρ0 h0 w0 r k.ret (Q .ret)
theorem XKPost.step {B m N : Nat} {c : Cfg} {ρ0 ρ1 : Rho} {h0 h1 : AH} {w0 w1 : World} {r : V × AH} {k : XK} {Q : Exit → Act → World → Prop} (hr : HR ρ0 h0 w0) (hs : Step ρ0 h0 w0 ρ1 h1 w1) (hp : XKPost B m N c ρ0 h0 w0 r k Q) : XKPost B m N c ρ1 h1 w1 r k Q :=
  ⟨hp.norm.step hr hs, fun id => (hp.exit id).step hr hs, fun l => (hp.goto l).step hr hs, hp.ret.step hr hs⟩
theorem XPost.at {B m N : Nat} {c : Cfg} {ρ : Rho} {h : AH} {w : World} {r : V × AH} {k : XF → AH → Res} {Q : Act → World → Prop} (hp : XPost B m N c ρ h w r k Q) {f : XF} {a : Act} (hk : k f h = some r) (hf : FRX m ρ f a.tmps) (hN : a.tmps.size = N) (hd : Marks B ρ w a.defers) (hg : GOK c ρ) (hh : HR ρ h w) : Q a w :=
  hp f h a w ρ hk hf hN hd hg hh (Step.refl _ _ _)
theorem onN_some {fm : Option Nat} {r : Res} {x : V × AH} (h : onN fm r = some x) : fm = none ∧ r = some x := by
  cases fm with
  | none => exact ⟨rfl, h⟩
  | some l => cases h
theorem HR.bump {ρ : Rho} {h : AH} {w : World} (hr : HR ρ h w) (n : Nat) : HR ρ ⟨h.next + n, h.low, h.m⟩ w :=
  ⟨fun b L x hx => Nat.lt_of_lt_of_le (hr.fresh b L x hx) (Nat.le_add_right _ _), fun b k hk => Nat.lt_of_lt_of_le (hr.lives b k hk) (Nat.le_add_right _ _), hr.bound, fun b L b' L' cb x x' k h1 h2 hk hro => hr.inj b L b' L' cb x x' k h1 h2 hk hro, fun b k L x hk hx => hr.top b k L x hk hx, fun b k L cb sh S hk hx hm => hr.blk b k L cb sh S hk hx hm, fun b k hk ho => hr.obj b k hk ho⟩
open Classical in
theorem draw_region {c : Cfg} {d : XD} {ro : Option Nat} {n : Nat} (hD : DSound c d) (hmix : c.P.follows .mixedOrders = true) {I : Bool → Bool → List Nat → Op → XI} (hI : OpsOK c I) {B m N id : Nat} {ops : Array Oper} {Q : Exit → Act → World → Prop} {K : XF → AH → Res} {r : V × AH} {f : XF} {h : AH} {a : Act} {w : World} {ρ : Rho}
    {qm : Nat} {rc : Option RC} (hcb : certB c.P ops (Region.before ops) qm rc = true) (hr : runL (compN c (I false) m N ops (fun i => Nat.testBit qm i) rc (ordL rc ops.size) []) ⟨d.C, d.Y, h.next⟩ [] f ⟨h.next + ops.size, h.low, h.m⟩ K = some r) (hf : FRX m ρ f a.tmps) (hN : a.tmps.size = N) (hd : Marks B ρ w a.defers) (hg : GOK c ρ) (hh : HR ρ h w) (hp : XPost B m N c ρ h w r K (Q .normal)) :
    (Code.region id ops true).wpIn (fen ro) n c.P Q a w := by
  obtain ⟨hok, hlen⟩ := certB_ok hcb
  have hl : (ordL rc ops.size).length = ops.size := by
    cases rc with
    | none => exact List.length_range
    | some rc => exact Nat.eq_of_beq_eq_true hlen
  have hidx : ∀ q, q < (ordL rc ops.size).length → (ordL rc ops.size)[q]? = some (idxR rc q) ∧ idxR rc q < ops.size := by
    intro q hq
    refine ⟨?_, (hok.ip q (by omega)).1⟩
    cases rc with
    | none => rw [hl] at hq; exact List.getElem?_range hq
    | some rc =>
      show rc.l[q]? = some (rc.l.getD q 0)
      have hq' : q < rc.l.length := hq
      rw [List.getD_eq_getElem?_getD, List.getElem?_eq_getElem hq']
      rfl
  have hH : HintOK c := hD.A.2.2
  obtain ⟨frs, hs, e1, e2, e3, f', ds', s', e4, e5⟩ := runN_trace hH hI hidx (ordL rc ops.size) 0 [] [] f ⟨h.next + ops.size, h.low, h.m⟩ (getX f) rfl (Nat.zero_le _) (Rel.start hf.2) hr
  rw [hl] at e3 e4 e5
  refine wpIn_region_any hmix ?_
  have hr' := hh.drawn
  have hst := Step.drawn ρ h w
  have hfalse : ∀ j, (Array.replicate ops.size false).getD j false = false := by
    intro j
    rw [Array.getD_eq_getD_getElem?, Array.getElem?_replicate]
    split <;> rfl
  let k' : (Nat → V) → AH → Res := fun fr h1 => if ∃ f' ds' s', Rel m N ds' s' f' fr ∧ K f' h1 = some r then some r else none
  have hk' : k' (frs ops.size) (hs ops.size) = some r := if_pos ⟨f', ds', s', e4, e5⟩
  have hpost : Post a.defers (c.at d) foFun N ρ h { w with drawn := w.drawn + 1 } r k' (Q .normal) := by
    intro fr1 h1 a1 w1 ρ1 hk1 hf1 hN1 hd1 hg1 hr1 hs1
    have hex : ∃ f' ds' s', Rel m N ds' s' f' fr1 ∧ K f' h1 = some r := by
      by_cases hx : ∃ f' ds' s', Rel m N ds' s' f' fr1 ∧ K f' h1 = some r
      · exact hx
      · have : k' fr1 h1 = none := if_neg hx
        rw [this] at hk1; cases hk1
    obtain ⟨f1, ds1, s1, q1, q2⟩ := hex
    have hst1 := Step.trans hh hst hs1
    exact hp f1 h1 a1 w1 ρ1 q2 (q1.frx hf1) hN1 (by rw [hd1]; exact hd.step hst1) hg1 hr1 hst1
  have hnone : ∀ i, (hs 0).get (h.next + i) = none := by
    intro i
    rw [e2]
    cases hb : (⟨h.next + ops.size, h.low, h.m⟩ : AH).get (h.next + i) with
    | none => rfl
    | some k => have := hh.lives (h.next + i) k hb; omega
  have hbase : (hs 0).next = h.next + ops.size := by rw [e2]
  have ht : ∀ q, q < ops.size → Trace2 (c.at d) N ops (fun i => Nat.testBit qm i) h.next (idxR rc q) (frs q) (hs q) (frs (q + 1)) (hs (q + 1)) := fun q hq => (e3 q (Nat.zero_le _) hq).1
  refine draw_wp2 (c := c.at d) hD.C hD.X hD.A hok ht hbase (fun i _ => hnone i) ?_ hk' hr' rfl hpost ops.size _ a _ ρ 0 (hs 0) ?_ ?_
  · rintro i s oi v h2 hoi ⟨hs', hmem, hlt, oi', hoi', hstab⟩ hv
    rw [hoi] at hoi'
    cases hoi'
    obtain ⟨p1, p2⟩ := hok.pi s hs'
    have hap := (e3 (posR rc s) (Nat.zero_le _) p1).2
    rw [p2] at hap
    have hev : ∀ x, x ∈ oi.op.operands.toList → evO c foFun (frs (posR rc i)) x = evO c foFun (frs (posR rc s)) x := by
      intro x hx
      cases x with
      | tmp t =>
        have hfr := t_frame ht t (posR rc s - posR rc i) (posR rc i) (by omega) (fun q o h1 h2 ho hdst => by
          unfold stableB at hstab
          rw [List.all_eq_true] at hstab
          have h3 := hstab _ hx
          simp only at h3
          rw [List.all_eq_true] at h3
          obtain ⟨g1, g2⟩ := hok.ip q (by omega)
          have h4 := h3 (idxR rc q) (List.mem_range.2 g1)
          rw [ho] at h4
          simp only [hdst, beq_self_eq_true, Bool.not_true, Bool.false_or, g2] at h4
          rw [Arr.blt_eq] at h4
          have := of_decide_eq_true h4
          omega)
        rw [show posR rc i + (posR rc s - posR rc i) = posR rc s from by omega] at hfr
        exact hfr.symm
      | const v => rfl
      | global g => rfl
      | func g => rfl
    have hcall : isCall oi.op = none := by
      cases hi : isCall oi.op with
      | none => rfl
      | some cl => rw [sop_call hi] at hv; cases hv
    have hcg : ∀ h, sop c.P oi.op (evO c foFun (frs (posR rc i))) h = sop c.P oi.op (evO c foFun (frs (posR rc s))) h := fun h => sop_congr hcall hev h
    have hv' : sop c.P oi.op (evO c foFun (frs (posR rc s))) (hs (posR rc s)) = some (v, h2) := by rw [← hcg]; exact hv
    obtain ⟨h3, hh3⟩ := hap i hmem oi hoi v h2 hv'
    exact ⟨h3, by rw [← hcg] at hh3; exact hh3⟩
  · refine Nat.le_trans (List.length_filter_le _ _) ?_
    simp
  · have hM : HR ρ (hs 0) { w with drawn := w.drawn + 1 } := by rw [e2]; exact hr'.bump _
    refine ⟨by simp, (fun i j hj _ => by rw [hfalse] at hj; cases hj), Nat.zero_le _, (fun i o _ _ _ => by rw [hfalse]; simp), (fun i o _ _ h => by omega), rfl, (fun _ _ => rfl), (fun i o _ _ _ h => by rw [hfalse] at h; cases h), ?_, ?_, ?_, hM, ?_, hg, ?_, hN, rfl⟩
    · intro i o _ _ _
      refine ⟨hnone i, fun L => ?_⟩
      cases hρ : ρ (h.next + i) L with
      | none => rfl
      | some y => have := hh.fresh _ _ _ hρ; omega
    · intro q hq b kk hb
      obtain rfl : q = 0 := by omega
      exact hM.lives b kk hb
    · exact (t_next_le (c := c.at d) hD.A ht (Nat.zero_le _) (Nat.le_refl _)).2
    · rw [e2]
      exact (Step.refl ρ h { w with drawn := w.drawn + 1 }).other (fun _ _ => rfl) (Nat.le_add_right _ _) (Nat.le_refl _)
    · intro t
      exact ⟨0, Nat.zero_le _, (fun i o _ _ => by rw [hfalse]; simp), by rw [e1]; exact hf.1 t⟩
theorem stateN_one {s : LoopState} (h : stateN s ≠ 1) : s ≠ .busy := fun e => h (by rw [e]; rfl)
theorem stateN_zero {s : LoopState} (h : stateN s = 0) : s = .ready := by cases s <;> first | rfl | (simp [stateN] at h)
theorem leapX_wp {c : Cfg} {ro : Option Nat} {n B m N : Nat} {ρ : Rho} {h : AH} {w : World} {r : V × AH} {k : XK} {Q : Exit → Act → World → Prop} (hp : XKPost B m N c ρ h w r k Q) {f : XF} {a : Act} {j : V} {pend : Option Code} (hj : jumpV pend = some j) (hk : leapX j f h k = some r) (hf : FRX m ρ f a.tmps) (hN : a.tmps.size = N) (hd : Marks B ρ w a.defers) (hg : GOK c ρ) (hh : HR ρ h w) :
    (pend = none → Q .normal a w) ∧ ∀ cd, pend = some cd → cd.wpIn (fen ro) n c.P Q a w := by
  unfold jumpV at hj
  split at hj
  · cases hj; exact ⟨fun _ => hp.norm.at hk hf hN hd hg hh, fun cd e => (by cases e)⟩
  · cases hj; exact ⟨fun e => (by cases e), fun cd e => by cases e; exact wpIn_ret (hp.ret.at hk hf hN hd hg hh)⟩
  · rename_i id; cases hj; exact ⟨fun e => (by cases e), fun cd e => by cases e; exact wpIn_exit ((hp.exit id).at (show k.exit (id : Int).toNat f h = some r from hk) hf hN hd hg hh)⟩
  · rename_i l; cases hj; exact ⟨fun e => (by cases e), fun cd e => by cases e; exact wpIn_goto ((hp.goto l).at (show k.goto (l : Int).toNat f h = some r from hk) hf hN hd hg hh)⟩
  · cases hj
theorem RL_range {ρ : Rho} {m : Nat} {f : XF} {tmps : Array Value} (h : FRX m ρ f tmps) : RL ρ ((List.range tmps.size).map (getX f)) tmps.toList := by
  refine RL.of_get (by simp) ?_
  intro i x y hx hy
  have hi : i < tmps.size := by
    have := (List.getElem?_eq_some_iff.1 hx).1
    simpa using this
  have h1 := h.1 i
  rw [Array.getD_eq_getD_getElem?] at h1
  rw [Array.getElem?_toList] at hy
  rw [hy] at h1
  simp only [List.getElem?_map, List.getElem?_range hi, Option.map_some, Option.some.injEq] at hx
  rw [← hx]
  exact h1
theorem range_wp {c : Cfg} {d : XD} (hD : DSound c d) {n B m N fid : Nat} {Q : Exit → Act → World → Prop} {g : Operand} {ps : Array Tmp} {aas bd : Code} {f : XF} {h : AH} {k : XK} {r : V × AH} {a : Act} {w : World} {ρ : Rho} (hs : rangeX c d false fid N g ps aas bd f h k = some r)
    (hB : B ≤ w.heap.size) (hf : FRX m ρ f a.tmps) (hN : a.tmps.size = N) (hd : Marks B ρ w a.defers) (hg : GOK c ρ) (hh : HR ρ h w) (hp : XKPost B m N c ρ h w r k Q) : (Code.rangeFunc g ps aas bd).wpIn Fence.wide n c.P Q a w := by
  unfold rangeX at hs
  simp only [Bool.false_eq_true, if_false] at hs
  split at hs
  · rename_i f' fs cs hev
    split at hs
    · rename_i hbody
      split at hs
      · rename_i v h2 hcall
        have hevR : R ρ (evX c [] [] f g) (a.eval g) := by
          have := evO_R (c := c) (fo := foFun) (fr := getX f) (a := a) hg hf.1 g
          rw [← evX_eq (Rel.start (N := N) hf.2)] at this
          exact this
        rw [hev] at hevR
        obtain ⟨xs, ys, hval, hxs, hys⟩ := hevR
        refine wpIn_rangeFunc fun fn _ => ?_
        have hh1 : HR ρ h (w.alloc (.deferred (some []))) := hh.push rfl
        have hst1 : Step ρ h w ρ h (w.alloc (.deferred (some []))) := (Step.refl ρ h w).push rfl rfl rfl rfl
        let L : Loop := { state := .ready, pending := none, fn := fn, tmps := a.tmps, params := ps, assign := aas, body := bd, defers := w.heap.size }
        obtain ⟨ρ1, o1, o2, o3⟩ := obj_new hh1 1 [.rcd fid ps aas bd, .tuple ((List.range N).map (getX f)), .int .i64 0, .tuple []] (.loop L) ⟨L, rfl, fid, _, _, rfl, by rw [← hN]; exact RL_range hf, rfl⟩
        have o2' := Step.trans hh hst1 o2
        have hsz : (w.alloc (.deferred (some []))).heap.size = w.heap.size + 1 := World.size_alloc w _
        rw [hsz] at o3
        have hRL : RL ρ1 (fs ++ [.yield h.next] ++ cs) (xs.toList ++ [Value.func (.yield (w.heap.size + 1)) #[] #[]] ++ ys.toList) :=
          ((RL.mono o2'.le hxs).append (show RL ρ1 [V.yield h.next] [Value.func (.yield (w.heap.size + 1)) #[] #[]] from ⟨_, [], rfl, ⟨w.heap.size + 1, 0, rfl, o3⟩, rfl⟩)).append (RL.mono o2'.le hys)
        have hcalls := hD.C ρ1 _ _ f' _ _ v h2 (hg.mono o2'.le) o1 hRL hcall
        obtain ⟨fn', hfn', hname⟩ : ∃ fn', c.P.funcs[f']? = some fn' ∧ (fn'.name == "runtime.NumGoroutine") = false ∧ fn'.body.isSome = true := by
          unfold hasBody at hbody
          split at hbody
          · cases hbody
          · rename_i fn' hfn'
            split at hbody
            · cases hbody
            · rename_i hnm; exact ⟨fn', hfn', by simpa using hnm, Option.some.inj hbody⟩
        refine ⟨w.heap.size + 1, [{ target := .collected w.heap.size, args := #[] }], (w.alloc (.deferred (some []))).alloc (.loop L), { target := .fn (.func f') ys, args := xs ++ #[Value.func (.yield (w.heap.size + 1)) #[] #[]] }, (w.alloc (.deferred (some []))).alloc (.loop L), f', (xs.toList ++ [Value.func (.yield (w.heap.size + 1)) #[] #[]] ++ ys.toList).toArray, (w.alloc (.deferred (some []))).alloc (.loop L), run_enterLoop_outer fn a.tmps ps aas bd, ?_, fun f' _ => trivial, ?_, fun hx => (by cases hx), ?_⟩
        · unfold resolve
          simp only [rangeCall, hval, Deferred.ofValue, Sem.run_pure]
          rw [show Array.map a.eval #[Operand.const (Value.func (Fn.yield (w.heap.size + 1)) #[] #[])] = #[Value.func (Fn.yield (w.heap.size + 1)) #[] #[]] from by simp [Act.eval]]
        · unfold invoke
          simp only
          rw [show xs ++ #[Value.func (.yield (w.heap.size + 1)) #[] #[]] ++ ys = (xs.toList ++ [Value.func (.yield (w.heap.size + 1)) #[] #[]] ++ ys.toList).toArray from Array.ext' (by simp)]
          exact callFunc_body hfn' hname.1 hname.2 _ _
        · refine callsIn_wide.2 (hcalls.mono ?_)
          rintro e w3 ⟨u, ρ2, rfl, q1, q2, q3⟩
          have q3' := Step.trans hh o2' q3
          unfold endX at hs
          cases hlo : loopOf h2 h.next with
          | none => rw [hlo] at hs; cases hs
          | some p =>
            obtain ⟨R', T', st, j⟩ := p
            rw [hlo] at hs
            simp only at hs
            split at hs
            · cases hs
            · rename_i hst
              obtain ⟨kb, cb, S, r', g1, g2, g3, g4, fn2, tm, rfl, rfl, g5, g6, g7⟩ := loopOf_spec q2 hlo
              rw [q3.le _ _ _ o3] at g3
              cases g3
              have hb := stateN_one (s := r'.state) (by rw [← g6]; exact hst)
              obtain ⟨p1, p2⟩ := putLoop_sound q2 g1 g2 (q3.le _ _ _ o3) (fn := fn2) (tm := tm) (j := j) (st := 3) { r' with state := .exhausted } g5 rfl g7
              refine ⟨r'.pending, _, run_endLoop g4 hb, ?_⟩
              have p2' := Step.trans hh q3' p2
              have hmark : Marks B ρ2 (w3.putObj (w.heap.size + 1) (.loop { r' with state := .exhausted })) ([{ target := .collected w.heap.size, args := #[] }] ++ a.defers) := by
                refine ⟨⟨w.heap.size, rfl, hB, ?_, ?_, ?_⟩, hd.step p2'⟩
                · intro b Lb x hx
                  have hlt2 : w.heap.size < (w.alloc (.deferred (some []))).heap.size := by rw [hsz]; omega
                  obtain ⟨L0, x0, h0⟩ := (Step.trans hh1 o2 (Step.trans o1 q3 p2)).cons b Lb w.heap.size x hx hlt2
                  exact absurd (hh.bound _ _ _ _ h0) (Nat.lt_irrefl _)
                · have hk0 : (w.alloc (.deferred (some []))).heap[w.heap.size]? = some (.deferred (some [])) := World.alloc_heap_new w _
                  have hlt2 : w.heap.size < (w.alloc (.deferred (some []))).heap.size := by rw [hsz]; omega
                  rw [(Step.trans hh1 o2 (Step.trans o1 q3 p2)).keep w.heap.size hlt2 (by rintro ⟨b, Lb, x, kk, hx, _⟩; exact absurd (hh.bound _ _ _ _ hx) (Nat.lt_irrefl _))]
                  exact hk0
                · intro d' hd' he
                  have : ∀ {ds : List Deferred}, Marks B ρ w ds → d' ∈ ds → d'.target ≠ .collected w.heap.size := by
                    intro ds
                    induction ds with
                    | nil => intro _ hm; cases hm
                    | cons d0 ds ih =>
                      rintro ⟨⟨r0, e1, _, _, e4, _⟩, hm⟩ hmem
                      rcases List.mem_cons.1 hmem with e | e
                      · intro ht
                        rw [e, e1] at ht
                        cases ht
                        exact absurd (Array.getElem?_eq_some_iff.1 e4).1 (Nat.lt_irrefl _)
                      · exact ih hm e
                  exact this hd hd' he
              have hj := leapX_wp (ro := none) (n := n) (a := { a with defers := [{ target := .collected w.heap.size, args := #[] }] ++ a.defers }) (hp.step hh p2') g7 hs (hf.mono p2'.le) hN hmark (hg.mono p2'.le) p1
              clear hmark p2' p1 p2
              generalize w3.putObj (w.heap.size + 1) _ = W at hj ⊢
              generalize r'.pending = pend at hj ⊢
              cases pend with
              | none => exact hj.1 rfl
              | some cd => exact hj.2 cd rfl
      · cases hs
    · cases hs
  · cases hs
def FromWp (F : Fence) (n : Nat) (P : Program) (Q : Exit → Act → World → Prop) (code : Code) (fm : Option Nat) (a : Act) (w : World) : Prop :=
  match fm with
  | none => code.wpIn F n P Q a w
  | some l => ∃ rest, findLabel code l = some rest ∧ rest.wpIn F n P Q a w
theorem xexec_wp {c : Cfg} {d : XD} (hD : DSound c d) (hmix : c.P.follows .mixedOrders = true) {I : Bool → Bool → List Nat → Op → XI} (hI : OpsOK c I) {ro : Option Nat} {gd : Bool} {qt : Nat → QC} {n B m N fid fuel : Nat} {r : V × AH} : ∀ (code : Code) (fm : Option Nat) (k : XK) (Q : Exit → Act → World → Prop) (ρ : Rho) (f : XF) (h : AH) (a : Act) (w : World),
    (gd = true → drawsOK c.P qt code = true) → xexec c I d ro.isSome gd qt fid N m fuel code fm f h k = some r → B ≤ w.heap.size → FRX m ρ f a.tmps → a.tmps.size = N → Marks B ρ w a.defers → GOK c ρ → HR ρ h w → XKPost B m N c ρ h w r k Q → FromWp (fen ro) n c.P Q code fm a w := by
  intro code
  induction code with
  | skip =>
    intro fm k Q ρ f h a w hgd he hB hf hN hd hg hh hp
    rw [xexec_skip] at he
    obtain ⟨rfl, he⟩ := onN_some he
    exact wpIn_skip (hp.norm.at he hf hN hd hg hh)
  | region id ops draw =>
    intro fm k Q ρ f h a w hgd he hB hf hN hd hg hh hp
    rw [xexec_region] at he
    obtain ⟨rfl, he⟩ := onN_some he
    unfold regX at he
    cases draw with
    | false =>
      change runL (compL c (I true) m N ops (fun _ => false) ops.toList 0 []) d [] f h k.norm = some r at he
      refine wpIn_region ?_
      have := runL_wp (ro := ro) (n := n) (B := B) hD hI ops.toList 0 [] [] f h (getX f) a w ρ rfl (Rel.start hf.2) he hf.1 hN hd hg hh hp.norm
      rw [Array.length_toList] at this
      rw [List.range_eq_range']
      exact this
    | true =>
      cases gd with
      | false => cases he
      | true => exact draw_region hD hmix hI (hgd rfl) he hf hN hd hg hh hp.norm
  | seq x y ihx ihy =>
    intro fm k Q ρ f h a w hgd he hB hf hN hd hg hh hp
    have hgx : gd = true → drawsOK c.P qt x = true := fun e => by
      have h0 : (Bool.rec (motive := fun _ => Bool) false (drawsOK c.P qt y) (drawsOK c.P qt x)) = true := hgd e
      cases h1 : drawsOK c.P qt x with
      | true => rfl
      | false => rw [h1] at h0; cases h0
    have hgy : gd = true → drawsOK c.P qt y = true := fun e => by
      have h0 : (Bool.rec (motive := fun _ => Bool) false (drawsOK c.P qt y) (drawsOK c.P qt x)) = true := hgd e
      rw [hgx e] at h0
      exact h0
    have hpost : XPost B m N c ρ h w r (fun f h => xexec c I d ro.isSome gd qt fid N m fuel y none f h k) (fun a w => y.wpIn (fen ro) n c.P Q a w) := by
      intro f1 h1 a1 w1 ρ1 hk1 hf1 hN1 hd1 hg1 hr1 hs1
      exact ihy none k Q ρ1 f1 h1 a1 w1 hgy hk1 (Nat.le_trans hB hs1.size) hf1 hN1 hd1 hg1 hr1 (hp.step hh hs1)
    have hx : XKPost B m N c ρ h w r ⟨fun f h => xexec c I d ro.isSome gd qt fid N m fuel y none f h k, k.exit, k.goto, k.ret⟩ (Exit.then (y.wpIn (fen ro) n c.P Q) Q) := ⟨hpost, hp.exit, hp.goto, hp.ret⟩
    cases fm with
    | none =>
      rw [xexec_seq_none] at he
      exact wpIn_seq (ihx none _ _ ρ f h a w hgx he hB hf hN hd hg hh hx)
    | some l =>
      rw [xexec_seq_some] at he
      cases hl : findLabel x l with
      | some rest =>
        rw [hl] at he
        obtain ⟨rest', h1, h2⟩ := ihx (some l) _ _ ρ f h a w hgx he hB hf hN hd hg hh hx
        rw [hl] at h1
        cases h1
        exact ⟨.seq rest y, by simp [findLabel, hl], wpIn_seq h2⟩
      | none =>
        rw [hl] at he
        obtain ⟨rest', h1, h2⟩ := ihy (some l) k Q ρ f h a w hgy he hB hf hN hd hg hh hp
        exact ⟨rest', by simp [findLabel, hl, h1], h2⟩
  | cond x p q ihp ihq =>
    intro fm k Q ρ f h a w hgd he hB hf hN hd hg hh hp
    rw [xexec_cond] at he
    obtain ⟨rfl, he⟩ := onN_some he
    have hgp : gd = true → drawsOK c.P qt p = true := fun e => by
      have h0 : (Bool.rec (motive := fun _ => Bool) false (drawsOK c.P qt q) (drawsOK c.P qt p)) = true := hgd e
      cases h1 : drawsOK c.P qt p with
      | true => rfl
      | false => rw [h1] at h0; cases h0
    have hgq : gd = true → drawsOK c.P qt q = true := fun e => by
      have h0 : (Bool.rec (motive := fun _ => Bool) false (drawsOK c.P qt q) (drawsOK c.P qt p)) = true := hgd e
      rw [hgp e] at h0
      exact h0
    have hx := evO_R (c := c) (fo := foFun) (fr := getX f) (a := a) hg hf.1 x
    rw [← evX_eq (Rel.start (N := N) hf.2)] at hx
    split at he
    · rename_i hb; rw [hb] at hx; exact wpIn_cond_true hx (ihp none k Q ρ f h a w hgp he hB hf hN hd hg hh hp)
    · rename_i hb; rw [hb] at hx; exact wpIn_cond_false hx (ihq none k Q ρ f h a w hgq he hB hf hN hd hg hh hp)
    · cases he
  | block id b ih =>
    intro fm k Q ρ f h a w hgd he hB hf hN hd hg hh hp
    rw [xexec_block] at he
    obtain ⟨rfl, he⟩ := onN_some he
    refine wpIn_block (ih none _ _ ρ f h a w hgd he hB hf hN hd hg hh ⟨hp.norm, fun id' => ?_, hp.goto, hp.ret⟩)
    intro f1 h1 a1 w1 ρ1 hk1 hf1 hN1 hd1 hg1 hr1 hs1
    simp only [Exit.inBlock]
    by_cases hid : id' = id
    · subst hid
      simp only [show Nat.beq id' id' = true from by simp, cond_true] at hk1
      rw [if_pos rfl]
      exact hp.norm f1 h1 a1 w1 ρ1 hk1 hf1 hN1 hd1 hg1 hr1 hs1
    · have hb : Nat.beq id' id = false := by cases hb : Nat.beq id' id; rfl; exact absurd (Nat.eq_of_beq_eq_true hb) hid
      simp only [hb, cond_false] at hk1
      rw [if_neg hid]
      exact hp.exit id' f1 h1 a1 w1 ρ1 hk1 hf1 hN1 hd1 hg1 hr1 hs1
  | loop b ih =>
    intro fm k Q ρ f h a w hgd he hB hf hN hd hg hh hp
    rw [xexec_loop] at he
    obtain ⟨rfl, he⟩ := onN_some he
    refine wpIn_loop_rounds fuel ?_
    have key : ∀ (j : Nat) (f : XF) (h : AH) (a : Act) (w : World) (ρ : Rho), loopN XF j (fun f h nx => xexec c I d ro.isSome gd qt fid N m fuel b none f h ⟨nx, k.exit, k.goto, k.ret⟩) f h = some r → B ≤ w.heap.size → FRX m ρ f a.tmps → a.tmps.size = N → Marks B ρ w a.defers → GOK c ρ → HR ρ h w → XKPost B m N c ρ h w r k Q → Code.roundsIn (fen ro) n c.P b Q j a w := by
      intro j
      induction j with
      | zero => intro f h a w ρ he; cases he
      | succ j ihj =>
        intro f h a w ρ he hB hf hN hd hg hh hp
        rw [roundsIn_succ]
        refine ih none _ _ ρ f h a w hgd he hB hf hN hd hg hh ⟨?_, hp.exit, hp.goto, hp.ret⟩
        intro f1 h1 a1 w1 ρ1 hk1 hf1 hN1 hd1 hg1 hr1 hs1
        exact ihj f1 h1 a1 w1 ρ1 hk1 (Nat.le_trans hB hs1.size) hf1 hN1 hd1 hg1 hr1 (hp.step hh hs1)
    exact key fuel f h a w ρ he hB hf hN hd hg hh hp
  | rangeFunc g ps aas bd _ _ =>
    intro fm k Q ρ f h a w hgd he hB hf hN hd hg hh hp
    rw [xexec_range] at he
    obtain ⟨rfl, he⟩ := onN_some he
    cases ro with
    | some l => cases he
    | none => exact range_wp hD he hB hf hN hd hg hh hp
  | exit id =>
    intro fm k Q ρ f h a w hgd he hB hf hN hd hg hh hp
    rw [xexec_exit] at he
    obtain ⟨rfl, he⟩ := onN_some he
    exact wpIn_exit ((hp.exit id).at he hf hN hd hg hh)
  | scope b ih =>
    intro fm k Q ρ f h a w hgd he hB hf hN hd hg hh hp
    rw [xexec_scope] at he
    obtain ⟨rfl, he⟩ := onN_some he
    have key : ∀ (j : Nat) (fm : Option Nat) (f : XF) (h : AH) (a : Act) (w : World) (ρ : Rho), scopeX b (xexec c I d ro.isSome gd qt fid N m fuel b) j fm f h k = some r → B ≤ w.heap.size → FRX m ρ f a.tmps → a.tmps.size = N → Marks B ρ w a.defers → GOK c ρ → HR ρ h w → XKPost B m N c ρ h w r k Q →
        match fm with
        | none => jumpsIn (fen ro) n c.P b Q j b a w
        | some l => ∃ rest, findLabel b l = some rest ∧ jumpsIn (fen ro) n c.P b Q j rest a w := by
      intro j
      induction j with
      | zero => intro fm f h a w ρ he; cases he
      | succ j ihj =>
        intro fm f h a w ρ he hB hf hN hd hg hh hp
        have hx : XKPost B m N c ρ h w r ⟨k.norm, k.exit, fun l f h => bif (findLabel b l).isSome then scopeX b (xexec c I d ro.isSome gd qt fid N m fuel b) j (some l) f h k else k.goto l f h, k.ret⟩ (fun e a' w' => match e with
            | .goto l => match findLabel b l with
              | some rest => jumpsIn (fen ro) n c.P b Q j rest a' w'
              | none => Q (.goto l) a' w'
            | e => Q e a' w') := by
          refine ⟨hp.norm, hp.exit, fun l => ?_, hp.ret⟩
          intro f1 h1 a1 w1 ρ1 hk1 hf1 hN1 hd1 hg1 hr1 hs1
          simp only
          cases hl : findLabel b l with
          | some rest =>
            simp only [hl, Option.isSome_some, cond_true] at hk1
            obtain ⟨rest', q1, q2⟩ := ihj (some l) f1 h1 a1 w1 ρ1 hk1 (Nat.le_trans hB hs1.size) hf1 hN1 hd1 hg1 hr1 (hp.step hh hs1)
            rw [hl] at q1
            cases q1
            exact q2
          | none =>
            simp only [hl, Option.isSome_none, cond_false] at hk1
            exact hp.goto l f1 h1 a1 w1 ρ1 hk1 hf1 hN1 hd1 hg1 hr1 hs1
        have := ih fm _ _ ρ f h a w hgd he hB hf hN hd hg hh hx
        cases fm with
        | none => exact this
        | some l => exact this
    exact wpIn_scope_jumps fuel (key fuel none f h a w ρ he hB hf hN hd hg hh hp)
  | label l' =>
    intro fm k Q ρ f h a w hgd he hB hf hN hd hg hh hp
    cases fm with
    | none => exact wpIn_label (hp.norm.at he hf hN hd hg hh)
    | some l =>
      rw [xexec_label_some] at he
      cases hb : Nat.beq l' l with
      | false => rw [hb] at he; cases he
      | true =>
        rw [hb] at he
        exact ⟨.skip, by simp [findLabel, Nat.eq_of_beq_eq_true hb], wpIn_skip (hp.norm.at he hf hN hd hg hh)⟩
  | goto l =>
    intro fm k Q ρ f h a w hgd he hB hf hN hd hg hh hp
    rw [xexec_goto] at he
    obtain ⟨rfl, he⟩ := onN_some he
    exact wpIn_goto ((hp.goto l).at he hf hN hd hg hh)
  | ret =>
    intro fm k Q ρ f h a w hgd he hB hf hN hd hg hh hp
    rw [xexec_ret] at he
    obtain ⟨rfl, he⟩ := onN_some he
    exact wpIn_ret (hp.ret.at he hf hN hd hg hh)
  | refuse s => intro fm k Q ρ f h a w hgd he; cases he
end Go.Proofs.YtcphjmgfgfjnpaaGreatDoor.Ev
namespace Go.Proofs.YtcphjmgfgfjnpaaGreatDoor.Ev
open Go
theorem loopOf_isSome {h : AH} {b : Nat} {p : V × V × Int × V} (hm : loopOf h b = some p) : (h.get b).isSome = true := by
  unfold loopOf at hm
  split at hm
  · rename_i k hk; rw [hk]; rfl
  · cases hm
def FB (m : Nat) (f : XF) : Prop := ∀ t, msk m t = false → getX f t = .bad
theorem stepX_astep {c : Cfg} {d : XD} (hA : CAbs (c.at d)) (hY : ∀ b args h v h', d.Y b args h = some (v, h') → AStep h h') {yl q : Bool} {o : Op} {ev : Operand → V} {h h' : AH} {v : V} (hs : stepX c yl q o d ev h = some (v, h')) : AStep h h' := by
  unfold stepX at hs
  split at hs
  · exact hY _ _ _ _ _ hs
  · exact (stepV_astep hA hs).1
section
variable {c : Cfg} {d : XD} (hA : CAbs (c.at d)) (hY : ∀ b args h v h', d.Y b args h = some (v, h') → AStep h h') {I : Bool → Bool → List Nat → Op → XI} (hI : OpsOK c I) {m N fid fuel : Nat} {rnd gd : Bool} {qt : Nat → QC} {r : V × AH} {X : AH → Prop} (hX : ∀ {h1 h2 : AH}, AStep h1 h2 → X h2 → X h1)
include hA hY hI hX
theorem runL_astep {ops : Array Oper} {qs : Nat → Bool} {yl : Bool} {K : XF → AH → Res} (hK : ∀ f h, FB m f → K f h = some r → X h) : ∀ (l : List Oper) (i : Nat) (ds : List Nat) (s : List V) (f : XF) (h : AH) (fr : Nat → V), Rel m N ds s f fr → runL (compL c (I yl) m N ops qs l i ds) d s f h K = some r → X h := by
  intro l
  induction l with
  | nil => intro i ds s f h fr hR hr; exact hK f h hR.bad hr
  | cons o l ih =>
    intro i ds s f h fr hR hr
    rw [compL_cons, runL_cons] at hr
    rcases opN_cases hR hr with hr | ⟨x, cl, hop, hgd, hnl, hne, hall⟩
    rotate_left
    · obtain ⟨p, l', e⟩ := List.exists_cons_of_ne_nil hne
      have hp : p ∈ cl := by rw [e]; simp
      obtain ⟨s', f', g1, g2⟩ := hall p hp
      exact hX (nextL_astep hnl p hp) (ih _ _ _ _ _ _ g2 g1)
    obtain ⟨fr', h', s', f', g1, g2, g3⟩ := opG_spec hI hR hr
    rcases g3 with ⟨_, _, rfl⟩ | ⟨_, v, hs, _⟩
    · exact ih _ _ _ _ _ _ g2 g1
    · exact hX (stepX_astep hA hY hs) (ih _ _ _ _ _ _ g2 g1)
omit hY in
theorem runN_astep {ops : Array Oper} {qs : Nat → Bool} {rc : Option RC} {b : Nat} {h0 : AH} (hb : h0.next ≤ b) {K : XF → AH → Res} (hK : ∀ f h, FB m f → K f h = some r → X h) : ∀ (l : List Nat) (ds : List Nat) (s : List V) (f : XF) (h : AH) (fr : Nat → V), AStep h0 h → Rel m N ds s f fr → runL (compN c (I false) m N ops qs rc l ds) ⟨d.C, d.Y, b⟩ s f h K = some r → X h0 := by
  intro l
  induction l with
  | nil => intro ds s f h fr h1 hR hr; exact hX h1 (hK f h hR.bad hr)
  | cons i l ih =>
    intro ds s f h fr h1 hR hr
    cases ho : ops[i]? with
    | none =>
      have hr' : runL (Option.rec (motive := fun _ => XL) .nil (fun o => .cons (opG c (wrapI c (I false) ops (spR rc i) i) m N ops (qs i) ds o) (compN c (I false) m N ops qs rc l (nextDs N o.dst ds))) ops[i]?) ⟨d.C, d.Y, b⟩ s f h K = some r := hr
      rw [ho] at hr'
      exact hX h1 (hK f h hR.bad hr')
    | some o =>
      rw [compN_cons (ho := ho), runL_cons] at hr
      obtain ⟨fr', h', s', f', g1, g2, g3⟩ := opG_specG (St := fun ev h v h' => stepN (c.at d) (b + i) (qs i) o.op ev h = some (v, h')) (fun s f h k r hx => by
        obtain ⟨v, h', ⟨q1, _⟩, q2⟩ := wrapI_spec (d := ⟨d.C, d.Y, b⟩) (show HintOK c from hA.2.2) hI hx
        exact ⟨v, h', q1, q2⟩) hR hr
      rcases g3 with ⟨_, _, e⟩ | ⟨_, v, hs, _⟩
      · subst e
        exact ih _ _ _ _ _ h1 g2 g1
      · refine ih _ _ _ _ _ ?_ g2 g1
        cases hn : isNew o.op with
        | true =>
          rw [stepN_new hn] at hs
          obtain ⟨k, e, _⟩ := newAt_at hn hs
          subst e
          refine ⟨h1.next, Nat.le_trans (Nat.min_le_left _ _) h1.low, fun b' hb' hn' => ?_, fun b' hb' hn' => ?_⟩
          · rw [AH.get_at, if_neg (by omega)]
            exact h1.quiet b' (Nat.lt_of_lt_of_le hb' (Nat.min_le_left _ _)) hn'
          · rw [AH.get_at, if_neg (by omega)]
            exact h1.none b' hb' hn'
        | false =>
          rw [stepN_old hn] at hs
          exact h1.trans (stepV_astep hA hs).1
theorem xexec_astep : ∀ (code : Code) (fm : Option Nat) (f : XF) (h : AH) (k : XK), (∀ f h, FB m f → k.norm f h = some r → X h) → (∀ id f h, FB m f → k.exit id f h = some r → X h) → (∀ l f h, FB m f → k.goto l f h = some r → X h) → (∀ f h, FB m f → k.ret f h = some r → X h) →
    FB m f → xexec c I d rnd gd qt fid N m fuel code fm f h k = some r → X h := by
  intro code
  induction code with
  | skip => intro fm f h k h1 h2 h3 h4 hb he; obtain ⟨rfl, he⟩ := onN_some he; exact h1 f h hb he
  | region id ops draw =>
    intro fm f h k h1 h2 h3 h4 hb he
    rw [xexec_region] at he
    obtain ⟨rfl, he⟩ := onN_some he
    unfold regX at he
    cases draw with
    | false => exact runL_astep hA hY hI hX h1 ops.toList 0 [] [] f h _ (Rel.start (N := N) hb) he
    | true =>
      cases gd with
      | false => cases he
      | true => exact runN_astep (b := h.next) (h0 := h) hA hI hX (Nat.le_refl _) h1 (ordL (qt id).r ops.size) [] [] f ⟨Nat.add h.next ops.size, h.low, h.m⟩ (getX f) ⟨Nat.le_add_right _ _, Nat.le_refl _, fun _ _ _ => rfl, fun _ _ h => h⟩ (Rel.start (N := N) hb) he
  | seq x y ihx ihy =>
    intro fm f h k h1 h2 h3 h4 hb he
    cases fm with
    | none =>
      rw [xexec_seq_none] at he
      exact ihx none f h ⟨fun f h => xexec c I d rnd gd qt fid N m fuel y none f h k, k.exit, k.goto, k.ret⟩ (fun f1 h1' hb1 he1 => ihy none f1 h1' k h1 h2 h3 h4 hb1 he1) h2 h3 h4 hb he
    | some l =>
      rw [xexec_seq_some] at he
      cases hl : (findLabel x l).isSome with
      | true => rw [hl] at he; exact ihx (some l) f h ⟨fun f h => xexec c I d rnd gd qt fid N m fuel y none f h k, k.exit, k.goto, k.ret⟩ (fun f1 h1' hb1 he1 => ihy none f1 h1' k h1 h2 h3 h4 hb1 he1) h2 h3 h4 hb he
      | false => rw [hl] at he; exact ihy (some l) f h k h1 h2 h3 h4 hb he
  | cond x p q ihp ihq =>
    intro fm f h k h1 h2 h3 h4 hb he
    rw [xexec_cond] at he
    obtain ⟨rfl, he⟩ := onN_some he
    split at he
    · exact ihp none f h k h1 h2 h3 h4 hb he
    · exact ihq none f h k h1 h2 h3 h4 hb he
    · cases he
  | block id b ih =>
    intro fm f h k h1 h2 h3 h4 hb he
    rw [xexec_block] at he
    obtain ⟨rfl, he⟩ := onN_some he
    refine ih none f h ⟨k.norm, fun id' f h => bif Nat.beq id' id then k.norm f h else k.exit id' f h, k.goto, k.ret⟩ h1 ?_ h3 h4 hb he
    intro id' f1 h1' hb1 he1
    simp only at he1
    cases hq : Nat.beq id' id with
    | true => rw [hq] at he1; exact h1 f1 h1' hb1 he1
    | false => rw [hq] at he1; exact h2 id' f1 h1' hb1 he1
  | loop b ih =>
    intro fm f h k h1 h2 h3 h4 hb he
    rw [xexec_loop] at he
    obtain ⟨rfl, he⟩ := onN_some he
    have key : ∀ (j : Nat) (f : XF) (h : AH), FB m f → loopN XF j (fun f h nx => xexec c I d rnd gd qt fid N m fuel b none f h ⟨nx, k.exit, k.goto, k.ret⟩) f h = some r → X h := by
      intro j
      induction j with
      | zero => intro f h _ he; cases he
      | succ j ihj => intro f h hb he; exact ih none f h ⟨loopN XF j (fun f h nx => xexec c I d rnd gd qt fid N m fuel b none f h ⟨nx, k.exit, k.goto, k.ret⟩), k.exit, k.goto, k.ret⟩ ihj h2 h3 h4 hb he
    exact key fuel f h hb he
  | rangeFunc g ps aas bd _ _ =>
    intro fm f h k h1 h2 h3 h4 hb he
    rw [xexec_range] at he
    obtain ⟨rfl, he⟩ := onN_some he
    unfold rangeX at he
    split at he
    · cases he
    · split at he
      · split at he
        · split at he
          · rename_i v h2' hc
            refine hX (AStep.add _ _) (hX (hA.1 _ _ _ _ _ hc) ?_)
            unfold endX at he
            split at he
            · split at he
              · cases he
              · change leapX _ f (putLoop _ _ _ _ _ _) k = some r at he
                unfold leapX at he
                split at he
                · exact hX (AStep.put _ _ _ (loopOf_isSome (by assumption))) (h1 _ _ hb he)
                · exact hX (AStep.put _ _ _ (loopOf_isSome (by assumption))) (h4 _ _ hb he)
                · exact hX (AStep.put _ _ _ (loopOf_isSome (by assumption))) (h2 _ _ _ hb he)
                · exact hX (AStep.put _ _ _ (loopOf_isSome (by assumption))) (h3 _ _ _ hb he)
                · cases he
            · cases he
          · cases he
        · cases he
      · cases he
  | exit id => intro fm f h k h1 h2 h3 h4 hb he; obtain ⟨rfl, he⟩ := onN_some he; exact h2 id f h hb he
  | scope b ih =>
    intro fm f h k h1 h2 h3 h4 hb he
    rw [xexec_scope] at he
    obtain ⟨rfl, he⟩ := onN_some he
    have key : ∀ (j : Nat) (fm : Option Nat) (f : XF) (h : AH), FB m f → scopeX b (xexec c I d rnd gd qt fid N m fuel b) j fm f h k = some r → X h := by
      intro j
      induction j with
      | zero => intro fm f h _ he; cases he
      | succ j ihj =>
        intro fm f h hb he
        refine ih fm f h ⟨k.norm, k.exit, fun l f h => bif (findLabel b l).isSome then scopeX b (xexec c I d rnd gd qt fid N m fuel b) j (some l) f h k else k.goto l f h, k.ret⟩ h1 h2 ?_ h4 hb he
        intro l f1 h1' hb1 he1
        simp only at he1
        cases hl : (findLabel b l).isSome with
        | true => rw [hl] at he1; exact ihj (some l) f1 h1' hb1 he1
        | false => rw [hl] at he1; exact h3 l f1 h1' hb1 he1
    exact key fuel none f h hb he
  | label l' =>
    intro fm f h k h1 h2 h3 h4 hb he
    cases fm with
    | none => exact h1 f h hb he
    | some l =>
      rw [xexec_label_some] at he
      cases hq : Nat.beq l' l with
      | true => rw [hq] at he; exact h1 f h hb he
      | false => rw [hq] at he; cases he
  | goto l => intro fm f h k h1 h2 h3 h4 hb he; obtain ⟨rfl, he⟩ := onN_some he; exact h3 l f h hb he
  | ret => intro fm f h k h1 h2 h3 h4 hb he; obtain ⟨rfl, he⟩ := onN_some he; exact h4 f h hb he
  | refuse s => intro fm f h k h1 h2 h3 h4 hb he; cases he
end
theorem iniM_cons (m : Nat) (v : V) (l : List V) (i : Nat) (f : XF) : iniM m (v :: l) i f = iniM m l (i + 1) (if msk m i = true then f.set i v else f) := by
  have h : iniM m (v :: l) i f = iniM m l (i + 1) (Bool.rec (motive := fun _ => XF) f (f.set i v) (msk m i)) := rfl
  rw [h]
  cases msk m i <;> rfl
theorem iniM_get (m : Nat) : ∀ (l : List V) (i : Nat) (f : XF) (t : Nat), getX (iniM m l i f) t = if i ≤ t ∧ t < i + l.length ∧ msk m t = true then l.getD (t - i) .bad else getX f t := by
  intro l
  induction l with
  | nil => intro i f t; rw [if_neg (by simp only [List.length_nil]; omega)]; rfl
  | cons v l ih =>
    intro i f t
    rw [iniM_cons, ih]
    by_cases h1 : i + 1 ≤ t ∧ t < i + 1 + l.length ∧ msk m t = true
    · rw [if_pos h1, if_pos ⟨by omega, by simp only [List.length_cons]; omega, h1.2.2⟩, show t - i = (t - (i + 1)) + 1 from by omega]
      rfl
    · rw [if_neg h1]
      by_cases h2 : t = i
      · subst h2
        by_cases hm : msk m t = true
        · simp only [hm, if_true, getX_set]
          rw [if_pos ⟨Nat.le_refl _, by simp only [List.length_cons]; omega, trivial⟩]; simp
        · simp only [hm, if_false, and_false, Bool.false_eq_true]
      · have hge : getX (if msk m i = true then f.set i v else f) t = getX f t := by
          split
          · rw [getX_set, if_neg h2]
          · rfl
        rw [hge, if_neg (fun h => h1 ⟨by omega, by have := h.2.1; simp only [List.length_cons] at this; omega, h.2.2⟩)]
theorem getX_leaf (t : Nat) : getX .leaf t = .bad := by unfold getX; rw [T.get_leaf]; rfl
theorem iniM_FB (m : Nat) (l : List V) : FB m (iniM m l 0 .leaf) := by
  intro t ht
  rw [iniM_get, if_neg (fun h => by rw [ht] at h; cases h.2.2), getX_leaf]
theorem iniM_frx {m : Nat} {ρ : Rho} {l : List V} {us : List Value} (h : RL ρ l us) (n : Nat) : FRX m ρ (iniM m l 0 .leaf) (us.toArray ++ Array.replicate n undef) := by
  refine ⟨fun t => ?_, iniM_FB m l⟩
  rw [iniM_get]
  split
  · rename_i hc
    obtain ⟨_, h1, _⟩ := hc
    have ht : t < l.length := by omega
    obtain ⟨y, h2, h3⟩ := h.get (List.getElem?_eq_getElem ht)
    have hlen := h.length
    rw [Nat.sub_zero, List.getD_eq_getElem?_getD, List.getElem?_eq_getElem ht, Array.getD_eq_getD_getElem?, Array.getElem?_append_left (by simp; omega), List.getElem?_toArray, h2]
    exact h3
  · rw [getX_leaf]; trivial
theorem HR.putObj {ρ : Rho} {h : AH} {w : World} (hr : HR ρ h w) {r : Nat} (hn : ∀ b L x, ρ b L ≠ some (r, x)) (o : Obj) : HR ρ h (w.putObj r o) := by
  have hoff : ∀ b L cb x, ρ b L = some (cb, x) → (w.putObj r o).heap[cb]? = w.heap[cb]? := fun b L cb x hx => World.putObj_heap_other (fun e => hn b L x (by rw [← e]; exact hx))
  refine ⟨hr.fresh, hr.lives, fun b L cb x hx => by have := hr.bound _ _ _ _ hx; simp only [World.putObj, Array.size_setIfInBounds]; exact this, hr.inj, hr.top, fun b k L cb sh S h1 h2 h3 => (hr.blk b k L cb sh S h1 h2 h3).mono (Rho.le_refl ρ) (hoff _ _ _ _ h2), fun b k h1 ho => (hr.obj b k h1 ho).mono (Rho.le_refl ρ) fun cb S e => hoff _ _ _ _ e⟩
theorem Step.putObj {ρ0 ρ : Rho} {h0 h : AH} {w0 w : World} (hs : Step ρ0 h0 w0 ρ h w) {r : Nat} (hr : w0.heap.size ≤ r) (o : Obj) : Step ρ0 h0 w0 ρ h (w.putObj r o) :=
  ⟨hs.le, hs.cons, hs.ro, hs.next, hs.os, hs.tape, hs.output, by simp only [World.putObj, Array.size_setIfInBounds]; exact hs.size, fun i hi hn => (World.putObj_heap_other (by omega)).trans (hs.keep i hi hn), hs.lowle, hs.quiet, hs.abs⟩
theorem leavesM {c : Cfg} {m n B : Nat} {fn : Func} {ρ0 ρ : Rho} {h0 h h' : AH} {w0 : World} {f : XF} {tmps : Array Value} {v : V} (hB : w0.heap.size ≤ B) (hf : FRX m ρ f tmps) (hs : finX c fn f h = some (v, h')) {X : Ending → World → Prop} (hX : ∀ u w' ρ', R ρ' v u → HR ρ' h' w' → Step ρ0 h0 w0 ρ' h' w' → X (.returned u) w') : ∀ (ds : List Deferred) (w : World), Marks B ρ w ds → HR ρ h w → Step ρ0 h0 w0 ρ h w →
    LeavesInM Fence.wide n c.P fn tmps X ds .returning w := by
  intro ds
  induction ds with
  | nil =>
    intro w _ hh hst
    obtain ⟨rfl, u, h1, h2⟩ := fin_sound (c := c) (fo := foFun) (fr := getX f) hf.1 hh hs
    exact ⟨u, h1, hX u w ρ h2 hh hst⟩
  | cons d ds ih =>
    rintro w ⟨⟨r, rfl, h2, h3, h4, h5⟩, hm⟩ hh hst
    refine ⟨by simp, .inl ⟨r, _, rfl, run_takeDeferred h4, ih _ ?_ (hh.putObj h3 _) (hst.putObj (Nat.le_trans hB h2) _)⟩⟩
    have : ∀ {ds : List Deferred}, (∀ d' ∈ ds, d'.target ≠ .collected r) → Marks B ρ w ds → Marks B ρ (w.putObj r (.deferred none)) ds := by
      intro ds
      induction ds with
      | nil => intro _ _; trivial
      | cons d0 ds ih0 =>
        rintro hne ⟨⟨r0, e1, e2, e3, e4, e5⟩, hm0⟩
        have hr0 : r0 ≠ r := fun e => hne d0 (by simp) (by rw [e1, e])
        exact ⟨⟨r0, e1, e2, e3, by rw [World.putObj_heap_other hr0]; exact e4, e5⟩, ih0 (fun d' hd' => hne d' (by simp [hd'])) hm0⟩
    exact this h5 hm
structure XEnv.OK (E : XEnv) : Prop where
  mixed : E.P.follows .mixedOrders = true
  xsound : XRun E.c0
  xabs : ∀ f args h v h', E.X f args h = some (v, h') → AStep h h'
  isound : ∀ f g, E.I f = some g → ∀ (ρ : Rho) (h : AH) (w : World) (args : List V) (args' : List Value) (v : V) (h' : AH), GOK E.c0 ρ → HR ρ h w → RL ρ args args' → g args h = some (v, h') →
    Calls E.P f args'.toArray w fun e w' => ∃ u ρ', e = .returned u ∧ R ρ' v u ∧ HR ρ' h' w' ∧ Step ρ h w ρ' h' w'
  iabs : ∀ f g, E.I f = some g → ∀ args h v h', g args h = some (v, h') → AStep h h'
  opsok : OpsOK E.c0 (E.ops E.c0)
  draws : ∀ f fn code, E.good f = true → E.P.funcs[f]? = some fn → fn.body = some code → drawsOK E.P (E.qt f) code = true
theorem xFn_sound {E : XEnv} (ok : E.OK) {d : XD} (hD : DSound E.c0 d) {ρ : Rho} {h h' : AH} {w : World} {f : FuncId} {args : List V} {args' : List Value} {v : V} (hg : GOK E.c0 ρ) (hr : HR ρ h w) (hR : RL ρ args args') (hs : xFn E d f args h = some (v, h')) :
    Calls E.P f args'.toArray w fun e w' => ∃ u ρ', e = .returned u ∧ R ρ' v u ∧ HR ρ' h' w' ∧ Step ρ h w ρ' h' w' := by
  unfold xFn at hs
  split at hs
  · cases hs
  · rename_i fn hfn
    split at hs
    · cases hs
    · rename_i code hcode
      split at hs
      · rename_i hle
        refine (callsIn_wide (n := 0)).1 (callsIn_of_wp_marks hfn hcode trivial ?_)
        have hlen := hR.length
        have hsz : (args'.toArray ++ Array.replicate (fn.ntmps - args'.toArray.size) undef).size = fn.ntmps := by
          simp only [Array.size_append, List.size_toArray, Array.size_replicate]; omega
        cases hgc : E.gc f with
        | false =>
          rw [hgc] at hs
          simp only [cond_false] at hs
          have hpost : ∀ e, (e = Exit.normal ∨ e = Exit.ret) → XPost w.heap.size (E.mask f) fn.ntmps E.c0 ρ h w (v, h') (finX E.c0 fn) (bodyPostM Fence.wide 0 E.P fn (fun e w' => ∃ u ρ', e = .returned u ∧ R ρ' v u ∧ HR ρ' h' w' ∧ Step ρ h w ρ' h' w') e) := by
            intro e he f1 h1 a1 w1 ρ1 hk1 hf1 hN1 hd1 hg1 hr1 hs1
            have := leavesM (c := E.c0) (n := 0) (Nat.le_refl _) hf1 hk1 (X := fun e w' => ∃ u ρ', e = .returned u ∧ R ρ' v u ∧ HR ρ' h' w' ∧ Step ρ h w ρ' h' w') (fun u w' ρ' e1 e2 e3 => ⟨u, ρ', rfl, e1, e2, e3⟩) a1.defers w1 hd1 hr1 hs1
            rcases he with rfl | rfl <;> exact this
          exact xexec_wp (ro := none) (B := w.heap.size) hD ok.mixed ok.opsok code none _ _ ρ _ h _ w (fun e => ok.draws f fn code e hfn hcode) hs (Nat.le_refl _) (iniM_frx hR _) hsz trivial hg hr ⟨hpost _ (.inl rfl), fun id f1 h1 a1 w1 ρ1 hk1 => (by cases hk1), fun l f1 h1 a1 w1 ρ1 hk1 => (by cases hk1), hpost _ (.inr rfl)⟩
        | true =>
          rw [hgc] at hs
          simp only [cond_true] at hs
          obtain ⟨hn, hx, rfl⟩ := gcO_some hs
          clear hs
          have hs := hx
          have hpost : ∀ e, (e = Exit.normal ∨ e = Exit.ret) → XPost w.heap.size (E.mask f) fn.ntmps E.c0 ρ ⟨h.next, h.next, h.m⟩ w (v, hn) (fun f' h' => gcR h (finX E.c0 fn f' h')) (bodyPostM Fence.wide 0 E.P fn (fun e w' => ∃ u ρ', e = .returned u ∧ R ρ' v u ∧ HR ρ' (gcU h hn) w' ∧ Step ρ h w ρ' (gcU h hn) w') e) := by
            intro e he f1 h1 a1 w1 ρ1 hk1 hf1 hN1 hd1 hg1 hr1 hs1
            obtain ⟨h2, k1, k2, k3⟩ := gcR_some hk1
            have := leavesM (c := E.c0) (n := 0) (Nat.le_refl _) hf1 k1 (X := fun e w' => ∃ u ρ', e = .returned u ∧ R ρ' v u ∧ HR ρ' (gcU h hn) w' ∧ Step ρ h w ρ' (gcU h hn) w') (fun u w' ρ' e1 e2 e3 => by
              obtain ⟨q1, q2⟩ := gc_sound (v := v) hr k2 e2 e3
              rw [k3]
              exact ⟨u, ρ', rfl, e1, q1, q2⟩) a1.defers w1 hd1 hr1 hs1
            rcases he with rfl | rfl <;> exact this
          exact xexec_wp (ro := none) (B := w.heap.size) hD ok.mixed ok.opsok code none _ _ ρ _ ⟨h.next, h.next, h.m⟩ _ w (fun e => ok.draws f fn code e hfn hcode) hs (Nat.le_refl _) (iniM_frx hR _) hsz trivial hg (hr.low h.next) ⟨hpost _ (.inl rfl), fun id f1 h1 a1 w1 ρ1 hk1 => (by cases hk1), fun l f1 h1 a1 w1 ρ1 hk1 => (by cases hk1), hpost _ (.inr rfl)⟩
      · cases hs
theorem xFn_astep {E : XEnv} (ok : E.OK) {d : XD} (hD : DSound E.c0 d) {f : FuncId} {args : List V} {h h' : AH} {v : V} (hs : xFn E d f args h = some (v, h')) : AStep h h' := by
  unfold xFn at hs
  split at hs
  · cases hs
  · rename_i fn hfn
    split at hs
    · cases hs
    · split at hs
      · have hfin : ∀ fn f1 h1, finX E.c0 fn f1 h1 = some (v, h') → AStep h1 h' := by
          intro fn f1 h1 he
          unfold finX at he
          obtain ⟨vs, _, h2⟩ := map_some he
          cases h2
          exact AStep.refl _
        cases hgc : E.gc f with
        | false =>
          rw [hgc] at hs
          simp only [cond_false] at hs
          exact xexec_astep (r := (v, h')) (X := fun h1 => AStep h1 h') hD.A hD.YA ok.opsok (fun a b => a.trans b) _ _ _ _ _ (fun f1 h1 _ he => hfin _ f1 h1 he) (fun id f1 h1 _ he => by cases he) (fun l f1 h1 _ he => by cases he) (fun f1 h1 _ he => hfin _ f1 h1 he) (iniM_FB _ _) hs
        | true =>
          rw [hgc] at hs
          simp only [cond_true] at hs
          obtain ⟨hn, hx, rfl⟩ := gcO_some hs
          clear hs
          have hs := hx
          have hk : ∀ f1 h1, gcR h (finX E.c0 fn f1 h1) = some (v, hn) → ∃ h2, AStep h1 h2 ∧ h.next ≤ h2.low ∧ hn = gcI h v h2 := by
            intro f1 h1 he
            obtain ⟨h2, k1, k2, k3⟩ := gcR_some he
            unfold finX at k1
            obtain ⟨vs, _, q2⟩ := map_some k1
            cases q2
            exact ⟨h1, AStep.refl _, k2, k3⟩
          obtain ⟨h2, k1, k2, k3⟩ := xexec_astep (r := (v, hn)) (X := fun h1 => ∃ h2, AStep h1 h2 ∧ h.next ≤ h2.low ∧ hn = gcI h v h2) hD.A hD.YA ok.opsok (fun a ⟨h2, b1, b2, b3⟩ => ⟨h2, a.trans b1, b2, b3⟩) _ _ _ _ _ (fun f1 h1 _ he => hk f1 h1 he) (fun id f1 h1 _ he => by cases he) (fun l f1 h1 _ he => by cases he) (fun f1 h1 _ he => hk f1 h1 he) (iniM_FB _ _) hs
          rw [k3]
          exact gc_astep k2 k1
      · cases hs
theorem setPs_sound {ρ : Rho} : ∀ (ps : List Nat) (args : List V) (us : List Value) (l : List V) (xs : Array Value), RL ρ args us → RL ρ l xs.toList → args.length = ps.length → RL ρ (setPs ps args l) ((ps.zip us).foldl (fun (tmps : Array Value) (p : Nat × Value) => tmps.setIfInBounds p.1 p.2) xs).toList := by
  intro ps
  induction ps with
  | nil => intro args us l xs h1 h2 h3; cases args with
    | nil => exact h2
    | cons => simp at h3
  | cons p ps ih =>
    intro args us l xs h1 h2 h3
    cases args with
    | nil => simp at h3
    | cons a aas =>
      obtain ⟨u, us', rfl, ha, has⟩ := h1
      simp only [setPs, List.zip_cons_cons, List.foldl_cons]
      refine ih aas us' _ _ has ?_ (by simpa using h3)
      rw [Array.toList_setIfInBounds]
      refine RL.of_get (by simp [h2.length]) ?_
      intro i x y hx hy
      rw [List.getElem?_set] at hx hy
      by_cases hip : p = i
      · subst hip
        simp only [if_true] at hx hy
        have hl := h2.length
        split at hx
        · split at hy
          · cases hx; cases hy; exact ha
          · cases hy
        · cases hx
      · rw [if_neg hip] at hx hy
        obtain ⟨y', q1, q2⟩ := h2.get hx
        rw [q1] at hy; cases hy; exact q2
theorem endR_sound {P : Program} {ρ : Rho} {h h' : AH} {w : World} (hr : HR ρ h w) {b cb S : Nat} (hb : ρ b 0 = some (cb, 0, S)) {st : Int} {j : V} {res : Bool} {v : V} (hs : endR b st j res h = some (v, h')) (jump : Option Code) (hj : jumpV jump = some j) (hst : st = stateN (if jump.isNone then .ready else .done)) (hres : res = jump.isNone) :
    ∃ w', (Instr.endRound cb jump).run P w = .ok (.bool res) w' ∧ v = .bool res ∧ HR ρ h' w' ∧ Step ρ h w ρ h' w' := by
  unfold endR at hs
  cases hlo : loopOf h b with
  | none => rw [hlo] at hs; cases hs
  | some p =>
    obtain ⟨R', T', st', j'⟩ := p
    rw [hlo] at hs
    cases hs
    obtain ⟨kb, cb', S', r, g1, g2, g3, g4, fn, tm, rfl, rfl, g5, g6, g7⟩ := loopOf_spec hr hlo
    rw [hb] at g3
    cases g3
    obtain ⟨p1, p2⟩ := putLoop_sound hr g1 g2 hb (fn := fn) (tm := tm) (j := j) (st := st) { r with state := if jump.isNone then .ready else .done, pending := jump } g5 hst hj
    exact ⟨_, by rw [hres]; exact run_endRound jump g4, rfl, p1, p2⟩
theorem yX_sound {E : XEnv} (ok : E.OK) {d : XD} (hD : DSound E.c0 d) {ρ : Rho} {h h' : AH} {w : World} {b : Nat} {args : List V} {args' : List Value} {v : V} {cb S : Nat} (hg : GOK E.c0 ρ) (hr : HR ρ h w) (hb : ρ b 0 = some (cb, 0, S)) (hR : RL ρ args args') (hs : yX E d b args h = some (v, h')) :
    ∃ r : Loop, w.heap[cb]? = some (.loop r) ∧ args'.length = r.params.size ∧ ∀ n, RoundIn Fence.wide n E.P cb r.fn ((r.params.zip args'.toArray).foldl (fun tmps (t, a) => tmps.setIfInBounds t a) r.tmps) r.assign r.body w fun e w' => ∃ u ρ', e = .returned u ∧ R ρ' v u ∧ HR ρ' h' w' ∧ Step ρ h w ρ' h' w' := by
  unfold yX at hs
  split at hs
  · rename_i f ps aas bd tm st j hlo
    obtain ⟨kb, cb', S', r, g1, g2, g3, g4, fn', tm', e1, e2, g5, g6, g7⟩ := loopOf_spec hr hlo
    cases e1
    cases e2
    rw [hb] at g3
    cases g3
    split at hs
    · cases hs
    · rename_i fn hfn
      split at hs
      · rename_i hc
        obtain ⟨hc1, hc2⟩ := hc
        have hlen := hR.length
        refine ⟨r, g4, by omega, fun n => ?_⟩
        have hfold : (r.params.zip args'.toArray).foldl (fun tmps (t, a) => tmps.setIfInBounds t a) r.tmps = (r.params.toList.zip args').foldl (fun (tmps : Array Value) (p : Nat × Value) => tmps.setIfInBounds p.1 p.2) r.tmps := by
          rw [← Array.foldl_toList, Array.toList_zip]
        rw [hfold]
        have hRL := setPs_sound r.params.toList args args' tm r.tmps hR g5 (by rw [Array.length_toList]; exact hc1)
        generalize hTT : (r.params.toList.zip args').foldl (fun (tmps : Array Value) (p : Nat × Value) => tmps.setIfInBounds p.1 p.2) r.tmps = TT at hRL
        have hTs : TT.size = fn.ntmps := by
          have h1 := g5.length
          have h2 : ∀ (l : List (Nat × Value)) (xs : Array Value), (l.foldl (fun (tmps : Array Value) (p : Nat × Value) => tmps.setIfInBounds p.1 p.2) xs).size = xs.size := by
            intro l
            induction l with
            | nil => intro xs; rfl
            | cons p l ih => intro xs; rw [List.foldl_cons, ih]; simp
          rw [← hTT, h2]
          have e : r.tmps.toList.length = r.tmps.size := Array.length_toList
          omega
        have hfr : FRX (E.mask f) ρ (iniM (E.mask f) (setPs r.params.toList args tm) 0 .leaf) TT := by
          have := iniM_frx (m := E.mask f) hRL 0
          simpa using this
        refine roundIn_of_wpIn trivial ?_
        have hbody : XPost 0 (E.mask f) fn.ntmps E.c0 ρ h w (v, h') (fun f1 h1 => beginX b h1 fun h2 => xexec E.c0 (E.ops E.c0) d true (drawsOK E.P (E.qt f) r.body) (E.qt f) f fn.ntmps (E.mask f) E.fuel r.body none f1 h2
              ⟨fun _ h3 => endR b 0 (.tuple []) true h3, fun id _ h3 => endR b 2 (.tuple [.int .u8 id]) false h3, fun l _ h3 => endR b 2 (.tuple [.int .u16 l]) false h3, fun _ h3 => endR b 2 (.tuple [.bool true]) false h3⟩)
            (fun a₁ w₁ => ∃ w₂, (Instr.beginRound cb).run E.P w₁ = .ok () w₂ ∧ r.body.wpIn (Fence.wide.inRound cb) n E.P (roundPost E.P cb fun e w' => ∃ u ρ', e = .returned u ∧ R ρ' v u ∧ HR ρ' h' w' ∧ Step ρ h w ρ' h' w') a₁ w₂) := by
          intro f1 h1 a1 w1 ρ1 hk1 hf1 hN1 hd1 hg1 hr1 hs1
          simp only at hk1
          unfold beginX at hk1
          split at hk1
          · rename_i R' T' j' hlo1
            obtain ⟨kb1, cb1, S1, r1, q1, q2, q3, q4, fn1, tm1, rfl, rfl, q5, q6, q7⟩ := loopOf_spec hr1 hlo1
            have hb1 := hs1.le _ _ _ hb
            rw [hb1] at q3
            cases q3
            obtain ⟨p1, p2⟩ := putLoop_sound hr1 q1 q2 hb1 (fn := fn1) (tm := tm1) (j := j') (st := 1) { r1 with state := .busy } q5 rfl q7
            have hs2 := Step.trans hr hs1 p2
            refine ⟨_, run_beginRound q4 (stateN_zero q6.symm), ?_⟩
            have hend : ∀ (jump : Option Code) (st : Int) (j : V) (res : Bool) (e : Exit), jumpV jump = some j → st = stateN (if jump.isNone then .ready else .done) → res = jump.isNone → (∀ a1 w1 w2 u, (Instr.endRound cb jump).run E.P w1 = .ok u w2 → (∃ u' ρ', Ending.returned u = .returned u' ∧ R ρ' v u' ∧ HR ρ' h' w2 ∧ Step ρ h w ρ' h' w2) → roundPost E.P cb (fun e w' => ∃ u ρ', e = .returned u ∧ R ρ' v u ∧ HR ρ' h' w' ∧ Step ρ h w ρ' h' w') e a1 w1) →
                XPost 0 (E.mask f) fn.ntmps E.c0 ρ1 (putLoop h1 b (.rcd fn1 r1.params r1.assign r1.body) (.tuple tm1) 1 j') (w1.putObj cb (.loop { r1 with state := .busy })) (v, h') (fun _ h3 => endR b st j res h3) (roundPost E.P cb (fun e w' => ∃ u ρ', e = .returned u ∧ R ρ' v u ∧ HR ρ' h' w' ∧ Step ρ h w ρ' h' w') e) := by
              intro jump st j res e hj hst hres hgo f3 h3 a3 w3 ρ3 hk3 hf3 hN3 hd3 hg3 hr3 hs3
              obtain ⟨w4, o1, rfl, o3, o4⟩ := endR_sound (P := E.P) hr3 (hs3.le _ _ _ hb1) hk3 jump hj hst hres
              exact hgo a3 w3 w4 _ o1 ⟨_, ρ3, rfl, rfl, o3, Step.trans hr hs2 (Step.trans p1 hs3 o4)⟩
            exact xexec_wp (ro := some cb) (B := 0) hD ok.mixed ok.opsok r.body none _ _ ρ1 f1 _ a1 _ (fun e => e) hk1 (Nat.zero_le _) hf1 hN1 (hd1.step p2) hg1 p1
              ⟨hend none 0 _ true .normal rfl rfl rfl (fun a1 w1 w2 u o1 o2 => ⟨u, w2, o1, o2⟩), fun id => hend (some (.exit id)) 2 _ false (.exit id) rfl rfl rfl (fun a1 w1 w2 u o1 o2 => ⟨u, w2, o1, o2⟩), fun l => hend (some (.goto l)) 2 _ false (.goto l) rfl rfl rfl (fun a1 w1 w2 u o1 o2 => ⟨u, w2, o1, o2⟩), hend (some .ret) 2 _ false .ret rfl rfl rfl (fun a1 w1 w2 u o1 o2 => ⟨u, w2, o1, o2⟩)⟩
          · cases hk1
        exact xexec_wp (ro := some cb) (B := 0) hD ok.mixed ok.opsok r.assign none _ _ ρ _ h { tmps := TT, defers := [] } w (fun e => e) hs (Nat.zero_le _) hfr hTs trivial hg hr
          ⟨hbody, fun id f1 h1 a1 w1 ρ1 hk1 => (by cases hk1), fun l f1 h1 a1 w1 ρ1 hk1 => (by cases hk1), fun f1 h1 a1 w1 ρ1 hk1 => (by cases hk1)⟩
      · cases hs
  · cases hs
theorem yX_astep {E : XEnv} (ok : E.OK) {d : XD} (hD : DSound E.c0 d) {b : Nat} {args : List V} {h h' : AH} {v : V} (hs : yX E d b args h = some (v, h')) : AStep h h' := by
  unfold yX at hs
  split at hs
  · split at hs
    · cases hs
    · split at hs
      · have hend : ∀ st j res h3, endR b st j res h3 = some (v, h') → AStep h3 h' := by
          intro st j res h3 he
          unfold endR at he
          split at he
          · cases he; exact AStep.put _ _ _ (loopOf_isSome (by assumption))
          · cases he
        refine xexec_astep (r := (v, h')) (X := fun h1 => AStep h1 h') hD.A hD.YA ok.opsok (fun a b => a.trans b) _ _ _ _ _ ?_ (fun id f1 h1 _ he => by cases he) (fun l f1 h1 _ he => by cases he) (fun f1 h1 _ he => by cases he) (iniM_FB _ _) hs
        intro f1 h1 hb1 he
        simp only at he
        unfold beginX at he
        split at he
        · refine (AStep.put _ _ _ (loopOf_isSome (by assumption))).trans (xexec_astep (r := (v, h')) (X := fun h1 => AStep h1 h') hD.A hD.YA ok.opsok (fun a b => a.trans b) _ _ _ _ _ (fun _ h3 _ he => hend _ _ _ h3 he) (fun id _ h3 _ he => hend _ _ _ h3 he) (fun l _ h3 _ he => hend _ _ _ h3 he) (fun _ h3 _ he => hend _ _ _ h3 he) hb1 he)
        · cases he
      · cases hs
  · cases hs
theorem xD_ok {E : XEnv} (ok : E.OK) : ∀ n, DSound E.c0 (xD E n) := by
  have hint : HintOK E.c0 := fun o m h => (by cases h)
  intro n
  induction n with
  | zero =>
    exact ⟨fun ρ h w f args args' v h' _ _ _ hs => (by cases hs), ⟨fun ρ h w f args args' v h' hr hR hs => ok.xsound ρ h w f args args' v h' hr hR hs, fun o m h => (by cases h)⟩, ⟨fun f args h v h' hs => (by cases hs), ok.xabs, fun o m h => (by cases h)⟩,
      fun ρ h w b args args' v h' cb S _ _ _ _ hs => (by cases hs), fun b args h v h' hs => (by cases hs)⟩
  | succ n ih =>
    have hC : ∀ f args h, (xD E (n + 1)).C f args h = Option.rec (motive := fun _ => Res) (xFn E (xD E n) f args h) (fun g => g args h) (E.I f) := fun _ _ _ => rfl
    refine ⟨?_, ⟨fun ρ h w f args args' v h' hr hR hs => ok.xsound ρ h w f args args' v h' hr hR hs, fun o m h => (by cases h)⟩, ⟨?_, ok.xabs, fun o m h => (by cases h)⟩, ?_, ?_⟩
    · intro ρ h w f args args' v h' hg hr hR hs
      have hs' : Option.rec (motive := fun _ => Res) (xFn E (xD E n) f args h) (fun g => g args h) (E.I f) = some (v, h') := hs
      cases hI : E.I f with
      | some g => rw [hI] at hs'; exact ok.isound f g hI ρ h w args args' v h' hg hr hR hs'
      | none => rw [hI] at hs'; exact xFn_sound ok ih hg hr hR hs'
    · intro f args h v h' hs
      have hs' : Option.rec (motive := fun _ => Res) (xFn E (xD E n) f args h) (fun g => g args h) (E.I f) = some (v, h') := hs
      cases hI : E.I f with
      | some g => rw [hI] at hs'; exact ok.iabs f g hI args h v h' hs'
      | none => rw [hI] at hs'; exact xFn_astep ok ih hs'
    · intro ρ h w b args args' v h' cb S hg hr hb hR hs
      exact yX_sound ok ih hg hr hb hR hs
    · intro b args h v h' hs
      exact yX_astep ok ih hs
theorem xrun_sound {E : XEnv} (ok : E.OK) {n : Nat} {ρ : Rho} {h h' : AH} {w : World} {f : FuncId} {args : List V} {args' : List Value} {v : V} (hg : GOK E.c0 ρ) (hr : HR ρ h w) (hR : RL ρ args args') (hs : xrun E n f args h = some (v, h')) :
    Calls E.P f args'.toArray w fun e w' => ∃ u ρ', e = .returned u ∧ R ρ' v u ∧ HR ρ' h' w' ∧ Step ρ h w ρ' h' w' := (xD_ok ok n).C ρ h w f args args' v h' hg hr hR hs
end Go.Proofs.YtcphjmgfgfjnpaaGreatDoor.Ev
namespace Go.Proofs.YtcphjmgfgfjnpaaGreatDoor.Ev
open Go
structure Cut where
  f : FuncId
  args : List V
  next : Nat
  tabs : List (Nat × Arr)
  needs : List (Nat × Blk)
  v : V
  next' : Nat
  lw : Nat
  outs : List (Nat × Blk)
noncomputable def setsB (l : List (Nat × Blk)) (t : T Blk) : T Blk := List.rec t (fun p _ ih => ih.set p.1 p.2) l
def Cut.all (c : Cut) (es : Nat → Nat) : List (Nat × Blk) := c.needs ++ c.tabs.map fun p => (p.1, ⟨p.2, 0, 0, true, es p.1⟩)
noncomputable def Cut.h0 (c : Cut) (es : Nat → Nat) : AH := ⟨c.next, c.next, setsB (c.all es) .leaf⟩
noncomputable def esOf (h : AH) (b : Nat) : Nat := Option.rec 0 (fun k => k.e) (h.get b)
def alikeR (a b : Arr) : Bool := Nat.beq a.n b.n && (alikeL a.z b.z && alikeT alikeV a.t b.t)
theorem alikeR_eq {a b : Arr} (h : alikeR a b = true) : a = b := by
  unfold alikeR at h
  simp only [Bool.and_eq_true, Nat.beq_eq] at h
  obtain ⟨h1, h6, h7⟩ := h
  have h6' := alikeL_eq _ _ h6
  have h7' := alikeT_eq alikeV_eq _ _ h7
  obtain ⟨n, z, t⟩ := a
  obtain ⟨n', z', t'⟩ := b
  simp only at h1 h6' h7'
  subst h1; subst h6'; subst h7'
  rfl
noncomputable def hasR (h : AH) (p : Nat × Arr) : Bool := Option.rec false (fun k => k.ro && (Nat.beq k.minL 0 && (Nat.beq k.fz 0 && alikeR k.cells p.2))) (h.get p.1)
noncomputable def allR (h : AH) (l : List (Nat × Arr)) : Bool := List.rec true (fun p _ ih => Bool.rec false ih (hasR h p)) l
noncomputable def hasB (h : AH) (p : Nat × Blk) : Bool := Option.rec false (fun k => alikeB k p.2) (h.get p.1)
noncomputable def allB (h : AH) (l : List (Nat × Blk)) : Bool := List.rec true (fun p _ ih => Bool.rec false ih (hasB h p)) l
def inL (b : Nat) (l : List (Nat × Blk)) : Bool := l.any fun p => Nat.beq p.1 b
noncomputable def endB (c : Cut) (r : Res) : Bool := Option.rec false (fun p => alikeV p.1 c.v && (Nat.beq p.2.next c.next' && (Nat.ble c.lw p.2.low && allB p.2 c.outs))) r
noncomputable def cutB (E : XEnv) (n : Nat) (c : Cut) (es : Nat → Nat) : Bool := ((c.all es).all fun p => Nat.blt p.1 c.lw || inL p.1 c.outs) && endB c (xrun E n c.f c.args (c.h0 es))
noncomputable def cutG (c : Cut) (args : List V) (h : AH) : Option (V × AH) :=
  Bool.rec none (some (c.v, ⟨c.next', Nat.min h.low c.lw, setsB c.outs h.m⟩)) (alikeL args c.args && (Nat.beq h.next c.next && (allB h c.needs && allR h c.tabs)))
noncomputable def cutI (l : List Cut) (f : FuncId) : Option (List V → AH → Option (V × AH)) :=
  List.rec none (fun c _ ih => bif Nat.beq c.f f then some (fun args h => Option.rec (Option.rec none (fun g => g args h) ih) (fun p => some p) (cutG c args h)) else ih) l
theorem setsB_get (l : List (Nat × Blk)) (t : T Blk) (b : Nat) : (∃ k, (b, k) ∈ l ∧ (setsB l t).get b = some k) ∨ (inL b l = false ∧ (setsB l t).get b = t.get b) := by
  induction l with
  | nil => exact .inr ⟨rfl, rfl⟩
  | cons p l ih =>
    have e : setsB (p :: l) t = (setsB l t).set p.1 p.2 := rfl
    rw [e, T.get_set]
    by_cases hb : b = p.1
    · subst hb
      rw [if_pos rfl]
      exact .inl ⟨p.2, by simp, rfl⟩
    · rw [if_neg hb]
      rcases ih with ⟨k, h1, h2⟩ | ⟨h1, h2⟩
      · exact .inl ⟨k, by simp [h1], h2⟩
      · refine .inr ⟨?_, h2⟩
        unfold inL at h1 ⊢
        rw [List.any_cons, h1, Bool.or_false]
        cases hq : Nat.beq p.1 b with
        | false => rfl
        | true => exact absurd (Nat.eq_of_beq_eq_true hq).symm hb
theorem allR_spec {h : AH} : ∀ {l : List (Nat × Arr)}, allR h l = true → ∀ p, p ∈ l → h.get p.1 = some ⟨p.2, 0, 0, true, esOf h p.1⟩ := by
  intro l
  induction l with
  | nil => intro _ p hp; cases hp
  | cons q l ih =>
    intro ha p hp
    have e : allR h (q :: l) = Bool.rec (motive := fun _ => Bool) false (allR h l) (hasR h q) := rfl
    rw [e] at ha
    cases hq : hasR h q with
    | false => rw [hq] at ha; cases ha
    | true =>
      rw [hq] at ha
      rcases List.mem_cons.1 hp with rfl | hp
      · unfold hasR at hq
        unfold esOf
        cases hg : h.get p.1 with
        | none => rw [hg] at hq; cases hq
        | some k =>
          rw [hg] at hq
          simp only [Bool.and_eq_true, Nat.beq_eq] at hq
          obtain ⟨q1, q2, q3, q4⟩ := hq
          have q5 := alikeR_eq q4
          clear q4
          obtain ⟨cs, l, f, r, e⟩ := k
          simp only at q1 q2 q3 q5
          subst q1; subst q2; subst q3
          rw [q5]
      · exact ih ha p hp
theorem inL_mem {b : Nat} {l : List (Nat × Blk)} (h : inL b l = true) : ∃ k, (b, k) ∈ l := by
  unfold inL at h
  rw [List.any_eq_true] at h
  obtain ⟨p, h1, h2⟩ := h
  exact ⟨p.2, by rw [← Nat.eq_of_beq_eq_true h2]; exact h1⟩
def CutOK (E : XEnv) (c : Cut) : Prop := ∃ (I : FuncId → Option (List V → AH → Option (V × AH))) (n : Nat), ({ E with I := I } : XEnv).OK ∧ ∀ es, cutB { E with I := I } n c es = true
end Go.Proofs.YtcphjmgfgfjnpaaGreatDoor.Ev
namespace Go.Proofs.YtcphjmgfgfjnpaaGreatDoor.Ev
open Go
noncomputable def T.getF {α : Type} (t : T α) : Nat → Option α :=
  T.rec (fun _ => none) (fun _ v _ ihl ihr n => Bool.rec (Bool.rec (ihl (Nat.div n 2)) (ihr (Nat.div n 2)) (Nat.beq (Nat.mod n 2) 1)) v (Nat.ble n 1)) t
theorem T.getF_leaf {α : Type} (n : Nat) : (T.leaf : T α).getF n = none := rfl
theorem T.getF_node {α : Type} (l : T α) (v : Option α) (r : T α) (n : Nat) : (T.node l v r).getF n = bif Nat.ble n 1 then v else bif Nat.beq (n % 2) 1 then r.getF (n / 2) else l.getF (n / 2) := by
  have h : (T.node l v r).getF n = Bool.rec (motive := fun _ => Option α) (Bool.rec (motive := fun _ => Option α) (l.getF (Nat.div n 2)) (r.getF (Nat.div n 2)) (Nat.beq (Nat.mod n 2) 1)) v (Nat.ble n 1) := rfl
  rw [h]
  show _ = bif Nat.ble n 1 then v else bif Nat.beq (Nat.mod n 2) 1 then r.getF (Nat.div n 2) else l.getF (Nat.div n 2)
  cases Nat.ble n 1 <;> cases Nat.beq (Nat.mod n 2) 1 <;> rfl
theorem T.getP_bits {α : Type} : ∀ (t : T α) (f n : Nat), 1 ≤ n → n ≤ f → T.getP (bitsF f n) t = t.getF n := by
  intro t
  induction t with
  | leaf => intro f n _ _; rw [T.getP_leaf, T.getF_leaf]
  | node l v r ihl ihr =>
    intro f n h1 h2
    cases f with
    | zero => omega
    | succ f =>
      rw [bitsF_succ, T.getF_node]
      cases hb : Nat.ble n 1 with
      | true => rfl
      | false =>
        have hn : ¬ n ≤ 1 := fun h => by rw [Nat.ble_eq_true_of_le h] at hb; cases hb
        simp only [cond_false]
        rw [T.getP_cons, ihl f (n / 2) (by omega) (by omega), ihr f (n / 2) (by omega) (by omega)]
theorem T.get_getF {α : Type} (t : T α) (i : Nat) : t.get i = t.getF (Nat.succ i) := T.getP_bits t _ _ (Nat.succ_le_succ (Nat.zero_le _)) (Nat.le_refl _)
noncomputable def T.setF {α : Type} (t : T α) : Nat → α → T α :=
  T.rec (fun n x => T.setP (bitsF n n) .leaf x) (fun l v r ihl ihr n x => Bool.rec (Bool.rec (.node (ihl (Nat.div n 2) x) v r) (.node l v (ihr (Nat.div n 2) x)) (Nat.beq (Nat.mod n 2) 1)) (.node l (some x) r) (Nat.ble n 1)) t
theorem bitsF_more : ∀ (f g n : Nat), n ≤ f → n ≤ g → bitsF f n = bitsF g n := by
  intro f
  induction f with
  | zero => intro g n h1 h2; obtain rfl : n = 0 := by omega
            cases g with
            | zero => rfl
            | succ g => rw [bitsF_zero, bitsF_succ]; rfl
  | succ f ih =>
    intro g n h1 h2
    cases g with
    | zero => obtain rfl : n = 0 := by omega
              rw [bitsF_zero, bitsF_succ]; rfl
    | succ g =>
      rw [bitsF_succ, bitsF_succ]
      cases hb : Nat.ble n 1 with
      | true => rfl
      | false =>
        have hn : ¬ n ≤ 1 := fun h => by rw [Nat.ble_eq_true_of_le h] at hb; cases hb
        simp only [cond_false]
        rw [ih g (n / 2) (by omega) (by omega)]
theorem T.setP_cons {α : Type} (b : Bool) (p : List Bool) (l : T α) (v : Option α) (r : T α) (x : α) : T.setP (b :: p) (.node l v r) x = bif b then .node l v (T.setP p r x) else .node (T.setP p l x) v r := by cases b <;> rfl
theorem T.setP_bits {α : Type} : ∀ (t : T α) (f n : Nat) (x : α), 1 ≤ n → n ≤ f → T.setP (bitsF f n) t x = t.setF n x := by
  intro t
  induction t with
  | leaf => intro f n x h1 h2; rw [bitsF_more f n n h2 (Nat.le_refl _)]; rfl
  | node l v r ihl ihr =>
    intro f n x h1 h2
    have h : (T.node l v r).setF n x = Bool.rec (motive := fun _ => T α) (Bool.rec (motive := fun _ => T α) (.node (l.setF (Nat.div n 2) x) v r) (.node l v (r.setF (Nat.div n 2) x)) (Nat.beq (Nat.mod n 2) 1)) (.node l (some x) r) (Nat.ble n 1) := rfl
    rw [h]
    cases f with
    | zero => omega
    | succ f =>
      rw [bitsF_succ]
      cases hb : Nat.ble n 1 with
      | true => rfl
      | false =>
        have hn : ¬ n ≤ 1 := fun h => by rw [Nat.ble_eq_true_of_le h] at hb; cases hb
        simp only [cond_false]
        rw [T.setP_cons, ihl f (n / 2) x (by omega) (by omega), ihr f (n / 2) x (by omega) (by omega)]
        show _ = Bool.rec (motive := fun _ => T α) (.node (l.setF (n / 2) x) v r) (.node l v (r.setF (n / 2) x)) (Nat.beq (n % 2) 1)
        cases Nat.beq (n % 2) 1 <;> rfl
theorem T.set_setF {α : Type} (t : T α) (i : Nat) (x : α) : t.set i x = t.setF (Nat.succ i) x := T.setP_bits t _ _ x (Nat.succ_le_succ (Nat.zero_le _)) (Nat.le_refl _)
noncomputable def kN (k : IntKind) : Nat := IntKind.rec 0 1 2 3 4 5 6 7 k
theorem kN_inj {a b : IntKind} (h : kN a = kN b) : a = b := by cases a <;> cases b <;> first | rfl | (simp [kN] at h)
noncomputable def natR (v : V) : (IntKind → Nat → Res) → Res → Res :=
  V.rec (motive_1 := fun _ => (IntKind → Nat → Res) → Res → Res) (motive_2 := fun _ => Unit) (fun _ z => z) (fun _ _ z => z) (fun k n => Int.rec (fun m K _ => K k m) (fun _ _ z => z) n) (fun _ _ z => z) (fun _ _ z => z) (fun _ z => z) (fun _ _ _ _ _ _ z => z) (fun _ z => z) (fun _ z => z) (fun _ _ _ _ _ _ z => z) (fun _ z => z)
    (fun _ _ _ _ z => z) (fun _ z => z) (fun _ _ _ z => z) (fun _ _ _ z => z) (fun _ _ z => z) (fun _ z => z) (fun _ _ _ _ z => z) (fun _ _ _ z => z) (fun _ _ z => z) (fun _ _ _ _ _ z => z) () (fun _ _ _ _ => ()) v
theorem natR_some {v : V} {K : IntKind → Nat → Res} {z : Res} {r : V × AH} (h : natR v K z = some r) : (∃ k n, v = .int k (Int.ofNat n) ∧ K k n = some r) ∨ z = some r := by
  cases v
  case int k n =>
    cases n with
    | ofNat m => exact .inl ⟨k, m, rfl, h⟩
    | negSucc m => exact .inr h
  all_goals exact .inr h
noncomputable def ptrR (v : V) : (A → Res) → Res → Res :=
  V.rec (motive_1 := fun _ => (A → Res) → Res → Res) (motive_2 := fun _ => Unit) (fun _ z => z) (fun _ _ z => z) (fun _ _ _ z => z) (fun _ _ z => z) (fun a K _ => K a) (fun _ z => z) (fun _ _ _ _ _ _ z => z) (fun _ z => z) (fun _ z => z) (fun _ _ _ _ _ _ z => z) (fun _ z => z)
    (fun _ _ _ _ z => z) (fun _ z => z) (fun _ _ _ z => z) (fun _ _ _ z => z) (fun _ _ z => z) (fun _ z => z) (fun _ _ _ _ z => z) (fun _ _ _ z => z) (fun _ _ z => z) (fun _ _ _ _ _ z => z) () (fun _ _ _ _ => ()) v
theorem ptrR_some {v : V} {K : A → Res} {z : Res} {r : V × AH} (h : ptrR v K z = some r) : (∃ a, v = .ptr a ∧ K a = some r) ∨ z = some r := by
  cases v
  case ptr a => exact .inl ⟨a, rfl, h⟩
  all_goals exact .inr h
noncomputable def sliceR (v : V) : (A → Nat → Res) → Res → Res :=
  V.rec (motive_1 := fun _ => (A → Nat → Res) → Res → Res) (motive_2 := fun _ => Unit) (fun _ z => z) (fun _ _ z => z) (fun _ _ _ z => z) (fun _ _ z => z) (fun _ _ z => z) (fun _ z => z) (fun a n _ _ _ K _ => K a n) (fun _ z => z) (fun _ z => z) (fun _ _ _ _ _ _ z => z) (fun _ z => z)
    (fun _ _ _ _ z => z) (fun _ z => z) (fun _ _ _ z => z) (fun _ _ _ z => z) (fun _ _ z => z) (fun _ z => z) (fun _ _ _ _ z => z) (fun _ _ _ z => z) (fun _ _ z => z) (fun _ _ _ _ _ z => z) () (fun _ _ _ _ => ()) v
theorem sliceR_some {v : V} {K : A → Nat → Res} {z : Res} {r : V × AH} (h : sliceR v K z = some r) : (∃ a n cap ex zz, v = .slice a n cap ex zz ∧ K a n = some r) ∨ z = some r := by
  cases v
  case slice a n cap ex zz => exact .inl ⟨a, n, cap, ex, zz, rfl, h⟩
  all_goals exact .inr h
noncomputable def cellR (v : V) : Bool :=
  V.rec (motive_1 := fun _ => Bool) (motive_2 := fun _ => Unit) false (fun _ => true) (fun _ _ => true) (fun _ => true) (fun _ => true) true (fun _ _ _ _ _ => true) true true (fun _ _ _ _ _ => true) true
    (fun _ _ _ => true) true (fun _ _ => false) (fun _ _ => false) (fun _ => true) true (fun _ _ _ => true) (fun _ _ => true) (fun _ => true) (fun _ _ _ _ => false) () (fun _ _ _ _ => ()) v
theorem cellR_eq {v : V} (h : cellR v = true) : v.cell = true ∧ v.cells = [v] := by
  cases v <;> first | exact ⟨rfl, rfl⟩ | (exact absurd h (by simp [cellR]))
noncomputable def nat2 (k0 : Nat) (x y : V) (K : Nat → Nat → Res) (z : Res) : Res :=
  natR x (fun k a => Bool.rec z (natR y (fun k' b => Bool.rec z (K a b) (Nat.beq (kN k') k0)) z) (Nat.beq (kN k) k0)) z
theorem brec_some {b : Bool} {z y : Res} {r : V × AH} (h : (Bool.rec z y b : Res) = some r) : (b = true ∧ y = some r) ∨ (b = false ∧ z = some r) := by
  cases b
  · exact .inr ⟨rfl, h⟩
  · exact .inl ⟨rfl, h⟩
theorem nat2_some {k0 : IntKind} {x y : V} {K : Nat → Nat → Res} {z : Res} {r : V × AH} (h : nat2 (kN k0) x y K z = some r) : (∃ a b, x = .int k0 (Int.ofNat a) ∧ y = .int k0 (Int.ofNat b) ∧ K a b = some r) ∨ z = some r := by
  rcases natR_some h with ⟨k, a, hx, h1⟩ | h1
  · rcases brec_some h1 with ⟨e1, h2⟩ | ⟨_, h2⟩
    · rcases natR_some h2 with ⟨k', b, hy, h3⟩ | h3
      · rcases brec_some h3 with ⟨e2, h4⟩ | ⟨_, h4⟩
        · obtain rfl := kN_inj (Nat.eq_of_beq_eq_true e1)
          obtain rfl := kN_inj (Nat.eq_of_beq_eq_true e2)
          exact .inl ⟨a, b, hx, hy, h4⟩
        · exact .inr h4
      · exact .inr h3
    · exact .inr h2
  · exact .inr h1
theorem wrapU {k : IntKind} (hk : k.signed = false) (n : Nat) : k.wrap (n : Int) = ((n % 2 ^ k.bits : Nat) : Int) := by
  cases k <;> simp [IntKind.signed] at hk <;> simp [IntKind.wrap, IntKind.signed, IntKind.bits]
theorem wrapS {k : IntKind} (hk : k.signed = true) {n : Nat} (hn : n < 2 ^ (k.bits - 1)) : k.wrap (n : Int) = (n : Int) := by
  cases k <;> simp [IntKind.signed] at hk <;> simp [IntKind.wrap, IntKind.signed, IntKind.bits] at hn ⊢ <;> omega
theorem wrap_in {k : IntKind} {n : Nat} (h : (bif k.signed then Nat.blt n (2 ^ (k.bits - 1)) else Nat.blt n (2 ^ k.bits)) = true) : k.wrap (n : Int) = (n : Int) := by
  cases hk : k.signed with
  | true =>
    rw [hk] at h
    simp only [cond_true, Arr.blt_eq, decide_eq_true_eq] at h
    exact wrapS hk h
  | false =>
    rw [hk] at h
    simp only [cond_false, Arr.blt_eq, decide_eq_true_eq] at h
    rw [wrapU hk, Nat.mod_eq_of_lt h]
def lim (k : IntKind) : Nat := if k.signed then 2 ^ (k.bits - 1) else 2 ^ k.bits
theorem wrap_lim {k : IntKind} {n : Nat} (h : Nat.blt n (lim k) = true) : k.wrap (n : Int) = (n : Int) := by
  apply wrap_in
  unfold lim at h
  cases hk : k.signed <;> rw [hk] at h <;> simpa using h
theorem lim_le (k : IntKind) : lim k ≤ 2 ^ k.bits := by cases k <;> decide
theorem lt_lim {k : IntKind} {n : Nat} (h : Nat.blt n (lim k) = true) : n < lim k := by rw [Arr.blt_eq] at h; exact of_decide_eq_true h
theorem ofInt_nat {k : IntKind} {n : Nat} (h : n < lim k) : (BitVec.ofInt k.bits (n : Int)).toNat = n := by
  have := lim_le k
  rw [BitVec.ofInt_natCast, BitVec.toNat_ofNat, Nat.mod_eq_of_lt (by omega)]
theorem lim_pow (k : IntKind) : ∃ w, lim k = 2 ^ w := by
  unfold lim
  split
  · exact ⟨_, rfl⟩
  · exact ⟨_, rfl⟩
noncomputable def numB (op : BinOp) (k : IntKind) : Option (Nat → Nat → (V → Res) → Res → Res) :=
  match op with
  | .add => some (bif k.signed then fun a b K z => Bool.rec z (K (.int k (Int.ofNat (Nat.add a b)))) (Nat.blt (Nat.add a b) (lim k)) else fun a b K _ => K (.int k (Int.ofNat (Nat.mod (Nat.add a b) (2 ^ k.bits)))))
  | .sub => some (fun a b K z => Bool.rec z (Bool.rec z (K (.int k (Int.ofNat (Nat.sub a b)))) (Nat.blt a (lim k))) (Nat.ble b a))
  | .mul => some (bif k.signed then fun a b K z => Bool.rec z (K (.int k (Int.ofNat (Nat.mul a b)))) (Nat.blt (Nat.mul a b) (lim k)) else fun a b K _ => K (.int k (Int.ofNat (Nat.mod (Nat.mul a b) (2 ^ k.bits)))))
  | .rem => some (fun a b K z => Bool.rec (K (.int k (Int.ofNat (Nat.mod a b)))) z (Nat.beq b 0))
  | .and => some (fun a b K z => Bool.rec z (Bool.rec z (K (.int k (Int.ofNat (Nat.land a b)))) (Nat.blt b (lim k))) (Nat.blt a (lim k)))
  | .or => some (fun a b K z => Bool.rec z (Bool.rec z (K (.int k (Int.ofNat (Nat.lor a b)))) (Nat.blt b (lim k))) (Nat.blt a (lim k)))
  | .xor => some (fun a b K z => Bool.rec z (Bool.rec z (K (.int k (Int.ofNat (Nat.xor a b)))) (Nat.blt b (lim k))) (Nat.blt a (lim k)))
  | .eql => some (fun a b K _ => K (.bool (Nat.beq a b)))
  | .neq => some (fun a b K _ => K (.bool (Bool.rec true false (Nat.beq a b))))
  | .lss => some (fun a b K _ => K (.bool (Nat.blt a b)))
  | .leq => some (fun a b K _ => K (.bool (Nat.ble a b)))
  | .gtr => some (fun a b K _ => K (.bool (Nat.blt b a)))
  | .geq => some (fun a b K _ => K (.bool (Nat.ble b a)))
  | _ => none
theorem ble_eq (a b : Nat) : Nat.ble a b = decide (a ≤ b) := by
  rw [Bool.eq_iff_iff]; simp
theorem numB_some {op : BinOp} {k : IntKind} {F : Nat → Nat → (V → Res) → Res → Res} (hF : numB op k = some F) {a b : Nat} {K : V → Res} {z : Res} {r : V × AH} (h : F a b K z = some r) : (op ≠ .shl ∧ op ≠ .shr ∧ ∃ v, intBin op k (Int.ofNat a) (Int.ofNat b) = some v ∧ K v = some r) ∨ z = some r := by
  have nn : ∀ n : Nat, Int.ofNat n = (n : Int) := fun _ => rfl
  cases op <;> simp only [numB, reduceCtorEq, Option.some.injEq] at hF <;> subst hF
  case add =>
    cases hk : k.signed with
    | true =>
      rw [hk] at h
      rcases brec_some h with ⟨e, h1⟩ | ⟨_, h1⟩
      · refine .inl ⟨by simp, by simp, _, rfl, ?_⟩
        have : k.wrap (Int.ofNat a + Int.ofNat b) = Int.ofNat (Nat.add a b) := wrap_lim e
        rw [this]; exact h1
      · exact .inr h1
    | false =>
      rw [hk] at h
      refine .inl ⟨by simp, by simp, _, rfl, ?_⟩
      have : k.wrap (Int.ofNat a + Int.ofNat b) = Int.ofNat (Nat.mod (Nat.add a b) (2 ^ k.bits)) := wrapU hk (a + b)
      rw [this]; exact h
  case sub =>
    rcases brec_some h with ⟨e, h1⟩ | ⟨_, h1⟩
    · rcases brec_some h1 with ⟨e2, h2⟩ | ⟨_, h2⟩
      · refine .inl ⟨by simp, by simp, _, rfl, ?_⟩
        have hle : b ≤ a := Nat.le_of_ble_eq_true e
        have hlt := lt_lim e2
        have : k.wrap (Int.ofNat a - Int.ofNat b) = Int.ofNat (Nat.sub a b) := by
          have h3 : (Int.ofNat a - Int.ofNat b : Int) = ((a - b : Nat) : Int) := by simp only [nn]; omega
          rw [h3]
          exact wrap_lim (by rw [Arr.blt_eq]; exact decide_eq_true (by omega))
        rw [this]; exact h2
      · exact .inr h2
    · exact .inr h1
  case mul =>
    cases hk : k.signed with
    | true =>
      rw [hk] at h
      rcases brec_some h with ⟨e, h1⟩ | ⟨_, h1⟩
      · refine .inl ⟨by simp, by simp, _, rfl, ?_⟩
        have : k.wrap (Int.ofNat a * Int.ofNat b) = Int.ofNat (Nat.mul a b) := wrap_lim e
        rw [this]; exact h1
      · exact .inr h1
    | false =>
      rw [hk] at h
      refine .inl ⟨by simp, by simp, _, rfl, ?_⟩
      have : k.wrap (Int.ofNat a * Int.ofNat b) = Int.ofNat (Nat.mod (Nat.mul a b) (2 ^ k.bits)) := wrapU hk (a * b)
      rw [this]; exact h
  case rem =>
    rcases brec_some h with ⟨_, h1⟩ | ⟨e, h1⟩
    · exact .inr h1
    · have hb : b ≠ 0 := fun hb => by rw [hb] at e; cases e
      refine .inl ⟨by simp, by simp, _, ?_, h1⟩
      simp only [intBin]
      rw [if_neg (by simp only [nn]; omega)]
      rfl
  case and =>
    rcases brec_some h with ⟨e1, h1⟩ | ⟨_, h1⟩
    · rcases brec_some h1 with ⟨e2, h2⟩ | ⟨_, h2⟩
      · refine .inl ⟨by simp, by simp, _, rfl, ?_⟩
        obtain ⟨w, hw⟩ := lim_pow k
        have l1 := lt_lim e1
        have l2 := lt_lim e2
        rw [BitVec.toNat_and, nn, nn, ofInt_nat l1, ofInt_nat l2]
        rw [wrap_lim (by rw [Arr.blt_eq, hw]; rw [hw] at l1; exact decide_eq_true (Nat.and_lt_two_pow _ (by rw [← hw]; exact l2)))]
        exact h2
      · exact .inr h2
    · exact .inr h1
  case or =>
    rcases brec_some h with ⟨e1, h1⟩ | ⟨_, h1⟩
    · rcases brec_some h1 with ⟨e2, h2⟩ | ⟨_, h2⟩
      · refine .inl ⟨by simp, by simp, _, rfl, ?_⟩
        obtain ⟨w, hw⟩ := lim_pow k
        have l1 := lt_lim e1
        have l2 := lt_lim e2
        rw [BitVec.toNat_or, nn, nn, ofInt_nat l1, ofInt_nat l2]
        rw [wrap_lim (by rw [Arr.blt_eq, hw]; rw [hw] at l1 l2; exact decide_eq_true (Nat.or_lt_two_pow l1 l2))]
        exact h2
      · exact .inr h2
    · exact .inr h1
  case xor =>
    rcases brec_some h with ⟨e1, h1⟩ | ⟨_, h1⟩
    · rcases brec_some h1 with ⟨e2, h2⟩ | ⟨_, h2⟩
      · refine .inl ⟨by simp, by simp, _, rfl, ?_⟩
        obtain ⟨w, hw⟩ := lim_pow k
        have l1 := lt_lim e1
        have l2 := lt_lim e2
        rw [BitVec.toNat_xor, nn, nn, ofInt_nat l1, ofInt_nat l2]
        rw [wrap_lim (by rw [Arr.blt_eq, hw]; rw [hw] at l1 l2; exact decide_eq_true (Nat.xor_lt_two_pow l1 l2))]
        exact h2
      · exact .inr h2
    · exact .inr h1
  case eql =>
    refine .inl ⟨by simp, by simp, _, rfl, ?_⟩
    have : (Int.ofNat a == Int.ofNat b) = Nat.beq a b := by
      rw [Bool.eq_iff_iff]; simp only [beq_iff_eq, Int.ofNat.injEq, Nat.beq_eq]
    rw [this]; exact h
  case neq =>
    refine .inl ⟨by simp, by simp, _, rfl, ?_⟩
    have : (Int.ofNat a != Int.ofNat b) = Bool.rec true false (Nat.beq a b) := by
      have e : (Int.ofNat a == Int.ofNat b) = Nat.beq a b := by
        rw [Bool.eq_iff_iff]; simp only [beq_iff_eq, Int.ofNat.injEq, Nat.beq_eq]
      show (!(Int.ofNat a == Int.ofNat b)) = _
      rw [e]
      cases Nat.beq a b <;> rfl
    rw [this]; exact h
  case lss =>
    refine .inl ⟨by simp, by simp, _, rfl, ?_⟩
    have : decide (Int.ofNat a < Int.ofNat b) = Nat.blt a b := by rw [Arr.blt_eq]; simp only [nn]; rw [Bool.eq_iff_iff]; simp
    rw [this]; exact h
  case leq =>
    refine .inl ⟨by simp, by simp, _, rfl, ?_⟩
    have : decide (Int.ofNat a ≤ Int.ofNat b) = Nat.ble a b := by rw [ble_eq]; simp only [nn]; rw [Bool.eq_iff_iff]; simp
    rw [this]; exact h
  case gtr =>
    refine .inl ⟨by simp, by simp, _, rfl, ?_⟩
    have : decide (Int.ofNat a > Int.ofNat b) = Nat.blt b a := by rw [Arr.blt_eq]; simp only [nn]; rw [Bool.eq_iff_iff]; simp
    rw [this]; exact h
  case geq =>
    refine .inl ⟨by simp, by simp, _, rfl, ?_⟩
    have : decide (Int.ofNat a ≥ Int.ofNat b) = Nat.ble b a := by rw [ble_eq]; simp only [nn]; rw [Bool.eq_iff_iff]; simp
    rw [this]; exact h
end Go.Proofs.YtcphjmgfgfjnpaaGreatDoor.Ev
namespace Go.Proofs.YtcphjmgfgfjnpaaGreatDoor.Ev
open Go
noncomputable def rdG (r : RD) (K : (List V → XF → V) → XI) : XI := RD.rec (fun g => K g) r
theorem rdG_eq (r : RD) (K : (List V → XF → V) → XI) : rdG r K = K (rdV r) := by cases r; rfl
def Quick (c : Cfg) (yl q : Bool) (ds : List Nat) (o : Op) (i : XI) : Prop := ∀ d s f h k r, xiRun i d s f h k = some r → ∃ v h', stepX c yl q o d (evX c ds s f) h = some (v, h') ∧ k v h' = some r
theorem quick_slow (c : Cfg) (yl q : Bool) (ds : List Nat) (o : Op) : Quick c yl q ds o (xi c yl q ds o) := fun d s f h k r hr => resK_some hr
theorem stepX_sop {c : Cfg} (hc : ∀ o, c.hint o = none) {yl q : Bool} {o : Op} {d : XD} {ev : Operand → V} {h : AH} (hi : isCall o = none) : stepX c yl q o d ev h = sop c.P o ev h := by
  have hv : stepV (c.at d) q o ev h = sop c.P o ev h := by
    unfold stepV
    rw [hi]
    show conc (c.hint o) _ = _
    rw [hc]; rfl
  unfold stepX
  split
  · rename_i b args hy
    obtain ⟨cl, f, rfl, hcl, _, _⟩ := yieldAt_some hy
    obtain ⟨ce, aas, ats⟩ := cl
    simp only at hcl
    subst hcl
    cases hi
  · exact hv
section
variable (c : Cfg) (yl q : Bool) (ds : List Nat)
noncomputable def slowK (o : Op) (d : XD) (s : List V) (f : XF) (h : AH) (k : V → AH → Res) : Res := xiRun (xi c yl q ds o) d s f h k
noncomputable def xMove (x : Operand) : XI := rdG (rdOp c ds x) fun g => .mk fun _ s f h k => k (g s f) h
noncomputable def xBin (op : BinOp) (k0 : IntKind) (x y : Operand) (o : Op) : XI :=
  match numB op k0 with
  | none => xi c yl q ds o
  | some F => rdG (rdOp c ds x) fun gx => rdG (rdOp c ds y) fun gy => .mk fun d s f h k => nat2 (kN k0) (gx s f) (gy s f) (fun a b => F a b (fun v => k v h) (slowK c yl q ds o d s f h k)) (slowK c yl q ds o d s f h k)
noncomputable def xShift (left : Bool) (k0 : IntKind) (x y : Operand) (o : Op) : XI :=
  rdG (rdOp c ds x) fun gx => rdG (rdOp c ds y) fun gy => .mk fun d s f h k => natR (gx s f) (fun kx a => natR (gy s f) (fun _ b => Bool.rec (slowK c yl q ds o d s f h k) (Bool.rec (slowK c yl q ds o d s f h k)
    (Bool.rec (k (.int k0 (Int.ofNat (Nat.shiftRight a b))) h)
      (Bool.rec (k (.int k0 (Int.ofNat (Nat.mod (Nat.shiftLeft a b) (2 ^ k0.bits)))) h) (Bool.rec (slowK c yl q ds o d s f h k) (k (.int k0 (Int.ofNat (Nat.shiftLeft a b))) h) (Nat.blt (Nat.shiftLeft a b) (lim k0))) k0.signed) left)
    (Nat.ble b k0.bits)) (Nat.beq (kN kx) (kN k0))) (slowK c yl q ds o d s f h k)) (slowK c yl q ds o d s f h k)
noncomputable def loadK (a : A) (h : AH) (k : V → AH → Res) : Res :=
  Option.rec none (fun b => Bool.rec none (Option.rec (Option.rec none (fun v => k v h) (b.cells.get a.o)) (fun v => k v h) (b.cells.t.getF (Nat.succ a.o)))
    (Bool.rec false (Bool.rec false (Nat.ble (Nat.succ a.o) a.L) (Nat.ble a.L b.cells.n)) (Nat.ble b.minL a.L))) (h.m.getF (Nat.succ a.b))
noncomputable def xLoad (t : TypeId) (x : Operand) (o : Op) : XI := rdG (rdOp c ds x) fun g => .mk fun _ s f h k => ptrR (g s f) (fun a => loadK a h k) none
noncomputable def storeK (a : A) (v : V) (h : AH) (k : V → AH → Res) : Res :=
  AH.rec (fun next low hm => Option.rec none (fun b => Blk.rec (fun cells minL fz ro e => Arr.rec (fun n z t => Bool.rec none (k .bad ⟨next, Nat.min low a.b, hm.setF (Nat.succ a.b) ⟨⟨n, z, t.setF (Nat.succ a.o) v⟩, a.L, fz, ro, e⟩⟩)
    (Bool.rec false (Bool.rec false (Bool.rec false (Bool.rec false (Bool.rec true false ro) (Nat.ble (Nat.succ a.o) a.L)) (Nat.ble fz a.o)) (Nat.ble minL a.L)) (Nat.beq a.L n))) cells) b) (hm.getF (Nat.succ a.b))) h
noncomputable def xStore (t : TypeId) (x y : Operand) (o : Op) : XI :=
  rdG (rdOp c ds x) fun gx => rdG (rdOp c ds y) fun gy => .mk fun d s f h k => ptrR (gx s f) (fun a => Bool.rec (slowK c yl q ds o d s f h k) (storeK a (gy s f) h k) (cellR (gy s f))) none
noncomputable def xFieldAddr (off : Nat) (x : Operand) (o : Op) : XI := rdG (rdOp c ds x) fun g => .mk fun _ s f h k => ptrR (g s f) (fun a => k (.ptr ⟨a.b, a.L, Nat.add a.o off⟩) h) none
noncomputable def xSliceAddr (sz : Nat) (x y : Operand) (o : Op) : XI :=
  rdG (rdOp c ds x) fun gx => rdG (rdOp c ds y) fun gy => .mk fun _ s f h k => sliceR (gx s f) (fun a n => natR (gy s f) (fun _ i => Bool.rec none (k (.ptr ⟨a.b, a.L, Nat.add a.o (Nat.mul i sz)⟩) h) (Nat.blt i n)) none) none
noncomputable def xArrayAddr (len sz : Nat) (x y : Operand) (o : Op) : XI :=
  rdG (rdOp c ds x) fun gx => rdG (rdOp c ds y) fun gy => .mk fun _ s f h k => ptrR (gx s f) (fun a => natR (gy s f) (fun _ i => Bool.rec none (k (.ptr ⟨a.b, a.L, Nat.add a.o (Nat.mul i sz)⟩) h) (Nat.blt i len)) none) none
noncomputable def xConv (k0 : IntKind) (x : Operand) (o : Op) : XI :=
  rdG (rdOp c ds x) fun g => .mk fun d s f h k => natR (g s f) (fun _ a => Bool.rec (Bool.rec (k (.int k0 (Int.ofNat (Nat.mod a (2 ^ k0.bits)))) h) (slowK c yl q ds o d s f h k) k0.signed) (k (.int k0 (Int.ofNat a)) h) (Nat.blt a (lim k0))) (slowK c yl q ds o d s f h k)
noncomputable def xLen (x : Operand) (o : Op) : XI := rdG (rdOp c ds x) fun g => .mk fun d s f h k => sliceR (g s f) (fun _ n => k (.int .i64 (Int.ofNat n)) h) (slowK c yl q ds o d s f h k)
noncomputable def argsX (s : List V) (f : XF) : List Operand → List V := List.rec [] (fun x _ ih => evX c ds s f x :: ih)
noncomputable def xCall (g : FuncId) (args : List Operand) : XI := .mk fun d s f h k => resK (d.C g (argsX c ds s f args) h) k
noncomputable def xq (o : Op) : XI :=
  match o with
  | .move x => xMove c ds x
  | .assign x => xMove c ds x
  | .binOp op t x y _ => match c.P.underlying t with
    | some (.int k0) => match op with
      | .shl => xShift c yl q ds true k0 x y o
      | .shr => xShift c yl q ds false k0 x y o
      | op => xBin c yl q ds op k0 x y o
    | _ => xi c yl q ds o
  | .load t x => match c.P.underlying t with
    | none => xi c yl q ds o
    | some (.struct _) => xi c yl q ds o
    | some (.array _ _) => xi c yl q ds o
    | some _ => xLoad c ds t x o
  | .store t x y => if (c.P.info? t).isSome ∧ c.P.cellsOf t = 1 then xStore c yl q ds t x y o else xi c yl q ds o
  | .fieldAddr t x fd => match c.P.underlying t with
    | some (.struct fs) => match fs[fd]? with
      | some fl => if (c.P.info? fl.type).isSome ∧ c.P.cellsOf fl.type ≠ 0 then xFieldAddr c ds fl.offset x o else xi c yl q ds o
      | none => xi c yl q ds o
    | _ => xi c yl q ds o
  | .indexAddr t x y => match c.P.underlying t with
    | some (.slice e) => if (c.P.info? e).isSome then xSliceAddr c ds (c.P.cellsOf e) x y o else xi c yl q ds o
    | some (.array len e) => if (c.P.info? e).isSome then xArrayAddr c ds len (c.P.cellsOf e) x y o else xi c yl q ds o
    | _ => xi c yl q ds o
  | _ => xi c yl q ds o
end
theorem move_quick {c : Cfg} (hc : ∀ o, c.hint o = none) {yl q : Bool} {ds : List Nat} {x : Operand} {o : Op} (ho : ∀ ev h, sop c.P o ev h = some (ev x, h)) (hi : isCall o = none) : Quick c yl q ds o (xMove c ds x) := by
  intro d s f h k r hr
  unfold xMove at hr
  rw [rdG_eq] at hr
  exact ⟨_, h, by rw [stepX_sop hc hi, ho]; rfl, hr⟩
theorem bin_quick {c : Cfg} (hc : ∀ o, c.hint o = none) {yl q : Bool} {ds : List Nat} {op : BinOp} {t t2 : TypeId} {x y : Operand} {k0 : IntKind} : Quick c yl q ds (.binOp op t x y t2) (xBin c yl q ds op k0 x y (.binOp op t x y t2)) := by
  unfold xBin
  split
  · exact quick_slow _ _ _ _ _
  · rename_i F hF
    intro d s f h k r hr
    rw [rdG_eq, rdG_eq] at hr
    rcases nat2_some hr with ⟨a, b, hx, hy, h1⟩ | h1
    · rcases numB_some hF h1 with ⟨n1, n2, v, h2, h3⟩ | h2
      · refine ⟨v, h, ?_, h3⟩
        rw [stepX_sop hc rfl]
        show (absBin c.P op t x y (evX c ds s f x) (evX c ds s f y)).map (fun v => (v, h)) = _
        rw [show evX c ds s f x = _ from hx, show evX c ds s f y = _ from hy]
        unfold absBin
        simp only
        cases op <;> first | exact absurd rfl n1 | exact absurd rfl n2 | (simp only [if_true, h2, Option.map_some])
      · exact quick_slow c yl q ds _ d s f h k r h2
    · exact quick_slow c yl q ds _ d s f h k r h1
theorem shift_quick {c : Cfg} (hc : ∀ o, c.hint o = none) {yl q : Bool} {ds : List Nat} {left : Bool} {t t2 : TypeId} {x y : Operand} {k0 : IntKind} : Quick c yl q ds (.binOp (if left then .shl else .shr) t x y t2) (xShift c yl q ds left k0 x y (.binOp (if left then .shl else .shr) t x y t2)) := by
  intro d s f h k r hr
  unfold xShift at hr
  rw [rdG_eq, rdG_eq] at hr
  have slow := quick_slow c yl q ds (.binOp (if left then .shl else .shr) t x y t2) d s f h k r
  have done : ∀ kx a ky b v, evX c ds s f x = .int kx (Int.ofNat a) → evX c ds s f y = .int ky (Int.ofNat b) → shiftV (if left then .shl else .shr) kx (Int.ofNat a) (Int.ofNat b) = some v → k v h = some r → ∃ v h', stepX c yl q (.binOp (if left then .shl else .shr) t x y t2) d (evX c ds s f) h = some (v, h') ∧ k v h' = some r := by
    intro kx a ky b v hx hy hs hk
    refine ⟨v, h, ?_, hk⟩
    rw [stepX_sop hc rfl]
    show (absBin c.P _ t x y (evX c ds s f x) (evX c ds s f y)).map (fun v => (v, h)) = _
    rw [hx, hy]
    unfold absBin
    cases left <;> simp only [if_true, Bool.false_eq_true, if_false] at hs ⊢ <;> rw [hs] <;> rfl
  rcases natR_some hr with ⟨kx, a, hx, h1⟩ | h1
  · rcases natR_some h1 with ⟨ky, b, hy, h2⟩ | h2
    · rcases brec_some h2 with ⟨e1, h3⟩ | ⟨_, h3⟩
      · obtain rfl := kN_inj (Nat.eq_of_beq_eq_true e1)
        rcases brec_some h3 with ⟨e2, h4⟩ | ⟨_, h4⟩
        · have hle : b ≤ kx.bits := Nat.le_of_ble_eq_true e2
          have hneg : ¬ (Int.ofNat b < 0) := by show ¬ ((b : Int) < 0); omega
          have htn : min (Int.ofNat b).toNat kx.bits = b := by show min b kx.bits = b; omega
          rcases brec_some h4 with ⟨rfl, h5⟩ | ⟨rfl, h5⟩
          · rcases brec_some h5 with ⟨hs, h6⟩ | ⟨hs, h6⟩
            · rcases brec_some h6 with ⟨e3, h7⟩ | ⟨_, h7⟩
              · refine done kx a ky b _ hx hy ?_ h7
                simp only [if_true, shiftV, if_neg hneg, htn]
                have : Int.ofNat a * 2 ^ b = ((Nat.shiftLeft a b : Nat) : Int) := by
                  show (a : Int) * 2 ^ b = ((a <<< b : Nat) : Int)
                  rw [Nat.shiftLeft_eq]; simp
                rw [this, wrap_lim e3]
                rfl
              · exact slow h7
            · refine done kx a ky b _ hx hy ?_ h6
              simp only [if_true, shiftV, if_neg hneg, htn]
              have : Int.ofNat a * 2 ^ b = ((Nat.shiftLeft a b : Nat) : Int) := by
                show (a : Int) * 2 ^ b = ((a <<< b : Nat) : Int)
                rw [Nat.shiftLeft_eq]; simp
              rw [this, wrapU hs]
              rfl
          · refine done kx a ky b _ hx hy ?_ h5
            simp only [Bool.false_eq_true, if_false, shiftV, if_neg hneg, htn]
            have : Int.fdiv (Int.ofNat a) (2 ^ b) = ((Nat.shiftRight a b : Nat) : Int) := by
              show Int.fdiv (a : Int) (2 ^ b) = ((a >>> b : Nat) : Int)
              rw [Nat.shiftRight_eq_div_pow, Int.fdiv_eq_ediv_of_nonneg _ (Int.le_of_lt (Int.pow_pos (by decide)))]
              simp
            rw [this]
            rfl
        · exact slow h4
      · exact slow h3
    · exact slow h2
  · exact slow h1
theorem loadK_some {a : A} {h : AH} {k : V → AH → Res} {r : V × AH} (hr : loadK a h k = some r) : ∃ v, readN h a 1 = some [v] ∧ k v h = some r := by
  have e : loadK a h k = Option.rec (motive := fun _ => Res) none (fun b => Bool.rec (motive := fun _ => Res) none (Option.rec (motive := fun _ => Res) (Option.rec (motive := fun _ => Res) none (fun v => k v h) (b.cells.get a.o)) (fun v => k v h) (b.cells.t.get a.o))
      (Bool.rec (motive := fun _ => Bool) false (Bool.rec (motive := fun _ => Bool) false (Nat.ble (Nat.succ a.o) a.L) (Nat.ble a.L b.cells.n)) (Nat.ble b.minL a.L))) (h.get a.b) := by
    unfold loadK AH.get
    rw [T.get_getF]
    cases h.m.getF (Nat.succ a.b) with
    | none => rfl
    | some b => simp only [T.get_getF]
  rw [e] at hr
  rw [readN_eq]
  cases hb : h.get a.b with
  | none => rw [hb] at hr; cases hr
  | some b =>
    rw [hb] at hr
    simp only [Option.bind_some]
    rcases brec_some hr with ⟨e1, h1⟩ | ⟨_, h1⟩
    · have hc : b.minL ≤ a.L ∧ a.L ≤ b.cells.n ∧ a.o + 1 ≤ a.L := by
        cases q1 : Nat.ble b.minL a.L with
        | false => rw [q1] at e1; cases e1
        | true =>
          rw [q1] at e1
          cases q2 : Nat.ble a.L b.cells.n with
          | false => rw [q2] at e1; cases e1
          | true =>
            rw [q2] at e1
            exact ⟨Nat.le_of_ble_eq_true q1, Nat.le_of_ble_eq_true q2, Nat.le_of_ble_eq_true e1⟩
      rw [if_pos hc]
      have hget : ∃ v, b.cells.get a.o = some v ∧ k v h = some r := by
        cases hg : b.cells.t.get a.o with
        | some v =>
          rw [hg] at h1
          refine ⟨v, ?_, h1⟩
          rw [Arr.get_eq, if_pos (by omega), hg]
        | none =>
          rw [hg] at h1
          cases hg2 : b.cells.get a.o with
          | none => rw [hg2] at h1; cases h1
          | some v => rw [hg2] at h1; exact ⟨v, rfl, h1⟩
      obtain ⟨v, h2, h3⟩ := hget
      exact ⟨v, by rw [readL_succ, h2, readL_zero]; rfl, h3⟩
    · cases h1
theorem load_quick {c : Cfg} (hc : ∀ o, c.hint o = none) {yl q : Bool} {ds : List Nat} {t : TypeId} {x : Operand} {dsc : TypeDesc} (hu : c.P.underlying t = some dsc) (h1 : ∀ fs, dsc ≠ .struct fs) (h2 : ∀ n e, dsc ≠ .array n e) : Quick c yl q ds (.load t x) (xLoad c ds t x (.load t x)) := by
  intro d s f h k r hr
  unfold xLoad at hr
  rw [rdG_eq] at hr
  rcases ptrR_some hr with ⟨a, hx, h3⟩ | h3
  · obtain ⟨v, h4, h5⟩ := loadK_some h3
    refine ⟨v, h, ?_, h5⟩
    rw [stepX_sop hc rfl]
    show (absLoad c.P t (evX c ds s f x) h).map (fun v => (v, h)) = _
    rw [show evX c ds s f x = _ from hx]
    unfold absLoad
    simp only [hu]
    cases dsc <;> first | exact absurd rfl (h1 _) | exact absurd rfl (h2 _ _) | (simp only [h4]; rfl)
  · cases h3
theorem storeK_some {a : A} {v : V} {h : AH} {k : V → AH → Res} {r : V × AH} (hv : v.cell = true) (hr : storeK a v h k = some r) : ∃ h', writeN h a [v] = some h' ∧ k .bad h' = some r := by
  have e : storeK a v h k = Option.rec (motive := fun _ => Res) none (fun b => Bool.rec (motive := fun _ => Res) none (k .bad ⟨h.next, Nat.min h.low a.b, h.m.set a.b ⟨setL [v] a.o b.cells, a.L, b.fz, b.ro, b.e⟩⟩)
      (Bool.rec (motive := fun _ => Bool) false (Bool.rec (motive := fun _ => Bool) false (Bool.rec (motive := fun _ => Bool) false (Bool.rec (motive := fun _ => Bool) false (Bool.rec (motive := fun _ => Bool) true false b.ro) (Nat.ble (Nat.succ a.o) a.L)) (Nat.ble b.fz a.o)) (Nat.ble b.minL a.L)) (Nat.beq a.L b.cells.n))) (h.get a.b) := by
    obtain ⟨next, low, hm⟩ := h
    unfold storeK AH.get
    rw [T.get_getF]
    cases hq : hm.getF (Nat.succ a.b) with
    | none => simp only [hq]
    | some b =>
      obtain ⟨⟨n, z, t⟩, minL, fz, ro, e⟩ := b
      have h1 : setL [v] a.o (⟨n, z, t⟩ : Arr) = ⟨n, z, t.setF (Nat.succ a.o) v⟩ := by
        show ((⟨n, z, t⟩ : Arr).set a.o v : Arr) = _
        unfold Arr.set
        rw [T.set_setF]
      simp only [hq, T.set_setF, h1]
  rw [e] at hr
  cases hb : h.get a.b with
  | none => rw [hb] at hr; cases hr
  | some b =>
    rw [hb] at hr
    rcases brec_some hr with ⟨e1, h1⟩ | ⟨_, h1⟩
    · refine ⟨_, ?_, h1⟩
      have hw : writeN h a [v] = bif Nat.beq a.L b.cells.n && (Nat.ble b.minL a.L && (Nat.ble b.fz a.o && (Nat.ble (Nat.add a.o 1) a.L && ([v].all V.cell && not b.ro)))) then some ⟨h.next, Nat.min h.low a.b, h.m.set a.b ⟨setL [v] a.o b.cells, a.L, b.fz, b.ro, b.e⟩⟩ else none := by
        unfold writeN
        rw [hb]
        rfl
      rw [hw]
      have hall : [v].all V.cell = true := by simp [hv]
      rw [hall]
      cases q1 : Nat.beq a.L b.cells.n with
      | false => rw [q1] at e1; cases e1
      | true =>
        rw [q1] at e1
        cases q2 : Nat.ble b.minL a.L with
        | false => rw [q2] at e1; cases e1
        | true =>
          rw [q2] at e1
          cases q3 : Nat.ble b.fz a.o with
          | false => rw [q3] at e1; cases e1
          | true =>
            rw [q3] at e1
            cases q4 : Nat.ble (Nat.add a.o 1) a.L with
            | false => rw [show Nat.ble (Nat.succ a.o) a.L = false from q4] at e1; cases e1
            | true =>
              rw [show Nat.ble (Nat.succ a.o) a.L = true from q4] at e1
              cases q5 : b.ro with
              | true => rw [q5] at e1; cases e1
              | false => rfl
    · cases h1
theorem store_quick {c : Cfg} (hc : ∀ o, c.hint o = none) {yl q : Bool} {ds : List Nat} {t : TypeId} {x y : Operand} (ht : (c.P.info? t).isSome ∧ c.P.cellsOf t = 1) : Quick c yl q ds (.store t x y) (xStore c yl q ds t x y (.store t x y)) := by
  intro d s f h k r hr
  unfold xStore at hr
  rw [rdG_eq, rdG_eq] at hr
  rcases ptrR_some hr with ⟨a, hx, h3⟩ | h3
  · rcases brec_some h3 with ⟨e1, h4⟩ | ⟨_, h4⟩
    · obtain ⟨hcell, hcells⟩ := cellR_eq e1
      obtain ⟨h', h5, h6⟩ := storeK_some hcell h4
      refine ⟨.bad, h', ?_, h6⟩
      rw [stepX_sop hc rfl]
      show (absStore c.P t (evX c ds s f x) (evX c ds s f y) h).map (fun h' => (V.bad, h')) = _
      rw [show evX c ds s f x = _ from hx]
      unfold absStore
      simp only
      have hcells' : (evX c ds s f y).cells = [evX c ds s f y] := hcells
      rw [if_pos ⟨ht.1, by rw [hcells', ht.2]; rfl⟩, hcells']
      have h5' : writeN h a [evX c ds s f y] = some h' := h5
      rw [h5']; rfl
    · exact quick_slow c yl q ds _ d s f h k r h4
  · cases h3
theorem fieldAddr_quick {c : Cfg} (hc : ∀ o, c.hint o = none) {yl q : Bool} {ds : List Nat} {t : TypeId} {x : Operand} {fd : Nat} {fs : Array Field} {fl : Field} (hu : c.P.underlying t = some (.struct fs)) (hf : fs[fd]? = some fl) (hi : (c.P.info? fl.type).isSome ∧ c.P.cellsOf fl.type ≠ 0) : Quick c yl q ds (.fieldAddr t x fd) (xFieldAddr c ds fl.offset x (.fieldAddr t x fd)) := by
  intro d s f h k r hr
  unfold xFieldAddr at hr
  rw [rdG_eq] at hr
  rcases ptrR_some hr with ⟨a, hx, h3⟩ | h3
  · refine ⟨_, h, ?_, h3⟩
    rw [stepX_sop hc rfl]
    show (absFieldAddr c.P t (evX c ds s f x) fd).map (fun v => (v, h)) = _
    rw [show evX c ds s f x = _ from hx]
    unfold absFieldAddr
    simp only [hu, hf, if_pos hi]
    rfl
  · cases h3
theorem sliceAddr_quick {c : Cfg} (hc : ∀ o, c.hint o = none) {yl q : Bool} {ds : List Nat} {t e : TypeId} {x y : Operand} (hu : c.P.underlying t = some (.slice e)) (hi : (c.P.info? e).isSome) : Quick c yl q ds (.indexAddr t x y) (xSliceAddr c ds (c.P.cellsOf e) x y (.indexAddr t x y)) := by
  intro d s f h k r hr
  unfold xSliceAddr at hr
  rw [rdG_eq, rdG_eq] at hr
  rcases sliceR_some hr with ⟨a, n, cap, ex, zz, hx, h3⟩ | h3
  · rcases natR_some h3 with ⟨ky, i, hy, h4⟩ | h4
    · rcases brec_some h4 with ⟨e1, h5⟩ | ⟨_, h5⟩
      · refine ⟨_, h, ?_, h5⟩
        rw [stepX_sop hc rfl]
        show (absIndexAddr c.P t (evX c ds s f x) (evX c ds s f y)).map (fun v => (v, h)) = _
        rw [show evX c ds s f x = _ from hx, show evX c ds s f y = _ from hy]
        unfold absIndexAddr
        simp only [hu]
        rw [Arr.blt_eq] at e1
        have hlt : i < n := of_decide_eq_true e1
        rw [if_pos ⟨Int.natCast_nonneg i, by show (i : Int) < n; omega, hi⟩]
        rfl
      · cases h5
    · cases h4
  · cases h3
theorem arrayAddr_quick {c : Cfg} (hc : ∀ o, c.hint o = none) {yl q : Bool} {ds : List Nat} {t e : TypeId} {len : Nat} {x y : Operand} (hu : c.P.underlying t = some (.array len e)) (hi : (c.P.info? e).isSome) : Quick c yl q ds (.indexAddr t x y) (xArrayAddr c ds len (c.P.cellsOf e) x y (.indexAddr t x y)) := by
  intro d s f h k r hr
  unfold xArrayAddr at hr
  rw [rdG_eq, rdG_eq] at hr
  rcases ptrR_some hr with ⟨a, hx, h3⟩ | h3
  · rcases natR_some h3 with ⟨ky, i, hy, h4⟩ | h4
    · rcases brec_some h4 with ⟨e1, h5⟩ | ⟨_, h5⟩
      · refine ⟨_, h, ?_, h5⟩
        rw [stepX_sop hc rfl]
        show (absIndexAddr c.P t (evX c ds s f x) (evX c ds s f y)).map (fun v => (v, h)) = _
        rw [show evX c ds s f x = _ from hx, show evX c ds s f y = _ from hy]
        unfold absIndexAddr
        simp only [hu]
        rw [Arr.blt_eq] at e1
        have hlt : i < len := of_decide_eq_true e1
        rw [if_pos ⟨Int.natCast_nonneg i, by show (i : Int) < len; omega, hi⟩]
        rfl
      · cases h5
    · cases h4
  · cases h3
theorem xq_ok {c : Cfg} (hc : ∀ o, c.hint o = none) : OpsOK c (xq c) := by
  intro yl q ds o d s f h k r hr
  have slow : ∀ {o : Op}, xiRun (xi c yl q ds o) d s f h k = some r → ∃ v h', stepX c yl q o d (evX c ds s f) h = some (v, h') ∧ k v h' = some r := fun {o} hr => quick_slow c yl q ds o d s f h k r hr
  unfold xq at hr
  split at hr
  · exact move_quick hc (fun _ _ => rfl) rfl d s f h k r hr
  · exact move_quick hc (fun _ _ => rfl) rfl d s f h k r hr
  · split at hr
    · split at hr
      · exact shift_quick (left := true) hc d s f h k r hr
      · exact shift_quick (left := false) hc d s f h k r hr
      · exact bin_quick hc d s f h k r hr
    · exact slow hr
  · split at hr
    · exact slow hr
    · exact slow hr
    · exact slow hr
    · rename_i dsc h1 h2 hu
      exact load_quick hc hu (fun fs e => h1 fs e) (fun n e he => h2 n e he) d s f h k r hr
  · split at hr
    · rename_i ht; exact store_quick hc ht d s f h k r hr
    · exact slow hr
  · split at hr
    · rename_i fs hu
      split at hr
      · rename_i fl hf
        split at hr
        · rename_i hi; exact fieldAddr_quick hc hu hf hi d s f h k r hr
        · exact slow hr
      · exact slow hr
    · exact slow hr
  · split at hr
    · rename_i e hu
      split at hr
      · rename_i hi; exact sliceAddr_quick hc hu hi d s f h k r hr
      · exact slow hr
    · rename_i len e hu
      split at hr
      · rename_i hi; exact arrayAddr_quick hc hu hi d s f h k r hr
      · exact slow hr
    · exact slow hr
  · exact slow hr
end Go.Proofs.YtcphjmgfgfjnpaaGreatDoor.Ev
