/-
  Regions whose order the edges leave open: the proof. No program in sight. No condition.
-/
import Derived.Test.YtbeohojepniioaaDoorEwD
set_option linter.unusedVariables false
set_option linter.unusedSimpArgs false
namespace Go.Proofs.YtbeohojepniioaaDoor.Ev
open Go

theorem cls_call {P : Program} {o : Op} (h : (isCall o).isSome = true) : cls P o = 2 := by
  unfold isCall at h
  split at h
  · rename_i cl
    obtain ⟨ce, args, ats⟩ := cl
    cases ce with
    | value f => rfl
    | invoke r n => rfl
    | builtin b => cases h
  · cases h
theorem mem_looks {ops : Array Oper} {o : Oper} {t : Tmp} (h : Operand.tmp t ∈ o.op.operands.toList) : t ∈ o.looksAt ops := by
  unfold Oper.looksAt
  rw [List.mem_append]
  refine .inl ?_
  rw [List.mem_filterMap]
  exact ⟨_, h, rfl⟩
theorem mem_guard {ops : Array Oper} {o : Oper} {j : Nat} {b : Bool} {d : Tmp} (h : o.guard = some (j, b)) (hd : (ops[j]?).bind (·.dst) = some d) : d ∈ o.looksAt ops := by
  unfold Oper.looksAt
  rw [List.mem_append]
  refine .inr ?_
  rw [h]
  simp [hd]

section
variable {c : Cfg} {fo : FO} {N : Nat} {ops : Array Oper} {qs : Nat → Bool} {ord : Nat → Nat → Prop} {frs : Nat → fo.F} {hs : Nat → AH}

theorem get_putF (fr : fo.F) (d : Option Nat) (v : V) (t : Nat) (h : d ≠ some t) : fo.get (putF fo N fr d v) t = fo.get fr t := by
  cases d with
  | none => rfl
  | some d =>
    simp only [putF]
    cases Nat.blt d N with
    | false => rfl
    | true =>
      simp only [cond_true]
      rw [fo.get_set, if_neg (fun e => h (by rw [e]))]
theorem frame_const (ht : ∀ i, i < ops.size → Trace c fo N ops qs i (frs i) (hs i) (frs (i + 1)) (hs (i + 1))) (t : Nat) : ∀ (m lo : Nat), lo + m ≤ ops.size → (∀ i o, lo ≤ i → i < lo + m → ops[i]? = some o → o.dst ≠ some t) → fo.get (frs (lo + m)) t = fo.get (frs lo) t := by
  intro m
  induction m with
  | zero => intro lo _ _; rfl
  | succ m ih =>
    intro lo hle hno
    rw [← ih lo (by omega) (fun i o h1 h2 h3 => hno i o h1 (by omega) h3), show lo + (m + 1) = lo + m + 1 from by omega]
    obtain ⟨o, ho, hh⟩ := ht (lo + m) (by omega)
    have hd := hno (lo + m) o (by omega) (by omega) ho
    rcases hh with ⟨_, e, _⟩ | ⟨_, v, _, e⟩ <;> rw [e] <;> exact get_putF _ _ _ _ hd
theorem heap_const (hH : HintOK c) (ht : ∀ i, i < ops.size → Trace c fo N ops qs i (frs i) (hs i) (frs (i + 1)) (hs (i + 1))) : ∀ (m lo : Nat), lo + m ≤ ops.size → (∀ i o, lo ≤ i → i < lo + m → ops[i]? = some o → cls c.P o.op ≠ 2) → hs (lo + m) = hs lo := by
  intro m
  induction m with
  | zero => intro lo _ _; rfl
  | succ m ih =>
    intro lo hle hno
    rw [← ih lo (by omega) (fun i o h1 h2 h3 => hno i o h1 (by omega) h3), show lo + (m + 1) = lo + m + 1 from by omega]
    obtain ⟨o, ho, hh⟩ := ht (lo + m) (by omega)
    have hc := hno (lo + m) o (by omega) (by omega) ho
    rcases hh with ⟨_, _, e⟩ | ⟨_, v, e, _⟩
    · exact e
    · have hcall : isCall o.op = none := by
        cases hi : isCall o.op with
        | none => rfl
        | some cl => exact absurd (cls_call (by rw [hi]; rfl)) hc
      unfold stepV at e
      rw [hcall] at e
      exact (loud_same hc hcall (conc_some hH e)).1
/-- Between two places of the text: what was there stays, if whoever makes or writes memory in between is a quiet call. -/
theorem heap_quiet (hA : CAbs c) (ht : ∀ i, i < ops.size → Trace c fo N ops qs i (frs i) (hs i) (frs (i + 1)) (hs (i + 1))) : ∀ (m lo : Nat), lo + m ≤ ops.size → (∀ i o, lo ≤ i → i < lo + m → ops[i]? = some o → cls c.P o.op = 2 → (isCall o.op).isSome = true ∧ qs i = true) →
    (hs lo).next ≤ (hs (lo + m)).next ∧ ∀ b, b < (hs lo).next → (hs (lo + m)).get b = (hs lo).get b := by
  intro m
  induction m with
  | zero => intro lo _ _; exact ⟨Nat.le_refl _, fun _ _ => rfl⟩
  | succ m ih =>
    intro lo hle hno
    obtain ⟨h1, h2⟩ := ih lo (by omega) (fun i o h1 h2 h3 => hno i o h1 (by omega) h3)
    rw [show lo + (m + 1) = lo + m + 1 from by omega]
    obtain ⟨o, ho, hh⟩ := ht (lo + m) (by omega)
    have key : (hs (lo + m)).next ≤ (hs (lo + m + 1)).next ∧ ∀ b, b < (hs (lo + m)).next → (hs (lo + m + 1)).get b = (hs (lo + m)).get b := by
      rcases hh with ⟨_, _, e⟩ | ⟨_, v, e, _⟩
      · rw [e]; exact ⟨Nat.le_refl _, fun _ _ => rfl⟩
      · by_cases hc : cls c.P o.op = 2
        · obtain ⟨g1, g2⟩ := hno (lo + m) o (by omega) (by omega) ho hc
          obtain ⟨q1, q2⟩ := stepV_astep hA e
          exact ⟨q1.next, q2 g1 g2⟩
        · have hcall : isCall o.op = none := by
            cases hi : isCall o.op with
            | none => rfl
            | some cl => exact absurd (cls_call (by rw [hi]; rfl)) hc
          unfold stepV at e
          rw [hcall] at e
          rw [(loud_same hc hcall (conc_some hA.2.2 e)).1]
          exact ⟨Nat.le_refl _, fun _ _ => rfl⟩
    exact ⟨Nat.le_trans h1 key.1, fun b hb => (key.2 b (Nat.lt_of_lt_of_le hb h1)).trans (h2 b hb)⟩

/-- What holds while an order is gone through. -/
structure DInv (c : Cfg) (fo : FO) (N : Nat) (ops : Array Oper) (ord : Nat → Nat → Prop) (frs : Nat → fo.F) (hs : Nat → AH) (ρ0 : Rho) (h0 : AH) (w0 : World) (listed : Array Bool) (a : Act) (w : World) (ρ : Rho) (p : Nat) : Prop where
  size : listed.size = ops.size
  down : ∀ i j, listed.getD j false = true → ord i j → listed.getD i false = true
  ple : p ≤ ops.size
  spine : ∀ i o, ops[i]? = some o → cls c.P o.op = 2 → (listed.getD i false = true ↔ i < p)
  heap : HR ρ (hs p) w
  step : Step ρ0 h0 w0 ρ (hs p) w
  gok : GOK c ρ
  lives : ∀ q, q ≤ p → ∀ b k, (hs q).get b = some k → b < (hs q).next
  slots : ∀ t : Nat, ∃ d, d ≤ ops.size ∧ (∀ i o, ops[i]? = some o → o.dst = some t → (listed.getD i false = true ↔ i < d)) ∧ R ρ (fo.get (frs d) t) (a.tmps.getD t undef)
  tmps : a.tmps.size = N
  defers : a.defers = []

theorem getD_set (l : Array Bool) (i j : Nat) (hi : i < l.size) : (l.setIfInBounds i true).getD j false = if j = i then true else l.getD j false := by
  simp only [Array.getD_eq_getD_getElem?, Array.getElem?_setIfInBounds]
  by_cases h : j = i
  · subst h; simp [hi]
  · rw [if_neg h, if_neg (fun e => h e.symm)]

theorem ready_iff {listed : Array Bool} (hsz : listed.size = ops.size) {i : Nat} : i ∈ Region.ready .any ops listed ↔ i < ops.size ∧ listed.getD i false = false ∧ ∀ o, ops[i]? = some o → ∀ e, e ∈ o.after.toList → Region.binds .any e = true → listed.getD e.on false = true := by
  unfold Region.ready
  rw [List.mem_filter, List.mem_range]
  constructor
  · rintro ⟨h1, h2⟩
    simp only [Bool.and_eq_true, Bool.not_eq_true'] at h2
    refine ⟨h1, ?_, ?_⟩
    · have h3 := h2.1
      rw [Array.getD_eq_getD_getElem?, Array.getElem?_eq_getElem (by omega), Option.getD_some] at h3
      rw [Array.getD_eq_getD_getElem?, Array.getElem?_eq_getElem (by omega), Option.getD_some]
      exact h3
    · intro o ho e he hb
      have h3 := h2.2
      rw [ho] at h3
      simp only [Option.map_some, Option.getD_some] at h3
      rw [← Array.all_toList, List.all_eq_true] at h3
      have := h3 e he
      simpa [hb] using this
  · rintro ⟨h1, h2, h3⟩
    refine ⟨h1, ?_⟩
    simp only [Bool.and_eq_true, Bool.not_eq_true']
    constructor
    · rw [Array.getD_eq_getD_getElem?, Array.getElem?_eq_getElem (by omega), Option.getD_some] at h2
      rw [Array.getD_eq_getD_getElem?, Array.getElem?_eq_getElem (by omega), Option.getD_some]
      exact h2
    · rw [Array.getElem?_eq_getElem h1]
      simp only [Option.map_some, Option.getD_some]
      rw [← Array.all_toList, List.all_eq_true]
      intro e he
      cases hb : Region.binds .any e with
      | false => rfl
      | true => simpa using h3 ops[i] (Array.getElem?_eq_getElem h1) e he hb

theorem ord_lt {P : Program} (hd : DrawOK P ops qs ord) : ∀ (j i : Nat), j < ops.size → ord i j → i < j := by
  intro j
  induction j using Nat.strongRecOn with
  | _ j ih =>
    intro i hj hord
    obtain ⟨e, he, hb, hor⟩ := hd.closed i j ops[j] (Array.getElem?_eq_getElem hj) hord
    have hlt := hd.edge j ops[j] e (Array.getElem?_eq_getElem hj) he hb
    rcases hor with rfl | hor
    · exact hlt
    · have := ih e.on hlt i (by omega) hor
      omega
/-- At the end everything is listed. -/
theorem all_listed {P : Program} (hd : DrawOK P ops qs ord) {listed : Array Bool} (hsz : listed.size = ops.size) (hr : Region.ready .any ops listed = []) : ∀ i, i < ops.size → listed.getD i false = true := by
  intro i
  induction i using Nat.strongRecOn with
  | _ i ih =>
    intro hi
    cases hl : listed.getD i false with
    | true => rfl
    | false =>
      exfalso
      have : i ∈ Region.ready .any ops listed := (ready_iff hsz).2 ⟨hi, hl, fun o ho e he hb => by
        have hlt := hd.edge i o e ho he hb
        exact ih e.on hlt (by omega)⟩
      rw [hr] at this
      cases this

theorem frame_at {P : Program} (hd : DrawOK P ops qs ord) (ht : ∀ i, i < ops.size → Trace c fo N ops qs i (frs i) (hs i) (frs (i + 1)) (hs (i + 1))) {listed : Array Bool} (hdown : ∀ i j, listed.getD j false = true → ord i j → listed.getD i false = true) {i : Nat} {o : Oper} (hi : i < ops.size) (ho : ops[i]? = some o) (hnl : listed.getD i false = false)
    (hpre : ∀ x, ord x i → listed.getD x false = true) {t d : Nat} (hlook : t ∈ o.looksAt ops) (hdle : d ≤ ops.size) (hdw : ∀ x ox, ops[x]? = some ox → ox.dst = some t → (listed.getD x false = true ↔ x < d)) : fo.get (frs d) t = fo.get (frs i) t := by
  have hwr : ∀ x ox, ops[x]? = some ox → ox.dst = some t → (x < i → x < d) ∧ (i ≤ x → d ≤ x) := by
    intro x ox hx hdst
    by_cases hxi : x = i
    · subst hxi
      refine ⟨fun h => absurd h (Nat.lt_irrefl _), fun _ => ?_⟩
      have h2 := (hdw x ox hx hdst)
      rw [hnl] at h2
      have : ¬ x < d := fun h => by have := h2.2 h; cases this
      omega
    · obtain ⟨s1, s2⟩ := hd.slot x i ox o t hx ho hxi hdst (.inl hlook)
      refine ⟨fun h => (hdw x ox hx hdst).1 (hpre x (s1 h)), fun h => ?_⟩
      have hlt : i < x := by omega
      rcases Nat.lt_or_ge x d with hxd | hxd
      · have := hdown i x ((hdw x ox hx hdst).2 hxd) (s2 hlt)
        rw [hnl] at this; cases this
      · exact hxd
  rcases Nat.le_total d i with hle | hle
  · have := frame_const ht t (i - d) d (by omega) (fun x ox h1 h2 h3 h4 => by have := (hwr x ox h3 h4).1 (by omega); omega)
    rw [show d + (i - d) = i from by omega] at this
    exact this.symm
  · have := frame_const ht t (d - i) i (by omega) (fun x ox h1 h2 h3 h4 => by have := (hwr x ox h3 h4).2 (by omega); omega)
    rw [show i + (d - i) = d from by omega] at this
    exact this

theorem draw_wp (hC : CSound c) (hX : XSound c) (hA : CAbs c) (hd : DrawOK c.P ops qs ord) (ht : ∀ i, i < ops.size → Trace c fo N ops qs i (frs i) (hs i) (frs (i + 1)) (hs (i + 1))) {Q : Exit → Act → World → Prop} {r : V × AH} {k : fo.F → AH → Res} (hk : k (frs ops.size) (hs ops.size) = some r)
    {ρ0 : Rho} {h0 : AH} {w0 : World} (hr0 : HR ρ0 h0 w0) (hp : Post c fo N ρ0 h0 w0 r k (Q .normal)) : ∀ (fuel : Nat) (listed : Array Bool) (a : Act) (w : World) (ρ : Rho) (p : Nat),
    (listed.toList.filter (· == false)).length ≤ fuel → DInv c fo N ops ord frs hs ρ0 h0 w0 listed a w ρ p → wpAny c.P .any ops Q fuel listed a w := by
  have done : ∀ (listed : Array Bool) (a : Act) (w : World) (ρ : Rho) (p : Nat), DInv c fo N ops ord frs hs ρ0 h0 w0 listed a w ρ p → Region.ready .any ops listed = [] → Q .normal a w := by
    intro listed a w ρ p inv hr
    have hall := all_listed hd inv.size hr
    have hheap : hs ops.size = hs p := by
      have := heap_const hA.2.2 ht (ops.size - p) p (by have := inv.ple; omega) (fun i o h1 h2 ho hc => by
        have := (inv.spine i o ho hc).1 (hall i (by have := inv.ple; omega))
        omega)
      rw [show p + (ops.size - p) = ops.size from by have := inv.ple; omega] at this
      exact this
    refine hp (frs ops.size) (hs ops.size) a w ρ hk ?_ inv.tmps inv.defers inv.gok (by rw [hheap]; exact inv.heap) (by rw [hheap]; exact inv.step)
    intro t
    obtain ⟨d, d1, d2, d3⟩ := inv.slots t
    have := frame_const ht t (ops.size - d) d (by omega) (fun i o h1 h2 ho hdst => by
      have := (d2 i o ho hdst).1 (hall i (by omega))
      omega)
    rw [show d + (ops.size - d) = ops.size from by omega] at this
    rw [this]
    exact d3
  intro fuel
  induction fuel with
  | zero =>
    intro listed a w ρ p hf inv
    have hready : Region.ready .any ops listed = [] := by
      apply List.eq_nil_iff_forall_not_mem.2
      intro i hi
      obtain ⟨h1, h2, _⟩ := (ready_iff inv.size).1 hi
      have hnil : listed.toList.filter (· == false) = [] := List.eq_nil_of_length_eq_zero (by omega)
      have hmem : false ∈ listed.toList.filter (· == false) := by
        rw [List.mem_filter]
        refine ⟨?_, rfl⟩
        rw [Array.getD_eq_getD_getElem?, Array.getElem?_eq_getElem (by rw [inv.size]; exact h1), Option.getD_some] at h2
        rw [← h2]
        exact Array.mem_toList_iff.2 (Array.getElem_mem _)
      rw [hnil] at hmem
      cases hmem
    exact ⟨hready, done listed a w ρ p inv hready⟩
  | succ fuel ih =>
    intro listed a w ρ p hf inv
    refine ⟨done listed a w ρ p inv, fun i hi => ?_⟩
    obtain ⟨hilt, hnl, hedges⟩ := (ready_iff inv.size).1 hi
    obtain ⟨o, ho, hcase⟩ := ht i hilt
    have hpre : ∀ x, ord x i → listed.getD x false = true := by
      intro x hx
      obtain ⟨e, he, hb, hor⟩ := hd.closed x i o ho hx
      have hl := hedges o ho e he hb
      rcases hor with rfl | hor
      · exact hl
      · exact inv.down x e.on hl hor
    have hislt : i < listed.size := by rw [inv.size]; exact hilt
    have hcount : ((listed.setIfInBounds i true).toList.filter (· == false)).length ≤ fuel := by
      have h1 : listed.toList[i]? = some false := by
        rw [Array.getD_eq_getD_getElem?, Array.getElem?_eq_getElem hislt, Option.getD_some] at hnl
        rw [Array.getElem?_toList, Array.getElem?_eq_getElem hislt, hnl]
      rw [Array.toList_setIfInBounds]
      have : ∀ (l : List Bool) (i : Nat), l[i]? = some false → ((l.set i true).filter (· == false)).length + 1 = (l.filter (· == false)).length := by
        intro l
        induction l with
        | nil => intro i h; simp at h
        | cons b l ihl =>
          intro i h
          cases i with
          | zero => simp at h; subst h; simp
          | succ i =>
            have := ihl i (by simpa using h)
            cases b <;> simp [List.set_cons_succ] <;> simpa using this
      have := this listed.toList i h1
      omega
    -- the frame that the operation sees
    have hslot : ∀ t, t ∈ o.looksAt ops → R ρ (fo.get (frs i) t) (a.tmps.getD t undef) := by
      intro t hlook
      obtain ⟨d, d1, d2, d3⟩ := inv.slots t
      rw [← frame_at hd ht inv.down hilt ho hnl hpre hlook d1 d2]
      exact d3
    -- what the slots are behind it
    have hdown' : ∀ x j, (listed.setIfInBounds i true).getD j false = true → ord x j → (listed.setIfInBounds i true).getD x false = true := by
      intro x j hj hx
      rw [getD_set _ _ _ hislt] at hj ⊢
      by_cases hxi : x = i
      · rw [if_pos hxi]
      · rw [if_neg hxi]
        by_cases hji : j = i
        · subst hji; exact hpre x hx
        · rw [if_neg hji] at hj; exact inv.down x j hj hx
    have hslots' : ∀ (v : V) (u : Value) (ρ' : Rho), ρ.le ρ' → R ρ' v u → (fo.get (frs (i + 1)) = fo.get (putF fo N (frs i) o.dst v)) → ∀ t : Nat, ∃ d, d ≤ ops.size ∧ (∀ x ox, ops[x]? = some ox → ox.dst = some t → ((listed.setIfInBounds i true).getD x false = true ↔ x < d)) ∧ R ρ' (fo.get (frs d) t) ((a.put o.dst u).tmps.getD t undef) := by
      intro v u ρ' hle hR hfr t
      by_cases hdst : o.dst = some t
      · refine ⟨i + 1, hilt, ?_, ?_⟩
        · intro x ox hx hxd
          rw [getD_set _ _ _ hislt]
          by_cases hxi : x = i
          · subst hxi; simp
          · rw [if_neg hxi]
            obtain ⟨s1, s2⟩ := hd.slot x i ox o t hx ho hxi hxd (.inr hdst)
            constructor
            · intro hl
              rcases Nat.lt_or_ge x i with hlt | hge
              · omega
              · have := inv.down i x hl (s2 (by omega))
                rw [hnl] at this; cases this
            · intro hlt
              exact hpre x (s1 (by omega))
        · rw [hfr, hdst]
          unfold putF Act.put
          simp only [Array.getD_eq_getD_getElem?]
          rw [Arr.blt_eq]
          by_cases htn : t < N
          · simp only [htn, decide_true, cond_true, fo.get_set, if_true, Array.getElem?_setIfInBounds]
            rw [if_pos (by rw [inv.tmps]; exact htn)]
            exact hR
          · simp only [htn, decide_false, cond_false, Array.getElem?_setIfInBounds, if_true]
            rw [if_neg (by rw [inv.tmps]; exact htn)]
            obtain ⟨d, d1, d2, d3⟩ := inv.slots t
            have hconst : ∀ m, m ≤ ops.size → fo.get (frs m) t = fo.get (frs 0) t := by
              intro m
              induction m with
              | zero => intro _; rfl
              | succ m ihm =>
                intro hm
                rw [← ihm (by omega)]
                obtain ⟨om, hom, hhm⟩ := ht m (by omega)
                have hput : ∀ vv : V, fo.get (putF fo N (frs m) om.dst vv) t = fo.get (frs m) t := by
                  intro vv
                  by_cases he : om.dst = some t
                  · rw [he]
                    unfold putF
                    simp only [Arr.blt_eq, htn, decide_false, cond_false]
                  · exact get_putF _ _ _ _ he
                rcases hhm with ⟨_, e, _⟩ | ⟨_, vv, _, e⟩ <;> rw [e] <;> exact hput _
            rw [hconst i (by omega), ← hconst d d1]
            have := d3.mono hle
            rw [Array.getD_eq_getD_getElem?, Array.getElem?_eq_none (by rw [inv.tmps]; omega)] at this
            exact this
      · obtain ⟨d, d1, d2, d3⟩ := inv.slots t
        refine ⟨d, d1, ?_, ?_⟩
        · intro x ox hx hxd
          rw [getD_set _ _ _ hislt]
          have hxi : x ≠ i := by
            rintro rfl
            rw [ho] at hx
            cases hx
            exact hdst hxd
          rw [if_neg hxi]
          exact d2 x ox hx hxd
        · have : (a.put o.dst u).tmps.getD t undef = a.tmps.getD t undef := by
            cases hdd : o.dst with
            | none => rfl
            | some dd =>
              simp only [Act.put, Array.getD_eq_getD_getElem?, Array.getElem?_setIfInBounds]
              rw [if_neg]
              intro he
              exact hdst (by rw [hdd, he])
          rw [this]
          exact d3.mono hle
    unfold wpOp
    rw [ho]
    simp only
    have hwant : ∀ b, wantedV fo ops o (frs i) = some b → Region.wanted o (yielded ops a.tmps) = b := by
      intro b hw
      -- only the guard's slot counts
      let fr' : Nat → V := fun t => if t ∈ o.looksAt ops then fo.get (frs i) t else .bad
      have hfr' : FR foFun ρ fr' a.tmps := by
        intro t
        show R ρ (if t ∈ o.looksAt ops then fo.get (frs i) t else .bad) _
        by_cases hl : t ∈ o.looksAt ops
        · rw [if_pos hl]; exact hslot t hl
        · rw [if_neg hl]; trivial
      refine wantedV_sound (fo := foFun) hfr' ?_
      rw [← hw]
      unfold wantedV
      cases hg : o.guard with
      | none => rfl
      | some jb =>
        obtain ⟨j, b'⟩ := jb
        simp only
        cases hdd : (ops[j]?).bind (·.dst) with
        | none => rfl
        | some dd =>
          simp only
          have : foFun.get fr' dd = fo.get (frs i) dd := by
            show (if dd ∈ o.looksAt ops then fo.get (frs i) dd else .bad) = _
            rw [if_pos (mem_guard hg hdd)]
          rw [this]
    rcases hcase with ⟨hw, hfr, hhp⟩ | ⟨hw, v, hstep, hfr⟩
    · rw [hwant false hw]
      simp only [Bool.false_eq_true, if_false]
      by_cases hcl : cls c.P o.op = 2
      · -- a guarded operation that is not carried out
        have hip : p ≤ i := by
          rcases Nat.lt_or_ge i p with h | h
          · have := (inv.spine i o ho hcl).2 h; rw [hnl] at this; cases this
          · exact h
        have hpi : hs i = hs p := by
          have := heap_const hA.2.2 ht (i - p) p (by omega) (fun x ox h1 h2 hx hc => by
            have := hd.spine x i ox o hx ho (by omega) hc hcl
            have := (inv.spine x ox hx hc).1 (hpre x this)
            omega)
          rw [show p + (i - p) = i from by omega] at this
          exact this
        refine ih _ _ _ ρ (i + 1) hcount ⟨by simpa using inv.size, hdown', hilt, ?_, ?_, ?_, inv.gok, ?_, ?_, by rw [put_size]; exact inv.tmps, by rw [put_defers]; exact inv.defers⟩
        · intro x ox hx hc
          rw [getD_set _ _ _ hislt]
          by_cases hxi : x = i
          · subst hxi; simp
          · rw [if_neg hxi, inv.spine x ox hx hc]
            constructor
            · intro h; omega
            · intro h
              have := hd.spine x i ox o hx ho (by omega) hc hcl
              exact (inv.spine x ox hx hc).1 (hpre x this)
        · rw [hhp, hpi]; exact inv.heap
        · rw [hhp, hpi]; exact inv.step
        · intro q hq b kk hb
          by_cases hqp : q ≤ p
          · exact inv.lives q hqp b kk hb
          · have hq' : hs q = hs p := by
              by_cases hqi : q = i + 1
              · rw [hqi, hhp, hpi]
              · have := heap_const hA.2.2 ht (q - p) p (by omega) (fun x ox h1 h2 hx hc => by
                  have := hd.spine x i ox o hx ho (by omega) hc hcl
                  have := (inv.spine x ox hx hc).1 (hpre x this)
                  omega)
                rw [show p + (q - p) = q from by omega] at this
                exact this
            rw [hq'] at hb ⊢
            exact inv.lives p (Nat.le_refl _) b kk hb
        · exact hslots' undefV undef ρ (Rho.le_refl ρ) (undefV_R ρ) (by rw [hfr])
      · refine ih _ _ _ ρ p hcount ⟨by simpa using inv.size, hdown', inv.ple, ?_, inv.heap, inv.step, inv.gok, inv.lives, ?_, by rw [put_size]; exact inv.tmps, by rw [put_defers]; exact inv.defers⟩
        · intro x ox hx hc
          rw [getD_set _ _ _ hislt, if_neg (by rintro rfl; rw [ho] at hx; cases hx; exact hcl hc)]
          exact inv.spine x ox hx hc
        · exact hslots' undefV undef ρ (Rho.le_refl ρ) (undefV_R ρ) (by rw [hfr])
    · rw [hwant true hw]
      simp only [if_true]
      refine .inl ?_
      -- the operands
      let ev' : Operand → V := fun x => match x with
        | .tmp t => if t ∈ o.looksAt ops then fo.get (frs i) t else .bad
        | x => evO c fo (frs i) x
      have hev : ∀ x, R ρ (ev' x) (a.eval x) := by
        intro x
        cases x with
        | tmp t =>
          show R ρ (if t ∈ o.looksAt ops then fo.get (frs i) t else .bad) _
          by_cases hl : t ∈ o.looksAt ops
          · rw [if_pos hl]; exact hslot t hl
          · rw [if_neg hl]; trivial
        | const vv => exact absC_R ρ vv
        | global g =>
          show R ρ (evO c fo (frs i) (.global g)) _
          simp only [evO]
          cases hG : c.G g with
          | none => trivial
          | some L =>
            obtain ⟨S, hS⟩ := inv.gok g L hG
            exact ⟨_, rfl, g, 0, S, hS, Int.le_refl _, rfl⟩
        | func f => exact ⟨_, _, rfl, rfl, rfl⟩
      have hcongr : ∀ h, stepV c (qs i) o.op (evO c fo (frs i)) h = stepV c (qs i) o.op ev' h := fun h => stepV_congr (fun x hx => by
        cases x with
        | tmp t =>
          show fo.get (frs i) t = if t ∈ o.looksAt ops then fo.get (frs i) t else .bad
          rw [if_pos (mem_looks hx)]
        | _ => rfl) h
      rw [hcongr] at hstep
      by_cases hcl : cls c.P o.op = 2
      · have hip : p ≤ i := by
          rcases Nat.lt_or_ge i p with h | h
          · have := (inv.spine i o ho hcl).2 h; rw [hnl] at this; cases this
          · exact h
        have hpi : hs i = hs p := by
          have := heap_const hA.2.2 ht (i - p) p (by omega) (fun x ox h1 h2 hx hc => by
            have := hd.spine x i ox o hx ho (by omega) hc hcl
            have := (inv.spine x ox hx hc).1 (hpre x this)
            omega)
          rw [show p + (i - p) = i from by omega] at this
          exact this
        rw [hpi] at hstep
        refine stepV_wp hC hX inv.gok inv.heap hev hstep ?_
        intro u w' ρ' g1 g2 g3
        refine ih _ _ _ ρ' (i + 1) hcount ⟨by simpa using inv.size, hdown', hilt, ?_, g2, Step.trans hr0 inv.step g3, inv.gok.mono g3.le, ?_, ?_, by rw [put_size]; exact inv.tmps, by rw [put_defers]; exact inv.defers⟩
        · intro x ox hx hc
          rw [getD_set _ _ _ hislt]
          by_cases hxi : x = i
          · subst hxi; simp
          · rw [if_neg hxi, inv.spine x ox hx hc]
            constructor
            · intro h; omega
            · intro h
              have := hd.spine x i ox o hx ho (by omega) hc hcl
              exact (inv.spine x ox hx hc).1 (hpre x this)
        · intro q hq b kk hb
          by_cases hqp : q ≤ p
          · exact inv.lives q hqp b kk hb
          · by_cases hqi : q = i + 1
            · subst hqi; exact g2.lives b kk hb
            · have hq' : hs q = hs p := by
                have := heap_const hA.2.2 ht (q - p) p (by omega) (fun x ox h1 h2 hx hc => by
                  have := hd.spine x i ox o hx ho (by omega) hc hcl
                  have := (inv.spine x ox hx hc).1 (hpre x this)
                  omega)
                rw [show p + (q - p) = q from by omega] at this
                exact this
              rw [hq'] at hb ⊢
              exact inv.lives p (Nat.le_refl _) b kk hb
        · exact hslots' v u ρ' g3.le g1 (by rw [hfr])
      · -- it makes and writes nothing
        have hcall : isCall o.op = none := by
          cases hi : isCall o.op with
          | none => rfl
          | some cl => exact absurd (cls_call (by rw [hi]; rfl)) hcl
        have hconc : conc (c.hint o.op) (sop c.P o.op ev' (hs i)) = some (v, hs (i + 1)) := by
          have := hstep
          unfold stepV at this
          rw [hcall] at this
          exact this
        have hsop : sop c.P o.op ev' (hs i) = some (v, hs (i + 1)) := conc_some hA.2.2 hconc
        obtain ⟨hsame, hmove⟩ := loud_same hcl hcall hsop
        have hsop' : sop c.P o.op ev' (hs p) = some (v, hs p) := by
          · refine hmove (hs p) ?_
            intro hc0 x b hb hsome
            have hbp : b < (hs p).next := by
              have hR := hev x
              cases hx : ev' x <;> rw [hx] at hR hb <;> simp only [blockOf, reduceCtorEq, Option.some.injEq] at hb
              · obtain ⟨_, _, cb, sh, S, h1, _⟩ := hR; subst hb; exact inv.heap.fresh _ _ _ h1
              · obtain ⟨cb, sh, S, cc, _, h1, _⟩ := hR; subst hb; exact inv.heap.fresh _ _ _ h1
            have hq : ∀ x ox, ops[x]? = some ox → cls c.P ox.op = 2 → ¬ ord x i → ¬ ord i x → (isCall ox.op).isSome = true ∧ qs x = true := fun x ox hx hc h1 h2 =>
              hd.read i x o ox ho hx (by rintro rfl; rw [ho] at hx; cases hx; exact hcl hc) hcl hc0 hc h2 h1
            rcases Nat.le_total p i with hle | hle
            · obtain ⟨_, hk2⟩ := heap_quiet hA ht (i - p) p (by omega) (fun x ox h1 h2 hx hc => by
                refine hq x ox hx hc ?_ ?_
                · intro hord
                  have := (inv.spine x ox hx hc).1 (hpre x hord)
                  omega
                · intro hord
                  have := ord_lt hd x i (by omega) hord
                  omega)
              rw [show p + (i - p) = i from by omega] at hk2
              exact (hk2 b hbp).symm
            · obtain ⟨_, hk2⟩ := heap_quiet hA ht (p - i) i (by have := inv.ple; omega) (fun x ox h1 h2 hx hc => by
                refine hq x ox hx hc ?_ ?_
                · intro hord
                  have := ord_lt hd i x hilt hord
                  omega
                · intro hord
                  have := inv.down i x ((inv.spine x ox hx hc).2 (by omega)) hord
                  rw [hnl] at this; cases this)
              rw [show i + (p - i) = p from by omega] at hk2
              obtain ⟨kk, hkk⟩ := Option.isSome_iff_exists.1 hsome
              exact hk2 b (inv.lives i hle b kk hkk)
        have hstep' : stepV c (qs i) o.op ev' (hs p) = some (v, hs p) := by
          unfold stepV
          rw [hcall]
          exact conc_of hA.2.2 hconc hsop'
        refine stepV_wp hC hX inv.gok inv.heap hev hstep' ?_
        intro u w' ρ' g1 g2 g3
        refine ih _ _ _ ρ' p hcount ⟨by simpa using inv.size, hdown', inv.ple, ?_, g2, Step.trans hr0 inv.step g3, inv.gok.mono g3.le, inv.lives, ?_, by rw [put_size]; exact inv.tmps, by rw [put_defers]; exact inv.defers⟩
        · intro x ox hx hc
          rw [getD_set _ _ _ hislt, if_neg (by rintro rfl; rw [ho] at hx; cases hx; exact hcl hc)]
          exact inv.spine x ox hx hc
        · exact hslots' v u ρ' g3.le g1 (by rw [hfr])
end
end Go.Proofs.YtbeohojepniioaaDoor.Ev
