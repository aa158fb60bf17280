/-
  Every operation that calls no Go function, in one. No program in sight. No condition.
-/
import Derived.Test.YtbeohojepniioaaDoorEvJ
set_option linter.unusedVariables false
set_option linter.unusedSimpArgs false
namespace Go.Proofs.YtbeohojepniioaaDoor.Ev
open Go

/-! ## len, cap, min, max -/
def absLen (P : Program) (t : TypeId) (x : V) : Option V :=
  match P.underlying t, x with
  | some .string, .str s => some (.int .i64 s.length)
  | some (.array n _), _ => some (.int .i64 n)
  | some (.pointer arr), _ =>
    match P.underlying arr with
    | some (.array n _) => some (.int .i64 n)
    | _ => none
  | some (.slice _), .slice _ n _ _ _ => some (.int .i64 n)
  | some (.slice _), .nilslice => some (.int .i64 0)
  | some (.slice _), .loose => some (.int .i64 0)
  | _, _ => none
theorem len_sound {P : Program} {ρ : Rho} {t ty : TypeId} {x v : V} {a : Value} (hx : R ρ x a) (hs : absLen P t x = some v) (w : World) : ∃ u, (Builtin.len_ #[t] ty #[a]).run P w = .ok u w ∧ R ρ v u := by
  unfold absLen at hs
  have run0 : ∀ (f : TypeId × Value → Sem Value), True := fun _ => trivial
  split at hs
  · rename_i s hu
    cases hs
    obtain ⟨t', rfl, rfl⟩ := hx
    refine ⟨.int .i64 t'.size, ?_, ?_⟩
    · simp [Builtin.len_, run_underlying hu, goInt]
    · have : (t'.data.toList.map UInt8.toNat).length = t'.size := by rw [List.length_map, Array.length_toList]; rfl
      rw [this]; rfl
  · rename_i n e hu
    cases hs
    refine ⟨.int .i64 n, ?_, rfl⟩
    simp only [Builtin.len_, List.getElem?_toArray, List.getElem?_cons_zero, Sem.run_bind, run_underlying hu, Result.andThen_ok, goInt]
    cases a <;> rfl
  · rename_i arr hu
    split at hs
    · rename_i n e hu2
      cases hs
      refine ⟨.int .i64 n, ?_, rfl⟩
      simp only [Builtin.len_, List.getElem?_toArray, List.getElem?_cons_zero, Sem.run_bind, run_underlying hu, Result.andThen_ok, goInt]
      cases a <;> simp only [Sem.run_bind, run_underlying hu2, Result.andThen_ok, Sem.run_pure]
    · cases hs
  · rename_i e p n _ _ _ hu
    cases hs
    obtain ⟨cb, sh, S, cc, rfl, _⟩ := hx
    exact ⟨.int .i64 n, by simp [Builtin.len_, run_underlying hu, goInt], rfl⟩
  · rename_i e hu
    cases hs
    rw [show a = _ from hx]
    exact ⟨.int .i64 0, by simp [Builtin.len_, run_underlying hu, goInt], rfl⟩
  · rename_i e hu
    cases hs
    obtain ⟨c, cc, rfl⟩ := hx
    exact ⟨.int .i64 0, by simp [Builtin.len_, run_underlying hu, goInt], rfl⟩
  · cases hs
def absCap (P : Program) (t : TypeId) (x : V) : Option V :=
  match P.underlying t, x with
  | some (.slice _), .slice _ _ c true _ => some (.int .i64 c)
  | some (.slice _), .nilslice => some (.int .i64 0)
  | _, _ => none
theorem cap_sound {P : Program} {ρ : Rho} {t ty : TypeId} {x v : V} {a : Value} (hx : R ρ x a) (hs : absCap P t x = some v) (w : World) : ∃ u, (Builtin.cap_ #[t] ty #[a]).run P w = .ok u w ∧ R ρ v u := by
  unfold absCap at hs
  split at hs
  · rename_i e p n c _ hu
    cases hs
    obtain ⟨cb, sh, S, cc, rfl, h1, h2, h3, h4, _⟩ := hx
    obtain rfl := h4 rfl
    exact ⟨.int .i64 cc, by simp [Builtin.cap_, run_underlying hu, goInt], rfl⟩
  · rename_i e hu
    cases hs
    rw [show a = _ from hx]
    exact ⟨.int .i64 0, by simp [Builtin.cap_, run_underlying hu, goInt], rfl⟩
  · cases hs
def max2V (x y : V) : Option V :=
  match x, y with
  | .int k a, .int _ b => some (.int k (if b > a then b else a))
  | _, _ => none
def min2V (x y : V) : Option V :=
  match x, y with
  | .int k a, .int _ b => some (.int k (if b < a then b else a))
  | _, _ => none
def foldV (f : V → V → Option V) : V → List V → Option V
  | x, [] => some x
  | x, y :: l => match f x y with
    | some z => foldV f z l
    | none => none
theorem fold_sound {P : Program} {ρ : Rho} {f : V → V → Option V} {g : Value → Value → Sem Value} (w : World) (hf : ∀ x y z a b, R ρ x a → R ρ y b → f x y = some z → ∃ c, (g a b).run P w = .ok c w ∧ R ρ z c) : ∀ {l : List V} {l' : List Value} {x z : V} {a : Value}, R ρ x a → RL ρ l l' → foldV f x l = some z →
    ∃ c, (l'.foldlM g a).run P w = .ok c w ∧ R ρ z c := by
  intro l
  induction l with
  | nil => intro l' x z a hx hl h; cases h; rw [show l' = [] from hl]; exact ⟨a, rfl, hx⟩
  | cons y l ih =>
    rintro l' x z a hx ⟨b, bs, rfl, hb, hl⟩ h
    simp only [foldV] at h
    cases hz : f x y with
    | none => rw [hz] at h; cases h
    | some m =>
      rw [hz] at h
      obtain ⟨c, h1, h2⟩ := hf _ _ _ _ _ hx hb hz
      obtain ⟨c', h3, h4⟩ := ih h2 hl h
      exact ⟨c', by simp only [List.foldlM_cons, Sem.run_bind, h1, Result.andThen_ok, h3], h4⟩
theorem max2_sound {P : Program} {ρ : Rho} (w : World) : ∀ x y z a b, R ρ x a → R ρ y b → max2V x y = some z → ∃ c, (Builtin.max2 a b).run P w = .ok c w ∧ R ρ z c := by
  intro x y z a b hx hy h
  unfold max2V at h
  split at h
  · cases h; rw [show a = _ from hx, show b = _ from hy]; exact ⟨_, rfl, rfl⟩
  · cases h
theorem min2_sound {P : Program} {ρ : Rho} (w : World) : ∀ x y z a b, R ρ x a → R ρ y b → min2V x y = some z → ∃ c, (Builtin.min2 a b).run P w = .ok c w ∧ R ρ z c := by
  intro x y z a b hx hy h
  unfold min2V at h
  split at h
  · cases h; rw [show a = _ from hx, show b = _ from hy]; exact ⟨_, rfl, rfl⟩
  · cases h

noncomputable def absBuiltin (P : Program) (b : Builtin) (ts : List TypeId) (args : List V) (h : AH) : Option (V × AH) :=
  match b, ts, args with
  | .len, [t], [x] => (absLen P t x).map fun v => (v, h)
  | .cap, [t], [x] => (absCap P t x).map fun v => (v, h)
  | .append, [t, xt], [s, x] => absAppend P t xt s x h
  | .copy, [t, _], [d, x] => absCopy P t d x h
  | .max, _, x :: l => (foldV max2V x l).map fun v => (v, h)
  | .min, _, x :: l => (foldV min2V x l).map fun v => (v, h)
  | .unsafeSliceData, _, [x] => (absSliceData x).map fun v => (v, h)
  | .unsafeString, [pt, _], [x, n] => absUnsafeString P pt x n h
  | _, _, _ => none
/-- What an operation owes: the model's operation goes through. -/
def SimN (P : Program) (ρ : Rho) (h : AH) (w : World) (s : Sem Next) (v : V) (h' : AH) : Prop :=
  ∃ n u w' ρ', s.run P w = .ok n w' ∧ (n = .value u ∨ (n = .skip ∧ u = undef)) ∧ R ρ' v u ∧ HR ρ' h' w' ∧ Step ρ h w ρ' h' w'
theorem SimN.of {P : Program} {ρ : Rho} {h h' : AH} {w : World} {s : Sem Value} {v : V} (hs : Sim P ρ h w s v h') : SimN P ρ h w (do pure (.value (← s))) v h' := by
  obtain ⟨u, w', ρ', h1, h2, h3, h4⟩ := hs
  exact ⟨.value u, u, w', ρ', by simp only [Sem.run_bind, h1, Result.andThen_ok, Sem.run_pure], .inl rfl, h2, h3, h4⟩
theorem SimN.pure {P : Program} {ρ : Rho} {h : AH} {w : World} {s : Sem Value} {v : V} (hr : HR ρ h w) (hs : ∃ u, s.run P w = .ok u w ∧ R ρ v u) : SimN P ρ h w (do pure (.value (← s))) v h := .of (.pure hr hs)
theorem list1 {α : Type} {a : Array α} {x : α} (h : a.toList = [x]) : a = #[x] := Array.ext' (by simpa using h)
theorem list2 {α : Type} {a : Array α} {x y : α} (h : a.toList = [x, y]) : a = #[x, y] := Array.ext' (by simpa using h)
theorem RL1 {ρ : Rho} {x : V} {l : List Value} (h : RL ρ [x] l) : ∃ a, l = [a] ∧ R ρ x a := by
  obtain ⟨z, zs, rfl, hz, h⟩ := h
  rw [show zs = [] from h]
  exact ⟨z, rfl, hz⟩
theorem RL2 {ρ : Rho} {x y : V} {l : List Value} (h : RL ρ [x, y] l) : ∃ a b, l = [a, b] ∧ R ρ x a ∧ R ρ y b := by
  obtain ⟨z, zs, rfl, hz, h⟩ := h
  obtain ⟨b, rfl, hb⟩ := RL1 h
  exact ⟨z, b, rfl, hz, hb⟩
theorem builtin_sound {P : Program} {ρ : Rho} {h h' : AH} {w : World} {b : Builtin} {ats : Array TypeId} {ty : TypeId} {cs : Array Bool} {xs : List V} {args : Array Value} {v : V} (hr : HR ρ h w) (hx : RL ρ xs args.toList) (hs : absBuiltin P b ats.toList xs h = some (v, h')) :
    SimN P ρ h w (builtin b ats ty cs args) v h' := by
  unfold absBuiltin at hs
  split at hs
  · rename_i t x hts
    obtain ⟨a, ha, hR⟩ := RL1 hx
    rw [list1 ha, list1 hts, BigFrame.builtin_len]
    cases hl : absLen P t x with
    | none => rw [hl] at hs; cases hs
    | some v' => rw [hl] at hs; cases hs; exact .pure hr (len_sound hR hl w)
  · rename_i t x hts
    obtain ⟨a, ha, hR⟩ := RL1 hx
    rw [list1 ha, list1 hts, BigFrame.builtin_cap]
    cases hl : absCap P t x with
    | none => rw [hl] at hs; cases hs
    | some v' => rw [hl] at hs; cases hs; exact .pure hr (cap_sound hR hl w)
  · rename_i t xt s x hts
    obtain ⟨a, b, ha, hR, hR2⟩ := RL2 hx
    rw [list2 ha, list2 hts, BigFrame.builtin_append]
    exact .of (append_sound hr hR hR2 hs)
  · rename_i t xt s x hts
    obtain ⟨a, b, ha, hR, hR2⟩ := RL2 hx
    rw [list2 ha, list2 hts, BigFrame.builtin_copy]
    exact .of (copy_sound hr hR hR2 hs)
  · rename_i x l
    obtain ⟨a, as, ha, hR, hR2⟩ := hx
    rw [BigFrame.builtin_max]
    cases hl : foldV max2V x l with
    | none => rw [hl] at hs; cases hs
    | some v' =>
      rw [hl] at hs; cases hs
      refine .pure hr ?_
      unfold Builtin.max_
      rw [ha]
      exact fold_sound w (max2_sound w) hR hR2 hl
  · rename_i x l
    obtain ⟨a, as, ha, hR, hR2⟩ := hx
    rw [BigFrame.builtin_min]
    cases hl : foldV min2V x l with
    | none => rw [hl] at hs; cases hs
    | some v' =>
      rw [hl] at hs; cases hs
      refine .pure hr ?_
      unfold Builtin.min_
      rw [ha]
      exact fold_sound w (min2_sound w) hR hR2 hl
  · rename_i x
    obtain ⟨a, ha, hR⟩ := RL1 hx
    rw [list1 ha]
    cases hl : absSliceData x with
    | none => rw [hl] at hs; cases hs
    | some v' => rw [hl] at hs; cases hs; exact .pure hr (sliceData_sound hR hl w)
  · rename_i pt it x n hts
    obtain ⟨a, b, ha, hR, hR2⟩ := RL2 hx
    rw [list2 ha, list2 hts, BigFrame.builtin_unsafeString]
    exact .of (unsafeString_sound hr hR hR2 hs)
  · cases hs

def absNilCheck (x : V) : Option V :=
  match x with
  | .nilptr | .nilIface | .nilFunc | .bad => none
  | v => some v
def absMakeIface (P : Program) (t : TypeId) (x : V) : Option V :=
  match P.underlying t with
  | some (.interface _) => none
  | some _ => some (.iface t x)
  | none => none
def absMakeFunc (fn : Fn) (fs cs : List V) : Option V :=
  match fn with
  | .func f => some (.func f fs cs)
  | _ => none
/-- One of two, the kind seen. -/
def pickV (t : Bool) (a b : V) : V :=
  match a, b with
  | .bool x, .bool y => .bool (bif t then x else y)
  | .int k x, .int k' y => if k = k' then .int k (bif t then x else y) else bif t then a else b
  | .str x, .str y => .str (bif t then x else y)
  | .agg x, .agg y => .agg (bif t then x else y)
  | a, b => bif t then a else b
theorem pickV_eq (t : Bool) (a b : V) : pickV t a b = if t then a else b := by
  unfold pickV
  split
  · cases t <;> rfl
  · split
    · rename_i hk; subst hk; cases t <;> rfl
    · cases t <;> rfl
  · cases t <;> rfl
  · cases t <;> rfl
  · cases t <;> rfl
noncomputable def sop (P : Program) (o : Op) (ev : Operand → V) (h : AH) : Option (V × AH) :=
  match o with
  | .move x => some (ev x, h)
  | .assign x => some (ev x, h)
  | .pick c a b => match ev c with
    | .bool t => some (pickV t (ev a) (ev b), h)
    | _ => none
  | .alloc t => absAlloc P t h
  | .box t x => absBox t (ev x) h
  | .build t ps => (absBuild P t (ps.toList.map fun p => (p.1, ev p.2))).map fun v => (v, h)
  | .buildSlice t n ps => absBuildSlice P t n (ps.toList.map fun p => (p.1, ev p.2)) h
  | .load t a => (absLoad P t (ev a) h).map fun v => (v, h)
  | .store t a x => (absStore P t (ev a) (ev x) h).map fun h' => (.bad, h')
  | .nilCheck x => (absNilCheck (ev x)).map fun v => (v, h)
  | .binOp op t x y _ => (absBin P op t x y (ev x) (ev y)).map fun v => (v, h)
  | .unOp op _ x => (absUn op (ev x)).map fun v => (v, h)
  | .convert s d x =>
    match absUnsafePtr P s d (ev x) h with
    | some v => some (v, h)
    | none => absConvert P s d (ev x) h
  | .sliceToArrayPointer t x => (absArrayAt P t (ev x)).map fun v => (v, h)
  | .makeInterface t x => (absMakeIface P t (ev x)).map fun v => (v, h)
  | .makeFunc fn fs cs => (absMakeFunc fn (fs.toList.map ev) (cs.toList.map ev)).map fun v => (v, h)
  | .makeSlice t l c => absMakeSlice P t (ev l) (ev c) h
  | .slice t x lo hi mx => (absSlice P t (ev x) (lo.map ev) (hi.map ev) (mx.map ev) h).map fun v => (v, h)
  | .fieldAddr t x f => (absFieldAddr P t (ev x) f).map fun v => (v, h)
  | .field t x f => (absField P t (ev x) f).map fun v => (v, h)
  | .indexAddr t x i => (absIndexAddr P t (ev x) (ev i)).map fun v => (v, h)
  | .index t x i => (absIndex P t (ev x) (ev i)).map fun v => (v, h)
  | .typeAssert x _ t ok => (absAssert P (ev x) t ok).map fun v => (v, h)
  | .extract x i => (absExtract (ev x) i).map fun v => (v, h)
  | .call { callee := .builtin b, args, argTypes } => absBuiltin P b argTypes.toList (args.toList.map ev) h
  | _ => none

theorem RL_map {ρ : Rho} {ev : Operand → V} {ρc : Operand → Value} (he : ∀ x, R ρ (ev x) (ρc x)) : ∀ l : List Operand, RL ρ (l.map ev) (l.map ρc) := by
  intro l
  induction l with
  | nil => exact rfl
  | cons x l ih => exact ⟨_, _, rfl, he x, ih⟩
theorem OR_map {ρ : Rho} {ev : Operand → V} {ρc : Operand → Value} (he : ∀ x, R ρ (ev x) (ρc x)) (o : Option Operand) : OR ρ (o.map ev) (o.map ρc) := by
  cases o with
  | none => exact .none
  | some x => exact .some (he x)
theorem parts_map {ρ : Rho} {ev : Operand → V} {ρc : Operand → Value} (he : ∀ x, R ρ (ev x) (ρc x)) (ps : Array (Nat × Operand)) : (ps.toList.map fun p => (p.1, ev p.2)).map (·.1) = (ps.map fun (i, x) => (i, ρc x)).toList.map (·.1) ∧
    RL ρ ((ps.toList.map fun p => (p.1, ev p.2)).map (·.2)) ((ps.map fun (i, x) => (i, ρc x)).toList.map (·.2)) := by
  constructor
  · simp
  · have := RL_map he (ps.toList.map (·.2))
    simpa [Function.comp_def] using this
theorem map_some {α β : Type} {o : Option α} {f : α → β} {b : β} (h : o.map f = some b) : ∃ a, o = some a ∧ f a = b := by
  cases o with
  | none => cases h
  | some a => exact ⟨a, rfl, Option.some.inj h⟩

theorem sop_sound {P : Program} {ρ : Rho} {h h' : AH} {w : World} {o : Oper} {ev : Operand → V} {ρc : Operand → Value} {v : V} (hr : HR ρ h w) (he : ∀ x, R ρ (ev x) (ρc x)) (hs : sop P o.op ev h = some (v, h')) : SimN P ρ h w (execOp ρc o) v h' := by
  obtain ⟨dst, op, ty, pos, after, guard⟩ := o
  simp only at hs
  unfold sop at hs
  split at hs
  · cases hs; exact ⟨_, _, w, ρ, rfl, .inl rfl, he _, hr, Step.refl ρ h w⟩
  · cases hs; exact ⟨_, _, w, ρ, rfl, .inl rfl, he _, hr, Step.refl ρ h w⟩
  · rename_i c a b
    split at hs
    · rename_i t hc
      cases hs
      have := he c
      rw [hc] at this
      have hc' : ρc c = .bool t := this
      refine ⟨_, if t then ρc a else ρc b, w, ρ, ?_, .inl rfl, ?_, hr, Step.refl ρ h w⟩
      · simp only [execOp, hc', asBool, Sem.run_bind, Sem.run_pure, Result.andThen_ok]
      · rw [pickV_eq]; cases t <;> exact he _
    · cases hs
  · exact .of (alloc_sound hr hs)
  · exact .of (box_sound hr (he _) hs)
  · obtain ⟨v', h1, h2⟩ := map_some hs
    cases h2
    obtain ⟨g1, g2⟩ := parts_map he _
    exact .pure hr (build_sound g1 g2 h1 w)
  · obtain ⟨g1, g2⟩ := parts_map he _
    exact .of (buildSlice_sound hr g1 g2 hs)
  · obtain ⟨v', h1, h2⟩ := map_some hs
    cases h2
    exact .pure hr (load_sound hr (he _) h1)
  · obtain ⟨v', h1, h2⟩ := map_some hs
    cases h2
    obtain ⟨w', g1, g2, g3⟩ := store_sound hr (he _) (he _) h1
    exact ⟨.skip, undef, w', ρ, by simp only [execOp, Sem.run_bind, g1, Result.andThen_ok, Sem.run_pure], .inr ⟨rfl, rfl⟩, trivial, g2, g3⟩
  · rename_i x
    obtain ⟨v', h1, h2⟩ := map_some hs
    cases h2
    refine ⟨.value (ρc x), ρc x, w, ρ, ?_, .inl rfl, ?_, hr, Step.refl ρ h w⟩
    · have hx := he x
      unfold absNilCheck at h1
      generalize ev x = y at h1 hx
      simp only [execOp]
      cases y <;> simp only [reduceCtorEq] at h1
      case bool => rw [show ρc x = _ from hx]; rfl
      case int => rw [show ρc x = _ from hx]; rfl
      case str => obtain ⟨_, e, _⟩ := hx; rw [e]; rfl
      case ptr => obtain ⟨_, e, _⟩ := hx; rw [e]; rfl
      case slice => obtain ⟨_, _, _, _, e, _⟩ := hx; rw [e]; rfl
      case nilslice => rw [show ρc x = _ from hx]; rfl
      case loose => obtain ⟨_, _, e⟩ := hx; rw [e]; rfl
      case func => obtain ⟨_, _, e, _⟩ := hx; rw [e]; rfl
      case iface => obtain ⟨_, e, _⟩ := hx; rw [e]; rfl
      case agg => obtain ⟨_, e, _⟩ := hx; rw [e]; rfl
      case tuple => obtain ⟨_, e, _⟩ := hx; rw [e]; rfl
    · have hx := he x
      unfold absNilCheck at h1
      split at h1
      · cases h1
      · cases h1
      · cases h1
      · cases h1
      · cases h1; exact hx
  · obtain ⟨v', h1, h2⟩ := map_some hs
    cases h2
    exact .pure hr (bin_sound (he _) (he _) h1 w)
  · obtain ⟨v', h1, h2⟩ := map_some hs
    cases h2
    exact .pure hr (un_sound (he _) h1 w)
  · split at hs
    · rename_i v' h1; cases hs; exact .pure hr (unsafePtr_sound hr (he _) h1)
    · exact .of (convert_sound hr (he _) hs)
  · obtain ⟨v', h1, h2⟩ := map_some hs
    cases h2
    exact .pure hr (arrayAt_sound (he _) h1 w)
  · rename_i t x
    obtain ⟨v', h1, h2⟩ := map_some hs
    cases h2
    unfold absMakeIface at h1
    refine .pure hr ?_
    split at h1
    · cases h1
    · rename_i d hd hu
      cases h1
      refine ⟨.iface t (ρc x), ?_, _, rfl, he _⟩
      unfold Instr.makeInterface
      simp only [Sem.run_bind, run_underlying hu, Result.andThen_ok]
      rfl
    · cases h1
  · rename_i fn fs cs
    obtain ⟨v', h1, h2⟩ := map_some hs
    cases h2
    unfold absMakeFunc at h1
    split at h1
    · cases h1
      refine .pure hr ⟨.func (.func _) (fs.map ρc) (cs.map ρc), rfl, _, _, rfl, ?_, ?_⟩
      · rw [Array.toList_map]; exact RL_map he _
      · rw [Array.toList_map]; exact RL_map he _
    · cases h1
  · exact .of (makeSlice_sound hr (he _) (he _) hs)
  · obtain ⟨v', h1, h2⟩ := map_some hs
    cases h2
    exact .pure hr (slice_sound hr (he _) (OR_map he _) (OR_map he _) (OR_map he _) h1)
  · obtain ⟨v', h1, h2⟩ := map_some hs
    cases h2
    exact .pure hr (fieldAddr_sound (he _) h1 w)
  · obtain ⟨v', h1, h2⟩ := map_some hs
    cases h2
    exact .pure hr (field_sound (he _) h1 w)
  · obtain ⟨v', h1, h2⟩ := map_some hs
    cases h2
    exact .pure hr (indexAddr_sound (he _) (he _) h1 w)
  · obtain ⟨v', h1, h2⟩ := map_some hs
    cases h2
    exact .pure hr (index_sound (he _) (he _) h1 w)
  · obtain ⟨v', h1, h2⟩ := map_some hs
    cases h2
    exact .pure hr (assert_sound (he _) h1 w)
  · obtain ⟨v', h1, h2⟩ := map_some hs
    cases h2
    exact .pure hr (extract_sound (he _) h1 w)
  · rename_i b args ats
    have := builtin_sound (P := P) (ty := ty) (cs := args.map fun | .const _ => true | _ => false) (args := args.map ρc) hr (by rw [Array.toList_map]; exact RL_map he _) hs
    exact this
  · cases hs
end Go.Proofs.YtbeohojepniioaaDoor.Ev
