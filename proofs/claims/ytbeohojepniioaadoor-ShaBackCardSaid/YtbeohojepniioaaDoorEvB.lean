/-
  Operators on values: what the own machine makes of them is what the model makes. No program in sight. No condition.
-/
import Derived.Test.YtbeohojepniioaaDoorEvA
import Derived.LaidEql
set_option linter.unusedVariables false
set_option linter.unusedSimpArgs false
namespace Go.Proofs.YtbeohojepniioaaDoor.Ev
open Go

/-! ## Bytes and lists of numbers -/
theorem map_toNat_inj : ∀ {a b : List UInt8}, a.map UInt8.toNat = b.map UInt8.toNat → a = b := by
  intro a
  induction a with
  | nil => intro b h; cases b with | nil => rfl | cons => simp at h
  | cons x a ih =>
    intro b h
    cases b with
    | nil => simp at h
    | cons y b =>
      simp only [List.map_cons, List.cons.injEq] at h
      rw [UInt8.toNat_inj.1 h.1, ih h.2]
theorem str_eq {s t : ByteArray} (h : s.data.toList.map UInt8.toNat = t.data.toList.map UInt8.toNat) : s = t := by
  have h1 := map_toNat_inj h
  cases s; cases t
  simp only [ByteArray.mk.injEq]
  exact Array.toList_inj.1 h1
theorem toList_data (s : ByteArray) : s.toList = s.data.toList := by
  exact ByteArray.toList_eq s
def natsLt : List Nat → List Nat → Bool
  | _, [] => false
  | [], _ :: _ => true
  | a :: x, b :: y => Nat.blt a b || (Nat.beq a b && natsLt x y)
theorem natsLt_eq : ∀ (a b : List UInt8), natsLt (a.map UInt8.toNat) (b.map UInt8.toNat) = Op.bytesLess a b := by
  intro a
  induction a with
  | nil => intro b; cases b <;> rfl
  | cons x a ih =>
    intro b
    cases b with
    | nil => rfl
    | cons y b =>
      simp only [List.map_cons, natsLt, Op.bytesLess, ih]
      have h1 : Nat.blt x.toNat y.toNat = decide (x < y) := by rw [Arr.blt_eq]; simp [UInt8.lt_iff_toNat_lt]
      have h2 : Nat.beq x.toNat y.toNat = (x == y) := by
        rw [Bool.eq_iff_iff]; simp [UInt8.toNat_inj]
      rw [h1, h2]
def natsEq : List Nat → List Nat → Bool
  | [], [] => true
  | a :: x, b :: y => Nat.beq a b && natsEq x y
  | _, _ => false
theorem natsEq_eq : ∀ (a b : List Nat), natsEq a b = (a == b) := by
  intro a
  induction a with
  | nil => intro b; cases b <;> rfl
  | cons x a ih =>
    intro b
    cases b with
    | nil => rfl
    | cons y b =>
      simp only [natsEq, ih, List.cons_beq_cons]
      congr 1
      rw [Bool.eq_iff_iff]
      simp

/-! ## Two numbers -/
def intBin (op : BinOp) (k : IntKind) (a b : Int) : Option V :=
  match op with
  | .add => some (.int k (k.wrap (a + b)))
  | .sub => some (.int k (k.wrap (a - b)))
  | .mul => some (.int k (k.wrap (a * b)))
  | .quo => if b = 0 then none else some (.int k (k.wrap (a.tdiv b)))
  | .rem => if b = 0 then none else some (.int k (a.tmod b))
  | .and => some (.int k (k.wrap (BitVec.ofInt k.bits a &&& BitVec.ofInt k.bits b).toNat))
  | .or => some (.int k (k.wrap (BitVec.ofInt k.bits a ||| BitVec.ofInt k.bits b).toNat))
  | .xor => some (.int k (k.wrap (BitVec.ofInt k.bits a ^^^ BitVec.ofInt k.bits b).toNat))
  | .andNot => some (.int k (k.wrap (BitVec.ofInt k.bits a &&& ~~~ BitVec.ofInt k.bits b).toNat))
  | .eql => some (.bool (a == b))
  | .neq => some (.bool (a != b))
  | .lss => some (.bool (a < b))
  | .leq => some (.bool (a ≤ b))
  | .gtr => some (.bool (a > b))
  | .geq => some (.bool (a ≥ b))
  | _ => none
def shiftV (op : BinOp) (k : IntKind) (a b : Int) : Option V :=
  if b < 0 then none else
  match op with
  | .shl => some (.int k (k.wrap (a * 2 ^ min b.toNat k.bits)))
  | .shr => some (.int k (a.fdiv (2 ^ min b.toNat k.bits)))
  | _ => none
def strBin (op : BinOp) (x y : List Nat) : Option V :=
  match op with
  | .add => if ((x.length + y.length : Nat) : Int) > IntKind.i64.max then none else some (.str (x ++ y))
  | .eql => some (.bool (natsEq x y))
  | .neq => some (.bool (!natsEq x y))
  | .lss => some (.bool (natsLt x y))
  | .leq => some (.bool (natsLt x y || natsEq x y))
  | .gtr => some (.bool (!(natsLt x y || natsEq x y)))
  | .geq => some (.bool (!natsLt x y))
  | _ => none

/-! ## Parts, equality -/
def partV (P : Program) (t : TypeId) (cs : List V) (off : Nat) : Option V :=
  match P.underlying t with
  | some (.struct _) | some (.array _ _) => some (.agg ((cs.drop off).take (P.cellsOf t)))
  | some _ => cs[off]?
  | none => none
theorem underlying_info {P : Program} {t : TypeId} {d : TypeDesc} (h : P.underlying t = some d) : ∃ i, P.info? t = some i := by
  unfold Program.underlying at h
  cases hi : P.info? t with
  | none => rw [hi] at h; cases h
  | some i => exact ⟨i, rfl⟩
theorem run_sizeOf {P : Program} {t : TypeId} {i : TypeInfo} (h : P.info? t = some i) (w : World) : (sizeOf t).run P w = .ok (P.cellsOf t) w := by
  simp [sizeOf, typeInfo, h, Program.cellsOf]
theorem run_sizeOf' {P : Program} {t : TypeId} {d : TypeDesc} (h : P.underlying t = some d) (w : World) : (sizeOf t).run P w = .ok (P.cellsOf t) w := by
  obtain ⟨i, hi⟩ := underlying_info h
  exact run_sizeOf hi w
theorem part_sound {P : Program} {ρ : Rho} {t : TypeId} {cs : List V} {off : Nat} {v : V} {xs : Array Value} (hR : RL ρ cs xs.toList) (h : partV P t cs off = some v) (w : World) : ∃ u, (part t xs off).run P w = .ok u w ∧ R ρ v u := by
  unfold partV at h
  split at h
  · rename_i fs hu
    cases h
    refine ⟨.agg (xs.extract off (off + P.cellsOf t)), by simp [part, isAgg, run_underlying hu, run_sizeOf' hu], _, rfl, ?_⟩
    rw [Array.toList_extract]
    simp only [List.extract_eq_take_drop, Nat.add_sub_cancel_left]
    exact (hR.drop off).take _
  · rename_i n e hu
    cases h
    refine ⟨.agg (xs.extract off (off + P.cellsOf t)), by simp [part, isAgg, run_underlying hu, run_sizeOf' hu], _, rfl, ?_⟩
    rw [Array.toList_extract]
    simp only [List.extract_eq_take_drop, Nat.add_sub_cancel_left]
    exact (hR.drop off).take _
  · rename_i d h1 h2 hu
    obtain ⟨y, hy, hRy⟩ := hR.get h
    rw [Array.getElem?_toList] at hy
    refine ⟨y, ?_, hRy⟩
    have hagg : (isAgg t).run P w = .ok false w := by
      unfold isAgg
      simp only [Sem.run_bind, run_underlying hu, Result.andThen_ok]
      rfl
    unfold part
    simp [hagg, hy]
  · cases h

def allM {α : Type} (g : α → Option Bool) : List α → Option Bool
  | [] => some true
  | x :: xs => match g x with
    | none => none
    | some false => some false
    | some true => allM g xs
theorem allM_run {α : Type} (P : Program) (w : World) (g : α → Option Bool) (f : α → Option Bool × Unit → Sem (ForInStep (Option Bool × Unit))) : ∀ (l : List α) (r : Bool),
    (∀ x ∈ l, ∀ b, g x = some b → ∀ s, (f x s).run P w = .ok (if b then .yield (none, ()) else .done (some false, ())) w) → allM g l = some r →
    (forIn l (none, ()) f).run P w = .ok (if r then none else some false, ()) w := by
  intro l
  induction l with
  | nil => intro r _ h; simp only [allM] at h; cases h; rfl
  | cons x xs ih =>
    intro r hf h
    simp only [allM] at h
    rw [List.forIn_cons, Sem.run_bind]
    cases hg : g x with
    | none => rw [hg] at h; cases h
    | some b =>
      rw [hg] at h
      rw [hf x (by simp) b hg]
      cases b with
      | false => cases h; rfl
      | true => exact ih r (fun y hy => hf y (by simp [hy])) h

def absEq (P : Program) : Nat → TypeId → V → V → Option Bool
  | 0, _, _, _ => none
  | d + 1, t, x, y =>
    match P.underlying t, x, y with
    | some .bool, .bool a, .bool b => some (a == b)
    | some (.int _), .int k a, .int k' b => if k = k' then some (a == b) else none
    | some .string, .str a, .str b => some (natsEq a b)
    | some (.pointer _), .nilptr, .nilptr => some true
    | some (.pointer _), .nilptr, .ptr _ => some false
    | some (.pointer _), .ptr _, .nilptr => some false
    | some (.pointer e), .ptr p, .ptr q =>
      match P.info? e with
      | some j => if j.size ≠ 0 ∧ p.b = q.b ∧ p.L = q.L ∧ p.o = q.o then some true else none
      | none => none
    | some (.interface _), .nilIface, .nilIface => some true
    | some (.interface _), .nilIface, .iface _ _ => some false
    | some (.interface _), .iface _ _, .nilIface => some false
    | some (.interface _), .iface tx vx, .iface ty vy =>
      if tx ≠ ty then some false else
      match P.info? tx with
      | some i => if i.comparable then absEq P d tx vx vy else none
      | none => none
    | some (.struct fs), .agg xs, .agg ys =>
      if P.stoodInHeld t then none else
      allM (fun f : Field => if f.name = "_" then some true else
        match partV P f.type xs f.offset, partV P f.type ys f.offset with
        | some a, some b => absEq P d f.type a b
        | _, _ => none) fs.toList
    | some (.array len e), .agg xs, .agg ys =>
      match P.info? e with
      | none => none
      | some _ => allM (fun i : Nat => match partV P e xs (i * P.cellsOf e), partV P e ys (i * P.cellsOf e) with
        | some a, some b => absEq P d e a b
        | _, _ => none) (List.range' 0 len)
    | some (.slice _), .nilslice, .nilslice => some true
    | some (.slice _), .nilslice, .slice .. => some false
    | some (.slice _), .slice .., .nilslice => some false
    | some (.slice _), .nilslice, .loose => some false
    | some (.slice _), .loose, .nilslice => some false
    | some (.func _ _ _), .nilFunc, .nilFunc => some true
    | some (.func _ _ _), .nilFunc, .func .. => some false
    | some (.func _ _ _), .func .., .nilFunc => some false
    | _, _, _ => none

set_option maxHeartbeats 2000000 in
theorem absEq_sound {P : Program} {ρ : Rho} (w : World) : ∀ (d : Nat) (t : TypeId) (x y : V) (a b : Value) (r : Bool), R ρ x a → R ρ y b → absEq P d t x y = some r → (Op.equalIn d t a b).run P w = .ok r w := by
  intro d
  induction d with
  | zero => intro t x y a b r _ _ h; cases h
  | succ d ih =>
    intro t x y a b r hx hy h
    unfold absEq at h
    split at h
    · rename_i p q hu; cases h; rw [show a = _ from hx, show b = _ from hy]; unfold Op.equalIn; simp [run_underlying hu]
    · rename_i k0 k m k' n hu
      split at h
      · rename_i hk; cases h; rw [show a = _ from hx, show b = _ from hy]; unfold Op.equalIn; simp [run_underlying hu, hk]
      · cases h
    · rename_i s s' hu
      cases h
      obtain ⟨u, rfl, rfl⟩ := hx
      obtain ⟨u', rfl, rfl⟩ := hy
      unfold Op.equalIn
      simp only [Sem.run_bind, run_underlying hu, Result.andThen_ok, Sem.run_pure]
      rw [natsEq_eq, beq_toListBytes, toList_data, toList_data]
      congr 1
      rw [Bool.eq_iff_iff]
      simp only [beq_iff_eq]
      exact ⟨fun e => by rw [e], fun e => map_toNat_inj e⟩
    · rename_i e hu; cases h; rw [show a = _ from hx, show b = _ from hy]; unfold Op.equalIn; simp [run_underlying hu]
    · rename_i e p hu; cases h; obtain ⟨c, rfl, _⟩ := hy; rw [show a = _ from hx]; unfold Op.equalIn; simp [run_underlying hu]
    · rename_i e p hu; cases h; obtain ⟨c, rfl, _⟩ := hx; rw [show b = _ from hy]; unfold Op.equalIn; simp [run_underlying hu]
    · rename_i e p q hu
      split at h
      case h_2 => cases h
      rename_i j hj
      split at h
      case isFalse => cases h
      rename_i hc
      cases h
      obtain ⟨_, hb, hL, ho⟩ := hc
      obtain ⟨c, rfl, cb, sh, S, g1, g2, rfl⟩ := hx
      obtain ⟨c', rfl, cb', sh', S', g1', g2', rfl⟩ := hy
      rw [hb, hL] at g1
      rw [g1] at g1'
      cases g1'
      rw [ho]
      unfold Op.equalIn
      simp [run_underlying hu, sizeOf, typeInfo, hj, run_sameAddr_same]
    · rename_i e hu; cases h; rw [show a = _ from hx, show b = _ from hy]; unfold Op.equalIn; simp [run_underlying hu]
    · rename_i e tt vv hu; cases h; obtain ⟨c, rfl, _⟩ := hy; rw [show a = _ from hx]; unfold Op.equalIn; simp [run_underlying hu]
    · rename_i e tt vv hu; cases h; obtain ⟨c, rfl, _⟩ := hx; rw [show b = _ from hy]; unfold Op.equalIn; simp [run_underlying hu]
    · rename_i e tx vx ty vy hu
      obtain ⟨c, rfl, hc⟩ := hx
      obtain ⟨c', rfl, hc'⟩ := hy
      unfold Op.equalIn
      simp only [Sem.run_bind, run_underlying hu, Result.andThen_ok]
      split at h
      · rename_i hne; cases h; simp [hne]
      · rename_i hne
        have heq : tx = ty := by simpa using hne
        subst heq
        split at h
        · rename_i i hi
          split at h
          · rename_i hcomp
            simp [typeInfo, hi, hcomp]
            exact ih _ _ _ _ _ _ hc hc' h
          · cases h
        · cases h
    · rename_i fs xs ys hu
      obtain ⟨us, rfl, hus⟩ := hx
      obtain ⟨us', rfl, hus'⟩ := hy
      split at h
      · cases h
      · rename_i hst
        unfold Op.equalIn
        simp only [Sem.run_bind, run_underlying hu, Result.andThen_ok, run_program, hst, Bool.false_eq_true, if_false, ← Array.forIn_toList]
        have hall := allM_run P w _ (fun f (__s : Option Bool × Unit) =>
              if f.name ≠ "_" then do
                let __do_lift ← part f.type us f.offset
                let __do_lift_1 ← part f.type us' f.offset
                let __do_lift ← Op.equalIn d f.type __do_lift __do_lift_1
                if (!__do_lift) = true then pure (ForInStep.done (some false, ())) else pure (ForInStep.yield (none, ()))
              else pure (ForInStep.yield (none, ()))) fs.toList r (fun f hf b hb s => by
          split at hb
          · rename_i hn; cases hb; simp [hn]
          · rename_i hn
            split at hb
            · rename_i va vb ha hb'
              obtain ⟨ua, h1, h2⟩ := part_sound hus ha w
              obtain ⟨ub, h3, h4⟩ := part_sound hus' hb' w
              simp only [ne_eq, hn, not_false_eq_true, if_true, Sem.run_bind, h1, h3, Result.andThen_ok, ih _ _ _ _ _ _ h2 h4 hb]
              cases b <;> rfl
            · cases hb) h
        rw [hall]
        cases r <;> rfl
    · rename_i len e xs ys hu
      obtain ⟨us, rfl, hus⟩ := hx
      obtain ⟨us', rfl, hus'⟩ := hy
      split at h
      · cases h
      · rename_i ie hie
        unfold Op.equalIn
        simp only [Sem.run_bind, run_underlying hu, Result.andThen_ok, run_sizeOf hie, Std.Legacy.Range.forIn_eq_forIn_range', Std.Legacy.Range.size, Nat.sub_zero, Nat.add_one_sub_one, Nat.div_one]
        have hall := allM_run P w _ (fun i (__s : Option Bool × Unit) => do
              let __do_lift ← part e us (i * P.cellsOf e)
              let __do_lift_1 ← part e us' (i * P.cellsOf e)
              let __do_lift ← Op.equalIn d e __do_lift __do_lift_1
              if (!__do_lift) = true then pure (ForInStep.done (some false, ())) else pure (ForInStep.yield (none, ()))) (List.range' 0 len) r (fun i hi b hb s => by
          split at hb
          · rename_i va vb ha hb'
            obtain ⟨ua, h1, h2⟩ := part_sound hus ha w
            obtain ⟨ub, h3, h4⟩ := part_sound hus' hb' w
            simp only [Sem.run_bind, h1, h3, Result.andThen_ok, ih _ _ _ _ _ _ h2 h4 hb]
            cases b <;> rfl
          · cases hb) h
        rw [hall]
        cases r <;> rfl
    · rename_i e hu; cases h; rw [show a = _ from hx, show b = _ from hy]; unfold Op.equalIn; simp [run_underlying hu]
    · rename_i hu; cases h; obtain ⟨_, _, _, _, rfl, _⟩ := hy; rw [show a = _ from hx]; unfold Op.equalIn; simp [run_underlying hu]
    · rename_i hu; cases h; obtain ⟨_, _, _, _, rfl, _⟩ := hx; rw [show b = _ from hy]; unfold Op.equalIn; simp [run_underlying hu]
    · rename_i hu; cases h; obtain ⟨_, _, rfl⟩ := hy; rw [show a = _ from hx]; unfold Op.equalIn; simp [run_underlying hu]
    · rename_i hu; cases h; obtain ⟨_, _, rfl⟩ := hx; rw [show b = _ from hy]; unfold Op.equalIn; simp [run_underlying hu]
    · rename_i hu; cases h; rw [show a = _ from hx, show b = _ from hy]; unfold Op.equalIn; simp [run_underlying hu]
    · rename_i hu; cases h; obtain ⟨_, _, rfl, _⟩ := hy; rw [show a = _ from hx]; unfold Op.equalIn; simp [run_underlying hu]
    · rename_i hu; cases h; obtain ⟨_, _, rfl, _⟩ := hx; rw [show b = _ from hy]; unfold Op.equalIn; simp [run_underlying hu]
    · cases h
end Go.Proofs.YtbeohojepniioaaDoor.Ev
