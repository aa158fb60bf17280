/-
  Operations that touch no memory: what the own machine makes of them is what the model makes. No program in sight. No condition.
-/
import Derived.Test.YtbeohojepniioaaDoorEvB
set_option linter.unusedVariables false
set_option linter.unusedSimpArgs false
namespace Go.Proofs.YtbeohojepniioaaDoor.Ev
open Go

/-! ## Two operands -/
def V.tag : V → Nat
  | .bad => 0 | .bool _ => 1 | .int .. => 2 | .str _ => 3 | .ptr _ => 4 | .nilptr => 4 | .slice .. => 5 | .nilslice => 5 | .loose => 5 | .func .. => 6 | .nilFunc => 7 | .iface .. => 8 | .nilIface => 9 | .agg _ => 10 | .tuple _ => 11
def valueTag : Value → Nat
  | .bool _ => 1 | .int .. => 2 | .float .. => 12 | .complex .. => 13 | .string _ => 3 | .pointer _ => 4 | .slice .. => 5 | .map _ => 14 | .chan _ => 15 | .func .. => 6 | .nilFunc => 7 | .iface .. => 8 | .nilIface => 9 | .agg _ => 10 | .tuple _ => 11
theorem R_tag {ρ : Rho} {x : V} {a : Value} (h : R ρ x a) (hb : x.isBad = false) : valueTag a = x.tag := by
  cases x
  case bad => cases hb
  case bool => rw [show a = _ from h]; rfl
  case int => rw [show a = _ from h]; rfl
  case str => obtain ⟨_, rfl, _⟩ := h; rfl
  case ptr => obtain ⟨_, rfl, _⟩ := h; rfl
  case nilptr => rw [show a = _ from h]; rfl
  case slice => obtain ⟨_, _, _, _, rfl, _⟩ := h; rfl
  case nilslice => rw [show a = _ from h]; rfl
  case loose => obtain ⟨_, _, rfl⟩ := h; rfl
  case func => obtain ⟨_, _, rfl, _⟩ := h; rfl
  case nilFunc => rw [show a = _ from h]; rfl
  case iface => obtain ⟨_, rfl, _⟩ := h; rfl
  case nilIface => rw [show a = _ from h]; rfl
  case agg => obtain ⟨_, rfl, _⟩ := h; rfl
  case tuple => obtain ⟨_, rfl, _⟩ := h; rfl
def plainTags (m n : Nat) : Bool := !(m == n && (m == 2 || m == 3 || m == 12 || m == 13))
theorem binOp_eql {t : TypeId} {a b : Value} (h : plainTags (valueTag a) (valueTag b) = true) : binOp .eql t a b = (do pure (.bool (← Op.equal t a b))) := by
  cases a <;> cases b <;> first | rfl | (simp [plainTags, valueTag] at h)
theorem binOp_neq {t : TypeId} {a b : Value} (h : plainTags (valueTag a) (valueTag b) = true) : binOp .neq t a b = (do pure (.bool (!(← Op.equal t a b)))) := by
  cases a <;> cases b <;> first | rfl | (simp [plainTags, valueTag] at h)

def isC : Operand → Bool
  | .const _ => true
  | _ => false
def eqV (P : Program) (t : TypeId) (xo yo : Operand) (x y : V) : Option Bool :=
  if x.isBad || y.isBad then none else
  match x, y with
  | .nilIface, .nilIface => if isC xo || isC yo then absEq P 10000 t x y else none
  | .agg _, .agg _ => if P.eqGuardType P.depth t then none else absEq P 10000 t x y
  | x, y => absEq P 10000 t x y
def absBin (P : Program) (op : BinOp) (t : TypeId) (xo yo : Operand) (x y : V) : Option V :=
  match x, y with
  | .int k a, .int k' b =>
    match op with
    | .shl | .shr => shiftV op k a b
    | _ => if k = k' then intBin op k a b else none
  | .str a, .str b => strBin op a b
  | x, y =>
    match op with
    | .eql => (eqV P t xo yo x y).map .bool
    | .neq => (eqV P t xo yo x y).map fun r => .bool (!r)
    | _ => none

theorem eqGuard_int (op : BinOp) (t : TypeId) (xo yo : Operand) (k k' : IntKind) (m n : Int) (P : Program) (w : World) : (eqGuard op t xo yo (.int k m) (.int k' n)).run P w = .ok () w := by
  cases op <;> rfl
theorem eqGuard_str (op : BinOp) (t : TypeId) (xo yo : Operand) (m n : ByteArray) (P : Program) (w : World) : (eqGuard op t xo yo (.string m) (.string n)).run P w = .ok () w := by
  cases op <;> rfl

theorem eqV_sound {P : Program} {ρ : Rho} {t : TypeId} {xo yo : Operand} {x y : V} {a b : Value} {r : Bool} (hx : R ρ x a) (hy : R ρ y b) (h : eqV P t xo yo x y = some r) (op : BinOp) (w : World) :
    (eqGuard op t xo yo a b).run P w = .ok () w ∧ (Op.equal t a b).run P w = .ok r w ∧ x.isBad = false ∧ y.isBad = false := by
  unfold eqV at h
  cases hbx : x.isBad with
  | true => simp [hbx] at h
  | false =>
    cases hby : y.isBad with
    | true => simp [hby] at h
    | false =>
      simp only [hbx, hby, Bool.or_self, Bool.false_eq_true, if_false] at h
      have hguard : ∀ r', absEq P 10000 t x y = some r' → (Op.equal t a b).run P w = .ok r' w := fun r' hr => absEq_sound w 10000 t x y a b r' hx hy hr
      split at h
      · split at h
        · rename_i hc
          refine ⟨?_, hguard _ h, rfl, rfl⟩
          rw [show a = _ from hx, show b = _ from hy]
          cases op <;> (try rfl) <;> (cases xo <;> cases yo <;> simp [isC] at hc <;> rfl)
        · cases h
      · rename_i xs ys
        split at h
        · cases h
        · rename_i hg
          obtain ⟨us, rfl, _⟩ := hx
          obtain ⟨us', rfl, _⟩ := hy
          refine ⟨?_, hguard _ h, rfl, rfl⟩
          cases op <;> (try rfl) <;> (simp [eqGuard, hg])
      · rename_i h1 h2
        refine ⟨?_, hguard _ h, rfl, rfl⟩
        have ha := R_tag hx hbx
        have hb := R_tag hy hby
        cases op <;> (try rfl) <;>
        · cases x <;> cases y <;> first
            | exact absurd rfl (h1 rfl)
            | exact absurd rfl (h2 _ _ rfl)
            | (cases a <;> first | (cases ha; done) | (cases b <;> first | (cases hb; done) | rfl))

theorem binOp_arith {op : BinOp} {t : TypeId} {k : IntKind} {m n : Int} (h : op = .add ∨ op = .sub ∨ op = .mul) : binOp op t (.int k m) (.int k n) = Op.intArith op k m n := by
  rcases h with rfl | rfl | rfl <;> simp [binOp]
theorem binOp_div {op : BinOp} {t : TypeId} {k : IntKind} {m n : Int} (h : op = .quo ∨ op = .rem) : binOp op t (.int k m) (.int k n) = Op.intDiv op k m n := by
  rcases h with rfl | rfl <;> simp [binOp]
theorem binOp_bits {op : BinOp} {t : TypeId} {k : IntKind} {m n : Int} (h : op = .and ∨ op = .or ∨ op = .xor ∨ op = .andNot) : binOp op t (.int k m) (.int k n) = Op.intBits op k m n := by
  rcases h with rfl | rfl | rfl | rfl <;> simp [binOp]
theorem binOp_cmp {op : BinOp} {t : TypeId} {k : IntKind} {m n : Int} (h : op = .eql ∨ op = .neq ∨ op = .lss ∨ op = .leq ∨ op = .gtr ∨ op = .geq) : binOp op t (.int k m) (.int k n) = Op.intCmp op m n := by
  rcases h with rfl | rfl | rfl | rfl | rfl | rfl <;> simp [binOp]
theorem intBin_sound {P : Program} {op : BinOp} {t : TypeId} {k : IntKind} {m n : Int} {v : V} (hop : op ≠ .shl ∧ op ≠ .shr) (h : intBin op k m n = some v) (w : World) : ∃ u, (binOp op t (.int k m) (.int k n)).run P w = .ok u w ∧ ∀ ρ, R ρ v u := by
  cases op <;> simp only [intBin] at h
  case add => cases h; exact ⟨_, by rw [binOp_arith (by simp)]; rfl, fun ρ => rfl⟩
  case sub => cases h; exact ⟨_, by rw [binOp_arith (by simp)]; rfl, fun ρ => rfl⟩
  case mul => cases h; exact ⟨_, by rw [binOp_arith (by simp)]; rfl, fun ρ => rfl⟩
  case quo =>
    by_cases hn : n = 0
    · rw [if_pos hn] at h; cases h
    · rw [if_neg hn] at h; cases h; exact ⟨_, by rw [binOp_div (by simp), Op.intDiv, if_neg hn]; rfl, fun ρ => rfl⟩
  case rem =>
    by_cases hn : n = 0
    · rw [if_pos hn] at h; cases h
    · rw [if_neg hn] at h; cases h; exact ⟨_, by rw [binOp_div (by simp), Op.intDiv, if_neg hn]; rfl, fun ρ => rfl⟩
  case and => cases h; exact ⟨_, by rw [binOp_bits (by simp)]; rfl, fun ρ => rfl⟩
  case or => cases h; exact ⟨_, by rw [binOp_bits (by simp)]; rfl, fun ρ => rfl⟩
  case xor => cases h; exact ⟨_, by rw [binOp_bits (by simp)]; rfl, fun ρ => rfl⟩
  case andNot => cases h; exact ⟨_, by rw [binOp_bits (by simp)]; rfl, fun ρ => rfl⟩
  case eql => cases h; exact ⟨_, by rw [binOp_cmp (by simp)]; rfl, fun ρ => rfl⟩
  case neq => cases h; exact ⟨_, by rw [binOp_cmp (by simp)]; rfl, fun ρ => rfl⟩
  case lss => cases h; exact ⟨_, by rw [binOp_cmp (by simp)]; rfl, fun ρ => rfl⟩
  case leq => cases h; exact ⟨_, by rw [binOp_cmp (by simp)]; rfl, fun ρ => rfl⟩
  case gtr => cases h; exact ⟨_, by rw [binOp_cmp (by simp)]; rfl, fun ρ => rfl⟩
  case geq => cases h; exact ⟨_, by rw [binOp_cmp (by simp)]; rfl, fun ρ => rfl⟩
  all_goals cases h
theorem shift_sound {P : Program} {op : BinOp} {t : TypeId} {k k' : IntKind} {m n : Int} {v : V} (hop : op = .shl ∨ op = .shr) (h : shiftV op k m n = some v) (w : World) : ∃ u, (binOp op t (.int k m) (.int k' n)).run P w = .ok u w ∧ ∀ ρ, R ρ v u := by
  unfold shiftV at h
  split at h
  · cases h
  · rename_i hn
    rcases hop with rfl | rfl
    · cases h; exact ⟨_, by simp only [binOp, Op.shift, if_neg hn]; rfl, fun ρ => rfl⟩
    · cases h; exact ⟨_, by simp only [binOp, Op.shift, if_neg hn]; rfl, fun ρ => rfl⟩
theorem strBin_sound {P : Program} {op : BinOp} {t : TypeId} {a b : ByteArray} {v : V} (h : strBin op (a.data.toList.map UInt8.toNat) (b.data.toList.map UInt8.toNat) = some v) (w : World) : ∃ u, (binOp op t (.string a) (.string b)).run P w = .ok u w ∧ ∀ ρ, R ρ v u := by
  have heq : natsEq (a.data.toList.map UInt8.toNat) (b.data.toList.map UInt8.toNat) = (a.toList == b.toList) := by
    rw [natsEq_eq, toList_data, toList_data, Bool.eq_iff_iff]
    simp only [beq_iff_eq]
    exact ⟨map_toNat_inj, fun e => by rw [e]⟩
  have hlt : natsLt (a.data.toList.map UInt8.toNat) (b.data.toList.map UInt8.toNat) = Op.bytesLess a.toList b.toList := by
    rw [natsLt_eq, toList_data, toList_data]
  have hsz : ∀ s : ByteArray, s.data.toList.length = s.size := fun s => by rw [Array.length_toList]; rfl
  cases op <;> simp only [strBin, heq, hlt, List.length_map, hsz] at h
  case add =>
    by_cases hn : ((a.size + b.size : Nat) : Int) > IntKind.i64.max
    · rw [if_pos hn] at h; cases h
    · rw [if_neg hn] at h
      cases h
      refine ⟨.string (a ++ b), by simp only [binOp, Op.stringOp, if_neg hn]; rfl, fun ρ => ⟨_, rfl, ?_⟩⟩
      rw [← List.map_append, ByteArray.data_append, Array.toList_append]
  case eql => cases h; exact ⟨_, rfl, fun ρ => rfl⟩
  case neq => cases h; exact ⟨_, rfl, fun ρ => rfl⟩
  case lss => cases h; exact ⟨_, rfl, fun ρ => rfl⟩
  case leq => cases h; exact ⟨_, rfl, fun ρ => rfl⟩
  case gtr => cases h; exact ⟨_, rfl, fun ρ => rfl⟩
  case geq => cases h; exact ⟨_, rfl, fun ρ => rfl⟩
  all_goals cases h

theorem bin_sound {P : Program} {ρ : Rho} {op : BinOp} {t : TypeId} {xo yo : Operand} {x y v : V} {a b : Value} (hx : R ρ x a) (hy : R ρ y b) (h : absBin P op t xo yo x y = some v) (w : World) :
    ∃ u, (do eqGuard op t xo yo a b; binOp op t a b : Sem Value).run P w = .ok u w ∧ R ρ v u := by
  unfold absBin at h
  split at h
  · rename_i k m k' n
    rw [show a = _ from hx, show b = _ from hy]
    simp only [Sem.run_bind, eqGuard_int, Result.andThen_ok]
    split at h
    · obtain ⟨u, h1, h2⟩ := shift_sound (P := P) (t := t) (k' := k') (.inl rfl) h w; exact ⟨u, h1, h2 ρ⟩
    · obtain ⟨u, h1, h2⟩ := shift_sound (P := P) (t := t) (k' := k') (.inr rfl) h w; exact ⟨u, h1, h2 ρ⟩
    · rename_i h1 h2
      split at h
      · rename_i hk
        subst hk
        obtain ⟨u, g1, g2⟩ := intBin_sound (P := P) (t := t) ⟨h1, h2⟩ h w; exact ⟨u, g1, g2 ρ⟩
      · cases h
  · rename_i s s'
    obtain ⟨u, rfl, rfl⟩ := hx
    obtain ⟨u', rfl, rfl⟩ := hy
    simp only [Sem.run_bind, eqGuard_str, Result.andThen_ok]
    obtain ⟨r, g1, g2⟩ := strBin_sound (P := P) (t := t) h w
    exact ⟨r, g1, g2 ρ⟩
  · rename_i h1 h2
    have key : ∀ r, eqV P t xo yo x y = some r → plainTags (valueTag a) (valueTag b) = true := by
      intro r hr
      obtain ⟨_, _, hbx, hby⟩ := eqV_sound hx hy hr .eql w
      rw [R_tag hx hbx, R_tag hy hby]
      cases x <;> cases y <;> first | rfl | exact absurd rfl (h1 _ _ _ _ rfl) | exact absurd rfl (h2 _ _ rfl) | cases hbx | cases hby
    split at h
    · cases hr : eqV P t xo yo x y with
      | none => rw [hr] at h; cases h
      | some r =>
        rw [hr] at h
        cases h
        obtain ⟨g1, g2, _⟩ := eqV_sound hx hy hr .eql w
        refine ⟨.bool r, ?_, rfl⟩
        rw [binOp_eql (key r hr)]
        simp only [Sem.run_bind, g1, g2, Result.andThen_ok, Sem.run_pure]
    · cases hr : eqV P t xo yo x y with
      | none => rw [hr] at h; cases h
      | some r =>
        rw [hr] at h
        cases h
        obtain ⟨g1, g2, _⟩ := eqV_sound hx hy hr .neq w
        refine ⟨.bool (!r), ?_, rfl⟩
        rw [binOp_neq (key r hr)]
        simp only [Sem.run_bind, g1, g2, Result.andThen_ok, Sem.run_pure]
    · cases h
end Go.Proofs.YtbeohojepniioaaDoor.Ev
