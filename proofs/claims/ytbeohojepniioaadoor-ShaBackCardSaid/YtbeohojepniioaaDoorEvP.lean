/-
  More operations that write no memory: constants, unary operators, conversions, parts, addresses, cuts. No program in sight. No condition.
-/
import Derived.Test.YtbeohojepniioaaDoorEvO
set_option linter.unusedVariables false
set_option linter.unusedSimpArgs false
namespace Go.Proofs.YtbeohojepniioaaDoor.Ev
open Go

/-! ## Constants -/
def absC1 : Value → V
  | .bool b => .bool b
  | .int k n => .int k n
  | .string s => .str (s.data.toList.map UInt8.toNat)
  | .pointer none => .nilptr
  | .slice none 0 0 => .nilslice
  | .nilFunc => .nilFunc
  | .nilIface => .nilIface
  | _ => .bad
def absC : Value → V
  | .agg cs => .agg (cs.toList.map absC1)
  | .tuple cs => .tuple (cs.toList.map absC1)
  | v => absC1 v
theorem absC1_R (ρ : Rho) (v : Value) : R ρ (absC1 v) v := by
  unfold absC1
  split <;> first | rfl | exact ⟨_, rfl, rfl⟩ | trivial
theorem absC1_RL (ρ : Rho) : ∀ l : List Value, RL ρ (l.map absC1) l := by
  intro l
  induction l with
  | nil => exact rfl
  | cons v l ih => exact ⟨v, l, rfl, absC1_R ρ v, ih⟩
theorem absC_R (ρ : Rho) (v : Value) : R ρ (absC v) v := by
  unfold absC
  split
  · exact ⟨_, rfl, absC1_RL ρ _⟩
  · exact ⟨_, rfl, absC1_RL ρ _⟩
  · exact absC1_R ρ _

/-! ## One operand -/
def absUn (op : UnOp) (x : V) : Option V :=
  match op, x with
  | .neg, .int k n => some (.int k (k.wrap (0 - n)))
  | .xor, .int k n => some (.int k (k.wrap (BitVec.ofInt k.bits (if k.signed then -1 else k.max) ^^^ BitVec.ofInt k.bits n).toNat))
  | .not, .bool b => some (.bool (!b))
  | _, _ => none
theorem un_sound {P : Program} {ρ : Rho} {op : UnOp} {x v : V} {a : Value} (hx : R ρ x a) (h : absUn op x = some v) (w : World) : ∃ u, (Op.unary op a).run P w = .ok u w ∧ R ρ v u := by
  unfold absUn at h
  split at h
  · cases h; rw [show a = _ from hx]; exact ⟨_, rfl, rfl⟩
  · cases h; rw [show a = _ from hx]; exact ⟨_, rfl, rfl⟩
  · cases h; rw [show a = _ from hx]; exact ⟨_, rfl, rfl⟩
  · cases h

/-! ## Conversions that touch no memory -/
def absConv (P : Program) (src dst : TypeId) (x : V) : Option V :=
  match P.underlying src, P.underlying dst, x with
  | some _, some (.int k), .int _ n => some (.int k (k.wrap n))
  | some _, some .string, .str s => some (.str s)
  | _, _, _ => none
theorem conv_sound {P : Program} {ρ : Rho} {src dst : TypeId} {x v : V} {a : Value} (hx : R ρ x a) (h : absConv P src dst x = some v) (w : World) : ∃ u, (convert src dst a).run P w = .ok u w ∧ R ρ v u := by
  unfold absConv at h
  split at h
  · rename_i d1 k k' n h1 h2
    cases h
    rw [show a = _ from hx]
    refine ⟨.int k (k.wrap n), ?_, rfl⟩
    unfold convert
    simp only [Sem.run_bind, run_underlying h1, run_underlying h2, Result.andThen_ok]
    cases d1 <;> rfl
  · rename_i d1 s h1 h2
    cases h
    obtain ⟨t, rfl, ht⟩ := hx
    refine ⟨.string t, ?_, ⟨t, rfl, ht⟩⟩
    unfold convert
    simp only [Sem.run_bind, run_underlying h1, run_underlying h2, Result.andThen_ok]
    cases d1 <;> rfl
  · cases h

/-! ## Parts -/
def strAt (s : List Nat) (i : Int) : Option Nat := if 0 ≤ i then s[i.toNat]? else none
def absIndex (P : Program) (t : TypeId) (x ix : V) : Option V :=
  match P.underlying t, x, ix with
  | some (.array len e), .agg cs, .int _ i => if 0 ≤ i ∧ i < len then partV P e cs (i.toNat * P.cellsOf e) else none
  | some .string, .str s, .int _ i => (strAt s i).map fun (b : Nat) => .int .u8 b
  | _, _, _ => none
theorem partV_info {P : Program} {e : TypeId} {cs : List V} {o : Nat} {v : V} (h : partV P e cs o = some v) : ∃ i, P.info? e = some i := by
  cases hu : P.underlying e with
  | none => unfold partV at h; simp [hu] at h
  | some d => exact underlying_info hu
theorem index_sound {P : Program} {ρ : Rho} {t : TypeId} {x ix v : V} {a b : Value} (hx : R ρ x a) (hi : R ρ ix b) (h : absIndex P t x ix = some v) (w : World) : ∃ u, (Instr.index t a b).run P w = .ok u w ∧ R ρ v u := by
  unfold absIndex at h
  split at h
  · rename_i len e cs k i hu
    split at h
    · rename_i hb
      obtain ⟨xs, rfl, hR⟩ := hx
      rw [show b = _ from hi]
      obtain ⟨ie, hie⟩ := partV_info h
      obtain ⟨u, h1, h2⟩ := part_sound hR h w
      refine ⟨u, ?_, h2⟩
      unfold Instr.index
      simp [asIntOf, run_underlying hu, hb, run_sizeOf hie, h1]
    · cases h
  · rename_i s k i hu
    unfold strAt at h
    split at h
    · rename_i hb
      obtain ⟨t', rfl, rfl⟩ := hx
      rw [show b = _ from hi]
      rw [List.getElem?_map] at h
      cases hg : t'.data.toList[i.toNat]? with
      | none => rw [hg] at h; cases h
      | some y =>
        rw [hg] at h
        cases h
        refine ⟨.int .u8 y.toNat, ?_, rfl⟩
        have hg' : t'[i.toNat]? = some y := by
          rw [Array.getElem?_toList] at hg
          rw [← hg]; rfl
        unfold Instr.index
        simp [asIntOf, run_underlying hu, hb, hg']
    · cases h
  · cases h
def absField (P : Program) (t : TypeId) (x : V) (f : Nat) : Option V :=
  match P.underlying t, x with
  | some (.struct fs), .agg cs =>
    match fs[f]? with
    | some fd => partV P fd.type cs fd.offset
    | none => none
  | _, _ => none
theorem field_sound {P : Program} {ρ : Rho} {t : TypeId} {x v : V} {a : Value} {f : Nat} (hx : R ρ x a) (h : absField P t x f = some v) (w : World) : ∃ u, (Instr.field t a f).run P w = .ok u w ∧ R ρ v u := by
  unfold absField at h
  split at h
  · rename_i fs cs hu
    split at h
    · rename_i fd hf
      obtain ⟨xs, rfl, hR⟩ := hx
      obtain ⟨u, h1, h2⟩ := part_sound hR h w
      refine ⟨u, ?_, h2⟩
      unfold Instr.field
      simp [run_underlying hu, hf, asAgg, h1]
    · cases h
  · cases h
def absExtract (x : V) (i : Nat) : Option V :=
  match x with
  | .tuple vs => vs[i]?
  | _ => none
theorem extract_sound {P : Program} {ρ : Rho} {x v : V} {a : Value} {i : Nat} (hx : R ρ x a) (h : absExtract x i = some v) (w : World) : ∃ u, (Instr.extract a i).run P w = .ok u w ∧ R ρ v u := by
  unfold absExtract at h
  split at h
  · obtain ⟨xs, rfl, hR⟩ := hx
    obtain ⟨y, hy, hRy⟩ := hR.get h
    rw [Array.getElem?_toList] at hy
    exact ⟨y, by simp [Instr.extract, hy], hRy⟩
  · cases h

/-! ## Addresses -/
theorem At.add {ρ : Rho} {a : A} {c : Addr} (h : At ρ a c) (k : Nat) : At ρ ⟨a.b, a.L, a.o + k⟩ (c.add k) := by
  obtain ⟨cb, sh, S, h1, h2, rfl⟩ := h
  refine ⟨cb, sh, S, h1, by simp only; omega, ?_⟩
  unfold Addr.add
  by_cases hk : k = 0
  · subst hk; simp
  · simp only [if_neg hk, Addr.mk.injEq, true_and, and_true]; omega
def absIndexAddr (P : Program) (t : TypeId) (x ix : V) : Option V :=
  match P.underlying t, x, ix with
  | some (.array len e), .ptr a, .int _ i => if 0 ≤ i ∧ i < len ∧ (P.info? e).isSome then some (.ptr ⟨a.b, a.L, a.o + i.toNat * P.cellsOf e⟩) else none
  | some (.slice e), .slice a n _ _ _, .int _ i => if 0 ≤ i ∧ i < n ∧ (P.info? e).isSome then some (.ptr ⟨a.b, a.L, a.o + i.toNat * P.cellsOf e⟩) else none
  | _, _, _ => none
theorem indexAddr_sound {P : Program} {ρ : Rho} {t : TypeId} {x ix v : V} {a b : Value} (hx : R ρ x a) (hi : R ρ ix b) (h : absIndexAddr P t x ix = some v) (w : World) : ∃ u, (Instr.indexAt t a b).run P w = .ok u w ∧ R ρ v u := by
  unfold absIndexAddr at h
  split at h
  · rename_i len e p k i hu
    split at h
    · rename_i hb
      cases h
      obtain ⟨ie, hie⟩ := Option.isSome_iff_exists.1 hb.2.2
      obtain ⟨c, rfl, hc⟩ := hx
      rw [show b = _ from hi]
      refine ⟨.pointer (some (c.add (i.toNat * P.cellsOf e))), ?_, _, rfl, hc.add _⟩
      unfold Instr.indexAt
      simp [asIntOf, run_underlying hu, Instr.sureAddr, hb.1, hb.2.1, run_sizeOf hie]
    · cases h
  · rename_i e p n _ _ _ k i hu
    split at h
    · rename_i hb
      cases h
      obtain ⟨ie, hie⟩ := Option.isSome_iff_exists.1 hb.2.2
      obtain ⟨cb, sh, S, cc, rfl, h1, h2, _⟩ := hx
      rw [show b = _ from hi]
      refine ⟨.pointer (some ((⟨cb, ((p.o : Int) - sh).toNat, none⟩ : Addr).add (i.toNat * P.cellsOf e))), ?_, _, rfl, At.add ⟨cb, sh, S, h1, h2, rfl⟩ _⟩
      unfold Instr.indexAt
      simp [asIntOf, run_underlying hu, hb.1, hb.2.1, run_sizeOf hie]
    · cases h
  · cases h
def absFieldAddr (P : Program) (t : TypeId) (x : V) (f : Nat) : Option V :=
  match P.underlying t, x with
  | some (.struct fs), .ptr a =>
    match fs[f]? with
    | some fd => if (P.info? fd.type).isSome ∧ P.cellsOf fd.type ≠ 0 then some (.ptr ⟨a.b, a.L, a.o + fd.offset⟩) else none
    | none => none
  | _, _ => none
theorem fieldAddr_sound {P : Program} {ρ : Rho} {t : TypeId} {x v : V} {a : Value} {f : Nat} (hx : R ρ x a) (h : absFieldAddr P t x f = some v) (w : World) : ∃ u, (Instr.fieldAt t a f).run P w = .ok u w ∧ R ρ v u := by
  unfold absFieldAddr at h
  split at h
  · rename_i fs p hu
    split at h
    · rename_i fd hf
      split at h
      · rename_i hb
        cases h
        obtain ⟨ie, hie⟩ := Option.isSome_iff_exists.1 hb.1
        obtain ⟨c, rfl, hc⟩ := hx
        refine ⟨.pointer (some (c.add fd.offset)), ?_, _, rfl, hc.add _⟩
        unfold Instr.fieldAt
        simp [run_underlying hu, hf, Instr.sureAddr, fieldPlace, run_sizeOf hie, hb.2]
      · cases h
    · cases h
  · cases h
def absArrayAt (P : Program) (t : TypeId) (x : V) : Option V :=
  match P.underlying t, x with
  | some (.array n _), .slice a len _ _ _ => if n ≤ len then some (.ptr a) else none
  | _, _ => none
theorem arrayAt_sound {P : Program} {ρ : Rho} {t : TypeId} {x v : V} {a : Value} (hx : R ρ x a) (h : absArrayAt P t x = some v) (w : World) : ∃ u, (Instr.arrayAt t a).run P w = .ok u w ∧ R ρ v u := by
  unfold absArrayAt at h
  split at h
  · rename_i n e p len _ _ _ hu
    split at h
    · rename_i hb
      cases h
      obtain ⟨cb, sh, S, cc, rfl, h1, h2, _⟩ := hx
      refine ⟨.pointer (some ⟨cb, ((p.o : Int) - sh).toNat, none⟩), ?_, _, rfl, cb, sh, S, h1, h2, rfl⟩
      unfold Instr.arrayAt
      simp [run_underlying hu, show ¬ len < n from by omega]
    · cases h
  · cases h

/-! ## Cuts -/
def bnd (v : Option V) (dflt lim : Nat) : Option Nat :=
  match v with
  | none => some dflt
  | some (.int _ i) => if 0 ≤ i ∧ i ≤ lim then some i.toNat else none
  | some _ => none
/-- What a cut of a slice of n elements (z cells each) is; cap: so many places at least, just so many where ex. -/
def cutV (a : A) (z n cap : Nat) (ex : Bool) (lo hi mx : Option V) : Option V :=
  match mx with
  | some m =>
    match bnd (some m) 0 cap with
    | none => none
    | some m =>
      match hi with
      | none => none
      | some hv =>
        match bnd (some hv) 0 m with
        | none => none
        | some h =>
          match bnd lo 0 h with
          | none => none
          | some l => some (if m = l then .slice a (h - l) (m - l) true z else .slice ⟨a.b, a.L, a.o + l * z⟩ (h - l) (m - l) true z)
  | none =>
    match bnd hi n cap with
    | none => none
    | some h =>
      match bnd lo 0 h with
      | none => none
      | some l =>
        if ex then some (if cap = l then .slice a (h - l) (cap - l) true z else .slice ⟨a.b, a.L, a.o + l * z⟩ (h - l) (cap - l) true z)
        else if l < cap then some (.slice ⟨a.b, a.L, a.o + l * z⟩ (h - l) (cap - l) false z)
        else some .loose

theorem bound_run {P : Program} {ρ : Rho} {x : V} {b : Value} (hx : R ρ x b) {d lim r : Nat} (h : bnd (some x) d lim = some r) (y : Nat) (hy : lim ≤ y) (code : BoundsCode) (w : World) : (Instr.sliceBound b y code).run P w = .ok r w ∧ r ≤ lim := by
  unfold bnd at h
  split at h
  · rename_i e; cases e
  · rename_i k i e
    cases e
    split at h
    · rename_i hb
      cases h
      rw [show b = _ from hx]
      refine ⟨?_, by omega⟩
      have : 0 ≤ i ∧ i ≤ y := by omega
      simp [Instr.sliceBound, asIntOf, this]
    · cases h
  · cases h

inductive OR (ρ : Rho) : Option V → Option Value → Prop
  | none : OR ρ none none
  | some {x : V} {b : Value} (h : R ρ x b) : OR ρ (some x) (some b)

theorem bounds_nomax {P : Program} {ρ : Rho} {lo hi : Option V} {l' h' : Option Value} (hlo : OR ρ lo l') (hhi : OR ρ hi h') {n cap h l : Nat} (h1 : bnd hi n cap = some h) (h2 : bnd lo 0 h = some l) (b : Bool) (cc : Nat) (hc : cap ≤ cc) (hn : n ≤ cap) (w : World) :
    (Instr.sliceBounds b n cc l' h' none).run P w = .ok (l, h, cc) w ∧ l ≤ h ∧ h ≤ cap := by
  unfold Instr.sliceBounds
  cases hhi with
  | none =>
    cases h1
    cases hlo with
    | none => cases h2; exact ⟨by simp, Nat.zero_le _, hn⟩
    | some hl => have := bound_run (P := P) hl h2 n (Nat.le_refl _) .sliceB w; exact ⟨by simp [this.1], this.2, hn⟩
  | some hh =>
    have hb := fun code => bound_run (P := P) hh h1 cc hc code w
    cases hlo with
    | none => cases h2; exact ⟨by cases b <;> simp [(hb _).1], Nat.zero_le _, (hb .sliceB).2⟩
    | some hl => have := bound_run (P := P) hl h2 h (Nat.le_refl _) .sliceB w; exact ⟨by cases b <;> simp [(hb _).1, this.1], this.2, (hb .sliceB).2⟩
theorem bounds_max {P : Program} {ρ : Rho} {lo : Option V} {hv mv : V} {l' : Option Value} {h' m' : Value} (hlo : OR ρ lo l') (hhi : R ρ hv h') (hmx : R ρ mv m') {n cap m h l : Nat} (h0 : bnd (some mv) 0 cap = some m) (h1 : bnd (some hv) 0 m = some h) (h2 : bnd lo 0 h = some l) (b : Bool) (cc : Nat) (hc : cap ≤ cc) (w : World) :
    (Instr.sliceBounds b n cc l' (some h') (some m')).run P w = .ok (l, h, m) w ∧ l ≤ h ∧ h ≤ m ∧ m ≤ cap := by
  unfold Instr.sliceBounds
  have hm := fun code => bound_run (P := P) hmx h0 cc hc code w
  have hh := fun code => bound_run (P := P) hhi h1 m (Nat.le_refl _) code w
  cases hlo with
  | none => cases h2; exact ⟨by cases b <;> simp [(hm _).1, (hh _).1], Nat.zero_le _, (hh .sliceB).2, (hm .sliceB).2⟩
  | some hl => have := fun code => bound_run (P := P) hl h2 h (Nat.le_refl _) code w; exact ⟨by cases b <;> simp [(hm _).1, (hh _).1, (this _).1], (this .sliceB).2, (hh .sliceB).2, (hm .sliceB).2⟩

/-- The cut of a slice, as the model makes it. -/
theorem cut_sound {P : Program} {ρ : Rho} {lo hi mx : Option V} {l' h' m' : Option Value} (hlo : OR ρ lo l') (hhi : OR ρ hi h') (hmx : OR ρ mx m') {a : A} {z n cap cc : Nat} {ex : Bool} {v : V} {cb S : Nat} {sh : Int}
    (hρ : ρ a.b a.L = some (cb, sh, S)) (hsh : sh ≤ a.o) (hcc : cap ≤ cc) (hex : ex = true → cc = cap) (hn : n ≤ cap) (hroom : ((a.o : Int) - sh).toNat + cc * z ≤ S) (h : cutV a z n cap ex lo hi mx = some v) (b : Bool) (w : World) :
    ∃ l hh m, (Instr.sliceBounds b n cc l' h' m').run P w = .ok (l, hh, m) w ∧ R ρ v (.slice (some (if m = l then ⟨cb, ((a.o : Int) - sh).toNat, none⟩ else (⟨cb, ((a.o : Int) - sh).toNat, none⟩ : Addr).add (l * z))) (hh - l) (m - l)) := by
  have hadd : ∀ l, (⟨cb, ((a.o : Int) - sh).toNat, none⟩ : Addr).add (l * z) = ⟨cb, (((a.o + l * z : Nat) : Int) - sh).toNat, none⟩ := by
    intro l
    unfold Addr.add
    by_cases hk : l * z = 0
    · simp [hk]
    · simp only [if_neg hk, Addr.mk.injEq, true_and, and_true]; omega
  have hmul : ∀ m l, l ≤ m → m ≤ cc → l * z + (m - l) * z ≤ cc * z := fun m l h1 h2 => by
    rw [← Nat.add_mul, Nat.add_sub_cancel' h1]; exact Nat.mul_le_mul_right _ h2
  unfold cutV at h
  cases hmx with
  | some hm =>
    rename_i mv m'
    simp only at h
    split at h
    · cases h
    · rename_i m h0
      cases hhi with
      | none => cases h
      | some hh =>
        rename_i hv h'
        simp only at h
        split at h
        · cases h
        · rename_i h1v h1
          split at h
          · cases h
          · rename_i l h2
            obtain ⟨g1, g2, g3, g4⟩ := bounds_max (P := P) (n := n) hlo hh hm h0 h1 h2 b cc hcc w
            refine ⟨l, h1v, m, g1, ?_⟩
            cases h
            have := hmul m l (by omega) (by omega)
            by_cases he : m = l
            · rw [if_pos he, if_pos he]
              exact ⟨cb, sh, S, m - l, rfl, hρ, hsh, Nat.le_refl _, fun _ => rfl, by omega, by rw [show m - l = 0 from by omega]; omega⟩
            · rw [if_neg he, if_neg he, hadd]
              exact ⟨cb, sh, S, m - l, rfl, hρ, by simp only; omega, Nat.le_refl _, fun _ => rfl, by omega, by simp only; omega⟩
  | none =>
    simp only at h
    split at h
    · cases h
    · rename_i h1v h1
      split at h
      · cases h
      · rename_i l h2
        obtain ⟨g1, g2, g3⟩ := bounds_nomax (P := P) hlo hhi h1 h2 b cc hcc hn w
        refine ⟨l, h1v, cc, g1, ?_⟩
        have := hmul cc l (by omega) (Nat.le_refl _)
        cases ex with
        | true =>
          obtain rfl := hex rfl
          simp only [if_true] at h
          cases h
          by_cases he : cc = l
          · rw [if_pos he, if_pos he]
            exact ⟨cb, sh, S, cc - l, rfl, hρ, hsh, Nat.le_refl _, fun _ => rfl, by omega, by rw [show cc - l = 0 from by omega]; omega⟩
          · rw [if_neg he, if_neg he, hadd]
            exact ⟨cb, sh, S, cc - l, rfl, hρ, by simp only; omega, Nat.le_refl _, fun _ => rfl, by omega, by simp only; omega⟩
        | false =>
          simp only [Bool.false_eq_true, if_false] at h
          by_cases hl : l < cap
          · rw [if_pos hl] at h
            cases h
            rw [if_neg (by omega), hadd]
            exact ⟨cb, sh, S, cc - l, rfl, hρ, by simp only; omega, by omega, fun he => absurd he (by simp), by omega, by simp only; omega⟩
          · rw [if_neg hl] at h
            cases h
            rw [show h1v - l = 0 from by omega]
            exact ⟨_, _, rfl⟩
end Go.Proofs.YtbeohojepniioaaDoor.Ev
