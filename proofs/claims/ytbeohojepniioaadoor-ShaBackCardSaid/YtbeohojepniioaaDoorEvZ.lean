/-
  Every operation that calls no Go function. No program in sight. No condition.
-/
import Derived.Test.YtbeohojepniioaaDoorEvY
set_option linter.unusedVariables false
set_option linter.unusedSimpArgs false
namespace Go.Proofs.YtbeohojepniioaaDoor.Ev
open Go

def u8type (P : Program) (e : TypeId) : Bool :=
  match P.underlying e with
  | some (.int .u8) => true
  | _ => false
theorem u8type_spec {P : Program} {e : TypeId} (h : u8type P e = true) : P.underlying e = some (.int .u8) := by
  unfold u8type at h
  split at h
  · assumption
  · cases h
noncomputable def absConvert (P : Program) (src dst : TypeId) (x : V) (h : AH) : Option (V × AH) :=
  match P.underlying src, P.underlying dst, x with
  | some _, some (.int k), .int _ n => some (.int k (k.wrap n), h)
  | some _, some .string, .str s => some (.str s, h)
  | some _, some (.slice e), .str s => if u8type P e then some (absToBytes e s h) else none
  | some (.slice _), some (.slice e), .slice a n cap ex z =>
    if src = dst ∧ u8type P e = true then
      match h.get a.b with
      | some k => if k.minL ≤ a.L ∧ k.fz = 0 ∧ k.ro = false then some (.slice a n cap ex z, h) else none
      | none => none
    else none
  | some (.slice e), some .string, .slice a n cap ex z => if u8type P e then (absToStr (.slice a n cap ex z) h).map fun v => (v, h) else none
  | some (.slice e), some .string, .nilslice => if u8type P e then some (.str [], h) else none
  | some (.slice e), some .string, .loose => if u8type P e then some (.str [], h) else none
  | _, _, _ => none
theorem convert_sound {P : Program} {ρ : Rho} {h h' : AH} {w : World} {src dst : TypeId} {x v : V} {a : Value} (hr : HR ρ h w) (hx : R ρ x a) (hs : absConvert P src dst x h = some (v, h')) : Sim P ρ h w (convert src dst a) v h' := by
  unfold absConvert at hs
  split at hs
  · rename_i d1 k k' n h1 h2
    cases hs
    rw [show a = _ from hx]
    refine Sim.pure hr ⟨.int k (k.wrap n), ?_, rfl⟩
    unfold convert
    simp only [Sem.run_bind, run_underlying h1, run_underlying h2, Result.andThen_ok]
    cases d1 <;> rfl
  · rename_i d1 s h1 h2
    cases hs
    obtain ⟨t, rfl, ht⟩ := hx
    refine Sim.pure hr ⟨.string t, ?_, ⟨t, rfl, ht⟩⟩
    unfold convert
    simp only [Sem.run_bind, run_underlying h1, run_underlying h2, Result.andThen_ok]
    cases d1 <;> rfl
  · rename_i d1 e s h1 h2
    split at hs
    case isFalse => cases hs
    rename_i hu8
    obtain ⟨t, rfl, rfl⟩ := hx
    have hs2 := toBytes_sound (P := P) (e := e) (s := t) hr
    have he : (absToBytes e (t.data.toList.map UInt8.toNat) h).1 = v ∧ (absToBytes e (t.data.toList.map UInt8.toNat) h).2 = h' := by
      have := Option.some.inj hs
      rw [this]; exact ⟨rfl, rfl⟩
    rw [he.1, he.2] at hs2
    obtain ⟨u, w', ρ', g1, g2, g3, g4⟩ := hs2
    refine ⟨u, w', ρ', ?_, g2, g3, g4⟩
    rw [← g1]
    unfold convert
    simp only [Sem.run_bind, run_underlying h1, run_underlying h2, Result.andThen_ok]
    cases d1 <;> simp only [Sem.run_bind, run_underlying (u8type_spec hu8), Result.andThen_ok]
  · rename_i e0 e p n cap ex z h1 h2
    split at hs
    case isFalse => cases hs
    rename_i hc
    obtain ⟨rfl, hu8⟩ := hc
    obtain rfl : e0 = e := by rw [h1] at h2; cases h2; rfl
    split at hs
    case h_2 => cases hs
    rename_i k hk
    split at hs
    case isFalse => cases hs
    rename_i hg
    cases hs
    obtain ⟨cb, sh, S, cc, rfl, g1, g2, g3⟩ := hx
    obtain ⟨f1, f2, f3⟩ := freeze_sound hr hk g1 hg.1 hg.2.1 hg.2.2
    refine ⟨_, _, ρ, ?_, ⟨cb, sh, S, cc, rfl, g1, g2, g3⟩, f1, f2⟩
    unfold convert
    simp only [Sem.run_bind, run_underlying h1, run_underlying h2, Result.andThen_ok, beq_self_eq_true, run_underlying (u8type_spec hu8), markStringish, run_shape, f3, run_freeze, Sem.run_pure]
  · rename_i e p n cap ex z h1 h2
    split at hs
    case isFalse => cases hs
    rename_i hu8
    cases ht : absToStr (.slice p n cap ex z) h with
    | none => rw [ht] at hs; cases hs
    | some v' =>
      rw [ht] at hs
      cases hs
      obtain ⟨u, g1, g2⟩ := toStr_sound (P := P) hr hx ht
      obtain ⟨cb, sh, S, cc, rfl, _⟩ := hx
      refine Sim.pure hr ⟨u, ?_, g2⟩
      rw [← g1]
      unfold convert
      simp only [Sem.run_bind, run_underlying h1, run_underlying h2, Result.andThen_ok, run_underlying (u8type_spec hu8)]
  · rename_i e h1 h2
    split at hs
    case isFalse => cases hs
    rename_i hu8
    cases hs
    obtain ⟨u, g1, g2⟩ := toStr_sound (P := P) (x := .nilslice) (v := .str []) hr hx rfl
    rw [show a = _ from hx] at g1 ⊢
    refine Sim.pure hr ⟨u, ?_, g2⟩
    rw [← g1]
    unfold convert
    simp only [Sem.run_bind, run_underlying h1, run_underlying h2, Result.andThen_ok, run_underlying (u8type_spec hu8)]
  · rename_i e h1 h2
    split at hs
    case isFalse => cases hs
    rename_i hu8
    cases hs
    obtain ⟨u, g1, g2⟩ := toStr_sound (P := P) (x := .loose) (v := .str []) hr hx rfl
    obtain ⟨c, cc, rfl⟩ := hx
    refine Sim.pure hr ⟨u, ?_, g2⟩
    rw [← g1]
    unfold convert
    simp only [Sem.run_bind, run_underlying h1, run_underlying h2, Result.andThen_ok, run_underlying (u8type_spec hu8)]
  · cases hs

/-! ## Cuts -/
noncomputable def absSlice (P : Program) (t : TypeId) (x : V) (lo hi mx : Option V) (h : AH) : Option V :=
  match P.underlying t, x with
  | some (.array n e), .ptr a =>
    match h.get a.b with
    | some k => if k.minL ≤ a.L ∧ a.o + n * P.cellsOf e ≤ a.L ∧ (P.info? e).isSome then cutV a (P.cellsOf e) n n true lo hi mx else none
    | none => none
  | some (.slice e), .slice a n cap ex z => if z = P.cellsOf e ∧ (P.info? e).isSome then cutV a z n cap ex lo hi mx else none
  | some (.slice e), .nilslice =>
    match mx with
    | none =>
      match bnd hi 0 0 with
      | none => none
      | some h' => match bnd lo 0 h' with
        | none => none
        | some _ => if (P.info? e).isSome then some .nilslice else none
    | some _ => none
  | some (.slice e), .loose =>
    match mx with
    | none =>
      match bnd hi 0 0 with
      | none => none
      | some h' => match bnd lo 0 h' with
        | none => none
        | some _ => if (P.info? e).isSome then some .loose else none
    | some _ => none
  | some .string, .str s =>
    match mx with
    | none =>
      match bnd hi s.length s.length with
      | none => none
      | some h' => match bnd lo 0 h' with
        | none => none
        | some l => some (.str ((s.drop l).take (h' - l)))
    | some _ => none
  | _, _ => none
theorem slice_sound {P : Program} {ρ : Rho} {h : AH} {w : World} {t : TypeId} {x v : V} {a : Value} {lo hi mx : Option V} {l' h' m' : Option Value} (hr : HR ρ h w) (hx : R ρ x a) (hlo : OR ρ lo l') (hhi : OR ρ hi h') (hmx : OR ρ mx m') (hs : absSlice P t x lo hi mx h = some v) :
    ∃ u, (Instr.sliceAt t a l' h' m').run P w = .ok u w ∧ R ρ v u := by
  unfold absSlice at hs
  split at hs
  · rename_i n e p hu
    split at hs
    case h_2 => cases hs
    rename_i k hk
    split at hs
    case isFalse => cases hs
    rename_i hc
    obtain ⟨i, hi'⟩ := Option.isSome_iff_exists.1 hc.2.2
    obtain ⟨c, rfl, cb, sh, S, g1, g2, rfl⟩ := hx
    obtain ⟨cs, lo', hi2, q1, q2, q3, _⟩ := hr.blk _ _ _ _ _ _ hk g1 hc.1
    obtain ⟨l, hh, m, f1, f2⟩ := cut_sound (P := P) hlo hhi hmx g1 g2 (Nat.le_refl n) (fun _ => rfl) (Nat.le_refl n) (by omega) hs false w
    refine ⟨_, ?_, f2⟩
    unfold Instr.sliceAt
    simp only [Sem.run_bind, run_underlying hu, Result.andThen_ok, Instr.sureAddr, Sem.run_pure, f1, run_sizeOf hi']
  · rename_i e p n cap ex z hu
    split at hs
    case isFalse => cases hs
    rename_i hc
    obtain ⟨rfl, hi'⟩ := hc
    obtain ⟨i, hi'⟩ := Option.isSome_iff_exists.1 hi'
    obtain ⟨cb, sh, S, cc, rfl, g1, g2, g3, g4, g5, g6⟩ := hx
    obtain ⟨l, hh, m, f1, f2⟩ := cut_sound (P := P) hlo hhi hmx g1 g2 g3 g4 g5 g6 hs true w
    refine ⟨_, ?_, f2⟩
    unfold Instr.sliceAt
    simp only [Sem.run_bind, run_underlying hu, Result.andThen_ok]
    unfold Instr.slice
    simp only [Sem.run_bind, run_underlying hu, Result.andThen_ok, f1, run_sizeOf hi', Sem.run_pure]
    by_cases hml : m = l
    · simp only [if_pos hml]
    · simp only [if_neg hml, Option.map_some]
  · rename_i e hu
    split at hs
    case h_2 => cases hs
    cases hmx
    split at hs
    case h_1 => cases hs
    rename_i h1v h1
    split at hs
    case h_1 => cases hs
    rename_i l h2
    split at hs
    case isFalse => cases hs
    rename_i hi'
    obtain ⟨i, hi'⟩ := Option.isSome_iff_exists.1 hi'
    cases hs
    obtain ⟨f1, f2, f3⟩ := bounds_nomax (P := P) (n := 0) (cap := 0) hlo hhi h1 h2 true 0 (Nat.le_refl _) (Nat.le_refl _) w
    obtain rfl : h1v = 0 := by omega
    obtain rfl : l = 0 := by omega
    rw [show a = _ from hx]
    refine ⟨.slice none 0 0, ?_, rfl⟩
    unfold Instr.sliceAt
    simp only [Sem.run_bind, run_underlying hu, Result.andThen_ok]
    unfold Instr.slice
    simp only [Sem.run_bind, run_underlying hu, Result.andThen_ok, f1, run_sizeOf hi', Sem.run_pure]
    rfl
  · rename_i e hu
    split at hs
    case h_2 => cases hs
    cases hmx
    split at hs
    case h_1 => cases hs
    rename_i h1v h1
    split at hs
    case h_1 => cases hs
    rename_i l h2
    split at hs
    case isFalse => cases hs
    rename_i hi'
    obtain ⟨i, hi'⟩ := Option.isSome_iff_exists.1 hi'
    cases hs
    obtain ⟨c, cc, rfl⟩ := hx
    obtain ⟨f1, f2, f3⟩ := bounds_nomax (P := P) (n := 0) (cap := 0) hlo hhi h1 h2 true cc (Nat.zero_le _) (Nat.le_refl _) w
    obtain rfl : h1v = 0 := by omega
    obtain rfl : l = 0 := by omega
    refine ⟨.slice (some c) 0 cc, ?_, c, cc, rfl⟩
    unfold Instr.sliceAt
    simp only [Sem.run_bind, run_underlying hu, Result.andThen_ok]
    unfold Instr.slice
    simp only [Sem.run_bind, run_underlying hu, Result.andThen_ok, f1, run_sizeOf hi', Sem.run_pure, Nat.zero_mul, Nat.sub_zero]
    have : (if cc = 0 then some c else (some c).map (·.add 0)) = some c := by
      split
      · rfl
      · simp [Addr.add]
    rw [this]
  · rename_i s hu
    split at hs
    case h_2 => cases hs
    cases hmx
    split at hs
    case h_1 => cases hs
    rename_i h1v h1
    split at hs
    case h_1 => cases hs
    rename_i l h2
    cases hs
    obtain ⟨t', rfl, rfl⟩ := hx
    have hsz : (t'.data.toList.map UInt8.toNat).length = t'.size := by rw [List.length_map, Array.length_toList]; rfl
    rw [hsz] at h1
    obtain ⟨f1, f2, f3⟩ := bounds_nomax (P := P) (n := t'.size) (cap := t'.size) hlo hhi h1 h2 false t'.size (Nat.le_refl _) (Nat.le_refl _) w
    refine ⟨.string (t'.extract l h1v), ?_, _, rfl, ?_⟩
    · unfold Instr.sliceAt
      simp only [Sem.run_bind, run_underlying hu, Result.andThen_ok]
      unfold Instr.slice
      simp only [Sem.run_bind, run_underlying hu, Result.andThen_ok, f1, Option.isSome_none, Bool.false_eq_true, if_false, Sem.run_pure]
    · simp only [ByteArray.data_extract, Array.toList_extract, List.extract_eq_take_drop, List.map_take, List.map_drop]
  · cases hs

/-! ## Type assertions, len and its like -/
def zeroV (P : Program) (t : TypeId) : Option V :=
  match P.info? t with
  | some i =>
    match i.zero with
    | some z => some (absC z)
    | none => none
  | none => none
def holdsV (ok : Bool) (v : V) : V := if ok then .tuple [v, .bool true] else v
def failsV (P : Program) (ok : Bool) (t : TypeId) : Option V := if ok then (zeroV P t).map fun z => .tuple [z, .bool false] else none
def absAssert (P : Program) (x : V) (t : TypeId) (ok : Bool) : Option V :=
  match P.underlying t, x with
  | some (.interface _), .nilIface => failsV P ok t
  | some (.interface want), .iface tx v =>
    match P.info? tx with
    | some i => match Instr.missingMethod want i.methods with
      | none => some (holdsV ok (.iface tx v))
      | some _ => failsV P ok t
    | none => none
  | some _, .nilIface => failsV P ok t
  | some _, .iface tx v => if tx = t then some (holdsV ok v) else failsV P ok t
  | _, _ => none
theorem zeroV_sound {P : Program} {t : TypeId} {v : V} (h : zeroV P t = some v) (ρ : Rho) (w : World) : ∃ z, (zeroValue t).run P w = .ok z w ∧ R ρ v z := by
  unfold zeroV at h
  split at h
  · rename_i i hi
    split at h
    · rename_i z hz
      cases h
      exact ⟨z, by simp [zeroValue, typeInfo, hi, hz], absC_R ρ z⟩
    · cases h
  · cases h
theorem assert_sound {P : Program} {ρ : Rho} {x v : V} {a : Value} {xt t : TypeId} {ok : Bool} (hx : R ρ x a) (hs : absAssert P x t ok = some v) (w : World) : ∃ u, (Instr.typeAssert a xt t ok).run P w = .ok u w ∧ R ρ v u := by
  have fails : ∀ (d : TypeDesc) (a : Value), P.underlying t = some d → failsV P ok t = some v → (∃ f : Option TypeId × Option TypeId × String, Instr.typeAssert a xt t ok = (do
      let d ← underlying t
      (if ok then do pure (.tuple #[← zeroValue t, .bool false]) else runtimePanic (.typeAssertion f.1 f.2.1 t f.2.2) : Sem Value)) ∨ (Instr.typeAssert a xt t ok).run P w = (if ok then do pure (.tuple #[← zeroValue t, .bool false]) else runtimePanic (.typeAssertion f.1 f.2.1 t f.2.2) : Sem Value).run P w) → ∃ u, (Instr.typeAssert a xt t ok).run P w = .ok u w ∧ R ρ v u := by
    intro d a hd hf hrun
    unfold failsV at hf
    split at hf
    · rename_i hok
      cases hz : zeroV P t with
      | none => rw [hz] at hf; cases hf
      | some z =>
        rw [hz] at hf
        cases hf
        obtain ⟨u, h1, h2⟩ := zeroV_sound hz ρ w
        refine ⟨.tuple #[u, .bool false], ?_, _, rfl, _, _, rfl, h2, _, _, rfl, rfl, rfl⟩
        obtain ⟨f, hrun⟩ := hrun
        rcases hrun with hrun | hrun
        · rw [hrun]; simp only [hok, if_true, Sem.run_bind, run_underlying hd, h1, Result.andThen_ok, Sem.run_pure]
        · rw [hrun]; simp only [hok, if_true, Sem.run_bind, h1, Result.andThen_ok, Sem.run_pure]
    · cases hf
  have holds : ∀ (v' : V) (u' : Value), R ρ v' u' → R ρ (holdsV ok v') (if ok then .tuple #[u', .bool true] else u') := by
    intro v' u' h
    unfold holdsV
    cases ok
    · exact h
    · exact ⟨_, rfl, _, _, rfl, h, _, _, rfl, rfl, rfl⟩
  unfold absAssert at hs
  split at hs
  · rename_i ms hu
    rw [show a = _ from hx]
    refine fails _ _ hu hs ⟨(none, none, ""), .inr ?_⟩
    unfold Instr.typeAssert
    simp only [Sem.run_bind, run_underlying hu, Result.andThen_ok]
  · rename_i want tx v' hu
    obtain ⟨y, rfl, hy⟩ := hx
    split at hs
    case h_2 => cases hs
    rename_i i hi
    split at hs
    · rename_i hm
      cases hs
      refine ⟨if ok then .tuple #[.iface tx y, .bool true] else .iface tx y, ?_, holds _ _ ⟨y, rfl, hy⟩⟩
      unfold Instr.typeAssert
      simp only [Sem.run_bind, run_underlying hu, Result.andThen_ok, typeInfo, run_program, hi, Sem.run_pure, hm]
    · rename_i m hm
      refine fails _ _ hu hs ⟨(none, some tx, m), .inr ?_⟩
      unfold Instr.typeAssert
      simp only [Sem.run_bind, run_underlying hu, Result.andThen_ok, typeInfo, run_program, hi, Sem.run_pure, hm]
  · rename_i d h1 hu
    rw [show a = _ from hx]
    refine fails _ _ hu hs ⟨(some xt, none, ""), .inr ?_⟩
    unfold Instr.typeAssert
    simp only [Sem.run_bind, run_underlying hu, Result.andThen_ok]
  · rename_i d tx v' h1 hu
    obtain ⟨y, rfl, hy⟩ := hx
    have hmatch : ∀ (s : Sem Value), True := fun _ => trivial
    split at hs
    · rename_i he
      cases hs
      refine ⟨if ok then .tuple #[y, .bool true] else y, ?_, holds _ _ hy⟩
      unfold Instr.typeAssert
      simp only [Sem.run_bind, run_underlying hu, Result.andThen_ok]
      cases d <;> first | (simp only [he, if_true, Sem.run_pure]; done) | exact absurd rfl (h1 _ _ _ rfl rfl)
    · rename_i he
      refine fails _ _ hu hs ⟨(some xt, some tx, ""), .inr ?_⟩
      unfold Instr.typeAssert
      simp only [Sem.run_bind, run_underlying hu, Result.andThen_ok]
      cases d <;> first | (simp only [he, if_false]; done) | exact absurd rfl (h1 _ _ _ rfl rfl)
  · cases hs
end Go.Proofs.YtbeohojepniioaaDoor.Ev
