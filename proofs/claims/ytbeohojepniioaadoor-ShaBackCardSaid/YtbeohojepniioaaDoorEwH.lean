/-
  Functions without a body, by rows: what the model's entry does with what the own machine holds. No program in sight. No condition.
-/
import Derived.Test.YtbeohojepniioaaDoorEwG
set_option linter.unusedVariables false
set_option linter.unusedSimpArgs false
namespace Go.Proofs.YtbeohojepniioaaDoor.Ev
open Go

/-- A row: the function's number; the model's entry; what the own machine makes of it. -/
structure XRow where
  f : Nat
  e : Array Value → Sem Value
  g : List V → AH → Option (V × AH)
noncomputable def xOf (l : List XRow) (f : FuncId) (args : List V) (h : AH) : Option (V × AH) :=
  List.rec none (fun r _ ih => bif Nat.beq r.f f then r.g args h else ih) l
theorem xOf_cons (r : XRow) (l : List XRow) (f : FuncId) (args : List V) (h : AH) : xOf (r :: l) f args h = bif Nat.beq r.f f then r.g args h else xOf l f args h := rfl
structure XRow.OK (P : Program) (r : XRow) : Prop where
  fits : ∃ fn, P.funcs[r.f]? = some fn ∧ (fn.name == "runtime.NumGoroutine") = false ∧ fn.body.isNone = true ∧ Extern.findNext fn = none ∧ Extern.find fn = some r.e
  sound : ∀ (ρ : Rho) (h : AH) (w : World) (args : List V) (args' : List Value) (v : V) (h' : AH), HR ρ h w → RL ρ args args' → r.g args h = some (v, h') → Sim P ρ h w (r.e args'.toArray) v h'
  step : ∀ args h v h', r.g args h = some (v, h') → AStep h h'
theorem xOf_inv {l : List XRow} {f : FuncId} {args : List V} {h : AH} {x : V × AH} : xOf l f args h = some x → ∃ r ∈ l, r.f = f ∧ r.g args h = some x := by
  induction l with
  | nil => intro hx; cases hx
  | cons r l ih =>
    intro hx
    rw [xOf_cons] at hx
    cases hb : Nat.beq r.f f with
    | true => rw [hb] at hx; exact ⟨r, by simp, Nat.eq_of_beq_eq_true hb, hx⟩
    | false =>
      rw [hb] at hx
      obtain ⟨r', h1, h2, h3⟩ := ih hx
      exact ⟨r', by simp [h1], h2, h3⟩
theorem xOf_sound {c : Cfg} {l : List XRow} (hX : c.X = xOf l) (hl : ∀ r ∈ l, r.OK c.P) : XRun c := by
  intro ρ h w f args args' v h' hr hR hs
  rw [hX] at hs
  obtain ⟨r, h1, rfl, h3⟩ := xOf_inv hs
  obtain ⟨fn, g1, g2, g3, g4, g5⟩ := (hl r h1).fits
  obtain ⟨u, w', ρ', q1, q2, q3, q4⟩ := (hl r h1).sound ρ h w args args' v h' hr hR h3
  refine ⟨.value u, u, w', ρ', ?_, .inl rfl, q2, q3, q4⟩
  rw [run_callFunc_extern g1 g2 g3 g4 g5, q1]
  rfl
theorem xOf_astep {P : Program} {l : List XRow} (hl : ∀ r ∈ l, r.OK P) : ∀ f args h v h', xOf l f args h = some (v, h') → AStep h h' := by
  intro f args h v h' hs
  obtain ⟨r, h1, _, h3⟩ := xOf_inv hs
  exact (hl r h1).step args h v h' h3

/-! ## The bytes behind a value -/
noncomputable def bytesV (x : V) (h : AH) : Option (List Nat) :=
  match x with
  | .str s => some s
  | .nilslice => some []
  | .loose => some []
  | .slice a n _ _ _ => (readN h a n).bind toBytes
  | _ => none
theorem toNat_list (t : List UInt8) : (t.map UInt8.toNat).map UInt8.ofNat = t := by
  rw [List.map_map]
  conv => rhs; rw [← List.map_id t]
  congr 1
  funext x
  simp
theorem bytesV_sound {P : Program} {ρ : Rho} {h : AH} {w : World} {x : V} {a : Value} {l : List Nat} (hr : HR ρ h w) (hx : R ρ x a) (hs : bytesV x h = some l) :
    ∃ s : ByteArray, (Extern.Bytes.bytesOf a).run P w = .ok s w ∧ s.data.toList.map UInt8.toNat = l := by
  unfold bytesV at hs
  split at hs
  · cases hs; obtain ⟨t, rfl, ht⟩ := hx; exact ⟨t, rfl, ht⟩
  · cases hs; rw [show a = _ from hx]; exact ⟨.empty, rfl, rfl⟩
  · cases hs; obtain ⟨c, cc, rfl⟩ := hx; exact ⟨.empty, rfl, rfl⟩
  · rename_i p n _ _ _
    obtain ⟨cb, sh, S, cc, rfl, h1, h2, _⟩ := hx
    cases hread : readN h p n with
    | none => rw [hread] at hs; cases hs
    | some vs =>
      rw [hread] at hs
      simp only [Option.bind_some] at hs
      obtain ⟨us, hlen, hR, hcell⟩ := read_sound hr ⟨cb, sh, S, h1, h2, rfl⟩ hread
      obtain ⟨ns, g1, g2⟩ := toBytes_spec hs hR
      have hl : ns.length = n := by rw [← hlen, g1, List.length_map]
      have hrun := Lib.run_loadBytesX (P := P) w ns ⟨cb, ((p.o : Int) - sh).toNat, none⟩ .empty (fun j y hj => hcell j _ (by rw [g1, List.getElem?_map, hj]; rfl))
      rw [hl] at hrun
      refine ⟨_, hrun, ?_⟩
      have e : ByteArray.empty.data = #[] := rfl
      rw [e, g2, ← bytes_mod]
      simp [Lib.bytesOf]
  · cases hs

/-! ## The first place of a byte -/
noncomputable def idxN (c : Nat) (l : List Nat) : Nat → Int := List.rec (fun _ => -1) (fun b _ ih i => bif Nat.beq b c then Int.ofNat i else ih (Nat.succ i)) l
theorem idxN_cons (c b : Nat) (l : List Nat) (i : Nat) : idxN c (b :: l) i = bif Nat.beq b c then (i : Int) else idxN c l (i + 1) := rfl
theorem idxN_eq (c : UInt8) : ∀ (t : List UInt8) (i : Nat), idxN c.toNat (t.map UInt8.toNat) i = if Lib.indexByte t c = -1 then -1 else Lib.indexByte t c + i := by
  intro t
  induction t with
  | nil => intro i; rfl
  | cons b t ih =>
    intro i
    rw [List.map_cons, idxN_cons, ih]
    have hge := Lib.indexByte_ge t c
    have hstep : Lib.indexByte (b :: t) c = if b == c then 0 else if Lib.indexByte t c == -1 then -1 else Lib.indexByte t c + 1 := rfl
    rw [hstep]
    by_cases hb : b = c
    · subst hb
      simp only [Nat.beq_refl, cond_true, beq_self_eq_true, if_true]
      rw [if_neg (by omega)]
      omega
    · have h1 : Nat.beq b.toNat c.toNat = false := by
        cases h : Nat.beq b.toNat c.toNat with
        | false => rfl
        | true => exact absurd (UInt8.toNat_inj.1 (Nat.eq_of_beq_eq_true h)) hb
      have h2 : (b == c) = false := by simpa using hb
      simp only [h1, h2, cond_false, Bool.false_eq_true, if_false, beq_iff_eq]
      by_cases h3 : Lib.indexByte t c = -1
      · simp only [h3, if_true]
      · simp only [h3, if_false]
        rw [if_neg (by omega)]
        push_cast
        omega
noncomputable def absIndexByte (args : List V) (h : AH) : Option (V × AH) :=
  match args with
  | [x, .int .u8 c] => (bytesV x h).map fun l => (.int .i64 (idxN (Nat.mod c.toNat 256) l 0), h)
  | _ => none
theorem indexByte_sound {P : Program} {ρ : Rho} {h h' : AH} {w : World} {args : List V} {args' : List Value} {v : V} (hr : HR ρ h w) (hR : RL ρ args args') (hs : absIndexByte args h = some (v, h')) : Sim P ρ h w (Extern.BytealgIndexByte.indexByte args'.toArray) v h' := by
  unfold absIndexByte at hs
  split at hs
  · rename_i x c
    obtain ⟨a, b, rfl, h1, h2⟩ := RL2 hR
    obtain ⟨l, g1, g2⟩ := map_some hs
    cases g2
    rw [show b = _ from h2]
    obtain ⟨s, q1, q2⟩ := bytesV_sound (P := P) hr h1 g1
    refine Sim.pure hr ⟨_, ?_, rfl⟩
    have hk := Lib.run_indexByteString (P := P) s c w
    change Sem.run P (do
      let b ← Extern.Bytes.bytesOf a
      let c ← Extern.Bytes.asByte (.int .u8 c)
      match (List.range b.size).find? fun i => b[i]! == c with
      | some i => pure (goInt i)
      | none => pure (goInt (-1))) w = _
    change Sem.run P (do
      let b ← Extern.Bytes.bytesOf (.string s)
      let c ← Extern.Bytes.asByte (.int .u8 c)
      match (List.range b.size).find? fun i => b[i]! == c with
      | some i => pure (goInt i)
      | none => pure (goInt (-1))) w = _ at hk
    simp only [Sem.run_bind, q1, Result.andThen] at hk ⊢
    simp only [Extern.Bytes.bytesOf, Sem.run_pure] at hk
    rw [hk]
    have hi := idxN_eq c.toNat.toUInt8 s.data.toList 0
    rw [q2] at hi
    have hc : c.toNat.toUInt8.toNat = Nat.mod c.toNat 256 := by simp; rfl
    rw [hc] at hi
    rw [hi]
    by_cases h3 : Lib.indexByte s.data.toList c.toNat.toUInt8 = -1
    · rw [if_pos h3, ← h3]
    · rw [if_neg h3]; simp
  · cases hs

/-! ## Which list of bytes comes first -/
noncomputable def cmpN (l : List Nat) : List Nat → Int := List.rec (fun m => List.rec 0 (fun _ _ _ => -1) m) (fun a _ ih m => List.rec 1 (fun b bs _ => bif Nat.blt a b then -1 else bif Nat.blt b a then 1 else ih bs) m) l
theorem cmpN_eq : ∀ (s t : List UInt8), cmpN (s.map UInt8.toNat) (t.map UInt8.toNat) = Lib.compareBytes s t := by
  intro s
  induction s with
  | nil => intro t; cases t <;> rfl
  | cons a s ih =>
    intro t
    cases t with
    | nil => rfl
    | cons b t =>
      show (bif Nat.blt a.toNat b.toNat then -1 else bif Nat.blt b.toNat a.toNat then 1 else cmpN (s.map UInt8.toNat) (t.map UInt8.toNat)) = _
      have hstep : Lib.compareBytes (a :: s) (b :: t) = if a < b then -1 else if b < a then 1 else Lib.compareBytes s t := rfl
      rw [ih, Arr.blt_eq, Arr.blt_eq, hstep]
      simp only [UInt8.lt_iff_toNat_lt]
      by_cases h1 : a.toNat < b.toNat
      · simp [h1]
      · by_cases h2 : b.toNat < a.toNat
        · simp [h1, h2]
        · simp [h1, h2]
noncomputable def absCompare (args : List V) (h : AH) : Option (V × AH) :=
  match args with
  | [x, y] =>
    match bytesV x h, bytesV y h with
    | some l, some m => some (.int .i64 (cmpN l m), h)
    | _, _ => none
  | _ => none
theorem compare_sound {P : Program} {ρ : Rho} {h h' : AH} {w : World} {args : List V} {args' : List Value} {v : V} (hr : HR ρ h w) (hR : RL ρ args args') (hs : absCompare args h = some (v, h')) : Sim P ρ h w (Extern.BytealgCompare.compare args'.toArray) v h' := by
  unfold absCompare at hs
  split at hs
  · rename_i x y
    obtain ⟨a, b, rfl, h1, h2⟩ := RL2 hR
    split at hs
    · rename_i l m g1 g2
      cases hs
      obtain ⟨s, q1, q2⟩ := bytesV_sound (P := P) hr h1 g1
      obtain ⟨t, q3, q4⟩ := bytesV_sound (P := P) hr h2 g2
      refine Sim.pure hr ⟨_, ?_, rfl⟩
      change Sem.run P (do pure (goInt (Extern.BytealgCompare.cmp (← Extern.Bytes.bytesOf a) (← Extern.Bytes.bytesOf b)))) w = _
      simp only [Sem.run_bind, q1, q3, Result.andThen, Sem.run_pure]
      rw [Lib.cmp_eq, ← cmpN_eq, q2, q4]
      rfl
    · cases hs
  · cases hs

/-- What is handed over comes back. -/
def absSame (args : List V) (h : AH) : Option (V × AH) :=
  match args with
  | [x] => some (x, h)
  | _ => none
theorem same_sound {P : Program} {ρ : Rho} {h h' : AH} {w : World} {args : List V} {args' : List Value} {v : V} (hr : HR ρ h w) (hR : RL ρ args args') (hs : absSame args h = some (v, h')) : Sim P ρ h w (Extern.AbiNoEscape.same args'.toArray) v h' := by
  unfold absSame at hs
  split at hs
  · cases hs
    obtain ⟨a, rfl, h1⟩ := RL1 hR
    exact Sim.pure hr ⟨a, rfl, h1⟩
  · cases hs
theorem same_step : ∀ args h v h', absSame args h = some (v, h') → AStep h h' := by
  intro args h v h' hs
  unfold absSame at hs
  split at hs <;> cases hs
  exact AStep.refl _
theorem indexByte_step : ∀ args h v h', absIndexByte args h = some (v, h') → AStep h h' := by
  intro args h v h' hs
  unfold absIndexByte at hs
  split at hs
  · rw [map_some hs |>.choose_spec.2 |> Prod.mk.inj |>.2 |>.symm]; exact AStep.refl _
  · cases hs
theorem compare_step : ∀ args h v h', absCompare args h = some (v, h') → AStep h h' := by
  intro args h v h' hs
  unfold absCompare at hs
  (repeat' split at hs) <;> cases hs
  exact AStep.refl _
end Go.Proofs.YtbeohojepniioaaDoor.Ev
