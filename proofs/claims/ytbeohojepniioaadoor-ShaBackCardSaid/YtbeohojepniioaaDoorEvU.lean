/-
  Rows that are made, conversions between texts and bytes, append and copy: what the own machine makes of them is what the model makes. No program in sight. No condition.
-/
import Derived.Test.YtbeohojepniioaaDoorEvS
set_option linter.unusedVariables false
set_option linter.unusedSimpArgs false
namespace Go.Proofs.YtbeohojepniioaaDoor.Ev
open Go

/-! ## A literal of a slice -/
noncomputable def absBuildSlice (P : Program) (t : TypeId) (len : Nat) (ps : List (Nat × V)) (h : AH) : Option (V × AH) :=
  match P.underlying t with
  | some (.slice e) =>
    match zeroOf P e with
    | some zs =>
      if 0 < P.cellsOf e ∧ len * P.cellsOf e ≤ 16777216 then
        match fillV (fun i => some (i * P.cellsOf e, P.cellsOf e)) ps (List.replicate len zs).flatten with
        | some cs => if cs.all V.cell then some (.slice ⟨h.next, cs.length, 0⟩ len len true (P.cellsOf e), h.add ⟨Arr.ofList cs, 0, 0, false, e⟩) else none
        | none => none
      else none
    | none => none
  | _ => none
theorem range0 (f : Nat → Value) : (Array.range 0).map f = #[] := by simp
theorem range_cells {ρ : Rho} {zs : List V} {us : List Value} (hR : RL ρ zs us) (n : Nat) (hpos : 0 < us.length) :
    RL ρ (List.replicate n zs).flatten ((Array.range (n * us.length)).map fun i => us.toArray[i % us.toArray.size]!).toList := by
  refine RL.of_get ?_ ?_
  · simp [hR.length]
  · intro i x y hx hy
    have hlen := hR.length
    have hi : i < n * us.length := by
      have := (List.getElem?_eq_some_iff.1 hy).1
      simpa using this
    simp only [Array.getElem?_toList, Array.getElem?_map, Array.getElem?_range, hi, if_true, Option.map_some, Option.some.injEq] at hy
    have hget : (List.replicate n zs).flatten[i]? = zs[i % us.length]? := by
      clear hx hy
      induction n generalizing i with
      | zero => simp at hi
      | succ n ih =>
        rw [List.replicate_succ, List.flatten_cons]
        by_cases h1 : i < zs.length
        · rw [List.getElem?_append_left h1, Nat.mod_eq_of_lt (by omega)]
        · have hm : i % us.length = (i - us.length) % us.length := Nat.mod_eq_sub_mod (by omega)
          rw [List.getElem?_append_right (by omega), ih _ (by rw [Nat.add_mul, Nat.one_mul] at hi; omega), hlen, hm]
    rw [hget] at hx
    obtain ⟨u, hu, hRu⟩ := hR.get hx
    rw [← hy]
    have : us.toArray[i % us.toArray.size]! = u := by
      have hlt := (List.getElem?_eq_some_iff.1 hu).1
      simp only [List.size_toArray, List.getElem!_toArray]
      rw [List.getElem!_eq_getElem?_getD, hu]; rfl
    rw [this]
    exact hRu
theorem buildSlice_sound {P : Program} {ρ : Rho} {h h' : AH} {w : World} {t : TypeId} {len : Nat} {ps : List (Nat × V)} {qs : Array (Nat × Value)} {v : V} (hr : HR ρ h w) (hi : ps.map (·.1) = qs.toList.map (·.1)) (hp : RL ρ (ps.map (·.2)) (qs.toList.map (·.2)))
    (hs : absBuildSlice P t len ps h = some (v, h')) : Sim P ρ h w (Instr.buildSlice t len qs) v h' := by
  unfold absBuildSlice at hs
  split at hs
  · rename_i e hu
    split at hs
    · rename_i zs hz
      split at hs
      · rename_i hb
        split at hs
        · rename_i cs hf
          split at hs
          · rename_i hc
            cases hs
            obtain ⟨i, z, hi', hz', hR, hl, hcz, _, hrun⟩ := zeroOf_spec hz ρ
            have hzl : z.cells.toList.length = P.cellsOf e := hR.length.symm.trans hl
            have hR0 := range_cells hR len (by omega)
            rw [hzl, Array.toArray_toList] at hR0
            obtain ⟨us', g1, g2⟩ := fill_sound hi hp hR0 hf
            obtain ⟨ρ', f1, f2, f3⟩ := new_row (P := P) hr rfl rfl rfl rfl g2 [] e hc
            refine ⟨.slice (some ⟨w.heap.size, 0, none⟩) len len, _, ρ', ?_, ⟨w.heap.size, 0, _, len, rfl, f3, Int.le_refl _, Nat.le_refl _, fun _ => rfl, Nat.le_refl _, ?_⟩, f1, f2⟩
            · unfold Instr.buildSlice
              simp only [Sem.run_bind, run_underlying hu, Result.andThen_ok, run_sizeOf hi']
              have hne : ¬ len * P.cellsOf e > 2 ^ 24 := by omega
              rw [if_neg hne]
              by_cases h0 : len * P.cellsOf e = 0
              · have hlen0 : len = 0 := by rcases Nat.mul_eq_zero.1 h0 with h | h; exact h; omega
                subst hlen0
                simp only [h0, if_true, Sem.run_bind, Sem.run_pure, Result.andThen_ok, Nat.zero_mul, range0] at g1 ⊢
                simp only [g1, Sem.run_bind, run_newRow, Result.andThen_ok, Sem.run_pure, List.append_nil, Array.toArray_toList]
              · simp only [h0, if_false, Sem.run_bind, Sem.run_pure, hrun, Result.andThen_ok, g1, run_newRow, List.append_nil, Array.toArray_toList]
            · have hl' := g2.length
              have := hR0.length
              have hfl : cs.length = len * P.cellsOf e := by
                have : ∀ (ps : List (Nat × V)) (c0 c1 : List V), fillV (fun i => some (i * P.cellsOf e, P.cellsOf e)) ps c0 = some c1 → c1.length = c0.length := by
                  intro ps
                  induction ps with
                  | nil => intro c0 c1 h; cases h; rfl
                  | cons p ps ih =>
                    intro c0 c1 h
                    simp only [fillV] at h
                    split at h
                    · rename_i hc2
                      rw [ih _ _ h]
                      unfold putL
                      simp only [List.length_append, List.length_take, List.length_drop]
                      omega
                    · cases h
                rw [this _ _ _ hf]
                simp [hl]
              simp only [List.length_nil]
              omega
          · cases hs
        · cases hs
      · cases hs
    · cases hs
  · cases hs

/-! ## make -/
noncomputable def absMakeSlice (P : Program) (t : TypeId) (l c : V) (h : AH) : Option (V × AH) :=
  match P.underlying t, l, c with
  | some (.slice e), .int _ l, .int _ c =>
    match zeroOf P e with
    | some zs =>
      if 0 < P.cellsOf e ∧ 0 ≤ l ∧ l ≤ c ∧ c ≤ 9223372036854775807 ∧ (P.bytesOf e : Int) * c ≤ 281474976710656 then
        some (.slice ⟨h.next, c.toNat * P.cellsOf e, 0⟩ l.toNat c.toNat true (P.cellsOf e), h.add ⟨Arr.make (c.toNat * P.cellsOf e) zs, 0, 0, false, e⟩)
      else none
    | none => none
  | _, _, _ => none
theorem makeSlice_sound {P : Program} {ρ : Rho} {h h' : AH} {w : World} {t : TypeId} {l c v : V} {a b : Value} (hr : HR ρ h w) (hl : R ρ l a) (hc : R ρ c b) (hs : absMakeSlice P t l c h = some (v, h')) : Sim P ρ h w (Instr.makeSlice t a b) v h' := by
  unfold absMakeSlice at hs
  split at hs
  · rename_i e k l k' c hu
    split at hs
    · rename_i zs hz
      split at hs
      · rename_i hb
        obtain ⟨hb0, hb1, hb2, hb3, hb4⟩ := hb
        cases hs
        obtain ⟨i, z, hi', hz', hR, hlz, hcz, _, hrun⟩ := zeroOf_spec hz ρ
        have hzl : z.cells.toList.length = P.cellsOf e := hR.length.symm.trans hlz
        have hzs : z.cells.size = P.cellsOf e := by simpa using hzl
        rw [show a = _ from hl, show b = _ from hc]
        have hwl : IntKind.i64.wrap l = l := by simp [IntKind.wrap, IntKind.bits, IntKind.signed]; omega
        have hwc : IntKind.i64.wrap c = c := by simp [IntKind.wrap, IntKind.bits, IntKind.signed]; omega
        have hby : (P.bytesOf e : Int) = i.bytes := by simp [Program.bytesOf, hi']
        obtain ⟨ρ', g1, g2, g3⟩ := add_sound (w' := { w with heap := w.heap.push (.cells ((Array.range (c.toNat * P.cellsOf e)).map fun i => z.cells[i % z.cells.size]!) e) }) hr ⟨Arr.make (c.toNat * P.cellsOf e) zs, 0, 0, false, e⟩ _ 0 0 rfl rfl rfl rfl (by simp) (fun j v hv => by
          simp only [Arr.get_make] at hv
          split at hv
          · rename_i hj
            obtain ⟨u, hu, hRu⟩ := hR.get hv
            refine ⟨u, ?_, hRu⟩
            rw [Array.getElem?_toList, hR.length, hzl, ← hzs] at hu
            simp only [Array.getElem?_map, Array.getElem?_range, hj, if_true, Option.map_some, Option.some.injEq]
            rw [getElem!_def, hu]
          · cases hv) (fun i _ _ => by omega) (Nat.le_refl 0)
        refine ⟨.slice (some ⟨w.heap.size, 0, none⟩) l.toNat c.toNat, _, ρ', ?_, ⟨w.heap.size, 0, _, c.toNat, rfl, ?_, Int.le_refl _, Nat.le_refl _, fun _ => rfl, by omega, Nat.le_refl _⟩, g1, g2⟩
        · unfold Instr.makeSlice
          simp only [Sem.run_bind, run_underlying hu, Result.andThen_ok, asInt, asIntOf, Sem.run_pure, typeInfo, run_program, hi', hwl, hwc]
          have hnot : ¬ ((decide (c < 0) || decide ((i.bytes : Int) * c > 2 ^ 48) || decide (l < 0) || decide (l > c)) = true) := by
            simp only [Bool.or_eq_true, decide_eq_true_eq, not_or]
            rw [hby] at hb4
            refine ⟨⟨⟨by omega, by omega⟩, by omega⟩, by omega⟩
          rw [if_neg hnot]
          simp only [Sem.run_bind, Sem.run_pure, run_askRoom, Result.andThen_ok, run_sizeOf hi']
          by_cases h0 : c.toNat * P.cellsOf e = 0
          · simp only [h0, if_true, Sem.run_bind, Sem.run_pure, Result.andThen_ok, run_newRow, range0]
          · simp only [h0, if_false, Sem.run_bind, Sem.run_pure, hrun, Result.andThen_ok, run_newRow]
        · rw [Arr.make_n] at g3; rw [g3]; simp
      · cases hs
    · cases hs
  · cases hs
end Go.Proofs.YtbeohojepniioaaDoor.Ev
