/-
  Operations that make rows, and append and copy: what the own machine makes of them is what the model makes. No program in sight. No condition.
-/
import Derived.Test.YtbeohojepniioaaDoorEvQ
set_option linter.unusedVariables false
set_option linter.unusedSimpArgs false
namespace Go.Proofs.YtbeohojepniioaaDoor.Ev
open Go

/-! ## Parts put together -/
def putL (vs : List V) (o : Nat) (cs : List V) : List V := cs.take o ++ vs ++ cs.drop (o + vs.length)
def fillV (place : Nat → Option (Nat × Nat)) : List (Nat × V) → List V → Option (List V)
  | [], cs => some cs
  | (i, v) :: rest, cs =>
    match place i with
    | none => none
    | some (off, size) => if v.isBad = false ∧ v.cells.length = size ∧ off + size ≤ cs.length then fillV place rest (putL v.cells off cs) else none
theorem foldl_set (us : List Value) : ∀ (o k : Nat) (cs : Array Value), o + k + us.length ≤ cs.size → ((us.zipIdx k).foldl (fun cs (x : Value × Nat) => cs.setIfInBounds (o + x.2) x.1) cs).toList = cs.toList.take (o + k) ++ us ++ cs.toList.drop (o + k + us.length) := by
  induction us with
  | nil => intro o k cs _; simp
  | cons u us ih =>
    intro o k cs h
    simp only [List.length_cons] at h
    rw [List.zipIdx_cons, List.foldl_cons, show o + k + (u :: us).length = o + (k + 1) + us.length from by simp only [List.length_cons]; omega]
    rw [ih o (k + 1) _ (by simp; omega)]
    have hk : o + k < cs.toList.length := by rw [Array.length_toList]; omega
    simp only [Array.toList_setIfInBounds]
    rw [List.drop_set, if_pos (by omega)]
    rw [show o + (k + 1) = (o + k) + 1 from by omega, List.take_set, List.take_succ_eq_append_getElem (by simpa using hk), ]
    rw [List.set_append_right _ _ (by rw [List.length_take]; omega)]
    simp [List.length_take]
    rw [Nat.min_eq_left (by omega), Nat.sub_self]
    rfl
theorem fill_sound {ρ : Rho} {place : Nat → Option (Nat × Nat)} : ∀ {ps : List (Nat × V)} {qs : List (Nat × Value)} {cs rs : List V} {us : Array Value}, ps.map (·.1) = qs.map (·.1) → RL ρ (ps.map (·.2)) (qs.map (·.2)) → RL ρ cs us.toList → fillV place ps cs = some rs →
    ∃ us' : Array Value, Instr.fill place us qs = some us' ∧ RL ρ rs us'.toList := by
  intro ps
  induction ps with
  | nil =>
    intro qs cs rs us hi _ hR h
    cases qs with
    | nil => cases h; exact ⟨us, rfl, hR⟩
    | cons q qs => simp at hi
  | cons p ps ih =>
    intro qs cs rs us hi hp hR h
    cases qs with
    | nil => simp at hi
    | cons q qs =>
      obtain ⟨i, v⟩ := p
      obtain ⟨j, u⟩ := q
      simp only [List.map_cons, List.cons.injEq] at hi
      obtain ⟨rfl, hi⟩ := hi
      simp only [List.map_cons] at hp
      rw [RL_cons] at hp
      obtain ⟨hv, hp⟩ := hp
      simp only [fillV] at h
      cases hpl : place i with
      | none => rw [hpl] at h; cases h
      | some x =>
        obtain ⟨off, size⟩ := x
        rw [hpl] at h
        simp only at h
        split at h
        · rename_i hc
          have hRv := R_cells_list hv hc.1
          have hl : v.cells.length = u.cells.size := by simpa using hRv.length
          have hl2 : cs.length = us.size := by simpa using hR.length
          have hfold := foldl_set u.cells.toList off 0 us (by rw [Array.length_toList]; omega)
          have hR' : RL ρ (putL v.cells off cs) ((u.cells.toList.zipIdx.foldl (fun cs (x : Value × Nat) => cs.setIfInBounds (off + x.2) x.1) us)).toList := by
            rw [hfold]
            unfold putL
            rw [show off + 0 = off from rfl, ← hRv.length]
            exact ((hR.take _).append hRv).append (hR.drop _)
          obtain ⟨us', g1, g2⟩ := ih hi hp hR' h
          refine ⟨us', ?_, g2⟩
          rw [← g1]
          simp only [Instr.fill, hpl]
          rw [if_neg (by simp only [ne_eq, Bool.or_eq_true, decide_eq_true_eq, not_or]; constructor <;> omega)]
          congr 1
          simp only [← Array.foldl_toList, Array.toList_zipIdx]
        · cases h

def structPlaces (P : Program) (fs : Array Field) : Option (List (Nat × Nat)) :=
  if fs.toList.all (fun f => (P.info? f.type).isSome) then some (fs.toList.map fun f => (f.offset, P.cellsOf f.type)) else none
def absBuild (P : Program) (t : TypeId) (ps : List (Nat × V)) : Option V :=
  match zeroOf P t with
  | none => none
  | some zs =>
    match P.underlying t with
    | some (.struct fs) =>
      match structPlaces P fs with
      | some pl => (fillV (pl[·]?) ps zs).map .agg
      | none => none
    | some (.array _ e) => if (P.info? e).isSome then (fillV (fun i => some (i * P.cellsOf e, P.cellsOf e)) ps zs).map .agg else none
    | _ => none
theorem mapM_places {P : Program} (w : World) : ∀ (l : List Field), l.all (fun f => (P.info? f.type).isSome) = true → (l.mapM (fun f => do pure (f.offset, ← sizeOf f.type) : Field → Sem (Nat × Nat))).run P w = .ok (l.map fun f => (f.offset, P.cellsOf f.type)) w := by
  intro l
  induction l with
  | nil => intro _; simp
  | cons f l ih =>
    intro h
    simp only [List.all_cons, Bool.and_eq_true] at h
    obtain ⟨i, hi⟩ := Option.isSome_iff_exists.1 h.1
    rw [List.mapM_cons]
    simp only [Sem.run_bind, run_sizeOf hi, Result.andThen_ok, Sem.run_pure, ih h.2, List.map_cons]
theorem build_sound {P : Program} {ρ : Rho} {t : TypeId} {ps : List (Nat × V)} {qs : Array (Nat × Value)} {v : V} (hi : ps.map (·.1) = qs.toList.map (·.1)) (hp : RL ρ (ps.map (·.2)) (qs.toList.map (·.2))) (h : absBuild P t ps = some v) (w : World) :
    ∃ u, (Instr.build t qs).run P w = .ok u w ∧ R ρ v u := by
  unfold absBuild at h
  split at h
  · cases h
  · rename_i zs hz
    obtain ⟨i, z, hi', hz', hR, hl, hc, _, hrun⟩ := zeroOf_spec hz ρ
    split at h
    · rename_i fs hu
      unfold structPlaces at h
      split at h
      · rename_i pl hpl
        split at hpl
        · rename_i hall
          cases hpl
          cases hf : fillV (fun x => (fs.toList.map fun f => (f.offset, P.cellsOf f.type))[x]?) ps zs with
          | none => rw [hf] at h; cases h
          | some rs =>
            rw [hf] at h
            cases h
            obtain ⟨us', g1, g2⟩ := fill_sound hi hp hR hf
            refine ⟨.agg us', ?_, _, rfl, g2⟩
            unfold Instr.build
            have hm := mapM_places (P := P) w fs.toList hall
            have hm2 : (fs.mapM (fun f => do pure (f.offset, ← sizeOf f.type) : Field → Sem (Nat × Nat))).run P w = .ok (fs.toList.map fun f => (f.offset, P.cellsOf f.type)).toArray w := by
              rw [Array.mapM_eq_mapM_toList]
              simp only [Sem.run_map, hm, Result.andThen_ok]
            simp only [Sem.run_bind, hrun, Result.andThen_ok, run_underlying hu, hm2]
            simp only [List.getElem?_toArray, g1]
            rfl
        · cases hpl
      · cases h
    · rename_i n e hu
      split at h
      · rename_i hie
        obtain ⟨ie, hie⟩ := Option.isSome_iff_exists.1 hie
        cases hf : fillV (fun x => some (x * P.cellsOf e, P.cellsOf e)) ps zs with
        | none => rw [hf] at h; cases h
        | some rs =>
          rw [hf] at h
          cases h
          obtain ⟨us', g1, g2⟩ := fill_sound hi hp hR hf
          refine ⟨.agg us', ?_, _, rfl, g2⟩
          unfold Instr.build
          simp only [Sem.run_bind, hrun, Result.andThen_ok, run_underlying hu, run_sizeOf hie, g1]
          rfl
      · cases h
    · cases h
end Go.Proofs.YtbeohojepniioaaDoor.Ev
