/-
  Operations that read and make memory: what the own machine makes of them is what the model makes. No program in sight. No condition.
-/
import Derived.Test.YtbeohojepniioaaDoorEvP
set_option linter.unusedVariables false
set_option linter.unusedSimpArgs false
namespace Go.Proofs.YtbeohojepniioaaDoor.Ev
open Go

/-- What an operation of the own machine owes: the model's operation goes through, to a value and a memory that fit. -/
def Sim (P : Program) (ρ : Rho) (h : AH) (w : World) (s : Sem Value) (v : V) (h' : AH) : Prop :=
  ∃ u w' ρ', s.run P w = .ok u w' ∧ R ρ' v u ∧ HR ρ' h' w' ∧ Step ρ h w ρ' h' w'
theorem Sim.pure {P : Program} {ρ : Rho} {h : AH} {w : World} {s : Sem Value} {v : V} (hr : HR ρ h w) (hs : ∃ u, s.run P w = .ok u w ∧ R ρ v u) : Sim P ρ h w s v h := by
  obtain ⟨u, h1, h2⟩ := hs
  exact ⟨u, w, ρ, h1, h2, hr, Step.refl ρ h w⟩

/-! ## Zero values -/
/-- A type's zero value: its cells; they may all stand in cells, and are as many as the type has. -/
def zeroOf (P : Program) (t : TypeId) : Option (List V) :=
  match P.info? t with
  | some i =>
    match i.zero with
    | some z => if (absC z).isBad = false ∧ (absC z).cells.length = i.size ∧ (absC z).cells.all V.cell = true then some (absC z).cells else none
    | none => none
  | none => none
theorem zeroOf_spec {P : Program} {t : TypeId} {zs : List V} (h : zeroOf P t = some zs) (ρ : Rho) : ∃ i z, P.info? t = some i ∧ i.zero = some z ∧ RL ρ zs z.cells.toList ∧ zs.length = P.cellsOf t ∧ zs.all V.cell = true ∧ (zeroValue t : Sem Value) = zeroValue t ∧
    (∀ w, (zeroValue t).run P w = .ok z w) := by
  unfold zeroOf at h
  split at h
  · rename_i i hi
    split at h
    · rename_i z hz
      split at h
      · rename_i hc
        cases h
        refine ⟨i, z, hi, hz, R_cells_list (absC_R ρ z) hc.1, by rw [hc.2.1]; simp [Program.cellsOf, hi], hc.2.2, rfl, fun w => by simp [zeroValue, typeInfo, hi, hz]⟩
      · cases h
    · cases h
  · cases h

theorem run_newRow (P : Program) (e : TypeId) (c : Array Value) (w : World) : (newRow e c).run P w = .ok ⟨w.heap.size, 0, none⟩ { w with heap := w.heap.push (.cells c e) } := by
  simp [newRow]

/-- A new row of just these cells. -/
theorem new_row {P : Program} {ρ : Rho} {h : AH} {w w0 : World} (hr : HR ρ h w) (h0 : w0.heap = w.heap) (h1 : w0.os = w.os) (h2 : w0.tape = w.tape) (h3 : w0.output = w.output) {vs : List V} {us : List Value} (hR : RL ρ vs us) (extra : List Value) (e : TypeId) (hc : vs.all V.cell = true) :
    ∃ ρ', HR ρ' (h.add ⟨Arr.ofList vs, 0, 0, false, e⟩) { w0 with heap := w0.heap.push (.cells (us ++ extra).toArray e) } ∧ Step ρ h w ρ' (h.add ⟨Arr.ofList vs, 0, 0, false, e⟩) { w0 with heap := w0.heap.push (.cells (us ++ extra).toArray e) } ∧
      ρ' h.next vs.length = some (w.heap.size, 0, us.length + extra.length) := by
  have hl := hR.length
  obtain ⟨ρ', g1, g2, g3⟩ := add_sound (w' := { w0 with heap := w0.heap.push (.cells (us ++ extra).toArray e) }) hr ⟨Arr.ofList vs, 0, 0, false, e⟩ (us ++ extra).toArray 0 0 (by simp only [h0]) h1 h2 h3 (by simp [hl]) (fun j v hv => by
    simp only [Arr.get_ofList] at hv
    obtain ⟨u, hu, hRu⟩ := hR.get hv
    refine ⟨u, ?_, hRu⟩
    have := (List.getElem?_eq_some_iff.1 hu).1
    simp only [List.getElem?_toArray]
    rw [List.getElem?_append_left this, hu]) (fun i _ _ => by omega) (Nat.le_refl 0)
  refine ⟨ρ', g1, g2, ?_⟩
  rw [Arr.ofList_n] at g3
  rw [g3]
  simp

/-! ## alloc, box -/
noncomputable def absAlloc (P : Program) (t : TypeId) (h : AH) : Option (V × AH) :=
  match zeroOf P t with
  | some zs => some (.ptr ⟨h.next, zs.length, 0⟩, h.add ⟨Arr.make zs.length zs, 0, 0, false, t⟩)
  | none => none
theorem alloc_sound {P : Program} {ρ : Rho} {h h' : AH} {w : World} {t : TypeId} {v : V} (hr : HR ρ h w) (hs : absAlloc P t h = some (v, h')) : Sim P ρ h w (Instr.alloc t true (.tuple #[])) v h' := by
  unfold absAlloc at hs
  split at hs
  · rename_i zs hz
    cases hs
    obtain ⟨i, z, hi, hz', hR, hl, hc, _, hrun⟩ := zeroOf_spec hz ρ
    have hlen : zs.length = z.cells.size := by simpa using hR.length
    obtain ⟨ρ', g1, g2, g3⟩ := add_sound (w' := { w with heap := w.heap.push (.cells z.cells t) }) hr ⟨Arr.make zs.length zs, 0, 0, false, t⟩ z.cells 0 0 rfl rfl rfl rfl (by simp [hlen]) (fun j v hv => by
      simp only [Arr.get_make] at hv
      split at hv
      · rename_i hj
        rw [Nat.mod_eq_of_lt hj] at hv
        obtain ⟨u, hu, hRu⟩ := hR.get hv
        rw [Array.getElem?_toList] at hu
        exact ⟨u, hu, hRu⟩
      · cases hv) (fun i _ _ => by omega) (Nat.le_refl 0)
    refine ⟨.pointer (some ⟨w.heap.size, 0, none⟩), _, ρ', ?_, ⟨_, rfl, w.heap.size, 0, z.cells.size, ?_, Int.le_refl _, rfl⟩, g1, g2⟩
    · simp [Instr.alloc, hrun, newVar, run_newRow]
    · rw [Arr.make_n] at g3; exact g3
  · cases hs
noncomputable def absBox (t : TypeId) (x : V) (h : AH) : Option (V × AH) :=
  if x.cells.all V.cell then some (.ptr ⟨h.next, x.cells.length, 0⟩, h.add ⟨Arr.ofList x.cells, 0, 0, false, t⟩) else none
theorem box_sound {P : Program} {ρ : Rho} {h h' : AH} {w : World} {t : TypeId} {x v : V} {a : Value} (hr : HR ρ h w) (hx : R ρ x a) (hs : absBox t x h = some (v, h')) : Sim P ρ h w (Instr.box t a) v h' := by
  unfold absBox at hs
  split at hs
  · rename_i hc
    cases hs
    have hb : x.isBad = false := by cases x <;> first | rfl | (simp [V.cells, V.cell] at hc)
    have hR := R_cells_list hx hb
    obtain ⟨ρ', g1, g2, g3⟩ := new_row (P := P) hr rfl rfl rfl rfl hR [] t hc
    refine ⟨.pointer (some ⟨w.heap.size, 0, none⟩), _, ρ', ?_, ⟨_, rfl, w.heap.size, 0, _, g3, Int.le_refl _, rfl⟩, g1, g2⟩
    simp [Instr.box, newVar, run_newRow]
  · cases hs

/-! ## load, store -/
noncomputable def absLoad (P : Program) (t : TypeId) (x : V) (h : AH) : Option V :=
  match x with
  | .ptr a =>
    match P.underlying t with
    | some (.struct _) | some (.array _ _) => (readN h a (P.cellsOf t)).map .agg
    | some _ =>
      match readN h a 1 with
      | some [v] => some v
      | _ => none
    | none => none
  | _ => none
theorem load_sound {P : Program} {ρ : Rho} {h : AH} {w : World} {t : TypeId} {x v : V} {a : Value} (hr : HR ρ h w) (hx : R ρ x a) (hs : absLoad P t x h = some v) : ∃ u, (Instr.loadAt t a).run P w = .ok u w ∧ R ρ v u := by
  unfold absLoad at hs
  split at hs
  · rename_i p
    obtain ⟨c, rfl, hc⟩ := hx
    have agg : ∀ d, P.underlying t = some d → (match d with | .struct _ => true | .array _ _ => true | _ => false) = true → (readN h p (P.cellsOf t)).map V.agg = some v → ∃ u, (Instr.loadAt t (.pointer (some c))).run P w = .ok u w ∧ R ρ v u := by
      intro d hu hd hs
      cases hread : readN h p (P.cellsOf t) with
      | none => rw [hread] at hs; cases hs
      | some vs =>
        rw [hread] at hs
        cases hs
        obtain ⟨us, hlen, hR, hcell⟩ := read_sound hr hc hread
        have hl := run_loadCells_list (P := P) (w := w) c us hcell
        refine ⟨.agg us.toArray, ?_, _, rfl, hR⟩
        unfold Instr.loadAt loadVar
        have hagg : (isAgg t).run P w = .ok true w := by
          unfold isAgg
          simp only [Sem.run_bind, run_underlying hu, Result.andThen_ok]
          cases d <;> first | (cases hd; done) | rfl
        rw [hlen] at hl
        simp [Instr.sureAddr, hagg, run_sizeOf' hu, hl]
    split at hs
    · rename_i fs hu; exact agg _ hu rfl hs
    · rename_i n e hu; exact agg _ hu rfl hs
    · rename_i d h1 h2 hu
      split at hs
      · rename_i v' hread
        cases hs
        obtain ⟨us, hlen, hR, hcell⟩ := read_sound hr hc hread
        obtain ⟨u, rest, rfl, hRu, _⟩ := hR
        have h0 := hcell 0 u (by simp)
        rw [show c.add 0 = c from by simp [Addr.add]] at h0
        refine ⟨u, ?_, hRu⟩
        have hagg : (isAgg t).run P w = .ok false w := by
          unfold isAgg
          simp only [Sem.run_bind, run_underlying hu, Result.andThen_ok]
          rfl
        unfold Instr.loadAt loadVar
        simp [Instr.sureAddr, hagg, h0]
      · cases hs
    · cases hs
  · cases hs
noncomputable def absStore (P : Program) (t : TypeId) (x v : V) (h : AH) : Option AH :=
  match x with
  | .ptr a => if (P.info? t).isSome ∧ v.cells.length = P.cellsOf t then writeN h a v.cells else none
  | _ => none
theorem store_sound {P : Program} {ρ : Rho} {h h' : AH} {w : World} {t : TypeId} {x v : V} {a b : Value} (hr : HR ρ h w) (hx : R ρ x a) (hv : R ρ v b) (hs : absStore P t x v h = some h') :
    ∃ w', (Instr.storeAt t a b).run P w = .ok () w' ∧ HR ρ h' w' ∧ Step ρ h w ρ h' w' := by
  unfold absStore at hs
  split at hs
  · rename_i p
    split at hs
    · rename_i hc
      obtain ⟨i, hi⟩ := Option.isSome_iff_exists.1 hc.1
      obtain ⟨c, rfl, hcc⟩ := hx
      obtain ⟨k, _, _, _, _, _, hall, _⟩ := writeN_inv hs
      have hb : v.isBad = false := by cases v <;> first | rfl | (simp [V.cells, V.cell] at hall)
      have hR := R_cells_list hv hb
      obtain ⟨w', g1, g2, g3⟩ := write_sound P hr hcc hR hs
      refine ⟨w', ?_, g2, g3⟩
      have hl := hR.length
      rw [hc.2, Array.length_toList] at hl
      unfold Instr.storeAt storeVar
      simp [Instr.sureAddr, run_sizeOf hi, ← hl, g1]
    · cases hs
  · cases hs
end Go.Proofs.YtbeohojepniioaaDoor.Ev
