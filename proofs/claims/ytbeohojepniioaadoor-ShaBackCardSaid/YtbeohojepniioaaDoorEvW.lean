/-
  Conversions between texts and bytes, append and copy: what the own machine makes of them is what the model makes. No program in sight. No condition.
-/
import Derived.Test.YtbeohojepniioaaDoorEvU
set_option linter.unusedVariables false
set_option linter.unusedSimpArgs false
namespace Go.Proofs.YtbeohojepniioaaDoor.Ev
open Go

/-! ## Texts and bytes -/
def byteV (n : Nat) : V := .int .u8 n
def byteOf : V → Option Nat
  | .int .u8 n => some (Nat.mod n.toNat 256)
  | _ => none
def toBytes : List V → Option (List Nat)
  | [] => some []
  | v :: l => match byteOf v, toBytes l with
    | some n, some r => some (n :: r)
    | _, _ => none
theorem byteOf_spec {v : V} {m : Nat} (h : byteOf v = some m) : ∃ n : Int, v = .int .u8 n ∧ m = n.toNat % 256 := by
  unfold byteOf at h
  split at h
  · rename_i n; cases h; exact ⟨n, rfl, rfl⟩
  · cases h
theorem byteV_RL (ρ : Rho) : ∀ l : List UInt8, RL ρ ((l.map UInt8.toNat).map byteV) (l.map fun b => Value.int .u8 b.toNat) := by
  intro l
  induction l with
  | nil => exact rfl
  | cons b l ih => exact ⟨_, _, rfl, rfl, ih⟩
theorem byteV_cell (l : List Nat) : (l.map byteV).all V.cell = true := by
  induction l with
  | nil => rfl
  | cons b l ih => simp only [List.map_cons, List.all_cons, ih, byteV, V.cell, Bool.and_self]
theorem toBytes_spec {ρ : Rho} : ∀ {vs : List V} {us : List Value} {l : List Nat}, toBytes vs = some l → RL ρ vs us → ∃ ns : List Int, us = ns.map (Value.int .u8) ∧ l = ns.map fun n => n.toNat % 256 := by
  intro vs
  induction vs with
  | nil => intro us l h hR; cases h; exact ⟨[], hR, rfl⟩
  | cons v vs ih =>
    rintro us l h ⟨z, zs, rfl, hz, hR⟩
    unfold toBytes at h
    cases hb : byteOf v with
    | none => rw [hb] at h; cases h
    | some n =>
      cases ht : toBytes vs with
      | none => rw [hb, ht] at h; cases h
      | some r =>
        rw [hb, ht] at h
        cases h
        obtain ⟨m, rfl, rfl⟩ := byteOf_spec hb
        obtain ⟨ns, g1, g2⟩ := ih ht hR
        exact ⟨m :: ns, by rw [g1, show z = _ from hz]; rfl, by rw [g2]; rfl⟩
theorem bytes_mod : ∀ ns : List Int, (ns.map fun n => UInt8.ofNat n.toNat).map UInt8.toNat = ns.map fun n => n.toNat % 256 := by
  intro ns
  rw [List.map_map]
  apply List.map_congr_left
  intro n _
  simp

theorem run_chooseCap (P : Program) (w : World) (need old : Nat) (e : TypeId) : ∃ c, (choose (.appendCap need old e)).run P w = .ok c { w with drawn := w.drawn + 1 } ∧ need ≤ c := by
  refine ⟨_, rfl, ?_⟩
  simp only [Question.cut]
  exact Nat.le_add_right _ _

theorem modify_push_last {α : Type} (xs : Array α) (x : α) (f : α → α) : (xs.push x).modify xs.size f = xs.push (f x) := by
  apply Array.ext_getElem?
  intro i
  rw [Array.getElem?_modify, Array.getElem?_push, Array.getElem?_push]
  by_cases h : i = xs.size
  · subst h; simp
  · rw [if_neg (fun e => h e.symm), if_neg h, if_neg h]
noncomputable def absToBytes (e : TypeId) (s : List Nat) (h : AH) : V × AH :=
  (.slice ⟨h.next, s.length, 0⟩ s.length s.length false 1, h.add ⟨Arr.ofList (s.map byteV), 0, 0, false, e⟩)
theorem toBytes_sound {P : Program} {ρ : Rho} {h : AH} {w : World} {e : TypeId} {s : ByteArray} (hr : HR ρ h w) :
    Sim P ρ h w (Conv.stringToBytes e s) (absToBytes e (s.data.toList.map UInt8.toNat) h).1 (absToBytes e (s.data.toList.map UInt8.toNat) h).2 := by
  obtain ⟨c, hc, hle⟩ := run_chooseCap P w s.size 0 e
  have hsz : s.data.toList.length = s.size := by rw [Array.length_toList]; rfl
  let C : Array Value := s.data.map (fun b => Value.int .u8 b.toNat) ++ Array.replicate (c - s.size) (Value.int .u8 0)
  have hC : C.size = c := by
    have : s.data.size = s.size := rfl
    simp only [C, Array.size_append, Array.size_map, Array.size_replicate]; omega
  obtain ⟨ρ', g1, g2, g3⟩ := add_sound (w' := { w with heap := w.heap.push (.cells C e (C.size, C.size + 1)), drawn := w.drawn + 1 }) hr ⟨Arr.ofList ((s.data.toList.map UInt8.toNat).map byteV), 0, 0, false, e⟩ C C.size (C.size + 1) rfl rfl rfl rfl
    (by simp only [Arr.ofList_n, List.length_map, hsz]; omega) (fun j v hv => by
      simp only [Arr.get_ofList] at hv
      obtain ⟨u, hu, hRu⟩ := (byteV_RL ρ s.data.toList).get hv
      refine ⟨u, ?_, hRu⟩
      have hlt := (List.getElem?_eq_some_iff.1 hu).1
      rw [List.length_map, hsz] at hlt
      simp only [C]
      rw [Array.getElem?_append_left (by simp only [Array.size_map]; exact hlt)]
      rw [List.getElem?_map, Array.getElem?_toList] at hu
      rw [Array.getElem?_map]; exact hu) (fun i _ hi => by omega) (Nat.le_succ _)
  refine ⟨.slice (some ⟨w.heap.size, 0, none⟩) s.size c, _, ρ', ?_, ⟨w.heap.size, 0, C.size, c, ?_, ?_, Int.le_refl _, ?_, fun h => absurd h (by simp), Nat.le_refl _, by simp only; omega⟩, g1, g2⟩
  · unfold Conv.stringToBytes
    simp only [Sem.run_bind, hc, Result.andThen_ok, run_newRow, markStringish, run_shape]
    have hshape : (World.shape? { w with heap := w.heap.push (.cells C e), drawn := w.drawn + 1 } w.heap.size) = some (e, C.size) := by
      simp [World.shape?]
    simp only [C] at hshape
    rw [hshape]
    simp only [run_freeze, Result.andThen_ok, Sem.run_pure]
    congr 1
    simp only [World.freeze]
    congr 1
    rw [modify_push_last]
    simp [C]
  · simp only [List.length_map, hsz]; rfl
  · simp only [Arr.ofList_n, List.length_map] at g3 ⊢; exact g3
  · simp only [List.length_map, hsz]; exact hle

/-! ## Bytes and texts -/
noncomputable def absToStr (x : V) (h : AH) : Option V :=
  match x with
  | .nilslice => some (.str [])
  | .loose => some (.str [])
  | .slice a n _ _ _ => (readN h a n).bind fun vs => (toBytes vs).map .str
  | _ => none
theorem run_pushAll (P : Program) (w : World) (f : Value → ByteArray → Sem (ForInStep ByteArray)) (hf : ∀ (n : Int) (s : ByteArray), f (.int .u8 n) s = pure (ForInStep.yield (s.push (UInt8.ofNat n.toNat)))) : ∀ (l : List Int) (s : ByteArray),
    (forIn (l.map (Value.int .u8)) s f).run P w = .ok ⟨s.data ++ (l.map fun n => UInt8.ofNat n.toNat).toArray⟩ w := by
  intro l
  induction l with
  | nil => intro s; simp
  | cons n l ih =>
    intro s
    rw [List.map_cons, List.forIn_cons, hf]
    simp only [Sem.run_bind, Sem.run_pure, Result.andThen_ok]
    rw [ih]
    congr 1
    simp [ByteArray.push]
theorem toStr_sound {P : Program} {ρ : Rho} {h : AH} {w : World} {x v : V} {a : Value} (hr : HR ρ h w) (hx : R ρ x a) (hs : absToStr x h = some v) : ∃ u, (Conv.bytesToString a).run P w = .ok u w ∧ R ρ v u := by
  unfold absToStr at hs
  split at hs
  · cases hs; rw [show a = _ from hx]; exact ⟨.string .empty, rfl, _, rfl, rfl⟩
  · cases hs
    obtain ⟨c, cc, rfl⟩ := hx
    refine ⟨.string .empty, ?_, _, rfl, rfl⟩
    have := run_loadCells_list (P := P) (w := w) c [] (by simp)
    simp only [List.length_nil] at this
    simp [Conv.bytesToString, this]
  · rename_i p n _ _ _
    obtain ⟨cb, sh, S, cc, rfl, h1, h2, _⟩ := hx
    cases hread : readN h p n with
    | none => rw [hread] at hs; cases hs
    | some vs =>
      rw [hread] at hs
      simp only [Option.bind_some] at hs
      cases ht : toBytes vs with
      | none => rw [ht] at hs; cases hs
      | some l =>
        rw [ht] at hs
        cases hs
        obtain ⟨us, hlen, hR, hcell⟩ := read_sound hr ⟨cb, sh, S, h1, h2, rfl⟩ hread
        obtain ⟨ns, g1, g2⟩ := toBytes_spec ht hR
        have hl := run_loadCells_list (P := P) (w := w) _ us hcell
        rw [hlen] at hl
        refine ⟨.string ⟨(ns.map fun n => UInt8.ofNat n.toNat).toArray⟩, ?_, _, rfl, ?_⟩
        · unfold Conv.bytesToString
          subst g1
          simp only [Sem.run_bind, hl, Result.andThen_ok, ← Array.forIn_toList]
          rw [run_pushAll P w _ (fun _ _ => rfl)]
          have e : ByteArray.empty.data = #[] := rfl
          rw [e]
          simp
        · rw [g2, ← bytes_mod]
  · cases hs
end Go.Proofs.YtbeohojepniioaaDoor.Ev
