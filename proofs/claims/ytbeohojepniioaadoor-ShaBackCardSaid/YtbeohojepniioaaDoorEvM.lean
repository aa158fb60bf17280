/-
  Memory's operations of the own machine, and that the model's operations do the same. No program in sight. No condition.
-/
import Derived.Test.YtbeohojepniioaaDoorEvV
set_option linter.unusedVariables false
set_option linter.unusedSimpArgs false
namespace Go.Proofs.YtbeohojepniioaaDoor.Ev
open Go

namespace V
def cells : V → List V
  | .agg cs => cs
  | v => [v]
/-- May the value stand in one cell? -/
def cell : V → Bool
  | .agg _ | .tuple _ | .bad => false
  | _ => true
def isBad : V → Bool
  | .bad => true
  | _ => false
end V

theorem R_cell {ρ : Rho} {v : V} {u : Value} (h : R ρ v u) (hc : v.cell = true) : u.oneCell' = true := by
  cases v <;> simp only [V.cell, Bool.false_eq_true] at hc
  case bool => rw [show u = _ from h]; rfl
  case int => rw [show u = _ from h]; rfl
  case str => obtain ⟨t, rfl, _⟩ := h; rfl
  case ptr => obtain ⟨c, rfl, _⟩ := h; rfl
  case nilptr => rw [show u = _ from h]; rfl
  case slice => obtain ⟨cb, sh, S, cc, rfl, _⟩ := h; rfl
  case nilslice => rw [show u = _ from h]; rfl
  case loose => obtain ⟨c, cc, rfl⟩ := h; rfl
  case func => obtain ⟨xs, ys, rfl, _⟩ := h; rfl
  case nilFunc => rw [show u = _ from h]; rfl
  case iface => obtain ⟨y, rfl, _⟩ := h; rfl
  case nilIface => rw [show u = _ from h]; rfl
theorem R_cells_list {ρ : Rho} {v : V} {u : Value} (h : R ρ v u) (hb : v.isBad = false) : RL ρ v.cells u.cells.toList := by
  cases v
  case bad => cases hb
  case agg cs => obtain ⟨xs, rfl, h⟩ := h; exact h
  case tuple cs => obtain ⟨xs, rfl, h'⟩ := h; exact ⟨_, [], rfl, ⟨xs, rfl, h'⟩, rfl⟩
  case bool => rw [show u = _ from h]; exact ⟨_, [], rfl, rfl, rfl⟩
  case int => rw [show u = _ from h]; exact ⟨_, [], rfl, rfl, rfl⟩
  case str => obtain ⟨t, rfl, h'⟩ := h; exact ⟨_, [], rfl, ⟨t, rfl, h'⟩, rfl⟩
  case ptr => obtain ⟨c, rfl, h'⟩ := h; exact ⟨_, [], rfl, ⟨c, rfl, h'⟩, rfl⟩
  case nilptr => rw [show u = _ from h]; exact ⟨_, [], rfl, rfl, rfl⟩
  case slice => obtain ⟨cb, sh, S, cc, rfl, h'⟩ := h; exact ⟨_, [], rfl, ⟨cb, sh, S, cc, rfl, h'⟩, rfl⟩
  case nilslice => rw [show u = _ from h]; exact ⟨_, [], rfl, rfl, rfl⟩
  case loose => obtain ⟨c, cc, rfl⟩ := h; exact ⟨_, [], rfl, ⟨c, cc, rfl⟩, rfl⟩
  case func => obtain ⟨xs, ys, rfl, h'⟩ := h; exact ⟨_, [], rfl, ⟨xs, ys, rfl, h'⟩, rfl⟩
  case nilFunc => rw [show u = _ from h]; exact ⟨_, [], rfl, rfl, rfl⟩
  case iface => obtain ⟨y, rfl, h'⟩ := h; exact ⟨_, [], rfl, ⟨y, rfl, h'⟩, rfl⟩
  case nilIface => rw [show u = _ from h]; exact ⟨_, [], rfl, rfl, rfl⟩
theorem RL_oneCell {ρ : Rho} : ∀ {vs : List V} {us : List Value}, RL ρ vs us → vs.all V.cell = true → ∀ u ∈ us, u.oneCell' = true := by
  intro vs
  induction vs with
  | nil => intro us h _ u hu; rw [show us = [] from h] at hu; cases hu
  | cons v vs ih =>
    rintro us ⟨z, zs, rfl, hz, h⟩ hc u hu
    simp only [List.all_cons, Bool.and_eq_true] at hc
    cases hu with
    | head => exact R_cell hz hc.1
    | tail _ hu => exact ih h hc.2 u hu

/-! ## Reading -/
noncomputable def readL (c : Arr) (n : Nat) : Nat → Option (List V) :=
  Nat.rec (fun _ => some []) (fun _ ih o => Option.rec none (fun v => Option.rec none (fun l => some (v :: l)) (ih (Nat.succ o))) (c.get o)) n
theorem readL_zero (c : Arr) (o : Nat) : readL c 0 o = some [] := rfl
theorem readL_succ (c : Arr) (n o : Nat) : readL c (n + 1) o = (c.get o).bind fun v => (readL c n (o + 1)).map (v :: ·) := by
  have h : readL c (n + 1) o = Option.rec (motive := fun _ => Option (List V)) none (fun v => Option.rec (motive := fun _ => Option (List V)) none (fun l => some (v :: l)) (readL c n (o + 1))) (c.get o) := rfl
  rw [h]
  cases c.get o with
  | none => rfl
  | some v => cases readL c n (o + 1) <;> rfl
theorem readL_spec {c : Arr} : ∀ {n o : Nat} {l : List V}, readL c n o = some l → l.length = n ∧ ∀ j v, l[j]? = some v → c.get (o + j) = some v := by
  intro n
  induction n with
  | zero => intro o l h; rw [readL_zero] at h; cases h; exact ⟨rfl, fun j v hv => by simp at hv⟩
  | succ n ih =>
    intro o l h
    rw [readL_succ] at h
    cases hg : c.get o with
    | none => rw [hg] at h; cases h
    | some v =>
      rw [hg] at h
      cases hr : readL c n (o + 1) with
      | none => rw [hr] at h; cases h
      | some l' =>
        rw [hr] at h
        cases h
        obtain ⟨h1, h2⟩ := ih hr
        refine ⟨by simp [h1], fun j x hx => ?_⟩
        cases j with
        | zero => simp at hx; subst hx; exact hg
        | succ j => simp at hx; have := h2 j x hx; rw [show o + (j + 1) = o + 1 + j from by omega]; exact this
theorem readL_of {c : Arr} : ∀ {l : List V} {o : Nat}, (∀ j v, l[j]? = some v → c.get (o + j) = some v) → readL c l.length o = some l := by
  intro l
  induction l with
  | nil => intro o _; rfl
  | cons v l ih =>
    intro o h
    have h0 : c.get o = some v := h 0 v (by simp)
    rw [List.length_cons, readL_succ, h0, ih (fun j x hx => by have := h (j + 1) x (by simpa using hx); rw [show o + 1 + j = o + (j + 1) from by omega]; exact this)]
    rfl

noncomputable def readN (h : AH) (a : A) (n : Nat) : Option (List V) :=
  Option.rec none (fun k => bif Nat.ble k.minL a.L && (Nat.ble a.L k.cells.n && Nat.ble (Nat.add a.o n) a.L) then readL k.cells n a.o else none) (h.get a.b)
theorem readN_eq (h : AH) (a : A) (n : Nat) : readN h a n = (h.get a.b).bind fun k => if k.minL ≤ a.L ∧ a.L ≤ k.cells.n ∧ a.o + n ≤ a.L then readL k.cells n a.o else none := by
  have e : readN h a n = Option.rec (motive := fun _ => Option (List V)) none (fun k => bif Nat.ble k.minL a.L && (Nat.ble a.L k.cells.n && Nat.ble (a.o + n) a.L) then readL k.cells n a.o else none) (h.get a.b) := rfl
  rw [e]
  cases h.get a.b with
  | none => rfl
  | some k =>
    show (bif _ then _ else _) = (if _ then _ else _)
    by_cases hc : k.minL ≤ a.L ∧ a.L ≤ k.cells.n ∧ a.o + n ≤ a.L
    · rw [if_pos hc, Nat.ble_eq_true_of_le hc.1, Nat.ble_eq_true_of_le hc.2.1, Nat.ble_eq_true_of_le hc.2.2]; rfl
    · rw [if_neg hc]
      cases h1 : Nat.ble k.minL a.L && (Nat.ble a.L k.cells.n && Nat.ble (a.o + n) a.L) with
      | false => rfl
      | true => simp only [Bool.and_eq_true, Nat.ble_eq] at h1; exact absurd h1 hc

theorem read_sound {ρ : Rho} {h : AH} {w : World} (hr : HR ρ h w) {a : A} {c : Addr} (ha : At ρ a c) {n : Nat} {vs : List V} (hv : readN h a n = some vs) :
    ∃ us : List Value, us.length = n ∧ RL ρ vs us ∧ ∀ j u, us[j]? = some u → w.cell? (c.add j) = some u := by
  rw [readN_eq] at hv
  cases hk : h.get a.b with
  | none => rw [hk] at hv; cases hv
  | some k =>
    rw [hk] at hv
    simp only [Option.bind_some] at hv
    split at hv
    case isFalse => cases hv
    rename_i hc
    obtain ⟨h1, h2, h3⟩ := hc
    obtain ⟨cb, sh, S, hρ, hsh, rfl⟩ := ha
    obtain ⟨cs, lo, hi, g1, g2, g3, g4, _⟩ := hr.blk _ k _ cb sh S hk hρ h1
    obtain ⟨hlen, hget⟩ := readL_spec hv
    have hsz : n ≠ 0 → ((a.o : Int) - sh).toNat + n ≤ cs.size := fun hn => by omega
    by_cases hn : n = 0
    · subst hn
      exact ⟨[], rfl, by rw [List.eq_nil_of_length_eq_zero hlen]; exact rfl, fun j u hu => by simp at hu⟩
    refine ⟨(cs.toList.drop (((a.o : Int) - sh).toNat)).take n, ?_, ?_, ?_⟩
    · have := hsz hn
      rw [List.length_take, List.length_drop, Array.length_toList]; omega
    · refine RL.of_get ?_ ?_
      · have := hsz hn
        rw [hlen, List.length_take, List.length_drop]
        have e : cs.toList.length = cs.size := Array.length_toList
        omega
      · intro i x y hx hy
        have hi' : i < n := by rw [← hlen]; exact (List.getElem?_eq_some_iff.1 hx).1
        obtain ⟨u, hu, hR⟩ := g4 (a.o + i) x (by omega) (by omega) (hget i x hx)
        rw [List.getElem?_take_of_lt hi', List.getElem?_drop, Array.getElem?_toList, show ((a.o : Int) - sh).toNat + i = (((a.o + i : Nat) : Int) - sh).toNat from by omega, hu] at hy
        cases hy
        exact hR
    · intro j u hu
      have hj : j < n := by
        have := (List.getElem?_eq_some_iff.1 hu).1
        rw [List.length_take] at this
        omega
      rw [List.getElem?_take_of_lt hj, List.getElem?_drop, Array.getElem?_toList] at hu
      unfold Addr.add World.cell?
      by_cases hj0 : j = 0
      · subst hj0; simp only [if_true, g1, Option.isSome_none, Bool.false_eq_true, if_false]; simpa using hu
      · simp only [if_neg hj0, g1, Option.isSome_none, Bool.false_eq_true, if_false]; exact hu

/-! ## Writing -/
noncomputable def setL (vs : List V) : Nat → Arr → Arr := List.rec (fun _ c => c) (fun v _ ih o c => ih (Nat.succ o) (c.set o v)) vs
theorem setL_cons (v : V) (vs : List V) (o : Nat) (c : Arr) : setL (v :: vs) o c = setL vs (o + 1) (c.set o v) := rfl
theorem setL_n (vs : List V) : ∀ (o : Nat) (c : Arr), (setL vs o c).n = c.n := by
  induction vs with
  | nil => intro o c; rfl
  | cons v vs ih => intro o c; rw [setL_cons, ih, Arr.set_n]
theorem get_setL (vs : List V) : ∀ (o : Nat) (c : Arr) (j : Nat), o + vs.length ≤ c.n → (setL vs o c).get j = if o ≤ j ∧ j < o + vs.length then vs[j - o]? else c.get j := by
  induction vs with
  | nil => intro o c j _; rw [if_neg (by simp only [List.length_nil]; omega)]; rfl
  | cons v vs ih =>
    intro o c j hle
    simp only [List.length_cons] at hle
    rw [setL_cons, ih _ _ _ (by rw [Arr.set_n]; omega), Arr.get_set]
    by_cases h1 : o + 1 ≤ j ∧ j < o + 1 + vs.length
    · rw [if_pos h1, if_pos (by simp only [List.length_cons]; omega), show j - o = (j - (o + 1)) + 1 from by omega, List.getElem?_cons_succ]
    · rw [if_neg h1]
      by_cases h2 : j = o
      · subst h2; rw [if_pos rfl, if_pos (by omega), if_pos (by simp only [List.length_cons]; omega)]; simp
      · rw [if_neg h2, if_neg (by simp only [List.length_cons]; omega)]

noncomputable def writeN (h : AH) (a : A) (vs : List V) : Option AH :=
  Option.rec none (fun k => bif Nat.beq a.L k.cells.n && (Nat.ble k.minL a.L && (Nat.ble k.fz a.o && (Nat.ble (Nat.add a.o vs.length) a.L && (vs.all V.cell && not k.ro)))) then
    some ⟨h.next, Nat.min h.low a.b, h.m.set a.b ⟨setL vs a.o k.cells, a.L, k.fz, k.ro, k.e⟩⟩ else none) (h.get a.b)
theorem writeN_inv {h h' : AH} {a : A} {vs : List V} (hw : writeN h a vs = some h') : ∃ k, h.get a.b = some k ∧ a.L = k.cells.n ∧ k.minL ≤ a.L ∧ k.fz ≤ a.o ∧ a.o + vs.length ≤ a.L ∧ vs.all V.cell = true ∧ k.ro = false ∧
    h' = ⟨h.next, Nat.min h.low a.b, h.m.set a.b ⟨setL vs a.o k.cells, a.L, k.fz, k.ro, k.e⟩⟩ := by
  have e : writeN h a vs = Option.rec (motive := fun _ => Option AH) none (fun k => bif Nat.beq a.L k.cells.n && (Nat.ble k.minL a.L && (Nat.ble k.fz a.o && (Nat.ble (a.o + vs.length) a.L && (vs.all V.cell && not k.ro)))) then
    some ⟨h.next, Nat.min h.low a.b, h.m.set a.b ⟨setL vs a.o k.cells, a.L, k.fz, k.ro, k.e⟩⟩ else none) (h.get a.b) := rfl
  rw [e] at hw
  cases hk : h.get a.b with
  | none => rw [hk] at hw; cases hw
  | some k =>
    rw [hk] at hw
    change (bif _ then _ else _) = _ at hw
    cases hc : Nat.beq a.L k.cells.n && (Nat.ble k.minL a.L && (Nat.ble k.fz a.o && (Nat.ble (a.o + vs.length) a.L && (vs.all V.cell && not k.ro)))) with
    | false => rw [hc] at hw; cases hw
    | true =>
      rw [hc] at hw
      cases hw
      simp only [Bool.and_eq_true, Nat.ble_eq, Nat.beq_eq, Bool.not_eq_true'] at hc
      obtain ⟨h1, h2, h3, h4, h5, h6⟩ := hc
      exact ⟨k, rfl, h1, h2, h3, h4, h5, h6, rfl⟩

/-- The model's stores into one row. -/
theorem store_run (P : Program) (cb off : Nat) (e : TypeId) (lo hi : Nat) : ∀ (us : List Value) (i : Nat) (w : World) (c : Array Value), w.heap[cb]? = some (.cells c e (lo, hi)) → off + i + us.length ≤ c.size →
    (∀ u ∈ us, u.oneCell' = true) → (∀ j, i ≤ j → j < i + us.length → ¬ (lo ≤ off + j ∧ off + j < hi)) →
    ∃ w' c', (storeCells ⟨cb, off, none⟩ us i).run P w = .ok () w' ∧ w'.heap[cb]? = some (.cells c' e (lo, hi)) ∧ c'.size = c.size ∧
      (∀ j, c'[j]? = if off + i ≤ j ∧ j < off + i + us.length then us[j - (off + i)]? else c[j]?) ∧
      (∀ x, x ≠ cb → w'.heap[x]? = w.heap[x]?) ∧ w'.heap.size = w.heap.size ∧ w'.os = w.os ∧ w'.tape = w.tape ∧ w'.output = w.output := by
  intro us
  induction us with
  | nil =>
    intro i w c hc _ _ _
    exact ⟨w, c, rfl, hc, rfl, fun j => by rw [if_neg (by simp only [List.length_nil]; omega)], fun _ _ => rfl, rfl, rfl, rfl, rfl⟩
  | cons u us ih =>
    intro i w c hc hs h1 hf
    simp only [List.length_cons] at hs
    have hcell : w.cell? ⟨cb, off + i, none⟩ = some c[off + i] := by
      unfold World.cell?
      simp [hc, Array.getElem?_eq_getElem (show off + i < c.size by omega)]
    have hfz : w.frozen? ⟨cb, off + i, none⟩ = false := by
      unfold World.frozen?
      simp only [hc]
      have := hf i (Nat.le_refl _) (by simp)
      rw [← Bool.not_eq_true]
      intro hh
      simp only [Bool.and_eq_true, decide_eq_true_eq] at hh
      exact this hh
    have hadd : (⟨cb, off, none⟩ : Addr).add i = ⟨cb, off + i, none⟩ := by
      unfold Addr.add
      by_cases h0 : i = 0
      · subst h0; simp
      · simp [h0]
    have hone := h1 u (by simp)
    have hset : (w.setCell ⟨cb, off + i, none⟩ u).heap[cb]? = some (.cells (c.setIfInBounds (off + i) u) e (lo, hi)) := by
      simp [World.setCell, Array.getElem?_modify, hc]
    obtain ⟨w', c', g1, g2, g3, g4, g5, g6, g7, g8, g9⟩ := ih (i + 1) (w.setCell ⟨cb, off + i, none⟩ u) (c.setIfInBounds (off + i) u) hset (by simp; omega) (fun x hx => h1 x (by simp [hx])) (fun j hj hj2 => hf j (by omega) (by simp only [List.length_cons]; omega))
    refine ⟨w', c', ?_, g2, by simpa using g3, ?_, ?_, ?_, ?_, ?_, ?_⟩
    · rw [← g1]
      show ((store ((⟨cb, off, none⟩ : Addr).add i) u).bind fun _ => storeCells ⟨cb, off, none⟩ us (i + 1)).run P w = _
      rw [hadd]
      cases u <;> simp only [Value.oneCell', Bool.false_eq_true] at hone <;> (unfold store; simp only [Sem.bind, Sem.run, hcell, hfz, Bool.false_eq_true, if_false])
    · intro j
      rw [g4 j, List.length_cons]
      by_cases hj : off + (i + 1) ≤ j ∧ j < off + (i + 1) + us.length
      · rw [if_pos hj, if_pos (by omega), show j - (off + i) = (j - (off + (i + 1))) + 1 from by omega, List.getElem?_cons_succ]
      · rw [if_neg hj]
        by_cases hj2 : j = off + i
        · subst hj2
          rw [if_pos (by omega)]
          simp [Array.getElem?_setIfInBounds, show off + i < c.size by omega]
        · rw [if_neg (by omega), Array.getElem?_setIfInBounds, if_neg (by omega)]
    · intro x hx
      rw [g5 x hx]
      simp only [World.setCell, Array.getElem?_modify]
      rw [if_neg (fun h => hx h.symm)]
    · rw [g6]; simp [World.setCell]
    · rw [g7]; rfl
    · rw [g8]; rfl
    · rw [g9]; rfl

theorem AH.get_set (h : AH) (n l b b' : Nat) (k : Blk) : (⟨n, l, h.m.set b k⟩ : AH).get b' = if b' = b then some k else h.get b' := T.get_set _ _ _ _

theorem write_sound {ρ : Rho} {h h' : AH} {w : World} (P : Program) (hr : HR ρ h w) {a : A} {c : Addr} (ha : At ρ a c) {vs : List V} {us : List Value} (hR : RL ρ vs us) (hw : writeN h a vs = some h') :
    ∃ w', (storeCells c us).run P w = .ok () w' ∧ HR ρ h' w' ∧ Step ρ h w ρ h' w' := by
  obtain ⟨k, hk, h1, h2, h3, h4, h5, h6, rfl⟩ := writeN_inv hw
  obtain ⟨cb, sh, S, hρ, hsh, rfl⟩ := ha
  obtain ⟨cs, lo, hi, g1, g2, g3, g4, g5⟩ := hr.blk _ k _ cb sh S hk hρ h2
  have hlen := hR.length
  obtain ⟨w', c', f1, f2, f3, f4, f5, f6, f7, f8, f9⟩ := store_run P cb (((a.o : Int) - sh).toNat) k.e lo hi us 0 w cs g1 (by
    by_cases hz : us.length = 0
    · by_cases hz2 : a.o ≤ a.L <;> omega
    · omega) (RL_oneCell hR h5) (fun j _ hj => (g5 h6).1 (((a.o : Int) - sh).toNat + j) (by omega) (by omega))
  have hget : ∀ b', (⟨h.next, Nat.min h.low a.b, h.m.set a.b ⟨setL vs a.o k.cells, a.L, k.fz, k.ro, k.e⟩⟩ : AH).get b' = if b' = a.b then some ⟨setL vs a.o k.cells, a.L, k.fz, k.ro, k.e⟩ else h.get b' := fun b' => AH.get_set _ _ _ _ _ _
  refine ⟨w', f1, ?_, ?_⟩
  · refine ⟨hr.fresh, ?_, ?_, ?_, ?_, ?_⟩
    · intro b k' hk'
      rw [hget] at hk'
      by_cases hb : b = a.b
      · subst hb; exact hr.lives _ _ hk
      · rw [if_neg hb] at hk'; exact hr.lives _ _ hk'
    · intro b L cb' x hx
      rw [f6]; exact hr.bound _ _ _ _ hx
    · intro b L b' L' cb' x x' k' q1 q2 hk' hro'
      rw [hget] at hk'
      by_cases hb : b = a.b
      · subst hb; exact hr.inj _ _ _ _ _ _ _ _ q1 q2 hk h6
      · rw [if_neg hb] at hk'; exact hr.inj _ _ _ _ _ _ _ _ q1 q2 hk' hro'
    · intro b k' L x hk' hx
      rw [hget] at hk'
      by_cases hb : b = a.b
      · subst hb; rw [if_pos rfl] at hk'; cases hk'; simp only; rw [setL_n]; exact hr.top _ _ _ _ hk hx
      · rw [if_neg hb] at hk'; exact hr.top _ _ _ _ hk' hx
    · intro b k' L cb' sh' S' hk' hx hm
      rw [hget] at hk'
      by_cases hb : b = a.b
      · subst hb
        rw [if_pos rfl] at hk'
        cases hk'
        have hL := hr.top _ _ _ _ hk hx
        simp only at hm
        obtain rfl : L = a.L := by omega
        rw [hρ] at hx
        cases hx
        refine ⟨c', lo, hi, f2, by rw [f3]; exact g2, g3, ?_, g5⟩
        intro j v hj hjL hv
        simp only at hv
        rw [get_setL _ _ _ _ (by omega)] at hv
        rw [f4]
        by_cases hj2 : a.o ≤ j ∧ j < a.o + vs.length
        · rw [if_pos hj2] at hv
          rw [if_pos (by omega), show ((j : Int) - sh).toNat - (((a.o : Int) - sh).toNat + 0) = j - a.o from by omega]
          exact hR.get hv
        · rw [if_neg hj2] at hv
          rw [if_neg (by omega)]
          exact g4 j v hj hjL hv
      · rw [if_neg hb] at hk'
        refine (hr.blk b k' L cb' sh' S' hk' hx hm).mono (Rho.le_refl ρ) (f5 _ ?_)
        rintro rfl
        exact hb (hr.inj _ _ _ _ _ _ _ _ hρ hx hk h6).1.symm
  · refine ⟨Rho.le_refl ρ, fun b L cb' x hx _ => ⟨L, x, hx⟩, ?_, Nat.le_refl _, f7, f8, f9, Nat.le_of_eq f6.symm, ?_, Nat.min_le_left _ _, ?_⟩
    · intro b k' hk' _
      rw [hget] at hk'
      by_cases hb : b = a.b
      · subst hb; rw [if_pos rfl] at hk'; cases hk'; exact ⟨k, hk, rfl⟩
      · rw [if_neg hb] at hk'; exact ⟨k', hk', rfl⟩
    · intro i hi hn
      refine f5 i ?_
      rintro rfl
      exact hn ⟨_, _, _, k, hρ, hk, h6⟩
    · intro b hb _
      have h0 : Nat.min h.low a.b ≤ a.b := Nat.min_le_right h.low a.b
      have hb' : b < Nat.min h.low a.b := hb
      rw [hget, if_neg (by omega)]
end Go.Proofs.YtbeohojepniioaaDoor.Ev
