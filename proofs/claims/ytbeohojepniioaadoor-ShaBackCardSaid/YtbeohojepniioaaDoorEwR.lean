/-
  What the own machine's memory holds, told by lists; how the words change it. No program in sight. No condition.
-/
import Derived.Test.YtbeohojepniioaaDoorEwN
set_option linter.unusedVariables false
set_option linter.unusedSimpArgs false
namespace Go.Proofs.YtbeohojepniioaaDoor.Ev
open Go

/-! ## One behind the other -/
theorem bV_some (v : V) (h : AH) (F : V → AH → Res) : bV (some v) h F = F v h := rfl
theorem cV_some (v : V) (h : AH) (F : V → AH → Res) : cV (some (v, h)) F = F v h := rfl
theorem ckI_int (k : IntKind) (n : Int) (K : Int → Res) : ckI k (.int k n) K = K n := if_pos rfl
theorem bI_some (k : IntKind) (n : Int) (h : AH) (F : Int → AH → Res) : bI k (some (.int k n)) h F = F n h := if_pos rfl
theorem cI_some (k : IntKind) (n : Int) (h : AH) (F : Int → AH → Res) : cI k (some (.int k n, h)) F = F n h := if_pos rfl
theorem bB_some (x : Bool) (h : AH) (F : Bool → AH → Res) : bB (some (.bool x)) h F = F x h := rfl
theorem cB_some (x : Bool) (h : AH) (F : Bool → AH → Res) : cB (some (.bool x, h)) F = F x h := rfl
theorem bZ_some (x : List Nat) (h : AH) (F : List Nat → AH → Res) : bZ (some (.str x)) h F = F x h := rfl
theorem cZ_some (x : List Nat) (h : AH) (F : List Nat → AH → Res) : cZ (some (.str x, h)) F = F x h := rfl
theorem bA_some (x : List V) (h : AH) (F : List V → AH → Res) : bA (some (.agg x)) h F = F x h := rfl
theorem cA_some (x : List V) (h : AH) (F : List V → AH → Res) : cA (some (.agg x, h)) F = F x h := rfl
theorem bS_some (h : AH) (F : AH → Res) : bS (some h) F = F h := rfl

/-! ## What stays -/
def AH.WF (h : AH) : Prop := ∀ b k, h.get b = some k → b < h.next
/-- Below n all is as it was. -/
structure Old (n : Nat) (h h' : AH) : Prop where
  next : h.next ≤ h'.next
  get : ∀ b, b < n → h'.get b = h.get b
  low : min h.low n ≤ h'.low
  wf : h'.WF
theorem Old.refl {h : AH} (hw : h.WF) (n : Nat) : Old n h h := ⟨Nat.le_refl _, fun _ _ => rfl, Nat.min_le_left _ _, hw⟩
theorem Old.trans {n : Nat} {a b c : AH} (x : Old n a b) (y : Old n b c) : Old n a c :=
  ⟨Nat.le_trans x.next y.next, fun i hi => (y.get i hi).trans (x.get i hi), by have := x.low; have := y.low; omega, y.wf⟩
theorem Old.weak {n m : Nat} {a b : AH} (x : Old n a b) (hm : m ≤ n) : Old m a b := ⟨x.next, fun i hi => x.get i (by omega), by have := x.low; omega, x.wf⟩

/-! ## Blocks -/
def Cells (h : AH) (b e : Nat) (cs : List V) : Prop := ∃ k, h.get b = some k ∧ k.cells.n = cs.length ∧ (∀ j, k.cells.get j = cs[j]?) ∧ k.ro = false ∧ k.fz = 0 ∧ k.minL ≤ cs.length ∧ k.e = e ∧ cs.all V.cell = true
theorem Cells.lt {h : AH} {b e : Nat} {cs : List V} (hc : Cells h b e cs) (hw : h.WF) : b < h.next := let ⟨k, h1, _⟩ := hc; hw b k h1
theorem Cells.mono {h h' : AH} {b e : Nat} {cs : List V} (hc : Cells h b e cs) (hg : h'.get b = h.get b) : Cells h' b e cs := let ⟨k, h1, h2⟩ := hc; ⟨k, hg.trans h1, h2⟩
theorem readN_of {h : AH} {a : A} {k : Blk} {n : Nat} {cs : List V} (hk : h.get a.b = some k) (h1 : k.minL ≤ a.L) (h2 : a.L ≤ k.cells.n) (h3 : a.o + n ≤ a.L) (hl : cs.length = n) (hget : ∀ j v, cs[j]? = some v → k.cells.get (a.o + j) = some v) : readN h a n = some cs := by
  rw [readN_eq, hk]
  simp only [Option.bind_some]
  rw [if_pos ⟨h1, h2, h3⟩, ← hl]
  exact readL_of hget
theorem Cells.read {h : AH} {b e : Nat} {cs : List V} (hc : Cells h b e cs) {L o n : Nat} (hL : L = cs.length) (ho : o + n ≤ cs.length) : readN h ⟨b, L, o⟩ n = some ((cs.drop o).take n) := by
  obtain ⟨k, h1, h2, h3, h4, h5, h6, h7⟩ := hc
  subst hL
  refine readN_of h1 h6 (by simp only; omega) ho (by rw [List.length_take, List.length_drop]; omega) fun j v hj => ?_
  rw [h3]
  have hlt : j < n := by
    have := (List.getElem?_eq_some_iff.1 hj).1
    rw [List.length_take] at this
    omega
  rw [List.getElem?_take_of_lt hlt, List.getElem?_drop] at hj
  exact hj
theorem Cells.read1 {h : AH} {b e : Nat} {cs : List V} (hc : Cells h b e cs) {L o : Nat} (hL : L = cs.length) {v : V} (hv : cs[o]? = some v) : readN h ⟨b, L, o⟩ 1 = some [v] := by
  have hlt := (List.getElem?_eq_some_iff.1 hv).1
  rw [hc.read hL (by omega)]
  congr 1
  rw [List.take_one, List.head?_drop, hv]; rfl
theorem Cells.write {h : AH} {b e : Nat} {cs : List V} (hc : Cells h b e cs) (hw : h.WF) {L o : Nat} (hL : L = cs.length) {vs : List V} (hv : vs.all V.cell = true) (ho : o + vs.length ≤ cs.length) :
    ∃ h', writeN h ⟨b, L, o⟩ vs = some h' ∧ Cells h' b e (putL vs o cs) ∧ h'.next = h.next ∧ h'.low = min h.low b ∧ (∀ b', b' ≠ b → h'.get b' = h.get b') ∧ h'.WF := by
  obtain ⟨k, h1, h2, h3, h4, h5, h6, h7, h8⟩ := hc
  subst hL
  have e1 : writeN h ⟨b, cs.length, o⟩ vs = some ⟨h.next, Nat.min h.low b, h.m.set b ⟨setL vs o k.cells, cs.length, k.fz, k.ro, k.e⟩⟩ := by
    have e : writeN h ⟨b, cs.length, o⟩ vs = Option.rec (motive := fun _ => Option AH) none (fun k => bif Nat.beq cs.length k.cells.n && (Nat.ble k.minL cs.length && (Nat.ble k.fz o && (Nat.ble (o + vs.length) cs.length && (vs.all V.cell && not k.ro)))) then
      some ⟨h.next, Nat.min h.low b, h.m.set b ⟨setL vs o k.cells, cs.length, k.fz, k.ro, k.e⟩⟩ else none) (h.get b) := rfl
    rw [e, h1]
    have c1 : Nat.beq cs.length k.cells.n = true := by rw [h2]; simp
    have c2 : Nat.ble k.minL cs.length = true := Nat.ble_eq_true_of_le h6
    have c3 : Nat.ble k.fz o = true := by rw [h5]; exact Nat.ble_eq_true_of_le (Nat.zero_le _)
    have c4 : Nat.ble (o + vs.length) cs.length = true := Nat.ble_eq_true_of_le ho
    simp only [c1, c2, c3, c4, hv, h4, Bool.not_false, Bool.and_self, cond_true]
  refine ⟨_, e1, ⟨⟨setL vs o k.cells, cs.length, k.fz, k.ro, k.e⟩, by rw [AH.get_set, if_pos rfl], ?_, ?_, h4, h5, ?_, h7, ?_⟩, rfl, rfl, fun b' hb' => by rw [AH.get_set, if_neg hb'], ?_⟩
  · simp only; rw [setL_n, h2]; simp only [putL, List.length_append, List.length_take, List.length_drop]; omega
  · intro j
    simp only
    rw [get_setL _ _ _ _ (by omega), h3]
    unfold putL
    by_cases hj : o ≤ j ∧ j < o + vs.length
    · rw [if_pos hj, List.append_assoc, List.getElem?_append_right (by rw [List.length_take]; omega), List.length_take, Nat.min_eq_left (by omega), List.getElem?_append_left (by omega)]
    · rw [if_neg hj]
      by_cases hj2 : j < o
      · rw [List.append_assoc, List.getElem?_append_left (by rw [List.length_take]; omega), List.getElem?_take_of_lt hj2]
      · rw [List.append_assoc, List.getElem?_append_right (by rw [List.length_take]; omega), List.length_take, Nat.min_eq_left (by omega), List.getElem?_append_right (by omega), List.getElem?_drop]
        congr 1
        omega
  · simp only [putL, List.length_append, List.length_take, List.length_drop]; omega
  · have hall : ∀ x ∈ cs, x.cell = true := List.all_eq_true.1 h8
    rw [List.all_eq_true]
    intro x hx
    simp only [putL, List.mem_append] at hx
    rcases hx with (hx | hx) | hx
    · exact hall x (List.mem_of_mem_take hx)
    · exact List.all_eq_true.1 hv x hx
    · exact hall x (List.mem_of_mem_drop hx)
  · intro b' k' hk'
    rw [AH.get_set] at hk'
    by_cases hb : b' = b
    · subst hb; exact hw _ _ h1
    · rw [if_neg hb] at hk'; exact hw _ _ hk'
theorem putL_one (v : V) (o : Nat) (cs : List V) (ho : o < cs.length) : putL [v] o cs = cs.set o v := by
  unfold putL
  simp only [List.length_cons, List.length_nil, Nat.zero_add]
  rw [List.set_eq_take_append_cons_drop, if_pos ho, List.append_assoc]; rfl
theorem putL_all (vs cs : List V) (h : vs.length = cs.length) : putL vs 0 cs = vs := by
  unfold putL
  simp [h]
/-- A new block. -/
theorem add_cells {h : AH} (hw : h.WF) (c : Arr) (e : Nat) {cs : List V} (hn : c.n = cs.length) (hg : ∀ j, c.get j = cs[j]?) (ha : cs.all V.cell = true) :
    Cells (h.add ⟨c, 0, 0, false, e⟩) h.next e cs ∧ (h.add ⟨c, 0, 0, false, e⟩).next = h.next + 1 ∧ Old h.next h (h.add ⟨c, 0, 0, false, e⟩) := by
  refine ⟨⟨_, by rw [AH.get_add, if_pos rfl], hn, hg, rfl, rfl, Nat.zero_le _, rfl, ha⟩, rfl, ⟨Nat.le_succ _, fun b hb => by rw [AH.get_add, if_neg (by omega)], Nat.min_le_left _ _, ?_⟩⟩
  intro b k hk
  rw [AH.get_add] at hk
  by_cases hb : b = h.next
  · subst hb; exact Nat.lt_succ_self _
  · rw [if_neg hb] at hk; exact Nat.lt_succ_of_lt (hw _ _ hk)
theorem al_cells {h : AH} (hw : h.WF) (zs : List V) (e : Nat) (hz : zs.all V.cell = true) (h0 : zs ≠ []) : Cells (al zs e h).2 h.next e zs ∧ (al zs e h).1 = .ptr ⟨h.next, zs.length, 0⟩ ∧ (al zs e h).2.next = h.next + 1 ∧ Old h.next h (al zs e h).2 := by
  obtain ⟨h1, h2, h3⟩ := add_cells hw (Arr.make zs.length zs) e (cs := zs) rfl (fun j => by
    rw [Arr.get_make]
    by_cases hj : j < zs.length
    · rw [if_pos hj, Nat.mod_eq_of_lt hj]
    · rw [if_neg hj, List.getElem?_eq_none (by omega)]) hz
  exact ⟨h1, rfl, h2, h3⟩

/-! ## Words over blocks -/
theorem ld_of {h : AH} {a : A} {v : V} (hr : readN h a 1 = some [v]) : ld (.ptr a) h = some v := by simp only [ld, hr]
theorem ldA_of {h : AH} {a : A} {n : Nat} {cs : List V} (hr : readN h a n = some cs) : ldA n (.ptr a) h = some (.agg cs) := by simp only [ldA, hr]; rfl
theorem ixA_of {n z : Nat} {a : A} {i : Int} (h0 : 0 ≤ i) (h1 : i < n) : ixA n z (.ptr a) i = some (.ptr ⟨a.b, a.L, a.o + i.toNat * z⟩) := by
  simp only [ixA]
  rw [if_pos ⟨h0, h1, trivial⟩]
theorem st_of {h h' : AH} {a : A} {v : V} {n : Nat} (hn : v.cells.length = n) (hw : writeN h a v.cells = some h') : st n (.ptr a) v h = some h' := by
  simp only [st]
  rw [if_pos ⟨trivial, hn⟩, hw]

/-! ## Slices that are read -/
/-- n elements of z cells each; cs: all their cells. -/
def Sl (z : Nat) (h : AH) (v : V) (n : Nat) (cs : List V) : Prop :=
  cs.length = n * z ∧ ((n = 0 ∧ (v = .nilslice ∨ v = .loose)) ∨ ∃ a cap ex, v = .slice a n cap ex z ∧ n ≤ cap ∧ readN h a (n * z) = some cs)
theorem readN_alive {h : AH} {a : A} {n : Nat} {cs : List V} (hr : readN h a n = some cs) : ∃ k, h.get a.b = some k ∧ k.minL ≤ a.L ∧ a.L ≤ k.cells.n ∧ a.o + n ≤ a.L ∧ readL k.cells n a.o = some cs := by
  rw [readN_eq] at hr
  cases hk : h.get a.b with
  | none => rw [hk] at hr; cases hr
  | some k =>
    rw [hk] at hr
    simp only [Option.bind_some] at hr
    split at hr
    · rename_i hc; exact ⟨k, rfl, hc.1, hc.2.1, hc.2.2, hr⟩
    · cases hr
theorem readN_len {h : AH} {a : A} {n : Nat} {cs : List V} (hr : readN h a n = some cs) : cs.length = n := let ⟨_, _, _, _, _, h5⟩ := readN_alive hr; (readL_spec h5).1
theorem readN_part {h : AH} {a : A} {n : Nat} {cs : List V} (hr : readN h a n = some cs) {o m : Nat} (ho : o + m ≤ n) : readN h ⟨a.b, a.L, a.o + o⟩ m = some ((cs.drop o).take m) := by
  obtain ⟨k, h1, h2, h3, h4, h5⟩ := readN_alive hr
  obtain ⟨h6, h7⟩ := readL_spec h5
  refine readN_of h1 h2 h3 (by simp only; omega) (by rw [List.length_take, List.length_drop]; omega) fun j v hj => ?_
  have hlt : j < m := by
    have := (List.getElem?_eq_some_iff.1 hj).1
    rw [List.length_take] at this
    omega
  rw [List.getElem?_take_of_lt hlt, List.getElem?_drop] at hj
  have := h7 (o + j) v hj
  simp only
  rw [Nat.add_assoc]
  exact this
theorem readN_mono {h h' : AH} {a : A} {n : Nat} {cs : List V} (hr : readN h a n = some cs) (hg : h'.get a.b = h.get a.b) : readN h' a n = some cs := by rw [readN_eq] at hr ⊢; rw [hg]; exact hr
theorem Sl.mono {z : Nat} {h h' : AH} {v : V} {n : Nat} {cs : List V} {m : Nat} (hs : Sl z h v n cs) (hw : h.WF) (hm : ∀ b, b < h.next → h'.get b = h.get b) : Sl z h' v n cs := by
  obtain ⟨h1, h2 | ⟨a, cap, ex, h2, h3, h4⟩⟩ := hs
  · exact ⟨h1, .inl h2⟩
  · obtain ⟨k, hk, _⟩ := readN_alive h4
    exact ⟨h1, .inr ⟨a, cap, ex, h2, h3, readN_mono h4 (hm _ (hw _ _ hk))⟩⟩
theorem Sl.old {z : Nat} {h h' : AH} {v : V} {n : Nat} {cs : List V} (hs : Sl z h v n cs) (hw : h.WF) (ho : Old h.next h h') : Sl z h' v n cs := Sl.mono (m := 0) hs hw ho.get
theorem Sl.len {z : Nat} {h : AH} {v : V} {n : Nat} {cs : List V} (hs : Sl z h v n cs) : lenS v = some (.int .i64 n) := by
  obtain ⟨h1, ⟨rfl, rfl | rfl⟩ | ⟨a, cap, ex, rfl, h3, h4⟩⟩ := hs <;> rfl
theorem Sl.ix {z : Nat} {h : AH} {v : V} {n : Nat} {cs : List V} (hs : Sl z h v n cs) {i : Int} (h0 : 0 ≤ i) (hi : i < n) : ∃ a, ixS z v i = some (.ptr a) ∧ readN h a z = some ((cs.drop (i.toNat * z)).take z) := by
  obtain ⟨h1, ⟨rfl, _⟩ | ⟨a, cap, ex, rfl, h3, h4⟩⟩ := hs
  · omega
  · refine ⟨⟨a.b, a.L, a.o + i.toNat * z⟩, ?_, readN_part h4 ?_⟩
    · simp only [ixS]
      rw [if_pos ⟨h0, hi, trivial⟩]
    · have : (i.toNat + 1) * z ≤ n * z := Nat.mul_le_mul_right z (by omega)
      rw [Nat.add_mul] at this
      omega
theorem Sl.ix1 {h : AH} {v : V} {n : Nat} {cs : List V} (hs : Sl 1 h v n cs) {i : Int} (h0 : 0 ≤ i) (hi : i < n) {x : V} (hx : cs[i.toNat]? = some x) : ∃ a, ixS 1 v i = some (.ptr a) ∧ readN h a 1 = some [x] := by
  obtain ⟨a, h1, h2⟩ := hs.ix h0 hi
  refine ⟨a, h1, h2.trans ?_⟩
  congr 1
  rw [Nat.mul_one, List.take_one, List.head?_drop, hx]; rfl
/-- A part of a slice. -/
theorem Sl.cut {z : Nat} {h : AH} {v : V} {n : Nat} {cs : List V} (hs : Sl z h v n cs) (hz : 0 < z) {lo hi : Option V} {l u : Nat} (hhi : (hi = none ∧ u = n) ∨ hi = some (.int .i64 u)) (hlo : (lo = none ∧ l = 0) ∨ lo = some (.int .i64 l)) (hlu : l ≤ u) (hun : u ≤ n) :
    ∃ v', slS z v lo hi none = some v' ∧ Sl z h v' (u - l) ((cs.drop (l * z)).take ((u - l) * z)) := by
  have hlen : ((cs.drop (l * z)).take ((u - l) * z)).length = (u - l) * z := by
    rw [List.length_take, List.length_drop, hs.1]
    have : u * z ≤ n * z := Nat.mul_le_mul_right z hun
    have e : (u - l) * z = u * z - l * z := Nat.sub_mul u l z
    omega
  have bhi : ∀ lim, u ≤ lim → bnd hi n lim = some u := by
    intro lim hl
    rcases hhi with ⟨rfl, rfl⟩ | rfl
    · rfl
    · show (if 0 ≤ (u : Int) ∧ (u : Int) ≤ lim then some (u : Int).toNat else none) = _
      rw [if_pos (by omega)]; simp
  have blo : bnd lo 0 u = some l := by
    rcases hlo with ⟨rfl, rfl⟩ | rfl
    · rfl
    · show (if 0 ≤ (l : Int) ∧ (l : Int) ≤ u then some (l : Int).toNat else none) = _
      rw [if_pos (by omega)]; simp
  obtain ⟨h1, ⟨rfl, h2⟩ | ⟨a, cap, ex, rfl, h3, h4⟩⟩ := hs
  · obtain rfl : u = 0 := by omega
    obtain rfl : l = 0 := by omega
    have b0 := bhi 0 (Nat.le_refl _)
    rcases h2 with rfl | rfl
    · exact ⟨.nilslice, by simp only [slS, b0, blo, if_pos], hlen, .inl ⟨rfl, .inl rfl⟩⟩
    · exact ⟨.loose, by simp only [slS, b0, blo, if_pos], hlen, .inl ⟨rfl, .inr rfl⟩⟩
  · have bc := bhi cap (by omega)
    have hrd : readN h ⟨a.b, a.L, a.o + l * z⟩ ((u - l) * z) = some ((cs.drop (l * z)).take ((u - l) * z)) := readN_part h4 (by
      have : u * z ≤ n * z := Nat.mul_le_mul_right z hun
      have e : (u - l) * z = u * z - l * z := Nat.sub_mul u l z
      have e2 : l * z ≤ u * z := Nat.mul_le_mul_right z hlu
      omega)
    have hcut : slS z (.slice a n cap ex z) lo hi none = (if ex then some (if cap = l then .slice a (u - l) (cap - l) true z else .slice ⟨a.b, a.L, a.o + l * z⟩ (u - l) (cap - l) true z) else if l < cap then some (.slice ⟨a.b, a.L, a.o + l * z⟩ (u - l) (cap - l) false z) else some .loose) := by
      simp only [slS, and_self, if_true, cutV, bc, blo]
    rw [hcut]
    cases ex with
    | true =>
      by_cases hcl : cap = l
      · simp only [if_true, if_pos hcl]
        refine ⟨_, rfl, hlen, .inr ⟨a, cap - l, true, rfl, by omega, ?_⟩⟩
        have h0 : u - l = 0 := by omega
        rw [h0, Nat.zero_mul, List.take_zero]
        have := readN_part h4 (o := 0) (m := 0) (by omega)
        simpa using this
      · simp only [if_true, if_neg hcl]
        exact ⟨_, rfl, hlen, .inr ⟨_, _, _, rfl, by omega, hrd⟩⟩
    | false =>
      by_cases hcl : l < cap
      · simp only [Bool.false_eq_true, if_false, if_pos hcl]
        exact ⟨_, rfl, hlen, .inr ⟨_, _, _, rfl, by omega, hrd⟩⟩
      · simp only [Bool.false_eq_true, if_false, if_neg hcl]
        exact ⟨_, rfl, hlen, .inl ⟨by omega, .inr rfl⟩⟩
theorem Sl.arr {h : AH} {v : V} {n m : Nat} {cs : List V} {z : Nat} (hs : Sl z h v n cs) (hm : m ≤ n) (h0 : 0 < m) : ∃ a, arrAt m v = some (.ptr a) ∧ readN h a (m * z) = some (cs.take (m * z)) := by
  obtain ⟨h1, ⟨rfl, _⟩ | ⟨a, cap, ex, rfl, h3, h4⟩⟩ := hs
  · omega
  · refine ⟨a, ?_, ?_⟩
    · simp only [arrAt]; rw [if_pos hm]
    · have := readN_part h4 (o := 0) (m := m * z) (by have := Nat.mul_le_mul_right z hm; omega)
      simpa using this

/-! ## Bytes -/
def byteL (l : List Nat) : List V := l.map byteV
theorem byteL_len (l : List Nat) : (byteL l).length = l.length := List.length_map ..
theorem byteL_get (l : List Nat) (i : Nat) : (byteL l)[i]? = (l[i]?).map byteV := List.getElem?_map ..
theorem byteL_cell (l : List Nat) : (byteL l).all V.cell = true := by
  rw [List.all_eq_true]; intro x hx
  obtain ⟨n, _, rfl⟩ := List.mem_map.1 hx
  rfl
theorem byteL_append (a b : List Nat) : byteL (a ++ b) = byteL a ++ byteL b := List.map_append ..
theorem byteL_drop (l : List Nat) (n : Nat) : (byteL l).drop n = byteL (l.drop n) := (List.map_drop ..).symm
theorem byteL_take (l : List Nat) (n : Nat) : (byteL l).take n = byteL (l.take n) := (List.map_take ..).symm
theorem byteL_set (l : List Nat) (i n : Nat) : (byteL l).set i (byteV n) = byteL (l.set i n) := (List.map_set ..).symm
theorem toBytes_byteL : ∀ {l : List Nat}, (∀ x ∈ l, x < 256) → toBytes (byteL l) = some l := by
  intro l
  induction l with
  | nil => intro _; rfl
  | cons a l ih =>
    intro h
    show (match byteOf (byteV a), toBytes (byteL l) with | some n, some r => some (n :: r) | _, _ => none) = _
    rw [ih (fun x hx => h x (by simp [hx]))]
    have ha := h a (by simp)
    show (match some (Nat.mod ((a : Int)).toNat 256), some l with | some n, some r => some (n :: r) | _, _ => none) = _
    have : Nat.mod ((a : Int)).toNat 256 = a := by
      show ((a : Int)).toNat % 256 = a
      rw [Int.toNat_natCast, Nat.mod_eq_of_lt ha]
    rw [this]
def Bs (h : AH) (v : V) (l : List Nat) : Prop := Sl 1 h v l.length (byteL l) ∧ ∀ x ∈ l, x < 256
theorem Bs.toS {h : AH} {v : V} {l : List Nat} (hb : Bs h v l) : toS v h = some (.str l, h) := by
  obtain ⟨⟨h1, h2⟩, h3⟩ := hb
  rcases h2 with ⟨h0, rfl | rfl⟩ | ⟨a, cap, ex, rfl, h4, h5⟩
  · rw [List.eq_nil_of_length_eq_zero h0]; rfl
  · rw [List.eq_nil_of_length_eq_zero h0]; rfl
  · show (absToStr (.slice a l.length cap ex 1) h).map (fun v => (v, h)) = _
    rw [Nat.mul_one] at h5
    simp only [absToStr, h5, Option.bind_some, toBytes_byteL h3, Option.map_some]
theorem Bs.old {h h' : AH} {v : V} {l : List Nat} (hb : Bs h v l) (hw : h.WF) (ho : Old h.next h h') : Bs h' v l := ⟨hb.1.old hw ho, hb.2⟩
theorem Bs.ld {h : AH} {v : V} {l : List Nat} (hb : Bs h v l) {i : Int} (h0 : 0 ≤ i) (hi : i < l.length) : ∃ a, ixS 1 v i = some (.ptr a) ∧ Ev.ld (.ptr a) h = some (.int .u8 (l.getD i.toNat 0 : Nat)) := by
  have hlt : i.toNat < l.length := by omega
  obtain ⟨a, h1, h2⟩ := hb.1.ix1 h0 hi (x := byteV l[i.toNat]) (by rw [byteL_get, List.getElem?_eq_getElem hlt]; rfl)
  exact ⟨a, h1, by rw [ld_of h2, List.getD_eq_getElem?_getD, List.getElem?_eq_getElem hlt]; rfl⟩
theorem Bs.cut {h : AH} {v : V} {ns : List Nat} (hb : Bs h v ns) {lo hi : Option V} {l u : Nat} (hhi : (hi = none ∧ u = ns.length) ∨ hi = some (.int .i64 u)) (hlo : (lo = none ∧ l = 0) ∨ lo = some (.int .i64 l)) (hlu : l ≤ u) (hun : u ≤ ns.length) :
    ∃ v', slS 1 v lo hi none = some v' ∧ Bs h v' ((ns.drop l).take (u - l)) := by
  obtain ⟨v', h1, h2⟩ := hb.1.cut (by omega) hhi hlo hlu hun
  refine ⟨v', h1, ?_, fun x hx => hb.2 x (List.mem_of_mem_drop (List.mem_of_mem_take hx))⟩
  have hl : ((ns.drop l).take (u - l)).length = u - l := by rw [List.length_take, List.length_drop]; omega
  rw [hl]
  simpa [byteL_drop, byteL_take] using h2
theorem Bs.arr {h : AH} {v : V} {l : List Nat} (hb : Bs h v l) {m : Nat} (hm : m ≤ l.length) (h0 : 0 < m) : ∃ a, arrAt m v = some (.ptr a) ∧ readN h a m = some (byteL (l.take m)) := by
  obtain ⟨a, h1, h2⟩ := hb.1.arr hm h0
  exact ⟨a, h1, by simpa [byteL_take] using h2⟩

/-! ## Slices that grow -/
/-- A slice that nobody else holds: its block begins at n0 or behind it. -/
def Own (n0 z e : Nat) (h : AH) (v : V) (n : Nat) (cs : List V) : Prop :=
  cs.length = n * z ∧ ((n = 0 ∧ v = .nilslice) ∨ ∃ b cap ex rest, v = .slice ⟨b, cap * z, 0⟩ n cap ex z ∧ n0 ≤ b ∧ n ≤ cap ∧ (cs ++ rest).length = cap * z ∧ (ex = false → n = cap) ∧ Cells h b e (cs ++ rest))
theorem Own.sl {n0 z e : Nat} {h : AH} {v : V} {n : Nat} {cs : List V} (ho : Own n0 z e h v n cs) : Sl z h v n cs := by
  obtain ⟨h1, ⟨rfl, rfl⟩ | ⟨b, cap, ex, rest, rfl, h2, h3, h4, h5, h6⟩⟩ := ho
  · exact ⟨h1, .inl ⟨rfl, .inl rfl⟩⟩
  · refine ⟨h1, .inr ⟨_, _, _, rfl, h3, ?_⟩⟩
    rw [h6.read h4.symm (by rw [Nat.zero_add, h4]; exact Nat.mul_le_mul_right z h3), List.drop_zero, ← h1, List.take_left']
    rfl
theorem Own.mono {n0 z e : Nat} {h h' : AH} {v : V} {n : Nat} {cs : List V} (ho : Own n0 z e h v n cs) (hw : h.WF) (hg : ∀ b, b < h.next → h'.get b = h.get b) : Own n0 z e h' v n cs := by
  obtain ⟨h1, h2 | ⟨b, cap, ex, rest, rfl, h2, h3, h4, h5, h6⟩⟩ := ho
  · exact ⟨h1, .inl h2⟩
  · exact ⟨h1, .inr ⟨b, cap, ex, rest, rfl, h2, h3, h4, h5, h6.mono (hg _ (h6.lt hw))⟩⟩
def notIn (v : V) (b : Nat) : Prop := match v with
  | .slice a _ _ _ _ => b ≠ a.b
  | _ => True
theorem app_own {n0 z e by_ : Nat} {h : AH} {v x : V} {n m : Nat} {cs ns : List V} (ho : Own n0 z e h v n cs) (hw : h.WF) (hn0 : n0 ≤ h.next) (hz : 0 < z) (hx : srcLen x = some m) (hc : srcCells x z m h = some ns) (hl : ns.length = m * z) (hcell : ns.all V.cell = true) (hcap : capW by_ (n + m) = true) :
    ∃ v' h', app z by_ e v x h = some (v', h') ∧ Own n0 z e h' v' (n + m) (cs ++ ns) ∧ Old n0 h h' ∧ (∀ b, b < h.next → notIn v b → h'.get b = h.get b) ∧ (∀ b, b < h.next → notIn v b → notIn v' b) := by
  obtain ⟨h1, ⟨rfl, rfl⟩ | ⟨b, cap, ex, rest, rfl, h2, h3, h4, h5, h6⟩⟩ := ho
  · have hcs : cs = [] := List.eq_nil_of_length_eq_zero (by rw [h1, Nat.zero_mul])
    subst hcs
    by_cases hm : m = 0
    · subst hm
      have hns : ns = [] := List.eq_nil_of_length_eq_zero (by rw [hl, Nat.zero_mul])
      subst hns
      refine ⟨.nilslice, h, ?_, ⟨by simp, .inl ⟨rfl, rfl⟩⟩, Old.refl hw _, fun _ _ _ => rfl, fun _ _ h => h⟩
      simp only [app, hx, hc, hl, if_true]
    · obtain ⟨g1, g2, g3⟩ := add_cells hw (Arr.ofList ns) e (cs := ns) (Arr.ofList_n ns) (Arr.get_ofList ns) hcell
      rw [Nat.zero_add] at hcap
      refine ⟨.slice ⟨h.next, ns.length, 0⟩ m m false z, _, ?_, ⟨by simp [hl], .inr ⟨h.next, m, false, [], ?_, hn0, by omega, by simp [hl], fun _ => by omega, by simpa using g1⟩⟩, g3.weak hn0, fun b hb _ => g3.get b hb, fun b hb _ => (show b ≠ h.next by omega)⟩
      · simp only [app, hx, hc, hl, if_true, if_neg hm, hcap, hcell, and_self]
      · rw [hl, Nat.zero_add]
  · have hlt := h6.lt hw
    by_cases hfit : n + m ≤ cap
    · by_cases hm : m = 0
      · subst hm
        have hns : ns = [] := List.eq_nil_of_length_eq_zero (by rw [hl, Nat.zero_mul])
        subst hns
        refine ⟨_, h, ?_, ⟨by simp [h1], .inr ⟨b, cap, ex, rest, rfl, h2, h3, by simpa using h4, h5, by simpa using h6⟩⟩, Old.refl hw _, fun _ _ _ => rfl, fun _ _ h => h⟩
        simp only [app, hx, hc, hl, if_true, Nat.add_zero, if_pos h3]
      · have hrest : rest.length = (cap - n) * z := by
          rw [List.length_append, h1] at h4
          rw [Nat.sub_mul]; omega
        have hroom : m * z ≤ rest.length := by rw [hrest]; exact Nat.mul_le_mul_right z (by omega)
        obtain ⟨h', w1, w2, w3, w4, w5, w6⟩ := h6.write hw (L := cap * z) (o := n * z) h4.symm hcell (by rw [List.length_append, h1, hl]; omega)
        have hput : putL ns (n * z) (cs ++ rest) = (cs ++ ns) ++ rest.drop (m * z) := by
          unfold putL
          rw [← h1, List.take_left' rfl, hl, List.drop_append]
          simp
        rw [hput] at w2
        refine ⟨.slice ⟨b, cap * z, 0⟩ (n + m) cap ex z, h', ?_, ⟨by rw [List.length_append, h1, hl, Nat.add_mul], .inr ⟨b, cap, ex, rest.drop (m * z), rfl, h2, hfit, ?_, (fun he => by have := h5 he; omega), w2⟩⟩, ⟨by omega, fun b' hb' => w5 b' (by omega), by rw [w4]; omega, w6⟩, fun b' _ hb' => w5 b' hb', fun _ _ h => h⟩
        · simp only [app, hx, hc, hl, if_true, if_pos hfit, if_neg hm, Nat.zero_add, w1]; rfl
        · rw [List.length_append, List.length_append, h1, hl, List.length_drop]
          rw [List.length_append, h1] at h4
          omega
    · cases ex with
      | true =>
        have hrd : readN h ⟨b, cap * z, 0⟩ (n * z) = some cs := by
          rw [h6.read h4.symm (by rw [Nat.zero_add, h4]; exact Nat.mul_le_mul_right z h3), List.drop_zero, ← h1, List.take_left' rfl]
        have hcc : cs.all V.cell = true := by
          obtain ⟨_, _, _, _, _, _, _, _, h8⟩ := h6
          rw [List.all_append, Bool.and_eq_true] at h8
          exact h8.1
        have hall : (cs ++ ns).all V.cell = true := by rw [List.all_append, hcc, hcell]; rfl
        obtain ⟨g1, g2, g3⟩ := add_cells hw (Arr.ofList (cs ++ ns)) e (cs := cs ++ ns) (Arr.ofList_n _) (Arr.get_ofList _) hall
        have hlen : (cs ++ ns).length = (n + m) * z := by rw [List.length_append, h1, hl, Nat.add_mul]
        refine ⟨.slice ⟨h.next, (cs ++ ns).length, 0⟩ (n + m) (n + m) false z, _, ?_, ⟨hlen, .inr ⟨h.next, n + m, false, [], by rw [hlen], hn0, by omega, by simpa using hlen, fun _ => rfl, by simpa using g1⟩⟩, g3.weak hn0, fun b hb _ => g3.get b hb, fun b hb _ => (show b ≠ h.next by omega)⟩
        simp only [app, hx, hc, hl, if_true, if_neg hfit, hcap, hcell, and_self, hrd, hcc]
      | false =>
        have hnc := h5 rfl
        subst hnc
        obtain ⟨k, k1, k2, k3, k4, k5, k6, k7, k8⟩ := id h6
        have hrest : rest = [] := by
          rw [List.length_append, h1] at h4
          exact List.eq_nil_of_length_eq_zero (by omega)
        subst hrest
        simp only [List.append_nil] at k2 k3 k6 k8 h4
        have hlen : (cs ++ ns).length = (n + m) * z := by rw [List.length_append, h1, hl, Nat.add_mul]
        have hcond : n * z = k.cells.n ∧ 0 + n * z = n * z ∧ k.ro = false ∧ k.minL ≤ n * z ∧ k.fz ≤ n * z ∧ k.e = e := ⟨by rw [k2, h1], by omega, k4, by omega, by omega, k7⟩
        refine ⟨.slice ⟨b, n * z + ns.length, 0⟩ (n + m) (n + m) false z, h.grow b k ns, ?_, ⟨hlen, .inr ⟨b, n + m, false, [], by rw [hl, Nat.add_mul], h2, Nat.le_refl _, by simpa using hlen, fun _ => rfl, ?_⟩⟩, ?_, ?_, fun _ _ h => h⟩
        · simp only [app, hx, hc, hl, if_true, if_neg hfit, hcap, hcell, and_self, Bool.false_eq_true, if_false, k1]
          rw [if_pos (by simpa using hcond)]
        · rw [List.append_nil]
          refine ⟨k.more ns, by rw [AH.get_grow, if_pos rfl], ?_, ?_, k4, k5, ?_, k7, by rw [List.all_append, k8, hcell]; rfl⟩
          · show (Arr.pushAll ns k.cells).n = _
            rw [Arr.pushAll_n, k2, List.length_append]
          · intro j
            show (Arr.pushAll ns k.cells).get j = _
            rw [Arr.get_pushAll, k2, k3]
            by_cases hj : j < cs.length
            · rw [if_pos hj, List.getElem?_append_left hj]
            · rw [if_neg hj, List.getElem?_append_right (by omega)]
          · show k.minL ≤ _
            rw [List.length_append]; omega
        · refine ⟨Nat.le_refl _, fun b' hb' => by rw [AH.get_grow, if_neg (by omega)], ?_, ?_⟩
          · show min h.low n0 ≤ Nat.min h.low b
            have : Nat.min h.low b = min h.low b := rfl
            omega
          · intro b' k' hk'
            rw [AH.get_grow] at hk'
            by_cases hb : b' = b
            · subst hb; exact hlt
            · rw [if_neg hb] at hk'; exact hw _ _ hk'
        · intro b' _ hb'
          rw [AH.get_grow, if_neg hb']
end Go.Proofs.YtbeohojepniioaaDoor.Ev
