/-
  From a run over small memories to a contract that serves over any: functions that read rows of numbers and hand back plain values. No program in sight. No condition.
-/
import Derived.Test.YtbeohojepniioaaDoorEwK
set_option linter.unusedVariables false
set_option linter.unusedSimpArgs false
namespace Go.Proofs.YtbeohojepniioaaDoor.Ev
open Go

/-- A value that leads nowhere. -/
def Flat (v : V) : Prop := ∀ ρ ρ' u, R ρ v u → R ρ' v u
theorem flat_list {l : List V} (h : ∀ v ∈ l, Flat v) : ∀ (ρ ρ' : Rho) (us : List Value), RL ρ l us → RL ρ' l us := by
  induction l with
  | nil => intro ρ ρ' us hR; exact hR
  | cons v l ih =>
    rintro ρ ρ' us ⟨z, zs, rfl, h1, h2⟩
    exact ⟨z, zs, rfl, h v (by simp) ρ ρ' z h1, ih (fun x hx => h x (by simp [hx])) ρ ρ' zs h2⟩
theorem flat_int (k : IntKind) (n : Int) : Flat (.int k n) := fun _ _ _ h => h
theorem flat_bool (b : Bool) : Flat (.bool b) := fun _ _ _ h => h
theorem flat_str (s : List Nat) : Flat (.str s) := fun _ _ _ h => h
theorem flat_agg {l : List V} (h : ∀ v ∈ l, Flat v) : Flat (.agg l) := by
  rintro ρ ρ' u ⟨xs, rfl, hR⟩
  exact ⟨xs, rfl, flat_list h ρ ρ' _ hR⟩
theorem flat_tuple {l : List V} (h : ∀ v ∈ l, Flat v) : Flat (.tuple l) := by
  rintro ρ ρ' u ⟨xs, rfl, hR⟩
  exact ⟨xs, rfl, flat_list h ρ ρ' _ hR⟩
theorem flat_ints (k : IntKind) (l : List Int) : Flat (.agg (l.map (V.int k))) := flat_agg (by
  intro v hv
  obtain ⟨n, _, rfl⟩ := List.mem_map.1 hv
  exact flat_int k n)
theorem flat_call {P : Program} {ρ : Rho} {h : AH} {w : World} {f : FuncId} {args' : Array Value} {v : V} (hr : HR ρ h w) (hv : Flat v) (hc : Calls P f args' w fun e w' => ∃ u ρ', e = .returned u ∧ R ρ' v u ∧ Same w w') :
    Calls P f args' w fun e w' => ∃ u ρ', e = .returned u ∧ R ρ' v u ∧ HR ρ' h w' ∧ Step ρ h w ρ' h w' := by
  refine hc.mono ?_
  rintro e w' ⟨u, ρ', rfl, h1, h2⟩
  exact ⟨u, ρ, rfl, hv ρ' ρ u h1, hr.same h2, h2.step ρ h⟩

/-! ## Rows of numbers -/
noncomputable def intsOf (k : IntKind) : List V → Option (List Int)
  | [] => some []
  | .int k' n :: l => if k' = k then (intsOf k l).map fun r => n :: r else none
  | _ :: _ => none
theorem intsOf_spec {k : IntKind} : ∀ {vs : List V} {ns : List Int}, intsOf k vs = some ns → vs = ns.map (V.int k) := by
  intro vs
  induction vs with
  | nil => intro ns h; cases h; rfl
  | cons v vs ih =>
    intro ns h
    cases v <;> try (cases h; done)
    rename_i k' n
    unfold intsOf at h
    split at h
    · rename_i hk
      obtain ⟨r, h1, h2⟩ := map_some h
      subst h2 hk
      rw [ih h1]; rfl
    · cases h
theorem intsOf_map (k : IntKind) : ∀ ns : List Int, intsOf k (ns.map (V.int k)) = some ns := by
  intro ns
  induction ns with
  | nil => rfl
  | cons n ns ih =>
    show (if k = k then (intsOf k (ns.map (V.int k))).map (fun r => n :: r) else none) = _
    rw [if_pos rfl, ih]; rfl
theorem RL_ints {ρ : Rho} {k : IntKind} : ∀ {ns : List Int} {us : List Value}, RL ρ (ns.map (V.int k)) us → us = ns.map (Value.int k) := by
  intro ns
  induction ns with
  | nil => intro us h; exact h
  | cons n ns ih =>
    rintro us ⟨z, zs, rfl, h1, h2⟩
    rw [ih h2, show z = _ from h1]; rfl
theorem ints_RL (ρ : Rho) (k : IntKind) : ∀ ns : List Int, RL ρ (ns.map (V.int k)) (ns.map (Value.int k)) := by
  intro ns
  induction ns with
  | nil => exact rfl
  | cons n ns ih => exact ⟨_, _, rfl, rfl, ih⟩
/-- What is read is a window. -/
theorem fits_of_read {ρ : Rho} {h : AH} {w : World} (hr : HR ρ h w) {a : A} {cb S n : Nat} {sh : Int} {k : IntKind} {ns : List Int} (hread : readN h a n = some (ns.map (V.int k))) (hρ : ρ a.b a.L = some (cb, sh, S)) (hsh : sh ≤ a.o) (g : Nat) :
    ns.length = n ∧ ∃ e, Tab.Fits ⟨g, ns.map (V.int k), e⟩ ⟨cb, ((a.o : Int) - sh).toNat, S⟩ w := by
  obtain ⟨us, hlen, hR, hcell⟩ := read_sound hr ⟨cb, sh, S, hρ, hsh, rfl⟩ hread
  have hus := RL_ints hR
  have hn : ns.length = n := by rw [← hlen, hus, List.length_map]
  refine ⟨hn, ?_⟩
  rw [readN_eq] at hread
  cases hk : h.get a.b with
  | none => rw [hk] at hread; cases hread
  | some kb =>
    rw [hk] at hread
    simp only [Option.bind_some] at hread
    split at hread
    case isFalse => cases hread
    rename_i hc
    obtain ⟨c, lo, hi, g1, g2, g3, _, _⟩ := hr.blk _ _ _ _ _ _ hk hρ hc.1
    refine ⟨kb.e, c, lo, hi, g1, g2, by simp only [List.length_map]; omega, fun ρ' j v hv => ?_⟩
    rw [List.getElem?_map] at hv
    cases hj : ns[j]? with
    | none => rw [hj] at hv; cases hv
    | some x =>
      rw [hj] at hv
      cases hv
      refine ⟨.int k x, ?_, rfl⟩
      have := hcell j (.int k x) (by rw [hus, List.getElem?_map, hj]; rfl)
      unfold World.cell? Addr.add at this
      by_cases hj0 : j = 0
      · subst hj0
        simpa [g1] using this
      · simpa [hj0, g1] using this

/-! ## Slices that a call has made -/
/-- A block that came to be on the way, taken up as a block of its own. -/
theorem adopt {ρ : Rho} {h : AH} {w w' : World} (hr : HR ρ h w) (hs : Same w w') (k : Blk) {cb S : Nat} {sh : Int} (hcb : w.heap.size ≤ cb) (hlt : cb < w'.heap.size) (hblk : ∀ ρ', BlkOK ρ' k k.cells.n cb sh S w') :
    ∃ ρ', HR ρ' (h.add k) w' ∧ Step ρ h w ρ' (h.add k) w' ∧ ρ' h.next k.cells.n = some (cb, sh, S) := by
  have hno : ∀ L y, ρ h.next L = some y → False := fun L y hy => absurd (hr.fresh _ _ _ hy) (Nat.lt_irrefl _)
  have hle : ρ.le (ρ.put h.next k.cells.n (cb, sh, S)) := Rho.le_put (hno _)
  refine ⟨ρ.put h.next k.cells.n (cb, sh, S), ⟨?_, ?_, ?_, ?_, ?_, ?_⟩, ?_, Rho.put_same _ _ _ _⟩
  · intro b L x hx
    rcases Rho.put_inv hx with ⟨rfl, _⟩ | hx
    · exact Nat.lt_succ_self _
    · exact Nat.lt_succ_of_lt (hr.fresh _ _ _ hx)
  · intro b k' hk'
    rw [AH.get_add] at hk'
    by_cases hb : b = h.next
    · subst hb; exact Nat.lt_succ_self _
    · rw [if_neg hb] at hk'; exact Nat.lt_succ_of_lt (hr.lives _ _ hk')
  · intro b L cb' x hx
    rcases Rho.put_inv hx with ⟨_, _, hy⟩ | hx
    · cases hy; exact hlt
    · exact Nat.lt_of_lt_of_le (hr.bound _ _ _ _ hx) hs.size
  · intro b L b' L' cb' x x' k' hx hx' hk' hro'
    rcases Rho.put_inv hx with ⟨e1, e2, hy⟩ | gx <;> rcases Rho.put_inv hx' with ⟨e1', e2', hy'⟩ | gx'
    · cases hy; cases hy'; exact ⟨e1.trans e1'.symm, rfl⟩
    · cases hy; have := hr.bound _ _ _ _ gx'; omega
    · cases hy'; have := hr.bound _ _ _ _ gx; omega
    · rw [AH.get_add, if_neg (by have := hr.fresh _ _ _ gx; omega)] at hk'
      exact hr.inj _ _ _ _ _ _ _ _ gx gx' hk' hro'
  · intro b k' L x hk' hx
    rw [AH.get_add] at hk'
    by_cases hb : b = h.next
    · subst hb; rw [if_pos rfl] at hk'; cases hk'
      rcases Rho.put_inv hx with ⟨_, rfl, _⟩ | hx
      · exact Nat.le_refl _
      · exact absurd hx (fun hh => hno _ _ hh)
    · rw [if_neg hb] at hk'
      rcases Rho.put_inv hx with ⟨rfl, _⟩ | hx
      · exact absurd rfl hb
      · exact hr.top _ _ _ _ hk' hx
  · intro b k' L cb' sh' S' hk' hx hm
    rw [AH.get_add] at hk'
    by_cases hb : b = h.next
    · subst hb; rw [if_pos rfl] at hk'; cases hk'
      rcases Rho.put_inv hx with ⟨_, rfl, hy⟩ | hx
      · cases hy; exact hblk _
      · exact absurd hx (fun hh => hno _ _ hh)
    · rw [if_neg hb] at hk'
      rcases Rho.put_inv hx with ⟨rfl, _⟩ | hx
      · exact absurd rfl hb
      · exact (hr.blk _ _ _ _ _ _ hk' hx hm).mono hle (hs.heap _ (hr.bound _ _ _ _ hx))
  · refine ⟨hle, ?_, ?_, Nat.le_succ _, hs.os, hs.tape, hs.output, hs.size, fun i hi _ => hs.heap i hi, Nat.le_refl _, ?_⟩
    · intro b L cb' x hx hlt'
      rcases Rho.put_inv hx with ⟨_, _, hy⟩ | hx
      · cases hy; omega
      · exact ⟨L, x, hx⟩
    · intro b k' hk' hb
      rw [AH.get_add, if_neg (by omega)] at hk'
      exact ⟨k', hk', rfl⟩
    · intro b _ hb
      rw [AH.get_add, if_neg (by omega)]

/-- The cells of a slice that a run has made: it begins at its block's head, the block is new, may be written, nothing in it is frozen. -/
noncomputable def outS (e m : Nat) (r : Option (V × AH)) : Option (List V) :=
  match r with
  | some (.slice a n _ _ z, h) =>
    match h.get a.b with
    | some k => bif Nat.beq a.o 0 && (Nat.beq a.L n && (Nat.beq k.cells.n n && (Nat.ble k.minL n && (Nat.beq k.fz 0 && (Nat.ble m a.b && (Nat.beq k.e e && (Nat.beq z 1 && !k.ro))))))) then readN h a n else none
    | none => none
  | _ => none
theorem outS_spec {e m : Nat} {r : Option (V × AH)} {vs : List V} (h : outS e m r = some vs) : ∃ b n cap ex h' k, r = some (.slice ⟨b, n, 0⟩ n cap ex 1, h') ∧ h'.get b = some k ∧ k.cells.n = n ∧ k.minL ≤ n ∧ k.fz = 0 ∧ m ≤ b ∧ k.e = e ∧ k.ro = false ∧ readN h' ⟨b, n, 0⟩ n = some vs := by
  unfold outS at h
  split at h
  case h_2 => cases h
  rename_i a n cap ex z h'
  split at h
  case h_2 => cases h
  rename_i k hk
  cases hc : (Nat.beq a.o 0 && (Nat.beq a.L n && (Nat.beq k.cells.n n && (Nat.ble k.minL n && (Nat.beq k.fz 0 && (Nat.ble m a.b && (Nat.beq k.e e && (Nat.beq z 1 && !k.ro)))))))) with
  | false => rw [hc] at h; cases h
  | true =>
    rw [hc] at h
    simp only [Bool.and_eq_true, Bool.not_eq_true'] at hc
    obtain ⟨c1, c2, c3, c4, c5, c6, c7, c8, c9⟩ := hc
    obtain ⟨b, L, o⟩ := a
    obtain rfl : o = 0 := Nat.eq_of_beq_eq_true c1
    obtain rfl : L = n := Nat.eq_of_beq_eq_true c2
    obtain rfl : z = 1 := Nat.eq_of_beq_eq_true c8
    exact ⟨b, L, cap, ex, h', k, rfl, hk, Nat.eq_of_beq_eq_true c3, Nat.le_of_ble_eq_true c4, Nat.eq_of_beq_eq_true c5, Nat.le_of_ble_eq_true c6, Nat.eq_of_beq_eq_true c7, c9, h⟩
/-- What such a call hands over. -/
noncomputable def newS (e : Nat) (vs : List V) (h : AH) : V × AH := (.slice ⟨h.next, vs.length, 0⟩ vs.length vs.length false 1, h.add ⟨Arr.ofList vs, 0, 0, false, e⟩)
theorem slice_call {E : Env} (ok : E.OK) {N f : Nat} {l : List Tab} {pl : Nat → Spot} {m : Nat} {w : World} {args : List V} {args' : List Value} {e : Nat} {vs : List V} {ρ : Rho} {h : AH} (hr : HR ρ h w) (hn : ∀ t ∈ l, t.g < m) (hf : ∀ t ∈ l, t.Fits (pl t.g) w)
    (hg : ∀ g L, E.G g = some L → ∃ t, tabOf l g = some t ∧ t.vs.length = L ∧ (pl g).cb = g ∧ (pl g).off = 0) (hR : RL (tabsRho l pl) args args') (hvs : ∀ v ∈ vs, Flat v) (hrun : outS e m (runC E N f args (tabsH m l)) = some vs) :
    Calls E.P f args'.toArray w fun x w' => ∃ u ρ', x = .returned u ∧ R ρ' (newS e vs h).1 u ∧ HR ρ' (newS e vs h).2 w' ∧ Step ρ h w ρ' (newS e vs h).2 w' := by
  obtain ⟨b, n, cap, ex, h', k, h1, h2, h3, h4, h5, h6, h7, h8, h9⟩ := outS_spec hrun
  refine (tab_calls ok hn hf hg hR h1).mono ?_
  rintro x w' ⟨u, ρ1, rfl, g1, ⟨g2, g3⟩, g4, g5⟩
  obtain ⟨cb, sh, S, cc, rfl, q1, q2, q3, q4, q5, q6⟩ := g1
  simp only at q1 q2 q6
  obtain ⟨us, hlen, hRL, hcell⟩ := read_sound g4 ⟨cb, sh, S, q1, q2, rfl⟩ h9
  obtain ⟨cs, lo, hi, f1, f2, f3, f4, f5⟩ := g4.blk _ _ _ _ _ _ h2 q1 h4
  obtain ⟨f6, f7, f8⟩ := f5 h8
  have hsh : sh = 0 := by omega
  subst hsh
  have hvl : vs.length = n := by rw [hRL.length, hlen]
  have hnew : w.heap.size ≤ cb := by
    rcases Nat.lt_or_ge cb w.heap.size with hlt | hge
    · obtain ⟨L0, x0, hx⟩ := g3 _ _ _ _ q1 hlt
      obtain ⟨t, ht, _, _⟩ := tabsRho_inv hx
      obtain ⟨ht1, ht2⟩ := tabOf_spec ht
      have := hn t ht1
      omega
    · exact hge
  have hlt : cb < w'.heap.size := (Array.getElem?_eq_some_iff.1 f1).1
  obtain ⟨ρ', k1, k2, k3⟩ := adopt (k := ⟨Arr.ofList vs, 0, 0, false, e⟩) (sh := 0) (S := S) hr g5 hnew hlt (by
    intro ρ'
    refine ⟨cs, lo, hi, by rw [f1, h7], f2, by simp only [Arr.ofList_n]; omega, ?_, fun _ => ⟨fun i _ hi' => f6 i (by rw [h5]; omega) hi', f7, f8⟩⟩
    intro j v _ hj hv
    rw [Arr.get_ofList] at hv
    obtain ⟨y, hy, hRy⟩ := hRL.get hv
    refine ⟨y, ?_, hvs v (List.mem_of_getElem? hv) _ _ _ hRy⟩
    have hc := hcell j y hy
    have e0 : (((0 : Nat) : Int) - 0).toNat = 0 := rfl
    rw [e0] at hc
    unfold World.cell? Addr.add at hc
    by_cases hj0 : j = 0
    · subst hj0
      simpa [f1] using hc
    · simpa [hj0, f1] using hc)
  refine ⟨_, ρ', rfl, ?_, k1, k2⟩
  refine ⟨cb, 0, S, cc, ?_, ?_, Int.le_refl _, by omega, (by intro hh; cases hh), Nat.le_refl _, ?_⟩
  · rw [hvl]
  · rw [Arr.ofList_n] at k3; exact k3
  · exact q6
end Go.Proofs.YtbeohojepniioaaDoor.Ev
