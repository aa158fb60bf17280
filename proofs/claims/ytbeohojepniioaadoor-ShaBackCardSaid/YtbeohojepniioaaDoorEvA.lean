/-
  New blocks and what append does to a block: the memories still fit. No program in sight. No condition.
-/
import Derived.Test.YtbeohojepniioaaDoorEvM
set_option linter.unusedVariables false
set_option linter.unusedSimpArgs false
namespace Go.Proofs.YtbeohojepniioaaDoor.Ev
open Go

/-- One more place. -/
def Rho.put (ρ : Rho) (b L : Nat) (x : Nat × Int × Nat) : Rho := fun b' L' => if b' = b ∧ L' = L then some x else ρ b' L'
theorem Rho.put_same (ρ : Rho) (b L : Nat) (x : Nat × Int × Nat) : ρ.put b L x b L = some x := by simp [Rho.put]
theorem Rho.put_inv {ρ : Rho} {b L b' L' : Nat} {x y : Nat × Int × Nat} (h : ρ.put b L x b' L' = some y) : (b' = b ∧ L' = L ∧ y = x) ∨ ρ b' L' = some y := by
  unfold Rho.put at h
  split at h
  · rename_i hc; cases h; exact .inl ⟨hc.1, hc.2, rfl⟩
  · exact .inr h
theorem Rho.le_put {ρ : Rho} {b L : Nat} {x : Nat × Int × Nat} (h : ∀ y, ρ b L = some y → False) : ρ.le (ρ.put b L x) := by
  intro b' L' y hy
  unfold Rho.put
  rw [if_neg]
  · exact hy
  · rintro ⟨rfl, rfl⟩; exact h _ hy

noncomputable def AH.add (h : AH) (k : Blk) : AH := ⟨Nat.succ h.next, h.low, h.m.set h.next k⟩
theorem AH.get_add (h : AH) (k : Blk) (b : Nat) : (h.add k).get b = if b = h.next then some k else h.get b := T.get_set _ _ _ _

theorem add_sound {ρ : Rho} {h : AH} {w w' : World} (hr : HR ρ h w) (k : Blk) (C : Array Value) (lo hi : Nat) (hheap : w'.heap = w.heap.push (.cells C k.e (lo, hi))) (hos : w'.os = w.os) (htape : w'.tape = w.tape) (hout : w'.output = w.output)
    (hn : k.cells.n ≤ C.size) (hc : ∀ j v, k.cells.get j = some v → ∃ u, C[j]? = some u ∧ R ρ v u) (hf : ∀ i, k.fz ≤ i → i < C.size → ¬ (lo ≤ i ∧ i < hi)) (hlh : lo ≤ hi) :
    ∃ ρ', HR ρ' (h.add k) w' ∧ Step ρ h w ρ' (h.add k) w' ∧ ρ' h.next k.cells.n = some (w.heap.size, 0, C.size) := by
  have hno : ∀ L y, ρ h.next L = some y → False := fun L y hy => absurd (hr.fresh _ _ _ hy) (Nat.lt_irrefl _)
  have hle : ρ.le (ρ.put h.next k.cells.n (w.heap.size, 0, C.size)) := Rho.le_put (hno _)
  have hsize : w'.heap.size = w.heap.size + 1 := by rw [hheap]; simp
  have hold : ∀ i, i < w.heap.size → w'.heap[i]? = w.heap[i]? := fun i hi => by rw [hheap, Array.getElem?_push, if_neg (by omega)]
  refine ⟨ρ.put h.next k.cells.n (w.heap.size, 0, C.size), ⟨?_, ?_, ?_, ?_, ?_, ?_⟩, ?_, Rho.put_same _ _ _ _⟩
  · intro b L x hx
    rcases Rho.put_inv hx with ⟨rfl, _⟩ | hx
    · exact Nat.lt_succ_self _
    · exact Nat.lt_succ_of_lt (hr.fresh _ _ _ hx)
  · intro b k' hk'
    rw [AH.get_add] at hk'
    by_cases hb : b = h.next
    · subst hb; exact Nat.lt_succ_self _
    · rw [if_neg hb] at hk'; exact Nat.lt_succ_of_lt (hr.lives _ _ hk')
  · intro b L cb x hx
    rcases Rho.put_inv hx with ⟨_, _, hy⟩ | hx
    · cases hy; omega
    · have := hr.bound _ _ _ _ hx; omega
  · intro b L b' L' cb x x' k' hx hx' hk' hro'
    rcases Rho.put_inv hx with ⟨e1, e2, hy⟩ | gx <;> rcases Rho.put_inv hx' with ⟨e1', e2', hy'⟩ | gx'
    · cases hy; cases hy'; exact ⟨e1.trans e1'.symm, rfl⟩
    · cases hy; have := hr.bound _ _ _ _ gx'; omega
    · cases hy'; have := hr.bound _ _ _ _ gx; omega
    · rw [AH.get_add, if_neg (by have := hr.fresh _ _ _ gx; omega)] at hk'
      exact hr.inj _ _ _ _ _ _ _ _ gx gx' hk' hro'
  · intro b k' L x hk' hx
    rw [AH.get_add] at hk'
    by_cases hb : b = h.next
    · subst hb; rw [if_pos rfl] at hk'; cases hk'
      rcases Rho.put_inv hx with ⟨_, rfl, _⟩ | hx
      · exact Nat.le_refl _
      · exact absurd hx (fun hh => hno _ _ hh)
    · rw [if_neg hb] at hk'
      rcases Rho.put_inv hx with ⟨rfl, _⟩ | hx
      · exact absurd rfl hb
      · exact hr.top _ _ _ _ hk' hx
  · intro b k' L cb sh S hk' hx hm
    rw [AH.get_add] at hk'
    by_cases hb : b = h.next
    · subst hb; rw [if_pos rfl] at hk'; cases hk'
      rcases Rho.put_inv hx with ⟨_, rfl, hy⟩ | hx
      · cases hy
        refine ⟨C, lo, hi, by rw [hheap]; simp, rfl, by omega, ?_, fun _ => ⟨fun i hi1 hi2 => hf i (by omega) hi2, hlh, Int.le_refl _⟩⟩
        intro j v _ _ hv
        obtain ⟨u, hu, hR⟩ := hc j v hv
        exact ⟨u, by simpa using hu, hR.mono hle⟩
      · exact absurd hx (fun hh => hno _ _ hh)
    · rw [if_neg hb] at hk'
      rcases Rho.put_inv hx with ⟨rfl, _⟩ | hx
      · exact absurd rfl hb
      · exact (hr.blk _ _ _ _ _ _ hk' hx hm).mono hle (hold _ (hr.bound _ _ _ _ hx))
  · refine ⟨hle, ?_, ?_, Nat.le_succ _, hos, htape, hout, by omega, fun i hi _ => hold i hi, Nat.le_refl _, ?_⟩
    · intro b L cb x hx hlt
      rcases Rho.put_inv hx with ⟨_, _, hy⟩ | hx
      · cases hy; omega
      · exact ⟨L, x, hx⟩
    · intro b k' hk' hb
      rw [AH.get_add, if_neg (by omega)] at hk'
      exact ⟨k', hk', rfl⟩
    · intro b _ hb
      rw [AH.get_add, if_neg (by omega)]

/-- The block after n more cells. -/
noncomputable def Blk.more (k : Blk) (xs : List V) : Blk := ⟨Arr.pushAll xs k.cells, k.minL, k.fz, k.ro, k.e⟩
noncomputable def AH.grow (h : AH) (b : Nat) (k : Blk) (xs : List V) : AH := ⟨h.next, Nat.min h.low b, h.m.set b (k.more xs)⟩
theorem AH.get_grow (h : AH) (b : Nat) (k : Blk) (xs : List V) (b' : Nat) : (h.grow b k xs).get b' = if b' = b then some (k.more xs) else h.get b' := T.get_set _ _ _ _

section
variable {ρ : Rho} {h : AH} {w w' : World} {b L cb S : Nat} {sh : Int} {k : Blk} {xs : List V}

/-- What both ways of an append owe: the new place. -/
theorem grow_core (hr : HR ρ h w) (hk : h.get b = some k) (hL : L = k.cells.n) (hx : xs ≠ []) (hρ : ρ b L = some (cb, sh, S)) (hro : k.ro = false) (x : Nat × Int × Nat)
    (hos : w'.os = w.os) (htape : w'.tape = w.tape) (hout : w'.output = w.output) (hsize : w.heap.size ≤ w'.heap.size)
    (hx1 : x.1 < w'.heap.size) (hx2 : x.1 < w.heap.size → x.1 = cb) (hx3 : x.1 = cb → x.2 = (sh, S))
    (hnew : BlkOK (ρ.put b (L + xs.length) x) (k.more xs) (L + xs.length) x.1 x.2.1 x.2.2 w')
    (hsame : ∀ L0 cb0 sh0 S0, ρ b L0 = some (cb0, sh0, S0) → k.minL ≤ L0 → BlkOK (ρ.put b (L + xs.length) x) (k.more xs) L0 cb0 sh0 S0 w')
    (hother : ∀ i, i < w.heap.size → i ≠ cb → w'.heap[i]? = w.heap[i]?) :
    HR (ρ.put b (L + xs.length) x) (h.grow b k xs) w' ∧ Step ρ h w (ρ.put b (L + xs.length) x) (h.grow b k xs) w' := by
  have hpos : 0 < xs.length := List.length_pos_iff.2 hx
  have hno : ∀ y, ρ b (L + xs.length) = some y → False := fun y hy => by have := hr.top _ _ _ _ hk hy; omega
  have hle : ρ.le (ρ.put b (L + xs.length) x) := Rho.le_put hno
  have hmn : (k.more xs).cells.n = k.cells.n + xs.length := Arr.pushAll_n _ _
  constructor
  · refine ⟨?_, ?_, ?_, ?_, ?_, ?_⟩
    · intro b' L' y hy
      rcases Rho.put_inv hy with ⟨rfl, _⟩ | hy
      · exact hr.lives _ _ hk
      · exact hr.fresh _ _ _ hy
    · intro b' k' hk'
      rw [AH.get_grow] at hk'
      by_cases hb : b' = b
      · subst hb; exact hr.lives _ _ hk
      · rw [if_neg hb] at hk'; exact hr.lives _ _ hk'
    · intro b' L' cb' y hy
      rcases Rho.put_inv hy with ⟨_, _, hy⟩ | hy
      · rw [show cb' = x.1 from by rw [← hy]]; exact hx1
      · exact Nat.lt_of_lt_of_le (hr.bound _ _ _ _ hy) hsize
    · intro b1 L1 b2 L2 c y1 y2 k' h1 h2 hk' hro'
      rcases Rho.put_inv h1 with ⟨i1, j1, e1⟩ | g1 <;> rcases Rho.put_inv h2 with ⟨i2, j2, e2⟩ | g2
      · subst e1; cases e2; exact ⟨i1.trans i2.symm, rfl⟩
      · subst e1
        obtain rfl : c = cb := hx2 (hr.bound _ _ _ _ g2)
        obtain ⟨q1, q2⟩ := hr.inj _ _ _ _ _ _ _ _ hρ g2 hk hro
        exact ⟨i1.trans q1, (hx3 rfl).trans q2⟩
      · subst e2
        obtain rfl : c = cb := hx2 (hr.bound _ _ _ _ g1)
        obtain ⟨q1, q2⟩ := hr.inj _ _ _ _ _ _ _ _ hρ g1 hk hro
        exact ⟨q1.symm.trans i2.symm, q2.symm.trans (hx3 rfl).symm⟩
      · rw [AH.get_grow] at hk'
        by_cases hb : b1 = b
        · subst hb; exact hr.inj _ _ _ _ _ _ _ _ g1 g2 hk hro
        · rw [if_neg hb] at hk'; exact hr.inj _ _ _ _ _ _ _ _ g1 g2 hk' hro'
    · intro b' k' L' y hk' hy
      rw [AH.get_grow] at hk'
      by_cases hb : b' = b
      · subst hb; rw [if_pos rfl] at hk'; cases hk'
        rcases Rho.put_inv hy with ⟨_, rfl, _⟩ | hy
        · omega
        · have := hr.top _ _ _ _ hk hy; omega
      · rw [if_neg hb] at hk'
        rcases Rho.put_inv hy with ⟨rfl, _⟩ | hy
        · exact absurd rfl hb
        · exact hr.top _ _ _ _ hk' hy
    · intro b' k' L' cb' sh' S' hk' hy hm
      rw [AH.get_grow] at hk'
      by_cases hb : b' = b
      · subst hb; rw [if_pos rfl] at hk'; cases hk'
        rcases Rho.put_inv hy with ⟨_, rfl, e⟩ | hy
        · subst e; exact hnew
        · exact hsame _ _ _ _ hy hm
      · rw [if_neg hb] at hk'
        rcases Rho.put_inv hy with ⟨rfl, _⟩ | hy
        · exact absurd rfl hb
        · refine (hr.blk _ _ _ _ _ _ hk' hy hm).mono hle (hother _ (hr.bound _ _ _ _ hy) ?_)
          rintro rfl
          exact hb (hr.inj _ _ _ _ _ _ _ _ hρ hy hk hro).1.symm
  · refine ⟨hle, ?_, ?_, Nat.le_refl _, hos, htape, hout, hsize, ?_, Nat.min_le_left _ _, ?_⟩
    · intro b' L' c y hy hlt
      rcases Rho.put_inv hy with ⟨rfl, _, e⟩ | hy
      · have hc : c = x.1 := by rw [← e]
        have : x.1 = cb := hx2 (by rw [← hc]; exact hlt)
        exact ⟨L, (sh, S), by rw [hc, this]; exact hρ⟩
      · exact ⟨L', y, hy⟩
    · intro b' k' hk' _
      rw [AH.get_grow] at hk'
      by_cases hb : b' = b
      · subst hb; rw [if_pos rfl] at hk'; cases hk'; exact ⟨k, hk, rfl⟩
      · rw [if_neg hb] at hk'; exact ⟨k', hk', rfl⟩
    · intro i hi hn
      refine hother i hi ?_
      rintro rfl
      exact hn ⟨_, _, _, k, hρ, hk, hro⟩
    · intro b' hb _
      have h0 : Nat.min h.low b ≤ b := Nat.min_le_right h.low b
      have hb' : b' < Nat.min h.low b := hb
      rw [AH.get_grow, if_neg (by omega)]

theorem get_more (k : Blk) (xs : List V) (j : Nat) : (k.more xs).cells.get j = if j < k.cells.n then k.cells.get j else xs[j - k.cells.n]? := Arr.get_pushAll _ _ _

/-- In place. -/
theorem grow_here (P : Program) (hr : HR ρ h w) (hk : h.get b = some k) (hL : L = k.cells.n) (hx : xs ≠ []) (hρ : ρ b L = some (cb, sh, S)) (hro : k.ro = false) (hm : k.minL ≤ L) (hfz : k.fz ≤ L) (hsh : sh ≤ L)
    {us : List Value} (hR : RL ρ xs us) (hc : xs.all V.cell = true) (hroom : ((L : Int) - sh).toNat + us.length ≤ S) :
    ∃ w', (storeCells ⟨cb, ((L : Int) - sh).toNat, none⟩ us).run P w = .ok () w' ∧ HR (ρ.put b (L + xs.length) (cb, sh, S)) (h.grow b k xs) w' ∧ Step ρ h w (ρ.put b (L + xs.length) (cb, sh, S)) (h.grow b k xs) w' := by
  obtain ⟨cs, lo, hi, g1, g2, g3, g4, g5⟩ := hr.blk _ k _ cb sh S hk hρ hm
  have hlen := hR.length
  have hno : ∀ y, ρ b (L + xs.length) = some y → False := fun y hy => by
    have := hr.top _ _ _ _ hk hy
    have : 0 < xs.length := List.length_pos_iff.2 hx
    omega
  have hle : ρ.le (ρ.put b (L + xs.length) (cb, sh, S)) := Rho.le_put hno
  obtain ⟨w', c', f1, f2, f3, f4, f5, f6, f7, f8, f9⟩ := store_run P cb (((L : Int) - sh).toNat) k.e lo hi us 0 w cs g1 (by omega) (RL_oneCell hR hc) (fun j _ hj => (g5 hro).1 (((L : Int) - sh).toNat + j) (by omega) (by omega))
  refine ⟨w', f1, grow_core hr hk hL hx hρ hro _ f7 f8 f9 (Nat.le_of_eq f6.symm) (by rw [f6]; exact hr.bound _ _ _ _ hρ) (fun _ => rfl) (fun _ => rfl) ?_ ?_ (fun i _ hne => f5 i hne)⟩
  · refine ⟨c', lo, hi, f2, by rw [f3]; exact g2, by simp only; omega, ?_, g5⟩
    intro j v hj hjL hv
    simp only at hj hjL ⊢
    rw [get_more] at hv
    rw [f4]
    by_cases hj2 : j < k.cells.n
    · rw [if_pos hj2] at hv
      rw [if_neg (by omega)]
      obtain ⟨u, hu, hRu⟩ := g4 j v hj (by omega) hv
      exact ⟨u, hu, hRu.mono hle⟩
    · rw [if_neg hj2] at hv
      rw [if_pos (by omega), show ((j : Int) - sh).toNat - (((L : Int) - sh).toNat + 0) = j - k.cells.n from by omega]
      obtain ⟨u, hu, hRu⟩ := hR.get hv
      exact ⟨u, hu, hRu.mono hle⟩
  · intro L0 cb0 sh0 S0 h0 hm0
    have hL0 := hr.top _ _ _ _ hk h0
    obtain ⟨cs0, lo0, hi0, q1, q2, q3, q4, q5⟩ := hr.blk _ k _ cb0 sh0 S0 hk h0 hm0
    by_cases hcb : cb0 = cb
    · subst hcb
      rw [g1] at q1
      cases q1
      refine ⟨c', lo, hi, f2, by rw [f3]; exact q2, q3, ?_, q5⟩
      intro j v hj hjL hv
      rw [get_more, if_pos (by omega)] at hv
      obtain ⟨u, hu, hRu⟩ := q4 j v hj hjL hv
      rw [f4]
      have hs := (hr.inj _ _ _ _ _ _ _ _ hρ h0 hk hro).2
      cases hs
      rw [if_neg (by omega)]
      exact ⟨u, hu, hRu.mono hle⟩
    · refine ⟨cs0, lo0, hi0, (f5 _ hcb).trans q1, q2, q3, ?_, q5⟩
      intro j v hj hjL hv
      rw [get_more, if_pos (by omega)] at hv
      obtain ⟨u, hu, hRu⟩ := q4 j v hj hjL hv
      exact ⟨u, hu, hRu.mono hle⟩

/-- In a new block, which begins with what the slice begins with (offset o). -/
theorem grow_there (hr : HR ρ h w) (hk : h.get b = some k) (hL : L = k.cells.n) (hx : xs ≠ []) (hρ : ρ b L = some (cb, sh, S)) (hro : k.ro = false) (hm : k.minL ≤ L) (o : Nat) (ho : sh ≤ o) (hoL : o ≤ L)
    {us : List Value} (hR : RL ρ xs us) (C : Array Value) (hheap : w'.heap = w.heap.push (.cells C k.e (0, 0))) (hos : w'.os = w.os) (htape : w'.tape = w.tape) (hout : w'.output = w.output)
    (hsize : L - o + us.length ≤ C.size) (hold : ∀ i, i < L - o → C[i]? = (w.cell? ⟨cb, ((o : Int) - sh).toNat + i, none⟩)) (hnew : ∀ i, i < us.length → C[L - o + i]? = us[i]?) :
    HR (ρ.put b (L + xs.length) (w.heap.size, o, C.size)) (h.grow b k xs) w' ∧ Step ρ h w (ρ.put b (L + xs.length) (w.heap.size, o, C.size)) (h.grow b k xs) w' := by
  obtain ⟨cs, lo, hi, g1, g2, g3, g4, g5⟩ := hr.blk _ k _ cb sh S hk hρ hm
  have hlen := hR.length
  have hcell : ∀ i, w.cell? ⟨cb, i, none⟩ = cs[i]? := fun i => by unfold World.cell?; simp [g1]
  have hno : ∀ y, ρ b (L + xs.length) = some y → False := fun y hy => by
    have := hr.top _ _ _ _ hk hy
    have : 0 < xs.length := List.length_pos_iff.2 hx
    omega
  have hle : ρ.le (ρ.put b (L + xs.length) (w.heap.size, o, C.size)) := Rho.le_put hno
  have hkeep : ∀ i, i < w.heap.size → w'.heap[i]? = w.heap[i]? := fun i hi => by rw [hheap, Array.getElem?_push, if_neg (by omega)]
  have hsz : w'.heap.size = w.heap.size + 1 := by rw [hheap]; simp
  refine grow_core hr hk hL hx hρ hro _ hos htape hout (by omega) (by simp only; omega) (fun hlt => absurd hlt (by simp)) (fun heq => ?_) ?_ ?_ (fun i hi _ => hkeep i hi)
  · simp only at heq; have := hr.bound _ _ _ _ hρ; omega
  · refine ⟨C, 0, 0, by rw [hheap]; simp [Blk.more], rfl, by simp only; omega, ?_, fun _ => ⟨fun i _ _ => by omega, Nat.le_refl 0, Int.natCast_nonneg o⟩⟩
    intro j v hj hjL hv
    simp only at hj hjL ⊢
    rw [get_more] at hv
    by_cases hj2 : j < k.cells.n
    · rw [if_pos hj2] at hv
      obtain ⟨u, hu, hRu⟩ := g4 j v (by omega) (by omega) hv
      rw [show ((j : Int) - (o : Int)).toNat = j - o from by omega, hold _ (by omega), hcell, show ((o : Int) - sh).toNat + (j - o) = ((j : Int) - sh).toNat from by omega]
      exact ⟨u, hu, hRu.mono hle⟩
    · rw [if_neg hj2] at hv
      obtain ⟨u, hu, hRu⟩ := hR.get hv
      have hlt := (List.getElem?_eq_some_iff.1 hu).1
      have := hnew _ hlt
      rw [show L - o + (j - k.cells.n) = j - o from by omega] at this
      rw [show ((j : Int) - (o : Int)).toNat = j - o from by omega, this]
      exact ⟨u, hu, hRu.mono hle⟩
  · intro L0 cb0 sh0 S0 h0 hm0
    have hL0 := hr.top _ _ _ _ hk h0
    obtain ⟨cs0, lo0, hi0, q1, q2, q3, q4, q5⟩ := hr.blk _ k _ cb0 sh0 S0 hk h0 hm0
    refine ⟨cs0, lo0, hi0, (hkeep _ (hr.bound _ _ _ _ h0)).trans q1, q2, q3, ?_, q5⟩
    intro j v hj hjL hv
    rw [get_more, if_pos (by omega)] at hv
    obtain ⟨u, hu, hRu⟩ := q4 j v hj hjL hv
    exact ⟨u, hu, hRu.mono hle⟩
end
end Go.Proofs.YtbeohojepniioaaDoor.Ev
