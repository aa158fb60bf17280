/-
  Texts made of a row of bytes in place; pointers that lose their type and get it back. No program in sight. No condition.
-/
import Derived.Test.YtbeohojepniioaaDoorEvZ
import Derived.Lib.UnsafeStr
import Derived.Lib.Builder
import Derived.Lib.BytesEntry
set_option linter.unusedVariables false
set_option linter.unusedSimpArgs false
namespace Go.Proofs.YtbeohojepniioaaDoor.Ev
open Go

/-- A block, of whose cells nothing may be read or written any more. -/
noncomputable def AH.kill (h : AH) (b : Nat) (k : Blk) : AH := ⟨h.next, Nat.min h.low b, h.m.set b ⟨k.cells, Nat.succ k.cells.n, k.fz, k.ro, k.e⟩⟩
theorem kill_sound {ρ : Rho} {h : AH} {w : World} (hr : HR ρ h w) {b L cb S : Nat} {sh : Int} {k : Blk} (hk : h.get b = some k) (hρ : ρ b L = some (cb, sh, S)) (hro : k.ro = false) (o n : Nat) :
    HR ρ (h.kill b k) (w.freeze ⟨cb, o, none⟩ n) ∧ Step ρ h w ρ (h.kill b k) (w.freeze ⟨cb, o, none⟩ n) := by
  have hsz : (w.freeze ⟨cb, o, none⟩ n).heap.size = w.heap.size := by unfold World.freeze; split <;> simp
  have hoff : ∀ x, x ≠ cb → (w.freeze ⟨cb, o, none⟩ n).heap[x]? = w.heap[x]? := by
    intro x hx
    unfold World.freeze
    split
    · rfl
    · simp only [Array.getElem?_modify]; rw [if_neg (fun e => hx e.symm)]
  have hget : ∀ b', (h.kill b k).get b' = if b' = b then some ⟨k.cells, Nat.succ k.cells.n, k.fz, k.ro, k.e⟩ else h.get b' := fun b' => T.get_set _ _ _ _
  refine ⟨⟨hr.fresh, ?_, fun b L c x hx => by rw [hsz]; exact hr.bound b L c x hx, ?_, ?_, ?_⟩, ⟨Rho.le_refl ρ, fun b L c x hx _ => ⟨L, x, hx⟩, ?_, Nat.le_refl _, ?_, ?_, ?_, Nat.le_of_eq hsz.symm, ?_, Nat.min_le_left _ _, ?_⟩⟩
  · intro b' k' hk'
    rw [hget] at hk'
    split at hk'
    · subst_vars; exact hr.lives _ _ hk
    · exact hr.lives _ _ hk'
  · intro b1 L1 b2 L2 c x x' k' q1 q2 hk' hro'
    rw [hget] at hk'
    split at hk'
    · subst_vars; exact hr.inj _ _ _ _ _ _ _ _ q1 q2 hk hro
    · exact hr.inj _ _ _ _ _ _ _ _ q1 q2 hk' hro'
  · intro b' k' L' x hk' hx
    rw [hget] at hk'
    split at hk'
    · subst_vars; cases hk'; have := hr.top _ k _ _ hk hx; exact this
    · exact hr.top _ _ _ _ hk' hx
  · intro b' k' L' cb' sh' S' hk' hρ' hm'
    rw [hget] at hk'
    split at hk'
    · subst_vars
      cases hk'
      have := hr.top _ _ _ _ hk hρ'
      exact absurd hm' (Nat.not_le.2 (Nat.lt_succ_of_le this))
    · rename_i hne
      refine (hr.blk _ _ _ _ _ _ hk' hρ' hm').mono (Rho.le_refl ρ) (hoff _ ?_)
      rintro rfl
      exact hne (hr.inj _ _ _ _ _ _ _ _ hρ hρ' hk hro).1.symm
  · intro b' k' hk' _
    rw [hget] at hk'
    split at hk'
    · subst_vars; cases hk'; exact ⟨k, hk, rfl⟩
    · exact ⟨k', hk', rfl⟩
  · unfold World.freeze; split <;> rfl
  · unfold World.freeze; split <;> rfl
  · unfold World.freeze; split <;> rfl
  · intro i hi' hn
    apply hoff
    rintro rfl
    exact hn ⟨b, L, _, k, hρ, hk, hro⟩
  · intro b' hb _
    rw [hget, if_neg]
    rintro rfl
    exact absurd hb (Nat.not_lt.2 (Nat.min_le_right _ _))

def absSliceData (x : V) : Option V :=
  match x with
  | .nilslice => some .nilptr
  | .slice a _ cap _ _ => if cap = 0 then none else some (.ptr a)
  | _ => none
theorem sliceData_sound {P : Program} {ρ : Rho} {x v : V} {a : Value} {ts : Array TypeId} {ty : TypeId} (hx : R ρ x a) (hs : absSliceData x = some v) (w : World) : ∃ u, (Builtin.unsafeSliceData_ ts ty #[a]).run P w = .ok u w ∧ R ρ v u := by
  unfold absSliceData at hs
  split at hs
  · cases hs; rw [show a = _ from hx]; exact ⟨_, Lib.run_unsafeSliceData_nil w ts ty 0 0, rfl⟩
  · split at hs
    · cases hs
    · cases hs
      obtain ⟨cb, sh, S, cc, rfl, h1, h2, h3, _⟩ := hx
      exact ⟨_, Lib.run_unsafeSliceData_row w ts ty _ _ cc (by omega), _, rfl, cb, sh, S, h1, h2, rfl⟩
  · cases hs

def isPtrTo (P : Program) (t e : TypeId) : Bool :=
  match P.underlying t with
  | some (.pointer e') => Nat.beq e' e
  | _ => false
theorem isPtrTo_spec {P : Program} {t e : TypeId} (h : isPtrTo P t e = true) : P.underlying t = some (.pointer e) := by
  unfold isPtrTo at h
  split at h
  · rename_i e' hu; rw [hu, Nat.eq_of_beq_eq_true h]
  · cases h
def byteC : V → Option Nat
  | .int .u8 (.ofNat n) => if n < 256 then some n else none
  | _ => none
def toBytesC : List V → Option (List Nat)
  | [] => some []
  | v :: l => match byteC v, toBytesC l with
    | some n, some r => some (n :: r)
    | _, _ => none
theorem byteC_spec {v : V} {n : Nat} (h : byteC v = some n) : v = .int .u8 (n : Int) ∧ n < 256 := by
  unfold byteC at h
  split at h
  · split at h
    · rename_i hn; cases h; exact ⟨rfl, hn⟩
    · cases h
  · cases h
theorem toBytesC_spec {ρ : Rho} : ∀ {vs : List V} {us : List Value} {l : List Nat}, toBytesC vs = some l → RL ρ vs us → us = l.map (fun (n : Nat) => Value.int .u8 (n : Int)) ∧ ∀ n ∈ l, n < 256 := by
  intro vs
  induction vs with
  | nil => intro us l h hR; cases h; rw [show us = [] from hR]; simp
  | cons v vs ih =>
    rintro us l h ⟨z, zs, rfl, hz, hR⟩
    unfold toBytesC at h
    cases hb : byteC v with
    | none => rw [hb] at h; cases h
    | some n =>
      cases ht : toBytesC vs with
      | none => rw [hb, ht] at h; cases h
      | some r =>
        rw [hb, ht] at h
        cases h
        obtain ⟨rfl, hn⟩ := byteC_spec hb
        obtain ⟨g1, g2⟩ := ih ht hR
        refine ⟨by rw [g1, show z = _ from hz]; rfl, ?_⟩
        intro m hm
        cases hm with
        | head => exact hn
        | tail _ hm => exact g2 m hm
noncomputable def absUnsafeString (P : Program) (pt : TypeId) (x n : V) (h : AH) : Option (V × AH) :=
  match x, n with
  | .nilptr, .int .i64 m => if m = 0 then some (.str [], h) else none
  | .ptr a, .int .i64 m =>
    if m = 0 then some (.str [], h) else
    if m < 0 then none else if 9223372036854775807 < m then none else
    match h.get a.b with
    | some k =>
      if a.o = 0 ∧ k.ro = false ∧ isPtrTo P pt k.e = true ∧ P.cellsOf k.e = 1 then
        match readN h a m.toNat with
        | some vs => (toBytesC vs).map fun l => (.str l, h.kill a.b k)
        | none => none
      else none
    | none => none
  | _, _ => none
theorem unsafeString_sound {P : Program} {ρ : Rho} {h h' : AH} {w : World} {pt it ty : TypeId} {x n v : V} {a b : Value} (hr : HR ρ h w) (hx : R ρ x a) (hn : R ρ n b) (hs : absUnsafeString P pt x n h = some (v, h')) :
    Sim P ρ h w (Builtin.unsafeString_ #[pt, it] ty #[a, b]) v h' := by
  unfold absUnsafeString at hs
  split at hs
  · split at hs
    · rename_i h0; subst h0; cases hs
      rw [show a = _ from hx, show b = _ from hn]
      exact Sim.pure hr ⟨_, Lib.run_unsafeString_none w pt it ty none, _, rfl, rfl⟩
    · cases hs
  · rename_i p m
    rw [show b = _ from hn]
    split at hs
    · rename_i h0; subst h0; cases hs
      obtain ⟨c, rfl, _⟩ := hx
      exact Sim.pure hr ⟨_, Lib.run_unsafeString_none w pt it ty _, _, rfl, rfl⟩
    · rename_i hm0
      split at hs
      · cases hs
      rename_i hm1
      split at hs
      · cases hs
      rename_i hm2
      split at hs
      case h_2 => cases hs
      rename_i k hk
      split at hs
      case isFalse => cases hs
      rename_i hc
      obtain ⟨ho, hro, hpt, hcell1⟩ := hc
      split at hs
      case h_2 => cases hs
      rename_i vs hread
      obtain ⟨l, ht, he⟩ : ∃ l, toBytesC vs = some l ∧ (V.str l, h.kill p.b k) = (v, h') := by
        cases ht : toBytesC vs with
        | none => rw [ht] at hs; cases hs
        | some l => rw [ht] at hs; exact ⟨l, rfl, Option.some.inj hs⟩
      cases he
      obtain ⟨c, rfl, cb, sh, S, h1, h2, rfl⟩ := hx
      obtain ⟨us, hlen, hRL, hcell⟩ := read_sound hr ⟨cb, sh, S, h1, h2, rfl⟩ hread
      obtain ⟨g1, g2⟩ := toBytesC_spec ht hRL
      have hrd := hread
      rw [readN_eq, hk] at hrd
      simp only [Option.bind_some] at hrd
      split at hrd
      case isFalse => cases hrd
      rename_i hc2
      obtain ⟨q1, q2, q3⟩ := hc2
      obtain ⟨cs, lo, hi, f1, f2, f3, f4, f5⟩ := hr.blk _ _ _ _ _ _ hk h1 q1
      have hsh1 := (f5 hro).2.2
      have hsh0 : sh = 0 := by omega
      have hll : l.length = m.toNat := by rw [← hlen, g1, List.length_map]
      have hlm : (l.map UInt8.ofNat).length = m.toNat := by rw [List.length_map]; exact hll
      have hmm : m = ((l.map UInt8.ofNat).length : Int) := by rw [hlm]; omega
      have hoff : ((p.o : Int) - sh).toNat = 0 := by omega
      obtain ⟨k1, k2⟩ := kill_sound hr hk h1 hro 0 (l.map UInt8.ofNat).length
      refine ⟨.string ⟨(l.map UInt8.ofNat).toArray⟩, _, ρ, ?_, ?_, k1, k2⟩
      · rw [hoff, hmm]
        refine Lib.run_unsafeString_row w pt it ty k.e (isPtrTo_spec hpt) hcell1 cb S (by simp [World.shape?, f1, f2]) _ ?_ ?_ ?_ ?_
        · intro hnil
          rw [hnil] at hlm
          simp at hlm
          omega
        · rw [hlm]; omega
        · rw [hlm]; omega
        · intro j x hj
          rw [List.getElem?_map] at hj
          cases hj' : l[j]? with
          | none => rw [hj'] at hj; cases hj
          | some n =>
            rw [hj'] at hj
            have hx : UInt8.ofNat n = x := Option.some.inj hj
            have hlt := g2 n (List.mem_of_getElem? hj')
            have := hcell j (.int .u8 (n : Int)) (by rw [g1, List.getElem?_map, hj']; rfl)
            rw [hoff] at this
            rw [this, ← hx]
            simp only [UInt8.toNat_ofNat']
            rw [Nat.mod_eq_of_lt hlt]
      · refine ⟨_, rfl, ?_⟩
        simp only [List.map_map]
        have : ∀ l : List Nat, (∀ n ∈ l, n < 256) → l.map (UInt8.toNat ∘ UInt8.ofNat) = l := by
          intro l
          induction l with
          | nil => intro _; rfl
          | cons n l ih =>
            intro h
            rw [List.map_cons, ih (fun m hm => h m (by simp [hm]))]
            congr 1
            simp only [Function.comp, UInt8.toNat_ofNat']
            exact Nat.mod_eq_of_lt (h n (by simp))
        exact this l g2
  · cases hs

/-- A pointer that loses its type and gets it back. -/
noncomputable def absUnsafePtr (P : Program) (src dst : TypeId) (x : V) (h : AH) : Option V :=
  match P.underlying src, P.underlying dst, x with
  | some (.pointer _), some .unsafePointer, .nilptr => some .nilptr
  | some .unsafePointer, some (.pointer _), .nilptr => some .nilptr
  | some (.pointer t), some .unsafePointer, .ptr a =>
    match h.get a.b, P.info? t with
    | some k, some j => if k.minL ≤ a.L ∧ a.o < a.L ∧ j.size ≠ 0 then some (.ptr a) else none
    | _, _ => none
  | some .unsafePointer, some (.pointer u), .ptr a =>
    match h.get a.b, P.info? u with
    | some k, some j => if k.minL ≤ a.L ∧ a.o = 0 ∧ k.e = u ∧ P.cellsOf u ≤ a.L ∧ P.cellsOf u ≠ 0 ∧ k.ro = false then some (.ptr a) else none
    | _, _ => none
  | _, _, _ => none
theorem liesAt_head {P : Program} {e : TypeId} (count : Nat) (hs : P.cellsOf e ≠ 0) (hc : 1 ≤ count) : liesAt P P.depth e count 0 e 1 = true := by
  have hd : P.depth = (2 * (P.types.size + Made.depth) + 1) + 1 := rfl
  rw [hd]
  simp only [liesAt, Bool.or_eq_true]
  left
  rw [hd]
  simp [rowAt, hs, hc, sameLayout]
theorem unsafePtr_sound {P : Program} {ρ : Rho} {h : AH} {w : World} {src dst : TypeId} {x v : V} {a : Value} (hr : HR ρ h w) (hx : R ρ x a) (hs : absUnsafePtr P src dst x h = some v) : ∃ u, (convert src dst a).run P w = .ok u w ∧ R ρ v u := by
  unfold absUnsafePtr at hs
  split at hs
  · rename_i t h1 h2
    cases hs
    rw [show a = _ from hx]
    exact ⟨.pointer none, by simp [convert, run_underlying h1, run_underlying h2, Conv.unsafePointer], rfl⟩
  · rename_i t h1 h2
    cases hs
    rw [show a = _ from hx]
    exact ⟨.pointer none, by simp [convert, run_underlying h1, run_underlying h2, Conv.unsafePointer], rfl⟩
  · rename_i t p h1 h2
    split at hs
    case h_2 => cases hs
    rename_i k j hk hj
    split at hs
    case isFalse => cases hs
    rename_i hc
    cases hs
    obtain ⟨c, rfl, cb, sh, S, g1, g2, rfl⟩ := hx
    obtain ⟨cs, lo, hi, f1, f2, f3, f4, f5⟩ := hr.blk _ _ _ _ _ _ hk g1 hc.1
    refine ⟨_, Lib.run_to_unsafe w _ h1 h2 hj hc.2.2 (e := k.e) (cells := S) (by simp [World.shape?, f1, f2]) ?_, _, rfl, cb, sh, S, g1, g2, rfl⟩
    show ((p.o : Int) - sh).toNat < S
    omega
  · rename_i u p h1 h2
    split at hs
    case h_2 => cases hs
    rename_i k j hk hj
    split at hs
    case isFalse => cases hs
    rename_i hc
    cases hs
    obtain ⟨c1, c2, c3, c4, c5, c6⟩ := hc
    obtain ⟨c, rfl, cb, sh, S, g1, g2, rfl⟩ := hx
    obtain ⟨cs, lo, hi, f1, f2, f3, f4, f5⟩ := hr.blk _ _ _ _ _ _ hk g1 c1
    refine ⟨_, Lib.run_from_unsafe w _ h1 h2 hj (e := k.e) (cells := S) (by simp [World.shape?, f1, f2]) ?_, _, rfl, cb, sh, S, g1, g2, rfl⟩
    have hsh1 := (f5 c6).2.2
    have e0 : ((p.o : Int) - sh).toNat = 0 := by omega
    show liesAt P P.depth k.e (S / P.cellsOf k.e) (((p.o : Int) - sh).toNat) u 1 = true
    rw [e0, c3]
    refine liesAt_head _ c5 ?_
    have : P.cellsOf u ≤ S := by omega
    exact (Nat.one_le_div_iff (Nat.pos_of_ne_zero c5)).2 this
  · cases hs
end Go.Proofs.YtbeohojepniioaaDoor.Ev
