/-
  From rows to runs: what bytes that come in are to the own machine; what a row keeps. No program in sight. No condition.
-/
import Derived.Test.YtbeohojepniioaaDoorEwI
import Derived.ChangeSlices
import Derived.WideKeyArgs
import Derived.SizedLaws
set_option linter.unusedVariables false
set_option linter.unusedSimpArgs false
namespace Go.Proofs.YtbeohojepniioaaDoor.Ev
open Go Go.ChangeShapes Go.WideShapes Go.ChangeAt Go.RowKit Go.WideElems

theorem sameAt_of {W w : World} (hs : Same W w) {p : MemPlace} (hlt : p.block < W.heap.size) : W.sameAt w p := by
  cases p with
  | cell b off =>
    show w.cell? ⟨b, off, none⟩ = W.cell? ⟨b, off, none⟩
    unfold World.cell?
    rw [hs.heap b hlt]
  | map b => exact hs.heap b hlt
/-- An argument reads as it did. -/
theorem arg_stays {H : Type} {enc : TypeId × Value → H} {P : Program} {W w : World} (hs : Same W w) {t : TypeId} (hl : laidOutB P = true) (hr : P.readableRec t = true) (hrow : t < P.types.size) {v : Value} {d : DataW H} {ps : List MemPlace}
    (h : DataW.Trod enc P W 0 (fun _ => true) true t v d ps) (hlt : ∀ p ∈ ps, p.block < W.heap.size) (sp : Nat → Bool) (hsp : ∀ p ∈ ps, sp p.block = true) : DataW.Trod enc P w 0 sp true t v d ps :=
  Trod_stays hl hr hrow h (fun p hp => sameAt_of hs (hlt p hp)) hsp
theorem cell?_fits {W : World} {b off : Nat} {v : Value} (h : W.cell? ⟨b, off, none⟩ = some v) : ∃ c e lo hi, W.heap[b]? = some (.cells c e (lo, hi)) ∧ c[off]? = some v := by
  unfold World.cell? at h
  simp only at h
  split at h
  · rename_i c e fr hb
    obtain ⟨lo, hi⟩ := fr
    simp only [Option.isSome_none, Bool.false_eq_true, if_false] at h
    exact ⟨c, e, lo, hi, hb, h⟩
  all_goals first | (cases h; done) | (simp at h; done) | (split at h <;> simp at h)
/-- Bytes that come in. -/
theorem bytes_in {H : Type} {enc : TypeId × Value → H} {P : Program} {W : World} {base : Nat} {v : Value} {d : DataW H} {ps : List MemPlace} {t e : TypeId} (ht : P.underlying t = some (.slice e)) (he : P.underlying e = some (.int .u8)) (hc : P.cellsOf e = 1)
    (hval : Value.okWide P W .any base t v) (h : DataW.Trod enc P W 0 (fun _ => true) true t v d ps) :
    ∃ l : List Nat, (∀ x ∈ l, x < 256) ∧ ((l = [] ∧ ((∀ ρ, R ρ .nilslice v) ∨ (∀ ρ, R ρ .loose v))) ∨
      (l ≠ [] ∧ ∃ cb off S e' cap elems spare, v = .slice (some ⟨cb, off, none⟩) l.length cap ∧ l.length ≤ cap ∧ off + cap ≤ S ∧ d = .slice elems spare ∧ elems.length = l.length ∧ ∀ g, Tab.Fits ⟨g, byteL l, e'⟩ ⟨cb, off, S⟩ W)) := by
  obtain ⟨a1, len, cap, rfl⟩ := okWide_slice ht hval
  obtain ⟨fuel, hf⟩ := h
  rcases open_ints ht he hc hf with ⟨hcs, hx⟩ | ⟨a, len', cap', zs, hcs, _, hl, hm, hz, hx, hcell, hwz⟩
  · simp [Value.cells] at hcs
    obtain ⟨rfl, rfl, rfl⟩ := hcs
    exact ⟨[], by simp, .inl ⟨rfl, .inl fun ρ => rfl⟩⟩
  · simp [Value.cells] at hcs
    obtain ⟨rfl, rfl, rfl⟩ := hcs
    simp only [if_true] at hz
    by_cases hlen : len = 0
    · subst hlen
      exact ⟨[], by simp, .inl ⟨rfl, .inr fun ρ => ⟨_, _, rfl⟩⟩⟩
    · obtain ⟨ab, ao, spot⟩ := a
      have hspot : spot = none := by simpa [Addr.add] using World.cell?_spot (hcell 0 (by omega))
      subst hspot
      simp only [Prod.mk.injEq] at hx
      have hb : ∀ n ∈ zs, 0 ≤ n ∧ n ≤ 255 := fun n hn => bounds_u8 (hwz n hn)
      have hll : ((zs.take len).map Int.toNat).length = len := by rw [List.length_map, List.length_take]; omega
      refine ⟨(zs.take len).map Int.toNat, ?_, .inr ⟨?_, ?_⟩⟩
      · intro x hx
        obtain ⟨n, hn, rfl⟩ := List.mem_map.1 hx
        have := hb n (List.mem_of_mem_take hn)
        omega
      · intro h0
        rw [h0] at hll
        simp at hll
        omega
      · have h0 := hcell 0 (by omega)
        rw [Addr.add_lit] at h0
        obtain ⟨c, e', lo, hi, g1, g2⟩ := cell?_fits h0
        have hall : ∀ i, i < cap → c[ao + i]? = some (.int .u8 (zs.getD i 0)) := by
          intro i hi
          have hi' := hcell i (by omega)
          rw [Addr.add_lit] at hi'
          obtain ⟨c', e'', lo', hi'', g3, g4⟩ := cell?_fits hi'
          rw [g1] at g3
          cases g3
          exact g4
        have hS : ao + cap ≤ c.size := by
          have := (Array.getElem?_eq_some_iff.1 (hall (cap - 1) (by omega))).1
          omega
        refine ⟨ab, ao, c.size, e', cap, _, _, by rw [hll], by rw [hll]; exact hl, hS, hx.1, by simp [lits, hll], fun g => ⟨c, lo, hi, g1, rfl, by simp only [byteL_len, hll]; omega, fun ρ j v hv => ?_⟩⟩
        simp only [byteL_get] at hv
        rw [List.getElem?_map] at hv
        have hj : j < len := by
          rcases Nat.lt_or_ge j len with h | h
          · exact h
          · rw [List.getElem?_eq_none (by rw [List.length_take]; omega)] at hv; cases hv
        have hj2 : j < zs.length := by omega
        rw [List.getElem?_take_of_lt hj, List.getElem?_eq_getElem hj2] at hv
        cases hv
        refine ⟨_, hall j (by omega), ?_⟩
        have := hb _ (List.getElem_mem hj2)
        show Value.int .u8 (zs.getD j 0) = .int .u8 ((zs[j].toNat : Nat) : Int)
        rw [List.getD_eq_getElem?_getD, List.getElem?_eq_getElem hj2]
        simp only [Option.getD_some]
        congr 1
        omega
/-- A row of bytes in memory is bytes to the machine. -/
theorem tab_get {n : Nat} {l : List Tab} {g : Nat} {t : Tab} (h : tabOf l g = some t) : (tabsH n l).get g = some ⟨Arr.ofList t.vs, 0, 0, true, t.e⟩ := by
  show (tabsT l).get g = _
  rw [tabsT_get, h]; rfl
theorem tab_read {n : Nat} {l : List Tab} {g : Nat} {t : Tab} (h : tabOf l g = some t) {L : Nat} (hL : L = t.vs.length) : readN (tabsH n l) ⟨g, L, 0⟩ L = some t.vs := by
  subst hL
  refine readN_of (tab_get h) (Nat.zero_le _) (by simp only [Arr.ofList_n]; exact Nat.le_refl _) (by simp) rfl fun j v hv => ?_
  simp only [Nat.zero_add]
  rw [Arr.get_ofList]; exact hv
theorem tab_bs {n : Nat} {l : List Tab} {g : Nat} {bs : List Nat} {e : Nat} (h : tabOf l g = some ⟨g, byteL bs, e⟩) (hb : ∀ x ∈ bs, x < 256) : Bs (tabsH n l) (.slice ⟨g, bs.length, 0⟩ bs.length bs.length false 1) bs := by
  refine ⟨⟨by rw [byteL_len, Nat.mul_one], .inr ⟨_, _, _, rfl, Nat.le_refl _, ?_⟩⟩, hb⟩
  rw [Nat.mul_one]
  exact tab_read h (byteL_len bs).symm
theorem tabs_wf {n : Nat} {l : List Tab} (hn : ∀ t ∈ l, t.g < n) : (tabsH n l).WF := by
  intro b k hk
  obtain ⟨t, h1, _⟩ := tabsH_inv hk
  obtain ⟨h2, rfl⟩ := tabOf_spec h1
  exact hn t h2
theorem tab_R {l : List Tab} {pl : Nat → Spot} {g e : Nat} {bs : List Nat} (h : tabOf l g = some ⟨g, byteL bs, e⟩) {cb off S cap : Nat} (hp : pl g = ⟨cb, off, S⟩) (hcap : bs.length ≤ cap) (hS : off + cap ≤ S) :
    R (tabsRho l pl) (.slice ⟨g, bs.length, 0⟩ bs.length bs.length false 1) (.slice (some ⟨cb, off, none⟩) bs.length cap) := by
  have h1 := tabsRho_of (pl := pl) h
  simp only [byteL_len, hp] at h1
  refine ⟨cb, -(off : Int), S, cap, ?_, h1, ?_, hcap, (by intro h; cases h), Nat.le_refl _, ?_⟩
  · simp
  · simp only; omega
  · simp only; omega
/-- An array of numbers that comes in. -/
theorem arr_in {H : Type} {enc : TypeId × Value → H} {P : Program} {W : World} {base : Nat} {v : Value} {d : DataW H} {ps : List MemPlace} {t e n : Nat} {k : IntKind} (ht : P.underlying t = some (.array n e)) (he : P.underlying e = some (.int k)) (hc : P.cellsOf e = 1) (hct : P.cellsOf t = n)
    (hval : Value.okWide P W .any base t v) (h : DataW.Trod enc P W 0 (fun _ => true) true t v d ps) :
    ∃ zs : List Int, zs.length = n ∧ (∀ z ∈ zs, (Lit.int k z).wf = true) ∧ v = .agg (zs.map (Value.int k)).toArray := by
  unfold Value.okWide at hval
  rw [ht] at hval
  obtain ⟨cs, rfl, hsz, _⟩ := hval
  obtain ⟨fuel, hf⟩ := h
  obtain ⟨xs, m, rfl, hx, hlen, hxl, hel⟩ := DataW.trod_array ht hf
  have hcl : (Value.agg cs).cells.toList = cs.toList := rfl
  rw [hcl] at hlen hel
  rw [hct] at hlen
  have each : ∀ i, i < n → ∃ z, cs.toList[i]? = some (.int k z) ∧ (Lit.int k z).wf = true := by
    intro i hi
    have h1 := hel i hi
    rw [hc, Nat.mul_one, List.getElem?_eq_getElem (show i < xs.length by omega)] at h1
    obtain ⟨z, h2, _, h3⟩ := DataW.trod_int he h1
    refine ⟨z, ?_, h3⟩
    rw [List.take_one, List.head?_drop, List.getElem?_eq_getElem (show i < cs.toList.length by omega)] at h2
    rw [List.getElem?_eq_getElem (show i < cs.toList.length by omega)]
    simp only [Option.toList_some, List.cons.injEq, and_true] at h2
    rw [h2]
  refine ⟨cs.toList.map fun | .int _ z => z | _ => 0, by simpa using hlen, ?_, ?_⟩
  · intro z hz
    obtain ⟨u, hu, rfl⟩ := List.mem_map.1 hz
    obtain ⟨i, hi, rfl⟩ := List.getElem_of_mem hu
    obtain ⟨z, h1, h2⟩ := each i (by omega)
    rw [List.getElem?_eq_getElem hi] at h1
    rw [Option.some.inj h1]
    exact h2
  · congr 1
    apply Array.ext'
    simp only [List.map_map]
    apply List.ext_getElem?
    intro i
    rw [List.getElem?_map]
    by_cases hi : i < n
    · obtain ⟨z, h1, _⟩ := each i hi
      rw [h1]; rfl
    · rw [List.getElem?_eq_none (by omega)]; rfl
theorem int_in {H : Type} {enc : TypeId × Value → H} {P : Program} {W : World} {base : Nat} {v : Value} {d : DataW H} {ps : List MemPlace} {t : Nat} {k : IntKind} (ht : P.underlying t = some (.int k)) (hval : Value.okWide P W .any base t v) (h : DataW.Trod enc P W 0 (fun _ => true) true t v d ps) : ∃ n, v = .int k n ∧ (Lit.int k n).wf = true := by
  obtain ⟨n, rfl⟩ := okWide_int ht hval
  obtain ⟨fuel, hf⟩ := h
  obtain ⟨m, h1, _, h2⟩ := DataW.trod_int ht hf
  have : (Value.int k n).cells.toList = [.int k n] := rfl
  rw [this] at h1
  cases h1
  exact ⟨n, rfl, h2⟩
theorem agg_R (ρ : Rho) (k : IntKind) (zs : List Int) : R ρ (.agg (zs.map (V.int k))) (.agg (zs.map (Value.int k)).toArray) := ⟨_, rfl, ints_RL ρ k zs⟩
theorem bytes_of {zs : List Int} (h : ∀ z ∈ zs, (Lit.int .u8 z).wf = true) : zs.map (V.int .u8) = byteL (zs.map Int.toNat) ∧ ∀ x ∈ zs.map Int.toNat, x < 256 := by
  constructor
  · unfold byteL
    rw [List.map_map]
    apply List.map_congr_left
    intro z hz
    have := bounds_u8 (h z hz)
    show V.int .u8 z = .int .u8 ((z.toNat : Nat) : Int)
    congr 1
    omega
  · intro x hx
    obtain ⟨z, hz, rfl⟩ := List.mem_map.1 hx
    have := bounds_u8 (h z hz)
    omega
end Go.Proofs.YtbeohojepniioaaDoor.Ev
