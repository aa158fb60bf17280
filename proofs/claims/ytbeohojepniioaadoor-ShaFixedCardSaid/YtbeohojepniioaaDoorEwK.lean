/-
  From runs of the own machine to rows: tables laid in memory; what a call leaves as it was. No program in sight. No condition.
-/
import Derived.Test.YtbeohojepniioaaDoorEwH
import Derived.WalkKit
import Derived.ProofKit
import Derived.OpenShut
import Derived.Deep.DeepHandedRow
import Derived.Lib.LaidTab
import Derived.Below
set_option linter.unusedVariables false
set_option linter.unusedSimpArgs false
namespace Go.Proofs.YtbeohojepniioaaDoor.Ev
open Go Go.ChangeShapes Go.WideShapes Go.ChangeAt Go.RowKit

/-- All that was there is as it was. -/
def Stays (W w : World) : Prop := W.keptBut w (fun _ => False) ∧ (∀ a : Addr, a.block < W.heap.size → w.frozen? a = W.frozen? a)
theorem keptBut_same {W w : World} (hos : w.os = W.os) (hout : w.output = W.output) (hb : ∀ i, i < W.heap.size → w.heap[i]? = W.heap[i]?) : W.keptBut w (fun _ => False) := by
  refine ⟨hos, hout, fun i hi => ?_⟩
  rw [hb i hi]
  cases W.heap[i]? with
  | none => rfl
  | some o =>
    cases o with
    | cells c t fr => exact ⟨rfl, rfl, rfl, fun _ _ => rfl⟩
    | map es clock => exact .inr ⟨rfl, rfl⟩
    | _ => rfl
theorem frozen_same {W w : World} {a : Addr} (h : w.heap[a.block]? = W.heap[a.block]?) : w.frozen? a = W.frozen? a := by
  unfold World.frozen?
  rw [h]
theorem Step.stays {ρ ρ' : Rho} {h h' : AH} {W w : World} (hs : Step ρ h W ρ' h' w) (hro : ∀ b k, h.get b = some k → k.ro = true) : Stays W w := by
  have hb : ∀ i, i < W.heap.size → w.heap[i]? = W.heap[i]? := fun i hi => hs.keep i hi (by
    rintro ⟨b, L, x, k, _, hk, hr⟩
    rw [hro b k hk] at hr
    cases hr)
  exact ⟨keptBut_same hs.os hs.output hb, fun a ha => frozen_same (hb _ ha)⟩

section
variable {H : Type} {enc : TypeId × Value → H} {P : Program}
/-- What a law's row asks of a call that hands back a truth and leaves all that was there as it was. -/
theorem post_stays {f : Func} {s : ChangeSpec} {apart fresh handsOn again : Bool} {W W' : World} {args : Array Value} {v : Value} {ds gs : List (DataW H)} {before pa pv : List MemPlace}
    (hW : DataW.Whole enc P f.params.toList s.vars apart W args.toList ds gs before)
    (hres : ∀ (b : Nat) (sp : Nat → Bool) (hd : Bool), DataW.TrodAll enc P W' b sp hd f.resultTypes.toList (v.resultList f.resultTypes.size) (s.fn H (ds ++ gs)).results [])
    (hargs : ∀ sp : Nat → Bool, (∀ p ∈ before, sp p.block = true) → DataW.TrodAll enc P W' 0 sp true f.params.toList args.toList (s.fn H (ds ++ gs)).args pa)
    (hvars : ∀ sp : Nat → Bool, (∀ p ∈ before, sp p.block = true) → DataW.TrodVars enc P W' sp s.vars (s.fn H (ds ++ gs)).vars pv)
    (hps : before = pa ++ pv) (hst : Stays W W')
    (hok : ∀ (j : Nat) (t : TypeId) (r : Value), f.resultTypes[j]? = some t → (v.resultList f.resultTypes.size)[j]? = some r → Value.okWide P W' .any 0 t r) :
    s.post enc P f apart fresh handsOn again W args v W' := by
  have hlt := fun p hp => hW.lt p hp
  have hold : ∀ p ∈ before, (fun b => decide (b < W.heap.size)) p.block = true := fun p hp => by simpa using hlt p hp
  have hWhole := hW
  obtain ⟨_, _, _, _, _, hz, hn⟩ := hW
  refine ⟨ds, gs, before, [], pa, pv, hWhole, hres _ _ _, hargs _ hold, hvars _ hold, World.keptBut_mono (fun p hp => False.elim hp) hst.1, fun _ => ?_⟩
  refine ⟨hok, _, _, ([] ++ pa) ++ pv, ⟨[] ++ pa, pv, trodAll_append (hargs _ (fun _ _ => rfl)) (hres _ _ _), hvars _ (fun _ _ => rfl), rfl, ?_, ?_⟩, ?_⟩
  · intro b off hp
    have hm : MemPlace.cell b off ∈ before := by rw [hps]; simpa using hp
    have hb := hlt _ hm
    have := hst.2 ⟨b, off, none⟩ hb
    have hz' := hz b off hm
    first
      | exact this.trans hz'
      | (rw [hst.2 _ hb]; exact hz')
  · intro ha
    have := hn ha
    rw [hps] at this
    simpa using this
  · intro p hp _
    rw [hps]
    simpa using hp
end

/-! ## Tables that are laid -/
structure Tab where
  g : Nat
  vs : List V
  e : Nat
noncomputable def tabsT : List Tab → T Blk
  | [] => .leaf
  | t :: l => (tabsT l).set t.g ⟨Arr.ofList t.vs, 0, t.vs.length, true, t.e⟩
noncomputable def tabsH (n : Nat) (l : List Tab) : AH := ⟨n, n, tabsT l⟩
def tabOf (l : List Tab) (b : Nat) : Option Tab := l.find? fun t => t.g == b
def tabsRho (l : List Tab) : Rho := fun b L => match tabOf l b with
  | some t => if L = t.vs.length then some (b, 0, t.vs.length) else none
  | none => none
theorem tabsT_get : ∀ (l : List Tab) (b : Nat), (tabsT l).get b = (tabOf l b).map fun t => ⟨Arr.ofList t.vs, 0, t.vs.length, true, t.e⟩ := by
  intro l
  induction l with
  | nil => intro b; exact T.get_leaf b
  | cons t l ih =>
    intro b
    show ((tabsT l).set t.g _).get b = _
    rw [T.get_set, ih]
    unfold tabOf
    rw [List.find?_cons]
    by_cases h : b = t.g
    · subst h; simp
    · have : (t.g == b) = false := by simpa using fun e => h e.symm
      rw [if_neg h, this]
theorem tabOf_spec {l : List Tab} {b : Nat} {t : Tab} (h : tabOf l b = some t) : t ∈ l ∧ t.g = b := by
  unfold tabOf at h
  exact ⟨List.mem_of_find?_eq_some h, by simpa using List.find?_some h⟩
def Tab.Fits (t : Tab) (W : World) : Prop := ∃ us lo hi, W.heap[t.g]? = some (.cells us t.e (lo, hi)) ∧ ∀ ρ, RL ρ t.vs us.toList
theorem tabs_HR {n : Nat} {l : List Tab} {W : World} (hn : ∀ t ∈ l, t.g < n) (hf : ∀ t ∈ l, t.Fits W) : HR (tabsRho l) (tabsH n l) W := by
  have inv : ∀ {b L x}, tabsRho l b L = some x → ∃ t, tabOf l b = some t ∧ L = t.vs.length ∧ x = (b, 0, t.vs.length) := by
    intro b L x h
    unfold tabsRho at h
    split at h
    · rename_i t ht
      split at h
      · rename_i hL; cases h; exact ⟨t, ht, hL, rfl⟩
      · cases h
    · cases h
  have getv : ∀ {b k}, (tabsH n l).get b = some k → ∃ t, tabOf l b = some t ∧ k = ⟨Arr.ofList t.vs, 0, t.vs.length, true, t.e⟩ := by
    intro b k h
    have h' : (tabsT l).get b = some k := h
    rw [tabsT_get] at h'
    cases ht : tabOf l b with
    | none => rw [ht] at h'; cases h'
    | some t => rw [ht] at h'; exact ⟨t, rfl, (Option.some.inj h').symm⟩
  refine ⟨?_, ?_, ?_, ?_, ?_, ?_⟩
  · intro b L x h
    obtain ⟨t, h1, _, _⟩ := inv h
    obtain ⟨h2, rfl⟩ := tabOf_spec h1
    exact hn t h2
  · intro b k h
    obtain ⟨t, h1, _⟩ := getv h
    obtain ⟨h2, rfl⟩ := tabOf_spec h1
    exact hn t h2
  · intro b L cb x h
    obtain ⟨t, h1, _, h3⟩ := inv h
    cases h3
    obtain ⟨h2, rfl⟩ := tabOf_spec h1
    obtain ⟨us, lo, hi, g1, _⟩ := hf t h2
    exact (Array.getElem?_eq_some_iff.1 g1).1
  · intro b L b' L' cb x x' h h'
    obtain ⟨t, h1, _, h3⟩ := inv h
    obtain ⟨t', h1', _, h3'⟩ := inv h'
    cases h3
    cases h3'
    rw [h1] at h1'
    cases h1'
    exact ⟨rfl, rfl⟩
  · intro b k L x hk h
    obtain ⟨t, h1, h2, _⟩ := inv h
    obtain ⟨t', h1', rfl⟩ := getv hk
    rw [h1] at h1'
    cases h1'
    rw [Arr.ofList_n, h2]
    exact Nat.le_refl _
  · intro b k L cb sh S hk h _
    obtain ⟨t, h1, h2, h3⟩ := inv h
    cases h3
    obtain ⟨t', h1', rfl⟩ := getv hk
    rw [h1] at h1'
    cases h1'
    obtain ⟨h4, rfl⟩ := tabOf_spec h1
    obtain ⟨us, lo, hi, g1, g2⟩ := hf t h4
    have hlen := (g2 (tabsRho l)).length
    rw [Array.length_toList] at hlen
    refine ⟨us, lo, hi, g1, hlen.symm, by omega, ?_, fun i h5 h6 => absurd h5 (Nat.not_le.2 h6), fun h5 => by cases h5⟩
    intro j v _ _ hv
    rw [Arr.get_ofList] at hv
    obtain ⟨u, q1, q2⟩ := (g2 (tabsRho l)).get hv
    exact ⟨u, by simpa using q1, q2⟩
theorem tabs_ro {n : Nat} {l : List Tab} : ∀ b k, (tabsH n l).get b = some k → k.ro = true := by
  intro b k h
  have h' : (tabsT l).get b = some k := h
  rw [tabsT_get] at h'
  cases ht : tabOf l b with
  | none => rw [ht] at h'; cases h'
  | some t => rw [ht] at h'; rw [← Option.some.inj h']
/-- A table of numbers, by what a row's condition says of it. -/
theorem RL_ints (ρ : Rho) (k : IntKind) : ∀ zs : List Int, RL ρ (zs.map (V.int k)) (zs.map (Value.int k)) := by
  intro zs
  induction zs with
  | nil => exact rfl
  | cons z zs ih => exact ⟨_, _, rfl, rfl, ih⟩
theorem tab_fits {P : Program} {W : World} {name : String} {k : IntKind} {zs : List Int} {g : Nat} (h : Lib.TabIs P W name k zs) (hg : P.globalNamed name = some g) : ∃ e, Tab.Fits ⟨g, zs.map (V.int k), e⟩ W := by
  unfold Lib.TabIs World.var? at h
  rw [hg] at h
  simp only [Option.bind_some] at h
  split at h
  · rename_i cs e fr hw
    obtain ⟨lo, hi⟩ := fr
    have hcs : cs = (zs.map fun z => Value.int k z).toArray := Option.some.inj h
    exact ⟨e, cs, lo, hi, hw, fun ρ => by rw [hcs]; exact RL_ints ρ k zs⟩
  · cases h

/-! ## Closed runs -/
def isTrue (r : Option (V × AH)) : Bool := match r with | some (.bool true, _) => true | _ => false
theorem isTrue_spec {r : Option (V × AH)} (h : isTrue r = true) : ∃ h', r = some (.bool true, h') := by
  unfold isTrue at h
  split at h
  · rename_i h'; exact ⟨h', rfl⟩
  · cases h
theorem closed_calls {E : Env} (ok : E.OK) {n f : Nat} {l : List Tab} {m : Nat} {W : World} (hn : ∀ t ∈ l, t.g < m) (hf : ∀ t ∈ l, t.Fits W) (hg : ∀ g L, E.G g = some L → ∃ t, tabOf l g = some t ∧ t.vs.length = L)
    (hrun : isTrue (runC E n f [] (tabsH m l)) = true) : Calls E.P f #[] W fun e w => e = .returned (.bool true) ∧ Stays W w := by
  obtain ⟨h', hs⟩ := isTrue_spec hrun
  have hG : GOK (E.cfg n) (tabsRho l) := by
    intro g L hgl
    obtain ⟨t, h1, h2⟩ := hg g L hgl
    refine ⟨t.vs.length, ?_⟩
    unfold tabsRho
    rw [h1]
    simp only [h2, if_true]
  refine (runC_sound ok (args' := []) hG (tabs_HR hn hf) (show RL _ [] [] from rfl) hs).mono ?_
  rintro e w ⟨u, ρ', rfl, h1, _, h3⟩
  exact ⟨by rw [show u = .bool true from h1], h3.stays tabs_ro⟩
end Go.Proofs.YtbeohojepniioaaDoor.Ev
