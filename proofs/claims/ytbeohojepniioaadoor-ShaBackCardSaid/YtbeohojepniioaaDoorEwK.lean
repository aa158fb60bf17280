/-
  From runs of the own machine to rows: tables laid in memory; what a call leaves as it was. No program in sight. No condition.
-/
import Derived.Test.YtbeohojepniioaaDoorEwH
import Derived.WalkKit
import Derived.ProofKit
import Derived.OpenShut
import Derived.Deep.DeepHandedRow
import Derived.Lib.LaidTab
import Derived.Below
set_option linter.unusedVariables false
set_option linter.unusedSimpArgs false
namespace Go.Proofs.YtbeohojepniioaaDoor.Ev
open Go Go.ChangeShapes Go.WideShapes Go.ChangeAt Go.RowKit

/-- All that was there is as it was. -/
def Stays (W w : World) : Prop := W.keptBut w (fun _ => False) ∧ (∀ a : Addr, a.block < W.heap.size → w.frozen? a = W.frozen? a)
theorem keptBut_same {W w : World} (hos : w.os = W.os) (hout : w.output = W.output) (hb : ∀ i, i < W.heap.size → w.heap[i]? = W.heap[i]?) : W.keptBut w (fun _ => False) := by
  refine ⟨hos, hout, fun i hi => ?_⟩
  rw [hb i hi]
  cases W.heap[i]? with
  | none => rfl
  | some o =>
    cases o with
    | cells c t fr => exact ⟨rfl, rfl, rfl, fun _ _ => rfl⟩
    | map es clock => exact .inr ⟨rfl, rfl⟩
    | _ => rfl
theorem frozen_same {W w : World} {a : Addr} (h : w.heap[a.block]? = W.heap[a.block]?) : w.frozen? a = W.frozen? a := by
  unfold World.frozen?
  rw [h]
theorem Step.stays {ρ ρ' : Rho} {h h' : AH} {W w : World} (hs : Step ρ h W ρ' h' w) (hro : ∀ b k, h.get b = some k → k.ro = true) : Stays W w := by
  have hb : ∀ i, i < W.heap.size → w.heap[i]? = W.heap[i]? := fun i hi => hs.keep i hi (by
    rintro ⟨b, L, x, k, _, hk, hr⟩
    rw [hro b k hk] at hr
    cases hr)
  exact ⟨keptBut_same hs.os hs.output hb, fun a ha => frozen_same (hb _ ha)⟩

section
variable {H : Type} {enc : TypeId × Value → H} {P : Program}
/-- What a law's row asks of a call that hands back a truth and leaves all that was there as it was. -/
theorem post_stays {f : Func} {s : ChangeSpec} {apart fresh handsOn again : Bool} {W W' : World} {args : Array Value} {v : Value} {ds gs : List (DataW H)} {before pa pv : List MemPlace}
    (hW : DataW.Whole enc P f.params.toList s.vars apart W args.toList ds gs before)
    (hres : ∀ (b : Nat) (sp : Nat → Bool) (hd : Bool), DataW.TrodAll enc P W' b sp hd f.resultTypes.toList (v.resultList f.resultTypes.size) (s.fn H (ds ++ gs)).results [])
    (hargs : ∀ sp : Nat → Bool, (∀ p ∈ before, sp p.block = true) → DataW.TrodAll enc P W' 0 sp true f.params.toList args.toList (s.fn H (ds ++ gs)).args pa)
    (hvars : ∀ sp : Nat → Bool, (∀ p ∈ before, sp p.block = true) → DataW.TrodVars enc P W' sp s.vars (s.fn H (ds ++ gs)).vars pv)
    (hps : before = pa ++ pv) (hst : Stays W W')
    (hok : ∀ (j : Nat) (t : TypeId) (r : Value), f.resultTypes[j]? = some t → (v.resultList f.resultTypes.size)[j]? = some r → Value.okWide P W' .any 0 t r) :
    s.post enc P f apart fresh handsOn again W args v W' := by
  have hlt := fun p hp => hW.lt p hp
  have hold : ∀ p ∈ before, (fun b => decide (b < W.heap.size)) p.block = true := fun p hp => by simpa using hlt p hp
  have hWhole := hW
  obtain ⟨_, _, _, _, _, hz, hn⟩ := hW
  refine ⟨ds, gs, before, [], pa, pv, hWhole, hres _ _ _, hargs _ hold, hvars _ hold, World.keptBut_mono (fun p hp => False.elim hp) hst.1, fun _ => ?_⟩
  refine ⟨hok, _, _, ([] ++ pa) ++ pv, ⟨[] ++ pa, pv, trodAll_append (hargs _ (fun _ _ => rfl)) (hres _ _ _), hvars _ (fun _ _ => rfl), rfl, ?_, ?_⟩, ?_⟩
  · intro b off hp
    have hm : MemPlace.cell b off ∈ before := by rw [hps]; simpa using hp
    have hb := hlt _ hm
    have := hst.2 ⟨b, off, none⟩ hb
    have hz' := hz b off hm
    first
      | exact this.trans hz'
      | (rw [hst.2 _ hb]; exact hz')
  · intro ha
    have := hn ha
    rw [hps] at this
    simpa using this
  · intro p hp _
    rw [hps]
    simpa using hp
end

/-! ## Rows of cells that are read and never written -/
structure Tab where
  g : Nat
  vs : List V
  e : Nat
/-- Where such a row lies: its block, how far in, how many cells the block has. -/
structure Spot where
  cb : Nat
  off : Nat
  S : Nat
noncomputable def tabsT : List Tab → T Blk
  | [] => .leaf
  | t :: l => (tabsT l).set t.g ⟨Arr.ofList t.vs, 0, 0, true, t.e⟩
noncomputable def tabsH (n : Nat) (l : List Tab) : AH := ⟨n, n, tabsT l⟩
def tabOf (l : List Tab) (b : Nat) : Option Tab := l.find? fun t => t.g == b
def tabsRho (l : List Tab) (pl : Nat → Spot) : Rho := fun b L => match tabOf l b with
  | some t => if L = t.vs.length then some ((pl b).cb, -((pl b).off : Int), (pl b).S) else none
  | none => none
theorem tabsT_get : ∀ (l : List Tab) (b : Nat), (tabsT l).get b = (tabOf l b).map fun t => ⟨Arr.ofList t.vs, 0, 0, true, t.e⟩ := by
  intro l
  induction l with
  | nil => intro b; exact T.get_leaf b
  | cons t l ih =>
    intro b
    show ((tabsT l).set t.g _).get b = _
    rw [T.get_set, ih]
    unfold tabOf
    rw [List.find?_cons]
    by_cases h : b = t.g
    · subst h; simp
    · have : (t.g == b) = false := by simpa using fun e => h e.symm
      rw [if_neg h, this]
theorem tabOf_spec {l : List Tab} {b : Nat} {t : Tab} (h : tabOf l b = some t) : t ∈ l ∧ t.g = b := by
  unfold tabOf at h
  exact ⟨List.mem_of_find?_eq_some h, by simpa using List.find?_some h⟩
def Tab.Fits (t : Tab) (p : Spot) (W : World) : Prop := ∃ us lo hi, W.heap[p.cb]? = some (.cells us t.e (lo, hi)) ∧ us.size = p.S ∧ p.off + t.vs.length ≤ p.S ∧ ∀ ρ j v, t.vs[j]? = some v → ∃ u, us[p.off + j]? = some u ∧ R ρ v u
theorem tabsRho_inv {l : List Tab} {pl : Nat → Spot} {b L : Nat} {x : Nat × Int × Nat} (h : tabsRho l pl b L = some x) : ∃ t, tabOf l b = some t ∧ L = t.vs.length ∧ x = ((pl b).cb, -((pl b).off : Int), (pl b).S) := by
  unfold tabsRho at h
  split at h
  · rename_i t ht
    split at h
    · rename_i hL; cases h; exact ⟨t, ht, hL, rfl⟩
    · cases h
  · cases h
theorem tabsRho_of {l : List Tab} {pl : Nat → Spot} {b : Nat} {t : Tab} (h : tabOf l b = some t) : tabsRho l pl b t.vs.length = some ((pl b).cb, -((pl b).off : Int), (pl b).S) := by
  unfold tabsRho
  rw [h]
  simp
theorem tabsH_inv {n : Nat} {l : List Tab} {b : Nat} {k : Blk} (h : (tabsH n l).get b = some k) : ∃ t, tabOf l b = some t ∧ k = ⟨Arr.ofList t.vs, 0, 0, true, t.e⟩ := by
  have h' : (tabsT l).get b = some k := h
  rw [tabsT_get] at h'
  cases ht : tabOf l b with
  | none => rw [ht] at h'; cases h'
  | some t => rw [ht] at h'; exact ⟨t, rfl, (Option.some.inj h').symm⟩
theorem tabs_ro {n : Nat} {l : List Tab} : ∀ b k, (tabsH n l).get b = some k → k.ro = true := by
  intro b k h
  obtain ⟨t, _, rfl⟩ := tabsH_inv h
  rfl
theorem tabs_HR {n : Nat} {l : List Tab} {pl : Nat → Spot} {W : World} (hn : ∀ t ∈ l, t.g < n) (hf : ∀ t ∈ l, t.Fits (pl t.g) W) : HR (tabsRho l pl) (tabsH n l) W := by
  refine ⟨?_, ?_, ?_, ?_, ?_, ?_⟩
  · intro b L x h
    obtain ⟨t, h1, _, _⟩ := tabsRho_inv h
    obtain ⟨h2, rfl⟩ := tabOf_spec h1
    exact hn t h2
  · intro b k h
    obtain ⟨t, h1, _⟩ := tabsH_inv h
    obtain ⟨h2, rfl⟩ := tabOf_spec h1
    exact hn t h2
  · intro b L cb x h
    obtain ⟨t, h1, _, h3⟩ := tabsRho_inv h
    cases h3
    obtain ⟨h2, rfl⟩ := tabOf_spec h1
    obtain ⟨us, lo, hi, g1, _⟩ := hf t h2
    exact (Array.getElem?_eq_some_iff.1 g1).1
  · intro b L b' L' cb x x' k _ _ hk hro
    rw [tabs_ro b k hk] at hro
    cases hro
  · intro b k L x hk h
    obtain ⟨t, h1, h2, _⟩ := tabsRho_inv h
    obtain ⟨t', h1', rfl⟩ := tabsH_inv hk
    rw [h1] at h1'
    cases h1'
    rw [Arr.ofList_n, h2]
    exact Nat.le_refl _
  · intro b k L cb sh S hk h _
    obtain ⟨t, h1, h2, h3⟩ := tabsRho_inv h
    cases h3
    obtain ⟨t', h1', rfl⟩ := tabsH_inv hk
    rw [h1] at h1'
    cases h1'
    obtain ⟨h4, rfl⟩ := tabOf_spec h1
    obtain ⟨us, lo, hi, g1, g2, g3, g4⟩ := hf t h4
    refine ⟨us, lo, hi, g1, g2, by omega, ?_, fun h5 => by cases h5⟩
    intro j v _ _ hv
    rw [Arr.get_ofList] at hv
    obtain ⟨u, q1, q2⟩ := g4 (tabsRho l pl) j v hv
    exact ⟨u, by rw [← q1]; congr 1; omega, q2⟩
/-- A table of numbers, by what a row's condition says of it. -/
theorem tab_fits {P : Program} {W : World} {name : String} {k : IntKind} {zs : List Int} {g : Nat} (h : Lib.TabIs P W name k zs) (hg : P.globalNamed name = some g) : ∃ e, Tab.Fits ⟨g, zs.map (V.int k), e⟩ ⟨g, 0, zs.length⟩ W := by
  unfold Lib.TabIs World.var? at h
  rw [hg] at h
  simp only [Option.bind_some] at h
  split at h
  · rename_i cs e fr hw
    obtain ⟨lo, hi⟩ := fr
    have hcs : cs = (zs.map fun z => Value.int k z).toArray := Option.some.inj h
    refine ⟨e, cs, lo, hi, hw, by rw [hcs]; simp, by simp, fun ρ j v hv => ?_⟩
    simp only [List.getElem?_map] at hv
    cases hz : zs[j]? with
    | none => rw [hz] at hv; cases hv
    | some z =>
      rw [hz] at hv
      cases hv
      refine ⟨.int k z, ?_, rfl⟩
      rw [hcs]
      simp only [Nat.zero_add, List.getElem?_toArray, List.getElem?_map, hz]
      rfl
  · cases h

/-! ## Calls that write nothing that was there -/
/-- All that was there is as it was, seen from the machine. -/
structure Same (W w : World) : Prop where
  os : w.os = W.os
  tape : w.tape = W.tape
  output : w.output = W.output
  size : W.heap.size ≤ w.heap.size
  heap : ∀ i, i < W.heap.size → w.heap[i]? = W.heap[i]?
theorem Same.stays {W w : World} (h : Same W w) : Stays W w := ⟨keptBut_same h.os h.output h.heap, fun _ ha => frozen_same (h.heap _ ha)⟩
theorem Same.refl (W : World) : Same W W := ⟨rfl, rfl, rfl, Nat.le_refl _, fun _ _ => rfl⟩
theorem Same.trans {a b c : World} (x : Same a b) (y : Same b c) : Same a c := ⟨y.os.trans x.os, y.tape.trans x.tape, y.output.trans x.output, Nat.le_trans x.size y.size, fun i hi => (y.heap i (Nat.lt_of_lt_of_le hi x.size)).trans (x.heap i hi)⟩
theorem Step.same {ρ ρ' : Rho} {h h' : AH} {W w : World} (hs : Step ρ h W ρ' h' w) (hro : ∀ b k, h.get b = some k → k.ro = true) : Same W w :=
  ⟨hs.os, hs.tape, hs.output, hs.size, fun i hi => hs.keep i hi (by
    rintro ⟨b, L, x, k, _, hk, hr⟩
    rw [hro b k hk] at hr
    cases hr)⟩
theorem HR.same {ρ : Rho} {h : AH} {W w : World} (hr : HR ρ h W) (hs : Same W w) : HR ρ h w :=
  ⟨hr.fresh, hr.lives, fun b L cb x hx => Nat.lt_of_lt_of_le (hr.bound b L cb x hx) hs.size, hr.inj, hr.top, fun b k L cb sh S h1 h2 h3 => (hr.blk b k L cb sh S h1 h2 h3).mono (Rho.le_refl ρ) (hs.heap _ (hr.bound _ _ _ _ h2))⟩
theorem Same.step (ρ : Rho) (h : AH) {W w : World} (hs : Same W w) : Step ρ h W ρ h w :=
  ⟨Rho.le_refl ρ, fun b L c x hx _ => ⟨L, x, hx⟩, fun b k' hk' _ => ⟨k', hk', rfl⟩, Nat.le_refl _, hs.os, hs.tape, hs.output, hs.size, fun i hi _ => hs.heap i hi, Nat.le_refl _, fun _ _ _ => rfl⟩
/-- A run over rows that are read alone: what the call does. -/
theorem tab_calls {E : Env} (ok : E.OK) {n f : Nat} {l : List Tab} {pl : Nat → Spot} {m : Nat} {W : World} {args : List V} {args' : List Value} {v : V} {h' : AH} (hn : ∀ t ∈ l, t.g < m) (hf : ∀ t ∈ l, t.Fits (pl t.g) W)
    (hg : ∀ g L, E.G g = some L → ∃ t, tabOf l g = some t ∧ t.vs.length = L ∧ (pl g).cb = g ∧ (pl g).off = 0) (hR : RL (tabsRho l pl) args args') (hrun : runC E n f args (tabsH m l) = some (v, h')) :
    Calls E.P f args'.toArray W fun e w => ∃ u ρ', e = .returned u ∧ R ρ' v u ∧ ((tabsRho l pl).le ρ' ∧ ∀ b L cb x, ρ' b L = some (cb, x) → cb < W.heap.size → ∃ L0 x0, tabsRho l pl b L0 = some (cb, x0)) ∧ HR ρ' h' w ∧ Same W w := by
  have hG : GOK (E.cfg n) (tabsRho l pl) := by
    intro g L hgl
    obtain ⟨t, h1, h2, h3, h4⟩ := hg g L hgl
    refine ⟨(pl g).S, ?_⟩
    rw [← h2, tabsRho_of h1, h3, h4]
    rfl
  refine (runC_sound ok (args' := args') hG (tabs_HR hn hf) hR hrun).mono ?_
  rintro e w ⟨u, ρ', rfl, h1, h2, h3⟩
  exact ⟨u, ρ', rfl, h1, ⟨h3.le, h3.cons⟩, h2, h3.same tabs_ro⟩

/-! ## Closed runs -/
def isTrue (r : Option (V × AH)) : Bool := match r with | some (.bool true, _) => true | _ => false
theorem isTrue_spec {r : Option (V × AH)} (h : isTrue r = true) : ∃ h', r = some (.bool true, h') := by
  unfold isTrue at h
  split at h
  · rename_i h'; exact ⟨h', rfl⟩
  · cases h
theorem closed_calls {E : Env} (ok : E.OK) {n f : Nat} {l : List Tab} {pl : Nat → Spot} {m : Nat} {W : World} (hn : ∀ t ∈ l, t.g < m) (hf : ∀ t ∈ l, t.Fits (pl t.g) W) (hg : ∀ g L, E.G g = some L → ∃ t, tabOf l g = some t ∧ t.vs.length = L ∧ (pl g).cb = g ∧ (pl g).off = 0)
    (hrun : isTrue (runC E n f [] (tabsH m l)) = true) : Calls E.P f #[] W fun e w => e = .returned (.bool true) ∧ Same W w := by
  obtain ⟨h', hs⟩ := isTrue_spec hrun
  refine (tab_calls ok (args' := []) hn hf hg (show RL _ [] [] from rfl) hs).mono ?_
  rintro e w ⟨u, ρ', rfl, h1, _, _, h3⟩
  exact ⟨by rw [show u = .bool true from h1], h3⟩
end Go.Proofs.YtbeohojepniioaaDoor.Ev
