/-
  From runs of the first layer's laws to calls. For any worlds that hold the table.
-/
import Derived.Test.YtbeohojepniioaaDoorShaRun
import Derived.Test.YtbeohojepniioaaDoorEwQ
import Derived.Test.YtbeohojepniioaaDoorShaSum
set_option linter.unusedVariables false
set_option linter.unusedSimpArgs false
namespace Go.Proofs.YtbeohojepniioaaDoor
open Go Go.ChangeShapes Go.WideShapes Go.ChangeAt Go.RowKit Ev

theorem laidOut : laidOutB Tryd.prog = true := by kernel_rfl
theorem GG_tab (l : List Tab) (pl : Nat → Spot) (e : Nat) (h : tabOf l 0 = some ⟨0, kTab.map (V.int .u32), e⟩) (hp : pl 0 = ⟨0, 0, 64⟩) (g L : Nat) (hg : GG g = some L) : ∃ t, tabOf l g = some t ∧ t.vs.length = L ∧ (pl g).cb = g ∧ (pl g).off = 0 := by
  cases g with
  | zero => cases hg; exact ⟨_, h, rfl, by rw [hp], by rw [hp]⟩
  | succ g => cases hg
/-- A call over bytes and the table: what comes of it. -/
theorem walk_bytes {W : World} (hL : Lib.TabIs Tryd.prog W "codicil/sha.k" .u32 kTab) {v : Value} {f : FuncId} (l : List Nat) (hl8 : ∀ x ∈ l, x < 256)
    (hv : (l = [] ∧ ((∀ ρ, R ρ .nilslice v) ∨ (∀ ρ, R ρ .loose v))) ∨ (l ≠ [] ∧ ∃ cb off S e' cap, v = .slice (some ⟨cb, off, none⟩) l.length cap ∧ l.length ≤ cap ∧ off + cap ≤ S ∧ ∀ g, Tab.Fits ⟨g, byteL l, e'⟩ ⟨cb, off, S⟩ W))
    (hrun : ∀ (h : AH) (p : V), h.WF → KT h → Bs h p l → ∃ F n h', runC (EE F) n f [p] h = some (.bool true, h')) :
    Calls Tryd.prog f #[v] W fun e w => e = .returned (.bool true) ∧ Same W w := by
  obtain ⟨e, he⟩ := tab_fits hL gK
  have fin : ∀ {F n : Nat} {tl : List Tab} {pl : Nat → Spot} {m : Nat} {p : V} {h' : AH}, (∀ t ∈ tl, t.g < m) → (∀ t ∈ tl, t.Fits (pl t.g) W) → tabOf tl 0 = some ⟨0, kTab.map (V.int .u32), e⟩ → pl 0 = ⟨0, 0, 64⟩ → R (tabsRho tl pl) p v → runC (EE F) n f [p] (tabsH m tl) = some (.bool true, h') →
      Calls Tryd.prog f #[v] W fun e w => e = .returned (.bool true) ∧ Same W w := by
    intro F n tl pl m p h' h1 h2 h3 h4 h5 h6
    refine (tab_calls (EE_ok F) (n := n) (f := f) (l := tl) (pl := pl) (m := m) (W := W) (args := [p]) (args' := [v]) h1 h2 (GG_tab tl pl e h3 h4) (show RL (tabsRho tl pl) [p] [v] from ⟨v, [], rfl, h5, rfl⟩) h6).mono ?_
    rintro x w ⟨u, ρ', rfl, q1, _, _, q2⟩
    exact ⟨by rw [show u = .bool true from q1], q2⟩
  have kt : ∀ {m : Nat} {tl : List Tab}, tabOf tl 0 = some ⟨0, kTab.map (V.int .u32), e⟩ → KT (tabsH m tl) := fun h => tab_read h rfl
  rcases hv with ⟨rfl, hv⟩ | ⟨hne, cb, off, S, e', cap, rfl, hcap, hS, hfit⟩
  · have hw : (tabsH 1 [⟨0, kTab.map (V.int .u32), e⟩]).WF := tabs_wf (by intro t ht; simp only [List.mem_singleton] at ht; subst ht; exact Nat.one_pos)
    have hb : ∀ p, (p = .nilslice ∨ p = .loose) → Bs (tabsH 1 [⟨0, kTab.map (V.int .u32), e⟩]) p [] := fun p hp => ⟨⟨rfl, .inl ⟨rfl, hp⟩⟩, by simp⟩
    rcases hv with hv | hv
    · obtain ⟨F, n, h', hr⟩ := hrun _ _ hw (kt rfl) (hb .nilslice (.inl rfl))
      exact fin (pl := fun _ => ⟨0, 0, 64⟩) (by intro t ht; simp only [List.mem_singleton] at ht; subst ht; exact Nat.one_pos) (by intro t ht; simp only [List.mem_singleton] at ht; subst ht; exact he) rfl rfl (hv _) hr
    · obtain ⟨F, n, h', hr⟩ := hrun _ _ hw (kt rfl) (hb .loose (.inr rfl))
      exact fin (pl := fun _ => ⟨0, 0, 64⟩) (by intro t ht; simp only [List.mem_singleton] at ht; subst ht; exact Nat.one_pos) (by intro t ht; simp only [List.mem_singleton] at ht; subst ht; exact he) rfl rfl (hv _) hr
  · have hm : ∀ t ∈ ([⟨1, byteL l, e'⟩, ⟨0, kTab.map (V.int .u32), e⟩] : List Tab), t.g < 2 := by
      intro t ht
      simp only [List.mem_cons, List.not_mem_nil, or_false] at ht
      rcases ht with rfl | rfl
      · exact Nat.lt_succ_self 1
      · exact Nat.two_pos
    obtain ⟨F, n, h', hr⟩ := hrun _ _ (tabs_wf hm) (kt (m := 2) (tl := [⟨1, byteL l, e'⟩, ⟨0, kTab.map (V.int .u32), e⟩]) rfl) (tab_bs (g := 1) (e := e') rfl hl8)
    refine fin (pl := fun g => bif Nat.beq g 0 then ⟨0, 0, 64⟩ else ⟨cb, off, S⟩) hm ?_ rfl rfl (tab_R (g := 1) (e := e') rfl rfl hcap hS) hr
    intro t ht
    simp only [List.mem_cons, List.not_mem_nil, or_false] at ht
    rcases ht with rfl | rfl
    · exact hfit 1
    · exact he

/-- A call over plain values and the table. -/
theorem walk_flat {W : World} (hL : Lib.TabIs Tryd.prog W "codicil/sha.k" .u32 kTab) {f : FuncId} {args : List V} {vs : List Value} (hR : ∀ ρ, RL ρ args vs)
    (hrun : ∀ h : AH, h.WF → KT h → ∃ F n h', runC (EE F) n f args h = some (.bool true, h')) : Calls Tryd.prog f vs.toArray W fun e w => e = .returned (.bool true) ∧ Same W w := by
  obtain ⟨e, he⟩ := tab_fits hL gK
  have hm : ∀ t ∈ ([⟨0, kTab.map (V.int .u32), e⟩] : List Tab), t.g < 1 := by intro t ht; simp only [List.mem_singleton] at ht; subst ht; exact Nat.one_pos
  obtain ⟨F, n, h', hr⟩ := hrun _ (tabs_wf hm) (tab_read (n := 1) (l := [⟨0, kTab.map (V.int .u32), e⟩]) (g := 0) rfl rfl)
  refine (tab_calls (EE_ok F) (n := n) (f := f) (l := [⟨0, kTab.map (V.int .u32), e⟩]) (pl := fun _ => ⟨0, 0, 64⟩) (m := 1) (W := W) (args := args) (args' := vs) hm (by intro t ht; simp only [List.mem_singleton] at ht; subst ht; exact he) (GG_tab _ _ e rfl rfl) (hR _) hr).mono ?_
  rintro x w ⟨u, ρ', rfl, q1, _, _, q2⟩
  exact ⟨by rw [show u = .bool true from q1], q2⟩
theorem int_wf {n : Int} (h : (Lit.int .i64 n).wf = true) : -9223372036854775808 ≤ n ∧ n ≤ 9223372036854775807 := bounds_i64 h
theorem words_of {zs : List Int} (hl : zs.length = 8) (h : ∀ z ∈ zs, (Lit.int .u32 z).wf = true) : W8 zs := ⟨hl, fun z hz => by have := bounds_u32 (h z hz); exact ⟨by omega, by omega⟩⟩
end Go.Proofs.YtbeohojepniioaaDoor
