/-
  Sum is SHA-256 of any bytes: the row and the card. For every list of bytes the call comes back true, and all that was there reads as it did. No condition.
-/
import Derived.Test.YtbeohojepniioaaDoorShaAwake
import Derived.Test.YtbeohojepniioaaDoorEwQ
set_option linter.unusedVariables false
set_option linter.unusedSimpArgs false
namespace Go.Proofs.YtbeohojepniioaaDoor.shaSums
open Go Go.ChangeShapes Go.WideShapes Go.ChangeAt Go.RowKit Ev

theorem laidOut : laidOutB Tryd.prog = true := by kernel_rfl
theorem GG_tab (l : List Tab) (pl : Nat → Spot) (e : Nat) (h : tabOf l 0 = some ⟨0, kTab.map (V.int .u32), e⟩) (hp : pl 0 = ⟨0, 0, 64⟩) (g L : Nat) (hg : GG g = some L) : ∃ t, tabOf l g = some t ∧ t.vs.length = L ∧ (pl g).cb = g ∧ (pl g).off = 0 := by
  cases g with
  | zero => cases hg; exact ⟨_, h, rfl, by rw [hp], by rw [hp]⟩
  | succ g => cases hg
/-- A call over bytes and the table: what comes of it. -/
theorem walk {W : World} (hL : Lib.TabIs Tryd.prog W "codicil/sha.k" .u32 kTab) {v : Value} {d : DataW Unit} {f : FuncId} (l : List Nat) (hl8 : ∀ x ∈ l, x < 256)
    (hv : (l = [] ∧ ((∀ ρ, R ρ .nilslice v) ∨ (∀ ρ, R ρ .loose v))) ∨ (l ≠ [] ∧ ∃ cb off S e' cap, v = .slice (some ⟨cb, off, none⟩) l.length cap ∧ l.length ≤ cap ∧ off + cap ≤ S ∧ ∀ g, Tab.Fits ⟨g, byteL l, e'⟩ ⟨cb, off, S⟩ W))
    (hrun : ∀ (h : AH) (p : V), h.WF → KT h → Bs h p l → ∃ F n h', runC (EE F) n f [p] h = some (.bool true, h')) :
    Calls Tryd.prog f #[v] W fun e w => e = .returned (.bool true) ∧ Same W w := by
  obtain ⟨e, he⟩ := tab_fits hL gK
  have fin : ∀ {F n : Nat} {tl : List Tab} {pl : Nat → Spot} {m : Nat} {p : V} {h' : AH}, (∀ t ∈ tl, t.g < m) → (∀ t ∈ tl, t.Fits (pl t.g) W) → tabOf tl 0 = some ⟨0, kTab.map (V.int .u32), e⟩ → pl 0 = ⟨0, 0, 64⟩ → R (tabsRho tl pl) p v → runC (EE F) n f [p] (tabsH m tl) = some (.bool true, h') →
      Calls Tryd.prog f #[v] W fun e w => e = .returned (.bool true) ∧ Same W w := by
    intro F n tl pl m p h' h1 h2 h3 h4 h5 h6
    refine (tab_calls (EE_ok F) (n := n) (f := f) (l := tl) (pl := pl) (m := m) (W := W) (args := [p]) (args' := [v]) h1 h2 (GG_tab tl pl e h3 h4) (show RL (tabsRho tl pl) [p] [v] from ⟨v, [], rfl, h5, rfl⟩) h6).mono ?_
    rintro x w ⟨u, ρ', rfl, q1, _, _, q2⟩
    exact ⟨by rw [show u = .bool true from q1], q2⟩
  have kt : ∀ {m : Nat} {tl : List Tab}, tabOf tl 0 = some ⟨0, kTab.map (V.int .u32), e⟩ → KT (tabsH m tl) := fun h => tab_read h rfl
  rcases hv with ⟨rfl, hv⟩ | ⟨hne, cb, off, S, e', cap, rfl, hcap, hS, hfit⟩
  · have hw : (tabsH 1 [⟨0, kTab.map (V.int .u32), e⟩]).WF := tabs_wf (by intro t ht; simp only [List.mem_singleton] at ht; subst ht; exact Nat.one_pos)
    have hb : ∀ p, (p = .nilslice ∨ p = .loose) → Bs (tabsH 1 [⟨0, kTab.map (V.int .u32), e⟩]) p [] := fun p hp => ⟨⟨rfl, .inl ⟨rfl, hp⟩⟩, by simp⟩
    rcases hv with hv | hv
    · obtain ⟨F, n, h', hr⟩ := hrun _ _ hw (kt rfl) (hb .nilslice (.inl rfl))
      exact fin (pl := fun _ => ⟨0, 0, 64⟩) (by intro t ht; simp only [List.mem_singleton] at ht; subst ht; exact Nat.one_pos) (by intro t ht; simp only [List.mem_singleton] at ht; subst ht; exact he) rfl rfl (hv _) hr
    · obtain ⟨F, n, h', hr⟩ := hrun _ _ hw (kt rfl) (hb .loose (.inr rfl))
      exact fin (pl := fun _ => ⟨0, 0, 64⟩) (by intro t ht; simp only [List.mem_singleton] at ht; subst ht; exact Nat.one_pos) (by intro t ht; simp only [List.mem_singleton] at ht; subst ht; exact he) rfl rfl (hv _) hr
  · have hm : ∀ t ∈ ([⟨1, byteL l, e'⟩, ⟨0, kTab.map (V.int .u32), e⟩] : List Tab), t.g < 2 := by
      intro t ht
      simp only [List.mem_cons, List.not_mem_nil, or_false] at ht
      rcases ht with rfl | rfl
      · exact Nat.lt_succ_self 1
      · exact Nat.two_pos
    obtain ⟨F, n, h', hr⟩ := hrun _ _ (tabs_wf hm) (kt (m := 2) (tl := [⟨1, byteL l, e'⟩, ⟨0, kTab.map (V.int .u32), e⟩]) rfl) (tab_bs (g := 1) (e := e') rfl hl8)
    refine fin (pl := fun g => bif Nat.beq g 0 then ⟨0, 0, 64⟩ else ⟨cb, off, S⟩) hm ?_ rfl rfl (tab_R (g := 1) (e := e') rfl rfl hcap hS) hr
    intro t ht
    simp only [List.mem_cons, List.not_mem_nil, or_false] at ht
    rcases ht with rfl | rfl
    · exact hfit 1
    · exact he

theorem contract (H : Type) (enc : TypeId × Value → H) (W : World) (base : Nat) (args : Array Value) (ds gs : List (DataW H)) (before : List MemPlace)
    (hval : ∀ (j : Nat) t v, Tryd.f4.params[j]? = some t → args[j]? = some v → Value.okWide Tryd.prog W .any base t v)
    (hW : DataW.Whole enc Tryd.prog Tryd.f4.params.toList Rows.shaSumsSpec.vars false W args.toList ds gs before)
    (hsz : (DataW.weightsEach Tryd.prog (Tryd.f4.params.toList ++ []) (ds ++ gs)).all (· ≤ reachBytes) = true) (hL : laidMetH Tryd.prog Rows.shaSumsRow.laid W) :
    Calls Tryd.prog 4 args W fun e W' => ∃ v, e = .returned v ∧ Rows.shaSumsSpec.post enc Tryd.prog Tryd.f4 false true false false W args v W' := by
  have hW' := hW
  have hlt := hW.lt
  obtain ⟨p, q, hA0, hV, rfl, hfz, hnd⟩ := hW
  have hA : DataW.TrodAll enc Tryd.prog W 0 (fun _ => true) true Tryd.f4.params.toList args.toList ds p := hA0
  rw [Tryd.params4] at hA hval hsz
  obtain ⟨v0, d0, rfl, rfl, h0⟩ := trodAll_one hA
  obtain ⟨rfl, rfl⟩ := trodVars_none hV
  obtain ⟨l, hl8, hl⟩ := bytes_in Tryd.underlying28 Tryd.underlying5 (by kernel_rfl) (hval 0 28 v0 rfl rfl) h0
  have hlen : l.length ≤ 140737488354000 := by
    rcases hl with ⟨rfl, _⟩ | ⟨_, cb, off, S, e', cap, elems, spare, rfl, _, _, rfl, hel, _⟩
    · simp
    · have := sized_slice hsz (j := 0) (t := 28) (e := 5) rfl rfl Tryd.underlying28
      have hb : Tryd.prog.bytesOf 5 = 1 := by kernel_rfl
      rw [hb] at this
      have hr : reachBytes = 140737488351232 := rfl
      omega
  have walk := walk (d := .nil) (f := 4) (table rfl hL) l hl8 (by
    rcases hl with h | ⟨h1, cb, off, S, e', cap, elems, spare, h2, h3, h4, _, _, h5⟩
    · exact .inl h
    · exact .inr ⟨h1, cb, off, S, e', cap, h2, h3, h4, h5⟩) (fun h p hw hk hb => by
      obtain ⟨h', hr, _⟩ := sums_spec (F := l.length + 301) (n := 0) hw hk hb hlen (by omega)
      exact ⟨_, _, h', hr⟩)
  refine walk.mono fun e W' ⟨he, hst⟩ => ?_
  subst he
  exact ⟨_, rfl, post_stays (pa := p) (pv := []) hW' (fun _ _ _ => trodAll_cons_mk (shut_bool Tryd.underlying4 _) trodAll_mk0)
    (fun sp hsp => trodAll_mk1 (arg_stays hst laidOut (by kernel_rfl) (of_decide_eq_true (by kernel_rfl)) h0 (fun x hx => hlt x (by simpa using hx)) sp (fun x hx => hsp x (by simpa using hx))))
    (fun _ _ => rfl) rfl hst.stays (ok_one (by kernel_rfl) rfl (okWide_bool_mk Tryd.underlying4 _))⟩

theorem laid_met (os : Os) : laidMet Tryd.prog Rows.shaSumsRow.laid ((laidWorld os).forCall (fun _ _ => 0) ⟨#[], #[.slice none 0 0], []⟩).memory :=
  laidMet_of_run' 70 (by kernel_rfl) (by kernel_rfl)
theorem reads (os : Os) {H : Type} (enc : TypeId × Value → H) : ∃ places, DataW.whole enc Tryd.prog ((laidWorld os).forCall (fun _ _ => 0) ⟨#[], #[.slice none 0 0], []⟩).memory Tryd.f4.params.toList Rows.shaSumsSpec.vars false (#[Value.slice none 0 0] : Array Value).toList 8 = some ([.nil], [], places) :=
  ⟨[], by kernel_rfl⟩
set_option maxRecDepth 100000 in
theorem lifted (os : Os) (started : os.Started) (H : Type) (enc : TypeId × Value → H) (F : Stop.Interp) :
    ReturnsInHanded {} Tryd.checked os 4 .any ((OpenSpec.ofChange Rows.shaSumsSpec).preRow enc Tryd.prog Tryd.f4 Rows.shaSumsRow.domain false Rows.shaSumsRow.laid) (((OpenSpec.ofChange Rows.shaSumsSpec).at F).post enc Tryd.prog Tryd.f4 false true false false) := by
  obtain ⟨places, hx⟩ := reads os enc
  refine returnsInHanded_of_row (C := Tryd.checked) (s := OpenSpec.ofChange Rows.shaSumsSpec) own started (by kernel_rfl) Tryd.func4
    (witness_row_at (enc := enc) (C := Tryd.checked) false (laidWorld os) #[.slice none 0 0] rfl (by kernel_rfl) (by kernel_rfl) (by kernel_rfl)
      (OpenSpec.preRow_of_cond 8 hx (by kernel_rfl) (fun k hk => by cases hk) (by kernel_rfl) (laid_met os))) ?_
  intro W base args ds gs before hval hW _ _ hsz hL _ _
  exact contract H enc W base args ds gs before hval hW hsz hL
theorem said : Rows.ShaSumsSaid :=
  OpenClaim.holds_of_cond 4 Tryd.f4 rfl rfl rfl rfl rfl rfl rfl ⟨rfl, rfl, rfl, rfl, rfl⟩ rfl rfl rfl rfl rfl (by kernel_rfl) Tryd.func4 (by kernel_rfl)
    (of_decide_eq_true (by kernel_rfl)) (by unfold Func.isWrapper; first | (rw [if_pos (by decide +kernel)]; kernel_rfl) | (rw [if_neg (by decide +kernel)]; exact ⟨rfl, rfl⟩))
    (fun os started H enc _ F => by rw [OpenClaim.pre_eq_preRow]; exact lifted os started H enc F)
theorem plain (f : FuncId) (fn : Func) (hf : Tryd.pinned.checked.prog.funcNamed "codicil/codicillaw01.ShaSums" = some f) (hfn : Tryd.pinned.checked.prog.funcs[f]? = some fn) :
    false = Tryd.pinned.checked.prog.looks [] ∧ ∀ (j : Nat) t, fn.params[j]? = some t → Tryd.pinned.checked.prog.wantsStandIn t = false := by
  obtain rfl : f = 4 := Option.some.inj ((show Tryd.prog.funcNamed "codicil/codicillaw01.ShaSums" = some 4 by kernel_rfl).symm.trans hf) |>.symm
  obtain rfl : fn = Tryd.f4 := (Option.some.inj (Tryd.func4.symm.trans hfn)).symm
  refine ⟨by kernel_rfl, fun j t ht => ?_⟩
  rw [Tryd.params4] at ht
  obtain rfl : t = 28 := by simpa using Array.mem_of_getElem? ht
  exact (show Tryd.prog.wantsStandIn 28 = false by kernel_rfl)
theorem card : Rows.ShaSumsCardSaid :=
  Claim7.holds_tied_plain_at .later [] _ _ _ _ said (fun _ h => by cases h) (by kernel_rfl) (fun _ h => by cases h) shaSums_row_tie rfl ⟨rfl, rfl⟩ (by kernel_rfl) rfl plain (by kernel_rfl)
end Go.Proofs.YtbeohojepniioaaDoor.shaSums
