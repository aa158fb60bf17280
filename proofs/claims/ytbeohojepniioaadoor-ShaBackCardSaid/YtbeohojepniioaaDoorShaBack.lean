/-
  Words for ids there and back, and the order of ids is the order of their words: the row and the card. For every pair of ids and every text the call comes back true, and all that was there reads as it did. No condition.
-/
import Derived.Test.YtbeohojepniioaaDoorShaTwo
import Derived.Test.YtbeohojepniioaaDoorShaTail
set_option linter.unusedVariables false
set_option linter.unusedSimpArgs false

namespace Go.Proofs.YtbeohojepniioaaDoor.shaBack
open Go Go.ChangeShapes Go.WideShapes Go.ChangeAt Go.RowKit Ev

theorem contract (H : Type) (enc : TypeId × Value → H) (W : World) (base : Nat) (args : Array Value) (ds gs : List (DataW H)) (before : List MemPlace)
    (hval : ∀ (j : Nat) t v, Tryd.f8.params[j]? = some t → args[j]? = some v → Value.okWide Tryd.prog W .any base t v)
    (hW : DataW.Whole enc Tryd.prog Tryd.f8.params.toList Rows.shaBackSpec.vars false W args.toList ds gs before) (hL : laidMetH Tryd.prog Rows.shaBackRow.laid W) :
    Calls Tryd.prog 8 args W fun e W' => ∃ v, e = .returned v ∧ Rows.shaBackSpec.post enc Tryd.prog Tryd.f8 false true false false W args v W' := by
  have hW' := hW
  have hlt := hW.lt
  obtain ⟨p, q, hA0, hV, rfl, hfz, hnd⟩ := hW
  have hA : DataW.TrodAll enc Tryd.prog W 0 (fun _ => true) true Tryd.f8.params.toList args.toList ds p := hA0
  rw [Tryd.params8] at hA hval
  obtain ⟨v0, v1, v2, d0, d1, d2, p0, p1, p2, rfl, rfl, rfl, h0, h1, h2⟩ := trodAll_three hA
  obtain ⟨rfl, rfl⟩ := trodVars_none hV
  obtain ⟨z0, l0, w0, rfl⟩ := arr_in (n := 32) Tryd.underlying32 Tryd.underlying5 (by kernel_rfl) (by kernel_rfl) (hval 0 32 v0 rfl rfl) h0
  obtain ⟨z1, l1, w1, rfl⟩ := arr_in (n := 32) Tryd.underlying32 Tryd.underlying5 (by kernel_rfl) (by kernel_rfl) (hval 1 32 v1 rfl rfl) h1
  obtain ⟨s2, rfl⟩ := okWide_string Tryd.underlying9 (hval 2 9 v2 rfl rfl)
  obtain ⟨a1, a2⟩ := bytes_of w0
  obtain ⟨b1, b2⟩ := bytes_of w1
  have hs2 : ∀ x ∈ s2.data.toList.map UInt8.toNat, x < 256 := by
    intro x hx
    obtain ⟨y, _, rfl⟩ := List.mem_map.1 hx
    exact y.toNat_lt
  have walk := walk_flat (f := 8) (args := [.agg (byteL (z0.map Int.toNat)), .agg (byteL (z1.map Int.toNat)), .str (s2.data.toList.map UInt8.toNat)]) (vs := [.agg (z0.map (Value.int .u8)).toArray, .agg (z1.map (Value.int .u8)).toArray, .string s2]) (table rfl hL)
    (fun ρ => ⟨_, _, rfl, by rw [← a1]; exact agg_R ρ .u8 z0, _, _, rfl, by rw [← b1]; exact agg_R ρ .u8 z1, _, _, rfl, ⟨s2, rfl, rfl⟩, rfl⟩)
    (fun h hw hk => by
      obtain ⟨h', hr⟩ := back_spec (F := 401) (n := 0) (by omega) hw hk (a := z0.map Int.toNat) (b := z1.map Int.toNat) (s := s2.data.toList.map UInt8.toNat) (by rw [List.length_map]; exact l0) (by rw [List.length_map]; exact l1) a2 b2 hs2
      exact ⟨_, _, h', hr⟩)
  refine walk.mono fun e W' ⟨he, hst⟩ => ?_
  subst he
  exact ⟨_, rfl, post_stays (pa := p0 ++ (p1 ++ p2)) (pv := []) hW' (fun _ _ _ => trodAll_cons_mk (shut_bool Tryd.underlying4 _) trodAll_mk0)
    (fun sp hsp => trodAll_mk3 (arg_stays hst laidOut (by kernel_rfl) (of_decide_eq_true (by kernel_rfl)) h0 (fun x hx => hlt x (by simp [hx])) sp (fun x hx => hsp x (by simp [hx]))) (arg_stays hst laidOut (by kernel_rfl) (of_decide_eq_true (by kernel_rfl)) h1 (fun x hx => hlt x (by simp [hx])) sp (fun x hx => hsp x (by simp [hx]))) (arg_stays hst laidOut (by kernel_rfl) (of_decide_eq_true (by kernel_rfl)) h2 (fun x hx => hlt x (by simp [hx])) sp (fun x hx => hsp x (by simp [hx]))))
    (fun _ _ => rfl) (by simp) hst.stays (ok_one (by kernel_rfl) rfl (okWide_bool_mk Tryd.underlying4 _))⟩

theorem laid_met (os : Os) : laidMet Tryd.prog Rows.shaBackRow.laid ((laidWorld os).forCall (fun _ _ => 0) ⟨#[], #[.agg (Array.replicate 32 (.int .u8 0)), .agg (Array.replicate 32 (.int .u8 0)), .string ⟨#[]⟩], []⟩).memory :=
  laidMet_of_run' 70 (by kernel_rfl) (by kernel_rfl)
theorem reads (os : Os) {H : Type} (enc : TypeId × Value → H) : ∃ places, DataW.whole enc Tryd.prog ((laidWorld os).forCall (fun _ _ => 0) ⟨#[], #[.agg (Array.replicate 32 (.int .u8 0)), .agg (Array.replicate 32 (.int .u8 0)), .string ⟨#[]⟩], []⟩).memory Tryd.f8.params.toList Rows.shaBackSpec.vars false (#[.agg (Array.replicate 32 (.int .u8 0)), .agg (Array.replicate 32 (.int .u8 0)), .string ⟨#[]⟩] : Array Value).toList 8 = some ([.agg (List.replicate 32 (.lit (.int .u8 0))), .agg (List.replicate 32 (.lit (.int .u8 0))), .lit (.string [])], [], places) :=
  ⟨[], by kernel_rfl⟩
set_option maxRecDepth 100000 in
theorem lifted (os : Os) (started : os.Started) (H : Type) (enc : TypeId × Value → H) (F : Stop.Interp) :
    ReturnsInHanded {} Tryd.checked os 8 .any ((OpenSpec.ofChange Rows.shaBackSpec).preRow enc Tryd.prog Tryd.f8 Rows.shaBackRow.domain false Rows.shaBackRow.laid) (((OpenSpec.ofChange Rows.shaBackSpec).at F).post enc Tryd.prog Tryd.f8 false true false false) := by
  obtain ⟨places, hx⟩ := reads os enc
  refine returnsInHanded_of_row (C := Tryd.checked) (s := OpenSpec.ofChange Rows.shaBackSpec) own started (by kernel_rfl) Tryd.func8
    (witness_row_at (enc := enc) (C := Tryd.checked) false (laidWorld os) #[.agg (Array.replicate 32 (.int .u8 0)), .agg (Array.replicate 32 (.int .u8 0)), .string ⟨#[]⟩] rfl (by kernel_rfl) (by kernel_rfl) (by kernel_rfl)
      (OpenSpec.preRow_of_cond 8 hx (by kernel_rfl) (fun k hk => by cases hk) (by kernel_rfl) (laid_met os))) ?_
  intro W base args ds gs before hval hW _ _ hsz hL _ _
  exact contract H enc W base args ds gs before hval hW hL
theorem said : Rows.ShaBackSaid :=
  OpenClaim.holds_of_cond 8 Tryd.f8 rfl rfl rfl rfl rfl rfl rfl ⟨rfl, rfl, rfl, rfl, rfl⟩ rfl rfl rfl rfl rfl (by kernel_rfl) Tryd.func8 (by kernel_rfl)
    (of_decide_eq_true (by kernel_rfl)) (by unfold Func.isWrapper; first | (rw [if_pos (by decide +kernel)]; kernel_rfl) | (rw [if_neg (by decide +kernel)]; exact ⟨rfl, rfl⟩))
    (fun os started H enc _ F => by rw [OpenClaim.pre_eq_preRow]; exact lifted os started H enc F)
theorem plain (f : FuncId) (fn : Func) (hf : Tryd.pinned.checked.prog.funcNamed "codicil/codicillaw01.ShaBack" = some f) (hfn : Tryd.pinned.checked.prog.funcs[f]? = some fn) :
    false = Tryd.pinned.checked.prog.looks [] ∧ ∀ (j : Nat) t, fn.params[j]? = some t → Tryd.pinned.checked.prog.wantsStandIn t = false := by
  obtain rfl : f = 8 := Option.some.inj ((show Tryd.prog.funcNamed "codicil/codicillaw01.ShaBack" = some 8 by kernel_rfl).symm.trans hf) |>.symm
  obtain rfl : fn = Tryd.f8 := (Option.some.inj (Tryd.func8.symm.trans hfn)).symm
  refine ⟨by kernel_rfl, fun j t ht => ?_⟩
  rw [Tryd.params8] at ht
  have hm := Array.mem_of_getElem? ht
  simp only [List.mem_toArray, List.mem_cons, List.not_mem_nil, or_false] at hm
  rcases hm with rfl | rfl | rfl
  · exact (show Tryd.prog.wantsStandIn 32 = false by kernel_rfl)
  · exact (show Tryd.prog.wantsStandIn 32 = false by kernel_rfl)
  · exact (show Tryd.prog.wantsStandIn 9 = false by kernel_rfl)
theorem card : Rows.ShaBackCardSaid :=
  Claim7.holds_tied_plain_at .later [] _ _ _ _ said (fun _ h => by cases h) (by kernel_rfl) (fun _ h => by cases h) shaBack_row_tie rfl ⟨rfl, rfl⟩ (by kernel_rfl) rfl plain (by kernel_rfl)
end Go.Proofs.YtbeohojepniioaaDoor.shaBack

