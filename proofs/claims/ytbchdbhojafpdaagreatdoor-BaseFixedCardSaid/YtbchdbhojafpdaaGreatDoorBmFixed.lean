/-
  BaseFixed: the card. The call comes back true, and all that was there reads as it did. No condition.
-/
import Derived.Test.YtbchdbhojafpdaaGreatDoorBmOk
import Derived.Test.YtbchdbhojafpdaaGreatDoorBmFacts
import Derived.Test.YtbchdbhojafpdaaGreatDoorCards
import Derived.Test.YtbchdbhojafpdaaGreatDoorTie
import Derived.Lay
set_option linter.unusedVariables false
set_option linter.unusedSimpArgs false
namespace Go.Proofs.YtbchdbhojafpdaaGreatDoor.baseFixed
open Go Go.ChangeShapes Go.WideShapes Go.ChangeAt Go.RowKit Ev
theorem gKType1 : (Tryz.prog.globals[1]?).map (·.type) = some 227 := by kernel_rfl
theorem gKArr1 : Tryz.prog.underlying 227 = some (.array 64 124) := by kernel_rfl
theorem gKInt1 : Tryz.prog.underlying 124 = some (.int .u32) := by kernel_rfl
theorem cellsK1 : Tryz.prog.cellsOf 227 = 64 := by kernel_rfl
theorem cellsE1 : Tryz.prog.cellsOf 124 = 1 := by kernel_rfl
theorem filt1 : (Rows.baseFixedRow.laid.filter fun x => x.1 == "codicil/sha.k") = [("codicil/sha.k", Rows.laid_codicil_sha_k)] := by kernel_rfl
theorem table1 {W : World} (h : laidMetH Tryz.prog Rows.baseFixedRow.laid W) : Lib.TabIs Tryz.prog W "codicil/sha.k" .u32 tab1 := by
  have h1 := h.filter (fun x => x.1 == "codicil/sha.k")
  rw [filt1] at h1
  exact Lib.tabIs_of_head (rest := []) gK1 gKType1 gKArr1 gKInt1 cellsE1 cellsK1 h1
theorem gKType7 : (Tryz.prog.globals[7]?).map (·.type) = some 334 := by kernel_rfl
theorem gKArr7 : Tryz.prog.underlying 334 = some (.array 20 125) := by kernel_rfl
theorem gKInt7 : Tryz.prog.underlying 125 = some (.int .u64) := by kernel_rfl
theorem cellsK7 : Tryz.prog.cellsOf 334 = 20 := by kernel_rfl
theorem cellsE7 : Tryz.prog.cellsOf 125 = 1 := by kernel_rfl
theorem filt7 : (Rows.baseFixedRow.laid.filter fun x => x.1 == "internal/strconv.uint64pow10") = [("internal/strconv.uint64pow10", Rows.laid_internal_strconv_uint64pow10)] := by kernel_rfl
theorem table7 {W : World} (h : laidMetH Tryz.prog Rows.baseFixedRow.laid W) : Lib.TabIs Tryz.prog W "internal/strconv.uint64pow10" .u64 tab7 := by
  have h1 := h.filter (fun x => x.1 == "internal/strconv.uint64pow10")
  rw [filt7] at h1
  exact Lib.tabIs_of_head (rest := []) gK7 gKType7 gKArr7 gKInt7 cellsE7 cellsK7 h1
theorem own : ownKnob Tryz.prog.godebug = none := by kernel_rfl
theorem calls {W : World} (h1 : Lib.TabIs Tryz.prog W "codicil/sha.k" .u32 tab1) (h7 : Lib.TabIs Tryz.prog W "internal/strconv.uint64pow10" .u64 tab7) : Calls Tryz.prog 3 #[] W fun e w => e = .returned (.bool true) ∧ Same W w := by
  obtain ⟨e, h1, h2⟩ := tabs_fit h1 h7
  exact xclosed_calls envT_ok (n := 60) (f := 3) (l := tabs e) (pl := spot) (m := 13) h1 h2 (gOf_tab e) (law_run e)
set_option maxRecDepth 100000 in
theorem contract (H : Type) (enc : TypeId × Value → H) (W : World) (base : Nat) (args : Array Value) (ds gs : List (DataW H)) (before : List MemPlace)
    (hval : ∀ (j : Nat) t v, Tryz.f3.params[j]? = some t → args[j]? = some v → Value.okWide Tryz.prog W .any base t v)
    (hW : DataW.Whole enc Tryz.prog Tryz.f3.params.toList Rows.baseFixedSpec.vars false W args.toList ds gs before) (hL : laidMetH Tryz.prog Rows.baseFixedRow.laid W) :
    Calls Tryz.prog 3 args W fun e W' => ∃ v, e = .returned v ∧ Rows.baseFixedSpec.post enc Tryz.prog Tryz.f3 false true false false W args v W' := by
  have hW' := hW
  obtain ⟨p, q, hA0, hV, rfl, hfz, hnd⟩ := hW
  have hA : DataW.TrodAll enc Tryz.prog W 0 (fun _ => true) true Tryz.f3.params.toList args.toList ds p := hA0
  rw [Tryz.params3] at hA
  obtain ⟨hargs, rfl, rfl⟩ := trodAll_nil hA
  obtain rfl : args = #[] := by cases args; simp_all
  obtain ⟨rfl, rfl⟩ := trodVars_none hV
  refine (calls (table1 hL) (table7 hL)).mono fun e W' ⟨he, hst⟩ => ?_
  subst he
  exact ⟨_, rfl, post_stays (pa := []) (pv := []) hW' (fun _ _ _ => trodAll_cons_mk (shut_bool Tryz.underlying4 _) trodAll_mk0) (fun _ _ => trodAll_mk0) (fun _ _ => rfl) rfl hst.stays (ok_one (by kernel_rfl) rfl (okWide_bool_mk Tryz.underlying4 _))⟩
noncomputable def laidWorld (os : Os) : World := World.laidAll Tryz.prog os Rows.baseFixedRow.laid
theorem laid_met (os : Os) : laidMet Tryz.prog Rows.baseFixedRow.laid ((laidWorld os).forCall (fun _ _ => 0) ⟨#[], #[], []⟩).memory :=
  laidMet_laidAll _ (by kernel_rfl) (by kernel_rfl)
theorem reads (os : Os) {H : Type} (enc : TypeId × Value → H) : ∃ places, DataW.whole enc Tryz.prog ((laidWorld os).forCall (fun _ _ => 0) ⟨#[], #[], []⟩).memory Tryz.f3.params.toList Rows.baseFixedSpec.vars false (#[] : Array Value).toList 8 = some ([], [], places) :=
  ⟨[], by kernel_rfl⟩
theorem witness_row_shaped {H : Type} {enc : TypeId × Value → H} {C : Checked} {os : Os} {f : FuncId} {fn : Func} {s : OpenSpec} {conds : List PathCond} {apart : Bool} {laid : List (String × DataW Unit)} (modest : Bool) (w0 : World) (args : Array Value) (hos : w0.os = os)
    (hsh : (w0.forCall (fun _ _ => 0) ⟨#[], args, []⟩).Shaped C.prog)
    (hok : Input.okWideB C.prog (w0.forCall (fun _ _ => 0) ⟨#[], args, []⟩) f ⟨#[], args, []⟩ = true)
    (hrow : s.preRow enc C.prog fn conds apart laid (w0.forCall (fun _ _ => 0) ⟨#[], args, []⟩).memory args) :
    ∃ (w : World) (tape : Tape) (i : Input), w.os = os ∧ (w.forCall tape i).Shaped C.prog ∧ i.vars = [] ∧ Input.okWide C.prog (w.forCall tape i) .any w.heap.size f i ∧
      s.preRow enc C.prog fn conds apart laid (w.forCall tape i).memory i.args ∧ ({ modest := modest } : Assume).holds C.prog (lone (Frame.enter C.prog f i.args .normal) [] (w.forCall tape i)) :=
  ⟨w0, fun _ _ => 0, ⟨#[], args, []⟩, hos, hsh, (Input.okWide_of_okWideB (base := 0) hok).1, (Input.okWide_of_okWideB hok).2, hrow, by
    simp only [Assume.holds]
    exact ⟨by simp, by simp, fun _ => Modest.zero, by simp, by simp⟩⟩
theorem shaped (os : Os) : ((laidWorld os).forCall (fun _ _ => 0) ⟨#[], #[], []⟩).Shaped Tryz.prog := World.shaped_of_ZipB (by kernel_rfl) (by kernel_rfl)
set_option maxRecDepth 100000 in
theorem lifted (os : Os) (started : os.Started) (H : Type) (enc : TypeId × Value → H) (F : Stop.Interp) :
    ReturnsInHanded {} Tryz.checked os 3 .any ((OpenSpec.ofChange Rows.baseFixedSpec).preRow enc Tryz.prog Tryz.f3 Rows.baseFixedRow.domain false Rows.baseFixedRow.laid) (((OpenSpec.ofChange Rows.baseFixedSpec).at F).post enc Tryz.prog Tryz.f3 false true false false) := by
  obtain ⟨places, hx⟩ := reads os enc
  refine returnsInHanded_of_row (C := Tryz.checked) (s := OpenSpec.ofChange Rows.baseFixedSpec) own started (by kernel_rfl) Tryz.func3
    (witness_row_shaped (enc := enc) (C := Tryz.checked) false (laidWorld os) #[] (World.laidAll_os _ _ _) (shaped os) (by kernel_rfl)
      (OpenSpec.preRow_of_cond 8 hx (by kernel_rfl) (fun k hk => by cases hk) (by kernel_rfl) (laid_met os))) ?_
  intro W base args ds gs before hval hW _ _ _ hL _ _
  exact contract H enc W base args ds gs before hval hW hL
set_option maxRecDepth 100000 in
theorem said : Rows.BaseFixedSaid :=
  OpenClaim.holds_of_cond 3 Tryz.f3 rfl rfl rfl rfl rfl rfl rfl ⟨rfl, rfl, rfl, rfl, rfl⟩ rfl rfl rfl rfl rfl (by kernel_rfl) Tryz.func3 closed
    (of_decide_eq_true (by kernel_rfl)) (by unfold Func.isWrapper; first | (rw [if_pos (by decide +kernel)]; kernel_rfl) | (rw [if_neg (by decide +kernel)]; exact ⟨rfl, rfl⟩))
    (fun os started H enc _ F => by rw [OpenClaim.pre_eq_preRow]; exact lifted os started H enc F)
set_option maxRecDepth 100000 in
theorem plain (f : FuncId) (fn : Func) (hf : Tryz.pinned.checked.prog.funcNamed "codicil/codicillaw22.BaseFixed" = some f) (hfn : Tryz.pinned.checked.prog.funcs[f]? = some fn) :
    true = Tryz.pinned.checked.prog.looks [] ∧ ∀ (j : Nat) t, fn.params[j]? = some t → Tryz.pinned.checked.prog.wantsStandIn t = false := by
  obtain rfl : f = 3 := Option.some.inj ((show Tryz.prog.funcNamed "codicil/codicillaw22.BaseFixed" = some 3 by kernel_rfl).symm.trans hf) |>.symm
  obtain rfl : fn = Tryz.f3 := (Option.some.inj (Tryz.func3.symm.trans hfn)).symm
  refine ⟨by kernel_rfl, fun j t ht => ?_⟩
  rw [Tryz.params3] at ht
  simp at ht
set_option maxRecDepth 100000 in
theorem card : Rows.BaseFixedCardSaid :=
  Claim7.holds_tied_plain_at .later [] _ _ _ _ said (fun _ h => by cases h) (by kernel_rfl) (fun _ h => by cases h) baseFixed_row_tie rfl ⟨rfl, rfl⟩ (by kernel_rfl) rfl plain (by kernel_rfl)
end Go.Proofs.YtbchdbhojafpdaaGreatDoor.baseFixed
