/-
  The document's examples hold: the row and the card of PackidxFixed. The call comes back true, and all that was there reads as it did. No condition.
-/
import Derived.Test.YtcmhoboglapbdaaDoorQFE
set_option linter.unusedVariables false
set_option linter.unusedSimpArgs false
namespace Go.Proofs.YtcmhoboglapbdaaDoor.packidxFixed
open Go Go.ChangeShapes Go.WideShapes Go.ChangeAt Go.RowKit Ev
set_option maxRecDepth 100000 in
theorem contract(H:Type)(enc:TypeId×Value→H)(W:World)(base:Nat)(args:Array Value)(ds gs:List (DataW H))(before:List MemPlace)
  (hval:∀ (j:Nat) t v,Tryd.f6.params[j]?=some t→args[j]?=some v→Value.okWide Tryd.prog W .any base t v)
  (hW:DataW.Whole enc Tryd.prog Tryd.f6.params.toList Rows.packidxFixedSpec.vars false W args.toList ds gs before) (hL:laidMetH Tryd.prog Rows.packidxFixedRow.laid W) :
  Calls Tryd.prog 6 args W fun e W'=>∃ v,e=.returned v∧Rows.packidxFixedSpec.post enc Tryd.prog Tryd.f6 false true false false W args v W':=by
 have hW':=hW
 obtain ⟨p,q,hA0,hV,rfl,hfz,hnd⟩:=hW
 have hA:DataW.TrodAll enc Tryd.prog W 0 (fun _=>true) true Tryd.f6.params.toList args.toList ds p:=hA0
 rw [Tryd.params6] at hA
 obtain ⟨hargs,rfl,rfl⟩:=trodAll_nil hA
 obtain rfl:args=#[]:=by cases args;simp_all
 obtain ⟨rfl,rfl⟩:=trodVars_none hV
 have walk:=walk_flat (f:=6) (args:=[]) (vs:=[]) (table rfl hL) (fun ρ=>rfl) (fun h hw hk=>by
  obtain ⟨h',hr⟩:=fixed_spec (F:=2000001) (m:=0) (by omega) hw hk
  exact ⟨_,_,h',hr⟩)
 refine walk.mono fun e W' ⟨he,hst⟩=>?_
 subst he
 exact ⟨_,rfl,post_stays (pa:=[]) (pv:=[]) hW' (fun _ _ _=>trodAll_cons_mk (shut_bool Tryd.underlying4 _) trodAll_mk0) (fun _ _=>trodAll_mk0) (fun _ _=>rfl) rfl hst.stays (ok_one (by kernel_rfl) rfl (okWide_bool_mk Tryd.underlying4 _))⟩
theorem laid_met(os:Os):laidMet Tryd.prog Rows.packidxFixedRow.laid ((laidWorld os).forCall (fun _ _=>0) ⟨#[],#[],[]⟩).memory :=
 laidMet_of_run' 70 (by kernel_rfl) (by kernel_rfl)
theorem reads(os:Os){H:Type}(enc:TypeId×Value→H):∃ places,DataW.whole enc Tryd.prog ((laidWorld os).forCall (fun _ _=>0) ⟨#[],#[],[]⟩).memory Tryd.f6.params.toList Rows.packidxFixedSpec.vars false (#[]:Array Value).toList 8=some ([],[],places) :=
 ⟨[],by kernel_rfl⟩
set_option maxRecDepth 100000 in
theorem lifted(os:Os)(started:os.Started)(H:Type)(enc:TypeId×Value→H)(F:Stop.Interp) :
  ReturnsInHanded {} Tryd.checked os 6 .any ((OpenSpec.ofChange Rows.packidxFixedSpec).preRow enc Tryd.prog Tryd.f6 Rows.packidxFixedRow.domain false Rows.packidxFixedRow.laid) (((OpenSpec.ofChange Rows.packidxFixedSpec).at F).post enc Tryd.prog Tryd.f6 false true false false):=by
 obtain ⟨places,hx⟩:=reads os enc
 refine returnsInHanded_of_row (C:=Tryd.checked) (s:=OpenSpec.ofChange Rows.packidxFixedSpec) own started (by kernel_rfl) Tryd.func6
  (witness_row_at (enc:=enc) (C:=Tryd.checked) false (laidWorld os) #[] rfl (by kernel_rfl) (by kernel_rfl) (by kernel_rfl)
   (OpenSpec.preRow_of_cond 8 hx (by kernel_rfl) (fun k hk=>by cases hk) (by kernel_rfl) (laid_met os))) ?_
 intro W base args ds gs before hval hW _ _ _ hL _ _
 exact contract H enc W base args ds gs before hval hW hL
theorem said:Rows.PackidxFixedSaid :=
 OpenClaim.holds_of_cond 6 Tryd.f6 rfl rfl rfl rfl rfl rfl rfl ⟨rfl,rfl,rfl,rfl,rfl⟩ rfl rfl rfl rfl rfl (by kernel_rfl) Tryd.func6 (by kernel_rfl)
  (of_decide_eq_true (by kernel_rfl)) (by unfold Func.isWrapper;first | (rw [if_pos (by decide +kernel)];kernel_rfl) | (rw [if_neg (by decide +kernel)];exact ⟨rfl,rfl⟩))
  (fun os started H enc _ F=>by rw [OpenClaim.pre_eq_preRow];exact lifted os started H enc F)
theorem plain(f:FuncId)(fn:Func)(hf:Tryd.pinned.checked.prog.funcNamed "codicil/codicillaw10.PackidxFixed"=some f)(hfn:Tryd.pinned.checked.prog.funcs[f]?=some fn) :
  false=Tryd.pinned.checked.prog.looks []∧∀ (j:Nat) t,fn.params[j]?=some t→Tryd.pinned.checked.prog.wantsStandIn t=false:=by
 obtain rfl:f=6:=Option.some.inj ((show Tryd.prog.funcNamed "codicil/codicillaw10.PackidxFixed"=some 6 by kernel_rfl).symm.trans hf) |>.symm
 obtain rfl:fn=Tryd.f6:=(Option.some.inj (Tryd.func6.symm.trans hfn)).symm
 refine ⟨by kernel_rfl,fun j t ht=>?_⟩
 rw [Tryd.params6] at ht
 simp at ht
theorem card:Rows.PackidxFixedCardSaid :=
 Claim7.holds_tied_plain_at .later [] _ _ _ _ said (fun _ h=>by cases h) (by kernel_rfl) (fun _ h=>by cases h) packidxFixed_row_tie rfl ⟨rfl,rfl⟩ (by kernel_rfl) rfl plain (by kernel_rfl)
end Go.Proofs.YtcmhoboglapbdaaDoor.packidxFixed
