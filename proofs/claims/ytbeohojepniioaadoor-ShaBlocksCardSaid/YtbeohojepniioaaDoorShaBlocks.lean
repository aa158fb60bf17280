/-
  Block and Pad answer just what the document says: the row and the card. For any words, bytes and counts the call comes back true, and all that was there reads as it did. No condition.
-/
import Derived.Test.YtbeohojepniioaaDoorShaAwake
import Derived.Test.YtbeohojepniioaaDoorShaTail
set_option linter.unusedVariables false
set_option linter.unusedSimpArgs false
namespace Go.Proofs.YtbeohojepniioaaDoor
open Go Go.ChangeShapes Go.WideShapes Go.ChangeAt Go.RowKit Ev

theorem slA_full {h : AH} {b e n z : Nat} {cs : List V} (hc : Cells h b e cs) (hl : cs.length = n * z) (hn : 0 < n) : slA n z (.ptr ⟨b, n * z, 0⟩) none none none h = some (.slice ⟨b, n * z, 0⟩ n n true z) := by
  obtain ⟨k, k1, k2, k3, k4, k5, k6, k7, k8⟩ := hc
  simp only [slA, k1]
  rw [if_pos ⟨by omega, by omega, trivial⟩]
  simp only [cutV, bnd, if_true]
  rw [if_neg (by omega)]
  simp
theorem docblock_spec {F n : Nat} {h : AH} (hw : h.WF) {hs : List Int} (h8 : W8 hs) {l : List Nat} (hl : l.length = 64) (hb : ∀ x ∈ l, x < 256) : ∃ h', runC (EE F) (n + 2) n_r01_DocBlock [.agg (uL hs), .agg (byteL l)] h = some (.agg (uL (BB hs l)), h') ∧ Old h.next h h' := by
  rw [at_r01_DocBlock]
  obtain ⟨h1, e1, c1, n1, o1⟩ := box_cells hw (uL hs) T_a8_uint32 (uL_cell hs)
  obtain ⟨h2, e2, c2, n2, o2⟩ := box_cells o1.wf (byteL l) T_a64_uint8 (byteL_cell l)
  have e1' : absBox T_a8_uint32 (.agg (uL hs)) h = some (.ptr ⟨h.next, 8, 0⟩, h1) := by rw [e1, h8.cell]
  have e2' : absBox T_a64_uint8 (.agg (byteL l)) h1 = some (.ptr ⟨h1.next, 64 * 1, 0⟩, h2) := by rw [e2, byteL_len, hl]
  obtain ⟨c3, e3, n3, o3⟩ := al_cells o2.wf (List.replicate 8 (.int .u32 0)) T_a8_uint32 rfl (by simp)
  have e3' : (al (List.replicate 8 (.int .u32 0)) T_a8_uint32 h2).1 = .ptr ⟨h2.next, 8, 0⟩ := e3
  generalize hh3 : (al (List.replicate 8 (.int .u32 0)) T_a8_uint32 h2).2 = h3 at *
  have o12 := o1.trans (o2.weak o1.next)
  have o13 := o12.trans (o3.weak o12.next)
  have c1' : Cells h3 h.next T_a8_uint32 (uL hs) := (c1.old o1.wf o2).old o2.wf o3
  have c2' : Cells h3 h1.next T_a64_uint8 (byteL l) := c2.old o2.wf o3
  have e4 := slA_full (z := 1) (n := 64) c2' (by rw [byteL_len, hl]) (by omega)
  have hbs : Bs h3 (.slice ⟨h1.next, 64 * 1, 0⟩ 64 64 true 1) l := by
    refine ⟨⟨by rw [byteL_len, Nat.mul_one], .inr ⟨⟨h1.next, 64 * 1, 0⟩, 64, true, by rw [hl], by omega, ?_⟩⟩, hb⟩
    rw [c2'.read (by rw [byteL_len, hl]) (by rw [byteL_len, hl]; omega), List.drop_zero, List.take_of_length_le (by rw [byteL_len]; omega)]
  have e5 := compress_spec (F := F) (n := n) h8 hbs hl
  obtain ⟨h4, p1, p2, p3⟩ := c3.put o3.wf (n := 8) (vs := uL (BB hs l)) rfl (BB_w hs l).cell (uL_cell _)
  have hle : h.next ≤ h2.next := o12.next
  refine ⟨h4, ?_, o13.trans (p3.old hle)⟩
  simp only [r01_DocBlock.fn, r01_DocBlock.c0, e1', cV_some, e2', e3', hh3, c1'.ldA h8.cell.symm, bA_some, e4, bV_some, cxC, e5, cA_some, p1, bS_some, r01_DocBlock.ret, p2.ldA (BB_w hs l).cell.symm]
  rfl
theorem eqWord (x y : Int) : absEq PP 9999 T_uint32 (.int .u32 x) (.int .u32 y) = some (x == y) := by kernel_rfl
theorem eqArr8 (xs ys : List V) : eqW PP false T_a8_uint32 (.agg xs) (.agg ys) = (allM (fun i : Nat => match xs[i * 1]?, ys[i * 1]? with
    | some a, some b => absEq PP 9999 T_uint32 a b
    | _, _ => none) (List.range' 0 8)).map .bool := by kernel_rfl
theorem eqH {hs : List Int} (h : W8 hs) : eqW PP false T_a8_uint32 (.agg (uL hs)) (.agg (uL hs)) = some (.bool true) := by
  rw [eqArr8, allM_all _ (fun i => true)]
  · rw [List.all_eq_true.2 (fun _ _ => rfl)]; rfl
  · intro i hi
    have hi' : i < 8 := by rw [List.mem_range'_1] at hi; omega
    rw [Nat.mul_one, uL_get (by rw [h.1]; exact hi')]
    show absEq PP 9999 T_uint32 (.int .u32 _) (.int .u32 _) = _
    rw [eqWord]; simp
theorem quiet_same {g : AH → Res} {h : AH} {v : V} (hg : g ⟨h.next, h.next, h.m⟩ = some (v, ⟨h.next, h.next, h.m⟩)) : quiet g h = some (v, h) := by
  unfold quiet
  rw [hg]
  simp only
  rw [if_pos (Nat.le_refl _)]
theorem blocks_spec {F n : Nat} (hF : 400 < F) {h : AH} (hw : h.WF) (hk : KT h) {hs : List Int} (h8 : W8 hs) {l : List Nat} (hl : l.length = 64) (hb : ∀ x ∈ l, x < 256) {x : Int} (hx : x ≤ 9223372036854775807) :
    ∃ h', runC (EE F) (n + 5) n_law01_ShaBlocks [.agg (uL hs), .agg (byteL l), .int .i64 x] h = some (.bool true, h') := by
  rw [at_law01_ShaBlocks]
  have hpos := hk.pos hw
  obtain ⟨h1, e1, c1, n1, o1⟩ := box_cells hw (uL hs) T_a8_uint32 (uL_cell hs)
  obtain ⟨h2, e2, c2, n2, o2⟩ := box_cells o1.wf (byteL l) T_a64_uint8 (byteL_cell l)
  have e1' : absBox T_a8_uint32 (.agg (uL hs)) h = some (.ptr ⟨h.next, 8, 0⟩, h1) := by rw [e1, h8.cell]
  have e2' : absBox T_a64_uint8 (.agg (byteL l)) h1 = some (.ptr ⟨h1.next, 64, 0⟩, h2) := by rw [e2, byteL_len, hl]
  have o12 := o1.trans (o2.weak o1.next)
  have k2 := hk.old hpos o12
  obtain ⟨h3, e3, o3⟩ := awake_spec (F := F) (n := n) (by omega) o2.wf k2
  have c13 : Cells h3 h.next T_a8_uint32 (uL hs) := (c1.old o1.wf o2).old o2.wf o3
  have c23 : Cells h3 h1.next T_a64_uint8 (byteL l) := c2.old o2.wf o3
  have k3 : KT h3 := k2.old (by omega) o3
  have e4 : quiet (fun h => (cx F (n + 4)).C n_sha_Block [.agg (uL hs), .agg (byteL l)] h) h3 = some (.agg (uL (BB hs l)), h3) := quiet_same (block_spec (F := F) (n := n + 3) (h := ⟨h3.next, h3.next, h3.m⟩) k3 h8 hl hb)
  obtain ⟨h4, e5, o4⟩ := docblock_spec (F := F) (n := n + 2) o3.wf h8 hl hb
  obtain ⟨v5, h5, e6, p5, o5⟩ := pad_spec (F := F) (n := n + 3) (by omega) hx o4.wf
  obtain ⟨v6, h6, e7, p6, o6⟩ := docpad_spec (F := F) (n := n + 3) (by omega) hx o5.wf
  have e8 := same_spec (F := F) (n := n + 3) ((p5.bs (padM_byte _)).old o5.wf o6) (p6.bs (padM_byte _))
  refine ⟨h6, ?_⟩
  have l1 := c13.ldA h8.cell.symm
  have l2 : ldA 64 (.ptr ⟨h1.next, 64, 0⟩) h3 = some (.agg (byteL l)) := c23.ldA (by rw [byteL_len, hl])
  simp only [law01_ShaBlocks.fn, law01_ShaBlocks.c0, e1', cV_some, e2', cxC, e3, cB_some, cond_true, l1, bA_some, l2] 
  simp only [cxC] at e4
  simp only [e4, cA_some, l1, bA_some, l2, e5, eqH (BB_w hs l), bB_some, cond_true, e6, cV_some, e7, e8, cB_some, decide_true]
  rfl
end Go.Proofs.YtbeohojepniioaaDoor

namespace Go.Proofs.YtbeohojepniioaaDoor.shaBlocks
open Go Go.ChangeShapes Go.WideShapes Go.ChangeAt Go.RowKit Ev

theorem contract (H : Type) (enc : TypeId × Value → H) (W : World) (base : Nat) (args : Array Value) (ds gs : List (DataW H)) (before : List MemPlace)
    (hval : ∀ (j : Nat) t v, Tryd.f3.params[j]? = some t → args[j]? = some v → Value.okWide Tryd.prog W .any base t v)
    (hW : DataW.Whole enc Tryd.prog Tryd.f3.params.toList Rows.shaBlocksSpec.vars false W args.toList ds gs before) (hL : laidMetH Tryd.prog Rows.shaBlocksRow.laid W) :
    Calls Tryd.prog 3 args W fun e W' => ∃ v, e = .returned v ∧ Rows.shaBlocksSpec.post enc Tryd.prog Tryd.f3 false true false false W args v W' := by
  have hW' := hW
  have hlt := hW.lt
  obtain ⟨p, q, hA0, hV, rfl, hfz, hnd⟩ := hW
  have hA : DataW.TrodAll enc Tryd.prog W 0 (fun _ => true) true Tryd.f3.params.toList args.toList ds p := hA0
  rw [Tryd.params3] at hA hval
  obtain ⟨v0, v1, v2, d0, d1, d2, p0, p1, p2, rfl, rfl, rfl, h0, h1, h2⟩ := trodAll_three hA
  obtain ⟨rfl, rfl⟩ := trodVars_none hV
  obtain ⟨z0, l0, w0, rfl⟩ := arr_in (n := 8) Tryd.underlying23 Tryd.underlying22 (by kernel_rfl) (by kernel_rfl) (hval 0 23 v0 rfl rfl) h0
  obtain ⟨z1, l1, w1, rfl⟩ := arr_in (n := 64) Tryd.underlying24 Tryd.underlying5 (by kernel_rfl) (by kernel_rfl) (hval 1 24 v1 rfl rfl) h1
  obtain ⟨n2, rfl, w2⟩ := int_in Tryd.underlying3 (hval 2 3 v2 rfl rfl) h2
  obtain ⟨b1, b2⟩ := bytes_of w1
  have walk := walk_flat (f := 3) (args := [.agg (uL z0), .agg (byteL (z1.map Int.toNat)), .int .i64 n2]) (vs := [.agg (z0.map (Value.int .u32)).toArray, .agg (z1.map (Value.int .u8)).toArray, .int .i64 n2]) (table rfl hL)
    (fun ρ => ⟨_, _, rfl, agg_R ρ .u32 z0, _, _, rfl, by rw [← b1]; exact agg_R ρ .u8 z1, _, _, rfl, rfl, rfl⟩)
    (fun h hw hk => by
      obtain ⟨h', hr⟩ := blocks_spec (F := 401) (n := 0) (by omega) hw hk (words_of l0 w0) (l := z1.map Int.toNat) (by rw [List.length_map]; exact l1) b2 (int_wf w2).2
      exact ⟨_, _, h', hr⟩)
  refine walk.mono fun e W' ⟨he, hst⟩ => ?_
  subst he
  exact ⟨_, rfl, post_stays (pa := p0 ++ (p1 ++ p2)) (pv := []) hW' (fun _ _ _ => trodAll_cons_mk (shut_bool Tryd.underlying4 _) trodAll_mk0)
    (fun sp hsp => trodAll_mk3 (arg_stays hst laidOut (by kernel_rfl) (of_decide_eq_true (by kernel_rfl)) h0 (fun x hx => hlt x (by simp [hx])) sp (fun x hx => hsp x (by simp [hx]))) (arg_stays hst laidOut (by kernel_rfl) (of_decide_eq_true (by kernel_rfl)) h1 (fun x hx => hlt x (by simp [hx])) sp (fun x hx => hsp x (by simp [hx]))) (arg_stays hst laidOut (by kernel_rfl) (of_decide_eq_true (by kernel_rfl)) h2 (fun x hx => hlt x (by simp [hx])) sp (fun x hx => hsp x (by simp [hx]))))
    (fun _ _ => rfl) (by simp) hst.stays (ok_one (by kernel_rfl) rfl (okWide_bool_mk Tryd.underlying4 _))⟩

theorem laid_met (os : Os) : laidMet Tryd.prog Rows.shaBlocksRow.laid ((laidWorld os).forCall (fun _ _ => 0) ⟨#[], #[.agg (Array.replicate 8 (.int .u32 0)), .agg (Array.replicate 64 (.int .u8 0)), .int .i64 0], []⟩).memory :=
  laidMet_of_run' 70 (by kernel_rfl) (by kernel_rfl)
theorem reads (os : Os) {H : Type} (enc : TypeId × Value → H) : ∃ places, DataW.whole enc Tryd.prog ((laidWorld os).forCall (fun _ _ => 0) ⟨#[], #[.agg (Array.replicate 8 (.int .u32 0)), .agg (Array.replicate 64 (.int .u8 0)), .int .i64 0], []⟩).memory Tryd.f3.params.toList Rows.shaBlocksSpec.vars false (#[.agg (Array.replicate 8 (.int .u32 0)), .agg (Array.replicate 64 (.int .u8 0)), .int .i64 0] : Array Value).toList 8 = some ([.agg (List.replicate 8 (.lit (.int .u32 0))), .agg (List.replicate 64 (.lit (.int .u8 0))), .lit (.int .i64 0)], [], places) :=
  ⟨[], by kernel_rfl⟩
set_option maxRecDepth 100000 in
theorem lifted (os : Os) (started : os.Started) (H : Type) (enc : TypeId × Value → H) (F : Stop.Interp) :
    ReturnsInHanded {} Tryd.checked os 3 .any ((OpenSpec.ofChange Rows.shaBlocksSpec).preRow enc Tryd.prog Tryd.f3 Rows.shaBlocksRow.domain false Rows.shaBlocksRow.laid) (((OpenSpec.ofChange Rows.shaBlocksSpec).at F).post enc Tryd.prog Tryd.f3 false true false false) := by
  obtain ⟨places, hx⟩ := reads os enc
  refine returnsInHanded_of_row (C := Tryd.checked) (s := OpenSpec.ofChange Rows.shaBlocksSpec) own started (by kernel_rfl) Tryd.func3
    (witness_row_at (enc := enc) (C := Tryd.checked) false (laidWorld os) #[.agg (Array.replicate 8 (.int .u32 0)), .agg (Array.replicate 64 (.int .u8 0)), .int .i64 0] rfl (by kernel_rfl) (by kernel_rfl) (by kernel_rfl)
      (OpenSpec.preRow_of_cond 8 hx (by kernel_rfl) (fun k hk => by cases hk) (by kernel_rfl) (laid_met os))) ?_
  intro W base args ds gs before hval hW _ _ hsz hL _ _
  exact contract H enc W base args ds gs before hval hW hL
theorem said : Rows.ShaBlocksSaid :=
  OpenClaim.holds_of_cond 3 Tryd.f3 rfl rfl rfl rfl rfl rfl rfl ⟨rfl, rfl, rfl, rfl, rfl⟩ rfl rfl rfl rfl rfl (by kernel_rfl) Tryd.func3 (by kernel_rfl)
    (of_decide_eq_true (by kernel_rfl)) (by unfold Func.isWrapper; first | (rw [if_pos (by decide +kernel)]; kernel_rfl) | (rw [if_neg (by decide +kernel)]; exact ⟨rfl, rfl⟩))
    (fun os started H enc _ F => by rw [OpenClaim.pre_eq_preRow]; exact lifted os started H enc F)
theorem plain (f : FuncId) (fn : Func) (hf : Tryd.pinned.checked.prog.funcNamed "codicil/codicillaw01.ShaBlocks" = some f) (hfn : Tryd.pinned.checked.prog.funcs[f]? = some fn) :
    false = Tryd.pinned.checked.prog.looks [] ∧ ∀ (j : Nat) t, fn.params[j]? = some t → Tryd.pinned.checked.prog.wantsStandIn t = false := by
  obtain rfl : f = 3 := Option.some.inj ((show Tryd.prog.funcNamed "codicil/codicillaw01.ShaBlocks" = some 3 by kernel_rfl).symm.trans hf) |>.symm
  obtain rfl : fn = Tryd.f3 := (Option.some.inj (Tryd.func3.symm.trans hfn)).symm
  refine ⟨by kernel_rfl, fun j t ht => ?_⟩
  rw [Tryd.params3] at ht
  have hm := Array.mem_of_getElem? ht
  simp only [List.mem_toArray, List.mem_cons, List.not_mem_nil, or_false] at hm
  rcases hm with rfl | rfl | rfl
  · exact (show Tryd.prog.wantsStandIn 23 = false by kernel_rfl)
  · exact (show Tryd.prog.wantsStandIn 24 = false by kernel_rfl)
  · exact (show Tryd.prog.wantsStandIn 3 = false by kernel_rfl)
theorem card : Rows.ShaBlocksCardSaid :=
  Claim7.holds_tied_plain_at .later [] _ _ _ _ said (fun _ h => by cases h) (by kernel_rfl) (fun _ h => by cases h) shaBlocks_row_tie rfl ⟨rfl, rfl⟩ (by kernel_rfl) rfl plain (by kernel_rfl)
end Go.Proofs.YtbeohojepniioaaDoor.shaBlocks

