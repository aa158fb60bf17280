/-
  A sum is what comes of its blocks, one behind the other: the row and the card. For every list of bytes the call comes back true, and all that was there reads as it did. No condition.
-/
import Derived.Test.YtbeohojepniioaaDoorShaCom
import Derived.Test.YtbeohojepniioaaDoorShaTail
set_option linter.unusedVariables false
set_option linter.unusedSimpArgs false
namespace Go.Proofs.YtbeohojepniioaaDoor
open Go Go.ChangeShapes Go.WideShapes Go.ChangeAt Go.RowKit Ev

/-! ## Plain -/
theorem fold64_left (hs : List Int) (r : List Nat) : ∀ (a : Nat) (l : List Nat), 64 * a ≤ l.length → fold64 a hs (l ++ r) = fold64 a hs l := by
  intro a
  induction a with
  | zero => intro l _; rfl
  | succ a ih =>
    intro l hl
    show BB (fold64 a hs (l ++ r)) (((l ++ r).drop (64 * a)).take 64) = BB (fold64 a hs l) ((l.drop (64 * a)).take 64)
    rw [ih l (by omega), List.drop_append_of_le_length (by omega), List.take_append_of_le_length (by rw [List.length_drop]; omega)]
theorem fold64_split (hs : List Int) (l r : List Nat) {a : Nat} (ha : 64 * a ≤ l.length) : ∀ b, fold64 (a + b) hs (l ++ r) = fold64 b (fold64 a hs l) (l.drop (64 * a) ++ r) := by
  intro b
  induction b with
  | zero => exact fold64_left hs r a l ha
  | succ b ih =>
    show BB (fold64 (a + b) hs (l ++ r)) (((l ++ r).drop (64 * (a + b))).take 64) = BB (fold64 b (fold64 a hs l) (l.drop (64 * a) ++ r)) (((l.drop (64 * a) ++ r).drop (64 * b)).take 64)
    rw [ih]
    congr 2
    rw [← List.drop_append_of_le_length ha, List.drop_drop]
    congr 1
    omega
theorem chain_sum (l : List Nat) : digM (fold64 ((l ++ padM l.length).length / 64) h0 (l ++ padM l.length)) = sumM l := by
  have ht := tailM_len l
  have h64 := tailM_64 l
  have e : (l ++ padM l.length).length / 64 = l.length / 64 + (tailM l).length / 64 := by
    rw [List.length_append]
    omega
  rw [e, fold64_split h0 l (padM l.length) (by omega)]
  rfl

/-! ## The loop over blocks -/
theorem chain_loop {F n : Nat} {n0 bh e : Nat} (hn0 : n0 ≤ bh) (hbh : 0 < bh) {p q : V} {l all : List Nat} {h g : AH} (hF : all.length / 64 < F) (hl : all.length ≤ 140737488355000) (h64 : all.length % 64 = 0) (hw0 : h.WF) (hb0 : Bs h p l) (hn00 : n0 = h.next) (hk : KT g) (hd : Old n0 h g) (hc : Cells g bh e (uL h0)) (hb : Bs g q all) (hn : notIn q bh) (hlt : bh < g.next) :
    ∃ g', law01_ShaChains.k7 (cx F (n + 1)) law01_ShaChains.ret law01_ShaChains.ret (p, q, .ptr ⟨bh, 8, 0⟩, ()) g = law01_ShaChains.r14 (cx F (n + 1)) law01_ShaChains.ret law01_ShaChains.ret (p, .ptr ⟨bh, 8, 0⟩, ()) g' ∧
      Cells g' bh e (uL (fold64 (all.length / 64) h0 all)) ∧ Old n0 h g' ∧ bh < g'.next := by
  show ∃ g', loopN law01_ShaChains.P18 F (fun t h n' => law01_ShaChains.l9 (cx F (n + 1)) n' (law01_ShaChains.r14 (cx F (n + 1)) law01_ShaChains.ret law01_ShaChains.ret) law01_ShaChains.ret t h) (p, q, .ptr ⟨bh, 8, 0⟩, 0, ()) g = law01_ShaChains.r14 (cx F (n + 1)) law01_ShaChains.ret law01_ShaChains.ret (p, .ptr ⟨bh, 8, 0⟩, ()) g' ∧ _
  refine loop_rule (S := law01_ShaChains.P18) (out := fun x => ∃ g', x = law01_ShaChains.r14 (cx F (n + 1)) law01_ShaChains.ret law01_ShaChains.ret (p, .ptr ⟨bh, 8, 0⟩, ()) g' ∧
      Cells g' bh e (uL (fold64 (all.length / 64) h0 all)) ∧ Old n0 h g' ∧ bh < g'.next)
    (fun k s g1 => ∃ (j : Nat), j + k = all.length / 64 ∧ s = (p, q, .ptr ⟨bh, 8, 0⟩, ((64 * j : Nat) : Int), ()) ∧ Cells g1 bh e (uL (fold64 j h0 all)) ∧ Bs g1 q all ∧ Old n0 h g1 ∧ KT g1 ∧ bh < g1.next)
    ?_ ?_ (all.length / 64) F _ _ ⟨0, by omega, rfl, hc, hb, hd, hk, hlt⟩ hF
  · rintro k s g1 n' ⟨j, hj, rfl, hc1, hb1, hd1, hk1, hlt1⟩
    refine .inl ?_
    have h8 := fold64_w h0_w j all
    have i1 : IntKind.wrap .i64 (((64 * j : Nat) : Int) + 64) = ((64 * (j + 1) : Nat) : Int) := by rw [wr_i64 (by omega) (by omega)]; omega
    -- the new block's place
    obtain ⟨a1, a2, a3, a4⟩ := al_cells hd1.wf (List.replicate 64 (.int .u8 0)) T_a64_uint8 rfl (by simp)
    have a2' : (al (List.replicate 64 (.int .u8 0)) T_a64_uint8 g1).1 = .ptr ⟨g1.next, 64 * 1, 0⟩ := a2
    generalize hg2 : (al (List.replicate 64 (.int .u8 0)) T_a64_uint8 g1).2 = g2 at *
    have s1 := slA_all (n := 64) (z := 1) a1 rfl (by omega)
    have b2 := hb1.old hd1.wf a4
    obtain ⟨v', s2, s3⟩ := b2.cut (lo := some (.int .i64 ((64 * j : Nat) : Int))) (hi := some (.int .i64 ((64 * (j + 1) : Nat) : Int))) (l := 64 * j) (u := 64 * (j + 1)) (.inr rfl) (.inr rfl) (by omega) (by omega)
    have hch : ((all.drop (64 * j)).take (64 * (j + 1) - 64 * j)).length = 64 := by rw [List.length_take, List.length_drop]; omega
    have hch2 : (all.drop (64 * j)).take (64 * (j + 1) - 64 * j) = (all.drop (64 * j)).take 64 := by congr 1; omega
    rw [hch2] at s3 hch
    obtain ⟨q1, q2⟩ := s3.src
    rw [hch] at q1 q2
    obtain ⟨g3, w1, w2, w3, w4, w5, w6⟩ := a1.write a4.wf (L := 64 * 1) (o := 0) (vs := byteL ((all.drop (64 * j)).take 64)) rfl (byteL_cell _) (by rw [byteL_len, hch]; simp)
    rw [putL_all _ _ (by rw [byteL_len, hch]; simp)] at w2
    have e3 : cpy 1 (.slice ⟨g1.next, 64 * 1, 0⟩ 64 64 true 1) v' g2 = some (.int .i64 64, g3) := by
      have q3 : srcLen (.slice ⟨g1.next, 64 * 1, 0⟩ 64 64 true 1) = some 64 := rfl
      have hmin : Nat.min 64 64 = 64 := rfl
      simp only [cpy, q1, q3, hmin, q2, w1, Option.map_some]
      rfl
    have W3 : Wrote g2 g3 g1.next := ⟨w3, w4, w5, w6⟩
    have hle : n0 ≤ g1.next := by omega
    have c3 : Cells g3 bh e (uL (fold64 j h0 all)) := (hc1.old hd1.wf a4).wrote W3 (by omega)
    have k3 : KT g3 := (hk1.old (by omega) a4).wrote (by omega) W3
    have l3 : ldA 64 (.ptr ⟨g1.next, 64 * 1, 0⟩) g3 = some (.agg (byteL ((all.drop (64 * j)).take 64))) := w2.ldA (by rw [byteL_len, hch])
    have e4 := block_spec (F := F) (n := n) k3 h8 hch (fun x hx => hb1.2 x (List.mem_of_mem_drop (List.mem_of_mem_take hx)))
    obtain ⟨g4, p1, p2, p3⟩ := c3.put W3.wf (n := 8) h8.cell.symm (BB_w (fold64 j h0 all) ((all.drop (64 * j)).take 64)).cell (uL_cell _)
    have b4 : Bs g4 q all := (b2.wrote W3 (hb1.1.notIn hd1.wf (Nat.le_refl _))).wrote p3 hn
    refine ⟨(p, q, .ptr ⟨bh, 8, 0⟩, ((64 * (j + 1) : Nat) : Int), ()), g4, ?_, j + 1, by omega, rfl, p2, b4, ((hd1.trans (a4.weak hle)).trans (W3.old hle)).trans (p3.old hn0), k3.wrote hbh p3, ?_⟩
    · have c1 : decide (((64 * (j + 1) : Nat) : Int) ≤ (all.length : Int)) = true := by rw [decide_eq_true_eq]; omega
      simp only [law01_ShaChains.l9, law01_ShaChains.c9, hb1.1.len, bI_some, wr, i1, law01_ShaChains.k9, c1, cond_true, law01_ShaChains.r11, law01_ShaChains.c11, a2', hg2, s1, bV_some, s2, e3, cI_some, c3.ldA h8.cell.symm, bA_some, l3, cxC, e4, cA_some, p1, bS_some, law01_ShaChains.r10, law01_ShaChains.c10]
    · rw [p3.next, W3.next, a3]; omega
  · rintro s g1 n' ⟨j, hj, rfl, hc1, hb1, hd1, hk1, hlt1⟩
    obtain rfl : j = all.length / 64 := by omega
    refine ⟨g1, ?_, hc1, hd1, hlt1⟩
    have i1 : IntKind.wrap .i64 (((64 * (all.length / 64) : Nat) : Int) + 64) = ((64 * (all.length / 64) + 64 : Nat) : Int) := by rw [wr_i64 (by omega) (by omega)]; omega
    have c1 : decide (((64 * (all.length / 64) + 64 : Nat) : Int) ≤ (all.length : Int)) = false := by rw [decide_eq_false_iff_not]; omega
    simp only [law01_ShaChains.l9, law01_ShaChains.c9, hb1.1.len, bI_some, wr, i1, law01_ShaChains.k9, c1, cond_false]
/-- The digits are looked at one by one. -/
theorem chain_look {F n : Nat} (hF : 40 < F) {hs : List Int} (h8 : W8 hs) {bh eh bd e : Nat} {g : AH} (hh : Cells g bh eh (uL hs)) (hc : Cells g bd e (byteL (digM hs))) :
    ∃ g', law01_ShaChains.k14 (cx F n) law01_ShaChains.ret law01_ShaChains.ret (.ptr ⟨bh, 8, 0⟩, .ptr ⟨bd, 32, 0⟩, ()) g = some (.bool true, g') := by
  show ∃ g', loopN law01_ShaChains.P32 F (fun t h n' => law01_ShaChains.l16 (cx F n) n' (law01_ShaChains.r21 (cx F n) law01_ShaChains.ret law01_ShaChains.ret) law01_ShaChains.ret t h) (.ptr ⟨bh, 8, 0⟩, .ptr ⟨bd, 32, 0⟩, 0, ()) g = some (.bool true, g')
  refine loop_rule (S := law01_ShaChains.P32) (out := fun x => ∃ g', x = some (.bool true, g'))
    (fun k s g1 => ∃ i : Nat, i + k = 32 ∧ s = (.ptr ⟨bh, 8, 0⟩, .ptr ⟨bd, 32, 0⟩, (i : Int), ()) ∧ g1 = g) ?_ ?_ 32 F _ _ ⟨0, rfl, rfl, rfl⟩ (by omega)
  · rintro k s g1 n' ⟨i, hi, rfl, rfl⟩
    refine .inl ?_
    have j1 : (i : Int).tdiv 4 = ((i / 4 : Nat) : Int) := by rw [Int.tdiv_eq_ediv_of_nonneg (by omega)]; omega
    have j2 : (i : Int).tmod 4 = ((i % 4 : Nat) : Int) := by rw [Int.tmod_eq_emod_of_nonneg (by omega)]; omega
    have j0 : IntKind.wrap .i64 ((i / 4 : Nat) : Int) = ((i / 4 : Nat) : Int) := wr_i64 (by omega) (by omega)
    have i1 : IntKind.wrap .i64 (8 * ((i % 4 : Nat) : Int)) = ((8 * (i % 4) : Nat) : Int) := by rw [wr_i64 (by omega) (by omega)]; omega
    have i2 : IntKind.wrap .i64 (24 - ((8 * (i % 4) : Nat) : Int)) = ((24 - 8 * (i % 4) : Nat) : Int) := by rw [wr_i64 (by omega) (by omega)]; omega
    have i3 : IntKind.wrap .i64 ((i : Int) + 1) = ((i + 1 : Nat) : Int) := by rw [wr_i64 (by omega) (by omega)]; omega
    obtain ⟨ha, u1, u2⟩ := hh.ld1 (n := 8) h8.cell.symm (i := ((i / 4 : Nat) : Int)) (by omega) (by omega) (v := .int .u32 (hs.getD (i / 4) 0)) (by rw [Int.toNat_natCast, uL_get (by rw [h8.1]; omega)])
    have hget : (digM hs)[i]? = some (digit hs i) := by unfold digM; rw [List.getElem?_map, List.getElem?_range (by omega)]; rfl
    obtain ⟨ia, u3, u4⟩ := hc.ld1 (n := 32) (by rw [byteL_len, digM_len]) (i := (i : Int)) (by omega) (by omega) (v := .int .u8 ((digit hs i : Nat) : Int)) (by rw [Int.toNat_natCast, byteL_get, hget]; rfl)
    refine ⟨_, g1, ?_, i + 1, by omega, rfl, rfl⟩
    have c1 : decide ((i : Int) < 32) = true := by rw [decide_eq_true_eq]; omega
    have c2 : ¬ ((24 - 8 * (i % 4) : Nat) : Int) < 0 := by omega
    have c3 : (((digit hs i : Nat) : Int) != (((hs.getD (i / 4) 0).toNat / 256 ^ (3 - i % 4) % 256 : Nat) : Int)) = false := by rw [bne_eq_false_iff_eq]; rfl
    simp only [law01_ShaChains.l16, law01_ShaChains.c16, law01_ShaChains.k16, c1, cond_true, law01_ShaChains.r17, law01_ShaChains.c17, u3, bV_some, u4, bI_some, wr, j1, j0, u1, u2, j2, i1, i2, if_neg c2, dig_byte (h8.at (i / 4) (by omega)) (show i % 4 < 4 by omega), c3, law01_ShaChains.k18, cond_false, law01_ShaChains.r20, law01_ShaChains.c20, i3]
  · rintro s g1 n' ⟨i, hi, rfl, rfl⟩
    obtain rfl : i = 32 := by omega
    exact ⟨g1, rfl⟩
theorem chains_spec {F n : Nat} {h : AH} (hw : h.WF) (hk : KT h) {p : V} {l : List Nat} (hb : Bs h p l) (hl : l.length ≤ 140737488354000) (hF : l.length + 300 < F) :
    ∃ h', runC (EE F) (n + 5) n_law01_ShaChains [p] h = some (.bool true, h') := by
  rw [at_law01_ShaChains]
  have hpos := hk.pos hw
  have hpl := padM_len l.length
  have hpz : padZ l.length < 64 := by unfold padZ; omega
  have hfit := padM_fits l.length
  obtain ⟨h1, e1, o1⟩ := awake_spec (F := F) (n := n) (by omega) hw hk
  have b1 := hb.old hw o1
  obtain ⟨v2, h2, e2, p2, o2⟩ := twin_spec (F := F) (n := n + 3) o1.wf b1 (by omega)
  have o12 := o1.trans (o2.weak o1.next)
  have b2 := hb.old hw o12
  obtain ⟨v3, h3, e3, p3, o3⟩ := pad_spec (F := F) (n := n + 3) (by omega) (x := (l.length : Int)) (by omega) o2.wf
  rw [Int.toNat_natCast] at p3
  obtain ⟨v4, h4, e4, p4, o4, _⟩ := app_bytes (p2.old o2.wf o3) (p3.bs (padM_byte _)) o3.wf (Nat.le_trans o2.next o3.next) (capW_ok (by omega))
  have o14 : Old h.next h h4 := (o12.trans (o3.weak o12.next)).trans (o4.weak o1.next)
  have hall : (l ++ padM l.length).length = l.length + (padM l.length).length := List.length_append
  have ball : Bs h4 v4 (l ++ padM l.length) := p4.bs (by
    intro x hx
    rcases List.mem_append.1 hx with hx | hx
    · exact hb.2 x hx
    · exact padM_byte _ x hx)
  obtain ⟨h5, e5, o5⟩ := first_spec (F := F) (n := n + 3) o14.wf
  obtain ⟨d1, d2, d3, d4⟩ := al_cells o5.wf (List.replicate 8 (.int .u32 0)) T_a8_uint32 rfl (by simp)
  have d2' : (al (List.replicate 8 (.int .u32 0)) T_a8_uint32 h5).1 = .ptr ⟨h5.next, 8, 0⟩ := d2
  generalize hh6 : (al (List.replicate 8 (.int .u32 0)) T_a8_uint32 h5).2 = h6 at *
  obtain ⟨h7, q1, q2, q3⟩ := d1.put d4.wf (n := 8) (vs := uL h0) rfl rfl (uL_cell h0)
  have hle5 : h.next ≤ h5.next := Nat.le_trans o14.next o5.next
  have o17 : Old h.next h h7 := ((o14.trans (o5.weak o14.next)).trans (d4.weak hle5)).trans (q3.old hle5)
  have nall : notIn v4 h5.next := ball.1.notIn o14.wf o5.next
  have ball7 : Bs h7 v4 (l ++ padM l.length) := ((ball.old o14.wf o5).old o5.wf d4).wrote q3 nall
  have e0 : law01_ShaChains.fn (cx F (n + 4)) p h = law01_ShaChains.k7 (cx F (n + 4)) law01_ShaChains.ret law01_ShaChains.ret (p, v4, .ptr ⟨h5.next, 8, 0⟩, ()) h7 := by
    have c1 : ((((l ++ padM l.length).length : Nat) : Int).tmod 64 != 0) = false := by
      rw [bne_eq_false_iff_eq, Int.tmod_eq_emod_of_nonneg (by omega)]
      omega
    simp only [law01_ShaChains.fn, law01_ShaChains.c0, law01_ShaChains.k0, law01_ShaChains.c1, cxC, e1, cB_some, Bool.not_true, law01_ShaChains.k1, cond_false, law01_ShaChains.r3, law01_ShaChains.c3, e2, cV_some, b2.1.len, bI_some, e3, e4, law01_ShaChains.k4, law01_ShaChains.c5, ball.1.len, c1, law01_ShaChains.k5, law01_ShaChains.r7, law01_ShaChains.c7, e5, cA_some, d2', hh6, q1, bS_some]
  rw [e0]
  obtain ⟨h8, e8, x1, x2, x3⟩ := chain_loop (F := F) (n := n + 3) (n0 := h.next) (bh := h5.next) hle5 (by omega) (p := p) (q := v4) (h := h) (by omega) (by omega) (by omega) hw hb rfl (hk.old hpos o17) o17 q2 ball7 nall (by rw [q3.next, d3]; omega)
  rw [e8]
  have b8 := hb.old hw x2
  obtain ⟨v9, h9, e9, p9, o9⟩ := twin_spec (F := F) (n := n + 3) x2.wf b8 (by omega)
  have o19 := x2.trans (o9.weak x2.next)
  obtain ⟨h10, e10, o10⟩ := sum_spec (F := F) (n := n + 2) o9.wf (hk.old hpos o19) (p9.bs hb.2) hl (by omega)
  obtain ⟨t1, t2, t3, t4⟩ := al_cells o10.wf (List.replicate 32 (.int .u8 0)) T_api_Id rfl (by simp)
  have t2' : (al (List.replicate 32 (.int .u8 0)) T_api_Id h10).1 = .ptr ⟨h10.next, 32, 0⟩ := t2
  generalize hh11 : (al (List.replicate 32 (.int .u8 0)) T_api_Id h10).2 = h11 at *
  obtain ⟨h12, r1, r2, r3⟩ := t1.put t4.wf (n := 32) (vs := byteL (sumM l)) rfl (by rw [byteL_len, sumM_len]) (byteL_cell _)
  have hlt : h5.next < h10.next := Nat.lt_of_lt_of_le x3 (Nat.le_trans o9.next o10.next)
  have xh : Cells h12 h5.next T_a8_uint32 (uL (fold64 ((l ++ padM l.length).length / 64) h0 (l ++ padM l.length))) := (((x1.oldN x3 o9).oldN (Nat.lt_of_lt_of_le x3 o9.next) o10).old o10.wf t4).wrote r3 (by omega)
  rw [← chain_sum l] at r2
  obtain ⟨h13, e13⟩ := chain_look (F := F) (n := n + 4) (by omega) (fold64_w h0_w _ _) xh r2
  refine ⟨h13, ?_⟩
  rw [← e13]
  simp only [law01_ShaChains.r14, law01_ShaChains.c14, cxC, e9, cV_some, e10, cA_some, t2', hh11, r1, bS_some]
end Go.Proofs.YtbeohojepniioaaDoor
namespace Go.Proofs.YtbeohojepniioaaDoor.shaChains
open Go Go.ChangeShapes Go.WideShapes Go.ChangeAt Go.RowKit Ev

theorem contract (H : Type) (enc : TypeId × Value → H) (W : World) (base : Nat) (args : Array Value) (ds gs : List (DataW H)) (before : List MemPlace)
    (hval : ∀ (j : Nat) t v, Tryd.f5.params[j]? = some t → args[j]? = some v → Value.okWide Tryd.prog W .any base t v)
    (hW : DataW.Whole enc Tryd.prog Tryd.f5.params.toList Rows.shaChainsSpec.vars false W args.toList ds gs before)
    (hsz : (DataW.weightsEach Tryd.prog (Tryd.f5.params.toList ++ []) (ds ++ gs)).all (· ≤ reachBytes) = true) (hL : laidMetH Tryd.prog Rows.shaChainsRow.laid W) :
    Calls Tryd.prog 5 args W fun e W' => ∃ v, e = .returned v ∧ Rows.shaChainsSpec.post enc Tryd.prog Tryd.f5 false true false false W args v W' := by
  have hW' := hW
  have hlt := hW.lt
  obtain ⟨p, q, hA0, hV, rfl, hfz, hnd⟩ := hW
  have hA : DataW.TrodAll enc Tryd.prog W 0 (fun _ => true) true Tryd.f5.params.toList args.toList ds p := hA0
  rw [Tryd.params5] at hA hval hsz
  obtain ⟨v0, d0, rfl, rfl, h0⟩ := trodAll_one hA
  obtain ⟨rfl, rfl⟩ := trodVars_none hV
  obtain ⟨l, hl8, hl⟩ := bytes_in Tryd.underlying28 Tryd.underlying5 (by kernel_rfl) (hval 0 28 v0 rfl rfl) h0
  have hlen : l.length ≤ 140737488354000 := by
    rcases hl with ⟨rfl, _⟩ | ⟨_, cb, off, S, e', cap, elems, spare, rfl, _, _, rfl, hel, _⟩
    · simp
    · have := sized_slice hsz (j := 0) (t := 28) (e := 5) rfl rfl Tryd.underlying28
      have hb : Tryd.prog.bytesOf 5 = 1 := by kernel_rfl
      rw [hb] at this
      have hr : reachBytes = 140737488351232 := rfl
      omega
  have walk := walk_bytes (f := 5) (table rfl hL) l hl8 (by
    rcases hl with h | ⟨h1, cb, off, S, e', cap, elems, spare, h2, h3, h4, _, _, h5⟩
    · exact .inl h
    · exact .inr ⟨h1, cb, off, S, e', cap, h2, h3, h4, h5⟩) (fun h p hw hk hb => by
      obtain ⟨h', hr⟩ := chains_spec (F := l.length + 301) (n := 0) hw hk hb hlen (by omega)
      exact ⟨_, _, h', hr⟩)
  refine walk.mono fun e W' ⟨he, hst⟩ => ?_
  subst he
  exact ⟨_, rfl, post_stays (pa := p) (pv := []) hW' (fun _ _ _ => trodAll_cons_mk (shut_bool Tryd.underlying4 _) trodAll_mk0)
    (fun sp hsp => trodAll_mk1 (arg_stays hst laidOut (by kernel_rfl) (of_decide_eq_true (by kernel_rfl)) h0 (fun x hx => hlt x (by simpa using hx)) sp (fun x hx => hsp x (by simpa using hx))))
    (fun _ _ => rfl) rfl hst.stays (ok_one (by kernel_rfl) rfl (okWide_bool_mk Tryd.underlying4 _))⟩

theorem laid_met (os : Os) : laidMet Tryd.prog Rows.shaChainsRow.laid ((laidWorld os).forCall (fun _ _ => 0) ⟨#[], #[.slice none 0 0], []⟩).memory :=
  laidMet_of_run' 70 (by kernel_rfl) (by kernel_rfl)
theorem reads (os : Os) {H : Type} (enc : TypeId × Value → H) : ∃ places, DataW.whole enc Tryd.prog ((laidWorld os).forCall (fun _ _ => 0) ⟨#[], #[.slice none 0 0], []⟩).memory Tryd.f5.params.toList Rows.shaChainsSpec.vars false (#[Value.slice none 0 0] : Array Value).toList 8 = some ([.nil], [], places) :=
  ⟨[], by kernel_rfl⟩
set_option maxRecDepth 100000 in
theorem lifted (os : Os) (started : os.Started) (H : Type) (enc : TypeId × Value → H) (F : Stop.Interp) :
    ReturnsInHanded {} Tryd.checked os 5 .any ((OpenSpec.ofChange Rows.shaChainsSpec).preRow enc Tryd.prog Tryd.f5 Rows.shaChainsRow.domain false Rows.shaChainsRow.laid) (((OpenSpec.ofChange Rows.shaChainsSpec).at F).post enc Tryd.prog Tryd.f5 false true false false) := by
  obtain ⟨places, hx⟩ := reads os enc
  refine returnsInHanded_of_row (C := Tryd.checked) (s := OpenSpec.ofChange Rows.shaChainsSpec) own started (by kernel_rfl) Tryd.func5
    (witness_row_at (enc := enc) (C := Tryd.checked) false (laidWorld os) #[.slice none 0 0] rfl (by kernel_rfl) (by kernel_rfl) (by kernel_rfl)
      (OpenSpec.preRow_of_cond 8 hx (by kernel_rfl) (fun k hk => by cases hk) (by kernel_rfl) (laid_met os))) ?_
  intro W base args ds gs before hval hW _ _ hsz hL _ _
  exact contract H enc W base args ds gs before hval hW hsz hL
theorem said : Rows.ShaChainsSaid :=
  OpenClaim.holds_of_cond 5 Tryd.f5 rfl rfl rfl rfl rfl rfl rfl ⟨rfl, rfl, rfl, rfl, rfl⟩ rfl rfl rfl rfl rfl (by kernel_rfl) Tryd.func5 (by kernel_rfl)
    (of_decide_eq_true (by kernel_rfl)) (by unfold Func.isWrapper; first | (rw [if_pos (by decide +kernel)]; kernel_rfl) | (rw [if_neg (by decide +kernel)]; exact ⟨rfl, rfl⟩))
    (fun os started H enc _ F => by rw [OpenClaim.pre_eq_preRow]; exact lifted os started H enc F)
theorem plain (f : FuncId) (fn : Func) (hf : Tryd.pinned.checked.prog.funcNamed "codicil/codicillaw01.ShaChains" = some f) (hfn : Tryd.pinned.checked.prog.funcs[f]? = some fn) :
    false = Tryd.pinned.checked.prog.looks [] ∧ ∀ (j : Nat) t, fn.params[j]? = some t → Tryd.pinned.checked.prog.wantsStandIn t = false := by
  obtain rfl : f = 5 := Option.some.inj ((show Tryd.prog.funcNamed "codicil/codicillaw01.ShaChains" = some 5 by kernel_rfl).symm.trans hf) |>.symm
  obtain rfl : fn = Tryd.f5 := (Option.some.inj (Tryd.func5.symm.trans hfn)).symm
  refine ⟨by kernel_rfl, fun j t ht => ?_⟩
  rw [Tryd.params5] at ht
  obtain rfl : t = 28 := by simpa using Array.mem_of_getElem? ht
  exact (show Tryd.prog.wantsStandIn 28 = false by kernel_rfl)
theorem card : Rows.ShaChainsCardSaid :=
  Claim7.holds_tied_plain_at .later [] _ _ _ _ said (fun _ h => by cases h) (by kernel_rfl) (fun _ h => by cases h) shaChains_row_tie rfl ⟨rfl, rfl⟩ (by kernel_rfl) rfl plain (by kernel_rfl)
end Go.Proofs.YtbeohojepniioaaDoor.shaChains
