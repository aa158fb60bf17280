/-
  The document's sum of bytes.
-/
import Derived.Test.YtbeohojepniioaaDoorShaDig
set_option linter.unusedVariables false
set_option linter.unusedSimpArgs false
namespace Go.Proofs.YtbeohojepniioaaDoor
open Go Ev

/-- A block is taken out of the middle: what a round does. -/
theorem rround_spec {F n : Nat} {g : AH} (hw : g.WF) {bh e : Nat} {hs : List Int} (h8 : W8 hs) (hc : Cells g bh e (uL hs)) {v : V} {l : List Nat} (hb : Bs g v l) {j : Nat} (hj : 64 * j + 64 ≤ l.length) (hl : l.length ≤ 140737488355000) (hn : notIn v bh) :
    ∃ g' v', Ev.ldA 8 (.ptr ⟨bh, 8, 0⟩) g = some (.agg (uL hs)) ∧ slS 1 v (some (.int .i64 ((64 * j : Nat) : Int))) (some (.int .i64 ((64 * (j + 1) : Nat) : Int))) none = some v' ∧
      runC (EE F) (n + 1) n_r01_compress [.agg (uL hs), v'] g = some (.agg (uL (BB hs ((l.drop (64 * j)).take 64))), g) ∧
      st 8 (.ptr ⟨bh, 8, 0⟩) (.agg (uL (BB hs ((l.drop (64 * j)).take 64)))) g = some g' ∧
      Cells g' bh e (uL (BB hs ((l.drop (64 * j)).take 64))) ∧ Wrote g g' bh ∧ Bs g' v l ∧ IntKind.wrap .i64 (((64 * j : Nat) : Int) + 64) = ((64 * (j + 1) : Nat) : Int) := by
  have i1 : IntKind.wrap .i64 (((64 * j : Nat) : Int) + 64) = ((64 * j + 64 : Nat) : Int) := by rw [wr_i64 (by omega) (by omega)]; omega
  obtain ⟨v', s1, s2⟩ := hb.cut (lo := some (.int .i64 ((64 * j : Nat) : Int))) (hi := some (.int .i64 ((64 * j + 64 : Nat) : Int))) (l := 64 * j) (u := 64 * j + 64) (.inr rfl) (.inr rfl) (by omega) hj
  have e : 64 * j + 64 - 64 * j = 64 := by omega
  rw [e] at s2
  obtain ⟨g', p1, p2, p3⟩ := hc.put hw (n := 8) h8.cell.symm (BB_w hs ((l.drop (64 * j)).take 64)).cell (uL_cell _)
  exact ⟨g', v', hc.ldA h8.cell.symm, s1, compress_spec h8 s2 (by rw [List.length_take, List.length_drop]; omega), p1, p2, p3, hb.wrote p3 hn, i1⟩
theorem rloop4_spec {F n : Nat} {n0 bh : Nat} (hn0 : n0 ≤ bh) {p r : V} {l : List Nat} {hs : List Int} (h8 : W8 hs) {e : Nat} {h g : AH} (hF : l.length / 64 < F) (hl : l.length ≤ 140737488355000) (hd : Old n0 h g) (hc : Cells g bh e (uL hs)) (hb : Bs g p l) (hn : notIn p bh) :
    ∃ g', r01_Sum.k2 (cx F (n + 1)) r01_Sum.ret r01_Sum.ret (p, r, .ptr ⟨bh, 8, 0⟩, ((64 * (l.length / 64) : Nat) : Int), ()) g = r01_Sum.r7 (cx F (n + 1)) r01_Sum.ret r01_Sum.ret (p, r, .ptr ⟨bh, 8, 0⟩, ((64 * (l.length / 64) : Nat) : Int), ()) g' ∧
      Cells g' bh e (uL (fold64 (l.length / 64) hs l)) ∧ Bs g' p l ∧ Old n0 h g' ∧ (∀ b, b ≠ bh → g'.get b = g.get b) ∧ g'.next = g.next := by
  show ∃ g', loopN r01_Sum.P8 F (fun t h n' => r01_Sum.l4 (cx F (n + 1)) n' (r01_Sum.r7 (cx F (n + 1)) r01_Sum.ret r01_Sum.ret) r01_Sum.ret t h) (p, r, .ptr ⟨bh, 8, 0⟩, ((64 * (l.length / 64) : Nat) : Int), 0, ()) g = r01_Sum.r7 (cx F (n + 1)) r01_Sum.ret r01_Sum.ret (p, r, .ptr ⟨bh, 8, 0⟩, ((64 * (l.length / 64) : Nat) : Int), ()) g' ∧ _
  refine loop_rule (S := r01_Sum.P8) (out := fun x => ∃ g', x = r01_Sum.r7 (cx F (n + 1)) r01_Sum.ret r01_Sum.ret (p, r, .ptr ⟨bh, 8, 0⟩, ((64 * (l.length / 64) : Nat) : Int), ()) g' ∧
      Cells g' bh e (uL (fold64 (l.length / 64) hs l)) ∧ Bs g' p l ∧ Old n0 h g' ∧ (∀ b, b ≠ bh → g'.get b = g.get b) ∧ g'.next = g.next)
    (fun k s g1 => ∃ (j : Nat), j + k = l.length / 64 ∧ s = (p, r, .ptr ⟨bh, 8, 0⟩, ((64 * (l.length / 64) : Nat) : Int), ((64 * j : Nat) : Int), ()) ∧ Cells g1 bh e (uL (fold64 j hs l)) ∧ Bs g1 p l ∧ Old n0 h g1 ∧ (∀ b, b ≠ bh → g1.get b = g.get b) ∧ g1.next = g.next)
    ?_ ?_ (l.length / 64) F _ _ ⟨0, by omega, rfl, hc, hb, hd, fun _ _ => rfl, rfl⟩ hF
  · rintro k s g1 n' ⟨j, hj, rfl, hc1, hb1, hd1, hr1, hx1⟩
    refine .inl ?_
    obtain ⟨g2, v', q1, q2, q3, q4, q5, q6, q7, q8⟩ := rround_spec (F := F) (n := n) hd1.wf (fold64_w h8 j l) hc1 hb1 (j := j) (by omega) hl hn
    refine ⟨_, g2, ?_, j + 1, by omega, rfl, q5, q7, hd1.trans (q6.old hn0), fun b hb => (q6.rest b hb).trans (hr1 b hb), q6.next.trans hx1⟩
    have c1 : decide (((64 * j : Nat) : Int) < ((64 * (l.length / 64) : Nat) : Int)) = true := by rw [decide_eq_true_eq]; omega
    simp only [r01_Sum.l4, r01_Sum.c4, r01_Sum.k4, c1, cond_true, r01_Sum.r6, r01_Sum.c6, q1, bA_some, wr, q2, bV_some, cxC, q3, cA_some, q4, bS_some, r01_Sum.r5, r01_Sum.c5, q8]
  · rintro s g1 n' ⟨j, hj, rfl, hc1, hb1, hd1, hr1, hx1⟩
    obtain rfl : j = l.length / 64 := by omega
    refine ⟨g1, ?_, hc1, hb1, hd1, hr1, hx1⟩
    have c1 : decide (((64 * (l.length / 64) : Nat) : Int) < ((64 * (l.length / 64) : Nat) : Int)) = false := by rw [decide_eq_false_iff_not]; omega
    simp only [r01_Sum.l4, r01_Sum.c4, r01_Sum.k4, c1, cond_false]
theorem rloop11_spec {F n : Nat} {n0 bh : Nat} (hn0 : n0 ≤ bh) {p r : V} {l : List Nat} {hs : List Int} (h8 : W8 hs) {e : Nat} {h g : AH} (hF : l.length / 64 < F) (hl : l.length ≤ 140737488355000) (h64 : l.length % 64 = 0) (hd : Old n0 h g) (hc : Cells g bh e (uL hs)) (hb : Bs g p l) (hn : notIn p bh) :
    ∃ g', r01_Sum.k9 (cx F (n + 1)) r01_Sum.ret r01_Sum.ret (r, .ptr ⟨bh, 8, 0⟩, p, ()) g = r01_Sum.r14 (cx F (n + 1)) r01_Sum.ret r01_Sum.ret (r, .ptr ⟨bh, 8, 0⟩, ()) g' ∧
      Cells g' bh e (uL (fold64 (l.length / 64) hs l)) ∧ Old n0 h g' ∧ (∀ b, b ≠ bh → g'.get b = g.get b) ∧ g'.next = g.next := by
  show ∃ g', loopN r01_Sum.P22 F (fun t h n' => r01_Sum.l11 (cx F (n + 1)) n' (r01_Sum.r14 (cx F (n + 1)) r01_Sum.ret r01_Sum.ret) r01_Sum.ret t h) (r, .ptr ⟨bh, 8, 0⟩, p, 0, ()) g = r01_Sum.r14 (cx F (n + 1)) r01_Sum.ret r01_Sum.ret (r, .ptr ⟨bh, 8, 0⟩, ()) g' ∧ _
  refine loop_rule (S := r01_Sum.P22) (out := fun x => ∃ g', x = r01_Sum.r14 (cx F (n + 1)) r01_Sum.ret r01_Sum.ret (r, .ptr ⟨bh, 8, 0⟩, ()) g' ∧
      Cells g' bh e (uL (fold64 (l.length / 64) hs l)) ∧ Old n0 h g' ∧ (∀ b, b ≠ bh → g'.get b = g.get b) ∧ g'.next = g.next)
    (fun k s g1 => ∃ (j : Nat), j + k = l.length / 64 ∧ s = (r, .ptr ⟨bh, 8, 0⟩, p, ((64 * j : Nat) : Int), ()) ∧ Cells g1 bh e (uL (fold64 j hs l)) ∧ Bs g1 p l ∧ Old n0 h g1 ∧ (∀ b, b ≠ bh → g1.get b = g.get b) ∧ g1.next = g.next)
    ?_ ?_ (l.length / 64) F _ _ ⟨0, by omega, rfl, hc, hb, hd, fun _ _ => rfl, rfl⟩ hF
  · rintro k s g1 n' ⟨j, hj, rfl, hc1, hb1, hd1, hr1, hx1⟩
    refine .inl ?_
    obtain ⟨g2, v', q1, q2, q3, q4, q5, q6, q7, q8⟩ := rround_spec (F := F) (n := n) hd1.wf (fold64_w h8 j l) hc1 hb1 (j := j) (by omega) hl hn
    refine ⟨_, g2, ?_, j + 1, by omega, rfl, q5, q7, hd1.trans (q6.old hn0), fun b hb => (q6.rest b hb).trans (hr1 b hb), q6.next.trans hx1⟩
    have c1 : decide (((64 * j : Nat) : Int) < (l.length : Int)) = true := by rw [decide_eq_true_eq]; omega
    simp only [r01_Sum.l11, r01_Sum.c11, hb1.1.len, bI_some, r01_Sum.k11, c1, cond_true, r01_Sum.r13, r01_Sum.c13, q1, bA_some, wr, q2, bV_some, cxC, q3, cA_some, q4, bS_some, r01_Sum.r12, r01_Sum.c12, q8]
  · rintro s g1 n' ⟨j, hj, rfl, hc1, hb1, hd1, hr1, hx1⟩
    obtain rfl : j = l.length / 64 := by omega
    refine ⟨g1, ?_, hc1, hd1, hr1, hx1⟩
    have c1 : decide (((64 * (l.length / 64) : Nat) : Int) < (l.length : Int)) = false := by rw [decide_eq_false_iff_not]; omega
    simp only [r01_Sum.l11, r01_Sum.c11, hb1.1.len, bI_some, r01_Sum.k11, c1, cond_false]
/-- The words are written out. -/
theorem rdig_spec {F n : Nat} (hF : 40 < F) {hs : List Int} (h8 : W8 hs) {res : V} {bh eh bd e n0 : Nat} (hbd : n0 ≤ bd) (hne : bh ≠ bd) {h g : AH} (hd : Old n0 h g) (hh : Cells g bh eh (uL hs)) (hc : Cells g bd e (byteL (digC hs 0))) :
    ∃ g', r01_Sum.k14 (cx F n) r01_Sum.ret r01_Sum.ret (res, .ptr ⟨bh, 8, 0⟩, .ptr ⟨bd, 32, 0⟩, ()) g = r01_Sum.r19 (cx F n) r01_Sum.ret r01_Sum.ret (res, .ptr ⟨bd, 32, 0⟩, ()) g' ∧ Cells g' bd e (byteL (digM hs)) ∧ Old n0 h g' ∧ (∀ b, b ≠ bd → g'.get b = g.get b) := by
  show ∃ g', loopN r01_Sum.P32 F (fun t h n' => r01_Sum.l16 (cx F n) n' (r01_Sum.r19 (cx F n) r01_Sum.ret r01_Sum.ret) r01_Sum.ret t h) (res, .ptr ⟨bh, 8, 0⟩, .ptr ⟨bd, 32, 0⟩, 0, ()) g = _ ∧ _
  refine loop_rule (S := r01_Sum.P32) (out := fun x => ∃ g', x = r01_Sum.r19 (cx F n) r01_Sum.ret r01_Sum.ret (res, .ptr ⟨bd, 32, 0⟩, ()) g' ∧ Cells g' bd e (byteL (digM hs)) ∧ Old n0 h g' ∧ (∀ b, b ≠ bd → g'.get b = g.get b))
    (fun k s g1 => ∃ i : Nat, i + k = 32 ∧ s = (res, .ptr ⟨bh, 8, 0⟩, .ptr ⟨bd, 32, 0⟩, (i : Int), ()) ∧ Cells g1 bh eh (uL hs) ∧ Cells g1 bd e (byteL (digC hs i)) ∧ Old n0 h g1 ∧ (∀ b, b ≠ bd → g1.get b = g.get b))
    ?_ ?_ 32 F _ _ ⟨0, rfl, rfl, hh, hc, hd, fun _ _ => rfl⟩ (by omega)
  · rintro k s g1 n' ⟨i, hi, rfl, hh1, hc1, hd1, hr1⟩
    refine .inl ?_
    have j1 : (i : Int).tdiv 4 = ((i / 4 : Nat) : Int) := by rw [Int.tdiv_eq_ediv_of_nonneg (by omega)]; omega
    have j2 : (i : Int).tmod 4 = ((i % 4 : Nat) : Int) := by rw [Int.tmod_eq_emod_of_nonneg (by omega)]; omega
    have j0 : IntKind.wrap .i64 ((i / 4 : Nat) : Int) = ((i / 4 : Nat) : Int) := wr_i64 (by omega) (by omega)
    have i1 : IntKind.wrap .i64 (8 * ((i % 4 : Nat) : Int)) = ((8 * (i % 4) : Nat) : Int) := by rw [wr_i64 (by omega) (by omega)]; omega
    have i2 : IntKind.wrap .i64 (24 - ((8 * (i % 4) : Nat) : Int)) = ((24 - 8 * (i % 4) : Nat) : Int) := by rw [wr_i64 (by omega) (by omega)]; omega
    have i3 : IntKind.wrap .i64 ((i : Int) + 1) = ((i + 1 : Nat) : Int) := by rw [wr_i64 (by omega) (by omega)]; omega
    obtain ⟨ha, u1, u2⟩ := hh1.ld1 (n := 8) h8.cell.symm (i := ((i / 4 : Nat) : Int)) (by omega) (by omega) (v := .int .u32 (hs.getD (i / 4) 0)) (by rw [Int.toNat_natCast, uL_get (by rw [h8.1]; omega)])
    have hl : (byteL (digC hs i)).length = 32 := by rw [byteL_len, digC_len hs (by omega)]
    obtain ⟨a, g2, w1, w2, w3, w4⟩ := hc1.st1 hd1.wf (n := 32) hl.symm (i := (i : Int)) (by omega) (by omega) (v := .int .u8 ((digit hs i : Nat) : Int)) rfl rfl
    rw [Int.toNat_natCast] at w3
    have e2 : (byteL (digC hs i)).set i (.int .u8 ((digit hs i : Nat) : Int)) = byteL (digC hs (i + 1)) := by
      rw [← digC_step hs (by omega), ← byteL_set]; rfl
    rw [e2] at w3
    refine ⟨_, g2, ?_, i + 1, by omega, rfl, hh1.wrote w4 hne, w3, hd1.trans (w4.old hbd), fun b hb => (w4.rest b hb).trans (hr1 b hb)⟩
    have c1 : decide ((i : Int) < 32) = true := by rw [decide_eq_true_eq]; omega
    have c2 : ¬ ((24 - 8 * (i % 4) : Nat) : Int) < 0 := by omega
    have e3 : ((digit hs i : Nat) : Int) = ((hs.getD (i / 4) 0).toNat / 256 ^ (3 - i % 4) % 256 : Nat) := rfl
    rw [e3] at w2
    simp only [r01_Sum.l16, r01_Sum.c16, r01_Sum.k16, c1, cond_true, r01_Sum.r18, r01_Sum.c18, wr, j1, j0, u1, bV_some, u2, bI_some, j2, i1, i2, if_neg c2, w1, dig_byte (h8.at (i / 4) (by omega)) (show i % 4 < 4 by omega), w2, bS_some, r01_Sum.r17, r01_Sum.c17, i3]
  · rintro s g1 n' ⟨i, hi, rfl, hh1, hc1, hd1, hr1⟩
    obtain rfl : i = 32 := by omega
    refine ⟨g1, rfl, ?_, hd1, hr1⟩
    rw [← digC_end]
    exact hc1

theorem rsum_spec {F n : Nat} {h : AH} (hw : h.WF) {p : V} {l : List Nat} (hb : Bs h p l) (hl : l.length ≤ 140737488354000) (hF : l.length + 200 < F) :
    ∃ h', runC (EE F) (n + 2) n_r01_Sum [p] h = some (.agg (byteL (sumM l)), h') ∧ Old h.next h h' := by
  rw [at_r01_Sum]
  obtain ⟨c1, c2, c3, c4⟩ := al_cells hw (List.replicate 32 (.int .u8 0)) T_api_Id rfl (by simp)
  have c2' : (al (List.replicate 32 (.int .u8 0)) T_api_Id h).1 = .ptr ⟨h.next, 32, 0⟩ := c2
  generalize hg1 : (al (List.replicate 32 (.int .u8 0)) T_api_Id h).2 = g1 at *
  obtain ⟨g2, f1, f2⟩ := first_spec (F := F) (n := n) c4.wf
  obtain ⟨d1, d2, d3, d4⟩ := al_cells f2.wf (List.replicate 8 (.int .u32 0)) T_a8_uint32 rfl (by simp)
  have d2' : (al (List.replicate 8 (.int .u32 0)) T_a8_uint32 g2).1 = .ptr ⟨g2.next, 8, 0⟩ := d2
  generalize hg3 : (al (List.replicate 8 (.int .u32 0)) T_a8_uint32 g2).2 = g3 at *
  obtain ⟨g4, p1, p2, p3⟩ := d1.put d4.wf (n := 8) (vs := uL h0) rfl rfl (uL_cell h0)
  have n12 := f2.next
  have o3 : Old h.next h g3 := (c4.trans (f2.weak c4.next)).trans (d4.weak (Nat.le_trans c4.next n12))
  have o4 : Old h.next h g4 := o3.trans (p3.old (by omega))
  have b4 := hb.old hw o4
  have n4 : notIn p g2.next := hb.1.notIn hw (by omega)
  have r4 : Cells g4 h.next T_api_Id (List.replicate 32 (.int .u8 0)) := ((c1.old c4.wf f2).old f2.wf d4).wrote p3 (by omega)
  have j1 : ((l.length : Nat) : Int).tdiv 64 = ((l.length / 64 : Nat) : Int) := by rw [Int.tdiv_eq_ediv_of_nonneg (by omega)]; omega
  have j0 : IntKind.wrap .i64 ((l.length / 64 : Nat) : Int) = ((l.length / 64 : Nat) : Int) := wr_i64 (by omega) (by omega)
  have j2 : IntKind.wrap .i64 (((l.length / 64 : Nat) : Int) * 64) = ((64 * (l.length / 64) : Nat) : Int) := by rw [wr_i64 (by omega) (by omega)]; omega
  have e0 : r01_Sum.fn (cx F (n + 1)) p h = r01_Sum.k2 (cx F (n + 1)) r01_Sum.ret r01_Sum.ret (p, .ptr ⟨h.next, 32, 0⟩, .ptr ⟨g2.next, 8, 0⟩, ((64 * (l.length / 64) : Nat) : Int), ()) g4 := by
    simp only [r01_Sum.fn, r01_Sum.c0, c2', hg1, cxC, f1, cA_some, d2', hg3, p1, bS_some, b4.1.len, bI_some, wr, j1, j0, j2]
  rw [e0]
  obtain ⟨g5, e5, x1, x2, x3, x4, x5⟩ := rloop4_spec (F := F) (n := n) (r := .ptr ⟨h.next, 32, 0⟩) (n0 := h.next) (bh := g2.next) (by omega) h0_w (by omega) (by omega) o4 p2 b4 n4
  rw [e5]
  have hpl := padM_len l.length
  have hpz : padZ l.length < 64 := by unfold padZ; omega
  have hlen4 : (l.drop (64 * (l.length / 64))).length = l.length % 64 := by rw [List.length_drop]; omega
  obtain ⟨v6, s1, s2⟩ := x2.cut (lo := some (.int .i64 ((64 * (l.length / 64) : Nat) : Int))) (hi := none) (l := 64 * (l.length / 64)) (u := l.length) (.inl ⟨rfl, rfl⟩) (.inr rfl) (by omega) (Nat.le_refl _)
  have e6 : (l.drop (64 * (l.length / 64))).take (l.length - 64 * (l.length / 64)) = l.drop (64 * (l.length / 64)) := List.take_of_length_le (by rw [List.length_drop]; exact Nat.le_refl _)
  rw [e6] at s2
  obtain ⟨v7, g7, a7, o7, y7, _⟩ := app_bytes (l := []) (own_nil g5.next 1 T_uint8 g5) s2 x3.wf (Nat.le_refl _) (capW_ok (by rw [hlen4]; simp; omega))
  rw [List.nil_append] at o7
  have b7 : Bs g7 p l := hb.old hw (x3.trans (y7.weak x3.next))
  obtain ⟨v8, g8, a8, o8, y8⟩ := docpad_spec (F := F) (n := n) (by omega) (x := (l.length : Int)) (by omega) y7.wf
  rw [Int.toNat_natCast] at o8
  obtain ⟨v9, g9, a9, o9, y9, _⟩ := app_bytes (o7.old y7.wf y8) (o8.bs (padM_byte _)) y8.wf (Nat.le_trans y7.next y8.next) (capW_ok (by rw [hlen4, hpl]; omega))
  have o59 : Old g5.next g5 g9 := (y7.trans (y8.weak y7.next)).trans y9
  have n5 : g5.next = g4.next := x5
  have hbh : g2.next < g5.next := by
    have := p3.next
    omega
  have c9 : Cells g9 g2.next T_a8_uint32 (uL (fold64 (l.length / 64) h0 l)) := x1.oldN hbh o59
  have o9h : Old h.next h g9 := x3.trans (o59.weak x3.next)
  have e7 : r01_Sum.r7 (cx F (n + 1)) r01_Sum.ret r01_Sum.ret (p, .ptr ⟨h.next, 32, 0⟩, .ptr ⟨g2.next, 8, 0⟩, ((64 * (l.length / 64) : Nat) : Int), ()) g5 = r01_Sum.k9 (cx F (n + 1)) r01_Sum.ret r01_Sum.ret (.ptr ⟨h.next, 32, 0⟩, .ptr ⟨g2.next, 8, 0⟩, v9, ()) g9 := by
    simp only [r01_Sum.r7, r01_Sum.c7, s1, bV_some, a7, cV_some, b7.1.len, bI_some, cxC, a8, a9]
  rw [e7]
  have bt : Bs g9 v9 (tailM l) := o9.bs (tailM_byte hb.2)
  have ht := tailM_len l
  obtain ⟨g10, e10, q1, q2, q3, q4⟩ := rloop11_spec (F := F) (n := n) (r := .ptr ⟨h.next, 32, 0⟩) (n0 := h.next) (bh := g2.next) (by omega) (fold64_w h0_w _ _) (by omega) (by omega) (tailM_64 l) o9h c9 bt (o9.fresh hbh)
  rw [e10]
  obtain ⟨t1, t2, t3, t4⟩ := al_cells q2.wf (List.replicate 32 (.int .u8 0)) T_api_Id rfl (by simp)
  have t2' : (al (List.replicate 32 (.int .u8 0)) T_api_Id g10).1 = .ptr ⟨g10.next, 32, 0⟩ := t2
  generalize hg11 : (al (List.replicate 32 (.int .u8 0)) T_api_Id g10).2 = g11 at *
  have hlt5 : h.next < g5.next := by omega
  have hlt10 : g2.next < g10.next := by rw [q4]; exact Nat.lt_of_lt_of_le hbh o59.next
  have c11 : Cells g11 g2.next T_a8_uint32 (uL (fold64 ((tailM l).length / 64) (fold64 (l.length / 64) h0 l) (tailM l))) := q1.old q2.wf t4
  have h8 := fold64_w (fold64_w h0_w (l.length / 64) l) ((tailM l).length / 64) (tailM l)
  rw [rep32, ← digC_zero (fold64 ((tailM l).length / 64) (fold64 (l.length / 64) h0 l) (tailM l))] at t1
  obtain ⟨g12, e12, m1, m2, m3⟩ := rdig_spec (F := F) (n := n + 1) (by omega) h8 (res := .ptr ⟨h.next, 32, 0⟩) (n0 := h.next) (h := h) q2.next (by omega) (q2.trans (t4.weak q2.next)) c11 t1
  have e11 : r01_Sum.r14 (cx F (n + 1)) r01_Sum.ret r01_Sum.ret (.ptr ⟨h.next, 32, 0⟩, .ptr ⟨g2.next, 8, 0⟩, ()) g10 = r01_Sum.r19 (cx F (n + 1)) r01_Sum.ret r01_Sum.ret (.ptr ⟨h.next, 32, 0⟩, .ptr ⟨g10.next, 32, 0⟩, ()) g12 := by
    rw [← e12]
    simp only [r01_Sum.r14, r01_Sum.c14, t2', hg11]
  rw [e11]
  have r12 : Cells g12 h.next T_api_Id (List.replicate 32 (.int .u8 0)) := by
    refine r4.mono ?_
    rw [m3 _ (by omega), t4.get _ (by omega), q3 _ (by omega), o59.get _ hlt5, x4 _ (by omega)]
  obtain ⟨g13, z1, z2, z3⟩ := r12.put m2.wf (n := 32) (vs := byteL (sumM l)) rfl (by rw [byteL_len, sumM_len]) (byteL_cell _)
  refine ⟨g13, ?_, m2.trans (z3.old (Nat.le_refl _))⟩
  have m1' : Cells g12 g10.next T_api_Id (byteL (sumM l)) := m1
  simp only [r01_Sum.r19, r01_Sum.c19, m1'.ldA (n := 32) (by rw [byteL_len, sumM_len]), bA_some, z1, bS_some, r01_Sum.ret, z2.ldA (n := 32) (by rw [byteL_len, sumM_len])]
  rfl
end Go.Proofs.YtbeohojepniioaaDoor
