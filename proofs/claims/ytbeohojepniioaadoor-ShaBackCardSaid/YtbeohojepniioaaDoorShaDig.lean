/-
  The sum of bytes: the words written out; the program's Sum whole.
-/
import Derived.Test.YtbeohojepniioaaDoorShaSum
set_option linter.unusedVariables false
set_option linter.unusedSimpArgs false
namespace Go.Proofs.YtbeohojepniioaaDoor
open Go Ev

theorem cxC (F n : Nat) (f : Nat) (args : List V) (h : AH) : (cx F n).C f args h = runC (EE F) n f args h := rfl
theorem dig_byte {w : Int} (hw : InW w) {j : Nat} (hj : j < 4) : IntKind.wrap .u8 (ishr .u32 w ((24 - 8 * j : Nat) : Int)) = ((w.toNat / 256 ^ (3 - j) % 256 : Nat) : Int) := by
  obtain ⟨n, rfl⟩ : ∃ n : Nat, w = (n : Int) := ⟨w.toNat, by have := hw.1; omega⟩
  unfold ishr
  rw [Int.toNat_natCast, Int.toNat_natCast, wr_u8]
  have e2 : min (24 - 8 * j) IntKind.u32.bits = 24 - 8 * j := by
    have : IntKind.u32.bits = 32 := rfl
    omega
  have e3 : ((2 : Int) ^ (24 - 8 * j)) = ((256 ^ (3 - j) : Nat) : Int) := by
    have : j = 0 ∨ j = 1 ∨ j = 2 ∨ j = 3 := by omega
    rcases this with rfl | rfl | rfl | rfl <;> rfl
  rw [e2, e3, Int.fdiv_eq_ediv_of_nonneg _ (Int.natCast_nonneg _), ← Int.natCast_ediv]
  omega
theorem uL_get {hs : List Int} {i : Nat} (hi : i < hs.length) : (uL hs)[i]? = some (.int .u32 (hs.getD i 0)) := by
  unfold uL
  rw [List.getElem?_map, List.getElem?_eq_getElem hi, List.getD_eq_getElem?_getD, List.getElem?_eq_getElem hi]; rfl
theorem W8.at {hs : List Int} (h : W8 hs) (i : Nat) (hi : i < 8) : InW (hs.getD i 0) := by
  have hl : i < hs.length := by rw [h.1]; exact hi
  rw [List.getD_eq_getElem?_getD, List.getElem?_eq_getElem hl]
  exact h.2 _ (List.getElem_mem hl)

/-- The four bytes of a word. -/
theorem inner_spec {F n : Nat} (hF : 40 < F) {hs : List Int} (h8 : W8 hs) {i : Nat} (hi : i < 8) {res : V} {bd e n0 : Nat} (hbd : n0 ≤ bd) {h g : AH} (hd : Old n0 h g) (hc : Cells g bd e (byteL (digC hs (4 * i)))) (Jn : sha_Sum.P24 → AH → Res) (J4 : sha_Sum.P41 → AH → Res) (Jr : sha_Sum.P42 → AH → Res) :
    ∃ g', sha_Sum.k14 (cx F n) (sha_Sum.r19 (cx F n) Jn J4 Jr) (sha_Sum.r19 (cx F n) Jn J4 Jr) J4 Jr (res, .ptr ⟨bd, 32, 0⟩, (i : Int), hs.getD i 0, uL hs, (i : Int), 0, ()) g = sha_Sum.r19 (cx F n) Jn J4 Jr (res, .ptr ⟨bd, 32, 0⟩, uL hs, (i : Int), ()) g' ∧
      Cells g' bd e (byteL (digC hs (4 * (i + 1)))) ∧ Old n0 h g' ∧ (∀ b, b ≠ bd → g'.get b = g.get b) := by
  refine loop_rule (S := sha_Sum.P30) (out := fun x => ∃ g', x = sha_Sum.r19 (cx F n) Jn J4 Jr (res, .ptr ⟨bd, 32, 0⟩, uL hs, (i : Int), ()) g' ∧ Cells g' bd e (byteL (digC hs (4 * (i + 1)))) ∧ Old n0 h g' ∧ (∀ b, b ≠ bd → g'.get b = g.get b))
    (fun k s g1 => ∃ j : Nat, j + k = 4 ∧ s = (res, .ptr ⟨bd, 32, 0⟩, (i : Int), hs.getD i 0, uL hs, (i : Int), (j : Int), ()) ∧ Cells g1 bd e (byteL (digC hs (4 * i + j))) ∧ Old n0 h g1 ∧ (∀ b, b ≠ bd → g1.get b = g.get b))
    ?_ ?_ 4 F _ _ ⟨0, rfl, rfl, hc, hd, fun _ _ => rfl⟩ (by omega)
  · rintro k s g1 n' ⟨j, hj, rfl, hc1, hd1, hr1⟩
    refine .inl ?_
    have i1 : IntKind.wrap .i64 (8 * (j : Int)) = ((8 * j : Nat) : Int) := by rw [wr_i64 (by omega) (by omega)]; omega
    have i2 : IntKind.wrap .i64 (24 - ((8 * j : Nat) : Int)) = ((24 - 8 * j : Nat) : Int) := by rw [wr_i64 (by omega) (by omega)]; omega
    have i4 : IntKind.wrap .i64 (4 * (i : Int)) = ((4 * i : Nat) : Int) := by rw [wr_i64 (by omega) (by omega)]; omega
    have i5 : IntKind.wrap .i64 (((4 * i : Nat) : Int) + (j : Int)) = ((4 * i + j : Nat) : Int) := by rw [wr_i64 (by omega) (by omega)]; omega
    have i3 : IntKind.wrap .i64 ((j : Int) + 1) = ((j + 1 : Nat) : Int) := by rw [wr_i64 (by omega) (by omega)]; omega
    have hl : (byteL (digC hs (4 * i + j))).length = 32 := by rw [byteL_len, digC_len hs (by omega)]
    obtain ⟨a, g2, w1, w2, w3, w4⟩ := hc1.st1 hd1.wf (n := 32) hl.symm (i := ((4 * i + j : Nat) : Int)) (by omega) (by omega) (v := .int .u8 ((digit hs (4 * i + j) : Nat) : Int)) rfl rfl
    have e1 : digit hs (4 * i + j) = (hs.getD i 0).toNat / 256 ^ (3 - j) % 256 := by
      unfold digit
      have : (4 * i + j) / 4 = i := by omega
      have h2 : (4 * i + j) % 4 = j := by omega
      rw [this, h2]
    rw [Int.toNat_natCast] at w3
    have e2 : (byteL (digC hs (4 * i + j))).set (4 * i + j) (.int .u8 ((digit hs (4 * i + j) : Nat) : Int)) = byteL (digC hs (4 * i + j + 1)) := by
      rw [← digC_step hs (by omega), ← byteL_set]; rfl
    rw [e2] at w3
    refine ⟨_, g2, ?_, j + 1, by omega, rfl, w3, hd1.trans (w4.old hbd), fun b hb => (w4.rest b hb).trans (hr1 b hb)⟩
    have c1 : decide ((j : Int) < 4) = true := by rw [decide_eq_true_eq]; omega
    have c2 : ¬ ((24 - 8 * j : Nat) : Int) < 0 := by omega
    rw [e1] at w2
    simp only [sha_Sum.l15, sha_Sum.c15, sha_Sum.k15, c1, cond_true, sha_Sum.r16, sha_Sum.c16, wr, i1, i2, if_neg c2, bI_some, i4, i5, w1, bV_some, dig_byte (h8.at i hi) (show j < 4 by omega), w2, bS_some, sha_Sum.r18, sha_Sum.c18, i3]
  · rintro s g1 n' ⟨j, hj, rfl, hc1, hd1, hr1⟩
    obtain rfl : j = 4 := by omega
    exact ⟨g1, rfl, hc1, hd1, hr1⟩
/-- All the words. -/
theorem outer_spec {F n : Nat} (hF : 40 < F) {hs : List Int} (h8 : W8 hs) {res : V} {bd e n0 : Nat} (hbd : n0 ≤ bd) {h g : AH} (hd : Old n0 h g) (hc : Cells g bd e (byteL (digC hs 0))) (J4 : sha_Sum.P41 → AH → Res) (Jr : sha_Sum.P42 → AH → Res) :
    ∃ g', sha_Sum.k11 (cx F n) J4 Jr (res, .ptr ⟨bd, 32, 0⟩, uL hs, 0, ()) g = J4 (res, .ptr ⟨bd, 32, 0⟩, ()) g' ∧ Cells g' bd e (byteL (digM hs)) ∧ Old n0 h g' ∧ (∀ b, b ≠ bd → g'.get b = g.get b) := by
  refine loop_rule (S := sha_Sum.P24) (out := fun x => ∃ g', x = J4 (res, .ptr ⟨bd, 32, 0⟩, ()) g' ∧ Cells g' bd e (byteL (digM hs)) ∧ Old n0 h g' ∧ (∀ b, b ≠ bd → g'.get b = g.get b))
    (fun k s g1 => ∃ i : Nat, i + k = 8 ∧ s = (res, .ptr ⟨bd, 32, 0⟩, uL hs, (i : Int), ()) ∧ Cells g1 bd e (byteL (digC hs (4 * i))) ∧ Old n0 h g1 ∧ (∀ b, b ≠ bd → g1.get b = g.get b))
    ?_ ?_ 8 F _ _ ⟨0, rfl, rfl, hc, hd, fun _ _ => rfl⟩ (by omega)
  · rintro k s g1 n' ⟨i, hi, rfl, hc1, hd1, hr1⟩
    refine .inl ?_
    have i3 : IntKind.wrap .i64 ((i : Int) + 1) = ((i + 1 : Nat) : Int) := by rw [wr_i64 (by omega) (by omega)]; omega
    obtain ⟨g2, w1, w2, w3, w4⟩ := inner_spec (n := n) hF h8 (i := i) (by omega) (res := res) hbd hd1 hc1 n' J4 Jr
    refine ⟨(res, .ptr ⟨bd, 32, 0⟩, uL hs, ((i + 1 : Nat) : Int), ()), g2, ?_, i + 1, by omega, rfl, w2, w3, fun b hb => (w4 b hb).trans (hr1 b hb)⟩
    have c1 : decide ((i : Int) < 8) = true := by rw [decide_eq_true_eq]; omega
    have c2 : ixC 8 1 (uL hs) (i : Int) = some (.int .u32 (hs.getD i 0)) := by
      unfold ixC
      rw [if_pos (by omega), Int.toNat_natCast, Nat.mul_one, uL_get (by rw [h8.1]; omega)]
    simp only [sha_Sum.l12, sha_Sum.c12, sha_Sum.k12, c1, cond_true, sha_Sum.r13, sha_Sum.c13, c2, bI_some, w1, sha_Sum.r19, sha_Sum.c19, wr, i3]
  · rintro s g1 n' ⟨i, hi, rfl, hc1, hd1, hr1⟩
    obtain rfl : i = 8 := by omega
    refine ⟨g1, rfl, ?_, hd1, hr1⟩
    rw [← digC_end]
    exact hc1
theorem rep32 : (List.replicate 32 (V.int .u8 0)) = byteL (List.replicate 32 0) := by
  unfold byteL
  rw [List.map_replicate]; rfl

theorem sum_spec {F n : Nat} {h : AH} (hw : h.WF) (hk : KT h) {p : V} {l : List Nat} (hb : Bs h p l) (hl : l.length ≤ 140737488354000) (hF : l.length + 200 < F) :
    ∃ h', runC (EE F) (n + 2) n_sha_Sum [p] h = some (.agg (byteL (sumM l)), h') ∧ Old h.next h h' := by
  rw [at_sha_Sum]
  have hpos := hk.pos hw
  -- what is laid
  obtain ⟨c1, c2, c3, c4⟩ := al_cells hw (List.replicate 32 (.int .u8 0)) T_api_Id rfl (by simp)
  have c2' : (al (List.replicate 32 (.int .u8 0)) T_api_Id h).1 = .ptr ⟨h.next, 32, 0⟩ := c2
  generalize hg1 : (al (List.replicate 32 (.int .u8 0)) T_api_Id h).2 = g1 at *
  obtain ⟨d1, d2, d3, d4⟩ := al_cells c4.wf (List.replicate 8 (.int .u32 0)) T_a8_uint32 rfl (by simp)
  have d2' : (al (List.replicate 8 (.int .u32 0)) T_a8_uint32 g1).1 = .ptr ⟨g1.next, 8, 0⟩ := d2
  generalize hg2 : (al (List.replicate 8 (.int .u32 0)) T_a8_uint32 g1).2 = g2 at *
  obtain ⟨g3, p1, p2, p3⟩ := d1.put d4.wf (n := 8) (vs := uL h0) rfl rfl (uL_cell h0)
  have o3 : Old h.next h g3 := (c4.trans (d4.weak c4.next)).trans (p3.old c4.next)
  have k3 := hk.old hpos o3
  have b3 := hb.old hw o3
  have n3 : notIn p g1.next := hb.1.notIn hw c4.next
  have r3 : Cells g3 h.next T_api_Id (List.replicate 32 (.int .u8 0)) := (c1.old c4.wf d4).wrote p3 (by omega)
  have e0 : sha_Sum.fn (cx F (n + 1)) p h = sha_Sum.k2 (cx F (n + 1)) sha_Sum.ret sha_Sum.ret (p, .ptr ⟨h.next, 32, 0⟩, .ptr ⟨g1.next, 8, 0⟩, p, ()) g3 := by
    simp only [sha_Sum.fn, sha_Sum.c0, c2', hg1, bld_h0, bA_some, d2', hg2, p1, bS_some]
  rw [e0]
  -- the whole blocks
  obtain ⟨v4, g4, e4, x1, x2, x3, x4, x5, x6, x7⟩ := loop3_spec (F := F) (n := n) (p := p) (r := .ptr ⟨h.next, 32, 0⟩) c4.next (by omega) h0_w (by omega) (by omega) k3 o3 p2 b3 n3
  rw [e4]
  -- the tail
  have w4 := x4.wf
  have hlen4 : (l.drop (64 * (l.length / 64))).length = l.length % 64 := by rw [List.length_drop]; omega
  obtain ⟨v5, g5, e5, o5, y5⟩ := clone_spec (F := F) (n := n) w4 x2 (by rw [hlen4]; omega)
  have b5 : Bs g5 p l := hb.old hw (x4.trans (y5.weak x4.next))
  obtain ⟨v6, g6, e6, o6, y6⟩ := pad_spec (F := F) (n := n) (by omega) (x := (l.length : Int)) (by omega) y5.wf
  rw [Int.toNat_natCast] at o6
  have o5' : Own g4.next 1 T_uint8 g6 v5 (l.drop (64 * (l.length / 64))).length (byteL (l.drop (64 * (l.length / 64)))) := o5.old y5.wf y6
  have hpl := padM_len l.length
  have hpz : padZ l.length < 64 := by unfold padZ; omega
  obtain ⟨v7, g7, e7, o7, y7, z7⟩ := app_bytes o5' (o6.bs (padM_byte _)) y6.wf (Nat.le_trans y5.next y6.next) (capW_ok (by rw [hlen4, hpl]; omega))
  have o57 : Old g4.next g4 g7 := (y5.trans (y6.weak y5.next)).trans y7
  have hbh : g1.next < g4.next := by
    have := p3.next
    have := d3
    omega
  have c7 : Cells g7 g1.next T_a8_uint32 (uL (fold64 (l.length / 64) h0 l)) := x1.oldN hbh o57
  have o7h : Old h.next h g7 := x4.trans (o57.weak x4.next)
  have k7 : KT g7 := x5.old (by omega) o57
  have e67 : sha_Sum.r6 (cx F (n + 1)) sha_Sum.ret sha_Sum.ret (p, .ptr ⟨h.next, 32, 0⟩, .ptr ⟨g1.next, 8, 0⟩, v4, ()) g4 = sha_Sum.k6 (cx F (n + 1)) sha_Sum.ret sha_Sum.ret (.ptr ⟨h.next, 32, 0⟩, .ptr ⟨g1.next, 8, 0⟩, v7, ()) g7 := by
    simp only [sha_Sum.r6, sha_Sum.c6, cxC, e5, cV_some, b5.1.len, bI_some, e6, e7]
  rw [e67]
  -- the tail's blocks
  have bt : Bs g7 v7 (tailM l) := o7.bs (tailM_byte hb.2)
  have ht := tailM_len l
  obtain ⟨g8, e8, q1, q2, q3, q4⟩ := loop7_spec (F := F) (n := n) (r := .ptr ⟨h.next, 32, 0⟩) c4.next (by omega) (fold64_w h0_w _ _) (by omega) (by omega) k7 o7h c7 bt (o7.fresh hbh)
  rw [e8]
  -- the words are written out
  obtain ⟨t1, t2, t3, t4⟩ := al_cells q2.wf (List.replicate 32 (.int .u8 0)) T_api_Id rfl (by simp)
  have t2' : (al (List.replicate 32 (.int .u8 0)) T_api_Id g8).1 = .ptr ⟨g8.next, 32, 0⟩ := t2
  generalize hg9 : (al (List.replicate 32 (.int .u8 0)) T_api_Id g8).2 = g9 at *
  have c9 : Cells g9 g1.next T_a8_uint32 (uL (fold64 ((tailM l).length / 64) (fold64 (l.length / 64) h0 l) (tailM l))) := q1.old q2.wf t4
  have h8 := fold64_w (fold64_w h0_w (l.length / 64) l) ((tailM l).length / 64) (tailM l)
  rw [rep32, ← digC_zero (fold64 ((tailM l).length / 64) (fold64 (l.length / 64) h0 l) (tailM l))] at t1
  obtain ⟨g10, e10, s1, s2, s3⟩ := outer_spec (F := F) (n := n + 1) (by omega) h8 (res := .ptr ⟨h.next, 32, 0⟩) (n0 := h.next) (h := h) q2.next (q2.trans (t4.weak q2.next)) t1 (sha_Sum.r20 (cx F (n + 1)) sha_Sum.ret sha_Sum.ret) sha_Sum.ret
  have e11 : sha_Sum.r10 (cx F (n + 1)) sha_Sum.ret sha_Sum.ret (.ptr ⟨h.next, 32, 0⟩, .ptr ⟨g1.next, 8, 0⟩, ()) g8 = sha_Sum.r20 (cx F (n + 1)) sha_Sum.ret sha_Sum.ret (.ptr ⟨h.next, 32, 0⟩, .ptr ⟨g8.next, 32, 0⟩, ()) g10 := by
    rw [← e10]
    simp only [sha_Sum.r10, sha_Sum.c10, t2', hg9, sha_Sum.k10, sha_Sum.c11, c9.ldA h8.cell.symm, bA_some]
  rw [e11]
  -- the answer
  have r10 : Cells g10 h.next T_api_Id (List.replicate 32 (.int .u8 0)) := by
    refine r3.mono ?_
    have hlt : h.next < g4.next := by omega
    have hlt8 : h.next < g8.next := by rw [q4]; exact Nat.lt_of_lt_of_le hlt o57.next
    rw [s3 _ (by omega), t4.get _ hlt8, q3 _ (by omega), o57.get _ hlt, x6 _ (by omega)]
  obtain ⟨g11, f1, f2, f3⟩ := r10.put s2.wf (n := 32) (vs := byteL (sumM l)) rfl (by rw [byteL_len, sumM_len]) (byteL_cell _)
  refine ⟨g11, ?_, s2.trans (f3.old (Nat.le_refl _))⟩
  have s1' : Cells g10 g8.next T_api_Id (byteL (sumM l)) := s1
  simp only [sha_Sum.r20, sha_Sum.c20, s1'.ldA (n := 32) (by rw [byteL_len, sumM_len]), bA_some, f1, bS_some, sha_Sum.ret, f2.ldA (n := 32) (by rw [byteL_len, sumM_len])]
  rfl
end Go.Proofs.YtbeohojepniioaaDoor
