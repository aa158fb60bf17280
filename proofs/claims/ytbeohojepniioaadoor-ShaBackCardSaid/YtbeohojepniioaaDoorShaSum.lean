/-
  The sum of bytes: the program's way and the document's come to one list.
-/
import Derived.Test.YtbeohojepniioaaDoorShaDoc
import Derived.Test.YtbeohojepniioaaDoorShaLaw
set_option linter.unusedVariables false
set_option linter.unusedSimpArgs false
namespace Go.Proofs.YtbeohojepniioaaDoor
open Go Ev

/-! ## Plain -/
def toI (l : List Nat) : List Int := l.map fun (n : Nat) => (n : Int)
def BB (hs : List Int) (l : List Nat) : List Int := blockB kTab hs (toI l)
def W8 (hs : List Int) : Prop := hs.length = 8 ∧ ∀ x ∈ hs, InW x
theorem BB_w (hs : List Int) (l : List Nat) : W8 (BB hs l) := ⟨rfl, blockB_in _ _ _⟩
theorem h0_w : W8 h0 := ⟨rfl, by
  intro x hx
  simp only [h0, List.mem_cons, List.not_mem_nil, or_false] at hx
  unfold InW
  omega⟩
/-- j blocks of a list, one behind the other. -/
def fold64 : Nat → List Int → List Nat → List Int
  | 0, hs, _ => hs
  | j + 1, hs, l => BB (fold64 j hs l) ((l.drop (64 * j)).take 64)
theorem fold64_w {hs : List Int} (h : W8 hs) : ∀ (j : Nat) (l : List Nat), W8 (fold64 j hs l)
  | 0, _ => h
  | _ + 1, _ => BB_w _ _
/-- A byte of the words. -/
def digit (hs : List Int) (i : Nat) : Nat := (hs.getD (i / 4) 0).toNat / 256 ^ (3 - i % 4) % 256
def digM (hs : List Int) : List Nat := (List.range 32).map (digit hs)
def digC (hs : List Int) (k : Nat) : List Nat := (digM hs).take k ++ List.replicate (32 - k) 0
theorem digM_len (hs : List Int) : (digM hs).length = 32 := by simp [digM]
theorem digM_byte (hs : List Int) : ∀ x ∈ digM hs, x < 256 := by
  intro x hx
  obtain ⟨i, _, rfl⟩ := List.mem_map.1 hx
  exact Nat.mod_lt _ (by omega)
theorem digC_len (hs : List Int) {k : Nat} (hk : k ≤ 32) : (digC hs k).length = 32 := by
  unfold digC
  rw [List.length_append, List.length_take, List.length_replicate, digM_len]; omega
theorem digC_zero (hs : List Int) : digC hs 0 = List.replicate 32 0 := by simp [digC]
theorem digC_end (hs : List Int) : digC hs 32 = digM hs := by
  unfold digC
  rw [List.take_of_length_le (by rw [digM_len]; exact Nat.le_refl _)]
  simp
theorem digC_step (hs : List Int) {k : Nat} (hk : k < 32) : (digC hs k).set k (digit hs k) = digC hs (k + 1) := by
  unfold digC
  obtain ⟨m, hm⟩ : ∃ m, 32 - k = m + 1 := ⟨31 - k, by omega⟩
  have e2 : 32 - (k + 1) = m := by omega
  have hl : ((digM hs).take k).length = k := by rw [List.length_take, digM_len]; omega
  rw [hm, e2, List.set_append, if_neg (by omega), hl, Nat.sub_self, List.replicate_succ, List.set_cons_zero]
  have hget : (digM hs)[k]? = some (digit hs k) := by
    unfold digM
    rw [List.getElem?_map, List.getElem?_range hk]; rfl
  rw [List.take_add_one, hget]
  simp
/-- The sum. -/
def tailM (l : List Nat) : List Nat := l.drop (64 * (l.length / 64)) ++ padM l.length
def sumM (l : List Nat) : List Nat := digM (fold64 ((tailM l).length / 64) (fold64 (l.length / 64) h0 l) (tailM l))
theorem sumM_len (l : List Nat) : (sumM l).length = 32 := digM_len _
theorem sumM_byte (l : List Nat) : ∀ x ∈ sumM l, x < 256 := digM_byte _
theorem tailM_len (l : List Nat) : (tailM l).length = l.length % 64 + (padM l.length).length := by
  unfold tailM
  rw [List.length_append, List.length_drop]
  omega
theorem tailM_byte {l : List Nat} (h : ∀ x ∈ l, x < 256) : ∀ x ∈ tailM l, x < 256 := by
  intro x hx
  rcases List.mem_append.1 hx with hx | hx
  · exact h x (List.mem_of_mem_drop hx)
  · exact padM_byte _ x hx
theorem tailM_64 (l : List Nat) : (tailM l).length % 64 = 0 := by
  rw [tailM_len]
  have := padM_fits l.length
  omega

/-! ## The blocks -/
def KT (h : AH) : Prop := readN h ⟨0, 64, 0⟩ 64 = some (uL kTab)
theorem KT.pos {h : AH} (hk : KT h) (hw : h.WF) : 0 < h.next := by
  obtain ⟨k, h1, _⟩ := readN_alive hk
  have := hw _ _ h1
  omega
theorem KT.old {h h' : AH} {n : Nat} (hk : KT h) (hn : 0 < n) (hd : Old n h h') : KT h' := readN_mono hk (hd.get 0 hn)
theorem KT.wrote {h h' : AH} {b : Nat} (hk : KT h) (hb : 0 < b) (hw : Wrote h h' b) : KT h' := readN_mono hk (hw.rest 0 (by omega))
theorem byteL_ints (l : List Nat) : byteL l = (toI l).map (V.int .u8) := by
  unfold byteL toI
  rw [List.map_map]; rfl
theorem block_spec {F n : Nat} {h : AH} (hk : KT h) {hs : List Int} (hw : W8 hs) {l : List Nat} (hl : l.length = 64) (hb : ∀ x ∈ l, x < 256) : runC (EE F) (n + 1) n_sha_Block [.agg (uL hs), .agg (byteL l)] h = some (.agg (uL (BB hs l)), h) := by
  rw [at_Block]
  have e1 : intsOf .u32 (uL hs) = some hs := intsOf_map _ _
  have e2 : intsOf .u8 (byteL l) = some (toI l) := by rw [byteL_ints]; exact intsOf_map _ _
  have e3 : intsOf .u32 (uL kTab) = some kTab := intsOf_map _ _
  have hk' : readN h ⟨0, 64, 0⟩ 64 = some (uL kTab) := hk
  have e4 : (Nat.beq hs.length 8 && Nat.beq (toI l).length 64) = true := by
    rw [hw.1, show (toI l).length = 64 from by rw [toI, List.length_map, hl]]; rfl
  simp only [gBlock, e1, e2, hk', e3, e4, cond_true]
  have : blockA kTab hs (toI l) = BB hs l := block_eq hw.2 (by
    intro x hx
    obtain ⟨y, hy, rfl⟩ := List.mem_map.1 hx
    have := hb y hy
    exact ⟨by omega, by omega⟩)
  rw [this]; rfl
theorem compress_spec {F n : Nat} {h : AH} {hs : List Int} (hw : W8 hs) {v : V} {l : List Nat} (hb : Bs h v l) (hl : l.length = 64) : runC (EE F) (n + 1) n_r01_compress [.agg (uL hs), v] h = some (.agg (uL (BB hs l)), h) := by
  rw [at_Compress]
  obtain ⟨⟨h1, h2⟩, h3⟩ := hb
  rcases h2 with ⟨h0, _⟩ | ⟨a, cap, ex, rfl, h4, h5⟩
  · omega
  · have e1 : intsOf .u32 (uL hs) = some hs := intsOf_map _ _
    have e2 : intsOf .u8 (byteL l) = some (toI l) := by rw [byteL_ints]; exact intsOf_map _ _
    rw [Nat.mul_one] at h5
    have e4 : (Nat.beq hs.length 8 && (Nat.beq l.length 64 && Nat.beq 1 1)) = true := by rw [hw.1, hl]; rfl
    simp only [gCompress, e1, h5, e2, e4, cond_true]
    rfl

/-! ## The program's loops over blocks -/
theorem W8.cell {hs : List Int} (h : W8 hs) : (uL hs).length = 8 := (uL_len hs).trans h.1
/-- A block is taken: what a round does. -/
theorem round_spec {F n : Nat} {g : AH} (hk : KT g) (hw : g.WF) {bh e : Nat} (hbh : 0 < bh) {hs : List Int} (h8 : W8 hs) (hc : Cells g bh e (uL hs)) {v : V} {l : List Nat} (hb : Bs g v l) (hl : 64 ≤ l.length) (hn : notIn v bh) :
    ∃ a g' v', Ev.ldA 8 (.ptr ⟨bh, 8, 0⟩) g = some (.agg (uL hs)) ∧ arrAt 64 v = some (.ptr a) ∧ Ev.ldA 64 (.ptr a) g = some (.agg (byteL (l.take 64))) ∧ runC (EE F) (n + 1) n_sha_Block [.agg (uL hs), .agg (byteL (l.take 64))] g = some (.agg (uL (BB hs (l.take 64))), g) ∧
      st 8 (.ptr ⟨bh, 8, 0⟩) (.agg (uL (BB hs (l.take 64)))) g = some g' ∧ slS 1 v (some (.int .i64 64)) none none = some v' ∧
      Cells g' bh e (uL (BB hs (l.take 64))) ∧ Wrote g g' bh ∧ Bs g' v' (l.drop 64) ∧ notIn v' bh := by
  obtain ⟨a, a1, a2⟩ := hb.arr hl (by omega)
  obtain ⟨g', p1, p2, p3⟩ := hc.put hw (n := 8) h8.cell.symm (BB_w hs (l.take 64)).cell (uL_cell _)
  obtain ⟨v', s1, s2⟩ := hb.cut (lo := some (.int .i64 64)) (hi := none) (l := 64) (u := l.length) (.inl ⟨rfl, rfl⟩) (.inr rfl) hl (Nat.le_refl _)
  have hn' := slS_notIn s1 hn
  have e : (l.drop 64).take (l.length - 64) = l.drop 64 := List.take_of_length_le (by rw [List.length_drop]; exact Nat.le_refl _)
  rw [e] at s2
  exact ⟨a, g', v', hc.ldA h8.cell.symm, a1, ldA_of a2, block_spec hk h8 (by rw [List.length_take]; omega) (fun x hx => hb.2 x (List.mem_of_mem_take hx)), p1, s1, p2, p3, s2.wrote p3 hn', hn'⟩
/-- The bytes that are left after j blocks. -/
theorem drop_more (l : List Nat) (j : Nat) : (l.drop (64 * j)).drop 64 = l.drop (64 * (j + 1)) := by rw [List.drop_drop]; congr 1

theorem loop3_spec {F n : Nat} {n0 bh : Nat} (hn0 : n0 ≤ bh) (hbh : 0 < bh) {p r v : V} {l : List Nat} {hs : List Int} (h8 : W8 hs) {e : Nat} {h g : AH} (hF : l.length / 64 < F) (hl : (l.length : Int) ≤ 9223372036854775807) (hk : KT g) (hd : Old n0 h g) (hc : Cells g bh e (uL hs)) (hb : Bs g v l) (hn : notIn v bh) :
    ∃ v' g', sha_Sum.k2 (cx F (n + 1)) sha_Sum.ret sha_Sum.ret (p, r, .ptr ⟨bh, 8, 0⟩, v, ()) g = sha_Sum.r6 (cx F (n + 1)) sha_Sum.ret sha_Sum.ret (p, r, .ptr ⟨bh, 8, 0⟩, v', ()) g' ∧
      Cells g' bh e (uL (fold64 (l.length / 64) hs l)) ∧ Bs g' v' (l.drop (64 * (l.length / 64))) ∧ notIn v' bh ∧ Old n0 h g' ∧ KT g' ∧ (∀ b, b ≠ bh → g'.get b = g.get b) ∧ g'.next = g.next := by
  refine loop_rule (S := sha_Sum.P6) (out := fun x => ∃ v' g', x = sha_Sum.r6 (cx F (n + 1)) sha_Sum.ret sha_Sum.ret (p, r, .ptr ⟨bh, 8, 0⟩, v', ()) g' ∧
      Cells g' bh e (uL (fold64 (l.length / 64) hs l)) ∧ Bs g' v' (l.drop (64 * (l.length / 64))) ∧ notIn v' bh ∧ Old n0 h g' ∧ KT g' ∧ (∀ b, b ≠ bh → g'.get b = g.get b) ∧ g'.next = g.next)
    (fun k s g1 => ∃ (j : Nat) (w : V), j + k = l.length / 64 ∧ s = (p, r, .ptr ⟨bh, 8, 0⟩, w, ()) ∧ Cells g1 bh e (uL (fold64 j hs l)) ∧ Bs g1 w (l.drop (64 * j)) ∧ notIn w bh ∧ Old n0 h g1 ∧ KT g1 ∧ (∀ b, b ≠ bh → g1.get b = g.get b) ∧ g1.next = g.next)
    ?_ ?_ (l.length / 64) F _ _ ⟨0, v, by omega, rfl, hc, by simpa using hb, hn, hd, hk, fun _ _ => rfl, rfl⟩ hF
  · rintro k s g1 n' ⟨j, w, hj, rfl, hc1, hb1, hn1, hd1, hk1, hr1, hx1⟩
    refine .inl ?_
    have hlen : (l.drop (64 * j)).length = l.length - 64 * j := List.length_drop
    obtain ⟨a, g2, w2, q1, q2, q3, q4, q5, q6, q7, q8, q9, q10⟩ := round_spec (F := F) (n := n) hk1 hd1.wf hbh (fold64_w h8 j l) hc1 hb1 (by omega) hn1
    refine ⟨_, g2, ?_, j + 1, w2, by omega, rfl, q7, by rw [← drop_more]; exact q9, q10, hd1.trans (q8.old hn0), hk1.wrote hbh q8, fun b hb => (q8.rest b hb).trans (hr1 b hb), q8.next.trans hx1⟩
    have c1 : decide (((l.drop (64 * j)).length : Int) ≥ 64) = true := by rw [decide_eq_true_eq, hlen]; omega
    have q4' : (cx F (n + 1)).C n_sha_Block [.agg (uL (fold64 j hs l)), .agg (byteL ((l.drop (64 * j)).take 64))] g1 = some (.agg (uL (BB (fold64 j hs l) ((l.drop (64 * j)).take 64))), g1) := q4
    simp only [sha_Sum.l3, sha_Sum.c3, sha_Sum.k3, hb1.1.len, bI_some, c1, cond_true, sha_Sum.r4, sha_Sum.c4, q1, bA_some, q2, bV_some, q3, q4', cA_some, q5, bS_some, q6]
  · rintro s g1 n' ⟨j, w, hj, rfl, hc1, hb1, hn1, hd1, hk1, hr1, hx1⟩
    obtain rfl : j = l.length / 64 := by omega
    have hlen : (l.drop (64 * (l.length / 64))).length = l.length - 64 * (l.length / 64) := List.length_drop
    refine ⟨w, g1, ?_, hc1, hb1, hn1, hd1, hk1, hr1, hx1⟩
    have c1 : decide (((l.drop (64 * (l.length / 64))).length : Int) ≥ 64) = false := by rw [decide_eq_false_iff_not, hlen]; omega
    simp only [sha_Sum.l3, sha_Sum.c3, sha_Sum.k3, hb1.1.len, bI_some, c1, cond_false]

theorem loop7_spec {F n : Nat} {n0 bh : Nat} (hn0 : n0 ≤ bh) (hbh : 0 < bh) {r v : V} {l : List Nat} {hs : List Int} (h8 : W8 hs) {e : Nat} {h g : AH} (hF : l.length / 64 < F) (hl : (l.length : Int) ≤ 9223372036854775807) (hk : KT g) (hd : Old n0 h g) (hc : Cells g bh e (uL hs)) (hb : Bs g v l) (hn : notIn v bh) :
    ∃ g', sha_Sum.k6 (cx F (n + 1)) sha_Sum.ret sha_Sum.ret (r, .ptr ⟨bh, 8, 0⟩, v, ()) g = sha_Sum.r10 (cx F (n + 1)) sha_Sum.ret sha_Sum.ret (r, .ptr ⟨bh, 8, 0⟩, ()) g' ∧
      Cells g' bh e (uL (fold64 (l.length / 64) hs l)) ∧ Old n0 h g' ∧ (∀ b, b ≠ bh → g'.get b = g.get b) ∧ g'.next = g.next := by
  refine loop_rule (S := sha_Sum.P14) (out := fun x => ∃ g', x = sha_Sum.r10 (cx F (n + 1)) sha_Sum.ret sha_Sum.ret (r, .ptr ⟨bh, 8, 0⟩, ()) g' ∧
      Cells g' bh e (uL (fold64 (l.length / 64) hs l)) ∧ Old n0 h g' ∧ (∀ b, b ≠ bh → g'.get b = g.get b) ∧ g'.next = g.next)
    (fun k s g1 => ∃ (j : Nat) (w : V), j + k = l.length / 64 ∧ s = (r, .ptr ⟨bh, 8, 0⟩, w, ()) ∧ Cells g1 bh e (uL (fold64 j hs l)) ∧ Bs g1 w (l.drop (64 * j)) ∧ notIn w bh ∧ Old n0 h g1 ∧ KT g1 ∧ (∀ b, b ≠ bh → g1.get b = g.get b) ∧ g1.next = g.next)
    ?_ ?_ (l.length / 64) F _ _ ⟨0, v, by omega, rfl, hc, by simpa using hb, hn, hd, hk, fun _ _ => rfl, rfl⟩ hF
  · rintro k s g1 n' ⟨j, w, hj, rfl, hc1, hb1, hn1, hd1, hk1, hr1, hx1⟩
    refine .inl ?_
    have hlen : (l.drop (64 * j)).length = l.length - 64 * j := List.length_drop
    obtain ⟨a, g2, w2, q1, q2, q3, q4, q5, q6, q7, q8, q9, q10⟩ := round_spec (F := F) (n := n) hk1 hd1.wf hbh (fold64_w h8 j l) hc1 hb1 (by omega) hn1
    refine ⟨_, g2, ?_, j + 1, w2, by omega, rfl, q7, by rw [← drop_more]; exact q9, q10, hd1.trans (q8.old hn0), hk1.wrote hbh q8, fun b hb => (q8.rest b hb).trans (hr1 b hb), q8.next.trans hx1⟩
    have c1 : decide (((l.drop (64 * j)).length : Int) ≥ 64) = true := by rw [decide_eq_true_eq, hlen]; omega
    have q4' : (cx F (n + 1)).C n_sha_Block [.agg (uL (fold64 j hs l)), .agg (byteL ((l.drop (64 * j)).take 64))] g1 = some (.agg (uL (BB (fold64 j hs l) ((l.drop (64 * j)).take 64))), g1) := q4
    simp only [sha_Sum.l7, sha_Sum.c7, sha_Sum.k7, hb1.1.len, bI_some, c1, cond_true, sha_Sum.r8, sha_Sum.c8, q1, bA_some, q2, bV_some, q3, q4', cA_some, q5, bS_some, q6]
  · rintro s g1 n' ⟨j, w, hj, rfl, hc1, hb1, hn1, hd1, hk1, hr1, hx1⟩
    obtain rfl : j = l.length / 64 := by omega
    have hlen : (l.drop (64 * (l.length / 64))).length = l.length - 64 * (l.length / 64) := List.length_drop
    refine ⟨g1, ?_, hc1, hd1, hr1, hx1⟩
    have c1 : decide (((l.drop (64 * (l.length / 64))).length : Int) ≥ 64) = false := by rw [decide_eq_false_iff_not, hlen]; omega
    simp only [sha_Sum.l7, sha_Sum.c7, sha_Sum.k7, hb1.1.len, bI_some, c1, cond_false]
end Go.Proofs.YtbeohojepniioaaDoor
