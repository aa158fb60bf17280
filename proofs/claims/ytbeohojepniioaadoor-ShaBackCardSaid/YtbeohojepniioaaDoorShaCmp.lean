/-
  Ids compared: the program's way and the document's; the order of digits.
-/
import Derived.Test.YtbeohojepniioaaDoorShaParse
set_option linter.unusedVariables false
set_option linter.unusedSimpArgs false
namespace Go.Proofs.YtbeohojepniioaaDoor
open Go Ev

theorem cmpN_cons (a b : Nat) (l m : List Nat) : cmpN (a :: l) (b :: m) = bif Nat.blt a b then -1 else bif Nat.blt b a then 1 else cmpN l m := rfl
theorem cmpN_lt {a b : Nat} (l m : List Nat) (h : a < b) : cmpN (a :: l) (b :: m) = -1 := by rw [cmpN_cons, Arr.blt_eq]; simp [h]
theorem cmpN_gt {a b : Nat} (l m : List Nat) (h : b < a) : cmpN (a :: l) (b :: m) = 1 := by rw [cmpN_cons, Arr.blt_eq, Arr.blt_eq]; simp [h, show ¬ a < b by omega]
theorem cmpN_eq' (a : Nat) (l m : List Nat) : cmpN (a :: l) (a :: m) = cmpN l m := by rw [cmpN_cons, Arr.blt_eq]; simp
theorem cmpN_anti : ∀ (l m : List Nat), cmpN l m = -cmpN m l := by
  intro l
  induction l with
  | nil => intro m; cases m <;> rfl
  | cons a l ih =>
    intro m
    cases m with
    | nil => rfl
    | cons b m =>
      rcases Nat.lt_trichotomy a b with h | h | h
      · rw [cmpN_lt _ _ h, cmpN_gt _ _ h]
      · subst h; rw [cmpN_eq', cmpN_eq']; exact ih m
      · rw [cmpN_gt _ _ h, cmpN_lt _ _ h]; rfl
theorem cmpN_range : ∀ (l m : List Nat), cmpN l m = -1 ∨ cmpN l m = 0 ∨ cmpN l m = 1 := by
  intro l
  induction l with
  | nil => intro m; cases m with
    | nil => exact .inr (.inl rfl)
    | cons b m => exact .inl rfl
  | cons a l ih =>
    intro m
    cases m with
    | nil => exact .inr (.inr rfl)
    | cons b m =>
      rcases Nat.lt_trichotomy a b with h | h | h
      · exact .inl (cmpN_lt _ _ h)
      · subst h; rw [cmpN_eq']; exact ih m
      · exact .inr (.inr (cmpN_gt _ _ h))
theorem bs_bytesV {h : AH} {v : V} {l : List Nat} (hb : Bs h v l) : bytesV v h = some l := by
  obtain ⟨⟨h1, h2⟩, h3⟩ := hb
  rcases h2 with ⟨h0, rfl | rfl⟩ | ⟨a, cap, ex, rfl, h4, h5⟩
  · rw [List.eq_nil_of_length_eq_zero h0]; rfl
  · rw [List.eq_nil_of_length_eq_zero h0]; rfl
  · rw [Nat.mul_one] at h5
    show (readN h a l.length).bind toBytes = _
    rw [h5]
    exact toBytes_byteL h3
theorem bytesCompare_spec {F n : Nat} {h : AH} {v w : V} {a b : List Nat} (hv : Bs h v a) (hw : Bs h w b) : runC (EE F) (n + 1) n_bytes_Compare [v, w] h = some (.int .i64 (cmpN a b), h) := by
  rw [at_bytes_Compare]
  have e : (cx F n).X n_bytealg_Compare [v, w] h = some (.int .i64 (cmpN a b), h) := by
    show absCompare [v, w] h = _
    simp only [absCompare, bs_bytesV hv, bs_bytesV hw]
  simp only [bytes_Compare.fn, bytes_Compare.c0, e, cI_some]
  rfl
theorem compare_spec {F n : Nat} {h : AH} (hw : h.WF) {a b : List Nat} (ha : a.length = 32) (hb : b.length = 32) (ha8 : ∀ x ∈ a, x < 256) (hb8 : ∀ x ∈ b, x < 256) : ∃ h', runC (EE F) (n + 2) n_sha_Compare [.agg (byteL a), .agg (byteL b)] h = some (.int .i64 (cmpN a b), h') ∧ Old h.next h h' := by
  rw [at_sha_Compare]
  obtain ⟨h1, e1, c1, n1, o1⟩ := box_cells hw (byteL a) T_api_Id (byteL_cell a)
  obtain ⟨h2, e2, c2, n2, o2⟩ := box_cells o1.wf (byteL b) T_api_Id (byteL_cell b)
  have e1' : absBox T_api_Id (.agg (byteL a)) h = some (.ptr ⟨h.next, 32 * 1, 0⟩, h1) := by rw [e1, byteL_len, ha]
  have e2' : absBox T_api_Id (.agg (byteL b)) h1 = some (.ptr ⟨h1.next, 32 * 1, 0⟩, h2) := by rw [e2, byteL_len, hb]
  have c1' := c1.old o1.wf o2
  have s1 := slA_all (n := 32) (z := 1) c1' (by rw [byteL_len, ha]) (by omega)
  have s2 := slA_all (n := 32) (z := 1) c2 (by rw [byteL_len, hb]) (by omega)
  have e3 := bytesCompare_spec (F := F) (n := n) (arr_bs c1' ha ha8) (arr_bs c2 hb hb8)
  refine ⟨h2, ?_, o1.trans (o2.weak o1.next)⟩
  simp only [sha_Compare.fn, sha_Compare.c0, e1', cV_some, e2', s1, bV_some, s2, cxC, e3, cI_some]
  rfl
theorem rcompare_spec {F n : Nat} (hF : 40 < F) {h : AH} (hw : h.WF) {a b : List Nat} (ha : a.length = 32) (hb : b.length = 32) : ∃ h', runC (EE F) (n + 1) n_r01_Compare [.agg (byteL a), .agg (byteL b)] h = some (.int .i64 (cmpN a b), h') ∧ Old h.next h h' := by
  rw [at_r01_Compare]
  obtain ⟨h1, e1, c1, n1, o1⟩ := box_cells hw (byteL a) T_api_Id (byteL_cell a)
  obtain ⟨h2, e2, c2, n2, o2⟩ := box_cells o1.wf (byteL b) T_api_Id (byteL_cell b)
  have e1' : absBox T_api_Id (.agg (byteL a)) h = some (.ptr ⟨h.next, 32, 0⟩, h1) := by rw [e1, byteL_len, ha]
  have e2' : absBox T_api_Id (.agg (byteL b)) h1 = some (.ptr ⟨h1.next, 32, 0⟩, h2) := by rw [e2, byteL_len, hb]
  have c1' := c1.old o1.wf o2
  have e0 : r01_Compare.fn (cx F n) (byteL a) (byteL b) h = r01_Compare.k1 (cx F n) (r01_Compare.r9 (cx F n) r01_Compare.ret r01_Compare.ret) r01_Compare.ret (.ptr ⟨h.next, 32, 0⟩, .ptr ⟨h1.next, 32, 0⟩, 0, ()) h2 := by
    simp only [r01_Compare.fn, r01_Compare.c0, e1', cV_some, e2', r01_Compare.k0, r01_Compare.c1]
  rw [e0]
  show ∃ h', loopN r01_Compare.P4 F (fun t h n' => r01_Compare.l2 (cx F n) n' (r01_Compare.r9 (cx F n) r01_Compare.ret r01_Compare.ret) r01_Compare.ret t h) (.ptr ⟨h.next, 32, 0⟩, .ptr ⟨h1.next, 32, 0⟩, 0, ()) h2 = some (.int .i64 (cmpN a b), h') ∧ Old h.next h h'
  refine loop_rule (S := r01_Compare.P4) (out := fun x => ∃ h', x = some (.int .i64 (cmpN a b), h') ∧ Old h.next h h')
    (fun k t g => ∃ i : Nat, i + k = 32 ∧ t = (.ptr ⟨h.next, 32, 0⟩, .ptr ⟨h1.next, 32, 0⟩, (i : Int), ()) ∧ g = h2 ∧ cmpN a b = cmpN (a.drop i) (b.drop i)) ?_ ?_ 32 F _ _ ⟨0, rfl, rfl, rfl, rfl⟩ (by omega)
  · rintro k t g n' ⟨i, hi, rfl, rfl, hc⟩
    have c1x : decide ((i : Int) < 32) = true := by rw [decide_eq_true_eq]; omega
    have i3 : IntKind.wrap .i64 ((i : Int) + 1) = ((i + 1 : Nat) : Int) := by rw [wr_i64 (by omega) (by omega)]; omega
    have ga : a[i]? = some a[i] := List.getElem?_eq_getElem (by omega)
    have gb : b[i]? = some b[i] := List.getElem?_eq_getElem (by omega)
    obtain ⟨p, u1, u2⟩ := c1'.ld1 (n := 32) (by rw [byteL_len, ha]) (i := (i : Int)) (by omega) (by omega) (v := .int .u8 ((a[i] : Nat) : Int)) (by rw [Int.toNat_natCast, byteL_get, ga]; rfl)
    obtain ⟨q, u3, u4⟩ := c2.ld1 (n := 32) (by rw [byteL_len, hb]) (i := (i : Int)) (by omega) (by omega) (v := .int .u8 ((b[i] : Nat) : Int)) (by rw [Int.toNat_natCast, byteL_get, gb]; rfl)
    have da : a.drop i = a[i] :: a.drop (i + 1) := List.drop_eq_getElem_cons (by omega)
    have db : b.drop i = b[i] :: b.drop (i + 1) := List.drop_eq_getElem_cons (by omega)
    rw [da, db] at hc
    rcases Nat.lt_trichotomy a[i] b[i] with hlt | heq | hgt
    · refine .inr ⟨g, ?_, o1.trans (o2.weak o1.next)⟩
      have c2x : decide (((a[i] : Nat) : Int) < ((b[i] : Nat) : Int)) = true := by rw [decide_eq_true_eq]; omega
      rw [hc, cmpN_lt _ _ hlt]
      simp only [r01_Compare.l2, r01_Compare.c2, r01_Compare.k2, c1x, cond_true, r01_Compare.r3, r01_Compare.c3, r01_Compare.k3, r01_Compare.c4, u1, bV_some, u2, bI_some, u3, u4, c2x, r01_Compare.k4, r01_Compare.c5]
      rfl
    · refine .inl ⟨_, g, ?_, i + 1, by omega, rfl, rfl, by rw [hc, heq, cmpN_eq']⟩
      have c2x : decide (((a[i] : Nat) : Int) < ((b[i] : Nat) : Int)) = false := by rw [decide_eq_false_iff_not]; omega
      have c3x : decide (((a[i] : Nat) : Int) > ((b[i] : Nat) : Int)) = false := by rw [decide_eq_false_iff_not]; omega
      simp only [r01_Compare.l2, r01_Compare.c2, r01_Compare.k2, c1x, cond_true, r01_Compare.r3, r01_Compare.c3, r01_Compare.k3, r01_Compare.c4, u1, bV_some, u2, bI_some, u3, u4, c2x, r01_Compare.k4, cond_false, r01_Compare.r6, r01_Compare.c6, c3x, r01_Compare.k6, r01_Compare.r8, r01_Compare.c8, wr, i3]
    · refine .inr ⟨g, ?_, o1.trans (o2.weak o1.next)⟩
      have c2x : decide (((a[i] : Nat) : Int) < ((b[i] : Nat) : Int)) = false := by rw [decide_eq_false_iff_not]; omega
      have c3x : decide (((a[i] : Nat) : Int) > ((b[i] : Nat) : Int)) = true := by rw [decide_eq_true_eq]; omega
      rw [hc, cmpN_gt _ _ hgt]
      simp only [r01_Compare.l2, r01_Compare.c2, r01_Compare.k2, c1x, cond_true, r01_Compare.r3, r01_Compare.c3, r01_Compare.k3, r01_Compare.c4, u1, bV_some, u2, bI_some, u3, u4, c2x, r01_Compare.k4, cond_false, r01_Compare.r6, r01_Compare.c6, c3x, r01_Compare.k6, r01_Compare.c7]
      rfl
  · rintro t g n' ⟨i, hi, rfl, rfl, hc⟩
    obtain rfl : i = 32 := by omega
    refine ⟨g, ?_, o1.trans (o2.weak o1.next)⟩
    have c1x : decide (((32 : Nat) : Int) < 32) = false := rfl
    rw [hc, List.drop_of_length_le (by omega), List.drop_of_length_le (by omega)]
    simp only [r01_Compare.l2, r01_Compare.c2, r01_Compare.k2, c1x, cond_false, r01_Compare.r9, r01_Compare.c9]
    rfl

/-! ## The law of words -/
theorem words_spec {F n : Nat} (hF : 400 < F) {h : AH} (hw : h.WF) (hk : KT h) {a b s : List Nat} (ha : a.length = 32) (hb : b.length = 32) (ha8 : ∀ x ∈ a, x < 256) (hb8 : ∀ x ∈ b, x < 256) (hs : ∀ x ∈ s, x < 256) :
    ∃ h', runC (EE F) (n + 5) n_law01_ShaWords [.agg (byteL a), .agg (byteL b), .str s] h = some (.bool true, h') := by
  rw [at_law01_ShaWords]
  have hpos := hk.pos hw
  obtain ⟨h1, e1, c1, n1, o1⟩ := box_cells hw (byteL a) T_api_Id (byteL_cell a)
  obtain ⟨h2, e2, c2, n2, o2⟩ := box_cells o1.wf (byteL b) T_api_Id (byteL_cell b)
  have e1' : absBox T_api_Id (.agg (byteL a)) h = some (.ptr ⟨h.next, 32, 0⟩, h1) := by rw [e1, byteL_len, ha]
  have e2' : absBox T_api_Id (.agg (byteL b)) h1 = some (.ptr ⟨h1.next, 32, 0⟩, h2) := by rw [e2, byteL_len, hb]
  have o12 := o1.trans (o2.weak o1.next)
  obtain ⟨h3, e3, o3⟩ := awake_spec (F := F) (n := n) (by omega) o2.wf (hk.old hpos o12)
  obtain ⟨h4, e4, o4⟩ := parse_spec (F := F) (n := n + 1) (by omega) o3.wf hs
  obtain ⟨p1, p2, p3, p4⟩ := al_cells o4.wf (List.replicate 32 (.int .u8 0)) T_api_Id rfl (by simp)
  have p2' : (al (List.replicate 32 (.int .u8 0)) T_api_Id h4).1 = .ptr ⟨h4.next, 32, 0⟩ := p2
  generalize hh5 : (al (List.replicate 32 (.int .u8 0)) T_api_Id h4).2 = h5 at *
  have hpl : (byteL (parseM s).1).length = 32 := by rw [byteL_len]; unfold parseM; split <;> simp [parC_len]
  have hpl' : (parseM s).1.length = 32 := by rw [← byteL_len]; exact hpl
  obtain ⟨h6, q1, q2, q3⟩ := p1.put p4.wf (n := 32) (vs := byteL (parseM s).1) rfl hpl (byteL_cell _)
  obtain ⟨h7, e7, o7⟩ := rparse_spec (F := F) (n := n + 2) (by omega) q3.wf hs
  obtain ⟨r1, r2, r3, r4⟩ := al_cells o7.wf (List.replicate 32 (.int .u8 0)) T_api_Id rfl (by simp)
  have r2' : (al (List.replicate 32 (.int .u8 0)) T_api_Id h7).1 = .ptr ⟨h7.next, 32, 0⟩ := r2
  generalize hh8 : (al (List.replicate 32 (.int .u8 0)) T_api_Id h7).2 = h8 at *
  obtain ⟨h9, t1, t2, t3⟩ := r1.put r4.wf (n := 32) (vs := byteL (parseM s).1) rfl hpl (byteL_cell _)
  -- all along, the first cells stay
  have q3o : Old h4.next h5 h6 := q3.old (Nat.le_refl _)
  have t3o : Old h7.next h8 h9 := t3.old (Nat.le_refl _)
  have n23 := o3.next
  have n34 := o4.next
  have n67 : h6.next ≤ h7.next := o7.next
  have n56 : h6.next = h5.next := q3.next
  have n89 : h9.next = h8.next := t3.next
  have o49 : Old h4.next h4 h9 := (((p4.trans q3o).trans (o7.weak (by omega))).trans (r4.weak (by omega))).trans (t3o.weak (by omega))
  have o29 : Old h2.next h2 h9 := (o3.trans (o4.weak n23)).trans (o49.weak (by omega))
  have a9 : Cells h9 h.next T_api_Id (byteL a) := (c1.old o1.wf o2).old o2.wf o29
  have b9 : Cells h9 h1.next T_api_Id (byteL b) := c2.old o2.wf o29
  have q9 : Cells h9 h4.next T_api_Id (byteL (parseM s).1) := (((q2.old q3.wf o7).old o7.wf r4).wrote t3 (by omega))
  have la : ldA 32 (.ptr ⟨h.next, 32, 0⟩) h9 = some (.agg (byteL a)) := a9.ldA (by rw [byteL_len, ha])
  have lb : ldA 32 (.ptr ⟨h1.next, 32, 0⟩) h9 = some (.agg (byteL b)) := b9.ldA (by rw [byteL_len, hb])
  have lq : ldA 32 (.ptr ⟨h4.next, 32, 0⟩) h9 = some (.agg (byteL (parseM s).1)) := q9.ldA hpl.symm
  have lt : ldA 32 (.ptr ⟨h7.next, 32, 0⟩) h9 = some (.agg (byteL (parseM s).1)) := t2.ldA hpl.symm
  obtain ⟨h10, e10, o10⟩ := quiet_of (g := fun h => runC (EE F) (n + 4) n_sha_Hex [.agg (byteL a)] h) (h := h9) (hex_spec (F := F) (n := n + 1) (by omega) (h := ⟨h9.next, h9.next, h9.m⟩) o49.wf ha ha8)
  have a10 : Cells h10 h.next T_api_Id (byteL a) := a9.old o49.wf o10
  have b10 : Cells h10 h1.next T_api_Id (byteL b) := b9.old o49.wf o10
  obtain ⟨h11, e11, o11⟩ := rhex_spec (F := F) (n := n + 3) (by omega) o10.wf ha ha8
  have a11 := a10.old o10.wf o11
  have b11 := b10.old o10.wf o11
  obtain ⟨h12, e12, o12'⟩ := quiet_of (g := fun h => runC (EE F) (n + 4) n_sha_Compare [.agg (byteL a), .agg (byteL b)] h) (h := h11) (compare_spec (F := F) (n := n + 2) (h := ⟨h11.next, h11.next, h11.m⟩) o11.wf ha hb ha8 hb8)
  have a12 := a11.old o11.wf o12'
  have b12 := b11.old o11.wf o12'
  obtain ⟨h13, e13, o13⟩ := rcompare_spec (F := F) (n := n + 3) (by omega) o12'.wf ha hb
  refine ⟨h13, ?_⟩
  have x1 : absExtract (parseV s) 0 = some (.agg (byteL (parseM s).1)) := rfl
  have x2 : absExtract (parseV s) 1 = some (.int .i64 (parseM s).2) := rfl
  have la10 : ldA 32 (.ptr ⟨h.next, 32, 0⟩) h10 = some (.agg (byteL a)) := a10.ldA (by rw [byteL_len, ha])
  have la11 : ldA 32 (.ptr ⟨h.next, 32, 0⟩) h11 = some (.agg (byteL a)) := a11.ldA (by rw [byteL_len, ha])
  have lb11 : ldA 32 (.ptr ⟨h1.next, 32, 0⟩) h11 = some (.agg (byteL b)) := b11.ldA (by rw [byteL_len, hb])
  have la12 : ldA 32 (.ptr ⟨h.next, 32, 0⟩) h12 = some (.agg (byteL a)) := a12.ldA (by rw [byteL_len, ha])
  have lb12 : ldA 32 (.ptr ⟨h1.next, 32, 0⟩) h12 = some (.agg (byteL b)) := b12.ldA (by rw [byteL_len, hb])
  simp only [law01_ShaWords.fn, law01_ShaWords.c0, e1', cV_some, e2', law01_ShaWords.k0, law01_ShaWords.c1, cxC, e3, cB_some, Bool.not_true, law01_ShaWords.k1, cond_false, law01_ShaWords.r3, law01_ShaWords.c3, e4, x1, bA_some, x2, bI_some, p2', hh5, q1, bS_some, e7, r2', hh8, t1, lq, lt, eqId hpl' hpl', bB_some, decide_true, cond_true, beq_self_eq_true, la, e10, cZ_some, la10, e11, natsEq_eq, la11, lb11, e12, cI_some, la12, lb12, e13]
  rfl
end Go.Proofs.YtbeohojepniioaaDoor
