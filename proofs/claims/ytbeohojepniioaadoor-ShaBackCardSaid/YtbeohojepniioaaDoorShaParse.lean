/-
  Ids out of digits, ids compared: the program's way and the document's.
-/
import Derived.Test.YtbeohojepniioaaDoorShaCom
set_option linter.unusedVariables false
set_option linter.unusedSimpArgs false
namespace Go.Proofs.YtbeohojepniioaaDoor
open Go Ev

/-! ## Plain: digits -/
def dv (b : Nat) : Nat := if 48 ≤ b ∧ b ≤ 57 then b - 48 else if 97 ≤ b ∧ b ≤ 102 then b - 87 else 16
theorem dv_le (b : Nat) : dv b ≤ 16 := by unfold dv; split <;> (try split) <;> omega
theorem dg_dv {b : Nat} (h : dv b < 16) : dg (dv b) = b := by
  unfold dv at h ⊢
  unfold dg
  split
  · split <;> omega
  · split
    · split <;> omega
    · rename_i h1 h2; rw [if_neg h1, if_neg h2] at h; omega
theorem dv_dg {d : Nat} (h : d < 16) : dv (dg d) = d := by
  unfold dg
  split
  · unfold dv; rw [if_pos (by omega)]; omega
  · unfold dv; rw [if_neg (by omega), if_pos (by omega)]; omega
def digs : List Nat := [48, 49, 50, 51, 52, 53, 54, 55, 56, 57, 97, 98, 99, 100, 101, 102]
theorem idx_dv {b : Nat} (h : b < 256) : idxN b digs 0 = if dv b < 16 then ((dv b : Nat) : Int) else -1 := by
  have key : ∀ b : Fin 256, idxN b.val digs 0 = if dv b.val < 16 then ((dv b.val : Nat) : Int) else -1 := by decide +kernel
  exact key ⟨b, h⟩
/-- The bytes of so many digits. -/
def parC (s : List Nat) (i : Nat) : List Nat := (List.range 32).map fun j => if 2 * j + 2 ≤ i then 16 * dv (s.getD (2 * j) 0) + dv (s.getD (2 * j + 1) 0) else if 2 * j + 1 = i then dv (s.getD (2 * j) 0) else 0
theorem parC_len (s : List Nat) (i : Nat) : (parC s i).length = 32 := by simp [parC]
theorem parC_get (s : List Nat) (i : Nat) {j : Nat} (hj : j < 32) : (parC s i)[j]? = some (if 2 * j + 2 ≤ i then 16 * dv (s.getD (2 * j) 0) + dv (s.getD (2 * j + 1) 0) else if 2 * j + 1 = i then dv (s.getD (2 * j) 0) else 0) := by
  unfold parC
  rw [List.getElem?_map, List.getElem?_range hj]; rfl
theorem parC_zero (s : List Nat) : parC s 0 = List.replicate 32 0 := by
  apply List.ext_getElem?
  intro j
  by_cases hj : j < 32
  · rw [parC_get s 0 hj, List.getElem?_replicate, if_pos hj, if_neg (by omega), if_neg (by omega)]
  · rw [List.getElem?_eq_none (by rw [parC_len]; omega), List.getElem?_eq_none (by rw [List.length_replicate]; omega)]
theorem parC_set (s : List Nat) {i j m x : Nat} (hj : j < 32) (hx : x = if 2 * j + 2 ≤ m then 16 * dv (s.getD (2 * j) 0) + dv (s.getD (2 * j + 1) 0) else if 2 * j + 1 = m then dv (s.getD (2 * j) 0) else 0)
    (ho : ∀ q, q ≠ j → ((2 * q + 2 ≤ i ↔ 2 * q + 2 ≤ m) ∧ (2 * q + 1 = i ↔ 2 * q + 1 = m))) : (parC s i).set j x = parC s m := by
  apply List.ext_getElem?
  intro q
  rw [List.getElem?_set]
  by_cases hq : q < 32
  · by_cases hqj : j = q
    · subst hqj
      rw [if_pos rfl, if_pos (by rw [parC_len]; exact hj), parC_get s m hq, hx]
    · rw [if_neg hqj, parC_get s i hq, parC_get s m hq]
      obtain ⟨h1, h2⟩ := ho q (fun e => hqj e.symm)
      simp only [h1, h2]
  · rw [if_neg (by omega), List.getElem?_eq_none (by rw [parC_len]; omega), List.getElem?_eq_none (by rw [parC_len]; omega)]
theorem parC_byte {s : List Nat} {i : Nat} (h : ∀ k, k < i → dv (s.getD k 0) < 16) : ∀ x ∈ parC s i, x < 256 := by
  intro x hx
  obtain ⟨j, _, rfl⟩ := List.mem_map.1 hx
  split
  · have := h (2 * j) (by omega)
    have := h (2 * j + 1) (by omega)
    omega
  · split
    · have := h (2 * j) (by omega)
      omega
    · omega
/-- What is read out of a text. -/
def good (s : List Nat) : Prop := s.length = 64 ∧ ∀ k, k < 64 → dv (s.getD k 0) < 16
instance (s : List Nat) : Decidable (good s) := by unfold good; exact inferInstance
def parseM (s : List Nat) : List Nat × Int := if good s then (parC s 64, 0) else (List.replicate 32 0, 4)
def parseV (s : List Nat) : V := .tuple [.agg (byteL (parseM s).1), .int .i64 (parseM s).2]
theorem parseV_good {s : List Nat} (h : good s) : parseV s = .tuple [.agg (byteL (parC s 64)), .int .i64 0] := by unfold parseV parseM; rw [if_pos h]
theorem parseV_bad {s : List Nat} (h : ¬ good s) : parseV s = .tuple [.agg (byteL (List.replicate 32 0)), .int .i64 4] := by unfold parseV parseM; rw [if_neg h]

/-! ## One digit -/
theorem or4 {a b : Nat} (ha : a < 16) (hb : b < 16) : IntKind.wrap .u8 (ior .i64 (ishl .i64 (a : Int) 4) (b : Int)) = ((16 * a + b : Nat) : Int) := by
  have key : ∀ a b : Fin 16, IntKind.wrap .u8 (ior .i64 (ishl .i64 (a.val : Int) 4) (b.val : Int)) = ((16 * a.val + b.val : Nat) : Int) := by decide +kernel
  exact key ⟨a, ha⟩ ⟨b, hb⟩
theorem indexByte_spec {F n : Nat} {h : AH} {b : Nat} (hb : b < 256) : runC (EE F) (n + 2) n_strings_IndexByte [.str digs, .int .u8 (b : Int)] h = some (.int .i64 (if dv b < 16 then ((dv b : Nat) : Int) else -1), h) := by
  have e1 : runC (EE F) (n + 1) n_stringslite_IndexByte [.str digs, .int .u8 (b : Int)] h = some (.int .i64 (if dv b < 16 then ((dv b : Nat) : Int) else -1), h) := by
    rw [at_stringslite_IndexByte]
    have e2 : (cx F n).X n_bytealg_IndexByteString [.str digs, .int .u8 (b : Int)] h = some (.int .i64 (if dv b < 16 then ((dv b : Nat) : Int) else -1), h) := by
      rw [at_X]
      show some (V.int .i64 (idxN (Nat.mod ((b : Int)).toNat 256) digs 0), h) = _
      have : Nat.mod ((b : Int)).toNat 256 = b := by
        show ((b : Int)).toNat % 256 = b
        rw [Int.toNat_natCast, Nat.mod_eq_of_lt hb]
      rw [this, idx_dv hb]
    simp only [stringslite_IndexByte.fn, stringslite_IndexByte.c0, e2, cI_some]
    rfl
  rw [at_strings_IndexByte]
  simp only [strings_IndexByte.fn, strings_IndexByte.c0, cxC, e1, cI_some]
  rfl
theorem digit_spec {F n : Nat} {h : AH} {b : Nat} (hb : b < 256) : runC (EE F) (n + 1) n_r01_digit [.int .u8 (b : Int)] h = some (.int .i64 ((dv b : Nat) : Int), h) := by
  rw [at_r01_digit]
  have w1 : ∀ x : Int, 0 ≤ x → x < 256 → IntKind.wrap .i64 (IntKind.wrap .u8 x) = x := by
    intro x h1 h2
    rw [wr_u8, Int.emod_eq_of_lt h1 h2, wr_i64 (by omega) (by omega)]
  unfold dv
  by_cases h1 : 48 ≤ b
  · have c1 : decide ((b : Int) ≥ 48) = true := by rw [decide_eq_true_eq]; omega
    by_cases h2 : b ≤ 57
    · have c2 : decide ((b : Int) ≤ 57) = true := by rw [decide_eq_true_eq]; omega
      rw [if_pos ⟨h1, h2⟩]
      simp only [r01_digit.fn, r01_digit.c0, r01_digit.k0, r01_digit.c1, c1, cond_true, c2, r01_digit.k1, r01_digit.c2, wr, w1 ((b : Int) - 48) (by omega) (by omega)]
      have : (b : Int) - 48 = ((b - 48 : Nat) : Int) := by omega
      rw [this]; rfl
    · have c2 : decide ((b : Int) ≤ 57) = false := by rw [decide_eq_false_iff_not]; omega
      rw [if_neg (by omega)]
      by_cases h3 : 97 ≤ b
      · have c3 : decide ((b : Int) ≥ 97) = true := by rw [decide_eq_true_eq]; omega
        by_cases h4 : b ≤ 102
        · have c4 : decide ((b : Int) ≤ 102) = true := by rw [decide_eq_true_eq]; omega
          rw [if_pos ⟨h3, h4⟩]
          have w2 : IntKind.wrap .i64 ((b : Int) - 97 + 10) = (b : Int) - 87 := by rw [wr_i64 (by omega) (by omega)]; omega
          simp only [r01_digit.fn, r01_digit.c0, r01_digit.k0, r01_digit.c1, c1, cond_true, c2, r01_digit.k1, cond_false, r01_digit.c3, c3, c4, r01_digit.k3, r01_digit.c4, wr, w1 ((b : Int) - 97) (by omega) (by omega), w2]
          have : (b : Int) - 87 = ((b - 87 : Nat) : Int) := by omega
          rw [this]; rfl
        · have c4 : decide ((b : Int) ≤ 102) = false := by rw [decide_eq_false_iff_not]; omega
          rw [if_neg (by omega)]
          simp only [r01_digit.fn, r01_digit.c0, r01_digit.k0, r01_digit.c1, c1, cond_true, c2, r01_digit.k1, cond_false, r01_digit.c3, c3, c4, r01_digit.k3, r01_digit.r5, r01_digit.c5]
          rfl
      · have c3 : decide ((b : Int) ≥ 97) = false := by rw [decide_eq_false_iff_not]; omega
        rw [if_neg (by omega)]
        simp only [r01_digit.fn, r01_digit.c0, r01_digit.k0, r01_digit.c1, c1, cond_true, c2, r01_digit.k1, cond_false, r01_digit.c3, c3, r01_digit.k3, r01_digit.r5, r01_digit.c5]
        rfl
  · have c1 : decide ((b : Int) ≥ 48) = false := by rw [decide_eq_false_iff_not]; omega
    have c3 : decide ((b : Int) ≥ 97) = false := by rw [decide_eq_false_iff_not]; omega
    rw [if_neg (by omega), if_neg (by omega)]
    simp only [r01_digit.fn, r01_digit.c0, r01_digit.k0, r01_digit.c1, c1, r01_digit.k1, cond_false, r01_digit.c3, c3, r01_digit.k3, r01_digit.r5, r01_digit.c5]
    rfl

/-! ## Parse -/
theorem ixZ_at {s : List Nat} {i : Nat} (hi : i < s.length) : ixZ s (i : Int) = some (.int .u8 ((s.getD i 0 : Nat) : Int)) := by
  unfold ixZ strAt
  rw [if_pos (by omega), Int.toNat_natCast, List.getD_eq_getElem?_getD, List.getElem?_eq_getElem hi]
  rfl
theorem at_byte {s : List Nat} (hs : ∀ x ∈ s, x < 256) (i : Nat) : s.getD i 0 < 256 := by
  rw [List.getD_eq_getElem?_getD]
  by_cases hi : i < s.length
  · rw [List.getElem?_eq_getElem hi]; exact hs _ (List.getElem_mem hi)
  · rw [List.getElem?_eq_none (by omega)]; simp
theorem bld_zero : bld [] (List.replicate 32 (V.int .u8 0)) = some (.agg (byteL (List.replicate 32 0))) := by rw [← rep32]; rfl
theorem parse_spec {F n : Nat} (hF : 100 < F) {h : AH} (hw : h.WF) {s : List Nat} (hs : ∀ x ∈ s, x < 256) : ∃ h', runC (EE F) (n + 3) n_sha_Parse [.str s] h = some (parseV s, h') ∧ Old h.next h h' := by
  rw [at_sha_Parse]
  obtain ⟨a1, a2, a3, a4⟩ := al_cells hw (List.replicate 32 (.int .u8 0)) T_api_Id rfl (by simp)
  have a2' : (al (List.replicate 32 (.int .u8 0)) T_api_Id h).1 = .ptr ⟨h.next, 32, 0⟩ := a2
  generalize hh1 : (al (List.replicate 32 (.int .u8 0)) T_api_Id h).2 = h1 at *
  obtain ⟨b1, b2, b3, b4⟩ := al_cells a4.wf (List.replicate 32 (.int .u8 0)) T_api_Id rfl (by simp)
  have b2' : (al (List.replicate 32 (.int .u8 0)) T_api_Id h1).1 = .ptr ⟨h1.next, 32, 0⟩ := b2
  generalize hh2 : (al (List.replicate 32 (.int .u8 0)) T_api_Id h1).2 = h2 at *
  have o2 : Old h.next h h2 := a4.trans (b4.weak a4.next)
  have r2 : Cells h2 h.next T_api_Id (List.replicate 32 (.int .u8 0)) := a1.old a4.wf b4
  rw [rep32] at b1 r2
  have hlt : h.next < h1.next := by omega
  -- where it fails
  have fail : ∀ {g : AH}, Cells g h.next T_api_Id (byteL (List.replicate 32 0)) → g.WF → ∃ g', st 32 (.ptr ⟨h.next, 32, 0⟩) (.agg (byteL (List.replicate 32 0))) g = some g' ∧ ldA 32 (.ptr ⟨h.next, 32, 0⟩) g' = some (.agg (byteL (List.replicate 32 0))) ∧ Wrote g g' h.next := by
    intro g hc hg
    obtain ⟨g', p1, p2, p3⟩ := hc.put hg (n := 32) (vs := byteL (List.replicate 32 0)) rfl rfl (byteL_cell _)
    exact ⟨g', p1, p2.ldA rfl, p3⟩
  by_cases hlen : s.length = 64
  · have c0 : ((s.length : Int) != 64) = false := by rw [bne_eq_false_iff_eq]; omega
    have e0 : sha_Parse.fn (cx F (n + 2)) s h = sha_Parse.k4 (cx F (n + 2)) (sha_Parse.r12 (cx F (n + 2)) sha_Parse.ret sha_Parse.ret) sha_Parse.ret (s, .ptr ⟨h.next, 32, 0⟩, .ptr ⟨h1.next, 32, 0⟩, 0, ()) h2 := by
      simp only [sha_Parse.fn, sha_Parse.c0, a2', hh1, b2', hh2, sha_Parse.k1, sha_Parse.c2, c0, sha_Parse.k2, cond_false, sha_Parse.r4, sha_Parse.c4]
    rw [e0]
    rw [← parC_zero s] at b1
    show ∃ h', loopN sha_Parse.P10 F (fun t h n' => sha_Parse.l5 (cx F (n + 2)) n' (sha_Parse.r12 (cx F (n + 2)) sha_Parse.ret sha_Parse.ret) sha_Parse.ret t h) (s, .ptr ⟨h.next, 32, 0⟩, .ptr ⟨h1.next, 32, 0⟩, 0, ()) h2 = some (parseV s, h') ∧ Old h.next h h'
    refine loop_rule (S := sha_Parse.P10) (out := fun x => ∃ h', x = some (parseV s, h') ∧ Old h.next h h')
      (fun k t g => ∃ i : Nat, i + k = 32 ∧ t = (s, .ptr ⟨h.next, 32, 0⟩, .ptr ⟨h1.next, 32, 0⟩, (i : Int), ()) ∧ (∀ k, k < 2 * i → dv (s.getD k 0) < 16) ∧ Cells g h.next T_api_Id (byteL (List.replicate 32 0)) ∧ Cells g h1.next T_api_Id (byteL (parC s (2 * i))) ∧ Old h.next h g)
      ?_ ?_ 32 F _ _ ⟨0, rfl, rfl, (fun k hk => by omega), r2, b1, o2⟩ (by omega)
    · rintro k t g n' ⟨i, hi, rfl, hd, cr, ci, og⟩
      have c1 : decide ((i : Int) < 32) = true := by rw [decide_eq_true_eq]; omega
      have i1 : IntKind.wrap .i64 (2 * (i : Int)) = ((2 * i : Nat) : Int) := by rw [wr_i64 (by omega) (by omega)]; omega
      have i2 : IntKind.wrap .i64 (((2 * i : Nat) : Int) + 1) = ((2 * i + 1 : Nat) : Int) := by rw [wr_i64 (by omega) (by omega)]; omega
      have i3 : IntKind.wrap .i64 ((i : Int) + 1) = ((i + 1 : Nat) : Int) := by rw [wr_i64 (by omega) (by omega)]; omega
      have z1 := ixZ_at (s := s) (i := 2 * i) (by omega)
      have z2 := ixZ_at (s := s) (i := 2 * i + 1) (by omega)
      have y1 := indexByte_spec (F := F) (n := n) (h := g) (at_byte hs (2 * i))
      have y2 := indexByte_spec (F := F) (n := n) (h := g) (at_byte hs (2 * i + 1))
      have hdigs : digs = [48, 49, 50, 51, 52, 53, 54, 55, 56, 57, 97, 98, 99, 100, 101, 102] := rfl
      rw [hdigs] at y1 y2
      by_cases g1 : dv (s.getD (2 * i) 0) < 16
      · by_cases g2 : dv (s.getD (2 * i + 1) 0) < 16
        · refine .inl ?_
          rw [if_pos g1] at y1
          rw [if_pos g2] at y2
          obtain ⟨a, g3, w1, w2, w3, w4⟩ := ci.st1 og.wf (n := 32) (by rw [byteL_len, parC_len]) (i := (i : Int)) (by omega) (by omega) (v := .int .u8 ((16 * dv (s.getD (2 * i) 0) + dv (s.getD (2 * i + 1) 0) : Nat) : Int)) rfl rfl
          rw [Int.toNat_natCast] at w3
          have e2 : (byteL (parC s (2 * i))).set i (.int .u8 ((16 * dv (s.getD (2 * i) 0) + dv (s.getD (2 * i + 1) 0) : Nat) : Int)) = byteL (parC s (2 * (i + 1))) := by
            rw [← parC_set s (i := 2 * i) (j := i) (m := 2 * (i + 1)) (x := 16 * dv (s.getD (2 * i) 0) + dv (s.getD (2 * i + 1) 0)) (by omega) (by rw [if_pos (by omega)]) (fun q hq => by omega), ← byteL_set]; rfl
          rw [e2] at w3
          refine ⟨_, g3, ?_, i + 1, by omega, rfl, ?_, cr.wrote w4 (by omega), w3, og.trans (w4.old (by omega))⟩
          · have c2 : decide (((dv (s.getD (2 * i) 0) : Nat) : Int) < 0) = false := by rw [decide_eq_false_iff_not]; omega
            have c3 : decide (((dv (s.getD (2 * i + 1) 0) : Nat) : Int) < 0) = false := by rw [decide_eq_false_iff_not]; omega
            simp only [sha_Parse.l5, sha_Parse.c5, sha_Parse.k5, c1, cond_true, sha_Parse.r6, sha_Parse.c6, wr, i1, z1, bI_some, cxC, y1, cI_some, i2, z2, y2, sha_Parse.k7, sha_Parse.c8, c2, cond_false, c3, sha_Parse.k8, sha_Parse.r10, sha_Parse.c10, or4 g1 g2, w1, bV_some, w2, bS_some, sha_Parse.r11, sha_Parse.c11, i3]
          · intro k' hk'
            by_cases h1 : k' < 2 * i
            · exact hd k' h1
            · have : k' = 2 * i ∨ k' = 2 * i + 1 := by omega
              rcases this with rfl | rfl
              · exact g1
              · exact g2
        · refine .inr ?_
          rw [if_pos g1] at y1
          rw [if_neg g2] at y2
          obtain ⟨g', f1, f2, f3⟩ := fail cr og.wf
          refine ⟨g', ?_, og.trans (f3.old (Nat.le_refl _))⟩
          have c2 : decide (((dv (s.getD (2 * i) 0) : Nat) : Int) < 0) = false := by rw [decide_eq_false_iff_not]; omega
          have c3 : decide ((-1 : Int) < 0) = true := rfl
          rw [parseV_bad (fun hg => g2 (hg.2 _ (by omega)))]
          simp only [sha_Parse.l5, sha_Parse.c5, sha_Parse.k5, c1, cond_true, sha_Parse.r6, sha_Parse.c6, wr, i1, z1, bI_some, cxC, y1, cI_some, i2, z2, y2, sha_Parse.k7, sha_Parse.c8, c2, cond_false, c3, sha_Parse.k8, sha_Parse.c9, bld_zero, bA_some, f1, bS_some, sha_Parse.ret, f2]
          rfl
      · refine .inr ?_
        rw [if_neg g1] at y1
        obtain ⟨g', f1, f2, f3⟩ := fail cr og.wf
        refine ⟨g', ?_, og.trans (f3.old (Nat.le_refl _))⟩
        have c2 : decide ((-1 : Int) < 0) = true := rfl
        rw [parseV_bad (fun hg => g1 (hg.2 _ (by omega)))]
        simp only [sha_Parse.l5, sha_Parse.c5, sha_Parse.k5, c1, cond_true, sha_Parse.r6, sha_Parse.c6, wr, i1, z1, bI_some, cxC, y1, cI_some, i2, z2, y2, sha_Parse.k7, sha_Parse.c8, c2, sha_Parse.k8, sha_Parse.c9, bld_zero, bA_some, f1, bS_some, sha_Parse.ret, f2]
        rfl
    · rintro t g n' ⟨i, hi, rfl, hd, cr, ci, og⟩
      obtain rfl : i = 32 := by omega
      obtain ⟨g', p1, p2, p3⟩ := cr.put og.wf (n := 32) (vs := byteL (parC s 64)) rfl (by rw [byteL_len, parC_len]) (byteL_cell _)
      refine ⟨g', ?_, og.trans (p3.old (Nat.le_refl _))⟩
      have c1 : decide (((32 : Nat) : Int) < 32) = false := rfl
      have ci' : Cells g h1.next T_api_Id (byteL (parC s 64)) := ci
      rw [parseV_good ⟨hlen, hd⟩]
      simp only [sha_Parse.l5, sha_Parse.c5, sha_Parse.k5, c1, cond_false, sha_Parse.r12, sha_Parse.c12, ci'.ldA (n := 32) (by rw [byteL_len, parC_len]), bA_some, p1, bS_some, sha_Parse.ret, p2.ldA (n := 32) (by rw [byteL_len, parC_len])]
      rfl
  · have c0 : ((s.length : Int) != 64) = true := by rw [bne_iff_ne]; omega
    obtain ⟨g', f1, f2, f3⟩ := fail r2 o2.wf
    refine ⟨g', ?_, o2.trans (f3.old (Nat.le_refl _))⟩
    rw [parseV_bad (fun hg => hlen hg.1)]
    simp only [sha_Parse.fn, sha_Parse.c0, a2', hh1, b2', hh2, sha_Parse.k1, sha_Parse.c2, c0, sha_Parse.k2, cond_true, sha_Parse.c3, b1.ldA (n := 32) rfl, bA_some, f1, bS_some, sha_Parse.ret, f2]
    rfl
theorem rparse_spec {F n : Nat} (hF : 100 < F) {h : AH} (hw : h.WF) {s : List Nat} (hs : ∀ x ∈ s, x < 256) : ∃ h', runC (EE F) (n + 2) n_r01_DocParse [.str s] h = some (parseV s, h') ∧ Old h.next h h' := by
  rw [at_r01_DocParse]
  obtain ⟨a1, a2, a3, a4⟩ := al_cells hw (List.replicate 32 (.int .u8 0)) T_api_Id rfl (by simp)
  have a2' : (al (List.replicate 32 (.int .u8 0)) T_api_Id h).1 = .ptr ⟨h.next, 32, 0⟩ := a2
  generalize hh1 : (al (List.replicate 32 (.int .u8 0)) T_api_Id h).2 = h1 at *
  obtain ⟨b1, b2, b3, b4⟩ := al_cells a4.wf (List.replicate 32 (.int .u8 0)) T_api_Id rfl (by simp)
  have b2' : (al (List.replicate 32 (.int .u8 0)) T_api_Id h1).1 = .ptr ⟨h1.next, 32, 0⟩ := b2
  generalize hh2 : (al (List.replicate 32 (.int .u8 0)) T_api_Id h1).2 = h2 at *
  have o2 : Old h.next h h2 := a4.trans (b4.weak a4.next)
  have r2 : Cells h2 h.next T_api_Id (List.replicate 32 (.int .u8 0)) := a1.old a4.wf b4
  rw [rep32] at b1 r2
  have hlt : h.next < h1.next := by omega
  have fail : ∀ {g : AH}, Cells g h.next T_api_Id (byteL (List.replicate 32 0)) → g.WF → ∃ g', st 32 (.ptr ⟨h.next, 32, 0⟩) (.agg (byteL (List.replicate 32 0))) g = some g' ∧ ldA 32 (.ptr ⟨h.next, 32, 0⟩) g' = some (.agg (byteL (List.replicate 32 0))) ∧ Wrote g g' h.next := by
    intro g hc hg
    obtain ⟨g', p1, p2, p3⟩ := hc.put hg (n := 32) (vs := byteL (List.replicate 32 0)) rfl rfl (byteL_cell _)
    exact ⟨g', p1, p2.ldA rfl, p3⟩
  by_cases hlen : s.length = 64
  · have c0 : ((s.length : Int) != 64) = false := by rw [bne_eq_false_iff_eq]; omega
    have e0 : r01_DocParse.fn (cx F (n + 1)) s h = r01_DocParse.k4 (cx F (n + 1)) (r01_DocParse.r11 (cx F (n + 1)) r01_DocParse.ret r01_DocParse.ret) r01_DocParse.ret (s, .ptr ⟨h.next, 32, 0⟩, .ptr ⟨h1.next, 32, 0⟩, 0, ()) h2 := by
      simp only [r01_DocParse.fn, r01_DocParse.c0, a2', hh1, b2', hh2, r01_DocParse.k1, r01_DocParse.c2, c0, r01_DocParse.k2, cond_false, r01_DocParse.r4, r01_DocParse.c4]
    rw [e0]
    rw [← parC_zero s] at b1
    show ∃ h', loopN r01_DocParse.P10 F (fun t h n' => r01_DocParse.l5 (cx F (n + 1)) n' (r01_DocParse.r11 (cx F (n + 1)) r01_DocParse.ret r01_DocParse.ret) r01_DocParse.ret t h) (s, .ptr ⟨h.next, 32, 0⟩, .ptr ⟨h1.next, 32, 0⟩, 0, ()) h2 = some (parseV s, h') ∧ Old h.next h h'
    refine loop_rule (S := r01_DocParse.P10) (out := fun x => ∃ h', x = some (parseV s, h') ∧ Old h.next h h')
      (fun k t g => ∃ i : Nat, i + k = 64 ∧ t = (s, .ptr ⟨h.next, 32, 0⟩, .ptr ⟨h1.next, 32, 0⟩, (i : Int), ()) ∧ (∀ k, k < i → dv (s.getD k 0) < 16) ∧ Cells g h.next T_api_Id (byteL (List.replicate 32 0)) ∧ Cells g h1.next T_api_Id (byteL (parC s i)) ∧ Old h.next h g)
      ?_ ?_ 64 F _ _ ⟨0, rfl, rfl, (fun k hk => by omega), r2, b1, o2⟩ (by omega)
    · rintro k t g n' ⟨i, hi, rfl, hd, cr, ci, og⟩
      have c1 : decide ((i : Int) < 64) = true := by rw [decide_eq_true_eq]; omega
      have i3 : IntKind.wrap .i64 ((i : Int) + 1) = ((i + 1 : Nat) : Int) := by rw [wr_i64 (by omega) (by omega)]; omega
      have j1 : (i : Int).tdiv 2 = ((i / 2 : Nat) : Int) := by rw [Int.tdiv_eq_ediv_of_nonneg (by omega)]; omega
      have j0 : IntKind.wrap .i64 ((i / 2 : Nat) : Int) = ((i / 2 : Nat) : Int) := wr_i64 (by omega) (by omega)
      have z1 := ixZ_at (s := s) (i := i) (by omega)
      have y1 := digit_spec (F := F) (n := n) (h := g) (at_byte hs i)
      by_cases g1 : dv (s.getD i 0) < 16
      · refine .inl ?_
        obtain ⟨x, hx, hx2⟩ : ∃ x, (parC s i)[i / 2]? = some x ∧ (16 * x + dv (s.getD i 0) = if 2 * (i / 2) + 2 ≤ i + 1 then 16 * dv (s.getD (2 * (i / 2)) 0) + dv (s.getD (2 * (i / 2) + 1) 0) else if 2 * (i / 2) + 1 = i + 1 then dv (s.getD (2 * (i / 2)) 0) else 0) := by
          refine ⟨_, parC_get s i (by omega), ?_⟩
          rw [if_neg (show ¬ 2 * (i / 2) + 2 ≤ i by omega)]
          by_cases hodd : i % 2 = 1
          · have hi2 : 2 * (i / 2) + 1 = i := by omega
            rw [if_pos hi2, if_pos (by omega), hi2]
          · have hi2 : 2 * (i / 2) = i := by omega
            rw [if_neg (by omega), if_neg (by omega), if_pos (by omega), hi2]
            omega
        have hx3 : x < 16 := by
          rw [parC_get s i (by omega)] at hx
          have hx' := Option.some.inj hx
          rw [if_neg (by omega)] at hx'
          by_cases hodd : 2 * (i / 2) + 1 = i
          · rw [if_pos hodd] at hx'
            have := hd (2 * (i / 2)) (by omega)
            omega
          · rw [if_neg hodd] at hx'; omega
        obtain ⟨a0, u1, u2⟩ := ci.ld1 (n := 32) (by rw [byteL_len, parC_len]) (i := ((i / 2 : Nat) : Int)) (by omega) (by omega) (v := .int .u8 (x : Int)) (by rw [Int.toNat_natCast, byteL_get, hx]; rfl)
        obtain ⟨a, g3, w1, w2, w3, w4⟩ := ci.st1 og.wf (n := 32) (by rw [byteL_len, parC_len]) (i := ((i / 2 : Nat) : Int)) (by omega) (by omega) (v := .int .u8 ((16 * x + dv (s.getD i 0) : Nat) : Int)) rfl rfl
        rw [Int.toNat_natCast] at w3
        obtain rfl : a0 = a := V.ptr.inj (Option.some.inj (u1.symm.trans w1))
        have e2 : (byteL (parC s i)).set (i / 2) (.int .u8 ((16 * x + dv (s.getD i 0) : Nat) : Int)) = byteL (parC s (i + 1)) := by
          rw [← parC_set s (i := i) (j := i / 2) (m := i + 1) (x := 16 * x + dv (s.getD i 0)) (by omega) hx2 (fun q hq => by omega), ← byteL_set]; rfl
        rw [e2] at w3
        refine ⟨_, g3, ?_, i + 1, by omega, rfl, ?_, cr.wrote w4 (by omega), w3, og.trans (w4.old (by omega))⟩
        · have c2 : decide (((dv (s.getD i 0) : Nat) : Int) > 15) = false := by rw [decide_eq_false_iff_not]; omega
          have c4 : IntKind.wrap .u8 (IntKind.wrap .u8 (16 * (x : Int)) + IntKind.wrap .u8 ((dv (s.getD i 0) : Nat) : Int)) = ((16 * x + dv (s.getD i 0) : Nat) : Int) := by
            rw [wr_u8, wr_u8, wr_u8]; omega
          simp only [r01_DocParse.l5, r01_DocParse.c5, r01_DocParse.k5, c1, cond_true, r01_DocParse.r7, r01_DocParse.c7, z1, bI_some, cxC, y1, cI_some, r01_DocParse.k7, r01_DocParse.c8, c2, r01_DocParse.k8, cond_false, r01_DocParse.r10, r01_DocParse.c10, wr, j1, j0, u1, bV_some, u2, c4, w1, w2, bS_some, r01_DocParse.r6, r01_DocParse.c6, i3]
        · intro k' hk'
          by_cases h1 : k' < i
          · exact hd k' h1
          · obtain rfl : k' = i := by omega
            exact g1
      · refine .inr ?_
        obtain ⟨g', f1, f2, f3⟩ := fail cr og.wf
        refine ⟨g', ?_, og.trans (f3.old (Nat.le_refl _))⟩
        have c2 : decide (((dv (s.getD i 0) : Nat) : Int) > 15) = true := by rw [decide_eq_true_eq]; omega
        rw [parseV_bad (fun hg => g1 (hg.2 _ (by omega)))]
        simp only [r01_DocParse.l5, r01_DocParse.c5, r01_DocParse.k5, c1, cond_true, r01_DocParse.r7, r01_DocParse.c7, z1, bI_some, cxC, y1, cI_some, r01_DocParse.k7, r01_DocParse.c8, c2, r01_DocParse.k8, r01_DocParse.c9, bld_zero, bA_some, f1, bS_some, r01_DocParse.ret, f2]
        rfl
    · rintro t g n' ⟨i, hi, rfl, hd, cr, ci, og⟩
      obtain rfl : i = 64 := by omega
      obtain ⟨g', p1, p2, p3⟩ := cr.put og.wf (n := 32) (vs := byteL (parC s 64)) rfl (by rw [byteL_len, parC_len]) (byteL_cell _)
      refine ⟨g', ?_, og.trans (p3.old (Nat.le_refl _))⟩
      have c1 : decide (((64 : Nat) : Int) < 64) = false := rfl
      rw [parseV_good ⟨hlen, hd⟩]
      simp only [r01_DocParse.l5, r01_DocParse.c5, r01_DocParse.k5, c1, cond_false, r01_DocParse.r11, r01_DocParse.c11, ci.ldA (n := 32) (by rw [byteL_len, parC_len]), bA_some, p1, bS_some, r01_DocParse.ret, p2.ldA (n := 32) (by rw [byteL_len, parC_len])]
      rfl
  · have c0 : ((s.length : Int) != 64) = true := by rw [bne_iff_ne]; omega
    obtain ⟨g', f1, f2, f3⟩ := fail r2 o2.wf
    refine ⟨g', ?_, o2.trans (f3.old (Nat.le_refl _))⟩
    rw [parseV_bad (fun hg => hlen hg.1)]
    simp only [r01_DocParse.fn, r01_DocParse.c0, a2', hh1, b2', hh2, r01_DocParse.k1, r01_DocParse.c2, c0, r01_DocParse.k2, cond_true, r01_DocParse.c3, b1.ldA (n := 32) rfl, bA_some, f1, bS_some, r01_DocParse.ret, f2]
    rfl
end Go.Proofs.YtbeohojepniioaaDoor
