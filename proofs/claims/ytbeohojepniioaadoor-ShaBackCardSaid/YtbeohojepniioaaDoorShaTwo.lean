/-
  Words for ids there and back: what is written is read, what is read is written; the order of words is the order of ids.
-/
import Derived.Test.YtbeohojepniioaaDoorShaCmp
set_option linter.unusedVariables false
set_option linter.unusedSimpArgs false
namespace Go.Proofs.YtbeohojepniioaaDoor
open Go Ev

/-! ## Plain -/
theorem hexM_cons (a : Nat) (l : List Nat) : hexM (a :: l) = dg (a / 16) :: dg (a % 16) :: hexM l := rfl
theorem hexM_get : ∀ (l : List Nat) (j b : Nat), l[j]? = some b → (hexM l).getD (2 * j) 0 = dg (b / 16) ∧ (hexM l).getD (2 * j + 1) 0 = dg (b % 16) := by
  intro l
  induction l with
  | nil => intro j b h; simp at h
  | cons a l ih =>
    intro j b h
    rw [hexM_cons]
    cases j with
    | zero => cases h; exact ⟨rfl, rfl⟩
    | succ j => exact ih j b h
theorem hexM_good {l : List Nat} (hl : l.length = 32) (h8 : ∀ x ∈ l, x < 256) : good (hexM l) := by
  refine ⟨by rw [hexM_len, hl], fun k hk => ?_⟩
  have hj : l[k / 2]? = some l[k / 2] := List.getElem?_eq_getElem (by omega)
  have hb := h8 _ (List.mem_of_getElem? hj)
  obtain ⟨h1, h2⟩ := hexM_get l (k / 2) _ hj
  rcases Nat.mod_two_eq_zero_or_one k with h | h
  · rw [show k = 2 * (k / 2) by omega, h1, dv_dg (by omega)]; omega
  · rw [show k = 2 * (k / 2) + 1 by omega, h2, dv_dg (by omega)]; omega
theorem parC_hexM {l : List Nat} (hl : l.length = 32) (h8 : ∀ x ∈ l, x < 256) : parC (hexM l) 64 = l := by
  apply List.ext_getElem?
  intro j
  by_cases hj : j < 32
  · have hg : l[j]? = some l[j] := List.getElem?_eq_getElem (by omega)
    have hb := h8 _ (List.mem_of_getElem? hg)
    obtain ⟨h1, h2⟩ := hexM_get l j _ hg
    rw [parC_get _ _ hj, if_pos (by omega), h1, h2, dv_dg (by omega), dv_dg (by omega), hg]
    congr 1; omega
  · rw [List.getElem?_eq_none (by rw [parC_len]; omega), List.getElem?_eq_none (by omega)]
theorem parseM_hexM {l : List Nat} (hl : l.length = 32) (h8 : ∀ x ∈ l, x < 256) : parseM (hexM l) = (l, 0) := by
  unfold parseM; rw [if_pos (hexM_good hl h8), parC_hexM hl h8]
theorem getD_at {l : List Nat} {i : Nat} (h : i < l.length) : l[i] = l.getD i 0 := by rw [List.getD_eq_getElem?_getD, List.getElem?_eq_getElem h]; rfl
theorem hexM_parC {s : List Nat} (hg : good s) : hexM (parC s 64) = s := by
  obtain ⟨hl, hd⟩ := hg
  refine List.ext_getElem (by rw [hexM_len, parC_len, hl]) (fun k h1 h2 => ?_)
  rw [getD_at, getD_at]
  have hk : k < 64 := by omega
  have hj := parC_get s 64 (j := k / 2) (by omega)
  rw [if_pos (by omega)] at hj
  obtain ⟨q1, q2⟩ := hexM_get _ _ _ hj
  have d1 := hd (2 * (k / 2)) (by omega)
  have d2 := hd (2 * (k / 2) + 1) (by omega)
  rcases Nat.mod_two_eq_zero_or_one k with h | h
  · have hk2 : 2 * (k / 2) = k := by omega
    rw [hk2] at q1 d1 d2
    rw [q1, show (16 * dv (s.getD k 0) + dv (s.getD (k + 1) 0)) / 16 = dv (s.getD k 0) by omega, dg_dv d1]
  · have hk2 : 2 * (k / 2) + 1 = k := by omega
    rw [hk2] at q2 d2
    rw [q2, show (16 * dv (s.getD (2 * (k / 2)) 0) + dv (s.getD k 0)) % 16 = dv (s.getD k 0) by omega, dg_dv d2]
theorem dg_blt {i j : Nat} (hi : i < 16) (hj : j < 16) : Nat.blt (dg i) (dg j) = decide (i < j) := by
  rw [Arr.blt_eq]
  unfold dg
  congr 1
  apply propext
  split <;> split <;> omega
theorem dg_beq {i j : Nat} (hi : i < 16) (hj : j < 16) : Nat.beq (dg i) (dg j) = decide (i = j) := by
  rw [Bool.eq_iff_iff, Nat.beq_eq, decide_eq_true_eq]
  unfold dg
  split <;> split <;> omega
theorem natsLt_hexM : ∀ (a b : List Nat), a.length = b.length → (∀ x ∈ a, x < 256) → (∀ x ∈ b, x < 256) → natsLt (hexM a) (hexM b) = decide (cmpN a b < 0) := by
  intro a
  induction a with
  | nil =>
    intro b hl _ _
    cases b with
    | nil => rfl
    | cons => simp at hl
  | cons x a ih =>
    intro b hl ha hb
    cases b with
    | nil => simp at hl
    | cons y b =>
      have hx := ha x (by simp)
      have hy := hb y (by simp)
      have e : natsLt (hexM (x :: a)) (hexM (y :: b)) = (Nat.blt (dg (x / 16)) (dg (y / 16)) || (Nat.beq (dg (x / 16)) (dg (y / 16)) && (Nat.blt (dg (x % 16)) (dg (y % 16)) || (Nat.beq (dg (x % 16)) (dg (y % 16)) && natsLt (hexM a) (hexM b))))) := rfl
      rw [e, dg_blt (by omega) (by omega), dg_beq (by omega) (by omega), dg_blt (by omega) (by omega), dg_beq (by omega) (by omega), ih b (by simpa using hl) (fun z hz => ha z (by simp [hz])) (fun z hz => hb z (by simp [hz]))]
      rcases Nat.lt_trichotomy x y with h | h | h
      · rw [cmpN_lt _ _ h]
        by_cases h16 : x / 16 < y / 16
        · simp [h16]
        · have : x / 16 = y / 16 := by omega
          have : x % 16 < y % 16 := by omega
          simp [*]
      · subst h; rw [cmpN_eq']; simp
      · rw [cmpN_gt _ _ h]
        have h16 : ¬ x / 16 < y / 16 := by omega
        by_cases he : x / 16 = y / 16
        · have h1 : ¬ x % 16 < y % 16 := by omega
          have h2 : ¬ x % 16 = y % 16 := by omega
          simp [h1, h2, he]
        · simp [h16, he]
theorem cmpN_back (a b : List Nat) : wr .i64 (0 - cmpN b a) = cmpN a b := by
  rw [cmpN_anti a b]
  rcases cmpN_range b a with h | h | h <;> rw [h] <;> rfl

/-! ## The law of there and back -/
theorem back_spec {F n : Nat} (hF : 400 < F) {h : AH} (hw : h.WF) (hk : KT h) {a b s : List Nat} (ha : a.length = 32) (hb : b.length = 32) (ha8 : ∀ x ∈ a, x < 256) (hb8 : ∀ x ∈ b, x < 256) (hs : ∀ x ∈ s, x < 256) :
    ∃ h', runC (EE F) (n + 5) n_law01_ShaBack [.agg (byteL a), .agg (byteL b), .str s] h = some (.bool true, h') := by
  rw [at_law01_ShaBack]
  have hpos := hk.pos hw
  obtain ⟨h1, e1, c1, n1, o1⟩ := box_cells hw (byteL a) T_api_Id (byteL_cell a)
  obtain ⟨h2, e2, c2, n2, o2⟩ := box_cells o1.wf (byteL b) T_api_Id (byteL_cell b)
  have e1' : absBox T_api_Id (.agg (byteL a)) h = some (.ptr ⟨h.next, 32, 0⟩, h1) := by rw [e1, byteL_len, ha]
  have e2' : absBox T_api_Id (.agg (byteL b)) h1 = some (.ptr ⟨h1.next, 32, 0⟩, h2) := by rw [e2, byteL_len, hb]
  have o12 := o1.trans (o2.weak o1.next)
  obtain ⟨h3, e3, o3⟩ := awake_spec (F := F) (n := n) (by omega) o2.wf (hk.old hpos o12)
  have a2 : Cells h2 h.next T_api_Id (byteL a) := c1.old o1.wf o2
  have a3 := a2.old o2.wf o3
  have b3 := c2.old o2.wf o3
  obtain ⟨h4, e4, o4⟩ := hex_spec (F := F) (n := n + 1) (by omega) o3.wf ha ha8
  have a4 := a3.old o3.wf o4
  have b4 := b3.old o3.wf o4
  obtain ⟨h5, e5, o5⟩ := parse_spec (F := F) (n := n + 1) (by omega) o4.wf (s := hexM a) (hexM_byte ha8)
  have a5 := a4.old o4.wf o5
  have b5 := b4.old o4.wf o5
  obtain ⟨p1, p2, p3, p4⟩ := al_cells o5.wf (List.replicate 32 (.int .u8 0)) T_api_Id rfl (by simp)
  have p2' : (al (List.replicate 32 (.int .u8 0)) T_api_Id h5).1 = .ptr ⟨h5.next, 32, 0⟩ := p2
  generalize hh6 : (al (List.replicate 32 (.int .u8 0)) T_api_Id h5).2 = h6 at *
  have a6 := a5.old o5.wf p4
  have b6 := b5.old o5.wf p4
  have la32 : (byteL a).length = 32 := by rw [byteL_len, ha]
  have lb32 : (byteL b).length = 32 := by rw [byteL_len, hb]
  obtain ⟨h7, q1, q2, q3⟩ := p1.put p4.wf (n := 32) (vs := byteL a) rfl la32 (byteL_cell _)
  have n12 : h.next < h1.next := by omega
  have n23 := o3.next
  have n34 := o4.next
  have n45 := o5.next
  have a7 := a6.wrote q3 (by omega)
  have b7 := b6.wrote q3 (by omega)
  have la7 : ldA 32 (.ptr ⟨h.next, 32, 0⟩) h7 = some (.agg (byteL a)) := a7.ldA la32.symm
  have lq7 : ldA 32 (.ptr ⟨h5.next, 32, 0⟩) h7 = some (.agg (byteL a)) := q2.ldA la32.symm
  have wf7 := q3.wf
  obtain ⟨h8, e8, o8⟩ := quiet_of (g := fun h => runC (EE F) (n + 4) n_sha_Hex [.agg (byteL a)] h) (h := h7) (hex_spec (F := F) (n := n + 1) (by omega) (h := ⟨h7.next, h7.next, h7.m⟩) wf7 ha ha8)
  have a8 := a7.old wf7 o8
  have b8 := b7.old wf7 o8
  have lb8 : ldA 32 (.ptr ⟨h1.next, 32, 0⟩) h8 = some (.agg (byteL b)) := b8.ldA lb32.symm
  obtain ⟨h9, e9, o9⟩ := quiet_of (g := fun h => runC (EE F) (n + 4) n_sha_Hex [.agg (byteL b)] h) (h := h8) (hex_spec (F := F) (n := n + 1) (by omega) (h := ⟨h8.next, h8.next, h8.m⟩) o8.wf hb hb8)
  have a9 := a8.old o8.wf o9
  have b9 := b8.old o8.wf o9
  have la9 : ldA 32 (.ptr ⟨h.next, 32, 0⟩) h9 = some (.agg (byteL a)) := a9.ldA la32.symm
  have lb9 : ldA 32 (.ptr ⟨h1.next, 32, 0⟩) h9 = some (.agg (byteL b)) := b9.ldA lb32.symm
  obtain ⟨h10, e10, o10⟩ := compare_spec (F := F) (n := n + 2) o9.wf ha hb ha8 hb8
  have a10 := a9.old o9.wf o10
  have b10 := b9.old o9.wf o10
  have la10 : ldA 32 (.ptr ⟨h.next, 32, 0⟩) h10 = some (.agg (byteL a)) := a10.ldA la32.symm
  have lb10 : ldA 32 (.ptr ⟨h1.next, 32, 0⟩) h10 = some (.agg (byteL b)) := b10.ldA lb32.symm
  obtain ⟨h11, e11, o11⟩ := quiet_of (g := fun h => runC (EE F) (n + 4) n_sha_Compare [.agg (byteL a), .agg (byteL b)] h) (h := h10) (compare_spec (F := F) (n := n + 2) (h := ⟨h10.next, h10.next, h10.m⟩) o10.wf ha hb ha8 hb8)
  have a11 := a10.old o10.wf o11
  have b11 := b10.old o10.wf o11
  have la11 : ldA 32 (.ptr ⟨h.next, 32, 0⟩) h11 = some (.agg (byteL a)) := a11.ldA la32.symm
  have lb11 : ldA 32 (.ptr ⟨h1.next, 32, 0⟩) h11 = some (.agg (byteL b)) := b11.ldA lb32.symm
  obtain ⟨h12, e12, o12'⟩ := compare_spec (F := F) (n := n + 2) o11.wf hb ha hb8 ha8
  obtain ⟨h13, e13, o13⟩ := parse_spec (F := F) (n := n + 1) (by omega) o12'.wf hs
  obtain ⟨r1, r2, r3, r4⟩ := al_cells o13.wf (List.replicate 32 (.int .u8 0)) T_api_Id rfl (by simp)
  have r2' : (al (List.replicate 32 (.int .u8 0)) T_api_Id h13).1 = .ptr ⟨h13.next, 32, 0⟩ := r2
  generalize hh14 : (al (List.replicate 32 (.int .u8 0)) T_api_Id h13).2 = h14 at *
  have hpl : (byteL (parseM s).1).length = 32 := by rw [byteL_len]; unfold parseM; split <;> simp [parC_len]
  obtain ⟨h15, t1, t2, t3⟩ := r1.put r4.wf (n := 32) (vs := byteL (parseM s).1) rfl hpl (byteL_cell _)
  have lt : ldA 32 (.ptr ⟨h13.next, 32, 0⟩) h15 = some (.agg (byteL (parseM s).1)) := t2.ldA hpl.symm
  have x1 : absExtract (parseV (hexM a)) 0 = some (.agg (byteL a)) := by unfold parseV; rw [parseM_hexM ha ha8]; rfl
  have x2 : absExtract (parseV (hexM a)) 1 = some (.int .i64 0) := by unfold parseV; rw [parseM_hexM ha ha8]; rfl
  have x3 : absExtract (parseV s) 0 = some (.agg (byteL (parseM s).1)) := rfl
  have x4 : absExtract (parseV s) 1 = some (.int .i64 (parseM s).2) := rfl
  have pre : law01_ShaBack.fn (cx F (n + 4)) (byteL a) (byteL b) s h = law01_ShaBack.r6 (cx F (n + 4)) law01_ShaBack.ret law01_ShaBack.ret (s, ()) h12 := by
    simp only [law01_ShaBack.fn, law01_ShaBack.c0, e1', cV_some, e2', law01_ShaBack.k0, law01_ShaBack.c1, cxC, e3, cB_some, Bool.not_true, law01_ShaBack.k1, cond_false, law01_ShaBack.r3, law01_ShaBack.c3, a3.ldA la32.symm, bA_some, e4, cZ_some, e5, x1, x2, bI_some, p2', hh6, q1, bS_some, law01_ShaBack.k3, law01_ShaBack.c4, bne_self_eq_false, lq7, la7, neId ha ha, bB_some, decide_true, e8, lb8, e9, la9, lb9, e10, cI_some, natsLt_hexM a b (by rw [ha, hb]) ha8 hb8, beq_self_eq_true, la10, lb10, e11, la11, lb11, e12, cmpN_back, law01_ShaBack.k4]
  rw [pre]
  by_cases hg : good s
  · have pm : parseM s = (parC s 64, 0) := by unfold parseM; rw [if_pos hg]
    rw [pm] at t1 lt x3 x4
    obtain ⟨h16, e16, o16⟩ := hex_spec (F := F) (n := n + 1) (by omega) t3.wf (parC_len s 64) (parC_byte hg.2)
    refine ⟨h16, ?_⟩
    simp only [law01_ShaBack.r6, law01_ShaBack.c6, cxC, e13, cV_some, x3, x4, bA_some, bI_some, r2', hh14, t1, bS_some, bne_self_eq_false, cond_false, beq_self_eq_true, cond_true, lt, e16, cZ_some, hexM_parC hg, natsEq_eq, decide_true]
    rfl
  · have pm : parseM s = (List.replicate 32 0, 4) := by unfold parseM; rw [if_neg hg]
    rw [pm] at t1 lt x3 x4
    refine ⟨h15, ?_⟩
    have c4 : ((4 : Int) != 0) = true := rfl
    simp only [law01_ShaBack.r6, law01_ShaBack.c6, cxC, e13, cV_some, x3, x4, bA_some, bI_some, r2', hh14, t1, bS_some, c4, cond_true, lt, bld_zero, eqId (a := List.replicate 32 0) (b := List.replicate 32 0) rfl rfl, bB_some, decide_true]
    rfl
end Go.Proofs.YtbeohojepniioaaDoor
