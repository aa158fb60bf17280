/-
  What stands behind n bytes: the program's way and the document's, over lists.
-/
import Derived.Test.YtbeohojepniioaaDoorShaRun
import Derived.Test.YtbeohojepniioaaDoorEwI
set_option linter.unusedVariables false
set_option linter.unusedSimpArgs false
namespace Go.Proofs.YtbeohojepniioaaDoor
open Go Ev

def be8 (x : Nat) : List Nat := (List.range 8).map fun j => x / 256 ^ (7 - j) % 256
theorem be8_len (x : Nat) : (be8 x).length = 8 := by simp [be8]
theorem be8_byte (x : Nat) : ∀ y ∈ be8 x, y < 256 := by
  intro y hy
  obtain ⟨j, _, rfl⟩ := List.mem_map.1 hy
  exact Nat.mod_lt _ (by omega)
def padZ (n : Nat) : Nat := (119 - n % 64) % 64
def padM (n : Nat) : List Nat := 128 :: (List.replicate (padZ n) 0 ++ be8 (8 * n % 18446744073709551616))
theorem padM_len (n : Nat) : (padM n).length = 9 + padZ n := by
  unfold padM
  rw [List.length_cons, List.length_append, List.length_replicate, be8_len]; omega
theorem padM_byte (n : Nat) : ∀ x ∈ padM n, x < 256 := by
  intro x hx
  unfold padM at hx
  rcases List.mem_cons.1 hx with rfl | hx
  · omega
  · rcases List.mem_append.1 hx with hx | hx
    · rw [List.eq_of_mem_replicate hx]; omega
    · exact be8_byte _ x hx
theorem padM_fits (n : Nat) : (n + (padM n).length) % 64 = 0 := by rw [padM_len]; unfold padZ; omega

/-- The bytes of a number from below, so many of them. -/
theorem be8_drop (x i : Nat) (hi : i < 8) : (be8 x).drop (7 - i) = (x / 256 ^ i % 256) :: (be8 x).drop (8 - i) := by
  have : i = 0 ∨ i = 1 ∨ i = 2 ∨ i = 3 ∨ i = 4 ∨ i = 5 ∨ i = 6 ∨ i = 7 := by omega
  rcases this with rfl | rfl | rfl | rfl | rfl | rfl | rfl | rfl <;> rfl
def padC (z x i : Nat) : List Nat := 128 :: (List.replicate (z + (8 - i)) 0 ++ (be8 x).drop (8 - i))
theorem padC_len (z x i : Nat) (hi : i ≤ 8) : (padC z x i).length = 9 + z := by
  unfold padC
  rw [List.length_cons, List.length_append, List.length_replicate, List.length_drop, be8_len]; omega
theorem padC_step (z x i : Nat) (hi : i < 8) : (padC z x i).set (8 + z - i) (x / 256 ^ i % 256) = padC z x (i + 1) := by
  unfold padC
  obtain ⟨k, hk⟩ : ∃ k, z + (8 - i) = k + 1 := ⟨z + 7 - i, by omega⟩
  have e1 : 8 + z - i = (k + 1) := by omega
  have e2 : z + (8 - (i + 1)) = k := by omega
  have e3 : 8 - (i + 1) = 7 - i := by omega
  rw [hk, e1, e2, e3, be8_drop x i hi, List.set_cons_succ, List.set_append, List.length_replicate, if_pos (by omega)]
  congr 1
  have : List.replicate (k + 1) 0 = List.replicate k 0 ++ [0] := by rw [List.replicate_succ']
  rw [this, List.set_append, List.length_replicate, if_neg (by omega), Nat.sub_self]
  simp
theorem padC_byte (z x i : Nat) (hi : i ≤ 8) : ∀ y ∈ padC z x i, y < 256 := by
  intro y hy
  unfold padC at hy
  rcases List.mem_cons.1 hy with rfl | hy
  · omega
  · rcases List.mem_append.1 hy with hy | hy
    · rw [List.eq_of_mem_replicate hy]; omega
    · exact be8_byte _ y (List.mem_of_mem_drop hy)
theorem padC_zero (z x : Nat) : padC z x 0 = (List.replicate (9 + z) 0).set 0 128 := by
  unfold padC
  rw [Nat.sub_zero, List.drop_of_length_le (by rw [be8_len]; exact Nat.le_refl _), List.append_nil, show 9 + z = (z + 8) + 1 by omega, List.replicate_succ]
  rfl
theorem padC_end (z x : Nat) : padC z x 8 = 128 :: (List.replicate z 0 ++ be8 x) := rfl
/-- The byte that a round writes. -/
theorem shift_byte (a i : Nat) (hi : i < 8) : IntKind.wrap .u8 (ishr .u64 (ishl .u64 (IntKind.wrap .u64 (a : Int)) 3) ((8 * i : Nat) : Int)) = ((8 * a % 18446744073709551616 / 256 ^ i % 256 : Nat) : Int) := by
  have e1 : ishl .u64 (IntKind.wrap .u64 (a : Int)) 3 = ((8 * a % 18446744073709551616 : Nat) : Int) := by
    unfold ishl
    have : (2 : Int) ^ min (Int.toNat 3) IntKind.u64.bits = 8 := rfl
    rw [this, wr_u64, wr_u64]
    omega
  rw [e1]
  unfold ishr
  have e2 : min (Int.toNat ((8 * i : Nat) : Int)) IntKind.u64.bits = 8 * i := by
    rw [Int.toNat_natCast]
    have : IntKind.u64.bits = 64 := rfl
    omega
  rw [e2, wr_u8]
  have e3 : ((2 : Int) ^ (8 * i)) = ((256 ^ i : Nat) : Int) := by rw [Int.pow_mul, Int.natCast_pow]; rfl
  rw [e3, Int.fdiv_eq_ediv_of_nonneg _ (Int.natCast_nonneg _), ← Int.natCast_ediv]
  omega

theorem pad_spec {F n : Nat} (hF : 9 < F) {x : Int} (hx : x ≤ 9223372036854775807) {h : AH} (hw : h.WF) :
    ∃ v h', runC (EE F) (n + 1) n_sha_Pad [.int .i64 x] h = some (v, h') ∧ Own h.next 1 T_uint8 h' v (padM x.toNat).length (byteL (padM x.toNat)) ∧ Old h.next h h' := by
  rw [at_sha_Pad]
  generalize hz : padZ x.toNat = z
  have hz' : z < 64 := by rw [← hz]; unfold padZ; omega
  have hmax : imax x 0 = (x.toNat : Int) := by unfold imax; split <;> omega
  have ha : (x.toNat : Int) ≤ 9223372036854775807 := by omega
  generalize hxa : x.toNat = a at *
  have e1 : (IntKind.wrap .i64 (119 - ((a : Int).tmod 64))).tmod 64 = (z : Int) := by
    rw [Int.tmod_eq_emod_of_nonneg (a := (a : Int)) (by omega), wr_i64 (by omega) (by omega), Int.tmod_eq_emod_of_nonneg (by omega)]
    unfold padZ at hz
    omega
  have e2 : IntKind.wrap .i64 (IntKind.wrap .i64 (1 + (z : Int)) + 8) = ((9 + z : Nat) : Int) := by
    rw [wr_i64 (x := 1 + (z : Int)) (by omega) (by omega), wr_i64 (by omega) (by omega)]
    omega
  obtain ⟨p, h1, m1, o1, d1⟩ := mkS_own hw (z := 1) (by_ := 1) (e := T_uint8) (zs := [.int .u8 0]) rfl (by omega) rfl (l := 9 + z) (by omega) (by omega)
  have hrep : (List.replicate (9 + z) [V.int .u8 0]).flatten = byteL (List.replicate (9 + z) 0) := by
    unfold byteL
    rw [List.map_replicate]
    generalize 9 + z = k
    induction k with
    | zero => rfl
    | succ k ih => rw [List.replicate_succ, List.flatten_cons, ih, List.replicate_succ]; rfl
  rw [hrep] at o1
  have o1' : Own h.next 1 T_uint8 h1 p (List.replicate (9 + z) 0).length (byteL (List.replicate (9 + z) 0)) := by rw [List.length_replicate]; exact o1
  obtain ⟨q, h2, x1, x2, o2, d2, _⟩ := o1'.setB d1.wf (i := 0) (by omega) (by rw [List.length_replicate]; omega) 128
  have d12 := d1.trans d2
  have e0 : sha_Pad.fn (cx F n) x h = sha_Pad.k3 (cx F n) sha_Pad.ret sha_Pad.ret ((a : Int), p, ()) h2 := by
    show sha_Pad.c0 _ _ _ _ = _
    simp only [sha_Pad.c0, wr, hmax, e1, e2, m1, cV_some, x1, bV_some, bS_some]
    have x2' : st 1 (V.ptr q) (V.int IntKind.u8 128) h1 = some h2 := x2
    rw [x2']
    rfl
  rw [e0]
  generalize hX : 8 * a % 18446744073709551616 = X
  have o2' : Own h.next 1 T_uint8 h2 p (padC z X 0).length (byteL (padC z X 0)) := by rw [padC_zero]; exact o2
  show ∃ v h', loopN sha_Pad.P10 F (fun t h n' => sha_Pad.l5 (cx F n) n' (sha_Pad.r9 (cx F n) sha_Pad.ret sha_Pad.ret) sha_Pad.ret t h) ((a : Int), p, 0, ()) h2 = some (v, h') ∧ _
  refine loop_rule (S := sha_Pad.P10) (out := fun r => ∃ v h', r = some (v, h') ∧ Own h.next 1 T_uint8 h' v (padM a).length (byteL (padM a)) ∧ Old h.next h h')
    (fun k s g => ∃ i : Nat, i + k = 8 ∧ s = ((a : Int), p, (i : Int), ()) ∧ Own h.next 1 T_uint8 g p (padC z X i).length (byteL (padC z X i)) ∧ Old h.next h g) ?_ ?_ 8 F _ _ ⟨0, rfl, rfl, o2', d12⟩ (by omega)
  · rintro k s g n' ⟨i, hi, rfl, og, dg⟩
    refine .inl ?_
    have hlen := padC_len z X i (by omega)
    have i1 : IntKind.wrap .i64 (8 * (i : Int)) = ((8 * i : Nat) : Int) := by rw [wr_i64 (by omega) (by omega)]; omega
    have i2 : IntKind.wrap .i64 (IntKind.wrap .i64 (((padC z X i).length : Int) - 1) - (i : Int)) = ((8 + z - i : Nat) : Int) := by
      rw [hlen, wr_i64 (x := ((9 + z : Nat) : Int) - 1) (by omega) (by omega), wr_i64 (by omega) (by omega)]
      omega
    obtain ⟨q', g', y1, y2, og', dg', _⟩ := og.setB dg.wf (i := ((8 + z - i : Nat) : Int)) (by omega) (by rw [hlen]; omega) (X / 256 ^ i % 256)
    rw [Int.toNat_natCast, padC_step z X i (by omega)] at og'
    refine ⟨((a : Int), p, ((i + 1 : Nat) : Int), ()), g', ?_, i + 1, by omega, rfl, og', dg.trans dg'⟩
    have c1 : decide ((i : Int) < 8) = true := by rw [decide_eq_true_eq]; omega
    have c2 : ¬ ((8 * i : Nat) : Int) < 0 := by omega
    have i3 : IntKind.wrap .i64 ((i : Int) + 1) = ((i + 1 : Nat) : Int) := by rw [wr_i64 (by omega) (by omega)]; omega
    simp only [sha_Pad.l5, sha_Pad.c5, sha_Pad.k5, c1, cond_true, sha_Pad.r6, sha_Pad.c6, wr, og.sl.len, bI_some, i1, if_neg c2, i2, y1, bV_some, shift_byte a i (by omega), hX, y2, bS_some, sha_Pad.r8, sha_Pad.c8, i3]
  · rintro s g n' ⟨i, hi, rfl, og, dg⟩
    obtain rfl : i = 8 := by omega
    refine ⟨p, g, ?_, ?_, dg⟩
    · rfl
    · unfold padM
      rw [hz, hX, ← padC_end]
      exact og
end Go.Proofs.YtbeohojepniioaaDoor
