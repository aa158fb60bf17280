/-
  An id in digits: the program's way and the document's.
-/
import Derived.Test.YtbeohojepniioaaDoorShaRef
set_option linter.unusedVariables false
set_option linter.unusedSimpArgs false
namespace Go.Proofs.YtbeohojepniioaaDoor
open Go Ev

/-! ## A strings.Builder -/
structure Bld (n0 : Nat) (h : AH) (bb : Nat) (l : List Nat) : Prop where
  wf : h.WF
  lo : n0 ≤ bb
  cells : ∃ a buf, Cells h bb T_strings_Builder [a, buf] ∧ (a = .nilptr ∨ a = .ptr ⟨bb, 2, 0⟩) ∧ Own n0 1 T_uint8 h buf l.length (byteL l) ∧ notIn buf bb
theorem fA_of (a : A) (o : Nat) : fA o (.ptr a) = some (.ptr ⟨a.b, a.L, a.o + o⟩) := rfl
theorem cellV_slice {a : A} {n cap : Nat} {ex : Bool} {z : Nat} : (V.slice a n cap ex z).cells = [V.slice a n cap ex z] := rfl
theorem own_cells1 {n0 z e : Nat} {h : AH} {v : V} {n : Nat} {cs : List V} (ho : Own n0 z e h v n cs) : v.cells = [v] ∧ v.cell = true := by
  obtain ⟨_, ⟨_, rfl⟩ | ⟨_, _, _, _, rfl, _⟩⟩ := ho <;> exact ⟨rfl, rfl⟩
theorem copyCheck_spec {F n : Nat} {n0 : Nat} {h : AH} {bb : Nat} {l : List Nat} (hb : Bld n0 h bb l) : ∃ h', runC (EE F) (n + 1) n_strings_Builder_copyCheck [.ptr ⟨bb, 2, 0⟩] h = some (.tuple [], h') ∧ Bld n0 h' bb l ∧ Old n0 h h' := by
  obtain ⟨hw, hlo, a, buf, hc, ha, ho, hn⟩ := hb
  rw [at_strings_Builder_copyCheck]
  have hr0 : ld (.ptr ⟨bb, 2, 0⟩) h = some a := ld_of (hc.read1 rfl rfl)
  have hk : absNilCheck (.ptr ⟨bb, 2, 0⟩) = some (.ptr ⟨bb, 2, 0⟩) := rfl
  rcases ha with rfl | rfl
  · -- the first time
    obtain ⟨k, k1, k2, k3, k4, k5, k6, k7, k8⟩ := id hc
    obtain ⟨h', w1, w2, w3, w4, w5, w6⟩ := hc.write hw (L := 2) (o := 0) (vs := [.ptr ⟨bb, 2, 0⟩]) rfl rfl (by simp)
    have e1 : eqW PP true T_p_strings_Builder .nilptr .nilptr = some (.bool true) := by kernel_rfl
    have e2 : cvt PP T_p_strings_Builder T_unsafe_Pointer (.ptr ⟨bb, 2, 0⟩) h = some (.ptr ⟨bb, 2, 0⟩, h) := by
      have h1 : absUnsafePtr PP T_p_strings_Builder T_unsafe_Pointer (.ptr ⟨bb, 2, 0⟩) h = (match h.get bb, PP.info? T_strings_Builder with | some k, some j => if k.minL ≤ 2 ∧ 0 < 2 ∧ j.size ≠ 0 then some (V.ptr ⟨bb, 2, 0⟩) else none | _, _ => none) := by kernel_rfl
      have h2 : (match some k, PP.info? T_strings_Builder with | some k, some j => if k.minL ≤ 2 ∧ 0 < 2 ∧ j.size ≠ 0 then some (V.ptr ⟨bb, 2, 0⟩) else none | _, _ => none) = if k.minL ≤ 2 ∧ 0 < 2 ∧ (2 : Nat) ≠ 0 then some (V.ptr ⟨bb, 2, 0⟩) else none := by kernel_rfl
      rw [k1] at h1
      have h3 := h1.trans (h2.trans (if_pos ⟨k6, by omega, by omega⟩))
      simp only [cvt, h3]
    have e3 : cvt PP T_unsafe_Pointer T_p_strings_Builder (.ptr ⟨bb, 2, 0⟩) h = some (.ptr ⟨bb, 2, 0⟩, h) := by
      have h1 : absUnsafePtr PP T_unsafe_Pointer T_p_strings_Builder (.ptr ⟨bb, 2, 0⟩) h = (match h.get bb, PP.info? T_strings_Builder with | some k, some j => if k.minL ≤ 2 ∧ 0 = 0 ∧ k.e = T_strings_Builder ∧ PP.cellsOf T_strings_Builder ≤ 2 ∧ PP.cellsOf T_strings_Builder ≠ 0 ∧ k.ro = false then some (V.ptr ⟨bb, 2, 0⟩) else none | _, _ => none) := by kernel_rfl
      have h2 : (match some k, PP.info? T_strings_Builder with | some k, some j => if k.minL ≤ 2 ∧ 0 = 0 ∧ k.e = T_strings_Builder ∧ PP.cellsOf T_strings_Builder ≤ 2 ∧ PP.cellsOf T_strings_Builder ≠ 0 ∧ k.ro = false then some (V.ptr ⟨bb, 2, 0⟩) else none | _, _ => none) = if k.minL ≤ 2 ∧ 0 = 0 ∧ k.e = T_strings_Builder ∧ 2 ≤ 2 ∧ (2 : Nat) ≠ 0 ∧ k.ro = false then some (V.ptr ⟨bb, 2, 0⟩) else none := by kernel_rfl
      rw [k1] at h1
      have h3 := h1.trans (h2.trans (if_pos ⟨k6, rfl, k7, by omega, by omega, k4⟩))
      simp only [cvt, h3]
    have e4 : (cx F n).X n_abi_NoEscape [.ptr ⟨bb, 2, 0⟩] h = some (.ptr ⟨bb, 2, 0⟩, h) := rfl
    have e5 : st 1 (.ptr ⟨bb, 2, 0⟩) (.ptr ⟨bb, 2, 0⟩) h = some h' := st_of rfl w1
    refine ⟨h', ?_, ⟨w6, hlo, .ptr ⟨bb, 2, 0⟩, buf, w2, .inr rfl, ?_, hn⟩, ⟨by omega, fun b hb => w5 b (by omega), by rw [w4]; omega, w6⟩⟩
    · simp only [strings_Builder_copyCheck.fn, strings_Builder_copyCheck.c0, hk, bV_some, fA_of, Nat.add_zero, hr0, e1, bB_some, strings_Builder_copyCheck.k0, cond_true, strings_Builder_copyCheck.c1, e2, cV_some, e4, e3, e5, bS_some]
      rfl
    · obtain ⟨g1, g2 | ⟨b, cap, ex, rest, rfl, g2, g3, g4, g5, g6⟩⟩ := ho
      · exact ⟨g1, .inl g2⟩
      · exact ⟨g1, .inr ⟨b, cap, ex, rest, rfl, g2, g3, g4, g5, g6.mono (w5 _ (fun e => hn e.symm))⟩⟩
  · -- later
    have e1 : eqW PP true T_p_strings_Builder (.ptr ⟨bb, 2, 0⟩) .nilptr = some (.bool false) := by kernel_rfl
    have e2 : neW PP false T_p_strings_Builder (.ptr ⟨bb, 2, 0⟩) (.ptr ⟨bb, 2, 0⟩) = some (.bool false) := by
      have : neW PP false T_p_strings_Builder (.ptr ⟨bb, 2, 0⟩) (.ptr ⟨bb, 2, 0⟩) = (if (2 : Nat) ≠ 0 ∧ bb = bb ∧ 2 = 2 ∧ 0 = 0 then some true else none).map fun r => V.bool (!r) := by kernel_rfl
      rw [this, if_pos ⟨by omega, rfl, rfl, rfl⟩]; rfl
    refine ⟨h, ?_, ⟨hw, hlo, _, buf, hc, .inr rfl, ho, hn⟩, Old.refl hw _⟩
    simp only [strings_Builder_copyCheck.fn, strings_Builder_copyCheck.c0, hk, bV_some, fA_of, Nat.add_zero, hr0, e1, bB_some, strings_Builder_copyCheck.k0, cond_false, strings_Builder_copyCheck.c2, e2, strings_Builder_copyCheck.k2]
    rfl
theorem writeByte_spec {F n : Nat} {n0 : Nat} {h : AH} {bb : Nat} {l : List Nat} (hb : Bld n0 h bb l) (hn0 : n0 ≤ h.next) (hl : l.length ≤ 1000) {x : Nat} (hx : x < 256) : ∃ h', runC (EE F) (n + 2) n_strings_Builder_WriteByte [.ptr ⟨bb, 2, 0⟩, .int .u8 x] h = some (.nilIface, h') ∧ Bld n0 h' bb (l ++ [x]) ∧ Old n0 h h' := by
  rw [at_strings_Builder_WriteByte]
  obtain ⟨h1, c1, b1, o1⟩ := copyCheck_spec (F := F) (n := n) hb
  obtain ⟨hw, hlo, a, buf, hc, ha, ho, hn⟩ := b1
  have hbb := hc.lt hw
  have hk : absNilCheck (.ptr ⟨bb, 2, 0⟩) = some (.ptr ⟨bb, 2, 0⟩) := rfl
  have hr1 : ld (.ptr ⟨bb, 2, 0 + 1⟩) h1 = some buf := ld_of (hc.read1 rfl rfl)
  obtain ⟨v2, h2, e2, p2, o2⟩ := bsl_byte hw T_uint8 x
  obtain ⟨v3, h3, e3, p3, o3, q3, r3⟩ := app_bytes (ho.old hw o2) (p2.bs (by simpa using hx)) o2.wf (Nat.le_trans (Nat.le_trans hn0 o1.next) o2.next) (capW_ok (by simp; omega))
  have hc3 : Cells h3 bb T_strings_Builder [a, buf] := (hc.old hw o2).mono (q3 bb (Nat.lt_of_lt_of_le hbb o2.next) hn)
  obtain ⟨u1, u2⟩ := own_cells1 p3
  obtain ⟨h4, w1, w2, w3, w4, w5, w6⟩ := hc3.write o3.wf (L := 2) (o := 0 + 1) (vs := [v3]) rfl (by simp [u2]) (by simp)
  have hn3 : notIn v3 bb := r3 bb (Nat.lt_of_lt_of_le hbb o2.next) hn
  have e4 : st 1 (.ptr ⟨bb, 2, 0 + 1⟩) v3 h3 = some h4 := st_of (by rw [u1]; rfl) (by rw [u1]; exact w1)
  refine ⟨h4, ?_, ⟨w6, hlo, a, v3, w2, ha, ?_, hn3⟩, ((o1.trans (o2.weak (Nat.le_trans hn0 o1.next))).trans o3).trans ⟨by omega, fun b hb => w5 b (by omega), by rw [w4]; omega, w6⟩⟩
  · simp only [strings_Builder_WriteByte.fn, strings_Builder_WriteByte.c0, cxC, c1, cV_some, hk, bV_some, fA_of, hr1, e2, e3, e4, bS_some]
    rfl
  · obtain ⟨g1, g2 | ⟨b, cap, ex, rest, rfl, g2, g3, g4, g5, g6⟩⟩ := p3
    · exact ⟨g1, .inl g2⟩
    · exact ⟨g1, .inr ⟨b, cap, ex, rest, rfl, g2, g3, g4, g5, g6.mono (w5 _ (fun e => hn3 e.symm))⟩⟩
theorem toBytesC_byteL : ∀ {l : List Nat}, (∀ x ∈ l, x < 256) → toBytesC (byteL l) = some l := by
  intro l
  induction l with
  | nil => intro _; rfl
  | cons a l ih =>
    intro h
    show (match (if a < 256 then some a else none), toBytesC (byteL l) with | some n, some r => some (n :: r) | _, _ => none) = _
    rw [ih (fun x hx => h x (by simp [hx])), if_pos (h a (by simp))]
theorem builderString_spec {F n : Nat} {n0 : Nat} {h : AH} {bb : Nat} {l : List Nat} (hb : Bld n0 h bb l) (hl : l.length ≤ 1000) (hl0 : l ≠ []) (hl8 : ∀ x ∈ l, x < 256) : ∃ h', runC (EE F) (n + 1) n_strings_Builder_String [.ptr ⟨bb, 2, 0⟩] h = some (.str l, h') ∧ Old n0 h h' := by
  rw [at_strings_Builder_String]
  obtain ⟨hw, hlo, a, buf, hc, ha, ho, hn⟩ := hb
  have hk : absNilCheck (.ptr ⟨bb, 2, 0⟩) = some (.ptr ⟨bb, 2, 0⟩) := rfl
  have hr1 : ld (.ptr ⟨bb, 2, 0 + 1⟩) h = some buf := ld_of (hc.read1 rfl rfl)
  have hlen := ho.sl.len
  have hpos : 0 < l.length := List.length_pos_iff.2 hl0
  have hsl := ho.sl
  obtain ⟨g1, ⟨g0, _⟩ | ⟨b, cap, ex, rest, rfl, g2, g3, g4, g5, g6⟩⟩ := ho
  · omega
  · have e1 : absSliceData (.slice ⟨b, cap * 1, 0⟩ l.length cap ex 1) = some (.ptr ⟨b, cap * 1, 0⟩) := by
      show (if cap = 0 then none else some (V.ptr ⟨b, cap * 1, 0⟩)) = _
      rw [if_neg (by omega)]
    obtain ⟨k, k1, k2, k3, k4, k5, k6, k7, k8⟩ := id g6
    have hrd : readN h ⟨b, cap * 1, 0⟩ l.length = some (byteL l) := by
      rw [g6.read g4.symm (by rw [g4]; omega), List.drop_zero]
      congr 1
      rw [List.take_left' (by rw [byteL_len])]
    have e2 : absUnsafeString PP T_p_uint8 (.ptr ⟨b, cap * 1, 0⟩) (.int .i64 (l.length : Int)) h = some (.str l, h.kill b k) := by
      unfold absUnsafeString
      simp only
      rw [if_neg (by omega), if_neg (by omega), if_neg (by omega), k1]
      simp only [Int.toNat_natCast]
      have c1 : isPtrTo PP T_p_uint8 k.e = true := by rw [k7]; kernel_rfl
      have c2 : PP.cellsOf k.e = 1 := by rw [k7]; kernel_rfl
      rw [if_pos ⟨trivial, k4, c1, c2⟩, hrd]
      simp only [toBytesC_byteL hl8, Option.map_some]
    refine ⟨h.kill b k, ?_, Nat.le_refl _, ?_, ?_, ?_⟩
    · simp only [strings_Builder_String.fn, strings_Builder_String.c0, hk, bV_some, fA_of, hr1, e1, hlen, bI_some, e2, cZ_some]
      rfl
    · intro i hi
      show (h.m.set b _).get i = _
      rw [T.get_set, if_neg (by omega)]; rfl
    · show min h.low n0 ≤ Nat.min h.low b
      have : Nat.min h.low b = min h.low b := rfl
      omega
    · intro i k' hk'
      have hk'' : (h.m.set b ⟨k.cells, Nat.succ k.cells.n, k.fz, k.ro, k.e⟩).get i = some k' := hk'
      rw [T.get_set] at hk''
      by_cases hi : i = b
      · subst hi; exact hw _ _ k1
      · rw [if_neg hi] at hk''; exact hw _ _ hk''

/-! ## Digits -/
def dg (d : Nat) : Nat := if d < 10 then 48 + d else 87 + d
theorem dg_lt {d : Nat} (h : d < 16) : dg d < 256 := by unfold dg; split <;> omega
theorem ixZ_dg {d : Nat} (h : d < 16) : ixZ [48, 49, 50, 51, 52, 53, 54, 55, 56, 57, 97, 98, 99, 100, 101, 102] (d : Int) = some (.int .u8 ((dg d : Nat) : Int)) := by
  have : d = 0 ∨ d = 1 ∨ d = 2 ∨ d = 3 ∨ d = 4 ∨ d = 5 ∨ d = 6 ∨ d = 7 ∨ d = 8 ∨ d = 9 ∨ d = 10 ∨ d = 11 ∨ d = 12 ∨ d = 13 ∨ d = 14 ∨ d = 15 := by omega
  rcases this with rfl | rfl | rfl | rfl | rfl | rfl | rfl | rfl | rfl | rfl | rfl | rfl | rfl | rfl | rfl | rfl <;> rfl
def hexM (l : List Nat) : List Nat := l.flatMap fun b => [dg (b / 16), dg (b % 16)]
theorem hexM_len (l : List Nat) : (hexM l).length = 2 * l.length := by
  induction l with
  | nil => rfl
  | cons a l ih => show (dg (a / 16) :: dg (a % 16) :: hexM l).length = _; simp only [List.length_cons, ih]; omega
theorem hexM_byte {l : List Nat} (h : ∀ x ∈ l, x < 256) : ∀ x ∈ hexM l, x < 256 := by
  intro x hx
  obtain ⟨b, hb, hx⟩ := List.mem_flatMap.1 hx
  have := h b hb
  simp only [List.mem_cons, List.not_mem_nil, or_false] at hx
  rcases hx with rfl | rfl
  · exact dg_lt (by omega)
  · exact dg_lt (by omega)
theorem hexM_take {l : List Nat} {i : Nat} {b : Nat} (h : l[i]? = some b) : hexM (l.take (i + 1)) = hexM (l.take i) ++ [dg (b / 16)] ++ [dg (b % 16)] := by
  rw [List.take_add_one, h]
  unfold hexM
  rw [List.flatMap_append]
  simp
theorem shr4 {b : Nat} : ishr .u8 (b : Int) 4 = ((b / 16 : Nat) : Int) := by
  unfold ishr
  have : (2 : Int) ^ min (Int.toNat 4) IntKind.u8.bits = ((16 : Nat) : Int) := rfl
  rw [this, Int.fdiv_eq_ediv_of_nonneg _ (by omega)]
  rfl
theorem and15 {b : Nat} (h : b < 256) : iand .u8 (b : Int) 15 = ((b % 16 : Nat) : Int) := by
  unfold iand
  rw [wr_u8, BitVec.toNat_and]
  have e1 : (BitVec.ofInt IntKind.u8.bits (b : Int)).toNat = b := by
    rw [BitVec.ofInt_natCast, BitVec.toNat_ofNat]
    exact Nat.mod_eq_of_lt h
  have e2 : (BitVec.ofInt IntKind.u8.bits 15).toNat = 2 ^ 4 - 1 := rfl
  rw [e1, e2, Nat.and_two_pow_sub_one_eq_mod]
  have : b % 2 ^ 4 = b % 16 := rfl
  rw [this]
  omega
theorem ixC_byte {n : Nat} {l : List Nat} (hl : l.length = n) {i b : Nat} (h : l[i]? = some b) : ixC n 1 (byteL l) (i : Int) = some (.int .u8 (b : Int)) := by
  have := (List.getElem?_eq_some_iff.1 h).1
  unfold ixC
  rw [if_pos (by omega), Int.toNat_natCast, Nat.mul_one, byteL_get, h]; rfl

theorem hex_spec {F n : Nat} (hF : 40 < F) {h : AH} (hw : h.WF) {l : List Nat} (hl : l.length = 32) (hb : ∀ x ∈ l, x < 256) : ∃ h', runC (EE F) (n + 3) n_sha_Hex [.agg (byteL l)] h = some (.str (hexM l), h') ∧ Old h.next h h' := by
  rw [at_sha_Hex]
  obtain ⟨h1, e1, c1, n1, o1⟩ := box_cells hw (byteL l) T_api_Id (byteL_cell l)
  have e1' : absBox T_api_Id (.agg (byteL l)) h = some (.ptr ⟨h.next, 32, 0⟩, h1) := by rw [e1, byteL_len, hl]
  obtain ⟨c2, e2, n2, o2⟩ := al_cells o1.wf [.nilptr, .nilslice] T_strings_Builder rfl (by simp)
  have e2' : (al [.nilptr, .nilslice] T_strings_Builder h1).1 = .ptr ⟨h1.next, 2, 0⟩ := e2
  generalize hh2 : (al [.nilptr, .nilslice] T_strings_Builder h1).2 = h2 at *
  have o12 : Old h.next h h2 := o1.trans (o2.weak o1.next)
  have b2 : Bld h.next h2 h1.next [] := ⟨o2.wf, o1.next, .nilptr, .nilslice, c2, .inl rfl, own_nil _ _ _ _, trivial⟩
  have hld : ldA 32 (.ptr ⟨h.next, 32, 0⟩) h2 = some (.agg (byteL l)) := (c1.old o1.wf o2).ldA (by rw [byteL_len, hl])
  have e0 : sha_Hex.fn (cx F (n + 2)) (byteL l) h = sha_Hex.k2 (cx F (n + 2)) (sha_Hex.r8 (cx F (n + 2)) sha_Hex.ret sha_Hex.ret) sha_Hex.ret (.ptr ⟨h1.next, 2, 0⟩, byteL l, 0, ()) h2 := by
    simp only [sha_Hex.fn, sha_Hex.c0, e1', cV_some, e2', hh2, sha_Hex.k1, sha_Hex.c2, hld, bA_some]
  rw [e0]
  show ∃ h', loopN sha_Hex.P6 F (fun t h n' => sha_Hex.l3 (cx F (n + 2)) n' (sha_Hex.r8 (cx F (n + 2)) sha_Hex.ret sha_Hex.ret) sha_Hex.ret t h) (.ptr ⟨h1.next, 2, 0⟩, byteL l, 0, ()) h2 = some (.str (hexM l), h') ∧ _
  refine loop_rule (S := sha_Hex.P6) (out := fun x => ∃ h', x = some (.str (hexM l), h') ∧ Old h.next h h')
    (fun k s g => ∃ i : Nat, i + k = 32 ∧ s = (.ptr ⟨h1.next, 2, 0⟩, byteL l, (i : Int), ()) ∧ Bld h.next g h1.next (hexM (l.take i)) ∧ Old h.next h g) ?_ ?_ 32 F _ _ ⟨0, rfl, rfl, by simpa [hexM] using b2, o12⟩ (by omega)
  · rintro k s g n' ⟨i, hi, rfl, bg, og⟩
    refine .inl ?_
    have hlt : i < l.length := by omega
    have hget : l[i]? = some l[i] := List.getElem?_eq_getElem hlt
    have hbi := hb _ (List.getElem_mem hlt)
    have hlen : (hexM (l.take i)).length ≤ 64 := by rw [hexM_len, List.length_take]; omega
    obtain ⟨g1, w1, w2, w3⟩ := writeByte_spec (F := F) (n := n) bg og.next (by omega) (x := dg (l[i] / 16)) (dg_lt (by omega))
    obtain ⟨g2, w4, w5, w6⟩ := writeByte_spec (F := F) (n := n) w2 (Nat.le_trans og.next w3.next) (by rw [List.length_append, List.length_singleton]; omega) (x := dg (l[i] % 16)) (dg_lt (by omega))
    rw [← hexM_take hget] at w5
    refine ⟨_, g2, ?_, i + 1, by omega, rfl, w5, (og.trans w3).trans w6⟩
    have c1 : decide ((i : Int) < 32) = true := by rw [decide_eq_true_eq]; omega
    have i3 : IntKind.wrap .i64 ((i : Int) + 1) = ((i + 1 : Nat) : Int) := by rw [wr_i64 (by omega) (by omega)]; omega
    simp only [sha_Hex.l3, sha_Hex.c3, sha_Hex.k3, c1, cond_true, sha_Hex.r4, sha_Hex.c4, ixC_byte hl hget, bI_some, shr4, ixZ_dg (show l[i] / 16 < 16 by omega), cxC, w1, cV_some, and15 hbi, ixZ_dg (show l[i] % 16 < 16 by omega), w4, sha_Hex.r7, sha_Hex.c7, wr, i3]
  · rintro s g n' ⟨i, hi, rfl, bg, og⟩
    obtain rfl : i = 32 := by omega
    have e : l.take 32 = l := List.take_of_length_le (by omega)
    rw [e] at bg
    obtain ⟨g1, w1, w2⟩ := builderString_spec (F := F) (n := n + 1) bg (by rw [hexM_len]; omega) (by intro hh; have := hexM_len l; rw [hh] at this; simp at this; omega) (hexM_byte hb)
    refine ⟨g1, ?_, og.trans w2⟩
    have c1 : decide (((32 : Nat) : Int) < 32) = false := rfl
    simp only [sha_Hex.l3, sha_Hex.c3, sha_Hex.k3, c1, cond_false, sha_Hex.r8, sha_Hex.c8, cxC, w1, cZ_some]
    rfl

/-! ## The document's digits -/
theorem rhex_spec {F n : Nat} (hF : 40 < F) {h : AH} (hw : h.WF) {l : List Nat} (hl : l.length = 32) (hb : ∀ x ∈ l, x < 256) : ∃ h', runC (EE F) (n + 1) n_r01_Hex [.agg (byteL l)] h = some (.str (hexM l), h') ∧ Old h.next h h' := by
  rw [at_r01_Hex]
  obtain ⟨h1, e1, c1, n1, o1⟩ := box_cells hw (byteL l) T_api_Id (byteL_cell l)
  have e1' : absBox T_api_Id (.agg (byteL l)) h = some (.ptr ⟨h.next, 32, 0⟩, h1) := by rw [e1, byteL_len, hl]
  have hld : ldA 32 (.ptr ⟨h.next, 32, 0⟩) h1 = some (.agg (byteL l)) := c1.ldA (by rw [byteL_len, hl])
  have e0 : r01_Hex.fn (cx F n) (byteL l) h = r01_Hex.k2 (cx F n) (r01_Hex.r7 (cx F n) r01_Hex.ret r01_Hex.ret) r01_Hex.ret (.nilslice, byteL l, 0, ()) h1 := by
    simp only [r01_Hex.fn, r01_Hex.c0, e1', cV_some, r01_Hex.k1, r01_Hex.c2, hld, bA_some]
  rw [e0]
  show ∃ h', loopN r01_Hex.P6 F (fun t h n' => r01_Hex.l3 (cx F n) n' (r01_Hex.r7 (cx F n) r01_Hex.ret r01_Hex.ret) r01_Hex.ret t h) (.nilslice, byteL l, 0, ()) h1 = some (.str (hexM l), h') ∧ _
  refine loop_rule (S := r01_Hex.P6) (out := fun x => ∃ h', x = some (.str (hexM l), h') ∧ Old h.next h h')
    (fun k s g => ∃ (i : Nat) (v : V), i + k = 32 ∧ s = (v, byteL l, (i : Int), ()) ∧ Own h.next 1 T_uint8 g v (hexM (l.take i)).length (byteL (hexM (l.take i))) ∧ Old h.next h g) ?_ ?_ 32 F _ _ ⟨0, .nilslice, rfl, rfl, own_nil _ _ _ _, o1⟩ (by omega)
  · rintro k s g n' ⟨i, v, hi, rfl, bg, og⟩
    refine .inl ?_
    have hlt : i < l.length := by omega
    have hget : l[i]? = some l[i] := List.getElem?_eq_getElem hlt
    have hbi := hb _ (List.getElem_mem hlt)
    have hlen : (hexM (l.take i)).length ≤ 64 := by rw [hexM_len, List.length_take]; omega
    have d1 : dg (l[i] / 16) < 256 := dg_lt (by omega)
    have d2 : dg (l[i] % 16) < 256 := dg_lt (by omega)
    obtain ⟨v1, g1, w1, w2, w3⟩ := bsl_byte2 og.wf T_uint8 (dg (l[i] / 16)) (dg (l[i] % 16))
    obtain ⟨v2, g2, w4, w5, w6, _⟩ := app_bytes (bg.old og.wf w3) (w2.bs (by
      intro x hx
      simp only [List.mem_cons, List.not_mem_nil, or_false] at hx
      rcases hx with rfl | rfl <;> assumption)) w3.wf (Nat.le_trans og.next w3.next) (capW_ok (by simp only [List.length_cons, List.length_nil]; omega))
    have e2 : hexM (l.take i) ++ [dg (l[i] / 16), dg (l[i] % 16)] = hexM (l.take (i + 1)) := by rw [hexM_take hget, List.append_assoc]; rfl
    rw [e2] at w5
    refine ⟨_, g2, ?_, i + 1, v2, by omega, rfl, w5, (og.trans (w3.weak og.next)).trans w6⟩
    have c1 : decide ((i : Int) < 32) = true := by rw [decide_eq_true_eq]; omega
    have i3 : IntKind.wrap .i64 ((i : Int) + 1) = ((i + 1 : Nat) : Int) := by rw [wr_i64 (by omega) (by omega)]; omega
    have j1 : (l[i] : Int).tdiv 16 = ((l[i] / 16 : Nat) : Int) := by rw [Int.tdiv_eq_ediv_of_nonneg (by omega)]; rfl
    have j2 : (l[i] : Int).tmod 16 = ((l[i] % 16 : Nat) : Int) := by rw [Int.tmod_eq_emod_of_nonneg (by omega)]; rfl
    have j3 : IntKind.wrap .u8 ((l[i] / 16 : Nat) : Int) = ((l[i] / 16 : Nat) : Int) := by rw [wr_u8]; omega
    simp only [r01_Hex.l3, r01_Hex.c3, r01_Hex.k3, c1, cond_true, r01_Hex.r4, r01_Hex.c4, ixC_byte hl hget, bI_some, j1, j2, wr, j3, ixZ_dg (show l[i] / 16 < 16 by omega), ixZ_dg (show l[i] % 16 < 16 by omega), w1, cV_some, w4, r01_Hex.r6, r01_Hex.c6, i3]
  · rintro s g n' ⟨i, v, hi, rfl, bg, og⟩
    obtain rfl : i = 32 := by omega
    have e : l.take 32 = l := List.take_of_length_le (by omega)
    rw [e] at bg
    refine ⟨g, ?_, og⟩
    have c1 : decide (((32 : Nat) : Int) < 32) = false := rfl
    simp only [r01_Hex.l3, r01_Hex.c3, r01_Hex.k3, c1, cond_false, r01_Hex.r7, r01_Hex.c7, (bg.bs (hexM_byte hb)).toS, cZ_some]
    rfl
end Go.Proofs.YtbeohojepniioaaDoor
