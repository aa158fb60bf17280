/-
  The plain law: both ways through a block reckon the same. No program in sight.
-/
import Derived.Test.YtbeohojepniioaaDoorShaModel
namespace Go.Proofs.YtbeohojepniioaaDoor
open Go

def InW (x : Int) : Prop := 0 ≤ x ∧ x < 4294967296
def InB (x : Int) : Prop := 0 ≤ x ∧ x < 256
theorem wrap32 (n : Int) : IntKind.wrap .u32 n = n % 4294967296 := by
  have h : (2 : Int) ^ (IntKind.bits .u32) = 4294967296 := by decide
  have hs : IntKind.signed .u32 = false := rfl
  unfold IntKind.wrap
  rw [hs, h]
  simp
theorem wrap_in (n : Int) : InW (IntKind.wrap .u32 n) := by
  rw [wrap32]
  exact ⟨by omega, by omega⟩
theorem ad_in (a b : Int) : InW (ad a b) := wrap_in _
theorem xo_in (a b : Int) : InW (xo a b) := wrap_in _
theorem an_in (a b : Int) : InW (an a b) := wrap_in _
theorem orr_in (a b : Int) : InW (orr a b) := wrap_in _
theorem no_in (a : Int) : InW (no a) := wrap_in _
theorem sl_in (a : Int) (n : Nat) : InW (sl a n) := wrap_in _
theorem bv_of {x : Int} (h : InW x) : ∃ b : BitVec 32, x = (b.toNat : Int) := by
  refine ⟨BitVec.ofInt 32 x, ?_⟩
  rw [BitVec.toNat_ofInt]
  obtain ⟨h1, h2⟩ := h
  have : x % ((2 ^ 32 : Nat) : Int) = x := Int.emod_eq_of_lt h1 (by simpa using h2)
  rw [this, Int.toNat_of_nonneg h1]
theorem ofInt_toNat (b : BitVec 32) : BitVec.ofInt 32 (b.toNat : Int) = b := by
  apply BitVec.eq_of_toNat_eq
  rw [BitVec.toNat_ofInt]
  have h : (b.toNat : Int) % ((2 ^ 32 : Nat) : Int) = b.toNat := Int.emod_eq_of_lt (by omega) (by have := b.isLt; omega)
  rw [h]; simp
theorem wrap_bv (b : BitVec 32) : IntKind.wrap .u32 (b.toNat : Int) = b.toNat := by
  rw [wrap32]
  exact Int.emod_eq_of_lt (by omega) (by have := b.isLt; omega)
theorem ad_bv (a b : BitVec 32) : ad a.toNat b.toNat = ((a + b).toNat : Int) := by
  unfold ad
  rw [wrap32, BitVec.toNat_add]
  simp
theorem xo_bv (a b : BitVec 32) : xo a.toNat b.toNat = ((a ^^^ b).toNat : Int) := by unfold xo; rw [ofInt_toNat, ofInt_toNat, wrap_bv]
theorem an_bv (a b : BitVec 32) : an a.toNat b.toNat = ((a &&& b).toNat : Int) := by unfold an; rw [ofInt_toNat, ofInt_toNat, wrap_bv]
theorem orr_bv (a b : BitVec 32) : orr a.toNat b.toNat = ((a ||| b).toNat : Int) := by unfold orr; rw [ofInt_toNat, ofInt_toNat, wrap_bv]
theorem no_bv (a : BitVec 32) : no a.toNat = ((~~~ a).toNat : Int) := by
  unfold no
  have h : BitVec.ofInt 32 4294967295 = BitVec.allOnes 32 := by decide
  rw [ofInt_toNat, h, BitVec.allOnes_xor, wrap_bv]
theorem sl_bv (a : BitVec 32) (n : Nat) : sl a.toNat n = ((a <<< n).toNat : Int) := by
  unfold sl
  rw [wrap32, BitVec.toNat_shiftLeft, Nat.shiftLeft_eq]
  have h : (2 ^ 32 : Nat) = 4294967296 := by decide
  rw [h, Int.natCast_emod, Int.natCast_mul, Int.natCast_pow]
  rfl
theorem sr_bv (a : BitVec 32) (n : Nat) : sr a.toNat n = ((a >>> n).toNat : Int) := by
  unfold sr
  rw [BitVec.toNat_ushiftRight, Nat.shiftRight_eq_div_pow, Int.fdiv_eq_ediv_of_nonneg _ (Int.pow_nonneg (by decide))]
  push_cast
  rfl
theorem sr_in {a : Int} (h : InW a) (n : Nat) : InW (sr a n) := by
  obtain ⟨b, rfl⟩ := bv_of h
  rw [sr_bv]
  exact ⟨by omega, by have := (b >>> n).isLt; omega⟩
theorem rot_rgt {x : Int} (h : InW x) (n m : Nat) (hn : n + m = 32) (h0 : 0 < n) (h1 : 0 < m) : rot x m = rgt x n := by
  obtain ⟨b, rfl⟩ := bv_of h
  unfold rot rgt
  have e1 : 32 - m = n := by omega
  have e2 : 32 - n = m := by omega
  rw [e1, e2, sl_bv, sr_bv, orr_bv, ad_bv]
  congr 2
  rw [BitVec.add_comm]
  symm
  apply BitVec.add_eq_or_of_and_eq_zero
  ext i hi
  simp only [BitVec.getElem_and, BitVec.getElem_shiftLeft, BitVec.getElem_ushiftRight, BitVec.getElem_zero]
  by_cases him : i < m
  · simp [him]
  · have : 32 ≤ n + i := by omega
    simp [BitVec.getLsbD_of_ge _ _ this]
theorem rot_in (x : Int) (n : Nat) : InW (rot x n) := orr_in _ _
theorem ch_eq {a b c : Int} (h1 : InW a) (h2 : InW b) (h3 : InW c) : orr (an a b) (an (no a) c) = xo (an a b) (an (no a) c) := by
  obtain ⟨a, rfl⟩ := bv_of h1
  obtain ⟨b, rfl⟩ := bv_of h2
  obtain ⟨c, rfl⟩ := bv_of h3
  rw [no_bv, an_bv, an_bv, orr_bv, xo_bv]
  congr 2
  ext i hi
  simp only [BitVec.getElem_or, BitVec.getElem_and, BitVec.getElem_xor, BitVec.getElem_not]
  cases a[i] <;> simp
theorem ad_swap (a b c d : Int) : ad (ad (ad a b) c) d = ad (ad (ad a c) b) d := by
  unfold ad
  simp only [wrap32]
  omega
theorem word_eq {p q r s : Int} (hp : InB p) (hq : InB q) (hr : InB r) (hs : InB s) : orr (orr (orr (sl (w32 p) 24) (sl (w32 q) 16)) (sl (w32 r) 8)) (w32 s) = ad (ad (ad (sl (w32 p) 24) (sl (w32 q) 16)) (sl (w32 r) 8)) (w32 s) := by
  have cv : ∀ {x : Int}, InB x → ∃ b : BitVec 8, w32 x = ((b.zeroExtend 32).toNat : Int) := by
    intro x ⟨h1, h2⟩
    refine ⟨BitVec.ofNat 8 x.toNat, ?_⟩
    unfold w32
    rw [wrap32]
    simp only [BitVec.truncate_eq_setWidth, BitVec.toNat_setWidth, BitVec.toNat_ofNat]
    omega
  obtain ⟨p, hp⟩ := cv hp
  obtain ⟨q, hq⟩ := cv hq
  obtain ⟨r, hr⟩ := cv hr
  obtain ⟨s, hs⟩ := cv hs
  rw [hp, hq, hr, hs]
  simp only [sl_bv, orr_bv, ad_bv]
  congr 2
  have low : ∀ (x : BitVec 8) (i : Nat), 8 ≤ i → (x.zeroExtend 32).getLsbD i = false := by
    intro x i hi
    simp only [BitVec.truncate_eq_setWidth, BitVec.getLsbD_setWidth]
    simp [BitVec.getLsbD_of_ge x i hi]
  have s1 : BitVec.zeroExtend 32 p <<< 24 + BitVec.zeroExtend 32 q <<< 16 = BitVec.zeroExtend 32 p <<< 24 ||| BitVec.zeroExtend 32 q <<< 16 := by
    apply BitVec.add_eq_or_of_and_eq_zero
    apply BitVec.eq_of_getLsbD_eq
    intro i hi
    simp only [BitVec.getLsbD_and, BitVec.getLsbD_shiftLeft, BitVec.getLsbD_zero]
    by_cases h : i < 24
    · simp [h]
    · rw [low q (i - 16) (by omega)]; simp
  have s2 : (BitVec.zeroExtend 32 p <<< 24 ||| BitVec.zeroExtend 32 q <<< 16) + BitVec.zeroExtend 32 r <<< 8 = BitVec.zeroExtend 32 p <<< 24 ||| BitVec.zeroExtend 32 q <<< 16 ||| BitVec.zeroExtend 32 r <<< 8 := by
    apply BitVec.add_eq_or_of_and_eq_zero
    apply BitVec.eq_of_getLsbD_eq
    intro i hi
    simp only [BitVec.getLsbD_and, BitVec.getLsbD_or, BitVec.getLsbD_shiftLeft, BitVec.getLsbD_zero]
    by_cases h : i < 16
    · have : i < 24 := by omega
      simp [h, this]
    · rw [low r (i - 8) (by omega)]; simp
  have s3 : (BitVec.zeroExtend 32 p <<< 24 ||| BitVec.zeroExtend 32 q <<< 16 ||| BitVec.zeroExtend 32 r <<< 8) + BitVec.zeroExtend 32 s = BitVec.zeroExtend 32 p <<< 24 ||| BitVec.zeroExtend 32 q <<< 16 ||| BitVec.zeroExtend 32 r <<< 8 ||| BitVec.zeroExtend 32 s := by
    apply BitVec.add_eq_or_of_and_eq_zero
    apply BitVec.eq_of_getLsbD_eq
    intro i hi
    simp only [BitVec.getLsbD_and, BitVec.getLsbD_or, BitVec.getLsbD_shiftLeft, BitVec.getLsbD_zero]
    by_cases h : i < 8
    · have h1 : i < 24 := by omega
      have h2 : i < 16 := by omega
      simp [h, h1, h2]
    · rw [low s i (by omega)]; simp
  rw [s1, s2, s3]

/-! ## Lists -/
theorem word_list {b : List Int} (h : ∀ x ∈ b, InB x) : word b = wordB b := by
  unfold word wordB
  split
  · rename_i p q r s
    rw [word_eq (h p (by simp)) (h q (by simp)) (h r (by simp)) (h s (by simp))]
  · rfl
theorem words_list : ∀ (n : Nat) (b acc : List Int), (∀ x ∈ b, InB x) → words n b acc = wordsB n b acc := by
  intro n
  induction n with
  | zero => intro b acc _; rfl
  | succ n ih =>
    intro b acc h
    show words n (b.drop 4) (word (b.take 4) ++ acc) = wordsB n (b.drop 4) (wordB (b.take 4) ++ acc)
    rw [word_list (fun x hx => h x (List.mem_of_mem_take hx)), ih _ _ (fun x hx => h x (List.mem_of_mem_drop hx))]
theorem wordB_in (b : List Int) : ∀ x ∈ wordB b, InW x := by
  intro x hx
  unfold wordB at hx
  split at hx
  · simp only [List.mem_singleton] at hx; subst hx; exact ad_in _ _
  · simp at hx
theorem wordsB_in : ∀ (n : Nat) (b acc : List Int), (∀ x ∈ acc, InW x) → ∀ x ∈ wordsB n b acc, InW x := by
  intro n
  induction n with
  | zero => intro b acc h; exact h
  | succ n ih =>
    intro b acc h
    refine ih _ _ ?_
    intro x hx
    rcases List.mem_append.1 hx with hx | hx
    · exact wordB_in _ x hx
    · exact h x hx
theorem getD_in {l : List Int} (h : ∀ x ∈ l, InW x) (i : Nat) : InW (l.getD i 0) := by
  rw [List.getD_eq_getElem?_getD]
  cases hi : l[i]? with
  | none => exact ⟨by simp, by simp⟩
  | some x => exact h x (List.mem_of_getElem? hi)
theorem more1_eq {r : List Int} (h : ∀ x ∈ r, InW x) : more1 r = moreB1 r := by
  unfold more1 moreB1
  simp only
  rw [rot_rgt (getD_in h 14) 7 25 rfl (by decide) (by decide), rot_rgt (getD_in h 14) 18 14 rfl (by decide) (by decide), rot_rgt (getD_in h 1) 17 15 rfl (by decide) (by decide), rot_rgt (getD_in h 1) 19 13 rfl (by decide) (by decide), ad_swap]
theorem more_eq : ∀ (n : Nat) (r : List Int), (∀ x ∈ r, InW x) → more n r = moreB n r := by
  intro n
  induction n with
  | zero => intro r _; rfl
  | succ n ih =>
    intro r h
    show more n (more1 r :: r) = moreB n (moreB1 r :: r)
    rw [more1_eq h]
    refine ih _ ?_
    intro x hx
    rcases List.mem_cons.1 hx with rfl | hx
    · exact ad_in _ _
    · exact h x hx
structure S8.In (s : S8) : Prop where
  a : InW s.a
  b : InW s.b
  c : InW s.c
  d : InW s.d
  e : InW s.e
  f : InW s.f
  g : InW s.g
  h : InW s.h
theorem u_eq {s : S8} (hs : s.In) (k w : Int) : uOf s k w = uOfB s k w := by
  unfold uOf uOfB
  rw [rot_rgt hs.e 6 26 rfl (by decide) (by decide), rot_rgt hs.e 11 21 rfl (by decide) (by decide), rot_rgt hs.e 25 7 rfl (by decide) (by decide), ch_eq hs.e hs.f hs.g]
theorem v_eq {s : S8} (hs : s.In) : vOf s = vOfB s := by
  unfold vOf vOfB
  rw [rot_rgt hs.a 2 30 rfl (by decide) (by decide), rot_rgt hs.a 13 19 rfl (by decide) (by decide), rot_rgt hs.a 22 10 rfl (by decide) (by decide)]
theorem round_eq {s : S8} (hs : s.In) (k w : Int) : round s k w = roundB s k w := by
  unfold round roundB
  rw [u_eq hs, v_eq hs]
theorem roundB_in {s : S8} (hs : s.In) (k w : Int) : (roundB s k w).In := ⟨ad_in _ _, hs.a, hs.b, hs.c, ad_in _ _, hs.e, hs.f, hs.g⟩
theorem rounds_eq : ∀ (ks ws : List Int) (s : S8), s.In → rounds ks ws s = roundsB ks ws s := by
  intro ks
  induction ks with
  | nil => intro ws s _; rfl
  | cons k ks ih =>
    intro ws s hs
    cases ws with
    | nil => rfl
    | cons w ws =>
      show rounds ks ws (round s k w) = roundsB ks ws (roundB s k w)
      rw [round_eq hs, ih _ _ (roundB_in hs k w)]
theorem s8_in {l : List Int} (h : ∀ x ∈ l, InW x) : (s8 l).In := ⟨getD_in h 0, getD_in h 1, getD_in h 2, getD_in h 3, getD_in h 4, getD_in h 5, getD_in h 6, getD_in h 7⟩
/-- BOTH WAYS ARE ONE. -/
theorem block_eq {ks hs bs : List Int} (h1 : ∀ x ∈ hs, InW x) (h2 : ∀ x ∈ bs, InB x) : blockA ks hs bs = blockB ks hs bs := by
  unfold blockA blockB
  rw [words_list 16 bs [] h2, more_eq 48 _ (wordsB_in 16 bs [] (fun x hx => by simp at hx)), rounds_eq _ _ _ (s8_in h1)]
theorem blockB_in (ks hs bs : List Int) : ∀ x ∈ blockB ks hs bs, InW x := by
  intro x hx
  unfold blockB addS at hx
  simp only [List.mem_cons, List.not_mem_nil, or_false] at hx
  rcases hx with rfl | rfl | rfl | rfl | rfl | rfl | rfl | rfl <;> exact ad_in _ _
end Go.Proofs.YtbeohojepniioaaDoor
