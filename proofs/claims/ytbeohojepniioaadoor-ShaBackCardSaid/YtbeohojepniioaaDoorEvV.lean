/-
  Values, memory and the relation of an own machine to the model's: definitions, and how the relation is kept. No program in sight. No condition.
-/
import Derived.Test.YtbeohojepniioaaDoorEvT
namespace Go.Proofs.YtbeohojepniioaaDoor.Ev
open Go

/-- A place: block, length of the block when the reference was made, offset. -/
structure A where
  b : Nat
  L : Nat
  o : Nat

inductive V : Type where
  | bad
  | bool (b : Bool)
  | int (k : IntKind) (n : Int)
  | str (s : List Nat)
  | ptr (a : A)
  | nilptr
  | slice (a : A) (len cap : Nat) (ex : Bool) (z : Nat)
  | nilslice
  | loose
  | func (f : Nat) (first captured : List V)
  | nilFunc
  | iface (t : Nat) (v : V)
  | nilIface
  | agg (cs : List V)
  | tuple (vs : List V)

/-- A row of cells; z is what the cells that were never set hold, over and over. -/
structure Arr where
  n : Nat
  z : List V
  t : T V
namespace Arr
noncomputable def get (a : Arr) (i : Nat) : Option V := bif Nat.blt i a.n then Option.rec (a.z[Nat.mod i a.z.length]?) (fun v => some v) (a.t.get i) else none
noncomputable def set (a : Arr) (i : Nat) (x : V) : Arr := ⟨a.n, a.z, a.t.set i x⟩
noncomputable def push (a : Arr) (x : V) : Arr := ⟨Nat.succ a.n, a.z, a.t.set a.n x⟩
noncomputable def pushAll (l : List V) : Arr → Arr := List.rec (fun a => a) (fun x _ ih a => ih (a.push x)) l
def empty : Arr := ⟨0, [], .leaf⟩
noncomputable def ofList (l : List V) : Arr := pushAll l empty
def make (n : Nat) (z : List V) : Arr := ⟨n, z, .leaf⟩
theorem blt_eq (i n : Nat) : Nat.blt i n = decide (i < n) := by
  rw [Bool.eq_iff_iff]; simp [Nat.blt]; omega
theorem get_eq (a : Arr) (i : Nat) : a.get i = if i < a.n then (match a.t.get i with | some v => some v | none => a.z[i % a.z.length]?) else none := by
  have e : a.get i = bif Nat.blt i a.n then Option.rec (motive := fun _ => Option V) (a.z[i % a.z.length]?) (fun v => some v) (a.t.get i) else none := rfl
  rw [e, blt_eq]
  by_cases h : i < a.n
  · simp only [h, decide_true, cond_true, if_true]; cases a.t.get i <;> rfl
  · simp [h]
@[simp] theorem set_n (a : Arr) (i : Nat) (x : V) : (a.set i x).n = a.n := rfl
@[simp] theorem push_n (a : Arr) (x : V) : (a.push x).n = a.n + 1 := rfl
theorem get_lt {a : Arr} {i : Nat} {v : V} (h : a.get i = some v) : i < a.n := by
  rw [get_eq] at h; by_cases hi : i < a.n
  · exact hi
  · rw [if_neg hi] at h; cases h
theorem get_set (a : Arr) (i j : Nat) (x : V) : (a.set i x).get j = if j = i then (if i < a.n then some x else none) else a.get j := by
  rw [get_eq, get_eq]; unfold set; simp only [T.get_set]
  by_cases h : j = i
  · subst h; simp
  · simp [h]
theorem get_push (a : Arr) (j : Nat) (x : V) : (a.push x).get j = if j = a.n then some x else a.get j := by
  rw [get_eq, get_eq]; unfold push; simp only [T.get_set, Nat.succ_eq_add_one]
  by_cases h : j = a.n
  · subst h; simp
  · by_cases h2 : j < a.n
    · rw [if_pos (by omega), if_neg h, if_pos h2, if_neg h]
    · rw [if_neg (by omega), if_neg h, if_neg h2]
@[simp] theorem make_n (n : Nat) (z : List V) : (make n z).n = n := rfl
theorem get_make (n : Nat) (z : List V) (j : Nat) : (make n z).get j = if j < n then z[j % z.length]? else none := by
  rw [get_eq]; unfold make; simp only [T.get_leaf]
theorem pushAll_cons (x : V) (l : List V) (a : Arr) : pushAll (x :: l) a = pushAll l (a.push x) := rfl
theorem pushAll_n (l : List V) : ∀ a : Arr, (pushAll l a).n = a.n + l.length := by
  induction l with
  | nil => intro a; rfl
  | cons x l ih => intro a; rw [pushAll_cons, ih, push_n, List.length_cons]; omega
theorem get_pushAll (l : List V) : ∀ (a : Arr) (j : Nat), (pushAll l a).get j = if j < a.n then a.get j else l[j - a.n]? := by
  induction l with
  | nil =>
    intro a j
    show a.get j = _
    by_cases h : j < a.n
    · rw [if_pos h]
    · rw [if_neg h, get_eq, if_neg h]; rfl
  | cons x l ih =>
    intro a j
    rw [pushAll_cons, ih, push_n, get_push]
    by_cases h : j < a.n
    · rw [if_pos (by omega), if_pos h, if_neg (by omega)]
    · rw [if_neg h]
      by_cases h2 : j = a.n
      · subst h2; simp
      · rw [if_neg (by omega), show j - a.n = (j - (a.n + 1)) + 1 from by omega, List.getElem?_cons_succ]
@[simp] theorem ofList_n (l : List V) : (ofList l).n = l.length := by unfold ofList; rw [pushAll_n]; simp [empty]
theorem get_ofList (l : List V) (j : Nat) : (ofList l).get j = l[j]? := by
  unfold ofList; rw [get_pushAll]; simp [empty]
end Arr

/-- A block: its cells; which references are alive; how many cells at its head are frozen; may it not be written? its elements' type. -/
structure Blk where
  cells : Arr
  minL : Nat
  fz : Nat
  ro : Bool
  e : Nat

structure AH where
  next : Nat
  low : Nat
  m : T Blk
namespace AH
noncomputable def get (h : AH) (b : Nat) : Option Blk := h.m.get b
end AH

/-- Where a block lies, seen from a reference that was made at length L: the concrete block, by how much it is shifted, how many cells it has. -/
abbrev Rho := Nat → Nat → Option (Nat × Int × Nat)

def Rho.le (ρ ρ' : Rho) : Prop := ∀ b L x, ρ b L = some x → ρ' b L = some x
theorem Rho.le_refl (ρ : Rho) : ρ.le ρ := fun _ _ _ h => h
theorem Rho.le_trans {a b c : Rho} (h : a.le b) (k : b.le c) : a.le c := fun _ _ _ hx => k _ _ _ (h _ _ _ hx)

def At (ρ : Rho) (a : A) (c : Addr) : Prop := ∃ cb sh S, ρ a.b a.L = some (cb, sh, S) ∧ sh ≤ a.o ∧ c = ⟨cb, ((a.o : Int) - sh).toNat, none⟩
theorem At.mono {ρ ρ' : Rho} {a : A} {c : Addr} (h : At ρ a c) (hle : ρ.le ρ') : At ρ' a c := by
  obtain ⟨cb, sh, S, h1, h2, h3⟩ := h
  exact ⟨cb, sh, S, hle _ _ _ h1, h2, h3⟩

mutual
def R (ρ : Rho) : V → Value → Prop
  | .bad, _ => True
  | .bool b, v => v = .bool b
  | .int k n, v => v = .int k n
  | .str s, v => ∃ t : ByteArray, v = .string t ∧ t.data.toList.map UInt8.toNat = s
  | .ptr a, v => ∃ c, v = .pointer (some c) ∧ At ρ a c
  | .nilptr, v => v = .pointer none
  | .slice a n cap ex z, v => ∃ cb sh S cc, v = .slice (some ⟨cb, ((a.o : Int) - sh).toNat, none⟩) n cc ∧ ρ a.b a.L = some (cb, sh, S) ∧ sh ≤ a.o ∧ cap ≤ cc ∧ (ex = true → cc = cap) ∧ n ≤ cap ∧ ((a.o : Int) - sh).toNat + cc * z ≤ S
  | .nilslice, v => v = .slice none 0 0
  | .loose, v => ∃ c cc, v = .slice (some c) 0 cc
  | .func f fs cs, v => ∃ xs ys, v = .func (.func f) xs ys ∧ RL ρ fs xs.toList ∧ RL ρ cs ys.toList
  | .nilFunc, v => v = .nilFunc
  | .iface t x, v => ∃ y, v = .iface t y ∧ R ρ x y
  | .nilIface, v => v = .nilIface
  | .agg cs, v => ∃ xs, v = .agg xs ∧ RL ρ cs xs.toList
  | .tuple cs, v => ∃ xs, v = .tuple xs ∧ RL ρ cs xs.toList
def RL (ρ : Rho) : List V → List Value → Prop
  | [], ys => ys = []
  | x :: xs, ys => ∃ z zs, ys = z :: zs ∧ R ρ x z ∧ RL ρ xs zs
end

theorem RL_cons {ρ : Rho} {x : V} {xs : List V} {y : Value} {ys : List Value} : RL ρ (x :: xs) (y :: ys) ↔ R ρ x y ∧ RL ρ xs ys := by
  constructor
  · rintro ⟨z, zs, h, h1, h2⟩
    cases h
    exact ⟨h1, h2⟩
  · rintro ⟨h1, h2⟩
    exact ⟨_, _, rfl, h1, h2⟩
theorem RL_nil {ρ : Rho} : RL ρ [] [] := rfl
theorem RL.length {ρ : Rho} : ∀ {xs : List V} {ys : List Value}, RL ρ xs ys → xs.length = ys.length := by
  intro xs
  induction xs with
  | nil => intro ys h; rw [show ys = [] from h]; rfl
  | cons x xs ih =>
    rintro ys ⟨z, zs, rfl, _, h⟩
    simp [ih h]
theorem RL.get {ρ : Rho} : ∀ {xs : List V} {ys : List Value}, RL ρ xs ys → ∀ {i : Nat} {x : V}, xs[i]? = some x → ∃ y, ys[i]? = some y ∧ R ρ x y := by
  intro xs
  induction xs with
  | nil => intro ys h i x hx; simp at hx
  | cons x xs ih =>
    rintro ys ⟨z, zs, rfl, hz, h⟩ i x' hx
    cases i with
    | zero => simp at hx; subst hx; exact ⟨z, by simp, hz⟩
    | succ i => simp at hx; obtain ⟨y, h1, h2⟩ := ih h hx; exact ⟨y, by simpa using h1, h2⟩
theorem RL.of_get {ρ : Rho} : ∀ {xs : List V} {ys : List Value}, xs.length = ys.length → (∀ (i : Nat) (x : V) (y : Value), xs[i]? = some x → ys[i]? = some y → R ρ x y) → RL ρ xs ys := by
  intro xs
  induction xs with
  | nil => intro ys h _; exact List.length_eq_zero_iff.1 h.symm
  | cons x xs ih =>
    intro ys h hg
    cases ys with
    | nil => simp at h
    | cons y ys =>
      refine ⟨y, ys, rfl, hg 0 x y (by simp) (by simp), ih (by simpa using h) (fun i a b ha hb => hg (i + 1) a b (by simpa using ha) (by simpa using hb))⟩
theorem RL.append {ρ : Rho} : ∀ {xs : List V} {ys : List Value} {xs' : List V} {ys' : List Value}, RL ρ xs ys → RL ρ xs' ys' → RL ρ (xs ++ xs') (ys ++ ys') := by
  intro xs
  induction xs with
  | nil => intro ys xs' ys' h h'; rw [show ys = [] from h]; exact h'
  | cons x xs ih =>
    rintro ys xs' ys' ⟨z, zs, rfl, hz, h⟩ h'
    exact ⟨z, zs ++ ys', rfl, hz, ih h h'⟩
theorem RL.replicate {ρ : Rho} {x : V} {y : Value} (h : R ρ x y) (n : Nat) : RL ρ (List.replicate n x) (List.replicate n y) := by
  induction n with
  | zero => exact rfl
  | succ n ih => exact ⟨_, _, rfl, h, ih⟩
theorem RL.take {ρ : Rho} : ∀ {xs : List V} {ys : List Value}, RL ρ xs ys → ∀ n, RL ρ (xs.take n) (ys.take n) := by
  intro xs
  induction xs with
  | nil => intro ys h n; rw [show ys = [] from h]; simp; exact rfl
  | cons x xs ih =>
    rintro ys ⟨z, zs, rfl, hz, h⟩ n
    cases n with
    | zero => exact rfl
    | succ n => exact ⟨z, zs.take n, rfl, hz, ih h n⟩
theorem RL.drop {ρ : Rho} : ∀ {xs : List V} {ys : List Value}, RL ρ xs ys → ∀ n, RL ρ (xs.drop n) (ys.drop n) := by
  intro xs
  induction xs with
  | nil => intro ys h n; rw [show ys = [] from h]; simp; exact rfl
  | cons x xs ih =>
    rintro ys ⟨z, zs, rfl, hz, h⟩ n
    cases n with
    | zero => exact ⟨z, zs, rfl, hz, h⟩
    | succ n => exact ih h n

mutual
theorem R.mono {ρ ρ' : Rho} (hle : ρ.le ρ') : ∀ {v : V} {c : Value}, R ρ v c → R ρ' v c
  | .bad, _, h => h
  | .bool _, _, h => h
  | .int _ _, _, h => h
  | .str _, _, h => h
  | .ptr _, _, ⟨c, h1, h2⟩ => ⟨c, h1, h2.mono hle⟩
  | .nilptr, _, h => h
  | .slice .., _, ⟨cb, sh, S, cc, h1, h2, h3⟩ => ⟨cb, sh, S, cc, h1, hle _ _ _ h2, h3⟩
  | .nilslice, _, h => h
  | .loose, _, h => h
  | .func .., _, ⟨xs, ys, h1, h2, h3⟩ => ⟨xs, ys, h1, RL.mono hle h2, RL.mono hle h3⟩
  | .nilFunc, _, h => h
  | .iface .., _, ⟨y, h1, h2⟩ => ⟨y, h1, R.mono hle h2⟩
  | .nilIface, _, h => h
  | .agg _, _, ⟨xs, h1, h2⟩ => ⟨xs, h1, RL.mono hle h2⟩
  | .tuple _, _, ⟨xs, h1, h2⟩ => ⟨xs, h1, RL.mono hle h2⟩
theorem RL.mono {ρ ρ' : Rho} (hle : ρ.le ρ') : ∀ {vs : List V} {cs : List Value}, RL ρ vs cs → RL ρ' vs cs
  | [], _, h => h
  | _ :: _, _, ⟨z, zs, h1, h2, h3⟩ => ⟨z, zs, h1, R.mono hle h2, RL.mono hle h3⟩
end

/-- What a concrete block holds of a block, seen from references of length L. -/
def BlkOK (ρ : Rho) (k : Blk) (L cb : Nat) (sh : Int) (S : Nat) (w : World) : Prop :=
  ∃ c lo hi, w.heap[cb]? = some (.cells c k.e (lo, hi)) ∧ c.size = S ∧ ((L : Int) - sh).toNat ≤ S ∧ (∀ (j : Nat) v, sh ≤ j → j < L → k.cells.get j = some v → ∃ u, c[((j : Int) - sh).toNat]? = some u ∧ R ρ v u) ∧
    (k.ro = false → (∀ (i : Nat), (k.fz : Int) ≤ i + sh → i < S → ¬ (lo ≤ i ∧ i < hi)) ∧ lo ≤ hi ∧ 0 ≤ sh)
theorem BlkOK.mono {ρ ρ' : Rho} {k : Blk} {L cb : Nat} {sh : Int} {S : Nat} {w w' : World} (h : BlkOK ρ k L cb sh S w) (hle : ρ.le ρ') (hw : w'.heap[cb]? = w.heap[cb]?) : BlkOK ρ' k L cb sh S w' := by
  obtain ⟨c, lo, hi, h1, h2, h3, h4, h5⟩ := h
  exact ⟨c, lo, hi, hw.trans h1, h2, h3, fun j v hj hL hg => let ⟨u, hu, hR⟩ := h4 j v hj hL hg; ⟨u, hu, hR.mono hle⟩, h5⟩

/-- The memories fit. -/
structure HR (ρ : Rho) (h : AH) (w : World) : Prop where
  fresh : ∀ b L x, ρ b L = some x → b < h.next
  lives : ∀ b k, h.get b = some k → b < h.next
  bound : ∀ b L cb x, ρ b L = some (cb, x) → cb < w.heap.size
  inj : ∀ b L b' L' cb x x' k, ρ b L = some (cb, x) → ρ b' L' = some (cb, x') → h.get b = some k → k.ro = false → b = b' ∧ x = x'
  top : ∀ b k L x, h.get b = some k → ρ b L = some x → L ≤ k.cells.n
  blk : ∀ b k L cb sh S, h.get b = some k → ρ b L = some (cb, sh, S) → k.minL ≤ L → BlkOK ρ k L cb sh S w

/-- A concrete block that a block that may be written owns. -/
def Owned (ρ : Rho) (h : AH) (i : Nat) : Prop := ∃ b L x k, ρ b L = some (i, x) ∧ h.get b = some k ∧ k.ro = false

/-- What a step keeps. -/
structure Step (ρ : Rho) (h : AH) (w : World) (ρ' : Rho) (h' : AH) (w' : World) : Prop where
  le : ρ.le ρ'
  cons : ∀ b L cb x, ρ' b L = some (cb, x) → cb < w.heap.size → ∃ L0 x0, ρ b L0 = some (cb, x0)
  ro : ∀ b k', h'.get b = some k' → b < h.next → ∃ k, h.get b = some k ∧ k'.ro = k.ro
  next : h.next ≤ h'.next
  os : w'.os = w.os
  tape : w'.tape = w.tape
  output : w'.output = w.output
  size : w.heap.size ≤ w'.heap.size
  keep : ∀ i, i < w.heap.size → ¬ Owned ρ h i → w'.heap[i]? = w.heap[i]?
  lowle : h'.low ≤ h.low
  quiet : ∀ b, b < h'.low → b < h.next → h'.get b = h.get b

theorem Step.refl (ρ : Rho) (h : AH) (w : World) : Step ρ h w ρ h w :=
  ⟨Rho.le_refl ρ, fun _ L _ sh hx _ => ⟨L, sh, hx⟩, fun _ k' hk _ => ⟨k', hk, rfl⟩, Nat.le_refl _, rfl, rfl, rfl, Nat.le_refl _, fun _ _ _ => rfl, Nat.le_refl _, fun _ _ _ => rfl⟩

theorem Step.trans {ρ ρ' ρ'' : Rho} {h h' h'' : AH} {w w' w'' : World} (hr : HR ρ h w) (a : Step ρ h w ρ' h' w') (b : Step ρ' h' w' ρ'' h'' w'') : Step ρ h w ρ'' h'' w'' where
  le := Rho.le_trans a.le b.le
  cons := fun x L cb sh hx hlt => by
    obtain ⟨L0, sh0, h0⟩ := b.cons x L cb sh hx (Nat.lt_of_lt_of_le hlt a.size)
    exact a.cons x L0 cb sh0 h0 hlt
  ro := fun x k'' hk hx => by
    obtain ⟨k', hk', e'⟩ := b.ro x k'' hk (Nat.lt_of_lt_of_le hx a.next)
    obtain ⟨k, hk0, e⟩ := a.ro x k' hk' hx
    exact ⟨k, hk0, e'.trans e⟩
  next := Nat.le_trans a.next b.next
  os := b.os.trans a.os
  tape := b.tape.trans a.tape
  output := b.output.trans a.output
  size := Nat.le_trans a.size b.size
  keep := fun i hi hn => by
    refine (b.keep i (Nat.lt_of_lt_of_le hi a.size) ?_).trans (a.keep i hi hn)
    rintro ⟨x, L, sh, k', hx, hk', hro⟩
    obtain ⟨L0, sh0, h0⟩ := a.cons x L i sh hx hi
    obtain ⟨k, hk, e⟩ := a.ro x k' hk' (hr.fresh _ _ _ h0)
    exact hn ⟨x, L0, sh0, k, h0, hk, by rw [← e]; exact hro⟩
  lowle := Nat.le_trans b.lowle a.lowle
  quiet := fun x hx hn => (b.quiet x hx (Nat.lt_of_lt_of_le hn a.next)).trans (a.quiet x (Nat.lt_of_lt_of_le hx b.lowle) hn)
end Go.Proofs.YtbeohojepniioaaDoor.Ev
