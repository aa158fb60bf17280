/-
  Part of a proof, written in a short hand by a program of this workplace. No condition.
-/
import Derived.WalkKit
import Derived.MapKept
import Derived.LaidEql
import Derived.Lib.UnsafeStr
import Derived.Lib.Builder
import Derived.Lib.BytesEntry
import Derived.Orders
import Derived.RangeFuncRecord
import Derived.RangeFuncLeaves
import Derived.LoopNIn
import Derived.OrdersIn
import Derived.ProofKit
import Derived.OpenShut
import Derived.Deep.DeepHandedRow
import Derived.Lib.LaidTab
import Derived.Below
import GoSem.Extern.MapsClone
import Derived.Sort.KeysCollected
import Derived.Maps.Own
import Derived.Lib.SlMapMerge
import Derived.ChangeSlices
import Derived.WideKeyArgs
import Derived.SizedLaws
import Derived.Test.YtcphjmgfgfjnpaaGreatDoorProg
import Derived.Test.YtcphjmgfgfjnpaaGreatDoorRows
import Derived.JoinedCond
import Derived.Test.YtcphjmgfgfjnpaaGreatDoorChecked
import Derived.Test.YtcphjmgfgfjnpaaGreatDoorCards
import Derived.Test.YtcphjmgfgfjnpaaGreatDoorTie
import Derived.Lay
set_option linter.unusedVariables false
set_option linter.unusedSimpArgs false
namespace Go.Proofs.YtcphjmgfgfjnpaaGreatDoor.Ev
open Go
inductive T (α : Type) : Type where
  | leaf
  | node (l : T α) (v : Option α) (r : T α)
noncomputable def bitsF (f : Nat) : Nat → List Bool :=
  Nat.rec (fun _ => []) (fun _ ih n => Bool.rec (Nat.beq (Nat.mod n 2) 1 :: ih (Nat.div n 2)) [] (Nat.ble n 1)) f
noncomputable def path (i : Nat) : List Bool := bitsF (Nat.succ i) (Nat.succ i)
theorem bitsF_zero (n : Nat) : bitsF 0 n = [] := rfl
theorem bitsF_succ (f n : Nat) : bitsF (f + 1) n = bif Nat.ble n 1 then [] else Nat.beq (n % 2) 1 :: bitsF f (n / 2) := by
  have h : bitsF (f + 1) n = Bool.rec (motive := fun _ => List Bool) (Nat.beq (Nat.mod n 2) 1 :: bitsF f (Nat.div n 2)) [] (Nat.ble n 1) := rfl
  rw [h]
  cases Nat.ble n 1 <;> rfl
theorem bitsF_inj : ∀ (f g n m : Nat), 1 ≤ n → 1 ≤ m → n ≤ f → m ≤ g → bitsF f n = bitsF g m → n = m := by
  intro f
  induction f with
  | zero => intro g n m h1 _ h2; omega
  | succ f ih =>
    intro g n m hn hm hf hg h
    cases g with
    | zero => omega
    | succ g =>
      rw [bitsF_succ, bitsF_succ] at h
      by_cases h1 : n ≤ 1 <;> by_cases h2 : m ≤ 1
      · omega
      · rw [Nat.ble_eq_true_of_le h1, show Nat.ble m 1 = false from by cases h : Nat.ble m 1; rfl; exact absurd (Nat.le_of_ble_eq_true h) h2] at h
        cases h
      · rw [Nat.ble_eq_true_of_le h2, show Nat.ble n 1 = false from by cases h : Nat.ble n 1; rfl; exact absurd (Nat.le_of_ble_eq_true h) h1] at h
        cases h
      · rw [show Nat.ble m 1 = false from by cases h : Nat.ble m 1; rfl; exact absurd (Nat.le_of_ble_eq_true h) h2,
          show Nat.ble n 1 = false from by cases h : Nat.ble n 1; rfl; exact absurd (Nat.le_of_ble_eq_true h) h1] at h
        simp only [cond_false, List.cons.injEq] at h
        have := ih g (n / 2) (m / 2) (by omega) (by omega) (by omega) (by omega) h.2
        have hb : (n % 2 = 1) ↔ (m % 2 = 1) := by
          have h1 := h.1
          rw [Bool.eq_iff_iff] at h1
          simpa using h1
        omega
theorem path_inj {i j : Nat} (h : path i = path j) : i = j := by
  have := bitsF_inj (i + 1) (j + 1) (i + 1) (j + 1) (by omega) (by omega) (by omega) (by omega) h
  omega
namespace T
variable {α : Type}
noncomputable def getP (p : List Bool) : T α → Option α :=
  List.rec (fun t => T.rec none (fun _ v _ _ _ => v) t)
    (fun b _ ih t => T.rec none (fun l _ r _ _ => Bool.rec (ih l) (ih r) b) t) p
noncomputable def setP (p : List Bool) : T α → α → T α :=
  List.rec (fun t x => T.rec (.node .leaf (some x) .leaf) (fun l _ r _ _ => .node l (some x) r) t)
    (fun b _ ih t x => T.rec (Bool.rec (.node (ih .leaf x) none .leaf) (.node .leaf none (ih .leaf x)) b) (fun l v r _ _ => Bool.rec (.node (ih l x) v r) (.node l v (ih r x)) b) t) p
theorem getP_leaf (p : List Bool) : getP p (.leaf : T α) = none := by cases p <;> rfl
theorem getP_nil (l r : T α) (v : Option α) : getP [] (.node l v r) = v := rfl
theorem getP_cons (b : Bool) (p : List Bool) (l r : T α) (v : Option α) : getP (b :: p) (.node l v r) = bif b then getP p r else getP p l := by cases b <;> rfl
theorem getP_set_same (p : List Bool) : ∀ (t : T α) (x : α), getP p (setP p t x) = some x := by
  induction p with
  | nil => intro t x; cases t <;> rfl
  | cons b p ih => intro t x; cases t <;> cases b <;> exact ih _ _
theorem getP_set_other (p : List Bool) : ∀ (q : List Bool) (t : T α) (x : α), p ≠ q → getP q (setP p t x) = getP q t := by
  induction p with
  | nil =>
    intro q t x h
    cases q with
    | nil => exact absurd rfl h
    | cons c q => cases t <;> cases c <;> first | rfl | (exact getP_leaf q)
  | cons b p ih =>
    intro q t x h
    cases q with
    | nil => cases t <;> cases b <;> rfl
    | cons c q =>
      cases t <;> cases b <;> cases c <;> first
        | rfl
        | exact getP_leaf q
        | exact (ih q _ x (fun e => h (by rw [e])))
        | exact (ih q _ x (fun e => h (by rw [e]))).trans (getP_leaf q)
noncomputable def get (t : T α) (i : Nat) : Option α := getP (path i) t
noncomputable def set (t : T α) (i : Nat) (x : α) : T α := setP (path i) t x
theorem get_leaf (i : Nat) : (leaf : T α).get i = none := getP_leaf _
theorem get_set (t : T α) (i j : Nat) (x : α) : (t.set i x).get j = if j = i then some x else t.get j := by
  by_cases h : j = i
  · subst h; rw [if_pos rfl]; exact getP_set_same _ _ _
  · rw [if_neg h]; exact getP_set_other _ _ _ _ (fun e => h (path_inj e).symm)
end T
end Go.Proofs.YtcphjmgfgfjnpaaGreatDoor.Ev
namespace Go.Proofs.YtcphjmgfgfjnpaaGreatDoor.Ev
open Go
structure A where
  b : Nat
  L : Nat
  o : Nat
inductive V : Type where
  | bad
  | bool (b : Bool)
  | int (k : IntKind) (n : Int)
  | str (s : List Nat)
  | ptr (a : A)
  | nilptr
  | slice (a : A) (len cap : Nat) (ex : Bool) (z : Nat)
  | nilslice
  | loose
  | func (f : Nat) (first captured : List V)
  | nilFunc
  | iface (t : Nat) (v : V)
  | nilIface
  | agg (cs : List V)
  | tuple (vs : List V)
  | mapv (b : Nat)
  | nilmap
  | complex (k : FloatKind) (re im : Nat)
  | float (k : FloatKind) (bits : Nat)
  | yield (b : Nat)
  | rcd (f : FuncId) (ps : Array Tmp) (assign body : Code)
structure Arr where
  n : Nat
  z : List V
  t : T V
namespace Arr
noncomputable def get (a : Arr) (i : Nat) : Option V := bif Nat.blt i a.n then Option.rec (a.z[Nat.mod i a.z.length]?) (fun v => some v) (a.t.get i) else none
noncomputable def set (a : Arr) (i : Nat) (x : V) : Arr := ⟨a.n, a.z, a.t.set i x⟩
noncomputable def push (a : Arr) (x : V) : Arr := ⟨Nat.succ a.n, a.z, a.t.set a.n x⟩
noncomputable def pushAll (l : List V) : Arr → Arr := List.rec (fun a => a) (fun x _ ih a => ih (a.push x)) l
def empty : Arr := ⟨0, [], .leaf⟩
noncomputable def ofList (l : List V) : Arr := pushAll l empty
def make (n : Nat) (z : List V) : Arr := ⟨n, z, .leaf⟩
theorem blt_eq (i n : Nat) : Nat.blt i n = decide (i < n) := by
  rw [Bool.eq_iff_iff]; simp [Nat.blt]; omega
theorem get_eq (a : Arr) (i : Nat) : a.get i = if i < a.n then (match a.t.get i with | some v => some v | none => a.z[i % a.z.length]?) else none := by
  have e : a.get i = bif Nat.blt i a.n then Option.rec (motive := fun _ => Option V) (a.z[i % a.z.length]?) (fun v => some v) (a.t.get i) else none := rfl
  rw [e, blt_eq]
  by_cases h : i < a.n
  · simp only [h, decide_true, cond_true, if_true]; cases a.t.get i <;> rfl
  · simp [h]
@[simp] theorem set_n (a : Arr) (i : Nat) (x : V) : (a.set i x).n = a.n := rfl
@[simp] theorem push_n (a : Arr) (x : V) : (a.push x).n = a.n + 1 := rfl
theorem get_set (a : Arr) (i j : Nat) (x : V) : (a.set i x).get j = if j = i then (if i < a.n then some x else none) else a.get j := by
  rw [get_eq, get_eq]; unfold set; simp only [T.get_set]
  by_cases h : j = i
  · subst h; simp
  · simp [h]
theorem get_push (a : Arr) (j : Nat) (x : V) : (a.push x).get j = if j = a.n then some x else a.get j := by
  rw [get_eq, get_eq]; unfold push; simp only [T.get_set, Nat.succ_eq_add_one]
  by_cases h : j = a.n
  · subst h; simp
  · by_cases h2 : j < a.n
    · rw [if_pos (by omega), if_neg h, if_pos h2, if_neg h]
    · rw [if_neg (by omega), if_neg h, if_neg h2]
@[simp] theorem make_n (n : Nat) (z : List V) : (make n z).n = n := rfl
theorem get_make (n : Nat) (z : List V) (j : Nat) : (make n z).get j = if j < n then z[j % z.length]? else none := by
  rw [get_eq]; unfold make; simp only [T.get_leaf]
theorem pushAll_cons (x : V) (l : List V) (a : Arr) : pushAll (x :: l) a = pushAll l (a.push x) := rfl
theorem pushAll_n (l : List V) : ∀ a : Arr, (pushAll l a).n = a.n + l.length := by
  induction l with
  | nil => intro a; rfl
  | cons x l ih => intro a; rw [pushAll_cons, ih, push_n, List.length_cons]; omega
theorem get_pushAll (l : List V) : ∀ (a : Arr) (j : Nat), (pushAll l a).get j = if j < a.n then a.get j else l[j - a.n]? := by
  induction l with
  | nil =>
    intro a j
    show a.get j = _
    by_cases h : j < a.n
    · rw [if_pos h]
    · rw [if_neg h, get_eq, if_neg h]; rfl
  | cons x l ih =>
    intro a j
    rw [pushAll_cons, ih, push_n, get_push]
    by_cases h : j < a.n
    · rw [if_pos (by omega), if_pos h, if_neg (by omega)]
    · rw [if_neg h]
      by_cases h2 : j = a.n
      · subst h2; simp
      · rw [if_neg (by omega), show j - a.n = (j - (a.n + 1)) + 1 from by omega, List.getElem?_cons_succ]
@[simp] theorem ofList_n (l : List V) : (ofList l).n = l.length := by unfold ofList; rw [pushAll_n]; simp [empty]
theorem get_ofList (l : List V) (j : Nat) : (ofList l).get j = l[j]? := by
  unfold ofList; rw [get_pushAll]; simp [empty]
end Arr
structure Blk where
  cells : Arr
  minL : Nat
  fz : Nat
  ro : Bool
  e : Nat
structure AH where
  next : Nat
  low : Nat
  m : T Blk
namespace AH
noncomputable def get (h : AH) (b : Nat) : Option Blk := h.m.get b
end AH
abbrev Rho := Nat → Nat → Option (Nat × Int × Nat)
def Rho.le (ρ ρ' : Rho) : Prop := ∀ b L x, ρ b L = some x → ρ' b L = some x
theorem Rho.le_refl (ρ : Rho) : ρ.le ρ := fun _ _ _ h => h
theorem Rho.le_trans {a b c : Rho} (h : a.le b) (k : b.le c) : a.le c := fun _ _ _ hx => k _ _ _ (h _ _ _ hx)
def At (ρ : Rho) (a : A) (c : Addr) : Prop := ∃ cb sh S, ρ a.b a.L = some (cb, sh, S) ∧ sh ≤ a.o ∧ c = ⟨cb, ((a.o : Int) - sh).toNat, none⟩
theorem At.mono {ρ ρ' : Rho} {a : A} {c : Addr} (h : At ρ a c) (hle : ρ.le ρ') : At ρ' a c := by
  obtain ⟨cb, sh, S, h1, h2, h3⟩ := h
  exact ⟨cb, sh, S, hle _ _ _ h1, h2, h3⟩
mutual
def R (ρ : Rho) : V → Value → Prop
  | .bad, _ => True
  | .bool b, v => v = .bool b
  | .int k n, v => v = .int k n
  | .str s, v => ∃ t : ByteArray, v = .string t ∧ t.data.toList.map UInt8.toNat = s
  | .ptr a, v => ∃ c, v = .pointer (some c) ∧ At ρ a c
  | .nilptr, v => v = .pointer none
  | .slice a n cap ex z, v => ∃ cb sh S cc, v = .slice (some ⟨cb, ((a.o : Int) - sh).toNat, none⟩) n cc ∧ ρ a.b a.L = some (cb, sh, S) ∧ sh ≤ a.o ∧ cap ≤ cc ∧ (ex = true → cc = cap) ∧ n ≤ cap ∧ ((a.o : Int) - sh).toNat + cc * z ≤ S
  | .nilslice, v => v = .slice none 0 0
  | .loose, v => ∃ c cc, v = .slice (some c) 0 cc
  | .func f fs cs, v => ∃ xs ys, v = .func (.func f) xs ys ∧ RL ρ fs xs.toList ∧ RL ρ cs ys.toList
  | .nilFunc, v => v = .nilFunc
  | .iface t x, v => ∃ y, v = .iface t y ∧ R ρ x y
  | .nilIface, v => v = .nilIface
  | .agg cs, v => ∃ xs, v = .agg xs ∧ RL ρ cs xs.toList
  | .tuple cs, v => ∃ xs, v = .tuple xs ∧ RL ρ cs xs.toList
  | .mapv b, v => ∃ cb S, v = .map (some cb) ∧ ρ b 0 = some (cb, 0, S)
  | .nilmap, v => v = .map none
  | .complex k a b, v => v = .complex k a b
  | .float k a, v => v = .float k a
  | .yield b, v => ∃ cb S, v = .func (.yield cb) #[] #[] ∧ ρ b 0 = some (cb, 0, S)
  | .rcd f .., v => f = 0 ∧ ∃ x, v = .int .i64 x
def RL (ρ : Rho) : List V → List Value → Prop
  | [], ys => ys = []
  | x :: xs, ys => ∃ z zs, ys = z :: zs ∧ R ρ x z ∧ RL ρ xs zs
end
theorem RL_cons {ρ : Rho} {x : V} {xs : List V} {y : Value} {ys : List Value} : RL ρ (x :: xs) (y :: ys) ↔ R ρ x y ∧ RL ρ xs ys := by
  constructor
  · rintro ⟨z, zs, h, h1, h2⟩
    cases h
    exact ⟨h1, h2⟩
  · rintro ⟨h1, h2⟩
    exact ⟨_, _, rfl, h1, h2⟩
theorem RL_nil {ρ : Rho} : RL ρ [] [] := rfl
theorem RL.length {ρ : Rho} : ∀ {xs : List V} {ys : List Value}, RL ρ xs ys → xs.length = ys.length := by
  intro xs
  induction xs with
  | nil => intro ys h; rw [show ys = [] from h]; rfl
  | cons x xs ih =>
    rintro ys ⟨z, zs, rfl, _, h⟩
    simp [ih h]
theorem RL.get {ρ : Rho} : ∀ {xs : List V} {ys : List Value}, RL ρ xs ys → ∀ {i : Nat} {x : V}, xs[i]? = some x → ∃ y, ys[i]? = some y ∧ R ρ x y := by
  intro xs
  induction xs with
  | nil => intro ys h i x hx; simp at hx
  | cons x xs ih =>
    rintro ys ⟨z, zs, rfl, hz, h⟩ i x' hx
    cases i with
    | zero => simp at hx; subst hx; exact ⟨z, by simp, hz⟩
    | succ i => simp at hx; obtain ⟨y, h1, h2⟩ := ih h hx; exact ⟨y, by simpa using h1, h2⟩
theorem RL.of_get {ρ : Rho} : ∀ {xs : List V} {ys : List Value}, xs.length = ys.length → (∀ (i : Nat) (x : V) (y : Value), xs[i]? = some x → ys[i]? = some y → R ρ x y) → RL ρ xs ys := by
  intro xs
  induction xs with
  | nil => intro ys h _; exact List.length_eq_zero_iff.1 h.symm
  | cons x xs ih =>
    intro ys h hg
    cases ys with
    | nil => simp at h
    | cons y ys =>
      refine ⟨y, ys, rfl, hg 0 x y (by simp) (by simp), ih (by simpa using h) (fun i a b ha hb => hg (i + 1) a b (by simpa using ha) (by simpa using hb))⟩
theorem RL.append {ρ : Rho} : ∀ {xs : List V} {ys : List Value} {xs' : List V} {ys' : List Value}, RL ρ xs ys → RL ρ xs' ys' → RL ρ (xs ++ xs') (ys ++ ys') := by
  intro xs
  induction xs with
  | nil => intro ys xs' ys' h h'; rw [show ys = [] from h]; exact h'
  | cons x xs ih =>
    rintro ys xs' ys' ⟨z, zs, rfl, hz, h⟩ h'
    exact ⟨z, zs ++ ys', rfl, hz, ih h h'⟩
theorem RL.replicate {ρ : Rho} {x : V} {y : Value} (h : R ρ x y) (n : Nat) : RL ρ (List.replicate n x) (List.replicate n y) := by
  induction n with
  | zero => exact rfl
  | succ n ih => exact ⟨_, _, rfl, h, ih⟩
theorem RL.take {ρ : Rho} : ∀ {xs : List V} {ys : List Value}, RL ρ xs ys → ∀ n, RL ρ (xs.take n) (ys.take n) := by
  intro xs
  induction xs with
  | nil => intro ys h n; rw [show ys = [] from h]; simp; exact rfl
  | cons x xs ih =>
    rintro ys ⟨z, zs, rfl, hz, h⟩ n
    cases n with
    | zero => exact rfl
    | succ n => exact ⟨z, zs.take n, rfl, hz, ih h n⟩
theorem RL.drop {ρ : Rho} : ∀ {xs : List V} {ys : List Value}, RL ρ xs ys → ∀ n, RL ρ (xs.drop n) (ys.drop n) := by
  intro xs
  induction xs with
  | nil => intro ys h n; rw [show ys = [] from h]; simp; exact rfl
  | cons x xs ih =>
    rintro ys ⟨z, zs, rfl, hz, h⟩ n
    cases n with
    | zero => exact ⟨z, zs, rfl, hz, h⟩
    | succ n => exact ih h n
mutual
theorem R.mono {ρ ρ' : Rho} (hle : ρ.le ρ') : ∀ {v : V} {c : Value}, R ρ v c → R ρ' v c
  | .bad, _, h => h
  | .bool _, _, h => h
  | .int _ _, _, h => h
  | .str _, _, h => h
  | .ptr _, _, ⟨c, h1, h2⟩ => ⟨c, h1, h2.mono hle⟩
  | .nilptr, _, h => h
  | .slice .., _, ⟨cb, sh, S, cc, h1, h2, h3⟩ => ⟨cb, sh, S, cc, h1, hle _ _ _ h2, h3⟩
  | .nilslice, _, h => h
  | .loose, _, h => h
  | .func .., _, ⟨xs, ys, h1, h2, h3⟩ => ⟨xs, ys, h1, RL.mono hle h2, RL.mono hle h3⟩
  | .nilFunc, _, h => h
  | .iface .., _, ⟨y, h1, h2⟩ => ⟨y, h1, R.mono hle h2⟩
  | .nilIface, _, h => h
  | .agg _, _, ⟨xs, h1, h2⟩ => ⟨xs, h1, RL.mono hle h2⟩
  | .tuple _, _, ⟨xs, h1, h2⟩ => ⟨xs, h1, RL.mono hle h2⟩
  | .mapv _, _, ⟨cb, S, h1, h2⟩ => ⟨cb, S, h1, hle _ _ _ h2⟩
  | .nilmap, _, h => h
  | .complex .., _, h => h
  | .float .., _, h => h
  | .yield _, _, ⟨cb, S, h1, h2⟩ => ⟨cb, S, h1, hle _ _ _ h2⟩
  | .rcd .., _, h => h
theorem RL.mono {ρ ρ' : Rho} (hle : ρ.le ρ') : ∀ {vs : List V} {cs : List Value}, RL ρ vs cs → RL ρ' vs cs
  | [], _, h => h
  | _ :: _, _, ⟨z, zs, h1, h2, h3⟩ => ⟨z, zs, h1, R.mono hle h2, RL.mono hle h3⟩
end
def BlkOK (ρ : Rho) (k : Blk) (L cb : Nat) (sh : Int) (S : Nat) (w : World) : Prop :=
  ∃ c lo hi, w.heap[cb]? = some (.cells c k.e (lo, hi)) ∧ c.size = S ∧ ((L : Int) - sh).toNat ≤ S ∧ (∀ (j : Nat) v, sh ≤ j → j < L → k.cells.get j = some v → ∃ u, c[((j : Int) - sh).toNat]? = some u ∧ R ρ v u) ∧
    (k.ro = false → (∀ (i : Nat), (k.fz : Int) ≤ i + sh → i < S → ¬ (lo ≤ i ∧ i < hi)) ∧ lo ≤ hi ∧ 0 ≤ sh)
theorem BlkOK.mono {ρ ρ' : Rho} {k : Blk} {L cb : Nat} {sh : Int} {S : Nat} {w w' : World} (h : BlkOK ρ k L cb sh S w) (hle : ρ.le ρ') (hw : w'.heap[cb]? = w.heap[cb]?) : BlkOK ρ' k L cb sh S w' := by
  obtain ⟨c, lo, hi, h1, h2, h3, h4, h5⟩ := h
  exact ⟨c, lo, hi, hw.trans h1, h2, h3, fun j v hj hL hg => let ⟨u, hu, hR⟩ := h4 j v hj hL hg; ⟨u, hu, hR.mono hle⟩, h5⟩
def Blk.obj (tag : Nat) (data : List V) : Blk := ⟨⟨0, data, .leaf⟩, 2, 0, false, tag⟩
def Blk.IsObj (k : Blk) : Prop := k.cells.n = 0 ∧ k.minL = 2
def mapL (es : List MapEntry) : List Value := es.flatMap fun e => [e.key, e.val, .int .i64 e.born]
def kvL (es : List MapEntry) : List Value := es.flatMap fun e => [e.key, e.val]
def stateN : LoopState → Int
  | .ready => 0
  | .busy => 1
  | .done => 2
  | .exhausted => 3
def jumpV : Option Code → Option V
  | none => some (.tuple [])
  | some .ret => some (.tuple [.bool true])
  | some (.exit id) => some (.tuple [.int .u8 id])
  | some (.goto l) => some (.tuple [.int .u16 l])
  | _ => none
def ObjOK (ρ : Rho) (tag : Nat) (data : List V) (o : Option Obj) : Prop :=
  match tag with
  | 0 => ∃ es clock, o = some (.map es clock) ∧ RL ρ data (.int .i64 clock :: mapL es.toList)
  | 1 => ∃ r : Loop, o = some (.loop r) ∧ ∃ fn tm j, data = [.rcd fn r.params r.assign r.body, .tuple tm, .int .i64 (stateN r.state), j] ∧ RL ρ tm r.tmps.toList ∧ jumpV r.pending = some j
  | 2 => ∃ (s : ByteArray) (pos : Nat), o = some (.stringIter s pos) ∧ data = [.str (s.data.toList.map UInt8.toNat), .int .i64 pos]
  | 3 => ∃ (m : Option Nat) (since : Nat) (seen : Array Nat) (stepped : Nat) (mv : V), o = some (.mapIter m since seen stepped) ∧ data = [mv, .int .i64 (.ofNat since), .tuple (seen.toList.map fun n => V.int .i64 (.ofNat n)), .int .i64 (.ofNat stepped)] ∧ R ρ mv (.map m)
  | 4 => ∃ (es : Array MapEntry) (clock : Nat) (ps : List MapEntry), o = some (.map es clock) ∧ ps.Perm es.toList ∧ MapKept.Stamped es clock ∧ RL ρ data (kvL ps)
  | _ => False
theorem ObjOK.mono {ρ ρ' : Rho} {tag : Nat} {data : List V} {o : Option Obj} (h : ObjOK ρ tag data o) (hle : ρ.le ρ') : ObjOK ρ' tag data o := by
  unfold ObjOK at h ⊢
  split at h
  · obtain ⟨es, clock, h1, h2⟩ := h; exact ⟨es, clock, h1, RL.mono hle h2⟩
  · obtain ⟨r, h1, fn, tm, j, h2, h3, h4⟩ := h; exact ⟨r, h1, fn, tm, j, h2, RL.mono hle h3, h4⟩
  · exact h
  · obtain ⟨m, a, b, c, mv, h1, h2, h3⟩ := h; exact ⟨m, a, b, c, mv, h1, h2, h3.mono hle⟩
  · obtain ⟨es, c, ps, h1, h2, h3, h4⟩ := h; exact ⟨es, c, ps, h1, h2, h3, RL.mono hle h4⟩
  · exact h
def ObjFit (ρ : Rho) (b : Nat) (k : Blk) (w : World) : Prop := k.ro = false ∧ ∃ cb S, ρ b 0 = some (cb, 0, S) ∧ ObjOK ρ k.e k.cells.z w.heap[cb]?
theorem ObjFit.mono {ρ ρ' : Rho} {b : Nat} {k : Blk} {w w' : World} (h : ObjFit ρ b k w) (hle : ρ.le ρ') (hw : ∀ cb S, ρ b 0 = some (cb, 0, S) → w'.heap[cb]? = w.heap[cb]?) : ObjFit ρ' b k w' := by
  obtain ⟨h0, cb, S, h1, h2⟩ := h
  exact ⟨h0, cb, S, hle _ _ _ h1, by rw [hw cb S h1]; exact h2.mono hle⟩
structure HR (ρ : Rho) (h : AH) (w : World) : Prop where
  fresh : ∀ b L x, ρ b L = some x → b < h.next
  lives : ∀ b k, h.get b = some k → b < h.next
  bound : ∀ b L cb x, ρ b L = some (cb, x) → cb < w.heap.size
  inj : ∀ b L b' L' cb x x' k, ρ b L = some (cb, x) → ρ b' L' = some (cb, x') → h.get b = some k → k.ro = false → b = b' ∧ x = x'
  top : ∀ b k L x, h.get b = some k → ρ b L = some x → L ≤ k.cells.n
  blk : ∀ b k L cb sh S, h.get b = some k → ρ b L = some (cb, sh, S) → k.minL ≤ L → BlkOK ρ k L cb sh S w
  obj : ∀ b k, h.get b = some k → k.IsObj → ObjFit ρ b k w
theorem HR.apart {ρ : Rho} {h : AH} {w : World} (hr : HR ρ h w) {b : Nat} {k : Blk} (hk : h.get b = some k) (ho : k.IsObj) {cb S : Nat} (hb : ρ b 0 = some (cb, 0, S)) {b' L' : Nat} {x' : Int × Nat} (h' : ρ b' L' = some (cb, x')) : b = b' :=
  (hr.inj b 0 b' L' cb _ _ k hb h' hk (hr.obj b k hk ho).1).1
def Owned (ρ : Rho) (h : AH) (i : Nat) : Prop := ∃ b L x k, ρ b L = some (i, x) ∧ h.get b = some k ∧ k.ro = false
structure Step (ρ : Rho) (h : AH) (w : World) (ρ' : Rho) (h' : AH) (w' : World) : Prop where
  le : ρ.le ρ'
  cons : ∀ b L cb x, ρ' b L = some (cb, x) → cb < w.heap.size → ∃ L0 x0, ρ b L0 = some (cb, x0)
  ro : ∀ b k', h'.get b = some k' → b < h.next → ∃ k, h.get b = some k ∧ k'.ro = k.ro
  next : h.next ≤ h'.next
  os : w'.os = w.os
  tape : w'.tape = w.tape
  output : w'.output = w.output
  size : w.heap.size ≤ w'.heap.size
  keep : ∀ i, i < w.heap.size → ¬ Owned ρ h i → w'.heap[i]? = w.heap[i]?
  lowle : h'.low ≤ h.low
  quiet : ∀ b, b < h'.low → b < h.next → h'.get b = h.get b
  abs : ∀ b, b < h.next → h.get b = none → h'.get b = none ∧ ∀ L x, ρ' b L = some x → ρ b L = some x
theorem Step.refl (ρ : Rho) (h : AH) (w : World) : Step ρ h w ρ h w :=
  ⟨Rho.le_refl ρ, fun _ L _ sh hx _ => ⟨L, sh, hx⟩, fun _ k' hk _ => ⟨k', hk, rfl⟩, Nat.le_refl _, rfl, rfl, rfl, Nat.le_refl _, fun _ _ _ => rfl, Nat.le_refl _, fun _ _ _ => rfl, fun _ _ hb => ⟨hb, fun _ _ h => h⟩⟩
theorem Step.trans {ρ ρ' ρ'' : Rho} {h h' h'' : AH} {w w' w'' : World} (hr : HR ρ h w) (a : Step ρ h w ρ' h' w') (b : Step ρ' h' w' ρ'' h'' w'') : Step ρ h w ρ'' h'' w'' where
  le := Rho.le_trans a.le b.le
  cons := fun x L cb sh hx hlt => by
    obtain ⟨L0, sh0, h0⟩ := b.cons x L cb sh hx (Nat.lt_of_lt_of_le hlt a.size)
    exact a.cons x L0 cb sh0 h0 hlt
  ro := fun x k'' hk hx => by
    obtain ⟨k', hk', e'⟩ := b.ro x k'' hk (Nat.lt_of_lt_of_le hx a.next)
    obtain ⟨k, hk0, e⟩ := a.ro x k' hk' hx
    exact ⟨k, hk0, e'.trans e⟩
  next := Nat.le_trans a.next b.next
  os := b.os.trans a.os
  tape := b.tape.trans a.tape
  output := b.output.trans a.output
  size := Nat.le_trans a.size b.size
  keep := fun i hi hn => by
    refine (b.keep i (Nat.lt_of_lt_of_le hi a.size) ?_).trans (a.keep i hi hn)
    rintro ⟨x, L, sh, k', hx, hk', hro⟩
    obtain ⟨L0, sh0, h0⟩ := a.cons x L i sh hx hi
    obtain ⟨k, hk, e⟩ := a.ro x k' hk' (hr.fresh _ _ _ h0)
    exact hn ⟨x, L0, sh0, k, h0, hk, by rw [← e]; exact hro⟩
  lowle := Nat.le_trans b.lowle a.lowle
  quiet := fun x hx hn => (b.quiet x hx (Nat.lt_of_lt_of_le hn a.next)).trans (a.quiet x (Nat.lt_of_lt_of_le hx b.lowle) hn)
  abs := fun x hx hn => by
    obtain ⟨h1, h2⟩ := a.abs x hx hn
    obtain ⟨h3, h4⟩ := b.abs x (Nat.lt_of_lt_of_le hx a.next) h1
    exact ⟨h3, fun L y hy => h2 L y (h4 L y hy)⟩
end Go.Proofs.YtcphjmgfgfjnpaaGreatDoor.Ev
namespace Go.Proofs.YtcphjmgfgfjnpaaGreatDoor.Ev
open Go
def alikeA (a b : A) : Bool := Nat.beq a.b b.b && (Nat.beq a.L b.L && Nat.beq a.o b.o)
theorem alikeA_eq {a b : A} (h : alikeA a b = true) : a = b := by
  unfold alikeA at h
  simp only [Bool.and_eq_true, Nat.beq_eq] at h
  cases a; cases b
  obtain ⟨h1, h2, h3⟩ := h
  simp only at h1 h2 h3
  subst h1; subst h2; subst h3
  rfl
mutual
def alikeV : V → V → Bool
  | .bad, .bad => true
  | .bool a, .bool b => a == b
  | .int k a, .int j b => k == j && a == b
  | .str a, .str b => a == b
  | .ptr a, .ptr b => alikeA a b
  | .nilptr, .nilptr => true
  | .slice a n c e z, .slice a' n' c' e' z' => alikeA a a' && (Nat.beq n n' && (Nat.beq c c' && (e == e' && Nat.beq z z')))
  | .nilslice, .nilslice => true
  | .loose, .loose => true
  | .func f x y, .func f' x' y' => Nat.beq f f' && (alikeL x x' && alikeL y y')
  | .nilFunc, .nilFunc => true
  | .iface t x, .iface t' x' => Nat.beq t t' && alikeV x x'
  | .nilIface, .nilIface => true
  | .agg x, .agg x' => alikeL x x'
  | .tuple x, .tuple x' => alikeL x x'
  | .mapv b, .mapv b' => Nat.beq b b'
  | .nilmap, .nilmap => true
  | .complex k a b, .complex k' a' b' => decide (k = k') && (Nat.beq a a' && Nat.beq b b')
  | .float k a, .float k' a' => decide (k = k') && Nat.beq a a'
  | .rcd a ⟨[]⟩ .skip .skip, .rcd b ⟨[]⟩ .skip .skip => Nat.beq a b
  | _, _ => false
def alikeL : List V → List V → Bool
  | [], [] => true
  | x :: xs, y :: ys => alikeV x y && alikeL xs ys
  | _, _ => false
end
mutual
theorem alikeV_eq : ∀ (x y : V), alikeV x y = true → x = y
  | .bad, y, h => by cases y <;> first | rfl | (simp [alikeV] at h; done)
  | .bool a, y, h => by cases y <;> first | (simp [alikeV] at h; done) | (simp only [alikeV, beq_iff_eq] at h; rw [h])
  | .int k a, y, h => by cases y <;> first | (simp [alikeV] at h; done) | (simp only [alikeV, Bool.and_eq_true, beq_iff_eq] at h; rw [h.1, h.2])
  | .str a, y, h => by cases y <;> first | (simp [alikeV] at h; done) | (simp only [alikeV, beq_iff_eq] at h; rw [h])
  | .ptr a, y, h => by cases y <;> first | (simp [alikeV] at h; done) | (simp only [alikeV] at h; rw [alikeA_eq h])
  | .nilptr, y, h => by cases y <;> first | rfl | (simp [alikeV] at h; done)
  | .slice a n c e z, y, h => by cases y <;> first | (simp [alikeV] at h; done) | (simp only [alikeV, Bool.and_eq_true, Nat.beq_eq, beq_iff_eq] at h; rw [alikeA_eq h.1, h.2.1, h.2.2.1, h.2.2.2.1, h.2.2.2.2])
  | .nilslice, y, h => by cases y <;> first | rfl | (simp [alikeV] at h; done)
  | .loose, y, h => by cases y <;> first | rfl | (simp [alikeV] at h; done)
  | .func f x z, y, h => by cases y <;> first | (simp [alikeV] at h; done) | (simp only [alikeV, Bool.and_eq_true, Nat.beq_eq] at h; rw [h.1, alikeL_eq x _ h.2.1, alikeL_eq z _ h.2.2])
  | .nilFunc, y, h => by cases y <;> first | rfl | (simp [alikeV] at h; done)
  | .iface t x, y, h => by cases y <;> first | (simp [alikeV] at h; done) | (simp only [alikeV, Bool.and_eq_true, Nat.beq_eq] at h; rw [h.1, alikeV_eq x _ h.2])
  | .nilIface, y, h => by cases y <;> first | rfl | (simp [alikeV] at h; done)
  | .agg x, y, h => by cases y <;> first | (simp [alikeV] at h; done) | (simp only [alikeV] at h; rw [alikeL_eq x _ h])
  | .tuple x, y, h => by cases y <;> first | (simp [alikeV] at h; done) | (simp only [alikeV] at h; rw [alikeL_eq x _ h])
  | .mapv b, y, h => by cases y <;> first | (simp [alikeV] at h; done) | (simp only [alikeV, Nat.beq_eq] at h; rw [h])
  | .nilmap, y, h => by cases y <;> first | rfl | (simp [alikeV] at h; done)
  | .complex .., y, h => by cases y <;> first | (simp [alikeV] at h; done) | (simp only [alikeV, Bool.and_eq_true, Nat.beq_eq, decide_eq_true_eq] at h; rw [h.1, h.2.1, h.2.2])
  | .float .., y, h => by cases y <;> first | (simp [alikeV] at h; done) | (simp only [alikeV, Bool.and_eq_true, Nat.beq_eq, decide_eq_true_eq] at h; rw [h.1, h.2])
  | .yield _, y, h => by cases y <;> (simp [alikeV] at h; done)
  | .rcd a p c d, y, h => by
    unfold alikeV at h
    split at h
    all_goals first
      | (cases h; done)
      | (rename_i e1 e2; cases e1; done)
      | skip
    all_goals simp_all
theorem alikeL_eq : ∀ (x y : List V), alikeL x y = true → x = y
  | [], y, h => by cases y <;> first | rfl | (simp [alikeL] at h; done)
  | x :: xs, y, h => by
    cases y with
    | nil => simp [alikeL] at h
    | cons y ys =>
      simp only [alikeL, Bool.and_eq_true] at h
      rw [alikeV_eq x y h.1, alikeL_eq xs ys h.2]
end
def alikeO {α : Type} (eq : α → α → Bool) : Option α → Option α → Bool
  | none, none => true
  | some a, some b => eq a b
  | _, _ => false
def alikeT {α : Type} (eq : α → α → Bool) : T α → T α → Bool
  | .leaf, .leaf => true
  | .node l v r, .node l' v' r' => alikeO eq v v' && (alikeT eq l l' && alikeT eq r r')
  | _, _ => false
theorem alikeT_eq {α : Type} {eq : α → α → Bool} (he : ∀ a b, eq a b = true → a = b) : ∀ (x y : T α), alikeT eq x y = true → x = y := by
  intro x
  induction x with
  | leaf => intro y h; cases y with
    | leaf => rfl
    | node => cases h
  | node l v r ihl ihr =>
    intro y h
    cases y with
    | leaf => cases h
    | node l' v' r' =>
      simp only [alikeT, Bool.and_eq_true] at h
      rw [ihl l' h.2.1, ihr r' h.2.2]
      have : v = v' := by
        have h1 := h.1
        cases v <;> cases v' <;> first | rfl | (cases h1; done) | exact congrArg some (he _ _ h1)
      rw [this]
def alikeB (a b : Blk) : Bool := Nat.beq a.cells.n b.cells.n && (Nat.beq a.minL b.minL && (Nat.beq a.fz b.fz && (a.ro == b.ro && (Nat.beq a.e b.e && (alikeL a.cells.z b.cells.z && alikeT alikeV a.cells.t b.cells.t)))))
theorem alikeB_eq {a b : Blk} (h : alikeB a b = true) : a = b := by
  unfold alikeB at h
  simp only [Bool.and_eq_true, Nat.beq_eq, beq_iff_eq] at h
  obtain ⟨h1, h2, h3, h4, h5, h6, h7⟩ := h
  have h6' := alikeL_eq _ _ h6
  have h7' := alikeT_eq alikeV_eq _ _ h7
  obtain ⟨⟨n, z, t⟩, l, f, r, e⟩ := a
  obtain ⟨⟨n', z', t'⟩, l', f', r', e'⟩ := b
  simp only at h1 h2 h3 h4 h5 h6' h7'
  subst h1; subst h2; subst h3; subst h4; subst h5; subst h6'; subst h7'
  rfl
end Go.Proofs.YtcphjmgfgfjnpaaGreatDoor.Ev
namespace Go.Proofs.YtcphjmgfgfjnpaaGreatDoor.Ev
open Go
namespace V
def cells : V → List V
  | .agg cs => cs
  | v => [v]
def cell : V → Bool
  | .agg _ | .tuple _ | .bad | .rcd .. => false
  | _ => true
def isBad : V → Bool
  | .bad => true
  | .rcd .. => true
  | _ => false
end V
theorem R_cell {ρ : Rho} {v : V} {u : Value} (h : R ρ v u) (hc : v.cell = true) : u.oneCell' = true := by
  cases v <;> simp only [V.cell, Bool.false_eq_true] at hc
  case bool => rw [show u = _ from h]; rfl
  case int => rw [show u = _ from h]; rfl
  case str => obtain ⟨t, rfl, _⟩ := h; rfl
  case ptr => obtain ⟨c, rfl, _⟩ := h; rfl
  case nilptr => rw [show u = _ from h]; rfl
  case slice => obtain ⟨cb, sh, S, cc, rfl, _⟩ := h; rfl
  case nilslice => rw [show u = _ from h]; rfl
  case loose => obtain ⟨c, cc, rfl⟩ := h; rfl
  case func => obtain ⟨xs, ys, rfl, _⟩ := h; rfl
  case nilFunc => rw [show u = _ from h]; rfl
  case iface => obtain ⟨y, rfl, _⟩ := h; rfl
  case nilIface => rw [show u = _ from h]; rfl
  case mapv => obtain ⟨cb, S, rfl, _⟩ := h; rfl
  case nilmap => rw [show u = _ from h]; rfl
  case complex => rw [show u = _ from h]; rfl
  case float => rw [show u = _ from h]; rfl
  case yield => obtain ⟨cb, S, rfl, _⟩ := h; rfl
theorem R_cells_list {ρ : Rho} {v : V} {u : Value} (h : R ρ v u) (hb : v.isBad = false) : RL ρ v.cells u.cells.toList := by
  cases v
  case bad => cases hb
  case agg cs => obtain ⟨xs, rfl, h⟩ := h; exact h
  case tuple cs => obtain ⟨xs, rfl, h'⟩ := h; exact ⟨_, [], rfl, ⟨xs, rfl, h'⟩, rfl⟩
  case bool => rw [show u = _ from h]; exact ⟨_, [], rfl, rfl, rfl⟩
  case int => rw [show u = _ from h]; exact ⟨_, [], rfl, rfl, rfl⟩
  case str => obtain ⟨t, rfl, h'⟩ := h; exact ⟨_, [], rfl, ⟨t, rfl, h'⟩, rfl⟩
  case ptr => obtain ⟨c, rfl, h'⟩ := h; exact ⟨_, [], rfl, ⟨c, rfl, h'⟩, rfl⟩
  case nilptr => rw [show u = _ from h]; exact ⟨_, [], rfl, rfl, rfl⟩
  case slice => obtain ⟨cb, sh, S, cc, rfl, h'⟩ := h; exact ⟨_, [], rfl, ⟨cb, sh, S, cc, rfl, h'⟩, rfl⟩
  case nilslice => rw [show u = _ from h]; exact ⟨_, [], rfl, rfl, rfl⟩
  case loose => obtain ⟨c, cc, rfl⟩ := h; exact ⟨_, [], rfl, ⟨c, cc, rfl⟩, rfl⟩
  case func => obtain ⟨xs, ys, rfl, h'⟩ := h; exact ⟨_, [], rfl, ⟨xs, ys, rfl, h'⟩, rfl⟩
  case nilFunc => rw [show u = _ from h]; exact ⟨_, [], rfl, rfl, rfl⟩
  case iface => obtain ⟨y, rfl, h'⟩ := h; exact ⟨_, [], rfl, ⟨y, rfl, h'⟩, rfl⟩
  case nilIface => rw [show u = _ from h]; exact ⟨_, [], rfl, rfl, rfl⟩
  case mapv => obtain ⟨cb, S, rfl, h'⟩ := h; exact ⟨_, [], rfl, ⟨cb, S, rfl, h'⟩, rfl⟩
  case nilmap => rw [show u = _ from h]; exact ⟨_, [], rfl, rfl, rfl⟩
  case complex => rw [show u = _ from h]; exact ⟨_, [], rfl, rfl, rfl⟩
  case float => rw [show u = _ from h]; exact ⟨_, [], rfl, rfl, rfl⟩
  case yield => obtain ⟨cb, S, rfl, h'⟩ := h; exact ⟨_, [], rfl, ⟨cb, S, rfl, h'⟩, rfl⟩
  case rcd => cases hb
theorem RL_oneCell {ρ : Rho} : ∀ {vs : List V} {us : List Value}, RL ρ vs us → vs.all V.cell = true → ∀ u ∈ us, u.oneCell' = true := by
  intro vs
  induction vs with
  | nil => intro us h _ u hu; rw [show us = [] from h] at hu; cases hu
  | cons v vs ih =>
    rintro us ⟨z, zs, rfl, hz, h⟩ hc u hu
    simp only [List.all_cons, Bool.and_eq_true] at hc
    cases hu with
    | head => exact R_cell hz hc.1
    | tail _ hu => exact ih h hc.2 u hu
noncomputable def readL (c : Arr) (n : Nat) : Nat → Option (List V) :=
  Nat.rec (fun _ => some []) (fun _ ih o => Option.rec none (fun v => Option.rec none (fun l => some (v :: l)) (ih (Nat.succ o))) (c.get o)) n
theorem readL_zero (c : Arr) (o : Nat) : readL c 0 o = some [] := rfl
theorem readL_succ (c : Arr) (n o : Nat) : readL c (n + 1) o = (c.get o).bind fun v => (readL c n (o + 1)).map (v :: ·) := by
  have h : readL c (n + 1) o = Option.rec (motive := fun _ => Option (List V)) none (fun v => Option.rec (motive := fun _ => Option (List V)) none (fun l => some (v :: l)) (readL c n (o + 1))) (c.get o) := rfl
  rw [h]
  cases c.get o with
  | none => rfl
  | some v => cases readL c n (o + 1) <;> rfl
theorem readL_spec {c : Arr} : ∀ {n o : Nat} {l : List V}, readL c n o = some l → l.length = n ∧ ∀ j v, l[j]? = some v → c.get (o + j) = some v := by
  intro n
  induction n with
  | zero => intro o l h; rw [readL_zero] at h; cases h; exact ⟨rfl, fun j v hv => by simp at hv⟩
  | succ n ih =>
    intro o l h
    rw [readL_succ] at h
    cases hg : c.get o with
    | none => rw [hg] at h; cases h
    | some v =>
      rw [hg] at h
      cases hr : readL c n (o + 1) with
      | none => rw [hr] at h; cases h
      | some l' =>
        rw [hr] at h
        cases h
        obtain ⟨h1, h2⟩ := ih hr
        refine ⟨by simp [h1], fun j x hx => ?_⟩
        cases j with
        | zero => simp at hx; subst hx; exact hg
        | succ j => simp at hx; have := h2 j x hx; rw [show o + (j + 1) = o + 1 + j from by omega]; exact this
theorem readL_of {c : Arr} : ∀ {l : List V} {o : Nat}, (∀ j v, l[j]? = some v → c.get (o + j) = some v) → readL c l.length o = some l := by
  intro l
  induction l with
  | nil => intro o _; rfl
  | cons v l ih =>
    intro o h
    have h0 : c.get o = some v := h 0 v (by simp)
    rw [List.length_cons, readL_succ, h0, ih (fun j x hx => by have := h (j + 1) x (by simpa using hx); rw [show o + 1 + j = o + (j + 1) from by omega]; exact this)]
    rfl
noncomputable def readN (h : AH) (a : A) (n : Nat) : Option (List V) :=
  Option.rec none (fun k => bif Nat.ble k.minL a.L && (Nat.ble a.L k.cells.n && Nat.ble (Nat.add a.o n) a.L) then readL k.cells n a.o else none) (h.get a.b)
theorem readN_eq (h : AH) (a : A) (n : Nat) : readN h a n = (h.get a.b).bind fun k => if k.minL ≤ a.L ∧ a.L ≤ k.cells.n ∧ a.o + n ≤ a.L then readL k.cells n a.o else none := by
  have e : readN h a n = Option.rec (motive := fun _ => Option (List V)) none (fun k => bif Nat.ble k.minL a.L && (Nat.ble a.L k.cells.n && Nat.ble (a.o + n) a.L) then readL k.cells n a.o else none) (h.get a.b) := rfl
  rw [e]
  cases h.get a.b with
  | none => rfl
  | some k =>
    show (bif _ then _ else _) = (if _ then _ else _)
    by_cases hc : k.minL ≤ a.L ∧ a.L ≤ k.cells.n ∧ a.o + n ≤ a.L
    · rw [if_pos hc, Nat.ble_eq_true_of_le hc.1, Nat.ble_eq_true_of_le hc.2.1, Nat.ble_eq_true_of_le hc.2.2]; rfl
    · rw [if_neg hc]
      cases h1 : Nat.ble k.minL a.L && (Nat.ble a.L k.cells.n && Nat.ble (a.o + n) a.L) with
      | false => rfl
      | true => simp only [Bool.and_eq_true, Nat.ble_eq] at h1; exact absurd h1 hc
theorem read_sound {ρ : Rho} {h : AH} {w : World} (hr : HR ρ h w) {a : A} {c : Addr} (ha : At ρ a c) {n : Nat} {vs : List V} (hv : readN h a n = some vs) :
    ∃ us : List Value, us.length = n ∧ RL ρ vs us ∧ ∀ j u, us[j]? = some u → w.cell? (c.add j) = some u := by
  rw [readN_eq] at hv
  cases hk : h.get a.b with
  | none => rw [hk] at hv; cases hv
  | some k =>
    rw [hk] at hv
    simp only [Option.bind_some] at hv
    split at hv
    case isFalse => cases hv
    rename_i hc
    obtain ⟨h1, h2, h3⟩ := hc
    obtain ⟨cb, sh, S, hρ, hsh, rfl⟩ := ha
    obtain ⟨cs, lo, hi, g1, g2, g3, g4, _⟩ := hr.blk _ k _ cb sh S hk hρ h1
    obtain ⟨hlen, hget⟩ := readL_spec hv
    have hsz : n ≠ 0 → ((a.o : Int) - sh).toNat + n ≤ cs.size := fun hn => by omega
    by_cases hn : n = 0
    · subst hn
      exact ⟨[], rfl, by rw [List.eq_nil_of_length_eq_zero hlen]; exact rfl, fun j u hu => by simp at hu⟩
    refine ⟨(cs.toList.drop (((a.o : Int) - sh).toNat)).take n, ?_, ?_, ?_⟩
    · have := hsz hn
      rw [List.length_take, List.length_drop, Array.length_toList]; omega
    · refine RL.of_get ?_ ?_
      · have := hsz hn
        rw [hlen, List.length_take, List.length_drop]
        have e : cs.toList.length = cs.size := Array.length_toList
        omega
      · intro i x y hx hy
        have hi' : i < n := by rw [← hlen]; exact (List.getElem?_eq_some_iff.1 hx).1
        obtain ⟨u, hu, hR⟩ := g4 (a.o + i) x (by omega) (by omega) (hget i x hx)
        rw [List.getElem?_take_of_lt hi', List.getElem?_drop, Array.getElem?_toList, show ((a.o : Int) - sh).toNat + i = (((a.o + i : Nat) : Int) - sh).toNat from by omega, hu] at hy
        cases hy
        exact hR
    · intro j u hu
      have hj : j < n := by
        have := (List.getElem?_eq_some_iff.1 hu).1
        rw [List.length_take] at this
        omega
      rw [List.getElem?_take_of_lt hj, List.getElem?_drop, Array.getElem?_toList] at hu
      unfold Addr.add World.cell?
      by_cases hj0 : j = 0
      · subst hj0; simp only [if_true, g1, Option.isSome_none, Bool.false_eq_true, if_false]; simpa using hu
      · simp only [if_neg hj0, g1, Option.isSome_none, Bool.false_eq_true, if_false]; exact hu
noncomputable def setL (vs : List V) : Nat → Arr → Arr := List.rec (fun _ c => c) (fun v _ ih o c => ih (Nat.succ o) (c.set o v)) vs
theorem setL_cons (v : V) (vs : List V) (o : Nat) (c : Arr) : setL (v :: vs) o c = setL vs (o + 1) (c.set o v) := rfl
theorem setL_n (vs : List V) : ∀ (o : Nat) (c : Arr), (setL vs o c).n = c.n := by
  induction vs with
  | nil => intro o c; rfl
  | cons v vs ih => intro o c; rw [setL_cons, ih, Arr.set_n]
theorem get_setL (vs : List V) : ∀ (o : Nat) (c : Arr) (j : Nat), o + vs.length ≤ c.n → (setL vs o c).get j = if o ≤ j ∧ j < o + vs.length then vs[j - o]? else c.get j := by
  induction vs with
  | nil => intro o c j _; rw [if_neg (by simp only [List.length_nil]; omega)]; rfl
  | cons v vs ih =>
    intro o c j hle
    simp only [List.length_cons] at hle
    rw [setL_cons, ih _ _ _ (by rw [Arr.set_n]; omega), Arr.get_set]
    by_cases h1 : o + 1 ≤ j ∧ j < o + 1 + vs.length
    · rw [if_pos h1, if_pos (by simp only [List.length_cons]; omega), show j - o = (j - (o + 1)) + 1 from by omega, List.getElem?_cons_succ]
    · rw [if_neg h1]
      by_cases h2 : j = o
      · subst h2; rw [if_pos rfl, if_pos (by omega), if_pos (by simp only [List.length_cons]; omega)]; simp
      · rw [if_neg h2, if_neg (by simp only [List.length_cons]; omega)]
noncomputable def writeN (h : AH) (a : A) (vs : List V) : Option AH :=
  Option.rec none (fun k => bif Nat.beq a.L k.cells.n && (Nat.ble k.minL a.L && (Nat.ble k.fz a.o && (Nat.ble (Nat.add a.o vs.length) a.L && (vs.all V.cell && not k.ro)))) then
    some ⟨h.next, Nat.min h.low a.b, h.m.set a.b ⟨setL vs a.o k.cells, a.L, k.fz, k.ro, k.e⟩⟩ else none) (h.get a.b)
theorem writeN_inv {h h' : AH} {a : A} {vs : List V} (hw : writeN h a vs = some h') : ∃ k, h.get a.b = some k ∧ a.L = k.cells.n ∧ k.minL ≤ a.L ∧ k.fz ≤ a.o ∧ a.o + vs.length ≤ a.L ∧ vs.all V.cell = true ∧ k.ro = false ∧
    h' = ⟨h.next, Nat.min h.low a.b, h.m.set a.b ⟨setL vs a.o k.cells, a.L, k.fz, k.ro, k.e⟩⟩ := by
  have e : writeN h a vs = Option.rec (motive := fun _ => Option AH) none (fun k => bif Nat.beq a.L k.cells.n && (Nat.ble k.minL a.L && (Nat.ble k.fz a.o && (Nat.ble (a.o + vs.length) a.L && (vs.all V.cell && not k.ro)))) then
    some ⟨h.next, Nat.min h.low a.b, h.m.set a.b ⟨setL vs a.o k.cells, a.L, k.fz, k.ro, k.e⟩⟩ else none) (h.get a.b) := rfl
  rw [e] at hw
  cases hk : h.get a.b with
  | none => rw [hk] at hw; cases hw
  | some k =>
    rw [hk] at hw
    change (bif _ then _ else _) = _ at hw
    cases hc : Nat.beq a.L k.cells.n && (Nat.ble k.minL a.L && (Nat.ble k.fz a.o && (Nat.ble (a.o + vs.length) a.L && (vs.all V.cell && not k.ro)))) with
    | false => rw [hc] at hw; cases hw
    | true =>
      rw [hc] at hw
      cases hw
      simp only [Bool.and_eq_true, Nat.ble_eq, Nat.beq_eq, Bool.not_eq_true'] at hc
      obtain ⟨h1, h2, h3, h4, h5, h6⟩ := hc
      exact ⟨k, rfl, h1, h2, h3, h4, h5, h6, rfl⟩
theorem store_run (P : Program) (cb off : Nat) (e : TypeId) (lo hi : Nat) : ∀ (us : List Value) (i : Nat) (w : World) (c : Array Value), w.heap[cb]? = some (.cells c e (lo, hi)) → off + i + us.length ≤ c.size →
    (∀ u ∈ us, u.oneCell' = true) → (∀ j, i ≤ j → j < i + us.length → ¬ (lo ≤ off + j ∧ off + j < hi)) →
    ∃ w' c', (storeCells ⟨cb, off, none⟩ us i).run P w = .ok () w' ∧ w'.heap[cb]? = some (.cells c' e (lo, hi)) ∧ c'.size = c.size ∧
      (∀ j, c'[j]? = if off + i ≤ j ∧ j < off + i + us.length then us[j - (off + i)]? else c[j]?) ∧
      (∀ x, x ≠ cb → w'.heap[x]? = w.heap[x]?) ∧ w'.heap.size = w.heap.size ∧ w'.os = w.os ∧ w'.tape = w.tape ∧ w'.output = w.output := by
  intro us
  induction us with
  | nil =>
    intro i w c hc _ _ _
    exact ⟨w, c, rfl, hc, rfl, fun j => by rw [if_neg (by simp only [List.length_nil]; omega)], fun _ _ => rfl, rfl, rfl, rfl, rfl⟩
  | cons u us ih =>
    intro i w c hc hs h1 hf
    simp only [List.length_cons] at hs
    have hcell : w.cell? ⟨cb, off + i, none⟩ = some c[off + i] := by
      unfold World.cell?
      simp [hc, Array.getElem?_eq_getElem (show off + i < c.size by omega)]
    have hfz : w.frozen? ⟨cb, off + i, none⟩ = false := by
      unfold World.frozen?
      simp only [hc]
      have := hf i (Nat.le_refl _) (by simp)
      rw [← Bool.not_eq_true]
      intro hh
      simp only [Bool.and_eq_true, decide_eq_true_eq] at hh
      exact this hh
    have hadd : (⟨cb, off, none⟩ : Addr).add i = ⟨cb, off + i, none⟩ := by
      unfold Addr.add
      by_cases h0 : i = 0
      · subst h0; simp
      · simp [h0]
    have hone := h1 u (by simp)
    have hset : (w.setCell ⟨cb, off + i, none⟩ u).heap[cb]? = some (.cells (c.setIfInBounds (off + i) u) e (lo, hi)) := by
      simp [World.setCell, Array.getElem?_modify, hc]
    obtain ⟨w', c', g1, g2, g3, g4, g5, g6, g7, g8, g9⟩ := ih (i + 1) (w.setCell ⟨cb, off + i, none⟩ u) (c.setIfInBounds (off + i) u) hset (by simp; omega) (fun x hx => h1 x (by simp [hx])) (fun j hj hj2 => hf j (by omega) (by simp only [List.length_cons]; omega))
    refine ⟨w', c', ?_, g2, by simpa using g3, ?_, ?_, ?_, ?_, ?_, ?_⟩
    · rw [← g1]
      show ((store ((⟨cb, off, none⟩ : Addr).add i) u).bind fun _ => storeCells ⟨cb, off, none⟩ us (i + 1)).run P w = _
      rw [hadd]
      cases u <;> simp only [Value.oneCell', Bool.false_eq_true] at hone <;> (unfold store; simp only [Sem.bind, Sem.run, hcell, hfz, Bool.false_eq_true, if_false])
    · intro j
      rw [g4 j, List.length_cons]
      by_cases hj : off + (i + 1) ≤ j ∧ j < off + (i + 1) + us.length
      · rw [if_pos hj, if_pos (by omega), show j - (off + i) = (j - (off + (i + 1))) + 1 from by omega, List.getElem?_cons_succ]
      · rw [if_neg hj]
        by_cases hj2 : j = off + i
        · subst hj2
          rw [if_pos (by omega)]
          simp [Array.getElem?_setIfInBounds, show off + i < c.size by omega]
        · rw [if_neg (by omega), Array.getElem?_setIfInBounds, if_neg (by omega)]
    · intro x hx
      rw [g5 x hx]
      simp only [World.setCell, Array.getElem?_modify]
      rw [if_neg (fun h => hx h.symm)]
    · rw [g6]; simp [World.setCell]
    · rw [g7]; rfl
    · rw [g8]; rfl
    · rw [g9]; rfl
theorem AH.get_set (h : AH) (n l b b' : Nat) (k : Blk) : (⟨n, l, h.m.set b k⟩ : AH).get b' = if b' = b then some k else h.get b' := T.get_set _ _ _ _
theorem write_sound {ρ : Rho} {h h' : AH} {w : World} (P : Program) (hr : HR ρ h w) {a : A} {c : Addr} (ha : At ρ a c) {vs : List V} {us : List Value} (hR : RL ρ vs us) (hw : writeN h a vs = some h') :
    ∃ w', (storeCells c us).run P w = .ok () w' ∧ HR ρ h' w' ∧ Step ρ h w ρ h' w' := by
  obtain ⟨k, hk, h1, h2, h3, h4, h5, h6, rfl⟩ := writeN_inv hw
  obtain ⟨cb, sh, S, hρ, hsh, rfl⟩ := ha
  obtain ⟨cs, lo, hi, g1, g2, g3, g4, g5⟩ := hr.blk _ k _ cb sh S hk hρ h2
  have hlen := hR.length
  obtain ⟨w', c', f1, f2, f3, f4, f5, f6, f7, f8, f9⟩ := store_run P cb (((a.o : Int) - sh).toNat) k.e lo hi us 0 w cs g1 (by
    by_cases hz : us.length = 0
    · by_cases hz2 : a.o ≤ a.L <;> omega
    · omega) (RL_oneCell hR h5) (fun j _ hj => (g5 h6).1 (((a.o : Int) - sh).toNat + j) (by omega) (by omega))
  have hget : ∀ b', (⟨h.next, Nat.min h.low a.b, h.m.set a.b ⟨setL vs a.o k.cells, a.L, k.fz, k.ro, k.e⟩⟩ : AH).get b' = if b' = a.b then some ⟨setL vs a.o k.cells, a.L, k.fz, k.ro, k.e⟩ else h.get b' := fun b' => AH.get_set _ _ _ _ _ _
  refine ⟨w', f1, ?_, ?_⟩
  · refine ⟨hr.fresh, ?_, ?_, ?_, ?_, ?_, ?_⟩
    rotate_left 5
    · intro b k' hk' ho
      rw [hget] at hk'
      by_cases hb : b = a.b
      · rw [if_pos hb] at hk'
        cases hk'
        have ho' : (setL vs a.o k.cells).n = 0 ∧ a.L = 2 := ho
        rw [setL_n] at ho'
        omega
      · rw [if_neg hb] at hk'
        exact (hr.obj b k' hk' ho).mono (Rho.le_refl ρ) fun cb' S' e => f5 _ fun he => hb (hr.apart hk' ho e (he ▸ hρ))
    · intro b k' hk'
      rw [hget] at hk'
      by_cases hb : b = a.b
      · subst hb; exact hr.lives _ _ hk
      · rw [if_neg hb] at hk'; exact hr.lives _ _ hk'
    · intro b L cb' x hx
      rw [f6]; exact hr.bound _ _ _ _ hx
    · intro b L b' L' cb' x x' k' q1 q2 hk' hro'
      rw [hget] at hk'
      by_cases hb : b = a.b
      · subst hb; exact hr.inj _ _ _ _ _ _ _ _ q1 q2 hk h6
      · rw [if_neg hb] at hk'; exact hr.inj _ _ _ _ _ _ _ _ q1 q2 hk' hro'
    · intro b k' L x hk' hx
      rw [hget] at hk'
      by_cases hb : b = a.b
      · subst hb; rw [if_pos rfl] at hk'; cases hk'; simp only; rw [setL_n]; exact hr.top _ _ _ _ hk hx
      · rw [if_neg hb] at hk'; exact hr.top _ _ _ _ hk' hx
    · intro b k' L cb' sh' S' hk' hx hm
      rw [hget] at hk'
      by_cases hb : b = a.b
      · subst hb
        rw [if_pos rfl] at hk'
        cases hk'
        have hL := hr.top _ _ _ _ hk hx
        simp only at hm
        obtain rfl : L = a.L := by omega
        rw [hρ] at hx
        cases hx
        refine ⟨c', lo, hi, f2, by rw [f3]; exact g2, g3, ?_, g5⟩
        intro j v hj hjL hv
        simp only at hv
        rw [get_setL _ _ _ _ (by omega)] at hv
        rw [f4]
        by_cases hj2 : a.o ≤ j ∧ j < a.o + vs.length
        · rw [if_pos hj2] at hv
          rw [if_pos (by omega), show ((j : Int) - sh).toNat - (((a.o : Int) - sh).toNat + 0) = j - a.o from by omega]
          exact hR.get hv
        · rw [if_neg hj2] at hv
          rw [if_neg (by omega)]
          exact g4 j v hj hjL hv
      · rw [if_neg hb] at hk'
        refine (hr.blk b k' L cb' sh' S' hk' hx hm).mono (Rho.le_refl ρ) (f5 _ ?_)
        rintro rfl
        exact hb (hr.inj _ _ _ _ _ _ _ _ hρ hx hk h6).1.symm
  · refine ⟨Rho.le_refl ρ, fun b L cb' x hx _ => ⟨L, x, hx⟩, ?_, Nat.le_refl _, f7, f8, f9, Nat.le_of_eq f6.symm, ?_, Nat.min_le_left _ _, ?_, fun b hb hn => ⟨by rw [hget, if_neg (by rintro rfl; rw [hk] at hn; cases hn)]; exact hn, fun _ _ h => h⟩⟩
    · intro b k' hk' _
      rw [hget] at hk'
      by_cases hb : b = a.b
      · subst hb; rw [if_pos rfl] at hk'; cases hk'; exact ⟨k, hk, rfl⟩
      · rw [if_neg hb] at hk'; exact ⟨k', hk', rfl⟩
    · intro i hi hn
      refine f5 i ?_
      rintro rfl
      exact hn ⟨_, _, _, k, hρ, hk, h6⟩
    · intro b hb _
      have h0 : Nat.min h.low a.b ≤ a.b := Nat.min_le_right h.low a.b
      have hb' : b < Nat.min h.low a.b := hb
      rw [hget, if_neg (by omega)]
end Go.Proofs.YtcphjmgfgfjnpaaGreatDoor.Ev
namespace Go.Proofs.YtcphjmgfgfjnpaaGreatDoor.Ev
open Go
def Rho.put (ρ : Rho) (b L : Nat) (x : Nat × Int × Nat) : Rho := fun b' L' => if b' = b ∧ L' = L then some x else ρ b' L'
theorem Rho.put_same (ρ : Rho) (b L : Nat) (x : Nat × Int × Nat) : ρ.put b L x b L = some x := by simp [Rho.put]
theorem Rho.put_inv {ρ : Rho} {b L b' L' : Nat} {x y : Nat × Int × Nat} (h : ρ.put b L x b' L' = some y) : (b' = b ∧ L' = L ∧ y = x) ∨ ρ b' L' = some y := by
  unfold Rho.put at h
  split at h
  · rename_i hc; cases h; exact .inl ⟨hc.1, hc.2, rfl⟩
  · exact .inr h
theorem Rho.le_put {ρ : Rho} {b L : Nat} {x : Nat × Int × Nat} (h : ∀ y, ρ b L = some y → False) : ρ.le (ρ.put b L x) := by
  intro b' L' y hy
  unfold Rho.put
  rw [if_neg]
  · exact hy
  · rintro ⟨rfl, rfl⟩; exact h _ hy
noncomputable def AH.add (h : AH) (k : Blk) : AH := ⟨Nat.succ h.next, h.low, h.m.set h.next k⟩
theorem AH.get_add (h : AH) (k : Blk) (b : Nat) : (h.add k).get b = if b = h.next then some k else h.get b := T.get_set _ _ _ _
theorem add_sound {ρ : Rho} {h : AH} {w w' : World} (hr : HR ρ h w) (k : Blk) (C : Array Value) (lo hi : Nat) (hheap : w'.heap = w.heap.push (.cells C k.e (lo, hi))) (hos : w'.os = w.os) (htape : w'.tape = w.tape) (hout : w'.output = w.output)
    (hn : k.cells.n ≤ C.size) (hc : ∀ j v, k.cells.get j = some v → ∃ u, C[j]? = some u ∧ R ρ v u) (hf : ∀ i, k.fz ≤ i → i < C.size → ¬ (lo ≤ i ∧ i < hi)) (hlh : lo ≤ hi) (hob : k.minL ≤ k.cells.n + 1 := by exact Nat.zero_le _) :
    ∃ ρ', HR ρ' (h.add k) w' ∧ Step ρ h w ρ' (h.add k) w' ∧ ρ' h.next k.cells.n = some (w.heap.size, 0, C.size) := by
  have hno : ∀ L y, ρ h.next L = some y → False := fun L y hy => absurd (hr.fresh _ _ _ hy) (Nat.lt_irrefl _)
  have hle : ρ.le (ρ.put h.next k.cells.n (w.heap.size, 0, C.size)) := Rho.le_put (hno _)
  have hsize : w'.heap.size = w.heap.size + 1 := by rw [hheap]; simp
  have hold : ∀ i, i < w.heap.size → w'.heap[i]? = w.heap[i]? := fun i hi => by rw [hheap, Array.getElem?_push, if_neg (by omega)]
  refine ⟨ρ.put h.next k.cells.n (w.heap.size, 0, C.size), ⟨?_, ?_, ?_, ?_, ?_, ?_, fun b k' hk' ho => ?_⟩, ?_, Rho.put_same _ _ _ _⟩
  rotate_left 6
  · rw [AH.get_add] at hk'
    by_cases hb : b = h.next
    · rw [if_pos hb] at hk'; cases hk'; unfold Blk.IsObj at ho; omega
    · rw [if_neg hb] at hk'
      exact (hr.obj b k' hk' ho).mono hle fun cb S e => hold _ (hr.bound _ _ _ _ e)
  rotate_left 1
  · intro b L x hx
    rcases Rho.put_inv hx with ⟨rfl, _⟩ | hx
    · exact Nat.lt_succ_self _
    · exact Nat.lt_succ_of_lt (hr.fresh _ _ _ hx)
  · intro b k' hk'
    rw [AH.get_add] at hk'
    by_cases hb : b = h.next
    · subst hb; exact Nat.lt_succ_self _
    · rw [if_neg hb] at hk'; exact Nat.lt_succ_of_lt (hr.lives _ _ hk')
  · intro b L cb x hx
    rcases Rho.put_inv hx with ⟨_, _, hy⟩ | hx
    · cases hy; omega
    · have := hr.bound _ _ _ _ hx; omega
  · intro b L b' L' cb x x' k' hx hx' hk' hro'
    rcases Rho.put_inv hx with ⟨e1, e2, hy⟩ | gx <;> rcases Rho.put_inv hx' with ⟨e1', e2', hy'⟩ | gx'
    · cases hy; cases hy'; exact ⟨e1.trans e1'.symm, rfl⟩
    · cases hy; have := hr.bound _ _ _ _ gx'; omega
    · cases hy'; have := hr.bound _ _ _ _ gx; omega
    · rw [AH.get_add, if_neg (by have := hr.fresh _ _ _ gx; omega)] at hk'
      exact hr.inj _ _ _ _ _ _ _ _ gx gx' hk' hro'
  · intro b k' L x hk' hx
    rw [AH.get_add] at hk'
    by_cases hb : b = h.next
    · subst hb; rw [if_pos rfl] at hk'; cases hk'
      rcases Rho.put_inv hx with ⟨_, rfl, _⟩ | hx
      · exact Nat.le_refl _
      · exact absurd hx (fun hh => hno _ _ hh)
    · rw [if_neg hb] at hk'
      rcases Rho.put_inv hx with ⟨rfl, _⟩ | hx
      · exact absurd rfl hb
      · exact hr.top _ _ _ _ hk' hx
  · intro b k' L cb sh S hk' hx hm
    rw [AH.get_add] at hk'
    by_cases hb : b = h.next
    · subst hb; rw [if_pos rfl] at hk'; cases hk'
      rcases Rho.put_inv hx with ⟨_, rfl, hy⟩ | hx
      · cases hy
        refine ⟨C, lo, hi, by rw [hheap]; simp, rfl, by omega, ?_, fun _ => ⟨fun i hi1 hi2 => hf i (by omega) hi2, hlh, Int.le_refl _⟩⟩
        intro j v _ _ hv
        obtain ⟨u, hu, hR⟩ := hc j v hv
        exact ⟨u, by simpa using hu, hR.mono hle⟩
      · exact absurd hx (fun hh => hno _ _ hh)
    · rw [if_neg hb] at hk'
      rcases Rho.put_inv hx with ⟨rfl, _⟩ | hx
      · exact absurd rfl hb
      · exact (hr.blk _ _ _ _ _ _ hk' hx hm).mono hle (hold _ (hr.bound _ _ _ _ hx))
  · refine ⟨hle, ?_, ?_, Nat.le_succ _, hos, htape, hout, by omega, fun i hi _ => hold i hi, Nat.le_refl _, ?_, fun b hb hn => ⟨by rw [AH.get_add, if_neg (by omega)]; exact hn, fun L x hx => by
      rcases Rho.put_inv hx with ⟨rfl, _⟩ | hx
      · exact absurd hb (Nat.lt_irrefl _)
      · exact hx⟩⟩
    · intro b L cb x hx hlt
      rcases Rho.put_inv hx with ⟨_, _, hy⟩ | hx
      · cases hy; omega
      · exact ⟨L, x, hx⟩
    · intro b k' hk' hb
      rw [AH.get_add, if_neg (by omega)] at hk'
      exact ⟨k', hk', rfl⟩
    · intro b _ hb
      rw [AH.get_add, if_neg (by omega)]
noncomputable def Blk.more (k : Blk) (xs : List V) : Blk := ⟨Arr.pushAll xs k.cells, k.minL, k.fz, k.ro, k.e⟩
noncomputable def AH.grow (h : AH) (b : Nat) (k : Blk) (xs : List V) : AH := ⟨h.next, Nat.min h.low b, h.m.set b (k.more xs)⟩
theorem AH.get_grow (h : AH) (b : Nat) (k : Blk) (xs : List V) (b' : Nat) : (h.grow b k xs).get b' = if b' = b then some (k.more xs) else h.get b' := T.get_set _ _ _ _
section
variable {ρ : Rho} {h : AH} {w w' : World} {b L cb S : Nat} {sh : Int} {k : Blk} {xs : List V}
theorem grow_core (hr : HR ρ h w) (hk : h.get b = some k) (hL : L = k.cells.n) (hx : xs ≠ []) (hρ : ρ b L = some (cb, sh, S)) (hro : k.ro = false) (x : Nat × Int × Nat)
    (hos : w'.os = w.os) (htape : w'.tape = w.tape) (hout : w'.output = w.output) (hsize : w.heap.size ≤ w'.heap.size)
    (hx1 : x.1 < w'.heap.size) (hx2 : x.1 < w.heap.size → x.1 = cb) (hx3 : x.1 = cb → x.2 = (sh, S))
    (hnew : BlkOK (ρ.put b (L + xs.length) x) (k.more xs) (L + xs.length) x.1 x.2.1 x.2.2 w')
    (hsame : ∀ L0 cb0 sh0 S0, ρ b L0 = some (cb0, sh0, S0) → k.minL ≤ L0 → BlkOK (ρ.put b (L + xs.length) x) (k.more xs) L0 cb0 sh0 S0 w')
    (hother : ∀ i, i < w.heap.size → i ≠ cb → w'.heap[i]? = w.heap[i]?) (hob : k.minL ≤ k.cells.n + 1) :
    HR (ρ.put b (L + xs.length) x) (h.grow b k xs) w' ∧ Step ρ h w (ρ.put b (L + xs.length) x) (h.grow b k xs) w' := by
  have hpos : 0 < xs.length := List.length_pos_iff.2 hx
  have hno : ∀ y, ρ b (L + xs.length) = some y → False := fun y hy => by have := hr.top _ _ _ _ hk hy; omega
  have hle : ρ.le (ρ.put b (L + xs.length) x) := Rho.le_put hno
  have hmn : (k.more xs).cells.n = k.cells.n + xs.length := Arr.pushAll_n _ _
  constructor
  · refine ⟨?_, ?_, ?_, ?_, ?_, ?_, fun b' k' hk' ho => ?_⟩
    rotate_left 6
    · rw [AH.get_grow] at hk'
      by_cases hb : b' = b
      · rw [if_pos hb] at hk'
        cases hk'
        have ho' : (k.more xs).cells.n = 0 ∧ k.minL = 2 := ho
        omega
      · rw [if_neg hb] at hk'
        exact (hr.obj b' k' hk' ho).mono hle fun cb' S' e => hother _ (hr.bound _ _ _ _ e) fun he => hb (hr.apart hk' ho e (he ▸ hρ))
    · intro b' L' y hy
      rcases Rho.put_inv hy with ⟨rfl, _⟩ | hy
      · exact hr.lives _ _ hk
      · exact hr.fresh _ _ _ hy
    · intro b' k' hk'
      rw [AH.get_grow] at hk'
      by_cases hb : b' = b
      · subst hb; exact hr.lives _ _ hk
      · rw [if_neg hb] at hk'; exact hr.lives _ _ hk'
    · intro b' L' cb' y hy
      rcases Rho.put_inv hy with ⟨_, _, hy⟩ | hy
      · rw [show cb' = x.1 from by rw [← hy]]; exact hx1
      · exact Nat.lt_of_lt_of_le (hr.bound _ _ _ _ hy) hsize
    · intro b1 L1 b2 L2 c y1 y2 k' h1 h2 hk' hro'
      rcases Rho.put_inv h1 with ⟨i1, j1, e1⟩ | g1 <;> rcases Rho.put_inv h2 with ⟨i2, j2, e2⟩ | g2
      · subst e1; cases e2; exact ⟨i1.trans i2.symm, rfl⟩
      · subst e1
        obtain rfl : c = cb := hx2 (hr.bound _ _ _ _ g2)
        obtain ⟨q1, q2⟩ := hr.inj _ _ _ _ _ _ _ _ hρ g2 hk hro
        exact ⟨i1.trans q1, (hx3 rfl).trans q2⟩
      · subst e2
        obtain rfl : c = cb := hx2 (hr.bound _ _ _ _ g1)
        obtain ⟨q1, q2⟩ := hr.inj _ _ _ _ _ _ _ _ hρ g1 hk hro
        exact ⟨q1.symm.trans i2.symm, q2.symm.trans (hx3 rfl).symm⟩
      · rw [AH.get_grow] at hk'
        by_cases hb : b1 = b
        · subst hb; exact hr.inj _ _ _ _ _ _ _ _ g1 g2 hk hro
        · rw [if_neg hb] at hk'; exact hr.inj _ _ _ _ _ _ _ _ g1 g2 hk' hro'
    · intro b' k' L' y hk' hy
      rw [AH.get_grow] at hk'
      by_cases hb : b' = b
      · subst hb; rw [if_pos rfl] at hk'; cases hk'
        rcases Rho.put_inv hy with ⟨_, rfl, _⟩ | hy
        · omega
        · have := hr.top _ _ _ _ hk hy; omega
      · rw [if_neg hb] at hk'
        rcases Rho.put_inv hy with ⟨rfl, _⟩ | hy
        · exact absurd rfl hb
        · exact hr.top _ _ _ _ hk' hy
    · intro b' k' L' cb' sh' S' hk' hy hm
      rw [AH.get_grow] at hk'
      by_cases hb : b' = b
      · subst hb; rw [if_pos rfl] at hk'; cases hk'
        rcases Rho.put_inv hy with ⟨_, rfl, e⟩ | hy
        · subst e; exact hnew
        · exact hsame _ _ _ _ hy hm
      · rw [if_neg hb] at hk'
        rcases Rho.put_inv hy with ⟨rfl, _⟩ | hy
        · exact absurd rfl hb
        · refine (hr.blk _ _ _ _ _ _ hk' hy hm).mono hle (hother _ (hr.bound _ _ _ _ hy) ?_)
          rintro rfl
          exact hb (hr.inj _ _ _ _ _ _ _ _ hρ hy hk hro).1.symm
  · refine ⟨hle, ?_, ?_, Nat.le_refl _, hos, htape, hout, hsize, ?_, Nat.min_le_left _ _, ?_, fun b' hb' hn => ⟨by
      rw [AH.get_grow, if_neg (by rintro rfl; rw [hk] at hn; cases hn)]; exact hn, fun L' x' hx' => by
      rcases Rho.put_inv hx' with ⟨rfl, _⟩ | hx'
      · rw [hk] at hn; cases hn
      · exact hx'⟩⟩
    · intro b' L' c y hy hlt
      rcases Rho.put_inv hy with ⟨rfl, _, e⟩ | hy
      · have hc : c = x.1 := by rw [← e]
        have : x.1 = cb := hx2 (by rw [← hc]; exact hlt)
        exact ⟨L, (sh, S), by rw [hc, this]; exact hρ⟩
      · exact ⟨L', y, hy⟩
    · intro b' k' hk' _
      rw [AH.get_grow] at hk'
      by_cases hb : b' = b
      · subst hb; rw [if_pos rfl] at hk'; cases hk'; exact ⟨k, hk, rfl⟩
      · rw [if_neg hb] at hk'; exact ⟨k', hk', rfl⟩
    · intro i hi hn
      refine hother i hi ?_
      rintro rfl
      exact hn ⟨_, _, _, k, hρ, hk, hro⟩
    · intro b' hb _
      have h0 : Nat.min h.low b ≤ b := Nat.min_le_right h.low b
      have hb' : b' < Nat.min h.low b := hb
      rw [AH.get_grow, if_neg (by omega)]
theorem get_more (k : Blk) (xs : List V) (j : Nat) : (k.more xs).cells.get j = if j < k.cells.n then k.cells.get j else xs[j - k.cells.n]? := Arr.get_pushAll _ _ _
theorem grow_here (P : Program) (hr : HR ρ h w) (hk : h.get b = some k) (hL : L = k.cells.n) (hx : xs ≠ []) (hρ : ρ b L = some (cb, sh, S)) (hro : k.ro = false) (hm : k.minL ≤ L) (hfz : k.fz ≤ L) (hsh : sh ≤ L)
    {us : List Value} (hR : RL ρ xs us) (hc : xs.all V.cell = true) (hroom : ((L : Int) - sh).toNat + us.length ≤ S) :
    ∃ w', (storeCells ⟨cb, ((L : Int) - sh).toNat, none⟩ us).run P w = .ok () w' ∧ HR (ρ.put b (L + xs.length) (cb, sh, S)) (h.grow b k xs) w' ∧ Step ρ h w (ρ.put b (L + xs.length) (cb, sh, S)) (h.grow b k xs) w' := by
  obtain ⟨cs, lo, hi, g1, g2, g3, g4, g5⟩ := hr.blk _ k _ cb sh S hk hρ hm
  have hlen := hR.length
  have hno : ∀ y, ρ b (L + xs.length) = some y → False := fun y hy => by
    have := hr.top _ _ _ _ hk hy
    have : 0 < xs.length := List.length_pos_iff.2 hx
    omega
  have hle : ρ.le (ρ.put b (L + xs.length) (cb, sh, S)) := Rho.le_put hno
  obtain ⟨w', c', f1, f2, f3, f4, f5, f6, f7, f8, f9⟩ := store_run P cb (((L : Int) - sh).toNat) k.e lo hi us 0 w cs g1 (by omega) (RL_oneCell hR hc) (fun j _ hj => (g5 hro).1 (((L : Int) - sh).toNat + j) (by omega) (by omega))
  refine ⟨w', f1, grow_core hr hk hL hx hρ hro _ f7 f8 f9 (Nat.le_of_eq f6.symm) (by rw [f6]; exact hr.bound _ _ _ _ hρ) (fun _ => rfl) (fun _ => rfl) ?_ ?_ (fun i _ hne => f5 i hne) (by omega)⟩
  · refine ⟨c', lo, hi, f2, by rw [f3]; exact g2, by simp only; omega, ?_, g5⟩
    intro j v hj hjL hv
    simp only at hj hjL ⊢
    rw [get_more] at hv
    rw [f4]
    by_cases hj2 : j < k.cells.n
    · rw [if_pos hj2] at hv
      rw [if_neg (by omega)]
      obtain ⟨u, hu, hRu⟩ := g4 j v hj (by omega) hv
      exact ⟨u, hu, hRu.mono hle⟩
    · rw [if_neg hj2] at hv
      rw [if_pos (by omega), show ((j : Int) - sh).toNat - (((L : Int) - sh).toNat + 0) = j - k.cells.n from by omega]
      obtain ⟨u, hu, hRu⟩ := hR.get hv
      exact ⟨u, hu, hRu.mono hle⟩
  · intro L0 cb0 sh0 S0 h0 hm0
    have hL0 := hr.top _ _ _ _ hk h0
    obtain ⟨cs0, lo0, hi0, q1, q2, q3, q4, q5⟩ := hr.blk _ k _ cb0 sh0 S0 hk h0 hm0
    by_cases hcb : cb0 = cb
    · subst hcb
      rw [g1] at q1
      cases q1
      refine ⟨c', lo, hi, f2, by rw [f3]; exact q2, q3, ?_, q5⟩
      intro j v hj hjL hv
      rw [get_more, if_pos (by omega)] at hv
      obtain ⟨u, hu, hRu⟩ := q4 j v hj hjL hv
      rw [f4]
      have hs := (hr.inj _ _ _ _ _ _ _ _ hρ h0 hk hro).2
      cases hs
      rw [if_neg (by omega)]
      exact ⟨u, hu, hRu.mono hle⟩
    · refine ⟨cs0, lo0, hi0, (f5 _ hcb).trans q1, q2, q3, ?_, q5⟩
      intro j v hj hjL hv
      rw [get_more, if_pos (by omega)] at hv
      obtain ⟨u, hu, hRu⟩ := q4 j v hj hjL hv
      exact ⟨u, hu, hRu.mono hle⟩
theorem grow_there (hr : HR ρ h w) (hk : h.get b = some k) (hL : L = k.cells.n) (hx : xs ≠ []) (hρ : ρ b L = some (cb, sh, S)) (hro : k.ro = false) (hm : k.minL ≤ L) (o : Nat) (ho : sh ≤ o) (hoL : o ≤ L)
    {us : List Value} (hR : RL ρ xs us) (C : Array Value) (hheap : w'.heap = w.heap.push (.cells C k.e (0, 0))) (hos : w'.os = w.os) (htape : w'.tape = w.tape) (hout : w'.output = w.output)
    (hsize : L - o + us.length ≤ C.size) (hold : ∀ i, i < L - o → C[i]? = (w.cell? ⟨cb, ((o : Int) - sh).toNat + i, none⟩)) (hnew : ∀ i, i < us.length → C[L - o + i]? = us[i]?) :
    HR (ρ.put b (L + xs.length) (w.heap.size, o, C.size)) (h.grow b k xs) w' ∧ Step ρ h w (ρ.put b (L + xs.length) (w.heap.size, o, C.size)) (h.grow b k xs) w' := by
  obtain ⟨cs, lo, hi, g1, g2, g3, g4, g5⟩ := hr.blk _ k _ cb sh S hk hρ hm
  have hlen := hR.length
  have hcell : ∀ i, w.cell? ⟨cb, i, none⟩ = cs[i]? := fun i => by unfold World.cell?; simp [g1]
  have hno : ∀ y, ρ b (L + xs.length) = some y → False := fun y hy => by
    have := hr.top _ _ _ _ hk hy
    have : 0 < xs.length := List.length_pos_iff.2 hx
    omega
  have hle : ρ.le (ρ.put b (L + xs.length) (w.heap.size, o, C.size)) := Rho.le_put hno
  have hkeep : ∀ i, i < w.heap.size → w'.heap[i]? = w.heap[i]? := fun i hi => by rw [hheap, Array.getElem?_push, if_neg (by omega)]
  have hsz : w'.heap.size = w.heap.size + 1 := by rw [hheap]; simp
  refine grow_core hr hk hL hx hρ hro _ hos htape hout (by omega) (by simp only; omega) (fun hlt => absurd hlt (by simp)) (fun heq => ?_) ?_ ?_ (fun i hi _ => hkeep i hi) (by omega)
  · simp only at heq; have := hr.bound _ _ _ _ hρ; omega
  · refine ⟨C, 0, 0, by rw [hheap]; simp [Blk.more], rfl, by simp only; omega, ?_, fun _ => ⟨fun i _ _ => by omega, Nat.le_refl 0, Int.natCast_nonneg o⟩⟩
    intro j v hj hjL hv
    simp only at hj hjL ⊢
    rw [get_more] at hv
    by_cases hj2 : j < k.cells.n
    · rw [if_pos hj2] at hv
      obtain ⟨u, hu, hRu⟩ := g4 j v (by omega) (by omega) hv
      rw [show ((j : Int) - (o : Int)).toNat = j - o from by omega, hold _ (by omega), hcell, show ((o : Int) - sh).toNat + (j - o) = ((j : Int) - sh).toNat from by omega]
      exact ⟨u, hu, hRu.mono hle⟩
    · rw [if_neg hj2] at hv
      obtain ⟨u, hu, hRu⟩ := hR.get hv
      have hlt := (List.getElem?_eq_some_iff.1 hu).1
      have := hnew _ hlt
      rw [show L - o + (j - k.cells.n) = j - o from by omega] at this
      rw [show ((j : Int) - (o : Int)).toNat = j - o from by omega, this]
      exact ⟨u, hu, hRu.mono hle⟩
  · intro L0 cb0 sh0 S0 h0 hm0
    have hL0 := hr.top _ _ _ _ hk h0
    obtain ⟨cs0, lo0, hi0, q1, q2, q3, q4, q5⟩ := hr.blk _ k _ cb0 sh0 S0 hk h0 hm0
    refine ⟨cs0, lo0, hi0, (hkeep _ (hr.bound _ _ _ _ h0)).trans q1, q2, q3, ?_, q5⟩
    intro j v hj hjL hv
    rw [get_more, if_pos (by omega)] at hv
    obtain ⟨u, hu, hRu⟩ := q4 j v hj hjL hv
    exact ⟨u, hu, hRu.mono hle⟩
end
end Go.Proofs.YtcphjmgfgfjnpaaGreatDoor.Ev
namespace Go.Proofs.YtcphjmgfgfjnpaaGreatDoor.Ev
open Go
theorem map_toNat_inj : ∀ {a b : List UInt8}, a.map UInt8.toNat = b.map UInt8.toNat → a = b := by
  intro a
  induction a with
  | nil => intro b h; cases b with | nil => rfl | cons => simp at h
  | cons x a ih =>
    intro b h
    cases b with
    | nil => simp at h
    | cons y b =>
      simp only [List.map_cons, List.cons.injEq] at h
      rw [UInt8.toNat_inj.1 h.1, ih h.2]
theorem toList_data (s : ByteArray) : s.toList = s.data.toList := by
  exact ByteArray.toList_eq s
def natsLt : List Nat → List Nat → Bool
  | _, [] => false
  | [], _ :: _ => true
  | a :: x, b :: y => Nat.blt a b || (Nat.beq a b && natsLt x y)
theorem natsLt_eq : ∀ (a b : List UInt8), natsLt (a.map UInt8.toNat) (b.map UInt8.toNat) = Op.bytesLess a b := by
  intro a
  induction a with
  | nil => intro b; cases b <;> rfl
  | cons x a ih =>
    intro b
    cases b with
    | nil => rfl
    | cons y b =>
      simp only [List.map_cons, natsLt, Op.bytesLess, ih]
      have h1 : Nat.blt x.toNat y.toNat = decide (x < y) := by rw [Arr.blt_eq]; simp [UInt8.lt_iff_toNat_lt]
      have h2 : Nat.beq x.toNat y.toNat = (x == y) := by
        rw [Bool.eq_iff_iff]; simp [UInt8.toNat_inj]
      rw [h1, h2]
def natsEq : List Nat → List Nat → Bool
  | [], [] => true
  | a :: x, b :: y => Nat.beq a b && natsEq x y
  | _, _ => false
theorem natsEq_eq : ∀ (a b : List Nat), natsEq a b = (a == b) := by
  intro a
  induction a with
  | nil => intro b; cases b <;> rfl
  | cons x a ih =>
    intro b
    cases b with
    | nil => rfl
    | cons y b =>
      simp only [natsEq, ih, List.cons_beq_cons]
      congr 1
      rw [Bool.eq_iff_iff]
      simp
def intBin (op : BinOp) (k : IntKind) (a b : Int) : Option V :=
  match op with
  | .add => some (.int k (k.wrap (a + b)))
  | .sub => some (.int k (k.wrap (a - b)))
  | .mul => some (.int k (k.wrap (a * b)))
  | .quo => if b = 0 then none else some (.int k (k.wrap (a.tdiv b)))
  | .rem => if b = 0 then none else some (.int k (a.tmod b))
  | .and => some (.int k (k.wrap (BitVec.ofInt k.bits a &&& BitVec.ofInt k.bits b).toNat))
  | .or => some (.int k (k.wrap (BitVec.ofInt k.bits a ||| BitVec.ofInt k.bits b).toNat))
  | .xor => some (.int k (k.wrap (BitVec.ofInt k.bits a ^^^ BitVec.ofInt k.bits b).toNat))
  | .andNot => some (.int k (k.wrap (BitVec.ofInt k.bits a &&& ~~~ BitVec.ofInt k.bits b).toNat))
  | .eql => some (.bool (a == b))
  | .neq => some (.bool (a != b))
  | .lss => some (.bool (a < b))
  | .leq => some (.bool (a ≤ b))
  | .gtr => some (.bool (a > b))
  | .geq => some (.bool (a ≥ b))
  | _ => none
def shiftV (op : BinOp) (k : IntKind) (a b : Int) : Option V :=
  if b < 0 then none else
  match op with
  | .shl => some (.int k (k.wrap (a * 2 ^ min b.toNat k.bits)))
  | .shr => some (.int k (a.fdiv (2 ^ min b.toNat k.bits)))
  | _ => none
def strBin (op : BinOp) (x y : List Nat) : Option V :=
  match op with
  | .add => if ((x.length + y.length : Nat) : Int) > IntKind.i64.max then none else some (.str (x ++ y))
  | .eql => some (.bool (natsEq x y))
  | .neq => some (.bool (!natsEq x y))
  | .lss => some (.bool (natsLt x y))
  | .leq => some (.bool (natsLt x y || natsEq x y))
  | .gtr => some (.bool (!(natsLt x y || natsEq x y)))
  | .geq => some (.bool (!natsLt x y))
  | _ => none
def partV (P : Program) (t : TypeId) (cs : List V) (off : Nat) : Option V :=
  match P.underlying t with
  | some (.struct _) | some (.array _ _) => some (.agg ((cs.drop off).take (P.cellsOf t)))
  | some _ => cs[off]?
  | none => none
theorem underlying_info {P : Program} {t : TypeId} {d : TypeDesc} (h : P.underlying t = some d) : ∃ i, P.info? t = some i := by
  unfold Program.underlying at h
  cases hi : P.info? t with
  | none => rw [hi] at h; cases h
  | some i => exact ⟨i, rfl⟩
theorem run_sizeOf {P : Program} {t : TypeId} {i : TypeInfo} (h : P.info? t = some i) (w : World) : (sizeOf t).run P w = .ok (P.cellsOf t) w := by
  simp [sizeOf, typeInfo, h, Program.cellsOf]
theorem run_sizeOf' {P : Program} {t : TypeId} {d : TypeDesc} (h : P.underlying t = some d) (w : World) : (sizeOf t).run P w = .ok (P.cellsOf t) w := by
  obtain ⟨i, hi⟩ := underlying_info h
  exact run_sizeOf hi w
theorem part_sound {P : Program} {ρ : Rho} {t : TypeId} {cs : List V} {off : Nat} {v : V} {xs : Array Value} (hR : RL ρ cs xs.toList) (h : partV P t cs off = some v) (w : World) : ∃ u, (part t xs off).run P w = .ok u w ∧ R ρ v u := by
  unfold partV at h
  split at h
  · rename_i fs hu
    cases h
    refine ⟨.agg (xs.extract off (off + P.cellsOf t)), by simp [part, isAgg, run_underlying hu, run_sizeOf' hu], _, rfl, ?_⟩
    rw [Array.toList_extract]
    simp only [List.extract_eq_take_drop, Nat.add_sub_cancel_left]
    exact (hR.drop off).take _
  · rename_i n e hu
    cases h
    refine ⟨.agg (xs.extract off (off + P.cellsOf t)), by simp [part, isAgg, run_underlying hu, run_sizeOf' hu], _, rfl, ?_⟩
    rw [Array.toList_extract]
    simp only [List.extract_eq_take_drop, Nat.add_sub_cancel_left]
    exact (hR.drop off).take _
  · rename_i d h1 h2 hu
    obtain ⟨y, hy, hRy⟩ := hR.get h
    rw [Array.getElem?_toList] at hy
    refine ⟨y, ?_, hRy⟩
    have hagg : (isAgg t).run P w = .ok false w := by
      unfold isAgg
      simp only [Sem.run_bind, run_underlying hu, Result.andThen_ok]
      rfl
    unfold part
    simp [hagg, hy]
  · cases h
def allM {α : Type} (g : α → Option Bool) : List α → Option Bool
  | [] => some true
  | x :: xs => match g x with
    | none => none
    | some false => some false
    | some true => allM g xs
theorem allM_run {α : Type} (P : Program) (w : World) (g : α → Option Bool) (f : α → Option Bool × Unit → Sem (ForInStep (Option Bool × Unit))) : ∀ (l : List α) (r : Bool),
    (∀ x ∈ l, ∀ b, g x = some b → ∀ s, (f x s).run P w = .ok (if b then .yield (none, ()) else .done (some false, ())) w) → allM g l = some r →
    (forIn l (none, ()) f).run P w = .ok (if r then none else some false, ()) w := by
  intro l
  induction l with
  | nil => intro r _ h; simp only [allM] at h; cases h; rfl
  | cons x xs ih =>
    intro r hf h
    simp only [allM] at h
    rw [List.forIn_cons, Sem.run_bind]
    cases hg : g x with
    | none => rw [hg] at h; cases h
    | some b =>
      rw [hg] at h
      rw [hf x (by simp) b hg]
      cases b with
      | false => cases h; rfl
      | true => exact ih r (fun y hy => hf y (by simp [hy])) h
def absEq (P : Program) : Nat → TypeId → V → V → Option Bool
  | 0, _, _, _ => none
  | d + 1, t, x, y =>
    match P.underlying t, x, y with
    | some .bool, .bool a, .bool b => some (a == b)
    | some (.int _), .int k a, .int k' b => if k = k' then some (a == b) else none
    | some .string, .str a, .str b => some (natsEq a b)
    | some (.pointer _), .nilptr, .nilptr => some true
    | some (.pointer _), .nilptr, .ptr _ => some false
    | some (.pointer _), .ptr _, .nilptr => some false
    | some (.pointer e), .ptr p, .ptr q =>
      match P.info? e with
      | some j => if j.size ≠ 0 ∧ p.b = q.b ∧ p.L = q.L ∧ p.o = q.o then some true else none
      | none => none
    | some (.interface _), .nilIface, .nilIface => some true
    | some (.interface _), .nilIface, .iface _ _ => some false
    | some (.interface _), .iface _ _, .nilIface => some false
    | some (.interface _), .iface tx vx, .iface ty vy =>
      if tx ≠ ty then some false else
      match P.info? tx with
      | some i => if i.comparable then absEq P d tx vx vy else none
      | none => none
    | some (.struct fs), .agg xs, .agg ys =>
      if P.stoodInHeld t then none else
      allM (fun f : Field => if f.name = "_" then some true else
        match partV P f.type xs f.offset, partV P f.type ys f.offset with
        | some a, some b => absEq P d f.type a b
        | _, _ => none) fs.toList
    | some (.array len e), .agg xs, .agg ys =>
      match P.info? e with
      | none => none
      | some _ => allM (fun i : Nat => match partV P e xs (i * P.cellsOf e), partV P e ys (i * P.cellsOf e) with
        | some a, some b => absEq P d e a b
        | _, _ => none) (List.range' 0 len)
    | some (.slice _), .nilslice, .nilslice => some true
    | some (.slice _), .nilslice, .slice .. => some false
    | some (.slice _), .slice .., .nilslice => some false
    | some (.slice _), .nilslice, .loose => some false
    | some (.slice _), .loose, .nilslice => some false
    | some (.func _ _ _), .nilFunc, .nilFunc => some true
    | some (.func _ _ _), .nilFunc, .func .. => some false
    | some (.func _ _ _), .func .., .nilFunc => some false
    | _, _, _ => none
set_option maxHeartbeats 2000000 in
theorem absEq_sound {P : Program} {ρ : Rho} (w : World) : ∀ (d : Nat) (t : TypeId) (x y : V) (a b : Value) (r : Bool), R ρ x a → R ρ y b → absEq P d t x y = some r → (Op.equalIn d t a b).run P w = .ok r w := by
  intro d
  induction d with
  | zero => intro t x y a b r _ _ h; cases h
  | succ d ih =>
    intro t x y a b r hx hy h
    unfold absEq at h
    split at h
    · rename_i p q hu; cases h; rw [show a = _ from hx, show b = _ from hy]; unfold Op.equalIn; simp [run_underlying hu]
    · rename_i k0 k m k' n hu
      split at h
      · rename_i hk; cases h; rw [show a = _ from hx, show b = _ from hy]; unfold Op.equalIn; simp [run_underlying hu, hk]
      · cases h
    · rename_i s s' hu
      cases h
      obtain ⟨u, rfl, rfl⟩ := hx
      obtain ⟨u', rfl, rfl⟩ := hy
      unfold Op.equalIn
      simp only [Sem.run_bind, run_underlying hu, Result.andThen_ok, Sem.run_pure]
      rw [natsEq_eq, beq_toListBytes, toList_data, toList_data]
      congr 1
      rw [Bool.eq_iff_iff]
      simp only [beq_iff_eq]
      exact ⟨fun e => by rw [e], fun e => map_toNat_inj e⟩
    · rename_i e hu; cases h; rw [show a = _ from hx, show b = _ from hy]; unfold Op.equalIn; simp [run_underlying hu]
    · rename_i e p hu; cases h; obtain ⟨c, rfl, _⟩ := hy; rw [show a = _ from hx]; unfold Op.equalIn; simp [run_underlying hu]
    · rename_i e p hu; cases h; obtain ⟨c, rfl, _⟩ := hx; rw [show b = _ from hy]; unfold Op.equalIn; simp [run_underlying hu]
    · rename_i e p q hu
      split at h
      case h_2 => cases h
      rename_i j hj
      split at h
      case isFalse => cases h
      rename_i hc
      cases h
      obtain ⟨_, hb, hL, ho⟩ := hc
      obtain ⟨c, rfl, cb, sh, S, g1, g2, rfl⟩ := hx
      obtain ⟨c', rfl, cb', sh', S', g1', g2', rfl⟩ := hy
      rw [hb, hL] at g1
      rw [g1] at g1'
      cases g1'
      rw [ho]
      unfold Op.equalIn
      simp [run_underlying hu, sizeOf, typeInfo, hj, run_sameAddr_same]
    · rename_i e hu; cases h; rw [show a = _ from hx, show b = _ from hy]; unfold Op.equalIn; simp [run_underlying hu]
    · rename_i e tt vv hu; cases h; obtain ⟨c, rfl, _⟩ := hy; rw [show a = _ from hx]; unfold Op.equalIn; simp [run_underlying hu]
    · rename_i e tt vv hu; cases h; obtain ⟨c, rfl, _⟩ := hx; rw [show b = _ from hy]; unfold Op.equalIn; simp [run_underlying hu]
    · rename_i e tx vx ty vy hu
      obtain ⟨c, rfl, hc⟩ := hx
      obtain ⟨c', rfl, hc'⟩ := hy
      unfold Op.equalIn
      simp only [Sem.run_bind, run_underlying hu, Result.andThen_ok]
      split at h
      · rename_i hne; cases h; simp [hne]
      · rename_i hne
        have heq : tx = ty := by simpa using hne
        subst heq
        split at h
        · rename_i i hi
          split at h
          · rename_i hcomp
            simp [typeInfo, hi, hcomp]
            exact ih _ _ _ _ _ _ hc hc' h
          · cases h
        · cases h
    · rename_i fs xs ys hu
      obtain ⟨us, rfl, hus⟩ := hx
      obtain ⟨us', rfl, hus'⟩ := hy
      split at h
      · cases h
      · rename_i hst
        unfold Op.equalIn
        simp only [Sem.run_bind, run_underlying hu, Result.andThen_ok, run_program, hst, Bool.false_eq_true, if_false, ← Array.forIn_toList]
        have hall := allM_run P w _ (fun f (__s : Option Bool × Unit) =>
              if f.name ≠ "_" then do
                let __do_lift ← part f.type us f.offset
                let __do_lift_1 ← part f.type us' f.offset
                let __do_lift ← Op.equalIn d f.type __do_lift __do_lift_1
                if (!__do_lift) = true then pure (ForInStep.done (some false, ())) else pure (ForInStep.yield (none, ()))
              else pure (ForInStep.yield (none, ()))) fs.toList r (fun f hf b hb s => by
          split at hb
          · rename_i hn; cases hb; simp [hn]
          · rename_i hn
            split at hb
            · rename_i va vb ha hb'
              obtain ⟨ua, h1, h2⟩ := part_sound hus ha w
              obtain ⟨ub, h3, h4⟩ := part_sound hus' hb' w
              simp only [ne_eq, hn, not_false_eq_true, if_true, Sem.run_bind, h1, h3, Result.andThen_ok, ih _ _ _ _ _ _ h2 h4 hb]
              cases b <;> rfl
            · cases hb) h
        rw [hall]
        cases r <;> rfl
    · rename_i len e xs ys hu
      obtain ⟨us, rfl, hus⟩ := hx
      obtain ⟨us', rfl, hus'⟩ := hy
      split at h
      · cases h
      · rename_i ie hie
        unfold Op.equalIn
        simp only [Sem.run_bind, run_underlying hu, Result.andThen_ok, run_sizeOf hie, Std.Legacy.Range.forIn_eq_forIn_range', Std.Legacy.Range.size, Nat.sub_zero, Nat.add_one_sub_one, Nat.div_one]
        have hall := allM_run P w _ (fun i (__s : Option Bool × Unit) => do
              let __do_lift ← part e us (i * P.cellsOf e)
              let __do_lift_1 ← part e us' (i * P.cellsOf e)
              let __do_lift ← Op.equalIn d e __do_lift __do_lift_1
              if (!__do_lift) = true then pure (ForInStep.done (some false, ())) else pure (ForInStep.yield (none, ()))) (List.range' 0 len) r (fun i hi b hb s => by
          split at hb
          · rename_i va vb ha hb'
            obtain ⟨ua, h1, h2⟩ := part_sound hus ha w
            obtain ⟨ub, h3, h4⟩ := part_sound hus' hb' w
            simp only [Sem.run_bind, h1, h3, Result.andThen_ok, ih _ _ _ _ _ _ h2 h4 hb]
            cases b <;> rfl
          · cases hb) h
        rw [hall]
        cases r <;> rfl
    · rename_i e hu; cases h; rw [show a = _ from hx, show b = _ from hy]; unfold Op.equalIn; simp [run_underlying hu]
    · rename_i hu; cases h; obtain ⟨_, _, _, _, rfl, _⟩ := hy; rw [show a = _ from hx]; unfold Op.equalIn; simp [run_underlying hu]
    · rename_i hu; cases h; obtain ⟨_, _, _, _, rfl, _⟩ := hx; rw [show b = _ from hy]; unfold Op.equalIn; simp [run_underlying hu]
    · rename_i hu; cases h; obtain ⟨_, _, rfl⟩ := hy; rw [show a = _ from hx]; unfold Op.equalIn; simp [run_underlying hu]
    · rename_i hu; cases h; obtain ⟨_, _, rfl⟩ := hx; rw [show b = _ from hy]; unfold Op.equalIn; simp [run_underlying hu]
    · rename_i hu; cases h; rw [show a = _ from hx, show b = _ from hy]; unfold Op.equalIn; simp [run_underlying hu]
    · rename_i hu; cases h; obtain ⟨_, _, rfl, _⟩ := hy; rw [show a = _ from hx]; unfold Op.equalIn; simp [run_underlying hu]
    · rename_i hu; cases h; obtain ⟨_, _, rfl, _⟩ := hx; rw [show b = _ from hy]; unfold Op.equalIn; simp [run_underlying hu]
    · cases h
end Go.Proofs.YtcphjmgfgfjnpaaGreatDoor.Ev
namespace Go.Proofs.YtcphjmgfgfjnpaaGreatDoor.Ev
open Go
def V.tag : V → Nat
  | .bad => 0 | .bool _ => 1 | .int .. => 2 | .str _ => 3 | .ptr _ => 4 | .nilptr => 4 | .slice .. => 5 | .nilslice => 5 | .loose => 5 | .func .. => 6 | .nilFunc => 7 | .iface .. => 8 | .nilIface => 9 | .agg _ => 10 | .tuple _ => 11 | .mapv _ => 14 | .nilmap => 14 | .complex .. => 13 | .float .. => 12 | .yield _ => 6 | .rcd .. => 16
def valueTag : Value → Nat
  | .bool _ => 1 | .int .. => 2 | .float .. => 12 | .complex .. => 13 | .string _ => 3 | .pointer _ => 4 | .slice .. => 5 | .map _ => 14 | .chan _ => 15 | .func .. => 6 | .nilFunc => 7 | .iface .. => 8 | .nilIface => 9 | .agg _ => 10 | .tuple _ => 11
theorem R_tag {ρ : Rho} {x : V} {a : Value} (h : R ρ x a) (hb : x.isBad = false) : valueTag a = x.tag := by
  cases x
  case bad => cases hb
  case bool => rw [show a = _ from h]; rfl
  case int => rw [show a = _ from h]; rfl
  case str => obtain ⟨_, rfl, _⟩ := h; rfl
  case ptr => obtain ⟨_, rfl, _⟩ := h; rfl
  case nilptr => rw [show a = _ from h]; rfl
  case slice => obtain ⟨_, _, _, _, rfl, _⟩ := h; rfl
  case nilslice => rw [show a = _ from h]; rfl
  case loose => obtain ⟨_, _, rfl⟩ := h; rfl
  case func => obtain ⟨_, _, rfl, _⟩ := h; rfl
  case nilFunc => rw [show a = _ from h]; rfl
  case iface => obtain ⟨_, rfl, _⟩ := h; rfl
  case nilIface => rw [show a = _ from h]; rfl
  case agg => obtain ⟨_, rfl, _⟩ := h; rfl
  case tuple => obtain ⟨_, rfl, _⟩ := h; rfl
  case mapv => obtain ⟨_, _, rfl, _⟩ := h; rfl
  case nilmap => rw [show a = _ from h]; rfl
  case complex => rw [show a = _ from h]; rfl
  case float => rw [show a = _ from h]; rfl
  case yield => obtain ⟨_, _, rfl, _⟩ := h; rfl
  case rcd => cases hb
def plainTags (m n : Nat) : Bool := !(m == n && (m == 2 || m == 3 || m == 12 || m == 13))
theorem binOp_eql {t : TypeId} {a b : Value} (h : plainTags (valueTag a) (valueTag b) = true) : binOp .eql t a b = (do pure (.bool (← Op.equal t a b))) := by
  cases a <;> cases b <;> first | rfl | (simp [plainTags, valueTag] at h)
theorem binOp_neq {t : TypeId} {a b : Value} (h : plainTags (valueTag a) (valueTag b) = true) : binOp .neq t a b = (do pure (.bool (!(← Op.equal t a b)))) := by
  cases a <;> cases b <;> first | rfl | (simp [plainTags, valueTag] at h)
def isC : Operand → Bool
  | .const _ => true
  | _ => false
def eqV (P : Program) (t : TypeId) (xo yo : Operand) (x y : V) : Option Bool :=
  if x.isBad || y.isBad then none else
  match x, y with
  | .nilIface, .nilIface => if isC xo || isC yo then absEq P 10000 t x y else none
  | .agg _, .agg _ => if P.eqGuardType P.depth t then none else absEq P 10000 t x y
  | x, y => absEq P 10000 t x y
def numV : Value → Option V
  | .bool b => some (.bool b)
  | .int k n => some (.int k n)
  | .float k a => some (.float k a)
  | .complex k a b => some (.complex k a b)
  | _ => none
def pureOf (s : Sem Value) : Option V :=
  match s with
  | .pure v => numV v
  | _ => none
theorem pureOf_sound {s : Sem Value} {v : V} (h : pureOf s = some v) : ∃ u, s = .pure u ∧ ∀ ρ, R ρ v u := by
  unfold pureOf at h
  split at h
  · rename_i u
    refine ⟨u, rfl, fun ρ => ?_⟩
    cases u <;> simp only [numV, Option.some.injEq, reduceCtorEq] at h <;> (subst h; rfl)
  · cases h
def absBin (P : Program) (op : BinOp) (t : TypeId) (xo yo : Operand) (x y : V) : Option V :=
  match x, y with
  | .int k a, .int k' b =>
    match op with
    | .shl | .shr => shiftV op k a b
    | _ => if k = k' then intBin op k a b else none
  | .str a, .str b => strBin op a b
  | .complex k a b, .complex k' c d => pureOf (binOp op t (.complex k a b) (.complex k' c d))
  | .float k a, .float k' b => pureOf (binOp op t (.float k a) (.float k' b))
  | x, y =>
    match op with
    | .eql => (eqV P t xo yo x y).map .bool
    | .neq => (eqV P t xo yo x y).map fun r => .bool (!r)
    | _ => none
theorem eqGuard_int (op : BinOp) (t : TypeId) (xo yo : Operand) (k k' : IntKind) (m n : Int) (P : Program) (w : World) : (eqGuard op t xo yo (.int k m) (.int k' n)).run P w = .ok () w := by
  cases op <;> rfl
theorem eqGuard_str (op : BinOp) (t : TypeId) (xo yo : Operand) (m n : ByteArray) (P : Program) (w : World) : (eqGuard op t xo yo (.string m) (.string n)).run P w = .ok () w := by
  cases op <;> rfl
theorem eqGuard_complex (op : BinOp) (t : TypeId) (xo yo : Operand) (k k' : FloatKind) (a b c d : Nat) (P : Program) (w : World) : (eqGuard op t xo yo (.complex k a b) (.complex k' c d)).run P w = .ok () w := by
  cases op <;> rfl
theorem eqGuard_float (op : BinOp) (t : TypeId) (xo yo : Operand) (k k' : FloatKind) (a b : Nat) (P : Program) (w : World) : (eqGuard op t xo yo (.float k a) (.float k' b)).run P w = .ok () w := by
  cases op <;> rfl
theorem eqGuard_other (op : BinOp) (t : TypeId) (xo yo : Operand) (a b : Value) (P : Program) (w : World) (h1 : ¬ (valueTag a = 9 ∧ valueTag b = 9)) (h2 : ¬ (valueTag a = 10 ∧ valueTag b = 10)) : (eqGuard op t xo yo a b).run P w = .ok () w := by
  cases op <;> (try rfl) <;> (cases a <;> first | rfl | (cases b <;> first | rfl | exact absurd ⟨rfl, rfl⟩ h1 | exact absurd ⟨rfl, rfl⟩ h2))
theorem tag9 {x : V} (h : x.tag = 9) : x = .nilIface := by cases x <;> first | rfl | (simp [V.tag] at h)
theorem tag10 {x : V} (h : x.tag = 10) : ∃ cs, x = .agg cs := by cases x <;> first | exact ⟨_, rfl⟩ | (simp [V.tag] at h)
theorem eqV_sound {P : Program} {ρ : Rho} {t : TypeId} {xo yo : Operand} {x y : V} {a b : Value} {r : Bool} (hx : R ρ x a) (hy : R ρ y b) (h : eqV P t xo yo x y = some r) (op : BinOp) (w : World) :
    (eqGuard op t xo yo a b).run P w = .ok () w ∧ (Op.equal t a b).run P w = .ok r w ∧ x.isBad = false ∧ y.isBad = false := by
  unfold eqV at h
  cases hbx : x.isBad with
  | true => simp [hbx] at h
  | false =>
    cases hby : y.isBad with
    | true => simp [hby] at h
    | false =>
      simp only [hbx, hby, Bool.or_self, Bool.false_eq_true, if_false] at h
      have hguard : ∀ r', absEq P 10000 t x y = some r' → (Op.equal t a b).run P w = .ok r' w := fun r' hr => absEq_sound w 10000 t x y a b r' hx hy hr
      split at h
      · split at h
        · rename_i hc
          refine ⟨?_, hguard _ h, rfl, rfl⟩
          rw [show a = _ from hx, show b = _ from hy]
          cases op <;> (try rfl) <;> (cases xo <;> cases yo <;> simp [isC] at hc <;> rfl)
        · cases h
      · rename_i xs ys
        split at h
        · cases h
        · rename_i hg
          obtain ⟨us, rfl, _⟩ := hx
          obtain ⟨us', rfl, _⟩ := hy
          refine ⟨?_, hguard _ h, rfl, rfl⟩
          cases op <;> (try rfl) <;> (simp [eqGuard, hg])
      · rename_i h1 h2
        refine ⟨?_, hguard _ h, rfl, rfl⟩
        have ha := R_tag hx hbx
        have hb := R_tag hy hby
        refine eqGuard_other _ _ _ _ _ _ _ _ ?_ ?_
        · rintro ⟨e1, e2⟩
          rw [ha] at e1; rw [hb] at e2
          exact h1 (tag9 e1) (tag9 e2)
        · rintro ⟨e1, e2⟩
          rw [ha] at e1; rw [hb] at e2
          obtain ⟨_, rfl⟩ := tag10 e1
          obtain ⟨_, rfl⟩ := tag10 e2
          exact h2 _ _ rfl rfl
theorem binOp_arith {op : BinOp} {t : TypeId} {k : IntKind} {m n : Int} (h : op = .add ∨ op = .sub ∨ op = .mul) : binOp op t (.int k m) (.int k n) = Op.intArith op k m n := by
  rcases h with rfl | rfl | rfl <;> simp [binOp]
theorem binOp_div {op : BinOp} {t : TypeId} {k : IntKind} {m n : Int} (h : op = .quo ∨ op = .rem) : binOp op t (.int k m) (.int k n) = Op.intDiv op k m n := by
  rcases h with rfl | rfl <;> simp [binOp]
theorem binOp_bits {op : BinOp} {t : TypeId} {k : IntKind} {m n : Int} (h : op = .and ∨ op = .or ∨ op = .xor ∨ op = .andNot) : binOp op t (.int k m) (.int k n) = Op.intBits op k m n := by
  rcases h with rfl | rfl | rfl | rfl <;> simp [binOp]
theorem binOp_cmp {op : BinOp} {t : TypeId} {k : IntKind} {m n : Int} (h : op = .eql ∨ op = .neq ∨ op = .lss ∨ op = .leq ∨ op = .gtr ∨ op = .geq) : binOp op t (.int k m) (.int k n) = Op.intCmp op m n := by
  rcases h with rfl | rfl | rfl | rfl | rfl | rfl <;> simp [binOp]
theorem intBin_sound {P : Program} {op : BinOp} {t : TypeId} {k : IntKind} {m n : Int} {v : V} (hop : op ≠ .shl ∧ op ≠ .shr) (h : intBin op k m n = some v) (w : World) : ∃ u, (binOp op t (.int k m) (.int k n)).run P w = .ok u w ∧ ∀ ρ, R ρ v u := by
  cases op <;> simp only [intBin] at h
  case add => cases h; exact ⟨_, by rw [binOp_arith (by simp)]; rfl, fun ρ => rfl⟩
  case sub => cases h; exact ⟨_, by rw [binOp_arith (by simp)]; rfl, fun ρ => rfl⟩
  case mul => cases h; exact ⟨_, by rw [binOp_arith (by simp)]; rfl, fun ρ => rfl⟩
  case quo =>
    by_cases hn : n = 0
    · rw [if_pos hn] at h; cases h
    · rw [if_neg hn] at h; cases h; exact ⟨_, by rw [binOp_div (by simp), Op.intDiv, if_neg hn]; rfl, fun ρ => rfl⟩
  case rem =>
    by_cases hn : n = 0
    · rw [if_pos hn] at h; cases h
    · rw [if_neg hn] at h; cases h; exact ⟨_, by rw [binOp_div (by simp), Op.intDiv, if_neg hn]; rfl, fun ρ => rfl⟩
  case and => cases h; exact ⟨_, by rw [binOp_bits (by simp)]; rfl, fun ρ => rfl⟩
  case or => cases h; exact ⟨_, by rw [binOp_bits (by simp)]; rfl, fun ρ => rfl⟩
  case xor => cases h; exact ⟨_, by rw [binOp_bits (by simp)]; rfl, fun ρ => rfl⟩
  case andNot => cases h; exact ⟨_, by rw [binOp_bits (by simp)]; rfl, fun ρ => rfl⟩
  case eql => cases h; exact ⟨_, by rw [binOp_cmp (by simp)]; rfl, fun ρ => rfl⟩
  case neq => cases h; exact ⟨_, by rw [binOp_cmp (by simp)]; rfl, fun ρ => rfl⟩
  case lss => cases h; exact ⟨_, by rw [binOp_cmp (by simp)]; rfl, fun ρ => rfl⟩
  case leq => cases h; exact ⟨_, by rw [binOp_cmp (by simp)]; rfl, fun ρ => rfl⟩
  case gtr => cases h; exact ⟨_, by rw [binOp_cmp (by simp)]; rfl, fun ρ => rfl⟩
  case geq => cases h; exact ⟨_, by rw [binOp_cmp (by simp)]; rfl, fun ρ => rfl⟩
  all_goals cases h
theorem shift_sound {P : Program} {op : BinOp} {t : TypeId} {k k' : IntKind} {m n : Int} {v : V} (hop : op = .shl ∨ op = .shr) (h : shiftV op k m n = some v) (w : World) : ∃ u, (binOp op t (.int k m) (.int k' n)).run P w = .ok u w ∧ ∀ ρ, R ρ v u := by
  unfold shiftV at h
  split at h
  · cases h
  · rename_i hn
    rcases hop with rfl | rfl
    · cases h; exact ⟨_, by simp only [binOp, Op.shift, if_neg hn]; rfl, fun ρ => rfl⟩
    · cases h; exact ⟨_, by simp only [binOp, Op.shift, if_neg hn]; rfl, fun ρ => rfl⟩
theorem strBin_sound {P : Program} {op : BinOp} {t : TypeId} {a b : ByteArray} {v : V} (h : strBin op (a.data.toList.map UInt8.toNat) (b.data.toList.map UInt8.toNat) = some v) (w : World) : ∃ u, (binOp op t (.string a) (.string b)).run P w = .ok u w ∧ ∀ ρ, R ρ v u := by
  have heq : natsEq (a.data.toList.map UInt8.toNat) (b.data.toList.map UInt8.toNat) = (a.toList == b.toList) := by
    rw [natsEq_eq, toList_data, toList_data, Bool.eq_iff_iff]
    simp only [beq_iff_eq]
    exact ⟨map_toNat_inj, fun e => by rw [e]⟩
  have hlt : natsLt (a.data.toList.map UInt8.toNat) (b.data.toList.map UInt8.toNat) = Op.bytesLess a.toList b.toList := by
    rw [natsLt_eq, toList_data, toList_data]
  have hsz : ∀ s : ByteArray, s.data.toList.length = s.size := fun s => by rw [Array.length_toList]; rfl
  cases op <;> simp only [strBin, heq, hlt, List.length_map, hsz] at h
  case add =>
    by_cases hn : ((a.size + b.size : Nat) : Int) > IntKind.i64.max
    · rw [if_pos hn] at h; cases h
    · rw [if_neg hn] at h
      cases h
      refine ⟨.string (a ++ b), by simp only [binOp, Op.stringOp, if_neg hn]; rfl, fun ρ => ⟨_, rfl, ?_⟩⟩
      rw [← List.map_append, ByteArray.data_append, Array.toList_append]
  case eql => cases h; exact ⟨_, rfl, fun ρ => rfl⟩
  case neq => cases h; exact ⟨_, rfl, fun ρ => rfl⟩
  case lss => cases h; exact ⟨_, rfl, fun ρ => rfl⟩
  case leq => cases h; exact ⟨_, rfl, fun ρ => rfl⟩
  case gtr => cases h; exact ⟨_, rfl, fun ρ => rfl⟩
  case geq => cases h; exact ⟨_, rfl, fun ρ => rfl⟩
  all_goals cases h
theorem bin_sound {P : Program} {ρ : Rho} {op : BinOp} {t : TypeId} {xo yo : Operand} {x y v : V} {a b : Value} (hx : R ρ x a) (hy : R ρ y b) (h : absBin P op t xo yo x y = some v) (w : World) :
    ∃ u, (do eqGuard op t xo yo a b; binOp op t a b : Sem Value).run P w = .ok u w ∧ R ρ v u := by
  unfold absBin at h
  split at h
  · rename_i k m k' n
    rw [show a = _ from hx, show b = _ from hy]
    simp only [Sem.run_bind, eqGuard_int, Result.andThen_ok]
    split at h
    · obtain ⟨u, h1, h2⟩ := shift_sound (P := P) (t := t) (k' := k') (.inl rfl) h w; exact ⟨u, h1, h2 ρ⟩
    · obtain ⟨u, h1, h2⟩ := shift_sound (P := P) (t := t) (k' := k') (.inr rfl) h w; exact ⟨u, h1, h2 ρ⟩
    · rename_i h1 h2
      split at h
      · rename_i hk
        subst hk
        obtain ⟨u, g1, g2⟩ := intBin_sound (P := P) (t := t) ⟨h1, h2⟩ h w; exact ⟨u, g1, g2 ρ⟩
      · cases h
  · rename_i s s'
    obtain ⟨u, rfl, rfl⟩ := hx
    obtain ⟨u', rfl, rfl⟩ := hy
    simp only [Sem.run_bind, eqGuard_str, Result.andThen_ok]
    obtain ⟨r, g1, g2⟩ := strBin_sound (P := P) (t := t) h w
    exact ⟨r, g1, g2 ρ⟩
  · rw [show a = _ from hx, show b = _ from hy]
    simp only [Sem.run_bind, eqGuard_complex, Result.andThen_ok]
    obtain ⟨u, g1, g2⟩ := pureOf_sound h
    exact ⟨u, by rw [g1]; rfl, g2 ρ⟩
  · rw [show a = _ from hx, show b = _ from hy]
    simp only [Sem.run_bind, eqGuard_float, Result.andThen_ok]
    obtain ⟨u, g1, g2⟩ := pureOf_sound h
    exact ⟨u, by rw [g1]; rfl, g2 ρ⟩
  · rename_i h1 h2 h3 h4
    have key : ∀ r, eqV P t xo yo x y = some r → plainTags (valueTag a) (valueTag b) = true := by
      intro r hr
      obtain ⟨_, _, hbx, hby⟩ := eqV_sound hx hy hr .eql w
      rw [R_tag hx hbx, R_tag hy hby]
      cases x <;> cases y <;> first | rfl | exact absurd rfl (h1 _ _ _ _ rfl) | exact absurd rfl (h2 _ _ rfl) | exact absurd rfl (h3 _ _ _ _ _ _ rfl) | exact absurd rfl (h4 _ _ _ _ rfl) | exact hx.elim | exact hy.elim | cases hbx | cases hby
    split at h
    · cases hr : eqV P t xo yo x y with
      | none => rw [hr] at h; cases h
      | some r =>
        rw [hr] at h
        cases h
        obtain ⟨g1, g2, _⟩ := eqV_sound hx hy hr .eql w
        refine ⟨.bool r, ?_, rfl⟩
        rw [binOp_eql (key r hr)]
        simp only [Sem.run_bind, g1, g2, Result.andThen_ok, Sem.run_pure]
    · cases hr : eqV P t xo yo x y with
      | none => rw [hr] at h; cases h
      | some r =>
        rw [hr] at h
        cases h
        obtain ⟨g1, g2, _⟩ := eqV_sound hx hy hr .neq w
        refine ⟨.bool (!r), ?_, rfl⟩
        rw [binOp_neq (key r hr)]
        simp only [Sem.run_bind, g1, g2, Result.andThen_ok, Sem.run_pure]
    · cases h
end Go.Proofs.YtcphjmgfgfjnpaaGreatDoor.Ev
namespace Go.Proofs.YtcphjmgfgfjnpaaGreatDoor.Ev
open Go
def absC1 : Value → V
  | .bool b => .bool b
  | .int k n => .int k n
  | .string s => .str (s.data.toList.map UInt8.toNat)
  | .pointer none => .nilptr
  | .slice none 0 0 => .nilslice
  | .nilFunc => .nilFunc
  | .nilIface => .nilIface
  | .map none => .nilmap
  | .float k a => .float k a
  | .complex k a b => .complex k a b
  | _ => .bad
def absC : Value → V
  | .agg cs => .agg (cs.toList.map absC1)
  | .tuple cs => .tuple (cs.toList.map absC1)
  | v => absC1 v
theorem absC1_R (ρ : Rho) (v : Value) : R ρ (absC1 v) v := by
  unfold absC1
  split <;> first | rfl | exact ⟨_, rfl, rfl⟩ | trivial
theorem absC1_RL (ρ : Rho) : ∀ l : List Value, RL ρ (l.map absC1) l := by
  intro l
  induction l with
  | nil => exact rfl
  | cons v l ih => exact ⟨v, l, rfl, absC1_R ρ v, ih⟩
theorem absC_R (ρ : Rho) (v : Value) : R ρ (absC v) v := by
  unfold absC
  split
  · exact ⟨_, rfl, absC1_RL ρ _⟩
  · exact ⟨_, rfl, absC1_RL ρ _⟩
  · exact absC1_R ρ _
def absUn (op : UnOp) (x : V) : Option V :=
  match op, x with
  | .neg, .int k n => some (.int k (k.wrap (0 - n)))
  | .xor, .int k n => some (.int k (k.wrap (BitVec.ofInt k.bits (if k.signed then -1 else k.max) ^^^ BitVec.ofInt k.bits n).toNat))
  | .not, .bool b => some (.bool (!b))
  | _, _ => none
theorem un_sound {P : Program} {ρ : Rho} {op : UnOp} {x v : V} {a : Value} (hx : R ρ x a) (h : absUn op x = some v) (w : World) : ∃ u, (Op.unary op a).run P w = .ok u w ∧ R ρ v u := by
  unfold absUn at h
  split at h
  · cases h; rw [show a = _ from hx]; exact ⟨_, rfl, rfl⟩
  · cases h; rw [show a = _ from hx]; exact ⟨_, rfl, rfl⟩
  · cases h; rw [show a = _ from hx]; exact ⟨_, rfl, rfl⟩
  · cases h
def absConv (P : Program) (src dst : TypeId) (x : V) : Option V :=
  match P.underlying src, P.underlying dst, x with
  | some _, some (.int k), .int _ n => some (.int k (k.wrap n))
  | some _, some .string, .str s => some (.str s)
  | _, _, _ => none
def strAt (s : List Nat) (i : Int) : Option Nat := if 0 ≤ i then s[i.toNat]? else none
def absIndex (P : Program) (t : TypeId) (x ix : V) : Option V :=
  match P.underlying t, x, ix with
  | some (.array len e), .agg cs, .int _ i => if 0 ≤ i ∧ i < len then partV P e cs (i.toNat * P.cellsOf e) else none
  | some .string, .str s, .int _ i => (strAt s i).map fun (b : Nat) => .int .u8 b
  | _, _, _ => none
theorem partV_info {P : Program} {e : TypeId} {cs : List V} {o : Nat} {v : V} (h : partV P e cs o = some v) : ∃ i, P.info? e = some i := by
  cases hu : P.underlying e with
  | none => unfold partV at h; simp [hu] at h
  | some d => exact underlying_info hu
theorem index_sound {P : Program} {ρ : Rho} {t : TypeId} {x ix v : V} {a b : Value} (hx : R ρ x a) (hi : R ρ ix b) (h : absIndex P t x ix = some v) (w : World) : ∃ u, (Instr.index t a b).run P w = .ok u w ∧ R ρ v u := by
  unfold absIndex at h
  split at h
  · rename_i len e cs k i hu
    split at h
    · rename_i hb
      obtain ⟨xs, rfl, hR⟩ := hx
      rw [show b = _ from hi]
      obtain ⟨ie, hie⟩ := partV_info h
      obtain ⟨u, h1, h2⟩ := part_sound hR h w
      refine ⟨u, ?_, h2⟩
      unfold Instr.index
      simp [asIntOf, run_underlying hu, hb, run_sizeOf hie, h1]
    · cases h
  · rename_i s k i hu
    unfold strAt at h
    split at h
    · rename_i hb
      obtain ⟨t', rfl, rfl⟩ := hx
      rw [show b = _ from hi]
      rw [List.getElem?_map] at h
      cases hg : t'.data.toList[i.toNat]? with
      | none => rw [hg] at h; cases h
      | some y =>
        rw [hg] at h
        cases h
        refine ⟨.int .u8 y.toNat, ?_, rfl⟩
        have hg' : t'[i.toNat]? = some y := by
          rw [Array.getElem?_toList] at hg
          rw [← hg]; rfl
        unfold Instr.index
        simp [asIntOf, run_underlying hu, hb, hg']
    · cases h
  · cases h
def absField (P : Program) (t : TypeId) (x : V) (f : Nat) : Option V :=
  match P.underlying t, x with
  | some (.struct fs), .agg cs =>
    match fs[f]? with
    | some fd => partV P fd.type cs fd.offset
    | none => none
  | _, _ => none
theorem field_sound {P : Program} {ρ : Rho} {t : TypeId} {x v : V} {a : Value} {f : Nat} (hx : R ρ x a) (h : absField P t x f = some v) (w : World) : ∃ u, (Instr.field t a f).run P w = .ok u w ∧ R ρ v u := by
  unfold absField at h
  split at h
  · rename_i fs cs hu
    split at h
    · rename_i fd hf
      obtain ⟨xs, rfl, hR⟩ := hx
      obtain ⟨u, h1, h2⟩ := part_sound hR h w
      refine ⟨u, ?_, h2⟩
      unfold Instr.field
      simp [run_underlying hu, hf, asAgg, h1]
    · cases h
  · cases h
def absExtract (x : V) (i : Nat) : Option V :=
  match x with
  | .tuple vs => vs[i]?
  | _ => none
theorem extract_sound {P : Program} {ρ : Rho} {x v : V} {a : Value} {i : Nat} (hx : R ρ x a) (h : absExtract x i = some v) (w : World) : ∃ u, (Instr.extract a i).run P w = .ok u w ∧ R ρ v u := by
  unfold absExtract at h
  split at h
  · obtain ⟨xs, rfl, hR⟩ := hx
    obtain ⟨y, hy, hRy⟩ := hR.get h
    rw [Array.getElem?_toList] at hy
    exact ⟨y, by simp [Instr.extract, hy], hRy⟩
  · cases h
theorem At.add {ρ : Rho} {a : A} {c : Addr} (h : At ρ a c) (k : Nat) : At ρ ⟨a.b, a.L, a.o + k⟩ (c.add k) := by
  obtain ⟨cb, sh, S, h1, h2, rfl⟩ := h
  refine ⟨cb, sh, S, h1, by simp only; omega, ?_⟩
  unfold Addr.add
  by_cases hk : k = 0
  · subst hk; simp
  · simp only [if_neg hk, Addr.mk.injEq, true_and, and_true]; omega
def absIndexAddr (P : Program) (t : TypeId) (x ix : V) : Option V :=
  match P.underlying t, x, ix with
  | some (.array len e), .ptr a, .int _ i => if 0 ≤ i ∧ i < len ∧ (P.info? e).isSome then some (.ptr ⟨a.b, a.L, a.o + i.toNat * P.cellsOf e⟩) else none
  | some (.slice e), .slice a n _ _ _, .int _ i => if 0 ≤ i ∧ i < n ∧ (P.info? e).isSome then some (.ptr ⟨a.b, a.L, a.o + i.toNat * P.cellsOf e⟩) else none
  | _, _, _ => none
theorem indexAddr_sound {P : Program} {ρ : Rho} {t : TypeId} {x ix v : V} {a b : Value} (hx : R ρ x a) (hi : R ρ ix b) (h : absIndexAddr P t x ix = some v) (w : World) : ∃ u, (Instr.indexAt t a b).run P w = .ok u w ∧ R ρ v u := by
  unfold absIndexAddr at h
  split at h
  · rename_i len e p k i hu
    split at h
    · rename_i hb
      cases h
      obtain ⟨ie, hie⟩ := Option.isSome_iff_exists.1 hb.2.2
      obtain ⟨c, rfl, hc⟩ := hx
      rw [show b = _ from hi]
      refine ⟨.pointer (some (c.add (i.toNat * P.cellsOf e))), ?_, _, rfl, hc.add _⟩
      unfold Instr.indexAt
      simp [asIntOf, run_underlying hu, Instr.sureAddr, hb.1, hb.2.1, run_sizeOf hie]
    · cases h
  · rename_i e p n _ _ _ k i hu
    split at h
    · rename_i hb
      cases h
      obtain ⟨ie, hie⟩ := Option.isSome_iff_exists.1 hb.2.2
      obtain ⟨cb, sh, S, cc, rfl, h1, h2, _⟩ := hx
      rw [show b = _ from hi]
      refine ⟨.pointer (some ((⟨cb, ((p.o : Int) - sh).toNat, none⟩ : Addr).add (i.toNat * P.cellsOf e))), ?_, _, rfl, At.add ⟨cb, sh, S, h1, h2, rfl⟩ _⟩
      unfold Instr.indexAt
      simp [asIntOf, run_underlying hu, hb.1, hb.2.1, run_sizeOf hie]
    · cases h
  · cases h
def absFieldAddr (P : Program) (t : TypeId) (x : V) (f : Nat) : Option V :=
  match P.underlying t, x with
  | some (.struct fs), .ptr a =>
    match fs[f]? with
    | some fd => if (P.info? fd.type).isSome ∧ P.cellsOf fd.type ≠ 0 then some (.ptr ⟨a.b, a.L, a.o + fd.offset⟩) else none
    | none => none
  | _, _ => none
theorem fieldAddr_sound {P : Program} {ρ : Rho} {t : TypeId} {x v : V} {a : Value} {f : Nat} (hx : R ρ x a) (h : absFieldAddr P t x f = some v) (w : World) : ∃ u, (Instr.fieldAt t a f).run P w = .ok u w ∧ R ρ v u := by
  unfold absFieldAddr at h
  split at h
  · rename_i fs p hu
    split at h
    · rename_i fd hf
      split at h
      · rename_i hb
        cases h
        obtain ⟨ie, hie⟩ := Option.isSome_iff_exists.1 hb.1
        obtain ⟨c, rfl, hc⟩ := hx
        refine ⟨.pointer (some (c.add fd.offset)), ?_, _, rfl, hc.add _⟩
        unfold Instr.fieldAt
        simp [run_underlying hu, hf, Instr.sureAddr, fieldPlace, run_sizeOf hie, hb.2]
      · cases h
    · cases h
  · cases h
def absArrayAt (P : Program) (t : TypeId) (x : V) : Option V :=
  match P.underlying t, x with
  | some (.array n _), .slice a len _ _ _ => if n ≤ len then some (.ptr a) else none
  | _, _ => none
theorem arrayAt_sound {P : Program} {ρ : Rho} {t : TypeId} {x v : V} {a : Value} (hx : R ρ x a) (h : absArrayAt P t x = some v) (w : World) : ∃ u, (Instr.arrayAt t a).run P w = .ok u w ∧ R ρ v u := by
  unfold absArrayAt at h
  split at h
  · rename_i n e p len _ _ _ hu
    split at h
    · rename_i hb
      cases h
      obtain ⟨cb, sh, S, cc, rfl, h1, h2, _⟩ := hx
      refine ⟨.pointer (some ⟨cb, ((p.o : Int) - sh).toNat, none⟩), ?_, _, rfl, cb, sh, S, h1, h2, rfl⟩
      unfold Instr.arrayAt
      simp [run_underlying hu, show ¬ len < n from by omega]
    · cases h
  · cases h
def bnd (v : Option V) (dflt lim : Nat) : Option Nat :=
  match v with
  | none => some dflt
  | some (.int _ i) => if 0 ≤ i ∧ i ≤ lim then some i.toNat else none
  | some _ => none
def cutV (a : A) (z n cap : Nat) (ex : Bool) (lo hi mx : Option V) : Option V :=
  match mx with
  | some m =>
    match bnd (some m) 0 cap with
    | none => none
    | some m =>
      match hi with
      | none => none
      | some hv =>
        match bnd (some hv) 0 m with
        | none => none
        | some h =>
          match bnd lo 0 h with
          | none => none
          | some l => some (if m = l then .slice a (h - l) (m - l) true z else .slice ⟨a.b, a.L, a.o + l * z⟩ (h - l) (m - l) true z)
  | none =>
    match bnd hi n cap with
    | none => none
    | some h =>
      match bnd lo 0 h with
      | none => none
      | some l =>
        if ex then some (if cap = l then .slice a (h - l) (cap - l) true z else .slice ⟨a.b, a.L, a.o + l * z⟩ (h - l) (cap - l) true z)
        else if l < cap then some (.slice ⟨a.b, a.L, a.o + l * z⟩ (h - l) (cap - l) false z)
        else some .loose
theorem bound_run {P : Program} {ρ : Rho} {x : V} {b : Value} (hx : R ρ x b) {d lim r : Nat} (h : bnd (some x) d lim = some r) (y : Nat) (hy : lim ≤ y) (code : BoundsCode) (w : World) : (Instr.sliceBound b y code).run P w = .ok r w ∧ r ≤ lim := by
  unfold bnd at h
  split at h
  · rename_i e; cases e
  · rename_i k i e
    cases e
    split at h
    · rename_i hb
      cases h
      rw [show b = _ from hx]
      refine ⟨?_, by omega⟩
      have : 0 ≤ i ∧ i ≤ y := by omega
      simp [Instr.sliceBound, asIntOf, this]
    · cases h
  · cases h
inductive OR (ρ : Rho) : Option V → Option Value → Prop
  | none : OR ρ none none
  | some {x : V} {b : Value} (h : R ρ x b) : OR ρ (some x) (some b)
theorem bounds_nomax {P : Program} {ρ : Rho} {lo hi : Option V} {l' h' : Option Value} (hlo : OR ρ lo l') (hhi : OR ρ hi h') {n cap h l : Nat} (h1 : bnd hi n cap = some h) (h2 : bnd lo 0 h = some l) (b : Bool) (cc : Nat) (hc : cap ≤ cc) (hn : n ≤ cap) (w : World) :
    (Instr.sliceBounds b n cc l' h' none).run P w = .ok (l, h, cc) w ∧ l ≤ h ∧ h ≤ cap := by
  unfold Instr.sliceBounds
  cases hhi with
  | none =>
    cases h1
    cases hlo with
    | none => cases h2; exact ⟨by simp, Nat.zero_le _, hn⟩
    | some hl => have := bound_run (P := P) hl h2 n (Nat.le_refl _) .sliceB w; exact ⟨by simp [this.1], this.2, hn⟩
  | some hh =>
    have hb := fun code => bound_run (P := P) hh h1 cc hc code w
    cases hlo with
    | none => cases h2; exact ⟨by cases b <;> simp [(hb _).1], Nat.zero_le _, (hb .sliceB).2⟩
    | some hl => have := bound_run (P := P) hl h2 h (Nat.le_refl _) .sliceB w; exact ⟨by cases b <;> simp [(hb _).1, this.1], this.2, (hb .sliceB).2⟩
theorem bounds_max {P : Program} {ρ : Rho} {lo : Option V} {hv mv : V} {l' : Option Value} {h' m' : Value} (hlo : OR ρ lo l') (hhi : R ρ hv h') (hmx : R ρ mv m') {n cap m h l : Nat} (h0 : bnd (some mv) 0 cap = some m) (h1 : bnd (some hv) 0 m = some h) (h2 : bnd lo 0 h = some l) (b : Bool) (cc : Nat) (hc : cap ≤ cc) (w : World) :
    (Instr.sliceBounds b n cc l' (some h') (some m')).run P w = .ok (l, h, m) w ∧ l ≤ h ∧ h ≤ m ∧ m ≤ cap := by
  unfold Instr.sliceBounds
  have hm := fun code => bound_run (P := P) hmx h0 cc hc code w
  have hh := fun code => bound_run (P := P) hhi h1 m (Nat.le_refl _) code w
  cases hlo with
  | none => cases h2; exact ⟨by cases b <;> simp [(hm _).1, (hh _).1], Nat.zero_le _, (hh .sliceB).2, (hm .sliceB).2⟩
  | some hl => have := fun code => bound_run (P := P) hl h2 h (Nat.le_refl _) code w; exact ⟨by cases b <;> simp [(hm _).1, (hh _).1, (this _).1], (this .sliceB).2, (hh .sliceB).2, (hm .sliceB).2⟩
theorem cut_sound {P : Program} {ρ : Rho} {lo hi mx : Option V} {l' h' m' : Option Value} (hlo : OR ρ lo l') (hhi : OR ρ hi h') (hmx : OR ρ mx m') {a : A} {z n cap cc : Nat} {ex : Bool} {v : V} {cb S : Nat} {sh : Int}
    (hρ : ρ a.b a.L = some (cb, sh, S)) (hsh : sh ≤ a.o) (hcc : cap ≤ cc) (hex : ex = true → cc = cap) (hn : n ≤ cap) (hroom : ((a.o : Int) - sh).toNat + cc * z ≤ S) (h : cutV a z n cap ex lo hi mx = some v) (b : Bool) (w : World) :
    ∃ l hh m, (Instr.sliceBounds b n cc l' h' m').run P w = .ok (l, hh, m) w ∧ R ρ v (.slice (some (if m = l then ⟨cb, ((a.o : Int) - sh).toNat, none⟩ else (⟨cb, ((a.o : Int) - sh).toNat, none⟩ : Addr).add (l * z))) (hh - l) (m - l)) := by
  have hadd : ∀ l, (⟨cb, ((a.o : Int) - sh).toNat, none⟩ : Addr).add (l * z) = ⟨cb, (((a.o + l * z : Nat) : Int) - sh).toNat, none⟩ := by
    intro l
    unfold Addr.add
    by_cases hk : l * z = 0
    · simp [hk]
    · simp only [if_neg hk, Addr.mk.injEq, true_and, and_true]; omega
  have hmul : ∀ m l, l ≤ m → m ≤ cc → l * z + (m - l) * z ≤ cc * z := fun m l h1 h2 => by
    rw [← Nat.add_mul, Nat.add_sub_cancel' h1]; exact Nat.mul_le_mul_right _ h2
  unfold cutV at h
  cases hmx with
  | some hm =>
    rename_i mv m'
    simp only at h
    split at h
    · cases h
    · rename_i m h0
      cases hhi with
      | none => cases h
      | some hh =>
        rename_i hv h'
        simp only at h
        split at h
        · cases h
        · rename_i h1v h1
          split at h
          · cases h
          · rename_i l h2
            obtain ⟨g1, g2, g3, g4⟩ := bounds_max (P := P) (n := n) hlo hh hm h0 h1 h2 b cc hcc w
            refine ⟨l, h1v, m, g1, ?_⟩
            cases h
            have := hmul m l (by omega) (by omega)
            by_cases he : m = l
            · rw [if_pos he, if_pos he]
              exact ⟨cb, sh, S, m - l, rfl, hρ, hsh, Nat.le_refl _, fun _ => rfl, by omega, by rw [show m - l = 0 from by omega]; omega⟩
            · rw [if_neg he, if_neg he, hadd]
              exact ⟨cb, sh, S, m - l, rfl, hρ, by simp only; omega, Nat.le_refl _, fun _ => rfl, by omega, by simp only; omega⟩
  | none =>
    simp only at h
    split at h
    · cases h
    · rename_i h1v h1
      split at h
      · cases h
      · rename_i l h2
        obtain ⟨g1, g2, g3⟩ := bounds_nomax (P := P) hlo hhi h1 h2 b cc hcc hn w
        refine ⟨l, h1v, cc, g1, ?_⟩
        have := hmul cc l (by omega) (Nat.le_refl _)
        cases ex with
        | true =>
          obtain rfl := hex rfl
          simp only [if_true] at h
          cases h
          by_cases he : cc = l
          · rw [if_pos he, if_pos he]
            exact ⟨cb, sh, S, cc - l, rfl, hρ, hsh, Nat.le_refl _, fun _ => rfl, by omega, by rw [show cc - l = 0 from by omega]; omega⟩
          · rw [if_neg he, if_neg he, hadd]
            exact ⟨cb, sh, S, cc - l, rfl, hρ, by simp only; omega, Nat.le_refl _, fun _ => rfl, by omega, by simp only; omega⟩
        | false =>
          simp only [Bool.false_eq_true, if_false] at h
          by_cases hl : l < cap
          · rw [if_pos hl] at h
            cases h
            rw [if_neg (by omega), hadd]
            exact ⟨cb, sh, S, cc - l, rfl, hρ, by simp only; omega, by omega, fun he => absurd he (by simp), by omega, by simp only; omega⟩
          · rw [if_neg hl] at h
            cases h
            rw [show h1v - l = 0 from by omega]
            exact ⟨_, _, rfl⟩
end Go.Proofs.YtcphjmgfgfjnpaaGreatDoor.Ev
namespace Go.Proofs.YtcphjmgfgfjnpaaGreatDoor.Ev
open Go
def Sim (P : Program) (ρ : Rho) (h : AH) (w : World) (s : Sem Value) (v : V) (h' : AH) : Prop :=
  ∃ u w' ρ', s.run P w = .ok u w' ∧ R ρ' v u ∧ HR ρ' h' w' ∧ Step ρ h w ρ' h' w'
theorem Sim.pure {P : Program} {ρ : Rho} {h : AH} {w : World} {s : Sem Value} {v : V} (hr : HR ρ h w) (hs : ∃ u, s.run P w = .ok u w ∧ R ρ v u) : Sim P ρ h w s v h := by
  obtain ⟨u, h1, h2⟩ := hs
  exact ⟨u, w, ρ, h1, h2, hr, Step.refl ρ h w⟩
def zeroOf (P : Program) (t : TypeId) : Option (List V) :=
  match P.info? t with
  | some i =>
    match i.zero with
    | some z => if (absC z).isBad = false ∧ (absC z).cells.length = i.size ∧ (absC z).cells.all V.cell = true then some (absC z).cells else none
    | none => none
  | none => none
theorem zeroOf_spec {P : Program} {t : TypeId} {zs : List V} (h : zeroOf P t = some zs) (ρ : Rho) : ∃ i z, P.info? t = some i ∧ i.zero = some z ∧ RL ρ zs z.cells.toList ∧ zs.length = P.cellsOf t ∧ zs.all V.cell = true ∧ (zeroValue t : Sem Value) = zeroValue t ∧
    (∀ w, (zeroValue t).run P w = .ok z w) := by
  unfold zeroOf at h
  split at h
  · rename_i i hi
    split at h
    · rename_i z hz
      split at h
      · rename_i hc
        cases h
        refine ⟨i, z, hi, hz, R_cells_list (absC_R ρ z) hc.1, by rw [hc.2.1]; simp [Program.cellsOf, hi], hc.2.2, rfl, fun w => by simp [zeroValue, typeInfo, hi, hz]⟩
      · cases h
    · cases h
  · cases h
theorem run_newRow (P : Program) (e : TypeId) (c : Array Value) (w : World) : (newRow e c).run P w = .ok ⟨w.heap.size, 0, none⟩ { w with heap := w.heap.push (.cells c e) } := by
  simp [newRow]
theorem new_row {P : Program} {ρ : Rho} {h : AH} {w w0 : World} (hr : HR ρ h w) (h0 : w0.heap = w.heap) (h1 : w0.os = w.os) (h2 : w0.tape = w.tape) (h3 : w0.output = w.output) {vs : List V} {us : List Value} (hR : RL ρ vs us) (extra : List Value) (e : TypeId) (hc : vs.all V.cell = true) :
    ∃ ρ', HR ρ' (h.add ⟨Arr.ofList vs, 0, 0, false, e⟩) { w0 with heap := w0.heap.push (.cells (us ++ extra).toArray e) } ∧ Step ρ h w ρ' (h.add ⟨Arr.ofList vs, 0, 0, false, e⟩) { w0 with heap := w0.heap.push (.cells (us ++ extra).toArray e) } ∧
      ρ' h.next vs.length = some (w.heap.size, 0, us.length + extra.length) := by
  have hl := hR.length
  obtain ⟨ρ', g1, g2, g3⟩ := add_sound (w' := { w0 with heap := w0.heap.push (.cells (us ++ extra).toArray e) }) hr ⟨Arr.ofList vs, 0, 0, false, e⟩ (us ++ extra).toArray 0 0 (by simp only [h0]) h1 h2 h3 (by simp [hl]) (fun j v hv => by
    simp only [Arr.get_ofList] at hv
    obtain ⟨u, hu, hRu⟩ := hR.get hv
    refine ⟨u, ?_, hRu⟩
    have := (List.getElem?_eq_some_iff.1 hu).1
    simp only [List.getElem?_toArray]
    rw [List.getElem?_append_left this, hu]) (fun i _ _ => by omega) (Nat.le_refl 0)
  refine ⟨ρ', g1, g2, ?_⟩
  rw [Arr.ofList_n] at g3
  rw [g3]
  simp
noncomputable def absAlloc (P : Program) (t : TypeId) (h : AH) : Option (V × AH) :=
  match zeroOf P t with
  | some zs => some (.ptr ⟨h.next, zs.length, 0⟩, h.add ⟨Arr.make zs.length zs, 0, 0, false, t⟩)
  | none => none
theorem alloc_sound {P : Program} {ρ : Rho} {h h' : AH} {w : World} {t : TypeId} {v : V} (hr : HR ρ h w) (hs : absAlloc P t h = some (v, h')) : Sim P ρ h w (Instr.alloc t true (.tuple #[])) v h' := by
  unfold absAlloc at hs
  split at hs
  · rename_i zs hz
    cases hs
    obtain ⟨i, z, hi, hz', hR, hl, hc, _, hrun⟩ := zeroOf_spec hz ρ
    have hlen : zs.length = z.cells.size := by simpa using hR.length
    obtain ⟨ρ', g1, g2, g3⟩ := add_sound (w' := { w with heap := w.heap.push (.cells z.cells t) }) hr ⟨Arr.make zs.length zs, 0, 0, false, t⟩ z.cells 0 0 rfl rfl rfl rfl (by simp [hlen]) (fun j v hv => by
      simp only [Arr.get_make] at hv
      split at hv
      · rename_i hj
        rw [Nat.mod_eq_of_lt hj] at hv
        obtain ⟨u, hu, hRu⟩ := hR.get hv
        rw [Array.getElem?_toList] at hu
        exact ⟨u, hu, hRu⟩
      · cases hv) (fun i _ _ => by omega) (Nat.le_refl 0)
    refine ⟨.pointer (some ⟨w.heap.size, 0, none⟩), _, ρ', ?_, ⟨_, rfl, w.heap.size, 0, z.cells.size, ?_, Int.le_refl _, rfl⟩, g1, g2⟩
    · simp [Instr.alloc, hrun, newVar, run_newRow]
    · rw [Arr.make_n] at g3; exact g3
  · cases hs
noncomputable def absBox (t : TypeId) (x : V) (h : AH) : Option (V × AH) :=
  if x.cells.all V.cell then some (.ptr ⟨h.next, x.cells.length, 0⟩, h.add ⟨Arr.ofList x.cells, 0, 0, false, t⟩) else none
theorem box_sound {P : Program} {ρ : Rho} {h h' : AH} {w : World} {t : TypeId} {x v : V} {a : Value} (hr : HR ρ h w) (hx : R ρ x a) (hs : absBox t x h = some (v, h')) : Sim P ρ h w (Instr.box t a) v h' := by
  unfold absBox at hs
  split at hs
  · rename_i hc
    cases hs
    have hb : x.isBad = false := by cases x <;> first | rfl | (simp [V.cells, V.cell] at hc)
    have hR := R_cells_list hx hb
    obtain ⟨ρ', g1, g2, g3⟩ := new_row (P := P) hr rfl rfl rfl rfl hR [] t hc
    refine ⟨.pointer (some ⟨w.heap.size, 0, none⟩), _, ρ', ?_, ⟨_, rfl, w.heap.size, 0, _, g3, Int.le_refl _, rfl⟩, g1, g2⟩
    simp [Instr.box, newVar, run_newRow]
  · cases hs
noncomputable def absLoad (P : Program) (t : TypeId) (x : V) (h : AH) : Option V :=
  match x with
  | .ptr a =>
    match P.underlying t with
    | some (.struct _) | some (.array _ _) => (readN h a (P.cellsOf t)).map .agg
    | some _ =>
      match readN h a 1 with
      | some [v] => some v
      | _ => none
    | none => none
  | _ => none
theorem load_sound {P : Program} {ρ : Rho} {h : AH} {w : World} {t : TypeId} {x v : V} {a : Value} (hr : HR ρ h w) (hx : R ρ x a) (hs : absLoad P t x h = some v) : ∃ u, (Instr.loadAt t a).run P w = .ok u w ∧ R ρ v u := by
  unfold absLoad at hs
  split at hs
  · rename_i p
    obtain ⟨c, rfl, hc⟩ := hx
    have agg : ∀ d, P.underlying t = some d → (match d with | .struct _ => true | .array _ _ => true | _ => false) = true → (readN h p (P.cellsOf t)).map V.agg = some v → ∃ u, (Instr.loadAt t (.pointer (some c))).run P w = .ok u w ∧ R ρ v u := by
      intro d hu hd hs
      cases hread : readN h p (P.cellsOf t) with
      | none => rw [hread] at hs; cases hs
      | some vs =>
        rw [hread] at hs
        cases hs
        obtain ⟨us, hlen, hR, hcell⟩ := read_sound hr hc hread
        have hl := run_loadCells_list (P := P) (w := w) c us hcell
        refine ⟨.agg us.toArray, ?_, _, rfl, hR⟩
        unfold Instr.loadAt loadVar
        have hagg : (isAgg t).run P w = .ok true w := by
          unfold isAgg
          simp only [Sem.run_bind, run_underlying hu, Result.andThen_ok]
          cases d <;> first | (cases hd; done) | rfl
        rw [hlen] at hl
        simp [Instr.sureAddr, hagg, run_sizeOf' hu, hl]
    split at hs
    · rename_i fs hu; exact agg _ hu rfl hs
    · rename_i n e hu; exact agg _ hu rfl hs
    · rename_i d h1 h2 hu
      split at hs
      · rename_i v' hread
        cases hs
        obtain ⟨us, hlen, hR, hcell⟩ := read_sound hr hc hread
        obtain ⟨u, rest, rfl, hRu, _⟩ := hR
        have h0 := hcell 0 u (by simp)
        rw [show c.add 0 = c from by simp [Addr.add]] at h0
        refine ⟨u, ?_, hRu⟩
        have hagg : (isAgg t).run P w = .ok false w := by
          unfold isAgg
          simp only [Sem.run_bind, run_underlying hu, Result.andThen_ok]
          rfl
        unfold Instr.loadAt loadVar
        simp [Instr.sureAddr, hagg, h0]
      · cases hs
    · cases hs
  · cases hs
noncomputable def absStore (P : Program) (t : TypeId) (x v : V) (h : AH) : Option AH :=
  match x with
  | .ptr a => if (P.info? t).isSome ∧ v.cells.length = P.cellsOf t then writeN h a v.cells else none
  | _ => none
theorem store_sound {P : Program} {ρ : Rho} {h h' : AH} {w : World} {t : TypeId} {x v : V} {a b : Value} (hr : HR ρ h w) (hx : R ρ x a) (hv : R ρ v b) (hs : absStore P t x v h = some h') :
    ∃ w', (Instr.storeAt t a b).run P w = .ok () w' ∧ HR ρ h' w' ∧ Step ρ h w ρ h' w' := by
  unfold absStore at hs
  split at hs
  · rename_i p
    split at hs
    · rename_i hc
      obtain ⟨i, hi⟩ := Option.isSome_iff_exists.1 hc.1
      obtain ⟨c, rfl, hcc⟩ := hx
      obtain ⟨k, _, _, _, _, _, hall, _⟩ := writeN_inv hs
      have hb : v.isBad = false := by cases v <;> first | rfl | (simp [V.cells, V.cell] at hall)
      have hR := R_cells_list hv hb
      obtain ⟨w', g1, g2, g3⟩ := write_sound P hr hcc hR hs
      refine ⟨w', ?_, g2, g3⟩
      have hl := hR.length
      rw [hc.2, Array.length_toList] at hl
      unfold Instr.storeAt storeVar
      simp [Instr.sureAddr, run_sizeOf hi, ← hl, g1]
    · cases hs
  · cases hs
end Go.Proofs.YtcphjmgfgfjnpaaGreatDoor.Ev
namespace Go.Proofs.YtcphjmgfgfjnpaaGreatDoor.Ev
open Go
def putL (vs : List V) (o : Nat) (cs : List V) : List V := cs.take o ++ vs ++ cs.drop (o + vs.length)
def fillV (place : Nat → Option (Nat × Nat)) : List (Nat × V) → List V → Option (List V)
  | [], cs => some cs
  | (i, v) :: rest, cs =>
    match place i with
    | none => none
    | some (off, size) => if v.isBad = false ∧ v.cells.length = size ∧ off + size ≤ cs.length then fillV place rest (putL v.cells off cs) else none
theorem foldl_set (us : List Value) : ∀ (o k : Nat) (cs : Array Value), o + k + us.length ≤ cs.size → ((us.zipIdx k).foldl (fun cs (x : Value × Nat) => cs.setIfInBounds (o + x.2) x.1) cs).toList = cs.toList.take (o + k) ++ us ++ cs.toList.drop (o + k + us.length) := by
  induction us with
  | nil => intro o k cs _; simp
  | cons u us ih =>
    intro o k cs h
    simp only [List.length_cons] at h
    rw [List.zipIdx_cons, List.foldl_cons, show o + k + (u :: us).length = o + (k + 1) + us.length from by simp only [List.length_cons]; omega]
    rw [ih o (k + 1) _ (by simp; omega)]
    have hk : o + k < cs.toList.length := by rw [Array.length_toList]; omega
    simp only [Array.toList_setIfInBounds]
    rw [List.drop_set, if_pos (by omega)]
    rw [show o + (k + 1) = (o + k) + 1 from by omega, List.take_set, List.take_succ_eq_append_getElem (by simpa using hk), ]
    rw [List.set_append_right _ _ (by rw [List.length_take]; omega)]
    simp [List.length_take]
    rw [Nat.min_eq_left (by omega), Nat.sub_self]
    rfl
theorem fill_sound {ρ : Rho} {place : Nat → Option (Nat × Nat)} : ∀ {ps : List (Nat × V)} {qs : List (Nat × Value)} {cs rs : List V} {us : Array Value}, ps.map (·.1) = qs.map (·.1) → RL ρ (ps.map (·.2)) (qs.map (·.2)) → RL ρ cs us.toList → fillV place ps cs = some rs →
    ∃ us' : Array Value, Instr.fill place us qs = some us' ∧ RL ρ rs us'.toList := by
  intro ps
  induction ps with
  | nil =>
    intro qs cs rs us hi _ hR h
    cases qs with
    | nil => cases h; exact ⟨us, rfl, hR⟩
    | cons q qs => simp at hi
  | cons p ps ih =>
    intro qs cs rs us hi hp hR h
    cases qs with
    | nil => simp at hi
    | cons q qs =>
      obtain ⟨i, v⟩ := p
      obtain ⟨j, u⟩ := q
      simp only [List.map_cons, List.cons.injEq] at hi
      obtain ⟨rfl, hi⟩ := hi
      simp only [List.map_cons] at hp
      rw [RL_cons] at hp
      obtain ⟨hv, hp⟩ := hp
      simp only [fillV] at h
      cases hpl : place i with
      | none => rw [hpl] at h; cases h
      | some x =>
        obtain ⟨off, size⟩ := x
        rw [hpl] at h
        simp only at h
        split at h
        · rename_i hc
          have hRv := R_cells_list hv hc.1
          have hl : v.cells.length = u.cells.size := by simpa using hRv.length
          have hl2 : cs.length = us.size := by simpa using hR.length
          have hfold := foldl_set u.cells.toList off 0 us (by rw [Array.length_toList]; omega)
          have hR' : RL ρ (putL v.cells off cs) ((u.cells.toList.zipIdx.foldl (fun cs (x : Value × Nat) => cs.setIfInBounds (off + x.2) x.1) us)).toList := by
            rw [hfold]
            unfold putL
            rw [show off + 0 = off from rfl, ← hRv.length]
            exact ((hR.take _).append hRv).append (hR.drop _)
          obtain ⟨us', g1, g2⟩ := ih hi hp hR' h
          refine ⟨us', ?_, g2⟩
          rw [← g1]
          simp only [Instr.fill, hpl]
          rw [if_neg (by simp only [ne_eq, Bool.or_eq_true, decide_eq_true_eq, not_or]; constructor <;> omega)]
          congr 1
          simp only [← Array.foldl_toList, Array.toList_zipIdx]
        · cases h
def structPlaces (P : Program) (fs : Array Field) : Option (List (Nat × Nat)) :=
  if fs.toList.all (fun f => (P.info? f.type).isSome) then some (fs.toList.map fun f => (f.offset, P.cellsOf f.type)) else none
def absBuild (P : Program) (t : TypeId) (ps : List (Nat × V)) : Option V :=
  match zeroOf P t with
  | none => none
  | some zs =>
    match P.underlying t with
    | some (.struct fs) =>
      match structPlaces P fs with
      | some pl => (fillV (pl[·]?) ps zs).map .agg
      | none => none
    | some (.array _ e) => if (P.info? e).isSome then (fillV (fun i => some (i * P.cellsOf e, P.cellsOf e)) ps zs).map .agg else none
    | _ => none
theorem mapM_places {P : Program} (w : World) : ∀ (l : List Field), l.all (fun f => (P.info? f.type).isSome) = true → (l.mapM (fun f => do pure (f.offset, ← sizeOf f.type) : Field → Sem (Nat × Nat))).run P w = .ok (l.map fun f => (f.offset, P.cellsOf f.type)) w := by
  intro l
  induction l with
  | nil => intro _; simp
  | cons f l ih =>
    intro h
    simp only [List.all_cons, Bool.and_eq_true] at h
    obtain ⟨i, hi⟩ := Option.isSome_iff_exists.1 h.1
    rw [List.mapM_cons]
    simp only [Sem.run_bind, run_sizeOf hi, Result.andThen_ok, Sem.run_pure, ih h.2, List.map_cons]
theorem build_sound {P : Program} {ρ : Rho} {t : TypeId} {ps : List (Nat × V)} {qs : Array (Nat × Value)} {v : V} (hi : ps.map (·.1) = qs.toList.map (·.1)) (hp : RL ρ (ps.map (·.2)) (qs.toList.map (·.2))) (h : absBuild P t ps = some v) (w : World) :
    ∃ u, (Instr.build t qs).run P w = .ok u w ∧ R ρ v u := by
  unfold absBuild at h
  split at h
  · cases h
  · rename_i zs hz
    obtain ⟨i, z, hi', hz', hR, hl, hc, _, hrun⟩ := zeroOf_spec hz ρ
    split at h
    · rename_i fs hu
      unfold structPlaces at h
      split at h
      · rename_i pl hpl
        split at hpl
        · rename_i hall
          cases hpl
          cases hf : fillV (fun x => (fs.toList.map fun f => (f.offset, P.cellsOf f.type))[x]?) ps zs with
          | none => rw [hf] at h; cases h
          | some rs =>
            rw [hf] at h
            cases h
            obtain ⟨us', g1, g2⟩ := fill_sound hi hp hR hf
            refine ⟨.agg us', ?_, _, rfl, g2⟩
            unfold Instr.build
            have hm := mapM_places (P := P) w fs.toList hall
            have hm2 : (fs.mapM (fun f => do pure (f.offset, ← sizeOf f.type) : Field → Sem (Nat × Nat))).run P w = .ok (fs.toList.map fun f => (f.offset, P.cellsOf f.type)).toArray w := by
              rw [Array.mapM_eq_mapM_toList]
              simp only [Sem.run_map, hm, Result.andThen_ok]
            simp only [Sem.run_bind, hrun, Result.andThen_ok, run_underlying hu, hm2]
            simp only [List.getElem?_toArray, g1]
            rfl
        · cases hpl
      · cases h
    · rename_i n e hu
      split at h
      · rename_i hie
        obtain ⟨ie, hie⟩ := Option.isSome_iff_exists.1 hie
        cases hf : fillV (fun x => some (x * P.cellsOf e, P.cellsOf e)) ps zs with
        | none => rw [hf] at h; cases h
        | some rs =>
          rw [hf] at h
          cases h
          obtain ⟨us', g1, g2⟩ := fill_sound hi hp hR hf
          refine ⟨.agg us', ?_, _, rfl, g2⟩
          unfold Instr.build
          simp only [Sem.run_bind, hrun, Result.andThen_ok, run_underlying hu, run_sizeOf hie, g1]
          rfl
      · cases h
    · cases h
end Go.Proofs.YtcphjmgfgfjnpaaGreatDoor.Ev
namespace Go.Proofs.YtcphjmgfgfjnpaaGreatDoor.Ev
open Go
noncomputable def absBuildSlice (P : Program) (t : TypeId) (len : Nat) (ps : List (Nat × V)) (h : AH) : Option (V × AH) :=
  match P.underlying t with
  | some (.slice e) =>
    match zeroOf P e with
    | some zs =>
      if 0 < P.cellsOf e ∧ len * P.cellsOf e ≤ 16777216 then
        match fillV (fun i => some (i * P.cellsOf e, P.cellsOf e)) ps (List.replicate len zs).flatten with
        | some cs => if cs.all V.cell then some (.slice ⟨h.next, cs.length, 0⟩ len len true (P.cellsOf e), h.add ⟨Arr.ofList cs, 0, 0, false, e⟩) else none
        | none => none
      else none
    | none => none
  | _ => none
theorem range0 (f : Nat → Value) : (Array.range 0).map f = #[] := by simp
theorem range_cells {ρ : Rho} {zs : List V} {us : List Value} (hR : RL ρ zs us) (n : Nat) (hpos : 0 < us.length) :
    RL ρ (List.replicate n zs).flatten ((Array.range (n * us.length)).map fun i => us.toArray[i % us.toArray.size]!).toList := by
  refine RL.of_get ?_ ?_
  · simp [hR.length]
  · intro i x y hx hy
    have hlen := hR.length
    have hi : i < n * us.length := by
      have := (List.getElem?_eq_some_iff.1 hy).1
      simpa using this
    simp only [Array.getElem?_toList, Array.getElem?_map, Array.getElem?_range, hi, if_true, Option.map_some, Option.some.injEq] at hy
    have hget : (List.replicate n zs).flatten[i]? = zs[i % us.length]? := by
      clear hx hy
      induction n generalizing i with
      | zero => simp at hi
      | succ n ih =>
        rw [List.replicate_succ, List.flatten_cons]
        by_cases h1 : i < zs.length
        · rw [List.getElem?_append_left h1, Nat.mod_eq_of_lt (by omega)]
        · have hm : i % us.length = (i - us.length) % us.length := Nat.mod_eq_sub_mod (by omega)
          rw [List.getElem?_append_right (by omega), ih _ (by rw [Nat.add_mul, Nat.one_mul] at hi; omega), hlen, hm]
    rw [hget] at hx
    obtain ⟨u, hu, hRu⟩ := hR.get hx
    rw [← hy]
    have : us.toArray[i % us.toArray.size]! = u := by
      have hlt := (List.getElem?_eq_some_iff.1 hu).1
      simp only [List.size_toArray, List.getElem!_toArray]
      rw [List.getElem!_eq_getElem?_getD, hu]; rfl
    rw [this]
    exact hRu
theorem buildSlice_sound {P : Program} {ρ : Rho} {h h' : AH} {w : World} {t : TypeId} {len : Nat} {ps : List (Nat × V)} {qs : Array (Nat × Value)} {v : V} (hr : HR ρ h w) (hi : ps.map (·.1) = qs.toList.map (·.1)) (hp : RL ρ (ps.map (·.2)) (qs.toList.map (·.2)))
    (hs : absBuildSlice P t len ps h = some (v, h')) : Sim P ρ h w (Instr.buildSlice t len qs) v h' := by
  unfold absBuildSlice at hs
  split at hs
  · rename_i e hu
    split at hs
    · rename_i zs hz
      split at hs
      · rename_i hb
        split at hs
        · rename_i cs hf
          split at hs
          · rename_i hc
            cases hs
            obtain ⟨i, z, hi', hz', hR, hl, hcz, _, hrun⟩ := zeroOf_spec hz ρ
            have hzl : z.cells.toList.length = P.cellsOf e := hR.length.symm.trans hl
            have hR0 := range_cells hR len (by omega)
            rw [hzl, Array.toArray_toList] at hR0
            obtain ⟨us', g1, g2⟩ := fill_sound hi hp hR0 hf
            obtain ⟨ρ', f1, f2, f3⟩ := new_row (P := P) hr rfl rfl rfl rfl g2 [] e hc
            refine ⟨.slice (some ⟨w.heap.size, 0, none⟩) len len, _, ρ', ?_, ⟨w.heap.size, 0, _, len, rfl, f3, Int.le_refl _, Nat.le_refl _, fun _ => rfl, Nat.le_refl _, ?_⟩, f1, f2⟩
            · unfold Instr.buildSlice
              simp only [Sem.run_bind, run_underlying hu, Result.andThen_ok, run_sizeOf hi']
              have hne : ¬ len * P.cellsOf e > 2 ^ 24 := by omega
              rw [if_neg hne]
              by_cases h0 : len * P.cellsOf e = 0
              · have hlen0 : len = 0 := by rcases Nat.mul_eq_zero.1 h0 with h | h; exact h; omega
                subst hlen0
                simp only [h0, if_true, Sem.run_bind, Sem.run_pure, Result.andThen_ok, Nat.zero_mul, range0] at g1 ⊢
                simp only [g1, Sem.run_bind, run_newRow, Result.andThen_ok, Sem.run_pure, List.append_nil, Array.toArray_toList]
              · simp only [h0, if_false, Sem.run_bind, Sem.run_pure, hrun, Result.andThen_ok, g1, run_newRow, List.append_nil, Array.toArray_toList]
            · have hl' := g2.length
              have := hR0.length
              have hfl : cs.length = len * P.cellsOf e := by
                have : ∀ (ps : List (Nat × V)) (c0 c1 : List V), fillV (fun i => some (i * P.cellsOf e, P.cellsOf e)) ps c0 = some c1 → c1.length = c0.length := by
                  intro ps
                  induction ps with
                  | nil => intro c0 c1 h; cases h; rfl
                  | cons p ps ih =>
                    intro c0 c1 h
                    simp only [fillV] at h
                    split at h
                    · rename_i hc2
                      rw [ih _ _ h]
                      unfold putL
                      simp only [List.length_append, List.length_take, List.length_drop]
                      omega
                    · cases h
                rw [this _ _ _ hf]
                simp [hl]
              simp only [List.length_nil]
              omega
          · cases hs
        · cases hs
      · cases hs
    · cases hs
  · cases hs
noncomputable def absMakeSlice (P : Program) (t : TypeId) (l c : V) (h : AH) : Option (V × AH) :=
  match P.underlying t, l, c with
  | some (.slice e), .int _ l, .int _ c =>
    match zeroOf P e with
    | some zs =>
      if 0 < P.cellsOf e ∧ 0 ≤ l ∧ l ≤ c ∧ c ≤ 9223372036854775807 ∧ (P.bytesOf e : Int) * c ≤ 281474976710656 then
        some (.slice ⟨h.next, c.toNat * P.cellsOf e, 0⟩ l.toNat c.toNat true (P.cellsOf e), h.add ⟨Arr.make (c.toNat * P.cellsOf e) zs, 0, 0, false, e⟩)
      else none
    | none => none
  | _, _, _ => none
theorem makeSlice_sound {P : Program} {ρ : Rho} {h h' : AH} {w : World} {t : TypeId} {l c v : V} {a b : Value} (hr : HR ρ h w) (hl : R ρ l a) (hc : R ρ c b) (hs : absMakeSlice P t l c h = some (v, h')) : Sim P ρ h w (Instr.makeSlice t a b) v h' := by
  unfold absMakeSlice at hs
  split at hs
  · rename_i e k l k' c hu
    split at hs
    · rename_i zs hz
      split at hs
      · rename_i hb
        obtain ⟨hb0, hb1, hb2, hb3, hb4⟩ := hb
        cases hs
        obtain ⟨i, z, hi', hz', hR, hlz, hcz, _, hrun⟩ := zeroOf_spec hz ρ
        have hzl : z.cells.toList.length = P.cellsOf e := hR.length.symm.trans hlz
        have hzs : z.cells.size = P.cellsOf e := by simpa using hzl
        rw [show a = _ from hl, show b = _ from hc]
        have hwl : IntKind.i64.wrap l = l := by simp [IntKind.wrap, IntKind.bits, IntKind.signed]; omega
        have hwc : IntKind.i64.wrap c = c := by simp [IntKind.wrap, IntKind.bits, IntKind.signed]; omega
        have hby : (P.bytesOf e : Int) = i.bytes := by simp [Program.bytesOf, hi']
        obtain ⟨ρ', g1, g2, g3⟩ := add_sound (w' := { w with heap := w.heap.push (.cells ((Array.range (c.toNat * P.cellsOf e)).map fun i => z.cells[i % z.cells.size]!) e) }) hr ⟨Arr.make (c.toNat * P.cellsOf e) zs, 0, 0, false, e⟩ _ 0 0 rfl rfl rfl rfl (by simp) (fun j v hv => by
          simp only [Arr.get_make] at hv
          split at hv
          · rename_i hj
            obtain ⟨u, hu, hRu⟩ := hR.get hv
            refine ⟨u, ?_, hRu⟩
            rw [Array.getElem?_toList, hR.length, hzl, ← hzs] at hu
            simp only [Array.getElem?_map, Array.getElem?_range, hj, if_true, Option.map_some, Option.some.injEq]
            rw [getElem!_def, hu]
          · cases hv) (fun i _ _ => by omega) (Nat.le_refl 0)
        refine ⟨.slice (some ⟨w.heap.size, 0, none⟩) l.toNat c.toNat, _, ρ', ?_, ⟨w.heap.size, 0, _, c.toNat, rfl, ?_, Int.le_refl _, Nat.le_refl _, fun _ => rfl, by omega, Nat.le_refl _⟩, g1, g2⟩
        · unfold Instr.makeSlice
          simp only [Sem.run_bind, run_underlying hu, Result.andThen_ok, asInt, asIntOf, Sem.run_pure, typeInfo, run_program, hi', hwl, hwc]
          have hnot : ¬ ((decide (c < 0) || decide ((i.bytes : Int) * c > 2 ^ 48) || decide (l < 0) || decide (l > c)) = true) := by
            simp only [Bool.or_eq_true, decide_eq_true_eq, not_or]
            rw [hby] at hb4
            refine ⟨⟨⟨by omega, by omega⟩, by omega⟩, by omega⟩
          rw [if_neg hnot]
          simp only [Sem.run_bind, Sem.run_pure, run_askRoom, Result.andThen_ok, run_sizeOf hi']
          by_cases h0 : c.toNat * P.cellsOf e = 0
          · simp only [h0, if_true, Sem.run_bind, Sem.run_pure, Result.andThen_ok, run_newRow, range0]
          · simp only [h0, if_false, Sem.run_bind, Sem.run_pure, hrun, Result.andThen_ok, run_newRow]
        · rw [Arr.make_n] at g3; rw [g3]; simp
      · cases hs
    · cases hs
  · cases hs
end Go.Proofs.YtcphjmgfgfjnpaaGreatDoor.Ev
namespace Go.Proofs.YtcphjmgfgfjnpaaGreatDoor.Ev
open Go
def byteV (n : Nat) : V := .int .u8 n
def byteOf : V → Option Nat
  | .int .u8 n => some (Nat.mod n.toNat 256)
  | _ => none
def toBytes : List V → Option (List Nat)
  | [] => some []
  | v :: l => match byteOf v, toBytes l with
    | some n, some r => some (n :: r)
    | _, _ => none
theorem byteOf_spec {v : V} {m : Nat} (h : byteOf v = some m) : ∃ n : Int, v = .int .u8 n ∧ m = n.toNat % 256 := by
  unfold byteOf at h
  split at h
  · rename_i n; cases h; exact ⟨n, rfl, rfl⟩
  · cases h
theorem byteV_RL (ρ : Rho) : ∀ l : List UInt8, RL ρ ((l.map UInt8.toNat).map byteV) (l.map fun b => Value.int .u8 b.toNat) := by
  intro l
  induction l with
  | nil => exact rfl
  | cons b l ih => exact ⟨_, _, rfl, rfl, ih⟩
theorem toBytes_spec {ρ : Rho} : ∀ {vs : List V} {us : List Value} {l : List Nat}, toBytes vs = some l → RL ρ vs us → ∃ ns : List Int, us = ns.map (Value.int .u8) ∧ l = ns.map fun n => n.toNat % 256 := by
  intro vs
  induction vs with
  | nil => intro us l h hR; cases h; exact ⟨[], hR, rfl⟩
  | cons v vs ih =>
    rintro us l h ⟨z, zs, rfl, hz, hR⟩
    unfold toBytes at h
    cases hb : byteOf v with
    | none => rw [hb] at h; cases h
    | some n =>
      cases ht : toBytes vs with
      | none => rw [hb, ht] at h; cases h
      | some r =>
        rw [hb, ht] at h
        cases h
        obtain ⟨m, rfl, rfl⟩ := byteOf_spec hb
        obtain ⟨ns, g1, g2⟩ := ih ht hR
        exact ⟨m :: ns, by rw [g1, show z = _ from hz]; rfl, by rw [g2]; rfl⟩
theorem bytes_mod : ∀ ns : List Int, (ns.map fun n => UInt8.ofNat n.toNat).map UInt8.toNat = ns.map fun n => n.toNat % 256 := by
  intro ns
  rw [List.map_map]
  apply List.map_congr_left
  intro n _
  simp
theorem run_chooseCap (P : Program) (w : World) (need old : Nat) (e : TypeId) : ∃ c, (choose (.appendCap need old e)).run P w = .ok c { w with drawn := w.drawn + 1 } ∧ need ≤ c := by
  refine ⟨_, rfl, ?_⟩
  simp only [Question.cut]
  exact Nat.le_add_right _ _
theorem modify_push_last {α : Type} (xs : Array α) (x : α) (f : α → α) : (xs.push x).modify xs.size f = xs.push (f x) := by
  apply Array.ext_getElem?
  intro i
  rw [Array.getElem?_modify, Array.getElem?_push, Array.getElem?_push]
  by_cases h : i = xs.size
  · subst h; simp
  · rw [if_neg (fun e => h e.symm), if_neg h, if_neg h]
noncomputable def absToBytes (e : TypeId) (s : List Nat) (h : AH) : V × AH :=
  (.slice ⟨h.next, s.length, 0⟩ s.length s.length false 1, h.add ⟨Arr.ofList (s.map byteV), 0, 0, false, e⟩)
theorem toBytes_sound {P : Program} {ρ : Rho} {h : AH} {w : World} {e : TypeId} {s : ByteArray} (hr : HR ρ h w) :
    Sim P ρ h w (Conv.stringToBytes e s) (absToBytes e (s.data.toList.map UInt8.toNat) h).1 (absToBytes e (s.data.toList.map UInt8.toNat) h).2 := by
  obtain ⟨c, hc, hle⟩ := run_chooseCap P w s.size 0 e
  have hsz : s.data.toList.length = s.size := by rw [Array.length_toList]; rfl
  let C : Array Value := s.data.map (fun b => Value.int .u8 b.toNat) ++ Array.replicate (c - s.size) (Value.int .u8 0)
  have hC : C.size = c := by
    have : s.data.size = s.size := rfl
    simp only [C, Array.size_append, Array.size_map, Array.size_replicate]; omega
  obtain ⟨ρ', g1, g2, g3⟩ := add_sound (w' := { w with heap := w.heap.push (.cells C e (C.size, C.size + 1)), drawn := w.drawn + 1 }) hr ⟨Arr.ofList ((s.data.toList.map UInt8.toNat).map byteV), 0, 0, false, e⟩ C C.size (C.size + 1) rfl rfl rfl rfl
    (by simp only [Arr.ofList_n, List.length_map, hsz]; omega) (fun j v hv => by
      simp only [Arr.get_ofList] at hv
      obtain ⟨u, hu, hRu⟩ := (byteV_RL ρ s.data.toList).get hv
      refine ⟨u, ?_, hRu⟩
      have hlt := (List.getElem?_eq_some_iff.1 hu).1
      rw [List.length_map, hsz] at hlt
      simp only [C]
      rw [Array.getElem?_append_left (by simp only [Array.size_map]; exact hlt)]
      rw [List.getElem?_map, Array.getElem?_toList] at hu
      rw [Array.getElem?_map]; exact hu) (fun i _ hi => by omega) (Nat.le_succ _)
  refine ⟨.slice (some ⟨w.heap.size, 0, none⟩) s.size c, _, ρ', ?_, ⟨w.heap.size, 0, C.size, c, ?_, ?_, Int.le_refl _, ?_, fun h => absurd h (by simp), Nat.le_refl _, by simp only; omega⟩, g1, g2⟩
  · unfold Conv.stringToBytes
    simp only [Sem.run_bind, hc, Result.andThen_ok, run_newRow, markStringish, run_shape]
    have hshape : (World.shape? { w with heap := w.heap.push (.cells C e), drawn := w.drawn + 1 } w.heap.size) = some (e, C.size) := by
      simp [World.shape?]
    simp only [C] at hshape
    rw [hshape]
    simp only [run_freeze, Result.andThen_ok, Sem.run_pure]
    congr 1
    simp only [World.freeze]
    congr 1
    rw [modify_push_last]
    simp [C]
  · simp only [List.length_map, hsz]; rfl
  · simp only [Arr.ofList_n, List.length_map] at g3 ⊢; exact g3
  · simp only [List.length_map, hsz]; exact hle
noncomputable def absToStr (x : V) (h : AH) : Option V :=
  match x with
  | .nilslice => some (.str [])
  | .loose => some (.str [])
  | .slice a n _ _ _ => (readN h a n).bind fun vs => (toBytes vs).map .str
  | _ => none
theorem run_pushAll (P : Program) (w : World) (f : Value → ByteArray → Sem (ForInStep ByteArray)) (hf : ∀ (n : Int) (s : ByteArray), f (.int .u8 n) s = pure (ForInStep.yield (s.push (UInt8.ofNat n.toNat)))) : ∀ (l : List Int) (s : ByteArray),
    (forIn (l.map (Value.int .u8)) s f).run P w = .ok ⟨s.data ++ (l.map fun n => UInt8.ofNat n.toNat).toArray⟩ w := by
  intro l
  induction l with
  | nil => intro s; simp
  | cons n l ih =>
    intro s
    rw [List.map_cons, List.forIn_cons, hf]
    simp only [Sem.run_bind, Sem.run_pure, Result.andThen_ok]
    rw [ih]
    congr 1
    simp [ByteArray.push]
theorem toStr_sound {P : Program} {ρ : Rho} {h : AH} {w : World} {x v : V} {a : Value} (hr : HR ρ h w) (hx : R ρ x a) (hs : absToStr x h = some v) : ∃ u, (Conv.bytesToString a).run P w = .ok u w ∧ R ρ v u := by
  unfold absToStr at hs
  split at hs
  · cases hs; rw [show a = _ from hx]; exact ⟨.string .empty, rfl, _, rfl, rfl⟩
  · cases hs
    obtain ⟨c, cc, rfl⟩ := hx
    refine ⟨.string .empty, ?_, _, rfl, rfl⟩
    have := run_loadCells_list (P := P) (w := w) c [] (by simp)
    simp only [List.length_nil] at this
    simp [Conv.bytesToString, this]
  · rename_i p n _ _ _
    obtain ⟨cb, sh, S, cc, rfl, h1, h2, _⟩ := hx
    cases hread : readN h p n with
    | none => rw [hread] at hs; cases hs
    | some vs =>
      rw [hread] at hs
      simp only [Option.bind_some] at hs
      cases ht : toBytes vs with
      | none => rw [ht] at hs; cases hs
      | some l =>
        rw [ht] at hs
        cases hs
        obtain ⟨us, hlen, hR, hcell⟩ := read_sound hr ⟨cb, sh, S, h1, h2, rfl⟩ hread
        obtain ⟨ns, g1, g2⟩ := toBytes_spec ht hR
        have hl := run_loadCells_list (P := P) (w := w) _ us hcell
        rw [hlen] at hl
        refine ⟨.string ⟨(ns.map fun n => UInt8.ofNat n.toNat).toArray⟩, ?_, _, rfl, ?_⟩
        · unfold Conv.bytesToString
          subst g1
          simp only [Sem.run_bind, hl, Result.andThen_ok, ← Array.forIn_toList]
          rw [run_pushAll P w _ (fun _ _ => rfl)]
          have e : ByteArray.empty.data = #[] := rfl
          rw [e]
          simp
        · rw [g2, ← bytes_mod]
  · cases hs
end Go.Proofs.YtcphjmgfgfjnpaaGreatDoor.Ev
namespace Go.Proofs.YtcphjmgfgfjnpaaGreatDoor.Ev
open Go
theorem toNat_00 : (((0 : Nat) : Int) - 0).toNat = 0 := rfl
theorem toNat_oo (o : Nat) : ((o : Int) - (o : Int)).toNat = 0 := by simp
def srcLen (x : V) : Option Nat :=
  match x with
  | .nilslice => some 0
  | .loose => some 0
  | .slice _ n _ _ _ => some n
  | .str s => some s.length
  | _ => none
noncomputable def srcCells (x : V) (size n : Nat) (h : AH) : Option (List V) :=
  match x with
  | .nilslice => some []
  | .loose => some []
  | .slice a _ _ _ _ => if n = 0 then some [] else readN h a (n * size)
  | .str s => some ((s.take n).map byteV)
  | _ => none
theorem srcLen_sound {P : Program} {ρ : Rho} {x : V} {a : Value} {n : Nat} (hx : R ρ x a) (h : srcLen x = some n) (w : World) : (Builtin.lenOf a).run P w = .ok n w := by
  unfold srcLen at h
  split at h
  · cases h; rw [show a = _ from hx]; rfl
  · cases h; obtain ⟨_, _, rfl⟩ := hx; rfl
  · cases h; obtain ⟨_, _, _, _, rfl, _⟩ := hx; rfl
  · cases h; obtain ⟨t, rfl, rfl⟩ := hx; simp [Builtin.lenOf]
  · cases h
theorem cell_of_heap {w w0 : World} (h : w0.heap = w.heap) (a : Addr) : w0.cell? a = w.cell? a := by unfold World.cell?; rw [h]
theorem srcCells_sound {P : Program} {ρ : Rho} {h : AH} {w : World} {x : V} {a : Value} {m n size : Nat} {vs : List V} (hr : HR ρ h w) (hx : R ρ x a) (hm : srcLen x = some m) (hn : n ≤ m) (hs : srcCells x size n h = some vs) :
    ∃ us : List Value, RL ρ vs us ∧ ∀ w0 : World, w0.heap = w.heap → (Builtin.firstCells size n a).run P w0 = .ok us.toArray w0 := by
  unfold srcCells at hs
  split at hs
  · cases hs; rw [show a = _ from hx]; exact ⟨[], rfl, fun _ _ => rfl⟩
  · cases hs
    cases hm
    obtain ⟨c, cc, rfl⟩ := hx
    have hn0 : n = 0 := by omega
    subst hn0
    refine ⟨[], rfl, fun w0 _ => ?_⟩
    have := run_loadCells_list (P := P) (w := w0) c [] (by simp)
    simp only [List.length_nil] at this
    simp [Builtin.firstCells, this]
  · rename_i p k _ _ _
    obtain ⟨cb, sh, S, cc, rfl, h1, h2, _⟩ := hx
    split at hs
    · rename_i hn0
      cases hs
      subst hn0
      refine ⟨[], rfl, fun w0 _ => ?_⟩
      have := run_loadCells_list (P := P) (w := w0) (⟨cb, ((p.o : Int) - sh).toNat, none⟩) [] (by simp)
      simp only [List.length_nil] at this
      simp [Builtin.firstCells, this]
    · obtain ⟨us, hlen, hR, hcell⟩ := read_sound hr ⟨cb, sh, S, h1, h2, rfl⟩ hs
      refine ⟨us, hR, fun w0 h0 => ?_⟩
      have hl := run_loadCells_list (P := P) (w := w0) _ us (fun j u hu => (cell_of_heap h0 _).trans (hcell j u hu))
      rw [hlen] at hl
      simp [Builtin.firstCells, hl]
  · rename_i s
    cases hs
    obtain ⟨t, rfl, rfl⟩ := hx
    refine ⟨(t.data.toList.take n).map fun b => Value.int .u8 b.toNat, ?_, fun w0 _ => ?_⟩
    · have := byteV_RL ρ (t.data.toList.take n)
      rw [List.map_take] at this
      exact this
    · simp only [Builtin.firstCells, Sem.run_pure]
      congr 1
      apply Array.ext'
      simp [ByteArray.data_extract]
  · cases hs
theorem growBy_le (n : Nat) : ∀ (r c : Nat), 256 ≤ c → c < n → Builtin.growBy n r c ≤ 2 * n + 128 := by
  intro r
  induction r with
  | zero => intro c hc h; simp only [Builtin.growBy]; omega
  | succ r ih =>
    intro c hc h
    simp only [Builtin.growBy]
    rw [if_neg (by omega)]
    by_cases h2 : c + (c + 768) / 4 < n
    · exact ih _ (by omega) h2
    · cases r with
      | zero => simp only [Builtin.growBy]; omega
      | succ r => simp only [Builtin.growBy]; rw [if_pos (by omega)]; omega
theorem nextcap_le {n c : Nat} (h : c < n) : Builtin.nextslicecap n c ≤ 2 * n + 128 := by
  unfold Builtin.nextslicecap
  split
  · omega
  · split
    · omega
    · exact growBy_le n 4 c (by omega) h
theorem zeroCells_size (z : Array Value) (n : Nat) : (Builtin.zeroCells z n).size = n * z.size := by simp [Builtin.zeroCells]
theorem append_grown {P : Program} {w : World} {t xt ty e : TypeId} {i : TypeInfo} {z : Value} {base : Option Addr} {sn cc n : Nat} {x : Value} {old new : List Value} (hu : P.underlying t = some (.slice e)) (hx : ∀ k, P.underlying xt ≠ some (.int k)) (hxu : (P.underlying xt).isSome = true) (hi : P.info? e = some i) (hz : i.zero = some z)
    (hlen : (Builtin.lenOf x).run P w = .ok n w) (hold : ∀ w0 : World, w0.heap = w.heap → (Builtin.firstCells i.size sn (.slice base sn cc)).run P w0 = .ok old.toArray w0) (hnew : ∀ w0 : World, w0.heap = w.heap → (Builtin.firstCells i.size n x).run P w0 = .ok new.toArray w0)
    (hneed : cc < sn + n) (hmax : sn + n ≤ 4611686018427387904) (hb : (2 * (sn + n) + 128) * i.bytes ≤ 281474976710656) :
    ∃ c, sn + n ≤ c ∧ (Builtin.append_ #[t, xt] ty #[.slice base sn cc, x]).run P w =
      .ok (.slice (some ⟨w.heap.size, 0, none⟩) (sn + n) c) { w with heap := w.heap.push (.cells (old ++ new ++ (Builtin.zeroCells z.cells (c - (sn + n))).toList).toArray e), drawn := w.drawn + 1 } := by
  obtain ⟨c, hc, hle⟩ := run_chooseCap P w (sn + n) cc e
  refine ⟨c, hle, ?_⟩
  obtain ⟨xd, hxd⟩ := Option.isSome_iff_exists.1 hxu
  have hnx : ∀ k, xd ≠ .int k := fun k hk => hx k (by rw [hxd, hk])
  have hsz : (sizeOf e).run P w = .ok i.size w := by simp [sizeOf, typeInfo, hi]
  unfold Builtin.append_
  simp only [List.getElem?_toArray, List.getElem?_cons_zero, List.getElem?_cons_succ, Sem.run_bind, run_underlying hu, Result.andThen_ok, hsz, run_underlying hxd]
  have hm : (match xd with | .int k => true | _ => false) = false := by cases xd <;> first | rfl | exact absurd rfl (hnx _)
  have hn1 : ¬ sn + n ≤ cc := by omega
  have hmul : Builtin.nextslicecap (sn + n) cc * i.bytes ≤ 281474976710656 := Nat.le_trans (Nat.mul_le_mul_right _ (nextcap_le hneed)) hb
  have h63 : ¬ ((sn + n : Nat) : Int) > IntKind.i64.max := by simp [IntKind.max, IntKind.bits, IntKind.signed]; omega
  have hti : ∀ w0 : World, (typeInfo e).run P w0 = .ok i w0 := fun w0 => by simp [typeInfo, hi]
  have hzv : ∀ w0 : World, (zeroValue e).run P w0 = .ok z w0 := fun w0 => by simp [zeroValue, typeInfo, hi, hz]
  have hcap : ¬ Builtin.nextslicecap (sn + n) cc * i.bytes > 2 ^ 48 := by omega
  simp only [Sem.run_pure, Result.andThen_ok, Bool.false_eq_true, if_false, Sem.run_bind, hlen, hn1, hti, h63, false_and, hcap, hc, run_askRoom]
  rw [hold { w with drawn := w.drawn + 1 } rfl]
  simp only [Result.andThen_ok, Bool.not_false, if_true]
  rw [hnew { w with drawn := w.drawn + 1 } rfl]
  simp only [Result.andThen_ok, hzv, run_newRow]
  have he : old.toArray ++ new.toArray ++ Builtin.zeroCells z.cells (c - (sn + n)) = (old ++ new ++ (Builtin.zeroCells z.cells (c - (sn + n))).toList).toArray := by
    apply Array.ext'; simp
  rw [he]
theorem append_room {P : Program} {w w' : World} {t xt ty e : TypeId} {i : TypeInfo} {a : Addr} {sn cc n : Nat} {x : Value} {new : List Value} (hu : P.underlying t = some (.slice e)) (hx : ∀ k, P.underlying xt ≠ some (.int k)) (hxu : (P.underlying xt).isSome = true) (hi : P.info? e = some i)
    (hlen : (Builtin.lenOf x).run P w = .ok n w) (hnew : (Builtin.firstCells i.size n x).run P w = .ok new.toArray w) (hneed : sn + n ≤ cc) (hst : (storeCells (a.add (sn * i.size)) new).run P w = .ok () w') :
    (Builtin.append_ #[t, xt] ty #[.slice (some a) sn cc, x]).run P w = .ok (.slice (some a) (sn + n) cc) w' := by
  obtain ⟨xd, hxd⟩ := Option.isSome_iff_exists.1 hxu
  have hnx : ∀ k, xd ≠ .int k := fun k hk => hx k (by rw [hxd, hk])
  have hsz : (sizeOf e).run P w = .ok i.size w := by simp [sizeOf, typeInfo, hi]
  unfold Builtin.append_
  simp only [List.getElem?_toArray, List.getElem?_cons_zero, List.getElem?_cons_succ, Sem.run_bind, run_underlying hu, Result.andThen_ok, hsz, run_underlying hxd]
  simp only [Sem.run_pure, Result.andThen_ok, Bool.false_eq_true, if_false, Sem.run_bind, hlen, hneed, if_true, Bool.not_false, hnew, hst]
theorem append_nothing {P : Program} {w : World} {t xt ty e : TypeId} {i : TypeInfo} {cc : Nat} {x : Value} {new : List Value} (hu : P.underlying t = some (.slice e)) (hx : ∀ k, P.underlying xt ≠ some (.int k)) (hxu : (P.underlying xt).isSome = true) (hi : P.info? e = some i)
    (hlen : (Builtin.lenOf x).run P w = .ok 0 w) (hnew : (Builtin.firstCells i.size 0 x).run P w = .ok new.toArray w) :
    (Builtin.append_ #[t, xt] ty #[.slice none 0 cc, x]).run P w = .ok (.slice none 0 cc) w := by
  obtain ⟨xd, hxd⟩ := Option.isSome_iff_exists.1 hxu
  have hnx : ∀ k, xd ≠ .int k := fun k hk => hx k (by rw [hxd, hk])
  have hsz : (sizeOf e).run P w = .ok i.size w := by simp [sizeOf, typeInfo, hi]
  unfold Builtin.append_
  simp only [List.getElem?_toArray, List.getElem?_cons_zero, List.getElem?_cons_succ, Sem.run_bind, run_underlying hu, Result.andThen_ok, hsz, run_underlying hxd]
  simp only [Sem.run_pure, Result.andThen_ok, Bool.false_eq_true, if_false, Sem.run_bind, hlen, Nat.zero_le, Nat.add_zero, if_true, Bool.not_false, hnew]
def rowLike (P : Program) (xt : TypeId) : Bool :=
  match P.underlying xt with
  | some (.int _) => false
  | some _ => true
  | none => false
theorem rowLike_spec {P : Program} {xt : TypeId} (h : rowLike P xt = true) : (∀ k, P.underlying xt ≠ some (.int k)) ∧ (P.underlying xt).isSome = true := by
  unfold rowLike at h
  split at h
  · cases h
  · rename_i d hd hu; exact ⟨fun k hk => by rw [hu] at hk; cases hk; exact hd _ rfl, by rw [hu]; rfl⟩
  · cases h
def capOk (P : Program) (e : TypeId) (need : Nat) : Bool := Nat.ble need 4611686018427387904 && Nat.ble (Nat.mul (Nat.add (Nat.mul 2 need) 128) (P.bytesOf e)) 281474976710656
noncomputable def absAppend (P : Program) (t xt : TypeId) (s x : V) (h : AH) : Option (V × AH) :=
  match P.underlying t with
  | some (.slice e) =>
    if rowLike P xt = true ∧ (zeroOf P e).isSome = true ∧ 0 < P.cellsOf e then
      match srcLen x with
      | none => none
      | some n =>
        match srcCells x (P.cellsOf e) n h with
        | none => none
        | some new =>
          if new.length = n * P.cellsOf e then
          match s with
          | .nilslice =>
            if n = 0 then some (.nilslice, h)
            else if capOk P e n = true ∧ new.all V.cell = true then some (.slice ⟨h.next, new.length, 0⟩ n n false (P.cellsOf e), h.add ⟨Arr.ofList new, 0, 0, false, e⟩)
            else none
          | .loose => if n = 0 then some (.loose, h) else none
          | .slice a sn cap ex z =>
            if z = P.cellsOf e then
              if sn + n ≤ cap then
                if n = 0 then some (.slice a sn cap ex z, h)
                else (writeN h ⟨a.b, a.L, a.o + sn * z⟩ new).map fun h' => (.slice a (sn + n) cap ex z, h')
              else if capOk P e (sn + n) = true ∧ new.all V.cell = true then
                if ex then
                  match readN h a (sn * z) with
                  | some old => if old.all V.cell = true then some (.slice ⟨h.next, (old ++ new).length, 0⟩ (sn + n) (sn + n) false z, h.add ⟨Arr.ofList (old ++ new), 0, 0, false, e⟩) else none
                  | none => none
                else
                  match h.get a.b with
                  | some k =>
                    if a.L = k.cells.n ∧ a.o + sn * z = a.L ∧ k.ro = false ∧ k.minL ≤ a.L ∧ k.fz ≤ a.L ∧ k.e = e then some (.slice ⟨a.b, a.L + new.length, a.o⟩ (sn + n) (sn + n) false z, h.grow a.b k new) else none
                  | none => none
              else none
            else none
          | _ => none
          else none
    else none
  | _ => none
theorem append_sound {P : Program} {ρ : Rho} {h h' : AH} {w : World} {t xt ty : TypeId} {s x v : V} {a b : Value} (hr : HR ρ h w) (hs : R ρ s a) (hx : R ρ x b) (hh : absAppend P t xt s x h = some (v, h')) : Sim P ρ h w (Builtin.append_ #[t, xt] ty #[a, b]) v h' := by
  unfold absAppend at hh
  split at hh
  case h_2 => cases hh
  rename_i e hu
  split at hh
  case isFalse => cases hh
  rename_i hc
  obtain ⟨hrow, hzo, hpos⟩ := hc
  obtain ⟨hnx, hxs⟩ := rowLike_spec hrow
  obtain ⟨zs, hzs⟩ := Option.isSome_iff_exists.1 hzo
  obtain ⟨i, z, hi, hz, hRz, hlz, hcz, _, hrun⟩ := zeroOf_spec hzs ρ
  have hsize : P.cellsOf e = i.size := by simp [Program.cellsOf, hi]
  have hbytes : P.bytesOf e = i.bytes := by simp [Program.bytesOf, hi]
  have hzc : z.cells.size = i.size := by
    have : zs.length = z.cells.size := by simpa using hRz.length
    omega
  split at hh
  case h_1 => cases hh
  rename_i n hn
  split at hh
  case h_1 => cases hh
  rename_i new hnew
  split at hh
  case isFalse => cases hh
  rename_i hlen
  obtain ⟨us, hRn, hus⟩ := srcCells_sound (P := P) hr hx hn (Nat.le_refl _) hnew
  rw [hsize] at hus
  have hlu := hRn.length
  have hlenrun := srcLen_sound (P := P) hx hn w
  have hul : us.length = n * i.size := by rw [← hlu, hlen, hsize]
  have capSpec : ∀ need, capOk P e need = true → need ≤ 4611686018427387904 ∧ (2 * need + 128) * i.bytes ≤ 281474976710656 := by
    intro need h
    unfold capOk at h
    simp only [Bool.and_eq_true, Nat.ble_eq] at h
    rw [hbytes] at h
    exact h
  split at hh
  · 
    rw [show a = _ from hs]
    split at hh
    · rename_i hn0
      subst hn0
      cases hh
      exact Sim.pure hr ⟨.slice none 0 0, append_nothing hu hnx hxs hi hlenrun (hus w rfl), rfl⟩
    · rename_i hn0
      split at hh
      · rename_i hcap
        cases hh
        obtain ⟨hm, hb⟩ := capSpec n hcap.1
        obtain ⟨c, hle, hrunA⟩ := append_grown (P := P) (w := w) (ty := ty) (base := none) (sn := 0) (cc := 0) (old := []) hu hnx hxs hi hz hlenrun (fun w0 _ => rfl) hus (by omega) (by omega) (by rw [Nat.zero_add]; exact hb)
        obtain ⟨ρ', f1, f2, f3⟩ := new_row (P := P) (w0 := { w with drawn := w.drawn + 1 }) hr rfl rfl rfl rfl hRn (Builtin.zeroCells z.cells (c - (0 + n))).toList e hcap.2
        refine ⟨_, _, ρ', hrunA, ⟨w.heap.size, 0, _, c, ?_, f3, Int.le_refl _, by omega, fun h => absurd h (by simp), Nat.le_refl _, ?_⟩, by simpa using f1, by simpa using f2⟩
        · simp
        · simp only [Array.length_toList, zeroCells_size, hzc, hul, hsize, Nat.sub_zero, Nat.zero_add, toNat_00, toNat_oo]
          rw [← Nat.add_mul]
          exact Nat.mul_le_mul_right _ (by omega)
      · cases hh
  · 
    split at hh
    · rename_i hn0
      subst hn0
      cases hh
      obtain ⟨c, cc, rfl⟩ := hs
      have hu0 : us = [] := List.eq_nil_of_length_eq_zero (by rw [hul]; simp)
      subst hu0
      exact Sim.pure hr ⟨.slice (some c) 0 cc, append_room hu hnx hxs hi hlenrun (hus w rfl) (by omega) rfl, c, cc, rfl⟩
    · cases hh
  · 
    rename_i p sn cap ex zz
    obtain ⟨cb, sh, S, cc, rfl, h1, h2, h3, h4, h5, h6⟩ := hs
    split at hh
    case isFalse => cases hh
    rename_i hzz
    subst hzz
    have hadd : ∀ k, (⟨cb, ((p.o : Int) - sh).toNat, none⟩ : Addr).add k = ⟨cb, (((p.o + k : Nat) : Int) - sh).toNat, none⟩ := by
      intro k
      unfold Addr.add
      by_cases hk : k = 0
      · simp [hk]
      · simp only [if_neg hk, Addr.mk.injEq, true_and, and_true]; omega
    split at hh
    · rename_i hfit
      split at hh
      · rename_i hn0
        subst hn0
        cases hh
        have hu0 : us = [] := List.eq_nil_of_length_eq_zero (by rw [hul]; simp)
        subst hu0
        exact Sim.pure hr ⟨.slice (some ⟨cb, ((p.o : Int) - sh).toNat, none⟩) sn cc, append_room hu hnx hxs hi hlenrun (hus w rfl) (by omega) rfl, cb, sh, S, cc, rfl, h1, h2, h3, h4, h5, h6⟩
      · rename_i hn0
        cases hwr : writeN h ⟨p.b, p.L, p.o + sn * P.cellsOf e⟩ new with
        | none => rw [hwr] at hh; cases hh
        | some h1' =>
          rw [hwr] at hh
          cases hh
          obtain ⟨w', g1, g2, g3⟩ := write_sound P hr (a := ⟨p.b, p.L, p.o + sn * P.cellsOf e⟩) (c := (⟨cb, ((p.o : Int) - sh).toNat, none⟩ : Addr).add (sn * i.size)) ⟨cb, sh, S, h1, by simp only; omega, by rw [hadd, hsize]⟩ hRn hwr
          exact ⟨_, w', ρ, append_room hu hnx hxs hi hlenrun (hus w rfl) (by omega) g1, ⟨cb, sh, S, cc, rfl, h1, h2, h3, h4, hfit, h6⟩, g2, g3⟩
    · rename_i hfit
      split at hh
      case isFalse => cases hh
      rename_i hcap
      obtain ⟨hm, hb⟩ := capSpec _ hcap.1
      split at hh
      · 
        rename_i hex
        obtain rfl := h4 hex
        cases hread : readN h p (sn * P.cellsOf e) with
        | none => rw [hread] at hh; cases hh
        | some old =>
          rw [hread] at hh
          simp only at hh
          split at hh
          case isFalse => cases hh
          rename_i holdc
          cases hh
          obtain ⟨os, hol, hRo, hoc⟩ := read_sound hr ⟨cb, sh, S, h1, h2, rfl⟩ hread
          have hold : ∀ w0 : World, w0.heap = w.heap → (Builtin.firstCells i.size sn (.slice (some ⟨cb, ((p.o : Int) - sh).toNat, none⟩) sn cc)).run P w0 = .ok os.toArray w0 := by
            intro w0 h0
            have hl := run_loadCells_list (P := P) (w := w0) _ os (fun j u hu => (cell_of_heap h0 _).trans (hoc j u hu))
            rw [hol, hsize] at hl
            simp [Builtin.firstCells, hl]
          obtain ⟨c, hle, hrunA⟩ := append_grown (P := P) (w := w) (ty := ty) (base := some ⟨cb, ((p.o : Int) - sh).toNat, none⟩) (sn := sn) (cc := cc) hu hnx hxs hi hz hlenrun hold hus (by omega) hm hb
          obtain ⟨ρ', f1, f2, f3⟩ := new_row (P := P) (w0 := { w with drawn := w.drawn + 1 }) hr rfl rfl rfl rfl (hRo.append hRn) (Builtin.zeroCells z.cells (c - (sn + n))).toList e (by rw [List.all_append, holdc, hcap.2]; rfl)
          refine ⟨_, _, ρ', hrunA, ⟨w.heap.size, 0, _, c, rfl, f3, Int.le_refl _, hle, fun h => absurd h (by simp), Nat.le_refl _, ?_⟩, f1, f2⟩
          simp only [List.length_append, Array.length_toList, zeroCells_size, hzc, hul, hol, hsize, Nat.sub_zero, Nat.zero_add, toNat_00, toNat_oo]
          rw [← Nat.add_mul, ← Nat.add_mul]
          exact Nat.mul_le_mul_right _ (by omega)
      · 
        cases hk : h.get p.b with
        | none => rw [hk] at hh; cases hh
        | some k =>
          rw [hk] at hh
          simp only at hh
          split at hh
          case isFalse => cases hh
          rename_i hg
          obtain ⟨k1, k2, k3, k4, k5, k6⟩ := hg
          cases hh
          have hn0 : 0 < n := by omega
          have hnew0 : new ≠ [] := by
            intro h0
            rw [h0] at hlen
            simp only [List.length_nil] at hlen
            have := Nat.mul_pos hn0 hpos
            omega
          by_cases hroom : sn + n ≤ cc
          · have hmulle : (sn + n) * P.cellsOf e ≤ cc * P.cellsOf e := Nat.mul_le_mul_right _ hroom
            rw [Nat.add_mul] at hmulle
            obtain ⟨w', g1, g2, g3⟩ := grow_here P hr hk k1 hnew0 h1 k3 k4 k5 (by omega) hRn hcap.2 (by rw [← hlu, hlen]; omega)
            have g1' : (storeCells ((⟨cb, ((p.o : Int) - sh).toNat, none⟩ : Addr).add (sn * i.size)) us).run P w = .ok () w' := by
              rw [hadd, ← hsize, k2]; exact g1
            exact ⟨_, w', _, append_room hu hnx hxs hi hlenrun (hus w rfl) hroom g1', ⟨cb, sh, S, cc, rfl, Rho.put_same _ _ _ _, h2, hroom, fun h => absurd h (by simp), Nat.le_refl _, h6⟩, g2, g3⟩
          · obtain ⟨cs, lo, hi', q1, q2, q3, q4, q5⟩ := hr.blk _ k _ cb sh S hk h1 k4
            have hcellp : ∀ j, w.cell? ⟨cb, j, none⟩ = cs[j]? := fun j => by unfold World.cell?; simp [q1]
            have hsnS : ((p.o : Int) - sh).toNat + sn * P.cellsOf e ≤ cs.size := by
              have := Nat.mul_le_mul_right (P.cellsOf e) (show sn ≤ cc from by omega)
              omega
            let os : List Value := (cs.toList.drop (((p.o : Int) - sh).toNat)).take (sn * P.cellsOf e)
            have hosl : os.length = sn * P.cellsOf e := by
              have e1 : cs.toList.length = cs.size := Array.length_toList
              simp only [os, List.length_take, List.length_drop]
              omega
            have hosg : ∀ j, j < sn * P.cellsOf e → os[j]? = cs[((p.o : Int) - sh).toNat + j]? := fun j hj => by
              simp only [os]
              rw [List.getElem?_take_of_lt hj, List.getElem?_drop, Array.getElem?_toList]
            have hold : ∀ w0 : World, w0.heap = w.heap → (Builtin.firstCells i.size sn (.slice (some ⟨cb, ((p.o : Int) - sh).toNat, none⟩) sn cc)).run P w0 = .ok os.toArray w0 := by
              intro w0 h0
              have hl := run_loadCells_list (P := P) (w := w0) (⟨cb, ((p.o : Int) - sh).toNat, none⟩) os (fun j u hu => by
                have hj := (List.getElem?_eq_some_iff.1 hu).1
                rw [hosl] at hj
                rw [cell_of_heap h0, hadd, hcellp, show (((p.o + j : Nat) : Int) - sh).toNat = ((p.o : Int) - sh).toNat + j from by omega, ← hosg j hj, hu])
              rw [hosl, hsize] at hl
              simp [Builtin.firstCells, hl]
            obtain ⟨c, hle, hrunA⟩ := append_grown (P := P) (w := w) (ty := ty) (base := some ⟨cb, ((p.o : Int) - sh).toNat, none⟩) (sn := sn) (cc := cc) hu hnx hxs hi hz hlenrun hold hus (by omega) hm hb
            obtain ⟨g1, g2⟩ := grow_there (w' := { w with heap := w.heap.push (.cells (os ++ us ++ (Builtin.zeroCells z.cells (c - (sn + n))).toList).toArray e), drawn := w.drawn + 1 }) hr hk k1 hnew0 h1 k3 k4 p.o h2 (by omega) hRn (os ++ us ++ (Builtin.zeroCells z.cells (c - (sn + n))).toList).toArray (by rw [k6]) rfl rfl rfl
              (by simp only [List.size_toArray, List.length_append, hosl]; omega)
              (fun j hj => by
                rw [List.getElem?_toArray, List.append_assoc, List.getElem?_append_left (by rw [hosl]; omega), hosg j (by omega), hcellp])
              (fun j hj => by
                rw [List.getElem?_toArray, List.append_assoc, List.getElem?_append_right (by rw [hosl]; omega), List.getElem?_append_left (by rw [hosl]; omega), hosl]
                congr 1; omega)
            refine ⟨_, _, _, hrunA, ⟨w.heap.size, p.o, _, c, by simp, Rho.put_same _ _ _ _, Int.le_refl _, hle, fun h => absurd h (by simp), Nat.le_refl _, ?_⟩, g1, g2⟩
            simp only [List.size_toArray, List.length_append, Array.length_toList, zeroCells_size, hzc, hul, hosl, hsize, Nat.sub_self, Nat.zero_add, toNat_00, toNat_oo]
            rw [← Nat.add_mul, ← Nat.add_mul]
            exact Nat.mul_le_mul_right _ (by omega)
  · cases hh
end Go.Proofs.YtcphjmgfgfjnpaaGreatDoor.Ev
namespace Go.Proofs.YtcphjmgfgfjnpaaGreatDoor.Ev
open Go
noncomputable def absCopy (P : Program) (t : TypeId) (d x : V) (h : AH) : Option (V × AH) :=
  match P.underlying t with
  | some (.slice e) =>
    if (P.info? e).isSome then
      match srcLen x, srcLen d with
      | some m, some dn =>
        if Nat.min m dn = 0 then (match d with | .str _ => none | _ => some (.int .i64 0, h)) else
        match srcCells x (P.cellsOf e) (Nat.min m dn) h, d with
        | some cs, .slice a _ _ _ _ => (writeN h a cs).map fun h' => (.int .i64 (Nat.min m dn), h')
        | _, _ => none
      | _, _ => none
    else none
  | _ => none
theorem load0 (P : Program) (w : World) (c : Addr) : (loadCells c 0).run P w = .ok #[] w := rfl
theorem copy_sound {P : Program} {ρ : Rho} {h h' : AH} {w : World} {t xt ty : TypeId} {d x v : V} {a b : Value} (hr : HR ρ h w) (hd : R ρ d a) (hx : R ρ x b) (hs : absCopy P t d x h = some (v, h')) : Sim P ρ h w (Builtin.copy_ #[t, xt] ty #[a, b]) v h' := by
  unfold absCopy at hs
  split at hs
  case h_2 => cases hs
  rename_i e hu
  split at hs
  case isFalse => cases hs
  rename_i hi
  obtain ⟨i, hi⟩ := Option.isSome_iff_exists.1 hi
  have hsize : P.cellsOf e = i.size := by simp [Program.cellsOf, hi]
  have hsz : ∀ w0 : World, (sizeOf e).run P w0 = .ok i.size w0 := fun w0 => by simp [sizeOf, typeInfo, hi]
  split at hs
  case h_2 => cases hs
  rename_i m dn hm hdn
  have hlen := srcLen_sound (P := P) hx hm w
  split at hs
  · rename_i h0
    have key : ∀ (base : Option Addr) (cc : Nat), a = .slice base dn cc → v = .int .i64 0 → h' = h → Sim P ρ h w (Builtin.copy_ #[t, xt] ty #[a, b]) v h' := by
      rintro base cc rfl rfl rfl
      have hcells : (Builtin.firstCells i.size 0 b).run P w = .ok #[] w := by
        unfold srcLen at hm
        split at hm
        · rw [show b = _ from hx]; rfl
        · obtain ⟨c, cc, rfl⟩ := hx
          simp [Builtin.firstCells, load0]
        · obtain ⟨cb, sh, S, cc, rfl, _⟩ := hx
          simp [Builtin.firstCells, load0]
        · obtain ⟨t', rfl, _⟩ := hx
          simp only [Builtin.firstCells, Sem.run_pure]
          congr 1
          apply Array.ext'
          simp [ByteArray.data_extract]
        · cases hm
      refine Sim.pure hr ⟨.int .i64 0, ?_, rfl⟩
      unfold Builtin.copy_
      simp only [List.getElem?_toArray, List.getElem?_cons_zero, List.getElem?_cons_succ, Sem.run_bind, run_underlying hu, Result.andThen_ok, hsz, hlen, h0, hcells]
      cases base <;> rfl
    unfold srcLen at hdn
    split at hdn
    · cases hdn; cases hs; exact key none 0 (show a = _ from hd) rfl rfl
    · cases hdn; cases hs; obtain ⟨c, cc, rfl⟩ := hd; exact key (some c) cc rfl rfl rfl
    · cases hdn; cases hs; obtain ⟨cb, sh, S, cc, rfl, _⟩ := hd; exact key _ cc rfl rfl rfl
    · cases hs
    · cases hdn
  · rename_i h0
    split at hs
    case h_2 => cases hs
    rename_i cs p dn' _ _ _ hcs
    cases hdn
    obtain ⟨us, hRn, hus⟩ := srcCells_sound (P := P) hr hx hm (Nat.min_le_left _ _) hcs
    rw [hsize] at hus
    obtain ⟨cb, sh, S, cc, rfl, h1, h2, h3, h4, h5, h6⟩ := hd
    cases hwr : writeN h p cs with
    | none => rw [hwr] at hs; cases hs
    | some h1' =>
      rw [hwr] at hs
      cases hs
      obtain ⟨w', g1, g2, g3⟩ := write_sound P hr ⟨cb, sh, S, h1, h2, rfl⟩ hRn hwr
      refine ⟨_, w', ρ, ?_, rfl, g2, g3⟩
      unfold Builtin.copy_
      simp only [List.getElem?_toArray, List.getElem?_cons_zero, List.getElem?_cons_succ, Sem.run_bind, run_underlying hu, Result.andThen_ok, hsz, hlen, hus w rfl, g1, Sem.run_pure]
      rfl
theorem freeze_sound {ρ : Rho} {h : AH} {w : World} (hr : HR ρ h w) {b L cb S : Nat} {sh : Int} {k : Blk} (hk : h.get b = some k) (hρ : ρ b L = some (cb, sh, S)) (hm : k.minL ≤ L) (hf : k.fz = 0) (hro : k.ro = false) :
    HR ρ h (w.freeze ⟨cb, S, none⟩ 1) ∧ Step ρ h w ρ h (w.freeze ⟨cb, S, none⟩ 1) ∧ w.shape? cb = some (k.e, S) := by
  obtain ⟨cs, lo, hi, g1, g2, g3, g4, g5⟩ := hr.blk _ _ _ _ _ _ hk hρ hm
  have hheap : ∀ x, (w.freeze ⟨cb, S, none⟩ 1).heap[x]? = if x = cb then some (.cells cs k.e (if lo == hi then (S, S + 1) else (min lo S, max hi (S + 1)))) else w.heap[x]? := by
    intro x
    simp only [World.freeze, Nat.one_ne_zero, if_false, Array.getElem?_modify]
    by_cases hx : x = cb
    · subst hx; rw [if_pos rfl, if_pos rfl, g1]; rfl
    · rw [if_neg (fun e => hx e.symm), if_neg hx]
  have hsz : (w.freeze ⟨cb, S, none⟩ 1).heap.size = w.heap.size := by simp [World.freeze]
  refine ⟨⟨hr.fresh, hr.lives, fun b L c x hx => by rw [hsz]; exact hr.bound b L c x hx, hr.inj, hr.top, ?_, fun b' k' hk' ho => (hr.obj b' k' hk' ho).mono (Rho.le_refl ρ) fun cb' S' e => by
    rw [hheap, if_neg]
    intro he
    obtain rfl := hr.apart hk' ho e (he ▸ hρ)
    rw [hk] at hk'
    cases hk'
    have := hr.top _ _ _ _ hk hρ
    unfold Blk.IsObj at ho
    omega⟩, ⟨Rho.le_refl ρ, fun b L c x hx _ => ⟨L, x, hx⟩, fun b k' hk' _ => ⟨k', hk', rfl⟩, Nat.le_refl _, ?_, ?_, ?_, Nat.le_of_eq hsz.symm, ?_, Nat.le_refl _, fun _ _ _ => rfl, fun _ _ hb => ⟨hb, fun _ _ h => h⟩⟩, ?_⟩
  · intro b' k' L' cb' sh' S' hk' hρ' hm'
    by_cases hcb : cb' = cb
    · subst hcb
      obtain ⟨rfl, hx⟩ := hr.inj _ _ _ _ _ _ _ _ hρ hρ' hk hro
      cases hx
      rw [hk] at hk'
      cases hk'
      obtain ⟨cs', lo', hi', q1, q2, q3, q4, q5⟩ := hr.blk _ _ _ _ _ _ hk hρ' hm'
      rw [g1] at q1
      cases q1
      have h0 := hheap cb'
      rw [if_pos rfl] at h0
      by_cases hlh : lo = hi
      · subst hlh
        simp only [beq_self_eq_true, if_true] at h0
        exact ⟨cs, S, S + 1, h0, q2, q3, q4, fun _ => ⟨fun i _ hi => by omega, Nat.le_succ _, (g5 hro).2.2⟩⟩
      · rw [if_neg (by simpa using hlh)] at h0
        have hsh0 := (g5 hro).2.2
        refine ⟨cs, _, _, h0, q2, q3, q4, fun _ => ⟨fun i hfz hi' => ?_, by omega, hsh0⟩⟩
        by_cases hlt : lo < hi
        · have : S ≤ lo := by
            rcases Nat.lt_or_ge lo S with hl | hl
            · exact absurd ⟨Nat.le_refl lo, hlt⟩ ((g5 hro).1 lo (by omega) hl)
            · exact hl
          omega
        · have := (g5 hro).2.1; omega
    · refine (hr.blk _ _ _ _ _ _ hk' hρ' hm').mono (Rho.le_refl ρ) ?_
      rw [hheap, if_neg hcb]
  · unfold World.freeze; rfl
  · unfold World.freeze; rfl
  · unfold World.freeze; rfl
  · intro i hi' hn
    rw [hheap, if_neg]
    rintro rfl
    exact hn ⟨b, L, _, k, hρ, hk, hro⟩
  · simp [World.shape?, g1, g2]
end Go.Proofs.YtcphjmgfgfjnpaaGreatDoor.Ev
namespace Go.Proofs.YtcphjmgfgfjnpaaGreatDoor.Ev
open Go
def u8type (P : Program) (e : TypeId) : Bool :=
  match P.underlying e with
  | some (.int .u8) => true
  | _ => false
theorem u8type_spec {P : Program} {e : TypeId} (h : u8type P e = true) : P.underlying e = some (.int .u8) := by
  unfold u8type at h
  split at h
  · assumption
  · cases h
noncomputable def absConvert (P : Program) (src dst : TypeId) (x : V) (h : AH) : Option (V × AH) :=
  match P.underlying src, P.underlying dst, x with
  | some _, some (.int k), .int _ n => some (.int k (k.wrap n), h)
  | some _, some .string, .str s => some (.str s, h)
  | some _, some (.slice e), .str s => if u8type P e then some (absToBytes e s h) else none
  | some (.slice _), some (.slice e), .slice a n cap ex z =>
    if src = dst ∧ u8type P e = true then
      match h.get a.b with
      | some k => if k.minL ≤ a.L ∧ k.fz = 0 ∧ k.ro = false then some (.slice a n cap ex z, h) else none
      | none => none
    else none
  | some (.slice e), some .string, .slice a n cap ex z => if u8type P e then (absToStr (.slice a n cap ex z) h).map fun v => (v, h) else none
  | some (.slice e), some .string, .nilslice => if u8type P e then some (.str [], h) else none
  | some (.slice e), some .string, .loose => if u8type P e then some (.str [], h) else none
  | _, _, _ => none
theorem convert_sound {P : Program} {ρ : Rho} {h h' : AH} {w : World} {src dst : TypeId} {x v : V} {a : Value} (hr : HR ρ h w) (hx : R ρ x a) (hs : absConvert P src dst x h = some (v, h')) : Sim P ρ h w (convert src dst a) v h' := by
  unfold absConvert at hs
  split at hs
  · rename_i d1 k k' n h1 h2
    cases hs
    rw [show a = _ from hx]
    refine Sim.pure hr ⟨.int k (k.wrap n), ?_, rfl⟩
    unfold convert
    simp only [Sem.run_bind, run_underlying h1, run_underlying h2, Result.andThen_ok]
    cases d1 <;> rfl
  · rename_i d1 s h1 h2
    cases hs
    obtain ⟨t, rfl, ht⟩ := hx
    refine Sim.pure hr ⟨.string t, ?_, ⟨t, rfl, ht⟩⟩
    unfold convert
    simp only [Sem.run_bind, run_underlying h1, run_underlying h2, Result.andThen_ok]
    cases d1 <;> rfl
  · rename_i d1 e s h1 h2
    split at hs
    case isFalse => cases hs
    rename_i hu8
    obtain ⟨t, rfl, rfl⟩ := hx
    have hs2 := toBytes_sound (P := P) (e := e) (s := t) hr
    have he : (absToBytes e (t.data.toList.map UInt8.toNat) h).1 = v ∧ (absToBytes e (t.data.toList.map UInt8.toNat) h).2 = h' := by
      have := Option.some.inj hs
      rw [this]; exact ⟨rfl, rfl⟩
    rw [he.1, he.2] at hs2
    obtain ⟨u, w', ρ', g1, g2, g3, g4⟩ := hs2
    refine ⟨u, w', ρ', ?_, g2, g3, g4⟩
    rw [← g1]
    unfold convert
    simp only [Sem.run_bind, run_underlying h1, run_underlying h2, Result.andThen_ok]
    cases d1 <;> simp only [Sem.run_bind, run_underlying (u8type_spec hu8), Result.andThen_ok]
  · rename_i e0 e p n cap ex z h1 h2
    split at hs
    case isFalse => cases hs
    rename_i hc
    obtain ⟨rfl, hu8⟩ := hc
    obtain rfl : e0 = e := by rw [h1] at h2; cases h2; rfl
    split at hs
    case h_2 => cases hs
    rename_i k hk
    split at hs
    case isFalse => cases hs
    rename_i hg
    cases hs
    obtain ⟨cb, sh, S, cc, rfl, g1, g2, g3⟩ := hx
    obtain ⟨f1, f2, f3⟩ := freeze_sound hr hk g1 hg.1 hg.2.1 hg.2.2
    refine ⟨_, _, ρ, ?_, ⟨cb, sh, S, cc, rfl, g1, g2, g3⟩, f1, f2⟩
    unfold convert
    simp only [Sem.run_bind, run_underlying h1, run_underlying h2, Result.andThen_ok, beq_self_eq_true, run_underlying (u8type_spec hu8), markStringish, run_shape, f3, run_freeze, Sem.run_pure]
  · rename_i e p n cap ex z h1 h2
    split at hs
    case isFalse => cases hs
    rename_i hu8
    cases ht : absToStr (.slice p n cap ex z) h with
    | none => rw [ht] at hs; cases hs
    | some v' =>
      rw [ht] at hs
      cases hs
      obtain ⟨u, g1, g2⟩ := toStr_sound (P := P) hr hx ht
      obtain ⟨cb, sh, S, cc, rfl, _⟩ := hx
      refine Sim.pure hr ⟨u, ?_, g2⟩
      rw [← g1]
      unfold convert
      simp only [Sem.run_bind, run_underlying h1, run_underlying h2, Result.andThen_ok, run_underlying (u8type_spec hu8)]
  · rename_i e h1 h2
    split at hs
    case isFalse => cases hs
    rename_i hu8
    cases hs
    obtain ⟨u, g1, g2⟩ := toStr_sound (P := P) (x := .nilslice) (v := .str []) hr hx rfl
    rw [show a = _ from hx] at g1 ⊢
    refine Sim.pure hr ⟨u, ?_, g2⟩
    rw [← g1]
    unfold convert
    simp only [Sem.run_bind, run_underlying h1, run_underlying h2, Result.andThen_ok, run_underlying (u8type_spec hu8)]
  · rename_i e h1 h2
    split at hs
    case isFalse => cases hs
    rename_i hu8
    cases hs
    obtain ⟨u, g1, g2⟩ := toStr_sound (P := P) (x := .loose) (v := .str []) hr hx rfl
    obtain ⟨c, cc, rfl⟩ := hx
    refine Sim.pure hr ⟨u, ?_, g2⟩
    rw [← g1]
    unfold convert
    simp only [Sem.run_bind, run_underlying h1, run_underlying h2, Result.andThen_ok, run_underlying (u8type_spec hu8)]
  · cases hs
noncomputable def absSlice (P : Program) (t : TypeId) (x : V) (lo hi mx : Option V) (h : AH) : Option V :=
  match P.underlying t, x with
  | some (.array n e), .ptr a =>
    match h.get a.b with
    | some k => if k.minL ≤ a.L ∧ a.o + n * P.cellsOf e ≤ a.L ∧ (P.info? e).isSome then cutV a (P.cellsOf e) n n true lo hi mx else none
    | none => none
  | some (.slice e), .slice a n cap ex z => if z = P.cellsOf e ∧ (P.info? e).isSome then cutV a z n cap ex lo hi mx else none
  | some (.slice e), .nilslice =>
    match mx with
    | none =>
      match bnd hi 0 0 with
      | none => none
      | some h' => match bnd lo 0 h' with
        | none => none
        | some _ => if (P.info? e).isSome then some .nilslice else none
    | some mv =>
      match hi with
      | none => none
      | some hv => match bnd (some mv) 0 0 with
        | none => none
        | some m => match bnd (some hv) 0 m with
          | none => none
          | some h' => match bnd lo 0 h' with
            | none => none
            | some _ => if (P.info? e).isSome then some .nilslice else none
  | some (.slice e), .loose =>
    match mx with
    | none =>
      match bnd hi 0 0 with
      | none => none
      | some h' => match bnd lo 0 h' with
        | none => none
        | some _ => if (P.info? e).isSome then some .loose else none
    | some mv =>
      match hi with
      | none => none
      | some hv => match bnd (some mv) 0 0 with
        | none => none
        | some m => match bnd (some hv) 0 m with
          | none => none
          | some h' => match bnd lo 0 h' with
            | none => none
            | some _ => if (P.info? e).isSome then some .loose else none
  | some .string, .str s =>
    match mx with
    | none =>
      match bnd hi s.length s.length with
      | none => none
      | some h' => match bnd lo 0 h' with
        | none => none
        | some l => some (.str ((s.drop l).take (h' - l)))
    | some _ => none
  | _, _ => none
theorem slice_sound {P : Program} {ρ : Rho} {h : AH} {w : World} {t : TypeId} {x v : V} {a : Value} {lo hi mx : Option V} {l' h' m' : Option Value} (hr : HR ρ h w) (hx : R ρ x a) (hlo : OR ρ lo l') (hhi : OR ρ hi h') (hmx : OR ρ mx m') (hs : absSlice P t x lo hi mx h = some v) :
    ∃ u, (Instr.sliceAt t a l' h' m').run P w = .ok u w ∧ R ρ v u := by
  unfold absSlice at hs
  split at hs
  · rename_i n e p hu
    split at hs
    case h_2 => cases hs
    rename_i k hk
    split at hs
    case isFalse => cases hs
    rename_i hc
    obtain ⟨i, hi'⟩ := Option.isSome_iff_exists.1 hc.2.2
    obtain ⟨c, rfl, cb, sh, S, g1, g2, rfl⟩ := hx
    obtain ⟨cs, lo', hi2, q1, q2, q3, _⟩ := hr.blk _ _ _ _ _ _ hk g1 hc.1
    obtain ⟨l, hh, m, f1, f2⟩ := cut_sound (P := P) hlo hhi hmx g1 g2 (Nat.le_refl n) (fun _ => rfl) (Nat.le_refl n) (by omega) hs false w
    refine ⟨_, ?_, f2⟩
    unfold Instr.sliceAt
    simp only [Sem.run_bind, run_underlying hu, Result.andThen_ok, Instr.sureAddr, Sem.run_pure, f1, run_sizeOf hi']
  · rename_i e p n cap ex z hu
    split at hs
    case isFalse => cases hs
    rename_i hc
    obtain ⟨rfl, hi'⟩ := hc
    obtain ⟨i, hi'⟩ := Option.isSome_iff_exists.1 hi'
    obtain ⟨cb, sh, S, cc, rfl, g1, g2, g3, g4, g5, g6⟩ := hx
    obtain ⟨l, hh, m, f1, f2⟩ := cut_sound (P := P) hlo hhi hmx g1 g2 g3 g4 g5 g6 hs true w
    refine ⟨_, ?_, f2⟩
    unfold Instr.sliceAt
    simp only [Sem.run_bind, run_underlying hu, Result.andThen_ok]
    unfold Instr.slice
    simp only [Sem.run_bind, run_underlying hu, Result.andThen_ok, f1, run_sizeOf hi', Sem.run_pure]
    by_cases hml : m = l
    · simp only [if_pos hml]
    · simp only [if_neg hml, Option.map_some]
  · rename_i e hu
    split at hs
    case h_2 =>
      rename_i mv
      split at hs
      case h_1 => cases hs
      rename_i hv
      split at hs
      case h_1 => cases hs
      rename_i m h0
      split at hs
      case h_1 => cases hs
      rename_i h1v h1
      split at hs
      case h_1 => cases hs
      rename_i l h2
      split at hs
      case isFalse => cases hs
      rename_i hi'
      obtain ⟨i, hi'⟩ := Option.isSome_iff_exists.1 hi'
      cases hs
      rw [show a = _ from hx]
      cases hmx with
      | some hm =>
        cases hhi with
        | some hh =>
          obtain ⟨f1, f2, f3, f4⟩ := bounds_max (P := P) (n := 0) (cap := 0) hlo hh hm h0 h1 h2 true 0 (Nat.le_refl _) w
          obtain rfl : m = 0 := by omega
          obtain rfl : h1v = 0 := by omega
          obtain rfl : l = 0 := by omega
          refine ⟨.slice none 0 0, ?_, rfl⟩
          unfold Instr.sliceAt
          simp only [Sem.run_bind, run_underlying hu, Result.andThen_ok]
          unfold Instr.slice
          simp only [Sem.run_bind, run_underlying hu, Result.andThen_ok, f1, run_sizeOf hi', Sem.run_pure, if_true, Nat.sub_zero]
    cases hmx
    split at hs
    case h_1 => cases hs
    rename_i h1v h1
    split at hs
    case h_1 => cases hs
    rename_i l h2
    split at hs
    case isFalse => cases hs
    rename_i hi'
    obtain ⟨i, hi'⟩ := Option.isSome_iff_exists.1 hi'
    cases hs
    obtain ⟨f1, f2, f3⟩ := bounds_nomax (P := P) (n := 0) (cap := 0) hlo hhi h1 h2 true 0 (Nat.le_refl _) (Nat.le_refl _) w
    obtain rfl : h1v = 0 := by omega
    obtain rfl : l = 0 := by omega
    rw [show a = _ from hx]
    refine ⟨.slice none 0 0, ?_, rfl⟩
    unfold Instr.sliceAt
    simp only [Sem.run_bind, run_underlying hu, Result.andThen_ok]
    unfold Instr.slice
    simp only [Sem.run_bind, run_underlying hu, Result.andThen_ok, f1, run_sizeOf hi', Sem.run_pure]
    rfl
  · rename_i e hu
    split at hs
    case h_2 =>
      rename_i mv
      split at hs
      case h_1 => cases hs
      rename_i hv
      split at hs
      case h_1 => cases hs
      rename_i m h0
      split at hs
      case h_1 => cases hs
      rename_i h1v h1
      split at hs
      case h_1 => cases hs
      rename_i l h2
      split at hs
      case isFalse => cases hs
      rename_i hi'
      obtain ⟨i, hi'⟩ := Option.isSome_iff_exists.1 hi'
      cases hs
      obtain ⟨c, cc, rfl⟩ := hx
      cases hmx with
      | some hm =>
        cases hhi with
        | some hh =>
          obtain ⟨f1, f2, f3, f4⟩ := bounds_max (P := P) (n := 0) (cap := 0) hlo hh hm h0 h1 h2 true cc (Nat.zero_le _) w
          obtain rfl : m = 0 := by omega
          obtain rfl : h1v = 0 := by omega
          obtain rfl : l = 0 := by omega
          refine ⟨.slice (some c) 0 0, ?_, c, 0, rfl⟩
          unfold Instr.sliceAt
          simp only [Sem.run_bind, run_underlying hu, Result.andThen_ok]
          unfold Instr.slice
          simp only [Sem.run_bind, run_underlying hu, Result.andThen_ok, f1, run_sizeOf hi', Sem.run_pure, if_true, Nat.sub_zero]
    cases hmx
    split at hs
    case h_1 => cases hs
    rename_i h1v h1
    split at hs
    case h_1 => cases hs
    rename_i l h2
    split at hs
    case isFalse => cases hs
    rename_i hi'
    obtain ⟨i, hi'⟩ := Option.isSome_iff_exists.1 hi'
    cases hs
    obtain ⟨c, cc, rfl⟩ := hx
    obtain ⟨f1, f2, f3⟩ := bounds_nomax (P := P) (n := 0) (cap := 0) hlo hhi h1 h2 true cc (Nat.zero_le _) (Nat.le_refl _) w
    obtain rfl : h1v = 0 := by omega
    obtain rfl : l = 0 := by omega
    refine ⟨.slice (some c) 0 cc, ?_, c, cc, rfl⟩
    unfold Instr.sliceAt
    simp only [Sem.run_bind, run_underlying hu, Result.andThen_ok]
    unfold Instr.slice
    simp only [Sem.run_bind, run_underlying hu, Result.andThen_ok, f1, run_sizeOf hi', Sem.run_pure, Nat.zero_mul, Nat.sub_zero]
    have : (if cc = 0 then some c else (some c).map (·.add 0)) = some c := by
      split
      · rfl
      · simp [Addr.add]
    rw [this]
  · rename_i s hu
    split at hs
    case h_2 => cases hs
    cases hmx
    split at hs
    case h_1 => cases hs
    rename_i h1v h1
    split at hs
    case h_1 => cases hs
    rename_i l h2
    cases hs
    obtain ⟨t', rfl, rfl⟩ := hx
    have hsz : (t'.data.toList.map UInt8.toNat).length = t'.size := by rw [List.length_map, Array.length_toList]; rfl
    rw [hsz] at h1
    obtain ⟨f1, f2, f3⟩ := bounds_nomax (P := P) (n := t'.size) (cap := t'.size) hlo hhi h1 h2 false t'.size (Nat.le_refl _) (Nat.le_refl _) w
    refine ⟨.string (t'.extract l h1v), ?_, _, rfl, ?_⟩
    · unfold Instr.sliceAt
      simp only [Sem.run_bind, run_underlying hu, Result.andThen_ok]
      unfold Instr.slice
      simp only [Sem.run_bind, run_underlying hu, Result.andThen_ok, f1, Option.isSome_none, Bool.false_eq_true, if_false, Sem.run_pure]
    · simp only [ByteArray.data_extract, Array.toList_extract, List.extract_eq_take_drop, List.map_take, List.map_drop]
  · cases hs
def zeroV (P : Program) (t : TypeId) : Option V :=
  match P.info? t with
  | some i =>
    match i.zero with
    | some z => some (absC z)
    | none => none
  | none => none
def holdsV (ok : Bool) (v : V) : V := if ok then .tuple [v, .bool true] else v
def failsV (P : Program) (ok : Bool) (t : TypeId) : Option V := if ok then (zeroV P t).map fun z => .tuple [z, .bool false] else none
def absAssert (P : Program) (x : V) (t : TypeId) (ok : Bool) : Option V :=
  match P.underlying t, x with
  | some (.interface _), .nilIface => failsV P ok t
  | some (.interface want), .iface tx v =>
    match P.info? tx with
    | some i => match Instr.missingMethod want i.methods with
      | none => some (holdsV ok (.iface tx v))
      | some _ => failsV P ok t
    | none => none
  | some _, .nilIface => failsV P ok t
  | some _, .iface tx v => if tx = t then some (holdsV ok v) else failsV P ok t
  | _, _ => none
theorem zeroV_sound {P : Program} {t : TypeId} {v : V} (h : zeroV P t = some v) (ρ : Rho) (w : World) : ∃ z, (zeroValue t).run P w = .ok z w ∧ R ρ v z := by
  unfold zeroV at h
  split at h
  · rename_i i hi
    split at h
    · rename_i z hz
      cases h
      exact ⟨z, by simp [zeroValue, typeInfo, hi, hz], absC_R ρ z⟩
    · cases h
  · cases h
theorem assert_sound {P : Program} {ρ : Rho} {x v : V} {a : Value} {xt t : TypeId} {ok : Bool} (hx : R ρ x a) (hs : absAssert P x t ok = some v) (w : World) : ∃ u, (Instr.typeAssert a xt t ok).run P w = .ok u w ∧ R ρ v u := by
  have fails : ∀ (d : TypeDesc) (a : Value), P.underlying t = some d → failsV P ok t = some v → (∃ f : Option TypeId × Option TypeId × String, Instr.typeAssert a xt t ok = (do
      let d ← underlying t
      (if ok then do pure (.tuple #[← zeroValue t, .bool false]) else runtimePanic (.typeAssertion f.1 f.2.1 t f.2.2) : Sem Value)) ∨ (Instr.typeAssert a xt t ok).run P w = (if ok then do pure (.tuple #[← zeroValue t, .bool false]) else runtimePanic (.typeAssertion f.1 f.2.1 t f.2.2) : Sem Value).run P w) → ∃ u, (Instr.typeAssert a xt t ok).run P w = .ok u w ∧ R ρ v u := by
    intro d a hd hf hrun
    unfold failsV at hf
    split at hf
    · rename_i hok
      cases hz : zeroV P t with
      | none => rw [hz] at hf; cases hf
      | some z =>
        rw [hz] at hf
        cases hf
        obtain ⟨u, h1, h2⟩ := zeroV_sound hz ρ w
        refine ⟨.tuple #[u, .bool false], ?_, _, rfl, _, _, rfl, h2, _, _, rfl, rfl, rfl⟩
        obtain ⟨f, hrun⟩ := hrun
        rcases hrun with hrun | hrun
        · rw [hrun]; simp only [hok, if_true, Sem.run_bind, run_underlying hd, h1, Result.andThen_ok, Sem.run_pure]
        · rw [hrun]; simp only [hok, if_true, Sem.run_bind, h1, Result.andThen_ok, Sem.run_pure]
    · cases hf
  have holds : ∀ (v' : V) (u' : Value), R ρ v' u' → R ρ (holdsV ok v') (if ok then .tuple #[u', .bool true] else u') := by
    intro v' u' h
    unfold holdsV
    cases ok
    · exact h
    · exact ⟨_, rfl, _, _, rfl, h, _, _, rfl, rfl, rfl⟩
  unfold absAssert at hs
  split at hs
  · rename_i ms hu
    rw [show a = _ from hx]
    refine fails _ _ hu hs ⟨(none, none, ""), .inr ?_⟩
    unfold Instr.typeAssert
    simp only [Sem.run_bind, run_underlying hu, Result.andThen_ok]
  · rename_i want tx v' hu
    obtain ⟨y, rfl, hy⟩ := hx
    split at hs
    case h_2 => cases hs
    rename_i i hi
    split at hs
    · rename_i hm
      cases hs
      refine ⟨if ok then .tuple #[.iface tx y, .bool true] else .iface tx y, ?_, holds _ _ ⟨y, rfl, hy⟩⟩
      unfold Instr.typeAssert
      simp only [Sem.run_bind, run_underlying hu, Result.andThen_ok, typeInfo, run_program, hi, Sem.run_pure, hm]
    · rename_i m hm
      refine fails _ _ hu hs ⟨(none, some tx, m), .inr ?_⟩
      unfold Instr.typeAssert
      simp only [Sem.run_bind, run_underlying hu, Result.andThen_ok, typeInfo, run_program, hi, Sem.run_pure, hm]
  · rename_i d h1 hu
    rw [show a = _ from hx]
    refine fails _ _ hu hs ⟨(some xt, none, ""), .inr ?_⟩
    unfold Instr.typeAssert
    simp only [Sem.run_bind, run_underlying hu, Result.andThen_ok]
  · rename_i d tx v' h1 hu
    obtain ⟨y, rfl, hy⟩ := hx
    have hmatch : ∀ (s : Sem Value), True := fun _ => trivial
    split at hs
    · rename_i he
      cases hs
      refine ⟨if ok then .tuple #[y, .bool true] else y, ?_, holds _ _ hy⟩
      unfold Instr.typeAssert
      simp only [Sem.run_bind, run_underlying hu, Result.andThen_ok]
      cases d <;> first | (simp only [he, if_true, Sem.run_pure]; done) | exact absurd rfl (h1 _ _ _ rfl rfl)
    · rename_i he
      refine fails _ _ hu hs ⟨(some xt, some tx, ""), .inr ?_⟩
      unfold Instr.typeAssert
      simp only [Sem.run_bind, run_underlying hu, Result.andThen_ok]
      cases d <;> first | (simp only [he, if_false]; done) | exact absurd rfl (h1 _ _ _ rfl rfl)
  · cases hs
end Go.Proofs.YtcphjmgfgfjnpaaGreatDoor.Ev
namespace Go.Proofs.YtcphjmgfgfjnpaaGreatDoor.Ev
open Go
noncomputable def AH.kill (h : AH) (b : Nat) (k : Blk) : AH := ⟨h.next, Nat.min h.low b, h.m.set b ⟨k.cells, Nat.succ k.cells.n, k.fz, k.ro, k.e⟩⟩
theorem kill_sound {ρ : Rho} {h : AH} {w : World} (hr : HR ρ h w) {b L cb S : Nat} {sh : Int} {k : Blk} (hk : h.get b = some k) (hρ : ρ b L = some (cb, sh, S)) (hro : k.ro = false) (o n : Nat) :
    HR ρ (h.kill b k) (w.freeze ⟨cb, o, none⟩ n) ∧ Step ρ h w ρ (h.kill b k) (w.freeze ⟨cb, o, none⟩ n) := by
  have hsz : (w.freeze ⟨cb, o, none⟩ n).heap.size = w.heap.size := by unfold World.freeze; split <;> simp
  have hoff : ∀ x, x ≠ cb → (w.freeze ⟨cb, o, none⟩ n).heap[x]? = w.heap[x]? := by
    intro x hx
    unfold World.freeze
    split
    · rfl
    · simp only [Array.getElem?_modify]; rw [if_neg (fun e => hx e.symm)]
  have hget : ∀ b', (h.kill b k).get b' = if b' = b then some ⟨k.cells, Nat.succ k.cells.n, k.fz, k.ro, k.e⟩ else h.get b' := fun b' => T.get_set _ _ _ _
  refine ⟨⟨hr.fresh, ?_, fun b L c x hx => by rw [hsz]; exact hr.bound b L c x hx, ?_, ?_, ?_, fun b' k' hk' ho => by
    rw [hget] at hk'
    split at hk'
    · cases hk'
      have ho' : k.cells.n = 0 ∧ Nat.succ k.cells.n = 2 := ho
      omega
    · rename_i hb
      exact (hr.obj b' k' hk' ho).mono (Rho.le_refl ρ) fun cb' S' e => hoff _ fun he => hb (hr.apart hk' ho e (he ▸ hρ))⟩, ⟨Rho.le_refl ρ, fun b L c x hx _ => ⟨L, x, hx⟩, ?_, Nat.le_refl _, ?_, ?_, ?_, Nat.le_of_eq hsz.symm, ?_, Nat.min_le_left _ _, ?_, fun b' hb' hn => ⟨by rw [hget, if_neg (by rintro rfl; rw [hk] at hn; cases hn)]; exact hn, fun _ _ h => h⟩⟩⟩
  · intro b' k' hk'
    rw [hget] at hk'
    split at hk'
    · subst_vars; exact hr.lives _ _ hk
    · exact hr.lives _ _ hk'
  · intro b1 L1 b2 L2 c x x' k' q1 q2 hk' hro'
    rw [hget] at hk'
    split at hk'
    · subst_vars; exact hr.inj _ _ _ _ _ _ _ _ q1 q2 hk hro
    · exact hr.inj _ _ _ _ _ _ _ _ q1 q2 hk' hro'
  · intro b' k' L' x hk' hx
    rw [hget] at hk'
    split at hk'
    · subst_vars; cases hk'; have := hr.top _ k _ _ hk hx; exact this
    · exact hr.top _ _ _ _ hk' hx
  · intro b' k' L' cb' sh' S' hk' hρ' hm'
    rw [hget] at hk'
    split at hk'
    · subst_vars
      cases hk'
      have := hr.top _ _ _ _ hk hρ'
      exact absurd hm' (Nat.not_le.2 (Nat.lt_succ_of_le this))
    · rename_i hne
      refine (hr.blk _ _ _ _ _ _ hk' hρ' hm').mono (Rho.le_refl ρ) (hoff _ ?_)
      rintro rfl
      exact hne (hr.inj _ _ _ _ _ _ _ _ hρ hρ' hk hro).1.symm
  · intro b' k' hk' _
    rw [hget] at hk'
    split at hk'
    · subst_vars; cases hk'; exact ⟨k, hk, rfl⟩
    · exact ⟨k', hk', rfl⟩
  · unfold World.freeze; split <;> rfl
  · unfold World.freeze; split <;> rfl
  · unfold World.freeze; split <;> rfl
  · intro i hi' hn
    apply hoff
    rintro rfl
    exact hn ⟨b, L, _, k, hρ, hk, hro⟩
  · intro b' hb _
    rw [hget, if_neg]
    rintro rfl
    exact absurd hb (Nat.not_lt.2 (Nat.min_le_right _ _))
def absSliceData (x : V) : Option V :=
  match x with
  | .nilslice => some .nilptr
  | .slice a _ cap _ _ => if cap = 0 then none else some (.ptr a)
  | _ => none
theorem sliceData_sound {P : Program} {ρ : Rho} {x v : V} {a : Value} {ts : Array TypeId} {ty : TypeId} (hx : R ρ x a) (hs : absSliceData x = some v) (w : World) : ∃ u, (Builtin.unsafeSliceData_ ts ty #[a]).run P w = .ok u w ∧ R ρ v u := by
  unfold absSliceData at hs
  split at hs
  · cases hs; rw [show a = _ from hx]; exact ⟨_, Lib.run_unsafeSliceData_nil w ts ty 0 0, rfl⟩
  · split at hs
    · cases hs
    · cases hs
      obtain ⟨cb, sh, S, cc, rfl, h1, h2, h3, _⟩ := hx
      exact ⟨_, Lib.run_unsafeSliceData_row w ts ty _ _ cc (by omega), _, rfl, cb, sh, S, h1, h2, rfl⟩
  · cases hs
def isPtrTo (P : Program) (t e : TypeId) : Bool :=
  match P.underlying t with
  | some (.pointer e') => Nat.beq e' e
  | _ => false
theorem isPtrTo_spec {P : Program} {t e : TypeId} (h : isPtrTo P t e = true) : P.underlying t = some (.pointer e) := by
  unfold isPtrTo at h
  split at h
  · rename_i e' hu; rw [hu, Nat.eq_of_beq_eq_true h]
  · cases h
def byteC : V → Option Nat
  | .int .u8 (.ofNat n) => if n < 256 then some n else none
  | _ => none
def toBytesC : List V → Option (List Nat)
  | [] => some []
  | v :: l => match byteC v, toBytesC l with
    | some n, some r => some (n :: r)
    | _, _ => none
theorem byteC_spec {v : V} {n : Nat} (h : byteC v = some n) : v = .int .u8 (n : Int) ∧ n < 256 := by
  unfold byteC at h
  split at h
  · split at h
    · rename_i hn; cases h; exact ⟨rfl, hn⟩
    · cases h
  · cases h
theorem toBytesC_spec {ρ : Rho} : ∀ {vs : List V} {us : List Value} {l : List Nat}, toBytesC vs = some l → RL ρ vs us → us = l.map (fun (n : Nat) => Value.int .u8 (n : Int)) ∧ ∀ n ∈ l, n < 256 := by
  intro vs
  induction vs with
  | nil => intro us l h hR; cases h; rw [show us = [] from hR]; simp
  | cons v vs ih =>
    rintro us l h ⟨z, zs, rfl, hz, hR⟩
    unfold toBytesC at h
    cases hb : byteC v with
    | none => rw [hb] at h; cases h
    | some n =>
      cases ht : toBytesC vs with
      | none => rw [hb, ht] at h; cases h
      | some r =>
        rw [hb, ht] at h
        cases h
        obtain ⟨rfl, hn⟩ := byteC_spec hb
        obtain ⟨g1, g2⟩ := ih ht hR
        refine ⟨by rw [g1, show z = _ from hz]; rfl, ?_⟩
        intro m hm
        cases hm with
        | head => exact hn
        | tail _ hm => exact g2 m hm
noncomputable def absUnsafeString (P : Program) (pt : TypeId) (x n : V) (h : AH) : Option (V × AH) :=
  match x, n with
  | .nilptr, .int .i64 m => if m = 0 then some (.str [], h) else none
  | .ptr a, .int .i64 m =>
    if m = 0 then some (.str [], h) else
    if m < 0 then none else if 9223372036854775807 < m then none else
    match h.get a.b with
    | some k =>
      if a.o = 0 ∧ k.ro = false ∧ isPtrTo P pt k.e = true ∧ P.cellsOf k.e = 1 then
        match readN h a m.toNat with
        | some vs => (toBytesC vs).map fun l => (.str l, h.kill a.b k)
        | none => none
      else none
    | none => none
  | _, _ => none
theorem unsafeString_sound {P : Program} {ρ : Rho} {h h' : AH} {w : World} {pt it ty : TypeId} {x n v : V} {a b : Value} (hr : HR ρ h w) (hx : R ρ x a) (hn : R ρ n b) (hs : absUnsafeString P pt x n h = some (v, h')) :
    Sim P ρ h w (Builtin.unsafeString_ #[pt, it] ty #[a, b]) v h' := by
  unfold absUnsafeString at hs
  split at hs
  · split at hs
    · rename_i h0; subst h0; cases hs
      rw [show a = _ from hx, show b = _ from hn]
      exact Sim.pure hr ⟨_, Lib.run_unsafeString_none w pt it ty none, _, rfl, rfl⟩
    · cases hs
  · rename_i p m
    rw [show b = _ from hn]
    split at hs
    · rename_i h0; subst h0; cases hs
      obtain ⟨c, rfl, _⟩ := hx
      exact Sim.pure hr ⟨_, Lib.run_unsafeString_none w pt it ty _, _, rfl, rfl⟩
    · rename_i hm0
      split at hs
      · cases hs
      rename_i hm1
      split at hs
      · cases hs
      rename_i hm2
      split at hs
      case h_2 => cases hs
      rename_i k hk
      split at hs
      case isFalse => cases hs
      rename_i hc
      obtain ⟨ho, hro, hpt, hcell1⟩ := hc
      split at hs
      case h_2 => cases hs
      rename_i vs hread
      obtain ⟨l, ht, he⟩ : ∃ l, toBytesC vs = some l ∧ (V.str l, h.kill p.b k) = (v, h') := by
        cases ht : toBytesC vs with
        | none => rw [ht] at hs; cases hs
        | some l => rw [ht] at hs; exact ⟨l, rfl, Option.some.inj hs⟩
      cases he
      obtain ⟨c, rfl, cb, sh, S, h1, h2, rfl⟩ := hx
      obtain ⟨us, hlen, hRL, hcell⟩ := read_sound hr ⟨cb, sh, S, h1, h2, rfl⟩ hread
      obtain ⟨g1, g2⟩ := toBytesC_spec ht hRL
      have hrd := hread
      rw [readN_eq, hk] at hrd
      simp only [Option.bind_some] at hrd
      split at hrd
      case isFalse => cases hrd
      rename_i hc2
      obtain ⟨q1, q2, q3⟩ := hc2
      obtain ⟨cs, lo, hi, f1, f2, f3, f4, f5⟩ := hr.blk _ _ _ _ _ _ hk h1 q1
      have hsh1 := (f5 hro).2.2
      have hsh0 : sh = 0 := by omega
      have hll : l.length = m.toNat := by rw [← hlen, g1, List.length_map]
      have hlm : (l.map UInt8.ofNat).length = m.toNat := by rw [List.length_map]; exact hll
      have hmm : m = ((l.map UInt8.ofNat).length : Int) := by rw [hlm]; omega
      have hoff : ((p.o : Int) - sh).toNat = 0 := by omega
      obtain ⟨k1, k2⟩ := kill_sound hr hk h1 hro 0 (l.map UInt8.ofNat).length
      refine ⟨.string ⟨(l.map UInt8.ofNat).toArray⟩, _, ρ, ?_, ?_, k1, k2⟩
      · rw [hoff, hmm]
        refine Lib.run_unsafeString_row w pt it ty k.e (isPtrTo_spec hpt) hcell1 cb S (by simp [World.shape?, f1, f2]) _ ?_ ?_ ?_ ?_
        · intro hnil
          rw [hnil] at hlm
          simp at hlm
          omega
        · rw [hlm]; omega
        · rw [hlm]; omega
        · intro j x hj
          rw [List.getElem?_map] at hj
          cases hj' : l[j]? with
          | none => rw [hj'] at hj; cases hj
          | some n =>
            rw [hj'] at hj
            have hx : UInt8.ofNat n = x := Option.some.inj hj
            have hlt := g2 n (List.mem_of_getElem? hj')
            have := hcell j (.int .u8 (n : Int)) (by rw [g1, List.getElem?_map, hj']; rfl)
            rw [hoff] at this
            rw [this, ← hx]
            simp only [UInt8.toNat_ofNat']
            rw [Nat.mod_eq_of_lt hlt]
      · refine ⟨_, rfl, ?_⟩
        simp only [List.map_map]
        have : ∀ l : List Nat, (∀ n ∈ l, n < 256) → l.map (UInt8.toNat ∘ UInt8.ofNat) = l := by
          intro l
          induction l with
          | nil => intro _; rfl
          | cons n l ih =>
            intro h
            rw [List.map_cons, ih (fun m hm => h m (by simp [hm]))]
            congr 1
            simp only [Function.comp, UInt8.toNat_ofNat']
            exact Nat.mod_eq_of_lt (h n (by simp))
        exact this l g2
  · cases hs
noncomputable def absUnsafePtr (P : Program) (src dst : TypeId) (x : V) (h : AH) : Option V :=
  match P.underlying src, P.underlying dst, x with
  | some (.pointer _), some .unsafePointer, .nilptr => some .nilptr
  | some .unsafePointer, some (.pointer _), .nilptr => some .nilptr
  | some (.pointer t), some .unsafePointer, .ptr a =>
    match h.get a.b, P.info? t with
    | some k, some j => if k.minL ≤ a.L ∧ a.o < a.L ∧ j.size ≠ 0 then some (.ptr a) else none
    | _, _ => none
  | some .unsafePointer, some (.pointer u), .ptr a =>
    match h.get a.b, P.info? u with
    | some k, some j => if k.minL ≤ a.L ∧ a.o = 0 ∧ k.e = u ∧ P.cellsOf u ≤ a.L ∧ P.cellsOf u ≠ 0 ∧ k.ro = false then some (.ptr a) else none
    | _, _ => none
  | _, _, _ => none
theorem liesAt_head {P : Program} {e : TypeId} (count : Nat) (hs : P.cellsOf e ≠ 0) (hc : 1 ≤ count) : liesAt P P.depth e count 0 e 1 = true := by
  have hd : P.depth = (2 * (P.types.size + Made.depth) + 1) + 1 := rfl
  rw [hd]
  simp only [liesAt, Bool.or_eq_true]
  left
  rw [hd]
  simp [rowAt, hs, hc, sameLayout]
theorem unsafePtr_sound {P : Program} {ρ : Rho} {h : AH} {w : World} {src dst : TypeId} {x v : V} {a : Value} (hr : HR ρ h w) (hx : R ρ x a) (hs : absUnsafePtr P src dst x h = some v) : ∃ u, (convert src dst a).run P w = .ok u w ∧ R ρ v u := by
  unfold absUnsafePtr at hs
  split at hs
  · rename_i t h1 h2
    cases hs
    rw [show a = _ from hx]
    exact ⟨.pointer none, by simp [convert, run_underlying h1, run_underlying h2, Conv.unsafePointer], rfl⟩
  · rename_i t h1 h2
    cases hs
    rw [show a = _ from hx]
    exact ⟨.pointer none, by simp [convert, run_underlying h1, run_underlying h2, Conv.unsafePointer], rfl⟩
  · rename_i t p h1 h2
    split at hs
    case h_2 => cases hs
    rename_i k j hk hj
    split at hs
    case isFalse => cases hs
    rename_i hc
    cases hs
    obtain ⟨c, rfl, cb, sh, S, g1, g2, rfl⟩ := hx
    obtain ⟨cs, lo, hi, f1, f2, f3, f4, f5⟩ := hr.blk _ _ _ _ _ _ hk g1 hc.1
    refine ⟨_, Lib.run_to_unsafe w _ h1 h2 hj hc.2.2 (e := k.e) (cells := S) (by simp [World.shape?, f1, f2]) ?_, _, rfl, cb, sh, S, g1, g2, rfl⟩
    show ((p.o : Int) - sh).toNat < S
    omega
  · rename_i u p h1 h2
    split at hs
    case h_2 => cases hs
    rename_i k j hk hj
    split at hs
    case isFalse => cases hs
    rename_i hc
    cases hs
    obtain ⟨c1, c2, c3, c4, c5, c6⟩ := hc
    obtain ⟨c, rfl, cb, sh, S, g1, g2, rfl⟩ := hx
    obtain ⟨cs, lo, hi, f1, f2, f3, f4, f5⟩ := hr.blk _ _ _ _ _ _ hk g1 c1
    refine ⟨_, Lib.run_from_unsafe w _ h1 h2 hj (e := k.e) (cells := S) (by simp [World.shape?, f1, f2]) ?_, _, rfl, cb, sh, S, g1, g2, rfl⟩
    have hsh1 := (f5 c6).2.2
    have e0 : ((p.o : Int) - sh).toNat = 0 := by omega
    show liesAt P P.depth k.e (S / P.cellsOf k.e) (((p.o : Int) - sh).toNat) u 1 = true
    rw [e0, c3]
    refine liesAt_head _ c5 ?_
    have : P.cellsOf u ≤ S := by omega
    exact (Nat.one_le_div_iff (Nat.pos_of_ne_zero c5)).2 this
  · cases hs
end Go.Proofs.YtcphjmgfgfjnpaaGreatDoor.Ev
namespace Go.Proofs.YtcphjmgfgfjnpaaGreatDoor.Ev
open Go
def intLike (P : Program) (xt : TypeId) : Bool :=
  match P.underlying xt with
  | some (.int _) => true
  | _ => false
noncomputable def absAppendZ (P : Program) (t : TypeId) (s x : V) (h : AH) : Option (V × AH) :=
  match P.underlying t with
  | some (.slice e) =>
    match s with
    | .nilslice =>
      match x with
      | .int _ n =>
        match zeroOf P e with
        | some zs =>
          if 0 < P.cellsOf e ∧ 0 ≤ n ∧ capOk P e n.toNat = true then
            if n.toNat = 0 then some (.nilslice, h)
            else some (.slice ⟨h.next, n.toNat * P.cellsOf e, 0⟩ n.toNat n.toNat false (P.cellsOf e), h.add ⟨Arr.make (n.toNat * P.cellsOf e) zs, 0, 0, false, e⟩)
          else none
        | none => none
      | _ => none
    | _ => none
  | _ => none
theorem appendZ_sound {P : Program} {ρ : Rho} {h h' : AH} {w : World} {t xt ty : TypeId} {s x v : V} {a b : Value} (hr : HR ρ h w) (hs : R ρ s a) (hx : R ρ x b) (hi : intLike P xt = true) (hh : absAppendZ P t s x h = some (v, h')) : Sim P ρ h w (Builtin.append_ #[t, xt] ty #[a, b]) v h' := by
  unfold absAppendZ at hh
  split at hh
  case h_2 => cases hh
  rename_i e hu
  split at hh
  case h_2 => cases hh
  split at hh
  case h_2 => cases hh
  rename_i k n
  split at hh
  case h_2 => cases hh
  rename_i zs hzo
  split at hh
  case isFalse => cases hh
  rename_i hc
  obtain ⟨hpos, hn0, hcap⟩ := hc
  obtain ⟨i, z, hi', hz', hR, hlz, hcz, _, hrun⟩ := zeroOf_spec hzo ρ
  have hsize : P.cellsOf e = i.size := by simp [Program.cellsOf, hi']
  have hbytes : P.bytesOf e = i.bytes := by simp [Program.bytesOf, hi']
  have hzl : z.cells.toList.length = P.cellsOf e := hR.length.symm.trans hlz
  have hzs : z.cells.size = P.cellsOf e := by simpa using hzl
  unfold capOk at hcap
  simp only [Bool.and_eq_true, Nat.ble_eq] at hcap
  obtain ⟨hm, hb⟩ := hcap
  rw [hbytes] at hb
  have hb' : (2 * n.toNat + 128) * i.bytes ≤ 281474976710656 := hb
  rw [show a = _ from hs, show b = _ from hx]
  obtain ⟨k', hk'⟩ : ∃ k', P.underlying xt = some (.int k') := by
    unfold intLike at hi
    split at hi
    · rename_i k' hk'; exact ⟨k', hk'⟩
    · cases hi
  have hwl : IntKind.i64.wrap n = n := by simp [IntKind.wrap, IntKind.bits, IntKind.signed]; omega
  have hsz : (sizeOf e).run P w = .ok i.size w := by simp [sizeOf, typeInfo, hi']
  have hti : ∀ w0 : World, (typeInfo e).run P w0 = .ok i w0 := fun w0 => by simp [typeInfo, hi']
  have hneg : ¬ n < 0 := by omega
  have hnb : ¬ n * (i.bytes : Int) > 2 ^ 48 := by
    have h1 : n.toNat * i.bytes ≤ 281474976710656 := Nat.le_trans (Nat.mul_le_mul_right _ (by omega)) hb'
    have h2 : n * (i.bytes : Int) = ((n.toNat * i.bytes : Nat) : Int) := by rw [Int.natCast_mul, Int.toNat_of_nonneg hn0]
    rw [h2]
    have : (2 : Int) ^ 48 = 281474976710656 := rfl
    omega
  split at hh
  · rename_i h0
    cases hh
    refine Sim.pure hr ⟨.slice none 0 0, ?_, rfl⟩
    unfold Builtin.append_
    simp only [List.getElem?_toArray, List.getElem?_cons_zero, List.getElem?_cons_succ, Sem.run_bind, run_underlying hu, Result.andThen_ok, hsz, run_underlying hk', Sem.run_pure, asInt, asIntOf, hwl, hti, if_neg hneg, if_neg hnb, if_true, h0, Nat.add_zero, Nat.le_refl, Nat.zero_mul, Bool.not_true, Bool.false_eq_true, if_false]
  · rename_i h0
    cases hh
    obtain ⟨c, hch, hle⟩ := run_chooseCap P w (0 + n.toNat) 0 e
    have hmul : Builtin.nextslicecap (0 + n.toNat) 0 * i.bytes ≤ 281474976710656 := Nat.le_trans (Nat.mul_le_mul_right _ (nextcap_le (by omega))) (by rw [Nat.zero_add]; exact hb')
    have h63 : ¬ ((0 + n.toNat : Nat) : Int) > IntKind.i64.max := by simp [IntKind.max, IntKind.bits, IntKind.signed]; omega
    have hcap' : ¬ Builtin.nextslicecap (0 + n.toNat) 0 * i.bytes > 2 ^ 48 := by omega
    have hzv : ∀ w0 : World, (zeroValue e).run P w0 = .ok z w0 := fun w0 => by simp [zeroValue, typeInfo, hi', hz']
    have hn1 : ¬ 0 + n.toNat ≤ 0 := by omega
    have hnz : ¬ n.toNat * i.size = 0 := by
      intro h
      rcases Nat.mul_eq_zero.1 h with h | h <;> omega
    have hfirst : ∀ w0 : World, (Builtin.firstCells i.size 0 (.slice none 0 0)).run P w0 = .ok #[] w0 := fun w0 => rfl
    obtain ⟨ρ', g1, g2, g3⟩ := add_sound (w' := { { w with drawn := w.drawn + 1 } with heap := w.heap.push (.cells (#[] ++ Builtin.zeroCells z.cells n.toNat ++ Builtin.zeroCells z.cells (c - (0 + n.toNat))) e) }) hr ⟨Arr.make (n.toNat * P.cellsOf e) zs, 0, 0, false, e⟩ _ 0 0 rfl rfl rfl rfl
      (by rw [Array.size_append, Array.size_append, zeroCells_size, zeroCells_size, hzs]; show n.toNat * P.cellsOf e ≤ _; simp)
      (fun j v hv => by
        simp only [Arr.get_make] at hv
        split at hv
        · rename_i hj
          obtain ⟨u, hu', hRu⟩ := hR.get hv
          refine ⟨u, ?_, hRu⟩
          rw [Array.getElem?_toList, hR.length, hzl, ← hzs] at hu'
          rw [Array.getElem?_append_left (by rw [Array.size_append, zeroCells_size, hzs]; simp; exact hj), Array.empty_append]
          unfold Builtin.zeroCells
          simp only [Array.getElem?_map, Array.getElem?_range, hzs, hj, if_true, Option.map_some, Option.some.injEq]
          rw [hzs] at hu'
          rw [getElem!_def, hu']
        · cases hv) (fun i _ _ => by omega) (Nat.le_refl 0)
    refine ⟨.slice (some ⟨w.heap.size, 0, none⟩) (0 + n.toNat) c, _, ρ', ?_, ⟨w.heap.size, 0, (#[] ++ Builtin.zeroCells z.cells n.toNat ++ Builtin.zeroCells z.cells (c - (0 + n.toNat))).size, c, by rw [Nat.zero_add]; rfl, ?_, Int.le_refl _, by omega, fun h => absurd h (by simp), Nat.le_refl _, ?_⟩, g1, g2⟩
    · unfold Builtin.append_
      simp only [List.getElem?_toArray, List.getElem?_cons_zero, List.getElem?_cons_succ, Sem.run_bind, run_underlying hu, Result.andThen_ok, hsz, run_underlying hk', Sem.run_pure, asInt, asIntOf, hwl, hti, if_neg hneg, if_neg hnb, if_true, hn1, if_false, h63, false_and, hcap', hch, run_askRoom, hfirst, Bool.not_true, Bool.false_eq_true, hnz, hzv, run_newRow]
    · exact g3
    · rw [Array.size_append, Array.size_append, zeroCells_size, zeroCells_size, hzs]
      simp only [toNat_00, toNat_oo, Nat.zero_add]
      rw [Array.size_empty, Nat.zero_add, ← Nat.add_mul]
      exact Nat.mul_le_mul_right _ (by omega)
end Go.Proofs.YtcphjmgfgfjnpaaGreatDoor.Ev
namespace Go.Proofs.YtcphjmgfgfjnpaaGreatDoor.Ev
open Go
theorem obj_new {ρ : Rho} {h : AH} {w : World} (hr : HR ρ h w) (tag : Nat) (data : List V) (o : Obj) (ho : ObjOK ρ tag data (some o)) :
    ∃ ρ', HR ρ' (h.add (Blk.obj tag data)) { w with heap := w.heap.push o } ∧ Step ρ h w ρ' (h.add (Blk.obj tag data)) { w with heap := w.heap.push o } ∧ ρ' h.next 0 = some (w.heap.size, 0, 0) := by
  have hno : ∀ L y, ρ h.next L = some y → False := fun L y hy => absurd (hr.fresh _ _ _ hy) (Nat.lt_irrefl _)
  have hle : ρ.le (ρ.put h.next 0 (w.heap.size, 0, 0)) := Rho.le_put (hno _)
  have hold : ∀ i, i < w.heap.size → (w.heap.push o)[i]? = w.heap[i]? := fun i hi => by rw [Array.getElem?_push, if_neg (by omega)]
  refine ⟨ρ.put h.next 0 (w.heap.size, 0, 0), ⟨?_, ?_, ?_, ?_, ?_, ?_, ?_⟩, ?_, Rho.put_same _ _ _ _⟩
  · intro b L x hx
    rcases Rho.put_inv hx with ⟨rfl, _⟩ | hx
    · exact Nat.lt_succ_self _
    · exact Nat.lt_succ_of_lt (hr.fresh _ _ _ hx)
  · intro b k' hk'
    rw [AH.get_add] at hk'
    by_cases hb : b = h.next
    · subst hb; exact Nat.lt_succ_self _
    · rw [if_neg hb] at hk'; exact Nat.lt_succ_of_lt (hr.lives _ _ hk')
  · intro b L cb x hx
    simp only [Array.size_push]
    rcases Rho.put_inv hx with ⟨_, _, hy⟩ | hx
    · cases hy; omega
    · have := hr.bound _ _ _ _ hx; omega
  · intro b L b' L' cb x x' k' hx hx' hk' hro'
    rcases Rho.put_inv hx with ⟨e1, e2, hy⟩ | gx <;> rcases Rho.put_inv hx' with ⟨e1', e2', hy'⟩ | gx'
    · cases hy; cases hy'; exact ⟨e1.trans e1'.symm, rfl⟩
    · cases hy; have := hr.bound _ _ _ _ gx'; omega
    · cases hy'; have := hr.bound _ _ _ _ gx; omega
    · rw [AH.get_add, if_neg (by have := hr.fresh _ _ _ gx; omega)] at hk'
      exact hr.inj _ _ _ _ _ _ _ _ gx gx' hk' hro'
  · intro b k' L x hk' hx
    rw [AH.get_add] at hk'
    by_cases hb : b = h.next
    · subst hb
      rcases Rho.put_inv hx with ⟨_, rfl, _⟩ | hx
      · exact Nat.zero_le _
      · exact absurd hx (fun hh => hno _ _ hh)
    · rw [if_neg hb] at hk'
      rcases Rho.put_inv hx with ⟨rfl, _⟩ | hx
      · exact absurd rfl hb
      · exact hr.top _ _ _ _ hk' hx
  · intro b k' L cb sh S hk' hx hm
    rw [AH.get_add] at hk'
    by_cases hb : b = h.next
    · subst hb; rw [if_pos rfl] at hk'; cases hk'
      rcases Rho.put_inv hx with ⟨_, rfl, hy⟩ | hx
      · exact absurd (show 2 ≤ 0 from hm) (by decide)
      · exact absurd hx (fun hh => hno _ _ hh)
    · rw [if_neg hb] at hk'
      rcases Rho.put_inv hx with ⟨rfl, _⟩ | hx
      · exact absurd rfl hb
      · exact (hr.blk _ _ _ _ _ _ hk' hx hm).mono hle (hold _ (hr.bound _ _ _ _ hx))
  · intro b k' hk' hob
    rw [AH.get_add] at hk'
    by_cases hb : b = h.next
    · subst hb; rw [if_pos rfl] at hk'; cases hk'
      refine ⟨rfl, w.heap.size, 0, Rho.put_same _ _ _ _, ?_⟩
      simp only [Array.getElem?_push_size]
      exact ho.mono hle
    · rw [if_neg hb] at hk'
      exact (hr.obj b k' hk' hob).mono hle fun cb S e => hold _ (hr.bound _ _ _ _ e)
  · refine ⟨hle, ?_, ?_, Nat.le_succ _, rfl, rfl, rfl, by simp, fun i hi _ => hold i hi, Nat.le_refl _, ?_, fun b hb hn => ⟨by rw [AH.get_add, if_neg (by omega)]; exact hn, fun L x hx => by
      rcases Rho.put_inv hx with ⟨rfl, _⟩ | hx
      · exact absurd hb (Nat.lt_irrefl _)
      · exact hx⟩⟩
    · intro b L cb x hx hlt
      rcases Rho.put_inv hx with ⟨_, _, hy⟩ | hx
      · cases hy; omega
      · exact ⟨L, x, hx⟩
    · intro b k' hk' hb
      rw [AH.get_add, if_neg (by omega)] at hk'
      exact ⟨k', hk', rfl⟩
    · intro b _ hb
      rw [AH.get_add, if_neg (by omega)]
noncomputable def AH.put (h : AH) (b : Nat) (k : Blk) : AH := ⟨h.next, Nat.min h.low b, h.m.set b k⟩
theorem AH.get_put (h : AH) (b b' : Nat) (k : Blk) : (h.put b k).get b' = if b' = b then some k else h.get b' := T.get_set _ _ _ _
theorem obj_set {ρ : Rho} {h : AH} {w : World} (hr : HR ρ h w) {b : Nat} {k : Blk} (hk : h.get b = some k) (hob : k.IsObj) {cb S : Nat} (hb : ρ b 0 = some (cb, 0, S)) (tag : Nat) (data : List V) (o : Obj) (ho : ObjOK ρ tag data (some o)) :
    HR ρ (h.put b (Blk.obj tag data)) { w with heap := w.heap.setIfInBounds cb o } ∧ Step ρ h w ρ (h.put b (Blk.obj tag data)) { w with heap := w.heap.setIfInBounds cb o } := by
  have hro : k.ro = false := (hr.obj b k hk hob).1
  have hoff : ∀ x, x ≠ cb → (w.heap.setIfInBounds cb o)[x]? = w.heap[x]? := fun x hx => by rw [Array.getElem?_setIfInBounds_ne (Ne.symm hx)]
  have hin := hr.bound _ _ _ _ hb
  refine ⟨⟨hr.fresh, ?_, fun b L c x hx => by simp only [Array.size_setIfInBounds]; exact hr.bound b L c x hx, ?_, ?_, ?_, ?_⟩, ⟨Rho.le_refl ρ, fun b L c x hx _ => ⟨L, x, hx⟩, ?_, Nat.le_refl _, rfl, rfl, rfl, by simp, ?_, Nat.min_le_left _ _, ?_, fun b' hb' hn => ⟨by rw [AH.get_put, if_neg (by rintro rfl; rw [hk] at hn; cases hn)]; exact hn, fun _ _ h => h⟩⟩⟩
  · intro b' k' hk'
    rw [AH.get_put] at hk'
    split at hk'
    · subst_vars; exact hr.lives _ _ hk
    · exact hr.lives _ _ hk'
  · intro b1 L1 b2 L2 c x x' k' q1 q2 hk' hro'
    rw [AH.get_put] at hk'
    split at hk'
    · subst_vars; exact hr.inj _ _ _ _ _ _ _ _ q1 q2 hk hro
    · exact hr.inj _ _ _ _ _ _ _ _ q1 q2 hk' hro'
  · intro b' k' L' x hk' hx
    rw [AH.get_put] at hk'
    split at hk'
    · subst_vars
      have := hr.top _ _ _ _ hk hx
      rw [hob.1] at this
      exact Nat.le_trans this (Nat.zero_le _)
    · exact hr.top _ _ _ _ hk' hx
  · intro b' k' L' cb' sh' S' hk' hρ' hm'
    rw [AH.get_put] at hk'
    split at hk'
    · subst_vars
      cases hk'
      have h1 := hr.top _ _ _ _ hk hρ'
      rw [hob.1] at h1
      exact absurd (Nat.le_trans (show 2 ≤ L' from hm') h1) (by decide)
    · rename_i hne
      refine (hr.blk _ _ _ _ _ _ hk' hρ' hm').mono (Rho.le_refl ρ) (hoff _ ?_)
      rintro rfl
      exact hne (hr.apart hk hob hb hρ').symm
  · intro b' k' hk' ho'
    rw [AH.get_put] at hk'
    split at hk'
    · subst_vars
      cases hk'
      refine ⟨rfl, cb, S, hb, ?_⟩
      simp only [Array.getElem?_setIfInBounds_self_of_lt hin]
      exact ho
    · rename_i hne
      refine (hr.obj b' k' hk' ho').mono (Rho.le_refl ρ) fun cb' S' e => hoff _ ?_
      rintro rfl
      exact hne (hr.apart hk hob hb e).symm
  · intro b' k' hk' _
    rw [AH.get_put] at hk'
    split at hk'
    · subst_vars; cases hk'; exact ⟨k, hk, hro.symm⟩
    · exact ⟨k', hk', rfl⟩
  · intro i hi' hn
    apply hoff
    rintro rfl
    exact hn ⟨b, 0, _, k, hb, hk, hro⟩
  · intro b' hb' _
    rw [AH.get_put, if_neg]
    rintro rfl
    exact absurd hb' (Nat.not_lt.2 (Nat.min_le_right h.low b'))
end Go.Proofs.YtcphjmgfgfjnpaaGreatDoor.Ev
namespace Go.Proofs.YtcphjmgfgfjnpaaGreatDoor.Ev
open Go
def eqKey (P : Program) (kt : TypeId) (x y : V) : Option Bool :=
  match P.underlying kt, x, y with
  | some (.int _), .int k a, .int k' b => if k = k' then some (a == b) else none
  | some .string, .str a, .str b => some (natsEq a b)
  | some .bool, .bool a, .bool b => some (a == b)
  | some (.array _ _), .agg a, .agg b => absEq P 10000 kt (.agg a) (.agg b)
  | _, _, _ => none
def keyOK (P : Program) (kt : TypeId) (key : V) : Bool :=
  match P.underlying kt, key with
  | some (.int _), .int _ _ => true
  | some .string, .str _ => true
  | some .bool, .bool _ => true
  | some (.array len e), .agg cs => match P.underlying e with
    | some (.int _) => P.cellsOf e == 1 && cs.length == len
    | _ => false
  | _, _ => false
def sameV : Nat → V → V → Bool
  | 0, .bool a, .bool b => a == b
  | 0, .int j a, .int k b => j == k && a == b
  | 0, .str a, .str b => natsEq a b
  | _ + 1, .bool a, .bool b => a == b
  | _ + 1, .int j a, .int k b => j == k && a == b
  | _ + 1, .str a, .str b => natsEq a b
  | n + 1, .agg a, .agg b => a.length == b.length && (a.zip b).all fun p => sameV n p.1 p.2
  | _, _, _ => false
theorem bytes_eq (a b : ByteArray) : natsEq (a.data.toList.map UInt8.toNat) (b.data.toList.map UInt8.toNat) = (a == b) := by
  rw [natsEq_eq, Bool.eq_iff_iff]
  have e : (a == b) = (a.data == b.data) := rfl
  rw [e]
  simp only [beq_iff_eq]
  constructor
  · intro h; exact Array.ext' (map_toNat_inj h)
  · intro h; rw [h]
theorem sameV_sound {ρ : Rho} : ∀ (n : Nat) (x y : V) (a b : Value), R ρ x a → R ρ y b → sameV n x y = true → Instr.sameBits n a b = true := by
  intro n
  induction n with
  | zero =>
    intro x y a b hx hy h
    unfold sameV at h
    split at h <;> first | (rename_i he; cases he; done) | skip
    · rw [show a = _ from hx, show b = _ from hy]; simpa [Instr.sameBits] using h
    · rw [show a = _ from hx, show b = _ from hy]; simpa [Instr.sameBits] using h
    · obtain ⟨u, rfl, rfl⟩ := hx
      obtain ⟨u', rfl, rfl⟩ := hy
      rw [bytes_eq] at h
      simpa [Instr.sameBits] using h
    all_goals cases h
  | succ n ih =>
    intro x y a b hx hy h
    unfold sameV at h
    split at h <;> first | (rename_i he; cases he; done) | skip
    · rw [show a = _ from hx, show b = _ from hy]; simpa [Instr.sameBits] using h
    · rw [show a = _ from hx, show b = _ from hy]; simpa [Instr.sameBits] using h
    · obtain ⟨u, rfl, rfl⟩ := hx
      obtain ⟨u', rfl, rfl⟩ := hy
      rw [bytes_eq] at h
      simpa [Instr.sameBits] using h
    · rename_i he
      obtain rfl := Nat.succ.inj he
      obtain ⟨us, rfl, hus⟩ := hx
      obtain ⟨us', rfl, hus'⟩ := hy
      rw [Bool.and_eq_true] at h
      have hall : ∀ (xs ys : List V) (aas bs : List Value), RL ρ xs aas → RL ρ ys bs → ((xs.zip ys).all fun p => sameV n p.1 p.2) = true → ((aas.zip bs).all fun (x, y) => Instr.sameBits n x y) = true := by
        intro xs
        induction xs with
        | nil => intro ys aas bs h1 _ _; rw [show aas = [] from h1]; rfl
        | cons x xs ihl =>
          rintro ys aas bs ⟨a, aas', rfl, ha, h1⟩ h2 h3
          cases ys with
          | nil => rw [show bs = [] from h2]; rfl
          | cons y ys =>
            obtain ⟨b, bs', rfl, hb, h2⟩ := h2
            simp only [List.zip_cons_cons, List.all_cons, Bool.and_eq_true] at h3 ⊢
            exact ⟨ih _ _ _ _ ha hb h3.1, ihl _ _ _ h1 h2 h3.2⟩
      simp only [Instr.sameBits, Bool.and_eq_true]
      refine ⟨?_, hall _ _ _ _ hus hus' h.2⟩
      have h1 := hus.length
      have h2 := hus'.length
      have e1 : us.toList.length = us.size := Array.length_toList
      have e2 : us'.toList.length = us'.size := Array.length_toList
      have h3 := h.1
      simp only [beq_iff_eq] at h3 ⊢
      omega
    all_goals cases h
theorem checkKey_run {P : Program} {ρ : Rho} {kt : TypeId} {key : V} {k : Value} (hk : R ρ key k) (h : keyOK P kt key = true) (em : Bool) (w : World) : (Instr.checkKey em 10000 kt k).run P w = .ok () w := by
  unfold keyOK at h
  split at h
  · rename_i hu; rw [show k = _ from hk]; unfold Instr.checkKey; simp only [Sem.run_bind, run_underlying hu, Result.andThen_ok]; rfl
  · rename_i hu; obtain ⟨u, rfl, _⟩ := hk; unfold Instr.checkKey; simp only [Sem.run_bind, run_underlying hu, Result.andThen_ok]; rfl
  · rename_i hu; rw [show k = _ from hk]; unfold Instr.checkKey; simp only [Sem.run_bind, run_underlying hu, Result.andThen_ok]; rfl
  · rename_i len e cs hu
    obtain ⟨us, rfl, hus⟩ := hk
    split at h
    · rename_i ik hue
      simp only [Bool.and_eq_true, beq_iff_eq] at h
      obtain ⟨h1, h2⟩ := h
      unfold Instr.checkKey
      simp only [Sem.run_bind, run_underlying hu, Result.andThen_ok, Std.Legacy.Range.forIn_eq_forIn_range', Std.Legacy.Range.size, Nat.sub_zero, Nat.add_one_sub_one, Nat.div_one]
      have hlen := hus.length
      have e1 : us.toList.length = us.size := Array.length_toList
      rw [h2, e1] at hlen
      have key : ∀ (m s : Nat), s + m ≤ len → (forIn (List.range' s m) PUnit.unit fun i (_ : PUnit) => do
          let __do_lift ← sizeOf e
          let __do_lift ← part e us (i * __do_lift)
          Instr.checkKey em 9999 e __do_lift
          pure (ForInStep.yield PUnit.unit) : Sem PUnit).run P w = .ok PUnit.unit w := by
        intro m
        induction m with
        | zero => intro s _; rfl
        | succ m ih =>
          intro s hs
          rw [List.range'_succ, List.forIn_cons]
          have hc : s < us.size := by omega
          have hp : (part e us (s * 1)).run P w = .ok us[s] w := by
            have hagg : (isAgg e).run P w = .ok false w := by
              unfold isAgg
              simp only [Sem.run_bind, run_underlying hue, Result.andThen_ok]
              rfl
            unfold part
            simp [hagg, hc]
          simp only [Sem.run_bind, run_sizeOf' hue, h1, Result.andThen_ok, hp]
          have hck : (Instr.checkKey em 9999 e us[s]).run P w = .ok () w := by
            unfold Instr.checkKey
            simp only [Sem.run_bind, run_underlying hue, Result.andThen_ok]
            rfl
          simp only [hck, Result.andThen_ok, Sem.run_pure]
          exact ih (s + 1) (by omega)
      have hz := key len 0 (by omega)
      rw [hz]
      rfl
    · cases h
  · cases h
def mFind (P : Program) (kt : TypeId) (key : V) : List V → Nat → Option (Option (Nat × V × V × V))
  | k :: v :: b :: rest, i =>
    match eqKey P kt key k with
    | none => none
    | some true => some (some (i, k, v, b))
    | some false => mFind P kt key rest (i + 1)
  | [], _ => some none
  | _, _ => none
def mSet : List V → Nat → V → V → List V
  | _ :: _ :: b :: rest, 0, key, val => key :: val :: b :: rest
  | k :: v :: b :: rest, i + 1, key, val => k :: v :: b :: mSet rest i key val
  | l, _, _, _ => l
theorem mapL_cons (e : MapEntry) (es : List MapEntry) : mapL (e :: es) = e.key :: e.val :: .int .i64 e.born :: mapL es := rfl
theorem mapL_append (a b : List MapEntry) : mapL (a ++ b) = mapL a ++ mapL b := List.flatMap_append
theorem RL_entry {ρ : Rho} {data : List V} {e : MapEntry} {es : List MapEntry} (h : RL ρ data (mapL (e :: es))) : ∃ k v b rest, data = k :: v :: b :: rest ∧ R ρ k e.key ∧ R ρ v e.val ∧ R ρ b (.int .i64 e.born) ∧ RL ρ rest (mapL es) := by
  have hl := h.length
  rw [mapL_cons] at h hl
  match data, h with
  | [], h => simp at hl
  | k :: [], h => simp at hl
  | k :: v :: [], h => simp at hl
  | k :: v :: b :: rest, h =>
    obtain ⟨h1, h⟩ := RL_cons.1 h
    obtain ⟨h2, h⟩ := RL_cons.1 h
    obtain ⟨h3, h⟩ := RL_cons.1 h
    exact ⟨k, v, b, rest, rfl, h1, h2, h3, h⟩
theorem RL_noEntry {ρ : Rho} {data : List V} (h : RL ρ data (mapL [])) : data = [] := List.eq_nil_of_length_eq_zero h.length
def Found (ρ : Rho) (es : List MapEntry) (i0 : Nat) : Option (Nat × V × V × V) → Option (Nat × Value) → Prop
  | none, none => True
  | some (j, k, v, b), some (j', u) => j = j' ∧ i0 ≤ j ∧ ∃ e, es[j - i0]? = some e ∧ u = e.val ∧ R ρ k e.key ∧ R ρ v e.val ∧ R ρ b (.int .i64 e.born)
  | _, _ => False
theorem Found.tail {ρ : Rho} {e : MapEntry} {es : List MapEntry} {i : Nat} {x : Option (Nat × V × V × V)} {y : Option (Nat × Value)} (h : Found ρ es (i + 1) x y) : Found ρ (e :: es) i x y := by
  match x, y, h with
  | none, none, _ => trivial
  | some (j, k, v, b), some (j', u), h =>
    obtain ⟨h1, h2, e', h3, h4⟩ := h
    refine ⟨h1, by omega, e', ?_, h4⟩
    rw [show j - i = (j - (i + 1)) + 1 from by omega, List.getElem?_cons_succ]
    exact h3
theorem eqKey_now {P : Program} {ρ : Rho} {kt : TypeId} {x y : V} {a b : Value} {r : Bool} (hx : R ρ x a) (hy : R ρ y b) (h : eqKey P kt x y = some r) (hna : ∀ n e, P.underlying kt ≠ some (.array n e)) : ∃ d, P.underlying kt = some d ∧ Instr.sameNow d a b = some r := by
  unfold eqKey at h
  split at h
  · rename_i hu
    split at h
    · rename_i hk; cases h
      rw [show a = _ from hx, show b = _ from hy]
      exact ⟨_, hu, by simp [Instr.sameNow, hk]⟩
    · cases h
  · rename_i hu
    cases h
    obtain ⟨u, rfl, rfl⟩ := hx
    obtain ⟨u', rfl, rfl⟩ := hy
    exact ⟨_, hu, by rw [bytes_eq]; rfl⟩
  · rename_i hu
    cases h
    rw [show a = _ from hx, show b = _ from hy]
    exact ⟨_, hu, rfl⟩
  · rename_i hu; exact absurd hu (hna _ _)
  · cases h
theorem eqKey_array {P : Program} {ρ : Rho} {kt : TypeId} {x y : V} {a b : Value} {r : Bool} (hx : R ρ x a) (hy : R ρ y b) (h : eqKey P kt x y = some r) {n e : Nat} (hu : P.underlying kt = some (.array n e)) (w : World) : (Op.equal kt a b).run P w = .ok r w := by
  unfold eqKey at h
  rw [hu] at h
  split at h
  · rename_i h1; cases h1
  · rename_i h1; cases h1
  · rename_i h1; cases h1
  · exact absEq_sound w 10000 kt _ _ a b r hx hy h
  · cases h
theorem mFind_now {P : Program} {ρ : Rho} {kt : TypeId} {key : V} {a : Value} (hx : R ρ key a) (hna : ∀ n e, P.underlying kt ≠ some (.array n e)) {d : TypeDesc} (hd : P.underlying kt = some d) : ∀ (es : List MapEntry) (data : List V) (i : Nat) (res : Option (Nat × V × V × V)), RL ρ data (mapL es) → mFind P kt key data i = some res →
    ∃ r, Instr.findNow d a es i = some r ∧ Found ρ es i res r := by
  intro es
  induction es with
  | nil =>
    intro data i res h hf
    rw [RL_noEntry h] at hf
    cases hf
    exact ⟨none, rfl, trivial⟩
  | cons e es ih =>
    intro data i res h hf
    obtain ⟨k, v, b, rest, rfl, h1, h2, h3, h4⟩ := RL_entry h
    unfold mFind at hf
    split at hf
    · cases hf
    · rename_i hq
      cases hf
      obtain ⟨d', hd', hs⟩ := eqKey_now hx h1 hq hna
      rw [hd] at hd'; cases hd'
      exact ⟨some (i, e.val), by simp [Instr.findNow, hs], rfl, Nat.le_refl _, e, by simp, rfl, h1, h2, h3⟩
    · rename_i hq
      obtain ⟨d', hd', hs⟩ := eqKey_now hx h1 hq hna
      rw [hd] at hd'; cases hd'
      obtain ⟨r, g1, g2⟩ := ih rest (i + 1) res h4 hf
      exact ⟨r, by simp [Instr.findNow, hs, g1], g2.tail⟩
theorem mFind_asking {P : Program} {ρ : Rho} {kt : TypeId} {key : V} {a : Value} (hx : R ρ key a) {n e0 : Nat} (hu : P.underlying kt = some (.array n e0)) (w : World) : ∀ (es : List MapEntry) (data : List V) (i : Nat) (res : Option (Nat × V × V × V)), RL ρ data (mapL es) → mFind P kt key data i = some res →
    ∃ r, (Instr.findAsking kt a es i).run P w = .ok r w ∧ Found ρ es i res r := by
  intro es
  induction es with
  | nil =>
    intro data i res h hf
    rw [RL_noEntry h] at hf
    cases hf
    exact ⟨none, rfl, trivial⟩
  | cons e es ih =>
    intro data i res h hf
    obtain ⟨k, v, b, rest, rfl, h1, h2, h3, h4⟩ := RL_entry h
    unfold mFind at hf
    split at hf
    · cases hf
    · rename_i hq
      cases hf
      refine ⟨some (i, e.val), ?_, rfl, Nat.le_refl _, e, by simp, rfl, h1, h2, h3⟩
      unfold Instr.findAsking
      simp only [Sem.run_bind, eqKey_array hx h1 hq hu w, Result.andThen_ok, if_true, Sem.run_pure]
    · rename_i hq
      obtain ⟨r, g1, g2⟩ := ih rest (i + 1) res h4 hf
      refine ⟨r, ?_, g2.tail⟩
      unfold Instr.findAsking
      simp only [Sem.run_bind, eqKey_array hx h1 hq hu w, Result.andThen_ok, Bool.false_eq_true, if_false]
      exact g1
theorem mFind_sound {P : Program} {ρ : Rho} {kt : TypeId} {key : V} {a : Value} (hx : R ρ key a) (hok : keyOK P kt key = true) {es : List MapEntry} {data : List V} {res : Option (Nat × V × V × V)} (h : RL ρ data (mapL es)) (hf : mFind P kt key data 0 = some res) (w : World) :
    ∃ r, (Instr.findKey kt a es).run P w = .ok r w ∧ Found ρ es 0 res r := by
  by_cases ha : ∃ n e, P.underlying kt = some (.array n e)
  · obtain ⟨n, e, hu⟩ := ha
    unfold Instr.findKey
    simp only [Sem.run_bind, run_underlying hu, Result.andThen_ok]
    cases es with
    | nil =>
      rw [RL_noEntry h] at hf
      cases hf
      exact ⟨none, rfl, trivial⟩
    | cons e' es =>
      obtain ⟨r, g1, g2⟩ := mFind_asking hx hu w _ _ _ _ h hf
      refine ⟨r, ?_, g2⟩
      have : Instr.findNow (.array n e) a (e' :: es) 0 = none := by simp [Instr.findNow, Instr.sameNow]
      rw [this]
      exact g1
  · have hna : ∀ n e, P.underlying kt ≠ some (.array n e) := fun n e hu => ha ⟨n, e, hu⟩
    obtain ⟨d, hd⟩ : ∃ d, P.underlying kt = some d := by
      unfold keyOK at hok
      cases hd : P.underlying kt with
      | none => rw [hd] at hok; cases hok
      | some d => exact ⟨d, rfl⟩
    obtain ⟨r, g1, g2⟩ := mFind_now hx hna hd _ _ _ _ h hf
    refine ⟨r, ?_, g2⟩
    unfold Instr.findKey
    simp only [Sem.run_bind, run_underlying hd, Result.andThen_ok, g1, Sem.run_pure]
theorem mSet_sound {ρ : Rho} {key val : V} {a c : Value} (hk : R ρ key a) (hv : R ρ val c) : ∀ (es : List MapEntry) (data : List V) (i : Nat), RL ρ data (mapL es) → RL ρ (mSet data i key val) (mapL (es.modify i fun e => { e with key := a, val := c })) := by
  intro es
  induction es with
  | nil => intro data i h; rw [RL_noEntry h]; simp [mSet, List.modify_nil]; exact rfl
  | cons e es ih =>
    intro data i h
    obtain ⟨k, v, b, rest, rfl, h1, h2, h3, h4⟩ := RL_entry h
    cases i with
    | zero =>
      rw [List.modify_zero_cons, mapL_cons]
      exact RL_cons.2 ⟨hk, RL_cons.2 ⟨hv, RL_cons.2 ⟨h3, h4⟩⟩⟩
    | succ i =>
      rw [List.modify_succ_cons, mapL_cons]
      exact RL_cons.2 ⟨h1, RL_cons.2 ⟨h2, RL_cons.2 ⟨h3, ih rest i h4⟩⟩⟩
theorem map_some' {α β : Type} {o : Option α} {f : α → β} {b : β} (h : o.map f = some b) : ∃ a, o = some a ∧ f a = b := by
  cases o with
  | none => cases h
  | some a => exact ⟨a, rfl, Option.some.inj h⟩
noncomputable def mapOf (h : AH) (b : Nat) : Option (V × List V) :=
  match h.get b with
  | some k => if k.cells.n = 0 ∧ k.minL = 2 ∧ k.e = 0 then (match k.cells.z with
    | c :: data => some (c, data)
    | [] => none) else none
  | none => none
theorem mapOf_spec {ρ : Rho} {h : AH} {w : World} (hr : HR ρ h w) {b : Nat} {c : V} {data : List V} (hm : mapOf h b = some (c, data)) :
    ∃ k cb S es clock, h.get b = some k ∧ k.IsObj ∧ ρ b 0 = some (cb, 0, S) ∧ w.heap[cb]? = some (.map es clock) ∧ R ρ c (.int .i64 clock) ∧ RL ρ data (mapL es.toList) := by
  unfold mapOf at hm
  split at hm
  · rename_i k hk
    split at hm
    · rename_i hc
      obtain ⟨h1, h2, h3⟩ := hc
      obtain ⟨_, cb, S, g1, g2⟩ := hr.obj b k hk ⟨h1, h2⟩
      rw [h3] at g2
      obtain ⟨es, clock, g3, g4⟩ := g2
      split at hm
      · rename_i c' data' hz
        cases hm
        rw [hz] at g4
        obtain ⟨q1, q2⟩ := RL_cons.1 g4
        exact ⟨k, cb, S, es, clock, hk, ⟨h1, h2⟩, g1, g3, q1, q2⟩
      · cases hm
    · cases hm
  · cases hm
theorem run_getMap {P : Program} {w : World} {r : Nat} {es : Array MapEntry} {clock : Nat} (h : w.heap[r]? = some (.map es clock)) : (getObj r).run P w = .ok (.map es clock) w := by simp [getObj, Sem.run, h]
theorem run_setMap {P : Program} {w : World} {r : Nat} {es : Array MapEntry} {clock : Nat} (o : Obj) (h : w.heap[r]? = some (.map es clock)) : (setObj r o).run P w = .ok () { w with heap := w.heap.setIfInBounds r o } := by simp [setObj, Sem.run, h]
noncomputable def mapU (h : AH) (b : Nat) : Option (List V) :=
  match h.get b with
  | some k => if k.cells.n = 0 ∧ k.minL = 2 ∧ k.e = 4 then some k.cells.z else none
  | none => none
theorem mapU_spec {ρ : Rho} {h : AH} {w : World} (hr : HR ρ h w) {b : Nat} {data : List V} (hm : mapU h b = some data) :
    ∃ k cb S es clock ps, h.get b = some k ∧ k.IsObj ∧ ρ b 0 = some (cb, 0, S) ∧ w.heap[cb]? = some (.map es clock) ∧ ps.Perm es.toList ∧ MapKept.Stamped es clock ∧ RL ρ data (kvL ps) := by
  unfold mapU at hm
  split at hm
  · rename_i k hk
    split at hm
    · rename_i hc
      obtain ⟨h1, h2, h3⟩ := hc
      obtain ⟨_, cb, S, g1, g2⟩ := hr.obj b k hk ⟨h1, h2⟩
      rw [h3] at g2
      obtain ⟨es, clock, ps, g3, g4, g5, g6⟩ := g2
      cases hm
      exact ⟨k, cb, S, es, clock, ps, hk, ⟨h1, h2⟩, g1, g3, g4, g5, g6⟩
    · cases hm
  · cases hm
theorem kvL_cons (e : MapEntry) (es : List MapEntry) : kvL (e :: es) = e.key :: e.val :: kvL es := rfl
theorem RL_kv {ρ : Rho} {data : List V} {e : MapEntry} {es : List MapEntry} (h : RL ρ data (kvL (e :: es))) : ∃ k v rest, data = k :: v :: rest ∧ R ρ k e.key ∧ R ρ v e.val ∧ RL ρ rest (kvL es) := by
  have hl := h.length
  rw [kvL_cons] at h hl
  match data, h with
  | [], h => simp at hl
  | k :: [], h => simp at hl
  | k :: v :: rest, h =>
    obtain ⟨h1, h⟩ := RL_cons.1 h
    obtain ⟨h2, h⟩ := RL_cons.1 h
    exact ⟨k, v, rest, rfl, h1, h2, h⟩
theorem RL_nokv {ρ : Rho} {data : List V} (h : RL ρ data (kvL [])) : data = [] := List.eq_nil_of_length_eq_zero h.length
def mFindU (key : List Nat) : List V → Option (Option V)
  | [] => some none
  | .str s :: v :: rest => match mFindU key rest with
    | none => none
    | some r => some (bif natsEq key s then some v else r)
  | _ => none
def FoundU (ρ : Rho) (t : ByteArray) (ps : List MapEntry) : Option V → Prop
  | none => ∀ e ∈ ps, e.key ≠ .string t
  | some v => ∃ e ∈ ps, e.key = .string t ∧ R ρ v e.val
theorem mFindU_spec {ρ : Rho} {t : ByteArray} : ∀ (ps : List MapEntry) (data : List V) (r : Option V), RL ρ data (kvL ps) → mFindU (t.data.toList.map UInt8.toNat) data = some r → (∀ e ∈ ps, ∃ u, e.key = .string u) ∧ FoundU ρ t ps r := by
  intro ps
  induction ps with
  | nil =>
    intro data r h hf
    rw [RL_nokv h] at hf
    cases hf
    have h0 : ∀ e : MapEntry, e ∈ ([] : List MapEntry) → False := fun e he => by cases he
    exact ⟨fun e he => (h0 e he).elim, fun e he => (h0 e he).elim⟩
  | cons e ps ih =>
    intro data r h hf
    obtain ⟨k, v, rest, rfl, h1, h2, h3⟩ := RL_kv h
    unfold mFindU at hf
    split at hf
    · rename_i hx; cases hx
    · rename_i s v' rest' hx
      cases hx
      split at hf
      · cases hf
      · rename_i r' hr'
        cases hf
        obtain ⟨q1, q2⟩ := ih _ _ h3 hr'
        obtain ⟨u, hu, hs⟩ := h1
        subst hs
        refine ⟨fun e' he' => ?_, ?_⟩
        · rcases List.mem_cons.1 he' with rfl | he'
          · exact ⟨u, hu⟩
          · exact q1 e' he'
        · rw [bytes_eq]
          cases htu : (t == u) with
          | true =>
            have : t = u := by
              have h5 : (t.data == u.data) = true := htu
              have h6 := eq_of_beq h5
              cases t; cases u
              simp only at h6
              rw [h6]
            subst this
            exact ⟨e, by simp, hu, h2⟩
          | false =>
            have hne : e.key ≠ .string t := by
              rw [hu]
              intro h5
              injection h5 with h6
              subst h6
              have h7 : (u.data == u.data) = false := htu
              simp at h7
            cases r' with
            | none =>
              intro e' he'
              rcases List.mem_cons.1 he' with rfl | he'
              · exact hne
              · exact q2 e' he'
            | some v'' =>
              obtain ⟨e', g1, g2⟩ := q2
              exact ⟨e', by simp [g1], g2⟩
    · cases hf
theorem findNow_str {t : ByteArray} : ∀ (es : List MapEntry) (i : Nat), (∀ e ∈ es, ∃ u, e.key = .string u) → ∃ r, Instr.findNow .string (.string t) es i = some r ∧ (match r with | none => ∀ e ∈ es, e.key ≠ .string t | some (_, x) => ∃ e ∈ es, e.key = .string t ∧ x = e.val) := by
  intro es
  induction es with
  | nil => intro i _; exact ⟨none, rfl, fun e he => by cases he⟩
  | cons e es ih =>
    intro i h
    obtain ⟨u, hu⟩ := h e (by simp)
    obtain ⟨r, g1, g2⟩ := ih (i + 1) fun e' he' => h e' (by simp [he'])
    cases htu : (t == u) with
    | true =>
      refine ⟨some (i, e.val), by simp [Instr.findNow, Instr.sameNow, hu, htu], e, by simp, ?_, rfl⟩
      have h5 : (t.data == u.data) = true := htu
      have h6 := eq_of_beq h5
      rw [hu]
      cases t; cases u
      simp only at h6
      rw [h6]
    | false =>
      refine ⟨r, by simp [Instr.findNow, Instr.sameNow, hu, htu, g1], ?_⟩
      have hne : e.key ≠ .string t := by
        rw [hu]
        intro h5
        injection h5 with h6
        subst h6
        have h7 : (u.data == u.data) = false := htu
        simp at h7
      cases r with
      | none =>
        intro e' he'
        rcases List.mem_cons.1 he' with rfl | he'
        · exact hne
        · exact g2 e' he'
      | some p =>
        obtain ⟨e', q1, q2⟩ := g2
        exact ⟨e', by simp [q1], q2⟩
theorem key_once : ∀ {es : List MapEntry}, (es.map (·.key)).Nodup → ∀ {a b : MapEntry}, a ∈ es → b ∈ es → a.key = b.key → a = b := by
  intro es
  induction es with
  | nil => intro _ a b ha; cases ha
  | cons e es ih =>
    intro h a b ha hb hk
    rw [List.map_cons, List.nodup_cons] at h
    rcases List.mem_cons.1 ha with h1 | h1 <;> rcases List.mem_cons.1 hb with h2 | h2
    · rw [h1, h2]
    · exact absurd (by rw [← h1, hk]; exact List.mem_map_of_mem h2) h.1
    · exact absurd (by rw [← h2, ← hk]; exact List.mem_map_of_mem h1) h.1
    · exact ih h.2 h1 h2 hk
def HitU (ρ : Rho) : Option V → Option (Nat × Value) → Prop
  | none, none => True
  | some v, some (_, x) => R ρ v x
  | _, _ => False
theorem mFindU_sound {P : Program} {ρ : Rho} {kt : TypeId} {t : ByteArray} (hu : P.underlying kt = some .string) {es : Array MapEntry} {clock : Nat} {ps : List MapEntry} (hp : ps.Perm es.toList) (hst : MapKept.Stamped es clock) {data : List V} {r : Option V} (h : RL ρ data (kvL ps)) (hf : mFindU (t.data.toList.map UInt8.toNat) data = some r) (w : World) :
    ∃ r', (Instr.findKey kt (.string t) es.toList).run P w = .ok r' w ∧ HitU ρ r r' := by
  obtain ⟨q1, q2⟩ := mFindU_spec ps data r h hf
  obtain ⟨r', g1, g2⟩ := findNow_str (t := t) es.toList 0 fun e he => q1 e (hp.mem_iff.2 he)
  refine ⟨r', ?_, ?_⟩
  · unfold Instr.findKey
    simp only [Sem.run_bind, run_underlying hu, Result.andThen_ok, g1, Sem.run_pure]
  · cases r with
    | none =>
      cases r' with
      | none => trivial
      | some p => obtain ⟨e, h1, h2, _⟩ := g2; exact absurd h2 (q2 e (hp.mem_iff.2 h1))
    | some v =>
      obtain ⟨e, h1, h2, h3⟩ := q2
      cases r' with
      | none => exact absurd h2 (g2 e (hp.mem_iff.1 h1))
      | some p =>
        obtain ⟨e', k1, k2, k3⟩ := g2
        have : e' = e := key_once hst.2.2 k1 (hp.mem_iff.1 h1) (by rw [k2, h2])
        subst this
        show R ρ v p.2
        rw [k3]
        exact h3
def okV (ok : Bool) (v : V) (b : Bool) : V := if ok then .tuple [v, .bool b] else v
theorem okV_R {ρ : Rho} {ok b : Bool} {v : V} {u : Value} (h : R ρ v u) : R ρ (okV ok v b) (if ok then .tuple #[u, .bool b] else u) := by
  cases ok
  · exact h
  · exact ⟨_, rfl, u, _, rfl, h, .bool b, [], rfl, rfl, rfl⟩
noncomputable def absMakeMap (P : Program) (h : AH) : Option (V × AH) := some (.mapv h.next, h.add (Blk.obj 0 [.int .i64 0]))
noncomputable def absLookup (P : Program) (t : TypeId) (m k : V) (ok : Bool) (h : AH) : Option V :=
  match P.underlying t with
  | some (.map kt et) =>
    if keyOK P kt k then
      match m with
      | .nilmap => (zeroV P et).map fun z => okV ok z false
      | .mapv b => match mapOf h b with
        | none => match mapU h b, P.underlying kt, k with
          | some data, some .string, .str s => match mFindU s data with
            | none => none
            | some none => (zeroV P et).map fun z => okV ok z false
            | some (some v) => some (okV ok v true)
          | _, _, _ => none
        | some (_, data) => match mFind P kt k data 0 with
          | none => none
          | some none => (zeroV P et).map fun z => okV ok z false
          | some (some (_, _, v, _)) => some (okV ok v true)
      | _ => none
    else none
  | _ => none
noncomputable def absMapUpdate (P : Program) (t : TypeId) (m k x : V) (h : AH) : Option AH :=
  match P.underlying t, m with
  | some (.map kt _), .mapv b =>
    if keyOK P kt k then
      match mapOf h b with
      | none => none
      | some (c, data) => match mFind P kt k data 0 with
        | none => none
        | some (some (i, old, _, _)) => if sameV 10000 old k then some (h.put b (Blk.obj 0 (c :: mSet data i k x))) else none
        | some none => match c with
          | .int .i64 n => some (h.put b (Blk.obj 0 (.int .i64 (n + 1) :: (data ++ [k, x, .int .i64 n]))))
          | _ => none
    else none
  | _, _ => none
noncomputable def absMapEntry (P : Program) (t : TypeId) (m k : V) (h : AH) : Option (V × AH) :=
  match P.underlying t, m with
  | some (.map kt et), .mapv b =>
    if keyOK P kt k then
      match mapOf h b with
      | none => none
      | some (c, data) => match mFind P kt k data 0 with
        | none => none
        | some (some (i, old, v, s)) => if sameV 10000 old k then some (.tuple [v, s], h.put b (Blk.obj 0 (c :: mSet data i k v))) else none
        | some none => match c, zeroV P et with
          | .int .i64 n, some z => some (.tuple [z, .int .i64 n], h.put b (Blk.obj 0 (.int .i64 (n + 1) :: (data ++ [k, z, .int .i64 n]))))
          | _, _ => none
    else none
  | _, _ => none
def mStore : List V → Int → V → Option (List V)
  | k :: v :: .int .i64 n :: rest, s, x => if n = s then some (k :: x :: .int .i64 n :: rest) else (mStore rest s x).map fun l => k :: v :: .int .i64 n :: l
  | _, _, _ => none
noncomputable def absEntryStore (m s x : V) (h : AH) : Option AH :=
  match m, s with
  | .mapv b, .int .i64 n => match mapOf h b with
    | none => none
    | some (c, data) => (mStore data n x).map fun l => h.put b (Blk.obj 0 (c :: l))
  | _, _ => none
def mLen : List V → Nat
  | _ :: _ :: _ :: l => mLen l + 1
  | _ => 0
noncomputable def absMapLen (P : Program) (t : TypeId) (x : V) (h : AH) : Option V :=
  match P.underlying t, x with
  | some (.map _ _), .nilmap => some (.int .i64 0)
  | some (.map _ _), .mapv b => (mapOf h b).map fun p => .int .i64 (mLen p.2)
  | _, _ => none
theorem run_asInt' (P : Program) (w : World) (k : IntKind) (n : Int) : (asInt (.int k n)).run P w = .ok n w := rfl
theorem makeMap_sound {P : Program} {ρ : Rho} {h h' : AH} {w : World} {t : TypeId} {v : V} (hr : HR ρ h w) (hs : absMakeMap P h = some (v, h')) : Sim P ρ h w (Instr.makeMap t none) v h' := by
  cases hs
  obtain ⟨ρ', g1, g2, g3⟩ := obj_new hr 0 [.int .i64 0] (.map #[] 0) ⟨#[], 0, rfl, RL_cons.2 ⟨rfl, rfl⟩⟩
  exact ⟨.map (some w.heap.size), _, ρ', rfl, ⟨_, _, rfl, g3⟩, g1, g2⟩
theorem makeMap_sound' {P : Program} {ρ : Rho} {h h' : AH} {w : World} {t : TypeId} {v : V} {k : IntKind} {n : Int} {kt et : TypeId} (hu : P.underlying t = some (.map kt et)) (hr : HR ρ h w) (hs : absMakeMap P h = some (v, h')) : Sim P ρ h w (Instr.makeMap t (some (.int k n))) v h' := by
  obtain ⟨u, w', ρ', g1, g2⟩ := makeMap_sound (t := t) hr hs
  refine ⟨u, w', ρ', ?_, g2⟩
  rw [← g1]
  unfold Instr.makeMap
  simp only [Sem.run_bind, run_underlying hu, Result.andThen_ok, run_asInt', Sem.run_pure]
theorem lookup_sound {P : Program} {ρ : Rho} {h : AH} {w : World} {t : TypeId} {m k v : V} {ok : Bool} {am ak : Value} (hr : HR ρ h w) (hm : R ρ m am) (hk : R ρ k ak) (hs : absLookup P t m k ok h = some v) : ∃ u, (Instr.lookup t am ak ok).run P w = .ok u w ∧ R ρ v u := by
  unfold absLookup at hs
  split at hs
  · rename_i kt et hu
    split at hs
    · rename_i hok
      split at hs
      · obtain ⟨z, h1, h2⟩ := map_some' hs
        subst h2
        obtain ⟨z', h3, h4⟩ := zeroV_sound h1 ρ w
        refine ⟨_, ?_, okV_R (b := false) h4⟩
        rw [show am = _ from hm]
        unfold Instr.lookup
        simp only [Sem.run_bind, run_underlying hu, Result.andThen_ok, Sem.run_pure, checkKey_run hk hok]
        have : (Instr.findKey kt ak (#[] : Array MapEntry).toList).run P w = .ok none w := by
          obtain ⟨r, g1, g2⟩ := mFind_sound (P := P) (kt := kt) (es := []) (data := []) (res := none) hk hok rfl rfl w
          cases r with
          | none => exact g1
          | some _ => exact g2.elim
        simp only [this, Result.andThen_ok, Sem.run_bind, h3, Sem.run_pure]
      · rename_i b
        obtain ⟨cb', S', rfl, hρ⟩ := hm
        split at hs
        · split at hs
          · rename_i data s hmu hus
            obtain ⟨kb, cb, S, es, clock, ps, g1, g2, g3, g4, g5, g6, g7⟩ := mapU_spec hr hmu
            rw [hρ] at g3
            cases g3
            obtain ⟨tk, rfl, rfl⟩ := hk
            have hck : ∀ em w, (Instr.checkKey em 10000 kt (.string tk)).run P w = .ok () w := fun em w => checkKey_run (ρ := ρ) (key := .str (tk.data.toList.map UInt8.toNat)) ⟨tk, rfl, rfl⟩ hok em w
            split at hs
            · cases hs
            · rename_i hf
              obtain ⟨z, h1, h2⟩ := map_some' hs
              subst h2
              obtain ⟨z', h3, h4⟩ := zeroV_sound h1 ρ w
              refine ⟨_, ?_, okV_R (b := false) h4⟩
              obtain ⟨r, q1, q2⟩ := mFindU_sound hus g5 g6 g7 hf w
              cases r with
              | some _ => exact q2.elim
              | none =>
                unfold Instr.lookup
                simp only [Sem.run_bind, run_underlying hu, Result.andThen_ok, run_getMap g4, Sem.run_pure, hck, q1, h3]
            · rename_i v' hf
              cases hs
              obtain ⟨r, q1, q2⟩ := mFindU_sound hus g5 g6 g7 hf w
              cases r with
              | none => exact q2.elim
              | some p =>
                obtain ⟨j, u⟩ := p
                refine ⟨_, ?_, okV_R (b := true) q2⟩
                unfold Instr.lookup
                simp only [Sem.run_bind, run_underlying hu, Result.andThen_ok, run_getMap g4, Sem.run_pure, hck, q1]
          · cases hs
        · rename_i c data hmo
          obtain ⟨kb, cb, S, es, clock, g1, g2, g3, g4, g5, g6⟩ := mapOf_spec hr hmo
          rw [hρ] at g3
          cases g3
          split at hs
          · cases hs
          · rename_i hf
            obtain ⟨z, h1, h2⟩ := map_some' hs
            subst h2
            obtain ⟨z', h3, h4⟩ := zeroV_sound h1 ρ w
            refine ⟨_, ?_, okV_R (b := false) h4⟩
            obtain ⟨r, q1, q2⟩ := mFind_sound hk hok g6 hf w
            cases r with
            | some _ => exact q2.elim
            | none =>
              unfold Instr.lookup
              simp only [Sem.run_bind, run_underlying hu, Result.andThen_ok, run_getMap g4, Sem.run_pure, checkKey_run hk hok, q1, h3]
          · rename_i i old v' s hf
            cases hs
            obtain ⟨r, q1, q2⟩ := mFind_sound hk hok g6 hf w
            cases r with
            | none => exact q2.elim
            | some p =>
              obtain ⟨j, u⟩ := p
              obtain ⟨_, _, e, _, rfl, _, q3, _⟩ := q2
              refine ⟨_, ?_, okV_R (b := true) q3⟩
              unfold Instr.lookup
              simp only [Sem.run_bind, run_underlying hu, Result.andThen_ok, run_getMap g4, Sem.run_pure, checkKey_run hk hok, q1]
      · cases hs
    · cases hs
  · cases hs
theorem keyStays_run {P : Program} {ρ : Rho} {old k : V} {a b : Value} (ho : R ρ old a) (hk : R ρ k b) (h : sameV 10000 old k = true) (w : World) : (Instr.keyThatStays a b).run P w = .ok b w := by
  unfold Instr.keyThatStays
  rw [if_pos (sameV_sound 10000 old k a b ho hk h)]
  rfl
theorem mapUpdate_sound {P : Program} {ρ : Rho} {h h' : AH} {w : World} {t : TypeId} {m k x : V} {am ak ax : Value} (hr : HR ρ h w) (hm : R ρ m am) (hk : R ρ k ak) (hx : R ρ x ax) (hs : absMapUpdate P t m k x h = some h') :
    ∃ w', (Instr.mapUpdate t am ak ax).run P w = .ok () w' ∧ HR ρ h' w' ∧ Step ρ h w ρ h' w' := by
  unfold absMapUpdate at hs
  split at hs
  · rename_i kt et b hu
    obtain ⟨cb', S', rfl, hρ⟩ := hm
    split at hs
    · rename_i hok
      split at hs
      · cases hs
      · rename_i c data hmo
        obtain ⟨kb, cb, S, es, clock, g1, g2, g3, g4, g5, g6⟩ := mapOf_spec hr hmo
        rw [hρ] at g3
        cases g3
        split at hs
        · cases hs
        · rename_i i old v' s hf
          split at hs
          · rename_i hsame
            cases hs
            obtain ⟨r, q1, q2⟩ := mFind_sound hk hok g6 hf w
            cases r with
            | none => exact q2.elim
            | some p =>
              obtain ⟨j, u⟩ := p
              obtain ⟨rfl, _, e, he, rfl, q3, q4, q5⟩ := q2
              have hnew : ObjOK ρ 0 (c :: mSet data i k x) (some (.map (es.modify i fun e => { e with key := ak, val := ax }) clock)) := by
                refine ⟨_, clock, rfl, RL_cons.2 ⟨g5, ?_⟩⟩
                rw [Array.toList_modify]
                exact mSet_sound hk hx _ _ _ g6
              obtain ⟨o1, o2⟩ := obj_set hr g1 g2 hρ 0 _ _ hnew
              refine ⟨_, ?_, o1, o2⟩
              have hki : ((es[i]?).map (·.key)).getD ak = e.key := by
                rw [← Array.getElem?_toList, show es.toList[i]? = some e from he]; rfl
              unfold Instr.mapUpdate
              simp only [Sem.run_bind, run_underlying hu, Result.andThen_ok, run_getMap g4, checkKey_run hk hok, q1, hki, keyStays_run q3 hk hsame, run_setMap _ g4]
          · cases hs
        · rename_i hf
          split at hs
          · rename_i n
            cases hs
            obtain ⟨r, q1, q2⟩ := mFind_sound hk hok g6 hf w
            cases r with
            | some _ => exact q2.elim
            | none =>
              have hn : n = (clock : Int) := by cases (show Value.int .i64 (clock : Int) = .int .i64 n from g5); rfl
              have hnew : ObjOK ρ 0 (.int .i64 (n + 1) :: (data ++ [k, x, .int .i64 n])) (some (.map (es.push { key := ak, val := ax, born := clock }) (clock + 1))) := by
                refine ⟨_, _, rfl, RL_cons.2 ⟨by rw [hn]; rfl, ?_⟩⟩
                rw [Array.toList_push, mapL_append]
                exact g6.append (RL_cons.2 ⟨hk, RL_cons.2 ⟨hx, RL_cons.2 ⟨by rw [hn]; rfl, rfl⟩⟩⟩)
              obtain ⟨o1, o2⟩ := obj_set hr g1 g2 hρ 0 _ _ hnew
              refine ⟨_, ?_, o1, o2⟩
              unfold Instr.mapUpdate
              simp only [Sem.run_bind, run_underlying hu, Result.andThen_ok, run_getMap g4, checkKey_run hk hok, q1, run_setMap _ g4]
          · cases hs
    · cases hs
  · cases hs
theorem mapEntry_sound {P : Program} {ρ : Rho} {h h' : AH} {w : World} {t : TypeId} {m k v : V} {am ak : Value} (hr : HR ρ h w) (hm : R ρ m am) (hk : R ρ k ak) (hs : absMapEntry P t m k h = some (v, h')) : Sim P ρ h w (Instr.mapEntry t am ak) v h' := by
  unfold absMapEntry at hs
  split at hs
  · rename_i kt et b hu
    obtain ⟨cb', S', rfl, hρ⟩ := hm
    split at hs
    · rename_i hok
      split at hs
      · cases hs
      · rename_i c data hmo
        obtain ⟨kb, cb, S, es, clock, g1, g2, g3, g4, g5, g6⟩ := mapOf_spec hr hmo
        rw [hρ] at g3
        cases g3
        split at hs
        · cases hs
        · rename_i i old v' s hf
          split at hs
          · rename_i hsame
            cases hs
            obtain ⟨r, q1, q2⟩ := mFind_sound hk hok g6 hf w
            cases r with
            | none => exact q2.elim
            | some p =>
              obtain ⟨j, u⟩ := p
              obtain ⟨rfl, _, e, he, rfl, q3, q4, q5⟩ := q2
              have hei : es[i]? = some e := by rw [← Array.getElem?_toList]; exact he
              have hnew : ObjOK ρ 0 (c :: mSet data i k v') (some (.map (es.modify i fun e => { e with key := ak }) clock)) := by
                refine ⟨_, clock, rfl, RL_cons.2 ⟨g5, ?_⟩⟩
                have h1 := mSet_sound hk q4 _ _ i g6
                have h2 : (es.modify i fun e => { e with key := ak }).toList = es.toList.modify i fun e' => { e' with key := ak, val := e.val } := by
                  rw [Array.toList_modify]
                  apply List.ext_getElem?
                  intro j
                  rw [List.getElem?_modify, List.getElem?_modify]
                  by_cases hij : i = j
                  · subst hij
                    rw [show es.toList[i]? = some e from he]
                    rfl
                  · simp [hij]
                rw [h2]
                exact h1
              obtain ⟨o1, o2⟩ := obj_set hr g1 g2 hρ 0 _ _ hnew
              refine ⟨.tuple #[e.val, goInt e.born], _, ρ, ?_, ⟨_, rfl, _, _, rfl, q4, _, _, rfl, q5, rfl⟩, o1, o2⟩
              unfold Instr.mapEntry
              simp only [Sem.run_bind, run_underlying hu, Result.andThen_ok, run_getMap g4, checkKey_run hk hok, q1, hei, Option.map_some, Option.getD_some, keyStays_run q3 hk hsame, run_setMap _ g4, Sem.run_pure]
          · cases hs
        · rename_i hf
          split at hs
          · rename_i n z hz
            cases hs
            obtain ⟨r, q1, q2⟩ := mFind_sound hk hok g6 hf w
            cases r with
            | some _ => exact q2.elim
            | none =>
              obtain ⟨z', h3, h4⟩ := zeroV_sound hz ρ w
              have hn : n = (clock : Int) := by cases (show Value.int .i64 (clock : Int) = .int .i64 n from g5); rfl
              have hnew : ObjOK ρ 0 (.int .i64 (n + 1) :: (data ++ [k, z, .int .i64 n])) (some (.map (es.push { key := ak, val := z', born := clock }) (clock + 1))) := by
                refine ⟨_, _, rfl, RL_cons.2 ⟨by rw [hn]; rfl, ?_⟩⟩
                rw [Array.toList_push, mapL_append]
                exact g6.append (RL_cons.2 ⟨hk, RL_cons.2 ⟨h4, RL_cons.2 ⟨by rw [hn]; rfl, rfl⟩⟩⟩)
              obtain ⟨o1, o2⟩ := obj_set hr g1 g2 hρ 0 _ _ hnew
              refine ⟨.tuple #[z', goInt clock], _, ρ, ?_, ⟨_, rfl, _, _, rfl, h4, _, _, rfl, by rw [hn]; rfl, rfl⟩, o1, o2⟩
              unfold Instr.mapEntry
              simp only [Sem.run_bind, run_underlying hu, Result.andThen_ok, run_getMap g4, checkKey_run hk hok, q1, h3, run_setMap _ g4, Sem.run_pure]
          · cases hs
    · cases hs
  · cases hs
theorem mStore_sound {ρ : Rho} {s : Int} {x : V} {c : Value} (hx : R ρ x c) : ∀ (es : List MapEntry) (data l : List V), RL ρ data (mapL es) → mStore data s x = some l → ∃ i, es.findIdx? (fun e => (e.born : Int) == s) = some i ∧ RL ρ l (mapL (es.modify i fun e => { e with val := c })) := by
  intro es
  induction es with
  | nil => intro data l h hs; rw [RL_noEntry h] at hs; cases hs
  | cons e es ih =>
    intro data l h hs
    obtain ⟨k, v, b, rest, rfl, h1, h2, h3, h4⟩ := RL_entry h
    unfold mStore at hs
    split at hs
    · rename_i heq
      cases heq
      cases (show Value.int .i64 (e.born : Int) = .int .i64 _ from h3)
      split at hs
      · rename_i hns
        cases hs
        refine ⟨0, by rw [List.findIdx?_cons]; simp [hns], ?_⟩
        rw [List.modify_zero_cons, mapL_cons]
        exact RL_cons.2 ⟨h1, RL_cons.2 ⟨hx, RL_cons.2 ⟨h3, h4⟩⟩⟩
      · rename_i hns
        obtain ⟨l', g1, g2⟩ := map_some' hs
        subst g2
        obtain ⟨i, q1, q2⟩ := ih _ _ h4 g1
        refine ⟨i + 1, by rw [List.findIdx?_cons]; simp [hns, q1], ?_⟩
        rw [List.modify_succ_cons, mapL_cons]
        exact RL_cons.2 ⟨h1, RL_cons.2 ⟨h2, RL_cons.2 ⟨h3, q2⟩⟩⟩
    · cases hs
theorem entryStore_sound {P : Program} {ρ : Rho} {h h' : AH} {w : World} {t : TypeId} {m s x : V} {am aas ax : Value} (hr : HR ρ h w) (hm : R ρ m am) (hs' : R ρ s aas) (hx : R ρ x ax) (hs : absEntryStore m s x h = some h') :
    ∃ w', (Instr.entryStore t am aas ax).run P w = .ok () w' ∧ HR ρ h' w' ∧ Step ρ h w ρ h' w' := by
  unfold absEntryStore at hs
  split at hs
  · rename_i b n
    obtain ⟨cb', S', rfl, hρ⟩ := hm
    rw [show aas = _ from hs']
    split at hs
    · cases hs
    · rename_i c data hmo
      obtain ⟨kb, cb, S, es, clock, g1, g2, g3, g4, g5, g6⟩ := mapOf_spec hr hmo
      rw [hρ] at g3
      cases g3
      obtain ⟨l, e1, e2⟩ := map_some' hs
      subst e2
      obtain ⟨i, q1, q2⟩ := mStore_sound hx _ _ _ g6 e1
      have hnew : ObjOK ρ 0 (c :: l) (some (.map (es.modify i fun e => { e with val := ax }) clock)) := by
        refine ⟨_, clock, rfl, RL_cons.2 ⟨g5, ?_⟩⟩
        rw [Array.toList_modify]
        exact q2
      obtain ⟨o1, o2⟩ := obj_set hr g1 g2 hρ 0 _ _ hnew
      refine ⟨_, ?_, o1, o2⟩
      have hfi : es.findIdx? (fun e => (e.born : Int) == n) = some i := by rw [← List.findIdx?_toArray] at q1; exact q1
      unfold Instr.entryStore
      simp only [Sem.run_bind, run_getMap g4, Result.andThen_ok, run_asInt', Sem.run_pure, hfi, run_setMap _ g4]
  · cases hs
theorem mLen_spec {ρ : Rho} : ∀ (es : List MapEntry) (data : List V), RL ρ data (mapL es) → mLen data = es.length := by
  intro es
  induction es with
  | nil => intro data h; rw [RL_noEntry h]; rfl
  | cons e es ih =>
    intro data h
    obtain ⟨k, v, b, rest, rfl, _, _, _, h4⟩ := RL_entry h
    simp [mLen, ih _ h4]
theorem mapLen_sound {P : Program} {ρ : Rho} {h : AH} {w : World} {t ty : TypeId} {x v : V} {a : Value} (hr : HR ρ h w) (hx : R ρ x a) (hs : absMapLen P t x h = some v) : ∃ u, (Builtin.len_ #[t] ty #[a]).run P w = .ok u w ∧ R ρ v u := by
  unfold absMapLen at hs
  split at hs
  · rename_i hu
    cases hs
    rw [show a = _ from hx]
    refine ⟨goInt 0, ?_, rfl⟩
    unfold Builtin.len_
    simp only [List.getElem?_toArray, List.getElem?_cons_zero, Sem.run_bind, run_underlying hu, Result.andThen_ok, Sem.run_pure]
  · rename_i b hu
    obtain ⟨p, h1, h2⟩ := map_some' hs
    obtain ⟨c, data⟩ := p
    subst h2
    obtain ⟨cb', S', rfl, hρ⟩ := hx
    obtain ⟨kb, cb, S, es, clock, g1, g2, g3, g4, g5, g6⟩ := mapOf_spec hr h1
    rw [hρ] at g3
    cases g3
    refine ⟨goInt es.size, ?_, ?_⟩
    · unfold Builtin.len_
      simp only [List.getElem?_toArray, List.getElem?_cons_zero, Sem.run_bind, run_underlying hu, Result.andThen_ok, run_getMap g4, Sem.run_pure]
    · rw [mLen_spec _ _ g6]
      exact rfl
  · cases hs
def pureRun (P : Program) : Nat → Sem Value → Option V
  | _, .pure v => numV v
  | n + 1, .program k => pureRun P n (k P)
  | _, _ => none
theorem numV_R {u : Value} {v : V} (h : numV u = some v) (ρ : Rho) : R ρ v u := by
  cases u <;> simp only [numV, Option.some.injEq, reduceCtorEq] at h <;> (subst h; rfl)
theorem pureRun_sound {P : Program} : ∀ (n : Nat) (s : Sem Value) (v : V), pureRun P n s = some v → ∃ u, (∀ w, s.run P w = .ok u w) ∧ ∀ ρ, R ρ v u := by
  intro n
  induction n with
  | zero =>
    intro s v h
    unfold pureRun at h
    split at h
    · exact ⟨_, fun w => rfl, fun ρ => numV_R h ρ⟩
    · rename_i hx; cases hx
    · cases h
  | succ n ih =>
    intro s v h
    unfold pureRun at h
    split at h
    · exact ⟨_, fun w => rfl, fun ρ => numV_R h ρ⟩
    · rename_i hx
      cases hx
      obtain ⟨u, g1, g2⟩ := ih _ _ h
      exact ⟨u, fun w => g1 w, g2⟩
    · cases h
def toNum : V → Option Value
  | .int k n => some (.int k n)
  | .float k a => some (.float k a)
  | .complex k a b => some (.complex k a b)
  | _ => none
def toNums : List V → Option (List Value)
  | [] => some []
  | x :: l => match toNum x, toNums l with
    | some a, some aas => some (a :: aas)
    | _, _ => none
def numT (P : Program) (s d : TypeId) : Bool :=
  match P.underlying s with
  | some (.float _) => true
  | some (.complex _) => true
  | _ => match P.underlying d with
    | some (.float _) => true
    | _ => false
def absConvNum (P : Program) (s d : TypeId) (x : V) : Option V :=
  bif numT P s d then (match x, P.underlying d with
  | .float k a, _ => pureRun P 8 (convert s d (.float k a))
  | .complex k a b, _ => pureRun P 8 (convert s d (.complex k a b))
  | .int k n, some (.float _) => pureRun P 8 (convert s d (.int k n))
  | _, _ => none) else none
theorem convNum_sound {P : Program} {ρ : Rho} {s d : TypeId} {x v : V} {a : Value} (hx : R ρ x a) (h : absConvNum P s d x = some v) (w : World) : ∃ u, (convert s d a).run P w = .ok u w ∧ R ρ v u := by
  unfold absConvNum at h
  cases hn : numT P s d with
  | false => rw [hn] at h; cases h
  | true =>
  rw [hn] at h
  simp only [cond_true] at h
  split at h
  · obtain ⟨u, g1, g2⟩ := pureRun_sound _ _ _ h; exact ⟨u, by rw [show a = _ from hx]; exact g1 w, g2 ρ⟩
  · obtain ⟨u, g1, g2⟩ := pureRun_sound _ _ _ h; exact ⟨u, by rw [show a = _ from hx]; exact g1 w, g2 ρ⟩
  · obtain ⟨u, g1, g2⟩ := pureRun_sound _ _ _ h; exact ⟨u, by rw [show a = _ from hx]; exact g1 w, g2 ρ⟩
  · cases h
def partOf (b : Builtin) (args : List V) : Option V :=
  match b, args with
  | .real, [.complex k re _] => some (.float k re)
  | .imag, [.complex k _ im] => some (.float k im)
  | .complex, [.float k re, .float k' im] => if k = k' then some (.complex k re im) else none
  | _, _ => none
end Go.Proofs.YtcphjmgfgfjnpaaGreatDoor.Ev
