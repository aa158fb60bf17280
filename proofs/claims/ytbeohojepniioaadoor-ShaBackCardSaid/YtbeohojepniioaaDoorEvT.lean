/-
  A trie keyed by natural numbers and rows of cells over it: plain data, no program in sight. No condition.
-/
import Derived.WalkKit
namespace Go.Proofs.YtbeohojepniioaaDoor.Ev
open Go

inductive T (α : Type) : Type where
  | leaf
  | node (l : T α) (v : Option α) (r : T α)

/-- The bits of n below its first one, the last bit first. -/
noncomputable def bitsF (f : Nat) : Nat → List Bool :=
  Nat.rec (fun _ => []) (fun _ ih n => Bool.rec (Nat.beq (Nat.mod n 2) 1 :: ih (Nat.div n 2)) [] (Nat.ble n 1)) f
noncomputable def path (i : Nat) : List Bool := bitsF (Nat.succ i) (Nat.succ i)

theorem bitsF_zero (n : Nat) : bitsF 0 n = [] := rfl
theorem bitsF_succ (f n : Nat) : bitsF (f + 1) n = bif Nat.ble n 1 then [] else Nat.beq (n % 2) 1 :: bitsF f (n / 2) := by
  have h : bitsF (f + 1) n = Bool.rec (motive := fun _ => List Bool) (Nat.beq (Nat.mod n 2) 1 :: bitsF f (Nat.div n 2)) [] (Nat.ble n 1) := rfl
  rw [h]
  cases Nat.ble n 1 <;> rfl

theorem bitsF_inj : ∀ (f g n m : Nat), 1 ≤ n → 1 ≤ m → n ≤ f → m ≤ g → bitsF f n = bitsF g m → n = m := by
  intro f
  induction f with
  | zero => intro g n m h1 _ h2; omega
  | succ f ih =>
    intro g n m hn hm hf hg h
    cases g with
    | zero => omega
    | succ g =>
      rw [bitsF_succ, bitsF_succ] at h
      by_cases h1 : n ≤ 1 <;> by_cases h2 : m ≤ 1
      · omega
      · rw [Nat.ble_eq_true_of_le h1, show Nat.ble m 1 = false from by cases h : Nat.ble m 1; rfl; exact absurd (Nat.le_of_ble_eq_true h) h2] at h
        cases h
      · rw [Nat.ble_eq_true_of_le h2, show Nat.ble n 1 = false from by cases h : Nat.ble n 1; rfl; exact absurd (Nat.le_of_ble_eq_true h) h1] at h
        cases h
      · rw [show Nat.ble m 1 = false from by cases h : Nat.ble m 1; rfl; exact absurd (Nat.le_of_ble_eq_true h) h2,
          show Nat.ble n 1 = false from by cases h : Nat.ble n 1; rfl; exact absurd (Nat.le_of_ble_eq_true h) h1] at h
        simp only [cond_false, List.cons.injEq] at h
        have := ih g (n / 2) (m / 2) (by omega) (by omega) (by omega) (by omega) h.2
        have hb : (n % 2 = 1) ↔ (m % 2 = 1) := by
          have h1 := h.1
          rw [Bool.eq_iff_iff] at h1
          simpa using h1
        omega
theorem path_inj {i j : Nat} (h : path i = path j) : i = j := by
  have := bitsF_inj (i + 1) (j + 1) (i + 1) (j + 1) (by omega) (by omega) (by omega) (by omega) h
  omega

namespace T
variable {α : Type}
noncomputable def getP (p : List Bool) : T α → Option α :=
  List.rec (fun t => T.rec none (fun _ v _ _ _ => v) t)
    (fun b _ ih t => T.rec none (fun l _ r _ _ => Bool.rec (ih l) (ih r) b) t) p
noncomputable def setP (p : List Bool) : T α → α → T α :=
  List.rec (fun t x => T.rec (.node .leaf (some x) .leaf) (fun l _ r _ _ => .node l (some x) r) t)
    (fun b _ ih t x => T.rec (Bool.rec (.node (ih .leaf x) none .leaf) (.node .leaf none (ih .leaf x)) b) (fun l v r _ _ => Bool.rec (.node (ih l x) v r) (.node l v (ih r x)) b) t) p
theorem getP_leaf (p : List Bool) : getP p (.leaf : T α) = none := by cases p <;> rfl
theorem getP_nil (l r : T α) (v : Option α) : getP [] (.node l v r) = v := rfl
theorem getP_cons (b : Bool) (p : List Bool) (l r : T α) (v : Option α) : getP (b :: p) (.node l v r) = bif b then getP p r else getP p l := by cases b <;> rfl
theorem getP_set_same (p : List Bool) : ∀ (t : T α) (x : α), getP p (setP p t x) = some x := by
  induction p with
  | nil => intro t x; cases t <;> rfl
  | cons b p ih => intro t x; cases t <;> cases b <;> exact ih _ _
theorem getP_set_other (p : List Bool) : ∀ (q : List Bool) (t : T α) (x : α), p ≠ q → getP q (setP p t x) = getP q t := by
  induction p with
  | nil =>
    intro q t x h
    cases q with
    | nil => exact absurd rfl h
    | cons c q => cases t <;> cases c <;> first | rfl | (exact getP_leaf q)
  | cons b p ih =>
    intro q t x h
    cases q with
    | nil => cases t <;> cases b <;> rfl
    | cons c q =>
      cases t <;> cases b <;> cases c <;> first
        | rfl
        | exact getP_leaf q
        | exact (ih q _ x (fun e => h (by rw [e])))
        | exact (ih q _ x (fun e => h (by rw [e]))).trans (getP_leaf q)
noncomputable def get (t : T α) (i : Nat) : Option α := getP (path i) t
noncomputable def set (t : T α) (i : Nat) (x : α) : T α := setP (path i) t x
theorem get_leaf (i : Nat) : (leaf : T α).get i = none := getP_leaf _
theorem get_set (t : T α) (i j : Nat) (x : α) : (t.set i x).get j = if j = i then some x else t.get j := by
  by_cases h : j = i
  · subst h; rw [if_pos rfl]; exact getP_set_same _ _ _
  · rw [if_neg h]; exact getP_set_other _ _ _ _ (fun e => h (path_inj e).symm)
end T
end Go.Proofs.YtbeohojepniioaaDoor.Ev
