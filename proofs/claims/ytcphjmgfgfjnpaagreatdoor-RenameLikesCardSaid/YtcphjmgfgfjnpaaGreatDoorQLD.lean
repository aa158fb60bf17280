/-
  Part of a proof, written in a short hand by a program of this workplace. No condition.
-/
import Derived.Test.YtcphjmgfgfjnpaaGreatDoorQLC
set_option linter.unusedVariables false
set_option linter.unusedSimpArgs false
namespace Go.Proofs.YtcphjmgfgfjnpaaGreatDoor.Ev
open Go
mutual
def renV (s : Nat → Nat) : V → V
  | .bad => .bad
  | .bool b => .bool b
  | .int k n => .int k n
  | .str l => .str l
  | .ptr a => .ptr ⟨s a.b, a.L, a.o⟩
  | .nilptr => .nilptr
  | .slice a n c e z => .slice ⟨s a.b, a.L, a.o⟩ n c e z
  | .nilslice => .nilslice
  | .loose => .loose
  | .func f x y => .func f (renL s x) (renL s y)
  | .nilFunc => .nilFunc
  | .iface t v => .iface t (renV s v)
  | .nilIface => .nilIface
  | .agg x => .agg (renL s x)
  | .tuple x => .tuple (renL s x)
  | .mapv b => .mapv (s b)
  | .nilmap => .nilmap
  | .complex k a b => .complex k a b
  | .float k a => .float k a
  | .yield b => .yield (s b)
  | .rcd f ps a b => .rcd f ps a b
def renL (s : Nat → Nat) : List V → List V
  | [] => []
  | x :: xs => renV s x :: renL s xs
end
mutual
def belV (n : Nat) : V → Bool
  | .ptr a => Nat.blt a.b n
  | .slice a _ _ _ _ => Nat.blt a.b n
  | .func _ x y => belL n x && belL n y
  | .iface _ v => belV n v
  | .agg x => belL n x
  | .tuple x => belL n x
  | .mapv b => Nat.blt b n
  | .yield b => Nat.blt b n
  | _ => true
def belL (n : Nat) : List V → Bool
  | [] => true
  | x :: xs => belV n x && belL n xs
end
theorem blt_lt {a b : Nat} (h : Nat.blt a b = true) : a < b := by
  rw [Arr.blt_eq] at h
  exact of_decide_eq_true h
mutual
theorem R_ren {s : Nat → Nat} {ρ ρ' : Rho} (hs : ∀ b L x, ρ b L = some x → ρ' (s b) L = some x) : ∀ {v : V} {u : Value}, R ρ v u → R ρ' (renV s v) u
  | .bad, _, h => h
  | .bool _, _, h => h
  | .int _ _, _, h => h
  | .str _, _, h => h
  | .ptr _, _, ⟨c, h1, cb, sh, S, h2, h3⟩ => ⟨c, h1, cb, sh, S, hs _ _ _ h2, h3⟩
  | .nilptr, _, h => h
  | .slice .., _, ⟨cb, sh, S, cc, h1, h2, h3⟩ => ⟨cb, sh, S, cc, h1, hs _ _ _ h2, h3⟩
  | .nilslice, _, h => h
  | .loose, _, h => h
  | .func .., _, ⟨xs, ys, h1, h2, h3⟩ => ⟨xs, ys, h1, RL_ren hs h2, RL_ren hs h3⟩
  | .nilFunc, _, h => h
  | .iface .., _, ⟨y, h1, h2⟩ => ⟨y, h1, R_ren hs h2⟩
  | .nilIface, _, h => h
  | .agg _, _, ⟨xs, h1, h2⟩ => ⟨xs, h1, RL_ren hs h2⟩
  | .tuple _, _, ⟨xs, h1, h2⟩ => ⟨xs, h1, RL_ren hs h2⟩
  | .mapv _, _, ⟨cb, S, h1, h2⟩ => ⟨cb, S, h1, hs _ _ _ h2⟩
  | .nilmap, _, h => h
  | .complex .., _, h => h
  | .float .., _, h => h
  | .yield _, _, ⟨cb, S, h1, h2⟩ => ⟨cb, S, h1, hs _ _ _ h2⟩
  | .rcd .., _, h => h
theorem RL_ren {s : Nat → Nat} {ρ ρ' : Rho} (hs : ∀ b L x, ρ b L = some x → ρ' (s b) L = some x) : ∀ {l : List V} {us : List Value}, RL ρ l us → RL ρ' (renL s l) us
  | [], _, h => h
  | _ :: _, _, ⟨z, zs, h1, h2, h3⟩ => ⟨z, zs, h1, R_ren hs h2, RL_ren hs h3⟩
end
mutual
theorem R_unren {s : Nat → Nat} {n : Nat} {ρ ρ' : Rho} (hs : ∀ b L x, b < n → ρ' (s b) L = some x → ρ b L = some x) : ∀ {v : V} {u : Value}, belV n v = true → R ρ' (renV s v) u → R ρ v u
  | .bad, _, _, h => h
  | .bool _, _, _, h => h
  | .int _ _, _, _, h => h
  | .str _, _, _, h => h
  | .ptr _, _, hb, ⟨c, h1, cb, sh, S, h2, h3⟩ => ⟨c, h1, cb, sh, S, hs _ _ _ (blt_lt hb) h2, h3⟩
  | .nilptr, _, _, h => h
  | .slice .., _, hb, ⟨cb, sh, S, cc, h1, h2, h3⟩ => ⟨cb, sh, S, cc, h1, hs _ _ _ (blt_lt hb) h2, h3⟩
  | .nilslice, _, _, h => h
  | .loose, _, _, h => h
  | .func .., _, hb, ⟨xs, ys, h1, h2, h3⟩ => ⟨xs, ys, h1, RL_unren hs (Bool.and_eq_true_iff.1 hb).1 h2, RL_unren hs (Bool.and_eq_true_iff.1 hb).2 h3⟩
  | .nilFunc, _, _, h => h
  | .iface .., _, hb, ⟨y, h1, h2⟩ => ⟨y, h1, R_unren hs hb h2⟩
  | .nilIface, _, _, h => h
  | .agg _, _, hb, ⟨xs, h1, h2⟩ => ⟨xs, h1, RL_unren hs hb h2⟩
  | .tuple _, _, hb, ⟨xs, h1, h2⟩ => ⟨xs, h1, RL_unren hs hb h2⟩
  | .mapv _, _, hb, ⟨cb, S, h1, h2⟩ => ⟨cb, S, h1, hs _ _ _ (blt_lt hb) h2⟩
  | .nilmap, _, _, h => h
  | .complex .., _, _, h => h
  | .float .., _, _, h => h
  | .yield _, _, hb, ⟨cb, S, h1, h2⟩ => ⟨cb, S, h1, hs _ _ _ (blt_lt hb) h2⟩
  | .rcd .., _, _, h => h
theorem RL_unren {s : Nat → Nat} {n : Nat} {ρ ρ' : Rho} (hs : ∀ b L x, b < n → ρ' (s b) L = some x → ρ b L = some x) : ∀ {l : List V} {us : List Value}, belL n l = true → RL ρ' (renL s l) us → RL ρ l us
  | [], _, _, h => h
  | _ :: _, _, hb, ⟨z, zs, h1, h2, h3⟩ => ⟨z, zs, h1, R_unren hs (Bool.and_eq_true_iff.1 hb).1 h2, RL_unren hs (Bool.and_eq_true_iff.1 hb).2 h3⟩
end
mutual
theorem ren_id {s : Nat → Nat} {m : Nat} (hs : ∀ b, b < m → s b = b) : ∀ (v : V), belV m v = true → renV s v = v
  | .bad, _ => rfl
  | .bool _, _ => rfl
  | .int _ _, _ => rfl
  | .str _, _ => rfl
  | .ptr a, hb => by show V.ptr ⟨s a.b, a.L, a.o⟩ = _; rw [hs _ (blt_lt hb)]
  | .nilptr, _ => rfl
  | .slice a n c e z, hb => by show V.slice ⟨s a.b, a.L, a.o⟩ n c e z = _; rw [hs _ (blt_lt hb)]
  | .nilslice, _ => rfl
  | .loose, _ => rfl
  | .func f x y, hb => by show V.func f (renL s x) (renL s y) = _; rw [renL_id hs x (Bool.and_eq_true_iff.1 hb).1, renL_id hs y (Bool.and_eq_true_iff.1 hb).2]
  | .nilFunc, _ => rfl
  | .iface t v, hb => by show V.iface t (renV s v) = _; rw [ren_id hs v hb]
  | .nilIface, _ => rfl
  | .agg x, hb => by show V.agg (renL s x) = _; rw [renL_id hs x hb]
  | .tuple x, hb => by show V.tuple (renL s x) = _; rw [renL_id hs x hb]
  | .mapv b, hb => by show V.mapv (s b) = _; rw [hs _ (blt_lt hb)]
  | .nilmap, _ => rfl
  | .complex .., _ => rfl
  | .float .., _ => rfl
  | .yield b, hb => by show V.yield (s b) = _; rw [hs _ (blt_lt hb)]
  | .rcd .., _ => rfl
theorem renL_id {s : Nat → Nat} {m : Nat} (hs : ∀ b, b < m → s b = b) : ∀ (l : List V), belL m l = true → renL s l = l
  | [], _ => rfl
  | x :: xs, hb => by show renV s x :: renL s xs = _; rw [ren_id hs x (Bool.and_eq_true_iff.1 hb).1, renL_id hs xs (Bool.and_eq_true_iff.1 hb).2]
end
mutual
theorem ren_self : ∀ v : V, renV (fun b => b) v = v
  | .bad | .bool _ | .int _ _ | .str _ | .ptr _ | .nilptr | .slice .. | .nilslice | .loose | .nilFunc | .nilIface | .mapv _ | .nilmap | .complex .. | .float .. | .yield _ | .rcd .. => rfl
  | .func f x y => by show V.func f (renL _ x) (renL _ y) = _; rw [renL_self x, renL_self y]
  | .iface t v => by show V.iface t (renV _ v) = _; rw [ren_self v]
  | .agg x => by show V.agg (renL _ x) = _; rw [renL_self x]
  | .tuple x => by show V.tuple (renL _ x) = _; rw [renL_self x]
theorem renL_self : ∀ l : List V, renL (fun b => b) l = l
  | [] => rfl
  | x :: xs => by show renV _ x :: renL _ xs = _; rw [ren_self x, renL_self xs]
end
theorem renL_map (s : Nat → Nat) : ∀ l : List V, renL s l = l.map (renV s)
  | [] => rfl
  | x :: xs => by show renV s x :: renL s xs = _; rw [renL_map s xs]; rfl
theorem belL_mem {n : Nat} : ∀ {l : List V}, belL n l = true → ∀ v ∈ l, belV n v = true
  | [], _, v, hv => by cases hv
  | x :: xs, hb, v, hv => by
    rcases List.mem_cons.1 hv with rfl | hv
    · exact (Bool.and_eq_true_iff.1 hb).1
    · exact belL_mem (Bool.and_eq_true_iff.1 hb).2 v hv
mutual
def eqvV (s : Nat → Nat) : V → V → Bool
  | .bad, .bad => true
  | .bool a, .bool b => a == b
  | .int k a, .int j b => k == j && a == b
  | .str a, .str b => a == b
  | .ptr a, .ptr b => alikeA ⟨s a.b, a.L, a.o⟩ b
  | .nilptr, .nilptr => true
  | .slice a n c e z, .slice a' n' c' e' z' => alikeA ⟨s a.b, a.L, a.o⟩ a' && (Nat.beq n n' && (Nat.beq c c' && (e == e' && Nat.beq z z')))
  | .nilslice, .nilslice => true
  | .loose, .loose => true
  | .func f x y, .func f' x' y' => Nat.beq f f' && (eqvL s x x' && eqvL s y y')
  | .nilFunc, .nilFunc => true
  | .iface t x, .iface t' x' => Nat.beq t t' && eqvV s x x'
  | .nilIface, .nilIface => true
  | .agg x, .agg x' => eqvL s x x'
  | .tuple x, .tuple x' => eqvL s x x'
  | .mapv b, .mapv b' => Nat.beq (s b) b'
  | .nilmap, .nilmap => true
  | .complex k a b, .complex k' a' b' => decide (k = k') && (Nat.beq a a' && Nat.beq b b')
  | .float k a, .float k' a' => decide (k = k') && Nat.beq a a'
  | _, _ => false
def eqvL (s : Nat → Nat) : List V → List V → Bool
  | [], [] => true
  | x :: xs, y :: ys => eqvV s x y && eqvL s xs ys
  | _, _ => false
end
mutual
theorem eqvV_eq {s : Nat → Nat} : ∀ (x y : V), eqvV s x y = true → y = renV s x
  | .bad, y, h => by cases y <;> first | rfl | (simp [eqvV] at h; done)
  | .bool a, y, h => by cases y <;> first | (simp [eqvV] at h; done) | (simp only [eqvV, beq_iff_eq] at h; rw [h]; rfl)
  | .int k a, y, h => by cases y <;> first | (simp [eqvV] at h; done) | (simp only [eqvV, Bool.and_eq_true, beq_iff_eq] at h; rw [h.1, h.2]; rfl)
  | .str a, y, h => by cases y <;> first | (simp [eqvV] at h; done) | (simp only [eqvV, beq_iff_eq] at h; rw [h]; rfl)
  | .ptr a, y, h => by cases y <;> first | (simp [eqvV] at h; done) | (simp only [eqvV] at h; rw [← alikeA_eq h]; rfl)
  | .nilptr, y, h => by cases y <;> first | rfl | (simp [eqvV] at h; done)
  | .slice a n c e z, y, h => by cases y <;> first | (simp [eqvV] at h; done) | (simp only [eqvV, Bool.and_eq_true, Nat.beq_eq, beq_iff_eq] at h; rw [← alikeA_eq h.1, ← h.2.1, ← h.2.2.1, ← h.2.2.2.1, ← h.2.2.2.2]; rfl)
  | .nilslice, y, h => by cases y <;> first | rfl | (simp [eqvV] at h; done)
  | .loose, y, h => by cases y <;> first | rfl | (simp [eqvV] at h; done)
  | .func f x z, y, h => by cases y <;> first | (simp [eqvV] at h; done) | (simp only [eqvV, Bool.and_eq_true, Nat.beq_eq] at h; rw [← h.1, eqvL_eq x _ h.2.1, eqvL_eq z _ h.2.2]; rfl)
  | .nilFunc, y, h => by cases y <;> first | rfl | (simp [eqvV] at h; done)
  | .iface t x, y, h => by cases y <;> first | (simp [eqvV] at h; done) | (simp only [eqvV, Bool.and_eq_true, Nat.beq_eq] at h; rw [← h.1, eqvV_eq x _ h.2]; rfl)
  | .nilIface, y, h => by cases y <;> first | rfl | (simp [eqvV] at h; done)
  | .agg x, y, h => by cases y <;> first | (simp [eqvV] at h; done) | (simp only [eqvV] at h; rw [eqvL_eq x _ h]; rfl)
  | .tuple x, y, h => by cases y <;> first | (simp [eqvV] at h; done) | (simp only [eqvV] at h; rw [eqvL_eq x _ h]; rfl)
  | .mapv b, y, h => by cases y <;> first | (simp [eqvV] at h; done) | (simp only [eqvV, Nat.beq_eq] at h; rw [← h]; rfl)
  | .nilmap, y, h => by cases y <;> first | rfl | (simp [eqvV] at h; done)
  | .complex .., y, h => by cases y <;> first | (simp [eqvV] at h; done) | (simp only [eqvV, Bool.and_eq_true, Nat.beq_eq, decide_eq_true_eq] at h; rw [h.1, h.2.1, h.2.2]; rfl)
  | .float .., y, h => by cases y <;> first | (simp [eqvV] at h; done) | (simp only [eqvV, Bool.and_eq_true, Nat.beq_eq, decide_eq_true_eq] at h; rw [h.1, h.2]; rfl)
  | .yield _, y, h => by cases y <;> (simp [eqvV] at h; done)
  | .rcd .., y, h => by cases y <;> (simp [eqvV] at h; done)
theorem eqvL_eq {s : Nat → Nat} : ∀ (x y : List V), eqvL s x y = true → y = renL s x
  | [], y, h => by cases y <;> first | rfl | (simp [eqvL] at h; done)
  | x :: xs, y, h => by
    cases y with
    | nil => simp [eqvL] at h
    | cons y ys =>
      simp only [eqvL, Bool.and_eq_true] at h
      rw [eqvV_eq x y h.1, eqvL_eq xs ys h.2]
      rfl
end
noncomputable def renT (s : Nat → Nat) : T V → T V := T.rec .leaf (fun _ v _ l r => .node l (Option.rec none (fun x => some (renV s x)) v) r)
theorem renT_getP (s : Nat → Nat) (p : List Bool) : ∀ t : T V, T.getP p (renT s t) = (T.getP p t).map (renV s) := by
  induction p with
  | nil => intro t; cases t with
    | leaf => rfl
    | node l v r => cases v <;> rfl
  | cons b p ih => intro t; cases t with
    | leaf => rfl
    | node l v r =>
      show T.getP (b :: p) (.node (renT s l) _ (renT s r)) = _
      rw [T.getP_cons, T.getP_cons]
      cases b
      · exact ih l
      · exact ih r
theorem renT_get (s : Nat → Nat) (t : T V) (i : Nat) : (renT s t).get i = (t.get i).map (renV s) := renT_getP s _ t
noncomputable def renB (s : Nat → Nat) (k : Blk) : Blk := ⟨⟨k.cells.n, renL s k.cells.z, renT s k.cells.t⟩, k.minL, k.fz, k.ro, k.e⟩
structure MB (s : Nat → Nat) (k k' : Blk) : Prop where
  n : k'.cells.n = k.cells.n
  minL : k'.minL = k.minL
  fz : k'.fz = k.fz
  ro : k'.ro = k.ro
  e : k'.e = k.e
  get : ∀ j, k'.cells.get j = (k.cells.get j).map (renV s)
  obj : k.IsObj → k'.cells.z = renL s k.cells.z
theorem MB.isObj {s : Nat → Nat} {k k' : Blk} (h : MB s k k') : k'.IsObj ↔ k.IsObj := by
  unfold Blk.IsObj
  rw [h.n, h.minL]
theorem arr_ren {s : Nat → Nat} {a a' : Arr} (hn : a'.n = a.n) (hz : a'.z = renL s a.z) (ht : ∀ i, a'.t.get i = (a.t.get i).map (renV s)) (j : Nat) : a'.get j = (a.get j).map (renV s) := by
  rw [Arr.get_eq, Arr.get_eq, hn, ht, hz, renL_map]
  by_cases h : j < a.n
  · rw [if_pos h, if_pos h]
    cases a.t.get j with
    | none => simp
    | some v => rfl
  · rw [if_neg h, if_neg h]; rfl
theorem MB.ren (s : Nat → Nat) (k : Blk) : MB s k (renB s k) := ⟨rfl, rfl, rfl, rfl, rfl, arr_ren rfl rfl (renT_get s _), fun _ => rfl⟩
def sameO (s : Nat → Nat) : Option V → Option V → Bool
  | none, none => true
  | some a, some b => eqvV s a b
  | _, _ => false
theorem sameO_eq {s : Nat → Nat} {a b : Option V} (h : sameO s a b = true) : b = a.map (renV s) := by
  cases a <;> cases b <;> first | rfl | (cases h; done) | (rw [eqvV_eq _ _ h]; rfl)
def sameT (s : Nat → Nat) : T V → T V → Bool
  | .leaf, .leaf => true
  | .node l v r, .node l' v' r' => sameO s v v' && (sameT s l l' && sameT s r r')
  | _, _ => false
theorem sameT_get {s : Nat → Nat} : ∀ (x y : T V), sameT s x y = true → ∀ i, y.get i = (x.get i).map (renV s) := by
  have key : ∀ (x y : T V), sameT s x y = true → y = renT s x := by
    intro x
    induction x with
    | leaf => intro y h; cases y with
      | leaf => rfl
      | node => cases h
    | node l v r ihl ihr =>
      intro y h
      cases y with
      | leaf => cases h
      | node l' v' r' =>
        simp only [sameT, Bool.and_eq_true] at h
        rw [ihl l' h.2.1, ihr r' h.2.2, sameO_eq h.1]
        cases v <;> rfl
  intro x y h i
  rw [key x y h]
  exact renT_get s x i
noncomputable def sameC (s : Nat → Nat) (a a' : Arr) : Nat → Bool := Nat.rec true (fun j ih => Bool.rec false ih (sameO s (a.get j) (a'.get j)))
theorem sameC_spec {s : Nat → Nat} {a a' : Arr} : ∀ {n : Nat}, sameC s a a' n = true → ∀ j, j < n → a'.get j = (a.get j).map (renV s) := by
  intro n
  induction n with
  | zero => intro _ j hj; omega
  | succ n ih =>
    intro h j hj
    have e : sameC s a a' (n + 1) = Bool.rec (motive := fun _ => Bool) false (sameC s a a' n) (sameO s (a.get n) (a'.get n)) := rfl
    rw [e] at h
    cases hb : sameO s (a.get n) (a'.get n) with
    | false => rw [hb] at h; cases h
    | true =>
      rw [hb] at h
      by_cases hj' : j = n
      · subst hj'; exact sameO_eq hb
      · exact ih h j (by omega)
noncomputable def sameB (s : Nat → Nat) (k k' : Blk) : Bool :=
  Nat.beq k.cells.n k'.cells.n && (Nat.beq k.minL k'.minL && (Nat.beq k.fz k'.fz && (k.ro == k'.ro && (Nat.beq k.e k'.e &&
    (Bool.rec (Bool.rec (sameC s k.cells k'.cells k.cells.n) false (Nat.beq k.cells.n 0 && Nat.beq k.minL 2)) true (eqvL s k.cells.z k'.cells.z && sameT s k.cells.t k'.cells.t))))))
theorem sameB_spec {s : Nat → Nat} {k k' : Blk} (h : sameB s k k' = true) : MB s k k' := by
  unfold sameB at h
  simp only [Bool.and_eq_true, Nat.beq_eq, beq_iff_eq] at h
  obtain ⟨h1, h2, h3, h4, h5, h6⟩ := h
  cases hq : (eqvL s k.cells.z k'.cells.z && sameT s k.cells.t k'.cells.t) with
  | true =>
    rw [Bool.and_eq_true] at hq
    exact ⟨h1.symm, h2.symm, h3.symm, h4.symm, h5.symm, arr_ren h1.symm (eqvL_eq _ _ hq.1) (sameT_get _ _ hq.2), fun _ => eqvL_eq _ _ hq.1⟩
  | false =>
    rw [hq] at h6
    cases hn : (Nat.beq k.cells.n 0 && Nat.beq k.minL 2) with
    | true => rw [hn] at h6; cases h6
    | false =>
      rw [hn] at h6
      refine ⟨h1.symm, h2.symm, h3.symm, h4.symm, h5.symm, fun j => ?_, fun ho => ?_⟩
      · by_cases hj : j < k.cells.n
        · exact sameC_spec h6 j hj
        · rw [Arr.get_eq, Arr.get_eq, if_neg (by omega), if_neg hj]; rfl
      · unfold Blk.IsObj at ho
        rw [ho.1, ho.2] at hn
        cases hn
def belO (n : Nat) : Option V → Bool
  | none => true
  | some v => belV n v
noncomputable def belT (n : Nat) : T V → Bool := T.rec true (fun _ v _ l r => Bool.rec false (Bool.rec false r l) (belO n v))
theorem belT_get {n : Nat} {t : T V} (h : belT n t = true) (i : Nat) {v : V} (hv : t.get i = some v) : belV n v = true := by
  have key : ∀ (p : List Bool) (t : T V), belT n t = true → ∀ v, T.getP p t = some v → belV n v = true := by
    intro p
    induction p with
    | nil => intro t h v hv; cases t with
      | leaf => cases hv
      | node l w r =>
        have hv' : w = some v := hv
        subst hv'
        have e : belT n (.node l (some v) r) = Bool.rec (motive := fun _ => Bool) false (Bool.rec (motive := fun _ => Bool) false (belT n r) (belT n l)) (belV n v) := rfl
        rw [e] at h
        cases hb : belV n v with
        | true => rfl
        | false => rw [hb] at h; cases h
    | cons b p ih => intro t h v hv; cases t with
      | leaf => rw [T.getP_leaf] at hv; cases hv
      | node l w r =>
        have e : belT n (.node l w r) = Bool.rec (motive := fun _ => Bool) false (Bool.rec (motive := fun _ => Bool) false (belT n r) (belT n l)) (belO n w) := rfl
        rw [e] at h
        cases hb : belO n w with
        | false => rw [hb] at h; cases h
        | true =>
          rw [hb] at h
          cases hl : belT n l with
          | false => rw [hl] at h; cases h
          | true =>
            rw [hl] at h
            rw [T.getP_cons] at hv
            cases b
            · exact ih l hl v hv
            · exact ih r h v hv
  exact key _ t h v hv
noncomputable def belR (n : Nat) (a : Arr) : Bool := belL n a.z && belT n a.t
theorem belR_get {n : Nat} {a : Arr} (h : belR n a = true) {j : Nat} {v : V} (hv : a.get j = some v) : belV n v = true := by
  unfold belR at h
  rw [Bool.and_eq_true] at h
  rw [Arr.get_eq] at hv
  by_cases hj : j < a.n
  · rw [if_pos hj] at hv
    cases ht : a.t.get j with
    | none => rw [ht] at hv; exact belL_mem h.1 v (List.mem_of_getElem? hv)
    | some x => rw [ht] at hv; cases hv; exact belT_get h.2 j ht
  · rw [if_neg hj] at hv; cases hv
theorem MB.of_self {s : Nat → Nat} {k k1 k' : Blk} (a : MB (fun b => b) k k1) (h : MB s k k') : MB s k1 k' := by
  refine ⟨by rw [h.n, a.n], by rw [h.minL, a.minL], by rw [h.fz, a.fz], by rw [h.ro, a.ro], by rw [h.e, a.e], fun j => ?_, fun ho => ?_⟩
  · rw [h.get, a.get]
    cases k.cells.get j with
    | none => rfl
    | some v => show some _ = some (renV s (renV _ v)); rw [ren_self]
  · rw [h.obj (a.isObj.1 ho), a.obj (a.isObj.1 ho), renL_self]
def tagB (k : Blk) : Bool := Nat.beq k.e 0 || !(Nat.beq k.cells.n 0 && Nat.beq k.minL 2)
theorem tagB_spec {k : Blk} (h : tagB k = true) (ho : k.IsObj) : k.e = 0 := by
  unfold tagB at h
  unfold Blk.IsObj at ho
  rw [ho.1, ho.2] at h
  simpa using h
theorem MB.tag {s : Nat → Nat} {k k' : Blk} (h : MB s k k') (ht : tagB k = true) : tagB k' = true := by
  unfold tagB at ht ⊢
  rw [h.e, h.n, h.minL]
  exact ht
noncomputable def cutS (m : Nat) (c : Cut) : Bool :=
  Nat.ble m c.next && (belL c.next c.args && (c.needs.all (fun p => Nat.blt p.1 c.next && (belR c.next p.2.cells && tagB p.2)) && (c.tabs.all (fun p => Nat.blt p.1 m && belR m p.2) && c.outs.all (fun p => tagB p.2))))
noncomputable def nthN : List Nat → Nat → Nat := List.rec (fun _ => 0) (fun a _ ih i => Nat.rec a (fun i _ => ih i) i)
theorem nthN_eq : ∀ (l : List Nat) (i : Nat), nthN l i = l.getD i 0
  | [], i => by simp [nthN]
  | a :: l, 0 => rfl
  | a :: l, i + 1 => by
    show nthN l i = _
    rw [nthN_eq l i]; rfl
noncomputable def numF (m n : Nat) (sg : List Nat) (nx b : Nat) : Nat := bif Nat.blt b m then b else bif Nat.blt b n then nthN sg (Nat.sub b m) else Nat.add nx (Nat.sub b n)
noncomputable def lowF (s : Nat → Nat) (n : Nat) (l : List (Nat × Blk)) (low : Nat) : Nat := List.rec low (fun p _ ih => bif Nat.blt p.1 n then Nat.min ih (s p.1) else ih) l
def distinct : List Nat → Bool
  | [] => true
  | a :: l => !(l.any fun b => Nat.beq a b) && distinct l
noncomputable def needOK (s : Nat → Nat) (h : AH) (p : Nat × Blk) : Bool := Option.rec false (fun k => sameB s p.2 k) (h.get (s p.1))
noncomputable def needsOK (s : Nat → Nat) (h : AH) (l : List (Nat × Blk)) : Bool := List.rec true (fun p _ ih => Bool.rec false ih (needOK s h p)) l
noncomputable def endS (c : Cut) (r : Res) : Bool := Option.rec false (fun p => alikeV p.1 c.v && (Nat.beq p.2.next c.next' && (Nat.ble c.lw p.2.low && needsOK (fun b => b) p.2 c.outs))) r
noncomputable def memB (E : XEnv) (n : Nat) (c : Cut) (es : Nat → Nat) : Bool := Option.rec false (fun q => ((c.all es).all fun p => Nat.blt p.1 c.lw || (inL p.1 c.outs || needOK (fun b => b) q.2 p)) && endS c (some q)) (xFn E (xD E n) c.f c.args (c.h0 es))
theorem memB_spec {E : XEnv} {n : Nat} {c : Cut} {es : Nat → Nat} (h : memB E n c es = true) : endS c (xFn E (xD E n) c.f c.args (c.h0 es)) = true ∧ ∀ q, xFn E (xD E n) c.f c.args (c.h0 es) = some q → ((c.all es).all fun p => Nat.blt p.1 c.lw || (inL p.1 c.outs || needOK (fun b => b) q.2 p)) = true := by
  unfold memB at h
  cases hx : xFn E (xD E n) c.f c.args (c.h0 es) with
  | none => rw [hx] at h; cases h
  | some q =>
    rw [hx] at h
    have h' : (((c.all es).all fun p => Nat.blt p.1 c.lw || (inL p.1 c.outs || needOK (fun b => b) q.2 p)) && endS c (some q)) = true := h
    rw [Bool.and_eq_true] at h'
    exact ⟨h'.2, fun q' hq => by cases hq; exact h'.1⟩
noncomputable def renO (s : Nat → Nat) (l : List (Nat × Blk)) : List (Nat × Blk) := List.rec [] (fun p _ ih => (s p.1, renB s p.2) :: ih) l
noncomputable def memoS (m : Nat) (c : Cut) (sg : List Nat) (args : List V) (h : AH) : Option (V × AH) :=
  (fun s => Bool.rec none (some (renV s c.v, ⟨Nat.add h.next (Nat.sub c.next' c.next), lowF s c.next c.outs h.low, setsB (renO s c.outs) h.m⟩))
    (eqvL s c.args args && (Nat.beq sg.length (Nat.sub c.next m) && (distinct sg && (sg.all (fun b => Nat.ble m b && Nat.blt b h.next) && (Nat.ble m h.next && (needsOK s h c.needs && allR h c.tabs)))))))
  (numF m c.next sg h.next)
section
variable {m : Nat} {c : Cut} {sg : List Nat} {nx : Nat}
theorem numF_lo {b : Nat} (hb : b < m) : numF m c.next sg nx b = b := by
  unfold numF; rw [Arr.blt_eq, decide_eq_true hb]; rfl
theorem numF_mid {b : Nat} (h1 : m ≤ b) (h2 : b < c.next) : numF m c.next sg nx b = sg.getD (b - m) 0 := by
  unfold numF
  rw [Arr.blt_eq, Arr.blt_eq, decide_eq_false (by omega), decide_eq_true h2]
  exact nthN_eq _ _
theorem numF_hi {b : Nat} (h0 : m ≤ c.next) (h1 : c.next ≤ b) : numF m c.next sg nx b = nx + (b - c.next) := by
  unfold numF
  rw [Arr.blt_eq, Arr.blt_eq, decide_eq_false (by omega), decide_eq_false (by omega)]
  rfl
theorem distinct_inj : ∀ {l : List Nat}, distinct l = true → ∀ i j, i < l.length → j < l.length → l.getD i 0 = l.getD j 0 → i = j := by
  intro l
  induction l with
  | nil => intro _ i j hi; cases hi
  | cons a l ih =>
    intro h i j hi hj he
    simp only [distinct, Bool.and_eq_true, Bool.not_eq_true', List.any_eq_false, Nat.beq_eq] at h
    obtain ⟨h1, h2⟩ := h
    cases i with
    | zero =>
      cases j with
      | zero => rfl
      | succ j =>
        exfalso
        simp only [List.getD_cons_zero, List.getD_cons_succ] at he
        simp only [List.length_cons] at hj
        exact h1 _ (List.getElem_mem (show j < l.length by omega)) (by rw [he]; simp [show j < l.length by omega])
    | succ i =>
      cases j with
      | zero =>
        exfalso
        simp only [List.getD_cons_zero, List.getD_cons_succ] at he
        simp only [List.length_cons] at hi
        exact h1 _ (List.getElem_mem (show i < l.length by omega)) (by rw [← he]; simp [show i < l.length by omega])
      | succ j =>
        simp only [List.getD_cons_succ] at he
        simp only [List.length_cons] at hi hj
        rw [ih h2 i j (by omega) (by omega) he]
structure NumOK (m n : Nat) (nx : Nat) (s : Nat → Nat) : Prop where
  le : m ≤ n
  nxle : m ≤ nx
  lo : ∀ b, b < m → s b = b
  mid : ∀ b, m ≤ b → b < n → m ≤ s b ∧ s b < nx
  hi : ∀ b, n ≤ b → s b = nx + (b - n)
  inj : ∀ a b, s a = s b → a = b
theorem numOK (h0 : m ≤ c.next) (h1 : sg.length = c.next - m) (h2 : distinct sg = true) (h3 : ∀ b ∈ sg, m ≤ b ∧ b < nx) (h4 : m ≤ nx) : NumOK m c.next nx (numF m c.next sg nx) := by
  have mid : ∀ b, m ≤ b → b < c.next → m ≤ numF m c.next sg nx b ∧ numF m c.next sg nx b < nx := fun b ha hb => by
    rw [numF_mid ha hb]
    have hlt : b - m < sg.length := by omega
    have : sg.getD (b - m) 0 = sg[b - m] := by simp [hlt]
    rw [this]
    exact h3 _ (List.getElem_mem hlt)
  refine ⟨h0, h4, fun b => numF_lo, mid, fun b => numF_hi h0, fun a b he => ?_⟩
  by_cases ha : a < m
  · rw [numF_lo ha] at he
    by_cases hb : b < m
    · rwa [numF_lo hb] at he
    · by_cases hb2 : b < c.next
      · have := mid b (by omega) hb2; omega
      · rw [numF_hi h0 (by omega)] at he; omega
  · by_cases ha2 : a < c.next
    · have hm := mid a (by omega) ha2
      by_cases hb : b < m
      · rw [numF_lo hb] at he; omega
      · by_cases hb2 : b < c.next
        · rw [numF_mid (by omega) ha2, numF_mid (by omega) hb2] at he
          have := distinct_inj h2 (a - m) (b - m) (by omega) (by omega) he
          omega
        · rw [numF_hi h0 (show c.next ≤ b by omega)] at he; omega
    · rw [numF_hi h0 (show c.next ≤ a by omega)] at he
      by_cases hb : b < m
      · rw [numF_lo hb] at he; omega
      · by_cases hb2 : b < c.next
        · have := mid b (by omega) hb2; omega
        · rw [numF_hi h0 (show c.next ≤ b by omega)] at he; omega
end
theorem lowF_le (s : Nat → Nat) (n : Nat) (l : List (Nat × Blk)) (low : Nat) : lowF s n l low ≤ low ∧ ∀ p ∈ l, p.1 < n → lowF s n l low ≤ s p.1 := by
  induction l with
  | nil => exact ⟨Nat.le_refl _, fun p hp => by cases hp⟩
  | cons q l ih =>
    have e : lowF s n (q :: l) low = bif Nat.blt q.1 n then Nat.min (lowF s n l low) (s q.1) else lowF s n l low := rfl
    rw [e, Arr.blt_eq]
    by_cases hq : q.1 < n
    · rw [decide_eq_true hq]
      refine ⟨Nat.le_trans (Nat.min_le_left _ _) ih.1, fun p hp hlt => ?_⟩
      rcases List.mem_cons.1 hp with rfl | hp
      · exact Nat.min_le_right _ _
      · exact Nat.le_trans (Nat.min_le_left _ _) (ih.2 p hp hlt)
    · rw [decide_eq_false hq]
      refine ⟨ih.1, fun p hp hlt => ?_⟩
      rcases List.mem_cons.1 hp with rfl | hp
      · exact absurd hlt hq
      · exact ih.2 p hp hlt
theorem needsOK_spec {s : Nat → Nat} {h : AH} : ∀ {l : List (Nat × Blk)}, needsOK s h l = true → ∀ p ∈ l, ∃ k, h.get (s p.1) = some k ∧ MB s p.2 k := by
  intro l
  induction l with
  | nil => intro _ p hp; cases hp
  | cons q l ih =>
    intro hl p hp
    have e : needsOK s h (q :: l) = Bool.rec (motive := fun _ => Bool) false (needsOK s h l) (needOK s h q) := rfl
    rw [e] at hl
    cases hq : needOK s h q with
    | false => rw [hq] at hl; cases hl
    | true =>
      rw [hq] at hl
      rcases List.mem_cons.1 hp with rfl | hp
      · unfold needOK at hq
        cases hg : h.get (s p.1) with
        | none => rw [hg] at hq; cases hq
        | some k => rw [hg] at hq; exact ⟨k, rfl, sameB_spec hq⟩
      · exact ih hl p hp
theorem renO_mem {s : Nat → Nat} : ∀ {l : List (Nat × Blk)} {b : Nat} {k : Blk}, (b, k) ∈ renO s l → ∃ b0 k0, (b0, k0) ∈ l ∧ b = s b0 ∧ k = renB s k0 := by
  intro l
  induction l with
  | nil => intro b k h; cases h
  | cons p l ih =>
    intro b k h
    have e : renO s (p :: l) = (s p.1, renB s p.2) :: renO s l := rfl
    rw [e] at h
    rcases List.mem_cons.1 h with h | h
    · cases h; exact ⟨p.1, p.2, by simp, rfl, rfl⟩
    · obtain ⟨b0, k0, h1, h2⟩ := ih h
      exact ⟨b0, k0, by simp [h1], h2⟩
theorem renO_in {s : Nat → Nat} : ∀ {l : List (Nat × Blk)} {b : Nat} {k : Blk}, (b, k) ∈ l → inL (s b) (renO s l) = true := by
  intro l
  induction l with
  | nil => intro b k h; cases h
  | cons p l ih =>
    intro b k h
    have e : renO s (p :: l) = (s p.1, renB s p.2) :: renO s l := rfl
    rw [e]
    unfold inL
    rw [List.any_cons]
    rcases List.mem_cons.1 h with h | h
    · cases h; simp
    · rw [show (renO s l).any (fun p => Nat.beq p.1 (s b)) = true from ih h, Bool.or_true]
theorem ObjOK.ren {s : Nat → Nat} {ρ ρ' : Rho} (hs : ∀ b L x, ρ b L = some x → ρ' (s b) L = some x) {data : List V} {o : Option Obj} (h : ObjOK ρ 0 data o) : ObjOK ρ' 0 (renL s data) o := by
  obtain ⟨es, clock, h1, h2⟩ := h
  exact ⟨es, clock, h1, RL_ren hs h2⟩
theorem ObjOK.unren {s : Nat → Nat} {n : Nat} {ρ ρ' : Rho} (hs : ∀ b L x, b < n → ρ' (s b) L = some x → ρ b L = some x) {data : List V} (hb : belL n data = true) {o : Option Obj} (h : ObjOK ρ' 0 (renL s data) o) : ObjOK ρ 0 data o := by
  obtain ⟨es, clock, h1, h2⟩ := h
  exact ⟨es, clock, h1, RL_unren hs hb h2⟩
structure MemoFacts (E : XEnv) (n m : Nat) (c : Cut) (args : List V) (h : AH) (v : V) (h' : AH) (s : Nat → Nat) (hc h1 : AH) : Prop where
  num : NumOK m c.next h.next s
  args : args = renL s c.args
  bel : belL c.next c.args = true
  v : v = renV s c.v
  run : xFn E (xD E n) c.f c.args hc = some (c.v, h1)
  nextc : hc.next = c.next
  next : h'.next = h.next + (c.next' - c.next)
  next1 : h1.next = c.next'
  low : h'.low ≤ h.low
  step : AStep hc h1
  known : ∀ b k, hc.get b = some k → b < c.next ∧ tagB k = true ∧ belR c.next k.cells = true ∧ ∃ k', h.get (s b) = some k' ∧ MB s k k'
  got : ∀ b k', h'.get b = some k' → (∃ bc kc, b = s bc ∧ h1.get bc = some kc ∧ tagB kc = true ∧ MB s kc k') ∨ (h.get b = some k' ∧ ∀ bc, s bc = b → hc.get bc = none)
  kept : ∀ b, b < h.next → h'.get b = h.get b ∨ ∃ bc, b = s bc ∧ bc < c.next ∧ h'.low ≤ b ∧ (h1.get bc).isSome = true
theorem belR_mono {m n : Nat} (hmn : m ≤ n) {a : Arr} (h : belR m a = true) : belR n a = true := by
  have hv : (∀ v : V, belV m v = true → belV n v = true) ∧ (∀ l : List V, belL m l = true → belL n l = true) := by
    constructor
    · intro v
      refine V.rec (motive_1 := fun v => belV m v = true → belV n v = true) (motive_2 := fun l => belL m l = true → belL n l = true) ?_ ?_ ?_ ?_ ?_ ?_ ?_ ?_ ?_ ?_ ?_ ?_ ?_ ?_ ?_ ?_ ?_ ?_ ?_ ?_ ?_ ?_ ?_ v
      all_goals first
        | (intros; rfl)
        | (intro a h; exact (by rw [Arr.blt_eq]; exact decide_eq_true (Nat.lt_of_lt_of_le (blt_lt h) hmn) : Nat.blt _ n = true))
        | (intro a _ _ _ _ h; exact (by rw [Arr.blt_eq]; exact decide_eq_true (Nat.lt_of_lt_of_le (blt_lt h) hmn) : Nat.blt _ n = true))
        | (intro f x y ihx ihy h; exact Bool.and_eq_true_iff.2 ⟨ihx (Bool.and_eq_true_iff.1 h).1, ihy (Bool.and_eq_true_iff.1 h).2⟩)
        | (intro t v ih h; exact ih h)
        | (intro x ih h; exact ih h)
        | (intro x l ih1 ih2 h; exact Bool.and_eq_true_iff.2 ⟨ih1 (Bool.and_eq_true_iff.1 h).1, ih2 (Bool.and_eq_true_iff.1 h).2⟩)
    · intro l
      refine V.rec_1 (motive_1 := fun v => belV m v = true → belV n v = true) (motive_2 := fun l => belL m l = true → belL n l = true) ?_ ?_ ?_ ?_ ?_ ?_ ?_ ?_ ?_ ?_ ?_ ?_ ?_ ?_ ?_ ?_ ?_ ?_ ?_ ?_ ?_ ?_ ?_ l
      all_goals first
        | (intros; rfl)
        | (intro a h; exact (by rw [Arr.blt_eq]; exact decide_eq_true (Nat.lt_of_lt_of_le (blt_lt h) hmn) : Nat.blt _ n = true))
        | (intro a _ _ _ _ h; exact (by rw [Arr.blt_eq]; exact decide_eq_true (Nat.lt_of_lt_of_le (blt_lt h) hmn) : Nat.blt _ n = true))
        | (intro f x y ihx ihy h; exact Bool.and_eq_true_iff.2 ⟨ihx (Bool.and_eq_true_iff.1 h).1, ihy (Bool.and_eq_true_iff.1 h).2⟩)
        | (intro t v ih h; exact ih h)
        | (intro x ih h; exact ih h)
        | (intro x l ih1 ih2 h; exact Bool.and_eq_true_iff.2 ⟨ih1 (Bool.and_eq_true_iff.1 h).1, ih2 (Bool.and_eq_true_iff.1 h).2⟩)
  have ht : ∀ t : T V, belT m t = true → belT n t = true := by
    intro t
    induction t with
    | leaf => intro _; rfl
    | node l w r ihl ihr =>
      intro h
      have e : ∀ k, belT k (.node l w r) = Bool.rec (motive := fun _ => Bool) false (Bool.rec (motive := fun _ => Bool) false (belT k r) (belT k l)) (belO k w) := fun _ => rfl
      rw [e] at h ⊢
      cases hb : belO m w with
      | false => rw [hb] at h; cases h
      | true =>
        rw [hb] at h
        cases hl : belT m l with
        | false => rw [hl] at h; cases h
        | true =>
          rw [hl] at h
          rw [ihl hl, show belO n w = true from by cases w with
            | none => rfl
            | some x => exact hv.1 x hb]
          exact ihr h
  unfold belR at h ⊢
  rw [Bool.and_eq_true] at h ⊢
  exact ⟨hv.2 _ h.1, ht _ h.2⟩
theorem belR_ren {s : Nat → Nat} {m : Nat} (hs : ∀ b, b < m → s b = b) {k : Blk} (h : belR m k.cells = true) : MB s k k := by
  refine ⟨rfl, rfl, rfl, rfl, rfl, fun j => ?_, fun _ => ?_⟩
  · cases hg : k.cells.get j with
    | none => rfl
    | some v => rw [Option.map_some, ren_id hs v (belR_get h hg)]
  · unfold belR at h
    rw [Bool.and_eq_true] at h
    exact (renL_id hs _ h.1).symm
theorem memo_facts {E : XEnv} (ok : E.OK) {n m : Nat} {c : Cut} {sg : List Nat} (hS : cutS m c = true) (hc : ∀ es, memB E n c es = true) {args : List V} {h h' : AH} {v : V} (hs : memoS m c sg args h = some (v, h')) :
    ∃ s h1, MemoFacts E n m c args h v h' s (c.h0 (esOf h)) h1 := by
  obtain ⟨hend, hneed⟩ := memB_spec (hc (esOf h))
  unfold endS at hend
  unfold cutS at hS
  simp only [Bool.and_eq_true, List.all_eq_true] at hS
  obtain ⟨s1, s2, s3, s4, s5⟩ := hS
  have s1 : m ≤ c.next := Nat.le_of_ble_eq_true s1
  cases hx : xFn E (xD E n) c.f c.args (c.h0 (esOf h)) with
  | none => rw [hx] at hend; cases hend
  | some p =>
    obtain ⟨v1, h1⟩ := p
    rw [hx] at hend
    simp only [Bool.and_eq_true, Nat.beq_eq] at hend
    obtain ⟨e1, e2, e3, e4⟩ := hend
    have e1 := alikeV_eq _ _ e1
    subst e1
    have hle : c.lw ≤ h1.low := Nat.le_of_ble_eq_true e3
    unfold memoS at hs
    revert hs
    generalize hsE : numF m c.next sg h.next = s
    intro hs
    simp only at hs
    cases hb : (eqvL s c.args args && (Nat.beq sg.length (Nat.sub c.next m) && (distinct sg && (sg.all (fun b => Nat.ble m b && Nat.blt b h.next) && (Nat.ble m h.next && (needsOK s h c.needs && allR h c.tabs)))))) with
    | false => rw [hb] at hs; cases hs
    | true =>
      rw [hb] at hs
      cases hs
      simp only [Bool.and_eq_true, Nat.beq_eq, List.all_eq_true] at hb
      obtain ⟨b1, b2, b3, b4, b5, b6, b7⟩ := hb
      have hN : NumOK m c.next h.next s := hsE ▸ numOK s1 b2 b3 (fun b hb => ⟨Nat.le_of_ble_eq_true (b4 b hb).1, blt_lt (b4 b hb).2⟩) (Nat.le_of_ble_eq_true b5)
      have hA : AStep (c.h0 (esOf h)) h1 := xFn_astep ok (xD_ok ok n) hx
      have hout : ∀ b k, (b, k) ∈ c.outs → ∃ k1, h1.get b = some k1 ∧ MB (fun b => b) k k1 := fun b k hm => needsOK_spec e4 _ hm
      have h0get : ∀ b k, (c.h0 (esOf h)).get b = some k → (b, k) ∈ c.all (esOf h) := by
        intro b k hk
        rcases setsB_get (c.all (esOf h)) .leaf b with ⟨k', g1, g2⟩ | ⟨g1, g2⟩
        · have : (c.h0 (esOf h)).get b = some k' := g2
          rw [hk] at this
          cases this
          exact g1
        · have : (c.h0 (esOf h)).get b = none := g2.trans (T.get_leaf b)
          rw [hk] at this; cases this
      have known : ∀ b k, (c.h0 (esOf h)).get b = some k → b < c.next ∧ tagB k = true ∧ belR c.next k.cells = true ∧ ∃ k', h.get (s b) = some k' ∧ MB s k k' := by
        intro b k hk
        have hm := h0get b k hk
        unfold Cut.all at hm
        rcases List.mem_append.1 hm with hm | hm
        · obtain ⟨q1, q2, q3⟩ := s3 _ hm
          exact ⟨blt_lt q1, q3, q2, needsOK_spec b6 _ hm⟩
        · obtain ⟨p, p1, p2⟩ := List.mem_map.1 hm
          cases p2
          obtain ⟨q1, q2⟩ := s4 p p1
          refine ⟨Nat.lt_of_lt_of_le (blt_lt q1) s1, ?_, belR_mono s1 q2, _, (by rw [hN.lo _ (blt_lt q1)]; exact allR_spec b7 p p1), belR_ren (k := ⟨p.2, 0, 0, true, esOf h p.1⟩) hN.lo q2⟩
          simp [tagB]
          exact .inr (.inr rfl)
      have got0 : ∀ b k', (⟨Nat.add h.next (Nat.sub c.next' c.next), lowF s c.next c.outs h.low, setsB (renO s c.outs) h.m⟩ : AH).get b = some k' → (∃ bc kc, (bc, kc) ∈ c.outs ∧ b = s bc ∧ k' = renB s kc) ∨ (inL b (renO s c.outs) = false ∧ h.get b = some k') := by
        intro b k' hk
        rcases setsB_get (renO s c.outs) h.m b with ⟨k, g1, g2⟩ | ⟨g1, g2⟩
        · have : some k = some k' := g2.symm.trans hk
          cases this
          obtain ⟨b0, k0, r1, r2, r3⟩ := renO_mem g1
          exact .inl ⟨b0, k0, r1, r2, r3⟩
        · exact .inr ⟨g1, g2.symm.trans hk⟩
      refine ⟨s, h1, hN, eqvL_eq _ _ b1, s2, rfl, hx, rfl, rfl, e2, (lowF_le s c.next c.outs h.low).1, hA, known, ?_, ?_⟩
      · intro b k' hk
        rcases got0 b k' hk with ⟨bc, kc, g1, g2, g3⟩ | ⟨g1, g2⟩
        · subst g3
          obtain ⟨k1, r1, r2⟩ := hout _ _ g1
          exact .inl ⟨bc, k1, g2, r1, r2.tag (s5 _ g1), r2.of_self (MB.ren s kc)⟩
        · cases Classical.em (∃ bc, s bc = b ∧ (c.h0 (esOf h)).get bc ≠ none) with
          | inr hno => exact .inr ⟨g2, fun bc hbc => Classical.byContradiction fun hne => hno ⟨bc, hbc, hne⟩⟩
          | inl hyes =>
            obtain ⟨bc, hbc, hne⟩ := hyes
            subst hbc
            obtain ⟨kc, hkc⟩ := Option.ne_none_iff_exists'.1 hne
            obtain ⟨k1, k2, k3, k4, k5, k6⟩ := known bc kc hkc
            rw [g2] at k5
            cases k5
            have hq := (List.all_eq_true.1 (hneed _ hx)) _ (h0get bc kc hkc)
            rw [Bool.or_eq_true, Bool.or_eq_true] at hq
            rcases hq with hq | hq | hq
            · refine .inl ⟨bc, kc, rfl, ?_, k2, k6⟩
              rw [hA.quiet bc (Nat.lt_of_lt_of_le (blt_lt hq) hle) k1]
              exact hkc
            · obtain ⟨k0, hk0⟩ := inL_mem hq
              rw [renO_in hk0] at g1
              cases g1
            · unfold needOK at hq
              cases hh : h1.get bc with
              | none => simp only [hh] at hq; cases hq
              | some k1' =>
                simp only [hh] at hq
                have hmb := sameB_spec hq
                exact .inl ⟨bc, k1', rfl, hh, hmb.tag k2, hmb.of_self k6⟩
      · intro b hb
        rcases setsB_get (renO s c.outs) h.m b with ⟨k, g1, g2⟩ | ⟨g1, g2⟩
        · obtain ⟨b0, k0, r1, rfl, r3⟩ := renO_mem g1
          have hlt : b0 < c.next := by
            cases Nat.lt_or_ge b0 c.next with
            | inl h => exact h
            | inr h => rw [hN.hi b0 h] at hb; omega
          obtain ⟨k1, r4, _⟩ := hout _ _ r1
          exact .inr ⟨b0, rfl, hlt, (lowF_le s c.next c.outs h.low).2 _ r1 hlt, by rw [r4]; rfl⟩
        · exact .inl g2
theorem memoS_astep {E : XEnv} (ok : E.OK) {n m : Nat} {c : Cut} {sg : List Nat} (hS : cutS m c = true) (hc : ∀ es, memB E n c es = true) {args : List V} {h h' : AH} {v : V} (hs : memoS m c sg args h = some (v, h')) : AStep h h' := by
  obtain ⟨s, h1, F⟩ := memo_facts ok hS hc hs
  refine ⟨by rw [F.next]; omega, F.low, ?_, ?_⟩
  · intro b hb hn
    rcases F.kept b hn with g | ⟨bc, rfl, g1, g2, g3⟩
    · exact g
    · omega
  · intro b hb hn
    rcases F.kept b hb with g | ⟨bc, rfl, g1, g2, g3⟩
    · rw [g]; exact hn
    · exfalso
      cases hq : (c.h0 (esOf h)).get bc with
      | none => rw [F.step.none bc g1 hq] at g3; cases g3
      | some k =>
        obtain ⟨_, _, _, k', h2, _⟩ := F.known bc k hq
        rw [hn] at h2; cases h2
open Classical in
theorem memoS_sound {E : XEnv} (ok : E.OK) {n m : Nat} (hgm : ∀ g L, E.G g = some L → g < m) {c : Cut} {sg : List Nat} (hS : cutS m c = true) (hc : ∀ es, memB E n c es = true) {ρ : Rho} {h h' : AH} {w : World} {args : List V} {args' : List Value} {v : V} (hg : GOK E.c0 ρ) (hr : HR ρ h w) (hR : RL ρ args args') (hs : memoS m c sg args h = some (v, h')) :
    Calls E.P c.f args'.toArray w fun e w' => ∃ u ρ', e = .returned u ∧ R ρ' v u ∧ HR ρ' h' w' ∧ Step ρ h w ρ' h' w' := by
  obtain ⟨s, h1, F⟩ := memo_facts ok hS hc hs
  generalize c.h0 (esOf h) = hc at F
  have hN := F.num
  have bnd : ∀ bc, s bc < h.next → bc < c.next := fun bc hb => by
    cases Nat.lt_or_ge bc c.next with
    | inl h => exact h
    | inr h => rw [hN.hi bc h] at hb; omega
  have bnd2 : ∀ bc, bc < c.next → s bc < h.next := fun bc hb => by
    cases Nat.lt_or_ge bc m with
    | inl h => rw [hN.lo bc h]; exact Nat.lt_of_lt_of_le h hN.nxle
    | inr h => exact (hN.mid bc h hb).2
  have out : ∀ b, (∀ bc, s bc ≠ b) → b < h.next := fun b hb => by
    cases Nat.lt_or_ge b h.next with
    | inl h => exact h
    | inr hge => exact absurd (by rw [hN.hi _ (Nat.le_add_left _ _)]; omega) (hb ((b - h.next) + c.next))
  let ρc : Rho := fun b L => if b < c.next then ρ (s b) L else none
  have q1 : ∀ b L, b < c.next → ρc b L = ρ (s b) L := fun b L hb => if_pos hb
  have q2 : ∀ b L x, ρc b L = some x → b < c.next ∧ ρ (s b) L = some x := fun b L x hx => by
    by_cases hb : b < c.next
    · exact ⟨hb, by rw [← q1 b L hb]; exact hx⟩
    · rw [show ρc b L = none from if_neg hb] at hx; cases hx
  have q3 : ∀ b L x, b < c.next → ρ (s b) L = some x → ρc b L = some x := fun b L x hb hx => by rw [q1 b L hb]; exact hx
  have hrc : HR ρc hc w := by
    refine ⟨fun b L x hx => by rw [F.nextc]; exact (q2 b L x hx).1, fun b k hk => by rw [F.nextc]; exact (F.known b k hk).1, fun b L cb x hx => hr.bound _ _ _ _ (q2 b L _ hx).2, ?_, ?_, ?_, ?_⟩
    · intro b L b' L' cb x x' k h1 h2 hk hro
      obtain ⟨_, _, _, k', k1, k2⟩ := F.known b k hk
      obtain ⟨e1, e2⟩ := hr.inj _ _ _ _ _ _ _ _ (q2 _ _ _ h1).2 (q2 _ _ _ h2).2 k1 (by rw [k2.ro]; exact hro)
      exact ⟨hN.inj _ _ e1, e2⟩
    · intro b k L x hk hx
      obtain ⟨_, _, _, k', k1, k2⟩ := F.known b k hk
      rw [← k2.n]
      exact hr.top _ _ _ _ k1 (q2 _ _ _ hx).2
    · intro b k L cb sh S hk hx hm
      obtain ⟨_, _, kb, k', k1, k2⟩ := F.known b k hk
      obtain ⟨cs, lo, hi, r1, r2, r3, r4, r5⟩ := hr.blk _ _ _ _ _ _ k1 (q2 _ _ _ hx).2 (by rw [k2.minL]; exact hm)
      refine ⟨cs, lo, hi, by rw [← k2.e]; exact r1, r2, r3, fun j v hj hL hv => ?_, fun hro => by rw [← k2.fz]; exact r5 (by rw [k2.ro]; exact hro)⟩
      obtain ⟨u, hu, hRu⟩ := r4 j (renV s v) hj hL (by rw [k2.get, hv]; rfl)
      exact ⟨u, hu, R_unren q3 (belR_get kb hv) hRu⟩
    · intro b k hk ho
      obtain ⟨kn, kt, kb, k', k1, k2⟩ := F.known b k hk
      obtain ⟨hro, cb, S, h2, h3⟩ := hr.obj _ _ k1 (k2.isObj.2 ho)
      refine ⟨by rw [← k2.ro]; exact hro, cb, S, q3 _ _ _ kn h2, ?_⟩
      rw [k2.e, k2.obj ho, tagB_spec kt ho] at h3
      rw [tagB_spec kt ho]
      unfold belR at kb
      rw [Bool.and_eq_true] at kb
      exact h3.unren q3 kb.1
  have hgc : GOK E.c0 ρc := by
    intro g L hL
    obtain ⟨S, hS⟩ := hg g L hL
    have hlt := hgm g L hL
    exact ⟨S, q3 _ _ _ (Nat.lt_of_lt_of_le hlt hN.le) (by rw [hN.lo g hlt]; exact hS)⟩
  have hRc : RL ρc c.args args' := RL_unren q3 F.bel (F.args ▸ hR)
  refine (xFn_sound ok (xD_ok ok n) hgc hrc hRc F.run).mono ?_
  rintro e w' ⟨u, ρ2, he, g1, g2, g3⟩
  let ρ' : Rho := fun b L => if hb : ∃ bc, s bc = b then ρ2 (Classical.choose hb) L else ρ b L
  have p1 : ∀ bc L, ρ' (s bc) L = ρ2 bc L := fun bc L => by
    have hb : ∃ x, s x = s bc := ⟨bc, rfl⟩
    show (if hb : ∃ x, s x = s bc then ρ2 (Classical.choose hb) L else ρ (s bc) L) = _
    rw [dif_pos hb, hN.inj _ _ (Classical.choose_spec hb)]
  have p2 : ∀ b L, (∀ bc, s bc ≠ b) → ρ' b L = ρ b L := fun b L hb => dif_neg fun ⟨bc, h⟩ => hb bc h
  have img : ∀ b, (∃ bc, b = s bc) ∨ (∀ bc, s bc ≠ b) := fun b => by
    by_cases hb : ∃ bc, b = s bc
    · exact .inl hb
    · exact .inr fun bc e => hb ⟨bc, e.symm⟩
  have fwd : ∀ b L x, ρ2 b L = some x → ρ' (s b) L = some x := fun b L x hx => (p1 b L).trans hx
  have old : ∀ bc L cb x, ρ2 bc L = some (cb, x) → cb < w.heap.size → bc < c.next ∧ ∃ L0 x0, ρ (s bc) L0 = some (cb, x0) := fun bc L cb x hx hlt => by
    obtain ⟨L0, x0, h0⟩ := g3.cons _ _ _ _ hx hlt
    exact ⟨(q2 _ _ _ h0).1, L0, x0, (q2 _ _ _ h0).2⟩
  have abs2 : ∀ bc, bc < c.next → hc.get bc = none → h1.get bc = none ∧ ∀ L x, ρ2 bc L = some x → ρ (s bc) L = some x := fun bc hb hn => by
    obtain ⟨a1, a2⟩ := g3.abs bc (by rw [F.nextc]; exact hb) hn
    exact ⟨a1, fun L x hx => (q2 _ _ _ (a2 L x hx)).2⟩
  have hB : ∀ b k L x, h.get b = some k → (∀ bc, s bc = b → hc.get bc = none) → ρ' b L = some x → ρ b L = some x := fun b k L x hk hn hx => by
    rcases img b with ⟨bc, rfl⟩ | hno
    · rw [p1] at hx
      exact (abs2 bc (bnd bc (hr.lives _ _ hk)) (hn bc rfl)).2 L x hx
    · rwa [p2 b L hno] at hx
  have own : ∀ i, Owned ρc hc i → ∃ b L x k bc, ρ b L = some (i, x) ∧ h.get b = some k ∧ k.ro = false ∧ b = s bc ∧ hc.get bc ≠ none := by
    rintro i ⟨b2, L2, x2, k2, h3, h4, h5⟩
    obtain ⟨_, _, _, k', k1, k3⟩ := F.known b2 k2 h4
    exact ⟨s b2, L2, x2, k', b2, (q2 _ _ _ h3).2, k1, by rw [k3.ro]; exact h5, rfl, by rw [h4]; simp⟩
  have hBheap : ∀ b k L cb x, h.get b = some k → (∀ bc, s bc = b → hc.get bc = none) → ρ b L = some (cb, x) → w'.heap[cb]? = w.heap[cb]? := fun b k L cb x hk hn hx => by
    refine g3.keep cb (hr.bound _ _ _ _ hx) fun ho => ?_
    obtain ⟨b2, L2, x2, k2, bc, h3, h4, h5, h6, h7⟩ := own cb ho
    obtain ⟨e1, _⟩ := hr.inj _ _ _ _ _ _ _ _ h3 hx h4 h5
    exact h7 (hn bc (by rw [← h6, e1]))
  have knownRo : ∀ bc kc, h1.get bc = some kc → bc < c.next → ∃ k0, h.get (s bc) = some k0 ∧ k0.ro = kc.ro := fun bc kc hk hb => by
    obtain ⟨k0, a1, a2⟩ := g3.ro bc kc hk (by rw [F.nextc]; exact hb)
    obtain ⟨_, _, _, k', k1, k2⟩ := F.known bc k0 a1
    exact ⟨k', k1, by rw [k2.ro, a2]⟩
  have hle : c.next ≤ c.next' := by
    have := F.step.next
    rw [F.nextc, F.next1] at this
    exact this
  have upto : ∀ bc, bc < c.next' → s bc < h'.next := fun bc hb => by
    rw [F.next]
    cases Nat.lt_or_ge bc c.next with
    | inl hlt => exact Nat.lt_of_lt_of_le (bnd2 bc hlt) (Nat.le_add_right _ _)
    | inr hge => rw [hN.hi bc hge]; omega
  have hr' : HR ρ' h' w' := by
    refine ⟨?_, ?_, ?_, ?_, ?_, ?_, ?_⟩
    · intro b L x hx
      rcases img b with ⟨bc, rfl⟩ | hno
      · rw [p1] at hx
        exact upto bc (by rw [← F.next1]; exact g2.fresh _ _ _ hx)
      · rw [F.next]; exact Nat.lt_of_lt_of_le (out b hno) (Nat.le_add_right _ _)
    · intro b k hk
      rcases F.got b k hk with ⟨bc, kc, rfl, a1, _, _⟩ | ⟨a1, _⟩
      · exact upto bc (by rw [← F.next1]; exact g2.lives _ _ a1)
      · rw [F.next]; exact Nat.lt_of_lt_of_le (hr.lives _ _ a1) (Nat.le_add_right _ _)
    · intro b L cb x hx
      rcases img b with ⟨bc, rfl⟩ | hno
      · rw [p1] at hx; exact g2.bound _ _ _ _ hx
      · rw [p2 b L hno] at hx; exact Nat.lt_of_lt_of_le (hr.bound _ _ _ _ hx) g3.size
    · intro b L b' L' cb x x' k hx hx' hk hro
      rcases F.got b k hk with ⟨bc, kc, rfl, a1, _, a3⟩ | ⟨a1, a2⟩
      · rw [p1] at hx
        have hro' : kc.ro = false := by rw [← a3.ro]; exact hro
        rcases img b' with ⟨bc', rfl⟩ | hno
        · rw [p1] at hx'
          obtain ⟨e1, e2⟩ := g2.inj _ _ _ _ _ _ _ _ hx hx' a1 hro'
          exact ⟨by rw [e1], e2⟩
        · rw [p2 b' L' hno] at hx'
          obtain ⟨hlt, L0, x0, h0⟩ := old bc L cb x hx (hr.bound _ _ _ _ hx')
          obtain ⟨k0, r1, r2⟩ := knownRo bc kc a1 hlt
          exact absurd (hr.inj _ _ _ _ _ _ _ _ h0 hx' r1 (by rw [r2]; exact hro')).1 (hno bc)
      · have hx2 := hB b k L _ a1 a2 hx
        rcases img b' with ⟨bc', rfl⟩ | hno
        · rw [p1] at hx'
          obtain ⟨hlt, L0, x0, h0⟩ := old bc' L' cb x' hx' (hr.bound _ _ _ _ hx2)
          obtain ⟨e1, _⟩ := hr.inj _ _ _ _ _ _ _ _ hx2 h0 a1 hro
          have hx3 := (abs2 bc' hlt (a2 bc' e1.symm)).2 L' _ hx'
          exact hr.inj _ _ _ _ _ _ _ _ hx2 hx3 a1 hro
        · rw [p2 b' L' hno] at hx'
          exact hr.inj _ _ _ _ _ _ _ _ hx2 hx' a1 hro
    · intro b k L x hk hx
      rcases F.got b k hk with ⟨bc, kc, rfl, a1, _, a3⟩ | ⟨a1, a2⟩
      · rw [p1] at hx
        rw [a3.n]
        exact g2.top _ _ _ _ a1 hx
      · exact hr.top _ _ _ _ a1 (hB b k L x a1 a2 hx)
    · intro b k L cb sh S hk hx hm
      rcases F.got b k hk with ⟨bc, kc, rfl, a1, _, a3⟩ | ⟨a1, a2⟩
      · rw [p1] at hx
        obtain ⟨cs, lo, hi, r1, r2, r3, r4, r5⟩ := g2.blk _ _ _ _ _ _ a1 hx (by rw [← a3.minL]; exact hm)
        refine ⟨cs, lo, hi, by rw [a3.e]; exact r1, r2, r3, fun j v hj hL hv => ?_, fun hro => by rw [a3.fz]; exact r5 (by rw [← a3.ro]; exact hro)⟩
        rw [a3.get] at hv
        obtain ⟨v0, hv0, rfl⟩ := Option.map_eq_some_iff.1 hv
        obtain ⟨u0, hu0, hRu⟩ := r4 j v0 hj hL hv0
        exact ⟨u0, hu0, R_ren fwd hRu⟩
      · have hx2 := hB b k L _ a1 a2 hx
        refine (hr.blk _ _ _ _ _ _ a1 hx2 hm).mono ?_ (hBheap b k L cb _ a1 a2 hx2)
        intro b0 L0 x0 h0
        rcases img b0 with ⟨bc, rfl⟩ | hno
        · rw [p1]; exact g3.le _ _ _ (q3 _ _ _ (bnd bc (hr.fresh _ _ _ h0)) h0)
        · rw [p2 b0 L0 hno]; exact h0
    · intro b k hk ho
      rcases F.got b k hk with ⟨bc, kc, rfl, a1, at1, a3⟩ | ⟨a1, a2⟩
      · have ho' := a3.isObj.1 ho
        obtain ⟨hro, cb, S, h2, h3⟩ := g2.obj _ _ a1 ho'
        refine ⟨by rw [a3.ro]; exact hro, cb, S, fwd _ _ _ h2, ?_⟩
        rw [tagB_spec at1 ho'] at h3
        rw [a3.e, a3.obj ho', tagB_spec at1 ho']
        exact h3.ren fwd
      · refine (hr.obj _ _ a1 ho).mono ?_ fun cb S e => hBheap b k 0 cb _ a1 a2 e
        intro b0 L0 x0 h0
        rcases img b0 with ⟨bc, rfl⟩ | hno
        · rw [p1]; exact g3.le _ _ _ (q3 _ _ _ (bnd bc (hr.fresh _ _ _ h0)) h0)
        · rw [p2 b0 L0 hno]; exact h0
  refine ⟨u, ρ', he, by rw [F.v]; exact R_ren fwd g1, hr', ?_, ?_, ?_, by rw [F.next]; omega, g3.os, g3.tape, g3.output, g3.size, ?_, F.low, ?_, ?_⟩
  · intro b0 L0 x0 h0
    rcases img b0 with ⟨bc, rfl⟩ | hno
    · rw [p1]; exact g3.le _ _ _ (q3 _ _ _ (bnd bc (hr.fresh _ _ _ h0)) h0)
    · rw [p2 b0 L0 hno]; exact h0
  · intro b L cb x hx hlt
    rcases img b with ⟨bc, rfl⟩ | hno
    · rw [p1] at hx; exact (old bc L cb x hx hlt).2
    · rw [p2 b L hno] at hx; exact ⟨L, x, hx⟩
  · intro b k' hk' hb
    rcases F.got b k' hk' with ⟨bc, kc, rfl, a1, _, a3⟩ | ⟨a1, a2⟩
    · obtain ⟨k0, r1, r2⟩ := knownRo bc kc a1 (bnd bc hb)
      exact ⟨k0, r1, by rw [a3.ro, r2]⟩
    · exact ⟨k', a1, rfl⟩
  · intro i hi hn
    refine g3.keep i hi fun ho => ?_
    obtain ⟨b2, L2, x2, k2, bc, h3, h4, h5, h6, h7⟩ := own i ho
    exact hn ⟨b2, L2, x2, k2, h3, h4, h5⟩
  · intro b hb hn
    rcases F.kept b hn with g | ⟨bc, rfl, a1, a2, a3⟩
    · exact g
    · omega
  · intro b hb hn
    have key : ∀ bc, b = s bc → hc.get bc = none := fun bc hbc => by
      cases hq : hc.get bc with
      | none => rfl
      | some k =>
        obtain ⟨_, _, _, k', h2, _⟩ := F.known bc k hq
        rw [← hbc, hn] at h2; cases h2
    refine ⟨?_, fun L x hx => ?_⟩
    · rcases F.kept b hb with g | ⟨bc, hbc, a1, a2, a3⟩
      · rw [g]; exact hn
      · rw [(abs2 bc a1 (key bc hbc)).1] at a3; cases a3
    · rcases img b with ⟨bc, rfl⟩ | hno
      · rw [p1] at hx
        exact (abs2 bc (bnd bc hb) (key bc rfl)).2 L x hx
      · rwa [p2 b L hno] at hx
mutual
def pairV : V → V → List (Nat × Nat) → List (Nat × Nat)
  | .ptr a, .ptr b, l => (a.b, b.b) :: l
  | .slice a _ _ _ _, .slice b _ _ _ _, l => (a.b, b.b) :: l
  | .func _ x y, .func _ x' y', l => pairL x x' (pairL y y' l)
  | .iface _ x, .iface _ x', l => pairV x x' l
  | .agg x, .agg x', l => pairL x x' l
  | .tuple x, .tuple x', l => pairL x x' l
  | .mapv a, .mapv b, l => (a, b) :: l
  | _, _, l => l
def pairL : List V → List V → List (Nat × Nat) → List (Nat × Nat)
  | x :: xs, y :: ys, l => pairV x y (pairL xs ys l)
  | _, _, l => l
end
noncomputable def putP (l : List (Nat × Nat)) (t : T Nat) : T Nat := List.rec (fun t => t) (fun p _ ih t => ih (t.set p.1 p.2)) l t
noncomputable def orZ (o : Option Nat) : Nat := Option.rec 0 (fun a => a) o
structure Memo where
  c : Cut
  walk : List Nat
noncomputable def selB (l : List (Nat × Blk)) : List Nat → List (Nat × Blk) := List.rec (fun _ => []) (fun p _ ih w => List.rec [] (fun i w' _ => bif Nat.beq p.1 i then p :: ih w' else ih w) w) l
noncomputable def pairC (a a' : Arr) : Nat → List (Nat × Nat) := Nat.rec [] (fun j ih => pairV (orUndef (a.get j)) (orUndef (a'.get j)) ih)
noncomputable def pairB (k k' : Blk) : List (Nat × Nat) := bif Nat.beq k.cells.n 0 then pairL k.cells.z k'.cells.z [] else pairC k.cells k'.cells k.cells.n
noncomputable def walkN (h : AH) (l : List (Nat × Blk)) : T Nat → T Nat := List.rec (fun t => t) (fun p _ ih t => ih (Option.rec t (fun k => putP (pairB p.2 k) t) (h.get (orZ (t.get p.1))))) l
noncomputable def rangeN (a : Nat) : Nat → List Nat := Nat.rec (fun _ => []) (fun _ ih i => i :: ih (Nat.succ i)) a
noncomputable def findN (m : Nat) (o : Memo) (args : List V) (h : AH) : List Nat :=
  (fun t => List.rec (motive := fun _ => List Nat) [] (fun i _ ih => orZ (T.get t i) :: ih) (rangeN (Nat.sub o.c.next m) m)) (walkN h (selB o.c.needs o.walk) (putP (pairL o.c.args args []) .leaf))
mutual
def lookV : V → V → Bool
  | .bool a, .bool b => a == b
  | .int _ a, .int _ b => a == b
  | .str a, .str b => a == b
  | .slice _ n _ _ _, .slice _ n' _ _ _ => Nat.beq n n'
  | .ptr _, .ptr _ => true
  | .agg x, .agg x' => lookL x x'
  | .tuple x, .tuple x' => lookL x x'
  | .iface t x, .iface t' x' => Nat.beq t t' && lookV x x'
  | .mapv _, .mapv _ => true
  | .func f _ _, .func g _ _ => Nat.beq f g
  | .bad, .bad => true
  | .nilptr, .nilptr => true
  | .nilslice, .nilslice => true
  | .loose, .loose => true
  | .nilFunc, .nilFunc => true
  | .nilIface, .nilIface => true
  | .nilmap, .nilmap => true
  | .complex _ a b, .complex _ a' b' => Nat.beq a a' && Nat.beq b b'
  | .float _ a, .float _ a' => Nat.beq a a'
  | _, _ => false
def lookL : List V → List V → Bool
  | [], [] => true
  | x :: xs, y :: ys => lookV x y && lookL xs ys
  | _, _ => false
end
noncomputable def memoG (m : Nat) (f : FuncId) (o : Memo) (args : List V) (h : AH) : Option (V × AH) := bif Nat.beq o.c.f f && lookL o.c.args args then (memoS m o.c (findN m o args h) args h) else none
noncomputable def memoI (m : Nat) (f : FuncId) (args : List V) (h : AH) : List Memo → Option (V × AH) :=
  List.rec none (fun o _ ih => Option.rec ih (fun p => some p) (memoG m f o args h))
noncomputable def memoJ (m : Nat) (l : List (FuncId × List Memo)) (f : FuncId) : Option (List V → AH → Option (V × AH)) :=
  List.rec none (fun p _ ih => bif Nat.beq p.1 f then some (fun args h => memoI m f args h p.2) else ih) l
theorem memoI_inv {m : Nat} {f : FuncId} {args : List V} {h : AH} {x : V × AH} : ∀ {l : List Memo}, memoI m f args h l = some x → ∃ o ∈ l, ∃ sg, o.c.f = f ∧ memoS m o.c sg args h = some x := by
  intro l
  induction l with
  | nil => intro hs; cases hs
  | cons c l ih =>
    intro hs
    have e : memoI m f args h (c :: l) = Option.rec (motive := fun _ => Option (V × AH)) (memoI m f args h l) (fun p => some p) (memoG m f c args h) := rfl
    rw [e] at hs
    cases hc : memoG m f c args h with
    | some p =>
      rw [hc] at hs
      unfold memoG at hc
      cases hl : (Nat.beq c.c.f f && lookL c.c.args args) with
      | false => rw [hl] at hc; cases hc
      | true =>
        rw [hl] at hc
        rw [Bool.and_eq_true] at hl
        exact ⟨c, by simp, _, Nat.eq_of_beq_eq_true hl.1, hc.trans hs⟩
    | none =>
      rw [hc] at hs
      obtain ⟨c', h1, h2⟩ := ih hs
      exact ⟨c', by simp [h1], h2⟩
theorem memoJ_inv {m : Nat} {f : FuncId} {g : List V → AH → Option (V × AH)} : ∀ {l : List (FuncId × List Memo)}, memoJ m l f = some g → ∃ p ∈ l, g = fun args h => memoI m f args h p.2 := by
  intro l
  induction l with
  | nil => intro hg; cases hg
  | cons p l ih =>
    intro hg
    have e : memoJ m (p :: l) f = bif Nat.beq p.1 f then some (fun args h => memoI m f args h p.2) else memoJ m l f := rfl
    rw [e] at hg
    cases hb : Nat.beq p.1 f with
    | true => rw [hb] at hg; cases hg; exact ⟨p, by simp, rfl⟩
    | false =>
      rw [hb] at hg
      obtain ⟨q, h1, h2⟩ := ih hg
      exact ⟨q, by simp [h1], h2⟩
def MemoOK (E : XEnv) (m : Nat) (o : Memo) : Prop :=
  (∀ (sg : List Nat) (ρ : Rho) (h h' : AH) (w : World) (args : List V) (args' : List Value) (v : V), GOK E.c0 ρ → HR ρ h w → RL ρ args args' → memoS m o.c sg args h = some (v, h') →
    Calls E.P o.c.f args'.toArray w fun e w' => ∃ u ρ', e = .returned u ∧ R ρ' v u ∧ HR ρ' h' w' ∧ Step ρ h w ρ' h' w') ∧
  ∀ (sg : List Nat) (args : List V) (h : AH) (v : V) (h' : AH), memoS m o.c sg args h = some (v, h') → AStep h h'
def AllM (E : XEnv) (m : Nat) (l : List Memo) : Prop := ∀ o ∈ l, MemoOK E m o
def AllJ (E : XEnv) (m : Nat) (l : List (FuncId × List Memo)) : Prop := ∀ p ∈ l, AllM E m p.2
theorem allN {E : XEnv} {m : Nat} : AllM E m [] := fun o ho => by cases ho
theorem allC {E : XEnv} {m : Nat} {o : Memo} {l : List Memo} (h : MemoOK E m o) (hl : AllM E m l) : AllM E m (o :: l) := fun q hq => by
  rcases List.mem_cons.1 hq with rfl | hq
  · exact h
  · exact hl q hq
theorem jN {E : XEnv} {m : Nat} : AllJ E m [] := fun o ho => by cases ho
theorem jC {E : XEnv} {m : Nat} {f : FuncId} {l : List Memo} {r : List (FuncId × List Memo)} (h : AllM E m l) (hl : AllJ E m r) : AllJ E m ((f, l) :: r) := fun q hq => by
  rcases List.mem_cons.1 hq with rfl | hq
  · exact h
  · exact hl q hq
noncomputable def XEnv.mem (E : XEnv) (m : Nat) (l : List (FuncId × List Memo)) : XEnv := ⟨E.P, E.G, E.X, fun f => Option.rec (E.I f) (fun g => some g) (memoJ m l f), E.mask, E.fuel, E.ops, E.good, E.qt, E.gc⟩
theorem XEnv.mem_I {E : XEnv} {m : Nat} {l : List (FuncId × List Memo)} {f : FuncId} {g : List V → AH → Option (V × AH)} (h : (E.mem m l).I f = some g) : memoJ m l f = some g ∨ E.I f = some g := by
  have h' : (Option.rec (motive := fun _ => Option (List V → AH → Option (V × AH))) (E.I f) (fun g => some g) (memoJ m l f)) = some g := h
  cases hm : memoJ m l f with
  | none => rw [hm] at h'; exact .inr h'
  | some g' => rw [hm] at h'; exact .inl h'
theorem XEnv.OK.memos {E : XEnv} (ok : E.OK) {m : Nat} (hgm : ∀ g L, E.G g = some L → g < m) {l : List (FuncId × List Memo)} (hl : AllJ E m l) : (E.mem m l).OK where
  mixed := ok.mixed
  xsound := ok.xsound
  xabs := ok.xabs
  isound := by
    intro f g hg ρ h w args args' v h' hG hr hR hs
    rcases E.mem_I hg with hg | hg
    · obtain ⟨p, h1, rfl⟩ := memoJ_inv hg
      obtain ⟨o, h2, sg, rfl, h3⟩ := memoI_inv hs
      exact (hl p h1 o h2).1 sg ρ h h' w args args' v hG hr hR h3
    · exact ok.isound f g hg ρ h w args args' v h' hG hr hR hs
  iabs := by
    intro f g hg args h v h' hs
    rcases E.mem_I hg with hg | hg
    · obtain ⟨p, h1, rfl⟩ := memoJ_inv hg
      obtain ⟨o, h2, sg, rfl, h3⟩ := memoI_inv hs
      exact (hl p h1 o h2).2 sg args h v h' h3
    · exact ok.iabs f g hg args h v h' hs
  opsok := ok.opsok
  draws := ok.draws
theorem MemoOK.mk {E : XEnv} (ok : E.OK) {m : Nat} (hgm : ∀ g L, E.G g = some L → g < m) {o : Memo} {l : List (FuncId × List Memo)} (hl : AllJ E m l) {n : Nat} (hS : cutS m o.c = true) (hr : ∀ es, memB (E.mem m l) n o.c es = true) : MemoOK E m o :=
  ⟨fun _ _ _ _ _ _ _ _ g1 g2 g3 g4 => memoS_sound (ok.memos hgm hl) hgm hS hr g1 g2 g3 g4, fun _ _ _ _ _ g => memoS_astep (ok.memos hgm hl) hS hr g⟩
noncomputable def nb : Nat → Nat → List Nat := Nat.rec (fun _ => []) (fun _ ih n => Nat.mod n 256 :: ih (Nat.div n 256))
noncomputable def bys (l : List Nat) : List V := List.rec [] (fun x _ ih => V.int .u8 (.ofNat x) :: ih) l
noncomputable def arS (n : Nat) (z : List V) (l : List (Nat × V)) : Arr := ⟨n, z, List.rec (motive := fun _ => T V) .leaf (fun p _ ih => T.set ih p.1 p.2) l⟩
noncomputable def arL (l : List V) : Arr := Arr.ofList l
noncomputable def blk (a : Arr) (m e : Nat) : Blk := ⟨a, m, 0, false, e⟩
def iN (k : IntKind) (n : Nat) : V := .int k (.ofNat n)
def nN (k : IntKind) (n : Nat) : V := .int k (.negSucc n)
end Go.Proofs.YtcphjmgfgfjnpaaGreatDoor.Ev
namespace Go.Proofs.YtcphjmgfgfjnpaaGreatDoor.Ev
open Go
noncomputable def absMapsClone (args : List V) (h : AH) : Option (V × AH) :=
  match args with
  | [.iface t (.mapv b)] => (mapOf h b).map fun p => (.iface t (.mapv h.next), h.add (Blk.obj 0 (p.1 :: p.2)))
  | _ => none
def anyI : V := .rcd 0 #[] .skip .skip
noncomputable def openR : Arr := Arr.ofList [anyI]
noncomputable def intR (x : Int) : Arr := Arr.ofList [.int .i64 x]
noncomputable def AH.swap (h : AH) (g : Nat) (k : Blk) : AH := ⟨h.next, h.low, h.m.set g k⟩
theorem AH.get_swap (h : AH) (g b : Nat) (k : Blk) : (h.swap g k).get b = if b = g then some k else h.get b := T.get_set _ _ _ _
theorem HR.swap {ρ : Rho} {h : AH} {w : World} {g : Nat} {k k2 : Blk} (hr : HR ρ h w) (hk : h.get g = some k) (hro : k2.ro = true) (hn : k2.cells.n = k.cells.n) (ho : ¬ k2.IsObj) (hb : ∀ L cb sh S, ρ g L = some (cb, sh, S) → k2.minL ≤ L → BlkOK ρ k2 L cb sh S w) : HR ρ (h.swap g k2) w := by
  have hg : ∀ b k', (h.swap g k2).get b = some k' → (b = g ∧ k' = k2) ∨ (b ≠ g ∧ h.get b = some k') := fun b k' h' => by
    rw [AH.get_swap] at h'
    by_cases e : b = g
    · rw [if_pos e] at h'; cases h'; exact .inl ⟨e, rfl⟩
    · rw [if_neg e] at h'; exact .inr ⟨e, h'⟩
  refine ⟨hr.fresh, ?_, hr.bound, ?_, ?_, ?_, ?_⟩
  · intro b k' h'
    rcases hg b k' h' with ⟨rfl, _⟩ | ⟨_, h'⟩
    · exact hr.lives _ _ hk
    · exact hr.lives _ _ h'
  · intro b L b' L' cb x x' k' h1 h2 h' hr'
    rcases hg b k' h' with ⟨rfl, rfl⟩ | ⟨_, h'⟩
    · rw [hro] at hr'; cases hr'
    · exact hr.inj _ _ _ _ _ _ _ _ h1 h2 h' hr'
  · intro b k' L x h' hx
    rcases hg b k' h' with ⟨rfl, rfl⟩ | ⟨_, h'⟩
    · rw [hn]; exact hr.top _ _ _ _ hk hx
    · exact hr.top _ _ _ _ h' hx
  · intro b k' L cb sh S h' hx hm
    rcases hg b k' h' with ⟨rfl, rfl⟩ | ⟨_, h'⟩
    · exact hb _ _ _ _ hx hm
    · exact hr.blk _ _ _ _ _ _ h' hx hm
  · intro b k' h' ho'
    rcases hg b k' h' with ⟨rfl, rfl⟩ | ⟨_, h'⟩
    · exact absurd ho' ho
    · exact hr.obj _ _ h' ho'
structure SameH (h h2 : AH) : Prop where
  next : h2.next = h.next
  low : h2.low = h.low
  get : ∀ b, h2.get b = h.get b
noncomputable def Cut.at (c : Cut) (g : Nat) (x : Int) : Cut := { c with tabs := c.tabs.map fun p => bif Nat.beq p.1 g then (p.1, intR x) else p }
noncomputable def cutX (m g : Nat) (c : Cut) : Bool := cutS m c && (c.needs.all (fun p => Nat.ble m p.1) && (c.outs.all (fun p => Nat.ble m p.1) && (Nat.blt g m && (c.tabs.any (fun p => Nat.beq p.1 g) && c.tabs.all (fun p => Bool.or (!(Nat.beq p.1 g)) (alikeR p.2 openR))))))
end Go.Proofs.YtcphjmgfgfjnpaaGreatDoor.Ev
namespace Go.Proofs.YtcphjmgfgfjnpaaGreatDoor.Ev
open Go
def leN : List Nat → List Nat → Bool
  | [], _ => true
  | _ :: _, [] => false
  | x :: a, y :: b => bif Nat.blt x y then true else bif Nat.beq x y then leN a b else false
def insN (x : List Nat) : List (List Nat) → List (List Nat)
  | [] => [x]
  | y :: l => bif leN x y then x :: y :: l else y :: insN x l
def sortN : List (List Nat) → List (List Nat)
  | [] => []
  | x :: l => insN x (sortN l)
def insB (x : List UInt8) : List (List UInt8) → List (List UInt8)
  | [] => [x]
  | y :: l => bif leB x y then x :: y :: l else y :: insB x l
def sortB : List (List UInt8) → List (List UInt8)
  | [] => []
  | x :: l => insB x (sortB l)
def distK : List (List Nat) → Bool
  | [] => true
  | x :: l => l.all (fun y => !natsEq x y) && distK l
def distN : List Nat → Bool
  | [] => true
  | x :: l => l.all (fun y => !Nat.beq x y) && distN l
abbrev KV := List UInt8 × Value
def setC (x : List UInt8) (u : Value) : List KV → List KV
  | [] => [(x, u)]
  | p :: l => if p.1 = x then (x, u) :: l else p :: setC x u l
def setA (x : List Nat) (u : V) : List (List Nat × V) → List (List Nat × V)
  | [] => [(x, u)]
  | p :: l => bif natsEq p.1 x then (x, u) :: l else p :: setA x u l
def foldA : List (List Nat × V) → List (List Nat × V) → List (List Nat × V)
  | [], l => l
  | p :: s, l => foldA s (setA p.1 p.2 l)
def foldC : List KV → List KV → List KV
  | [], l => l
  | p :: s, l => foldC s (setC p.1 p.2 l)
def AR (ρ : Rho) : List (List Nat × V) → List KV → Prop
  | [], [] => True
  | x :: l, y :: m => x.1 = y.1.map UInt8.toNat ∧ R ρ x.2 y.2 ∧ AR ρ l m
  | _, _ => False
abbrev heldR : Value → Option (DataW Value × List MemPlace) := fun v => some (.held v, [])
def emb (p : KV) : Lit × DataW Value := (.string p.1, .held p.2)
def pairsS : List (V × V × Nat) → Option (List (List Nat × V))
  | [] => some []
  | (.str s, v, _) :: l => (pairsS l).map ((s, v) :: ·)
  | _ => none
def pairsU : List V → Option (List (List Nat × V))
  | [] => some []
  | .str s :: v :: l => (pairsU l).map ((s, v) :: ·)
  | _ => none
def smallL (ks : List (List Nat × V)) : Bool := ks.all (fun x => Nat.ble x.1.length 1000000) && Nat.ble ks.length 1000000
noncomputable def entU (h : AH) (b : Nat) : Option (List (List Nat × V)) :=
  match mapOf h b with
  | some (.int .i64 (.ofNat clock), data) =>
    match trip data with
    | some l => match pairsS l with
      | some ks => if (l.all (fun x => Nat.blt x.2.2 clock) && (distN (l.map (·.2.2)) && (distK (ks.map (·.1)) && smallL ks))) = true then some ks else none
      | none => none
    | none => none
  | some _ => none
  | none => match mapU h b with
    | some data => match pairsU data with
      | some ks => if smallL ks = true then some ks else none
      | none => none
    | none => none
def kvE (e : MapEntry) : Value × Value := (e.key, e.val)
def kvC (p : KV) : Value × Value := (encStr p.1, p.2)
end Go.Proofs.YtcphjmgfgfjnpaaGreatDoor.Ev
namespace Go.Proofs.YtcphjmgfgfjnpaaGreatDoor.Ev
open Go
def SortPost (c et : Nat) (w : World) (ok : List (List UInt8) → Prop) (e : Ending) (w' : World) : Prop :=
  ∃ (v : Value) (ss : List (List UInt8)), e = .returned v ∧ ok ss ∧ w'.ownsRow w.heap.size et 1 v ss.length ((ss.mergeSort fun x y => decide (x ≤ y)).map encStr) ∧ (v = .slice none 0 0 ↔ ss = []) ∧ Go.RowKit.Below w.heap.size w w'
structure SortedAt (P : Program) (c et g : Nat) : Prop where
  str : P.underlying et = some .string
  gives : ∀ (b nn Bm : Nat) (D0 : DataW Value) (w : World), Bm < w.heap.size → w.cell? ⟨Bm, 0, none⟩ = some (.map (some b)) → w.ownsMap P et heldR b nn D0 → Maps.size D0 ≤ maxLen → Maps.size D0 * 16 ≤ 140737488355328 →
    Calls P c #[.func (.func g) #[] #[.pointer (some ⟨Bm, 0, none⟩)]] w (SortPost c et w fun ss => ss.Perm (strKeys D0))
  nils : ∀ (Bm : Nat) (w : World), Bm < w.heap.size → w.cell? ⟨Bm, 0, none⟩ = some (.map none) →
    Calls P c #[.func (.func g) #[] #[.pointer (some ⟨Bm, 0, none⟩)]] w (SortPost c et w fun ss => ss = [])
noncomputable def capMap (a : A) (h : AH) : Option V :=
  match h.get a.b with
  | some k => if k.cells.n = 1 ∧ a.L = 1 ∧ a.o = 0 ∧ k.minL ≤ 1 ∧ k.ro = false then k.cells.get 0 else none
  | none => none
noncomputable def absSorted (et : Nat) (gs : List Nat) (args : List V) (h : AH) : Option (V × AH) :=
  match args with
  | [.func g [] [.ptr a]] =>
    if gs.contains g = true then
      match capMap a h with
      | some .nilmap => some (.nilslice, h)
      | some (.mapv b) => match entU h b with
        | some [] => some (.nilslice, h)
        | some (x :: l) => some (.slice ⟨h.next, (x :: l).length, 0⟩ (x :: l).length (x :: l).length false 1, h.add ⟨Arr.ofList ((sortN ((x :: l).map (·.1))).map V.str), 0, 0, false, et⟩)
        | none => none
      | _ => none
    else none
  | _ => none
theorem HR.below {ρ : Rho} {h : AH} {w w' : World} (hr : HR ρ h w) (hb : Go.RowKit.Below w.heap.size w w') : HR ρ h w' :=
  ⟨hr.fresh, hr.lives, fun b L cb x hx => Nat.lt_of_lt_of_le (hr.bound b L cb x hx) hb.size, hr.inj, hr.top, fun b k L cb sh S h1 h2 h3 => (hr.blk b k L cb sh S h1 h2 h3).mono (Rho.le_refl ρ) (hb.block _ (hr.bound _ _ _ _ h2)), fun b k h1 ho => (hr.obj b k h1 ho).mono (Rho.le_refl ρ) fun cb S e => hb.block _ (hr.bound _ _ _ _ e)⟩
theorem Step.below {ρ : Rho} {h : AH} {w w' : World} (hb : Go.RowKit.Below w.heap.size w w') : Step ρ h w ρ h w' :=
  ⟨Rho.le_refl ρ, fun b L c x hx _ => ⟨L, x, hx⟩, fun b k' hk' _ => ⟨k', hk', rfl⟩, Nat.le_refl _, hb.os, hb.tape, hb.output, hb.size, fun i hi _ => hb.block i hi, Nat.le_refl _, fun _ _ _ => rfl, fun _ _ hb => ⟨hb, fun _ _ h => h⟩⟩
noncomputable def sortI (c et : Nat) (gs : List Nat) (f : FuncId) : Option (List V → AH → Option (V × AH)) := bif Nat.beq f c then some (absSorted et gs) else none
structure CopyAt (P : Program) (c kt : Nat) : Prop where
  str : P.underlying kt = some .string
  copy : ∀ (bd bs nd ns : Nat) (Dd Ds : DataW Value) (w : World), w.ownsMap P kt heldR bd nd Dd → w.ownsMap P kt heldR bs ns Ds → bd ≠ bs → nd + Maps.size Ds ≤ maxLen →
    Calls P c #[.map (some bd), .map (some bs)] w fun e w' => e = .returned (.tuple #[]) ∧ w'.ownsMap P kt heldR bd (nd + Maps.size Ds) (Lib.mergeD Dd Ds) ∧ w.grownBy w' (some bd)
def dataOf : List (List Nat × V) → List V
  | [] => []
  | p :: l => .str p.1 :: p.2 :: dataOf l
noncomputable def absCopyM (args : List V) (h : AH) : Option (V × AH) :=
  match args with
  | [.mapv d, .mapv s] => if d = s then none else
    match entU h d, entU h s with
    | some a, some b => some (.tuple [], h.put d (Blk.obj 4 (dataOf (foldA b a))))
    | _, _ => none
  | _ => none
structure ISound (P : Program) (I : FuncId → Option (List V → AH → Option (V × AH))) : Prop where
  sound : ∀ f g, I f = some g → ∀ (ρ : Rho) (h : AH) (w : World) (args : List V) (args' : List Value) (v : V) (h' : AH), HR ρ h w → RL ρ args args' → g args h = some (v, h') →
    Calls P f args'.toArray w fun e w' => ∃ u ρ', e = .returned u ∧ R ρ' v u ∧ HR ρ' h' w' ∧ Step ρ h w ρ' h' w'
  step : ∀ f g, I f = some g → ∀ args h v h', g args h = some (v, h') → AStep h h'
noncomputable def copyI (cs : List Nat) (f : FuncId) : Option (List V → AH → Option (V × AH)) := bif cs.contains f then some absCopyM else none
noncomputable def iOr (a b : FuncId → Option (List V → AH → Option (V × AH))) (f : FuncId) : Option (List V → AH → Option (V × AH)) := Option.rec (b f) (fun g => some g) (a f)
end Go.Proofs.YtcphjmgfgfjnpaaGreatDoor.Ev
namespace Go.Proofs.YtcphjmgfgfjnpaaGreatDoor.Ev
open Go
structure JSound (E : XEnv) (J : FuncId → Option (List V → AH → Option (V × AH))) : Prop where
  sound : ∀ f g, J f = some g → ∀ (ρ : Rho) (h : AH) (w : World) (args : List V) (args' : List Value) (v : V) (h' : AH), GOK E.c0 ρ → HR ρ h w → RL ρ args args' → g args h = some (v, h') →
    Calls E.P f args'.toArray w fun e w' => ∃ u ρ', e = .returned u ∧ R ρ' v u ∧ HR ρ' h' w' ∧ Step ρ h w ρ' h' w'
  step : ∀ f g, J f = some g → ∀ args h v h', g args h = some (v, h') → AStep h h'
noncomputable def XEnv.plus (E : XEnv) (J : FuncId → Option (List V → AH → Option (V × AH))) : XEnv := ⟨E.P, E.G, E.X, iOr J E.I, E.mask, E.fuel, E.ops, E.good, E.qt, E.gc⟩
theorem iOr_some {a b : FuncId → Option (List V → AH → Option (V × AH))} {f : FuncId} {g : List V → AH → Option (V × AH)} (h : iOr a b f = some g) : a f = some g ∨ b f = some g := by
  have h' : Option.rec (motive := fun _ => Option (List V → AH → Option (V × AH))) (b f) (fun g => some g) (a f) = some g := h
  cases hq : a f with
  | none => rw [hq] at h'; exact .inr h'
  | some g' => rw [hq] at h'; exact .inl h'
theorem XEnv.OK.plus {E : XEnv} (ok : E.OK) {J : FuncId → Option (List V → AH → Option (V × AH))} (hJ : JSound E J) : (E.plus J).OK where
  mixed := ok.mixed
  xsound := ok.xsound
  xabs := ok.xabs
  isound := by
    intro f g hg ρ h w args args' v h' hG hr hR hs
    rcases iOr_some hg with hg | hg
    · exact hJ.sound f g hg ρ h w args args' v h' hG hr hR hs
    · exact ok.isound f g hg ρ h w args args' v h' hG hr hR hs
  iabs := by
    intro f g hg args h v h' hs
    rcases iOr_some hg with hg | hg
    · exact hJ.step f g hg args h v h' hs
    · exact ok.iabs f g hg args h v h' hs
  opsok := ok.opsok
  draws := ok.draws
theorem xrun_astep {E : XEnv} (ok : E.OK) {n : Nat} {f : FuncId} {args : List V} {h h' : AH} {v : V} (hs : xrun E n f args h = some (v, h')) : AStep h h' := (xD_ok ok n).A.1 f args h v h' hs
theorem memoS_plain {m : Nat} {c : Cut} {h : AH} (hn : c.next = m) (ha : ∀ s, eqvL s c.args c.args = true) (h1 : c.needs = []) (h2 : c.outs = []) (hm : Nat.ble m h.next = true) (ht : allR h c.tabs = true) (hv : ∀ s, renV s c.v = c.v) :
    memoS m c [] c.args h = some (c.v, ⟨Nat.add h.next (Nat.sub c.next' c.next), h.low, h.m⟩) := by
  subst hn
  unfold memoS
  simp only [ha, h1, h2, ht, hm, hv]
  have e1 : Nat.beq ([] : List Nat).length (Nat.sub c.next c.next) = true := by
    have : Nat.sub c.next c.next = 0 := Nat.sub_self _
    rw [this]; rfl
  rw [e1]
  rfl
end Go.Proofs.YtcphjmgfgfjnpaaGreatDoor.Ev
namespace Go.Proofs.YtcphjmgfgfjnpaaGreatDoor.Ev
open Go
def Flat (v : V) : Prop := ∀ ρ ρ' u, R ρ v u → R ρ' v u
noncomputable def intsOf (k : IntKind) : List V → Option (List Int)
  | [] => some []
  | .int k' n :: l => if k' = k then (intsOf k l).map fun r => n :: r else none
  | _ :: _ => none
end Go.Proofs.YtcphjmgfgfjnpaaGreatDoor.Ev
namespace Go.Proofs.YtcphjmgfgfjnpaaGreatDoor.Ev
open Go
abbrev Slots := List (Nat × Ck)
def Tup : Slots → Type
  | [] => Unit
  | (_, c) :: l => c.ty × Tup l
noncomputable def rdT (g : Nat → V) : (L : Slots) → (Tup L → Res) → Res
  | [], K => K ()
  | (i, c) :: l, K => ckT c (g i) fun x => rdT g l fun t => K (x, t)
noncomputable def mkT : (L : Slots) → Tup L → T V
  | [], _ => .leaf
  | (i, c) :: l, t => (mkT l t.2).set i (c.val t.1)
noncomputable def gT (f : T V) (i : Nat) : V := orUndef (f.get i)
theorem ckT_none {c : Ck} {v : V} {K : c.ty → Res} : ckT c v K = none ∨ ∃ x, v = c.val x ∧ ckT c v K = K x := by
  cases h : ckT c v K with
  | none => exact .inl rfl
  | some r =>
    obtain ⟨x, h1, h2⟩ := ckT_some h
    exact .inr ⟨x, h1, h2.symm⟩
theorem rdT_spec (g : Nat → V) : ∀ (L : Slots) (K : Tup L → Res), rdT g L K = none ∨ ∃ t, rdT g L K = K t ∧ ∀ i, gT (mkT L t) i = g i ∨ gT (mkT L t) i = .bad := by
  intro L
  induction L with
  | nil => intro K; exact .inr ⟨(), rfl, fun i => .inr (by show orUndef (T.leaf.get i) = _; rw [T.get_leaf]; rfl)⟩
  | cons a L ih =>
    obtain ⟨i, c⟩ := a
    intro K
    show ckT c (g i) (fun x => rdT g L fun t => K (x, t)) = none ∨ ∃ t, ckT c (g i) (fun x => rdT g L fun t => K (x, t)) = K t ∧ _
    rcases ckT_none (c := c) (v := g i) (K := fun x => rdT g L fun t => K (x, t)) with e | ⟨x, h1, h2⟩
    · exact .inl e
    · rcases ih (fun t => K (x, t)) with e | ⟨t, h3, h4⟩
      · exact .inl (h2.trans e)
      · refine .inr ⟨(x, t), h2.trans h3, fun j => ?_⟩
        show orUndef (((mkT L t).set i (c.val x)).get j) = g j ∨ orUndef (((mkT L t).set i (c.val x)).get j) = .bad
        rw [T.get_set]
        by_cases hj : j = i
        · subst hj; rw [if_pos rfl]; exact .inl h1.symm
        · rw [if_neg hj]; exact h4 j
theorem rdT_none (g : Nat → V) : ∀ (L : Slots), rdT g L (fun _ => none) = none := by
  intro L
  induction L with
  | nil => rfl
  | cons a L ih =>
    obtain ⟨i, c⟩ := a
    show ckT c (g i) (fun x => rdT g L fun t => none) = none
    simp only [ih]
    rcases ckT_none (c := c) (v := g i) (K := fun _ => none) with e | ⟨x, _, h2⟩
    · exact e
    · exact h2
noncomputable def foLive (lv : Nat → Option Slots) : FO where
  F := T V
  get := gT
  set := fun f i v => f.set i v
  ini := fun l => iniT l 0 .leaf
  keepK := fun key f K => match lv key with
    | none => K f
    | some L => rdT (gT f) L fun t => K (mkT L t)
  keepK_spec := fun key f K => by
    cases lv key with
    | none => exact .inr ⟨f, rfl, fun _ => .inl rfl⟩
    | some L =>
      rcases rdT_spec (gT f) L (fun t => K (mkT L t)) with e | ⟨t, h1, h2⟩
      · exact .inl e
      · exact .inr ⟨mkT L t, h1, h2⟩
  get_set := foTrie.get_set
  get_ini := foTrie.get_ini
noncomputable def jk (L : Slots) (J : Tup L → AH → Res) : T V → AH → Res := fun fr h => rdT (gT fr) L fun t => J t h
noncomputable def exK : List (Nat × (T V → AH → Res)) → Nat → T V → AH → Res
  | [], _, _, _ => none
  | (id, f) :: l, id', fr, h => if id' = id then f fr h else exK l id' fr h
section
variable (c : Cfg) (lv : Nat → Option Slots) (N F : Nat)
noncomputable def exL (X : Code) (fr : T V) (h : AH) (n : T V → AH → Res) (e : Nat → T V → AH → Res) (r : T V → AH → Res) : Res := exec c (foLive lv) N F X fr h ⟨n, e, r⟩
noncomputable def rgL : List Code → T V → AH → (T V → AH → Res) → (Nat → T V → AH → Res) → (T V → AH → Res) → Res
  | [], fr, h, n, _, _ => n fr h
  | a :: l, fr, h, n, e, r => exL c lv N F a fr h (fun fr h => rgL l fr h n e r) e r
def peel : Nat → Code → List Code × Code
  | k + 1, .seq (.region i o d) b => ((.region i o d) :: (peel k b).1, (peel k b).2)
  | _ + 1, .region i o d => ([.region i o d], .skip)
  | _, X => ([], X)
theorem peel_eq : ∀ (k : Nat) (X : Code) (fr : T V) (h : AH) (n : T V → AH → Res) (e : Nat → T V → AH → Res) (r : T V → AH → Res),
    exL c lv N F X fr h n e r = rgL c lv N F (peel k X).1 fr h (fun fr h => exL c lv N F (peel k X).2 fr h n e r) e r := by
  intro k
  induction k with
  | zero => intro X fr h n e r; cases X <;> rfl
  | succ k ih =>
    intro X fr h n e r
    cases X
    case seq a b =>
      cases a
      case region i o d =>
        show exL c lv N F (.region i o d) fr h (fun fr h => exL c lv N F b fr h n e r) e r = exL c lv N F (.region i o d) fr h (fun fr h => rgL c lv N F (peel k b).1 fr h (fun fr h => exL c lv N F (peel k b).2 fr h n e r) e r) e r
        congr 1
        funext fr h
        exact ih b fr h n e r
      all_goals rfl
    case region i o d => rfl
    all_goals rfl
variable {c lv N F}
theorem nd_chain {X : Code} {fr : T V} {h : AH} {n : T V → AH → Res} {e : Nat → T V → AH → Res} {r : T V → AH → Res} (k : Nat) {L : Slots} {S : (Tup L → AH → Res) → Res} {Q : Tup L → AH → Res}
    (hc : ∀ n, rgL c lv N F (peel k X).1 fr h n e r = S (fun t h => n (mkT L t) h)) (he : ∀ t h, exL c lv N F (peel k X).2 (mkT L t) h n e r = Q t h) : exL c lv N F X fr h n e r = S Q := by
  rw [peel_eq c lv N F k, hc]
  congr 1
  funext t h
  exact he t h
theorem nd_norm {a b : Code} (ha : isRegion a = false) {L : Slots} (hl : lv (preKey b) = some L) {n : T V → AH → Res} {e : Nat → T V → AH → Res} {r : T V → AH → Res} {SB : Tup L → AH → Res} (hb : ∀ t h, exL c lv N F b (mkT L t) h n e r = SB t h) (fr : T V) (h : AH) :
    exL c lv N F (.seq a b) fr h n e r = exL c lv N F a fr h (jk L SB) e r := by
  unfold exL
  have e1 : exec c (foLive lv) N F (.seq a b) fr h ⟨n, e, r⟩ = exec c (foLive lv) N F a fr h ⟨if isRegion a then fun fr h => exec c (foLive lv) N F b fr h ⟨n, e, r⟩ else fun fr h => (foLive lv).keepK (preKey b) fr fun fr => exec c (foLive lv) N F b fr h ⟨n, e, r⟩, e, r⟩ := rfl
  rw [e1, ha]
  congr 1
  simp only [Bool.false_eq_true, if_false]
  congr 1
  funext fr h
  show (match lv (preKey b) with | none => _ | some L => rdT (gT fr) L fun t => exec c (foLive lv) N F b (mkT L t) h ⟨n, e, r⟩) = rdT (gT fr) L fun t => SB t h
  rw [hl]
  show (rdT (gT fr) L fun t => exec c (foLive lv) N F b (mkT L t) h ⟨n, e, r⟩) = rdT (gT fr) L fun t => SB t h
  congr 1
  funext t
  exact hb t h
theorem nd_cond {x : Operand} {a b : Code} {fr : T V} {h : AH} {n : T V → AH → Res} {e : Nat → T V → AH → Res} {r : T V → AH → Res} {t : Bool} {A B : Res} (hx : evO c (foLive lv) fr x = .bool t)
    (ha : exL c lv N F a fr h n e r = A) (hb : exL c lv N F b fr h n e r = B) : exL c lv N F (.cond x a b) fr h n e r = bif t then A else B := by
  have e1 : exL c lv N F (.cond x a b) fr h n e r = (match evO c (foLive lv) fr x with
    | .bool true => exec c (foLive lv) N F a fr h ⟨n, e, r⟩
    | .bool false => exec c (foLive lv) N F b fr h ⟨n, e, r⟩
    | _ => none) := rfl
  rw [e1, hx]
  cases t
  · exact hb
  · exact ha
theorem nd_block {id : Nat} {b : Code} {fr : T V} {h : AH} {n : T V → AH → Res} {es : List (Nat × (T V → AH → Res))} {r : T V → AH → Res} {A : Res} (hb : exL c lv N F b fr h n (exK ((id, n) :: es)) r = A) : exL c lv N F (.block id b) fr h n (exK es) r = A := hb
theorem nd_loop {b : Code} {n : T V → AH → Res} {e : Nat → T V → AH → Res} {r : T V → AH → Res} {L : Slots} (hl : lv (preKey b) = some L) {SB : (Tup L → AH → Res) → Tup L → AH → Res}
    (hb : ∀ J t h, exL c lv N F b (mkT L t) h (jk L J) e r = SB J t h) (fr : T V) (h : AH) : exL c lv N F (.loop b) fr h n e r = rdT (gT fr) L fun t => loopN (Tup L) F (fun t h J => SB J t h) t h := by
  have e1 : exL c lv N F (.loop b) fr h n e r = loopN (T V) F (fun fr h m => (foLive lv).keepK (preKey b) fr fun fr => exec c (foLive lv) N F b fr h ⟨m, e, r⟩) fr h := rfl
  rw [e1]
  have key : ∀ m (fr : T V) (h : AH), loopN (T V) m (fun fr h m => (foLive lv).keepK (preKey b) fr fun fr => exec c (foLive lv) N F b fr h ⟨m, e, r⟩) fr h = rdT (gT fr) L fun t => loopN (Tup L) m (fun t h J => SB J t h) t h := by
    intro m
    induction m with
    | zero => intro fr h; exact (rdT_none (gT fr) L).symm
    | succ m ih =>
      intro fr h
      have ih' : loopN (T V) m (fun fr h m => (foLive lv).keepK (preKey b) fr fun fr => exec c (foLive lv) N F b fr h ⟨m, e, r⟩) = jk L (fun t h => loopN (Tup L) m (fun t h J => SB J t h) t h) := by
        funext fr h; exact ih fr h
      show (match lv (preKey b) with
        | none => _
        | some L => rdT (gT fr) L fun t => exec c (foLive lv) N F b (mkT L t) h ⟨loopN (T V) m (fun fr h m => (foLive lv).keepK (preKey b) fr fun fr => exec c (foLive lv) N F b fr h ⟨m, e, r⟩), e, r⟩) = _
      rw [hl, ih']
      show (rdT (gT fr) L fun t => exL c lv N F b (mkT L t) h (jk L (fun t h => loopN (Tup L) m (fun t h J => SB J t h) t h)) e r) = rdT (gT fr) L fun t => SB (loopN (Tup L) m (fun t h J => SB J t h)) t h
      congr 1
      funext t
      exact hb _ t h
  exact key F fr h
theorem nd_chain' {X Y : Code} {fr : T V} {h : AH} {n : T V → AH → Res} {e : Nat → T V → AH → Res} {r : T V → AH → Res} (k : Nat) {L : Slots} {S : (Tup L → AH → Res) → Res} {Q : Tup L → AH → Res} (hY : (peel k X).2 = Y)
    (hc : ∀ n, rgL c lv N F (peel k X).1 fr h n e r = S (fun t h => n (mkT L t) h)) (he : ∀ t h, exL c lv N F Y (mkT L t) h n e r = Q t h) : exL c lv N F X fr h n e r = S Q := nd_chain k hc (by rw [hY]; exact he)
theorem nd_norm' {X a b : Code} {L : Slots} (hX : X = .seq a b) (ha : isRegion a = false) (hl : lv (preKey b) = some L) {n : T V → AH → Res} {e : Nat → T V → AH → Res} {r : T V → AH → Res} {SB : Tup L → AH → Res} (hb : ∀ t h, exL c lv N F b (mkT L t) h n e r = SB t h) (fr : T V) (h : AH) :
    exL c lv N F X fr h n e r = exL c lv N F a fr h (jk L SB) e r := by rw [hX]; exact nd_norm ha hl hb fr h
theorem nd_cond' {X : Code} {x : Operand} {a b : Code} {fr : T V} {h : AH} {n : T V → AH → Res} {e : Nat → T V → AH → Res} {r : T V → AH → Res} {t : Bool} {A B : Res} (hX : X = .cond x a b) (hx : evO c (foLive lv) fr x = .bool t)
    (ha : exL c lv N F a fr h n e r = A) (hb : exL c lv N F b fr h n e r = B) : exL c lv N F X fr h n e r = bif t then A else B := by rw [hX]; exact nd_cond hx ha hb
theorem nd_block' {X : Code} {id : Nat} {b : Code} {fr : T V} {h : AH} {n : T V → AH → Res} {es : List (Nat × (T V → AH → Res))} {r : T V → AH → Res} {A : Res} (hX : X = .block id b) (hb : exL c lv N F b fr h n (exK ((id, n) :: es)) r = A) : exL c lv N F X fr h n (exK es) r = A := by rw [hX]; exact nd_block hb
theorem nd_loop' {X b : Code} {n : T V → AH → Res} {e : Nat → T V → AH → Res} {r : T V → AH → Res} {L : Slots} (hX : X = .loop b) (hl : lv (preKey b) = some L) {SB : (Tup L → AH → Res) → Tup L → AH → Res}
    (hb : ∀ J t h, exL c lv N F b (mkT L t) h (jk L J) e r = SB J t h) (fr : T V) (h : AH) : exL c lv N F X fr h n e r = rdT (gT fr) L fun t => loopN (Tup L) F (fun t h J => SB J t h) t h := by rw [hX]; exact nd_loop hl hb fr h
end
theorem fn_eq {c : Cfg} {lv : Nat → Option Slots} {F : Nat} {f : FuncId} {args : List V} {h : AH} (fn : Func) (X : Code) (hf : c.P.funcs[f]? = some fn) (hb : fn.body = some X) (hn : args.length ≤ fn.ntmps) :
    execFn c (foLive lv) F f args h = exL c lv fn.ntmps F X (iniT args 0 .leaf) h (fin c (foLive lv) fn) (exK []) (fin c (foLive lv) fn) := by
  unfold execFn
  rw [hf]
  simp only [hb]
  rw [if_pos hn]
  have : (fun (_ : Nat) (_ : T V) (_ : AH) => (none : Res)) = exK [] := by funext a b c; rfl
  exact congrArg (fun x => exec c (foLive lv) fn.ntmps F X (iniT args 0 .leaf) h ⟨fin c (foLive lv) fn, x, fin c (foLive lv) fn⟩) this
def cAt : List Bool → Code → Code
  | [], X => X
  | false :: p, .seq a _ => cAt p a
  | true :: p, .seq _ b => cAt p b
  | false :: p, .cond _ a _ => cAt p a
  | true :: p, .cond _ _ b => cAt p b
  | _ :: p, .block _ b => cAt p b
  | _ :: p, .loop b => cAt p b
  | _ :: _, X => X
def cT : Nat → Code → Code
  | 0, X => X
  | k + 1, X => cT k (cAt [true] X)
def cP : List Nat → Code → Code
  | [], X => X
  | [k], X => cT k X
  | k :: l, X => cP l (cAt [false] (cT k X))
end Go.Proofs.YtcphjmgfgfjnpaaGreatDoor.Ev
namespace Go.Proofs.YtcphjmgfgfjnpaaGreatDoor.Ev
open Go
abbrev Fn := List V → AH → Res
structure Cx where
  C : Nat → Fn
  X : Nat → Fn
  F : Nat
abbrev wr (k : IntKind) (n : Int) : Int := k.wrap n
def iand (k : IntKind) (a b : Int) : Int := k.wrap (BitVec.ofInt k.bits a &&& BitVec.ofInt k.bits b).toNat
def ior (k : IntKind) (a b : Int) : Int := k.wrap (BitVec.ofInt k.bits a ||| BitVec.ofInt k.bits b).toNat
def ixor (k : IntKind) (a b : Int) : Int := k.wrap (BitVec.ofInt k.bits a ^^^ BitVec.ofInt k.bits b).toNat
def iandn (k : IntKind) (a b : Int) : Int := k.wrap (BitVec.ofInt k.bits a &&& ~~~ BitVec.ofInt k.bits b).toNat
def inot (k : IntKind) (n : Int) : Int := k.wrap (BitVec.ofInt k.bits (if k.signed then -1 else k.max) ^^^ BitVec.ofInt k.bits n).toNat
def ishl (k : IntKind) (a b : Int) : Int := k.wrap (a * 2 ^ min b.toNat k.bits)
def ishr (k : IntKind) (a b : Int) : Int := a.fdiv (2 ^ min b.toNat k.bits)
def imax (a b : Int) : Int := if b > a then b else a
def imin (a b : Int) : Int := if b < a then b else a
noncomputable def bV (o : Option V) (h : AH) (F : V → AH → Res) : Res :=
  match o.map fun v => (v, h) with
  | none => none
  | some (v, h') => F v h'
noncomputable def bI (k : IntKind) (o : Option V) (h : AH) (F : Int → AH → Res) : Res := bV o h fun v h => ckI k v fun x => F x h
noncomputable def bB (o : Option V) (h : AH) (F : Bool → AH → Res) : Res := bV o h fun v h => ckB v fun x => F x h
noncomputable def bZ (o : Option V) (h : AH) (F : List Nat → AH → Res) : Res := bV o h fun v h => ckS v fun x => F x h
noncomputable def bA (o : Option V) (h : AH) (F : List V → AH → Res) : Res := bV o h fun v h => ckA v fun x => F x h
noncomputable def cV (o : Res) (F : V → AH → Res) : Res :=
  match o with
  | none => none
  | some (v, h') => F v h'
noncomputable def cI (k : IntKind) (o : Res) (F : Int → AH → Res) : Res := cV o fun v h => ckI k v fun x => F x h
noncomputable def cB (o : Res) (F : Bool → AH → Res) : Res := cV o fun v h => ckB v fun x => F x h
noncomputable def cZ (o : Res) (F : List Nat → AH → Res) : Res := cV o fun v h => ckS v fun x => F x h
noncomputable def cA (o : Res) (F : List V → AH → Res) : Res := cV o fun v h => ckA v fun x => F x h
noncomputable def bS (o : Option AH) (F : AH → Res) : Res :=
  match o.map fun h => (V.bad, h) with
  | none => none
  | some (_, h') => F h'
noncomputable def ld (p : V) (h : AH) : Option V :=
  match p with
  | .ptr a => match readN h a 1 with
    | some [v] => some v
    | _ => none
  | _ => none
noncomputable def ldA (n : Nat) (p : V) (h : AH) : Option V :=
  match p with
  | .ptr a => (readN h a n).map .agg
  | _ => none
noncomputable def st (n : Nat) (p v : V) (h : AH) : Option AH :=
  match p with
  | .ptr a => if true = true ∧ v.cells.length = n then writeN h a v.cells else none
  | _ => none
def fA (off : Nat) (p : V) : Option V :=
  match p with
  | .ptr a => some (.ptr ⟨a.b, a.L, a.o + off⟩)
  | _ => none
def ixA (n z : Nat) (p : V) (i : Int) : Option V :=
  match p with
  | .ptr a => if 0 ≤ i ∧ i < n ∧ true = true then some (.ptr ⟨a.b, a.L, a.o + i.toNat * z⟩) else none
  | _ => none
def ixS (z : Nat) (s : V) (i : Int) : Option V :=
  match s with
  | .slice a n _ _ _ => if 0 ≤ i ∧ i < n ∧ true = true then some (.ptr ⟨a.b, a.L, a.o + i.toNat * z⟩) else none
  | _ => none
def ixC (n z : Nat) (cs : List V) (i : Int) : Option V := if 0 ≤ i ∧ i < n then cs[i.toNat * z]? else none
def ixCA (n z : Nat) (cs : List V) (i : Int) : Option V := if 0 ≤ i ∧ i < n then some (.agg ((cs.drop (i.toNat * z)).take z)) else none
def ixZ (s : List Nat) (i : Int) : Option V := (strAt s i).map fun (b : Nat) => .int .u8 b
noncomputable def slA (n z : Nat) (p : V) (lo hi mx : Option V) (h : AH) : Option V :=
  match p with
  | .ptr a =>
    match h.get a.b with
    | some k => if k.minL ≤ a.L ∧ a.o + n * z ≤ a.L ∧ true = true then cutV a z n n true lo hi mx else none
    | none => none
  | _ => none
def slS (z : Nat) (s : V) (lo hi mx : Option V) : Option V :=
  match s with
  | .slice a n cap ex z' => if z' = z ∧ true = true then cutV a z' n cap ex lo hi mx else none
  | .nilslice =>
    match mx with
    | none =>
      match bnd hi 0 0 with
      | none => none
      | some h' => match bnd lo 0 h' with
        | none => none
        | some _ => if true = true then some .nilslice else none
    | some _ => none
  | .loose =>
    match mx with
    | none =>
      match bnd hi 0 0 with
      | none => none
      | some h' => match bnd lo 0 h' with
        | none => none
        | some _ => if true = true then some .loose else none
    | some _ => none
  | _ => none
def slZ (s : List Nat) (lo hi : Option V) : Option V :=
  match bnd hi s.length s.length with
  | none => none
  | some h' => match bnd lo 0 h' with
    | none => none
    | some l => some (.str ((s.drop l).take (h' - l)))
def lenS (s : V) : Option V :=
  match s with
  | .slice _ n _ _ _ => some (.int .i64 n)
  | .nilslice => some (.int .i64 0)
  | .loose => some (.int .i64 0)
  | _ => none
def capS (s : V) : Option V :=
  match s with
  | .slice _ _ c true _ => some (.int .i64 c)
  | .nilslice => some (.int .i64 0)
  | _ => none
noncomputable def al (zs : List V) (e : Nat) (h : AH) : V × AH := (.ptr ⟨h.next, zs.length, 0⟩, h.add ⟨Arr.make zs.length zs, 0, 0, false, e⟩)
noncomputable def mkS (z by_ : Nat) (zs : List V) (e : Nat) (l c : Int) (h : AH) : Res :=
  if 0 < z ∧ 0 ≤ l ∧ l ≤ c ∧ c ≤ 9223372036854775807 ∧ (by_ : Int) * c ≤ 281474976710656 then
    some (.slice ⟨h.next, c.toNat * z, 0⟩ l.toNat c.toNat true z, h.add ⟨Arr.make (c.toNat * z) zs, 0, 0, false, e⟩)
  else none
def fillW : List (Nat × Nat × V) → List V → Option (List V)
  | [], cs => some cs
  | (off, size, v) :: rest, cs => if v.isBad = false ∧ v.cells.length = size ∧ off + size ≤ cs.length then fillW rest (putL v.cells off cs) else none
def bld (ps : List (Nat × Nat × V)) (zs : List V) : Option V := (fillW ps zs).map .agg
noncomputable def bsl (z n : Nat) (ps : List (Nat × Nat × V)) (zs : List V) (e : Nat) (h : AH) : Res :=
  match fillW ps (List.replicate n zs).flatten with
  | some cs => if cs.all V.cell then some (.slice ⟨h.next, cs.length, 0⟩ n n true z, h.add ⟨Arr.ofList cs, 0, 0, false, e⟩) else none
  | none => none
noncomputable def toS (s : V) (h : AH) : Res :=
  match s with
  | .slice a n cap ex z => (absToStr (.slice a n cap ex z) h).map fun v => (v, h)
  | .nilslice => some (.str [], h)
  | .loose => some (.str [], h)
  | .str s => some (.str s, h)
  | _ => none
def capW (by_ need : Nat) : Bool := Nat.ble need 4611686018427387904 && Nat.ble (Nat.mul (Nat.add (Nat.mul 2 need) 128) by_) 281474976710656
noncomputable def app (z by_ e : Nat) (s x : V) (h : AH) : Res :=
  match srcLen x with
  | none => none
  | some n =>
    match srcCells x z n h with
    | none => none
    | some new =>
      if new.length = n * z then
      match s with
      | .nilslice =>
        if n = 0 then some (.nilslice, h)
        else if capW by_ n = true ∧ new.all V.cell = true then some (.slice ⟨h.next, new.length, 0⟩ n n false z, h.add ⟨Arr.ofList new, 0, 0, false, e⟩)
        else none
      | .loose => if n = 0 then some (.loose, h) else none
      | .slice a sn cap ex z' =>
        if z' = z then
          if sn + n ≤ cap then
            if n = 0 then some (.slice a sn cap ex z', h)
            else (writeN h ⟨a.b, a.L, a.o + sn * z'⟩ new).map fun h' => (.slice a (sn + n) cap ex z', h')
          else if capW by_ (sn + n) = true ∧ new.all V.cell = true then
            if ex then
              match readN h a (sn * z') with
              | some old => if old.all V.cell = true then some (.slice ⟨h.next, (old ++ new).length, 0⟩ (sn + n) (sn + n) false z', h.add ⟨Arr.ofList (old ++ new), 0, 0, false, e⟩) else none
              | none => none
            else
              match h.get a.b with
              | some k =>
                if a.L = k.cells.n ∧ a.o + sn * z' = a.L ∧ k.ro = false ∧ k.minL ≤ a.L ∧ k.fz ≤ a.L ∧ k.e = e then some (.slice ⟨a.b, a.L + new.length, a.o⟩ (sn + n) (sn + n) false z', h.grow a.b k new) else none
              | none => none
          else none
        else none
      | _ => none
      else none
noncomputable def appZ (z by_ : Nat) (zs : List V) (e : Nat) (s : V) (n : Int) (h : AH) : Res :=
  match s with
  | .nilslice =>
    if 0 < z ∧ 0 ≤ n ∧ capW by_ n.toNat = true then
      if n.toNat = 0 then some (.nilslice, h)
      else some (.slice ⟨h.next, n.toNat * z, 0⟩ n.toNat n.toNat false z, h.add ⟨Arr.make (n.toNat * z) zs, 0, 0, false, e⟩)
    else none
  | _ => none
noncomputable def cpy (z : Nat) (d x : V) (h : AH) : Res :=
  match srcLen x, srcLen d with
  | some m, some dn =>
    if Nat.min m dn = 0 then (match d with | .str _ => none | _ => some (.int .i64 0, h)) else
    match srcCells x z (Nat.min m dn) h, d with
    | some cs, .slice a _ _ _ _ => (writeN h a cs).map fun h' => (.int .i64 (Nat.min m dn), h')
    | _, _ => none
  | _, _ => none
def arrAt (n : Nat) (s : V) : Option V :=
  match s with
  | .slice a len _ _ _ => if n ≤ len then some (.ptr a) else none
  | _ => none
noncomputable def quiet (g : AH → Res) (h : AH) : Res :=
  match g ⟨h.next, h.next, h.m⟩ with
  | none => none
  | some (v, h1) => if h.next ≤ h1.low then some (v, ⟨h1.next, h.low, h1.m⟩) else none
def who (f : V) (args : List V) : Option (FuncId × List V) :=
  match f with
  | .func f fs cs => some (f, fs ++ args ++ cs)
  | _ => none
def hasBd (P : Program) (f : FuncId) : Option Bool :=
  match P.funcs[f]? with
  | none => none
  | some fn => if fn.name == "runtime.NumGoroutine" then none else some fn.body.isSome
noncomputable def callW (P : Program) (C X : Nat → Fn) (f : FuncId) (args : List V) (h : AH) : Res :=
  match hasBd P f with
  | some true => C f args h
  | some false => X f args h
  | none => none
noncomputable def dyn (P : Program) (C X : Nat → Fn) (f : V) (args : List V) (h : AH) : Res :=
  match who f args with
  | some (f, args) => callW P C X f args h
  | none => none
noncomputable def dynQ (P : Program) (C X : Nat → Fn) (f : V) (args : List V) (h : AH) : Res :=
  match who f args with
  | some (f, args) => quiet (fun h => callW P C X f args h) h
  | none => none
def eqW (P : Program) (c : Bool) (t : Nat) (x y : V) : Option V := absBin P .eql t (bif c then .const (.bool true) else .tmp 0) (.tmp 0) x y
def neW (P : Program) (c : Bool) (t : Nat) (x y : V) : Option V := absBin P .neq t (bif c then .const (.bool true) else .tmp 0) (.tmp 0) x y
noncomputable def cvt (P : Program) (s d : Nat) (x : V) (h : AH) : Res :=
  match absUnsafePtr P s d x h with
  | some v => some (v, h)
  | none => match absConvNum P s d x with
    | some v => some (v, h)
    | none => bif floatT P d then none else absConvert P s d x h
noncomputable def cvS (e : Nat) (s : V) (h : AH) : Res :=
  match s with
  | .str s => some (absToBytes e s h)
  | .slice a n cap ex z =>
    match h.get a.b with
    | some k => if k.minL ≤ a.L ∧ k.fz = 0 ∧ k.ro = false then some (.slice a n cap ex z, h) else none
    | none => none
  | _ => none
noncomputable def resW : List (Option V) → Option (List V)
  | [] => some []
  | r :: l => match r with
    | none => none
    | some v => match resW l with
      | none => none
      | some vs => some (v :: vs)
noncomputable def finW (l : List (Option V)) (h : AH) : Res := (resW l).map fun vs => (pack vs, h)
end Go.Proofs.YtcphjmgfgfjnpaaGreatDoor.Ev
namespace Go.Proofs.YtcphjmgfgfjnpaaGreatDoor.Ev
open Go
theorem bV_some (v : V) (h : AH) (F : V → AH → Res) : bV (some v) h F = F v h := rfl
theorem cV_some (v : V) (h : AH) (F : V → AH → Res) : cV (some (v, h)) F = F v h := rfl
theorem bI_some (k : IntKind) (n : Int) (h : AH) (F : Int → AH → Res) : bI k (some (.int k n)) h F = F n h := if_pos rfl
theorem cI_some (k : IntKind) (n : Int) (h : AH) (F : Int → AH → Res) : cI k (some (.int k n, h)) F = F n h := if_pos rfl
theorem bB_some (x : Bool) (h : AH) (F : Bool → AH → Res) : bB (some (.bool x)) h F = F x h := rfl
theorem cB_some (x : Bool) (h : AH) (F : Bool → AH → Res) : cB (some (.bool x, h)) F = F x h := rfl
theorem bZ_some (x : List Nat) (h : AH) (F : List Nat → AH → Res) : bZ (some (.str x)) h F = F x h := rfl
theorem cZ_some (x : List Nat) (h : AH) (F : List Nat → AH → Res) : cZ (some (.str x, h)) F = F x h := rfl
theorem bA_some (x : List V) (h : AH) (F : List V → AH → Res) : bA (some (.agg x)) h F = F x h := rfl
theorem bS_some (h : AH) (F : AH → Res) : bS (some h) F = F h := rfl
def AH.WF (h : AH) : Prop := ∀ b k, h.get b = some k → b < h.next
structure Old (n : Nat) (h h' : AH) : Prop where
  next : h.next ≤ h'.next
  get : ∀ b, b < n → h'.get b = h.get b
  low : min h.low n ≤ h'.low
  wf : h'.WF
theorem Old.refl {h : AH} (hw : h.WF) (n : Nat) : Old n h h := ⟨Nat.le_refl _, fun _ _ => rfl, Nat.min_le_left _ _, hw⟩
theorem Old.trans {n : Nat} {a b c : AH} (x : Old n a b) (y : Old n b c) : Old n a c :=
  ⟨Nat.le_trans x.next y.next, fun i hi => (y.get i hi).trans (x.get i hi), by have := x.low; have := y.low; omega, y.wf⟩
theorem Old.weak {n m : Nat} {a b : AH} (x : Old n a b) (hm : m ≤ n) : Old m a b := ⟨x.next, fun i hi => x.get i (by omega), by have := x.low; omega, x.wf⟩
def Cells (h : AH) (b e : Nat) (cs : List V) : Prop := ∃ k, h.get b = some k ∧ k.cells.n = cs.length ∧ (∀ j, k.cells.get j = cs[j]?) ∧ k.ro = false ∧ k.fz = 0 ∧ k.minL ≤ cs.length ∧ k.e = e ∧ cs.all V.cell = true
theorem Cells.lt {h : AH} {b e : Nat} {cs : List V} (hc : Cells h b e cs) (hw : h.WF) : b < h.next := let ⟨k, h1, _⟩ := hc; hw b k h1
theorem Cells.mono {h h' : AH} {b e : Nat} {cs : List V} (hc : Cells h b e cs) (hg : h'.get b = h.get b) : Cells h' b e cs := let ⟨k, h1, h2⟩ := hc; ⟨k, hg.trans h1, h2⟩
theorem readN_of {h : AH} {a : A} {k : Blk} {n : Nat} {cs : List V} (hk : h.get a.b = some k) (h1 : k.minL ≤ a.L) (h2 : a.L ≤ k.cells.n) (h3 : a.o + n ≤ a.L) (hl : cs.length = n) (hget : ∀ j v, cs[j]? = some v → k.cells.get (a.o + j) = some v) : readN h a n = some cs := by
  rw [readN_eq, hk]
  simp only [Option.bind_some]
  rw [if_pos ⟨h1, h2, h3⟩, ← hl]
  exact readL_of hget
theorem Cells.read {h : AH} {b e : Nat} {cs : List V} (hc : Cells h b e cs) {L o n : Nat} (hL : L = cs.length) (ho : o + n ≤ cs.length) : readN h ⟨b, L, o⟩ n = some ((cs.drop o).take n) := by
  obtain ⟨k, h1, h2, h3, h4, h5, h6, h7⟩ := hc
  subst hL
  refine readN_of h1 h6 (by simp only; omega) ho (by rw [List.length_take, List.length_drop]; omega) fun j v hj => ?_
  rw [h3]
  have hlt : j < n := by
    have := (List.getElem?_eq_some_iff.1 hj).1
    rw [List.length_take] at this
    omega
  rw [List.getElem?_take_of_lt hlt, List.getElem?_drop] at hj
  exact hj
theorem Cells.read1 {h : AH} {b e : Nat} {cs : List V} (hc : Cells h b e cs) {L o : Nat} (hL : L = cs.length) {v : V} (hv : cs[o]? = some v) : readN h ⟨b, L, o⟩ 1 = some [v] := by
  have hlt := (List.getElem?_eq_some_iff.1 hv).1
  rw [hc.read hL (by omega)]
  congr 1
  rw [List.take_one, List.head?_drop, hv]; rfl
theorem Cells.write {h : AH} {b e : Nat} {cs : List V} (hc : Cells h b e cs) (hw : h.WF) {L o : Nat} (hL : L = cs.length) {vs : List V} (hv : vs.all V.cell = true) (ho : o + vs.length ≤ cs.length) :
    ∃ h', writeN h ⟨b, L, o⟩ vs = some h' ∧ Cells h' b e (putL vs o cs) ∧ h'.next = h.next ∧ h'.low = min h.low b ∧ (∀ b', b' ≠ b → h'.get b' = h.get b') ∧ h'.WF := by
  obtain ⟨k, h1, h2, h3, h4, h5, h6, h7, h8⟩ := hc
  subst hL
  have e1 : writeN h ⟨b, cs.length, o⟩ vs = some ⟨h.next, Nat.min h.low b, h.m.set b ⟨setL vs o k.cells, cs.length, k.fz, k.ro, k.e⟩⟩ := by
    have e : writeN h ⟨b, cs.length, o⟩ vs = Option.rec (motive := fun _ => Option AH) none (fun k => bif Nat.beq cs.length k.cells.n && (Nat.ble k.minL cs.length && (Nat.ble k.fz o && (Nat.ble (o + vs.length) cs.length && (vs.all V.cell && not k.ro)))) then
      some ⟨h.next, Nat.min h.low b, h.m.set b ⟨setL vs o k.cells, cs.length, k.fz, k.ro, k.e⟩⟩ else none) (h.get b) := rfl
    rw [e, h1]
    have c1 : Nat.beq cs.length k.cells.n = true := by rw [h2]; simp
    have c2 : Nat.ble k.minL cs.length = true := Nat.ble_eq_true_of_le h6
    have c3 : Nat.ble k.fz o = true := by rw [h5]; exact Nat.ble_eq_true_of_le (Nat.zero_le _)
    have c4 : Nat.ble (o + vs.length) cs.length = true := Nat.ble_eq_true_of_le ho
    simp only [c1, c2, c3, c4, hv, h4, Bool.not_false, Bool.and_self, cond_true]
  refine ⟨_, e1, ⟨⟨setL vs o k.cells, cs.length, k.fz, k.ro, k.e⟩, by rw [AH.get_set, if_pos rfl], ?_, ?_, h4, h5, ?_, h7, ?_⟩, rfl, rfl, fun b' hb' => by rw [AH.get_set, if_neg hb'], ?_⟩
  · simp only; rw [setL_n, h2]; simp only [putL, List.length_append, List.length_take, List.length_drop]; omega
  · intro j
    simp only
    rw [get_setL _ _ _ _ (by omega), h3]
    unfold putL
    by_cases hj : o ≤ j ∧ j < o + vs.length
    · rw [if_pos hj, List.append_assoc, List.getElem?_append_right (by rw [List.length_take]; omega), List.length_take, Nat.min_eq_left (by omega), List.getElem?_append_left (by omega)]
    · rw [if_neg hj]
      by_cases hj2 : j < o
      · rw [List.append_assoc, List.getElem?_append_left (by rw [List.length_take]; omega), List.getElem?_take_of_lt hj2]
      · rw [List.append_assoc, List.getElem?_append_right (by rw [List.length_take]; omega), List.length_take, Nat.min_eq_left (by omega), List.getElem?_append_right (by omega), List.getElem?_drop]
        congr 1
        omega
  · simp only [putL, List.length_append, List.length_take, List.length_drop]; omega
  · have hall : ∀ x ∈ cs, x.cell = true := List.all_eq_true.1 h8
    rw [List.all_eq_true]
    intro x hx
    simp only [putL, List.mem_append] at hx
    rcases hx with (hx | hx) | hx
    · exact hall x (List.mem_of_mem_take hx)
    · exact List.all_eq_true.1 hv x hx
    · exact hall x (List.mem_of_mem_drop hx)
  · intro b' k' hk'
    rw [AH.get_set] at hk'
    by_cases hb : b' = b
    · subst hb; exact hw _ _ h1
    · rw [if_neg hb] at hk'; exact hw _ _ hk'
theorem putL_one (v : V) (o : Nat) (cs : List V) (ho : o < cs.length) : putL [v] o cs = cs.set o v := by
  unfold putL
  simp only [List.length_cons, List.length_nil, Nat.zero_add]
  rw [List.set_eq_take_append_cons_drop, if_pos ho, List.append_assoc]; rfl
theorem putL_all (vs cs : List V) (h : vs.length = cs.length) : putL vs 0 cs = vs := by
  unfold putL
  simp [h]
theorem add_cells {h : AH} (hw : h.WF) (c : Arr) (e : Nat) {cs : List V} (hn : c.n = cs.length) (hg : ∀ j, c.get j = cs[j]?) (ha : cs.all V.cell = true) :
    Cells (h.add ⟨c, 0, 0, false, e⟩) h.next e cs ∧ (h.add ⟨c, 0, 0, false, e⟩).next = h.next + 1 ∧ Old h.next h (h.add ⟨c, 0, 0, false, e⟩) := by
  refine ⟨⟨_, by rw [AH.get_add, if_pos rfl], hn, hg, rfl, rfl, Nat.zero_le _, rfl, ha⟩, rfl, ⟨Nat.le_succ _, fun b hb => by rw [AH.get_add, if_neg (by omega)], Nat.min_le_left _ _, ?_⟩⟩
  intro b k hk
  rw [AH.get_add] at hk
  by_cases hb : b = h.next
  · subst hb; exact Nat.lt_succ_self _
  · rw [if_neg hb] at hk; exact Nat.lt_succ_of_lt (hw _ _ hk)
theorem al_cells {h : AH} (hw : h.WF) (zs : List V) (e : Nat) (hz : zs.all V.cell = true) (h0 : zs ≠ []) : Cells (al zs e h).2 h.next e zs ∧ (al zs e h).1 = .ptr ⟨h.next, zs.length, 0⟩ ∧ (al zs e h).2.next = h.next + 1 ∧ Old h.next h (al zs e h).2 := by
  obtain ⟨h1, h2, h3⟩ := add_cells hw (Arr.make zs.length zs) e (cs := zs) rfl (fun j => by
    rw [Arr.get_make]
    by_cases hj : j < zs.length
    · rw [if_pos hj, Nat.mod_eq_of_lt hj]
    · rw [if_neg hj, List.getElem?_eq_none (by omega)]) hz
  exact ⟨h1, rfl, h2, h3⟩
theorem ld_of {h : AH} {a : A} {v : V} (hr : readN h a 1 = some [v]) : ld (.ptr a) h = some v := by simp only [ld, hr]
theorem ldA_of {h : AH} {a : A} {n : Nat} {cs : List V} (hr : readN h a n = some cs) : ldA n (.ptr a) h = some (.agg cs) := by simp only [ldA, hr]; rfl
theorem st_of {h h' : AH} {a : A} {v : V} {n : Nat} (hn : v.cells.length = n) (hw : writeN h a v.cells = some h') : st n (.ptr a) v h = some h' := by
  simp only [st]
  rw [if_pos ⟨trivial, hn⟩, hw]
def Sl (z : Nat) (h : AH) (v : V) (n : Nat) (cs : List V) : Prop :=
  cs.length = n * z ∧ ((n = 0 ∧ (v = .nilslice ∨ v = .loose)) ∨ ∃ a cap ex, v = .slice a n cap ex z ∧ n ≤ cap ∧ readN h a (n * z) = some cs)
theorem readN_alive {h : AH} {a : A} {n : Nat} {cs : List V} (hr : readN h a n = some cs) : ∃ k, h.get a.b = some k ∧ k.minL ≤ a.L ∧ a.L ≤ k.cells.n ∧ a.o + n ≤ a.L ∧ readL k.cells n a.o = some cs := by
  rw [readN_eq] at hr
  cases hk : h.get a.b with
  | none => rw [hk] at hr; cases hr
  | some k =>
    rw [hk] at hr
    simp only [Option.bind_some] at hr
    split at hr
    · rename_i hc; exact ⟨k, rfl, hc.1, hc.2.1, hc.2.2, hr⟩
    · cases hr
theorem readN_part {h : AH} {a : A} {n : Nat} {cs : List V} (hr : readN h a n = some cs) {o m : Nat} (ho : o + m ≤ n) : readN h ⟨a.b, a.L, a.o + o⟩ m = some ((cs.drop o).take m) := by
  obtain ⟨k, h1, h2, h3, h4, h5⟩ := readN_alive hr
  obtain ⟨h6, h7⟩ := readL_spec h5
  refine readN_of h1 h2 h3 (by simp only; omega) (by rw [List.length_take, List.length_drop]; omega) fun j v hj => ?_
  have hlt : j < m := by
    have := (List.getElem?_eq_some_iff.1 hj).1
    rw [List.length_take] at this
    omega
  rw [List.getElem?_take_of_lt hlt, List.getElem?_drop] at hj
  have := h7 (o + j) v hj
  simp only
  rw [Nat.add_assoc]
  exact this
theorem readN_mono {h h' : AH} {a : A} {n : Nat} {cs : List V} (hr : readN h a n = some cs) (hg : h'.get a.b = h.get a.b) : readN h' a n = some cs := by rw [readN_eq] at hr ⊢; rw [hg]; exact hr
theorem Sl.mono {z : Nat} {h h' : AH} {v : V} {n : Nat} {cs : List V} {m : Nat} (hs : Sl z h v n cs) (hw : h.WF) (hm : ∀ b, b < h.next → h'.get b = h.get b) : Sl z h' v n cs := by
  obtain ⟨h1, h2 | ⟨a, cap, ex, h2, h3, h4⟩⟩ := hs
  · exact ⟨h1, .inl h2⟩
  · obtain ⟨k, hk, _⟩ := readN_alive h4
    exact ⟨h1, .inr ⟨a, cap, ex, h2, h3, readN_mono h4 (hm _ (hw _ _ hk))⟩⟩
theorem Sl.old {z : Nat} {h h' : AH} {v : V} {n : Nat} {cs : List V} (hs : Sl z h v n cs) (hw : h.WF) (ho : Old h.next h h') : Sl z h' v n cs := Sl.mono (m := 0) hs hw ho.get
theorem Sl.len {z : Nat} {h : AH} {v : V} {n : Nat} {cs : List V} (hs : Sl z h v n cs) : lenS v = some (.int .i64 n) := by
  obtain ⟨h1, ⟨rfl, rfl | rfl⟩ | ⟨a, cap, ex, rfl, h3, h4⟩⟩ := hs <;> rfl
theorem Sl.ix {z : Nat} {h : AH} {v : V} {n : Nat} {cs : List V} (hs : Sl z h v n cs) {i : Int} (h0 : 0 ≤ i) (hi : i < n) : ∃ a, ixS z v i = some (.ptr a) ∧ readN h a z = some ((cs.drop (i.toNat * z)).take z) := by
  obtain ⟨h1, ⟨rfl, _⟩ | ⟨a, cap, ex, rfl, h3, h4⟩⟩ := hs
  · omega
  · refine ⟨⟨a.b, a.L, a.o + i.toNat * z⟩, ?_, readN_part h4 ?_⟩
    · simp only [ixS]
      rw [if_pos ⟨h0, hi, trivial⟩]
    · have : (i.toNat + 1) * z ≤ n * z := Nat.mul_le_mul_right z (by omega)
      rw [Nat.add_mul] at this
      omega
theorem Sl.ix1 {h : AH} {v : V} {n : Nat} {cs : List V} (hs : Sl 1 h v n cs) {i : Int} (h0 : 0 ≤ i) (hi : i < n) {x : V} (hx : cs[i.toNat]? = some x) : ∃ a, ixS 1 v i = some (.ptr a) ∧ readN h a 1 = some [x] := by
  obtain ⟨a, h1, h2⟩ := hs.ix h0 hi
  refine ⟨a, h1, h2.trans ?_⟩
  congr 1
  rw [Nat.mul_one, List.take_one, List.head?_drop, hx]; rfl
theorem Sl.cut {z : Nat} {h : AH} {v : V} {n : Nat} {cs : List V} (hs : Sl z h v n cs) (hz : 0 < z) {lo hi : Option V} {l u : Nat} (hhi : (hi = none ∧ u = n) ∨ hi = some (.int .i64 u)) (hlo : (lo = none ∧ l = 0) ∨ lo = some (.int .i64 l)) (hlu : l ≤ u) (hun : u ≤ n) :
    ∃ v', slS z v lo hi none = some v' ∧ Sl z h v' (u - l) ((cs.drop (l * z)).take ((u - l) * z)) := by
  have hlen : ((cs.drop (l * z)).take ((u - l) * z)).length = (u - l) * z := by
    rw [List.length_take, List.length_drop, hs.1]
    have : u * z ≤ n * z := Nat.mul_le_mul_right z hun
    have e : (u - l) * z = u * z - l * z := Nat.sub_mul u l z
    omega
  have bhi : ∀ lim, u ≤ lim → bnd hi n lim = some u := by
    intro lim hl
    rcases hhi with ⟨rfl, rfl⟩ | rfl
    · rfl
    · show (if 0 ≤ (u : Int) ∧ (u : Int) ≤ lim then some (u : Int).toNat else none) = _
      rw [if_pos (by omega)]; simp
  have blo : bnd lo 0 u = some l := by
    rcases hlo with ⟨rfl, rfl⟩ | rfl
    · rfl
    · show (if 0 ≤ (l : Int) ∧ (l : Int) ≤ u then some (l : Int).toNat else none) = _
      rw [if_pos (by omega)]; simp
  obtain ⟨h1, ⟨rfl, h2⟩ | ⟨a, cap, ex, rfl, h3, h4⟩⟩ := hs
  · obtain rfl : u = 0 := by omega
    obtain rfl : l = 0 := by omega
    have b0 := bhi 0 (Nat.le_refl _)
    rcases h2 with rfl | rfl
    · exact ⟨.nilslice, by simp only [slS, b0, blo, if_pos], hlen, .inl ⟨rfl, .inl rfl⟩⟩
    · exact ⟨.loose, by simp only [slS, b0, blo, if_pos], hlen, .inl ⟨rfl, .inr rfl⟩⟩
  · have bc := bhi cap (by omega)
    have hrd : readN h ⟨a.b, a.L, a.o + l * z⟩ ((u - l) * z) = some ((cs.drop (l * z)).take ((u - l) * z)) := readN_part h4 (by
      have : u * z ≤ n * z := Nat.mul_le_mul_right z hun
      have e : (u - l) * z = u * z - l * z := Nat.sub_mul u l z
      have e2 : l * z ≤ u * z := Nat.mul_le_mul_right z hlu
      omega)
    have hcut : slS z (.slice a n cap ex z) lo hi none = (if ex then some (if cap = l then .slice a (u - l) (cap - l) true z else .slice ⟨a.b, a.L, a.o + l * z⟩ (u - l) (cap - l) true z) else if l < cap then some (.slice ⟨a.b, a.L, a.o + l * z⟩ (u - l) (cap - l) false z) else some .loose) := by
      simp only [slS, and_self, if_true, cutV, bc, blo]
    rw [hcut]
    cases ex with
    | true =>
      by_cases hcl : cap = l
      · simp only [if_true, if_pos hcl]
        refine ⟨_, rfl, hlen, .inr ⟨a, cap - l, true, rfl, by omega, ?_⟩⟩
        have h0 : u - l = 0 := by omega
        rw [h0, Nat.zero_mul, List.take_zero]
        have := readN_part h4 (o := 0) (m := 0) (by omega)
        simpa using this
      · simp only [if_true, if_neg hcl]
        exact ⟨_, rfl, hlen, .inr ⟨_, _, _, rfl, by omega, hrd⟩⟩
    | false =>
      by_cases hcl : l < cap
      · simp only [Bool.false_eq_true, if_false, if_pos hcl]
        exact ⟨_, rfl, hlen, .inr ⟨_, _, _, rfl, by omega, hrd⟩⟩
      · simp only [Bool.false_eq_true, if_false, if_neg hcl]
        exact ⟨_, rfl, hlen, .inl ⟨by omega, .inr rfl⟩⟩
theorem Sl.arr {h : AH} {v : V} {n m : Nat} {cs : List V} {z : Nat} (hs : Sl z h v n cs) (hm : m ≤ n) (h0 : 0 < m) : ∃ a, arrAt m v = some (.ptr a) ∧ readN h a (m * z) = some (cs.take (m * z)) := by
  obtain ⟨h1, ⟨rfl, _⟩ | ⟨a, cap, ex, rfl, h3, h4⟩⟩ := hs
  · omega
  · refine ⟨a, ?_, ?_⟩
    · simp only [arrAt]; rw [if_pos hm]
    · have := readN_part h4 (o := 0) (m := m * z) (by have := Nat.mul_le_mul_right z hm; omega)
      simpa using this
def byteL (l : List Nat) : List V := l.map byteV
theorem byteL_len (l : List Nat) : (byteL l).length = l.length := List.length_map ..
theorem byteL_get (l : List Nat) (i : Nat) : (byteL l)[i]? = (l[i]?).map byteV := List.getElem?_map ..
theorem byteL_drop (l : List Nat) (n : Nat) : (byteL l).drop n = byteL (l.drop n) := (List.map_drop ..).symm
theorem byteL_take (l : List Nat) (n : Nat) : (byteL l).take n = byteL (l.take n) := (List.map_take ..).symm
theorem toBytes_byteL : ∀ {l : List Nat}, (∀ x ∈ l, x < 256) → toBytes (byteL l) = some l := by
  intro l
  induction l with
  | nil => intro _; rfl
  | cons a l ih =>
    intro h
    show (match byteOf (byteV a), toBytes (byteL l) with | some n, some r => some (n :: r) | _, _ => none) = _
    rw [ih (fun x hx => h x (by simp [hx]))]
    have ha := h a (by simp)
    show (match some (Nat.mod ((a : Int)).toNat 256), some l with | some n, some r => some (n :: r) | _, _ => none) = _
    have : Nat.mod ((a : Int)).toNat 256 = a := by
      show ((a : Int)).toNat % 256 = a
      rw [Int.toNat_natCast, Nat.mod_eq_of_lt ha]
    rw [this]
def Bs (h : AH) (v : V) (l : List Nat) : Prop := Sl 1 h v l.length (byteL l) ∧ ∀ x ∈ l, x < 256
theorem Bs.toS {h : AH} {v : V} {l : List Nat} (hb : Bs h v l) : toS v h = some (.str l, h) := by
  obtain ⟨⟨h1, h2⟩, h3⟩ := hb
  rcases h2 with ⟨h0, rfl | rfl⟩ | ⟨a, cap, ex, rfl, h4, h5⟩
  · rw [List.eq_nil_of_length_eq_zero h0]; rfl
  · rw [List.eq_nil_of_length_eq_zero h0]; rfl
  · show (absToStr (.slice a l.length cap ex 1) h).map (fun v => (v, h)) = _
    rw [Nat.mul_one] at h5
    simp only [absToStr, h5, Option.bind_some, toBytes_byteL h3, Option.map_some]
theorem Bs.old {h h' : AH} {v : V} {l : List Nat} (hb : Bs h v l) (hw : h.WF) (ho : Old h.next h h') : Bs h' v l := ⟨hb.1.old hw ho, hb.2⟩
theorem Bs.ld {h : AH} {v : V} {l : List Nat} (hb : Bs h v l) {i : Int} (h0 : 0 ≤ i) (hi : i < l.length) : ∃ a, ixS 1 v i = some (.ptr a) ∧ Ev.ld (.ptr a) h = some (.int .u8 (l.getD i.toNat 0 : Nat)) := by
  have hlt : i.toNat < l.length := by omega
  obtain ⟨a, h1, h2⟩ := hb.1.ix1 h0 hi (x := byteV l[i.toNat]) (by rw [byteL_get, List.getElem?_eq_getElem hlt]; rfl)
  exact ⟨a, h1, by rw [ld_of h2, List.getD_eq_getElem?_getD, List.getElem?_eq_getElem hlt]; rfl⟩
theorem Bs.cut {h : AH} {v : V} {ns : List Nat} (hb : Bs h v ns) {lo hi : Option V} {l u : Nat} (hhi : (hi = none ∧ u = ns.length) ∨ hi = some (.int .i64 u)) (hlo : (lo = none ∧ l = 0) ∨ lo = some (.int .i64 l)) (hlu : l ≤ u) (hun : u ≤ ns.length) :
    ∃ v', slS 1 v lo hi none = some v' ∧ Bs h v' ((ns.drop l).take (u - l)) := by
  obtain ⟨v', h1, h2⟩ := hb.1.cut (by omega) hhi hlo hlu hun
  refine ⟨v', h1, ?_, fun x hx => hb.2 x (List.mem_of_mem_drop (List.mem_of_mem_take hx))⟩
  have hl : ((ns.drop l).take (u - l)).length = u - l := by rw [List.length_take, List.length_drop]; omega
  rw [hl]
  simpa [byteL_drop, byteL_take] using h2
theorem Bs.arr {h : AH} {v : V} {l : List Nat} (hb : Bs h v l) {m : Nat} (hm : m ≤ l.length) (h0 : 0 < m) : ∃ a, arrAt m v = some (.ptr a) ∧ readN h a m = some (byteL (l.take m)) := by
  obtain ⟨a, h1, h2⟩ := hb.1.arr hm h0
  exact ⟨a, h1, by simpa [byteL_take] using h2⟩
def Own (n0 z e : Nat) (h : AH) (v : V) (n : Nat) (cs : List V) : Prop :=
  cs.length = n * z ∧ ((n = 0 ∧ v = .nilslice) ∨ ∃ b cap ex rest, v = .slice ⟨b, cap * z, 0⟩ n cap ex z ∧ n0 ≤ b ∧ n ≤ cap ∧ (cs ++ rest).length = cap * z ∧ (ex = false → n = cap) ∧ Cells h b e (cs ++ rest))
theorem Own.sl {n0 z e : Nat} {h : AH} {v : V} {n : Nat} {cs : List V} (ho : Own n0 z e h v n cs) : Sl z h v n cs := by
  obtain ⟨h1, ⟨rfl, rfl⟩ | ⟨b, cap, ex, rest, rfl, h2, h3, h4, h5, h6⟩⟩ := ho
  · exact ⟨h1, .inl ⟨rfl, .inl rfl⟩⟩
  · refine ⟨h1, .inr ⟨_, _, _, rfl, h3, ?_⟩⟩
    rw [h6.read h4.symm (by rw [Nat.zero_add, h4]; exact Nat.mul_le_mul_right z h3), List.drop_zero, ← h1, List.take_left']
    rfl
theorem Own.mono {n0 z e : Nat} {h h' : AH} {v : V} {n : Nat} {cs : List V} (ho : Own n0 z e h v n cs) (hw : h.WF) (hg : ∀ b, b < h.next → h'.get b = h.get b) : Own n0 z e h' v n cs := by
  obtain ⟨h1, h2 | ⟨b, cap, ex, rest, rfl, h2, h3, h4, h5, h6⟩⟩ := ho
  · exact ⟨h1, .inl h2⟩
  · exact ⟨h1, .inr ⟨b, cap, ex, rest, rfl, h2, h3, h4, h5, h6.mono (hg _ (h6.lt hw))⟩⟩
def notIn (v : V) (b : Nat) : Prop := match v with
  | .slice a _ _ _ _ => b ≠ a.b
  | _ => True
theorem app_own {n0 z e by_ : Nat} {h : AH} {v x : V} {n m : Nat} {cs ns : List V} (ho : Own n0 z e h v n cs) (hw : h.WF) (hn0 : n0 ≤ h.next) (hz : 0 < z) (hx : srcLen x = some m) (hc : srcCells x z m h = some ns) (hl : ns.length = m * z) (hcell : ns.all V.cell = true) (hcap : capW by_ (n + m) = true) :
    ∃ v' h', app z by_ e v x h = some (v', h') ∧ Own n0 z e h' v' (n + m) (cs ++ ns) ∧ Old n0 h h' ∧ (∀ b, b < h.next → notIn v b → h'.get b = h.get b) ∧ (∀ b, b < h.next → notIn v b → notIn v' b) := by
  obtain ⟨h1, ⟨rfl, rfl⟩ | ⟨b, cap, ex, rest, rfl, h2, h3, h4, h5, h6⟩⟩ := ho
  · have hcs : cs = [] := List.eq_nil_of_length_eq_zero (by rw [h1, Nat.zero_mul])
    subst hcs
    by_cases hm : m = 0
    · subst hm
      have hns : ns = [] := List.eq_nil_of_length_eq_zero (by rw [hl, Nat.zero_mul])
      subst hns
      refine ⟨.nilslice, h, ?_, ⟨by simp, .inl ⟨rfl, rfl⟩⟩, Old.refl hw _, fun _ _ _ => rfl, fun _ _ h => h⟩
      simp only [app, hx, hc, hl, if_true]
    · obtain ⟨g1, g2, g3⟩ := add_cells hw (Arr.ofList ns) e (cs := ns) (Arr.ofList_n ns) (Arr.get_ofList ns) hcell
      rw [Nat.zero_add] at hcap
      refine ⟨.slice ⟨h.next, ns.length, 0⟩ m m false z, _, ?_, ⟨by simp [hl], .inr ⟨h.next, m, false, [], ?_, hn0, by omega, by simp [hl], fun _ => by omega, by simpa using g1⟩⟩, g3.weak hn0, fun b hb _ => g3.get b hb, fun b hb _ => (show b ≠ h.next by omega)⟩
      · simp only [app, hx, hc, hl, if_true, if_neg hm, hcap, hcell, and_self]
      · rw [hl, Nat.zero_add]
  · have hlt := h6.lt hw
    by_cases hfit : n + m ≤ cap
    · by_cases hm : m = 0
      · subst hm
        have hns : ns = [] := List.eq_nil_of_length_eq_zero (by rw [hl, Nat.zero_mul])
        subst hns
        refine ⟨_, h, ?_, ⟨by simp [h1], .inr ⟨b, cap, ex, rest, rfl, h2, h3, by simpa using h4, h5, by simpa using h6⟩⟩, Old.refl hw _, fun _ _ _ => rfl, fun _ _ h => h⟩
        simp only [app, hx, hc, hl, if_true, Nat.add_zero, if_pos h3]
      · have hrest : rest.length = (cap - n) * z := by
          rw [List.length_append, h1] at h4
          rw [Nat.sub_mul]; omega
        have hroom : m * z ≤ rest.length := by rw [hrest]; exact Nat.mul_le_mul_right z (by omega)
        obtain ⟨h', w1, w2, w3, w4, w5, w6⟩ := h6.write hw (L := cap * z) (o := n * z) h4.symm hcell (by rw [List.length_append, h1, hl]; omega)
        have hput : putL ns (n * z) (cs ++ rest) = (cs ++ ns) ++ rest.drop (m * z) := by
          unfold putL
          rw [← h1, List.take_left' rfl, hl, List.drop_append]
          simp
        rw [hput] at w2
        refine ⟨.slice ⟨b, cap * z, 0⟩ (n + m) cap ex z, h', ?_, ⟨by rw [List.length_append, h1, hl, Nat.add_mul], .inr ⟨b, cap, ex, rest.drop (m * z), rfl, h2, hfit, ?_, (fun he => by have := h5 he; omega), w2⟩⟩, ⟨by omega, fun b' hb' => w5 b' (by omega), by rw [w4]; omega, w6⟩, fun b' _ hb' => w5 b' hb', fun _ _ h => h⟩
        · simp only [app, hx, hc, hl, if_true, if_pos hfit, if_neg hm, Nat.zero_add, w1]; rfl
        · rw [List.length_append, List.length_append, h1, hl, List.length_drop]
          rw [List.length_append, h1] at h4
          omega
    · cases ex with
      | true =>
        have hrd : readN h ⟨b, cap * z, 0⟩ (n * z) = some cs := by
          rw [h6.read h4.symm (by rw [Nat.zero_add, h4]; exact Nat.mul_le_mul_right z h3), List.drop_zero, ← h1, List.take_left' rfl]
        have hcc : cs.all V.cell = true := by
          obtain ⟨_, _, _, _, _, _, _, _, h8⟩ := h6
          rw [List.all_append, Bool.and_eq_true] at h8
          exact h8.1
        have hall : (cs ++ ns).all V.cell = true := by rw [List.all_append, hcc, hcell]; rfl
        obtain ⟨g1, g2, g3⟩ := add_cells hw (Arr.ofList (cs ++ ns)) e (cs := cs ++ ns) (Arr.ofList_n _) (Arr.get_ofList _) hall
        have hlen : (cs ++ ns).length = (n + m) * z := by rw [List.length_append, h1, hl, Nat.add_mul]
        refine ⟨.slice ⟨h.next, (cs ++ ns).length, 0⟩ (n + m) (n + m) false z, _, ?_, ⟨hlen, .inr ⟨h.next, n + m, false, [], by rw [hlen], hn0, by omega, by simpa using hlen, fun _ => rfl, by simpa using g1⟩⟩, g3.weak hn0, fun b hb _ => g3.get b hb, fun b hb _ => (show b ≠ h.next by omega)⟩
        simp only [app, hx, hc, hl, if_true, if_neg hfit, hcap, hcell, and_self, hrd, hcc]
      | false =>
        have hnc := h5 rfl
        subst hnc
        obtain ⟨k, k1, k2, k3, k4, k5, k6, k7, k8⟩ := id h6
        have hrest : rest = [] := by
          rw [List.length_append, h1] at h4
          exact List.eq_nil_of_length_eq_zero (by omega)
        subst hrest
        simp only [List.append_nil] at k2 k3 k6 k8 h4
        have hlen : (cs ++ ns).length = (n + m) * z := by rw [List.length_append, h1, hl, Nat.add_mul]
        have hcond : n * z = k.cells.n ∧ 0 + n * z = n * z ∧ k.ro = false ∧ k.minL ≤ n * z ∧ k.fz ≤ n * z ∧ k.e = e := ⟨by rw [k2, h1], by omega, k4, by omega, by omega, k7⟩
        refine ⟨.slice ⟨b, n * z + ns.length, 0⟩ (n + m) (n + m) false z, h.grow b k ns, ?_, ⟨hlen, .inr ⟨b, n + m, false, [], by rw [hl, Nat.add_mul], h2, Nat.le_refl _, by simpa using hlen, fun _ => rfl, ?_⟩⟩, ?_, ?_, fun _ _ h => h⟩
        · simp only [app, hx, hc, hl, if_true, if_neg hfit, hcap, hcell, and_self, Bool.false_eq_true, if_false, k1]
          rw [if_pos (by simpa using hcond)]
        · rw [List.append_nil]
          refine ⟨k.more ns, by rw [AH.get_grow, if_pos rfl], ?_, ?_, k4, k5, ?_, k7, by rw [List.all_append, k8, hcell]; rfl⟩
          · show (Arr.pushAll ns k.cells).n = _
            rw [Arr.pushAll_n, k2, List.length_append]
          · intro j
            show (Arr.pushAll ns k.cells).get j = _
            rw [Arr.get_pushAll, k2, k3]
            by_cases hj : j < cs.length
            · rw [if_pos hj, List.getElem?_append_left hj]
            · rw [if_neg hj, List.getElem?_append_right (by omega)]
          · show k.minL ≤ _
            rw [List.length_append]; omega
        · refine ⟨Nat.le_refl _, fun b' hb' => by rw [AH.get_grow, if_neg (by omega)], ?_, ?_⟩
          · show min h.low n0 ≤ Nat.min h.low b
            have : Nat.min h.low b = min h.low b := rfl
            omega
          · intro b' k' hk'
            rw [AH.get_grow] at hk'
            by_cases hb : b' = b
            · subst hb; exact hlt
            · rw [if_neg hb] at hk'; exact hw _ _ hk'
        · intro b' _ hb'
          rw [AH.get_grow, if_neg hb']
end Go.Proofs.YtcphjmgfgfjnpaaGreatDoor.Ev
namespace Go.Proofs.YtcphjmgfgfjnpaaGreatDoor.Ev
open Go
theorem wr_i64 {x : Int} (h1 : -9223372036854775808 ≤ x) (h2 : x ≤ 9223372036854775807) : IntKind.wrap .i64 x = x := by
  unfold IntKind.wrap
  have e : (if (IntKind.i64.signed && decide (x % 2 ^ IntKind.i64.bits ≥ 2 ^ (IntKind.i64.bits - 1))) = true then x % 2 ^ IntKind.i64.bits - 2 ^ IntKind.i64.bits else x % 2 ^ IntKind.i64.bits) = if x % 18446744073709551616 ≥ 9223372036854775808 then x % 18446744073709551616 - 18446744073709551616 else x % 18446744073709551616 := by
    have h1 : (IntKind.i64.signed && decide (x % 2 ^ IntKind.i64.bits ≥ 2 ^ (IntKind.i64.bits - 1))) = decide (x % 18446744073709551616 ≥ 9223372036854775808) := rfl
    rw [h1]
    simp only [decide_eq_true_eq]
    rfl
  refine Eq.trans e ?_
  split <;> omega
theorem loop_rule {S : Type} {body : S → AH → (S → AH → Res) → Res} {out : Res → Prop} (Inv : Nat → S → AH → Prop)
    (step : ∀ k s h n, Inv (k + 1) s h → (∃ s' h', body s h n = n s' h' ∧ Inv k s' h') ∨ out (body s h n)) (last : ∀ s h n, Inv 0 s h → out (body s h n)) :
    ∀ (m F : Nat) (s : S) (h : AH), Inv m s h → m < F → out (loopN S F body s h) := by
  intro m
  induction m with
  | zero =>
    intro F s h hI hF
    cases F with
    | zero => omega
    | succ F => exact last s h _ hI
  | succ m ih =>
    intro F s h hI hF
    cases F with
    | zero => omega
    | succ F =>
      rcases step m s h (loopN S F body) hI with ⟨s', h', e, hI'⟩ | ho
      · show out (body s h (loopN S F body))
        rw [e]
        exact ih F s' h' hI' (by omega)
      · exact ho
theorem flatten_replicate_len (l : Nat) (zs : List V) : (List.replicate l zs).flatten.length = l * zs.length := by
  induction l with
  | zero => simp
  | succ l ih => rw [List.replicate_succ, List.flatten_cons, List.length_append, ih, Nat.succ_mul]; omega
theorem get_replicate_flatten (zs : List V) : ∀ (l j : Nat), (List.replicate l zs).flatten[j]? = if j < l * zs.length then zs[j % zs.length]? else none := by
  intro l
  induction l with
  | zero => intro j; simp
  | succ l ih =>
    intro j
    rw [List.replicate_succ, List.flatten_cons]
    by_cases hj : j < zs.length
    · rw [List.getElem?_append_left hj, if_pos (by rw [Nat.succ_mul]; omega), Nat.mod_eq_of_lt hj]
    · rw [List.getElem?_append_right (by omega), ih]
      have e : j % zs.length = (j - zs.length) % zs.length := Nat.mod_eq_sub_mod (by omega)
      rw [e]
      by_cases h2 : j - zs.length < l * zs.length
      · rw [if_pos h2, if_pos (by rw [Nat.succ_mul]; omega)]
      · rw [if_neg h2, if_neg (by rw [Nat.succ_mul]; omega)]
theorem mkS_own {h : AH} (hw : h.WF) {z by_ e : Nat} {zs : List V} (hz : zs.length = z) (h0 : 0 < z) (hc : zs.all V.cell = true) {l : Nat} (hl : (l : Int) ≤ 9223372036854775807) (hb : (by_ : Int) * l ≤ 281474976710656) :
    ∃ v h', mkS z by_ zs e l l h = some (v, h') ∧ Own h.next z e h' v l (List.replicate l zs).flatten ∧ Old h.next h h' := by
  have hall : (List.replicate l zs).flatten.all V.cell = true := by
    rw [List.all_eq_true]
    intro x hx
    obtain ⟨y, hy, hx⟩ := List.mem_flatten.1 hx
    rw [List.eq_of_mem_replicate hy] at hx
    exact List.all_eq_true.1 hc x hx
  have hlen : (List.replicate l zs).flatten.length = l * z := by rw [flatten_replicate_len, hz]
  obtain ⟨g1, g2, g3⟩ := add_cells hw (Arr.make (l * z) zs) e (cs := (List.replicate l zs).flatten) hlen.symm (fun j => by rw [Arr.get_make, get_replicate_flatten, hz]) hall
  refine ⟨.slice ⟨h.next, l * z, 0⟩ l l true z, _, ?_, ⟨hlen, .inr ⟨h.next, l, true, [], rfl, Nat.le_refl _, Nat.le_refl _, by simpa using hlen, (fun h => by cases h), by simpa using g1⟩⟩, g3⟩
  unfold mkS
  rw [if_pos ⟨h0, by omega, Int.le_refl _, hl, hb⟩]
  simp
theorem Own.set {n0 z e : Nat} {h : AH} {v : V} {n : Nat} {cs : List V} (ho : Own n0 z e h v n cs) (hw : h.WF) {i : Int} (h0 : 0 ≤ i) (hi : i < n) {w : V} (hl : w.cells.length = z) (hc : w.cells.all V.cell = true) :
    ∃ a h', ixS z v i = some (.ptr a) ∧ st z (.ptr a) w h = some h' ∧ Own n0 z e h' v n (putL w.cells (i.toNat * z) cs) ∧ Old n0 h h' ∧ (∀ b, notIn v b → h'.get b = h.get b) := by
  obtain ⟨h1, ⟨rfl, _⟩ | ⟨b, cap, ex, rest, rfl, h2, h3, h4, h5, h6⟩⟩ := ho
  · omega
  · have hlt := h6.lt hw
    have hroom : i.toNat * z + z ≤ cs.length := by
      have : (i.toNat + 1) * z ≤ n * z := Nat.mul_le_mul_right z (by omega)
      rw [Nat.add_mul] at this
      omega
    obtain ⟨h', w1, w2, w3, w4, w5, w6⟩ := h6.write hw (L := cap * z) (o := i.toNat * z) h4.symm hc (by rw [List.length_append, hl]; omega)
    have hput : putL w.cells (i.toNat * z) (cs ++ rest) = putL w.cells (i.toNat * z) cs ++ rest := by
      unfold putL
      rw [List.take_append_of_le_length (by omega), List.drop_append_of_le_length (by omega)]
      simp [List.append_assoc]
    have hlen : (putL w.cells (i.toNat * z) cs).length = cs.length := by
      unfold putL
      simp only [List.length_append, List.length_take, List.length_drop, hl]
      omega
    rw [hput] at w2
    refine ⟨⟨b, cap * z, 0 + i.toNat * z⟩, h', ?_, st_of hl (by rw [Nat.zero_add]; exact w1), ⟨hlen.trans h1, .inr ⟨b, cap, ex, rest, rfl, h2, h3, by rw [List.length_append, hlen, ← h4, List.length_append], h5, w2⟩⟩, ⟨by omega, fun b' hb' => w5 b' (by omega), by rw [w4]; omega, w6⟩, fun b' hb' => w5 b' hb'⟩
    simp only [ixS]
    rw [if_pos ⟨h0, hi, trivial⟩]
theorem Own.bs {n0 e : Nat} {h : AH} {v : V} {l : List Nat} (ho : Own n0 1 e h v l.length (byteL l)) (hl : ∀ x ∈ l, x < 256) : Bs h v l := ⟨ho.sl, hl⟩
theorem Bs.src {h : AH} {v : V} {l : List Nat} (hb : Bs h v l) : srcLen v = some l.length ∧ srcCells v 1 l.length h = some (byteL l) := by
  obtain ⟨⟨h1, h2⟩, h3⟩ := hb
  rcases h2 with ⟨h0, rfl | rfl⟩ | ⟨a, cap, ex, rfl, h4, h5⟩
  · rw [List.eq_nil_of_length_eq_zero h0]; exact ⟨rfl, rfl⟩
  · rw [List.eq_nil_of_length_eq_zero h0]; exact ⟨rfl, rfl⟩
  · refine ⟨rfl, ?_⟩
    unfold srcCells
    by_cases hn : l.length = 0
    · rw [List.eq_nil_of_length_eq_zero hn]; rfl
    · simp only [if_neg hn]; exact h5
structure Wrote (h h' : AH) (b : Nat) : Prop where
  next : h'.next = h.next
  low : h'.low = min h.low b
  rest : ∀ b', b' ≠ b → h'.get b' = h.get b'
  wf : h'.WF
theorem Wrote.old {h h' : AH} {b n : Nat} (w : Wrote h h' b) (hb : n ≤ b) : Old n h h' := ⟨by rw [w.next]; exact Nat.le_refl _, fun i hi => w.rest i (by omega), by rw [w.low]; omega, w.wf⟩
theorem Cells.ldA {h : AH} {b e : Nat} {cs : List V} (hc : Cells h b e cs) {n : Nat} (hn : n = cs.length) : Ev.ldA n (.ptr ⟨b, n, 0⟩) h = some (.agg cs) := by
  refine ldA_of ((hc.read hn (by omega)).trans ?_)
  rw [List.drop_zero, hn, List.take_length]
theorem Cells.put {h : AH} {b e : Nat} {cs vs : List V} (hc : Cells h b e cs) (hw : h.WF) {n : Nat} (hn : n = cs.length) (hv : vs.length = n) (ha : vs.all V.cell = true) :
    ∃ h', st n (.ptr ⟨b, n, 0⟩) (.agg vs) h = some h' ∧ Cells h' b e vs ∧ Wrote h h' b := by
  obtain ⟨h', w1, w2, w3, w4, w5, w6⟩ := hc.write hw (L := n) (o := 0) hn ha (by omega)
  rw [putL_all _ _ (by omega)] at w2
  exact ⟨h', st_of hv w1, w2, w3, w4, w5, w6⟩
theorem bsl_own {h : AH} (hw : h.WF) {z n e : Nat} {ps : List (Nat × Nat × V)} {zs cs : List V} (hf : fillW ps (List.replicate n zs).flatten = some cs) (hl : cs.length = n * z) (hc : cs.all V.cell = true) :
    ∃ v h', bsl z n ps zs e h = some (v, h') ∧ Own h.next z e h' v n cs ∧ Old h.next h h' := by
  obtain ⟨g1, g2, g3⟩ := add_cells hw (Arr.ofList cs) e (cs := cs) (Arr.ofList_n cs) (Arr.get_ofList cs) hc
  refine ⟨.slice ⟨h.next, cs.length, 0⟩ n n true z, _, ?_, ⟨hl, .inr ⟨h.next, n, true, [], by rw [hl], Nat.le_refl _, Nat.le_refl _, by simpa using hl, (fun h => by cases h), by simpa using g1⟩⟩, g3⟩
  simp only [bsl, hf, hc, if_true]
theorem own_nil (n0 z e : Nat) (h : AH) : Own n0 z e h .nilslice 0 [] := ⟨by simp, .inl ⟨rfl, rfl⟩⟩
theorem Own.weak {n0 n1 z e : Nat} {h : AH} {v : V} {n : Nat} {cs : List V} (ho : Own n0 z e h v n cs) (hn : n1 ≤ n0) : Own n1 z e h v n cs := by
  obtain ⟨h1, h2 | ⟨b, cap, ex, rest, h2, h3, h4⟩⟩ := ho
  · exact ⟨h1, .inl h2⟩
  · exact ⟨h1, .inr ⟨b, cap, ex, rest, h2, by omega, h4⟩⟩
theorem Own.old {n0 z e : Nat} {h h' : AH} {v : V} {n : Nat} {cs : List V} (ho : Own n0 z e h v n cs) (hw : h.WF) (hd : Old h.next h h') : Own n0 z e h' v n cs := ho.mono hw hd.get
theorem box_cells {h : AH} (hw : h.WF) (cs : List V) (e : Nat) (hc : cs.all V.cell = true) : ∃ h', absBox e (.agg cs) h = some (.ptr ⟨h.next, cs.length, 0⟩, h') ∧ Cells h' h.next e cs ∧ h'.next = h.next + 1 ∧ Old h.next h h' := by
  obtain ⟨g1, g2, g3⟩ := add_cells hw (Arr.ofList cs) e (cs := cs) (Arr.ofList_n cs) (Arr.get_ofList cs) hc
  refine ⟨_, ?_, g1, g2, g3⟩
  unfold absBox
  rw [if_pos (show (V.agg cs).cells.all V.cell = true from hc)]
  rfl
theorem Sl.notIn {z : Nat} {h : AH} {v : V} {n : Nat} {cs : List V} (hs : Sl z h v n cs) (hw : h.WF) {b : Nat} (hb : h.next ≤ b) : Ev.notIn v b := by
  obtain ⟨_, ⟨_, rfl | rfl⟩ | ⟨a, cap, ex, rfl, _, h4⟩⟩ := hs
  · trivial
  · trivial
  · obtain ⟨k, hk, _⟩ := readN_alive h4
    have := hw _ _ hk
    show b ≠ a.b
    omega
theorem Sl.keep {z : Nat} {h h' : AH} {v : V} {n : Nat} {cs : List V} (hs : Sl z h v n cs) (hg : ∀ b, ¬ Ev.notIn v b → h'.get b = h.get b) : Sl z h' v n cs := by
  obtain ⟨h1, h2 | ⟨a, cap, ex, rfl, h3, h4⟩⟩ := hs
  · exact ⟨h1, .inl h2⟩
  · exact ⟨h1, .inr ⟨a, cap, ex, rfl, h3, readN_mono h4 (hg _ (fun h => h rfl))⟩⟩
theorem Bs.keep {h h' : AH} {v : V} {l : List Nat} (hb : Bs h v l) (hg : ∀ b, ¬ notIn v b → h'.get b = h.get b) : Bs h' v l := ⟨hb.1.keep hg, hb.2⟩
theorem Own.fresh {n0 z e : Nat} {h : AH} {v : V} {n : Nat} {cs : List V} (ho : Own n0 z e h v n cs) {b : Nat} (hb : b < n0) : notIn v b := by
  obtain ⟨h1, ⟨_, rfl⟩ | ⟨b', cap, ex, rest, rfl, h2, _⟩⟩ := ho
  · trivial
  · show b ≠ b'
    omega
theorem Cells.old {h h' : AH} {b e : Nat} {cs : List V} (hc : Cells h b e cs) (hw : h.WF) (hd : Old h.next h h') : Cells h' b e cs := hc.mono (hd.get b (hc.lt hw))
end Go.Proofs.YtcphjmgfgfjnpaaGreatDoor.Ev
namespace Go.Proofs.YtcphjmgfgfjnpaaGreatDoor.Ev
open Go Go.ChangeShapes Go.WideShapes Go.ChangeAt Go.RowKit Go.WideElems
theorem sameAt_of {W w : World} (hs : Same W w) {p : MemPlace} (hlt : p.block < W.heap.size) : W.sameAt w p := by
  cases p with
  | cell b off =>
    show w.cell? ⟨b, off, none⟩ = W.cell? ⟨b, off, none⟩
    unfold World.cell?
    rw [hs.heap b hlt]
  | map b => exact hs.heap b hlt
theorem arg_stays {H : Type} {enc : TypeId × Value → H} {P : Program} {W w : World} (hs : Same W w) {t : TypeId} (hl : laidOutB P = true) (hr : P.readableRec t = true) (hrow : t < P.types.size) {v : Value} {d : DataW H} {ps : List MemPlace}
    (h : DataW.Trod enc P W 0 (fun _ => true) true t v d ps) (hlt : ∀ p ∈ ps, p.block < W.heap.size) (sp : Nat → Bool) (hsp : ∀ p ∈ ps, sp p.block = true) : DataW.Trod enc P w 0 sp true t v d ps :=
  Trod_stays hl hr hrow h (fun p hp => sameAt_of hs (hlt p hp)) hsp
theorem cell?_fits {W : World} {b off : Nat} {v : Value} (h : W.cell? ⟨b, off, none⟩ = some v) : ∃ c e lo hi, W.heap[b]? = some (.cells c e (lo, hi)) ∧ c[off]? = some v := by
  unfold World.cell? at h
  simp only at h
  split at h
  · rename_i c e fr hb
    obtain ⟨lo, hi⟩ := fr
    simp only [Option.isSome_none, Bool.false_eq_true, if_false] at h
    exact ⟨c, e, lo, hi, hb, h⟩
  all_goals first | (cases h; done) | (simp at h; done) | (split at h <;> simp at h)
theorem bytes_in {H : Type} {enc : TypeId × Value → H} {P : Program} {W : World} {base : Nat} {v : Value} {d : DataW H} {ps : List MemPlace} {t e : TypeId} (ht : P.underlying t = some (.slice e)) (he : P.underlying e = some (.int .u8)) (hc : P.cellsOf e = 1)
    (hval : Value.okWide P W .any base t v) (h : DataW.Trod enc P W 0 (fun _ => true) true t v d ps) :
    ∃ l : List Nat, (∀ x ∈ l, x < 256) ∧ ((l = [] ∧ ((∀ ρ, R ρ .nilslice v) ∨ (∀ ρ, R ρ .loose v))) ∨
      (l ≠ [] ∧ ∃ cb off S e' cap elems spare, v = .slice (some ⟨cb, off, none⟩) l.length cap ∧ l.length ≤ cap ∧ off + cap ≤ S ∧ d = .slice elems spare ∧ elems.length = l.length ∧ ∀ g, Tab.Fits ⟨g, byteL l, e'⟩ ⟨cb, off, S⟩ W)) := by
  obtain ⟨a1, len, cap, rfl⟩ := okWide_slice ht hval
  obtain ⟨fuel, hf⟩ := h
  rcases open_ints ht he hc hf with ⟨hcs, hx⟩ | ⟨a, len', cap', zs, hcs, _, hl, hm, hz, hx, hcell, hwz⟩
  · simp [Value.cells] at hcs
    obtain ⟨rfl, rfl, rfl⟩ := hcs
    exact ⟨[], by simp, .inl ⟨rfl, .inl fun ρ => rfl⟩⟩
  · simp [Value.cells] at hcs
    obtain ⟨rfl, rfl, rfl⟩ := hcs
    simp only [if_true] at hz
    by_cases hlen : len = 0
    · subst hlen
      exact ⟨[], by simp, .inl ⟨rfl, .inr fun ρ => ⟨_, _, rfl⟩⟩⟩
    · obtain ⟨ab, ao, spot⟩ := a
      have hspot : spot = none := by simpa [Addr.add] using World.cell?_spot (hcell 0 (by omega))
      subst hspot
      simp only [Prod.mk.injEq] at hx
      have hb : ∀ n ∈ zs, 0 ≤ n ∧ n ≤ 255 := fun n hn => bounds_u8 (hwz n hn)
      have hll : ((zs.take len).map Int.toNat).length = len := by rw [List.length_map, List.length_take]; omega
      refine ⟨(zs.take len).map Int.toNat, ?_, .inr ⟨?_, ?_⟩⟩
      · intro x hx
        obtain ⟨n, hn, rfl⟩ := List.mem_map.1 hx
        have := hb n (List.mem_of_mem_take hn)
        omega
      · intro h0
        rw [h0] at hll
        simp at hll
        omega
      · have h0 := hcell 0 (by omega)
        rw [Addr.add_lit] at h0
        obtain ⟨c, e', lo, hi, g1, g2⟩ := cell?_fits h0
        have hall : ∀ i, i < cap → c[ao + i]? = some (.int .u8 (zs.getD i 0)) := by
          intro i hi
          have hi' := hcell i (by omega)
          rw [Addr.add_lit] at hi'
          obtain ⟨c', e'', lo', hi'', g3, g4⟩ := cell?_fits hi'
          rw [g1] at g3
          cases g3
          exact g4
        have hS : ao + cap ≤ c.size := by
          have := (Array.getElem?_eq_some_iff.1 (hall (cap - 1) (by omega))).1
          omega
        refine ⟨ab, ao, c.size, e', cap, _, _, by rw [hll], by rw [hll]; exact hl, hS, hx.1, by simp [lits, hll], fun g => ⟨c, lo, hi, g1, rfl, by simp only [byteL_len, hll]; omega, fun ρ j v hv => ?_⟩⟩
        simp only [byteL_get] at hv
        rw [List.getElem?_map] at hv
        have hj : j < len := by
          rcases Nat.lt_or_ge j len with h | h
          · exact h
          · rw [List.getElem?_eq_none (by rw [List.length_take]; omega)] at hv; cases hv
        have hj2 : j < zs.length := by omega
        rw [List.getElem?_take_of_lt hj, List.getElem?_eq_getElem hj2] at hv
        cases hv
        refine ⟨_, hall j (by omega), ?_⟩
        have := hb _ (List.getElem_mem hj2)
        show Value.int .u8 (zs.getD j 0) = .int .u8 ((zs[j].toNat : Nat) : Int)
        rw [List.getD_eq_getElem?_getD, List.getElem?_eq_getElem hj2]
        simp only [Option.getD_some]
        congr 1
        omega
theorem tab_get {n : Nat} {l : List Tab} {g : Nat} {t : Tab} (h : tabOf l g = some t) : (tabsH n l).get g = some ⟨Arr.ofList t.vs, 0, 0, true, t.e⟩ := by
  show (tabsT l).get g = _
  rw [tabsT_get, h]; rfl
theorem tab_read {n : Nat} {l : List Tab} {g : Nat} {t : Tab} (h : tabOf l g = some t) {L : Nat} (hL : L = t.vs.length) : readN (tabsH n l) ⟨g, L, 0⟩ L = some t.vs := by
  subst hL
  refine readN_of (tab_get h) (Nat.zero_le _) (by simp only [Arr.ofList_n]; exact Nat.le_refl _) (by simp) rfl fun j v hv => ?_
  simp only [Nat.zero_add]
  rw [Arr.get_ofList]; exact hv
theorem tab_bs {n : Nat} {l : List Tab} {g : Nat} {bs : List Nat} {e : Nat} (h : tabOf l g = some ⟨g, byteL bs, e⟩) (hb : ∀ x ∈ bs, x < 256) : Bs (tabsH n l) (.slice ⟨g, bs.length, 0⟩ bs.length bs.length false 1) bs := by
  refine ⟨⟨by rw [byteL_len, Nat.mul_one], .inr ⟨_, _, _, rfl, Nat.le_refl _, ?_⟩⟩, hb⟩
  rw [Nat.mul_one]
  exact tab_read h (byteL_len bs).symm
theorem tabs_wf {n : Nat} {l : List Tab} (hn : ∀ t ∈ l, t.g < n) : (tabsH n l).WF := by
  intro b k hk
  obtain ⟨t, h1, _⟩ := tabsH_inv hk
  obtain ⟨h2, rfl⟩ := tabOf_spec h1
  exact hn t h2
theorem tab_R {l : List Tab} {pl : Nat → Spot} {g e : Nat} {bs : List Nat} (h : tabOf l g = some ⟨g, byteL bs, e⟩) {cb off S cap : Nat} (hp : pl g = ⟨cb, off, S⟩) (hcap : bs.length ≤ cap) (hS : off + cap ≤ S) :
    R (tabsRho l pl) (.slice ⟨g, bs.length, 0⟩ bs.length bs.length false 1) (.slice (some ⟨cb, off, none⟩) bs.length cap) := by
  have h1 := tabsRho_of (pl := pl) h
  simp only [byteL_len, hp] at h1
  refine ⟨cb, -(off : Int), S, cap, ?_, h1, ?_, hcap, (by intro h; cases h), Nat.le_refl _, ?_⟩
  · simp
  · simp only; omega
  · simp only; omega
end Go.Proofs.YtcphjmgfgfjnpaaGreatDoor.Ev

namespace Go.Proofs.YtcphjmgfgfjnpaaGreatDoor
open Go Ev
def gcs : List Nat := []
def masks : List Nat := [0, 0, 0, 32947, 17179869311, 1126389533132787, 73931656498512378867, 1279763624882389022059891, 1298111352910583880639175639006991, 19, 4893, 33011, 545426614802365, 4210927, 8389759, 15, 19, 31, 4941, 1073742333, 21, 19, 31, 19, 295925, 9348000312263, 19, 31, 17389, 604275, 31, 19, 142936511742963, 1053, 281612415920093, 17179870203, 21815622173820985535084531124692397981565, 19, 31, 17596514574653, 65599, 132083, 7, 2097267, 14156749087229, 504373101, 495, 42535296023574879666274036850519702559, 5, 19, 524301, 42535296023574879666274036850519702559, 19, 2251799813693245, 19, 7, 1965, 9672522621103285299936955, 42535296023574879666274036850519702559, 5, 127, 8404915, 549764202695, 71, 5, 70368744181875, 1073742333, 51, 2147497213, 51, 19, 33011, 38369516431494115004415, 55, 503841735, 31, 4196333, 42535296023574879666274036850519702559, 19, 2199023534323, 8390653, 4195309, 51, 1373, 5, 498460498419343452915388399942107135, 21, 196637, 65619, 19, 5, 17179886351, 8592039695, 35218731966215, 1333065575601045263, 33543, 21268317252094917911888073248812900111, 1217485249602318769183, 22997644815212700899627017342834150232570911, 277, 16661, 127, 685403470386176773000365506266414579, 19, 17179886351, 8592039695, 35218731966215, 1333065575601045263, 33543, 21268317252094917911888073248812900111, 1217485249602318769183, 22997644815212700899627017342834150232570911, 0, 32787, 141733920783, 4159, 66483, 1125968643117051, 268699515, 74048466578267243517, 17179886351, 8592039695, 35218731966215, 1333065575601045263, 33543, 21268317252094917911888073248812900111, 1217485249602318769183, 22997644815212700899627017342834150232570911, 281492223707599, 9197, 101218289428364493977104185500852357152742950873023135088627, 13, 563, 19, 563, 19, 2147618759, 23, 17179886351, 8592039695, 35218731966215, 1333065575601045263, 33543, 21268317252094917911888073248812900111, 1217485249602318769183, 22997644815212700899627017342834150232570911, 0, 17592188141629, 985171041976573, 5, 51, 524353, 288231475663604767, 5, 5, 271, 4159, 4406670019023, 1037, 19184757952945588412669, 9257960988514291, 288231475663604767, 271, 4159, 29, 23, 288231613103349757, 2147618775, 31, 9463179850826440548349, 137506063859, 158456329750895721015544913907, 288231475663604767, 271, 4159, 10141207824146148996807101849597, 19, 0, 5, 19342813113979202331215859, 19, 19, 19, 702342826256273603086707106465568295829491, 288231475663604767, 271, 4159, 4294967303, 19809534038069043970179600371, 4227331, 2163, 563, 2147516659, 17188391667, 0, 4197407, 316912838952437276284744179709, 70643622093299, 32967, 15663183516433892416764882583213662997805349754095402995, 5, 66109, 19, 4197407, 1180591656039357155315, 4339, 1339612590752014862571930290618302407, 1011, 31, 36286064889799, 4197407, 0, 2214597117, 0, 0, 151115727469970589747187, 4197407, 8243, 7, 21, 13, 2923003971560093291123168138537876760321514930163, 20426010943356750102455122975, 1037, 19, 16785651, 268963827, 5, 36373531635, 197613, 115, 16371, 66483, 268435583, 2147618759, 23, 67373043, 4990450547276876165242978247, 1107300861, 5, 5, 13, 5, 5, 155951504598330470052398077, 266611, 42949705715, 1152921504624705523, 21, 21, 2099251, 47, 98079714980836897801257072818352353157169597622789340669, 259, 8800390088691, 8195, 18547, 2163, 1074266119, 1128100003840029, 66483, 5, 504373101, 19996271702350817656307, 65619, 0, 0, 0, 0, 0, 0, 0, 0, 0, 0, 0, 0, 0, 0, 0, 0, 0, 0, 0, 0, 0, 0, 0, 0, 0, 0, 0, 0, 0, 0, 0]
def good : List Nat := [4, 5, 7, 8, 15, 19, 27, 34, 36, 38, 39, 42, 44, 47, 51, 53, 58, 62, 63, 64, 65, 66, 68, 76, 77, 85, 90, 91, 92, 93, 95, 96, 97, 98, 104, 105, 106, 108, 109, 110, 111, 119, 120, 121, 122, 124, 125, 126, 127, 138, 139, 140, 142, 143, 144, 145, 148, 152, 154, 161, 167, 169, 170, 171, 172, 179, 184, 187, 188, 195, 198, 199, 203, 204, 205, 210, 216, 217, 221, 225, 226, 233, 237, 239, 250, 251, 252, 254, 255, 256, 257, 258, 263]
def qtab : List (Nat × Nat × QC) := [(7, 18, ⟨0, (some ⟨[0, 1, 2, 3, 4, 5, 6, 7, 8, 9], [0, 1, 2, 3, 4, 5, 6, 7, 8, 9], [(5, [2])]⟩)⟩), (7, 24, ⟨0, (some ⟨[0, 1, 2, 3, 4, 5, 6, 7, 8, 9], [0, 1, 2, 3, 4, 5, 6, 7, 8, 9], [(5, [2])]⟩)⟩), (8, 31, ⟨0, (some ⟨[0, 1, 2, 3, 4, 5, 6, 7, 8, 9], [0, 1, 2, 3, 4, 5, 6, 7, 8, 9], [(8, [6])]⟩)⟩), (27, 1, ⟨0, (some ⟨[0, 1, 2, 3, 5, 6, 7, 8, 10, 11, 12, 13, 4, 9, 14, 15, 16, 17], [0, 1, 2, 3, 12, 4, 5, 6, 7, 13, 8, 9, 10, 11, 14, 15, 16, 17], [(4, [6, 8, 11, 13]), (9, [11, 13])]⟩)⟩), (36, 20, ⟨0, (some ⟨[0, 1, 2, 3, 4, 5, 6, 7, 8, 9, 10, 11, 12, 13, 14, 15, 16, 17, 18, 19, 20, 21, 22, 23, 24, 25], [0, 1, 2, 3, 4, 5, 6, 7, 8, 9, 10, 11, 12, 13, 14, 15, 16, 17, 18, 19, 20, 21, 22, 23, 24, 25], [(20, [10, 12])]⟩)⟩), (42, 1, ⟨0, (some ⟨[0, 1, 2, 3, 5, 6, 4, 7, 8, 9, 10, 11, 12], [0, 1, 2, 3, 6, 4, 5, 7, 8, 9, 10, 11, 12], [(4, [6])]⟩)⟩), (62, 7, ⟨0, (some ⟨[0, 1, 2, 3, 4, 5, 6, 7, 8, 9, 10, 11, 12, 13, 14, 15, 16], [0, 1, 2, 3, 4, 5, 6, 7, 8, 9, 10, 11, 12, 13, 14, 15, 16], [(11, [6])]⟩)⟩), (65, 4, ⟨0, (some ⟨[0, 1, 2, 3, 4, 5, 6, 7, 8, 9, 10, 11, 12, 13, 14, 15, 16, 17, 18, 19, 20, 21, 22, 23, 24, 25, 26, 27, 28, 29, 30, 31, 32, 33], [0, 1, 2, 3, 4, 5, 6, 7, 8, 9, 10, 11, 12, 13, 14, 15, 16, 17, 18, 19, 20, 21, 22, 23, 24, 25, 26, 27, 28, 29, 30, 31, 32, 33], [(27, [22])]⟩)⟩), (85, 18, ⟨0, (some ⟨[0, 1, 3, 6, 10, 11, 12, 13, 14, 15, 16, 17, 19, 20, 21, 23, 24, 25, 2, 4, 5, 7, 8, 9, 18, 22, 26, 27], [0, 1, 18, 2, 19, 20, 3, 21, 22, 23, 4, 5, 6, 7, 8, 9, 10, 11, 24, 12, 13, 14, 25, 15, 16, 17, 26, 27], [(2, [21, 25]), (4, [21, 25]), (7, [21, 25])]⟩)⟩), (119, 4, ⟨0, (some ⟨[0, 1, 2, 4, 5, 6, 7, 3, 8, 9, 10, 11, 12, 13], [0, 1, 2, 7, 3, 4, 5, 6, 8, 9, 10, 11, 12, 13], []⟩)⟩), (171, 2, ⟨0, (some ⟨[0, 1, 2, 3, 4, 5, 6, 7, 8], [0, 1, 2, 3, 4, 5, 6, 7, 8], [(4, [1])]⟩)⟩), (204, 13, ⟨0, (some ⟨[0, 2, 3, 4, 5, 6, 7, 8, 9, 10, 11, 12, 13, 14, 15, 16, 17, 18, 19, 20, 21, 1, 22, 23, 24], [0, 21, 1, 2, 3, 4, 5, 6, 7, 8, 9, 10, 11, 12, 13, 14, 15, 16, 17, 18, 19, 20, 22, 23, 24], [(1, [4, 9, 15, 21])]⟩)⟩), (251, 4, ⟨0, (some ⟨[0, 1, 2, 3], [0, 1, 2, 3], [(2, [1])]⟩)⟩), (252, 21, ⟨0, (some ⟨[0, 1, 2, 3, 4, 5, 6, 7, 8, 9, 10], [0, 1, 2, 3, 4, 5, 6, 7, 8, 9, 10], [(7, [5])]⟩)⟩), (252, 30, ⟨0, (some ⟨[0, 1, 2, 3], [0, 1, 2, 3], [(2, [1])]⟩)⟩), (252, 35, ⟨0, (some ⟨[0, 1, 2, 3], [0, 1, 2, 3], [(2, [1])]⟩)⟩)]
noncomputable def qtOf (l : List (Nat × Nat × QC)) (f id : Nat) : QC := List.rec ⟨0, none⟩ (fun p _ ih => bif Nat.beq p.1 f && Nat.beq p.2.1 id then p.2.2 else ih) l
noncomputable def certF (f : Nat) : Bool := match Tryz.prog.funcs[f]? with
  | some fn => (match fn.body with
    | some code => drawsOK Tryz.prog (qtOf qtab f) code
    | none => true)
  | none => true
theorem certF_spec {f : Nat} {fn : Func} {code : Code} (h : certF f = true) (hf : Tryz.prog.funcs[f]? = some fn) (hc : fn.body = some code) : drawsOK Tryz.prog (qtOf qtab f) code = true := by
  unfold certF at h
  rw [hf] at h
  simp only [hc] at h
  exact h
noncomputable def xs : List XRow := [⟨194, Extern.AbiNoEscape.same, absSame⟩, ⟨211, Extern.BytealgIndexByte.indexByte, absIndexByte⟩, ⟨213, Extern.BytealgIndexByte.indexByte, absIndexByte⟩, ⟨146, Extern.BytealgCompare.compare, absCompare⟩, ⟨112, Extern.BytealgCompare.compare, absCompare⟩]
theorem xs_ok : ∀ r ∈ xs, r.OK Tryz.prog := by
  intro r hr
  simp only [xs, List.mem_cons, List.not_mem_nil, or_false] at hr
  rcases hr with rfl | rfl | rfl | rfl | rfl
  · exact ⟨⟨Tryz.f194, Tryz.func194, by kernel_rfl, by kernel_rfl, by kernel_rfl, by kernel_rfl⟩, fun _ _ _ _ _ _ _ h1 h2 h3 => same_sound h1 h2 h3, same_step⟩
  · exact ⟨⟨Tryz.f211, Tryz.func211, by kernel_rfl, by kernel_rfl, by kernel_rfl, by kernel_rfl⟩, fun _ _ _ _ _ _ _ h1 h2 h3 => indexByte_sound h1 h2 h3, indexByte_step⟩
  · exact ⟨⟨Tryz.f213, Tryz.func213, by kernel_rfl, by kernel_rfl, by kernel_rfl, by kernel_rfl⟩, fun _ _ _ _ _ _ _ h1 h2 h3 => indexByte_sound h1 h2 h3, indexByte_step⟩
  · exact ⟨⟨Tryz.f146, Tryz.func146, by kernel_rfl, by kernel_rfl, by kernel_rfl, by kernel_rfl⟩, fun _ _ _ _ _ _ _ h1 h2 h3 => compare_sound h1 h2 h3, compare_step⟩
  · exact ⟨⟨Tryz.f112, Tryz.func112, by kernel_rfl, by kernel_rfl, by kernel_rfl, by kernel_rfl⟩, fun _ _ _ _ _ _ _ h1 h2 h3 => compare_sound h1 h2 h3, compare_step⟩
end Go.Proofs.YtcphjmgfgfjnpaaGreatDoor
namespace Go.Proofs.YtcphjmgfgfjnpaaGreatDoor
open Go Ev
def part0 : List Nat := [4, 5, 7, 8, 15, 19, 27, 34, 36, 38, 39, 42, 44, 47, 51, 53, 58]
theorem part0_ok : List.all part0 certF = true := by kernel_rfl
end Go.Proofs.YtcphjmgfgfjnpaaGreatDoor
namespace Go.Proofs.YtcphjmgfgfjnpaaGreatDoor
open Go Ev
def part1 : List Nat := [62, 63, 64, 65, 66, 68, 76, 77, 85, 90, 91, 92, 93, 95, 96, 97, 98]
theorem part1_ok : List.all part1 certF = true := by kernel_rfl
end Go.Proofs.YtcphjmgfgfjnpaaGreatDoor
namespace Go.Proofs.YtcphjmgfgfjnpaaGreatDoor
open Go Ev
def part2 : List Nat := [104, 105, 106, 108, 109, 110, 111, 119, 120, 121, 122, 124, 125, 126, 127, 138, 139]
theorem part2_ok : List.all part2 certF = true := by kernel_rfl
end Go.Proofs.YtcphjmgfgfjnpaaGreatDoor
namespace Go.Proofs.YtcphjmgfgfjnpaaGreatDoor
open Go Ev
def part3 : List Nat := [140, 142, 143, 144, 145, 148, 152, 154, 161, 167, 169, 170, 171, 172, 179, 184, 187]
theorem part3_ok : List.all part3 certF = true := by kernel_rfl
end Go.Proofs.YtcphjmgfgfjnpaaGreatDoor
namespace Go.Proofs.YtcphjmgfgfjnpaaGreatDoor
open Go Ev
def part4 : List Nat := [188, 195, 198, 199, 203, 204, 205, 210, 216, 217, 221, 225, 226, 233, 237, 239, 250]
theorem part4_ok : List.all part4 certF = true := by kernel_rfl
end Go.Proofs.YtcphjmgfgfjnpaaGreatDoor
namespace Go.Proofs.YtcphjmgfgfjnpaaGreatDoor
open Go Ev
def part5 : List Nat := [251, 252, 254, 255, 256, 257, 258, 263]
theorem part5_ok : List.all part5 certF = true := by kernel_rfl
end Go.Proofs.YtcphjmgfgfjnpaaGreatDoor
namespace Go.Proofs.YtcphjmgfgfjnpaaGreatDoor
open Go Ev
def tab1 : List Int := [1116352408, 1899447441, 3049323471, 3921009573, 961987163, 1508970993, 2453635748, 2870763221, 3624381080, 310598401, 607225278, 1426881987, 1925078388, 2162078206, 2614888103, 3248222580, 3835390401, 4022224774, 264347078, 604807628, 770255983, 1249150122, 1555081692, 1996064986, 2554220882, 2821834349, 2952996808, 3210313671, 3336571891, 3584528711, 113926993, 338241895, 666307205, 773529912, 1294757372, 1396182291, 1695183700, 1986661051, 2177026350, 2456956037, 2730485921, 2820302411, 3259730800, 3345764771, 3516065817, 3600352804, 4094571909, 275423344, 430227734, 506948616, 659060556, 883997877, 958139571, 1322822218, 1537002063, 1747873779, 1955562222, 2024104815, 2227730452, 2361852424, 2428436474, 2756734187, 3204031479, 3329325298]
noncomputable def tR1 : Nat × Arr := (1, Arr.ofList (tab1.map (V.int .u32)))
noncomputable def gOf (g : Nat) : Option Nat := bif Nat.beq g 1 then some 64 else none
noncomputable def tabs (e : Nat → Nat) : List Tab := [⟨1, tab1.map (V.int .u32), e 1⟩]
noncomputable def env0 : XEnv := ⟨Tryz.prog, gOf, xOf xs, fun _ => none, fun f => masks.getD f 0, 1000000, xq, fun f => good.contains f, qtOf qtab, fun f => gcs.contains f⟩
end Go.Proofs.YtcphjmgfgfjnpaaGreatDoor
namespace Go.Proofs.YtcphjmgfgfjnpaaGreatDoor
open Go Ev
noncomputable def q0 : List V := (bys (nb 64 0x58000000000000000000000000000000000000000000000000000000000000000000000000000000000000000000000000000000800a620a61003420626f6c62))
noncomputable def m4 : Memo := ⟨⟨85, [.agg [iN .u32 1779033703, iN .u32 3144134277, iN .u32 1013904242, iN .u32 2773480762, iN .u32 1359893119, iN .u32 2600822924, iN .u32 528734635, iN .u32 1541459225], .agg q0], 11, [tR1], [], .agg [iN .u32 1431509678, iN .u32 883451023, iN .u32 430034406, iN .u32 2739422258, iN .u32 4025104780, iN .u32 3607483876, iN .u32 2986474767, iN .u32 3254312663], 3591, 11, []⟩, []⟩
noncomputable def q1 : List V := (bys (nb 32 0xd7def8c10ffd01b2e4d505d78c39eaef324448a3e6cda1198f64a834ae1a5355))
noncomputable def m3 : Memo := ⟨⟨44, [.slice ⟨11, 11, 0⟩ 11 11 false 1], 12, [tR1], [(11, (blk (arL (bys (nb 11 0xa620a61003420626f6c62))) 11 5))], .agg q1, 3604, 12, []⟩, []⟩
noncomputable def m2 : Memo := ⟨⟨14, [.agg [iN .i64 3, .slice ⟨11, 4, 0⟩ 4 4 true 1]], 12, [tR1], [(11, (blk (arL (bys (nb 4 0xa620a61))) 0 5))], .tuple [.agg q1, iN .i64 0], 3624, 12, []⟩, []⟩
noncomputable def q2 : Blk := (blk (arL [.slice ⟨12, 11, 0⟩ 11 11 false 1, .mapv 13, .slice ⟨14, 11, 0⟩ 11 11 true 1]) 0 254)
noncomputable def q3 : Blk := (blk (arL [iN .i64 0, iN .i64 0, iN .i64 0, iN .i64 0, iN .i64 0, iN .i64 0, iN .i64 0, iN .i64 0, iN .i64 0, iN .i64 0, iN .i64 0]) 0 3)
noncomputable def m8 : Memo := ⟨⟨188, [.ptr ⟨11, 3, 0⟩, iN .i64 0], 15, [], [(11, q2), (12, (blk (arL (bys (nb 11 0xa620a61003420626f6c62))) 11 5)), (13, (.obj 0 [iN .i64 0])), (14, q3)], .tuple [iN .i64 0, iN .i64 0], 47, 15, []⟩, [11]⟩
noncomputable def q4 : Blk := (blk (arL [nN .i64 0, iN .i64 0, iN .i64 0, iN .i64 0, iN .i64 0, iN .i64 0, iN .i64 0, iN .i64 0, iN .i64 0, iN .i64 0, iN .i64 0]) 11 3)
noncomputable def m9 : Memo := ⟨⟨188, [.ptr ⟨11, 3, 0⟩, iN .i64 1], 15, [], [(11, q2), (12, (blk (arL (bys (nb 11 0xa620a61003420626f6c62))) 11 5)), (13, (.obj 0 [iN .i64 1, iN .u32 6450287, iN .i64 0, iN .i64 0])), (14, q4)], .tuple [iN .i64 0, iN .i64 0], 47, 15, []⟩, [11]⟩
noncomputable def q5 : Blk := (.obj 0 [iN .i64 2, iN .u32 6450287, iN .i64 0, iN .i64 0, iN .u32 7106402, iN .i64 1, iN .i64 1])
noncomputable def q6 : Blk := (blk (arL [nN .i64 0, nN .i64 0, iN .i64 0, iN .i64 0, iN .i64 0, iN .i64 0, iN .i64 0, iN .i64 0, iN .i64 0, iN .i64 0, iN .i64 0]) 11 3)
noncomputable def m10 : Memo := ⟨⟨188, [.ptr ⟨11, 3, 0⟩, iN .i64 2], 15, [], [(11, q2), (12, (blk (arL (bys (nb 11 0xa620a61003420626f6c62))) 11 5)), (13, q5), (14, q6)], .tuple [iN .i64 0, iN .i64 0], 47, 15, []⟩, [11]⟩
noncomputable def q7 : Blk := (.obj 0 [iN .i64 3, iN .u32 6450287, iN .i64 0, iN .i64 0, iN .u32 7106402, iN .i64 1, iN .i64 1, iN .u32 7299616, iN .i64 2, iN .i64 2])
noncomputable def q8 : Blk := (blk (arL [nN .i64 0, nN .i64 0, nN .i64 0, iN .i64 0, iN .i64 0, iN .i64 0, iN .i64 0, iN .i64 0, iN .i64 0, iN .i64 0, iN .i64 0]) 11 3)
noncomputable def m11 : Memo := ⟨⟨188, [.ptr ⟨11, 3, 0⟩, iN .i64 3], 15, [], [(11, q2), (12, (blk (arL (bys (nb 11 0xa620a61003420626f6c62))) 11 5)), (13, q7), (14, q8)], .tuple [iN .i64 0, iN .i64 0], 47, 15, []⟩, [11]⟩
noncomputable def q9 : Blk := (.obj 0 [iN .i64 4, iN .u32 6450287, iN .i64 0, iN .i64 0, iN .u32 7106402, iN .i64 1, iN .i64 1, iN .u32 7299616, iN .i64 2, iN .i64 2, iN .u32 6430772, iN .i64 3, iN .i64 3])
noncomputable def q10 : Blk := (blk (arL [nN .i64 0, nN .i64 0, nN .i64 0, nN .i64 0, iN .i64 0, iN .i64 0, iN .i64 0, iN .i64 0, iN .i64 0, iN .i64 0, iN .i64 0]) 11 3)
noncomputable def m12 : Memo := ⟨⟨188, [.ptr ⟨11, 3, 0⟩, iN .i64 4], 15, [], [(11, q2), (12, (blk (arL (bys (nb 11 0xa620a61003420626f6c62))) 11 5)), (13, q9), (14, q10)], .tuple [iN .i64 0, iN .i64 0], 47, 15, []⟩, [11]⟩
noncomputable def q11 : Blk := (.obj 0 [iN .i64 5, iN .u32 6450287, iN .i64 0, iN .i64 0, iN .u32 7106402, iN .i64 1, iN .i64 1, iN .u32 7299616, iN .i64 2, iN .i64 2, iN .u32 6430772, iN .i64 3, iN .i64 3, iN .u32 2110464, iN .i64 4, iN .i64 4])
noncomputable def q12 : Blk := (blk (arL [nN .i64 0, nN .i64 0, nN .i64 0, nN .i64 0, nN .i64 0, iN .i64 0, iN .i64 0, iN .i64 0, iN .i64 0, iN .i64 0, iN .i64 0]) 11 3)
noncomputable def m13 : Memo := ⟨⟨188, [.ptr ⟨11, 3, 0⟩, iN .i64 5], 15, [], [(11, q2), (12, (blk (arL (bys (nb 11 0xa620a61003420626f6c62))) 11 5)), (13, q11), (14, q12)], .tuple [iN .i64 0, iN .i64 0], 47, 15, []⟩, [11]⟩
noncomputable def q13 : Blk := (.obj 0 [iN .i64 6, iN .u32 6450287, iN .i64 0, iN .i64 0, iN .u32 7106402, iN .i64 1, iN .i64 1, iN .u32 7299616, iN .i64 2, iN .i64 2, iN .u32 6430772, iN .i64 3, iN .i64 3, iN .u32 2110464, iN .i64 4, iN .i64 4, iN .u32 3407969, iN .i64 5, iN .i64 5])
noncomputable def q14 : Blk := (blk (arL [nN .i64 0, nN .i64 0, nN .i64 0, nN .i64 0, nN .i64 0, nN .i64 0, iN .i64 0, iN .i64 0, iN .i64 0, iN .i64 0, iN .i64 0]) 11 3)
noncomputable def m14 : Memo := ⟨⟨188, [.ptr ⟨11, 3, 0⟩, iN .i64 6], 15, [], [(11, q2), (12, (blk (arL (bys (nb 11 0xa620a61003420626f6c62))) 11 5)), (13, q13), (14, q14)], .tuple [iN .i64 0, iN .i64 0], 47, 15, []⟩, [11]⟩
noncomputable def q15 : Blk := (.obj 0 [iN .i64 7, iN .u32 6450287, iN .i64 0, iN .i64 0, iN .u32 7106402, iN .i64 1, iN .i64 1, iN .u32 7299616, iN .i64 2, iN .i64 2, iN .u32 6430772, iN .i64 3, iN .i64 3, iN .u32 2110464, iN .i64 4, iN .i64 4, iN .u32 3407969, iN .i64 5, iN .i64 5, iN .u32 24842, iN .i64 6, iN .i64 6])
noncomputable def q16 : Blk := (blk (arL [nN .i64 0, nN .i64 0, nN .i64 0, nN .i64 0, nN .i64 0, nN .i64 0, nN .i64 0, iN .i64 0, iN .i64 0, iN .i64 0, iN .i64 0]) 11 3)
noncomputable def m15 : Memo := ⟨⟨188, [.ptr ⟨11, 3, 0⟩, iN .i64 7], 15, [], [(11, q2), (12, (blk (arL (bys (nb 11 0xa620a61003420626f6c62))) 11 5)), (13, q15), (14, q16)], .tuple [iN .i64 0, iN .i64 0], 47, 15, []⟩, [11]⟩
noncomputable def q17 : Blk := (.obj 0 [iN .i64 8, iN .u32 6450287, iN .i64 0, iN .i64 0, iN .u32 7106402, iN .i64 1, iN .i64 1, iN .u32 7299616, iN .i64 2, iN .i64 2, iN .u32 6430772, iN .i64 3, iN .i64 3, iN .u32 2110464, iN .i64 4, iN .i64 4, iN .u32 3407969, iN .i64 5, iN .i64 5, iN .u32 24842, iN .i64 6, iN .i64 6, iN .u32 6359650, iN .i64 7, iN .i64 7])
noncomputable def q18 : Blk := (blk (arL [nN .i64 0, nN .i64 0, nN .i64 0, nN .i64 0, nN .i64 0, nN .i64 0, nN .i64 0, nN .i64 0, iN .i64 0, iN .i64 0, iN .i64 0]) 11 3)
noncomputable def m16 : Memo := ⟨⟨188, [.ptr ⟨11, 3, 0⟩, iN .i64 8], 15, [], [(11, q2), (12, (blk (arL (bys (nb 11 0xa620a61003420626f6c62))) 11 5)), (13, q17), (14, q18)], .tuple [iN .i64 0, iN .i64 0], 47, 15, []⟩, [11]⟩
noncomputable def q19 : Blk := (.obj 0 [iN .i64 9, iN .u32 6450287, iN .i64 0, iN .i64 0, iN .u32 7106402, iN .i64 1, iN .i64 1, iN .u32 7299616, iN .i64 2, iN .i64 2, iN .u32 6430772, iN .i64 3, iN .i64 3, iN .u32 2110464, iN .i64 4, iN .i64 4, iN .u32 3407969, iN .i64 5, iN .i64 5, iN .u32 24842, iN .i64 6, iN .i64 6, iN .u32 6359650, iN .i64 7, iN .i64 7, iN .u32 680458, iN .i64 8, iN .i64 8])
noncomputable def q20 : Blk := (blk (arL [nN .i64 0, nN .i64 0, nN .i64 0, nN .i64 0, nN .i64 0, nN .i64 0, nN .i64 0, nN .i64 0, nN .i64 0, iN .i64 0, iN .i64 0]) 11 3)
noncomputable def m17 : Memo := ⟨⟨188, [.ptr ⟨11, 3, 0⟩, iN .i64 9], 15, [], [(11, q2), (12, (blk (arL (bys (nb 11 0xa620a61003420626f6c62))) 11 5)), (13, q19), (14, q20)], .tuple [iN .i64 0, iN .i64 0], 15, 15, []⟩, [11]⟩
noncomputable def m18 : Memo := ⟨⟨188, [.ptr ⟨11, 3, 0⟩, iN .i64 10], 15, [], [(11, q2), (12, (blk (arL (bys (nb 11 0xa620a61003420626f6c62))) 11 5)), (13, q19), (14, q20)], .tuple [iN .i64 0, iN .i64 0], 15, 15, []⟩, [11]⟩
noncomputable def m7 : Memo := ⟨⟨148, [.slice ⟨11, 11, 0⟩ 11 11 false 1], 12, [], [(11, (blk (arL (bys (nb 11 0xa620a61003420626f6c62))) 11 5))], .slice ⟨112, 13, 0⟩ 13 13 false 1, 1138, 12, [(112, (blk (arL (bys (nb 13 0x2e24ae4486130524fc9ca4b))) 0 5))]⟩, []⟩
noncomputable def m6 : Memo := ⟨⟨79, [.slice ⟨11, 11, 0⟩ 11 11 false 1, iN .i64 2], 12, [], [(11, (blk (arL (bys (nb 11 0xa620a61003420626f6c62))) 11 5))], .tuple [.slice ⟨112, 13, 0⟩ 13 13 false 1, iN .i64 0], 1138, 12, [(112, (blk (arL (bys (nb 13 0x2e24ae4486130524fc9ca4b))) 0 5))]⟩, []⟩
noncomputable def m19 : Memo := ⟨⟨80, [.slice ⟨11, 11, 0⟩ 11 11 false 1], 12, [], [(11, (blk (arL (bys (nb 11 0xa620a61003420626f6c62))) 11 5))], iN .u32 335020747, 12, 12, []⟩, []⟩
noncomputable def q21 : Blk := (blk (arL (bys (nb 19 0xcb02f8130002e24ae4486130524fc9ca4b0178))) 0 5)
noncomputable def m5 : Memo := ⟨⟨41, [.slice ⟨11, 11, 0⟩ 11 11 false 1, iN .i64 2], 12, [], [(11, (blk (arL (bys (nb 11 0xa620a61003420626f6c62))) 11 5))], .tuple [.slice ⟨1139, 19, 0⟩ 19 19 false 1, iN .i64 0], 1141, 12, [(1139, q21)]⟩, []⟩
noncomputable def q22 : List Nat := (nb 64 0x37646564386631636630646631303262346535643530376463383933616566653233343438343361366564633161393166383436386134336561613133353535)
noncomputable def m20 : Memo := ⟨⟨46, [.agg q1], 11, [], [], .str q22, 90, 11, []⟩, []⟩
noncomputable def q23 : List V := (bys (nb 64 0x58000000000000000000000000000000000000000000000000000000000000000000000000000000000000000000000000000000800a630a61003420626f6c62))
noncomputable def m23 : Memo := ⟨⟨85, [.agg [iN .u32 1779033703, iN .u32 3144134277, iN .u32 1013904242, iN .u32 2773480762, iN .u32 1359893119, iN .u32 2600822924, iN .u32 528734635, iN .u32 1541459225], .agg q23], 11, [tR1], [], .agg [iN .u32 1933726358, iN .u32 1088138348, iN .u32 1744057947, iN .u32 3512103623, iN .u32 4258126113, iN .u32 3500414369, iN .u32 1165895862, iN .u32 2708025661], 3591, 11, []⟩, []⟩
noncomputable def q24 : List V := (bys (nb 32 0x3d3169a1b6287e45a115a4d021d9cdfdc77256d15b36f4676cacdb4096524273))
noncomputable def m22 : Memo := ⟨⟨44, [.slice ⟨11, 11, 0⟩ 11 11 false 1], 12, [tR1], [(11, (blk (arL (bys (nb 11 0xa630a61003420626f6c62))) 11 5))], .agg q24, 3604, 12, []⟩, []⟩
noncomputable def m21 : Memo := ⟨⟨14, [.agg [iN .i64 3, .slice ⟨11, 4, 0⟩ 4 4 true 1]], 12, [tR1], [(11, (blk (arL (bys (nb 4 0xa630a61))) 0 5))], .tuple [.agg q24, iN .i64 0], 3624, 12, []⟩, []⟩
noncomputable def m27 : Memo := ⟨⟨188, [.ptr ⟨11, 3, 0⟩, iN .i64 0], 15, [], [(11, q2), (12, (blk (arL (bys (nb 11 0xa630a61003420626f6c62))) 11 5)), (13, (.obj 0 [iN .i64 0])), (14, q3)], .tuple [iN .i64 0, iN .i64 0], 47, 15, []⟩, [11]⟩
noncomputable def m28 : Memo := ⟨⟨188, [.ptr ⟨11, 3, 0⟩, iN .i64 1], 15, [], [(11, q2), (12, (blk (arL (bys (nb 11 0xa630a61003420626f6c62))) 11 5)), (13, (.obj 0 [iN .i64 1, iN .u32 6450287, iN .i64 0, iN .i64 0])), (14, q4)], .tuple [iN .i64 0, iN .i64 0], 47, 15, []⟩, [11]⟩
noncomputable def m29 : Memo := ⟨⟨188, [.ptr ⟨11, 3, 0⟩, iN .i64 2], 15, [], [(11, q2), (12, (blk (arL (bys (nb 11 0xa630a61003420626f6c62))) 11 5)), (13, q5), (14, q6)], .tuple [iN .i64 0, iN .i64 0], 47, 15, []⟩, [11]⟩
noncomputable def m30 : Memo := ⟨⟨188, [.ptr ⟨11, 3, 0⟩, iN .i64 3], 15, [], [(11, q2), (12, (blk (arL (bys (nb 11 0xa630a61003420626f6c62))) 11 5)), (13, q7), (14, q8)], .tuple [iN .i64 0, iN .i64 0], 47, 15, []⟩, [11]⟩
noncomputable def m31 : Memo := ⟨⟨188, [.ptr ⟨11, 3, 0⟩, iN .i64 4], 15, [], [(11, q2), (12, (blk (arL (bys (nb 11 0xa630a61003420626f6c62))) 11 5)), (13, q9), (14, q10)], .tuple [iN .i64 0, iN .i64 0], 47, 15, []⟩, [11]⟩
noncomputable def m32 : Memo := ⟨⟨188, [.ptr ⟨11, 3, 0⟩, iN .i64 5], 15, [], [(11, q2), (12, (blk (arL (bys (nb 11 0xa630a61003420626f6c62))) 11 5)), (13, q11), (14, q12)], .tuple [iN .i64 0, iN .i64 0], 47, 15, []⟩, [11]⟩
noncomputable def m33 : Memo := ⟨⟨188, [.ptr ⟨11, 3, 0⟩, iN .i64 6], 15, [], [(11, q2), (12, (blk (arL (bys (nb 11 0xa630a61003420626f6c62))) 11 5)), (13, q13), (14, q14)], .tuple [iN .i64 0, iN .i64 0], 47, 15, []⟩, [11]⟩
noncomputable def m34 : Memo := ⟨⟨188, [.ptr ⟨11, 3, 0⟩, iN .i64 7], 15, [], [(11, q2), (12, (blk (arL (bys (nb 11 0xa630a61003420626f6c62))) 11 5)), (13, q15), (14, q16)], .tuple [iN .i64 0, iN .i64 0], 47, 15, []⟩, [11]⟩
noncomputable def q25 : Blk := (.obj 0 [iN .i64 8, iN .u32 6450287, iN .i64 0, iN .i64 0, iN .u32 7106402, iN .i64 1, iN .i64 1, iN .u32 7299616, iN .i64 2, iN .i64 2, iN .u32 6430772, iN .i64 3, iN .i64 3, iN .u32 2110464, iN .i64 4, iN .i64 4, iN .u32 3407969, iN .i64 5, iN .i64 5, iN .u32 24842, iN .i64 6, iN .i64 6, iN .u32 6359651, iN .i64 7, iN .i64 7])
noncomputable def m35 : Memo := ⟨⟨188, [.ptr ⟨11, 3, 0⟩, iN .i64 8], 15, [], [(11, q2), (12, (blk (arL (bys (nb 11 0xa630a61003420626f6c62))) 11 5)), (13, q25), (14, q18)], .tuple [iN .i64 0, iN .i64 0], 47, 15, []⟩, [11]⟩
noncomputable def q26 : Blk := (.obj 0 [iN .i64 9, iN .u32 6450287, iN .i64 0, iN .i64 0, iN .u32 7106402, iN .i64 1, iN .i64 1, iN .u32 7299616, iN .i64 2, iN .i64 2, iN .u32 6430772, iN .i64 3, iN .i64 3, iN .u32 2110464, iN .i64 4, iN .i64 4, iN .u32 3407969, iN .i64 5, iN .i64 5, iN .u32 24842, iN .i64 6, iN .i64 6, iN .u32 6359651, iN .i64 7, iN .i64 7, iN .u32 680714, iN .i64 8, iN .i64 8])
noncomputable def m36 : Memo := ⟨⟨188, [.ptr ⟨11, 3, 0⟩, iN .i64 9], 15, [], [(11, q2), (12, (blk (arL (bys (nb 11 0xa630a61003420626f6c62))) 11 5)), (13, q26), (14, q20)], .tuple [iN .i64 0, iN .i64 0], 15, 15, []⟩, [11]⟩
noncomputable def m37 : Memo := ⟨⟨188, [.ptr ⟨11, 3, 0⟩, iN .i64 10], 15, [], [(11, q2), (12, (blk (arL (bys (nb 11 0xa630a61003420626f6c62))) 11 5)), (13, q26), (14, q20)], .tuple [iN .i64 0, iN .i64 0], 15, 15, []⟩, [11]⟩
noncomputable def m26 : Memo := ⟨⟨148, [.slice ⟨11, 11, 0⟩ 11 11 false 1], 12, [], [(11, (blk (arL (bys (nb 11 0xa630a61003420626f6c62))) 11 5))], .slice ⟨112, 13, 0⟩ 13 13 false 1, 1138, 12, [(112, (blk (arL (bys (nb 13 0x2e64ae4486130524fc9ca4b))) 0 5))]⟩, []⟩
noncomputable def m25 : Memo := ⟨⟨79, [.slice ⟨11, 11, 0⟩ 11 11 false 1, iN .i64 2], 12, [], [(11, (blk (arL (bys (nb 11 0xa630a61003420626f6c62))) 11 5))], .tuple [.slice ⟨112, 13, 0⟩ 13 13 false 1, iN .i64 0], 1138, 12, [(112, (blk (arL (bys (nb 13 0x2e64ae4486130524fc9ca4b))) 0 5))]⟩, []⟩
noncomputable def m38 : Memo := ⟨⟨80, [.slice ⟨11, 11, 0⟩ 11 11 false 1], 12, [], [(11, (blk (arL (bys (nb 11 0xa630a61003420626f6c62))) 11 5))], iN .u32 335151820, 12, 12, []⟩, []⟩
noncomputable def q27 : Blk := (blk (arL (bys (nb 19 0xcc02fa130002e64ae4486130524fc9ca4b0178))) 0 5)
noncomputable def m24 : Memo := ⟨⟨41, [.slice ⟨11, 11, 0⟩ 11 11 false 1, iN .i64 2], 12, [], [(11, (blk (arL (bys (nb 11 0xa630a61003420626f6c62))) 11 5))], .tuple [.slice ⟨1139, 19, 0⟩ 19 19 false 1, iN .i64 0], 1141, 12, [(1139, q27)]⟩, []⟩
noncomputable def q28 : List Nat := (nb 64 0x64333133393631613662383265373534316135313461306431323964646364663763323736353164623536333466373663366361626430343639323532343337)
noncomputable def m39 : Memo := ⟨⟨46, [.agg q24], 11, [], [], .str q28, 90, 11, []⟩, []⟩
noncomputable def q29 : Blk := (blk (arL [iN .i64 3, .slice ⟨12, 4, 0⟩ 4 4 true 1, iN .i64 3, .slice ⟨13, 4, 0⟩ 4 4 true 1]) 0 33)
noncomputable def q30 : List V := (bys (nb 64 0x3d3169a1b6287e45a115a4d021d9cdfdc77256d15b36f4676cacdb4096524273d7def8c10ffd01b2e4d505d78c39eaef324448a3e6cda1198f64a834ae1a5355))
noncomputable def q31 : List Nat := (nb 73 0x37646564386631636630646631303262346535643530376463383933616566653233343438343361366564633161393166383436386134336561613133352f35352f737463656a626f)
noncomputable def q32 : List Nat := (nb 73 0x64333133393631613662383265373534316135313461306431323964646364663763323736353164623536333466373663366361626430343639323532342f33372f737463656a626f)
noncomputable def q33 : Blk := (blk (arL [.str q31, .slice ⟨4762, 19, 0⟩ 19 19 false 1, .bool false, .str q32, .slice ⟨13216, 19, 0⟩ 19 19 false 1, .bool false]) 0 64)
noncomputable def m1 : Memo := ⟨⟨6, [.nilslice, .slice ⟨11, 4, 0⟩ 2 2 true 2], 14, [tR1], [(11, q29), (12, (blk (arL (bys (nb 4 0xa620a61))) 0 5)), (13, (blk (arL (bys (nb 4 0xa630a61))) 0 5))], .tuple [.slice ⟨8468, 6, 0⟩ 2 2 false 3, .slice ⟨8378, 64, 0⟩ 2 2 false 32, iN .i64 0], 16940, 14, [(4762, q21), (8378, (blk (arL q30) 0 42)), (8468, q33), (13216, q27)]⟩, [11]⟩
noncomputable def m42 : Memo := ⟨⟨50, [.str (nb 7 0x737463656a626f)], 11, [], [], .bool true, 12, 11, []⟩, []⟩
noncomputable def m43 : Memo := ⟨⟨50, [.str [53, 53]], 11, [], [], .bool true, 12, 11, []⟩, []⟩
noncomputable def q34 : List Nat := (nb 62 0x3764656438663163663064663130326234653564353037646338393361656665323334343834336136656463316139316638343638613433656161313335)
noncomputable def m44 : Memo := ⟨⟨50, [.str q34], 11, [], [], .bool true, 13, 11, []⟩, []⟩
noncomputable def m41 : Memo := ⟨⟨18, [.str q31], 11, [], [], .bool true, 20, 11, []⟩, []⟩
noncomputable def m46 : Memo := ⟨⟨50, [.str [55, 51]], 11, [], [], .bool true, 12, 11, []⟩, []⟩
noncomputable def q35 : List Nat := (nb 62 0x6433313339363161366238326537353431613531346130643132396464636466376332373635316462353633346637366336636162643034363932353234)
noncomputable def m47 : Memo := ⟨⟨50, [.str q35], 11, [], [], .bool true, 13, 11, []⟩, []⟩
noncomputable def m45 : Memo := ⟨⟨18, [.str q32], 11, [], [], .bool true, 20, 11, []⟩, []⟩
noncomputable def q36 : Blk := (blk (arL [.str q31, .slice ⟨12, 19, 0⟩ 19 19 false 1, .bool false, .str q32, .slice ⟨13, 19, 0⟩ 19 19 false 1, .bool false]) 0 64)
noncomputable def q37 : Blk := (blk (arL [.str q31, .slice ⟨49, 19, 0⟩ 19 19 false 1, .str q32, .slice ⟨63, 19, 0⟩ 19 19 false 1]) 0 72)
noncomputable def m40 : Memo := ⟨⟨7, [.nilslice, .slice ⟨11, 6, 0⟩ 2 2 false 3], 14, [], [(11, q36), (12, q21), (13, q27)], .tuple [.slice ⟨50, 4, 0⟩ 2 2 false 2, iN .i64 0], 83, 14, [(49, q21), (50, q37), (63, q27)]⟩, [11]⟩
noncomputable def m49 : Memo := ⟨⟨50, [.str [120]], 11, [], [], .bool true, 12, 11, []⟩, []⟩
noncomputable def m48 : Memo := ⟨⟨18, [.str [120]], 11, [], [], .bool true, 17, 11, []⟩, []⟩
noncomputable def m51 : Memo := ⟨⟨50, [.str [121]], 11, [], [], .bool true, 12, 11, []⟩, []⟩
noncomputable def m50 : Memo := ⟨⟨18, [.str [121]], 11, [], [], .bool true, 17, 11, []⟩, []⟩
noncomputable def q38 : Blk := (blk (arL [iN .i64 8, iN .i64 8, iN .i64 8, iN .i64 8, iN .i64 8, iN .i64 8, iN .i64 8, iN .i64 8, iN .i64 8, iN .i64 8, iN .i64 8, iN .i64 8, iN .i64 8, iN .i64 8, iN .i64 8, iN .i64 8, iN .i64 8, iN .i64 8, iN .i64 8, iN .i64 8, iN .i64 8, iN .i64 8, iN .i64 8, iN .i64 8, iN .i64 8, iN .i64 8, iN .i64 8, iN .i64 8, iN .i64 8, iN .i64 8, iN .i64 8, iN .i64 8, iN .i64 8, iN .i64 8, iN .i64 8, iN .i64 8, iN .i64 8, iN .i64 8, iN .i64 8, iN .i64 8, iN .i64 8, iN .i64 8, iN .i64 8, iN .i64 8, iN .i64 8, iN .i64 8, iN .i64 8, iN .i64 8, iN .i64 8, iN .i64 8, iN .i64 8, iN .i64 8, iN .i64 8, iN .i64 8, iN .i64 8, iN .i64 8, iN .i64 8, iN .i64 8, iN .i64 8, iN .i64 8, iN .i64 8, iN .i64 8, iN .i64 8, iN .i64 8, iN .i64 8, iN .i64 8, iN .i64 8, iN .i64 8, iN .i64 8, iN .i64 8, iN .i64 8, iN .i64 8, iN .i64 8, iN .i64 8, iN .i64 8, iN .i64 8, iN .i64 8, iN .i64 8, iN .i64 8, iN .i64 8, iN .i64 8, iN .i64 8, iN .i64 8, iN .i64 8, iN .i64 8, iN .i64 8, iN .i64 8, iN .i64 8, iN .i64 8, iN .i64 8, iN .i64 8, iN .i64 8, iN .i64 8, iN .i64 8, iN .i64 8, iN .i64 8, iN .i64 8, iN .i64 8, iN .i64 8, iN .i64 8, iN .i64 8, iN .i64 8, iN .i64 8, iN .i64 8, iN .i64 8, iN .i64 8, iN .i64 8, iN .i64 8, iN .i64 8, iN .i64 8, iN .i64 8, iN .i64 8, iN .i64 8, iN .i64 8, iN .i64 8, iN .i64 8, iN .i64 8, iN .i64 8, iN .i64 8, iN .i64 8, iN .i64 8, iN .i64 8, iN .i64 8, iN .i64 8, iN .i64 8, iN .i64 8, iN .i64 8, iN .i64 8, iN .i64 8, iN .i64 8, iN .i64 8, iN .i64 8, iN .i64 8, iN .i64 8, iN .i64 8, iN .i64 8, iN .i64 8, iN .i64 8, iN .i64 8, iN .i64 8, iN .i64 8, iN .i64 8, iN .i64 8, iN .i64 8, iN .i64 9, iN .i64 9, iN .i64 9, iN .i64 9, iN .i64 9, iN .i64 9, iN .i64 9, iN .i64 9, iN .i64 9, iN .i64 9, iN .i64 9, iN .i64 9, iN .i64 9, iN .i64 9, iN .i64 9, iN .i64 9, iN .i64 9, iN .i64 9, iN .i64 9, iN .i64 9, iN .i64 9, iN .i64 9, iN .i64 9, iN .i64 9, iN .i64 9, iN .i64 9, iN .i64 9, iN .i64 9, iN .i64 9, iN .i64 9, iN .i64 9, iN .i64 9, iN .i64 9, iN .i64 9, iN .i64 9, iN .i64 9, iN .i64 9, iN .i64 9, iN .i64 9, iN .i64 9, iN .i64 9, iN .i64 9, iN .i64 9, iN .i64 9, iN .i64 9, iN .i64 9, iN .i64 9, iN .i64 9, iN .i64 9, iN .i64 9, iN .i64 9, iN .i64 9, iN .i64 9, iN .i64 9, iN .i64 9, iN .i64 9, iN .i64 9, iN .i64 9, iN .i64 9, iN .i64 9, iN .i64 9, iN .i64 9, iN .i64 9, iN .i64 9, iN .i64 9, iN .i64 9, iN .i64 9, iN .i64 9, iN .i64 9, iN .i64 9, iN .i64 9, iN .i64 9, iN .i64 9, iN .i64 9, iN .i64 9, iN .i64 9, iN .i64 9, iN .i64 9, iN .i64 9, iN .i64 9, iN .i64 9, iN .i64 9, iN .i64 9, iN .i64 9, iN .i64 9, iN .i64 9, iN .i64 9, iN .i64 9, iN .i64 9, iN .i64 9, iN .i64 9, iN .i64 9, iN .i64 9, iN .i64 9, iN .i64 9, iN .i64 9, iN .i64 9, iN .i64 9, iN .i64 9, iN .i64 9, iN .i64 9, iN .i64 9, iN .i64 9, iN .i64 9, iN .i64 9, iN .i64 9, iN .i64 9, iN .i64 9, iN .i64 9, iN .i64 9, iN .i64 9, iN .i64 9, iN .i64 7, iN .i64 7, iN .i64 7, iN .i64 7, iN .i64 7, iN .i64 7, iN .i64 7, iN .i64 7, iN .i64 7, iN .i64 7, iN .i64 7, iN .i64 7, iN .i64 7, iN .i64 7, iN .i64 7, iN .i64 7, iN .i64 7, iN .i64 7, iN .i64 7, iN .i64 7, iN .i64 7, iN .i64 7, iN .i64 7, iN .i64 7, iN .i64 8, iN .i64 8, iN .i64 8, iN .i64 8, iN .i64 8, iN .i64 8, iN .i64 8, iN .i64 8]) 288 3)
noncomputable def q39 : Blk := (blk (arL [iN .i64 256, iN .i64 257, iN .i64 258, iN .i64 259, iN .i64 260, iN .i64 261, iN .i64 262, iN .i64 263, iN .i64 264, iN .i64 265, iN .i64 266, iN .i64 267, iN .i64 268, iN .i64 269, iN .i64 270, iN .i64 271, iN .i64 272, iN .i64 273, iN .i64 274, iN .i64 275, iN .i64 276, iN .i64 277, iN .i64 278, iN .i64 279, iN .i64 0, iN .i64 1, iN .i64 2, iN .i64 3, iN .i64 4, iN .i64 5, iN .i64 6, iN .i64 7, iN .i64 8, iN .i64 9, iN .i64 10, iN .i64 11, iN .i64 12, iN .i64 13, iN .i64 14, iN .i64 15, iN .i64 16, iN .i64 17, iN .i64 18, iN .i64 19, iN .i64 20, iN .i64 21, iN .i64 22, iN .i64 23, iN .i64 24, iN .i64 25, iN .i64 26, iN .i64 27, iN .i64 28, iN .i64 29, iN .i64 30, iN .i64 31, iN .i64 32, iN .i64 33, iN .i64 34, iN .i64 35, iN .i64 36, iN .i64 37, iN .i64 38, iN .i64 39, iN .i64 40, iN .i64 41, iN .i64 42, iN .i64 43, iN .i64 44, iN .i64 45, iN .i64 46, iN .i64 47, iN .i64 48, iN .i64 49, iN .i64 50, iN .i64 51, iN .i64 52, iN .i64 53, iN .i64 54, iN .i64 55, iN .i64 56, iN .i64 57, iN .i64 58, iN .i64 59, iN .i64 60, iN .i64 61, iN .i64 62, iN .i64 63, iN .i64 64, iN .i64 65, iN .i64 66, iN .i64 67, iN .i64 68, iN .i64 69, iN .i64 70, iN .i64 71, iN .i64 72, iN .i64 73, iN .i64 74, iN .i64 75, iN .i64 76, iN .i64 77, iN .i64 78, iN .i64 79, iN .i64 80, iN .i64 81, iN .i64 82, iN .i64 83, iN .i64 84, iN .i64 85, iN .i64 86, iN .i64 87, iN .i64 88, iN .i64 89, iN .i64 90, iN .i64 91, iN .i64 92, iN .i64 93, iN .i64 94, iN .i64 95, iN .i64 96, iN .i64 97, iN .i64 98, iN .i64 99, iN .i64 100, iN .i64 101, iN .i64 102, iN .i64 103, iN .i64 104, iN .i64 105, iN .i64 106, iN .i64 107, iN .i64 108, iN .i64 109, iN .i64 110, iN .i64 111, iN .i64 112, iN .i64 113, iN .i64 114, iN .i64 115, iN .i64 116, iN .i64 117, iN .i64 118, iN .i64 119, iN .i64 120, iN .i64 121, iN .i64 122, iN .i64 123, iN .i64 124, iN .i64 125, iN .i64 126, iN .i64 127, iN .i64 128, iN .i64 129, iN .i64 130, iN .i64 131, iN .i64 132, iN .i64 133, iN .i64 134, iN .i64 135, iN .i64 136, iN .i64 137, iN .i64 138, iN .i64 139, iN .i64 140, iN .i64 141, iN .i64 142, iN .i64 143, iN .i64 280, iN .i64 281, iN .i64 282, iN .i64 283, iN .i64 284, iN .i64 285, iN .i64 286, iN .i64 287, iN .i64 144, iN .i64 145, iN .i64 146, iN .i64 147, iN .i64 148, iN .i64 149, iN .i64 150, iN .i64 151, iN .i64 152, iN .i64 153, iN .i64 154, iN .i64 155, iN .i64 156, iN .i64 157, iN .i64 158, iN .i64 159, iN .i64 160, iN .i64 161, iN .i64 162, iN .i64 163, iN .i64 164, iN .i64 165, iN .i64 166, iN .i64 167, iN .i64 168, iN .i64 169, iN .i64 170, iN .i64 171, iN .i64 172, iN .i64 173, iN .i64 174, iN .i64 175, iN .i64 176, iN .i64 177, iN .i64 178, iN .i64 179, iN .i64 180, iN .i64 181, iN .i64 182, iN .i64 183, iN .i64 184, iN .i64 185, iN .i64 186, iN .i64 187, iN .i64 188, iN .i64 189, iN .i64 190, iN .i64 191, iN .i64 192, iN .i64 193, iN .i64 194, iN .i64 195, iN .i64 196, iN .i64 197, iN .i64 198, iN .i64 199, iN .i64 200, iN .i64 201, iN .i64 202, iN .i64 203, iN .i64 204, iN .i64 205, iN .i64 206, iN .i64 207, iN .i64 208, iN .i64 209, iN .i64 210, iN .i64 211, iN .i64 212, iN .i64 213, iN .i64 214, iN .i64 215, iN .i64 216, iN .i64 217, iN .i64 218, iN .i64 219, iN .i64 220, iN .i64 221, iN .i64 222, iN .i64 223, iN .i64 224, iN .i64 225, iN .i64 226, iN .i64 227, iN .i64 228, iN .i64 229, iN .i64 230, iN .i64 231, iN .i64 232, iN .i64 233, iN .i64 234, iN .i64 235, iN .i64 236, iN .i64 237, iN .i64 238, iN .i64 239, iN .i64 240, iN .i64 241, iN .i64 242, iN .i64 243, iN .i64 244, iN .i64 245, iN .i64 246, iN .i64 247, iN .i64 248, iN .i64 249, iN .i64 250, iN .i64 251, iN .i64 252, iN .i64 253, iN .i64 254, iN .i64 255]) 288 3)
noncomputable def m58 : Memo := ⟨⟨263, [.slice ⟨11, 288, 0⟩ 288 288 false 1, .bool false], 12, [], [(11, q38)], .tuple [.agg [iN .i64 0, iN .i64 0, iN .i64 0, iN .i64 0, iN .i64 0, iN .i64 0, iN .i64 0, iN .i64 24, iN .i64 152, iN .i64 112, iN .i64 0, iN .i64 0, iN .i64 0, iN .i64 0, iN .i64 0, iN .i64 0, .slice ⟨195, 288, 0⟩ 288 288 true 1], .bool true], 2500, 12, [(195, q39)]⟩, []⟩
noncomputable def q40 : Blk := (blk (arL [iN .i64 5, iN .i64 5, iN .i64 5, iN .i64 5, iN .i64 5, iN .i64 5, iN .i64 5, iN .i64 5, iN .i64 5, iN .i64 5, iN .i64 5, iN .i64 5, iN .i64 5, iN .i64 5, iN .i64 5, iN .i64 5, iN .i64 5, iN .i64 5, iN .i64 5, iN .i64 5, iN .i64 5, iN .i64 5, iN .i64 5, iN .i64 5, iN .i64 5, iN .i64 5, iN .i64 5, iN .i64 5, iN .i64 5, iN .i64 5, iN .i64 5, iN .i64 5]) 32 3)
noncomputable def q41 : Blk := (blk (arL [iN .i64 0, iN .i64 1, iN .i64 2, iN .i64 3, iN .i64 4, iN .i64 5, iN .i64 6, iN .i64 7, iN .i64 8, iN .i64 9, iN .i64 10, iN .i64 11, iN .i64 12, iN .i64 13, iN .i64 14, iN .i64 15, iN .i64 16, iN .i64 17, iN .i64 18, iN .i64 19, iN .i64 20, iN .i64 21, iN .i64 22, iN .i64 23, iN .i64 24, iN .i64 25, iN .i64 26, iN .i64 27, iN .i64 28, iN .i64 29, iN .i64 30, iN .i64 31]) 32 3)
noncomputable def m59 : Memo := ⟨⟨263, [.slice ⟨11, 32, 0⟩ 32 32 true 1, .bool false], 12, [], [(11, q40)], .tuple [.agg [iN .i64 0, iN .i64 0, iN .i64 0, iN .i64 0, iN .i64 0, iN .i64 32, iN .i64 0, iN .i64 0, iN .i64 0, iN .i64 0, iN .i64 0, iN .i64 0, iN .i64 0, iN .i64 0, iN .i64 0, iN .i64 0, .slice ⟨195, 32, 0⟩ 32 32 true 1], .bool true], 452, 12, [(195, q41)]⟩, []⟩
noncomputable def m57 : Memo := ⟨⟨251, [], 11, [], [], .tuple [.agg [iN .i64 0, iN .i64 0, iN .i64 0, iN .i64 0, iN .i64 0, iN .i64 0, iN .i64 0, iN .i64 24, iN .i64 152, iN .i64 112, iN .i64 0, iN .i64 0, iN .i64 0, iN .i64 0, iN .i64 0, iN .i64 0, .slice ⟨436, 288, 0⟩ 288 288 true 1], .agg [iN .i64 0, iN .i64 0, iN .i64 0, iN .i64 0, iN .i64 0, iN .i64 32, iN .i64 0, iN .i64 0, iN .i64 0, iN .i64 0, iN .i64 0, iN .i64 0, iN .i64 0, iN .i64 0, iN .i64 0, iN .i64 0, .slice ⟨2977, 32, 0⟩ 32 32 true 1]], 3239, 11, [(436, q39), (2977, q41)]⟩, []⟩
noncomputable def m56 : Memo := ⟨⟨225, [.slice ⟨11, 19, 2⟩ 17 17 false 1, iN .i64 1048576], 12, [], [(11, q21)], .tuple [.slice ⟨3421, 11, 0⟩ 11 11 false 1, iN .i64 13, iN .i64 0], 4799, 12, [(3421, (blk (arL (bys (nb 11 0xa620a61003420626f6c62))) 0 5))]⟩, []⟩
noncomputable def m60 : Memo := ⟨⟨80, [.slice ⟨11, 11, 0⟩ 11 11 false 1], 12, [], [(11, (blk (arL (bys (nb 11 0xa620a61003420626f6c62))) 0 5))], iN .u32 335020747, 12, 12, []⟩, []⟩
noncomputable def m55 : Memo := ⟨⟨204, [.slice ⟨11, 19, 0⟩ 19 19 false 1, iN .i64 1048576], 12, [], [(11, q21)], .tuple [.slice ⟨3429, 11, 0⟩ 11 11 false 1, iN .i64 19, iN .i64 0], 4832, 12, [(3429, (blk (arL (bys (nb 11 0xa620a61003420626f6c62))) 0 5))]⟩, []⟩
noncomputable def m54 : Memo := ⟨⟨166, [.slice ⟨11, 19, 0⟩ 19 19 false 1], 12, [], [(11, q21)], .tuple [.agg [iN .i64 3, .slice ⟨4850, 4, 0⟩ 4 4 false 1], iN .i64 0], 4851, 12, [(4850, (blk (arL (bys (nb 4 0xa620a61))) 0 5))]⟩, []⟩
noncomputable def m61 : Memo := ⟨⟨14, [.agg [iN .i64 3, .slice ⟨11, 4, 0⟩ 4 4 false 1]], 12, [tR1], [(11, (blk (arL (bys (nb 4 0xa620a61))) 0 5))], .tuple [.agg q1, iN .i64 0], 3624, 12, []⟩, []⟩
noncomputable def q42 : Blk := (blk (arL [.str q31, .slice ⟨12, 19, 0⟩ 19 19 false 1, .str q32, .slice ⟨13, 19, 0⟩ 19 19 false 1]) 0 72)
noncomputable def m53 : Memo := ⟨⟨117, [.slice ⟨11, 4, 0⟩ 2 2 false 2, .agg q1], 14, [tR1], [(11, q42), (12, q21), (13, q27)], .tuple [.agg [iN .i64 3, .slice ⟨5003, 4, 0⟩ 4 4 false 1], iN .i64 0], 8618, 14, [(5003, (blk (arL (bys (nb 4 0xa620a61))) 0 5))]⟩, [11]⟩
noncomputable def m52 : Memo := ⟨⟨57, [.slice ⟨11, 4, 0⟩ 2 2 false 2, .agg q1], 14, [tR1], [(11, q42), (12, q21), (13, q27)], .tuple [.agg [iN .i64 3, .slice ⟨5154, 4, 0⟩ 4 4 false 1], iN .i64 0], 8769, 14, [(5154, (blk (arL (bys (nb 4 0xa620a61))) 0 5))]⟩, [11]⟩
noncomputable def m66 : Memo := ⟨⟨225, [.slice ⟨11, 19, 2⟩ 17 17 false 1, iN .i64 1048576], 12, [], [(11, q27)], .tuple [.slice ⟨3421, 11, 0⟩ 11 11 false 1, iN .i64 13, iN .i64 0], 4799, 12, [(3421, (blk (arL (bys (nb 11 0xa630a61003420626f6c62))) 0 5))]⟩, []⟩
noncomputable def m67 : Memo := ⟨⟨80, [.slice ⟨11, 11, 0⟩ 11 11 false 1], 12, [], [(11, (blk (arL (bys (nb 11 0xa630a61003420626f6c62))) 0 5))], iN .u32 335151820, 12, 12, []⟩, []⟩
noncomputable def m65 : Memo := ⟨⟨204, [.slice ⟨11, 19, 0⟩ 19 19 false 1, iN .i64 1048576], 12, [], [(11, q27)], .tuple [.slice ⟨3429, 11, 0⟩ 11 11 false 1, iN .i64 19, iN .i64 0], 4832, 12, [(3429, (blk (arL (bys (nb 11 0xa630a61003420626f6c62))) 0 5))]⟩, []⟩
noncomputable def m64 : Memo := ⟨⟨166, [.slice ⟨11, 19, 0⟩ 19 19 false 1], 12, [], [(11, q27)], .tuple [.agg [iN .i64 3, .slice ⟨4850, 4, 0⟩ 4 4 false 1], iN .i64 0], 4851, 12, [(4850, (blk (arL (bys (nb 4 0xa630a61))) 0 5))]⟩, []⟩
noncomputable def m68 : Memo := ⟨⟨14, [.agg [iN .i64 3, .slice ⟨11, 4, 0⟩ 4 4 false 1]], 12, [tR1], [(11, (blk (arL (bys (nb 4 0xa630a61))) 0 5))], .tuple [.agg q24, iN .i64 0], 3624, 12, []⟩, []⟩
noncomputable def m63 : Memo := ⟨⟨117, [.slice ⟨11, 4, 0⟩ 2 2 false 2, .agg q24], 14, [tR1], [(11, q42), (12, q21), (13, q27)], .tuple [.agg [iN .i64 3, .slice ⟨5003, 4, 0⟩ 4 4 false 1], iN .i64 0], 8618, 14, [(5003, (blk (arL (bys (nb 4 0xa630a61))) 0 5))]⟩, [11]⟩
noncomputable def m62 : Memo := ⟨⟨57, [.slice ⟨11, 4, 0⟩ 2 2 false 2, .agg q24], 14, [tR1], [(11, q42), (12, q21), (13, q27)], .tuple [.agg [iN .i64 3, .slice ⟨5154, 4, 0⟩ 4 4 false 1], iN .i64 0], 8769, 14, [(5154, (blk (arL (bys (nb 4 0xa630a61))) 0 5))]⟩, [11]⟩
noncomputable def m0 : Memo := ⟨⟨4, [], 11, [tR1], [], .bool true, 36041, 11, []⟩, []⟩
end Go.Proofs.YtcphjmgfgfjnpaaGreatDoor
namespace Go.Proofs.YtcphjmgfgfjnpaaGreatDoor
open Go Ev
theorem s4 : cutS 11 m4.c = true := by kernel_rfl
set_option maxRecDepth 100000 in
theorem r4 (es : Nat → Nat) : memB (env0.mem 11 []) 60 m4.c es = true := by kernel_rfl
theorem s3 : cutS 11 m3.c = true := by kernel_rfl
set_option maxRecDepth 100000 in
theorem r3 (es : Nat → Nat) : memB (env0.mem 11 [(85, [m4])]) 60 m3.c es = true := by kernel_rfl
theorem s2 : cutS 11 m2.c = true := by kernel_rfl
set_option maxRecDepth 100000 in
theorem r2 (es : Nat → Nat) : memB (env0.mem 11 [(44, [m3])]) 60 m2.c es = true := by kernel_rfl
theorem s8 : cutS 11 m8.c = true := by kernel_rfl
set_option maxRecDepth 100000 in
theorem r8 (es : Nat → Nat) : memB (env0.mem 11 []) 60 m8.c es = true := by kernel_rfl
theorem s9 : cutS 11 m9.c = true := by kernel_rfl
set_option maxRecDepth 100000 in
theorem r9 (es : Nat → Nat) : memB (env0.mem 11 []) 60 m9.c es = true := by kernel_rfl
theorem s10 : cutS 11 m10.c = true := by kernel_rfl
set_option maxRecDepth 100000 in
theorem r10 (es : Nat → Nat) : memB (env0.mem 11 []) 60 m10.c es = true := by kernel_rfl
theorem s11 : cutS 11 m11.c = true := by kernel_rfl
set_option maxRecDepth 100000 in
theorem r11 (es : Nat → Nat) : memB (env0.mem 11 []) 60 m11.c es = true := by kernel_rfl
theorem s12 : cutS 11 m12.c = true := by kernel_rfl
set_option maxRecDepth 100000 in
theorem r12 (es : Nat → Nat) : memB (env0.mem 11 []) 60 m12.c es = true := by kernel_rfl
theorem s13 : cutS 11 m13.c = true := by kernel_rfl
set_option maxRecDepth 100000 in
theorem r13 (es : Nat → Nat) : memB (env0.mem 11 []) 60 m13.c es = true := by kernel_rfl
theorem s14 : cutS 11 m14.c = true := by kernel_rfl
set_option maxRecDepth 100000 in
theorem r14 (es : Nat → Nat) : memB (env0.mem 11 []) 60 m14.c es = true := by kernel_rfl
theorem s15 : cutS 11 m15.c = true := by kernel_rfl
set_option maxRecDepth 100000 in
theorem r15 (es : Nat → Nat) : memB (env0.mem 11 []) 60 m15.c es = true := by kernel_rfl
theorem s16 : cutS 11 m16.c = true := by kernel_rfl
set_option maxRecDepth 100000 in
theorem r16 (es : Nat → Nat) : memB (env0.mem 11 []) 60 m16.c es = true := by kernel_rfl
theorem s17 : cutS 11 m17.c = true := by kernel_rfl
set_option maxRecDepth 100000 in
theorem r17 (es : Nat → Nat) : memB (env0.mem 11 []) 60 m17.c es = true := by kernel_rfl
theorem s18 : cutS 11 m18.c = true := by kernel_rfl
set_option maxRecDepth 100000 in
theorem r18 (es : Nat → Nat) : memB (env0.mem 11 []) 60 m18.c es = true := by kernel_rfl
theorem s7 : cutS 11 m7.c = true := by kernel_rfl
set_option maxRecDepth 100000 in
theorem r7 (es : Nat → Nat) : memB (env0.mem 11 [(188, [m8, m9, m10, m11, m12, m13, m14, m15, m16, m17, m18])]) 60 m7.c es = true := by kernel_rfl
theorem s6 : cutS 11 m6.c = true := by kernel_rfl
set_option maxRecDepth 100000 in
theorem r6 (es : Nat → Nat) : memB (env0.mem 11 [(148, [m7])]) 60 m6.c es = true := by kernel_rfl
theorem s19 : cutS 11 m19.c = true := by kernel_rfl
set_option maxRecDepth 100000 in
theorem r19 (es : Nat → Nat) : memB (env0.mem 11 []) 60 m19.c es = true := by kernel_rfl
theorem s5 : cutS 11 m5.c = true := by kernel_rfl
set_option maxRecDepth 100000 in
theorem r5 (es : Nat → Nat) : memB (env0.mem 11 [(79, [m6]), (80, [m19])]) 60 m5.c es = true := by kernel_rfl
theorem s20 : cutS 11 m20.c = true := by kernel_rfl
set_option maxRecDepth 100000 in
theorem r20 (es : Nat → Nat) : memB (env0.mem 11 []) 60 m20.c es = true := by kernel_rfl
end Go.Proofs.YtcphjmgfgfjnpaaGreatDoor
namespace Go.Proofs.YtcphjmgfgfjnpaaGreatDoor
open Go Ev
theorem s23 : cutS 11 m23.c = true := by kernel_rfl
set_option maxRecDepth 100000 in
theorem r23 (es : Nat → Nat) : memB (env0.mem 11 []) 60 m23.c es = true := by kernel_rfl
theorem s22 : cutS 11 m22.c = true := by kernel_rfl
set_option maxRecDepth 100000 in
theorem r22 (es : Nat → Nat) : memB (env0.mem 11 [(85, [m23])]) 60 m22.c es = true := by kernel_rfl
theorem s21 : cutS 11 m21.c = true := by kernel_rfl
set_option maxRecDepth 100000 in
theorem r21 (es : Nat → Nat) : memB (env0.mem 11 [(44, [m22])]) 60 m21.c es = true := by kernel_rfl
theorem s27 : cutS 11 m27.c = true := by kernel_rfl
set_option maxRecDepth 100000 in
theorem r27 (es : Nat → Nat) : memB (env0.mem 11 []) 60 m27.c es = true := by kernel_rfl
theorem s28 : cutS 11 m28.c = true := by kernel_rfl
set_option maxRecDepth 100000 in
theorem r28 (es : Nat → Nat) : memB (env0.mem 11 []) 60 m28.c es = true := by kernel_rfl
theorem s29 : cutS 11 m29.c = true := by kernel_rfl
set_option maxRecDepth 100000 in
theorem r29 (es : Nat → Nat) : memB (env0.mem 11 []) 60 m29.c es = true := by kernel_rfl
theorem s30 : cutS 11 m30.c = true := by kernel_rfl
set_option maxRecDepth 100000 in
theorem r30 (es : Nat → Nat) : memB (env0.mem 11 []) 60 m30.c es = true := by kernel_rfl
theorem s31 : cutS 11 m31.c = true := by kernel_rfl
set_option maxRecDepth 100000 in
theorem r31 (es : Nat → Nat) : memB (env0.mem 11 []) 60 m31.c es = true := by kernel_rfl
theorem s32 : cutS 11 m32.c = true := by kernel_rfl
set_option maxRecDepth 100000 in
theorem r32 (es : Nat → Nat) : memB (env0.mem 11 []) 60 m32.c es = true := by kernel_rfl
theorem s33 : cutS 11 m33.c = true := by kernel_rfl
set_option maxRecDepth 100000 in
theorem r33 (es : Nat → Nat) : memB (env0.mem 11 []) 60 m33.c es = true := by kernel_rfl
theorem s34 : cutS 11 m34.c = true := by kernel_rfl
set_option maxRecDepth 100000 in
theorem r34 (es : Nat → Nat) : memB (env0.mem 11 []) 60 m34.c es = true := by kernel_rfl
theorem s35 : cutS 11 m35.c = true := by kernel_rfl
set_option maxRecDepth 100000 in
theorem r35 (es : Nat → Nat) : memB (env0.mem 11 []) 60 m35.c es = true := by kernel_rfl
theorem s36 : cutS 11 m36.c = true := by kernel_rfl
set_option maxRecDepth 100000 in
theorem r36 (es : Nat → Nat) : memB (env0.mem 11 []) 60 m36.c es = true := by kernel_rfl
theorem s37 : cutS 11 m37.c = true := by kernel_rfl
set_option maxRecDepth 100000 in
theorem r37 (es : Nat → Nat) : memB (env0.mem 11 []) 60 m37.c es = true := by kernel_rfl
theorem s26 : cutS 11 m26.c = true := by kernel_rfl
set_option maxRecDepth 100000 in
theorem r26 (es : Nat → Nat) : memB (env0.mem 11 [(188, [m27, m28, m29, m30, m31, m32, m33, m34, m35, m36, m37])]) 60 m26.c es = true := by kernel_rfl
theorem s25 : cutS 11 m25.c = true := by kernel_rfl
set_option maxRecDepth 100000 in
theorem r25 (es : Nat → Nat) : memB (env0.mem 11 [(148, [m26])]) 60 m25.c es = true := by kernel_rfl
theorem s38 : cutS 11 m38.c = true := by kernel_rfl
set_option maxRecDepth 100000 in
theorem r38 (es : Nat → Nat) : memB (env0.mem 11 []) 60 m38.c es = true := by kernel_rfl
theorem s24 : cutS 11 m24.c = true := by kernel_rfl
set_option maxRecDepth 100000 in
theorem r24 (es : Nat → Nat) : memB (env0.mem 11 [(79, [m25]), (80, [m38])]) 60 m24.c es = true := by kernel_rfl
theorem s39 : cutS 11 m39.c = true := by kernel_rfl
set_option maxRecDepth 100000 in
theorem r39 (es : Nat → Nat) : memB (env0.mem 11 []) 60 m39.c es = true := by kernel_rfl
theorem s1 : cutS 11 m1.c = true := by kernel_rfl
set_option maxRecDepth 100000 in
theorem r1 (es : Nat → Nat) : memB (env0.mem 11 [(14, [m2, m21]), (41, [m5, m24]), (46, [m20, m39])]) 60 m1.c es = true := by kernel_rfl
theorem s42 : cutS 11 m42.c = true := by kernel_rfl
set_option maxRecDepth 100000 in
theorem r42 (es : Nat → Nat) : memB (env0.mem 11 []) 60 m42.c es = true := by kernel_rfl
theorem s43 : cutS 11 m43.c = true := by kernel_rfl
set_option maxRecDepth 100000 in
theorem r43 (es : Nat → Nat) : memB (env0.mem 11 []) 60 m43.c es = true := by kernel_rfl
theorem s44 : cutS 11 m44.c = true := by kernel_rfl
set_option maxRecDepth 100000 in
theorem r44 (es : Nat → Nat) : memB (env0.mem 11 []) 60 m44.c es = true := by kernel_rfl
theorem s41 : cutS 11 m41.c = true := by kernel_rfl
set_option maxRecDepth 100000 in
theorem r41 (es : Nat → Nat) : memB (env0.mem 11 [(50, [m42, m43, m44])]) 60 m41.c es = true := by kernel_rfl
theorem s46 : cutS 11 m46.c = true := by kernel_rfl
set_option maxRecDepth 100000 in
theorem r46 (es : Nat → Nat) : memB (env0.mem 11 []) 60 m46.c es = true := by kernel_rfl
end Go.Proofs.YtcphjmgfgfjnpaaGreatDoor
namespace Go.Proofs.YtcphjmgfgfjnpaaGreatDoor
open Go Ev
theorem s47 : cutS 11 m47.c = true := by kernel_rfl
set_option maxRecDepth 100000 in
theorem r47 (es : Nat → Nat) : memB (env0.mem 11 []) 60 m47.c es = true := by kernel_rfl
theorem s45 : cutS 11 m45.c = true := by kernel_rfl
set_option maxRecDepth 100000 in
theorem r45 (es : Nat → Nat) : memB (env0.mem 11 [(50, [m42, m46, m47])]) 60 m45.c es = true := by kernel_rfl
theorem s40 : cutS 11 m40.c = true := by kernel_rfl
set_option maxRecDepth 100000 in
theorem r40 (es : Nat → Nat) : memB (env0.mem 11 [(18, [m41, m45])]) 60 m40.c es = true := by kernel_rfl
theorem s49 : cutS 11 m49.c = true := by kernel_rfl
set_option maxRecDepth 100000 in
theorem r49 (es : Nat → Nat) : memB (env0.mem 11 []) 60 m49.c es = true := by kernel_rfl
theorem s48 : cutS 11 m48.c = true := by kernel_rfl
set_option maxRecDepth 100000 in
theorem r48 (es : Nat → Nat) : memB (env0.mem 11 [(50, [m49])]) 60 m48.c es = true := by kernel_rfl
theorem s51 : cutS 11 m51.c = true := by kernel_rfl
set_option maxRecDepth 100000 in
theorem r51 (es : Nat → Nat) : memB (env0.mem 11 []) 60 m51.c es = true := by kernel_rfl
theorem s50 : cutS 11 m50.c = true := by kernel_rfl
set_option maxRecDepth 100000 in
theorem r50 (es : Nat → Nat) : memB (env0.mem 11 [(50, [m51])]) 60 m50.c es = true := by kernel_rfl
theorem s58 : cutS 11 m58.c = true := by kernel_rfl
set_option maxRecDepth 100000 in
theorem r58 (es : Nat → Nat) : memB (env0.mem 11 []) 60 m58.c es = true := by kernel_rfl
theorem s59 : cutS 11 m59.c = true := by kernel_rfl
set_option maxRecDepth 100000 in
theorem r59 (es : Nat → Nat) : memB (env0.mem 11 []) 60 m59.c es = true := by kernel_rfl
theorem s57 : cutS 11 m57.c = true := by kernel_rfl
set_option maxRecDepth 100000 in
theorem r57 (es : Nat → Nat) : memB (env0.mem 11 [(263, [m58, m59])]) 60 m57.c es = true := by kernel_rfl
theorem s56 : cutS 11 m56.c = true := by kernel_rfl
set_option maxRecDepth 100000 in
theorem r56 (es : Nat → Nat) : memB (env0.mem 11 [(251, [m57])]) 60 m56.c es = true := by kernel_rfl
theorem s60 : cutS 11 m60.c = true := by kernel_rfl
set_option maxRecDepth 100000 in
theorem r60 (es : Nat → Nat) : memB (env0.mem 11 []) 60 m60.c es = true := by kernel_rfl
theorem s55 : cutS 11 m55.c = true := by kernel_rfl
set_option maxRecDepth 100000 in
theorem r55 (es : Nat → Nat) : memB (env0.mem 11 [(80, [m60]), (225, [m56])]) 60 m55.c es = true := by kernel_rfl
theorem s54 : cutS 11 m54.c = true := by kernel_rfl
set_option maxRecDepth 100000 in
theorem r54 (es : Nat → Nat) : memB (env0.mem 11 [(204, [m55])]) 60 m54.c es = true := by kernel_rfl
theorem s61 : cutS 11 m61.c = true := by kernel_rfl
set_option maxRecDepth 100000 in
theorem r61 (es : Nat → Nat) : memB (env0.mem 11 [(44, [m3])]) 60 m61.c es = true := by kernel_rfl
theorem s53 : cutS 11 m53.c = true := by kernel_rfl
set_option maxRecDepth 100000 in
theorem r53 (es : Nat → Nat) : memB (env0.mem 11 [(14, [m61]), (18, [m41, m45]), (46, [m20]), (166, [m54])]) 60 m53.c es = true := by kernel_rfl
theorem s52 : cutS 11 m52.c = true := by kernel_rfl
set_option maxRecDepth 100000 in
theorem r52 (es : Nat → Nat) : memB (env0.mem 11 [(18, [m41, m45]), (46, [m20]), (117, [m53])]) 60 m52.c es = true := by kernel_rfl
end Go.Proofs.YtcphjmgfgfjnpaaGreatDoor
namespace Go.Proofs.YtcphjmgfgfjnpaaGreatDoor
open Go Ev
theorem s66 : cutS 11 m66.c = true := by kernel_rfl
set_option maxRecDepth 100000 in
theorem r66 (es : Nat → Nat) : memB (env0.mem 11 [(251, [m57])]) 60 m66.c es = true := by kernel_rfl
theorem s67 : cutS 11 m67.c = true := by kernel_rfl
set_option maxRecDepth 100000 in
theorem r67 (es : Nat → Nat) : memB (env0.mem 11 []) 60 m67.c es = true := by kernel_rfl
theorem s65 : cutS 11 m65.c = true := by kernel_rfl
set_option maxRecDepth 100000 in
theorem r65 (es : Nat → Nat) : memB (env0.mem 11 [(80, [m67]), (225, [m66])]) 60 m65.c es = true := by kernel_rfl
theorem s64 : cutS 11 m64.c = true := by kernel_rfl
set_option maxRecDepth 100000 in
theorem r64 (es : Nat → Nat) : memB (env0.mem 11 [(204, [m65])]) 60 m64.c es = true := by kernel_rfl
theorem s68 : cutS 11 m68.c = true := by kernel_rfl
set_option maxRecDepth 100000 in
theorem r68 (es : Nat → Nat) : memB (env0.mem 11 [(44, [m22])]) 60 m68.c es = true := by kernel_rfl
theorem s63 : cutS 11 m63.c = true := by kernel_rfl
set_option maxRecDepth 100000 in
theorem r63 (es : Nat → Nat) : memB (env0.mem 11 [(14, [m68]), (18, [m41, m45]), (46, [m39]), (166, [m64])]) 60 m63.c es = true := by kernel_rfl
theorem s62 : cutS 11 m62.c = true := by kernel_rfl
set_option maxRecDepth 100000 in
theorem r62 (es : Nat → Nat) : memB (env0.mem 11 [(18, [m41, m45]), (46, [m39]), (117, [m63])]) 60 m62.c es = true := by kernel_rfl
theorem s0 : cutS 11 m0.c = true := by kernel_rfl
set_option maxRecDepth 100000 in
theorem r0 (es : Nat → Nat) : memB (env0.mem 11 [(6, [m1]), (7, [m40]), (18, [m48, m50]), (57, [m52, m62])]) 60 m0.c es = true := by kernel_rfl
end Go.Proofs.YtcphjmgfgfjnpaaGreatDoor
namespace Go.Proofs.YtcphjmgfgfjnpaaGreatDoor
open Go Ev
theorem good_parts : good = part0 ++ (part1 ++ (part2 ++ (part3 ++ (part4 ++ (part5))))) := by decide +kernel
theorem good_cert {f : Nat} (h : good.contains f = true) : certF f = true := by
  have hm : f ∈ good := by simpa using h
  rw [good_parts] at hm
  simp only [List.mem_append] at hm
  rcases hm with hm | hm | hm | hm | hm | hm
  · exact List.all_eq_true.1 part0_ok f hm
  · exact List.all_eq_true.1 part1_ok f hm
  · exact List.all_eq_true.1 part2_ok f hm
  · exact List.all_eq_true.1 part3_ok f hm
  · exact List.all_eq_true.1 part4_ok f hm
  · exact List.all_eq_true.1 part5_ok f hm
theorem env0_ok : env0.OK := ⟨by kernel_rfl, xOf_sound rfl xs_ok, xOf_astep xs_ok, fun f g h => (by cases h), fun f g h => (by cases h), xq_ok fun _ => rfl, fun f fn code hg hf hc => certF_spec (good_cert hg) hf hc⟩
theorem gK1 : Tryz.prog.globalNamed "codicil/sha.k" = some 1 := by kernel_rfl
noncomputable def lenOf (g : Nat) : Nat := (bif Nat.beq g 1 then 64 else 0)
noncomputable def spot (g : Nat) : Spot := ⟨g, 0, lenOf g⟩
theorem gOf_lt : ∀ g L, gOf g = some L → g < 11 := by
  intro g L h
  unfold gOf at h
  cases hb0 : Nat.beq g 1 with
  | true =>
    rw [hb0] at h
    obtain rfl := Nat.eq_of_beq_eq_true hb0
    decide
  | false =>
    rw [hb0] at h
    cases h
theorem k4 : MemoOK env0 11 m4 := .mk env0_ok gOf_lt jN s4 r4
theorem k3 : MemoOK env0 11 m3 := .mk env0_ok gOf_lt (jC (allC k4 allN) jN) s3 r3
theorem k2 : MemoOK env0 11 m2 := .mk env0_ok gOf_lt (jC (allC k3 allN) jN) s2 r2
theorem k8 : MemoOK env0 11 m8 := .mk env0_ok gOf_lt jN s8 r8
theorem k9 : MemoOK env0 11 m9 := .mk env0_ok gOf_lt jN s9 r9
theorem k10 : MemoOK env0 11 m10 := .mk env0_ok gOf_lt jN s10 r10
theorem k11 : MemoOK env0 11 m11 := .mk env0_ok gOf_lt jN s11 r11
theorem k12 : MemoOK env0 11 m12 := .mk env0_ok gOf_lt jN s12 r12
theorem k13 : MemoOK env0 11 m13 := .mk env0_ok gOf_lt jN s13 r13
theorem k14 : MemoOK env0 11 m14 := .mk env0_ok gOf_lt jN s14 r14
theorem k15 : MemoOK env0 11 m15 := .mk env0_ok gOf_lt jN s15 r15
theorem k16 : MemoOK env0 11 m16 := .mk env0_ok gOf_lt jN s16 r16
theorem k17 : MemoOK env0 11 m17 := .mk env0_ok gOf_lt jN s17 r17
theorem k18 : MemoOK env0 11 m18 := .mk env0_ok gOf_lt jN s18 r18
theorem k7 : MemoOK env0 11 m7 := .mk env0_ok gOf_lt (jC (allC k8 (allC k9 (allC k10 (allC k11 (allC k12 (allC k13 (allC k14 (allC k15 (allC k16 (allC k17 (allC k18 allN))))))))))) jN) s7 r7
theorem k6 : MemoOK env0 11 m6 := .mk env0_ok gOf_lt (jC (allC k7 allN) jN) s6 r6
theorem k19 : MemoOK env0 11 m19 := .mk env0_ok gOf_lt jN s19 r19
theorem k5 : MemoOK env0 11 m5 := .mk env0_ok gOf_lt (jC (allC k6 allN) (jC (allC k19 allN) jN)) s5 r5
theorem k20 : MemoOK env0 11 m20 := .mk env0_ok gOf_lt jN s20 r20
theorem k23 : MemoOK env0 11 m23 := .mk env0_ok gOf_lt jN s23 r23
theorem k22 : MemoOK env0 11 m22 := .mk env0_ok gOf_lt (jC (allC k23 allN) jN) s22 r22
theorem k21 : MemoOK env0 11 m21 := .mk env0_ok gOf_lt (jC (allC k22 allN) jN) s21 r21
theorem k27 : MemoOK env0 11 m27 := .mk env0_ok gOf_lt jN s27 r27
theorem k28 : MemoOK env0 11 m28 := .mk env0_ok gOf_lt jN s28 r28
theorem k29 : MemoOK env0 11 m29 := .mk env0_ok gOf_lt jN s29 r29
theorem k30 : MemoOK env0 11 m30 := .mk env0_ok gOf_lt jN s30 r30
theorem k31 : MemoOK env0 11 m31 := .mk env0_ok gOf_lt jN s31 r31
theorem k32 : MemoOK env0 11 m32 := .mk env0_ok gOf_lt jN s32 r32
theorem k33 : MemoOK env0 11 m33 := .mk env0_ok gOf_lt jN s33 r33
theorem k34 : MemoOK env0 11 m34 := .mk env0_ok gOf_lt jN s34 r34
theorem k35 : MemoOK env0 11 m35 := .mk env0_ok gOf_lt jN s35 r35
theorem k36 : MemoOK env0 11 m36 := .mk env0_ok gOf_lt jN s36 r36
theorem k37 : MemoOK env0 11 m37 := .mk env0_ok gOf_lt jN s37 r37
theorem k26 : MemoOK env0 11 m26 := .mk env0_ok gOf_lt (jC (allC k27 (allC k28 (allC k29 (allC k30 (allC k31 (allC k32 (allC k33 (allC k34 (allC k35 (allC k36 (allC k37 allN))))))))))) jN) s26 r26
theorem k25 : MemoOK env0 11 m25 := .mk env0_ok gOf_lt (jC (allC k26 allN) jN) s25 r25
theorem k38 : MemoOK env0 11 m38 := .mk env0_ok gOf_lt jN s38 r38
theorem k24 : MemoOK env0 11 m24 := .mk env0_ok gOf_lt (jC (allC k25 allN) (jC (allC k38 allN) jN)) s24 r24
theorem k39 : MemoOK env0 11 m39 := .mk env0_ok gOf_lt jN s39 r39
theorem k1 : MemoOK env0 11 m1 := .mk env0_ok gOf_lt (jC (allC k2 (allC k21 allN)) (jC (allC k5 (allC k24 allN)) (jC (allC k20 (allC k39 allN)) jN))) s1 r1
theorem k42 : MemoOK env0 11 m42 := .mk env0_ok gOf_lt jN s42 r42
theorem k43 : MemoOK env0 11 m43 := .mk env0_ok gOf_lt jN s43 r43
theorem k44 : MemoOK env0 11 m44 := .mk env0_ok gOf_lt jN s44 r44
theorem k41 : MemoOK env0 11 m41 := .mk env0_ok gOf_lt (jC (allC k42 (allC k43 (allC k44 allN))) jN) s41 r41
theorem k46 : MemoOK env0 11 m46 := .mk env0_ok gOf_lt jN s46 r46
theorem k47 : MemoOK env0 11 m47 := .mk env0_ok gOf_lt jN s47 r47
theorem k45 : MemoOK env0 11 m45 := .mk env0_ok gOf_lt (jC (allC k42 (allC k46 (allC k47 allN))) jN) s45 r45
theorem k40 : MemoOK env0 11 m40 := .mk env0_ok gOf_lt (jC (allC k41 (allC k45 allN)) jN) s40 r40
theorem k49 : MemoOK env0 11 m49 := .mk env0_ok gOf_lt jN s49 r49
theorem k48 : MemoOK env0 11 m48 := .mk env0_ok gOf_lt (jC (allC k49 allN) jN) s48 r48
theorem k51 : MemoOK env0 11 m51 := .mk env0_ok gOf_lt jN s51 r51
theorem k50 : MemoOK env0 11 m50 := .mk env0_ok gOf_lt (jC (allC k51 allN) jN) s50 r50
theorem k58 : MemoOK env0 11 m58 := .mk env0_ok gOf_lt jN s58 r58
theorem k59 : MemoOK env0 11 m59 := .mk env0_ok gOf_lt jN s59 r59
theorem k57 : MemoOK env0 11 m57 := .mk env0_ok gOf_lt (jC (allC k58 (allC k59 allN)) jN) s57 r57
theorem k56 : MemoOK env0 11 m56 := .mk env0_ok gOf_lt (jC (allC k57 allN) jN) s56 r56
theorem k60 : MemoOK env0 11 m60 := .mk env0_ok gOf_lt jN s60 r60
theorem k55 : MemoOK env0 11 m55 := .mk env0_ok gOf_lt (jC (allC k60 allN) (jC (allC k56 allN) jN)) s55 r55
theorem k54 : MemoOK env0 11 m54 := .mk env0_ok gOf_lt (jC (allC k55 allN) jN) s54 r54
theorem k61 : MemoOK env0 11 m61 := .mk env0_ok gOf_lt (jC (allC k3 allN) jN) s61 r61
theorem k53 : MemoOK env0 11 m53 := .mk env0_ok gOf_lt (jC (allC k61 allN) (jC (allC k41 (allC k45 allN)) (jC (allC k20 allN) (jC (allC k54 allN) jN)))) s53 r53
theorem k52 : MemoOK env0 11 m52 := .mk env0_ok gOf_lt (jC (allC k41 (allC k45 allN)) (jC (allC k20 allN) (jC (allC k53 allN) jN))) s52 r52
theorem k66 : MemoOK env0 11 m66 := .mk env0_ok gOf_lt (jC (allC k57 allN) jN) s66 r66
theorem k67 : MemoOK env0 11 m67 := .mk env0_ok gOf_lt jN s67 r67
theorem k65 : MemoOK env0 11 m65 := .mk env0_ok gOf_lt (jC (allC k67 allN) (jC (allC k66 allN) jN)) s65 r65
theorem k64 : MemoOK env0 11 m64 := .mk env0_ok gOf_lt (jC (allC k65 allN) jN) s64 r64
theorem k68 : MemoOK env0 11 m68 := .mk env0_ok gOf_lt (jC (allC k22 allN) jN) s68 r68
theorem k63 : MemoOK env0 11 m63 := .mk env0_ok gOf_lt (jC (allC k68 allN) (jC (allC k41 (allC k45 allN)) (jC (allC k39 allN) (jC (allC k64 allN) jN)))) s63 r63
theorem k62 : MemoOK env0 11 m62 := .mk env0_ok gOf_lt (jC (allC k41 (allC k45 allN)) (jC (allC k39 allN) (jC (allC k63 allN) jN))) s62 r62
theorem k0 : MemoOK env0 11 m0 := .mk env0_ok gOf_lt (jC (allC k1 allN) (jC (allC k40 allN) (jC (allC k48 (allC k50 allN)) (jC (allC k52 (allC k62 allN)) jN)))) s0 r0
end Go.Proofs.YtcphjmgfgfjnpaaGreatDoor
namespace Go.Proofs.YtcphjmgfgfjnpaaGreatDoor
open Go Ev
noncomputable abbrev PP : Program := Tryz.prog
abbrev Kn := T V → AH → Res
abbrev Ke := Nat → T V → AH → Res
def cBody (fn : Func) : Code := match fn.body with
  | some b => b
  | none => .skip
abbrev n_main_main : Nat := 0
abbrev n_gosem_cut : Nat := 1
abbrev n_gosem_cut_init : Nat := 2
abbrev n_law20_RenameLikes : Nat := 3
abbrev n_law20_awake : Nat := 4
abbrev n_rename_Like : Nat := 5
abbrev n_odb_Put : Nat := 6
abbrev n_odb_Made : Nat := 7
abbrev n_rename_Pairs : Nat := 8
abbrev n_bytes_Equal : Nat := 9
abbrev n_diff_Lines : Nat := 10
abbrev n_diff_Way : Nat := 11
abbrev n_odb_Ids : Nat := 12
abbrev n_loose_Pack : Nat := 13
abbrev n_object_Id : Nat := 14
abbrev n_loose_Place : Nat := 15
abbrev n_slices_SortFunc___txfile_Change_txfile_Change_ : Nat := 16
abbrev n_odb_byPath : Nat := 17
abbrev n_names_Path : Nat := 18
abbrev n_odb_inOrder : Nat := 19
abbrev n_slices_Clone___byte_byte_ : Nat := 20
abbrev n_slices_SortFunc___api_File_api_File_ : Nat := 21
abbrev n_odb_Made_c1 : Nat := 22
abbrev n_strings_Compare : Nat := 23
abbrev n_rename_check : Nat := 24
abbrev n_rename_lone : Nat := 25
abbrev n_slices_SortFunc___rename_Pair_rename_Pair_ : Nat := 26
abbrev n_rename_Pairs_c1 : Nat := 27
abbrev n_cmp_Or_int_ : Nat := 28
abbrev n_cmp_Compare_int_ : Nat := 29
abbrev n_rename_Pairs_c2 : Nat := 30
abbrev n_bytes_SplitAfterSeq : Nat := 31
abbrev n_diff_lay : Nat := 32
abbrev n_diff_plane_way : Nat := 33
abbrev n_loose_Ids : Nat := 34
abbrev n_odb_index : Nat := 35
abbrev n_packidx_Parse : Nat := 36
abbrev n_slices_SortFunc___api_Id_api_Id_ : Nat := 37
abbrev n_sha_Compare : Nat := 38
abbrev n_slices_Compact___api_Id_api_Id_ : Nat := 39
abbrev n_loose_whole : Nat := 40
abbrev n_zlib_Wrap : Nat := 41
abbrev n_object_plain : Nat := 42
abbrev n_object_Header : Nat := 43
abbrev n_sha_Sum : Nat := 44
abbrev n_slices_Concat___byte_byte_ : Nat := 45
abbrev n_sha_Hex : Nat := 46
abbrev n_slices_pdqsortCmpFunc_txfile_Change_ : Nat := 47
abbrev n_math_bits_Len : Nat := 48
abbrev n_strings_SplitSeq : Nat := 49
abbrev n_names_Name : Nat := 50
abbrev n_slices_pdqsortCmpFunc_api_File_ : Nat := 51
abbrev n_bytealg_CompareString : Nat := 52
abbrev n_index_Check : Nat := 53
abbrev n_slices_ContainsFunc___api_Slot_api_Slot_ : Nat := 54
abbrev n_rename_check_c1 : Nat := 55
abbrev n_rename_byPath : Nat := 56
abbrev n_odb_Get : Nat := 57
abbrev n_slices_pdqsortCmpFunc_rename_Pair_ : Nat := 58
abbrev n_cmp_isNaN_int_ : Nat := 59
abbrev n_bytes_splitSeq : Nat := 60
abbrev n_diff_numbers : Nat := 61
abbrev n_diff_plane_least : Nat := 62
abbrev n_diff_plane_at : Nat := 63
abbrev n_diff_plane_end : Nat := 64
abbrev n_diff_plane_step : Nat := 65
abbrev n_loose_inOrder : Nat := 66
abbrev n_strings_CutPrefix : Nat := 67
abbrev n_sha_Parse : Nat := 68
abbrev n_strings_CutSuffix : Nat := 69
abbrev n_strings_Contains : Nat := 70
abbrev n_odb_find : Nat := 71
abbrev n_packidx_reader_count : Nat := 72
abbrev n_packidx_reader_four : Nat := 73
abbrev n_num_Big : Nat := 74
abbrev n_packidx_byId : Nat := 75
abbrev n_packidx_fan : Nat := 76
abbrev n_slices_pdqsortCmpFunc_api_Id_ : Nat := 77
abbrev n_bytes_Compare : Nat := 78
abbrev n_deflate_Deflate : Nat := 79
abbrev n_zlib_Adler : Nat := 80
abbrev n_object_least : Nat := 81
abbrev n_object_when : Nat := 82
abbrev n_object_word : Nat := 83
abbrev n_strconv_Itoa : Nat := 84
abbrev n_sha_Block : Nat := 85
abbrev n_bytes_Clone : Nat := 86
abbrev n_sha_Pad : Nat := 87
abbrev n_slices_Grow___byte_byte_ : Nat := 88
abbrev n_strings_Builder_WriteByte : Nat := 89
abbrev n_strings_Builder_String : Nat := 90
abbrev n_slices_insertionSortCmpFunc_txfile_Change_ : Nat := 91
abbrev n_slices_heapSortCmpFunc_txfile_Change_ : Nat := 92
abbrev n_slices_breakPatternsCmpFunc_txfile_Change_ : Nat := 93
abbrev n_slices_choosePivotCmpFunc_txfile_Change_ : Nat := 94
abbrev n_slices_reverseRangeCmpFunc_txfile_Change_ : Nat := 95
abbrev n_slices_partialInsertionSortCmpFunc_txfile_Change_ : Nat := 96
abbrev n_slices_partitionEqualCmpFunc_txfile_Change_ : Nat := 97
abbrev n_slices_partitionCmpFunc_txfile_Change_ : Nat := 98
abbrev n_math_bits_Len32 : Nat := 99
abbrev n_math_bits_Len64 : Nat := 100
abbrev n_strings_splitSeq : Nat := 101
abbrev n_strings_EqualFold : Nat := 102
abbrev n_strings_ContainsAny : Nat := 103
abbrev n_slices_insertionSortCmpFunc_api_File_ : Nat := 104
abbrev n_slices_heapSortCmpFunc_api_File_ : Nat := 105
abbrev n_slices_breakPatternsCmpFunc_api_File_ : Nat := 106
abbrev n_slices_choosePivotCmpFunc_api_File_ : Nat := 107
abbrev n_slices_reverseRangeCmpFunc_api_File_ : Nat := 108
abbrev n_slices_partialInsertionSortCmpFunc_api_File_ : Nat := 109
abbrev n_slices_partitionEqualCmpFunc_api_File_ : Nat := 110
abbrev n_slices_partitionCmpFunc_api_File_ : Nat := 111
abbrev n_bytealg_abigen_runtime_cmpstring : Nat := 112
abbrev n_index_worse : Nat := 113
abbrev n_index_one : Nat := 114
abbrev n_index_order : Nat := 115
abbrev n_slices_IndexFunc___api_Slot_api_Slot_ : Nat := 116
abbrev n_loose_Get : Nat := 117
abbrev n_packidx_Find : Nat := 118
abbrev n_pack_Read : Nat := 119
abbrev n_slices_insertionSortCmpFunc_rename_Pair_ : Nat := 120
abbrev n_slices_heapSortCmpFunc_rename_Pair_ : Nat := 121
abbrev n_slices_breakPatternsCmpFunc_rename_Pair_ : Nat := 122
abbrev n_slices_choosePivotCmpFunc_rename_Pair_ : Nat := 123
abbrev n_slices_reverseRangeCmpFunc_rename_Pair_ : Nat := 124
abbrev n_slices_partialInsertionSortCmpFunc_rename_Pair_ : Nat := 125
abbrev n_slices_partitionEqualCmpFunc_rename_Pair_ : Nat := 126
abbrev n_slices_partitionCmpFunc_rename_Pair_ : Nat := 127
abbrev n_bytes_splitSeq_c1 : Nat := 128
abbrev n_unicode_utf8_DecodeRune : Nat := 129
abbrev n_bytes_Index : Nat := 130
abbrev n_diff_parts : Nat := 131
abbrev n_stringslite_CutPrefix : Nat := 132
abbrev n_strings_IndexByte : Nat := 133
abbrev n_stringslite_CutSuffix : Nat := 134
abbrev n_strings_Index : Nat := 135
abbrev n_slices_BinarySearchFunc___api_File_api_File_string_ : Nat := 136
abbrev n_odb_find_c1 : Nat := 137
abbrev n_slices_insertionSortCmpFunc_api_Id_ : Nat := 138
abbrev n_slices_heapSortCmpFunc_api_Id_ : Nat := 139
abbrev n_slices_breakPatternsCmpFunc_api_Id_ : Nat := 140
abbrev n_slices_choosePivotCmpFunc_api_Id_ : Nat := 141
abbrev n_slices_reverseRangeCmpFunc_api_Id_ : Nat := 142
abbrev n_slices_partialInsertionSortCmpFunc_api_Id_ : Nat := 143
abbrev n_slices_partitionEqualCmpFunc_api_Id_ : Nat := 144
abbrev n_slices_partitionCmpFunc_api_Id_ : Nat := 145
abbrev n_bytealg_Compare : Nat := 146
abbrev n_deflate_stored : Nat := 147
abbrev n_deflate_fixed : Nat := 148
abbrev n_strconv_Itoa'1 : Nat := 149
abbrev n_math_bits_RotateLeft32 : Nat := 150
abbrev n_strings_Builder_copyCheck : Nat := 151
abbrev n_slices_siftDownCmpFunc_txfile_Change_ : Nat := 152
abbrev n_slices_nextPowerOfTwo : Nat := 153
abbrev n_slices_xorshift_Next : Nat := 154
abbrev n_slices_medianAdjacentCmpFunc_txfile_Change_ : Nat := 155
abbrev n_slices_medianCmpFunc_txfile_Change_ : Nat := 156
abbrev n_strings_splitSeq_c1 : Nat := 157
abbrev n_unicode_utf8_DecodeRuneInString : Nat := 158
abbrev n_unicode_SimpleFold : Nat := 159
abbrev n_strings_IndexAny : Nat := 160
abbrev n_slices_siftDownCmpFunc_api_File_ : Nat := 161
abbrev n_slices_medianAdjacentCmpFunc_api_File_ : Nat := 162
abbrev n_slices_medianCmpFunc_api_File_ : Nat := 163
abbrev n_names_Mode : Nat := 164
abbrev n_loose_Get_c1 : Nat := 165
abbrev n_loose_Open : Nat := 166
abbrev n_slices_BinarySearchFunc___packidx_Row_packidx_Row_api_Id_ : Nat := 167
abbrev n_packidx_Find_c1 : Nat := 168
abbrev n_pack_Pieces : Nat := 169
abbrev n_slices_Repeat___int_int_ : Nat := 170
abbrev n_pack_reader_try : Nat := 171
abbrev n_slices_siftDownCmpFunc_rename_Pair_ : Nat := 172
abbrev n_slices_medianAdjacentCmpFunc_rename_Pair_ : Nat := 173
abbrev n_slices_medianCmpFunc_rename_Pair_ : Nat := 174
abbrev n_unicode_utf8_decodeRuneSlow : Nat := 175
abbrev n_bytes_IndexByte : Nat := 176
abbrev n_bytealg_Index : Nat := 177
abbrev n_bytealg_Cutover : Nat := 178
abbrev n_bytealg_IndexRabinKarp___byte_ : Nat := 179
abbrev n_stringslite_HasPrefix : Nat := 180
abbrev n_stringslite_IndexByte : Nat := 181
abbrev n_stringslite_HasSuffix : Nat := 182
abbrev n_stringslite_Index : Nat := 183
abbrev n_slices_siftDownCmpFunc_api_Id_ : Nat := 184
abbrev n_slices_medianAdjacentCmpFunc_api_Id_ : Nat := 185
abbrev n_slices_medianCmpFunc_api_Id_ : Nat := 186
abbrev n_deflate_writer_number : Nat := 187
abbrev n_deflate_finder_match : Nat := 188
abbrev n_deflate_writer_symbol : Nat := 189
abbrev n_deflate_writer_length : Nat := 190
abbrev n_deflate_writer_distance : Nat := 191
abbrev n_deflate_finder_note : Nat := 192
abbrev n_strconv_FormatInt : Nat := 193
abbrev n_abi_NoEscape : Nat := 194
abbrev n_slices_order2CmpFunc_txfile_Change_ : Nat := 195
abbrev n_unicode_utf8_decodeRuneInStringSlow : Nat := 196
abbrev n_unicode_lookupCaseRange : Nat := 197
abbrev n_unicode_convertCase : Nat := 198
abbrev n_strings_IndexRune : Nat := 199
abbrev n_strings_shouldUseASCIISet : Nat := 200
abbrev n_strings_makeASCIISet : Nat := 201
abbrev n_strings_asciiSet_contains : Nat := 202
abbrev n_slices_order2CmpFunc_api_File_ : Nat := 203
abbrev n_zlib_Unwrap : Nat := 204
abbrev n_bytes_Cut : Nat := 205
abbrev n_pack_one : Nat := 206
abbrev n_math_bits_Mul : Nat := 207
abbrev n_pack_reader_base : Nat := 208
abbrev n_delta_Apply : Nat := 209
abbrev n_slices_order2CmpFunc_rename_Pair_ : Nat := 210
abbrev n_bytealg_IndexByte : Nat := 211
abbrev n_bytealg_hashStr___byte_ : Nat := 212
abbrev n_bytealg_IndexByteString : Nat := 213
abbrev n_bytealg_IndexString : Nat := 214
abbrev n_bytealg_IndexRabinKarp_string_ : Nat := 215
abbrev n_slices_order2CmpFunc_api_Id_ : Nat := 216
abbrev n_deflate_finder_key : Nat := 217
abbrev n_deflate_writer_code : Nat := 218
abbrev n_strconv_small : Nat := 219
abbrev n_strconv_numDigits : Nat := 220
abbrev n_strconv_formatBase10 : Nat := 221
abbrev n_strconv_formatBits : Nat := 222
abbrev n_unicode_utf8_ValidRune : Nat := 223
abbrev n_zlib_head : Nat := 224
abbrev n_inflate_Inflate : Nat := 225
abbrev n_num_Head : Nat := 226
abbrev n_pack_kind : Nat := 227
abbrev n_num_Span : Nat := 228
abbrev n_zlib_Crc : Nat := 229
abbrev n_math_bits_Mul32 : Nat := 230
abbrev n_math_bits_Mul64 : Nat := 231
abbrev n_slices_IndexFunc___pack_Piece_pack_Piece_ : Nat := 232
abbrev n_pack_reader_base_c1 : Nat := 233
abbrev n_slices_BinarySearchFunc___pack_Piece_pack_Piece_int_ : Nat := 234
abbrev n_pack_reader_base_c1_c1 : Nat := 235
abbrev n_num_Size : Nat := 236
abbrev n_delta_run : Nat := 237
abbrev n_bytealg_hashStr_string_ : Nat := 238
abbrev n_math_bits_Reverse16 : Nat := 239
abbrev n_strconv_log10Pow2 : Nat := 240
abbrev n_strconv_bool2_int_ : Nat := 241
abbrev n_strconv_isPowerOfTwo : Nat := 242
abbrev n_math_bits_TrailingZeros : Nat := 243
abbrev n_inflate_reader_run : Nat := 244
abbrev n_num_groups : Nat := 245
abbrev n_num_sum : Nat := 246
abbrev n_delta_span : Nat := 247
abbrev n_math_bits_TrailingZeros32 : Nat := 248
abbrev n_math_bits_TrailingZeros64 : Nat := 249
abbrev n_inflate_reader_take : Nat := 250
abbrev n_inflate_fixed : Nat := 251
abbrev n_inflate_reader_dynamic : Nat := 252
abbrev n_inflate_reader_wrong : Nat := 253
abbrev n_inflate_reader_symbol : Nat := 254
abbrev n_inflate_reader_emit : Nat := 255
abbrev n_inflate_reader_length : Nat := 256
abbrev n_inflate_reader_distance : Nat := 257
abbrev n_inflate_reader_repeat : Nat := 258
abbrev n_inflate_reader_stored : Nat := 259
abbrev n_slices_IndexFunc___byte_byte_ : Nat := 260
abbrev n_num_groups_c1 : Nat := 261
abbrev n_slices_Concat___int_int_ : Nat := 262
abbrev n_inflate_build : Nat := 263
abbrev n_slices_Grow___int_int_ : Nat := 264
abbrev n_runtime_boundsError_Error : Nat := 265
abbrev n_runtime_boundsError_RuntimeError : Nat := 266
abbrev n_runtime_errorString_Error : Nat := 267
abbrev n_runtime_errorString_RuntimeError : Nat := 268
abbrev n_runtime_plainError_Error : Nat := 269
abbrev n_runtime_plainError_RuntimeError : Nat := 270
abbrev n_runtime_errorAddressString_Error : Nat := 271
abbrev n_runtime_errorAddressString_RuntimeError : Nat := 272
abbrev n_runtime_TypeAssertionError_Error : Nat := 273
abbrev n_runtime_TypeAssertionError_RuntimeError : Nat := 274
abbrev n_runtime_PanicNilError_Error : Nat := 275
abbrev n_runtime_PanicNilError_RuntimeError : Nat := 276
abbrev n_abi_Type_Align : Nat := 277
abbrev n_runtime_maps_unhashableTypeError_Error : Nat := 278
abbrev n_runtime_maps_unhashableTypeError_RuntimeError : Nat := 279
abbrev n_strings_Builder_Reset : Nat := 280
abbrev n_abi_Kind_String : Nat := 281
abbrev n_var_s_door__inflate_order_is_laid_by_its_own_initialiser__plain_data_by_the_wider_look_data_2 : Nat := 282
abbrev n_var_s_door__inflate_order_was_passed_by_the_deep_look_deep_1 : Nat := 283
abbrev n_var_s_door__sha_k_is_laid_by_its_own_initialiser__plain_data_look_11 : Nat := 284
abbrev n_var_s_door__gosem_cut_vars_holds_initialisers_alone__see_the_manifest_s_row_cutvarsword_look_11__test_files_too : Nat := 285
abbrev n_var_s_door__strconv_uint64pow10_is_laid_by_its_own_initialiser__plain_data_look_11 : Nat := 286
abbrev n_var_s_door__math_bits_deBruijn32tab_is_laid_by_its_own_initialiser__plain_data_look_11 : Nat := 287
abbrev n_var_s_door__math_bits_deBruijn64tab_is_laid_by_its_own_initialiser__plain_data_look_11 : Nat := 288
abbrev n_var_s_door__the_look_of_gosem_cut_vars_went_over_the_folder_that_the_caller_named_as_the_repository_s_root_look_11 : Nat := 289
abbrev n_var_s_door__unicode_CaseRanges_is_laid_by_its_text_alone_pinned_1 : Nat := 290
abbrev n_var_s_door__unicode_asciiFold_is_laid_by_its_own_initialiser__plain_data_look_11 : Nat := 291
abbrev n_var_s_door__unicode_caseOrbit_is_laid_by_its_own_initialiser__plain_data_look_11 : Nat := 292
abbrev n_var_s_door__unicode_utf8_acceptRanges_is_laid_by_its_own_initialiser__plain_data_look_11 : Nat := 293
abbrev n_var_s_door__unicode_utf8_first_is_laid_by_its_text_alone_pinned_1 : Nat := 294
abbrev n_gosem_cut_vars : Nat := 295
abbrev T___ : Nat := 0
abbrev T_func__ : Nat := 1
abbrev T_int64 : Nat := 2
abbrev T_int : Nat := 3
abbrev T_bool : Nat := 4
abbrev T_uint8 : Nat := 5
abbrev T_abi_BoundsErrorCode : Nat := 6
abbrev T_struct___x_int64__y_int__signed_bool__code_abi_BoundsErrorCode__ : Nat := 7
abbrev T_runtime_boundsError : Nat := 8
abbrev T_string : Nat := 9
abbrev T_runtime_errorString : Nat := 10
abbrev T_runtime_plainError : Nat := 11
abbrev T_uintptr : Nat := 12
abbrev T_struct___msg_string__addr_uintptr__ : Nat := 13
abbrev T_runtime_errorAddressString : Nat := 14
abbrev T_p_runtime_TypeAssertionError : Nat := 15
abbrev T_p_runtime_PanicNilError : Nat := 16
abbrev T_p_abi_Type : Nat := 17
abbrev T_struct___typ_p_abi_Type__ : Nat := 18
abbrev T_maps_unhashableTypeError : Nat := 19
abbrev T_interface___ : Nat := 20
abbrev T_int32 : Nat := 21
abbrev T_s_uint8 : Nat := 22
abbrev T_func___bool : Nat := 23
abbrev T_func_s_uint8__s_uint8__int : Nat := 24
abbrev T_func_s_uint8__s_uint8__bool : Nat := 25
abbrev T_s_txfile_Change : Nat := 26
abbrev T_s_api_Id : Nat := 27
abbrev T_api_Errno : Nat := 28
abbrev T__s_txfile_Change__s_api_Id__api_Errno_ : Nat := 29
abbrev T_func_s_api_File__s_api_Object___s_txfile_Change__s_api_Id__api_Errno_ : Nat := 30
abbrev T_api_Kind : Nat := 31
abbrev T_struct___Kind_api_Kind__Data_s_uint8__ : Nat := 32
abbrev T_api_Object : Nat := 33
abbrev T_s_api_Object : Nat := 34
abbrev T_s_api_File : Nat := 35
abbrev T__s_api_File__api_Errno_ : Nat := 36
abbrev T_func_s_api_File__s_txfile_Change___s_api_File__api_Errno_ : Nat := 37
abbrev T_s_rename_Pair : Nat := 38
abbrev T__s_rename_Pair__api_Errno_ : Nat := 39
abbrev T_func_s_api_File__s_api_Slot__s_api_Slot__int___s_rename_Pair__api_Errno_ : Nat := 40
abbrev T_a32_uint8 : Nat := 41
abbrev T_api_Id : Nat := 42
abbrev T_struct___Path_string__Stage_int__Mode_int__Id_api_Id__Size_int__Time_int__ : Nat := 43
abbrev T_api_Slot : Nat := 44
abbrev T_s_api_Slot : Nat := 45
abbrev T_struct___From_string__To_string__Like_int__ : Nat := 46
abbrev T_rename_Pair : Nat := 47
abbrev T_s_string : Nat := 48
abbrev T_func_s_uint8__s_string : Nat := 49
abbrev T_s_complex128 : Nat := 50
abbrev T__s_complex128__api_Errno_ : Nat := 51
abbrev T_func_s_string__s_string___s_complex128__api_Errno_ : Nat := 52
abbrev T_complex128 : Nat := 53
abbrev T_float64 : Nat := 54
abbrev T__s_api_Id__api_Errno_ : Nat := 55
abbrev T_func_s_api_File___s_api_Id__api_Errno_ : Nat := 56
abbrev T_mapaapi_Id_int : Nat := 57
abbrev T__s_uint8__api_Errno_ : Nat := 58
abbrev T_func_api_Object___s_uint8__api_Errno_ : Nat := 59
abbrev T__api_Id__api_Errno_ : Nat := 60
abbrev T_func_api_Object___api_Id__api_Errno_ : Nat := 61
abbrev T_func_api_Id__string : Nat := 62
abbrev T_struct___Path_string__Data_s_uint8__Gone_bool__ : Nat := 63
abbrev T_txfile_Change : Nat := 64
abbrev T_func_s_txfile_Change__func_txfile_Change__txfile_Change__int_ : Nat := 65
abbrev T_func_txfile_Change__txfile_Change__int : Nat := 66
abbrev T_mapastring_txfile_Change : Nat := 67
abbrev T__txfile_Change__bool_ : Nat := 68
abbrev T_func_string__bool : Nat := 69
abbrev T_func_s_api_File__bool : Nat := 70
abbrev T_struct___Path_string__Data_s_uint8__ : Nat := 71
abbrev T_api_File : Nat := 72
abbrev T_func_s_uint8__s_uint8 : Nat := 73
abbrev T_func_s_api_File__func_api_File__api_File__int_ : Nat := 74
abbrev T_func_string__string__int : Nat := 75
abbrev T_func_api_File__api_File__int : Nat := 76
abbrev T_func____s_api_Slot__api_Errno : Nat := 77
abbrev T_func_s_api_File__s_api_Slot__s_api_Slot___s_api_File__api_Errno_ : Nat := 78
abbrev T_func_s_rename_Pair__func_rename_Pair__rename_Pair__int_ : Nat := 79
abbrev T_func____int__int : Nat := 80
abbrev T_func_int__int__int : Nat := 81
abbrev T_func_rename_Pair__rename_Pair__int : Nat := 82
abbrev T_mapastring_int : Nat := 83
abbrev T_func_func_s_uint8__bool_ : Nat := 84
abbrev T_iter_Seqas_uint8_ : Nat := 85
abbrev T_func_s_uint8__s_uint8__iter_Seqas_uint8_ : Nat := 86
abbrev T_p_diff_plane : Nat := 87
abbrev T__p_diff_plane__api_Errno_ : Nat := 88
abbrev T_func_s_string__s_string___p_diff_plane__api_Errno_ : Nat := 89
abbrev T_func___s_complex128 : Nat := 90
abbrev T__s_uint8__bool_ : Nat := 91
abbrev T_func_s_api_File__api_File___s_uint8__bool_ : Nat := 92
abbrev T_s_packidx_Row : Nat := 93
abbrev T__s_packidx_Row__api_Id__api_Errno_ : Nat := 94
abbrev T_func_s_uint8___s_packidx_Row__api_Id__api_Errno_ : Nat := 95
abbrev T_uint32 : Nat := 96
abbrev T_uint64 : Nat := 97
abbrev T_struct___Id_api_Id__Crc_uint32__At_uint64__ : Nat := 98
abbrev T_packidx_Row : Nat := 99
abbrev T_func_s_api_Id__func_api_Id__api_Id__int_ : Nat := 100
abbrev T_func_api_Id__api_Id__int : Nat := 101
abbrev T_func_s_api_Id__s_api_Id : Nat := 102
abbrev T_func_s_uint8__int___s_uint8__api_Errno_ : Nat := 103
abbrev T_func_api_Object__api_Errno : Nat := 104
abbrev T__string__api_Errno_ : Nat := 105
abbrev T_func_api_Kind__int___string__api_Errno_ : Nat := 106
abbrev T_func_s_uint8__api_Id : Nat := 107
abbrev T_func____s_uint8__s_uint8 : Nat := 108
abbrev T_func_s_txfile_Change__int__int__int__func_txfile_Change__txfile_Change__int_ : Nat := 109
abbrev T_func_uint__int : Nat := 110
abbrev T_uint : Nat := 111
abbrev T_func_func_string__bool_ : Nat := 112
abbrev T_iter_Seqastring_ : Nat := 113
abbrev T_func_string__string__iter_Seqastring_ : Nat := 114
abbrev T_func_s_api_File__int__int__int__func_api_File__api_File__int_ : Nat := 115
abbrev T_s_s_api_Slot : Nat := 116
abbrev T_func_s_api_Slot__api_Errno : Nat := 117
abbrev T_func_s_api_Slot__func_api_Slot__bool__bool : Nat := 118
abbrev T_func_api_Slot__bool : Nat := 119
abbrev T_mapastring_api_Slot : Nat := 120
abbrev T_func_s_api_Slot__mapastring_api_Slot : Nat := 121
abbrev T__api_Slot__bool_ : Nat := 122
abbrev T__api_Object__api_Errno_ : Nat := 123
abbrev T_func_s_api_File__api_Id___api_Object__api_Errno_ : Nat := 124
abbrev T_func_s_rename_Pair__int__int__int__func_rename_Pair__rename_Pair__int_ : Nat := 125
abbrev T_s_int : Nat := 126
abbrev T_func_int__bool : Nat := 127
abbrev T_func_s_uint8__s_uint8__int__iter_Seqas_uint8_ : Nat := 128
abbrev T_func_s_string__mapastring_int__s_int : Nat := 129
abbrev T_s_int32 : Nat := 130
abbrev T_struct___a_s_int__b_s_int__rest_s_int32__ : Nat := 131
abbrev T_diff_plane : Nat := 132
abbrev T_func_int__int__int32 : Nat := 133
abbrev T_p_int32 : Nat := 134
abbrev T_func_int__int__p_int32 : Nat := 135
abbrev T_func___complex128 : Nat := 136
abbrev T_func_complex128__complex128 : Nat := 137
abbrev T__string__bool_ : Nat := 138
abbrev T_func_string__string___string__bool_ : Nat := 139
abbrev T_func_string___api_Id__api_Errno_ : Nat := 140
abbrev T_func_string__string__bool : Nat := 141
abbrev T_func_s_api_File__string___s_uint8__bool_ : Nat := 142
abbrev T_struct___p_s_uint8__ : Nat := 143
abbrev T_packidx_reader : Nat := 144
abbrev T__int__int__api_Errno_ : Nat := 145
abbrev T_func____int__int__api_Errno_ : Nat := 146
abbrev T_func_int__uint64 : Nat := 147
abbrev T__uint64__api_Errno_ : Nat := 148
abbrev T_func_s_uint8__int__int___uint64__api_Errno_ : Nat := 149
abbrev T_func_packidx_Row__packidx_Row__int : Nat := 150
abbrev T_a256_int : Nat := 151
abbrev T_func_s_packidx_Row__a256_int : Nat := 152
abbrev T_func_s_api_Id__int__int__int__func_api_Id__api_Id__int_ : Nat := 153
abbrev T_func_s_uint8__uint32 : Nat := 154
abbrev T_func____api_Errno__api_Errno : Nat := 155
abbrev T_func_bool__api_Errno__api_Errno : Nat := 156
abbrev T_func_api_Kind__string : Nat := 157
abbrev T_func_int__string : Nat := 158
abbrev T_a8_uint32 : Nat := 159
abbrev T_func_a8_uint32__a64_uint8__a8_uint32 : Nat := 160
abbrev T_a64_uint8 : Nat := 161
abbrev T_func_int__s_uint8 : Nat := 162
abbrev T_s_s_uint8 : Nat := 163
abbrev T_func_s_uint8__int__s_uint8 : Nat := 164
abbrev T_p_strings_Builder : Nat := 165
abbrev T_struct___addr_p_strings_Builder__buf_s_uint8__ : Nat := 166
abbrev T_strings_Builder : Nat := 167
abbrev T_interface___Error___string__ : Nat := 168
abbrev T_error : Nat := 169
abbrev T_func_uint8__error : Nat := 170
abbrev T_func___string : Nat := 171
abbrev T_func_s_txfile_Change__int__int__func_txfile_Change__txfile_Change__int_ : Nat := 172
abbrev T_slices_sortedHint : Nat := 173
abbrev T__int__slices_sortedHint_ : Nat := 174
abbrev T_func_s_txfile_Change__int__int__func_txfile_Change__txfile_Change__int___int__slices_sortedHint_ : Nat := 175
abbrev T_func_s_txfile_Change__int__int__func_txfile_Change__txfile_Change__int__bool : Nat := 176
abbrev T_func_s_txfile_Change__int__int__int__func_txfile_Change__txfile_Change__int__int : Nat := 177
abbrev T__int__bool_ : Nat := 178
abbrev T_func_s_txfile_Change__int__int__int__func_txfile_Change__txfile_Change__int___int__bool_ : Nat := 179
abbrev T_func_uint32__int : Nat := 180
abbrev T_func_uint64__int : Nat := 181
abbrev T_func_string__string__int__iter_Seqastring_ : Nat := 182
abbrev T_func_s_api_File__int__int__func_api_File__api_File__int_ : Nat := 183
abbrev T_func_s_api_File__int__int__func_api_File__api_File__int___int__slices_sortedHint_ : Nat := 184
abbrev T_func_s_api_File__int__int__func_api_File__api_File__int__bool : Nat := 185
abbrev T_func_s_api_File__int__int__int__func_api_File__api_File__int__int : Nat := 186
abbrev T_func_s_api_File__int__int__int__func_api_File__api_File__int___int__bool_ : Nat := 187
abbrev T_func_api_Errno__api_Errno__api_Errno : Nat := 188
abbrev T_func_api_Slot__api_Errno : Nat := 189
abbrev T_func_api_Slot__api_Slot__int : Nat := 190
abbrev T_func_s_api_Slot__func_api_Slot__bool__int : Nat := 191
abbrev T__packidx_Row__api_Errno_ : Nat := 192
abbrev T_func_s_uint8__api_Id___packidx_Row__api_Errno_ : Nat := 193
abbrev T_s_pack_Found : Nat := 194
abbrev T__s_pack_Found__api_Errno_ : Nat := 195
abbrev T_func_s_uint8___s_pack_Found__api_Errno_ : Nat := 196
abbrev T_struct___Object_api_Object__Id_api_Id__At_int__Crc_uint32__ : Nat := 197
abbrev T_pack_Found : Nat := 198
abbrev T_func_s_rename_Pair__int__int__func_rename_Pair__rename_Pair__int_ : Nat := 199
abbrev T_func_s_rename_Pair__int__int__func_rename_Pair__rename_Pair__int___int__slices_sortedHint_ : Nat := 200
abbrev T_func_s_rename_Pair__int__int__func_rename_Pair__rename_Pair__int__bool : Nat := 201
abbrev T_func_s_rename_Pair__int__int__int__func_rename_Pair__rename_Pair__int__int : Nat := 202
abbrev T_func_s_rename_Pair__int__int__int__func_rename_Pair__rename_Pair__int___int__bool_ : Nat := 203
abbrev T_func_s_uint8__bool : Nat := 204
abbrev T__int32__int_ : Nat := 205
abbrev T_func_s_uint8___int32__int_ : Nat := 206
abbrev T__int__int_ : Nat := 207
abbrev T_func_complex128___int__int_ : Nat := 208
abbrev T_func_string__uint8__int : Nat := 209
abbrev T_func_s_api_File__string__func_api_File__string__int___int__bool_ : Nat := 210
abbrev T_func_api_File__string__int : Nat := 211
abbrev T_func_s_api_Id__int__int__func_api_Id__api_Id__int_ : Nat := 212
abbrev T_func_s_api_Id__int__int__func_api_Id__api_Id__int___int__slices_sortedHint_ : Nat := 213
abbrev T_func_s_api_Id__int__int__func_api_Id__api_Id__int__bool : Nat := 214
abbrev T_func_s_api_Id__int__int__int__func_api_Id__api_Id__int__int : Nat := 215
abbrev T_func_s_api_Id__int__int__int__func_api_Id__api_Id__int___int__bool_ : Nat := 216
abbrev T_s_api_Errno : Nat := 217
abbrev T_a64_uint32 : Nat := 218
abbrev T_func_uint32__int__uint32 : Nat := 219
abbrev T_p_uint8 : Nat := 220
abbrev T_slices_xorshift : Nat := 221
abbrev T_func_int__uint : Nat := 222
abbrev T_func___uint64 : Nat := 223
abbrev T_func_s_txfile_Change__int__p_int__func_txfile_Change__txfile_Change__int__int : Nat := 224
abbrev T_p_int : Nat := 225
abbrev T_func_s_txfile_Change__int__int__int__p_int__func_txfile_Change__txfile_Change__int__int : Nat := 226
abbrev T_func_string___int32__int_ : Nat := 227
abbrev T_func_int32__int32 : Nat := 228
abbrev T_func_s_api_File__int__p_int__func_api_File__api_File__int__int : Nat := 229
abbrev T_func_s_api_File__int__int__int__p_int__func_api_File__api_File__int__int : Nat := 230
abbrev T_func_s_uint8___api_Object__api_Errno_ : Nat := 231
abbrev T_func_s_packidx_Row__api_Id__func_packidx_Row__api_Id__int___int__bool_ : Nat := 232
abbrev T_func_packidx_Row__api_Id__int : Nat := 233
abbrev T_s_pack_Piece : Nat := 234
abbrev T__s_pack_Piece__api_Errno_ : Nat := 235
abbrev T_func_s_uint8___s_pack_Piece__api_Errno_ : Nat := 236
abbrev T_p_pack_reader : Nat := 237
abbrev T_func_s_int__int__s_int : Nat := 238
abbrev T_struct___list_s_pack_Piece__found_s_pack_Found__depth_s_int__e_s_api_Errno__ : Nat := 239
abbrev T_pack_reader : Nat := 240
abbrev T_func_s_rename_Pair__int__p_int__func_rename_Pair__rename_Pair__int__int : Nat := 241
abbrev T_func_s_rename_Pair__int__int__int__p_int__func_rename_Pair__rename_Pair__int__int : Nat := 242
abbrev T_func_s_uint8__uint8__int : Nat := 243
abbrev T_func_int__int : Nat := 244
abbrev T_func_s_api_Id__int__p_int__func_api_Id__api_Id__int__int : Nat := 245
abbrev T_func_s_api_Id__int__int__int__p_int__func_api_Id__api_Id__int__int : Nat := 246
abbrev T_p_deflate_writer : Nat := 247
abbrev T_struct___p_s_uint8__held_uint32__count_int__ : Nat := 248
abbrev T_deflate_writer : Nat := 249
abbrev T_func_int__int_ : Nat := 250
abbrev T_p_deflate_finder : Nat := 251
abbrev T_mapauint32_int : Nat := 252
abbrev T_struct___p_s_uint8__last_mapauint32_int__prev_s_int__ : Nat := 253
abbrev T_deflate_finder : Nat := 254
abbrev T_func_int___int__int_ : Nat := 255
abbrev T_func_int_ : Nat := 256
abbrev T_func_int64__int__string : Nat := 257
abbrev T_unsafe_Pointer : Nat := 258
abbrev T_func_unsafe_Pointer__unsafe_Pointer : Nat := 259
abbrev T_p_slices_xorshift : Nat := 260
abbrev T_func_s_txfile_Change__int__int__p_int__func_txfile_Change__txfile_Change__int___int__int_ : Nat := 261
abbrev T_uint16 : Nat := 262
abbrev T_a128_uint16 : Nat := 263
abbrev T_s_unicode_foldPair : Nat := 264
abbrev T_struct___From_uint16__To_uint16__ : Nat := 265
abbrev T_unicode_foldPair : Nat := 266
abbrev T_p_unicode_CaseRange : Nat := 267
abbrev T_func_int32__s_unicode_CaseRange__p_unicode_CaseRange : Nat := 268
abbrev T_s_unicode_CaseRange : Nat := 269
abbrev T_func_int__int32__p_unicode_CaseRange__int32 : Nat := 270
abbrev T_func_string__int32__int : Nat := 271
abbrev T_a256_bool : Nat := 272
abbrev T_strings_asciiSet : Nat := 273
abbrev T__strings_asciiSet__bool_ : Nat := 274
abbrev T_func_string___strings_asciiSet__bool_ : Nat := 275
abbrev T_func_uint8__bool : Nat := 276
abbrev T_func_s_api_File__int__int__p_int__func_api_File__api_File__int___int__int_ : Nat := 277
abbrev T__s_uint8__int__api_Errno_ : Nat := 278
abbrev T_func_s_uint8__int___s_uint8__int__api_Errno_ : Nat := 279
abbrev T__s_uint8__s_uint8__bool_ : Nat := 280
abbrev T_func_s_uint8__s_uint8___s_uint8__s_uint8__bool_ : Nat := 281
abbrev T_mapaint_int : Nat := 282
abbrev T_struct___Kind_int__Data_s_uint8__At_int__End_int__BaseAt_int__Base_api_Id__Crc_uint32__ : Nat := 283
abbrev T_pack_Piece : Nat := 284
abbrev T__pack_Piece__api_Errno_ : Nat := 285
abbrev T_func_s_uint8__int__mapaint_int___pack_Piece__api_Errno_ : Nat := 286
abbrev T__uint__uint_ : Nat := 287
abbrev T_func_uint__uint___uint__uint_ : Nat := 288
abbrev T_func_pack_Piece__int : Nat := 289
abbrev T_func_s_uint8__s_uint8__int___s_uint8__api_Errno_ : Nat := 290
abbrev T_func_s_rename_Pair__int__int__p_int__func_rename_Pair__rename_Pair__int___int__int_ : Nat := 291
abbrev T_a256_uint8 : Nat := 292
abbrev T_struct___lo_uint8__hi_uint8__ : Nat := 293
abbrev T_utf8_acceptRange : Nat := 294
abbrev T_a16_utf8_acceptRange : Nat := 295
abbrev T__uint32__uint32_ : Nat := 296
abbrev T_func_s_uint8___uint32__uint32_ : Nat := 297
abbrev T_func_s_api_Id__int__int__p_int__func_api_Id__api_Id__int___int__int_ : Nat := 298
abbrev T__uint32__bool_ : Nat := 299
abbrev T_func_int___uint32__bool_ : Nat := 300
abbrev T_a24_uint8 : Nat := 301
abbrev T_func_s_uint8__uint64_ : Nat := 302
abbrev T__s_uint8__string_ : Nat := 303
abbrev T_func_s_uint8__uint64__int__bool__bool___s_uint8__string_ : Nat := 304
abbrev T_a3_int32 : Nat := 305
abbrev T_unicode_d : Nat := 306
abbrev T_struct___Lo_uint32__Hi_uint32__Delta_unicode_d__ : Nat := 307
abbrev T_unicode_CaseRange : Nat := 308
abbrev T_func_int32__bool : Nat := 309
abbrev T_p_strings_asciiSet : Nat := 310
abbrev T_func_uint8__uint8__bool : Nat := 311
abbrev T__int__uint64__int__api_Errno_ : Nat := 312
abbrev T_func_s_uint8__int___int__uint64__int__api_Errno_ : Nat := 313
abbrev T__uint64__int__api_Errno_ : Nat := 314
abbrev T_func_s_uint8__int___uint64__int__api_Errno_ : Nat := 315
abbrev T_func_uint32__uint32___uint32__uint32_ : Nat := 316
abbrev T__uint64__uint64_ : Nat := 317
abbrev T_func_uint64__uint64___uint64__uint64_ : Nat := 318
abbrev T_func_s_pack_Piece__func_pack_Piece__bool__int : Nat := 319
abbrev T_func_s_pack_Piece__int__func_pack_Piece__int__int___int__bool_ : Nat := 320
abbrev T_func_pack_Piece__int__int : Nat := 321
abbrev T_func_pack_Piece__bool : Nat := 322
abbrev T_func_string___uint32__uint32_ : Nat := 323
abbrev T_func_uint16__uint16 : Nat := 324
abbrev T_func_bool__int : Nat := 325
abbrev T_a20_uint64 : Nat := 326
abbrev T_a65_uint8 : Nat := 327
abbrev T_p_inflate_reader : Nat := 328
abbrev T_struct___p_s_uint8__at_int__held_uint32__count_int__out_s_uint8__most_int__e_api_Errno__ : Nat := 329
abbrev T_inflate_reader : Nat := 330
abbrev T__uint64__bool_ : Nat := 331
abbrev T_func_s_uint8__int___uint64__bool_ : Nat := 332
abbrev T__int__int__int__bool_ : Nat := 333
abbrev T_func_uint8__s_uint8___int__int__int__bool_ : Nat := 334
abbrev T_a16_int : Nat := 335
abbrev T_struct___counts_a16_int__symbols_s_int__ : Nat := 336
abbrev T_inflate_table : Nat := 337
abbrev T__inflate_table__inflate_table_ : Nat := 338
abbrev T_func____inflate_table__inflate_table_ : Nat := 339
abbrev T_func_api_Errno_ : Nat := 340
abbrev T_func_p_inflate_table__int : Nat := 341
abbrev T_p_inflate_table : Nat := 342
abbrev T_func_uint8_ : Nat := 343
abbrev T_func_s_uint8__func_uint8__bool__int : Nat := 344
abbrev T_a7_int : Nat := 345
abbrev T_func____s_int__s_int : Nat := 346
abbrev T__inflate_table__bool_ : Nat := 347
abbrev T_func_s_int__bool___inflate_table__bool_ : Nat := 348
abbrev T_a19_int : Nat := 349
abbrev T_s_s_int : Nat := 350
abbrev T_a17_int : Nat := 351
abbrev T_struct____interface_p_abi_Type__concrete_p_abi_Type__asserted_p_abi_Type__missingMethod_string__ : Nat := 352
abbrev T_runtime_TypeAssertionError : Nat := 353
abbrev T_a0_p_runtime_PanicNilError : Nat := 354
abbrev T_struct_____a0_p_runtime_PanicNilError__ : Nat := 355
abbrev T_runtime_PanicNilError : Nat := 356
abbrev T_func___int : Nat := 357
abbrev T_abi_TFlag : Nat := 358
abbrev T_abi_Kind : Nat := 359
abbrev T_func_unsafe_Pointer__unsafe_Pointer__bool : Nat := 360
abbrev T_abi_NameOff : Nat := 361
abbrev T_abi_TypeOff : Nat := 362
abbrev T_struct___Size__uintptr__PtrBytes_uintptr__Hash_uint32__TFlag_abi_TFlag__Align__uint8__FieldAlign__uint8__Kind__abi_Kind__Equal_func_unsafe_Pointer__unsafe_Pointer__bool__GCData_p_uint8__Str_abi_NameOff__PtrToThis_abi_TypeOff__ : Nat := 363
abbrev T_abi_Type : Nat := 364
abbrev GL0 : Nat := 1
abbrev GL1 : Nat := 64
abbrev GL2 : Nat := 128
abbrev GL3 : Nat := 1
abbrev GL4 : Nat := 1
abbrev GL5 : Nat := 256
abbrev GL6 : Nat := 32
abbrev GL7 : Nat := 20
abbrev GL8 : Nat := 32
abbrev GL9 : Nat := 64
abbrev GL10 : Nat := 19
noncomputable abbrev GG : Nat → Option Nat := gOf
noncomputable def cfgS (e : Cx) : Cfg := ⟨PP, GG, e.C, e.X, fun _ => none⟩
noncomputable def lvT (l : List (Nat × Slots)) (k : Nat) : Option Slots := List.rec none (fun p _ ih => bif Nat.beq k p.1 then some p.2 else ih) l
end Go.Proofs.YtcphjmgfgfjnpaaGreatDoor
