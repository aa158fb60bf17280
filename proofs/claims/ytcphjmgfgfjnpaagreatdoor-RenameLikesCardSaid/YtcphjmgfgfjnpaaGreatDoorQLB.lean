/-
  Part of a proof, written in a short hand by a program of this workplace. No condition.
-/
import Derived.Test.YtcphjmgfgfjnpaaGreatDoorQLA
set_option linter.unusedVariables false
set_option linter.unusedSimpArgs false
namespace Go.Proofs.YtcphjmgfgfjnpaaGreatDoor.Ev
open Go
noncomputable def trip : List V → Option (List (V × V × Nat))
  | [] => some []
  | k :: v :: .int .i64 (.ofNat b) :: l => (trip l).map ((k, v, b) :: ·)
  | _ => none
def natsV : List V → Option (List Nat)
  | [] => some []
  | .int .i64 (.ofNat b) :: l => (natsV l).map (b :: ·)
  | _ => none
def Ent (ρ : Rho) : List (V × V × Nat) → List MapEntry → Prop
  | [], [] => True
  | x :: l, e :: es => R ρ x.1 e.key ∧ R ρ x.2.1 e.val ∧ x.2.2 = e.born ∧ Ent ρ l es
  | _, _ => False
theorem Ent.filter {ρ : Rho} {p : V × V × Nat → Bool} {q : MapEntry → Bool} (hp : ∀ x e, x.2.2 = e.born → p x = q e) : ∀ {l : List (V × V × Nat)} {es : List MapEntry}, Ent ρ l es → Ent ρ (l.filter p) (es.filter q)
  | [], [], _ => trivial
  | x :: l, e :: es, ⟨h1, h2, h3, h4⟩ => by
    rw [List.filter_cons, List.filter_cons, hp x e h3]
    cases q e
    · exact h4.filter hp
    · exact ⟨h1, h2, h3, h4.filter hp⟩
theorem Ent.all {ρ : Rho} {p : V × V × Nat → Bool} {q : MapEntry → Bool} (hp : ∀ x e, x.2.2 = e.born → p x = q e) : ∀ {l : List (V × V × Nat)} {es : List MapEntry}, Ent ρ l es → l.all p = es.all q
  | [], [], _ => rfl
  | x :: l, e :: es, ⟨h1, h2, h3, h4⟩ => by rw [List.all_cons, List.all_cons, hp x e h3, h4.all hp]
theorem Ent.empty {ρ : Rho} : ∀ {l : List (V × V × Nat)} {es : List MapEntry}, Ent ρ l es → l.isEmpty = es.isEmpty
  | [], [], _ => rfl
  | _ :: _, _ :: _, _ => rfl
theorem Ent.nil {ρ : Rho} : ∀ {es : List MapEntry}, Ent ρ [] es → es = []
  | [], _ => rfl
theorem Ent.one {ρ : Rho} {x : V × V × Nat} : ∀ {es : List MapEntry}, Ent ρ [x] es → ∃ e, es = [e] ∧ R ρ x.1 e.key ∧ R ρ x.2.1 e.val ∧ x.2.2 = e.born
  | [e], ⟨h1, h2, h3, _⟩ => ⟨e, rfl, h1, h2, h3⟩
theorem trip_ent {ρ : Rho} : ∀ {es : List MapEntry} {data : List V} {l : List (V × V × Nat)}, RL ρ data (mapL es) → trip data = some l → Ent ρ l es
  | [], data, l, h, ht => by rw [RL_noEntry h] at ht; cases ht; trivial
  | e :: es, data, l, h, ht => by
    obtain ⟨k, v, b, rest, rfl, h1, h2, h3, h4⟩ := RL_entry h
    unfold trip at ht
    split at ht
    · rename_i hx; cases hx
    · rename_i k' v' b' l' hx
      cases hx
      obtain ⟨l2, h5, rfl⟩ := map_some' ht
      refine ⟨h1, h2, ?_, trip_ent h4 h5⟩
      have h6 : Value.int .i64 (e.born : Int) = .int .i64 (Int.ofNat b') := h3
      have h7 := (Value.int.inj h6).2
      exact (Int.ofNat.inj h7).symm
    · cases ht
theorem natsV_of (l : List Nat) : natsV (l.map fun n => V.int .i64 (.ofNat n)) = some l := by
  induction l with
  | nil => rfl
  | cons n l ih =>
    show (natsV (l.map fun n => V.int .i64 (.ofNat n))).map (n :: ·) = _
    rw [ih]; rfl
noncomputable def mapStep (since last : Nat) (seen : List Nat) (l : List (V × V × Nat)) : Option (Option (V × V × Nat)) :=
  if (!seen.isEmpty && !l.isEmpty && l.all (fun x => Nat.ble last x.2.2)) = true then none else
  match (l.filter fun x => !seen.contains x.2.2).filter (fun x => Nat.blt x.2.2 since), (l.filter fun x => !seen.contains x.2.2).filter (fun x => Nat.ble since x.2.2) with
  | [], [] => some none
  | [x], [] => some (some x)
  | _, _ => none
def Cand (ρ : Rho) : Option (V × V × Nat) → Option MapEntry → Prop
  | none, none => True
  | some x, some e => R ρ x.1 e.key ∧ R ρ x.2.1 e.val ∧ x.2.2 = e.born
  | _, _ => False
theorem ble_dec (a b : Nat) : Nat.ble a b = decide (b ≥ a) := by
  rw [Bool.eq_iff_iff]; simp
theorem mapStep_sound {ρ : Rho} {l : List (V × V × Nat)} {es : Array MapEntry} (hE : Ent ρ l es.toList) {since last : Nat} {seen : Array Nat} {r : Option (V × V × Nat)} (h : mapStep since last seen.toList l = some r) :
    (!seen.isEmpty && !es.isEmpty && es.all (fun e => decide (e.born ≥ last))) = false ∧
    ∃ c, (if ((es.filter fun e => !seen.contains e.born).filter fun e => decide (e.born < since)).isEmpty = true then #[none] else #[]) ++ (((es.filter fun e => !seen.contains e.born).filter fun e => decide (e.born < since)) ++ ((es.filter fun e => !seen.contains e.born).filter fun e => decide (e.born ≥ since))).map some = #[c] ∧ Cand ρ r c := by
  unfold mapStep at h
  have e1 : l.isEmpty = es.isEmpty := by rw [hE.empty, ← Array.isEmpty_toList]
  have e2 : l.all (fun x => Nat.ble last x.2.2) = es.all (fun e => decide (e.born ≥ last)) := by
    rw [hE.all (q := fun e => decide (e.born ≥ last)) (fun x e hx => by rw [hx, ble_dec]), ← Array.all_toList]
  have e3 : seen.toList.isEmpty = seen.isEmpty := Array.isEmpty_toList
  rw [e1, e2, e3] at h
  have f0 := hE.filter (p := fun x => !seen.toList.contains x.2.2) (q := fun e => !seen.contains e.born) (fun x e hx => by rw [hx]; simp)
  have f1 := f0.filter (p := fun x => Nat.blt x.2.2 since) (q := fun e => decide (e.born < since)) (fun x e hx => by rw [hx, Arr.blt_eq])
  have f2 := f0.filter (p := fun x => Nat.ble since x.2.2) (q := fun e => decide (e.born ≥ since)) (fun x e hx => by rw [hx, ble_dec])
  replace f1 : Ent ρ ((l.filter fun x => !seen.toList.contains x.2.2).filter fun x => Nat.blt x.2.2 since) ((es.filter fun e => !seen.contains e.born).filter fun e => decide (e.born < since)).toList := by
    rw [Array.toList_filter, Array.toList_filter]; exact f1
  replace f2 : Ent ρ ((l.filter fun x => !seen.toList.contains x.2.2).filter fun x => Nat.ble since x.2.2) ((es.filter fun e => !seen.contains e.born).filter fun e => decide (e.born ≥ since)).toList := by
    rw [Array.toList_filter, Array.toList_filter]; exact f2
  revert h f1 f2
  generalize ((es.filter fun e => !seen.contains e.born).filter fun e => decide (e.born < since)) = A
  generalize ((es.filter fun e => !seen.contains e.born).filter fun e => decide (e.born ≥ since)) = B
  generalize ((l.filter fun x => !seen.toList.contains x.2.2).filter fun x => Nat.blt x.2.2 since) = a
  generalize ((l.filter fun x => !seen.toList.contains x.2.2).filter fun x => Nat.ble since x.2.2) = b
  intro h f1 f2
  split at h
  · cases h
  · rename_i hc
    refine ⟨by simpa using hc, ?_⟩
    split at h
    · cases h
      have hA : A = #[] := Array.ext' (by simpa using f1.nil)
      have hB : B = #[] := Array.ext' (by simpa using f2.nil)
      subst hA; subst hB
      exact ⟨none, by simp, trivial⟩
    · cases h
      obtain ⟨e, g1, g2⟩ := f1.one
      have hA : A = #[e] := Array.ext' (by simpa using g1)
      have hB : B = #[] := Array.ext' (by simpa using f2.nil)
      subst hA; subst hB
      exact ⟨some e, by simp, g2⟩
    · cases h
noncomputable def iterOf (h : AH) (b : Nat) : Option (V × Nat × List V × Nat) :=
  match h.get b with
  | some k => if k.cells.n = 0 ∧ k.minL = 2 ∧ k.e = 3 then (match k.cells.z with
    | [mv, .int .i64 (.ofNat since), .tuple sv, .int .i64 (.ofNat last)] => some (mv, since, sv, last)
    | _ => none) else none
  | none => none
theorem iterOf_spec {ρ : Rho} {h : AH} {w : World} (hr : HR ρ h w) {q since last : Nat} {mv : V} {sv : List V} (hm : iterOf h q = some (mv, since, sv, last)) :
    ∃ k cb S m seen, h.get q = some k ∧ k.IsObj ∧ ρ q 0 = some (cb, 0, S) ∧ w.heap[cb]? = some (.mapIter m since seen last) ∧ sv = seen.toList.map (fun n => V.int .i64 (.ofNat n)) ∧ R ρ mv (.map m) := by
  unfold iterOf at hm
  split at hm
  · rename_i k hk
    split at hm
    · rename_i hc
      obtain ⟨h1, h2, h3⟩ := hc
      obtain ⟨_, cb, S, g1, g2⟩ := hr.obj q k hk ⟨h1, h2⟩
      rw [h3] at g2
      obtain ⟨m, since', seen, last', mv', g3, g4, g5⟩ := g2
      split at hm
      · rename_i mv2 s2 sv2 l2 hz
        cases hm
        rw [hz] at g4
        simp only [List.cons.injEq, V.int.injEq, V.tuple.injEq, Int.ofNat.injEq, and_true, true_and] at g4
        obtain ⟨rfl, rfl, g6, rfl⟩ := g4
        exact ⟨k, cb, S, m, seen, hk, ⟨h1, h2⟩, g1, g3, g6, g5⟩
      · cases hm
    · cases hm
  · cases hm
noncomputable def absNextMap (q : Nat) (h : AH) : Option (V × AH) :=
  match iterOf h q with
  | some (.nilmap, _, _, _) => some (.tuple [.bool false], h)
  | some (.mapv b, since, sv, last) =>
    match mapOf h b, natsV sv with
    | some (.int .i64 (.ofNat clock), data), some seen =>
      match trip data with
      | some l =>
        match mapStep since last seen l with
        | some none => some (.tuple [.bool false], h)
        | some (some x) => some (.tuple [.bool true, x.1, x.2.1], h.put q (Blk.obj 3 [.mapv b, .int .i64 (.ofNat since), .tuple (sv ++ [.int .i64 (.ofNat x.2.2)]), .int .i64 (.ofNat clock)]))
        | none => none
      | none => none
    | _, _ => none
  | _ => none
theorem run_getIter {P : Program} {w : World} {r : Nat} {m : Option Nat} {a b : Nat} {seen : Array Nat} (h : w.heap[r]? = some (.mapIter m a seen b)) : (getObj r).run P w = .ok (.mapIter m a seen b) w := by simp [getObj, Sem.run, h]
theorem run_setIter {P : Program} {w : World} {r : Nat} {m : Option Nat} {a b : Nat} {seen : Array Nat} (o : Obj) (h : w.heap[r]? = some (.mapIter m a seen b)) : (setObj r o).run P w = .ok () { w with heap := w.heap.setIfInBounds r o } := by simp [setObj, Sem.run, h]
theorem nextMap_sound {P : Program} {ρ : Rho} {h h' : AH} {w : World} {ty : TypeId} {q cb S : Nat} {v : V} (hr : HR ρ h w) (hq : ρ q 0 = some (cb, 0, S)) (hs : absNextMap q h = some (v, h')) : Sim P ρ h w (Instr.next (.pointer (some ⟨cb, 0, none⟩)) false ty) v h' := by
  unfold absNextMap at hs
  split at hs
  · rename_i since sv last hi
    cases hs
    obtain ⟨k, cb', S', m, seen, g1, g2, g3, g4, g5, g6⟩ := iterOf_spec hr hi
    rw [hq] at g3
    cases g3
    have hm : m = none := by have : Value.map m = .map none := g6; cases this; rfl
    subst hm
    refine Sim.pure hr ⟨.tuple #[.bool false], ?_, ⟨_, rfl, RL_cons.2 ⟨rfl, RL_nil⟩⟩⟩
    unfold Instr.next
    simp only [Sem.run_bind, run_getIter g4, Result.andThen_ok, Sem.run_pure]
  · rename_i b since sv last hi
    obtain ⟨k, cb', S', m, seen, g1, g2, g3, g4, g5, g6⟩ := iterOf_spec hr hi
    rw [hq] at g3
    cases g3
    obtain ⟨mb, Sm, hm, hρm⟩ := g6
    cases hm
    split at hs
    · rename_i clock data seen' hmo hsv
      rw [g5, natsV_of] at hsv
      cases hsv
      obtain ⟨kb, cb2, S2, es, clock', q1, q2, q3, q4, q5, q6⟩ := mapOf_spec hr hmo
      rw [hρm] at q3
      cases q3
      have hcl : clock' = clock := by
        have h6 : Value.int .i64 (clock' : Int) = .int .i64 (Int.ofNat clock) := q5
        exact Int.ofNat.inj (Value.int.inj h6).2
      subst hcl
      split at hs
      · rename_i l ht
        have hE := trip_ent q6 ht
        split at hs
        · rename_i hst
          cases hs
          obtain ⟨c1, c, c2, c3⟩ := mapStep_sound hE hst
          cases c with
          | some _ => exact c3.elim
          | none =>
            refine Sim.pure hr ⟨.tuple #[.bool false], ?_, ⟨_, rfl, RL_cons.2 ⟨rfl, RL_nil⟩⟩⟩
            unfold Instr.next
            simp only [Sem.run_bind, run_getIter g4, run_getMap q4, Result.andThen_ok, c1, Bool.false_eq_true, if_false, c2]
            rfl
        · rename_i x hst
          cases hs
          obtain ⟨c1, c, c2, c3⟩ := mapStep_sound hE hst
          cases c with
          | none => exact c3.elim
          | some e =>
            obtain ⟨x1, x2, x3⟩ := c3
            have hnew : ObjOK ρ 3 [.mapv b, .int .i64 (.ofNat since), .tuple (sv ++ [.int .i64 (.ofNat x.2.2)]), .int .i64 (.ofNat clock')] (some (.mapIter (some mb) since (seen.push e.born) clock')) :=
              ⟨some mb, since, seen.push e.born, clock', .mapv b, rfl, by rw [g5, x3, Array.toList_push, List.map_append]; rfl, mb, Sm, rfl, hρm⟩
            obtain ⟨o1, o2⟩ := obj_set hr g1 g2 hq 3 _ _ hnew
            refine ⟨.tuple #[.bool true, e.key, e.val], _, ρ, ?_, ⟨_, rfl, RL_cons.2 ⟨rfl, RL_cons.2 ⟨x1, RL_cons.2 ⟨x2, RL_nil⟩⟩⟩⟩, o1, o2⟩
            unfold Instr.next
            simp only [Sem.run_bind, run_getIter g4, run_getMap q4, Result.andThen_ok, c1, Bool.false_eq_true, if_false, c2]
            have hset := run_setIter (P := P) (.mapIter (some mb) since (seen.push e.born) clock') g4
            show (do setObj _ (.mapIter (some mb) since (seen.push e.born) clock'); pure (.tuple #[.bool true, e.key, e.val]) : Sem Value).run P w = _
            simp only [Sem.run_bind, hset, Result.andThen_ok, Sem.run_pure]
        · cases hs
      · cases hs
    · cases hs
  · cases hs
def lastN : List Nat → Option Nat
  | [] => none
  | [x] => some x
  | _ :: y :: l => lastN (y :: l)
theorem lastN_eq : ∀ l : List Nat, lastN l = l.getLast?
  | [] => rfl
  | [x] => rfl
  | x :: y :: l => by rw [lastN, lastN_eq (y :: l), List.getLast?_cons_cons]
def eFind (s : Nat) : List (V × V × Nat) → Option (V × V)
  | [] => none
  | x :: l => bif Nat.beq x.2.2 s then some (x.1, x.2.1) else eFind s l
theorem eFind_ent {ρ : Rho} {s : Nat} {k v : V} : ∀ {l : List (V × V × Nat)} {es : List MapEntry}, Ent ρ l es → eFind s l = some (k, v) → ∃ e, es.find? (fun e => e.born == s) = some e ∧ R ρ k e.key ∧ R ρ v e.val
  | [], [], _, h => by cases h
  | x :: l, e :: es, ⟨h1, h2, h3, h4⟩, h => by
    unfold eFind at h
    cases hb : Nat.beq x.2.2 s with
    | true =>
      rw [hb] at h
      cases h
      refine ⟨e, ?_, h1, h2⟩
      have : (e.born == s) = true := by rw [← h3]; simpa using Nat.eq_of_beq_eq_true hb
      rw [List.find?_cons, this]
    | false =>
      rw [hb] at h
      obtain ⟨e', g1, g2⟩ := eFind_ent h4 h
      refine ⟨e', ?_, g2⟩
      have : (e.born == s) = false := by
        rw [← h3]
        cases hq : (x.2.2 == s) with
        | false => rfl
        | true => rw [eq_of_beq hq, Nat.beq_refl] at hb; cases hb
      rw [List.find?_cons, this]
      exact g1
noncomputable def absEntry (x : V) (h : AH) : Option V :=
  match x with
  | .ptr a => if a.L = 0 ∧ a.o = 0 then
      match iterOf h a.b with
      | some (.mapv b, _, sv, last) =>
        match mapOf h b, natsV sv with
        | some (.int .i64 (.ofNat clock), data), some seen => if clock = last then
            match lastN seen, trip data with
            | some s, some l => (eFind s l).map fun p => .tuple [p.1, p.2]
            | _, _ => none
          else none
        | _, _ => none
      | _ => none
    else none
  | _ => none
theorem entry_sound {P : Program} {ρ : Rho} {h : AH} {w : World} {x v : V} {a : Value} (hr : HR ρ h w) (hx : R ρ x a) (hs : absEntry x h = some v) : ∃ u, (Instr.entry a).run P w = .ok u w ∧ R ρ v u := by
  unfold absEntry at hs
  split at hs
  · rename_i q
    split at hs
    · rename_i hq
      obtain ⟨c, rfl, cb', sh, S', g1, g2, g3⟩ := hx
      split at hs
      · rename_i b since sv last hi
        obtain ⟨k, cb, S, m, seen, q1, q2, q3, q4, q5, q6⟩ := iterOf_spec hr hi
        rw [hq.1, q3] at g1
        cases g1
        rw [hq.2] at g3
        have hcc : c = ⟨cb', 0, none⟩ := by rw [g3]; rfl
        subst hcc
        obtain ⟨mb, Sm, hm, hρm⟩ := q6
        cases hm
        split at hs
        · rename_i clock data seen' hmo hsv
          rw [q5, natsV_of] at hsv
          cases hsv
          obtain ⟨kb, cb2, S2, es, clock', p1, p2, p3, p4, p5, p6⟩ := mapOf_spec hr hmo
          rw [hρm] at p3
          cases p3
          have hcl : clock' = clock := by
            have h6 : Value.int .i64 (clock' : Int) = .int .i64 (Int.ofNat clock) := p5
            exact Int.ofNat.inj (Value.int.inj h6).2
          subst hcl
          split at hs
          · rename_i hlast
            subst hlast
            split at hs
            · rename_i s l hl ht
              obtain ⟨p, e1, e2⟩ := map_some' hs
              obtain ⟨k1, v1⟩ := p
              subst e2
              obtain ⟨e, e3, e4, e5⟩ := eFind_ent (trip_ent p6 ht) e1
              have hb : seen.back? = some s := by rw [← Array.getLast?_toList, ← lastN_eq]; exact hl
              have hf : es.find? (fun e => e.born == s) = some e := by rw [← Array.find?_toList]; exact e3
              refine ⟨.tuple #[e.key, e.val], ?_, ⟨_, rfl, RL_cons.2 ⟨e4, RL_cons.2 ⟨e5, RL_nil⟩⟩⟩⟩
              unfold Instr.entry
              simp only [Sem.run_bind, run_getIter q4, run_getMap p4, Result.andThen_ok, hb, hf, bne_self_eq_false, Bool.false_eq_true, if_false, Sem.run_pure]
            · cases hs
          · cases hs
        · cases hs
      · cases hs
    · cases hs
  · cases hs
def mDel : List V → Nat → List V
  | _ :: _ :: _ :: rest, 0 => rest
  | k :: v :: b :: rest, i + 1 => k :: v :: b :: mDel rest i
  | l, _ => l
theorem mDel_sound {ρ : Rho} : ∀ (es : List MapEntry) (data : List V) (i : Nat), RL ρ data (mapL es) → RL ρ (mDel data i) (mapL (es.eraseIdx i)) := by
  intro es
  induction es with
  | nil => intro data i h; rw [RL_noEntry h]; rw [List.eraseIdx_nil]; cases i <;> exact rfl
  | cons e es ih =>
    intro data i h
    obtain ⟨k, v, b, rest, rfl, h1, h2, h3, h4⟩ := RL_entry h
    cases i with
    | zero => rw [List.eraseIdx_cons_zero]; exact h4
    | succ i =>
      rw [List.eraseIdx_cons_succ, mapL_cons]
      exact RL_cons.2 ⟨h1, RL_cons.2 ⟨h2, RL_cons.2 ⟨h3, ih rest i h4⟩⟩⟩
noncomputable def absDelete (P : Program) (t : TypeId) (m k : V) (h : AH) : Option (V × AH) :=
  match P.underlying t with
  | some (.map kt _) =>
    if keyOK P kt k = true then
      match m with
      | .nilmap => some (.tuple [], h)
      | .mapv b => match mapOf h b with
        | none => none
        | some (c, data) => match mFind P kt k data 0 with
          | none => none
          | some none => some (.tuple [], h.put b (Blk.obj 0 (c :: data)))
          | some (some (i, _, _, _)) => some (.tuple [], h.put b (Blk.obj 0 (c :: mDel data i)))
      | _ => none
    else none
  | _ => none
theorem delete_sound {P : Program} {ρ : Rho} {h h' : AH} {w : World} {t t2 ty : TypeId} {m k v : V} {am ak : Value} (hr : HR ρ h w) (hm : R ρ m am) (hk : R ρ k ak) (hs : absDelete P t m k h = some (v, h')) : Sim P ρ h w (Builtin.delete_ #[t, t2] ty #[am, ak]) v h' := by
  unfold absDelete at hs
  split at hs
  · rename_i kt et hu
    split at hs
    · rename_i hok
      split at hs
      · cases hs
        rw [show am = _ from hm]
        refine ⟨.tuple #[], w, ρ, ?_, ⟨_, rfl, RL_nil⟩, hr, Step.refl ρ h w⟩
        unfold Builtin.delete_
        simp only [List.getElem?_toArray, List.getElem?_cons_zero, List.getElem?_cons_succ, Sem.run_bind, run_underlying hu, Result.andThen_ok, checkKey_run hk hok, Sem.run_pure]
      · rename_i b
        obtain ⟨cb', S', rfl, hρ⟩ := hm
        split at hs
        · cases hs
        · rename_i c data hmo
          obtain ⟨kb, cb, S, es, clock, g1, g2, g3, g4, g5, g6⟩ := mapOf_spec hr hmo
          rw [hρ] at g3
          cases g3
          split at hs
          · cases hs
          · rename_i hf
            cases hs
            obtain ⟨r, q1, q2⟩ := mFind_sound hk hok g6 hf w
            cases r with
            | some _ => exact q2.elim
            | none =>
              obtain ⟨o1, o2⟩ := obj_set hr g1 g2 hρ 0 _ _ (show ObjOK ρ 0 (c :: data) (some (.map es clock)) from ⟨es, clock, rfl, RL_cons.2 ⟨g5, g6⟩⟩)
              refine ⟨.tuple #[], _, ρ, ?_, ⟨_, rfl, RL_nil⟩, o1, o2⟩
              unfold Builtin.delete_
              simp only [List.getElem?_toArray, List.getElem?_cons_zero, List.getElem?_cons_succ, Sem.run_bind, run_underlying hu, Result.andThen_ok, run_getMap g4, checkKey_run hk hok, q1, run_setMap _ g4, Sem.run_pure]
          · rename_i i old v' s hf
            cases hs
            obtain ⟨r, q1, q2⟩ := mFind_sound hk hok g6 hf w
            cases r with
            | none => exact q2.elim
            | some p =>
              obtain ⟨j, u⟩ := p
              obtain ⟨rfl, _⟩ := q2
              have hnew : ObjOK ρ 0 (c :: mDel data i) (some (.map (es.eraseIdxIfInBounds i) clock)) := by
                refine ⟨_, clock, rfl, RL_cons.2 ⟨g5, ?_⟩⟩
                have : (es.eraseIdxIfInBounds i).toList = es.toList.eraseIdx i := by
                  unfold Array.eraseIdxIfInBounds
                  split
                  · simp
                  · rw [List.eraseIdx_of_length_le (by rw [Array.length_toList]; omega)]
                rw [this]
                exact mDel_sound _ _ _ g6
              obtain ⟨o1, o2⟩ := obj_set hr g1 g2 hρ 0 _ _ hnew
              refine ⟨.tuple #[], _, ρ, ?_, ⟨_, rfl, RL_nil⟩, o1, o2⟩
              unfold Builtin.delete_
              simp only [List.getElem?_toArray, List.getElem?_cons_zero, List.getElem?_cons_succ, Sem.run_bind, run_underlying hu, Result.andThen_ok, run_getMap g4, checkKey_run hk hok, q1, run_setMap _ g4, Sem.run_pure]
      · cases hs
    · cases hs
  · cases hs
noncomputable def absRange (P : Program) (t : TypeId) (x : V) (h : AH) : Option (V × AH) :=
  match P.underlying t, x with
  | some .string, .str l => some (.ptr ⟨h.next, 0, 0⟩, h.add (Blk.obj 2 [.str l, .int .i64 0]))
  | some (.map _ _), .nilmap => some (.ptr ⟨h.next, 0, 0⟩, h.add (Blk.obj 3 [.nilmap, .int .i64 0, .tuple [], .int .i64 0]))
  | some (.map _ _), .mapv b => match mapOf h b with
    | some (.int .i64 (.ofNat c), _) => some (.ptr ⟨h.next, 0, 0⟩, h.add (Blk.obj 3 [.mapv b, .int .i64 (.ofNat c), .tuple [], .int .i64 (.ofNat c)]))
    | _ => none
  | _, _ => none
noncomputable def absNext (x : V) (isStr : Bool) (h : AH) : Option (V × AH) :=
  match isStr, x with
  | true, .ptr a =>
    if a.L = 0 ∧ a.o = 0 then
      match h.get a.b with
      | some k =>
        if k.cells.n = 0 ∧ k.minL = 2 ∧ k.e = 2 then
          match k.cells.z with
          | [.str l, .int .i64 p] => match l[p.toNat]? with
            | none => some (.tuple [.bool false], h)
            | some c => if c < 128 then some (.tuple [.bool true, .int .i64 p, .int .i32 c], h.put a.b (Blk.obj 2 [.str l, .int .i64 (p + 1)])) else none
          | _ => none
        else none
      | none => none
    else none
  | false, .ptr a => if a.L = 0 ∧ a.o = 0 then absNextMap a.b h else none
  | _, _ => none
theorem range_sound {P : Program} {ρ : Rho} {h h' : AH} {w : World} {t : TypeId} {x v : V} {a : Value} (hr : HR ρ h w) (hx : R ρ x a) (hs : absRange P t x h = some (v, h')) : Sim P ρ h w (Instr.range t a) v h' := by
  unfold absRange at hs
  split at hs
  · rename_i l hu
    cases hs
    obtain ⟨s, rfl, hl⟩ := hx
    subst hl
    obtain ⟨ρ', g1, g2, g3⟩ := obj_new hr 2 [.str (s.data.toList.map UInt8.toNat), .int .i64 0] (.stringIter s 0) ⟨s, 0, rfl, rfl⟩
    refine ⟨.pointer (some ⟨w.heap.size, 0, none⟩), _, ρ', ?_, ⟨_, rfl, w.heap.size, 0, 0, g3, Int.le_refl _, rfl⟩, g1, g2⟩
    unfold Instr.range
    simp only [Sem.run_bind, run_underlying hu, Result.andThen_ok, Sem.run_pure]
    rfl
  · rename_i hu
    cases hs
    rw [show a = _ from hx]
    obtain ⟨ρ', g1, g2, g3⟩ := obj_new hr 3 [.nilmap, .int .i64 0, .tuple [], .int .i64 0] (.mapIter none 0 #[] 0) ⟨none, 0, #[], 0, .nilmap, rfl, rfl, rfl⟩
    refine ⟨.pointer (some ⟨w.heap.size, 0, none⟩), _, ρ', ?_, ⟨_, rfl, w.heap.size, 0, 0, g3, Int.le_refl _, rfl⟩, g1, g2⟩
    unfold Instr.range
    simp only [Sem.run_bind, run_underlying hu, Result.andThen_ok, Sem.run_pure]
    rfl
  · rename_i b hu
    obtain ⟨mb, Sm, rfl, hρ⟩ := hx
    split at hs
    · rename_i c data hmo
      cases hs
      obtain ⟨kb, cb2, S2, es, clock', q1, q2, q3, q4, q5, q6⟩ := mapOf_spec hr hmo
      rw [hρ] at q3
      cases q3
      have hcl : clock' = c := by
        have h6 : Value.int .i64 (clock' : Int) = .int .i64 (Int.ofNat c) := q5
        exact Int.ofNat.inj (Value.int.inj h6).2
      subst hcl
      obtain ⟨ρ', g1, g2, g3⟩ := obj_new hr 3 [.mapv b, .int .i64 (.ofNat clock'), .tuple [], .int .i64 (.ofNat clock')] (.mapIter (some mb) clock' #[] clock') ⟨some mb, clock', #[], clock', .mapv b, rfl, rfl, mb, Sm, rfl, hρ⟩
      refine ⟨.pointer (some ⟨w.heap.size, 0, none⟩), _, ρ', ?_, ⟨_, rfl, w.heap.size, 0, 0, g3, Int.le_refl _, rfl⟩, g1, g2⟩
      unfold Instr.range
      simp only [Sem.run_bind, run_underlying hu, run_getMap q4, Result.andThen_ok, Sem.run_pure]
      rfl
    · cases hs
  · cases hs
theorem next_sound {P : Program} {ρ : Rho} {h h' : AH} {w : World} {ty : TypeId} {b : Bool} {x v : V} {a : Value} (hr : HR ρ h w) (hx : R ρ x a) (hs : absNext x b h = some (v, h')) : Sim P ρ h w (Instr.next a b ty) v h' := by
  unfold absNext at hs
  split at hs
  · rename_i q
    split at hs
    · rename_i hq
      split at hs
      · rename_i k hk
        split at hs
        · rename_i hc
          obtain ⟨h1, h2, h3⟩ := hc
          obtain ⟨hro, cb, S, hρ, hob⟩ := hr.obj q.b k hk ⟨h1, h2⟩
          rw [h3] at hob
          obtain ⟨s, pos, ho, hd⟩ := hob
          split at hs
          · rename_i l p hz
            rw [hz] at hd
            obtain ⟨hl, hp⟩ : l = s.data.toList.map UInt8.toNat ∧ p = (pos : Int) := by
              have := hd
              simp only [List.cons.injEq, V.str.injEq, V.int.injEq, and_true, true_and] at this
              exact this
            subst hl
            subst hp
            obtain ⟨c, rfl, cb', sh, S', g1, g2, g3⟩ := hx
            rw [hq.1, hρ] at g1
            cases g1
            rw [hq.2] at g3
            have hcc : c = ⟨cb, 0, none⟩ := by rw [g3]; rfl
            subst hcc
            have hget : (getObj cb).run P w = .ok (.stringIter s pos) w := by simp [getObj, Sem.run, ho]
            have hsz : (s.data.toList.map UInt8.toNat).length = s.size := by rw [List.length_map, Array.length_toList]; rfl
            split at hs
            · rename_i hn
              cases hs
              refine Sim.pure hr ⟨.tuple #[.bool false], ?_, ⟨_, rfl, RL_cons.2 ⟨rfl, RL_nil⟩⟩⟩
              have hlt : ¬ pos < s.size := by
                have := List.getElem?_eq_none_iff.1 hn
                rw [hsz] at this
                simp only [Int.toNat_natCast] at this
                omega
              unfold Instr.next
              simp only [Sem.run_bind, hget, Result.andThen_ok, if_neg hlt, Sem.run_pure]
            · rename_i ch hn
              split at hs
              · rename_i hlt
                cases hs
                simp only [Int.toNat_natCast] at hn
                have hpos : pos < s.size := by
                  have := (List.getElem?_eq_some_iff.1 hn).1
                  rwa [hsz] at this
                have hch : (s.get! pos).toNat = ch := by
                  rw [List.getElem?_map] at hn
                  have hd : s.data.toList[pos]? = some (s.get! pos) := by
                    rw [Array.getElem?_toList]
                    have hp' : pos < s.data.size := hpos
                    rw [Array.getElem?_eq_getElem hp']
                    exact congrArg some (getElem!_pos s.data pos hp').symm
                  rw [hd] at hn
                  exact Option.some.inj hn
                have hdec : Utf8.decode s pos = (ch, 1) := by
                  unfold Utf8.decode
                  simp only [Nat.add_zero, hch, hlt, if_true]
                obtain ⟨q1, q2⟩ := obj_set hr hk ⟨h1, h2⟩ hρ 2 [.str (s.data.toList.map UInt8.toNat), .int .i64 ((pos : Int) + 1)] (.stringIter s (pos + 1)) ⟨s, pos + 1, rfl, by simp⟩
                refine ⟨.tuple #[.bool true, .int .i64 pos, .int .i32 ch], _, ρ, ?_, ⟨_, rfl, RL_cons.2 ⟨rfl, RL_cons.2 ⟨rfl, RL_cons.2 ⟨rfl, RL_nil⟩⟩⟩⟩, q1, q2⟩
                have hset : (setObj cb (.stringIter s (pos + 1))).run P w = .ok () { w with heap := w.heap.setIfInBounds cb (.stringIter s (pos + 1)) } := by simp [setObj, Sem.run, ho]
                unfold Instr.next
                simp only [Sem.run_bind, hget, Result.andThen_ok, if_pos hpos, hdec, hset, Sem.run_pure]
                rfl
              · cases hs
          · cases hs
        · cases hs
      · cases hs
    · cases hs
  · rename_i q
    split at hs
    · rename_i hq
      obtain ⟨c, rfl, cb', sh, S', g1, g2, g3⟩ := hx
      have hi : ∃ p, iterOf h q.b = some p := by
        unfold absNextMap at hs
        cases hi : iterOf h q.b with
        | none => rw [hi] at hs; cases hs
        | some p => exact ⟨p, rfl⟩
      obtain ⟨⟨mv, since, sv, last⟩, hi⟩ := hi
      obtain ⟨k, cb, S, m, seen, q1, q2, q3, _⟩ := iterOf_spec hr hi
      rw [hq.1, q3] at g1
      cases g1
      rw [hq.2] at g3
      have hcc : c = ⟨cb', 0, none⟩ := by rw [g3]; rfl
      subst hcc
      exact nextMap_sound hr q3 hs
    · cases hs
  · cases hs
end Go.Proofs.YtcphjmgfgfjnpaaGreatDoor.Ev
namespace Go.Proofs.YtcphjmgfgfjnpaaGreatDoor.Ev
open Go
def absLen (P : Program) (t : TypeId) (x : V) : Option V :=
  match P.underlying t, x with
  | some .string, .str s => some (.int .i64 s.length)
  | some (.array n _), _ => some (.int .i64 n)
  | some (.pointer arr), _ =>
    match P.underlying arr with
    | some (.array n _) => some (.int .i64 n)
    | _ => none
  | some (.slice _), .slice _ n _ _ _ => some (.int .i64 n)
  | some (.slice _), .nilslice => some (.int .i64 0)
  | some (.slice _), .loose => some (.int .i64 0)
  | _, _ => none
theorem len_sound {P : Program} {ρ : Rho} {t ty : TypeId} {x v : V} {a : Value} (hx : R ρ x a) (hs : absLen P t x = some v) (w : World) : ∃ u, (Builtin.len_ #[t] ty #[a]).run P w = .ok u w ∧ R ρ v u := by
  unfold absLen at hs
  have run0 : ∀ (f : TypeId × Value → Sem Value), True := fun _ => trivial
  split at hs
  · rename_i s hu
    cases hs
    obtain ⟨t', rfl, rfl⟩ := hx
    refine ⟨.int .i64 t'.size, ?_, ?_⟩
    · simp [Builtin.len_, run_underlying hu, goInt]
    · have : (t'.data.toList.map UInt8.toNat).length = t'.size := by rw [List.length_map, Array.length_toList]; rfl
      rw [this]; rfl
  · rename_i n e hu
    cases hs
    refine ⟨.int .i64 n, ?_, rfl⟩
    simp only [Builtin.len_, List.getElem?_toArray, List.getElem?_cons_zero, Sem.run_bind, run_underlying hu, Result.andThen_ok, goInt]
    cases a <;> rfl
  · rename_i arr hu
    split at hs
    · rename_i n e hu2
      cases hs
      refine ⟨.int .i64 n, ?_, rfl⟩
      simp only [Builtin.len_, List.getElem?_toArray, List.getElem?_cons_zero, Sem.run_bind, run_underlying hu, Result.andThen_ok, goInt]
      cases a <;> simp only [Sem.run_bind, run_underlying hu2, Result.andThen_ok, Sem.run_pure]
    · cases hs
  · rename_i e p n _ _ _ hu
    cases hs
    obtain ⟨cb, sh, S, cc, rfl, _⟩ := hx
    exact ⟨.int .i64 n, by simp [Builtin.len_, run_underlying hu, goInt], rfl⟩
  · rename_i e hu
    cases hs
    rw [show a = _ from hx]
    exact ⟨.int .i64 0, by simp [Builtin.len_, run_underlying hu, goInt], rfl⟩
  · rename_i e hu
    cases hs
    obtain ⟨c, cc, rfl⟩ := hx
    exact ⟨.int .i64 0, by simp [Builtin.len_, run_underlying hu, goInt], rfl⟩
  · cases hs
def absCap (P : Program) (t : TypeId) (x : V) : Option V :=
  match P.underlying t, x with
  | some (.slice _), .slice _ _ c true _ => some (.int .i64 c)
  | some (.slice _), .nilslice => some (.int .i64 0)
  | _, _ => none
theorem cap_sound {P : Program} {ρ : Rho} {t ty : TypeId} {x v : V} {a : Value} (hx : R ρ x a) (hs : absCap P t x = some v) (w : World) : ∃ u, (Builtin.cap_ #[t] ty #[a]).run P w = .ok u w ∧ R ρ v u := by
  unfold absCap at hs
  split at hs
  · rename_i e p n c _ hu
    cases hs
    obtain ⟨cb, sh, S, cc, rfl, h1, h2, h3, h4, _⟩ := hx
    obtain rfl := h4 rfl
    exact ⟨.int .i64 cc, by simp [Builtin.cap_, run_underlying hu, goInt], rfl⟩
  · rename_i e hu
    cases hs
    rw [show a = _ from hx]
    exact ⟨.int .i64 0, by simp [Builtin.cap_, run_underlying hu, goInt], rfl⟩
  · cases hs
def max2V (x y : V) : Option V :=
  match x, y with
  | .int k a, .int _ b => some (.int k (if b > a then b else a))
  | _, _ => none
def min2V (x y : V) : Option V :=
  match x, y with
  | .int k a, .int _ b => some (.int k (if b < a then b else a))
  | _, _ => none
def foldV (f : V → V → Option V) : V → List V → Option V
  | x, [] => some x
  | x, y :: l => match f x y with
    | some z => foldV f z l
    | none => none
theorem fold_sound {P : Program} {ρ : Rho} {f : V → V → Option V} {g : Value → Value → Sem Value} (w : World) (hf : ∀ x y z a b, R ρ x a → R ρ y b → f x y = some z → ∃ c, (g a b).run P w = .ok c w ∧ R ρ z c) : ∀ {l : List V} {l' : List Value} {x z : V} {a : Value}, R ρ x a → RL ρ l l' → foldV f x l = some z →
    ∃ c, (l'.foldlM g a).run P w = .ok c w ∧ R ρ z c := by
  intro l
  induction l with
  | nil => intro l' x z a hx hl h; cases h; rw [show l' = [] from hl]; exact ⟨a, rfl, hx⟩
  | cons y l ih =>
    rintro l' x z a hx ⟨b, bs, rfl, hb, hl⟩ h
    simp only [foldV] at h
    cases hz : f x y with
    | none => rw [hz] at h; cases h
    | some m =>
      rw [hz] at h
      obtain ⟨c, h1, h2⟩ := hf _ _ _ _ _ hx hb hz
      obtain ⟨c', h3, h4⟩ := ih h2 hl h
      exact ⟨c', by simp only [List.foldlM_cons, Sem.run_bind, h1, Result.andThen_ok, h3], h4⟩
theorem max2_sound {P : Program} {ρ : Rho} (w : World) : ∀ x y z a b, R ρ x a → R ρ y b → max2V x y = some z → ∃ c, (Builtin.max2 a b).run P w = .ok c w ∧ R ρ z c := by
  intro x y z a b hx hy h
  unfold max2V at h
  split at h
  · cases h; rw [show a = _ from hx, show b = _ from hy]; exact ⟨_, rfl, rfl⟩
  · cases h
theorem min2_sound {P : Program} {ρ : Rho} (w : World) : ∀ x y z a b, R ρ x a → R ρ y b → min2V x y = some z → ∃ c, (Builtin.min2 a b).run P w = .ok c w ∧ R ρ z c := by
  intro x y z a b hx hy h
  unfold min2V at h
  split at h
  · cases h; rw [show a = _ from hx, show b = _ from hy]; exact ⟨_, rfl, rfl⟩
  · cases h
noncomputable def absBuiltin (P : Program) (b : Builtin) (ts : List TypeId) (args : List V) (h : AH) : Option (V × AH) :=
  match b, ts, args with
  | .len, [t], [x] => match absLen P t x with
    | some v => some (v, h)
    | none => (absMapLen P t x h).map fun v => (v, h)
  | .cap, [t], [x] => (absCap P t x).map fun v => (v, h)
  | .append, [t, xt], [s, x] => bif intLike P xt then absAppendZ P t s x h else absAppend P t xt s x h
  | .copy, [t, _], [d, x] => absCopy P t d x h
  | .max, _, x :: l => (foldV max2V x l).map fun v => (v, h)
  | .min, _, x :: l => (foldV min2V x l).map fun v => (v, h)
  | .unsafeSliceData, _, [x] => (absSliceData x).map fun v => (v, h)
  | .unsafeString, [pt, _], [x, n] => absUnsafeString P pt x n h
  | .real, _, l => (partOf .real l).map fun v => (v, h)
  | .imag, _, l => (partOf .imag l).map fun v => (v, h)
  | .complex, _, l => (partOf .complex l).map fun v => (v, h)
  | .delete, [t, _], [m, k] => absDelete P t m k h
  | _, _, _ => none
def SimN (P : Program) (ρ : Rho) (h : AH) (w : World) (s : Sem Next) (v : V) (h' : AH) : Prop :=
  ∃ n u w' ρ', s.run P w = .ok n w' ∧ (n = .value u ∨ (n = .skip ∧ u = undef)) ∧ R ρ' v u ∧ HR ρ' h' w' ∧ Step ρ h w ρ' h' w'
theorem SimN.of {P : Program} {ρ : Rho} {h h' : AH} {w : World} {s : Sem Value} {v : V} (hs : Sim P ρ h w s v h') : SimN P ρ h w (do pure (.value (← s))) v h' := by
  obtain ⟨u, w', ρ', h1, h2, h3, h4⟩ := hs
  exact ⟨.value u, u, w', ρ', by simp only [Sem.run_bind, h1, Result.andThen_ok, Sem.run_pure], .inl rfl, h2, h3, h4⟩
theorem SimN.pure {P : Program} {ρ : Rho} {h : AH} {w : World} {s : Sem Value} {v : V} (hr : HR ρ h w) (hs : ∃ u, s.run P w = .ok u w ∧ R ρ v u) : SimN P ρ h w (do pure (.value (← s))) v h := .of (.pure hr hs)
theorem list1 {α : Type} {a : Array α} {x : α} (h : a.toList = [x]) : a = #[x] := Array.ext' (by simpa using h)
theorem list2 {α : Type} {a : Array α} {x y : α} (h : a.toList = [x, y]) : a = #[x, y] := Array.ext' (by simpa using h)
theorem RL1 {ρ : Rho} {x : V} {l : List Value} (h : RL ρ [x] l) : ∃ a, l = [a] ∧ R ρ x a := by
  obtain ⟨z, zs, rfl, hz, h⟩ := h
  rw [show zs = [] from h]
  exact ⟨z, rfl, hz⟩
theorem RL2 {ρ : Rho} {x y : V} {l : List Value} (h : RL ρ [x, y] l) : ∃ a b, l = [a, b] ∧ R ρ x a ∧ R ρ y b := by
  obtain ⟨z, zs, rfl, hz, h⟩ := h
  obtain ⟨b, rfl, hb⟩ := RL1 h
  exact ⟨z, b, rfl, hz, hb⟩
theorem partOf_sound {P : Program} {ρ : Rho} {b : Builtin} {ats : Array TypeId} {ty : TypeId} {cs : Array Bool} {xs : List V} {args : Array Value} {v : V} (hx : RL ρ xs args.toList) (hs : partOf b xs = some v) (w : World) : ∃ u, (builtin b ats ty cs args).run P w = .ok (.value u) w ∧ R ρ v u := by
  unfold partOf at hs
  split at hs
  · cases hs
    obtain ⟨a, ha, hR⟩ := RL1 hx
    rw [list1 ha, show a = _ from hR]
    exact ⟨_, rfl, rfl⟩
  · cases hs
    obtain ⟨a, ha, hR⟩ := RL1 hx
    rw [list1 ha, show a = _ from hR]
    exact ⟨_, rfl, rfl⟩
  · split at hs
    · rename_i hk
      cases hs
      obtain ⟨a, b, ha, hR, hR2⟩ := RL2 hx
      rw [list2 ha, show a = _ from hR, show b = _ from hR2]
      subst hk
      rename_i k _ _
      exact ⟨_, by cases k <;> rfl, rfl⟩
    · cases hs
  · cases hs
theorem builtin_sound {P : Program} {ρ : Rho} {h h' : AH} {w : World} {b : Builtin} {ats : Array TypeId} {ty : TypeId} {cs : Array Bool} {xs : List V} {args : Array Value} {v : V} (hr : HR ρ h w) (hx : RL ρ xs args.toList) (hs : absBuiltin P b ats.toList xs h = some (v, h')) :
    SimN P ρ h w (builtin b ats ty cs args) v h' := by
  unfold absBuiltin at hs
  split at hs
  · rename_i t x hts
    obtain ⟨a, ha, hR⟩ := RL1 hx
    rw [list1 ha, list1 hts, BigFrame.builtin_len]
    cases hl : absLen P t x with
    | none =>
      rw [hl] at hs
      obtain ⟨v', h1, h2⟩ := map_some' hs
      cases h2
      exact .pure hr (mapLen_sound hr hR h1)
    | some v' => rw [hl] at hs; cases hs; exact .pure hr (len_sound hR hl w)
  · rename_i t x hts
    obtain ⟨a, ha, hR⟩ := RL1 hx
    rw [list1 ha, list1 hts, BigFrame.builtin_cap]
    cases hl : absCap P t x with
    | none => rw [hl] at hs; cases hs
    | some v' => rw [hl] at hs; cases hs; exact .pure hr (cap_sound hR hl w)
  · rename_i t xt s x hts
    obtain ⟨a, b, ha, hR, hR2⟩ := RL2 hx
    rw [list2 ha, list2 hts, BigFrame.builtin_append]
    cases hz : intLike P xt with
    | true => rw [hz] at hs; exact .of (appendZ_sound hr hR hR2 hz hs)
    | false => rw [hz] at hs; exact .of (append_sound hr hR hR2 hs)
  · rename_i t xt s x hts
    obtain ⟨a, b, ha, hR, hR2⟩ := RL2 hx
    rw [list2 ha, list2 hts, BigFrame.builtin_copy]
    exact .of (copy_sound hr hR hR2 hs)
  · rename_i x l
    obtain ⟨a, aas, ha, hR, hR2⟩ := hx
    rw [BigFrame.builtin_max]
    cases hl : foldV max2V x l with
    | none => rw [hl] at hs; cases hs
    | some v' =>
      rw [hl] at hs; cases hs
      refine .pure hr ?_
      unfold Builtin.max_
      rw [ha]
      exact fold_sound w (max2_sound w) hR hR2 hl
  · rename_i x l
    obtain ⟨a, aas, ha, hR, hR2⟩ := hx
    rw [BigFrame.builtin_min]
    cases hl : foldV min2V x l with
    | none => rw [hl] at hs; cases hs
    | some v' =>
      rw [hl] at hs; cases hs
      refine .pure hr ?_
      unfold Builtin.min_
      rw [ha]
      exact fold_sound w (min2_sound w) hR hR2 hl
  · rename_i x
    obtain ⟨a, ha, hR⟩ := RL1 hx
    rw [list1 ha]
    cases hl : absSliceData x with
    | none => rw [hl] at hs; cases hs
    | some v' => rw [hl] at hs; cases hs; exact .pure hr (sliceData_sound hR hl w)
  · rename_i pt it x n hts
    obtain ⟨a, b, ha, hR, hR2⟩ := RL2 hx
    rw [list2 ha, list2 hts, BigFrame.builtin_unsafeString]
    exact .of (unsafeString_sound hr hR hR2 hs)
  · obtain ⟨v', h1, h2⟩ := map_some' hs
    cases h2
    obtain ⟨u, g1, g2⟩ := partOf_sound (P := P) (ats := ats) (ty := ty) (cs := cs) hx h1 w
    exact ⟨_, u, w, ρ, g1, .inl rfl, g2, hr, Step.refl ρ h w⟩
  · obtain ⟨v', h1, h2⟩ := map_some' hs
    cases h2
    obtain ⟨u, g1, g2⟩ := partOf_sound (P := P) (ats := ats) (ty := ty) (cs := cs) hx h1 w
    exact ⟨_, u, w, ρ, g1, .inl rfl, g2, hr, Step.refl ρ h w⟩
  · obtain ⟨v', h1, h2⟩ := map_some' hs
    cases h2
    obtain ⟨u, g1, g2⟩ := partOf_sound (P := P) (ats := ats) (ty := ty) (cs := cs) hx h1 w
    exact ⟨_, u, w, ρ, g1, .inl rfl, g2, hr, Step.refl ρ h w⟩
  · rename_i t t2 m k hts
    obtain ⟨a, b, ha, hR, hR2⟩ := RL2 hx
    rw [list2 ha, list2 hts, BigFrame.builtin_delete]
    exact .of (delete_sound hr hR hR2 hs)
  · cases hs
def absNilCheck (x : V) : Option V :=
  match x with
  | .nilptr | .nilIface | .nilFunc | .bad | .nilmap | .rcd .. => none
  | v => some v
def absMakeIface (P : Program) (t : TypeId) (x : V) : Option V :=
  match P.underlying t with
  | some (.interface _) => none
  | some _ => some (.iface t x)
  | none => none
def absMakeFunc (fn : Fn) (fs cs : List V) : Option V :=
  match fn with
  | .func f => some (.func f fs cs)
  | _ => none
def pickV (t : Bool) (a b : V) : V :=
  match a, b with
  | .bool x, .bool y => .bool (bif t then x else y)
  | .int k x, .int k' y => if k = k' then .int k (bif t then x else y) else bif t then a else b
  | .str x, .str y => .str (bif t then x else y)
  | .agg x, .agg y => .agg (bif t then x else y)
  | a, b => bif t then a else b
theorem pickV_eq (t : Bool) (a b : V) : pickV t a b = if t then a else b := by
  unfold pickV
  split
  · cases t <;> rfl
  · split
    · rename_i hk; subst hk; cases t <;> rfl
    · cases t <;> rfl
  · cases t <;> rfl
  · cases t <;> rfl
  · cases t <;> rfl
def floatT (P : Program) (d : TypeId) : Bool :=
  match P.underlying d with
  | some (.float _) => true
  | some (.complex _) => true
  | _ => false
noncomputable def sop (P : Program) (o : Op) (ev : Operand → V) (h : AH) : Option (V × AH) :=
  match o with
  | .move x => some (ev x, h)
  | .assign x => some (ev x, h)
  | .pick c a b => match ev c with
    | .bool t => some (pickV t (ev a) (ev b), h)
    | _ => none
  | .alloc t => absAlloc P t h
  | .box t x => absBox t (ev x) h
  | .build t ps => (absBuild P t (ps.toList.map fun p => (p.1, ev p.2))).map fun v => (v, h)
  | .buildSlice t n ps => absBuildSlice P t n (ps.toList.map fun p => (p.1, ev p.2)) h
  | .load t a => (absLoad P t (ev a) h).map fun v => (v, h)
  | .store t a x => (absStore P t (ev a) (ev x) h).map fun h' => (.bad, h')
  | .nilCheck x => (absNilCheck (ev x)).map fun v => (v, h)
  | .binOp op t x y _ => (absBin P op t x y (ev x) (ev y)).map fun v => (v, h)
  | .unOp op _ x => (absUn op (ev x)).map fun v => (v, h)
  | .convert s d x =>
    match absUnsafePtr P s d (ev x) h with
    | some v => some (v, h)
    | none => match absConvNum P s d (ev x) with
      | some v => some (v, h)
      | none => bif floatT P d then none else absConvert P s d (ev x) h
  | .makeMap t none => absMakeMap P h
  | .makeMap t (some r) => match P.underlying t, ev r with
    | some (.map _ _), .int _ _ => absMakeMap P h
    | _, _ => none
  | .lookup t m k ok => (absLookup P t (ev m) (ev k) ok h).map fun v => (v, h)
  | .mapUpdate t m k x => (absMapUpdate P t (ev m) (ev k) (ev x) h).map fun h' => (.bad, h')
  | .insert t m k x => (absMapUpdate P t (ev m) (ev k) (ev x) h).map fun h' => (.bad, h')
  | .mapEntry t m k => absMapEntry P t (ev m) (ev k) h
  | .entryStore t m s x => (absEntryStore (ev m) (ev s) (ev x) h).map fun h' => (.bad, h')
  | .sliceToArrayPointer t x => (absArrayAt P t (ev x)).map fun v => (v, h)
  | .makeInterface t x => (absMakeIface P t (ev x)).map fun v => (v, h)
  | .makeFunc fn fs cs => (absMakeFunc fn (fs.toList.map ev) (cs.toList.map ev)).map fun v => (v, h)
  | .makeSlice t l c => absMakeSlice P t (ev l) (ev c) h
  | .slice t x lo hi mx => (absSlice P t (ev x) (lo.map ev) (hi.map ev) (mx.map ev) h).map fun v => (v, h)
  | .fieldAddr t x f => (absFieldAddr P t (ev x) f).map fun v => (v, h)
  | .field t x f => (absField P t (ev x) f).map fun v => (v, h)
  | .indexAddr t x i => (absIndexAddr P t (ev x) (ev i)).map fun v => (v, h)
  | .index t x i => (absIndex P t (ev x) (ev i)).map fun v => (v, h)
  | .typeAssert x _ t ok => (absAssert P (ev x) t ok).map fun v => (v, h)
  | .extract x i => (absExtract (ev x) i).map fun v => (v, h)
  | .call { callee := .builtin b, args, argTypes } => absBuiltin P b argTypes.toList (args.toList.map ev) h
  | .range t x => absRange P t (ev x) h
  | .next x b => absNext (ev x) b h
  | .entry x => (absEntry (ev x) h).map fun v => (v, h)
  | _ => none
theorem RL_map {ρ : Rho} {ev : Operand → V} {ρc : Operand → Value} (he : ∀ x, R ρ (ev x) (ρc x)) : ∀ l : List Operand, RL ρ (l.map ev) (l.map ρc) := by
  intro l
  induction l with
  | nil => exact rfl
  | cons x l ih => exact ⟨_, _, rfl, he x, ih⟩
theorem OR_map {ρ : Rho} {ev : Operand → V} {ρc : Operand → Value} (he : ∀ x, R ρ (ev x) (ρc x)) (o : Option Operand) : OR ρ (o.map ev) (o.map ρc) := by
  cases o with
  | none => exact .none
  | some x => exact .some (he x)
theorem parts_map {ρ : Rho} {ev : Operand → V} {ρc : Operand → Value} (he : ∀ x, R ρ (ev x) (ρc x)) (ps : Array (Nat × Operand)) : (ps.toList.map fun p => (p.1, ev p.2)).map (·.1) = (ps.map fun (i, x) => (i, ρc x)).toList.map (·.1) ∧
    RL ρ ((ps.toList.map fun p => (p.1, ev p.2)).map (·.2)) ((ps.map fun (i, x) => (i, ρc x)).toList.map (·.2)) := by
  constructor
  · simp
  · have := RL_map he (ps.toList.map (·.2))
    simpa [Function.comp_def] using this
theorem map_some {α β : Type} {o : Option α} {f : α → β} {b : β} (h : o.map f = some b) : ∃ a, o = some a ∧ f a = b := by
  cases o with
  | none => cases h
  | some a => exact ⟨a, rfl, Option.some.inj h⟩
theorem sop_sound {P : Program} {ρ : Rho} {h h' : AH} {w : World} {o : Oper} {ev : Operand → V} {ρc : Operand → Value} {v : V} (hr : HR ρ h w) (he : ∀ x, R ρ (ev x) (ρc x)) (hs : sop P o.op ev h = some (v, h')) : SimN P ρ h w (execOp ρc o) v h' := by
  obtain ⟨dst, op, ty, pos, after, guard⟩ := o
  simp only at hs
  unfold sop at hs
  split at hs
  · cases hs; exact ⟨_, _, w, ρ, rfl, .inl rfl, he _, hr, Step.refl ρ h w⟩
  · cases hs; exact ⟨_, _, w, ρ, rfl, .inl rfl, he _, hr, Step.refl ρ h w⟩
  · rename_i c a b
    split at hs
    · rename_i t hc
      cases hs
      have := he c
      rw [hc] at this
      have hc' : ρc c = .bool t := this
      refine ⟨_, if t then ρc a else ρc b, w, ρ, ?_, .inl rfl, ?_, hr, Step.refl ρ h w⟩
      · simp only [execOp, hc', asBool, Sem.run_bind, Sem.run_pure, Result.andThen_ok]
      · rw [pickV_eq]; cases t <;> exact he _
    · cases hs
  · exact .of (alloc_sound hr hs)
  · exact .of (box_sound hr (he _) hs)
  · obtain ⟨v', h1, h2⟩ := map_some hs
    cases h2
    obtain ⟨g1, g2⟩ := parts_map he _
    exact .pure hr (build_sound g1 g2 h1 w)
  · obtain ⟨g1, g2⟩ := parts_map he _
    exact .of (buildSlice_sound hr g1 g2 hs)
  · obtain ⟨v', h1, h2⟩ := map_some hs
    cases h2
    exact .pure hr (load_sound hr (he _) h1)
  · obtain ⟨v', h1, h2⟩ := map_some hs
    cases h2
    obtain ⟨w', g1, g2, g3⟩ := store_sound hr (he _) (he _) h1
    exact ⟨.skip, undef, w', ρ, by simp only [execOp, Sem.run_bind, g1, Result.andThen_ok, Sem.run_pure], .inr ⟨rfl, rfl⟩, trivial, g2, g3⟩
  · rename_i x
    obtain ⟨v', h1, h2⟩ := map_some hs
    cases h2
    refine ⟨.value (ρc x), ρc x, w, ρ, ?_, .inl rfl, ?_, hr, Step.refl ρ h w⟩
    · have hx := he x
      unfold absNilCheck at h1
      generalize ev x = y at h1 hx
      simp only [execOp]
      cases y <;> simp only [reduceCtorEq] at h1
      case bool => rw [show ρc x = _ from hx]; rfl
      case int => rw [show ρc x = _ from hx]; rfl
      case str => obtain ⟨_, e, _⟩ := hx; rw [e]; rfl
      case ptr => obtain ⟨_, e, _⟩ := hx; rw [e]; rfl
      case slice => obtain ⟨_, _, _, _, e, _⟩ := hx; rw [e]; rfl
      case nilslice => rw [show ρc x = _ from hx]; rfl
      case loose => obtain ⟨_, _, e⟩ := hx; rw [e]; rfl
      case func => obtain ⟨_, _, e, _⟩ := hx; rw [e]; rfl
      case iface => obtain ⟨_, e, _⟩ := hx; rw [e]; rfl
      case agg => obtain ⟨_, e, _⟩ := hx; rw [e]; rfl
      case tuple => obtain ⟨_, e, _⟩ := hx; rw [e]; rfl
      case mapv => obtain ⟨_, _, e, _⟩ := hx; rw [e]; rfl
      case complex => rw [show ρc x = _ from hx]; rfl
      case float => rw [show ρc x = _ from hx]; rfl
      case yield => obtain ⟨_, _, e, _⟩ := hx; rw [e]; rfl
    · have hx := he x
      unfold absNilCheck at h1
      split at h1 <;> first | (cases h1; done) | (cases h1; exact hx)
  · obtain ⟨v', h1, h2⟩ := map_some hs
    cases h2
    exact .pure hr (bin_sound (he _) (he _) h1 w)
  · obtain ⟨v', h1, h2⟩ := map_some hs
    cases h2
    exact .pure hr (un_sound (he _) h1 w)
  · split at hs
    · rename_i v' h1; cases hs; exact .pure hr (unsafePtr_sound hr (he _) h1)
    · split at hs
      · rename_i v' h1; cases hs; exact .pure hr (convNum_sound (he _) h1 w)
      · generalize floatT P _ = fl at hs
        cases fl with
        | true => cases hs
        | false => exact .of (convert_sound hr (he _) hs)
  · exact .of (makeMap_sound hr hs)
  · rename_i t r
    split at hs
    · rename_i kt et k n hu hn
      have hrr := he r
      rw [hn] at hrr
      have hrr' : ρc r = .int k n := hrr
      have := makeMap_sound' (k := k) (n := n) hu hr hs
      rw [← hrr'] at this
      exact .of this
    · cases hs
  · obtain ⟨v', h1, h2⟩ := map_some hs
    cases h2
    exact .pure hr (lookup_sound hr (he _) (he _) h1)
  · obtain ⟨v', h1, h2⟩ := map_some hs
    cases h2
    obtain ⟨w', g1, g2, g3⟩ := mapUpdate_sound hr (he _) (he _) (he _) h1
    exact ⟨.skip, undef, w', ρ, by simp only [execOp, Sem.run_bind, g1, Result.andThen_ok, Sem.run_pure], .inr ⟨rfl, rfl⟩, trivial, g2, g3⟩
  · obtain ⟨v', h1, h2⟩ := map_some hs
    cases h2
    obtain ⟨w', g1, g2, g3⟩ := mapUpdate_sound hr (he _) (he _) (he _) h1
    exact ⟨.skip, undef, w', ρ, by simp only [execOp, Sem.run_bind, g1, Result.andThen_ok, Sem.run_pure], .inr ⟨rfl, rfl⟩, trivial, g2, g3⟩
  · exact .of (mapEntry_sound hr (he _) (he _) hs)
  · obtain ⟨v', h1, h2⟩ := map_some hs
    cases h2
    obtain ⟨w', g1, g2, g3⟩ := entryStore_sound (P := P) (t := by assumption) hr (he _) (he _) (he _) h1
    exact ⟨.skip, undef, w', ρ, by simp only [execOp, Sem.run_bind, g1, Result.andThen_ok, Sem.run_pure], .inr ⟨rfl, rfl⟩, trivial, g2, g3⟩
  · obtain ⟨v', h1, h2⟩ := map_some hs
    cases h2
    exact .pure hr (arrayAt_sound (he _) h1 w)
  · rename_i t x
    obtain ⟨v', h1, h2⟩ := map_some hs
    cases h2
    unfold absMakeIface at h1
    refine .pure hr ?_
    split at h1
    · cases h1
    · rename_i d hd hu
      cases h1
      refine ⟨.iface t (ρc x), ?_, _, rfl, he _⟩
      unfold Instr.makeInterface
      simp only [Sem.run_bind, run_underlying hu, Result.andThen_ok]
      rfl
    · cases h1
  · rename_i fn fs cs
    obtain ⟨v', h1, h2⟩ := map_some hs
    cases h2
    unfold absMakeFunc at h1
    split at h1
    · cases h1
      refine .pure hr ⟨.func (.func _) (fs.map ρc) (cs.map ρc), rfl, _, _, rfl, ?_, ?_⟩
      · rw [Array.toList_map]; exact RL_map he _
      · rw [Array.toList_map]; exact RL_map he _
    · cases h1
  · exact .of (makeSlice_sound hr (he _) (he _) hs)
  · obtain ⟨v', h1, h2⟩ := map_some hs
    cases h2
    exact .pure hr (slice_sound hr (he _) (OR_map he _) (OR_map he _) (OR_map he _) h1)
  · obtain ⟨v', h1, h2⟩ := map_some hs
    cases h2
    exact .pure hr (fieldAddr_sound (he _) h1 w)
  · obtain ⟨v', h1, h2⟩ := map_some hs
    cases h2
    exact .pure hr (field_sound (he _) h1 w)
  · obtain ⟨v', h1, h2⟩ := map_some hs
    cases h2
    exact .pure hr (indexAddr_sound (he _) (he _) h1 w)
  · obtain ⟨v', h1, h2⟩ := map_some hs
    cases h2
    exact .pure hr (index_sound (he _) (he _) h1 w)
  · obtain ⟨v', h1, h2⟩ := map_some hs
    cases h2
    exact .pure hr (assert_sound (he _) h1 w)
  · obtain ⟨v', h1, h2⟩ := map_some hs
    cases h2
    exact .pure hr (extract_sound (he _) h1 w)
  · rename_i b args ats
    have := builtin_sound (P := P) (ty := ty) (cs := args.map fun | .const _ => true | _ => false) (args := args.map ρc) hr (by rw [Array.toList_map]; exact RL_map he _) hs
    exact this
  · exact .of (range_sound hr (he _) hs)
  · exact .of (next_sound hr (he _) hs)
  · obtain ⟨v', h1, h2⟩ := map_some hs
    cases h2
    exact .pure hr (entry_sound hr (he _) h1)
  · cases hs
end Go.Proofs.YtcphjmgfgfjnpaaGreatDoor.Ev
namespace Go.Proofs.YtcphjmgfgfjnpaaGreatDoor.Ev
open Go
def undefV : V := .tuple []
theorem undefV_R (ρ : Rho) : R ρ undefV undef := ⟨_, rfl, rfl⟩
structure FO where
  F : Type
  get : F → Nat → V
  set : F → Nat → V → F
  ini : List V → F
  get_set : ∀ f i j v, get (set f i v) j = if j = i then v else get f j
  get_ini : ∀ l i, get (ini l) i = l.getD i .bad
  keepK : Nat → F → (F → Option (V × AH)) → Option (V × AH)
  keepK_spec : ∀ key f K, keepK key f K = none ∨ ∃ f', keepK key f K = K f' ∧ ∀ i, get f' i = get f i ∨ get f' i = .bad
def foFun : FO where
  F := Nat → V
  get := fun f i => f i
  set := fun f i v j => bif Nat.beq j i then v else f j
  ini := fun l i => l.getD i .bad
  get_set := fun f i j v => by
    by_cases h : j = i
    · subst h; simp
    · have hb : Nat.beq j i = false := by
        cases hb : Nat.beq j i with
        | false => rfl
        | true => exact absurd (Nat.eq_of_beq_eq_true hb) h
      simp only [hb, cond_false, if_neg h]
  get_ini := fun _ _ => rfl
  keepK := fun _ f K => K f
  keepK_spec := fun _ f _ => .inr ⟨f, rfl, fun _ => .inl rfl⟩
structure Cfg where
  P : Program
  G : Nat → Option Nat
  C : FuncId → List V → AH → Option (V × AH)
  X : FuncId → List V → AH → Option (V × AH)
  hint : Op → Option (Int × (Int → Bool))
abbrev Res := Option (V × AH)
inductive Ck : Type where
  | any
  | int (k : IntKind)
  | bool
  | str
  | agg
def Ck.ty : Ck → Type
  | .any => V
  | .int _ => Int
  | .bool => Bool
  | .str => List Nat
  | .agg => List V
def Ck.val : (c : Ck) → c.ty → V
  | .any, x => x
  | .int k, x => .int k x
  | .bool, x => .bool x
  | .str, x => .str x
  | .agg, x => .agg x
noncomputable def ckI (k : IntKind) (v : V) (K : Int → Res) : Res :=
  match v with
  | .int k' n => if k' = k then K n else none
  | _ => none
noncomputable def ckB (v : V) (K : Bool → Res) : Res :=
  match v with
  | .bool b => K b
  | _ => none
noncomputable def ckS (v : V) (K : List Nat → Res) : Res :=
  match v with
  | .str s => K s
  | _ => none
noncomputable def ckA (v : V) (K : List V → Res) : Res :=
  match v with
  | .agg cs => K cs
  | _ => none
noncomputable def ckT : (c : Ck) → V → (c.ty → Res) → Res
  | .any, v, K => K v
  | .int k, v, K => ckI k v K
  | .bool, v, K => ckB v K
  | .str, v, K => ckS v K
  | .agg, v, K => ckA v K
noncomputable def chk (c : Ck) (v : V) (K : V → Res) : Res := ckT c v fun x => K (c.val x)
theorem ckT_some {c : Ck} {v : V} {K : c.ty → Res} {r : V × AH} (h : ckT c v K = some r) : ∃ x, v = c.val x ∧ K x = some r := by
  cases c
  case any => exact ⟨v, rfl, h⟩
  case int k =>
    have h' : ckI k v K = some r := h
    unfold ckI at h'
    split at h'
    · split at h'
      · rename_i hk; subst hk; exact ⟨_, rfl, h'⟩
      · cases h'
    · cases h'
  case bool =>
    have h' : ckB v K = some r := h
    unfold ckB at h'
    split at h'
    · exact ⟨_, rfl, h'⟩
    · cases h'
  case str =>
    have h' : ckS v K = some r := h
    unfold ckS at h'
    split at h'
    · exact ⟨_, rfl, h'⟩
    · cases h'
  case agg =>
    have h' : ckA v K = some r := h
    unfold ckA at h'
    split at h'
    · exact ⟨_, rfl, h'⟩
    · cases h'
theorem chk_some {c : Ck} {v : V} {K : V → Res} {r : V × AH} (h : chk c v K = some r) : K v = some r := by
  obtain ⟨x, rfl, h2⟩ := ckT_some h
  exact h2
def kindOf (P : Program) (t : TypeId) : Ck :=
  match P.underlying t with
  | some (.int k) => .int k
  | some .bool => .bool
  | some .string => .str
  | some (.struct _) | some (.array _ _) => .agg
  | _ => .any
def ckOf (P : Program) (o : Oper) : Ck :=
  match o.dst with
  | none => .any
  | some _ => kindOf P o.type
noncomputable def seeB (g : Bool) (v : V) (K : V → Res) : Res :=
  match g, v with
  | true, .bool b => bif b then K (.bool true) else K (.bool false)
  | _, v => K v
theorem seeB_eq (g : Bool) (v : V) (K : V → Res) : seeB g v K = K v := by
  unfold seeB
  split
  · rename_i b; cases b <;> rfl
  · rfl
def guards (ops : Array Oper) (i : Nat) : Bool := ops.toList.any fun o => match o.guard with
  | some (j, _) => Nat.beq j i
  | none => false
noncomputable def look (P : Program) (ops : Array Oper) (i : Nat) (o : Oper) (v : V) (K : V → Res) : Res := chk (ckOf P o) v fun v => seeB (guards ops i) v K
theorem look_some {P : Program} {ops : Array Oper} {i : Nat} {o : Oper} {v : V} {K : V → Res} {r : V × AH} (h : look P ops i o v K = some r) : K v = some r := by
  have := chk_some h
  rwa [seeB_eq] at this
noncomputable def concR (m : Int × (Int → Bool)) (r : Res) : Res :=
  match r with
  | some (.int k x, h) => bif m.2 x then some (.int k m.1, h) else none
  | _ => none
noncomputable def conc (o : Option (Int × (Int → Bool))) (r : Res) : Res := Option.rec r (fun m => concR m r) o
def HintOK (c : Cfg) : Prop := ∀ o m, c.hint o = some m → ∀ x, m.2 x = true → x = m.1
theorem conc_some {c : Cfg} (hH : HintOK c) {o : Op} {r : Res} {x : V × AH} (h : conc (c.hint o) r = some x) : r = some x := by
  cases ho : c.hint o with
  | none => rw [ho] at h; exact h
  | some m =>
    rw [ho] at h
    have h' : concR m r = some x := h
    unfold concR at h'
    split at h'
    · rename_i k y hh
      cases hy : m.2 y with
      | true => rw [hy] at h'; rw [hH o m ho y hy]; exact h'
      | false => rw [hy] at h'; cases h'
    · cases h'
theorem conc_of {c : Cfg} (hH : HintOK c) {o : Op} {r r' : Res} {v : V} {h h' : AH} (hc : conc (c.hint o) r = some (v, h)) (hr' : r' = some (v, h')) : conc (c.hint o) r' = some (v, h') := by
  have hr := conc_some hH hc
  subst hr hr'
  cases ho : c.hint o with
  | none => rfl
  | some m =>
    rw [ho] at hc
    have h1 : concR m (some (v, h)) = some (v, h) := hc
    show concR m (some (v, h')) = some (v, h')
    unfold concR at h1 ⊢
    split at h1
    · rename_i k y hh he
      cases he
      cases hy : m.2 y with
      | true => rw [hy] at h1; have h2 : V.int k m.1 = V.int k y := (Prod.mk.inj (Option.some.inj h1)).1; simp only [hy, cond_true, h2]
      | false => rw [hy] at h1; cases h1
    · cases h1
section
variable (c : Cfg) (fo : FO)
def evO (fr : fo.F) : Operand → V
  | .tmp t => fo.get fr t
  | .const v => absC v
  | .global g => match c.G g with
    | some L => .ptr ⟨g, L, 0⟩
    | none => .bad
  | .func f => .func f [] []
def putF (N : Nat) (fr : fo.F) (d : Option Nat) (v : V) : fo.F :=
  match d with
  | some d => bif Nat.blt d N then fo.set fr d v else fr
  | none => fr
noncomputable def callee (ev : Operand → V) (cl : Call) (h : AH) : Option (FuncId × List V) :=
  match cl.callee with
  | .value f => match ev f with
    | .func f fs cs => some (f, fs ++ cl.args.toList.map ev ++ cs)
    | _ => none
  | .invoke r name => match ev r with
    | .iface t v =>
      match c.P.info? t with
      | none => none
      | some i =>
        match i.methods.find? (·.name == name) with
        | none => none
        | some m =>
          if m.path.isEmpty then
            match m.func, c.P.underlying t with
            | some (f, true), some (.pointer _) => some (f, v :: cl.args.toList.map ev)
            | some (f, false), some (.pointer e) => (absLoad c.P e v h).map fun u => (f, u :: cl.args.toList.map ev)
            | some (f, false), some _ => some (f, v :: cl.args.toList.map ev)
            | _, _ => none
          else none
    | _ => none
  | .builtin _ => none
def hasBody (f : FuncId) : Option Bool :=
  match c.P.funcs[f]? with
  | none => none
  | some fn => if fn.name == "runtime.NumGoroutine" then none else some fn.body.isSome
noncomputable def callV (f : FuncId) (args : List V) (h : AH) : Res :=
  match hasBody c f with
  | some true => c.C f args h
  | some false => c.X f args h
  | none => none
noncomputable def quietV (f : FuncId) (args : List V) (h : AH) : Res :=
  match callV c f args ⟨h.next, h.next, h.m⟩ with
  | none => none
  | some (v, h1) => if h.next ≤ h1.low then some (v, ⟨h1.next, h.low, h1.m⟩) else none
def isCall : Op → Option Call
  | .call cl => match cl.callee with
    | .builtin _ => none
    | _ => some cl
  | _ => none
noncomputable def stepV (quiet : Bool) (o : Op) (ev : Operand → V) (h : AH) : Res :=
  match isCall o with
  | some cl =>
    match callee c ev cl h with
    | some (f, args) => if quiet then quietV c f args h else callV c f args h
    | none => none
  | none => conc (c.hint o) (sop c.P o ev h)
def wantedV (ops : Array Oper) (o : Oper) (fr : fo.F) : Option Bool :=
  match o.guard with
  | none => some true
  | some (j, want) =>
    match (ops[j]?).bind (·.dst) with
    | none => some false
    | some d =>
      match fo.get fr d with
      | .bool b => some (b == want)
      | .bad => none
      | _ => some false
end
def GOK (c : Cfg) (ρ : Rho) : Prop := ∀ g L, c.G g = some L → ∃ S, ρ g L = some (g, 0, S)
theorem GOK.mono {c : Cfg} {ρ ρ' : Rho} (h : GOK c ρ) (hle : ρ.le ρ') : GOK c ρ' := fun g L hg => let ⟨S, hS⟩ := h g L hg; ⟨S, hle _ _ _ hS⟩
def FR (fo : FO) (ρ : Rho) (fr : fo.F) (tmps : Array Value) : Prop := ∀ t, R ρ (fo.get fr t) (tmps.getD t undef)
theorem FR.mono {fo : FO} {ρ ρ' : Rho} {fr : fo.F} {tmps : Array Value} (h : FR fo ρ fr tmps) (hle : ρ.le ρ') : FR fo ρ' fr tmps := fun t => (h t).mono hle
theorem FR.put {fo : FO} {ρ : Rho} {fr : fo.F} {a : Act} (h : FR fo ρ fr a.tmps) {N : Nat} (hN : a.tmps.size = N) (d : Option Nat) {v : V} {u : Value} (hR : R ρ v u) : FR fo ρ (putF fo N fr d v) (a.put d u).tmps := by
  cases d with
  | none => exact h
  | some d =>
    intro t
    unfold putF Act.put
    simp only [Array.getD_eq_getD_getElem?]
    rw [Arr.blt_eq]
    by_cases hd : d < N
    · simp only [hd, decide_true, cond_true, fo.get_set, Array.getElem?_setIfInBounds]
      by_cases ht : t = d
      · subst ht; rw [if_pos rfl, if_pos rfl, if_pos (by omega)]; exact hR
      · rw [if_neg ht, if_neg (fun e => ht e.symm)]
        have := h t
        rwa [Array.getD_eq_getD_getElem?] at this
    · simp only [hd, decide_false, cond_false, Array.getElem?_setIfInBounds]
      have := h t
      rw [Array.getD_eq_getD_getElem?] at this
      by_cases ht : d = t
      · subst ht; rw [if_pos rfl, if_neg (by omega)]
        rw [Array.getElem?_eq_none (by omega)] at this
        exact this
      · rw [if_neg ht]; exact this
theorem put_size (a : Act) (d : Option Tmp) (u : Value) : (a.put d u).tmps.size = a.tmps.size := by cases d <;> simp [Act.put]
theorem put_defers (a : Act) (d : Option Tmp) (u : Value) : (a.put d u).defers = a.defers := by cases d <;> simp [Act.put]
theorem evO_R {c : Cfg} {fo : FO} {ρ : Rho} {fr : fo.F} {a : Act} (hg : GOK c ρ) (h : FR fo ρ fr a.tmps) : ∀ x, R ρ (evO c fo fr x) (a.eval x) := by
  intro x
  cases x with
  | tmp t => exact h t
  | const v => exact absC_R ρ v
  | global g =>
    simp only [evO]
    cases hG : c.G g with
    | none => trivial
    | some L =>
      obtain ⟨S, hS⟩ := hg g L hG
      exact ⟨_, rfl, g, 0, S, hS, Int.le_refl _, rfl⟩
  | func f => exact ⟨_, _, rfl, rfl, rfl⟩
def CSound (c : Cfg) : Prop := ∀ (ρ : Rho) (h : AH) (w : World) (f : FuncId) (args : List V) (args' : List Value) (v : V) (h' : AH), GOK c ρ → HR ρ h w → RL ρ args args' → c.C f args h = some (v, h') →
  Calls c.P f args'.toArray w fun e w' => ∃ u ρ', e = .returned u ∧ R ρ' v u ∧ HR ρ' h' w' ∧ Step ρ h w ρ' h' w'
def XRun (c : Cfg) : Prop := ∀ (ρ : Rho) (h : AH) (w : World) (f : FuncId) (args : List V) (args' : List Value) (v : V) (h' : AH), HR ρ h w → RL ρ args args' → c.X f args h = some (v, h') → SimN c.P ρ h w (callFunc f args'.toArray) v h'
def XSound (c : Cfg) : Prop := XRun c ∧ HintOK c
theorem callee_sound {c : Cfg} {ρ : Rho} {m0 : AH} {w : World} (hr : HR ρ m0 w) {ev : Operand → V} {ρc : Operand → Value} {cl : Call} {f : FuncId} {args : List V} {ty : TypeId} (he : ∀ x, R ρ (ev x) (ρc x)) (h : callee c ev cl m0 = some (f, args)) :
    ∃ args' : List Value, RL ρ args args' ∧ (do let d ← resolve ρc cl ty; invoke d.target d.args : Sem Next).run c.P w = (callFunc f args'.toArray).run c.P w := by
  unfold callee at h
  have hargs : RL ρ (cl.args.toList.map ev) (cl.args.toList.map ρc) := RL_map he _
  split at h
  · rename_i fo hcl
    split at h
    · rename_i f' fs cs hf
      cases h
      have hR := he fo
      rw [hf] at hR
      obtain ⟨xs, ys, hv, h1, h2⟩ := hR
      refine ⟨xs.toList ++ cl.args.toList.map ρc ++ ys.toList, (h1.append hargs).append h2, ?_⟩
      unfold resolve
      simp only [hcl, hv, Deferred.ofValue, Sem.run_bind, Sem.run_pure, Result.andThen_ok, invoke]
      congr 2
      apply Array.ext'
      simp
    · cases h
  · rename_i r name hcl
    split at h
    · rename_i t v hrv
      have hR := he r
      rw [hrv] at hR
      obtain ⟨y, hy, hRy⟩ := hR
      split at h
      · cases h
      · rename_i i hi
        split at h
        · cases h
        · rename_i m hm
          split at h
          · rename_i hp
            have hpe : m.path.toList = [] := by
              have : m.path = #[] := by simpa using hp
              rw [this]
            have hstep : ∀ (f : FuncId) (b : Bool) (yy : Value), m.func = some (f, b) → ((receiverAt t (.val y) b (if m.path.isEmpty then some ((name.splitOn ".").getLastD name) else none)).run c.P w = .ok yy w) →
                (do let d ← resolve ρc cl ty; invoke d.target d.args : Sem Next).run c.P w = (callFunc f (yy :: cl.args.toList.map ρc).toArray).run c.P w := by
              intro f b yy hf hrec
              unfold resolve
              simp only [hcl, hy, Sem.run_bind, Sem.run_pure, Result.andThen_ok, invoke]
              have h0 : (#[Value.iface t y] ++ Array.map ρc cl.args)[0]? = some (.iface t y) := by rw [Array.getElem?_append_left (by simp)]; rfl
              rw [h0]
              simp only [callMethod, Sem.run_bind, run_program, Result.andThen_ok]
              obtain ⟨k, hk⟩ : ∃ k, c.P.types.size + Made.depth = k + 1 := ⟨c.P.types.size + Made.depth - 1, by have h00 : 0 < Made.depth := (by decide); omega⟩
              rw [hk]
              unfold method
              simp only [Sem.run_bind, typeInfo, run_program, hi, Sem.run_pure, Result.andThen_ok, hm, hpe, follow, hf, hrec]
              congr 2
              apply Array.ext'
              simp [List.take_of_length_le]
            split at h
            · rename_i f' e hf hu
              cases h
              refine ⟨y :: cl.args.toList.map ρc, ⟨_, _, rfl, hRy, hargs⟩, hstep _ _ _ hf ?_⟩
              unfold receiverAt
              simp only [Sem.run_bind, run_underlying hu, Result.andThen_ok, Place.get, Sem.run_pure]
            · rename_i f' e hf hu
              cases hl : absLoad c.P e v m0 with
              | none => rw [hl] at h; cases h
              | some u0 =>
                rw [hl] at h
                cases h
                obtain ⟨u, k1, k2⟩ := load_sound hr hRy hl
                refine ⟨u :: cl.args.toList.map ρc, ⟨_, _, rfl, k2, hargs⟩, hstep _ _ _ hf ?_⟩
                have hpt : ∃ c0, y = .pointer (some c0) := by
                  unfold absLoad at hl
                  split at hl
                  · obtain ⟨c0, e0, _⟩ := hRy; exact ⟨c0, e0⟩
                  · cases hl
                obtain ⟨c0, rfl⟩ := hpt
                have hpi : m.path.isEmpty = true := hp
                unfold receiverAt
                have hck : ∀ nm : String, (Builtin.ssaWrapNilChk_ #[t] t #[.pointer (some c0), strVal "", strVal nm]).run c.P w = .ok (.pointer (some c0)) w := fun nm => rfl
                simp only [Sem.run_bind, run_underlying hu, Result.andThen_ok, Place.get, Sem.run_pure, hpi, if_true, hck]
                exact k1
            · rename_i f' d hd hf hu
              cases h
              refine ⟨y :: cl.args.toList.map ρc, ⟨_, _, rfl, hRy, hargs⟩, hstep _ _ _ hf ?_⟩
              unfold receiverAt
              simp only [Sem.run_bind, run_underlying hu, Result.andThen_ok]
              cases d <;> first | exact absurd rfl (hd _) | rfl
            · cases h
          · cases h
    · cases h
  · cases h
theorem callFunc_body {P : Program} {f : FuncId} {fn : Func} (h : P.funcs[f]? = some fn) (hn : (fn.name == "runtime.NumGoroutine") = false) (hb : fn.body.isSome = true) (args : Array Value) (w : World) : (callFunc f args).run P w = .ok (.enter f args) w := by
  unfold callFunc
  have : fn.body.isNone = false := by cases hh : fn.body with | none => rw [hh] at hb; cases hb | some => rfl
  simp only [Sem.run_bind, run_program, Result.andThen_ok, h, hn, this, Bool.false_eq_true, if_false, Sem.run_pure]
theorem callV_wp {c : Cfg} (hC : CSound c) (hX : XSound c) {ρ : Rho} {h h' : AH} {w : World} {f : FuncId} {args : List V} {args' : List Value} {v : V} (hg : GOK c ρ) (hr : HR ρ h w) (hR : RL ρ args args') (hs : callV c f args h = some (v, h'))
    {o : Oper} {a : Act} {next : Act → World → Prop} {Q : Exit → Act → World → Prop} (hn : ∀ u w' ρ', R ρ' v u → HR ρ' h' w' → Step ρ h w ρ' h' w' → next (a.put o.dst u) w') :
    o.upon c.P a next Q ((callFunc f args'.toArray).run c.P w) := by
  unfold callV at hs
  cases hb : hasBody c f with
  | none => rw [hb] at hs; cases hs
  | some b =>
    rw [hb] at hs
    unfold hasBody at hb
    split at hb
    · cases hb
    · rename_i fn hfn
      split at hb
      · cases hb
      · rename_i hname
        cases b with
        | true =>
          rw [callFunc_body hfn (by simpa using hname) (Option.some.inj hb)]
          simp only [Oper.upon]
          refine (hC ρ h w f args args' v h' hg hr hR hs).mono ?_
          rintro e w' ⟨u, ρ', rfl, h1, h2, h3⟩
          exact hn u w' ρ' h1 h2 h3
        | false =>
          obtain ⟨n, u, w', ρ', h1, h2, h3, h4, h5⟩ := hX.1 ρ h w f args args' v h' hr hR hs
          rw [h1]
          rcases h2 with rfl | ⟨rfl, rfl⟩
          · exact hn u w' ρ' h3 h4 h5
          · exact hn undef w' ρ' h3 h4 h5
theorem HR.low {ρ : Rho} {h : AH} {w : World} (hr : HR ρ h w) (l : Nat) : HR ρ ⟨h.next, l, h.m⟩ w := ⟨hr.fresh, hr.lives, hr.bound, hr.inj, hr.top, hr.blk, hr.obj⟩
theorem stepV_wp {c : Cfg} (hC : CSound c) (hX : XSound c) {ρ : Rho} {h h' : AH} {w : World} {quiet : Bool} {o : Oper} {a : Act} {ev : Operand → V} {v : V} (hg : GOK c ρ) (hr : HR ρ h w) (he : ∀ x, R ρ (ev x) (a.eval x)) (hs : stepV c quiet o.op ev h = some (v, h'))
    {next : Act → World → Prop} {Q : Exit → Act → World → Prop} (hn : ∀ u w' ρ', R ρ' v u → HR ρ' h' w' → Step ρ h w ρ' h' w' → next (a.put o.dst u) w') : o.wp c.P a w next Q := by
  unfold stepV at hs
  unfold Oper.wp
  split at hs
  · rename_i cl hcl
    have hop : o.op = .call cl := by
      unfold isCall at hcl
      split at hcl
      · split at hcl
        · cases hcl
        · cases hcl; assumption
      · cases hcl
    split at hs
    · rename_i f args hcall
      obtain ⟨args', hRL, hrun⟩ := callee_sound (ty := o.type) hr he hcall
      have hrun' : (execOp a.eval o).run c.P w = (callFunc f args'.toArray).run c.P w := by
        rw [← hrun]
        unfold execOp
        rw [hop]
      rw [hrun']
      split at hs
      · unfold quietV at hs
        cases hq : callV c f args ⟨h.next, h.next, h.m⟩ with
        | none => rw [hq] at hs; cases hs
        | some x =>
          obtain ⟨v1, h1⟩ := x
          rw [hq] at hs
          simp only at hs
          split at hs
          · rename_i hlow
            cases hs
            refine callV_wp hC hX hg (hr.low h.next) hRL hq ?_
            intro u w' ρ' g1 g2 g3
            refine hn u w' ρ' g1 (g2.low h.low) ?_
            exact ⟨g3.le, g3.cons, g3.ro, g3.next, g3.os, g3.tape, g3.output, g3.size, g3.keep, Nat.le_refl _, fun b _ hb => g3.quiet b (Nat.lt_of_lt_of_le hb hlow) hb, fun b hb hn => g3.abs b hb hn⟩
          · cases hs
      · exact callV_wp hC hX hg hr hRL hs hn
    · cases hs
  · obtain ⟨n, u, w', ρ', h1, h2, h3, h4, h5⟩ := sop_sound hr he (conc_some hX.2 hs)
    rw [h1]
    rcases h2 with rfl | ⟨rfl, rfl⟩
    · exact hn u w' ρ' h3 h4 h5
    · exact hn undef w' ρ' h3 h4 h5
theorem wantedV_sound {fo : FO} {ρ : Rho} {ops : Array Oper} {o : Oper} {fr : fo.F} {a : Act} {b : Bool} (h : FR fo ρ fr a.tmps) (hw : wantedV fo ops o fr = some b) : Region.wanted o (yielded ops a.tmps) = b := by
  unfold wantedV at hw
  unfold Region.wanted
  split at hw
  · rename_i hgd; rw [hgd]; exact Option.some.inj hw
  · rename_i j want hgd
    rw [hgd]
    simp only
    unfold yielded
    split at hw
    · rename_i hd; rw [hd]; simp only [Option.bind_none]; cases hw; rfl
    · rename_i d hd
      rw [hd]
      simp only [Option.bind_some]
      have hR := h d
      rw [Array.getD_eq_getD_getElem?] at hR
      split at hw
      · rename_i b' hv
        rw [hv] at hR
        cases hg : a.tmps[d]? with
        | none => rw [hg] at hR; simp only [Option.getD_none] at hR; cases (show undef = .bool b' from hR)
        | some u => rw [hg] at hR; simp only [Option.getD_some] at hR; rw [show u = _ from hR]; cases hw; cases b' <;> cases want <;> rfl
      · cases hw
      · rename_i hv hbad
        cases hw
        cases hg : a.tmps[d]? with
        | none => rfl
        | some u =>
          rw [hg] at hR
          simp only [Option.getD_some] at hR
          cases u with
          | bool b' =>
            exfalso
            have htag := R_tag hR (by cases hx : fo.get fr d <;> first | rfl | exact absurd hx hbad | (rw [hx] at hR; obtain ⟨_, _, hR⟩ := hR; cases hR))
            cases hx : fo.get fr d <;> rw [hx] at htag <;> first | (simp [valueTag, V.tag] at htag; done) | exact hv _ hx | (rw [hx] at hR; obtain ⟨_, _, hR⟩ := hR; cases hR)
          | _ => rfl
end Go.Proofs.YtcphjmgfgfjnpaaGreatDoor.Ev
namespace Go.Proofs.YtcphjmgfgfjnpaaGreatDoor.Ev
open Go
section
variable (c : Cfg) (fo : FO) (N : Nat) (ops : Array Oper) (qs : Nat → Bool)
noncomputable def runOps : List Nat → fo.F → AH → (fo.F → AH → Res) → Res
  | [], fr, h, k => k fr h
  | i :: is, fr, h, k =>
    match ops[i]? with
    | none => runOps is fr h k
    | some o =>
      match wantedV fo ops o fr with
      | none => none
      | some false => runOps is (putF fo N fr o.dst undefV) h k
      | some true =>
        match stepV c (qs i) o.op (evO c fo fr) h with
        | none => none
        | some (v, h') => look c.P ops i o v fun v => runOps is (putF fo N fr o.dst v) h' k
end
def Post (D : List Deferred) (c : Cfg) (fo : FO) (N : Nat) (ρ0 : Rho) (h0 : AH) (w0 : World) (r : V × AH) (k : fo.F → AH → Res) (Q : Act → World → Prop) : Prop :=
  ∀ (fr : fo.F) (h : AH) (a : Act) (w : World) (ρ : Rho), k fr h = some r → FR fo ρ fr a.tmps → a.tmps.size = N → a.defers = D → GOK c ρ → HR ρ h w → Step ρ0 h0 w0 ρ h w → Q a w
theorem Post.step {D : List Deferred} {c : Cfg} {fo : FO} {N : Nat} {ρ0 ρ1 : Rho} {h0 h1 : AH} {w0 w1 : World} {r : V × AH} {k : fo.F → AH → Res} {Q : Act → World → Prop} (hr : HR ρ0 h0 w0) (hs : Step ρ0 h0 w0 ρ1 h1 w1) (hp : Post D c fo N ρ0 h0 w0 r k Q) : Post D c fo N ρ1 h1 w1 r k Q :=
  fun fr h a w ρ hk hf hN hd hg hh hst => hp fr h a w ρ hk hf hN hd hg hh (Step.trans hr hs hst)
theorem runOps_wp {D : List Deferred} {c : Cfg} (hC : CSound c) (hX : XSound c) {fo : FO} {N : Nat} {ops : Array Oper} {qs : Nat → Bool} {Q : Exit → Act → World → Prop} {r : V × AH} {k : fo.F → AH → Res} : ∀ (l : List Nat) (ρ : Rho) (fr : fo.F) (h : AH) (a : Act) (w : World),
    runOps c fo N ops qs l fr h k = some r → FR fo ρ fr a.tmps → a.tmps.size = N → a.defers = D → GOK c ρ → HR ρ h w → Post D c fo N ρ h w r k (Q .normal) → wpOps c.P ops Q l a w := by
  intro l
  induction l with
  | nil =>
    intro ρ fr h a w hrun hf hN hd hg hr hp
    exact hp fr h a w ρ hrun hf hN hd hg hr (Step.refl _ _ _)
  | cons i is ih =>
    intro ρ fr h a w hrun hf hN hd hg hr hp
    unfold runOps at hrun
    unfold wpOps
    cases ho : ops[i]? with
    | none => rw [ho] at hrun; exact ih ρ fr h a w hrun hf hN hd hg hr hp
    | some o =>
      rw [ho] at hrun
      simp only at hrun ⊢
      cases hw : wantedV fo ops o fr with
      | none => rw [hw] at hrun; cases hrun
      | some b =>
        rw [hw] at hrun
        have hwant := wantedV_sound hf hw
        cases b with
        | false =>
          simp only [hwant, Bool.false_eq_true, if_false] at hrun ⊢
          exact ih ρ _ h _ w hrun (hf.put hN o.dst (undefV_R ρ)) (by rw [put_size]; exact hN) (by rw [put_defers]; exact hd) hg hr hp
        | true =>
          simp only [hwant, if_true] at hrun ⊢
          cases hs : stepV c (qs i) o.op (evO c fo fr) h with
          | none => rw [hs] at hrun; cases hrun
          | some x =>
            obtain ⟨v, h'⟩ := x
            rw [hs] at hrun
            replace hrun := look_some hrun
            refine .inl (stepV_wp hC hX hg hr (evO_R hg hf) hs ?_)
            intro u w' ρ' g1 g2 g3
            exact ih ρ' _ h' _ w' hrun ((hf.mono g3.le).put hN o.dst g1) (by rw [put_size]; exact hN) (by rw [put_defers]; exact hd) (hg.mono g3.le) g2 (hp.step hr g3)
def cls (P : Program) (o : Op) : Nat :=
  match o with
  | .move _ | .assign _ | .pick .. | .build .. | .nilCheck _ | .binOp .. | .unOp .. | .sliceToArrayPointer .. | .makeInterface .. | .makeFunc .. | .fieldAddr .. | .field .. | .indexAddr .. | .index .. | .typeAssert .. | .extract .. => 0
  | .load .. | .slice .. | .lookup .. => 1
  | .convert s d _ => bif floatT P d then 0 else
    match P.underlying s, P.underlying d with
    | _, some (.int _) => 0
    | some .string, some .string => 0
    | some (.slice _), some .string => 1
    | _, _ => 2
  | .call { callee := .builtin b, argTypes, .. } =>
    match b with
    | .len => match argTypes.toList with
      | [t] => match P.underlying t with
        | some (.map _ _) => 1
        | _ => 0
      | _ => 0
    | .real | .imag | .complex | .cap | .max | .min | .unsafeSliceData => 0
    | _ => 2
  | _ => 2
def blockOf : V → Option Nat
  | .ptr a => some a.b
  | .slice a _ _ _ _ => some a.b
  | .mapv b => some b
  | _ => none
theorem mapOf_same {h h2 : AH} {b : Nat} (he : h2.get b = h.get b) : mapOf h2 b = mapOf h b := by
  unfold mapOf; rw [he]
theorem readN_same {h h2 : AH} {a : A} {n : Nat} (he : h2.get a.b = h.get a.b) : readN h2 a n = readN h a n := by
  rw [readN_eq, readN_eq, he]
theorem loud_same {P : Program} {o : Op} {ev : Operand → V} {h h1 : AH} {v : V} (hc : cls P o ≠ 2) (hcall : isCall o = none) (hs : sop P o ev h = some (v, h1)) :
    h1 = h ∧ ∀ h2 : AH, (cls P o ≠ 0 → ∀ x b, blockOf (ev x) = some b → (h.get b).isSome = true → h2.get b = h.get b) → sop P o ev h2 = some (v, h2) := by
  have pureCase : ∀ (z : Option V), (z.map fun v => (v, h)) = some (v, h1) → h1 = h ∧ z = some v := by
    intro z hz
    cases z with
    | none => cases hz
    | some v' => cases hz; exact ⟨rfl, rfl⟩
  have outP : ∀ (z : Option V), (z.map fun v => (v, h)) = some (v, h1) → h1 = h ∧ ∀ h2 : AH, (cls P o ≠ 0 → ∀ x b, blockOf (ev x) = some b → (h.get b).isSome = true → h2.get b = h.get b) → (z.map fun v => (v, h2)) = some (v, h2) := by
    intro z hz
    obtain ⟨rfl, rfl⟩ := pureCase z hz
    exact ⟨rfl, fun h2 _ => rfl⟩
  cases o
  case move x => cases hs; exact ⟨rfl, fun _ _ => rfl⟩
  case assign x => cases hs; exact ⟨rfl, fun _ _ => rfl⟩
  case pick cc a b =>
    unfold sop at hs ⊢
    simp only at hs ⊢
    split at hs
    · cases hs; exact ⟨rfl, fun _ _ => rfl⟩
    · cases hs
  case build t ps => exact outP _ hs
  case nilCheck x => exact outP _ hs
  case binOp op t x y t2 => exact outP _ hs
  case unOp op t x => exact outP _ hs
  case sliceToArrayPointer t x => exact outP _ hs
  case makeInterface t x => exact outP _ hs
  case makeFunc f a b => exact outP _ hs
  case fieldAddr t x f => exact outP _ hs
  case field t x f => exact outP _ hs
  case indexAddr t x i => exact outP _ hs
  case index t x i => exact outP _ hs
  case typeAssert x t1 t2 ok => exact outP _ hs
  case extract x i => exact outP _ hs
  case load t x =>
    obtain ⟨rfl, hl⟩ := pureCase _ hs
    refine ⟨rfl, fun h2 hb => ?_⟩
    show ((absLoad P t (ev x) h2).map fun v => (v, h2)) = _
    have : absLoad P t (ev x) h2 = absLoad P t (ev x) h1 := by
      unfold absLoad
      cases hx : ev x with
      | ptr a =>
        have hsome : (h1.get a.b).isSome = true := by
          rw [hx] at hl
          unfold absLoad at hl
          cases hg : h1.get a.b with
          | some k => rfl
          | none =>
            exfalso
            have hr : ∀ n, readN h1 a n = none := fun n => by rw [readN_eq, hg]; rfl
            simp only [hr] at hl
            split at hl <;> cases hl
        have he := hb (by simp [cls]) x a.b (by rw [hx]; rfl) hsome
        simp only [readN_same he]
      | _ => rfl
    rw [this, hl]; rfl
  case slice t x lo hi mx =>
    obtain ⟨rfl, hl⟩ := pureCase _ hs
    refine ⟨rfl, fun h2 hb => ?_⟩
    show ((absSlice P t (ev x) _ _ _ h2).map fun v => (v, h2)) = _
    have : absSlice P t (ev x) (lo.map ev) (hi.map ev) (mx.map ev) h2 = absSlice P t (ev x) (lo.map ev) (hi.map ev) (mx.map ev) h1 := by
      unfold absSlice
      cases hx : ev x with
      | ptr a =>
        have hsome : ∀ n e, P.underlying t = some (.array n e) → (h1.get a.b).isSome = true := by
          intro n e hu
          rw [hx] at hl
          unfold absSlice at hl
          simp only [hu] at hl
          cases hg : h1.get a.b with
          | some k => rfl
          | none => rw [hg] at hl; cases hl
        cases hu : P.underlying t with
        | none => rfl
        | some d =>
          cases d with
          | array n e =>
            have he := hb (by simp [cls]) x a.b (by rw [hx]; rfl) (hsome n e hu)
            simp only [he]
          | _ => rfl
      | _ =>
        cases hu : P.underlying t with
        | none => rfl
        | some d => cases d <;> rfl
    rw [this, hl]; rfl
  case lookup t m k ok =>
    obtain ⟨rfl, hl⟩ := pureCase _ hs
    refine ⟨rfl, fun h2 hb => ?_⟩
    show ((absLookup P t (ev m) (ev k) ok h2).map fun v => (v, h2)) = _
    have : absLookup P t (ev m) (ev k) ok h2 = absLookup P t (ev m) (ev k) ok h1 := by
      cases hm : ev m with
      | mapv b =>
        have hsome : (h1.get b).isSome = true := by
          cases hg : h1.get b with
          | some k => rfl
          | none =>
            exfalso
            have hn : mapOf h1 b = none := by unfold mapOf; rw [hg]
            have hn2 : mapU h1 b = none := by unfold mapU; rw [hg]
            rw [hm] at hl
            unfold absLookup at hl
            split at hl
            · split at hl
              · simp only [hn, hn2] at hl; cases hl
              · cases hl
            · cases hl
        have hbb := hb (by simp [cls]) m b (by rw [hm]; rfl) hsome
        have he := mapOf_same hbb
        have he2 : mapU h2 b = mapU h1 b := by unfold mapU; rw [hbb]
        unfold absLookup
        simp only [he, he2]
      | _ => rfl
    rw [this, hl]; rfl
  case convert s d x =>
    have hno : ∀ h3, absUnsafePtr P s d (ev x) h3 = none := by
      intro h3
      unfold absUnsafePtr
      split
      · rename_i g1 g2; exact absurd (by simp [cls, floatT, g1, g2]) hc
      · rename_i g1 g2; exact absurd (by simp [cls, floatT, g1, g2]) hc
      · rename_i g1 g2; exact absurd (by simp [cls, floatT, g1, g2]) hc
      · rename_i g1 g2; exact absurd (by simp [cls, floatT, g1, g2]) hc
      · rfl
    cases hcn : absConvNum P s d (ev x) with
    | some vv =>
      have hgo : ∀ h2, sop P (.convert s d x) ev h2 = some (vv, h2) := by
        intro h2
        unfold sop
        simp only [hno, hcn]
      rw [hgo] at hs
      cases hs
      exact ⟨rfl, fun h2 _ => hgo h2⟩
    | none =>
    cases hfl : floatT P d with
    | true =>
      exfalso
      unfold sop at hs
      simp only [hno, hcn, hfl, cond_true] at hs
      cases hs
    | false =>
    have hs' : absConvert P s d (ev x) h = some (v, h1) := by
      unfold sop at hs
      simp only [hno, hcn, hfl, cond_false] at hs
      exact hs
    have hgo : ∀ h2, sop P (.convert s d x) ev h2 = absConvert P s d (ev x) h2 := by
      intro h2
      unfold sop
      simp only [hno, hcn, hfl, cond_false]
    simp only [cls, hfl, cond_false] at hc ⊢
    simp only [hgo]
    generalize hx : ev x = y at hs'
    unfold absConvert at hs' ⊢
    cases hu1 : P.underlying s with
    | none => simp only [hu1] at hs'; cases hs'
    | some d1 =>
      cases hu2 : P.underlying d with
      | none => simp only [hu1, hu2] at hs'; cases d1 <;> cases hs'
      | some d2 =>
        have hcl : (match (some d1 : Option TypeDesc), (some d2 : Option TypeDesc) with
            | _, some (.int _) => 0
            | some .string, some .string => 0
            | some (.slice _), some .string => 1
            | _, _ => 2) ≠ 2 := by
          have := hc
          simp only [cls, hu1, hu2] at this
          exact this
        simp only [hu1, hu2] at hs'
        cases d2
        case int k =>
          cases y <;> cases d1 <;> first | (cases hs'; done) | (cases hs'; exact ⟨rfl, fun _ _ => rfl⟩)
        case string =>
          cases d1
          case string => cases y <;> first | (cases hs'; done) | (cases hs'; exact ⟨rfl, fun _ _ => rfl⟩)
          case slice e =>
            cases y
            case str => cases hs'; exact ⟨rfl, fun _ _ => rfl⟩
            case slice p n cap ex z =>
              simp only at hs' ⊢
              split at hs'
              · rename_i hu8
                obtain ⟨rfl, hl⟩ := pureCase _ hs'
                refine ⟨rfl, fun h2 hb => ?_⟩
                have hsome : (h1.get p.b).isSome = true := by
                  cases hg : h1.get p.b with
                  | some k => rfl
                  | none =>
                    exfalso
                    unfold absToStr at hl
                    simp only [readN_eq, hg] at hl
                    cases hl
                have he := hb (by simp [cls, hu1, hu2]) x p.b (by rw [hx]; rfl) hsome
                have : absToStr (.slice p n cap ex z) h2 = absToStr (.slice p n cap ex z) h1 := by
                  unfold absToStr
                  simp only [readN_same he]
                rw [if_pos hu8, this, hl]; rfl
              · cases hs'
            case nilslice =>
              simp only at hs' ⊢
              split at hs'
              · rename_i hu8; cases hs'; exact ⟨rfl, fun _ _ => by rw [if_pos hu8]⟩
              · cases hs'
            case loose =>
              simp only at hs' ⊢
              split at hs'
              · rename_i hu8; cases hs'; exact ⟨rfl, fun _ _ => by rw [if_pos hu8]⟩
              · cases hs'
            all_goals cases hs'
          all_goals exact absurd rfl hcl
        all_goals (cases d1 <;> exact absurd rfl hcl)
  case call cl =>
    obtain ⟨ce, args, ats⟩ := cl
    cases ce with
    | value f => simp [isCall] at hcall
    | invoke r n => simp [isCall] at hcall
    | builtin b =>
      have hs' : absBuiltin P b ats.toList (args.toList.map ev) h = some (v, h1) := hs
      show h1 = h ∧ ∀ h2 : AH, _ → absBuiltin P b ats.toList (args.toList.map ev) h2 = some (v, h2)
      unfold absBuiltin at hs' ⊢
      split at hs'
      · rename_i t x hts hargs
        cases hl : absLen P t x with
        | some v' =>
          rw [hl] at hs'
          cases hs'
          exact ⟨rfl, fun h2 _ => rfl⟩
        | none =>
          rw [hl] at hs'
          obtain ⟨rfl, hml⟩ := pureCase _ hs'
          refine ⟨rfl, fun h2 hb => ?_⟩
          simp only
          have : absMapLen P t x h2 = absMapLen P t x h1 := by
            cases hx : x with
            | mapv b =>
              rw [hx] at hml
              cases hu : P.underlying t with
              | none => unfold absMapLen; rw [hu]
              | some d =>
                cases d with
                | map kt et =>
                  have hsome : (h1.get b).isSome = true := by
                    cases hg : h1.get b with
                    | some k => rfl
                    | none =>
                      exfalso
                      have hn : mapOf h1 b = none := by unfold mapOf; rw [hg]
                      unfold absMapLen at hml
                      rw [hu] at hml
                      simp only [hn] at hml
                      cases hml
                  obtain ⟨a0, ha0, hev⟩ : ∃ a0, args.toList = [a0] ∧ ev a0 = x := by
                    cases hal : args.toList with
                    | nil => rw [hal] at hargs; cases hargs
                    | cons a0 l =>
                      cases l with
                      | nil => rw [hal] at hargs; exact ⟨a0, rfl, (List.cons.inj hargs).1⟩
                      | cons _ _ => rw [hal] at hargs; simp at hargs
                  have he := mapOf_same (hb (by simp [cls, hts, hu]) a0 b (by rw [hev, hx]; rfl) hsome)
                  unfold absMapLen
                  rw [hu]
                  simp only [he]
                | _ => unfold absMapLen; rw [hu]
            | _ =>
              unfold absMapLen
              cases P.underlying t with
              | none => rfl
              | some d => cases d <;> rfl
          rw [this, hml]; rfl
      · exact outP _ hs'
      · exact absurd rfl hc
      · exact absurd rfl hc
      · exact outP _ hs'
      · exact outP _ hs'
      · exact outP _ hs'
      · exact absurd rfl hc
      · exact outP _ hs'
      · exact outP _ hs'
      · exact outP _ hs'
      · exact absurd rfl hc
      · cases hs'
  all_goals exact absurd rfl hc
end Go.Proofs.YtcphjmgfgfjnpaaGreatDoor.Ev
namespace Go.Proofs.YtcphjmgfgfjnpaaGreatDoor.Ev
open Go
structure AStep (h h' : AH) : Prop where
  next : h.next ≤ h'.next
  low : h'.low ≤ h.low
  quiet : ∀ b, b < h'.low → b < h.next → h'.get b = h.get b
  none : ∀ b, b < h.next → h.get b = none → h'.get b = none
theorem AStep.refl (h : AH) : AStep h h := ⟨Nat.le_refl _, Nat.le_refl _, fun _ _ _ => rfl, fun _ _ h => h⟩
theorem AStep.trans {a b d : AH} (x : AStep a b) (y : AStep b d) : AStep a d :=
  ⟨Nat.le_trans x.next y.next, Nat.le_trans y.low x.low, fun k hk hn => (y.quiet k hk (Nat.lt_of_lt_of_le hn x.next)).trans (x.quiet k (Nat.lt_of_lt_of_le hk y.low) hn), fun k hk hn => y.none k (Nat.lt_of_lt_of_le hk x.next) (x.none k hk hn)⟩
theorem AStep.add (h : AH) (k : Blk) : AStep h (h.add k) := ⟨Nat.le_succ _, Nat.le_refl _, fun b _ hb => by rw [AH.get_add, if_neg (by omega)], fun b hb hn => by rw [AH.get_add, if_neg (by omega)]; exact hn⟩
theorem AStep.write {h h' : AH} {a : A} {vs : List V} (hw : writeN h a vs = some h') : AStep h h' := by
  obtain ⟨k, hk, _, _, _, _, _, _, rfl⟩ := writeN_inv hw
  refine ⟨Nat.le_refl _, Nat.min_le_left _ _, fun b hb _ => ?_, fun b _ hn => by rw [AH.get_set, if_neg (by rintro rfl; rw [hk] at hn; cases hn)]; exact hn⟩
  have h0 : Nat.min h.low a.b ≤ a.b := Nat.min_le_right h.low a.b
  have hb' : b < Nat.min h.low a.b := hb
  rw [AH.get_set, if_neg (by omega)]
theorem AStep.grow (h : AH) (b : Nat) (k : Blk) (xs : List V) (hk : h.get b = some k) : AStep h (h.grow b k xs) := by
  refine ⟨Nat.le_refl _, Nat.min_le_left _ _, fun b' hb _ => ?_, fun b' _ hn => by rw [AH.get_grow, if_neg (by rintro rfl; rw [hk] at hn; cases hn)]; exact hn⟩
  have h0 : Nat.min h.low b ≤ b := Nat.min_le_right h.low b
  have hb' : b' < Nat.min h.low b := hb
  rw [AH.get_grow, if_neg (by omega)]
theorem AStep.kill (h : AH) (b : Nat) (k : Blk) (hk : h.get b = some k) : AStep h (h.kill b k) := by
  refine ⟨Nat.le_refl _, Nat.min_le_left _ _, fun b' hb _ => ?_, fun b' _ hn => by
    show (h.m.set b _).get b' = _
    rw [T.get_set, if_neg (by rintro rfl; rw [hk] at hn; cases hn)]; exact hn⟩
  have h0 : Nat.min h.low b ≤ b := Nat.min_le_right h.low b
  have hb' : b' < Nat.min h.low b := hb
  show (h.m.set b _).get b' = _
  rw [T.get_set, if_neg (by omega)]
  rfl
theorem AStep.put (h : AH) (b : Nat) (k : Blk) (hs : (h.get b).isSome = true) : AStep h (h.put b k) := by
  refine ⟨Nat.le_refl _, Nat.min_le_left _ _, fun b' hb _ => ?_, fun b' _ hn => by rw [AH.get_put, if_neg (by rintro rfl; rw [hn] at hs; cases hs)]; exact hn⟩
  have h0 : Nat.min h.low b ≤ b := Nat.min_le_right h.low b
  have hb' : b' < Nat.min h.low b := hb
  rw [AH.get_put, if_neg (by omega)]
theorem mapOf_isSome {h : AH} {b : Nat} {p : V × List V} (hm : mapOf h b = some p) : (h.get b).isSome = true := by
  unfold mapOf at hm
  split at hm
  · rename_i k hk; rw [hk]; rfl
  · cases hm
theorem absMapUpdate_astep {P : Program} {t : TypeId} {m k x : V} {h h' : AH} (hs : absMapUpdate P t m k x h = some h') : AStep h h' := by
  unfold absMapUpdate at hs
  (repeat' split at hs) <;> first | (cases hs; done) | (cases hs; exact AStep.put _ _ _ (mapOf_isSome (by assumption)))
theorem absMapEntry_astep {P : Program} {t : TypeId} {m k v : V} {h h' : AH} (hs : absMapEntry P t m k h = some (v, h')) : AStep h h' := by
  unfold absMapEntry at hs
  (repeat' split at hs) <;> first | (cases hs; done) | (cases hs; exact AStep.put _ _ _ (mapOf_isSome (by assumption)))
theorem absEntryStore_astep {m s x : V} {h h' : AH} (hs : absEntryStore m s x h = some h') : AStep h h' := by
  unfold absEntryStore at hs
  (repeat' split at hs) <;> first | (cases hs; done) | (obtain ⟨l, _, e⟩ := map_some' hs; subst e; exact AStep.put _ _ _ (mapOf_isSome (by assumption)))
theorem iterOf_isSome {h : AH} {b : Nat} {p : V × Nat × List V × Nat} (hm : iterOf h b = some p) : (h.get b).isSome = true := by
  unfold iterOf at hm
  split at hm
  · rename_i k hk; rw [hk]; rfl
  · cases hm
theorem absNextMap_astep {q : Nat} {h h' : AH} {v : V} (hs : absNextMap q h = some (v, h')) : AStep h h' := by
  unfold absNextMap at hs
  (repeat' split at hs) <;> first | (cases hs; done) | (cases hs; exact AStep.refl h) | (cases hs; exact AStep.put _ _ _ (iterOf_isSome (by assumption)))
theorem absDelete_astep {P : Program} {t : TypeId} {m k : V} {h h' : AH} {v : V} (hs : absDelete P t m k h = some (v, h')) : AStep h h' := by
  unfold absDelete at hs
  (repeat' split at hs) <;> first | (cases hs; done) | (cases hs; exact AStep.refl h) | (cases hs; exact AStep.put _ _ _ (mapOf_isSome (by assumption)))
theorem absNext_astep {x : V} {b : Bool} {h h' : AH} {v : V} (hs : absNext x b h = some (v, h')) : AStep h h' := by
  unfold absNext at hs
  (repeat' split at hs) <;> first | (exact absNextMap_astep hs) | (cases hs; done) | (cases hs; exact AStep.refl h) | (cases hs; exact AStep.put _ _ _ (by simp_all))
theorem absRange_astep {P : Program} {t : TypeId} {x : V} {h h' : AH} {v : V} (hs : absRange P t x h = some (v, h')) : AStep h h' := by
  unfold absRange at hs
  (repeat' split at hs) <;> first | (cases hs; done) | (cases hs; exact AStep.add _ _)
theorem map_self {z : Option V} {h h' : AH} {v : V} (hs : (z.map fun v => (v, h)) = some (v, h')) : h' = h := by
  cases z with
  | none => cases hs
  | some _ => cases hs; rfl
theorem sop_astep {P : Program} {o : Op} {ev : Operand → V} {h h' : AH} {v : V} (hs : sop P o ev h = some (v, h')) : AStep h h' := by
  have self : ∀ z : Option V, (z.map fun v => (v, h)) = some (v, h') → AStep h h' := fun z hz => by rw [map_self hz]; exact AStep.refl h
  unfold sop at hs
  split at hs
  · cases hs; exact AStep.refl h
  · cases hs; exact AStep.refl h
  · split at hs
    · cases hs; exact AStep.refl h
    · cases hs
  · unfold absAlloc at hs; split at hs
    · cases hs; exact AStep.add _ _
    · cases hs
  · unfold absBox at hs; split at hs
    · cases hs; exact AStep.add _ _
    · cases hs
  · exact self _ hs
  · unfold absBuildSlice at hs
    (repeat' split at hs) <;> first | (cases hs; done) | (cases hs; exact AStep.add _ _)
  · exact self _ hs
  · obtain ⟨h1, g1, g2⟩ := map_some hs
    cases g2
    unfold absStore at g1
    (repeat' split at g1) <;> first | (cases g1; done) | exact AStep.write g1
  · exact self _ hs
  · exact self _ hs
  · exact self _ hs
  · split at hs
    · cases hs; exact AStep.refl h
    split at hs
    · cases hs; exact AStep.refl h
    generalize floatT P _ = fl at hs
    cases fl with
    | true => cases hs
    | false =>
    change absConvert _ _ _ _ _ = _ at hs
    unfold absConvert at hs
    (repeat' split at hs) <;> first | (cases hs; done) | (cases hs; exact AStep.refl h) | exact self _ hs | (cases hs; exact AStep.add _ _)
  · cases hs; exact AStep.add _ _
  · split at hs
    · cases hs; exact AStep.add _ _
    · cases hs
  · exact self _ hs
  · obtain ⟨h1, g1, g2⟩ := map_some hs; cases g2; exact absMapUpdate_astep g1
  · obtain ⟨h1, g1, g2⟩ := map_some hs; cases g2; exact absMapUpdate_astep g1
  · exact absMapEntry_astep hs
  · obtain ⟨h1, g1, g2⟩ := map_some hs; cases g2; exact absEntryStore_astep g1
  · exact self _ hs
  · exact self _ hs
  · exact self _ hs
  · unfold absMakeSlice at hs
    (repeat' split at hs) <;> first | (cases hs; done) | (cases hs; exact AStep.add _ _)
  · exact self _ hs
  · exact self _ hs
  · exact self _ hs
  · exact self _ hs
  · exact self _ hs
  · exact self _ hs
  · exact self _ hs
  · unfold absBuiltin at hs
    split at hs
    · split at hs
      · cases hs; exact AStep.refl h
      · exact self _ hs
    · exact self _ hs
    · rename_i t xt s x _ _
      cases hz : intLike P xt with
      | true =>
        rw [hz] at hs
        change absAppendZ P t s x h = some (v, h') at hs
        unfold absAppendZ at hs
        (repeat' split at hs) <;> first
          | (cases hs; done)
          | (cases hs; exact AStep.refl h)
          | (cases hs; exact AStep.add _ _)
      | false =>
        rw [hz] at hs
        change absAppend P t xt s x h = some (v, h') at hs
        unfold absAppend at hs
        (repeat' split at hs) <;> first
          | (cases hs; done)
          | (cases hs; exact AStep.refl h)
          | (cases hs; exact AStep.add _ _)
          | (cases hs; exact AStep.grow _ _ _ _ (by assumption))
          | (obtain ⟨h1, g1, g2⟩ := map_some hs; cases g2; exact AStep.write g1)
    · unfold absCopy at hs
      (repeat' split at hs) <;> first
        | (cases hs; done)
        | (cases hs; exact AStep.refl h)
        | (obtain ⟨h1, g1, g2⟩ := map_some hs; cases g2; exact AStep.write g1)
    · exact self _ hs
    · exact self _ hs
    · exact self _ hs
    · unfold absUnsafeString at hs
      split at hs
      · split at hs
        · cases hs; exact AStep.refl h
        · cases hs
      · (repeat' split at hs) <;> first
          | (cases hs; done)
          | (cases hs; exact AStep.refl h)
          | (obtain ⟨h1, g1, g2⟩ := map_some hs; cases g2; exact AStep.kill _ _ _ (by assumption))
      · cases hs
    · exact self _ hs
    · exact self _ hs
    · exact self _ hs
    · exact absDelete_astep hs
    · cases hs
  · exact absRange_astep hs
  · exact absNext_astep hs
  · exact self _ hs
  · cases hs
def CAbs (c : Cfg) : Prop := (∀ f args h v h', c.C f args h = some (v, h') → AStep h h') ∧ (∀ f args h v h', c.X f args h = some (v, h') → AStep h h') ∧ HintOK c
theorem callV_astep {c : Cfg} (hA : CAbs c) {f : FuncId} {args : List V} {h h' : AH} {v : V} (hs : callV c f args h = some (v, h')) : AStep h h' := by
  unfold callV at hs
  split at hs
  · exact hA.1 _ _ _ _ _ hs
  · exact hA.2.1 _ _ _ _ _ hs
  · cases hs
theorem quietV_spec {c : Cfg} (hA : CAbs c) {f : FuncId} {args : List V} {h h' : AH} {v : V} (hs : quietV c f args h = some (v, h')) : AStep h h' ∧ ∀ b, b < h.next → h'.get b = h.get b := by
  unfold quietV at hs
  split at hs
  · cases hs
  · rename_i v1 h1 hq
    split at hs
    · rename_i hl
      cases hs
      have := callV_astep hA hq
      exact ⟨⟨this.next, Nat.le_refl _, fun b _ hb => this.quiet b (Nat.lt_of_lt_of_le hb hl) hb, fun b hb hn => this.none b hb hn⟩, fun b hb => this.quiet b (Nat.lt_of_lt_of_le hb hl) hb⟩
    · cases hs
theorem stepV_astep {c : Cfg} (hA : CAbs c) {q : Bool} {o : Op} {ev : Operand → V} {h h' : AH} {v : V} (hs : stepV c q o ev h = some (v, h')) : AStep h h' ∧ ((isCall o).isSome = true → q = true → ∀ b, b < h.next → h'.get b = h.get b) := by
  unfold stepV at hs
  split at hs
  · rename_i cl hcl
    split at hs
    · split at hs
      · obtain ⟨g1, g2⟩ := quietV_spec hA hs; exact ⟨g1, fun _ _ => g2⟩
      · rename_i hq; exact ⟨callV_astep hA hs, fun _ hq' => absurd hq' hq⟩
    · cases hs
  · rename_i hcl; exact ⟨sop_astep (conc_some hA.2.2 hs), fun hsome => by rw [hcl] at hsome; cases hsome⟩
theorem stepV_congr {c : Cfg} {q : Bool} {o : Op} {ev ev' : Operand → V} (he : ∀ x, x ∈ o.operands.toList → ev x = ev' x) (h : AH) : stepV c q o ev h = stepV c q o ev' h := by
  have hps : ∀ ps : Array (Nat × Operand), (∀ x, x ∈ (ps.toList.map (·.2)) → ev x = ev' x) → (ps.toList.map fun p => (p.1, ev p.2)) = ps.toList.map fun p => (p.1, ev' p.2) := fun ps hx =>
    List.map_congr_left fun p hp => by rw [hx p.2 (List.mem_map.2 ⟨p, hp, rfl⟩)]
  have hopt : ∀ m : Option Operand, (∀ x, m = some x → ev x = ev' x) → m.map ev = m.map ev' := fun m hx => by cases m with | none => rfl | some y => simp [hx y rfl]
  cases o
  case move x => simp only [stepV, isCall, sop, he x (by simp [Op.operands])]
  case assign x => simp only [stepV, isCall, sop, he x (by simp [Op.operands])]
  case pick a b d => simp only [stepV, isCall, sop, he a (by simp [Op.operands]), he b (by simp [Op.operands]), he d (by simp [Op.operands])]
  case alloc t => rfl
  case box t x => simp only [stepV, isCall, sop, he x (by simp [Op.operands])]
  case build t ps => simp only [stepV, isCall, sop, hps ps (fun x hx => he x (by simpa [Op.operands] using hx))]
  case buildSlice t n ps => simp only [stepV, isCall, sop, hps ps (fun x hx => he x (by simpa [Op.operands] using hx))]
  case load t x => simp only [stepV, isCall, sop, he x (by simp [Op.operands])]
  case store t x y => simp only [stepV, isCall, sop, he x (by simp [Op.operands]), he y (by simp [Op.operands])]
  case nilCheck x => simp only [stepV, isCall, sop, he x (by simp [Op.operands])]
  case binOp op t x y t2 => simp only [stepV, isCall, sop, he x (by simp [Op.operands]), he y (by simp [Op.operands])]
  case unOp op t x => simp only [stepV, isCall, sop, he x (by simp [Op.operands])]
  case convert a b x => simp only [stepV, isCall, sop, he x (by simp [Op.operands])]
  case makeMap t r =>
    cases r with
    | none => rfl
    | some r => simp only [stepV, isCall, sop, he r (by simp [Op.operands])]
  case lookup t m k ok => simp only [stepV, isCall, sop, he m (by simp [Op.operands]), he k (by simp [Op.operands])]
  case mapUpdate t m k x => simp only [stepV, isCall, sop, he m (by simp [Op.operands]), he k (by simp [Op.operands]), he x (by simp [Op.operands])]
  case insert t m k x => simp only [stepV, isCall, sop, he m (by simp [Op.operands]), he k (by simp [Op.operands]), he x (by simp [Op.operands])]
  case mapEntry t m k => simp only [stepV, isCall, sop, he m (by simp [Op.operands]), he k (by simp [Op.operands])]
  case entryStore t m s x => simp only [stepV, isCall, sop, he m (by simp [Op.operands]), he s (by simp [Op.operands]), he x (by simp [Op.operands])]
  case sliceToArrayPointer t x => simp only [stepV, isCall, sop, he x (by simp [Op.operands])]
  case makeInterface t x => simp only [stepV, isCall, sop, he x (by simp [Op.operands])]
  case makeFunc f a b =>
    have h1 : a.toList.map ev = a.toList.map ev' := List.map_congr_left fun x hx => he x (by simp only [Op.operands, Array.toList_append]; exact List.mem_append_left _ hx)
    have h2 : b.toList.map ev = b.toList.map ev' := List.map_congr_left fun x hx => he x (by simp only [Op.operands, Array.toList_append]; exact List.mem_append_right _ hx)
    simp only [stepV, isCall, sop, h1, h2]
  case makeSlice t x y => simp only [stepV, isCall, sop, he x (by simp [Op.operands]), he y (by simp [Op.operands])]
  case slice t x lo hi mx =>
    have h1 := hopt lo (fun y hy => he y (by subst hy; simp [Op.operands]))
    have h2 := hopt hi (fun y hy => he y (by subst hy; simp [Op.operands]))
    have h3 := hopt mx (fun y hy => he y (by subst hy; simp [Op.operands]))
    simp only [stepV, isCall, sop, he x (by simp [Op.operands]), h1, h2, h3]
  case fieldAddr t x f => simp only [stepV, isCall, sop, he x (by simp [Op.operands])]
  case range t x => simp only [stepV, isCall, sop, he x (by simp [Op.operands])]
  case next x b => simp only [stepV, isCall, sop, he x (by simp [Op.operands])]
  case entry x => simp only [stepV, isCall, sop, he x (by simp [Op.operands])]
  case field t x f => simp only [stepV, isCall, sop, he x (by simp [Op.operands])]
  case indexAddr t x y => simp only [stepV, isCall, sop, he x (by simp [Op.operands]), he y (by simp [Op.operands])]
  case index t x y => simp only [stepV, isCall, sop, he x (by simp [Op.operands]), he y (by simp [Op.operands])]
  case typeAssert x a b ok => simp only [stepV, isCall, sop, he x (by simp [Op.operands])]
  case extract x i => simp only [stepV, isCall, sop, he x (by simp [Op.operands])]
  case call cl =>
    obtain ⟨ce, args, ats⟩ := cl
    have h1 : args.toList.map ev = args.toList.map ev' := List.map_congr_left fun x hx => he x (by
      simp only [Op.operands, Call.operands, Array.toList_append]; exact List.mem_append_right _ hx)
    cases ce with
    | value f => simp only [stepV, isCall, callee, he f (by simp [Op.operands, Call.operands]), h1]
    | invoke r n => simp only [stepV, isCall, callee, he r (by simp [Op.operands, Call.operands]), h1]
    | builtin b => simp only [stepV, isCall, sop, h1]
  all_goals rfl
theorem sop_call {P : Program} {o : Op} {cl : Call} (h : isCall o = some cl) (ev : Operand → V) (m : AH) : sop P o ev m = none := by
  cases o
  case call c =>
    obtain ⟨ce, args, ats⟩ := c
    cases ce with
    | builtin b => cases h
    | _ => rfl
  all_goals cases h
structure DrawOK (P : Program) (ops : Array Oper) (qs : Nat → Bool) (ord : Nat → Nat → Prop) (lo : Option Nat) : Prop where
  edge : ∀ j o e, ops[j]? = some o → e ∈ o.after.toList → Region.binds .any e = true → e.on < j
  closed : ∀ i j o, ops[j]? = some o → ord i j → ∃ e, e ∈ o.after.toList ∧ Region.binds .any e = true ∧ (i = e.on ∨ ord i e.on)
  slot : ∀ i j oi oj t, ops[i]? = some oi → ops[j]? = some oj → i ≠ j → oi.dst = some t → (t ∈ oj.looksAt ops ∨ oj.dst = some t) → (i < j → ord i j) ∧ (j < i → ord j i)
  spine : ∀ i j oi oj, ops[i]? = some oi → ops[j]? = some oj → i < j → cls P oi.op = 2 → cls P oj.op = 2 → lo = some j ∨ ord i j
  read : ∀ i s oi os, ops[i]? = some oi → ops[s]? = some os → i ≠ s → cls P oi.op ≠ 2 → cls P oi.op ≠ 0 → cls P os.op = 2 → ¬ ord i s → ¬ ord s i → lo = some s ∨ ((isCall os.op).isSome = true ∧ qs s = true)
  late : ∀ j, lo = some j → ∃ o t d, ops[j]? = some o ∧ o.op = .alloc t ∧ o.guard = none ∧ o.dst = some d ∧ ∀ k ok, ops[k]? = some ok → k ≠ j → ok.dst ≠ some d ∧ (d ∈ ok.looksAt ops → j < k ∧ ∀ l ol, ops[l]? = some ol → l < j → cls P ol.op = 2 → ord l k)
def Trace (c : Cfg) (fo : FO) (N : Nat) (ops : Array Oper) (qs : Nat → Bool) (i : Nat) (fr : fo.F) (h : AH) (fr' : fo.F) (h' : AH) : Prop :=
  ∃ o, ops[i]? = some o ∧ ((wantedV fo ops o fr = some false ∧ fr' = putF fo N fr o.dst undefV ∧ h' = h) ∨
    (wantedV fo ops o fr = some true ∧ ∃ v, stepV c (qs i) o.op (evO c fo fr) h = some (v, h') ∧ fr' = putF fo N fr o.dst v))
theorem trace_of {c : Cfg} {fo : FO} {N : Nat} {ops : Array Oper} {qs : Nat → Bool} {r : V × AH} {k : fo.F → AH → Res} : ∀ (m s : Nat) (fr : fo.F) (h : AH), s + m = ops.size → runOps c fo N ops qs (List.range' s m) fr h k = some r →
    ∃ (frs : Nat → fo.F) (hs : Nat → AH), frs s = fr ∧ hs s = h ∧ (∀ i, s ≤ i → i < s + m → Trace c fo N ops qs i (frs i) (hs i) (frs (i + 1)) (hs (i + 1))) ∧ k (frs (s + m)) (hs (s + m)) = some r := by
  intro m
  induction m with
  | zero => intro s fr h _ hrun; exact ⟨fun _ => fr, fun _ => h, rfl, rfl, fun i h1 h2 => by omega, hrun⟩
  | succ m ih =>
    intro s fr h hsz hrun
    rw [List.range'_succ] at hrun
    unfold runOps at hrun
    have hlt : s < ops.size := by omega
    rw [Array.getElem?_eq_getElem hlt] at hrun
    simp only at hrun
    have go : ∀ (fr1 : fo.F) (h1 : AH), Trace c fo N ops qs s fr h fr1 h1 → runOps c fo N ops qs (List.range' (s + 1) m) fr1 h1 k = some r →
        (∃ (frs : Nat → fo.F) (hs : Nat → AH), frs s = fr ∧ hs s = h ∧ (∀ i, s ≤ i → i < s + (m + 1) → Trace c fo N ops qs i (frs i) (hs i) (frs (i + 1)) (hs (i + 1))) ∧ k (frs (s + (m + 1))) (hs (s + (m + 1))) = some r) := fun fr1 h1 ht hr1 => by
      obtain ⟨frs, hs, e1, e2, e3, e4⟩ := ih (s + 1) fr1 h1 (by omega) hr1
      refine ⟨fun i => if i = s then fr else frs i, fun i => if i = s then h else hs i, by simp, by simp, ?_, ?_⟩
      · intro i hi1 hi2
        by_cases his : i = s
        · subst his
          simp only [if_true, if_neg (show ¬ i + 1 = i by omega), e1, e2]
          exact ht
        · simp only [if_neg his, if_neg (show ¬ i + 1 = s by omega)]
          exact e3 i (by omega) (by omega)
      · simp only [if_neg (show ¬ s + (m + 1) = s by omega)]
        rw [show s + (m + 1) = s + 1 + m from by omega]
        exact e4
    cases hw : wantedV fo ops ops[s] fr with
    | none => rw [hw] at hrun; cases hrun
    | some b =>
      rw [hw] at hrun
      cases b with
      | false => exact go _ _ ⟨ops[s], Array.getElem?_eq_getElem hlt, .inl ⟨hw, rfl, rfl⟩⟩ hrun
      | true =>
        simp only at hrun
        cases hs : stepV c (qs s) ops[s].op (evO c fo fr) h with
        | none => rw [hs] at hrun; cases hrun
        | some x =>
          obtain ⟨v, h'⟩ := x
          rw [hs] at hrun
          replace hrun := look_some hrun
          exact go _ _ ⟨ops[s], Array.getElem?_eq_getElem hlt, .inr ⟨hw, v, hs, rfl⟩⟩ hrun
end Go.Proofs.YtcphjmgfgfjnpaaGreatDoor.Ev
namespace Go.Proofs.YtcphjmgfgfjnpaaGreatDoor.Ev
open Go
theorem cls_call {P : Program} {o : Op} (h : (isCall o).isSome = true) : cls P o = 2 := by
  unfold isCall at h
  split at h
  · rename_i cl
    obtain ⟨ce, args, ats⟩ := cl
    cases ce with
    | value f => rfl
    | invoke r n => rfl
    | builtin b => cases h
  · cases h
theorem mem_looks {ops : Array Oper} {o : Oper} {t : Tmp} (h : Operand.tmp t ∈ o.op.operands.toList) : t ∈ o.looksAt ops := by
  unfold Oper.looksAt
  rw [List.mem_append]
  refine .inl ?_
  rw [List.mem_filterMap]
  exact ⟨_, h, rfl⟩
theorem mem_guard {ops : Array Oper} {o : Oper} {j : Nat} {b : Bool} {d : Tmp} (h : o.guard = some (j, b)) (hd : (ops[j]?).bind (·.dst) = some d) : d ∈ o.looksAt ops := by
  unfold Oper.looksAt
  rw [List.mem_append]
  refine .inr ?_
  rw [h]
  simp [hd]
section
variable {D : List Deferred} {c : Cfg} {fo : FO} {N : Nat} {ops : Array Oper} {qs : Nat → Bool} {ord : Nat → Nat → Prop} {lo : Option Nat} {frs : Nat → fo.F} {hs : Nat → AH}
theorem get_putF (fr : fo.F) (d : Option Nat) (v : V) (t : Nat) (h : d ≠ some t) : fo.get (putF fo N fr d v) t = fo.get fr t := by
  cases d with
  | none => rfl
  | some d =>
    simp only [putF]
    cases Nat.blt d N with
    | false => rfl
    | true =>
      simp only [cond_true]
      rw [fo.get_set, if_neg (fun e => h (by rw [e]))]
theorem frame_const (ht : ∀ i, i < ops.size → Trace c fo N ops qs i (frs i) (hs i) (frs (i + 1)) (hs (i + 1))) (t : Nat) : ∀ (m lo : Nat), lo + m ≤ ops.size → (∀ i o, lo ≤ i → i < lo + m → ops[i]? = some o → o.dst ≠ some t) → fo.get (frs (lo + m)) t = fo.get (frs lo) t := by
  intro m
  induction m with
  | zero => intro lo _ _; rfl
  | succ m ih =>
    intro lo hle hno
    rw [← ih lo (by omega) (fun i o h1 h2 h3 => hno i o h1 (by omega) h3), show lo + (m + 1) = lo + m + 1 from by omega]
    obtain ⟨o, ho, hh⟩ := ht (lo + m) (by omega)
    have hd := hno (lo + m) o (by omega) (by omega) ho
    rcases hh with ⟨_, e, _⟩ | ⟨_, v, _, e⟩ <;> rw [e] <;> exact get_putF _ _ _ _ hd
theorem heap_const (hH : HintOK c) (ht : ∀ i, i < ops.size → Trace c fo N ops qs i (frs i) (hs i) (frs (i + 1)) (hs (i + 1))) : ∀ (m lo : Nat), lo + m ≤ ops.size → (∀ i o, lo ≤ i → i < lo + m → ops[i]? = some o → cls c.P o.op ≠ 2) → hs (lo + m) = hs lo := by
  intro m
  induction m with
  | zero => intro lo _ _; rfl
  | succ m ih =>
    intro lo hle hno
    rw [← ih lo (by omega) (fun i o h1 h2 h3 => hno i o h1 (by omega) h3), show lo + (m + 1) = lo + m + 1 from by omega]
    obtain ⟨o, ho, hh⟩ := ht (lo + m) (by omega)
    have hc := hno (lo + m) o (by omega) (by omega) ho
    rcases hh with ⟨_, _, e⟩ | ⟨_, v, e, _⟩
    · exact e
    · have hcall : isCall o.op = none := by
        cases hi : isCall o.op with
        | none => rfl
        | some cl => exact absurd (cls_call (by rw [hi]; rfl)) hc
      unfold stepV at e
      rw [hcall] at e
      exact (loud_same hc hcall (conc_some hH e)).1
theorem alloc_step (hH : HintOK c) {o : Oper} {ty : TypeId} {q : Bool} {ev : Operand → V} {h h' : AH} {v : V} (hop : o.op = .alloc ty) (hs : stepV c q o.op ev h = some (v, h')) : ∃ k, h' = h.add k ∧ ∃ zs, zeroOf c.P ty = some zs ∧ k = ⟨Arr.make zs.length zs, 0, 0, false, ty⟩ ∧ v = .ptr ⟨h.next, zs.length, 0⟩ := by
  rw [hop] at hs
  have h1 : conc (c.hint (.alloc ty)) (absAlloc c.P ty h) = some (v, h') := hs
  have h2 := conc_some hH h1
  unfold absAlloc at h2
  split at h2
  · rename_i zs hz
    cases h2
    exact ⟨_, rfl, zs, hz, rfl, rfl⟩
  · cases h2
theorem adopt_sound {ρ : Rho} {h : AH} {w : World} (hr : HR ρ h w) (k : Blk) (C : Array Value) (lo hi cb : Nat) (hcb : cb < w.heap.size) (hheap : w.heap[cb]? = some (.cells C k.e (lo, hi))) (hfree : ∀ b L x, ρ b L ≠ some (cb, x))
    (hn : k.cells.n ≤ C.size) (hc : ∀ j v, k.cells.get j = some v → ∃ u, C[j]? = some u ∧ R ρ v u) (hf : ∀ i, k.fz ≤ i → i < C.size → ¬ (lo ≤ i ∧ i < hi)) (hlh : lo ≤ hi) (hob : k.minL ≤ k.cells.n + 1) :
    ∃ ρ', ρ.le ρ' ∧ HR ρ' (h.add k) w ∧ (∀ b L c x, ρ' b L = some (c, x) → (c = cb ∧ b = h.next) ∨ ρ b L = some (c, x)) ∧ ρ' h.next k.cells.n = some (cb, 0, C.size) := by
  have hno : ∀ L y, ρ h.next L = some y → False := fun L y hy => absurd (hr.fresh _ _ _ hy) (Nat.lt_irrefl _)
  have hle : ρ.le (ρ.put h.next k.cells.n (cb, 0, C.size)) := Rho.le_put (hno _)
  refine ⟨ρ.put h.next k.cells.n (cb, 0, C.size), hle, ⟨?_, ?_, ?_, ?_, ?_, ?_, fun b k' hk' ho => ?_⟩, ?_, Rho.put_same _ _ _ _⟩
  rotate_left 6
  · rw [AH.get_add] at hk'
    by_cases hb : b = h.next
    · rw [if_pos hb] at hk'; cases hk'; unfold Blk.IsObj at ho; omega
    · rw [if_neg hb] at hk'
      exact (hr.obj b k' hk' ho).mono hle fun cb S e => rfl
  rotate_left 1
  · intro b L x hx
    rcases Rho.put_inv hx with ⟨rfl, _⟩ | hx
    · exact Nat.lt_succ_self _
    · exact Nat.lt_succ_of_lt (hr.fresh _ _ _ hx)
  · intro b k' hk'
    rw [AH.get_add] at hk'
    by_cases hb : b = h.next
    · subst hb; exact Nat.lt_succ_self _
    · rw [if_neg hb] at hk'; exact Nat.lt_succ_of_lt (hr.lives _ _ hk')
  · intro b L cb' x hx
    rcases Rho.put_inv hx with ⟨_, _, hy⟩ | hx
    · cases hy; exact hcb
    · exact hr.bound _ _ _ _ hx
  · intro b L b' L' cb' x x' k' hx hx' hk' hro'
    rcases Rho.put_inv hx with ⟨e1, e2, hy⟩ | gx <;> rcases Rho.put_inv hx' with ⟨e1', e2', hy'⟩ | gx'
    · cases hy; cases hy'; exact ⟨e1.trans e1'.symm, rfl⟩
    · cases hy; exact absurd gx' (hfree _ _ _)
    · cases hy'; exact absurd gx (hfree _ _ _)
    · rw [AH.get_add, if_neg (by have := hr.fresh _ _ _ gx; omega)] at hk'
      exact hr.inj _ _ _ _ _ _ _ _ gx gx' hk' hro'
  · intro b k' L x hk' hx
    rw [AH.get_add] at hk'
    by_cases hb : b = h.next
    · subst hb; rw [if_pos rfl] at hk'; cases hk'
      rcases Rho.put_inv hx with ⟨_, rfl, _⟩ | hx
      · exact Nat.le_refl _
      · exact absurd hx (fun hh => hno _ _ hh)
    · rw [if_neg hb] at hk'
      rcases Rho.put_inv hx with ⟨rfl, _⟩ | hx
      · exact absurd rfl hb
      · exact hr.top _ _ _ _ hk' hx
  · intro b k' L cb' sh S hk' hx hm
    rw [AH.get_add] at hk'
    by_cases hb : b = h.next
    · subst hb; rw [if_pos rfl] at hk'; cases hk'
      rcases Rho.put_inv hx with ⟨_, rfl, hy⟩ | hx
      · cases hy
        refine ⟨C, lo, hi, hheap, rfl, by omega, ?_, fun _ => ⟨fun i hi1 hi2 => hf i (by omega) hi2, hlh, Int.le_refl _⟩⟩
        intro j v _ _ hv
        obtain ⟨u, hu, hR⟩ := hc j v hv
        exact ⟨u, by simpa using hu, hR.mono hle⟩
      · exact absurd hx (fun hh => hno _ _ hh)
    · rw [if_neg hb] at hk'
      rcases Rho.put_inv hx with ⟨rfl, _⟩ | hx
      · exact absurd rfl hb
      · exact (hr.blk _ _ _ _ _ _ hk' hx hm).mono hle rfl
  · intro b L c' x hx
    rcases Rho.put_inv hx with ⟨_, _, hy⟩ | hx
    · cases hy; exact .inl ⟨rfl, by assumption⟩
    · exact .inr hx
theorem HR.add_alone {ρ : Rho} {h : AH} {w : World} (hr : HR ρ h w) (k : Blk) (hob : k.minL ≤ k.cells.n + 1) : HR ρ (h.add k) w := by
  have hno : ∀ b L y, ρ b L = some y → b ≠ h.next := fun b L y hy e => by have := hr.fresh _ _ _ hy; omega
  refine ⟨fun b L x hx => Nat.lt_succ_of_lt (hr.fresh _ _ _ hx), ?_, hr.bound, ?_, ?_, ?_, fun b k' hk' ho => ?_⟩
  rotate_left 4
  · rw [AH.get_add] at hk'
    by_cases hb : b = h.next
    · rw [if_pos hb] at hk'; cases hk'; unfold Blk.IsObj at ho; omega
    · rw [if_neg hb] at hk'; exact hr.obj b k' hk' ho
  · intro b k' hk'
    rw [AH.get_add] at hk'
    by_cases hb : b = h.next
    · subst hb; exact Nat.lt_succ_self _
    · rw [if_neg hb] at hk'; exact Nat.lt_succ_of_lt (hr.lives _ _ hk')
  · intro b L b' L' cb x x' k' hx hx' hk'
    rw [AH.get_add, if_neg (hno _ _ _ hx)] at hk'
    exact hr.inj _ _ _ _ _ _ _ _ hx hx' hk'
  · intro b k' L x hk' hx
    rw [AH.get_add, if_neg (hno _ _ _ hx)] at hk'
    exact hr.top _ _ _ _ hk' hx
  · intro b k' L cb sh S hk' hx
    rw [AH.get_add, if_neg (hno _ _ _ hx)] at hk'
    exact hr.blk _ _ _ _ _ _ hk' hx
theorem HR.push {ρ : Rho} {h : AH} {w w' : World} (hr : HR ρ h w) {x : Obj} (hw : w'.heap = w.heap.push x) : HR ρ h w' := by
  have hold : ∀ i, i < w.heap.size → w'.heap[i]? = w.heap[i]? := fun i hi => by rw [hw, Array.getElem?_push, if_neg (by omega)]
  refine ⟨hr.fresh, hr.lives, fun b L cb y hy => by have := hr.bound _ _ _ _ hy; rw [hw, Array.size_push]; omega, hr.inj, hr.top, fun b k L cb sh S h1 h2 h3 => (hr.blk b k L cb sh S h1 h2 h3).mono (Rho.le_refl ρ) (hold _ (hr.bound _ _ _ _ h2)), fun b k h1 ho => (hr.obj b k h1 ho).mono (Rho.le_refl ρ) fun cb S e => hold _ (hr.bound _ _ _ _ e)⟩
theorem Step.push {ρ0 ρ : Rho} {h0 h : AH} {w0 w w' : World} (hs : Step ρ0 h0 w0 ρ h w) {x : Obj} (hw : w'.heap = w.heap.push x) (e1 : w'.os = w.os) (e2 : w'.tape = w.tape) (e3 : w'.output = w.output) : Step ρ0 h0 w0 ρ h w' := by
  refine ⟨hs.le, hs.cons, hs.ro, hs.next, e1.trans hs.os, e2.trans hs.tape, e3.trans hs.output, by rw [hw, Array.size_push]; have := hs.size; omega, fun i hi hn => ?_, hs.lowle, hs.quiet, hs.abs⟩
  rw [hw, Array.getElem?_push, if_neg (by have := hs.size; omega)]
  exact hs.keep i hi hn
theorem Step.adopt {ρ0 ρ ρ' : Rho} {h0 h : AH} {w0 w : World} (hr0 : HR ρ0 h0 w0) (hs : Step ρ0 h0 w0 ρ h w) (k : Blk) (hle : ρ.le ρ') (hc : ∀ b L c x, ρ' b L = some (c, x) → c < w0.heap.size → ρ b L = some (c, x)) (hn' : ∀ b L x, ρ' b L = some x → b = h.next ∨ ρ b L = some x) : Step ρ0 h0 w0 ρ' (h.add k) w := by
  refine ⟨Rho.le_trans hs.le hle, fun b L cb x hx hlt => hs.cons b L cb x (hc b L cb x hx hlt) hlt, ?_, Nat.le_trans hs.next (Nat.le_succ _), hs.os, hs.tape, hs.output, hs.size, hs.keep, hs.lowle, ?_, fun b hb hn => ⟨by have := hs.next; rw [AH.get_add, if_neg (by omega)]; exact (hs.abs b hb hn).1, fun L x hx => by
    rcases hn' b L x hx with e | e
    · have := hs.next; omega
    · exact (hs.abs b hb hn).2 L x e⟩⟩
  · intro b k' hk' hb
    have := hs.next
    rw [AH.get_add, if_neg (by omega)] at hk'
    exact hs.ro b k' hk' hb
  · intro b hb hn
    have := hs.next
    rw [AH.get_add, if_neg (by omega)]
    exact hs.quiet b hb hn
def Pd (c : Cfg) (ρ : Rho) (w0 : World) (ty : TypeId) (u : Value) (w : World) : Prop :=
  ∃ cb i z, u = .pointer (some ⟨cb, 0, none⟩) ∧ w0.heap.size ≤ cb ∧ cb < w.heap.size ∧ c.P.info? ty = some i ∧ i.zero = some z ∧ w.heap[cb]? = some (.cells z.cells ty) ∧ ∀ b L x, ρ b L ≠ some (cb, x)
theorem Pd.step {c : Cfg} {ρ ρ' : Rho} {w0 w w' : World} {ty : TypeId} {u : Value} {h h' : AH} (hp : Pd c ρ w0 ty u w) (hs : Step ρ h w ρ' h' w') : Pd c ρ' w0 ty u w' := by
  obtain ⟨cb, i, z, h1, h2, h3, h4, h5, h6, h7⟩ := hp
  refine ⟨cb, i, z, h1, h2, Nat.lt_of_lt_of_le h3 hs.size, h4, h5, ?_, fun b L x hx => ?_⟩
  · rw [hs.keep cb h3 ?_]
    · exact h6
    · rintro ⟨b, L, x, k, hx, _⟩
      exact h7 b L x hx
  · obtain ⟨L0, x0, h0⟩ := hs.cons b L cb x hx h3
    exact h7 b L0 x0 h0
theorem heap_quiet (hA : CAbs c) (ht : ∀ i, i < ops.size → Trace c fo N ops qs i (frs i) (hs i) (frs (i + 1)) (hs (i + 1))) : ∀ (m lo : Nat), lo + m ≤ ops.size → (∀ i o, lo ≤ i → i < lo + m → ops[i]? = some o → cls c.P o.op = 2 → ((isCall o.op).isSome = true ∧ qs i = true) ∨ ∃ ty, o.op = .alloc ty) →
    (hs lo).next ≤ (hs (lo + m)).next ∧ ∀ b, b < (hs lo).next → (hs (lo + m)).get b = (hs lo).get b := by
  intro m
  induction m with
  | zero => intro lo _ _; exact ⟨Nat.le_refl _, fun _ _ => rfl⟩
  | succ m ih =>
    intro lo hle hno
    obtain ⟨h1, h2⟩ := ih lo (by omega) (fun i o h1 h2 h3 => hno i o h1 (by omega) h3)
    rw [show lo + (m + 1) = lo + m + 1 from by omega]
    obtain ⟨o, ho, hh⟩ := ht (lo + m) (by omega)
    have key : (hs (lo + m)).next ≤ (hs (lo + m + 1)).next ∧ ∀ b, b < (hs (lo + m)).next → (hs (lo + m + 1)).get b = (hs (lo + m)).get b := by
      rcases hh with ⟨_, _, e⟩ | ⟨_, v, e, _⟩
      · rw [e]; exact ⟨Nat.le_refl _, fun _ _ => rfl⟩
      · by_cases hc : cls c.P o.op = 2
        · obtain ⟨q1, q2⟩ := stepV_astep hA e
          rcases hno (lo + m) o (by omega) (by omega) ho hc with ⟨g1, g2⟩ | ⟨ty, hty⟩
          · exact ⟨q1.next, q2 g1 g2⟩
          · refine ⟨q1.next, fun b hb => ?_⟩
            obtain ⟨k, hk, _⟩ := alloc_step hA.2.2 hty e
            rw [hk, AH.get_add, if_neg (by omega)]
        · have hcall : isCall o.op = none := by
            cases hi : isCall o.op with
            | none => rfl
            | some cl => exact absurd (cls_call (by rw [hi]; rfl)) hc
          unfold stepV at e
          rw [hcall] at e
          rw [(loud_same hc hcall (conc_some hA.2.2 e)).1]
          exact ⟨Nat.le_refl _, fun _ _ => rfl⟩
    exact ⟨Nat.le_trans h1 key.1, fun b hb => (key.2 b (Nat.lt_of_lt_of_le hb h1)).trans (h2 b hb)⟩
def Waits (c : Cfg) (N : Nat) (ops : Array Oper) (lo : Option Nat) (w0 : World) (listed : Array Bool) (a : Act) (w : World) (ρ : Rho) (p t : Nat) : Prop :=
  ∃ j o ty, lo = some j ∧ ops[j]? = some o ∧ o.op = .alloc ty ∧ o.dst = some t ∧ p ≤ j ∧ listed.getD j false = true ∧ t < N ∧ Pd c ρ w0 ty (a.tmps.getD t undef) w
structure DInv (D : List Deferred) (c : Cfg) (fo : FO) (N : Nat) (ops : Array Oper) (ord : Nat → Nat → Prop) (lo : Option Nat) (frs : Nat → fo.F) (hs : Nat → AH) (ρ0 : Rho) (h0 : AH) (w0 : World) (listed : Array Bool) (a : Act) (w : World) (ρ : Rho) (p : Nat) : Prop where
  size : listed.size = ops.size
  down : ∀ i j, listed.getD j false = true → ord i j → listed.getD i false = true
  ple : p ≤ ops.size
  spine : ∀ i o, ops[i]? = some o → cls c.P o.op = 2 → lo ≠ some i → (listed.getD i false = true ↔ i < p)
  slate : ∀ j, lo = some j → j < p → listed.getD j false = true
  heap : HR ρ (hs p) w
  step : Step ρ0 h0 w0 ρ (hs p) w
  gok : GOK c ρ
  lives : ∀ q, q ≤ p → ∀ b k, (hs q).get b = some k → b < (hs q).next
  slots : ∀ t : Nat, ∃ d, d ≤ ops.size ∧ (∀ i o, ops[i]? = some o → o.dst = some t → (listed.getD i false = true ↔ i < d)) ∧ (R ρ (fo.get (frs d) t) (a.tmps.getD t undef) ∨ Waits c N ops lo w0 listed a w ρ p t)
  tmps : a.tmps.size = N
  defers : a.defers = D
theorem getD_set (l : Array Bool) (i j : Nat) (hi : i < l.size) : (l.setIfInBounds i true).getD j false = if j = i then true else l.getD j false := by
  simp only [Array.getD_eq_getD_getElem?, Array.getElem?_setIfInBounds]
  by_cases h : j = i
  · subst h; simp [hi]
  · rw [if_neg h, if_neg (fun e => h e.symm)]
theorem ready_iff {listed : Array Bool} (hsz : listed.size = ops.size) {i : Nat} : i ∈ Region.ready .any ops listed ↔ i < ops.size ∧ listed.getD i false = false ∧ ∀ o, ops[i]? = some o → ∀ e, e ∈ o.after.toList → Region.binds .any e = true → listed.getD e.on false = true := by
  unfold Region.ready
  rw [List.mem_filter, List.mem_range]
  constructor
  · rintro ⟨h1, h2⟩
    simp only [Bool.and_eq_true, Bool.not_eq_true'] at h2
    refine ⟨h1, ?_, ?_⟩
    · have h3 := h2.1
      rw [Array.getD_eq_getD_getElem?, Array.getElem?_eq_getElem (by omega), Option.getD_some] at h3
      rw [Array.getD_eq_getD_getElem?, Array.getElem?_eq_getElem (by omega), Option.getD_some]
      exact h3
    · intro o ho e he hb
      have h3 := h2.2
      rw [ho] at h3
      simp only [Option.map_some, Option.getD_some] at h3
      rw [← Array.all_toList, List.all_eq_true] at h3
      have := h3 e he
      simpa [hb] using this
  · rintro ⟨h1, h2, h3⟩
    refine ⟨h1, ?_⟩
    simp only [Bool.and_eq_true, Bool.not_eq_true']
    constructor
    · rw [Array.getD_eq_getD_getElem?, Array.getElem?_eq_getElem (by omega), Option.getD_some] at h2
      rw [Array.getD_eq_getD_getElem?, Array.getElem?_eq_getElem (by omega), Option.getD_some]
      exact h2
    · rw [Array.getElem?_eq_getElem h1]
      simp only [Option.map_some, Option.getD_some]
      rw [← Array.all_toList, List.all_eq_true]
      intro e he
      cases hb : Region.binds .any e with
      | false => rfl
      | true => simpa using h3 ops[i] (Array.getElem?_eq_getElem h1) e he hb
theorem ord_lt {P : Program} (hd : DrawOK P ops qs ord lo) : ∀ (j i : Nat), j < ops.size → ord i j → i < j := by
  intro j
  induction j using Nat.strongRecOn with
  | _ j ih =>
    intro i hj hord
    obtain ⟨e, he, hb, hor⟩ := hd.closed i j ops[j] (Array.getElem?_eq_getElem hj) hord
    have hlt := hd.edge j ops[j] e (Array.getElem?_eq_getElem hj) he hb
    rcases hor with rfl | hor
    · exact hlt
    · have := ih e.on hlt i (by omega) hor
      omega
theorem all_listed {P : Program} (hd : DrawOK P ops qs ord lo) {listed : Array Bool} (hsz : listed.size = ops.size) (hr : Region.ready .any ops listed = []) : ∀ i, i < ops.size → listed.getD i false = true := by
  intro i
  induction i using Nat.strongRecOn with
  | _ i ih =>
    intro hi
    cases hl : listed.getD i false with
    | true => rfl
    | false =>
      exfalso
      have : i ∈ Region.ready .any ops listed := (ready_iff hsz).2 ⟨hi, hl, fun o ho e he hb => by
        have hlt := hd.edge i o e ho he hb
        exact ih e.on hlt (by omega)⟩
      rw [hr] at this
      cases this
theorem frame_at {P : Program} (hd : DrawOK P ops qs ord lo) (ht : ∀ i, i < ops.size → Trace c fo N ops qs i (frs i) (hs i) (frs (i + 1)) (hs (i + 1))) {listed : Array Bool} (hdown : ∀ i j, listed.getD j false = true → ord i j → listed.getD i false = true) {i : Nat} {o : Oper} (hi : i < ops.size) (ho : ops[i]? = some o) (hnl : listed.getD i false = false)
    (hpre : ∀ x, ord x i → listed.getD x false = true) {t d : Nat} (hlook : t ∈ o.looksAt ops) (hdle : d ≤ ops.size) (hdw : ∀ x ox, ops[x]? = some ox → ox.dst = some t → (listed.getD x false = true ↔ x < d)) : fo.get (frs d) t = fo.get (frs i) t := by
  have hwr : ∀ x ox, ops[x]? = some ox → ox.dst = some t → (x < i → x < d) ∧ (i ≤ x → d ≤ x) := by
    intro x ox hx hdst
    by_cases hxi : x = i
    · subst hxi
      refine ⟨fun h => absurd h (Nat.lt_irrefl _), fun _ => ?_⟩
      have h2 := (hdw x ox hx hdst)
      rw [hnl] at h2
      have : ¬ x < d := fun h => by have := h2.2 h; cases this
      omega
    · obtain ⟨s1, s2⟩ := hd.slot x i ox o t hx ho hxi hdst (.inl hlook)
      refine ⟨fun h => (hdw x ox hx hdst).1 (hpre x (s1 h)), fun h => ?_⟩
      have hlt : i < x := by omega
      rcases Nat.lt_or_ge x d with hxd | hxd
      · have := hdown i x ((hdw x ox hx hdst).2 hxd) (s2 hlt)
        rw [hnl] at this; cases this
      · exact hxd
  rcases Nat.le_total d i with hle | hle
  · have := frame_const ht t (i - d) d (by omega) (fun x ox h1 h2 h3 h4 => by have := (hwr x ox h3 h4).1 (by omega); omega)
    rw [show d + (i - d) = i from by omega] at this
    exact this.symm
  · have := frame_const ht t (d - i) i (by omega) (fun x ox h1 h2 h3 h4 => by have := (hwr x ox h3 h4).2 (by omega); omega)
    rw [show i + (d - i) = d from by omega] at this
    exact this
theorem slot_out (ht : ∀ i, i < ops.size → Trace c fo N ops qs i (frs i) (hs i) (frs (i + 1)) (hs (i + 1))) {t : Nat} (htn : ¬ t < N) : ∀ m, m ≤ ops.size → fo.get (frs m) t = fo.get (frs 0) t := by
  intro m
  induction m with
  | zero => intro _; rfl
  | succ m ihm =>
    intro hm
    rw [← ihm (by omega)]
    obtain ⟨om, hom, hhm⟩ := ht m (by omega)
    have hput : ∀ vv : V, fo.get (putF fo N (frs m) om.dst vv) t = fo.get (frs m) t := by
      intro vv
      by_cases he : om.dst = some t
      · rw [he]
        unfold putF
        simp only [Arr.blt_eq, htn, decide_false, cond_false]
      · exact get_putF _ _ _ _ he
    rcases hhm with ⟨_, e, _⟩ | ⟨_, vv, _, e⟩ <;> rw [e] <;> exact hput _
theorem Waits.later {w0 w : World} {listed : Array Bool} {a : Act} {ρ : Rho} {p q t : Nat} (hw : Waits c N ops lo w0 listed a w ρ p t) (hq : ∀ j, lo = some j → p ≤ j → q ≤ j) : Waits c N ops lo w0 listed a w ρ q t := by
  obtain ⟨j, o, ty, h1, h2, h3, h4, h5, h6⟩ := hw
  exact ⟨j, o, ty, h1, h2, h3, h4, hq j h1 h5, h6⟩
theorem commit1 (hA : CAbs c) (hd : DrawOK c.P ops qs ord lo) (ht : ∀ i, i < ops.size → Trace c fo N ops qs i (frs i) (hs i) (frs (i + 1)) (hs (i + 1))) {ρ0 : Rho} {h0 : AH} {w0 : World} (hr0 : HR ρ0 h0 w0) {listed : Array Bool} {a : Act} {w : World} {ρ : Rho} {p : Nat}
    (inv : DInv D c fo N ops ord lo frs hs ρ0 h0 w0 listed a w ρ p) (hp : p < ops.size) (hl : ∀ o, ops[p]? = some o → cls c.P o.op = 2 → listed.getD p false = true) : ∃ ρ', DInv D c fo N ops ord lo frs hs ρ0 h0 w0 listed a w ρ' (p + 1) := by
  obtain ⟨o, ho, hcase⟩ := ht p hp
  by_cases hcl : cls c.P o.op = 2
  · have hlp := hl o ho hcl
    by_cases hlo : lo = some p
    · obtain ⟨o', ty, d, ho', hop, hgd, hdst, hnm⟩ := hd.late p hlo
      rw [ho] at ho'
      cases ho'
      rcases hcase with ⟨hw, _⟩ | ⟨_, v, hstep, hfr⟩
      · unfold wantedV at hw
        rw [hgd] at hw
        cases hw
      · obtain ⟨k, hk, zs, hz, rfl, rfl⟩ := alloc_step hA.2.2 hop hstep
        obtain ⟨q1, q2⟩ := stepV_astep hA hstep
        have hval : ∀ t d', o.dst = some t → t < N → p < d' → d' ≤ ops.size → fo.get (frs d') t = .ptr ⟨(hs p).next, zs.length, 0⟩ := by
          intro t d' hdt htn hpd d1
          rw [hdst] at hdt
          cases hdt
          have hfc := frame_const (fo := fo) ht d (d' - (p + 1)) (p + 1) (by omega) (fun x ox h1 h2 hx => (hnm x ox hx (by omega)).1)
          rw [show p + 1 + (d' - (p + 1)) = d' from by omega] at hfc
          rw [hfc, hfr, hdst]
          unfold putF
          simp only [Arr.blt_eq, htn, decide_true, cond_true, fo.get_set, if_true]
        have common : ∀ ρ', ρ.le ρ' → HR ρ' (hs (p + 1)) w → Step ρ0 h0 w0 ρ' (hs (p + 1)) w → (d < N → R ρ' (.ptr ⟨(hs p).next, zs.length, 0⟩) (a.tmps.getD d undef)) → ∃ ρ', DInv D c fo N ops ord lo frs hs ρ0 h0 w0 listed a w ρ' (p + 1) := by
          intro ρ' hle hH hS hdR
          refine ⟨ρ', inv.size, inv.down, hp, ?_, ?_, hH, hS, inv.gok.mono hle, ?_, ?_, inv.tmps, inv.defers⟩
          · intro i oi hi hc hne
            rw [inv.spine i oi hi hc hne]
            constructor
            · intro h; omega
            · intro h
              have : i ≠ p := fun e => hne (by rw [e]; exact hlo)
              omega
          · intro j hj hlt
            rw [hlo] at hj
            cases hj
            exact hlp
          · intro q hq b kk hb
            by_cases hqp : q ≤ p
            · exact inv.lives q hqp b kk hb
            · obtain rfl : q = p + 1 := by omega
              exact hH.lives b kk hb
          · intro t
            obtain ⟨d', d1, d2, d3⟩ := inv.slots t
            refine ⟨d', d1, d2, .inl ?_⟩
            by_cases htd : t = d
            · subst htd
              by_cases htn : t < N
              · have hpd : p < d' := (d2 p o ho hdst).1 hlp
                rw [hval t d' hdst htn hpd d1]
                exact hdR htn
              · rcases d3 with d3 | ⟨_, _, _, _, _, _, _, _, _, htn', _⟩
                · exact d3.mono hle
                · exact absurd htn' htn
            · rcases d3 with d3 | ⟨j, oj, ty', h1, h2, h3, h4, h5, h6, h7, h8⟩
              · exact d3.mono hle
              · rw [hlo] at h1
                cases h1
                rw [ho] at h2
                cases h2
                rw [hdst] at h4
                cases h4
                exact absurd rfl htd
        have alone : (d < N → R ρ (.ptr ⟨(hs p).next, zs.length, 0⟩) (a.tmps.getD d undef)) → ∃ ρ', DInv D c fo N ops ord lo frs hs ρ0 h0 w0 listed a w ρ' (p + 1) := fun hdR =>
          common ρ (Rho.le_refl ρ) (by rw [hk]; exact inv.heap.add_alone _ (Nat.zero_le _)) (by rw [hk]; exact inv.step.adopt hr0 _ (Rho.le_refl ρ) (fun _ _ _ _ h _ => h) (fun _ _ _ h => .inr h)) hdR
        obtain ⟨d', d1, d2, d3⟩ := inv.slots d
        have hpd : p < d' := (d2 p o ho hdst).1 hlp
        rcases d3 with d3 | ⟨j, oj, ty', i1, i2, i3, i4, i5, i6, i7, i8⟩
        · exact alone fun hdn => by rw [← hval d d' hdst hdn hpd d1]; exact d3
        · rw [hlo] at i1
          cases i1
          rw [ho] at i2
          cases i2
          rw [hop] at i3
          cases i3
          obtain ⟨cb, ti, z, j1, j2, j3, j4, j5, j6, j7⟩ := i8
          obtain ⟨ti', z', hi', hz', hR, _, hc, _, _⟩ := zeroOf_spec hz ρ
          rw [j4] at hi'
          cases hi'
          rw [j5] at hz'
          cases hz'
          have hlen : zs.length = z.cells.size := by simpa using hR.length
          obtain ⟨ρ', g1, g2, g3, g4⟩ := adopt_sound inv.heap ⟨Arr.make zs.length zs, 0, 0, false, ty⟩ z.cells 0 0 cb j3 j6 j7 (by simp [hlen]) (fun j v hv => by
            simp only [Arr.get_make] at hv
            split at hv
            · rename_i hj
              rw [Nat.mod_eq_of_lt hj] at hv
              obtain ⟨u, hu, hRu⟩ := hR.get hv
              rw [Array.getElem?_toList] at hu
              exact ⟨u, hu, hRu⟩
            · cases hv) (fun i _ _ => by omega) (Nat.le_refl 0) (Nat.zero_le _)
          refine common ρ' g1 (by rw [hk]; exact g2) (by rw [hk]; exact inv.step.adopt hr0 _ g1 (fun b L cc x hx hlt => (g3 b L cc x hx).resolve_left (by omega)) (fun b L x hx => (g3 b L x.1 x.2 hx).imp (fun e => e.2) id)) fun _ => ?_
          rw [j1]
          rw [Arr.make_n] at g4
          exact ⟨_, rfl, cb, 0, z.cells.size, g4, Int.le_refl _, rfl⟩
    · have := (inv.spine p o ho hcl hlo).1 hlp
      omega
  · have hsame : hs (p + 1) = hs p := by
      have := heap_const hA.2.2 ht 1 p (by omega) (fun x ox h1 h2 hx => by
        obtain rfl : x = p := by omega
        rw [ho] at hx
        cases hx
        exact hcl)
      exact this
    refine ⟨ρ, inv.size, inv.down, hp, ?_, ?_, by rw [hsame]; exact inv.heap, by rw [hsame]; exact inv.step, inv.gok, ?_, ?_, inv.tmps, inv.defers⟩
    · intro i oi hi hc hne
      rw [inv.spine i oi hi hc hne]
      constructor
      · intro h; omega
      · intro h
        have : i ≠ p := fun e => by subst e; rw [ho] at hi; cases hi; exact hcl hc
        omega
    · intro j hj hlt
      have : j ≠ p := fun e => by
        subst e
        obtain ⟨o', ty, d, ho', hop, _⟩ := hd.late j hj
        rw [ho] at ho'
        cases ho'
        exact hcl (by rw [hop]; rfl)
      exact inv.slate j hj (by omega)
    · intro q hq b kk hb
      by_cases hqp : q ≤ p
      · exact inv.lives q hqp b kk hb
      · obtain rfl : q = p + 1 := by omega
        rw [hsame] at hb ⊢
        exact inv.lives p (Nat.le_refl _) b kk hb
    · intro t
      obtain ⟨d', d1, d2, d3⟩ := inv.slots t
      refine ⟨d', d1, d2, d3.imp (fun h => h) fun hw => hw.later fun j hj hpj => ?_⟩
      have : j ≠ p := fun e => by
        subst e
        obtain ⟨o', ty, d, ho', hop, _⟩ := hd.late j hj
        rw [ho] at ho'
        cases ho'
        exact hcl (by rw [hop]; rfl)
      omega
theorem commit (hA : CAbs c) (hd : DrawOK c.P ops qs ord lo) (ht : ∀ i, i < ops.size → Trace c fo N ops qs i (frs i) (hs i) (frs (i + 1)) (hs (i + 1))) {ρ0 : Rho} {h0 : AH} {w0 : World} (hr0 : HR ρ0 h0 w0) {listed : Array Bool} {a : Act} {w : World} : ∀ (m : Nat) {ρ : Rho} {p : Nat},
    DInv D c fo N ops ord lo frs hs ρ0 h0 w0 listed a w ρ p → p + m ≤ ops.size → (∀ x o, ops[x]? = some o → x < p + m → cls c.P o.op = 2 → listed.getD x false = true) → ∃ ρ', DInv D c fo N ops ord lo frs hs ρ0 h0 w0 listed a w ρ' (p + m) := by
  intro m
  induction m with
  | zero => intro ρ p inv _ _; exact ⟨ρ, inv⟩
  | succ m ih =>
    intro ρ p inv hp hl
    obtain ⟨ρ1, inv1⟩ := commit1 hA hd ht hr0 inv (by omega) (fun o ho hc => hl p o ho (by omega) hc)
    obtain ⟨ρ2, inv2⟩ := ih inv1 (by omega) (fun x o ho hx hc => hl x o ho (by omega) hc)
    exact ⟨ρ2, by rw [show p + (m + 1) = p + 1 + m by omega]; exact inv2⟩
theorem commit_to (hA : CAbs c) (hd : DrawOK c.P ops qs ord lo) (ht : ∀ i, i < ops.size → Trace c fo N ops qs i (frs i) (hs i) (frs (i + 1)) (hs (i + 1))) {ρ0 : Rho} {h0 : AH} {w0 : World} (hr0 : HR ρ0 h0 w0) {listed : Array Bool} {a : Act} {w : World} {q : Nat} {ρ : Rho} {p : Nat}
    (inv : DInv D c fo N ops ord lo frs hs ρ0 h0 w0 listed a w ρ p) (hpq : p ≤ q) (hq : q ≤ ops.size) (hl : ∀ x o, ops[x]? = some o → x < q → cls c.P o.op = 2 → listed.getD x false = true) : ∃ ρ', DInv D c fo N ops ord lo frs hs ρ0 h0 w0 listed a w ρ' q := by
  have := commit hA hd ht hr0 (q - p) inv (by omega) (fun x o ho hx hc => hl x o ho (by omega) hc)
  rw [show p + (q - p) = q by omega] at this
  exact this
theorem alloc_run {P : Program} {o : Oper} {ty : TypeId} {z : Value} (hop : o.op = .alloc ty) (hrun : ∀ w, (zeroValue ty).run P w = .ok z w) {f : Operand → Value} {w : World} : (execOp f o).run P w = .ok (.value (.pointer (some ⟨w.heap.size, 0, none⟩))) { w with heap := w.heap.push (.cells z.cells ty) } := by
  obtain ⟨dst, op, t, pos, after, guard⟩ := o
  simp only at hop
  subst hop
  simp [execOp, Instr.alloc, hrun, newVar, run_newRow]
theorem draw_wp (hC : CSound c) (hX : XSound c) (hA : CAbs c) (hd : DrawOK c.P ops qs ord lo) (ht : ∀ i, i < ops.size → Trace c fo N ops qs i (frs i) (hs i) (frs (i + 1)) (hs (i + 1))) {Q : Exit → Act → World → Prop} {r : V × AH} {k : fo.F → AH → Res} (hk : k (frs ops.size) (hs ops.size) = some r)
    {ρ0 : Rho} {h0 : AH} {w0 : World} (hr0 : HR ρ0 h0 w0) (hp : Post D c fo N ρ0 h0 w0 r k (Q .normal)) : ∀ (fuel : Nat) (listed : Array Bool) (a : Act) (w : World) (ρ : Rho) (p : Nat),
    (listed.toList.filter (· == false)).length ≤ fuel → DInv D c fo N ops ord lo frs hs ρ0 h0 w0 listed a w ρ p → wpAny c.P .any ops Q fuel listed a w := by
  have done : ∀ (listed : Array Bool) (a : Act) (w : World) (ρ : Rho) (p : Nat), DInv D c fo N ops ord lo frs hs ρ0 h0 w0 listed a w ρ p → Region.ready .any ops listed = [] → Q .normal a w := by
    intro listed a w ρ p inv hr
    have hall := all_listed hd inv.size hr
    obtain ⟨ρ, inv⟩ := commit_to hA hd ht hr0 inv inv.ple (Nat.le_refl _) (fun x o ho hx _ => hall x hx)
    refine hp (frs ops.size) (hs ops.size) a w ρ hk ?_ inv.tmps inv.defers inv.gok inv.heap inv.step
    intro t
    obtain ⟨d, d1, d2, d3⟩ := inv.slots t
    have := frame_const ht t (ops.size - d) d (by omega) (fun i o h1 h2 ho hdst => by
      have := (d2 i o ho hdst).1 (hall i (by omega))
      omega)
    rw [show d + (ops.size - d) = ops.size from by omega] at this
    rw [this]
    refine d3.resolve_right ?_
    rintro ⟨j, o, _, _, ho, _, _, hj, _⟩
    have := (Array.getElem?_eq_some_iff.1 ho).1
    omega
  intro fuel
  induction fuel with
  | zero =>
    intro listed a w ρ p hf inv
    have hready : Region.ready .any ops listed = [] := by
      apply List.eq_nil_iff_forall_not_mem.2
      intro i hi
      obtain ⟨h1, h2, _⟩ := (ready_iff inv.size).1 hi
      have hnil : listed.toList.filter (· == false) = [] := List.eq_nil_of_length_eq_zero (by omega)
      have hmem : false ∈ listed.toList.filter (· == false) := by
        rw [List.mem_filter]
        refine ⟨?_, rfl⟩
        rw [Array.getD_eq_getD_getElem?, Array.getElem?_eq_getElem (by rw [inv.size]; exact h1), Option.getD_some] at h2
        rw [← h2]
        exact Array.mem_toList_iff.2 (Array.getElem_mem _)
      rw [hnil] at hmem
      cases hmem
    exact ⟨hready, done listed a w ρ p inv hready⟩
  | succ fuel ih =>
    intro listed a w ρ p hf inv
    refine ⟨done listed a w ρ p inv, fun i hi => ?_⟩
    obtain ⟨hilt, hnl, hedges⟩ := (ready_iff inv.size).1 hi
    obtain ⟨o, ho, hcase⟩ := ht i hilt
    have hpre : ∀ x, ord x i → listed.getD x false = true := by
      intro x hx
      obtain ⟨e, he, hb, hor⟩ := hd.closed x i o ho hx
      have hl := hedges o ho e he hb
      rcases hor with rfl | hor
      · exact hl
      · exact inv.down x e.on hl hor
    have hislt : i < listed.size := by rw [inv.size]; exact hilt
    have hcount : ((listed.setIfInBounds i true).toList.filter (· == false)).length ≤ fuel := by
      have h1 : listed.toList[i]? = some false := by
        rw [Array.getD_eq_getD_getElem?, Array.getElem?_eq_getElem hislt, Option.getD_some] at hnl
        rw [Array.getElem?_toList, Array.getElem?_eq_getElem hislt, hnl]
      rw [Array.toList_setIfInBounds]
      have : ∀ (l : List Bool) (i : Nat), l[i]? = some false → ((l.set i true).filter (· == false)).length + 1 = (l.filter (· == false)).length := by
        intro l
        induction l with
        | nil => intro i h; simp at h
        | cons b l ihl =>
          intro i h
          cases i with
          | zero => simp at h; subst h; simp
          | succ i =>
            have := ihl i (by simpa using h)
            cases b <;> simp [List.set_cons_succ] <;> simpa using this
      have := this listed.toList i h1
      omega
    obtain ⟨ρ, p, inv, hnw, hturn⟩ : ∃ ρ p, DInv D c fo N ops ord lo frs hs ρ0 h0 w0 listed a w ρ p ∧ (∀ t, t ∈ o.looksAt ops → ¬ Waits c N ops lo w0 listed a w ρ p t) ∧
        (cls c.P o.op = 2 → (lo ≠ some i ∨ ∀ x ox, ops[x]? = some ox → x < i → cls c.P ox.op = 2 → listed.getD x false = true) → p = i) := by
      have hlook : ∀ t j oj ty, t ∈ o.looksAt ops → lo = some j → ops[j]? = some oj → oj.op = .alloc ty → oj.dst = some t → listed.getD j false = true → j < i ∧ ∀ l ol, ops[l]? = some ol → l < j → cls c.P ol.op = 2 → ord l i := by
        intro t j oj ty hl h1 h2 h3 h4 h6
        obtain ⟨oj', ty', d', e1, e2, e3, e4, hnm⟩ := hd.late j h1
        rw [h2] at e1
        cases e1
        rw [h4] at e4
        cases e4
        have hij : i ≠ j := fun e => by rw [e, h6] at hnl; cases hnl
        exact (hnm i o ho hij).2 hl
      by_cases hc2 : cls c.P o.op = 2 ∧ (lo ≠ some i ∨ ∀ x ox, ops[x]? = some ox → x < i → cls c.P ox.op = 2 → listed.getD x false = true)
      · obtain ⟨hcl, hor⟩ := hc2
        have hall : ∀ x ox, ops[x]? = some ox → x < i → cls c.P ox.op = 2 → listed.getD x false = true := by
          rcases hor with hne | hall
          · intro x ox hx hlt hc
            exact hpre x ((hd.spine x i ox o hx ho hlt hc hcl).resolve_left hne)
          · exact hall
        have hip : p ≤ i := by
          rcases Nat.lt_or_ge i p with hlt | hge
          · have : listed.getD i false = true := by
              by_cases hlo : lo = some i
              · exact inv.slate i hlo hlt
              · exact (inv.spine i o ho hcl hlo).2 hlt
            rw [hnl] at this; cases this
          · exact hge
        obtain ⟨ρ', inv'⟩ := commit_to hA hd ht hr0 inv hip (Nat.le_of_lt hilt) hall
        refine ⟨ρ', i, inv', fun t hl hw => ?_, fun _ _ => rfl⟩
        obtain ⟨j, oj, ty, h1, h2, h3, h4, h5, h6, _⟩ := hw
        have := (hlook t j oj ty hl h1 h2 h3 h4 h6).1
        omega
      · by_cases hwt : ∃ t, t ∈ o.looksAt ops ∧ Waits c N ops lo w0 listed a w ρ p t
        · obtain ⟨t, hl, j, oj, ty, h1, h2, h3, h4, h5, h6, h7, h8⟩ := hwt
          obtain ⟨hji, hbef⟩ := hlook t j oj ty hl h1 h2 h3 h4 h6
          obtain ⟨ρ', inv'⟩ := commit_to hA hd ht hr0 (q := j + 1) inv (by omega) (by omega) (fun x ox hx hxj hc => by
            by_cases hxe : x = j
            · rw [hxe]; exact h6
            · exact hpre x (hbef x ox hx (by omega) hc))
          refine ⟨ρ', j + 1, inv', fun t' _ hw => ?_, fun h1 h2 => absurd ⟨h1, h2⟩ hc2⟩
          obtain ⟨j', _, _, k1, _, _, _, k2, _⟩ := hw
          rw [h1] at k1
          cases k1
          omega
        · exact ⟨ρ, p, inv, fun t hl hw => hwt ⟨t, hl, hw⟩, fun h1 h2 => absurd ⟨h1, h2⟩ hc2⟩
    have hwait : ∀ {ρ' : Rho} {w' : World} {p' : Nat} {u : Value} {ha hb : AH}, Step ρ ha w ρ' hb w' → (∀ j, listed.getD j false = true → p ≤ j → p' ≤ j) → ∀ t, o.dst ≠ some t → Waits c N ops lo w0 listed a w ρ p t → Waits c N ops lo w0 (listed.setIfInBounds i true) (a.put o.dst u) w' ρ' p' t := by
      intro ρ' w' p' u ha hb hst hpp t hdt hw
      obtain ⟨j, oj, ty, h1, h2, h3, h4, h5, h6, h7, h8⟩ := hw
      refine ⟨j, oj, ty, h1, h2, h3, h4, hpp j h6 h5, ?_, h7, ?_⟩
      · rw [getD_set _ _ _ hislt]
        split
        · rfl
        · exact h6
      · have : (a.put o.dst u).tmps.getD t undef = a.tmps.getD t undef := by
          cases hdd : o.dst with
          | none => rfl
          | some dd =>
            simp only [Act.put, Array.getD_eq_getD_getElem?, Array.getElem?_setIfInBounds]
            rw [if_neg]
            intro he
            exact hdt (by rw [hdd, he])
        rw [this]
        exact h8.step hst
    have hslot : ∀ t, t ∈ o.looksAt ops → R ρ (fo.get (frs i) t) (a.tmps.getD t undef) := by
      intro t hlook
      obtain ⟨d, d1, d2, d3⟩ := inv.slots t
      rw [← frame_at hd ht inv.down hilt ho hnl hpre hlook d1 d2]
      exact d3.resolve_right (hnw t hlook)
    have hdown' : ∀ x j, (listed.setIfInBounds i true).getD j false = true → ord x j → (listed.setIfInBounds i true).getD x false = true := by
      intro x j hj hx
      rw [getD_set _ _ _ hislt] at hj ⊢
      by_cases hxi : x = i
      · rw [if_pos hxi]
      · rw [if_neg hxi]
        by_cases hji : j = i
        · subst hji; exact hpre x hx
        · rw [if_neg hji] at hj; exact inv.down x j hj hx
    have hslots' : ∀ (v : V) (u : Value) (ρ' : Rho) (w' : World) (p' : Nat), ρ.le ρ' → R ρ' v u → (fo.get (frs (i + 1)) = fo.get (putF fo N (frs i) o.dst v)) → (∀ t, o.dst ≠ some t → Waits c N ops lo w0 listed a w ρ p t → Waits c N ops lo w0 (listed.setIfInBounds i true) (a.put o.dst u) w' ρ' p' t) → ∀ t : Nat, ∃ d, d ≤ ops.size ∧ (∀ x ox, ops[x]? = some ox → ox.dst = some t → ((listed.setIfInBounds i true).getD x false = true ↔ x < d)) ∧ (R ρ' (fo.get (frs d) t) ((a.put o.dst u).tmps.getD t undef) ∨ Waits c N ops lo w0 (listed.setIfInBounds i true) (a.put o.dst u) w' ρ' p' t) := by
      intro v u ρ' w' p' hle hR hfr hW t
      by_cases hdst : o.dst = some t
      · refine ⟨i + 1, hilt, ?_, ?_⟩
        · intro x ox hx hxd
          rw [getD_set _ _ _ hislt]
          by_cases hxi : x = i
          · subst hxi; simp
          · rw [if_neg hxi]
            obtain ⟨s1, s2⟩ := hd.slot x i ox o t hx ho hxi hxd (.inr hdst)
            constructor
            · intro hl
              rcases Nat.lt_or_ge x i with hlt | hge
              · omega
              · have := inv.down i x hl (s2 (by omega))
                rw [hnl] at this; cases this
            · intro hlt
              exact hpre x (s1 (by omega))
        · refine .inl ?_
          rw [hfr, hdst]
          unfold putF Act.put
          simp only [Array.getD_eq_getD_getElem?]
          rw [Arr.blt_eq]
          by_cases htn : t < N
          · simp only [htn, decide_true, cond_true, fo.get_set, if_true, Array.getElem?_setIfInBounds]
            rw [if_pos (by rw [inv.tmps]; exact htn)]
            exact hR
          · simp only [htn, decide_false, cond_false, Array.getElem?_setIfInBounds, if_true]
            rw [if_neg (by rw [inv.tmps]; exact htn)]
            obtain ⟨d, d1, d2, d3⟩ := inv.slots t
            have d3 : R ρ (fo.get (frs d) t) (a.tmps.getD t undef) := d3.resolve_right (by rintro ⟨_, _, _, _, _, _, _, _, _, htn', _⟩; exact htn htn')
            rw [slot_out ht htn i (by omega), ← slot_out ht htn d d1]
            have := d3.mono hle
            rw [Array.getD_eq_getD_getElem?, Array.getElem?_eq_none (by rw [inv.tmps]; omega)] at this
            exact this
      · obtain ⟨d, d1, d2, d3⟩ := inv.slots t
        refine ⟨d, d1, ?_, ?_⟩
        · intro x ox hx hxd
          rw [getD_set _ _ _ hislt]
          have hxi : x ≠ i := by
            rintro rfl
            rw [ho] at hx
            cases hx
            exact hdst hxd
          rw [if_neg hxi]
          exact d2 x ox hx hxd
        · have : (a.put o.dst u).tmps.getD t undef = a.tmps.getD t undef := by
            cases hdd : o.dst with
            | none => rfl
            | some dd =>
              simp only [Act.put, Array.getD_eq_getD_getElem?, Array.getElem?_setIfInBounds]
              rw [if_neg]
              intro he
              exact hdst (by rw [hdd, he])
          rw [this]
          exact d3.imp (fun d3 => d3.mono hle) (hW t hdst)
    unfold wpOp
    rw [ho]
    simp only
    have hwant : ∀ b, wantedV fo ops o (frs i) = some b → Region.wanted o (yielded ops a.tmps) = b := by
      intro b hw
      let fr' : Nat → V := fun t => if t ∈ o.looksAt ops then fo.get (frs i) t else .bad
      have hfr' : FR foFun ρ fr' a.tmps := by
        intro t
        show R ρ (if t ∈ o.looksAt ops then fo.get (frs i) t else .bad) _
        by_cases hl : t ∈ o.looksAt ops
        · rw [if_pos hl]; exact hslot t hl
        · rw [if_neg hl]; trivial
      refine wantedV_sound (fo := foFun) hfr' ?_
      rw [← hw]
      unfold wantedV
      cases hg : o.guard with
      | none => rfl
      | some jb =>
        obtain ⟨j, b'⟩ := jb
        simp only
        cases hdd : (ops[j]?).bind (·.dst) with
        | none => rfl
        | some dd =>
          simp only
          have : foFun.get fr' dd = fo.get (frs i) dd := by
            show (if dd ∈ o.looksAt ops then fo.get (frs i) dd else .bad) = _
            rw [if_pos (mem_guard hg hdd)]
          rw [this]
    rcases hcase with ⟨hw, hfr, hhp⟩ | ⟨hw, v, hstep, hfr⟩
    · rw [hwant false hw]
      simp only [Bool.false_eq_true, if_false]
      have hnlo : lo ≠ some i := fun hlo => by
        obtain ⟨o', ty, d, ho', _, hgd, _⟩ := hd.late i hlo
        rw [ho] at ho'
        cases ho'
        unfold wantedV at hw
        rw [hgd] at hw
        cases hw
      by_cases hcl : cls c.P o.op = 2
      · 
        have hpi := hturn hcl (.inl hnlo)
        subst p
        refine ih _ _ _ ρ (i + 1) hcount ⟨by simpa using inv.size, hdown', hilt, ?_, ?_, ?_, ?_, inv.gok, ?_, ?_, by rw [put_size]; exact inv.tmps, by rw [put_defers]; exact inv.defers⟩
        · intro x ox hx hc hne
          rw [getD_set _ _ _ hislt]
          by_cases hxi : x = i
          · subst hxi; simp
          · rw [if_neg hxi, inv.spine x ox hx hc hne]
            constructor <;> (intro h; omega)
        · intro j hj hlt
          rw [getD_set _ _ _ hislt]
          split
          · rfl
          · exact inv.slate j hj (by omega)
        · rw [hhp]; exact inv.heap
        · rw [hhp]; exact inv.step
        · intro q hq b kk hb
          by_cases hqp : q ≤ i
          · exact inv.lives q hqp b kk hb
          · obtain rfl : q = i + 1 := by omega
            rw [hhp] at hb ⊢
            exact inv.lives i (Nat.le_refl _) b kk hb
        · exact hslots' undefV undef ρ w (i + 1) (Rho.le_refl ρ) (undefV_R ρ) (by rw [hfr]) (hwait (Step.refl ρ (hs i) w) fun j hj hij => by
            have : j ≠ i := fun e => by rw [e, hnl] at hj; cases hj
            omega)
      · refine ih _ _ _ ρ p hcount ⟨by simpa using inv.size, hdown', inv.ple, ?_, ?_, inv.heap, inv.step, inv.gok, inv.lives, ?_, by rw [put_size]; exact inv.tmps, by rw [put_defers]; exact inv.defers⟩
        · intro x ox hx hc hne
          rw [getD_set _ _ _ hislt, if_neg (by rintro rfl; rw [ho] at hx; cases hx; exact hcl hc)]
          exact inv.spine x ox hx hc hne
        · intro j hj hlt
          rw [getD_set _ _ _ hislt]
          split
          · rfl
          · exact inv.slate j hj hlt
        · exact hslots' undefV undef ρ w p (Rho.le_refl ρ) (undefV_R ρ) (by rw [hfr]) (hwait (Step.refl ρ (hs p) w) fun j _ h => h)
    · rw [hwant true hw]
      simp only [if_true]
      refine .inl ?_
      let ev' : Operand → V := fun x => match x with
        | .tmp t => if t ∈ o.looksAt ops then fo.get (frs i) t else .bad
        | x => evO c fo (frs i) x
      have hev : ∀ x, R ρ (ev' x) (a.eval x) := by
        intro x
        cases x with
        | tmp t =>
          show R ρ (if t ∈ o.looksAt ops then fo.get (frs i) t else .bad) _
          by_cases hl : t ∈ o.looksAt ops
          · rw [if_pos hl]; exact hslot t hl
          · rw [if_neg hl]; trivial
        | const vv => exact absC_R ρ vv
        | global g =>
          show R ρ (evO c fo (frs i) (.global g)) _
          simp only [evO]
          cases hG : c.G g with
          | none => trivial
          | some L =>
            obtain ⟨S, hS⟩ := inv.gok g L hG
            exact ⟨_, rfl, g, 0, S, hS, Int.le_refl _, rfl⟩
        | func f => exact ⟨_, _, rfl, rfl, rfl⟩
      have hcongr : ∀ h, stepV c (qs i) o.op (evO c fo (frs i)) h = stepV c (qs i) o.op ev' h := fun h => stepV_congr (fun x hx => by
        cases x with
        | tmp t =>
          show fo.get (frs i) t = if t ∈ o.looksAt ops then fo.get (frs i) t else .bad
          rw [if_pos (mem_looks hx)]
        | _ => rfl) h
      rw [hcongr] at hstep
      by_cases hcl : cls c.P o.op = 2
      · by_cases hor : lo ≠ some i ∨ ∀ x ox, ops[x]? = some ox → x < i → cls c.P ox.op = 2 → listed.getD x false = true
        · have hpi := hturn hcl hor
          subst p
          refine stepV_wp hC hX inv.gok inv.heap hev hstep ?_
          intro u w' ρ' g1 g2 g3
          refine ih _ _ _ ρ' (i + 1) hcount ⟨by simpa using inv.size, hdown', hilt, ?_, ?_, g2, Step.trans hr0 inv.step g3, inv.gok.mono g3.le, ?_, ?_, by rw [put_size]; exact inv.tmps, by rw [put_defers]; exact inv.defers⟩
          · intro x ox hx hc hne
            rw [getD_set _ _ _ hislt]
            by_cases hxi : x = i
            · subst hxi; simp
            · rw [if_neg hxi, inv.spine x ox hx hc hne]
              constructor <;> (intro h; omega)
          · intro j hj hlt
            rw [getD_set _ _ _ hislt]
            split
            · rfl
            · exact inv.slate j hj (by omega)
          · intro q hq b kk hb
            by_cases hqp : q ≤ i
            · exact inv.lives q hqp b kk hb
            · obtain rfl : q = i + 1 := by omega
              exact g2.lives b kk hb
          · exact hslots' v u ρ' w' (i + 1) g3.le g1 (by rw [hfr]) (hwait g3 fun j hj hij => by
              have : j ≠ i := fun e => by rw [e, hnl] at hj; cases hj
              omega)
        · 
          have hlo : lo = some i := Classical.byContradiction fun h => hor (.inl h)
          obtain ⟨o', ty, d, ho', hop, hgd, hdst, hnm⟩ := hd.late i hlo
          rw [ho] at ho'
          cases ho'
          obtain ⟨k, hk', zs, hz, rfl, rfl⟩ := alloc_step hA.2.2 hop hstep
          obtain ⟨ti, z, hti, hzz, hR, _, _, _, hrun⟩ := zeroOf_spec hz ρ
          unfold Oper.wp
          rw [alloc_run hop hrun, Oper.upon_value]
          have hpi : p ≤ i := by
            rcases Nat.lt_or_ge i p with hlt | hge
            · have := inv.slate i hlo hlt
              rw [hnl] at this; cases this
            · exact hge
          have hput : ∀ t, o.dst ≠ some t → (a.put o.dst (.pointer (some ⟨w.heap.size, 0, none⟩))).tmps.getD t undef = a.tmps.getD t undef := by
            intro t hdt
            rw [hdst]
            simp only [Act.put, Array.getD_eq_getD_getElem?, Array.getElem?_setIfInBounds]
            rw [if_neg]
            intro he
            exact hdt (by rw [hdst, he])
          refine ih _ _ _ ρ p hcount ⟨by simpa using inv.size, hdown', inv.ple, ?_, ?_, inv.heap.push rfl, inv.step.push rfl rfl rfl rfl, inv.gok, inv.lives, ?_, by rw [put_size]; exact inv.tmps, by rw [put_defers]; exact inv.defers⟩
          · intro x ox hx hc hne
            rw [getD_set _ _ _ hislt, if_neg (by rintro rfl; exact hne hlo)]
            exact inv.spine x ox hx hc hne
          · intro j hj hlt
            rw [getD_set _ _ _ hislt]
            split
            · rfl
            · exact inv.slate j hj hlt
          · intro t
            by_cases htd : o.dst = some t
            · have honly : ∀ x ox, ops[x]? = some ox → ox.dst = some t → ((listed.setIfInBounds i true).getD x false = true ↔ x < i + 1) := by
                intro x ox hx hxd
                have hxi : x = i := Classical.byContradiction fun hne => by
                  have h1 := (hnm x ox hx hne).1
                  rw [hdst] at htd
                  cases htd
                  exact h1 hxd
                subst hxi
                rw [getD_set _ _ _ hislt]
                simp
              refine ⟨i + 1, hilt, honly, ?_⟩
              by_cases htn : t < N
              · refine .inr ⟨i, o, ty, hlo, ho, hop, htd, hpi, by rw [getD_set _ _ _ hislt, if_pos rfl], htn, w.heap.size, ti, z, ?_, inv.step.size, by simp, hti, hzz, by simp, fun b L x hx => ?_⟩
                · rw [htd]
                  simp only [Act.put, Array.getD_eq_getD_getElem?, Array.getElem?_setIfInBounds, if_true]
                  rw [if_pos (by rw [inv.tmps]; exact htn)]
                  rfl
                · have := inv.heap.bound _ _ _ _ hx
                  omega
              · refine .inl ?_
                obtain ⟨d', d1, d2, d3⟩ := inv.slots t
                have d3 : R ρ (fo.get (frs d') t) (a.tmps.getD t undef) := d3.resolve_right (by rintro ⟨_, _, _, _, _, _, _, _, _, htn', _⟩; exact htn htn')
                rw [slot_out ht htn (i + 1) hilt, ← slot_out ht htn d' d1]
                have e1 : ∀ u, (a.put o.dst u).tmps.getD t undef = undef := fun u => by
                  rw [Array.getD_eq_getD_getElem?, Array.getElem?_eq_none (by rw [put_size, inv.tmps]; omega)]; rfl
                rw [e1]
                rw [Array.getD_eq_getD_getElem?, Array.getElem?_eq_none (by rw [inv.tmps]; omega)] at d3
                exact d3
            · obtain ⟨d', d1, d2, d3⟩ := inv.slots t
              refine ⟨d', d1, ?_, .inl ?_⟩
              · intro x ox hx hxd
                rw [getD_set _ _ _ hislt]
                have hxi : x ≠ i := by
                  rintro rfl
                  rw [ho] at hx
                  cases hx
                  exact htd hxd
                rw [if_neg hxi]
                exact d2 x ox hx hxd
              · rw [hput t htd]
                refine d3.resolve_right ?_
                rintro ⟨j, oj, _, k1, k2, _, k4, _⟩
                rw [hlo] at k1
                cases k1
                rw [ho] at k2
                cases k2
                exact htd k4
      · 
        have hcall : isCall o.op = none := by
          cases hi : isCall o.op with
          | none => rfl
          | some cl => exact absurd (cls_call (by rw [hi]; rfl)) hcl
        have hconc : conc (c.hint o.op) (sop c.P o.op ev' (hs i)) = some (v, hs (i + 1)) := by
          have := hstep
          unfold stepV at this
          rw [hcall] at this
          exact this
        have hsop : sop c.P o.op ev' (hs i) = some (v, hs (i + 1)) := conc_some hA.2.2 hconc
        obtain ⟨hsame, hmove⟩ := loud_same hcl hcall hsop
        have hsop' : sop c.P o.op ev' (hs p) = some (v, hs p) := by
          · refine hmove (hs p) ?_
            intro hc0 x b hb hsome
            have hbp : b < (hs p).next := by
              have hR := hev x
              cases hx : ev' x <;> rw [hx] at hR hb <;> simp only [blockOf, reduceCtorEq, Option.some.injEq] at hb
              · obtain ⟨_, _, cb, sh, S, h1, _⟩ := hR; subst hb; exact inv.heap.fresh _ _ _ h1
              · obtain ⟨cb, sh, S, cc, _, h1, _⟩ := hR; subst hb; exact inv.heap.fresh _ _ _ h1
              · obtain ⟨cb, S, _, h1⟩ := hR; subst hb; exact inv.heap.fresh _ _ _ h1
            have hlt : ∀ x ox, ops[x]? = some ox → lo = some x → ∃ ty, ox.op = .alloc ty := by
              intro x ox hx hlo
              obtain ⟨o', ty, _, ho', hop, _⟩ := hd.late x hlo
              rw [hx] at ho'
              cases ho'
              exact ⟨ty, hop⟩
            have hq : ∀ x ox, ops[x]? = some ox → cls c.P ox.op = 2 → (lo ≠ some x → ¬ ord x i) → (lo ≠ some x → ¬ ord i x) → ((isCall ox.op).isSome = true ∧ qs x = true) ∨ ∃ ty, ox.op = .alloc ty := fun x ox hx hc h1 h2 => by
              by_cases hlo : lo = some x
              · exact .inr (hlt x ox hx hlo)
              · exact .inl ((hd.read i x o ox ho hx (by rintro rfl; rw [ho] at hx; cases hx; exact hcl hc) hcl hc0 hc (h2 hlo) (h1 hlo)).resolve_left hlo)
            rcases Nat.le_total p i with hle | hle
            · obtain ⟨_, hk2⟩ := heap_quiet hA ht (i - p) p (by omega) (fun x ox h1 h2 hx hc => by
                refine hq x ox hx hc ?_ ?_
                · intro hne hord
                  have := (inv.spine x ox hx hc hne).1 (hpre x hord)
                  omega
                · intro _ hord
                  have := ord_lt hd x i (by omega) hord
                  omega)
              rw [show p + (i - p) = i from by omega] at hk2
              exact (hk2 b hbp).symm
            · obtain ⟨_, hk2⟩ := heap_quiet hA ht (p - i) i (by have := inv.ple; omega) (fun x ox h1 h2 hx hc => by
                refine hq x ox hx hc ?_ ?_
                · intro _ hord
                  have := ord_lt hd i x hilt hord
                  omega
                · intro hne hord
                  have := inv.down i x ((inv.spine x ox hx hc hne).2 (by omega)) hord
                  rw [hnl] at this; cases this)
              rw [show i + (p - i) = p from by omega] at hk2
              obtain ⟨kk, hkk⟩ := Option.isSome_iff_exists.1 hsome
              exact hk2 b (inv.lives i hle b kk hkk)
        have hstep' : stepV c (qs i) o.op ev' (hs p) = some (v, hs p) := by
          unfold stepV
          rw [hcall]
          exact conc_of hA.2.2 hconc hsop'
        refine stepV_wp hC hX inv.gok inv.heap hev hstep' ?_
        intro u w' ρ' g1 g2 g3
        refine ih _ _ _ ρ' p hcount ⟨by simpa using inv.size, hdown', inv.ple, ?_, ?_, g2, Step.trans hr0 inv.step g3, inv.gok.mono g3.le, inv.lives, ?_, by rw [put_size]; exact inv.tmps, by rw [put_defers]; exact inv.defers⟩
        · intro x ox hx hc hne
          rw [getD_set _ _ _ hislt, if_neg (by rintro rfl; rw [ho] at hx; cases hx; exact hcl hc)]
          exact inv.spine x ox hx hc hne
        · intro j hj hlt
          rw [getD_set _ _ _ hislt]
          split
          · rfl
          · exact inv.slate j hj hlt
        · exact hslots' v u ρ' w' p g3.le g1 (by rw [hfr]) (hwait g3 fun j _ h => h)
end
end Go.Proofs.YtcphjmgfgfjnpaaGreatDoor.Ev
namespace Go.Proofs.YtcphjmgfgfjnpaaGreatDoor.Ev
open Go
def ordB (B : Array Nat) (i j : Nat) : Bool := (B.getD j 0).testBit i
def maskOf (B : Array Nat) (o : Oper) : Nat := o.after.toList.foldl (fun s e => if Region.binds .any e then s ||| 2 ^ e.on ||| B.getD e.on 0 else s) 0
def names (ops : Array Oper) (o : Oper) (t : Tmp) : Bool := (o.looksAt ops).contains t || o.dst == some t
def needsQuiet (P : Program) (ops : Array Oper) (B : Array Nat) (s : Nat) : Bool :=
  (List.range ops.size).any fun i => match ops[i]? with
    | some o => (cls P o.op == 1) && !(ordB B i s) && !(ordB B s i) && i != s
    | none => false
def isLate (P : Program) (ops : Array Oper) (B : Array Nat) (j : Nat) : Bool :=
  match ops[j]? with
  | some ⟨some d, .alloc _, _, _, _, none⟩ =>
    (List.range ops.size).any (fun l => match ops[l]? with
      | some ol => Nat.blt l j && cls P ol.op == 2 && !ordB B l j
      | none => false) &&
    (List.range ops.size).all fun k => match ops[k]? with
      | some ok => k == j || (!(ok.dst == some d) && (!(ok.looksAt ops).contains d || (Nat.blt j k && (List.range ops.size).all fun l => match ops[l]? with
        | some ol => !(Nat.blt l j && cls P ol.op == 2) || ordB B l k
        | none => true)))
      | none => true
  | _ => false
def lateOf (P : Program) (ops : Array Oper) (B : Array Nat) : Option Nat := (List.range ops.size).find? (isLate P ops B)
def isLo (P : Program) (ops : Array Oper) (B : Array Nat) (j : Nat) : Bool := match lateOf P ops B with
  | some k => Nat.beq k j
  | none => false
def drawB (P : Program) (ops : Array Oper) (B : Array Nat) : Bool :=
  (List.range ops.size).all fun j => match ops[j]? with
    | none => false
    | some oj =>
      (oj.after.toList.all fun e => !Region.binds .any e || Nat.blt e.on j) && (B.getD j 0 == maskOf B oj) &&
      (List.range ops.size).all fun i => match ops[i]? with
        | none => false
        | some oi =>
          (i == j) ||
          ((match oi.dst with
            | none => true
            | some t => !names ops oj t || (if Nat.blt i j then ordB B i j else ordB B j i)) &&
           (!(cls P oi.op == 2 && cls P oj.op == 2 && Nat.blt i j) || ordB B i j || isLo P ops B j) &&
           (!(cls P oi.op == 1 && cls P oj.op == 2) || ordB B i j || ordB B j i || (isCall oj.op).isSome || isLo P ops B j))
theorem isLo_some {P : Program} {ops : Array Oper} {B : Array Nat} {j : Nat} (h : isLo P ops B j = true) : lateOf P ops B = some j := by
  unfold isLo at h
  split at h
  · rename_i k hk
    rw [hk, Nat.eq_of_beq_eq_true h]
  · cases h
theorem names_iff {ops : Array Oper} {o : Oper} {t : Tmp} (h : t ∈ o.looksAt ops ∨ o.dst = some t) : names ops o t = true := by
  unfold names
  rcases h with hl | hl
  · simp only [Bool.or_eq_true]; exact .inl (by simpa using hl)
  · simp only [Bool.or_eq_true]; exact .inr (by rw [hl]; simp)
theorem late_ok {P : Program} {ops : Array Oper} {B : Array Nat} {j : Nat} (h : lateOf P ops B = some j) : ∃ o t d, ops[j]? = some o ∧ o.op = .alloc t ∧ o.guard = none ∧ o.dst = some d ∧ ∀ k ok, ops[k]? = some ok → k ≠ j → ok.dst ≠ some d ∧ (d ∈ ok.looksAt ops → j < k ∧ ∀ l ol, ops[l]? = some ol → l < j → cls P ol.op = 2 → ordB B l k = true) := by
  have h1 := List.find?_some h
  unfold isLate at h1
  split at h1
  · rename_i d t ty pos after ho
    rw [Bool.and_eq_true] at h1
    refine ⟨_, t, d, ho, rfl, rfl, rfl, fun k ok hk hne => ?_⟩
    have h2 := h1.2
    rw [List.all_eq_true] at h2
    have h3 := h2 k (List.mem_range.2 (Array.getElem?_eq_some_iff.1 hk).1)
    rw [hk] at h3
    have hne' : (k == j) = false := by simpa using hne
    simp only [hne', Bool.false_or, Bool.and_eq_true] at h3
    obtain ⟨g1, h3⟩ := h3
    refine ⟨fun e => by rw [e] at g1; simp at g1, fun hd => ?_⟩
    have hd' : (ok.looksAt ops).contains d = true := by simpa using hd
    simp only [hd', Bool.not_true, Bool.false_or, Bool.and_eq_true] at h3
    refine ⟨by have := h3.1; rw [Arr.blt_eq] at this; exact of_decide_eq_true this, fun l ol hl hlt hc => ?_⟩
    have h4 := h3.2
    rw [List.all_eq_true] at h4
    have h5 := h4 l (List.mem_range.2 (Array.getElem?_eq_some_iff.1 hl).1)
    rw [hl] at h5
    have hb : Nat.blt l j = true := by rw [Arr.blt_eq]; exact decide_eq_true hlt
    simpa [hb, hc] using h5
  · cases h1
theorem mask_bit (B : Array Nat) (i : Nat) : ∀ (l : List Edge) (s : Nat), (l.foldl (fun s e => if Region.binds .any e then s ||| 2 ^ e.on ||| B.getD e.on 0 else s) s).testBit i = true → s.testBit i = true ∨ ∃ e, e ∈ l ∧ Region.binds .any e = true ∧ (i = e.on ∨ (B.getD e.on 0).testBit i = true) := by
  intro l
  induction l with
  | nil => intro s h; exact .inl h
  | cons e l ih =>
    intro s h
    rw [List.foldl_cons] at h
    rcases ih _ h with h1 | ⟨e', h1, h2, h3⟩
    · by_cases hb : Region.binds .any e = true
      · rw [if_pos hb] at h1
        simp only [Nat.testBit_or, Bool.or_eq_true] at h1
        rcases h1 with (h1 | h1) | h1
        · exact .inl h1
        · refine .inr ⟨e, by simp, hb, .inl ?_⟩
          rw [Nat.testBit_two_pow] at h1
          simpa using (of_decide_eq_true h1).symm
        · exact .inr ⟨e, by simp, hb, .inr h1⟩
      · rw [if_neg hb] at h1; exact .inl h1
    · exact .inr ⟨e', by simp [h1], h2, h3⟩
theorem cls_le (P : Program) (o : Op) : cls P o = 0 ∨ cls P o = 1 ∨ cls P o = 2 := by
  unfold cls
  (repeat' split) <;> first
    | (simp; done)
    | (generalize floatT P _ = fl
       cases fl
       · simp only [cond_false]; (repeat' split) <;> simp
       · simp)
theorem drawB_ok {P : Program} {ops : Array Oper} {B : Array Nat} (h : drawB P ops B = true) : DrawOK P ops (needsQuiet P ops B) (fun i j => ordB B i j = true) (lateOf P ops B) := by
  have lt : ∀ {i : Nat} {o : Oper}, ops[i]? = some o → i < ops.size := fun ho => (Array.getElem?_eq_some_iff.1 ho).1
  have row : ∀ j oj, ops[j]? = some oj → (∀ e ∈ oj.after.toList, Region.binds .any e = true → e.on < j) ∧ B.getD j 0 = maskOf B oj ∧ ∀ i oi, ops[i]? = some oi → i ≠ j →
      ((∀ t, oi.dst = some t → names ops oj t = true → (if Nat.blt i j then ordB B i j else ordB B j i) = true) ∧ (cls P oi.op = 2 → cls P oj.op = 2 → i < j → lateOf P ops B = some j ∨ ordB B i j = true) ∧
       (cls P oi.op = 1 → cls P oj.op = 2 → ordB B i j = true ∨ ordB B j i = true ∨ lateOf P ops B = some j ∨ (isCall oj.op).isSome = true)) := by
    intro j oj hj
    unfold drawB at h
    rw [List.all_eq_true] at h
    have hrow := h j (List.mem_range.2 (lt hj))
    rw [hj] at hrow
    simp only [Bool.and_eq_true] at hrow
    obtain ⟨⟨h1, h2⟩, h3⟩ := hrow
    refine ⟨fun e he hb => ?_, by simpa using h2, fun i oi hi hne => ?_⟩
    · rw [List.all_eq_true] at h1
      have := h1 e he
      simp only [hb, Bool.not_true, Bool.false_or] at this
      rw [Arr.blt_eq] at this
      exact of_decide_eq_true this
    · rw [List.all_eq_true] at h3
      have := h3 i (List.mem_range.2 (lt hi))
      rw [hi] at this
      have hne' : (i == j) = false := by simpa using hne
      simp only [hne', Bool.false_or] at this
      rw [Bool.and_eq_true, Bool.and_eq_true] at this
      obtain ⟨⟨g1, g2⟩, g3⟩ := this
      simp only [Bool.or_eq_true, Bool.not_eq_true'] at g2 g3
      refine ⟨fun t ht hn => ?_, fun c1 c2 hlt => ?_, fun c1 c2 => ?_⟩
      · rw [ht] at g1
        simpa only [hn, Bool.not_true, Bool.false_or] using g1
      · rcases g2 with (g2 | g2) | g2
        · rw [c1, c2, Arr.blt_eq] at g2
          simp [hlt] at g2
        · exact .inr g2
        · exact .inl (isLo_some g2)
      · rcases g3 with (((g3 | g3) | g3) | g3) | g3
        · rw [c1, c2] at g3; cases g3
        · exact .inl g3
        · exact .inr (.inl g3)
        · exact .inr (.inr (.inr g3))
        · exact .inr (.inr (.inl (isLo_some g3)))
  refine ⟨fun j o e ho he hb => (row j o ho).1 e he hb, ?_, ?_, ?_, ?_, fun j h => late_ok h⟩
  · intro i j o ho hord
    have hm := (row j o ho).2.1
    unfold ordB at hord
    rw [hm] at hord
    rcases mask_bit B i _ _ hord with h1 | ⟨e, h1, h2, h3⟩
    · simp at h1
    · exact ⟨e, h1, h2, h3⟩
  · intro i j oi oj t hi hj hne hdst hlook
    have hn : names ops oj t = true := names_iff hlook
    have := ((row j oj hj).2.2 i oi hi hne).1 t hdst hn
    constructor
    · intro hlt
      rw [Arr.blt_eq] at this
      simpa [hlt] using this
    · intro hlt
      rw [Arr.blt_eq] at this
      simpa [show ¬ i < j from by omega] using this
  · intro i j oi oj hi hj hlt c1 c2
    exact ((row j oj hj).2.2 i oi hi (by omega)).2.1 c1 c2 hlt
  · intro i s oi os hi hs hne c1 c2 c3 h1 h2
    have hc : cls P oi.op = 1 := by rcases cls_le P oi.op with h | h | h <;> omega
    rcases ((row s os hs).2.2 i oi hi hne).2.2 hc c3 with h | h | h | hcall
    · exact absurd h h1
    · exact absurd h h2
    · exact .inl h
    refine .inr ⟨hcall, ?_⟩
    unfold needsQuiet
    rw [List.any_eq_true]
    refine ⟨i, List.mem_range.2 (lt hi), ?_⟩
    rw [hi]
    simp only [hc, beq_self_eq_true, Bool.true_and, Bool.and_eq_true, Bool.not_eq_true', bne_iff_ne]
    exact ⟨⟨by simpa using h1, by simpa using h2⟩, hne⟩
structure Kont (fo : FO) where
  norm : fo.F → AH → Res
  exit : Nat → fo.F → AH → Res
  ret : fo.F → AH → Res
noncomputable def loopN (F : Type) (fuel : Nat) (body : F → AH → (F → AH → Res) → Res) : F → AH → Res := Nat.rec (fun _ _ => none) (fun _ ih fr h => body fr h ih) fuel
def preKey : Code → Nat
  | .region id _ _ => 2 * id + 1
  | .seq a _ => preKey a
  | .block _ b => preKey b
  | .loop b => preKey b
  | _ => 0
def isRegion : Code → Bool
  | .region .. => true
  | _ => false
section
variable (c : Cfg) (fo : FO) (N fuel : Nat)
noncomputable def exec : Code → fo.F → AH → Kont fo → Res
  | .skip, fr, h, k => k.norm fr h
  | .label _, fr, h, k => k.norm fr h
  | .region id ops draw, fr, h, k =>
    if draw then
      if drawB c.P ops (Region.before ops) then runOps c fo N ops (needsQuiet c.P ops (Region.before ops)) (List.range' 0 ops.size) fr h (fun fr h => fo.keepK (2 * id + 2) fr fun fr => k.norm fr h) else none
    else runOps c fo N ops (fun _ => false) (List.range ops.size) fr h (fun fr h => fo.keepK (2 * id + 2) fr fun fr => k.norm fr h)
  | .seq a b, fr, h, k => exec a fr h { k with norm := if isRegion a then fun fr h => exec b fr h k else fun fr h => fo.keepK (preKey b) fr fun fr => exec b fr h k }
  | .cond x a b, fr, h, k =>
    match evO c fo fr x with
    | .bool true => exec a fr h k
    | .bool false => exec b fr h k
    | _ => none
  | .block id b, fr, h, k => exec b fr h { k with exit := fun id' fr h => if id' = id then k.norm fr h else k.exit id' fr h }
  | .loop b, fr, h, k => loopN fo.F fuel (fun fr h n => fo.keepK (preKey b) fr fun fr => exec b fr h { k with norm := n }) fr h
  | .exit id, fr, h, k => k.exit id fr h
  | .ret, fr, h, k => k.ret fr h
  | _, _, _, _ => none
noncomputable def resOne (fr : fo.F) (h : AH) (r : ResultVar) : Option V :=
  match r with
  | .tmp t => some (fo.get fr t)
  | .cell a t => absLoad c.P t (fo.get fr a) h
noncomputable def resList (fr : fo.F) (h : AH) : List ResultVar → Option (List V)
  | [] => some []
  | r :: l => match resOne c fo fr h r with
    | none => none
    | some v => match resList fr h l with
      | none => none
      | some vs => some (v :: vs)
def pack : List V → V
  | [v] => v
  | vs => .tuple vs
noncomputable def fin (fn : Func) (fr : fo.F) (h : AH) : Res := (resList c fo fr h fn.results.toList).map fun vs => (pack vs, h)
noncomputable def execFn (f : FuncId) (args : List V) (h : AH) : Res :=
  match c.P.funcs[f]? with
  | none => none
  | some fn =>
    match fn.body with
    | none => none
    | some code => if args.length ≤ fn.ntmps then exec c fo fn.ntmps fuel code (fo.ini args) h ⟨fin c fo fn, fun _ _ _ => none, fin c fo fn⟩ else none
end
def KPost (c : Cfg) (fo : FO) (N : Nat) (ρ0 : Rho) (h0 : AH) (w0 : World) (r : V × AH) (k : Kont fo) (Q : Exit → Act → World → Prop) : Prop :=
  Post [] c fo N ρ0 h0 w0 r k.norm (Q .normal) ∧ (∀ id, Post [] c fo N ρ0 h0 w0 r (k.exit id) (Q (.exit id))) ∧ Post [] c fo N ρ0 h0 w0 r k.ret (Q .ret)
theorem KPost.step {c : Cfg} {fo : FO} {N : Nat} {ρ0 ρ1 : Rho} {h0 h1 : AH} {w0 w1 : World} {r : V × AH} {k : Kont fo} {Q : Exit → Act → World → Prop} (hr : HR ρ0 h0 w0) (hs : Step ρ0 h0 w0 ρ1 h1 w1) (hp : KPost c fo N ρ0 h0 w0 r k Q) : KPost c fo N ρ1 h1 w1 r k Q :=
  ⟨hp.1.step hr hs, fun id => (hp.2.1 id).step hr hs, hp.2.2.step hr hs⟩
theorem Post.keep {c : Cfg} {fo : FO} {N : Nat} {ρ : Rho} {h : AH} {w : World} {r : V × AH} {k : fo.F → AH → Res} {Q : Act → World → Prop} (hp : Post [] c fo N ρ h w r k Q) (key : Nat) : Post [] c fo N ρ h w r (fun fr h => fo.keepK key fr fun fr => k fr h) Q := by
  intro fr h1 a w1 ρ1 hk hf hN hd hg hr hs
  rcases fo.keepK_spec key fr (fun fr => k fr h1) with e | ⟨f', e1, e2⟩
  · simp only [e] at hk; cases hk
  · simp only [e1] at hk
    refine hp f' h1 a w1 ρ1 hk (fun t => ?_) hN hd hg hr hs
    rcases e2 t with e | e
    · rw [e]; exact hf t
    · rw [e]; trivial
theorem exec_wp {c : Cfg} (hC : CSound c) (hX : XSound c) (hA : CAbs c) (hm : c.P.follows .mixedOrders = true) {fo : FO} {N fuel : Nat} {r : V × AH} : ∀ (code : Code) (k : Kont fo) (Q : Exit → Act → World → Prop) (ρ : Rho) (fr : fo.F) (h : AH) (a : Act) (w : World),
    exec c fo N fuel code fr h k = some r → FR fo ρ fr a.tmps → a.tmps.size = N → a.defers = [] → GOK c ρ → HR ρ h w → KPost c fo N ρ h w r k Q → code.wp c.P Q a w := by
  intro code
  induction code with
  | skip => intro k Q ρ fr h a w he hf hN hd hg hr hp; exact wp_skip (hp.1 fr h a w ρ he hf hN hd hg hr (Step.refl _ _ _))
  | label l => intro k Q ρ fr h a w he hf hN hd hg hr hp; exact wp_label (hp.1 fr h a w ρ he hf hN hd hg hr (Step.refl _ _ _))
  | exit id => intro k Q ρ fr h a w he hf hN hd hg hr hp; exact wp_exit (hp.2.1 id fr h a w ρ he hf hN hd hg hr (Step.refl _ _ _))
  | ret => intro k Q ρ fr h a w he hf hN hd hg hr hp; exact wp_ret (hp.2.2 fr h a w ρ he hf hN hd hg hr (Step.refl _ _ _))
  | region id ops draw =>
    intro k Q ρ fr h a w he hf hN hd hg hr hp
    unfold exec at he
    cases draw with
    | false =>
      simp only [Bool.false_eq_true, if_false] at he
      exact wp_region (runOps_wp hC hX _ ρ fr h a w he hf hN hd hg hr (hp.1.keep _))
    | true =>
      simp only [if_true] at he
      split at he
      case isFalse => cases he
      rename_i hdb
      have hok := drawB_ok hdb
      obtain ⟨frs, hs, e1, e2, e3, e4⟩ := trace_of ops.size 0 fr h (by omega) he
      simp only [Nat.zero_add] at e3 e4
      refine wp_region_any hm ?_
      have hr' : HR ρ h { w with drawn := w.drawn + 1 } := ⟨hr.fresh, hr.lives, hr.bound, hr.inj, hr.top, fun b k L cb sh S h1 h2 h3 => (hr.blk b k L cb sh S h1 h2 h3).mono (Rho.le_refl ρ) rfl, fun b k h1 ho => (hr.obj b k h1 ho).mono (Rho.le_refl ρ) fun _ _ _ => rfl⟩
      have hst : Step ρ h w ρ h { w with drawn := w.drawn + 1 } := ⟨Rho.le_refl ρ, fun b L c x hx _ => ⟨L, x, hx⟩, fun b k' hk' _ => ⟨k', hk', rfl⟩, Nat.le_refl _, rfl, rfl, rfl, Nat.le_refl _, fun _ _ _ => rfl, Nat.le_refl _, fun _ _ _ => rfl, fun _ _ hb => ⟨hb, fun _ _ h => h⟩⟩
      have hfalse : ∀ j, (Array.replicate ops.size false).getD j false = false := by
        intro j
        rw [Array.getD_eq_getD_getElem?, Array.getElem?_replicate]
        split <;> rfl
      refine draw_wp hC hX hA hok (fun i hi => e3 i (Nat.zero_le _) hi) e4 hr' ((hp.1.keep _).step hr hst) ops.size _ a _ ρ 0 ?_ ?_
      · refine Nat.le_trans (List.length_filter_le _ _) ?_
        simp
      · refine ⟨by simp, (fun i j hj _ => by rw [hfalse] at hj; cases hj), Nat.zero_le _, (fun i o _ _ _ => by rw [hfalse]; simp), (fun j _ h => by omega), (by rw [e2]; exact hr'), (by rw [e2]; exact Step.refl _ _ _), hg, ?_, ?_, hN, hd⟩
        · intro q hq b kk hb
          obtain rfl : q = 0 := by omega
          rw [e2] at hb ⊢
          exact hr.lives b kk hb
        · intro t
          exact ⟨0, Nat.zero_le _, (fun i o _ _ => by rw [hfalse]; simp), .inl (by rw [e1]; exact hf t)⟩
  | seq x y ihx ihy =>
    intro k Q ρ fr h a w he hf hN hd hg hr hp
    unfold exec at he
    refine wp_seq (ihx _ _ ρ fr h a w he hf hN hd hg hr ⟨?_, fun id => hp.2.1 id, hp.2.2⟩)
    have hpost : Post [] c fo N ρ h w r (fun fr h => exec c fo N fuel y fr h k) (fun a w => y.wp c.P Q a w) := by
      intro fr1 h1 a1 w1 ρ1 hk1 hf1 hN1 hd1 hg1 hr1 hs1
      exact ihy k Q ρ1 fr1 h1 a1 w1 hk1 hf1 hN1 hd1 hg1 hr1 (hp.step hr hs1)
    have hnorm : Post [] c fo N ρ h w r (if isRegion x then fun fr h => exec c fo N fuel y fr h k else fun fr h => fo.keepK (preKey y) fr fun fr => exec c fo N fuel y fr h k) (fun a w => y.wp c.P Q a w) := by
      split
      · exact hpost
      · exact hpost.keep _
    exact hnorm
  | cond x p q ihp ihq =>
    intro k Q ρ fr h a w he hf hN hd hg hr hp
    unfold exec at he
    have hx := evO_R (c := c) (fr := fr) hg hf x
    split at he
    · rename_i hb; rw [hb] at hx; exact wp_cond_true hx (ihp k Q ρ fr h a w he hf hN hd hg hr hp)
    · rename_i hb; rw [hb] at hx; exact wp_cond_false hx (ihq k Q ρ fr h a w he hf hN hd hg hr hp)
    · cases he
  | block id b ih =>
    intro k Q ρ fr h a w he hf hN hd hg hr hp
    unfold exec at he
    refine wp_block (ih _ _ ρ fr h a w he hf hN hd hg hr ⟨hp.1, fun id' => ?_, hp.2.2⟩)
    intro fr1 h1 a1 w1 ρ1 hk1 hf1 hN1 hd1 hg1 hr1 hs1
    simp only [Exit.inBlock]
    by_cases hid : id' = id
    · rw [if_pos hid]; simp only [if_pos hid] at hk1; exact hp.1 fr1 h1 a1 w1 ρ1 hk1 hf1 hN1 hd1 hg1 hr1 hs1
    · rw [if_neg hid]; simp only [if_neg hid] at hk1; exact hp.2.1 id' fr1 h1 a1 w1 ρ1 hk1 hf1 hN1 hd1 hg1 hr1 hs1
  | loop b ih =>
    intro k Q ρ fr h a w he hf hN hd hg hr hp
    unfold exec at he
    let body : fo.F → AH → (fo.F → AH → Res) → Res := fun fr h n => fo.keepK (preKey b) fr fun fr => exec c fo N fuel b fr h { k with norm := n }
    let I : Nat → Act → World → Prop := fun m a' w' => ∃ (ρ' : Rho) (fr' : fo.F) (h' : AH), loopN fo.F m body fr' h' = some r ∧ FR fo ρ' fr' a'.tmps ∧ a'.tmps.size = N ∧ a'.defers = [] ∧ GOK c ρ' ∧ HR ρ' h' w' ∧ Step ρ h w ρ' h' w'
    have hround : ∀ (m : Nat) (a' : Act) (w' : World), I m a' w' → b.wp c.P (Exit.then (fun a'' w'' => ∃ m', m' < m ∧ I m' a'' w'') Q) a' w' := by
      intro m a' w' hI
      obtain ⟨ρ', fr', h', g1, g2, g3, g4, g5, g6, g7⟩ := hI
      cases m with
      | zero => cases g1
      | succ m =>
        have g1' : (fo.keepK (preKey b) fr' fun fr => exec c fo N fuel b fr h' { k with norm := loopN fo.F m body }) = some r := g1
        rcases fo.keepK_spec (preKey b) fr' (fun fr => exec c fo N fuel b fr h' { k with norm := loopN fo.F m body }) with e0 | ⟨f', e1, e2⟩
        · exact absurd (e0.symm.trans g1') (by simp)
        rw [e1] at g1'
        have g2' : FR fo ρ' f' a'.tmps := fun t => by
          rcases e2 t with e | e
          · rw [e]; exact g2 t
          · rw [e]; trivial
        refine ih _ _ ρ' f' h' a' w' g1' g2' g3 g4 g5 g6 ⟨?_, fun id => (hp.2.1 id).step hr g7, hp.2.2.step hr g7⟩
        intro fr1 h1 a1 w1 ρ1 hk1 hf1 hN1 hd1 hg1 hr1 hs1
        exact ⟨m, Nat.lt_succ_self m, ρ1, fr1, h1, hk1, hf1, hN1, hd1, hg1, hr1, Step.trans hr g7 hs1⟩
    intro bf kk cs
    have key : ∀ (m : Nat) (a' : Act) (w' : World), I m a' w' → ∃ e a'' w'', Q e a'' w'' ∧ Arrives c.P (lone (bf.at a' (.code b :: .inLoop b :: kk)) cs w') bf kk cs e a'' w'' := by
      intro m
      induction m using Nat.strongRecOn with
      | _ m ihm =>
        intro a' w' hI
        obtain ⟨e, a1, w1, hq, harr⟩ := hround m a' w' hI bf (.inLoop b :: kk) cs
        cases e with
        | normal =>
          obtain ⟨m', hlt, hI'⟩ := hq
          obtain ⟨e2, a2, w2, hq2, harr2⟩ := ihm m' hlt a1 w1 hI'
          exact ⟨e2, a2, w2, hq2, .of_steps (Steps.trans harr (.one step_inLoop)) harr2⟩
        | exit id => exact ⟨_, a1, w1, hq, .pass (x := .inLoop b) rfl (fun _ _ => .inl (by simp)) harr⟩
        | goto l => exact ⟨_, a1, w1, hq, .pass (x := .inLoop b) rfl (fun _ _ => .inl (by simp)) harr⟩
        | ret => exact ⟨_, a1, w1, hq, .pass (x := .inLoop b) rfl (fun _ _ => .inl (by simp)) harr⟩
        | panic ch => exact ⟨_, a1, w1, hq, .pass (x := .inLoop b) rfl (fun _ _ => .inl (by simp)) harr⟩
        | outgrown => exact ⟨_, a1, w1, hq, .pass (x := .inLoop b) rfl (fun _ _ => .inl (by simp)) harr⟩
    obtain ⟨e, a', w', hq, harr⟩ := key fuel a w ⟨ρ, fr, h, he, hf, hN, hd, hg, hr, Step.refl _ _ _⟩
    exact ⟨e, a', w', hq, .of_steps (.one step_loop) harr⟩
  | rangeFunc f ps x y _ _ => intro k Q ρ fr h a w he; cases he
  | scope b _ => intro k Q ρ fr h a w he; cases he
  | goto l => intro k Q ρ fr h a w he; cases he
  | refuse s => intro k Q ρ fr h a w he; cases he
theorem resOne_sound {c : Cfg} {fo : FO} {ρ : Rho} {fr : fo.F} {h : AH} {w : World} {tmps : Array Value} {r : ResultVar} {v : V} (hf : FR fo ρ fr tmps) (hr : HR ρ h w) (hs : resOne c fo fr h r = some v) :
    ∃ u, ((match r with | .tmp t => pure (tmps.getD t undef) | .cell a t => do loadVar t (← asAddr (tmps.getD a undef))) : Sem Value).run c.P w = .ok u w ∧ R ρ v u := by
  cases r with
  | tmp t => cases hs; exact ⟨_, rfl, hf t⟩
  | cell a t =>
    have hs' : absLoad c.P t (fo.get fr a) h = some v := hs
    have hR := hf a
    obtain ⟨u, h1, h2⟩ := load_sound (P := c.P) hr hR hs'
    refine ⟨u, ?_, h2⟩
    rw [← h1]
    unfold absLoad at hs'
    split at hs'
    · rename_i p hp
      rw [hp] at hR
      obtain ⟨cc, hcc, _⟩ := hR
      simp only [hcc, asAddr, Sem.run_bind, Sem.run_pure, Result.andThen_ok, Instr.loadAt, Instr.sureAddr]
    · cases hs'
theorem resList_sound {c : Cfg} {fo : FO} {ρ : Rho} {fr : fo.F} {h : AH} {w : World} {tmps : Array Value} (hf : FR fo ρ fr tmps) (hr : HR ρ h w) : ∀ {l : List ResultVar} {vs : List V}, resList c fo fr h l = some vs →
    ∃ us : List Value, (l.mapM (fun | .tmp t => pure (tmps.getD t undef) | .cell a t => do loadVar t (← asAddr (tmps.getD a undef)) : ResultVar → Sem Value)).run c.P w = .ok us w ∧ RL ρ vs us := by
  intro l
  induction l with
  | nil => intro vs hs; cases hs; exact ⟨[], rfl, rfl⟩
  | cons r l ih =>
    intro vs hs
    unfold resList at hs
    cases h1 : resOne c fo fr h r with
    | none => rw [h1] at hs; cases hs
    | some v =>
      cases h2 : resList c fo fr h l with
      | none => rw [h1, h2] at hs; cases hs
      | some vs' =>
        rw [h1, h2] at hs
        cases hs
        obtain ⟨u, g1, g2⟩ := resOne_sound (w := w) hf hr h1
        obtain ⟨us, g3, g4⟩ := ih h2
        refine ⟨u :: us, ?_, ⟨u, us, rfl, g2, g4⟩⟩
        rw [List.mapM_cons]
        simp only [Sem.run_bind]
        rw [g1]
        simp only [Result.andThen_ok]
        rw [g3]
        simp only [Result.andThen_ok, Sem.run_pure]
theorem fin_sound {c : Cfg} {fo : FO} {ρ : Rho} {fn : Func} {fr : fo.F} {h h' : AH} {w : World} {tmps : Array Value} {v : V} (hf : FR fo ρ fr tmps) (hr : HR ρ h w) (hs : fin c fo fn fr h = some (v, h')) : h' = h ∧ ∃ u, (results fn tmps).run c.P w = .ok u w ∧ R ρ v u := by
  unfold fin at hs
  obtain ⟨vs, h1, h2⟩ := map_some hs
  cases h2
  obtain ⟨us, g1, g2⟩ := resList_sound (w := w) hf hr h1
  refine ⟨rfl, ?_⟩
  have hrun : (results fn tmps).run c.P w = .ok (if hh : us.toArray.size = 1 then us.toArray[0] else .tuple us.toArray) w := by
    unfold results
    rw [Array.mapM_eq_mapM_toList]
    simp only [Sem.run_bind, Sem.run_map, Sem.run_pure]
    erw [g1]
    simp only [Result.andThen_ok]
  refine ⟨_, hrun, ?_⟩
  have hl := g2.length
  cases vs with
  | nil => rw [show us = [] from g2]; exact ⟨_, rfl, rfl⟩
  | cons v vs =>
    obtain ⟨u, us, rfl, q1, q2⟩ := g2
    cases vs with
    | nil => rw [show us = [] from q2]; exact q1
    | cons v2 vs =>
      obtain ⟨u2, us, rfl, q3, q4⟩ := q2
      rw [dif_neg (by simp)]
      exact ⟨_, rfl, u, _, rfl, q1, u2, us, rfl, q3, q4⟩
theorem execFn_sound {c : Cfg} (hC : CSound c) (hX : XSound c) (hA : CAbs c) (hm : c.P.follows .mixedOrders = true) {fo : FO} {fuel : Nat} {ρ : Rho} {h h' : AH} {w : World} {f : FuncId} {args : List V} {args' : List Value} {v : V} (hg : GOK c ρ) (hr : HR ρ h w) (hR : RL ρ args args') (hs : execFn c fo fuel f args h = some (v, h')) :
    Calls c.P f args'.toArray w fun e w' => ∃ u ρ', e = .returned u ∧ R ρ' v u ∧ HR ρ' h' w' ∧ Step ρ h w ρ' h' w' := by
  unfold execFn at hs
  split at hs
  case h_1 => cases hs
  rename_i fn hfn
  split at hs
  case h_1 => cases hs
  rename_i code hcode
  split at hs
  case isFalse => cases hs
  rename_i hle
  have hlen := hR.length
  refine calls_of_wp hfn hcode ?_
  have hsz : (args'.toArray ++ Array.replicate (fn.ntmps - args'.toArray.size) undef).size = fn.ntmps := by
    simp only [Array.size_append, List.size_toArray, Array.size_replicate]; omega
  have hf : FR fo ρ (fo.ini args) (args'.toArray ++ Array.replicate (fn.ntmps - args'.toArray.size) undef) := by
    intro t
    rw [fo.get_ini, Array.getD_eq_getD_getElem?, List.getD_eq_getElem?_getD]
    by_cases ht : t < args.length
    · rw [Array.getElem?_append_left (by simp; omega), List.getElem?_toArray]
      obtain ⟨y, h1, h2⟩ := hR.get (List.getElem?_eq_getElem ht)
      rw [h1, List.getElem?_eq_getElem ht]
      exact h2
    · rw [List.getElem?_eq_none (by omega), Array.getElem?_append_right (by simp; omega), Array.getElem?_replicate]
      split
      · trivial
      · trivial
  have hpost : ∀ e, (e = Exit.normal ∨ e = Exit.ret) → Post [] c fo fn.ntmps ρ h w (v, h') (fin c fo fn) (bodyPost c.P fn (fun e w' => ∃ u ρ', e = .returned u ∧ R ρ' v u ∧ HR ρ' h' w' ∧ Step ρ h w ρ' h' w') e) := by
    intro e he fr1 h1 a1 w1 ρ1 hk1 hf1 hN1 hd1 hg1 hr1 hs1
    obtain ⟨rfl, u, q1, q2⟩ := fin_sound hf1 hr1 hk1
    rcases he with rfl | rfl <;> exact ⟨hd1, u, q1, u, ρ1, rfl, q2, hr1, hs1⟩
  refine exec_wp hC hX hA hm code _ _ ρ (fo.ini args) h _ w hs hf hsz rfl hg hr ⟨hpost _ (.inl rfl), fun id fr1 h1 a1 w1 ρ1 hk1 => ?_, hpost _ (.inr rfl)⟩
  cases hk1
end Go.Proofs.YtcphjmgfgfjnpaaGreatDoor.Ev
namespace Go.Proofs.YtcphjmgfgfjnpaaGreatDoor.Ev
open Go
noncomputable def AH.at (h : AH) (b : Nat) (k : Blk) : AH := ⟨h.next, Nat.min h.low b, h.m.set b k⟩
theorem AH.get_at (h : AH) (b b' : Nat) (k : Blk) : (h.at b k).get b' = if b' = b then some k else h.get b' := T.get_set _ _ _ _
def NewOK (P : Program) (ρ : Rho) (s : Sem Value) (b : Nat) (k : Blk) (v : V) : Prop :=
  ∃ (u : Nat → Value) (o : Obj) (n S : Nat), (∀ w, s.run P w = .ok (u w.heap.size) { w with heap := w.heap.push o }) ∧ n ≤ k.cells.n ∧
    (∀ ρ' cb (w' : World), ρ.le ρ' → ρ' b n = some (cb, 0, S) → w'.heap[cb]? = some o → (k.minL ≤ n → BlkOK ρ' k n cb 0 S w') ∧ (k.IsObj → ObjFit ρ' b k w')) ∧ (∀ ρ' cb, ρ' b n = some (cb, 0, S) → R ρ' v (u cb))
theorem NewOK.cells {P : Program} {ρ : Rho} {s : Sem Value} {b : Nat} {k : Blk} {v : V} (u : Nat → Value) (C : Array Value) (hrun : ∀ w, s.run P w = .ok (u w.heap.size) { w with heap := w.heap.push (.cells C k.e) }) (hn : k.cells.n ≤ C.size)
    (hc : ∀ j x, k.cells.get j = some x → ∃ y, C[j]? = some y ∧ R ρ x y) (hob : k.minL ≤ k.cells.n + 1) (hval : ∀ ρ' cb, ρ' b k.cells.n = some (cb, 0, C.size) → R ρ' v (u cb)) : NewOK P ρ s b k v := by
  refine ⟨u, _, k.cells.n, C.size, hrun, Nat.le_refl _, ?_, hval⟩
  intro ρ' cb w' hle hρ hh
  refine ⟨fun _ => ⟨C, 0, 0, hh, rfl, by omega, ?_, fun _ => ⟨fun i _ _ => by omega, Nat.le_refl 0, Int.le_refl _⟩⟩, fun ho => by unfold Blk.IsObj at ho; omega⟩
  intro j x _ _ hx
  obtain ⟨y, h1, h2⟩ := hc j x hx
  exact ⟨y, by simpa using h1, h2.mono hle⟩
theorem at_sound {P : Program} {ρ0 ρ : Rho} {h0 h : AH} {w0 w : World} (hst : Step ρ0 h0 w0 ρ h w) (hr : HR ρ h w) {s : Sem Value} {b : Nat} {k : Blk} {v : V} (hb : b < h.next) (hb0 : h0.next ≤ b) (habs : h.get b = none) (hno : ∀ L, ρ b L = none) (hN : NewOK P ρ s b k v) :
    ∃ u ρ' w', s.run P w = .ok u w' ∧ R ρ' v u ∧ HR ρ' (h.at b k) w' ∧ Step ρ0 h0 w0 ρ' (h.at b k) w' ∧ ρ.le ρ' ∧ ∀ b' L x, ρ' b' L = some x → b' = b ∨ ρ b' L = some x := by
  obtain ⟨u, o, n, S, hrun, hn, hblk, hval⟩ := hN
  have hle : ρ.le (ρ.put b n (w.heap.size, 0, S)) := Rho.le_put fun y hy => by rw [hno] at hy; cases hy
  have hold : ∀ i, i < w.heap.size → (w.heap.push o)[i]? = w.heap[i]? := fun i hi => by rw [Array.getElem?_push, if_neg (by omega)]
  have hput := Rho.put_same ρ b n (w.heap.size, 0, S)
  have hb2 := hblk (ρ.put b n (w.heap.size, 0, S)) w.heap.size { w with heap := w.heap.push o } hle hput (by simp)
  have hinv : ∀ b' L x, (ρ.put b n (w.heap.size, 0, S)) b' L = some x → (b' = b ∧ L = n ∧ x = (w.heap.size, 0, S)) ∨ (b' ≠ b ∧ ρ b' L = some x) := by
    intro b' L x hx
    rcases Rho.put_inv hx with ⟨h1, h2, h3⟩ | hx'
    · exact .inl ⟨h1, h2, h3⟩
    · exact .inr ⟨fun e => (by rw [e, hno] at hx'; cases hx'), hx'⟩
  refine ⟨_, ρ.put b n (w.heap.size, 0, S), _, hrun w, hval _ _ hput, ⟨?_, ?_, ?_, ?_, ?_, ?_, ?_⟩, ⟨Rho.le_trans hst.le hle, ?_, ?_, hst.next, hst.os, hst.tape, hst.output, by have := hst.size; simp only [Array.size_push]; omega, fun i hi hn => (hold i (Nat.lt_of_lt_of_le hi hst.size)).trans (hst.keep i hi hn), Nat.le_trans (Nat.min_le_left _ _) hst.lowle, ?_, ?_⟩, hle, ?_⟩
  · intro b' L x hx
    rcases hinv b' L x hx with ⟨rfl, _⟩ | ⟨_, hx⟩
    · exact hb
    · exact hr.fresh _ _ _ hx
  · intro b' k' hk'
    rw [AH.get_at] at hk'
    split at hk'
    · subst_vars; exact hb
    · exact hr.lives _ _ hk'
  · intro b' L cb x hx
    simp only [Array.size_push]
    rcases hinv b' L _ hx with ⟨_, _, e⟩ | ⟨_, hx⟩
    · cases e; omega
    · have := hr.bound _ _ _ _ hx; omega
  · intro b1 L1 b2 L2 cb x x' k' h1 h2 hk' hro'
    rcases hinv _ _ _ h1 with ⟨e1, e2, e3⟩ | ⟨n1, g1⟩ <;> rcases hinv _ _ _ h2 with ⟨e1', e2', e3'⟩ | ⟨n2, g2⟩
    · cases e3; cases e3'; exact ⟨e1.trans e1'.symm, rfl⟩
    · cases e3; have := hr.bound _ _ _ _ g2; omega
    · cases e3'; have := hr.bound _ _ _ _ g1; omega
    · rw [AH.get_at, if_neg n1] at hk'
      exact hr.inj _ _ _ _ _ _ _ _ g1 g2 hk' hro'
  · intro b' k' L x hk' hx
    rw [AH.get_at] at hk'
    rcases hinv _ _ _ hx with ⟨rfl, rfl, _⟩ | ⟨n1, g1⟩
    · rw [if_pos rfl] at hk'; cases hk'; exact hn
    · rw [if_neg n1] at hk'; exact hr.top _ _ _ _ hk' g1
  · intro b' k' L cb sh S' hk' hx hm
    rw [AH.get_at] at hk'
    rcases hinv _ _ _ hx with ⟨rfl, rfl, e⟩ | ⟨n1, g1⟩
    · rw [if_pos rfl] at hk'; cases hk'; cases e; exact hb2.1 hm
    · rw [if_neg n1] at hk'; exact (hr.blk _ _ _ _ _ _ hk' g1 hm).mono hle (hold _ (hr.bound _ _ _ _ g1))
  · intro b' k' hk' ho
    rw [AH.get_at] at hk'
    split at hk'
    · subst_vars; cases hk'; exact hb2.2 ho
    · exact (hr.obj b' k' hk' ho).mono hle fun cb S e => hold _ (hr.bound _ _ _ _ e)
  · intro b' L cb x hx hlt
    rcases hinv _ _ _ hx with ⟨_, _, e⟩ | ⟨_, g1⟩
    · cases e; have := hst.size; omega
    · exact hst.cons b' L cb x g1 hlt
  · intro b' k' hk' hlt
    rw [AH.get_at, if_neg (by omega)] at hk'
    exact hst.ro b' k' hk' hlt
  · intro b' hb' hlt
    rw [AH.get_at, if_neg (by omega)]
    exact hst.quiet b' (Nat.lt_of_lt_of_le hb' (Nat.min_le_left _ _)) hlt
  · intro b' hlt hn'
    obtain ⟨g1, g2⟩ := hst.abs b' hlt hn'
    refine ⟨by rw [AH.get_at, if_neg (by omega)]; exact g1, fun L x hx => ?_⟩
    rcases hinv _ _ _ hx with ⟨e, _⟩ | ⟨_, g3⟩
    · omega
    · exact g2 L x g3
  · intro b' L x hx
    rcases hinv _ _ _ hx with ⟨e, _⟩ | ⟨_, g1⟩
    · exact .inl e
    · exact .inr g1
theorem HR.forget {ρ : Rho} {h h2 : AH} {w : World} (hr : HR ρ h w) (hn : h.next = h2.next) (hg : ∀ b k, h2.get b = some k → h.get b = some k) : HR ρ h2 w :=
  ⟨fun b L x hx => hn ▸ hr.fresh b L x hx, fun b k hk => hn ▸ hr.lives b k (hg b k hk), hr.bound, fun b L b' L' cb x x' k h1 h2 hk hro => hr.inj b L b' L' cb x x' k h1 h2 (hg b k hk) hro, fun b k L x hk hx => hr.top b k L x (hg b k hk) hx, fun b k L cb sh S hk hx hm => hr.blk b k L cb sh S (hg b k hk) hx hm, fun b k hk ho => hr.obj b k (hg b k hk) ho⟩
theorem HR.restore {ρ ρ' : Rho} {h h2 h2' h' : AH} {w w' : World} (hr : HR ρ h w) (hg : ∀ b k, h2.get b = some k → h.get b = some k) (hs : Step ρ h2 w ρ' h2' w') (hr' : HR ρ' h2' w') (hn2 : h2.next = h.next) (hn' : h'.next = h2'.next) (hget : ∀ b k, h'.get b = some k → h2'.get b = some k ∨ (h2.get b = none ∧ h.get b = some k ∧ k.ro = false)) : HR ρ' h' w' := by
  have hold : ∀ b k, h2.get b = none → h.get b = some k → b < h2.next ∧ (∀ L x, ρ' b L = some x → ρ b L = some x) := fun b k hb hk => by
    have hlt : b < h2.next := hn2 ▸ hr.lives b k hk
    exact ⟨hlt, (hs.abs b hlt hb).2⟩
  have hheap : ∀ b k L cb x, h2.get b = none → h.get b = some k → k.ro = false → ρ b L = some (cb, x) → w'.heap[cb]? = w.heap[cb]? := by
    intro b k L cb x hb hk hro hx
    refine hs.keep cb (hr.bound _ _ _ _ hx) ?_
    rintro ⟨b2, L2, x2, k2, h3, h4, h5⟩
    obtain ⟨e, _⟩ := hr.inj _ _ _ _ _ _ _ _ h3 hx (hg _ _ h4) h5
    rw [e, hb] at h4
    cases h4
  refine ⟨fun b L x hx => hn' ▸ hr'.fresh b L x hx, ?_, hr'.bound, ?_, ?_, ?_, ?_⟩
  · intro b k hk
    rcases hget b k hk with h1 | ⟨h1, h2, _⟩
    · exact hn' ▸ hr'.lives b k h1
    · rw [hn']; exact Nat.lt_of_lt_of_le (hold b k h1 h2).1 hs.next
  · intro b L b' L' cb x x' k h1 h2 hk hro
    rcases hget b k hk with h3 | ⟨h3, h4, _⟩
    · exact hr'.inj b L b' L' cb x x' k h1 h2 h3 hro
    · have g1 := (hold b k h3 h4).2 L _ h1
      obtain ⟨L0, x0, g2⟩ := hs.cons b' L' cb x' h2 (hr.bound _ _ _ _ g1)
      obtain ⟨rfl, _⟩ := hr.inj _ _ _ _ _ _ _ _ g1 g2 h4 hro
      exact hr.inj _ _ _ _ _ _ _ _ g1 ((hold b k h3 h4).2 L' _ h2) h4 hro
  · intro b k L x hk hx
    rcases hget b k hk with h3 | ⟨h3, h4, _⟩
    · exact hr'.top b k L x h3 hx
    · exact hr.top b k L x h4 ((hold b k h3 h4).2 L x hx)
  · intro b k L cb sh S hk hx hm
    rcases hget b k hk with h3 | ⟨h3, h4, h5⟩
    · exact hr'.blk b k L cb sh S h3 hx hm
    · have g1 := (hold b k h3 h4).2 L _ hx
      exact (hr.blk b k L cb sh S h4 g1 hm).mono hs.le (hheap b k L cb _ h3 h4 h5 g1)
  · intro b k hk ho
    rcases hget b k hk with h3 | ⟨h3, h4, h5⟩
    · exact hr'.obj b k h3 ho
    · exact (hr.obj b k h4 ho).mono hs.le fun cb S e => hheap b k 0 cb _ h3 h4 h5 e
theorem Step.other {ρ0 ρ : Rho} {h0 h h2 : AH} {w0 w : World} (hs : Step ρ0 h0 w0 ρ h w) (hg : ∀ b, b < h0.next → h2.get b = h.get b) (hn : h.next ≤ h2.next) (hl : h2.low ≤ h.low) : Step ρ0 h0 w0 ρ h2 w :=
  ⟨hs.le, hs.cons, fun b k' hk hb => hs.ro b k' (by rw [← hg b hb]; exact hk) hb, Nat.le_trans hs.next hn, hs.os, hs.tape, hs.output, hs.size, hs.keep, Nat.le_trans hl hs.lowle, fun b hb hn' => (hg b hn').trans (hs.quiet b (Nat.lt_of_lt_of_le hb hl) hn'), fun b hb hn' => ⟨by rw [hg b hb]; exact (hs.abs b hb hn').1, (hs.abs b hb hn').2⟩⟩
theorem putF_lt {N : Nat} (fr : Nat → V) {d : Nat} (v : V) (hd : Nat.blt d N = true) : (putF foFun N fr (some d) v : Nat → V) = fun t => if t = d then v else fr t := by
  funext t
  show (bif Nat.blt d N then foFun.set fr d v else fr : Nat → V) t = _
  rw [hd]
  exact foFun.get_set fr d t v
theorem putF_ge {N : Nat} (fr : Nat → V) {d : Nat} (v : V) (hd : Nat.blt d N = false) : (putF foFun N fr (some d) v : Nat → V) = fr := by
  show (bif Nat.blt d N then foFun.set fr d v else fr : Nat → V) = _
  rw [hd]; rfl
def isNew : Op → Bool
  | .alloc _ | .box .. | .buildSlice .. | .makeSlice .. | .makeMap .. => true
  | _ => false
theorem isNew_cls {P : Program} {o : Op} (h : isNew o = true) : cls P o = 2 ∧ isCall o = none := by
  cases o <;> first | (cases h; done) | exact ⟨rfl, rfl⟩
set_option maxHeartbeats 1000000 in
theorem new_spec {P : Program} {ρ : Rho} {o : Oper} {ev : Operand → V} {ρc : Operand → Value} {h h' : AH} {v : V} (hnew : isNew o.op = true) (he : ∀ x, R ρ (ev x) (ρc x)) (hs : sop P o.op ev h = some (v, h')) :
    ∃ k s, h' = h.add k ∧ k.ro = false ∧ (∀ w, (execOp ρc o).run P w = (do pure (.value (← s)) : Sem Next).run P w) ∧ NewOK P ρ s h.next k v := by
  obtain ⟨dst, op, ty, pos, after, guard⟩ := o
  simp only at hs hnew
  cases op <;> simp only [isNew, Bool.false_eq_true] at hnew
  case alloc t =>
    change absAlloc P t h = some (v, h') at hs
    unfold absAlloc at hs
    split at hs
    · rename_i zs hz
      cases hs
      obtain ⟨i, z, hi, hz', hR, hl, hc, _, hrun⟩ := zeroOf_spec hz ρ
      have hlen : zs.length = z.cells.size := by simpa using hR.length
      refine ⟨_, Instr.alloc t true (.tuple #[]), rfl, rfl, fun w => rfl, NewOK.cells (fun cb => .pointer (some ⟨cb, 0, none⟩)) z.cells (fun w => by simp [Instr.alloc, hrun, newVar, run_newRow]) (by simp [hlen]) (fun j x hx => ?_) (Nat.zero_le _) (fun ρ' cb hρ => ⟨_, rfl, cb, 0, z.cells.size, by rw [Arr.make_n] at hρ; exact hρ, Int.le_refl _, rfl⟩)⟩
      simp only [Arr.get_make] at hx
      split at hx
      · rename_i hj
        rw [Nat.mod_eq_of_lt hj] at hx
        obtain ⟨u, hu, hRu⟩ := hR.get hx
        rw [Array.getElem?_toList] at hu
        exact ⟨u, hu, hRu⟩
      · cases hx
    · cases hs
  case box t x =>
    change absBox t (ev x) h = some (v, h') at hs
    unfold absBox at hs
    split at hs
    · rename_i hc
      cases hs
      have hb : (ev x).isBad = false := by
        cases hx : ev x <;> rw [hx] at hc <;> first | rfl | (simp [V.cells, V.cell] at hc)
      have hR := R_cells_list (he x) hb
      have hl := hR.length
      refine ⟨_, Instr.box t (ρc x), rfl, rfl, fun w => rfl, NewOK.cells (fun cb => .pointer (some ⟨cb, 0, none⟩)) (ρc x).cells (fun w => by simp [Instr.box, newVar, run_newRow]) (by simpa using Nat.le_of_eq hl) (fun j y hy => ?_) (Nat.zero_le _) (fun ρ' cb hρ => ⟨_, rfl, cb, 0, (ρc x).cells.size, by rw [Arr.ofList_n] at hρ; exact hρ, Int.le_refl _, rfl⟩)⟩
      simp only [Arr.get_ofList] at hy
      obtain ⟨u, hu, hRu⟩ := hR.get hy
      rw [Array.getElem?_toList] at hu
      exact ⟨u, hu, hRu⟩
    · cases hs
  case buildSlice t len parts =>
    obtain ⟨hi, hp⟩ := parts_map he parts
    change absBuildSlice P t len _ h = some (v, h') at hs
    unfold absBuildSlice at hs
    split at hs
    · rename_i e hu
      split at hs
      · rename_i zs hz
        split at hs
        · rename_i hb
          split at hs
          · rename_i cs hf
            split at hs
            · rename_i hc
              cases hs
              obtain ⟨i, z, hi', hz', hR, hl, hcz, _, hrun⟩ := zeroOf_spec hz ρ
              have hzl : z.cells.toList.length = P.cellsOf e := hR.length.symm.trans hl
              have hR0 := range_cells hR len (by omega)
              rw [hzl, Array.toArray_toList] at hR0
              obtain ⟨us', g1, g2⟩ := fill_sound hi hp hR0 hf
              have hl2 := g2.length
              have hfl : cs.length = len * P.cellsOf e := by
                have : ∀ (ps : List (Nat × V)) (c0 c1 : List V), fillV (fun i => some (i * P.cellsOf e, P.cellsOf e)) ps c0 = some c1 → c1.length = c0.length := by
                  intro ps
                  induction ps with
                  | nil => intro c0 c1 h; cases h; rfl
                  | cons p ps ih =>
                    intro c0 c1 h
                    simp only [fillV] at h
                    split at h
                    · rename_i hc2
                      rw [ih _ _ h]
                      unfold putL
                      simp only [List.length_append, List.length_take, List.length_drop]
                      omega
                    · cases h
                rw [this _ _ _ hf]
                simp [hl]
              refine ⟨_, Instr.buildSlice t len (parts.map fun (i, x) => (i, ρc x)), rfl, rfl, fun w => rfl, NewOK.cells (fun cb => .slice (some ⟨cb, 0, none⟩) len len) us' (fun w => ?_) (by simpa using Nat.le_of_eq hl2) (fun j y hy => ?_) (Nat.zero_le _) (fun ρ' cb hρ => ⟨cb, 0, us'.size, len, rfl, by rw [Arr.ofList_n] at hρ; exact hρ, Int.le_refl _, Nat.le_refl _, fun _ => rfl, Nat.le_refl _, ?_⟩)⟩
              · unfold Instr.buildSlice
                simp only [Sem.run_bind, run_underlying hu, Result.andThen_ok, run_sizeOf hi']
                have hne : ¬ len * P.cellsOf e > 2 ^ 24 := by omega
                rw [if_neg hne]
                by_cases h0 : len * P.cellsOf e = 0
                · have hlen0 : len = 0 := by rcases Nat.mul_eq_zero.1 h0 with h | h; exact h; omega
                  subst hlen0
                  simp only [h0, if_true, Sem.run_bind, Sem.run_pure, Result.andThen_ok, Nat.zero_mul, range0] at g1 ⊢
                  simp only [g1, Sem.run_bind, run_newRow, Result.andThen_ok, Sem.run_pure, List.append_nil, Array.toArray_toList]
                · simp only [h0, if_false, Sem.run_bind, Sem.run_pure, hrun, Result.andThen_ok, g1, run_newRow, List.append_nil, Array.toArray_toList]
              · simp only [Arr.get_ofList] at hy
                obtain ⟨u, hu, hRu⟩ := g2.get hy
                exact ⟨u, by simpa using hu, hRu⟩
              · have e1 : us'.toList.length = us'.size := Array.length_toList
                simp only
                omega
            · cases hs
          · cases hs
        · cases hs
      · cases hs
    · cases hs
  case makeSlice t l c =>
    change absMakeSlice P t (ev l) (ev c) h = some (v, h') at hs
    have hl := he l
    have hc := he c
    unfold absMakeSlice at hs
    split at hs
    · rename_i e k l' k' c' hu hl' hc'
      rw [hl'] at hl
      rw [hc'] at hc
      split at hs
      · rename_i zs hz
        split at hs
        · rename_i hb
          obtain ⟨hb0, hb1, hb2, hb3, hb4⟩ := hb
          cases hs
          obtain ⟨i, z, hi', hz', hR, hlz, hcz, _, hrun⟩ := zeroOf_spec hz ρ
          have hzl : z.cells.toList.length = P.cellsOf e := hR.length.symm.trans hlz
          have hzs : z.cells.size = P.cellsOf e := by simpa using hzl
          have hwl : IntKind.i64.wrap l' = l' := by simp [IntKind.wrap, IntKind.bits, IntKind.signed]; omega
          have hwc : IntKind.i64.wrap c' = c' := by simp [IntKind.wrap, IntKind.bits, IntKind.signed]; omega
          have hby : (P.bytesOf e : Int) = i.bytes := by simp [Program.bytesOf, hi']
          refine ⟨⟨Arr.make (c'.toNat * P.cellsOf e) zs, 0, 0, false, e⟩, Instr.makeSlice t (ρc l) (ρc c), rfl, rfl, fun w => rfl, NewOK.cells (fun cb => .slice (some ⟨cb, 0, none⟩) l'.toNat c'.toNat) ((Array.range (c'.toNat * P.cellsOf e)).map fun i => z.cells[i % z.cells.size]!) (fun w => ?_) (by simp) (fun j x hx => ?_) (Nat.zero_le _) (fun ρ' cb hρ => ⟨cb, 0, _, c'.toNat, rfl, by rw [Arr.make_n] at hρ; exact hρ, Int.le_refl _, Nat.le_refl _, fun _ => rfl, by omega, by simp⟩)⟩
          · rw [show ρc l = _ from hl, show ρc c = _ from hc]
            unfold Instr.makeSlice
            simp only [Sem.run_bind, run_underlying hu, Result.andThen_ok, asInt, asIntOf, Sem.run_pure, typeInfo, run_program, hi', hwl, hwc]
            have hnot : ¬ ((decide (c' < 0) || decide ((i.bytes : Int) * c' > 2 ^ 48) || decide (l' < 0) || decide (l' > c')) = true) := by
              simp only [Bool.or_eq_true, decide_eq_true_eq, not_or]
              rw [hby] at hb4
              refine ⟨⟨⟨by omega, by omega⟩, by omega⟩, by omega⟩
            rw [if_neg hnot]
            simp only [Sem.run_bind, Sem.run_pure, run_askRoom, Result.andThen_ok, run_sizeOf hi']
            by_cases h0 : c'.toNat * P.cellsOf e = 0
            · simp only [h0, if_true, Sem.run_bind, Sem.run_pure, Result.andThen_ok, run_newRow, range0]
            · simp only [h0, if_false, Sem.run_bind, Sem.run_pure, hrun, Result.andThen_ok, run_newRow]
          · simp only [Arr.get_make] at hx
            split at hx
            · rename_i hj
              obtain ⟨u, hu', hRu⟩ := hR.get hx
              refine ⟨u, ?_, hRu⟩
              rw [Array.getElem?_toList, hR.length, hzl, ← hzs] at hu'
              simp only [Array.getElem?_map, Array.getElem?_range, hj, if_true, Option.map_some, Option.some.injEq]
              rw [getElem!_def, hu']
            · cases hx
        · cases hs
      · cases hs
    · cases hs
  case makeMap t r =>
    have hobj : NewOK P ρ (do pure (.map (some (← newObj (.map #[] 0)))) : Sem Value) h.next (Blk.obj 0 [.int .i64 0]) (.mapv h.next) := by
      refine ⟨fun cb => .map (some cb), .map #[] 0, 0, 0, fun w => rfl, Nat.le_refl _, fun ρ' cb w' hle hρ hh => ⟨fun hm => absurd (show 2 ≤ 0 from hm) (by decide), fun _ => ⟨rfl, cb, 0, hρ, ?_⟩⟩, fun ρ' cb hρ => ⟨cb, 0, rfl, hρ⟩⟩
      rw [hh]
      exact ⟨#[], 0, rfl, RL_cons.2 ⟨rfl, rfl⟩⟩
    cases r with
    | none =>
      cases (show some (V.mapv h.next, h.add (Blk.obj 0 [.int .i64 0])) = some (v, h') from hs)
      exact ⟨_, _, rfl, rfl, fun w => rfl, hobj⟩
    | some r =>
      change (match P.underlying t, ev r with
        | some (.map _ _), .int _ _ => absMakeMap P h
        | _, _ => none) = some (v, h') at hs
      split at hs
      · rename_i kt et k n hu hn
        cases hs
        have hr := he r
        rw [hn] at hr
        refine ⟨_, _, rfl, rfl, fun w => ?_, hobj⟩
        show (do pure (Next.value (← Instr.makeMap t (some (ρc r)))) : Sem Next).run P w = _
        rw [show ρc r = _ from hr]
        unfold Instr.makeMap
        simp only [Sem.run_bind, run_underlying hu, Result.andThen_ok, run_asInt', Sem.run_pure]
      · cases hs
end Go.Proofs.YtcphjmgfgfjnpaaGreatDoor.Ev
namespace Go.Proofs.YtcphjmgfgfjnpaaGreatDoor.Ev
open Go
def fen : Option Nat → Fence
  | none => Fence.wide
  | some l => Fence.wide.inRound l
theorem fen_fn (ro : Option Nat) (f : FuncId) : (fen ro).fn f := by cases ro <;> exact trivial
theorem fen_depth (ro : Option Nat) : (fen ro).depth = none := by cases ro <;> rfl
theorem calls_fen {ro : Option Nat} {n : Nat} {P : Program} {f : FuncId} {args : Array Value} {w : World} {R : Ending → World → Prop} (h : Calls P f args w R) : CallsIn (fen ro) n P f args w R := by
  cases ro with
  | none => exact callsIn_wide.2 h
  | some l => exact CallsIn.inRound' l (callsIn_wide.2 h)
where CallsIn.inRound' {F : Fence} {n : Nat} {P : Program} {f : FuncId} {args : Array Value} {w : World} {R : Ending → World → Prop} (l : Nat) (h : CallsIn F n P f args w R) : CallsIn (F.inRound l) n P f args w R := h
theorem round_fen {ro : Option Nat} {n : Nat} {P : Program} {l : Nat} {f : FuncId} {tmps : Array Value} {aas bd : Code} {w : World} {R : Ending → World → Prop} (h : RoundIn Fence.wide n P l f tmps aas bd w R) : RoundIn (fen ro) n P l f tmps aas bd w R := by
  cases ro with
  | none => exact h
  | some l' => exact go l' h
where go {F : Fence} {n : Nat} {P : Program} {l : Nat} {f : FuncId} {tmps : Array Value} {aas bd : Code} {w : World} {R : Ending → World → Prop} (l' : Nat) (h : RoundIn F n P l f tmps aas bd w R) : RoundIn (F.inRound l') n P l f tmps aas bd w R := h
theorem callV_wpIn {c : Cfg} (hC : CSound c) (hX : XSound c) {ro : Option Nat} {n : Nat} {ρ : Rho} {h h' : AH} {w : World} {f : FuncId} {args : List V} {args' : List Value} {v : V} (hg : GOK c ρ) (hr : HR ρ h w) (hR : RL ρ args args') (hs : callV c f args h = some (v, h'))
    {o : Oper} {a : Act} {next : Act → World → Prop} {Q : Exit → Act → World → Prop} (hn : ∀ u w' ρ', R ρ' v u → HR ρ' h' w' → Step ρ h w ρ' h' w' → next (a.put o.dst u) w') :
    o.uponIn (fen ro) n c.P a next Q ((callFunc f args'.toArray).run c.P w) := by
  unfold callV at hs
  cases hb : hasBody c f with
  | none => rw [hb] at hs; cases hs
  | some b =>
    rw [hb] at hs
    unfold hasBody at hb
    split at hb
    · cases hb
    · rename_i fn hfn
      split at hb
      · cases hb
      · rename_i hname
        cases b with
        | true =>
          rw [callFunc_body hfn (by simpa using hname) (Option.some.inj hb)]
          simp only [Oper.uponIn]
          refine ⟨fun hd => (by rw [fen_depth] at hd; cases hd), calls_fen ((hC ρ h w f args args' v h' hg hr hR hs).mono ?_)⟩
          rintro e w' ⟨u, ρ', rfl, h1, h2, h3⟩
          exact hn u w' ρ' h1 h2 h3
        | false =>
          obtain ⟨nx, u, w', ρ', h1, h2, h3, h4, h5⟩ := hX.1 ρ h w f args args' v h' hr hR hs
          rw [h1]
          rcases h2 with rfl | ⟨rfl, rfl⟩
          · exact hn u w' ρ' h3 h4 h5
          · exact hn undef w' ρ' h3 h4 h5
theorem isCall_some {o : Op} {cl : Call} (h : isCall o = some cl) : o = .call cl := by
  unfold isCall at h
  split at h
  · split at h
    · cases h
    · cases h; rfl
  · cases h
theorem stepV_defer {c : Cfg} {q : Bool} {cl : Call} {ev : Operand → V} {h : AH} {x : V × AH} (hs : stepV c q (.defer cl) ev h = some x) (hX : HintOK c) : False := by
  unfold stepV at hs
  have h1 := conc_some hX hs
  cases h1
theorem stepV_wpIn {c : Cfg} (hC : CSound c) (hX : XSound c) {ro : Option Nat} {n : Nat} {ρ : Rho} {h h' : AH} {w : World} {quiet : Bool} {o : Oper} {a : Act} {ev : Operand → V} {v : V} (hg : GOK c ρ) (hr : HR ρ h w) (he : ∀ x, R ρ (ev x) (a.eval x)) (hs : stepV c quiet o.op ev h = some (v, h'))
    {next : Act → World → Prop} {Q : Exit → Act → World → Prop} (hn : ∀ u w' ρ', R ρ' v u → HR ρ' h' w' → Step ρ h w ρ' h' w' → next (a.put o.dst u) w') : o.wpIn (fen ro) n c.P a w next Q := by
  refine ⟨fun f _ => fen_fn ro f, ?_⟩
  have hsem : o.semAt (fen ro).round a.eval = execOp a.eval o := Oper.semAt_eq _ _ _ fun cl hcl => by rw [hcl] at hs; exact stepV_defer hs hX.2
  rw [hsem]
  unfold stepV at hs
  split at hs
  · rename_i cl hcl
    have hop := isCall_some hcl
    split at hs
    · rename_i f args hcall
      obtain ⟨args', hRL, hrun⟩ := callee_sound (ty := o.type) hr he hcall
      have hrun' : (execOp a.eval o).run c.P w = (callFunc f args'.toArray).run c.P w := by
        rw [← hrun]
        unfold execOp
        rw [hop]
      rw [hrun']
      split at hs
      · unfold quietV at hs
        cases hq : callV c f args ⟨h.next, h.next, h.m⟩ with
        | none => rw [hq] at hs; cases hs
        | some x =>
          obtain ⟨v1, h1⟩ := x
          rw [hq] at hs
          simp only at hs
          split at hs
          · rename_i hlow
            cases hs
            refine callV_wpIn hC hX hg (hr.low h.next) hRL hq ?_
            intro u w' ρ' g1 g2 g3
            refine hn u w' ρ' g1 (g2.low h.low) ?_
            exact ⟨g3.le, g3.cons, g3.ro, g3.next, g3.os, g3.tape, g3.output, g3.size, g3.keep, Nat.le_refl _, fun b _ hb => g3.quiet b (Nat.lt_of_lt_of_le hb hlow) hb, fun b hb hn => g3.abs b hb hn⟩
          · cases hs
      · exact callV_wpIn hC hX hg hr hRL hs hn
    · cases hs
  · obtain ⟨nx, u, w', ρ', h1, h2, h3, h4, h5⟩ := sop_sound hr he (conc_some hX.2 hs)
    rw [h1]
    rcases h2 with rfl | ⟨rfl, rfl⟩
    · exact hn u w' ρ' h3 h4 h5
    · exact hn undef w' ρ' h3 h4 h5
end Go.Proofs.YtcphjmgfgfjnpaaGreatDoor.Ev
