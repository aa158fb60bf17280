/-
  Part of an own machine over values and memory, and of the proof that what it does the model does. No program in sight. No condition.
-/
import Derived.Test.YtbchdbhojafpdaaGreatDoorKA
set_option linter.unusedVariables false
set_option linter.unusedSimpArgs false
namespace Go.Proofs.YtbchdbhojafpdaaGreatDoor.Ev
open Go
noncomputable def trip : List V → Option (List (V × V × Nat))
  | [] => some []
  | k :: v :: .int .i64 (.ofNat b) :: l => (trip l).map ((k, v, b) :: ·)
  | _ => none
def natsV : List V → Option (List Nat)
  | [] => some []
  | .int .i64 (.ofNat b) :: l => (natsV l).map (b :: ·)
  | _ => none
def Ent (ρ : Rho) : List (V × V × Nat) → List MapEntry → Prop
  | [], [] => True
  | x :: l, e :: es => R ρ x.1 e.key ∧ R ρ x.2.1 e.val ∧ x.2.2 = e.born ∧ Ent ρ l es
  | _, _ => False
theorem Ent.filter {ρ : Rho} {p : V × V × Nat → Bool} {q : MapEntry → Bool} (hp : ∀ x e, x.2.2 = e.born → p x = q e) : ∀ {l : List (V × V × Nat)} {es : List MapEntry}, Ent ρ l es → Ent ρ (l.filter p) (es.filter q)
  | [], [], _ => trivial
  | x :: l, e :: es, ⟨h1, h2, h3, h4⟩ => by
    rw [List.filter_cons, List.filter_cons, hp x e h3]
    cases q e
    · exact h4.filter hp
    · exact ⟨h1, h2, h3, h4.filter hp⟩
theorem Ent.all {ρ : Rho} {p : V × V × Nat → Bool} {q : MapEntry → Bool} (hp : ∀ x e, x.2.2 = e.born → p x = q e) : ∀ {l : List (V × V × Nat)} {es : List MapEntry}, Ent ρ l es → l.all p = es.all q
  | [], [], _ => rfl
  | x :: l, e :: es, ⟨h1, h2, h3, h4⟩ => by rw [List.all_cons, List.all_cons, hp x e h3, h4.all hp]
theorem Ent.empty {ρ : Rho} : ∀ {l : List (V × V × Nat)} {es : List MapEntry}, Ent ρ l es → l.isEmpty = es.isEmpty
  | [], [], _ => rfl
  | _ :: _, _ :: _, _ => rfl
theorem Ent.nil {ρ : Rho} : ∀ {es : List MapEntry}, Ent ρ [] es → es = []
  | [], _ => rfl
theorem Ent.one {ρ : Rho} {x : V × V × Nat} : ∀ {es : List MapEntry}, Ent ρ [x] es → ∃ e, es = [e] ∧ R ρ x.1 e.key ∧ R ρ x.2.1 e.val ∧ x.2.2 = e.born
  | [e], ⟨h1, h2, h3, _⟩ => ⟨e, rfl, h1, h2, h3⟩
theorem trip_ent {ρ : Rho} : ∀ {es : List MapEntry} {data : List V} {l : List (V × V × Nat)}, RL ρ data (mapL es) → trip data = some l → Ent ρ l es
  | [], data, l, h, ht => by rw [RL_noEntry h] at ht; cases ht; trivial
  | e :: es, data, l, h, ht => by
    obtain ⟨k, v, b, rest, rfl, h1, h2, h3, h4⟩ := RL_entry h
    unfold trip at ht
    split at ht
    · rename_i hx; cases hx
    · rename_i k' v' b' l' hx
      cases hx
      obtain ⟨l2, h5, rfl⟩ := map_some' ht
      refine ⟨h1, h2, ?_, trip_ent h4 h5⟩
      have h6 : Value.int .i64 (e.born : Int) = .int .i64 (Int.ofNat b') := h3
      have h7 := (Value.int.inj h6).2
      exact (Int.ofNat.inj h7).symm
    · cases ht
theorem natsV_of (l : List Nat) : natsV (l.map fun n => V.int .i64 (.ofNat n)) = some l := by
  induction l with
  | nil => rfl
  | cons n l ih =>
    show (natsV (l.map fun n => V.int .i64 (.ofNat n))).map (n :: ·) = _
    rw [ih]; rfl
noncomputable def mapStep (since last : Nat) (seen : List Nat) (l : List (V × V × Nat)) : Option (Option (V × V × Nat)) :=
  if (!seen.isEmpty && !l.isEmpty && l.all (fun x => Nat.ble last x.2.2)) = true then none else
  match (l.filter fun x => !seen.contains x.2.2).filter (fun x => Nat.blt x.2.2 since), (l.filter fun x => !seen.contains x.2.2).filter (fun x => Nat.ble since x.2.2) with
  | [], [] => some none
  | [x], [] => some (some x)
  | _, _ => none
def Cand (ρ : Rho) : Option (V × V × Nat) → Option MapEntry → Prop
  | none, none => True
  | some x, some e => R ρ x.1 e.key ∧ R ρ x.2.1 e.val ∧ x.2.2 = e.born
  | _, _ => False
theorem ble_dec (a b : Nat) : Nat.ble a b = decide (b ≥ a) := by
  rw [Bool.eq_iff_iff]; simp
theorem mapStep_sound {ρ : Rho} {l : List (V × V × Nat)} {es : Array MapEntry} (hE : Ent ρ l es.toList) {since last : Nat} {seen : Array Nat} {r : Option (V × V × Nat)} (h : mapStep since last seen.toList l = some r) :
    (!seen.isEmpty && !es.isEmpty && es.all (fun e => decide (e.born ≥ last))) = false ∧
    ∃ c, (if ((es.filter fun e => !seen.contains e.born).filter fun e => decide (e.born < since)).isEmpty = true then #[none] else #[]) ++ (((es.filter fun e => !seen.contains e.born).filter fun e => decide (e.born < since)) ++ ((es.filter fun e => !seen.contains e.born).filter fun e => decide (e.born ≥ since))).map some = #[c] ∧ Cand ρ r c := by
  unfold mapStep at h
  have e1 : l.isEmpty = es.isEmpty := by rw [hE.empty, ← Array.isEmpty_toList]
  have e2 : l.all (fun x => Nat.ble last x.2.2) = es.all (fun e => decide (e.born ≥ last)) := by
    rw [hE.all (q := fun e => decide (e.born ≥ last)) (fun x e hx => by rw [hx, ble_dec]), ← Array.all_toList]
  have e3 : seen.toList.isEmpty = seen.isEmpty := Array.isEmpty_toList
  rw [e1, e2, e3] at h
  have f0 := hE.filter (p := fun x => !seen.toList.contains x.2.2) (q := fun e => !seen.contains e.born) (fun x e hx => by rw [hx]; simp)
  have f1 := f0.filter (p := fun x => Nat.blt x.2.2 since) (q := fun e => decide (e.born < since)) (fun x e hx => by rw [hx, Arr.blt_eq])
  have f2 := f0.filter (p := fun x => Nat.ble since x.2.2) (q := fun e => decide (e.born ≥ since)) (fun x e hx => by rw [hx, ble_dec])
  replace f1 : Ent ρ ((l.filter fun x => !seen.toList.contains x.2.2).filter fun x => Nat.blt x.2.2 since) ((es.filter fun e => !seen.contains e.born).filter fun e => decide (e.born < since)).toList := by
    rw [Array.toList_filter, Array.toList_filter]; exact f1
  replace f2 : Ent ρ ((l.filter fun x => !seen.toList.contains x.2.2).filter fun x => Nat.ble since x.2.2) ((es.filter fun e => !seen.contains e.born).filter fun e => decide (e.born ≥ since)).toList := by
    rw [Array.toList_filter, Array.toList_filter]; exact f2
  revert h f1 f2
  generalize ((es.filter fun e => !seen.contains e.born).filter fun e => decide (e.born < since)) = A
  generalize ((es.filter fun e => !seen.contains e.born).filter fun e => decide (e.born ≥ since)) = B
  generalize ((l.filter fun x => !seen.toList.contains x.2.2).filter fun x => Nat.blt x.2.2 since) = a
  generalize ((l.filter fun x => !seen.toList.contains x.2.2).filter fun x => Nat.ble since x.2.2) = b
  intro h f1 f2
  split at h
  · cases h
  · rename_i hc
    refine ⟨by simpa using hc, ?_⟩
    split at h
    · cases h
      have hA : A = #[] := Array.ext' (by simpa using f1.nil)
      have hB : B = #[] := Array.ext' (by simpa using f2.nil)
      subst hA; subst hB
      exact ⟨none, by simp, trivial⟩
    · cases h
      obtain ⟨e, g1, g2⟩ := f1.one
      have hA : A = #[e] := Array.ext' (by simpa using g1)
      have hB : B = #[] := Array.ext' (by simpa using f2.nil)
      subst hA; subst hB
      exact ⟨some e, by simp, g2⟩
    · cases h
noncomputable def iterOf (h : AH) (b : Nat) : Option (V × Nat × List V × Nat) :=
  match h.get b with
  | some k => if k.cells.n = 0 ∧ k.minL = 2 ∧ k.e = 3 then (match k.cells.z with
    | [mv, .int .i64 (.ofNat since), .tuple sv, .int .i64 (.ofNat last)] => some (mv, since, sv, last)
    | _ => none) else none
  | none => none
theorem iterOf_spec {ρ : Rho} {h : AH} {w : World} (hr : HR ρ h w) {q since last : Nat} {mv : V} {sv : List V} (hm : iterOf h q = some (mv, since, sv, last)) :
    ∃ k cb S m seen, h.get q = some k ∧ k.IsObj ∧ ρ q 0 = some (cb, 0, S) ∧ w.heap[cb]? = some (.mapIter m since seen last) ∧ sv = seen.toList.map (fun n => V.int .i64 (.ofNat n)) ∧ R ρ mv (.map m) := by
  unfold iterOf at hm
  split at hm
  · rename_i k hk
    split at hm
    · rename_i hc
      obtain ⟨h1, h2, h3⟩ := hc
      obtain ⟨_, cb, S, g1, g2⟩ := hr.obj q k hk ⟨h1, h2⟩
      rw [h3] at g2
      obtain ⟨m, since', seen, last', mv', g3, g4, g5⟩ := g2
      split at hm
      · rename_i mv2 s2 sv2 l2 hz
        cases hm
        rw [hz] at g4
        simp only [List.cons.injEq, V.int.injEq, V.tuple.injEq, Int.ofNat.injEq, and_true, true_and] at g4
        obtain ⟨rfl, rfl, g6, rfl⟩ := g4
        exact ⟨k, cb, S, m, seen, hk, ⟨h1, h2⟩, g1, g3, g6, g5⟩
      · cases hm
    · cases hm
  · cases hm
noncomputable def absNextMap (q : Nat) (h : AH) : Option (V × AH) :=
  match iterOf h q with
  | some (.nilmap, _, _, _) => some (.tuple [.bool false], h)
  | some (.mapv b, since, sv, last) =>
    match mapOf h b, natsV sv with
    | some (.int .i64 (.ofNat clock), data), some seen =>
      match trip data with
      | some l =>
        match mapStep since last seen l with
        | some none => some (.tuple [.bool false], h)
        | some (some x) => some (.tuple [.bool true, x.1, x.2.1], h.put q (Blk.obj 3 [.mapv b, .int .i64 (.ofNat since), .tuple (sv ++ [.int .i64 (.ofNat x.2.2)]), .int .i64 (.ofNat clock)]))
        | none => none
      | none => none
    | _, _ => none
  | _ => none
theorem run_getIter {P : Program} {w : World} {r : Nat} {m : Option Nat} {a b : Nat} {seen : Array Nat} (h : w.heap[r]? = some (.mapIter m a seen b)) : (getObj r).run P w = .ok (.mapIter m a seen b) w := by simp [getObj, Sem.run, h]
theorem run_setIter {P : Program} {w : World} {r : Nat} {m : Option Nat} {a b : Nat} {seen : Array Nat} (o : Obj) (h : w.heap[r]? = some (.mapIter m a seen b)) : (setObj r o).run P w = .ok () { w with heap := w.heap.setIfInBounds r o } := by simp [setObj, Sem.run, h]
theorem nextMap_sound {P : Program} {ρ : Rho} {h h' : AH} {w : World} {ty : TypeId} {q cb S : Nat} {v : V} (hr : HR ρ h w) (hq : ρ q 0 = some (cb, 0, S)) (hs : absNextMap q h = some (v, h')) : Sim P ρ h w (Instr.next (.pointer (some ⟨cb, 0, none⟩)) false ty) v h' := by
  unfold absNextMap at hs
  split at hs
  · rename_i since sv last hi
    cases hs
    obtain ⟨k, cb', S', m, seen, g1, g2, g3, g4, g5, g6⟩ := iterOf_spec hr hi
    rw [hq] at g3
    cases g3
    have hm : m = none := by have : Value.map m = .map none := g6; cases this; rfl
    subst hm
    refine Sim.pure hr ⟨.tuple #[.bool false], ?_, ⟨_, rfl, RL_cons.2 ⟨rfl, RL_nil⟩⟩⟩
    unfold Instr.next
    simp only [Sem.run_bind, run_getIter g4, Result.andThen_ok, Sem.run_pure]
  · rename_i b since sv last hi
    obtain ⟨k, cb', S', m, seen, g1, g2, g3, g4, g5, g6⟩ := iterOf_spec hr hi
    rw [hq] at g3
    cases g3
    obtain ⟨mb, Sm, hm, hρm⟩ := g6
    cases hm
    split at hs
    · rename_i clock data seen' hmo hsv
      rw [g5, natsV_of] at hsv
      cases hsv
      obtain ⟨kb, cb2, S2, es, clock', q1, q2, q3, q4, q5, q6⟩ := mapOf_spec hr hmo
      rw [hρm] at q3
      cases q3
      have hcl : clock' = clock := by
        have h6 : Value.int .i64 (clock' : Int) = .int .i64 (Int.ofNat clock) := q5
        exact Int.ofNat.inj (Value.int.inj h6).2
      subst hcl
      split at hs
      · rename_i l ht
        have hE := trip_ent q6 ht
        split at hs
        · rename_i hst
          cases hs
          obtain ⟨c1, c, c2, c3⟩ := mapStep_sound hE hst
          cases c with
          | some _ => exact c3.elim
          | none =>
            refine Sim.pure hr ⟨.tuple #[.bool false], ?_, ⟨_, rfl, RL_cons.2 ⟨rfl, RL_nil⟩⟩⟩
            unfold Instr.next
            simp only [Sem.run_bind, run_getIter g4, run_getMap q4, Result.andThen_ok, c1, Bool.false_eq_true, if_false, c2]
            rfl
        · rename_i x hst
          cases hs
          obtain ⟨c1, c, c2, c3⟩ := mapStep_sound hE hst
          cases c with
          | none => exact c3.elim
          | some e =>
            obtain ⟨x1, x2, x3⟩ := c3
            have hnew : ObjOK ρ 3 [.mapv b, .int .i64 (.ofNat since), .tuple (sv ++ [.int .i64 (.ofNat x.2.2)]), .int .i64 (.ofNat clock')] (some (.mapIter (some mb) since (seen.push e.born) clock')) :=
              ⟨some mb, since, seen.push e.born, clock', .mapv b, rfl, by rw [g5, x3, Array.toList_push, List.map_append]; rfl, mb, Sm, rfl, hρm⟩
            obtain ⟨o1, o2⟩ := obj_set hr g1 g2 hq 3 _ _ hnew
            refine ⟨.tuple #[.bool true, e.key, e.val], _, ρ, ?_, ⟨_, rfl, RL_cons.2 ⟨rfl, RL_cons.2 ⟨x1, RL_cons.2 ⟨x2, RL_nil⟩⟩⟩⟩, o1, o2⟩
            unfold Instr.next
            simp only [Sem.run_bind, run_getIter g4, run_getMap q4, Result.andThen_ok, c1, Bool.false_eq_true, if_false, c2]
            have hset := run_setIter (P := P) (.mapIter (some mb) since (seen.push e.born) clock') g4
            show (do setObj _ (.mapIter (some mb) since (seen.push e.born) clock'); pure (.tuple #[.bool true, e.key, e.val]) : Sem Value).run P w = _
            simp only [Sem.run_bind, hset, Result.andThen_ok, Sem.run_pure]
        · cases hs
      · cases hs
    · cases hs
  · cases hs
def lastN : List Nat → Option Nat
  | [] => none
  | [x] => some x
  | _ :: y :: l => lastN (y :: l)
theorem lastN_eq : ∀ l : List Nat, lastN l = l.getLast?
  | [] => rfl
  | [x] => rfl
  | x :: y :: l => by rw [lastN, lastN_eq (y :: l), List.getLast?_cons_cons]
def eFind (s : Nat) : List (V × V × Nat) → Option (V × V)
  | [] => none
  | x :: l => bif Nat.beq x.2.2 s then some (x.1, x.2.1) else eFind s l
theorem eFind_ent {ρ : Rho} {s : Nat} {k v : V} : ∀ {l : List (V × V × Nat)} {es : List MapEntry}, Ent ρ l es → eFind s l = some (k, v) → ∃ e, es.find? (fun e => e.born == s) = some e ∧ R ρ k e.key ∧ R ρ v e.val
  | [], [], _, h => by cases h
  | x :: l, e :: es, ⟨h1, h2, h3, h4⟩, h => by
    unfold eFind at h
    cases hb : Nat.beq x.2.2 s with
    | true =>
      rw [hb] at h
      cases h
      refine ⟨e, ?_, h1, h2⟩
      have : (e.born == s) = true := by rw [← h3]; simpa using Nat.eq_of_beq_eq_true hb
      rw [List.find?_cons, this]
    | false =>
      rw [hb] at h
      obtain ⟨e', g1, g2⟩ := eFind_ent h4 h
      refine ⟨e', ?_, g2⟩
      have : (e.born == s) = false := by
        rw [← h3]
        cases hq : (x.2.2 == s) with
        | false => rfl
        | true => rw [eq_of_beq hq, Nat.beq_refl] at hb; cases hb
      rw [List.find?_cons, this]
      exact g1
noncomputable def absEntry (x : V) (h : AH) : Option V :=
  match x with
  | .ptr a => if a.L = 0 ∧ a.o = 0 then
      match iterOf h a.b with
      | some (.mapv b, _, sv, last) =>
        match mapOf h b, natsV sv with
        | some (.int .i64 (.ofNat clock), data), some seen => if clock = last then
            match lastN seen, trip data with
            | some s, some l => (eFind s l).map fun p => .tuple [p.1, p.2]
            | _, _ => none
          else none
        | _, _ => none
      | _ => none
    else none
  | _ => none
theorem entry_sound {P : Program} {ρ : Rho} {h : AH} {w : World} {x v : V} {a : Value} (hr : HR ρ h w) (hx : R ρ x a) (hs : absEntry x h = some v) : ∃ u, (Instr.entry a).run P w = .ok u w ∧ R ρ v u := by
  unfold absEntry at hs
  split at hs
  · rename_i q
    split at hs
    · rename_i hq
      obtain ⟨c, rfl, cb', sh, S', g1, g2, g3⟩ := hx
      split at hs
      · rename_i b since sv last hi
        obtain ⟨k, cb, S, m, seen, q1, q2, q3, q4, q5, q6⟩ := iterOf_spec hr hi
        rw [hq.1, q3] at g1
        cases g1
        rw [hq.2] at g3
        have hcc : c = ⟨cb', 0, none⟩ := by rw [g3]; rfl
        subst hcc
        obtain ⟨mb, Sm, hm, hρm⟩ := q6
        cases hm
        split at hs
        · rename_i clock data seen' hmo hsv
          rw [q5, natsV_of] at hsv
          cases hsv
          obtain ⟨kb, cb2, S2, es, clock', p1, p2, p3, p4, p5, p6⟩ := mapOf_spec hr hmo
          rw [hρm] at p3
          cases p3
          have hcl : clock' = clock := by
            have h6 : Value.int .i64 (clock' : Int) = .int .i64 (Int.ofNat clock) := p5
            exact Int.ofNat.inj (Value.int.inj h6).2
          subst hcl
          split at hs
          · rename_i hlast
            subst hlast
            split at hs
            · rename_i s l hl ht
              obtain ⟨p, e1, e2⟩ := map_some' hs
              obtain ⟨k1, v1⟩ := p
              subst e2
              obtain ⟨e, e3, e4, e5⟩ := eFind_ent (trip_ent p6 ht) e1
              have hb : seen.back? = some s := by rw [← Array.getLast?_toList, ← lastN_eq]; exact hl
              have hf : es.find? (fun e => e.born == s) = some e := by rw [← Array.find?_toList]; exact e3
              refine ⟨.tuple #[e.key, e.val], ?_, ⟨_, rfl, RL_cons.2 ⟨e4, RL_cons.2 ⟨e5, RL_nil⟩⟩⟩⟩
              unfold Instr.entry
              simp only [Sem.run_bind, run_getIter q4, run_getMap p4, Result.andThen_ok, hb, hf, bne_self_eq_false, Bool.false_eq_true, if_false, Sem.run_pure]
            · cases hs
          · cases hs
        · cases hs
      · cases hs
    · cases hs
  · cases hs
def mDel : List V → Nat → List V
  | _ :: _ :: _ :: rest, 0 => rest
  | k :: v :: b :: rest, i + 1 => k :: v :: b :: mDel rest i
  | l, _ => l
theorem mDel_sound {ρ : Rho} : ∀ (es : List MapEntry) (data : List V) (i : Nat), RL ρ data (mapL es) → RL ρ (mDel data i) (mapL (es.eraseIdx i)) := by
  intro es
  induction es with
  | nil => intro data i h; rw [RL_noEntry h]; rw [List.eraseIdx_nil]; cases i <;> exact rfl
  | cons e es ih =>
    intro data i h
    obtain ⟨k, v, b, rest, rfl, h1, h2, h3, h4⟩ := RL_entry h
    cases i with
    | zero => rw [List.eraseIdx_cons_zero]; exact h4
    | succ i =>
      rw [List.eraseIdx_cons_succ, mapL_cons]
      exact RL_cons.2 ⟨h1, RL_cons.2 ⟨h2, RL_cons.2 ⟨h3, ih rest i h4⟩⟩⟩
noncomputable def absDelete (P : Program) (t : TypeId) (m k : V) (h : AH) : Option (V × AH) :=
  match P.underlying t with
  | some (.map kt _) =>
    if keyOK P kt k = true then
      match m with
      | .nilmap => some (.tuple [], h)
      | .mapv b => match mapOf h b with
        | none => none
        | some (c, data) => match mFind P kt k data 0 with
          | none => none
          | some none => some (.tuple [], h.put b (Blk.obj 0 (c :: data)))
          | some (some (i, _, _, _)) => some (.tuple [], h.put b (Blk.obj 0 (c :: mDel data i)))
      | _ => none
    else none
  | _ => none
theorem delete_sound {P : Program} {ρ : Rho} {h h' : AH} {w : World} {t t2 ty : TypeId} {m k v : V} {am ak : Value} (hr : HR ρ h w) (hm : R ρ m am) (hk : R ρ k ak) (hs : absDelete P t m k h = some (v, h')) : Sim P ρ h w (Builtin.delete_ #[t, t2] ty #[am, ak]) v h' := by
  unfold absDelete at hs
  split at hs
  · rename_i kt et hu
    split at hs
    · rename_i hok
      split at hs
      · cases hs
        rw [show am = _ from hm]
        refine ⟨.tuple #[], w, ρ, ?_, ⟨_, rfl, RL_nil⟩, hr, Step.refl ρ h w⟩
        unfold Builtin.delete_
        simp only [List.getElem?_toArray, List.getElem?_cons_zero, List.getElem?_cons_succ, Sem.run_bind, run_underlying hu, Result.andThen_ok, checkKey_run hk hok, Sem.run_pure]
      · rename_i b
        obtain ⟨cb', S', rfl, hρ⟩ := hm
        split at hs
        · cases hs
        · rename_i c data hmo
          obtain ⟨kb, cb, S, es, clock, g1, g2, g3, g4, g5, g6⟩ := mapOf_spec hr hmo
          rw [hρ] at g3
          cases g3
          split at hs
          · cases hs
          · rename_i hf
            cases hs
            obtain ⟨r, q1, q2⟩ := mFind_sound hk hok g6 hf w
            cases r with
            | some _ => exact q2.elim
            | none =>
              obtain ⟨o1, o2⟩ := obj_set hr g1 g2 hρ 0 _ _ (show ObjOK ρ 0 (c :: data) (some (.map es clock)) from ⟨es, clock, rfl, RL_cons.2 ⟨g5, g6⟩⟩)
              refine ⟨.tuple #[], _, ρ, ?_, ⟨_, rfl, RL_nil⟩, o1, o2⟩
              unfold Builtin.delete_
              simp only [List.getElem?_toArray, List.getElem?_cons_zero, List.getElem?_cons_succ, Sem.run_bind, run_underlying hu, Result.andThen_ok, run_getMap g4, checkKey_run hk hok, q1, run_setMap _ g4, Sem.run_pure]
          · rename_i i old v' s hf
            cases hs
            obtain ⟨r, q1, q2⟩ := mFind_sound hk hok g6 hf w
            cases r with
            | none => exact q2.elim
            | some p =>
              obtain ⟨j, u⟩ := p
              obtain ⟨rfl, _⟩ := q2
              have hnew : ObjOK ρ 0 (c :: mDel data i) (some (.map (es.eraseIdxIfInBounds i) clock)) := by
                refine ⟨_, clock, rfl, RL_cons.2 ⟨g5, ?_⟩⟩
                have : (es.eraseIdxIfInBounds i).toList = es.toList.eraseIdx i := by
                  unfold Array.eraseIdxIfInBounds
                  split
                  · simp
                  · rw [List.eraseIdx_of_length_le (by rw [Array.length_toList]; omega)]
                rw [this]
                exact mDel_sound _ _ _ g6
              obtain ⟨o1, o2⟩ := obj_set hr g1 g2 hρ 0 _ _ hnew
              refine ⟨.tuple #[], _, ρ, ?_, ⟨_, rfl, RL_nil⟩, o1, o2⟩
              unfold Builtin.delete_
              simp only [List.getElem?_toArray, List.getElem?_cons_zero, List.getElem?_cons_succ, Sem.run_bind, run_underlying hu, Result.andThen_ok, run_getMap g4, checkKey_run hk hok, q1, run_setMap _ g4, Sem.run_pure]
      · cases hs
    · cases hs
  · cases hs
noncomputable def absRange (P : Program) (t : TypeId) (x : V) (h : AH) : Option (V × AH) :=
  match P.underlying t, x with
  | some .string, .str l => some (.ptr ⟨h.next, 0, 0⟩, h.add (Blk.obj 2 [.str l, .int .i64 0]))
  | some (.map _ _), .nilmap => some (.ptr ⟨h.next, 0, 0⟩, h.add (Blk.obj 3 [.nilmap, .int .i64 0, .tuple [], .int .i64 0]))
  | some (.map _ _), .mapv b => match mapOf h b with
    | some (.int .i64 (.ofNat c), _) => some (.ptr ⟨h.next, 0, 0⟩, h.add (Blk.obj 3 [.mapv b, .int .i64 (.ofNat c), .tuple [], .int .i64 (.ofNat c)]))
    | _ => none
  | _, _ => none
noncomputable def absNext (x : V) (isStr : Bool) (h : AH) : Option (V × AH) :=
  match isStr, x with
  | true, .ptr a =>
    if a.L = 0 ∧ a.o = 0 then
      match h.get a.b with
      | some k =>
        if k.cells.n = 0 ∧ k.minL = 2 ∧ k.e = 2 then
          match k.cells.z with
          | [.str l, .int .i64 p] => match l[p.toNat]? with
            | none => some (.tuple [.bool false], h)
            | some c => if c < 128 then some (.tuple [.bool true, .int .i64 p, .int .i32 c], h.put a.b (Blk.obj 2 [.str l, .int .i64 (p + 1)])) else none
          | _ => none
        else none
      | none => none
    else none
  | false, .ptr a => if a.L = 0 ∧ a.o = 0 then absNextMap a.b h else none
  | _, _ => none
theorem range_sound {P : Program} {ρ : Rho} {h h' : AH} {w : World} {t : TypeId} {x v : V} {a : Value} (hr : HR ρ h w) (hx : R ρ x a) (hs : absRange P t x h = some (v, h')) : Sim P ρ h w (Instr.range t a) v h' := by
  unfold absRange at hs
  split at hs
  · rename_i l hu
    cases hs
    obtain ⟨s, rfl, hl⟩ := hx
    subst hl
    obtain ⟨ρ', g1, g2, g3⟩ := obj_new hr 2 [.str (s.data.toList.map UInt8.toNat), .int .i64 0] (.stringIter s 0) ⟨s, 0, rfl, rfl⟩
    refine ⟨.pointer (some ⟨w.heap.size, 0, none⟩), _, ρ', ?_, ⟨_, rfl, w.heap.size, 0, 0, g3, Int.le_refl _, rfl⟩, g1, g2⟩
    unfold Instr.range
    simp only [Sem.run_bind, run_underlying hu, Result.andThen_ok, Sem.run_pure]
    rfl
  · rename_i hu
    cases hs
    rw [show a = _ from hx]
    obtain ⟨ρ', g1, g2, g3⟩ := obj_new hr 3 [.nilmap, .int .i64 0, .tuple [], .int .i64 0] (.mapIter none 0 #[] 0) ⟨none, 0, #[], 0, .nilmap, rfl, rfl, rfl⟩
    refine ⟨.pointer (some ⟨w.heap.size, 0, none⟩), _, ρ', ?_, ⟨_, rfl, w.heap.size, 0, 0, g3, Int.le_refl _, rfl⟩, g1, g2⟩
    unfold Instr.range
    simp only [Sem.run_bind, run_underlying hu, Result.andThen_ok, Sem.run_pure]
    rfl
  · rename_i b hu
    obtain ⟨mb, Sm, rfl, hρ⟩ := hx
    split at hs
    · rename_i c data hmo
      cases hs
      obtain ⟨kb, cb2, S2, es, clock', q1, q2, q3, q4, q5, q6⟩ := mapOf_spec hr hmo
      rw [hρ] at q3
      cases q3
      have hcl : clock' = c := by
        have h6 : Value.int .i64 (clock' : Int) = .int .i64 (Int.ofNat c) := q5
        exact Int.ofNat.inj (Value.int.inj h6).2
      subst hcl
      obtain ⟨ρ', g1, g2, g3⟩ := obj_new hr 3 [.mapv b, .int .i64 (.ofNat clock'), .tuple [], .int .i64 (.ofNat clock')] (.mapIter (some mb) clock' #[] clock') ⟨some mb, clock', #[], clock', .mapv b, rfl, rfl, mb, Sm, rfl, hρ⟩
      refine ⟨.pointer (some ⟨w.heap.size, 0, none⟩), _, ρ', ?_, ⟨_, rfl, w.heap.size, 0, 0, g3, Int.le_refl _, rfl⟩, g1, g2⟩
      unfold Instr.range
      simp only [Sem.run_bind, run_underlying hu, run_getMap q4, Result.andThen_ok, Sem.run_pure]
      rfl
    · cases hs
  · cases hs
theorem next_sound {P : Program} {ρ : Rho} {h h' : AH} {w : World} {ty : TypeId} {b : Bool} {x v : V} {a : Value} (hr : HR ρ h w) (hx : R ρ x a) (hs : absNext x b h = some (v, h')) : Sim P ρ h w (Instr.next a b ty) v h' := by
  unfold absNext at hs
  split at hs
  · rename_i q
    split at hs
    · rename_i hq
      split at hs
      · rename_i k hk
        split at hs
        · rename_i hc
          obtain ⟨h1, h2, h3⟩ := hc
          obtain ⟨hro, cb, S, hρ, hob⟩ := hr.obj q.b k hk ⟨h1, h2⟩
          rw [h3] at hob
          obtain ⟨s, pos, ho, hd⟩ := hob
          split at hs
          · rename_i l p hz
            rw [hz] at hd
            obtain ⟨hl, hp⟩ : l = s.data.toList.map UInt8.toNat ∧ p = (pos : Int) := by
              have := hd
              simp only [List.cons.injEq, V.str.injEq, V.int.injEq, and_true, true_and] at this
              exact this
            subst hl
            subst hp
            obtain ⟨c, rfl, cb', sh, S', g1, g2, g3⟩ := hx
            rw [hq.1, hρ] at g1
            cases g1
            rw [hq.2] at g3
            have hcc : c = ⟨cb, 0, none⟩ := by rw [g3]; rfl
            subst hcc
            have hget : (getObj cb).run P w = .ok (.stringIter s pos) w := by simp [getObj, Sem.run, ho]
            have hsz : (s.data.toList.map UInt8.toNat).length = s.size := by rw [List.length_map, Array.length_toList]; rfl
            split at hs
            · rename_i hn
              cases hs
              refine Sim.pure hr ⟨.tuple #[.bool false], ?_, ⟨_, rfl, RL_cons.2 ⟨rfl, RL_nil⟩⟩⟩
              have hlt : ¬ pos < s.size := by
                have := List.getElem?_eq_none_iff.1 hn
                rw [hsz] at this
                simp only [Int.toNat_natCast] at this
                omega
              unfold Instr.next
              simp only [Sem.run_bind, hget, Result.andThen_ok, if_neg hlt, Sem.run_pure]
            · rename_i ch hn
              split at hs
              · rename_i hlt
                cases hs
                simp only [Int.toNat_natCast] at hn
                have hpos : pos < s.size := by
                  have := (List.getElem?_eq_some_iff.1 hn).1
                  rwa [hsz] at this
                have hch : (s.get! pos).toNat = ch := by
                  rw [List.getElem?_map] at hn
                  have hd : s.data.toList[pos]? = some (s.get! pos) := by
                    rw [Array.getElem?_toList]
                    have hp' : pos < s.data.size := hpos
                    rw [Array.getElem?_eq_getElem hp']
                    exact congrArg some (getElem!_pos s.data pos hp').symm
                  rw [hd] at hn
                  exact Option.some.inj hn
                have hdec : Utf8.decode s pos = (ch, 1) := by
                  unfold Utf8.decode
                  simp only [Nat.add_zero, hch, hlt, if_true]
                obtain ⟨q1, q2⟩ := obj_set hr hk ⟨h1, h2⟩ hρ 2 [.str (s.data.toList.map UInt8.toNat), .int .i64 ((pos : Int) + 1)] (.stringIter s (pos + 1)) ⟨s, pos + 1, rfl, by simp⟩
                refine ⟨.tuple #[.bool true, .int .i64 pos, .int .i32 ch], _, ρ, ?_, ⟨_, rfl, RL_cons.2 ⟨rfl, RL_cons.2 ⟨rfl, RL_cons.2 ⟨rfl, RL_nil⟩⟩⟩⟩, q1, q2⟩
                have hset : (setObj cb (.stringIter s (pos + 1))).run P w = .ok () { w with heap := w.heap.setIfInBounds cb (.stringIter s (pos + 1)) } := by simp [setObj, Sem.run, ho]
                unfold Instr.next
                simp only [Sem.run_bind, hget, Result.andThen_ok, if_pos hpos, hdec, hset, Sem.run_pure]
                rfl
              · cases hs
          · cases hs
        · cases hs
      · cases hs
    · cases hs
  · rename_i q
    split at hs
    · rename_i hq
      obtain ⟨c, rfl, cb', sh, S', g1, g2, g3⟩ := hx
      have hi : ∃ p, iterOf h q.b = some p := by
        unfold absNextMap at hs
        cases hi : iterOf h q.b with
        | none => rw [hi] at hs; cases hs
        | some p => exact ⟨p, rfl⟩
      obtain ⟨⟨mv, since, sv, last⟩, hi⟩ := hi
      obtain ⟨k, cb, S, m, seen, q1, q2, q3, _⟩ := iterOf_spec hr hi
      rw [hq.1, q3] at g1
      cases g1
      rw [hq.2] at g3
      have hcc : c = ⟨cb', 0, none⟩ := by rw [g3]; rfl
      subst hcc
      exact nextMap_sound hr q3 hs
    · cases hs
  · cases hs
end Go.Proofs.YtbchdbhojafpdaaGreatDoor.Ev
namespace Go.Proofs.YtbchdbhojafpdaaGreatDoor.Ev
open Go
def absLen (P : Program) (t : TypeId) (x : V) : Option V :=
  match P.underlying t, x with
  | some .string, .str s => some (.int .i64 s.length)
  | some (.array n _), _ => some (.int .i64 n)
  | some (.pointer arr), _ =>
    match P.underlying arr with
    | some (.array n _) => some (.int .i64 n)
    | _ => none
  | some (.slice _), .slice _ n _ _ _ => some (.int .i64 n)
  | some (.slice _), .nilslice => some (.int .i64 0)
  | some (.slice _), .loose => some (.int .i64 0)
  | _, _ => none
theorem len_sound {P : Program} {ρ : Rho} {t ty : TypeId} {x v : V} {a : Value} (hx : R ρ x a) (hs : absLen P t x = some v) (w : World) : ∃ u, (Builtin.len_ #[t] ty #[a]).run P w = .ok u w ∧ R ρ v u := by
  unfold absLen at hs
  have run0 : ∀ (f : TypeId × Value → Sem Value), True := fun _ => trivial
  split at hs
  · rename_i s hu
    cases hs
    obtain ⟨t', rfl, rfl⟩ := hx
    refine ⟨.int .i64 t'.size, ?_, ?_⟩
    · simp [Builtin.len_, run_underlying hu, goInt]
    · have : (t'.data.toList.map UInt8.toNat).length = t'.size := by rw [List.length_map, Array.length_toList]; rfl
      rw [this]; rfl
  · rename_i n e hu
    cases hs
    refine ⟨.int .i64 n, ?_, rfl⟩
    simp only [Builtin.len_, List.getElem?_toArray, List.getElem?_cons_zero, Sem.run_bind, run_underlying hu, Result.andThen_ok, goInt]
    cases a <;> rfl
  · rename_i arr hu
    split at hs
    · rename_i n e hu2
      cases hs
      refine ⟨.int .i64 n, ?_, rfl⟩
      simp only [Builtin.len_, List.getElem?_toArray, List.getElem?_cons_zero, Sem.run_bind, run_underlying hu, Result.andThen_ok, goInt]
      cases a <;> simp only [Sem.run_bind, run_underlying hu2, Result.andThen_ok, Sem.run_pure]
    · cases hs
  · rename_i e p n _ _ _ hu
    cases hs
    obtain ⟨cb, sh, S, cc, rfl, _⟩ := hx
    exact ⟨.int .i64 n, by simp [Builtin.len_, run_underlying hu, goInt], rfl⟩
  · rename_i e hu
    cases hs
    rw [show a = _ from hx]
    exact ⟨.int .i64 0, by simp [Builtin.len_, run_underlying hu, goInt], rfl⟩
  · rename_i e hu
    cases hs
    obtain ⟨c, cc, rfl⟩ := hx
    exact ⟨.int .i64 0, by simp [Builtin.len_, run_underlying hu, goInt], rfl⟩
  · cases hs
def absCap (P : Program) (t : TypeId) (x : V) : Option V :=
  match P.underlying t, x with
  | some (.slice _), .slice _ _ c true _ => some (.int .i64 c)
  | some (.slice _), .nilslice => some (.int .i64 0)
  | _, _ => none
theorem cap_sound {P : Program} {ρ : Rho} {t ty : TypeId} {x v : V} {a : Value} (hx : R ρ x a) (hs : absCap P t x = some v) (w : World) : ∃ u, (Builtin.cap_ #[t] ty #[a]).run P w = .ok u w ∧ R ρ v u := by
  unfold absCap at hs
  split at hs
  · rename_i e p n c _ hu
    cases hs
    obtain ⟨cb, sh, S, cc, rfl, h1, h2, h3, h4, _⟩ := hx
    obtain rfl := h4 rfl
    exact ⟨.int .i64 cc, by simp [Builtin.cap_, run_underlying hu, goInt], rfl⟩
  · rename_i e hu
    cases hs
    rw [show a = _ from hx]
    exact ⟨.int .i64 0, by simp [Builtin.cap_, run_underlying hu, goInt], rfl⟩
  · cases hs
def max2V (x y : V) : Option V :=
  match x, y with
  | .int k a, .int _ b => some (.int k (if b > a then b else a))
  | _, _ => none
def min2V (x y : V) : Option V :=
  match x, y with
  | .int k a, .int _ b => some (.int k (if b < a then b else a))
  | _, _ => none
def foldV (f : V → V → Option V) : V → List V → Option V
  | x, [] => some x
  | x, y :: l => match f x y with
    | some z => foldV f z l
    | none => none
theorem fold_sound {P : Program} {ρ : Rho} {f : V → V → Option V} {g : Value → Value → Sem Value} (w : World) (hf : ∀ x y z a b, R ρ x a → R ρ y b → f x y = some z → ∃ c, (g a b).run P w = .ok c w ∧ R ρ z c) : ∀ {l : List V} {l' : List Value} {x z : V} {a : Value}, R ρ x a → RL ρ l l' → foldV f x l = some z →
    ∃ c, (l'.foldlM g a).run P w = .ok c w ∧ R ρ z c := by
  intro l
  induction l with
  | nil => intro l' x z a hx hl h; cases h; rw [show l' = [] from hl]; exact ⟨a, rfl, hx⟩
  | cons y l ih =>
    rintro l' x z a hx ⟨b, bs, rfl, hb, hl⟩ h
    simp only [foldV] at h
    cases hz : f x y with
    | none => rw [hz] at h; cases h
    | some m =>
      rw [hz] at h
      obtain ⟨c, h1, h2⟩ := hf _ _ _ _ _ hx hb hz
      obtain ⟨c', h3, h4⟩ := ih h2 hl h
      exact ⟨c', by simp only [List.foldlM_cons, Sem.run_bind, h1, Result.andThen_ok, h3], h4⟩
theorem max2_sound {P : Program} {ρ : Rho} (w : World) : ∀ x y z a b, R ρ x a → R ρ y b → max2V x y = some z → ∃ c, (Builtin.max2 a b).run P w = .ok c w ∧ R ρ z c := by
  intro x y z a b hx hy h
  unfold max2V at h
  split at h
  · cases h; rw [show a = _ from hx, show b = _ from hy]; exact ⟨_, rfl, rfl⟩
  · cases h
theorem min2_sound {P : Program} {ρ : Rho} (w : World) : ∀ x y z a b, R ρ x a → R ρ y b → min2V x y = some z → ∃ c, (Builtin.min2 a b).run P w = .ok c w ∧ R ρ z c := by
  intro x y z a b hx hy h
  unfold min2V at h
  split at h
  · cases h; rw [show a = _ from hx, show b = _ from hy]; exact ⟨_, rfl, rfl⟩
  · cases h
noncomputable def absBuiltin (P : Program) (b : Builtin) (ts : List TypeId) (args : List V) (h : AH) : Option (V × AH) :=
  match b, ts, args with
  | .len, [t], [x] => match absLen P t x with
    | some v => some (v, h)
    | none => (absMapLen P t x h).map fun v => (v, h)
  | .cap, [t], [x] => (absCap P t x).map fun v => (v, h)
  | .append, [t, xt], [s, x] => bif intLike P xt then absAppendZ P t s x h else absAppend P t xt s x h
  | .copy, [t, _], [d, x] => absCopy P t d x h
  | .max, _, x :: l => (foldV max2V x l).map fun v => (v, h)
  | .min, _, x :: l => (foldV min2V x l).map fun v => (v, h)
  | .unsafeSliceData, _, [x] => (absSliceData x).map fun v => (v, h)
  | .unsafeString, [pt, _], [x, n] => absUnsafeString P pt x n h
  | .real, _, l => (partOf .real l).map fun v => (v, h)
  | .imag, _, l => (partOf .imag l).map fun v => (v, h)
  | .complex, _, l => (partOf .complex l).map fun v => (v, h)
  | .delete, [t, _], [m, k] => absDelete P t m k h
  | _, _, _ => none
def SimN (P : Program) (ρ : Rho) (h : AH) (w : World) (s : Sem Next) (v : V) (h' : AH) : Prop :=
  ∃ n u w' ρ', s.run P w = .ok n w' ∧ (n = .value u ∨ (n = .skip ∧ u = undef)) ∧ R ρ' v u ∧ HR ρ' h' w' ∧ Step ρ h w ρ' h' w'
theorem SimN.of {P : Program} {ρ : Rho} {h h' : AH} {w : World} {s : Sem Value} {v : V} (hs : Sim P ρ h w s v h') : SimN P ρ h w (do pure (.value (← s))) v h' := by
  obtain ⟨u, w', ρ', h1, h2, h3, h4⟩ := hs
  exact ⟨.value u, u, w', ρ', by simp only [Sem.run_bind, h1, Result.andThen_ok, Sem.run_pure], .inl rfl, h2, h3, h4⟩
theorem SimN.pure {P : Program} {ρ : Rho} {h : AH} {w : World} {s : Sem Value} {v : V} (hr : HR ρ h w) (hs : ∃ u, s.run P w = .ok u w ∧ R ρ v u) : SimN P ρ h w (do pure (.value (← s))) v h := .of (.pure hr hs)
theorem list1 {α : Type} {a : Array α} {x : α} (h : a.toList = [x]) : a = #[x] := Array.ext' (by simpa using h)
theorem list2 {α : Type} {a : Array α} {x y : α} (h : a.toList = [x, y]) : a = #[x, y] := Array.ext' (by simpa using h)
theorem RL1 {ρ : Rho} {x : V} {l : List Value} (h : RL ρ [x] l) : ∃ a, l = [a] ∧ R ρ x a := by
  obtain ⟨z, zs, rfl, hz, h⟩ := h
  rw [show zs = [] from h]
  exact ⟨z, rfl, hz⟩
theorem RL2 {ρ : Rho} {x y : V} {l : List Value} (h : RL ρ [x, y] l) : ∃ a b, l = [a, b] ∧ R ρ x a ∧ R ρ y b := by
  obtain ⟨z, zs, rfl, hz, h⟩ := h
  obtain ⟨b, rfl, hb⟩ := RL1 h
  exact ⟨z, b, rfl, hz, hb⟩
theorem partOf_sound {P : Program} {ρ : Rho} {b : Builtin} {ats : Array TypeId} {ty : TypeId} {cs : Array Bool} {xs : List V} {args : Array Value} {v : V} (hx : RL ρ xs args.toList) (hs : partOf b xs = some v) (w : World) : ∃ u, (builtin b ats ty cs args).run P w = .ok (.value u) w ∧ R ρ v u := by
  unfold partOf at hs
  split at hs
  · cases hs
    obtain ⟨a, ha, hR⟩ := RL1 hx
    rw [list1 ha, show a = _ from hR]
    exact ⟨_, rfl, rfl⟩
  · cases hs
    obtain ⟨a, ha, hR⟩ := RL1 hx
    rw [list1 ha, show a = _ from hR]
    exact ⟨_, rfl, rfl⟩
  · split at hs
    · rename_i hk
      cases hs
      obtain ⟨a, b, ha, hR, hR2⟩ := RL2 hx
      rw [list2 ha, show a = _ from hR, show b = _ from hR2]
      subst hk
      rename_i k _ _
      exact ⟨_, by cases k <;> rfl, rfl⟩
    · cases hs
  · cases hs
theorem builtin_sound {P : Program} {ρ : Rho} {h h' : AH} {w : World} {b : Builtin} {ats : Array TypeId} {ty : TypeId} {cs : Array Bool} {xs : List V} {args : Array Value} {v : V} (hr : HR ρ h w) (hx : RL ρ xs args.toList) (hs : absBuiltin P b ats.toList xs h = some (v, h')) :
    SimN P ρ h w (builtin b ats ty cs args) v h' := by
  unfold absBuiltin at hs
  split at hs
  · rename_i t x hts
    obtain ⟨a, ha, hR⟩ := RL1 hx
    rw [list1 ha, list1 hts, BigFrame.builtin_len]
    cases hl : absLen P t x with
    | none =>
      rw [hl] at hs
      obtain ⟨v', h1, h2⟩ := map_some' hs
      cases h2
      exact .pure hr (mapLen_sound hr hR h1)
    | some v' => rw [hl] at hs; cases hs; exact .pure hr (len_sound hR hl w)
  · rename_i t x hts
    obtain ⟨a, ha, hR⟩ := RL1 hx
    rw [list1 ha, list1 hts, BigFrame.builtin_cap]
    cases hl : absCap P t x with
    | none => rw [hl] at hs; cases hs
    | some v' => rw [hl] at hs; cases hs; exact .pure hr (cap_sound hR hl w)
  · rename_i t xt s x hts
    obtain ⟨a, b, ha, hR, hR2⟩ := RL2 hx
    rw [list2 ha, list2 hts, BigFrame.builtin_append]
    cases hz : intLike P xt with
    | true => rw [hz] at hs; exact .of (appendZ_sound hr hR hR2 hz hs)
    | false => rw [hz] at hs; exact .of (append_sound hr hR hR2 hs)
  · rename_i t xt s x hts
    obtain ⟨a, b, ha, hR, hR2⟩ := RL2 hx
    rw [list2 ha, list2 hts, BigFrame.builtin_copy]
    exact .of (copy_sound hr hR hR2 hs)
  · rename_i x l
    obtain ⟨a, aas, ha, hR, hR2⟩ := hx
    rw [BigFrame.builtin_max]
    cases hl : foldV max2V x l with
    | none => rw [hl] at hs; cases hs
    | some v' =>
      rw [hl] at hs; cases hs
      refine .pure hr ?_
      unfold Builtin.max_
      rw [ha]
      exact fold_sound w (max2_sound w) hR hR2 hl
  · rename_i x l
    obtain ⟨a, aas, ha, hR, hR2⟩ := hx
    rw [BigFrame.builtin_min]
    cases hl : foldV min2V x l with
    | none => rw [hl] at hs; cases hs
    | some v' =>
      rw [hl] at hs; cases hs
      refine .pure hr ?_
      unfold Builtin.min_
      rw [ha]
      exact fold_sound w (min2_sound w) hR hR2 hl
  · rename_i x
    obtain ⟨a, ha, hR⟩ := RL1 hx
    rw [list1 ha]
    cases hl : absSliceData x with
    | none => rw [hl] at hs; cases hs
    | some v' => rw [hl] at hs; cases hs; exact .pure hr (sliceData_sound hR hl w)
  · rename_i pt it x n hts
    obtain ⟨a, b, ha, hR, hR2⟩ := RL2 hx
    rw [list2 ha, list2 hts, BigFrame.builtin_unsafeString]
    exact .of (unsafeString_sound hr hR hR2 hs)
  · obtain ⟨v', h1, h2⟩ := map_some' hs
    cases h2
    obtain ⟨u, g1, g2⟩ := partOf_sound (P := P) (ats := ats) (ty := ty) (cs := cs) hx h1 w
    exact ⟨_, u, w, ρ, g1, .inl rfl, g2, hr, Step.refl ρ h w⟩
  · obtain ⟨v', h1, h2⟩ := map_some' hs
    cases h2
    obtain ⟨u, g1, g2⟩ := partOf_sound (P := P) (ats := ats) (ty := ty) (cs := cs) hx h1 w
    exact ⟨_, u, w, ρ, g1, .inl rfl, g2, hr, Step.refl ρ h w⟩
  · obtain ⟨v', h1, h2⟩ := map_some' hs
    cases h2
    obtain ⟨u, g1, g2⟩ := partOf_sound (P := P) (ats := ats) (ty := ty) (cs := cs) hx h1 w
    exact ⟨_, u, w, ρ, g1, .inl rfl, g2, hr, Step.refl ρ h w⟩
  · rename_i t t2 m k hts
    obtain ⟨a, b, ha, hR, hR2⟩ := RL2 hx
    rw [list2 ha, list2 hts, BigFrame.builtin_delete]
    exact .of (delete_sound hr hR hR2 hs)
  · cases hs
def absNilCheck (x : V) : Option V :=
  match x with
  | .nilptr | .nilIface | .nilFunc | .bad | .nilmap | .rcd .. => none
  | v => some v
def absMakeIface (P : Program) (t : TypeId) (x : V) : Option V :=
  match P.underlying t with
  | some (.interface _) => none
  | some _ => some (.iface t x)
  | none => none
def absMakeFunc (fn : Fn) (fs cs : List V) : Option V :=
  match fn with
  | .func f => some (.func f fs cs)
  | _ => none
def pickV (t : Bool) (a b : V) : V :=
  match a, b with
  | .bool x, .bool y => .bool (bif t then x else y)
  | .int k x, .int k' y => if k = k' then .int k (bif t then x else y) else bif t then a else b
  | .str x, .str y => .str (bif t then x else y)
  | .agg x, .agg y => .agg (bif t then x else y)
  | a, b => bif t then a else b
theorem pickV_eq (t : Bool) (a b : V) : pickV t a b = if t then a else b := by
  unfold pickV
  split
  · cases t <;> rfl
  · split
    · rename_i hk; subst hk; cases t <;> rfl
    · cases t <;> rfl
  · cases t <;> rfl
  · cases t <;> rfl
  · cases t <;> rfl
def floatT (P : Program) (d : TypeId) : Bool :=
  match P.underlying d with
  | some (.float _) => true
  | some (.complex _) => true
  | _ => false
noncomputable def sop (P : Program) (o : Op) (ev : Operand → V) (h : AH) : Option (V × AH) :=
  match o with
  | .move x => some (ev x, h)
  | .assign x => some (ev x, h)
  | .pick c a b => match ev c with
    | .bool t => some (pickV t (ev a) (ev b), h)
    | _ => none
  | .alloc t => absAlloc P t h
  | .box t x => absBox t (ev x) h
  | .build t ps => (absBuild P t (ps.toList.map fun p => (p.1, ev p.2))).map fun v => (v, h)
  | .buildSlice t n ps => absBuildSlice P t n (ps.toList.map fun p => (p.1, ev p.2)) h
  | .load t a => (absLoad P t (ev a) h).map fun v => (v, h)
  | .store t a x => (absStore P t (ev a) (ev x) h).map fun h' => (.bad, h')
  | .nilCheck x => (absNilCheck (ev x)).map fun v => (v, h)
  | .binOp op t x y _ => (absBin P op t x y (ev x) (ev y)).map fun v => (v, h)
  | .unOp op _ x => (absUn op (ev x)).map fun v => (v, h)
  | .convert s d x =>
    match absUnsafePtr P s d (ev x) h with
    | some v => some (v, h)
    | none => match absConvNum P s d (ev x) with
      | some v => some (v, h)
      | none => bif floatT P d then none else absConvert P s d (ev x) h
  | .makeMap t none => absMakeMap P h
  | .makeMap t (some r) => match P.underlying t, ev r with
    | some (.map _ _), .int _ _ => absMakeMap P h
    | _, _ => none
  | .lookup t m k ok => (absLookup P t (ev m) (ev k) ok h).map fun v => (v, h)
  | .mapUpdate t m k x => (absMapUpdate P t (ev m) (ev k) (ev x) h).map fun h' => (.bad, h')
  | .insert t m k x => (absMapUpdate P t (ev m) (ev k) (ev x) h).map fun h' => (.bad, h')
  | .mapEntry t m k => absMapEntry P t (ev m) (ev k) h
  | .entryStore t m s x => (absEntryStore (ev m) (ev s) (ev x) h).map fun h' => (.bad, h')
  | .sliceToArrayPointer t x => (absArrayAt P t (ev x)).map fun v => (v, h)
  | .makeInterface t x => (absMakeIface P t (ev x)).map fun v => (v, h)
  | .makeFunc fn fs cs => (absMakeFunc fn (fs.toList.map ev) (cs.toList.map ev)).map fun v => (v, h)
  | .makeSlice t l c => absMakeSlice P t (ev l) (ev c) h
  | .slice t x lo hi mx => (absSlice P t (ev x) (lo.map ev) (hi.map ev) (mx.map ev) h).map fun v => (v, h)
  | .fieldAddr t x f => (absFieldAddr P t (ev x) f).map fun v => (v, h)
  | .field t x f => (absField P t (ev x) f).map fun v => (v, h)
  | .indexAddr t x i => (absIndexAddr P t (ev x) (ev i)).map fun v => (v, h)
  | .index t x i => (absIndex P t (ev x) (ev i)).map fun v => (v, h)
  | .typeAssert x _ t ok => (absAssert P (ev x) t ok).map fun v => (v, h)
  | .extract x i => (absExtract (ev x) i).map fun v => (v, h)
  | .call { callee := .builtin b, args, argTypes } => absBuiltin P b argTypes.toList (args.toList.map ev) h
  | .range t x => absRange P t (ev x) h
  | .next x b => absNext (ev x) b h
  | .entry x => (absEntry (ev x) h).map fun v => (v, h)
  | _ => none
theorem RL_map {ρ : Rho} {ev : Operand → V} {ρc : Operand → Value} (he : ∀ x, R ρ (ev x) (ρc x)) : ∀ l : List Operand, RL ρ (l.map ev) (l.map ρc) := by
  intro l
  induction l with
  | nil => exact rfl
  | cons x l ih => exact ⟨_, _, rfl, he x, ih⟩
theorem OR_map {ρ : Rho} {ev : Operand → V} {ρc : Operand → Value} (he : ∀ x, R ρ (ev x) (ρc x)) (o : Option Operand) : OR ρ (o.map ev) (o.map ρc) := by
  cases o with
  | none => exact .none
  | some x => exact .some (he x)
theorem parts_map {ρ : Rho} {ev : Operand → V} {ρc : Operand → Value} (he : ∀ x, R ρ (ev x) (ρc x)) (ps : Array (Nat × Operand)) : (ps.toList.map fun p => (p.1, ev p.2)).map (·.1) = (ps.map fun (i, x) => (i, ρc x)).toList.map (·.1) ∧
    RL ρ ((ps.toList.map fun p => (p.1, ev p.2)).map (·.2)) ((ps.map fun (i, x) => (i, ρc x)).toList.map (·.2)) := by
  constructor
  · simp
  · have := RL_map he (ps.toList.map (·.2))
    simpa [Function.comp_def] using this
theorem map_some {α β : Type} {o : Option α} {f : α → β} {b : β} (h : o.map f = some b) : ∃ a, o = some a ∧ f a = b := by
  cases o with
  | none => cases h
  | some a => exact ⟨a, rfl, Option.some.inj h⟩
theorem sop_sound {P : Program} {ρ : Rho} {h h' : AH} {w : World} {o : Oper} {ev : Operand → V} {ρc : Operand → Value} {v : V} (hr : HR ρ h w) (he : ∀ x, R ρ (ev x) (ρc x)) (hs : sop P o.op ev h = some (v, h')) : SimN P ρ h w (execOp ρc o) v h' := by
  obtain ⟨dst, op, ty, pos, after, guard⟩ := o
  simp only at hs
  unfold sop at hs
  split at hs
  · cases hs; exact ⟨_, _, w, ρ, rfl, .inl rfl, he _, hr, Step.refl ρ h w⟩
  · cases hs; exact ⟨_, _, w, ρ, rfl, .inl rfl, he _, hr, Step.refl ρ h w⟩
  · rename_i c a b
    split at hs
    · rename_i t hc
      cases hs
      have := he c
      rw [hc] at this
      have hc' : ρc c = .bool t := this
      refine ⟨_, if t then ρc a else ρc b, w, ρ, ?_, .inl rfl, ?_, hr, Step.refl ρ h w⟩
      · simp only [execOp, hc', asBool, Sem.run_bind, Sem.run_pure, Result.andThen_ok]
      · rw [pickV_eq]; cases t <;> exact he _
    · cases hs
  · exact .of (alloc_sound hr hs)
  · exact .of (box_sound hr (he _) hs)
  · obtain ⟨v', h1, h2⟩ := map_some hs
    cases h2
    obtain ⟨g1, g2⟩ := parts_map he _
    exact .pure hr (build_sound g1 g2 h1 w)
  · obtain ⟨g1, g2⟩ := parts_map he _
    exact .of (buildSlice_sound hr g1 g2 hs)
  · obtain ⟨v', h1, h2⟩ := map_some hs
    cases h2
    exact .pure hr (load_sound hr (he _) h1)
  · obtain ⟨v', h1, h2⟩ := map_some hs
    cases h2
    obtain ⟨w', g1, g2, g3⟩ := store_sound hr (he _) (he _) h1
    exact ⟨.skip, undef, w', ρ, by simp only [execOp, Sem.run_bind, g1, Result.andThen_ok, Sem.run_pure], .inr ⟨rfl, rfl⟩, trivial, g2, g3⟩
  · rename_i x
    obtain ⟨v', h1, h2⟩ := map_some hs
    cases h2
    refine ⟨.value (ρc x), ρc x, w, ρ, ?_, .inl rfl, ?_, hr, Step.refl ρ h w⟩
    · have hx := he x
      unfold absNilCheck at h1
      generalize ev x = y at h1 hx
      simp only [execOp]
      cases y <;> simp only [reduceCtorEq] at h1
      case bool => rw [show ρc x = _ from hx]; rfl
      case int => rw [show ρc x = _ from hx]; rfl
      case str => obtain ⟨_, e, _⟩ := hx; rw [e]; rfl
      case ptr => obtain ⟨_, e, _⟩ := hx; rw [e]; rfl
      case slice => obtain ⟨_, _, _, _, e, _⟩ := hx; rw [e]; rfl
      case nilslice => rw [show ρc x = _ from hx]; rfl
      case loose => obtain ⟨_, _, e⟩ := hx; rw [e]; rfl
      case func => obtain ⟨_, _, e, _⟩ := hx; rw [e]; rfl
      case iface => obtain ⟨_, e, _⟩ := hx; rw [e]; rfl
      case agg => obtain ⟨_, e, _⟩ := hx; rw [e]; rfl
      case tuple => obtain ⟨_, e, _⟩ := hx; rw [e]; rfl
      case mapv => obtain ⟨_, _, e, _⟩ := hx; rw [e]; rfl
      case complex => rw [show ρc x = _ from hx]; rfl
      case float => rw [show ρc x = _ from hx]; rfl
      case yield => obtain ⟨_, _, e, _⟩ := hx; rw [e]; rfl
    · have hx := he x
      unfold absNilCheck at h1
      split at h1 <;> first | (cases h1; done) | (cases h1; exact hx)
  · obtain ⟨v', h1, h2⟩ := map_some hs
    cases h2
    exact .pure hr (bin_sound (he _) (he _) h1 w)
  · obtain ⟨v', h1, h2⟩ := map_some hs
    cases h2
    exact .pure hr (un_sound (he _) h1 w)
  · split at hs
    · rename_i v' h1; cases hs; exact .pure hr (unsafePtr_sound hr (he _) h1)
    · split at hs
      · rename_i v' h1; cases hs; exact .pure hr (convNum_sound (he _) h1 w)
      · generalize floatT P _ = fl at hs
        cases fl with
        | true => cases hs
        | false => exact .of (convert_sound hr (he _) hs)
  · exact .of (makeMap_sound hr hs)
  · rename_i t r
    split at hs
    · rename_i kt et k n hu hn
      have hrr := he r
      rw [hn] at hrr
      have hrr' : ρc r = .int k n := hrr
      have := makeMap_sound' (k := k) (n := n) hu hr hs
      rw [← hrr'] at this
      exact .of this
    · cases hs
  · obtain ⟨v', h1, h2⟩ := map_some hs
    cases h2
    exact .pure hr (lookup_sound hr (he _) (he _) h1)
  · obtain ⟨v', h1, h2⟩ := map_some hs
    cases h2
    obtain ⟨w', g1, g2, g3⟩ := mapUpdate_sound hr (he _) (he _) (he _) h1
    exact ⟨.skip, undef, w', ρ, by simp only [execOp, Sem.run_bind, g1, Result.andThen_ok, Sem.run_pure], .inr ⟨rfl, rfl⟩, trivial, g2, g3⟩
  · obtain ⟨v', h1, h2⟩ := map_some hs
    cases h2
    obtain ⟨w', g1, g2, g3⟩ := mapUpdate_sound hr (he _) (he _) (he _) h1
    exact ⟨.skip, undef, w', ρ, by simp only [execOp, Sem.run_bind, g1, Result.andThen_ok, Sem.run_pure], .inr ⟨rfl, rfl⟩, trivial, g2, g3⟩
  · exact .of (mapEntry_sound hr (he _) (he _) hs)
  · obtain ⟨v', h1, h2⟩ := map_some hs
    cases h2
    obtain ⟨w', g1, g2, g3⟩ := entryStore_sound (P := P) (t := by assumption) hr (he _) (he _) (he _) h1
    exact ⟨.skip, undef, w', ρ, by simp only [execOp, Sem.run_bind, g1, Result.andThen_ok, Sem.run_pure], .inr ⟨rfl, rfl⟩, trivial, g2, g3⟩
  · obtain ⟨v', h1, h2⟩ := map_some hs
    cases h2
    exact .pure hr (arrayAt_sound (he _) h1 w)
  · rename_i t x
    obtain ⟨v', h1, h2⟩ := map_some hs
    cases h2
    unfold absMakeIface at h1
    refine .pure hr ?_
    split at h1
    · cases h1
    · rename_i d hd hu
      cases h1
      refine ⟨.iface t (ρc x), ?_, _, rfl, he _⟩
      unfold Instr.makeInterface
      simp only [Sem.run_bind, run_underlying hu, Result.andThen_ok]
      rfl
    · cases h1
  · rename_i fn fs cs
    obtain ⟨v', h1, h2⟩ := map_some hs
    cases h2
    unfold absMakeFunc at h1
    split at h1
    · cases h1
      refine .pure hr ⟨.func (.func _) (fs.map ρc) (cs.map ρc), rfl, _, _, rfl, ?_, ?_⟩
      · rw [Array.toList_map]; exact RL_map he _
      · rw [Array.toList_map]; exact RL_map he _
    · cases h1
  · exact .of (makeSlice_sound hr (he _) (he _) hs)
  · obtain ⟨v', h1, h2⟩ := map_some hs
    cases h2
    exact .pure hr (slice_sound hr (he _) (OR_map he _) (OR_map he _) (OR_map he _) h1)
  · obtain ⟨v', h1, h2⟩ := map_some hs
    cases h2
    exact .pure hr (fieldAddr_sound (he _) h1 w)
  · obtain ⟨v', h1, h2⟩ := map_some hs
    cases h2
    exact .pure hr (field_sound (he _) h1 w)
  · obtain ⟨v', h1, h2⟩ := map_some hs
    cases h2
    exact .pure hr (indexAddr_sound (he _) (he _) h1 w)
  · obtain ⟨v', h1, h2⟩ := map_some hs
    cases h2
    exact .pure hr (index_sound (he _) (he _) h1 w)
  · obtain ⟨v', h1, h2⟩ := map_some hs
    cases h2
    exact .pure hr (assert_sound (he _) h1 w)
  · obtain ⟨v', h1, h2⟩ := map_some hs
    cases h2
    exact .pure hr (extract_sound (he _) h1 w)
  · rename_i b args ats
    have := builtin_sound (P := P) (ty := ty) (cs := args.map fun | .const _ => true | _ => false) (args := args.map ρc) hr (by rw [Array.toList_map]; exact RL_map he _) hs
    exact this
  · exact .of (range_sound hr (he _) hs)
  · exact .of (next_sound hr (he _) hs)
  · obtain ⟨v', h1, h2⟩ := map_some hs
    cases h2
    exact .pure hr (entry_sound hr (he _) h1)
  · cases hs
end Go.Proofs.YtbchdbhojafpdaaGreatDoor.Ev
namespace Go.Proofs.YtbchdbhojafpdaaGreatDoor.Ev
open Go
def undefV : V := .tuple []
theorem undefV_R (ρ : Rho) : R ρ undefV undef := ⟨_, rfl, rfl⟩
structure FO where
  F : Type
  get : F → Nat → V
  set : F → Nat → V → F
  ini : List V → F
  get_set : ∀ f i j v, get (set f i v) j = if j = i then v else get f j
  get_ini : ∀ l i, get (ini l) i = l.getD i .bad
  keepK : Nat → F → (F → Option (V × AH)) → Option (V × AH)
  keepK_spec : ∀ key f K, keepK key f K = none ∨ ∃ f', keepK key f K = K f' ∧ ∀ i, get f' i = get f i ∨ get f' i = .bad
def foFun : FO where
  F := Nat → V
  get := fun f i => f i
  set := fun f i v j => bif Nat.beq j i then v else f j
  ini := fun l i => l.getD i .bad
  get_set := fun f i j v => by
    by_cases h : j = i
    · subst h; simp
    · have hb : Nat.beq j i = false := by
        cases hb : Nat.beq j i with
        | false => rfl
        | true => exact absurd (Nat.eq_of_beq_eq_true hb) h
      simp only [hb, cond_false, if_neg h]
  get_ini := fun _ _ => rfl
  keepK := fun _ f K => K f
  keepK_spec := fun _ f _ => .inr ⟨f, rfl, fun _ => .inl rfl⟩
structure Cfg where
  P : Program
  G : Nat → Option Nat
  C : FuncId → List V → AH → Option (V × AH)
  X : FuncId → List V → AH → Option (V × AH)
  hint : Op → Option (Int × (Int → Bool))
abbrev Res := Option (V × AH)
inductive Ck : Type where
  | any
  | int (k : IntKind)
  | bool
  | str
  | agg
def Ck.ty : Ck → Type
  | .any => V
  | .int _ => Int
  | .bool => Bool
  | .str => List Nat
  | .agg => List V
def Ck.val : (c : Ck) → c.ty → V
  | .any, x => x
  | .int k, x => .int k x
  | .bool, x => .bool x
  | .str, x => .str x
  | .agg, x => .agg x
noncomputable def ckI (k : IntKind) (v : V) (K : Int → Res) : Res :=
  match v with
  | .int k' n => if k' = k then K n else none
  | _ => none
noncomputable def ckB (v : V) (K : Bool → Res) : Res :=
  match v with
  | .bool b => K b
  | _ => none
noncomputable def ckS (v : V) (K : List Nat → Res) : Res :=
  match v with
  | .str s => K s
  | _ => none
noncomputable def ckA (v : V) (K : List V → Res) : Res :=
  match v with
  | .agg cs => K cs
  | _ => none
noncomputable def ckT : (c : Ck) → V → (c.ty → Res) → Res
  | .any, v, K => K v
  | .int k, v, K => ckI k v K
  | .bool, v, K => ckB v K
  | .str, v, K => ckS v K
  | .agg, v, K => ckA v K
noncomputable def chk (c : Ck) (v : V) (K : V → Res) : Res := ckT c v fun x => K (c.val x)
def kindOf (P : Program) (t : TypeId) : Ck :=
  match P.underlying t with
  | some (.int k) => .int k
  | some .bool => .bool
  | some .string => .str
  | some (.struct _) | some (.array _ _) => .agg
  | _ => .any
def ckOf (P : Program) (o : Oper) : Ck :=
  match o.dst with
  | none => .any
  | some _ => kindOf P o.type
noncomputable def seeB (g : Bool) (v : V) (K : V → Res) : Res :=
  match g, v with
  | true, .bool b => bif b then K (.bool true) else K (.bool false)
  | _, v => K v
def guards (ops : Array Oper) (i : Nat) : Bool := ops.toList.any fun o => match o.guard with
  | some (j, _) => Nat.beq j i
  | none => false
noncomputable def look (P : Program) (ops : Array Oper) (i : Nat) (o : Oper) (v : V) (K : V → Res) : Res := chk (ckOf P o) v fun v => seeB (guards ops i) v K
noncomputable def concR (m : Int × (Int → Bool)) (r : Res) : Res :=
  match r with
  | some (.int k x, h) => bif m.2 x then some (.int k m.1, h) else none
  | _ => none
noncomputable def conc (o : Option (Int × (Int → Bool))) (r : Res) : Res := Option.rec r (fun m => concR m r) o
def HintOK (c : Cfg) : Prop := ∀ o m, c.hint o = some m → ∀ x, m.2 x = true → x = m.1
theorem conc_some {c : Cfg} (hH : HintOK c) {o : Op} {r : Res} {x : V × AH} (h : conc (c.hint o) r = some x) : r = some x := by
  cases ho : c.hint o with
  | none => rw [ho] at h; exact h
  | some m =>
    rw [ho] at h
    have h' : concR m r = some x := h
    unfold concR at h'
    split at h'
    · rename_i k y hh
      cases hy : m.2 y with
      | true => rw [hy] at h'; rw [hH o m ho y hy]; exact h'
      | false => rw [hy] at h'; cases h'
    · cases h'
theorem conc_of {c : Cfg} (hH : HintOK c) {o : Op} {r r' : Res} {v : V} {h h' : AH} (hc : conc (c.hint o) r = some (v, h)) (hr' : r' = some (v, h')) : conc (c.hint o) r' = some (v, h') := by
  have hr := conc_some hH hc
  subst hr hr'
  cases ho : c.hint o with
  | none => rfl
  | some m =>
    rw [ho] at hc
    have h1 : concR m (some (v, h)) = some (v, h) := hc
    show concR m (some (v, h')) = some (v, h')
    unfold concR at h1 ⊢
    split at h1
    · rename_i k y hh he
      cases he
      cases hy : m.2 y with
      | true => rw [hy] at h1; have h2 : V.int k m.1 = V.int k y := (Prod.mk.inj (Option.some.inj h1)).1; simp only [hy, cond_true, h2]
      | false => rw [hy] at h1; cases h1
    · cases h1
section
variable (c : Cfg) (fo : FO)
def evO (fr : fo.F) : Operand → V
  | .tmp t => fo.get fr t
  | .const v => absC v
  | .global g => match c.G g with
    | some L => .ptr ⟨g, L, 0⟩
    | none => .bad
  | .func f => .func f [] []
def putF (N : Nat) (fr : fo.F) (d : Option Nat) (v : V) : fo.F :=
  match d with
  | some d => bif Nat.blt d N then fo.set fr d v else fr
  | none => fr
noncomputable def callee (ev : Operand → V) (cl : Call) (h : AH) : Option (FuncId × List V) :=
  match cl.callee with
  | .value f => match ev f with
    | .func f fs cs => some (f, fs ++ cl.args.toList.map ev ++ cs)
    | _ => none
  | .invoke r name => match ev r with
    | .iface t v =>
      match c.P.info? t with
      | none => none
      | some i =>
        match i.methods.find? (·.name == name) with
        | none => none
        | some m =>
          if m.path.isEmpty then
            match m.func, c.P.underlying t with
            | some (f, true), some (.pointer _) => some (f, v :: cl.args.toList.map ev)
            | some (f, false), some (.pointer e) => (absLoad c.P e v h).map fun u => (f, u :: cl.args.toList.map ev)
            | some (f, false), some _ => some (f, v :: cl.args.toList.map ev)
            | _, _ => none
          else none
    | _ => none
  | .builtin _ => none
def hasBody (f : FuncId) : Option Bool :=
  match c.P.funcs[f]? with
  | none => none
  | some fn => if fn.name == "runtime.NumGoroutine" then none else some fn.body.isSome
noncomputable def callV (f : FuncId) (args : List V) (h : AH) : Res :=
  match hasBody c f with
  | some true => c.C f args h
  | some false => c.X f args h
  | none => none
noncomputable def quietV (f : FuncId) (args : List V) (h : AH) : Res :=
  match callV c f args ⟨h.next, h.next, h.m⟩ with
  | none => none
  | some (v, h1) => if h.next ≤ h1.low then some (v, ⟨h1.next, h.low, h1.m⟩) else none
def isCall : Op → Option Call
  | .call cl => match cl.callee with
    | .builtin _ => none
    | _ => some cl
  | _ => none
noncomputable def stepV (quiet : Bool) (o : Op) (ev : Operand → V) (h : AH) : Res :=
  match isCall o with
  | some cl =>
    match callee c ev cl h with
    | some (f, args) => if quiet then quietV c f args h else callV c f args h
    | none => none
  | none => conc (c.hint o) (sop c.P o ev h)
def wantedV (ops : Array Oper) (o : Oper) (fr : fo.F) : Option Bool :=
  match o.guard with
  | none => some true
  | some (j, want) =>
    match (ops[j]?).bind (·.dst) with
    | none => some false
    | some d =>
      match fo.get fr d with
      | .bool b => some (b == want)
      | .bad => none
      | _ => some false
end
def GOK (c : Cfg) (ρ : Rho) : Prop := ∀ g L, c.G g = some L → ∃ S, ρ g L = some (g, 0, S)
theorem GOK.mono {c : Cfg} {ρ ρ' : Rho} (h : GOK c ρ) (hle : ρ.le ρ') : GOK c ρ' := fun g L hg => let ⟨S, hS⟩ := h g L hg; ⟨S, hle _ _ _ hS⟩
def FR (fo : FO) (ρ : Rho) (fr : fo.F) (tmps : Array Value) : Prop := ∀ t, R ρ (fo.get fr t) (tmps.getD t undef)
theorem FR.mono {fo : FO} {ρ ρ' : Rho} {fr : fo.F} {tmps : Array Value} (h : FR fo ρ fr tmps) (hle : ρ.le ρ') : FR fo ρ' fr tmps := fun t => (h t).mono hle
theorem FR.put {fo : FO} {ρ : Rho} {fr : fo.F} {a : Act} (h : FR fo ρ fr a.tmps) {N : Nat} (hN : a.tmps.size = N) (d : Option Nat) {v : V} {u : Value} (hR : R ρ v u) : FR fo ρ (putF fo N fr d v) (a.put d u).tmps := by
  cases d with
  | none => exact h
  | some d =>
    intro t
    unfold putF Act.put
    simp only [Array.getD_eq_getD_getElem?]
    rw [Arr.blt_eq]
    by_cases hd : d < N
    · simp only [hd, decide_true, cond_true, fo.get_set, Array.getElem?_setIfInBounds]
      by_cases ht : t = d
      · subst ht; rw [if_pos rfl, if_pos rfl, if_pos (by omega)]; exact hR
      · rw [if_neg ht, if_neg (fun e => ht e.symm)]
        have := h t
        rwa [Array.getD_eq_getD_getElem?] at this
    · simp only [hd, decide_false, cond_false, Array.getElem?_setIfInBounds]
      have := h t
      rw [Array.getD_eq_getD_getElem?] at this
      by_cases ht : d = t
      · subst ht; rw [if_pos rfl, if_neg (by omega)]
        rw [Array.getElem?_eq_none (by omega)] at this
        exact this
      · rw [if_neg ht]; exact this
theorem put_size (a : Act) (d : Option Tmp) (u : Value) : (a.put d u).tmps.size = a.tmps.size := by cases d <;> simp [Act.put]
theorem put_defers (a : Act) (d : Option Tmp) (u : Value) : (a.put d u).defers = a.defers := by cases d <;> simp [Act.put]
theorem evO_R {c : Cfg} {fo : FO} {ρ : Rho} {fr : fo.F} {a : Act} (hg : GOK c ρ) (h : FR fo ρ fr a.tmps) : ∀ x, R ρ (evO c fo fr x) (a.eval x) := by
  intro x
  cases x with
  | tmp t => exact h t
  | const v => exact absC_R ρ v
  | global g =>
    simp only [evO]
    cases hG : c.G g with
    | none => trivial
    | some L =>
      obtain ⟨S, hS⟩ := hg g L hG
      exact ⟨_, rfl, g, 0, S, hS, Int.le_refl _, rfl⟩
  | func f => exact ⟨_, _, rfl, rfl, rfl⟩
def CSound (c : Cfg) : Prop := ∀ (ρ : Rho) (h : AH) (w : World) (f : FuncId) (args : List V) (args' : List Value) (v : V) (h' : AH), GOK c ρ → HR ρ h w → RL ρ args args' → c.C f args h = some (v, h') →
  Calls c.P f args'.toArray w fun e w' => ∃ u ρ', e = .returned u ∧ R ρ' v u ∧ HR ρ' h' w' ∧ Step ρ h w ρ' h' w'
def XRun (c : Cfg) : Prop := ∀ (ρ : Rho) (h : AH) (w : World) (f : FuncId) (args : List V) (args' : List Value) (v : V) (h' : AH), HR ρ h w → RL ρ args args' → c.X f args h = some (v, h') → SimN c.P ρ h w (callFunc f args'.toArray) v h'
def XSound (c : Cfg) : Prop := XRun c ∧ HintOK c
theorem callee_sound {c : Cfg} {ρ : Rho} {m0 : AH} {w : World} (hr : HR ρ m0 w) {ev : Operand → V} {ρc : Operand → Value} {cl : Call} {f : FuncId} {args : List V} {ty : TypeId} (he : ∀ x, R ρ (ev x) (ρc x)) (h : callee c ev cl m0 = some (f, args)) :
    ∃ args' : List Value, RL ρ args args' ∧ (do let d ← resolve ρc cl ty; invoke d.target d.args : Sem Next).run c.P w = (callFunc f args'.toArray).run c.P w := by
  unfold callee at h
  have hargs : RL ρ (cl.args.toList.map ev) (cl.args.toList.map ρc) := RL_map he _
  split at h
  · rename_i fo hcl
    split at h
    · rename_i f' fs cs hf
      cases h
      have hR := he fo
      rw [hf] at hR
      obtain ⟨xs, ys, hv, h1, h2⟩ := hR
      refine ⟨xs.toList ++ cl.args.toList.map ρc ++ ys.toList, (h1.append hargs).append h2, ?_⟩
      unfold resolve
      simp only [hcl, hv, Deferred.ofValue, Sem.run_bind, Sem.run_pure, Result.andThen_ok, invoke]
      congr 2
      apply Array.ext'
      simp
    · cases h
  · rename_i r name hcl
    split at h
    · rename_i t v hrv
      have hR := he r
      rw [hrv] at hR
      obtain ⟨y, hy, hRy⟩ := hR
      split at h
      · cases h
      · rename_i i hi
        split at h
        · cases h
        · rename_i m hm
          split at h
          · rename_i hp
            have hpe : m.path.toList = [] := by
              have : m.path = #[] := by simpa using hp
              rw [this]
            have hstep : ∀ (f : FuncId) (b : Bool) (yy : Value), m.func = some (f, b) → ((receiverAt t (.val y) b (if m.path.isEmpty then some ((name.splitOn ".").getLastD name) else none)).run c.P w = .ok yy w) →
                (do let d ← resolve ρc cl ty; invoke d.target d.args : Sem Next).run c.P w = (callFunc f (yy :: cl.args.toList.map ρc).toArray).run c.P w := by
              intro f b yy hf hrec
              unfold resolve
              simp only [hcl, hy, Sem.run_bind, Sem.run_pure, Result.andThen_ok, invoke]
              have h0 : (#[Value.iface t y] ++ Array.map ρc cl.args)[0]? = some (.iface t y) := by rw [Array.getElem?_append_left (by simp)]; rfl
              rw [h0]
              simp only [callMethod, Sem.run_bind, run_program, Result.andThen_ok]
              obtain ⟨k, hk⟩ : ∃ k, c.P.types.size + Made.depth = k + 1 := ⟨c.P.types.size + Made.depth - 1, by have h00 : 0 < Made.depth := (by decide); omega⟩
              rw [hk]
              unfold method
              simp only [Sem.run_bind, typeInfo, run_program, hi, Sem.run_pure, Result.andThen_ok, hm, hpe, follow, hf, hrec]
              congr 2
              apply Array.ext'
              simp [List.take_of_length_le]
            split at h
            · rename_i f' e hf hu
              cases h
              refine ⟨y :: cl.args.toList.map ρc, ⟨_, _, rfl, hRy, hargs⟩, hstep _ _ _ hf ?_⟩
              unfold receiverAt
              simp only [Sem.run_bind, run_underlying hu, Result.andThen_ok, Place.get, Sem.run_pure]
            · rename_i f' e hf hu
              cases hl : absLoad c.P e v m0 with
              | none => rw [hl] at h; cases h
              | some u0 =>
                rw [hl] at h
                cases h
                obtain ⟨u, k1, k2⟩ := load_sound hr hRy hl
                refine ⟨u :: cl.args.toList.map ρc, ⟨_, _, rfl, k2, hargs⟩, hstep _ _ _ hf ?_⟩
                have hpt : ∃ c0, y = .pointer (some c0) := by
                  unfold absLoad at hl
                  split at hl
                  · obtain ⟨c0, e0, _⟩ := hRy; exact ⟨c0, e0⟩
                  · cases hl
                obtain ⟨c0, rfl⟩ := hpt
                have hpi : m.path.isEmpty = true := hp
                unfold receiverAt
                have hck : ∀ nm : String, (Builtin.ssaWrapNilChk_ #[t] t #[.pointer (some c0), strVal "", strVal nm]).run c.P w = .ok (.pointer (some c0)) w := fun nm => rfl
                simp only [Sem.run_bind, run_underlying hu, Result.andThen_ok, Place.get, Sem.run_pure, hpi, if_true, hck]
                exact k1
            · rename_i f' d hd hf hu
              cases h
              refine ⟨y :: cl.args.toList.map ρc, ⟨_, _, rfl, hRy, hargs⟩, hstep _ _ _ hf ?_⟩
              unfold receiverAt
              simp only [Sem.run_bind, run_underlying hu, Result.andThen_ok]
              cases d <;> first | exact absurd rfl (hd _) | rfl
            · cases h
          · cases h
    · cases h
  · cases h
theorem callFunc_body {P : Program} {f : FuncId} {fn : Func} (h : P.funcs[f]? = some fn) (hn : (fn.name == "runtime.NumGoroutine") = false) (hb : fn.body.isSome = true) (args : Array Value) (w : World) : (callFunc f args).run P w = .ok (.enter f args) w := by
  unfold callFunc
  have : fn.body.isNone = false := by cases hh : fn.body with | none => rw [hh] at hb; cases hb | some => rfl
  simp only [Sem.run_bind, run_program, Result.andThen_ok, h, hn, this, Bool.false_eq_true, if_false, Sem.run_pure]
theorem HR.low {ρ : Rho} {h : AH} {w : World} (hr : HR ρ h w) (l : Nat) : HR ρ ⟨h.next, l, h.m⟩ w := ⟨hr.fresh, hr.lives, hr.bound, hr.inj, hr.top, hr.blk, hr.obj⟩
theorem wantedV_sound {fo : FO} {ρ : Rho} {ops : Array Oper} {o : Oper} {fr : fo.F} {a : Act} {b : Bool} (h : FR fo ρ fr a.tmps) (hw : wantedV fo ops o fr = some b) : Region.wanted o (yielded ops a.tmps) = b := by
  unfold wantedV at hw
  unfold Region.wanted
  split at hw
  · rename_i hgd; rw [hgd]; exact Option.some.inj hw
  · rename_i j want hgd
    rw [hgd]
    simp only
    unfold yielded
    split at hw
    · rename_i hd; rw [hd]; simp only [Option.bind_none]; cases hw; rfl
    · rename_i d hd
      rw [hd]
      simp only [Option.bind_some]
      have hR := h d
      rw [Array.getD_eq_getD_getElem?] at hR
      split at hw
      · rename_i b' hv
        rw [hv] at hR
        cases hg : a.tmps[d]? with
        | none => rw [hg] at hR; simp only [Option.getD_none] at hR; cases (show undef = .bool b' from hR)
        | some u => rw [hg] at hR; simp only [Option.getD_some] at hR; rw [show u = _ from hR]; cases hw; cases b' <;> cases want <;> rfl
      · cases hw
      · rename_i hv hbad
        cases hw
        cases hg : a.tmps[d]? with
        | none => rfl
        | some u =>
          rw [hg] at hR
          simp only [Option.getD_some] at hR
          cases u with
          | bool b' =>
            exfalso
            have htag := R_tag hR (by cases hx : fo.get fr d <;> first | rfl | exact absurd hx hbad | (rw [hx] at hR; obtain ⟨_, _, hR⟩ := hR; cases hR))
            cases hx : fo.get fr d <;> rw [hx] at htag <;> first | (simp [valueTag, V.tag] at htag; done) | exact hv _ hx | (rw [hx] at hR; obtain ⟨_, _, hR⟩ := hR; cases hR)
          | _ => rfl
end Go.Proofs.YtbchdbhojafpdaaGreatDoor.Ev
namespace Go.Proofs.YtbchdbhojafpdaaGreatDoor.Ev
open Go
section
variable (c : Cfg) (fo : FO) (N : Nat) (ops : Array Oper) (qs : Nat → Bool)
noncomputable def runOps : List Nat → fo.F → AH → (fo.F → AH → Res) → Res
  | [], fr, h, k => k fr h
  | i :: is, fr, h, k =>
    match ops[i]? with
    | none => runOps is fr h k
    | some o =>
      match wantedV fo ops o fr with
      | none => none
      | some false => runOps is (putF fo N fr o.dst undefV) h k
      | some true =>
        match stepV c (qs i) o.op (evO c fo fr) h with
        | none => none
        | some (v, h') => look c.P ops i o v fun v => runOps is (putF fo N fr o.dst v) h' k
end
def Post (D : List Deferred) (c : Cfg) (fo : FO) (N : Nat) (ρ0 : Rho) (h0 : AH) (w0 : World) (r : V × AH) (k : fo.F → AH → Res) (Q : Act → World → Prop) : Prop :=
  ∀ (fr : fo.F) (h : AH) (a : Act) (w : World) (ρ : Rho), k fr h = some r → FR fo ρ fr a.tmps → a.tmps.size = N → a.defers = D → GOK c ρ → HR ρ h w → Step ρ0 h0 w0 ρ h w → Q a w
theorem Post.step {D : List Deferred} {c : Cfg} {fo : FO} {N : Nat} {ρ0 ρ1 : Rho} {h0 h1 : AH} {w0 w1 : World} {r : V × AH} {k : fo.F → AH → Res} {Q : Act → World → Prop} (hr : HR ρ0 h0 w0) (hs : Step ρ0 h0 w0 ρ1 h1 w1) (hp : Post D c fo N ρ0 h0 w0 r k Q) : Post D c fo N ρ1 h1 w1 r k Q :=
  fun fr h a w ρ hk hf hN hd hg hh hst => hp fr h a w ρ hk hf hN hd hg hh (Step.trans hr hs hst)
def cls (P : Program) (o : Op) : Nat :=
  match o with
  | .move _ | .assign _ | .pick .. | .build .. | .nilCheck _ | .binOp .. | .unOp .. | .sliceToArrayPointer .. | .makeInterface .. | .makeFunc .. | .fieldAddr .. | .field .. | .indexAddr .. | .index .. | .typeAssert .. | .extract .. => 0
  | .load .. | .slice .. | .lookup .. => 1
  | .convert s d _ => bif floatT P d then 0 else
    match P.underlying s, P.underlying d with
    | _, some (.int _) => 0
    | some .string, some .string => 0
    | some (.slice _), some .string => 1
    | _, _ => 2
  | .call { callee := .builtin b, argTypes, .. } =>
    match b with
    | .len => match argTypes.toList with
      | [t] => match P.underlying t with
        | some (.map _ _) => 1
        | _ => 0
      | _ => 0
    | .real | .imag | .complex | .cap | .max | .min | .unsafeSliceData => 0
    | _ => 2
  | _ => 2
def blockOf : V → Option Nat
  | .ptr a => some a.b
  | .slice a _ _ _ _ => some a.b
  | .mapv b => some b
  | _ => none
theorem mapOf_same {h h2 : AH} {b : Nat} (he : h2.get b = h.get b) : mapOf h2 b = mapOf h b := by
  unfold mapOf; rw [he]
theorem readN_same {h h2 : AH} {a : A} {n : Nat} (he : h2.get a.b = h.get a.b) : readN h2 a n = readN h a n := by
  rw [readN_eq, readN_eq, he]
theorem loud_same {P : Program} {o : Op} {ev : Operand → V} {h h1 : AH} {v : V} (hc : cls P o ≠ 2) (hcall : isCall o = none) (hs : sop P o ev h = some (v, h1)) :
    h1 = h ∧ ∀ h2 : AH, (cls P o ≠ 0 → ∀ x b, blockOf (ev x) = some b → (h.get b).isSome = true → h2.get b = h.get b) → sop P o ev h2 = some (v, h2) := by
  have pureCase : ∀ (z : Option V), (z.map fun v => (v, h)) = some (v, h1) → h1 = h ∧ z = some v := by
    intro z hz
    cases z with
    | none => cases hz
    | some v' => cases hz; exact ⟨rfl, rfl⟩
  have outP : ∀ (z : Option V), (z.map fun v => (v, h)) = some (v, h1) → h1 = h ∧ ∀ h2 : AH, (cls P o ≠ 0 → ∀ x b, blockOf (ev x) = some b → (h.get b).isSome = true → h2.get b = h.get b) → (z.map fun v => (v, h2)) = some (v, h2) := by
    intro z hz
    obtain ⟨rfl, rfl⟩ := pureCase z hz
    exact ⟨rfl, fun h2 _ => rfl⟩
  cases o
  case move x => cases hs; exact ⟨rfl, fun _ _ => rfl⟩
  case assign x => cases hs; exact ⟨rfl, fun _ _ => rfl⟩
  case pick cc a b =>
    unfold sop at hs ⊢
    simp only at hs ⊢
    split at hs
    · cases hs; exact ⟨rfl, fun _ _ => rfl⟩
    · cases hs
  case build t ps => exact outP _ hs
  case nilCheck x => exact outP _ hs
  case binOp op t x y t2 => exact outP _ hs
  case unOp op t x => exact outP _ hs
  case sliceToArrayPointer t x => exact outP _ hs
  case makeInterface t x => exact outP _ hs
  case makeFunc f a b => exact outP _ hs
  case fieldAddr t x f => exact outP _ hs
  case field t x f => exact outP _ hs
  case indexAddr t x i => exact outP _ hs
  case index t x i => exact outP _ hs
  case typeAssert x t1 t2 ok => exact outP _ hs
  case extract x i => exact outP _ hs
  case load t x =>
    obtain ⟨rfl, hl⟩ := pureCase _ hs
    refine ⟨rfl, fun h2 hb => ?_⟩
    show ((absLoad P t (ev x) h2).map fun v => (v, h2)) = _
    have : absLoad P t (ev x) h2 = absLoad P t (ev x) h1 := by
      unfold absLoad
      cases hx : ev x with
      | ptr a =>
        have hsome : (h1.get a.b).isSome = true := by
          rw [hx] at hl
          unfold absLoad at hl
          cases hg : h1.get a.b with
          | some k => rfl
          | none =>
            exfalso
            have hr : ∀ n, readN h1 a n = none := fun n => by rw [readN_eq, hg]; rfl
            simp only [hr] at hl
            split at hl <;> cases hl
        have he := hb (by simp [cls]) x a.b (by rw [hx]; rfl) hsome
        simp only [readN_same he]
      | _ => rfl
    rw [this, hl]; rfl
  case slice t x lo hi mx =>
    obtain ⟨rfl, hl⟩ := pureCase _ hs
    refine ⟨rfl, fun h2 hb => ?_⟩
    show ((absSlice P t (ev x) _ _ _ h2).map fun v => (v, h2)) = _
    have : absSlice P t (ev x) (lo.map ev) (hi.map ev) (mx.map ev) h2 = absSlice P t (ev x) (lo.map ev) (hi.map ev) (mx.map ev) h1 := by
      unfold absSlice
      cases hx : ev x with
      | ptr a =>
        have hsome : ∀ n e, P.underlying t = some (.array n e) → (h1.get a.b).isSome = true := by
          intro n e hu
          rw [hx] at hl
          unfold absSlice at hl
          simp only [hu] at hl
          cases hg : h1.get a.b with
          | some k => rfl
          | none => rw [hg] at hl; cases hl
        cases hu : P.underlying t with
        | none => rfl
        | some d =>
          cases d with
          | array n e =>
            have he := hb (by simp [cls]) x a.b (by rw [hx]; rfl) (hsome n e hu)
            simp only [he]
          | _ => rfl
      | _ =>
        cases hu : P.underlying t with
        | none => rfl
        | some d => cases d <;> rfl
    rw [this, hl]; rfl
  case lookup t m k ok =>
    obtain ⟨rfl, hl⟩ := pureCase _ hs
    refine ⟨rfl, fun h2 hb => ?_⟩
    show ((absLookup P t (ev m) (ev k) ok h2).map fun v => (v, h2)) = _
    have : absLookup P t (ev m) (ev k) ok h2 = absLookup P t (ev m) (ev k) ok h1 := by
      cases hm : ev m with
      | mapv b =>
        have hsome : (h1.get b).isSome = true := by
          cases hg : h1.get b with
          | some k => rfl
          | none =>
            exfalso
            have hn : mapOf h1 b = none := by unfold mapOf; rw [hg]
            have hn2 : mapU h1 b = none := by unfold mapU; rw [hg]
            rw [hm] at hl
            unfold absLookup at hl
            split at hl
            · split at hl
              · simp only [hn, hn2] at hl; cases hl
              · cases hl
            · cases hl
        have hbb := hb (by simp [cls]) m b (by rw [hm]; rfl) hsome
        have he := mapOf_same hbb
        have he2 : mapU h2 b = mapU h1 b := by unfold mapU; rw [hbb]
        unfold absLookup
        simp only [he, he2]
      | _ => rfl
    rw [this, hl]; rfl
  case convert s d x =>
    have hno : ∀ h3, absUnsafePtr P s d (ev x) h3 = none := by
      intro h3
      unfold absUnsafePtr
      split
      · rename_i g1 g2; exact absurd (by simp [cls, floatT, g1, g2]) hc
      · rename_i g1 g2; exact absurd (by simp [cls, floatT, g1, g2]) hc
      · rename_i g1 g2; exact absurd (by simp [cls, floatT, g1, g2]) hc
      · rename_i g1 g2; exact absurd (by simp [cls, floatT, g1, g2]) hc
      · rfl
    cases hcn : absConvNum P s d (ev x) with
    | some vv =>
      have hgo : ∀ h2, sop P (.convert s d x) ev h2 = some (vv, h2) := by
        intro h2
        unfold sop
        simp only [hno, hcn]
      rw [hgo] at hs
      cases hs
      exact ⟨rfl, fun h2 _ => hgo h2⟩
    | none =>
    cases hfl : floatT P d with
    | true =>
      exfalso
      unfold sop at hs
      simp only [hno, hcn, hfl, cond_true] at hs
      cases hs
    | false =>
    have hs' : absConvert P s d (ev x) h = some (v, h1) := by
      unfold sop at hs
      simp only [hno, hcn, hfl, cond_false] at hs
      exact hs
    have hgo : ∀ h2, sop P (.convert s d x) ev h2 = absConvert P s d (ev x) h2 := by
      intro h2
      unfold sop
      simp only [hno, hcn, hfl, cond_false]
    simp only [cls, hfl, cond_false] at hc ⊢
    simp only [hgo]
    generalize hx : ev x = y at hs'
    unfold absConvert at hs' ⊢
    cases hu1 : P.underlying s with
    | none => simp only [hu1] at hs'; cases hs'
    | some d1 =>
      cases hu2 : P.underlying d with
      | none => simp only [hu1, hu2] at hs'; cases d1 <;> cases hs'
      | some d2 =>
        have hcl : (match (some d1 : Option TypeDesc), (some d2 : Option TypeDesc) with
            | _, some (.int _) => 0
            | some .string, some .string => 0
            | some (.slice _), some .string => 1
            | _, _ => 2) ≠ 2 := by
          have := hc
          simp only [cls, hu1, hu2] at this
          exact this
        simp only [hu1, hu2] at hs'
        cases d2
        case int k =>
          cases y <;> cases d1 <;> first | (cases hs'; done) | (cases hs'; exact ⟨rfl, fun _ _ => rfl⟩)
        case string =>
          cases d1
          case string => cases y <;> first | (cases hs'; done) | (cases hs'; exact ⟨rfl, fun _ _ => rfl⟩)
          case slice e =>
            cases y
            case str => cases hs'; exact ⟨rfl, fun _ _ => rfl⟩
            case slice p n cap ex z =>
              simp only at hs' ⊢
              split at hs'
              · rename_i hu8
                obtain ⟨rfl, hl⟩ := pureCase _ hs'
                refine ⟨rfl, fun h2 hb => ?_⟩
                have hsome : (h1.get p.b).isSome = true := by
                  cases hg : h1.get p.b with
                  | some k => rfl
                  | none =>
                    exfalso
                    unfold absToStr at hl
                    simp only [readN_eq, hg] at hl
                    cases hl
                have he := hb (by simp [cls, hu1, hu2]) x p.b (by rw [hx]; rfl) hsome
                have : absToStr (.slice p n cap ex z) h2 = absToStr (.slice p n cap ex z) h1 := by
                  unfold absToStr
                  simp only [readN_same he]
                rw [if_pos hu8, this, hl]; rfl
              · cases hs'
            case nilslice =>
              simp only at hs' ⊢
              split at hs'
              · rename_i hu8; cases hs'; exact ⟨rfl, fun _ _ => by rw [if_pos hu8]⟩
              · cases hs'
            case loose =>
              simp only at hs' ⊢
              split at hs'
              · rename_i hu8; cases hs'; exact ⟨rfl, fun _ _ => by rw [if_pos hu8]⟩
              · cases hs'
            all_goals cases hs'
          all_goals exact absurd rfl hcl
        all_goals (cases d1 <;> exact absurd rfl hcl)
  case call cl =>
    obtain ⟨ce, args, ats⟩ := cl
    cases ce with
    | value f => simp [isCall] at hcall
    | invoke r n => simp [isCall] at hcall
    | builtin b =>
      have hs' : absBuiltin P b ats.toList (args.toList.map ev) h = some (v, h1) := hs
      show h1 = h ∧ ∀ h2 : AH, _ → absBuiltin P b ats.toList (args.toList.map ev) h2 = some (v, h2)
      unfold absBuiltin at hs' ⊢
      split at hs'
      · rename_i t x hts hargs
        cases hl : absLen P t x with
        | some v' =>
          rw [hl] at hs'
          cases hs'
          exact ⟨rfl, fun h2 _ => rfl⟩
        | none =>
          rw [hl] at hs'
          obtain ⟨rfl, hml⟩ := pureCase _ hs'
          refine ⟨rfl, fun h2 hb => ?_⟩
          simp only
          have : absMapLen P t x h2 = absMapLen P t x h1 := by
            cases hx : x with
            | mapv b =>
              rw [hx] at hml
              cases hu : P.underlying t with
              | none => unfold absMapLen; rw [hu]
              | some d =>
                cases d with
                | map kt et =>
                  have hsome : (h1.get b).isSome = true := by
                    cases hg : h1.get b with
                    | some k => rfl
                    | none =>
                      exfalso
                      have hn : mapOf h1 b = none := by unfold mapOf; rw [hg]
                      unfold absMapLen at hml
                      rw [hu] at hml
                      simp only [hn] at hml
                      cases hml
                  obtain ⟨a0, ha0, hev⟩ : ∃ a0, args.toList = [a0] ∧ ev a0 = x := by
                    cases hal : args.toList with
                    | nil => rw [hal] at hargs; cases hargs
                    | cons a0 l =>
                      cases l with
                      | nil => rw [hal] at hargs; exact ⟨a0, rfl, (List.cons.inj hargs).1⟩
                      | cons _ _ => rw [hal] at hargs; simp at hargs
                  have he := mapOf_same (hb (by simp [cls, hts, hu]) a0 b (by rw [hev, hx]; rfl) hsome)
                  unfold absMapLen
                  rw [hu]
                  simp only [he]
                | _ => unfold absMapLen; rw [hu]
            | _ =>
              unfold absMapLen
              cases P.underlying t with
              | none => rfl
              | some d => cases d <;> rfl
          rw [this, hml]; rfl
      · exact outP _ hs'
      · exact absurd rfl hc
      · exact absurd rfl hc
      · exact outP _ hs'
      · exact outP _ hs'
      · exact outP _ hs'
      · exact absurd rfl hc
      · exact outP _ hs'
      · exact outP _ hs'
      · exact outP _ hs'
      · exact absurd rfl hc
      · cases hs'
  all_goals exact absurd rfl hc
end Go.Proofs.YtbchdbhojafpdaaGreatDoor.Ev
namespace Go.Proofs.YtbchdbhojafpdaaGreatDoor.Ev
open Go
structure AStep (h h' : AH) : Prop where
  next : h.next ≤ h'.next
  low : h'.low ≤ h.low
  quiet : ∀ b, b < h'.low → b < h.next → h'.get b = h.get b
  none : ∀ b, b < h.next → h.get b = none → h'.get b = none
theorem AStep.refl (h : AH) : AStep h h := ⟨Nat.le_refl _, Nat.le_refl _, fun _ _ _ => rfl, fun _ _ h => h⟩
theorem AStep.trans {a b d : AH} (x : AStep a b) (y : AStep b d) : AStep a d :=
  ⟨Nat.le_trans x.next y.next, Nat.le_trans y.low x.low, fun k hk hn => (y.quiet k hk (Nat.lt_of_lt_of_le hn x.next)).trans (x.quiet k (Nat.lt_of_lt_of_le hk y.low) hn), fun k hk hn => y.none k (Nat.lt_of_lt_of_le hk x.next) (x.none k hk hn)⟩
theorem AStep.add (h : AH) (k : Blk) : AStep h (h.add k) := ⟨Nat.le_succ _, Nat.le_refl _, fun b _ hb => by rw [AH.get_add, if_neg (by omega)], fun b hb hn => by rw [AH.get_add, if_neg (by omega)]; exact hn⟩
theorem AStep.write {h h' : AH} {a : A} {vs : List V} (hw : writeN h a vs = some h') : AStep h h' := by
  obtain ⟨k, hk, _, _, _, _, _, _, rfl⟩ := writeN_inv hw
  refine ⟨Nat.le_refl _, Nat.min_le_left _ _, fun b hb _ => ?_, fun b _ hn => by rw [AH.get_set, if_neg (by rintro rfl; rw [hk] at hn; cases hn)]; exact hn⟩
  have h0 : Nat.min h.low a.b ≤ a.b := Nat.min_le_right h.low a.b
  have hb' : b < Nat.min h.low a.b := hb
  rw [AH.get_set, if_neg (by omega)]
theorem AStep.grow (h : AH) (b : Nat) (k : Blk) (xs : List V) (hk : h.get b = some k) : AStep h (h.grow b k xs) := by
  refine ⟨Nat.le_refl _, Nat.min_le_left _ _, fun b' hb _ => ?_, fun b' _ hn => by rw [AH.get_grow, if_neg (by rintro rfl; rw [hk] at hn; cases hn)]; exact hn⟩
  have h0 : Nat.min h.low b ≤ b := Nat.min_le_right h.low b
  have hb' : b' < Nat.min h.low b := hb
  rw [AH.get_grow, if_neg (by omega)]
theorem AStep.kill (h : AH) (b : Nat) (k : Blk) (hk : h.get b = some k) : AStep h (h.kill b k) := by
  refine ⟨Nat.le_refl _, Nat.min_le_left _ _, fun b' hb _ => ?_, fun b' _ hn => by
    show (h.m.set b _).get b' = _
    rw [T.get_set, if_neg (by rintro rfl; rw [hk] at hn; cases hn)]; exact hn⟩
  have h0 : Nat.min h.low b ≤ b := Nat.min_le_right h.low b
  have hb' : b' < Nat.min h.low b := hb
  show (h.m.set b _).get b' = _
  rw [T.get_set, if_neg (by omega)]
  rfl
theorem AStep.put (h : AH) (b : Nat) (k : Blk) (hs : (h.get b).isSome = true) : AStep h (h.put b k) := by
  refine ⟨Nat.le_refl _, Nat.min_le_left _ _, fun b' hb _ => ?_, fun b' _ hn => by rw [AH.get_put, if_neg (by rintro rfl; rw [hn] at hs; cases hs)]; exact hn⟩
  have h0 : Nat.min h.low b ≤ b := Nat.min_le_right h.low b
  have hb' : b' < Nat.min h.low b := hb
  rw [AH.get_put, if_neg (by omega)]
theorem mapOf_isSome {h : AH} {b : Nat} {p : V × List V} (hm : mapOf h b = some p) : (h.get b).isSome = true := by
  unfold mapOf at hm
  split at hm
  · rename_i k hk; rw [hk]; rfl
  · cases hm
theorem absMapUpdate_astep {P : Program} {t : TypeId} {m k x : V} {h h' : AH} (hs : absMapUpdate P t m k x h = some h') : AStep h h' := by
  unfold absMapUpdate at hs
  (repeat' split at hs) <;> first | (cases hs; done) | (cases hs; exact AStep.put _ _ _ (mapOf_isSome (by assumption)))
theorem absMapEntry_astep {P : Program} {t : TypeId} {m k v : V} {h h' : AH} (hs : absMapEntry P t m k h = some (v, h')) : AStep h h' := by
  unfold absMapEntry at hs
  (repeat' split at hs) <;> first | (cases hs; done) | (cases hs; exact AStep.put _ _ _ (mapOf_isSome (by assumption)))
theorem absEntryStore_astep {m s x : V} {h h' : AH} (hs : absEntryStore m s x h = some h') : AStep h h' := by
  unfold absEntryStore at hs
  (repeat' split at hs) <;> first | (cases hs; done) | (obtain ⟨l, _, e⟩ := map_some' hs; subst e; exact AStep.put _ _ _ (mapOf_isSome (by assumption)))
theorem iterOf_isSome {h : AH} {b : Nat} {p : V × Nat × List V × Nat} (hm : iterOf h b = some p) : (h.get b).isSome = true := by
  unfold iterOf at hm
  split at hm
  · rename_i k hk; rw [hk]; rfl
  · cases hm
theorem absNextMap_astep {q : Nat} {h h' : AH} {v : V} (hs : absNextMap q h = some (v, h')) : AStep h h' := by
  unfold absNextMap at hs
  (repeat' split at hs) <;> first | (cases hs; done) | (cases hs; exact AStep.refl h) | (cases hs; exact AStep.put _ _ _ (iterOf_isSome (by assumption)))
theorem absDelete_astep {P : Program} {t : TypeId} {m k : V} {h h' : AH} {v : V} (hs : absDelete P t m k h = some (v, h')) : AStep h h' := by
  unfold absDelete at hs
  (repeat' split at hs) <;> first | (cases hs; done) | (cases hs; exact AStep.refl h) | (cases hs; exact AStep.put _ _ _ (mapOf_isSome (by assumption)))
theorem absNext_astep {x : V} {b : Bool} {h h' : AH} {v : V} (hs : absNext x b h = some (v, h')) : AStep h h' := by
  unfold absNext at hs
  (repeat' split at hs) <;> first | (exact absNextMap_astep hs) | (cases hs; done) | (cases hs; exact AStep.refl h) | (cases hs; exact AStep.put _ _ _ (by simp_all))
theorem absRange_astep {P : Program} {t : TypeId} {x : V} {h h' : AH} {v : V} (hs : absRange P t x h = some (v, h')) : AStep h h' := by
  unfold absRange at hs
  (repeat' split at hs) <;> first | (cases hs; done) | (cases hs; exact AStep.add _ _)
theorem map_self {z : Option V} {h h' : AH} {v : V} (hs : (z.map fun v => (v, h)) = some (v, h')) : h' = h := by
  cases z with
  | none => cases hs
  | some _ => cases hs; rfl
theorem sop_astep {P : Program} {o : Op} {ev : Operand → V} {h h' : AH} {v : V} (hs : sop P o ev h = some (v, h')) : AStep h h' := by
  have self : ∀ z : Option V, (z.map fun v => (v, h)) = some (v, h') → AStep h h' := fun z hz => by rw [map_self hz]; exact AStep.refl h
  unfold sop at hs
  split at hs
  · cases hs; exact AStep.refl h
  · cases hs; exact AStep.refl h
  · split at hs
    · cases hs; exact AStep.refl h
    · cases hs
  · unfold absAlloc at hs; split at hs
    · cases hs; exact AStep.add _ _
    · cases hs
  · unfold absBox at hs; split at hs
    · cases hs; exact AStep.add _ _
    · cases hs
  · exact self _ hs
  · unfold absBuildSlice at hs
    (repeat' split at hs) <;> first | (cases hs; done) | (cases hs; exact AStep.add _ _)
  · exact self _ hs
  · obtain ⟨h1, g1, g2⟩ := map_some hs
    cases g2
    unfold absStore at g1
    (repeat' split at g1) <;> first | (cases g1; done) | exact AStep.write g1
  · exact self _ hs
  · exact self _ hs
  · exact self _ hs
  · split at hs
    · cases hs; exact AStep.refl h
    split at hs
    · cases hs; exact AStep.refl h
    generalize floatT P _ = fl at hs
    cases fl with
    | true => cases hs
    | false =>
    change absConvert _ _ _ _ _ = _ at hs
    unfold absConvert at hs
    (repeat' split at hs) <;> first | (cases hs; done) | (cases hs; exact AStep.refl h) | exact self _ hs | (cases hs; exact AStep.add _ _)
  · cases hs; exact AStep.add _ _
  · split at hs
    · cases hs; exact AStep.add _ _
    · cases hs
  · exact self _ hs
  · obtain ⟨h1, g1, g2⟩ := map_some hs; cases g2; exact absMapUpdate_astep g1
  · obtain ⟨h1, g1, g2⟩ := map_some hs; cases g2; exact absMapUpdate_astep g1
  · exact absMapEntry_astep hs
  · obtain ⟨h1, g1, g2⟩ := map_some hs; cases g2; exact absEntryStore_astep g1
  · exact self _ hs
  · exact self _ hs
  · exact self _ hs
  · unfold absMakeSlice at hs
    (repeat' split at hs) <;> first | (cases hs; done) | (cases hs; exact AStep.add _ _)
  · exact self _ hs
  · exact self _ hs
  · exact self _ hs
  · exact self _ hs
  · exact self _ hs
  · exact self _ hs
  · exact self _ hs
  · unfold absBuiltin at hs
    split at hs
    · split at hs
      · cases hs; exact AStep.refl h
      · exact self _ hs
    · exact self _ hs
    · rename_i t xt s x _ _
      cases hz : intLike P xt with
      | true =>
        rw [hz] at hs
        change absAppendZ P t s x h = some (v, h') at hs
        unfold absAppendZ at hs
        (repeat' split at hs) <;> first
          | (cases hs; done)
          | (cases hs; exact AStep.refl h)
          | (cases hs; exact AStep.add _ _)
      | false =>
        rw [hz] at hs
        change absAppend P t xt s x h = some (v, h') at hs
        unfold absAppend at hs
        (repeat' split at hs) <;> first
          | (cases hs; done)
          | (cases hs; exact AStep.refl h)
          | (cases hs; exact AStep.add _ _)
          | (cases hs; exact AStep.grow _ _ _ _ (by assumption))
          | (obtain ⟨h1, g1, g2⟩ := map_some hs; cases g2; exact AStep.write g1)
    · unfold absCopy at hs
      (repeat' split at hs) <;> first
        | (cases hs; done)
        | (cases hs; exact AStep.refl h)
        | (obtain ⟨h1, g1, g2⟩ := map_some hs; cases g2; exact AStep.write g1)
    · exact self _ hs
    · exact self _ hs
    · exact self _ hs
    · unfold absUnsafeString at hs
      split at hs
      · split at hs
        · cases hs; exact AStep.refl h
        · cases hs
      · (repeat' split at hs) <;> first
          | (cases hs; done)
          | (cases hs; exact AStep.refl h)
          | (obtain ⟨h1, g1, g2⟩ := map_some hs; cases g2; exact AStep.kill _ _ _ (by assumption))
      · cases hs
    · exact self _ hs
    · exact self _ hs
    · exact self _ hs
    · exact absDelete_astep hs
    · cases hs
  · exact absRange_astep hs
  · exact absNext_astep hs
  · exact self _ hs
  · cases hs
def CAbs (c : Cfg) : Prop := (∀ f args h v h', c.C f args h = some (v, h') → AStep h h') ∧ (∀ f args h v h', c.X f args h = some (v, h') → AStep h h') ∧ HintOK c
theorem callV_astep {c : Cfg} (hA : CAbs c) {f : FuncId} {args : List V} {h h' : AH} {v : V} (hs : callV c f args h = some (v, h')) : AStep h h' := by
  unfold callV at hs
  split at hs
  · exact hA.1 _ _ _ _ _ hs
  · exact hA.2.1 _ _ _ _ _ hs
  · cases hs
theorem quietV_spec {c : Cfg} (hA : CAbs c) {f : FuncId} {args : List V} {h h' : AH} {v : V} (hs : quietV c f args h = some (v, h')) : AStep h h' ∧ ∀ b, b < h.next → h'.get b = h.get b := by
  unfold quietV at hs
  split at hs
  · cases hs
  · rename_i v1 h1 hq
    split at hs
    · rename_i hl
      cases hs
      have := callV_astep hA hq
      exact ⟨⟨this.next, Nat.le_refl _, fun b _ hb => this.quiet b (Nat.lt_of_lt_of_le hb hl) hb, fun b hb hn => this.none b hb hn⟩, fun b hb => this.quiet b (Nat.lt_of_lt_of_le hb hl) hb⟩
    · cases hs
theorem stepV_astep {c : Cfg} (hA : CAbs c) {q : Bool} {o : Op} {ev : Operand → V} {h h' : AH} {v : V} (hs : stepV c q o ev h = some (v, h')) : AStep h h' ∧ ((isCall o).isSome = true → q = true → ∀ b, b < h.next → h'.get b = h.get b) := by
  unfold stepV at hs
  split at hs
  · rename_i cl hcl
    split at hs
    · split at hs
      · obtain ⟨g1, g2⟩ := quietV_spec hA hs; exact ⟨g1, fun _ _ => g2⟩
      · rename_i hq; exact ⟨callV_astep hA hs, fun _ hq' => absurd hq' hq⟩
    · cases hs
  · rename_i hcl; exact ⟨sop_astep (conc_some hA.2.2 hs), fun hsome => by rw [hcl] at hsome; cases hsome⟩
theorem stepV_congr {c : Cfg} {q : Bool} {o : Op} {ev ev' : Operand → V} (he : ∀ x, x ∈ o.operands.toList → ev x = ev' x) (h : AH) : stepV c q o ev h = stepV c q o ev' h := by
  have hps : ∀ ps : Array (Nat × Operand), (∀ x, x ∈ (ps.toList.map (·.2)) → ev x = ev' x) → (ps.toList.map fun p => (p.1, ev p.2)) = ps.toList.map fun p => (p.1, ev' p.2) := fun ps hx =>
    List.map_congr_left fun p hp => by rw [hx p.2 (List.mem_map.2 ⟨p, hp, rfl⟩)]
  have hopt : ∀ m : Option Operand, (∀ x, m = some x → ev x = ev' x) → m.map ev = m.map ev' := fun m hx => by cases m with | none => rfl | some y => simp [hx y rfl]
  cases o
  case move x => simp only [stepV, isCall, sop, he x (by simp [Op.operands])]
  case assign x => simp only [stepV, isCall, sop, he x (by simp [Op.operands])]
  case pick a b d => simp only [stepV, isCall, sop, he a (by simp [Op.operands]), he b (by simp [Op.operands]), he d (by simp [Op.operands])]
  case alloc t => rfl
  case box t x => simp only [stepV, isCall, sop, he x (by simp [Op.operands])]
  case build t ps => simp only [stepV, isCall, sop, hps ps (fun x hx => he x (by simpa [Op.operands] using hx))]
  case buildSlice t n ps => simp only [stepV, isCall, sop, hps ps (fun x hx => he x (by simpa [Op.operands] using hx))]
  case load t x => simp only [stepV, isCall, sop, he x (by simp [Op.operands])]
  case store t x y => simp only [stepV, isCall, sop, he x (by simp [Op.operands]), he y (by simp [Op.operands])]
  case nilCheck x => simp only [stepV, isCall, sop, he x (by simp [Op.operands])]
  case binOp op t x y t2 => simp only [stepV, isCall, sop, he x (by simp [Op.operands]), he y (by simp [Op.operands])]
  case unOp op t x => simp only [stepV, isCall, sop, he x (by simp [Op.operands])]
  case convert a b x => simp only [stepV, isCall, sop, he x (by simp [Op.operands])]
  case makeMap t r =>
    cases r with
    | none => rfl
    | some r => simp only [stepV, isCall, sop, he r (by simp [Op.operands])]
  case lookup t m k ok => simp only [stepV, isCall, sop, he m (by simp [Op.operands]), he k (by simp [Op.operands])]
  case mapUpdate t m k x => simp only [stepV, isCall, sop, he m (by simp [Op.operands]), he k (by simp [Op.operands]), he x (by simp [Op.operands])]
  case insert t m k x => simp only [stepV, isCall, sop, he m (by simp [Op.operands]), he k (by simp [Op.operands]), he x (by simp [Op.operands])]
  case mapEntry t m k => simp only [stepV, isCall, sop, he m (by simp [Op.operands]), he k (by simp [Op.operands])]
  case entryStore t m s x => simp only [stepV, isCall, sop, he m (by simp [Op.operands]), he s (by simp [Op.operands]), he x (by simp [Op.operands])]
  case sliceToArrayPointer t x => simp only [stepV, isCall, sop, he x (by simp [Op.operands])]
  case makeInterface t x => simp only [stepV, isCall, sop, he x (by simp [Op.operands])]
  case makeFunc f a b =>
    have h1 : a.toList.map ev = a.toList.map ev' := List.map_congr_left fun x hx => he x (by simp only [Op.operands, Array.toList_append]; exact List.mem_append_left _ hx)
    have h2 : b.toList.map ev = b.toList.map ev' := List.map_congr_left fun x hx => he x (by simp only [Op.operands, Array.toList_append]; exact List.mem_append_right _ hx)
    simp only [stepV, isCall, sop, h1, h2]
  case makeSlice t x y => simp only [stepV, isCall, sop, he x (by simp [Op.operands]), he y (by simp [Op.operands])]
  case slice t x lo hi mx =>
    have h1 := hopt lo (fun y hy => he y (by subst hy; simp [Op.operands]))
    have h2 := hopt hi (fun y hy => he y (by subst hy; simp [Op.operands]))
    have h3 := hopt mx (fun y hy => he y (by subst hy; simp [Op.operands]))
    simp only [stepV, isCall, sop, he x (by simp [Op.operands]), h1, h2, h3]
  case fieldAddr t x f => simp only [stepV, isCall, sop, he x (by simp [Op.operands])]
  case range t x => simp only [stepV, isCall, sop, he x (by simp [Op.operands])]
  case next x b => simp only [stepV, isCall, sop, he x (by simp [Op.operands])]
  case entry x => simp only [stepV, isCall, sop, he x (by simp [Op.operands])]
  case field t x f => simp only [stepV, isCall, sop, he x (by simp [Op.operands])]
  case indexAddr t x y => simp only [stepV, isCall, sop, he x (by simp [Op.operands]), he y (by simp [Op.operands])]
  case index t x y => simp only [stepV, isCall, sop, he x (by simp [Op.operands]), he y (by simp [Op.operands])]
  case typeAssert x a b ok => simp only [stepV, isCall, sop, he x (by simp [Op.operands])]
  case extract x i => simp only [stepV, isCall, sop, he x (by simp [Op.operands])]
  case call cl =>
    obtain ⟨ce, args, ats⟩ := cl
    have h1 : args.toList.map ev = args.toList.map ev' := List.map_congr_left fun x hx => he x (by
      simp only [Op.operands, Call.operands, Array.toList_append]; exact List.mem_append_right _ hx)
    cases ce with
    | value f => simp only [stepV, isCall, callee, he f (by simp [Op.operands, Call.operands]), h1]
    | invoke r n => simp only [stepV, isCall, callee, he r (by simp [Op.operands, Call.operands]), h1]
    | builtin b => simp only [stepV, isCall, sop, h1]
  all_goals rfl
theorem sop_call {P : Program} {o : Op} {cl : Call} (h : isCall o = some cl) (ev : Operand → V) (m : AH) : sop P o ev m = none := by
  cases o
  case call c =>
    obtain ⟨ce, args, ats⟩ := c
    cases ce with
    | builtin b => cases h
    | _ => rfl
  all_goals cases h
structure DrawOK (P : Program) (ops : Array Oper) (qs : Nat → Bool) (ord : Nat → Nat → Prop) (lo : Option Nat) : Prop where
  edge : ∀ j o e, ops[j]? = some o → e ∈ o.after.toList → Region.binds .any e = true → e.on < j
  closed : ∀ i j o, ops[j]? = some o → ord i j → ∃ e, e ∈ o.after.toList ∧ Region.binds .any e = true ∧ (i = e.on ∨ ord i e.on)
  slot : ∀ i j oi oj t, ops[i]? = some oi → ops[j]? = some oj → i ≠ j → oi.dst = some t → (t ∈ oj.looksAt ops ∨ oj.dst = some t) → (i < j → ord i j) ∧ (j < i → ord j i)
  spine : ∀ i j oi oj, ops[i]? = some oi → ops[j]? = some oj → i < j → cls P oi.op = 2 → cls P oj.op = 2 → lo = some j ∨ ord i j
  read : ∀ i s oi os, ops[i]? = some oi → ops[s]? = some os → i ≠ s → cls P oi.op ≠ 2 → cls P oi.op ≠ 0 → cls P os.op = 2 → ¬ ord i s → ¬ ord s i → lo = some s ∨ ((isCall os.op).isSome = true ∧ qs s = true)
  late : ∀ j, lo = some j → ∃ o t d, ops[j]? = some o ∧ o.op = .alloc t ∧ o.guard = none ∧ o.dst = some d ∧ ∀ k ok, ops[k]? = some ok → k ≠ j → ok.dst ≠ some d ∧ (d ∈ ok.looksAt ops → j < k ∧ ∀ l ol, ops[l]? = some ol → l < j → cls P ol.op = 2 → ord l k)
def Trace (c : Cfg) (fo : FO) (N : Nat) (ops : Array Oper) (qs : Nat → Bool) (i : Nat) (fr : fo.F) (h : AH) (fr' : fo.F) (h' : AH) : Prop :=
  ∃ o, ops[i]? = some o ∧ ((wantedV fo ops o fr = some false ∧ fr' = putF fo N fr o.dst undefV ∧ h' = h) ∨
    (wantedV fo ops o fr = some true ∧ ∃ v, stepV c (qs i) o.op (evO c fo fr) h = some (v, h') ∧ fr' = putF fo N fr o.dst v))
end Go.Proofs.YtbchdbhojafpdaaGreatDoor.Ev
namespace Go.Proofs.YtbchdbhojafpdaaGreatDoor.Ev
open Go
theorem cls_call {P : Program} {o : Op} (h : (isCall o).isSome = true) : cls P o = 2 := by
  unfold isCall at h
  split at h
  · rename_i cl
    obtain ⟨ce, args, ats⟩ := cl
    cases ce with
    | value f => rfl
    | invoke r n => rfl
    | builtin b => cases h
  · cases h
theorem mem_looks {ops : Array Oper} {o : Oper} {t : Tmp} (h : Operand.tmp t ∈ o.op.operands.toList) : t ∈ o.looksAt ops := by
  unfold Oper.looksAt
  rw [List.mem_append]
  refine .inl ?_
  rw [List.mem_filterMap]
  exact ⟨_, h, rfl⟩
theorem mem_guard {ops : Array Oper} {o : Oper} {j : Nat} {b : Bool} {d : Tmp} (h : o.guard = some (j, b)) (hd : (ops[j]?).bind (·.dst) = some d) : d ∈ o.looksAt ops := by
  unfold Oper.looksAt
  rw [List.mem_append]
  refine .inr ?_
  rw [h]
  simp [hd]
section
variable {D : List Deferred} {c : Cfg} {fo : FO} {N : Nat} {ops : Array Oper} {qs : Nat → Bool} {ord : Nat → Nat → Prop} {lo : Option Nat} {frs : Nat → fo.F} {hs : Nat → AH}
theorem get_putF (fr : fo.F) (d : Option Nat) (v : V) (t : Nat) (h : d ≠ some t) : fo.get (putF fo N fr d v) t = fo.get fr t := by
  cases d with
  | none => rfl
  | some d =>
    simp only [putF]
    cases Nat.blt d N with
    | false => rfl
    | true =>
      simp only [cond_true]
      rw [fo.get_set, if_neg (fun e => h (by rw [e]))]
theorem adopt_sound {ρ : Rho} {h : AH} {w : World} (hr : HR ρ h w) (k : Blk) (C : Array Value) (lo hi cb : Nat) (hcb : cb < w.heap.size) (hheap : w.heap[cb]? = some (.cells C k.e (lo, hi))) (hfree : ∀ b L x, ρ b L ≠ some (cb, x))
    (hn : k.cells.n ≤ C.size) (hc : ∀ j v, k.cells.get j = some v → ∃ u, C[j]? = some u ∧ R ρ v u) (hf : ∀ i, k.fz ≤ i → i < C.size → ¬ (lo ≤ i ∧ i < hi)) (hlh : lo ≤ hi) (hob : k.minL ≤ k.cells.n + 1) :
    ∃ ρ', ρ.le ρ' ∧ HR ρ' (h.add k) w ∧ (∀ b L c x, ρ' b L = some (c, x) → (c = cb ∧ b = h.next) ∨ ρ b L = some (c, x)) ∧ ρ' h.next k.cells.n = some (cb, 0, C.size) := by
  have hno : ∀ L y, ρ h.next L = some y → False := fun L y hy => absurd (hr.fresh _ _ _ hy) (Nat.lt_irrefl _)
  have hle : ρ.le (ρ.put h.next k.cells.n (cb, 0, C.size)) := Rho.le_put (hno _)
  refine ⟨ρ.put h.next k.cells.n (cb, 0, C.size), hle, ⟨?_, ?_, ?_, ?_, ?_, ?_, fun b k' hk' ho => ?_⟩, ?_, Rho.put_same _ _ _ _⟩
  rotate_left 6
  · rw [AH.get_add] at hk'
    by_cases hb : b = h.next
    · rw [if_pos hb] at hk'; cases hk'; unfold Blk.IsObj at ho; omega
    · rw [if_neg hb] at hk'
      exact (hr.obj b k' hk' ho).mono hle fun cb S e => rfl
  rotate_left 1
  · intro b L x hx
    rcases Rho.put_inv hx with ⟨rfl, _⟩ | hx
    · exact Nat.lt_succ_self _
    · exact Nat.lt_succ_of_lt (hr.fresh _ _ _ hx)
  · intro b k' hk'
    rw [AH.get_add] at hk'
    by_cases hb : b = h.next
    · subst hb; exact Nat.lt_succ_self _
    · rw [if_neg hb] at hk'; exact Nat.lt_succ_of_lt (hr.lives _ _ hk')
  · intro b L cb' x hx
    rcases Rho.put_inv hx with ⟨_, _, hy⟩ | hx
    · cases hy; exact hcb
    · exact hr.bound _ _ _ _ hx
  · intro b L b' L' cb' x x' k' hx hx' hk' hro'
    rcases Rho.put_inv hx with ⟨e1, e2, hy⟩ | gx <;> rcases Rho.put_inv hx' with ⟨e1', e2', hy'⟩ | gx'
    · cases hy; cases hy'; exact ⟨e1.trans e1'.symm, rfl⟩
    · cases hy; exact absurd gx' (hfree _ _ _)
    · cases hy'; exact absurd gx (hfree _ _ _)
    · rw [AH.get_add, if_neg (by have := hr.fresh _ _ _ gx; omega)] at hk'
      exact hr.inj _ _ _ _ _ _ _ _ gx gx' hk' hro'
  · intro b k' L x hk' hx
    rw [AH.get_add] at hk'
    by_cases hb : b = h.next
    · subst hb; rw [if_pos rfl] at hk'; cases hk'
      rcases Rho.put_inv hx with ⟨_, rfl, _⟩ | hx
      · exact Nat.le_refl _
      · exact absurd hx (fun hh => hno _ _ hh)
    · rw [if_neg hb] at hk'
      rcases Rho.put_inv hx with ⟨rfl, _⟩ | hx
      · exact absurd rfl hb
      · exact hr.top _ _ _ _ hk' hx
  · intro b k' L cb' sh S hk' hx hm
    rw [AH.get_add] at hk'
    by_cases hb : b = h.next
    · subst hb; rw [if_pos rfl] at hk'; cases hk'
      rcases Rho.put_inv hx with ⟨_, rfl, hy⟩ | hx
      · cases hy
        refine ⟨C, lo, hi, hheap, rfl, by omega, ?_, fun _ => ⟨fun i hi1 hi2 => hf i (by omega) hi2, hlh, Int.le_refl _⟩⟩
        intro j v _ _ hv
        obtain ⟨u, hu, hR⟩ := hc j v hv
        exact ⟨u, by simpa using hu, hR.mono hle⟩
      · exact absurd hx (fun hh => hno _ _ hh)
    · rw [if_neg hb] at hk'
      rcases Rho.put_inv hx with ⟨rfl, _⟩ | hx
      · exact absurd rfl hb
      · exact (hr.blk _ _ _ _ _ _ hk' hx hm).mono hle rfl
  · intro b L c' x hx
    rcases Rho.put_inv hx with ⟨_, _, hy⟩ | hx
    · cases hy; exact .inl ⟨rfl, by assumption⟩
    · exact .inr hx
theorem HR.push {ρ : Rho} {h : AH} {w w' : World} (hr : HR ρ h w) {x : Obj} (hw : w'.heap = w.heap.push x) : HR ρ h w' := by
  have hold : ∀ i, i < w.heap.size → w'.heap[i]? = w.heap[i]? := fun i hi => by rw [hw, Array.getElem?_push, if_neg (by omega)]
  refine ⟨hr.fresh, hr.lives, fun b L cb y hy => by have := hr.bound _ _ _ _ hy; rw [hw, Array.size_push]; omega, hr.inj, hr.top, fun b k L cb sh S h1 h2 h3 => (hr.blk b k L cb sh S h1 h2 h3).mono (Rho.le_refl ρ) (hold _ (hr.bound _ _ _ _ h2)), fun b k h1 ho => (hr.obj b k h1 ho).mono (Rho.le_refl ρ) fun cb S e => hold _ (hr.bound _ _ _ _ e)⟩
theorem Step.push {ρ0 ρ : Rho} {h0 h : AH} {w0 w w' : World} (hs : Step ρ0 h0 w0 ρ h w) {x : Obj} (hw : w'.heap = w.heap.push x) (e1 : w'.os = w.os) (e2 : w'.tape = w.tape) (e3 : w'.output = w.output) : Step ρ0 h0 w0 ρ h w' := by
  refine ⟨hs.le, hs.cons, hs.ro, hs.next, e1.trans hs.os, e2.trans hs.tape, e3.trans hs.output, by rw [hw, Array.size_push]; have := hs.size; omega, fun i hi hn => ?_, hs.lowle, hs.quiet, hs.abs⟩
  rw [hw, Array.getElem?_push, if_neg (by have := hs.size; omega)]
  exact hs.keep i hi hn
theorem Step.adopt {ρ0 ρ ρ' : Rho} {h0 h : AH} {w0 w : World} (hr0 : HR ρ0 h0 w0) (hs : Step ρ0 h0 w0 ρ h w) (k : Blk) (hle : ρ.le ρ') (hc : ∀ b L c x, ρ' b L = some (c, x) → c < w0.heap.size → ρ b L = some (c, x)) (hn' : ∀ b L x, ρ' b L = some x → b = h.next ∨ ρ b L = some x) : Step ρ0 h0 w0 ρ' (h.add k) w := by
  refine ⟨Rho.le_trans hs.le hle, fun b L cb x hx hlt => hs.cons b L cb x (hc b L cb x hx hlt) hlt, ?_, Nat.le_trans hs.next (Nat.le_succ _), hs.os, hs.tape, hs.output, hs.size, hs.keep, hs.lowle, ?_, fun b hb hn => ⟨by have := hs.next; rw [AH.get_add, if_neg (by omega)]; exact (hs.abs b hb hn).1, fun L x hx => by
    rcases hn' b L x hx with e | e
    · have := hs.next; omega
    · exact (hs.abs b hb hn).2 L x e⟩⟩
  · intro b k' hk' hb
    have := hs.next
    rw [AH.get_add, if_neg (by omega)] at hk'
    exact hs.ro b k' hk' hb
  · intro b hb hn
    have := hs.next
    rw [AH.get_add, if_neg (by omega)]
    exact hs.quiet b hb hn
def Pd (c : Cfg) (ρ : Rho) (w0 : World) (ty : TypeId) (u : Value) (w : World) : Prop :=
  ∃ cb i z, u = .pointer (some ⟨cb, 0, none⟩) ∧ w0.heap.size ≤ cb ∧ cb < w.heap.size ∧ c.P.info? ty = some i ∧ i.zero = some z ∧ w.heap[cb]? = some (.cells z.cells ty) ∧ ∀ b L x, ρ b L ≠ some (cb, x)
theorem Pd.step {c : Cfg} {ρ ρ' : Rho} {w0 w w' : World} {ty : TypeId} {u : Value} {h h' : AH} (hp : Pd c ρ w0 ty u w) (hs : Step ρ h w ρ' h' w') : Pd c ρ' w0 ty u w' := by
  obtain ⟨cb, i, z, h1, h2, h3, h4, h5, h6, h7⟩ := hp
  refine ⟨cb, i, z, h1, h2, Nat.lt_of_lt_of_le h3 hs.size, h4, h5, ?_, fun b L x hx => ?_⟩
  · rw [hs.keep cb h3 ?_]
    · exact h6
    · rintro ⟨b, L, x, k, hx, _⟩
      exact h7 b L x hx
  · obtain ⟨L0, x0, h0⟩ := hs.cons b L cb x hx h3
    exact h7 b L0 x0 h0
def Waits (c : Cfg) (N : Nat) (ops : Array Oper) (lo : Option Nat) (w0 : World) (listed : Array Bool) (a : Act) (w : World) (ρ : Rho) (p t : Nat) : Prop :=
  ∃ j o ty, lo = some j ∧ ops[j]? = some o ∧ o.op = .alloc ty ∧ o.dst = some t ∧ p ≤ j ∧ listed.getD j false = true ∧ t < N ∧ Pd c ρ w0 ty (a.tmps.getD t undef) w
structure DInv (D : List Deferred) (c : Cfg) (fo : FO) (N : Nat) (ops : Array Oper) (ord : Nat → Nat → Prop) (lo : Option Nat) (frs : Nat → fo.F) (hs : Nat → AH) (ρ0 : Rho) (h0 : AH) (w0 : World) (listed : Array Bool) (a : Act) (w : World) (ρ : Rho) (p : Nat) : Prop where
  size : listed.size = ops.size
  down : ∀ i j, listed.getD j false = true → ord i j → listed.getD i false = true
  ple : p ≤ ops.size
  spine : ∀ i o, ops[i]? = some o → cls c.P o.op = 2 → lo ≠ some i → (listed.getD i false = true ↔ i < p)
  slate : ∀ j, lo = some j → j < p → listed.getD j false = true
  heap : HR ρ (hs p) w
  step : Step ρ0 h0 w0 ρ (hs p) w
  gok : GOK c ρ
  lives : ∀ q, q ≤ p → ∀ b k, (hs q).get b = some k → b < (hs q).next
  slots : ∀ t : Nat, ∃ d, d ≤ ops.size ∧ (∀ i o, ops[i]? = some o → o.dst = some t → (listed.getD i false = true ↔ i < d)) ∧ (R ρ (fo.get (frs d) t) (a.tmps.getD t undef) ∨ Waits c N ops lo w0 listed a w ρ p t)
  tmps : a.tmps.size = N
  defers : a.defers = D
theorem getD_set (l : Array Bool) (i j : Nat) (hi : i < l.size) : (l.setIfInBounds i true).getD j false = if j = i then true else l.getD j false := by
  simp only [Array.getD_eq_getD_getElem?, Array.getElem?_setIfInBounds]
  by_cases h : j = i
  · subst h; simp [hi]
  · rw [if_neg h, if_neg (fun e => h e.symm)]
theorem ready_iff {listed : Array Bool} (hsz : listed.size = ops.size) {i : Nat} : i ∈ Region.ready .any ops listed ↔ i < ops.size ∧ listed.getD i false = false ∧ ∀ o, ops[i]? = some o → ∀ e, e ∈ o.after.toList → Region.binds .any e = true → listed.getD e.on false = true := by
  unfold Region.ready
  rw [List.mem_filter, List.mem_range]
  constructor
  · rintro ⟨h1, h2⟩
    simp only [Bool.and_eq_true, Bool.not_eq_true'] at h2
    refine ⟨h1, ?_, ?_⟩
    · have h3 := h2.1
      rw [Array.getD_eq_getD_getElem?, Array.getElem?_eq_getElem (by omega), Option.getD_some] at h3
      rw [Array.getD_eq_getD_getElem?, Array.getElem?_eq_getElem (by omega), Option.getD_some]
      exact h3
    · intro o ho e he hb
      have h3 := h2.2
      rw [ho] at h3
      simp only [Option.map_some, Option.getD_some] at h3
      rw [← Array.all_toList, List.all_eq_true] at h3
      have := h3 e he
      simpa [hb] using this
  · rintro ⟨h1, h2, h3⟩
    refine ⟨h1, ?_⟩
    simp only [Bool.and_eq_true, Bool.not_eq_true']
    constructor
    · rw [Array.getD_eq_getD_getElem?, Array.getElem?_eq_getElem (by omega), Option.getD_some] at h2
      rw [Array.getD_eq_getD_getElem?, Array.getElem?_eq_getElem (by omega), Option.getD_some]
      exact h2
    · rw [Array.getElem?_eq_getElem h1]
      simp only [Option.map_some, Option.getD_some]
      rw [← Array.all_toList, List.all_eq_true]
      intro e he
      cases hb : Region.binds .any e with
      | false => rfl
      | true => simpa using h3 ops[i] (Array.getElem?_eq_getElem h1) e he hb
theorem Waits.later {w0 w : World} {listed : Array Bool} {a : Act} {ρ : Rho} {p q t : Nat} (hw : Waits c N ops lo w0 listed a w ρ p t) (hq : ∀ j, lo = some j → p ≤ j → q ≤ j) : Waits c N ops lo w0 listed a w ρ q t := by
  obtain ⟨j, o, ty, h1, h2, h3, h4, h5, h6⟩ := hw
  exact ⟨j, o, ty, h1, h2, h3, h4, hq j h1 h5, h6⟩
end
end Go.Proofs.YtbchdbhojafpdaaGreatDoor.Ev
namespace Go.Proofs.YtbchdbhojafpdaaGreatDoor.Ev
open Go
def ordB (B : Array Nat) (i j : Nat) : Bool := (B.getD j 0).testBit i
def maskOf (B : Array Nat) (o : Oper) : Nat := o.after.toList.foldl (fun s e => if Region.binds .any e then s ||| 2 ^ e.on ||| B.getD e.on 0 else s) 0
def names (ops : Array Oper) (o : Oper) (t : Tmp) : Bool := (o.looksAt ops).contains t || o.dst == some t
def needsQuiet (P : Program) (ops : Array Oper) (B : Array Nat) (s : Nat) : Bool :=
  (List.range ops.size).any fun i => match ops[i]? with
    | some o => (cls P o.op == 1) && !(ordB B i s) && !(ordB B s i) && i != s
    | none => false
def isLate (P : Program) (ops : Array Oper) (B : Array Nat) (j : Nat) : Bool :=
  match ops[j]? with
  | some ⟨some d, .alloc _, _, _, _, none⟩ =>
    (List.range ops.size).any (fun l => match ops[l]? with
      | some ol => Nat.blt l j && cls P ol.op == 2 && !ordB B l j
      | none => false) &&
    (List.range ops.size).all fun k => match ops[k]? with
      | some ok => k == j || (!(ok.dst == some d) && (!(ok.looksAt ops).contains d || (Nat.blt j k && (List.range ops.size).all fun l => match ops[l]? with
        | some ol => !(Nat.blt l j && cls P ol.op == 2) || ordB B l k
        | none => true)))
      | none => true
  | _ => false
def lateOf (P : Program) (ops : Array Oper) (B : Array Nat) : Option Nat := (List.range ops.size).find? (isLate P ops B)
def isLo (P : Program) (ops : Array Oper) (B : Array Nat) (j : Nat) : Bool := match lateOf P ops B with
  | some k => Nat.beq k j
  | none => false
def drawB (P : Program) (ops : Array Oper) (B : Array Nat) : Bool :=
  (List.range ops.size).all fun j => match ops[j]? with
    | none => false
    | some oj =>
      (oj.after.toList.all fun e => !Region.binds .any e || Nat.blt e.on j) && (B.getD j 0 == maskOf B oj) &&
      (List.range ops.size).all fun i => match ops[i]? with
        | none => false
        | some oi =>
          (i == j) ||
          ((match oi.dst with
            | none => true
            | some t => !names ops oj t || (if Nat.blt i j then ordB B i j else ordB B j i)) &&
           (!(cls P oi.op == 2 && cls P oj.op == 2 && Nat.blt i j) || ordB B i j || isLo P ops B j) &&
           (!(cls P oi.op == 1 && cls P oj.op == 2) || ordB B i j || ordB B j i || (isCall oj.op).isSome || isLo P ops B j))
theorem names_iff {ops : Array Oper} {o : Oper} {t : Tmp} (h : t ∈ o.looksAt ops ∨ o.dst = some t) : names ops o t = true := by
  unfold names
  rcases h with hl | hl
  · simp only [Bool.or_eq_true]; exact .inl (by simpa using hl)
  · simp only [Bool.or_eq_true]; exact .inr (by rw [hl]; simp)
theorem mask_bit (B : Array Nat) (i : Nat) : ∀ (l : List Edge) (s : Nat), (l.foldl (fun s e => if Region.binds .any e then s ||| 2 ^ e.on ||| B.getD e.on 0 else s) s).testBit i = true → s.testBit i = true ∨ ∃ e, e ∈ l ∧ Region.binds .any e = true ∧ (i = e.on ∨ (B.getD e.on 0).testBit i = true) := by
  intro l
  induction l with
  | nil => intro s h; exact .inl h
  | cons e l ih =>
    intro s h
    rw [List.foldl_cons] at h
    rcases ih _ h with h1 | ⟨e', h1, h2, h3⟩
    · by_cases hb : Region.binds .any e = true
      · rw [if_pos hb] at h1
        simp only [Nat.testBit_or, Bool.or_eq_true] at h1
        rcases h1 with (h1 | h1) | h1
        · exact .inl h1
        · refine .inr ⟨e, by simp, hb, .inl ?_⟩
          rw [Nat.testBit_two_pow] at h1
          simpa using (of_decide_eq_true h1).symm
        · exact .inr ⟨e, by simp, hb, .inr h1⟩
      · rw [if_neg hb] at h1; exact .inl h1
    · exact .inr ⟨e', by simp [h1], h2, h3⟩
theorem cls_le (P : Program) (o : Op) : cls P o = 0 ∨ cls P o = 1 ∨ cls P o = 2 := by
  unfold cls
  (repeat' split) <;> first
    | (simp; done)
    | (generalize floatT P _ = fl
       cases fl
       · simp only [cond_false]; (repeat' split) <;> simp
       · simp)
structure Kont (fo : FO) where
  norm : fo.F → AH → Res
  exit : Nat → fo.F → AH → Res
  ret : fo.F → AH → Res
noncomputable def loopN (F : Type) (fuel : Nat) (body : F → AH → (F → AH → Res) → Res) : F → AH → Res := Nat.rec (fun _ _ => none) (fun _ ih fr h => body fr h ih) fuel
def preKey : Code → Nat
  | .region id _ _ => 2 * id + 1
  | .seq a _ => preKey a
  | .block _ b => preKey b
  | .loop b => preKey b
  | _ => 0
def isRegion : Code → Bool
  | .region .. => true
  | _ => false
section
variable (c : Cfg) (fo : FO) (N fuel : Nat)
noncomputable def exec : Code → fo.F → AH → Kont fo → Res
  | .skip, fr, h, k => k.norm fr h
  | .label _, fr, h, k => k.norm fr h
  | .region id ops draw, fr, h, k =>
    if draw then
      if drawB c.P ops (Region.before ops) then runOps c fo N ops (needsQuiet c.P ops (Region.before ops)) (List.range' 0 ops.size) fr h (fun fr h => fo.keepK (2 * id + 2) fr fun fr => k.norm fr h) else none
    else runOps c fo N ops (fun _ => false) (List.range ops.size) fr h (fun fr h => fo.keepK (2 * id + 2) fr fun fr => k.norm fr h)
  | .seq a b, fr, h, k => exec a fr h { k with norm := if isRegion a then fun fr h => exec b fr h k else fun fr h => fo.keepK (preKey b) fr fun fr => exec b fr h k }
  | .cond x a b, fr, h, k =>
    match evO c fo fr x with
    | .bool true => exec a fr h k
    | .bool false => exec b fr h k
    | _ => none
  | .block id b, fr, h, k => exec b fr h { k with exit := fun id' fr h => if id' = id then k.norm fr h else k.exit id' fr h }
  | .loop b, fr, h, k => loopN fo.F fuel (fun fr h n => fo.keepK (preKey b) fr fun fr => exec b fr h { k with norm := n }) fr h
  | .exit id, fr, h, k => k.exit id fr h
  | .ret, fr, h, k => k.ret fr h
  | _, _, _, _ => none
noncomputable def resOne (fr : fo.F) (h : AH) (r : ResultVar) : Option V :=
  match r with
  | .tmp t => some (fo.get fr t)
  | .cell a t => absLoad c.P t (fo.get fr a) h
noncomputable def resList (fr : fo.F) (h : AH) : List ResultVar → Option (List V)
  | [] => some []
  | r :: l => match resOne c fo fr h r with
    | none => none
    | some v => match resList fr h l with
      | none => none
      | some vs => some (v :: vs)
def pack : List V → V
  | [v] => v
  | vs => .tuple vs
noncomputable def fin (fn : Func) (fr : fo.F) (h : AH) : Res := (resList c fo fr h fn.results.toList).map fun vs => (pack vs, h)
noncomputable def execFn (f : FuncId) (args : List V) (h : AH) : Res :=
  match c.P.funcs[f]? with
  | none => none
  | some fn =>
    match fn.body with
    | none => none
    | some code => if args.length ≤ fn.ntmps then exec c fo fn.ntmps fuel code (fo.ini args) h ⟨fin c fo fn, fun _ _ _ => none, fin c fo fn⟩ else none
end
def KPost (c : Cfg) (fo : FO) (N : Nat) (ρ0 : Rho) (h0 : AH) (w0 : World) (r : V × AH) (k : Kont fo) (Q : Exit → Act → World → Prop) : Prop :=
  Post [] c fo N ρ0 h0 w0 r k.norm (Q .normal) ∧ (∀ id, Post [] c fo N ρ0 h0 w0 r (k.exit id) (Q (.exit id))) ∧ Post [] c fo N ρ0 h0 w0 r k.ret (Q .ret)
theorem KPost.step {c : Cfg} {fo : FO} {N : Nat} {ρ0 ρ1 : Rho} {h0 h1 : AH} {w0 w1 : World} {r : V × AH} {k : Kont fo} {Q : Exit → Act → World → Prop} (hr : HR ρ0 h0 w0) (hs : Step ρ0 h0 w0 ρ1 h1 w1) (hp : KPost c fo N ρ0 h0 w0 r k Q) : KPost c fo N ρ1 h1 w1 r k Q :=
  ⟨hp.1.step hr hs, fun id => (hp.2.1 id).step hr hs, hp.2.2.step hr hs⟩
theorem Post.keep {c : Cfg} {fo : FO} {N : Nat} {ρ : Rho} {h : AH} {w : World} {r : V × AH} {k : fo.F → AH → Res} {Q : Act → World → Prop} (hp : Post [] c fo N ρ h w r k Q) (key : Nat) : Post [] c fo N ρ h w r (fun fr h => fo.keepK key fr fun fr => k fr h) Q := by
  intro fr h1 a w1 ρ1 hk hf hN hd hg hr hs
  rcases fo.keepK_spec key fr (fun fr => k fr h1) with e | ⟨f', e1, e2⟩
  · simp only [e] at hk; cases hk
  · simp only [e1] at hk
    refine hp f' h1 a w1 ρ1 hk (fun t => ?_) hN hd hg hr hs
    rcases e2 t with e | e
    · rw [e]; exact hf t
    · rw [e]; trivial
theorem resOne_sound {c : Cfg} {fo : FO} {ρ : Rho} {fr : fo.F} {h : AH} {w : World} {tmps : Array Value} {r : ResultVar} {v : V} (hf : FR fo ρ fr tmps) (hr : HR ρ h w) (hs : resOne c fo fr h r = some v) :
    ∃ u, ((match r with | .tmp t => pure (tmps.getD t undef) | .cell a t => do loadVar t (← asAddr (tmps.getD a undef))) : Sem Value).run c.P w = .ok u w ∧ R ρ v u := by
  cases r with
  | tmp t => cases hs; exact ⟨_, rfl, hf t⟩
  | cell a t =>
    have hs' : absLoad c.P t (fo.get fr a) h = some v := hs
    have hR := hf a
    obtain ⟨u, h1, h2⟩ := load_sound (P := c.P) hr hR hs'
    refine ⟨u, ?_, h2⟩
    rw [← h1]
    unfold absLoad at hs'
    split at hs'
    · rename_i p hp
      rw [hp] at hR
      obtain ⟨cc, hcc, _⟩ := hR
      simp only [hcc, asAddr, Sem.run_bind, Sem.run_pure, Result.andThen_ok, Instr.loadAt, Instr.sureAddr]
    · cases hs'
theorem resList_sound {c : Cfg} {fo : FO} {ρ : Rho} {fr : fo.F} {h : AH} {w : World} {tmps : Array Value} (hf : FR fo ρ fr tmps) (hr : HR ρ h w) : ∀ {l : List ResultVar} {vs : List V}, resList c fo fr h l = some vs →
    ∃ us : List Value, (l.mapM (fun | .tmp t => pure (tmps.getD t undef) | .cell a t => do loadVar t (← asAddr (tmps.getD a undef)) : ResultVar → Sem Value)).run c.P w = .ok us w ∧ RL ρ vs us := by
  intro l
  induction l with
  | nil => intro vs hs; cases hs; exact ⟨[], rfl, rfl⟩
  | cons r l ih =>
    intro vs hs
    unfold resList at hs
    cases h1 : resOne c fo fr h r with
    | none => rw [h1] at hs; cases hs
    | some v =>
      cases h2 : resList c fo fr h l with
      | none => rw [h1, h2] at hs; cases hs
      | some vs' =>
        rw [h1, h2] at hs
        cases hs
        obtain ⟨u, g1, g2⟩ := resOne_sound (w := w) hf hr h1
        obtain ⟨us, g3, g4⟩ := ih h2
        refine ⟨u :: us, ?_, ⟨u, us, rfl, g2, g4⟩⟩
        rw [List.mapM_cons]
        simp only [Sem.run_bind]
        rw [g1]
        simp only [Result.andThen_ok]
        rw [g3]
        simp only [Result.andThen_ok, Sem.run_pure]
theorem fin_sound {c : Cfg} {fo : FO} {ρ : Rho} {fn : Func} {fr : fo.F} {h h' : AH} {w : World} {tmps : Array Value} {v : V} (hf : FR fo ρ fr tmps) (hr : HR ρ h w) (hs : fin c fo fn fr h = some (v, h')) : h' = h ∧ ∃ u, (results fn tmps).run c.P w = .ok u w ∧ R ρ v u := by
  unfold fin at hs
  obtain ⟨vs, h1, h2⟩ := map_some hs
  cases h2
  obtain ⟨us, g1, g2⟩ := resList_sound (w := w) hf hr h1
  refine ⟨rfl, ?_⟩
  have hrun : (results fn tmps).run c.P w = .ok (if hh : us.toArray.size = 1 then us.toArray[0] else .tuple us.toArray) w := by
    unfold results
    rw [Array.mapM_eq_mapM_toList]
    simp only [Sem.run_bind, Sem.run_map, Sem.run_pure]
    erw [g1]
    simp only [Result.andThen_ok]
  refine ⟨_, hrun, ?_⟩
  have hl := g2.length
  cases vs with
  | nil => rw [show us = [] from g2]; exact ⟨_, rfl, rfl⟩
  | cons v vs =>
    obtain ⟨u, us, rfl, q1, q2⟩ := g2
    cases vs with
    | nil => rw [show us = [] from q2]; exact q1
    | cons v2 vs =>
      obtain ⟨u2, us, rfl, q3, q4⟩ := q2
      rw [dif_neg (by simp)]
      exact ⟨_, rfl, u, _, rfl, q1, u2, us, rfl, q3, q4⟩
end Go.Proofs.YtbchdbhojafpdaaGreatDoor.Ev
namespace Go.Proofs.YtbchdbhojafpdaaGreatDoor.Ev
open Go
noncomputable def AH.at (h : AH) (b : Nat) (k : Blk) : AH := ⟨h.next, Nat.min h.low b, h.m.set b k⟩
theorem AH.get_at (h : AH) (b b' : Nat) (k : Blk) : (h.at b k).get b' = if b' = b then some k else h.get b' := T.get_set _ _ _ _
def NewOK (P : Program) (ρ : Rho) (s : Sem Value) (b : Nat) (k : Blk) (v : V) : Prop :=
  ∃ (u : Nat → Value) (o : Obj) (n S : Nat), (∀ w, s.run P w = .ok (u w.heap.size) { w with heap := w.heap.push o }) ∧ n ≤ k.cells.n ∧
    (∀ ρ' cb (w' : World), ρ.le ρ' → ρ' b n = some (cb, 0, S) → w'.heap[cb]? = some o → (k.minL ≤ n → BlkOK ρ' k n cb 0 S w') ∧ (k.IsObj → ObjFit ρ' b k w')) ∧ (∀ ρ' cb, ρ' b n = some (cb, 0, S) → R ρ' v (u cb))
theorem NewOK.cells {P : Program} {ρ : Rho} {s : Sem Value} {b : Nat} {k : Blk} {v : V} (u : Nat → Value) (C : Array Value) (hrun : ∀ w, s.run P w = .ok (u w.heap.size) { w with heap := w.heap.push (.cells C k.e) }) (hn : k.cells.n ≤ C.size)
    (hc : ∀ j x, k.cells.get j = some x → ∃ y, C[j]? = some y ∧ R ρ x y) (hob : k.minL ≤ k.cells.n + 1) (hval : ∀ ρ' cb, ρ' b k.cells.n = some (cb, 0, C.size) → R ρ' v (u cb)) : NewOK P ρ s b k v := by
  refine ⟨u, _, k.cells.n, C.size, hrun, Nat.le_refl _, ?_, hval⟩
  intro ρ' cb w' hle hρ hh
  refine ⟨fun _ => ⟨C, 0, 0, hh, rfl, by omega, ?_, fun _ => ⟨fun i _ _ => by omega, Nat.le_refl 0, Int.le_refl _⟩⟩, fun ho => by unfold Blk.IsObj at ho; omega⟩
  intro j x _ _ hx
  obtain ⟨y, h1, h2⟩ := hc j x hx
  exact ⟨y, by simpa using h1, h2.mono hle⟩
theorem at_sound {P : Program} {ρ0 ρ : Rho} {h0 h : AH} {w0 w : World} (hst : Step ρ0 h0 w0 ρ h w) (hr : HR ρ h w) {s : Sem Value} {b : Nat} {k : Blk} {v : V} (hb : b < h.next) (hb0 : h0.next ≤ b) (habs : h.get b = none) (hno : ∀ L, ρ b L = none) (hN : NewOK P ρ s b k v) :
    ∃ u ρ' w', s.run P w = .ok u w' ∧ R ρ' v u ∧ HR ρ' (h.at b k) w' ∧ Step ρ0 h0 w0 ρ' (h.at b k) w' ∧ ρ.le ρ' ∧ ∀ b' L x, ρ' b' L = some x → b' = b ∨ ρ b' L = some x := by
  obtain ⟨u, o, n, S, hrun, hn, hblk, hval⟩ := hN
  have hle : ρ.le (ρ.put b n (w.heap.size, 0, S)) := Rho.le_put fun y hy => by rw [hno] at hy; cases hy
  have hold : ∀ i, i < w.heap.size → (w.heap.push o)[i]? = w.heap[i]? := fun i hi => by rw [Array.getElem?_push, if_neg (by omega)]
  have hput := Rho.put_same ρ b n (w.heap.size, 0, S)
  have hb2 := hblk (ρ.put b n (w.heap.size, 0, S)) w.heap.size { w with heap := w.heap.push o } hle hput (by simp)
  have hinv : ∀ b' L x, (ρ.put b n (w.heap.size, 0, S)) b' L = some x → (b' = b ∧ L = n ∧ x = (w.heap.size, 0, S)) ∨ (b' ≠ b ∧ ρ b' L = some x) := by
    intro b' L x hx
    rcases Rho.put_inv hx with ⟨h1, h2, h3⟩ | hx'
    · exact .inl ⟨h1, h2, h3⟩
    · exact .inr ⟨fun e => (by rw [e, hno] at hx'; cases hx'), hx'⟩
  refine ⟨_, ρ.put b n (w.heap.size, 0, S), _, hrun w, hval _ _ hput, ⟨?_, ?_, ?_, ?_, ?_, ?_, ?_⟩, ⟨Rho.le_trans hst.le hle, ?_, ?_, hst.next, hst.os, hst.tape, hst.output, by have := hst.size; simp only [Array.size_push]; omega, fun i hi hn => (hold i (Nat.lt_of_lt_of_le hi hst.size)).trans (hst.keep i hi hn), Nat.le_trans (Nat.min_le_left _ _) hst.lowle, ?_, ?_⟩, hle, ?_⟩
  · intro b' L x hx
    rcases hinv b' L x hx with ⟨rfl, _⟩ | ⟨_, hx⟩
    · exact hb
    · exact hr.fresh _ _ _ hx
  · intro b' k' hk'
    rw [AH.get_at] at hk'
    split at hk'
    · subst_vars; exact hb
    · exact hr.lives _ _ hk'
  · intro b' L cb x hx
    simp only [Array.size_push]
    rcases hinv b' L _ hx with ⟨_, _, e⟩ | ⟨_, hx⟩
    · cases e; omega
    · have := hr.bound _ _ _ _ hx; omega
  · intro b1 L1 b2 L2 cb x x' k' h1 h2 hk' hro'
    rcases hinv _ _ _ h1 with ⟨e1, e2, e3⟩ | ⟨n1, g1⟩ <;> rcases hinv _ _ _ h2 with ⟨e1', e2', e3'⟩ | ⟨n2, g2⟩
    · cases e3; cases e3'; exact ⟨e1.trans e1'.symm, rfl⟩
    · cases e3; have := hr.bound _ _ _ _ g2; omega
    · cases e3'; have := hr.bound _ _ _ _ g1; omega
    · rw [AH.get_at, if_neg n1] at hk'
      exact hr.inj _ _ _ _ _ _ _ _ g1 g2 hk' hro'
  · intro b' k' L x hk' hx
    rw [AH.get_at] at hk'
    rcases hinv _ _ _ hx with ⟨rfl, rfl, _⟩ | ⟨n1, g1⟩
    · rw [if_pos rfl] at hk'; cases hk'; exact hn
    · rw [if_neg n1] at hk'; exact hr.top _ _ _ _ hk' g1
  · intro b' k' L cb sh S' hk' hx hm
    rw [AH.get_at] at hk'
    rcases hinv _ _ _ hx with ⟨rfl, rfl, e⟩ | ⟨n1, g1⟩
    · rw [if_pos rfl] at hk'; cases hk'; cases e; exact hb2.1 hm
    · rw [if_neg n1] at hk'; exact (hr.blk _ _ _ _ _ _ hk' g1 hm).mono hle (hold _ (hr.bound _ _ _ _ g1))
  · intro b' k' hk' ho
    rw [AH.get_at] at hk'
    split at hk'
    · subst_vars; cases hk'; exact hb2.2 ho
    · exact (hr.obj b' k' hk' ho).mono hle fun cb S e => hold _ (hr.bound _ _ _ _ e)
  · intro b' L cb x hx hlt
    rcases hinv _ _ _ hx with ⟨_, _, e⟩ | ⟨_, g1⟩
    · cases e; have := hst.size; omega
    · exact hst.cons b' L cb x g1 hlt
  · intro b' k' hk' hlt
    rw [AH.get_at, if_neg (by omega)] at hk'
    exact hst.ro b' k' hk' hlt
  · intro b' hb' hlt
    rw [AH.get_at, if_neg (by omega)]
    exact hst.quiet b' (Nat.lt_of_lt_of_le hb' (Nat.min_le_left _ _)) hlt
  · intro b' hlt hn'
    obtain ⟨g1, g2⟩ := hst.abs b' hlt hn'
    refine ⟨by rw [AH.get_at, if_neg (by omega)]; exact g1, fun L x hx => ?_⟩
    rcases hinv _ _ _ hx with ⟨e, _⟩ | ⟨_, g3⟩
    · omega
    · exact g2 L x g3
  · intro b' L x hx
    rcases hinv _ _ _ hx with ⟨e, _⟩ | ⟨_, g1⟩
    · exact .inl e
    · exact .inr g1
theorem HR.forget {ρ : Rho} {h h2 : AH} {w : World} (hr : HR ρ h w) (hn : h.next = h2.next) (hg : ∀ b k, h2.get b = some k → h.get b = some k) : HR ρ h2 w :=
  ⟨fun b L x hx => hn ▸ hr.fresh b L x hx, fun b k hk => hn ▸ hr.lives b k (hg b k hk), hr.bound, fun b L b' L' cb x x' k h1 h2 hk hro => hr.inj b L b' L' cb x x' k h1 h2 (hg b k hk) hro, fun b k L x hk hx => hr.top b k L x (hg b k hk) hx, fun b k L cb sh S hk hx hm => hr.blk b k L cb sh S (hg b k hk) hx hm, fun b k hk ho => hr.obj b k (hg b k hk) ho⟩
theorem HR.restore {ρ ρ' : Rho} {h h2 h2' h' : AH} {w w' : World} (hr : HR ρ h w) (hg : ∀ b k, h2.get b = some k → h.get b = some k) (hs : Step ρ h2 w ρ' h2' w') (hr' : HR ρ' h2' w') (hn2 : h2.next = h.next) (hn' : h'.next = h2'.next) (hget : ∀ b k, h'.get b = some k → h2'.get b = some k ∨ (h2.get b = none ∧ h.get b = some k ∧ k.ro = false)) : HR ρ' h' w' := by
  have hold : ∀ b k, h2.get b = none → h.get b = some k → b < h2.next ∧ (∀ L x, ρ' b L = some x → ρ b L = some x) := fun b k hb hk => by
    have hlt : b < h2.next := hn2 ▸ hr.lives b k hk
    exact ⟨hlt, (hs.abs b hlt hb).2⟩
  have hheap : ∀ b k L cb x, h2.get b = none → h.get b = some k → k.ro = false → ρ b L = some (cb, x) → w'.heap[cb]? = w.heap[cb]? := by
    intro b k L cb x hb hk hro hx
    refine hs.keep cb (hr.bound _ _ _ _ hx) ?_
    rintro ⟨b2, L2, x2, k2, h3, h4, h5⟩
    obtain ⟨e, _⟩ := hr.inj _ _ _ _ _ _ _ _ h3 hx (hg _ _ h4) h5
    rw [e, hb] at h4
    cases h4
  refine ⟨fun b L x hx => hn' ▸ hr'.fresh b L x hx, ?_, hr'.bound, ?_, ?_, ?_, ?_⟩
  · intro b k hk
    rcases hget b k hk with h1 | ⟨h1, h2, _⟩
    · exact hn' ▸ hr'.lives b k h1
    · rw [hn']; exact Nat.lt_of_lt_of_le (hold b k h1 h2).1 hs.next
  · intro b L b' L' cb x x' k h1 h2 hk hro
    rcases hget b k hk with h3 | ⟨h3, h4, _⟩
    · exact hr'.inj b L b' L' cb x x' k h1 h2 h3 hro
    · have g1 := (hold b k h3 h4).2 L _ h1
      obtain ⟨L0, x0, g2⟩ := hs.cons b' L' cb x' h2 (hr.bound _ _ _ _ g1)
      obtain ⟨rfl, _⟩ := hr.inj _ _ _ _ _ _ _ _ g1 g2 h4 hro
      exact hr.inj _ _ _ _ _ _ _ _ g1 ((hold b k h3 h4).2 L' _ h2) h4 hro
  · intro b k L x hk hx
    rcases hget b k hk with h3 | ⟨h3, h4, _⟩
    · exact hr'.top b k L x h3 hx
    · exact hr.top b k L x h4 ((hold b k h3 h4).2 L x hx)
  · intro b k L cb sh S hk hx hm
    rcases hget b k hk with h3 | ⟨h3, h4, h5⟩
    · exact hr'.blk b k L cb sh S h3 hx hm
    · have g1 := (hold b k h3 h4).2 L _ hx
      exact (hr.blk b k L cb sh S h4 g1 hm).mono hs.le (hheap b k L cb _ h3 h4 h5 g1)
  · intro b k hk ho
    rcases hget b k hk with h3 | ⟨h3, h4, h5⟩
    · exact hr'.obj b k h3 ho
    · exact (hr.obj b k h4 ho).mono hs.le fun cb S e => hheap b k 0 cb _ h3 h4 h5 e
theorem Step.other {ρ0 ρ : Rho} {h0 h h2 : AH} {w0 w : World} (hs : Step ρ0 h0 w0 ρ h w) (hg : ∀ b, b < h0.next → h2.get b = h.get b) (hn : h.next ≤ h2.next) (hl : h2.low ≤ h.low) : Step ρ0 h0 w0 ρ h2 w :=
  ⟨hs.le, hs.cons, fun b k' hk hb => hs.ro b k' (by rw [← hg b hb]; exact hk) hb, Nat.le_trans hs.next hn, hs.os, hs.tape, hs.output, hs.size, hs.keep, Nat.le_trans hl hs.lowle, fun b hb hn' => (hg b hn').trans (hs.quiet b (Nat.lt_of_lt_of_le hb hl) hn'), fun b hb hn' => ⟨by rw [hg b hb]; exact (hs.abs b hb hn').1, (hs.abs b hb hn').2⟩⟩
theorem putF_lt {N : Nat} (fr : Nat → V) {d : Nat} (v : V) (hd : Nat.blt d N = true) : (putF foFun N fr (some d) v : Nat → V) = fun t => if t = d then v else fr t := by
  funext t
  show (bif Nat.blt d N then foFun.set fr d v else fr : Nat → V) t = _
  rw [hd]
  exact foFun.get_set fr d t v
theorem putF_ge {N : Nat} (fr : Nat → V) {d : Nat} (v : V) (hd : Nat.blt d N = false) : (putF foFun N fr (some d) v : Nat → V) = fr := by
  show (bif Nat.blt d N then foFun.set fr d v else fr : Nat → V) = _
  rw [hd]; rfl
def isNew : Op → Bool
  | .alloc _ | .box .. | .buildSlice .. | .makeSlice .. | .makeMap .. => true
  | _ => false
theorem isNew_cls {P : Program} {o : Op} (h : isNew o = true) : cls P o = 2 ∧ isCall o = none := by
  cases o <;> first | (cases h; done) | exact ⟨rfl, rfl⟩
set_option maxHeartbeats 1000000 in
theorem new_spec {P : Program} {ρ : Rho} {o : Oper} {ev : Operand → V} {ρc : Operand → Value} {h h' : AH} {v : V} (hnew : isNew o.op = true) (he : ∀ x, R ρ (ev x) (ρc x)) (hs : sop P o.op ev h = some (v, h')) :
    ∃ k s, h' = h.add k ∧ k.ro = false ∧ (∀ w, (execOp ρc o).run P w = (do pure (.value (← s)) : Sem Next).run P w) ∧ NewOK P ρ s h.next k v := by
  obtain ⟨dst, op, ty, pos, after, guard⟩ := o
  simp only at hs hnew
  cases op <;> simp only [isNew, Bool.false_eq_true] at hnew
  case alloc t =>
    change absAlloc P t h = some (v, h') at hs
    unfold absAlloc at hs
    split at hs
    · rename_i zs hz
      cases hs
      obtain ⟨i, z, hi, hz', hR, hl, hc, _, hrun⟩ := zeroOf_spec hz ρ
      have hlen : zs.length = z.cells.size := by simpa using hR.length
      refine ⟨_, Instr.alloc t true (.tuple #[]), rfl, rfl, fun w => rfl, NewOK.cells (fun cb => .pointer (some ⟨cb, 0, none⟩)) z.cells (fun w => by simp [Instr.alloc, hrun, newVar, run_newRow]) (by simp [hlen]) (fun j x hx => ?_) (Nat.zero_le _) (fun ρ' cb hρ => ⟨_, rfl, cb, 0, z.cells.size, by rw [Arr.make_n] at hρ; exact hρ, Int.le_refl _, rfl⟩)⟩
      simp only [Arr.get_make] at hx
      split at hx
      · rename_i hj
        rw [Nat.mod_eq_of_lt hj] at hx
        obtain ⟨u, hu, hRu⟩ := hR.get hx
        rw [Array.getElem?_toList] at hu
        exact ⟨u, hu, hRu⟩
      · cases hx
    · cases hs
  case box t x =>
    change absBox t (ev x) h = some (v, h') at hs
    unfold absBox at hs
    split at hs
    · rename_i hc
      cases hs
      have hb : (ev x).isBad = false := by
        cases hx : ev x <;> rw [hx] at hc <;> first | rfl | (simp [V.cells, V.cell] at hc)
      have hR := R_cells_list (he x) hb
      have hl := hR.length
      refine ⟨_, Instr.box t (ρc x), rfl, rfl, fun w => rfl, NewOK.cells (fun cb => .pointer (some ⟨cb, 0, none⟩)) (ρc x).cells (fun w => by simp [Instr.box, newVar, run_newRow]) (by simpa using Nat.le_of_eq hl) (fun j y hy => ?_) (Nat.zero_le _) (fun ρ' cb hρ => ⟨_, rfl, cb, 0, (ρc x).cells.size, by rw [Arr.ofList_n] at hρ; exact hρ, Int.le_refl _, rfl⟩)⟩
      simp only [Arr.get_ofList] at hy
      obtain ⟨u, hu, hRu⟩ := hR.get hy
      rw [Array.getElem?_toList] at hu
      exact ⟨u, hu, hRu⟩
    · cases hs
  case buildSlice t len parts =>
    obtain ⟨hi, hp⟩ := parts_map he parts
    change absBuildSlice P t len _ h = some (v, h') at hs
    unfold absBuildSlice at hs
    split at hs
    · rename_i e hu
      split at hs
      · rename_i zs hz
        split at hs
        · rename_i hb
          split at hs
          · rename_i cs hf
            split at hs
            · rename_i hc
              cases hs
              obtain ⟨i, z, hi', hz', hR, hl, hcz, _, hrun⟩ := zeroOf_spec hz ρ
              have hzl : z.cells.toList.length = P.cellsOf e := hR.length.symm.trans hl
              have hR0 := range_cells hR len (by omega)
              rw [hzl, Array.toArray_toList] at hR0
              obtain ⟨us', g1, g2⟩ := fill_sound hi hp hR0 hf
              have hl2 := g2.length
              have hfl : cs.length = len * P.cellsOf e := by
                have : ∀ (ps : List (Nat × V)) (c0 c1 : List V), fillV (fun i => some (i * P.cellsOf e, P.cellsOf e)) ps c0 = some c1 → c1.length = c0.length := by
                  intro ps
                  induction ps with
                  | nil => intro c0 c1 h; cases h; rfl
                  | cons p ps ih =>
                    intro c0 c1 h
                    simp only [fillV] at h
                    split at h
                    · rename_i hc2
                      rw [ih _ _ h]
                      unfold putL
                      simp only [List.length_append, List.length_take, List.length_drop]
                      omega
                    · cases h
                rw [this _ _ _ hf]
                simp [hl]
              refine ⟨_, Instr.buildSlice t len (parts.map fun (i, x) => (i, ρc x)), rfl, rfl, fun w => rfl, NewOK.cells (fun cb => .slice (some ⟨cb, 0, none⟩) len len) us' (fun w => ?_) (by simpa using Nat.le_of_eq hl2) (fun j y hy => ?_) (Nat.zero_le _) (fun ρ' cb hρ => ⟨cb, 0, us'.size, len, rfl, by rw [Arr.ofList_n] at hρ; exact hρ, Int.le_refl _, Nat.le_refl _, fun _ => rfl, Nat.le_refl _, ?_⟩)⟩
              · unfold Instr.buildSlice
                simp only [Sem.run_bind, run_underlying hu, Result.andThen_ok, run_sizeOf hi']
                have hne : ¬ len * P.cellsOf e > 2 ^ 24 := by omega
                rw [if_neg hne]
                by_cases h0 : len * P.cellsOf e = 0
                · have hlen0 : len = 0 := by rcases Nat.mul_eq_zero.1 h0 with h | h; exact h; omega
                  subst hlen0
                  simp only [h0, if_true, Sem.run_bind, Sem.run_pure, Result.andThen_ok, Nat.zero_mul, range0] at g1 ⊢
                  simp only [g1, Sem.run_bind, run_newRow, Result.andThen_ok, Sem.run_pure, List.append_nil, Array.toArray_toList]
                · simp only [h0, if_false, Sem.run_bind, Sem.run_pure, hrun, Result.andThen_ok, g1, run_newRow, List.append_nil, Array.toArray_toList]
              · simp only [Arr.get_ofList] at hy
                obtain ⟨u, hu, hRu⟩ := g2.get hy
                exact ⟨u, by simpa using hu, hRu⟩
              · have e1 : us'.toList.length = us'.size := Array.length_toList
                simp only
                omega
            · cases hs
          · cases hs
        · cases hs
      · cases hs
    · cases hs
  case makeSlice t l c =>
    change absMakeSlice P t (ev l) (ev c) h = some (v, h') at hs
    have hl := he l
    have hc := he c
    unfold absMakeSlice at hs
    split at hs
    · rename_i e k l' k' c' hu hl' hc'
      rw [hl'] at hl
      rw [hc'] at hc
      split at hs
      · rename_i zs hz
        split at hs
        · rename_i hb
          obtain ⟨hb0, hb1, hb2, hb3, hb4⟩ := hb
          cases hs
          obtain ⟨i, z, hi', hz', hR, hlz, hcz, _, hrun⟩ := zeroOf_spec hz ρ
          have hzl : z.cells.toList.length = P.cellsOf e := hR.length.symm.trans hlz
          have hzs : z.cells.size = P.cellsOf e := by simpa using hzl
          have hwl : IntKind.i64.wrap l' = l' := by simp [IntKind.wrap, IntKind.bits, IntKind.signed]; omega
          have hwc : IntKind.i64.wrap c' = c' := by simp [IntKind.wrap, IntKind.bits, IntKind.signed]; omega
          have hby : (P.bytesOf e : Int) = i.bytes := by simp [Program.bytesOf, hi']
          refine ⟨⟨Arr.make (c'.toNat * P.cellsOf e) zs, 0, 0, false, e⟩, Instr.makeSlice t (ρc l) (ρc c), rfl, rfl, fun w => rfl, NewOK.cells (fun cb => .slice (some ⟨cb, 0, none⟩) l'.toNat c'.toNat) ((Array.range (c'.toNat * P.cellsOf e)).map fun i => z.cells[i % z.cells.size]!) (fun w => ?_) (by simp) (fun j x hx => ?_) (Nat.zero_le _) (fun ρ' cb hρ => ⟨cb, 0, _, c'.toNat, rfl, by rw [Arr.make_n] at hρ; exact hρ, Int.le_refl _, Nat.le_refl _, fun _ => rfl, by omega, by simp⟩)⟩
          · rw [show ρc l = _ from hl, show ρc c = _ from hc]
            unfold Instr.makeSlice
            simp only [Sem.run_bind, run_underlying hu, Result.andThen_ok, asInt, asIntOf, Sem.run_pure, typeInfo, run_program, hi', hwl, hwc]
            have hnot : ¬ ((decide (c' < 0) || decide ((i.bytes : Int) * c' > 2 ^ 48) || decide (l' < 0) || decide (l' > c')) = true) := by
              simp only [Bool.or_eq_true, decide_eq_true_eq, not_or]
              rw [hby] at hb4
              refine ⟨⟨⟨by omega, by omega⟩, by omega⟩, by omega⟩
            rw [if_neg hnot]
            simp only [Sem.run_bind, Sem.run_pure, run_askRoom, Result.andThen_ok, run_sizeOf hi']
            by_cases h0 : c'.toNat * P.cellsOf e = 0
            · simp only [h0, if_true, Sem.run_bind, Sem.run_pure, Result.andThen_ok, run_newRow, range0]
            · simp only [h0, if_false, Sem.run_bind, Sem.run_pure, hrun, Result.andThen_ok, run_newRow]
          · simp only [Arr.get_make] at hx
            split at hx
            · rename_i hj
              obtain ⟨u, hu', hRu⟩ := hR.get hx
              refine ⟨u, ?_, hRu⟩
              rw [Array.getElem?_toList, hR.length, hzl, ← hzs] at hu'
              simp only [Array.getElem?_map, Array.getElem?_range, hj, if_true, Option.map_some, Option.some.injEq]
              rw [getElem!_def, hu']
            · cases hx
        · cases hs
      · cases hs
    · cases hs
  case makeMap t r =>
    have hobj : NewOK P ρ (do pure (.map (some (← newObj (.map #[] 0)))) : Sem Value) h.next (Blk.obj 0 [.int .i64 0]) (.mapv h.next) := by
      refine ⟨fun cb => .map (some cb), .map #[] 0, 0, 0, fun w => rfl, Nat.le_refl _, fun ρ' cb w' hle hρ hh => ⟨fun hm => absurd (show 2 ≤ 0 from hm) (by decide), fun _ => ⟨rfl, cb, 0, hρ, ?_⟩⟩, fun ρ' cb hρ => ⟨cb, 0, rfl, hρ⟩⟩
      rw [hh]
      exact ⟨#[], 0, rfl, RL_cons.2 ⟨rfl, rfl⟩⟩
    cases r with
    | none =>
      cases (show some (V.mapv h.next, h.add (Blk.obj 0 [.int .i64 0])) = some (v, h') from hs)
      exact ⟨_, _, rfl, rfl, fun w => rfl, hobj⟩
    | some r =>
      change (match P.underlying t, ev r with
        | some (.map _ _), .int _ _ => absMakeMap P h
        | _, _ => none) = some (v, h') at hs
      split at hs
      · rename_i kt et k n hu hn
        cases hs
        have hr := he r
        rw [hn] at hr
        refine ⟨_, _, rfl, rfl, fun w => ?_, hobj⟩
        show (do pure (Next.value (← Instr.makeMap t (some (ρc r)))) : Sem Next).run P w = _
        rw [show ρc r = _ from hr]
        unfold Instr.makeMap
        simp only [Sem.run_bind, run_underlying hu, Result.andThen_ok, run_asInt', Sem.run_pure]
      · cases hs
end Go.Proofs.YtbchdbhojafpdaaGreatDoor.Ev
namespace Go.Proofs.YtbchdbhojafpdaaGreatDoor.Ev
open Go
def fen : Option Nat → Fence
  | none => Fence.wide
  | some l => Fence.wide.inRound l
theorem fen_fn (ro : Option Nat) (f : FuncId) : (fen ro).fn f := by cases ro <;> exact trivial
theorem fen_depth (ro : Option Nat) : (fen ro).depth = none := by cases ro <;> rfl
theorem calls_fen {ro : Option Nat} {n : Nat} {P : Program} {f : FuncId} {args : Array Value} {w : World} {R : Ending → World → Prop} (h : Calls P f args w R) : CallsIn (fen ro) n P f args w R := by
  cases ro with
  | none => exact callsIn_wide.2 h
  | some l => exact CallsIn.inRound' l (callsIn_wide.2 h)
where CallsIn.inRound' {F : Fence} {n : Nat} {P : Program} {f : FuncId} {args : Array Value} {w : World} {R : Ending → World → Prop} (l : Nat) (h : CallsIn F n P f args w R) : CallsIn (F.inRound l) n P f args w R := h
theorem round_fen {ro : Option Nat} {n : Nat} {P : Program} {l : Nat} {f : FuncId} {tmps : Array Value} {aas bd : Code} {w : World} {R : Ending → World → Prop} (h : RoundIn Fence.wide n P l f tmps aas bd w R) : RoundIn (fen ro) n P l f tmps aas bd w R := by
  cases ro with
  | none => exact h
  | some l' => exact go l' h
where go {F : Fence} {n : Nat} {P : Program} {l : Nat} {f : FuncId} {tmps : Array Value} {aas bd : Code} {w : World} {R : Ending → World → Prop} (l' : Nat) (h : RoundIn F n P l f tmps aas bd w R) : RoundIn (F.inRound l') n P l f tmps aas bd w R := h
theorem callV_wpIn {c : Cfg} (hC : CSound c) (hX : XSound c) {ro : Option Nat} {n : Nat} {ρ : Rho} {h h' : AH} {w : World} {f : FuncId} {args : List V} {args' : List Value} {v : V} (hg : GOK c ρ) (hr : HR ρ h w) (hR : RL ρ args args') (hs : callV c f args h = some (v, h'))
    {o : Oper} {a : Act} {next : Act → World → Prop} {Q : Exit → Act → World → Prop} (hn : ∀ u w' ρ', R ρ' v u → HR ρ' h' w' → Step ρ h w ρ' h' w' → next (a.put o.dst u) w') :
    o.uponIn (fen ro) n c.P a next Q ((callFunc f args'.toArray).run c.P w) := by
  unfold callV at hs
  cases hb : hasBody c f with
  | none => rw [hb] at hs; cases hs
  | some b =>
    rw [hb] at hs
    unfold hasBody at hb
    split at hb
    · cases hb
    · rename_i fn hfn
      split at hb
      · cases hb
      · rename_i hname
        cases b with
        | true =>
          rw [callFunc_body hfn (by simpa using hname) (Option.some.inj hb)]
          simp only [Oper.uponIn]
          refine ⟨fun hd => (by rw [fen_depth] at hd; cases hd), calls_fen ((hC ρ h w f args args' v h' hg hr hR hs).mono ?_)⟩
          rintro e w' ⟨u, ρ', rfl, h1, h2, h3⟩
          exact hn u w' ρ' h1 h2 h3
        | false =>
          obtain ⟨nx, u, w', ρ', h1, h2, h3, h4, h5⟩ := hX.1 ρ h w f args args' v h' hr hR hs
          rw [h1]
          rcases h2 with rfl | ⟨rfl, rfl⟩
          · exact hn u w' ρ' h3 h4 h5
          · exact hn undef w' ρ' h3 h4 h5
theorem isCall_some {o : Op} {cl : Call} (h : isCall o = some cl) : o = .call cl := by
  unfold isCall at h
  split at h
  · split at h
    · cases h
    · cases h; rfl
  · cases h
theorem stepV_defer {c : Cfg} {q : Bool} {cl : Call} {ev : Operand → V} {h : AH} {x : V × AH} (hs : stepV c q (.defer cl) ev h = some x) (hX : HintOK c) : False := by
  unfold stepV at hs
  have h1 := conc_some hX hs
  cases h1
theorem stepV_wpIn {c : Cfg} (hC : CSound c) (hX : XSound c) {ro : Option Nat} {n : Nat} {ρ : Rho} {h h' : AH} {w : World} {quiet : Bool} {o : Oper} {a : Act} {ev : Operand → V} {v : V} (hg : GOK c ρ) (hr : HR ρ h w) (he : ∀ x, R ρ (ev x) (a.eval x)) (hs : stepV c quiet o.op ev h = some (v, h'))
    {next : Act → World → Prop} {Q : Exit → Act → World → Prop} (hn : ∀ u w' ρ', R ρ' v u → HR ρ' h' w' → Step ρ h w ρ' h' w' → next (a.put o.dst u) w') : o.wpIn (fen ro) n c.P a w next Q := by
  refine ⟨fun f _ => fen_fn ro f, ?_⟩
  have hsem : o.semAt (fen ro).round a.eval = execOp a.eval o := Oper.semAt_eq _ _ _ fun cl hcl => by rw [hcl] at hs; exact stepV_defer hs hX.2
  rw [hsem]
  unfold stepV at hs
  split at hs
  · rename_i cl hcl
    have hop := isCall_some hcl
    split at hs
    · rename_i f args hcall
      obtain ⟨args', hRL, hrun⟩ := callee_sound (ty := o.type) hr he hcall
      have hrun' : (execOp a.eval o).run c.P w = (callFunc f args'.toArray).run c.P w := by
        rw [← hrun]
        unfold execOp
        rw [hop]
      rw [hrun']
      split at hs
      · unfold quietV at hs
        cases hq : callV c f args ⟨h.next, h.next, h.m⟩ with
        | none => rw [hq] at hs; cases hs
        | some x =>
          obtain ⟨v1, h1⟩ := x
          rw [hq] at hs
          simp only at hs
          split at hs
          · rename_i hlow
            cases hs
            refine callV_wpIn hC hX hg (hr.low h.next) hRL hq ?_
            intro u w' ρ' g1 g2 g3
            refine hn u w' ρ' g1 (g2.low h.low) ?_
            exact ⟨g3.le, g3.cons, g3.ro, g3.next, g3.os, g3.tape, g3.output, g3.size, g3.keep, Nat.le_refl _, fun b _ hb => g3.quiet b (Nat.lt_of_lt_of_le hb hlow) hb, fun b hb hn => g3.abs b hb hn⟩
          · cases hs
      · exact callV_wpIn hC hX hg hr hRL hs hn
    · cases hs
  · obtain ⟨nx, u, w', ρ', h1, h2, h3, h4, h5⟩ := sop_sound hr he (conc_some hX.2 hs)
    rw [h1]
    rcases h2 with rfl | ⟨rfl, rfl⟩
    · exact hn u w' ρ' h3 h4 h5
    · exact hn undef w' ρ' h3 h4 h5
end Go.Proofs.YtbchdbhojafpdaaGreatDoor.Ev
namespace Go.Proofs.YtbchdbhojafpdaaGreatDoor.Ev
open Go
noncomputable def newAt (P : Program) (b : Nat) (o : Op) (ev : Operand → V) (h : AH) : Res :=
  match sop P o ev ⟨b, h.low, h.m⟩ with
  | some (v, h') => some (v, ⟨h.next, Nat.min h.low b, h'.m⟩)
  | none => none
noncomputable def stepN (c : Cfg) (b : Nat) (q : Bool) (o : Op) (ev : Operand → V) (h : AH) : Res := Bool.rec (stepV c q o ev h) (newAt c.P b o ev h) (isNew o)
theorem stepN_new {c : Cfg} {b : Nat} {q : Bool} {o : Op} {ev : Operand → V} {h : AH} (hn : isNew o = true) : stepN c b q o ev h = newAt c.P b o ev h := by unfold stepN; rw [hn]
theorem stepN_old {c : Cfg} {b : Nat} {q : Bool} {o : Op} {ev : Operand → V} {h : AH} (hn : isNew o = false) : stepN c b q o ev h = stepV c q o ev h := by unfold stepN; rw [hn]
def Trace2 (c : Cfg) (N : Nat) (ops : Array Oper) (qs : Nat → Bool) (base i : Nat) (fr : Nat → V) (h : AH) (fr' : Nat → V) (h' : AH) : Prop :=
  ∃ o, ops[i]? = some o ∧ ((wantedV foFun ops o fr = some false ∧ fr' = putF foFun N fr o.dst undefV ∧ h' = h) ∨
    (wantedV foFun ops o fr = some true ∧ ∃ v, stepN c (base + i) (qs i) o.op (evO c foFun fr) h = some (v, h') ∧ fr' = putF foFun N fr o.dst v))
structure DrawOK2 (P : Program) (ops : Array Oper) (qs : Nat → Bool) (ord : Nat → Nat → Prop) (idx pos : Nat → Nat) (sep : Nat → Nat → Prop) : Prop where
  ip : ∀ q, q < ops.size → idx q < ops.size ∧ pos (idx q) = q
  pi : ∀ i, i < ops.size → pos i < ops.size ∧ idx (pos i) = i
  edge : ∀ j o e, ops[j]? = some o → e ∈ o.after.toList → Region.binds .any e = true → e.on < ops.size ∧ ord e.on j
  closed : ∀ i j o, ops[j]? = some o → ord i j → ∃ e, e ∈ o.after.toList ∧ Region.binds .any e = true ∧ (i = e.on ∨ ord i e.on)
  fwd : ∀ i j, j < ops.size → ord i j → i < ops.size ∧ pos i < pos j
  slot : ∀ i j oi oj t, ops[i]? = some oi → ops[j]? = some oj → i ≠ j → oi.dst = some t → (t ∈ oj.looksAt ops ∨ oj.dst = some t) → (pos i < pos j → ord i j) ∧ (pos j < pos i → ord j i)
  spine : ∀ i j oi oj, ops[i]? = some oi → ops[j]? = some oj → cls P oi.op = 2 → cls P oj.op = 2 → isNew oj.op = false → pos i < pos j → ord i j
  read : ∀ i s oi os, ops[i]? = some oi → ops[s]? = some os → i ≠ s → cls P oi.op ≠ 2 → cls P oi.op ≠ 0 → cls P os.op = 2 → isNew os.op = false → ¬ ord i s → ¬ ord s i → ((isCall os.op).isSome = true ∧ qs s = true) ∨ (pos i < pos s ∧ sep i s)
theorem newAt_spec {P : Program} {ρ : Rho} {o : Oper} {ev : Operand → V} {ρc : Operand → Value} {b : Nat} {h h' : AH} {v : V} (hnew : isNew o.op = true) (he : ∀ x, R ρ (ev x) (ρc x)) (hs : newAt P b o.op ev h = some (v, h')) :
    ∃ k s, h' = h.at b k ∧ k.ro = false ∧ (∀ w, (execOp ρc o).run P w = (do pure (.value (← s)) : Sem Next).run P w) ∧ NewOK P ρ s b k v := by
  unfold newAt at hs
  split at hs
  · rename_i v' h1 hq
    cases hs
    obtain ⟨k, s, rfl, h2, h3, h4⟩ := new_spec hnew he hq
    exact ⟨k, s, rfl, h2, h3, h4⟩
  · cases hs
theorem newAt_at {P : Program} {o : Op} {ev : Operand → V} {b : Nat} {h h' : AH} {v : V} (hnew : isNew o = true) (hs : newAt P b o ev h = some (v, h')) : ∃ k, h' = h.at b k ∧ k.ro = false := by
  unfold newAt at hs
  split at hs
  · rename_i v' h1 hq
    cases hs
    cases o <;> simp only [isNew, Bool.false_eq_true] at hnew
    case alloc t =>
      change absAlloc P t _ = some (v, h1) at hq
      unfold absAlloc at hq
      split at hq
      · cases hq; exact ⟨_, rfl, rfl⟩
      · cases hq
    case box t x =>
      change absBox t (ev x) _ = some (v, h1) at hq
      unfold absBox at hq
      split at hq
      · cases hq; exact ⟨_, rfl, rfl⟩
      · cases hq
    case buildSlice t n ps =>
      change absBuildSlice P t n _ _ = some (v, h1) at hq
      unfold absBuildSlice at hq
      (repeat' split at hq) <;> first | (cases hq; done) | (cases hq; exact ⟨_, rfl, rfl⟩)
    case makeSlice t l c =>
      change absMakeSlice P t (ev l) (ev c) _ = some (v, h1) at hq
      unfold absMakeSlice at hq
      (repeat' split at hq) <;> first | (cases hq; done) | (cases hq; exact ⟨_, rfl, rfl⟩)
    case makeMap t r =>
      cases r with
      | none => cases (show some (V.mapv b, (⟨b, h.low, h.m⟩ : AH).add (Blk.obj 0 [.int .i64 0])) = some (v, h1) from hq); exact ⟨_, rfl, rfl⟩
      | some r =>
        change (match P.underlying t, ev r with
          | some (.map _ _), .int _ _ => absMakeMap P ⟨b, h.low, h.m⟩
          | _, _ => none) = some (v, h1) at hq
        split at hq
        · cases hq; exact ⟨_, rfl, rfl⟩
        · cases hq
  · cases hs
section
variable {D : List Deferred} {c : Cfg} {N base : Nat} {ops : Array Oper} {qs : Nat → Bool} {ord : Nat → Nat → Prop} {idx pos : Nat → Nat} {sep : Nat → Nat → Prop} {frs : Nat → Nat → V} {hs : Nat → AH}
theorem t_step (hA : CAbs c) {q : Nat} (ht : Trace2 c N ops qs base (idx q) (frs q) (hs q) (frs (q + 1)) (hs (q + 1))) : ∃ o, ops[idx q]? = some o ∧
    (hs (q + 1) = hs q ∨ (cls c.P o.op = 2 ∧ isNew o.op = true ∧ ∃ k, hs (q + 1) = (hs q).at (base + idx q) k ∧ k.ro = false) ∨ (cls c.P o.op = 2 ∧ isNew o.op = false ∧ AStep (hs q) (hs (q + 1)) ∧ ((isCall o.op).isSome = true → qs (idx q) = true → ∀ b, b < (hs q).next → (hs (q + 1)).get b = (hs q).get b))) := by
  obtain ⟨o, ho, hh⟩ := ht
  refine ⟨o, ho, ?_⟩
  rcases hh with ⟨_, _, e⟩ | ⟨_, v, e, _⟩
  · exact .inl e
  · cases hn : isNew o.op with
    | true =>
      rw [stepN_new hn] at e
      obtain ⟨k, h1, h2⟩ := newAt_at hn e
      exact .inr (.inl ⟨(isNew_cls hn).1, rfl, k, h1, h2⟩)
    | false =>
      rw [stepN_old hn] at e
      by_cases hc : cls c.P o.op = 2
      · obtain ⟨g1, g2⟩ := stepV_astep hA e
        exact .inr (.inr ⟨hc, rfl, g1, g2⟩)
      · have hcall : isCall o.op = none := by
          cases hi : isCall o.op with
          | none => rfl
          | some cl => exact absurd (cls_call (by rw [hi]; rfl)) hc
        unfold stepV at e
        rw [hcall] at e
        exact .inl (loud_same hc hcall (conc_some hA.2.2 e)).1
theorem t_next (hA : CAbs c) (ht : ∀ q, q < ops.size → Trace2 c N ops qs base (idx q) (frs q) (hs q) (frs (q + 1)) (hs (q + 1))) : ∀ (m q : Nat), q + m ≤ ops.size → (hs q).next ≤ (hs (q + m)).next ∧ (hs (q + m)).low ≤ (hs q).low := by
  intro m
  induction m with
  | zero => intro q _; exact ⟨Nat.le_refl _, Nat.le_refl _⟩
  | succ m ih =>
    intro q hle
    obtain ⟨i1, i2⟩ := ih q (by omega)
    rw [show q + (m + 1) = q + m + 1 from by omega]
    obtain ⟨o, _, h | ⟨_, _, k, h, _⟩ | ⟨_, _, h, _⟩⟩ := t_step hA (ht (q + m) (by omega))
    · rw [h]; exact ⟨i1, i2⟩
    · rw [h]; exact ⟨i1, Nat.le_trans (Nat.min_le_left _ _) i2⟩
    · exact ⟨Nat.le_trans i1 h.next, Nat.le_trans h.low i2⟩
theorem t_next_le (hA : CAbs c) (ht : ∀ q, q < ops.size → Trace2 c N ops qs base (idx q) (frs q) (hs q) (frs (q + 1)) (hs (q + 1))) {q q' : Nat} (h1 : q ≤ q') (h2 : q' ≤ ops.size) : (hs q).next ≤ (hs q').next ∧ (hs q').low ≤ (hs q).low := by
  have := t_next hA ht (q' - q) q (by omega)
  rwa [show q + (q' - q) = q' from by omega] at this
theorem t_none (hA : CAbs c) {P : Program} (hd : DrawOK2 P ops qs ord idx pos sep) (ht : ∀ q, q < ops.size → Trace2 c N ops qs base (idx q) (frs q) (hs q) (frs (q + 1)) (hs (q + 1))) (hb : (hs 0).next = base + ops.size) (h0 : ∀ i, i < ops.size → (hs 0).get (base + i) = none) (i : Nat) (hi : i < ops.size) : ∀ q, q ≤ pos i → (hs q).get (base + i) = none := by
  intro q
  induction q with
  | zero => intro _; exact h0 i hi
  | succ q ih =>
    intro hq
    have hqn : q < ops.size := by have := (hd.pi i hi).1; omega
    have hne : idx q ≠ i := fun e => by have := (hd.ip q hqn).2; rw [e] at this; omega
    have hprev := ih (by omega)
    obtain ⟨o, _, h | ⟨_, _, k, h, _⟩ | ⟨_, _, h, _⟩⟩ := t_step hA (ht q hqn)
    · rw [h]; exact hprev
    · rw [h, AH.get_at, if_neg (by omega)]; exact hprev
    · have hn := (t_next_le hA ht (Nat.zero_le q) (Nat.le_of_lt hqn)).1
      exact h.none _ (by omega) hprev
theorem t_same (hA : CAbs c) (ht : ∀ q, q < ops.size → Trace2 c N ops qs base (idx q) (frs q) (hs q) (frs (q + 1)) (hs (q + 1))) (b : Nat) : ∀ (m q : Nat), q + m ≤ ops.size →
    (∀ q' o, q ≤ q' → q' < q + m → ops[idx q']? = some o → cls c.P o.op = 2 → (isNew o.op = true ∧ b ≠ base + idx q') ∨ (isNew o.op = false ∧ (isCall o.op).isSome = true ∧ qs (idx q') = true ∧ b < (hs q').next) ∨ (hs (q' + 1)).get b = (hs q').get b) → (hs (q + m)).get b = (hs q).get b := by
  intro m
  induction m with
  | zero => intro q _ _; rfl
  | succ m ih =>
    intro q hle hno
    rw [← ih q (by omega) (fun q' o h1 h2 => hno q' o h1 (by omega)), show q + (m + 1) = q + m + 1 from by omega]
    obtain ⟨o, ho, h | ⟨hc, hn, k, h, _⟩ | ⟨hc, hn, h, hq⟩⟩ := t_step hA (ht (q + m) (by omega))
    · rw [h]
    · rcases hno (q + m) o (by omega) (by omega) ho hc with ⟨_, g⟩ | ⟨g, _⟩ | g
      · rw [h, AH.get_at, if_neg g]
      · rw [hn] at g; cases g
      · exact g
    · rcases hno (q + m) o (by omega) (by omega) ho hc with ⟨g, _⟩ | ⟨_, g1, g2, g3⟩ | g
      · rw [hn] at g; cases g
      · exact hq g1 g2 b g3
      · exact g
theorem t_frame (ht : ∀ q, q < ops.size → Trace2 c N ops qs base (idx q) (frs q) (hs q) (frs (q + 1)) (hs (q + 1))) (t : Nat) : ∀ (m q : Nat), q + m ≤ ops.size → (∀ q' o, q ≤ q' → q' < q + m → ops[idx q']? = some o → o.dst ≠ some t) → frs (q + m) t = frs q t := by
  intro m
  induction m with
  | zero => intro q _ _; rfl
  | succ m ih =>
    intro q hle hno
    rw [← ih q (by omega) (fun q' o h1 h2 h3 => hno q' o h1 (by omega) h3), show q + (m + 1) = q + m + 1 from by omega]
    obtain ⟨o, ho, hh⟩ := ht (q + m) (by omega)
    have hd := hno (q + m) o (by omega) (by omega) ho
    rcases hh with ⟨_, e, _⟩ | ⟨_, v, _, e⟩ <;> rw [e] <;> exact get_putF (fo := foFun) _ _ _ _ hd
theorem t_out (ht : ∀ q, q < ops.size → Trace2 c N ops qs base (idx q) (frs q) (hs q) (frs (q + 1)) (hs (q + 1))) {t : Nat} (hN : ¬ t < N) : ∀ q, q ≤ ops.size → frs q t = frs 0 t := by
  intro q
  induction q with
  | zero => intro _; rfl
  | succ q ih =>
    intro hq
    rw [← ih (by omega)]
    obtain ⟨o, ho, hh⟩ := ht q (by omega)
    have key : ∀ v, (putF foFun N (frs q) o.dst v : Nat → V) t = frs q t := by
      intro v
      cases hd : o.dst with
      | none => rfl
      | some d =>
        by_cases hdt : d = t
        · subst hdt
          rw [putF_ge (frs q) v (by rw [Arr.blt_eq]; exact decide_eq_false hN)]
        · exact get_putF (fo := foFun) _ _ _ _ (fun e => hdt (Option.some.inj e))
    rcases hh with ⟨_, e, _⟩ | ⟨_, v, _, e⟩ <;> rw [e] <;> exact key _
theorem t_ro (hA : CAbs c) {P : Program} (hd : DrawOK2 P ops qs ord idx pos sep) (ht : ∀ q, q < ops.size → Trace2 c N ops qs base (idx q) (frs q) (hs q) (frs (q + 1)) (hs (q + 1))) (hb : (hs 0).next = base + ops.size) (h0 : ∀ i, i < ops.size → (hs 0).get (base + i) = none) {i : Nat} {o : Oper} (ho : ops[i]? = some o) (hn : isNew o.op = true) {k : Blk} (hk : (hs (pos i + 1)).get (base + i) = some k) : k.ro = false := by
  have hi := (Array.getElem?_eq_some_iff.1 ho).1
  obtain ⟨hp, hip⟩ := hd.pi i hi
  have hno := t_none hA hd ht hb h0 i hi (pos i) (Nat.le_refl _)
  obtain ⟨o', ho', hc⟩ := t_step hA (ht (pos i) hp)
  rw [hip] at ho' hc
  rw [ho] at ho'
  cases ho'
  rcases hc with h | ⟨_, _, k', h, hro⟩ | ⟨_, h, _⟩
  · rw [h, hno] at hk; cases hk
  · rw [h, AH.get_at, if_pos rfl] at hk; cases hk; exact hro
  · rw [hn] at h; cases h
theorem put_back (H M : AH) (l base : Nat) (pend : Nat → Prop) (hno : ∀ i, pend i → H.get (base + i) = none) : ∀ n, ∃ X : AH, X.next = H.next ∧ X.low = l ∧ (∀ i, i < n → pend i → X.get (base + i) = M.get (base + i)) ∧ ∀ b, (∀ i, i < n → pend i → b ≠ base + i) → X.get b = H.get b := by
  intro n
  induction n with
  | zero => exact ⟨⟨H.next, l, H.m⟩, rfl, rfl, fun i h => by omega, fun b _ => rfl⟩
  | succ n ih =>
    obtain ⟨X, x1, x2, x3, x4⟩ := ih
    by_cases hp : pend n
    · cases hm : M.get (base + n) with
      | some k =>
        have hg : ∀ b, (⟨X.next, X.low, X.m.set (base + n) k⟩ : AH).get b = if b = base + n then some k else X.get b := fun b => T.get_set _ _ _ _
        refine ⟨⟨X.next, X.low, X.m.set (base + n) k⟩, x1, x2, fun i hi hpi => ?_, fun b hb => ?_⟩
        · rw [hg]
          by_cases e : i = n
          · subst e; rw [if_pos rfl, hm]
          · rw [if_neg (by omega)]; exact x3 i (by omega) hpi
        · rw [hg, if_neg (hb n (Nat.lt_succ_self _) hp)]
          exact x4 b fun i hi hpi => hb i (by omega) hpi
      | none =>
        refine ⟨X, x1, x2, fun i hi hpi => ?_, fun b hb => x4 b fun i hi hpi => hb i (by omega) hpi⟩
        by_cases e : i = n
        · subst e; rw [x4 _ (fun j hj _ => by omega), hno _ hp, hm]
        · exact x3 i (by omega) hpi
    · refine ⟨X, x1, x2, fun i hi hpi => ?_, fun b hb => x4 b fun i hi hpi => hb i (by omega) hpi⟩
      by_cases e : i = n
      · subst e; exact absurd hpi hp
      · exact x3 i (by omega) hpi
theorem Step.relow {ρ ρ' : Rho} {h h' : AH} {w w' : World} (hs : Step ρ h w ρ' h' w') (l : Nat) : Step ρ ⟨h.next, l, h.m⟩ w ρ' ⟨h'.next, Nat.min l h'.low, h'.m⟩ w' :=
  ⟨hs.le, hs.cons, hs.ro, hs.next, hs.os, hs.tape, hs.output, hs.size, hs.keep, Nat.min_le_left _ _, fun b hb hn => hs.quiet b (Nat.lt_of_lt_of_le hb (Nat.min_le_right _ _)) hn, hs.abs⟩
theorem sop_congr {P : Program} {o : Op} {ev ev' : Operand → V} (hn : isCall o = none) (he : ∀ x, x ∈ o.operands.toList → ev x = ev' x) (h : AH) : sop P o ev h = sop P o ev' h := by
  have := stepV_congr (c := ⟨P, fun _ => none, fun _ _ _ => none, fun _ _ _ => none, fun _ => none⟩) (q := false) he h
  unfold stepV at this
  rw [hn] at this
  exact this
theorem newAt_congr {P : Program} {b : Nat} {o : Op} {ev ev' : Operand → V} (hn : isNew o = true) (he : ∀ x, x ∈ o.operands.toList → ev x = ev' x) (h : AH) : newAt P b o ev h = newAt P b o ev' h := by
  unfold newAt
  rw [sop_congr (P := P) (isNew_cls (P := P) hn).2 he]
structure DInv2 (D : List Deferred) (c : Cfg) (N base : Nat) (ops : Array Oper) (ord : Nat → Nat → Prop) (pos : Nat → Nat) (frs : Nat → Nat → V) (hs : Nat → AH) (ρ0 : Rho) (h0 : AH) (w0 : World) (listed : Array Bool) (a : Act) (w : World) (ρ : Rho) (p : Nat) (M : AH) : Prop where
  size : listed.size = ops.size
  down : ∀ i j, listed.getD j false = true → ord i j → listed.getD i false = true
  ple : p ≤ ops.size
  spine : ∀ i o, ops[i]? = some o → cls c.P o.op = 2 → isNew o.op = false → (listed.getD i false = true ↔ pos i < p)
  below : ∀ i o, ops[i]? = some o → isNew o.op = true → pos i < p → listed.getD i false = true
  next : M.next = (hs p).next
  same : ∀ b, (∀ i o, ops[i]? = some o → isNew o.op = true → p ≤ pos i → b ≠ base + i) → M.get b = (hs p).get b
  newL : ∀ i o, ops[i]? = some o → isNew o.op = true → p ≤ pos i → listed.getD i false = true → M.get (base + i) = (hs (pos i + 1)).get (base + i)
  newU : ∀ i o, ops[i]? = some o → isNew o.op = true → listed.getD i false = false → M.get (base + i) = none ∧ ∀ L, ρ (base + i) L = none
  lives : ∀ q, q ≤ p → ∀ b k, (hs q).get b = some k → b < (hs q).next
  low : (hs ops.size).low ≤ M.low
  heap : HR ρ M w
  step : Step ρ0 h0 w0 ρ M w
  gok : GOK c ρ
  slots : ∀ t : Nat, ∃ d, d ≤ ops.size ∧ (∀ i o, ops[i]? = some o → o.dst = some t → (listed.getD i false = true ↔ pos i < d)) ∧ R ρ (frs d t) (a.tmps.getD t undef)
  tmps : a.tmps.size = N
  defers : a.defers = D
theorem advance1 (hA : CAbs c) (hd : DrawOK2 c.P ops qs ord idx pos sep) (ht : ∀ q, q < ops.size → Trace2 c N ops qs base (idx q) (frs q) (hs q) (frs (q + 1)) (hs (q + 1))) (hb : (hs 0).next = base + ops.size) {ρ0 : Rho} {h0 : AH} {w0 : World} {listed : Array Bool} {a : Act} {w : World} {ρ : Rho} {M : AH} {p : Nat}
    (inv : DInv2 D c N base ops ord pos frs hs ρ0 h0 w0 listed a w ρ p M) (hp : p < ops.size) (hl : ∀ o, ops[idx p]? = some o → cls c.P o.op = 2 → isNew o.op = true ∧ listed.getD (idx p) false = true) : DInv2 D c N base ops ord pos frs hs ρ0 h0 w0 listed a w ρ (p + 1) M := by
  obtain ⟨o, ho, hcase⟩ := t_step hA (ht p hp)
  obtain ⟨hip, hpi⟩ := hd.ip p hp
  have hlt : ∀ {i : Nat} {oi : Oper}, ops[i]? = some oi → i < ops.size := fun h => (Array.getElem?_eq_some_iff.1 h).1
  have hposne : ∀ i, i < ops.size → pos i = p → i = idx p := fun i hi e => by rw [← e, (hd.pi i hi).2]
  have hn0 := (t_next_le hA ht (Nat.zero_le p) (Nat.le_of_lt hp)).1
  have hnx : (hs (p + 1)).next = (hs p).next := by
    rcases hcase with h | ⟨_, _, k, h, _⟩ | ⟨hc, hn, _⟩
    · rw [h]
    · rw [h]; rfl
    · have := (hl o ho hc).1; rw [hn] at this; cases this
  have hget : ∀ b, b ≠ base + idx p ∨ isNew o.op = false → (hs (p + 1)).get b = (hs p).get b := by
    intro b hb
    rcases hcase with h | ⟨_, hn, k, h, _⟩ | ⟨hc, hn, _⟩
    · rw [h]
    · rw [h, AH.get_at, if_neg (hb.resolve_right (by rw [hn]; simp))]
    · have := (hl o ho hc).1; rw [hn] at this; cases this
  refine ⟨inv.size, inv.down, hp, ?_, ?_, by rw [hnx]; exact inv.next, ?_, ?_, inv.newU, ?_, inv.low, inv.heap, inv.step, inv.gok, inv.slots, inv.tmps, inv.defers⟩
  · intro i oi hi hc hn
    rw [inv.spine i oi hi hc hn]
    refine ⟨fun h => by omega, fun h => ?_⟩
    by_cases e : pos i = p
    · exfalso
      have e2 := hposne i (hlt hi) e
      rw [e2, ho] at hi
      cases hi
      have := (hl o ho hc).1
      rw [hn] at this; cases this
    · omega
  · intro i oi hi hn h
    by_cases e : pos i = p
    · have e2 := hposne i (hlt hi) e
      rw [e2, ho] at hi
      cases hi
      rw [e2]
      exact (hl o ho (isNew_cls hn).1).2
    · exact inv.below i oi hi hn (by omega)
  · intro b hb'
    by_cases hbi : b = base + idx p ∧ isNew o.op = true
    · obtain ⟨rfl, hn⟩ := hbi
      have := inv.newL (idx p) o ho hn (by omega) (hl o ho (isNew_cls hn).1).2
      rw [this, hpi]
    · have hor : b ≠ base + idx p ∨ isNew o.op = false := by
        by_cases e : b = base + idx p
        · right
          cases hh : isNew o.op with
          | false => rfl
          | true => exact absurd ⟨e, hh⟩ hbi
        · exact .inl e
      rw [hget b hor]
      refine inv.same b fun i oi hi hn hpos => ?_
      by_cases e : pos i = p
      · have e2 := hposne i (hlt hi) e
        rw [e2, ho] at hi
        cases hi
        rw [e2]
        exact hor.resolve_right (by rw [hn]; simp)
      · exact hb' i oi hi hn (by omega)
  · intro i oi hi hn hpos hli
    exact inv.newL i oi hi hn (by omega) hli
  · intro q hq b k hk
    by_cases hqp : q ≤ p
    · exact inv.lives q hqp b k hk
    · obtain rfl : q = p + 1 := by omega
      rw [hnx]
      by_cases e : b = base + idx p
      · omega
      · rw [hget b (.inl e)] at hk; exact inv.lives p (Nat.le_refl _) b k hk
theorem advance (hA : CAbs c) (hd : DrawOK2 c.P ops qs ord idx pos sep) (ht : ∀ q, q < ops.size → Trace2 c N ops qs base (idx q) (frs q) (hs q) (frs (q + 1)) (hs (q + 1))) (hb : (hs 0).next = base + ops.size) {ρ0 : Rho} {h0 : AH} {w0 : World} {listed : Array Bool} {a : Act} {w : World} {ρ : Rho} {M : AH} : ∀ (m : Nat) {p : Nat},
    DInv2 D c N base ops ord pos frs hs ρ0 h0 w0 listed a w ρ p M → p + m ≤ ops.size → (∀ q o, p ≤ q → q < p + m → ops[idx q]? = some o → cls c.P o.op = 2 → isNew o.op = true ∧ listed.getD (idx q) false = true) → DInv2 D c N base ops ord pos frs hs ρ0 h0 w0 listed a w ρ (p + m) M := by
  intro m
  induction m with
  | zero => intro p inv _ _; exact inv
  | succ m ih =>
    intro p inv hp hl
    have inv1 := advance1 hA hd ht hb inv (by omega) (fun o ho hc => hl p o (Nat.le_refl _) (by omega) ho hc)
    have inv2 := ih inv1 (by omega) (fun q o h1 h2 ho hc => hl q o (by omega) (by omega) ho hc)
    rw [show p + (m + 1) = p + 1 + m by omega]
    exact inv2
theorem all_listed2 {P : Program} (hd : DrawOK2 P ops qs ord idx pos sep) {listed : Array Bool} (hsz : listed.size = ops.size) (hr : Region.ready .any ops listed = []) : ∀ n i, i < ops.size → pos i < n → listed.getD i false = true := by
  intro n
  induction n with
  | zero => intro i _ h; omega
  | succ n ih =>
    intro i hi hlt
    cases hl : listed.getD i false with
    | true => rfl
    | false =>
      exfalso
      have : i ∈ Region.ready .any ops listed := (ready_iff hsz).2 ⟨hi, hl, fun o ho e he hb => by
        obtain ⟨h1, h2⟩ := hd.edge i o e ho he hb
        exact ih e.on h1 (by have := (hd.fwd e.on i hi h2).2; omega)⟩
      rw [hr] at this
      cases this
theorem frame_at2 {P : Program} (hd : DrawOK2 P ops qs ord idx pos sep) (ht : ∀ q, q < ops.size → Trace2 c N ops qs base (idx q) (frs q) (hs q) (frs (q + 1)) (hs (q + 1))) {listed : Array Bool} (hdown : ∀ i j, listed.getD j false = true → ord i j → listed.getD i false = true) {i : Nat} {o : Oper} (hi : i < ops.size) (ho : ops[i]? = some o) (hnl : listed.getD i false = false)
    (hpre : ∀ x, ord x i → listed.getD x false = true) {t d : Nat} (hlook : t ∈ o.looksAt ops) (hdle : d ≤ ops.size) (hdw : ∀ x ox, ops[x]? = some ox → ox.dst = some t → (listed.getD x false = true ↔ pos x < d)) : frs d t = frs (pos i) t := by
  have hwr : ∀ x ox, ops[x]? = some ox → ox.dst = some t → (pos x < pos i → pos x < d) ∧ (pos i ≤ pos x → d ≤ pos x) := by
    intro x ox hx hdst
    by_cases hxi : x = i
    · subst hxi
      refine ⟨fun h => absurd h (Nat.lt_irrefl _), fun _ => ?_⟩
      have h2 := hdw x ox hx hdst
      rw [hnl] at h2
      have : ¬ pos x < d := fun h => by have := h2.2 h; cases this
      omega
    · obtain ⟨s1, s2⟩ := hd.slot x i ox o t hx ho hxi hdst (.inl hlook)
      have hne : pos x ≠ pos i := fun e => hxi (by rw [← (hd.pi x (Array.getElem?_eq_some_iff.1 hx).1).2, e, (hd.pi i hi).2])
      refine ⟨fun h => (hdw x ox hx hdst).1 (hpre x (s1 h)), fun h => ?_⟩
      have hlt : pos i < pos x := by omega
      rcases Nat.lt_or_ge (pos x) d with hxd | hxd
      · have := hdown i x ((hdw x ox hx hdst).2 hxd) (s2 hlt)
        rw [hnl] at this; cases this
      · exact hxd
  have hpos := (hd.pi i hi).1
  rcases Nat.le_total d (pos i) with hle | hle
  · have := t_frame ht t (pos i - d) d (by omega) (fun q ox h1 h2 h3 h4 => by
      have hq := (hd.ip q (by omega)).2
      have := (hwr (idx q) ox h3 h4).1 (by omega); omega)
    rw [show d + (pos i - d) = pos i from by omega] at this
    exact this.symm
  · have := t_frame ht t (d - pos i) (pos i) (by omega) (fun q ox h1 h2 h3 h4 => by
      have hq := (hd.ip q (by omega)).2
      have := (hwr (idx q) ox h3 h4).2 (by omega); omega)
    rw [show pos i + (d - pos i) = d from by omega] at this
    exact this
open Classical in
set_option maxHeartbeats 4000000 in
theorem draw_wp2 {ro : Option Nat} {n : Nat} (hC : CSound c) (hX : XSound c) (hA : CAbs c) (hd : DrawOK2 c.P ops qs ord idx pos sep) (ht : ∀ q, q < ops.size → Trace2 c N ops qs base (idx q) (frs q) (hs q) (frs (q + 1)) (hs (q + 1))) (hb : (hs 0).next = base + ops.size) (hz : ∀ i, i < ops.size → (hs 0).get (base + i) = none)
    (hsep : ∀ i s oi v h2, ops[i]? = some oi → sep i s → sop c.P oi.op (evO c foFun (frs (pos i))) (hs (pos s)) = some (v, h2) → ∃ h3, sop c.P oi.op (evO c foFun (frs (pos i))) (hs (pos s + 1)) = some (v, h3))
    {Q : Exit → Act → World → Prop} {r : V × AH} {k : (Nat → V) → AH → Res} (hk : k (frs ops.size) (hs ops.size) = some r)
    {ρ0 : Rho} {h0 : AH} {w0 : World} (hr0 : HR ρ0 h0 w0) (h0b : h0.next = base) (hp : Post D c foFun N ρ0 h0 w0 r k (Q .normal)) : ∀ (fuel : Nat) (listed : Array Bool) (a : Act) (w : World) (ρ : Rho) (p : Nat) (M : AH),
    (listed.toList.filter (· == false)).length ≤ fuel → DInv2 D c N base ops ord pos frs hs ρ0 h0 w0 listed a w ρ p M → wpAnyIn (fen ro) n c.P .any ops Q fuel listed a w := by
  have hlt : ∀ {i : Nat} {oi : Oper}, ops[i]? = some oi → i < ops.size := fun h => (Array.getElem?_eq_some_iff.1 h).1
  have done : ∀ (listed : Array Bool) (a : Act) (w : World) (ρ : Rho) (p : Nat) (M : AH), DInv2 D c N base ops ord pos frs hs ρ0 h0 w0 listed a w ρ p M → Region.ready .any ops listed = [] → Q .normal a w := by
    intro listed a w ρ p M inv hr
    have hall : ∀ i, i < ops.size → listed.getD i false = true := fun i hi => all_listed2 hd inv.size hr _ i hi (hd.pi i hi).1
    have inv := advance hA hd ht hb (ops.size - p) inv (by have := inv.ple; omega) (fun q o h1 h2 ho hc => by
      have hq : q < ops.size := by have := inv.ple; omega
      obtain ⟨g1, g2⟩ := hd.ip q hq
      refine ⟨?_, hall _ g1⟩
      cases hn : isNew o.op with
      | true => rfl
      | false => have := (inv.spine (idx q) o ho hc hn).1 (hall _ g1); omega)
    rw [show p + (ops.size - p) = ops.size from by have := inv.ple; omega] at inv
    have hsame : ∀ b, M.get b = (hs ops.size).get b := fun b => inv.same b fun i o ho _ hle => by have := (hd.pi i (hlt ho)).1; omega
    refine hp (frs ops.size) (hs ops.size) a w ρ hk ?_ inv.tmps inv.defers inv.gok (inv.heap.forget inv.next fun b k hk => by rw [hsame]; exact hk) (inv.step.other (fun b _ => (hsame b).symm) (Nat.le_of_eq inv.next) inv.low)
    intro t
    obtain ⟨d, d1, d2, d3⟩ := inv.slots t
    have := t_frame ht t (ops.size - d) d (by omega) (fun q o h1 h2 ho hdst => by
      obtain ⟨g1, g2⟩ := hd.ip q (by omega)
      have := (d2 (idx q) o ho hdst).1 (hall _ g1)
      omega)
    rw [show d + (ops.size - d) = ops.size from by omega] at this
    show R ρ (frs ops.size t) _
    rw [this]
    exact d3
  intro fuel
  induction fuel with
  | zero =>
    intro listed a w ρ p M hf inv
    have hready : Region.ready .any ops listed = [] := by
      apply List.eq_nil_iff_forall_not_mem.2
      intro i hi
      obtain ⟨h1, h2, _⟩ := (ready_iff inv.size).1 hi
      have hnil : listed.toList.filter (· == false) = [] := List.eq_nil_of_length_eq_zero (by omega)
      have hmem : false ∈ listed.toList.filter (· == false) := by
        rw [List.mem_filter]
        refine ⟨?_, rfl⟩
        rw [Array.getD_eq_getD_getElem?, Array.getElem?_eq_getElem (by rw [inv.size]; exact h1), Option.getD_some] at h2
        rw [← h2]
        exact Array.mem_toList_iff.2 (Array.getElem_mem _)
      rw [hnil] at hmem
      cases hmem
    exact ⟨hready, done listed a w ρ p M inv hready⟩
  | succ fuel ih =>
    intro listed a w ρ p M hf inv
    refine ⟨done listed a w ρ p M inv, fun i hi => ?_⟩
    obtain ⟨hilt, hnl, hedges⟩ := (ready_iff inv.size).1 hi
    obtain ⟨hpos, hidx⟩ := hd.pi i hilt
    have htr := ht (pos i) hpos
    rw [hidx] at htr
    obtain ⟨o, ho, hcase⟩ := htr
    have hpre : ∀ x, ord x i → listed.getD x false = true := by
      intro x hx
      obtain ⟨e, he, hb, hor⟩ := hd.closed x i o ho hx
      have hl := hedges o ho e he hb
      rcases hor with rfl | hor
      · exact hl
      · exact inv.down x e.on hl hor
    have hislt : i < listed.size := by rw [inv.size]; exact hilt
    have hcount : ((listed.setIfInBounds i true).toList.filter (· == false)).length ≤ fuel := by
      have h1 : listed.toList[i]? = some false := by
        rw [Array.getD_eq_getD_getElem?, Array.getElem?_eq_getElem hislt, Option.getD_some] at hnl
        rw [Array.getElem?_toList, Array.getElem?_eq_getElem hislt, hnl]
      rw [Array.toList_setIfInBounds]
      have : ∀ (l : List Bool) (i : Nat), l[i]? = some false → ((l.set i true).filter (· == false)).length + 1 = (l.filter (· == false)).length := by
        intro l
        induction l with
        | nil => intro i h; simp at h
        | cons b l ihl =>
          intro i h
          cases i with
          | zero => simp at h; subst h; simp
          | succ i =>
            have := ihl i (by simpa using h)
            cases b <;> simp [List.set_cons_succ] <;> simpa using this
      have := this listed.toList i h1
      omega
    have hinj : ∀ x, x < ops.size → pos x = pos i → x = i := fun x hx e => by rw [← (hd.pi x hx).2, e, hidx]
    obtain ⟨p, inv, hturn⟩ : ∃ p, DInv2 D c N base ops ord pos frs hs ρ0 h0 w0 listed a w ρ p M ∧ (cls c.P o.op = 2 → isNew o.op = false → p = pos i) := by
      by_cases hc2 : cls c.P o.op = 2 ∧ isNew o.op = false
      · obtain ⟨hcl, hnn⟩ := hc2
        have hip : p ≤ pos i := by
          rcases Nat.lt_or_ge (pos i) p with h | h
          · have := (inv.spine i o ho hcl hnn).2 h; rw [hnl] at this; cases this
          · exact h
        refine ⟨pos i, ?_, fun _ _ => rfl⟩
        have := advance hA hd ht hb (pos i - p) inv (by omega) (fun q oq h1 h2 hq hc => by
          obtain ⟨g1, g2⟩ := hd.ip q (by omega)
          have hl := hpre (idx q) (hd.spine (idx q) i oq o hq ho hc hcl hnn (by omega))
          cases hnq : isNew oq.op with
          | true => exact ⟨rfl, hl⟩
          | false => have := (inv.spine (idx q) oq hq hc hnq).1 hl; omega)
        rwa [show p + (pos i - p) = pos i from by omega] at this
      · exact ⟨p, inv, fun h1 h2 => absurd ⟨h1, h2⟩ hc2⟩
    have hslot : ∀ t, t ∈ o.looksAt ops → R ρ (frs (pos i) t) (a.tmps.getD t undef) := by
      intro t hlook
      obtain ⟨d, d1, d2, d3⟩ := inv.slots t
      rw [← frame_at2 hd ht inv.down hilt ho hnl hpre hlook d1 d2]
      exact d3
    have hdown' : ∀ x j, (listed.setIfInBounds i true).getD j false = true → ord x j → (listed.setIfInBounds i true).getD x false = true := by
      intro x j hj hx
      rw [getD_set _ _ _ hislt] at hj ⊢
      by_cases hxi : x = i
      · rw [if_pos hxi]
      · rw [if_neg hxi]
        by_cases hji : j = i
        · subst hji; exact hpre x hx
        · rw [if_neg hji] at hj; exact inv.down x j hj hx
    have hslots' : ∀ (v : V) (u : Value) (ρ' : Rho), ρ.le ρ' → R ρ' v u → frs (pos i + 1) = putF foFun N (frs (pos i)) o.dst v → ∀ t : Nat, ∃ d, d ≤ ops.size ∧ (∀ x ox, ops[x]? = some ox → ox.dst = some t → ((listed.setIfInBounds i true).getD x false = true ↔ pos x < d)) ∧ R ρ' (frs d t) ((a.put o.dst u).tmps.getD t undef) := by
      intro v u ρ' hle hR hfr t
      by_cases hdst : o.dst = some t
      · refine ⟨pos i + 1, hpos, ?_, ?_⟩
        · intro x ox hx hxd
          rw [getD_set _ _ _ hislt]
          by_cases hxi : x = i
          · subst hxi; simp
          · rw [if_neg hxi]
            have hne : pos x ≠ pos i := fun e => hxi (hinj x (hlt hx) e)
            obtain ⟨s1, s2⟩ := hd.slot x i ox o t hx ho hxi hxd (.inr hdst)
            constructor
            · intro hl
              rcases Nat.lt_or_ge (pos x) (pos i) with h | h
              · omega
              · have := inv.down i x hl (s2 (by omega))
                rw [hnl] at this; cases this
            · intro h
              exact hpre x (s1 (by omega))
        · rw [hfr, hdst]
          by_cases htn : t < N
          · rw [putF_lt (frs (pos i)) v (by rw [Arr.blt_eq]; exact decide_eq_true htn)]
            unfold Act.put
            simp only [if_true, Array.getD_eq_getD_getElem?, Array.getElem?_setIfInBounds]
            rw [if_pos (by rw [inv.tmps]; exact htn)]
            exact hR
          · rw [putF_ge (frs (pos i)) v (by rw [Arr.blt_eq]; exact decide_eq_false htn)]
            obtain ⟨d, d1, d2, d3⟩ := inv.slots t
            rw [t_out ht htn (pos i) (Nat.le_of_lt hpos), ← t_out ht htn d d1]
            have := d3.mono hle
            rw [Array.getD_eq_getD_getElem?, Array.getElem?_eq_none (by rw [inv.tmps]; omega)] at this
            rw [Array.getD_eq_getD_getElem?, Array.getElem?_eq_none (by rw [put_size, inv.tmps]; omega)]
            exact this
      · obtain ⟨d, d1, d2, d3⟩ := inv.slots t
        refine ⟨d, d1, ?_, ?_⟩
        · intro x ox hx hxd
          rw [getD_set _ _ _ hislt]
          have hxi : x ≠ i := by
            rintro rfl
            rw [ho] at hx
            cases hx
            exact hdst hxd
          rw [if_neg hxi]
          exact d2 x ox hx hxd
        · have : (a.put o.dst u).tmps.getD t undef = a.tmps.getD t undef := by
            cases hdd : o.dst with
            | none => rfl
            | some dd =>
              simp only [Act.put, Array.getD_eq_getD_getElem?, Array.getElem?_setIfInBounds]
              rw [if_neg]
              intro he
              exact hdst (by rw [hdd, he])
          rw [this]
          exact d3.mono hle
    have hbn : ∀ q, q ≤ ops.size → ∀ x, x < ops.size → base + x < (hs q).next := fun q hq x hx => by
      have := (t_next_le hA ht (Nat.zero_le q) hq).1
      omega
    have hbM : ∀ x, x < ops.size → base + x < M.next := fun x hx => by rw [inv.next]; exact hbn p inv.ple x hx
    have keep : ∀ (v : V) (u : Value) (ρ' : Rho) (w' : World), R ρ' v u → frs (pos i + 1) = putF foFun N (frs (pos i)) o.dst v → HR ρ' M w' → Step ρ M w ρ' M w' → (cls c.P o.op = 2 → isNew o.op = true ∧ (hs (pos i + 1)).get (base + i) = none) → wpAnyIn (fen ro) n c.P .any ops Q fuel (listed.setIfInBounds i true) (a.put o.dst u) w' := by
      intro v u ρ' w' g1 hfr g2 g3 hno
      refine ih _ _ _ ρ' p M hcount ⟨by simpa using inv.size, hdown', inv.ple, ?_, ?_, inv.next, inv.same, ?_, ?_, inv.lives, inv.low, g2, Step.trans hr0 inv.step g3, inv.gok.mono g3.le, hslots' v u ρ' g3.le g1 hfr, by rw [put_size]; exact inv.tmps, by rw [put_defers]; exact inv.defers⟩
      · intro x ox hx hc hn
        rw [getD_set _ _ _ hislt, if_neg (by rintro rfl; rw [ho] at hx; cases hx; have := (hno hc).1; rw [hn] at this; cases this)]
        exact inv.spine x ox hx hc hn
      · intro x ox hx hn hlt'
        rw [getD_set _ _ _ hislt]
        split
        · rfl
        · exact inv.below x ox hx hn hlt'
      · intro x ox hx hn hle hl
        by_cases hxi : x = i
        · subst hxi
          rw [ho] at hx
          cases hx
          rw [(inv.newU x o ho hn hnl).1, (hno (isNew_cls hn).1).2]
        · rw [getD_set _ _ _ hislt, if_neg hxi] at hl
          exact inv.newL x ox hx hn hle hl
      · intro x ox hx hn hl
        rw [getD_set _ _ _ hislt] at hl
        split at hl
        · cases hl
        · obtain ⟨q1, q2⟩ := inv.newU x ox hx hn hl
          refine ⟨q1, fun L => ?_⟩
          cases hρ : ρ' (base + x) L with
          | none => rfl
          | some y =>
            have := (g3.abs (base + x) (hbM x (hlt hx)) q1).2 L y hρ
            rw [q2] at this; cases this
    have turn : cls c.P o.op = 2 → isNew o.op = false → ∀ (v : V) (u : Value) (ρ' : Rho) (w' : World), R ρ' v u → frs (pos i + 1) = putF foFun N (frs (pos i)) o.dst v → HR ρ' (hs (pos i + 1)) w' → Step ρ (hs (pos i)) w ρ' (hs (pos i + 1)) w' → wpAnyIn (fen ro) n c.P .any ops Q fuel (listed.setIfInBounds i true) (a.put o.dst u) w' := by
      intro hcl hnn v u ρ' w' g1 hfr g2 g3
      have hpe := hturn hcl hnn
      subst hpe
      have hpend : ∀ x, (∃ ox, ops[x]? = some ox ∧ isNew ox.op = true ∧ pos i < pos x) → (hs (pos i)).get (base + x) = none ∧ (hs (pos i + 1)).get (base + x) = none := fun x ⟨ox, hx, hn, hlt'⟩ => ⟨t_none hA hd ht hb hz x (hlt hx) _ (Nat.le_of_lt hlt'), t_none hA hd ht hb hz x (hlt hx) _ hlt'⟩
      have hnei : ∀ x ox, ops[x]? = some ox → isNew ox.op = true → x ≠ i ∧ pos x ≠ pos i := fun x ox hx hn => by
        have hxi : x ≠ i := by rintro rfl; rw [ho] at hx; cases hx; rw [hnn] at hn; cases hn
        exact ⟨hxi, fun e => hxi (hinj x (hlt hx) e)⟩
      obtain ⟨M', m1, m2, m3, m4⟩ := put_back (hs (pos i + 1)) M (Nat.min M.low (hs (pos i + 1)).low) base (fun x => ∃ ox, ops[x]? = some ox ∧ isNew ox.op = true ∧ pos i < pos x) (fun x hx => (hpend x hx).2) ops.size
      have hsub : ∀ b k, (hs (pos i)).get b = some k → M.get b = some k := by
        intro b k hk
        rw [inv.same b ?_]
        · exact hk
        · rintro x ox hx hn hle rfl
          rw [t_none hA hd ht hb hz x (hlt hx) _ hle] at hk; cases hk
      have hget' : ∀ b k, M'.get b = some k → (hs (pos i + 1)).get b = some k ∨ ((hs (pos i)).get b = none ∧ M.get b = some k ∧ k.ro = false) := by
        intro b k hk
        by_cases hb' : ∃ x, x < ops.size ∧ (∃ ox, ops[x]? = some ox ∧ isNew ox.op = true ∧ pos i < pos x) ∧ b = base + x
        · obtain ⟨x, hx, hpx, rfl⟩ := hb'
          rw [m3 x hx hpx] at hk
          refine .inr ⟨(hpend x hpx).1, hk, ?_⟩
          obtain ⟨ox, hox, hn, hlt'⟩ := hpx
          cases hl : listed.getD x false with
          | false => rw [(inv.newU x ox hox hn hl).1] at hk; cases hk
          | true =>
            rw [inv.newL x ox hox hn (Nat.le_of_lt hlt') hl] at hk
            exact t_ro hA hd ht hb hz hox hn hk
        · rw [m4 b (fun x hx hpx e => hb' ⟨x, hx, hpx, e⟩)] at hk
          exact .inl hk
      have hHR := HR.restore inv.heap hsub g3 g2 inv.next.symm m1 hget'
      have hb0 : ∀ b, b < h0.next → M.get b = (hs (pos i)).get b := fun b hlt' => inv.same b fun x _ _ _ _ e => by omega
      have s1 : Step ρ0 h0 w0 ρ ⟨(hs (pos i)).next, M.low, (hs (pos i)).m⟩ w := inv.step.other (fun b hlt' => (hb0 b hlt').symm) (Nat.le_of_eq inv.next) (Nat.le_refl _)
      have s3 := Step.trans hr0 s1 (g3.relow M.low)
      have s4 : Step ρ0 h0 w0 ρ' M' w' := s3.other (fun b hlt' => m4 b fun x _ _ e => by omega) (Nat.le_of_eq m1.symm) (Nat.le_of_eq m2)
      refine ih _ _ _ ρ' (pos i + 1) M' hcount ⟨by simpa using inv.size, hdown', hpos, ?_, ?_, m1, ?_, ?_, ?_, ?_, ?_, hHR, s4, inv.gok.mono g3.le, hslots' v u ρ' g3.le g1 hfr, by rw [put_size]; exact inv.tmps, by rw [put_defers]; exact inv.defers⟩
      · intro x ox hx hc hn
        rw [getD_set _ _ _ hislt]
        by_cases hxi : x = i
        · subst hxi; simp
        · have hne : pos x ≠ pos i := fun e => hxi (hinj x (hlt hx) e)
          rw [if_neg hxi, inv.spine x ox hx hc hn]
          constructor <;> (intro h; omega)
      · intro x ox hx hn hlt'
        rw [getD_set _ _ _ hislt]
        split
        · rfl
        · exact inv.below x ox hx hn (by have := (hnei x ox hx hn).2; omega)
      · intro b hb'
        exact m4 b fun x hx ⟨ox, hox, hn, hlt'⟩ => hb' x ox hox hn hlt'
      · intro x ox hx hn hle hl
        rw [getD_set _ _ _ hislt, if_neg (hnei x ox hx hn).1] at hl
        rw [m3 x (hlt hx) ⟨ox, hx, hn, hle⟩]
        exact inv.newL x ox hx hn (by omega) hl
      · intro x ox hx hn hl
        rw [getD_set _ _ _ hislt, if_neg (hnei x ox hx hn).1] at hl
        obtain ⟨q1, q2⟩ := inv.newU x ox hx hn hl
        have hlt' : pos i < pos x := by
          have h1 := (hnei x ox hx hn).2
          rcases Nat.lt_or_ge (pos x) (pos i) with h | h
          · have := inv.below x ox hx hn h; rw [hl] at this; cases this
          · omega
        refine ⟨by rw [m3 x (hlt hx) ⟨ox, hx, hn, hlt'⟩]; exact q1, fun L => ?_⟩
        cases hρ : ρ' (base + x) L with
        | none => rfl
        | some y =>
          have := (g3.abs (base + x) (hbn _ (Nat.le_of_lt hpos) x (hlt hx)) (hpend x ⟨ox, hx, hn, hlt'⟩).1).2 L y hρ
          rw [q2] at this; cases this
      · intro q hq b k hk
        by_cases hqp : q ≤ pos i
        · exact inv.lives q hqp b k hk
        · obtain rfl : q = pos i + 1 := by omega
          exact g2.lives b k hk
      · rw [m2]
        exact Nat.le_min.2 ⟨inv.low, (t_next_le hA ht (Nat.succ_le_of_lt hpos) (Nat.le_refl _)).2⟩
    unfold wpOpIn
    rw [ho]
    simp only
    have hwant : ∀ b, wantedV foFun ops o (frs (pos i)) = some b → Region.wanted o (yielded ops a.tmps) = b := by
      intro b hw
      let fr' : Nat → V := fun t => if t ∈ o.looksAt ops then frs (pos i) t else .bad
      have hfr' : FR foFun ρ fr' a.tmps := by
        intro t
        show R ρ (if t ∈ o.looksAt ops then frs (pos i) t else .bad) _
        by_cases hl : t ∈ o.looksAt ops
        · rw [if_pos hl]; exact hslot t hl
        · rw [if_neg hl]; trivial
      refine wantedV_sound (fo := foFun) hfr' ?_
      rw [← hw]
      unfold wantedV
      cases hg : o.guard with
      | none => rfl
      | some jb =>
        obtain ⟨j, b'⟩ := jb
        simp only
        cases hdd : (ops[j]?).bind (·.dst) with
        | none => rfl
        | some dd =>
          simp only
          have : foFun.get fr' dd = foFun.get (frs (pos i)) dd := by
            show (if dd ∈ o.looksAt ops then frs (pos i) dd else .bad) = _
            rw [if_pos (mem_guard hg hdd)]; rfl
          rw [this]
    rcases hcase with ⟨hw, hfr, hhp⟩ | ⟨hw, v, hstep, hfr⟩
    · rw [hwant false hw]
      simp only [Bool.false_eq_true, if_false]
      refine ⟨fun f _ => fen_fn ro f, ?_⟩
      by_cases hcl : cls c.P o.op = 2
      · cases hnn : isNew o.op with
        | true =>
          refine keep undefV undef ρ w (undefV_R ρ) hfr inv.heap (Step.refl ρ M w) fun _ => ⟨hnn, ?_⟩
          rw [hhp]
          exact t_none hA hd ht hb hz i hilt _ (Nat.le_refl _)
        | false =>
          have hpe := hturn hcl hnn
          have hH : HR ρ (hs (pos i)) w := inv.heap.forget (by rw [inv.next, hpe]) (fun b k hk => by
            rw [inv.same b ?_, hpe]
            · exact hk
            · rintro x ox hx hn hle rfl
              rw [t_none hA hd ht hb hz x (hlt hx) _ (by omega)] at hk; cases hk)
          exact turn hcl hnn undefV undef ρ w (undefV_R ρ) hfr (by rw [hhp]; exact hH) (by rw [hhp]; exact Step.refl ρ _ w)
      · exact keep undefV undef ρ w (undefV_R ρ) hfr inv.heap (Step.refl ρ M w) fun h => absurd h hcl
    · rw [hwant true hw]
      simp only [if_true]
      let ev' : Operand → V := fun x => if x ∈ o.op.operands.toList then evO c foFun (frs (pos i)) x else .bad
      have hev : ∀ x, R ρ (ev' x) (a.eval x) := by
        intro x
        show R ρ (if x ∈ o.op.operands.toList then evO c foFun (frs (pos i)) x else .bad) _
        by_cases hx : x ∈ o.op.operands.toList
        · rw [if_pos hx]
          cases x with
          | tmp t => exact hslot t (mem_looks hx)
          | const vv => exact absC_R ρ vv
          | global g =>
            simp only [evO]
            cases hG : c.G g with
            | none => trivial
            | some L =>
              obtain ⟨S, hS⟩ := inv.gok g L hG
              exact ⟨_, rfl, g, 0, S, hS, Int.le_refl _, rfl⟩
          | func f => exact ⟨_, _, rfl, rfl, rfl⟩
        · rw [if_neg hx]; trivial
      have hcx : ∀ x, x ∈ o.op.operands.toList → evO c foFun (frs (pos i)) x = ev' x := fun x hx => by
        show _ = if x ∈ o.op.operands.toList then evO c foFun (frs (pos i)) x else .bad
        rw [if_pos hx]
      cases hnn : isNew o.op with
      | true =>
        rw [stepN_new hnn, newAt_congr hnn hcx] at hstep
        obtain ⟨k, s, hk', hro, hrun, hN⟩ := newAt_spec (ρc := a.eval) hnn hev hstep
        obtain ⟨n1, n2⟩ := inv.newU i o ho hnn hnl
        obtain ⟨u, ρ', w', hsr, hRu, hHR, hSt, hle, hinv⟩ := at_sound inv.step inv.heap (hbM i hilt) (by omega) n1 n2 hN
        have hsem : o.semAt (fen ro).round a.eval = execOp a.eval o := Oper.semAt_eq _ _ _ fun cl hcl => by rw [hcl] at hnn; cases hnn
        refine ⟨fun f _ => fen_fn ro f, ?_⟩
        rw [hsem]
        have hval : (do pure (.value (← s)) : Sem Next).run c.P w = .ok (.value u) w' := by simp [Sem.run_bind, hsr, Sem.run_pure]
        rw [hrun w, hval, Oper.uponIn_value]
        have hpi : p ≤ pos i := by
          rcases Nat.lt_or_ge (pos i) p with h | h
          · have := inv.below i o ho hnn h; rw [hnl] at this; cases this
          · exact h
        refine ih _ _ _ ρ' p (M.at (base + i) k) hcount ⟨by simpa using inv.size, hdown', inv.ple, ?_, ?_, inv.next, ?_, ?_, ?_, inv.lives, ?_, hHR, hSt, inv.gok.mono hle, hslots' v u ρ' hle hRu hfr, by rw [put_size]; exact inv.tmps, by rw [put_defers]; exact inv.defers⟩
        · intro x ox hx hc hn
          rw [getD_set _ _ _ hislt, if_neg (by rintro rfl; rw [ho] at hx; cases hx; rw [hnn] at hn; cases hn)]
          exact inv.spine x ox hx hc hn
        · intro x ox hx hn hlt'
          rw [getD_set _ _ _ hislt]
          split
          · rfl
          · exact inv.below x ox hx hn hlt'
        · intro b hb'
          rw [AH.get_at, if_neg (hb' i o ho hnn hpi)]
          exact inv.same b hb'
        · intro x ox hx hn hle' hl
          rw [AH.get_at]
          by_cases hxi : x = i
          · subst hxi
            rw [if_pos rfl, hk', AH.get_at, if_pos rfl]
          · rw [getD_set _ _ _ hislt, if_neg hxi] at hl
            rw [if_neg (by omega)]
            exact inv.newL x ox hx hn hle' hl
        · intro x ox hx hn hl
          rw [getD_set _ _ _ hislt] at hl
          split at hl
          · cases hl
          · rename_i hxi
            obtain ⟨q1, q2⟩ := inv.newU x ox hx hn hl
            refine ⟨by rw [AH.get_at, if_neg (by omega)]; exact q1, fun L => ?_⟩
            cases hρ : ρ' (base + x) L with
            | none => rfl
            | some y =>
              rcases hinv _ _ _ hρ with e | e
              · omega
              · rw [q2] at e; cases e
        · have h1 := (t_next_le hA ht (Nat.succ_le_of_lt hpos) (Nat.le_refl _)).2
          rw [hk'] at h1
          exact Nat.le_min.2 ⟨inv.low, Nat.le_trans h1 (Nat.min_le_right _ _)⟩
      | false =>
        rw [stepN_old hnn, stepV_congr hcx] at hstep
        by_cases hcl : cls c.P o.op = 2
        · have hpe := hturn hcl hnn
          have hH : HR ρ (hs (pos i)) w := inv.heap.forget (by rw [inv.next, hpe]) (fun b k hk => by
            rw [inv.same b ?_, hpe]
            · exact hk
            · rintro x ox hx hn hle rfl
              rw [t_none hA hd ht hb hz x (hlt hx) _ (by omega)] at hk; cases hk)
          refine stepV_wpIn hC hX inv.gok hH hev hstep ?_
          intro u w' ρ' g1 g2 g3
          exact turn hcl hnn v u ρ' w' g1 hfr g2 g3
        · have hcall : isCall o.op = none := by
            cases hi : isCall o.op with
            | none => rfl
            | some cl => exact absurd (cls_call (by rw [hi]; rfl)) hcl
          have hconc : conc (c.hint o.op) (sop c.P o.op ev' (hs (pos i))) = some (v, hs (pos i + 1)) := by
            have := hstep
            unfold stepV at this
            rw [hcall] at this
            exact this
          have hsop : sop c.P o.op ev' (hs (pos i)) = some (v, hs (pos i + 1)) := conc_some hA.2.2 hconc
          obtain ⟨hsame, hmove⟩ := loud_same hcl hcall hsop
          have hsop' : sop c.P o.op ev' M = some (v, M) := by
            by_cases hc0 : cls c.P o.op = 0
            · exact hmove M fun h => absurd hc0 h
            have hread : ∀ q os, q < ops.size → ops[idx q]? = some os → cls c.P os.op = 2 → isNew os.op = false → ¬ ord (idx q) i → ¬ ord i (idx q) → ((isCall os.op).isSome = true ∧ qs (idx q) = true) ∨ (pos i < q ∧ sep i (idx q)) := fun q os hq hos hc hn h1 h2 => by
              have := hd.read i (idx q) o os ho hos (by rintro rfl; rw [ho] at hos; cases hos; exact hcl hc) hcl hc0 hc hn h2 h1
              rwa [(hd.ip q hq).2] at this
            rcases Nat.lt_or_ge (pos i) p with hle | hle
            · have chain : ∀ m, pos i + m ≤ p → sop c.P o.op ev' (hs (pos i + m)) = some (v, hs (pos i + m)) := by
                intro m
                induction m with
                | zero => intro _; rw [hsame] at hsop; exact hsop
                | succ m ihm =>
                  intro hm
                  have h0 := ihm (by omega)
                  have hple := inv.ple
                  have hq : pos i + m < ops.size := by omega
                  have hqi := (hd.ip (pos i + m) hq).2
                  obtain ⟨hs0, hmove0⟩ := loud_same hcl hcall h0
                  rw [show pos i + (m + 1) = pos i + m + 1 from rfl]
                  obtain ⟨os, hos, hh⟩ := t_step hA (ht (pos i + m) hq)
                  rcases hh with e | ⟨e1, e2, k, e3, _⟩ | ⟨e1, e2, e3, e4⟩
                  · rw [e]; exact h0
                  · refine hmove0 _ fun _ x b hbl hsome => ?_
                    rw [e3, AH.get_at, if_neg]
                    rintro rfl
                    rw [t_none hA hd ht hb hz (idx (pos i + m)) (hd.ip _ hq).1 (pos i + m) (by omega)] at hsome
                    cases hsome
                  · have hne : idx (pos i + m) ≠ i := fun e => by
                      rw [e, ho] at hos
                      cases hos
                      exact hcl e1
                    have hqne : pos i + m ≠ pos i := fun e => hne (by rw [e, hidx])
                    have hfw : ¬ ord (idx (pos i + m)) i := fun h => by
                      have := (hd.fwd (idx (pos i + m)) i hilt h).2
                      omega
                    have hunl : ¬ ord i (idx (pos i + m)) := fun h => by
                      have := inv.down i (idx (pos i + m)) ((inv.spine (idx (pos i + m)) os hos e1 e2).2 (by omega)) h
                      rw [hnl] at this; cases this
                    rcases hread (pos i + m) os hq hos e1 e2 hfw hunl with ⟨g1, g2⟩ | ⟨g1, g2⟩
                    · refine hmove0 _ fun _ x b hbl hsome => ?_
                      obtain ⟨kk, hkk⟩ := Option.isSome_iff_exists.1 hsome
                      exact e4 g1 g2 b (inv.lives _ (by omega) b kk hkk)
                    · have hcg := fun h => sop_congr (P := c.P) hcall hcx h
                      obtain ⟨h3, hh3⟩ := hsep i (idx (pos i + m)) o v _ ho g2 (by rw [hqi, hcg]; exact h0)
                      rw [hqi, hcg] at hh3
                      obtain ⟨hs3, _⟩ := loud_same hcl hcall hh3
                      rw [hs3] at hh3
                      exact hh3
              have hp := chain (p - pos i) (by omega)
              rw [show pos i + (p - pos i) = p from by omega] at hp
              obtain ⟨_, hmove1⟩ := loud_same hcl hcall hp
              refine hmove1 M fun _ x b hbl hsome => ?_
              refine inv.same b fun z oz hoz hnz hpz e => ?_
              subst e
              rw [t_none hA hd ht hb hz z (hlt hoz) p hpz] at hsome
              cases hsome
            refine hmove M ?_
            intro _ x b hbl hsome
            have hxo : x ∈ o.op.operands.toList := Classical.byContradiction fun h => by
              have : ev' x = .bad := if_neg h
              rw [this] at hbl; cases hbl
            have hbl' : blockOf (evO c foFun (frs (pos i)) x) = some b := by rw [hcx x hxo]; exact hbl
            obtain ⟨L, y, hρ⟩ : ∃ L y, ρ b L = some y := by
              have hR := hev x
              cases hx : ev' x <;> rw [hx] at hR hbl <;> simp only [blockOf, reduceCtorEq, Option.some.injEq] at hbl
              · obtain ⟨_, _, cb, sh, S, h1, _⟩ := hR; subst hbl; exact ⟨_, _, h1⟩
              · obtain ⟨cb, sh, S, cc, _, h1, _⟩ := hR; subst hbl; exact ⟨_, _, h1⟩
              · obtain ⟨cb, S, _, h1⟩ := hR; subst hbl; exact ⟨_, _, h1⟩
            have hbp : b < (hs p).next := by rw [← inv.next]; exact inv.heap.fresh _ _ _ hρ
            by_cases hnew : ∃ z oz, ops[z]? = some oz ∧ isNew oz.op = true ∧ p ≤ pos z ∧ b = base + z
            · obtain ⟨z, oz, hoz, hnz, hpz, rfl⟩ := hnew
              have hlz : listed.getD z false = true := by
                cases hl : listed.getD z false with
                | true => rfl
                | false => rw [(inv.newU z oz hoz hnz hl).2] at hρ; cases hρ
              have hzi : pos z < pos i := Nat.lt_of_not_le fun h => by
                rw [t_none hA hd ht hb hz z (hlt hoz) _ h] at hsome; cases hsome
              rw [inv.newL z oz hoz hnz hpz hlz]
              have := t_same hA ht (base + z) (pos i - (pos z + 1)) (pos z + 1) (by omega) (fun q os h1 h2 hos hc => by
                have hq : q < ops.size := by omega
                cases hn : isNew os.op with
                | true => exact .inl ⟨rfl, fun e => by
                    have hzq : z = idx q := by omega
                    have := (hd.ip q hq).2
                    rw [← hzq] at this
                    omega⟩
                | false =>
                  have hunl : ¬ ord (idx q) i := fun h => by
                    have := (inv.spine (idx q) os hos hc hn).1 (hpre _ h)
                    rw [(hd.ip q hq).2] at this
                    omega
                  have hfw : ¬ ord i (idx q) := fun h => by
                    have := (hd.fwd i (idx q) (hd.ip q hq).1 h).2
                    rw [(hd.ip q hq).2] at this
                    omega
                  rcases hread q os hq hos hc hn hunl hfw with ⟨g1, g2⟩ | ⟨g1, _⟩
                  · exact .inr (.inl ⟨rfl, g1, g2, hbn q (Nat.le_of_lt hq) z (hlt hoz)⟩)
                  · omega)
              rw [show pos z + 1 + (pos i - (pos z + 1)) = pos i from by omega] at this
              exact this.symm
            · rw [inv.same b (fun z oz hoz hnz hpz e => hnew ⟨z, oz, hoz, hnz, hpz, e⟩)]
              have := t_same hA ht b (pos i - p) p (by omega) (fun q os h1 h2 hos hc => by
                have hq : q < ops.size := by omega
                have hqi := (hd.ip q hq).2
                cases hn : isNew os.op with
                | true => exact .inl ⟨rfl, fun e => hnew ⟨idx q, os, hos, hn, by omega, e⟩⟩
                | false =>
                  have hunl : ¬ ord (idx q) i := fun h => by
                    have := (inv.spine (idx q) os hos hc hn).1 (hpre _ h)
                    omega
                  have hfw : ¬ ord i (idx q) := fun h => by
                    have := (hd.fwd i (idx q) (hd.ip q hq).1 h).2
                    omega
                  rcases hread q os hq hos hc hn hunl hfw with ⟨g1, g2⟩ | ⟨g1, _⟩
                  · exact .inr (.inl ⟨rfl, g1, g2, Nat.lt_of_lt_of_le hbp (t_next_le hA ht h1 (Nat.le_of_lt hq)).1⟩)
                  · omega)
              rw [show p + (pos i - p) = pos i from by omega] at this
              exact this.symm
          have hstep' : stepV c (qs i) o.op ev' M = some (v, M) := by
            unfold stepV
            rw [hcall]
            exact conc_of hA.2.2 hconc hsop'
          refine stepV_wpIn hC hX inv.gok inv.heap hev hstep' ?_
          intro u w' ρ' g1 g2 g3
          exact keep v u ρ' w' g1 hfr g2 g3 fun h => absurd h hcl
end
end Go.Proofs.YtbchdbhojafpdaaGreatDoor.Ev
namespace Go.Proofs.YtbchdbhojafpdaaGreatDoor.Ev
open Go
structure RC where
  l : List Nat
  p : List Nat
  s : List (Nat × List Nat)
def idxR (rc : Option RC) (q : Nat) : Nat := match rc with
  | none => q
  | some r => r.l.getD q 0
def posR (rc : Option RC) (i : Nat) : Nat := match rc with
  | none => i
  | some r => r.p.getD i 0
def spR (rc : Option RC) (s : Nat) : List Nat := match rc with
  | none => []
  | some r => (r.s.lookup s).getD []
def ordL (rc : Option RC) (n : Nat) : List Nat := match rc with
  | none => List.range n
  | some r => r.l
def lenR (rc : Option RC) (n : Nat) : Bool := match rc with
  | none => true
  | some r => Nat.beq r.l.length n
def stableB (ops : Array Oper) (rc : Option RC) (i : Nat) (oi : Oper) : Bool :=
  oi.op.operands.toList.all fun x => match x with
    | .tmp t => (List.range ops.size).all fun k => match ops[k]? with
      | some ok => !(ok.dst == some t) || Nat.blt (posR rc k) (posR rc i)
      | none => true
    | _ => true
def certB (P : Program) (ops : Array Oper) (B : Array Nat) (qm : Nat) (rc : Option RC) : Bool :=
  lenR rc ops.size && (List.range ops.size).all fun j => match ops[j]? with
    | none => false
    | some oj =>
      (Nat.blt (posR rc j) ops.size && Nat.beq (idxR rc (posR rc j)) j && Nat.blt (idxR rc j) ops.size && Nat.beq (posR rc (idxR rc j)) j) &&
      ((oj.after.toList.all fun e => !Region.binds .any e || Nat.blt e.on ops.size) && (B.getD j 0 == maskOf B oj) && Nat.blt (B.getD j 0) (2 ^ ops.size)) &&
      (List.range ops.size).all fun i => match ops[i]? with
        | none => false
        | some oi =>
          (!ordB B i j || Nat.blt (posR rc i) (posR rc j)) &&
          (Nat.beq i j ||
          ((match oi.dst with
            | none => true
            | some t => !names ops oj t || (if Nat.blt (posR rc i) (posR rc j) then ordB B i j else ordB B j i)) &&
           (!(cls P oi.op == 2 && cls P oj.op == 2 && !isNew oj.op && Nat.blt (posR rc i) (posR rc j)) || ordB B i j) &&
           (!(cls P oi.op == 1 && cls P oj.op == 2 && !isNew oj.op) || ordB B i j || ordB B j i || ((isCall oj.op).isSome && Nat.testBit qm j) || (Nat.blt (posR rc i) (posR rc j) && (spR rc j).contains i && stableB ops rc i oi))))
def sepR (ops : Array Oper) (rc : Option RC) (i s : Nat) : Prop := s < ops.size ∧ i ∈ spR rc s ∧ posR rc i < posR rc s ∧ ∃ oi, ops[i]? = some oi ∧ stableB ops rc i oi = true
theorem certB_ok {P : Program} {ops : Array Oper} {B : Array Nat} {qm : Nat} {rc : Option RC} (h : certB P ops B qm rc = true) : DrawOK2 P ops (fun i => Nat.testBit qm i) (fun i j => ordB B i j = true) (idxR rc) (posR rc) (sepR ops rc) ∧ lenR rc ops.size = true := by
  have lt : ∀ {i : Nat} {o : Oper}, ops[i]? = some o → i < ops.size := fun ho => (Array.getElem?_eq_some_iff.1 ho).1
  have bl : ∀ {a b : Nat}, Nat.blt a b = true ↔ a < b := fun {a b} => by rw [Arr.blt_eq]; simp
  unfold certB at h
  rw [Bool.and_eq_true] at h
  refine ⟨?_, h.1⟩
  have row : ∀ j oj, ops[j]? = some oj → (posR rc j < ops.size ∧ idxR rc (posR rc j) = j ∧ idxR rc j < ops.size ∧ posR rc (idxR rc j) = j) ∧ (∀ e ∈ oj.after.toList, Region.binds .any e = true → e.on < ops.size) ∧ B.getD j 0 = maskOf B oj ∧ B.getD j 0 < 2 ^ ops.size ∧
      ∀ i oi, ops[i]? = some oi → (ordB B i j = true → posR rc i < posR rc j) ∧ (i ≠ j →
      (∀ t, oi.dst = some t → names ops oj t = true → (if Nat.blt (posR rc i) (posR rc j) then ordB B i j else ordB B j i) = true) ∧ (cls P oi.op = 2 → cls P oj.op = 2 → isNew oj.op = false → posR rc i < posR rc j → ordB B i j = true) ∧
       (cls P oi.op = 1 → cls P oj.op = 2 → isNew oj.op = false → ordB B i j = true ∨ ordB B j i = true ∨ ((isCall oj.op).isSome = true ∧ Nat.testBit qm j = true) ∨ (posR rc i < posR rc j ∧ sepR ops rc i j))) := by
    intro j oj hj
    have hrow := h.2
    rw [List.all_eq_true] at hrow
    have hrow := hrow j (List.mem_range.2 (lt hj))
    rw [hj] at hrow
    simp only [Bool.and_eq_true] at hrow
    obtain ⟨⟨⟨⟨⟨a1, a2⟩, a3⟩, a4⟩, ⟨⟨b1, b2⟩, b3⟩⟩, h3⟩ := hrow
    refine ⟨⟨bl.1 a1, Nat.eq_of_beq_eq_true a2, bl.1 a3, Nat.eq_of_beq_eq_true a4⟩, fun e he hb => ?_, by simpa using b2, bl.1 b3, fun i oi hi => ?_⟩
    · rw [List.all_eq_true] at b1
      have := b1 e he
      simp only [hb, Bool.not_true, Bool.false_or] at this
      exact bl.1 this
    · rw [List.all_eq_true] at h3
      have := h3 i (List.mem_range.2 (lt hi))
      rw [hi] at this
      simp only [Bool.and_eq_true] at this
      obtain ⟨c1, c2⟩ := this
      refine ⟨fun ho => ?_, fun hne => ?_⟩
      · simp only [ho, Bool.not_true, Bool.false_or] at c1
        exact bl.1 c1
      · have hne' : Nat.beq i j = false := by
          cases hb : Nat.beq i j with
          | false => rfl
          | true => exact absurd (Nat.eq_of_beq_eq_true hb) hne
        simp only [hne', Bool.false_or, Bool.and_eq_true] at c2
        obtain ⟨⟨g1, g2⟩, g3⟩ := c2
        simp only [Bool.or_eq_true, Bool.not_eq_true', Bool.and_eq_true] at g2 g3
        refine ⟨fun t ht hn => ?_, fun c1 c2 c3 hlt => ?_, fun c1 c2 c3 => ?_⟩
        · rw [ht] at g1
          simpa only [hn, Bool.not_true, Bool.false_or] using g1
        · rcases g2 with g2 | g2
          · rw [c1, c2, c3, bl.2 hlt] at g2
            simp at g2
          · exact g2
        · rcases g3 with (((g3 | g3) | g3) | g3) | g3
          · rw [c1, c2, c3] at g3; simp at g3
          · exact .inl g3
          · exact .inr (.inl g3)
          · exact .inr (.inr (.inl g3))
          · obtain ⟨⟨q1, q2⟩, q3⟩ := g3
            exact .inr (.inr (.inr ⟨bl.1 q1, lt hj, by simpa using q2, bl.1 q1, oi, hi, q3⟩))
  have at' : ∀ {i : Nat}, i < ops.size → ops[i]? = some ops[i]! := fun {i} hi => by rw [Array.getElem?_eq_getElem hi, getElem!_pos ops i hi]
  refine ⟨fun q hq => (row q _ (at' hq)).1.2.2, fun i hi => ⟨(row i _ (at' hi)).1.1, (row i _ (at' hi)).1.2.1⟩, ?_, ?_, ?_, ?_, ?_, ?_⟩
  · intro j o e ho he hb
    obtain ⟨_, h1, h2, _⟩ := row j o ho
    refine ⟨h1 e he hb, ?_⟩
    unfold ordB
    rw [h2]
    have key : ∀ (l : List Edge) (s : Nat), (e ∈ l ∨ s.testBit e.on = true) → (l.foldl (fun s e => if Region.binds .any e then s ||| 2 ^ e.on ||| B.getD e.on 0 else s) s).testBit e.on = true := by
      intro l
      induction l with
      | nil => intro s h; exact h.resolve_left (by simp)
      | cons a l ih =>
        intro s h
        rw [List.foldl_cons]
        refine ih _ ?_
        rcases h with h | h
        · rcases List.mem_cons.1 h with rfl | h
          · right; rw [if_pos hb]; simp
          · exact .inl h
        · right
          split
          · simp [h]
          · exact h
    exact key _ _ (.inl he)
  · intro i j o ho hord
    have hm := (row j o ho).2.2.1
    unfold ordB at hord
    rw [hm] at hord
    rcases mask_bit B i _ _ hord with h1 | ⟨e, h1, h2, h3⟩
    · simp at h1
    · exact ⟨e, h1, h2, h3⟩
  · intro i j hj hord
    obtain ⟨_, _, _, h4, h5⟩ := row j _ (at' hj)
    have hi : i < ops.size := Nat.lt_of_not_le fun hle => by
      have : (B.getD j 0).testBit i = false := Nat.testBit_lt_two_pow (Nat.lt_of_lt_of_le h4 (Nat.pow_le_pow_right (by omega) hle))
      have hord' : (B.getD j 0).testBit i = true := hord
      rw [this] at hord'; cases hord'
    exact ⟨hi, (h5 i _ (at' hi)).1 hord⟩
  · intro i j oi oj t hi hj hne hdst hlook
    have hn : names ops oj t = true := names_iff hlook
    have := (((row j oj hj).2.2.2.2 i oi hi).2 hne).1 t hdst hn
    constructor
    · intro hlt
      rw [if_pos (bl.2 hlt)] at this
      exact this
    · intro hlt
      rw [if_neg (fun h => by have := bl.1 h; omega)] at this
      exact this
  · intro i j oi oj hi hj c1 c2 c3 hlt
    exact (((row j oj hj).2.2.2.2 i oi hi).2 (by rintro rfl; omega)).2.1 c1 c2 c3 hlt
  · intro i s oi os hi hs hne c1 c2 c3 c4 h1 h2
    have hc : cls P oi.op = 1 := by rcases cls_le P oi.op with h | h | h <;> omega
    rcases (((row s os hs).2.2.2.2 i oi hi).2 hne).2.2 hc c3 c4 with h | h | h | h
    · exact absurd h h1
    · exact absurd h h2
    · exact .inl h
    · exact .inr h
def tgt : Op → Option Operand
  | .store _ x _ => some x
  | .mapUpdate _ m _ _ => some m
  | _ => none
def sepOK (t : V) (xs : List V) : Bool := match blockOf t with
  | some b => xs.all fun x => match blockOf x with
    | some b' => !Nat.beq b' b
    | none => true
  | none => false
end Go.Proofs.YtbchdbhojafpdaaGreatDoor.Ev
namespace Go.Proofs.YtbchdbhojafpdaaGreatDoor.Ev
open Go
noncomputable def orUndef (o : Option V) : V := Option.rec .bad (fun v => v) o
theorem orUndef_eq (o : Option V) : orUndef o = o.getD .bad := by cases o <;> rfl
noncomputable def iniT (l : List V) : Nat → T V → T V := List.rec (fun _ t => t) (fun v _ ih i t => ih (Nat.succ i) (t.set i v)) l
theorem iniT_cons (v : V) (l : List V) (k : Nat) (t : T V) : iniT (v :: l) k t = iniT l (k + 1) (t.set k v) := rfl
theorem get_iniT : ∀ (l : List V) (k : Nat) (t : T V) (i : Nat), (iniT l k t).get i = if k ≤ i ∧ i < k + l.length then l[i - k]? else t.get i := by
  intro l
  induction l with
  | nil => intro k t i; rw [if_neg (by simp only [List.length_nil]; omega)]; rfl
  | cons v l ih =>
    intro k t i
    rw [iniT_cons, ih, T.get_set]
    by_cases h1 : k + 1 ≤ i ∧ i < k + 1 + l.length
    · rw [if_pos h1, if_pos (by simp only [List.length_cons]; omega), show i - k = (i - (k + 1)) + 1 from by omega, List.getElem?_cons_succ]
    · rw [if_neg h1]
      by_cases h2 : i = k
      · subst h2; rw [if_pos rfl, if_pos (by simp only [List.length_cons]; omega)]; simp
      · rw [if_neg h2, if_neg (by simp only [List.length_cons]; omega)]
noncomputable def seen (v : V) (K : V → Option (V × AH)) : Option (V × AH) := V.casesOn (motive_1 := fun _ => Option (V × AH)) v (K .bad) (fun b => K (.bool b)) (fun k n => K (.int k n)) (fun s => K (.str s)) (fun a => K (.ptr a)) (K .nilptr) (fun a n c e z => K (.slice a n c e z)) (K .nilslice) (K .loose) (fun f x y => K (.func f x y)) (K .nilFunc)
  (fun t v => K (.iface t v)) (K .nilIface) (fun c => K (.agg c)) (fun c => K (.tuple c)) (fun b => K (.mapv b)) (K .nilmap) (fun k a b => K (.complex k a b)) (fun k a => K (.float k a)) (fun b => K (.yield b)) (fun f p a b => K (.rcd f p a b))
theorem seen_eq (v : V) (K : V → Option (V × AH)) : seen v K = K v := by cases v <;> rfl
noncomputable def keepT (f : T V) (K : T V → Option (V × AH)) (l : List Nat) : T V → Option (V × AH) := List.rec (fun t => K t) (fun i _ ih t => seen (orUndef (f.get i)) fun v => ih (t.set i v)) l
theorem keepT_spec (f : T V) (K : T V → Option (V × AH)) : ∀ (l : List Nat) (t : T V), (∀ i, orUndef (t.get i) = orUndef (f.get i) ∨ orUndef (t.get i) = .bad) → ∃ t', keepT f K l t = K t' ∧ ∀ i, orUndef (t'.get i) = orUndef (f.get i) ∨ orUndef (t'.get i) = .bad := by
  intro l
  induction l with
  | nil => intro t h; exact ⟨t, rfl, h⟩
  | cons i l ih =>
    intro t h
    have e : keepT f K (i :: l) t = seen (orUndef (f.get i)) fun v => keepT f K l (t.set i v) := rfl
    rw [e, seen_eq]
    refine ih _ fun j => ?_
    rw [T.get_set]
    by_cases hj : j = i
    · subst hj; rw [if_pos rfl]; exact .inl rfl
    · rw [if_neg hj]; exact h j
noncomputable def foKeep (lv : Nat → Option (List Nat)) : FO where
  F := T V
  get := fun f i => orUndef (f.get i)
  set := fun f i v => f.set i v
  ini := fun l => iniT l 0 .leaf
  keepK := fun key f K => Option.rec (K f) (fun l => keepT f K l .leaf) (lv key)
  keepK_spec := fun key f K => by
    cases lv key with
    | none => exact .inr ⟨f, rfl, fun _ => .inl rfl⟩
    | some l => exact .inr (keepT_spec f K l .leaf fun i => .inr (by rw [T.get_leaf]; rfl))
  get_set := fun f i j v => by
    rw [T.get_set]
    by_cases h : j = i
    · rw [if_pos h, if_pos h]; rfl
    · rw [if_neg h, if_neg h]
  get_ini := fun l i => by
    rw [get_iniT, List.getD_eq_getElem?_getD, orUndef_eq]
    by_cases hi : i < l.length
    · rw [if_pos (by omega), Nat.sub_zero]
    · rw [if_neg (by omega), T.get_leaf, List.getElem?_eq_none (by omega)]
noncomputable def foTrie : FO := foKeep fun _ => none
structure Env where
  P : Program
  G : Nat → Option Nat
  X : FuncId → List V → AH → Option (V × AH)
  I : FuncId → Option (List V → AH → Option (V × AH))
  fo : FuncId → FO
  fuel : Nat
  hint : Op → Option (Int × (Int → Bool)) := fun _ => none
noncomputable def runC (E : Env) : Nat → FuncId → List V → AH → Option (V × AH)
  | 0, _, _, _ => none
  | n + 1, f, args, h =>
    match E.I f with
    | some g => g args h
    | none => execFn ⟨E.P, E.G, runC E n, E.X, E.hint⟩ (E.fo f) E.fuel f args h
noncomputable def Env.cfg (E : Env) (n : Nat) : Cfg := ⟨E.P, E.G, runC E n, E.X, E.hint⟩
structure Env.OK (E : Env) : Prop where
  mixed : E.P.follows .mixedOrders = true
  xsound : XRun ⟨E.P, E.G, fun _ _ _ => none, E.X, fun _ => none⟩
  xabs : ∀ f args h v h', E.X f args h = some (v, h') → AStep h h'
  isound : ∀ f g, E.I f = some g → ∀ (ρ : Rho) (h : AH) (w : World) (args : List V) (args' : List Value) (v : V) (h' : AH), GOK ⟨E.P, E.G, fun _ _ _ => none, E.X, fun _ => none⟩ ρ → HR ρ h w → RL ρ args args' → g args h = some (v, h') →
    Calls E.P f args'.toArray w fun e w' => ∃ u ρ', e = .returned u ∧ R ρ' v u ∧ HR ρ' h' w' ∧ Step ρ h w ρ' h' w'
  iabs : ∀ f g, E.I f = some g → ∀ args h v h', g args h = some (v, h') → AStep h h'
  hints : ∀ o m, E.hint o = some m → ∀ x, m.2 x = true → x = m.1
end Go.Proofs.YtbchdbhojafpdaaGreatDoor.Ev
namespace Go.Proofs.YtbchdbhojafpdaaGreatDoor.Ev
open Go
structure XRow where
  f : Nat
  e : Array Value → Sem Value
  g : List V → AH → Option (V × AH)
noncomputable def xOf (l : List XRow) (f : FuncId) (args : List V) (h : AH) : Option (V × AH) :=
  List.rec none (fun r _ ih => bif Nat.beq r.f f then r.g args h else ih) l
theorem xOf_cons (r : XRow) (l : List XRow) (f : FuncId) (args : List V) (h : AH) : xOf (r :: l) f args h = bif Nat.beq r.f f then r.g args h else xOf l f args h := rfl
structure XRow.OK (P : Program) (r : XRow) : Prop where
  fits : ∃ fn, P.funcs[r.f]? = some fn ∧ (fn.name == "runtime.NumGoroutine") = false ∧ fn.body.isNone = true ∧ Extern.findNext fn = none ∧ Extern.find fn = some r.e
  sound : ∀ (ρ : Rho) (h : AH) (w : World) (args : List V) (args' : List Value) (v : V) (h' : AH), HR ρ h w → RL ρ args args' → r.g args h = some (v, h') → Sim P ρ h w (r.e args'.toArray) v h'
  step : ∀ args h v h', r.g args h = some (v, h') → AStep h h'
theorem xOf_inv {l : List XRow} {f : FuncId} {args : List V} {h : AH} {x : V × AH} : xOf l f args h = some x → ∃ r ∈ l, r.f = f ∧ r.g args h = some x := by
  induction l with
  | nil => intro hx; cases hx
  | cons r l ih =>
    intro hx
    rw [xOf_cons] at hx
    cases hb : Nat.beq r.f f with
    | true => rw [hb] at hx; exact ⟨r, by simp, Nat.eq_of_beq_eq_true hb, hx⟩
    | false =>
      rw [hb] at hx
      obtain ⟨r', h1, h2, h3⟩ := ih hx
      exact ⟨r', by simp [h1], h2, h3⟩
theorem xOf_sound {c : Cfg} {l : List XRow} (hX : c.X = xOf l) (hl : ∀ r ∈ l, r.OK c.P) : XRun c := by
  intro ρ h w f args args' v h' hr hR hs
  rw [hX] at hs
  obtain ⟨r, h1, rfl, h3⟩ := xOf_inv hs
  obtain ⟨fn, g1, g2, g3, g4, g5⟩ := (hl r h1).fits
  obtain ⟨u, w', ρ', q1, q2, q3, q4⟩ := (hl r h1).sound ρ h w args args' v h' hr hR h3
  refine ⟨.value u, u, w', ρ', ?_, .inl rfl, q2, q3, q4⟩
  rw [run_callFunc_extern g1 g2 g3 g4 g5, q1]
  rfl
theorem xOf_astep {P : Program} {l : List XRow} (hl : ∀ r ∈ l, r.OK P) : ∀ f args h v h', xOf l f args h = some (v, h') → AStep h h' := by
  intro f args h v h' hs
  obtain ⟨r, h1, _, h3⟩ := xOf_inv hs
  exact (hl r h1).step args h v h' h3
noncomputable def bytesV (x : V) (h : AH) : Option (List Nat) :=
  match x with
  | .str s => some s
  | .nilslice => some []
  | .loose => some []
  | .slice a n _ _ _ => (readN h a n).bind toBytes
  | _ => none
theorem bytesV_sound {P : Program} {ρ : Rho} {h : AH} {w : World} {x : V} {a : Value} {l : List Nat} (hr : HR ρ h w) (hx : R ρ x a) (hs : bytesV x h = some l) :
    ∃ s : ByteArray, (Extern.Bytes.bytesOf a).run P w = .ok s w ∧ s.data.toList.map UInt8.toNat = l := by
  unfold bytesV at hs
  split at hs
  · cases hs; obtain ⟨t, rfl, ht⟩ := hx; exact ⟨t, rfl, ht⟩
  · cases hs; rw [show a = _ from hx]; exact ⟨.empty, rfl, rfl⟩
  · cases hs; obtain ⟨c, cc, rfl⟩ := hx; exact ⟨.empty, rfl, rfl⟩
  · rename_i p n _ _ _
    obtain ⟨cb, sh, S, cc, rfl, h1, h2, _⟩ := hx
    cases hread : readN h p n with
    | none => rw [hread] at hs; cases hs
    | some vs =>
      rw [hread] at hs
      simp only [Option.bind_some] at hs
      obtain ⟨us, hlen, hR, hcell⟩ := read_sound hr ⟨cb, sh, S, h1, h2, rfl⟩ hread
      obtain ⟨ns, g1, g2⟩ := toBytes_spec hs hR
      have hl : ns.length = n := by rw [← hlen, g1, List.length_map]
      have hrun := Lib.run_loadBytesX (P := P) w ns ⟨cb, ((p.o : Int) - sh).toNat, none⟩ .empty (fun j y hj => hcell j _ (by rw [g1, List.getElem?_map, hj]; rfl))
      rw [hl] at hrun
      refine ⟨_, hrun, ?_⟩
      have e : ByteArray.empty.data = #[] := rfl
      rw [e, g2, ← bytes_mod]
      simp [Lib.bytesOf]
  · cases hs
noncomputable def idxN (c : Nat) (l : List Nat) : Nat → Int := List.rec (fun _ => -1) (fun b _ ih i => bif Nat.beq b c then Int.ofNat i else ih (Nat.succ i)) l
theorem idxN_cons (c b : Nat) (l : List Nat) (i : Nat) : idxN c (b :: l) i = bif Nat.beq b c then (i : Int) else idxN c l (i + 1) := rfl
theorem idxN_eq (c : UInt8) : ∀ (t : List UInt8) (i : Nat), idxN c.toNat (t.map UInt8.toNat) i = if Lib.indexByte t c = -1 then -1 else Lib.indexByte t c + i := by
  intro t
  induction t with
  | nil => intro i; rfl
  | cons b t ih =>
    intro i
    rw [List.map_cons, idxN_cons, ih]
    have hge := Lib.indexByte_ge t c
    have hstep : Lib.indexByte (b :: t) c = if b == c then 0 else if Lib.indexByte t c == -1 then -1 else Lib.indexByte t c + 1 := rfl
    rw [hstep]
    by_cases hb : b = c
    · subst hb
      simp only [Nat.beq_refl, cond_true, beq_self_eq_true, if_true]
      rw [if_neg (by omega)]
      omega
    · have h1 : Nat.beq b.toNat c.toNat = false := by
        cases h : Nat.beq b.toNat c.toNat with
        | false => rfl
        | true => exact absurd (UInt8.toNat_inj.1 (Nat.eq_of_beq_eq_true h)) hb
      have h2 : (b == c) = false := by simpa using hb
      simp only [h1, h2, cond_false, Bool.false_eq_true, if_false, beq_iff_eq]
      by_cases h3 : Lib.indexByte t c = -1
      · simp only [h3, if_true]
      · simp only [h3, if_false]
        rw [if_neg (by omega)]
        push_cast
        omega
noncomputable def absIndexByte (args : List V) (h : AH) : Option (V × AH) :=
  match args with
  | [x, .int .u8 c] => (bytesV x h).map fun l => (.int .i64 (idxN (Nat.mod c.toNat 256) l 0), h)
  | _ => none
theorem indexByte_sound {P : Program} {ρ : Rho} {h h' : AH} {w : World} {args : List V} {args' : List Value} {v : V} (hr : HR ρ h w) (hR : RL ρ args args') (hs : absIndexByte args h = some (v, h')) : Sim P ρ h w (Extern.BytealgIndexByte.indexByte args'.toArray) v h' := by
  unfold absIndexByte at hs
  split at hs
  · rename_i x c
    obtain ⟨a, b, rfl, h1, h2⟩ := RL2 hR
    obtain ⟨l, g1, g2⟩ := map_some hs
    cases g2
    rw [show b = _ from h2]
    obtain ⟨s, q1, q2⟩ := bytesV_sound (P := P) hr h1 g1
    refine Sim.pure hr ⟨_, ?_, rfl⟩
    have hk := Lib.run_indexByteString (P := P) s c w
    change Sem.run P (do
      let b ← Extern.Bytes.bytesOf a
      let c ← Extern.Bytes.asByte (.int .u8 c)
      match (List.range b.size).find? fun i => b[i]! == c with
      | some i => pure (goInt i)
      | none => pure (goInt (-1))) w = _
    change Sem.run P (do
      let b ← Extern.Bytes.bytesOf (.string s)
      let c ← Extern.Bytes.asByte (.int .u8 c)
      match (List.range b.size).find? fun i => b[i]! == c with
      | some i => pure (goInt i)
      | none => pure (goInt (-1))) w = _ at hk
    simp only [Sem.run_bind, q1, Result.andThen] at hk ⊢
    simp only [Extern.Bytes.bytesOf, Sem.run_pure] at hk
    rw [hk]
    have hi := idxN_eq c.toNat.toUInt8 s.data.toList 0
    rw [q2] at hi
    have hc : c.toNat.toUInt8.toNat = Nat.mod c.toNat 256 := by simp; rfl
    rw [hc] at hi
    rw [hi]
    by_cases h3 : Lib.indexByte s.data.toList c.toNat.toUInt8 = -1
    · rw [if_pos h3, ← h3]
    · rw [if_neg h3]; simp
  · cases hs
noncomputable def cmpN (l : List Nat) : List Nat → Int := List.rec (fun m => List.rec 0 (fun _ _ _ => -1) m) (fun a _ ih m => List.rec 1 (fun b bs _ => bif Nat.blt a b then -1 else bif Nat.blt b a then 1 else ih bs) m) l
theorem cmpN_eq : ∀ (s t : List UInt8), cmpN (s.map UInt8.toNat) (t.map UInt8.toNat) = Lib.compareBytes s t := by
  intro s
  induction s with
  | nil => intro t; cases t <;> rfl
  | cons a s ih =>
    intro t
    cases t with
    | nil => rfl
    | cons b t =>
      show (bif Nat.blt a.toNat b.toNat then -1 else bif Nat.blt b.toNat a.toNat then 1 else cmpN (s.map UInt8.toNat) (t.map UInt8.toNat)) = _
      have hstep : Lib.compareBytes (a :: s) (b :: t) = if a < b then -1 else if b < a then 1 else Lib.compareBytes s t := rfl
      rw [ih, Arr.blt_eq, Arr.blt_eq, hstep]
      simp only [UInt8.lt_iff_toNat_lt]
      by_cases h1 : a.toNat < b.toNat
      · simp [h1]
      · by_cases h2 : b.toNat < a.toNat
        · simp [h1, h2]
        · simp [h1, h2]
noncomputable def absCompare (args : List V) (h : AH) : Option (V × AH) :=
  match args with
  | [x, y] =>
    match bytesV x h, bytesV y h with
    | some l, some m => some (.int .i64 (cmpN l m), h)
    | _, _ => none
  | _ => none
theorem compare_sound {P : Program} {ρ : Rho} {h h' : AH} {w : World} {args : List V} {args' : List Value} {v : V} (hr : HR ρ h w) (hR : RL ρ args args') (hs : absCompare args h = some (v, h')) : Sim P ρ h w (Extern.BytealgCompare.compare args'.toArray) v h' := by
  unfold absCompare at hs
  split at hs
  · rename_i x y
    obtain ⟨a, b, rfl, h1, h2⟩ := RL2 hR
    split at hs
    · rename_i l m g1 g2
      cases hs
      obtain ⟨s, q1, q2⟩ := bytesV_sound (P := P) hr h1 g1
      obtain ⟨t, q3, q4⟩ := bytesV_sound (P := P) hr h2 g2
      refine Sim.pure hr ⟨_, ?_, rfl⟩
      change Sem.run P (do pure (goInt (Extern.BytealgCompare.cmp (← Extern.Bytes.bytesOf a) (← Extern.Bytes.bytesOf b)))) w = _
      simp only [Sem.run_bind, q1, q3, Result.andThen, Sem.run_pure]
      rw [Lib.cmp_eq, ← cmpN_eq, q2, q4]
      rfl
    · cases hs
  · cases hs
def absSame (args : List V) (h : AH) : Option (V × AH) :=
  match args with
  | [x] => some (x, h)
  | _ => none
theorem same_sound {P : Program} {ρ : Rho} {h h' : AH} {w : World} {args : List V} {args' : List Value} {v : V} (hr : HR ρ h w) (hR : RL ρ args args') (hs : absSame args h = some (v, h')) : Sim P ρ h w (Extern.AbiNoEscape.same args'.toArray) v h' := by
  unfold absSame at hs
  split at hs
  · cases hs
    obtain ⟨a, rfl, h1⟩ := RL1 hR
    exact Sim.pure hr ⟨a, rfl, h1⟩
  · cases hs
theorem same_step : ∀ args h v h', absSame args h = some (v, h') → AStep h h' := by
  intro args h v h' hs
  unfold absSame at hs
  split at hs <;> cases hs
  exact AStep.refl _
theorem indexByte_step : ∀ args h v h', absIndexByte args h = some (v, h') → AStep h h' := by
  intro args h v h' hs
  unfold absIndexByte at hs
  split at hs
  · rw [map_some hs |>.choose_spec.2 |> Prod.mk.inj |>.2 |>.symm]; exact AStep.refl _
  · cases hs
theorem compare_step : ∀ args h v h', absCompare args h = some (v, h') → AStep h h' := by
  intro args h v h' hs
  unfold absCompare at hs
  (repeat' split at hs) <;> cases hs
  exact AStep.refl _
end Go.Proofs.YtbchdbhojafpdaaGreatDoor.Ev
namespace Go.Proofs.YtbchdbhojafpdaaGreatDoor.Ev
open Go Go.ChangeShapes Go.WideShapes Go.ChangeAt Go.RowKit
def Stays (W w : World) : Prop := W.keptBut w (fun _ => False) ∧ (∀ a : Addr, a.block < W.heap.size → w.frozen? a = W.frozen? a)
theorem keptBut_same {W w : World} (hos : w.os = W.os) (hout : w.output = W.output) (hb : ∀ i, i < W.heap.size → w.heap[i]? = W.heap[i]?) : W.keptBut w (fun _ => False) := by
  refine ⟨hos, hout, fun i hi => ?_⟩
  rw [hb i hi]
  cases W.heap[i]? with
  | none => rfl
  | some o =>
    cases o with
    | cells c t fr => exact ⟨rfl, rfl, rfl, fun _ _ => rfl⟩
    | map es clock => exact .inr ⟨rfl, rfl⟩
    | _ => rfl
theorem frozen_same {W w : World} {a : Addr} (h : w.heap[a.block]? = W.heap[a.block]?) : w.frozen? a = W.frozen? a := by
  unfold World.frozen?
  rw [h]
theorem Step.stays {ρ ρ' : Rho} {h h' : AH} {W w : World} (hs : Step ρ h W ρ' h' w) (hro : ∀ b k, h.get b = some k → k.ro = true) : Stays W w := by
  have hb : ∀ i, i < W.heap.size → w.heap[i]? = W.heap[i]? := fun i hi => hs.keep i hi (by
    rintro ⟨b, L, x, k, _, hk, hr⟩
    rw [hro b k hk] at hr
    cases hr)
  exact ⟨keptBut_same hs.os hs.output hb, fun a ha => frozen_same (hb _ ha)⟩
section
variable {H : Type} {enc : TypeId × Value → H} {P : Program}
theorem post_stays {f : Func} {s : ChangeSpec} {apart fresh handsOn again : Bool} {W W' : World} {args : Array Value} {v : Value} {ds gs : List (DataW H)} {before pa pv : List MemPlace}
    (hW : DataW.Whole enc P f.params.toList s.vars apart W args.toList ds gs before)
    (hres : ∀ (b : Nat) (sp : Nat → Bool) (hd : Bool), DataW.TrodAll enc P W' b sp hd f.resultTypes.toList (v.resultList f.resultTypes.size) (s.fn H (ds ++ gs)).results [])
    (hargs : ∀ sp : Nat → Bool, (∀ p ∈ before, sp p.block = true) → DataW.TrodAll enc P W' 0 sp true f.params.toList args.toList (s.fn H (ds ++ gs)).args pa)
    (hvars : ∀ sp : Nat → Bool, (∀ p ∈ before, sp p.block = true) → DataW.TrodVars enc P W' sp s.vars (s.fn H (ds ++ gs)).vars pv)
    (hps : before = pa ++ pv) (hst : Stays W W')
    (hok : ∀ (j : Nat) (t : TypeId) (r : Value), f.resultTypes[j]? = some t → (v.resultList f.resultTypes.size)[j]? = some r → Value.okWide P W' .any 0 t r) :
    s.post enc P f apart fresh handsOn again W args v W' := by
  have hlt := fun p hp => hW.lt p hp
  have hold : ∀ p ∈ before, (fun b => decide (b < W.heap.size)) p.block = true := fun p hp => by simpa using hlt p hp
  have hWhole := hW
  obtain ⟨_, _, _, _, _, hz, hn⟩ := hW
  refine ⟨ds, gs, before, [], pa, pv, hWhole, hres _ _ _, hargs _ hold, hvars _ hold, World.keptBut_mono (fun p hp => False.elim hp) hst.1, fun _ => ?_⟩
  refine ⟨hok, _, _, ([] ++ pa) ++ pv, ⟨[] ++ pa, pv, trodAll_append (hargs _ (fun _ _ => rfl)) (hres _ _ _), hvars _ (fun _ _ => rfl), rfl, ?_, ?_⟩, ?_⟩
  · intro b off hp
    have hm : MemPlace.cell b off ∈ before := by rw [hps]; simpa using hp
    have hb := hlt _ hm
    have := hst.2 ⟨b, off, none⟩ hb
    have hz' := hz b off hm
    first
      | exact this.trans hz'
      | (rw [hst.2 _ hb]; exact hz')
  · intro ha
    have := hn ha
    rw [hps] at this
    simpa using this
  · intro p hp _
    rw [hps]
    simpa using hp
end
structure Tab where
  g : Nat
  vs : List V
  e : Nat
structure Spot where
  cb : Nat
  off : Nat
  S : Nat
noncomputable def tabsT : List Tab → T Blk
  | [] => .leaf
  | t :: l => (tabsT l).set t.g ⟨Arr.ofList t.vs, 0, 0, true, t.e⟩
noncomputable def tabsH (n : Nat) (l : List Tab) : AH := ⟨n, n, tabsT l⟩
def tabOf (l : List Tab) (b : Nat) : Option Tab := l.find? fun t => t.g == b
def tabsRho (l : List Tab) (pl : Nat → Spot) : Rho := fun b L => match tabOf l b with
  | some t => if L = t.vs.length then some ((pl b).cb, -((pl b).off : Int), (pl b).S) else none
  | none => none
theorem tabsT_get : ∀ (l : List Tab) (b : Nat), (tabsT l).get b = (tabOf l b).map fun t => ⟨Arr.ofList t.vs, 0, 0, true, t.e⟩ := by
  intro l
  induction l with
  | nil => intro b; exact T.get_leaf b
  | cons t l ih =>
    intro b
    show ((tabsT l).set t.g _).get b = _
    rw [T.get_set, ih]
    unfold tabOf
    rw [List.find?_cons]
    by_cases h : b = t.g
    · subst h; simp
    · have : (t.g == b) = false := by simpa using fun e => h e.symm
      rw [if_neg h, this]
theorem tabOf_spec {l : List Tab} {b : Nat} {t : Tab} (h : tabOf l b = some t) : t ∈ l ∧ t.g = b := by
  unfold tabOf at h
  exact ⟨List.mem_of_find?_eq_some h, by simpa using List.find?_some h⟩
def Tab.Fits (t : Tab) (p : Spot) (W : World) : Prop := ∃ us lo hi, W.heap[p.cb]? = some (.cells us t.e (lo, hi)) ∧ us.size = p.S ∧ p.off + t.vs.length ≤ p.S ∧ ∀ ρ j v, t.vs[j]? = some v → ∃ u, us[p.off + j]? = some u ∧ R ρ v u
theorem tabsRho_inv {l : List Tab} {pl : Nat → Spot} {b L : Nat} {x : Nat × Int × Nat} (h : tabsRho l pl b L = some x) : ∃ t, tabOf l b = some t ∧ L = t.vs.length ∧ x = ((pl b).cb, -((pl b).off : Int), (pl b).S) := by
  unfold tabsRho at h
  split at h
  · rename_i t ht
    split at h
    · rename_i hL; cases h; exact ⟨t, ht, hL, rfl⟩
    · cases h
  · cases h
theorem tabsRho_of {l : List Tab} {pl : Nat → Spot} {b : Nat} {t : Tab} (h : tabOf l b = some t) : tabsRho l pl b t.vs.length = some ((pl b).cb, -((pl b).off : Int), (pl b).S) := by
  unfold tabsRho
  rw [h]
  simp
theorem tabsH_inv {n : Nat} {l : List Tab} {b : Nat} {k : Blk} (h : (tabsH n l).get b = some k) : ∃ t, tabOf l b = some t ∧ k = ⟨Arr.ofList t.vs, 0, 0, true, t.e⟩ := by
  have h' : (tabsT l).get b = some k := h
  rw [tabsT_get] at h'
  cases ht : tabOf l b with
  | none => rw [ht] at h'; cases h'
  | some t => rw [ht] at h'; exact ⟨t, rfl, (Option.some.inj h').symm⟩
theorem tabs_ro {n : Nat} {l : List Tab} : ∀ b k, (tabsH n l).get b = some k → k.ro = true := by
  intro b k h
  obtain ⟨t, _, rfl⟩ := tabsH_inv h
  rfl
theorem tabs_HR {n : Nat} {l : List Tab} {pl : Nat → Spot} {W : World} (hn : ∀ t ∈ l, t.g < n) (hf : ∀ t ∈ l, t.Fits (pl t.g) W) : HR (tabsRho l pl) (tabsH n l) W := by
  refine ⟨?_, ?_, ?_, ?_, ?_, ?_, fun b k hk ho => by obtain ⟨t, _, rfl⟩ := tabsH_inv hk; exact absurd (show 0 = 2 from ho.2) (by decide)⟩
  · intro b L x h
    obtain ⟨t, h1, _, _⟩ := tabsRho_inv h
    obtain ⟨h2, rfl⟩ := tabOf_spec h1
    exact hn t h2
  · intro b k h
    obtain ⟨t, h1, _⟩ := tabsH_inv h
    obtain ⟨h2, rfl⟩ := tabOf_spec h1
    exact hn t h2
  · intro b L cb x h
    obtain ⟨t, h1, _, h3⟩ := tabsRho_inv h
    cases h3
    obtain ⟨h2, rfl⟩ := tabOf_spec h1
    obtain ⟨us, lo, hi, g1, _⟩ := hf t h2
    exact (Array.getElem?_eq_some_iff.1 g1).1
  · intro b L b' L' cb x x' k _ _ hk hro
    rw [tabs_ro b k hk] at hro
    cases hro
  · intro b k L x hk h
    obtain ⟨t, h1, h2, _⟩ := tabsRho_inv h
    obtain ⟨t', h1', rfl⟩ := tabsH_inv hk
    rw [h1] at h1'
    cases h1'
    rw [Arr.ofList_n, h2]
    exact Nat.le_refl _
  · intro b k L cb sh S hk h _
    obtain ⟨t, h1, h2, h3⟩ := tabsRho_inv h
    cases h3
    obtain ⟨t', h1', rfl⟩ := tabsH_inv hk
    rw [h1] at h1'
    cases h1'
    obtain ⟨h4, rfl⟩ := tabOf_spec h1
    obtain ⟨us, lo, hi, g1, g2, g3, g4⟩ := hf t h4
    refine ⟨us, lo, hi, g1, g2, by omega, ?_, fun h5 => by cases h5⟩
    intro j v _ _ hv
    rw [Arr.get_ofList] at hv
    obtain ⟨u, q1, q2⟩ := g4 (tabsRho l pl) j v hv
    exact ⟨u, by rw [← q1]; congr 1; omega, q2⟩
theorem tab_fits {P : Program} {W : World} {name : String} {k : IntKind} {zs : List Int} {g : Nat} (h : Lib.TabIs P W name k zs) (hg : P.globalNamed name = some g) : ∃ e, Tab.Fits ⟨g, zs.map (V.int k), e⟩ ⟨g, 0, zs.length⟩ W := by
  unfold Lib.TabIs World.var? at h
  rw [hg] at h
  simp only [Option.bind_some] at h
  split at h
  · rename_i cs e fr hw
    obtain ⟨lo, hi⟩ := fr
    have hcs : cs = (zs.map fun z => Value.int k z).toArray := Option.some.inj h
    refine ⟨e, cs, lo, hi, hw, by rw [hcs]; simp, by simp, fun ρ j v hv => ?_⟩
    simp only [List.getElem?_map] at hv
    cases hz : zs[j]? with
    | none => rw [hz] at hv; cases hv
    | some z =>
      rw [hz] at hv
      cases hv
      refine ⟨.int k z, ?_, rfl⟩
      rw [hcs]
      simp only [Nat.zero_add, List.getElem?_toArray, List.getElem?_map, hz]
      rfl
  · cases h
structure Same (W w : World) : Prop where
  os : w.os = W.os
  tape : w.tape = W.tape
  output : w.output = W.output
  size : W.heap.size ≤ w.heap.size
  heap : ∀ i, i < W.heap.size → w.heap[i]? = W.heap[i]?
theorem Same.stays {W w : World} (h : Same W w) : Stays W w := ⟨keptBut_same h.os h.output h.heap, fun _ ha => frozen_same (h.heap _ ha)⟩
theorem Same.refl (W : World) : Same W W := ⟨rfl, rfl, rfl, Nat.le_refl _, fun _ _ => rfl⟩
theorem Same.trans {a b c : World} (x : Same a b) (y : Same b c) : Same a c := ⟨y.os.trans x.os, y.tape.trans x.tape, y.output.trans x.output, Nat.le_trans x.size y.size, fun i hi => (y.heap i (Nat.lt_of_lt_of_le hi x.size)).trans (x.heap i hi)⟩
theorem Step.same {ρ ρ' : Rho} {h h' : AH} {W w : World} (hs : Step ρ h W ρ' h' w) (hro : ∀ b k, h.get b = some k → k.ro = true) : Same W w :=
  ⟨hs.os, hs.tape, hs.output, hs.size, fun i hi => hs.keep i hi (by
    rintro ⟨b, L, x, k, _, hk, hr⟩
    rw [hro b k hk] at hr
    cases hr)⟩
theorem HR.same {ρ : Rho} {h : AH} {W w : World} (hr : HR ρ h W) (hs : Same W w) : HR ρ h w :=
  ⟨hr.fresh, hr.lives, fun b L cb x hx => Nat.lt_of_lt_of_le (hr.bound b L cb x hx) hs.size, hr.inj, hr.top, fun b k L cb sh S h1 h2 h3 => (hr.blk b k L cb sh S h1 h2 h3).mono (Rho.le_refl ρ) (hs.heap _ (hr.bound _ _ _ _ h2)), fun b k h1 ho => (hr.obj b k h1 ho).mono (Rho.le_refl ρ) fun cb S e => hs.heap _ (hr.bound _ _ _ _ e)⟩
theorem Same.step (ρ : Rho) (h : AH) {W w : World} (hs : Same W w) : Step ρ h W ρ h w :=
  ⟨Rho.le_refl ρ, fun b L c x hx _ => ⟨L, x, hx⟩, fun b k' hk' _ => ⟨k', hk', rfl⟩, Nat.le_refl _, hs.os, hs.tape, hs.output, hs.size, fun i hi _ => hs.heap i hi, Nat.le_refl _, fun _ _ _ => rfl, fun _ _ hb => ⟨hb, fun _ _ h => h⟩⟩
def isTrue (r : Option (V × AH)) : Bool := match r with | some (.bool true, _) => true | _ => false
theorem isTrue_spec {r : Option (V × AH)} (h : isTrue r = true) : ∃ h', r = some (.bool true, h') := by
  unfold isTrue at h
  split at h
  · rename_i h'; exact ⟨h', rfl⟩
  · cases h
end Go.Proofs.YtbchdbhojafpdaaGreatDoor.Ev
namespace Go.Proofs.YtbchdbhojafpdaaGreatDoor.Ev
open Go
theorem HR.drawn {ρ : Rho} {h : AH} {w : World} (hr : HR ρ h w) : HR ρ h { w with drawn := w.drawn + 1 } := ⟨hr.fresh, hr.lives, hr.bound, hr.inj, hr.top, fun b k L cb sh S h1 h2 h3 => (hr.blk b k L cb sh S h1 h2 h3).mono (Rho.le_refl ρ) rfl, fun b k h1 ho => (hr.obj b k h1 ho).mono (Rho.le_refl ρ) fun _ _ _ => rfl⟩
theorem Step.drawn (ρ : Rho) (h : AH) (w : World) : Step ρ h w ρ h { w with drawn := w.drawn + 1 } := ⟨Rho.le_refl ρ, fun b L c x hx _ => ⟨L, x, hx⟩, fun b k' hk' _ => ⟨k', hk', rfl⟩, Nat.le_refl _, rfl, rfl, rfl, Nat.le_refl _, fun _ _ _ => rfl, Nat.le_refl _, fun _ _ _ => rfl, fun _ _ hb => ⟨hb, fun _ _ h => h⟩⟩
noncomputable def manyStep (since last : Nat) (seen : List Nat) (l : List (V × V × Nat)) : Option (List (V × V × Nat)) :=
  if (!seen.isEmpty && !l.isEmpty && l.all (fun x => Nat.ble last x.2.2)) = true then none else
  match (l.filter fun x => !seen.contains x.2.2).filter (fun x => Nat.blt x.2.2 since), (l.filter fun x => !seen.contains x.2.2).filter (fun x => Nat.ble since x.2.2) with
  | a :: b :: cs, [] => some (a :: b :: cs)
  | _, _ => none
theorem manyStep_sound {ρ : Rho} {l : List (V × V × Nat)} {es : Array MapEntry} (hE : Ent ρ l es.toList) {since last : Nat} {seen : Array Nat} {cs : List (V × V × Nat)} (h : manyStep since last seen.toList l = some cs) :
    (!seen.isEmpty && !es.isEmpty && es.all (fun e => decide (e.born ≥ last))) = false ∧
    ∃ E : List MapEntry, Ent ρ cs E ∧ 2 ≤ E.length ∧ (if ((es.filter fun e => !seen.contains e.born).filter fun e => decide (e.born < since)).isEmpty = true then #[none] else #[]) ++ (((es.filter fun e => !seen.contains e.born).filter fun e => decide (e.born < since)) ++ ((es.filter fun e => !seen.contains e.born).filter fun e => decide (e.born ≥ since))).map some = (E.map some).toArray := by
  unfold manyStep at h
  have e1 : l.isEmpty = es.isEmpty := by rw [hE.empty, ← Array.isEmpty_toList]
  have e2 : l.all (fun x => Nat.ble last x.2.2) = es.all (fun e => decide (e.born ≥ last)) := by
    rw [hE.all (q := fun e => decide (e.born ≥ last)) (fun x e hx => by rw [hx, ble_dec]), ← Array.all_toList]
  have e3 : seen.toList.isEmpty = seen.isEmpty := Array.isEmpty_toList
  rw [e1, e2, e3] at h
  have f0 := hE.filter (p := fun x => !seen.toList.contains x.2.2) (q := fun e => !seen.contains e.born) (fun x e hx => by rw [hx]; simp)
  have f1 := f0.filter (p := fun x => Nat.blt x.2.2 since) (q := fun e => decide (e.born < since)) (fun x e hx => by rw [hx, Arr.blt_eq])
  have f2 := f0.filter (p := fun x => Nat.ble since x.2.2) (q := fun e => decide (e.born ≥ since)) (fun x e hx => by rw [hx, ble_dec])
  replace f1 : Ent ρ ((l.filter fun x => !seen.toList.contains x.2.2).filter fun x => Nat.blt x.2.2 since) ((es.filter fun e => !seen.contains e.born).filter fun e => decide (e.born < since)).toList := by
    rw [Array.toList_filter, Array.toList_filter]; exact f1
  replace f2 : Ent ρ ((l.filter fun x => !seen.toList.contains x.2.2).filter fun x => Nat.ble since x.2.2) ((es.filter fun e => !seen.contains e.born).filter fun e => decide (e.born ≥ since)).toList := by
    rw [Array.toList_filter, Array.toList_filter]; exact f2
  revert h f1 f2
  generalize ((es.filter fun e => !seen.contains e.born).filter fun e => decide (e.born < since)) = A
  generalize ((es.filter fun e => !seen.contains e.born).filter fun e => decide (e.born ≥ since)) = B
  generalize ((l.filter fun x => !seen.toList.contains x.2.2).filter fun x => Nat.blt x.2.2 since) = a
  generalize ((l.filter fun x => !seen.toList.contains x.2.2).filter fun x => Nat.ble since x.2.2) = b
  intro h f1 f2
  split at h
  · cases h
  · rename_i hc
    refine ⟨by simpa using hc, ?_⟩
    split at h
    · rename_i x y zs
      cases h
      have hB : B = #[] := Array.ext' (by simpa using f2.nil)
      subst hB
      obtain ⟨E⟩ := A
      refine ⟨E, f1, ?_, ?_⟩
      · match E, f1 with
        | _ :: _ :: _, _ => simp
      · match E, f1 with
        | p :: q :: E, _ => simp
    · cases h
theorem Ent.get {ρ : Rho} : ∀ {l : List (V × V × Nat)} {E : List MapEntry}, Ent ρ l E → ∀ {i : Nat}, i < E.length → ∃ x e, x ∈ l ∧ E[i]? = some e ∧ R ρ x.1 e.key ∧ R ρ x.2.1 e.val ∧ x.2.2 = e.born
  | [], [], _, i, hi => by simp at hi
  | x :: l, e :: E, ⟨h1, h2, h3, h4⟩, i, hi => by
    cases i with
    | zero => exact ⟨x, e, by simp, rfl, h1, h2, h3⟩
    | succ i =>
      obtain ⟨x', e', g1, g2⟩ := h4.get (i := i) (by simpa using hi)
      exact ⟨x', e', by simp [g1], by simpa using g2.1, g2.2⟩
noncomputable def nextL (x : V) (h : AH) : Option (List (V × AH)) :=
  match x with
  | .ptr a => if a.L = 0 ∧ a.o = 0 then
      match iterOf h a.b with
      | some (.mapv b, since, sv, last) =>
        match mapOf h b, natsV sv with
        | some (.int .i64 (.ofNat clock), data), some seen =>
          match trip data with
          | some l => (manyStep since last seen l).map fun cs => cs.map fun x => (.tuple [.bool true, x.1, x.2.1], h.put a.b (Blk.obj 3 [.mapv b, .int .i64 (.ofNat since), .tuple (sv ++ [.int .i64 (.ofNat x.2.2)]), .int .i64 (.ofNat clock)]))
          | none => none
        | _, _ => none
      | _ => none
    else none
  | _ => none
theorem run_mapNext {P : Program} {w : World} {n : Nat} (hn : 2 ≤ n) : ∃ i, i < n ∧ (choose (.mapNext n)).run P w = .ok i { w with drawn := w.drawn + 1 } := by
  refine ⟨w.tape w.drawn (.mapNext n) % n, Nat.mod_lt _ (by omega), ?_⟩
  have hf : (Question.mapNext n).forced = false := by simp [Question.forced]; omega
  simp [choose, Sem.run, hf, Question.cut]
theorem nextL_sound {P : Program} {ρ : Rho} {h : AH} {w : World} {ty : TypeId} {x : V} {a : Value} {l : List (V × AH)} (hr : HR ρ h w) (hx : R ρ x a) (hs : nextL x h = some l) : ∃ q ∈ l, Sim P ρ h w (Instr.next a false ty) q.1 q.2 := by
  unfold nextL at hs
  split at hs
  · rename_i q
    split at hs
    · rename_i hq
      obtain ⟨c, rfl, cb', sh, S', g1, g2, g3⟩ := hx
      split at hs
      · rename_i b since sv last hi
        obtain ⟨k, cb, S, m, seen, q1, q2, q3, q4, q5, q6⟩ := iterOf_spec hr hi
        rw [hq.1, q3] at g1
        cases g1
        rw [hq.2] at g3
        have hcc : c = ⟨cb', 0, none⟩ := by rw [g3]; rfl
        subst hcc
        obtain ⟨mb, Sm, hm, hρm⟩ := q6
        cases hm
        split at hs
        · rename_i clock data seen' hmo hsv
          rw [q5, natsV_of] at hsv
          cases hsv
          obtain ⟨kb, cb2, S2, es, clock', p1, p2, p3, p4, p5, p6⟩ := mapOf_spec hr hmo
          rw [hρm] at p3
          cases p3
          have hcl : clock' = clock := by
            have h6 : Value.int .i64 (clock' : Int) = .int .i64 (Int.ofNat clock) := p5
            exact Int.ofNat.inj (Value.int.inj h6).2
          subst hcl
          split at hs
          · rename_i l' ht
            obtain ⟨cs, hst, hl⟩ := map_some' hs
            subst hl
            obtain ⟨c1, E, hE, hlen, c2⟩ := manyStep_sound (trip_ent p6 ht) hst
            obtain ⟨i, hi1, hi2⟩ := run_mapNext (P := P) (w := w) (n := E.length) hlen
            obtain ⟨y, e, y1, y2, y3, y4, y5⟩ := hE.get hi1
            refine ⟨_, List.mem_map.2 ⟨y, y1, rfl⟩, ?_⟩
            have hr' := hr.drawn
            have hst' := Step.drawn ρ h w
            have hnew : ObjOK ρ 3 [.mapv b, .int .i64 (.ofNat since), .tuple (sv ++ [.int .i64 (.ofNat y.2.2)]), .int .i64 (.ofNat clock')] (some (.mapIter (some mb) since (seen.push e.born) clock')) :=
              ⟨some mb, since, seen.push e.born, clock', .mapv b, rfl, by rw [q5, y5, Array.toList_push, List.map_append]; rfl, mb, Sm, rfl, hρm⟩
            obtain ⟨o1, o2⟩ := obj_set hr' q1 q2 q3 3 _ _ hnew
            refine ⟨.tuple #[.bool true, e.key, e.val], _, ρ, ?_, ⟨_, rfl, RL_cons.2 ⟨rfl, RL_cons.2 ⟨y3, RL_cons.2 ⟨y4, RL_nil⟩⟩⟩⟩, o1, Step.trans hr hst' o2⟩
            unfold Instr.next
            simp only [Sem.run_bind, run_getIter q4, run_getMap p4, Result.andThen_ok, c1, Bool.false_eq_true, if_false, c2]
            have hsz : (E.map some).toArray.size = E.length := by simp
            have hget : (E.map some).toArray[i]? = some (some e) := by simp [y2]
            rw [hsz, hi2]
            simp only [Result.andThen_ok, hget]
            have hset := run_setIter (P := P) (w := { w with drawn := w.drawn + 1 }) (.mapIter (some mb) since (seen.push e.born) clock') q4
            simp only [Sem.run_bind, hset, Result.andThen_ok, Sem.run_pure]
          · cases hs
        · cases hs
      · cases hs
    · cases hs
  · cases hs
theorem nextL_astep {x : V} {h : AH} {l : List (V × AH)} (hs : nextL x h = some l) : ∀ q ∈ l, AStep h q.2 := by
  unfold nextL at hs
  split at hs
  · split at hs
    · split at hs
      · rename_i hi
        split at hs
        · split at hs
          · obtain ⟨cs, _, hl⟩ := map_some' hs
            subst hl
            intro q hq
            obtain ⟨y, _, rfl⟩ := List.mem_map.1 hq
            exact AStep.put _ _ _ (iterOf_isSome hi)
          · cases hs
        · cases hs
      · cases hs
    · cases hs
  · cases hs
def alikeH (h h' : AH) : Bool := Nat.beq h.next h'.next && (Nat.beq h.low h'.low && alikeT alikeB h.m h'.m)
theorem alikeH_eq {h h' : AH} (ha : alikeH h h' = true) : h = h' := by
  unfold alikeH at ha
  simp only [Bool.and_eq_true, Nat.beq_eq] at ha
  obtain ⟨a, b, m⟩ := h
  obtain ⟨a', b', m'⟩ := h'
  obtain ⟨h1, h2, h3⟩ := ha
  have h4 := alikeT_eq (fun _ _ => alikeB_eq) _ _ h3
  simp only at h1 h2 h4
  subst h1; subst h2; subst h4
  rfl
def alikeQ : Res → Res → Bool
  | some (v, h), some (v', h') => alikeV v v' && alikeH h h'
  | _, _ => false
theorem alikeQ_eq {x y : Res} {r : V × AH} (h : alikeQ x y = true) (hy : y = some r) : x = some r := by
  subst hy
  cases x with
  | none => cases h
  | some p =>
    obtain ⟨v, m⟩ := p
    obtain ⟨v', m'⟩ := r
    unfold alikeQ at h
    rw [Bool.and_eq_true] at h
    rw [alikeV_eq _ _ h.1, alikeH_eq h.2]
noncomputable def joinK (K : V × AH → Res) (p : V × AH) (ps : List (V × AH)) : Res := (fun r => bif ps.all (fun q => alikeQ (K q) r) then r else none) (K p)
theorem joinK_some {K : V × AH → Res} {p : V × AH} {ps : List (V × AH)} {r : V × AH} (h : joinK K p ps = some r) : ∀ q ∈ p :: ps, K q = some r := by
  unfold joinK at h
  simp only at h
  cases ha : ps.all (fun q => alikeQ (K q) (K p)) with
  | false => rw [ha] at h; cases h
  | true =>
    rw [ha] at h
    intro q hq
    rcases List.mem_cons.1 hq with rfl | hq
    · exact h
    · exact alikeQ_eq (List.all_eq_true.1 ha q hq) h
mutual
def refsV : V → List Nat
  | .ptr a => [a.b]
  | .slice a _ _ _ _ => [a.b]
  | .func _ x y => refsL x ++ refsL y
  | .iface _ v => refsV v
  | .agg x => refsL x
  | .tuple x => refsL x
  | .mapv b => [b]
  | .yield b => [b]
  | _ => []
def refsL : List V → List Nat
  | [] => []
  | x :: l => refsV x ++ refsL l
end
noncomputable def refsB (k : Blk) : List Nat := refsL k.cells.z ++ (List.range k.cells.n).flatMap fun i => match k.cells.get i with
  | some v => refsV v
  | none => []
noncomputable def keepN (base : Nat) (h : AH) : Nat → List Nat → T Blk → T Blk
  | 0, _, t => t
  | _ + 1, [], t => t
  | n + 1, b :: l, t => bif Nat.blt b base then keepN base h n l t else match t.get b with
    | some _ => keepN base h n l t
    | none => match h.get b with
      | some k => keepN base h n (refsB k ++ l) (t.set b k)
      | none => keepN base h n l t
theorem keepN_old {base : Nat} {h : AH} : ∀ (n : Nat) (l : List Nat) (t : T Blk) (b : Nat), b < base → (keepN base h n l t).get b = t.get b
  | 0, _, _, _, _ => rfl
  | _ + 1, [], _, _, _ => rfl
  | n + 1, b' :: l, t, b, hb => by
    unfold keepN
    cases hlt : Nat.blt b' base with
    | true => exact keepN_old n l t b hb
    | false =>
      simp only [cond_false]
      split
      · exact keepN_old n l t b hb
      · split
        · rw [keepN_old n _ _ b hb, T.get_set, if_neg]
          rintro rfl
          rw [Arr.blt_eq, decide_eq_false_iff_not] at hlt
          omega
        · exact keepN_old n l t b hb
theorem keepN_get {base : Nat} {h : AH} : ∀ (n : Nat) (l : List Nat) (t : T Blk), (∀ b k, t.get b = some k → h.get b = some k) → ∀ b k, (keepN base h n l t).get b = some k → h.get b = some k
  | 0, _, _, ht, b, k, hk => ht b k hk
  | _ + 1, [], _, ht, b, k, hk => ht b k hk
  | n + 1, b' :: l, t, ht, b, k, hk => by
    unfold keepN at hk
    cases hlt : Nat.blt b' base with
    | true => rw [hlt] at hk; exact keepN_get n l t ht b k hk
    | false =>
      rw [hlt] at hk
      simp only [cond_false] at hk
      split at hk
      · exact keepN_get n l t ht b k hk
      · split at hk
        · rename_i k' hk'
          refine keepN_get n _ _ (fun b2 k2 h2 => ?_) b k hk
          rw [T.get_set] at h2
          split at h2
          · cases h2; subst_vars; exact hk'
          · exact ht b2 k2 h2
        · exact keepN_get n l t ht b k hk
noncomputable def unionT {α : Type} : T α → T α → T α
  | .leaf, t => t
  | .node l v r, .leaf => .node l v r
  | .node l v r, .node l' v' r' => .node (unionT l l') (v.or v') (unionT r r')
theorem unionT_getP {α : Type} : ∀ (p : List Bool) (a b : T α), T.getP p (unionT a b) = (T.getP p a).or (T.getP p b)
  | p, .leaf, t => by unfold unionT; rw [T.getP_leaf]; simp
  | p, .node l v r, .leaf => by
    unfold unionT
    rw [T.getP_leaf]
    simp
  | [], .node l v r, .node l' v' r' => by
    unfold unionT
    rw [T.getP_nil, T.getP_nil, T.getP_nil]
  | c :: p, .node l v r, .node l' v' r' => by
    unfold unionT
    rw [T.getP_cons, T.getP_cons, T.getP_cons]
    cases c
    · exact unionT_getP p l l'
    · exact unionT_getP p r r'
theorem unionT_get {α : Type} (a b : T α) (i : Nat) : (unionT a b).get i = (a.get i).or (b.get i) := unionT_getP _ a b
noncomputable def gcI (h0 : AH) (v : V) (h : AH) : AH := ⟨h.next, h0.low, keepN h0.next h 100000 (refsV v) .leaf⟩
noncomputable def gcU (h0 h : AH) : AH := ⟨h.next, h.low, unionT h.m h0.m⟩
noncomputable def gcR (h0 : AH) (r : Res) : Res := match r with
  | some (v, h) => if Nat.ble h0.next h.low = true then some (v, gcI h0 v h) else none
  | none => none
noncomputable def gcO (h0 : AH) (r : Res) : Res := match r with
  | some (v, h) => some (v, gcU h0 h)
  | none => none
theorem gcR_some {h0 h' : AH} {r : Res} {v : V} (h : gcR h0 r = some (v, h')) : ∃ h1, r = some (v, h1) ∧ h0.next ≤ h1.low ∧ h' = gcI h0 v h1 := by
  unfold gcR at h
  split at h
  · split at h
    · rename_i hb
      cases h
      exact ⟨_, rfl, Nat.le_of_ble_eq_true hb, rfl⟩
    · cases h
  · cases h
theorem gcO_some {h0 h' : AH} {r : Res} {v : V} (h : gcO h0 r = some (v, h')) : ∃ h1, r = some (v, h1) ∧ h' = gcU h0 h1 := by
  unfold gcO at h
  split at h
  · cases h; exact ⟨_, rfl, rfl⟩
  · cases h
theorem gcU_get (h h2 : AH) (v : V) (b : Nat) : (gcU h (gcI h v h2)).get b = ((keepN h.next h2 100000 (refsV v) .leaf).get b).or (h.get b) := unionT_get _ _ _
theorem gcU_keep {h h2 : AH} {v : V} {b : Nat} (hb : b < h.next) : (gcU h (gcI h v h2)).get b = h.get b := by
  rw [gcU_get, keepN_old 100000 (refsV v) .leaf b hb, T.get_leaf]
  simp
theorem gc_sound {ρ ρ' : Rho} {h h2 : AH} {w w' : World} {v : V} (hr : HR ρ h w) (hl : h.next ≤ h2.low) (h1 : HR ρ' h2 w') (hs : Step ρ ⟨h.next, h.next, h.m⟩ w ρ' h2 w') : HR ρ' (gcU h (gcI h v h2)) w' ∧ Step ρ h w ρ' (gcU h (gcI h v h2)) w' := by
  have hold : ∀ b k, h.get b = some k → h2.get b = some k := fun b k hk => by
    have hb : b < h.next := hr.lives b k hk
    rw [hs.quiet b (Nat.lt_of_lt_of_le hb hl) hb]
    exact hk
  have hget : ∀ b k, (gcU h (gcI h v h2)).get b = some k → h2.get b = some k := fun b k hk => by
    rw [gcU_get] at hk
    cases hq : (keepN h.next h2 100000 (refsV v) .leaf).get b with
    | some k' =>
      rw [hq] at hk
      have hk2 : k' = k := by simpa using hk
      rw [← hk2]
      exact keepN_get 100000 (refsV v) .leaf (fun b k h0 => by rw [T.get_leaf] at h0; cases h0) b _ hq
    | none =>
      rw [hq] at hk
      exact hold b k (by simpa using hk)
  refine ⟨h1.forget rfl hget, ⟨hs.le, hs.cons, fun b k' hk' hb => hs.ro b k' (hget b k' hk') hb, hs.next, hs.os, hs.tape, hs.output, hs.size, fun i hi hn => hs.keep i hi ?_, Nat.le_refl _, fun b _ hb => gcU_keep hb, fun b hb hn => ⟨by rw [gcU_keep hb]; exact hn, (hs.abs b hb hn).2⟩⟩⟩
  rintro ⟨b, L, x, k, e1, e2, e3⟩
  exact hn ⟨b, L, x, k, e1, e2, e3⟩
theorem gc_astep {h h2 : AH} {v : V} (hl : h.next ≤ h2.low) (hs : AStep ⟨h.next, h.next, h.m⟩ h2) : AStep h (gcU h (gcI h v h2)) :=
  ⟨hs.next, Nat.le_refl _, fun b _ hb => gcU_keep hb, fun b hb hn => by rw [gcU_keep hb]; exact hn⟩
end Go.Proofs.YtbchdbhojafpdaaGreatDoor.Ev
