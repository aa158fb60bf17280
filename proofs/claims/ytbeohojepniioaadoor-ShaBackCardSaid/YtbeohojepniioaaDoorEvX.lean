/-
  append and copy: what the own machine makes of them is what the model makes. No program in sight. No condition.
-/
import Derived.Test.YtbeohojepniioaaDoorEvW
set_option linter.unusedVariables false
set_option linter.unusedSimpArgs false
namespace Go.Proofs.YtbeohojepniioaaDoor.Ev
open Go

theorem toNat_00 : (((0 : Nat) : Int) - 0).toNat = 0 := rfl
theorem toNat_oo (o : Nat) : ((o : Int) - (o : Int)).toNat = 0 := by simp

/-- The cells that an operand hands to append or copy: how many elements it has; the cells of the first n. -/
def srcLen (x : V) : Option Nat :=
  match x with
  | .nilslice => some 0
  | .loose => some 0
  | .slice _ n _ _ _ => some n
  | .str s => some s.length
  | _ => none
noncomputable def srcCells (x : V) (size n : Nat) (h : AH) : Option (List V) :=
  match x with
  | .nilslice => some []
  | .loose => some []
  | .slice a _ _ _ _ => if n = 0 then some [] else readN h a (n * size)
  | .str s => some ((s.take n).map byteV)
  | _ => none
theorem srcLen_sound {P : Program} {ρ : Rho} {x : V} {a : Value} {n : Nat} (hx : R ρ x a) (h : srcLen x = some n) (w : World) : (Builtin.lenOf a).run P w = .ok n w := by
  unfold srcLen at h
  split at h
  · cases h; rw [show a = _ from hx]; rfl
  · cases h; obtain ⟨_, _, rfl⟩ := hx; rfl
  · cases h; obtain ⟨_, _, _, _, rfl, _⟩ := hx; rfl
  · cases h; obtain ⟨t, rfl, rfl⟩ := hx; simp [Builtin.lenOf]
  · cases h
theorem cell_of_heap {w w0 : World} (h : w0.heap = w.heap) (a : Addr) : w0.cell? a = w.cell? a := by unfold World.cell?; rw [h]
theorem srcCells_sound {P : Program} {ρ : Rho} {h : AH} {w : World} {x : V} {a : Value} {m n size : Nat} {vs : List V} (hr : HR ρ h w) (hx : R ρ x a) (hm : srcLen x = some m) (hn : n ≤ m) (hs : srcCells x size n h = some vs) :
    ∃ us : List Value, RL ρ vs us ∧ ∀ w0 : World, w0.heap = w.heap → (Builtin.firstCells size n a).run P w0 = .ok us.toArray w0 := by
  unfold srcCells at hs
  split at hs
  · cases hs; rw [show a = _ from hx]; exact ⟨[], rfl, fun _ _ => rfl⟩
  · cases hs
    cases hm
    obtain ⟨c, cc, rfl⟩ := hx
    have hn0 : n = 0 := by omega
    subst hn0
    refine ⟨[], rfl, fun w0 _ => ?_⟩
    have := run_loadCells_list (P := P) (w := w0) c [] (by simp)
    simp only [List.length_nil] at this
    simp [Builtin.firstCells, this]
  · rename_i p k _ _ _
    obtain ⟨cb, sh, S, cc, rfl, h1, h2, _⟩ := hx
    split at hs
    · rename_i hn0
      cases hs
      subst hn0
      refine ⟨[], rfl, fun w0 _ => ?_⟩
      have := run_loadCells_list (P := P) (w := w0) (⟨cb, ((p.o : Int) - sh).toNat, none⟩) [] (by simp)
      simp only [List.length_nil] at this
      simp [Builtin.firstCells, this]
    · obtain ⟨us, hlen, hR, hcell⟩ := read_sound hr ⟨cb, sh, S, h1, h2, rfl⟩ hs
      refine ⟨us, hR, fun w0 h0 => ?_⟩
      have hl := run_loadCells_list (P := P) (w := w0) _ us (fun j u hu => (cell_of_heap h0 _).trans (hcell j u hu))
      rw [hlen] at hl
      simp [Builtin.firstCells, hl]
  · rename_i s
    cases hs
    obtain ⟨t, rfl, rfl⟩ := hx
    refine ⟨(t.data.toList.take n).map fun b => Value.int .u8 b.toNat, ?_, fun w0 _ => ?_⟩
    · have := byteV_RL ρ (t.data.toList.take n)
      rw [List.map_take] at this
      exact this
    · simp only [Builtin.firstCells, Sem.run_pure]
      congr 1
      apply Array.ext'
      simp [ByteArray.data_extract]
  · cases hs

theorem growBy_le (n : Nat) : ∀ (r c : Nat), c < n → Builtin.growBy n r c ≤ 2 * n + 192 := by
  intro r
  induction r with
  | zero => intro c h; simp only [Builtin.growBy]; omega
  | succ r ih =>
    intro c h
    simp only [Builtin.growBy]
    rw [if_neg (by omega)]
    by_cases h2 : c + (c + 768) / 4 < n
    · exact ih _ h2
    · cases r with
      | zero => simp only [Builtin.growBy]; omega
      | succ r => simp only [Builtin.growBy]; rw [if_pos (by omega)]; omega
theorem nextcap_le {n c : Nat} (h : c < n) : Builtin.nextslicecap n c ≤ 2 * n + 192 := by
  unfold Builtin.nextslicecap
  split
  · omega
  · split
    · omega
    · exact growBy_le n 4 c h
theorem zeroCells_size (z : Array Value) (n : Nat) : (Builtin.zeroCells z n).size = n * z.size := by simp [Builtin.zeroCells]

/-- The grown end of the model's append: a new row. -/
theorem append_grown {P : Program} {w : World} {t xt ty e : TypeId} {i : TypeInfo} {z : Value} {base : Option Addr} {sn cc n : Nat} {x : Value} {old new : List Value} (hu : P.underlying t = some (.slice e)) (hx : ∀ k, P.underlying xt ≠ some (.int k)) (hxu : (P.underlying xt).isSome = true) (hi : P.info? e = some i) (hz : i.zero = some z)
    (hlen : (Builtin.lenOf x).run P w = .ok n w) (hold : ∀ w0 : World, w0.heap = w.heap → (Builtin.firstCells i.size sn (.slice base sn cc)).run P w0 = .ok old.toArray w0) (hnew : ∀ w0 : World, w0.heap = w.heap → (Builtin.firstCells i.size n x).run P w0 = .ok new.toArray w0)
    (hneed : cc < sn + n) (hmax : sn + n ≤ 4611686018427387904) (hb : (2 * (sn + n) + 192) * i.bytes ≤ 281474976710656) :
    ∃ c, sn + n ≤ c ∧ (Builtin.append_ #[t, xt] ty #[.slice base sn cc, x]).run P w =
      .ok (.slice (some ⟨w.heap.size, 0, none⟩) (sn + n) c) { w with heap := w.heap.push (.cells (old ++ new ++ (Builtin.zeroCells z.cells (c - (sn + n))).toList).toArray e), drawn := w.drawn + 1 } := by
  obtain ⟨c, hc, hle⟩ := run_chooseCap P w (sn + n) cc e
  refine ⟨c, hle, ?_⟩
  obtain ⟨xd, hxd⟩ := Option.isSome_iff_exists.1 hxu
  have hnx : ∀ k, xd ≠ .int k := fun k hk => hx k (by rw [hxd, hk])
  have hsz : (sizeOf e).run P w = .ok i.size w := by simp [sizeOf, typeInfo, hi]
  unfold Builtin.append_
  simp only [List.getElem?_toArray, List.getElem?_cons_zero, List.getElem?_cons_succ, Sem.run_bind, run_underlying hu, Result.andThen_ok, hsz, run_underlying hxd]
  have hm : (match xd with | .int k => true | _ => false) = false := by cases xd <;> first | rfl | exact absurd rfl (hnx _)
  have hn1 : ¬ sn + n ≤ cc := by omega
  have hmul : Builtin.nextslicecap (sn + n) cc * i.bytes ≤ 281474976710656 := Nat.le_trans (Nat.mul_le_mul_right _ (nextcap_le hneed)) hb
  have h63 : ¬ ((sn + n : Nat) : Int) > IntKind.i64.max := by simp [IntKind.max, IntKind.bits, IntKind.signed]; omega
  have hti : ∀ w0 : World, (typeInfo e).run P w0 = .ok i w0 := fun w0 => by simp [typeInfo, hi]
  have hzv : ∀ w0 : World, (zeroValue e).run P w0 = .ok z w0 := fun w0 => by simp [zeroValue, typeInfo, hi, hz]
  have hcap : ¬ Builtin.nextslicecap (sn + n) cc * i.bytes > 2 ^ 48 := by omega
  simp only [Sem.run_pure, Result.andThen_ok, Bool.false_eq_true, if_false, Sem.run_bind, hlen, hn1, hti, h63, false_and, hcap, hc, run_askRoom]
  rw [hold { w with drawn := w.drawn + 1 } rfl]
  simp only [Result.andThen_ok, Bool.not_false, if_true]
  rw [hnew { w with drawn := w.drawn + 1 } rfl]
  simp only [Result.andThen_ok, hzv, run_newRow]
  have he : old.toArray ++ new.toArray ++ Builtin.zeroCells z.cells (c - (sn + n)) = (old ++ new ++ (Builtin.zeroCells z.cells (c - (sn + n))).toList).toArray := by
    apply Array.ext'; simp
  rw [he]

/-- The model's append where there is room. -/
theorem append_room {P : Program} {w w' : World} {t xt ty e : TypeId} {i : TypeInfo} {a : Addr} {sn cc n : Nat} {x : Value} {new : List Value} (hu : P.underlying t = some (.slice e)) (hx : ∀ k, P.underlying xt ≠ some (.int k)) (hxu : (P.underlying xt).isSome = true) (hi : P.info? e = some i)
    (hlen : (Builtin.lenOf x).run P w = .ok n w) (hnew : (Builtin.firstCells i.size n x).run P w = .ok new.toArray w) (hneed : sn + n ≤ cc) (hst : (storeCells (a.add (sn * i.size)) new).run P w = .ok () w') :
    (Builtin.append_ #[t, xt] ty #[.slice (some a) sn cc, x]).run P w = .ok (.slice (some a) (sn + n) cc) w' := by
  obtain ⟨xd, hxd⟩ := Option.isSome_iff_exists.1 hxu
  have hnx : ∀ k, xd ≠ .int k := fun k hk => hx k (by rw [hxd, hk])
  have hsz : (sizeOf e).run P w = .ok i.size w := by simp [sizeOf, typeInfo, hi]
  unfold Builtin.append_
  simp only [List.getElem?_toArray, List.getElem?_cons_zero, List.getElem?_cons_succ, Sem.run_bind, run_underlying hu, Result.andThen_ok, hsz, run_underlying hxd]
  simp only [Sem.run_pure, Result.andThen_ok, Bool.false_eq_true, if_false, Sem.run_bind, hlen, hneed, if_true, Bool.not_false, hnew, hst]
theorem append_nothing {P : Program} {w : World} {t xt ty e : TypeId} {i : TypeInfo} {cc : Nat} {x : Value} {new : List Value} (hu : P.underlying t = some (.slice e)) (hx : ∀ k, P.underlying xt ≠ some (.int k)) (hxu : (P.underlying xt).isSome = true) (hi : P.info? e = some i)
    (hlen : (Builtin.lenOf x).run P w = .ok 0 w) (hnew : (Builtin.firstCells i.size 0 x).run P w = .ok new.toArray w) :
    (Builtin.append_ #[t, xt] ty #[.slice none 0 cc, x]).run P w = .ok (.slice none 0 cc) w := by
  obtain ⟨xd, hxd⟩ := Option.isSome_iff_exists.1 hxu
  have hnx : ∀ k, xd ≠ .int k := fun k hk => hx k (by rw [hxd, hk])
  have hsz : (sizeOf e).run P w = .ok i.size w := by simp [sizeOf, typeInfo, hi]
  unfold Builtin.append_
  simp only [List.getElem?_toArray, List.getElem?_cons_zero, List.getElem?_cons_succ, Sem.run_bind, run_underlying hu, Result.andThen_ok, hsz, run_underlying hxd]
  simp only [Sem.run_pure, Result.andThen_ok, Bool.false_eq_true, if_false, Sem.run_bind, hlen, Nat.zero_le, Nat.add_zero, if_true, Bool.not_false, hnew]

/-- Does append's second operand bear elements (no count)? -/
def rowLike (P : Program) (xt : TypeId) : Bool :=
  match P.underlying xt with
  | some (.int _) => false
  | some _ => true
  | none => false
theorem rowLike_spec {P : Program} {xt : TypeId} (h : rowLike P xt = true) : (∀ k, P.underlying xt ≠ some (.int k)) ∧ (P.underlying xt).isSome = true := by
  unfold rowLike at h
  split at h
  · cases h
  · rename_i d hd hu; exact ⟨fun k hk => by rw [hu] at hk; cases hk; exact hd _ rfl, by rw [hu]; rfl⟩
  · cases h
def capOk (P : Program) (e : TypeId) (need : Nat) : Bool := Nat.ble need 4611686018427387904 && Nat.ble (Nat.mul (Nat.add (Nat.mul 2 need) 192) (P.bytesOf e)) 281474976710656
/-- append: t: the slice's type; xt: the second operand's. -/
noncomputable def absAppend (P : Program) (t xt : TypeId) (s x : V) (h : AH) : Option (V × AH) :=
  match P.underlying t with
  | some (.slice e) =>
    if rowLike P xt = true ∧ (zeroOf P e).isSome = true ∧ 0 < P.cellsOf e then
      match srcLen x with
      | none => none
      | some n =>
        match srcCells x (P.cellsOf e) n h with
        | none => none
        | some new =>
          if new.length = n * P.cellsOf e then
          match s with
          | .nilslice =>
            if n = 0 then some (.nilslice, h)
            else if capOk P e n = true ∧ new.all V.cell = true then some (.slice ⟨h.next, new.length, 0⟩ n n false (P.cellsOf e), h.add ⟨Arr.ofList new, 0, 0, false, e⟩)
            else none
          | .loose => if n = 0 then some (.loose, h) else none
          | .slice a sn cap ex z =>
            if z = P.cellsOf e then
              if sn + n ≤ cap then
                if n = 0 then some (.slice a sn cap ex z, h)
                else (writeN h ⟨a.b, a.L, a.o + sn * z⟩ new).map fun h' => (.slice a (sn + n) cap ex z, h')
              else if capOk P e (sn + n) = true ∧ new.all V.cell = true then
                if ex then
                  match readN h a (sn * z) with
                  | some old => if old.all V.cell = true then some (.slice ⟨h.next, (old ++ new).length, 0⟩ (sn + n) (sn + n) false z, h.add ⟨Arr.ofList (old ++ new), 0, 0, false, e⟩) else none
                  | none => none
                else
                  match h.get a.b with
                  | some k =>
                    if a.L = k.cells.n ∧ a.o + sn * z = a.L ∧ k.ro = false ∧ k.minL ≤ a.L ∧ k.fz ≤ a.L ∧ k.e = e then some (.slice ⟨a.b, a.L + new.length, a.o⟩ (sn + n) (sn + n) false z, h.grow a.b k new) else none
                  | none => none
              else none
            else none
          | _ => none
          else none
    else none
  | _ => none
theorem append_sound {P : Program} {ρ : Rho} {h h' : AH} {w : World} {t xt ty : TypeId} {s x v : V} {a b : Value} (hr : HR ρ h w) (hs : R ρ s a) (hx : R ρ x b) (hh : absAppend P t xt s x h = some (v, h')) : Sim P ρ h w (Builtin.append_ #[t, xt] ty #[a, b]) v h' := by
  unfold absAppend at hh
  split at hh
  case h_2 => cases hh
  rename_i e hu
  split at hh
  case isFalse => cases hh
  rename_i hc
  obtain ⟨hrow, hzo, hpos⟩ := hc
  obtain ⟨hnx, hxs⟩ := rowLike_spec hrow
  obtain ⟨zs, hzs⟩ := Option.isSome_iff_exists.1 hzo
  obtain ⟨i, z, hi, hz, hRz, hlz, hcz, _, hrun⟩ := zeroOf_spec hzs ρ
  have hsize : P.cellsOf e = i.size := by simp [Program.cellsOf, hi]
  have hbytes : P.bytesOf e = i.bytes := by simp [Program.bytesOf, hi]
  have hzc : z.cells.size = i.size := by
    have : zs.length = z.cells.size := by simpa using hRz.length
    omega
  split at hh
  case h_1 => cases hh
  rename_i n hn
  split at hh
  case h_1 => cases hh
  rename_i new hnew
  split at hh
  case isFalse => cases hh
  rename_i hlen
  obtain ⟨us, hRn, hus⟩ := srcCells_sound (P := P) hr hx hn (Nat.le_refl _) hnew
  rw [hsize] at hus
  have hlu := hRn.length
  have hlenrun := srcLen_sound (P := P) hx hn w
  have hul : us.length = n * i.size := by rw [← hlu, hlen, hsize]
  have capSpec : ∀ need, capOk P e need = true → need ≤ 4611686018427387904 ∧ (2 * need + 192) * i.bytes ≤ 281474976710656 := by
    intro need h
    unfold capOk at h
    simp only [Bool.and_eq_true, Nat.ble_eq] at h
    rw [hbytes] at h
    exact h
  split at hh
  · -- nil
    rw [show a = _ from hs]
    split at hh
    · rename_i hn0
      subst hn0
      cases hh
      exact Sim.pure hr ⟨.slice none 0 0, append_nothing hu hnx hxs hi hlenrun (hus w rfl), rfl⟩
    · rename_i hn0
      split at hh
      · rename_i hcap
        cases hh
        obtain ⟨hm, hb⟩ := capSpec n hcap.1
        obtain ⟨c, hle, hrunA⟩ := append_grown (P := P) (w := w) (ty := ty) (base := none) (sn := 0) (cc := 0) (old := []) hu hnx hxs hi hz hlenrun (fun w0 _ => rfl) hus (by omega) (by omega) (by rw [Nat.zero_add]; exact hb)
        obtain ⟨ρ', f1, f2, f3⟩ := new_row (P := P) (w0 := { w with drawn := w.drawn + 1 }) hr rfl rfl rfl rfl hRn (Builtin.zeroCells z.cells (c - (0 + n))).toList e hcap.2
        refine ⟨_, _, ρ', hrunA, ⟨w.heap.size, 0, _, c, ?_, f3, Int.le_refl _, by omega, fun h => absurd h (by simp), Nat.le_refl _, ?_⟩, by simpa using f1, by simpa using f2⟩
        · simp
        · simp only [Array.length_toList, zeroCells_size, hzc, hul, hsize, Nat.sub_zero, Nat.zero_add, toNat_00, toNat_oo]
          rw [← Nat.add_mul]
          exact Nat.mul_le_mul_right _ (by omega)
      · cases hh
  · -- loose
    split at hh
    · rename_i hn0
      subst hn0
      cases hh
      obtain ⟨c, cc, rfl⟩ := hs
      have hu0 : us = [] := List.eq_nil_of_length_eq_zero (by rw [hul]; simp)
      subst hu0
      exact Sim.pure hr ⟨.slice (some c) 0 cc, append_room hu hnx hxs hi hlenrun (hus w rfl) (by omega) rfl, c, cc, rfl⟩
    · cases hh
  · -- a row
    rename_i p sn cap ex zz
    obtain ⟨cb, sh, S, cc, rfl, h1, h2, h3, h4, h5, h6⟩ := hs
    split at hh
    case isFalse => cases hh
    rename_i hzz
    subst hzz
    have hadd : ∀ k, (⟨cb, ((p.o : Int) - sh).toNat, none⟩ : Addr).add k = ⟨cb, (((p.o + k : Nat) : Int) - sh).toNat, none⟩ := by
      intro k
      unfold Addr.add
      by_cases hk : k = 0
      · simp [hk]
      · simp only [if_neg hk, Addr.mk.injEq, true_and, and_true]; omega
    split at hh
    · rename_i hfit
      split at hh
      · rename_i hn0
        subst hn0
        cases hh
        have hu0 : us = [] := List.eq_nil_of_length_eq_zero (by rw [hul]; simp)
        subst hu0
        exact Sim.pure hr ⟨.slice (some ⟨cb, ((p.o : Int) - sh).toNat, none⟩) sn cc, append_room hu hnx hxs hi hlenrun (hus w rfl) (by omega) rfl, cb, sh, S, cc, rfl, h1, h2, h3, h4, h5, h6⟩
      · rename_i hn0
        cases hwr : writeN h ⟨p.b, p.L, p.o + sn * P.cellsOf e⟩ new with
        | none => rw [hwr] at hh; cases hh
        | some h1' =>
          rw [hwr] at hh
          cases hh
          obtain ⟨w', g1, g2, g3⟩ := write_sound P hr (a := ⟨p.b, p.L, p.o + sn * P.cellsOf e⟩) (c := (⟨cb, ((p.o : Int) - sh).toNat, none⟩ : Addr).add (sn * i.size)) ⟨cb, sh, S, h1, by simp only; omega, by rw [hadd, hsize]⟩ hRn hwr
          exact ⟨_, w', ρ, append_room hu hnx hxs hi hlenrun (hus w rfl) (by omega) g1, ⟨cb, sh, S, cc, rfl, h1, h2, h3, h4, hfit, h6⟩, g2, g3⟩
    · rename_i hfit
      split at hh
      case isFalse => cases hh
      rename_i hcap
      obtain ⟨hm, hb⟩ := capSpec _ hcap.1
      split at hh
      · -- just so many places
        rename_i hex
        obtain rfl := h4 hex
        cases hread : readN h p (sn * P.cellsOf e) with
        | none => rw [hread] at hh; cases hh
        | some old =>
          rw [hread] at hh
          simp only at hh
          split at hh
          case isFalse => cases hh
          rename_i holdc
          cases hh
          obtain ⟨os, hol, hRo, hoc⟩ := read_sound hr ⟨cb, sh, S, h1, h2, rfl⟩ hread
          have hold : ∀ w0 : World, w0.heap = w.heap → (Builtin.firstCells i.size sn (.slice (some ⟨cb, ((p.o : Int) - sh).toNat, none⟩) sn cc)).run P w0 = .ok os.toArray w0 := by
            intro w0 h0
            have hl := run_loadCells_list (P := P) (w := w0) _ os (fun j u hu => (cell_of_heap h0 _).trans (hoc j u hu))
            rw [hol, hsize] at hl
            simp [Builtin.firstCells, hl]
          obtain ⟨c, hle, hrunA⟩ := append_grown (P := P) (w := w) (ty := ty) (base := some ⟨cb, ((p.o : Int) - sh).toNat, none⟩) (sn := sn) (cc := cc) hu hnx hxs hi hz hlenrun hold hus (by omega) hm hb
          obtain ⟨ρ', f1, f2, f3⟩ := new_row (P := P) (w0 := { w with drawn := w.drawn + 1 }) hr rfl rfl rfl rfl (hRo.append hRn) (Builtin.zeroCells z.cells (c - (sn + n))).toList e (by rw [List.all_append, holdc, hcap.2]; rfl)
          refine ⟨_, _, ρ', hrunA, ⟨w.heap.size, 0, _, c, rfl, f3, Int.le_refl _, hle, fun h => absurd h (by simp), Nat.le_refl _, ?_⟩, f1, f2⟩
          simp only [List.length_append, Array.length_toList, zeroCells_size, hzc, hul, hol, hsize, Nat.sub_zero, Nat.zero_add, toNat_00, toNat_oo]
          rw [← Nat.add_mul, ← Nat.add_mul]
          exact Nat.mul_le_mul_right _ (by omega)
      · -- here or there
        cases hk : h.get p.b with
        | none => rw [hk] at hh; cases hh
        | some k =>
          rw [hk] at hh
          simp only at hh
          split at hh
          case isFalse => cases hh
          rename_i hg
          obtain ⟨k1, k2, k3, k4, k5, k6⟩ := hg
          cases hh
          have hn0 : 0 < n := by omega
          have hnew0 : new ≠ [] := by
            intro h0
            rw [h0] at hlen
            simp only [List.length_nil] at hlen
            have := Nat.mul_pos hn0 hpos
            omega
          by_cases hroom : sn + n ≤ cc
          · have hmulle : (sn + n) * P.cellsOf e ≤ cc * P.cellsOf e := Nat.mul_le_mul_right _ hroom
            rw [Nat.add_mul] at hmulle
            obtain ⟨w', g1, g2, g3⟩ := grow_here P hr hk k1 hnew0 h1 k3 k4 k5 (by omega) hRn hcap.2 (by rw [← hlu, hlen]; omega)
            have g1' : (storeCells ((⟨cb, ((p.o : Int) - sh).toNat, none⟩ : Addr).add (sn * i.size)) us).run P w = .ok () w' := by
              rw [hadd, ← hsize, k2]; exact g1
            exact ⟨_, w', _, append_room hu hnx hxs hi hlenrun (hus w rfl) hroom g1', ⟨cb, sh, S, cc, rfl, Rho.put_same _ _ _ _, h2, hroom, fun h => absurd h (by simp), Nat.le_refl _, h6⟩, g2, g3⟩
          · obtain ⟨cs, lo, hi', q1, q2, q3, q4, q5⟩ := hr.blk _ k _ cb sh S hk h1 k4
            have hcellp : ∀ j, w.cell? ⟨cb, j, none⟩ = cs[j]? := fun j => by unfold World.cell?; simp [q1]
            have hsnS : ((p.o : Int) - sh).toNat + sn * P.cellsOf e ≤ cs.size := by
              have := Nat.mul_le_mul_right (P.cellsOf e) (show sn ≤ cc from by omega)
              omega
            let os : List Value := (cs.toList.drop (((p.o : Int) - sh).toNat)).take (sn * P.cellsOf e)
            have hosl : os.length = sn * P.cellsOf e := by
              have e1 : cs.toList.length = cs.size := Array.length_toList
              simp only [os, List.length_take, List.length_drop]
              omega
            have hosg : ∀ j, j < sn * P.cellsOf e → os[j]? = cs[((p.o : Int) - sh).toNat + j]? := fun j hj => by
              simp only [os]
              rw [List.getElem?_take_of_lt hj, List.getElem?_drop, Array.getElem?_toList]
            have hold : ∀ w0 : World, w0.heap = w.heap → (Builtin.firstCells i.size sn (.slice (some ⟨cb, ((p.o : Int) - sh).toNat, none⟩) sn cc)).run P w0 = .ok os.toArray w0 := by
              intro w0 h0
              have hl := run_loadCells_list (P := P) (w := w0) (⟨cb, ((p.o : Int) - sh).toNat, none⟩) os (fun j u hu => by
                have hj := (List.getElem?_eq_some_iff.1 hu).1
                rw [hosl] at hj
                rw [cell_of_heap h0, hadd, hcellp, show (((p.o + j : Nat) : Int) - sh).toNat = ((p.o : Int) - sh).toNat + j from by omega, ← hosg j hj, hu])
              rw [hosl, hsize] at hl
              simp [Builtin.firstCells, hl]
            obtain ⟨c, hle, hrunA⟩ := append_grown (P := P) (w := w) (ty := ty) (base := some ⟨cb, ((p.o : Int) - sh).toNat, none⟩) (sn := sn) (cc := cc) hu hnx hxs hi hz hlenrun hold hus (by omega) hm hb
            obtain ⟨g1, g2⟩ := grow_there (w' := { w with heap := w.heap.push (.cells (os ++ us ++ (Builtin.zeroCells z.cells (c - (sn + n))).toList).toArray e), drawn := w.drawn + 1 }) hr hk k1 hnew0 h1 k3 k4 p.o h2 (by omega) hRn (os ++ us ++ (Builtin.zeroCells z.cells (c - (sn + n))).toList).toArray (by rw [k6]) rfl rfl rfl
              (by simp only [List.size_toArray, List.length_append, hosl]; omega)
              (fun j hj => by
                rw [List.getElem?_toArray, List.append_assoc, List.getElem?_append_left (by rw [hosl]; omega), hosg j (by omega), hcellp])
              (fun j hj => by
                rw [List.getElem?_toArray, List.append_assoc, List.getElem?_append_right (by rw [hosl]; omega), List.getElem?_append_left (by rw [hosl]; omega), hosl]
                congr 1; omega)
            refine ⟨_, _, _, hrunA, ⟨w.heap.size, p.o, _, c, by simp, Rho.put_same _ _ _ _, Int.le_refl _, hle, fun h => absurd h (by simp), Nat.le_refl _, ?_⟩, g1, g2⟩
            simp only [List.size_toArray, List.length_append, Array.length_toList, zeroCells_size, hzc, hul, hosl, hsize, Nat.sub_self, Nat.zero_add, toNat_00, toNat_oo]
            rw [← Nat.add_mul, ← Nat.add_mul]
            exact Nat.mul_le_mul_right _ (by omega)
  · cases hh
end Go.Proofs.YtbeohojepniioaaDoor.Ev
