/-
  Numbers, rounds, slices that are made and written. No program in sight. No condition.
-/
import Derived.Test.YtbeohojepniioaaDoorEwR
set_option linter.unusedVariables false
set_option linter.unusedSimpArgs false
namespace Go.Proofs.YtbeohojepniioaaDoor.Ev
open Go

/-! ## Numbers -/
theorem p64 : (2 : Int) ^ 64 = 18446744073709551616 := rfl
theorem p63 : (2 : Int) ^ 63 = 9223372036854775808 := rfl
theorem p32 : (2 : Int) ^ 32 = 4294967296 := rfl
theorem p8 : (2 : Int) ^ 8 = 256 := rfl
theorem wr_i64 {x : Int} (h1 : -9223372036854775808 ≤ x) (h2 : x ≤ 9223372036854775807) : IntKind.wrap .i64 x = x := by
  unfold IntKind.wrap
  have e : (if (IntKind.i64.signed && decide (x % 2 ^ IntKind.i64.bits ≥ 2 ^ (IntKind.i64.bits - 1))) = true then x % 2 ^ IntKind.i64.bits - 2 ^ IntKind.i64.bits else x % 2 ^ IntKind.i64.bits) = if x % 18446744073709551616 ≥ 9223372036854775808 then x % 18446744073709551616 - 18446744073709551616 else x % 18446744073709551616 := by
    have h1 : (IntKind.i64.signed && decide (x % 2 ^ IntKind.i64.bits ≥ 2 ^ (IntKind.i64.bits - 1))) = decide (x % 18446744073709551616 ≥ 9223372036854775808) := rfl
    rw [h1]
    simp only [decide_eq_true_eq]
    rfl
  refine Eq.trans e ?_
  split <;> omega
theorem wr_u64 (x : Int) : IntKind.wrap .u64 x = x % 18446744073709551616 := by
  unfold IntKind.wrap
  simp only [IntKind.bits, IntKind.signed, Bool.false_and, Bool.false_eq_true, if_false, p64]
theorem wr_u32 (x : Int) : IntKind.wrap .u32 x = x % 4294967296 := by
  unfold IntKind.wrap
  simp only [IntKind.bits, IntKind.signed, Bool.false_and, Bool.false_eq_true, if_false, p32]
theorem wr_u8 (x : Int) : IntKind.wrap .u8 x = x % 256 := by
  unfold IntKind.wrap
  simp only [IntKind.bits, IntKind.signed, Bool.false_and, Bool.false_eq_true, if_false, p8]

/-! ## Rounds -/
theorem loop_rule {S : Type} {body : S → AH → (S → AH → Res) → Res} {out : Res → Prop} (Inv : Nat → S → AH → Prop)
    (step : ∀ k s h n, Inv (k + 1) s h → (∃ s' h', body s h n = n s' h' ∧ Inv k s' h') ∨ out (body s h n)) (last : ∀ s h n, Inv 0 s h → out (body s h n)) :
    ∀ (m F : Nat) (s : S) (h : AH), Inv m s h → m < F → out (loopN S F body s h) := by
  intro m
  induction m with
  | zero =>
    intro F s h hI hF
    cases F with
    | zero => omega
    | succ F => exact last s h _ hI
  | succ m ih =>
    intro F s h hI hF
    cases F with
    | zero => omega
    | succ F =>
      rcases step m s h (loopN S F body) hI with ⟨s', h', e, hI'⟩ | ho
      · show out (body s h (loopN S F body))
        rw [e]
        exact ih F s' h' hI' (by omega)
      · exact ho

/-! ## Making, writing -/
theorem flatten_replicate_len (l : Nat) (zs : List V) : (List.replicate l zs).flatten.length = l * zs.length := by
  induction l with
  | zero => simp
  | succ l ih => rw [List.replicate_succ, List.flatten_cons, List.length_append, ih, Nat.succ_mul]; omega
theorem get_replicate_flatten (zs : List V) : ∀ (l j : Nat), (List.replicate l zs).flatten[j]? = if j < l * zs.length then zs[j % zs.length]? else none := by
  intro l
  induction l with
  | zero => intro j; simp
  | succ l ih =>
    intro j
    rw [List.replicate_succ, List.flatten_cons]
    by_cases hj : j < zs.length
    · rw [List.getElem?_append_left hj, if_pos (by rw [Nat.succ_mul]; omega), Nat.mod_eq_of_lt hj]
    · rw [List.getElem?_append_right (by omega), ih]
      have e : j % zs.length = (j - zs.length) % zs.length := Nat.mod_eq_sub_mod (by omega)
      rw [e]
      by_cases h2 : j - zs.length < l * zs.length
      · rw [if_pos h2, if_pos (by rw [Nat.succ_mul]; omega)]
      · rw [if_neg h2, if_neg (by rw [Nat.succ_mul]; omega)]
theorem mkS_own {h : AH} (hw : h.WF) {z by_ e : Nat} {zs : List V} (hz : zs.length = z) (h0 : 0 < z) (hc : zs.all V.cell = true) {l : Nat} (hl : (l : Int) ≤ 9223372036854775807) (hb : (by_ : Int) * l ≤ 281474976710656) :
    ∃ v h', mkS z by_ zs e l l h = some (v, h') ∧ Own h.next z e h' v l (List.replicate l zs).flatten ∧ Old h.next h h' := by
  have hall : (List.replicate l zs).flatten.all V.cell = true := by
    rw [List.all_eq_true]
    intro x hx
    obtain ⟨y, hy, hx⟩ := List.mem_flatten.1 hx
    rw [List.eq_of_mem_replicate hy] at hx
    exact List.all_eq_true.1 hc x hx
  have hlen : (List.replicate l zs).flatten.length = l * z := by rw [flatten_replicate_len, hz]
  obtain ⟨g1, g2, g3⟩ := add_cells hw (Arr.make (l * z) zs) e (cs := (List.replicate l zs).flatten) hlen.symm (fun j => by rw [Arr.get_make, get_replicate_flatten, hz]) hall
  refine ⟨.slice ⟨h.next, l * z, 0⟩ l l true z, _, ?_, ⟨hlen, .inr ⟨h.next, l, true, [], rfl, Nat.le_refl _, Nat.le_refl _, by simpa using hlen, (fun h => by cases h), by simpa using g1⟩⟩, g3⟩
  unfold mkS
  rw [if_pos ⟨h0, by omega, Int.le_refl _, hl, hb⟩]
  simp
/-- An element is written. -/
theorem Own.set {n0 z e : Nat} {h : AH} {v : V} {n : Nat} {cs : List V} (ho : Own n0 z e h v n cs) (hw : h.WF) {i : Int} (h0 : 0 ≤ i) (hi : i < n) {w : V} (hl : w.cells.length = z) (hc : w.cells.all V.cell = true) :
    ∃ a h', ixS z v i = some (.ptr a) ∧ st z (.ptr a) w h = some h' ∧ Own n0 z e h' v n (putL w.cells (i.toNat * z) cs) ∧ Old n0 h h' ∧ (∀ b, notIn v b → h'.get b = h.get b) := by
  obtain ⟨h1, ⟨rfl, _⟩ | ⟨b, cap, ex, rest, rfl, h2, h3, h4, h5, h6⟩⟩ := ho
  · omega
  · have hlt := h6.lt hw
    have hroom : i.toNat * z + z ≤ cs.length := by
      have : (i.toNat + 1) * z ≤ n * z := Nat.mul_le_mul_right z (by omega)
      rw [Nat.add_mul] at this
      omega
    obtain ⟨h', w1, w2, w3, w4, w5, w6⟩ := h6.write hw (L := cap * z) (o := i.toNat * z) h4.symm hc (by rw [List.length_append, hl]; omega)
    have hput : putL w.cells (i.toNat * z) (cs ++ rest) = putL w.cells (i.toNat * z) cs ++ rest := by
      unfold putL
      rw [List.take_append_of_le_length (by omega), List.drop_append_of_le_length (by omega)]
      simp [List.append_assoc]
    have hlen : (putL w.cells (i.toNat * z) cs).length = cs.length := by
      unfold putL
      simp only [List.length_append, List.length_take, List.length_drop, hl]
      omega
    rw [hput] at w2
    refine ⟨⟨b, cap * z, 0 + i.toNat * z⟩, h', ?_, st_of hl (by rw [Nat.zero_add]; exact w1), ⟨hlen.trans h1, .inr ⟨b, cap, ex, rest, rfl, h2, h3, by rw [List.length_append, hlen, ← h4, List.length_append], h5, w2⟩⟩, ⟨by omega, fun b' hb' => w5 b' (by omega), by rw [w4]; omega, w6⟩, fun b' hb' => w5 b' hb'⟩
    simp only [ixS]
    rw [if_pos ⟨h0, hi, trivial⟩]
theorem Own.setB {n0 e : Nat} {h : AH} {v : V} {l : List Nat} (ho : Own n0 1 e h v l.length (byteL l)) (hw : h.WF) {i : Int} (h0 : 0 ≤ i) (hi : i < l.length) (x : Nat) :
    ∃ a h', ixS 1 v i = some (.ptr a) ∧ st 1 (.ptr a) (.int .u8 x) h = some h' ∧ Own n0 1 e h' v (l.set i.toNat x).length (byteL (l.set i.toNat x)) ∧ Old n0 h h' ∧ (∀ b, notIn v b → h'.get b = h.get b) := by
  obtain ⟨a, h', g1, g2, g3, g4, g5⟩ := ho.set hw h0 hi (w := byteV x) rfl rfl
  refine ⟨a, h', g1, g2, ?_, g4, g5⟩
  rw [Nat.mul_one] at g3
  have e1 : (byteV x).cells = [byteV x] := rfl
  rw [e1, putL_one _ _ _ (by rw [byteL_len]; omega), byteL_set] at g3
  rw [List.length_set]
  exact g3
theorem Own.bs {n0 e : Nat} {h : AH} {v : V} {l : List Nat} (ho : Own n0 1 e h v l.length (byteL l)) (hl : ∀ x ∈ l, x < 256) : Bs h v l := ⟨ho.sl, hl⟩
/-- Bytes are put behind. -/
theorem Bs.src {h : AH} {v : V} {l : List Nat} (hb : Bs h v l) : srcLen v = some l.length ∧ srcCells v 1 l.length h = some (byteL l) := by
  obtain ⟨⟨h1, h2⟩, h3⟩ := hb
  rcases h2 with ⟨h0, rfl | rfl⟩ | ⟨a, cap, ex, rfl, h4, h5⟩
  · rw [List.eq_nil_of_length_eq_zero h0]; exact ⟨rfl, rfl⟩
  · rw [List.eq_nil_of_length_eq_zero h0]; exact ⟨rfl, rfl⟩
  · refine ⟨rfl, ?_⟩
    unfold srcCells
    by_cases hn : l.length = 0
    · rw [List.eq_nil_of_length_eq_zero hn]; rfl
    · simp only [if_neg hn]; exact h5
theorem app_bytes {n0 e : Nat} {h : AH} {v x : V} {l m : List Nat} (ho : Own n0 1 e h v l.length (byteL l)) (hb : Bs h x m) (hw : h.WF) (hn0 : n0 ≤ h.next) (hc : capW 1 (l.length + m.length) = true) :
    ∃ v' h', app 1 1 e v x h = some (v', h') ∧ Own n0 1 e h' v' (l ++ m).length (byteL (l ++ m)) ∧ Old n0 h h' ∧ (∀ b, b < h.next → notIn v b → h'.get b = h.get b) ∧ (∀ b, b < h.next → notIn v b → notIn v' b) := by
  obtain ⟨s1, s2⟩ := hb.src
  obtain ⟨v', h', g1, g2, g3, g4, g5⟩ := app_own (by_ := 1) ho hw hn0 (by omega) s1 s2 (by rw [byteL_len, Nat.mul_one]) (byteL_cell m) hc
  exact ⟨v', h', g1, by rw [List.length_append, byteL_append]; exact g2, g3, g4, g5⟩
theorem capW_ok {n : Nat} (h : n ≤ 140737488355000) : capW 1 n = true := by
  unfold capW
  rw [Bool.and_eq_true]
  refine ⟨Nat.ble_eq_true_of_le (by omega), Nat.ble_eq_true_of_le ?_⟩
  show (2 * n + 192) * 1 ≤ 281474976710656
  omega

/-! ## Cells behind a pointer -/
/-- What a write leaves of all else. -/
structure Wrote (h h' : AH) (b : Nat) : Prop where
  next : h'.next = h.next
  low : h'.low = min h.low b
  rest : ∀ b', b' ≠ b → h'.get b' = h.get b'
  wf : h'.WF
theorem Wrote.old {h h' : AH} {b n : Nat} (w : Wrote h h' b) (hb : n ≤ b) : Old n h h' := ⟨by rw [w.next]; exact Nat.le_refl _, fun i hi => w.rest i (by omega), by rw [w.low]; omega, w.wf⟩
theorem Cells.ldA {h : AH} {b e : Nat} {cs : List V} (hc : Cells h b e cs) {n : Nat} (hn : n = cs.length) : Ev.ldA n (.ptr ⟨b, n, 0⟩) h = some (.agg cs) := by
  refine ldA_of ((hc.read hn (by omega)).trans ?_)
  rw [List.drop_zero, hn, List.take_length]
theorem Cells.put {h : AH} {b e : Nat} {cs vs : List V} (hc : Cells h b e cs) (hw : h.WF) {n : Nat} (hn : n = cs.length) (hv : vs.length = n) (ha : vs.all V.cell = true) :
    ∃ h', st n (.ptr ⟨b, n, 0⟩) (.agg vs) h = some h' ∧ Cells h' b e vs ∧ Wrote h h' b := by
  obtain ⟨h', w1, w2, w3, w4, w5, w6⟩ := hc.write hw (L := n) (o := 0) hn ha (by omega)
  rw [putL_all _ _ (by omega)] at w2
  exact ⟨h', st_of hv w1, w2, w3, w4, w5, w6⟩
theorem Cells.ld1 {h : AH} {b e : Nat} {cs : List V} (hc : Cells h b e cs) {n : Nat} (hn : n = cs.length) {i : Int} (h0 : 0 ≤ i) (hi : i < n) {v : V} (hv : cs[i.toNat]? = some v) :
    ∃ a, ixA n 1 (.ptr ⟨b, n, 0⟩) i = some (.ptr a) ∧ ld (.ptr a) h = some v := by
  refine ⟨_, ixA_of h0 hi, ld_of (hc.read1 hn ?_)⟩
  simpa using hv
theorem Cells.st1 {h : AH} {b e : Nat} {cs : List V} (hc : Cells h b e cs) (hw : h.WF) {n : Nat} (hn : n = cs.length) {i : Int} (h0 : 0 ≤ i) (hi : i < n) {v : V} (hv : v.cells = [v]) (hcell : v.cell = true) :
    ∃ a h', ixA n 1 (.ptr ⟨b, n, 0⟩) i = some (.ptr a) ∧ st 1 (.ptr a) v h = some h' ∧ Cells h' b e (cs.set i.toNat v) ∧ Wrote h h' b := by
  obtain ⟨h', w1, w2, w3, w4, w5, w6⟩ := hc.write hw (L := n) (o := 0 + i.toNat * 1) (vs := [v]) hn (by simp [hcell]) (by simp only [List.length_cons, List.length_nil]; omega)
  refine ⟨_, h', ixA_of h0 hi, st_of (by rw [hv]; rfl) (by rw [hv]; exact w1), ?_, w3, w4, w5, w6⟩
  rw [putL_one _ _ _ (by omega)] at w2
  simpa using w2
/-- A slice out of parts. -/
theorem bsl_own {h : AH} (hw : h.WF) {z n e : Nat} {ps : List (Nat × Nat × V)} {zs cs : List V} (hf : fillW ps (List.replicate n zs).flatten = some cs) (hl : cs.length = n * z) (hc : cs.all V.cell = true) :
    ∃ v h', bsl z n ps zs e h = some (v, h') ∧ Own h.next z e h' v n cs ∧ Old h.next h h' := by
  obtain ⟨g1, g2, g3⟩ := add_cells hw (Arr.ofList cs) e (cs := cs) (Arr.ofList_n cs) (Arr.get_ofList cs) hc
  refine ⟨.slice ⟨h.next, cs.length, 0⟩ n n true z, _, ?_, ⟨hl, .inr ⟨h.next, n, true, [], by rw [hl], Nat.le_refl _, Nat.le_refl _, by simpa using hl, (fun h => by cases h), by simpa using g1⟩⟩, g3⟩
  simp only [bsl, hf, hc, if_true]
theorem bsl_byte {h : AH} (hw : h.WF) (e x : Nat) : ∃ v h', bsl 1 1 [(0, 1, .int .u8 x)] [.int .u8 0] e h = some (v, h') ∧ Own h.next 1 e h' v [x].length (byteL [x]) ∧ Old h.next h h' := bsl_own hw (cs := byteL [x]) rfl rfl rfl
theorem bsl_byte2 {h : AH} (hw : h.WF) (e x y : Nat) : ∃ v h', bsl 1 2 [(0, 1, .int .u8 x), (1, 1, .int .u8 y)] [.int .u8 0] e h = some (v, h') ∧ Own h.next 1 e h' v [x, y].length (byteL [x, y]) ∧ Old h.next h h' := bsl_own hw (cs := byteL [x, y]) rfl rfl rfl
theorem bsl_none {h : AH} (hw : h.WF) (e : Nat) : ∃ v h', bsl 1 0 [] [.int .u8 0] e h = some (v, h') ∧ Own h.next 1 e h' v ([] : List Nat).length (byteL []) ∧ Old h.next h h' := bsl_own hw (cs := byteL []) rfl rfl rfl
theorem own_nil (n0 z e : Nat) (h : AH) : Own n0 z e h .nilslice 0 [] := ⟨by simp, .inl ⟨rfl, rfl⟩⟩
theorem Own.weak {n0 n1 z e : Nat} {h : AH} {v : V} {n : Nat} {cs : List V} (ho : Own n0 z e h v n cs) (hn : n1 ≤ n0) : Own n1 z e h v n cs := by
  obtain ⟨h1, h2 | ⟨b, cap, ex, rest, h2, h3, h4⟩⟩ := ho
  · exact ⟨h1, .inl h2⟩
  · exact ⟨h1, .inr ⟨b, cap, ex, rest, h2, by omega, h4⟩⟩
theorem Own.old {n0 z e : Nat} {h h' : AH} {v : V} {n : Nat} {cs : List V} (ho : Own n0 z e h v n cs) (hw : h.WF) (hd : Old h.next h h') : Own n0 z e h' v n cs := ho.mono hw hd.get
theorem box_cells {h : AH} (hw : h.WF) (cs : List V) (e : Nat) (hc : cs.all V.cell = true) : ∃ h', absBox e (.agg cs) h = some (.ptr ⟨h.next, cs.length, 0⟩, h') ∧ Cells h' h.next e cs ∧ h'.next = h.next + 1 ∧ Old h.next h h' := by
  obtain ⟨g1, g2, g3⟩ := add_cells hw (Arr.ofList cs) e (cs := cs) (Arr.ofList_n cs) (Arr.get_ofList cs) hc
  refine ⟨_, ?_, g1, g2, g3⟩
  unfold absBox
  rw [if_pos (show (V.agg cs).cells.all V.cell = true from hc)]
  rfl

/-! ## Which blocks a slice keeps off -/
theorem slS_notIn {z : Nat} {s v : V} {lo hi : Option V} {b : Nat} (h : slS z s lo hi none = some v) (hb : notIn s b) : notIn v b := by
  cases s <;> simp only [slS, reduceCtorEq] at h
  case slice a n cap ex z' =>
    split at h
    · unfold cutV at h
      simp only at h
      split at h
      · cases h
      · split at h
        · cases h
        · split at h
          · split at h <;> (cases h; exact hb)
          · split at h <;> cases h
            · exact hb
            · trivial
    · cases h
  case nilslice =>
    split at h
    · cases h
    · split at h
      · cases h
      · cases h; trivial
  case loose =>
    split at h
    · cases h
    · split at h
      · cases h
      · cases h; trivial
theorem Sl.notIn {z : Nat} {h : AH} {v : V} {n : Nat} {cs : List V} (hs : Sl z h v n cs) (hw : h.WF) {b : Nat} (hb : h.next ≤ b) : Ev.notIn v b := by
  obtain ⟨_, ⟨_, rfl | rfl⟩ | ⟨a, cap, ex, rfl, _, h4⟩⟩ := hs
  · trivial
  · trivial
  · obtain ⟨k, hk, _⟩ := readN_alive h4
    have := hw _ _ hk
    show b ≠ a.b
    omega
theorem Sl.keep {z : Nat} {h h' : AH} {v : V} {n : Nat} {cs : List V} (hs : Sl z h v n cs) (hg : ∀ b, ¬ Ev.notIn v b → h'.get b = h.get b) : Sl z h' v n cs := by
  obtain ⟨h1, h2 | ⟨a, cap, ex, rfl, h3, h4⟩⟩ := hs
  · exact ⟨h1, .inl h2⟩
  · exact ⟨h1, .inr ⟨a, cap, ex, rfl, h3, readN_mono h4 (hg _ (fun h => h rfl))⟩⟩
theorem Bs.keep {h h' : AH} {v : V} {l : List Nat} (hb : Bs h v l) (hg : ∀ b, ¬ notIn v b → h'.get b = h.get b) : Bs h' v l := ⟨hb.1.keep hg, hb.2⟩
theorem Bs.wrote {h h' : AH} {v : V} {l : List Nat} {b : Nat} (hb : Bs h v l) (hw : Wrote h h' b) (hn : notIn v b) : Bs h' v l := hb.keep fun b' hb' => hw.rest b' (fun e => hb' (e ▸ hn))
theorem Own.fresh {n0 z e : Nat} {h : AH} {v : V} {n : Nat} {cs : List V} (ho : Own n0 z e h v n cs) {b : Nat} (hb : b < n0) : notIn v b := by
  obtain ⟨h1, ⟨_, rfl⟩ | ⟨b', cap, ex, rest, rfl, h2, _⟩⟩ := ho
  · trivial
  · show b ≠ b'
    omega
theorem Cells.wrote {h h' : AH} {b b' e : Nat} {cs : List V} (hc : Cells h b e cs) (hw : Wrote h h' b') (hn : b ≠ b') : Cells h' b e cs := hc.mono (hw.rest b hn)
theorem Cells.old {h h' : AH} {b e : Nat} {cs : List V} (hc : Cells h b e cs) (hw : h.WF) (hd : Old h.next h h') : Cells h' b e cs := hc.mono (hd.get b (hc.lt hw))
theorem Cells.oldN {h h' : AH} {b e n : Nat} {cs : List V} (hc : Cells h b e cs) (hb : b < n) (hd : Old n h h') : Cells h' b e cs := hc.mono (hd.get b hb)
end Go.Proofs.YtbeohojepniioaaDoor.Ev
