/-
  What each statement of the first layer asks first; ids compared.
-/
import Derived.Test.YtbeohojepniioaaDoorShaHex
set_option linter.unusedVariables false
set_option linter.unusedSimpArgs false
namespace Go.Proofs.YtbeohojepniioaaDoor
open Go Ev

theorem cvS_own {h : AH} {n0 e : Nat} {v : V} {n : Nat} {cs : List V} (ho : Own n0 1 e h v n cs) (hn : n ≠ 0) (t : Nat) : cvS t v h = some (v, h) := by
  obtain ⟨h1, ⟨h0, _⟩ | ⟨b, cap, ex, rest, rfl, h2, h3, h4, h5, h6⟩⟩ := ho
  · exact absurd h0 hn
  · obtain ⟨k, k1, k2, k3, k4, k5, k6, k7, k8⟩ := h6
    simp only [cvS, k1]
    rw [if_pos ⟨by omega, k5, k4⟩]
def abcHex : List Nat := [98, 97, 55, 56, 49, 54, 98, 102, 56, 102, 48, 49, 99, 102, 101, 97, 52, 49, 52, 49, 52, 48, 100, 101, 53, 100, 97, 101, 50, 50, 50, 51, 98, 48, 48, 51, 54, 49, 97, 51, 57, 54, 49, 55, 55, 97, 57, 99, 98, 52, 49, 48, 102, 102, 54, 49, 102, 50, 48, 48, 49, 53, 97, 100]
set_option maxRecDepth 100000 in
theorem abc_sum : natsEq (hexM (sumM [97, 98, 99])) abcHex = true := by kernel_rfl
theorem awake_spec {F n : Nat} (hF : 300 < F) {h : AH} (hw : h.WF) (hk : KT h) : ∃ h', runC (EE F) (n + 4) n_law01_awake [] h = some (.bool true, h') ∧ Old h.next h h' := by
  rw [at_law01_awake]
  obtain ⟨v1, h1, e1, p1, o1⟩ : ∃ v h', bsl 1 3 [(0, 1, V.int .u8 97), (1, 1, V.int .u8 98), (2, 1, V.int .u8 99)] [V.int .u8 0] T_uint8 h = some (v, h') ∧ Own h.next 1 T_uint8 h' v [97, 98, 99].length (byteL [97, 98, 99]) ∧ Old h.next h h' := bsl_own hw (cs := byteL [97, 98, 99]) rfl rfl rfl
  have hb : Bs h1 v1 [97, 98, 99] := p1.bs (by
    intro x hx
    simp only [List.mem_cons, List.not_mem_nil, or_false] at hx
    omega)
  obtain ⟨h2, e2, o2⟩ := sum_spec (F := F) (n := n + 1) o1.wf (hk.old (hk.pos hw) o1) hb (by simp) (by simp; omega)
  obtain ⟨h3, e3, o3⟩ := hex_spec (F := F) (n := n) (by omega) o2.wf (sumM_len [97, 98, 99]) (sumM_byte _)
  refine ⟨h3, ?_, (o1.trans (o2.weak o1.next)).trans (o3.weak (Nat.le_trans o1.next o2.next))⟩
  have hx := abc_sum
  unfold abcHex at hx
  simp only [law01_awake.fn, law01_awake.c0, e1, cV_some, cvS_own p1 (by simp), cxC, e2, cA_some, e3, cZ_some, hx]
  rfl

/-! ## Ids -/
theorem allM_all {α : Type} (g : α → Option Bool) (p : α → Bool) : ∀ (l : List α), (∀ x ∈ l, g x = some (p x)) → allM g l = some (l.all p) := by
  intro l
  induction l with
  | nil => intro _; rfl
  | cons x l ih =>
    intro h
    have hx := h x (by simp)
    show (match g x with | none => none | some false => some false | some true => allM g l) = _
    rw [hx]
    cases hp : p x with
    | false => simp [hp]
    | true => rw [ih (fun y hy => h y (by simp [hy]))]; simp [hp]
theorem eqByte (x y : Int) : absEq PP 9999 T_uint8 (.int .u8 x) (.int .u8 y) = some (x == y) := by kernel_rfl
theorem eqArr32 (xs ys : List V) : eqW PP false T_api_Id (.agg xs) (.agg ys) = (allM (fun i : Nat => match xs[i * 1]?, ys[i * 1]? with
    | some a, some b => absEq PP 9999 T_uint8 a b
    | _, _ => none) (List.range' 0 32)).map .bool := by kernel_rfl
theorem neArr32 (xs ys : List V) : neW PP false T_api_Id (.agg xs) (.agg ys) = (allM (fun i : Nat => match xs[i * 1]?, ys[i * 1]? with
    | some a, some b => absEq PP 9999 T_uint8 a b
    | _, _ => none) (List.range' 0 32)).map fun r => .bool (!r) := by kernel_rfl
theorem ids_all {a b : List Nat} (ha : a.length = 32) (hb : b.length = 32) : allM (fun i : Nat => match (byteL a)[i * 1]?, (byteL b)[i * 1]? with
    | some a, some b => absEq PP 9999 T_uint8 a b
    | _, _ => none) (List.range' 0 32) = some (decide (a = b)) := by
  rw [allM_all _ (fun i => a.getD i 0 == b.getD i 0)]
  · congr 1
    rw [Bool.eq_iff_iff, List.all_eq_true, decide_eq_true_eq]
    constructor
    · intro h
      apply List.ext_getElem?
      intro i
      by_cases hi : i < 32
      · have := h i (by rw [List.mem_range'_1]; omega)
        rw [beq_iff_eq, List.getD_eq_getElem?_getD, List.getD_eq_getElem?_getD, List.getElem?_eq_getElem (by omega), List.getElem?_eq_getElem (by omega)] at this
        rw [List.getElem?_eq_getElem (by omega), List.getElem?_eq_getElem (by omega)]
        simpa using this
      · rw [List.getElem?_eq_none (by omega), List.getElem?_eq_none (by omega)]
    · rintro rfl i _
      simp
  · intro i hi
    have hi' : i < 32 := by rw [List.mem_range'_1] at hi; omega
    rw [Nat.mul_one, byteL_get, byteL_get, List.getElem?_eq_getElem (by omega), List.getElem?_eq_getElem (by omega)]
    simp only [Option.map_some]
    show absEq PP 9999 T_uint8 (.int .u8 _) (.int .u8 _) = _
    rw [eqByte, List.getD_eq_getElem?_getD, List.getD_eq_getElem?_getD, List.getElem?_eq_getElem (by omega), List.getElem?_eq_getElem (by omega)]
    congr 1
    rw [Bool.eq_iff_iff]
    simp
    omega
theorem eqId {a b : List Nat} (ha : a.length = 32) (hb : b.length = 32) : eqW PP false T_api_Id (.agg (byteL a)) (.agg (byteL b)) = some (.bool (decide (a = b))) := by rw [eqArr32, ids_all ha hb]; rfl
theorem neId {a b : List Nat} (ha : a.length = 32) (hb : b.length = 32) : neW PP false T_api_Id (.agg (byteL a)) (.agg (byteL b)) = some (.bool (!decide (a = b))) := by rw [neArr32, ids_all ha hb]; rfl

/-! ## The law of sums -/
theorem sums_spec {F n : Nat} {h : AH} (hw : h.WF) (hk : KT h) {p : V} {l : List Nat} (hb : Bs h p l) (hl : l.length ≤ 140737488354000) (hF : l.length + 300 < F) :
    ∃ h', runC (EE F) (n + 5) n_law01_ShaSums [p] h = some (.bool true, h') ∧ Old h.next h h' := by
  rw [at_law01_ShaSums]
  have hpos := hk.pos hw
  obtain ⟨h1, e1, o1⟩ := awake_spec (F := F) (n := n) (by omega) hw hk
  have b1 := hb.old hw o1
  obtain ⟨v2, h2, e2, p2, o2⟩ := twin_spec (F := F) (n := n + 3) o1.wf b1 (by omega)
  have o12 := o1.trans (o2.weak o1.next)
  obtain ⟨h3, e3, o3⟩ := sum_spec (F := F) (n := n + 2) o2.wf (hk.old hpos o12) (p2.bs hb.2) hl (by omega)
  have o13 := o12.trans (o3.weak o12.next)
  obtain ⟨h4, e4, o4⟩ := rsum_spec (F := F) (n := n + 2) o3.wf (hb.old hw o13) hl (by omega)
  refine ⟨h4, ?_, o13.trans (o4.weak o13.next)⟩
  have e5 := eqId (sumM_len l) (sumM_len l)
  simp only [law01_ShaSums.fn, law01_ShaSums.c0, cxC, e1, cB_some, cond_true, e2, cV_some, e3, cA_some, e4, e5, bB_some, decide_true]
  rfl
end Go.Proofs.YtbeohojepniioaaDoor
