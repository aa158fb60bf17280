/-
  Told functions; printed by a tool of this workplace. No condition.
-/
import Derived.Test.YtbeohojepniioaaDoorNm
set_option linter.unusedVariables false
namespace Go.Proofs.YtbeohojepniioaaDoor
open Go Ev
/-! codicil/codicillaw01.ShaBlocks -/
namespace law01_ShaBlocks
noncomputable def B : Code := cBody (PP.funcs.getD 3 default)
abbrev K2 : Slots := [(2, .int .i64), (3, .any), (4, .any)]
abbrev P2 := Int × V × V × Unit
abbrev K4 : Slots := [(6, .bool)]
abbrev P4 := Bool × Unit
def lv : Nat → Option Slots := fun k =>
  bif Nat.beq k 2 then some K2 else bif Nat.beq k 4 then some K4 else none
abbrev KR : Slots := [(6, .any)]
abbrev PR := V × Unit
noncomputable def ret : PR → AH → Res
| (x6, _), h => finW [some x6] h
theorem ret_eq (e : Cx) : fin (cfgS e) (foLive lv) (PP.funcs.getD 3 default) = jk KR ret := by kernel_rfl
noncomputable def c0 (e : Cx) (J : P4 → AH → Res) : List V × List V × Int × Unit → AH → Res
| (a0, a1, a2, _), h =>
  cV (absBox T_a8_uint32 (.agg a0) h) fun x1 h2 =>
  cV (absBox T_a64_uint8 (.agg a1) h2) fun x3 h4 =>
  cB (e.C n_law01_awake [] h4) fun x5 h6 =>
  bif x5 then
    bA (ldA 8 x1 h6) h6 fun x7 h8 =>
    bA (ldA 64 x3 h8) h8 fun x9 h10 =>
    cA (quiet (fun h => e.C n_sha_Block [(.agg x7), (.agg x9)] h) h10) fun x11 h12 =>
    bA (ldA 8 x1 h12) h12 fun x13 h14 =>
    bA (ldA 64 x3 h14) h14 fun x15 h16 =>
    cA (e.C n_r01_DocBlock [(.agg x13), (.agg x15)] h16) fun x17 h18 =>
    bB (eqW PP false T_a8_uint32 (.agg x11) (.agg x17)) h18 fun x19 h20 =>
    bif (bif true then x19 else false) then
      cV (e.C n_sha_Pad [(.int .i64 a2)] h20) fun x21 h22 =>
      cV (e.C n_r01_DocPad [(.int .i64 a2)] h22) fun x23 h24 =>
      cB (e.C n_r01_Same [x21, x23] h24) fun x25 h26 =>
      J ((bif true then x25 else false), ()) h26
    else
      J (false, ()) h20
  else
    J (false, ()) h6
theorem c0_eq (e : Cx) (a0 : List V) (a1 : List V) (a2 : Int) (h : AH) (n : Kn) (ee : Ke) (r : Kn) : runL (cfgS e) lv 24 e.F (peel 2 (cP [0] B)).1 (iniT [(.agg a0), (.agg a1), (.int .i64 a2)] 0 .leaf) h n ee r = c0 e (fun t h => n (mkT K4 t) h) (a0, a1, a2, ()) h := by kernel_rfl
noncomputable def fn (e : Cx) (a0 : List V) (a1 : List V) (a2 : Int) (h : AH) : Res :=
  c0 e (fun | (x27, _), h28 => ret ((.bool x27), ()) h28) (a0, a1, a2, ()) h
theorem run (e : Cx) (a0 : List V) (a1 : List V) (a2 : Int) (h : AH) : execFn (cfgS e) (foLive lv) e.F n_law01_ShaBlocks [(.agg a0), (.agg a1), (.int .i64 a2)] h = fn e a0 a1 a2 h := by
  refine (fn_eq (c := cfgS e) (lv := lv) (PP.funcs.getD 3 default) B (by kernel_rfl) (by kernel_rfl) (Nat.le_of_ble_eq_true (by kernel_rfl))).trans ?_
  rw [ret_eq]
  exact nd_chain' (X := cP [0] B) (Y := (cP [2] B)) 2 (L := K4) (S := fun J => c0 e J (a0, a1, a2, ()) h) (Q := fun | (x27, _), h28 => ret ((.bool x27), ()) h28) (by kernel_rfl) (fun n => c0_eq e a0 a1 a2 h n (exK []) (jk KR ret)) (fun | (x27, _), h28 => by kernel_rfl)
end law01_ShaBlocks
/-! codicil/codicillaw01.ShaSums -/
namespace law01_ShaSums
noncomputable def B : Code := cBody (PP.funcs.getD 4 default)
abbrev K2 : Slots := [(0, .any)]
abbrev P2 := V × Unit
abbrev K4 : Slots := [(2, .bool)]
abbrev P4 := Bool × Unit
def lv : Nat → Option Slots := fun k =>
  bif Nat.beq k 2 then some K2 else bif Nat.beq k 4 then some K4 else none
abbrev KR : Slots := [(2, .any)]
abbrev PR := V × Unit
noncomputable def ret : PR → AH → Res
| (x2, _), h => finW [some x2] h
theorem ret_eq (e : Cx) : fin (cfgS e) (foLive lv) (PP.funcs.getD 4 default) = jk KR ret := by kernel_rfl
noncomputable def c0 (e : Cx) (J : P4 → AH → Res) : V × Unit → AH → Res
| (a0, _), h =>
  cB (e.C n_law01_awake [] h) fun x1 h2 =>
  bif x1 then
    cV (e.C n_r01_Twin [a0] h2) fun x3 h4 =>
    cA (e.C n_sha_Sum [x3] h4) fun x5 h6 =>
    cA (e.C n_r01_Sum [a0] h6) fun x7 h8 =>
    bB (eqW PP false T_api_Id (.agg x5) (.agg x7)) h8 fun x9 h10 =>
    J ((bif true then x9 else false), ()) h10
  else
    J (false, ()) h2
theorem c0_eq (e : Cx) (a0 : V) (h : AH) (n : Kn) (ee : Ke) (r : Kn) : runL (cfgS e) lv 12 e.F (peel 2 (cP [0] B)).1 (iniT [a0] 0 .leaf) h n ee r = c0 e (fun t h => n (mkT K4 t) h) (a0, ()) h := by kernel_rfl
noncomputable def fn (e : Cx) (a0 : V) (h : AH) : Res :=
  c0 e (fun | (x11, _), h12 => ret ((.bool x11), ()) h12) (a0, ()) h
theorem run (e : Cx) (a0 : V) (h : AH) : execFn (cfgS e) (foLive lv) e.F n_law01_ShaSums [a0] h = fn e a0 h := by
  refine (fn_eq (c := cfgS e) (lv := lv) (PP.funcs.getD 4 default) B (by kernel_rfl) (by kernel_rfl) (Nat.le_of_ble_eq_true (by kernel_rfl))).trans ?_
  rw [ret_eq]
  exact nd_chain' (X := cP [0] B) (Y := (cP [2] B)) 2 (L := K4) (S := fun J => c0 e J (a0, ()) h) (Q := fun | (x11, _), h12 => ret ((.bool x11), ()) h12) (by kernel_rfl) (fun n => c0_eq e a0 h n (exK []) (jk KR ret)) (fun | (x11, _), h12 => by kernel_rfl)
end law01_ShaSums
/-! codicil/codicillaw01.ShaChains -/
namespace law01_ShaChains
noncomputable def B : Code := cBody (PP.funcs.getD 5 default)
abbrev K2 : Slots := [(0, .any)]
abbrev P2 := V × Unit
abbrev K4 : Slots := [(0, .any), (10, .bool)]
abbrev P4 := V × Bool × Unit
abbrev K6 : Slots := [(2, .bool)]
abbrev P6 := Bool × Unit
abbrev K8 : Slots := [(0, .any), (3, .any)]
abbrev P8 := V × V × Unit
abbrev K12 : Slots := [(0, .any), (3, .any), (21, .bool)]
abbrev P12 := V × V × Bool × Unit
abbrev K16 : Slots := [(0, .any), (3, .any), (4, .any)]
abbrev P16 := V × V × V × Unit
abbrev K18 : Slots := [(0, .any), (3, .any), (4, .any), (5, .int .i64)]
abbrev P18 := V × V × V × Int × Unit
abbrev K20 : Slots := [(0, .any), (3, .any), (4, .any), (5, .int .i64), (27, .bool)]
abbrev P20 := V × V × V × Int × Bool × Unit
abbrev K24 : Slots := [(0, .any), (3, .any), (4, .any), (5, .int .i64), (6, .any)]
abbrev P24 := V × V × V × Int × V × Unit
abbrev K29 : Slots := [(0, .any), (4, .any)]
abbrev P29 := V × V × Unit
abbrev K30 : Slots := [(4, .any), (7, .any)]
abbrev P30 := V × V × Unit
abbrev K32 : Slots := [(4, .any), (7, .any), (43, .int .i64)]
abbrev P32 := V × V × Int × Unit
abbrev K34 : Slots := [(4, .any), (7, .any), (43, .int .i64), (44, .bool)]
abbrev P34 := V × V × Int × Bool × Unit
abbrev K36 : Slots := [(4, .any), (7, .any), (8, .int .i64), (43, .int .i64)]
abbrev P36 := V × V × Int × Int × Unit
abbrev K38 : Slots := [(4, .any), (7, .any), (43, .int .i64), (59, .bool)]
abbrev P38 := V × V × Int × Bool × Unit
abbrev K43 : Slots := []
abbrev P43 := Unit
def lv : Nat → Option Slots := fun k =>
  bif Nat.beq k 2 then some K2 else bif Nat.beq k 4 then some K4 else bif Nat.beq k 6 then some K6 else bif Nat.beq k 7 then some K2 else bif Nat.beq k 8 then some K8 else bif Nat.beq k 10 then some K8 else bif Nat.beq k 12 then some K12 else bif Nat.beq k 14 then some K6 else bif Nat.beq k 15 then some K8 else bif Nat.beq k 16 then some K16 else bif Nat.beq k 18 then some K18 else bif Nat.beq k 20 then some K20 else bif Nat.beq k 23 then some K18 else bif Nat.beq k 24 then some K24 else bif Nat.beq k 26 then some K24 else bif Nat.beq k 28 then some K18 else bif Nat.beq k 21 then some K18 else bif Nat.beq k 22 then some K18 else bif Nat.beq k 19 then some K18 else bif Nat.beq k 29 then some K29 else bif Nat.beq k 30 then some K30 else bif Nat.beq k 32 then some K32 else bif Nat.beq k 34 then some K34 else bif Nat.beq k 35 then some K32 else bif Nat.beq k 36 then some K36 else bif Nat.beq k 38 then some K38 else bif Nat.beq k 40 then some K6 else bif Nat.beq k 41 then some K32 else bif Nat.beq k 42 then some K32 else bif Nat.beq k 33 then some K32 else bif Nat.beq k 43 then some K43 else bif Nat.beq k 44 then some K6 else none
abbrev KR : Slots := [(2, .any)]
abbrev PR := V × Unit
noncomputable def ret : PR → AH → Res
| (x2, _), h => finW [some x2] h
theorem ret_eq (e : Cx) : fin (cfgS e) (foLive lv) (PP.funcs.getD 5 default) = jk KR ret := by kernel_rfl
noncomputable def c0 (e : Cx) (J : P2 → AH → Res) : V × Unit → AH → Res
| (a0, _), h =>
  J (a0, ()) h
theorem c0_eq (e : Cx) (a0 : V) (h : AH) (n : Kn) (ee : Ke) (r : Kn) : runL (cfgS e) lv 61 e.F (peel 1 (cP [0] B)).1 (iniT [a0] 0 .leaf) h n ee r = c0 e (fun t h => n (mkT K2 t) h) (a0, ()) h := by kernel_rfl
noncomputable def c3 (e : Cx) (J : P8 → AH → Res) : P2 → AH → Res
| (x4, _), h =>
  cV (e.C n_r01_Twin [x4] h) fun x5 h6 =>
  bI .i64 (lenS x4) h6 fun x7 h8 =>
  cV (e.C n_sha_Pad [(.int .i64 x7)] h8) fun x9 h10 =>
  cV (app 1 1 T_uint8 x5 x9 h10) fun x11 h12 =>
  J (x4, x11, ()) h12
theorem c3_eq (e : Cx) (x4 : V) (h : AH) (n : Kn) (ee : Ke) (r : Kn) : runL (cfgS e) lv 61 e.F (peel 2 (cP [2] B)).1 (mkT K2 (x4, ())) h n ee r = c3 e (fun t h => n (mkT K8 t) h) (x4, ()) h := by kernel_rfl
noncomputable def c7 (e : Cx) (J : P16 → AH → Res) : P8 → AH → Res
| (x18, x19, _), h =>
  cA (e.C n_r01_First [] h) fun x20 h21 =>
  let x22 := (al (List.replicate 8 (.int .u32 0)) T_a8_uint32 h21).1
  let h23 := (al (List.replicate 8 (.int .u32 0)) T_a8_uint32 h21).2
  bS (st 8 x22 (.agg x20) h23) fun h24 =>
  J (x18, x19, x22, ()) h24
theorem c7_eq (e : Cx) (x18 : V) (x19 : V) (h : AH) (n : Kn) (ee : Ke) (r : Kn) : runL (cfgS e) lv 61 e.F (peel 1 (cP [5] B)).1 (mkT K8 (x18, x19, ())) h n ee r = c7 e (fun t h => n (mkT K16 t) h) (x18, x19, ()) h := by kernel_rfl
noncomputable def c14 (e : Cx) (J : P30 → AH → Res) : P29 → AH → Res
| (x32, x33, _), h =>
  cV (e.C n_r01_Twin [x32] h) fun x34 h35 =>
  cA (e.C n_sha_Sum [x34] h35) fun x36 h37 =>
  let x38 := (al (List.replicate 32 (.int .u8 0)) T_api_Id h37).1
  let h39 := (al (List.replicate 32 (.int .u8 0)) T_api_Id h37).2
  bS (st 32 x38 (.agg x36) h39) fun h40 =>
  J (x33, x38, ()) h40
theorem c14_eq (e : Cx) (x32 : V) (x33 : V) (h : AH) (n : Kn) (ee : Ke) (r : Kn) : runL (cfgS e) lv 61 e.F (peel 1 (cP [7] B)).1 (mkT K29 (x32, x33, ())) h n ee r = c14 e (fun t h => n (mkT K30 t) h) (x32, x33, ()) h := by kernel_rfl
noncomputable def c21 (e : Cx) (J : P6 → AH → Res) : P43 → AH → Res
| (_), h =>
  J (true, ()) h
theorem c21_eq (e : Cx) (h : AH) (n : Kn) (ee : Ke) (r : Kn) : runL (cfgS e) lv 61 e.F (peel 1 (cP [9] B)).1 (mkT K43 (())) h n ee r = c21 e (fun t h => n (mkT K6 t) h) (()) h := by kernel_rfl
noncomputable def r21 (e : Cx) (Jn : PR → AH → Res) (Jr : PR → AH → Res) : P43 → AH → Res
| (_), h =>
  c21 e (fun | (x46, _), h47 => Jr ((.bool x46), ()) h47) (()) h
theorem r21_eq (e : Cx) (Jn : PR → AH → Res) (Jr : PR → AH → Res) : ∀ t h, exL (cfgS e) lv 61 e.F (cP [9] B) (mkT K43 t) h (jk KR Jn) (exK []) (jk KR Jr) = r21 e Jn Jr t h
| (_), h => nd_chain' (X := cP [9] B) (Y := (cP [10] B)) 1 (L := K6) (S := fun J => c21 e J (()) h) (Q := fun | (x46, _), h47 => Jr ((.bool x46), ()) h47) (by kernel_rfl) (fun n => c21_eq e h n (exK []) (jk KR Jr)) (fun | (x46, _), h47 => by kernel_rfl)
noncomputable def c15 (e : Cx) (J : P32 → AH → Res) : P30 → AH → Res
| (x44, x45, _), h =>
  J (x44, x45, 0, ()) h
theorem c15_eq (e : Cx) (x44 : V) (x45 : V) (h : AH) (n : Kn) (ee : Ke) (r : Kn) : runL (cfgS e) lv 61 e.F (peel 1 (cP [8, 0] B)).1 (mkT K30 (x44, x45, ())) h n ee r = c15 e (fun t h => n (mkT K32 t) h) (x44, x45, ()) h := by kernel_rfl
noncomputable def c16 (e : Cx) (J : P34 → AH → Res) : P32 → AH → Res
| (x55, x56, x57, _), h =>
  J (x55, x56, x57, (decide (x57 < 32)), ()) h
theorem c16_eq (e : Cx) (x55 : V) (x56 : V) (x57 : Int) (h : AH) (n : Kn) (ee : Ke) (r : Kn) : runL (cfgS e) lv 61 e.F (peel 1 (cP [8, 3] B)).1 (mkT K32 (x55, x56, x57, ())) h n ee r = c16 e (fun t h => n (mkT K34 t) h) (x55, x56, x57, ()) h := by kernel_rfl
noncomputable def c20 (e : Cx) (J : P32 → AH → Res) : P32 → AH → Res
| (x70, x71, x72, _), h =>
  J (x70, x71, (wr .i64 (x72 + 1)), ()) h
theorem c20_eq (e : Cx) (x70 : V) (x71 : V) (x72 : Int) (h : AH) (n : Kn) (ee : Ke) (r : Kn) : runL (cfgS e) lv 61 e.F (peel 1 (cP [8, 6] B)).1 (mkT K32 (x70, x71, x72, ())) h n ee r = c20 e (fun t h => n (mkT K32 t) h) (x70, x71, x72, ()) h := by kernel_rfl
noncomputable def r20 (e : Cx) (Jn : P32 → AH → Res) (J2 : P43 → AH → Res) (Jr : PR → AH → Res) : P32 → AH → Res
| (x70, x71, x72, _), h =>
  c20 e Jn (x70, x71, x72, ()) h
theorem r20_eq (e : Cx) (Jn : P32 → AH → Res) (J2 : P43 → AH → Res) (Jr : PR → AH → Res) : ∀ t h, exL (cfgS e) lv 61 e.F (cP [8, 6] B) (mkT K32 t) h (jk K32 Jn) (exK [(2, (jk K43 J2))]) (jk KR Jr) = r20 e Jn J2 Jr t h
| (x70, x71, x72, _), h => nd_chain' (X := cP [8, 6] B) (Y := .skip) 1 (L := K32) (S := fun J => c20 e J (x70, x71, x72, ()) h) (Q := Jn) (by kernel_rfl) (fun n => c20_eq e x70 x71 x72 h n (exK [(2, (jk K43 J2))]) (jk KR Jr)) (fun t h => by kernel_rfl)
noncomputable def c17 (e : Cx) (J : P38 → AH → Res) : P32 → AH → Res
| (x67, x68, x69, _), h =>
  bV (ixA 32 1 x68 x69) h fun x77 h78 =>
  bI .u8 (ld x77 h78) h78 fun x79 h80 =>
  bV (ixA 8 1 x67 (wr .i64 (x69.tdiv 4))) h80 fun x81 h82 =>
  bI .u32 (ld x81 h82) h82 fun x83 h84 =>
  let x85 : Int := (wr .i64 (24 - (wr .i64 (8 * (x69.tmod 4)))))
  bI .u32 (if x85 < 0 then none else some (.int .u32 (ishr .u32 x83 x85))) h84 fun x86 h87 =>
  J (x67, x68, x69, (x79 != (wr .u8 x86)), ()) h87
theorem c17_eq (e : Cx) (x67 : V) (x68 : V) (x69 : Int) (h : AH) (n : Kn) (ee : Ke) (r : Kn) : runL (cfgS e) lv 61 e.F (peel 2 (cP [8, 5, 1] B)).1 (mkT K32 (x67, x68, x69, ())) h n ee r = c17 e (fun t h => n (mkT K38 t) h) (x67, x68, x69, ()) h := by kernel_rfl
noncomputable def c19 (e : Cx) (J : P6 → AH → Res) : P38 → AH → Res
| (x93, x94, x95, x96, _), h =>
  J (false, ()) h
theorem c19_eq (e : Cx) (x93 : V) (x94 : V) (x95 : Int) (x96 : Bool) (h : AH) (n : Kn) (ee : Ke) (r : Kn) : runL (cfgS e) lv 61 e.F (peel 1 (cP [8, 5, 3, 0] B)).1 (mkT K38 (x93, x94, x95, x96, ())) h n ee r = c19 e (fun t h => n (mkT K6 t) h) (x93, x94, x95, x96, ()) h := by kernel_rfl
noncomputable def k18 (e : Cx) (Jn : P32 → AH → Res) (J3 : P32 → AH → Res) (J2 : P43 → AH → Res) (Jr : PR → AH → Res) : P38 → AH → Res
| (x93, x94, x95, x96, _), h =>
  bif x96 then c19 e (fun | (x97, _), h98 => Jr ((.bool x97), ()) h98) (x93, x94, x95, x96, ()) h else Jn (x93, x94, x95, ()) h
theorem k18_eq (e : Cx) (Jn : P32 → AH → Res) (J3 : P32 → AH → Res) (J2 : P43 → AH → Res) (Jr : PR → AH → Res) : ∀ t h, exL (cfgS e) lv 61 e.F (cP [8, 5, 3] B) (mkT K38 t) h (jk K32 Jn) (exK [(3, (jk K32 J3)), (2, (jk K43 J2))]) (jk KR Jr) = k18 e Jn J3 J2 Jr t h
| (x93, x94, x95, x96, _), h => nd_cond' (X := cP [8, 5, 3] B) (a := cP [8, 5, 3, 0] B) (b := cP [8, 5, 4] B) (t := x96) (x := .tmp 59) (by kernel_rfl) (by kernel_rfl) (nd_chain' (X := cP [8, 5, 3, 0] B) (Y := (cP [8, 5, 3, 1] B)) 1 (L := K6) (S := fun J => c19 e J (x93, x94, x95, x96, ()) h) (Q := fun | (x97, _), h98 => Jr ((.bool x97), ()) h98) (by kernel_rfl) (fun n => c19_eq e x93 x94 x95 x96 h n (exK [(3, (jk K32 J3)), (2, (jk K43 J2))]) (jk KR Jr)) (fun | (x97, _), h98 => by kernel_rfl)) (by kernel_rfl)
noncomputable def r17 (e : Cx) (Jn : P32 → AH → Res) (J2 : P43 → AH → Res) (Jr : PR → AH → Res) : P32 → AH → Res
| (x67, x68, x69, _), h =>
  c17 e (k18 e (r20 e Jn J2 Jr) (r20 e Jn J2 Jr) J2 Jr) (x67, x68, x69, ()) h
theorem r17_eq (e : Cx) (Jn : P32 → AH → Res) (J2 : P43 → AH → Res) (Jr : PR → AH → Res) : ∀ t h, exL (cfgS e) lv 61 e.F (cP [8, 5] B) (mkT K32 t) h (jk K32 Jn) (exK [(2, (jk K43 J2))]) (jk KR Jr) = r17 e Jn J2 Jr t h
| (x67, x68, x69, _), h => (nd_norm' (X := (cP [8, 5] B)) (a := cP [8, 5, 0] B) (b := cP [8, 6] B) (L := K32) (by kernel_rfl) (by kernel_rfl) (by kernel_rfl) (SB := (r20 e Jn J2 Jr)) (r20_eq e Jn J2 Jr) _ _).trans (nd_block' (X := cP [8, 5, 0] B) (id := 3) (b := cP [8, 5, 1] B) (by kernel_rfl) (nd_chain' (X := cP [8, 5, 1] B) (Y := (cP [8, 5, 3] B)) 2 (L := K38) (S := fun J => c17 e J (x67, x68, x69, ()) h) (Q := (k18 e (r20 e Jn J2 Jr) (r20 e Jn J2 Jr) J2 Jr)) (by kernel_rfl) (fun n => c17_eq e x67 x68 x69 h n (exK [(3, (jk K32 (r20 e Jn J2 Jr))), (2, (jk K43 J2))]) (jk KR Jr)) (k18_eq e (r20 e Jn J2 Jr) (r20 e Jn J2 Jr) J2 Jr)))
noncomputable def k16 (e : Cx) (Jn : P32 → AH → Res) (J2 : P43 → AH → Res) (Jr : PR → AH → Res) : P34 → AH → Res
| (x63, x64, x65, x66, _), h =>
  bif x66 then (r17 e Jn J2 Jr) (x63, x64, x65, ()) h else J2 (()) h
theorem k16_eq (e : Cx) (Jn : P32 → AH → Res) (J2 : P43 → AH → Res) (Jr : PR → AH → Res) : ∀ t h, exL (cfgS e) lv 61 e.F (cP [8, 4] B) (mkT K34 t) h (jk K32 Jn) (exK [(2, (jk K43 J2))]) (jk KR Jr) = k16 e Jn J2 Jr t h
| (x63, x64, x65, x66, _), h => (nd_norm' (X := (cP [8, 4] B)) (a := cP [8, 4, 0] B) (b := cP [8, 5] B) (L := K32) (by kernel_rfl) (by kernel_rfl) (by kernel_rfl) (SB := (r17 e Jn J2 Jr)) (r17_eq e Jn J2 Jr) _ _).trans (nd_cond' (X := cP [8, 4, 0] B) (a := cP [8, 4, 0, 0] B) (b := cP [8, 4, 1] B) (t := x66) (x := .tmp 44) (by kernel_rfl) (by kernel_rfl) (by kernel_rfl) (by kernel_rfl))
noncomputable def l16 (e : Cx) (Jn : P32 → AH → Res) (J2 : P43 → AH → Res) (Jr : PR → AH → Res) : P32 → AH → Res
| (x55, x56, x57, _), h =>
  c16 e (k16 e Jn J2 Jr) (x55, x56, x57, ()) h
theorem l16_eq (e : Cx) (Jn : P32 → AH → Res) (J2 : P43 → AH → Res) (Jr : PR → AH → Res) : ∀ t h, exL (cfgS e) lv 61 e.F (cP [8, 3] B) (mkT K32 t) h (jk K32 Jn) (exK [(2, (jk K43 J2))]) (jk KR Jr) = l16 e Jn J2 Jr t h
| (x55, x56, x57, _), h => nd_chain' (X := cP [8, 3] B) (Y := (cP [8, 4] B)) 1 (L := K34) (S := fun J => c16 e J (x55, x56, x57, ()) h) (Q := (k16 e Jn J2 Jr)) (by kernel_rfl) (fun n => c16_eq e x55 x56 x57 h n (exK [(2, (jk K43 J2))]) (jk KR Jr)) (k16_eq e Jn J2 Jr)
noncomputable def k15 (e : Cx) (Jn : P43 → AH → Res) (Jr : PR → AH → Res) : P32 → AH → Res
| (x52, x53, x54, _), h =>
  loopN (P32) e.F (fun t h n => l16 e n Jn Jr t h) (x52, x53, x54, ()) h
theorem k15_eq (e : Cx) (Jn : P43 → AH → Res) (Jr : PR → AH → Res) : ∀ t h, exL (cfgS e) lv 61 e.F (cP [8, 1] B) (mkT K32 t) h (jk K43 Jn) (exK []) (jk KR Jr) = k15 e Jn Jr t h
| (x52, x53, x54, _), h => nd_block' (X := cP [8, 1] B) (id := 2) (b := cP [8, 2] B) (by kernel_rfl) ((nd_loop' (X := cP [8, 2] B) (b := cP [8, 3] B) (L := K32) (by kernel_rfl) (by kernel_rfl) (SB := fun n => l16 e n Jn Jr) (fun n => l16_eq e n Jn Jr) _ _).trans (by kernel_rfl))
noncomputable def k14 (e : Cx) (Jn : PR → AH → Res) (Jr : PR → AH → Res) : P30 → AH → Res
| (x44, x45, _), h =>
  c15 e (k15 e (r21 e Jn Jr) Jr) (x44, x45, ()) h
theorem k14_eq (e : Cx) (Jn : PR → AH → Res) (Jr : PR → AH → Res) : ∀ t h, exL (cfgS e) lv 61 e.F (cP [8] B) (mkT K30 t) h (jk KR Jn) (exK []) (jk KR Jr) = k14 e Jn Jr t h
| (x44, x45, _), h => (nd_norm' (X := (cP [8] B)) (a := cP [8, 0] B) (b := cP [9] B) (L := K43) (by kernel_rfl) (by kernel_rfl) (by kernel_rfl) (SB := (r21 e Jn Jr)) (r21_eq e Jn Jr) _ _).trans (nd_chain' (X := cP [8, 0] B) (Y := (cP [8, 1] B)) 1 (L := K32) (S := fun J => c15 e J (x44, x45, ()) h) (Q := (k15 e (r21 e Jn Jr) Jr)) (by kernel_rfl) (fun n => c15_eq e x44 x45 h n (exK []) (jk KR Jr)) (k15_eq e (r21 e Jn Jr) Jr))
noncomputable def r14 (e : Cx) (Jn : PR → AH → Res) (Jr : PR → AH → Res) : P29 → AH → Res
| (x32, x33, _), h =>
  c14 e (k14 e Jn Jr) (x32, x33, ()) h
theorem r14_eq (e : Cx) (Jn : PR → AH → Res) (Jr : PR → AH → Res) : ∀ t h, exL (cfgS e) lv 61 e.F (cP [7] B) (mkT K29 t) h (jk KR Jn) (exK []) (jk KR Jr) = r14 e Jn Jr t h
| (x32, x33, _), h => nd_chain' (X := cP [7] B) (Y := (cP [8] B)) 1 (L := K30) (S := fun J => c14 e J (x32, x33, ()) h) (Q := (k14 e Jn Jr)) (by kernel_rfl) (fun n => c14_eq e x32 x33 h n (exK []) (jk KR Jr)) (k14_eq e Jn Jr)
noncomputable def c8 (e : Cx) (J : P18 → AH → Res) : P16 → AH → Res
| (x29, x30, x31, _), h =>
  J (x29, x30, x31, 0, ()) h
theorem c8_eq (e : Cx) (x29 : V) (x30 : V) (x31 : V) (h : AH) (n : Kn) (ee : Ke) (r : Kn) : runL (cfgS e) lv 61 e.F (peel 1 (cP [6, 0] B)).1 (mkT K16 (x29, x30, x31, ())) h n ee r = c8 e (fun t h => n (mkT K18 t) h) (x29, x30, x31, ()) h := by kernel_rfl
noncomputable def c10 (e : Cx) (J : P18 → AH → Res) : P18 → AH → Res
| (x116, x117, x118, x119, _), h =>
  J (x116, x117, x118, (wr .i64 (x119 + 64)), ()) h
theorem c10_eq (e : Cx) (x116 : V) (x117 : V) (x118 : V) (x119 : Int) (h : AH) (n : Kn) (ee : Ke) (r : Kn) : runL (cfgS e) lv 61 e.F (peel 1 (cP [6, 5] B)).1 (mkT K18 (x116, x117, x118, x119, ())) h n ee r = c10 e (fun t h => n (mkT K18 t) h) (x116, x117, x118, x119, ()) h := by kernel_rfl
noncomputable def r10 (e : Cx) (Jn : P18 → AH → Res) (J0 : P29 → AH → Res) (Jr : PR → AH → Res) : P18 → AH → Res
| (x116, x117, x118, x119, _), h =>
  c10 e Jn (x116, x117, x118, x119, ()) h
theorem r10_eq (e : Cx) (Jn : P18 → AH → Res) (J0 : P29 → AH → Res) (Jr : PR → AH → Res) : ∀ t h, exL (cfgS e) lv 61 e.F (cP [6, 5] B) (mkT K18 t) h (jk K18 Jn) (exK [(0, (jk K29 J0))]) (jk KR Jr) = r10 e Jn J0 Jr t h
| (x116, x117, x118, x119, _), h => nd_chain' (X := cP [6, 5] B) (Y := .skip) 1 (L := K18) (S := fun J => c10 e J (x116, x117, x118, x119, ()) h) (Q := Jn) (by kernel_rfl) (fun n => c10_eq e x116 x117 x118 x119 h n (exK [(0, (jk K29 J0))]) (jk KR Jr)) (fun t h => by kernel_rfl)
noncomputable def c11 (e : Cx) (J : P18 → AH → Res) : P18 → AH → Res
| (x112, x113, x114, x115, _), h =>
  let x125 := (al (List.replicate 64 (.int .u8 0)) T_a64_uint8 h).1
  let h126 := (al (List.replicate 64 (.int .u8 0)) T_a64_uint8 h).2
  bV (slA 64 1 x125 none none none h126) h126 fun x127 h128 =>
  bV (slS 1 x113 (some (.int .i64 x115)) (some (.int .i64 (wr .i64 (x115 + 64)))) none) h128 fun x129 h130 =>
  cI .i64 (cpy 1 x127 x129 h130) fun x131 h132 =>
  bA (ldA 8 x114 h132) h132 fun x133 h134 =>
  bA (ldA 64 x125 h134) h134 fun x135 h136 =>
  cA (e.C n_sha_Block [(.agg x133), (.agg x135)] h136) fun x137 h138 =>
  bS (st 8 x114 (.agg x137) h138) fun h139 =>
  J (x112, x113, x114, x115, ()) h139
theorem c11_eq (e : Cx) (x112 : V) (x113 : V) (x114 : V) (x115 : Int) (h : AH) (n : Kn) (ee : Ke) (r : Kn) : runL (cfgS e) lv 61 e.F (peel 3 (cP [6, 4, 1] B)).1 (mkT K18 (x112, x113, x114, x115, ())) h n ee r = c11 e (fun t h => n (mkT K18 t) h) (x112, x113, x114, x115, ()) h := by kernel_rfl
noncomputable def r11 (e : Cx) (Jn : P18 → AH → Res) (J0 : P29 → AH → Res) (Jr : PR → AH → Res) : P18 → AH → Res
| (x112, x113, x114, x115, _), h =>
  c11 e (r10 e Jn J0 Jr) (x112, x113, x114, x115, ()) h
theorem r11_eq (e : Cx) (Jn : P18 → AH → Res) (J0 : P29 → AH → Res) (Jr : PR → AH → Res) : ∀ t h, exL (cfgS e) lv 61 e.F (cP [6, 4] B) (mkT K18 t) h (jk K18 Jn) (exK [(0, (jk K29 J0))]) (jk KR Jr) = r11 e Jn J0 Jr t h
| (x112, x113, x114, x115, _), h => (nd_norm' (X := (cP [6, 4] B)) (a := cP [6, 4, 0] B) (b := cP [6, 5] B) (L := K18) (by kernel_rfl) (by kernel_rfl) (by kernel_rfl) (SB := (r10 e Jn J0 Jr)) (r10_eq e Jn J0 Jr) _ _).trans (nd_block' (X := cP [6, 4, 0] B) (id := 1) (b := cP [6, 4, 1] B) (by kernel_rfl) (nd_chain' (X := cP [6, 4, 1] B) (Y := .skip) 3 (L := K18) (S := fun J => c11 e J (x112, x113, x114, x115, ()) h) (Q := (r10 e Jn J0 Jr)) (by kernel_rfl) (fun n => c11_eq e x112 x113 x114 x115 h n (exK [(1, (jk K18 (r10 e Jn J0 Jr))), (0, (jk K29 J0))]) (jk KR Jr)) (fun t h => by kernel_rfl)))
noncomputable def c9 (e : Cx) (J : P20 → AH → Res) : P18 → AH → Res
| (x108, x109, x110, x111, _), h =>
  bI .i64 (lenS x109) h fun x145 h146 =>
  J (x108, x109, x110, x111, (decide ((wr .i64 (x111 + 64)) ≤ x145)), ()) h146
theorem c9_eq (e : Cx) (x108 : V) (x109 : V) (x110 : V) (x111 : Int) (h : AH) (n : Kn) (ee : Ke) (r : Kn) : runL (cfgS e) lv 61 e.F (peel 1 (cP [6, 3, 0] B)).1 (mkT K18 (x108, x109, x110, x111, ())) h n ee r = c9 e (fun t h => n (mkT K20 t) h) (x108, x109, x110, x111, ()) h := by kernel_rfl
noncomputable def k9 (e : Cx) (Jn : P18 → AH → Res) (J0 : P29 → AH → Res) (Jr : PR → AH → Res) : P20 → AH → Res
| (x153, x154, x155, x156, x157, _), h =>
  bif x157 then Jn (x153, x154, x155, x156, ()) h else J0 (x153, x155, ()) h
theorem k9_eq (e : Cx) (Jn : P18 → AH → Res) (J0 : P29 → AH → Res) (Jr : PR → AH → Res) : ∀ t h, exL (cfgS e) lv 61 e.F (cP [6, 3, 1] B) (mkT K20 t) h (jk K18 Jn) (exK [(0, (jk K29 J0))]) (jk KR Jr) = k9 e Jn J0 Jr t h
| (x153, x154, x155, x156, x157, _), h => nd_cond' (X := cP [6, 3, 1] B) (a := cP [6, 3, 1, 0] B) (b := cP [6, 3, 2] B) (t := x157) (x := .tmp 27) (by kernel_rfl) (by kernel_rfl) (by kernel_rfl) (by kernel_rfl)
noncomputable def l9 (e : Cx) (Jn : P18 → AH → Res) (J0 : P29 → AH → Res) (Jr : PR → AH → Res) : P18 → AH → Res
| (x108, x109, x110, x111, _), h =>
  c9 e (k9 e (r11 e Jn J0 Jr) J0 Jr) (x108, x109, x110, x111, ()) h
theorem l9_eq (e : Cx) (Jn : P18 → AH → Res) (J0 : P29 → AH → Res) (Jr : PR → AH → Res) : ∀ t h, exL (cfgS e) lv 61 e.F (cP [6, 3] B) (mkT K18 t) h (jk K18 Jn) (exK [(0, (jk K29 J0))]) (jk KR Jr) = l9 e Jn J0 Jr t h
| (x108, x109, x110, x111, _), h => (nd_norm' (X := (cP [6, 3] B)) (a := cP [6, 3, 0] B) (b := cP [6, 4] B) (L := K18) (by kernel_rfl) (by kernel_rfl) (by kernel_rfl) (SB := (r11 e Jn J0 Jr)) (r11_eq e Jn J0 Jr) _ _).trans (nd_chain' (X := cP [6, 3, 0] B) (Y := (cP [6, 3, 1] B)) 1 (L := K20) (S := fun J => c9 e J (x108, x109, x110, x111, ()) h) (Q := (k9 e (r11 e Jn J0 Jr) J0 Jr)) (by kernel_rfl) (fun n => c9_eq e x108 x109 x110 x111 h n (exK [(0, (jk K29 J0))]) (jk KR Jr)) (k9_eq e (r11 e Jn J0 Jr) J0 Jr))
noncomputable def k8 (e : Cx) (Jn : P29 → AH → Res) (Jr : PR → AH → Res) : P18 → AH → Res
| (x104, x105, x106, x107, _), h =>
  loopN (P18) e.F (fun t h n => l9 e n Jn Jr t h) (x104, x105, x106, x107, ()) h
theorem k8_eq (e : Cx) (Jn : P29 → AH → Res) (Jr : PR → AH → Res) : ∀ t h, exL (cfgS e) lv 61 e.F (cP [6, 1] B) (mkT K18 t) h (jk K29 Jn) (exK []) (jk KR Jr) = k8 e Jn Jr t h
| (x104, x105, x106, x107, _), h => nd_block' (X := cP [6, 1] B) (id := 0) (b := cP [6, 2] B) (by kernel_rfl) ((nd_loop' (X := cP [6, 2] B) (b := cP [6, 3] B) (L := K18) (by kernel_rfl) (by kernel_rfl) (SB := fun n => l9 e n Jn Jr) (fun n => l9_eq e n Jn Jr) _ _).trans (by kernel_rfl))
noncomputable def k7 (e : Cx) (Jn : PR → AH → Res) (Jr : PR → AH → Res) : P16 → AH → Res
| (x29, x30, x31, _), h =>
  c8 e (k8 e (r14 e Jn Jr) Jr) (x29, x30, x31, ()) h
theorem k7_eq (e : Cx) (Jn : PR → AH → Res) (Jr : PR → AH → Res) : ∀ t h, exL (cfgS e) lv 61 e.F (cP [6] B) (mkT K16 t) h (jk KR Jn) (exK []) (jk KR Jr) = k7 e Jn Jr t h
| (x29, x30, x31, _), h => (nd_norm' (X := (cP [6] B)) (a := cP [6, 0] B) (b := cP [7] B) (L := K29) (by kernel_rfl) (by kernel_rfl) (by kernel_rfl) (SB := (r14 e Jn Jr)) (r14_eq e Jn Jr) _ _).trans (nd_chain' (X := cP [6, 0] B) (Y := (cP [6, 1] B)) 1 (L := K18) (S := fun J => c8 e J (x29, x30, x31, ()) h) (Q := (k8 e (r14 e Jn Jr) Jr)) (by kernel_rfl) (fun n => c8_eq e x29 x30 x31 h n (exK []) (jk KR Jr)) (k8_eq e (r14 e Jn Jr) Jr))
noncomputable def r7 (e : Cx) (Jn : PR → AH → Res) (Jr : PR → AH → Res) : P8 → AH → Res
| (x18, x19, _), h =>
  c7 e (k7 e Jn Jr) (x18, x19, ()) h
theorem r7_eq (e : Cx) (Jn : PR → AH → Res) (Jr : PR → AH → Res) : ∀ t h, exL (cfgS e) lv 61 e.F (cP [5] B) (mkT K8 t) h (jk KR Jn) (exK []) (jk KR Jr) = r7 e Jn Jr t h
| (x18, x19, _), h => nd_chain' (X := cP [5] B) (Y := (cP [6] B)) 1 (L := K16) (S := fun J => c7 e J (x18, x19, ()) h) (Q := (k7 e Jn Jr)) (by kernel_rfl) (fun n => c7_eq e x18 x19 h n (exK []) (jk KR Jr)) (k7_eq e Jn Jr)
noncomputable def c5 (e : Cx) (J : P12 → AH → Res) : P8 → AH → Res
| (x16, x17, _), h =>
  bI .i64 (lenS x17) h fun x158 h159 =>
  J (x16, x17, ((x158.tmod 64) != 0), ()) h159
theorem c5_eq (e : Cx) (x16 : V) (x17 : V) (h : AH) (n : Kn) (ee : Ke) (r : Kn) : runL (cfgS e) lv 61 e.F (peel 1 (cP [4, 0] B)).1 (mkT K8 (x16, x17, ())) h n ee r = c5 e (fun t h => n (mkT K12 t) h) (x16, x17, ()) h := by kernel_rfl
noncomputable def c6 (e : Cx) (J : P6 → AH → Res) : P12 → AH → Res
| (x164, x165, x166, _), h =>
  J (false, ()) h
theorem c6_eq (e : Cx) (x164 : V) (x165 : V) (x166 : Bool) (h : AH) (n : Kn) (ee : Ke) (r : Kn) : runL (cfgS e) lv 61 e.F (peel 1 (cP [4, 1, 0] B)).1 (mkT K12 (x164, x165, x166, ())) h n ee r = c6 e (fun t h => n (mkT K6 t) h) (x164, x165, x166, ()) h := by kernel_rfl
noncomputable def k5 (e : Cx) (Jn : P8 → AH → Res) (Jr : PR → AH → Res) : P12 → AH → Res
| (x164, x165, x166, _), h =>
  bif x166 then c6 e (fun | (x167, _), h168 => Jr ((.bool x167), ()) h168) (x164, x165, x166, ()) h else Jn (x164, x165, ()) h
theorem k5_eq (e : Cx) (Jn : P8 → AH → Res) (Jr : PR → AH → Res) : ∀ t h, exL (cfgS e) lv 61 e.F (cP [4, 1] B) (mkT K12 t) h (jk K8 Jn) (exK []) (jk KR Jr) = k5 e Jn Jr t h
| (x164, x165, x166, _), h => nd_cond' (X := cP [4, 1] B) (a := cP [4, 1, 0] B) (b := cP [4, 2] B) (t := x166) (x := .tmp 21) (by kernel_rfl) (by kernel_rfl) (nd_chain' (X := cP [4, 1, 0] B) (Y := (cP [4, 1, 1] B)) 1 (L := K6) (S := fun J => c6 e J (x164, x165, x166, ()) h) (Q := fun | (x167, _), h168 => Jr ((.bool x167), ()) h168) (by kernel_rfl) (fun n => c6_eq e x164 x165 x166 h n (exK []) (jk KR Jr)) (fun | (x167, _), h168 => by kernel_rfl)) (by kernel_rfl)
noncomputable def k4 (e : Cx) (Jn : PR → AH → Res) (Jr : PR → AH → Res) : P8 → AH → Res
| (x16, x17, _), h =>
  c5 e (k5 e (r7 e Jn Jr) Jr) (x16, x17, ()) h
theorem k4_eq (e : Cx) (Jn : PR → AH → Res) (Jr : PR → AH → Res) : ∀ t h, exL (cfgS e) lv 61 e.F (cP [4] B) (mkT K8 t) h (jk KR Jn) (exK []) (jk KR Jr) = k4 e Jn Jr t h
| (x16, x17, _), h => (nd_norm' (X := (cP [4] B)) (a := cP [4, 0] B) (b := cP [5] B) (L := K8) (by kernel_rfl) (by kernel_rfl) (by kernel_rfl) (SB := (r7 e Jn Jr)) (r7_eq e Jn Jr) _ _).trans (nd_chain' (X := cP [4, 0] B) (Y := (cP [4, 1] B)) 1 (L := K12) (S := fun J => c5 e J (x16, x17, ()) h) (Q := (k5 e (r7 e Jn Jr) Jr)) (by kernel_rfl) (fun n => c5_eq e x16 x17 h n (exK []) (jk KR Jr)) (k5_eq e (r7 e Jn Jr) Jr))
noncomputable def r3 (e : Cx) (Jn : PR → AH → Res) (Jr : PR → AH → Res) : P2 → AH → Res
| (x4, _), h =>
  c3 e (k4 e Jn Jr) (x4, ()) h
theorem r3_eq (e : Cx) (Jn : PR → AH → Res) (Jr : PR → AH → Res) : ∀ t h, exL (cfgS e) lv 61 e.F (cP [2] B) (mkT K2 t) h (jk KR Jn) (exK []) (jk KR Jr) = r3 e Jn Jr t h
| (x4, _), h => nd_chain' (X := cP [2] B) (Y := (cP [4] B)) 2 (L := K8) (S := fun J => c3 e J (x4, ()) h) (Q := (k4 e Jn Jr)) (by kernel_rfl) (fun n => c3_eq e x4 h n (exK []) (jk KR Jr)) (k4_eq e Jn Jr)
noncomputable def c1 (e : Cx) (J : P4 → AH → Res) : P2 → AH → Res
| (x3, _), h =>
  cB (e.C n_law01_awake [] h) fun x169 h170 =>
  J (x3, (!x169), ()) h170
theorem c1_eq (e : Cx) (x3 : V) (h : AH) (n : Kn) (ee : Ke) (r : Kn) : runL (cfgS e) lv 61 e.F (peel 1 (cP [1, 0] B)).1 (mkT K2 (x3, ())) h n ee r = c1 e (fun t h => n (mkT K4 t) h) (x3, ()) h := by kernel_rfl
noncomputable def c2 (e : Cx) (J : P6 → AH → Res) : P4 → AH → Res
| (x174, x175, _), h =>
  J (false, ()) h
theorem c2_eq (e : Cx) (x174 : V) (x175 : Bool) (h : AH) (n : Kn) (ee : Ke) (r : Kn) : runL (cfgS e) lv 61 e.F (peel 1 (cP [1, 1, 0] B)).1 (mkT K4 (x174, x175, ())) h n ee r = c2 e (fun t h => n (mkT K6 t) h) (x174, x175, ()) h := by kernel_rfl
noncomputable def k1 (e : Cx) (Jn : P2 → AH → Res) (Jr : PR → AH → Res) : P4 → AH → Res
| (x174, x175, _), h =>
  bif x175 then c2 e (fun | (x176, _), h177 => Jr ((.bool x176), ()) h177) (x174, x175, ()) h else Jn (x174, ()) h
theorem k1_eq (e : Cx) (Jn : P2 → AH → Res) (Jr : PR → AH → Res) : ∀ t h, exL (cfgS e) lv 61 e.F (cP [1, 1] B) (mkT K4 t) h (jk K2 Jn) (exK []) (jk KR Jr) = k1 e Jn Jr t h
| (x174, x175, _), h => nd_cond' (X := cP [1, 1] B) (a := cP [1, 1, 0] B) (b := cP [1, 2] B) (t := x175) (x := .tmp 10) (by kernel_rfl) (by kernel_rfl) (nd_chain' (X := cP [1, 1, 0] B) (Y := (cP [1, 1, 1] B)) 1 (L := K6) (S := fun J => c2 e J (x174, x175, ()) h) (Q := fun | (x176, _), h177 => Jr ((.bool x176), ()) h177) (by kernel_rfl) (fun n => c2_eq e x174 x175 h n (exK []) (jk KR Jr)) (fun | (x176, _), h177 => by kernel_rfl)) (by kernel_rfl)
noncomputable def k0 (e : Cx) (Jn : PR → AH → Res) (Jr : PR → AH → Res) : P2 → AH → Res
| (x3, _), h =>
  c1 e (k1 e (r3 e Jn Jr) Jr) (x3, ()) h
theorem k0_eq (e : Cx) (Jn : PR → AH → Res) (Jr : PR → AH → Res) : ∀ t h, exL (cfgS e) lv 61 e.F (cP [1] B) (mkT K2 t) h (jk KR Jn) (exK []) (jk KR Jr) = k0 e Jn Jr t h
| (x3, _), h => (nd_norm' (X := (cP [1] B)) (a := cP [1, 0] B) (b := cP [2] B) (L := K2) (by kernel_rfl) (by kernel_rfl) (by kernel_rfl) (SB := (r3 e Jn Jr)) (r3_eq e Jn Jr) _ _).trans (nd_chain' (X := cP [1, 0] B) (Y := (cP [1, 1] B)) 1 (L := K4) (S := fun J => c1 e J (x3, ()) h) (Q := (k1 e (r3 e Jn Jr) Jr)) (by kernel_rfl) (fun n => c1_eq e x3 h n (exK []) (jk KR Jr)) (k1_eq e (r3 e Jn Jr) Jr))
noncomputable def fn (e : Cx) (a0 : V) (h : AH) : Res :=
  c0 e (k0 e ret ret) (a0, ()) h
theorem run (e : Cx) (a0 : V) (h : AH) : execFn (cfgS e) (foLive lv) e.F n_law01_ShaChains [a0] h = fn e a0 h := by
  refine (fn_eq (c := cfgS e) (lv := lv) (PP.funcs.getD 5 default) B (by kernel_rfl) (by kernel_rfl) (Nat.le_of_ble_eq_true (by kernel_rfl))).trans ?_
  rw [ret_eq]
  exact nd_chain' (X := cP [0] B) (Y := (cP [1] B)) 1 (L := K2) (S := fun J => c0 e J (a0, ()) h) (Q := (k0 e ret ret)) (by kernel_rfl) (fun n => c0_eq e a0 h n (exK []) (jk KR ret)) (k0_eq e ret ret)
end law01_ShaChains
/-! codicil/codicillaw01.ShaFixed -/
namespace law01_ShaFixed
noncomputable def B : Code := cBody (PP.funcs.getD 6 default)
abbrev K2 : Slots := []
abbrev P2 := Unit
abbrev K4 : Slots := [(2, .int .i64)]
abbrev P4 := Int × Unit
abbrev K6 : Slots := [(0, .bool)]
abbrev P6 := Bool × Unit
def lv : Nat → Option Slots := fun k =>
  bif Nat.beq k 2 then some K2 else bif Nat.beq k 4 then some K4 else bif Nat.beq k 6 then some K6 else none
abbrev KR : Slots := [(0, .any)]
abbrev PR := V × Unit
noncomputable def ret : PR → AH → Res
| (x0, _), h => finW [some x0] h
theorem ret_eq (e : Cx) : fin (cfgS e) (foLive lv) (PP.funcs.getD 6 default) = jk KR ret := by kernel_rfl
noncomputable def c0 (e : Cx) (J : P6 → AH → Res) : Unit → AH → Res
| (_), h =>
  cV (e.C n_sha_Parse [(.str [69, 51, 98, 48, 99, 52, 52, 50, 57, 56, 102, 99, 49, 99, 49, 52, 57, 97, 102, 98, 102, 52, 99, 56, 57, 57, 54, 102, 98, 57, 50, 52, 50, 55, 97, 101, 52, 49, 101, 52, 54, 52, 57, 98, 57, 51, 52, 99, 97, 52, 57, 53, 57, 57, 49, 98, 55, 56, 53, 50, 98, 56, 53, 53])] h) fun x1 h2 =>
  bA (absExtract x1 0) h2 fun x3 h4 =>
  bI .i64 (absExtract x1 1) h4 fun x5 h6 =>
  let x7 := (al (List.replicate 32 (.int .u8 0)) T_api_Id h6).1
  let h8 := (al (List.replicate 32 (.int .u8 0)) T_api_Id h6).2
  bS (st 32 x7 (.agg x3) h8) fun h9 =>
  cB (e.C n_law01_awake [] h9) fun x10 h11 =>
  bif x10 then
    cA (e.C n_sha_Sum [(.nilslice)] h11) fun x12 h13 =>
    cZ (e.C n_sha_Hex [(.agg x12)] h13) fun x14 h15 =>
    let x16 : Bool := (natsEq x14 [101, 51, 98, 48, 99, 52, 52, 50, 57, 56, 102, 99, 49, 99, 49, 52, 57, 97, 102, 98, 102, 52, 99, 56, 57, 57, 54, 102, 98, 57, 50, 52, 50, 55, 97, 101, 52, 49, 101, 52, 54, 52, 57, 98, 57, 51, 52, 99, 97, 52, 57, 53, 57, 57, 49, 98, 55, 56, 53, 50, 98, 56, 53, 53])
    bif (bif true then x16 else false) then
      cV (e.C n_sha_Pad [(.int .i64 0)] h15) fun x17 h18 =>
      bI .i64 (lenS x17) h18 fun x19 h20 =>
      bif (bif true then (x19 == 64) else false) then
        cV (e.C n_sha_Pad [(.int .i64 55)] h20) fun x21 h22 =>
        bI .i64 (lenS x21) h22 fun x23 h24 =>
        bif (bif true then (x23 == 9) else false) then
          cV (e.C n_sha_Pad [(.int .i64 56)] h24) fun x25 h26 =>
          bI .i64 (lenS x25) h26 fun x27 h28 =>
          bif (bif true then (x27 == 72) else false) then
            cV (e.C n_sha_Pad [(.int .i64 (-5))] h28) fun x29 h30 =>
            bI .i64 (lenS x29) h30 fun x31 h32 =>
            bif (bif true then (x31 == 64) else false) then
              bif (bif true then (x5 == 4) else false) then
                cV (e.C n_sha_Pad [(.int .i64 9223372036854775807)] h32) fun x33 h34 =>
                bI .i64 (lenS x33) h34 fun x35 h36 =>
                let x37 : Bool := (bif true then (decide (x35 ≥ 9)) else false)
                J (x37, ()) h36
              else
                J (false, ()) h32
            else
              J (false, ()) h32
          else
            J (false, ()) h28
        else
          J (false, ()) h24
      else
        J (false, ()) h20
    else
      J (false, ()) h15
  else
    J (false, ()) h11
theorem c0_eq (e : Cx) (h : AH) (n : Kn) (ee : Ke) (r : Kn) : runL (cfgS e) lv 42 e.F (peel 3 (cP [0] B)).1 (iniT [] 0 .leaf) h n ee r = c0 e (fun t h => n (mkT K6 t) h) (()) h := by kernel_rfl
noncomputable def fn (e : Cx) (h : AH) : Res :=
  c0 e (fun | (x38, _), h39 => ret ((.bool x38), ()) h39) (()) h
theorem run (e : Cx) (h : AH) : execFn (cfgS e) (foLive lv) e.F n_law01_ShaFixed [] h = fn e  h := by
  refine (fn_eq (c := cfgS e) (lv := lv) (PP.funcs.getD 6 default) B (by kernel_rfl) (by kernel_rfl) (Nat.le_of_ble_eq_true (by kernel_rfl))).trans ?_
  rw [ret_eq]
  exact nd_chain' (X := cP [0] B) (Y := (cP [3] B)) 3 (L := K6) (S := fun J => c0 e J (()) h) (Q := fun | (x38, _), h39 => ret ((.bool x38), ()) h39) (by kernel_rfl) (fun n => c0_eq e h n (exK []) (jk KR ret)) (fun | (x38, _), h39 => by kernel_rfl)
end law01_ShaFixed
/-! codicil/codicillaw01.ShaWords -/
namespace law01_ShaWords
noncomputable def B : Code := cBody (PP.funcs.getD 7 default)
abbrev K2 : Slots := [(2, .str), (3, .any), (4, .any)]
abbrev P2 := List Nat × V × V × Unit
abbrev K4 : Slots := [(2, .str), (3, .any), (4, .any), (12, .bool)]
abbrev P4 := List Nat × V × V × Bool × Unit
abbrev K6 : Slots := [(6, .bool)]
abbrev P6 := Bool × Unit
abbrev K8 : Slots := [(2, .str), (3, .any), (4, .any), (7, .any), (8, .int .i64)]
abbrev P8 := List Nat × V × V × V × Int × Unit
abbrev K10 : Slots := [(3, .any), (4, .any), (7, .any), (8, .int .i64), (9, .any), (10, .int .i64)]
abbrev P10 := V × V × V × Int × V × Int × Unit
def lv : Nat → Option Slots := fun k =>
  bif Nat.beq k 2 then some K2 else bif Nat.beq k 4 then some K4 else bif Nat.beq k 6 then some K6 else bif Nat.beq k 7 then some K2 else bif Nat.beq k 8 then some K8 else bif Nat.beq k 10 then some K10 else bif Nat.beq k 12 then some K6 else none
abbrev KR : Slots := [(6, .any)]
abbrev PR := V × Unit
noncomputable def ret : PR → AH → Res
| (x6, _), h => finW [some x6] h
theorem ret_eq (e : Cx) : fin (cfgS e) (foLive lv) (PP.funcs.getD 7 default) = jk KR ret := by kernel_rfl
noncomputable def c0 (e : Cx) (J : P2 → AH → Res) : List V × List V × List Nat × Unit → AH → Res
| (a0, a1, a2, _), h =>
  cV (absBox T_api_Id (.agg a0) h) fun x1 h2 =>
  cV (absBox T_api_Id (.agg a1) h2) fun x3 h4 =>
  J (a2, x1, x3, ()) h4
theorem c0_eq (e : Cx) (a0 : List V) (a1 : List V) (a2 : List Nat) (h : AH) (n : Kn) (ee : Ke) (r : Kn) : runL (cfgS e) lv 47 e.F (peel 1 (cP [0] B)).1 (iniT [(.agg a0), (.agg a1), (.str a2)] 0 .leaf) h n ee r = c0 e (fun t h => n (mkT K2 t) h) (a0, a1, a2, ()) h := by kernel_rfl
noncomputable def c3 (e : Cx) (J : P6 → AH → Res) : P2 → AH → Res
| (x12, x13, x14, _), h =>
  cV (e.C n_sha_Parse [(.str x12)] h) fun x15 h16 =>
  bA (absExtract x15 0) h16 fun x17 h18 =>
  bI .i64 (absExtract x15 1) h18 fun x19 h20 =>
  let x21 := (al (List.replicate 32 (.int .u8 0)) T_api_Id h20).1
  let h22 := (al (List.replicate 32 (.int .u8 0)) T_api_Id h20).2
  bS (st 32 x21 (.agg x17) h22) fun h23 =>
  cV (e.C n_r01_DocParse [(.str x12)] h23) fun x24 h25 =>
  bA (absExtract x24 0) h25 fun x26 h27 =>
  bI .i64 (absExtract x24 1) h27 fun x28 h29 =>
  let x30 := (al (List.replicate 32 (.int .u8 0)) T_api_Id h29).1
  let h31 := (al (List.replicate 32 (.int .u8 0)) T_api_Id h29).2
  bS (st 32 x30 (.agg x26) h31) fun h32 =>
  bA (ldA 32 x21 h32) h32 fun x33 h34 =>
  bA (ldA 32 x30 h34) h34 fun x35 h36 =>
  bB (eqW PP false T_api_Id (.agg x33) (.agg x35)) h36 fun x37 h38 =>
  bif x37 then
    bif (bif true then (x19 == x28) else false) then
      bA (ldA 32 x13 h38) h38 fun x39 h40 =>
      cZ (quiet (fun h => e.C n_sha_Hex [(.agg x39)] h) h40) fun x41 h42 =>
      bA (ldA 32 x13 h42) h42 fun x43 h44 =>
      cZ (e.C n_r01_Hex [(.agg x43)] h44) fun x45 h46 =>
      let x47 : Bool := (bif true then (natsEq x41 x45) else false)
      bif x47 then
        bA (ldA 32 x13 h46) h46 fun x48 h49 =>
        bA (ldA 32 x14 h49) h49 fun x50 h51 =>
        cI .i64 (quiet (fun h => e.C n_sha_Compare [(.agg x48), (.agg x50)] h) h51) fun x52 h53 =>
        bA (ldA 32 x13 h53) h53 fun x54 h55 =>
        bA (ldA 32 x14 h55) h55 fun x56 h57 =>
        cI .i64 (e.C n_r01_Compare [(.agg x54), (.agg x56)] h57) fun x58 h59 =>
        J ((bif true then (x52 == x58) else false), ()) h59
      else
        J (false, ()) h46
    else
      J (false, ()) h38
  else
    J (false, ()) h38
theorem c3_eq (e : Cx) (x12 : List Nat) (x13 : V) (x14 : V) (h : AH) (n : Kn) (ee : Ke) (r : Kn) : runL (cfgS e) lv 47 e.F (peel 3 (cP [2] B)).1 (mkT K2 (x12, x13, x14, ())) h n ee r = c3 e (fun t h => n (mkT K6 t) h) (x12, x13, x14, ()) h := by kernel_rfl
noncomputable def r3 (e : Cx) (Jn : PR → AH → Res) (Jr : PR → AH → Res) : P2 → AH → Res
| (x12, x13, x14, _), h =>
  c3 e (fun | (x60, _), h61 => Jr ((.bool x60), ()) h61) (x12, x13, x14, ()) h
theorem r3_eq (e : Cx) (Jn : PR → AH → Res) (Jr : PR → AH → Res) : ∀ t h, exL (cfgS e) lv 47 e.F (cP [2] B) (mkT K2 t) h (jk KR Jn) (exK []) (jk KR Jr) = r3 e Jn Jr t h
| (x12, x13, x14, _), h => nd_chain' (X := cP [2] B) (Y := (cP [5] B)) 3 (L := K6) (S := fun J => c3 e J (x12, x13, x14, ()) h) (Q := fun | (x60, _), h61 => Jr ((.bool x60), ()) h61) (by kernel_rfl) (fun n => c3_eq e x12 x13 x14 h n (exK []) (jk KR Jr)) (fun | (x60, _), h61 => by kernel_rfl)
noncomputable def c1 (e : Cx) (J : P4 → AH → Res) : P2 → AH → Res
| (x9, x10, x11, _), h =>
  cB (e.C n_law01_awake [] h) fun x62 h63 =>
  J (x9, x10, x11, (!x62), ()) h63
theorem c1_eq (e : Cx) (x9 : List Nat) (x10 : V) (x11 : V) (h : AH) (n : Kn) (ee : Ke) (r : Kn) : runL (cfgS e) lv 47 e.F (peel 1 (cP [1, 0] B)).1 (mkT K2 (x9, x10, x11, ())) h n ee r = c1 e (fun t h => n (mkT K4 t) h) (x9, x10, x11, ()) h := by kernel_rfl
noncomputable def c2 (e : Cx) (J : P6 → AH → Res) : P4 → AH → Res
| (x69, x70, x71, x72, _), h =>
  J (false, ()) h
theorem c2_eq (e : Cx) (x69 : List Nat) (x70 : V) (x71 : V) (x72 : Bool) (h : AH) (n : Kn) (ee : Ke) (r : Kn) : runL (cfgS e) lv 47 e.F (peel 1 (cP [1, 1, 0] B)).1 (mkT K4 (x69, x70, x71, x72, ())) h n ee r = c2 e (fun t h => n (mkT K6 t) h) (x69, x70, x71, x72, ()) h := by kernel_rfl
noncomputable def k1 (e : Cx) (Jn : P2 → AH → Res) (Jr : PR → AH → Res) : P4 → AH → Res
| (x69, x70, x71, x72, _), h =>
  bif x72 then c2 e (fun | (x73, _), h74 => Jr ((.bool x73), ()) h74) (x69, x70, x71, x72, ()) h else Jn (x69, x70, x71, ()) h
theorem k1_eq (e : Cx) (Jn : P2 → AH → Res) (Jr : PR → AH → Res) : ∀ t h, exL (cfgS e) lv 47 e.F (cP [1, 1] B) (mkT K4 t) h (jk K2 Jn) (exK []) (jk KR Jr) = k1 e Jn Jr t h
| (x69, x70, x71, x72, _), h => nd_cond' (X := cP [1, 1] B) (a := cP [1, 1, 0] B) (b := cP [1, 2] B) (t := x72) (x := .tmp 12) (by kernel_rfl) (by kernel_rfl) (nd_chain' (X := cP [1, 1, 0] B) (Y := (cP [1, 1, 1] B)) 1 (L := K6) (S := fun J => c2 e J (x69, x70, x71, x72, ()) h) (Q := fun | (x73, _), h74 => Jr ((.bool x73), ()) h74) (by kernel_rfl) (fun n => c2_eq e x69 x70 x71 x72 h n (exK []) (jk KR Jr)) (fun | (x73, _), h74 => by kernel_rfl)) (by kernel_rfl)
noncomputable def k0 (e : Cx) (Jn : PR → AH → Res) (Jr : PR → AH → Res) : P2 → AH → Res
| (x9, x10, x11, _), h =>
  c1 e (k1 e (r3 e Jn Jr) Jr) (x9, x10, x11, ()) h
theorem k0_eq (e : Cx) (Jn : PR → AH → Res) (Jr : PR → AH → Res) : ∀ t h, exL (cfgS e) lv 47 e.F (cP [1] B) (mkT K2 t) h (jk KR Jn) (exK []) (jk KR Jr) = k0 e Jn Jr t h
| (x9, x10, x11, _), h => (nd_norm' (X := (cP [1] B)) (a := cP [1, 0] B) (b := cP [2] B) (L := K2) (by kernel_rfl) (by kernel_rfl) (by kernel_rfl) (SB := (r3 e Jn Jr)) (r3_eq e Jn Jr) _ _).trans (nd_chain' (X := cP [1, 0] B) (Y := (cP [1, 1] B)) 1 (L := K4) (S := fun J => c1 e J (x9, x10, x11, ()) h) (Q := (k1 e (r3 e Jn Jr) Jr)) (by kernel_rfl) (fun n => c1_eq e x9 x10 x11 h n (exK []) (jk KR Jr)) (k1_eq e (r3 e Jn Jr) Jr))
noncomputable def fn (e : Cx) (a0 : List V) (a1 : List V) (a2 : List Nat) (h : AH) : Res :=
  c0 e (k0 e ret ret) (a0, a1, a2, ()) h
theorem run (e : Cx) (a0 : List V) (a1 : List V) (a2 : List Nat) (h : AH) : execFn (cfgS e) (foLive lv) e.F n_law01_ShaWords [(.agg a0), (.agg a1), (.str a2)] h = fn e a0 a1 a2 h := by
  refine (fn_eq (c := cfgS e) (lv := lv) (PP.funcs.getD 7 default) B (by kernel_rfl) (by kernel_rfl) (Nat.le_of_ble_eq_true (by kernel_rfl))).trans ?_
  rw [ret_eq]
  exact nd_chain' (X := cP [0] B) (Y := (cP [1] B)) 1 (L := K2) (S := fun J => c0 e J (a0, a1, a2, ()) h) (Q := (k0 e ret ret)) (by kernel_rfl) (fun n => c0_eq e a0 a1 a2 h n (exK []) (jk KR ret)) (k0_eq e ret ret)
end law01_ShaWords
/-! codicil/codicillaw01.ShaBack -/
namespace law01_ShaBack
noncomputable def B : Code := cBody (PP.funcs.getD 8 default)
abbrev K2 : Slots := [(2, .str), (3, .any), (4, .any)]
abbrev P2 := List Nat × V × V × Unit
abbrev K4 : Slots := [(2, .str), (3, .any), (4, .any), (11, .bool)]
abbrev P4 := List Nat × V × V × Bool × Unit
abbrev K6 : Slots := [(6, .bool)]
abbrev P6 := Bool × Unit
abbrev K8 : Slots := [(2, .str), (3, .any), (4, .any), (7, .any), (8, .int .i64)]
abbrev P8 := List Nat × V × V × V × Int × Unit
abbrev K10 : Slots := [(2, .str), (46, .bool)]
abbrev P10 := List Nat × Bool × Unit
abbrev K13 : Slots := [(2, .str)]
abbrev P13 := List Nat × Unit
abbrev K14 : Slots := [(2, .str), (8, .int .i64), (9, .any)]
abbrev P14 := List Nat × Int × V × Unit
def lv : Nat → Option Slots := fun k =>
  bif Nat.beq k 2 then some K2 else bif Nat.beq k 4 then some K4 else bif Nat.beq k 6 then some K6 else bif Nat.beq k 7 then some K2 else bif Nat.beq k 8 then some K8 else bif Nat.beq k 10 then some K10 else bif Nat.beq k 12 then some K6 else bif Nat.beq k 13 then some K13 else bif Nat.beq k 14 then some K14 else bif Nat.beq k 16 then some K6 else none
abbrev KR : Slots := [(6, .any)]
abbrev PR := V × Unit
noncomputable def ret : PR → AH → Res
| (x6, _), h => finW [some x6] h
theorem ret_eq (e : Cx) : fin (cfgS e) (foLive lv) (PP.funcs.getD 8 default) = jk KR ret := by kernel_rfl
noncomputable def c0 (e : Cx) (J : P2 → AH → Res) : List V × List V × List Nat × Unit → AH → Res
| (a0, a1, a2, _), h =>
  cV (absBox T_api_Id (.agg a0) h) fun x1 h2 =>
  cV (absBox T_api_Id (.agg a1) h2) fun x3 h4 =>
  J (a2, x1, x3, ()) h4
theorem c0_eq (e : Cx) (a0 : List V) (a1 : List V) (a2 : List Nat) (h : AH) (n : Kn) (ee : Ke) (r : Kn) : runL (cfgS e) lv 69 e.F (peel 1 (cP [0] B)).1 (iniT [(.agg a0), (.agg a1), (.str a2)] 0 .leaf) h n ee r = c0 e (fun t h => n (mkT K2 t) h) (a0, a1, a2, ()) h := by kernel_rfl
noncomputable def c3 (e : Cx) (J : P8 → AH → Res) : P2 → AH → Res
| (x12, x13, x14, _), h =>
  bA (ldA 32 x13 h) h fun x15 h16 =>
  cZ (e.C n_sha_Hex [(.agg x15)] h16) fun x17 h18 =>
  cV (e.C n_sha_Parse [(.str x17)] h18) fun x19 h20 =>
  bA (absExtract x19 0) h20 fun x21 h22 =>
  bI .i64 (absExtract x19 1) h22 fun x23 h24 =>
  let x25 := (al (List.replicate 32 (.int .u8 0)) T_api_Id h24).1
  let h26 := (al (List.replicate 32 (.int .u8 0)) T_api_Id h24).2
  bS (st 32 x25 (.agg x21) h26) fun h27 =>
  J (x12, x13, x14, x25, x23, ()) h27
theorem c3_eq (e : Cx) (x12 : List Nat) (x13 : V) (x14 : V) (h : AH) (n : Kn) (ee : Ke) (r : Kn) : runL (cfgS e) lv 69 e.F (peel 1 (cP [2] B)).1 (mkT K2 (x12, x13, x14, ())) h n ee r = c3 e (fun t h => n (mkT K8 t) h) (x12, x13, x14, ()) h := by kernel_rfl
noncomputable def c6 (e : Cx) (J : P6 → AH → Res) : P13 → AH → Res
| (x39, _), h =>
  cV (e.C n_sha_Parse [(.str x39)] h) fun x40 h41 =>
  bA (absExtract x40 0) h41 fun x42 h43 =>
  bI .i64 (absExtract x40 1) h43 fun x44 h45 =>
  let x46 := (al (List.replicate 32 (.int .u8 0)) T_api_Id h45).1
  let h47 := (al (List.replicate 32 (.int .u8 0)) T_api_Id h45).2
  bS (st 32 x46 (.agg x42) h47) fun h48 =>
  bif (x44 != 0) then
    bA (ldA 32 x46 h48) h48 fun x49 h50 =>
    bA (bld [] (List.replicate 32 (.int .u8 0))) h50 fun x51 h52 =>
    bB (eqW PP false T_api_Id (.agg x49) (.agg x51)) h52 fun x53 h54 =>
    bif (bif true then x53 else false) then
      J (true, ()) h54
    else
      bif (x44 == 0) then
        bA (ldA 32 x46 h54) h54 fun x55 h56 =>
        cZ (e.C n_sha_Hex [(.agg x55)] h56) fun x57 h58 =>
        let x59 : Bool := (bif true then (natsEq x57 x39) else false)
        J ((bif false then true else x59), ()) h58
      else
        J ((bif false then true else false), ()) h54
  else
    bif (x44 == 0) then
      bA (ldA 32 x46 h48) h48 fun x60 h61 =>
      cZ (e.C n_sha_Hex [(.agg x60)] h61) fun x62 h63 =>
      let x64 : Bool := (bif true then (natsEq x62 x39) else false)
      J ((bif false then true else x64), ()) h63
    else
      J ((bif false then true else false), ()) h48
theorem c6_eq (e : Cx) (x39 : List Nat) (h : AH) (n : Kn) (ee : Ke) (r : Kn) : runL (cfgS e) lv 69 e.F (peel 2 (cP [4] B)).1 (mkT K13 (x39, ())) h n ee r = c6 e (fun t h => n (mkT K6 t) h) (x39, ()) h := by kernel_rfl
noncomputable def r6 (e : Cx) (Jn : PR → AH → Res) (Jr : PR → AH → Res) : P13 → AH → Res
| (x39, _), h =>
  c6 e (fun | (x65, _), h66 => Jr ((.bool x65), ()) h66) (x39, ()) h
theorem r6_eq (e : Cx) (Jn : PR → AH → Res) (Jr : PR → AH → Res) : ∀ t h, exL (cfgS e) lv 69 e.F (cP [4] B) (mkT K13 t) h (jk KR Jn) (exK []) (jk KR Jr) = r6 e Jn Jr t h
| (x39, _), h => nd_chain' (X := cP [4] B) (Y := (cP [6] B)) 2 (L := K6) (S := fun J => c6 e J (x39, ()) h) (Q := fun | (x65, _), h66 => Jr ((.bool x65), ()) h66) (by kernel_rfl) (fun n => c6_eq e x39 h n (exK []) (jk KR Jr)) (fun | (x65, _), h66 => by kernel_rfl)
noncomputable def c4 (e : Cx) (J : P10 → AH → Res) : P8 → AH → Res
| (x34, x35, x36, x37, x38, _), h =>
  bif (x38 != 0) then
    J (x34, true, ()) h
  else
    bA (ldA 32 x37 h) h fun x67 h68 =>
    bA (ldA 32 x35 h68) h68 fun x69 h70 =>
    bB (neW PP false T_api_Id (.agg x67) (.agg x69)) h70 fun x71 h72 =>
    bif (bif false then true else x71) then
      J (x34, true, ()) h72
    else
      bA (ldA 32 x35 h72) h72 fun x73 h74 =>
      cZ (quiet (fun h => e.C n_sha_Hex [(.agg x73)] h) h74) fun x75 h76 =>
      bA (ldA 32 x36 h76) h76 fun x77 h78 =>
      cZ (quiet (fun h => e.C n_sha_Hex [(.agg x77)] h) h78) fun x79 h80 =>
      bA (ldA 32 x35 h80) h80 fun x81 h82 =>
      bA (ldA 32 x36 h82) h82 fun x83 h84 =>
      cI .i64 (e.C n_sha_Compare [(.agg x81), (.agg x83)] h84) fun x85 h86 =>
      let x87 : Bool := (!((natsLt x75 x79) == (decide (x85 < 0))))
      bif (bif false then true else x87) then
        J (x34, true, ()) h86
      else
        bA (ldA 32 x35 h86) h86 fun x88 h89 =>
        bA (ldA 32 x36 h89) h89 fun x90 h91 =>
        cI .i64 (quiet (fun h => e.C n_sha_Compare [(.agg x88), (.agg x90)] h) h91) fun x92 h93 =>
        bA (ldA 32 x36 h93) h93 fun x94 h95 =>
        bA (ldA 32 x35 h95) h95 fun x96 h97 =>
        cI .i64 (e.C n_sha_Compare [(.agg x94), (.agg x96)] h97) fun x98 h99 =>
        let x100 : Bool := (bif false then true else (x92 != (wr .i64 (0 - x98))))
        J (x34, x100, ()) h99
theorem c4_eq (e : Cx) (x34 : List Nat) (x35 : V) (x36 : V) (x37 : V) (x38 : Int) (h : AH) (n : Kn) (ee : Ke) (r : Kn) : runL (cfgS e) lv 69 e.F (peel 1 (cP [3, 0] B)).1 (mkT K8 (x34, x35, x36, x37, x38, ())) h n ee r = c4 e (fun t h => n (mkT K10 t) h) (x34, x35, x36, x37, x38, ()) h := by kernel_rfl
noncomputable def c5 (e : Cx) (J : P6 → AH → Res) : P10 → AH → Res
| (x104, x105, _), h =>
  J (false, ()) h
theorem c5_eq (e : Cx) (x104 : List Nat) (x105 : Bool) (h : AH) (n : Kn) (ee : Ke) (r : Kn) : runL (cfgS e) lv 69 e.F (peel 1 (cP [3, 1, 0] B)).1 (mkT K10 (x104, x105, ())) h n ee r = c5 e (fun t h => n (mkT K6 t) h) (x104, x105, ()) h := by kernel_rfl
noncomputable def k4 (e : Cx) (Jn : P13 → AH → Res) (Jr : PR → AH → Res) : P10 → AH → Res
| (x104, x105, _), h =>
  bif x105 then c5 e (fun | (x106, _), h107 => Jr ((.bool x106), ()) h107) (x104, x105, ()) h else Jn (x104, ()) h
theorem k4_eq (e : Cx) (Jn : P13 → AH → Res) (Jr : PR → AH → Res) : ∀ t h, exL (cfgS e) lv 69 e.F (cP [3, 1] B) (mkT K10 t) h (jk K13 Jn) (exK []) (jk KR Jr) = k4 e Jn Jr t h
| (x104, x105, _), h => nd_cond' (X := cP [3, 1] B) (a := cP [3, 1, 0] B) (b := cP [3, 2] B) (t := x105) (x := .tmp 46) (by kernel_rfl) (by kernel_rfl) (nd_chain' (X := cP [3, 1, 0] B) (Y := (cP [3, 1, 1] B)) 1 (L := K6) (S := fun J => c5 e J (x104, x105, ()) h) (Q := fun | (x106, _), h107 => Jr ((.bool x106), ()) h107) (by kernel_rfl) (fun n => c5_eq e x104 x105 h n (exK []) (jk KR Jr)) (fun | (x106, _), h107 => by kernel_rfl)) (by kernel_rfl)
noncomputable def k3 (e : Cx) (Jn : PR → AH → Res) (Jr : PR → AH → Res) : P8 → AH → Res
| (x34, x35, x36, x37, x38, _), h =>
  c4 e (k4 e (r6 e Jn Jr) Jr) (x34, x35, x36, x37, x38, ()) h
theorem k3_eq (e : Cx) (Jn : PR → AH → Res) (Jr : PR → AH → Res) : ∀ t h, exL (cfgS e) lv 69 e.F (cP [3] B) (mkT K8 t) h (jk KR Jn) (exK []) (jk KR Jr) = k3 e Jn Jr t h
| (x34, x35, x36, x37, x38, _), h => (nd_norm' (X := (cP [3] B)) (a := cP [3, 0] B) (b := cP [4] B) (L := K13) (by kernel_rfl) (by kernel_rfl) (by kernel_rfl) (SB := (r6 e Jn Jr)) (r6_eq e Jn Jr) _ _).trans (nd_chain' (X := cP [3, 0] B) (Y := (cP [3, 1] B)) 1 (L := K10) (S := fun J => c4 e J (x34, x35, x36, x37, x38, ()) h) (Q := (k4 e (r6 e Jn Jr) Jr)) (by kernel_rfl) (fun n => c4_eq e x34 x35 x36 x37 x38 h n (exK []) (jk KR Jr)) (k4_eq e (r6 e Jn Jr) Jr))
noncomputable def r3 (e : Cx) (Jn : PR → AH → Res) (Jr : PR → AH → Res) : P2 → AH → Res
| (x12, x13, x14, _), h =>
  c3 e (k3 e Jn Jr) (x12, x13, x14, ()) h
theorem r3_eq (e : Cx) (Jn : PR → AH → Res) (Jr : PR → AH → Res) : ∀ t h, exL (cfgS e) lv 69 e.F (cP [2] B) (mkT K2 t) h (jk KR Jn) (exK []) (jk KR Jr) = r3 e Jn Jr t h
| (x12, x13, x14, _), h => nd_chain' (X := cP [2] B) (Y := (cP [3] B)) 1 (L := K8) (S := fun J => c3 e J (x12, x13, x14, ()) h) (Q := (k3 e Jn Jr)) (by kernel_rfl) (fun n => c3_eq e x12 x13 x14 h n (exK []) (jk KR Jr)) (k3_eq e Jn Jr)
noncomputable def c1 (e : Cx) (J : P4 → AH → Res) : P2 → AH → Res
| (x9, x10, x11, _), h =>
  cB (e.C n_law01_awake [] h) fun x108 h109 =>
  J (x9, x10, x11, (!x108), ()) h109
theorem c1_eq (e : Cx) (x9 : List Nat) (x10 : V) (x11 : V) (h : AH) (n : Kn) (ee : Ke) (r : Kn) : runL (cfgS e) lv 69 e.F (peel 1 (cP [1, 0] B)).1 (mkT K2 (x9, x10, x11, ())) h n ee r = c1 e (fun t h => n (mkT K4 t) h) (x9, x10, x11, ()) h := by kernel_rfl
noncomputable def c2 (e : Cx) (J : P6 → AH → Res) : P4 → AH → Res
| (x115, x116, x117, x118, _), h =>
  J (false, ()) h
theorem c2_eq (e : Cx) (x115 : List Nat) (x116 : V) (x117 : V) (x118 : Bool) (h : AH) (n : Kn) (ee : Ke) (r : Kn) : runL (cfgS e) lv 69 e.F (peel 1 (cP [1, 1, 0] B)).1 (mkT K4 (x115, x116, x117, x118, ())) h n ee r = c2 e (fun t h => n (mkT K6 t) h) (x115, x116, x117, x118, ()) h := by kernel_rfl
noncomputable def k1 (e : Cx) (Jn : P2 → AH → Res) (Jr : PR → AH → Res) : P4 → AH → Res
| (x115, x116, x117, x118, _), h =>
  bif x118 then c2 e (fun | (x119, _), h120 => Jr ((.bool x119), ()) h120) (x115, x116, x117, x118, ()) h else Jn (x115, x116, x117, ()) h
theorem k1_eq (e : Cx) (Jn : P2 → AH → Res) (Jr : PR → AH → Res) : ∀ t h, exL (cfgS e) lv 69 e.F (cP [1, 1] B) (mkT K4 t) h (jk K2 Jn) (exK []) (jk KR Jr) = k1 e Jn Jr t h
| (x115, x116, x117, x118, _), h => nd_cond' (X := cP [1, 1] B) (a := cP [1, 1, 0] B) (b := cP [1, 2] B) (t := x118) (x := .tmp 11) (by kernel_rfl) (by kernel_rfl) (nd_chain' (X := cP [1, 1, 0] B) (Y := (cP [1, 1, 1] B)) 1 (L := K6) (S := fun J => c2 e J (x115, x116, x117, x118, ()) h) (Q := fun | (x119, _), h120 => Jr ((.bool x119), ()) h120) (by kernel_rfl) (fun n => c2_eq e x115 x116 x117 x118 h n (exK []) (jk KR Jr)) (fun | (x119, _), h120 => by kernel_rfl)) (by kernel_rfl)
noncomputable def k0 (e : Cx) (Jn : PR → AH → Res) (Jr : PR → AH → Res) : P2 → AH → Res
| (x9, x10, x11, _), h =>
  c1 e (k1 e (r3 e Jn Jr) Jr) (x9, x10, x11, ()) h
theorem k0_eq (e : Cx) (Jn : PR → AH → Res) (Jr : PR → AH → Res) : ∀ t h, exL (cfgS e) lv 69 e.F (cP [1] B) (mkT K2 t) h (jk KR Jn) (exK []) (jk KR Jr) = k0 e Jn Jr t h
| (x9, x10, x11, _), h => (nd_norm' (X := (cP [1] B)) (a := cP [1, 0] B) (b := cP [2] B) (L := K2) (by kernel_rfl) (by kernel_rfl) (by kernel_rfl) (SB := (r3 e Jn Jr)) (r3_eq e Jn Jr) _ _).trans (nd_chain' (X := cP [1, 0] B) (Y := (cP [1, 1] B)) 1 (L := K4) (S := fun J => c1 e J (x9, x10, x11, ()) h) (Q := (k1 e (r3 e Jn Jr) Jr)) (by kernel_rfl) (fun n => c1_eq e x9 x10 x11 h n (exK []) (jk KR Jr)) (k1_eq e (r3 e Jn Jr) Jr))
noncomputable def fn (e : Cx) (a0 : List V) (a1 : List V) (a2 : List Nat) (h : AH) : Res :=
  c0 e (k0 e ret ret) (a0, a1, a2, ()) h
theorem run (e : Cx) (a0 : List V) (a1 : List V) (a2 : List Nat) (h : AH) : execFn (cfgS e) (foLive lv) e.F n_law01_ShaBack [(.agg a0), (.agg a1), (.str a2)] h = fn e a0 a1 a2 h := by
  refine (fn_eq (c := cfgS e) (lv := lv) (PP.funcs.getD 8 default) B (by kernel_rfl) (by kernel_rfl) (Nat.le_of_ble_eq_true (by kernel_rfl))).trans ?_
  rw [ret_eq]
  exact nd_chain' (X := cP [0] B) (Y := (cP [1] B)) 1 (L := K2) (S := fun J => c0 e J (a0, a1, a2, ()) h) (Q := (k0 e ret ret)) (by kernel_rfl) (fun n => c0_eq e a0 a1 a2 h n (exK []) (jk KR ret)) (k0_eq e ret ret)
end law01_ShaBack
/-! codicil/codicillaw01.awake -/
namespace law01_awake
noncomputable def B : Code := cBody (PP.funcs.getD 9 default)
abbrev K2 : Slots := []
abbrev P2 := Unit
abbrev K4 : Slots := [(0, .bool)]
abbrev P4 := Bool × Unit
def lv : Nat → Option Slots := fun k =>
  bif Nat.beq k 2 then some K2 else bif Nat.beq k 4 then some K4 else none
abbrev KR : Slots := [(0, .any)]
abbrev PR := V × Unit
noncomputable def ret : PR → AH → Res
| (x0, _), h => finW [some x0] h
theorem ret_eq (e : Cx) : fin (cfgS e) (foLive lv) (PP.funcs.getD 9 default) = jk KR ret := by kernel_rfl
noncomputable def c0 (e : Cx) (J : P4 → AH → Res) : Unit → AH → Res
| (_), h =>
  cV (bsl 1 3 [(0, 1, (.int .u8 97)), (1, 1, (.int .u8 98)), (2, 1, (.int .u8 99))] [.int .u8 0] T_uint8 h) fun x1 h2 =>
  cV (cvS T_uint8 x1 h2) fun x3 h4 =>
  cA (e.C n_sha_Sum [x3] h4) fun x5 h6 =>
  cZ (e.C n_sha_Hex [(.agg x5)] h6) fun x7 h8 =>
  let x9 : Bool := (natsEq x7 [98, 97, 55, 56, 49, 54, 98, 102, 56, 102, 48, 49, 99, 102, 101, 97, 52, 49, 52, 49, 52, 48, 100, 101, 53, 100, 97, 101, 50, 50, 50, 51, 98, 48, 48, 51, 54, 49, 97, 51, 57, 54, 49, 55, 55, 97, 57, 99, 98, 52, 49, 48, 102, 102, 54, 49, 102, 50, 48, 48, 49, 53, 97, 100])
  J (x9, ()) h8
theorem c0_eq (e : Cx) (h : AH) (n : Kn) (ee : Ke) (r : Kn) : runL (cfgS e) lv 6 e.F (peel 2 (cP [0] B)).1 (iniT [] 0 .leaf) h n ee r = c0 e (fun t h => n (mkT K4 t) h) (()) h := by kernel_rfl
noncomputable def fn (e : Cx) (h : AH) : Res :=
  c0 e (fun | (x10, _), h11 => ret ((.bool x10), ()) h11) (()) h
theorem run (e : Cx) (h : AH) : execFn (cfgS e) (foLive lv) e.F n_law01_awake [] h = fn e  h := by
  refine (fn_eq (c := cfgS e) (lv := lv) (PP.funcs.getD 9 default) B (by kernel_rfl) (by kernel_rfl) (Nat.le_of_ble_eq_true (by kernel_rfl))).trans ?_
  rw [ret_eq]
  exact nd_chain' (X := cP [0] B) (Y := (cP [2] B)) 2 (L := K4) (S := fun J => c0 e J (()) h) (Q := fun | (x10, _), h11 => ret ((.bool x10), ()) h11) (by kernel_rfl) (fun n => c0_eq e h n (exK []) (jk KR ret)) (fun | (x10, _), h11 => by kernel_rfl)
end law01_awake

end Go.Proofs.YtbeohojepniioaaDoor
