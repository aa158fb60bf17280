/-
  RenameLikes: the card. For any two texts the call comes back true, and all that was there reads as it did. No condition.
-/
import Derived.Test.YtcphjmgfgfjnpaaGreatDoorQLD
set_option linter.unusedVariables false
set_option linter.unusedSimpArgs false
set_option maxRecDepth 100000
namespace Go.Proofs.YtcphjmgfgfjnpaaGreatDoor
open Go Ev
namespace law20_RenameLikes
noncomputable def B : Code := cBody (PP.funcs.getD 3 default)
abbrev K2 : Slots := [(0, .any), (1, .any)]
abbrev P2 := V × V × Unit
abbrev K4 : Slots := [(0, .any), (1, .any), (7, .bool)]
abbrev P4 := V × V × Bool × Unit
abbrev K6 : Slots := [(4, .bool)]
abbrev P6 := Bool × Unit
abbrev K8 : Slots := [(0, .any), (1, .any), (15, .bool)]
abbrev P8 := V × V × Bool × Unit
abbrev K12 : Slots := [(0, .any), (1, .any), (5, .int .i64)]
abbrev P12 := V × V × Int × Unit
def lv : Nat → Option Slots := fun k =>
  bif Nat.beq k 2 then some K2 else bif Nat.beq k 4 then some K4 else bif Nat.beq k 6 then some K6 else bif Nat.beq k 7 then some K2 else bif Nat.beq k 8 then some K8 else bif Nat.beq k 10 then some K6 else bif Nat.beq k 11 then some K2 else bif Nat.beq k 12 then some K12 else bif Nat.beq k 14 then some K6 else none
abbrev KR : Slots := [(4, .any)]
abbrev PR := V × Unit
noncomputable def ret : PR → AH → Res
| (x4, _), h => finW [some x4] h
theorem ret_eq (e : Cx) : fin (cfgS e) (foLive lv) (PP.funcs.getD 3 default) = jk KR ret := by kernel_rfl
noncomputable def c0 (e : Cx) (J : P2 → AH → Res) : V × V × Unit → AH → Res
| (a0, a1, _), h =>
  J (a0, a1, ()) h
theorem c0_eq (e : Cx) (a0 : V) (a1 : V) (h : AH) (n : Kn) (ee : Ke) (r : Kn) : rgL (cfgS e) lv 41 e.F (peel 1 (cP [0] B)).1 (iniT [a0, a1] 0 .leaf) h n ee r = c0 e (fun t h => n (mkT K2 t) h) (a0, a1, ()) h := by kernel_rfl
noncomputable def c5 (e : Cx) (J : P6 → AH → Res) : P2 → AH → Res
| (x8, x9, _), h =>
  cI .i64 (e.C n_rename_Like [x8, x9] h) fun x10 h11 =>
  cZ (toS x8 h11) fun x12 h13 =>
  cZ (toS x9 h13) fun x14 h15 =>
  bif ((x10 == 100) == (natsEq x12 x14)) then
    let x16 : Bool := (bif true then (decide (x10 ≥ 0)) else false)
    bif x16 then
      let x17 : Bool := (bif true then (decide (x10 ≤ 100)) else false)
      bif x17 then
        cI .i64 (e.C n_rename_Like [x8, x8] h15) fun x18 h19 =>
        J ((bif true then (x18 == 100) else false), ()) h19
      else
        J (false, ()) h15
    else
      J (false, ()) h15
  else
    J (false, ()) h15
theorem c5_eq (e : Cx) (x8 : V) (x9 : V) (h : AH) (n : Kn) (ee : Ke) (r : Kn) : rgL (cfgS e) lv 41 e.F (peel 2 (cP [3] B)).1 (mkT K2 (x8, x9, ())) h n ee r = c5 e (fun t h => n (mkT K6 t) h) (x8, x9, ()) h := by kernel_rfl
noncomputable def r5 (e : Cx) (Jn : PR → AH → Res) (Jr : PR → AH → Res) : P2 → AH → Res
| (x8, x9, _), h =>
  c5 e (fun | (x20, _), h21 => Jr ((.bool x20), ()) h21) (x8, x9, ()) h
theorem r5_eq (e : Cx) (Jn : PR → AH → Res) (Jr : PR → AH → Res) : ∀ t h, exL (cfgS e) lv 41 e.F (cP [3] B) (mkT K2 t) h (jk KR Jn) (exK []) (jk KR Jr) = r5 e Jn Jr t h
| (x8, x9, _), h => nd_chain' (X := cP [3] B) (Y := (cP [5] B)) 2 (L := K6) (S := fun J => c5 e J (x8, x9, ()) h) (Q := fun | (x20, _), h21 => Jr ((.bool x20), ()) h21) (by kernel_rfl) (fun n => c5_eq e x8 x9 h n (exK []) (jk KR Jr)) (fun | (x20, _), h21 => by kernel_rfl)
noncomputable def c3 (e : Cx) (J : P8 → AH → Res) : P2 → AH → Res
| (x6, x7, _), h =>
  bI .i64 (lenS x6) h fun x22 h23 =>
  bif (decide (x22 > 2000)) then
    J (x6, x7, true, ()) h23
  else
    bI .i64 (lenS x7) h23 fun x24 h25 =>
    let x26 : Bool := (bif false then true else (decide (x24 > 2000)))
    J (x6, x7, x26, ()) h25
theorem c3_eq (e : Cx) (x6 : V) (x7 : V) (h : AH) (n : Kn) (ee : Ke) (r : Kn) : rgL (cfgS e) lv 41 e.F (peel 1 (cP [2, 0] B)).1 (mkT K2 (x6, x7, ())) h n ee r = c3 e (fun t h => n (mkT K8 t) h) (x6, x7, ()) h := by kernel_rfl
noncomputable def c4 (e : Cx) (J : P6 → AH → Res) : P8 → AH → Res
| (x31, x32, x33, _), h =>
  J (true, ()) h
theorem c4_eq (e : Cx) (x31 : V) (x32 : V) (x33 : Bool) (h : AH) (n : Kn) (ee : Ke) (r : Kn) : rgL (cfgS e) lv 41 e.F (peel 1 (cP [2, 1, 0] B)).1 (mkT K8 (x31, x32, x33, ())) h n ee r = c4 e (fun t h => n (mkT K6 t) h) (x31, x32, x33, ()) h := by kernel_rfl
noncomputable def k3 (e : Cx) (Jn : P2 → AH → Res) (Jr : PR → AH → Res) : P8 → AH → Res
| (x31, x32, x33, _), h =>
  bif x33 then c4 e (fun | (x34, _), h35 => Jr ((.bool x34), ()) h35) (x31, x32, x33, ()) h else Jn (x31, x32, ()) h
theorem k3_eq (e : Cx) (Jn : P2 → AH → Res) (Jr : PR → AH → Res) : ∀ t h, exL (cfgS e) lv 41 e.F (cP [2, 1] B) (mkT K8 t) h (jk K2 Jn) (exK []) (jk KR Jr) = k3 e Jn Jr t h
| (x31, x32, x33, _), h => nd_cond' (X := cP [2, 1] B) (a := cP [2, 1, 0] B) (b := cP [2, 2] B) (t := x33) (x := .tmp 15) (by kernel_rfl) (by kernel_rfl) (nd_chain' (X := cP [2, 1, 0] B) (Y := (cP [2, 1, 1] B)) 1 (L := K6) (S := fun J => c4 e J (x31, x32, x33, ()) h) (Q := fun | (x34, _), h35 => Jr ((.bool x34), ()) h35) (by kernel_rfl) (fun n => c4_eq e x31 x32 x33 h n (exK []) (jk KR Jr)) (fun | (x34, _), h35 => by kernel_rfl)) (by kernel_rfl)
noncomputable def r3 (e : Cx) (Jn : PR → AH → Res) (Jr : PR → AH → Res) : P2 → AH → Res
| (x6, x7, _), h =>
  c3 e (k3 e (r5 e Jn Jr) Jr) (x6, x7, ()) h
theorem r3_eq (e : Cx) (Jn : PR → AH → Res) (Jr : PR → AH → Res) : ∀ t h, exL (cfgS e) lv 41 e.F (cP [2] B) (mkT K2 t) h (jk KR Jn) (exK []) (jk KR Jr) = r3 e Jn Jr t h
| (x6, x7, _), h => (nd_norm' (X := (cP [2] B)) (a := cP [2, 0] B) (b := cP [3] B) (L := K2) (by kernel_rfl) (by kernel_rfl) (by kernel_rfl) (SB := (r5 e Jn Jr)) (r5_eq e Jn Jr) _ _).trans (nd_chain' (X := cP [2, 0] B) (Y := (cP [2, 1] B)) 1 (L := K8) (S := fun J => c3 e J (x6, x7, ()) h) (Q := (k3 e (r5 e Jn Jr) Jr)) (by kernel_rfl) (fun n => c3_eq e x6 x7 h n (exK []) (jk KR Jr)) (k3_eq e (r5 e Jn Jr) Jr))
noncomputable def c1 (e : Cx) (J : P4 → AH → Res) : P2 → AH → Res
| (x4, x5, _), h =>
  cB (e.C n_law20_awake [] h) fun x36 h37 =>
  J (x4, x5, (!x36), ()) h37
theorem c1_eq (e : Cx) (x4 : V) (x5 : V) (h : AH) (n : Kn) (ee : Ke) (r : Kn) : rgL (cfgS e) lv 41 e.F (peel 1 (cP [1, 0] B)).1 (mkT K2 (x4, x5, ())) h n ee r = c1 e (fun t h => n (mkT K4 t) h) (x4, x5, ()) h := by kernel_rfl
noncomputable def c2 (e : Cx) (J : P6 → AH → Res) : P4 → AH → Res
| (x42, x43, x44, _), h =>
  J (false, ()) h
theorem c2_eq (e : Cx) (x42 : V) (x43 : V) (x44 : Bool) (h : AH) (n : Kn) (ee : Ke) (r : Kn) : rgL (cfgS e) lv 41 e.F (peel 1 (cP [1, 1, 0] B)).1 (mkT K4 (x42, x43, x44, ())) h n ee r = c2 e (fun t h => n (mkT K6 t) h) (x42, x43, x44, ()) h := by kernel_rfl
noncomputable def k1 (e : Cx) (Jn : P2 → AH → Res) (Jr : PR → AH → Res) : P4 → AH → Res
| (x42, x43, x44, _), h =>
  bif x44 then c2 e (fun | (x45, _), h46 => Jr ((.bool x45), ()) h46) (x42, x43, x44, ()) h else Jn (x42, x43, ()) h
theorem k1_eq (e : Cx) (Jn : P2 → AH → Res) (Jr : PR → AH → Res) : ∀ t h, exL (cfgS e) lv 41 e.F (cP [1, 1] B) (mkT K4 t) h (jk K2 Jn) (exK []) (jk KR Jr) = k1 e Jn Jr t h
| (x42, x43, x44, _), h => nd_cond' (X := cP [1, 1] B) (a := cP [1, 1, 0] B) (b := cP [1, 2] B) (t := x44) (x := .tmp 7) (by kernel_rfl) (by kernel_rfl) (nd_chain' (X := cP [1, 1, 0] B) (Y := (cP [1, 1, 1] B)) 1 (L := K6) (S := fun J => c2 e J (x42, x43, x44, ()) h) (Q := fun | (x45, _), h46 => Jr ((.bool x45), ()) h46) (by kernel_rfl) (fun n => c2_eq e x42 x43 x44 h n (exK []) (jk KR Jr)) (fun | (x45, _), h46 => by kernel_rfl)) (by kernel_rfl)
noncomputable def k0 (e : Cx) (Jn : PR → AH → Res) (Jr : PR → AH → Res) : P2 → AH → Res
| (x4, x5, _), h =>
  c1 e (k1 e (r3 e Jn Jr) Jr) (x4, x5, ()) h
theorem k0_eq (e : Cx) (Jn : PR → AH → Res) (Jr : PR → AH → Res) : ∀ t h, exL (cfgS e) lv 41 e.F (cP [1] B) (mkT K2 t) h (jk KR Jn) (exK []) (jk KR Jr) = k0 e Jn Jr t h
| (x4, x5, _), h => (nd_norm' (X := (cP [1] B)) (a := cP [1, 0] B) (b := cP [2] B) (L := K2) (by kernel_rfl) (by kernel_rfl) (by kernel_rfl) (SB := (r3 e Jn Jr)) (r3_eq e Jn Jr) _ _).trans (nd_chain' (X := cP [1, 0] B) (Y := (cP [1, 1] B)) 1 (L := K4) (S := fun J => c1 e J (x4, x5, ()) h) (Q := (k1 e (r3 e Jn Jr) Jr)) (by kernel_rfl) (fun n => c1_eq e x4 x5 h n (exK []) (jk KR Jr)) (k1_eq e (r3 e Jn Jr) Jr))
noncomputable def fn (e : Cx) (a0 : V) (a1 : V) (h : AH) : Res :=
  c0 e (k0 e ret ret) (a0, a1, ()) h
theorem run (e : Cx) (a0 : V) (a1 : V) (h : AH) : execFn (cfgS e) (foLive lv) e.F n_law20_RenameLikes [a0, a1] h = fn e a0 a1 h := by
  refine (fn_eq (c := cfgS e) (lv := lv) (PP.funcs.getD 3 default) B (by kernel_rfl) (by kernel_rfl) (Nat.le_of_ble_eq_true (by kernel_rfl))).trans ?_
  rw [ret_eq]
  exact nd_chain' (X := cP [0] B) (Y := (cP [1] B)) 1 (L := K2) (S := fun J => c0 e J (a0, a1, ()) h) (Q := (k0 e ret ret)) (by kernel_rfl) (fun n => c0_eq e a0 a1 h n (exK []) (jk KR ret)) (k0_eq e ret ret)
end law20_RenameLikes
namespace rename_Like
noncomputable def B : Code := cBody (PP.funcs.getD 5 default)
abbrev K2 : Slots := [(0, .any), (1, .any)]
abbrev P2 := V × V × Unit
abbrev K4 : Slots := [(0, .any), (1, .any), (10, .bool)]
abbrev P4 := V × V × Bool × Unit
abbrev K8 : Slots := [(0, .any), (1, .any), (14, .bool)]
abbrev P8 := V × V × Bool × Unit
abbrev K10 : Slots := [(4, .int .i64)]
abbrev P10 := Int × Unit
abbrev K12 : Slots := [(0, .any), (1, .any), (5, .any)]
abbrev P12 := V × V × V × Unit
abbrev K14 : Slots := [(0, .any), (1, .any), (5, .any), (6, .any), (7, .int .i64)]
abbrev P14 := V × V × V × V × Int × Unit
abbrev K16 : Slots := [(0, .any), (1, .any), (5, .any), (6, .any), (33, .bool)]
abbrev P16 := V × V × V × V × Bool × Unit
abbrev K19 : Slots := [(0, .any), (1, .any), (5, .any), (6, .any)]
abbrev P19 := V × V × V × V × Unit
abbrev K20 : Slots := [(0, .any), (1, .any), (5, .any), (6, .any), (8, .int .i64)]
abbrev P20 := V × V × V × V × Int × Unit
abbrev K22 : Slots := [(0, .any), (1, .any), (5, .any), (6, .any), (8, .int .i64), (36, .int .i64), (37, .int .i64)]
abbrev P22 := V × V × V × V × Int × Int × Int × Unit
abbrev K24 : Slots := [(0, .any), (1, .any), (5, .any), (6, .any), (8, .int .i64), (36, .int .i64), (37, .int .i64), (38, .bool)]
abbrev P24 := V × V × V × V × Int × Int × Int × Bool × Unit
abbrev K26 : Slots := [(0, .any), (1, .any), (5, .any), (6, .any), (8, .int .i64), (9, .int .i64), (36, .int .i64), (37, .int .i64)]
abbrev P26 := V × V × V × V × Int × Int × Int × Int × Unit
abbrev K28 : Slots := [(0, .any), (1, .any), (5, .any), (6, .any), (8, .int .i64), (9, .int .i64), (36, .int .i64), (37, .int .i64), (50, .bool)]
abbrev P28 := V × V × V × V × Int × Int × Int × Int × Bool × Unit
abbrev K33 : Slots := [(0, .any), (1, .any), (8, .int .i64)]
abbrev P33 := V × V × Int × Unit
def lv : Nat → Option Slots := fun k =>
  bif Nat.beq k 2 then some K2 else bif Nat.beq k 4 then some K4 else bif Nat.beq k 8 then some K8 else bif Nat.beq k 10 then some K10 else bif Nat.beq k 6 then some K10 else bif Nat.beq k 11 then some K2 else bif Nat.beq k 12 then some K12 else bif Nat.beq k 14 then some K14 else bif Nat.beq k 16 then some K16 else bif Nat.beq k 18 then some K10 else bif Nat.beq k 19 then some K19 else bif Nat.beq k 20 then some K20 else bif Nat.beq k 22 then some K22 else bif Nat.beq k 24 then some K24 else bif Nat.beq k 25 then some K22 else bif Nat.beq k 26 then some K26 else bif Nat.beq k 28 then some K28 else bif Nat.beq k 30 then some K22 else bif Nat.beq k 31 then some K22 else bif Nat.beq k 32 then some K22 else bif Nat.beq k 23 then some K22 else bif Nat.beq k 33 then some K33 else bif Nat.beq k 34 then some K10 else none
abbrev KR : Slots := [(4, .any)]
abbrev PR := V × Unit
noncomputable def ret : PR → AH → Res
| (x4, _), h => finW [some x4] h
theorem ret_eq (e : Cx) : fin (cfgS e) (foLive lv) (PP.funcs.getD 5 default) = jk KR ret := by kernel_rfl
noncomputable def c0 (e : Cx) (J : P2 → AH → Res) : V × V × Unit → AH → Res
| (a0, a1, _), h =>
  J (a0, a1, ()) h
theorem c0_eq (e : Cx) (a0 : V) (a1 : V) (h : AH) (n : Kn) (ee : Ke) (r : Kn) : rgL (cfgS e) lv 73 e.F (peel 1 (cP [0] B)).1 (iniT [a0, a1] 0 .leaf) h n ee r = c0 e (fun t h => n (mkT K2 t) h) (a0, a1, ()) h := by kernel_rfl
noncomputable def c5 (e : Cx) (J : P14 → AH → Res) : P2 → AH → Res
| (x6, x7, _), h =>
  cV (e.C n_diff_Lines [x6] h) fun x8 h9 =>
  cV (e.C n_diff_Lines [x7] h9) fun x10 h11 =>
  cV (e.C n_diff_Way [x8, x10] h11) fun x12 h13 =>
  bV (absExtract x12 0) h13 fun x14 h15 =>
  bI .i64 (absExtract x12 1) h15 fun x16 h17 =>
  J (x6, x7, x8, x14, x16, ()) h17
theorem c5_eq (e : Cx) (x6 : V) (x7 : V) (h : AH) (n : Kn) (ee : Ke) (r : Kn) : rgL (cfgS e) lv 73 e.F (peel 2 (cP [2] B)).1 (mkT K2 (x6, x7, ())) h n ee r = c5 e (fun t h => n (mkT K14 t) h) (x6, x7, ()) h := by kernel_rfl
noncomputable def c9 (e : Cx) (J : P20 → AH → Res) : P19 → AH → Res
| (x29, x30, x31, x32, _), h =>
  J (x29, x30, x31, x32, 0, ()) h
theorem c9_eq (e : Cx) (x29 : V) (x30 : V) (x31 : V) (x32 : V) (h : AH) (n : Kn) (ee : Ke) (r : Kn) : rgL (cfgS e) lv 73 e.F (peel 1 (cP [5] B)).1 (mkT K19 (x29, x30, x31, x32, ())) h n ee r = c9 e (fun t h => n (mkT K20 t) h) (x29, x30, x31, x32, ()) h := by kernel_rfl
noncomputable def c16 (e : Cx) (J : P10 → AH → Res) : P33 → AH → Res
| (x44, x45, x46, _), h =>
  bI .i64 (lenS x44) h fun x47 h48 =>
  bI .i64 (lenS x45) h48 fun x49 h50 =>
  bI .i64 (if (wr .i64 (x47 + x49)) = 0 then none else some (.int .i64 (wr .i64 ((wr .i64 (200 * x46)).tdiv (wr .i64 (x47 + x49)))))) h50 fun x51 h52 =>
  J ((imin x51 99), ()) h52
theorem c16_eq (e : Cx) (x44 : V) (x45 : V) (x46 : Int) (h : AH) (n : Kn) (ee : Ke) (r : Kn) : rgL (cfgS e) lv 73 e.F (peel 1 (cP [7] B)).1 (mkT K33 (x44, x45, x46, ())) h n ee r = c16 e (fun t h => n (mkT K10 t) h) (x44, x45, x46, ()) h := by kernel_rfl
noncomputable def r16 (e : Cx) (Jn : PR → AH → Res) (Jr : PR → AH → Res) : P33 → AH → Res
| (x44, x45, x46, _), h =>
  c16 e (fun | (x53, _), h54 => Jr ((.int .i64 x53), ()) h54) (x44, x45, x46, ()) h
theorem r16_eq (e : Cx) (Jn : PR → AH → Res) (Jr : PR → AH → Res) : ∀ t h, exL (cfgS e) lv 73 e.F (cP [7] B) (mkT K33 t) h (jk KR Jn) (exK []) (jk KR Jr) = r16 e Jn Jr t h
| (x44, x45, x46, _), h => nd_chain' (X := cP [7] B) (Y := (cP [8] B)) 1 (L := K10) (S := fun J => c16 e J (x44, x45, x46, ()) h) (Q := fun | (x53, _), h54 => Jr ((.int .i64 x53), ()) h54) (by kernel_rfl) (fun n => c16_eq e x44 x45 x46 h n (exK []) (jk KR Jr)) (fun | (x53, _), h54 => by kernel_rfl)
noncomputable def c10 (e : Cx) (J : P22 → AH → Res) : P20 → AH → Res
| (x39, x40, x41, x42, x43, _), h =>
  bI .i64 (lenS x42) h fun x55 h56 =>
  J (x39, x40, x41, x42, x43, (wr .i64 (x55 - 1)), 0, ()) h56
theorem c10_eq (e : Cx) (x39 : V) (x40 : V) (x41 : V) (x42 : V) (x43 : Int) (h : AH) (n : Kn) (ee : Ke) (r : Kn) : rgL (cfgS e) lv 73 e.F (peel 1 (cP [6, 0] B)).1 (mkT K20 (x39, x40, x41, x42, x43, ())) h n ee r = c10 e (fun t h => n (mkT K22 t) h) (x39, x40, x41, x42, x43, ()) h := by kernel_rfl
noncomputable def c11 (e : Cx) (J : P24 → AH → Res) : P22 → AH → Res
| (x72, x73, x74, x75, x76, x77, x78, _), h =>
  J (x72, x73, x74, x75, x76, x77, x78, (decide (x78 < x77)), ()) h
theorem c11_eq (e : Cx) (x72 : V) (x73 : V) (x74 : V) (x75 : V) (x76 : Int) (x77 : Int) (x78 : Int) (h : AH) (n : Kn) (ee : Ke) (r : Kn) : rgL (cfgS e) lv 73 e.F (peel 1 (cP [6, 3] B)).1 (mkT K22 (x72, x73, x74, x75, x76, x77, x78, ())) h n ee r = c11 e (fun t h => n (mkT K24 t) h) (x72, x73, x74, x75, x76, x77, x78, ()) h := by kernel_rfl
noncomputable def c15 (e : Cx) (J : P22 → AH → Res) : P22 → AH → Res
| (x103, x104, x105, x106, x107, x108, x109, _), h =>
  J (x103, x104, x105, x106, x107, x108, (wr .i64 (x109 + 1)), ()) h
theorem c15_eq (e : Cx) (x103 : V) (x104 : V) (x105 : V) (x106 : V) (x107 : Int) (x108 : Int) (x109 : Int) (h : AH) (n : Kn) (ee : Ke) (r : Kn) : rgL (cfgS e) lv 73 e.F (peel 1 (cP [6, 6] B)).1 (mkT K22 (x103, x104, x105, x106, x107, x108, x109, ())) h n ee r = c15 e (fun t h => n (mkT K22 t) h) (x103, x104, x105, x106, x107, x108, x109, ()) h := by kernel_rfl
noncomputable def r15 (e : Cx) (Jn : P22 → AH → Res) (J1 : P33 → AH → Res) (Jr : PR → AH → Res) : P22 → AH → Res
| (x103, x104, x105, x106, x107, x108, x109, _), h =>
  c15 e Jn (x103, x104, x105, x106, x107, x108, x109, ()) h
theorem r15_eq (e : Cx) (Jn : P22 → AH → Res) (J1 : P33 → AH → Res) (Jr : PR → AH → Res) : ∀ t h, exL (cfgS e) lv 73 e.F (cP [6, 6] B) (mkT K22 t) h (jk K22 Jn) (exK [(1, (jk K33 J1))]) (jk KR Jr) = r15 e Jn J1 Jr t h
| (x103, x104, x105, x106, x107, x108, x109, _), h => nd_chain' (X := cP [6, 6] B) (Y := .skip) 1 (L := K22) (S := fun J => c15 e J (x103, x104, x105, x106, x107, x108, x109, ()) h) (Q := Jn) (by kernel_rfl) (fun n => c15_eq e x103 x104 x105 x106 x107 x108 x109 h n (exK [(1, (jk K33 J1))]) (jk KR Jr)) (fun t h => by kernel_rfl)
noncomputable def c12 (e : Cx) (J : P28 → AH → Res) : P22 → AH → Res
| (x96, x97, x98, x99, x100, x101, x102, _), h =>
  bV (ixS 1 x99 (wr .i64 (x102 + 1))) h fun x118 h119 =>
  bV (ld x118 h119) h119 fun x120 h121 =>
  bV (ixS 1 x99 x102) h121 fun x122 h123 =>
  bV (ld x122 h123) h123 fun x124 h125 =>
  bV (absBin PP .sub T_complex128 (.tmp 0) (.tmp 0) x120 x124) h125 fun x126 h127 =>
  bB (eqW PP true T_complex128 x126 (.complex .f64 4607182418800017408 4607182418800017408)) h127 fun x128 h129 =>
  J (x96, x97, x98, x99, x100, x102, x101, x102, x128, ()) h129
theorem c12_eq (e : Cx) (x96 : V) (x97 : V) (x98 : V) (x99 : V) (x100 : Int) (x101 : Int) (x102 : Int) (h : AH) (n : Kn) (ee : Ke) (r : Kn) : rgL (cfgS e) lv 73 e.F (peel 2 (cP [6, 5, 1] B)).1 (mkT K22 (x96, x97, x98, x99, x100, x101, x102, ())) h n ee r = c12 e (fun t h => n (mkT K28 t) h) (x96, x97, x98, x99, x100, x101, x102, ()) h := by kernel_rfl
noncomputable def c14 (e : Cx) (J : P22 → AH → Res) : P28 → AH → Res
| (x140, x141, x142, x143, x144, x145, x146, x147, x148, _), h =>
  bV (ixS 1 x143 x145) h fun x149 h150 =>
  bV (ld x149 h150) h150 fun x151 h152 =>
  bV (partOf .real [x151]) h152 fun x153 h154 =>
  cI .i64 (cvt PP T_float64 T_int x153 h154) fun x155 h156 =>
  bV (ixS 1 x142 x155) h156 fun x157 h158 =>
  bZ (ld x157 h158) h158 fun x159 h160 =>
  J (x140, x141, x142, x143, (wr .i64 (x144 + (x159.length : Int))), x146, x147, ()) h160
theorem c14_eq (e : Cx) (x140 : V) (x141 : V) (x142 : V) (x143 : V) (x144 : Int) (x145 : Int) (x146 : Int) (x147 : Int) (x148 : Bool) (h : AH) (n : Kn) (ee : Ke) (r : Kn) : rgL (cfgS e) lv 73 e.F (peel 1 (cP [6, 5, 3, 0] B)).1 (mkT K28 (x140, x141, x142, x143, x144, x145, x146, x147, x148, ())) h n ee r = c14 e (fun t h => n (mkT K22 t) h) (x140, x141, x142, x143, x144, x145, x146, x147, x148, ()) h := by kernel_rfl
noncomputable def k13 (e : Cx) (Jn : P22 → AH → Res) (J2 : P22 → AH → Res) (J1 : P33 → AH → Res) (Jr : PR → AH → Res) : P28 → AH → Res
| (x140, x141, x142, x143, x144, x145, x146, x147, x148, _), h =>
  bif x148 then c14 e Jn (x140, x141, x142, x143, x144, x145, x146, x147, x148, ()) h else Jn (x140, x141, x142, x143, x144, x146, x147, ()) h
theorem k13_eq (e : Cx) (Jn : P22 → AH → Res) (J2 : P22 → AH → Res) (J1 : P33 → AH → Res) (Jr : PR → AH → Res) : ∀ t h, exL (cfgS e) lv 73 e.F (cP [6, 5, 3] B) (mkT K28 t) h (jk K22 Jn) (exK [(2, (jk K22 J2)), (1, (jk K33 J1))]) (jk KR Jr) = k13 e Jn J2 J1 Jr t h
| (x140, x141, x142, x143, x144, x145, x146, x147, x148, _), h => nd_cond' (X := cP [6, 5, 3] B) (a := cP [6, 5, 3, 0] B) (b := cP [6, 5, 4] B) (t := x148) (x := .tmp 50) (by kernel_rfl) (by kernel_rfl) (nd_chain' (X := cP [6, 5, 3, 0] B) (Y := .skip) 1 (L := K22) (S := fun J => c14 e J (x140, x141, x142, x143, x144, x145, x146, x147, x148, ()) h) (Q := Jn) (by kernel_rfl) (fun n => c14_eq e x140 x141 x142 x143 x144 x145 x146 x147 x148 h n (exK [(2, (jk K22 J2)), (1, (jk K33 J1))]) (jk KR Jr)) (fun t h => by kernel_rfl)) (by kernel_rfl)
noncomputable def r12 (e : Cx) (Jn : P22 → AH → Res) (J1 : P33 → AH → Res) (Jr : PR → AH → Res) : P22 → AH → Res
| (x96, x97, x98, x99, x100, x101, x102, _), h =>
  c12 e (k13 e (r15 e Jn J1 Jr) (r15 e Jn J1 Jr) J1 Jr) (x96, x97, x98, x99, x100, x101, x102, ()) h
theorem r12_eq (e : Cx) (Jn : P22 → AH → Res) (J1 : P33 → AH → Res) (Jr : PR → AH → Res) : ∀ t h, exL (cfgS e) lv 73 e.F (cP [6, 5] B) (mkT K22 t) h (jk K22 Jn) (exK [(1, (jk K33 J1))]) (jk KR Jr) = r12 e Jn J1 Jr t h
| (x96, x97, x98, x99, x100, x101, x102, _), h => (nd_norm' (X := (cP [6, 5] B)) (a := cP [6, 5, 0] B) (b := cP [6, 6] B) (L := K22) (by kernel_rfl) (by kernel_rfl) (by kernel_rfl) (SB := (r15 e Jn J1 Jr)) (r15_eq e Jn J1 Jr) _ _).trans (nd_block' (X := cP [6, 5, 0] B) (id := 2) (b := cP [6, 5, 1] B) (by kernel_rfl) (nd_chain' (X := cP [6, 5, 1] B) (Y := (cP [6, 5, 3] B)) 2 (L := K28) (S := fun J => c12 e J (x96, x97, x98, x99, x100, x101, x102, ()) h) (Q := (k13 e (r15 e Jn J1 Jr) (r15 e Jn J1 Jr) J1 Jr)) (by kernel_rfl) (fun n => c12_eq e x96 x97 x98 x99 x100 x101 x102 h n (exK [(2, (jk K22 (r15 e Jn J1 Jr))), (1, (jk K33 J1))]) (jk KR Jr)) (k13_eq e (r15 e Jn J1 Jr) (r15 e Jn J1 Jr) J1 Jr)))
noncomputable def k11 (e : Cx) (Jn : P22 → AH → Res) (J1 : P33 → AH → Res) (Jr : PR → AH → Res) : P24 → AH → Res
| (x88, x89, x90, x91, x92, x93, x94, x95, _), h =>
  bif x95 then (r12 e Jn J1 Jr) (x88, x89, x90, x91, x92, x93, x94, ()) h else J1 (x88, x89, x92, ()) h
theorem k11_eq (e : Cx) (Jn : P22 → AH → Res) (J1 : P33 → AH → Res) (Jr : PR → AH → Res) : ∀ t h, exL (cfgS e) lv 73 e.F (cP [6, 4] B) (mkT K24 t) h (jk K22 Jn) (exK [(1, (jk K33 J1))]) (jk KR Jr) = k11 e Jn J1 Jr t h
| (x88, x89, x90, x91, x92, x93, x94, x95, _), h => (nd_norm' (X := (cP [6, 4] B)) (a := cP [6, 4, 0] B) (b := cP [6, 5] B) (L := K22) (by kernel_rfl) (by kernel_rfl) (by kernel_rfl) (SB := (r12 e Jn J1 Jr)) (r12_eq e Jn J1 Jr) _ _).trans (nd_cond' (X := cP [6, 4, 0] B) (a := cP [6, 4, 0, 0] B) (b := cP [6, 4, 1] B) (t := x95) (x := .tmp 38) (by kernel_rfl) (by kernel_rfl) (by kernel_rfl) (by kernel_rfl))
noncomputable def l11 (e : Cx) (Jn : P22 → AH → Res) (J1 : P33 → AH → Res) (Jr : PR → AH → Res) : P22 → AH → Res
| (x72, x73, x74, x75, x76, x77, x78, _), h =>
  c11 e (k11 e Jn J1 Jr) (x72, x73, x74, x75, x76, x77, x78, ()) h
theorem l11_eq (e : Cx) (Jn : P22 → AH → Res) (J1 : P33 → AH → Res) (Jr : PR → AH → Res) : ∀ t h, exL (cfgS e) lv 73 e.F (cP [6, 3] B) (mkT K22 t) h (jk K22 Jn) (exK [(1, (jk K33 J1))]) (jk KR Jr) = l11 e Jn J1 Jr t h
| (x72, x73, x74, x75, x76, x77, x78, _), h => nd_chain' (X := cP [6, 3] B) (Y := (cP [6, 4] B)) 1 (L := K24) (S := fun J => c11 e J (x72, x73, x74, x75, x76, x77, x78, ()) h) (Q := (k11 e Jn J1 Jr)) (by kernel_rfl) (fun n => c11_eq e x72 x73 x74 x75 x76 x77 x78 h n (exK [(1, (jk K33 J1))]) (jk KR Jr)) (k11_eq e Jn J1 Jr)
noncomputable def k10 (e : Cx) (Jn : P33 → AH → Res) (Jr : PR → AH → Res) : P22 → AH → Res
| (x65, x66, x67, x68, x69, x70, x71, _), h =>
  loopN (P22) e.F (fun t h n => l11 e n Jn Jr t h) (x65, x66, x67, x68, x69, x70, x71, ()) h
theorem k10_eq (e : Cx) (Jn : P33 → AH → Res) (Jr : PR → AH → Res) : ∀ t h, exL (cfgS e) lv 73 e.F (cP [6, 1] B) (mkT K22 t) h (jk K33 Jn) (exK []) (jk KR Jr) = k10 e Jn Jr t h
| (x65, x66, x67, x68, x69, x70, x71, _), h => nd_block' (X := cP [6, 1] B) (id := 1) (b := cP [6, 2] B) (by kernel_rfl) ((nd_loop' (X := cP [6, 2] B) (b := cP [6, 3] B) (L := K22) (by kernel_rfl) (by kernel_rfl) (SB := fun n => l11 e n Jn Jr) (fun n => l11_eq e n Jn Jr) _ _).trans (by kernel_rfl))
noncomputable def k9 (e : Cx) (Jn : PR → AH → Res) (Jr : PR → AH → Res) : P20 → AH → Res
| (x39, x40, x41, x42, x43, _), h =>
  c10 e (k10 e (r16 e Jn Jr) Jr) (x39, x40, x41, x42, x43, ()) h
theorem k9_eq (e : Cx) (Jn : PR → AH → Res) (Jr : PR → AH → Res) : ∀ t h, exL (cfgS e) lv 73 e.F (cP [6] B) (mkT K20 t) h (jk KR Jn) (exK []) (jk KR Jr) = k9 e Jn Jr t h
| (x39, x40, x41, x42, x43, _), h => (nd_norm' (X := (cP [6] B)) (a := cP [6, 0] B) (b := cP [7] B) (L := K33) (by kernel_rfl) (by kernel_rfl) (by kernel_rfl) (SB := (r16 e Jn Jr)) (r16_eq e Jn Jr) _ _).trans (nd_chain' (X := cP [6, 0] B) (Y := (cP [6, 1] B)) 1 (L := K22) (S := fun J => c10 e J (x39, x40, x41, x42, x43, ()) h) (Q := (k10 e (r16 e Jn Jr) Jr)) (by kernel_rfl) (fun n => c10_eq e x39 x40 x41 x42 x43 h n (exK []) (jk KR Jr)) (k10_eq e (r16 e Jn Jr) Jr))
noncomputable def r9 (e : Cx) (Jn : PR → AH → Res) (Jr : PR → AH → Res) : P19 → AH → Res
| (x29, x30, x31, x32, _), h =>
  c9 e (k9 e Jn Jr) (x29, x30, x31, x32, ()) h
theorem r9_eq (e : Cx) (Jn : PR → AH → Res) (Jr : PR → AH → Res) : ∀ t h, exL (cfgS e) lv 73 e.F (cP [5] B) (mkT K19 t) h (jk KR Jn) (exK []) (jk KR Jr) = r9 e Jn Jr t h
| (x29, x30, x31, x32, _), h => nd_chain' (X := cP [5] B) (Y := (cP [6] B)) 1 (L := K20) (S := fun J => c9 e J (x29, x30, x31, x32, ()) h) (Q := (k9 e Jn Jr)) (by kernel_rfl) (fun n => c9_eq e x29 x30 x31 x32 h n (exK []) (jk KR Jr)) (k9_eq e Jn Jr)
noncomputable def c7 (e : Cx) (J : P16 → AH → Res) : P14 → AH → Res
| (x24, x25, x26, x27, x28, _), h =>
  J (x24, x25, x26, x27, (x28 != 0), ()) h
theorem c7_eq (e : Cx) (x24 : V) (x25 : V) (x26 : V) (x27 : V) (x28 : Int) (h : AH) (n : Kn) (ee : Ke) (r : Kn) : rgL (cfgS e) lv 73 e.F (peel 1 (cP [4, 0] B)).1 (mkT K14 (x24, x25, x26, x27, x28, ())) h n ee r = c7 e (fun t h => n (mkT K16 t) h) (x24, x25, x26, x27, x28, ()) h := by kernel_rfl
noncomputable def c8 (e : Cx) (J : P10 → AH → Res) : P16 → AH → Res
| (x175, x176, x177, x178, x179, _), h =>
  J (0, ()) h
theorem c8_eq (e : Cx) (x175 : V) (x176 : V) (x177 : V) (x178 : V) (x179 : Bool) (h : AH) (n : Kn) (ee : Ke) (r : Kn) : rgL (cfgS e) lv 73 e.F (peel 1 (cP [4, 1, 0] B)).1 (mkT K16 (x175, x176, x177, x178, x179, ())) h n ee r = c8 e (fun t h => n (mkT K10 t) h) (x175, x176, x177, x178, x179, ()) h := by kernel_rfl
noncomputable def k7 (e : Cx) (Jn : P19 → AH → Res) (Jr : PR → AH → Res) : P16 → AH → Res
| (x175, x176, x177, x178, x179, _), h =>
  bif x179 then c8 e (fun | (x180, _), h181 => Jr ((.int .i64 x180), ()) h181) (x175, x176, x177, x178, x179, ()) h else Jn (x175, x176, x177, x178, ()) h
theorem k7_eq (e : Cx) (Jn : P19 → AH → Res) (Jr : PR → AH → Res) : ∀ t h, exL (cfgS e) lv 73 e.F (cP [4, 1] B) (mkT K16 t) h (jk K19 Jn) (exK []) (jk KR Jr) = k7 e Jn Jr t h
| (x175, x176, x177, x178, x179, _), h => nd_cond' (X := cP [4, 1] B) (a := cP [4, 1, 0] B) (b := cP [4, 2] B) (t := x179) (x := .tmp 33) (by kernel_rfl) (by kernel_rfl) (nd_chain' (X := cP [4, 1, 0] B) (Y := (cP [4, 1, 1] B)) 1 (L := K10) (S := fun J => c8 e J (x175, x176, x177, x178, x179, ()) h) (Q := fun | (x180, _), h181 => Jr ((.int .i64 x180), ()) h181) (by kernel_rfl) (fun n => c8_eq e x175 x176 x177 x178 x179 h n (exK []) (jk KR Jr)) (fun | (x180, _), h181 => by kernel_rfl)) (by kernel_rfl)
noncomputable def k6 (e : Cx) (Jn : PR → AH → Res) (Jr : PR → AH → Res) : P14 → AH → Res
| (x24, x25, x26, x27, x28, _), h =>
  c7 e (k7 e (r9 e Jn Jr) Jr) (x24, x25, x26, x27, x28, ()) h
theorem k6_eq (e : Cx) (Jn : PR → AH → Res) (Jr : PR → AH → Res) : ∀ t h, exL (cfgS e) lv 73 e.F (cP [4] B) (mkT K14 t) h (jk KR Jn) (exK []) (jk KR Jr) = k6 e Jn Jr t h
| (x24, x25, x26, x27, x28, _), h => (nd_norm' (X := (cP [4] B)) (a := cP [4, 0] B) (b := cP [5] B) (L := K19) (by kernel_rfl) (by kernel_rfl) (by kernel_rfl) (SB := (r9 e Jn Jr)) (r9_eq e Jn Jr) _ _).trans (nd_chain' (X := cP [4, 0] B) (Y := (cP [4, 1] B)) 1 (L := K16) (S := fun J => c7 e J (x24, x25, x26, x27, x28, ()) h) (Q := (k7 e (r9 e Jn Jr) Jr)) (by kernel_rfl) (fun n => c7_eq e x24 x25 x26 x27 x28 h n (exK []) (jk KR Jr)) (k7_eq e (r9 e Jn Jr) Jr))
noncomputable def r5 (e : Cx) (Jn : PR → AH → Res) (Jr : PR → AH → Res) : P2 → AH → Res
| (x6, x7, _), h =>
  c5 e (k6 e Jn Jr) (x6, x7, ()) h
theorem r5_eq (e : Cx) (Jn : PR → AH → Res) (Jr : PR → AH → Res) : ∀ t h, exL (cfgS e) lv 73 e.F (cP [2] B) (mkT K2 t) h (jk KR Jn) (exK []) (jk KR Jr) = r5 e Jn Jr t h
| (x6, x7, _), h => nd_chain' (X := cP [2] B) (Y := (cP [4] B)) 2 (L := K14) (S := fun J => c5 e J (x6, x7, ()) h) (Q := (k6 e Jn Jr)) (by kernel_rfl) (fun n => c5_eq e x6 x7 h n (exK []) (jk KR Jr)) (k6_eq e Jn Jr)
noncomputable def c1 (e : Cx) (J : P4 → AH → Res) : P2 → AH → Res
| (x4, x5, _), h =>
  cB (e.C n_bytes_Equal [x4, x5] h) fun x182 h183 =>
  J (x4, x5, x182, ()) h183
theorem c1_eq (e : Cx) (x4 : V) (x5 : V) (h : AH) (n : Kn) (ee : Ke) (r : Kn) : rgL (cfgS e) lv 73 e.F (peel 1 (cP [1, 1] B)).1 (mkT K2 (x4, x5, ())) h n ee r = c1 e (fun t h => n (mkT K4 t) h) (x4, x5, ()) h := by kernel_rfl
noncomputable def c2 (e : Cx) (J : P10 → AH → Res) : P4 → AH → Res
| (x188, x189, x190, _), h =>
  J (100, ()) h
theorem c2_eq (e : Cx) (x188 : V) (x189 : V) (x190 : Bool) (h : AH) (n : Kn) (ee : Ke) (r : Kn) : rgL (cfgS e) lv 73 e.F (peel 1 (cP [1, 2, 0] B)).1 (mkT K4 (x188, x189, x190, ())) h n ee r = c2 e (fun t h => n (mkT K10 t) h) (x188, x189, x190, ()) h := by kernel_rfl
noncomputable def c3 (e : Cx) (J : P8 → AH → Res) : P4 → AH → Res
| (x188, x189, x190, _), h =>
  bI .i64 (lenS x188) h fun x193 h194 =>
  bif (x193 == 0) then
    J (x188, x189, true, ()) h194
  else
    bI .i64 (lenS x189) h194 fun x195 h196 =>
    J (x188, x189, (bif false then true else (x195 == 0)), ()) h196
theorem c3_eq (e : Cx) (x188 : V) (x189 : V) (x190 : Bool) (h : AH) (n : Kn) (ee : Ke) (r : Kn) : rgL (cfgS e) lv 73 e.F (peel 1 (cP [1, 3] B)).1 (mkT K4 (x188, x189, x190, ())) h n ee r = c3 e (fun t h => n (mkT K8 t) h) (x188, x189, x190, ()) h := by kernel_rfl
noncomputable def c4 (e : Cx) (J : P10 → AH → Res) : P8 → AH → Res
| (x201, x202, x203, _), h =>
  J (0, ()) h
theorem c4_eq (e : Cx) (x201 : V) (x202 : V) (x203 : Bool) (h : AH) (n : Kn) (ee : Ke) (r : Kn) : rgL (cfgS e) lv 73 e.F (peel 1 (cP [1, 4, 0] B)).1 (mkT K8 (x201, x202, x203, ())) h n ee r = c4 e (fun t h => n (mkT K10 t) h) (x201, x202, x203, ()) h := by kernel_rfl
noncomputable def k3 (e : Cx) (Jn : P2 → AH → Res) (J0 : P2 → AH → Res) (Jr : PR → AH → Res) : P8 → AH → Res
| (x201, x202, x203, _), h =>
  bif x203 then c4 e (fun | (x204, _), h205 => Jr ((.int .i64 x204), ()) h205) (x201, x202, x203, ()) h else Jn (x201, x202, ()) h
theorem k3_eq (e : Cx) (Jn : P2 → AH → Res) (J0 : P2 → AH → Res) (Jr : PR → AH → Res) : ∀ t h, exL (cfgS e) lv 73 e.F (cP [1, 4] B) (mkT K8 t) h (jk K2 Jn) (exK [(0, (jk K2 J0))]) (jk KR Jr) = k3 e Jn J0 Jr t h
| (x201, x202, x203, _), h => nd_cond' (X := cP [1, 4] B) (a := cP [1, 4, 0] B) (b := cP [1, 5] B) (t := x203) (x := .tmp 14) (by kernel_rfl) (by kernel_rfl) (nd_chain' (X := cP [1, 4, 0] B) (Y := (cP [1, 4, 1] B)) 1 (L := K10) (S := fun J => c4 e J (x201, x202, x203, ()) h) (Q := fun | (x204, _), h205 => Jr ((.int .i64 x204), ()) h205) (by kernel_rfl) (fun n => c4_eq e x201 x202 x203 h n (exK [(0, (jk K2 J0))]) (jk KR Jr)) (fun | (x204, _), h205 => by kernel_rfl)) (by kernel_rfl)
noncomputable def k1 (e : Cx) (Jn : P2 → AH → Res) (J0 : P2 → AH → Res) (Jr : PR → AH → Res) : P4 → AH → Res
| (x188, x189, x190, _), h =>
  bif x190 then c2 e (fun | (x191, _), h192 => Jr ((.int .i64 x191), ()) h192) (x188, x189, x190, ()) h else c3 e (k3 e Jn J0 Jr) (x188, x189, x190, ()) h
theorem k1_eq (e : Cx) (Jn : P2 → AH → Res) (J0 : P2 → AH → Res) (Jr : PR → AH → Res) : ∀ t h, exL (cfgS e) lv 73 e.F (cP [1, 2] B) (mkT K4 t) h (jk K2 Jn) (exK [(0, (jk K2 J0))]) (jk KR Jr) = k1 e Jn J0 Jr t h
| (x188, x189, x190, _), h => nd_cond' (X := cP [1, 2] B) (a := cP [1, 2, 0] B) (b := cP [1, 3] B) (t := x190) (x := .tmp 10) (by kernel_rfl) (by kernel_rfl) (nd_chain' (X := cP [1, 2, 0] B) (Y := (cP [1, 2, 1] B)) 1 (L := K10) (S := fun J => c2 e J (x188, x189, x190, ()) h) (Q := fun | (x191, _), h192 => Jr ((.int .i64 x191), ()) h192) (by kernel_rfl) (fun n => c2_eq e x188 x189 x190 h n (exK [(0, (jk K2 J0))]) (jk KR Jr)) (fun | (x191, _), h192 => by kernel_rfl)) (nd_chain' (X := cP [1, 3] B) (Y := (cP [1, 4] B)) 1 (L := K8) (S := fun J => c3 e J (x188, x189, x190, ()) h) (Q := (k3 e Jn J0 Jr)) (by kernel_rfl) (fun n => c3_eq e x188 x189 x190 h n (exK [(0, (jk K2 J0))]) (jk KR Jr)) (k3_eq e Jn J0 Jr))
noncomputable def k0 (e : Cx) (Jn : PR → AH → Res) (Jr : PR → AH → Res) : P2 → AH → Res
| (x4, x5, _), h =>
  c1 e (k1 e (r5 e Jn Jr) (r5 e Jn Jr) Jr) (x4, x5, ()) h
theorem k0_eq (e : Cx) (Jn : PR → AH → Res) (Jr : PR → AH → Res) : ∀ t h, exL (cfgS e) lv 73 e.F (cP [1] B) (mkT K2 t) h (jk KR Jn) (exK []) (jk KR Jr) = k0 e Jn Jr t h
| (x4, x5, _), h => (nd_norm' (X := (cP [1] B)) (a := cP [1, 0] B) (b := cP [2] B) (L := K2) (by kernel_rfl) (by kernel_rfl) (by kernel_rfl) (SB := (r5 e Jn Jr)) (r5_eq e Jn Jr) _ _).trans (nd_block' (X := cP [1, 0] B) (id := 0) (b := cP [1, 1] B) (by kernel_rfl) (nd_chain' (X := cP [1, 1] B) (Y := (cP [1, 2] B)) 1 (L := K4) (S := fun J => c1 e J (x4, x5, ()) h) (Q := (k1 e (r5 e Jn Jr) (r5 e Jn Jr) Jr)) (by kernel_rfl) (fun n => c1_eq e x4 x5 h n (exK [(0, (jk K2 (r5 e Jn Jr)))]) (jk KR Jr)) (k1_eq e (r5 e Jn Jr) (r5 e Jn Jr) Jr)))
noncomputable def fn (e : Cx) (a0 : V) (a1 : V) (h : AH) : Res :=
  c0 e (k0 e ret ret) (a0, a1, ()) h
theorem run (e : Cx) (a0 : V) (a1 : V) (h : AH) : execFn (cfgS e) (foLive lv) e.F n_rename_Like [a0, a1] h = fn e a0 a1 h := by
  refine (fn_eq (c := cfgS e) (lv := lv) (PP.funcs.getD 5 default) B (by kernel_rfl) (by kernel_rfl) (Nat.le_of_ble_eq_true (by kernel_rfl))).trans ?_
  rw [ret_eq]
  exact nd_chain' (X := cP [0] B) (Y := (cP [1] B)) 1 (L := K2) (S := fun J => c0 e J (a0, a1, ()) h) (Q := (k0 e ret ret)) (by kernel_rfl) (fun n => c0_eq e a0 a1 h n (exK []) (jk KR ret)) (k0_eq e ret ret)
end rename_Like
namespace bytes_Equal
noncomputable def B : Code := cBody (PP.funcs.getD 9 default)
abbrev K2 : Slots := [(0, .any), (1, .any)]
abbrev P2 := V × V × Unit
abbrev K4 : Slots := [(4, .bool)]
abbrev P4 := Bool × Unit
def lv : Nat → Option Slots := fun k =>
  bif Nat.beq k 2 then some K2 else bif Nat.beq k 4 then some K4 else none
abbrev KR : Slots := [(4, .any)]
abbrev PR := V × Unit
noncomputable def ret : PR → AH → Res
| (x4, _), h => finW [some x4] h
theorem ret_eq (e : Cx) : fin (cfgS e) (foLive lv) (PP.funcs.getD 9 default) = jk KR ret := by kernel_rfl
noncomputable def c0 (e : Cx) (J : P4 → AH → Res) : V × V × Unit → AH → Res
| (a0, a1, _), h =>
  cZ (toS a0 h) fun x1 h2 =>
  cZ (toS a1 h2) fun x3 h4 =>
  J ((natsEq x1 x3), ()) h4
theorem c0_eq (e : Cx) (a0 : V) (a1 : V) (h : AH) (n : Kn) (ee : Ke) (r : Kn) : rgL (cfgS e) lv 10 e.F (peel 2 (cP [0] B)).1 (iniT [a0, a1] 0 .leaf) h n ee r = c0 e (fun t h => n (mkT K4 t) h) (a0, a1, ()) h := by kernel_rfl
noncomputable def fn (e : Cx) (a0 : V) (a1 : V) (h : AH) : Res :=
  c0 e (fun | (x5, _), h6 => ret ((.bool x5), ()) h6) (a0, a1, ()) h
theorem run (e : Cx) (a0 : V) (a1 : V) (h : AH) : execFn (cfgS e) (foLive lv) e.F n_bytes_Equal [a0, a1] h = fn e a0 a1 h := by
  refine (fn_eq (c := cfgS e) (lv := lv) (PP.funcs.getD 9 default) B (by kernel_rfl) (by kernel_rfl) (Nat.le_of_ble_eq_true (by kernel_rfl))).trans ?_
  rw [ret_eq]
  exact nd_chain' (X := cP [0] B) (Y := (cP [2] B)) 2 (L := K4) (S := fun J => c0 e J (a0, a1, ()) h) (Q := fun | (x5, _), h6 => ret ((.bool x5), ()) h6) (by kernel_rfl) (fun n => c0_eq e a0 a1 h n (exK []) (jk KR ret)) (fun | (x5, _), h6 => by kernel_rfl)
end bytes_Equal
namespace diff_Way
noncomputable def B : Code := cBody (PP.funcs.getD 11 default)
abbrev K2 : Slots := [(0, .any), (1, .any)]
abbrev P2 := V × V × Unit
abbrev K4 : Slots := [(6, .any), (7, .int .i64)]
abbrev P4 := V × Int × Unit
abbrev K6 : Slots := [(6, .any), (7, .int .i64), (15, .bool)]
abbrev P6 := V × Int × Bool × Unit
abbrev K8 : Slots := [(4, .any), (5, .int .i64)]
abbrev P8 := V × Int × Unit
abbrev K9 : Slots := [(6, .any)]
abbrev P9 := V × Unit
def lv : Nat → Option Slots := fun k =>
  bif Nat.beq k 2 then some K2 else bif Nat.beq k 4 then some K4 else bif Nat.beq k 6 then some K6 else bif Nat.beq k 8 then some K8 else bif Nat.beq k 9 then some K9 else bif Nat.beq k 10 then some K8 else none
abbrev KR : Slots := [(4, .any), (5, .any)]
abbrev PR := V × V × Unit
noncomputable def ret : PR → AH → Res
| (x4, x5, _), h => finW [some x4, some x5] h
theorem ret_eq (e : Cx) : fin (cfgS e) (foLive lv) (PP.funcs.getD 11 default) = jk KR ret := by kernel_rfl
noncomputable def c0 (e : Cx) (J : P4 → AH → Res) : V × V × Unit → AH → Res
| (a0, a1, _), h =>
  cV (e.C n_diff_lay [a0, a1] h) fun x1 h2 =>
  bV (absExtract x1 0) h2 fun x3 h4 =>
  bI .i64 (absExtract x1 1) h4 fun x5 h6 =>
  J (x3, x5, ()) h6
theorem c0_eq (e : Cx) (a0 : V) (a1 : V) (h : AH) (n : Kn) (ee : Ke) (r : Kn) : rgL (cfgS e) lv 19 e.F (peel 2 (cP [0] B)).1 (iniT [a0, a1] 0 .leaf) h n ee r = c0 e (fun t h => n (mkT K4 t) h) (a0, a1, ()) h := by kernel_rfl
noncomputable def c4 (e : Cx) (J : P8 → AH → Res) : P9 → AH → Res
| (x12, _), h =>
  cV (e.C n_diff_plane_way [x12] h) fun x13 h14 =>
  J (x13, 0, ()) h14
theorem c4_eq (e : Cx) (x12 : V) (h : AH) (n : Kn) (ee : Ke) (r : Kn) : rgL (cfgS e) lv 19 e.F (peel 1 (cP [3] B)).1 (mkT K9 (x12, ())) h n ee r = c4 e (fun t h => n (mkT K8 t) h) (x12, ()) h := by kernel_rfl
noncomputable def r4 (e : Cx) (Jn : PR → AH → Res) (Jr : PR → AH → Res) : P9 → AH → Res
| (x12, _), h =>
  c4 e (fun | (x15, x16, _), h17 => Jr (x15, (.int .i64 x16), ()) h17) (x12, ()) h
theorem r4_eq (e : Cx) (Jn : PR → AH → Res) (Jr : PR → AH → Res) : ∀ t h, exL (cfgS e) lv 19 e.F (cP [3] B) (mkT K9 t) h (jk KR Jn) (exK []) (jk KR Jr) = r4 e Jn Jr t h
| (x12, _), h => nd_chain' (X := cP [3] B) (Y := (cP [4] B)) 1 (L := K8) (S := fun J => c4 e J (x12, ()) h) (Q := fun | (x15, x16, _), h17 => Jr (x15, (.int .i64 x16), ()) h17) (by kernel_rfl) (fun n => c4_eq e x12 h n (exK []) (jk KR Jr)) (fun | (x15, x16, _), h17 => by kernel_rfl)
noncomputable def c2 (e : Cx) (J : P6 → AH → Res) : P4 → AH → Res
| (x10, x11, _), h =>
  J (x10, x11, (x11 != 0), ()) h
theorem c2_eq (e : Cx) (x10 : V) (x11 : Int) (h : AH) (n : Kn) (ee : Ke) (r : Kn) : rgL (cfgS e) lv 19 e.F (peel 1 (cP [2, 0] B)).1 (mkT K4 (x10, x11, ())) h n ee r = c2 e (fun t h => n (mkT K6 t) h) (x10, x11, ()) h := by kernel_rfl
noncomputable def c3 (e : Cx) (J : P8 → AH → Res) : P6 → AH → Res
| (x22, x23, x24, _), h =>
  J ((.nilslice), x23, ()) h
theorem c3_eq (e : Cx) (x22 : V) (x23 : Int) (x24 : Bool) (h : AH) (n : Kn) (ee : Ke) (r : Kn) : rgL (cfgS e) lv 19 e.F (peel 1 (cP [2, 1, 0] B)).1 (mkT K6 (x22, x23, x24, ())) h n ee r = c3 e (fun t h => n (mkT K8 t) h) (x22, x23, x24, ()) h := by kernel_rfl
noncomputable def k2 (e : Cx) (Jn : P9 → AH → Res) (Jr : PR → AH → Res) : P6 → AH → Res
| (x22, x23, x24, _), h =>
  bif x24 then c3 e (fun | (x25, x26, _), h27 => Jr (x25, (.int .i64 x26), ()) h27) (x22, x23, x24, ()) h else Jn (x22, ()) h
theorem k2_eq (e : Cx) (Jn : P9 → AH → Res) (Jr : PR → AH → Res) : ∀ t h, exL (cfgS e) lv 19 e.F (cP [2, 1] B) (mkT K6 t) h (jk K9 Jn) (exK []) (jk KR Jr) = k2 e Jn Jr t h
| (x22, x23, x24, _), h => nd_cond' (X := cP [2, 1] B) (a := cP [2, 1, 0] B) (b := cP [2, 2] B) (t := x24) (x := .tmp 15) (by kernel_rfl) (by kernel_rfl) (nd_chain' (X := cP [2, 1, 0] B) (Y := (cP [2, 1, 1] B)) 1 (L := K8) (S := fun J => c3 e J (x22, x23, x24, ()) h) (Q := fun | (x25, x26, _), h27 => Jr (x25, (.int .i64 x26), ()) h27) (by kernel_rfl) (fun n => c3_eq e x22 x23 x24 h n (exK []) (jk KR Jr)) (fun | (x25, x26, _), h27 => by kernel_rfl)) (by kernel_rfl)
noncomputable def k1 (e : Cx) (Jn : PR → AH → Res) (Jr : PR → AH → Res) : P4 → AH → Res
| (x10, x11, _), h =>
  c2 e (k2 e (r4 e Jn Jr) Jr) (x10, x11, ()) h
theorem k1_eq (e : Cx) (Jn : PR → AH → Res) (Jr : PR → AH → Res) : ∀ t h, exL (cfgS e) lv 19 e.F (cP [2] B) (mkT K4 t) h (jk KR Jn) (exK []) (jk KR Jr) = k1 e Jn Jr t h
| (x10, x11, _), h => (nd_norm' (X := (cP [2] B)) (a := cP [2, 0] B) (b := cP [3] B) (L := K9) (by kernel_rfl) (by kernel_rfl) (by kernel_rfl) (SB := (r4 e Jn Jr)) (r4_eq e Jn Jr) _ _).trans (nd_chain' (X := cP [2, 0] B) (Y := (cP [2, 1] B)) 1 (L := K6) (S := fun J => c2 e J (x10, x11, ()) h) (Q := (k2 e (r4 e Jn Jr) Jr)) (by kernel_rfl) (fun n => c2_eq e x10 x11 h n (exK []) (jk KR Jr)) (k2_eq e (r4 e Jn Jr) Jr))
noncomputable def fn (e : Cx) (a0 : V) (a1 : V) (h : AH) : Res :=
  c0 e (k1 e ret ret) (a0, a1, ()) h
theorem run (e : Cx) (a0 : V) (a1 : V) (h : AH) : execFn (cfgS e) (foLive lv) e.F n_diff_Way [a0, a1] h = fn e a0 a1 h := by
  refine (fn_eq (c := cfgS e) (lv := lv) (PP.funcs.getD 11 default) B (by kernel_rfl) (by kernel_rfl) (Nat.le_of_ble_eq_true (by kernel_rfl))).trans ?_
  rw [ret_eq]
  exact nd_chain' (X := cP [0] B) (Y := (cP [2] B)) 2 (L := K4) (S := fun J => c0 e J (a0, a1, ()) h) (Q := (k1 e ret ret)) (by kernel_rfl) (fun n => c0_eq e a0 a1 h n (exK []) (jk KR ret)) (k1_eq e ret ret)
end diff_Way
namespace diff_lay
noncomputable def B : Code := cBody (PP.funcs.getD 32 default)
abbrev K2 : Slots := [(0, .any), (1, .any)]
abbrev P2 := V × V × Unit
abbrev K4 : Slots := [(0, .any), (1, .any), (17, .bool)]
abbrev P4 := V × V × Bool × Unit
abbrev K6 : Slots := [(4, .any), (5, .int .i64)]
abbrev P6 := V × Int × Unit
abbrev K8 : Slots := [(0, .any), (1, .any), (6, .any)]
abbrev P8 := V × V × V × Unit
abbrev K10 : Slots := [(0, .any), (1, .any), (7, .any)]
abbrev P10 := V × V × V × Unit
abbrev K14 : Slots := [(1, .any), (7, .any), (8, .int .i64)]
abbrev P14 := V × V × Int × Unit
abbrev K16 : Slots := [(1, .any), (7, .any), (8, .int .i64), (41, .bool)]
abbrev P16 := V × V × Int × Bool × Unit
abbrev K20 : Slots := [(1, .any), (7, .any), (8, .int .i64), (9, .int .i64)]
abbrev P20 := V × V × Int × Int × Unit
abbrev K22 : Slots := [(1, .any), (7, .any), (8, .int .i64), (9, .int .i64), (47, .bool)]
abbrev P22 := V × V × Int × Int × Bool × Unit
abbrev K27 : Slots := [(7, .any)]
abbrev P27 := V × Unit
def lv : Nat → Option Slots := fun k =>
  bif Nat.beq k 2 then some K2 else bif Nat.beq k 4 then some K4 else bif Nat.beq k 6 then some K6 else bif Nat.beq k 7 then some K2 else bif Nat.beq k 8 then some K8 else bif Nat.beq k 10 then some K10 else bif Nat.beq k 12 then some K10 else bif Nat.beq k 14 then some K14 else bif Nat.beq k 16 then some K16 else bif Nat.beq k 19 then some K14 else bif Nat.beq k 20 then some K20 else bif Nat.beq k 22 then some K22 else bif Nat.beq k 25 then some K20 else bif Nat.beq k 26 then some K20 else bif Nat.beq k 23 then some K20 else bif Nat.beq k 24 then some K20 else bif Nat.beq k 21 then some K20 else bif Nat.beq k 17 then some K14 else bif Nat.beq k 18 then some K14 else bif Nat.beq k 15 then some K14 else bif Nat.beq k 27 then some K27 else bif Nat.beq k 28 then some K6 else none
abbrev KR : Slots := [(4, .any), (5, .any)]
abbrev PR := V × V × Unit
noncomputable def ret : PR → AH → Res
| (x4, x5, _), h => finW [some x4, some x5] h
theorem ret_eq (e : Cx) : fin (cfgS e) (foLive lv) (PP.funcs.getD 32 default) = jk KR ret := by kernel_rfl
noncomputable def c0 (e : Cx) (J : P2 → AH → Res) : V × V × Unit → AH → Res
| (a0, a1, _), h =>
  J (a0, a1, ()) h
theorem c0_eq (e : Cx) (a0 : V) (a1 : V) (h : AH) (n : Kn) (ee : Ke) (r : Kn) : rgL (cfgS e) lv 60 e.F (peel 1 (cP [0] B)).1 (iniT [a0, a1] 0 .leaf) h n ee r = c0 e (fun t h => n (mkT K2 t) h) (a0, a1, ()) h := by kernel_rfl
noncomputable def c3 (e : Cx) (J : P10 → AH → Res) : P2 → AH → Res
| (x6, x7, _), h =>
  cV (absMakeMap PP h) fun x8 h9 =>
  cV (e.C n_diff_numbers [x6, x8] h9) fun x10 h11 =>
  cV (e.C n_diff_numbers [x7, x8] h11) fun x12 h13 =>
  bA (bld [(0, 1, x10), (1, 1, x12)] [.nilslice, .nilslice, .nilslice]) h13 fun x14 h15 =>
  cV (absBox T_diff_plane (.agg x14) h15) fun x16 h17 =>
  bI .i64 (lenS x6) h17 fun x18 h19 =>
  bI .i64 (lenS x7) h19 fun x20 h21 =>
  let x22 : Int := (wr .i64 ((wr .i64 (x18 + 1)) * (wr .i64 (x20 + 1))))
  cV (mkS 1 4 [.int .i32 0] T_int32 x22 x22 h21) fun x23 h24 =>
  bV (absNilCheck x16) h24 fun x25 h26 =>
  bV (fA 2 x25) h26 fun x27 h28 =>
  bS (st 1 x27 x23 h28) fun h29 =>
  J (x6, x7, x16, ()) h29
theorem c3_eq (e : Cx) (x6 : V) (x7 : V) (h : AH) (n : Kn) (ee : Ke) (r : Kn) : rgL (cfgS e) lv 60 e.F (peel 3 (cP [2] B)).1 (mkT K2 (x6, x7, ())) h n ee r = c3 e (fun t h => n (mkT K10 t) h) (x6, x7, ()) h := by kernel_rfl
noncomputable def c13 (e : Cx) (J : P6 → AH → Res) : P27 → AH → Res
| (x37, _), h =>
  J (x37, 0, ()) h
theorem c13_eq (e : Cx) (x37 : V) (h : AH) (n : Kn) (ee : Ke) (r : Kn) : rgL (cfgS e) lv 60 e.F (peel 1 (cP [6] B)).1 (mkT K27 (x37, ())) h n ee r = c13 e (fun t h => n (mkT K6 t) h) (x37, ()) h := by kernel_rfl
noncomputable def r13 (e : Cx) (Jn : PR → AH → Res) (Jr : PR → AH → Res) : P27 → AH → Res
| (x37, _), h =>
  c13 e (fun | (x38, x39, _), h40 => Jr (x38, (.int .i64 x39), ()) h40) (x37, ()) h
theorem r13_eq (e : Cx) (Jn : PR → AH → Res) (Jr : PR → AH → Res) : ∀ t h, exL (cfgS e) lv 60 e.F (cP [6] B) (mkT K27 t) h (jk KR Jn) (exK []) (jk KR Jr) = r13 e Jn Jr t h
| (x37, _), h => nd_chain' (X := cP [6] B) (Y := (cP [7] B)) 1 (L := K6) (S := fun J => c13 e J (x37, ()) h) (Q := fun | (x38, x39, _), h40 => Jr (x38, (.int .i64 x39), ()) h40) (by kernel_rfl) (fun n => c13_eq e x37 h n (exK []) (jk KR Jr)) (fun | (x38, x39, _), h40 => by kernel_rfl)
noncomputable def c6 (e : Cx) (J : P14 → AH → Res) : P10 → AH → Res
| (x34, x35, x36, _), h =>
  bI .i64 (lenS x34) h fun x41 h42 =>
  J (x35, x36, x41, ()) h42
theorem c6_eq (e : Cx) (x34 : V) (x35 : V) (x36 : V) (h : AH) (n : Kn) (ee : Ke) (r : Kn) : rgL (cfgS e) lv 60 e.F (peel 1 (cP [5, 0] B)).1 (mkT K10 (x34, x35, x36, ())) h n ee r = c6 e (fun t h => n (mkT K14 t) h) (x34, x35, x36, ()) h := by kernel_rfl
noncomputable def c8 (e : Cx) (J : P14 → AH → Res) : P14 → AH → Res
| (x56, x57, x58, _), h =>
  J (x56, x57, (wr .i64 (x58 - 1)), ()) h
theorem c8_eq (e : Cx) (x56 : V) (x57 : V) (x58 : Int) (h : AH) (n : Kn) (ee : Ke) (r : Kn) : rgL (cfgS e) lv 60 e.F (peel 1 (cP [5, 5] B)).1 (mkT K14 (x56, x57, x58, ())) h n ee r = c8 e (fun t h => n (mkT K14 t) h) (x56, x57, x58, ()) h := by kernel_rfl
noncomputable def r8 (e : Cx) (Jn : P14 → AH → Res) (J0 : P27 → AH → Res) (Jr : PR → AH → Res) : P14 → AH → Res
| (x56, x57, x58, _), h =>
  c8 e Jn (x56, x57, x58, ()) h
theorem r8_eq (e : Cx) (Jn : P14 → AH → Res) (J0 : P27 → AH → Res) (Jr : PR → AH → Res) : ∀ t h, exL (cfgS e) lv 60 e.F (cP [5, 5] B) (mkT K14 t) h (jk K14 Jn) (exK [(0, (jk K27 J0))]) (jk KR Jr) = r8 e Jn J0 Jr t h
| (x56, x57, x58, _), h => nd_chain' (X := cP [5, 5] B) (Y := .skip) 1 (L := K14) (S := fun J => c8 e J (x56, x57, x58, ()) h) (Q := Jn) (by kernel_rfl) (fun n => c8_eq e x56 x57 x58 h n (exK [(0, (jk K27 J0))]) (jk KR Jr)) (fun t h => by kernel_rfl)
noncomputable def c9 (e : Cx) (J : P20 → AH → Res) : P14 → AH → Res
| (x53, x54, x55, _), h =>
  bI .i64 (lenS x53) h fun x63 h64 =>
  J (x53, x54, x55, x63, ()) h64
theorem c9_eq (e : Cx) (x53 : V) (x54 : V) (x55 : Int) (h : AH) (n : Kn) (ee : Ke) (r : Kn) : rgL (cfgS e) lv 60 e.F (peel 1 (cP [5, 4, 1] B)).1 (mkT K14 (x53, x54, x55, ())) h n ee r = c9 e (fun t h => n (mkT K20 t) h) (x53, x54, x55, ()) h := by kernel_rfl
noncomputable def c11 (e : Cx) (J : P20 → AH → Res) : P20 → AH → Res
| (x82, x83, x84, x85, _), h =>
  J (x82, x83, x84, (wr .i64 (x85 - 1)), ()) h
theorem c11_eq (e : Cx) (x82 : V) (x83 : V) (x84 : Int) (x85 : Int) (h : AH) (n : Kn) (ee : Ke) (r : Kn) : rgL (cfgS e) lv 60 e.F (peel 1 (cP [5, 4, 6] B)).1 (mkT K20 (x82, x83, x84, x85, ())) h n ee r = c11 e (fun t h => n (mkT K20 t) h) (x82, x83, x84, x85, ()) h := by kernel_rfl
noncomputable def r11 (e : Cx) (Jn : P20 → AH → Res) (J2 : P14 → AH → Res) (J1 : P14 → AH → Res) (J0 : P27 → AH → Res) (Jr : PR → AH → Res) : P20 → AH → Res
| (x82, x83, x84, x85, _), h =>
  c11 e Jn (x82, x83, x84, x85, ()) h
theorem r11_eq (e : Cx) (Jn : P20 → AH → Res) (J2 : P14 → AH → Res) (J1 : P14 → AH → Res) (J0 : P27 → AH → Res) (Jr : PR → AH → Res) : ∀ t h, exL (cfgS e) lv 60 e.F (cP [5, 4, 6] B) (mkT K20 t) h (jk K20 Jn) (exK [(2, (jk K14 J2)), (1, (jk K14 J1)), (0, (jk K27 J0))]) (jk KR Jr) = r11 e Jn J2 J1 J0 Jr t h
| (x82, x83, x84, x85, _), h => nd_chain' (X := cP [5, 4, 6] B) (Y := .skip) 1 (L := K20) (S := fun J => c11 e J (x82, x83, x84, x85, ()) h) (Q := Jn) (by kernel_rfl) (fun n => c11_eq e x82 x83 x84 x85 h n (exK [(2, (jk K14 J2)), (1, (jk K14 J1)), (0, (jk K27 J0))]) (jk KR Jr)) (fun t h => by kernel_rfl)
noncomputable def c12 (e : Cx) (J : P20 → AH → Res) : P20 → AH → Res
| (x78, x79, x80, x81, _), h =>
  cV (e.C n_diff_plane_at [x79, (.int .i64 x80), (.int .i64 x81)] h) fun x91 h92 =>
  cI .i32 (e.C n_diff_plane_least [x79, (.int .i64 x80), (.int .i64 x81)] h92) fun x93 h94 =>
  bV (absNilCheck x91) h94 fun x95 h96 =>
  bS (st 1 x95 (.int .i32 x93) h96) fun h97 =>
  J (x78, x79, x80, x81, ()) h97
theorem c12_eq (e : Cx) (x78 : V) (x79 : V) (x80 : Int) (x81 : Int) (h : AH) (n : Kn) (ee : Ke) (r : Kn) : rgL (cfgS e) lv 60 e.F (peel 1 (cP [5, 4, 5, 1] B)).1 (mkT K20 (x78, x79, x80, x81, ())) h n ee r = c12 e (fun t h => n (mkT K20 t) h) (x78, x79, x80, x81, ()) h := by kernel_rfl
noncomputable def r12 (e : Cx) (Jn : P20 → AH → Res) (J2 : P14 → AH → Res) (J1 : P14 → AH → Res) (J0 : P27 → AH → Res) (Jr : PR → AH → Res) : P20 → AH → Res
| (x78, x79, x80, x81, _), h =>
  c12 e (r11 e Jn J2 J1 J0 Jr) (x78, x79, x80, x81, ()) h
theorem r12_eq (e : Cx) (Jn : P20 → AH → Res) (J2 : P14 → AH → Res) (J1 : P14 → AH → Res) (J0 : P27 → AH → Res) (Jr : PR → AH → Res) : ∀ t h, exL (cfgS e) lv 60 e.F (cP [5, 4, 5] B) (mkT K20 t) h (jk K20 Jn) (exK [(2, (jk K14 J2)), (1, (jk K14 J1)), (0, (jk K27 J0))]) (jk KR Jr) = r12 e Jn J2 J1 J0 Jr t h
| (x78, x79, x80, x81, _), h => (nd_norm' (X := (cP [5, 4, 5] B)) (a := cP [5, 4, 5, 0] B) (b := cP [5, 4, 6] B) (L := K20) (by kernel_rfl) (by kernel_rfl) (by kernel_rfl) (SB := (r11 e Jn J2 J1 J0 Jr)) (r11_eq e Jn J2 J1 J0 Jr) _ _).trans (nd_block' (X := cP [5, 4, 5, 0] B) (id := 3) (b := cP [5, 4, 5, 1] B) (by kernel_rfl) (nd_chain' (X := cP [5, 4, 5, 1] B) (Y := .skip) 1 (L := K20) (S := fun J => c12 e J (x78, x79, x80, x81, ()) h) (Q := (r11 e Jn J2 J1 J0 Jr)) (by kernel_rfl) (fun n => c12_eq e x78 x79 x80 x81 h n (exK [(3, (jk K20 (r11 e Jn J2 J1 J0 Jr))), (2, (jk K14 J2)), (1, (jk K14 J1)), (0, (jk K27 J0))]) (jk KR Jr)) (fun t h => by kernel_rfl)))
noncomputable def c10 (e : Cx) (J : P22 → AH → Res) : P20 → AH → Res
| (x74, x75, x76, x77, _), h =>
  J (x74, x75, x76, x77, (decide (x77 ≥ 0)), ()) h
theorem c10_eq (e : Cx) (x74 : V) (x75 : V) (x76 : Int) (x77 : Int) (h : AH) (n : Kn) (ee : Ke) (r : Kn) : rgL (cfgS e) lv 60 e.F (peel 1 (cP [5, 4, 4, 0] B)).1 (mkT K20 (x74, x75, x76, x77, ())) h n ee r = c10 e (fun t h => n (mkT K22 t) h) (x74, x75, x76, x77, ()) h := by kernel_rfl
noncomputable def k10 (e : Cx) (Jn : P20 → AH → Res) (J2 : P14 → AH → Res) (J1 : P14 → AH → Res) (J0 : P27 → AH → Res) (Jr : PR → AH → Res) : P22 → AH → Res
| (x109, x110, x111, x112, x113, _), h =>
  bif x113 then Jn (x109, x110, x111, x112, ()) h else J2 (x109, x110, x111, ()) h
theorem k10_eq (e : Cx) (Jn : P20 → AH → Res) (J2 : P14 → AH → Res) (J1 : P14 → AH → Res) (J0 : P27 → AH → Res) (Jr : PR → AH → Res) : ∀ t h, exL (cfgS e) lv 60 e.F (cP [5, 4, 4, 1] B) (mkT K22 t) h (jk K20 Jn) (exK [(2, (jk K14 J2)), (1, (jk K14 J1)), (0, (jk K27 J0))]) (jk KR Jr) = k10 e Jn J2 J1 J0 Jr t h
| (x109, x110, x111, x112, x113, _), h => nd_cond' (X := cP [5, 4, 4, 1] B) (a := cP [5, 4, 4, 1, 0] B) (b := cP [5, 4, 4, 2] B) (t := x113) (x := .tmp 47) (by kernel_rfl) (by kernel_rfl) (by kernel_rfl) (by kernel_rfl)
noncomputable def l10 (e : Cx) (Jn : P20 → AH → Res) (J2 : P14 → AH → Res) (J1 : P14 → AH → Res) (J0 : P27 → AH → Res) (Jr : PR → AH → Res) : P20 → AH → Res
| (x74, x75, x76, x77, _), h =>
  c10 e (k10 e (r12 e Jn J2 J1 J0 Jr) J2 J1 J0 Jr) (x74, x75, x76, x77, ()) h
theorem l10_eq (e : Cx) (Jn : P20 → AH → Res) (J2 : P14 → AH → Res) (J1 : P14 → AH → Res) (J0 : P27 → AH → Res) (Jr : PR → AH → Res) : ∀ t h, exL (cfgS e) lv 60 e.F (cP [5, 4, 4] B) (mkT K20 t) h (jk K20 Jn) (exK [(2, (jk K14 J2)), (1, (jk K14 J1)), (0, (jk K27 J0))]) (jk KR Jr) = l10 e Jn J2 J1 J0 Jr t h
| (x74, x75, x76, x77, _), h => (nd_norm' (X := (cP [5, 4, 4] B)) (a := cP [5, 4, 4, 0] B) (b := cP [5, 4, 5] B) (L := K20) (by kernel_rfl) (by kernel_rfl) (by kernel_rfl) (SB := (r12 e Jn J2 J1 J0 Jr)) (r12_eq e Jn J2 J1 J0 Jr) _ _).trans (nd_chain' (X := cP [5, 4, 4, 0] B) (Y := (cP [5, 4, 4, 1] B)) 1 (L := K22) (S := fun J => c10 e J (x74, x75, x76, x77, ()) h) (Q := (k10 e (r12 e Jn J2 J1 J0 Jr) J2 J1 J0 Jr)) (by kernel_rfl) (fun n => c10_eq e x74 x75 x76 x77 h n (exK [(2, (jk K14 J2)), (1, (jk K14 J1)), (0, (jk K27 J0))]) (jk KR Jr)) (k10_eq e (r12 e Jn J2 J1 J0 Jr) J2 J1 J0 Jr))
noncomputable def k9 (e : Cx) (Jn : P14 → AH → Res) (J1 : P14 → AH → Res) (J0 : P27 → AH → Res) (Jr : PR → AH → Res) : P20 → AH → Res
| (x70, x71, x72, x73, _), h =>
  loopN (P20) e.F (fun t h n => l10 e n Jn J1 J0 Jr t h) (x70, x71, x72, x73, ()) h
theorem k9_eq (e : Cx) (Jn : P14 → AH → Res) (J1 : P14 → AH → Res) (J0 : P27 → AH → Res) (Jr : PR → AH → Res) : ∀ t h, exL (cfgS e) lv 60 e.F (cP [5, 4, 2] B) (mkT K20 t) h (jk K14 Jn) (exK [(1, (jk K14 J1)), (0, (jk K27 J0))]) (jk KR Jr) = k9 e Jn J1 J0 Jr t h
| (x70, x71, x72, x73, _), h => nd_block' (X := cP [5, 4, 2] B) (id := 2) (b := cP [5, 4, 3] B) (by kernel_rfl) ((nd_loop' (X := cP [5, 4, 3] B) (b := cP [5, 4, 4] B) (L := K20) (by kernel_rfl) (by kernel_rfl) (SB := fun n => l10 e n Jn J1 J0 Jr) (fun n => l10_eq e n Jn J1 J0 Jr) _ _).trans (by kernel_rfl))
noncomputable def r9 (e : Cx) (Jn : P14 → AH → Res) (J0 : P27 → AH → Res) (Jr : PR → AH → Res) : P14 → AH → Res
| (x53, x54, x55, _), h =>
  c9 e (k9 e (r8 e Jn J0 Jr) (r8 e Jn J0 Jr) J0 Jr) (x53, x54, x55, ()) h
theorem r9_eq (e : Cx) (Jn : P14 → AH → Res) (J0 : P27 → AH → Res) (Jr : PR → AH → Res) : ∀ t h, exL (cfgS e) lv 60 e.F (cP [5, 4] B) (mkT K14 t) h (jk K14 Jn) (exK [(0, (jk K27 J0))]) (jk KR Jr) = r9 e Jn J0 Jr t h
| (x53, x54, x55, _), h => (nd_norm' (X := (cP [5, 4] B)) (a := cP [5, 4, 0] B) (b := cP [5, 5] B) (L := K14) (by kernel_rfl) (by kernel_rfl) (by kernel_rfl) (SB := (r8 e Jn J0 Jr)) (r8_eq e Jn J0 Jr) _ _).trans (nd_block' (X := cP [5, 4, 0] B) (id := 1) (b := cP [5, 4, 1] B) (by kernel_rfl) (nd_chain' (X := cP [5, 4, 1] B) (Y := (cP [5, 4, 2] B)) 1 (L := K20) (S := fun J => c9 e J (x53, x54, x55, ()) h) (Q := (k9 e (r8 e Jn J0 Jr) (r8 e Jn J0 Jr) J0 Jr)) (by kernel_rfl) (fun n => c9_eq e x53 x54 x55 h n (exK [(1, (jk K14 (r8 e Jn J0 Jr))), (0, (jk K27 J0))]) (jk KR Jr)) (k9_eq e (r8 e Jn J0 Jr) (r8 e Jn J0 Jr) J0 Jr)))
noncomputable def c7 (e : Cx) (J : P16 → AH → Res) : P14 → AH → Res
| (x50, x51, x52, _), h =>
  J (x50, x51, x52, (decide (x52 ≥ 0)), ()) h
theorem c7_eq (e : Cx) (x50 : V) (x51 : V) (x52 : Int) (h : AH) (n : Kn) (ee : Ke) (r : Kn) : rgL (cfgS e) lv 60 e.F (peel 1 (cP [5, 3, 0] B)).1 (mkT K14 (x50, x51, x52, ())) h n ee r = c7 e (fun t h => n (mkT K16 t) h) (x50, x51, x52, ()) h := by kernel_rfl
noncomputable def k7 (e : Cx) (Jn : P14 → AH → Res) (J0 : P27 → AH → Res) (Jr : PR → AH → Res) : P16 → AH → Res
| (x119, x120, x121, x122, _), h =>
  bif x122 then Jn (x119, x120, x121, ()) h else J0 (x120, ()) h
theorem k7_eq (e : Cx) (Jn : P14 → AH → Res) (J0 : P27 → AH → Res) (Jr : PR → AH → Res) : ∀ t h, exL (cfgS e) lv 60 e.F (cP [5, 3, 1] B) (mkT K16 t) h (jk K14 Jn) (exK [(0, (jk K27 J0))]) (jk KR Jr) = k7 e Jn J0 Jr t h
| (x119, x120, x121, x122, _), h => nd_cond' (X := cP [5, 3, 1] B) (a := cP [5, 3, 1, 0] B) (b := cP [5, 3, 2] B) (t := x122) (x := .tmp 41) (by kernel_rfl) (by kernel_rfl) (by kernel_rfl) (by kernel_rfl)
noncomputable def l7 (e : Cx) (Jn : P14 → AH → Res) (J0 : P27 → AH → Res) (Jr : PR → AH → Res) : P14 → AH → Res
| (x50, x51, x52, _), h =>
  c7 e (k7 e (r9 e Jn J0 Jr) J0 Jr) (x50, x51, x52, ()) h
theorem l7_eq (e : Cx) (Jn : P14 → AH → Res) (J0 : P27 → AH → Res) (Jr : PR → AH → Res) : ∀ t h, exL (cfgS e) lv 60 e.F (cP [5, 3] B) (mkT K14 t) h (jk K14 Jn) (exK [(0, (jk K27 J0))]) (jk KR Jr) = l7 e Jn J0 Jr t h
| (x50, x51, x52, _), h => (nd_norm' (X := (cP [5, 3] B)) (a := cP [5, 3, 0] B) (b := cP [5, 4] B) (L := K14) (by kernel_rfl) (by kernel_rfl) (by kernel_rfl) (SB := (r9 e Jn J0 Jr)) (r9_eq e Jn J0 Jr) _ _).trans (nd_chain' (X := cP [5, 3, 0] B) (Y := (cP [5, 3, 1] B)) 1 (L := K16) (S := fun J => c7 e J (x50, x51, x52, ()) h) (Q := (k7 e (r9 e Jn J0 Jr) J0 Jr)) (by kernel_rfl) (fun n => c7_eq e x50 x51 x52 h n (exK [(0, (jk K27 J0))]) (jk KR Jr)) (k7_eq e (r9 e Jn J0 Jr) J0 Jr))
noncomputable def k6 (e : Cx) (Jn : P27 → AH → Res) (Jr : PR → AH → Res) : P14 → AH → Res
| (x47, x48, x49, _), h =>
  loopN (P14) e.F (fun t h n => l7 e n Jn Jr t h) (x47, x48, x49, ()) h
theorem k6_eq (e : Cx) (Jn : P27 → AH → Res) (Jr : PR → AH → Res) : ∀ t h, exL (cfgS e) lv 60 e.F (cP [5, 1] B) (mkT K14 t) h (jk K27 Jn) (exK []) (jk KR Jr) = k6 e Jn Jr t h
| (x47, x48, x49, _), h => nd_block' (X := cP [5, 1] B) (id := 0) (b := cP [5, 2] B) (by kernel_rfl) ((nd_loop' (X := cP [5, 2] B) (b := cP [5, 3] B) (L := K14) (by kernel_rfl) (by kernel_rfl) (SB := fun n => l7 e n Jn Jr) (fun n => l7_eq e n Jn Jr) _ _).trans (by kernel_rfl))
noncomputable def k5 (e : Cx) (Jn : PR → AH → Res) (Jr : PR → AH → Res) : P10 → AH → Res
| (x34, x35, x36, _), h =>
  c6 e (k6 e (r13 e Jn Jr) Jr) (x34, x35, x36, ()) h
theorem k5_eq (e : Cx) (Jn : PR → AH → Res) (Jr : PR → AH → Res) : ∀ t h, exL (cfgS e) lv 60 e.F (cP [5] B) (mkT K10 t) h (jk KR Jn) (exK []) (jk KR Jr) = k5 e Jn Jr t h
| (x34, x35, x36, _), h => (nd_norm' (X := (cP [5] B)) (a := cP [5, 0] B) (b := cP [6] B) (L := K27) (by kernel_rfl) (by kernel_rfl) (by kernel_rfl) (SB := (r13 e Jn Jr)) (r13_eq e Jn Jr) _ _).trans (nd_chain' (X := cP [5, 0] B) (Y := (cP [5, 1] B)) 1 (L := K14) (S := fun J => c6 e J (x34, x35, x36, ()) h) (Q := (k6 e (r13 e Jn Jr) Jr)) (by kernel_rfl) (fun n => c6_eq e x34 x35 x36 h n (exK []) (jk KR Jr)) (k6_eq e (r13 e Jn Jr) Jr))
noncomputable def r3 (e : Cx) (Jn : PR → AH → Res) (Jr : PR → AH → Res) : P2 → AH → Res
| (x6, x7, _), h =>
  c3 e (k5 e Jn Jr) (x6, x7, ()) h
theorem r3_eq (e : Cx) (Jn : PR → AH → Res) (Jr : PR → AH → Res) : ∀ t h, exL (cfgS e) lv 60 e.F (cP [2] B) (mkT K2 t) h (jk KR Jn) (exK []) (jk KR Jr) = r3 e Jn Jr t h
| (x6, x7, _), h => nd_chain' (X := cP [2] B) (Y := (cP [5] B)) 3 (L := K10) (S := fun J => c3 e J (x6, x7, ()) h) (Q := (k5 e Jn Jr)) (by kernel_rfl) (fun n => c3_eq e x6 x7 h n (exK []) (jk KR Jr)) (k5_eq e Jn Jr)
noncomputable def c1 (e : Cx) (J : P4 → AH → Res) : P2 → AH → Res
| (x4, x5, _), h =>
  bI .i64 (lenS x4) h fun x123 h124 =>
  bif (decide (x123 > 1000)) then
    J (x4, x5, true, ()) h124
  else
    bI .i64 (lenS x5) h124 fun x125 h126 =>
    let x127 : Bool := (bif false then true else (decide (x125 > 1000)))
    J (x4, x5, x127, ()) h126
theorem c1_eq (e : Cx) (x4 : V) (x5 : V) (h : AH) (n : Kn) (ee : Ke) (r : Kn) : rgL (cfgS e) lv 60 e.F (peel 1 (cP [1, 0] B)).1 (mkT K2 (x4, x5, ())) h n ee r = c1 e (fun t h => n (mkT K4 t) h) (x4, x5, ()) h := by kernel_rfl
noncomputable def c2 (e : Cx) (J : P6 → AH → Res) : P4 → AH → Res
| (x132, x133, x134, _), h =>
  J ((.nilptr), 2, ()) h
theorem c2_eq (e : Cx) (x132 : V) (x133 : V) (x134 : Bool) (h : AH) (n : Kn) (ee : Ke) (r : Kn) : rgL (cfgS e) lv 60 e.F (peel 1 (cP [1, 1, 0] B)).1 (mkT K4 (x132, x133, x134, ())) h n ee r = c2 e (fun t h => n (mkT K6 t) h) (x132, x133, x134, ()) h := by kernel_rfl
noncomputable def k1 (e : Cx) (Jn : P2 → AH → Res) (Jr : PR → AH → Res) : P4 → AH → Res
| (x132, x133, x134, _), h =>
  bif x134 then c2 e (fun | (x135, x136, _), h137 => Jr (x135, (.int .i64 x136), ()) h137) (x132, x133, x134, ()) h else Jn (x132, x133, ()) h
theorem k1_eq (e : Cx) (Jn : P2 → AH → Res) (Jr : PR → AH → Res) : ∀ t h, exL (cfgS e) lv 60 e.F (cP [1, 1] B) (mkT K4 t) h (jk K2 Jn) (exK []) (jk KR Jr) = k1 e Jn Jr t h
| (x132, x133, x134, _), h => nd_cond' (X := cP [1, 1] B) (a := cP [1, 1, 0] B) (b := cP [1, 2] B) (t := x134) (x := .tmp 17) (by kernel_rfl) (by kernel_rfl) (nd_chain' (X := cP [1, 1, 0] B) (Y := (cP [1, 1, 1] B)) 1 (L := K6) (S := fun J => c2 e J (x132, x133, x134, ()) h) (Q := fun | (x135, x136, _), h137 => Jr (x135, (.int .i64 x136), ()) h137) (by kernel_rfl) (fun n => c2_eq e x132 x133 x134 h n (exK []) (jk KR Jr)) (fun | (x135, x136, _), h137 => by kernel_rfl)) (by kernel_rfl)
noncomputable def k0 (e : Cx) (Jn : PR → AH → Res) (Jr : PR → AH → Res) : P2 → AH → Res
| (x4, x5, _), h =>
  c1 e (k1 e (r3 e Jn Jr) Jr) (x4, x5, ()) h
theorem k0_eq (e : Cx) (Jn : PR → AH → Res) (Jr : PR → AH → Res) : ∀ t h, exL (cfgS e) lv 60 e.F (cP [1] B) (mkT K2 t) h (jk KR Jn) (exK []) (jk KR Jr) = k0 e Jn Jr t h
| (x4, x5, _), h => (nd_norm' (X := (cP [1] B)) (a := cP [1, 0] B) (b := cP [2] B) (L := K2) (by kernel_rfl) (by kernel_rfl) (by kernel_rfl) (SB := (r3 e Jn Jr)) (r3_eq e Jn Jr) _ _).trans (nd_chain' (X := cP [1, 0] B) (Y := (cP [1, 1] B)) 1 (L := K4) (S := fun J => c1 e J (x4, x5, ()) h) (Q := (k1 e (r3 e Jn Jr) Jr)) (by kernel_rfl) (fun n => c1_eq e x4 x5 h n (exK []) (jk KR Jr)) (k1_eq e (r3 e Jn Jr) Jr))
noncomputable def fn (e : Cx) (a0 : V) (a1 : V) (h : AH) : Res :=
  c0 e (k0 e ret ret) (a0, a1, ()) h
theorem run (e : Cx) (a0 : V) (a1 : V) (h : AH) : execFn (cfgS e) (foLive lv) e.F n_diff_lay [a0, a1] h = fn e a0 a1 h := by
  refine (fn_eq (c := cfgS e) (lv := lv) (PP.funcs.getD 32 default) B (by kernel_rfl) (by kernel_rfl) (Nat.le_of_ble_eq_true (by kernel_rfl))).trans ?_
  rw [ret_eq]
  exact nd_chain' (X := cP [0] B) (Y := (cP [1] B)) 1 (L := K2) (S := fun J => c0 e J (a0, a1, ()) h) (Q := (k0 e ret ret)) (by kernel_rfl) (fun n => c0_eq e a0 a1 h n (exK []) (jk KR ret)) (k0_eq e ret ret)
end diff_lay
namespace diff_plane_way
noncomputable def B : Code := cBody (PP.funcs.getD 33 default)
abbrev K2 : Slots := [(0, .any)]
abbrev P2 := V × Unit
abbrev K4 : Slots := [(0, .any), (3, .any)]
abbrev P4 := V × V × Unit
abbrev K6 : Slots := [(0, .any), (3, .any), (4, .any)]
abbrev P6 := V × V × V × Unit
abbrev K8 : Slots := [(0, .any), (3, .any), (4, .any), (10, .bool)]
abbrev P8 := V × V × V × Bool × Unit
abbrev K13 : Slots := [(4, .any)]
abbrev P13 := V × Unit
abbrev K14 : Slots := [(2, .any)]
abbrev P14 := V × Unit
def lv : Nat → Option Slots := fun k =>
  bif Nat.beq k 2 then some K2 else bif Nat.beq k 4 then some K4 else bif Nat.beq k 6 then some K6 else bif Nat.beq k 8 then some K8 else bif Nat.beq k 9 then some K6 else bif Nat.beq k 10 then some K6 else bif Nat.beq k 12 then some K6 else bif Nat.beq k 7 then some K6 else bif Nat.beq k 13 then some K13 else bif Nat.beq k 14 then some K14 else none
abbrev KR : Slots := [(2, .any)]
abbrev PR := V × Unit
noncomputable def ret : P14 → AH → Res
| (x2, _), h => finW [some x2] h
theorem ret_eq (e : Cx) : fin (cfgS e) (foLive lv) (PP.funcs.getD 33 default) = jk K14 ret := by kernel_rfl
noncomputable def c0 (e : Cx) (J : P6 → AH → Res) : V × Unit → AH → Res
| (a0, _), h =>
  cV (bsl 1 1 [(0, 1, (.complex .f64 0 0))] [.complex .f64 0 0] T_complex128 h) fun x1 h2 =>
  J (a0, (.complex .f64 0 0), x1, ()) h2
theorem c0_eq (e : Cx) (a0 : V) (h : AH) (n : Kn) (ee : Ke) (r : Kn) : rgL (cfgS e) lv 21 e.F (peel 3 (cP [0] B)).1 (iniT [a0] 0 .leaf) h n ee r = c0 e (fun t h => n (mkT K6 t) h) (a0, ()) h := by kernel_rfl
noncomputable def c6 (e : Cx) (J : P14 → AH → Res) : P13 → AH → Res
| (x10, _), h =>
  J (x10, ()) h
theorem c6_eq (e : Cx) (x10 : V) (h : AH) (n : Kn) (ee : Ke) (r : Kn) : rgL (cfgS e) lv 21 e.F (peel 1 (cP [4] B)).1 (mkT K13 (x10, ())) h n ee r = c6 e (fun t h => n (mkT K14 t) h) (x10, ()) h := by kernel_rfl
noncomputable def r6 (e : Cx) (Jn : P14 → AH → Res) (Jr : P14 → AH → Res) : P13 → AH → Res
| (x10, _), h =>
  c6 e Jr (x10, ()) h
theorem r6_eq (e : Cx) (Jn : P14 → AH → Res) (Jr : P14 → AH → Res) : ∀ t h, exL (cfgS e) lv 21 e.F (cP [4] B) (mkT K13 t) h (jk K14 Jn) (exK []) (jk K14 Jr) = r6 e Jn Jr t h
| (x10, _), h => nd_chain' (X := cP [4] B) (Y := (cP [5] B)) 1 (L := K14) (S := fun J => c6 e J (x10, ()) h) (Q := Jr) (by kernel_rfl) (fun n => c6_eq e x10 h n (exK []) (jk K14 Jr)) (fun t h => by kernel_rfl)
noncomputable def c4 (e : Cx) (J : P6 → AH → Res) : P6 → AH → Res
| (x16, x17, x18, _), h =>
  cV (e.C n_diff_plane_step [x16, x17] h) fun x19 h20 =>
  bV (absBin PP .add T_complex128 (.tmp 0) (.tmp 0) x17 x19) h20 fun x21 h22 =>
  cV (bsl 1 1 [(0, 1, x21)] [.complex .f64 0 0] T_complex128 h22) fun x23 h24 =>
  cV (app 1 16 T_complex128 x18 x23 h24) fun x25 h26 =>
  J (x16, x21, x25, ()) h26
theorem c4_eq (e : Cx) (x16 : V) (x17 : V) (x18 : V) (h : AH) (n : Kn) (ee : Ke) (r : Kn) : rgL (cfgS e) lv 21 e.F (peel 2 (cP [3, 4] B)).1 (mkT K6 (x16, x17, x18, ())) h n ee r = c4 e (fun t h => n (mkT K6 t) h) (x16, x17, x18, ()) h := by kernel_rfl
noncomputable def r4 (e : Cx) (Jn : P6 → AH → Res) (J0 : P13 → AH → Res) (Jr : P14 → AH → Res) : P6 → AH → Res
| (x16, x17, x18, _), h =>
  c4 e Jn (x16, x17, x18, ()) h
theorem r4_eq (e : Cx) (Jn : P6 → AH → Res) (J0 : P13 → AH → Res) (Jr : P14 → AH → Res) : ∀ t h, exL (cfgS e) lv 21 e.F (cP [3, 3] B) (mkT K6 t) h (jk K6 Jn) (exK [(0, (jk K13 J0))]) (jk K14 Jr) = r4 e Jn J0 Jr t h
| (x16, x17, x18, _), h => nd_block' (X := cP [3, 3] B) (id := 1) (b := cP [3, 4] B) (by kernel_rfl) (nd_chain' (X := cP [3, 4] B) (Y := .skip) 2 (L := K6) (S := fun J => c4 e J (x16, x17, x18, ()) h) (Q := Jn) (by kernel_rfl) (fun n => c4_eq e x16 x17 x18 h n (exK [(1, (jk K6 Jn)), (0, (jk K13 J0))]) (jk K14 Jr)) (fun t h => by kernel_rfl))
noncomputable def c3 (e : Cx) (J : P8 → AH → Res) : P6 → AH → Res
| (x13, x14, x15, _), h =>
  cV (e.C n_diff_plane_end [x13] h) fun x31 h32 =>
  bB (neW PP false T_complex128 x14 x31) h32 fun x33 h34 =>
  J (x13, x14, x15, x33, ()) h34
theorem c3_eq (e : Cx) (x13 : V) (x14 : V) (x15 : V) (h : AH) (n : Kn) (ee : Ke) (r : Kn) : rgL (cfgS e) lv 21 e.F (peel 1 (cP [3, 2, 0] B)).1 (mkT K6 (x13, x14, x15, ())) h n ee r = c3 e (fun t h => n (mkT K8 t) h) (x13, x14, x15, ()) h := by kernel_rfl
noncomputable def k3 (e : Cx) (Jn : P6 → AH → Res) (J0 : P13 → AH → Res) (Jr : P14 → AH → Res) : P8 → AH → Res
| (x40, x41, x42, x43, _), h =>
  bif x43 then Jn (x40, x41, x42, ()) h else J0 (x42, ()) h
theorem k3_eq (e : Cx) (Jn : P6 → AH → Res) (J0 : P13 → AH → Res) (Jr : P14 → AH → Res) : ∀ t h, exL (cfgS e) lv 21 e.F (cP [3, 2, 1] B) (mkT K8 t) h (jk K6 Jn) (exK [(0, (jk K13 J0))]) (jk K14 Jr) = k3 e Jn J0 Jr t h
| (x40, x41, x42, x43, _), h => nd_cond' (X := cP [3, 2, 1] B) (a := cP [3, 2, 1, 0] B) (b := cP [3, 2, 2] B) (t := x43) (x := .tmp 10) (by kernel_rfl) (by kernel_rfl) (by kernel_rfl) (by kernel_rfl)
noncomputable def l3 (e : Cx) (Jn : P6 → AH → Res) (J0 : P13 → AH → Res) (Jr : P14 → AH → Res) : P6 → AH → Res
| (x13, x14, x15, _), h =>
  c3 e (k3 e (r4 e Jn J0 Jr) J0 Jr) (x13, x14, x15, ()) h
theorem l3_eq (e : Cx) (Jn : P6 → AH → Res) (J0 : P13 → AH → Res) (Jr : P14 → AH → Res) : ∀ t h, exL (cfgS e) lv 21 e.F (cP [3, 2] B) (mkT K6 t) h (jk K6 Jn) (exK [(0, (jk K13 J0))]) (jk K14 Jr) = l3 e Jn J0 Jr t h
| (x13, x14, x15, _), h => (nd_norm' (X := (cP [3, 2] B)) (a := cP [3, 2, 0] B) (b := cP [3, 3] B) (L := K6) (by kernel_rfl) (by kernel_rfl) (by kernel_rfl) (SB := (r4 e Jn J0 Jr)) (r4_eq e Jn J0 Jr) _ _).trans (nd_chain' (X := cP [3, 2, 0] B) (Y := (cP [3, 2, 1] B)) 1 (L := K8) (S := fun J => c3 e J (x13, x14, x15, ()) h) (Q := (k3 e (r4 e Jn J0 Jr) J0 Jr)) (by kernel_rfl) (fun n => c3_eq e x13 x14 x15 h n (exK [(0, (jk K13 J0))]) (jk K14 Jr)) (k3_eq e (r4 e Jn J0 Jr) J0 Jr))
noncomputable def k2 (e : Cx) (Jn : P14 → AH → Res) (Jr : P14 → AH → Res) : P6 → AH → Res
| (x7, x8, x9, _), h =>
  loopN (P6) e.F (fun t h n => l3 e n (r6 e Jn Jr) Jr t h) (x7, x8, x9, ()) h
theorem k2_eq (e : Cx) (Jn : P14 → AH → Res) (Jr : P14 → AH → Res) : ∀ t h, exL (cfgS e) lv 21 e.F (cP [3] B) (mkT K6 t) h (jk K14 Jn) (exK []) (jk K14 Jr) = k2 e Jn Jr t h
| (x7, x8, x9, _), h => (nd_norm' (X := (cP [3] B)) (a := cP [3, 0] B) (b := cP [4] B) (L := K13) (by kernel_rfl) (by kernel_rfl) (by kernel_rfl) (SB := (r6 e Jn Jr)) (r6_eq e Jn Jr) _ _).trans (nd_block' (X := cP [3, 0] B) (id := 0) (b := cP [3, 1] B) (by kernel_rfl) ((nd_loop' (X := cP [3, 1] B) (b := cP [3, 2] B) (L := K6) (by kernel_rfl) (by kernel_rfl) (SB := fun n => l3 e n (r6 e Jn Jr) Jr) (fun n => l3_eq e n (r6 e Jn Jr) Jr) _ _).trans (by kernel_rfl)))
noncomputable def fn (e : Cx) (a0 : V) (h : AH) : Res :=
  c0 e (k2 e ret ret) (a0, ()) h
theorem run (e : Cx) (a0 : V) (h : AH) : execFn (cfgS e) (foLive lv) e.F n_diff_plane_way [a0] h = fn e a0 h := by
  refine (fn_eq (c := cfgS e) (lv := lv) (PP.funcs.getD 33 default) B (by kernel_rfl) (by kernel_rfl) (Nat.le_of_ble_eq_true (by kernel_rfl))).trans ?_
  rw [ret_eq]
  exact nd_chain' (X := cP [0] B) (Y := (cP [3] B)) 3 (L := K6) (S := fun J => c0 e J (a0, ()) h) (Q := (k2 e ret ret)) (by kernel_rfl) (fun n => c0_eq e a0 h n (exK []) (jk K14 ret)) (k2_eq e ret ret)
end diff_plane_way
end Go.Proofs.YtcphjmgfgfjnpaaGreatDoor
set_option maxRecDepth 100000
namespace Go.Proofs.YtcphjmgfgfjnpaaGreatDoor
open Go Ev
namespace diff_numbers
noncomputable def B : Code := cBody (PP.funcs.getD 61 default)
abbrev K2 : Slots := [(0, .any), (1, .any)]
abbrev P2 := V × V × Unit
abbrev K4 : Slots := [(0, .any), (1, .any), (5, .any)]
abbrev P4 := V × V × V × Unit
abbrev K6 : Slots := [(1, .any), (5, .any), (10, .any), (11, .int .i64), (12, .int .i64)]
abbrev P6 := V × V × V × Int × Int × Unit
abbrev K8 : Slots := [(1, .any), (5, .any), (10, .any), (11, .int .i64), (12, .int .i64), (13, .bool)]
abbrev P8 := V × V × V × Int × Int × Bool × Unit
abbrev K10 : Slots := [(1, .any), (5, .any), (7, .str), (10, .any), (11, .int .i64), (12, .int .i64)]
abbrev P10 := V × V × List Nat × V × Int × Int × Unit
abbrev K12 : Slots := [(1, .any), (5, .any), (7, .str), (8, .int .i64), (9, .bool), (10, .any), (11, .int .i64), (12, .int .i64)]
abbrev P12 := V × V × List Nat × Int × Bool × V × Int × Int × Unit
abbrev K14 : Slots := [(1, .any), (5, .any), (7, .str), (8, .int .i64), (10, .any), (11, .int .i64), (12, .int .i64), (23, .bool)]
abbrev P14 := V × V × List Nat × Int × V × Int × Int × Bool × Unit
abbrev K16 : Slots := [(1, .any), (5, .any), (7, .str), (8, .int .i64), (10, .any), (11, .int .i64), (12, .int .i64)]
abbrev P16 := V × V × List Nat × Int × V × Int × Int × Unit
abbrev K18 : Slots := [(1, .any), (5, .any), (8, .int .i64), (10, .any), (11, .int .i64), (12, .int .i64)]
abbrev P18 := V × V × Int × V × Int × Int × Unit
abbrev K23 : Slots := [(5, .any)]
abbrev P23 := V × Unit
abbrev K24 : Slots := [(4, .any)]
abbrev P24 := V × Unit
def lv : Nat → Option Slots := fun k =>
  bif Nat.beq k 2 then some K2 else bif Nat.beq k 4 then some K4 else bif Nat.beq k 6 then some K6 else bif Nat.beq k 8 then some K8 else bif Nat.beq k 9 then some K6 else bif Nat.beq k 10 then some K10 else bif Nat.beq k 12 then some K12 else bif Nat.beq k 14 then some K14 else bif Nat.beq k 16 then some K16 else bif Nat.beq k 18 then some K18 else bif Nat.beq k 19 then some K18 else bif Nat.beq k 20 then some K6 else bif Nat.beq k 21 then some K6 else bif Nat.beq k 22 then some K6 else bif Nat.beq k 7 then some K6 else bif Nat.beq k 23 then some K23 else bif Nat.beq k 24 then some K24 else none
abbrev KR : Slots := [(4, .any)]
abbrev PR := V × Unit
noncomputable def ret : P24 → AH → Res
| (x4, _), h => finW [some x4] h
theorem ret_eq (e : Cx) : fin (cfgS e) (foLive lv) (PP.funcs.getD 61 default) = jk K24 ret := by kernel_rfl
noncomputable def c0 (e : Cx) (J : P4 → AH → Res) : V × V × Unit → AH → Res
| (a0, a1, _), h =>
  J (a0, a1, (.nilslice), ()) h
theorem c0_eq (e : Cx) (a0 : V) (a1 : V) (h : AH) (n : Kn) (ee : Ke) (r : Kn) : rgL (cfgS e) lv 35 e.F (peel 2 (cP [0] B)).1 (iniT [a0, a1] 0 .leaf) h n ee r = c0 e (fun t h => n (mkT K4 t) h) (a0, a1, ()) h := by kernel_rfl
noncomputable def c11 (e : Cx) (J : P24 → AH → Res) : P23 → AH → Res
| (x8, _), h =>
  J (x8, ()) h
theorem c11_eq (e : Cx) (x8 : V) (h : AH) (n : Kn) (ee : Ke) (r : Kn) : rgL (cfgS e) lv 35 e.F (peel 1 (cP [3] B)).1 (mkT K23 (x8, ())) h n ee r = c11 e (fun t h => n (mkT K24 t) h) (x8, ()) h := by kernel_rfl
noncomputable def r11 (e : Cx) (Jn : P24 → AH → Res) (Jr : P24 → AH → Res) : P23 → AH → Res
| (x8, _), h =>
  c11 e Jr (x8, ()) h
theorem r11_eq (e : Cx) (Jn : P24 → AH → Res) (Jr : P24 → AH → Res) : ∀ t h, exL (cfgS e) lv 35 e.F (cP [3] B) (mkT K23 t) h (jk K24 Jn) (exK []) (jk K24 Jr) = r11 e Jn Jr t h
| (x8, _), h => nd_chain' (X := cP [3] B) (Y := (cP [4] B)) 1 (L := K24) (S := fun J => c11 e J (x8, ()) h) (Q := Jr) (by kernel_rfl) (fun n => c11_eq e x8 h n (exK []) (jk K24 Jr)) (fun t h => by kernel_rfl)
noncomputable def c2 (e : Cx) (J : P6 → AH → Res) : P4 → AH → Res
| (x5, x6, x7, _), h =>
  bI .i64 (lenS x5) h fun x11 h12 =>
  J (x6, x7, x5, x11, 0, ()) h12
theorem c2_eq (e : Cx) (x5 : V) (x6 : V) (x7 : V) (h : AH) (n : Kn) (ee : Ke) (r : Kn) : rgL (cfgS e) lv 35 e.F (peel 1 (cP [2, 0] B)).1 (mkT K4 (x5, x6, x7, ())) h n ee r = c2 e (fun t h => n (mkT K6 t) h) (x5, x6, x7, ()) h := by kernel_rfl
noncomputable def c3 (e : Cx) (J : P8 → AH → Res) : P6 → AH → Res
| (x24, x25, x26, x27, x28, _), h =>
  J (x24, x25, x26, x27, x28, (decide (x28 < x27)), ()) h
theorem c3_eq (e : Cx) (x24 : V) (x25 : V) (x26 : V) (x27 : Int) (x28 : Int) (h : AH) (n : Kn) (ee : Ke) (r : Kn) : rgL (cfgS e) lv 35 e.F (peel 1 (cP [2, 3] B)).1 (mkT K6 (x24, x25, x26, x27, x28, ())) h n ee r = c3 e (fun t h => n (mkT K8 t) h) (x24, x25, x26, x27, x28, ()) h := by kernel_rfl
noncomputable def c10 (e : Cx) (J : P6 → AH → Res) : P6 → AH → Res
| (x47, x48, x49, x50, x51, _), h =>
  J (x47, x48, x49, x50, (wr .i64 (x51 + 1)), ()) h
theorem c10_eq (e : Cx) (x47 : V) (x48 : V) (x49 : V) (x50 : Int) (x51 : Int) (h : AH) (n : Kn) (ee : Ke) (r : Kn) : rgL (cfgS e) lv 35 e.F (peel 1 (cP [2, 6] B)).1 (mkT K6 (x47, x48, x49, x50, x51, ())) h n ee r = c10 e (fun t h => n (mkT K6 t) h) (x47, x48, x49, x50, x51, ()) h := by kernel_rfl
noncomputable def r10 (e : Cx) (Jn : P6 → AH → Res) (J0 : P23 → AH → Res) (Jr : P24 → AH → Res) : P6 → AH → Res
| (x47, x48, x49, x50, x51, _), h =>
  c10 e Jn (x47, x48, x49, x50, x51, ()) h
theorem r10_eq (e : Cx) (Jn : P6 → AH → Res) (J0 : P23 → AH → Res) (Jr : P24 → AH → Res) : ∀ t h, exL (cfgS e) lv 35 e.F (cP [2, 6] B) (mkT K6 t) h (jk K6 Jn) (exK [(0, (jk K23 J0))]) (jk K24 Jr) = r10 e Jn J0 Jr t h
| (x47, x48, x49, x50, x51, _), h => nd_chain' (X := cP [2, 6] B) (Y := .skip) 1 (L := K6) (S := fun J => c10 e J (x47, x48, x49, x50, x51, ()) h) (Q := Jn) (by kernel_rfl) (fun n => c10_eq e x47 x48 x49 x50 x51 h n (exK [(0, (jk K23 J0))]) (jk K24 Jr)) (fun t h => by kernel_rfl)
noncomputable def c4 (e : Cx) (J : P12 → AH → Res) : P6 → AH → Res
| (x42, x43, x44, x45, x46, _), h =>
  bV (ixS 1 x44 x46) h fun x58 h59 =>
  bZ (ld x58 h59) h59 fun x60 h61 =>
  bV (absLookup PP T_mapastring_int x42 (.str x60) true h61) h61 fun x62 h63 =>
  bI .i64 (absExtract x62 0) h63 fun x64 h65 =>
  bB (absExtract x62 1) h65 fun x66 h67 =>
  J (x42, x43, x60, x64, x66, x44, x45, x46, ()) h67
theorem c4_eq (e : Cx) (x42 : V) (x43 : V) (x44 : V) (x45 : Int) (x46 : Int) (h : AH) (n : Kn) (ee : Ke) (r : Kn) : rgL (cfgS e) lv 35 e.F (peel 2 (cP [2, 5, 1] B)).1 (mkT K6 (x42, x43, x44, x45, x46, ())) h n ee r = c4 e (fun t h => n (mkT K12 t) h) (x42, x43, x44, x45, x46, ()) h := by kernel_rfl
noncomputable def c9 (e : Cx) (J : P6 → AH → Res) : P18 → AH → Res
| (x85, x86, x87, x88, x89, x90, _), h =>
  cV (bsl 1 1 [(0, 1, (.int .i64 x87))] [.int .i64 0] T_int h) fun x91 h92 =>
  cV (app 1 8 T_int x86 x91 h92) fun x93 h94 =>
  J (x85, x93, x88, x89, x90, ()) h94
theorem c9_eq (e : Cx) (x85 : V) (x86 : V) (x87 : Int) (x88 : V) (x89 : Int) (x90 : Int) (h : AH) (n : Kn) (ee : Ke) (r : Kn) : rgL (cfgS e) lv 35 e.F (peel 1 (cP [2, 5, 4] B)).1 (mkT K18 (x85, x86, x87, x88, x89, x90, ())) h n ee r = c9 e (fun t h => n (mkT K6 t) h) (x85, x86, x87, x88, x89, x90, ()) h := by kernel_rfl
noncomputable def r9 (e : Cx) (Jn : P6 → AH → Res) (J1 : P6 → AH → Res) (J0 : P23 → AH → Res) (Jr : P24 → AH → Res) : P18 → AH → Res
| (x85, x86, x87, x88, x89, x90, _), h =>
  c9 e Jn (x85, x86, x87, x88, x89, x90, ()) h
theorem r9_eq (e : Cx) (Jn : P6 → AH → Res) (J1 : P6 → AH → Res) (J0 : P23 → AH → Res) (Jr : P24 → AH → Res) : ∀ t h, exL (cfgS e) lv 35 e.F (cP [2, 5, 4] B) (mkT K18 t) h (jk K6 Jn) (exK [(1, (jk K6 J1)), (0, (jk K23 J0))]) (jk K24 Jr) = r9 e Jn J1 J0 Jr t h
| (x85, x86, x87, x88, x89, x90, _), h => nd_chain' (X := cP [2, 5, 4] B) (Y := .skip) 1 (L := K6) (S := fun J => c9 e J (x85, x86, x87, x88, x89, x90, ()) h) (Q := Jn) (by kernel_rfl) (fun n => c9_eq e x85 x86 x87 x88 x89 x90 h n (exK [(1, (jk K6 J1)), (0, (jk K23 J0))]) (jk K24 Jr)) (fun t h => by kernel_rfl)
noncomputable def c6 (e : Cx) (J : P14 → AH → Res) : P12 → AH → Res
| (x77, x78, x79, x80, x81, x82, x83, x84, _), h =>
  J (x77, x78, x79, x80, x82, x83, x84, (!x81), ()) h
theorem c6_eq (e : Cx) (x77 : V) (x78 : V) (x79 : List Nat) (x80 : Int) (x81 : Bool) (x82 : V) (x83 : Int) (x84 : Int) (h : AH) (n : Kn) (ee : Ke) (r : Kn) : rgL (cfgS e) lv 35 e.F (peel 1 (cP [2, 5, 3, 0] B)).1 (mkT K12 (x77, x78, x79, x80, x81, x82, x83, x84, ())) h n ee r = c6 e (fun t h => n (mkT K14 t) h) (x77, x78, x79, x80, x81, x82, x83, x84, ()) h := by kernel_rfl
noncomputable def c7 (e : Cx) (J : P18 → AH → Res) : P14 → AH → Res
| (x110, x111, x112, x113, x114, x115, x116, x117, _), h =>
  bI .i64 (absMapLen PP T_mapastring_int x110 h) h fun x118 h119 =>
  bS (absMapUpdate PP T_mapastring_int x110 (.str x112) (.int .i64 x118) h119) fun h120 =>
  J (x110, x111, x118, x114, x115, x116, ()) h120
theorem c7_eq (e : Cx) (x110 : V) (x111 : V) (x112 : List Nat) (x113 : Int) (x114 : V) (x115 : Int) (x116 : Int) (x117 : Bool) (h : AH) (n : Kn) (ee : Ke) (r : Kn) : rgL (cfgS e) lv 35 e.F (peel 2 (cP [2, 5, 3, 1, 0] B)).1 (mkT K14 (x110, x111, x112, x113, x114, x115, x116, x117, ())) h n ee r = c7 e (fun t h => n (mkT K18 t) h) (x110, x111, x112, x113, x114, x115, x116, x117, ()) h := by kernel_rfl
noncomputable def k6 (e : Cx) (Jn : P18 → AH → Res) (J1 : P6 → AH → Res) (J0 : P23 → AH → Res) (Jr : P24 → AH → Res) : P14 → AH → Res
| (x110, x111, x112, x113, x114, x115, x116, x117, _), h =>
  bif x117 then c7 e Jn (x110, x111, x112, x113, x114, x115, x116, x117, ()) h else Jn (x110, x111, x113, x114, x115, x116, ()) h
theorem k6_eq (e : Cx) (Jn : P18 → AH → Res) (J1 : P6 → AH → Res) (J0 : P23 → AH → Res) (Jr : P24 → AH → Res) : ∀ t h, exL (cfgS e) lv 35 e.F (cP [2, 5, 3, 1] B) (mkT K14 t) h (jk K18 Jn) (exK [(1, (jk K6 J1)), (0, (jk K23 J0))]) (jk K24 Jr) = k6 e Jn J1 J0 Jr t h
| (x110, x111, x112, x113, x114, x115, x116, x117, _), h => nd_cond' (X := cP [2, 5, 3, 1] B) (a := cP [2, 5, 3, 1, 0] B) (b := cP [2, 5, 3, 2] B) (t := x117) (x := .tmp 23) (by kernel_rfl) (by kernel_rfl) (nd_chain' (X := cP [2, 5, 3, 1, 0] B) (Y := .skip) 2 (L := K18) (S := fun J => c7 e J (x110, x111, x112, x113, x114, x115, x116, x117, ()) h) (Q := Jn) (by kernel_rfl) (fun n => c7_eq e x110 x111 x112 x113 x114 x115 x116 x117 h n (exK [(1, (jk K6 J1)), (0, (jk K23 J0))]) (jk K24 Jr)) (fun t h => by kernel_rfl)) (by kernel_rfl)
noncomputable def k5 (e : Cx) (Jn : P6 → AH → Res) (J1 : P6 → AH → Res) (J0 : P23 → AH → Res) (Jr : P24 → AH → Res) : P12 → AH → Res
| (x77, x78, x79, x80, x81, x82, x83, x84, _), h =>
  c6 e (k6 e (r9 e Jn J1 J0 Jr) J1 J0 Jr) (x77, x78, x79, x80, x81, x82, x83, x84, ()) h
theorem k5_eq (e : Cx) (Jn : P6 → AH → Res) (J1 : P6 → AH → Res) (J0 : P23 → AH → Res) (Jr : P24 → AH → Res) : ∀ t h, exL (cfgS e) lv 35 e.F (cP [2, 5, 3] B) (mkT K12 t) h (jk K6 Jn) (exK [(1, (jk K6 J1)), (0, (jk K23 J0))]) (jk K24 Jr) = k5 e Jn J1 J0 Jr t h
| (x77, x78, x79, x80, x81, x82, x83, x84, _), h => (nd_norm' (X := (cP [2, 5, 3] B)) (a := cP [2, 5, 3, 0] B) (b := cP [2, 5, 4] B) (L := K18) (by kernel_rfl) (by kernel_rfl) (by kernel_rfl) (SB := (r9 e Jn J1 J0 Jr)) (r9_eq e Jn J1 J0 Jr) _ _).trans (nd_chain' (X := cP [2, 5, 3, 0] B) (Y := (cP [2, 5, 3, 1] B)) 1 (L := K14) (S := fun J => c6 e J (x77, x78, x79, x80, x81, x82, x83, x84, ()) h) (Q := (k6 e (r9 e Jn J1 J0 Jr) J1 J0 Jr)) (by kernel_rfl) (fun n => c6_eq e x77 x78 x79 x80 x81 x82 x83 x84 h n (exK [(1, (jk K6 J1)), (0, (jk K23 J0))]) (jk K24 Jr)) (k6_eq e (r9 e Jn J1 J0 Jr) J1 J0 Jr))
noncomputable def r4 (e : Cx) (Jn : P6 → AH → Res) (J0 : P23 → AH → Res) (Jr : P24 → AH → Res) : P6 → AH → Res
| (x42, x43, x44, x45, x46, _), h =>
  c4 e (k5 e (r10 e Jn J0 Jr) (r10 e Jn J0 Jr) J0 Jr) (x42, x43, x44, x45, x46, ()) h
theorem r4_eq (e : Cx) (Jn : P6 → AH → Res) (J0 : P23 → AH → Res) (Jr : P24 → AH → Res) : ∀ t h, exL (cfgS e) lv 35 e.F (cP [2, 5] B) (mkT K6 t) h (jk K6 Jn) (exK [(0, (jk K23 J0))]) (jk K24 Jr) = r4 e Jn J0 Jr t h
| (x42, x43, x44, x45, x46, _), h => (nd_norm' (X := (cP [2, 5] B)) (a := cP [2, 5, 0] B) (b := cP [2, 6] B) (L := K6) (by kernel_rfl) (by kernel_rfl) (by kernel_rfl) (SB := (r10 e Jn J0 Jr)) (r10_eq e Jn J0 Jr) _ _).trans (nd_block' (X := cP [2, 5, 0] B) (id := 1) (b := cP [2, 5, 1] B) (by kernel_rfl) (nd_chain' (X := cP [2, 5, 1] B) (Y := (cP [2, 5, 3] B)) 2 (L := K12) (S := fun J => c4 e J (x42, x43, x44, x45, x46, ()) h) (Q := (k5 e (r10 e Jn J0 Jr) (r10 e Jn J0 Jr) J0 Jr)) (by kernel_rfl) (fun n => c4_eq e x42 x43 x44 x45 x46 h n (exK [(1, (jk K6 (r10 e Jn J0 Jr))), (0, (jk K23 J0))]) (jk K24 Jr)) (k5_eq e (r10 e Jn J0 Jr) (r10 e Jn J0 Jr) J0 Jr)))
noncomputable def k3 (e : Cx) (Jn : P6 → AH → Res) (J0 : P23 → AH → Res) (Jr : P24 → AH → Res) : P8 → AH → Res
| (x36, x37, x38, x39, x40, x41, _), h =>
  bif x41 then (r4 e Jn J0 Jr) (x36, x37, x38, x39, x40, ()) h else J0 (x37, ()) h
theorem k3_eq (e : Cx) (Jn : P6 → AH → Res) (J0 : P23 → AH → Res) (Jr : P24 → AH → Res) : ∀ t h, exL (cfgS e) lv 35 e.F (cP [2, 4] B) (mkT K8 t) h (jk K6 Jn) (exK [(0, (jk K23 J0))]) (jk K24 Jr) = k3 e Jn J0 Jr t h
| (x36, x37, x38, x39, x40, x41, _), h => (nd_norm' (X := (cP [2, 4] B)) (a := cP [2, 4, 0] B) (b := cP [2, 5] B) (L := K6) (by kernel_rfl) (by kernel_rfl) (by kernel_rfl) (SB := (r4 e Jn J0 Jr)) (r4_eq e Jn J0 Jr) _ _).trans (nd_cond' (X := cP [2, 4, 0] B) (a := cP [2, 4, 0, 0] B) (b := cP [2, 4, 1] B) (t := x41) (x := .tmp 13) (by kernel_rfl) (by kernel_rfl) (by kernel_rfl) (by kernel_rfl))
noncomputable def l3 (e : Cx) (Jn : P6 → AH → Res) (J0 : P23 → AH → Res) (Jr : P24 → AH → Res) : P6 → AH → Res
| (x24, x25, x26, x27, x28, _), h =>
  c3 e (k3 e Jn J0 Jr) (x24, x25, x26, x27, x28, ()) h
theorem l3_eq (e : Cx) (Jn : P6 → AH → Res) (J0 : P23 → AH → Res) (Jr : P24 → AH → Res) : ∀ t h, exL (cfgS e) lv 35 e.F (cP [2, 3] B) (mkT K6 t) h (jk K6 Jn) (exK [(0, (jk K23 J0))]) (jk K24 Jr) = l3 e Jn J0 Jr t h
| (x24, x25, x26, x27, x28, _), h => nd_chain' (X := cP [2, 3] B) (Y := (cP [2, 4] B)) 1 (L := K8) (S := fun J => c3 e J (x24, x25, x26, x27, x28, ()) h) (Q := (k3 e Jn J0 Jr)) (by kernel_rfl) (fun n => c3_eq e x24 x25 x26 x27 x28 h n (exK [(0, (jk K23 J0))]) (jk K24 Jr)) (k3_eq e Jn J0 Jr)
noncomputable def k2 (e : Cx) (Jn : P23 → AH → Res) (Jr : P24 → AH → Res) : P6 → AH → Res
| (x19, x20, x21, x22, x23, _), h =>
  loopN (P6) e.F (fun t h n => l3 e n Jn Jr t h) (x19, x20, x21, x22, x23, ()) h
theorem k2_eq (e : Cx) (Jn : P23 → AH → Res) (Jr : P24 → AH → Res) : ∀ t h, exL (cfgS e) lv 35 e.F (cP [2, 1] B) (mkT K6 t) h (jk K23 Jn) (exK []) (jk K24 Jr) = k2 e Jn Jr t h
| (x19, x20, x21, x22, x23, _), h => nd_block' (X := cP [2, 1] B) (id := 0) (b := cP [2, 2] B) (by kernel_rfl) ((nd_loop' (X := cP [2, 2] B) (b := cP [2, 3] B) (L := K6) (by kernel_rfl) (by kernel_rfl) (SB := fun n => l3 e n Jn Jr) (fun n => l3_eq e n Jn Jr) _ _).trans (by kernel_rfl))
noncomputable def k1 (e : Cx) (Jn : P24 → AH → Res) (Jr : P24 → AH → Res) : P4 → AH → Res
| (x5, x6, x7, _), h =>
  c2 e (k2 e (r11 e Jn Jr) Jr) (x5, x6, x7, ()) h
theorem k1_eq (e : Cx) (Jn : P24 → AH → Res) (Jr : P24 → AH → Res) : ∀ t h, exL (cfgS e) lv 35 e.F (cP [2] B) (mkT K4 t) h (jk K24 Jn) (exK []) (jk K24 Jr) = k1 e Jn Jr t h
| (x5, x6, x7, _), h => (nd_norm' (X := (cP [2] B)) (a := cP [2, 0] B) (b := cP [3] B) (L := K23) (by kernel_rfl) (by kernel_rfl) (by kernel_rfl) (SB := (r11 e Jn Jr)) (r11_eq e Jn Jr) _ _).trans (nd_chain' (X := cP [2, 0] B) (Y := (cP [2, 1] B)) 1 (L := K6) (S := fun J => c2 e J (x5, x6, x7, ()) h) (Q := (k2 e (r11 e Jn Jr) Jr)) (by kernel_rfl) (fun n => c2_eq e x5 x6 x7 h n (exK []) (jk K24 Jr)) (k2_eq e (r11 e Jn Jr) Jr))
noncomputable def fn (e : Cx) (a0 : V) (a1 : V) (h : AH) : Res :=
  c0 e (k1 e ret ret) (a0, a1, ()) h
theorem run (e : Cx) (a0 : V) (a1 : V) (h : AH) : execFn (cfgS e) (foLive lv) e.F n_diff_numbers [a0, a1] h = fn e a0 a1 h := by
  refine (fn_eq (c := cfgS e) (lv := lv) (PP.funcs.getD 61 default) B (by kernel_rfl) (by kernel_rfl) (Nat.le_of_ble_eq_true (by kernel_rfl))).trans ?_
  rw [ret_eq]
  exact nd_chain' (X := cP [0] B) (Y := (cP [2] B)) 2 (L := K4) (S := fun J => c0 e J (a0, a1, ()) h) (Q := (k1 e ret ret)) (by kernel_rfl) (fun n => c0_eq e a0 a1 h n (exK []) (jk K24 ret)) (k1_eq e ret ret)
end diff_numbers
namespace diff_plane_least
noncomputable def B : Code := cBody (PP.funcs.getD 62 default)
abbrev K2 : Slots := [(0, .any), (1, .int .i64), (2, .int .i64)]
abbrev P2 := V × Int × Int × Unit
abbrev K4 : Slots := [(0, .any), (1, .int .i64), (2, .int .i64), (7, .bool)]
abbrev P4 := V × Int × Int × Bool × Unit
abbrev K8 : Slots := [(0, .any), (1, .int .i64), (2, .int .i64), (23, .bool)]
abbrev P8 := V × Int × Int × Bool × Unit
abbrev K12 : Slots := [(0, .any), (1, .int .i64), (2, .int .i64), (39, .bool)]
abbrev P12 := V × Int × Int × Bool × Unit
abbrev K14 : Slots := [(6, .int .i32)]
abbrev P14 := Int × Unit
def lv : Nat → Option Slots := fun k =>
  bif Nat.beq k 2 then some K2 else bif Nat.beq k 4 then some K4 else bif Nat.beq k 8 then some K8 else bif Nat.beq k 12 then some K12 else bif Nat.beq k 14 then some K14 else bif Nat.beq k 10 then some K14 else bif Nat.beq k 6 then some K14 else bif Nat.beq k 15 then some K2 else bif Nat.beq k 16 then some K14 else none
abbrev KR : Slots := [(6, .any)]
abbrev PR := V × Unit
noncomputable def ret : PR → AH → Res
| (x6, _), h => finW [some x6] h
theorem ret_eq (e : Cx) : fin (cfgS e) (foLive lv) (PP.funcs.getD 62 default) = jk KR ret := by kernel_rfl
noncomputable def c0 (e : Cx) (J : P2 → AH → Res) : V × Int × Int × Unit → AH → Res
| (a0, a1, a2, _), h =>
  J (a0, a1, a2, ()) h
theorem c0_eq (e : Cx) (a0 : V) (a1 : Int) (a2 : Int) (h : AH) (n : Kn) (ee : Ke) (r : Kn) : rgL (cfgS e) lv 79 e.F (peel 1 (cP [0] B)).1 (iniT [a0, (.int .i64 a1), (.int .i64 a2)] 0 .leaf) h n ee r = c0 e (fun t h => n (mkT K2 t) h) (a0, a1, a2, ()) h := by kernel_rfl
noncomputable def c7 (e : Cx) (J : P14 → AH → Res) : P2 → AH → Res
| (x8, x9, x10, _), h =>
  cV (e.C n_diff_plane_at [x8, (.int .i64 (wr .i64 (x9 + 1))), (.int .i64 x10)] h) fun x11 h12 =>
  bV (absNilCheck x11) h12 fun x13 h14 =>
  bI .i32 (ld x13 h14) h14 fun x15 h16 =>
  cV (quiet (fun h => e.C n_diff_plane_at [x8, (.int .i64 x9), (.int .i64 (wr .i64 (x10 + 1)))] h) h16) fun x17 h18 =>
  bV (absNilCheck x17) h18 fun x19 h20 =>
  bI .i32 (ld x19 h20) h20 fun x21 h22 =>
  J ((wr .i32 (1 + (imin x15 x21))), ()) h22
theorem c7_eq (e : Cx) (x8 : V) (x9 : Int) (x10 : Int) (h : AH) (n : Kn) (ee : Ke) (r : Kn) : rgL (cfgS e) lv 79 e.F (peel 1 (cP [2] B)).1 (mkT K2 (x8, x9, x10, ())) h n ee r = c7 e (fun t h => n (mkT K14 t) h) (x8, x9, x10, ()) h := by kernel_rfl
noncomputable def r7 (e : Cx) (Jn : PR → AH → Res) (Jr : PR → AH → Res) : P2 → AH → Res
| (x8, x9, x10, _), h =>
  c7 e (fun | (x23, _), h24 => Jr ((.int .i32 x23), ()) h24) (x8, x9, x10, ()) h
theorem r7_eq (e : Cx) (Jn : PR → AH → Res) (Jr : PR → AH → Res) : ∀ t h, exL (cfgS e) lv 79 e.F (cP [2] B) (mkT K2 t) h (jk KR Jn) (exK []) (jk KR Jr) = r7 e Jn Jr t h
| (x8, x9, x10, _), h => nd_chain' (X := cP [2] B) (Y := (cP [3] B)) 1 (L := K14) (S := fun J => c7 e J (x8, x9, x10, ()) h) (Q := fun | (x23, _), h24 => Jr ((.int .i32 x23), ()) h24) (by kernel_rfl) (fun n => c7_eq e x8 x9 x10 h n (exK []) (jk KR Jr)) (fun | (x23, _), h24 => by kernel_rfl)
noncomputable def c1 (e : Cx) (J : P4 → AH → Res) : P2 → AH → Res
| (x5, x6, x7, _), h =>
  bV (absNilCheck x5) h fun x25 h26 =>
  bV (fA 0 x25) h26 fun x27 h28 =>
  bV (ld x27 h28) h28 fun x29 h30 =>
  bI .i64 (lenS x29) h30 fun x31 h32 =>
  J (x5, x6, x7, (x6 == x31), ()) h32
theorem c1_eq (e : Cx) (x5 : V) (x6 : Int) (x7 : Int) (h : AH) (n : Kn) (ee : Ke) (r : Kn) : rgL (cfgS e) lv 79 e.F (peel 1 (cP [1, 1] B)).1 (mkT K2 (x5, x6, x7, ())) h n ee r = c1 e (fun t h => n (mkT K4 t) h) (x5, x6, x7, ()) h := by kernel_rfl
noncomputable def c2 (e : Cx) (J : P14 → AH → Res) : P4 → AH → Res
| (x38, x39, x40, x41, _), h =>
  bV (absNilCheck x38) h fun x42 h43 =>
  bV (fA 1 x42) h43 fun x44 h45 =>
  bV (ld x44 h45) h45 fun x46 h47 =>
  bI .i64 (lenS x46) h47 fun x48 h49 =>
  J ((wr .i32 (wr .i64 (x48 - x40))), ()) h49
theorem c2_eq (e : Cx) (x38 : V) (x39 : Int) (x40 : Int) (x41 : Bool) (h : AH) (n : Kn) (ee : Ke) (r : Kn) : rgL (cfgS e) lv 79 e.F (peel 1 (cP [1, 2, 0] B)).1 (mkT K4 (x38, x39, x40, x41, ())) h n ee r = c2 e (fun t h => n (mkT K14 t) h) (x38, x39, x40, x41, ()) h := by kernel_rfl
noncomputable def c3 (e : Cx) (J : P8 → AH → Res) : P4 → AH → Res
| (x38, x39, x40, x41, _), h =>
  bV (absNilCheck x38) h fun x52 h53 =>
  bV (fA 1 x52) h53 fun x54 h55 =>
  bV (ld x54 h55) h55 fun x56 h57 =>
  bI .i64 (lenS x56) h57 fun x58 h59 =>
  J (x38, x39, x40, (x40 == x58), ()) h59
theorem c3_eq (e : Cx) (x38 : V) (x39 : Int) (x40 : Int) (x41 : Bool) (h : AH) (n : Kn) (ee : Ke) (r : Kn) : rgL (cfgS e) lv 79 e.F (peel 1 (cP [1, 3] B)).1 (mkT K4 (x38, x39, x40, x41, ())) h n ee r = c3 e (fun t h => n (mkT K8 t) h) (x38, x39, x40, x41, ()) h := by kernel_rfl
noncomputable def c4 (e : Cx) (J : P14 → AH → Res) : P8 → AH → Res
| (x65, x66, x67, x68, _), h =>
  bV (absNilCheck x65) h fun x69 h70 =>
  bV (fA 0 x69) h70 fun x71 h72 =>
  bV (ld x71 h72) h72 fun x73 h74 =>
  bI .i64 (lenS x73) h74 fun x75 h76 =>
  J ((wr .i32 (wr .i64 (x75 - x66))), ()) h76
theorem c4_eq (e : Cx) (x65 : V) (x66 : Int) (x67 : Int) (x68 : Bool) (h : AH) (n : Kn) (ee : Ke) (r : Kn) : rgL (cfgS e) lv 79 e.F (peel 1 (cP [1, 4, 0] B)).1 (mkT K8 (x65, x66, x67, x68, ())) h n ee r = c4 e (fun t h => n (mkT K14 t) h) (x65, x66, x67, x68, ()) h := by kernel_rfl
noncomputable def c5 (e : Cx) (J : P12 → AH → Res) : P8 → AH → Res
| (x65, x66, x67, x68, _), h =>
  bV (absNilCheck x65) h fun x79 h80 =>
  bV (fA 0 x79) h80 fun x81 h82 =>
  bV (ld x81 h82) h82 fun x83 h84 =>
  bV (ixS 1 x83 x66) h84 fun x85 h86 =>
  bI .i64 (ld x85 h86) h86 fun x87 h88 =>
  bV (absNilCheck x65) h88 fun x89 h90 =>
  bV (fA 1 x89) h90 fun x91 h92 =>
  bV (ld x91 h92) h92 fun x93 h94 =>
  bV (ixS 1 x93 x67) h94 fun x95 h96 =>
  bI .i64 (ld x95 h96) h96 fun x97 h98 =>
  J (x65, x66, x67, (x87 == x97), ()) h98
theorem c5_eq (e : Cx) (x65 : V) (x66 : Int) (x67 : Int) (x68 : Bool) (h : AH) (n : Kn) (ee : Ke) (r : Kn) : rgL (cfgS e) lv 79 e.F (peel 1 (cP [1, 5] B)).1 (mkT K8 (x65, x66, x67, x68, ())) h n ee r = c5 e (fun t h => n (mkT K12 t) h) (x65, x66, x67, x68, ()) h := by kernel_rfl
noncomputable def c6 (e : Cx) (J : P14 → AH → Res) : P12 → AH → Res
| (x104, x105, x106, x107, _), h =>
  cV (e.C n_diff_plane_at [x104, (.int .i64 (wr .i64 (x105 + 1))), (.int .i64 (wr .i64 (x106 + 1)))] h) fun x108 h109 =>
  bV (absNilCheck x108) h109 fun x110 h111 =>
  bI .i32 (ld x110 h111) h111 fun x112 h113 =>
  J (x112, ()) h113
theorem c6_eq (e : Cx) (x104 : V) (x105 : Int) (x106 : Int) (x107 : Bool) (h : AH) (n : Kn) (ee : Ke) (r : Kn) : rgL (cfgS e) lv 79 e.F (peel 1 (cP [1, 6, 0] B)).1 (mkT K12 (x104, x105, x106, x107, ())) h n ee r = c6 e (fun t h => n (mkT K14 t) h) (x104, x105, x106, x107, ()) h := by kernel_rfl
noncomputable def k5 (e : Cx) (Jn : P2 → AH → Res) (J0 : P2 → AH → Res) (Jr : PR → AH → Res) : P12 → AH → Res
| (x104, x105, x106, x107, _), h =>
  bif x107 then c6 e (fun | (x114, _), h115 => Jr ((.int .i32 x114), ()) h115) (x104, x105, x106, x107, ()) h else Jn (x104, x105, x106, ()) h
theorem k5_eq (e : Cx) (Jn : P2 → AH → Res) (J0 : P2 → AH → Res) (Jr : PR → AH → Res) : ∀ t h, exL (cfgS e) lv 79 e.F (cP [1, 6] B) (mkT K12 t) h (jk K2 Jn) (exK [(0, (jk K2 J0))]) (jk KR Jr) = k5 e Jn J0 Jr t h
| (x104, x105, x106, x107, _), h => nd_cond' (X := cP [1, 6] B) (a := cP [1, 6, 0] B) (b := cP [1, 7] B) (t := x107) (x := .tmp 39) (by kernel_rfl) (by kernel_rfl) (nd_chain' (X := cP [1, 6, 0] B) (Y := (cP [1, 6, 1] B)) 1 (L := K14) (S := fun J => c6 e J (x104, x105, x106, x107, ()) h) (Q := fun | (x114, _), h115 => Jr ((.int .i32 x114), ()) h115) (by kernel_rfl) (fun n => c6_eq e x104 x105 x106 x107 h n (exK [(0, (jk K2 J0))]) (jk KR Jr)) (fun | (x114, _), h115 => by kernel_rfl)) (by kernel_rfl)
noncomputable def k3 (e : Cx) (Jn : P2 → AH → Res) (J0 : P2 → AH → Res) (Jr : PR → AH → Res) : P8 → AH → Res
| (x65, x66, x67, x68, _), h =>
  bif x68 then c4 e (fun | (x77, _), h78 => Jr ((.int .i32 x77), ()) h78) (x65, x66, x67, x68, ()) h else c5 e (k5 e Jn J0 Jr) (x65, x66, x67, x68, ()) h
theorem k3_eq (e : Cx) (Jn : P2 → AH → Res) (J0 : P2 → AH → Res) (Jr : PR → AH → Res) : ∀ t h, exL (cfgS e) lv 79 e.F (cP [1, 4] B) (mkT K8 t) h (jk K2 Jn) (exK [(0, (jk K2 J0))]) (jk KR Jr) = k3 e Jn J0 Jr t h
| (x65, x66, x67, x68, _), h => nd_cond' (X := cP [1, 4] B) (a := cP [1, 4, 0] B) (b := cP [1, 5] B) (t := x68) (x := .tmp 23) (by kernel_rfl) (by kernel_rfl) (nd_chain' (X := cP [1, 4, 0] B) (Y := (cP [1, 4, 1] B)) 1 (L := K14) (S := fun J => c4 e J (x65, x66, x67, x68, ()) h) (Q := fun | (x77, _), h78 => Jr ((.int .i32 x77), ()) h78) (by kernel_rfl) (fun n => c4_eq e x65 x66 x67 x68 h n (exK [(0, (jk K2 J0))]) (jk KR Jr)) (fun | (x77, _), h78 => by kernel_rfl)) (nd_chain' (X := cP [1, 5] B) (Y := (cP [1, 6] B)) 1 (L := K12) (S := fun J => c5 e J (x65, x66, x67, x68, ()) h) (Q := (k5 e Jn J0 Jr)) (by kernel_rfl) (fun n => c5_eq e x65 x66 x67 x68 h n (exK [(0, (jk K2 J0))]) (jk KR Jr)) (k5_eq e Jn J0 Jr))
noncomputable def k1 (e : Cx) (Jn : P2 → AH → Res) (J0 : P2 → AH → Res) (Jr : PR → AH → Res) : P4 → AH → Res
| (x38, x39, x40, x41, _), h =>
  bif x41 then c2 e (fun | (x50, _), h51 => Jr ((.int .i32 x50), ()) h51) (x38, x39, x40, x41, ()) h else c3 e (k3 e Jn J0 Jr) (x38, x39, x40, x41, ()) h
theorem k1_eq (e : Cx) (Jn : P2 → AH → Res) (J0 : P2 → AH → Res) (Jr : PR → AH → Res) : ∀ t h, exL (cfgS e) lv 79 e.F (cP [1, 2] B) (mkT K4 t) h (jk K2 Jn) (exK [(0, (jk K2 J0))]) (jk KR Jr) = k1 e Jn J0 Jr t h
| (x38, x39, x40, x41, _), h => nd_cond' (X := cP [1, 2] B) (a := cP [1, 2, 0] B) (b := cP [1, 3] B) (t := x41) (x := .tmp 7) (by kernel_rfl) (by kernel_rfl) (nd_chain' (X := cP [1, 2, 0] B) (Y := (cP [1, 2, 1] B)) 1 (L := K14) (S := fun J => c2 e J (x38, x39, x40, x41, ()) h) (Q := fun | (x50, _), h51 => Jr ((.int .i32 x50), ()) h51) (by kernel_rfl) (fun n => c2_eq e x38 x39 x40 x41 h n (exK [(0, (jk K2 J0))]) (jk KR Jr)) (fun | (x50, _), h51 => by kernel_rfl)) (nd_chain' (X := cP [1, 3] B) (Y := (cP [1, 4] B)) 1 (L := K8) (S := fun J => c3 e J (x38, x39, x40, x41, ()) h) (Q := (k3 e Jn J0 Jr)) (by kernel_rfl) (fun n => c3_eq e x38 x39 x40 x41 h n (exK [(0, (jk K2 J0))]) (jk KR Jr)) (k3_eq e Jn J0 Jr))
noncomputable def k0 (e : Cx) (Jn : PR → AH → Res) (Jr : PR → AH → Res) : P2 → AH → Res
| (x5, x6, x7, _), h =>
  c1 e (k1 e (r7 e Jn Jr) (r7 e Jn Jr) Jr) (x5, x6, x7, ()) h
theorem k0_eq (e : Cx) (Jn : PR → AH → Res) (Jr : PR → AH → Res) : ∀ t h, exL (cfgS e) lv 79 e.F (cP [1] B) (mkT K2 t) h (jk KR Jn) (exK []) (jk KR Jr) = k0 e Jn Jr t h
| (x5, x6, x7, _), h => (nd_norm' (X := (cP [1] B)) (a := cP [1, 0] B) (b := cP [2] B) (L := K2) (by kernel_rfl) (by kernel_rfl) (by kernel_rfl) (SB := (r7 e Jn Jr)) (r7_eq e Jn Jr) _ _).trans (nd_block' (X := cP [1, 0] B) (id := 0) (b := cP [1, 1] B) (by kernel_rfl) (nd_chain' (X := cP [1, 1] B) (Y := (cP [1, 2] B)) 1 (L := K4) (S := fun J => c1 e J (x5, x6, x7, ()) h) (Q := (k1 e (r7 e Jn Jr) (r7 e Jn Jr) Jr)) (by kernel_rfl) (fun n => c1_eq e x5 x6 x7 h n (exK [(0, (jk K2 (r7 e Jn Jr)))]) (jk KR Jr)) (k1_eq e (r7 e Jn Jr) (r7 e Jn Jr) Jr)))
noncomputable def fn (e : Cx) (a0 : V) (a1 : Int) (a2 : Int) (h : AH) : Res :=
  c0 e (k0 e ret ret) (a0, a1, a2, ()) h
theorem run (e : Cx) (a0 : V) (a1 : Int) (a2 : Int) (h : AH) : execFn (cfgS e) (foLive lv) e.F n_diff_plane_least [a0, (.int .i64 a1), (.int .i64 a2)] h = fn e a0 a1 a2 h := by
  refine (fn_eq (c := cfgS e) (lv := lv) (PP.funcs.getD 62 default) B (by kernel_rfl) (by kernel_rfl) (Nat.le_of_ble_eq_true (by kernel_rfl))).trans ?_
  rw [ret_eq]
  exact nd_chain' (X := cP [0] B) (Y := (cP [1] B)) 1 (L := K2) (S := fun J => c0 e J (a0, a1, a2, ()) h) (Q := (k0 e ret ret)) (by kernel_rfl) (fun n => c0_eq e a0 a1 a2 h n (exK []) (jk KR ret)) (k0_eq e ret ret)
end diff_plane_least
namespace diff_plane_at
noncomputable def B : Code := cBody (PP.funcs.getD 63 default)
abbrev K2 : Slots := [(0, .any), (1, .int .i64), (2, .int .i64)]
abbrev P2 := V × Int × Int × Unit
abbrev K4 : Slots := [(6, .any)]
abbrev P4 := V × Unit
def lv : Nat → Option Slots := fun k =>
  bif Nat.beq k 2 then some K2 else bif Nat.beq k 4 then some K4 else none
abbrev KR : Slots := [(6, .any)]
abbrev PR := V × Unit
noncomputable def ret : P4 → AH → Res
| (x6, _), h => finW [some x6] h
theorem ret_eq (e : Cx) : fin (cfgS e) (foLive lv) (PP.funcs.getD 63 default) = jk K4 ret := by kernel_rfl
noncomputable def c0 (e : Cx) (J : P4 → AH → Res) : V × Int × Int × Unit → AH → Res
| (a0, a1, a2, _), h =>
  bV (absNilCheck a0) h fun x1 h2 =>
  bV (fA 2 x1) h2 fun x3 h4 =>
  bV (ld x3 h4) h4 fun x5 h6 =>
  bV (absNilCheck a0) h6 fun x7 h8 =>
  bV (fA 1 x7) h8 fun x9 h10 =>
  bV (ld x9 h10) h10 fun x11 h12 =>
  bI .i64 (lenS x11) h12 fun x13 h14 =>
  let x15 : Int := (wr .i64 ((wr .i64 (a1 * (wr .i64 (x13 + 1)))) + a2))
  bV (ixS 1 x5 x15) h14 fun x16 h17 =>
  J (x16, ()) h17
theorem c0_eq (e : Cx) (a0 : V) (a1 : Int) (a2 : Int) (h : AH) (n : Kn) (ee : Ke) (r : Kn) : rgL (cfgS e) lv 22 e.F (peel 2 (cP [0] B)).1 (iniT [a0, (.int .i64 a1), (.int .i64 a2)] 0 .leaf) h n ee r = c0 e (fun t h => n (mkT K4 t) h) (a0, a1, a2, ()) h := by kernel_rfl
noncomputable def fn (e : Cx) (a0 : V) (a1 : Int) (a2 : Int) (h : AH) : Res :=
  c0 e ret (a0, a1, a2, ()) h
theorem run (e : Cx) (a0 : V) (a1 : Int) (a2 : Int) (h : AH) : execFn (cfgS e) (foLive lv) e.F n_diff_plane_at [a0, (.int .i64 a1), (.int .i64 a2)] h = fn e a0 a1 a2 h := by
  refine (fn_eq (c := cfgS e) (lv := lv) (PP.funcs.getD 63 default) B (by kernel_rfl) (by kernel_rfl) (Nat.le_of_ble_eq_true (by kernel_rfl))).trans ?_
  rw [ret_eq]
  exact nd_chain' (X := cP [0] B) (Y := (cP [2] B)) 2 (L := K4) (S := fun J => c0 e J (a0, a1, a2, ()) h) (Q := ret) (by kernel_rfl) (fun n => c0_eq e a0 a1 a2 h n (exK []) (jk K4 ret)) (fun t h => by kernel_rfl)
end diff_plane_at
namespace diff_plane_end
noncomputable def B : Code := cBody (PP.funcs.getD 64 default)
abbrev K2 : Slots := [(0, .any)]
abbrev P2 := V × Unit
abbrev K4 : Slots := [(2, .any)]
abbrev P4 := V × Unit
def lv : Nat → Option Slots := fun k =>
  bif Nat.beq k 2 then some K2 else bif Nat.beq k 4 then some K4 else none
abbrev KR : Slots := [(2, .any)]
abbrev PR := V × Unit
noncomputable def ret : P4 → AH → Res
| (x2, _), h => finW [some x2] h
theorem ret_eq (e : Cx) : fin (cfgS e) (foLive lv) (PP.funcs.getD 64 default) = jk K4 ret := by kernel_rfl
noncomputable def c0 (e : Cx) (J : P4 → AH → Res) : V × Unit → AH → Res
| (a0, _), h =>
  bV (absNilCheck a0) h fun x1 h2 =>
  bV (fA 0 x1) h2 fun x3 h4 =>
  bV (ld x3 h4) h4 fun x5 h6 =>
  bI .i64 (lenS x5) h6 fun x7 h8 =>
  cV (cvt PP T_int T_float64 (.int .i64 x7) h8) fun x9 h10 =>
  bV (absNilCheck a0) h10 fun x11 h12 =>
  bV (fA 1 x11) h12 fun x13 h14 =>
  bV (ld x13 h14) h14 fun x15 h16 =>
  bI .i64 (lenS x15) h16 fun x17 h18 =>
  cV (cvt PP T_int T_float64 (.int .i64 x17) h18) fun x19 h20 =>
  bV (partOf .complex [x9, x19]) h20 fun x21 h22 =>
  J (x21, ()) h22
theorem c0_eq (e : Cx) (a0 : V) (h : AH) (n : Kn) (ee : Ke) (r : Kn) : rgL (cfgS e) lv 16 e.F (peel 2 (cP [0] B)).1 (iniT [a0] 0 .leaf) h n ee r = c0 e (fun t h => n (mkT K4 t) h) (a0, ()) h := by kernel_rfl
noncomputable def fn (e : Cx) (a0 : V) (h : AH) : Res :=
  c0 e ret (a0, ()) h
theorem run (e : Cx) (a0 : V) (h : AH) : execFn (cfgS e) (foLive lv) e.F n_diff_plane_end [a0] h = fn e a0 h := by
  refine (fn_eq (c := cfgS e) (lv := lv) (PP.funcs.getD 64 default) B (by kernel_rfl) (by kernel_rfl) (Nat.le_of_ble_eq_true (by kernel_rfl))).trans ?_
  rw [ret_eq]
  exact nd_chain' (X := cP [0] B) (Y := (cP [2] B)) 2 (L := K4) (S := fun J => c0 e J (a0, ()) h) (Q := ret) (by kernel_rfl) (fun n => c0_eq e a0 h n (exK []) (jk K4 ret)) (fun t h => by kernel_rfl)
end diff_plane_end
namespace diff_plane_step
noncomputable def B : Code := cBody (PP.funcs.getD 65 default)
abbrev K2 : Slots := [(0, .any), (1, .any)]
abbrev P2 := V × V × Unit
abbrev K4 : Slots := [(0, .any), (5, .int .i64), (6, .int .i64)]
abbrev P4 := V × Int × Int × Unit
abbrev K6 : Slots := [(0, .any), (5, .int .i64), (6, .int .i64), (12, .bool)]
abbrev P6 := V × Int × Int × Bool × Unit
abbrev K10 : Slots := [(46, .bool)]
abbrev P10 := Bool × Unit
abbrev K12 : Slots := [(4, .any)]
abbrev P12 := V × Unit
abbrev K13 : Slots := []
abbrev P13 := Unit
def lv : Nat → Option Slots := fun k =>
  bif Nat.beq k 2 then some K2 else bif Nat.beq k 4 then some K4 else bif Nat.beq k 6 then some K6 else bif Nat.beq k 10 then some K10 else bif Nat.beq k 12 then some K12 else bif Nat.beq k 8 then some K12 else bif Nat.beq k 13 then some K13 else bif Nat.beq k 14 then some K12 else none
abbrev KR : Slots := [(4, .any)]
abbrev PR := V × Unit
noncomputable def ret : P12 → AH → Res
| (x4, _), h => finW [some x4] h
theorem ret_eq (e : Cx) : fin (cfgS e) (foLive lv) (PP.funcs.getD 65 default) = jk K12 ret := by kernel_rfl
noncomputable def c0 (e : Cx) (J : P4 → AH → Res) : V × V × Unit → AH → Res
| (a0, a1, _), h =>
  cV (e.C n_diff_parts [a1] h) fun x1 h2 =>
  bI .i64 (absExtract x1 0) h2 fun x3 h4 =>
  bI .i64 (absExtract x1 1) h4 fun x5 h6 =>
  J (a0, x3, x5, ()) h6
theorem c0_eq (e : Cx) (a0 : V) (a1 : V) (h : AH) (n : Kn) (ee : Ke) (r : Kn) : rgL (cfgS e) lv 80 e.F (peel 2 (cP [0] B)).1 (iniT [a0, a1] 0 .leaf) h n ee r = c0 e (fun t h => n (mkT K4 t) h) (a0, a1, ()) h := by kernel_rfl
noncomputable def c6 (e : Cx) (J : P12 → AH → Res) : P13 → AH → Res
| (_), h =>
  J ((.complex .f64 0 4607182418800017408), ()) h
theorem c6_eq (e : Cx) (h : AH) (n : Kn) (ee : Ke) (r : Kn) : rgL (cfgS e) lv 80 e.F (peel 1 (cP [3] B)).1 (mkT K13 (())) h n ee r = c6 e (fun t h => n (mkT K12 t) h) (()) h := by kernel_rfl
noncomputable def r6 (e : Cx) (Jn : P12 → AH → Res) (Jr : P12 → AH → Res) : P13 → AH → Res
| (_), h =>
  c6 e Jr (()) h
theorem r6_eq (e : Cx) (Jn : P12 → AH → Res) (Jr : P12 → AH → Res) : ∀ t h, exL (cfgS e) lv 80 e.F (cP [3] B) (mkT K13 t) h (jk K12 Jn) (exK []) (jk K12 Jr) = r6 e Jn Jr t h
| (_), h => nd_chain' (X := cP [3] B) (Y := (cP [4] B)) 1 (L := K12) (S := fun J => c6 e J (()) h) (Q := Jr) (by kernel_rfl) (fun n => c6_eq e h n (exK []) (jk K12 Jr)) (fun t h => by kernel_rfl)
noncomputable def c2 (e : Cx) (J : P6 → AH → Res) : P4 → AH → Res
| (x11, x12, x13, _), h =>
  bV (absNilCheck x11) h fun x16 h17 =>
  bV (fA 0 x16) h17 fun x18 h19 =>
  bV (ld x18 h19) h19 fun x20 h21 =>
  bI .i64 (lenS x20) h21 fun x22 h23 =>
  bif (decide (x12 < x22)) then
    bV (absNilCheck x11) h23 fun x24 h25 =>
    bV (fA 1 x24) h25 fun x26 h27 =>
    bV (ld x26 h27) h27 fun x28 h29 =>
    bI .i64 (lenS x28) h29 fun x30 h31 =>
    let x32 : Bool := (bif true then (decide (x13 < x30)) else false)
    bif x32 then
      bV (absNilCheck x11) h31 fun x33 h34 =>
      bV (fA 0 x33) h34 fun x35 h36 =>
      bV (ld x35 h36) h36 fun x37 h38 =>
      bV (ixS 1 x37 x12) h38 fun x39 h40 =>
      bI .i64 (ld x39 h40) h40 fun x41 h42 =>
      bV (absNilCheck x11) h42 fun x43 h44 =>
      bV (fA 1 x43) h44 fun x45 h46 =>
      bV (ld x45 h46) h46 fun x47 h48 =>
      bV (ixS 1 x47 x13) h48 fun x49 h50 =>
      bI .i64 (ld x49 h50) h50 fun x51 h52 =>
      J (x11, x12, x13, (bif true then (x41 == x51) else false), ()) h52
    else
      J (x11, x12, x13, false, ()) h31
  else
    J (x11, x12, x13, false, ()) h23
theorem c2_eq (e : Cx) (x11 : V) (x12 : Int) (x13 : Int) (h : AH) (n : Kn) (ee : Ke) (r : Kn) : rgL (cfgS e) lv 80 e.F (peel 1 (cP [2, 1] B)).1 (mkT K4 (x11, x12, x13, ())) h n ee r = c2 e (fun t h => n (mkT K6 t) h) (x11, x12, x13, ()) h := by kernel_rfl
noncomputable def c3 (e : Cx) (J : P12 → AH → Res) : P6 → AH → Res
| (x58, x59, x60, x61, _), h =>
  J ((.complex .f64 4607182418800017408 4607182418800017408), ()) h
theorem c3_eq (e : Cx) (x58 : V) (x59 : Int) (x60 : Int) (x61 : Bool) (h : AH) (n : Kn) (ee : Ke) (r : Kn) : rgL (cfgS e) lv 80 e.F (peel 1 (cP [2, 2, 0] B)).1 (mkT K6 (x58, x59, x60, x61, ())) h n ee r = c3 e (fun t h => n (mkT K12 t) h) (x58, x59, x60, x61, ()) h := by kernel_rfl
noncomputable def c4 (e : Cx) (J : P10 → AH → Res) : P6 → AH → Res
| (x58, x59, x60, x61, _), h =>
  bV (absNilCheck x58) h fun x64 h65 =>
  bV (fA 0 x64) h65 fun x66 h67 =>
  bV (ld x66 h67) h67 fun x68 h69 =>
  bI .i64 (lenS x68) h69 fun x70 h71 =>
  bif (decide (x59 < x70)) then
    bV (absNilCheck x58) h71 fun x72 h73 =>
    bV (fA 1 x72) h73 fun x74 h75 =>
    bV (ld x74 h75) h75 fun x76 h77 =>
    bI .i64 (lenS x76) h77 fun x78 h79 =>
    bif (x60 == x78) then
      J ((bif true then true else false), ()) h79
    else
      cV (e.C n_diff_plane_at [x58, (.int .i64 (wr .i64 (x59 + 1))), (.int .i64 x60)] h79) fun x80 h81 =>
      bV (absNilCheck x80) h81 fun x82 h83 =>
      bI .i32 (ld x82 h83) h83 fun x84 h85 =>
      cV (quiet (fun h => e.C n_diff_plane_at [x58, (.int .i64 x59), (.int .i64 (wr .i64 (x60 + 1)))] h) h85) fun x86 h87 =>
      bV (absNilCheck x86) h87 fun x88 h89 =>
      bI .i32 (ld x88 h89) h89 fun x90 h91 =>
      let x92 : Bool := (bif false then true else (decide (x84 ≤ x90)))
      J ((bif true then x92 else false), ()) h91
  else
    J (false, ()) h71
theorem c4_eq (e : Cx) (x58 : V) (x59 : Int) (x60 : Int) (x61 : Bool) (h : AH) (n : Kn) (ee : Ke) (r : Kn) : rgL (cfgS e) lv 80 e.F (peel 1 (cP [2, 3] B)).1 (mkT K6 (x58, x59, x60, x61, ())) h n ee r = c4 e (fun t h => n (mkT K10 t) h) (x58, x59, x60, x61, ()) h := by kernel_rfl
noncomputable def c5 (e : Cx) (J : P12 → AH → Res) : P10 → AH → Res
| (x95, _), h =>
  J ((.complex .f64 4607182418800017408 0), ()) h
theorem c5_eq (e : Cx) (x95 : Bool) (h : AH) (n : Kn) (ee : Ke) (r : Kn) : rgL (cfgS e) lv 80 e.F (peel 1 (cP [2, 4, 0] B)).1 (mkT K10 (x95, ())) h n ee r = c5 e (fun t h => n (mkT K12 t) h) (x95, ()) h := by kernel_rfl
noncomputable def k4 (e : Cx) (Jn : P13 → AH → Res) (J0 : P13 → AH → Res) (Jr : P12 → AH → Res) : P10 → AH → Res
| (x95, _), h =>
  bif x95 then c5 e Jr (x95, ()) h else Jn (()) h
theorem k4_eq (e : Cx) (Jn : P13 → AH → Res) (J0 : P13 → AH → Res) (Jr : P12 → AH → Res) : ∀ t h, exL (cfgS e) lv 80 e.F (cP [2, 4] B) (mkT K10 t) h (jk K13 Jn) (exK [(0, (jk K13 J0))]) (jk K12 Jr) = k4 e Jn J0 Jr t h
| (x95, _), h => nd_cond' (X := cP [2, 4] B) (a := cP [2, 4, 0] B) (b := cP [2, 5] B) (t := x95) (x := .tmp 46) (by kernel_rfl) (by kernel_rfl) (nd_chain' (X := cP [2, 4, 0] B) (Y := (cP [2, 4, 1] B)) 1 (L := K12) (S := fun J => c5 e J (x95, ()) h) (Q := Jr) (by kernel_rfl) (fun n => c5_eq e x95 h n (exK [(0, (jk K13 J0))]) (jk K12 Jr)) (fun t h => by kernel_rfl)) (by kernel_rfl)
noncomputable def k2 (e : Cx) (Jn : P13 → AH → Res) (J0 : P13 → AH → Res) (Jr : P12 → AH → Res) : P6 → AH → Res
| (x58, x59, x60, x61, _), h =>
  bif x61 then c3 e Jr (x58, x59, x60, x61, ()) h else c4 e (k4 e Jn J0 Jr) (x58, x59, x60, x61, ()) h
theorem k2_eq (e : Cx) (Jn : P13 → AH → Res) (J0 : P13 → AH → Res) (Jr : P12 → AH → Res) : ∀ t h, exL (cfgS e) lv 80 e.F (cP [2, 2] B) (mkT K6 t) h (jk K13 Jn) (exK [(0, (jk K13 J0))]) (jk K12 Jr) = k2 e Jn J0 Jr t h
| (x58, x59, x60, x61, _), h => nd_cond' (X := cP [2, 2] B) (a := cP [2, 2, 0] B) (b := cP [2, 3] B) (t := x61) (x := .tmp 12) (by kernel_rfl) (by kernel_rfl) (nd_chain' (X := cP [2, 2, 0] B) (Y := (cP [2, 2, 1] B)) 1 (L := K12) (S := fun J => c3 e J (x58, x59, x60, x61, ()) h) (Q := Jr) (by kernel_rfl) (fun n => c3_eq e x58 x59 x60 x61 h n (exK [(0, (jk K13 J0))]) (jk K12 Jr)) (fun t h => by kernel_rfl)) (nd_chain' (X := cP [2, 3] B) (Y := (cP [2, 4] B)) 1 (L := K10) (S := fun J => c4 e J (x58, x59, x60, x61, ()) h) (Q := (k4 e Jn J0 Jr)) (by kernel_rfl) (fun n => c4_eq e x58 x59 x60 x61 h n (exK [(0, (jk K13 J0))]) (jk K12 Jr)) (k4_eq e Jn J0 Jr))
noncomputable def k1 (e : Cx) (Jn : P12 → AH → Res) (Jr : P12 → AH → Res) : P4 → AH → Res
| (x11, x12, x13, _), h =>
  c2 e (k2 e (r6 e Jn Jr) (r6 e Jn Jr) Jr) (x11, x12, x13, ()) h
theorem k1_eq (e : Cx) (Jn : P12 → AH → Res) (Jr : P12 → AH → Res) : ∀ t h, exL (cfgS e) lv 80 e.F (cP [2] B) (mkT K4 t) h (jk K12 Jn) (exK []) (jk K12 Jr) = k1 e Jn Jr t h
| (x11, x12, x13, _), h => (nd_norm' (X := (cP [2] B)) (a := cP [2, 0] B) (b := cP [3] B) (L := K13) (by kernel_rfl) (by kernel_rfl) (by kernel_rfl) (SB := (r6 e Jn Jr)) (r6_eq e Jn Jr) _ _).trans (nd_block' (X := cP [2, 0] B) (id := 0) (b := cP [2, 1] B) (by kernel_rfl) (nd_chain' (X := cP [2, 1] B) (Y := (cP [2, 2] B)) 1 (L := K6) (S := fun J => c2 e J (x11, x12, x13, ()) h) (Q := (k2 e (r6 e Jn Jr) (r6 e Jn Jr) Jr)) (by kernel_rfl) (fun n => c2_eq e x11 x12 x13 h n (exK [(0, (jk K13 (r6 e Jn Jr)))]) (jk K12 Jr)) (k2_eq e (r6 e Jn Jr) (r6 e Jn Jr) Jr)))
noncomputable def fn (e : Cx) (a0 : V) (a1 : V) (h : AH) : Res :=
  c0 e (k1 e ret ret) (a0, a1, ()) h
theorem run (e : Cx) (a0 : V) (a1 : V) (h : AH) : execFn (cfgS e) (foLive lv) e.F n_diff_plane_step [a0, a1] h = fn e a0 a1 h := by
  refine (fn_eq (c := cfgS e) (lv := lv) (PP.funcs.getD 65 default) B (by kernel_rfl) (by kernel_rfl) (Nat.le_of_ble_eq_true (by kernel_rfl))).trans ?_
  rw [ret_eq]
  exact nd_chain' (X := cP [0] B) (Y := (cP [2] B)) 2 (L := K4) (S := fun J => c0 e J (a0, a1, ()) h) (Q := (k1 e ret ret)) (by kernel_rfl) (fun n => c0_eq e a0 a1 h n (exK []) (jk K12 ret)) (k1_eq e ret ret)
end diff_plane_step
namespace diff_parts
noncomputable def B : Code := cBody (PP.funcs.getD 131 default)
abbrev K2 : Slots := [(0, .any)]
abbrev P2 := V × Unit
abbrev K4 : Slots := [(2, .int .i64), (3, .int .i64)]
abbrev P4 := Int × Int × Unit
def lv : Nat → Option Slots := fun k =>
  bif Nat.beq k 2 then some K2 else bif Nat.beq k 4 then some K4 else none
abbrev KR : Slots := [(2, .any), (3, .any)]
abbrev PR := V × V × Unit
noncomputable def ret : PR → AH → Res
| (x2, x3, _), h => finW [some x2, some x3] h
theorem ret_eq (e : Cx) : fin (cfgS e) (foLive lv) (PP.funcs.getD 131 default) = jk KR ret := by kernel_rfl
noncomputable def c0 (e : Cx) (J : P4 → AH → Res) : V × Unit → AH → Res
| (a0, _), h =>
  bV (partOf .real [a0]) h fun x1 h2 =>
  cI .i64 (cvt PP T_float64 T_int x1 h2) fun x3 h4 =>
  bV (partOf .imag [a0]) h4 fun x5 h6 =>
  cI .i64 (cvt PP T_float64 T_int x5 h6) fun x7 h8 =>
  J (x3, x7, ()) h8
theorem c0_eq (e : Cx) (a0 : V) (h : AH) (n : Kn) (ee : Ke) (r : Kn) : rgL (cfgS e) lv 10 e.F (peel 2 (cP [0] B)).1 (iniT [a0] 0 .leaf) h n ee r = c0 e (fun t h => n (mkT K4 t) h) (a0, ()) h := by kernel_rfl
noncomputable def fn (e : Cx) (a0 : V) (h : AH) : Res :=
  c0 e (fun | (x9, x10, _), h11 => ret ((.int .i64 x9), (.int .i64 x10), ()) h11) (a0, ()) h
theorem run (e : Cx) (a0 : V) (h : AH) : execFn (cfgS e) (foLive lv) e.F n_diff_parts [a0] h = fn e a0 h := by
  refine (fn_eq (c := cfgS e) (lv := lv) (PP.funcs.getD 131 default) B (by kernel_rfl) (by kernel_rfl) (Nat.le_of_ble_eq_true (by kernel_rfl))).trans ?_
  rw [ret_eq]
  exact nd_chain' (X := cP [0] B) (Y := (cP [2] B)) 2 (L := K4) (S := fun J => c0 e J (a0, ()) h) (Q := fun | (x9, x10, _), h11 => ret ((.int .i64 x9), (.int .i64 x10), ()) h11) (by kernel_rfl) (fun n => c0_eq e a0 h n (exK []) (jk KR ret)) (fun | (x9, x10, _), h11 => by kernel_rfl)
end diff_parts
namespace bytes_IndexByte
noncomputable def B : Code := cBody (PP.funcs.getD 176 default)
abbrev K2 : Slots := [(0, .any), (1, .int .u8)]
abbrev P2 := V × Int × Unit
abbrev K4 : Slots := [(4, .int .i64)]
abbrev P4 := Int × Unit
def lv : Nat → Option Slots := fun k =>
  bif Nat.beq k 2 then some K2 else bif Nat.beq k 4 then some K4 else none
abbrev KR : Slots := [(4, .any)]
abbrev PR := V × Unit
noncomputable def ret : PR → AH → Res
| (x4, _), h => finW [some x4] h
theorem ret_eq (e : Cx) : fin (cfgS e) (foLive lv) (PP.funcs.getD 176 default) = jk KR ret := by kernel_rfl
noncomputable def c0 (e : Cx) (J : P4 → AH → Res) : V × Int × Unit → AH → Res
| (a0, a1, _), h =>
  cI .i64 (e.X n_bytealg_IndexByte [a0, (.int .u8 a1)] h) fun x1 h2 =>
  J (x1, ()) h2
theorem c0_eq (e : Cx) (a0 : V) (a1 : Int) (h : AH) (n : Kn) (ee : Ke) (r : Kn) : rgL (cfgS e) lv 8 e.F (peel 2 (cP [0] B)).1 (iniT [a0, (.int .u8 a1)] 0 .leaf) h n ee r = c0 e (fun t h => n (mkT K4 t) h) (a0, a1, ()) h := by kernel_rfl
noncomputable def fn (e : Cx) (a0 : V) (a1 : Int) (h : AH) : Res :=
  c0 e (fun | (x3, _), h4 => ret ((.int .i64 x3), ()) h4) (a0, a1, ()) h
theorem run (e : Cx) (a0 : V) (a1 : Int) (h : AH) : execFn (cfgS e) (foLive lv) e.F n_bytes_IndexByte [a0, (.int .u8 a1)] h = fn e a0 a1 h := by
  refine (fn_eq (c := cfgS e) (lv := lv) (PP.funcs.getD 176 default) B (by kernel_rfl) (by kernel_rfl) (Nat.le_of_ble_eq_true (by kernel_rfl))).trans ?_
  rw [ret_eq]
  exact nd_chain' (X := cP [0] B) (Y := (cP [2] B)) 2 (L := K4) (S := fun J => c0 e J (a0, a1, ()) h) (Q := fun | (x3, _), h4 => ret ((.int .i64 x3), ()) h4) (by kernel_rfl) (fun n => c0_eq e a0 a1 h n (exK []) (jk KR ret)) (fun | (x3, _), h4 => by kernel_rfl)
end bytes_IndexByte
end Go.Proofs.YtcphjmgfgfjnpaaGreatDoor
namespace Go.Proofs.YtcphjmgfgfjnpaaGreatDoor
open Go Ev
noncomputable def lvOf (f : Nat) : Nat → Option Slots :=
  bif Nat.beq f n_law20_RenameLikes then law20_RenameLikes.lv else
  bif Nat.beq f n_rename_Like then rename_Like.lv else
  bif Nat.beq f n_bytes_Equal then bytes_Equal.lv else
  bif Nat.beq f n_diff_Way then diff_Way.lv else
  bif Nat.beq f n_diff_lay then diff_lay.lv else
  bif Nat.beq f n_diff_plane_way then diff_plane_way.lv else
  bif Nat.beq f n_diff_numbers then diff_numbers.lv else
  bif Nat.beq f n_diff_plane_least then diff_plane_least.lv else
  bif Nat.beq f n_diff_plane_at then diff_plane_at.lv else
  bif Nat.beq f n_diff_plane_end then diff_plane_end.lv else
  bif Nat.beq f n_diff_plane_step then diff_plane_step.lv else
  bif Nat.beq f n_diff_parts then diff_parts.lv else
  bif Nat.beq f n_bytes_IndexByte then bytes_IndexByte.lv else
  fun _ => none
noncomputable def envL : XEnv := ⟨env0.P, env0.G, env0.X, fun _ => none, env0.mask, env0.fuel, fun c => xi c, env0.good, env0.qt, fun _ => false⟩
theorem envL_ok : envL.OK := ⟨env0_ok.mixed, env0_ok.xsound, env0_ok.xabs, fun f g h => (by cases h), fun f g h => (by cases h), xi_ok _, env0_ok.draws⟩
noncomputable def gAwake (args : List V) (h : AH) : Res := memoI 11 n_law20_awake args h [m0]
noncomputable def gLines (args : List V) (h : AH) : Res := xrun envL 60 n_diff_Lines args h
noncomputable def iOf (f : Nat) : Option Ev.Fn := bif Nat.beq f n_law20_awake then some gAwake else bif Nat.beq f n_diff_Lines then some gLines else none
noncomputable def EE (F : Nat) : Env := ⟨PP, gOf, xOf xs, iOf, fun f => foLive (lvOf f), F, fun _ => none⟩
noncomputable def cx (F n : Nat) : Cx := ⟨runC (EE F) n, xOf xs, F⟩
theorem EE_ok (F : Nat) : (EE F).OK := by
  refine ⟨by kernel_rfl, env0_ok.xsound, env0_ok.xabs, ?_, ?_, fun o m h => (by cases h)⟩
  · intro f g h ρ h0 w args args' v h' hG hr hR hs
    unfold EE iOf at h
    simp only at h
    cases h1 : Nat.beq f n_law20_awake with
    | true =>
      rw [h1] at h
      obtain rfl := Nat.eq_of_beq_eq_true h1
      cases h
      obtain ⟨o, ho, sg, hf, h3⟩ := memoI_inv (show memoI 11 n_law20_awake args h0 [m0] = some (v, h') from hs)
      obtain rfl : o = m0 := List.mem_singleton.1 ho
      have := k0.1 sg ρ h0 h' w args args' v hG hr hR h3
      rw [hf] at this
      exact this
    | false =>
      rw [h1] at h
      cases h2 : Nat.beq f n_diff_Lines with
      | true =>
        rw [h2] at h
        obtain rfl := Nat.eq_of_beq_eq_true h2
        obtain rfl := Option.some.inj (show some gLines = some g from h)
        exact xrun_sound envL_ok hG hr hR hs
      | false => rw [h2] at h; cases h
  · intro f g h args h0 v h' hs
    unfold EE iOf at h
    simp only at h
    cases h1 : Nat.beq f n_law20_awake with
    | true =>
      rw [h1] at h
      cases h
      obtain ⟨o, ho, sg, hf, h3⟩ := memoI_inv (show memoI 11 n_law20_awake args h0 [m0] = some (v, h') from hs)
      obtain rfl : o = m0 := List.mem_singleton.1 ho
      exact k0.2 sg args h0 v h' h3
    | false =>
      rw [h1] at h
      cases h2 : Nat.beq f n_diff_Lines with
      | true =>
        rw [h2] at h
        obtain rfl := Option.some.inj (show some gLines = some g from h)
        exact xrun_astep envL_ok hs
      | false => rw [h2] at h; cases h
theorem run_of {F n : Nat} {f : FuncId} {args : List V} {h : AH} {lv : Nat → Option Slots} (hI : iOf f = none) (hl : lvOf f = lv) : runC (EE F) (n + 1) f args h = execFn (cfgS (cx F n)) (foLive lv) F f args h := by
  have e : runC (EE F) (n + 1) f args h = (match iOf f with | some g => g args h | none => execFn (cfgS (cx F n)) (foLive (lvOf f)) F f args h) := rfl
  rw [e, hI, hl]
theorem at_awake (F n : Nat) (args : List V) (h : AH) : runC (EE F) (n + 1) n_law20_awake args h = gAwake args h := rfl
theorem at_lines (F n : Nat) (args : List V) (h : AH) : runC (EE F) (n + 1) n_diff_Lines args h = gLines args h := rfl
theorem at_law20_RenameLikes (F n : Nat) (a0 : V) (a1 : V) (h : AH) : runC (EE F) (n + 1) n_law20_RenameLikes [a0, a1] h = law20_RenameLikes.fn (cx F n) a0 a1 h := (run_of rfl rfl).trans (law20_RenameLikes.run (cx F n) a0 a1 h)
theorem at_rename_Like (F n : Nat) (a0 : V) (a1 : V) (h : AH) : runC (EE F) (n + 1) n_rename_Like [a0, a1] h = rename_Like.fn (cx F n) a0 a1 h := (run_of rfl rfl).trans (rename_Like.run (cx F n) a0 a1 h)
theorem at_bytes_Equal (F n : Nat) (a0 : V) (a1 : V) (h : AH) : runC (EE F) (n + 1) n_bytes_Equal [a0, a1] h = bytes_Equal.fn (cx F n) a0 a1 h := (run_of rfl rfl).trans (bytes_Equal.run (cx F n) a0 a1 h)
theorem at_diff_Way (F n : Nat) (a0 : V) (a1 : V) (h : AH) : runC (EE F) (n + 1) n_diff_Way [a0, a1] h = diff_Way.fn (cx F n) a0 a1 h := (run_of rfl rfl).trans (diff_Way.run (cx F n) a0 a1 h)
theorem at_diff_lay (F n : Nat) (a0 : V) (a1 : V) (h : AH) : runC (EE F) (n + 1) n_diff_lay [a0, a1] h = diff_lay.fn (cx F n) a0 a1 h := (run_of rfl rfl).trans (diff_lay.run (cx F n) a0 a1 h)
theorem at_diff_plane_way (F n : Nat) (a0 : V) (h : AH) : runC (EE F) (n + 1) n_diff_plane_way [a0] h = diff_plane_way.fn (cx F n) a0 h := (run_of rfl rfl).trans (diff_plane_way.run (cx F n) a0 h)
theorem at_diff_numbers (F n : Nat) (a0 : V) (a1 : V) (h : AH) : runC (EE F) (n + 1) n_diff_numbers [a0, a1] h = diff_numbers.fn (cx F n) a0 a1 h := (run_of rfl rfl).trans (diff_numbers.run (cx F n) a0 a1 h)
theorem at_diff_plane_least (F n : Nat) (a0 : V) (a1 : Int) (a2 : Int) (h : AH) : runC (EE F) (n + 1) n_diff_plane_least [a0, (.int .i64 a1), (.int .i64 a2)] h = diff_plane_least.fn (cx F n) a0 a1 a2 h := (run_of rfl rfl).trans (diff_plane_least.run (cx F n) a0 a1 a2 h)
theorem at_diff_plane_at (F n : Nat) (a0 : V) (a1 : Int) (a2 : Int) (h : AH) : runC (EE F) (n + 1) n_diff_plane_at [a0, (.int .i64 a1), (.int .i64 a2)] h = diff_plane_at.fn (cx F n) a0 a1 a2 h := (run_of rfl rfl).trans (diff_plane_at.run (cx F n) a0 a1 a2 h)
theorem at_diff_plane_end (F n : Nat) (a0 : V) (h : AH) : runC (EE F) (n + 1) n_diff_plane_end [a0] h = diff_plane_end.fn (cx F n) a0 h := (run_of rfl rfl).trans (diff_plane_end.run (cx F n) a0 h)
theorem at_diff_plane_step (F n : Nat) (a0 : V) (a1 : V) (h : AH) : runC (EE F) (n + 1) n_diff_plane_step [a0, a1] h = diff_plane_step.fn (cx F n) a0 a1 h := (run_of rfl rfl).trans (diff_plane_step.run (cx F n) a0 a1 h)
theorem at_diff_parts (F n : Nat) (a0 : V) (h : AH) : runC (EE F) (n + 1) n_diff_parts [a0] h = diff_parts.fn (cx F n) a0 h := (run_of rfl rfl).trans (diff_parts.run (cx F n) a0 h)
end Go.Proofs.YtcphjmgfgfjnpaaGreatDoor
namespace Go.Proofs.YtcphjmgfgfjnpaaGreatDoor
open Go Ev
def fb (x : Nat) : Nat := FloatKind.f64.nearest (x : Int)
abbrev o1 : Nat := 4607182418800017408
def chkF (x : Nat) : Bool :=
  (FloatKind.f64.format.add (fb x) o1 == some (fb (x + 1))) && ((FloatKind.f64.format.add (fb x) 0 == some (fb x)) && ((FloatKind.f64.format.sub (fb (x + 1)) (fb x) == some o1) && ((FloatKind.f64.format.sub (fb x) (fb x) == some 0) &&
  (((FloatKind.f64.decode (fb x)).toInt .zero == some (x : Int)) && (match FloatKind.f64.decode (fb x) with
    | .number false m i => decide (i ≤ 0) && (m == x * 2 ^ (-i).toNat)
    | _ => false)))))
set_option maxRecDepth 100000 in
theorem chk1 : (List.range 400).all chkF = true := by decide +kernel
set_option maxRecDepth 100000 in
theorem chk2 : (List.range 400).all (fun x => chkF (400 + x)) = true := by decide +kernel
set_option maxRecDepth 100000 in
theorem chk3 : (List.range 300).all (fun x => chkF (800 + x)) = true := by decide +kernel
theorem chk {x : Nat} (h : x ≤ 1000) : chkF x = true := by
  by_cases h1 : x < 400
  · exact List.all_eq_true.1 chk1 x (List.mem_range.2 h1)
  · by_cases h2 : x < 800
    · have := List.all_eq_true.1 chk2 (x - 400) (List.mem_range.2 (by omega))
      rwa [show 400 + (x - 400) = x from by omega] at this
    · have := List.all_eq_true.1 chk3 (x - 800) (List.mem_range.2 (by omega))
      rwa [show 800 + (x - 800) = x from by omega] at this
structure FFacts (x : Nat) : Prop where
  add1 : FloatKind.f64.format.add (fb x) o1 = some (fb (x + 1))
  add0 : FloatKind.f64.format.add (fb x) 0 = some (fb x)
  sub1 : FloatKind.f64.format.sub (fb (x + 1)) (fb x) = some o1
  sub0 : FloatKind.f64.format.sub (fb x) (fb x) = some 0
  back : (FloatKind.f64.decode (fb x)).toInt .zero = some (x : Int)
  num : ∃ m i, FloatKind.f64.decode (fb x) = .number false m i ∧ i ≤ 0 ∧ m = x * 2 ^ (-i).toNat
theorem ffacts {x : Nat} (h : x ≤ 1000) : FFacts x := by
  have := chk h
  unfold chkF at this
  simp only [Bool.and_eq_true, beq_iff_eq] at this
  obtain ⟨h1, h2, h3, h4, h5, h6⟩ := this
  refine ⟨h1, h2, h3, h4, h5, ?_⟩
  split at h6
  · rename_i m i hd
    simp only [Bool.and_eq_true, decide_eq_true_eq, beq_iff_eq] at h6
    exact ⟨m, i, hd, h6.1, h6.2⟩
  · cases h6
theorem shl_pow (m k : Nat) : m <<< k = m * 2 ^ k := Nat.shiftLeft_eq m k
theorem ford {x y : Nat} (hx : x ≤ 1000) (hy : y ≤ 1000) : (FloatKind.f64.format.order (fb x) (fb y) == some .eq) = decide (x = y) := by
  obtain ⟨m, i, h1, h2, h3⟩ := (ffacts hx).num
  obtain ⟨n, j, k1, k2, k3⟩ := (ffacts hy).num
  have e : FloatKind.f64.format.order (fb x) (fb y) = (FloatKind.f64.decode (fb x)).order (FloatKind.f64.decode (fb y)) := rfl
  rw [e, h1, k1]
  show (some (compare (Ieee.signed false m (i - min i j).toNat) (Ieee.signed false n (j - min i j).toNat)) == some Ordering.eq) = _
  have hm : Ieee.signed false m (i - min i j).toNat = ((x * 2 ^ (-(min i j)).toNat : Nat) : Int) := by
    show ((m <<< (i - min i j).toNat : Nat) : Int) = _
    rw [shl_pow, h3, Nat.mul_assoc, ← Nat.pow_add, show (-i).toNat + (i - min i j).toNat = (-(min i j)).toNat from by omega]
  have hn : Ieee.signed false n (j - min i j).toNat = ((y * 2 ^ (-(min i j)).toNat : Nat) : Int) := by
    show ((n <<< (j - min i j).toNat : Nat) : Int) = _
    rw [shl_pow, k3, Nat.mul_assoc, ← Nat.pow_add, show (-j).toNat + (j - min i j).toNat = (-(min i j)).toNat from by omega]
  rw [hm, hn]
  have hp : 0 < 2 ^ (-(min i j)).toNat := Nat.pow_pos (by decide)
  by_cases hxy : x = y
  · subst hxy
    have : compare ((x * 2 ^ (-(min i j)).toNat : Nat) : Int) ((x * 2 ^ (-(min i j)).toNat : Nat) : Int) = Ordering.eq := Int.compare_eq_eq.2 rfl
    rw [this]; simp
  · have : compare ((x * 2 ^ (-(min i j)).toNat : Nat) : Int) ((y * 2 ^ (-(min i j)).toNat : Nat) : Int) ≠ Ordering.eq := by
      intro hc
      have := Int.compare_eq_eq.1 hc
      have := Nat.eq_of_mul_eq_mul_right hp (Int.ofNat.inj this)
      exact hxy this
    rw [decide_eq_false hxy]
    simpa using this
theorem cvt_if (n : Int) (h : AH) : cvt PP T_int T_float64 (.int .i64 n) h = some (.float .f64 (FloatKind.f64.nearest n), h) := by kernel_rfl
theorem cvt_if' (n : Nat) (h : AH) : cvt PP T_int T_float64 (.int .i64 (n : Int)) h = some (.float .f64 (fb n), h) := cvt_if n h
theorem cvt_fi0 (b : Nat) (h : AH) : cvt PP T_float64 T_int (.float .f64 b) h = (match pureRun PP 6 (Conv.floatToInt .f64 b .i64) with
    | some v => some (v, h)
    | none => none) := by kernel_rfl
theorem cvt_fi {x : Nat} (hx : x ≤ 1000) (h : AH) : cvt PP T_float64 T_int (.float .f64 (fb x)) h = some (.int .i64 (x : Int), h) := by
  rw [cvt_fi0]
  have : Conv.floatToInt .f64 (fb x) .i64 = .pure (.int .i64 (x : Int)) := by
    unfold Conv.floatToInt
    simp only [(ffacts hx).back]
    rw [if_pos (by simp only [IntKind.min, IntKind.max, IntKind.signed, IntKind.bits]; omega)]
    rfl
  rw [this]
  rfl
theorem cadd {a b c d r s : Nat} (h1 : FloatKind.f64.format.add a c = some r) (h2 : FloatKind.f64.format.add b d = some s) : absBin PP .add T_complex128 (.tmp 0) (.tmp 0) (.complex .f64 a b) (.complex .f64 c d) = some (.complex .f64 r s) := by
  show pureOf (Go.binOp .add T_complex128 (.complex .f64 a b) (.complex .f64 c d)) = _
  have : Go.binOp .add T_complex128 (.complex .f64 a b) (.complex .f64 c d) = .pure (.complex .f64 r s) := by
    simp only [Go.binOp, ne_eq, not_true_eq_false, if_false, Op.complexOp, Op.Complex.arith, Op.floatArith, h1, h2]
    rfl
  rw [this]; rfl
theorem csub {a b c d r s : Nat} (h1 : FloatKind.f64.format.sub a c = some r) (h2 : FloatKind.f64.format.sub b d = some s) : absBin PP .sub T_complex128 (.tmp 0) (.tmp 0) (.complex .f64 a b) (.complex .f64 c d) = some (.complex .f64 r s) := by
  show pureOf (Go.binOp .sub T_complex128 (.complex .f64 a b) (.complex .f64 c d)) = _
  have : Go.binOp .sub T_complex128 (.complex .f64 a b) (.complex .f64 c d) = .pure (.complex .f64 r s) := by
    simp only [Go.binOp, ne_eq, not_true_eq_false, if_false, Op.complexOp, Op.Complex.arith, Op.floatArith, h1, h2]
    rfl
  rw [this]; rfl
theorem ceq (a b c d : Nat) : eqW PP true T_complex128 (.complex .f64 a b) (.complex .f64 c d) = some (.bool ((FloatKind.f64.format.order a c == some .eq) && (FloatKind.f64.format.order b d == some .eq))) := by
  show pureOf (Go.binOp .eql T_complex128 (.complex .f64 a b) (.complex .f64 c d)) = _
  have : Go.binOp .eql T_complex128 (.complex .f64 a b) (.complex .f64 c d) = .pure (.bool ((FloatKind.f64.format.order a c == some .eq) && (FloatKind.f64.format.order b d == some .eq))) := by
    simp only [Go.binOp, ne_eq, not_true_eq_false, if_false, Op.complexOp, Op.Complex.cmp, Op.floatCmp]
    cases (FloatKind.f64.format.order a c == some .eq) <;> rfl
  rw [this]; rfl
theorem cne (a b c d : Nat) : neW PP false T_complex128 (.complex .f64 a b) (.complex .f64 c d) = some (.bool !((FloatKind.f64.format.order a c == some .eq) && (FloatKind.f64.format.order b d == some .eq))) := by
  show pureOf (Go.binOp .neq T_complex128 (.complex .f64 a b) (.complex .f64 c d)) = _
  have : Go.binOp .neq T_complex128 (.complex .f64 a b) (.complex .f64 c d) = .pure (.bool !((FloatKind.f64.format.order a c == some .eq) && (FloatKind.f64.format.order b d == some .eq))) := by
    simp only [Go.binOp, ne_eq, not_true_eq_false, if_false, Op.complexOp, Op.Complex.cmp, Op.floatCmp]
    cases (FloatKind.f64.format.order a c == some .eq) <;> rfl
  rw [this]; rfl
end Go.Proofs.YtcphjmgfgfjnpaaGreatDoor
namespace Go.Proofs.YtcphjmgfgfjnpaaGreatDoor
open Go Ev
def AllI (k : IntKind) (l : List V) : Prop := ∀ v ∈ l, ∃ n : Int, v = .int k n
theorem AllI.get {k : IntKind} {l : List V} (h : AllI k l) {i : Nat} (hi : i < l.length) : ∃ n : Int, l[i]? = some (.int k n) := by
  obtain ⟨n, e⟩ := h _ (List.getElem_mem hi)
  exact ⟨n, by rw [List.getElem?_eq_getElem hi, e]⟩
structure Pl (h : AH) (b : Nat) (va vb vr : V) (n m : Nat) : Prop where
  pl : Cells h b T_diff_plane [va, vb, vr]
  a : ∃ cs, Sl 1 h va n cs ∧ cs.length = n ∧ AllI .i64 cs
  b : ∃ cs, Sl 1 h vb m cs ∧ cs.length = m ∧ AllI .i64 cs
  r : ∃ cs, Sl 1 h vr ((n + 1) * (m + 1)) cs ∧ cs.length = (n + 1) * (m + 1) ∧ AllI .i32 cs
  hn : n ≤ 1000
  hm : m ≤ 1000
theorem nilC (a : A) : absNilCheck (.ptr a) = some (.ptr a) := rfl
theorem fA_ptr (k : Nat) (a : A) : fA k (.ptr a) = some (.ptr ⟨a.b, a.L, a.o + k⟩) := rfl
section
variable {h : AH} {b : Nat} {va vb vr : V} {n m : Nat}
theorem Pl.lda (p : Pl h b va vb vr n m) : ld (.ptr ⟨b, 3, 0 + 0⟩) h = some va := ld_of (p.pl.read1 rfl rfl)
theorem Pl.ldb (p : Pl h b va vb vr n m) : ld (.ptr ⟨b, 3, 0 + 1⟩) h = some vb := ld_of (p.pl.read1 rfl rfl)
theorem Pl.ldr (p : Pl h b va vb vr n m) : ld (.ptr ⟨b, 3, 0 + 2⟩) h = some vr := ld_of (p.pl.read1 rfl rfl)
theorem Pl.lena (p : Pl h b va vb vr n m) : lenS va = some (.int .i64 (n : Int)) := let ⟨_, h1, _⟩ := p.a; h1.len
theorem Pl.lenb (p : Pl h b va vb vr n m) : lenS vb = some (.int .i64 (m : Int)) := let ⟨_, h1, _⟩ := p.b; h1.len
theorem Pl.ata (p : Pl h b va vb vr n m) {x : Nat} (hx : x < n) : ∃ a k, ixS 1 va (x : Int) = some (.ptr a) ∧ ld (.ptr a) h = some (.int .i64 k) := by
  obtain ⟨cs, h1, h2, h3⟩ := p.a
  obtain ⟨k, hk⟩ := h3.get (i := x) (by omega)
  obtain ⟨a, e1, e2⟩ := h1.ix1 (i := (x : Int)) (by omega) (by omega) (by rw [Int.toNat_natCast]; exact hk)
  exact ⟨a, k, e1, ld_of e2⟩
theorem Pl.atb (p : Pl h b va vb vr n m) {x : Nat} (hx : x < m) : ∃ a k, ixS 1 vb (x : Int) = some (.ptr a) ∧ ld (.ptr a) h = some (.int .i64 k) := by
  obtain ⟨cs, h1, h2, h3⟩ := p.b
  obtain ⟨k, hk⟩ := h3.get (i := x) (by omega)
  obtain ⟨a, e1, e2⟩ := h1.ix1 (i := (x : Int)) (by omega) (by omega) (by rw [Int.toNat_natCast]; exact hk)
  exact ⟨a, k, e1, ld_of e2⟩
theorem Pl.spot (p : Pl h b va vb vr n m) {x y : Nat} (hx : x ≤ n) (hy : y ≤ m) : x * (m + 1) + y < (n + 1) * (m + 1) := by
  have : x * (m + 1) ≤ n * (m + 1) := Nat.mul_le_mul_right _ hx
  have e : (n + 1) * (m + 1) = n * (m + 1) + (m + 1) := by rw [Nat.add_mul, Nat.one_mul]
  omega
theorem Pl.big (p : Pl h b va vb vr n m) {x y : Nat} (hx : x ≤ n) (hy : y ≤ m) : (((x : Int) * ((m : Int) + 1)) + (y : Int)) = ((x * (m + 1) + y : Nat) : Int) ∧ x * (m + 1) + y < 1100000 := by
  refine ⟨by simp, ?_⟩
  have h1 := p.spot hx hy
  have h2 : (n + 1) * (m + 1) ≤ 1001 * 1001 := Nat.mul_le_mul (by have := p.hn; omega) (by have := p.hm; omega)
  omega
theorem Pl.atr (p : Pl h b va vb vr n m) {x y : Nat} (hx : x ≤ n) (hy : y ≤ m) : ∃ a k, ixS 1 vr ((x * (m + 1) + y : Nat) : Int) = some (.ptr a) ∧ ld (.ptr a) h = some (.int .i32 k) := by
  obtain ⟨cs, h1, h2, h3⟩ := p.r
  have hs := p.spot hx hy
  obtain ⟨k, hk⟩ := h3.get (i := x * (m + 1) + y) (by omega)
  obtain ⟨a, e1, e2⟩ := h1.ix1 (i := ((x * (m + 1) + y : Nat) : Int)) (by omega) (by omega) (by rw [Int.toNat_natCast]; exact hk)
  exact ⟨a, k, e1, ld_of e2⟩
theorem at_spec (p : Pl h b va vb vr n m) (F k : Nat) {x y : Nat} (hx : x ≤ n) (hy : y ≤ m) :
    ∃ a, runC (EE F) (k + 1) n_diff_plane_at [.ptr ⟨b, 3, 0⟩, .int .i64 (x : Int), .int .i64 (y : Int)] h = some (.ptr a, h) ∧ ixS 1 vr ((x * (m + 1) + y : Nat) : Int) = some (.ptr a) ∧ ∃ k, ld (.ptr a) h = some (.int .i32 k) := by
  obtain ⟨a, r, e1, e2⟩ := p.atr hx hy
  obtain ⟨g1, g2⟩ := p.big hx hy
  have hm := p.hm
  have hn := p.hn
  refine ⟨a, ?_, e1, r, e2⟩
  rw [at_diff_plane_at]
  have w1 : IntKind.wrap .i64 ((m : Int) + 1) = (m : Int) + 1 := wr_i64 (by omega) (by omega)
  have g3 : x * (m + 1) < 1100000 := by omega
  have w2 : IntKind.wrap .i64 ((x : Int) * ((m : Int) + 1)) = (x : Int) * ((m : Int) + 1) := by
    have : (x : Int) * ((m : Int) + 1) = ((x * (m + 1) : Nat) : Int) := by simp
    rw [this]; exact wr_i64 (by omega) (by omega)
  have w3 : IntKind.wrap .i64 ((x : Int) * ((m : Int) + 1) + (y : Int)) = ((x * (m + 1) + y : Nat) : Int) := by
    rw [g1]; exact wr_i64 (by omega) (by omega)
  simp only [diff_plane_at.fn, diff_plane_at.c0, nilC, bV_some, fA_ptr, p.ldr, p.ldb, p.lenb, bI_some, wr, w1, w2, w3, e1]
  rfl
theorem end_spec (p : Pl h b va vb vr n m) (F k : Nat) : runC (EE F) (k + 1) n_diff_plane_end [.ptr ⟨b, 3, 0⟩] h = some (.complex .f64 (fb n) (fb m), h) := by
  rw [at_diff_plane_end]
  simp only [diff_plane_end.fn, diff_plane_end.c0, nilC, bV_some, fA_ptr, p.lda, p.ldb, p.lena, p.lenb, bI_some, cvt_if', cV_some]
  rfl
theorem parts_spec (F k : Nat) {x y : Nat} (hx : x ≤ 1000) (hy : y ≤ 1000) (h : AH) : runC (EE F) (k + 1) n_diff_parts [.complex .f64 (fb x) (fb y)] h = some (.tuple [.int .i64 (x : Int), .int .i64 (y : Int)], h) := by
  rw [at_diff_parts]
  have r1 : partOf .real [.complex .f64 (fb x) (fb y)] = some (.float .f64 (fb x)) := rfl
  have r2 : partOf .imag [.complex .f64 (fb x) (fb y)] = some (.float .f64 (fb y)) := rfl
  simp only [diff_parts.fn, diff_parts.c0, r1, r2, bV_some, cvt_fi hx, cvt_fi hy, cI_some]
  rfl
end
end Go.Proofs.YtcphjmgfgfjnpaaGreatDoor
namespace Go.Proofs.YtcphjmgfgfjnpaaGreatDoor
open Go Ev
section
variable {h : AH} {b : Nat} {va vb vr : V} {n m : Nat}
theorem quiet_same {g : AH → Res} {v : V} (e : g ⟨h.next, h.next, h.m⟩ = some (v, ⟨h.next, h.next, h.m⟩)) : quiet g h = some (v, h) := by
  unfold quiet
  rw [e]
  simp only [Nat.le_refl, if_true]
theorem Pl.quiet (p : Pl h b va vb vr n m) : Pl ⟨h.next, h.next, h.m⟩ b va vb vr n m := ⟨p.pl, p.a, p.b, p.r, p.hn, p.hm⟩
theorem at_quiet (p : Pl h b va vb vr n m) (F k : Nat) {x y : Nat} (hx : x ≤ n) (hy : y ≤ m) :
    ∃ a, quiet (fun h => runC (EE F) (k + 1) n_diff_plane_at [.ptr ⟨b, 3, 0⟩, .int .i64 (x : Int), .int .i64 (y : Int)] h) h = some (.ptr a, h) ∧ ∃ k, ld (.ptr a) h = some (.int .i32 k) := by
  obtain ⟨a, e1, e2, e3⟩ := at_spec p.quiet F k hx hy
  exact ⟨a, quiet_same e1, e3⟩
theorem w1 {x : Nat} (hx : x ≤ 1000000) : IntKind.wrap .i64 ((x : Int) + 1) = ((x + 1 : Nat) : Int) := by
  rw [wr_i64 (by omega) (by omega)]; simp
theorem dec_lt {x n : Nat} : decide ((x : Int) < (n : Int)) = decide (x < n) := by
  by_cases h : x < n
  · rw [decide_eq_true h, decide_eq_true (by omega)]
  · rw [decide_eq_false h, decide_eq_false (by omega)]
theorem beq_i {x n : Nat} : ((x : Int) == (n : Int)) = decide (x = n) := by
  by_cases h : x = n
  · subst h; simp
  · rw [decide_eq_false h]; simp; omega
theorem least_spec (p : Pl h b va vb vr n m) (F k : Nat) {x y : Nat} (hx : x ≤ n) (hy : y ≤ m) :
    ∃ r, runC (EE F) (k + 2) n_diff_plane_least [.ptr ⟨b, 3, 0⟩, .int .i64 (x : Int), .int .i64 (y : Int)] h = some (.int .i32 r, h) := by
  have hm := p.hm
  have hn := p.hn
  rw [at_diff_plane_least]
  have cxC : (cx F (k + 1)).C = runC (EE F) (k + 1) := rfl
  simp only [diff_plane_least.fn, diff_plane_least.c0, diff_plane_least.k0, diff_plane_least.c1, nilC, bV_some, fA_ptr, p.lda, p.ldb, p.lena, p.lenb, bI_some, diff_plane_least.k1, beq_i]
  by_cases h1 : x = n
  · simp only [h1, decide_true, cond_true, diff_plane_least.c2, nilC, bV_some, fA_ptr, p.ldb, p.lenb, bI_some]
    exact ⟨_, rfl⟩
  · simp only [h1, decide_false, cond_false, diff_plane_least.c3, nilC, bV_some, fA_ptr, p.ldb, p.lenb, bI_some, diff_plane_least.k3, beq_i]
    by_cases h2 : y = m
    · simp only [h2, decide_true, cond_true, diff_plane_least.c4, nilC, bV_some, fA_ptr, p.lda, p.lena, bI_some]
      exact ⟨_, rfl⟩
    · obtain ⟨a1, k1, f1, f2⟩ := p.ata (x := x) (by omega)
      obtain ⟨a2, k2, f3, f4⟩ := p.atb (x := y) (by omega)
      simp only [h2, decide_false, cond_false, diff_plane_least.c5, nilC, bV_some, fA_ptr, p.lda, p.ldb, f1, f2, f3, f4, bI_some, diff_plane_least.k5]
      cases hk : (k1 == k2) with
      | true =>
        obtain ⟨a, g1, g2, r, g3⟩ := at_spec p F k (x := x + 1) (y := y + 1) (by omega) (by omega)
        simp only [cond_true, diff_plane_least.c6, wr, w1 (show x ≤ 1000000 by omega), w1 (show y ≤ 1000000 by omega), cxC, g1, cV_some, nilC, bV_some, g3, bI_some]
        exact ⟨_, rfl⟩
      | false =>
        obtain ⟨a, g1, g2, r, g3⟩ := at_spec p F k (x := x + 1) (y := y) (by omega) (by omega)
        obtain ⟨a', q1, r', q3⟩ := at_quiet p F k (x := x) (y := y + 1) (by omega) (by omega)
        simp only [cond_false, diff_plane_least.r7, diff_plane_least.c7, wr, w1 (show x ≤ 1000000 by omega), w1 (show y ≤ 1000000 by omega), cxC, g1, cV_some, nilC, bV_some, g3, bI_some, q1, q3]
        exact ⟨_, rfl⟩
theorem fb1 : fb 1 = o1 := by decide +kernel
theorem fb0 : fb 0 = 0 := by decide +kernel
theorem step_spec (p : Pl h b va vb vr n m) (F k : Nat) {x y : Nat} (hx : x ≤ n) (hy : y ≤ m) (hne : ¬ (x = n ∧ y = m)) :
    ∃ dx dy : Nat, runC (EE F) (k + 2) n_diff_plane_step [.ptr ⟨b, 3, 0⟩, .complex .f64 (fb x) (fb y)] h = some (.complex .f64 (fb dx) (fb dy), h) ∧ dx ≤ 1 ∧ dy ≤ 1 ∧ x + dx ≤ n ∧ y + dy ≤ m ∧ 0 < dx + dy := by
  have hm := p.hm
  have hn := p.hn
  rw [at_diff_plane_step]
  have cxC : (cx F (k + 1)).C = runC (EE F) (k + 1) := rfl
  have e0 : ∀ a b : V, absExtract (.tuple [a, b]) 0 = some a := fun _ _ => rfl
  have e1 : ∀ a b : V, absExtract (.tuple [a, b]) 1 = some b := fun _ _ => rfl
  simp only [diff_plane_step.fn, diff_plane_step.c0, cxC, parts_spec F k (show x ≤ 1000 by omega) (show y ≤ 1000 by omega), cV_some, e0, e1, bI_some, diff_plane_step.k1, diff_plane_step.c2, nilC, bV_some, fA_ptr, p.lda, p.ldb, p.lena, p.lenb, dec_lt]
  have comes : y < m → ∃ dx dy : Nat, diff_plane_step.r6 (cx F (k + 1)) diff_plane_step.ret diff_plane_step.ret () h = some (.complex .f64 (fb dx) (fb dy), h) ∧ dx ≤ 1 ∧ dy ≤ 1 ∧ x + dx ≤ n ∧ y + dy ≤ m ∧ 0 < dx + dy := by
    intro hlt
    refine ⟨0, 1, ?_, by omega, by omega, by omega, by omega, by omega⟩
    simp only [diff_plane_step.r6, diff_plane_step.c6, fb1, fb0]
    rfl
  have goes : x < n → ∃ dx dy : Nat, diff_plane_step.c5 (cx F (k + 1)) diff_plane_step.ret (true, ()) h = some (.complex .f64 (fb dx) (fb dy), h) ∧ dx ≤ 1 ∧ dy ≤ 1 ∧ x + dx ≤ n ∧ y + dy ≤ m ∧ 0 < dx + dy := by
    intro hlt
    refine ⟨1, 0, ?_, by omega, by omega, by omega, by omega, by omega⟩
    simp only [diff_plane_step.c5, fb1, fb0]
    rfl
  by_cases h1 : x < n
  · simp only [h1, decide_true, cond_true]
    by_cases h2 : y < m
    · obtain ⟨a1, k1, f1, f2⟩ := p.ata (x := x) (by omega)
      obtain ⟨a2, k2, f3, f4⟩ := p.atb (x := y) (by omega)
      simp only [h2, decide_true, cond_true, nilC, bV_some, fA_ptr, p.lda, p.ldb, f1, f2, f3, f4, bI_some, diff_plane_step.k2]
      cases hk : (k1 == k2) with
      | true =>
        refine ⟨1, 1, ?_, by omega, by omega, by omega, by omega, by omega⟩
        simp only [cond_true, diff_plane_step.c3, fb1]
        rfl
      | false =>
        obtain ⟨a, g1, g2, r, g3⟩ := at_spec p F k (x := x + 1) (y := y) (by omega) (by omega)
        obtain ⟨a', q1, r', q3⟩ := at_quiet p F k (x := x) (y := y + 1) (by omega) (by omega)
        simp only [cond_false, cond_true, diff_plane_step.c4, nilC, bV_some, fA_ptr, p.lda, p.ldb, p.lena, p.lenb, bI_some, dec_lt, h1, decide_true, beq_i, show ¬ y = m by omega, decide_false, wr, w1 (show x ≤ 1000000 by omega), w1 (show y ≤ 1000000 by omega), cxC, g1, cV_some, g3, q1, q3, diff_plane_step.k4]
        cases hle : decide (r ≤ r') with
        | true => simp only [cond_true]; exact goes h1
        | false => simp only [cond_false]; exact comes h2
    · obtain rfl : y = m := by omega
      simp only [Nat.lt_irrefl, decide_false, cond_false, diff_plane_step.k2, diff_plane_step.c4, nilC, bV_some, fA_ptr, p.lda, p.ldb, p.lena, p.lenb, bI_some, dec_lt, h1, decide_true, cond_true, beq_i, diff_plane_step.k4]
      exact goes h1
  · have h2 : y < m := by omega
    simp only [h1, decide_false, cond_false, diff_plane_step.k2, diff_plane_step.c4, nilC, bV_some, fA_ptr, p.lda, p.ldb, p.lena, p.lenb, bI_some, dec_lt, diff_plane_step.k4]
    exact comes h2
end
end Go.Proofs.YtcphjmgfgfjnpaaGreatDoor
namespace Go.Proofs.YtcphjmgfgfjnpaaGreatDoor
open Go Ev
def flatT : List (List Nat × Int × V) → List V
  | [] => []
  | t :: ts => .str t.1 :: .int .i64 t.2.1 :: t.2.2 :: flatT ts
theorem flatT_snoc (ts : List (List Nat × Int × V)) (s : List Nat) (x : Int) (v : V) : flatT ts ++ [.str s, .int .i64 x, v] = flatT (ts ++ [(s, x, v)]) := by
  induction ts with
  | nil => rfl
  | cons t ts ih => simp only [flatT, List.cons_append, ih]
def Mp (h : AH) (b : Nat) : Prop := ∃ (c : Int) (ts : List (List Nat × Int × V)), mapOf h b = some (.int .i64 c, flatT ts)
theorem mapOf_obj {h : AH} {b : Nat} {c : V} {data : List V} (hg : h.get b = some (Blk.obj 0 (c :: data))) : mapOf h b = some (c, data) := by
  unfold mapOf
  rw [hg]
  rfl
theorem Mp.mono {h h' : AH} {b : Nat} (hm : Mp h b) (hg : h'.get b = h.get b) : Mp h' b := by
  obtain ⟨c, ts, e⟩ := hm
  refine ⟨c, ts, ?_⟩
  unfold mapOf at e ⊢
  rw [hg]; exact e
theorem find_str (s : List Nat) : ∀ (ts : List (List Nat × Int × V)) (i : Nat), mFind PP T_string (.str s) (flatT ts) i = some none ∨ ∃ j s' n st, mFind PP T_string (.str s) (flatT ts) i = some (some (j, .str s', .int .i64 n, st)) := by
  have ek : ∀ s', eqKey PP T_string (.str s) (.str s') = some (natsEq s s') := fun s' => by
    have hu : PP.underlying T_string = some .string := by kernel_rfl
    unfold eqKey; rw [hu]
  intro ts
  induction ts with
  | nil => intro i; exact .inl rfl
  | cons t ts ih =>
    intro i
    simp only [flatT, mFind, ek]
    cases natsEq s t.1 with
    | true => exact .inr ⟨i, t.1, t.2.1, t.2.2, rfl⟩
    | false => exact ih (i + 1)
theorem und_map : PP.underlying T_mapastring_int = some (.map T_string T_int) := by kernel_rfl
theorem key_ok (s : List Nat) : keyOK PP T_string (.str s) = true := by kernel_rfl
theorem zero_int : zeroV PP T_int = some (.int .i64 0) := by kernel_rfl
theorem AH.put_wrote {h : AH} (hw : h.WF) {b : Nat} (hb : b < h.next) (k : Blk) : Wrote h (h.put b k) b := by
  refine ⟨rfl, rfl, fun b' hb' => by rw [AH.get_put, if_neg hb'], fun b' k' hk' => ?_⟩
  rw [AH.get_put] at hk'
  by_cases e : b' = b
  · subst e; exact hb
  · rw [if_neg e] at hk'; exact hw _ _ hk'
theorem map_spec {h : AH} (hw : h.WF) {b : Nat} (hb : b < h.next) (hm : Mp h b) (s : List Nat) :
    ∃ n t, absLookup PP T_mapastring_int (.mapv b) (.str s) true h = some (.tuple [.int .i64 n, .bool t]) ∧ (t = false → ∃ k : Int, absMapLen PP T_mapastring_int (.mapv b) h = some (.int .i64 k) ∧
      ∃ h', absMapUpdate PP T_mapastring_int (.mapv b) (.str s) (.int .i64 k) h = some h' ∧ Mp h' b ∧ Wrote h h' b) := by
  obtain ⟨c, ts, e⟩ := hm
  rcases find_str s ts 0 with hf | ⟨j, s', n, st, hf⟩
  · refine ⟨0, false, ?_, fun _ => ⟨(mLen (flatT ts) : Nat), ?_, ?_⟩⟩
    · unfold absLookup
      simp only [und_map, key_ok, if_true, e, hf, zero_int]
      rfl
    · unfold absMapLen
      simp only [und_map, e]
      rfl
    · refine ⟨h.put b (Blk.obj 0 (.int .i64 (c + 1) :: (flatT ts ++ [.str s, .int .i64 ((mLen (flatT ts) : Nat) : Int), .int .i64 c]))), ?_, ⟨c + 1, ts ++ [(s, ((mLen (flatT ts) : Nat) : Int), .int .i64 c)], ?_⟩, AH.put_wrote hw hb _⟩
      · unfold absMapUpdate
        simp only [und_map, key_ok, if_true, e, hf]
      · refine (mapOf_obj (by rw [AH.get_put, if_pos rfl])).trans ?_
        rw [flatT_snoc]
  · refine ⟨n, true, ?_, fun h => (by cases h)⟩
    unfold absLookup
    simp only [und_map, key_ok, if_true, e, hf]
    rfl
structure OldX (n0 bm : Nat) (h h' : AH) : Prop where
  next : h.next ≤ h'.next
  get : ∀ b, b < h.next → b ≠ bm → h'.get b = h.get b
  low : min h.low n0 ≤ h'.low
  wf : h'.WF
theorem OldX.refl {n0 bm : Nat} {h : AH} (hw : h.WF) : OldX n0 bm h h := ⟨Nat.le_refl _, fun _ _ _ => rfl, Nat.min_le_left _ _, hw⟩
theorem OldX.trans {n0 bm : Nat} {a b c : AH} (x : OldX n0 bm a b) (y : OldX n0 bm b c) : OldX n0 bm a c :=
  ⟨Nat.le_trans x.next y.next, fun i hi hb => (y.get i (Nat.lt_of_lt_of_le hi x.next) hb).trans (x.get i hi hb), by have := x.low; have := y.low; omega, y.wf⟩
theorem OldX.of_wrote {n0 bm : Nat} {h h' : AH} (w : Wrote h h' bm) (hn : n0 ≤ bm) : OldX n0 bm h h' := ⟨by rw [w.next]; exact Nat.le_refl _, fun b _ hb => w.rest b hb, by rw [w.low]; omega, w.wf⟩
theorem OldX.of_old {n0 bm : Nat} {h h' : AH} (o : Old h.next h h') (hn : n0 ≤ h.next) : OldX n0 bm h h' := ⟨o.next, fun b hb _ => o.get b hb, by have := o.low; omega, o.wf⟩
theorem OldX.old {n0 bm : Nat} {h h' : AH} (o : OldX n0 bm h h') (h1 : n0 ≤ bm) (h2 : n0 ≤ h.next) : Old n0 h h' := ⟨o.next, fun b hb => o.get b (by omega) (by omega), o.low, o.wf⟩
theorem Own.keepF {n0 z e : Nat} {h h' : AH} {v : V} {n : Nat} {cs : List V} (ho : Own n0 z e h v n cs) (hg : ∀ b, n0 ≤ b → h'.get b = h.get b) : Own n0 z e h' v n cs := by
  obtain ⟨h1, h2 | ⟨b, cap, ex, rest, rfl, h2, h3, h4, h5, h6⟩⟩ := ho
  · exact ⟨h1, .inl h2⟩
  · exact ⟨h1, .inr ⟨b, cap, ex, rest, rfl, h2, h3, h4, h5, h6.mono (hg _ h2)⟩⟩
theorem Own.src {n0 e : Nat} {h : AH} {v : V} {x : V} (ho : Own n0 1 e h v 1 [x]) : srcLen v = some 1 ∧ srcCells v 1 1 h = some [x] := by
  obtain ⟨h1, ⟨h2, _⟩ | ⟨b, cap, ex, rest, rfl, h2, h3, h4, h5, h6⟩⟩ := ho
  · omega
  · refine ⟨rfl, ?_⟩
    have h7 : ([x] ++ rest).length = cap := by rw [h4, Nat.mul_one]
    have := h6.read (L := cap * 1) (o := 0) (n := 1) (by rw [h4]) (by simp)
    show readN h _ 1 = _
    rw [this]; rfl
theorem one_app {n0 e by_ : Nat} {h : AH} (hw : h.WF) {v : V} {n : Nat} {cs : List V} (ho : Own n0 1 e h v n cs) (hn0 : n0 ≤ h.next) (x z : V) (hb : x.isBad = false) (hx : x.cells = [x]) (hc : x.cell = true) (hcap : capW by_ (n + 1) = true) :
    ∃ s g v' h', bsl 1 1 [(0, 1, x)] [z] e h = some (s, g) ∧ app 1 by_ e v s g = some (v', h') ∧ Own n0 1 e h' v' (n + 1) (cs ++ [x]) ∧ Old n0 h h' ∧ (∀ b, b < h.next → notIn v b → h'.get b = h.get b) := by
  obtain ⟨s, g, e1, o1, w1⟩ := bsl_own hw (z := 1) (n := 1) (e := e) (ps := [(0, 1, x)]) (zs := [z]) (cs := [x]) (by
    show fillW [(0, 1, x)] [z] = some [x]
    unfold fillW
    rw [if_pos ⟨hb, by rw [hx]; rfl, by simp⟩, hx]
    rfl) rfl (by simp [hc])
  obtain ⟨s1, s2⟩ := Own.src o1
  have ho1 : Own n0 1 e g v n cs := ho.mono hw w1.get
  obtain ⟨v', h', e2, o2, w2, w3, w4⟩ := app_own (by_ := by_) ho1 w1.wf (Nat.le_trans hn0 w1.next) (by omega) s1 s2 rfl (by simp [hc]) hcap
  exact ⟨s, g, v', h', e1, e2, o2, (w1.weak hn0).trans w2, fun b hb hv => (w3 b (Nat.lt_of_lt_of_le hb w1.next) hv).trans (w1.get b hb)⟩
theorem AllI.snoc {k : IntKind} {l : List V} (h : AllI k l) (n : Int) : AllI k (l ++ [.int k n]) := by
  intro v hv
  rcases List.mem_append.1 hv with hv | hv
  · exact h v hv
  · exact ⟨n, List.mem_singleton.1 hv⟩
theorem numbers_spec {F k : Nat} (hF : 1000 < F) {h : AH} (hw : h.WF) {l : V} {ss : List (List Nat)} (hl : Sl 1 h l ss.length (ss.map V.str)) (hlen : ss.length ≤ 1000) {bm n0 : Nat} (hm : Mp h bm) (hb : bm < h.next) (hn0 : n0 ≤ bm) (hnl : notIn l bm) :
    ∃ v h' cs, runC (EE F) (k + 1) n_diff_numbers [l, .mapv bm] h = some (v, h') ∧ Own h.next 1 T_int h' v ss.length cs ∧ AllI .i64 cs ∧ OldX n0 bm h h' ∧ Mp h' bm := by
  rw [at_diff_numbers]
  simp only [diff_numbers.fn, diff_numbers.c0, diff_numbers.k1, diff_numbers.c2, hl.len, bI_some, diff_numbers.k2]
  refine loop_rule (S := diff_numbers.P6) (out := fun x => ∃ v h' cs, x = some (v, h') ∧ Own h.next 1 T_int h' v ss.length cs ∧ AllI .i64 cs ∧ OldX n0 bm h h' ∧ Mp h' bm)
    (fun q s g => ∃ (i : Nat) (v : V) (cs : List V), i + q = ss.length ∧ s = (.mapv bm, v, l, (ss.length : Int), (i : Int), ()) ∧ Own h.next 1 T_int g v i cs ∧ AllI .i64 cs ∧ OldX n0 bm h g ∧ Mp g bm) ?_ ?_ ss.length F _ _
    ⟨0, .nilslice, [], by omega, rfl, own_nil _ _ _ _, (fun v hv => by cases hv), OldX.refl hw, hm⟩ (by omega)
  · rintro q s g n' ⟨i, v, cs, hi, rfl, ho, ha, ox, mp⟩
    refine .inl ?_
    have hlt : i < ss.length := by omega
    have hl1 : Sl 1 g l ss.length (ss.map V.str) := hl.keep fun b' hb' => by
      have hb2 : b' ≠ bm := fun e => hb' (e ▸ hnl)
      refine ox.get b' ?_ hb2
      exact Nat.lt_of_not_le fun hle => hb' (hl.notIn hw hle)
    obtain ⟨a, e1, e2⟩ := hl1.ix1 (i := (i : Int)) (by omega) (by omega) (x := .str ss[i]) (by rw [Int.toNat_natCast, List.getElem?_map, List.getElem?_eq_getElem hlt]; rfl)
    have e3 := ld_of e2
    have hbg : bm < g.next := Nat.lt_of_lt_of_le hb ox.next
    obtain ⟨z, t, m1, m2⟩ := map_spec ox.wf hbg mp ss[i]
    have x0 : ∀ a b : V, absExtract (.tuple [a, b]) 0 = some a := fun _ _ => rfl
    have x1 : ∀ a b : V, absExtract (.tuple [a, b]) 1 = some b := fun _ _ => rfl
    have hcap : capW 8 (i + 1) = true := by
      unfold capW
      rw [Bool.and_eq_true]
      exact ⟨Nat.ble_eq_true_of_le (by omega), Nat.ble_eq_true_of_le (by show (2 * (i + 1) + 128) * 8 ≤ _; omega)⟩
    have wi : IntKind.wrap .i64 ((i : Int) + 1) = ((i + 1 : Nat) : Int) := w1 (by omega)
    have fin : ∀ (g1 : AH) (y : Int), Own h.next 1 T_int g1 v i cs → OldX n0 bm h g1 → Mp g1 bm →
        ∃ s' h', diff_numbers.r9 (cx F k) (diff_numbers.r10 (cx F k) n' (diff_numbers.r11 (cx F k) diff_numbers.ret diff_numbers.ret) diff_numbers.ret) (diff_numbers.r10 (cx F k) n' (diff_numbers.r11 (cx F k) diff_numbers.ret diff_numbers.ret) diff_numbers.ret) (diff_numbers.r11 (cx F k) diff_numbers.ret diff_numbers.ret) diff_numbers.ret (.mapv bm, v, y, l, (ss.length : Int), (i : Int), ()) g1 = n' s' h' ∧
          ∃ (i : Nat) (v : V) (cs : List V), i + q = ss.length ∧ s' = (.mapv bm, v, l, (ss.length : Int), (i : Int), ()) ∧ Own h.next 1 T_int h' v i cs ∧ AllI .i64 cs ∧ OldX n0 bm h h' ∧ Mp h' bm := by
      intro g1 y ho1 ox1 mp1
      obtain ⟨s1, g2, v2, g3, r1, r2, r3, r4, r5⟩ := one_app (e := T_int) (by_ := 8) ox1.wf ho1 ox1.next (.int .i64 y) (.int .i64 0) rfl rfl rfl hcap
      have hbg1 : bm < g1.next := Nat.lt_of_lt_of_le hb ox1.next
      have r5' : ∀ b', b' < g1.next → notIn v b' → g3.get b' = g1.get b' := r5
      refine ⟨(.mapv bm, v2, l, (ss.length : Int), ((i + 1 : Nat) : Int), ()), g3, ?_, i + 1, v2, cs ++ [.int .i64 y], by omega, rfl, r3, ha.snoc y, ⟨Nat.le_trans ox1.next r4.next, fun b' hb' hne => (r4.get b' hb').trans (ox1.get b' hb' hne), by have := ox1.low; have := r4.low; omega, r4.wf⟩, mp1.mono (r4.get bm hb)⟩
      simp only [diff_numbers.r9, diff_numbers.c9, r1, cV_some, r2, diff_numbers.r10, diff_numbers.c10, wr, wi]
    cases t with
    | true =>
      obtain ⟨s', h', f1, f2⟩ := fin g z ho ox mp
      refine ⟨s', h', ?_, f2⟩
      rw [← f1]
      simp only [diff_numbers.l3, diff_numbers.c3, dec_lt, hlt, decide_true, diff_numbers.k3, cond_true, diff_numbers.r4, diff_numbers.c4, e1, bV_some, e3, bZ_some, m1, x0, x1, bI_some, bB_some, diff_numbers.k5, diff_numbers.c6, diff_numbers.k6, Bool.not_true, cond_false]
    | false =>
      obtain ⟨kk, k1, g1, k2, k3, k4⟩ := m2 rfl
      obtain ⟨s', h', f1, f2⟩ := fin g1 kk (Own.keepF ho fun b' hb' => k4.rest b' (by omega)) (ox.trans (OldX.of_wrote k4 hn0)) k3
      refine ⟨s', h', ?_, f2⟩
      rw [← f1]
      simp only [diff_numbers.l3, diff_numbers.c3, dec_lt, hlt, decide_true, diff_numbers.k3, cond_true, diff_numbers.r4, diff_numbers.c4, e1, bV_some, e3, bZ_some, m1, x0, x1, bI_some, bB_some, diff_numbers.k5, diff_numbers.c6, diff_numbers.k6, Bool.not_false, cond_true, diff_numbers.c7, k1, k2, bS_some]
  · rintro s g n' ⟨i, v, cs, hi, rfl, ho, ha, ox, mp⟩
    have hin : i = ss.length := by omega
    subst hin
    refine ⟨v, g, cs, ?_, ho, ha, ox, mp⟩
    simp only [diff_numbers.l3, diff_numbers.c3, dec_lt, Nat.lt_irrefl, decide_false, diff_numbers.k3, cond_false, diff_numbers.r11, diff_numbers.c11]
    rfl
end Go.Proofs.YtcphjmgfgfjnpaaGreatDoor
namespace Go.Proofs.YtcphjmgfgfjnpaaGreatDoor
open Go Ev
theorem own_cell {n0 z e : Nat} {h : AH} {v : V} {n : Nat} {cs : List V} (ho : Own n0 z e h v n cs) : v.isBad = false ∧ v.cells = [v] ∧ v.cell = true := by
  obtain ⟨_, ⟨_, rfl⟩ | ⟨b, cap, ex, rest, rfl, _⟩⟩ := ho <;> exact ⟨rfl, rfl, rfl⟩
theorem bld_two {v w z : V} (h1 : v.isBad = false ∧ v.cells = [v] ∧ v.cell = true) (h2 : w.isBad = false ∧ w.cells = [w] ∧ w.cell = true) : bld [(0, 1, v), (1, 1, w)] [z, z, z] = some (.agg [v, w, z]) := by
  have : fillW [(0, 1, v), (1, 1, w)] [z, z, z] = some [v, w, z] := by
    unfold fillW
    rw [if_pos ⟨h1.1, by rw [h1.2.1]; rfl, by simp⟩, h1.2.1]
    unfold fillW
    rw [if_pos ⟨h2.1, by rw [h2.2.1]; rfl, by simp [putL]⟩, h2.2.1]
    rfl
  unfold bld
  rw [this]; rfl
theorem AllI.set {k : IntKind} {l : List V} (h : AllI k l) (i : Nat) (n : Int) : AllI k (l.set i (.int k n)) := by
  intro v hv
  rcases List.mem_or_eq_of_mem_set hv with hv | hv
  · exact h v hv
  · exact ⟨n, hv⟩
structure LayI (h0 : AH) (nr b : Nat) (va vb vr : V) (n m : Nat) (g : AH) : Prop where
  own : ∃ cs, Own nr 1 T_int32 g vr ((n + 1) * (m + 1)) cs ∧ AllI .i32 cs
  pl : Cells g b T_diff_plane [va, vb, vr]
  sa : ∃ cs, Sl 1 g va n cs ∧ cs.length = n ∧ AllI .i64 cs
  sb : ∃ cs, Sl 1 g vb m cs ∧ cs.length = m ∧ AllI .i64 cs
  old : Old h0.next h0 g
  hb : b < nr
  ha : ∀ b', ¬ notIn va b' → b' < nr
  hbb : ∀ b', ¬ notIn vb b' → b' < nr
  hn : n ≤ 1000
  hm : m ≤ 1000
theorem LayI.toPl {h0 : AH} {nr b : Nat} {va vb vr : V} {n m : Nat} {g : AH} (x : LayI h0 nr b va vb vr n m g) : Pl g b va vb vr n m :=
  ⟨x.pl, x.sa, x.sb, let ⟨cs, h1, h2⟩ := x.own; ⟨cs, h1.sl, by have := h1.1; omega, h2⟩, x.hn, x.hm⟩
theorem LayI.put {h0 : AH} {nr b : Nat} {va vb vr : V} {n m : Nat} {g : AH} (x : LayI h0 nr b va vb vr n m g) (hnr : h0.next ≤ nr) {i : Nat} (hi : i < (n + 1) * (m + 1)) {a : A} (ha : ixS 1 vr (i : Int) = some (.ptr a)) (r : Int) :
    ∃ g', st 1 (.ptr a) (.int .i32 r) g = some g' ∧ LayI h0 nr b va vb vr n m g' := by
  obtain ⟨cs, h1, h2⟩ := x.own
  obtain ⟨a', g', e1, e2, e3, e4, e5⟩ := h1.set x.old.wf (i := (i : Int)) (by omega) (by omega) (w := .int .i32 r) rfl rfl
  obtain rfl : a = a' := V.ptr.inj (Option.some.inj (ha.symm.trans e1))
  have hl : cs.length = (n + 1) * (m + 1) := by have := h1.1; omega
  rw [Int.toNat_natCast, Nat.mul_one, show (V.int .i32 r).cells = [.int .i32 r] from rfl, putL_one _ _ _ (by omega)] at e3
  have fr : ∀ b', b' < nr → g'.get b' = g.get b' := fun b' hb' => e5 b' (h1.fresh hb')
  refine ⟨g', e2, ⟨_, e3, h2.set i r⟩, x.pl.mono (fr b x.hb), ?_, ?_, x.old.trans (e4.weak hnr), x.hb, x.ha, x.hbb, x.hn, x.hm⟩
  · obtain ⟨c, k1, k2, k3⟩ := x.sa
    exact ⟨c, k1.keep fun b' hb' => fr b' (x.ha b' hb'), k2, k3⟩
  · obtain ⟨c, k1, k2, k3⟩ := x.sb
    exact ⟨c, k1.keep fun b' hb' => fr b' (x.hbb b' hb'), k2, k3⟩
theorem dec_ge {z : Int} (h : 0 ≤ z) : decide (z ≥ 0) = true := decide_eq_true h
theorem dec_gt {n m : Nat} : decide ((n : Int) > (m : Int)) = decide (m < n) := by
  by_cases h : m < n
  · rw [decide_eq_true h, decide_eq_true (by omega)]
  · rw [decide_eq_false h, decide_eq_false (by omega)]
theorem lay_spec {F k : Nat} (hF : 2000 < F) {h : AH} (hw : h.WF) {x y : V} {ss ts : List (List Nat)} (hx : Sl 1 h x ss.length (ss.map V.str)) (hy : Sl 1 h y ts.length (ts.map V.str)) :
    runC (EE F) (k + 3) n_diff_lay [x, y] h = some (.tuple [.nilptr, .int .i64 2], h) ∨
    ∃ b h' va vb vr, runC (EE F) (k + 3) n_diff_lay [x, y] h = some (.tuple [.ptr ⟨b, 3, 0⟩, .int .i64 0], h') ∧ Pl h' b va vb vr ss.length ts.length ∧ Old h.next h h' := by
  rw [at_diff_lay]
  have cxC : (cx F (k + 2)).C = runC (EE F) (k + 2) := rfl
  have t1000 : (1000 : Int) = ((1000 : Nat) : Int) := rfl
  simp only [diff_lay.fn, diff_lay.c0, diff_lay.k0, diff_lay.c1, hx.len, hy.len, bI_some]
  rw [t1000]
  simp only [dec_gt]
  by_cases h1 : 1000 < ss.length
  · refine .inl ?_
    simp only [h1, decide_true, cond_true, diff_lay.k1, diff_lay.c2]
    rfl
  by_cases h2 : 1000 < ts.length
  · refine .inl ?_
    simp only [h1, h2, decide_true, decide_false, cond_false, cond_true, diff_lay.k1, diff_lay.c2]
    rfl
  refine .inr ?_
  simp only [h1, h2, decide_false, cond_false, diff_lay.k1, diff_lay.r3, diff_lay.c3]
  have hn : ss.length ≤ 1000 := by omega
  have hm : ts.length ≤ 1000 := by omega
  have em : absMakeMap PP h = some (.mapv h.next, h.add (Blk.obj 0 [.int .i64 0])) := rfl
  obtain ⟨h1', eh1⟩ : ∃ h1', h.add (Blk.obj 0 [.int .i64 0]) = h1' := ⟨_, rfl⟩
  have g1 : h1'.get h.next = some (Blk.obj 0 [.int .i64 0]) := by rw [← eh1, AH.get_add, if_pos rfl]
  have n1 : h1'.next = h.next + 1 := by rw [← eh1]; rfl
  have o1 : Old h.next h h1' := by
    rw [← eh1]
    refine ⟨Nat.le_succ _, fun b hb => by rw [AH.get_add, if_neg (by omega)], Nat.min_le_left _ _, ?_⟩
    intro b q hq
    rw [AH.get_add] at hq
    by_cases hb : b = h.next
    · subst hb; exact Nat.lt_succ_self _
    · rw [if_neg hb] at hq; exact Nat.lt_succ_of_lt (hw _ _ hq)
  have mp1 : Mp h1' h.next := ⟨0, [], mapOf_obj g1⟩
  rw [eh1] at em
  have nx : notIn x h.next := hx.notIn hw (Nat.le_refl _)
  have ny : notIn y h.next := hy.notIn hw (Nat.le_refl _)
  obtain ⟨v1, h2', cs1, e2, w2, a2, ox2, mp2⟩ := numbers_spec (F := F) (k := k + 1) (by omega) o1.wf (hx.old hw o1) hn mp1 (by omega) (Nat.le_refl _) nx
  have o2 : Old h.next h h2' := o1.trans (ox2.old (Nat.le_refl _) (by omega))
  obtain ⟨v2, h3', cs2, e3, w3, a3, ox3, mp3⟩ := numbers_spec (F := F) (k := k + 1) (by omega) ox2.wf (hy.old hw o2) hm mp2 (by have := ox2.next; omega) (Nat.le_refl _) ny
  have o3 : Old h.next h h3' := o2.trans (ox3.old (Nat.le_refl _) (by have := ox2.next; omega))
  have s1 : Sl 1 h3' v1 ss.length cs1 := w2.sl.keep fun b' hb' => ox3.get b' (Nat.lt_of_not_le fun hle => hb' (w2.sl.notIn ox2.wf hle)) (fun e => hb' (e ▸ w2.fresh (by omega)))
  have q1 := own_cell w2
  have q2 := own_cell w3
  obtain ⟨h4, e4, c4, n4, o4⟩ := box_cells ox3.wf [v1, v2, .nilslice] T_diff_plane (by show (v1.cell && (v2.cell && (V.nilslice.cell && true))) = true; rw [q1.2.2, q2.2.2]; rfl)
  have hmul : ((ss.length : Int) + 1) * ((ts.length : Int) + 1) = (((ss.length + 1) * (ts.length + 1) : Nat) : Int) := by simp
  have hbig : (ss.length + 1) * (ts.length + 1) ≤ 1001 * 1001 := Nat.mul_le_mul (by omega) (by omega)
  have u1 : IntKind.wrap .i64 ((ss.length : Int) + 1) = (ss.length : Int) + 1 := wr_i64 (by omega) (by omega)
  have u2 : IntKind.wrap .i64 ((ts.length : Int) + 1) = (ts.length : Int) + 1 := wr_i64 (by omega) (by omega)
  have u3 : IntKind.wrap .i64 (((ss.length : Int) + 1) * ((ts.length : Int) + 1)) = (((ss.length + 1) * (ts.length + 1) : Nat) : Int) := by
    rw [hmul]; exact wr_i64 (by omega) (by omega)
  obtain ⟨vr, h5, e5, w5, o5⟩ := mkS_own (by_ := 4) (e := T_int32) o4.wf (z := 1) (zs := [.int .i32 0]) rfl (by omega) rfl (l := (ss.length + 1) * (ts.length + 1)) (by omega) (by omega)
  have q5 := own_cell w5
  have c5 := c4.old o4.wf o5
  obtain ⟨h6, e6, c6, n6, l6, r6, wf6⟩ := c5.write o5.wf (L := 3) (o := 0 + 2) (vs := [vr]) rfl (by show (vr.cell && true) = true; rw [q5.2.2]; rfl) (by simp)
  have e6' : st 1 (.ptr ⟨h3'.next, 3, 0 + 2⟩) vr h5 = some h6 := st_of (by rw [q5.2.1]; rfl) (by rw [q5.2.1]; exact e6)
  have c6' : Cells h6 h3'.next T_diff_plane [v1, v2, vr] := c6
  have hz : AllI .i32 (List.replicate ((ss.length + 1) * (ts.length + 1)) [V.int .i32 0]).flatten := by
    intro v hv
    obtain ⟨l, hl, hv⟩ := List.mem_flatten.1 hv
    rw [List.eq_of_mem_replicate hl] at hv
    exact ⟨0, List.mem_singleton.1 hv⟩
  have o3n := o3.next
  have o4n := o4.next
  have hb6 : h3'.next < h4.next := by omega
  have L6 : LayI h h4.next h3'.next v1 v2 vr ss.length ts.length h6 := by
    refine ⟨⟨_, Own.keepF w5 fun b' hb' => r6 b' (by omega), hz⟩, c6', ?_, ?_, ?_, hb6, ?_, ?_, hn, hm⟩
    · refine ⟨cs1, (((s1.old ox3.wf o4).old o4.wf o5).keep fun b' hb' => r6 b' fun e => hb' (e ▸ s1.notIn ox3.wf (Nat.le_refl _))), by have := w2.1; omega, a2⟩
    · refine ⟨cs2, (((w3.sl.old ox3.wf o4).old o4.wf o5).keep fun b' hb' => r6 b' fun e => hb' (e ▸ w3.sl.notIn ox3.wf (Nat.le_refl _))), by have := w3.1; omega, a3⟩
    · exact ((o3.trans (o4.weak (by omega))).trans (o5.weak (by omega))).trans ⟨by rw [n6]; exact Nat.le_refl _, fun b' hb' => r6 b' (by omega), by rw [l6]; omega, wf6⟩
    · intro b' hb'
      have := Nat.lt_of_not_le fun hle => hb' (s1.notIn ox3.wf hle)
      omega
    · intro b' hb'
      have := Nat.lt_of_not_le fun hle => hb' (w3.sl.notIn ox3.wf hle)
      omega
  simp only [em, cV_some, cxC, e2, e3, bld_two q1 q2, bA_some, e4, hx.len, hy.len, bI_some, wr, u1, u2, u3, List.length_cons, List.length_nil, Nat.zero_add, Nat.reduceAdd]
  have e5' : mkS 1 4 [.int .i32 0] T_int32 (((ss.length + 1) * (ts.length + 1) : Nat) : Int) (((ss.length + 1) * (ts.length + 1) : Nat) : Int) h4 = some (vr, h5) := e5
  simp only [e5', cV_some, nilC, bV_some, fA_ptr, e6', bS_some, diff_lay.k5, diff_lay.c6, hx.len, bI_some, diff_lay.k6]
  refine loop_rule (S := diff_lay.P14) (out := fun r => ∃ b h' va vb vr, r = some (.tuple [.ptr ⟨b, 3, 0⟩, .int .i64 0], h') ∧ Pl h' b va vb vr ss.length ts.length ∧ Old h.next h h')
    (fun q s g => ∃ z : Int, z = (q : Int) - 1 ∧ q ≤ ss.length + 1 ∧ s = (y, .ptr ⟨h3'.next, 3, 0⟩, z, ()) ∧ LayI h h4.next h3'.next v1 v2 vr ss.length ts.length g) ?_ ?_ (ss.length + 1) F _ _ ⟨(ss.length : Int), by omega, Nat.le_refl _, rfl, L6⟩ (by omega)
  · rintro q s g n' ⟨z, hz1, hq, rfl, L⟩
    refine .inl ?_
    obtain rfl : z = (q : Int) := by omega
    simp only [diff_lay.l7, diff_lay.c7, dec_ge (show (0 : Int) ≤ (q : Int) by omega), diff_lay.k7, cond_true, diff_lay.r9, diff_lay.c9, hy.len, bI_some, diff_lay.k9]
    refine loop_rule (S := diff_lay.P20) (out := fun r => ∃ s' h', r = n' s' h' ∧ ∃ z : Int, z = (q : Int) - 1 ∧ q ≤ ss.length + 1 ∧ s' = (y, .ptr ⟨h3'.next, 3, 0⟩, z, ()) ∧ LayI h h4.next h3'.next v1 v2 vr ss.length ts.length h')
      (fun p s g => ∃ z : Int, z = (p : Int) - 1 ∧ p ≤ ts.length + 1 ∧ s = (y, .ptr ⟨h3'.next, 3, 0⟩, (q : Int), z, ()) ∧ LayI h h4.next h3'.next v1 v2 vr ss.length ts.length g) ?_ ?_ (ts.length + 1) F _ _ ⟨(ts.length : Int), by omega, Nat.le_refl _, rfl, L⟩ (by omega)
    · rintro p s g1 n'' ⟨z, hz2, hp, rfl, L1⟩
      refine .inl ?_
      obtain rfl : z = (p : Int) := by omega
      obtain ⟨a, f1, f2, _⟩ := at_spec L1.toPl F (k + 1) (x := q) (y := p) (by omega) (by omega)
      obtain ⟨r, f3⟩ := least_spec L1.toPl F k (x := q) (y := p) (by omega) (by omega)
      obtain ⟨g2, f4, L2⟩ := L1.put (by omega) (L1.toPl.spot (x := q) (y := p) (by omega) (by omega)) f2 r
      have wp : IntKind.wrap .i64 ((p : Int) - 1) = (p : Int) - 1 := wr_i64 (by omega) (by omega)
      refine ⟨(y, .ptr ⟨h3'.next, 3, 0⟩, (q : Int), (p : Int) - 1, ()), g2, ?_, (p : Int) - 1, rfl, by omega, rfl, L2⟩
      simp only [diff_lay.l10, diff_lay.c10, dec_ge (show (0 : Int) ≤ (p : Int) by omega), diff_lay.k10, cond_true, diff_lay.r12, diff_lay.c12, cxC, f1, cV_some, f3, cI_some, nilC, bV_some, f4, bS_some, diff_lay.r11, diff_lay.c11, wr, wp]
    · rintro s g1 n'' ⟨z, hz2, hp, rfl, L1⟩
      have hneg : decide (z ≥ 0) = false := decide_eq_false (by omega)
      have wq : IntKind.wrap .i64 ((q : Int) - 1) = (q : Int) - 1 := wr_i64 (by omega) (by omega)
      refine ⟨(y, .ptr ⟨h3'.next, 3, 0⟩, (q : Int) - 1, ()), g1, ?_, (q : Int) - 1, rfl, by omega, rfl, L1⟩
      simp only [diff_lay.l10, diff_lay.c10, hneg, diff_lay.k10, cond_false, diff_lay.r8, diff_lay.c8, wr, wq]
  · rintro s g n' ⟨z, hz1, hq, rfl, L⟩
    have hneg : decide (z ≥ 0) = false := decide_eq_false (by omega)
    refine ⟨h3'.next, g, v1, v2, vr, ?_, L.toPl, L.old⟩
    simp only [diff_lay.l7, diff_lay.c7, hneg, diff_lay.k7, cond_false, diff_lay.r13, diff_lay.c13]
    rfl
end Go.Proofs.YtcphjmgfgfjnpaaGreatDoor
namespace Go.Proofs.YtcphjmgfgfjnpaaGreatDoor
open Go Ev
def pt (p : Nat × Nat) : V := .complex .f64 (fb p.1) (fb p.2)
structure Chain (n m : Nat) (l : List (Nat × Nat)) : Prop where
  inp : ∀ p ∈ l, p.1 ≤ n ∧ p.2 ≤ m
  next : ∀ i p q, l[i]? = some p → l[i + 1]? = some q → ∃ dx dy, dx ≤ 1 ∧ dy ≤ 1 ∧ q = (p.1 + dx, p.2 + dy)
theorem Chain.snoc {n m : Nat} {l : List (Nat × Nat)} {p : Nat × Nat} (h : Chain n m (l ++ [p])) {dx dy : Nat} (h1 : dx ≤ 1) (h2 : dy ≤ 1) (h3 : p.1 + dx ≤ n) (h4 : p.2 + dy ≤ m) : Chain n m (l ++ [p] ++ [(p.1 + dx, p.2 + dy)]) := by
  refine ⟨fun q hq => ?_, fun i a c ha hc => ?_⟩
  · rcases List.mem_append.1 hq with hq | hq
    · exact h.inp q hq
    · rw [List.mem_singleton.1 hq]; exact ⟨h3, h4⟩
  · have hlt := (List.getElem?_eq_some_iff.1 hc).1
    rw [List.length_append, List.length_append] at hlt
    simp only [List.length_cons, List.length_nil] at hlt
    by_cases hi : i + 1 < (l ++ [p]).length
    · rw [List.getElem?_append_left (by omega)] at ha
      rw [List.getElem?_append_left hi] at hc
      exact h.next i a c ha hc
    · rw [List.length_append] at hi
      simp only [List.length_cons, List.length_nil] at hi
      have hi' : i = l.length := by omega
      subst hi'
      rw [List.getElem?_append_left (by simp), List.getElem?_append_right (Nat.le_refl _)] at ha
      simp only [Nat.sub_self, List.getElem?_cons_zero, Option.some.injEq] at ha
      rw [List.getElem?_append_right (by simp)] at hc
      simp only [List.length_append, List.length_cons, List.length_nil, Nat.zero_add, Nat.sub_self, List.getElem?_cons_zero, Option.some.injEq] at hc
      subst ha hc
      exact ⟨dx, dy, h1, h2, rfl⟩
theorem Pl.old {h h' : AH} {b : Nat} {va vb vr : V} {n m : Nat} (p : Pl h b va vb vr n m) (hw : h.WF) (o : Old h.next h h') : Pl h' b va vb vr n m :=
  ⟨p.pl.old hw o, let ⟨c, h1, h2⟩ := p.a; ⟨c, h1.old hw o, h2⟩, let ⟨c, h1, h2⟩ := p.b; ⟨c, h1.old hw o, h2⟩, let ⟨c, h1, h2⟩ := p.r; ⟨c, h1.old hw o, h2⟩, p.hn, p.hm⟩
theorem fadd {x d : Nat} (hx : x ≤ 1000) (hd : d ≤ 1) : FloatKind.f64.format.add (fb x) (fb d) = some (fb (x + d)) := by
  rcases (show d = 0 ∨ d = 1 by omega) with rfl | rfl
  · rw [fb0]; exact (ffacts hx).add0
  · rw [fb1]; exact (ffacts hx).add1
theorem cap16 {n : Nat} (h : n ≤ 5000) : capW 16 n = true := by
  unfold capW
  rw [Bool.and_eq_true]
  exact ⟨Nat.ble_eq_true_of_le (by omega), Nat.ble_eq_true_of_le (by show (2 * n + 128) * 16 ≤ _; omega)⟩
theorem way_spec {F k : Nat} (hF : 3000 < F) {h : AH} (hw : h.WF) {b : Nat} {va vb vr : V} {n m : Nat} (p : Pl h b va vb vr n m) :
    ∃ v h' l, runC (EE F) (k + 3) n_diff_plane_way [.ptr ⟨b, 3, 0⟩] h = some (v, h') ∧ Sl 1 h' v l.length (l.map pt) ∧ Old h.next h h' ∧ Chain n m l ∧ 1 ≤ l.length ∧ l.length ≤ 2001 := by
  rw [at_diff_plane_way]
  have cxC : (cx F (k + 2)).C = runC (EE F) (k + 2) := rfl
  have hn := p.hn
  have hm := p.hm
  obtain ⟨v1, h1, e1, o1, w1⟩ := bsl_own hw (z := 1) (n := 1) (e := T_complex128) (ps := [(0, 1, .complex .f64 0 0)]) (zs := [.complex .f64 0 0]) (cs := [.complex .f64 0 0]) (by kernel_rfl) rfl rfl
  have e00 : V.complex .f64 0 0 = pt (0, 0) := by unfold pt; rw [fb0]
  simp only [diff_plane_way.fn, diff_plane_way.c0, e1, cV_some, diff_plane_way.k2]
  rw [e00]
  refine loop_rule (S := diff_plane_way.P6) (out := fun r => ∃ v h' l, r = some (v, h') ∧ Sl 1 h' v l.length (l.map pt) ∧ Old h.next h h' ∧ Chain n m l ∧ 1 ≤ l.length ∧ l.length ≤ 2001)
    (fun q s g => ∃ (x y : Nat) (v : V) (l : List (Nat × Nat)), (n - x) + (m - y) ≤ q ∧ x ≤ n ∧ y ≤ m ∧ s = (.ptr ⟨b, 3, 0⟩, pt (x, y), v, ()) ∧ Own h.next 1 T_complex128 g v (l ++ [(x, y)]).length ((l ++ [(x, y)]).map pt) ∧ Chain n m (l ++ [(x, y)]) ∧ (l ++ [(x, y)]).length ≤ x + y + 1 ∧ Old h.next h g) ?_ ?_ (n + m) F _ _
    ⟨0, 0, v1, [], by omega, by omega, by omega, rfl, by rw [e00] at o1; exact o1, ⟨fun q hq => by rw [List.mem_singleton.1 hq]; exact ⟨Nat.zero_le _, Nat.zero_le _⟩, fun i a c ha hc => by simp at hc⟩, by simp, w1⟩ (by omega)
  · rintro q s g n' ⟨x, y, v, l, hq, hx, hy, rfl, o, c, hl, ol⟩
    have pg := p.old hw ol
    have nend : neW PP false T_complex128 (pt (x, y)) (.complex .f64 (fb n) (fb m)) = some (.bool !(decide (x = n) && decide (y = m))) := by
      show neW PP false T_complex128 (.complex .f64 (fb x) (fb y)) _ = _
      rw [cne, ford (by omega) (by omega), ford (by omega) (by omega)]
    by_cases hend : x = n ∧ y = m
    · refine .inr ⟨v, g, l ++ [(x, y)], ?_, o.sl, ol, c, by simp, by omega⟩
      simp only [diff_plane_way.l3, diff_plane_way.c3, cxC, end_spec pg, cV_some, nend, bB_some, diff_plane_way.k3]
      rw [decide_eq_true hend.1, decide_eq_true hend.2]
      rfl
    · refine .inl ?_
      have hb : (!(decide (x = n) && decide (y = m))) = true := by
        by_cases h1 : x = n
        · rw [decide_eq_true h1, decide_eq_false (fun h2 => hend ⟨h1, h2⟩)]; rfl
        · rw [decide_eq_false h1]; rfl
      obtain ⟨dx, dy, s1, s2, s3, s4, s5, s6⟩ := step_spec pg F k hx hy hend
      have ea : absBin PP .add T_complex128 (.tmp 0) (.tmp 0) (pt (x, y)) (.complex .f64 (fb dx) (fb dy)) = some (pt (x + dx, y + dy)) := cadd (fadd (by omega) s2) (fadd (by omega) s3)
      obtain ⟨t1, g2, v2, g3, r1, r2, r3, r4, _⟩ := one_app (e := T_complex128) (by_ := 16) ol.wf o ol.next (pt (x + dx, y + dy)) (.complex .f64 0 0) rfl rfl rfl (cap16 (by omega))
      refine ⟨(.ptr ⟨b, 3, 0⟩, pt (x + dx, y + dy), v2, ()), g3, ?_, x + dx, y + dy, v2, l ++ [(x, y)], by omega, by omega, by omega, rfl, ?_, c.snoc s2 s3 s4 s5, by rw [List.length_append]; simp only [List.length_cons, List.length_nil]; omega, ol.trans r4⟩
      · have s1' : runC (EE F) (k + 2) n_diff_plane_step [.ptr ⟨b, 3, 0⟩, pt (x, y)] g = some (.complex .f64 (fb dx) (fb dy), g) := s1
        simp only [diff_plane_way.l3, diff_plane_way.c3, cxC, end_spec pg, cV_some, nend, bB_some, hb, diff_plane_way.k3, cond_true, diff_plane_way.r4, diff_plane_way.c4, s1', ea, bV_some, r1, r2]
      · rw [List.length_append (bs := [(x + dx, y + dy)]), List.map_append (l₂ := [(x + dx, y + dy)])]
        exact r3
  · rintro s g n' ⟨x, y, v, l, hq, hx, hy, rfl, o, c, hl, ol⟩
    have pg := p.old hw ol
    have hxn : x = n := by omega
    have hym : y = m := by omega
    subst hxn hym
    have nend : neW PP false T_complex128 (pt (x, y)) (.complex .f64 (fb x) (fb y)) = some (.bool false) := by
      show neW PP false T_complex128 (.complex .f64 (fb x) (fb y)) _ = _
      rw [cne, ford (by omega) (by omega), ford (by omega) (by omega)]
      simp
    refine ⟨v, g, l ++ [(x, y)], ?_, o.sl, ol, c, by simp, by omega⟩
    simp only [diff_plane_way.l3, diff_plane_way.c3, cxC, end_spec pg, cV_some, nend, bB_some, diff_plane_way.k3]
    rfl
theorem Way_spec {F k : Nat} (hF : 3000 < F) {h : AH} (hw : h.WF) {x y : V} {ss ts : List (List Nat)} (hx : Sl 1 h x ss.length (ss.map V.str)) (hy : Sl 1 h y ts.length (ts.map V.str)) :
    (∃ h', runC (EE F) (k + 4) n_diff_Way [x, y] h = some (.tuple [.nilslice, .int .i64 2], h') ∧ Old h.next h h') ∨
    ∃ v h' l, runC (EE F) (k + 4) n_diff_Way [x, y] h = some (.tuple [v, .int .i64 0], h') ∧ Sl 1 h' v l.length (l.map pt) ∧ Old h.next h h' ∧ Chain ss.length ts.length l ∧ 1 ≤ l.length ∧ l.length ≤ 2001 ∧ ss.length ≤ 1000 ∧ ts.length ≤ 1000 := by
  rw [at_diff_Way]
  have cxC : (cx F (k + 3)).C = runC (EE F) (k + 3) := rfl
  have x0 : ∀ a b : V, absExtract (.tuple [a, b]) 0 = some a := fun _ _ => rfl
  have x1 : ∀ a b : V, absExtract (.tuple [a, b]) 1 = some b := fun _ _ => rfl
  rcases lay_spec (F := F) (k := k) (by omega) hw hx hy with e | ⟨b, h1, va, vb, vr, e, p, o⟩
  · refine .inl ⟨h, ?_, Old.refl hw _⟩
    simp only [diff_Way.fn, diff_Way.c0, cxC, e, cV_some, x0, x1, bV_some, bI_some, diff_Way.k1, diff_Way.c2]
    rw [show ((2 : Int) != 0) = true from rfl]
    simp only [diff_Way.k2, cond_true, diff_Way.c3]
    rfl
  · obtain ⟨v, h2, l, e2, s2, o2, c2, l1, l2⟩ := way_spec (F := F) (k := k) hF o.wf p
    refine .inr ⟨v, h2, l, ?_, s2, o.trans (o2.weak o.next), c2, l1, l2, p.hn, p.hm⟩
    simp only [diff_Way.fn, diff_Way.c0, cxC, e, cV_some, x0, x1, bV_some, bI_some, diff_Way.k1, diff_Way.c2]
    rw [show ((0 : Int) != 0) = false from rfl]
    simp only [diff_Way.k2, cond_false, diff_Way.r4, diff_Way.c4, cxC, e2, cV_some]
    rfl
end Go.Proofs.YtcphjmgfgfjnpaaGreatDoor
namespace Go.Proofs.YtcphjmgfgfjnpaaGreatDoor
open Go Ev
def LinesOK : Prop := ∀ (h : AH), h.WF → ∀ (p : V) (l : List Nat), Bs h p l → l.length ≤ 2000 → ∃ (v : V) (h' : AH) (ss : List (List Nat)), gLines [p] h = some (v, h') ∧ Sl 1 h' v ss.length (ss.map V.str) ∧ Old h.next h h' ∧ ∀ s ∈ ss, s.length ≤ 2000
theorem equal_spec {F k : Nat} {h : AH} {a b : V} {la lb : List Nat} (ha : Bs h a la) (hb : Bs h b lb) : runC (EE F) (k + 1) n_bytes_Equal [a, b] h = some (.bool (natsEq la lb), h) := by
  rw [at_bytes_Equal]
  simp -implicitDefEqProofs only [bytes_Equal.fn, bytes_Equal.c0, ha.toS, hb.toS, cZ_some]
  rfl
theorem fsub {x d : Nat} (hx : x ≤ 1000) (hd : d ≤ 1) : FloatKind.f64.format.sub (fb (x + d)) (fb x) = some (fb d) := by
  rcases (show d = 0 ∨ d = 1 by omega) with rfl | rfl
  · rw [fb0]; exact (ffacts hx).sub0
  · rw [fb1]; exact (ffacts hx).sub1
def LikeOut (la lb : List Nat) (h : AH) (x : Res) : Prop := ∃ (r : Int) (h' : AH), x = some (.int .i64 r, h') ∧ Old h.next h h' ∧ 0 ≤ r ∧ r ≤ 100 ∧ (r = 100 ↔ la = lb)
theorem like_tail {F k : Nat} {h g : AH} {a b : V} {la lb : List Nat} (ha : Bs h a la) (hb : Bs h b lb) (h0 : ¬ la.length = 0) (l1 : la.length ≤ 2000) (l2 : lb.length ≤ 2000) (hne : la ≠ lb) (o : Old h.next h g) {kept : Int} (k0 : 0 ≤ kept) (k1 : kept ≤ 10000000) :
    LikeOut la lb h (rename_Like.r16 (cx F k) rename_Like.ret rename_Like.ret (a, b, kept, ()) g) := by
  have w1' : IntKind.wrap .i64 ((la.length : Int) + (lb.length : Int)) = (la.length : Int) + (lb.length : Int) := wr_i64 (by omega) (by omega)
  have w2' : IntKind.wrap .i64 (200 * kept) = 200 * kept := wr_i64 (by omega) (by omega)
  have hpos : 0 ≤ (200 * kept).tdiv ((la.length : Int) + (lb.length : Int)) := Int.tdiv_nonneg (by omega) (by omega)
  have hle : (200 * kept).tdiv ((la.length : Int) + (lb.length : Int)) ≤ 200 * kept := Int.tdiv_le_self _ (by omega)
  have w3' : IntKind.wrap .i64 ((200 * kept).tdiv ((la.length : Int) + (lb.length : Int))) = (200 * kept).tdiv ((la.length : Int) + (lb.length : Int)) := wr_i64 (by omega) (by omega)
  have hz : ¬ (la.length : Int) + (lb.length : Int) = 0 := by omega
  refine ⟨imin ((200 * kept).tdiv ((la.length : Int) + (lb.length : Int))) 99, g, ?_, o, ?_, ?_, ?_⟩
  · simp -implicitDefEqProofs only [rename_Like.r16, rename_Like.c16, ha.1.len, hb.1.len, bI_some, wr, w1', w2', w3', if_neg hz]
    rfl
  · unfold imin; split <;> omega
  · unfold imin; split <;> omega
  · constructor
    · intro e
      unfold imin at e
      split at e <;> omega
    · intro e; exact absurd e hne
theorem like_spec (LO : LinesOK) {F k : Nat} (hF : 3000 < F) {h : AH} (hw : h.WF) {a b : V} {la lb : List Nat} (ha : Bs h a la) (hb : Bs h b lb) (l1 : la.length ≤ 2000) (l2 : lb.length ≤ 2000) :
    LikeOut la lb h (runC (EE F) (k + 5) n_rename_Like [a, b] h) := by
  rw [at_rename_Like]
  have cxC : (cx F (k + 4)).C = runC (EE F) (k + 4) := rfl
  simp -implicitDefEqProofs only [rename_Like.fn, rename_Like.c0, rename_Like.k0, rename_Like.c1, cxC, equal_spec ha hb, cB_some, rename_Like.k1]
  cases he : natsEq la lb with
  | true =>
    have hab : la = lb := by rw [natsEq_eq] at he; exact eq_of_beq he
    refine ⟨100, h, ?_, Old.refl hw _, by omega, by omega, fun _ => hab, fun _ => rfl⟩
    simp -implicitDefEqProofs only [cond_true, rename_Like.c2]
    rfl
  | false =>
    have hne : la ≠ lb := fun e => by rw [natsEq_eq, e] at he; simp at he
    have z0 : ∀ n : Nat, ((n : Int) == 0) = decide (n = 0) := fun n => beq_i (x := n) (n := 0)
    have zero : LikeOut la lb h (rename_Like.ret ((.int .i64 0), ()) h) := ⟨0, h, rfl, Old.refl hw _, by omega, by omega, fun e => by omega, fun e => absurd e hne⟩
    simp -implicitDefEqProofs only [cond_false, rename_Like.c3, ha.1.len, hb.1.len, bI_some, z0, rename_Like.k3]
    by_cases h1 : la.length = 0
    · simp -implicitDefEqProofs only [h1, decide_true, cond_true, rename_Like.c4]; exact zero
    by_cases h2 : lb.length = 0
    · simp -implicitDefEqProofs only [h1, h2, decide_true, decide_false, cond_true, cond_false, rename_Like.c4]; exact zero
    simp -implicitDefEqProofs only [h1, h2, decide_false, cond_false, rename_Like.r5, rename_Like.c5]
    obtain ⟨v1, g1, ss, e1, s1, o1, b1⟩ := LO h hw a la ha l1
    obtain ⟨v2, g2, ts, e2, s2, o2, b2⟩ := LO g1 o1.wf b lb (hb.old hw o1) l2
    have e1' : runC (EE F) (k + 4) n_diff_Lines [a] h = some (v1, g1) := (at_lines F (k + 3) [a] h).trans e1
    have e2' : runC (EE F) (k + 4) n_diff_Lines [b] g1 = some (v2, g2) := (at_lines F (k + 3) [b] g1).trans e2
    have s1' := s1.old o1.wf o2
    have og : Old h.next h g2 := o1.trans (o2.weak o1.next)
    have x0 : ∀ a b : V, absExtract (.tuple [a, b]) 0 = some a := fun _ _ => rfl
    have x1 : ∀ a b : V, absExtract (.tuple [a, b]) 1 = some b := fun _ _ => rfl
    simp -implicitDefEqProofs only [cxC, e1', e2', cV_some]
    rcases Way_spec (F := F) (k := k) hF o2.wf s1' s2 with ⟨g3, e3, o3⟩ | ⟨v3, g3, l, e3, s3, o3, c3, m1, m2, m3, m4⟩
    · simp -implicitDefEqProofs only [e3, cV_some, x0, x1, bV_some, bI_some, rename_Like.k6, rename_Like.c7]
      rw [show ((2 : Int) != 0) = true from rfl]
      simp -implicitDefEqProofs only [rename_Like.k7, cond_true, rename_Like.c8]
      exact ⟨0, g3, rfl, og.trans (o3.weak og.next), by omega, by omega, fun e => by omega, fun e => absurd e hne⟩
    · have og3 : Old h.next h g3 := og.trans (o3.weak og.next)
      have s1g := s1'.old o2.wf o3
      have wl : IntKind.wrap .i64 ((l.length : Int) - 1) = ((l.length - 1 : Nat) : Int) := by
        rw [wr_i64 (by omega) (by omega)]; omega
      simp -implicitDefEqProofs only [e3, cV_some, x0, x1, bV_some, bI_some, rename_Like.k6, rename_Like.c7]
      rw [show ((0 : Int) != 0) = false from rfl]
      simp -implicitDefEqProofs only [rename_Like.k7, cond_false, rename_Like.r9, rename_Like.c9, rename_Like.k9, rename_Like.c10, s3.len, bI_some, wr, wl, rename_Like.k10]
      refine loop_rule (S := rename_Like.P22) (out := LikeOut la lb h)
        (fun q s g => ∃ (i : Nat) (kept : Int), i + q = l.length - 1 ∧ s = (a, b, v1, v3, kept, ((l.length - 1 : Nat) : Int), (i : Int), ()) ∧ g = g3 ∧ 0 ≤ kept ∧ kept ≤ 2000 * (i : Int)) ?_ ?_ (l.length - 1) F _ _ ⟨0, 0, by omega, rfl, rfl, by omega, by omega⟩ (by omega)
      · rintro q s g n' ⟨i, kept, hi, rfl, rfl, k0, k1⟩
        refine .inl ?_
        have hlt : i < l.length - 1 := by omega
        have hp : l[i]? = some l[i] := List.getElem?_eq_getElem (by omega)
        have hq : l[i + 1]? = some l[i + 1] := List.getElem?_eq_getElem (by omega)
        obtain ⟨dx, dy, d1, d2, d3⟩ := c3.next i _ _ hp hq
        obtain ⟨in1, in2⟩ := c3.inp _ (List.getElem_mem (show i < l.length by omega))
        obtain ⟨in3, in4⟩ := c3.inp _ (List.getElem_mem (show i + 1 < l.length by omega))
        obtain ⟨a1, f1, f2⟩ := s3.ix1 (i := ((i + 1 : Nat) : Int)) (by omega) (by omega) (x := pt l[i + 1]) (by rw [Int.toNat_natCast, List.getElem?_map, hq]; rfl)
        obtain ⟨a2, f3, f4⟩ := s3.ix1 (i := (i : Int)) (by omega) (by omega) (x := pt l[i]) (by rw [Int.toNat_natCast, List.getElem?_map, hp]; rfl)
        have wi : IntKind.wrap .i64 ((i : Int) + 1) = ((i + 1 : Nat) : Int) := w1 (by omega)
        rw [d3] at f2
        have es : absBin PP .sub T_complex128 (.tmp 0) (.tmp 0) (pt (l[i].1 + dx, l[i].2 + dy)) (pt l[i]) = some (.complex .f64 (fb dx) (fb dy)) := csub (fsub (by omega) d1) (fsub (by omega) d2)
        have eq : eqW PP true T_complex128 (.complex .f64 (fb dx) (fb dy)) (.complex .f64 4607182418800017408 4607182418800017408) = some (.bool (decide (dx = 1) && decide (dy = 1))) := by
          rw [ceq, show (4607182418800017408 : Nat) = fb 1 from fb1.symm, ford (by omega) (by omega), ford (by omega) (by omega)]
        have i1 : ld (.ptr a1) g = some (pt (l[i].1 + dx, l[i].2 + dy)) := ld_of f2
        have i2 : ld (.ptr a2) g = some (pt l[i]) := ld_of f4
        by_cases hd : dx = 1 ∧ dy = 1
        · obtain ⟨rfl, rfl⟩ := hd
          have hx : l[i].1 < ss.length := by rw [d3] at in3; exact in3
          have hrd : ss[l[i].1]? = some ss[l[i].1] := List.getElem?_eq_getElem hx
          obtain ⟨a3, f5, f6⟩ := s1g.ix1 (i := ((l[i].1 : Nat) : Int)) (by omega) (by omega) (x := .str ss[l[i].1]) (by rw [Int.toNat_natCast, List.getElem?_map, hrd]; rfl)
          have i3 : ld (.ptr a3) g = some (.str ss[l[i].1]) := ld_of f6
          have hlen := b1 _ (List.getElem_mem hx)
          have pr : partOf .real [pt l[i]] = some (.float .f64 (fb l[i].1)) := rfl
          have wk : IntKind.wrap .i64 (kept + (ss[l[i].1].length : Int)) = kept + (ss[l[i].1].length : Int) := wr_i64 (by omega) (by omega)
          refine ⟨(a, b, v1, v3, kept + (ss[l[i].1].length : Int), ((l.length - 1 : Nat) : Int), ((i + 1 : Nat) : Int), ()), g, ?_, i + 1, kept + (ss[l[i].1].length : Int), by omega, rfl, rfl, by omega, by omega⟩
          simp -implicitDefEqProofs only [rename_Like.l11, rename_Like.c11, dec_lt, hlt, decide_true, rename_Like.k11, cond_true, rename_Like.r12, rename_Like.c12, wr, wi, f1, bV_some, i1, f3, i2, es, eq, bB_some, Bool.and_self, rename_Like.k13, rename_Like.c14, pr, cvt_fi (show l[i].1 ≤ 1000 by omega), cI_some, f5, i3, bZ_some, wk, rename_Like.r15, rename_Like.c15]
        · have hf : (decide (dx = 1) && decide (dy = 1)) = false := by
            by_cases h1 : dx = 1
            · rw [decide_eq_true h1, decide_eq_false (fun h2 => hd ⟨h1, h2⟩)]; rfl
            · rw [decide_eq_false h1]; rfl
          refine ⟨(a, b, v1, v3, kept, ((l.length - 1 : Nat) : Int), ((i + 1 : Nat) : Int), ()), g, ?_, i + 1, kept, by omega, rfl, rfl, by omega, by omega⟩
          simp -implicitDefEqProofs only [rename_Like.l11, rename_Like.c11, dec_lt, hlt, decide_true, rename_Like.k11, cond_true, rename_Like.r12, rename_Like.c12, wr, wi, f1, bV_some, i1, f3, i2, es, eq, hf, bB_some, rename_Like.k13, cond_false, rename_Like.r15, rename_Like.c15]
      · rintro s g n' ⟨i, kept, hi, rfl, rfl, k0, k1⟩
        have hin : i = l.length - 1 := by omega
        subst hin
        simp -implicitDefEqProofs only [rename_Like.l11, rename_Like.c11, dec_lt, Nat.lt_irrefl, decide_false, rename_Like.k11, cond_false]
        exact like_tail ha hb h1 l1 l2 hne og3 k0 (by omega)
end Go.Proofs.YtcphjmgfgfjnpaaGreatDoor
set_option maxRecDepth 100000
namespace Go.Proofs.YtcphjmgfgfjnpaaGreatDoor
open Go Ev
noncomputable abbrev fnL : Func := PP.funcs.getD 10 default
noncomputable abbrev fnS : Func := PP.funcs.getD 128 default
noncomputable abbrev fnI : Func := PP.funcs.getD 130 default
noncomputable abbrev XL : Code := cBody fnL
noncomputable abbrev XS : Code := cBody fnS
noncomputable abbrev XI0 : Code := cBody fnI
noncomputable def goL (n : Nat) (X : Code) (f : XF) (h : AH) (k : XK) : Res := xexec envL.c0 (envL.ops envL.c0) (xD envL n) false (envL.good 10) (envL.qt 10) 10 19 (envL.mask 10) envL.fuel X none f h k
noncomputable def goR (n : Nat) (g : Bool) (X : Code) (f : XF) (h : AH) (k : XK) : Res := xexec envL.c0 (envL.ops envL.c0) (xD envL n) true g (envL.qt 10) 10 19 (envL.mask 10) envL.fuel X none f h k
noncomputable def goS (n : Nat) (X : Code) (f : XF) (h : AH) (k : XK) : Res := xexec envL.c0 (envL.ops envL.c0) (xD envL n) false (envL.good 128) (envL.qt 128) 128 63 (envL.mask 128) envL.fuel X none f h k
noncomputable def goI (n : Nat) (X : Code) (f : XF) (h : AH) (k : XK) : Res := xexec envL.c0 (envL.ops envL.c0) (xD envL n) false (envL.good 130) (envL.qt 130) 130 200 (envL.mask 130) envL.fuel X none f h k
noncomputable def kL : XK := ⟨finX envL.c0 fnL, fun _ _ _ => none, fun _ _ _ => none, finX envL.c0 fnL⟩
noncomputable def kS : XK := ⟨finX envL.c0 fnS, fun _ _ _ => none, fun _ _ _ => none, finX envL.c0 fnS⟩
noncomputable def kI : XK := ⟨finX envL.c0 fnI, fun _ _ _ => none, fun _ _ _ => none, finX envL.c0 fnI⟩
theorem run60 (n : Nat) (s sep m : V) (h : AH) : xFn envL (xD envL n) 60 [s, sep, m] h = cV (absBox T_s_uint8 s h) fun b1 h => cV (absBox T_s_uint8 sep h) fun b2 h => cV (absBox T_int m h) fun b3 h => some (.func 128 [] [b2, b1, b3], h) := by kernel_rfl
theorem run31 (n : Nat) (s sep : V) (h : AH) : xFn envL (xD envL (n + 1)) 31 [s, sep] h = bV (lenS sep) h fun m h => cV (xFn envL (xD envL n) 60 [s, sep, m] h) fun v h => some (v, h) := by kernel_rfl
noncomputable def fI (s sep m : V) : XF := (((T.leaf.set 0 s).set 1 sep).set 4 (.int .i64 0)).set 5 m
theorem run130 (n : Nat) (s sep : V) (h : AH) : xFn envL (xD envL n) 130 [s, sep] h = bV (lenS sep) h fun m h => goI n (cAt [true, true] XI0) (fI s sep m) h kI := by kernel_rfl
theorem run130b (n : Nat) (s sep : V) (h : AH) : goI (n + 1) (cAt [true, true] XI0) (fI s sep (.int .i64 1)) h kI = bV (ixS 1 sep 0) h fun a h => bV (ld a h) h fun c h => cV (xFn envL (xD envL n) 176 [s, c] h) fun v h => some (v, h) := by kernel_rfl
theorem run176 (n : Nat) (s c : V) (h : AH) : xFn envL (xD envL n) 176 [s, c] h = cV (absIndexByte [s, c] h) fun v h => some (v, h) := by kernel_rfl
noncomputable def fL0 (p bl : V) : XF := ((T.leaf.set 0 p).set 2 .nilslice).set 3 bl
noncomputable def fL (p bl q : V) : XF := (fL0 p bl).set 8 q
noncomputable def kLr (n : Nat) : XK := ⟨fun f h => goL n (cAt [true, true, true] XL) f h kL, kL.exit, kL.goto, kL.ret⟩
noncomputable abbrev XR : Code := cAt [true, true, false] XL
noncomputable def rgOf : Code → Array Tmp × Code × Code
  | .rangeFunc _ ps a b => (ps, a, b)
  | _ => (#[], .skip, .skip)
noncomputable abbrev psL : Array Tmp := (rgOf (cAt [true, true] XR)).1
noncomputable abbrev asL : Code := (rgOf (cAt [true, true] XR)).2.1
noncomputable abbrev bdL : Code := (rgOf (cAt [true, true] XR)).2.2
def tmL (p bl q : V) : List V := [p, .bad, .nilslice, bl, .bad, .bad, .bad, .bad, q, .bad, .bad, .bad, .bad, .bad, .bad, .bad, .bad, .bad, .bad]
noncomputable def recL (p bl q : V) (st : Int) : Blk := Blk.obj 1 [.rcd 10 psL asL bdL, .tuple (tmL p bl q), .int .i64 st, .tuple []]
theorem runL0 (n : Nat) (p : V) (h0 : AH) : xFn envL (xD envL n) 10 [p] h0 = goL n XR (fL0 p (.ptr ⟨h0.next, 1, 0⟩)) (al [.nilslice] T_s_string h0).2 (kLr n) := by kernel_rfl
theorem runL1 (n : Nat) (p bl : V) (h : AH) (k : XK) : goL (n + 1) XR (fL0 p bl) h k = cV (bsl 1 1 [(0, 1, .int .u8 10)] [.int .u8 0] T_uint8 h) fun s h => cV (cvS T_uint8 s h) fun s h => cV (xFn envL (xD envL n) 31 [p, s] h) fun q h => goL (n + 1) (cAt [true] XR) (fL p bl q) h k := by kernel_rfl
theorem runL2 (n : Nat) (p bl b1 b2 b3 : V) (h : AH) (k : XK) : goL (n + 1) (cAt [true] XR) (fL p bl (.func 128 [] [b2, b1, b3])) h k = cV (xFn envL (xD envL n) 128 [.yield h.next, b2, b1, b3] (h.add (recL p bl (.func 128 [] [b2, b1, b3]) 0))) fun _ h2 => endX h.next h2 (fL p bl (.func 128 [] [b2, b1, b3])) ⟨k.norm, fun id' f h => bif Nat.beq id' 0 then k.norm f h else k.exit id' f h, k.goto, k.ret⟩ := by kernel_rfl
theorem runL3 (n : Nat) (p bl q : V) (h : AH) : (kLr n).norm (fL p bl q) h = bV (ld bl h) h fun v h => some (v, h) := by kernel_rfl
theorem roundA (n : Nat) (g : Bool) (f : XF) (h : AH) (k : XK) : goR n g asL f h k = k.norm (f.set 4 (getX f 9)) h := by kernel_rfl
theorem roundB (n : Nat) (g : Bool) (f : XF) (h : AH) (k : XK) : goR n g bdL f h k = bV (lenS (getX f 4)) h fun a h => bV (absBin PP .gtr T_int (.tmp 0) (.tmp 0) a (.int .i64 0)) h fun v h => (match getX (f.set 12 v) 12 with
    | .bool true => bV (ld (getX (f.set 12 v) 3) h) h fun a h => cV (toS (getX (f.set 12 v) 4) h) fun s h => cV (bsl 1 1 [(0, 1, s)] [.str []] T_string h) fun t h => cV (app 1 16 T_string a t h) fun u h => bS (st 1 (getX (f.set 12 v) 3) u h) fun h => k.norm (f.set 12 v) h
    | .bool false => k.norm (f.set 12 v) h
    | _ => none) := by kernel_rfl
noncomputable abbrev W0 : Code := cAt [true, false, true, true, true] XS
noncomputable abbrev W1 : Code := cAt [true] W0
noncomputable abbrev W2 : Code := cAt [true] W1
noncomputable abbrev W3 : Code := cAt [true] W2
noncomputable abbrev W4 : Code := cAt [true] W3
noncomputable def fS (y b2 b1 b3 : V) : XF := (((T.leaf.set 0 y).set 1 b2).set 2 b1).set 3 b3
noncomputable def kB (n : Nat) (nx : XF → AH → Res) : XK := ⟨nx, fun id f h => bif Nat.beq id 3 then nx f h else bif Nat.beq id 2 then goS n (cAt [true, true] XS) f h kS else none, fun _ _ _ => none, finX envL.c0 fnS⟩
theorem runS0 (n : Nat) (y b2 b1 b3 : V) (h : AH) : xFn envL (xD envL n) 128 [y, b2, b1, b3] h = bV (ld b2 h) h fun a h => bV (lenS a) h fun a h => bV (eqW PP true T_int a (.int .i64 0)) h fun v h => goS n (cAt [false, true] XS) ((fS y b2 b1 b3).set 11 v) h ⟨fun f h => goS n (cAt [true] XS) f h kS, kS.exit, kS.goto, kS.ret⟩ := by kernel_rfl
theorem runS1 (n : Nat) (y b2 b1 b3 : V) (h : AH) : goS n (cAt [false, true] XS) ((fS y b2 b1 b3).set 11 (.bool false)) h ⟨fun f h => goS n (cAt [true] XS) f h kS, kS.exit, kS.goto, kS.ret⟩ = goS n (cAt [true] XS) ((fS y b2 b1 b3).set 11 (.bool false)) h kS := by kernel_rfl
theorem codeS : cAt [true] XS = .seq (.block 2 (.loop (.block 3 W0))) (cAt [true, true] XS) := by kernel_rfl
theorem loopS (n : Nat) (w x : Code) (f : XF) (h : AH) : goS n (.seq (.block 2 (.loop (.block 3 w))) x) f h kS = loopN XF envL.fuel (fun f h nx => goS n w f h ⟨nx, fun id f h => bif Nat.beq id 3 then nx f h else bif Nat.beq id 2 then goS n x f h kS else none, fun _ _ _ => none, finX envL.c0 fnS⟩) f h := by
  unfold goS
  rw [xexec_seq_none, xexec_block, xexec_loop]
  have e : ∀ r : Res, onN none r = r := fun _ => rfl
  rw [e, e]
  refine congrArg (fun B => loopN XF envL.fuel B f h) (funext fun f => funext fun h => funext fun nx => ?_)
  rw [xexec_block, e]
  rfl
theorem goS_seq (n : Nat) (w w' : Code) (f : XF) (h : AH) (k : XK) : goS n (.seq w w') f h k = goS n w f h ⟨fun f h => goS n w' f h k, k.exit, k.goto, k.ret⟩ := by kernel_rfl
theorem codeW0 : W0 = .seq (cAt [false] W0) W1 := by kernel_rfl
theorem codeW2 : W2 = .seq (cAt [false] W2) W3 := by kernel_rfl
theorem runS2 (n : Nat) (f : XF) (h : AH) : goS n (cAt [true] XS) f h kS = loopN XF envL.fuel (fun f h nx => goS n W0 f h (kB n nx)) f h := by
  rw [codeS]
  exact loopS n W0 (cAt [true, true] XS) f h
theorem runS5' (n : Nat) (f : XF) (h : AH) (k : XK) : goS (n + 1) (cAt [false] W0) f h k = bV (ld (getX f 2) h) h fun a h => bV (ld (getX f 1) h) h fun b h => cV ((xD envL (n + 1)).C 130 [a, b] h) fun c h => k.norm (f.set 7 c) h := by kernel_rfl
theorem runS5 (n : Nat) (f : XF) (h : AH) (k : XK) : goS (n + 1) W0 f h k = bV (ld (getX f 2) h) h fun a h => bV (ld (getX f 1) h) h fun b h => cV ((xD envL (n + 1)).C 130 [a, b] h) fun c h => goS (n + 1) W1 (f.set 7 c) h k :=
  ((congrArg (fun X => goS (n + 1) X f h k) codeW0).trans (goS_seq _ _ _ _ _ _)).trans (runS5' _ _ _ _)
theorem runS6 (n : Nat) (f : XF) (h : AH) (k : XK) : goS n W1 f h k = bV (absBin PP .lss T_int (.tmp 0) (.tmp 0) (getX f 7) (.int .i64 0)) h fun v h => (match getX (f.set 34 v) 34 with
    | .bool true => k.exit 2 (f.set 34 v) h
    | .bool false => goS n W2 (f.set 34 v) h k
    | _ => none) := by kernel_rfl
theorem runS7' (n : Nat) (f : XF) (h : AH) (k : XK) : goS n (cAt [false] W2) f h k = bV (ld (getX f 2) h) h fun a h => bV (ld (getX f 3) h) h fun m h => bV (absBin PP .add T_int (.tmp 0) (.tmp 0) (getX f 7) m) h fun e h => bV (absSlice PP T_s_uint8 a none (some e) none h) h fun s h => k.norm (f.set 8 s) h := by kernel_rfl
theorem runS7 (n : Nat) (f : XF) (h : AH) (k : XK) : goS n W2 f h k = bV (ld (getX f 2) h) h fun a h => bV (ld (getX f 3) h) h fun m h => bV (absBin PP .add T_int (.tmp 0) (.tmp 0) (getX f 7) m) h fun e h => bV (absSlice PP T_s_uint8 a none (some e) none h) h fun s h => goS n W3 (f.set 8 s) h k :=
  ((congrArg (fun X => goS n X f h k) codeW2).trans (goS_seq _ _ _ _ _ _)).trans (runS7' _ _ _ _)
theorem runS8 (n br : Nat) (l r : XF) (h : AH) (k : XK) : goS (n + 1) W3 (.node l (some (.yield br)) r) h k = bV (lenS (getX (.node l (some (.yield br)) r) 8)) h fun a h => bV (lenS (getX (.node l (some (.yield br)) r) 8)) h fun b h => bV (absSlice PP T_s_uint8 (getX (.node l (some (.yield br)) r) 8) none (some a) (some b) h) h fun s h =>
    cV ((xD envL (n + 1)).Y br [s] h) fun y h => bV (absUn .not y) h fun v h => (match getX ((T.node l (some (V.yield br)) r).set 48 v) 48 with
    | .bool true => k.ret ((T.node l (some (V.yield br)) r).set 48 v) h
    | .bool false => goS (n + 1) W4 ((T.node l (some (V.yield br)) r).set 48 v) h k
    | _ => none) := by kernel_rfl
theorem runS9 (n : Nat) (f : XF) (h : AH) (k : XK) : goS n W4 f h k = bV (ld (getX f 2) h) h fun a h => bV (ld (getX f 1) h) h fun sp h => bV (lenS sp) h fun m h => bV (absBin PP .add T_int (.tmp 0) (.tmp 0) (getX f 7) m) h fun e h => bV (absSlice PP T_s_uint8 a (some e) none none h) h fun s h => bS (st 1 (getX f 2) s h) fun h => k.norm f h := by kernel_rfl
theorem runS10 (n br : Nat) (l r : XF) (h : AH) : goS (n + 1) (cAt [true, true] XS) (.node l (some (.yield br)) r) h kS = bV (ld (getX (.node l (some (.yield br)) r) 2) h) h fun a h => bV (ld (getX (.node l (some (.yield br)) r) 2) h) h fun b h => bV (lenS b) h fun b h => bV (ld (getX (.node l (some (.yield br)) r) 2) h) h fun c h => bV (lenS c) h fun c h =>
    bV (absSlice PP T_s_uint8 a none (some b) (some c) h) h fun s h => cV ((xD envL (n + 1)).Y br [s] h) fun y h => some (.tuple [], h) := by kernel_rfl
end Go.Proofs.YtcphjmgfgfjnpaaGreatDoor
set_option maxRecDepth 100000
namespace Go.Proofs.YtcphjmgfgfjnpaaGreatDoor
open Go Ev
theorem getX_set (f : XF) (i j : Nat) (v : V) : getX (f.set i v) j = if j = i then v else getX f j := by
  unfold getX
  rw [T.get_set]
  by_cases h : j = i
  · rw [if_pos h, if_pos h]; rfl
  · rw [if_neg h, if_neg h]
theorem getX_same (f : XF) (i : Nat) (v : V) : getX (f.set i v) i = v := by rw [getX_set, if_pos rfl]
theorem gtr_eq (x y : Int) : absBin PP .gtr T_int (.tmp 0) (.tmp 0) (.int .i64 x) (.int .i64 y) = some (.bool (decide (x > y))) := rfl
theorem lss_eq (x y : Int) : absBin PP .lss T_int (.tmp 0) (.tmp 0) (.int .i64 x) (.int .i64 y) = some (.bool (decide (x < y))) := rfl
theorem add_eq (x y : Int) : absBin PP .add T_int (.tmp 0) (.tmp 0) (.int .i64 x) (.int .i64 y) = some (.int .i64 (IntKind.wrap .i64 (x + y))) := rfl
structure TS (n0 : Nat) (T : List Nat) (g g' : AH) : Prop where
  next : g.next ≤ g'.next
  get : ∀ b, b < n0 + 6 → b ∉ T → g'.get b = g.get b
  low : min g.low n0 ≤ g'.low
  wf : g'.WF
theorem TS.trans {n0 : Nat} {T : List Nat} {a b c : AH} (x : TS n0 T a b) (y : TS n0 T b c) : TS n0 T a c :=
  ⟨Nat.le_trans x.next y.next, fun i hi ht => (y.get i hi ht).trans (x.get i hi ht), by have := x.low; have := y.low; omega, y.wf⟩
theorem TS.of_wrote {n0 : Nat} {T : List Nat} {g g' : AH} {b : Nat} (w : Wrote g g' b) (hb : b ∈ T) (hn : n0 ≤ b) : TS n0 T g g' :=
  ⟨by rw [w.next]; exact Nat.le_refl _, fun i _ ht => w.rest i (fun e => ht (e ▸ hb)), by rw [w.low]; omega, w.wf⟩
theorem TS.of_old {n0 : Nat} {T : List Nat} {g g' : AH} (o : Old (n0 + 6) g g') : TS n0 T g g' := ⟨o.next, fun i hi _ => o.get i hi, by have := o.low; omega, o.wf⟩
theorem TS.old {n0 : Nat} {T : List Nat} {g g' : AH} (o : TS n0 T g g') (hT : ∀ b ∈ T, n0 ≤ b) : Old n0 g g' := ⟨o.next, fun b hb => o.get b (by omega) (fun h => by have := hT b h; omega), o.low, o.wf⟩
noncomputable def qL (n0 : Nat) : V := .func 128 [] [.ptr ⟨n0 + 3, 1, 0⟩, .ptr ⟨n0 + 2, 1, 0⟩, .ptr ⟨n0 + 4, 1, 0⟩]
noncomputable def recS (p : V) (n0 : Nat) (st : Int) : Blk := recL p (.ptr ⟨n0, 1, 0⟩) (qL n0) st
def sepV (n0 : Nat) : V := .slice ⟨n0 + 1, 1, 0⟩ 1 1 true 1
structure LS (h0 g : AH) (p lv sv : V) (ss : List (List Nat)) (rest : List Nat) : Prop where
  old : Old h0.next h0 g
  nx : h0.next + 6 ≤ g.next
  l : Cells g h0.next T_s_string [lv]
  own : Own (h0.next + 6) 1 T_string g lv ss.length (ss.map V.str)
  sep : Cells g (h0.next + 1) T_uint8 [.int .u8 10]
  c1 : Cells g (h0.next + 2) T_s_uint8 [sv]
  c2 : Cells g (h0.next + 3) T_s_uint8 [sepV h0.next]
  c3 : Cells g (h0.next + 4) T_int [.int .i64 1]
  s : Bs h0 sv rest
  rc : g.get (h0.next + 5) = some (recS p h0.next 0)
theorem loop_of {g : AH} {p : V} {n0 b : Nat} {st : Int} (h : g.get b = some (recS p n0 st)) : loopOf g b = some (.rcd 10 psL asL bdL, .tuple (tmL p (.ptr ⟨n0, 1, 0⟩) (qL n0)), st, .tuple []) := by
  unfold loopOf
  rw [h]
  rfl
noncomputable def fR (p v : V) (n0 : Nat) : XF := iniM (envL.mask 10) (setPs psL.toList [v] (tmL p (.ptr ⟨n0, 1, 0⟩) (qL n0))) 0 .leaf
theorem yX_round {n : Nat} {g : AH} {p v : V} {n0 b : Nat} (h : g.get b = some (recS p n0 0)) : yX envL (xD envL n) b [v] g =
    goR n (drawsOK PP (envL.qt 10) asL) asL (fR p v n0) g ⟨fun f1 h1 => beginX b h1 fun h2 => goR n (drawsOK PP (envL.qt 10) bdL) bdL f1 h2
      ⟨fun _ h3 => endR b 0 (.tuple []) true h3, fun id _ h3 => endR b 2 (.tuple [.int .u8 id]) false h3, fun l _ h3 => endR b 2 (.tuple [.int .u16 l]) false h3, fun _ h3 => endR b 2 (.tuple [.bool true]) false h3⟩,
      fun _ _ _ => none, fun _ _ _ => none, fun _ _ => none⟩ := by
  unfold yX
  rw [loop_of h]
  kernel_rfl
theorem fR9 (p v : V) (n0 : Nat) : getX (fR p v n0) 9 = v := by kernel_rfl
theorem fR3 (p v : V) (n0 : Nat) : getX (fR p v n0) 3 = .ptr ⟨n0, 1, 0⟩ := by kernel_rfl
theorem cap16s {n : Nat} (h : n ≤ 5000) : capW 16 n = true := cap16 h
theorem round_spec {n : Nat} {h0 g : AH} {p lv sv v : V} {ss : List (List Nat)} {rest frag : List Nat} (L : LS h0 g p lv sv ss rest) (hv : Bs h0 v frag) (hw0 : h0.WF) (hlen : ss.length ≤ 4000) :
    ∃ g' lv', yX envL (xD envL n) (h0.next + 5) [v] g = some (.bool true, g') ∧ LS h0 g' p lv' sv (if frag = [] then ss else ss ++ [frag]) rest := by
  have hb5 : h0.next + 5 < g.next := by have := L.nx; omega
  rw [yX_round L.rc, roundA, fR9]
  simp only [beginX, loop_of L.rc]
  obtain ⟨g1, eg1⟩ : ∃ g1, putLoop g (h0.next + 5) (.rcd 10 psL asL bdL) (.tuple (tmL p (.ptr ⟨h0.next, 1, 0⟩) (qL h0.next))) 1 (.tuple []) = g1 := ⟨_, rfl⟩
  rw [eg1]
  have w1 : Wrote g g1 (h0.next + 5) := by rw [← eg1]; exact AH.put_wrote L.old.wf hb5 _
  have r1 : g1.get (h0.next + 5) = some (recS p h0.next 1) := by rw [← eg1]; exact (AH.get_put _ _ _ _).trans (if_pos rfl)
  have t1 : TS h0.next [h0.next, h0.next + 5] g g1 := TS.of_wrote w1 (by simp) (by omega)
  have o1 : Old h0.next h0 g1 := L.old.trans (t1.old (fun b hb => by simp at hb; omega))
  have hv1 : Bs g1 v frag := hv.old hw0 o1
  have fin : ∀ (g2 : AH) (lv' : V) (ss' : List (List Nat)), TS h0.next [h0.next, h0.next + 5] g g2 → g2.get (h0.next + 5) = some (recS p h0.next 1) → Cells g2 h0.next T_s_string [lv'] → Own (h0.next + 6) 1 T_string g2 lv' ss'.length (ss'.map V.str) →
      ∃ g', endR (h0.next + 5) 0 (.tuple []) true g2 = some (.bool true, g') ∧ LS h0 g' p lv' sv ss' rest := by
    intro g2 lv' ss' t2 r2 c2 ow
    have hb2 : h0.next + 5 < g2.next := Nat.lt_of_lt_of_le hb5 t2.next
    obtain ⟨g3, eg3⟩ : ∃ g3, putLoop g2 (h0.next + 5) (.rcd 10 psL asL bdL) (.tuple (tmL p (.ptr ⟨h0.next, 1, 0⟩) (qL h0.next))) 0 (.tuple []) = g3 := ⟨_, rfl⟩
    have w3 : Wrote g2 g3 (h0.next + 5) := by rw [← eg3]; exact AH.put_wrote t2.wf hb2 _
    have t3 : TS h0.next [h0.next, h0.next + 5] g g3 := t2.trans (TS.of_wrote w3 (by simp) (by omega))
    have kp : ∀ b, b < h0.next + 6 → b ≠ h0.next → b ≠ h0.next + 5 → g3.get b = g.get b := fun b h1 h2 h3 => t3.get b h1 (by simp [h2, h3])
    refine ⟨g3, ?_, ⟨L.old.trans (t3.old (fun b hb => by simp at hb; omega)), by have := t3.next; have := L.nx; omega, c2.mono (w3.rest _ (by omega)), Own.keepF ow (fun b hb => w3.rest b (by omega)), L.sep.mono (kp _ (by omega) (by omega) (by omega)), L.c1.mono (kp _ (by omega) (by omega) (by omega)), L.c2.mono (kp _ (by omega) (by omega) (by omega)), L.c3.mono (kp _ (by omega) (by omega) (by omega)), L.s, ?_⟩⟩
    · unfold endR
      rw [loop_of r2]
      simp only [eg3]
    · rw [← eg3]; exact (AH.get_put _ _ _ _).trans (if_pos rfl)
  have lc1 : Cells g1 h0.next T_s_string [lv] := L.l.mono (w1.rest _ (by omega))
  have ow1 : Own (h0.next + 6) 1 T_string g1 lv ss.length (ss.map V.str) := Own.keepF L.own (fun b hb => w1.rest b (by omega))
  rw [roundB, getX_same, hv1.1.len]
  simp -implicitDefEqProofs only [bV_some, gtr_eq, getX_same]
  by_cases hf : frag = []
  · rw [if_pos hf]
    have : decide (((frag.length : Nat) : Int) > 0) = false := by rw [hf]; rfl
    rw [this]
    obtain ⟨g', e1, e2⟩ := fin g1 lv ss t1 r1 lc1 ow1
    exact ⟨g', lv, e1, e2⟩
  · rw [if_neg hf]
    have : decide (((frag.length : Nat) : Int) > 0) = true := decide_eq_true (by have := List.length_pos_iff.2 hf; omega)
    rw [this]
    obtain ⟨t, g2, u, g3, r1', r2', r3', r4', _⟩ := one_app (e := T_string) (by_ := 16) o1.wf ow1 (by have := t1.next; have := L.nx; omega) (.str frag) (.str []) rfl rfl rfl (cap16s (by omega))
    have lc3 := lc1.mono (r4'.get h0.next (by omega))
    have q3 := own_cell r3'
    obtain ⟨g4, w4a, w4b, w4c, w4d, w4e, w4f⟩ := lc3.write r4'.wf (L := 1) (o := 0) (vs := [u]) rfl (by show (u.cell && true) = true; rw [q3.2.2]; rfl) (by simp)
    have e4 : st 1 (.ptr ⟨h0.next, 1, 0⟩) u g3 = some g4 := st_of (by rw [q3.2.1]; rfl) (by rw [q3.2.1]; exact w4a)
    have w4 : Wrote g3 g4 h0.next := ⟨w4c, w4d, w4e, w4f⟩
    have t4 : TS h0.next [h0.next, h0.next + 5] g g4 := (t1.trans (TS.of_old r4')).trans (TS.of_wrote w4 (by simp) (Nat.le_refl _))
    have hld : ld (.ptr ⟨h0.next, 1, 0⟩) g1 = some lv := ld_of (lc1.read1 rfl rfl)
    obtain ⟨g', e1, e2⟩ := fin g4 u (ss ++ [frag]) t4 ((w4.rest _ (by omega)).trans ((r4'.get _ (by omega)).trans r1)) w4b (by
      have := Own.keepF r3' (fun b hb => w4.rest b (by omega))
      rw [List.length_append, List.map_append]
      exact this)
    refine ⟨g', u, ?_, e2⟩
    have g12 : getX (((fR p v h0.next).set 4 v).set 12 (.bool true)) 3 = .ptr ⟨h0.next, 1, 0⟩ := by rw [getX_set, if_neg (by omega), getX_set, if_neg (by omega), fR3]
    have g4' : getX (((fR p v h0.next).set 4 v).set 12 (.bool true)) 4 = v := by rw [getX_set, if_neg (by omega), getX_same]
    rw [g12, g4']
    simp -implicitDefEqProofs only [hld, bV_some, hv1.toS, cV_some, r1', r2', e4, bS_some]
    exact e1
end Go.Proofs.YtcphjmgfgfjnpaaGreatDoor
set_option maxRecDepth 100000
namespace Go.Proofs.YtcphjmgfgfjnpaaGreatDoor
open Go Ev
theorem slice_hi (v : V) (u : Int) (h : AH) : absSlice PP T_s_uint8 v none (some (.int .i64 u)) none h = slS 1 v none (some (.int .i64 u)) none := by
  have hu : PP.underlying T_s_uint8 = some (.slice T_uint8) := by kernel_rfl
  have hc : PP.cellsOf T_uint8 = 1 := by kernel_rfl
  have hi : (PP.info? T_uint8).isSome = true := by kernel_rfl
  cases v <;> first | (simp only [absSlice, hu, hc, hi, slS]; done) | (simp only [absSlice, hu, hc, hi, slS]; rfl)
theorem slice_lo (v : V) (u : Int) (h : AH) : absSlice PP T_s_uint8 v (some (.int .i64 u)) none none h = slS 1 v (some (.int .i64 u)) none none := by
  have hu : PP.underlying T_s_uint8 = some (.slice T_uint8) := by kernel_rfl
  have hc : PP.cellsOf T_uint8 = 1 := by kernel_rfl
  have hi : (PP.info? T_uint8).isSome = true := by kernel_rfl
  cases v <;> first | (simp only [absSlice, hu, hc, hi, slS]; done) | (simp only [absSlice, hu, hc, hi, slS]; rfl)
theorem bnd_self (n : Nat) (d : Nat) : bnd (some (.int .i64 (n : Int))) d n = some n := by
  show (if 0 ≤ (n : Int) ∧ (n : Int) ≤ n then some (n : Int).toNat else none) = _
  rw [if_pos (by omega)]; simp
theorem bnd_le {n m : Nat} (d : Nat) (h : n ≤ m) : bnd (some (.int .i64 (n : Int))) d m = some n := by
  show (if 0 ≤ (n : Int) ∧ (n : Int) ≤ m then some (n : Int).toNat else none) = _
  rw [if_pos (by omega)]; simp
theorem full_cut {h : AH} {v : V} {l : List Nat} (hb : Bs h v l) (h' : AH) : ∃ v', absSlice PP T_s_uint8 v none (some (.int .i64 (l.length : Int))) (some (.int .i64 (l.length : Int))) h' = some v' ∧ Bs h v' l := by
  have hu : PP.underlying T_s_uint8 = some (.slice T_uint8) := by kernel_rfl
  have hc : PP.cellsOf T_uint8 = 1 := by kernel_rfl
  have hi : (PP.info? T_uint8).isSome = true := by kernel_rfl
  obtain ⟨⟨h1, ⟨h2, h3⟩ | ⟨a, cap, ex, rfl, h3, h4⟩⟩, h5⟩ := hb
  · have b0 : bnd (some (.int .i64 (l.length : Int))) 0 0 = some 0 := by rw [h2]; exact bnd_le 0 (Nat.le_refl 0)
    have bn : bnd none 0 0 = some 0 := rfl
    rcases h3 with rfl | rfl
    · refine ⟨.nilslice, ?_, ⟨h1, .inl ⟨h2, .inl rfl⟩⟩, h5⟩
      simp only [absSlice, hu, b0, bn, hi, if_true]
    · refine ⟨.loose, ?_, ⟨h1, .inl ⟨h2, .inr rfl⟩⟩, h5⟩
      simp only [absSlice, hu, b0, bn, hi, if_true]
  · have bn : bnd none 0 l.length = some 0 := rfl
    have e : absSlice PP T_s_uint8 (.slice a l.length cap ex 1) none (some (.int .i64 (l.length : Int))) (some (.int .i64 (l.length : Int))) h' = some (if l.length = 0 then .slice a (l.length - 0) (l.length - 0) true 1 else .slice ⟨a.b, a.L, a.o + 0 * 1⟩ (l.length - 0) (l.length - 0) true 1) := by
      simp only [absSlice, hu, hc, hi, and_self, if_true, cutV, bnd_le 0 h3, bnd_self, bn]
    refine ⟨.slice a l.length l.length true 1, ?_, ⟨h1, .inr ⟨a, l.length, true, rfl, Nat.le_refl _, h4⟩⟩, h5⟩
    rw [e]
    simp
theorem idx_spec (c : Nat) : ∀ (l : List Nat) (i : Nat), idxN c l i = -1 ∨ ∃ k, k < l.length ∧ idxN c l i = ((i + k : Nat) : Int) := by
  intro l
  induction l with
  | nil => intro i; exact .inl rfl
  | cons b l ih =>
    intro i
    rw [idxN_cons]
    cases Nat.beq b c with
    | true => exact .inr ⟨0, by simp, rfl⟩
    | false =>
      rcases ih (i + 1) with h | ⟨k, h1, h2⟩
      · exact .inl h
      · exact .inr ⟨k + 1, by simp; omega, by show idxN c l (i + 1) = _; rw [h2]; congr 1; omega⟩
theorem Bs.bytes {h : AH} {v : V} {l : List Nat} (hb : Bs h v l) : bytesV v h = some l := by
  obtain ⟨⟨h1, ⟨h2, h3⟩ | ⟨a, cap, ex, rfl, h3, h4⟩⟩, h5⟩ := hb
  · obtain rfl : l = [] := List.eq_nil_of_length_eq_zero h2
    rcases h3 with rfl | rfl <;> rfl
  · rw [Nat.mul_one] at h4
    show (readN h a l.length).bind toBytes = some l
    rw [h4]
    exact toBytes_byteL h5
theorem bs_cell {h : AH} {v : V} {l : List Nat} (hb : Bs h v l) : v.isBad = false ∧ v.cells = [v] ∧ v.cell = true := by
  obtain ⟨⟨_, ⟨_, rfl | rfl⟩ | ⟨a, cap, ex, rfl, _, _⟩⟩, _⟩ := hb <;> exact ⟨rfl, rfl, rfl⟩
theorem xD_C (n f : Nat) (args : List V) (h : AH) : (xD envL (n + 1)).C f args h = xFn envL (xD envL n) f args h := rfl
theorem xD_Y (n b : Nat) (args : List V) (h : AH) : (xD envL (n + 1)).Y b args h = yX envL (xD envL n) b args h := rfl
theorem LS.lensep {h0 g : AH} {p lv sv : V} {ss : List (List Nat)} {rest : List Nat} (L : LS h0 g p lv sv ss rest) : lenS (sepV h0.next) = some (.int .i64 1) := rfl
theorem index_spec {n : Nat} {h0 g : AH} {p lv sv : V} {ss : List (List Nat)} {rest : List Nat} (hw : h0.WF) (L : LS h0 g p lv sv ss rest) : (xD envL (n + 3)).C 130 [sv, sepV h0.next] g = some (.int .i64 (idxN 10 rest 0), g) := by
  rw [xD_C, run130, L.lensep, bV_some, run130b]
  have e1 : ixS 1 (sepV h0.next) 0 = some (.ptr ⟨h0.next + 1, 1, 0⟩) := rfl
  have e2 : ld (.ptr ⟨h0.next + 1, 1, 0⟩) g = some (.int .u8 10) := ld_of (L.sep.read1 rfl rfl)
  have e3 : absIndexByte [sv, .int .u8 10] g = some (.int .i64 (idxN 10 rest 0), g) := by
    show (bytesV sv g).map _ = _
    rw [Bs.bytes (L.s.old hw L.old)]
    rfl
  rw [e1, bV_some, e2, bV_some, run176, e3]
  rfl
theorem LS.write {h0 g : AH} {p lv sv : V} {ss : List (List Nat)} {rest : List Nat} (L : LS h0 g p lv sv ss rest) {sv' : V} {rest' : List Nat} (hb : Bs h0 sv' rest') : ∃ g', st 1 (.ptr ⟨h0.next + 2, 1, 0⟩) sv' g = some g' ∧ LS h0 g' p lv sv' ss rest' := by
  have q := bs_cell hb
  obtain ⟨g', w1, w2, w3, w4, w5, w6⟩ := L.c1.write L.old.wf (L := 1) (o := 0) (vs := [sv']) rfl (by show (sv'.cell && true) = true; rw [q.2.2]; rfl) (by simp)
  have e : st 1 (.ptr ⟨h0.next + 2, 1, 0⟩) sv' g = some g' := st_of (by rw [q.2.1]; rfl) (by rw [q.2.1]; exact w1)
  have w : Wrote g g' (h0.next + 2) := ⟨w3, w4, w5, w6⟩
  have t : TS h0.next [h0.next + 2] g g' := TS.of_wrote w (by simp) (by omega)
  exact ⟨g', e, L.old.trans (t.old (fun b hb => by simp at hb; omega)), by have := t.next; have := L.nx; omega, L.l.mono (w.rest _ (by omega)), Own.keepF L.own (fun b hb => w.rest b (by omega)), L.sep.mono (w.rest _ (by omega)), w2, L.c2.mono (w.rest _ (by omega)), L.c3.mono (w.rest _ (by omega)), hb, (w.rest _ (by omega)).trans L.rc⟩
structure FF (n0 : Nat) (f : XF) : Prop where
  y : getX f 0 = .yield (n0 + 5)
  s1 : getX f 1 = .ptr ⟨n0 + 3, 1, 0⟩
  s2 : getX f 2 = .ptr ⟨n0 + 2, 1, 0⟩
  s3 : getX f 3 = .ptr ⟨n0 + 4, 1, 0⟩
theorem FF.set {n0 : Nat} {f : XF} (F : FF n0 f) (i : Nat) (v : V) (hi : 4 ≤ i) : FF n0 (f.set i v) :=
  ⟨by rw [getX_set, if_neg (by omega)]; exact F.y, by rw [getX_set, if_neg (by omega)]; exact F.s1, by rw [getX_set, if_neg (by omega)]; exact F.s2, by rw [getX_set, if_neg (by omega)]; exact F.s3⟩
theorem FF.node {n0 : Nat} {f : XF} (F : FF n0 f) : ∃ l r, f = .node l (some (.yield (n0 + 5))) r := by
  have h := F.y
  cases f with
  | leaf => rw [getX_leaf] at h; cases h
  | node l o r =>
    have e : getX (.node l o r) 0 = orUndef o := by kernel_rfl
    rw [e] at h
    cases o with
    | none => cases h
    | some v => exact ⟨l, r, by rw [show v = .yield (n0 + 5) from h]⟩
def IterOut (h0 : AH) (p : V) (x : Res) : Prop := ∃ (g' : AH) (lv sv : V) (ss : List (List Nat)) (rest : List Nat), x = some (.tuple [], g') ∧ LS h0 g' p lv sv ss rest ∧ ∀ s ∈ ss, s.length ≤ 2000
theorem last_piece {n : Nat} {h0 g : AH} {p lv sv : V} {ss : List (List Nat)} {rest : List Nat} (hw : h0.WF) (L : LS h0 g p lv sv ss rest) (hl : ss.length ≤ 4000) (hr : rest.length ≤ 2000) (hs : ∀ s ∈ ss, s.length ≤ 2000) {f : XF} (F : FF h0.next f) :
    IterOut h0 p (goS (n + 1) (cAt [true, true] XS) f g kS) := by
  obtain ⟨l, r, rfl⟩ := F.node
  have hld : ld (.ptr ⟨h0.next + 2, 1, 0⟩) g = some sv := ld_of (L.c1.read1 rfl rfl)
  obtain ⟨v', e1, e2⟩ := full_cut L.s g
  obtain ⟨g', lv', e3, L'⟩ := round_spec (n := n) L e2 hw hl
  refine ⟨g', lv', sv, _, rest, ?_, L', ?_⟩
  · rw [runS10, F.s2]
    simp -implicitDefEqProofs only [hld, bV_some, L.s.1.len, e1, xD_Y, e3, cV_some]
  · intro s hs'
    split at hs'
    · exact hs s hs'
    · rcases List.mem_append.1 hs' with h | h
      · exact hs s h
      · rw [List.mem_singleton.1 h]; exact hr
theorem iter_spec {n : Nat} {h0 g : AH} {p lv sv : V} {ss : List (List Nat)} {rest : List Nat} (hw : h0.WF) (L : LS h0 g p lv sv ss rest) (hl : ss.length ≤ 4000) (hr : rest.length ≤ 2000) (hs : ∀ s ∈ ss, s.length ≤ 2000) {f : XF} (F : FF h0.next f) (nx : XF → AH → Res) :
    IterOut h0 p (goS (n + 3) W0 f g (kB (n + 3) nx)) ∨
    ∃ f' g' lv' sv' ss' rest', goS (n + 3) W0 f g (kB (n + 3) nx) = nx f' g' ∧ FF h0.next f' ∧ LS h0 g' p lv' sv' ss' rest' ∧ rest'.length < rest.length ∧ ss'.length ≤ ss.length + 1 ∧ ∀ s ∈ ss', s.length ≤ 2000 := by
  have ldb1 : ld (.ptr ⟨h0.next + 2, 1, 0⟩) g = some sv := ld_of (L.c1.read1 rfl rfl)
  have ldb2 : ld (.ptr ⟨h0.next + 3, 1, 0⟩) g = some (sepV h0.next) := ld_of (L.c2.read1 rfl rfl)
  have ldb3 : ld (.ptr ⟨h0.next + 4, 1, 0⟩) g = some (.int .i64 1) := ld_of (L.c3.read1 rfl rfl)
  rw [runS5, F.s2, F.s1]
  simp -implicitDefEqProofs only [ldb1, ldb2, bV_some, index_spec hw L, cV_some]
  have F1 := F.set 7 (.int .i64 (idxN 10 rest 0)) (by omega)
  rw [runS6, getX_same]
  simp -implicitDefEqProofs only [lss_eq, bV_some, getX_same]
  rcases idx_spec 10 rest 0 with hi | ⟨k, hk, hi⟩
  · refine .inl ?_
    rw [hi, show decide ((-1 : Int) < 0) = true from rfl]
    exact last_piece (n := n + 2) hw L hl hr hs ((F.set 7 (.int .i64 (-1)) (by omega)).set 34 (.bool true) (by omega))
  · refine .inr ?_
    rw [Nat.zero_add] at hi
    rw [hi, show decide (((k : Nat) : Int) < 0) = false from decide_eq_false (by omega)]
    have F2 := (F.set 7 (.int .i64 (k : Int)) (by omega)).set 34 (.bool false) (by omega)
    have f7 : getX ((f.set 7 (.int .i64 (k : Int))).set 34 (.bool false)) 7 = .int .i64 (k : Int) := by rw [getX_set, if_neg (by omega), getX_same]
    obtain ⟨f2, hf2⟩ : ∃ f2, (f.set 7 (.int .i64 (k : Int))).set 34 (.bool false) = f2 := ⟨_, rfl⟩
    rw [hf2] at F2 f7 ⊢
    have wk : IntKind.wrap .i64 ((k : Int) + 1) = ((k + 1 : Nat) : Int) := w1 (by omega)
    obtain ⟨v8, c1, c2⟩ := L.s.cut (lo := none) (hi := some (.int .i64 ((k + 1 : Nat) : Int))) (l := 0) (u := k + 1) (.inr rfl) (.inl ⟨rfl, rfl⟩) (by omega) (by omega)
    rw [List.drop_zero, Nat.sub_zero] at c2
    show ∃ f' g' lv' sv' ss' rest', goS (n + 3) W2 f2 g (kB (n + 3) nx) = nx f' g' ∧ _
    rw [runS7, F2.s2, F2.s3, f7]
    simp -implicitDefEqProofs only [ldb1, ldb3, bV_some, add_eq, wk, slice_hi, c1]
    have F3 := F2.set 8 v8 (by omega)
    have f8 : getX (f2.set 8 v8) 8 = v8 := getX_same _ _ _
    have f73 : getX (f2.set 8 v8) 7 = .int .i64 (k : Int) := by rw [getX_set, if_neg (by omega), f7]
    obtain ⟨f3, hf3⟩ : ∃ f3, f2.set 8 v8 = f3 := ⟨_, rfl⟩
    rw [hf3] at F3 f8 f73 ⊢
    obtain ⟨l, r, rfl⟩ := F3.node
    have hlen : (rest.take (k + 1)).length = k + 1 := by rw [List.length_take]; omega
    obtain ⟨v', e1, e2⟩ := full_cut c2 g
    obtain ⟨g', lv', e3, L'⟩ := round_spec (n := n + 2) L e2 hw hl
    have un : absUn .not (.bool true) = some (.bool false) := rfl
    rw [runS8, f8]
    simp -implicitDefEqProofs only [c2.1.len, bV_some, e1, xD_Y, e3, cV_some, un, getX_same]
    have F4 := F3.set 48 (.bool false) (by omega)
    have f74 : getX ((T.node l (some (V.yield (h0.next + 5))) r).set 48 (.bool false)) 7 = .int .i64 (k : Int) := by rw [getX_set, if_neg (by omega), f73]
    obtain ⟨sv', c3, c4⟩ := L'.s.cut (lo := some (.int .i64 ((k + 1 : Nat) : Int))) (hi := none) (l := k + 1) (u := rest.length) (.inl ⟨rfl, rfl⟩) (.inr rfl) (by omega) (Nat.le_refl _)
    have hrest : (rest.drop (k + 1)).take (rest.length - (k + 1)) = rest.drop (k + 1) := by rw [List.take_of_length_le]; rw [List.length_drop]; exact Nat.le_refl _
    rw [hrest] at c4
    obtain ⟨g2, e5, L2⟩ := L'.write c4
    have ldb1' : ld (.ptr ⟨h0.next + 2, 1, 0⟩) g' = some sv := ld_of (L'.c1.read1 rfl rfl)
    have ldb2' : ld (.ptr ⟨h0.next + 3, 1, 0⟩) g' = some (sepV h0.next) := ld_of (L'.c2.read1 rfl rfl)
    refine ⟨(T.node l (some (V.yield (h0.next + 5))) r).set 48 (.bool false), g2, lv', sv', _, rest.drop (k + 1), ?_, F4, L2, by rw [List.length_drop]; omega, ?_, ?_⟩
    · show goS (n + 3) W4 ((T.node l (some (V.yield (h0.next + 5))) r).set 48 (.bool false)) g' (kB (n + 3) nx) = _
      rw [runS9, F4.s2, F4.s1, f74]
      simp -implicitDefEqProofs only [ldb1', ldb2', bV_some, L'.lensep, add_eq, wk, slice_lo, c3, e5, bS_some]
      rfl
    · split
      · omega
      · rw [List.length_append]; simp
    · intro s hs'
      split at hs'
      · exact hs s hs'
      · rcases List.mem_append.1 hs' with h | h
        · exact hs s h
        · rw [List.mem_singleton.1 h, hlen]; omega
end Go.Proofs.YtcphjmgfgfjnpaaGreatDoor
set_option maxRecDepth 100000
namespace Go.Proofs.YtcphjmgfgfjnpaaGreatDoor
open Go Ev
theorem box1 {h : AH} (hw : h.WF) (e : Nat) (v : V) (h1 : v.cells = [v]) (h2 : v.cell = true) : absBox e v h = some (.ptr ⟨h.next, 1, 0⟩, h.add ⟨Arr.ofList [v], 0, 0, false, e⟩) ∧ Cells (h.add ⟨Arr.ofList [v], 0, 0, false, e⟩) h.next e [v] ∧ (h.add ⟨Arr.ofList [v], 0, 0, false, e⟩).next = h.next + 1 ∧ Old h.next h (h.add ⟨Arr.ofList [v], 0, 0, false, e⟩) := by
  obtain ⟨g1, g2, g3⟩ := add_cells hw (Arr.ofList [v]) e (cs := [v]) (Arr.ofList_n _) (Arr.get_ofList _) (by show (v.cell && true) = true; rw [h2]; rfl)
  refine ⟨?_, g1, g2, g3⟩
  unfold absBox
  rw [if_pos (by rw [h1]; show (v.cell && true) = true; rw [h2]; rfl)]
  rw [h1]
  rfl
theorem fuelL : 2001 < envL.fuel := Nat.lt_of_sub_pos (by show 0 < 1000000 - 2001; decide)
theorem lines_ok : LinesOK := by
  intro h0 hw p l hb hl
  have hp := bs_cell hb
  show ∃ v h' ss, xFn envL (xD envL 59) 10 [p] h0 = some (v, h') ∧ _
  rw [runL0, runL1]
  obtain ⟨a1, a2, a3, a4⟩ := al_cells hw [.nilslice] T_s_string rfl (by simp)
  generalize hh1 : (al [.nilslice] T_s_string h0).2 = h1 at *
  have eb : bsl 1 1 [(0, 1, .int .u8 10)] [.int .u8 0] T_uint8 h1 = some (.slice ⟨h1.next, 1, 0⟩ 1 1 true 1, h1.add ⟨Arr.ofList [.int .u8 10], 0, 0, false, T_uint8⟩) := by kernel_rfl
  obtain ⟨b1, b2, b3⟩ := add_cells a4.wf (Arr.ofList [.int .u8 10]) T_uint8 (cs := [.int .u8 10]) (Arr.ofList_n _) (Arr.get_ofList _) rfl
  obtain ⟨h2, hh2⟩ : ∃ h2, h1.add ⟨Arr.ofList [.int .u8 10], 0, 0, false, T_uint8⟩ = h2 := ⟨_, rfl⟩
  rw [hh2] at eb b1 b2 b3
  have n1 : h1.next = h0.next + 1 := a3
  have ec : cvS T_uint8 (.slice ⟨h1.next, 1, 0⟩ 1 1 true 1) h2 = some (.slice ⟨h1.next, 1, 0⟩ 1 1 true 1, h2) := by
    obtain ⟨k, k1, k2, k3, k4, k5, k6, _⟩ := b1
    unfold cvS
    simp only [k1, k5, k4]
    rw [if_pos ⟨k6, trivial, trivial⟩]
  simp -implicitDefEqProofs only [eb, cV_some, ec]
  have es : lenS (.slice ⟨h1.next, 1, 0⟩ 1 1 true 1) = some (.int .i64 1) := rfl
  rw [run31, es, bV_some, run60]
  obtain ⟨c1, c2, c3, c4⟩ := box1 b3.wf T_s_uint8 p hp.2.1 hp.2.2
  generalize hh3 : h2.add ⟨Arr.ofList [p], 0, 0, false, T_s_uint8⟩ = h3 at *
  obtain ⟨d1, d2, d3, d4⟩ := box1 c4.wf T_s_uint8 (.slice ⟨h1.next, 1, 0⟩ 1 1 true 1) rfl rfl
  generalize hh4 : h3.add ⟨Arr.ofList [V.slice ⟨h1.next, 1, 0⟩ 1 1 true 1], 0, 0, false, T_s_uint8⟩ = h4 at *
  obtain ⟨e1, e2, e3, e4⟩ := box1 d4.wf T_int (.int .i64 1) rfl rfl
  generalize hh5 : h4.add ⟨Arr.ofList [V.int .i64 1], 0, 0, false, T_int⟩ = h5 at *
  simp -implicitDefEqProofs only [c1, d1, e1, cV_some]
  have n2 : h2.next = h0.next + 2 := by omega
  have n3 : h3.next = h0.next + 3 := by omega
  have n4 : h4.next = h0.next + 4 := by omega
  have n5 : h5.next = h0.next + 5 := by omega
  rw [runL2]
  have hq : V.func 128 [] [.ptr ⟨h3.next, 1, 0⟩, .ptr ⟨h2.next, 1, 0⟩, .ptr ⟨h4.next, 1, 0⟩] = qL h0.next := by rw [n2, n3, n4]; rfl
  rw [hq]
  have hsep : V.slice ⟨h1.next, 1, 0⟩ 1 1 true 1 = sepV h0.next := by rw [n1]; rfl
  rw [hsep] at d2
  obtain ⟨h6, hh6⟩ : ∃ h6, h5.add (recS p h0.next 0) = h6 := ⟨_, rfl⟩
  have g6 : h6.get (h0.next + 5) = some (recS p h0.next 0) := by rw [← hh6, AH.get_add, if_pos (by omega)]
  have o6 : Old h5.next h5 h6 := by
    rw [← hh6]
    refine ⟨Nat.le_succ _, fun b hb => by rw [AH.get_add, if_neg (by omega)], Nat.min_le_left _ _, ?_⟩
    intro b q hq
    rw [AH.get_add] at hq
    by_cases hb : b = h5.next
    · subst hb; exact Nat.lt_succ_self _
    · rw [if_neg hb] at hq; exact Nat.lt_succ_of_lt (e4.wf _ _ hq)
  have n6 : h6.next = h0.next + 6 := by rw [← hh6]; show Nat.succ h5.next = _; omega
  show ∃ v h' ss, (cV (xFn envL (xD envL 58) 128 [.yield h5.next, .ptr ⟨h3.next, 1, 0⟩, .ptr ⟨h2.next, 1, 0⟩, .ptr ⟨h4.next, 1, 0⟩] (h5.add (recS p h0.next 0))) fun _ h2 => endX h5.next h2 _ _) = some (v, h') ∧ _
  rw [hh6, n2, n3, n4, n5]
  have L : LS h0 h6 p .nilslice p [] l := by
    refine ⟨?_, by omega, ?_, own_nil _ _ _ _, ?_, ?_, ?_, ?_, hb, g6⟩
    · exact ((((a4.trans (b3.weak (by omega))).trans (c4.weak (by omega))).trans (d4.weak (by omega))).trans (e4.weak (by omega))).trans (o6.weak (by omega))
    · exact ((((a1.old a4.wf b3).old b3.wf c4).old c4.wf d4).old d4.wf e4).old e4.wf o6
    · have := (((b1.old b3.wf c4).old c4.wf d4).old d4.wf e4).old e4.wf o6
      rw [n1] at this; exact this
    · have := ((c2.old c4.wf d4).old d4.wf e4).old e4.wf o6
      rw [n2] at this; exact this
    · have := (d2.old d4.wf e4).old e4.wf o6
      rw [n3] at this; exact this
    · have := e2.old e4.wf o6
      rw [n4] at this; exact this
  have it : IterOut h0 p (xFn envL (xD envL 58) 128 [.yield (h0.next + 5), .ptr ⟨h0.next + 3, 1, 0⟩, .ptr ⟨h0.next + 2, 1, 0⟩, .ptr ⟨h0.next + 4, 1, 0⟩] h6) := by
    have ldb2 : ld (.ptr ⟨h0.next + 3, 1, 0⟩) h6 = some (sepV h0.next) := ld_of (L.c2.read1 rfl rfl)
    have eq0 : eqW PP true T_int (.int .i64 1) (.int .i64 0) = some (.bool false) := rfl
    rw [runS0, ldb2, bV_some, L.lensep, bV_some, eq0, bV_some, runS1, runS2]
    have F0 : FF h0.next ((fS (.yield (h0.next + 5)) (.ptr ⟨h0.next + 3, 1, 0⟩) (.ptr ⟨h0.next + 2, 1, 0⟩) (.ptr ⟨h0.next + 4, 1, 0⟩)).set 11 (.bool false)) := by
      refine FF.set ⟨?_, ?_, ?_, ?_⟩ 11 _ (by omega) <;> unfold fS <;> simp [getX_set]
    refine loop_rule (S := XF) (out := IterOut h0 p)
      (fun q f g => ∃ lv sv ss rest, FF h0.next f ∧ LS h0 g p lv sv ss rest ∧ rest.length ≤ q ∧ q ≤ 2000 ∧ ss.length + q ≤ 2000 ∧ ∀ s ∈ ss, s.length ≤ 2000) ?_ ?_ 2000 envL.fuel _ _ ⟨.nilslice, p, [], l, F0, L, hl, Nat.le_refl _, by simp, by simp⟩ (by have := fuelL; omega)
    · rintro q f g nx ⟨lv, sv, ss, rest, F, L, hr, hq, hs, hss⟩
      rcases iter_spec (n := 55) hw L (by omega) (by omega) hss F nx with h | ⟨f', g', lv', sv', ss', rest', k1, k2, k3, k4, k5, k6⟩
      · exact .inr h
      · exact .inl ⟨f', g', k1, lv', sv', ss', rest', k2, k3, by omega, by omega, by omega, k6⟩
    · rintro f g nx ⟨lv, sv, ss, rest, F, L, hr, hq, hs, hss⟩
      rcases iter_spec (n := 55) hw L (by omega) (by omega) hss F nx with h | ⟨f', g', lv', sv', ss', rest', k1, k2, k3, k4, k5, k6⟩
      · exact h
      · omega
  obtain ⟨h7, lv, sv, ss, rest, it1, L7, it2⟩ := it
  rw [it1, cV_some]
  have hb7 : h0.next + 5 < h7.next := by have := L7.nx; omega
  obtain ⟨h8, hh8⟩ : ∃ h8, putLoop h7 (h0.next + 5) (.rcd 10 psL asL bdL) (.tuple (tmL p (.ptr ⟨h0.next, 1, 0⟩) (qL h0.next))) 3 (.tuple []) = h8 := ⟨_, rfl⟩
  have w8 : Wrote h7 h8 (h0.next + 5) := by rw [← hh8]; exact AH.put_wrote L7.old.wf hb7 _
  have ow := Own.keepF L7.own (h' := h8) (fun b hb => w8.rest b (by omega))
  refine ⟨lv, h8, ss, ?_, ow.sl, L7.old.trans (w8.old (by omega)), it2⟩
  unfold endX
  rw [loop_of L7.rc]
  simp only [hh8]
  rw [if_neg (by decide)]
  have hld : ld (.ptr ⟨h0.next, 1, 0⟩) h8 = some lv := ld_of ((L7.l.mono (w8.rest _ (by omega))).read1 rfl rfl)
  show (kLr 59).norm (fL p (.ptr ⟨h0.next, 1, 0⟩) (qL h0.next)) h8 = _
  rw [runL3, hld]
  rfl
end Go.Proofs.YtcphjmgfgfjnpaaGreatDoor
set_option maxRecDepth 100000
namespace Go.Proofs.YtcphjmgfgfjnpaaGreatDoor
open Go Ev
theorem awake_spec {F n : Nat} {h : AH} (hw : h.WF) (hm : 11 ≤ h.next) (ht : allR h [tR1] = true) : ∃ h', runC (EE F) (n + 1) n_law20_awake [] h = some (.bool true, h') ∧ Old h.next h h' := by
  have hf : findN 11 m0 [] h = [] := by kernel_rfl
  have hp := memoS_plain (m := 11) (c := m0.c) (h := h) rfl (fun _ => rfl) rfl rfl (Nat.ble_eq_true_of_le hm) ht (fun _ => rfl)
  have hg : memoG 11 n_law20_awake m0 [] h = memoS 11 m0.c (findN 11 m0 [] h) [] h := by
    unfold memoG
    have e1 : (Nat.beq m0.c.f n_law20_awake && lookL m0.c.args []) = true := by kernel_rfl
    rw [e1]; rfl
  rw [hf] at hg
  have hi : memoI 11 n_law20_awake [] h [m0] = some (.bool true, ⟨Nat.add h.next (Nat.sub m0.c.next' m0.c.next), h.low, h.m⟩) := by
    show Option.rec (motive := fun _ => Option (V × AH)) none (fun p => some p) (memoG 11 n_law20_awake m0 [] h) = _
    rw [hg]
    have : memoS 11 m0.c [] [] h = some (m0.c.v, ⟨Nat.add h.next (Nat.sub m0.c.next' m0.c.next), h.low, h.m⟩) := hp
    rw [this]
    rfl
  refine ⟨_, (at_awake F n [] h).trans hi, ⟨Nat.le_add_right _ _, fun _ _ => rfl, Nat.min_le_left _ _, fun b k hk => Nat.lt_of_lt_of_le (hw b k hk) (Nat.le_add_right _ _)⟩⟩
theorem law_spec {F n : Nat} (hF : 3000 < F) {h : AH} (hw : h.WF) (hm : 11 ≤ h.next) (ht : allR h [tR1] = true) {p q : V} {lp lq : List Nat} (hp : Bs h p lp) (hq : Bs h q lq) :
    ∃ h', runC (EE F) (n + 6) n_law20_RenameLikes [p, q] h = some (.bool true, h') := by
  rw [at_law20_RenameLikes]
  have cxC : (cx F (n + 5)).C = runC (EE F) (n + 5) := rfl
  obtain ⟨h1, e1, o1⟩ := awake_spec (F := F) (n := n + 4) hw hm ht
  have t2000 : (2000 : Int) = ((2000 : Nat) : Int) := rfl
  simp -implicitDefEqProofs only [law20_RenameLikes.fn, law20_RenameLikes.c0, law20_RenameLikes.k0, law20_RenameLikes.c1, cxC, e1, cB_some, law20_RenameLikes.k1, Bool.not_true, cond_false, law20_RenameLikes.r3, law20_RenameLikes.c3, hp.1.len, hq.1.len, bI_some]
  rw [t2000]
  simp -implicitDefEqProofs only [dec_gt]
  by_cases h2 : 2000 < lp.length
  · refine ⟨h1, ?_⟩
    simp -implicitDefEqProofs only [h2, decide_true, cond_true, law20_RenameLikes.k3, law20_RenameLikes.c4]
    rfl
  by_cases h3 : 2000 < lq.length
  · refine ⟨h1, ?_⟩
    simp -implicitDefEqProofs only [h2, h3, decide_true, decide_false, cond_false, cond_true, law20_RenameLikes.k3, law20_RenameLikes.c4]
    rfl
  have hp1 := hp.old hw o1
  have hq1 := hq.old hw o1
  obtain ⟨r, g1, f1, f2, f3, f4, f5⟩ := like_spec lines_ok (F := F) (k := n) hF o1.wf hp1 hq1 (by omega) (by omega)
  have hp2 := hp1.old o1.wf f2
  have hq2 := hq1.old o1.wf f2
  obtain ⟨r', g2, u1, u2, u3, u4, u5⟩ := like_spec lines_ok (F := F) (k := n) hF f2.wf hp2 hp2 (by omega) (by omega)
  have hr' : r' = 100 := u5.2 rfl
  have hc : ((r == 100) == natsEq lp lq) = true := by
    rw [natsEq_eq]
    by_cases e : lp = lq
    · rw [f5.2 e, e]; simp
    · have n1 : ¬ r = 100 := fun x => e (f5.1 x)
      have b1 : (r == 100) = false := by simpa using n1
      have b2 : (lp == lq) = false := by simpa using e
      rw [b1, b2]
      rfl
  refine ⟨g2, ?_⟩
  simp -implicitDefEqProofs only [h2, h3, decide_false, cond_false, law20_RenameLikes.k3, law20_RenameLikes.r5, law20_RenameLikes.c5, cxC, f1, cI_some, hp2.toS, hq2.toS, cZ_some, hc, cond_true, decide_eq_true (show r ≥ 0 from f3), decide_eq_true f4, u1, hr']
  rfl
def ArgIn (W : World) (v : Value) (l : List Nat) : Prop := (l = [] ∧ ((∀ ρ, R ρ .nilslice v) ∨ (∀ ρ, R ρ .loose v))) ∨ (l ≠ [] ∧ ∃ cb off S e' cap, v = .slice (some ⟨cb, off, none⟩) l.length cap ∧ l.length ≤ cap ∧ off + cap ≤ S ∧ ∀ g, Tab.Fits ⟨g, byteL l, e'⟩ ⟨cb, off, S⟩ W)
theorem arg_tab {W : World} {v : Value} {l : List Nat} (hl8 : ∀ x ∈ l, x < 256) (hv : ArgIn W v l) (g : Nat) : ∃ (T : List Tab) (s : Spot) (p : V), (T = [] ∨ ∃ e, T = [⟨g, byteL l, e⟩]) ∧ (∀ t ∈ T, t.Fits s W) ∧
    (∀ tl pl, (∀ t ∈ T, tabOf tl g = some t) → pl g = s → R (tabsRho tl pl) p v) ∧ (∀ m tl, (∀ t ∈ T, tabOf tl g = some t) → Bs (tabsH m tl) p l) := by
  rcases hv with ⟨rfl, hv⟩ | ⟨hne, cb, off, S, e', cap, rfl, hcap, hS, hfit⟩
  · rcases hv with hv | hv
    · exact ⟨[], ⟨0, 0, 0⟩, .nilslice, .inl rfl, by simp, fun _ _ _ _ => hv _, fun _ _ _ => ⟨⟨rfl, .inl ⟨rfl, .inl rfl⟩⟩, by simp⟩⟩
    · exact ⟨[], ⟨0, 0, 0⟩, .loose, .inl rfl, by simp, fun _ _ _ _ => hv _, fun _ _ _ => ⟨⟨rfl, .inl ⟨rfl, .inr rfl⟩⟩, by simp⟩⟩
  · refine ⟨[⟨g, byteL l, e'⟩], ⟨cb, off, S⟩, .slice ⟨g, l.length, 0⟩ l.length l.length false 1, .inr ⟨e', rfl⟩, ?_, ?_, ?_⟩
    · intro t ht
      rw [List.mem_singleton.1 ht]
      exact hfit g
    · intro tl pl ht hp
      exact tab_R (ht ⟨g, byteL l, e'⟩ (List.mem_singleton.2 rfl)) hp hcap hS
    · intro m tl ht
      exact tab_bs (ht ⟨g, byteL l, e'⟩ (List.mem_singleton.2 rfl)) hl8
theorem tab1_all (m : Nat) (tl : List Tab) {e : Nat} (h : tabOf tl 1 = some ⟨1, tab1.map (V.int .u32), e⟩) : allR (tabsH m tl) [tR1] = true := by
  have hg := tab_get (n := m) h
  have e0 : hasR (tabsH m tl) tR1 = true := by
    have key : ∀ k : Blk, k = ⟨Arr.ofList (tab1.map (V.int .u32)), 0, 0, true, e⟩ → (k.ro && (Nat.beq k.minL 0 && (Nat.beq k.fz 0 && alikeR k.cells tR1.2))) = true := by
      intro k hk
      subst hk
      kernel_rfl
    show Option.rec (motive := fun _ => Bool) false (fun k => k.ro && (Nat.beq k.minL 0 && (Nat.beq k.fz 0 && alikeR k.cells tR1.2))) ((tabsH m tl).get 1) = true
    rw [hg]
    exact key _ rfl
  show Bool.rec (motive := fun _ => Bool) false true (hasR (tabsH m tl) tR1) = true
  rw [e0]
theorem likes_calls {W : World} (hL : Lib.TabIs Tryz.prog W "codicil/sha.k" .u32 tab1) (hK : Tryz.prog.globalNamed "codicil/sha.k" = some 1) {v w : Value} {lp lq : List Nat} (hp8 : ∀ x ∈ lp, x < 256) (hq8 : ∀ x ∈ lq, x < 256) (hv : ArgIn W v lp) (hw : ArgIn W w lq) :
    Calls Tryz.prog 3 #[v, w] W fun e w => e = .returned (.bool true) ∧ Same W w := by
  obtain ⟨e, he⟩ := tab_fits hL hK
  obtain ⟨T, s, p, hT, hf, hR, hB⟩ := arg_tab hp8 hv 11
  obtain ⟨T', s', p', hT', hf', hR', hB'⟩ := arg_tab hq8 hw 12
  have key : ∃ tl : List Tab, tl = T' ++ T ++ [⟨1, tab1.map (V.int .u32), e⟩] := ⟨_, rfl⟩
  obtain ⟨tl, htl⟩ := key
  have t1 : tabOf tl 1 = some ⟨1, tab1.map (V.int .u32), e⟩ := by
    subst htl
    rcases hT with rfl | ⟨e1, rfl⟩ <;> rcases hT' with rfl | ⟨e2, rfl⟩ <;> rfl
  have t11 : ∀ t ∈ T, tabOf tl 11 = some t := by
    intro t ht
    subst htl
    rcases hT with rfl | ⟨e1, rfl⟩
    · cases ht
    · rw [List.mem_singleton.1 ht]
      rcases hT' with rfl | ⟨e2, rfl⟩ <;> rfl
  have t12 : ∀ t ∈ T', tabOf tl 12 = some t := by
    intro t ht
    subst htl
    rcases hT' with rfl | ⟨e2, rfl⟩
    · cases ht
    · rw [List.mem_singleton.1 ht]; rfl
  have hin : ∀ t ∈ tl, t ∈ T' ∨ t ∈ T ∨ t = ⟨1, tab1.map (V.int .u32), e⟩ := by
    intro t ht
    subst htl
    simp only [List.mem_append, List.mem_singleton] at ht
    rcases ht with (h | h) | h
    · exact .inl h
    · exact .inr (.inl h)
    · exact .inr (.inr h)
  have g11 : ∀ t ∈ T, t.g = 11 := by
    intro t ht
    rcases hT with rfl | ⟨e1, rfl⟩
    · cases ht
    · rw [List.mem_singleton.1 ht]
  have g12 : ∀ t ∈ T', t.g = 12 := by
    intro t ht
    rcases hT' with rfl | ⟨e1, rfl⟩
    · cases ht
    · rw [List.mem_singleton.1 ht]
  have hm : ∀ t ∈ tl, t.g < 13 := by
    intro t ht
    rcases hin t ht with h | h | rfl
    · rw [g12 t h]; decide
    · rw [g11 t h]; decide
    · show 1 < 13; decide
  let pl : Nat → Spot := fun g => bif Nat.beq g 12 then s' else bif Nat.beq g 11 then s else ⟨1, 0, 64⟩
  have hfit : ∀ t ∈ tl, t.Fits (pl t.g) W := by
    intro t ht
    rcases hin t ht with h | h | rfl
    · rw [g12 t h]; exact hf' t h
    · rw [g11 t h]; exact hf t h
    · exact he
  obtain ⟨h', hr⟩ := law_spec (F := 4000) (n := 0) (by omega) (tabs_wf hm) (by show 11 ≤ 13; omega) (tab1_all 13 tl t1) (hB 13 tl t11) (hB' 13 tl t12)
  have hG : ∀ g L, (EE 4000).G g = some L → ∃ t, tabOf tl g = some t ∧ t.vs.length = L ∧ (pl g).cb = g ∧ (pl g).off = 0 := by
    intro g L h
    have h' : gOf g = some L := h
    unfold gOf at h'
    cases hb : Nat.beq g 1 with
    | true =>
      rw [hb] at h'
      obtain rfl := Nat.eq_of_beq_eq_true hb
      cases h'
      exact ⟨_, t1, rfl, rfl, rfl⟩
    | false => rw [hb] at h'; cases h'
  refine (tab_calls (EE_ok 4000) (n := 6) (f := 3) (l := tl) (pl := pl) (m := 13) (W := W) (args := [p, p']) (args' := [v, w]) hm hfit hG ?_ hr).mono ?_
  · exact ⟨v, _, rfl, hR tl pl t11 rfl, w, _, rfl, hR' tl pl t12 rfl, rfl⟩
  · rintro x w ⟨u, ρ', rfl, q1, _, _, q2⟩
    exact ⟨by rw [show u = .bool true from q1], q2⟩
end Go.Proofs.YtcphjmgfgfjnpaaGreatDoor
namespace Go.Proofs.YtcphjmgfgfjnpaaGreatDoor.renameLikes
open Go Go.ChangeShapes Go.WideShapes Go.ChangeAt
set_option maxRecDepth 100000
theorem andI {a b : Bool} (h : a = true) (k : b = true) : (a && b) = true := by rw [h, k]; rfl
theorem fact0 : (fun (P : Program) (f : FuncId) (fn : Func) (s : ChangeSpec) (c : OpenClaim) => c.wf (OpenSpec.ofChange s)) Tryz.prog 3 Tryz.f3 Rows.renameLikesSpec Rows.renameLikesRow = true := by kernel_rfl
theorem fact1 : (fun (P : Program) (f : FuncId) (fn : Func) (s : ChangeSpec) (c : OpenClaim) => laidOutB P) Tryz.prog 3 Tryz.f3 Rows.renameLikesSpec Rows.renameLikesRow = true := by kernel_rfl
theorem fact2 : (fun (P : Program) (f : FuncId) (fn : Func) (s : ChangeSpec) (c : OpenClaim) => mapsRowed P) Tryz.prog 3 Tryz.f3 Rows.renameLikesSpec Rows.renameLikesRow = true := by kernel_rfl
theorem fact3 : (fun (P : Program) (f : FuncId) (fn : Func) (s : ChangeSpec) (c : OpenClaim) => fn.params.all (P.readableRec ·)) Tryz.prog 3 Tryz.f3 Rows.renameLikesSpec Rows.renameLikesRow = true := by kernel_rfl
theorem fact4 : (fun (P : Program) (f : FuncId) (fn : Func) (s : ChangeSpec) (c : OpenClaim) => namedTie P c.named s.vars) Tryz.prog 3 Tryz.f3 Rows.renameLikesSpec Rows.renameLikesRow = true := by kernel_rfl
theorem fact5 : (fun (P : Program) (f : FuncId) (fn : Func) (s : ChangeSpec) (c : OpenClaim) => (c.stops == [])) Tryz.prog 3 Tryz.f3 Rows.renameLikesSpec Rows.renameLikesRow = true := by kernel_rfl
theorem fact6 : (fun (P : Program) (f : FuncId) (fn : Func) (s : ChangeSpec) (c : OpenClaim) => (P.stops == [])) Tryz.prog 3 Tryz.f3 Rows.renameLikesSpec Rows.renameLikesRow = true := by kernel_rfl
theorem fact7 : (fun (P : Program) (f : FuncId) (fn : Func) (s : ChangeSpec) (c : OpenClaim) => (c.knobs == [])) Tryz.prog 3 Tryz.f3 Rows.renameLikesSpec Rows.renameLikesRow = true := by kernel_rfl
theorem fact8 : (fun (P : Program) (f : FuncId) (fn : Func) (s : ChangeSpec) (c : OpenClaim) => (P.stopKnobs == [])) Tryz.prog 3 Tryz.f3 Rows.renameLikesSpec Rows.renameLikesRow = true := by kernel_rfl
theorem fact9 : (fun (P : Program) (f : FuncId) (fn : Func) (s : ChangeSpec) (c : OpenClaim) => (c.inPlace == P.inPlace f)) Tryz.prog 3 Tryz.f3 Rows.renameLikesSpec Rows.renameLikesRow = true := by kernel_rfl
theorem fact10 : (fun (P : Program) (f : FuncId) (fn : Func) (s : ChangeSpec) (c : OpenClaim) => (c.unfollowed == P.unfollowed f)) Tryz.prog 3 Tryz.f3 Rows.renameLikesSpec Rows.renameLikesRow = true := by kernel_rfl
theorem fact11 : (fun (P : Program) (f : FuncId) (fn : Func) (s : ChangeSpec) (c : OpenClaim) => (c.recurses == P.recurses f)) Tryz.prog 3 Tryz.f3 Rows.renameLikesSpec Rows.renameLikesRow = true := by kernel_rfl
theorem fact12 : (fun (P : Program) (f : FuncId) (fn : Func) (s : ChangeSpec) (c : OpenClaim) => (c.named == P.varsNamed f)) Tryz.prog 3 Tryz.f3 Rows.renameLikesSpec Rows.renameLikesRow = true := by kernel_rfl
theorem fact13 : (fun (P : Program) (f : FuncId) (fn : Func) (s : ChangeSpec) (c : OpenClaim) => (c.maps == (fn.params.toList ++ s.plain.varTypes P).any (P.mapsRec ·))) Tryz.prog 3 Tryz.f3 Rows.renameLikesSpec Rows.renameLikesRow = true := by kernel_rfl
theorem fact14 : (fun (P : Program) (f : FuncId) (fn : Func) (s : ChangeSpec) (c : OpenClaim) => (c.ifaces == (fn.params.toList ++ s.plain.varTypes P).any (P.ifacesRec ·))) Tryz.prog 3 Tryz.f3 Rows.renameLikesSpec Rows.renameLikesRow = true := by kernel_rfl
theorem fact15 : (fun (P : Program) (f : FuncId) (fn : Func) (s : ChangeSpec) (c : OpenClaim) => (c.mapsOut == P.mapsAmong fn.resultTypes.toList)) Tryz.prog 3 Tryz.f3 Rows.renameLikesSpec Rows.renameLikesRow = true := by kernel_rfl
theorem fact16 : (fun (P : Program) (f : FuncId) (fn : Func) (s : ChangeSpec) (c : OpenClaim) => (c.loops == (fn.params.toList ++ s.plain.varTypes P).any (P.loopsFrom ·))) Tryz.prog 3 Tryz.f3 Rows.renameLikesSpec Rows.renameLikesRow = true := by kernel_rfl
theorem fact17 : (fun (P : Program) (f : FuncId) (fn : Func) (s : ChangeSpec) (c : OpenClaim) => (c.wideKeys == (fn.params.toList ++ s.plain.varTypes P ++ fn.resultTypes.toList).any (P.wideKeysFrom ·))) Tryz.prog 3 Tryz.f3 Rows.renameLikesSpec Rows.renameLikesRow = true := by kernel_rfl
theorem fact18 : (fun (P : Program) (f : FuncId) (fn : Func) (s : ChangeSpec) (c : OpenClaim) => s.vars.all (P.varReadable ·)) Tryz.prog 3 Tryz.f3 Rows.renameLikesSpec Rows.renameLikesRow = true := by kernel_rfl
theorem fact19 : (fun (P : Program) (f : FuncId) (fn : Func) (s : ChangeSpec) (c : OpenClaim) => fn.resultTypes.all (fun t => P.readableRec t && decide (t < P.types.size))) Tryz.prog 3 Tryz.f3 Rows.renameLikesSpec Rows.renameLikesRow = true := by kernel_rfl
theorem fact20 : (fun (P : Program) (f : FuncId) (fn : Func) (s : ChangeSpec) (c : OpenClaim) => (c.ifacesOut == fn.resultTypes.toList.any (P.ifacesRec ·))) Tryz.prog 3 Tryz.f3 Rows.renameLikesSpec Rows.renameLikesRow = true := by kernel_rfl
theorem fact21 : (fun (P : Program) (f : FuncId) (fn : Func) (s : ChangeSpec) (c : OpenClaim) => (c.loopsOut == fn.resultTypes.toList.any (P.loopsFrom ·))) Tryz.prog 3 Tryz.f3 Rows.renameLikesSpec Rows.renameLikesRow = true := by kernel_rfl
theorem fact22 : (fun (P : Program) (f : FuncId) (fn : Func) (s : ChangeSpec) (c : OpenClaim) => (c.plainKeys == P.plainKeys)) Tryz.prog 3 Tryz.f3 Rows.renameLikesSpec Rows.renameLikesRow = true := by kernel_rfl
theorem fact23 : (fun (P : Program) (f : FuncId) (fn : Func) (s : ChangeSpec) (c : OpenClaim) => c.shortTexts.isNone) Tryz.prog 3 Tryz.f3 Rows.renameLikesSpec Rows.renameLikesRow = true := by kernel_rfl
theorem fact24 : (fun (P : Program) (f : FuncId) (fn : Func) (s : ChangeSpec) (c : OpenClaim) => P.stopsHeard) Tryz.prog 3 Tryz.f3 Rows.renameLikesSpec Rows.renameLikesRow = true := by kernel_rfl
theorem fact25 : (fun (P : Program) (f : FuncId) (fn : Func) (s : ChangeSpec) (c : OpenClaim) => P.mayEnter) Tryz.prog 3 Tryz.f3 Rows.renameLikesSpec Rows.renameLikesRow = true := by kernel_rfl
theorem fact26 : (fun (P : Program) (f : FuncId) (fn : Func) (s : ChangeSpec) (c : OpenClaim) => (c.lifted == P.liftsFinal)) Tryz.prog 3 Tryz.f3 Rows.renameLikesSpec Rows.renameLikesRow = true := by kernel_rfl
theorem fact27 : (fun (P : Program) (f : FuncId) (fn : Func) (s : ChangeSpec) (c : OpenClaim) => (P.make == some c.make)) Tryz.prog 3 Tryz.f3 Rows.renameLikesSpec Rows.renameLikesRow = true := by kernel_rfl
theorem fact28 : (fun (P : Program) (f : FuncId) (fn : Func) (s : ChangeSpec) (c : OpenClaim) => (c.kinds == (if c.domain.isEmpty then [] else fn.params.toList.map fun t => match P.underlying t with | some (.int k) => some k | _ => none))) Tryz.prog 3 Tryz.f3 Rows.renameLikesSpec Rows.renameLikesRow = true := by kernel_rfl
theorem fact29 : (fun (P : Program) (f : FuncId) (fn : Func) (s : ChangeSpec) (c : OpenClaim) => (c.pinned == c.pinnedBy)) Tryz.prog 3 Tryz.f3 Rows.renameLikesSpec Rows.renameLikesRow = true := by kernel_rfl
theorem fact30 : (fun (P : Program) (f : FuncId) (fn : Func) (s : ChangeSpec) (c : OpenClaim) => (c.veiled == (fn.params.toList ++ s.plain.varTypes P ++ fn.resultTypes.toList).any (P.veiledRec ·))) Tryz.prog 3 Tryz.f3 Rows.renameLikesSpec Rows.renameLikesRow = true := by kernel_rfl
theorem fact31 : (fun (P : Program) (f : FuncId) (fn : Func) (s : ChangeSpec) (c : OpenClaim) => c.veiledFits P fn.params.toList (fn.params.toList ++ s.plain.varTypes P ++ fn.resultTypes.toList)) Tryz.prog 3 Tryz.f3 Rows.renameLikesSpec Rows.renameLikesRow = true := by kernel_rfl
theorem closed : joinedFacts Tryz.prog 3 Tryz.f3 Rows.renameLikesSpec Rows.renameLikesRow = true := (andI (andI (andI (andI (andI (andI (andI (andI (andI (andI (andI (andI (andI (andI (andI (andI (andI (andI (andI (andI (andI (andI (andI (andI (andI (andI (andI (andI (andI (andI (andI fact0 fact1) fact2) fact3) fact4) fact5) fact6) fact7) fact8) fact9) fact10) fact11) fact12) fact13) fact14) fact15) fact16) fact17) fact18) fact19) fact20) fact21) fact22) fact23) fact24) fact25) fact26) fact27) fact28) fact29) fact30) fact31)
end Go.Proofs.YtcphjmgfgfjnpaaGreatDoor.renameLikes
namespace Go.Proofs.YtcphjmgfgfjnpaaGreatDoor.renameLikes
open Go Go.ChangeShapes Go.WideShapes Go.ChangeAt Go.RowKit Ev
theorem laidOut : laidOutB Tryz.prog = true := by kernel_rfl
theorem gKType1 : (Tryz.prog.globals[1]?).map (·.type) = some T_a64_uint32 := by kernel_rfl
theorem gKArr1 : Tryz.prog.underlying T_a64_uint32 = some (.array 64 T_uint32) := by kernel_rfl
theorem gKInt1 : Tryz.prog.underlying T_uint32 = some (.int .u32) := by kernel_rfl
theorem cellsK1 : Tryz.prog.cellsOf T_a64_uint32 = 64 := by kernel_rfl
theorem cellsE1 : Tryz.prog.cellsOf T_uint32 = 1 := by kernel_rfl
theorem filt1 : (Rows.renameLikesRow.laid.filter fun x => x.1 == "codicil/sha.k") = [("codicil/sha.k", Rows.laid_codicil_sha_k)] := by kernel_rfl
theorem table1 {W : World} (h : laidMetH Tryz.prog Rows.renameLikesRow.laid W) : Lib.TabIs Tryz.prog W "codicil/sha.k" .u32 tab1 := by
  have h1 := h.filter (fun x => x.1 == "codicil/sha.k")
  rw [filt1] at h1
  exact Lib.tabIs_of_head (rest := []) gK1 gKType1 gKArr1 gKInt1 cellsE1 cellsK1 h1
theorem own : ownKnob Tryz.prog.godebug = none := by kernel_rfl
set_option maxRecDepth 100000 in
theorem contract (H : Type) (enc : TypeId × Value → H) (W : World) (base : Nat) (args : Array Value) (ds gs : List (DataW H)) (before : List MemPlace)
    (hval : ∀ (j : Nat) t v, Tryz.f3.params[j]? = some t → args[j]? = some v → Value.okWide Tryz.prog W .any base t v)
    (hW : DataW.Whole enc Tryz.prog Tryz.f3.params.toList Rows.renameLikesSpec.vars false W args.toList ds gs before) (hL : laidMetH Tryz.prog Rows.renameLikesRow.laid W) :
    Calls Tryz.prog 3 args W fun e W' => ∃ v, e = .returned v ∧ Rows.renameLikesSpec.post enc Tryz.prog Tryz.f3 false true false false W args v W' := by
  have hW' := hW
  have hlt := hW.lt
  obtain ⟨p, q, hA0, hV, rfl, hfz, hnd⟩ := hW
  have hA : DataW.TrodAll enc Tryz.prog W 0 (fun _ => true) true Tryz.f3.params.toList args.toList ds p := hA0
  rw [Tryz.params3] at hA hval
  obtain ⟨v0, v1, d0, d1, p0, p1, rfl, rfl, rfl, h0, h1⟩ := trodAll_two hA
  obtain ⟨rfl, rfl⟩ := trodVars_none hV
  obtain ⟨lp, hp8, hp⟩ := bytes_in Tryz.underlying22 Tryz.underlying5 (by kernel_rfl) (hval 0 22 v0 rfl rfl) h0
  obtain ⟨lq, hq8, hq⟩ := bytes_in Tryz.underlying22 Tryz.underlying5 (by kernel_rfl) (hval 1 22 v1 rfl rfl) h1
  have ap : ArgIn W v0 lp := by
    rcases hp with h | ⟨h1, cb, off, S, e', cap, elems, spare, h2, h3, h4, _, _, h5⟩
    · exact .inl h
    · exact .inr ⟨h1, cb, off, S, e', cap, h2, h3, h4, h5⟩
  have aq : ArgIn W v1 lq := by
    rcases hq with h | ⟨h1, cb, off, S, e', cap, elems, spare, h2, h3, h4, _, _, h5⟩
    · exact .inl h
    · exact .inr ⟨h1, cb, off, S, e', cap, h2, h3, h4, h5⟩
  refine (likes_calls (table1 hL) gK1 hp8 hq8 ap aq).mono fun e W' ⟨he, hst⟩ => ?_
  subst he
  exact ⟨_, rfl, post_stays (pa := p0 ++ p1) (pv := []) hW' (fun _ _ _ => trodAll_cons_mk (shut_bool Tryz.underlying4 _) trodAll_mk0)
    (fun sp hsp => trodAll_mk2 (arg_stays hst laidOut (by kernel_rfl) (of_decide_eq_true (by kernel_rfl)) h0 (fun x hx => hlt x (by simp [hx])) sp (fun x hx => hsp x (by simp [hx]))) (arg_stays hst laidOut (by kernel_rfl) (of_decide_eq_true (by kernel_rfl)) h1 (fun x hx => hlt x (by simp [hx])) sp (fun x hx => hsp x (by simp [hx]))))
    (fun _ _ => rfl) (by simp) hst.stays (ok_one (by kernel_rfl) rfl (okWide_bool_mk Tryz.underlying4 _))⟩
noncomputable def laidWorld (os : Os) : World := World.laidAll Tryz.prog os Rows.renameLikesRow.laid
theorem laid_met (os : Os) : laidMet Tryz.prog Rows.renameLikesRow.laid ((laidWorld os).forCall (fun _ _ => 0) ⟨#[], #[.slice none 0 0, .slice none 0 0], []⟩).memory :=
  laidMet_laidAll _ (by kernel_rfl) (by kernel_rfl)
theorem reads (os : Os) {H : Type} (enc : TypeId × Value → H) : ∃ places, DataW.whole enc Tryz.prog ((laidWorld os).forCall (fun _ _ => 0) ⟨#[], #[.slice none 0 0, .slice none 0 0], []⟩).memory Tryz.f3.params.toList Rows.renameLikesSpec.vars false (#[Value.slice none 0 0, Value.slice none 0 0] : Array Value).toList 8 = some ([.nil, .nil], [], places) :=
  ⟨[], by kernel_rfl⟩
theorem witness_row_shaped {H : Type} {enc : TypeId × Value → H} {C : Checked} {os : Os} {f : FuncId} {fn : Func} {s : OpenSpec} {conds : List PathCond} {apart : Bool} {laid : List (String × DataW Unit)} (modest : Bool) (w0 : World) (args : Array Value) (hos : w0.os = os)
    (hsh : (w0.forCall (fun _ _ => 0) ⟨#[], args, []⟩).Shaped C.prog)
    (hok : Input.okWideB C.prog (w0.forCall (fun _ _ => 0) ⟨#[], args, []⟩) f ⟨#[], args, []⟩ = true)
    (hrow : s.preRow enc C.prog fn conds apart laid (w0.forCall (fun _ _ => 0) ⟨#[], args, []⟩).memory args) :
    ∃ (w : World) (tape : Tape) (i : Input), w.os = os ∧ (w.forCall tape i).Shaped C.prog ∧ i.vars = [] ∧ Input.okWide C.prog (w.forCall tape i) .any w.heap.size f i ∧
      s.preRow enc C.prog fn conds apart laid (w.forCall tape i).memory i.args ∧ ({ modest := modest } : Assume).holds C.prog (lone (Frame.enter C.prog f i.args .normal) [] (w.forCall tape i)) :=
  ⟨w0, fun _ _ => 0, ⟨#[], args, []⟩, hos, hsh, (Input.okWide_of_okWideB (base := 0) hok).1, (Input.okWide_of_okWideB hok).2, hrow, by
    simp only [Assume.holds]
    exact ⟨by simp, by simp, fun _ => Modest.zero, by simp, by simp⟩⟩
theorem shaped (os : Os) : ((laidWorld os).forCall (fun _ _ => 0) ⟨#[], #[.slice none 0 0, .slice none 0 0], []⟩).Shaped Tryz.prog := World.shaped_of_ZipB (by kernel_rfl) (by kernel_rfl)
set_option maxRecDepth 100000 in
theorem lifted (os : Os) (started : os.Started) (H : Type) (enc : TypeId × Value → H) (F : Stop.Interp) :
    ReturnsInHanded {} Tryz.checked os 3 .any ((OpenSpec.ofChange Rows.renameLikesSpec).preRow enc Tryz.prog Tryz.f3 Rows.renameLikesRow.domain false Rows.renameLikesRow.laid) (((OpenSpec.ofChange Rows.renameLikesSpec).at F).post enc Tryz.prog Tryz.f3 false true false false) := by
  obtain ⟨places, hx⟩ := reads os enc
  refine returnsInHanded_of_row (C := Tryz.checked) (s := OpenSpec.ofChange Rows.renameLikesSpec) own started (by kernel_rfl) Tryz.func3
    (witness_row_shaped (enc := enc) (C := Tryz.checked) false (laidWorld os) #[.slice none 0 0, .slice none 0 0] (World.laidAll_os _ _ _) (shaped os) (by kernel_rfl)
      (OpenSpec.preRow_of_cond 8 hx (by kernel_rfl) (fun k hk => by cases hk) (by kernel_rfl) (laid_met os))) ?_
  intro W base args ds gs before hval hW _ _ _ hL _ _
  exact contract H enc W base args ds gs before hval hW hL
set_option maxRecDepth 100000 in
theorem said : Rows.RenameLikesSaid :=
  OpenClaim.holds_of_cond 3 Tryz.f3 rfl rfl rfl rfl rfl rfl rfl ⟨rfl, rfl, rfl, rfl, rfl⟩ rfl rfl rfl rfl rfl (by kernel_rfl) Tryz.func3 closed
    (of_decide_eq_true (by kernel_rfl)) (by unfold Func.isWrapper; first | (rw [if_pos (by decide +kernel)]; kernel_rfl) | (rw [if_neg (by decide +kernel)]; exact ⟨rfl, rfl⟩))
    (fun os started H enc _ F => by rw [OpenClaim.pre_eq_preRow]; exact lifted os started H enc F)
set_option maxRecDepth 100000 in
theorem plain (f : FuncId) (fn : Func) (hf : Tryz.pinned.checked.prog.funcNamed "codicil/codicillaw20.RenameLikes" = some f) (hfn : Tryz.pinned.checked.prog.funcs[f]? = some fn) :
    false = Tryz.pinned.checked.prog.looks [] ∧ ∀ (j : Nat) t, fn.params[j]? = some t → Tryz.pinned.checked.prog.wantsStandIn t = false := by
  obtain rfl : f = 3 := Option.some.inj ((show Tryz.prog.funcNamed "codicil/codicillaw20.RenameLikes" = some 3 by kernel_rfl).symm.trans hf) |>.symm
  obtain rfl : fn = Tryz.f3 := (Option.some.inj (Tryz.func3.symm.trans hfn)).symm
  refine ⟨by kernel_rfl, fun j t ht => ?_⟩
  rw [Tryz.params3] at ht
  obtain rfl : t = 22 := by simpa using Array.mem_of_getElem? ht
  exact (show Tryz.prog.wantsStandIn 22 = false by kernel_rfl)
set_option maxRecDepth 100000 in
theorem card : Rows.RenameLikesCardSaid :=
  Claim7.holds_tied_plain_at .later [] _ _ _ _ said (fun _ h => by cases h) (by kernel_rfl) (fun _ h => by cases h) renameLikes_row_tie rfl ⟨rfl, rfl⟩ (by kernel_rfl) rfl plain (by kernel_rfl)
end Go.Proofs.YtcphjmgfgfjnpaaGreatDoor.renameLikes
