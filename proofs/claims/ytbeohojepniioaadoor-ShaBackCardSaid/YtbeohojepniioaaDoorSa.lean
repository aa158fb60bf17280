/-
  Told functions; printed by a tool of this workplace. No condition.
-/
import Derived.Test.YtbeohojepniioaaDoorNm
set_option linter.unusedVariables false
namespace Go.Proofs.YtbeohojepniioaaDoor
open Go Ev
/-! codicil/sha.Block -/
namespace sha_Block
noncomputable def B : Code := cBody (PP.funcs.getD 10 default)
abbrev K2 : Slots := [(2, .any), (3, .any), (4, .any)]
abbrev P2 := V × V × V × Unit
abbrev K4 : Slots := [(2, .any), (3, .any), (4, .any), (5, .any)]
abbrev P4 := V × V × V × V × Unit
abbrev K6 : Slots := [(2, .any), (3, .any), (4, .any), (5, .any), (23, .int .i64)]
abbrev P6 := V × V × V × V × Int × Unit
abbrev K8 : Slots := [(2, .any), (3, .any), (4, .any), (5, .any), (23, .int .i64), (24, .bool)]
abbrev P8 := V × V × V × V × Int × Bool × Unit
abbrev K10 : Slots := [(2, .any), (3, .any), (4, .any), (5, .any), (6, .int .i64), (23, .int .i64)]
abbrev P10 := V × V × V × V × Int × Int × Unit
abbrev K15 : Slots := [(2, .any), (4, .any), (5, .any)]
abbrev P15 := V × V × V × Unit
abbrev K16 : Slots := [(2, .any), (4, .any), (5, .any), (7, .int .i64)]
abbrev P16 := V × V × V × Int × Unit
abbrev K18 : Slots := [(2, .any), (4, .any), (5, .any), (7, .int .i64), (59, .bool)]
abbrev P18 := V × V × V × Int × Bool × Unit
abbrev K22 : Slots := [(2, .any), (4, .any), (5, .any), (7, .int .i64), (8, .int .u32), (9, .int .u32)]
abbrev P22 := V × V × V × Int × Int × Int × Unit
abbrev K24 : Slots := [(2, .any), (4, .any), (5, .any), (7, .int .i64), (9, .int .u32), (10, .int .u32)]
abbrev P24 := V × V × V × Int × Int × Int × Unit
abbrev K26 : Slots := [(2, .any), (4, .any), (5, .any), (7, .int .i64), (10, .int .u32), (11, .int .u32)]
abbrev P26 := V × V × V × Int × Int × Int × Unit
abbrev K30 : Slots := [(2, .any), (4, .any), (5, .any), (12, .int .u32), (13, .int .u32), (14, .int .u32), (15, .int .u32), (16, .int .u32), (17, .int .u32), (18, .int .u32), (19, .int .u32)]
abbrev P30 := V × V × V × Int × Int × Int × Int × Int × Int × Int × Int × Unit
abbrev K32 : Slots := [(2, .any), (4, .any), (5, .any), (12, .int .u32), (13, .int .u32), (14, .int .u32), (15, .int .u32), (16, .int .u32), (17, .int .u32), (18, .int .u32), (19, .int .u32), (117, .int .i64)]
abbrev P32 := V × V × V × Int × Int × Int × Int × Int × Int × Int × Int × Int × Unit
abbrev K34 : Slots := [(2, .any), (4, .any), (5, .any), (12, .int .u32), (13, .int .u32), (14, .int .u32), (15, .int .u32), (16, .int .u32), (17, .int .u32), (18, .int .u32), (19, .int .u32), (117, .int .i64), (118, .bool)]
abbrev P34 := V × V × V × Int × Int × Int × Int × Int × Int × Int × Int × Int × Bool × Unit
abbrev K36 : Slots := [(2, .any), (4, .any), (5, .any), (12, .int .u32), (13, .int .u32), (14, .int .u32), (15, .int .u32), (16, .int .u32), (17, .int .u32), (18, .int .u32), (19, .int .u32), (20, .int .i64), (117, .int .i64)]
abbrev P36 := V × V × V × Int × Int × Int × Int × Int × Int × Int × Int × Int × Int × Unit
abbrev K38 : Slots := [(2, .any), (4, .any), (5, .any), (12, .int .u32), (13, .int .u32), (14, .int .u32), (15, .int .u32), (16, .int .u32), (17, .int .u32), (18, .int .u32), (21, .int .u32), (117, .int .i64)]
abbrev P38 := V × V × V × Int × Int × Int × Int × Int × Int × Int × Int × Int × Unit
abbrev K40 : Slots := [(2, .any), (4, .any), (5, .any), (12, .int .u32), (13, .int .u32), (14, .int .u32), (15, .int .u32), (16, .int .u32), (17, .int .u32), (18, .int .u32), (21, .int .u32), (22, .int .u32), (117, .int .i64)]
abbrev P40 := V × V × V × Int × Int × Int × Int × Int × Int × Int × Int × Int × Int × Unit
abbrev K45 : Slots := [(2, .any), (4, .any), (12, .int .u32), (13, .int .u32), (14, .int .u32), (15, .int .u32), (16, .int .u32), (17, .int .u32), (18, .int .u32), (19, .int .u32)]
abbrev P45 := V × V × Int × Int × Int × Int × Int × Int × Int × Int × Unit
abbrev K46 : Slots := [(4, .any)]
abbrev P46 := V × Unit
def lv : Nat → Option Slots := fun k =>
  bif Nat.beq k 2 then some K2 else bif Nat.beq k 4 then some K4 else bif Nat.beq k 6 then some K6 else bif Nat.beq k 8 then some K8 else bif Nat.beq k 9 then some K6 else bif Nat.beq k 10 then some K10 else bif Nat.beq k 12 then some K6 else bif Nat.beq k 13 then some K6 else bif Nat.beq k 14 then some K6 else bif Nat.beq k 7 then some K6 else bif Nat.beq k 15 then some K15 else bif Nat.beq k 16 then some K16 else bif Nat.beq k 18 then some K18 else bif Nat.beq k 21 then some K16 else bif Nat.beq k 22 then some K22 else bif Nat.beq k 24 then some K24 else bif Nat.beq k 26 then some K26 else bif Nat.beq k 28 then some K16 else bif Nat.beq k 19 then some K16 else bif Nat.beq k 20 then some K16 else bif Nat.beq k 17 then some K16 else bif Nat.beq k 29 then some K15 else bif Nat.beq k 30 then some K30 else bif Nat.beq k 32 then some K32 else bif Nat.beq k 34 then some K34 else bif Nat.beq k 35 then some K32 else bif Nat.beq k 36 then some K36 else bif Nat.beq k 38 then some K38 else bif Nat.beq k 40 then some K40 else bif Nat.beq k 42 then some K32 else bif Nat.beq k 43 then some K32 else bif Nat.beq k 44 then some K32 else bif Nat.beq k 33 then some K32 else bif Nat.beq k 45 then some K45 else bif Nat.beq k 46 then some K46 else none
abbrev KR : Slots := [(4, .any)]
abbrev PR := V × Unit
noncomputable def ret : P46 → AH → Res
| (x4, _), h => finW [ldA 8 x4 h] h
theorem ret_eq (e : Cx) : fin (cfgS e) (foLive lv) (PP.funcs.getD 10 default) = jk K46 ret := by kernel_rfl
noncomputable def c0 (e : Cx) (J : P4 → AH → Res) : List V × List V × Unit → AH → Res
| (a0, a1, _), h =>
  cV (absBox T_a8_uint32 (.agg a0) h) fun x1 h2 =>
  cV (absBox T_a64_uint8 (.agg a1) h2) fun x3 h4 =>
  let x5 := (al (List.replicate 8 (.int .u32 0)) T_a8_uint32 h4).1
  let h6 := (al (List.replicate 8 (.int .u32 0)) T_a8_uint32 h4).2
  let x7 := (al (List.replicate 64 (.int .u32 0)) T_a64_uint32 h6).1
  let h8 := (al (List.replicate 64 (.int .u32 0)) T_a64_uint32 h6).2
  J (x1, x3, x5, x7, ()) h8
theorem c0_eq (e : Cx) (a0 : List V) (a1 : List V) (h : AH) (n : Kn) (ee : Ke) (r : Kn) : runL (cfgS e) lv 213 e.F (peel 2 (cP [0] B)).1 (iniT [(.agg a0), (.agg a1)] 0 .leaf) h n ee r = c0 e (fun t h => n (mkT K4 t) h) (a0, a1, ()) h := by kernel_rfl
noncomputable def c14 (e : Cx) (J : P30 → AH → Res) : P15 → AH → Res
| (x21, x22, x23, _), h =>
  bV (ixA 8 1 x21 0) h fun x24 h25 =>
  bI .u32 (ld x24 h25) h25 fun x26 h27 =>
  bV (ixA 8 1 x21 1) h27 fun x28 h29 =>
  bI .u32 (ld x28 h29) h29 fun x30 h31 =>
  bV (ixA 8 1 x21 2) h31 fun x32 h33 =>
  bI .u32 (ld x32 h33) h33 fun x34 h35 =>
  bV (ixA 8 1 x21 3) h35 fun x36 h37 =>
  bI .u32 (ld x36 h37) h37 fun x38 h39 =>
  bV (ixA 8 1 x21 4) h39 fun x40 h41 =>
  bI .u32 (ld x40 h41) h41 fun x42 h43 =>
  bV (ixA 8 1 x21 5) h43 fun x44 h45 =>
  bI .u32 (ld x44 h45) h45 fun x46 h47 =>
  bV (ixA 8 1 x21 6) h47 fun x48 h49 =>
  bI .u32 (ld x48 h49) h49 fun x50 h51 =>
  bV (ixA 8 1 x21 7) h51 fun x52 h53 =>
  bI .u32 (ld x52 h53) h53 fun x54 h55 =>
  J (x21, x22, x23, x26, x30, x34, x38, x42, x46, x50, x54, ()) h55
theorem c14_eq (e : Cx) (x21 : V) (x22 : V) (x23 : V) (h : AH) (n : Kn) (ee : Ke) (r : Kn) : runL (cfgS e) lv 213 e.F (peel 1 (cP [4] B)).1 (mkT K15 (x21, x22, x23, ())) h n ee r = c14 e (fun t h => n (mkT K30 t) h) (x21, x22, x23, ()) h := by kernel_rfl
noncomputable def c22 (e : Cx) (J : P46 → AH → Res) : P45 → AH → Res
| (x79, x80, x81, x82, x83, x84, x85, x86, x87, x88, _), h =>
  bV (ixA 8 1 x79 0) h fun x89 h90 =>
  bI .u32 (ld x89 h90) h90 fun x91 h92 =>
  bV (ixA 8 1 x79 1) h92 fun x93 h94 =>
  bI .u32 (ld x93 h94) h94 fun x95 h96 =>
  bV (ixA 8 1 x79 2) h96 fun x97 h98 =>
  bI .u32 (ld x97 h98) h98 fun x99 h100 =>
  bV (ixA 8 1 x79 3) h100 fun x101 h102 =>
  bI .u32 (ld x101 h102) h102 fun x103 h104 =>
  bV (ixA 8 1 x79 4) h104 fun x105 h106 =>
  bI .u32 (ld x105 h106) h106 fun x107 h108 =>
  bV (ixA 8 1 x79 5) h108 fun x109 h110 =>
  bI .u32 (ld x109 h110) h110 fun x111 h112 =>
  bV (ixA 8 1 x79 6) h112 fun x113 h114 =>
  bI .u32 (ld x113 h114) h114 fun x115 h116 =>
  bV (ixA 8 1 x79 7) h116 fun x117 h118 =>
  bI .u32 (ld x117 h118) h118 fun x119 h120 =>
  bA (bld [(0, 1, (.int .u32 (wr .u32 (x91 + x81)))), (1, 1, (.int .u32 (wr .u32 (x95 + x82)))), (2, 1, (.int .u32 (wr .u32 (x99 + x83)))), (3, 1, (.int .u32 (wr .u32 (x103 + x84)))), (4, 1, (.int .u32 (wr .u32 (x107 + x85)))), (5, 1, (.int .u32 (wr .u32 (x111 + x86)))), (6, 1, (.int .u32 (wr .u32 (x115 + x87)))), (7, 1, (.int .u32 (wr .u32 (x119 + x88))))] (List.replicate 8 (.int .u32 0))) h120 fun x121 h122 =>
  bS (st 8 x80 (.agg x121) h122) fun h123 =>
  J (x80, ()) h123
theorem c22_eq (e : Cx) (x79 : V) (x80 : V) (x81 : Int) (x82 : Int) (x83 : Int) (x84 : Int) (x85 : Int) (x86 : Int) (x87 : Int) (x88 : Int) (h : AH) (n : Kn) (ee : Ke) (r : Kn) : runL (cfgS e) lv 213 e.F (peel 1 (cP [6] B)).1 (mkT K45 (x79, x80, x81, x82, x83, x84, x85, x86, x87, x88, ())) h n ee r = c22 e (fun t h => n (mkT K46 t) h) (x79, x80, x81, x82, x83, x84, x85, x86, x87, x88, ()) h := by kernel_rfl
noncomputable def r22 (e : Cx) (Jn : P46 → AH → Res) (Jr : P46 → AH → Res) : P45 → AH → Res
| (x79, x80, x81, x82, x83, x84, x85, x86, x87, x88, _), h =>
  c22 e Jr (x79, x80, x81, x82, x83, x84, x85, x86, x87, x88, ()) h
theorem r22_eq (e : Cx) (Jn : P46 → AH → Res) (Jr : P46 → AH → Res) : ∀ t h, exL (cfgS e) lv 213 e.F (cP [6] B) (mkT K45 t) h (jk K46 Jn) (exK []) (jk K46 Jr) = r22 e Jn Jr t h
| (x79, x80, x81, x82, x83, x84, x85, x86, x87, x88, _), h => nd_chain' (X := cP [6] B) (Y := (cP [7] B)) 1 (L := K46) (S := fun J => c22 e J (x79, x80, x81, x82, x83, x84, x85, x86, x87, x88, ()) h) (Q := Jr) (by kernel_rfl) (fun n => c22_eq e x79 x80 x81 x82 x83 x84 x85 x86 x87 x88 h n (exK []) (jk K46 Jr)) (fun t h => by kernel_rfl)
noncomputable def c15 (e : Cx) (J : P32 → AH → Res) : P30 → AH → Res
| (x68, x69, x70, x71, x72, x73, x74, x75, x76, x77, x78, _), h =>
  J (x68, x69, x70, x71, x72, x73, x74, x75, x76, x77, x78, 0, ()) h
theorem c15_eq (e : Cx) (x68 : V) (x69 : V) (x70 : V) (x71 : Int) (x72 : Int) (x73 : Int) (x74 : Int) (x75 : Int) (x76 : Int) (x77 : Int) (x78 : Int) (h : AH) (n : Kn) (ee : Ke) (r : Kn) : runL (cfgS e) lv 213 e.F (peel 1 (cP [5, 0] B)).1 (mkT K30 (x68, x69, x70, x71, x72, x73, x74, x75, x76, x77, x78, ())) h n ee r = c15 e (fun t h => n (mkT K32 t) h) (x68, x69, x70, x71, x72, x73, x74, x75, x76, x77, x78, ()) h := by kernel_rfl
noncomputable def c16 (e : Cx) (J : P34 → AH → Res) : P32 → AH → Res
| (x151, x152, x153, x154, x155, x156, x157, x158, x159, x160, x161, x162, _), h =>
  J (x151, x152, x153, x154, x155, x156, x157, x158, x159, x160, x161, x162, (decide (x162 < 64)), ()) h
theorem c16_eq (e : Cx) (x151 : V) (x152 : V) (x153 : V) (x154 : Int) (x155 : Int) (x156 : Int) (x157 : Int) (x158 : Int) (x159 : Int) (x160 : Int) (x161 : Int) (x162 : Int) (h : AH) (n : Kn) (ee : Ke) (r : Kn) : runL (cfgS e) lv 213 e.F (peel 1 (cP [5, 3] B)).1 (mkT K32 (x151, x152, x153, x154, x155, x156, x157, x158, x159, x160, x161, x162, ())) h n ee r = c16 e (fun t h => n (mkT K34 t) h) (x151, x152, x153, x154, x155, x156, x157, x158, x159, x160, x161, x162, ()) h := by kernel_rfl
noncomputable def c21 (e : Cx) (J : P32 → AH → Res) : P32 → AH → Res
| (x202, x203, x204, x205, x206, x207, x208, x209, x210, x211, x212, x213, _), h =>
  J (x202, x203, x204, x205, x206, x207, x208, x209, x210, x211, x212, (wr .i64 (x213 + 1)), ()) h
theorem c21_eq (e : Cx) (x202 : V) (x203 : V) (x204 : V) (x205 : Int) (x206 : Int) (x207 : Int) (x208 : Int) (x209 : Int) (x210 : Int) (x211 : Int) (x212 : Int) (x213 : Int) (h : AH) (n : Kn) (ee : Ke) (r : Kn) : runL (cfgS e) lv 213 e.F (peel 1 (cP [5, 6] B)).1 (mkT K32 (x202, x203, x204, x205, x206, x207, x208, x209, x210, x211, x212, x213, ())) h n ee r = c21 e (fun t h => n (mkT K32 t) h) (x202, x203, x204, x205, x206, x207, x208, x209, x210, x211, x212, x213, ()) h := by kernel_rfl
noncomputable def r21 (e : Cx) (Jn : P32 → AH → Res) (J4 : P45 → AH → Res) (Jr : P46 → AH → Res) : P32 → AH → Res
| (x202, x203, x204, x205, x206, x207, x208, x209, x210, x211, x212, x213, _), h =>
  c21 e Jn (x202, x203, x204, x205, x206, x207, x208, x209, x210, x211, x212, x213, ()) h
theorem r21_eq (e : Cx) (Jn : P32 → AH → Res) (J4 : P45 → AH → Res) (Jr : P46 → AH → Res) : ∀ t h, exL (cfgS e) lv 213 e.F (cP [5, 6] B) (mkT K32 t) h (jk K32 Jn) (exK [(4, (jk K45 J4))]) (jk K46 Jr) = r21 e Jn J4 Jr t h
| (x202, x203, x204, x205, x206, x207, x208, x209, x210, x211, x212, x213, _), h => nd_chain' (X := cP [5, 6] B) (Y := .skip) 1 (L := K32) (S := fun J => c21 e J (x202, x203, x204, x205, x206, x207, x208, x209, x210, x211, x212, x213, ()) h) (Q := Jn) (by kernel_rfl) (fun n => c21_eq e x202 x203 x204 x205 x206 x207 x208 x209 x210 x211 x212 x213 h n (exK [(4, (jk K45 J4))]) (jk K46 Jr)) (fun t h => by kernel_rfl)
noncomputable def c17 (e : Cx) (J : P32 → AH → Res) : P32 → AH → Res
| (x190, x191, x192, x193, x194, x195, x196, x197, x198, x199, x200, x201, _), h =>
  cI .u32 (quiet (fun h => e.C n_math_bits_RotateLeft32 [(.int .u32 x197), (.int .i64 (-6))] h) h) fun x227 h228 =>
  cI .u32 (quiet (fun h => e.C n_math_bits_RotateLeft32 [(.int .u32 x197), (.int .i64 (-11))] h) h228) fun x229 h230 =>
  cI .u32 (quiet (fun h => e.C n_math_bits_RotateLeft32 [(.int .u32 x197), (.int .i64 (-25))] h) h230) fun x231 h232 =>
  let x233 : Int := (wr .u32 (x200 + (ixor .u32 (ixor .u32 x227 x229) x231)))
  let x234 : Int := (ior .u32 (iand .u32 x197 x198) (iand .u32 (inot .u32 x197) x199))
  bV (ixA 64 1 (.ptr ⟨0, GL0, 0⟩) x201) h232 fun x235 h236 =>
  bI .u32 (ld x235 h236) h236 fun x237 h238 =>
  let x239 : Int := (wr .u32 ((wr .u32 (x233 + x234)) + x237))
  bV (ixA 64 1 x192 x201) h238 fun x240 h241 =>
  bI .u32 (ld x240 h241) h241 fun x242 h243 =>
  cI .u32 (e.C n_math_bits_RotateLeft32 [(.int .u32 x193), (.int .i64 (-2))] h243) fun x244 h245 =>
  cI .u32 (e.C n_math_bits_RotateLeft32 [(.int .u32 x193), (.int .i64 (-13))] h245) fun x246 h247 =>
  cI .u32 (e.C n_math_bits_RotateLeft32 [(.int .u32 x193), (.int .i64 (-22))] h247) fun x248 h249 =>
  let x250 : Int := (ixor .u32 (iand .u32 x193 x194) (iand .u32 x193 x195))
  let x251 : Int := (wr .u32 ((ixor .u32 (ixor .u32 x244 x246) x248) + (ixor .u32 x250 (iand .u32 x194 x195))))
  let x252 : Int := (wr .u32 ((wr .u32 (x239 + x242)) + x251))
  let x253 : Int := (wr .u32 (x196 + (wr .u32 (x239 + x242))))
  J (x190, x191, x192, x252, x193, x194, x195, x253, x197, x198, x199, x201, ()) h249
theorem c17_eq (e : Cx) (x190 : V) (x191 : V) (x192 : V) (x193 : Int) (x194 : Int) (x195 : Int) (x196 : Int) (x197 : Int) (x198 : Int) (x199 : Int) (x200 : Int) (x201 : Int) (h : AH) (n : Kn) (ee : Ke) (r : Kn) : runL (cfgS e) lv 213 e.F (peel 4 (cP [5, 5, 1] B)).1 (mkT K32 (x190, x191, x192, x193, x194, x195, x196, x197, x198, x199, x200, x201, ())) h n ee r = c17 e (fun t h => n (mkT K32 t) h) (x190, x191, x192, x193, x194, x195, x196, x197, x198, x199, x200, x201, ()) h := by kernel_rfl
noncomputable def r17 (e : Cx) (Jn : P32 → AH → Res) (J4 : P45 → AH → Res) (Jr : P46 → AH → Res) : P32 → AH → Res
| (x190, x191, x192, x193, x194, x195, x196, x197, x198, x199, x200, x201, _), h =>
  c17 e (r21 e Jn J4 Jr) (x190, x191, x192, x193, x194, x195, x196, x197, x198, x199, x200, x201, ()) h
theorem r17_eq (e : Cx) (Jn : P32 → AH → Res) (J4 : P45 → AH → Res) (Jr : P46 → AH → Res) : ∀ t h, exL (cfgS e) lv 213 e.F (cP [5, 5] B) (mkT K32 t) h (jk K32 Jn) (exK [(4, (jk K45 J4))]) (jk K46 Jr) = r17 e Jn J4 Jr t h
| (x190, x191, x192, x193, x194, x195, x196, x197, x198, x199, x200, x201, _), h => (nd_norm' (X := (cP [5, 5] B)) (a := cP [5, 5, 0] B) (b := cP [5, 6] B) (L := K32) (by kernel_rfl) (by kernel_rfl) (by kernel_rfl) (SB := (r21 e Jn J4 Jr)) (r21_eq e Jn J4 Jr) _ _).trans (nd_block' (X := cP [5, 5, 0] B) (id := 5) (b := cP [5, 5, 1] B) (by kernel_rfl) (nd_chain' (X := cP [5, 5, 1] B) (Y := .skip) 4 (L := K32) (S := fun J => c17 e J (x190, x191, x192, x193, x194, x195, x196, x197, x198, x199, x200, x201, ()) h) (Q := (r21 e Jn J4 Jr)) (by kernel_rfl) (fun n => c17_eq e x190 x191 x192 x193 x194 x195 x196 x197 x198 x199 x200 x201 h n (exK [(5, (jk K32 (r21 e Jn J4 Jr))), (4, (jk K45 J4))]) (jk K46 Jr)) (fun t h => by kernel_rfl)))
noncomputable def k16 (e : Cx) (Jn : P32 → AH → Res) (J4 : P45 → AH → Res) (Jr : P46 → AH → Res) : P34 → AH → Res
| (x177, x178, x179, x180, x181, x182, x183, x184, x185, x186, x187, x188, x189, _), h =>
  bif x189 then (r17 e Jn J4 Jr) (x177, x178, x179, x180, x181, x182, x183, x184, x185, x186, x187, x188, ()) h else J4 (x177, x178, x180, x181, x182, x183, x184, x185, x186, x187, ()) h
theorem k16_eq (e : Cx) (Jn : P32 → AH → Res) (J4 : P45 → AH → Res) (Jr : P46 → AH → Res) : ∀ t h, exL (cfgS e) lv 213 e.F (cP [5, 4] B) (mkT K34 t) h (jk K32 Jn) (exK [(4, (jk K45 J4))]) (jk K46 Jr) = k16 e Jn J4 Jr t h
| (x177, x178, x179, x180, x181, x182, x183, x184, x185, x186, x187, x188, x189, _), h => (nd_norm' (X := (cP [5, 4] B)) (a := cP [5, 4, 0] B) (b := cP [5, 5] B) (L := K32) (by kernel_rfl) (by kernel_rfl) (by kernel_rfl) (SB := (r17 e Jn J4 Jr)) (r17_eq e Jn J4 Jr) _ _).trans (nd_cond' (X := cP [5, 4, 0] B) (a := cP [5, 4, 0, 0] B) (b := cP [5, 4, 1] B) (t := x189) (x := .tmp 118) (by kernel_rfl) (by kernel_rfl) (by kernel_rfl) (by kernel_rfl))
noncomputable def l16 (e : Cx) (Jn : P32 → AH → Res) (J4 : P45 → AH → Res) (Jr : P46 → AH → Res) : P32 → AH → Res
| (x151, x152, x153, x154, x155, x156, x157, x158, x159, x160, x161, x162, _), h =>
  c16 e (k16 e Jn J4 Jr) (x151, x152, x153, x154, x155, x156, x157, x158, x159, x160, x161, x162, ()) h
theorem l16_eq (e : Cx) (Jn : P32 → AH → Res) (J4 : P45 → AH → Res) (Jr : P46 → AH → Res) : ∀ t h, exL (cfgS e) lv 213 e.F (cP [5, 3] B) (mkT K32 t) h (jk K32 Jn) (exK [(4, (jk K45 J4))]) (jk K46 Jr) = l16 e Jn J4 Jr t h
| (x151, x152, x153, x154, x155, x156, x157, x158, x159, x160, x161, x162, _), h => nd_chain' (X := cP [5, 3] B) (Y := (cP [5, 4] B)) 1 (L := K34) (S := fun J => c16 e J (x151, x152, x153, x154, x155, x156, x157, x158, x159, x160, x161, x162, ()) h) (Q := (k16 e Jn J4 Jr)) (by kernel_rfl) (fun n => c16_eq e x151 x152 x153 x154 x155 x156 x157 x158 x159 x160 x161 x162 h n (exK [(4, (jk K45 J4))]) (jk K46 Jr)) (k16_eq e Jn J4 Jr)
noncomputable def k15 (e : Cx) (Jn : P45 → AH → Res) (Jr : P46 → AH → Res) : P32 → AH → Res
| (x139, x140, x141, x142, x143, x144, x145, x146, x147, x148, x149, x150, _), h =>
  loopN (P32) e.F (fun t h n => l16 e n Jn Jr t h) (x139, x140, x141, x142, x143, x144, x145, x146, x147, x148, x149, x150, ()) h
theorem k15_eq (e : Cx) (Jn : P45 → AH → Res) (Jr : P46 → AH → Res) : ∀ t h, exL (cfgS e) lv 213 e.F (cP [5, 1] B) (mkT K32 t) h (jk K45 Jn) (exK []) (jk K46 Jr) = k15 e Jn Jr t h
| (x139, x140, x141, x142, x143, x144, x145, x146, x147, x148, x149, x150, _), h => nd_block' (X := cP [5, 1] B) (id := 4) (b := cP [5, 2] B) (by kernel_rfl) ((nd_loop' (X := cP [5, 2] B) (b := cP [5, 3] B) (L := K32) (by kernel_rfl) (by kernel_rfl) (SB := fun n => l16 e n Jn Jr) (fun n => l16_eq e n Jn Jr) _ _).trans (by kernel_rfl))
noncomputable def k14 (e : Cx) (Jn : P46 → AH → Res) (Jr : P46 → AH → Res) : P30 → AH → Res
| (x68, x69, x70, x71, x72, x73, x74, x75, x76, x77, x78, _), h =>
  c15 e (k15 e (r22 e Jn Jr) Jr) (x68, x69, x70, x71, x72, x73, x74, x75, x76, x77, x78, ()) h
theorem k14_eq (e : Cx) (Jn : P46 → AH → Res) (Jr : P46 → AH → Res) : ∀ t h, exL (cfgS e) lv 213 e.F (cP [5] B) (mkT K30 t) h (jk K46 Jn) (exK []) (jk K46 Jr) = k14 e Jn Jr t h
| (x68, x69, x70, x71, x72, x73, x74, x75, x76, x77, x78, _), h => (nd_norm' (X := (cP [5] B)) (a := cP [5, 0] B) (b := cP [6] B) (L := K45) (by kernel_rfl) (by kernel_rfl) (by kernel_rfl) (SB := (r22 e Jn Jr)) (r22_eq e Jn Jr) _ _).trans (nd_chain' (X := cP [5, 0] B) (Y := (cP [5, 1] B)) 1 (L := K32) (S := fun J => c15 e J (x68, x69, x70, x71, x72, x73, x74, x75, x76, x77, x78, ()) h) (Q := (k15 e (r22 e Jn Jr) Jr)) (by kernel_rfl) (fun n => c15_eq e x68 x69 x70 x71 x72 x73 x74 x75 x76 x77 x78 h n (exK []) (jk K46 Jr)) (k15_eq e (r22 e Jn Jr) Jr))
noncomputable def r14 (e : Cx) (Jn : P46 → AH → Res) (Jr : P46 → AH → Res) : P15 → AH → Res
| (x21, x22, x23, _), h =>
  c14 e (k14 e Jn Jr) (x21, x22, x23, ()) h
theorem r14_eq (e : Cx) (Jn : P46 → AH → Res) (Jr : P46 → AH → Res) : ∀ t h, exL (cfgS e) lv 213 e.F (cP [4] B) (mkT K15 t) h (jk K46 Jn) (exK []) (jk K46 Jr) = r14 e Jn Jr t h
| (x21, x22, x23, _), h => nd_chain' (X := cP [4] B) (Y := (cP [5] B)) 1 (L := K30) (S := fun J => c14 e J (x21, x22, x23, ()) h) (Q := (k14 e Jn Jr)) (by kernel_rfl) (fun n => c14_eq e x21 x22 x23 h n (exK []) (jk K46 Jr)) (k14_eq e Jn Jr)
noncomputable def c7 (e : Cx) (J : P16 → AH → Res) : P15 → AH → Res
| (x18, x19, x20, _), h =>
  J (x18, x19, x20, 16, ()) h
theorem c7_eq (e : Cx) (x18 : V) (x19 : V) (x20 : V) (h : AH) (n : Kn) (ee : Ke) (r : Kn) : runL (cfgS e) lv 213 e.F (peel 1 (cP [3, 0] B)).1 (mkT K15 (x18, x19, x20, ())) h n ee r = c7 e (fun t h => n (mkT K16 t) h) (x18, x19, x20, ()) h := by kernel_rfl
noncomputable def c9 (e : Cx) (J : P16 → AH → Res) : P16 → AH → Res
| (x284, x285, x286, x287, _), h =>
  J (x284, x285, x286, (wr .i64 (x287 + 1)), ()) h
theorem c9_eq (e : Cx) (x284 : V) (x285 : V) (x286 : V) (x287 : Int) (h : AH) (n : Kn) (ee : Ke) (r : Kn) : runL (cfgS e) lv 213 e.F (peel 1 (cP [3, 5] B)).1 (mkT K16 (x284, x285, x286, x287, ())) h n ee r = c9 e (fun t h => n (mkT K16 t) h) (x284, x285, x286, x287, ()) h := by kernel_rfl
noncomputable def r9 (e : Cx) (Jn : P16 → AH → Res) (J2 : P15 → AH → Res) (Jr : P46 → AH → Res) : P16 → AH → Res
| (x284, x285, x286, x287, _), h =>
  c9 e Jn (x284, x285, x286, x287, ()) h
theorem r9_eq (e : Cx) (Jn : P16 → AH → Res) (J2 : P15 → AH → Res) (Jr : P46 → AH → Res) : ∀ t h, exL (cfgS e) lv 213 e.F (cP [3, 5] B) (mkT K16 t) h (jk K16 Jn) (exK [(2, (jk K15 J2))]) (jk K46 Jr) = r9 e Jn J2 Jr t h
| (x284, x285, x286, x287, _), h => nd_chain' (X := cP [3, 5] B) (Y := .skip) 1 (L := K16) (S := fun J => c9 e J (x284, x285, x286, x287, ()) h) (Q := Jn) (by kernel_rfl) (fun n => c9_eq e x284 x285 x286 x287 h n (exK [(2, (jk K15 J2))]) (jk K46 Jr)) (fun t h => by kernel_rfl)
noncomputable def c10 (e : Cx) (J : P16 → AH → Res) : P16 → AH → Res
| (x280, x281, x282, x283, _), h =>
  bV (ixA 64 1 x282 (wr .i64 (x283 - 15))) h fun x293 h294 =>
  bI .u32 (ld x293 h294) h294 fun x295 h296 =>
  bV (ixA 64 1 x282 (wr .i64 (x283 - 2))) h296 fun x297 h298 =>
  bI .u32 (ld x297 h298) h298 fun x299 h300 =>
  cI .u32 (e.C n_math_bits_RotateLeft32 [(.int .u32 x295), (.int .i64 (-7))] h300) fun x301 h302 =>
  cI .u32 (e.C n_math_bits_RotateLeft32 [(.int .u32 x295), (.int .i64 (-18))] h302) fun x303 h304 =>
  let x305 : Int := (ixor .u32 (ixor .u32 x301 x303) (ishr .u32 x295 3))
  cI .u32 (e.C n_math_bits_RotateLeft32 [(.int .u32 x299), (.int .i64 (-17))] h304) fun x306 h307 =>
  cI .u32 (e.C n_math_bits_RotateLeft32 [(.int .u32 x299), (.int .i64 (-19))] h307) fun x308 h309 =>
  let x310 : Int := (ixor .u32 (ixor .u32 x306 x308) (ishr .u32 x299 10))
  bV (ixA 64 1 x282 (wr .i64 (x283 - 16))) h309 fun x311 h312 =>
  bI .u32 (ld x311 h312) h312 fun x313 h314 =>
  bV (ixA 64 1 x282 (wr .i64 (x283 - 7))) h314 fun x315 h316 =>
  bI .u32 (ld x315 h316) h316 fun x317 h318 =>
  let x319 : Int := (wr .u32 ((wr .u32 (x313 + x305)) + x317))
  bV (ixA 64 1 x282 x283) h318 fun x320 h321 =>
  bS (st 1 x320 (.int .u32 (wr .u32 (x319 + x310))) h321) fun h322 =>
  J (x280, x281, x282, x283, ()) h322
theorem c10_eq (e : Cx) (x280 : V) (x281 : V) (x282 : V) (x283 : Int) (h : AH) (n : Kn) (ee : Ke) (r : Kn) : runL (cfgS e) lv 213 e.F (peel 4 (cP [3, 4, 1] B)).1 (mkT K16 (x280, x281, x282, x283, ())) h n ee r = c10 e (fun t h => n (mkT K16 t) h) (x280, x281, x282, x283, ()) h := by kernel_rfl
noncomputable def r10 (e : Cx) (Jn : P16 → AH → Res) (J2 : P15 → AH → Res) (Jr : P46 → AH → Res) : P16 → AH → Res
| (x280, x281, x282, x283, _), h =>
  c10 e (r9 e Jn J2 Jr) (x280, x281, x282, x283, ()) h
theorem r10_eq (e : Cx) (Jn : P16 → AH → Res) (J2 : P15 → AH → Res) (Jr : P46 → AH → Res) : ∀ t h, exL (cfgS e) lv 213 e.F (cP [3, 4] B) (mkT K16 t) h (jk K16 Jn) (exK [(2, (jk K15 J2))]) (jk K46 Jr) = r10 e Jn J2 Jr t h
| (x280, x281, x282, x283, _), h => (nd_norm' (X := (cP [3, 4] B)) (a := cP [3, 4, 0] B) (b := cP [3, 5] B) (L := K16) (by kernel_rfl) (by kernel_rfl) (by kernel_rfl) (SB := (r9 e Jn J2 Jr)) (r9_eq e Jn J2 Jr) _ _).trans (nd_block' (X := cP [3, 4, 0] B) (id := 3) (b := cP [3, 4, 1] B) (by kernel_rfl) (nd_chain' (X := cP [3, 4, 1] B) (Y := .skip) 4 (L := K16) (S := fun J => c10 e J (x280, x281, x282, x283, ()) h) (Q := (r9 e Jn J2 Jr)) (by kernel_rfl) (fun n => c10_eq e x280 x281 x282 x283 h n (exK [(3, (jk K16 (r9 e Jn J2 Jr))), (2, (jk K15 J2))]) (jk K46 Jr)) (fun t h => by kernel_rfl)))
noncomputable def c8 (e : Cx) (J : P18 → AH → Res) : P16 → AH → Res
| (x276, x277, x278, x279, _), h =>
  J (x276, x277, x278, x279, (decide (x279 < 64)), ()) h
theorem c8_eq (e : Cx) (x276 : V) (x277 : V) (x278 : V) (x279 : Int) (h : AH) (n : Kn) (ee : Ke) (r : Kn) : runL (cfgS e) lv 213 e.F (peel 1 (cP [3, 3, 0] B)).1 (mkT K16 (x276, x277, x278, x279, ())) h n ee r = c8 e (fun t h => n (mkT K18 t) h) (x276, x277, x278, x279, ()) h := by kernel_rfl
noncomputable def k8 (e : Cx) (Jn : P16 → AH → Res) (J2 : P15 → AH → Res) (Jr : P46 → AH → Res) : P18 → AH → Res
| (x334, x335, x336, x337, x338, _), h =>
  bif x338 then Jn (x334, x335, x336, x337, ()) h else J2 (x334, x335, x336, ()) h
theorem k8_eq (e : Cx) (Jn : P16 → AH → Res) (J2 : P15 → AH → Res) (Jr : P46 → AH → Res) : ∀ t h, exL (cfgS e) lv 213 e.F (cP [3, 3, 1] B) (mkT K18 t) h (jk K16 Jn) (exK [(2, (jk K15 J2))]) (jk K46 Jr) = k8 e Jn J2 Jr t h
| (x334, x335, x336, x337, x338, _), h => nd_cond' (X := cP [3, 3, 1] B) (a := cP [3, 3, 1, 0] B) (b := cP [3, 3, 2] B) (t := x338) (x := .tmp 59) (by kernel_rfl) (by kernel_rfl) (by kernel_rfl) (by kernel_rfl)
noncomputable def l8 (e : Cx) (Jn : P16 → AH → Res) (J2 : P15 → AH → Res) (Jr : P46 → AH → Res) : P16 → AH → Res
| (x276, x277, x278, x279, _), h =>
  c8 e (k8 e (r10 e Jn J2 Jr) J2 Jr) (x276, x277, x278, x279, ()) h
theorem l8_eq (e : Cx) (Jn : P16 → AH → Res) (J2 : P15 → AH → Res) (Jr : P46 → AH → Res) : ∀ t h, exL (cfgS e) lv 213 e.F (cP [3, 3] B) (mkT K16 t) h (jk K16 Jn) (exK [(2, (jk K15 J2))]) (jk K46 Jr) = l8 e Jn J2 Jr t h
| (x276, x277, x278, x279, _), h => (nd_norm' (X := (cP [3, 3] B)) (a := cP [3, 3, 0] B) (b := cP [3, 4] B) (L := K16) (by kernel_rfl) (by kernel_rfl) (by kernel_rfl) (SB := (r10 e Jn J2 Jr)) (r10_eq e Jn J2 Jr) _ _).trans (nd_chain' (X := cP [3, 3, 0] B) (Y := (cP [3, 3, 1] B)) 1 (L := K18) (S := fun J => c8 e J (x276, x277, x278, x279, ()) h) (Q := (k8 e (r10 e Jn J2 Jr) J2 Jr)) (by kernel_rfl) (fun n => c8_eq e x276 x277 x278 x279 h n (exK [(2, (jk K15 J2))]) (jk K46 Jr)) (k8_eq e (r10 e Jn J2 Jr) J2 Jr))
noncomputable def k7 (e : Cx) (Jn : P15 → AH → Res) (Jr : P46 → AH → Res) : P16 → AH → Res
| (x272, x273, x274, x275, _), h =>
  loopN (P16) e.F (fun t h n => l8 e n Jn Jr t h) (x272, x273, x274, x275, ()) h
theorem k7_eq (e : Cx) (Jn : P15 → AH → Res) (Jr : P46 → AH → Res) : ∀ t h, exL (cfgS e) lv 213 e.F (cP [3, 1] B) (mkT K16 t) h (jk K15 Jn) (exK []) (jk K46 Jr) = k7 e Jn Jr t h
| (x272, x273, x274, x275, _), h => nd_block' (X := cP [3, 1] B) (id := 2) (b := cP [3, 2] B) (by kernel_rfl) ((nd_loop' (X := cP [3, 2] B) (b := cP [3, 3] B) (L := K16) (by kernel_rfl) (by kernel_rfl) (SB := fun n => l8 e n Jn Jr) (fun n => l8_eq e n Jn Jr) _ _).trans (by kernel_rfl))
noncomputable def r7 (e : Cx) (Jn : P46 → AH → Res) (Jr : P46 → AH → Res) : P15 → AH → Res
| (x18, x19, x20, _), h =>
  c7 e (k7 e (r14 e Jn Jr) Jr) (x18, x19, x20, ()) h
theorem r7_eq (e : Cx) (Jn : P46 → AH → Res) (Jr : P46 → AH → Res) : ∀ t h, exL (cfgS e) lv 213 e.F (cP [3] B) (mkT K15 t) h (jk K46 Jn) (exK []) (jk K46 Jr) = r7 e Jn Jr t h
| (x18, x19, x20, _), h => (nd_norm' (X := (cP [3] B)) (a := cP [3, 0] B) (b := cP [4] B) (L := K15) (by kernel_rfl) (by kernel_rfl) (by kernel_rfl) (SB := (r14 e Jn Jr)) (r14_eq e Jn Jr) _ _).trans (nd_chain' (X := cP [3, 0] B) (Y := (cP [3, 1] B)) 1 (L := K16) (S := fun J => c7 e J (x18, x19, x20, ()) h) (Q := (k7 e (r14 e Jn Jr) Jr)) (by kernel_rfl) (fun n => c7_eq e x18 x19 x20 h n (exK []) (jk K46 Jr)) (k7_eq e (r14 e Jn Jr) Jr))
noncomputable def c2 (e : Cx) (J : P6 → AH → Res) : P4 → AH → Res
| (x14, x15, x16, x17, _), h =>
  J (x14, x15, x16, x17, 0, ()) h
theorem c2_eq (e : Cx) (x14 : V) (x15 : V) (x16 : V) (x17 : V) (h : AH) (n : Kn) (ee : Ke) (r : Kn) : runL (cfgS e) lv 213 e.F (peel 1 (cP [2, 0] B)).1 (mkT K4 (x14, x15, x16, x17, ())) h n ee r = c2 e (fun t h => n (mkT K6 t) h) (x14, x15, x16, x17, ()) h := by kernel_rfl
noncomputable def c3 (e : Cx) (J : P8 → AH → Res) : P6 → AH → Res
| (x350, x351, x352, x353, x354, _), h =>
  J (x350, x351, x352, x353, x354, (decide (x354 < 16)), ()) h
theorem c3_eq (e : Cx) (x350 : V) (x351 : V) (x352 : V) (x353 : V) (x354 : Int) (h : AH) (n : Kn) (ee : Ke) (r : Kn) : runL (cfgS e) lv 213 e.F (peel 1 (cP [2, 3] B)).1 (mkT K6 (x350, x351, x352, x353, x354, ())) h n ee r = c3 e (fun t h => n (mkT K8 t) h) (x350, x351, x352, x353, x354, ()) h := by kernel_rfl
noncomputable def c6 (e : Cx) (J : P6 → AH → Res) : P6 → AH → Res
| (x373, x374, x375, x376, x377, _), h =>
  J (x373, x374, x375, x376, (wr .i64 (x377 + 1)), ()) h
theorem c6_eq (e : Cx) (x373 : V) (x374 : V) (x375 : V) (x376 : V) (x377 : Int) (h : AH) (n : Kn) (ee : Ke) (r : Kn) : runL (cfgS e) lv 213 e.F (peel 1 (cP [2, 6] B)).1 (mkT K6 (x373, x374, x375, x376, x377, ())) h n ee r = c6 e (fun t h => n (mkT K6 t) h) (x373, x374, x375, x376, x377, ()) h := by kernel_rfl
noncomputable def r6 (e : Cx) (Jn : P6 → AH → Res) (J0 : P15 → AH → Res) (Jr : P46 → AH → Res) : P6 → AH → Res
| (x373, x374, x375, x376, x377, _), h =>
  c6 e Jn (x373, x374, x375, x376, x377, ()) h
theorem r6_eq (e : Cx) (Jn : P6 → AH → Res) (J0 : P15 → AH → Res) (Jr : P46 → AH → Res) : ∀ t h, exL (cfgS e) lv 213 e.F (cP [2, 6] B) (mkT K6 t) h (jk K6 Jn) (exK [(0, (jk K15 J0))]) (jk K46 Jr) = r6 e Jn J0 Jr t h
| (x373, x374, x375, x376, x377, _), h => nd_chain' (X := cP [2, 6] B) (Y := .skip) 1 (L := K6) (S := fun J => c6 e J (x373, x374, x375, x376, x377, ()) h) (Q := Jn) (by kernel_rfl) (fun n => c6_eq e x373 x374 x375 x376 x377 h n (exK [(0, (jk K15 J0))]) (jk K46 Jr)) (fun t h => by kernel_rfl)
noncomputable def c4 (e : Cx) (J : P6 → AH → Res) : P6 → AH → Res
| (x368, x369, x370, x371, x372, _), h =>
  bV (ixA 64 1 x369 (wr .i64 (4 * x372))) h fun x384 h385 =>
  bI .u8 (ld x384 h385) h385 fun x386 h387 =>
  bV (ixA 64 1 x369 (wr .i64 ((wr .i64 (4 * x372)) + 1))) h387 fun x388 h389 =>
  bI .u8 (ld x388 h389) h389 fun x390 h391 =>
  let x392 : Int := (ior .u32 (ishl .u32 (wr .u32 x386) 24) (ishl .u32 (wr .u32 x390) 16))
  bV (ixA 64 1 x369 (wr .i64 ((wr .i64 (4 * x372)) + 2))) h391 fun x393 h394 =>
  bI .u8 (ld x393 h394) h394 fun x395 h396 =>
  let x397 : Int := (ior .u32 x392 (ishl .u32 (wr .u32 x395) 8))
  bV (ixA 64 1 x369 (wr .i64 ((wr .i64 (4 * x372)) + 3))) h396 fun x398 h399 =>
  bI .u8 (ld x398 h399) h399 fun x400 h401 =>
  bV (ixA 64 1 x371 x372) h401 fun x402 h403 =>
  bS (st 1 x402 (.int .u32 (ior .u32 x397 (wr .u32 x400))) h403) fun h404 =>
  J (x368, x369, x370, x371, x372, ()) h404
theorem c4_eq (e : Cx) (x368 : V) (x369 : V) (x370 : V) (x371 : V) (x372 : Int) (h : AH) (n : Kn) (ee : Ke) (r : Kn) : runL (cfgS e) lv 213 e.F (peel 2 (cP [2, 5, 1] B)).1 (mkT K6 (x368, x369, x370, x371, x372, ())) h n ee r = c4 e (fun t h => n (mkT K6 t) h) (x368, x369, x370, x371, x372, ()) h := by kernel_rfl
noncomputable def r4 (e : Cx) (Jn : P6 → AH → Res) (J0 : P15 → AH → Res) (Jr : P46 → AH → Res) : P6 → AH → Res
| (x368, x369, x370, x371, x372, _), h =>
  c4 e (r6 e Jn J0 Jr) (x368, x369, x370, x371, x372, ()) h
theorem r4_eq (e : Cx) (Jn : P6 → AH → Res) (J0 : P15 → AH → Res) (Jr : P46 → AH → Res) : ∀ t h, exL (cfgS e) lv 213 e.F (cP [2, 5] B) (mkT K6 t) h (jk K6 Jn) (exK [(0, (jk K15 J0))]) (jk K46 Jr) = r4 e Jn J0 Jr t h
| (x368, x369, x370, x371, x372, _), h => (nd_norm' (X := (cP [2, 5] B)) (a := cP [2, 5, 0] B) (b := cP [2, 6] B) (L := K6) (by kernel_rfl) (by kernel_rfl) (by kernel_rfl) (SB := (r6 e Jn J0 Jr)) (r6_eq e Jn J0 Jr) _ _).trans (nd_block' (X := cP [2, 5, 0] B) (id := 1) (b := cP [2, 5, 1] B) (by kernel_rfl) (nd_chain' (X := cP [2, 5, 1] B) (Y := .skip) 2 (L := K6) (S := fun J => c4 e J (x368, x369, x370, x371, x372, ()) h) (Q := (r6 e Jn J0 Jr)) (by kernel_rfl) (fun n => c4_eq e x368 x369 x370 x371 x372 h n (exK [(1, (jk K6 (r6 e Jn J0 Jr))), (0, (jk K15 J0))]) (jk K46 Jr)) (fun t h => by kernel_rfl)))
noncomputable def k3 (e : Cx) (Jn : P6 → AH → Res) (J0 : P15 → AH → Res) (Jr : P46 → AH → Res) : P8 → AH → Res
| (x362, x363, x364, x365, x366, x367, _), h =>
  bif x367 then (r4 e Jn J0 Jr) (x362, x363, x364, x365, x366, ()) h else J0 (x362, x364, x365, ()) h
theorem k3_eq (e : Cx) (Jn : P6 → AH → Res) (J0 : P15 → AH → Res) (Jr : P46 → AH → Res) : ∀ t h, exL (cfgS e) lv 213 e.F (cP [2, 4] B) (mkT K8 t) h (jk K6 Jn) (exK [(0, (jk K15 J0))]) (jk K46 Jr) = k3 e Jn J0 Jr t h
| (x362, x363, x364, x365, x366, x367, _), h => (nd_norm' (X := (cP [2, 4] B)) (a := cP [2, 4, 0] B) (b := cP [2, 5] B) (L := K6) (by kernel_rfl) (by kernel_rfl) (by kernel_rfl) (SB := (r4 e Jn J0 Jr)) (r4_eq e Jn J0 Jr) _ _).trans (nd_cond' (X := cP [2, 4, 0] B) (a := cP [2, 4, 0, 0] B) (b := cP [2, 4, 1] B) (t := x367) (x := .tmp 24) (by kernel_rfl) (by kernel_rfl) (by kernel_rfl) (by kernel_rfl))
noncomputable def l3 (e : Cx) (Jn : P6 → AH → Res) (J0 : P15 → AH → Res) (Jr : P46 → AH → Res) : P6 → AH → Res
| (x350, x351, x352, x353, x354, _), h =>
  c3 e (k3 e Jn J0 Jr) (x350, x351, x352, x353, x354, ()) h
theorem l3_eq (e : Cx) (Jn : P6 → AH → Res) (J0 : P15 → AH → Res) (Jr : P46 → AH → Res) : ∀ t h, exL (cfgS e) lv 213 e.F (cP [2, 3] B) (mkT K6 t) h (jk K6 Jn) (exK [(0, (jk K15 J0))]) (jk K46 Jr) = l3 e Jn J0 Jr t h
| (x350, x351, x352, x353, x354, _), h => nd_chain' (X := cP [2, 3] B) (Y := (cP [2, 4] B)) 1 (L := K8) (S := fun J => c3 e J (x350, x351, x352, x353, x354, ()) h) (Q := (k3 e Jn J0 Jr)) (by kernel_rfl) (fun n => c3_eq e x350 x351 x352 x353 x354 h n (exK [(0, (jk K15 J0))]) (jk K46 Jr)) (k3_eq e Jn J0 Jr)
noncomputable def k2 (e : Cx) (Jn : P15 → AH → Res) (Jr : P46 → AH → Res) : P6 → AH → Res
| (x345, x346, x347, x348, x349, _), h =>
  loopN (P6) e.F (fun t h n => l3 e n Jn Jr t h) (x345, x346, x347, x348, x349, ()) h
theorem k2_eq (e : Cx) (Jn : P15 → AH → Res) (Jr : P46 → AH → Res) : ∀ t h, exL (cfgS e) lv 213 e.F (cP [2, 1] B) (mkT K6 t) h (jk K15 Jn) (exK []) (jk K46 Jr) = k2 e Jn Jr t h
| (x345, x346, x347, x348, x349, _), h => nd_block' (X := cP [2, 1] B) (id := 0) (b := cP [2, 2] B) (by kernel_rfl) ((nd_loop' (X := cP [2, 2] B) (b := cP [2, 3] B) (L := K6) (by kernel_rfl) (by kernel_rfl) (SB := fun n => l3 e n Jn Jr) (fun n => l3_eq e n Jn Jr) _ _).trans (by kernel_rfl))
noncomputable def k1 (e : Cx) (Jn : P46 → AH → Res) (Jr : P46 → AH → Res) : P4 → AH → Res
| (x14, x15, x16, x17, _), h =>
  c2 e (k2 e (r7 e Jn Jr) Jr) (x14, x15, x16, x17, ()) h
theorem k1_eq (e : Cx) (Jn : P46 → AH → Res) (Jr : P46 → AH → Res) : ∀ t h, exL (cfgS e) lv 213 e.F (cP [2] B) (mkT K4 t) h (jk K46 Jn) (exK []) (jk K46 Jr) = k1 e Jn Jr t h
| (x14, x15, x16, x17, _), h => (nd_norm' (X := (cP [2] B)) (a := cP [2, 0] B) (b := cP [3] B) (L := K15) (by kernel_rfl) (by kernel_rfl) (by kernel_rfl) (SB := (r7 e Jn Jr)) (r7_eq e Jn Jr) _ _).trans (nd_chain' (X := cP [2, 0] B) (Y := (cP [2, 1] B)) 1 (L := K6) (S := fun J => c2 e J (x14, x15, x16, x17, ()) h) (Q := (k2 e (r7 e Jn Jr) Jr)) (by kernel_rfl) (fun n => c2_eq e x14 x15 x16 x17 h n (exK []) (jk K46 Jr)) (k2_eq e (r7 e Jn Jr) Jr))
noncomputable def fn (e : Cx) (a0 : List V) (a1 : List V) (h : AH) : Res :=
  c0 e (k1 e ret ret) (a0, a1, ()) h
theorem run (e : Cx) (a0 : List V) (a1 : List V) (h : AH) : execFn (cfgS e) (foLive lv) e.F n_sha_Block [(.agg a0), (.agg a1)] h = fn e a0 a1 h := by
  refine (fn_eq (c := cfgS e) (lv := lv) (PP.funcs.getD 10 default) B (by kernel_rfl) (by kernel_rfl) (Nat.le_of_ble_eq_true (by kernel_rfl))).trans ?_
  rw [ret_eq]
  exact nd_chain' (X := cP [0] B) (Y := (cP [2] B)) 2 (L := K4) (S := fun J => c0 e J (a0, a1, ()) h) (Q := (k1 e ret ret)) (by kernel_rfl) (fun n => c0_eq e a0 a1 h n (exK []) (jk K46 ret)) (k1_eq e ret ret)
end sha_Block
/-! codicil/codicilref01.DocBlock -/
namespace r01_DocBlock
noncomputable def B : Code := cBody (PP.funcs.getD 11 default)
abbrev K2 : Slots := [(2, .any), (3, .any), (4, .any)]
abbrev P2 := V × V × V × Unit
abbrev K4 : Slots := [(4, .any)]
abbrev P4 := V × Unit
def lv : Nat → Option Slots := fun k =>
  bif Nat.beq k 2 then some K2 else bif Nat.beq k 4 then some K4 else none
abbrev KR : Slots := [(4, .any)]
abbrev PR := V × Unit
noncomputable def ret : P4 → AH → Res
| (x4, _), h => finW [ldA 8 x4 h] h
theorem ret_eq (e : Cx) : fin (cfgS e) (foLive lv) (PP.funcs.getD 11 default) = jk K4 ret := by kernel_rfl
noncomputable def c0 (e : Cx) (J : P4 → AH → Res) : List V × List V × Unit → AH → Res
| (a0, a1, _), h =>
  cV (absBox T_a8_uint32 (.agg a0) h) fun x1 h2 =>
  cV (absBox T_a64_uint8 (.agg a1) h2) fun x3 h4 =>
  let x5 := (al (List.replicate 8 (.int .u32 0)) T_a8_uint32 h4).1
  let h6 := (al (List.replicate 8 (.int .u32 0)) T_a8_uint32 h4).2
  bA (ldA 8 x1 h6) h6 fun x7 h8 =>
  bV (slA 64 1 x3 none none none h8) h8 fun x9 h10 =>
  cA (e.C n_r01_compress [(.agg x7), x9] h10) fun x11 h12 =>
  bS (st 8 x5 (.agg x11) h12) fun h13 =>
  J (x5, ()) h13
theorem c0_eq (e : Cx) (a0 : List V) (a1 : List V) (h : AH) (n : Kn) (ee : Ke) (r : Kn) : runL (cfgS e) lv 8 e.F (peel 2 (cP [0] B)).1 (iniT [(.agg a0), (.agg a1)] 0 .leaf) h n ee r = c0 e (fun t h => n (mkT K4 t) h) (a0, a1, ()) h := by kernel_rfl
noncomputable def fn (e : Cx) (a0 : List V) (a1 : List V) (h : AH) : Res :=
  c0 e ret (a0, a1, ()) h
theorem run (e : Cx) (a0 : List V) (a1 : List V) (h : AH) : execFn (cfgS e) (foLive lv) e.F n_r01_DocBlock [(.agg a0), (.agg a1)] h = fn e a0 a1 h := by
  refine (fn_eq (c := cfgS e) (lv := lv) (PP.funcs.getD 11 default) B (by kernel_rfl) (by kernel_rfl) (Nat.le_of_ble_eq_true (by kernel_rfl))).trans ?_
  rw [ret_eq]
  exact nd_chain' (X := cP [0] B) (Y := (cP [2] B)) 2 (L := K4) (S := fun J => c0 e J (a0, a1, ()) h) (Q := ret) (by kernel_rfl) (fun n => c0_eq e a0 a1 h n (exK []) (jk K4 ret)) (fun t h => by kernel_rfl)
end r01_DocBlock
/-! codicil/codicilref01.Same -/
namespace r01_Same
noncomputable def B : Code := cBody (PP.funcs.getD 12 default)
abbrev K2 : Slots := [(0, .any), (1, .any)]
abbrev P2 := V × V × Unit
abbrev K4 : Slots := [(4, .bool)]
abbrev P4 := Bool × Unit
def lv : Nat → Option Slots := fun k =>
  bif Nat.beq k 2 then some K2 else bif Nat.beq k 4 then some K4 else none
abbrev KR : Slots := [(4, .any)]
abbrev PR := V × Unit
noncomputable def ret : PR → AH → Res
| (x4, _), h => finW [some x4] h
theorem ret_eq (e : Cx) : fin (cfgS e) (foLive lv) (PP.funcs.getD 12 default) = jk KR ret := by kernel_rfl
noncomputable def c0 (e : Cx) (J : P4 → AH → Res) : V × V × Unit → AH → Res
| (a0, a1, _), h =>
  cZ (toS a0 h) fun x1 h2 =>
  cZ (toS a1 h2) fun x3 h4 =>
  J ((natsEq x1 x3), ()) h4
theorem c0_eq (e : Cx) (a0 : V) (a1 : V) (h : AH) (n : Kn) (ee : Ke) (r : Kn) : runL (cfgS e) lv 10 e.F (peel 2 (cP [0] B)).1 (iniT [a0, a1] 0 .leaf) h n ee r = c0 e (fun t h => n (mkT K4 t) h) (a0, a1, ()) h := by kernel_rfl
noncomputable def fn (e : Cx) (a0 : V) (a1 : V) (h : AH) : Res :=
  c0 e (fun | (x5, _), h6 => ret ((.bool x5), ()) h6) (a0, a1, ()) h
theorem run (e : Cx) (a0 : V) (a1 : V) (h : AH) : execFn (cfgS e) (foLive lv) e.F n_r01_Same [a0, a1] h = fn e a0 a1 h := by
  refine (fn_eq (c := cfgS e) (lv := lv) (PP.funcs.getD 12 default) B (by kernel_rfl) (by kernel_rfl) (Nat.le_of_ble_eq_true (by kernel_rfl))).trans ?_
  rw [ret_eq]
  exact nd_chain' (X := cP [0] B) (Y := (cP [2] B)) 2 (L := K4) (S := fun J => c0 e J (a0, a1, ()) h) (Q := fun | (x5, _), h6 => ret ((.bool x5), ()) h6) (by kernel_rfl) (fun n => c0_eq e a0 a1 h n (exK []) (jk KR ret)) (fun | (x5, _), h6 => by kernel_rfl)
end r01_Same
/-! codicil/sha.Pad -/
namespace sha_Pad
noncomputable def B : Code := cBody (PP.funcs.getD 13 default)
abbrev K2 : Slots := [(0, .int .i64)]
abbrev P2 := Int × Unit
abbrev K6 : Slots := [(0, .int .i64), (3, .any)]
abbrev P6 := Int × V × Unit
abbrev K10 : Slots := [(0, .int .i64), (3, .any), (16, .int .i64)]
abbrev P10 := Int × V × Int × Unit
abbrev K12 : Slots := [(0, .int .i64), (3, .any), (16, .int .i64), (17, .bool)]
abbrev P12 := Int × V × Int × Bool × Unit
abbrev K14 : Slots := [(0, .int .i64), (3, .any), (4, .int .i64), (16, .int .i64)]
abbrev P14 := Int × V × Int × Int × Unit
abbrev K19 : Slots := [(3, .any)]
abbrev P19 := V × Unit
abbrev K20 : Slots := [(2, .any)]
abbrev P20 := V × Unit
def lv : Nat → Option Slots := fun k =>
  bif Nat.beq k 2 then some K2 else bif Nat.beq k 4 then some K2 else bif Nat.beq k 6 then some K6 else bif Nat.beq k 8 then some K6 else bif Nat.beq k 10 then some K10 else bif Nat.beq k 12 then some K12 else bif Nat.beq k 13 then some K10 else bif Nat.beq k 14 then some K14 else bif Nat.beq k 16 then some K10 else bif Nat.beq k 17 then some K10 else bif Nat.beq k 18 then some K10 else bif Nat.beq k 11 then some K10 else bif Nat.beq k 19 then some K19 else bif Nat.beq k 20 then some K20 else none
abbrev KR : Slots := [(2, .any)]
abbrev PR := V × Unit
noncomputable def ret : P20 → AH → Res
| (x2, _), h => finW [some x2] h
theorem ret_eq (e : Cx) : fin (cfgS e) (foLive lv) (PP.funcs.getD 13 default) = jk K20 ret := by kernel_rfl
noncomputable def c0 (e : Cx) (J : P6 → AH → Res) : Int × Unit → AH → Res
| (a0, _), h =>
  let x1 : Int := ((wr .i64 (119 - ((imax a0 0).tmod 64))).tmod 64)
  cV (mkS 1 1 [.int .u8 0] T_uint8 (wr .i64 ((wr .i64 (1 + x1)) + 8)) (wr .i64 ((wr .i64 (1 + x1)) + 8)) h) fun x2 h3 =>
  bV (ixS 1 x2 0) h3 fun x4 h5 =>
  bS (st 1 x4 (.int .u8 128) h5) fun h6 =>
  J ((imax a0 0), x2, ()) h6
theorem c0_eq (e : Cx) (a0 : Int) (h : AH) (n : Kn) (ee : Ke) (r : Kn) : runL (cfgS e) lv 35 e.F (peel 4 (cP [0] B)).1 (iniT [(.int .i64 a0)] 0 .leaf) h n ee r = c0 e (fun t h => n (mkT K6 t) h) (a0, ()) h := by kernel_rfl
noncomputable def c9 (e : Cx) (J : P20 → AH → Res) : P19 → AH → Res
| (x12, _), h =>
  J (x12, ()) h
theorem c9_eq (e : Cx) (x12 : V) (h : AH) (n : Kn) (ee : Ke) (r : Kn) : runL (cfgS e) lv 35 e.F (peel 1 (cP [5] B)).1 (mkT K19 (x12, ())) h n ee r = c9 e (fun t h => n (mkT K20 t) h) (x12, ()) h := by kernel_rfl
noncomputable def r9 (e : Cx) (Jn : P20 → AH → Res) (Jr : P20 → AH → Res) : P19 → AH → Res
| (x12, _), h =>
  c9 e Jr (x12, ()) h
theorem r9_eq (e : Cx) (Jn : P20 → AH → Res) (Jr : P20 → AH → Res) : ∀ t h, exL (cfgS e) lv 35 e.F (cP [5] B) (mkT K19 t) h (jk K20 Jn) (exK []) (jk K20 Jr) = r9 e Jn Jr t h
| (x12, _), h => nd_chain' (X := cP [5] B) (Y := (cP [6] B)) 1 (L := K20) (S := fun J => c9 e J (x12, ()) h) (Q := Jr) (by kernel_rfl) (fun n => c9_eq e x12 h n (exK []) (jk K20 Jr)) (fun t h => by kernel_rfl)
noncomputable def c4 (e : Cx) (J : P10 → AH → Res) : P6 → AH → Res
| (x10, x11, _), h =>
  J (x10, x11, 0, ()) h
theorem c4_eq (e : Cx) (x10 : Int) (x11 : V) (h : AH) (n : Kn) (ee : Ke) (r : Kn) : runL (cfgS e) lv 35 e.F (peel 1 (cP [4, 0] B)).1 (mkT K6 (x10, x11, ())) h n ee r = c4 e (fun t h => n (mkT K10 t) h) (x10, x11, ()) h := by kernel_rfl
noncomputable def c5 (e : Cx) (J : P12 → AH → Res) : P10 → AH → Res
| (x22, x23, x24, _), h =>
  J (x22, x23, x24, (decide (x24 < 8)), ()) h
theorem c5_eq (e : Cx) (x22 : Int) (x23 : V) (x24 : Int) (h : AH) (n : Kn) (ee : Ke) (r : Kn) : runL (cfgS e) lv 35 e.F (peel 1 (cP [4, 3] B)).1 (mkT K10 (x22, x23, x24, ())) h n ee r = c5 e (fun t h => n (mkT K12 t) h) (x22, x23, x24, ()) h := by kernel_rfl
noncomputable def c8 (e : Cx) (J : P10 → AH → Res) : P10 → AH → Res
| (x37, x38, x39, _), h =>
  J (x37, x38, (wr .i64 (x39 + 1)), ()) h
theorem c8_eq (e : Cx) (x37 : Int) (x38 : V) (x39 : Int) (h : AH) (n : Kn) (ee : Ke) (r : Kn) : runL (cfgS e) lv 35 e.F (peel 1 (cP [4, 6] B)).1 (mkT K10 (x37, x38, x39, ())) h n ee r = c8 e (fun t h => n (mkT K10 t) h) (x37, x38, x39, ()) h := by kernel_rfl
noncomputable def r8 (e : Cx) (Jn : P10 → AH → Res) (J0 : P19 → AH → Res) (Jr : P20 → AH → Res) : P10 → AH → Res
| (x37, x38, x39, _), h =>
  c8 e Jn (x37, x38, x39, ()) h
theorem r8_eq (e : Cx) (Jn : P10 → AH → Res) (J0 : P19 → AH → Res) (Jr : P20 → AH → Res) : ∀ t h, exL (cfgS e) lv 35 e.F (cP [4, 6] B) (mkT K10 t) h (jk K10 Jn) (exK [(0, (jk K19 J0))]) (jk K20 Jr) = r8 e Jn J0 Jr t h
| (x37, x38, x39, _), h => nd_chain' (X := cP [4, 6] B) (Y := .skip) 1 (L := K10) (S := fun J => c8 e J (x37, x38, x39, ()) h) (Q := Jn) (by kernel_rfl) (fun n => c8_eq e x37 x38 x39 h n (exK [(0, (jk K19 J0))]) (jk K20 Jr)) (fun t h => by kernel_rfl)
noncomputable def c6 (e : Cx) (J : P10 → AH → Res) : P10 → AH → Res
| (x34, x35, x36, _), h =>
  bI .i64 (lenS x35) h fun x44 h45 =>
  bI .u64 (if (wr .i64 (8 * x36)) < 0 then none else some (.int .u64 (ishr .u64 (ishl .u64 (wr .u64 x34) 3) (wr .i64 (8 * x36))))) h45 fun x46 h47 =>
  bV (ixS 1 x35 (wr .i64 ((wr .i64 (x44 - 1)) - x36))) h47 fun x48 h49 =>
  bS (st 1 x48 (.int .u8 (wr .u8 x46)) h49) fun h50 =>
  J (x34, x35, x36, ()) h50
theorem c6_eq (e : Cx) (x34 : Int) (x35 : V) (x36 : Int) (h : AH) (n : Kn) (ee : Ke) (r : Kn) : runL (cfgS e) lv 35 e.F (peel 2 (cP [4, 5, 1] B)).1 (mkT K10 (x34, x35, x36, ())) h n ee r = c6 e (fun t h => n (mkT K10 t) h) (x34, x35, x36, ()) h := by kernel_rfl
noncomputable def r6 (e : Cx) (Jn : P10 → AH → Res) (J0 : P19 → AH → Res) (Jr : P20 → AH → Res) : P10 → AH → Res
| (x34, x35, x36, _), h =>
  c6 e (r8 e Jn J0 Jr) (x34, x35, x36, ()) h
theorem r6_eq (e : Cx) (Jn : P10 → AH → Res) (J0 : P19 → AH → Res) (Jr : P20 → AH → Res) : ∀ t h, exL (cfgS e) lv 35 e.F (cP [4, 5] B) (mkT K10 t) h (jk K10 Jn) (exK [(0, (jk K19 J0))]) (jk K20 Jr) = r6 e Jn J0 Jr t h
| (x34, x35, x36, _), h => (nd_norm' (X := (cP [4, 5] B)) (a := cP [4, 5, 0] B) (b := cP [4, 6] B) (L := K10) (by kernel_rfl) (by kernel_rfl) (by kernel_rfl) (SB := (r8 e Jn J0 Jr)) (r8_eq e Jn J0 Jr) _ _).trans (nd_block' (X := cP [4, 5, 0] B) (id := 1) (b := cP [4, 5, 1] B) (by kernel_rfl) (nd_chain' (X := cP [4, 5, 1] B) (Y := .skip) 2 (L := K10) (S := fun J => c6 e J (x34, x35, x36, ()) h) (Q := (r8 e Jn J0 Jr)) (by kernel_rfl) (fun n => c6_eq e x34 x35 x36 h n (exK [(1, (jk K10 (r8 e Jn J0 Jr))), (0, (jk K19 J0))]) (jk K20 Jr)) (fun t h => by kernel_rfl)))
noncomputable def k5 (e : Cx) (Jn : P10 → AH → Res) (J0 : P19 → AH → Res) (Jr : P20 → AH → Res) : P12 → AH → Res
| (x30, x31, x32, x33, _), h =>
  bif x33 then (r6 e Jn J0 Jr) (x30, x31, x32, ()) h else J0 (x31, ()) h
theorem k5_eq (e : Cx) (Jn : P10 → AH → Res) (J0 : P19 → AH → Res) (Jr : P20 → AH → Res) : ∀ t h, exL (cfgS e) lv 35 e.F (cP [4, 4] B) (mkT K12 t) h (jk K10 Jn) (exK [(0, (jk K19 J0))]) (jk K20 Jr) = k5 e Jn J0 Jr t h
| (x30, x31, x32, x33, _), h => (nd_norm' (X := (cP [4, 4] B)) (a := cP [4, 4, 0] B) (b := cP [4, 5] B) (L := K10) (by kernel_rfl) (by kernel_rfl) (by kernel_rfl) (SB := (r6 e Jn J0 Jr)) (r6_eq e Jn J0 Jr) _ _).trans (nd_cond' (X := cP [4, 4, 0] B) (a := cP [4, 4, 0, 0] B) (b := cP [4, 4, 1] B) (t := x33) (x := .tmp 17) (by kernel_rfl) (by kernel_rfl) (by kernel_rfl) (by kernel_rfl))
noncomputable def l5 (e : Cx) (Jn : P10 → AH → Res) (J0 : P19 → AH → Res) (Jr : P20 → AH → Res) : P10 → AH → Res
| (x22, x23, x24, _), h =>
  c5 e (k5 e Jn J0 Jr) (x22, x23, x24, ()) h
theorem l5_eq (e : Cx) (Jn : P10 → AH → Res) (J0 : P19 → AH → Res) (Jr : P20 → AH → Res) : ∀ t h, exL (cfgS e) lv 35 e.F (cP [4, 3] B) (mkT K10 t) h (jk K10 Jn) (exK [(0, (jk K19 J0))]) (jk K20 Jr) = l5 e Jn J0 Jr t h
| (x22, x23, x24, _), h => nd_chain' (X := cP [4, 3] B) (Y := (cP [4, 4] B)) 1 (L := K12) (S := fun J => c5 e J (x22, x23, x24, ()) h) (Q := (k5 e Jn J0 Jr)) (by kernel_rfl) (fun n => c5_eq e x22 x23 x24 h n (exK [(0, (jk K19 J0))]) (jk K20 Jr)) (k5_eq e Jn J0 Jr)
noncomputable def k4 (e : Cx) (Jn : P19 → AH → Res) (Jr : P20 → AH → Res) : P10 → AH → Res
| (x19, x20, x21, _), h =>
  loopN (P10) e.F (fun t h n => l5 e n Jn Jr t h) (x19, x20, x21, ()) h
theorem k4_eq (e : Cx) (Jn : P19 → AH → Res) (Jr : P20 → AH → Res) : ∀ t h, exL (cfgS e) lv 35 e.F (cP [4, 1] B) (mkT K10 t) h (jk K19 Jn) (exK []) (jk K20 Jr) = k4 e Jn Jr t h
| (x19, x20, x21, _), h => nd_block' (X := cP [4, 1] B) (id := 0) (b := cP [4, 2] B) (by kernel_rfl) ((nd_loop' (X := cP [4, 2] B) (b := cP [4, 3] B) (L := K10) (by kernel_rfl) (by kernel_rfl) (SB := fun n => l5 e n Jn Jr) (fun n => l5_eq e n Jn Jr) _ _).trans (by kernel_rfl))
noncomputable def k3 (e : Cx) (Jn : P20 → AH → Res) (Jr : P20 → AH → Res) : P6 → AH → Res
| (x10, x11, _), h =>
  c4 e (k4 e (r9 e Jn Jr) Jr) (x10, x11, ()) h
theorem k3_eq (e : Cx) (Jn : P20 → AH → Res) (Jr : P20 → AH → Res) : ∀ t h, exL (cfgS e) lv 35 e.F (cP [4] B) (mkT K6 t) h (jk K20 Jn) (exK []) (jk K20 Jr) = k3 e Jn Jr t h
| (x10, x11, _), h => (nd_norm' (X := (cP [4] B)) (a := cP [4, 0] B) (b := cP [5] B) (L := K19) (by kernel_rfl) (by kernel_rfl) (by kernel_rfl) (SB := (r9 e Jn Jr)) (r9_eq e Jn Jr) _ _).trans (nd_chain' (X := cP [4, 0] B) (Y := (cP [4, 1] B)) 1 (L := K10) (S := fun J => c4 e J (x10, x11, ()) h) (Q := (k4 e (r9 e Jn Jr) Jr)) (by kernel_rfl) (fun n => c4_eq e x10 x11 h n (exK []) (jk K20 Jr)) (k4_eq e (r9 e Jn Jr) Jr))
noncomputable def fn (e : Cx) (a0 : Int) (h : AH) : Res :=
  c0 e (k3 e ret ret) (a0, ()) h
theorem run (e : Cx) (a0 : Int) (h : AH) : execFn (cfgS e) (foLive lv) e.F n_sha_Pad [(.int .i64 a0)] h = fn e a0 h := by
  refine (fn_eq (c := cfgS e) (lv := lv) (PP.funcs.getD 13 default) B (by kernel_rfl) (by kernel_rfl) (Nat.le_of_ble_eq_true (by kernel_rfl))).trans ?_
  rw [ret_eq]
  exact nd_chain' (X := cP [0] B) (Y := (cP [4] B)) 4 (L := K6) (S := fun J => c0 e J (a0, ()) h) (Q := (k3 e ret ret)) (by kernel_rfl) (fun n => c0_eq e a0 h n (exK []) (jk K20 ret)) (k3_eq e ret ret)
end sha_Pad
/-! codicil/codicilref01.DocPad -/
namespace r01_DocPad
noncomputable def B : Code := cBody (PP.funcs.getD 14 default)
abbrev K2 : Slots := [(0, .int .i64)]
abbrev P2 := Int × Unit
abbrev K6 : Slots := [(0, .int .i64), (3, .any)]
abbrev P6 := Int × V × Unit
abbrev K8 : Slots := [(0, .int .i64), (3, .any), (15, .bool)]
abbrev P8 := Int × V × Bool × Unit
abbrev K12 : Slots := [(0, .int .i64), (3, .any), (4, .int .i64)]
abbrev P12 := Int × V × Int × Unit
abbrev K14 : Slots := [(0, .int .i64), (3, .any), (4, .int .i64), (20, .bool)]
abbrev P14 := Int × V × Int × Bool × Unit
abbrev K19 : Slots := [(3, .any)]
abbrev P19 := V × Unit
abbrev K20 : Slots := [(2, .any)]
abbrev P20 := V × Unit
def lv : Nat → Option Slots := fun k =>
  bif Nat.beq k 2 then some K2 else bif Nat.beq k 4 then some K2 else bif Nat.beq k 6 then some K6 else bif Nat.beq k 8 then some K8 else bif Nat.beq k 9 then some K6 else bif Nat.beq k 10 then some K6 else bif Nat.beq k 7 then some K6 else bif Nat.beq k 11 then some K6 else bif Nat.beq k 12 then some K12 else bif Nat.beq k 14 then some K14 else bif Nat.beq k 17 then some K12 else bif Nat.beq k 18 then some K12 else bif Nat.beq k 15 then some K12 else bif Nat.beq k 16 then some K12 else bif Nat.beq k 13 then some K12 else bif Nat.beq k 19 then some K19 else bif Nat.beq k 20 then some K20 else none
abbrev KR : Slots := [(2, .any)]
abbrev PR := V × Unit
noncomputable def ret : P20 → AH → Res
| (x2, _), h => finW [some x2] h
theorem ret_eq (e : Cx) : fin (cfgS e) (foLive lv) (PP.funcs.getD 14 default) = jk K20 ret := by kernel_rfl
noncomputable def c0 (e : Cx) (J : P6 → AH → Res) : Int × Unit → AH → Res
| (a0, _), h =>
  cV (bsl 1 1 [(0, 1, (.int .u8 128))] [.int .u8 0] T_uint8 h) fun x1 h2 =>
  J ((imax a0 0), x1, ()) h2
theorem c0_eq (e : Cx) (a0 : Int) (h : AH) (n : Kn) (ee : Ke) (r : Kn) : runL (cfgS e) lv 34 e.F (peel 3 (cP [0] B)).1 (iniT [(.int .i64 a0)] 0 .leaf) h n ee r = c0 e (fun t h => n (mkT K6 t) h) (a0, ()) h := by kernel_rfl
noncomputable def c9 (e : Cx) (J : P20 → AH → Res) : P19 → AH → Res
| (x10, _), h =>
  J (x10, ()) h
theorem c9_eq (e : Cx) (x10 : V) (h : AH) (n : Kn) (ee : Ke) (r : Kn) : runL (cfgS e) lv 34 e.F (peel 1 (cP [5] B)).1 (mkT K19 (x10, ())) h n ee r = c9 e (fun t h => n (mkT K20 t) h) (x10, ()) h := by kernel_rfl
noncomputable def r9 (e : Cx) (Jn : P20 → AH → Res) (Jr : P20 → AH → Res) : P19 → AH → Res
| (x10, _), h =>
  c9 e Jr (x10, ()) h
theorem r9_eq (e : Cx) (Jn : P20 → AH → Res) (Jr : P20 → AH → Res) : ∀ t h, exL (cfgS e) lv 34 e.F (cP [5] B) (mkT K19 t) h (jk K20 Jn) (exK []) (jk K20 Jr) = r9 e Jn Jr t h
| (x10, _), h => nd_chain' (X := cP [5] B) (Y := (cP [6] B)) 1 (L := K20) (S := fun J => c9 e J (x10, ()) h) (Q := Jr) (by kernel_rfl) (fun n => c9_eq e x10 h n (exK []) (jk K20 Jr)) (fun t h => by kernel_rfl)
noncomputable def c5 (e : Cx) (J : P12 → AH → Res) : P6 → AH → Res
| (x8, x9, _), h =>
  J (x8, x9, 7, ()) h
theorem c5_eq (e : Cx) (x8 : Int) (x9 : V) (h : AH) (n : Kn) (ee : Ke) (r : Kn) : runL (cfgS e) lv 34 e.F (peel 1 (cP [4, 0] B)).1 (mkT K6 (x8, x9, ())) h n ee r = c5 e (fun t h => n (mkT K12 t) h) (x8, x9, ()) h := by kernel_rfl
noncomputable def c7 (e : Cx) (J : P12 → AH → Res) : P12 → AH → Res
| (x26, x27, x28, _), h =>
  J (x26, x27, (wr .i64 (x28 - 1)), ()) h
theorem c7_eq (e : Cx) (x26 : Int) (x27 : V) (x28 : Int) (h : AH) (n : Kn) (ee : Ke) (r : Kn) : runL (cfgS e) lv 34 e.F (peel 1 (cP [4, 5] B)).1 (mkT K12 (x26, x27, x28, ())) h n ee r = c7 e (fun t h => n (mkT K12 t) h) (x26, x27, x28, ()) h := by kernel_rfl
noncomputable def r7 (e : Cx) (Jn : P12 → AH → Res) (J2 : P19 → AH → Res) (Jr : P20 → AH → Res) : P12 → AH → Res
| (x26, x27, x28, _), h =>
  c7 e Jn (x26, x27, x28, ()) h
theorem r7_eq (e : Cx) (Jn : P12 → AH → Res) (J2 : P19 → AH → Res) (Jr : P20 → AH → Res) : ∀ t h, exL (cfgS e) lv 34 e.F (cP [4, 5] B) (mkT K12 t) h (jk K12 Jn) (exK [(2, (jk K19 J2))]) (jk K20 Jr) = r7 e Jn J2 Jr t h
| (x26, x27, x28, _), h => nd_chain' (X := cP [4, 5] B) (Y := .skip) 1 (L := K12) (S := fun J => c7 e J (x26, x27, x28, ()) h) (Q := Jn) (by kernel_rfl) (fun n => c7_eq e x26 x27 x28 h n (exK [(2, (jk K19 J2))]) (jk K20 Jr)) (fun t h => by kernel_rfl)
noncomputable def c8 (e : Cx) (J : P12 → AH → Res) : P12 → AH → Res
| (x23, x24, x25, _), h =>
  bI .u64 (if (wr .i64 (8 * x25)) < 0 then none else some (.int .u64 (ishr .u64 (wr .u64 (8 * (wr .u64 x23))) (wr .i64 (8 * x25))))) h fun x33 h34 =>
  cV (bsl 1 1 [(0, 1, (.int .u8 (wr .u8 x33)))] [.int .u8 0] T_uint8 h34) fun x35 h36 =>
  cV (app 1 1 T_uint8 x24 x35 h36) fun x37 h38 =>
  J (x23, x37, x25, ()) h38
theorem c8_eq (e : Cx) (x23 : Int) (x24 : V) (x25 : Int) (h : AH) (n : Kn) (ee : Ke) (r : Kn) : runL (cfgS e) lv 34 e.F (peel 1 (cP [4, 4, 1] B)).1 (mkT K12 (x23, x24, x25, ())) h n ee r = c8 e (fun t h => n (mkT K12 t) h) (x23, x24, x25, ()) h := by kernel_rfl
noncomputable def r8 (e : Cx) (Jn : P12 → AH → Res) (J2 : P19 → AH → Res) (Jr : P20 → AH → Res) : P12 → AH → Res
| (x23, x24, x25, _), h =>
  c8 e (r7 e Jn J2 Jr) (x23, x24, x25, ()) h
theorem r8_eq (e : Cx) (Jn : P12 → AH → Res) (J2 : P19 → AH → Res) (Jr : P20 → AH → Res) : ∀ t h, exL (cfgS e) lv 34 e.F (cP [4, 4] B) (mkT K12 t) h (jk K12 Jn) (exK [(2, (jk K19 J2))]) (jk K20 Jr) = r8 e Jn J2 Jr t h
| (x23, x24, x25, _), h => (nd_norm' (X := (cP [4, 4] B)) (a := cP [4, 4, 0] B) (b := cP [4, 5] B) (L := K12) (by kernel_rfl) (by kernel_rfl) (by kernel_rfl) (SB := (r7 e Jn J2 Jr)) (r7_eq e Jn J2 Jr) _ _).trans (nd_block' (X := cP [4, 4, 0] B) (id := 3) (b := cP [4, 4, 1] B) (by kernel_rfl) (nd_chain' (X := cP [4, 4, 1] B) (Y := .skip) 1 (L := K12) (S := fun J => c8 e J (x23, x24, x25, ()) h) (Q := (r7 e Jn J2 Jr)) (by kernel_rfl) (fun n => c8_eq e x23 x24 x25 h n (exK [(3, (jk K12 (r7 e Jn J2 Jr))), (2, (jk K19 J2))]) (jk K20 Jr)) (fun t h => by kernel_rfl)))
noncomputable def c6 (e : Cx) (J : P14 → AH → Res) : P12 → AH → Res
| (x20, x21, x22, _), h =>
  J (x20, x21, x22, (decide (x22 ≥ 0)), ()) h
theorem c6_eq (e : Cx) (x20 : Int) (x21 : V) (x22 : Int) (h : AH) (n : Kn) (ee : Ke) (r : Kn) : runL (cfgS e) lv 34 e.F (peel 1 (cP [4, 3, 0] B)).1 (mkT K12 (x20, x21, x22, ())) h n ee r = c6 e (fun t h => n (mkT K14 t) h) (x20, x21, x22, ()) h := by kernel_rfl
noncomputable def k6 (e : Cx) (Jn : P12 → AH → Res) (J2 : P19 → AH → Res) (Jr : P20 → AH → Res) : P14 → AH → Res
| (x48, x49, x50, x51, _), h =>
  bif x51 then Jn (x48, x49, x50, ()) h else J2 (x49, ()) h
theorem k6_eq (e : Cx) (Jn : P12 → AH → Res) (J2 : P19 → AH → Res) (Jr : P20 → AH → Res) : ∀ t h, exL (cfgS e) lv 34 e.F (cP [4, 3, 1] B) (mkT K14 t) h (jk K12 Jn) (exK [(2, (jk K19 J2))]) (jk K20 Jr) = k6 e Jn J2 Jr t h
| (x48, x49, x50, x51, _), h => nd_cond' (X := cP [4, 3, 1] B) (a := cP [4, 3, 1, 0] B) (b := cP [4, 3, 2] B) (t := x51) (x := .tmp 20) (by kernel_rfl) (by kernel_rfl) (by kernel_rfl) (by kernel_rfl)
noncomputable def l6 (e : Cx) (Jn : P12 → AH → Res) (J2 : P19 → AH → Res) (Jr : P20 → AH → Res) : P12 → AH → Res
| (x20, x21, x22, _), h =>
  c6 e (k6 e (r8 e Jn J2 Jr) J2 Jr) (x20, x21, x22, ()) h
theorem l6_eq (e : Cx) (Jn : P12 → AH → Res) (J2 : P19 → AH → Res) (Jr : P20 → AH → Res) : ∀ t h, exL (cfgS e) lv 34 e.F (cP [4, 3] B) (mkT K12 t) h (jk K12 Jn) (exK [(2, (jk K19 J2))]) (jk K20 Jr) = l6 e Jn J2 Jr t h
| (x20, x21, x22, _), h => (nd_norm' (X := (cP [4, 3] B)) (a := cP [4, 3, 0] B) (b := cP [4, 4] B) (L := K12) (by kernel_rfl) (by kernel_rfl) (by kernel_rfl) (SB := (r8 e Jn J2 Jr)) (r8_eq e Jn J2 Jr) _ _).trans (nd_chain' (X := cP [4, 3, 0] B) (Y := (cP [4, 3, 1] B)) 1 (L := K14) (S := fun J => c6 e J (x20, x21, x22, ()) h) (Q := (k6 e (r8 e Jn J2 Jr) J2 Jr)) (by kernel_rfl) (fun n => c6_eq e x20 x21 x22 h n (exK [(2, (jk K19 J2))]) (jk K20 Jr)) (k6_eq e (r8 e Jn J2 Jr) J2 Jr))
noncomputable def k5 (e : Cx) (Jn : P19 → AH → Res) (Jr : P20 → AH → Res) : P12 → AH → Res
| (x17, x18, x19, _), h =>
  loopN (P12) e.F (fun t h n => l6 e n Jn Jr t h) (x17, x18, x19, ()) h
theorem k5_eq (e : Cx) (Jn : P19 → AH → Res) (Jr : P20 → AH → Res) : ∀ t h, exL (cfgS e) lv 34 e.F (cP [4, 1] B) (mkT K12 t) h (jk K19 Jn) (exK []) (jk K20 Jr) = k5 e Jn Jr t h
| (x17, x18, x19, _), h => nd_block' (X := cP [4, 1] B) (id := 2) (b := cP [4, 2] B) (by kernel_rfl) ((nd_loop' (X := cP [4, 2] B) (b := cP [4, 3] B) (L := K12) (by kernel_rfl) (by kernel_rfl) (SB := fun n => l6 e n Jn Jr) (fun n => l6_eq e n Jn Jr) _ _).trans (by kernel_rfl))
noncomputable def r5 (e : Cx) (Jn : P20 → AH → Res) (Jr : P20 → AH → Res) : P6 → AH → Res
| (x8, x9, _), h =>
  c5 e (k5 e (r9 e Jn Jr) Jr) (x8, x9, ()) h
theorem r5_eq (e : Cx) (Jn : P20 → AH → Res) (Jr : P20 → AH → Res) : ∀ t h, exL (cfgS e) lv 34 e.F (cP [4] B) (mkT K6 t) h (jk K20 Jn) (exK []) (jk K20 Jr) = r5 e Jn Jr t h
| (x8, x9, _), h => (nd_norm' (X := (cP [4] B)) (a := cP [4, 0] B) (b := cP [5] B) (L := K19) (by kernel_rfl) (by kernel_rfl) (by kernel_rfl) (SB := (r9 e Jn Jr)) (r9_eq e Jn Jr) _ _).trans (nd_chain' (X := cP [4, 0] B) (Y := (cP [4, 1] B)) 1 (L := K12) (S := fun J => c5 e J (x8, x9, ()) h) (Q := (k5 e (r9 e Jn Jr) Jr)) (by kernel_rfl) (fun n => c5_eq e x8 x9 h n (exK []) (jk K20 Jr)) (k5_eq e (r9 e Jn Jr) Jr))
noncomputable def c4 (e : Cx) (J : P6 → AH → Res) : P6 → AH → Res
| (x54, x55, _), h =>
  cV (bsl 1 1 [(0, 1, (.int .u8 0))] [.int .u8 0] T_uint8 h) fun x56 h57 =>
  cV (app 1 1 T_uint8 x55 x56 h57) fun x58 h59 =>
  J (x54, x58, ()) h59
theorem c4_eq (e : Cx) (x54 : Int) (x55 : V) (h : AH) (n : Kn) (ee : Ke) (r : Kn) : runL (cfgS e) lv 34 e.F (peel 1 (cP [3, 4] B)).1 (mkT K6 (x54, x55, ())) h n ee r = c4 e (fun t h => n (mkT K6 t) h) (x54, x55, ()) h := by kernel_rfl
noncomputable def r4 (e : Cx) (Jn : P6 → AH → Res) (J0 : P6 → AH → Res) (Jr : P20 → AH → Res) : P6 → AH → Res
| (x54, x55, _), h =>
  c4 e Jn (x54, x55, ()) h
theorem r4_eq (e : Cx) (Jn : P6 → AH → Res) (J0 : P6 → AH → Res) (Jr : P20 → AH → Res) : ∀ t h, exL (cfgS e) lv 34 e.F (cP [3, 3] B) (mkT K6 t) h (jk K6 Jn) (exK [(0, (jk K6 J0))]) (jk K20 Jr) = r4 e Jn J0 Jr t h
| (x54, x55, _), h => nd_block' (X := cP [3, 3] B) (id := 1) (b := cP [3, 4] B) (by kernel_rfl) (nd_chain' (X := cP [3, 4] B) (Y := .skip) 1 (L := K6) (S := fun J => c4 e J (x54, x55, ()) h) (Q := Jn) (by kernel_rfl) (fun n => c4_eq e x54 x55 h n (exK [(1, (jk K6 Jn)), (0, (jk K6 J0))]) (jk K20 Jr)) (fun t h => by kernel_rfl))
noncomputable def c3 (e : Cx) (J : P8 → AH → Res) : P6 → AH → Res
| (x52, x53, _), h =>
  bI .i64 (lenS x53) h fun x63 h64 =>
  let x65 : Int := (wr .i64 ((wr .i64 ((x52.tmod 64) + x63)) + 8))
  J (x52, x53, ((x65.tmod 64) != 0), ()) h64
theorem c3_eq (e : Cx) (x52 : Int) (x53 : V) (h : AH) (n : Kn) (ee : Ke) (r : Kn) : runL (cfgS e) lv 34 e.F (peel 1 (cP [3, 2, 0] B)).1 (mkT K6 (x52, x53, ())) h n ee r = c3 e (fun t h => n (mkT K8 t) h) (x52, x53, ()) h := by kernel_rfl
noncomputable def k3 (e : Cx) (Jn : P6 → AH → Res) (J0 : P6 → AH → Res) (Jr : P20 → AH → Res) : P8 → AH → Res
| (x70, x71, x72, _), h =>
  bif x72 then Jn (x70, x71, ()) h else J0 (x70, x71, ()) h
theorem k3_eq (e : Cx) (Jn : P6 → AH → Res) (J0 : P6 → AH → Res) (Jr : P20 → AH → Res) : ∀ t h, exL (cfgS e) lv 34 e.F (cP [3, 2, 1] B) (mkT K8 t) h (jk K6 Jn) (exK [(0, (jk K6 J0))]) (jk K20 Jr) = k3 e Jn J0 Jr t h
| (x70, x71, x72, _), h => nd_cond' (X := cP [3, 2, 1] B) (a := cP [3, 2, 1, 0] B) (b := cP [3, 2, 2] B) (t := x72) (x := .tmp 15) (by kernel_rfl) (by kernel_rfl) (by kernel_rfl) (by kernel_rfl)
noncomputable def l3 (e : Cx) (Jn : P6 → AH → Res) (J0 : P6 → AH → Res) (Jr : P20 → AH → Res) : P6 → AH → Res
| (x52, x53, _), h =>
  c3 e (k3 e (r4 e Jn J0 Jr) J0 Jr) (x52, x53, ()) h
theorem l3_eq (e : Cx) (Jn : P6 → AH → Res) (J0 : P6 → AH → Res) (Jr : P20 → AH → Res) : ∀ t h, exL (cfgS e) lv 34 e.F (cP [3, 2] B) (mkT K6 t) h (jk K6 Jn) (exK [(0, (jk K6 J0))]) (jk K20 Jr) = l3 e Jn J0 Jr t h
| (x52, x53, _), h => (nd_norm' (X := (cP [3, 2] B)) (a := cP [3, 2, 0] B) (b := cP [3, 3] B) (L := K6) (by kernel_rfl) (by kernel_rfl) (by kernel_rfl) (SB := (r4 e Jn J0 Jr)) (r4_eq e Jn J0 Jr) _ _).trans (nd_chain' (X := cP [3, 2, 0] B) (Y := (cP [3, 2, 1] B)) 1 (L := K8) (S := fun J => c3 e J (x52, x53, ()) h) (Q := (k3 e (r4 e Jn J0 Jr) J0 Jr)) (by kernel_rfl) (fun n => c3_eq e x52 x53 h n (exK [(0, (jk K6 J0))]) (jk K20 Jr)) (k3_eq e (r4 e Jn J0 Jr) J0 Jr))
noncomputable def k2 (e : Cx) (Jn : P20 → AH → Res) (Jr : P20 → AH → Res) : P6 → AH → Res
| (x6, x7, _), h =>
  loopN (P6) e.F (fun t h n => l3 e n (r5 e Jn Jr) Jr t h) (x6, x7, ()) h
theorem k2_eq (e : Cx) (Jn : P20 → AH → Res) (Jr : P20 → AH → Res) : ∀ t h, exL (cfgS e) lv 34 e.F (cP [3] B) (mkT K6 t) h (jk K20 Jn) (exK []) (jk K20 Jr) = k2 e Jn Jr t h
| (x6, x7, _), h => (nd_norm' (X := (cP [3] B)) (a := cP [3, 0] B) (b := cP [4] B) (L := K6) (by kernel_rfl) (by kernel_rfl) (by kernel_rfl) (SB := (r5 e Jn Jr)) (r5_eq e Jn Jr) _ _).trans (nd_block' (X := cP [3, 0] B) (id := 0) (b := cP [3, 1] B) (by kernel_rfl) ((nd_loop' (X := cP [3, 1] B) (b := cP [3, 2] B) (L := K6) (by kernel_rfl) (by kernel_rfl) (SB := fun n => l3 e n (r5 e Jn Jr) Jr) (fun n => l3_eq e n (r5 e Jn Jr) Jr) _ _).trans (by kernel_rfl)))
noncomputable def fn (e : Cx) (a0 : Int) (h : AH) : Res :=
  c0 e (k2 e ret ret) (a0, ()) h
theorem run (e : Cx) (a0 : Int) (h : AH) : execFn (cfgS e) (foLive lv) e.F n_r01_DocPad [(.int .i64 a0)] h = fn e a0 h := by
  refine (fn_eq (c := cfgS e) (lv := lv) (PP.funcs.getD 14 default) B (by kernel_rfl) (by kernel_rfl) (Nat.le_of_ble_eq_true (by kernel_rfl))).trans ?_
  rw [ret_eq]
  exact nd_chain' (X := cP [0] B) (Y := (cP [3] B)) 3 (L := K6) (S := fun J => c0 e J (a0, ()) h) (Q := (k2 e ret ret)) (by kernel_rfl) (fun n => c0_eq e a0 h n (exK []) (jk K20 ret)) (k2_eq e ret ret)
end r01_DocPad
/-! codicil/sha.Sum -/
namespace sha_Sum
noncomputable def B : Code := cBody (PP.funcs.getD 15 default)
abbrev K2 : Slots := [(0, .any), (2, .any)]
abbrev P2 := V × V × Unit
abbrev K4 : Slots := [(0, .any), (2, .any), (3, .any)]
abbrev P4 := V × V × V × Unit
abbrev K6 : Slots := [(0, .any), (2, .any), (3, .any), (4, .any)]
abbrev P6 := V × V × V × V × Unit
abbrev K8 : Slots := [(0, .any), (2, .any), (3, .any), (4, .any), (13, .bool)]
abbrev P8 := V × V × V × V × Bool × Unit
abbrev K14 : Slots := [(2, .any), (3, .any), (4, .any)]
abbrev P14 := V × V × V × Unit
abbrev K16 : Slots := [(2, .any), (3, .any), (4, .any), (29, .bool)]
abbrev P16 := V × V × V × Bool × Unit
abbrev K21 : Slots := [(2, .any), (3, .any)]
abbrev P21 := V × V × Unit
abbrev K22 : Slots := [(2, .any), (3, .any), (5, .any)]
abbrev P22 := V × V × V × Unit
abbrev K24 : Slots := [(2, .any), (5, .any), (37, .agg), (38, .int .i64)]
abbrev P24 := V × V × List V × Int × Unit
abbrev K26 : Slots := [(2, .any), (5, .any), (37, .agg), (38, .int .i64), (39, .bool)]
abbrev P26 := V × V × List V × Int × Bool × Unit
abbrev K28 : Slots := [(2, .any), (5, .any), (6, .int .i64), (7, .int .u32), (37, .agg), (38, .int .i64)]
abbrev P28 := V × V × Int × Int × List V × Int × Unit
abbrev K30 : Slots := [(2, .any), (5, .any), (6, .int .i64), (7, .int .u32), (37, .agg), (38, .int .i64), (42, .int .i64)]
abbrev P30 := V × V × Int × Int × List V × Int × Int × Unit
abbrev K32 : Slots := [(2, .any), (5, .any), (6, .int .i64), (7, .int .u32), (37, .agg), (38, .int .i64), (42, .int .i64), (43, .bool)]
abbrev P32 := V × V × Int × Int × List V × Int × Int × Bool × Unit
abbrev K34 : Slots := [(2, .any), (5, .any), (6, .int .i64), (7, .int .u32), (8, .int .i64), (37, .agg), (38, .int .i64), (42, .int .i64)]
abbrev P34 := V × V × Int × Int × Int × List V × Int × Int × Unit
abbrev K41 : Slots := [(2, .any), (5, .any)]
abbrev P41 := V × V × Unit
abbrev K42 : Slots := [(2, .any)]
abbrev P42 := V × Unit
def lv : Nat → Option Slots := fun k =>
  bif Nat.beq k 2 then some K2 else bif Nat.beq k 4 then some K4 else bif Nat.beq k 6 then some K6 else bif Nat.beq k 8 then some K8 else bif Nat.beq k 9 then some K6 else bif Nat.beq k 10 then some K6 else bif Nat.beq k 12 then some K6 else bif Nat.beq k 7 then some K6 else bif Nat.beq k 13 then some K6 else bif Nat.beq k 14 then some K14 else bif Nat.beq k 16 then some K16 else bif Nat.beq k 17 then some K14 else bif Nat.beq k 18 then some K14 else bif Nat.beq k 20 then some K14 else bif Nat.beq k 15 then some K14 else bif Nat.beq k 21 then some K21 else bif Nat.beq k 22 then some K22 else bif Nat.beq k 24 then some K24 else bif Nat.beq k 26 then some K26 else bif Nat.beq k 27 then some K24 else bif Nat.beq k 28 then some K28 else bif Nat.beq k 30 then some K30 else bif Nat.beq k 32 then some K32 else bif Nat.beq k 33 then some K30 else bif Nat.beq k 34 then some K34 else bif Nat.beq k 36 then some K30 else bif Nat.beq k 37 then some K30 else bif Nat.beq k 38 then some K30 else bif Nat.beq k 31 then some K30 else bif Nat.beq k 39 then some K24 else bif Nat.beq k 40 then some K24 else bif Nat.beq k 25 then some K24 else bif Nat.beq k 41 then some K41 else bif Nat.beq k 42 then some K42 else none
abbrev KR : Slots := [(2, .any)]
abbrev PR := V × Unit
noncomputable def ret : P42 → AH → Res
| (x2, _), h => finW [ldA 32 x2 h] h
theorem ret_eq (e : Cx) : fin (cfgS e) (foLive lv) (PP.funcs.getD 15 default) = jk K42 ret := by kernel_rfl
noncomputable def c0 (e : Cx) (J : P6 → AH → Res) : V × Unit → AH → Res
| (a0, _), h =>
  let x1 := (al (List.replicate 32 (.int .u8 0)) T_api_Id h).1
  let h2 := (al (List.replicate 32 (.int .u8 0)) T_api_Id h).2
  bA (bld [(0, 1, (.int .u32 1779033703)), (1, 1, (.int .u32 3144134277)), (2, 1, (.int .u32 1013904242)), (3, 1, (.int .u32 2773480762)), (4, 1, (.int .u32 1359893119)), (5, 1, (.int .u32 2600822924)), (6, 1, (.int .u32 528734635)), (7, 1, (.int .u32 1541459225))] (List.replicate 8 (.int .u32 0))) h2 fun x3 h4 =>
  let x5 := (al (List.replicate 8 (.int .u32 0)) T_a8_uint32 h4).1
  let h6 := (al (List.replicate 8 (.int .u32 0)) T_a8_uint32 h4).2
  bS (st 8 x5 (.agg x3) h6) fun h7 =>
  J (a0, x1, x5, a0, ()) h7
theorem c0_eq (e : Cx) (a0 : V) (h : AH) (n : Kn) (ee : Ke) (r : Kn) : runL (cfgS e) lv 59 e.F (peel 3 (cP [0] B)).1 (iniT [a0] 0 .leaf) h n ee r = c0 e (fun t h => n (mkT K6 t) h) (a0, ()) h := by kernel_rfl
noncomputable def c6 (e : Cx) (J : P14 → AH → Res) : P6 → AH → Res
| (x17, x18, x19, x20, _), h =>
  cV (e.C n_bytes_Clone [x20] h) fun x21 h22 =>
  bI .i64 (lenS x17) h22 fun x23 h24 =>
  cV (e.C n_sha_Pad [(.int .i64 x23)] h24) fun x25 h26 =>
  cV (app 1 1 T_uint8 x21 x25 h26) fun x27 h28 =>
  J (x18, x19, x27, ()) h28
theorem c6_eq (e : Cx) (x17 : V) (x18 : V) (x19 : V) (x20 : V) (h : AH) (n : Kn) (ee : Ke) (r : Kn) : runL (cfgS e) lv 59 e.F (peel 1 (cP [4] B)).1 (mkT K6 (x17, x18, x19, x20, ())) h n ee r = c6 e (fun t h => n (mkT K14 t) h) (x17, x18, x19, x20, ()) h := by kernel_rfl
noncomputable def c10 (e : Cx) (J : P22 → AH → Res) : P21 → AH → Res
| (x36, x37, _), h =>
  let x38 := (al (List.replicate 32 (.int .u8 0)) T_api_Id h).1
  let h39 := (al (List.replicate 32 (.int .u8 0)) T_api_Id h).2
  J (x36, x37, x38, ()) h39
theorem c10_eq (e : Cx) (x36 : V) (x37 : V) (h : AH) (n : Kn) (ee : Ke) (r : Kn) : runL (cfgS e) lv 59 e.F (peel 1 (cP [6] B)).1 (mkT K21 (x36, x37, ())) h n ee r = c10 e (fun t h => n (mkT K22 t) h) (x36, x37, ()) h := by kernel_rfl
noncomputable def c20 (e : Cx) (J : P42 → AH → Res) : P41 → AH → Res
| (x47, x48, _), h =>
  bA (ldA 32 x48 h) h fun x49 h50 =>
  bS (st 32 x47 (.agg x49) h50) fun h51 =>
  J (x47, ()) h51
theorem c20_eq (e : Cx) (x47 : V) (x48 : V) (h : AH) (n : Kn) (ee : Ke) (r : Kn) : runL (cfgS e) lv 59 e.F (peel 1 (cP [8] B)).1 (mkT K41 (x47, x48, ())) h n ee r = c20 e (fun t h => n (mkT K42 t) h) (x47, x48, ()) h := by kernel_rfl
noncomputable def r20 (e : Cx) (Jn : P42 → AH → Res) (Jr : P42 → AH → Res) : P41 → AH → Res
| (x47, x48, _), h =>
  c20 e Jr (x47, x48, ()) h
theorem r20_eq (e : Cx) (Jn : P42 → AH → Res) (Jr : P42 → AH → Res) : ∀ t h, exL (cfgS e) lv 59 e.F (cP [8] B) (mkT K41 t) h (jk K42 Jn) (exK []) (jk K42 Jr) = r20 e Jn Jr t h
| (x47, x48, _), h => nd_chain' (X := cP [8] B) (Y := (cP [9] B)) 1 (L := K42) (S := fun J => c20 e J (x47, x48, ()) h) (Q := Jr) (by kernel_rfl) (fun n => c20_eq e x47 x48 h n (exK []) (jk K42 Jr)) (fun t h => by kernel_rfl)
noncomputable def c11 (e : Cx) (J : P24 → AH → Res) : P22 → AH → Res
| (x44, x45, x46, _), h =>
  bA (ldA 8 x45 h) h fun x54 h55 =>
  J (x44, x46, x54, 0, ()) h55
theorem c11_eq (e : Cx) (x44 : V) (x45 : V) (x46 : V) (h : AH) (n : Kn) (ee : Ke) (r : Kn) : runL (cfgS e) lv 59 e.F (peel 1 (cP [7, 0] B)).1 (mkT K22 (x44, x45, x46, ())) h n ee r = c11 e (fun t h => n (mkT K24 t) h) (x44, x45, x46, ()) h := by kernel_rfl
noncomputable def c12 (e : Cx) (J : P26 → AH → Res) : P24 → AH → Res
| (x65, x66, x67, x68, _), h =>
  J (x65, x66, x67, x68, (decide (x68 < 8)), ()) h
theorem c12_eq (e : Cx) (x65 : V) (x66 : V) (x67 : List V) (x68 : Int) (h : AH) (n : Kn) (ee : Ke) (r : Kn) : runL (cfgS e) lv 59 e.F (peel 1 (cP [7, 3] B)).1 (mkT K24 (x65, x66, x67, x68, ())) h n ee r = c12 e (fun t h => n (mkT K26 t) h) (x65, x66, x67, x68, ()) h := by kernel_rfl
noncomputable def c19 (e : Cx) (J : P24 → AH → Res) : P24 → AH → Res
| (x84, x85, x86, x87, _), h =>
  J (x84, x85, x86, (wr .i64 (x87 + 1)), ()) h
theorem c19_eq (e : Cx) (x84 : V) (x85 : V) (x86 : List V) (x87 : Int) (h : AH) (n : Kn) (ee : Ke) (r : Kn) : runL (cfgS e) lv 59 e.F (peel 1 (cP [7, 6] B)).1 (mkT K24 (x84, x85, x86, x87, ())) h n ee r = c19 e (fun t h => n (mkT K24 t) h) (x84, x85, x86, x87, ()) h := by kernel_rfl
noncomputable def r19 (e : Cx) (Jn : P24 → AH → Res) (J4 : P41 → AH → Res) (Jr : P42 → AH → Res) : P24 → AH → Res
| (x84, x85, x86, x87, _), h =>
  c19 e Jn (x84, x85, x86, x87, ()) h
theorem r19_eq (e : Cx) (Jn : P24 → AH → Res) (J4 : P41 → AH → Res) (Jr : P42 → AH → Res) : ∀ t h, exL (cfgS e) lv 59 e.F (cP [7, 6] B) (mkT K24 t) h (jk K24 Jn) (exK [(4, (jk K41 J4))]) (jk K42 Jr) = r19 e Jn J4 Jr t h
| (x84, x85, x86, x87, _), h => nd_chain' (X := cP [7, 6] B) (Y := .skip) 1 (L := K24) (S := fun J => c19 e J (x84, x85, x86, x87, ()) h) (Q := Jn) (by kernel_rfl) (fun n => c19_eq e x84 x85 x86 x87 h n (exK [(4, (jk K41 J4))]) (jk K42 Jr)) (fun t h => by kernel_rfl)
noncomputable def c13 (e : Cx) (J : P30 → AH → Res) : P24 → AH → Res
| (x80, x81, x82, x83, _), h =>
  bI .u32 (ixC 8 1 x82 x83) h fun x93 h94 =>
  J (x80, x81, x83, x93, x82, x83, 0, ()) h94
theorem c13_eq (e : Cx) (x80 : V) (x81 : V) (x82 : List V) (x83 : Int) (h : AH) (n : Kn) (ee : Ke) (r : Kn) : runL (cfgS e) lv 59 e.F (peel 2 (cP [7, 5, 1] B)).1 (mkT K24 (x80, x81, x82, x83, ())) h n ee r = c13 e (fun t h => n (mkT K30 t) h) (x80, x81, x82, x83, ()) h := by kernel_rfl
noncomputable def c15 (e : Cx) (J : P32 → AH → Res) : P30 → AH → Res
| (x110, x111, x112, x113, x114, x115, x116, _), h =>
  J (x110, x111, x112, x113, x114, x115, x116, (decide (x116 < 4)), ()) h
theorem c15_eq (e : Cx) (x110 : V) (x111 : V) (x112 : Int) (x113 : Int) (x114 : List V) (x115 : Int) (x116 : Int) (h : AH) (n : Kn) (ee : Ke) (r : Kn) : runL (cfgS e) lv 59 e.F (peel 1 (cP [7, 5, 5] B)).1 (mkT K30 (x110, x111, x112, x113, x114, x115, x116, ())) h n ee r = c15 e (fun t h => n (mkT K32 t) h) (x110, x111, x112, x113, x114, x115, x116, ()) h := by kernel_rfl
noncomputable def c18 (e : Cx) (J : P30 → AH → Res) : P30 → AH → Res
| (x141, x142, x143, x144, x145, x146, x147, _), h =>
  J (x141, x142, x143, x144, x145, x146, (wr .i64 (x147 + 1)), ()) h
theorem c18_eq (e : Cx) (x141 : V) (x142 : V) (x143 : Int) (x144 : Int) (x145 : List V) (x146 : Int) (x147 : Int) (h : AH) (n : Kn) (ee : Ke) (r : Kn) : runL (cfgS e) lv 59 e.F (peel 1 (cP [7, 5, 8] B)).1 (mkT K30 (x141, x142, x143, x144, x145, x146, x147, ())) h n ee r = c18 e (fun t h => n (mkT K30 t) h) (x141, x142, x143, x144, x145, x146, x147, ()) h := by kernel_rfl
noncomputable def r18 (e : Cx) (Jn : P30 → AH → Res) (J6 : P24 → AH → Res) (J5 : P24 → AH → Res) (J4 : P41 → AH → Res) (Jr : P42 → AH → Res) : P30 → AH → Res
| (x141, x142, x143, x144, x145, x146, x147, _), h =>
  c18 e Jn (x141, x142, x143, x144, x145, x146, x147, ()) h
theorem r18_eq (e : Cx) (Jn : P30 → AH → Res) (J6 : P24 → AH → Res) (J5 : P24 → AH → Res) (J4 : P41 → AH → Res) (Jr : P42 → AH → Res) : ∀ t h, exL (cfgS e) lv 59 e.F (cP [7, 5, 8] B) (mkT K30 t) h (jk K30 Jn) (exK [(6, (jk K24 J6)), (5, (jk K24 J5)), (4, (jk K41 J4))]) (jk K42 Jr) = r18 e Jn J6 J5 J4 Jr t h
| (x141, x142, x143, x144, x145, x146, x147, _), h => nd_chain' (X := cP [7, 5, 8] B) (Y := .skip) 1 (L := K30) (S := fun J => c18 e J (x141, x142, x143, x144, x145, x146, x147, ()) h) (Q := Jn) (by kernel_rfl) (fun n => c18_eq e x141 x142 x143 x144 x145 x146 x147 h n (exK [(6, (jk K24 J6)), (5, (jk K24 J5)), (4, (jk K41 J4))]) (jk K42 Jr)) (fun t h => by kernel_rfl)
noncomputable def c16 (e : Cx) (J : P30 → AH → Res) : P30 → AH → Res
| (x134, x135, x136, x137, x138, x139, x140, _), h =>
  bI .u32 (if (wr .i64 (24 - (wr .i64 (8 * x140)))) < 0 then none else some (.int .u32 (ishr .u32 x137 (wr .i64 (24 - (wr .i64 (8 * x140))))))) h fun x156 h157 =>
  bV (ixA 32 1 x135 (wr .i64 ((wr .i64 (4 * x136)) + x140))) h157 fun x158 h159 =>
  bS (st 1 x158 (.int .u8 (wr .u8 x156)) h159) fun h160 =>
  J (x134, x135, x136, x137, x138, x139, x140, ()) h160
theorem c16_eq (e : Cx) (x134 : V) (x135 : V) (x136 : Int) (x137 : Int) (x138 : List V) (x139 : Int) (x140 : Int) (h : AH) (n : Kn) (ee : Ke) (r : Kn) : runL (cfgS e) lv 59 e.F (peel 2 (cP [7, 5, 7, 1] B)).1 (mkT K30 (x134, x135, x136, x137, x138, x139, x140, ())) h n ee r = c16 e (fun t h => n (mkT K30 t) h) (x134, x135, x136, x137, x138, x139, x140, ()) h := by kernel_rfl
noncomputable def r16 (e : Cx) (Jn : P30 → AH → Res) (J6 : P24 → AH → Res) (J5 : P24 → AH → Res) (J4 : P41 → AH → Res) (Jr : P42 → AH → Res) : P30 → AH → Res
| (x134, x135, x136, x137, x138, x139, x140, _), h =>
  c16 e (r18 e Jn J6 J5 J4 Jr) (x134, x135, x136, x137, x138, x139, x140, ()) h
theorem r16_eq (e : Cx) (Jn : P30 → AH → Res) (J6 : P24 → AH → Res) (J5 : P24 → AH → Res) (J4 : P41 → AH → Res) (Jr : P42 → AH → Res) : ∀ t h, exL (cfgS e) lv 59 e.F (cP [7, 5, 7] B) (mkT K30 t) h (jk K30 Jn) (exK [(6, (jk K24 J6)), (5, (jk K24 J5)), (4, (jk K41 J4))]) (jk K42 Jr) = r16 e Jn J6 J5 J4 Jr t h
| (x134, x135, x136, x137, x138, x139, x140, _), h => (nd_norm' (X := (cP [7, 5, 7] B)) (a := cP [7, 5, 7, 0] B) (b := cP [7, 5, 8] B) (L := K30) (by kernel_rfl) (by kernel_rfl) (by kernel_rfl) (SB := (r18 e Jn J6 J5 J4 Jr)) (r18_eq e Jn J6 J5 J4 Jr) _ _).trans (nd_block' (X := cP [7, 5, 7, 0] B) (id := 7) (b := cP [7, 5, 7, 1] B) (by kernel_rfl) (nd_chain' (X := cP [7, 5, 7, 1] B) (Y := .skip) 2 (L := K30) (S := fun J => c16 e J (x134, x135, x136, x137, x138, x139, x140, ()) h) (Q := (r18 e Jn J6 J5 J4 Jr)) (by kernel_rfl) (fun n => c16_eq e x134 x135 x136 x137 x138 x139 x140 h n (exK [(7, (jk K30 (r18 e Jn J6 J5 J4 Jr))), (6, (jk K24 J6)), (5, (jk K24 J5)), (4, (jk K41 J4))]) (jk K42 Jr)) (fun t h => by kernel_rfl)))
noncomputable def k15 (e : Cx) (Jn : P30 → AH → Res) (J6 : P24 → AH → Res) (J5 : P24 → AH → Res) (J4 : P41 → AH → Res) (Jr : P42 → AH → Res) : P32 → AH → Res
| (x126, x127, x128, x129, x130, x131, x132, x133, _), h =>
  bif x133 then (r16 e Jn J6 J5 J4 Jr) (x126, x127, x128, x129, x130, x131, x132, ()) h else J6 (x126, x127, x130, x131, ()) h
theorem k15_eq (e : Cx) (Jn : P30 → AH → Res) (J6 : P24 → AH → Res) (J5 : P24 → AH → Res) (J4 : P41 → AH → Res) (Jr : P42 → AH → Res) : ∀ t h, exL (cfgS e) lv 59 e.F (cP [7, 5, 6] B) (mkT K32 t) h (jk K30 Jn) (exK [(6, (jk K24 J6)), (5, (jk K24 J5)), (4, (jk K41 J4))]) (jk K42 Jr) = k15 e Jn J6 J5 J4 Jr t h
| (x126, x127, x128, x129, x130, x131, x132, x133, _), h => (nd_norm' (X := (cP [7, 5, 6] B)) (a := cP [7, 5, 6, 0] B) (b := cP [7, 5, 7] B) (L := K30) (by kernel_rfl) (by kernel_rfl) (by kernel_rfl) (SB := (r16 e Jn J6 J5 J4 Jr)) (r16_eq e Jn J6 J5 J4 Jr) _ _).trans (nd_cond' (X := cP [7, 5, 6, 0] B) (a := cP [7, 5, 6, 0, 0] B) (b := cP [7, 5, 6, 1] B) (t := x133) (x := .tmp 43) (by kernel_rfl) (by kernel_rfl) (by kernel_rfl) (by kernel_rfl))
noncomputable def l15 (e : Cx) (Jn : P30 → AH → Res) (J6 : P24 → AH → Res) (J5 : P24 → AH → Res) (J4 : P41 → AH → Res) (Jr : P42 → AH → Res) : P30 → AH → Res
| (x110, x111, x112, x113, x114, x115, x116, _), h =>
  c15 e (k15 e Jn J6 J5 J4 Jr) (x110, x111, x112, x113, x114, x115, x116, ()) h
theorem l15_eq (e : Cx) (Jn : P30 → AH → Res) (J6 : P24 → AH → Res) (J5 : P24 → AH → Res) (J4 : P41 → AH → Res) (Jr : P42 → AH → Res) : ∀ t h, exL (cfgS e) lv 59 e.F (cP [7, 5, 5] B) (mkT K30 t) h (jk K30 Jn) (exK [(6, (jk K24 J6)), (5, (jk K24 J5)), (4, (jk K41 J4))]) (jk K42 Jr) = l15 e Jn J6 J5 J4 Jr t h
| (x110, x111, x112, x113, x114, x115, x116, _), h => nd_chain' (X := cP [7, 5, 5] B) (Y := (cP [7, 5, 6] B)) 1 (L := K32) (S := fun J => c15 e J (x110, x111, x112, x113, x114, x115, x116, ()) h) (Q := (k15 e Jn J6 J5 J4 Jr)) (by kernel_rfl) (fun n => c15_eq e x110 x111 x112 x113 x114 x115 x116 h n (exK [(6, (jk K24 J6)), (5, (jk K24 J5)), (4, (jk K41 J4))]) (jk K42 Jr)) (k15_eq e Jn J6 J5 J4 Jr)
noncomputable def k14 (e : Cx) (Jn : P24 → AH → Res) (J5 : P24 → AH → Res) (J4 : P41 → AH → Res) (Jr : P42 → AH → Res) : P30 → AH → Res
| (x103, x104, x105, x106, x107, x108, x109, _), h =>
  loopN (P30) e.F (fun t h n => l15 e n Jn J5 J4 Jr t h) (x103, x104, x105, x106, x107, x108, x109, ()) h
theorem k14_eq (e : Cx) (Jn : P24 → AH → Res) (J5 : P24 → AH → Res) (J4 : P41 → AH → Res) (Jr : P42 → AH → Res) : ∀ t h, exL (cfgS e) lv 59 e.F (cP [7, 5, 3] B) (mkT K30 t) h (jk K24 Jn) (exK [(5, (jk K24 J5)), (4, (jk K41 J4))]) (jk K42 Jr) = k14 e Jn J5 J4 Jr t h
| (x103, x104, x105, x106, x107, x108, x109, _), h => nd_block' (X := cP [7, 5, 3] B) (id := 6) (b := cP [7, 5, 4] B) (by kernel_rfl) ((nd_loop' (X := cP [7, 5, 4] B) (b := cP [7, 5, 5] B) (L := K30) (by kernel_rfl) (by kernel_rfl) (SB := fun n => l15 e n Jn J5 J4 Jr) (fun n => l15_eq e n Jn J5 J4 Jr) _ _).trans (by kernel_rfl))
noncomputable def r13 (e : Cx) (Jn : P24 → AH → Res) (J4 : P41 → AH → Res) (Jr : P42 → AH → Res) : P24 → AH → Res
| (x80, x81, x82, x83, _), h =>
  c13 e (k14 e (r19 e Jn J4 Jr) (r19 e Jn J4 Jr) J4 Jr) (x80, x81, x82, x83, ()) h
theorem r13_eq (e : Cx) (Jn : P24 → AH → Res) (J4 : P41 → AH → Res) (Jr : P42 → AH → Res) : ∀ t h, exL (cfgS e) lv 59 e.F (cP [7, 5] B) (mkT K24 t) h (jk K24 Jn) (exK [(4, (jk K41 J4))]) (jk K42 Jr) = r13 e Jn J4 Jr t h
| (x80, x81, x82, x83, _), h => (nd_norm' (X := (cP [7, 5] B)) (a := cP [7, 5, 0] B) (b := cP [7, 6] B) (L := K24) (by kernel_rfl) (by kernel_rfl) (by kernel_rfl) (SB := (r19 e Jn J4 Jr)) (r19_eq e Jn J4 Jr) _ _).trans (nd_block' (X := cP [7, 5, 0] B) (id := 5) (b := cP [7, 5, 1] B) (by kernel_rfl) (nd_chain' (X := cP [7, 5, 1] B) (Y := (cP [7, 5, 3] B)) 2 (L := K30) (S := fun J => c13 e J (x80, x81, x82, x83, ()) h) (Q := (k14 e (r19 e Jn J4 Jr) (r19 e Jn J4 Jr) J4 Jr)) (by kernel_rfl) (fun n => c13_eq e x80 x81 x82 x83 h n (exK [(5, (jk K24 (r19 e Jn J4 Jr))), (4, (jk K41 J4))]) (jk K42 Jr)) (k14_eq e (r19 e Jn J4 Jr) (r19 e Jn J4 Jr) J4 Jr)))
noncomputable def k12 (e : Cx) (Jn : P24 → AH → Res) (J4 : P41 → AH → Res) (Jr : P42 → AH → Res) : P26 → AH → Res
| (x75, x76, x77, x78, x79, _), h =>
  bif x79 then (r13 e Jn J4 Jr) (x75, x76, x77, x78, ()) h else J4 (x75, x76, ()) h
theorem k12_eq (e : Cx) (Jn : P24 → AH → Res) (J4 : P41 → AH → Res) (Jr : P42 → AH → Res) : ∀ t h, exL (cfgS e) lv 59 e.F (cP [7, 4] B) (mkT K26 t) h (jk K24 Jn) (exK [(4, (jk K41 J4))]) (jk K42 Jr) = k12 e Jn J4 Jr t h
| (x75, x76, x77, x78, x79, _), h => (nd_norm' (X := (cP [7, 4] B)) (a := cP [7, 4, 0] B) (b := cP [7, 5] B) (L := K24) (by kernel_rfl) (by kernel_rfl) (by kernel_rfl) (SB := (r13 e Jn J4 Jr)) (r13_eq e Jn J4 Jr) _ _).trans (nd_cond' (X := cP [7, 4, 0] B) (a := cP [7, 4, 0, 0] B) (b := cP [7, 4, 1] B) (t := x79) (x := .tmp 39) (by kernel_rfl) (by kernel_rfl) (by kernel_rfl) (by kernel_rfl))
noncomputable def l12 (e : Cx) (Jn : P24 → AH → Res) (J4 : P41 → AH → Res) (Jr : P42 → AH → Res) : P24 → AH → Res
| (x65, x66, x67, x68, _), h =>
  c12 e (k12 e Jn J4 Jr) (x65, x66, x67, x68, ()) h
theorem l12_eq (e : Cx) (Jn : P24 → AH → Res) (J4 : P41 → AH → Res) (Jr : P42 → AH → Res) : ∀ t h, exL (cfgS e) lv 59 e.F (cP [7, 3] B) (mkT K24 t) h (jk K24 Jn) (exK [(4, (jk K41 J4))]) (jk K42 Jr) = l12 e Jn J4 Jr t h
| (x65, x66, x67, x68, _), h => nd_chain' (X := cP [7, 3] B) (Y := (cP [7, 4] B)) 1 (L := K26) (S := fun J => c12 e J (x65, x66, x67, x68, ()) h) (Q := (k12 e Jn J4 Jr)) (by kernel_rfl) (fun n => c12_eq e x65 x66 x67 x68 h n (exK [(4, (jk K41 J4))]) (jk K42 Jr)) (k12_eq e Jn J4 Jr)
noncomputable def k11 (e : Cx) (Jn : P41 → AH → Res) (Jr : P42 → AH → Res) : P24 → AH → Res
| (x61, x62, x63, x64, _), h =>
  loopN (P24) e.F (fun t h n => l12 e n Jn Jr t h) (x61, x62, x63, x64, ()) h
theorem k11_eq (e : Cx) (Jn : P41 → AH → Res) (Jr : P42 → AH → Res) : ∀ t h, exL (cfgS e) lv 59 e.F (cP [7, 1] B) (mkT K24 t) h (jk K41 Jn) (exK []) (jk K42 Jr) = k11 e Jn Jr t h
| (x61, x62, x63, x64, _), h => nd_block' (X := cP [7, 1] B) (id := 4) (b := cP [7, 2] B) (by kernel_rfl) ((nd_loop' (X := cP [7, 2] B) (b := cP [7, 3] B) (L := K24) (by kernel_rfl) (by kernel_rfl) (SB := fun n => l12 e n Jn Jr) (fun n => l12_eq e n Jn Jr) _ _).trans (by kernel_rfl))
noncomputable def k10 (e : Cx) (Jn : P42 → AH → Res) (Jr : P42 → AH → Res) : P22 → AH → Res
| (x44, x45, x46, _), h =>
  c11 e (k11 e (r20 e Jn Jr) Jr) (x44, x45, x46, ()) h
theorem k10_eq (e : Cx) (Jn : P42 → AH → Res) (Jr : P42 → AH → Res) : ∀ t h, exL (cfgS e) lv 59 e.F (cP [7] B) (mkT K22 t) h (jk K42 Jn) (exK []) (jk K42 Jr) = k10 e Jn Jr t h
| (x44, x45, x46, _), h => (nd_norm' (X := (cP [7] B)) (a := cP [7, 0] B) (b := cP [8] B) (L := K41) (by kernel_rfl) (by kernel_rfl) (by kernel_rfl) (SB := (r20 e Jn Jr)) (r20_eq e Jn Jr) _ _).trans (nd_chain' (X := cP [7, 0] B) (Y := (cP [7, 1] B)) 1 (L := K24) (S := fun J => c11 e J (x44, x45, x46, ()) h) (Q := (k11 e (r20 e Jn Jr) Jr)) (by kernel_rfl) (fun n => c11_eq e x44 x45 x46 h n (exK []) (jk K42 Jr)) (k11_eq e (r20 e Jn Jr) Jr))
noncomputable def r10 (e : Cx) (Jn : P42 → AH → Res) (Jr : P42 → AH → Res) : P21 → AH → Res
| (x36, x37, _), h =>
  c10 e (k10 e Jn Jr) (x36, x37, ()) h
theorem r10_eq (e : Cx) (Jn : P42 → AH → Res) (Jr : P42 → AH → Res) : ∀ t h, exL (cfgS e) lv 59 e.F (cP [6] B) (mkT K21 t) h (jk K42 Jn) (exK []) (jk K42 Jr) = r10 e Jn Jr t h
| (x36, x37, _), h => nd_chain' (X := cP [6] B) (Y := (cP [7] B)) 1 (L := K22) (S := fun J => c10 e J (x36, x37, ()) h) (Q := (k10 e Jn Jr)) (by kernel_rfl) (fun n => c10_eq e x36 x37 h n (exK []) (jk K42 Jr)) (k10_eq e Jn Jr)
noncomputable def c8 (e : Cx) (J : P14 → AH → Res) : P14 → AH → Res
| (x172, x173, x174, _), h =>
  bA (ldA 8 x173 h) h fun x175 h176 =>
  bV (arrAt 64 x174) h176 fun x177 h178 =>
  bA (ldA 64 x177 h178) h178 fun x179 h180 =>
  cA (e.C n_sha_Block [(.agg x175), (.agg x179)] h180) fun x181 h182 =>
  bS (st 8 x173 (.agg x181) h182) fun h183 =>
  bV (slS 1 x174 (some (.int .i64 64)) none none) h183 fun x184 h185 =>
  J (x172, x173, x184, ()) h185
theorem c8_eq (e : Cx) (x172 : V) (x173 : V) (x174 : V) (h : AH) (n : Kn) (ee : Ke) (r : Kn) : runL (cfgS e) lv 59 e.F (peel 2 (cP [5, 4] B)).1 (mkT K14 (x172, x173, x174, ())) h n ee r = c8 e (fun t h => n (mkT K14 t) h) (x172, x173, x174, ()) h := by kernel_rfl
noncomputable def r8 (e : Cx) (Jn : P14 → AH → Res) (J2 : P21 → AH → Res) (Jr : P42 → AH → Res) : P14 → AH → Res
| (x172, x173, x174, _), h =>
  c8 e Jn (x172, x173, x174, ()) h
theorem r8_eq (e : Cx) (Jn : P14 → AH → Res) (J2 : P21 → AH → Res) (Jr : P42 → AH → Res) : ∀ t h, exL (cfgS e) lv 59 e.F (cP [5, 3] B) (mkT K14 t) h (jk K14 Jn) (exK [(2, (jk K21 J2))]) (jk K42 Jr) = r8 e Jn J2 Jr t h
| (x172, x173, x174, _), h => nd_block' (X := cP [5, 3] B) (id := 3) (b := cP [5, 4] B) (by kernel_rfl) (nd_chain' (X := cP [5, 4] B) (Y := .skip) 2 (L := K14) (S := fun J => c8 e J (x172, x173, x174, ()) h) (Q := Jn) (by kernel_rfl) (fun n => c8_eq e x172 x173 x174 h n (exK [(3, (jk K14 Jn)), (2, (jk K21 J2))]) (jk K42 Jr)) (fun t h => by kernel_rfl))
noncomputable def c7 (e : Cx) (J : P16 → AH → Res) : P14 → AH → Res
| (x169, x170, x171, _), h =>
  bI .i64 (lenS x171) h fun x190 h191 =>
  J (x169, x170, x171, (decide (x190 ≥ 64)), ()) h191
theorem c7_eq (e : Cx) (x169 : V) (x170 : V) (x171 : V) (h : AH) (n : Kn) (ee : Ke) (r : Kn) : runL (cfgS e) lv 59 e.F (peel 1 (cP [5, 2, 0] B)).1 (mkT K14 (x169, x170, x171, ())) h n ee r = c7 e (fun t h => n (mkT K16 t) h) (x169, x170, x171, ()) h := by kernel_rfl
noncomputable def k7 (e : Cx) (Jn : P14 → AH → Res) (J2 : P21 → AH → Res) (Jr : P42 → AH → Res) : P16 → AH → Res
| (x197, x198, x199, x200, _), h =>
  bif x200 then Jn (x197, x198, x199, ()) h else J2 (x197, x198, ()) h
theorem k7_eq (e : Cx) (Jn : P14 → AH → Res) (J2 : P21 → AH → Res) (Jr : P42 → AH → Res) : ∀ t h, exL (cfgS e) lv 59 e.F (cP [5, 2, 1] B) (mkT K16 t) h (jk K14 Jn) (exK [(2, (jk K21 J2))]) (jk K42 Jr) = k7 e Jn J2 Jr t h
| (x197, x198, x199, x200, _), h => nd_cond' (X := cP [5, 2, 1] B) (a := cP [5, 2, 1, 0] B) (b := cP [5, 2, 2] B) (t := x200) (x := .tmp 29) (by kernel_rfl) (by kernel_rfl) (by kernel_rfl) (by kernel_rfl)
noncomputable def l7 (e : Cx) (Jn : P14 → AH → Res) (J2 : P21 → AH → Res) (Jr : P42 → AH → Res) : P14 → AH → Res
| (x169, x170, x171, _), h =>
  c7 e (k7 e (r8 e Jn J2 Jr) J2 Jr) (x169, x170, x171, ()) h
theorem l7_eq (e : Cx) (Jn : P14 → AH → Res) (J2 : P21 → AH → Res) (Jr : P42 → AH → Res) : ∀ t h, exL (cfgS e) lv 59 e.F (cP [5, 2] B) (mkT K14 t) h (jk K14 Jn) (exK [(2, (jk K21 J2))]) (jk K42 Jr) = l7 e Jn J2 Jr t h
| (x169, x170, x171, _), h => (nd_norm' (X := (cP [5, 2] B)) (a := cP [5, 2, 0] B) (b := cP [5, 3] B) (L := K14) (by kernel_rfl) (by kernel_rfl) (by kernel_rfl) (SB := (r8 e Jn J2 Jr)) (r8_eq e Jn J2 Jr) _ _).trans (nd_chain' (X := cP [5, 2, 0] B) (Y := (cP [5, 2, 1] B)) 1 (L := K16) (S := fun J => c7 e J (x169, x170, x171, ()) h) (Q := (k7 e (r8 e Jn J2 Jr) J2 Jr)) (by kernel_rfl) (fun n => c7_eq e x169 x170 x171 h n (exK [(2, (jk K21 J2))]) (jk K42 Jr)) (k7_eq e (r8 e Jn J2 Jr) J2 Jr))
noncomputable def k6 (e : Cx) (Jn : P42 → AH → Res) (Jr : P42 → AH → Res) : P14 → AH → Res
| (x33, x34, x35, _), h =>
  loopN (P14) e.F (fun t h n => l7 e n (r10 e Jn Jr) Jr t h) (x33, x34, x35, ()) h
theorem k6_eq (e : Cx) (Jn : P42 → AH → Res) (Jr : P42 → AH → Res) : ∀ t h, exL (cfgS e) lv 59 e.F (cP [5] B) (mkT K14 t) h (jk K42 Jn) (exK []) (jk K42 Jr) = k6 e Jn Jr t h
| (x33, x34, x35, _), h => (nd_norm' (X := (cP [5] B)) (a := cP [5, 0] B) (b := cP [6] B) (L := K21) (by kernel_rfl) (by kernel_rfl) (by kernel_rfl) (SB := (r10 e Jn Jr)) (r10_eq e Jn Jr) _ _).trans (nd_block' (X := cP [5, 0] B) (id := 2) (b := cP [5, 1] B) (by kernel_rfl) ((nd_loop' (X := cP [5, 1] B) (b := cP [5, 2] B) (L := K14) (by kernel_rfl) (by kernel_rfl) (SB := fun n => l7 e n (r10 e Jn Jr) Jr) (fun n => l7_eq e n (r10 e Jn Jr) Jr) _ _).trans (by kernel_rfl)))
noncomputable def r6 (e : Cx) (Jn : P42 → AH → Res) (Jr : P42 → AH → Res) : P6 → AH → Res
| (x17, x18, x19, x20, _), h =>
  c6 e (k6 e Jn Jr) (x17, x18, x19, x20, ()) h
theorem r6_eq (e : Cx) (Jn : P42 → AH → Res) (Jr : P42 → AH → Res) : ∀ t h, exL (cfgS e) lv 59 e.F (cP [4] B) (mkT K6 t) h (jk K42 Jn) (exK []) (jk K42 Jr) = r6 e Jn Jr t h
| (x17, x18, x19, x20, _), h => nd_chain' (X := cP [4] B) (Y := (cP [5] B)) 1 (L := K14) (S := fun J => c6 e J (x17, x18, x19, x20, ()) h) (Q := (k6 e Jn Jr)) (by kernel_rfl) (fun n => c6_eq e x17 x18 x19 x20 h n (exK []) (jk K42 Jr)) (k6_eq e Jn Jr)
noncomputable def c4 (e : Cx) (J : P6 → AH → Res) : P6 → AH → Res
| (x205, x206, x207, x208, _), h =>
  bA (ldA 8 x207 h) h fun x209 h210 =>
  bV (arrAt 64 x208) h210 fun x211 h212 =>
  bA (ldA 64 x211 h212) h212 fun x213 h214 =>
  cA (e.C n_sha_Block [(.agg x209), (.agg x213)] h214) fun x215 h216 =>
  bS (st 8 x207 (.agg x215) h216) fun h217 =>
  bV (slS 1 x208 (some (.int .i64 64)) none none) h217 fun x218 h219 =>
  J (x205, x206, x207, x218, ()) h219
theorem c4_eq (e : Cx) (x205 : V) (x206 : V) (x207 : V) (x208 : V) (h : AH) (n : Kn) (ee : Ke) (r : Kn) : runL (cfgS e) lv 59 e.F (peel 2 (cP [3, 4] B)).1 (mkT K6 (x205, x206, x207, x208, ())) h n ee r = c4 e (fun t h => n (mkT K6 t) h) (x205, x206, x207, x208, ()) h := by kernel_rfl
noncomputable def r4 (e : Cx) (Jn : P6 → AH → Res) (J0 : P6 → AH → Res) (Jr : P42 → AH → Res) : P6 → AH → Res
| (x205, x206, x207, x208, _), h =>
  c4 e Jn (x205, x206, x207, x208, ()) h
theorem r4_eq (e : Cx) (Jn : P6 → AH → Res) (J0 : P6 → AH → Res) (Jr : P42 → AH → Res) : ∀ t h, exL (cfgS e) lv 59 e.F (cP [3, 3] B) (mkT K6 t) h (jk K6 Jn) (exK [(0, (jk K6 J0))]) (jk K42 Jr) = r4 e Jn J0 Jr t h
| (x205, x206, x207, x208, _), h => nd_block' (X := cP [3, 3] B) (id := 1) (b := cP [3, 4] B) (by kernel_rfl) (nd_chain' (X := cP [3, 4] B) (Y := .skip) 2 (L := K6) (S := fun J => c4 e J (x205, x206, x207, x208, ()) h) (Q := Jn) (by kernel_rfl) (fun n => c4_eq e x205 x206 x207 x208 h n (exK [(1, (jk K6 Jn)), (0, (jk K6 J0))]) (jk K42 Jr)) (fun t h => by kernel_rfl))
noncomputable def c3 (e : Cx) (J : P8 → AH → Res) : P6 → AH → Res
| (x201, x202, x203, x204, _), h =>
  bI .i64 (lenS x204) h fun x225 h226 =>
  J (x201, x202, x203, x204, (decide (x225 ≥ 64)), ()) h226
theorem c3_eq (e : Cx) (x201 : V) (x202 : V) (x203 : V) (x204 : V) (h : AH) (n : Kn) (ee : Ke) (r : Kn) : runL (cfgS e) lv 59 e.F (peel 1 (cP [3, 2, 0] B)).1 (mkT K6 (x201, x202, x203, x204, ())) h n ee r = c3 e (fun t h => n (mkT K8 t) h) (x201, x202, x203, x204, ()) h := by kernel_rfl
noncomputable def k3 (e : Cx) (Jn : P6 → AH → Res) (J0 : P6 → AH → Res) (Jr : P42 → AH → Res) : P8 → AH → Res
| (x233, x234, x235, x236, x237, _), h =>
  bif x237 then Jn (x233, x234, x235, x236, ()) h else J0 (x233, x234, x235, x236, ()) h
theorem k3_eq (e : Cx) (Jn : P6 → AH → Res) (J0 : P6 → AH → Res) (Jr : P42 → AH → Res) : ∀ t h, exL (cfgS e) lv 59 e.F (cP [3, 2, 1] B) (mkT K8 t) h (jk K6 Jn) (exK [(0, (jk K6 J0))]) (jk K42 Jr) = k3 e Jn J0 Jr t h
| (x233, x234, x235, x236, x237, _), h => nd_cond' (X := cP [3, 2, 1] B) (a := cP [3, 2, 1, 0] B) (b := cP [3, 2, 2] B) (t := x237) (x := .tmp 13) (by kernel_rfl) (by kernel_rfl) (by kernel_rfl) (by kernel_rfl)
noncomputable def l3 (e : Cx) (Jn : P6 → AH → Res) (J0 : P6 → AH → Res) (Jr : P42 → AH → Res) : P6 → AH → Res
| (x201, x202, x203, x204, _), h =>
  c3 e (k3 e (r4 e Jn J0 Jr) J0 Jr) (x201, x202, x203, x204, ()) h
theorem l3_eq (e : Cx) (Jn : P6 → AH → Res) (J0 : P6 → AH → Res) (Jr : P42 → AH → Res) : ∀ t h, exL (cfgS e) lv 59 e.F (cP [3, 2] B) (mkT K6 t) h (jk K6 Jn) (exK [(0, (jk K6 J0))]) (jk K42 Jr) = l3 e Jn J0 Jr t h
| (x201, x202, x203, x204, _), h => (nd_norm' (X := (cP [3, 2] B)) (a := cP [3, 2, 0] B) (b := cP [3, 3] B) (L := K6) (by kernel_rfl) (by kernel_rfl) (by kernel_rfl) (SB := (r4 e Jn J0 Jr)) (r4_eq e Jn J0 Jr) _ _).trans (nd_chain' (X := cP [3, 2, 0] B) (Y := (cP [3, 2, 1] B)) 1 (L := K8) (S := fun J => c3 e J (x201, x202, x203, x204, ()) h) (Q := (k3 e (r4 e Jn J0 Jr) J0 Jr)) (by kernel_rfl) (fun n => c3_eq e x201 x202 x203 x204 h n (exK [(0, (jk K6 J0))]) (jk K42 Jr)) (k3_eq e (r4 e Jn J0 Jr) J0 Jr))
noncomputable def k2 (e : Cx) (Jn : P42 → AH → Res) (Jr : P42 → AH → Res) : P6 → AH → Res
| (x13, x14, x15, x16, _), h =>
  loopN (P6) e.F (fun t h n => l3 e n (r6 e Jn Jr) Jr t h) (x13, x14, x15, x16, ()) h
theorem k2_eq (e : Cx) (Jn : P42 → AH → Res) (Jr : P42 → AH → Res) : ∀ t h, exL (cfgS e) lv 59 e.F (cP [3] B) (mkT K6 t) h (jk K42 Jn) (exK []) (jk K42 Jr) = k2 e Jn Jr t h
| (x13, x14, x15, x16, _), h => (nd_norm' (X := (cP [3] B)) (a := cP [3, 0] B) (b := cP [4] B) (L := K6) (by kernel_rfl) (by kernel_rfl) (by kernel_rfl) (SB := (r6 e Jn Jr)) (r6_eq e Jn Jr) _ _).trans (nd_block' (X := cP [3, 0] B) (id := 0) (b := cP [3, 1] B) (by kernel_rfl) ((nd_loop' (X := cP [3, 1] B) (b := cP [3, 2] B) (L := K6) (by kernel_rfl) (by kernel_rfl) (SB := fun n => l3 e n (r6 e Jn Jr) Jr) (fun n => l3_eq e n (r6 e Jn Jr) Jr) _ _).trans (by kernel_rfl)))
noncomputable def fn (e : Cx) (a0 : V) (h : AH) : Res :=
  c0 e (k2 e ret ret) (a0, ()) h
theorem run (e : Cx) (a0 : V) (h : AH) : execFn (cfgS e) (foLive lv) e.F n_sha_Sum [a0] h = fn e a0 h := by
  refine (fn_eq (c := cfgS e) (lv := lv) (PP.funcs.getD 15 default) B (by kernel_rfl) (by kernel_rfl) (Nat.le_of_ble_eq_true (by kernel_rfl))).trans ?_
  rw [ret_eq]
  exact nd_chain' (X := cP [0] B) (Y := (cP [3] B)) 3 (L := K6) (S := fun J => c0 e J (a0, ()) h) (Q := (k2 e ret ret)) (by kernel_rfl) (fun n => c0_eq e a0 h n (exK []) (jk K42 ret)) (k2_eq e ret ret)
end sha_Sum
/-! codicil/codicilref01.Twin -/
namespace r01_Twin
noncomputable def B : Code := cBody (PP.funcs.getD 16 default)
abbrev K2 : Slots := [(0, .any)]
abbrev P2 := V × Unit
abbrev K4 : Slots := [(0, .any), (3, .any)]
abbrev P4 := V × V × Unit
abbrev K6 : Slots := [(2, .any)]
abbrev P6 := V × Unit
def lv : Nat → Option Slots := fun k =>
  bif Nat.beq k 2 then some K2 else bif Nat.beq k 4 then some K4 else bif Nat.beq k 6 then some K6 else none
abbrev KR : Slots := [(2, .any)]
abbrev PR := V × Unit
noncomputable def ret : P6 → AH → Res
| (x2, _), h => finW [some x2] h
theorem ret_eq (e : Cx) : fin (cfgS e) (foLive lv) (PP.funcs.getD 16 default) = jk K6 ret := by kernel_rfl
noncomputable def c0 (e : Cx) (J : P6 → AH → Res) : V × Unit → AH → Res
| (a0, _), h =>
  cV (app 1 1 T_uint8 (.nilslice) a0 h) fun x1 h2 =>
  J (x1, ()) h2
theorem c0_eq (e : Cx) (a0 : V) (h : AH) (n : Kn) (ee : Ke) (r : Kn) : runL (cfgS e) lv 7 e.F (peel 3 (cP [0] B)).1 (iniT [a0] 0 .leaf) h n ee r = c0 e (fun t h => n (mkT K6 t) h) (a0, ()) h := by kernel_rfl
noncomputable def fn (e : Cx) (a0 : V) (h : AH) : Res :=
  c0 e ret (a0, ()) h
theorem run (e : Cx) (a0 : V) (h : AH) : execFn (cfgS e) (foLive lv) e.F n_r01_Twin [a0] h = fn e a0 h := by
  refine (fn_eq (c := cfgS e) (lv := lv) (PP.funcs.getD 16 default) B (by kernel_rfl) (by kernel_rfl) (Nat.le_of_ble_eq_true (by kernel_rfl))).trans ?_
  rw [ret_eq]
  exact nd_chain' (X := cP [0] B) (Y := (cP [3] B)) 3 (L := K6) (S := fun J => c0 e J (a0, ()) h) (Q := ret) (by kernel_rfl) (fun n => c0_eq e a0 h n (exK []) (jk K6 ret)) (fun t h => by kernel_rfl)
end r01_Twin
/-! codicil/codicilref01.Sum -/
namespace r01_Sum
noncomputable def B : Code := cBody (PP.funcs.getD 17 default)
abbrev K2 : Slots := [(0, .any), (2, .any)]
abbrev P2 := V × V × Unit
abbrev K4 : Slots := [(0, .any), (2, .any), (3, .any)]
abbrev P4 := V × V × V × Unit
abbrev K6 : Slots := [(0, .any), (2, .any), (3, .any), (4, .int .i64)]
abbrev P6 := V × V × V × Int × Unit
abbrev K8 : Slots := [(0, .any), (2, .any), (3, .any), (4, .int .i64), (5, .int .i64)]
abbrev P8 := V × V × V × Int × Int × Unit
abbrev K10 : Slots := [(0, .any), (2, .any), (3, .any), (4, .int .i64), (5, .int .i64), (17, .bool)]
abbrev P10 := V × V × V × Int × Int × Bool × Unit
abbrev K16 : Slots := [(0, .any), (2, .any), (3, .any), (4, .int .i64), (6, .any)]
abbrev P16 := V × V × V × Int × V × Unit
abbrev K18 : Slots := [(0, .any), (2, .any), (3, .any), (6, .any)]
abbrev P18 := V × V × V × V × Unit
abbrev K20 : Slots := [(2, .any), (3, .any), (6, .any)]
abbrev P20 := V × V × V × Unit
abbrev K22 : Slots := [(2, .any), (3, .any), (6, .any), (7, .int .i64)]
abbrev P22 := V × V × V × Int × Unit
abbrev K24 : Slots := [(2, .any), (3, .any), (6, .any), (7, .int .i64), (40, .bool)]
abbrev P24 := V × V × V × Int × Bool × Unit
abbrev K29 : Slots := [(2, .any), (3, .any)]
abbrev P29 := V × V × Unit
abbrev K30 : Slots := [(2, .any), (3, .any), (8, .any)]
abbrev P30 := V × V × V × Unit
abbrev K32 : Slots := [(2, .any), (3, .any), (8, .any), (9, .int .i64)]
abbrev P32 := V × V × V × Int × Unit
abbrev K34 : Slots := [(2, .any), (3, .any), (8, .any), (9, .int .i64), (51, .bool)]
abbrev P34 := V × V × V × Int × Bool × Unit
abbrev K39 : Slots := [(2, .any), (8, .any)]
abbrev P39 := V × V × Unit
abbrev K40 : Slots := [(2, .any)]
abbrev P40 := V × Unit
def lv : Nat → Option Slots := fun k =>
  bif Nat.beq k 2 then some K2 else bif Nat.beq k 4 then some K4 else bif Nat.beq k 6 then some K6 else bif Nat.beq k 8 then some K8 else bif Nat.beq k 10 then some K10 else bif Nat.beq k 13 then some K8 else bif Nat.beq k 14 then some K8 else bif Nat.beq k 11 then some K8 else bif Nat.beq k 12 then some K8 else bif Nat.beq k 9 then some K8 else bif Nat.beq k 15 then some K6 else bif Nat.beq k 16 then some K16 else bif Nat.beq k 18 then some K18 else bif Nat.beq k 20 then some K20 else bif Nat.beq k 22 then some K22 else bif Nat.beq k 24 then some K24 else bif Nat.beq k 27 then some K22 else bif Nat.beq k 28 then some K22 else bif Nat.beq k 25 then some K22 else bif Nat.beq k 26 then some K22 else bif Nat.beq k 23 then some K22 else bif Nat.beq k 29 then some K29 else bif Nat.beq k 30 then some K30 else bif Nat.beq k 32 then some K32 else bif Nat.beq k 34 then some K34 else bif Nat.beq k 37 then some K32 else bif Nat.beq k 38 then some K32 else bif Nat.beq k 35 then some K32 else bif Nat.beq k 36 then some K32 else bif Nat.beq k 33 then some K32 else bif Nat.beq k 39 then some K39 else bif Nat.beq k 40 then some K40 else none
abbrev KR : Slots := [(2, .any)]
abbrev PR := V × Unit
noncomputable def ret : P40 → AH → Res
| (x2, _), h => finW [ldA 32 x2 h] h
theorem ret_eq (e : Cx) : fin (cfgS e) (foLive lv) (PP.funcs.getD 17 default) = jk K40 ret := by kernel_rfl
noncomputable def c0 (e : Cx) (J : P6 → AH → Res) : V × Unit → AH → Res
| (a0, _), h =>
  let x1 := (al (List.replicate 32 (.int .u8 0)) T_api_Id h).1
  let h2 := (al (List.replicate 32 (.int .u8 0)) T_api_Id h).2
  cA (e.C n_r01_First [] h2) fun x3 h4 =>
  let x5 := (al (List.replicate 8 (.int .u32 0)) T_a8_uint32 h4).1
  let h6 := (al (List.replicate 8 (.int .u32 0)) T_a8_uint32 h4).2
  bS (st 8 x5 (.agg x3) h6) fun h7 =>
  bI .i64 (lenS a0) h7 fun x8 h9 =>
  J (a0, x1, x5, (wr .i64 ((wr .i64 (x8.tdiv 64)) * 64)), ()) h9
theorem c0_eq (e : Cx) (a0 : V) (h : AH) (n : Kn) (ee : Ke) (r : Kn) : runL (cfgS e) lv 67 e.F (peel 3 (cP [0] B)).1 (iniT [a0] 0 .leaf) h n ee r = c0 e (fun t h => n (mkT K6 t) h) (a0, ()) h := by kernel_rfl
noncomputable def c7 (e : Cx) (J : P20 → AH → Res) : P6 → AH → Res
| (x19, x20, x21, x22, _), h =>
  bV (slS 1 x19 (some (.int .i64 x22)) none none) h fun x23 h24 =>
  cV (app 1 1 T_uint8 (.nilslice) x23 h24) fun x25 h26 =>
  bI .i64 (lenS x19) h26 fun x27 h28 =>
  cV (e.C n_r01_DocPad [(.int .i64 x27)] h28) fun x29 h30 =>
  cV (app 1 1 T_uint8 x25 x29 h30) fun x31 h32 =>
  J (x20, x21, x31, ()) h32
theorem c7_eq (e : Cx) (x19 : V) (x20 : V) (x21 : V) (x22 : Int) (h : AH) (n : Kn) (ee : Ke) (r : Kn) : runL (cfgS e) lv 67 e.F (peel 3 (cP [4] B)).1 (mkT K6 (x19, x20, x21, x22, ())) h n ee r = c7 e (fun t h => n (mkT K20 t) h) (x19, x20, x21, x22, ()) h := by kernel_rfl
noncomputable def c14 (e : Cx) (J : P30 → AH → Res) : P29 → AH → Res
| (x40, x41, _), h =>
  let x42 := (al (List.replicate 32 (.int .u8 0)) T_api_Id h).1
  let h43 := (al (List.replicate 32 (.int .u8 0)) T_api_Id h).2
  J (x40, x41, x42, ()) h43
theorem c14_eq (e : Cx) (x40 : V) (x41 : V) (h : AH) (n : Kn) (ee : Ke) (r : Kn) : runL (cfgS e) lv 67 e.F (peel 1 (cP [8] B)).1 (mkT K29 (x40, x41, ())) h n ee r = c14 e (fun t h => n (mkT K30 t) h) (x40, x41, ()) h := by kernel_rfl
noncomputable def c19 (e : Cx) (J : P40 → AH → Res) : P39 → AH → Res
| (x51, x52, _), h =>
  bA (ldA 32 x52 h) h fun x53 h54 =>
  bS (st 32 x51 (.agg x53) h54) fun h55 =>
  J (x51, ()) h55
theorem c19_eq (e : Cx) (x51 : V) (x52 : V) (h : AH) (n : Kn) (ee : Ke) (r : Kn) : runL (cfgS e) lv 67 e.F (peel 1 (cP [10] B)).1 (mkT K39 (x51, x52, ())) h n ee r = c19 e (fun t h => n (mkT K40 t) h) (x51, x52, ()) h := by kernel_rfl
noncomputable def r19 (e : Cx) (Jn : P40 → AH → Res) (Jr : P40 → AH → Res) : P39 → AH → Res
| (x51, x52, _), h =>
  c19 e Jr (x51, x52, ()) h
theorem r19_eq (e : Cx) (Jn : P40 → AH → Res) (Jr : P40 → AH → Res) : ∀ t h, exL (cfgS e) lv 67 e.F (cP [10] B) (mkT K39 t) h (jk K40 Jn) (exK []) (jk K40 Jr) = r19 e Jn Jr t h
| (x51, x52, _), h => nd_chain' (X := cP [10] B) (Y := (cP [11] B)) 1 (L := K40) (S := fun J => c19 e J (x51, x52, ()) h) (Q := Jr) (by kernel_rfl) (fun n => c19_eq e x51 x52 h n (exK []) (jk K40 Jr)) (fun t h => by kernel_rfl)
noncomputable def c15 (e : Cx) (J : P32 → AH → Res) : P30 → AH → Res
| (x48, x49, x50, _), h =>
  J (x48, x49, x50, 0, ()) h
theorem c15_eq (e : Cx) (x48 : V) (x49 : V) (x50 : V) (h : AH) (n : Kn) (ee : Ke) (r : Kn) : runL (cfgS e) lv 67 e.F (peel 1 (cP [9, 0] B)).1 (mkT K30 (x48, x49, x50, ())) h n ee r = c15 e (fun t h => n (mkT K32 t) h) (x48, x49, x50, ()) h := by kernel_rfl
noncomputable def c17 (e : Cx) (J : P32 → AH → Res) : P32 → AH → Res
| (x75, x76, x77, x78, _), h =>
  J (x75, x76, x77, (wr .i64 (x78 + 1)), ()) h
theorem c17_eq (e : Cx) (x75 : V) (x76 : V) (x77 : V) (x78 : Int) (h : AH) (n : Kn) (ee : Ke) (r : Kn) : runL (cfgS e) lv 67 e.F (peel 1 (cP [9, 5] B)).1 (mkT K32 (x75, x76, x77, x78, ())) h n ee r = c17 e (fun t h => n (mkT K32 t) h) (x75, x76, x77, x78, ()) h := by kernel_rfl
noncomputable def r17 (e : Cx) (Jn : P32 → AH → Res) (J4 : P39 → AH → Res) (Jr : P40 → AH → Res) : P32 → AH → Res
| (x75, x76, x77, x78, _), h =>
  c17 e Jn (x75, x76, x77, x78, ()) h
theorem r17_eq (e : Cx) (Jn : P32 → AH → Res) (J4 : P39 → AH → Res) (Jr : P40 → AH → Res) : ∀ t h, exL (cfgS e) lv 67 e.F (cP [9, 5] B) (mkT K32 t) h (jk K32 Jn) (exK [(4, (jk K39 J4))]) (jk K40 Jr) = r17 e Jn J4 Jr t h
| (x75, x76, x77, x78, _), h => nd_chain' (X := cP [9, 5] B) (Y := .skip) 1 (L := K32) (S := fun J => c17 e J (x75, x76, x77, x78, ()) h) (Q := Jn) (by kernel_rfl) (fun n => c17_eq e x75 x76 x77 x78 h n (exK [(4, (jk K39 J4))]) (jk K40 Jr)) (fun t h => by kernel_rfl)
noncomputable def c18 (e : Cx) (J : P32 → AH → Res) : P32 → AH → Res
| (x71, x72, x73, x74, _), h =>
  bV (ixA 8 1 x72 (wr .i64 (x74.tdiv 4))) h fun x84 h85 =>
  bI .u32 (ld x84 h85) h85 fun x86 h87 =>
  let x88 : Int := (wr .i64 (24 - (wr .i64 (8 * (x74.tmod 4)))))
  bI .u32 (if x88 < 0 then none else some (.int .u32 (ishr .u32 x86 x88))) h87 fun x89 h90 =>
  bV (ixA 32 1 x73 x74) h90 fun x91 h92 =>
  bS (st 1 x91 (.int .u8 (wr .u8 x89)) h92) fun h93 =>
  J (x71, x72, x73, x74, ()) h93
theorem c18_eq (e : Cx) (x71 : V) (x72 : V) (x73 : V) (x74 : Int) (h : AH) (n : Kn) (ee : Ke) (r : Kn) : runL (cfgS e) lv 67 e.F (peel 1 (cP [9, 4, 1] B)).1 (mkT K32 (x71, x72, x73, x74, ())) h n ee r = c18 e (fun t h => n (mkT K32 t) h) (x71, x72, x73, x74, ()) h := by kernel_rfl
noncomputable def r18 (e : Cx) (Jn : P32 → AH → Res) (J4 : P39 → AH → Res) (Jr : P40 → AH → Res) : P32 → AH → Res
| (x71, x72, x73, x74, _), h =>
  c18 e (r17 e Jn J4 Jr) (x71, x72, x73, x74, ()) h
theorem r18_eq (e : Cx) (Jn : P32 → AH → Res) (J4 : P39 → AH → Res) (Jr : P40 → AH → Res) : ∀ t h, exL (cfgS e) lv 67 e.F (cP [9, 4] B) (mkT K32 t) h (jk K32 Jn) (exK [(4, (jk K39 J4))]) (jk K40 Jr) = r18 e Jn J4 Jr t h
| (x71, x72, x73, x74, _), h => (nd_norm' (X := (cP [9, 4] B)) (a := cP [9, 4, 0] B) (b := cP [9, 5] B) (L := K32) (by kernel_rfl) (by kernel_rfl) (by kernel_rfl) (SB := (r17 e Jn J4 Jr)) (r17_eq e Jn J4 Jr) _ _).trans (nd_block' (X := cP [9, 4, 0] B) (id := 5) (b := cP [9, 4, 1] B) (by kernel_rfl) (nd_chain' (X := cP [9, 4, 1] B) (Y := .skip) 1 (L := K32) (S := fun J => c18 e J (x71, x72, x73, x74, ()) h) (Q := (r17 e Jn J4 Jr)) (by kernel_rfl) (fun n => c18_eq e x71 x72 x73 x74 h n (exK [(5, (jk K32 (r17 e Jn J4 Jr))), (4, (jk K39 J4))]) (jk K40 Jr)) (fun t h => by kernel_rfl)))
noncomputable def c16 (e : Cx) (J : P34 → AH → Res) : P32 → AH → Res
| (x67, x68, x69, x70, _), h =>
  J (x67, x68, x69, x70, (decide (x70 < 32)), ()) h
theorem c16_eq (e : Cx) (x67 : V) (x68 : V) (x69 : V) (x70 : Int) (h : AH) (n : Kn) (ee : Ke) (r : Kn) : runL (cfgS e) lv 67 e.F (peel 1 (cP [9, 3, 0] B)).1 (mkT K32 (x67, x68, x69, x70, ())) h n ee r = c16 e (fun t h => n (mkT K34 t) h) (x67, x68, x69, x70, ()) h := by kernel_rfl
noncomputable def k16 (e : Cx) (Jn : P32 → AH → Res) (J4 : P39 → AH → Res) (Jr : P40 → AH → Res) : P34 → AH → Res
| (x105, x106, x107, x108, x109, _), h =>
  bif x109 then Jn (x105, x106, x107, x108, ()) h else J4 (x105, x107, ()) h
theorem k16_eq (e : Cx) (Jn : P32 → AH → Res) (J4 : P39 → AH → Res) (Jr : P40 → AH → Res) : ∀ t h, exL (cfgS e) lv 67 e.F (cP [9, 3, 1] B) (mkT K34 t) h (jk K32 Jn) (exK [(4, (jk K39 J4))]) (jk K40 Jr) = k16 e Jn J4 Jr t h
| (x105, x106, x107, x108, x109, _), h => nd_cond' (X := cP [9, 3, 1] B) (a := cP [9, 3, 1, 0] B) (b := cP [9, 3, 2] B) (t := x109) (x := .tmp 51) (by kernel_rfl) (by kernel_rfl) (by kernel_rfl) (by kernel_rfl)
noncomputable def l16 (e : Cx) (Jn : P32 → AH → Res) (J4 : P39 → AH → Res) (Jr : P40 → AH → Res) : P32 → AH → Res
| (x67, x68, x69, x70, _), h =>
  c16 e (k16 e (r18 e Jn J4 Jr) J4 Jr) (x67, x68, x69, x70, ()) h
theorem l16_eq (e : Cx) (Jn : P32 → AH → Res) (J4 : P39 → AH → Res) (Jr : P40 → AH → Res) : ∀ t h, exL (cfgS e) lv 67 e.F (cP [9, 3] B) (mkT K32 t) h (jk K32 Jn) (exK [(4, (jk K39 J4))]) (jk K40 Jr) = l16 e Jn J4 Jr t h
| (x67, x68, x69, x70, _), h => (nd_norm' (X := (cP [9, 3] B)) (a := cP [9, 3, 0] B) (b := cP [9, 4] B) (L := K32) (by kernel_rfl) (by kernel_rfl) (by kernel_rfl) (SB := (r18 e Jn J4 Jr)) (r18_eq e Jn J4 Jr) _ _).trans (nd_chain' (X := cP [9, 3, 0] B) (Y := (cP [9, 3, 1] B)) 1 (L := K34) (S := fun J => c16 e J (x67, x68, x69, x70, ()) h) (Q := (k16 e (r18 e Jn J4 Jr) J4 Jr)) (by kernel_rfl) (fun n => c16_eq e x67 x68 x69 x70 h n (exK [(4, (jk K39 J4))]) (jk K40 Jr)) (k16_eq e (r18 e Jn J4 Jr) J4 Jr))
noncomputable def k15 (e : Cx) (Jn : P39 → AH → Res) (Jr : P40 → AH → Res) : P32 → AH → Res
| (x63, x64, x65, x66, _), h =>
  loopN (P32) e.F (fun t h n => l16 e n Jn Jr t h) (x63, x64, x65, x66, ()) h
theorem k15_eq (e : Cx) (Jn : P39 → AH → Res) (Jr : P40 → AH → Res) : ∀ t h, exL (cfgS e) lv 67 e.F (cP [9, 1] B) (mkT K32 t) h (jk K39 Jn) (exK []) (jk K40 Jr) = k15 e Jn Jr t h
| (x63, x64, x65, x66, _), h => nd_block' (X := cP [9, 1] B) (id := 4) (b := cP [9, 2] B) (by kernel_rfl) ((nd_loop' (X := cP [9, 2] B) (b := cP [9, 3] B) (L := K32) (by kernel_rfl) (by kernel_rfl) (SB := fun n => l16 e n Jn Jr) (fun n => l16_eq e n Jn Jr) _ _).trans (by kernel_rfl))
noncomputable def k14 (e : Cx) (Jn : P40 → AH → Res) (Jr : P40 → AH → Res) : P30 → AH → Res
| (x48, x49, x50, _), h =>
  c15 e (k15 e (r19 e Jn Jr) Jr) (x48, x49, x50, ()) h
theorem k14_eq (e : Cx) (Jn : P40 → AH → Res) (Jr : P40 → AH → Res) : ∀ t h, exL (cfgS e) lv 67 e.F (cP [9] B) (mkT K30 t) h (jk K40 Jn) (exK []) (jk K40 Jr) = k14 e Jn Jr t h
| (x48, x49, x50, _), h => (nd_norm' (X := (cP [9] B)) (a := cP [9, 0] B) (b := cP [10] B) (L := K39) (by kernel_rfl) (by kernel_rfl) (by kernel_rfl) (SB := (r19 e Jn Jr)) (r19_eq e Jn Jr) _ _).trans (nd_chain' (X := cP [9, 0] B) (Y := (cP [9, 1] B)) 1 (L := K32) (S := fun J => c15 e J (x48, x49, x50, ()) h) (Q := (k15 e (r19 e Jn Jr) Jr)) (by kernel_rfl) (fun n => c15_eq e x48 x49 x50 h n (exK []) (jk K40 Jr)) (k15_eq e (r19 e Jn Jr) Jr))
noncomputable def r14 (e : Cx) (Jn : P40 → AH → Res) (Jr : P40 → AH → Res) : P29 → AH → Res
| (x40, x41, _), h =>
  c14 e (k14 e Jn Jr) (x40, x41, ()) h
theorem r14_eq (e : Cx) (Jn : P40 → AH → Res) (Jr : P40 → AH → Res) : ∀ t h, exL (cfgS e) lv 67 e.F (cP [8] B) (mkT K29 t) h (jk K40 Jn) (exK []) (jk K40 Jr) = r14 e Jn Jr t h
| (x40, x41, _), h => nd_chain' (X := cP [8] B) (Y := (cP [9] B)) 1 (L := K30) (S := fun J => c14 e J (x40, x41, ()) h) (Q := (k14 e Jn Jr)) (by kernel_rfl) (fun n => c14_eq e x40 x41 h n (exK []) (jk K40 Jr)) (k14_eq e Jn Jr)
noncomputable def c10 (e : Cx) (J : P22 → AH → Res) : P20 → AH → Res
| (x37, x38, x39, _), h =>
  J (x37, x38, x39, 0, ()) h
theorem c10_eq (e : Cx) (x37 : V) (x38 : V) (x39 : V) (h : AH) (n : Kn) (ee : Ke) (r : Kn) : runL (cfgS e) lv 67 e.F (peel 1 (cP [7, 0] B)).1 (mkT K20 (x37, x38, x39, ())) h n ee r = c10 e (fun t h => n (mkT K22 t) h) (x37, x38, x39, ()) h := by kernel_rfl
noncomputable def c12 (e : Cx) (J : P22 → AH → Res) : P22 → AH → Res
| (x127, x128, x129, x130, _), h =>
  J (x127, x128, x129, (wr .i64 (x130 + 64)), ()) h
theorem c12_eq (e : Cx) (x127 : V) (x128 : V) (x129 : V) (x130 : Int) (h : AH) (n : Kn) (ee : Ke) (r : Kn) : runL (cfgS e) lv 67 e.F (peel 1 (cP [7, 5] B)).1 (mkT K22 (x127, x128, x129, x130, ())) h n ee r = c12 e (fun t h => n (mkT K22 t) h) (x127, x128, x129, x130, ()) h := by kernel_rfl
noncomputable def r12 (e : Cx) (Jn : P22 → AH → Res) (J2 : P29 → AH → Res) (Jr : P40 → AH → Res) : P22 → AH → Res
| (x127, x128, x129, x130, _), h =>
  c12 e Jn (x127, x128, x129, x130, ()) h
theorem r12_eq (e : Cx) (Jn : P22 → AH → Res) (J2 : P29 → AH → Res) (Jr : P40 → AH → Res) : ∀ t h, exL (cfgS e) lv 67 e.F (cP [7, 5] B) (mkT K22 t) h (jk K22 Jn) (exK [(2, (jk K29 J2))]) (jk K40 Jr) = r12 e Jn J2 Jr t h
| (x127, x128, x129, x130, _), h => nd_chain' (X := cP [7, 5] B) (Y := .skip) 1 (L := K22) (S := fun J => c12 e J (x127, x128, x129, x130, ()) h) (Q := Jn) (by kernel_rfl) (fun n => c12_eq e x127 x128 x129 x130 h n (exK [(2, (jk K29 J2))]) (jk K40 Jr)) (fun t h => by kernel_rfl)
noncomputable def c13 (e : Cx) (J : P22 → AH → Res) : P22 → AH → Res
| (x123, x124, x125, x126, _), h =>
  bA (ldA 8 x124 h) h fun x136 h137 =>
  bV (slS 1 x125 (some (.int .i64 x126)) (some (.int .i64 (wr .i64 (x126 + 64)))) none) h137 fun x138 h139 =>
  cA (e.C n_r01_compress [(.agg x136), x138] h139) fun x140 h141 =>
  bS (st 8 x124 (.agg x140) h141) fun h142 =>
  J (x123, x124, x125, x126, ()) h142
theorem c13_eq (e : Cx) (x123 : V) (x124 : V) (x125 : V) (x126 : Int) (h : AH) (n : Kn) (ee : Ke) (r : Kn) : runL (cfgS e) lv 67 e.F (peel 1 (cP [7, 4, 1] B)).1 (mkT K22 (x123, x124, x125, x126, ())) h n ee r = c13 e (fun t h => n (mkT K22 t) h) (x123, x124, x125, x126, ()) h := by kernel_rfl
noncomputable def r13 (e : Cx) (Jn : P22 → AH → Res) (J2 : P29 → AH → Res) (Jr : P40 → AH → Res) : P22 → AH → Res
| (x123, x124, x125, x126, _), h =>
  c13 e (r12 e Jn J2 Jr) (x123, x124, x125, x126, ()) h
theorem r13_eq (e : Cx) (Jn : P22 → AH → Res) (J2 : P29 → AH → Res) (Jr : P40 → AH → Res) : ∀ t h, exL (cfgS e) lv 67 e.F (cP [7, 4] B) (mkT K22 t) h (jk K22 Jn) (exK [(2, (jk K29 J2))]) (jk K40 Jr) = r13 e Jn J2 Jr t h
| (x123, x124, x125, x126, _), h => (nd_norm' (X := (cP [7, 4] B)) (a := cP [7, 4, 0] B) (b := cP [7, 5] B) (L := K22) (by kernel_rfl) (by kernel_rfl) (by kernel_rfl) (SB := (r12 e Jn J2 Jr)) (r12_eq e Jn J2 Jr) _ _).trans (nd_block' (X := cP [7, 4, 0] B) (id := 3) (b := cP [7, 4, 1] B) (by kernel_rfl) (nd_chain' (X := cP [7, 4, 1] B) (Y := .skip) 1 (L := K22) (S := fun J => c13 e J (x123, x124, x125, x126, ()) h) (Q := (r12 e Jn J2 Jr)) (by kernel_rfl) (fun n => c13_eq e x123 x124 x125 x126 h n (exK [(3, (jk K22 (r12 e Jn J2 Jr))), (2, (jk K29 J2))]) (jk K40 Jr)) (fun t h => by kernel_rfl)))
noncomputable def c11 (e : Cx) (J : P24 → AH → Res) : P22 → AH → Res
| (x119, x120, x121, x122, _), h =>
  bI .i64 (lenS x121) h fun x148 h149 =>
  J (x119, x120, x121, x122, (decide (x122 < x148)), ()) h149
theorem c11_eq (e : Cx) (x119 : V) (x120 : V) (x121 : V) (x122 : Int) (h : AH) (n : Kn) (ee : Ke) (r : Kn) : runL (cfgS e) lv 67 e.F (peel 1 (cP [7, 3, 0] B)).1 (mkT K22 (x119, x120, x121, x122, ())) h n ee r = c11 e (fun t h => n (mkT K24 t) h) (x119, x120, x121, x122, ()) h := by kernel_rfl
noncomputable def k11 (e : Cx) (Jn : P22 → AH → Res) (J2 : P29 → AH → Res) (Jr : P40 → AH → Res) : P24 → AH → Res
| (x156, x157, x158, x159, x160, _), h =>
  bif x160 then Jn (x156, x157, x158, x159, ()) h else J2 (x156, x157, ()) h
theorem k11_eq (e : Cx) (Jn : P22 → AH → Res) (J2 : P29 → AH → Res) (Jr : P40 → AH → Res) : ∀ t h, exL (cfgS e) lv 67 e.F (cP [7, 3, 1] B) (mkT K24 t) h (jk K22 Jn) (exK [(2, (jk K29 J2))]) (jk K40 Jr) = k11 e Jn J2 Jr t h
| (x156, x157, x158, x159, x160, _), h => nd_cond' (X := cP [7, 3, 1] B) (a := cP [7, 3, 1, 0] B) (b := cP [7, 3, 2] B) (t := x160) (x := .tmp 40) (by kernel_rfl) (by kernel_rfl) (by kernel_rfl) (by kernel_rfl)
noncomputable def l11 (e : Cx) (Jn : P22 → AH → Res) (J2 : P29 → AH → Res) (Jr : P40 → AH → Res) : P22 → AH → Res
| (x119, x120, x121, x122, _), h =>
  c11 e (k11 e (r13 e Jn J2 Jr) J2 Jr) (x119, x120, x121, x122, ()) h
theorem l11_eq (e : Cx) (Jn : P22 → AH → Res) (J2 : P29 → AH → Res) (Jr : P40 → AH → Res) : ∀ t h, exL (cfgS e) lv 67 e.F (cP [7, 3] B) (mkT K22 t) h (jk K22 Jn) (exK [(2, (jk K29 J2))]) (jk K40 Jr) = l11 e Jn J2 Jr t h
| (x119, x120, x121, x122, _), h => (nd_norm' (X := (cP [7, 3] B)) (a := cP [7, 3, 0] B) (b := cP [7, 4] B) (L := K22) (by kernel_rfl) (by kernel_rfl) (by kernel_rfl) (SB := (r13 e Jn J2 Jr)) (r13_eq e Jn J2 Jr) _ _).trans (nd_chain' (X := cP [7, 3, 0] B) (Y := (cP [7, 3, 1] B)) 1 (L := K24) (S := fun J => c11 e J (x119, x120, x121, x122, ()) h) (Q := (k11 e (r13 e Jn J2 Jr) J2 Jr)) (by kernel_rfl) (fun n => c11_eq e x119 x120 x121 x122 h n (exK [(2, (jk K29 J2))]) (jk K40 Jr)) (k11_eq e (r13 e Jn J2 Jr) J2 Jr))
noncomputable def k10 (e : Cx) (Jn : P29 → AH → Res) (Jr : P40 → AH → Res) : P22 → AH → Res
| (x115, x116, x117, x118, _), h =>
  loopN (P22) e.F (fun t h n => l11 e n Jn Jr t h) (x115, x116, x117, x118, ()) h
theorem k10_eq (e : Cx) (Jn : P29 → AH → Res) (Jr : P40 → AH → Res) : ∀ t h, exL (cfgS e) lv 67 e.F (cP [7, 1] B) (mkT K22 t) h (jk K29 Jn) (exK []) (jk K40 Jr) = k10 e Jn Jr t h
| (x115, x116, x117, x118, _), h => nd_block' (X := cP [7, 1] B) (id := 2) (b := cP [7, 2] B) (by kernel_rfl) ((nd_loop' (X := cP [7, 2] B) (b := cP [7, 3] B) (L := K22) (by kernel_rfl) (by kernel_rfl) (SB := fun n => l11 e n Jn Jr) (fun n => l11_eq e n Jn Jr) _ _).trans (by kernel_rfl))
noncomputable def k9 (e : Cx) (Jn : P40 → AH → Res) (Jr : P40 → AH → Res) : P20 → AH → Res
| (x37, x38, x39, _), h =>
  c10 e (k10 e (r14 e Jn Jr) Jr) (x37, x38, x39, ()) h
theorem k9_eq (e : Cx) (Jn : P40 → AH → Res) (Jr : P40 → AH → Res) : ∀ t h, exL (cfgS e) lv 67 e.F (cP [7] B) (mkT K20 t) h (jk K40 Jn) (exK []) (jk K40 Jr) = k9 e Jn Jr t h
| (x37, x38, x39, _), h => (nd_norm' (X := (cP [7] B)) (a := cP [7, 0] B) (b := cP [8] B) (L := K29) (by kernel_rfl) (by kernel_rfl) (by kernel_rfl) (SB := (r14 e Jn Jr)) (r14_eq e Jn Jr) _ _).trans (nd_chain' (X := cP [7, 0] B) (Y := (cP [7, 1] B)) 1 (L := K22) (S := fun J => c10 e J (x37, x38, x39, ()) h) (Q := (k10 e (r14 e Jn Jr) Jr)) (by kernel_rfl) (fun n => c10_eq e x37 x38 x39 h n (exK []) (jk K40 Jr)) (k10_eq e (r14 e Jn Jr) Jr))
noncomputable def r7 (e : Cx) (Jn : P40 → AH → Res) (Jr : P40 → AH → Res) : P6 → AH → Res
| (x19, x20, x21, x22, _), h =>
  c7 e (k9 e Jn Jr) (x19, x20, x21, x22, ()) h
theorem r7_eq (e : Cx) (Jn : P40 → AH → Res) (Jr : P40 → AH → Res) : ∀ t h, exL (cfgS e) lv 67 e.F (cP [4] B) (mkT K6 t) h (jk K40 Jn) (exK []) (jk K40 Jr) = r7 e Jn Jr t h
| (x19, x20, x21, x22, _), h => nd_chain' (X := cP [4] B) (Y := (cP [7] B)) 3 (L := K20) (S := fun J => c7 e J (x19, x20, x21, x22, ()) h) (Q := (k9 e Jn Jr)) (by kernel_rfl) (fun n => c7_eq e x19 x20 x21 x22 h n (exK []) (jk K40 Jr)) (k9_eq e Jn Jr)
noncomputable def c3 (e : Cx) (J : P8 → AH → Res) : P6 → AH → Res
| (x15, x16, x17, x18, _), h =>
  J (x15, x16, x17, x18, 0, ()) h
theorem c3_eq (e : Cx) (x15 : V) (x16 : V) (x17 : V) (x18 : Int) (h : AH) (n : Kn) (ee : Ke) (r : Kn) : runL (cfgS e) lv 67 e.F (peel 1 (cP [3, 0] B)).1 (mkT K6 (x15, x16, x17, x18, ())) h n ee r = c3 e (fun t h => n (mkT K8 t) h) (x15, x16, x17, x18, ()) h := by kernel_rfl
noncomputable def c5 (e : Cx) (J : P8 → AH → Res) : P8 → AH → Res
| (x182, x183, x184, x185, x186, _), h =>
  J (x182, x183, x184, x185, (wr .i64 (x186 + 64)), ()) h
theorem c5_eq (e : Cx) (x182 : V) (x183 : V) (x184 : V) (x185 : Int) (x186 : Int) (h : AH) (n : Kn) (ee : Ke) (r : Kn) : runL (cfgS e) lv 67 e.F (peel 1 (cP [3, 5] B)).1 (mkT K8 (x182, x183, x184, x185, x186, ())) h n ee r = c5 e (fun t h => n (mkT K8 t) h) (x182, x183, x184, x185, x186, ()) h := by kernel_rfl
noncomputable def r5 (e : Cx) (Jn : P8 → AH → Res) (J0 : P6 → AH → Res) (Jr : P40 → AH → Res) : P8 → AH → Res
| (x182, x183, x184, x185, x186, _), h =>
  c5 e Jn (x182, x183, x184, x185, x186, ()) h
theorem r5_eq (e : Cx) (Jn : P8 → AH → Res) (J0 : P6 → AH → Res) (Jr : P40 → AH → Res) : ∀ t h, exL (cfgS e) lv 67 e.F (cP [3, 5] B) (mkT K8 t) h (jk K8 Jn) (exK [(0, (jk K6 J0))]) (jk K40 Jr) = r5 e Jn J0 Jr t h
| (x182, x183, x184, x185, x186, _), h => nd_chain' (X := cP [3, 5] B) (Y := .skip) 1 (L := K8) (S := fun J => c5 e J (x182, x183, x184, x185, x186, ()) h) (Q := Jn) (by kernel_rfl) (fun n => c5_eq e x182 x183 x184 x185 x186 h n (exK [(0, (jk K6 J0))]) (jk K40 Jr)) (fun t h => by kernel_rfl)
noncomputable def c6 (e : Cx) (J : P8 → AH → Res) : P8 → AH → Res
| (x177, x178, x179, x180, x181, _), h =>
  bA (ldA 8 x179 h) h fun x193 h194 =>
  bV (slS 1 x177 (some (.int .i64 x181)) (some (.int .i64 (wr .i64 (x181 + 64)))) none) h194 fun x195 h196 =>
  cA (e.C n_r01_compress [(.agg x193), x195] h196) fun x197 h198 =>
  bS (st 8 x179 (.agg x197) h198) fun h199 =>
  J (x177, x178, x179, x180, x181, ()) h199
theorem c6_eq (e : Cx) (x177 : V) (x178 : V) (x179 : V) (x180 : Int) (x181 : Int) (h : AH) (n : Kn) (ee : Ke) (r : Kn) : runL (cfgS e) lv 67 e.F (peel 1 (cP [3, 4, 1] B)).1 (mkT K8 (x177, x178, x179, x180, x181, ())) h n ee r = c6 e (fun t h => n (mkT K8 t) h) (x177, x178, x179, x180, x181, ()) h := by kernel_rfl
noncomputable def r6 (e : Cx) (Jn : P8 → AH → Res) (J0 : P6 → AH → Res) (Jr : P40 → AH → Res) : P8 → AH → Res
| (x177, x178, x179, x180, x181, _), h =>
  c6 e (r5 e Jn J0 Jr) (x177, x178, x179, x180, x181, ()) h
theorem r6_eq (e : Cx) (Jn : P8 → AH → Res) (J0 : P6 → AH → Res) (Jr : P40 → AH → Res) : ∀ t h, exL (cfgS e) lv 67 e.F (cP [3, 4] B) (mkT K8 t) h (jk K8 Jn) (exK [(0, (jk K6 J0))]) (jk K40 Jr) = r6 e Jn J0 Jr t h
| (x177, x178, x179, x180, x181, _), h => (nd_norm' (X := (cP [3, 4] B)) (a := cP [3, 4, 0] B) (b := cP [3, 5] B) (L := K8) (by kernel_rfl) (by kernel_rfl) (by kernel_rfl) (SB := (r5 e Jn J0 Jr)) (r5_eq e Jn J0 Jr) _ _).trans (nd_block' (X := cP [3, 4, 0] B) (id := 1) (b := cP [3, 4, 1] B) (by kernel_rfl) (nd_chain' (X := cP [3, 4, 1] B) (Y := .skip) 1 (L := K8) (S := fun J => c6 e J (x177, x178, x179, x180, x181, ()) h) (Q := (r5 e Jn J0 Jr)) (by kernel_rfl) (fun n => c6_eq e x177 x178 x179 x180 x181 h n (exK [(1, (jk K8 (r5 e Jn J0 Jr))), (0, (jk K6 J0))]) (jk K40 Jr)) (fun t h => by kernel_rfl)))
noncomputable def c4 (e : Cx) (J : P10 → AH → Res) : P8 → AH → Res
| (x172, x173, x174, x175, x176, _), h =>
  J (x172, x173, x174, x175, x176, (decide (x176 < x175)), ()) h
theorem c4_eq (e : Cx) (x172 : V) (x173 : V) (x174 : V) (x175 : Int) (x176 : Int) (h : AH) (n : Kn) (ee : Ke) (r : Kn) : runL (cfgS e) lv 67 e.F (peel 1 (cP [3, 3, 0] B)).1 (mkT K8 (x172, x173, x174, x175, x176, ())) h n ee r = c4 e (fun t h => n (mkT K10 t) h) (x172, x173, x174, x175, x176, ()) h := by kernel_rfl
noncomputable def k4 (e : Cx) (Jn : P8 → AH → Res) (J0 : P6 → AH → Res) (Jr : P40 → AH → Res) : P10 → AH → Res
| (x213, x214, x215, x216, x217, x218, _), h =>
  bif x218 then Jn (x213, x214, x215, x216, x217, ()) h else J0 (x213, x214, x215, x216, ()) h
theorem k4_eq (e : Cx) (Jn : P8 → AH → Res) (J0 : P6 → AH → Res) (Jr : P40 → AH → Res) : ∀ t h, exL (cfgS e) lv 67 e.F (cP [3, 3, 1] B) (mkT K10 t) h (jk K8 Jn) (exK [(0, (jk K6 J0))]) (jk K40 Jr) = k4 e Jn J0 Jr t h
| (x213, x214, x215, x216, x217, x218, _), h => nd_cond' (X := cP [3, 3, 1] B) (a := cP [3, 3, 1, 0] B) (b := cP [3, 3, 2] B) (t := x218) (x := .tmp 17) (by kernel_rfl) (by kernel_rfl) (by kernel_rfl) (by kernel_rfl)
noncomputable def l4 (e : Cx) (Jn : P8 → AH → Res) (J0 : P6 → AH → Res) (Jr : P40 → AH → Res) : P8 → AH → Res
| (x172, x173, x174, x175, x176, _), h =>
  c4 e (k4 e (r6 e Jn J0 Jr) J0 Jr) (x172, x173, x174, x175, x176, ()) h
theorem l4_eq (e : Cx) (Jn : P8 → AH → Res) (J0 : P6 → AH → Res) (Jr : P40 → AH → Res) : ∀ t h, exL (cfgS e) lv 67 e.F (cP [3, 3] B) (mkT K8 t) h (jk K8 Jn) (exK [(0, (jk K6 J0))]) (jk K40 Jr) = l4 e Jn J0 Jr t h
| (x172, x173, x174, x175, x176, _), h => (nd_norm' (X := (cP [3, 3] B)) (a := cP [3, 3, 0] B) (b := cP [3, 4] B) (L := K8) (by kernel_rfl) (by kernel_rfl) (by kernel_rfl) (SB := (r6 e Jn J0 Jr)) (r6_eq e Jn J0 Jr) _ _).trans (nd_chain' (X := cP [3, 3, 0] B) (Y := (cP [3, 3, 1] B)) 1 (L := K10) (S := fun J => c4 e J (x172, x173, x174, x175, x176, ()) h) (Q := (k4 e (r6 e Jn J0 Jr) J0 Jr)) (by kernel_rfl) (fun n => c4_eq e x172 x173 x174 x175 x176 h n (exK [(0, (jk K6 J0))]) (jk K40 Jr)) (k4_eq e (r6 e Jn J0 Jr) J0 Jr))
noncomputable def k3 (e : Cx) (Jn : P6 → AH → Res) (Jr : P40 → AH → Res) : P8 → AH → Res
| (x167, x168, x169, x170, x171, _), h =>
  loopN (P8) e.F (fun t h n => l4 e n Jn Jr t h) (x167, x168, x169, x170, x171, ()) h
theorem k3_eq (e : Cx) (Jn : P6 → AH → Res) (Jr : P40 → AH → Res) : ∀ t h, exL (cfgS e) lv 67 e.F (cP [3, 1] B) (mkT K8 t) h (jk K6 Jn) (exK []) (jk K40 Jr) = k3 e Jn Jr t h
| (x167, x168, x169, x170, x171, _), h => nd_block' (X := cP [3, 1] B) (id := 0) (b := cP [3, 2] B) (by kernel_rfl) ((nd_loop' (X := cP [3, 2] B) (b := cP [3, 3] B) (L := K8) (by kernel_rfl) (by kernel_rfl) (SB := fun n => l4 e n Jn Jr) (fun n => l4_eq e n Jn Jr) _ _).trans (by kernel_rfl))
noncomputable def k2 (e : Cx) (Jn : P40 → AH → Res) (Jr : P40 → AH → Res) : P6 → AH → Res
| (x15, x16, x17, x18, _), h =>
  c3 e (k3 e (r7 e Jn Jr) Jr) (x15, x16, x17, x18, ()) h
theorem k2_eq (e : Cx) (Jn : P40 → AH → Res) (Jr : P40 → AH → Res) : ∀ t h, exL (cfgS e) lv 67 e.F (cP [3] B) (mkT K6 t) h (jk K40 Jn) (exK []) (jk K40 Jr) = k2 e Jn Jr t h
| (x15, x16, x17, x18, _), h => (nd_norm' (X := (cP [3] B)) (a := cP [3, 0] B) (b := cP [4] B) (L := K6) (by kernel_rfl) (by kernel_rfl) (by kernel_rfl) (SB := (r7 e Jn Jr)) (r7_eq e Jn Jr) _ _).trans (nd_chain' (X := cP [3, 0] B) (Y := (cP [3, 1] B)) 1 (L := K8) (S := fun J => c3 e J (x15, x16, x17, x18, ()) h) (Q := (k3 e (r7 e Jn Jr) Jr)) (by kernel_rfl) (fun n => c3_eq e x15 x16 x17 x18 h n (exK []) (jk K40 Jr)) (k3_eq e (r7 e Jn Jr) Jr))
noncomputable def fn (e : Cx) (a0 : V) (h : AH) : Res :=
  c0 e (k2 e ret ret) (a0, ()) h
theorem run (e : Cx) (a0 : V) (h : AH) : execFn (cfgS e) (foLive lv) e.F n_r01_Sum [a0] h = fn e a0 h := by
  refine (fn_eq (c := cfgS e) (lv := lv) (PP.funcs.getD 17 default) B (by kernel_rfl) (by kernel_rfl) (Nat.le_of_ble_eq_true (by kernel_rfl))).trans ?_
  rw [ret_eq]
  exact nd_chain' (X := cP [0] B) (Y := (cP [3] B)) 3 (L := K6) (S := fun J => c0 e J (a0, ()) h) (Q := (k2 e ret ret)) (by kernel_rfl) (fun n => c0_eq e a0 h n (exK []) (jk K40 ret)) (k2_eq e ret ret)
end r01_Sum
/-! codicil/codicilref01.First -/
namespace r01_First
noncomputable def B : Code := cBody (PP.funcs.getD 18 default)
abbrev K2 : Slots := [(0, .any)]
abbrev P2 := V × Unit
def lv : Nat → Option Slots := fun k =>
  bif Nat.beq k 2 then some K2 else bif Nat.beq k 4 then some K2 else none
abbrev KR : Slots := [(0, .any)]
abbrev PR := V × Unit
noncomputable def ret : P2 → AH → Res
| (x0, _), h => finW [ldA 8 x0 h] h
theorem ret_eq (e : Cx) : fin (cfgS e) (foLive lv) (PP.funcs.getD 18 default) = jk K2 ret := by kernel_rfl
noncomputable def c0 (e : Cx) (J : P2 → AH → Res) : Unit → AH → Res
| (_), h =>
  let x1 := (al (List.replicate 8 (.int .u32 0)) T_a8_uint32 h).1
  let h2 := (al (List.replicate 8 (.int .u32 0)) T_a8_uint32 h).2
  bA (bld [(0, 1, (.int .u32 1779033703)), (1, 1, (.int .u32 3144134277)), (2, 1, (.int .u32 1013904242)), (3, 1, (.int .u32 2773480762)), (4, 1, (.int .u32 1359893119)), (5, 1, (.int .u32 2600822924)), (6, 1, (.int .u32 528734635)), (7, 1, (.int .u32 1541459225))] (List.replicate 8 (.int .u32 0))) h2 fun x3 h4 =>
  bS (st 8 x1 (.agg x3) h4) fun h5 =>
  J (x1, ()) h5
theorem c0_eq (e : Cx) (h : AH) (n : Kn) (ee : Ke) (r : Kn) : runL (cfgS e) lv 2 e.F (peel 2 (cP [0] B)).1 (iniT [] 0 .leaf) h n ee r = c0 e (fun t h => n (mkT K2 t) h) (()) h := by kernel_rfl
noncomputable def fn (e : Cx) (h : AH) : Res :=
  c0 e ret (()) h
theorem run (e : Cx) (h : AH) : execFn (cfgS e) (foLive lv) e.F n_r01_First [] h = fn e  h := by
  refine (fn_eq (c := cfgS e) (lv := lv) (PP.funcs.getD 18 default) B (by kernel_rfl) (by kernel_rfl) (Nat.le_of_ble_eq_true (by kernel_rfl))).trans ?_
  rw [ret_eq]
  exact nd_chain' (X := cP [0] B) (Y := (cP [2] B)) 2 (L := K2) (S := fun J => c0 e J (()) h) (Q := ret) (by kernel_rfl) (fun n => c0_eq e h n (exK []) (jk K2 ret)) (fun t h => by kernel_rfl)
end r01_First
/-! codicil/sha.Parse -/
namespace sha_Parse
noncomputable def B : Code := cBody (PP.funcs.getD 19 default)
abbrev K2 : Slots := [(0, .str), (2, .any)]
abbrev P2 := List Nat × V × Unit
abbrev K4 : Slots := [(0, .str), (2, .any), (4, .any)]
abbrev P4 := List Nat × V × V × Unit
abbrev K6 : Slots := [(0, .str), (2, .any), (4, .any), (10, .bool)]
abbrev P6 := List Nat × V × V × Bool × Unit
abbrev K8 : Slots := [(2, .any), (3, .int .i64)]
abbrev P8 := V × Int × Unit
abbrev K10 : Slots := [(0, .str), (2, .any), (4, .any), (12, .int .i64)]
abbrev P10 := List Nat × V × V × Int × Unit
abbrev K12 : Slots := [(0, .str), (2, .any), (4, .any), (12, .int .i64), (13, .bool)]
abbrev P12 := List Nat × V × V × Int × Bool × Unit
abbrev K14 : Slots := [(0, .str), (2, .any), (4, .any), (5, .int .i64), (12, .int .i64)]
abbrev P14 := List Nat × V × V × Int × Int × Unit
abbrev K16 : Slots := [(0, .str), (2, .any), (4, .any), (5, .int .i64), (6, .int .i64), (7, .int .i64), (12, .int .i64)]
abbrev P16 := List Nat × V × V × Int × Int × Int × Int × Unit
abbrev K18 : Slots := [(0, .str), (2, .any), (4, .any), (5, .int .i64), (6, .int .i64), (7, .int .i64), (12, .int .i64), (31, .bool)]
abbrev P18 := List Nat × V × V × Int × Int × Int × Int × Bool × Unit
abbrev K25 : Slots := [(2, .any), (4, .any)]
abbrev P25 := V × V × Unit
def lv : Nat → Option Slots := fun k =>
  bif Nat.beq k 2 then some K2 else bif Nat.beq k 4 then some K4 else bif Nat.beq k 6 then some K6 else bif Nat.beq k 8 then some K8 else bif Nat.beq k 9 then some K4 else bif Nat.beq k 10 then some K10 else bif Nat.beq k 12 then some K12 else bif Nat.beq k 13 then some K10 else bif Nat.beq k 14 then some K14 else bif Nat.beq k 16 then some K16 else bif Nat.beq k 18 then some K18 else bif Nat.beq k 20 then some K8 else bif Nat.beq k 21 then some K16 else bif Nat.beq k 22 then some K10 else bif Nat.beq k 23 then some K10 else bif Nat.beq k 24 then some K10 else bif Nat.beq k 11 then some K10 else bif Nat.beq k 25 then some K25 else bif Nat.beq k 26 then some K8 else none
abbrev KR : Slots := [(2, .any), (3, .any)]
abbrev PR := V × V × Unit
noncomputable def ret : PR → AH → Res
| (x2, x3, _), h => finW [ldA 32 x2 h, some x3] h
theorem ret_eq (e : Cx) : fin (cfgS e) (foLive lv) (PP.funcs.getD 19 default) = jk KR ret := by kernel_rfl
noncomputable def c0 (e : Cx) (J : P4 → AH → Res) : List Nat × Unit → AH → Res
| (a0, _), h =>
  let x1 := (al (List.replicate 32 (.int .u8 0)) T_api_Id h).1
  let h2 := (al (List.replicate 32 (.int .u8 0)) T_api_Id h).2
  let x3 := (al (List.replicate 32 (.int .u8 0)) T_api_Id h2).1
  let h4 := (al (List.replicate 32 (.int .u8 0)) T_api_Id h2).2
  J (a0, x1, x3, ()) h4
theorem c0_eq (e : Cx) (a0 : List Nat) (h : AH) (n : Kn) (ee : Ke) (r : Kn) : runL (cfgS e) lv 42 e.F (peel 2 (cP [0] B)).1 (iniT [(.str a0)] 0 .leaf) h n ee r = c0 e (fun t h => n (mkT K4 t) h) (a0, ()) h := by kernel_rfl
noncomputable def c12 (e : Cx) (J : P8 → AH → Res) : P25 → AH → Res
| (x15, x16, _), h =>
  bA (ldA 32 x16 h) h fun x17 h18 =>
  bS (st 32 x15 (.agg x17) h18) fun h19 =>
  J (x15, 0, ()) h19
theorem c12_eq (e : Cx) (x15 : V) (x16 : V) (h : AH) (n : Kn) (ee : Ke) (r : Kn) : runL (cfgS e) lv 42 e.F (peel 1 (cP [4] B)).1 (mkT K25 (x15, x16, ())) h n ee r = c12 e (fun t h => n (mkT K8 t) h) (x15, x16, ()) h := by kernel_rfl
noncomputable def r12 (e : Cx) (Jn : PR → AH → Res) (Jr : PR → AH → Res) : P25 → AH → Res
| (x15, x16, _), h =>
  c12 e (fun | (x20, x21, _), h22 => Jr (x20, (.int .i64 x21), ()) h22) (x15, x16, ()) h
theorem r12_eq (e : Cx) (Jn : PR → AH → Res) (Jr : PR → AH → Res) : ∀ t h, exL (cfgS e) lv 42 e.F (cP [4] B) (mkT K25 t) h (jk KR Jn) (exK []) (jk KR Jr) = r12 e Jn Jr t h
| (x15, x16, _), h => nd_chain' (X := cP [4] B) (Y := (cP [5] B)) 1 (L := K8) (S := fun J => c12 e J (x15, x16, ()) h) (Q := fun | (x20, x21, _), h22 => Jr (x20, (.int .i64 x21), ()) h22) (by kernel_rfl) (fun n => c12_eq e x15 x16 h n (exK []) (jk KR Jr)) (fun | (x20, x21, _), h22 => by kernel_rfl)
noncomputable def c4 (e : Cx) (J : P10 → AH → Res) : P4 → AH → Res
| (x12, x13, x14, _), h =>
  J (x12, x13, x14, 0, ()) h
theorem c4_eq (e : Cx) (x12 : List Nat) (x13 : V) (x14 : V) (h : AH) (n : Kn) (ee : Ke) (r : Kn) : runL (cfgS e) lv 42 e.F (peel 1 (cP [3, 0] B)).1 (mkT K4 (x12, x13, x14, ())) h n ee r = c4 e (fun t h => n (mkT K10 t) h) (x12, x13, x14, ()) h := by kernel_rfl
noncomputable def c5 (e : Cx) (J : P12 → AH → Res) : P10 → AH → Res
| (x32, x33, x34, x35, _), h =>
  J (x32, x33, x34, x35, (decide (x35 < 32)), ()) h
theorem c5_eq (e : Cx) (x32 : List Nat) (x33 : V) (x34 : V) (x35 : Int) (h : AH) (n : Kn) (ee : Ke) (r : Kn) : runL (cfgS e) lv 42 e.F (peel 1 (cP [3, 3] B)).1 (mkT K10 (x32, x33, x34, x35, ())) h n ee r = c5 e (fun t h => n (mkT K12 t) h) (x32, x33, x34, x35, ()) h := by kernel_rfl
noncomputable def c11 (e : Cx) (J : P10 → AH → Res) : P10 → AH → Res
| (x51, x52, x53, x54, _), h =>
  J (x51, x52, x53, (wr .i64 (x54 + 1)), ()) h
theorem c11_eq (e : Cx) (x51 : List Nat) (x52 : V) (x53 : V) (x54 : Int) (h : AH) (n : Kn) (ee : Ke) (r : Kn) : runL (cfgS e) lv 42 e.F (peel 1 (cP [3, 6] B)).1 (mkT K10 (x51, x52, x53, x54, ())) h n ee r = c11 e (fun t h => n (mkT K10 t) h) (x51, x52, x53, x54, ()) h := by kernel_rfl
noncomputable def r11 (e : Cx) (Jn : P10 → AH → Res) (J0 : P25 → AH → Res) (Jr : PR → AH → Res) : P10 → AH → Res
| (x51, x52, x53, x54, _), h =>
  c11 e Jn (x51, x52, x53, x54, ()) h
theorem r11_eq (e : Cx) (Jn : P10 → AH → Res) (J0 : P25 → AH → Res) (Jr : PR → AH → Res) : ∀ t h, exL (cfgS e) lv 42 e.F (cP [3, 6] B) (mkT K10 t) h (jk K10 Jn) (exK [(0, (jk K25 J0))]) (jk KR Jr) = r11 e Jn J0 Jr t h
| (x51, x52, x53, x54, _), h => nd_chain' (X := cP [3, 6] B) (Y := .skip) 1 (L := K10) (S := fun J => c11 e J (x51, x52, x53, x54, ()) h) (Q := Jn) (by kernel_rfl) (fun n => c11_eq e x51 x52 x53 x54 h n (exK [(0, (jk K25 J0))]) (jk KR Jr)) (fun t h => by kernel_rfl)
noncomputable def c6 (e : Cx) (J : P16 → AH → Res) : P10 → AH → Res
| (x47, x48, x49, x50, _), h =>
  bI .u8 (ixZ x47 (wr .i64 (2 * x50))) h fun x60 h61 =>
  cI .i64 (e.C n_strings_IndexByte [(.str [48, 49, 50, 51, 52, 53, 54, 55, 56, 57, 97, 98, 99, 100, 101, 102]), (.int .u8 x60)] h61) fun x62 h63 =>
  bI .u8 (ixZ x47 (wr .i64 ((wr .i64 (2 * x50)) + 1))) h63 fun x64 h65 =>
  cI .i64 (e.C n_strings_IndexByte [(.str [48, 49, 50, 51, 52, 53, 54, 55, 56, 57, 97, 98, 99, 100, 101, 102]), (.int .u8 x64)] h65) fun x66 h67 =>
  J (x47, x48, x49, x50, x62, x66, x50, ()) h67
theorem c6_eq (e : Cx) (x47 : List Nat) (x48 : V) (x49 : V) (x50 : Int) (h : AH) (n : Kn) (ee : Ke) (r : Kn) : runL (cfgS e) lv 42 e.F (peel 2 (cP [3, 5, 1] B)).1 (mkT K10 (x47, x48, x49, x50, ())) h n ee r = c6 e (fun t h => n (mkT K16 t) h) (x47, x48, x49, x50, ()) h := by kernel_rfl
noncomputable def c10 (e : Cx) (J : P10 → AH → Res) : P16 → AH → Res
| (x83, x84, x85, x86, x87, x88, x89, _), h =>
  let x90 : Int := (wr .u8 (ior .i64 (ishl .i64 x87 4) x88))
  bV (ixA 32 1 x85 x86) h fun x91 h92 =>
  bS (st 1 x91 (.int .u8 x90) h92) fun h93 =>
  J (x83, x84, x85, x89, ()) h93
theorem c10_eq (e : Cx) (x83 : List Nat) (x84 : V) (x85 : V) (x86 : Int) (x87 : Int) (x88 : Int) (x89 : Int) (h : AH) (n : Kn) (ee : Ke) (r : Kn) : runL (cfgS e) lv 42 e.F (peel 1 (cP [3, 5, 4] B)).1 (mkT K16 (x83, x84, x85, x86, x87, x88, x89, ())) h n ee r = c10 e (fun t h => n (mkT K10 t) h) (x83, x84, x85, x86, x87, x88, x89, ()) h := by kernel_rfl
noncomputable def r10 (e : Cx) (Jn : P10 → AH → Res) (J1 : P10 → AH → Res) (J0 : P25 → AH → Res) (Jr : PR → AH → Res) : P16 → AH → Res
| (x83, x84, x85, x86, x87, x88, x89, _), h =>
  c10 e Jn (x83, x84, x85, x86, x87, x88, x89, ()) h
theorem r10_eq (e : Cx) (Jn : P10 → AH → Res) (J1 : P10 → AH → Res) (J0 : P25 → AH → Res) (Jr : PR → AH → Res) : ∀ t h, exL (cfgS e) lv 42 e.F (cP [3, 5, 4] B) (mkT K16 t) h (jk K10 Jn) (exK [(1, (jk K10 J1)), (0, (jk K25 J0))]) (jk KR Jr) = r10 e Jn J1 J0 Jr t h
| (x83, x84, x85, x86, x87, x88, x89, _), h => nd_chain' (X := cP [3, 5, 4] B) (Y := .skip) 1 (L := K10) (S := fun J => c10 e J (x83, x84, x85, x86, x87, x88, x89, ()) h) (Q := Jn) (by kernel_rfl) (fun n => c10_eq e x83 x84 x85 x86 x87 x88 x89 h n (exK [(1, (jk K10 J1)), (0, (jk K25 J0))]) (jk KR Jr)) (fun t h => by kernel_rfl)
noncomputable def c8 (e : Cx) (J : P18 → AH → Res) : P16 → AH → Res
| (x76, x77, x78, x79, x80, x81, x82, _), h =>
  bif (decide (x80 < 0)) then
    J (x76, x77, x78, x79, x80, x81, x82, true, ()) h
  else
    let x99 : Bool := (bif false then true else (decide (x81 < 0)))
    J (x76, x77, x78, x79, x80, x81, x82, x99, ()) h
theorem c8_eq (e : Cx) (x76 : List Nat) (x77 : V) (x78 : V) (x79 : Int) (x80 : Int) (x81 : Int) (x82 : Int) (h : AH) (n : Kn) (ee : Ke) (r : Kn) : runL (cfgS e) lv 42 e.F (peel 1 (cP [3, 5, 3, 0] B)).1 (mkT K16 (x76, x77, x78, x79, x80, x81, x82, ())) h n ee r = c8 e (fun t h => n (mkT K18 t) h) (x76, x77, x78, x79, x80, x81, x82, ()) h := by kernel_rfl
noncomputable def c9 (e : Cx) (J : P8 → AH → Res) : P18 → AH → Res
| (x109, x110, x111, x112, x113, x114, x115, x116, _), h =>
  bA (bld [] (List.replicate 32 (.int .u8 0))) h fun x117 h118 =>
  bS (st 32 x110 (.agg x117) h118) fun h119 =>
  J (x110, 4, ()) h119
theorem c9_eq (e : Cx) (x109 : List Nat) (x110 : V) (x111 : V) (x112 : Int) (x113 : Int) (x114 : Int) (x115 : Int) (x116 : Bool) (h : AH) (n : Kn) (ee : Ke) (r : Kn) : runL (cfgS e) lv 42 e.F (peel 1 (cP [3, 5, 3, 1, 0] B)).1 (mkT K18 (x109, x110, x111, x112, x113, x114, x115, x116, ())) h n ee r = c9 e (fun t h => n (mkT K8 t) h) (x109, x110, x111, x112, x113, x114, x115, x116, ()) h := by kernel_rfl
noncomputable def k8 (e : Cx) (Jn : P16 → AH → Res) (J1 : P10 → AH → Res) (J0 : P25 → AH → Res) (Jr : PR → AH → Res) : P18 → AH → Res
| (x109, x110, x111, x112, x113, x114, x115, x116, _), h =>
  bif x116 then c9 e (fun | (x120, x121, _), h122 => Jr (x120, (.int .i64 x121), ()) h122) (x109, x110, x111, x112, x113, x114, x115, x116, ()) h else Jn (x109, x110, x111, x112, x113, x114, x115, ()) h
theorem k8_eq (e : Cx) (Jn : P16 → AH → Res) (J1 : P10 → AH → Res) (J0 : P25 → AH → Res) (Jr : PR → AH → Res) : ∀ t h, exL (cfgS e) lv 42 e.F (cP [3, 5, 3, 1] B) (mkT K18 t) h (jk K16 Jn) (exK [(1, (jk K10 J1)), (0, (jk K25 J0))]) (jk KR Jr) = k8 e Jn J1 J0 Jr t h
| (x109, x110, x111, x112, x113, x114, x115, x116, _), h => nd_cond' (X := cP [3, 5, 3, 1] B) (a := cP [3, 5, 3, 1, 0] B) (b := cP [3, 5, 3, 2] B) (t := x116) (x := .tmp 31) (by kernel_rfl) (by kernel_rfl) (nd_chain' (X := cP [3, 5, 3, 1, 0] B) (Y := (cP [3, 5, 3, 1, 1] B)) 1 (L := K8) (S := fun J => c9 e J (x109, x110, x111, x112, x113, x114, x115, x116, ()) h) (Q := fun | (x120, x121, _), h122 => Jr (x120, (.int .i64 x121), ()) h122) (by kernel_rfl) (fun n => c9_eq e x109 x110 x111 x112 x113 x114 x115 x116 h n (exK [(1, (jk K10 J1)), (0, (jk K25 J0))]) (jk KR Jr)) (fun | (x120, x121, _), h122 => by kernel_rfl)) (by kernel_rfl)
noncomputable def k7 (e : Cx) (Jn : P10 → AH → Res) (J1 : P10 → AH → Res) (J0 : P25 → AH → Res) (Jr : PR → AH → Res) : P16 → AH → Res
| (x76, x77, x78, x79, x80, x81, x82, _), h =>
  c8 e (k8 e (r10 e Jn J1 J0 Jr) J1 J0 Jr) (x76, x77, x78, x79, x80, x81, x82, ()) h
theorem k7_eq (e : Cx) (Jn : P10 → AH → Res) (J1 : P10 → AH → Res) (J0 : P25 → AH → Res) (Jr : PR → AH → Res) : ∀ t h, exL (cfgS e) lv 42 e.F (cP [3, 5, 3] B) (mkT K16 t) h (jk K10 Jn) (exK [(1, (jk K10 J1)), (0, (jk K25 J0))]) (jk KR Jr) = k7 e Jn J1 J0 Jr t h
| (x76, x77, x78, x79, x80, x81, x82, _), h => (nd_norm' (X := (cP [3, 5, 3] B)) (a := cP [3, 5, 3, 0] B) (b := cP [3, 5, 4] B) (L := K16) (by kernel_rfl) (by kernel_rfl) (by kernel_rfl) (SB := (r10 e Jn J1 J0 Jr)) (r10_eq e Jn J1 J0 Jr) _ _).trans (nd_chain' (X := cP [3, 5, 3, 0] B) (Y := (cP [3, 5, 3, 1] B)) 1 (L := K18) (S := fun J => c8 e J (x76, x77, x78, x79, x80, x81, x82, ()) h) (Q := (k8 e (r10 e Jn J1 J0 Jr) J1 J0 Jr)) (by kernel_rfl) (fun n => c8_eq e x76 x77 x78 x79 x80 x81 x82 h n (exK [(1, (jk K10 J1)), (0, (jk K25 J0))]) (jk KR Jr)) (k8_eq e (r10 e Jn J1 J0 Jr) J1 J0 Jr))
noncomputable def r6 (e : Cx) (Jn : P10 → AH → Res) (J0 : P25 → AH → Res) (Jr : PR → AH → Res) : P10 → AH → Res
| (x47, x48, x49, x50, _), h =>
  c6 e (k7 e (r11 e Jn J0 Jr) (r11 e Jn J0 Jr) J0 Jr) (x47, x48, x49, x50, ()) h
theorem r6_eq (e : Cx) (Jn : P10 → AH → Res) (J0 : P25 → AH → Res) (Jr : PR → AH → Res) : ∀ t h, exL (cfgS e) lv 42 e.F (cP [3, 5] B) (mkT K10 t) h (jk K10 Jn) (exK [(0, (jk K25 J0))]) (jk KR Jr) = r6 e Jn J0 Jr t h
| (x47, x48, x49, x50, _), h => (nd_norm' (X := (cP [3, 5] B)) (a := cP [3, 5, 0] B) (b := cP [3, 6] B) (L := K10) (by kernel_rfl) (by kernel_rfl) (by kernel_rfl) (SB := (r11 e Jn J0 Jr)) (r11_eq e Jn J0 Jr) _ _).trans (nd_block' (X := cP [3, 5, 0] B) (id := 1) (b := cP [3, 5, 1] B) (by kernel_rfl) (nd_chain' (X := cP [3, 5, 1] B) (Y := (cP [3, 5, 3] B)) 2 (L := K16) (S := fun J => c6 e J (x47, x48, x49, x50, ()) h) (Q := (k7 e (r11 e Jn J0 Jr) (r11 e Jn J0 Jr) J0 Jr)) (by kernel_rfl) (fun n => c6_eq e x47 x48 x49 x50 h n (exK [(1, (jk K10 (r11 e Jn J0 Jr))), (0, (jk K25 J0))]) (jk KR Jr)) (k7_eq e (r11 e Jn J0 Jr) (r11 e Jn J0 Jr) J0 Jr)))
noncomputable def k5 (e : Cx) (Jn : P10 → AH → Res) (J0 : P25 → AH → Res) (Jr : PR → AH → Res) : P12 → AH → Res
| (x42, x43, x44, x45, x46, _), h =>
  bif x46 then (r6 e Jn J0 Jr) (x42, x43, x44, x45, ()) h else J0 (x43, x44, ()) h
theorem k5_eq (e : Cx) (Jn : P10 → AH → Res) (J0 : P25 → AH → Res) (Jr : PR → AH → Res) : ∀ t h, exL (cfgS e) lv 42 e.F (cP [3, 4] B) (mkT K12 t) h (jk K10 Jn) (exK [(0, (jk K25 J0))]) (jk KR Jr) = k5 e Jn J0 Jr t h
| (x42, x43, x44, x45, x46, _), h => (nd_norm' (X := (cP [3, 4] B)) (a := cP [3, 4, 0] B) (b := cP [3, 5] B) (L := K10) (by kernel_rfl) (by kernel_rfl) (by kernel_rfl) (SB := (r6 e Jn J0 Jr)) (r6_eq e Jn J0 Jr) _ _).trans (nd_cond' (X := cP [3, 4, 0] B) (a := cP [3, 4, 0, 0] B) (b := cP [3, 4, 1] B) (t := x46) (x := .tmp 13) (by kernel_rfl) (by kernel_rfl) (by kernel_rfl) (by kernel_rfl))
noncomputable def l5 (e : Cx) (Jn : P10 → AH → Res) (J0 : P25 → AH → Res) (Jr : PR → AH → Res) : P10 → AH → Res
| (x32, x33, x34, x35, _), h =>
  c5 e (k5 e Jn J0 Jr) (x32, x33, x34, x35, ()) h
theorem l5_eq (e : Cx) (Jn : P10 → AH → Res) (J0 : P25 → AH → Res) (Jr : PR → AH → Res) : ∀ t h, exL (cfgS e) lv 42 e.F (cP [3, 3] B) (mkT K10 t) h (jk K10 Jn) (exK [(0, (jk K25 J0))]) (jk KR Jr) = l5 e Jn J0 Jr t h
| (x32, x33, x34, x35, _), h => nd_chain' (X := cP [3, 3] B) (Y := (cP [3, 4] B)) 1 (L := K12) (S := fun J => c5 e J (x32, x33, x34, x35, ()) h) (Q := (k5 e Jn J0 Jr)) (by kernel_rfl) (fun n => c5_eq e x32 x33 x34 x35 h n (exK [(0, (jk K25 J0))]) (jk KR Jr)) (k5_eq e Jn J0 Jr)
noncomputable def k4 (e : Cx) (Jn : P25 → AH → Res) (Jr : PR → AH → Res) : P10 → AH → Res
| (x28, x29, x30, x31, _), h =>
  loopN (P10) e.F (fun t h n => l5 e n Jn Jr t h) (x28, x29, x30, x31, ()) h
theorem k4_eq (e : Cx) (Jn : P25 → AH → Res) (Jr : PR → AH → Res) : ∀ t h, exL (cfgS e) lv 42 e.F (cP [3, 1] B) (mkT K10 t) h (jk K25 Jn) (exK []) (jk KR Jr) = k4 e Jn Jr t h
| (x28, x29, x30, x31, _), h => nd_block' (X := cP [3, 1] B) (id := 0) (b := cP [3, 2] B) (by kernel_rfl) ((nd_loop' (X := cP [3, 2] B) (b := cP [3, 3] B) (L := K10) (by kernel_rfl) (by kernel_rfl) (SB := fun n => l5 e n Jn Jr) (fun n => l5_eq e n Jn Jr) _ _).trans (by kernel_rfl))
noncomputable def r4 (e : Cx) (Jn : PR → AH → Res) (Jr : PR → AH → Res) : P4 → AH → Res
| (x12, x13, x14, _), h =>
  c4 e (k4 e (r12 e Jn Jr) Jr) (x12, x13, x14, ()) h
theorem r4_eq (e : Cx) (Jn : PR → AH → Res) (Jr : PR → AH → Res) : ∀ t h, exL (cfgS e) lv 42 e.F (cP [3] B) (mkT K4 t) h (jk KR Jn) (exK []) (jk KR Jr) = r4 e Jn Jr t h
| (x12, x13, x14, _), h => (nd_norm' (X := (cP [3] B)) (a := cP [3, 0] B) (b := cP [4] B) (L := K25) (by kernel_rfl) (by kernel_rfl) (by kernel_rfl) (SB := (r12 e Jn Jr)) (r12_eq e Jn Jr) _ _).trans (nd_chain' (X := cP [3, 0] B) (Y := (cP [3, 1] B)) 1 (L := K10) (S := fun J => c4 e J (x12, x13, x14, ()) h) (Q := (k4 e (r12 e Jn Jr) Jr)) (by kernel_rfl) (fun n => c4_eq e x12 x13 x14 h n (exK []) (jk KR Jr)) (k4_eq e (r12 e Jn Jr) Jr))
noncomputable def c2 (e : Cx) (J : P6 → AH → Res) : P4 → AH → Res
| (x9, x10, x11, _), h =>
  J (x9, x10, x11, ((x9.length : Int) != 64), ()) h
theorem c2_eq (e : Cx) (x9 : List Nat) (x10 : V) (x11 : V) (h : AH) (n : Kn) (ee : Ke) (r : Kn) : runL (cfgS e) lv 42 e.F (peel 1 (cP [2, 0] B)).1 (mkT K4 (x9, x10, x11, ())) h n ee r = c2 e (fun t h => n (mkT K6 t) h) (x9, x10, x11, ()) h := by kernel_rfl
noncomputable def c3 (e : Cx) (J : P8 → AH → Res) : P6 → AH → Res
| (x128, x129, x130, x131, _), h =>
  bA (ldA 32 x130 h) h fun x132 h133 =>
  bS (st 32 x129 (.agg x132) h133) fun h134 =>
  J (x129, 4, ()) h134
theorem c3_eq (e : Cx) (x128 : List Nat) (x129 : V) (x130 : V) (x131 : Bool) (h : AH) (n : Kn) (ee : Ke) (r : Kn) : runL (cfgS e) lv 42 e.F (peel 1 (cP [2, 1, 0] B)).1 (mkT K6 (x128, x129, x130, x131, ())) h n ee r = c3 e (fun t h => n (mkT K8 t) h) (x128, x129, x130, x131, ()) h := by kernel_rfl
noncomputable def k2 (e : Cx) (Jn : P4 → AH → Res) (Jr : PR → AH → Res) : P6 → AH → Res
| (x128, x129, x130, x131, _), h =>
  bif x131 then c3 e (fun | (x135, x136, _), h137 => Jr (x135, (.int .i64 x136), ()) h137) (x128, x129, x130, x131, ()) h else Jn (x128, x129, x130, ()) h
theorem k2_eq (e : Cx) (Jn : P4 → AH → Res) (Jr : PR → AH → Res) : ∀ t h, exL (cfgS e) lv 42 e.F (cP [2, 1] B) (mkT K6 t) h (jk K4 Jn) (exK []) (jk KR Jr) = k2 e Jn Jr t h
| (x128, x129, x130, x131, _), h => nd_cond' (X := cP [2, 1] B) (a := cP [2, 1, 0] B) (b := cP [2, 2] B) (t := x131) (x := .tmp 10) (by kernel_rfl) (by kernel_rfl) (nd_chain' (X := cP [2, 1, 0] B) (Y := (cP [2, 1, 1] B)) 1 (L := K8) (S := fun J => c3 e J (x128, x129, x130, x131, ()) h) (Q := fun | (x135, x136, _), h137 => Jr (x135, (.int .i64 x136), ()) h137) (by kernel_rfl) (fun n => c3_eq e x128 x129 x130 x131 h n (exK []) (jk KR Jr)) (fun | (x135, x136, _), h137 => by kernel_rfl)) (by kernel_rfl)
noncomputable def k1 (e : Cx) (Jn : PR → AH → Res) (Jr : PR → AH → Res) : P4 → AH → Res
| (x9, x10, x11, _), h =>
  c2 e (k2 e (r4 e Jn Jr) Jr) (x9, x10, x11, ()) h
theorem k1_eq (e : Cx) (Jn : PR → AH → Res) (Jr : PR → AH → Res) : ∀ t h, exL (cfgS e) lv 42 e.F (cP [2] B) (mkT K4 t) h (jk KR Jn) (exK []) (jk KR Jr) = k1 e Jn Jr t h
| (x9, x10, x11, _), h => (nd_norm' (X := (cP [2] B)) (a := cP [2, 0] B) (b := cP [3] B) (L := K4) (by kernel_rfl) (by kernel_rfl) (by kernel_rfl) (SB := (r4 e Jn Jr)) (r4_eq e Jn Jr) _ _).trans (nd_chain' (X := cP [2, 0] B) (Y := (cP [2, 1] B)) 1 (L := K6) (S := fun J => c2 e J (x9, x10, x11, ()) h) (Q := (k2 e (r4 e Jn Jr) Jr)) (by kernel_rfl) (fun n => c2_eq e x9 x10 x11 h n (exK []) (jk KR Jr)) (k2_eq e (r4 e Jn Jr) Jr))
noncomputable def fn (e : Cx) (a0 : List Nat) (h : AH) : Res :=
  c0 e (k1 e ret ret) (a0, ()) h
theorem run (e : Cx) (a0 : List Nat) (h : AH) : execFn (cfgS e) (foLive lv) e.F n_sha_Parse [(.str a0)] h = fn e a0 h := by
  refine (fn_eq (c := cfgS e) (lv := lv) (PP.funcs.getD 19 default) B (by kernel_rfl) (by kernel_rfl) (Nat.le_of_ble_eq_true (by kernel_rfl))).trans ?_
  rw [ret_eq]
  exact nd_chain' (X := cP [0] B) (Y := (cP [2] B)) 2 (L := K4) (S := fun J => c0 e J (a0, ()) h) (Q := (k1 e ret ret)) (by kernel_rfl) (fun n => c0_eq e a0 h n (exK []) (jk KR ret)) (k1_eq e ret ret)
end sha_Parse
/-! codicil/sha.Hex -/
namespace sha_Hex
noncomputable def B : Code := cBody (PP.funcs.getD 20 default)
abbrev K2 : Slots := [(1, .any)]
abbrev P2 := V × Unit
abbrev K4 : Slots := [(1, .any), (3, .any)]
abbrev P4 := V × V × Unit
abbrev K6 : Slots := [(3, .any), (6, .agg), (7, .int .i64)]
abbrev P6 := V × List V × Int × Unit
abbrev K8 : Slots := [(3, .any), (6, .agg), (7, .int .i64), (8, .bool)]
abbrev P8 := V × List V × Int × Bool × Unit
abbrev K10 : Slots := [(3, .any), (5, .int .u8), (6, .agg), (7, .int .i64)]
abbrev P10 := V × Int × List V × Int × Unit
abbrev K17 : Slots := [(3, .any)]
abbrev P17 := V × Unit
abbrev K18 : Slots := [(2, .str)]
abbrev P18 := List Nat × Unit
def lv : Nat → Option Slots := fun k =>
  bif Nat.beq k 2 then some K2 else bif Nat.beq k 4 then some K4 else bif Nat.beq k 6 then some K6 else bif Nat.beq k 8 then some K8 else bif Nat.beq k 9 then some K6 else bif Nat.beq k 10 then some K10 else bif Nat.beq k 12 then some K10 else bif Nat.beq k 14 then some K6 else bif Nat.beq k 15 then some K6 else bif Nat.beq k 16 then some K6 else bif Nat.beq k 7 then some K6 else bif Nat.beq k 17 then some K17 else bif Nat.beq k 18 then some K18 else none
abbrev KR : Slots := [(2, .any)]
abbrev PR := V × Unit
noncomputable def ret : PR → AH → Res
| (x2, _), h => finW [some x2] h
theorem ret_eq (e : Cx) : fin (cfgS e) (foLive lv) (PP.funcs.getD 20 default) = jk KR ret := by kernel_rfl
noncomputable def c0 (e : Cx) (J : P4 → AH → Res) : List V × Unit → AH → Res
| (a0, _), h =>
  cV (absBox T_api_Id (.agg a0) h) fun x1 h2 =>
  let x3 := (al [.nilptr, .nilslice] T_strings_Builder h2).1
  let h4 := (al [.nilptr, .nilslice] T_strings_Builder h2).2
  J (x1, x3, ()) h4
theorem c0_eq (e : Cx) (a0 : List V) (h : AH) (n : Kn) (ee : Ke) (r : Kn) : runL (cfgS e) lv 20 e.F (peel 2 (cP [0] B)).1 (iniT [(.agg a0)] 0 .leaf) h n ee r = c0 e (fun t h => n (mkT K4 t) h) (a0, ()) h := by kernel_rfl
noncomputable def c8 (e : Cx) (J : P18 → AH → Res) : P17 → AH → Res
| (x10, _), h =>
  cZ (e.C n_strings_Builder_String [x10] h) fun x11 h12 =>
  J (x11, ()) h12
theorem c8_eq (e : Cx) (x10 : V) (h : AH) (n : Kn) (ee : Ke) (r : Kn) : runL (cfgS e) lv 20 e.F (peel 1 (cP [3] B)).1 (mkT K17 (x10, ())) h n ee r = c8 e (fun t h => n (mkT K18 t) h) (x10, ()) h := by kernel_rfl
noncomputable def r8 (e : Cx) (Jn : PR → AH → Res) (Jr : PR → AH → Res) : P17 → AH → Res
| (x10, _), h =>
  c8 e (fun | (x13, _), h14 => Jr ((.str x13), ()) h14) (x10, ()) h
theorem r8_eq (e : Cx) (Jn : PR → AH → Res) (Jr : PR → AH → Res) : ∀ t h, exL (cfgS e) lv 20 e.F (cP [3] B) (mkT K17 t) h (jk KR Jn) (exK []) (jk KR Jr) = r8 e Jn Jr t h
| (x10, _), h => nd_chain' (X := cP [3] B) (Y := (cP [4] B)) 1 (L := K18) (S := fun J => c8 e J (x10, ()) h) (Q := fun | (x13, _), h14 => Jr ((.str x13), ()) h14) (by kernel_rfl) (fun n => c8_eq e x10 h n (exK []) (jk KR Jr)) (fun | (x13, _), h14 => by kernel_rfl)
noncomputable def c2 (e : Cx) (J : P6 → AH → Res) : P4 → AH → Res
| (x8, x9, _), h =>
  bA (ldA 32 x8 h) h fun x15 h16 =>
  J (x9, x15, 0, ()) h16
theorem c2_eq (e : Cx) (x8 : V) (x9 : V) (h : AH) (n : Kn) (ee : Ke) (r : Kn) : runL (cfgS e) lv 20 e.F (peel 1 (cP [2, 0] B)).1 (mkT K4 (x8, x9, ())) h n ee r = c2 e (fun t h => n (mkT K6 t) h) (x8, x9, ()) h := by kernel_rfl
noncomputable def c3 (e : Cx) (J : P8 → AH → Res) : P6 → AH → Res
| (x24, x25, x26, _), h =>
  J (x24, x25, x26, (decide (x26 < 32)), ()) h
theorem c3_eq (e : Cx) (x24 : V) (x25 : List V) (x26 : Int) (h : AH) (n : Kn) (ee : Ke) (r : Kn) : runL (cfgS e) lv 20 e.F (peel 1 (cP [2, 3] B)).1 (mkT K6 (x24, x25, x26, ())) h n ee r = c3 e (fun t h => n (mkT K8 t) h) (x24, x25, x26, ()) h := by kernel_rfl
noncomputable def c7 (e : Cx) (J : P6 → AH → Res) : P6 → AH → Res
| (x39, x40, x41, _), h =>
  J (x39, x40, (wr .i64 (x41 + 1)), ()) h
theorem c7_eq (e : Cx) (x39 : V) (x40 : List V) (x41 : Int) (h : AH) (n : Kn) (ee : Ke) (r : Kn) : runL (cfgS e) lv 20 e.F (peel 1 (cP [2, 6] B)).1 (mkT K6 (x39, x40, x41, ())) h n ee r = c7 e (fun t h => n (mkT K6 t) h) (x39, x40, x41, ()) h := by kernel_rfl
noncomputable def r7 (e : Cx) (Jn : P6 → AH → Res) (J0 : P17 → AH → Res) (Jr : PR → AH → Res) : P6 → AH → Res
| (x39, x40, x41, _), h =>
  c7 e Jn (x39, x40, x41, ()) h
theorem r7_eq (e : Cx) (Jn : P6 → AH → Res) (J0 : P17 → AH → Res) (Jr : PR → AH → Res) : ∀ t h, exL (cfgS e) lv 20 e.F (cP [2, 6] B) (mkT K6 t) h (jk K6 Jn) (exK [(0, (jk K17 J0))]) (jk KR Jr) = r7 e Jn J0 Jr t h
| (x39, x40, x41, _), h => nd_chain' (X := cP [2, 6] B) (Y := .skip) 1 (L := K6) (S := fun J => c7 e J (x39, x40, x41, ()) h) (Q := Jn) (by kernel_rfl) (fun n => c7_eq e x39 x40 x41 h n (exK [(0, (jk K17 J0))]) (jk KR Jr)) (fun t h => by kernel_rfl)
noncomputable def c4 (e : Cx) (J : P6 → AH → Res) : P6 → AH → Res
| (x36, x37, x38, _), h =>
  bI .u8 (ixC 32 1 x37 x38) h fun x46 h47 =>
  bI .u8 (ixZ [48, 49, 50, 51, 52, 53, 54, 55, 56, 57, 97, 98, 99, 100, 101, 102] (ishr .u8 x46 4)) h47 fun x48 h49 =>
  cV (e.C n_strings_Builder_WriteByte [x36, (.int .u8 x48)] h49) fun x50 h51 =>
  bI .u8 (ixZ [48, 49, 50, 51, 52, 53, 54, 55, 56, 57, 97, 98, 99, 100, 101, 102] (iand .u8 x46 15)) h51 fun x52 h53 =>
  cV (e.C n_strings_Builder_WriteByte [x36, (.int .u8 x52)] h53) fun x54 h55 =>
  J (x36, x37, x38, ()) h55
theorem c4_eq (e : Cx) (x36 : V) (x37 : List V) (x38 : Int) (h : AH) (n : Kn) (ee : Ke) (r : Kn) : runL (cfgS e) lv 20 e.F (peel 3 (cP [2, 5, 1] B)).1 (mkT K6 (x36, x37, x38, ())) h n ee r = c4 e (fun t h => n (mkT K6 t) h) (x36, x37, x38, ()) h := by kernel_rfl
noncomputable def r4 (e : Cx) (Jn : P6 → AH → Res) (J0 : P17 → AH → Res) (Jr : PR → AH → Res) : P6 → AH → Res
| (x36, x37, x38, _), h =>
  c4 e (r7 e Jn J0 Jr) (x36, x37, x38, ()) h
theorem r4_eq (e : Cx) (Jn : P6 → AH → Res) (J0 : P17 → AH → Res) (Jr : PR → AH → Res) : ∀ t h, exL (cfgS e) lv 20 e.F (cP [2, 5] B) (mkT K6 t) h (jk K6 Jn) (exK [(0, (jk K17 J0))]) (jk KR Jr) = r4 e Jn J0 Jr t h
| (x36, x37, x38, _), h => (nd_norm' (X := (cP [2, 5] B)) (a := cP [2, 5, 0] B) (b := cP [2, 6] B) (L := K6) (by kernel_rfl) (by kernel_rfl) (by kernel_rfl) (SB := (r7 e Jn J0 Jr)) (r7_eq e Jn J0 Jr) _ _).trans (nd_block' (X := cP [2, 5, 0] B) (id := 1) (b := cP [2, 5, 1] B) (by kernel_rfl) (nd_chain' (X := cP [2, 5, 1] B) (Y := .skip) 3 (L := K6) (S := fun J => c4 e J (x36, x37, x38, ()) h) (Q := (r7 e Jn J0 Jr)) (by kernel_rfl) (fun n => c4_eq e x36 x37 x38 h n (exK [(1, (jk K6 (r7 e Jn J0 Jr))), (0, (jk K17 J0))]) (jk KR Jr)) (fun t h => by kernel_rfl)))
noncomputable def k3 (e : Cx) (Jn : P6 → AH → Res) (J0 : P17 → AH → Res) (Jr : PR → AH → Res) : P8 → AH → Res
| (x32, x33, x34, x35, _), h =>
  bif x35 then (r4 e Jn J0 Jr) (x32, x33, x34, ()) h else J0 (x32, ()) h
theorem k3_eq (e : Cx) (Jn : P6 → AH → Res) (J0 : P17 → AH → Res) (Jr : PR → AH → Res) : ∀ t h, exL (cfgS e) lv 20 e.F (cP [2, 4] B) (mkT K8 t) h (jk K6 Jn) (exK [(0, (jk K17 J0))]) (jk KR Jr) = k3 e Jn J0 Jr t h
| (x32, x33, x34, x35, _), h => (nd_norm' (X := (cP [2, 4] B)) (a := cP [2, 4, 0] B) (b := cP [2, 5] B) (L := K6) (by kernel_rfl) (by kernel_rfl) (by kernel_rfl) (SB := (r4 e Jn J0 Jr)) (r4_eq e Jn J0 Jr) _ _).trans (nd_cond' (X := cP [2, 4, 0] B) (a := cP [2, 4, 0, 0] B) (b := cP [2, 4, 1] B) (t := x35) (x := .tmp 8) (by kernel_rfl) (by kernel_rfl) (by kernel_rfl) (by kernel_rfl))
noncomputable def l3 (e : Cx) (Jn : P6 → AH → Res) (J0 : P17 → AH → Res) (Jr : PR → AH → Res) : P6 → AH → Res
| (x24, x25, x26, _), h =>
  c3 e (k3 e Jn J0 Jr) (x24, x25, x26, ()) h
theorem l3_eq (e : Cx) (Jn : P6 → AH → Res) (J0 : P17 → AH → Res) (Jr : PR → AH → Res) : ∀ t h, exL (cfgS e) lv 20 e.F (cP [2, 3] B) (mkT K6 t) h (jk K6 Jn) (exK [(0, (jk K17 J0))]) (jk KR Jr) = l3 e Jn J0 Jr t h
| (x24, x25, x26, _), h => nd_chain' (X := cP [2, 3] B) (Y := (cP [2, 4] B)) 1 (L := K8) (S := fun J => c3 e J (x24, x25, x26, ()) h) (Q := (k3 e Jn J0 Jr)) (by kernel_rfl) (fun n => c3_eq e x24 x25 x26 h n (exK [(0, (jk K17 J0))]) (jk KR Jr)) (k3_eq e Jn J0 Jr)
noncomputable def k2 (e : Cx) (Jn : P17 → AH → Res) (Jr : PR → AH → Res) : P6 → AH → Res
| (x21, x22, x23, _), h =>
  loopN (P6) e.F (fun t h n => l3 e n Jn Jr t h) (x21, x22, x23, ()) h
theorem k2_eq (e : Cx) (Jn : P17 → AH → Res) (Jr : PR → AH → Res) : ∀ t h, exL (cfgS e) lv 20 e.F (cP [2, 1] B) (mkT K6 t) h (jk K17 Jn) (exK []) (jk KR Jr) = k2 e Jn Jr t h
| (x21, x22, x23, _), h => nd_block' (X := cP [2, 1] B) (id := 0) (b := cP [2, 2] B) (by kernel_rfl) ((nd_loop' (X := cP [2, 2] B) (b := cP [2, 3] B) (L := K6) (by kernel_rfl) (by kernel_rfl) (SB := fun n => l3 e n Jn Jr) (fun n => l3_eq e n Jn Jr) _ _).trans (by kernel_rfl))
noncomputable def k1 (e : Cx) (Jn : PR → AH → Res) (Jr : PR → AH → Res) : P4 → AH → Res
| (x8, x9, _), h =>
  c2 e (k2 e (r8 e Jn Jr) Jr) (x8, x9, ()) h
theorem k1_eq (e : Cx) (Jn : PR → AH → Res) (Jr : PR → AH → Res) : ∀ t h, exL (cfgS e) lv 20 e.F (cP [2] B) (mkT K4 t) h (jk KR Jn) (exK []) (jk KR Jr) = k1 e Jn Jr t h
| (x8, x9, _), h => (nd_norm' (X := (cP [2] B)) (a := cP [2, 0] B) (b := cP [3] B) (L := K17) (by kernel_rfl) (by kernel_rfl) (by kernel_rfl) (SB := (r8 e Jn Jr)) (r8_eq e Jn Jr) _ _).trans (nd_chain' (X := cP [2, 0] B) (Y := (cP [2, 1] B)) 1 (L := K6) (S := fun J => c2 e J (x8, x9, ()) h) (Q := (k2 e (r8 e Jn Jr) Jr)) (by kernel_rfl) (fun n => c2_eq e x8 x9 h n (exK []) (jk KR Jr)) (k2_eq e (r8 e Jn Jr) Jr))
noncomputable def fn (e : Cx) (a0 : List V) (h : AH) : Res :=
  c0 e (k1 e ret ret) (a0, ()) h
theorem run (e : Cx) (a0 : List V) (h : AH) : execFn (cfgS e) (foLive lv) e.F n_sha_Hex [(.agg a0)] h = fn e a0 h := by
  refine (fn_eq (c := cfgS e) (lv := lv) (PP.funcs.getD 20 default) B (by kernel_rfl) (by kernel_rfl) (Nat.le_of_ble_eq_true (by kernel_rfl))).trans ?_
  rw [ret_eq]
  exact nd_chain' (X := cP [0] B) (Y := (cP [2] B)) 2 (L := K4) (S := fun J => c0 e J (a0, ()) h) (Q := (k1 e ret ret)) (by kernel_rfl) (fun n => c0_eq e a0 h n (exK []) (jk KR ret)) (k1_eq e ret ret)
end sha_Hex
/-! codicil/codicilref01.DocParse -/
namespace r01_DocParse
noncomputable def B : Code := cBody (PP.funcs.getD 21 default)
abbrev K2 : Slots := [(0, .str), (2, .any)]
abbrev P2 := List Nat × V × Unit
abbrev K4 : Slots := [(0, .str), (2, .any), (4, .any)]
abbrev P4 := List Nat × V × V × Unit
abbrev K6 : Slots := [(0, .str), (2, .any), (4, .any), (9, .bool)]
abbrev P6 := List Nat × V × V × Bool × Unit
abbrev K8 : Slots := [(2, .any), (3, .int .i64)]
abbrev P8 := V × Int × Unit
abbrev K10 : Slots := [(0, .str), (2, .any), (4, .any), (5, .int .i64)]
abbrev P10 := List Nat × V × V × Int × Unit
abbrev K12 : Slots := [(0, .str), (2, .any), (4, .any), (5, .int .i64), (12, .bool)]
abbrev P12 := List Nat × V × V × Int × Bool × Unit
abbrev K16 : Slots := [(0, .str), (2, .any), (4, .any), (5, .int .i64), (6, .int .i64)]
abbrev P16 := List Nat × V × V × Int × Int × Unit
abbrev K18 : Slots := [(0, .str), (2, .any), (4, .any), (5, .int .i64), (6, .int .i64), (20, .bool)]
abbrev P18 := List Nat × V × V × Int × Int × Bool × Unit
abbrev K23 : Slots := [(2, .any), (4, .any)]
abbrev P23 := V × V × Unit
def lv : Nat → Option Slots := fun k =>
  bif Nat.beq k 2 then some K2 else bif Nat.beq k 4 then some K4 else bif Nat.beq k 6 then some K6 else bif Nat.beq k 8 then some K8 else bif Nat.beq k 9 then some K4 else bif Nat.beq k 10 then some K10 else bif Nat.beq k 12 then some K12 else bif Nat.beq k 15 then some K10 else bif Nat.beq k 16 then some K16 else bif Nat.beq k 18 then some K18 else bif Nat.beq k 20 then some K8 else bif Nat.beq k 21 then some K16 else bif Nat.beq k 22 then some K10 else bif Nat.beq k 13 then some K10 else bif Nat.beq k 14 then some K10 else bif Nat.beq k 11 then some K10 else bif Nat.beq k 23 then some K23 else bif Nat.beq k 24 then some K8 else none
abbrev KR : Slots := [(2, .any), (3, .any)]
abbrev PR := V × V × Unit
noncomputable def ret : PR → AH → Res
| (x2, x3, _), h => finW [ldA 32 x2 h, some x3] h
theorem ret_eq (e : Cx) : fin (cfgS e) (foLive lv) (PP.funcs.getD 21 default) = jk KR ret := by kernel_rfl
noncomputable def c0 (e : Cx) (J : P4 → AH → Res) : List Nat × Unit → AH → Res
| (a0, _), h =>
  let x1 := (al (List.replicate 32 (.int .u8 0)) T_api_Id h).1
  let h2 := (al (List.replicate 32 (.int .u8 0)) T_api_Id h).2
  let x3 := (al (List.replicate 32 (.int .u8 0)) T_api_Id h2).1
  let h4 := (al (List.replicate 32 (.int .u8 0)) T_api_Id h2).2
  J (a0, x1, x3, ()) h4
theorem c0_eq (e : Cx) (a0 : List Nat) (h : AH) (n : Kn) (ee : Ke) (r : Kn) : runL (cfgS e) lv 34 e.F (peel 2 (cP [0] B)).1 (iniT [(.str a0)] 0 .leaf) h n ee r = c0 e (fun t h => n (mkT K4 t) h) (a0, ()) h := by kernel_rfl
noncomputable def c11 (e : Cx) (J : P8 → AH → Res) : P23 → AH → Res
| (x15, x16, _), h =>
  bA (ldA 32 x16 h) h fun x17 h18 =>
  bS (st 32 x15 (.agg x17) h18) fun h19 =>
  J (x15, 0, ()) h19
theorem c11_eq (e : Cx) (x15 : V) (x16 : V) (h : AH) (n : Kn) (ee : Ke) (r : Kn) : runL (cfgS e) lv 34 e.F (peel 1 (cP [4] B)).1 (mkT K23 (x15, x16, ())) h n ee r = c11 e (fun t h => n (mkT K8 t) h) (x15, x16, ()) h := by kernel_rfl
noncomputable def r11 (e : Cx) (Jn : PR → AH → Res) (Jr : PR → AH → Res) : P23 → AH → Res
| (x15, x16, _), h =>
  c11 e (fun | (x20, x21, _), h22 => Jr (x20, (.int .i64 x21), ()) h22) (x15, x16, ()) h
theorem r11_eq (e : Cx) (Jn : PR → AH → Res) (Jr : PR → AH → Res) : ∀ t h, exL (cfgS e) lv 34 e.F (cP [4] B) (mkT K23 t) h (jk KR Jn) (exK []) (jk KR Jr) = r11 e Jn Jr t h
| (x15, x16, _), h => nd_chain' (X := cP [4] B) (Y := (cP [5] B)) 1 (L := K8) (S := fun J => c11 e J (x15, x16, ()) h) (Q := fun | (x20, x21, _), h22 => Jr (x20, (.int .i64 x21), ()) h22) (by kernel_rfl) (fun n => c11_eq e x15 x16 h n (exK []) (jk KR Jr)) (fun | (x20, x21, _), h22 => by kernel_rfl)
noncomputable def c4 (e : Cx) (J : P10 → AH → Res) : P4 → AH → Res
| (x12, x13, x14, _), h =>
  J (x12, x13, x14, 0, ()) h
theorem c4_eq (e : Cx) (x12 : List Nat) (x13 : V) (x14 : V) (h : AH) (n : Kn) (ee : Ke) (r : Kn) : runL (cfgS e) lv 34 e.F (peel 1 (cP [3, 0] B)).1 (mkT K4 (x12, x13, x14, ())) h n ee r = c4 e (fun t h => n (mkT K10 t) h) (x12, x13, x14, ()) h := by kernel_rfl
noncomputable def c6 (e : Cx) (J : P10 → AH → Res) : P10 → AH → Res
| (x40, x41, x42, x43, _), h =>
  J (x40, x41, x42, (wr .i64 (x43 + 1)), ()) h
theorem c6_eq (e : Cx) (x40 : List Nat) (x41 : V) (x42 : V) (x43 : Int) (h : AH) (n : Kn) (ee : Ke) (r : Kn) : runL (cfgS e) lv 34 e.F (peel 1 (cP [3, 5] B)).1 (mkT K10 (x40, x41, x42, x43, ())) h n ee r = c6 e (fun t h => n (mkT K10 t) h) (x40, x41, x42, x43, ()) h := by kernel_rfl
noncomputable def r6 (e : Cx) (Jn : P10 → AH → Res) (J0 : P23 → AH → Res) (Jr : PR → AH → Res) : P10 → AH → Res
| (x40, x41, x42, x43, _), h =>
  c6 e Jn (x40, x41, x42, x43, ()) h
theorem r6_eq (e : Cx) (Jn : P10 → AH → Res) (J0 : P23 → AH → Res) (Jr : PR → AH → Res) : ∀ t h, exL (cfgS e) lv 34 e.F (cP [3, 5] B) (mkT K10 t) h (jk K10 Jn) (exK [(0, (jk K23 J0))]) (jk KR Jr) = r6 e Jn J0 Jr t h
| (x40, x41, x42, x43, _), h => nd_chain' (X := cP [3, 5] B) (Y := .skip) 1 (L := K10) (S := fun J => c6 e J (x40, x41, x42, x43, ()) h) (Q := Jn) (by kernel_rfl) (fun n => c6_eq e x40 x41 x42 x43 h n (exK [(0, (jk K23 J0))]) (jk KR Jr)) (fun t h => by kernel_rfl)
noncomputable def c7 (e : Cx) (J : P16 → AH → Res) : P10 → AH → Res
| (x36, x37, x38, x39, _), h =>
  bI .u8 (ixZ x36 x39) h fun x49 h50 =>
  cI .i64 (e.C n_r01_digit [(.int .u8 x49)] h50) fun x51 h52 =>
  J (x36, x37, x38, x39, x51, ()) h52
theorem c7_eq (e : Cx) (x36 : List Nat) (x37 : V) (x38 : V) (x39 : Int) (h : AH) (n : Kn) (ee : Ke) (r : Kn) : runL (cfgS e) lv 34 e.F (peel 1 (cP [3, 4, 1] B)).1 (mkT K10 (x36, x37, x38, x39, ())) h n ee r = c7 e (fun t h => n (mkT K16 t) h) (x36, x37, x38, x39, ()) h := by kernel_rfl
noncomputable def c10 (e : Cx) (J : P10 → AH → Res) : P16 → AH → Res
| (x64, x65, x66, x67, x68, _), h =>
  bV (ixA 32 1 x66 (wr .i64 (x67.tdiv 2))) h fun x69 h70 =>
  bI .u8 (ld x69 h70) h70 fun x71 h72 =>
  let x73 : Int := (wr .u8 ((wr .u8 (16 * x71)) + (wr .u8 x68)))
  bV (ixA 32 1 x66 (wr .i64 (x67.tdiv 2))) h72 fun x74 h75 =>
  bS (st 1 x74 (.int .u8 x73) h75) fun h76 =>
  J (x64, x65, x66, x67, ()) h76
theorem c10_eq (e : Cx) (x64 : List Nat) (x65 : V) (x66 : V) (x67 : Int) (x68 : Int) (h : AH) (n : Kn) (ee : Ke) (r : Kn) : runL (cfgS e) lv 34 e.F (peel 1 (cP [3, 4, 3] B)).1 (mkT K16 (x64, x65, x66, x67, x68, ())) h n ee r = c10 e (fun t h => n (mkT K10 t) h) (x64, x65, x66, x67, x68, ()) h := by kernel_rfl
noncomputable def r10 (e : Cx) (Jn : P10 → AH → Res) (J1 : P10 → AH → Res) (J0 : P23 → AH → Res) (Jr : PR → AH → Res) : P16 → AH → Res
| (x64, x65, x66, x67, x68, _), h =>
  c10 e Jn (x64, x65, x66, x67, x68, ()) h
theorem r10_eq (e : Cx) (Jn : P10 → AH → Res) (J1 : P10 → AH → Res) (J0 : P23 → AH → Res) (Jr : PR → AH → Res) : ∀ t h, exL (cfgS e) lv 34 e.F (cP [3, 4, 3] B) (mkT K16 t) h (jk K10 Jn) (exK [(1, (jk K10 J1)), (0, (jk K23 J0))]) (jk KR Jr) = r10 e Jn J1 J0 Jr t h
| (x64, x65, x66, x67, x68, _), h => nd_chain' (X := cP [3, 4, 3] B) (Y := .skip) 1 (L := K10) (S := fun J => c10 e J (x64, x65, x66, x67, x68, ()) h) (Q := Jn) (by kernel_rfl) (fun n => c10_eq e x64 x65 x66 x67 x68 h n (exK [(1, (jk K10 J1)), (0, (jk K23 J0))]) (jk KR Jr)) (fun t h => by kernel_rfl)
noncomputable def c8 (e : Cx) (J : P18 → AH → Res) : P16 → AH → Res
| (x59, x60, x61, x62, x63, _), h =>
  J (x59, x60, x61, x62, x63, (decide (x63 > 15)), ()) h
theorem c8_eq (e : Cx) (x59 : List Nat) (x60 : V) (x61 : V) (x62 : Int) (x63 : Int) (h : AH) (n : Kn) (ee : Ke) (r : Kn) : runL (cfgS e) lv 34 e.F (peel 1 (cP [3, 4, 2, 0] B)).1 (mkT K16 (x59, x60, x61, x62, x63, ())) h n ee r = c8 e (fun t h => n (mkT K18 t) h) (x59, x60, x61, x62, x63, ()) h := by kernel_rfl
noncomputable def c9 (e : Cx) (J : P8 → AH → Res) : P18 → AH → Res
| (x89, x90, x91, x92, x93, x94, _), h =>
  bA (bld [] (List.replicate 32 (.int .u8 0))) h fun x95 h96 =>
  bS (st 32 x90 (.agg x95) h96) fun h97 =>
  J (x90, 4, ()) h97
theorem c9_eq (e : Cx) (x89 : List Nat) (x90 : V) (x91 : V) (x92 : Int) (x93 : Int) (x94 : Bool) (h : AH) (n : Kn) (ee : Ke) (r : Kn) : runL (cfgS e) lv 34 e.F (peel 1 (cP [3, 4, 2, 1, 0] B)).1 (mkT K18 (x89, x90, x91, x92, x93, x94, ())) h n ee r = c9 e (fun t h => n (mkT K8 t) h) (x89, x90, x91, x92, x93, x94, ()) h := by kernel_rfl
noncomputable def k8 (e : Cx) (Jn : P16 → AH → Res) (J1 : P10 → AH → Res) (J0 : P23 → AH → Res) (Jr : PR → AH → Res) : P18 → AH → Res
| (x89, x90, x91, x92, x93, x94, _), h =>
  bif x94 then c9 e (fun | (x98, x99, _), h100 => Jr (x98, (.int .i64 x99), ()) h100) (x89, x90, x91, x92, x93, x94, ()) h else Jn (x89, x90, x91, x92, x93, ()) h
theorem k8_eq (e : Cx) (Jn : P16 → AH → Res) (J1 : P10 → AH → Res) (J0 : P23 → AH → Res) (Jr : PR → AH → Res) : ∀ t h, exL (cfgS e) lv 34 e.F (cP [3, 4, 2, 1] B) (mkT K18 t) h (jk K16 Jn) (exK [(1, (jk K10 J1)), (0, (jk K23 J0))]) (jk KR Jr) = k8 e Jn J1 J0 Jr t h
| (x89, x90, x91, x92, x93, x94, _), h => nd_cond' (X := cP [3, 4, 2, 1] B) (a := cP [3, 4, 2, 1, 0] B) (b := cP [3, 4, 2, 2] B) (t := x94) (x := .tmp 20) (by kernel_rfl) (by kernel_rfl) (nd_chain' (X := cP [3, 4, 2, 1, 0] B) (Y := (cP [3, 4, 2, 1, 1] B)) 1 (L := K8) (S := fun J => c9 e J (x89, x90, x91, x92, x93, x94, ()) h) (Q := fun | (x98, x99, _), h100 => Jr (x98, (.int .i64 x99), ()) h100) (by kernel_rfl) (fun n => c9_eq e x89 x90 x91 x92 x93 x94 h n (exK [(1, (jk K10 J1)), (0, (jk K23 J0))]) (jk KR Jr)) (fun | (x98, x99, _), h100 => by kernel_rfl)) (by kernel_rfl)
noncomputable def k7 (e : Cx) (Jn : P10 → AH → Res) (J1 : P10 → AH → Res) (J0 : P23 → AH → Res) (Jr : PR → AH → Res) : P16 → AH → Res
| (x59, x60, x61, x62, x63, _), h =>
  c8 e (k8 e (r10 e Jn J1 J0 Jr) J1 J0 Jr) (x59, x60, x61, x62, x63, ()) h
theorem k7_eq (e : Cx) (Jn : P10 → AH → Res) (J1 : P10 → AH → Res) (J0 : P23 → AH → Res) (Jr : PR → AH → Res) : ∀ t h, exL (cfgS e) lv 34 e.F (cP [3, 4, 2] B) (mkT K16 t) h (jk K10 Jn) (exK [(1, (jk K10 J1)), (0, (jk K23 J0))]) (jk KR Jr) = k7 e Jn J1 J0 Jr t h
| (x59, x60, x61, x62, x63, _), h => (nd_norm' (X := (cP [3, 4, 2] B)) (a := cP [3, 4, 2, 0] B) (b := cP [3, 4, 3] B) (L := K16) (by kernel_rfl) (by kernel_rfl) (by kernel_rfl) (SB := (r10 e Jn J1 J0 Jr)) (r10_eq e Jn J1 J0 Jr) _ _).trans (nd_chain' (X := cP [3, 4, 2, 0] B) (Y := (cP [3, 4, 2, 1] B)) 1 (L := K18) (S := fun J => c8 e J (x59, x60, x61, x62, x63, ()) h) (Q := (k8 e (r10 e Jn J1 J0 Jr) J1 J0 Jr)) (by kernel_rfl) (fun n => c8_eq e x59 x60 x61 x62 x63 h n (exK [(1, (jk K10 J1)), (0, (jk K23 J0))]) (jk KR Jr)) (k8_eq e (r10 e Jn J1 J0 Jr) J1 J0 Jr))
noncomputable def r7 (e : Cx) (Jn : P10 → AH → Res) (J0 : P23 → AH → Res) (Jr : PR → AH → Res) : P10 → AH → Res
| (x36, x37, x38, x39, _), h =>
  c7 e (k7 e (r6 e Jn J0 Jr) (r6 e Jn J0 Jr) J0 Jr) (x36, x37, x38, x39, ()) h
theorem r7_eq (e : Cx) (Jn : P10 → AH → Res) (J0 : P23 → AH → Res) (Jr : PR → AH → Res) : ∀ t h, exL (cfgS e) lv 34 e.F (cP [3, 4] B) (mkT K10 t) h (jk K10 Jn) (exK [(0, (jk K23 J0))]) (jk KR Jr) = r7 e Jn J0 Jr t h
| (x36, x37, x38, x39, _), h => (nd_norm' (X := (cP [3, 4] B)) (a := cP [3, 4, 0] B) (b := cP [3, 5] B) (L := K10) (by kernel_rfl) (by kernel_rfl) (by kernel_rfl) (SB := (r6 e Jn J0 Jr)) (r6_eq e Jn J0 Jr) _ _).trans (nd_block' (X := cP [3, 4, 0] B) (id := 1) (b := cP [3, 4, 1] B) (by kernel_rfl) (nd_chain' (X := cP [3, 4, 1] B) (Y := (cP [3, 4, 2] B)) 1 (L := K16) (S := fun J => c7 e J (x36, x37, x38, x39, ()) h) (Q := (k7 e (r6 e Jn J0 Jr) (r6 e Jn J0 Jr) J0 Jr)) (by kernel_rfl) (fun n => c7_eq e x36 x37 x38 x39 h n (exK [(1, (jk K10 (r6 e Jn J0 Jr))), (0, (jk K23 J0))]) (jk KR Jr)) (k7_eq e (r6 e Jn J0 Jr) (r6 e Jn J0 Jr) J0 Jr)))
noncomputable def c5 (e : Cx) (J : P12 → AH → Res) : P10 → AH → Res
| (x32, x33, x34, x35, _), h =>
  J (x32, x33, x34, x35, (decide (x35 < 64)), ()) h
theorem c5_eq (e : Cx) (x32 : List Nat) (x33 : V) (x34 : V) (x35 : Int) (h : AH) (n : Kn) (ee : Ke) (r : Kn) : runL (cfgS e) lv 34 e.F (peel 1 (cP [3, 3, 0] B)).1 (mkT K10 (x32, x33, x34, x35, ())) h n ee r = c5 e (fun t h => n (mkT K12 t) h) (x32, x33, x34, x35, ()) h := by kernel_rfl
noncomputable def k5 (e : Cx) (Jn : P10 → AH → Res) (J0 : P23 → AH → Res) (Jr : PR → AH → Res) : P12 → AH → Res
| (x107, x108, x109, x110, x111, _), h =>
  bif x111 then Jn (x107, x108, x109, x110, ()) h else J0 (x108, x109, ()) h
theorem k5_eq (e : Cx) (Jn : P10 → AH → Res) (J0 : P23 → AH → Res) (Jr : PR → AH → Res) : ∀ t h, exL (cfgS e) lv 34 e.F (cP [3, 3, 1] B) (mkT K12 t) h (jk K10 Jn) (exK [(0, (jk K23 J0))]) (jk KR Jr) = k5 e Jn J0 Jr t h
| (x107, x108, x109, x110, x111, _), h => nd_cond' (X := cP [3, 3, 1] B) (a := cP [3, 3, 1, 0] B) (b := cP [3, 3, 2] B) (t := x111) (x := .tmp 12) (by kernel_rfl) (by kernel_rfl) (by kernel_rfl) (by kernel_rfl)
noncomputable def l5 (e : Cx) (Jn : P10 → AH → Res) (J0 : P23 → AH → Res) (Jr : PR → AH → Res) : P10 → AH → Res
| (x32, x33, x34, x35, _), h =>
  c5 e (k5 e (r7 e Jn J0 Jr) J0 Jr) (x32, x33, x34, x35, ()) h
theorem l5_eq (e : Cx) (Jn : P10 → AH → Res) (J0 : P23 → AH → Res) (Jr : PR → AH → Res) : ∀ t h, exL (cfgS e) lv 34 e.F (cP [3, 3] B) (mkT K10 t) h (jk K10 Jn) (exK [(0, (jk K23 J0))]) (jk KR Jr) = l5 e Jn J0 Jr t h
| (x32, x33, x34, x35, _), h => (nd_norm' (X := (cP [3, 3] B)) (a := cP [3, 3, 0] B) (b := cP [3, 4] B) (L := K10) (by kernel_rfl) (by kernel_rfl) (by kernel_rfl) (SB := (r7 e Jn J0 Jr)) (r7_eq e Jn J0 Jr) _ _).trans (nd_chain' (X := cP [3, 3, 0] B) (Y := (cP [3, 3, 1] B)) 1 (L := K12) (S := fun J => c5 e J (x32, x33, x34, x35, ()) h) (Q := (k5 e (r7 e Jn J0 Jr) J0 Jr)) (by kernel_rfl) (fun n => c5_eq e x32 x33 x34 x35 h n (exK [(0, (jk K23 J0))]) (jk KR Jr)) (k5_eq e (r7 e Jn J0 Jr) J0 Jr))
noncomputable def k4 (e : Cx) (Jn : P23 → AH → Res) (Jr : PR → AH → Res) : P10 → AH → Res
| (x28, x29, x30, x31, _), h =>
  loopN (P10) e.F (fun t h n => l5 e n Jn Jr t h) (x28, x29, x30, x31, ()) h
theorem k4_eq (e : Cx) (Jn : P23 → AH → Res) (Jr : PR → AH → Res) : ∀ t h, exL (cfgS e) lv 34 e.F (cP [3, 1] B) (mkT K10 t) h (jk K23 Jn) (exK []) (jk KR Jr) = k4 e Jn Jr t h
| (x28, x29, x30, x31, _), h => nd_block' (X := cP [3, 1] B) (id := 0) (b := cP [3, 2] B) (by kernel_rfl) ((nd_loop' (X := cP [3, 2] B) (b := cP [3, 3] B) (L := K10) (by kernel_rfl) (by kernel_rfl) (SB := fun n => l5 e n Jn Jr) (fun n => l5_eq e n Jn Jr) _ _).trans (by kernel_rfl))
noncomputable def r4 (e : Cx) (Jn : PR → AH → Res) (Jr : PR → AH → Res) : P4 → AH → Res
| (x12, x13, x14, _), h =>
  c4 e (k4 e (r11 e Jn Jr) Jr) (x12, x13, x14, ()) h
theorem r4_eq (e : Cx) (Jn : PR → AH → Res) (Jr : PR → AH → Res) : ∀ t h, exL (cfgS e) lv 34 e.F (cP [3] B) (mkT K4 t) h (jk KR Jn) (exK []) (jk KR Jr) = r4 e Jn Jr t h
| (x12, x13, x14, _), h => (nd_norm' (X := (cP [3] B)) (a := cP [3, 0] B) (b := cP [4] B) (L := K23) (by kernel_rfl) (by kernel_rfl) (by kernel_rfl) (SB := (r11 e Jn Jr)) (r11_eq e Jn Jr) _ _).trans (nd_chain' (X := cP [3, 0] B) (Y := (cP [3, 1] B)) 1 (L := K10) (S := fun J => c4 e J (x12, x13, x14, ()) h) (Q := (k4 e (r11 e Jn Jr) Jr)) (by kernel_rfl) (fun n => c4_eq e x12 x13 x14 h n (exK []) (jk KR Jr)) (k4_eq e (r11 e Jn Jr) Jr))
noncomputable def c2 (e : Cx) (J : P6 → AH → Res) : P4 → AH → Res
| (x9, x10, x11, _), h =>
  J (x9, x10, x11, ((x9.length : Int) != 64), ()) h
theorem c2_eq (e : Cx) (x9 : List Nat) (x10 : V) (x11 : V) (h : AH) (n : Kn) (ee : Ke) (r : Kn) : runL (cfgS e) lv 34 e.F (peel 1 (cP [2, 0] B)).1 (mkT K4 (x9, x10, x11, ())) h n ee r = c2 e (fun t h => n (mkT K6 t) h) (x9, x10, x11, ()) h := by kernel_rfl
noncomputable def c3 (e : Cx) (J : P8 → AH → Res) : P6 → AH → Res
| (x117, x118, x119, x120, _), h =>
  bA (ldA 32 x119 h) h fun x121 h122 =>
  bS (st 32 x118 (.agg x121) h122) fun h123 =>
  J (x118, 4, ()) h123
theorem c3_eq (e : Cx) (x117 : List Nat) (x118 : V) (x119 : V) (x120 : Bool) (h : AH) (n : Kn) (ee : Ke) (r : Kn) : runL (cfgS e) lv 34 e.F (peel 1 (cP [2, 1, 0] B)).1 (mkT K6 (x117, x118, x119, x120, ())) h n ee r = c3 e (fun t h => n (mkT K8 t) h) (x117, x118, x119, x120, ()) h := by kernel_rfl
noncomputable def k2 (e : Cx) (Jn : P4 → AH → Res) (Jr : PR → AH → Res) : P6 → AH → Res
| (x117, x118, x119, x120, _), h =>
  bif x120 then c3 e (fun | (x124, x125, _), h126 => Jr (x124, (.int .i64 x125), ()) h126) (x117, x118, x119, x120, ()) h else Jn (x117, x118, x119, ()) h
theorem k2_eq (e : Cx) (Jn : P4 → AH → Res) (Jr : PR → AH → Res) : ∀ t h, exL (cfgS e) lv 34 e.F (cP [2, 1] B) (mkT K6 t) h (jk K4 Jn) (exK []) (jk KR Jr) = k2 e Jn Jr t h
| (x117, x118, x119, x120, _), h => nd_cond' (X := cP [2, 1] B) (a := cP [2, 1, 0] B) (b := cP [2, 2] B) (t := x120) (x := .tmp 9) (by kernel_rfl) (by kernel_rfl) (nd_chain' (X := cP [2, 1, 0] B) (Y := (cP [2, 1, 1] B)) 1 (L := K8) (S := fun J => c3 e J (x117, x118, x119, x120, ()) h) (Q := fun | (x124, x125, _), h126 => Jr (x124, (.int .i64 x125), ()) h126) (by kernel_rfl) (fun n => c3_eq e x117 x118 x119 x120 h n (exK []) (jk KR Jr)) (fun | (x124, x125, _), h126 => by kernel_rfl)) (by kernel_rfl)
noncomputable def k1 (e : Cx) (Jn : PR → AH → Res) (Jr : PR → AH → Res) : P4 → AH → Res
| (x9, x10, x11, _), h =>
  c2 e (k2 e (r4 e Jn Jr) Jr) (x9, x10, x11, ()) h
theorem k1_eq (e : Cx) (Jn : PR → AH → Res) (Jr : PR → AH → Res) : ∀ t h, exL (cfgS e) lv 34 e.F (cP [2] B) (mkT K4 t) h (jk KR Jn) (exK []) (jk KR Jr) = k1 e Jn Jr t h
| (x9, x10, x11, _), h => (nd_norm' (X := (cP [2] B)) (a := cP [2, 0] B) (b := cP [3] B) (L := K4) (by kernel_rfl) (by kernel_rfl) (by kernel_rfl) (SB := (r4 e Jn Jr)) (r4_eq e Jn Jr) _ _).trans (nd_chain' (X := cP [2, 0] B) (Y := (cP [2, 1] B)) 1 (L := K6) (S := fun J => c2 e J (x9, x10, x11, ()) h) (Q := (k2 e (r4 e Jn Jr) Jr)) (by kernel_rfl) (fun n => c2_eq e x9 x10 x11 h n (exK []) (jk KR Jr)) (k2_eq e (r4 e Jn Jr) Jr))
noncomputable def fn (e : Cx) (a0 : List Nat) (h : AH) : Res :=
  c0 e (k1 e ret ret) (a0, ()) h
theorem run (e : Cx) (a0 : List Nat) (h : AH) : execFn (cfgS e) (foLive lv) e.F n_r01_DocParse [(.str a0)] h = fn e a0 h := by
  refine (fn_eq (c := cfgS e) (lv := lv) (PP.funcs.getD 21 default) B (by kernel_rfl) (by kernel_rfl) (Nat.le_of_ble_eq_true (by kernel_rfl))).trans ?_
  rw [ret_eq]
  exact nd_chain' (X := cP [0] B) (Y := (cP [2] B)) 2 (L := K4) (S := fun J => c0 e J (a0, ()) h) (Q := (k1 e ret ret)) (by kernel_rfl) (fun n => c0_eq e a0 h n (exK []) (jk KR ret)) (k1_eq e ret ret)
end r01_DocParse
/-! codicil/codicilref01.Hex -/
namespace r01_Hex
noncomputable def B : Code := cBody (PP.funcs.getD 22 default)
abbrev K2 : Slots := [(1, .any)]
abbrev P2 := V × Unit
abbrev K4 : Slots := [(1, .any), (3, .any)]
abbrev P4 := V × V × Unit
abbrev K6 : Slots := [(3, .any), (6, .agg), (7, .int .i64)]
abbrev P6 := V × List V × Int × Unit
abbrev K8 : Slots := [(3, .any), (6, .agg), (7, .int .i64), (8, .bool)]
abbrev P8 := V × List V × Int × Bool × Unit
abbrev K10 : Slots := [(3, .any), (5, .int .u8), (6, .agg), (7, .int .i64)]
abbrev P10 := V × Int × List V × Int × Unit
abbrev K15 : Slots := [(3, .any)]
abbrev P15 := V × Unit
abbrev K16 : Slots := [(2, .str)]
abbrev P16 := List Nat × Unit
def lv : Nat → Option Slots := fun k =>
  bif Nat.beq k 2 then some K2 else bif Nat.beq k 4 then some K4 else bif Nat.beq k 6 then some K6 else bif Nat.beq k 8 then some K8 else bif Nat.beq k 9 then some K6 else bif Nat.beq k 10 then some K10 else bif Nat.beq k 12 then some K6 else bif Nat.beq k 13 then some K6 else bif Nat.beq k 14 then some K6 else bif Nat.beq k 7 then some K6 else bif Nat.beq k 15 then some K15 else bif Nat.beq k 16 then some K16 else none
abbrev KR : Slots := [(2, .any)]
abbrev PR := V × Unit
noncomputable def ret : PR → AH → Res
| (x2, _), h => finW [some x2] h
theorem ret_eq (e : Cx) : fin (cfgS e) (foLive lv) (PP.funcs.getD 22 default) = jk KR ret := by kernel_rfl
noncomputable def c0 (e : Cx) (J : P4 → AH → Res) : List V × Unit → AH → Res
| (a0, _), h =>
  cV (absBox T_api_Id (.agg a0) h) fun x1 h2 =>
  J (x1, (.nilslice), ()) h2
theorem c0_eq (e : Cx) (a0 : List V) (h : AH) (n : Kn) (ee : Ke) (r : Kn) : runL (cfgS e) lv 22 e.F (peel 2 (cP [0] B)).1 (iniT [(.agg a0)] 0 .leaf) h n ee r = c0 e (fun t h => n (mkT K4 t) h) (a0, ()) h := by kernel_rfl
noncomputable def c7 (e : Cx) (J : P16 → AH → Res) : P15 → AH → Res
| (x8, _), h =>
  cZ (toS x8 h) fun x9 h10 =>
  J (x9, ()) h10
theorem c7_eq (e : Cx) (x8 : V) (h : AH) (n : Kn) (ee : Ke) (r : Kn) : runL (cfgS e) lv 22 e.F (peel 1 (cP [3] B)).1 (mkT K15 (x8, ())) h n ee r = c7 e (fun t h => n (mkT K16 t) h) (x8, ()) h := by kernel_rfl
noncomputable def r7 (e : Cx) (Jn : PR → AH → Res) (Jr : PR → AH → Res) : P15 → AH → Res
| (x8, _), h =>
  c7 e (fun | (x11, _), h12 => Jr ((.str x11), ()) h12) (x8, ()) h
theorem r7_eq (e : Cx) (Jn : PR → AH → Res) (Jr : PR → AH → Res) : ∀ t h, exL (cfgS e) lv 22 e.F (cP [3] B) (mkT K15 t) h (jk KR Jn) (exK []) (jk KR Jr) = r7 e Jn Jr t h
| (x8, _), h => nd_chain' (X := cP [3] B) (Y := (cP [4] B)) 1 (L := K16) (S := fun J => c7 e J (x8, ()) h) (Q := fun | (x11, _), h12 => Jr ((.str x11), ()) h12) (by kernel_rfl) (fun n => c7_eq e x8 h n (exK []) (jk KR Jr)) (fun | (x11, _), h12 => by kernel_rfl)
noncomputable def c2 (e : Cx) (J : P6 → AH → Res) : P4 → AH → Res
| (x6, x7, _), h =>
  bA (ldA 32 x6 h) h fun x13 h14 =>
  J (x7, x13, 0, ()) h14
theorem c2_eq (e : Cx) (x6 : V) (x7 : V) (h : AH) (n : Kn) (ee : Ke) (r : Kn) : runL (cfgS e) lv 22 e.F (peel 1 (cP [2, 0] B)).1 (mkT K4 (x6, x7, ())) h n ee r = c2 e (fun t h => n (mkT K6 t) h) (x6, x7, ()) h := by kernel_rfl
noncomputable def c3 (e : Cx) (J : P8 → AH → Res) : P6 → AH → Res
| (x22, x23, x24, _), h =>
  J (x22, x23, x24, (decide (x24 < 32)), ()) h
theorem c3_eq (e : Cx) (x22 : V) (x23 : List V) (x24 : Int) (h : AH) (n : Kn) (ee : Ke) (r : Kn) : runL (cfgS e) lv 22 e.F (peel 1 (cP [2, 3] B)).1 (mkT K6 (x22, x23, x24, ())) h n ee r = c3 e (fun t h => n (mkT K8 t) h) (x22, x23, x24, ()) h := by kernel_rfl
noncomputable def c6 (e : Cx) (J : P6 → AH → Res) : P6 → AH → Res
| (x37, x38, x39, _), h =>
  J (x37, x38, (wr .i64 (x39 + 1)), ()) h
theorem c6_eq (e : Cx) (x37 : V) (x38 : List V) (x39 : Int) (h : AH) (n : Kn) (ee : Ke) (r : Kn) : runL (cfgS e) lv 22 e.F (peel 1 (cP [2, 6] B)).1 (mkT K6 (x37, x38, x39, ())) h n ee r = c6 e (fun t h => n (mkT K6 t) h) (x37, x38, x39, ()) h := by kernel_rfl
noncomputable def r6 (e : Cx) (Jn : P6 → AH → Res) (J0 : P15 → AH → Res) (Jr : PR → AH → Res) : P6 → AH → Res
| (x37, x38, x39, _), h =>
  c6 e Jn (x37, x38, x39, ()) h
theorem r6_eq (e : Cx) (Jn : P6 → AH → Res) (J0 : P15 → AH → Res) (Jr : PR → AH → Res) : ∀ t h, exL (cfgS e) lv 22 e.F (cP [2, 6] B) (mkT K6 t) h (jk K6 Jn) (exK [(0, (jk K15 J0))]) (jk KR Jr) = r6 e Jn J0 Jr t h
| (x37, x38, x39, _), h => nd_chain' (X := cP [2, 6] B) (Y := .skip) 1 (L := K6) (S := fun J => c6 e J (x37, x38, x39, ()) h) (Q := Jn) (by kernel_rfl) (fun n => c6_eq e x37 x38 x39 h n (exK [(0, (jk K15 J0))]) (jk KR Jr)) (fun t h => by kernel_rfl)
noncomputable def c4 (e : Cx) (J : P6 → AH → Res) : P6 → AH → Res
| (x34, x35, x36, _), h =>
  bI .u8 (ixC 32 1 x35 x36) h fun x44 h45 =>
  bI .u8 (ixZ [48, 49, 50, 51, 52, 53, 54, 55, 56, 57, 97, 98, 99, 100, 101, 102] (wr .u8 (x44.tdiv 16))) h45 fun x46 h47 =>
  bI .u8 (ixZ [48, 49, 50, 51, 52, 53, 54, 55, 56, 57, 97, 98, 99, 100, 101, 102] (x44.tmod 16)) h47 fun x48 h49 =>
  cV (bsl 1 2 [(0, 1, (.int .u8 x46)), (1, 1, (.int .u8 x48))] [.int .u8 0] T_uint8 h49) fun x50 h51 =>
  cV (app 1 1 T_uint8 x34 x50 h51) fun x52 h53 =>
  J (x52, x35, x36, ()) h53
theorem c4_eq (e : Cx) (x34 : V) (x35 : List V) (x36 : Int) (h : AH) (n : Kn) (ee : Ke) (r : Kn) : runL (cfgS e) lv 22 e.F (peel 2 (cP [2, 5, 1] B)).1 (mkT K6 (x34, x35, x36, ())) h n ee r = c4 e (fun t h => n (mkT K6 t) h) (x34, x35, x36, ()) h := by kernel_rfl
noncomputable def r4 (e : Cx) (Jn : P6 → AH → Res) (J0 : P15 → AH → Res) (Jr : PR → AH → Res) : P6 → AH → Res
| (x34, x35, x36, _), h =>
  c4 e (r6 e Jn J0 Jr) (x34, x35, x36, ()) h
theorem r4_eq (e : Cx) (Jn : P6 → AH → Res) (J0 : P15 → AH → Res) (Jr : PR → AH → Res) : ∀ t h, exL (cfgS e) lv 22 e.F (cP [2, 5] B) (mkT K6 t) h (jk K6 Jn) (exK [(0, (jk K15 J0))]) (jk KR Jr) = r4 e Jn J0 Jr t h
| (x34, x35, x36, _), h => (nd_norm' (X := (cP [2, 5] B)) (a := cP [2, 5, 0] B) (b := cP [2, 6] B) (L := K6) (by kernel_rfl) (by kernel_rfl) (by kernel_rfl) (SB := (r6 e Jn J0 Jr)) (r6_eq e Jn J0 Jr) _ _).trans (nd_block' (X := cP [2, 5, 0] B) (id := 1) (b := cP [2, 5, 1] B) (by kernel_rfl) (nd_chain' (X := cP [2, 5, 1] B) (Y := .skip) 2 (L := K6) (S := fun J => c4 e J (x34, x35, x36, ()) h) (Q := (r6 e Jn J0 Jr)) (by kernel_rfl) (fun n => c4_eq e x34 x35 x36 h n (exK [(1, (jk K6 (r6 e Jn J0 Jr))), (0, (jk K15 J0))]) (jk KR Jr)) (fun t h => by kernel_rfl)))
noncomputable def k3 (e : Cx) (Jn : P6 → AH → Res) (J0 : P15 → AH → Res) (Jr : PR → AH → Res) : P8 → AH → Res
| (x30, x31, x32, x33, _), h =>
  bif x33 then (r4 e Jn J0 Jr) (x30, x31, x32, ()) h else J0 (x30, ()) h
theorem k3_eq (e : Cx) (Jn : P6 → AH → Res) (J0 : P15 → AH → Res) (Jr : PR → AH → Res) : ∀ t h, exL (cfgS e) lv 22 e.F (cP [2, 4] B) (mkT K8 t) h (jk K6 Jn) (exK [(0, (jk K15 J0))]) (jk KR Jr) = k3 e Jn J0 Jr t h
| (x30, x31, x32, x33, _), h => (nd_norm' (X := (cP [2, 4] B)) (a := cP [2, 4, 0] B) (b := cP [2, 5] B) (L := K6) (by kernel_rfl) (by kernel_rfl) (by kernel_rfl) (SB := (r4 e Jn J0 Jr)) (r4_eq e Jn J0 Jr) _ _).trans (nd_cond' (X := cP [2, 4, 0] B) (a := cP [2, 4, 0, 0] B) (b := cP [2, 4, 1] B) (t := x33) (x := .tmp 8) (by kernel_rfl) (by kernel_rfl) (by kernel_rfl) (by kernel_rfl))
noncomputable def l3 (e : Cx) (Jn : P6 → AH → Res) (J0 : P15 → AH → Res) (Jr : PR → AH → Res) : P6 → AH → Res
| (x22, x23, x24, _), h =>
  c3 e (k3 e Jn J0 Jr) (x22, x23, x24, ()) h
theorem l3_eq (e : Cx) (Jn : P6 → AH → Res) (J0 : P15 → AH → Res) (Jr : PR → AH → Res) : ∀ t h, exL (cfgS e) lv 22 e.F (cP [2, 3] B) (mkT K6 t) h (jk K6 Jn) (exK [(0, (jk K15 J0))]) (jk KR Jr) = l3 e Jn J0 Jr t h
| (x22, x23, x24, _), h => nd_chain' (X := cP [2, 3] B) (Y := (cP [2, 4] B)) 1 (L := K8) (S := fun J => c3 e J (x22, x23, x24, ()) h) (Q := (k3 e Jn J0 Jr)) (by kernel_rfl) (fun n => c3_eq e x22 x23 x24 h n (exK [(0, (jk K15 J0))]) (jk KR Jr)) (k3_eq e Jn J0 Jr)
noncomputable def k2 (e : Cx) (Jn : P15 → AH → Res) (Jr : PR → AH → Res) : P6 → AH → Res
| (x19, x20, x21, _), h =>
  loopN (P6) e.F (fun t h n => l3 e n Jn Jr t h) (x19, x20, x21, ()) h
theorem k2_eq (e : Cx) (Jn : P15 → AH → Res) (Jr : PR → AH → Res) : ∀ t h, exL (cfgS e) lv 22 e.F (cP [2, 1] B) (mkT K6 t) h (jk K15 Jn) (exK []) (jk KR Jr) = k2 e Jn Jr t h
| (x19, x20, x21, _), h => nd_block' (X := cP [2, 1] B) (id := 0) (b := cP [2, 2] B) (by kernel_rfl) ((nd_loop' (X := cP [2, 2] B) (b := cP [2, 3] B) (L := K6) (by kernel_rfl) (by kernel_rfl) (SB := fun n => l3 e n Jn Jr) (fun n => l3_eq e n Jn Jr) _ _).trans (by kernel_rfl))
noncomputable def k1 (e : Cx) (Jn : PR → AH → Res) (Jr : PR → AH → Res) : P4 → AH → Res
| (x6, x7, _), h =>
  c2 e (k2 e (r7 e Jn Jr) Jr) (x6, x7, ()) h
theorem k1_eq (e : Cx) (Jn : PR → AH → Res) (Jr : PR → AH → Res) : ∀ t h, exL (cfgS e) lv 22 e.F (cP [2] B) (mkT K4 t) h (jk KR Jn) (exK []) (jk KR Jr) = k1 e Jn Jr t h
| (x6, x7, _), h => (nd_norm' (X := (cP [2] B)) (a := cP [2, 0] B) (b := cP [3] B) (L := K15) (by kernel_rfl) (by kernel_rfl) (by kernel_rfl) (SB := (r7 e Jn Jr)) (r7_eq e Jn Jr) _ _).trans (nd_chain' (X := cP [2, 0] B) (Y := (cP [2, 1] B)) 1 (L := K6) (S := fun J => c2 e J (x6, x7, ()) h) (Q := (k2 e (r7 e Jn Jr) Jr)) (by kernel_rfl) (fun n => c2_eq e x6 x7 h n (exK []) (jk KR Jr)) (k2_eq e (r7 e Jn Jr) Jr))
noncomputable def fn (e : Cx) (a0 : List V) (h : AH) : Res :=
  c0 e (k1 e ret ret) (a0, ()) h
theorem run (e : Cx) (a0 : List V) (h : AH) : execFn (cfgS e) (foLive lv) e.F n_r01_Hex [(.agg a0)] h = fn e a0 h := by
  refine (fn_eq (c := cfgS e) (lv := lv) (PP.funcs.getD 22 default) B (by kernel_rfl) (by kernel_rfl) (Nat.le_of_ble_eq_true (by kernel_rfl))).trans ?_
  rw [ret_eq]
  exact nd_chain' (X := cP [0] B) (Y := (cP [2] B)) 2 (L := K4) (S := fun J => c0 e J (a0, ()) h) (Q := (k1 e ret ret)) (by kernel_rfl) (fun n => c0_eq e a0 h n (exK []) (jk KR ret)) (k1_eq e ret ret)
end r01_Hex
/-! codicil/sha.Compare -/
namespace sha_Compare
noncomputable def B : Code := cBody (PP.funcs.getD 23 default)
abbrev K2 : Slots := [(2, .any), (3, .any)]
abbrev P2 := V × V × Unit
abbrev K4 : Slots := [(4, .int .i64)]
abbrev P4 := Int × Unit
def lv : Nat → Option Slots := fun k =>
  bif Nat.beq k 2 then some K2 else bif Nat.beq k 4 then some K4 else none
abbrev KR : Slots := [(4, .any)]
abbrev PR := V × Unit
noncomputable def ret : PR → AH → Res
| (x4, _), h => finW [some x4] h
theorem ret_eq (e : Cx) : fin (cfgS e) (foLive lv) (PP.funcs.getD 23 default) = jk KR ret := by kernel_rfl
noncomputable def c0 (e : Cx) (J : P4 → AH → Res) : List V × List V × Unit → AH → Res
| (a0, a1, _), h =>
  cV (absBox T_api_Id (.agg a0) h) fun x1 h2 =>
  cV (absBox T_api_Id (.agg a1) h2) fun x3 h4 =>
  bV (slA 32 1 x1 none none none h4) h4 fun x5 h6 =>
  bV (slA 32 1 x3 none none none h6) h6 fun x7 h8 =>
  cI .i64 (e.C n_bytes_Compare [x5, x7] h8) fun x9 h10 =>
  J (x9, ()) h10
theorem c0_eq (e : Cx) (a0 : List V) (a1 : List V) (h : AH) (n : Kn) (ee : Ke) (r : Kn) : runL (cfgS e) lv 8 e.F (peel 2 (cP [0] B)).1 (iniT [(.agg a0), (.agg a1)] 0 .leaf) h n ee r = c0 e (fun t h => n (mkT K4 t) h) (a0, a1, ()) h := by kernel_rfl
noncomputable def fn (e : Cx) (a0 : List V) (a1 : List V) (h : AH) : Res :=
  c0 e (fun | (x11, _), h12 => ret ((.int .i64 x11), ()) h12) (a0, a1, ()) h
theorem run (e : Cx) (a0 : List V) (a1 : List V) (h : AH) : execFn (cfgS e) (foLive lv) e.F n_sha_Compare [(.agg a0), (.agg a1)] h = fn e a0 a1 h := by
  refine (fn_eq (c := cfgS e) (lv := lv) (PP.funcs.getD 23 default) B (by kernel_rfl) (by kernel_rfl) (Nat.le_of_ble_eq_true (by kernel_rfl))).trans ?_
  rw [ret_eq]
  exact nd_chain' (X := cP [0] B) (Y := (cP [2] B)) 2 (L := K4) (S := fun J => c0 e J (a0, a1, ()) h) (Q := fun | (x11, _), h12 => ret ((.int .i64 x11), ()) h12) (by kernel_rfl) (fun n => c0_eq e a0 a1 h n (exK []) (jk KR ret)) (fun | (x11, _), h12 => by kernel_rfl)
end sha_Compare
/-! codicil/codicilref01.Compare -/
namespace r01_Compare
noncomputable def B : Code := cBody (PP.funcs.getD 24 default)
abbrev K2 : Slots := [(2, .any), (3, .any)]
abbrev P2 := V × V × Unit
abbrev K4 : Slots := [(2, .any), (3, .any), (6, .int .i64)]
abbrev P4 := V × V × Int × Unit
abbrev K6 : Slots := [(2, .any), (3, .any), (6, .int .i64), (7, .bool)]
abbrev P6 := V × V × Int × Bool × Unit
abbrev K8 : Slots := [(2, .any), (3, .any), (5, .int .i64), (6, .int .i64)]
abbrev P8 := V × V × Int × Int × Unit
abbrev K10 : Slots := [(2, .any), (3, .any), (5, .int .i64), (6, .int .i64), (15, .bool)]
abbrev P10 := V × V × Int × Int × Bool × Unit
abbrev K12 : Slots := [(4, .int .i64)]
abbrev P12 := Int × Unit
abbrev K14 : Slots := [(2, .any), (3, .any), (6, .int .i64), (22, .bool)]
abbrev P14 := V × V × Int × Bool × Unit
abbrev K19 : Slots := []
abbrev P19 := Unit
def lv : Nat → Option Slots := fun k =>
  bif Nat.beq k 2 then some K2 else bif Nat.beq k 4 then some K4 else bif Nat.beq k 6 then some K6 else bif Nat.beq k 7 then some K4 else bif Nat.beq k 8 then some K8 else bif Nat.beq k 10 then some K10 else bif Nat.beq k 12 then some K12 else bif Nat.beq k 13 then some K8 else bif Nat.beq k 14 then some K14 else bif Nat.beq k 16 then some K12 else bif Nat.beq k 17 then some K4 else bif Nat.beq k 18 then some K4 else bif Nat.beq k 5 then some K4 else bif Nat.beq k 19 then some K19 else bif Nat.beq k 20 then some K12 else none
abbrev KR : Slots := [(4, .any)]
abbrev PR := V × Unit
noncomputable def ret : PR → AH → Res
| (x4, _), h => finW [some x4] h
theorem ret_eq (e : Cx) : fin (cfgS e) (foLive lv) (PP.funcs.getD 24 default) = jk KR ret := by kernel_rfl
noncomputable def c0 (e : Cx) (J : P2 → AH → Res) : List V × List V × Unit → AH → Res
| (a0, a1, _), h =>
  cV (absBox T_api_Id (.agg a0) h) fun x1 h2 =>
  cV (absBox T_api_Id (.agg a1) h2) fun x3 h4 =>
  J (x1, x3, ()) h4
theorem c0_eq (e : Cx) (a0 : List V) (a1 : List V) (h : AH) (n : Kn) (ee : Ke) (r : Kn) : runL (cfgS e) lv 24 e.F (peel 1 (cP [0] B)).1 (iniT [(.agg a0), (.agg a1)] 0 .leaf) h n ee r = c0 e (fun t h => n (mkT K2 t) h) (a0, a1, ()) h := by kernel_rfl
noncomputable def c9 (e : Cx) (J : P12 → AH → Res) : P19 → AH → Res
| (_), h =>
  J (0, ()) h
theorem c9_eq (e : Cx) (h : AH) (n : Kn) (ee : Ke) (r : Kn) : runL (cfgS e) lv 24 e.F (peel 1 (cP [2] B)).1 (mkT K19 (())) h n ee r = c9 e (fun t h => n (mkT K12 t) h) (()) h := by kernel_rfl
noncomputable def r9 (e : Cx) (Jn : PR → AH → Res) (Jr : PR → AH → Res) : P19 → AH → Res
| (_), h =>
  c9 e (fun | (x10, _), h11 => Jr ((.int .i64 x10), ()) h11) (()) h
theorem r9_eq (e : Cx) (Jn : PR → AH → Res) (Jr : PR → AH → Res) : ∀ t h, exL (cfgS e) lv 24 e.F (cP [2] B) (mkT K19 t) h (jk KR Jn) (exK []) (jk KR Jr) = r9 e Jn Jr t h
| (_), h => nd_chain' (X := cP [2] B) (Y := (cP [3] B)) 1 (L := K12) (S := fun J => c9 e J (()) h) (Q := fun | (x10, _), h11 => Jr ((.int .i64 x10), ()) h11) (by kernel_rfl) (fun n => c9_eq e h n (exK []) (jk KR Jr)) (fun | (x10, _), h11 => by kernel_rfl)
noncomputable def c1 (e : Cx) (J : P4 → AH → Res) : P2 → AH → Res
| (x8, x9, _), h =>
  J (x8, x9, 0, ()) h
theorem c1_eq (e : Cx) (x8 : V) (x9 : V) (h : AH) (n : Kn) (ee : Ke) (r : Kn) : runL (cfgS e) lv 24 e.F (peel 1 (cP [1, 0] B)).1 (mkT K2 (x8, x9, ())) h n ee r = c1 e (fun t h => n (mkT K4 t) h) (x8, x9, ()) h := by kernel_rfl
noncomputable def c2 (e : Cx) (J : P6 → AH → Res) : P4 → AH → Res
| (x19, x20, x21, _), h =>
  J (x19, x20, x21, (decide (x21 < 32)), ()) h
theorem c2_eq (e : Cx) (x19 : V) (x20 : V) (x21 : Int) (h : AH) (n : Kn) (ee : Ke) (r : Kn) : runL (cfgS e) lv 24 e.F (peel 1 (cP [1, 3] B)).1 (mkT K4 (x19, x20, x21, ())) h n ee r = c2 e (fun t h => n (mkT K6 t) h) (x19, x20, x21, ()) h := by kernel_rfl
noncomputable def c8 (e : Cx) (J : P4 → AH → Res) : P4 → AH → Res
| (x34, x35, x36, _), h =>
  J (x34, x35, (wr .i64 (x36 + 1)), ()) h
theorem c8_eq (e : Cx) (x34 : V) (x35 : V) (x36 : Int) (h : AH) (n : Kn) (ee : Ke) (r : Kn) : runL (cfgS e) lv 24 e.F (peel 1 (cP [1, 6] B)).1 (mkT K4 (x34, x35, x36, ())) h n ee r = c8 e (fun t h => n (mkT K4 t) h) (x34, x35, x36, ()) h := by kernel_rfl
noncomputable def r8 (e : Cx) (Jn : P4 → AH → Res) (J0 : P19 → AH → Res) (Jr : PR → AH → Res) : P4 → AH → Res
| (x34, x35, x36, _), h =>
  c8 e Jn (x34, x35, x36, ()) h
theorem r8_eq (e : Cx) (Jn : P4 → AH → Res) (J0 : P19 → AH → Res) (Jr : PR → AH → Res) : ∀ t h, exL (cfgS e) lv 24 e.F (cP [1, 6] B) (mkT K4 t) h (jk K4 Jn) (exK [(0, (jk K19 J0))]) (jk KR Jr) = r8 e Jn J0 Jr t h
| (x34, x35, x36, _), h => nd_chain' (X := cP [1, 6] B) (Y := .skip) 1 (L := K4) (S := fun J => c8 e J (x34, x35, x36, ()) h) (Q := Jn) (by kernel_rfl) (fun n => c8_eq e x34 x35 x36 h n (exK [(0, (jk K19 J0))]) (jk KR Jr)) (fun t h => by kernel_rfl)
noncomputable def c3 (e : Cx) (J : P8 → AH → Res) : P4 → AH → Res
| (x31, x32, x33, _), h =>
  J (x31, x32, x33, x33, ()) h
theorem c3_eq (e : Cx) (x31 : V) (x32 : V) (x33 : Int) (h : AH) (n : Kn) (ee : Ke) (r : Kn) : runL (cfgS e) lv 24 e.F (peel 1 (cP [1, 5, 1] B)).1 (mkT K4 (x31, x32, x33, ())) h n ee r = c3 e (fun t h => n (mkT K8 t) h) (x31, x32, x33, ()) h := by kernel_rfl
noncomputable def c6 (e : Cx) (J : P14 → AH → Res) : P8 → AH → Res
| (x50, x51, x52, x53, _), h =>
  bV (ixA 32 1 x50 x52) h fun x54 h55 =>
  bI .u8 (ld x54 h55) h55 fun x56 h57 =>
  bV (ixA 32 1 x51 x52) h57 fun x58 h59 =>
  bI .u8 (ld x58 h59) h59 fun x60 h61 =>
  J (x50, x51, x53, (decide (x56 > x60)), ()) h61
theorem c6_eq (e : Cx) (x50 : V) (x51 : V) (x52 : Int) (x53 : Int) (h : AH) (n : Kn) (ee : Ke) (r : Kn) : runL (cfgS e) lv 24 e.F (peel 1 (cP [1, 5, 3] B)).1 (mkT K8 (x50, x51, x52, x53, ())) h n ee r = c6 e (fun t h => n (mkT K14 t) h) (x50, x51, x52, x53, ()) h := by kernel_rfl
noncomputable def c7 (e : Cx) (J : P12 → AH → Res) : P14 → AH → Res
| (x67, x68, x69, x70, _), h =>
  J (1, ()) h
theorem c7_eq (e : Cx) (x67 : V) (x68 : V) (x69 : Int) (x70 : Bool) (h : AH) (n : Kn) (ee : Ke) (r : Kn) : runL (cfgS e) lv 24 e.F (peel 1 (cP [1, 5, 4, 0] B)).1 (mkT K14 (x67, x68, x69, x70, ())) h n ee r = c7 e (fun t h => n (mkT K12 t) h) (x67, x68, x69, x70, ()) h := by kernel_rfl
noncomputable def k6 (e : Cx) (Jn : P4 → AH → Res) (J1 : P4 → AH → Res) (J0 : P19 → AH → Res) (Jr : PR → AH → Res) : P14 → AH → Res
| (x67, x68, x69, x70, _), h =>
  bif x70 then c7 e (fun | (x71, _), h72 => Jr ((.int .i64 x71), ()) h72) (x67, x68, x69, x70, ()) h else Jn (x67, x68, x69, ()) h
theorem k6_eq (e : Cx) (Jn : P4 → AH → Res) (J1 : P4 → AH → Res) (J0 : P19 → AH → Res) (Jr : PR → AH → Res) : ∀ t h, exL (cfgS e) lv 24 e.F (cP [1, 5, 4] B) (mkT K14 t) h (jk K4 Jn) (exK [(1, (jk K4 J1)), (0, (jk K19 J0))]) (jk KR Jr) = k6 e Jn J1 J0 Jr t h
| (x67, x68, x69, x70, _), h => nd_cond' (X := cP [1, 5, 4] B) (a := cP [1, 5, 4, 0] B) (b := cP [1, 5, 5] B) (t := x70) (x := .tmp 22) (by kernel_rfl) (by kernel_rfl) (nd_chain' (X := cP [1, 5, 4, 0] B) (Y := (cP [1, 5, 4, 1] B)) 1 (L := K12) (S := fun J => c7 e J (x67, x68, x69, x70, ()) h) (Q := fun | (x71, _), h72 => Jr ((.int .i64 x71), ()) h72) (by kernel_rfl) (fun n => c7_eq e x67 x68 x69 x70 h n (exK [(1, (jk K4 J1)), (0, (jk K19 J0))]) (jk KR Jr)) (fun | (x71, _), h72 => by kernel_rfl)) (by kernel_rfl)
noncomputable def r6 (e : Cx) (Jn : P4 → AH → Res) (J1 : P4 → AH → Res) (J0 : P19 → AH → Res) (Jr : PR → AH → Res) : P8 → AH → Res
| (x50, x51, x52, x53, _), h =>
  c6 e (k6 e Jn J1 J0 Jr) (x50, x51, x52, x53, ()) h
theorem r6_eq (e : Cx) (Jn : P4 → AH → Res) (J1 : P4 → AH → Res) (J0 : P19 → AH → Res) (Jr : PR → AH → Res) : ∀ t h, exL (cfgS e) lv 24 e.F (cP [1, 5, 3] B) (mkT K8 t) h (jk K4 Jn) (exK [(1, (jk K4 J1)), (0, (jk K19 J0))]) (jk KR Jr) = r6 e Jn J1 J0 Jr t h
| (x50, x51, x52, x53, _), h => nd_chain' (X := cP [1, 5, 3] B) (Y := (cP [1, 5, 4] B)) 1 (L := K14) (S := fun J => c6 e J (x50, x51, x52, x53, ()) h) (Q := (k6 e Jn J1 J0 Jr)) (by kernel_rfl) (fun n => c6_eq e x50 x51 x52 x53 h n (exK [(1, (jk K4 J1)), (0, (jk K19 J0))]) (jk KR Jr)) (k6_eq e Jn J1 J0 Jr)
noncomputable def c4 (e : Cx) (J : P10 → AH → Res) : P8 → AH → Res
| (x46, x47, x48, x49, _), h =>
  bV (ixA 32 1 x46 x48) h fun x73 h74 =>
  bI .u8 (ld x73 h74) h74 fun x75 h76 =>
  bV (ixA 32 1 x47 x48) h76 fun x77 h78 =>
  bI .u8 (ld x77 h78) h78 fun x79 h80 =>
  J (x46, x47, x48, x49, (decide (x75 < x79)), ()) h80
theorem c4_eq (e : Cx) (x46 : V) (x47 : V) (x48 : Int) (x49 : Int) (h : AH) (n : Kn) (ee : Ke) (r : Kn) : runL (cfgS e) lv 24 e.F (peel 1 (cP [1, 5, 2, 0] B)).1 (mkT K8 (x46, x47, x48, x49, ())) h n ee r = c4 e (fun t h => n (mkT K10 t) h) (x46, x47, x48, x49, ()) h := by kernel_rfl
noncomputable def c5 (e : Cx) (J : P12 → AH → Res) : P10 → AH → Res
| (x87, x88, x89, x90, x91, _), h =>
  J ((-1), ()) h
theorem c5_eq (e : Cx) (x87 : V) (x88 : V) (x89 : Int) (x90 : Int) (x91 : Bool) (h : AH) (n : Kn) (ee : Ke) (r : Kn) : runL (cfgS e) lv 24 e.F (peel 1 (cP [1, 5, 2, 1, 0] B)).1 (mkT K10 (x87, x88, x89, x90, x91, ())) h n ee r = c5 e (fun t h => n (mkT K12 t) h) (x87, x88, x89, x90, x91, ()) h := by kernel_rfl
noncomputable def k4 (e : Cx) (Jn : P8 → AH → Res) (J1 : P4 → AH → Res) (J0 : P19 → AH → Res) (Jr : PR → AH → Res) : P10 → AH → Res
| (x87, x88, x89, x90, x91, _), h =>
  bif x91 then c5 e (fun | (x92, _), h93 => Jr ((.int .i64 x92), ()) h93) (x87, x88, x89, x90, x91, ()) h else Jn (x87, x88, x89, x90, ()) h
theorem k4_eq (e : Cx) (Jn : P8 → AH → Res) (J1 : P4 → AH → Res) (J0 : P19 → AH → Res) (Jr : PR → AH → Res) : ∀ t h, exL (cfgS e) lv 24 e.F (cP [1, 5, 2, 1] B) (mkT K10 t) h (jk K8 Jn) (exK [(1, (jk K4 J1)), (0, (jk K19 J0))]) (jk KR Jr) = k4 e Jn J1 J0 Jr t h
| (x87, x88, x89, x90, x91, _), h => nd_cond' (X := cP [1, 5, 2, 1] B) (a := cP [1, 5, 2, 1, 0] B) (b := cP [1, 5, 2, 2] B) (t := x91) (x := .tmp 15) (by kernel_rfl) (by kernel_rfl) (nd_chain' (X := cP [1, 5, 2, 1, 0] B) (Y := (cP [1, 5, 2, 1, 1] B)) 1 (L := K12) (S := fun J => c5 e J (x87, x88, x89, x90, x91, ()) h) (Q := fun | (x92, _), h93 => Jr ((.int .i64 x92), ()) h93) (by kernel_rfl) (fun n => c5_eq e x87 x88 x89 x90 x91 h n (exK [(1, (jk K4 J1)), (0, (jk K19 J0))]) (jk KR Jr)) (fun | (x92, _), h93 => by kernel_rfl)) (by kernel_rfl)
noncomputable def k3 (e : Cx) (Jn : P4 → AH → Res) (J1 : P4 → AH → Res) (J0 : P19 → AH → Res) (Jr : PR → AH → Res) : P8 → AH → Res
| (x46, x47, x48, x49, _), h =>
  c4 e (k4 e (r6 e Jn J1 J0 Jr) J1 J0 Jr) (x46, x47, x48, x49, ()) h
theorem k3_eq (e : Cx) (Jn : P4 → AH → Res) (J1 : P4 → AH → Res) (J0 : P19 → AH → Res) (Jr : PR → AH → Res) : ∀ t h, exL (cfgS e) lv 24 e.F (cP [1, 5, 2] B) (mkT K8 t) h (jk K4 Jn) (exK [(1, (jk K4 J1)), (0, (jk K19 J0))]) (jk KR Jr) = k3 e Jn J1 J0 Jr t h
| (x46, x47, x48, x49, _), h => (nd_norm' (X := (cP [1, 5, 2] B)) (a := cP [1, 5, 2, 0] B) (b := cP [1, 5, 3] B) (L := K8) (by kernel_rfl) (by kernel_rfl) (by kernel_rfl) (SB := (r6 e Jn J1 J0 Jr)) (r6_eq e Jn J1 J0 Jr) _ _).trans (nd_chain' (X := cP [1, 5, 2, 0] B) (Y := (cP [1, 5, 2, 1] B)) 1 (L := K10) (S := fun J => c4 e J (x46, x47, x48, x49, ()) h) (Q := (k4 e (r6 e Jn J1 J0 Jr) J1 J0 Jr)) (by kernel_rfl) (fun n => c4_eq e x46 x47 x48 x49 h n (exK [(1, (jk K4 J1)), (0, (jk K19 J0))]) (jk KR Jr)) (k4_eq e (r6 e Jn J1 J0 Jr) J1 J0 Jr))
noncomputable def r3 (e : Cx) (Jn : P4 → AH → Res) (J0 : P19 → AH → Res) (Jr : PR → AH → Res) : P4 → AH → Res
| (x31, x32, x33, _), h =>
  c3 e (k3 e (r8 e Jn J0 Jr) (r8 e Jn J0 Jr) J0 Jr) (x31, x32, x33, ()) h
theorem r3_eq (e : Cx) (Jn : P4 → AH → Res) (J0 : P19 → AH → Res) (Jr : PR → AH → Res) : ∀ t h, exL (cfgS e) lv 24 e.F (cP [1, 5] B) (mkT K4 t) h (jk K4 Jn) (exK [(0, (jk K19 J0))]) (jk KR Jr) = r3 e Jn J0 Jr t h
| (x31, x32, x33, _), h => (nd_norm' (X := (cP [1, 5] B)) (a := cP [1, 5, 0] B) (b := cP [1, 6] B) (L := K4) (by kernel_rfl) (by kernel_rfl) (by kernel_rfl) (SB := (r8 e Jn J0 Jr)) (r8_eq e Jn J0 Jr) _ _).trans (nd_block' (X := cP [1, 5, 0] B) (id := 1) (b := cP [1, 5, 1] B) (by kernel_rfl) (nd_chain' (X := cP [1, 5, 1] B) (Y := (cP [1, 5, 2] B)) 1 (L := K8) (S := fun J => c3 e J (x31, x32, x33, ()) h) (Q := (k3 e (r8 e Jn J0 Jr) (r8 e Jn J0 Jr) J0 Jr)) (by kernel_rfl) (fun n => c3_eq e x31 x32 x33 h n (exK [(1, (jk K4 (r8 e Jn J0 Jr))), (0, (jk K19 J0))]) (jk KR Jr)) (k3_eq e (r8 e Jn J0 Jr) (r8 e Jn J0 Jr) J0 Jr)))
noncomputable def k2 (e : Cx) (Jn : P4 → AH → Res) (J0 : P19 → AH → Res) (Jr : PR → AH → Res) : P6 → AH → Res
| (x27, x28, x29, x30, _), h =>
  bif x30 then (r3 e Jn J0 Jr) (x27, x28, x29, ()) h else J0 (()) h
theorem k2_eq (e : Cx) (Jn : P4 → AH → Res) (J0 : P19 → AH → Res) (Jr : PR → AH → Res) : ∀ t h, exL (cfgS e) lv 24 e.F (cP [1, 4] B) (mkT K6 t) h (jk K4 Jn) (exK [(0, (jk K19 J0))]) (jk KR Jr) = k2 e Jn J0 Jr t h
| (x27, x28, x29, x30, _), h => (nd_norm' (X := (cP [1, 4] B)) (a := cP [1, 4, 0] B) (b := cP [1, 5] B) (L := K4) (by kernel_rfl) (by kernel_rfl) (by kernel_rfl) (SB := (r3 e Jn J0 Jr)) (r3_eq e Jn J0 Jr) _ _).trans (nd_cond' (X := cP [1, 4, 0] B) (a := cP [1, 4, 0, 0] B) (b := cP [1, 4, 1] B) (t := x30) (x := .tmp 7) (by kernel_rfl) (by kernel_rfl) (by kernel_rfl) (by kernel_rfl))
noncomputable def l2 (e : Cx) (Jn : P4 → AH → Res) (J0 : P19 → AH → Res) (Jr : PR → AH → Res) : P4 → AH → Res
| (x19, x20, x21, _), h =>
  c2 e (k2 e Jn J0 Jr) (x19, x20, x21, ()) h
theorem l2_eq (e : Cx) (Jn : P4 → AH → Res) (J0 : P19 → AH → Res) (Jr : PR → AH → Res) : ∀ t h, exL (cfgS e) lv 24 e.F (cP [1, 3] B) (mkT K4 t) h (jk K4 Jn) (exK [(0, (jk K19 J0))]) (jk KR Jr) = l2 e Jn J0 Jr t h
| (x19, x20, x21, _), h => nd_chain' (X := cP [1, 3] B) (Y := (cP [1, 4] B)) 1 (L := K6) (S := fun J => c2 e J (x19, x20, x21, ()) h) (Q := (k2 e Jn J0 Jr)) (by kernel_rfl) (fun n => c2_eq e x19 x20 x21 h n (exK [(0, (jk K19 J0))]) (jk KR Jr)) (k2_eq e Jn J0 Jr)
noncomputable def k1 (e : Cx) (Jn : P19 → AH → Res) (Jr : PR → AH → Res) : P4 → AH → Res
| (x16, x17, x18, _), h =>
  loopN (P4) e.F (fun t h n => l2 e n Jn Jr t h) (x16, x17, x18, ()) h
theorem k1_eq (e : Cx) (Jn : P19 → AH → Res) (Jr : PR → AH → Res) : ∀ t h, exL (cfgS e) lv 24 e.F (cP [1, 1] B) (mkT K4 t) h (jk K19 Jn) (exK []) (jk KR Jr) = k1 e Jn Jr t h
| (x16, x17, x18, _), h => nd_block' (X := cP [1, 1] B) (id := 0) (b := cP [1, 2] B) (by kernel_rfl) ((nd_loop' (X := cP [1, 2] B) (b := cP [1, 3] B) (L := K4) (by kernel_rfl) (by kernel_rfl) (SB := fun n => l2 e n Jn Jr) (fun n => l2_eq e n Jn Jr) _ _).trans (by kernel_rfl))
noncomputable def k0 (e : Cx) (Jn : PR → AH → Res) (Jr : PR → AH → Res) : P2 → AH → Res
| (x8, x9, _), h =>
  c1 e (k1 e (r9 e Jn Jr) Jr) (x8, x9, ()) h
theorem k0_eq (e : Cx) (Jn : PR → AH → Res) (Jr : PR → AH → Res) : ∀ t h, exL (cfgS e) lv 24 e.F (cP [1] B) (mkT K2 t) h (jk KR Jn) (exK []) (jk KR Jr) = k0 e Jn Jr t h
| (x8, x9, _), h => (nd_norm' (X := (cP [1] B)) (a := cP [1, 0] B) (b := cP [2] B) (L := K19) (by kernel_rfl) (by kernel_rfl) (by kernel_rfl) (SB := (r9 e Jn Jr)) (r9_eq e Jn Jr) _ _).trans (nd_chain' (X := cP [1, 0] B) (Y := (cP [1, 1] B)) 1 (L := K4) (S := fun J => c1 e J (x8, x9, ()) h) (Q := (k1 e (r9 e Jn Jr) Jr)) (by kernel_rfl) (fun n => c1_eq e x8 x9 h n (exK []) (jk KR Jr)) (k1_eq e (r9 e Jn Jr) Jr))
noncomputable def fn (e : Cx) (a0 : List V) (a1 : List V) (h : AH) : Res :=
  c0 e (k0 e ret ret) (a0, a1, ()) h
theorem run (e : Cx) (a0 : List V) (a1 : List V) (h : AH) : execFn (cfgS e) (foLive lv) e.F n_r01_Compare [(.agg a0), (.agg a1)] h = fn e a0 a1 h := by
  refine (fn_eq (c := cfgS e) (lv := lv) (PP.funcs.getD 24 default) B (by kernel_rfl) (by kernel_rfl) (Nat.le_of_ble_eq_true (by kernel_rfl))).trans ?_
  rw [ret_eq]
  exact nd_chain' (X := cP [0] B) (Y := (cP [1] B)) 1 (L := K2) (S := fun J => c0 e J (a0, a1, ()) h) (Q := (k0 e ret ret)) (by kernel_rfl) (fun n => c0_eq e a0 a1 h n (exK []) (jk KR ret)) (k0_eq e ret ret)
end r01_Compare
/-! math/bits.RotateLeft32 -/
namespace math_bits_RotateLeft32
noncomputable def B : Code := cBody (PP.funcs.getD 25 default)
abbrev K2 : Slots := [(0, .int .u32), (1, .int .i64)]
abbrev P2 := Int × Int × Unit
abbrev K4 : Slots := [(0, .int .u32), (5, .int .u64)]
abbrev P4 := Int × Int × Unit
abbrev K6 : Slots := [(4, .int .u32)]
abbrev P6 := Int × Unit
def lv : Nat → Option Slots := fun k =>
  bif Nat.beq k 2 then some K2 else bif Nat.beq k 4 then some K4 else bif Nat.beq k 6 then some K6 else none
abbrev KR : Slots := [(4, .any)]
abbrev PR := V × Unit
noncomputable def ret : PR → AH → Res
| (x4, _), h => finW [some x4] h
theorem ret_eq (e : Cx) : fin (cfgS e) (foLive lv) (PP.funcs.getD 25 default) = jk KR ret := by kernel_rfl
noncomputable def c0 (e : Cx) (J : P6 → AH → Res) : Int × Int × Unit → AH → Res
| (a0, a1, _), h =>
  bI .u32 (if (iand .u64 (wr .u64 a1) 31) < 0 then none else some (.int .u32 (ishl .u32 a0 (iand .u64 (wr .u64 a1) 31)))) h fun x1 h2 =>
  let x3 : Int := (wr .u64 (32 - (iand .u64 (wr .u64 a1) 31)))
  bI .u32 (if x3 < 0 then none else some (.int .u32 (ishr .u32 a0 x3))) h2 fun x4 h5 =>
  J ((ior .u32 x1 x4), ()) h5
theorem c0_eq (e : Cx) (a0 : Int) (a1 : Int) (h : AH) (n : Kn) (ee : Ke) (r : Kn) : runL (cfgS e) lv 17 e.F (peel 3 (cP [0] B)).1 (iniT [(.int .u32 a0), (.int .i64 a1)] 0 .leaf) h n ee r = c0 e (fun t h => n (mkT K6 t) h) (a0, a1, ()) h := by kernel_rfl
noncomputable def fn (e : Cx) (a0 : Int) (a1 : Int) (h : AH) : Res :=
  c0 e (fun | (x6, _), h7 => ret ((.int .u32 x6), ()) h7) (a0, a1, ()) h
theorem run (e : Cx) (a0 : Int) (a1 : Int) (h : AH) : execFn (cfgS e) (foLive lv) e.F n_math_bits_RotateLeft32 [(.int .u32 a0), (.int .i64 a1)] h = fn e a0 a1 h := by
  refine (fn_eq (c := cfgS e) (lv := lv) (PP.funcs.getD 25 default) B (by kernel_rfl) (by kernel_rfl) (Nat.le_of_ble_eq_true (by kernel_rfl))).trans ?_
  rw [ret_eq]
  exact nd_chain' (X := cP [0] B) (Y := (cP [3] B)) 3 (L := K6) (S := fun J => c0 e J (a0, a1, ()) h) (Q := fun | (x6, _), h7 => ret ((.int .u32 x6), ()) h7) (by kernel_rfl) (fun n => c0_eq e a0 a1 h n (exK []) (jk KR ret)) (fun | (x6, _), h7 => by kernel_rfl)
end math_bits_RotateLeft32
/-! codicil/codicilref01.compress -/
namespace r01_compress
noncomputable def B : Code := cBody (PP.funcs.getD 26 default)
abbrev K2 : Slots := [(1, .any), (2, .any), (4, .any)]
abbrev P2 := V × V × V × Unit
abbrev K4 : Slots := [(1, .any), (2, .any), (4, .any), (5, .any)]
abbrev P4 := V × V × V × V × Unit
abbrev K6 : Slots := [(1, .any), (2, .any), (4, .any), (5, .any), (6, .int .i64)]
abbrev P6 := V × V × V × V × Int × Unit
abbrev K8 : Slots := [(1, .any), (2, .any), (4, .any), (5, .any), (6, .int .i64), (18, .bool)]
abbrev P8 := V × V × V × V × Int × Bool × Unit
abbrev K12 : Slots := [(1, .any), (2, .any), (4, .any), (5, .any), (6, .int .i64), (22, .bool)]
abbrev P12 := V × V × V × V × Int × Bool × Unit
abbrev K16 : Slots := [(1, .any), (2, .any), (4, .any), (5, .any), (6, .int .i64), (7, .int .u32)]
abbrev P16 := V × V × V × V × Int × Int × Unit
abbrev K18 : Slots := [(1, .any), (2, .any), (4, .any), (5, .any), (6, .int .i64), (7, .int .u32), (8, .int .u32)]
abbrev P18 := V × V × V × V × Int × Int × Int × Unit
abbrev K21 : Slots := [(2, .any), (4, .any), (5, .any)]
abbrev P21 := V × V × V × Unit
abbrev K22 : Slots := [(2, .any), (4, .any), (5, .any), (9, .any)]
abbrev P22 := V × V × V × V × Unit
abbrev K24 : Slots := [(2, .any), (4, .any), (5, .any), (9, .any), (10, .any)]
abbrev P24 := V × V × V × V × V × Unit
abbrev K26 : Slots := [(2, .any), (4, .any), (5, .any), (9, .any), (10, .any), (11, .int .i64)]
abbrev P26 := V × V × V × V × V × Int × Unit
abbrev K28 : Slots := [(2, .any), (4, .any), (5, .any), (9, .any), (10, .any), (11, .int .i64), (69, .bool)]
abbrev P28 := V × V × V × V × V × Int × Bool × Unit
abbrev K32 : Slots := [(2, .any), (4, .any), (5, .any), (9, .any), (10, .any), (11, .int .i64), (12, .int .u32), (13, .int .u32)]
abbrev P32 := V × V × V × V × V × Int × Int × Int × Unit
abbrev K34 : Slots := [(2, .any), (4, .any), (5, .any), (9, .any), (10, .any), (11, .int .i64), (12, .int .u32), (14, .int .u32)]
abbrev P34 := V × V × V × V × V × Int × Int × Int × Unit
abbrev K36 : Slots := [(2, .any), (4, .any), (5, .any), (9, .any), (10, .any), (11, .int .i64), (14, .int .u32), (15, .int .u32)]
abbrev P36 := V × V × V × V × V × Int × Int × Int × Unit
abbrev K39 : Slots := [(2, .any), (4, .any), (10, .any)]
abbrev P39 := V × V × V × Unit
abbrev K40 : Slots := [(2, .any), (4, .any), (10, .any), (16, .int .i64)]
abbrev P40 := V × V × V × Int × Unit
abbrev K42 : Slots := [(2, .any), (4, .any), (10, .any), (16, .int .i64), (151, .bool)]
abbrev P42 := V × V × V × Int × Bool × Unit
abbrev K47 : Slots := [(2, .any), (4, .any)]
abbrev P47 := V × V × Unit
abbrev K48 : Slots := [(4, .any)]
abbrev P48 := V × Unit
def lv : Nat → Option Slots := fun k =>
  bif Nat.beq k 2 then some K2 else bif Nat.beq k 4 then some K4 else bif Nat.beq k 6 then some K6 else bif Nat.beq k 8 then some K8 else bif Nat.beq k 11 then some K6 else bif Nat.beq k 12 then some K12 else bif Nat.beq k 14 then some K6 else bif Nat.beq k 15 then some K6 else bif Nat.beq k 16 then some K16 else bif Nat.beq k 18 then some K18 else bif Nat.beq k 20 then some K6 else bif Nat.beq k 9 then some K6 else bif Nat.beq k 10 then some K6 else bif Nat.beq k 7 then some K6 else bif Nat.beq k 21 then some K21 else bif Nat.beq k 22 then some K22 else bif Nat.beq k 24 then some K24 else bif Nat.beq k 26 then some K26 else bif Nat.beq k 28 then some K28 else bif Nat.beq k 31 then some K26 else bif Nat.beq k 32 then some K32 else bif Nat.beq k 34 then some K34 else bif Nat.beq k 36 then some K36 else bif Nat.beq k 38 then some K26 else bif Nat.beq k 29 then some K26 else bif Nat.beq k 30 then some K26 else bif Nat.beq k 27 then some K26 else bif Nat.beq k 39 then some K39 else bif Nat.beq k 40 then some K40 else bif Nat.beq k 42 then some K42 else bif Nat.beq k 45 then some K40 else bif Nat.beq k 46 then some K40 else bif Nat.beq k 43 then some K40 else bif Nat.beq k 44 then some K40 else bif Nat.beq k 41 then some K40 else bif Nat.beq k 47 then some K47 else bif Nat.beq k 48 then some K48 else none
abbrev KR : Slots := [(4, .any)]
abbrev PR := V × Unit
noncomputable def ret : P48 → AH → Res
| (x4, _), h => finW [ldA 8 x4 h] h
theorem ret_eq (e : Cx) : fin (cfgS e) (foLive lv) (PP.funcs.getD 26 default) = jk K48 ret := by kernel_rfl
noncomputable def c0 (e : Cx) (J : P4 → AH → Res) : List V × V × Unit → AH → Res
| (a0, a1, _), h =>
  cV (absBox T_a8_uint32 (.agg a0) h) fun x1 h2 =>
  let x3 := (al (List.replicate 8 (.int .u32 0)) T_a8_uint32 h2).1
  let h4 := (al (List.replicate 8 (.int .u32 0)) T_a8_uint32 h2).2
  let x5 := (al (List.replicate 64 (.int .u32 0)) T_a64_uint32 h4).1
  let h6 := (al (List.replicate 64 (.int .u32 0)) T_a64_uint32 h4).2
  J (a1, x1, x3, x5, ()) h6
theorem c0_eq (e : Cx) (a0 : List V) (a1 : V) (h : AH) (n : Kn) (ee : Ke) (r : Kn) : runL (cfgS e) lv 163 e.F (peel 2 (cP [0] B)).1 (iniT [(.agg a0), a1] 0 .leaf) h n ee r = c0 e (fun t h => n (mkT K4 t) h) (a0, a1, ()) h := by kernel_rfl
noncomputable def c10 (e : Cx) (J : P24 → AH → Res) : P21 → AH → Res
| (x16, x17, x18, _), h =>
  cA (e.C n_r01_constants [] h) fun x19 h20 =>
  let x21 := (al (List.replicate 64 (.int .u32 0)) T_a64_uint32 h20).1
  let h22 := (al (List.replicate 64 (.int .u32 0)) T_a64_uint32 h20).2
  bS (st 64 x21 (.agg x19) h22) fun h23 =>
  bA (ldA 8 x16 h23) h23 fun x24 h25 =>
  let x26 := (al (List.replicate 8 (.int .u32 0)) T_a8_uint32 h25).1
  let h27 := (al (List.replicate 8 (.int .u32 0)) T_a8_uint32 h25).2
  bS (st 8 x26 (.agg x24) h27) fun h28 =>
  J (x16, x17, x18, x21, x26, ()) h28
theorem c10_eq (e : Cx) (x16 : V) (x17 : V) (x18 : V) (h : AH) (n : Kn) (ee : Ke) (r : Kn) : runL (cfgS e) lv 163 e.F (peel 2 (cP [3] B)).1 (mkT K21 (x16, x17, x18, ())) h n ee r = c10 e (fun t h => n (mkT K24 t) h) (x16, x17, x18, ()) h := by kernel_rfl
noncomputable def c23 (e : Cx) (J : P48 → AH → Res) : P47 → AH → Res
| (x43, x44, _), h =>
  bA (ldA 8 x43 h) h fun x45 h46 =>
  bS (st 8 x44 (.agg x45) h46) fun h47 =>
  J (x44, ()) h47
theorem c23_eq (e : Cx) (x43 : V) (x44 : V) (h : AH) (n : Kn) (ee : Ke) (r : Kn) : runL (cfgS e) lv 163 e.F (peel 1 (cP [7] B)).1 (mkT K47 (x43, x44, ())) h n ee r = c23 e (fun t h => n (mkT K48 t) h) (x43, x44, ()) h := by kernel_rfl
noncomputable def r23 (e : Cx) (Jn : P48 → AH → Res) (Jr : P48 → AH → Res) : P47 → AH → Res
| (x43, x44, _), h =>
  c23 e Jr (x43, x44, ()) h
theorem r23_eq (e : Cx) (Jn : P48 → AH → Res) (Jr : P48 → AH → Res) : ∀ t h, exL (cfgS e) lv 163 e.F (cP [7] B) (mkT K47 t) h (jk K48 Jn) (exK []) (jk K48 Jr) = r23 e Jn Jr t h
| (x43, x44, _), h => nd_chain' (X := cP [7] B) (Y := (cP [8] B)) 1 (L := K48) (S := fun J => c23 e J (x43, x44, ()) h) (Q := Jr) (by kernel_rfl) (fun n => c23_eq e x43 x44 h n (exK []) (jk K48 Jr)) (fun t h => by kernel_rfl)
noncomputable def c19 (e : Cx) (J : P40 → AH → Res) : P39 → AH → Res
| (x40, x41, x42, _), h =>
  J (x40, x41, x42, 0, ()) h
theorem c19_eq (e : Cx) (x40 : V) (x41 : V) (x42 : V) (h : AH) (n : Kn) (ee : Ke) (r : Kn) : runL (cfgS e) lv 163 e.F (peel 1 (cP [6, 0] B)).1 (mkT K39 (x40, x41, x42, ())) h n ee r = c19 e (fun t h => n (mkT K40 t) h) (x40, x41, x42, ()) h := by kernel_rfl
noncomputable def c21 (e : Cx) (J : P40 → AH → Res) : P40 → AH → Res
| (x67, x68, x69, x70, _), h =>
  J (x67, x68, x69, (wr .i64 (x70 + 1)), ()) h
theorem c21_eq (e : Cx) (x67 : V) (x68 : V) (x69 : V) (x70 : Int) (h : AH) (n : Kn) (ee : Ke) (r : Kn) : runL (cfgS e) lv 163 e.F (peel 1 (cP [6, 5] B)).1 (mkT K40 (x67, x68, x69, x70, ())) h n ee r = c21 e (fun t h => n (mkT K40 t) h) (x67, x68, x69, x70, ()) h := by kernel_rfl
noncomputable def r21 (e : Cx) (Jn : P40 → AH → Res) (J4 : P47 → AH → Res) (Jr : P48 → AH → Res) : P40 → AH → Res
| (x67, x68, x69, x70, _), h =>
  c21 e Jn (x67, x68, x69, x70, ()) h
theorem r21_eq (e : Cx) (Jn : P40 → AH → Res) (J4 : P47 → AH → Res) (Jr : P48 → AH → Res) : ∀ t h, exL (cfgS e) lv 163 e.F (cP [6, 5] B) (mkT K40 t) h (jk K40 Jn) (exK [(4, (jk K47 J4))]) (jk K48 Jr) = r21 e Jn J4 Jr t h
| (x67, x68, x69, x70, _), h => nd_chain' (X := cP [6, 5] B) (Y := .skip) 1 (L := K40) (S := fun J => c21 e J (x67, x68, x69, x70, ()) h) (Q := Jn) (by kernel_rfl) (fun n => c21_eq e x67 x68 x69 x70 h n (exK [(4, (jk K47 J4))]) (jk K48 Jr)) (fun t h => by kernel_rfl)
noncomputable def c22 (e : Cx) (J : P40 → AH → Res) : P40 → AH → Res
| (x63, x64, x65, x66, _), h =>
  bV (ixA 8 1 x63 x66) h fun x76 h77 =>
  bI .u32 (ld x76 h77) h77 fun x78 h79 =>
  bV (ixA 8 1 x65 x66) h79 fun x80 h81 =>
  bI .u32 (ld x80 h81) h81 fun x82 h83 =>
  bV (ixA 8 1 x63 x66) h83 fun x84 h85 =>
  bS (st 1 x84 (.int .u32 (wr .u32 (x78 + x82))) h85) fun h86 =>
  J (x63, x64, x65, x66, ()) h86
theorem c22_eq (e : Cx) (x63 : V) (x64 : V) (x65 : V) (x66 : Int) (h : AH) (n : Kn) (ee : Ke) (r : Kn) : runL (cfgS e) lv 163 e.F (peel 1 (cP [6, 4, 1] B)).1 (mkT K40 (x63, x64, x65, x66, ())) h n ee r = c22 e (fun t h => n (mkT K40 t) h) (x63, x64, x65, x66, ()) h := by kernel_rfl
noncomputable def r22 (e : Cx) (Jn : P40 → AH → Res) (J4 : P47 → AH → Res) (Jr : P48 → AH → Res) : P40 → AH → Res
| (x63, x64, x65, x66, _), h =>
  c22 e (r21 e Jn J4 Jr) (x63, x64, x65, x66, ()) h
theorem r22_eq (e : Cx) (Jn : P40 → AH → Res) (J4 : P47 → AH → Res) (Jr : P48 → AH → Res) : ∀ t h, exL (cfgS e) lv 163 e.F (cP [6, 4] B) (mkT K40 t) h (jk K40 Jn) (exK [(4, (jk K47 J4))]) (jk K48 Jr) = r22 e Jn J4 Jr t h
| (x63, x64, x65, x66, _), h => (nd_norm' (X := (cP [6, 4] B)) (a := cP [6, 4, 0] B) (b := cP [6, 5] B) (L := K40) (by kernel_rfl) (by kernel_rfl) (by kernel_rfl) (SB := (r21 e Jn J4 Jr)) (r21_eq e Jn J4 Jr) _ _).trans (nd_block' (X := cP [6, 4, 0] B) (id := 5) (b := cP [6, 4, 1] B) (by kernel_rfl) (nd_chain' (X := cP [6, 4, 1] B) (Y := .skip) 1 (L := K40) (S := fun J => c22 e J (x63, x64, x65, x66, ()) h) (Q := (r21 e Jn J4 Jr)) (by kernel_rfl) (fun n => c22_eq e x63 x64 x65 x66 h n (exK [(5, (jk K40 (r21 e Jn J4 Jr))), (4, (jk K47 J4))]) (jk K48 Jr)) (fun t h => by kernel_rfl)))
noncomputable def c20 (e : Cx) (J : P42 → AH → Res) : P40 → AH → Res
| (x59, x60, x61, x62, _), h =>
  J (x59, x60, x61, x62, (decide (x62 < 8)), ()) h
theorem c20_eq (e : Cx) (x59 : V) (x60 : V) (x61 : V) (x62 : Int) (h : AH) (n : Kn) (ee : Ke) (r : Kn) : runL (cfgS e) lv 163 e.F (peel 1 (cP [6, 3, 0] B)).1 (mkT K40 (x59, x60, x61, x62, ())) h n ee r = c20 e (fun t h => n (mkT K42 t) h) (x59, x60, x61, x62, ()) h := by kernel_rfl
noncomputable def k20 (e : Cx) (Jn : P40 → AH → Res) (J4 : P47 → AH → Res) (Jr : P48 → AH → Res) : P42 → AH → Res
| (x98, x99, x100, x101, x102, _), h =>
  bif x102 then Jn (x98, x99, x100, x101, ()) h else J4 (x98, x99, ()) h
theorem k20_eq (e : Cx) (Jn : P40 → AH → Res) (J4 : P47 → AH → Res) (Jr : P48 → AH → Res) : ∀ t h, exL (cfgS e) lv 163 e.F (cP [6, 3, 1] B) (mkT K42 t) h (jk K40 Jn) (exK [(4, (jk K47 J4))]) (jk K48 Jr) = k20 e Jn J4 Jr t h
| (x98, x99, x100, x101, x102, _), h => nd_cond' (X := cP [6, 3, 1] B) (a := cP [6, 3, 1, 0] B) (b := cP [6, 3, 2] B) (t := x102) (x := .tmp 151) (by kernel_rfl) (by kernel_rfl) (by kernel_rfl) (by kernel_rfl)
noncomputable def l20 (e : Cx) (Jn : P40 → AH → Res) (J4 : P47 → AH → Res) (Jr : P48 → AH → Res) : P40 → AH → Res
| (x59, x60, x61, x62, _), h =>
  c20 e (k20 e (r22 e Jn J4 Jr) J4 Jr) (x59, x60, x61, x62, ()) h
theorem l20_eq (e : Cx) (Jn : P40 → AH → Res) (J4 : P47 → AH → Res) (Jr : P48 → AH → Res) : ∀ t h, exL (cfgS e) lv 163 e.F (cP [6, 3] B) (mkT K40 t) h (jk K40 Jn) (exK [(4, (jk K47 J4))]) (jk K48 Jr) = l20 e Jn J4 Jr t h
| (x59, x60, x61, x62, _), h => (nd_norm' (X := (cP [6, 3] B)) (a := cP [6, 3, 0] B) (b := cP [6, 4] B) (L := K40) (by kernel_rfl) (by kernel_rfl) (by kernel_rfl) (SB := (r22 e Jn J4 Jr)) (r22_eq e Jn J4 Jr) _ _).trans (nd_chain' (X := cP [6, 3, 0] B) (Y := (cP [6, 3, 1] B)) 1 (L := K42) (S := fun J => c20 e J (x59, x60, x61, x62, ()) h) (Q := (k20 e (r22 e Jn J4 Jr) J4 Jr)) (by kernel_rfl) (fun n => c20_eq e x59 x60 x61 x62 h n (exK [(4, (jk K47 J4))]) (jk K48 Jr)) (k20_eq e (r22 e Jn J4 Jr) J4 Jr))
noncomputable def k19 (e : Cx) (Jn : P47 → AH → Res) (Jr : P48 → AH → Res) : P40 → AH → Res
| (x55, x56, x57, x58, _), h =>
  loopN (P40) e.F (fun t h n => l20 e n Jn Jr t h) (x55, x56, x57, x58, ()) h
theorem k19_eq (e : Cx) (Jn : P47 → AH → Res) (Jr : P48 → AH → Res) : ∀ t h, exL (cfgS e) lv 163 e.F (cP [6, 1] B) (mkT K40 t) h (jk K47 Jn) (exK []) (jk K48 Jr) = k19 e Jn Jr t h
| (x55, x56, x57, x58, _), h => nd_block' (X := cP [6, 1] B) (id := 4) (b := cP [6, 2] B) (by kernel_rfl) ((nd_loop' (X := cP [6, 2] B) (b := cP [6, 3] B) (L := K40) (by kernel_rfl) (by kernel_rfl) (SB := fun n => l20 e n Jn Jr) (fun n => l20_eq e n Jn Jr) _ _).trans (by kernel_rfl))
noncomputable def r19 (e : Cx) (Jn : P48 → AH → Res) (Jr : P48 → AH → Res) : P39 → AH → Res
| (x40, x41, x42, _), h =>
  c19 e (k19 e (r23 e Jn Jr) Jr) (x40, x41, x42, ()) h
theorem r19_eq (e : Cx) (Jn : P48 → AH → Res) (Jr : P48 → AH → Res) : ∀ t h, exL (cfgS e) lv 163 e.F (cP [6] B) (mkT K39 t) h (jk K48 Jn) (exK []) (jk K48 Jr) = r19 e Jn Jr t h
| (x40, x41, x42, _), h => (nd_norm' (X := (cP [6] B)) (a := cP [6, 0] B) (b := cP [7] B) (L := K47) (by kernel_rfl) (by kernel_rfl) (by kernel_rfl) (SB := (r23 e Jn Jr)) (r23_eq e Jn Jr) _ _).trans (nd_chain' (X := cP [6, 0] B) (Y := (cP [6, 1] B)) 1 (L := K40) (S := fun J => c19 e J (x40, x41, x42, ()) h) (Q := (k19 e (r23 e Jn Jr) Jr)) (by kernel_rfl) (fun n => c19_eq e x40 x41 x42 h n (exK []) (jk K48 Jr)) (k19_eq e (r23 e Jn Jr) Jr))
noncomputable def c12 (e : Cx) (J : P26 → AH → Res) : P24 → AH → Res
| (x35, x36, x37, x38, x39, _), h =>
  J (x35, x36, x37, x38, x39, 0, ()) h
theorem c12_eq (e : Cx) (x35 : V) (x36 : V) (x37 : V) (x38 : V) (x39 : V) (h : AH) (n : Kn) (ee : Ke) (r : Kn) : runL (cfgS e) lv 163 e.F (peel 1 (cP [5, 0] B)).1 (mkT K24 (x35, x36, x37, x38, x39, ())) h n ee r = c12 e (fun t h => n (mkT K26 t) h) (x35, x36, x37, x38, x39, ()) h := by kernel_rfl
noncomputable def c14 (e : Cx) (J : P26 → AH → Res) : P26 → AH → Res
| (x128, x129, x130, x131, x132, x133, _), h =>
  J (x128, x129, x130, x131, x132, (wr .i64 (x133 + 1)), ()) h
theorem c14_eq (e : Cx) (x128 : V) (x129 : V) (x130 : V) (x131 : V) (x132 : V) (x133 : Int) (h : AH) (n : Kn) (ee : Ke) (r : Kn) : runL (cfgS e) lv 163 e.F (peel 1 (cP [5, 5] B)).1 (mkT K26 (x128, x129, x130, x131, x132, x133, ())) h n ee r = c14 e (fun t h => n (mkT K26 t) h) (x128, x129, x130, x131, x132, x133, ()) h := by kernel_rfl
noncomputable def r14 (e : Cx) (Jn : P26 → AH → Res) (J2 : P39 → AH → Res) (Jr : P48 → AH → Res) : P26 → AH → Res
| (x128, x129, x130, x131, x132, x133, _), h =>
  c14 e Jn (x128, x129, x130, x131, x132, x133, ()) h
theorem r14_eq (e : Cx) (Jn : P26 → AH → Res) (J2 : P39 → AH → Res) (Jr : P48 → AH → Res) : ∀ t h, exL (cfgS e) lv 163 e.F (cP [5, 5] B) (mkT K26 t) h (jk K26 Jn) (exK [(2, (jk K39 J2))]) (jk K48 Jr) = r14 e Jn J2 Jr t h
| (x128, x129, x130, x131, x132, x133, _), h => nd_chain' (X := cP [5, 5] B) (Y := .skip) 1 (L := K26) (S := fun J => c14 e J (x128, x129, x130, x131, x132, x133, ()) h) (Q := Jn) (by kernel_rfl) (fun n => c14_eq e x128 x129 x130 x131 x132 x133 h n (exK [(2, (jk K39 J2))]) (jk K48 Jr)) (fun t h => by kernel_rfl)
noncomputable def c15 (e : Cx) (J : P26 → AH → Res) : P26 → AH → Res
| (x122, x123, x124, x125, x126, x127, _), h =>
  bV (ixA 8 1 x126 0) h fun x141 h142 =>
  bI .u32 (ld x141 h142) h142 fun x143 h144 =>
  bV (ixA 8 1 x126 4) h144 fun x145 h146 =>
  bI .u32 (ld x145 h146) h146 fun x147 h148 =>
  bV (ixA 8 1 x126 7) h148 fun x149 h150 =>
  bI .u32 (ld x149 h150) h150 fun x151 h152 =>
  cI .u32 (quiet (fun h => e.C n_r01_right [(.int .u32 x147), (.int .i64 6)] h) h152) fun x153 h154 =>
  cI .u32 (quiet (fun h => e.C n_r01_right [(.int .u32 x147), (.int .i64 11)] h) h154) fun x155 h156 =>
  cI .u32 (quiet (fun h => e.C n_r01_right [(.int .u32 x147), (.int .i64 25)] h) h156) fun x157 h158 =>
  let x159 : Int := (wr .u32 (x151 + (ixor .u32 (ixor .u32 x153 x155) x157)))
  bV (ixA 8 1 x126 5) h158 fun x160 h161 =>
  bI .u32 (ld x160 h161) h161 fun x162 h163 =>
  bV (ixA 8 1 x126 6) h163 fun x164 h165 =>
  bI .u32 (ld x164 h165) h165 fun x166 h167 =>
  let x168 : Int := (ixor .u32 (iand .u32 x147 x162) (iand .u32 (inot .u32 x147) x166))
  bV (ixA 64 1 x125 x127) h167 fun x169 h170 =>
  bI .u32 (ld x169 h170) h170 fun x171 h172 =>
  let x173 : Int := (wr .u32 ((wr .u32 (x159 + x168)) + x171))
  bV (ixA 64 1 x124 x127) h172 fun x174 h175 =>
  bI .u32 (ld x174 h175) h175 fun x176 h177 =>
  cI .u32 (quiet (fun h => e.C n_r01_right [(.int .u32 x143), (.int .i64 2)] h) h177) fun x178 h179 =>
  cI .u32 (quiet (fun h => e.C n_r01_right [(.int .u32 x143), (.int .i64 13)] h) h179) fun x180 h181 =>
  cI .u32 (quiet (fun h => e.C n_r01_right [(.int .u32 x143), (.int .i64 22)] h) h181) fun x182 h183 =>
  bV (ixA 8 1 x126 1) h183 fun x184 h185 =>
  bI .u32 (ld x184 h185) h185 fun x186 h187 =>
  bV (ixA 8 1 x126 2) h187 fun x188 h189 =>
  bI .u32 (ld x188 h189) h189 fun x190 h191 =>
  let x192 : Int := (ixor .u32 (iand .u32 x143 x186) (iand .u32 x143 x190))
  bV (ixA 8 1 x126 1) h191 fun x193 h194 =>
  bI .u32 (ld x193 h194) h194 fun x195 h196 =>
  bV (ixA 8 1 x126 2) h196 fun x197 h198 =>
  bI .u32 (ld x197 h198) h198 fun x199 h200 =>
  let x201 : Int := (wr .u32 ((ixor .u32 (ixor .u32 x178 x180) x182) + (ixor .u32 x192 (iand .u32 x195 x199))))
  let x202 : Int := (wr .u32 ((wr .u32 (x173 + x176)) + x201))
  bV (ixA 8 1 x126 0) h200 fun x203 h204 =>
  bI .u32 (ld x203 h204) h204 fun x205 h206 =>
  bV (ixA 8 1 x126 1) h206 fun x207 h208 =>
  bI .u32 (ld x207 h208) h208 fun x209 h210 =>
  bV (ixA 8 1 x126 2) h210 fun x211 h212 =>
  bI .u32 (ld x211 h212) h212 fun x213 h214 =>
  bV (ixA 8 1 x126 3) h214 fun x215 h216 =>
  bI .u32 (ld x215 h216) h216 fun x217 h218 =>
  let x219 : Int := (wr .u32 (x217 + (wr .u32 (x173 + x176))))
  bV (ixA 8 1 x126 4) h218 fun x220 h221 =>
  bI .u32 (ld x220 h221) h221 fun x222 h223 =>
  bV (ixA 8 1 x126 5) h223 fun x224 h225 =>
  bI .u32 (ld x224 h225) h225 fun x226 h227 =>
  bV (ixA 8 1 x126 6) h227 fun x228 h229 =>
  bI .u32 (ld x228 h229) h229 fun x230 h231 =>
  bA (bld [(0, 1, (.int .u32 x202)), (1, 1, (.int .u32 x205)), (2, 1, (.int .u32 x209)), (3, 1, (.int .u32 x213)), (4, 1, (.int .u32 x219)), (5, 1, (.int .u32 x222)), (6, 1, (.int .u32 x226)), (7, 1, (.int .u32 x230))] (List.replicate 8 (.int .u32 0))) h231 fun x232 h233 =>
  bS (st 8 x126 (.agg x232) h233) fun h234 =>
  J (x122, x123, x124, x125, x126, x127, ()) h234
theorem c15_eq (e : Cx) (x122 : V) (x123 : V) (x124 : V) (x125 : V) (x126 : V) (x127 : Int) (h : AH) (n : Kn) (ee : Ke) (r : Kn) : runL (cfgS e) lv 163 e.F (peel 4 (cP [5, 4, 1] B)).1 (mkT K26 (x122, x123, x124, x125, x126, x127, ())) h n ee r = c15 e (fun t h => n (mkT K26 t) h) (x122, x123, x124, x125, x126, x127, ()) h := by kernel_rfl
noncomputable def r15 (e : Cx) (Jn : P26 → AH → Res) (J2 : P39 → AH → Res) (Jr : P48 → AH → Res) : P26 → AH → Res
| (x122, x123, x124, x125, x126, x127, _), h =>
  c15 e (r14 e Jn J2 Jr) (x122, x123, x124, x125, x126, x127, ()) h
theorem r15_eq (e : Cx) (Jn : P26 → AH → Res) (J2 : P39 → AH → Res) (Jr : P48 → AH → Res) : ∀ t h, exL (cfgS e) lv 163 e.F (cP [5, 4] B) (mkT K26 t) h (jk K26 Jn) (exK [(2, (jk K39 J2))]) (jk K48 Jr) = r15 e Jn J2 Jr t h
| (x122, x123, x124, x125, x126, x127, _), h => (nd_norm' (X := (cP [5, 4] B)) (a := cP [5, 4, 0] B) (b := cP [5, 5] B) (L := K26) (by kernel_rfl) (by kernel_rfl) (by kernel_rfl) (SB := (r14 e Jn J2 Jr)) (r14_eq e Jn J2 Jr) _ _).trans (nd_block' (X := cP [5, 4, 0] B) (id := 3) (b := cP [5, 4, 1] B) (by kernel_rfl) (nd_chain' (X := cP [5, 4, 1] B) (Y := .skip) 4 (L := K26) (S := fun J => c15 e J (x122, x123, x124, x125, x126, x127, ()) h) (Q := (r14 e Jn J2 Jr)) (by kernel_rfl) (fun n => c15_eq e x122 x123 x124 x125 x126 x127 h n (exK [(3, (jk K26 (r14 e Jn J2 Jr))), (2, (jk K39 J2))]) (jk K48 Jr)) (fun t h => by kernel_rfl)))
noncomputable def c13 (e : Cx) (J : P28 → AH → Res) : P26 → AH → Res
| (x116, x117, x118, x119, x120, x121, _), h =>
  J (x116, x117, x118, x119, x120, x121, (decide (x121 < 64)), ()) h
theorem c13_eq (e : Cx) (x116 : V) (x117 : V) (x118 : V) (x119 : V) (x120 : V) (x121 : Int) (h : AH) (n : Kn) (ee : Ke) (r : Kn) : runL (cfgS e) lv 163 e.F (peel 1 (cP [5, 3, 0] B)).1 (mkT K26 (x116, x117, x118, x119, x120, x121, ())) h n ee r = c13 e (fun t h => n (mkT K28 t) h) (x116, x117, x118, x119, x120, x121, ()) h := by kernel_rfl
noncomputable def k13 (e : Cx) (Jn : P26 → AH → Res) (J2 : P39 → AH → Res) (Jr : P48 → AH → Res) : P28 → AH → Res
| (x250, x251, x252, x253, x254, x255, x256, _), h =>
  bif x256 then Jn (x250, x251, x252, x253, x254, x255, ()) h else J2 (x250, x251, x254, ()) h
theorem k13_eq (e : Cx) (Jn : P26 → AH → Res) (J2 : P39 → AH → Res) (Jr : P48 → AH → Res) : ∀ t h, exL (cfgS e) lv 163 e.F (cP [5, 3, 1] B) (mkT K28 t) h (jk K26 Jn) (exK [(2, (jk K39 J2))]) (jk K48 Jr) = k13 e Jn J2 Jr t h
| (x250, x251, x252, x253, x254, x255, x256, _), h => nd_cond' (X := cP [5, 3, 1] B) (a := cP [5, 3, 1, 0] B) (b := cP [5, 3, 2] B) (t := x256) (x := .tmp 69) (by kernel_rfl) (by kernel_rfl) (by kernel_rfl) (by kernel_rfl)
noncomputable def l13 (e : Cx) (Jn : P26 → AH → Res) (J2 : P39 → AH → Res) (Jr : P48 → AH → Res) : P26 → AH → Res
| (x116, x117, x118, x119, x120, x121, _), h =>
  c13 e (k13 e (r15 e Jn J2 Jr) J2 Jr) (x116, x117, x118, x119, x120, x121, ()) h
theorem l13_eq (e : Cx) (Jn : P26 → AH → Res) (J2 : P39 → AH → Res) (Jr : P48 → AH → Res) : ∀ t h, exL (cfgS e) lv 163 e.F (cP [5, 3] B) (mkT K26 t) h (jk K26 Jn) (exK [(2, (jk K39 J2))]) (jk K48 Jr) = l13 e Jn J2 Jr t h
| (x116, x117, x118, x119, x120, x121, _), h => (nd_norm' (X := (cP [5, 3] B)) (a := cP [5, 3, 0] B) (b := cP [5, 4] B) (L := K26) (by kernel_rfl) (by kernel_rfl) (by kernel_rfl) (SB := (r15 e Jn J2 Jr)) (r15_eq e Jn J2 Jr) _ _).trans (nd_chain' (X := cP [5, 3, 0] B) (Y := (cP [5, 3, 1] B)) 1 (L := K28) (S := fun J => c13 e J (x116, x117, x118, x119, x120, x121, ()) h) (Q := (k13 e (r15 e Jn J2 Jr) J2 Jr)) (by kernel_rfl) (fun n => c13_eq e x116 x117 x118 x119 x120 x121 h n (exK [(2, (jk K39 J2))]) (jk K48 Jr)) (k13_eq e (r15 e Jn J2 Jr) J2 Jr))
noncomputable def k12 (e : Cx) (Jn : P39 → AH → Res) (Jr : P48 → AH → Res) : P26 → AH → Res
| (x110, x111, x112, x113, x114, x115, _), h =>
  loopN (P26) e.F (fun t h n => l13 e n Jn Jr t h) (x110, x111, x112, x113, x114, x115, ()) h
theorem k12_eq (e : Cx) (Jn : P39 → AH → Res) (Jr : P48 → AH → Res) : ∀ t h, exL (cfgS e) lv 163 e.F (cP [5, 1] B) (mkT K26 t) h (jk K39 Jn) (exK []) (jk K48 Jr) = k12 e Jn Jr t h
| (x110, x111, x112, x113, x114, x115, _), h => nd_block' (X := cP [5, 1] B) (id := 2) (b := cP [5, 2] B) (by kernel_rfl) ((nd_loop' (X := cP [5, 2] B) (b := cP [5, 3] B) (L := K26) (by kernel_rfl) (by kernel_rfl) (SB := fun n => l13 e n Jn Jr) (fun n => l13_eq e n Jn Jr) _ _).trans (by kernel_rfl))
noncomputable def k11 (e : Cx) (Jn : P48 → AH → Res) (Jr : P48 → AH → Res) : P24 → AH → Res
| (x35, x36, x37, x38, x39, _), h =>
  c12 e (k12 e (r19 e Jn Jr) Jr) (x35, x36, x37, x38, x39, ()) h
theorem k11_eq (e : Cx) (Jn : P48 → AH → Res) (Jr : P48 → AH → Res) : ∀ t h, exL (cfgS e) lv 163 e.F (cP [5] B) (mkT K24 t) h (jk K48 Jn) (exK []) (jk K48 Jr) = k11 e Jn Jr t h
| (x35, x36, x37, x38, x39, _), h => (nd_norm' (X := (cP [5] B)) (a := cP [5, 0] B) (b := cP [6] B) (L := K39) (by kernel_rfl) (by kernel_rfl) (by kernel_rfl) (SB := (r19 e Jn Jr)) (r19_eq e Jn Jr) _ _).trans (nd_chain' (X := cP [5, 0] B) (Y := (cP [5, 1] B)) 1 (L := K26) (S := fun J => c12 e J (x35, x36, x37, x38, x39, ()) h) (Q := (k12 e (r19 e Jn Jr) Jr)) (by kernel_rfl) (fun n => c12_eq e x35 x36 x37 x38 x39 h n (exK []) (jk K48 Jr)) (k12_eq e (r19 e Jn Jr) Jr))
noncomputable def r10 (e : Cx) (Jn : P48 → AH → Res) (Jr : P48 → AH → Res) : P21 → AH → Res
| (x16, x17, x18, _), h =>
  c10 e (k11 e Jn Jr) (x16, x17, x18, ()) h
theorem r10_eq (e : Cx) (Jn : P48 → AH → Res) (Jr : P48 → AH → Res) : ∀ t h, exL (cfgS e) lv 163 e.F (cP [3] B) (mkT K21 t) h (jk K48 Jn) (exK []) (jk K48 Jr) = r10 e Jn Jr t h
| (x16, x17, x18, _), h => nd_chain' (X := cP [3] B) (Y := (cP [5] B)) 2 (L := K24) (S := fun J => c10 e J (x16, x17, x18, ()) h) (Q := (k11 e Jn Jr)) (by kernel_rfl) (fun n => c10_eq e x16 x17 x18 h n (exK []) (jk K48 Jr)) (k11_eq e Jn Jr)
noncomputable def c2 (e : Cx) (J : P6 → AH → Res) : P4 → AH → Res
| (x12, x13, x14, x15, _), h =>
  J (x12, x13, x14, x15, 0, ()) h
theorem c2_eq (e : Cx) (x12 : V) (x13 : V) (x14 : V) (x15 : V) (h : AH) (n : Kn) (ee : Ke) (r : Kn) : runL (cfgS e) lv 163 e.F (peel 1 (cP [2, 0] B)).1 (mkT K4 (x12, x13, x14, x15, ())) h n ee r = c2 e (fun t h => n (mkT K6 t) h) (x12, x13, x14, x15, ()) h := by kernel_rfl
noncomputable def c4 (e : Cx) (J : P6 → AH → Res) : P6 → AH → Res
| (x278, x279, x280, x281, x282, _), h =>
  J (x278, x279, x280, x281, (wr .i64 (x282 + 1)), ()) h
theorem c4_eq (e : Cx) (x278 : V) (x279 : V) (x280 : V) (x281 : V) (x282 : Int) (h : AH) (n : Kn) (ee : Ke) (r : Kn) : runL (cfgS e) lv 163 e.F (peel 1 (cP [2, 5] B)).1 (mkT K6 (x278, x279, x280, x281, x282, ())) h n ee r = c4 e (fun t h => n (mkT K6 t) h) (x278, x279, x280, x281, x282, ()) h := by kernel_rfl
noncomputable def r4 (e : Cx) (Jn : P6 → AH → Res) (J0 : P21 → AH → Res) (Jr : P48 → AH → Res) : P6 → AH → Res
| (x278, x279, x280, x281, x282, _), h =>
  c4 e Jn (x278, x279, x280, x281, x282, ()) h
theorem r4_eq (e : Cx) (Jn : P6 → AH → Res) (J0 : P21 → AH → Res) (Jr : P48 → AH → Res) : ∀ t h, exL (cfgS e) lv 163 e.F (cP [2, 5] B) (mkT K6 t) h (jk K6 Jn) (exK [(0, (jk K21 J0))]) (jk K48 Jr) = r4 e Jn J0 Jr t h
| (x278, x279, x280, x281, x282, _), h => nd_chain' (X := cP [2, 5] B) (Y := .skip) 1 (L := K6) (S := fun J => c4 e J (x278, x279, x280, x281, x282, ()) h) (Q := Jn) (by kernel_rfl) (fun n => c4_eq e x278 x279 x280 x281 x282 h n (exK [(0, (jk K21 J0))]) (jk K48 Jr)) (fun t h => by kernel_rfl)
noncomputable def c7 (e : Cx) (J : P6 → AH → Res) : P6 → AH → Res
| (x289, x290, x291, x292, x293, _), h =>
  bV (ixA 64 1 x292 (wr .i64 (x293 - 15))) h fun x294 h295 =>
  bI .u32 (ld x294 h295) h295 fun x296 h297 =>
  bV (ixA 64 1 x292 (wr .i64 (x293 - 2))) h297 fun x298 h299 =>
  bI .u32 (ld x298 h299) h299 fun x300 h301 =>
  bV (ixA 64 1 x292 (wr .i64 (x293 - 16))) h301 fun x302 h303 =>
  bI .u32 (ld x302 h303) h303 fun x304 h305 =>
  bV (ixA 64 1 x292 (wr .i64 (x293 - 7))) h305 fun x306 h307 =>
  bI .u32 (ld x306 h307) h307 fun x308 h309 =>
  cI .u32 (quiet (fun h => e.C n_r01_right [(.int .u32 x296), (.int .i64 7)] h) h309) fun x310 h311 =>
  cI .u32 (quiet (fun h => e.C n_r01_right [(.int .u32 x296), (.int .i64 18)] h) h311) fun x312 h313 =>
  let x314 : Int := (ixor .u32 (ixor .u32 x310 x312) (ishr .u32 x296 3))
  let x315 : Int := (wr .u32 ((wr .u32 (x304 + x308)) + x314))
  cI .u32 (quiet (fun h => e.C n_r01_right [(.int .u32 x300), (.int .i64 17)] h) h313) fun x316 h317 =>
  cI .u32 (quiet (fun h => e.C n_r01_right [(.int .u32 x300), (.int .i64 19)] h) h317) fun x318 h319 =>
  let x320 : Int := (ixor .u32 (ixor .u32 x316 x318) (ishr .u32 x300 10))
  bV (ixA 64 1 x292 x293) h319 fun x321 h322 =>
  bS (st 1 x321 (.int .u32 (wr .u32 (x315 + x320))) h322) fun h323 =>
  J (x289, x290, x291, x292, x293, ()) h323
theorem c7_eq (e : Cx) (x289 : V) (x290 : V) (x291 : V) (x292 : V) (x293 : Int) (h : AH) (n : Kn) (ee : Ke) (r : Kn) : runL (cfgS e) lv 163 e.F (peel 3 (cP [2, 4, 2] B)).1 (mkT K6 (x289, x290, x291, x292, x293, ())) h n ee r = c7 e (fun t h => n (mkT K6 t) h) (x289, x290, x291, x292, x293, ()) h := by kernel_rfl
noncomputable def r7 (e : Cx) (Jn : P6 → AH → Res) (J1 : P6 → AH → Res) (J0 : P21 → AH → Res) (Jr : P48 → AH → Res) : P6 → AH → Res
| (x289, x290, x291, x292, x293, _), h =>
  c7 e Jn (x289, x290, x291, x292, x293, ()) h
theorem r7_eq (e : Cx) (Jn : P6 → AH → Res) (J1 : P6 → AH → Res) (J0 : P21 → AH → Res) (Jr : P48 → AH → Res) : ∀ t h, exL (cfgS e) lv 163 e.F (cP [2, 4, 2] B) (mkT K6 t) h (jk K6 Jn) (exK [(1, (jk K6 J1)), (0, (jk K21 J0))]) (jk K48 Jr) = r7 e Jn J1 J0 Jr t h
| (x289, x290, x291, x292, x293, _), h => nd_chain' (X := cP [2, 4, 2] B) (Y := .skip) 3 (L := K6) (S := fun J => c7 e J (x289, x290, x291, x292, x293, ()) h) (Q := Jn) (by kernel_rfl) (fun n => c7_eq e x289 x290 x291 x292 x293 h n (exK [(1, (jk K6 J1)), (0, (jk K21 J0))]) (jk K48 Jr)) (fun t h => by kernel_rfl)
noncomputable def c5 (e : Cx) (J : P12 → AH → Res) : P6 → AH → Res
| (x273, x274, x275, x276, x277, _), h =>
  J (x273, x274, x275, x276, x277, (decide (x277 < 16)), ()) h
theorem c5_eq (e : Cx) (x273 : V) (x274 : V) (x275 : V) (x276 : V) (x277 : Int) (h : AH) (n : Kn) (ee : Ke) (r : Kn) : runL (cfgS e) lv 163 e.F (peel 1 (cP [2, 4, 1, 0] B)).1 (mkT K6 (x273, x274, x275, x276, x277, ())) h n ee r = c5 e (fun t h => n (mkT K12 t) h) (x273, x274, x275, x276, x277, ()) h := by kernel_rfl
noncomputable def c6 (e : Cx) (J : P6 → AH → Res) : P12 → AH → Res
| (x337, x338, x339, x340, x341, x342, _), h =>
  cI .u32 (e.C n_r01_big [x337, (.int .i64 (wr .i64 (4 * x341)))] h) fun x343 h344 =>
  bV (ixA 64 1 x340 x341) h344 fun x345 h346 =>
  bS (st 1 x345 (.int .u32 x343) h346) fun h347 =>
  J (x337, x338, x339, x340, x341, ()) h347
theorem c6_eq (e : Cx) (x337 : V) (x338 : V) (x339 : V) (x340 : V) (x341 : Int) (x342 : Bool) (h : AH) (n : Kn) (ee : Ke) (r : Kn) : runL (cfgS e) lv 163 e.F (peel 1 (cP [2, 4, 1, 1, 0] B)).1 (mkT K12 (x337, x338, x339, x340, x341, x342, ())) h n ee r = c6 e (fun t h => n (mkT K6 t) h) (x337, x338, x339, x340, x341, x342, ()) h := by kernel_rfl
noncomputable def k5 (e : Cx) (Jn : P6 → AH → Res) (J1 : P6 → AH → Res) (J0 : P21 → AH → Res) (Jr : P48 → AH → Res) : P12 → AH → Res
| (x337, x338, x339, x340, x341, x342, _), h =>
  bif x342 then c6 e J1 (x337, x338, x339, x340, x341, x342, ()) h else Jn (x337, x338, x339, x340, x341, ()) h
theorem k5_eq (e : Cx) (Jn : P6 → AH → Res) (J1 : P6 → AH → Res) (J0 : P21 → AH → Res) (Jr : P48 → AH → Res) : ∀ t h, exL (cfgS e) lv 163 e.F (cP [2, 4, 1, 1] B) (mkT K12 t) h (jk K6 Jn) (exK [(1, (jk K6 J1)), (0, (jk K21 J0))]) (jk K48 Jr) = k5 e Jn J1 J0 Jr t h
| (x337, x338, x339, x340, x341, x342, _), h => nd_cond' (X := cP [2, 4, 1, 1] B) (a := cP [2, 4, 1, 1, 0] B) (b := cP [2, 4, 1, 2] B) (t := x342) (x := .tmp 22) (by kernel_rfl) (by kernel_rfl) (nd_chain' (X := cP [2, 4, 1, 1, 0] B) (Y := (cP [2, 4, 1, 1, 1] B)) 1 (L := K6) (S := fun J => c6 e J (x337, x338, x339, x340, x341, x342, ()) h) (Q := J1) (by kernel_rfl) (fun n => c6_eq e x337 x338 x339 x340 x341 x342 h n (exK [(1, (jk K6 J1)), (0, (jk K21 J0))]) (jk K48 Jr)) (fun t h => by kernel_rfl)) (by kernel_rfl)
noncomputable def r5 (e : Cx) (Jn : P6 → AH → Res) (J0 : P21 → AH → Res) (Jr : P48 → AH → Res) : P6 → AH → Res
| (x273, x274, x275, x276, x277, _), h =>
  c5 e (k5 e (r7 e (r4 e Jn J0 Jr) (r4 e Jn J0 Jr) J0 Jr) (r4 e Jn J0 Jr) J0 Jr) (x273, x274, x275, x276, x277, ()) h
theorem r5_eq (e : Cx) (Jn : P6 → AH → Res) (J0 : P21 → AH → Res) (Jr : P48 → AH → Res) : ∀ t h, exL (cfgS e) lv 163 e.F (cP [2, 4] B) (mkT K6 t) h (jk K6 Jn) (exK [(0, (jk K21 J0))]) (jk K48 Jr) = r5 e Jn J0 Jr t h
| (x273, x274, x275, x276, x277, _), h => (nd_norm' (X := (cP [2, 4] B)) (a := cP [2, 4, 0] B) (b := cP [2, 5] B) (L := K6) (by kernel_rfl) (by kernel_rfl) (by kernel_rfl) (SB := (r4 e Jn J0 Jr)) (r4_eq e Jn J0 Jr) _ _).trans (nd_block' (X := cP [2, 4, 0] B) (id := 1) (b := cP [2, 4, 1] B) (by kernel_rfl) ((nd_norm' (X := (cP [2, 4, 1] B)) (a := cP [2, 4, 1, 0] B) (b := cP [2, 4, 2] B) (L := K6) (by kernel_rfl) (by kernel_rfl) (by kernel_rfl) (SB := (r7 e (r4 e Jn J0 Jr) (r4 e Jn J0 Jr) J0 Jr)) (r7_eq e (r4 e Jn J0 Jr) (r4 e Jn J0 Jr) J0 Jr) _ _).trans (nd_chain' (X := cP [2, 4, 1, 0] B) (Y := (cP [2, 4, 1, 1] B)) 1 (L := K12) (S := fun J => c5 e J (x273, x274, x275, x276, x277, ()) h) (Q := (k5 e (r7 e (r4 e Jn J0 Jr) (r4 e Jn J0 Jr) J0 Jr) (r4 e Jn J0 Jr) J0 Jr)) (by kernel_rfl) (fun n => c5_eq e x273 x274 x275 x276 x277 h n (exK [(1, (jk K6 (r4 e Jn J0 Jr))), (0, (jk K21 J0))]) (jk K48 Jr)) (k5_eq e (r7 e (r4 e Jn J0 Jr) (r4 e Jn J0 Jr) J0 Jr) (r4 e Jn J0 Jr) J0 Jr))))
noncomputable def c3 (e : Cx) (J : P8 → AH → Res) : P6 → AH → Res
| (x268, x269, x270, x271, x272, _), h =>
  J (x268, x269, x270, x271, x272, (decide (x272 < 64)), ()) h
theorem c3_eq (e : Cx) (x268 : V) (x269 : V) (x270 : V) (x271 : V) (x272 : Int) (h : AH) (n : Kn) (ee : Ke) (r : Kn) : runL (cfgS e) lv 163 e.F (peel 1 (cP [2, 3, 0] B)).1 (mkT K6 (x268, x269, x270, x271, x272, ())) h n ee r = c3 e (fun t h => n (mkT K8 t) h) (x268, x269, x270, x271, x272, ()) h := by kernel_rfl
noncomputable def k3 (e : Cx) (Jn : P6 → AH → Res) (J0 : P21 → AH → Res) (Jr : P48 → AH → Res) : P8 → AH → Res
| (x361, x362, x363, x364, x365, x366, _), h =>
  bif x366 then Jn (x361, x362, x363, x364, x365, ()) h else J0 (x362, x363, x364, ()) h
theorem k3_eq (e : Cx) (Jn : P6 → AH → Res) (J0 : P21 → AH → Res) (Jr : P48 → AH → Res) : ∀ t h, exL (cfgS e) lv 163 e.F (cP [2, 3, 1] B) (mkT K8 t) h (jk K6 Jn) (exK [(0, (jk K21 J0))]) (jk K48 Jr) = k3 e Jn J0 Jr t h
| (x361, x362, x363, x364, x365, x366, _), h => nd_cond' (X := cP [2, 3, 1] B) (a := cP [2, 3, 1, 0] B) (b := cP [2, 3, 2] B) (t := x366) (x := .tmp 18) (by kernel_rfl) (by kernel_rfl) (by kernel_rfl) (by kernel_rfl)
noncomputable def l3 (e : Cx) (Jn : P6 → AH → Res) (J0 : P21 → AH → Res) (Jr : P48 → AH → Res) : P6 → AH → Res
| (x268, x269, x270, x271, x272, _), h =>
  c3 e (k3 e (r5 e Jn J0 Jr) J0 Jr) (x268, x269, x270, x271, x272, ()) h
theorem l3_eq (e : Cx) (Jn : P6 → AH → Res) (J0 : P21 → AH → Res) (Jr : P48 → AH → Res) : ∀ t h, exL (cfgS e) lv 163 e.F (cP [2, 3] B) (mkT K6 t) h (jk K6 Jn) (exK [(0, (jk K21 J0))]) (jk K48 Jr) = l3 e Jn J0 Jr t h
| (x268, x269, x270, x271, x272, _), h => (nd_norm' (X := (cP [2, 3] B)) (a := cP [2, 3, 0] B) (b := cP [2, 4] B) (L := K6) (by kernel_rfl) (by kernel_rfl) (by kernel_rfl) (SB := (r5 e Jn J0 Jr)) (r5_eq e Jn J0 Jr) _ _).trans (nd_chain' (X := cP [2, 3, 0] B) (Y := (cP [2, 3, 1] B)) 1 (L := K8) (S := fun J => c3 e J (x268, x269, x270, x271, x272, ()) h) (Q := (k3 e (r5 e Jn J0 Jr) J0 Jr)) (by kernel_rfl) (fun n => c3_eq e x268 x269 x270 x271 x272 h n (exK [(0, (jk K21 J0))]) (jk K48 Jr)) (k3_eq e (r5 e Jn J0 Jr) J0 Jr))
noncomputable def k2 (e : Cx) (Jn : P21 → AH → Res) (Jr : P48 → AH → Res) : P6 → AH → Res
| (x263, x264, x265, x266, x267, _), h =>
  loopN (P6) e.F (fun t h n => l3 e n Jn Jr t h) (x263, x264, x265, x266, x267, ()) h
theorem k2_eq (e : Cx) (Jn : P21 → AH → Res) (Jr : P48 → AH → Res) : ∀ t h, exL (cfgS e) lv 163 e.F (cP [2, 1] B) (mkT K6 t) h (jk K21 Jn) (exK []) (jk K48 Jr) = k2 e Jn Jr t h
| (x263, x264, x265, x266, x267, _), h => nd_block' (X := cP [2, 1] B) (id := 0) (b := cP [2, 2] B) (by kernel_rfl) ((nd_loop' (X := cP [2, 2] B) (b := cP [2, 3] B) (L := K6) (by kernel_rfl) (by kernel_rfl) (SB := fun n => l3 e n Jn Jr) (fun n => l3_eq e n Jn Jr) _ _).trans (by kernel_rfl))
noncomputable def k1 (e : Cx) (Jn : P48 → AH → Res) (Jr : P48 → AH → Res) : P4 → AH → Res
| (x12, x13, x14, x15, _), h =>
  c2 e (k2 e (r10 e Jn Jr) Jr) (x12, x13, x14, x15, ()) h
theorem k1_eq (e : Cx) (Jn : P48 → AH → Res) (Jr : P48 → AH → Res) : ∀ t h, exL (cfgS e) lv 163 e.F (cP [2] B) (mkT K4 t) h (jk K48 Jn) (exK []) (jk K48 Jr) = k1 e Jn Jr t h
| (x12, x13, x14, x15, _), h => (nd_norm' (X := (cP [2] B)) (a := cP [2, 0] B) (b := cP [3] B) (L := K21) (by kernel_rfl) (by kernel_rfl) (by kernel_rfl) (SB := (r10 e Jn Jr)) (r10_eq e Jn Jr) _ _).trans (nd_chain' (X := cP [2, 0] B) (Y := (cP [2, 1] B)) 1 (L := K6) (S := fun J => c2 e J (x12, x13, x14, x15, ()) h) (Q := (k2 e (r10 e Jn Jr) Jr)) (by kernel_rfl) (fun n => c2_eq e x12 x13 x14 x15 h n (exK []) (jk K48 Jr)) (k2_eq e (r10 e Jn Jr) Jr))
noncomputable def fn (e : Cx) (a0 : List V) (a1 : V) (h : AH) : Res :=
  c0 e (k1 e ret ret) (a0, a1, ()) h
theorem run (e : Cx) (a0 : List V) (a1 : V) (h : AH) : execFn (cfgS e) (foLive lv) e.F n_r01_compress [(.agg a0), a1] h = fn e a0 a1 h := by
  refine (fn_eq (c := cfgS e) (lv := lv) (PP.funcs.getD 26 default) B (by kernel_rfl) (by kernel_rfl) (Nat.le_of_ble_eq_true (by kernel_rfl))).trans ?_
  rw [ret_eq]
  exact nd_chain' (X := cP [0] B) (Y := (cP [2] B)) 2 (L := K4) (S := fun J => c0 e J (a0, a1, ()) h) (Q := (k1 e ret ret)) (by kernel_rfl) (fun n => c0_eq e a0 a1 h n (exK []) (jk K48 ret)) (k1_eq e ret ret)
end r01_compress
/-! bytes.Clone -/
namespace bytes_Clone
noncomputable def B : Code := cBody (PP.funcs.getD 27 default)
abbrev K2 : Slots := [(0, .any)]
abbrev P2 := V × Unit
abbrev K4 : Slots := [(0, .any), (4, .bool)]
abbrev P4 := V × Bool × Unit
abbrev K6 : Slots := [(2, .any)]
abbrev P6 := V × Unit
def lv : Nat → Option Slots := fun k =>
  bif Nat.beq k 2 then some K2 else bif Nat.beq k 4 then some K4 else bif Nat.beq k 6 then some K6 else bif Nat.beq k 7 then some K2 else bif Nat.beq k 8 then some K6 else none
abbrev KR : Slots := [(2, .any)]
abbrev PR := V × Unit
noncomputable def ret : P6 → AH → Res
| (x2, _), h => finW [some x2] h
theorem ret_eq (e : Cx) : fin (cfgS e) (foLive lv) (PP.funcs.getD 27 default) = jk K6 ret := by kernel_rfl
noncomputable def c0 (e : Cx) (J : P2 → AH → Res) : V × Unit → AH → Res
| (a0, _), h =>
  J (a0, ()) h
theorem c0_eq (e : Cx) (a0 : V) (h : AH) (n : Kn) (ee : Ke) (r : Kn) : runL (cfgS e) lv 8 e.F (peel 1 (cP [0] B)).1 (iniT [a0] 0 .leaf) h n ee r = c0 e (fun t h => n (mkT K2 t) h) (a0, ()) h := by kernel_rfl
noncomputable def c3 (e : Cx) (J : P6 → AH → Res) : P2 → AH → Res
| (x4, _), h =>
  cV (bsl 1 0 [] [.int .u8 0] T_uint8 h) fun x5 h6 =>
  cV (app 1 1 T_uint8 x5 x4 h6) fun x7 h8 =>
  J (x7, ()) h8
theorem c3_eq (e : Cx) (x4 : V) (h : AH) (n : Kn) (ee : Ke) (r : Kn) : runL (cfgS e) lv 8 e.F (peel 1 (cP [2] B)).1 (mkT K2 (x4, ())) h n ee r = c3 e (fun t h => n (mkT K6 t) h) (x4, ()) h := by kernel_rfl
noncomputable def r3 (e : Cx) (Jn : P6 → AH → Res) (Jr : P6 → AH → Res) : P2 → AH → Res
| (x4, _), h =>
  c3 e Jr (x4, ()) h
theorem r3_eq (e : Cx) (Jn : P6 → AH → Res) (Jr : P6 → AH → Res) : ∀ t h, exL (cfgS e) lv 8 e.F (cP [2] B) (mkT K2 t) h (jk K6 Jn) (exK []) (jk K6 Jr) = r3 e Jn Jr t h
| (x4, _), h => nd_chain' (X := cP [2] B) (Y := (cP [3] B)) 1 (L := K6) (S := fun J => c3 e J (x4, ()) h) (Q := Jr) (by kernel_rfl) (fun n => c3_eq e x4 h n (exK []) (jk K6 Jr)) (fun t h => by kernel_rfl)
noncomputable def c1 (e : Cx) (J : P4 → AH → Res) : P2 → AH → Res
| (x3, _), h =>
  bB (eqW PP true T_s_uint8 x3 (.nilslice)) h fun x11 h12 =>
  J (x3, x11, ()) h12
theorem c1_eq (e : Cx) (x3 : V) (h : AH) (n : Kn) (ee : Ke) (r : Kn) : runL (cfgS e) lv 8 e.F (peel 1 (cP [1, 0] B)).1 (mkT K2 (x3, ())) h n ee r = c1 e (fun t h => n (mkT K4 t) h) (x3, ()) h := by kernel_rfl
noncomputable def c2 (e : Cx) (J : P6 → AH → Res) : P4 → AH → Res
| (x16, x17, _), h =>
  J ((.nilslice), ()) h
theorem c2_eq (e : Cx) (x16 : V) (x17 : Bool) (h : AH) (n : Kn) (ee : Ke) (r : Kn) : runL (cfgS e) lv 8 e.F (peel 1 (cP [1, 1, 0] B)).1 (mkT K4 (x16, x17, ())) h n ee r = c2 e (fun t h => n (mkT K6 t) h) (x16, x17, ()) h := by kernel_rfl
noncomputable def k1 (e : Cx) (Jn : P2 → AH → Res) (Jr : P6 → AH → Res) : P4 → AH → Res
| (x16, x17, _), h =>
  bif x17 then c2 e Jr (x16, x17, ()) h else Jn (x16, ()) h
theorem k1_eq (e : Cx) (Jn : P2 → AH → Res) (Jr : P6 → AH → Res) : ∀ t h, exL (cfgS e) lv 8 e.F (cP [1, 1] B) (mkT K4 t) h (jk K2 Jn) (exK []) (jk K6 Jr) = k1 e Jn Jr t h
| (x16, x17, _), h => nd_cond' (X := cP [1, 1] B) (a := cP [1, 1, 0] B) (b := cP [1, 2] B) (t := x17) (x := .tmp 4) (by kernel_rfl) (by kernel_rfl) (nd_chain' (X := cP [1, 1, 0] B) (Y := (cP [1, 1, 1] B)) 1 (L := K6) (S := fun J => c2 e J (x16, x17, ()) h) (Q := Jr) (by kernel_rfl) (fun n => c2_eq e x16 x17 h n (exK []) (jk K6 Jr)) (fun t h => by kernel_rfl)) (by kernel_rfl)
noncomputable def k0 (e : Cx) (Jn : P6 → AH → Res) (Jr : P6 → AH → Res) : P2 → AH → Res
| (x3, _), h =>
  c1 e (k1 e (r3 e Jn Jr) Jr) (x3, ()) h
theorem k0_eq (e : Cx) (Jn : P6 → AH → Res) (Jr : P6 → AH → Res) : ∀ t h, exL (cfgS e) lv 8 e.F (cP [1] B) (mkT K2 t) h (jk K6 Jn) (exK []) (jk K6 Jr) = k0 e Jn Jr t h
| (x3, _), h => (nd_norm' (X := (cP [1] B)) (a := cP [1, 0] B) (b := cP [2] B) (L := K2) (by kernel_rfl) (by kernel_rfl) (by kernel_rfl) (SB := (r3 e Jn Jr)) (r3_eq e Jn Jr) _ _).trans (nd_chain' (X := cP [1, 0] B) (Y := (cP [1, 1] B)) 1 (L := K4) (S := fun J => c1 e J (x3, ()) h) (Q := (k1 e (r3 e Jn Jr) Jr)) (by kernel_rfl) (fun n => c1_eq e x3 h n (exK []) (jk K6 Jr)) (k1_eq e (r3 e Jn Jr) Jr))
noncomputable def fn (e : Cx) (a0 : V) (h : AH) : Res :=
  c0 e (k0 e ret ret) (a0, ()) h
theorem run (e : Cx) (a0 : V) (h : AH) : execFn (cfgS e) (foLive lv) e.F n_bytes_Clone [a0] h = fn e a0 h := by
  refine (fn_eq (c := cfgS e) (lv := lv) (PP.funcs.getD 27 default) B (by kernel_rfl) (by kernel_rfl) (Nat.le_of_ble_eq_true (by kernel_rfl))).trans ?_
  rw [ret_eq]
  exact nd_chain' (X := cP [0] B) (Y := (cP [1] B)) 1 (L := K2) (S := fun J => c0 e J (a0, ()) h) (Q := (k0 e ret ret)) (by kernel_rfl) (fun n => c0_eq e a0 h n (exK []) (jk K6 ret)) (k0_eq e ret ret)
end bytes_Clone
/-! strings.IndexByte -/
namespace strings_IndexByte
noncomputable def B : Code := cBody (PP.funcs.getD 28 default)
abbrev K2 : Slots := [(0, .str), (1, .int .u8)]
abbrev P2 := List Nat × Int × Unit
abbrev K4 : Slots := [(4, .int .i64)]
abbrev P4 := Int × Unit
def lv : Nat → Option Slots := fun k =>
  bif Nat.beq k 2 then some K2 else bif Nat.beq k 4 then some K4 else none
abbrev KR : Slots := [(4, .any)]
abbrev PR := V × Unit
noncomputable def ret : PR → AH → Res
| (x4, _), h => finW [some x4] h
theorem ret_eq (e : Cx) : fin (cfgS e) (foLive lv) (PP.funcs.getD 28 default) = jk KR ret := by kernel_rfl
noncomputable def c0 (e : Cx) (J : P4 → AH → Res) : List Nat × Int × Unit → AH → Res
| (a0, a1, _), h =>
  cI .i64 (e.C n_stringslite_IndexByte [(.str a0), (.int .u8 a1)] h) fun x1 h2 =>
  J (x1, ()) h2
theorem c0_eq (e : Cx) (a0 : List Nat) (a1 : Int) (h : AH) (n : Kn) (ee : Ke) (r : Kn) : runL (cfgS e) lv 8 e.F (peel 2 (cP [0] B)).1 (iniT [(.str a0), (.int .u8 a1)] 0 .leaf) h n ee r = c0 e (fun t h => n (mkT K4 t) h) (a0, a1, ()) h := by kernel_rfl
noncomputable def fn (e : Cx) (a0 : List Nat) (a1 : Int) (h : AH) : Res :=
  c0 e (fun | (x3, _), h4 => ret ((.int .i64 x3), ()) h4) (a0, a1, ()) h
theorem run (e : Cx) (a0 : List Nat) (a1 : Int) (h : AH) : execFn (cfgS e) (foLive lv) e.F n_strings_IndexByte [(.str a0), (.int .u8 a1)] h = fn e a0 a1 h := by
  refine (fn_eq (c := cfgS e) (lv := lv) (PP.funcs.getD 28 default) B (by kernel_rfl) (by kernel_rfl) (Nat.le_of_ble_eq_true (by kernel_rfl))).trans ?_
  rw [ret_eq]
  exact nd_chain' (X := cP [0] B) (Y := (cP [2] B)) 2 (L := K4) (S := fun J => c0 e J (a0, a1, ()) h) (Q := fun | (x3, _), h4 => ret ((.int .i64 x3), ()) h4) (by kernel_rfl) (fun n => c0_eq e a0 a1 h n (exK []) (jk KR ret)) (fun | (x3, _), h4 => by kernel_rfl)
end strings_IndexByte
/-! (*strings.Builder).WriteByte -/
namespace strings_Builder_WriteByte
noncomputable def B : Code := cBody (PP.funcs.getD 29 default)
abbrev K2 : Slots := [(0, .any), (1, .int .u8)]
abbrev P2 := V × Int × Unit
abbrev K6 : Slots := []
abbrev P6 := Unit
abbrev K8 : Slots := [(4, .any)]
abbrev P8 := V × Unit
def lv : Nat → Option Slots := fun k =>
  bif Nat.beq k 2 then some K2 else bif Nat.beq k 4 then some K2 else bif Nat.beq k 6 then some K6 else bif Nat.beq k 8 then some K8 else none
abbrev KR : Slots := [(4, .any)]
abbrev PR := V × Unit
noncomputable def ret : P8 → AH → Res
| (x4, _), h => finW [some x4] h
theorem ret_eq (e : Cx) : fin (cfgS e) (foLive lv) (PP.funcs.getD 29 default) = jk K8 ret := by kernel_rfl
noncomputable def c0 (e : Cx) (J : P8 → AH → Res) : V × Int × Unit → AH → Res
| (a0, a1, _), h =>
  cV (e.C n_strings_Builder_copyCheck [a0] h) fun x1 h2 =>
  bV (absNilCheck a0) h2 fun x3 h4 =>
  bV (fA 1 x3) h4 fun x5 h6 =>
  bV (ld x5 h6) h6 fun x7 h8 =>
  cV (bsl 1 1 [(0, 1, (.int .u8 a1))] [.int .u8 0] T_uint8 h8) fun x9 h10 =>
  cV (app 1 1 T_uint8 x7 x9 h10) fun x11 h12 =>
  bV (absNilCheck a0) h12 fun x13 h14 =>
  bV (fA 1 x13) h14 fun x15 h16 =>
  bS (st 1 x15 x11 h16) fun h17 =>
  J ((.nilIface), ()) h17
theorem c0_eq (e : Cx) (a0 : V) (a1 : Int) (h : AH) (n : Kn) (ee : Ke) (r : Kn) : runL (cfgS e) lv 17 e.F (peel 4 (cP [0] B)).1 (iniT [a0, (.int .u8 a1)] 0 .leaf) h n ee r = c0 e (fun t h => n (mkT K8 t) h) (a0, a1, ()) h := by kernel_rfl
noncomputable def fn (e : Cx) (a0 : V) (a1 : Int) (h : AH) : Res :=
  c0 e ret (a0, a1, ()) h
theorem run (e : Cx) (a0 : V) (a1 : Int) (h : AH) : execFn (cfgS e) (foLive lv) e.F n_strings_Builder_WriteByte [a0, (.int .u8 a1)] h = fn e a0 a1 h := by
  refine (fn_eq (c := cfgS e) (lv := lv) (PP.funcs.getD 29 default) B (by kernel_rfl) (by kernel_rfl) (Nat.le_of_ble_eq_true (by kernel_rfl))).trans ?_
  rw [ret_eq]
  exact nd_chain' (X := cP [0] B) (Y := (cP [4] B)) 4 (L := K8) (S := fun J => c0 e J (a0, a1, ()) h) (Q := ret) (by kernel_rfl) (fun n => c0_eq e a0 a1 h n (exK []) (jk K8 ret)) (fun t h => by kernel_rfl)
end strings_Builder_WriteByte
/-! (*strings.Builder).String -/
namespace strings_Builder_String
noncomputable def B : Code := cBody (PP.funcs.getD 30 default)
abbrev K2 : Slots := [(0, .any)]
abbrev P2 := V × Unit
abbrev K4 : Slots := [(2, .str)]
abbrev P4 := List Nat × Unit
def lv : Nat → Option Slots := fun k =>
  bif Nat.beq k 2 then some K2 else bif Nat.beq k 4 then some K4 else none
abbrev KR : Slots := [(2, .any)]
abbrev PR := V × Unit
noncomputable def ret : PR → AH → Res
| (x2, _), h => finW [some x2] h
theorem ret_eq (e : Cx) : fin (cfgS e) (foLive lv) (PP.funcs.getD 30 default) = jk KR ret := by kernel_rfl
noncomputable def c0 (e : Cx) (J : P4 → AH → Res) : V × Unit → AH → Res
| (a0, _), h =>
  bV (absNilCheck a0) h fun x1 h2 =>
  bV (fA 1 x1) h2 fun x3 h4 =>
  bV (ld x3 h4) h4 fun x5 h6 =>
  bV (absSliceData x5) h6 fun x7 h8 =>
  bV (absNilCheck a0) h8 fun x9 h10 =>
  bV (fA 1 x9) h10 fun x11 h12 =>
  bV (ld x11 h12) h12 fun x13 h14 =>
  bI .i64 (lenS x13) h14 fun x15 h16 =>
  cZ (absUnsafeString PP T_p_uint8 x7 (.int .i64 x15) h16) fun x17 h18 =>
  J (x17, ()) h18
theorem c0_eq (e : Cx) (a0 : V) (h : AH) (n : Kn) (ee : Ke) (r : Kn) : runL (cfgS e) lv 14 e.F (peel 2 (cP [0] B)).1 (iniT [a0] 0 .leaf) h n ee r = c0 e (fun t h => n (mkT K4 t) h) (a0, ()) h := by kernel_rfl
noncomputable def fn (e : Cx) (a0 : V) (h : AH) : Res :=
  c0 e (fun | (x19, _), h20 => ret ((.str x19), ()) h20) (a0, ()) h
theorem run (e : Cx) (a0 : V) (h : AH) : execFn (cfgS e) (foLive lv) e.F n_strings_Builder_String [a0] h = fn e a0 h := by
  refine (fn_eq (c := cfgS e) (lv := lv) (PP.funcs.getD 30 default) B (by kernel_rfl) (by kernel_rfl) (Nat.le_of_ble_eq_true (by kernel_rfl))).trans ?_
  rw [ret_eq]
  exact nd_chain' (X := cP [0] B) (Y := (cP [2] B)) 2 (L := K4) (S := fun J => c0 e J (a0, ()) h) (Q := fun | (x19, _), h20 => ret ((.str x19), ()) h20) (by kernel_rfl) (fun n => c0_eq e a0 h n (exK []) (jk KR ret)) (fun | (x19, _), h20 => by kernel_rfl)
end strings_Builder_String
/-! codicil/codicilref01.digit -/
namespace r01_digit
noncomputable def B : Code := cBody (PP.funcs.getD 31 default)
abbrev K2 : Slots := [(0, .int .u8)]
abbrev P2 := Int × Unit
abbrev K4 : Slots := [(0, .int .u8), (3, .bool)]
abbrev P4 := Int × Bool × Unit
abbrev K8 : Slots := [(0, .int .u8), (13, .bool)]
abbrev P8 := Int × Bool × Unit
abbrev K10 : Slots := [(2, .int .i64)]
abbrev P10 := Int × Unit
abbrev K11 : Slots := []
abbrev P11 := Unit
def lv : Nat → Option Slots := fun k =>
  bif Nat.beq k 2 then some K2 else bif Nat.beq k 4 then some K4 else bif Nat.beq k 8 then some K8 else bif Nat.beq k 10 then some K10 else bif Nat.beq k 6 then some K10 else bif Nat.beq k 11 then some K11 else bif Nat.beq k 12 then some K10 else none
abbrev KR : Slots := [(2, .any)]
abbrev PR := V × Unit
noncomputable def ret : PR → AH → Res
| (x2, _), h => finW [some x2] h
theorem ret_eq (e : Cx) : fin (cfgS e) (foLive lv) (PP.funcs.getD 31 default) = jk KR ret := by kernel_rfl
noncomputable def c0 (e : Cx) (J : P2 → AH → Res) : Int × Unit → AH → Res
| (a0, _), h =>
  J (a0, ()) h
theorem c0_eq (e : Cx) (a0 : Int) (h : AH) (n : Kn) (ee : Ke) (r : Kn) : runL (cfgS e) lv 24 e.F (peel 1 (cP [0] B)).1 (iniT [(.int .u8 a0)] 0 .leaf) h n ee r = c0 e (fun t h => n (mkT K2 t) h) (a0, ()) h := by kernel_rfl
noncomputable def c5 (e : Cx) (J : P10 → AH → Res) : P11 → AH → Res
| (_), h =>
  J (16, ()) h
theorem c5_eq (e : Cx) (h : AH) (n : Kn) (ee : Ke) (r : Kn) : runL (cfgS e) lv 24 e.F (peel 1 (cP [2] B)).1 (mkT K11 (())) h n ee r = c5 e (fun t h => n (mkT K10 t) h) (()) h := by kernel_rfl
noncomputable def r5 (e : Cx) (Jn : PR → AH → Res) (Jr : PR → AH → Res) : P11 → AH → Res
| (_), h =>
  c5 e (fun | (x4, _), h5 => Jr ((.int .i64 x4), ()) h5) (()) h
theorem r5_eq (e : Cx) (Jn : PR → AH → Res) (Jr : PR → AH → Res) : ∀ t h, exL (cfgS e) lv 24 e.F (cP [2] B) (mkT K11 t) h (jk KR Jn) (exK []) (jk KR Jr) = r5 e Jn Jr t h
| (_), h => nd_chain' (X := cP [2] B) (Y := (cP [3] B)) 1 (L := K10) (S := fun J => c5 e J (()) h) (Q := fun | (x4, _), h5 => Jr ((.int .i64 x4), ()) h5) (by kernel_rfl) (fun n => c5_eq e h n (exK []) (jk KR Jr)) (fun | (x4, _), h5 => by kernel_rfl)
noncomputable def c1 (e : Cx) (J : P4 → AH → Res) : P2 → AH → Res
| (x3, _), h =>
  bif (decide (x3 ≥ 48)) then
    let x6 : Bool := (bif true then (decide (x3 ≤ 57)) else false)
    J (x3, x6, ()) h
  else
    J (x3, false, ()) h
theorem c1_eq (e : Cx) (x3 : Int) (h : AH) (n : Kn) (ee : Ke) (r : Kn) : runL (cfgS e) lv 24 e.F (peel 1 (cP [1, 1] B)).1 (mkT K2 (x3, ())) h n ee r = c1 e (fun t h => n (mkT K4 t) h) (x3, ()) h := by kernel_rfl
noncomputable def c2 (e : Cx) (J : P10 → AH → Res) : P4 → AH → Res
| (x10, x11, _), h =>
  J ((wr .i64 (wr .u8 (x10 - 48))), ()) h
theorem c2_eq (e : Cx) (x10 : Int) (x11 : Bool) (h : AH) (n : Kn) (ee : Ke) (r : Kn) : runL (cfgS e) lv 24 e.F (peel 1 (cP [1, 2, 0] B)).1 (mkT K4 (x10, x11, ())) h n ee r = c2 e (fun t h => n (mkT K10 t) h) (x10, x11, ()) h := by kernel_rfl
noncomputable def c3 (e : Cx) (J : P8 → AH → Res) : P4 → AH → Res
| (x10, x11, _), h =>
  bif (decide (x10 ≥ 97)) then
    let x14 : Bool := (bif true then (decide (x10 ≤ 102)) else false)
    J (x10, x14, ()) h
  else
    J (x10, false, ()) h
theorem c3_eq (e : Cx) (x10 : Int) (x11 : Bool) (h : AH) (n : Kn) (ee : Ke) (r : Kn) : runL (cfgS e) lv 24 e.F (peel 1 (cP [1, 3] B)).1 (mkT K4 (x10, x11, ())) h n ee r = c3 e (fun t h => n (mkT K8 t) h) (x10, x11, ()) h := by kernel_rfl
noncomputable def c4 (e : Cx) (J : P10 → AH → Res) : P8 → AH → Res
| (x18, x19, _), h =>
  let x20 : Int := (wr .i64 ((wr .i64 (wr .u8 (x18 - 97))) + 10))
  J (x20, ()) h
theorem c4_eq (e : Cx) (x18 : Int) (x19 : Bool) (h : AH) (n : Kn) (ee : Ke) (r : Kn) : runL (cfgS e) lv 24 e.F (peel 1 (cP [1, 4, 0] B)).1 (mkT K8 (x18, x19, ())) h n ee r = c4 e (fun t h => n (mkT K10 t) h) (x18, x19, ()) h := by kernel_rfl
noncomputable def k3 (e : Cx) (Jn : P11 → AH → Res) (J0 : P11 → AH → Res) (Jr : PR → AH → Res) : P8 → AH → Res
| (x18, x19, _), h =>
  bif x19 then c4 e (fun | (x21, _), h22 => Jr ((.int .i64 x21), ()) h22) (x18, x19, ()) h else Jn (()) h
theorem k3_eq (e : Cx) (Jn : P11 → AH → Res) (J0 : P11 → AH → Res) (Jr : PR → AH → Res) : ∀ t h, exL (cfgS e) lv 24 e.F (cP [1, 4] B) (mkT K8 t) h (jk K11 Jn) (exK [(0, (jk K11 J0))]) (jk KR Jr) = k3 e Jn J0 Jr t h
| (x18, x19, _), h => nd_cond' (X := cP [1, 4] B) (a := cP [1, 4, 0] B) (b := cP [1, 5] B) (t := x19) (x := .tmp 13) (by kernel_rfl) (by kernel_rfl) (nd_chain' (X := cP [1, 4, 0] B) (Y := (cP [1, 4, 1] B)) 1 (L := K10) (S := fun J => c4 e J (x18, x19, ()) h) (Q := fun | (x21, _), h22 => Jr ((.int .i64 x21), ()) h22) (by kernel_rfl) (fun n => c4_eq e x18 x19 h n (exK [(0, (jk K11 J0))]) (jk KR Jr)) (fun | (x21, _), h22 => by kernel_rfl)) (by kernel_rfl)
noncomputable def k1 (e : Cx) (Jn : P11 → AH → Res) (J0 : P11 → AH → Res) (Jr : PR → AH → Res) : P4 → AH → Res
| (x10, x11, _), h =>
  bif x11 then c2 e (fun | (x12, _), h13 => Jr ((.int .i64 x12), ()) h13) (x10, x11, ()) h else c3 e (k3 e Jn J0 Jr) (x10, x11, ()) h
theorem k1_eq (e : Cx) (Jn : P11 → AH → Res) (J0 : P11 → AH → Res) (Jr : PR → AH → Res) : ∀ t h, exL (cfgS e) lv 24 e.F (cP [1, 2] B) (mkT K4 t) h (jk K11 Jn) (exK [(0, (jk K11 J0))]) (jk KR Jr) = k1 e Jn J0 Jr t h
| (x10, x11, _), h => nd_cond' (X := cP [1, 2] B) (a := cP [1, 2, 0] B) (b := cP [1, 3] B) (t := x11) (x := .tmp 3) (by kernel_rfl) (by kernel_rfl) (nd_chain' (X := cP [1, 2, 0] B) (Y := (cP [1, 2, 1] B)) 1 (L := K10) (S := fun J => c2 e J (x10, x11, ()) h) (Q := fun | (x12, _), h13 => Jr ((.int .i64 x12), ()) h13) (by kernel_rfl) (fun n => c2_eq e x10 x11 h n (exK [(0, (jk K11 J0))]) (jk KR Jr)) (fun | (x12, _), h13 => by kernel_rfl)) (nd_chain' (X := cP [1, 3] B) (Y := (cP [1, 4] B)) 1 (L := K8) (S := fun J => c3 e J (x10, x11, ()) h) (Q := (k3 e Jn J0 Jr)) (by kernel_rfl) (fun n => c3_eq e x10 x11 h n (exK [(0, (jk K11 J0))]) (jk KR Jr)) (k3_eq e Jn J0 Jr))
noncomputable def k0 (e : Cx) (Jn : PR → AH → Res) (Jr : PR → AH → Res) : P2 → AH → Res
| (x3, _), h =>
  c1 e (k1 e (r5 e Jn Jr) (r5 e Jn Jr) Jr) (x3, ()) h
theorem k0_eq (e : Cx) (Jn : PR → AH → Res) (Jr : PR → AH → Res) : ∀ t h, exL (cfgS e) lv 24 e.F (cP [1] B) (mkT K2 t) h (jk KR Jn) (exK []) (jk KR Jr) = k0 e Jn Jr t h
| (x3, _), h => (nd_norm' (X := (cP [1] B)) (a := cP [1, 0] B) (b := cP [2] B) (L := K11) (by kernel_rfl) (by kernel_rfl) (by kernel_rfl) (SB := (r5 e Jn Jr)) (r5_eq e Jn Jr) _ _).trans (nd_block' (X := cP [1, 0] B) (id := 0) (b := cP [1, 1] B) (by kernel_rfl) (nd_chain' (X := cP [1, 1] B) (Y := (cP [1, 2] B)) 1 (L := K4) (S := fun J => c1 e J (x3, ()) h) (Q := (k1 e (r5 e Jn Jr) (r5 e Jn Jr) Jr)) (by kernel_rfl) (fun n => c1_eq e x3 h n (exK [(0, (jk K11 (r5 e Jn Jr)))]) (jk KR Jr)) (k1_eq e (r5 e Jn Jr) (r5 e Jn Jr) Jr)))
noncomputable def fn (e : Cx) (a0 : Int) (h : AH) : Res :=
  c0 e (k0 e ret ret) (a0, ()) h
theorem run (e : Cx) (a0 : Int) (h : AH) : execFn (cfgS e) (foLive lv) e.F n_r01_digit [(.int .u8 a0)] h = fn e a0 h := by
  refine (fn_eq (c := cfgS e) (lv := lv) (PP.funcs.getD 31 default) B (by kernel_rfl) (by kernel_rfl) (Nat.le_of_ble_eq_true (by kernel_rfl))).trans ?_
  rw [ret_eq]
  exact nd_chain' (X := cP [0] B) (Y := (cP [1] B)) 1 (L := K2) (S := fun J => c0 e J (a0, ()) h) (Q := (k0 e ret ret)) (by kernel_rfl) (fun n => c0_eq e a0 h n (exK []) (jk KR ret)) (k0_eq e ret ret)
end r01_digit
/-! bytes.Compare -/
namespace bytes_Compare
noncomputable def B : Code := cBody (PP.funcs.getD 32 default)
abbrev K2 : Slots := [(0, .any), (1, .any)]
abbrev P2 := V × V × Unit
abbrev K4 : Slots := [(4, .int .i64)]
abbrev P4 := Int × Unit
def lv : Nat → Option Slots := fun k =>
  bif Nat.beq k 2 then some K2 else bif Nat.beq k 4 then some K4 else none
abbrev KR : Slots := [(4, .any)]
abbrev PR := V × Unit
noncomputable def ret : PR → AH → Res
| (x4, _), h => finW [some x4] h
theorem ret_eq (e : Cx) : fin (cfgS e) (foLive lv) (PP.funcs.getD 32 default) = jk KR ret := by kernel_rfl
noncomputable def c0 (e : Cx) (J : P4 → AH → Res) : V × V × Unit → AH → Res
| (a0, a1, _), h =>
  cI .i64 (e.X n_bytealg_Compare [a0, a1] h) fun x1 h2 =>
  J (x1, ()) h2
theorem c0_eq (e : Cx) (a0 : V) (a1 : V) (h : AH) (n : Kn) (ee : Ke) (r : Kn) : runL (cfgS e) lv 8 e.F (peel 2 (cP [0] B)).1 (iniT [a0, a1] 0 .leaf) h n ee r = c0 e (fun t h => n (mkT K4 t) h) (a0, a1, ()) h := by kernel_rfl
noncomputable def fn (e : Cx) (a0 : V) (a1 : V) (h : AH) : Res :=
  c0 e (fun | (x3, _), h4 => ret ((.int .i64 x3), ()) h4) (a0, a1, ()) h
theorem run (e : Cx) (a0 : V) (a1 : V) (h : AH) : execFn (cfgS e) (foLive lv) e.F n_bytes_Compare [a0, a1] h = fn e a0 a1 h := by
  refine (fn_eq (c := cfgS e) (lv := lv) (PP.funcs.getD 32 default) B (by kernel_rfl) (by kernel_rfl) (Nat.le_of_ble_eq_true (by kernel_rfl))).trans ?_
  rw [ret_eq]
  exact nd_chain' (X := cP [0] B) (Y := (cP [2] B)) 2 (L := K4) (S := fun J => c0 e J (a0, a1, ()) h) (Q := fun | (x3, _), h4 => ret ((.int .i64 x3), ()) h4) (by kernel_rfl) (fun n => c0_eq e a0 a1 h n (exK []) (jk KR ret)) (fun | (x3, _), h4 => by kernel_rfl)
end bytes_Compare
/-! codicil/codicilref01.big -/
namespace r01_big
noncomputable def B : Code := cBody (PP.funcs.getD 33 default)
abbrev K2 : Slots := [(0, .any), (1, .int .i64)]
abbrev P2 := V × Int × Unit
abbrev K4 : Slots := [(4, .int .u32)]
abbrev P4 := Int × Unit
def lv : Nat → Option Slots := fun k =>
  bif Nat.beq k 2 then some K2 else bif Nat.beq k 4 then some K4 else none
abbrev KR : Slots := [(4, .any)]
abbrev PR := V × Unit
noncomputable def ret : PR → AH → Res
| (x4, _), h => finW [some x4] h
theorem ret_eq (e : Cx) : fin (cfgS e) (foLive lv) (PP.funcs.getD 33 default) = jk KR ret := by kernel_rfl
noncomputable def c0 (e : Cx) (J : P4 → AH → Res) : V × Int × Unit → AH → Res
| (a0, a1, _), h =>
  bV (ixS 1 a0 a1) h fun x1 h2 =>
  bI .u8 (ld x1 h2) h2 fun x3 h4 =>
  bV (ixS 1 a0 (wr .i64 (a1 + 1))) h4 fun x5 h6 =>
  bI .u8 (ld x5 h6) h6 fun x7 h8 =>
  let x9 : Int := (wr .u32 ((ishl .u32 (wr .u32 x3) 24) + (ishl .u32 (wr .u32 x7) 16)))
  bV (ixS 1 a0 (wr .i64 (a1 + 2))) h8 fun x10 h11 =>
  bI .u8 (ld x10 h11) h11 fun x12 h13 =>
  let x14 : Int := (wr .u32 (x9 + (ishl .u32 (wr .u32 x12) 8)))
  bV (ixS 1 a0 (wr .i64 (a1 + 3))) h13 fun x15 h16 =>
  bI .u8 (ld x15 h16) h16 fun x17 h18 =>
  J ((wr .u32 (x14 + (wr .u32 x17))), ()) h18
theorem c0_eq (e : Cx) (a0 : V) (a1 : Int) (h : AH) (n : Kn) (ee : Ke) (r : Kn) : runL (cfgS e) lv 34 e.F (peel 2 (cP [0] B)).1 (iniT [a0, (.int .i64 a1)] 0 .leaf) h n ee r = c0 e (fun t h => n (mkT K4 t) h) (a0, a1, ()) h := by kernel_rfl
noncomputable def fn (e : Cx) (a0 : V) (a1 : Int) (h : AH) : Res :=
  c0 e (fun | (x19, _), h20 => ret ((.int .u32 x19), ()) h20) (a0, a1, ()) h
theorem run (e : Cx) (a0 : V) (a1 : Int) (h : AH) : execFn (cfgS e) (foLive lv) e.F n_r01_big [a0, (.int .i64 a1)] h = fn e a0 a1 h := by
  refine (fn_eq (c := cfgS e) (lv := lv) (PP.funcs.getD 33 default) B (by kernel_rfl) (by kernel_rfl) (Nat.le_of_ble_eq_true (by kernel_rfl))).trans ?_
  rw [ret_eq]
  exact nd_chain' (X := cP [0] B) (Y := (cP [2] B)) 2 (L := K4) (S := fun J => c0 e J (a0, a1, ()) h) (Q := fun | (x19, _), h20 => ret ((.int .u32 x19), ()) h20) (by kernel_rfl) (fun n => c0_eq e a0 a1 h n (exK []) (jk KR ret)) (fun | (x19, _), h20 => by kernel_rfl)
end r01_big
/-! codicil/codicilref01.right -/
namespace r01_right
noncomputable def B : Code := cBody (PP.funcs.getD 34 default)
abbrev K2 : Slots := [(0, .int .u32), (1, .int .i64)]
abbrev P2 := Int × Int × Unit
abbrev K4 : Slots := [(4, .int .u32)]
abbrev P4 := Int × Unit
def lv : Nat → Option Slots := fun k =>
  bif Nat.beq k 2 then some K2 else bif Nat.beq k 4 then some K4 else none
abbrev KR : Slots := [(4, .any)]
abbrev PR := V × Unit
noncomputable def ret : PR → AH → Res
| (x4, _), h => finW [some x4] h
theorem ret_eq (e : Cx) : fin (cfgS e) (foLive lv) (PP.funcs.getD 34 default) = jk KR ret := by kernel_rfl
noncomputable def c0 (e : Cx) (J : P4 → AH → Res) : Int × Int × Unit → AH → Res
| (a0, a1, _), h =>
  bI .u32 (if a1 < 0 then none else some (.int .u32 (ishr .u32 a0 a1))) h fun x1 h2 =>
  bI .u32 (if (wr .i64 (32 - a1)) < 0 then none else some (.int .u32 (ishl .u32 a0 (wr .i64 (32 - a1))))) h2 fun x3 h4 =>
  J ((wr .u32 (x1 + x3)), ()) h4
theorem c0_eq (e : Cx) (a0 : Int) (a1 : Int) (h : AH) (n : Kn) (ee : Ke) (r : Kn) : runL (cfgS e) lv 13 e.F (peel 2 (cP [0] B)).1 (iniT [(.int .u32 a0), (.int .i64 a1)] 0 .leaf) h n ee r = c0 e (fun t h => n (mkT K4 t) h) (a0, a1, ()) h := by kernel_rfl
noncomputable def fn (e : Cx) (a0 : Int) (a1 : Int) (h : AH) : Res :=
  c0 e (fun | (x5, _), h6 => ret ((.int .u32 x5), ()) h6) (a0, a1, ()) h
theorem run (e : Cx) (a0 : Int) (a1 : Int) (h : AH) : execFn (cfgS e) (foLive lv) e.F n_r01_right [(.int .u32 a0), (.int .i64 a1)] h = fn e a0 a1 h := by
  refine (fn_eq (c := cfgS e) (lv := lv) (PP.funcs.getD 34 default) B (by kernel_rfl) (by kernel_rfl) (Nat.le_of_ble_eq_true (by kernel_rfl))).trans ?_
  rw [ret_eq]
  exact nd_chain' (X := cP [0] B) (Y := (cP [2] B)) 2 (L := K4) (S := fun J => c0 e J (a0, a1, ()) h) (Q := fun | (x5, _), h6 => ret ((.int .u32 x5), ()) h6) (by kernel_rfl) (fun n => c0_eq e a0 a1 h n (exK []) (jk KR ret)) (fun | (x5, _), h6 => by kernel_rfl)
end r01_right
/-! codicil/codicilref01.constants -/
namespace r01_constants
noncomputable def B : Code := cBody (PP.funcs.getD 35 default)
abbrev K2 : Slots := [(0, .any)]
abbrev P2 := V × Unit
def lv : Nat → Option Slots := fun k =>
  bif Nat.beq k 2 then some K2 else bif Nat.beq k 4 then some K2 else none
abbrev KR : Slots := [(0, .any)]
abbrev PR := V × Unit
noncomputable def ret : P2 → AH → Res
| (x0, _), h => finW [ldA 64 x0 h] h
theorem ret_eq (e : Cx) : fin (cfgS e) (foLive lv) (PP.funcs.getD 35 default) = jk K2 ret := by kernel_rfl
noncomputable def c0 (e : Cx) (J : P2 → AH → Res) : Unit → AH → Res
| (_), h =>
  let x1 := (al (List.replicate 64 (.int .u32 0)) T_a64_uint32 h).1
  let h2 := (al (List.replicate 64 (.int .u32 0)) T_a64_uint32 h).2
  bA (bld [(0, 1, (.int .u32 1116352408)), (1, 1, (.int .u32 1899447441)), (2, 1, (.int .u32 3049323471)), (3, 1, (.int .u32 3921009573)), (4, 1, (.int .u32 961987163)), (5, 1, (.int .u32 1508970993)), (6, 1, (.int .u32 2453635748)), (7, 1, (.int .u32 2870763221)), (8, 1, (.int .u32 3624381080)), (9, 1, (.int .u32 310598401)), (10, 1, (.int .u32 607225278)), (11, 1, (.int .u32 1426881987)), (12, 1, (.int .u32 1925078388)), (13, 1, (.int .u32 2162078206)), (14, 1, (.int .u32 2614888103)), (15, 1, (.int .u32 3248222580)), (16, 1, (.int .u32 3835390401)), (17, 1, (.int .u32 4022224774)), (18, 1, (.int .u32 264347078)), (19, 1, (.int .u32 604807628)), (20, 1, (.int .u32 770255983)), (21, 1, (.int .u32 1249150122)), (22, 1, (.int .u32 1555081692)), (23, 1, (.int .u32 1996064986)), (24, 1, (.int .u32 2554220882)), (25, 1, (.int .u32 2821834349)), (26, 1, (.int .u32 2952996808)), (27, 1, (.int .u32 3210313671)), (28, 1, (.int .u32 3336571891)), (29, 1, (.int .u32 3584528711)), (30, 1, (.int .u32 113926993)), (31, 1, (.int .u32 338241895)), (32, 1, (.int .u32 666307205)), (33, 1, (.int .u32 773529912)), (34, 1, (.int .u32 1294757372)), (35, 1, (.int .u32 1396182291)), (36, 1, (.int .u32 1695183700)), (37, 1, (.int .u32 1986661051)), (38, 1, (.int .u32 2177026350)), (39, 1, (.int .u32 2456956037)), (40, 1, (.int .u32 2730485921)), (41, 1, (.int .u32 2820302411)), (42, 1, (.int .u32 3259730800)), (43, 1, (.int .u32 3345764771)), (44, 1, (.int .u32 3516065817)), (45, 1, (.int .u32 3600352804)), (46, 1, (.int .u32 4094571909)), (47, 1, (.int .u32 275423344)), (48, 1, (.int .u32 430227734)), (49, 1, (.int .u32 506948616)), (50, 1, (.int .u32 659060556)), (51, 1, (.int .u32 883997877)), (52, 1, (.int .u32 958139571)), (53, 1, (.int .u32 1322822218)), (54, 1, (.int .u32 1537002063)), (55, 1, (.int .u32 1747873779)), (56, 1, (.int .u32 1955562222)), (57, 1, (.int .u32 2024104815)), (58, 1, (.int .u32 2227730452)), (59, 1, (.int .u32 2361852424)), (60, 1, (.int .u32 2428436474)), (61, 1, (.int .u32 2756734187)), (62, 1, (.int .u32 3204031479)), (63, 1, (.int .u32 3329325298))] (List.replicate 64 (.int .u32 0))) h2 fun x3 h4 =>
  bS (st 64 x1 (.agg x3) h4) fun h5 =>
  J (x1, ()) h5
theorem c0_eq (e : Cx) (h : AH) (n : Kn) (ee : Ke) (r : Kn) : runL (cfgS e) lv 2 e.F (peel 2 (cP [0] B)).1 (iniT [] 0 .leaf) h n ee r = c0 e (fun t h => n (mkT K2 t) h) (()) h := by kernel_rfl
noncomputable def fn (e : Cx) (h : AH) : Res :=
  c0 e ret (()) h
theorem run (e : Cx) (h : AH) : execFn (cfgS e) (foLive lv) e.F n_r01_constants [] h = fn e  h := by
  refine (fn_eq (c := cfgS e) (lv := lv) (PP.funcs.getD 35 default) B (by kernel_rfl) (by kernel_rfl) (Nat.le_of_ble_eq_true (by kernel_rfl))).trans ?_
  rw [ret_eq]
  exact nd_chain' (X := cP [0] B) (Y := (cP [2] B)) 2 (L := K2) (S := fun J => c0 e J (()) h) (Q := ret) (by kernel_rfl) (fun n => c0_eq e h n (exK []) (jk K2 ret)) (fun t h => by kernel_rfl)
end r01_constants
/-! internal/stringslite.IndexByte -/
namespace stringslite_IndexByte
noncomputable def B : Code := cBody (PP.funcs.getD 36 default)
abbrev K2 : Slots := [(0, .str), (1, .int .u8)]
abbrev P2 := List Nat × Int × Unit
abbrev K4 : Slots := [(4, .int .i64)]
abbrev P4 := Int × Unit
def lv : Nat → Option Slots := fun k =>
  bif Nat.beq k 2 then some K2 else bif Nat.beq k 4 then some K4 else none
abbrev KR : Slots := [(4, .any)]
abbrev PR := V × Unit
noncomputable def ret : PR → AH → Res
| (x4, _), h => finW [some x4] h
theorem ret_eq (e : Cx) : fin (cfgS e) (foLive lv) (PP.funcs.getD 36 default) = jk KR ret := by kernel_rfl
noncomputable def c0 (e : Cx) (J : P4 → AH → Res) : List Nat × Int × Unit → AH → Res
| (a0, a1, _), h =>
  cI .i64 (e.X n_bytealg_IndexByteString [(.str a0), (.int .u8 a1)] h) fun x1 h2 =>
  J (x1, ()) h2
theorem c0_eq (e : Cx) (a0 : List Nat) (a1 : Int) (h : AH) (n : Kn) (ee : Ke) (r : Kn) : runL (cfgS e) lv 8 e.F (peel 2 (cP [0] B)).1 (iniT [(.str a0), (.int .u8 a1)] 0 .leaf) h n ee r = c0 e (fun t h => n (mkT K4 t) h) (a0, a1, ()) h := by kernel_rfl
noncomputable def fn (e : Cx) (a0 : List Nat) (a1 : Int) (h : AH) : Res :=
  c0 e (fun | (x3, _), h4 => ret ((.int .i64 x3), ()) h4) (a0, a1, ()) h
theorem run (e : Cx) (a0 : List Nat) (a1 : Int) (h : AH) : execFn (cfgS e) (foLive lv) e.F n_stringslite_IndexByte [(.str a0), (.int .u8 a1)] h = fn e a0 a1 h := by
  refine (fn_eq (c := cfgS e) (lv := lv) (PP.funcs.getD 36 default) B (by kernel_rfl) (by kernel_rfl) (Nat.le_of_ble_eq_true (by kernel_rfl))).trans ?_
  rw [ret_eq]
  exact nd_chain' (X := cP [0] B) (Y := (cP [2] B)) 2 (L := K4) (S := fun J => c0 e J (a0, a1, ()) h) (Q := fun | (x3, _), h4 => ret ((.int .i64 x3), ()) h4) (by kernel_rfl) (fun n => c0_eq e a0 a1 h n (exK []) (jk KR ret)) (fun | (x3, _), h4 => by kernel_rfl)
end stringslite_IndexByte
/-! (*strings.Builder).copyCheck -/
namespace strings_Builder_copyCheck
noncomputable def B : Code := cBody (PP.funcs.getD 37 default)
abbrev K2 : Slots := [(0, .any), (6, .bool)]
abbrev P2 := V × Bool × Unit
abbrev K6 : Slots := [(19, .bool)]
abbrev P6 := Bool × Unit
abbrev K4 : Slots := []
abbrev P4 := Unit
def lv : Nat → Option Slots := fun k =>
  bif Nat.beq k 2 then some K2 else bif Nat.beq k 6 then some K6 else bif Nat.beq k 4 then some K4 else none
abbrev KR : Slots := []
abbrev PR := Unit
noncomputable def ret : P4 → AH → Res
| (_), h => finW [] h
theorem ret_eq (e : Cx) : fin (cfgS e) (foLive lv) (PP.funcs.getD 37 default) = jk K4 ret := by kernel_rfl
noncomputable def c0 (e : Cx) (J : P2 → AH → Res) : V × Unit → AH → Res
| (a0, _), h =>
  bV (absNilCheck a0) h fun x1 h2 =>
  bV (fA 0 x1) h2 fun x3 h4 =>
  bV (ld x3 h4) h4 fun x5 h6 =>
  bB (eqW PP true T_p_strings_Builder x5 (.nilptr)) h6 fun x7 h8 =>
  J (a0, x7, ()) h8
theorem c0_eq (e : Cx) (a0 : V) (h : AH) (n : Kn) (ee : Ke) (r : Kn) : runL (cfgS e) lv 20 e.F (peel 1 (cP [0] B)).1 (iniT [a0] 0 .leaf) h n ee r = c0 e (fun t h => n (mkT K2 t) h) (a0, ()) h := by kernel_rfl
noncomputable def c1 (e : Cx) (J : P4 → AH → Res) : P2 → AH → Res
| (x12, x13, _), h =>
  cV (cvt PP T_p_strings_Builder T_unsafe_Pointer x12 h) fun x14 h15 =>
  cV (e.X n_abi_NoEscape [x14] h15) fun x16 h17 =>
  cV (cvt PP T_unsafe_Pointer T_p_strings_Builder x16 h17) fun x18 h19 =>
  bV (absNilCheck x12) h19 fun x20 h21 =>
  bV (fA 0 x20) h21 fun x22 h23 =>
  bS (st 1 x22 x18 h23) fun h24 =>
  J (()) h24
theorem c1_eq (e : Cx) (x12 : V) (x13 : Bool) (h : AH) (n : Kn) (ee : Ke) (r : Kn) : runL (cfgS e) lv 20 e.F (peel 1 (cP [1, 0] B)).1 (mkT K2 (x12, x13, ())) h n ee r = c1 e (fun t h => n (mkT K4 t) h) (x12, x13, ()) h := by kernel_rfl
noncomputable def c2 (e : Cx) (J : P6 → AH → Res) : P2 → AH → Res
| (x12, x13, _), h =>
  bV (absNilCheck x12) h fun x26 h27 =>
  bV (fA 0 x26) h27 fun x28 h29 =>
  bV (ld x28 h29) h29 fun x30 h31 =>
  bB (neW PP false T_p_strings_Builder x30 x12) h31 fun x32 h33 =>
  J (x32, ()) h33
theorem c2_eq (e : Cx) (x12 : V) (x13 : Bool) (h : AH) (n : Kn) (ee : Ke) (r : Kn) : runL (cfgS e) lv 20 e.F (peel 1 (cP [2] B)).1 (mkT K2 (x12, x13, ())) h n ee r = c2 e (fun t h => n (mkT K6 t) h) (x12, x13, ()) h := by kernel_rfl
noncomputable def k2 (e : Cx) (Jn : P4 → AH → Res) (Jr : P4 → AH → Res) : P6 → AH → Res
| (x36, _), h =>
  bif x36 then none else Jn (()) h
theorem k2_eq (e : Cx) (Jn : P4 → AH → Res) (Jr : P4 → AH → Res) : ∀ t h, exL (cfgS e) lv 20 e.F (cP [3] B) (mkT K6 t) h (jk K4 Jn) (exK []) (jk K4 Jr) = k2 e Jn Jr t h
| (x36, _), h => nd_cond' (X := cP [3] B) (a := cP [3, 0] B) (b := cP [4] B) (t := x36) (x := .tmp 19) (by kernel_rfl) (by kernel_rfl) (by kernel_rfl) (by kernel_rfl)
noncomputable def k0 (e : Cx) (Jn : P4 → AH → Res) (Jr : P4 → AH → Res) : P2 → AH → Res
| (x12, x13, _), h =>
  bif x13 then c1 e Jn (x12, x13, ()) h else c2 e (k2 e Jn Jr) (x12, x13, ()) h
theorem k0_eq (e : Cx) (Jn : P4 → AH → Res) (Jr : P4 → AH → Res) : ∀ t h, exL (cfgS e) lv 20 e.F (cP [1] B) (mkT K2 t) h (jk K4 Jn) (exK []) (jk K4 Jr) = k0 e Jn Jr t h
| (x12, x13, _), h => nd_cond' (X := cP [1] B) (a := cP [1, 0] B) (b := cP [2] B) (t := x13) (x := .tmp 6) (by kernel_rfl) (by kernel_rfl) (nd_chain' (X := cP [1, 0] B) (Y := .skip) 1 (L := K4) (S := fun J => c1 e J (x12, x13, ()) h) (Q := Jn) (by kernel_rfl) (fun n => c1_eq e x12 x13 h n (exK []) (jk K4 Jr)) (fun t h => by kernel_rfl)) (nd_chain' (X := cP [2] B) (Y := (cP [3] B)) 1 (L := K6) (S := fun J => c2 e J (x12, x13, ()) h) (Q := (k2 e Jn Jr)) (by kernel_rfl) (fun n => c2_eq e x12 x13 h n (exK []) (jk K4 Jr)) (k2_eq e Jn Jr))
noncomputable def fn (e : Cx) (a0 : V) (h : AH) : Res :=
  c0 e (k0 e ret ret) (a0, ()) h
theorem run (e : Cx) (a0 : V) (h : AH) : execFn (cfgS e) (foLive lv) e.F n_strings_Builder_copyCheck [a0] h = fn e a0 h := by
  refine (fn_eq (c := cfgS e) (lv := lv) (PP.funcs.getD 37 default) B (by kernel_rfl) (by kernel_rfl) (Nat.le_of_ble_eq_true (by kernel_rfl))).trans ?_
  rw [ret_eq]
  exact nd_chain' (X := cP [0] B) (Y := (cP [1] B)) 1 (L := K2) (S := fun J => c0 e J (a0, ()) h) (Q := (k0 e ret ret)) (by kernel_rfl) (fun n => c0_eq e a0 h n (exK []) (jk K4 ret)) (k0_eq e ret ret)
end strings_Builder_copyCheck

end Go.Proofs.YtbeohojepniioaaDoor
