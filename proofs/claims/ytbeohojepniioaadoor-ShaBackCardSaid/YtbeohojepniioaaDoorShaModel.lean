/-
  What the two ways through a block reckon, on plain numbers: as the program's operations stand. No program in sight.
-/
import Derived.Test.YtbeohojepniioaaDoorShaEnv
set_option linter.unusedVariables false
set_option linter.unusedSimpArgs false
namespace Go.Proofs.YtbeohojepniioaaDoor
open Go

/-! ## Words of 32 bits -/
def w32 (n : Int) : Int := IntKind.wrap .u32 n
def ad (a b : Int) : Int := IntKind.wrap .u32 (a + b)
def xo (a b : Int) : Int := IntKind.wrap .u32 (BitVec.ofInt 32 a ^^^ BitVec.ofInt 32 b).toNat
def an (a b : Int) : Int := IntKind.wrap .u32 (BitVec.ofInt 32 a &&& BitVec.ofInt 32 b).toNat
def orr (a b : Int) : Int := IntKind.wrap .u32 (BitVec.ofInt 32 a ||| BitVec.ofInt 32 b).toNat
def no (a : Int) : Int := IntKind.wrap .u32 (BitVec.ofInt 32 4294967295 ^^^ BitVec.ofInt 32 a).toNat
def sl (a : Int) (n : Nat) : Int := IntKind.wrap .u32 (a * 2 ^ n)
def sr (a : Int) (n : Nat) : Int := a.fdiv (2 ^ n)
def rot (x : Int) (s : Nat) : Int := orr (sl x s) (sr x (32 - s))

/-! ## The program's Block -/
def word (b : List Int) : List Int := match b with
  | [p, q, r, s] => [orr (orr (orr (sl (w32 p) 24) (sl (w32 q) 16)) (sl (w32 r) 8)) (w32 s)]
  | _ => []
def words : Nat → List Int → List Int → List Int
  | 0, _, acc => acc
  | n + 1, b, acc => words n (b.drop 4) (word (b.take 4) ++ acc)
/-- The words behind the sixteen, the last one first. -/
def more1 (r : List Int) : Int :=
  let x := r.getD 14 0
  let y := r.getD 1 0
  ad (ad (ad (r.getD 15 0) (xo (xo (rot x 25) (rot x 14)) (sr x 3))) (r.getD 6 0)) (xo (xo (rot y 15) (rot y 13)) (sr y 10))
def more : Nat → List Int → List Int
  | 0, r => r
  | n + 1, r => more n (more1 r :: r)
structure S8 where
  a : Int
  b : Int
  c : Int
  d : Int
  e : Int
  f : Int
  g : Int
  h : Int
def uOf (s : S8) (k w : Int) : Int := ad (ad (ad (ad s.h (xo (xo (rot s.e 26) (rot s.e 21)) (rot s.e 7))) (orr (an s.e s.f) (an (no s.e) s.g))) k) w
def vOf (s : S8) : Int := ad (xo (xo (rot s.a 30) (rot s.a 19)) (rot s.a 10)) (xo (xo (an s.a s.b) (an s.a s.c)) (an s.b s.c))
def round (s : S8) (k w : Int) : S8 := ⟨ad (uOf s k w) (vOf s), s.a, s.b, s.c, ad s.d (uOf s k w), s.e, s.f, s.g⟩
def rounds : List Int → List Int → S8 → S8
  | k :: ks, w :: ws, s => rounds ks ws (round s k w)
  | _, _, s => s
def s8 (l : List Int) : S8 := ⟨l.getD 0 0, l.getD 1 0, l.getD 2 0, l.getD 3 0, l.getD 4 0, l.getD 5 0, l.getD 6 0, l.getD 7 0⟩
def addS (x y : S8) : List Int := [ad x.a y.a, ad x.b y.b, ad x.c y.c, ad x.d y.d, ad x.e y.e, ad x.f y.f, ad x.g y.g, ad x.h y.h]
def blockA (ks hs bs : List Int) : List Int := addS (s8 hs) (rounds ks (more 48 (words 16 bs [])).reverse (s8 hs))

/-! ## The document's block -/
def rgt (x : Int) (n : Nat) : Int := ad (sr x n) (sl x (32 - n))
def wordB (b : List Int) : List Int := match b with
  | [p, q, r, s] => [ad (ad (ad (sl (w32 p) 24) (sl (w32 q) 16)) (sl (w32 r) 8)) (w32 s)]
  | _ => []
def wordsB : Nat → List Int → List Int → List Int
  | 0, _, acc => acc
  | n + 1, b, acc => wordsB n (b.drop 4) (wordB (b.take 4) ++ acc)
def moreB1 (r : List Int) : Int :=
  let x := r.getD 14 0
  let y := r.getD 1 0
  ad (ad (ad (r.getD 15 0) (r.getD 6 0)) (xo (xo (rgt x 7) (rgt x 18)) (sr x 3))) (xo (xo (rgt y 17) (rgt y 19)) (sr y 10))
def moreB : Nat → List Int → List Int
  | 0, r => r
  | n + 1, r => moreB n (moreB1 r :: r)
def uOfB (s : S8) (k w : Int) : Int := ad (ad (ad (ad s.h (xo (xo (rgt s.e 6) (rgt s.e 11)) (rgt s.e 25))) (xo (an s.e s.f) (an (no s.e) s.g))) k) w
def vOfB (s : S8) : Int := ad (xo (xo (rgt s.a 2) (rgt s.a 13)) (rgt s.a 22)) (xo (xo (an s.a s.b) (an s.a s.c)) (an s.b s.c))
def roundB (s : S8) (k w : Int) : S8 := ⟨ad (uOfB s k w) (vOfB s), s.a, s.b, s.c, ad s.d (uOfB s k w), s.e, s.f, s.g⟩
def roundsB : List Int → List Int → S8 → S8
  | k :: ks, w :: ws, s => roundsB ks ws (roundB s k w)
  | _, _, s => s
def blockB (ks hs bs : List Int) : List Int := addS (s8 hs) (roundsB ks (moreB 48 (wordsB 16 bs [])).reverse (s8 hs))
end Go.Proofs.YtbeohojepniioaaDoor
