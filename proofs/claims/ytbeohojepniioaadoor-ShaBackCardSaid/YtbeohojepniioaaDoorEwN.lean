/-
  The words in which functions are told: operations without a program. No program in sight. No condition.
-/
import Derived.Test.YtbeohojepniioaaDoorEwM
set_option linter.unusedVariables false
set_option linter.unusedSimpArgs false
namespace Go.Proofs.YtbeohojepniioaaDoor.Ev
open Go

abbrev Fn := List V → AH → Res
/-- What a function's parts are over: the other functions, those without a body, the rounds. -/
structure Cx where
  C : Nat → Fn
  X : Nat → Fn
  F : Nat
abbrev wr (k : IntKind) (n : Int) : Int := k.wrap n
def iand (k : IntKind) (a b : Int) : Int := k.wrap (BitVec.ofInt k.bits a &&& BitVec.ofInt k.bits b).toNat
def ior (k : IntKind) (a b : Int) : Int := k.wrap (BitVec.ofInt k.bits a ||| BitVec.ofInt k.bits b).toNat
def ixor (k : IntKind) (a b : Int) : Int := k.wrap (BitVec.ofInt k.bits a ^^^ BitVec.ofInt k.bits b).toNat
def iandn (k : IntKind) (a b : Int) : Int := k.wrap (BitVec.ofInt k.bits a &&& ~~~ BitVec.ofInt k.bits b).toNat
def inot (k : IntKind) (n : Int) : Int := k.wrap (BitVec.ofInt k.bits (if k.signed then -1 else k.max) ^^^ BitVec.ofInt k.bits n).toNat
def ishl (k : IntKind) (a b : Int) : Int := k.wrap (a * 2 ^ min b.toNat k.bits)
def ishr (k : IntKind) (a b : Int) : Int := a.fdiv (2 ^ min b.toNat k.bits)
def imax (a b : Int) : Int := if b > a then b else a
def imin (a b : Int) : Int := if b < a then b else a

/-! ## One behind the other -/
noncomputable def bV (o : Option V) (h : AH) (F : V → AH → Res) : Res :=
  match o.map fun v => (v, h) with
  | none => none
  | some (v, h') => F v h'
noncomputable def bI (k : IntKind) (o : Option V) (h : AH) (F : Int → AH → Res) : Res := bV o h fun v h => ckI k v fun x => F x h
noncomputable def bB (o : Option V) (h : AH) (F : Bool → AH → Res) : Res := bV o h fun v h => ckB v fun x => F x h
noncomputable def bZ (o : Option V) (h : AH) (F : List Nat → AH → Res) : Res := bV o h fun v h => ckS v fun x => F x h
noncomputable def bA (o : Option V) (h : AH) (F : List V → AH → Res) : Res := bV o h fun v h => ckA v fun x => F x h
noncomputable def cV (o : Res) (F : V → AH → Res) : Res :=
  match o with
  | none => none
  | some (v, h') => F v h'
noncomputable def cI (k : IntKind) (o : Res) (F : Int → AH → Res) : Res := cV o fun v h => ckI k v fun x => F x h
noncomputable def cB (o : Res) (F : Bool → AH → Res) : Res := cV o fun v h => ckB v fun x => F x h
noncomputable def cZ (o : Res) (F : List Nat → AH → Res) : Res := cV o fun v h => ckS v fun x => F x h
noncomputable def cA (o : Res) (F : List V → AH → Res) : Res := cV o fun v h => ckA v fun x => F x h
noncomputable def bS (o : Option AH) (F : AH → Res) : Res :=
  match o.map fun h => (V.bad, h) with
  | none => none
  | some (_, h') => F h'

/-! ## Operations -/
noncomputable def ld (p : V) (h : AH) : Option V :=
  match p with
  | .ptr a => match readN h a 1 with
    | some [v] => some v
    | _ => none
  | _ => none
noncomputable def ldA (n : Nat) (p : V) (h : AH) : Option V :=
  match p with
  | .ptr a => (readN h a n).map .agg
  | _ => none
noncomputable def st (n : Nat) (p v : V) (h : AH) : Option AH :=
  match p with
  | .ptr a => if true = true ∧ v.cells.length = n then writeN h a v.cells else none
  | _ => none
def fA (off : Nat) (p : V) : Option V :=
  match p with
  | .ptr a => some (.ptr ⟨a.b, a.L, a.o + off⟩)
  | _ => none
def ixA (n z : Nat) (p : V) (i : Int) : Option V :=
  match p with
  | .ptr a => if 0 ≤ i ∧ i < n ∧ true = true then some (.ptr ⟨a.b, a.L, a.o + i.toNat * z⟩) else none
  | _ => none
def ixS (z : Nat) (s : V) (i : Int) : Option V :=
  match s with
  | .slice a n _ _ _ => if 0 ≤ i ∧ i < n ∧ true = true then some (.ptr ⟨a.b, a.L, a.o + i.toNat * z⟩) else none
  | _ => none
def ixC (n z : Nat) (cs : List V) (i : Int) : Option V := if 0 ≤ i ∧ i < n then cs[i.toNat * z]? else none
def ixCA (n z : Nat) (cs : List V) (i : Int) : Option V := if 0 ≤ i ∧ i < n then some (.agg ((cs.drop (i.toNat * z)).take z)) else none
def ixZ (s : List Nat) (i : Int) : Option V := (strAt s i).map fun (b : Nat) => .int .u8 b
noncomputable def slA (n z : Nat) (p : V) (lo hi mx : Option V) (h : AH) : Option V :=
  match p with
  | .ptr a =>
    match h.get a.b with
    | some k => if k.minL ≤ a.L ∧ a.o + n * z ≤ a.L ∧ true = true then cutV a z n n true lo hi mx else none
    | none => none
  | _ => none
def slS (z : Nat) (s : V) (lo hi mx : Option V) : Option V :=
  match s with
  | .slice a n cap ex z' => if z' = z ∧ true = true then cutV a z' n cap ex lo hi mx else none
  | .nilslice =>
    match mx with
    | none =>
      match bnd hi 0 0 with
      | none => none
      | some h' => match bnd lo 0 h' with
        | none => none
        | some _ => if true = true then some .nilslice else none
    | some _ => none
  | .loose =>
    match mx with
    | none =>
      match bnd hi 0 0 with
      | none => none
      | some h' => match bnd lo 0 h' with
        | none => none
        | some _ => if true = true then some .loose else none
    | some _ => none
  | _ => none
def slZ (s : List Nat) (lo hi : Option V) : Option V :=
  match bnd hi s.length s.length with
  | none => none
  | some h' => match bnd lo 0 h' with
    | none => none
    | some l => some (.str ((s.drop l).take (h' - l)))
def lenS (s : V) : Option V :=
  match s with
  | .slice _ n _ _ _ => some (.int .i64 n)
  | .nilslice => some (.int .i64 0)
  | .loose => some (.int .i64 0)
  | _ => none
def capS (s : V) : Option V :=
  match s with
  | .slice _ _ c true _ => some (.int .i64 c)
  | .nilslice => some (.int .i64 0)
  | _ => none
noncomputable def al (zs : List V) (e : Nat) (h : AH) : V × AH := (.ptr ⟨h.next, zs.length, 0⟩, h.add ⟨Arr.make zs.length zs, 0, 0, false, e⟩)
noncomputable def mkS (z by_ : Nat) (zs : List V) (e : Nat) (l c : Int) (h : AH) : Res :=
  if 0 < z ∧ 0 ≤ l ∧ l ≤ c ∧ c ≤ 9223372036854775807 ∧ (by_ : Int) * c ≤ 281474976710656 then
    some (.slice ⟨h.next, c.toNat * z, 0⟩ l.toNat c.toNat true z, h.add ⟨Arr.make (c.toNat * z) zs, 0, 0, false, e⟩)
  else none
def fillW : List (Nat × Nat × V) → List V → Option (List V)
  | [], cs => some cs
  | (off, size, v) :: rest, cs => if v.isBad = false ∧ v.cells.length = size ∧ off + size ≤ cs.length then fillW rest (putL v.cells off cs) else none
def bld (ps : List (Nat × Nat × V)) (zs : List V) : Option V := (fillW ps zs).map .agg
noncomputable def bsl (z n : Nat) (ps : List (Nat × Nat × V)) (zs : List V) (e : Nat) (h : AH) : Res :=
  match fillW ps (List.replicate n zs).flatten with
  | some cs => if cs.all V.cell then some (.slice ⟨h.next, cs.length, 0⟩ n n true z, h.add ⟨Arr.ofList cs, 0, 0, false, e⟩) else none
  | none => none
noncomputable def toS (s : V) (h : AH) : Res :=
  match s with
  | .slice a n cap ex z => (absToStr (.slice a n cap ex z) h).map fun v => (v, h)
  | .nilslice => some (.str [], h)
  | .loose => some (.str [], h)
  | .str s => some (.str s, h)
  | _ => none
def capW (by_ need : Nat) : Bool := Nat.ble need 4611686018427387904 && Nat.ble (Nat.mul (Nat.add (Nat.mul 2 need) 192) by_) 281474976710656
noncomputable def app (z by_ e : Nat) (s x : V) (h : AH) : Res :=
  match srcLen x with
  | none => none
  | some n =>
    match srcCells x z n h with
    | none => none
    | some new =>
      if new.length = n * z then
      match s with
      | .nilslice =>
        if n = 0 then some (.nilslice, h)
        else if capW by_ n = true ∧ new.all V.cell = true then some (.slice ⟨h.next, new.length, 0⟩ n n false z, h.add ⟨Arr.ofList new, 0, 0, false, e⟩)
        else none
      | .loose => if n = 0 then some (.loose, h) else none
      | .slice a sn cap ex z' =>
        if z' = z then
          if sn + n ≤ cap then
            if n = 0 then some (.slice a sn cap ex z', h)
            else (writeN h ⟨a.b, a.L, a.o + sn * z'⟩ new).map fun h' => (.slice a (sn + n) cap ex z', h')
          else if capW by_ (sn + n) = true ∧ new.all V.cell = true then
            if ex then
              match readN h a (sn * z') with
              | some old => if old.all V.cell = true then some (.slice ⟨h.next, (old ++ new).length, 0⟩ (sn + n) (sn + n) false z', h.add ⟨Arr.ofList (old ++ new), 0, 0, false, e⟩) else none
              | none => none
            else
              match h.get a.b with
              | some k =>
                if a.L = k.cells.n ∧ a.o + sn * z' = a.L ∧ k.ro = false ∧ k.minL ≤ a.L ∧ k.fz ≤ a.L ∧ k.e = e then some (.slice ⟨a.b, a.L + new.length, a.o⟩ (sn + n) (sn + n) false z', h.grow a.b k new) else none
              | none => none
          else none
        else none
      | _ => none
      else none
noncomputable def cpy (z : Nat) (d x : V) (h : AH) : Res :=
  match srcLen x, srcLen d with
  | some m, some dn =>
    if Nat.min m dn = 0 then (match d with | .str _ => none | _ => some (.int .i64 0, h)) else
    match srcCells x z (Nat.min m dn) h, d with
    | some cs, .slice a _ _ _ _ => (writeN h a cs).map fun h' => (.int .i64 (Nat.min m dn), h')
    | _, _ => none
  | _, _ => none
def arrAt (n : Nat) (s : V) : Option V :=
  match s with
  | .slice a len _ _ _ => if n ≤ len then some (.ptr a) else none
  | _ => none
noncomputable def quiet (g : AH → Res) (h : AH) : Res :=
  match g ⟨h.next, h.next, h.m⟩ with
  | none => none
  | some (v, h1) => if h.next ≤ h1.low then some (v, ⟨h1.next, h.low, h1.m⟩) else none
noncomputable def dyn (P : Program) (C X : Nat → Fn) (f : V) (args : List V) (h : AH) : Res :=
  match f with
  | .func f fs cs =>
    match (match P.funcs[f]? with
      | none => none
      | some fn => if fn.name == "runtime.NumGoroutine" then none else some fn.body.isSome : Option Bool) with
    | some true => C f (fs ++ args ++ cs) h
    | some false => X f (fs ++ args ++ cs) h
    | none => none
  | _ => none
def eqW (P : Program) (c : Bool) (t : Nat) (x y : V) : Option V := absBin P .eql t (bif c then .const (.bool true) else .tmp 0) (.tmp 0) x y
def neW (P : Program) (c : Bool) (t : Nat) (x y : V) : Option V := absBin P .neq t (bif c then .const (.bool true) else .tmp 0) (.tmp 0) x y
noncomputable def cvt (P : Program) (s d : Nat) (x : V) (h : AH) : Res :=
  match absUnsafePtr P s d x h with
  | some v => some (v, h)
  | none => absConvert P s d x h
/-- Bytes as they are, of the same kind. -/
noncomputable def cvS (e : Nat) (s : V) (h : AH) : Res :=
  match s with
  | .str s => some (absToBytes e s h)
  | .slice a n cap ex z =>
    match h.get a.b with
    | some k => if k.minL ≤ a.L ∧ k.fz = 0 ∧ k.ro = false then some (.slice a n cap ex z, h) else none
    | none => none
  | _ => none
/-- Results. -/
noncomputable def resW : List (Option V) → Option (List V)
  | [] => some []
  | r :: l => match r with
    | none => none
    | some v => match resW l with
      | none => none
      | some vs => some (v :: vs)
noncomputable def finW (l : List (Option V)) (h : AH) : Res := (resW l).map fun vs => (pack vs, h)
end Go.Proofs.YtbeohojepniioaaDoor.Ev
