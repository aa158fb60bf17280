/-
  Part of an own machine over values and memory, and of the proof that what it does the model does. No program in sight. No condition.
-/
import Derived.Test.YtbchdbhojafpdaaGreatDoorKB
set_option linter.unusedVariables false
set_option linter.unusedSimpArgs false
namespace Go.Proofs.YtbchdbhojafpdaaGreatDoor.Ev
open Go
abbrev XF := T V
noncomputable def getX (f : XF) (t : Nat) : V := orUndef (f.get t)
def msk (m t : Nat) : Bool := Nat.testBit m t
noncomputable def posOf (t : Nat) : List Nat → Option Nat := List.rec none (fun d _ ih => Bool.rec (Option.rec none (fun i => some (Nat.succ i)) ih) (some 0) (Nat.beq d t))
noncomputable def hdV (s : List V) : V := List.rec .bad (fun a _ _ => a) s
noncomputable def tlV (s : List V) : List V := List.rec [] (fun _ l _ => l) s
noncomputable def nthV : Nat → List V → V := Nat.rec hdV (fun _ ih s => ih (tlV s))
inductive RD where
  | mk (g : List V → XF → V)
noncomputable def rdV (r : RD) : List V → XF → V := RD.rec (fun g => g) r
noncomputable def stkG (i : Nat) : RD :=
  match i with
  | 0 => .mk fun s _ => hdV s
  | 1 => .mk fun s _ => hdV (tlV s)
  | 2 => .mk fun s _ => hdV (tlV (tlV s))
  | 3 => .mk fun s _ => hdV (tlV (tlV (tlV s)))
  | n + 4 => .mk fun s _ => nthV n (tlV (tlV (tlV (tlV s))))
noncomputable def rdTmp (ds : List Nat) (t : Nat) : RD := Option.rec (.mk fun _ f => getX f t) (fun i => stkG i) (posOf t ds)
noncomputable def rdOp (c : Cfg) (ds : List Nat) (x : Operand) : RD :=
  match x with
  | .tmp t => rdTmp ds t
  | x => .mk fun _ _ => evO c foFun (fun _ => .bad) x
noncomputable def evX (c : Cfg) (ds : List Nat) (s : List V) (f : XF) (x : Operand) : V := rdV (rdOp c ds x) s f
structure XD where
  C : FuncId → List V → AH → Res
  Y : Nat → List V → AH → Res
  B : Nat
def Cfg.at (c : Cfg) (d : XD) : Cfg := ⟨c.P, c.G, d.C, c.X, c.hint⟩
inductive XI where
  | mk (g : XD → List V → XF → AH → (V → AH → Res) → Res)
noncomputable def xiRun (i : XI) : XD → List V → XF → AH → (V → AH → Res) → Res := XI.rec (fun g => g) i
noncomputable def resK (r : Res) (k : V → AH → Res) : Res := Option.rec none (fun p => Prod.rec (fun v h => k v h) p) r
def yieldAt (ev : Operand → V) (o : Op) : Option (Nat × List V) :=
  match o with
  | .call cl => match cl.callee with
    | .value f => match ev f with
      | .yield b => some (b, cl.args.toList.map ev)
      | _ => none
    | _ => none
  | _ => none
noncomputable def stepX (c : Cfg) (yl q : Bool) (o : Op) (d : XD) (ev : Operand → V) (h : AH) : Res :=
  match yl, yieldAt ev o with
  | true, some (b, args) => d.Y b args h
  | _, _ => stepV (c.at d) q o ev h
noncomputable def xi (c : Cfg) (yl q : Bool) (ds : List Nat) (o : Op) : XI := .mk fun d s f h k => resK (stepX c yl q o d (evX c ds s f) h) k
inductive XP where
  | mk (g : V → List V → XF → AH → (List V → XF → AH → Res) → Res)
noncomputable def xpRun (p : XP) : V → List V → XF → AH → (List V → XF → AH → Res) → Res := XP.rec (fun g => g) p
noncomputable def xp (m N : Nat) (dst : Option Nat) : XP :=
  match dst with
  | none => .mk fun _ s f h k => k s f h
  | some d => bif Nat.blt d N then (bif msk m d then .mk fun v s f h k => k (v :: s) (f.set d v) h else .mk fun v s f h k => k (v :: s) f h) else .mk fun _ s f h k => k s f h
noncomputable def nextDs (N : Nat) (dst : Option Nat) (ds : List Nat) : List Nat :=
  match dst with
  | none => ds
  | some d => bif Nat.blt d N then d :: ds else ds
inductive XR where
  | mk (g : XD → List V → XF → AH → (List V → XF → AH → Res) → Res)
noncomputable def xrRun (r : XR) : XD → List V → XF → AH → (List V → XF → AH → Res) → Res := XR.rec (fun g => g) r
noncomputable def guardK (v : V) (want : Bool) (yes no : Res) : Res :=
  match v with
  | .bool b => bif b == want then yes else no
  | .bad => none
  | _ => no
noncomputable def opG (c : Cfg) (I : Bool → List Nat → Op → XI) (m N : Nat) (ops : Array Oper) (q : Bool) (ds : List Nat) (o : Oper) : XR :=
  match o.guard with
  | none => .mk fun d s f h k => xiRun (I q ds o.op) d s f h fun v h' => xpRun (xp m N o.dst) v s f h' k
  | some (j, want) => match (ops[j]?).bind (·.dst) with
    | none => .mk fun d s f h k => xpRun (xp m N o.dst) undefV s f h k
    | some t => .mk fun d s f h k => guardK (rdV (rdTmp ds t) s f) want (xiRun (I q ds o.op) d s f h fun v h' => xpRun (xp m N o.dst) v s f h' k) (xpRun (xp m N o.dst) undefV s f h k)
noncomputable def nextG (c : Cfg) (I : Bool → List Nat → Op → XI) (m N : Nat) (ops : Array Oper) (q : Bool) (ds : List Nat) (o : Oper) (x : Operand) : XR :=
  .mk fun d s f h k => match nextL (rdV (rdOp c ds x) s f) h with
    | some (p :: ps) => joinK (fun q => xpRun (xp m N o.dst) q.1 s f q.2 k) p ps
    | _ => xrRun (opG c I m N ops q ds o) d s f h k
noncomputable def opN (c : Cfg) (I : Bool → List Nat → Op → XI) (m N : Nat) (ops : Array Oper) (q : Bool) (ds : List Nat) (o : Oper) : XR :=
  match o.op, o.guard with
  | .next x false, none => nextG c I m N ops q ds o x
  | _, _ => opG c I m N ops q ds o
inductive XL where
  | nil
  | cons (r : XR) (l : XL)
noncomputable def compL (c : Cfg) (I : Bool → List Nat → Op → XI) (m N : Nat) (ops : Array Oper) (qs : Nat → Bool) : List Oper → Nat → List Nat → XL :=
  List.rec (fun _ _ => .nil) (fun o _ ih i ds => .cons (opN c I m N ops (qs i) ds o) (ih (Nat.succ i) (nextDs N o.dst ds)))
structure QC where
  m : Nat
  r : Option RC
noncomputable def newI (i : Nat) (x : XI) : XI := .mk fun d s f h k => xiRun x d s f ⟨Nat.add d.B i, h.low, h.m⟩ fun v h' => k v ⟨h.next, Nat.min h.low (Nat.add d.B i), h'.m⟩
noncomputable def again (c : Cfg) (ops : Array Oper) (sp : List Nat) (ev : Operand → V) (h h' : AH) : Bool := sp.all fun i => match ops[i]? with
  | none => true
  | some oi => match sop c.P oi.op ev h with
    | none => true
    | some (v, _) => match sop c.P oi.op ev h' with
      | none => false
      | some (v', _) => alikeV v v'
noncomputable def sepI (c : Cfg) (ops : Array Oper) (sp : List Nat) (ds : List Nat) (x : XI) : XI := .mk fun d s f h k => xiRun x d s f h fun v h' => bif again c ops sp (evX c ds s f) h h' then k v h' else none
noncomputable def wrapI (c : Cfg) (I : Bool → List Nat → Op → XI) (ops : Array Oper) (sp : List Nat) (i : Nat) (q : Bool) (ds : List Nat) (o : Op) : XI :=
  match sp with
  | [] => Bool.rec (I q ds o) (newI i (I q ds o)) (isNew o)
  | a :: l => Bool.rec (sepI c ops (a :: l) ds (I q ds o)) (.mk fun _ _ _ _ _ => none) (isNew o)
noncomputable def compN (c : Cfg) (I : Bool → List Nat → Op → XI) (m N : Nat) (ops : Array Oper) (qs : Nat → Bool) (rc : Option RC) : List Nat → List Nat → XL :=
  List.rec (fun _ => .nil) (fun i _ ih ds => Option.rec .nil (fun o => .cons (opG c (wrapI c I ops (spR rc i) i) m N ops (qs i) ds o) (ih (nextDs N o.dst ds))) ops[i]?)
noncomputable def runL : XL → XD → List V → XF → AH → (XF → AH → Res) → Res :=
  XL.rec (fun _ _ f h k => k f h) (fun r _ ih d s f h k => xrRun r d s f h fun s f h => ih d s f h k)
structure XK where
  norm : XF → AH → Res
  exit : Nat → XF → AH → Res
  goto : Nat → XF → AH → Res
  ret : XF → AH → Res
noncomputable def onN (fm : Option Nat) (r : Res) : Res := Option.rec r (fun _ => none) fm
noncomputable def loopOf (h : AH) (b : Nat) : Option (V × V × Int × V) :=
  match h.get b with
  | some k => if k.cells.n = 0 ∧ k.minL = 2 ∧ k.e = 1 then (match k.cells.z with
    | [r, t, .int .i64 st, j] => some (r, t, st, j)
    | _ => none) else none
  | none => none
noncomputable def putLoop (h : AH) (b : Nat) (r t : V) (st : Int) (j : V) : AH := h.put b (Blk.obj 1 [r, t, .int .i64 st, j])
noncomputable def leapX (j : V) (f : XF) (h : AH) (k : XK) : Res :=
  match j with
  | .tuple [] => k.norm f h
  | .tuple [.bool true] => k.ret f h
  | .tuple [.int .u8 id] => k.exit id.toNat f h
  | .tuple [.int .u16 l] => k.goto l.toNat f h
  | _ => none
noncomputable def endX (b : Nat) (h : AH) (f : XF) (k : XK) : Res :=
  match loopOf h b with
  | some (r, t, st, j) => if st = 1 then none else leapX j f (putLoop h b r t 3 j) k
  | none => none
section
variable (c : Cfg) (I : Bool → Bool → List Nat → Op → XI) (d : XD) (rnd gd : Bool) (qt : Nat → QC) (fid N m fuel : Nat)
noncomputable def regX (id : Nat) (ops : Array Oper) (draw : Bool) (f : XF) (h : AH) (k : XF → AH → Res) : Res :=
  Bool.rec (runL (compL c (I true) m N ops (fun _ => false) ops.toList 0 []) d [] f h k)
    (Bool.rec none (runL (compN c (I false) m N ops (fun i => Nat.testBit (qt id).m i) (qt id).r (ordL (qt id).r ops.size) []) ⟨d.C, d.Y, h.next⟩ [] f ⟨Nat.add h.next ops.size, h.low, h.m⟩ k) gd) draw
noncomputable def rangeX (g : Operand) (ps : Array Tmp) (aas bd : Code) (f : XF) (h : AH) (k : XK) : Res :=
  if rnd then none else
  match evX c [] [] f g with
  | .func f' fs cs =>
    match hasBody c f' with
    | some true =>
      match d.C f' (fs ++ [.yield h.next] ++ cs) (h.add (Blk.obj 1 [.rcd fid ps aas bd, .tuple ((List.range N).map (getX f)), .int .i64 0, .tuple []])) with
      | some (_, h2) => endX h.next h2 f k
      | none => none
    | _ => none
  | _ => none
noncomputable def scopeX (b : Code) (ih : Option Nat → XF → AH → XK → Res) (fuel : Nat) : Option Nat → XF → AH → XK → Res :=
  Nat.rec (fun _ _ _ _ => none) (fun _ go fm f h k => ih fm f h ⟨k.norm, k.exit, fun l f h => bif (findLabel b l).isSome then go (some l) f h k else k.goto l f h, k.ret⟩) fuel
noncomputable def xexec (code : Code) : Option Nat → XF → AH → XK → Res :=
  Code.rec (motive := fun _ => Option Nat → XF → AH → XK → Res)
    (fun fm f h k => onN fm (k.norm f h))
    (fun id ops draw fm f h k => onN fm (regX c I d gd qt N m id ops draw f h k.norm))
    (fun a _ iha ihb fm f h k => Option.rec (iha none f h ⟨fun f h => ihb none f h k, k.exit, k.goto, k.ret⟩) (fun l => bif (findLabel a l).isSome then iha (some l) f h ⟨fun f h => ihb none f h k, k.exit, k.goto, k.ret⟩ else ihb (some l) f h k) fm)
    (fun x _ _ iha ihb fm f h k => onN fm (match evX c [] [] f x with
      | .bool true => iha none f h k
      | .bool false => ihb none f h k
      | _ => none))
    (fun id _ ih fm f h k => onN fm (ih none f h ⟨k.norm, fun id' f h => bif Nat.beq id' id then k.norm f h else k.exit id' f h, k.goto, k.ret⟩))
    (fun _ ih fm f h k => onN fm (loopN XF fuel (fun f h n => ih none f h ⟨n, k.exit, k.goto, k.ret⟩) f h))
    (fun g ps aas bd _ _ fm f h k => onN fm (rangeX c d rnd fid N g ps aas bd f h k))
    (fun id fm f h k => onN fm (k.exit id f h))
    (fun b ih fm f h k => onN fm (scopeX b ih fuel none f h k))
    (fun l' fm f h k => Option.rec (k.norm f h) (fun l => bif Nat.beq l' l then k.norm f h else none) fm)
    (fun l fm f h k => onN fm (k.goto l f h))
    (fun fm f h k => onN fm (k.ret f h))
    (fun _ _ _ _ _ => none) code
theorem xexec_skip (fm f h k) : xexec c I d rnd gd qt fid N m fuel .skip fm f h k = onN fm (k.norm f h) := rfl
theorem xexec_region (id ops draw fm f h k) : xexec c I d rnd gd qt fid N m fuel (.region id ops draw) fm f h k = onN fm (regX c I d gd qt N m id ops draw f h k.norm) := rfl
theorem xexec_seq_none (a b f h k) : xexec c I d rnd gd qt fid N m fuel (.seq a b) none f h k = xexec c I d rnd gd qt fid N m fuel a none f h ⟨fun f h => xexec c I d rnd gd qt fid N m fuel b none f h k, k.exit, k.goto, k.ret⟩ := rfl
theorem xexec_seq_some (a b l f h k) : xexec c I d rnd gd qt fid N m fuel (.seq a b) (some l) f h k = bif (findLabel a l).isSome then xexec c I d rnd gd qt fid N m fuel a (some l) f h ⟨fun f h => xexec c I d rnd gd qt fid N m fuel b none f h k, k.exit, k.goto, k.ret⟩ else xexec c I d rnd gd qt fid N m fuel b (some l) f h k := rfl
theorem xexec_cond (x a b fm f h k) : xexec c I d rnd gd qt fid N m fuel (.cond x a b) fm f h k = onN fm (match evX c [] [] f x with
      | .bool true => xexec c I d rnd gd qt fid N m fuel a none f h k
      | .bool false => xexec c I d rnd gd qt fid N m fuel b none f h k
      | _ => none) := rfl
theorem xexec_block (id b fm f h k) : xexec c I d rnd gd qt fid N m fuel (.block id b) fm f h k = onN fm (xexec c I d rnd gd qt fid N m fuel b none f h ⟨k.norm, fun id' f h => bif Nat.beq id' id then k.norm f h else k.exit id' f h, k.goto, k.ret⟩) := rfl
theorem xexec_loop (b fm f h k) : xexec c I d rnd gd qt fid N m fuel (.loop b) fm f h k = onN fm (loopN XF fuel (fun f h n => xexec c I d rnd gd qt fid N m fuel b none f h ⟨n, k.exit, k.goto, k.ret⟩) f h) := rfl
theorem xexec_range (g ps aas bd fm f h k) : xexec c I d rnd gd qt fid N m fuel (.rangeFunc g ps aas bd) fm f h k = onN fm (rangeX c d rnd fid N g ps aas bd f h k) := rfl
theorem xexec_exit (id fm f h k) : xexec c I d rnd gd qt fid N m fuel (.exit id) fm f h k = onN fm (k.exit id f h) := rfl
theorem xexec_scope (b fm f h k) : xexec c I d rnd gd qt fid N m fuel (.scope b) fm f h k = onN fm (scopeX b (xexec c I d rnd gd qt fid N m fuel b) fuel none f h k) := rfl
theorem xexec_label_some (l' l f h k) : xexec c I d rnd gd qt fid N m fuel (.label l') (some l) f h k = bif Nat.beq l' l then k.norm f h else none := rfl
theorem xexec_goto (l fm f h k) : xexec c I d rnd gd qt fid N m fuel (.goto l) fm f h k = onN fm (k.goto l f h) := rfl
theorem xexec_ret (fm f h k) : xexec c I d rnd gd qt fid N m fuel .ret fm f h k = onN fm (k.ret f h) := rfl
end
noncomputable def drawsOK (P : Program) (qt : Nat → QC) (code : Code) : Bool :=
  Code.rec (motive := fun _ => Bool) true
    (fun id ops draw => Bool.rec true (certB P ops (Region.before ops) (qt id).m (qt id).r) draw)
    (fun _ _ a b => Bool.rec false b a) (fun _ _ _ a b => Bool.rec false b a) (fun _ _ a => a) (fun _ a => a) (fun _ _ _ _ _ _ => true) (fun _ => true) (fun _ a => a) (fun _ => true) (fun _ => true) true (fun _ => true) code
noncomputable def iniM (m : Nat) (l : List V) : Nat → XF → XF := List.rec (fun _ f => f) (fun v _ ih i f => ih (Nat.succ i) (Bool.rec f (f.set i v) (msk m i))) l
structure XEnv where
  P : Program
  G : Nat → Option Nat
  X : FuncId → List V → AH → Option (V × AH)
  I : FuncId → Option (List V → AH → Option (V × AH))
  mask : FuncId → Nat
  fuel : Nat
  ops : Cfg → Bool → Bool → List Nat → Op → XI
  good : FuncId → Bool
  qt : FuncId → Nat → QC
  gc : FuncId → Bool
def XEnv.c0 (E : XEnv) : Cfg := ⟨E.P, E.G, fun _ _ _ => none, E.X, fun _ => none⟩
noncomputable def finX (c : Cfg) (fn : Func) (f : XF) (h : AH) : Res := (resList c foFun (getX f) h fn.results.toList).map fun vs => (pack vs, h)
noncomputable def xFn (E : XEnv) (d : XD) (f : FuncId) (args : List V) (h : AH) : Res :=
  match E.P.funcs[f]? with
  | none => none
  | some fn =>
    match fn.body with
    | none => none
    | some code => if args.length ≤ fn.ntmps then bif E.gc f then gcO h (xexec E.c0 (E.ops E.c0) d false (E.good f) (E.qt f) f fn.ntmps (E.mask f) E.fuel code none (iniM (E.mask f) args 0 .leaf) ⟨h.next, h.next, h.m⟩ ⟨fun f' h' => gcR h (finX E.c0 fn f' h'), fun _ _ _ => none, fun _ _ _ => none, fun f' h' => gcR h (finX E.c0 fn f' h')⟩) else xexec E.c0 (E.ops E.c0) d false (E.good f) (E.qt f) f fn.ntmps (E.mask f) E.fuel code none (iniM (E.mask f) args 0 .leaf) h ⟨finX E.c0 fn, fun _ _ _ => none, fun _ _ _ => none, finX E.c0 fn⟩ else none
noncomputable def endR (b : Nat) (st : Int) (j : V) (res : Bool) (h : AH) : Res :=
  match loopOf h b with
  | some (r, t, _, _) => some (.bool res, putLoop h b r t st j)
  | none => none
noncomputable def beginX (b : Nat) (h : AH) (k : AH → Res) : Res :=
  match loopOf h b with
  | some (r, t, 0, j) => k (putLoop h b r t 1 j)
  | _ => none
def setPs : List Nat → List V → List V → List V
  | p :: ps, a :: aas, l => setPs ps aas (l.set p a)
  | _, _, l => l
noncomputable def yX (E : XEnv) (d : XD) (b : Nat) (args : List V) (h : AH) : Res :=
  match loopOf h b with
  | some (.rcd f ps aas bd, .tuple tm, _, _) =>
    match E.P.funcs[f]? with
    | none => none
    | some fn =>
      if args.length = ps.size ∧ tm.length = fn.ntmps then
        xexec E.c0 (E.ops E.c0) d true (drawsOK E.P (E.qt f) aas) (E.qt f) f fn.ntmps (E.mask f) E.fuel aas none (iniM (E.mask f) (setPs ps.toList args tm) 0 .leaf) h
          ⟨fun f1 h1 => beginX b h1 fun h2 => xexec E.c0 (E.ops E.c0) d true (drawsOK E.P (E.qt f) bd) (E.qt f) f fn.ntmps (E.mask f) E.fuel bd none f1 h2
              ⟨fun _ h3 => endR b 0 (.tuple []) true h3, fun id _ h3 => endR b 2 (.tuple [.int .u8 id]) false h3, fun l _ h3 => endR b 2 (.tuple [.int .u16 l]) false h3, fun _ h3 => endR b 2 (.tuple [.bool true]) false h3⟩,
            fun _ _ _ => none, fun _ _ _ => none, fun _ _ => none⟩
      else none
  | _ => none
noncomputable def xD (E : XEnv) : Nat → XD := Nat.rec ⟨fun _ _ _ => none, fun _ _ _ => none, 0⟩ (fun _ d => ⟨fun f args h => Option.rec (xFn E d f args h) (fun g => g args h) (E.I f), fun b args h => yX E d b args h, 0⟩)
noncomputable def xrun (E : XEnv) (n : Nat) (f : FuncId) (args : List V) (h : AH) : Res := (xD E n).C f args h
end Go.Proofs.YtbchdbhojafpdaaGreatDoor.Ev
namespace Go.Proofs.YtbchdbhojafpdaaGreatDoor.Ev
open Go
theorem posOf_cons (t d : Nat) (l : List Nat) : posOf t (d :: l) = if d = t then some 0 else (posOf t l).map Nat.succ := by
  have h : posOf t (d :: l) = Bool.rec (motive := fun _ => Option Nat) (Option.rec (motive := fun _ => Option Nat) none (fun i => some (Nat.succ i)) (posOf t l)) (some 0) (Nat.beq d t) := rfl
  rw [h]
  by_cases e : d = t
  · subst e; rw [if_pos rfl, show Nat.beq d d = true from by simp]
  · rw [if_neg e, show Nat.beq d t = false from by cases hb : Nat.beq d t; rfl; exact absurd (Nat.eq_of_beq_eq_true hb) e]
    cases posOf t l <;> rfl
theorem nthV_cons (n : Nat) (v : V) (s : List V) : nthV (n + 1) (v :: s) = nthV n s := rfl
theorem stkG_eq (i : Nat) (s : List V) (f : XF) : rdV (stkG i) s f = nthV i s := by
  match i with
  | 0 => rfl
  | 1 => rfl
  | 2 => rfl
  | 3 => rfl
  | n + 4 => rfl
structure Rel (m N : Nat) (ds : List Nat) (s : List V) (f : XF) (fr : Nat → V) : Prop where
  stk : ∀ t i, posOf t ds = some i → nthV i s = fr t
  fre : ∀ t, posOf t ds = none → getX f t = fr t
  kept : ∀ t, msk m t = true → getX f t = fr t
  bad : ∀ t, msk m t = false → getX f t = .bad
theorem Rel.start {m N : Nat} {f : XF} (hb : ∀ t, msk m t = false → getX f t = .bad) : Rel m N [] [] f (getX f) := ⟨fun t i h => (by cases h), fun _ _ => rfl, fun _ _ => rfl, hb⟩
theorem rdTmp_eq {m N : Nat} {ds : List Nat} {s : List V} {f : XF} {fr : Nat → V} (h : Rel m N ds s f fr) (t : Nat) : rdV (rdTmp ds t) s f = fr t := by
  unfold rdTmp
  cases hp : posOf t ds with
  | none => exact h.fre t hp
  | some i => exact (stkG_eq i s f).trans (h.stk t i hp)
theorem evX_eq {c : Cfg} {m N : Nat} {ds : List Nat} {s : List V} {f : XF} {fr : Nat → V} (h : Rel m N ds s f fr) : evX c ds s f = evO c foFun fr := by
  funext x
  unfold evX
  cases x with
  | tmp t => exact rdTmp_eq h t
  | const v => rfl
  | global g => rfl
  | func g => rfl
theorem getX_set (f : XF) (i j : Nat) (v : V) : getX (f.set i v) j = if j = i then v else getX f j := by
  unfold getX
  rw [T.get_set]
  split
  · rfl
  · rfl
theorem xp_spec {m N : Nat} {ds : List Nat} {s : List V} {f : XF} {fr : Nat → V} (h : Rel m N ds s f fr) {dst : Option Nat} {v : V} {hh : AH} {k : List V → XF → AH → Res} {r : V × AH} (hr : xpRun (xp m N dst) v s f hh k = some r) :
    ∃ s' f', k s' f' hh = some r ∧ Rel m N (nextDs N dst ds) s' f' (putF foFun N fr dst v) := by
  cases dst with
  | none => exact ⟨s, f, hr, h⟩
  | some d =>
    unfold xp at hr
    unfold nextDs
    simp only at hr ⊢
    cases hd : Nat.blt d N with
    | false => rw [hd] at hr; rw [putF_ge fr v hd]; exact ⟨s, f, hr, h⟩
    | true =>
      rw [hd] at hr
      rw [putF_lt fr v hd]
      simp only [cond_true] at hr ⊢
      have hstk : ∀ t i, posOf t (d :: ds) = some i → nthV i (v :: s) = if t = d then v else fr t := by
        intro t i hp
        rw [posOf_cons] at hp
        by_cases e : d = t
        · rw [if_pos e] at hp; cases hp; rw [if_pos e.symm]; rfl
        · rw [if_neg e] at hp
          rw [if_neg (fun e' => e e'.symm)]
          obtain ⟨j, h1, h2⟩ := map_some' hp
          subst h2
          exact (nthV_cons j v s).trans (h.stk t j h1)
      have hno : ∀ t, posOf t (d :: ds) = none → t ≠ d ∧ posOf t ds = none := by
        intro t hp
        rw [posOf_cons] at hp
        by_cases e : d = t
        · rw [if_pos e] at hp; cases hp
        · rw [if_neg e] at hp
          refine ⟨fun e' => e e'.symm, ?_⟩
          cases hq : posOf t ds with
          | none => rfl
          | some _ => rw [hq] at hp; cases hp
      cases hm : msk m d with
      | true =>
        rw [hm] at hr
        refine ⟨v :: s, f.set d v, hr, hstk, ?_, ?_, ?_⟩
        · intro t hp
          obtain ⟨h1, h2⟩ := hno t hp
          simp only [getX_set, if_neg h1]; exact h.fre t h2
        · intro t ht
          simp only [getX_set]
          split
          · rfl
          · exact h.kept t ht
        · intro t ht
          have : t ≠ d := fun e => by rw [e, hm] at ht; cases ht
          rw [getX_set, if_neg this]; exact h.bad t ht
      | false =>
        rw [hm] at hr
        refine ⟨v :: s, f, hr, hstk, ?_, ?_, h.bad⟩
        · intro t hp
          obtain ⟨h1, h2⟩ := hno t hp
          simp only [if_neg h1]; exact h.fre t h2
        · intro t ht
          have : t ≠ d := fun e => by rw [e, hm] at ht; cases ht
          simp only [if_neg this]; exact h.kept t ht
def OpsOK (c : Cfg) (I : Bool → Bool → List Nat → Op → XI) : Prop := ∀ yl q ds o d s f h k r, xiRun (I yl q ds o) d s f h k = some r → ∃ v h', stepX c yl q o d (evX c ds s f) h = some (v, h') ∧ k v h' = some r
theorem resK_some {r : Res} {k : V → AH → Res} {x : V × AH} (h : resK r k = some x) : ∃ v h', r = some (v, h') ∧ k v h' = some x := by
  cases r with
  | none => cases h
  | some p => exact ⟨p.1, p.2, rfl, h⟩
theorem guardK_some {v : V} {want : Bool} {yes no : Res} {r : V × AH} (h : guardK v want yes no = some r) : (v = .bool want ∧ yes = some r) ∨ ((∃ b, v = .bool b ∧ (b == want) = false) ∧ no = some r) ∨ ((∀ b, v ≠ .bool b) ∧ v ≠ .bad ∧ no = some r) := by
  unfold guardK at h
  split at h
  · rename_i b
    cases hb : b == want with
    | true => rw [hb] at h; exact .inl ⟨by rw [show b = want from by simpa using hb], h⟩
    | false => rw [hb] at h; exact .inr (.inl ⟨⟨b, rfl, hb⟩, h⟩)
  · cases h
  · rename_i h1 h2; exact .inr (.inr ⟨fun b e => h1 b e, h2, h⟩)
def One (c : Cfg) (d : XD) (yl : Bool) (N : Nat) (ops : Array Oper) (q : Bool) (o : Oper) (fr : Nat → V) (h : AH) (fr' : Nat → V) (h' : AH) : Prop :=
  (wantedV foFun ops o fr = some false ∧ fr' = putF foFun N fr o.dst undefV ∧ h' = h) ∨ (wantedV foFun ops o fr = some true ∧ ∃ v, stepX c yl q o.op d (evO c foFun fr) h = some (v, h') ∧ fr' = putF foFun N fr o.dst v)
theorem opG_specG {c : Cfg} {J : Bool → List Nat → Op → XI} {m N : Nat} {ops : Array Oper} {q : Bool} {ds : List Nat} {o : Oper} {d : XD} {St : (Operand → V) → AH → V → AH → Prop} (hJ : ∀ s f h k r, xiRun (J q ds o.op) d s f h k = some r → ∃ v h', St (evX c ds s f) h v h' ∧ k v h' = some r) {s : List V} {f : XF} {h : AH} {fr : Nat → V} (hR : Rel m N ds s f fr) {k : List V → XF → AH → Res} {r : V × AH}
    (hr : xrRun (opG c J m N ops q ds o) d s f h k = some r) : ∃ fr' h' s' f', k s' f' h' = some r ∧ Rel m N (nextDs N o.dst ds) s' f' fr' ∧ ((wantedV foFun ops o fr = some false ∧ fr' = putF foFun N fr o.dst undefV ∧ h' = h) ∨ (wantedV foFun ops o fr = some true ∧ ∃ v, St (evO c foFun fr) h v h' ∧ fr' = putF foFun N fr o.dst v)) := by
  have go : ∀ {K : List V → XF → AH → Res}, xiRun (J q ds o.op) d s f h (fun v h' => xpRun (xp m N o.dst) v s f h' K) = some r → ∃ v h' s' f', K s' f' h' = some r ∧ Rel m N (nextDs N o.dst ds) s' f' (putF foFun N fr o.dst v) ∧ St (evO c foFun fr) h v h' := by
    intro K hx
    obtain ⟨v, h', h1, h2⟩ := hJ _ _ _ _ _ hx
    rw [evX_eq hR] at h1
    obtain ⟨s', f', g1, g2⟩ := xp_spec hR h2
    exact ⟨v, h', s', f', g1, g2, h1⟩
  unfold opG at hr
  split at hr
  · rename_i hg
    obtain ⟨v, h', s', f', g1, g2, g3⟩ := go hr
    exact ⟨_, h', s', f', g1, g2, .inr ⟨by unfold wantedV; rw [hg], v, g3, rfl⟩⟩
  · rename_i j want hg
    split at hr
    · rename_i hn
      obtain ⟨s', f', g1, g2⟩ := xp_spec hR hr
      exact ⟨_, h, s', f', g1, g2, .inl ⟨by unfold wantedV; rw [hg]; simp only [hn], rfl, rfl⟩⟩
    · rename_i t ht
      rcases guardK_some hr with ⟨e, h1⟩ | ⟨⟨b, e, hb⟩, h1⟩ | ⟨e1, e2, h1⟩
      · rw [rdTmp_eq hR] at e
        obtain ⟨v, h', s', f', g1, g2, g3⟩ := go h1
        refine ⟨_, h', s', f', g1, g2, .inr ⟨?_, v, g3, rfl⟩⟩
        unfold wantedV
        rw [hg]
        simp only [ht]
        rw [show foFun.get fr t = _ from e]
        simp
      · rw [rdTmp_eq hR] at e
        obtain ⟨s', f', g1, g2⟩ := xp_spec hR h1
        refine ⟨_, h, s', f', g1, g2, .inl ⟨?_, rfl, rfl⟩⟩
        unfold wantedV
        rw [hg]
        simp only [ht]
        rw [show foFun.get fr t = _ from e]
        simp [hb]
      · rw [rdTmp_eq hR] at e1 e2
        obtain ⟨s', f', g1, g2⟩ := xp_spec hR h1
        refine ⟨_, h, s', f', g1, g2, .inl ⟨?_, rfl, rfl⟩⟩
        unfold wantedV
        rw [hg]
        simp only [ht]
        have e1' : ∀ b, foFun.get fr t ≠ .bool b := e1
        have e2' : foFun.get fr t ≠ .bad := e2
        generalize foFun.get fr t = x at e1' e2'
        cases x <;> first | rfl | exact absurd rfl (e1' _) | exact absurd rfl e2'
theorem opG_spec {c : Cfg} {I : Bool → Bool → List Nat → Op → XI} (hI : OpsOK c I) {yl : Bool} {m N : Nat} {ops : Array Oper} {q : Bool} {ds : List Nat} {o : Oper} {d : XD} {s : List V} {f : XF} {h : AH} {fr : Nat → V} (hR : Rel m N ds s f fr) {k : List V → XF → AH → Res} {r : V × AH}
    (hr : xrRun (opG c (I yl) m N ops q ds o) d s f h k = some r) : ∃ fr' h' s' f', k s' f' h' = some r ∧ Rel m N (nextDs N o.dst ds) s' f' fr' ∧ One c d yl N ops q o fr h fr' h' :=
  opG_specG (St := fun ev h v h' => stepX c yl q o.op d ev h = some (v, h')) (fun s f h k r hx => hI _ _ _ _ _ _ _ _ _ _ hx) hR hr
theorem opN_cases {c : Cfg} {I : Bool → Bool → List Nat → Op → XI} {yl : Bool} {m N : Nat} {ops : Array Oper} {q : Bool} {ds : List Nat} {o : Oper} {d : XD} {s : List V} {f : XF} {h : AH} {fr : Nat → V} (hR : Rel m N ds s f fr) {k : List V → XF → AH → Res} {r : V × AH}
    (hr : xrRun (opN c (I yl) m N ops q ds o) d s f h k = some r) : xrRun (opG c (I yl) m N ops q ds o) d s f h k = some r ∨
      ∃ x l, o.op = .next x false ∧ o.guard = none ∧ nextL (evO c foFun fr x) h = some l ∧ l ≠ [] ∧ ∀ p ∈ l, ∃ s' f', k s' f' p.2 = some r ∧ Rel m N (nextDs N o.dst ds) s' f' (putF foFun N fr o.dst p.1) := by
  unfold opN at hr
  split at hr
  · rename_i x h1 h2
    unfold nextG at hr
    change (match nextL (evX c ds s f x) h with
      | some (p :: ps) => joinK (fun q => xpRun (xp m N o.dst) q.1 s f q.2 k) p ps
      | _ => xrRun (opG c (I yl) m N ops q ds o) d s f h k) = some r at hr
    rw [evX_eq hR] at hr
    split at hr
    · rename_i p ps hn
      refine .inr ⟨x, p :: ps, h1, h2, hn, by simp, fun q hq => ?_⟩
      obtain ⟨s', f', g1, g2⟩ := xp_spec hR (joinK_some hr q hq)
      exact ⟨s', f', g1, g2⟩
    · exact .inl hr
  · exact .inl hr
theorem runL_nil (d : XD) (s : List V) (f : XF) (h : AH) (k : XF → AH → Res) : runL .nil d s f h k = k f h := rfl
theorem runL_cons (r : XR) (l : XL) (d : XD) (s : List V) (f : XF) (h : AH) (k : XF → AH → Res) : runL (.cons r l) d s f h k = xrRun r d s f h fun s f h => runL l d s f h k := rfl
theorem compL_cons (c : Cfg) (I : Bool → List Nat → Op → XI) (m N : Nat) (ops : Array Oper) (qs : Nat → Bool) (o : Oper) (l : List Oper) (i : Nat) (ds : List Nat) : compL c I m N ops qs (o :: l) i ds = .cons (opN c I m N ops (qs i) ds o) (compL c I m N ops qs l (i + 1) (nextDs N o.dst ds)) := rfl
theorem stepX_false {c : Cfg} {q : Bool} {o : Op} {d : XD} {ev : Operand → V} {h : AH} : stepX c false q o d ev h = stepV (c.at d) q o ev h := rfl
def Apart (c : Cfg) (ops : Array Oper) (sp : List Nat) (ev : Operand → V) (h h' : AH) : Prop := ∀ i, i ∈ sp → ∀ oi, ops[i]? = some oi → ∀ v h2, sop c.P oi.op ev h = some (v, h2) → ∃ h3, sop c.P oi.op ev h' = some (v, h3)
theorem again_spec {c : Cfg} {ops : Array Oper} {sp : List Nat} {ev : Operand → V} {h h' : AH} (ha : again c ops sp ev h h' = true) : Apart c ops sp ev h h' := by
  intro i hi oi hoi v h2 hs
  unfold again at ha
  rw [List.all_eq_true] at ha
  have := ha i hi
  rw [hoi] at this
  simp only [hs] at this
  split at this
  · cases this
  · rename_i v' h3 hs'
    rw [alikeV_eq _ _ this]
    exact ⟨h3, hs'⟩
theorem wrapI_spec {c : Cfg} (hH : HintOK c) {I : Bool → Bool → List Nat → Op → XI} (hI : OpsOK c I) {ops : Array Oper} {sp : List Nat} {i : Nat} {q : Bool} {ds : List Nat} {o : Op} {d : XD} {s : List V} {f : XF} {h : AH} {k : V → AH → Res} {r : V × AH} (hr : xiRun (wrapI c (I false) ops sp i q ds o) d s f h k = some r) :
    ∃ v h', (stepN (c.at d) (d.B + i) q o (evX c ds s f) h = some (v, h') ∧ Apart c ops sp (evX c ds s f) h h') ∧ k v h' = some r := by
  cases hn : isNew o with
  | true =>
    cases sp with
    | nil =>
      unfold wrapI at hr
      simp only [hn] at hr
      change xiRun (I false q ds o) d s f ⟨Nat.add d.B i, h.low, h.m⟩ (fun v h' => k v ⟨h.next, Nat.min h.low (Nat.add d.B i), h'.m⟩) = some r at hr
      obtain ⟨v, h', h1, h2⟩ := hI _ _ _ _ _ _ _ _ _ _ hr
      refine ⟨v, _, ⟨?_, fun i hi => by cases hi⟩, h2⟩
      rw [stepN_new hn]
      rw [stepX_false] at h1
      have h3 : sop c.P o (evX c ds s f) ⟨d.B + i, h.low, h.m⟩ = some (v, h') := by
        unfold stepV at h1
        rw [(isNew_cls (P := c.P) hn).2] at h1
        exact conc_some hH h1
      unfold newAt
      show (match sop c.P o (evX c ds s f) ⟨d.B + i, h.low, h.m⟩ with
        | some (v, h') => some (v, (⟨h.next, Nat.min h.low (d.B + i), h'.m⟩ : AH))
        | none => none) = _
      rw [h3]
      rfl
    | cons a l =>
      unfold wrapI at hr
      simp only [hn] at hr
      cases hr
  | false =>
    cases sp with
    | nil =>
      unfold wrapI at hr
      simp only [hn] at hr
      obtain ⟨v, h', h1, h2⟩ := hI _ _ _ _ _ _ _ _ _ _ hr
      refine ⟨v, _, ⟨?_, fun i hi => by cases hi⟩, h2⟩
      rw [stepN_old hn]
      exact h1
    | cons a l =>
      unfold wrapI at hr
      simp only [hn] at hr
      change xiRun (I false q ds o) d s f h (fun v h' => bif again c ops (a :: l) (evX c ds s f) h h' then k v h' else none) = some r at hr
      obtain ⟨v, h', h1, h2⟩ := hI _ _ _ _ _ _ _ _ _ _ hr
      cases hsb : again c ops (a :: l) (evX c ds s f) h h' with
      | false => simp only [hsb, cond_false] at h2; cases h2
      | true =>
        simp only [hsb, cond_true] at h2
        refine ⟨v, h', ⟨?_, again_spec hsb⟩, h2⟩
        rw [stepN_old hn]
        exact h1
theorem compN_nil (c : Cfg) (I : Bool → List Nat → Op → XI) (m N : Nat) (ops : Array Oper) (qs : Nat → Bool) (rc : Option RC) (ds : List Nat) : compN c I m N ops qs rc [] ds = .nil := rfl
theorem compN_cons (c : Cfg) (I : Bool → List Nat → Op → XI) (m N : Nat) (ops : Array Oper) (qs : Nat → Bool) (rc : Option RC) (i : Nat) (l : List Nat) (ds : List Nat) {o : Oper} (ho : ops[i]? = some o) : compN c I m N ops qs rc (i :: l) ds = .cons (opG c (wrapI c I ops (spR rc i) i) m N ops (qs i) ds o) (compN c I m N ops qs rc l (nextDs N o.dst ds)) := by
  show (Option.rec (motive := fun _ => XL) .nil (fun o => .cons (opG c (wrapI c I ops (spR rc i) i) m N ops (qs i) ds o) (compN c I m N ops qs rc l (nextDs N o.dst ds))) ops[i]?) = _
  rw [ho]
theorem runN_trace {c : Cfg} (hH : HintOK c) {I : Bool → Bool → List Nat → Op → XI} (hI : OpsOK c I) {m N : Nat} {ops : Array Oper} {qs : Nat → Bool} {rc : Option RC} {d : XD} {K : XF → AH → Res} {r : V × AH} {lst : List Nat} {idx : Nat → Nat} (hidx : ∀ q, q < lst.length → lst[q]? = some (idx q) ∧ idx q < ops.size) : ∀ (l : List Nat) (q : Nat) (ds : List Nat) (s : List V) (f : XF) (h : AH) (fr : Nat → V), lst.drop q = l → q ≤ lst.length → Rel m N ds s f fr → runL (compN c (I false) m N ops qs rc l ds) d s f h K = some r →
    ∃ (frs : Nat → Nat → V) (hs : Nat → AH), frs q = fr ∧ hs q = h ∧ (∀ j, q ≤ j → j < lst.length → Trace2 (c.at d) N ops qs d.B (idx j) (frs j) (hs j) (frs (j + 1)) (hs (j + 1)) ∧ Apart c ops (spR rc (idx j)) (evO c foFun (frs j)) (hs j) (hs (j + 1))) ∧ ∃ f' ds' s', Rel m N ds' s' f' (frs lst.length) ∧ K f' (hs lst.length) = some r := by
  intro l
  induction l with
  | nil =>
    intro q ds s f h fr hl hle hR hr
    rw [compN_nil, runL_nil] at hr
    have hsz : lst.length ≤ q := List.drop_eq_nil_iff.1 hl
    obtain rfl : q = lst.length := by omega
    exact ⟨fun _ => fr, fun _ => h, rfl, rfl, fun j h1 h2 => by omega, f, ds, s, hR, hr⟩
  | cons i l ih =>
    intro q ds s f h fr hl hle hR hr
    have hlt : q < lst.length := by
      rcases Nat.lt_or_ge q lst.length with h1 | h1
      · exact h1
      · rw [List.drop_eq_nil_iff.2 h1] at hl; cases hl
    have hi : i = idx q := by
      have := congrArg List.head? hl
      rw [List.head?_drop, (hidx q hlt).1] at this
      exact (Option.some.inj this).symm
    have ho : ops[i]? = some ops[i]! := by
      have hlt' := (hidx q hlt).2
      rw [← hi] at hlt'
      rw [Array.getElem?_eq_getElem hlt', getElem!_pos ops i hlt']
    generalize ops[i]! = o at ho
    rw [compN_cons (ho := ho), runL_cons] at hr
    obtain ⟨fr', h', s', f', g1, g2, g3⟩ := opG_specG (St := fun ev h v h' => stepN (c.at d) (d.B + i) (qs i) o.op ev h = some (v, h') ∧ Apart c ops (spR rc i) ev h h') (fun s f h k r hx => wrapI_spec hH hI hx) hR hr
    have hl' : lst.drop (q + 1) = l := by rw [← List.tail_drop, hl]; rfl
    obtain ⟨frs, hs, e1, e2, e3, e4⟩ := ih (q + 1) _ s' f' h' fr' hl' (by omega) g2 g1
    refine ⟨fun j => if j = q then fr else frs j, fun j => if j = q then h else hs j, by simp, by simp, ?_, ?_⟩
    · intro j h1 h2
      by_cases hj : j = q
      · subst hj
        simp only [if_true, if_neg (show ¬ j + 1 = j by omega), e1, e2]
        rw [← hi]
        rcases g3 with ⟨w1, w2, w3⟩ | ⟨w1, v, ⟨w2, w3⟩, w4⟩
        · exact ⟨⟨o, ho, .inl ⟨w1, w2, w3⟩⟩, fun i' _ oi _ v h2 hv => ⟨h2, by rw [w3]; exact hv⟩⟩
        · exact ⟨⟨o, ho, .inr ⟨w1, v, w2, w4⟩⟩, w3⟩
      · simp only [if_neg hj, if_neg (show ¬ j + 1 = q by omega)]
        exact e3 j (by omega) h2
    · simp only [if_neg (show ¬ lst.length = q by omega)]
      exact e4
end Go.Proofs.YtbchdbhojafpdaaGreatDoor.Ev
namespace Go.Proofs.YtbchdbhojafpdaaGreatDoor.Ev
open Go
def YSound (c : Cfg) (d : XD) : Prop := ∀ (ρ : Rho) (h : AH) (w : World) (b : Nat) (args : List V) (args' : List Value) (v : V) (h' : AH) (cb S : Nat), GOK c ρ → HR ρ h w → ρ b 0 = some (cb, 0, S) → RL ρ args args' → d.Y b args h = some (v, h') →
  ∃ r : Loop, w.heap[cb]? = some (.loop r) ∧ args'.length = r.params.size ∧ ∀ n, RoundIn Fence.wide n c.P cb r.fn ((r.params.zip args'.toArray).foldl (fun tmps (t, a) => tmps.setIfInBounds t a) r.tmps) r.assign r.body w fun e w' => ∃ u ρ', e = .returned u ∧ R ρ' v u ∧ HR ρ' h' w' ∧ Step ρ h w ρ' h' w'
structure DSound (c : Cfg) (d : XD) : Prop where
  C : CSound (c.at d)
  X : XSound (c.at d)
  A : CAbs (c.at d)
  Y : YSound c d
  YA : ∀ b args h v h', d.Y b args h = some (v, h') → AStep h h'
theorem yieldAt_some {ev : Operand → V} {o : Op} {b : Nat} {args : List V} (h : yieldAt ev o = some (b, args)) : ∃ cl f, o = .call cl ∧ cl.callee = .value f ∧ ev f = .yield b ∧ args = cl.args.toList.map ev := by
  unfold yieldAt at h
  split at h
  · rename_i cl
    split at h
    · rename_i f hf
      split at h
      · rename_i b' hb; cases h; exact ⟨cl, f, rfl, hf, hb, rfl⟩
      · cases h
    · cases h
  · cases h
theorem stepX_wpIn {c : Cfg} {d : XD} (hD : DSound c d) {ro : Option Nat} {n : Nat} {ρ : Rho} {h h' : AH} {w : World} {yl quiet : Bool} {o : Oper} {a : Act} {ev : Operand → V} {v : V} (hg : GOK c ρ) (hr : HR ρ h w) (he : ∀ x, R ρ (ev x) (a.eval x)) (hs : stepX c yl quiet o.op d ev h = some (v, h'))
    {next : Act → World → Prop} {Q : Exit → Act → World → Prop} (hn : ∀ u w' ρ', R ρ' v u → HR ρ' h' w' → Step ρ h w ρ' h' w' → next (a.put o.dst u) w') : o.wpIn (fen ro) n c.P a w next Q := by
  unfold stepX at hs
  split at hs
  · rename_i b args hy
    obtain ⟨cl, f, hop, hcl, hf, rfl⟩ := yieldAt_some hy
    have hR := he f
    rw [hf] at hR
    obtain ⟨cb, S, hv, hρ⟩ := hR
    obtain ⟨r, h1, h2, h3⟩ := hD.Y ρ h w b _ _ v h' cb S hg hr hρ (RL_map he cl.args.toList) hs
    refine ⟨fun f _ => fen_fn ro f, ?_⟩
    have hsem : o.semAt (fen ro).round a.eval = execOp a.eval o := Oper.semAt_eq _ _ _ fun cl hcl => by rw [hop] at hcl; cases hcl
    have hrun : (execOp a.eval o).run c.P w = (Instr.yield cb (cl.args.map a.eval)).run c.P w := by
      unfold execOp
      rw [hop]
      unfold resolve
      simp only [hcl, hv, Deferred.ofValue, Sem.run_bind, Sem.run_pure, Result.andThen_ok, invoke]
      congr 2
      simp
    have harr : (cl.args.toList.map a.eval).toArray = cl.args.map a.eval := Array.ext' (by simp)
    rw [hsem, hrun, run_yield h1 (by rw [← h2]; simp)]
    simp only [Oper.uponIn]
    refine ⟨fun hd => (by rw [fen_depth] at hd; cases hd), round_fen ?_⟩
    have h4 := h3 (n - 1)
    rw [harr] at h4
    refine h4.mono ?_
    rintro e w' ⟨u, ρ', rfl, q1, q2, q3⟩
    exact hn u w' ρ' q1 q2 q3
  · exact stepV_wpIn hD.C hD.X hg hr he hs hn
def Marks (B : Nat) (ρ : Rho) (w : World) : List Deferred → Prop
  | [] => True
  | d :: ds => (∃ r, d = { target := .collected r, args := #[] } ∧ B ≤ r ∧ (∀ b L x, ρ b L ≠ some (r, x)) ∧ w.heap[r]? = some (.deferred (some [])) ∧ ∀ d' ∈ ds, d'.target ≠ .collected r) ∧ Marks B ρ w ds
theorem Marks.step {B : Nat} {ρ ρ' : Rho} {h h' : AH} {w w' : World} (hs : Step ρ h w ρ' h' w') : ∀ {ds : List Deferred}, Marks B ρ w ds → Marks B ρ' w' ds := by
  intro ds
  induction ds with
  | nil => intro _; trivial
  | cons d ds ih =>
    rintro ⟨⟨r, h1, h2, h3, h4, h5⟩, hm⟩
    have hlt : r < w.heap.size := (Array.getElem?_eq_some_iff.1 h4).1
    refine ⟨⟨r, h1, h2, ?_, ?_, h5⟩, ih hm⟩
    · intro b L x hx
      obtain ⟨L0, x0, h0⟩ := hs.cons b L r x hx hlt
      exact h3 b L0 x0 h0
    · rw [hs.keep r hlt (by rintro ⟨b, L, x, k, hx, _⟩; exact h3 b L x hx)]; exact h4
def FRX (m : Nat) (ρ : Rho) (f : XF) (tmps : Array Value) : Prop := (∀ t, R ρ (getX f t) (tmps.getD t undef)) ∧ ∀ t, msk m t = false → getX f t = .bad
theorem FRX.mono {m : Nat} {ρ ρ' : Rho} {f : XF} {tmps : Array Value} (h : FRX m ρ f tmps) (hle : ρ.le ρ') : FRX m ρ' f tmps := ⟨fun t => (h.1 t).mono hle, h.2⟩
theorem Rel.frx {m N : Nat} {ds : List Nat} {s : List V} {f : XF} {fr : Nat → V} {ρ : Rho} {tmps : Array Value} (h : Rel m N ds s f fr) (hf : FR foFun ρ fr tmps) : FRX m ρ f tmps := by
  refine ⟨fun t => ?_, h.bad⟩
  cases hm : msk m t with
  | true => rw [h.kept t hm]; exact hf t
  | false => rw [h.bad t hm]; trivial
def XPost (B m N : Nat) (c : Cfg) (ρ0 : Rho) (h0 : AH) (w0 : World) (r : V × AH) (k : XF → AH → Res) (Q : Act → World → Prop) : Prop :=
  ∀ (f : XF) (h : AH) (a : Act) (w : World) (ρ : Rho), k f h = some r → FRX m ρ f a.tmps → a.tmps.size = N → Marks B ρ w a.defers → GOK c ρ → HR ρ h w → Step ρ0 h0 w0 ρ h w → Q a w
theorem XPost.step {B m N : Nat} {c : Cfg} {ρ0 ρ1 : Rho} {h0 h1 : AH} {w0 w1 : World} {r : V × AH} {k : XF → AH → Res} {Q : Act → World → Prop} (hr : HR ρ0 h0 w0) (hs : Step ρ0 h0 w0 ρ1 h1 w1) (hp : XPost B m N c ρ0 h0 w0 r k Q) : XPost B m N c ρ1 h1 w1 r k Q :=
  fun f h a w ρ hk hf hN hd hg hh hst => hp f h a w ρ hk hf hN hd hg hh (Step.trans hr hs hst)
theorem runL_wp {c : Cfg} {d : XD} (hD : DSound c d) {I : Bool → Bool → List Nat → Op → XI} (hI : OpsOK c I) {ro : Option Nat} {n B m N : Nat} {ops : Array Oper} {qs : Nat → Bool} {yl : Bool} {Q : Exit → Act → World → Prop} {K : XF → AH → Res} {r : V × AH} : ∀ (l : List Oper) (i : Nat) (ds : List Nat) (s : List V) (f : XF) (h : AH) (fr : Nat → V) (a : Act) (w : World) (ρ : Rho), ops.toList.drop i = l → Rel m N ds s f fr → runL (compL c (I yl) m N ops qs l i ds) d s f h K = some r →
    FR foFun ρ fr a.tmps → a.tmps.size = N → Marks B ρ w a.defers → GOK c ρ → HR ρ h w → XPost B m N c ρ h w r K (Q .normal) → wpOpsIn (fen ro) n c.P ops Q (List.range' i l.length) a w := by
  intro l
  induction l with
  | nil =>
    intro i ds s f h fr a w ρ _ hR hr hf hN hd hg hh hp
    exact hp f h a w ρ hr (hR.frx hf) hN hd hg hh (Step.refl _ _ _)
  | cons o l ih =>
    intro i ds s f h fr a w ρ hl hR hr hf hN hd hg hh hp
    rw [compL_cons, runL_cons] at hr
    have ho : ops[i]? = some o := by
      have := congrArg List.head? hl
      rw [List.head?_drop] at this
      rw [← Array.getElem?_toList]; exact this
    have hl' : ops.toList.drop (i + 1) = l := by rw [← List.tail_drop, hl]; rfl
    rcases opN_cases hR hr with hr | ⟨x, cl, hop, hgd, hnl, hne, hall⟩
    rotate_left
    · rw [List.length_cons, List.range'_succ]
      unfold wpOpsIn
      simp only [ho]
      have hw : wantedV foFun ops o fr = some true := by unfold wantedV; rw [hgd]
      rw [wantedV_sound hf hw]
      simp only [if_true]
      obtain ⟨p, hp1, u, w', ρ', e1, e2, e3, e4⟩ := nextL_sound (P := c.P) (ty := o.type) hh (evO_R hg hf x) hnl
      obtain ⟨s', f', g1, g2⟩ := hall p hp1
      refine ⟨fun f _ => fen_fn ro f, ?_⟩
      have hsem : o.semAt (fen ro).round a.eval = execOp a.eval o := Oper.semAt_eq _ _ _ fun cl hcl => by rw [hop] at hcl; cases hcl
      have hrun : (execOp a.eval o).run c.P w = .ok (.value u) w' := by
        unfold execOp
        rw [hop]
        simp only [Sem.run_bind, e1, Result.andThen_ok, Sem.run_pure]
      rw [hsem, hrun]
      exact ih _ _ _ _ _ _ _ w' ρ' hl' g2 g1 ((hf.mono e4.le).put hN o.dst e2) (by rw [put_size]; exact hN) (by rw [put_defers]; exact hd.step e4) (hg.mono e4.le) e3 (hp.step hh e4)
    obtain ⟨fr', h', s', f', g1, g2, g3⟩ := opG_spec hI hR hr
    rw [List.length_cons, List.range'_succ]
    unfold wpOpsIn
    simp only [ho]
    rcases g3 with ⟨hw, rfl, rfl⟩ | ⟨hw, v, hs, rfl⟩
    · rw [wantedV_sound hf hw]
      simp only [Bool.false_eq_true, if_false]
      exact ⟨fun f _ => fen_fn ro f, ih _ _ _ _ _ _ _ w ρ hl' g2 g1 (hf.put hN o.dst (undefV_R ρ)) (by rw [put_size]; exact hN) (by rw [put_defers]; exact hd) hg hh hp⟩
    · rw [wantedV_sound hf hw]
      simp only [if_true]
      refine stepX_wpIn hD hg hh (evO_R hg hf) hs ?_
      intro u w' ρ' q1 q2 q3
      exact ih _ _ _ _ _ _ _ w' ρ' hl' g2 g1 ((hf.mono q3.le).put hN o.dst q1) (by rw [put_size]; exact hN) (by rw [put_defers]; exact hd.step q3) (hg.mono q3.le) q2 (hp.step hh q3)
end Go.Proofs.YtbchdbhojafpdaaGreatDoor.Ev
namespace Go.Proofs.YtbchdbhojafpdaaGreatDoor.Ev
open Go
section
variable {P : Program} {b : Frame} {a : Act} {k : List Item} {cs : List Frame} {w : World}
theorem stepR_scope' {c : Code} : step P (lone (b.atR a (.code (.scope c) :: k)) cs w) = .next (lone (b.atR a (.code c :: .inScope c :: k)) cs w) := step_lone_go (by simp [stepG, stepG.exec, Frame.atR])
theorem stepR_inScope' {c : Code} : step P (lone (b.atR a (.inScope c :: k)) cs w) = .next (lone (b.atR a k) cs w) := step_lone_go (by simp [stepG, stepG.exec, Frame.atR])
end
def jumpsIn (F : Fence) (n : Nat) (P : Program) (c : Code) (Q : Exit → Act → World → Prop) : Nat → Code → Act → World → Prop
  | 0, _, _, _ => False
  | m + 1, cur, a, w => cur.wpIn F n P (fun e a' w' => match e with
    | .goto l => match findLabel c l with
      | some rest => jumpsIn F n P c Q m rest a' w'
      | none => Q (.goto l) a' w'
    | e => Q e a' w') a w
theorem wpIn_scope_jumps {F : Fence} {n : Nat} {P : Program} {Q : Exit → Act → World → Prop} {a : Act} {w : World} {c : Code} (m : Nat) (h : jumpsIn F n P c Q m c a w) : (Code.scope c).wpIn F n P Q a w := by
  intro b k cs hro hb hr
  have key : ∀ m cur a w, jumpsIn F n P c Q m cur a w → ∃ e a' w', Q e a' w' ∧ ArrivesIn (Machine.fenced P F) P (lone (b.atR a (.code cur :: .inScope c :: k)) cs w) b k cs e a' w' := by
    intro m
    induction m with
    | zero => intro cur a w h; exact h.elim
    | succ m ih =>
      intro cur a w h
      obtain ⟨e, a₁, w₁, hq, harr⟩ := h b (.inScope c :: k) cs hro hb hr
      cases e with
      | normal => exact ⟨.normal, a₁, w₁, hq, StepsIn.trans harr (.one (fenced_calm hb hr rfl) stepR_inScope')⟩
      | exit id =>
        have hx : exitTo id (.inScope c :: k) = exitTo id k := by simp [exitTo]
        exact ⟨.exit id, a₁, w₁, hq, fun k' hk => harr.1 k' (by rw [hx]; exact hk), fun hr' hk => harr.2 hr' (by rw [hx]; exact hk)⟩
      | goto l =>
        simp only at hq
        cases hf : findLabel c l with
        | some rest =>
          rw [hf] at hq
          obtain ⟨e₂, a₂, w₂, hq₂, harr₂⟩ := ih rest a₁ w₁ hq
          exact ⟨e₂, a₂, w₂, hq₂, .of_steps (harr.1 _ (by simp [gotoIn, hf])) harr₂⟩
        | none =>
          rw [hf] at hq
          have hx : gotoIn l (.inScope c :: k) = gotoIn l k := by simp [gotoIn, hf]
          exact ⟨.goto l, a₁, w₁, hq, fun k' hk => harr.1 k' (by rw [hx]; exact hk), fun hr' hk => harr.2 hr' (by rw [hx]; exact hk)⟩
      | ret => exact ⟨_, a₁, w₁, hq, harr⟩
      | panic ch => exact ⟨_, a₁, w₁, hq, harr⟩
      | outgrown => exact ⟨_, a₁, w₁, hq, harr⟩
  obtain ⟨e, a', w', hq, harr⟩ := key m c a w h
  exact ⟨e, a', w', hq, .of_steps (.one (fenced_calm hb hr rfl) stepR_scope') harr⟩
theorem loopOf_spec {ρ : Rho} {h : AH} {w : World} (hr : HR ρ h w) {b : Nat} {R T j : V} {st : Int} (hm : loopOf h b = some (R, T, st, j)) :
    ∃ k cb S r, h.get b = some k ∧ k.IsObj ∧ ρ b 0 = some (cb, 0, S) ∧ w.heap[cb]? = some (.loop r) ∧ ∃ fn tm, R = .rcd fn r.params r.assign r.body ∧ T = .tuple tm ∧ RL ρ tm r.tmps.toList ∧ st = stateN r.state ∧ jumpV r.pending = some j := by
  unfold loopOf at hm
  split at hm
  · rename_i k hk
    split at hm
    · rename_i hc
      obtain ⟨h1, h2, h3⟩ := hc
      obtain ⟨_, cb, S, g1, g2⟩ := hr.obj b k hk ⟨h1, h2⟩
      rw [h3] at g2
      obtain ⟨r, g3, fn, tm, j', g4, g5, g6⟩ := g2
      split at hm
      · rename_i hz
        cases hm
        rw [hz] at g4
        cases g4
        exact ⟨k, cb, S, r, hk, ⟨h1, h2⟩, g1, g3, fn, tm, rfl, rfl, g5, rfl, g6⟩
      · cases hm
    · cases hm
  · cases hm
theorem putLoop_sound {ρ : Rho} {h : AH} {w : World} (hr : HR ρ h w) {b : Nat} {k : Blk} (hk : h.get b = some k) (hob : k.IsObj) {cb S : Nat} (hb : ρ b 0 = some (cb, 0, S)) {fn : Nat} {tm : List V} {j : V} {st : Int} (r : Loop) (h1 : RL ρ tm r.tmps.toList) (h2 : st = stateN r.state) (h3 : jumpV r.pending = some j) :
    HR ρ (putLoop h b (.rcd fn r.params r.assign r.body) (.tuple tm) st j) (w.putObj cb (.loop r)) ∧ Step ρ h w ρ (putLoop h b (.rcd fn r.params r.assign r.body) (.tuple tm) st j) (w.putObj cb (.loop r)) :=
  obj_set hr hk hob hb 1 _ _ ⟨r, rfl, fn, tm, j, by rw [h2], h1, h3⟩
structure XKPost (B m N : Nat) (c : Cfg) (ρ0 : Rho) (h0 : AH) (w0 : World) (r : V × AH) (k : XK) (Q : Exit → Act → World → Prop) : Prop where
  norm : XPost B m N c ρ0 h0 w0 r k.norm (Q .normal)
  exit : ∀ id, XPost B m N c ρ0 h0 w0 r (k.exit id) (Q (.exit id))
  goto : ∀ l, XPost B m N c ρ0 h0 w0 r (k.goto l) (Q (.goto l))
  ret : XPost B m N c ρ0 h0 w0 r k.ret (Q .ret)
theorem XKPost.step {B m N : Nat} {c : Cfg} {ρ0 ρ1 : Rho} {h0 h1 : AH} {w0 w1 : World} {r : V × AH} {k : XK} {Q : Exit → Act → World → Prop} (hr : HR ρ0 h0 w0) (hs : Step ρ0 h0 w0 ρ1 h1 w1) (hp : XKPost B m N c ρ0 h0 w0 r k Q) : XKPost B m N c ρ1 h1 w1 r k Q :=
  ⟨hp.norm.step hr hs, fun id => (hp.exit id).step hr hs, fun l => (hp.goto l).step hr hs, hp.ret.step hr hs⟩
theorem XPost.at {B m N : Nat} {c : Cfg} {ρ : Rho} {h : AH} {w : World} {r : V × AH} {k : XF → AH → Res} {Q : Act → World → Prop} (hp : XPost B m N c ρ h w r k Q) {f : XF} {a : Act} (hk : k f h = some r) (hf : FRX m ρ f a.tmps) (hN : a.tmps.size = N) (hd : Marks B ρ w a.defers) (hg : GOK c ρ) (hh : HR ρ h w) : Q a w :=
  hp f h a w ρ hk hf hN hd hg hh (Step.refl _ _ _)
theorem onN_some {fm : Option Nat} {r : Res} {x : V × AH} (h : onN fm r = some x) : fm = none ∧ r = some x := by
  cases fm with
  | none => exact ⟨rfl, h⟩
  | some l => cases h
theorem HR.bump {ρ : Rho} {h : AH} {w : World} (hr : HR ρ h w) (n : Nat) : HR ρ ⟨h.next + n, h.low, h.m⟩ w :=
  ⟨fun b L x hx => Nat.lt_of_lt_of_le (hr.fresh b L x hx) (Nat.le_add_right _ _), fun b k hk => Nat.lt_of_lt_of_le (hr.lives b k hk) (Nat.le_add_right _ _), hr.bound, fun b L b' L' cb x x' k h1 h2 hk hro => hr.inj b L b' L' cb x x' k h1 h2 hk hro, fun b k L x hk hx => hr.top b k L x hk hx, fun b k L cb sh S hk hx hm => hr.blk b k L cb sh S hk hx hm, fun b k hk ho => hr.obj b k hk ho⟩
open Classical in
theorem draw_region {c : Cfg} {d : XD} {ro : Option Nat} {n : Nat} (hD : DSound c d) (hmix : c.P.follows .mixedOrders = true) {I : Bool → Bool → List Nat → Op → XI} (hI : OpsOK c I) {B m N id : Nat} {ops : Array Oper} {Q : Exit → Act → World → Prop} {K : XF → AH → Res} {r : V × AH} {f : XF} {h : AH} {a : Act} {w : World} {ρ : Rho}
    {qm : Nat} {rc : Option RC} (hcb : certB c.P ops (Region.before ops) qm rc = true) (hr : runL (compN c (I false) m N ops (fun i => Nat.testBit qm i) rc (ordL rc ops.size) []) ⟨d.C, d.Y, h.next⟩ [] f ⟨h.next + ops.size, h.low, h.m⟩ K = some r) (hf : FRX m ρ f a.tmps) (hN : a.tmps.size = N) (hd : Marks B ρ w a.defers) (hg : GOK c ρ) (hh : HR ρ h w) (hp : XPost B m N c ρ h w r K (Q .normal)) :
    (Code.region id ops true).wpIn (fen ro) n c.P Q a w := by
  obtain ⟨hok, hlen⟩ := certB_ok hcb
  have hl : (ordL rc ops.size).length = ops.size := by
    cases rc with
    | none => exact List.length_range
    | some rc => exact Nat.eq_of_beq_eq_true hlen
  have hidx : ∀ q, q < (ordL rc ops.size).length → (ordL rc ops.size)[q]? = some (idxR rc q) ∧ idxR rc q < ops.size := by
    intro q hq
    refine ⟨?_, (hok.ip q (by omega)).1⟩
    cases rc with
    | none => rw [hl] at hq; exact List.getElem?_range hq
    | some rc =>
      show rc.l[q]? = some (rc.l.getD q 0)
      have hq' : q < rc.l.length := hq
      rw [List.getD_eq_getElem?_getD, List.getElem?_eq_getElem hq']
      rfl
  have hH : HintOK c := hD.A.2.2
  obtain ⟨frs, hs, e1, e2, e3, f', ds', s', e4, e5⟩ := runN_trace hH hI hidx (ordL rc ops.size) 0 [] [] f ⟨h.next + ops.size, h.low, h.m⟩ (getX f) rfl (Nat.zero_le _) (Rel.start hf.2) hr
  rw [hl] at e3 e4 e5
  refine wpIn_region_any hmix ?_
  have hr' := hh.drawn
  have hst := Step.drawn ρ h w
  have hfalse : ∀ j, (Array.replicate ops.size false).getD j false = false := by
    intro j
    rw [Array.getD_eq_getD_getElem?, Array.getElem?_replicate]
    split <;> rfl
  let k' : (Nat → V) → AH → Res := fun fr h1 => if ∃ f' ds' s', Rel m N ds' s' f' fr ∧ K f' h1 = some r then some r else none
  have hk' : k' (frs ops.size) (hs ops.size) = some r := if_pos ⟨f', ds', s', e4, e5⟩
  have hpost : Post a.defers (c.at d) foFun N ρ h { w with drawn := w.drawn + 1 } r k' (Q .normal) := by
    intro fr1 h1 a1 w1 ρ1 hk1 hf1 hN1 hd1 hg1 hr1 hs1
    have hex : ∃ f' ds' s', Rel m N ds' s' f' fr1 ∧ K f' h1 = some r := by
      by_cases hx : ∃ f' ds' s', Rel m N ds' s' f' fr1 ∧ K f' h1 = some r
      · exact hx
      · have : k' fr1 h1 = none := if_neg hx
        rw [this] at hk1; cases hk1
    obtain ⟨f1, ds1, s1, q1, q2⟩ := hex
    have hst1 := Step.trans hh hst hs1
    exact hp f1 h1 a1 w1 ρ1 q2 (q1.frx hf1) hN1 (by rw [hd1]; exact hd.step hst1) hg1 hr1 hst1
  have hnone : ∀ i, (hs 0).get (h.next + i) = none := by
    intro i
    rw [e2]
    cases hb : (⟨h.next + ops.size, h.low, h.m⟩ : AH).get (h.next + i) with
    | none => rfl
    | some k => have := hh.lives (h.next + i) k hb; omega
  have hbase : (hs 0).next = h.next + ops.size := by rw [e2]
  have ht : ∀ q, q < ops.size → Trace2 (c.at d) N ops (fun i => Nat.testBit qm i) h.next (idxR rc q) (frs q) (hs q) (frs (q + 1)) (hs (q + 1)) := fun q hq => (e3 q (Nat.zero_le _) hq).1
  refine draw_wp2 (c := c.at d) hD.C hD.X hD.A hok ht hbase (fun i _ => hnone i) ?_ hk' hr' rfl hpost ops.size _ a _ ρ 0 (hs 0) ?_ ?_
  · rintro i s oi v h2 hoi ⟨hs', hmem, hlt, oi', hoi', hstab⟩ hv
    rw [hoi] at hoi'
    cases hoi'
    obtain ⟨p1, p2⟩ := hok.pi s hs'
    have hap := (e3 (posR rc s) (Nat.zero_le _) p1).2
    rw [p2] at hap
    have hev : ∀ x, x ∈ oi.op.operands.toList → evO c foFun (frs (posR rc i)) x = evO c foFun (frs (posR rc s)) x := by
      intro x hx
      cases x with
      | tmp t =>
        have hfr := t_frame ht t (posR rc s - posR rc i) (posR rc i) (by omega) (fun q o h1 h2 ho hdst => by
          unfold stableB at hstab
          rw [List.all_eq_true] at hstab
          have h3 := hstab _ hx
          simp only at h3
          rw [List.all_eq_true] at h3
          obtain ⟨g1, g2⟩ := hok.ip q (by omega)
          have h4 := h3 (idxR rc q) (List.mem_range.2 g1)
          rw [ho] at h4
          simp only [hdst, beq_self_eq_true, Bool.not_true, Bool.false_or, g2] at h4
          rw [Arr.blt_eq] at h4
          have := of_decide_eq_true h4
          omega)
        rw [show posR rc i + (posR rc s - posR rc i) = posR rc s from by omega] at hfr
        exact hfr.symm
      | const v => rfl
      | global g => rfl
      | func g => rfl
    have hcall : isCall oi.op = none := by
      cases hi : isCall oi.op with
      | none => rfl
      | some cl => rw [sop_call hi] at hv; cases hv
    have hcg : ∀ h, sop c.P oi.op (evO c foFun (frs (posR rc i))) h = sop c.P oi.op (evO c foFun (frs (posR rc s))) h := fun h => sop_congr hcall hev h
    have hv' : sop c.P oi.op (evO c foFun (frs (posR rc s))) (hs (posR rc s)) = some (v, h2) := by rw [← hcg]; exact hv
    obtain ⟨h3, hh3⟩ := hap i hmem oi hoi v h2 hv'
    exact ⟨h3, by rw [← hcg] at hh3; exact hh3⟩
  · refine Nat.le_trans (List.length_filter_le _ _) ?_
    simp
  · have hM : HR ρ (hs 0) { w with drawn := w.drawn + 1 } := by rw [e2]; exact hr'.bump _
    refine ⟨by simp, (fun i j hj _ => by rw [hfalse] at hj; cases hj), Nat.zero_le _, (fun i o _ _ _ => by rw [hfalse]; simp), (fun i o _ _ h => by omega), rfl, (fun _ _ => rfl), (fun i o _ _ _ h => by rw [hfalse] at h; cases h), ?_, ?_, ?_, hM, ?_, hg, ?_, hN, rfl⟩
    · intro i o _ _ _
      refine ⟨hnone i, fun L => ?_⟩
      cases hρ : ρ (h.next + i) L with
      | none => rfl
      | some y => have := hh.fresh _ _ _ hρ; omega
    · intro q hq b kk hb
      obtain rfl : q = 0 := by omega
      exact hM.lives b kk hb
    · exact (t_next_le (c := c.at d) hD.A ht (Nat.zero_le _) (Nat.le_refl _)).2
    · rw [e2]
      exact (Step.refl ρ h { w with drawn := w.drawn + 1 }).other (fun _ _ => rfl) (Nat.le_add_right _ _) (Nat.le_refl _)
    · intro t
      exact ⟨0, Nat.zero_le _, (fun i o _ _ => by rw [hfalse]; simp), by rw [e1]; exact hf.1 t⟩
theorem stateN_one {s : LoopState} (h : stateN s ≠ 1) : s ≠ .busy := fun e => h (by rw [e]; rfl)
theorem stateN_zero {s : LoopState} (h : stateN s = 0) : s = .ready := by cases s <;> first | rfl | (simp [stateN] at h)
theorem leapX_wp {c : Cfg} {ro : Option Nat} {n B m N : Nat} {ρ : Rho} {h : AH} {w : World} {r : V × AH} {k : XK} {Q : Exit → Act → World → Prop} (hp : XKPost B m N c ρ h w r k Q) {f : XF} {a : Act} {j : V} {pend : Option Code} (hj : jumpV pend = some j) (hk : leapX j f h k = some r) (hf : FRX m ρ f a.tmps) (hN : a.tmps.size = N) (hd : Marks B ρ w a.defers) (hg : GOK c ρ) (hh : HR ρ h w) :
    (pend = none → Q .normal a w) ∧ ∀ cd, pend = some cd → cd.wpIn (fen ro) n c.P Q a w := by
  unfold jumpV at hj
  split at hj
  · cases hj; exact ⟨fun _ => hp.norm.at hk hf hN hd hg hh, fun cd e => (by cases e)⟩
  · cases hj; exact ⟨fun e => (by cases e), fun cd e => by cases e; exact wpIn_ret (hp.ret.at hk hf hN hd hg hh)⟩
  · rename_i id; cases hj; exact ⟨fun e => (by cases e), fun cd e => by cases e; exact wpIn_exit ((hp.exit id).at (show k.exit (id : Int).toNat f h = some r from hk) hf hN hd hg hh)⟩
  · rename_i l; cases hj; exact ⟨fun e => (by cases e), fun cd e => by cases e; exact wpIn_goto ((hp.goto l).at (show k.goto (l : Int).toNat f h = some r from hk) hf hN hd hg hh)⟩
  · cases hj
theorem RL_range {ρ : Rho} {m : Nat} {f : XF} {tmps : Array Value} (h : FRX m ρ f tmps) : RL ρ ((List.range tmps.size).map (getX f)) tmps.toList := by
  refine RL.of_get (by simp) ?_
  intro i x y hx hy
  have hi : i < tmps.size := by
    have := (List.getElem?_eq_some_iff.1 hx).1
    simpa using this
  have h1 := h.1 i
  rw [Array.getD_eq_getD_getElem?] at h1
  rw [Array.getElem?_toList] at hy
  rw [hy] at h1
  simp only [List.getElem?_map, List.getElem?_range hi, Option.map_some, Option.some.injEq] at hx
  rw [← hx]
  exact h1
theorem range_wp {c : Cfg} {d : XD} (hD : DSound c d) {n B m N fid : Nat} {Q : Exit → Act → World → Prop} {g : Operand} {ps : Array Tmp} {aas bd : Code} {f : XF} {h : AH} {k : XK} {r : V × AH} {a : Act} {w : World} {ρ : Rho} (hs : rangeX c d false fid N g ps aas bd f h k = some r)
    (hB : B ≤ w.heap.size) (hf : FRX m ρ f a.tmps) (hN : a.tmps.size = N) (hd : Marks B ρ w a.defers) (hg : GOK c ρ) (hh : HR ρ h w) (hp : XKPost B m N c ρ h w r k Q) : (Code.rangeFunc g ps aas bd).wpIn Fence.wide n c.P Q a w := by
  unfold rangeX at hs
  simp only [Bool.false_eq_true, if_false] at hs
  split at hs
  · rename_i f' fs cs hev
    split at hs
    · rename_i hbody
      split at hs
      · rename_i v h2 hcall
        have hevR : R ρ (evX c [] [] f g) (a.eval g) := by
          have := evO_R (c := c) (fo := foFun) (fr := getX f) (a := a) hg hf.1 g
          rw [← evX_eq (Rel.start (N := N) hf.2)] at this
          exact this
        rw [hev] at hevR
        obtain ⟨xs, ys, hval, hxs, hys⟩ := hevR
        refine wpIn_rangeFunc fun fn _ => ?_
        have hh1 : HR ρ h (w.alloc (.deferred (some []))) := hh.push rfl
        have hst1 : Step ρ h w ρ h (w.alloc (.deferred (some []))) := (Step.refl ρ h w).push rfl rfl rfl rfl
        let L : Loop := { state := .ready, pending := none, fn := fn, tmps := a.tmps, params := ps, assign := aas, body := bd, defers := w.heap.size }
        obtain ⟨ρ1, o1, o2, o3⟩ := obj_new hh1 1 [.rcd fid ps aas bd, .tuple ((List.range N).map (getX f)), .int .i64 0, .tuple []] (.loop L) ⟨L, rfl, fid, _, _, rfl, by rw [← hN]; exact RL_range hf, rfl⟩
        have o2' := Step.trans hh hst1 o2
        have hsz : (w.alloc (.deferred (some []))).heap.size = w.heap.size + 1 := World.size_alloc w _
        rw [hsz] at o3
        have hRL : RL ρ1 (fs ++ [.yield h.next] ++ cs) (xs.toList ++ [Value.func (.yield (w.heap.size + 1)) #[] #[]] ++ ys.toList) :=
          ((RL.mono o2'.le hxs).append (show RL ρ1 [V.yield h.next] [Value.func (.yield (w.heap.size + 1)) #[] #[]] from ⟨_, [], rfl, ⟨w.heap.size + 1, 0, rfl, o3⟩, rfl⟩)).append (RL.mono o2'.le hys)
        have hcalls := hD.C ρ1 _ _ f' _ _ v h2 (hg.mono o2'.le) o1 hRL hcall
        obtain ⟨fn', hfn', hname⟩ : ∃ fn', c.P.funcs[f']? = some fn' ∧ (fn'.name == "runtime.NumGoroutine") = false ∧ fn'.body.isSome = true := by
          unfold hasBody at hbody
          split at hbody
          · cases hbody
          · rename_i fn' hfn'
            split at hbody
            · cases hbody
            · rename_i hnm; exact ⟨fn', hfn', by simpa using hnm, Option.some.inj hbody⟩
        refine ⟨w.heap.size + 1, [{ target := .collected w.heap.size, args := #[] }], (w.alloc (.deferred (some []))).alloc (.loop L), { target := .fn (.func f') ys, args := xs ++ #[Value.func (.yield (w.heap.size + 1)) #[] #[]] }, (w.alloc (.deferred (some []))).alloc (.loop L), f', (xs.toList ++ [Value.func (.yield (w.heap.size + 1)) #[] #[]] ++ ys.toList).toArray, (w.alloc (.deferred (some []))).alloc (.loop L), run_enterLoop_outer fn a.tmps ps aas bd, ?_, fun f' _ => trivial, ?_, fun hx => (by cases hx), ?_⟩
        · unfold resolve
          simp only [rangeCall, hval, Deferred.ofValue, Sem.run_pure]
          rw [show Array.map a.eval #[Operand.const (Value.func (Fn.yield (w.heap.size + 1)) #[] #[])] = #[Value.func (Fn.yield (w.heap.size + 1)) #[] #[]] from by simp [Act.eval]]
        · unfold invoke
          simp only
          rw [show xs ++ #[Value.func (.yield (w.heap.size + 1)) #[] #[]] ++ ys = (xs.toList ++ [Value.func (.yield (w.heap.size + 1)) #[] #[]] ++ ys.toList).toArray from Array.ext' (by simp)]
          exact callFunc_body hfn' hname.1 hname.2 _ _
        · refine callsIn_wide.2 (hcalls.mono ?_)
          rintro e w3 ⟨u, ρ2, rfl, q1, q2, q3⟩
          have q3' := Step.trans hh o2' q3
          unfold endX at hs
          cases hlo : loopOf h2 h.next with
          | none => rw [hlo] at hs; cases hs
          | some p =>
            obtain ⟨R', T', st, j⟩ := p
            rw [hlo] at hs
            simp only at hs
            split at hs
            · cases hs
            · rename_i hst
              obtain ⟨kb, cb, S, r', g1, g2, g3, g4, fn2, tm, rfl, rfl, g5, g6, g7⟩ := loopOf_spec q2 hlo
              rw [q3.le _ _ _ o3] at g3
              cases g3
              have hb := stateN_one (s := r'.state) (by rw [← g6]; exact hst)
              obtain ⟨p1, p2⟩ := putLoop_sound q2 g1 g2 (q3.le _ _ _ o3) (fn := fn2) (tm := tm) (j := j) (st := 3) { r' with state := .exhausted } g5 rfl g7
              refine ⟨r'.pending, _, run_endLoop g4 hb, ?_⟩
              have p2' := Step.trans hh q3' p2
              have hmark : Marks B ρ2 (w3.putObj (w.heap.size + 1) (.loop { r' with state := .exhausted })) ([{ target := .collected w.heap.size, args := #[] }] ++ a.defers) := by
                refine ⟨⟨w.heap.size, rfl, hB, ?_, ?_, ?_⟩, hd.step p2'⟩
                · intro b Lb x hx
                  have hlt2 : w.heap.size < (w.alloc (.deferred (some []))).heap.size := by rw [hsz]; omega
                  obtain ⟨L0, x0, h0⟩ := (Step.trans hh1 o2 (Step.trans o1 q3 p2)).cons b Lb w.heap.size x hx hlt2
                  exact absurd (hh.bound _ _ _ _ h0) (Nat.lt_irrefl _)
                · have hk0 : (w.alloc (.deferred (some []))).heap[w.heap.size]? = some (.deferred (some [])) := World.alloc_heap_new w _
                  have hlt2 : w.heap.size < (w.alloc (.deferred (some []))).heap.size := by rw [hsz]; omega
                  rw [(Step.trans hh1 o2 (Step.trans o1 q3 p2)).keep w.heap.size hlt2 (by rintro ⟨b, Lb, x, kk, hx, _⟩; exact absurd (hh.bound _ _ _ _ hx) (Nat.lt_irrefl _))]
                  exact hk0
                · intro d' hd' he
                  have : ∀ {ds : List Deferred}, Marks B ρ w ds → d' ∈ ds → d'.target ≠ .collected w.heap.size := by
                    intro ds
                    induction ds with
                    | nil => intro _ hm; cases hm
                    | cons d0 ds ih =>
                      rintro ⟨⟨r0, e1, _, _, e4, _⟩, hm⟩ hmem
                      rcases List.mem_cons.1 hmem with e | e
                      · intro ht
                        rw [e, e1] at ht
                        cases ht
                        exact absurd (Array.getElem?_eq_some_iff.1 e4).1 (Nat.lt_irrefl _)
                      · exact ih hm e
                  exact this hd hd' he
              have hj := leapX_wp (ro := none) (n := n) (a := { a with defers := [{ target := .collected w.heap.size, args := #[] }] ++ a.defers }) (hp.step hh p2') g7 hs (hf.mono p2'.le) hN hmark (hg.mono p2'.le) p1
              clear hmark p2' p1 p2
              generalize w3.putObj (w.heap.size + 1) _ = W at hj ⊢
              generalize r'.pending = pend at hj ⊢
              cases pend with
              | none => exact hj.1 rfl
              | some cd => exact hj.2 cd rfl
      · cases hs
    · cases hs
  · cases hs
def FromWp (F : Fence) (n : Nat) (P : Program) (Q : Exit → Act → World → Prop) (code : Code) (fm : Option Nat) (a : Act) (w : World) : Prop :=
  match fm with
  | none => code.wpIn F n P Q a w
  | some l => ∃ rest, findLabel code l = some rest ∧ rest.wpIn F n P Q a w
theorem xexec_wp {c : Cfg} {d : XD} (hD : DSound c d) (hmix : c.P.follows .mixedOrders = true) {I : Bool → Bool → List Nat → Op → XI} (hI : OpsOK c I) {ro : Option Nat} {gd : Bool} {qt : Nat → QC} {n B m N fid fuel : Nat} {r : V × AH} : ∀ (code : Code) (fm : Option Nat) (k : XK) (Q : Exit → Act → World → Prop) (ρ : Rho) (f : XF) (h : AH) (a : Act) (w : World),
    (gd = true → drawsOK c.P qt code = true) → xexec c I d ro.isSome gd qt fid N m fuel code fm f h k = some r → B ≤ w.heap.size → FRX m ρ f a.tmps → a.tmps.size = N → Marks B ρ w a.defers → GOK c ρ → HR ρ h w → XKPost B m N c ρ h w r k Q → FromWp (fen ro) n c.P Q code fm a w := by
  intro code
  induction code with
  | skip =>
    intro fm k Q ρ f h a w hgd he hB hf hN hd hg hh hp
    rw [xexec_skip] at he
    obtain ⟨rfl, he⟩ := onN_some he
    exact wpIn_skip (hp.norm.at he hf hN hd hg hh)
  | region id ops draw =>
    intro fm k Q ρ f h a w hgd he hB hf hN hd hg hh hp
    rw [xexec_region] at he
    obtain ⟨rfl, he⟩ := onN_some he
    unfold regX at he
    cases draw with
    | false =>
      change runL (compL c (I true) m N ops (fun _ => false) ops.toList 0 []) d [] f h k.norm = some r at he
      refine wpIn_region ?_
      have := runL_wp (ro := ro) (n := n) (B := B) hD hI ops.toList 0 [] [] f h (getX f) a w ρ rfl (Rel.start hf.2) he hf.1 hN hd hg hh hp.norm
      rw [Array.length_toList] at this
      rw [List.range_eq_range']
      exact this
    | true =>
      cases gd with
      | false => cases he
      | true => exact draw_region hD hmix hI (hgd rfl) he hf hN hd hg hh hp.norm
  | seq x y ihx ihy =>
    intro fm k Q ρ f h a w hgd he hB hf hN hd hg hh hp
    have hgx : gd = true → drawsOK c.P qt x = true := fun e => by
      have h0 : (Bool.rec (motive := fun _ => Bool) false (drawsOK c.P qt y) (drawsOK c.P qt x)) = true := hgd e
      cases h1 : drawsOK c.P qt x with
      | true => rfl
      | false => rw [h1] at h0; cases h0
    have hgy : gd = true → drawsOK c.P qt y = true := fun e => by
      have h0 : (Bool.rec (motive := fun _ => Bool) false (drawsOK c.P qt y) (drawsOK c.P qt x)) = true := hgd e
      rw [hgx e] at h0
      exact h0
    have hpost : XPost B m N c ρ h w r (fun f h => xexec c I d ro.isSome gd qt fid N m fuel y none f h k) (fun a w => y.wpIn (fen ro) n c.P Q a w) := by
      intro f1 h1 a1 w1 ρ1 hk1 hf1 hN1 hd1 hg1 hr1 hs1
      exact ihy none k Q ρ1 f1 h1 a1 w1 hgy hk1 (Nat.le_trans hB hs1.size) hf1 hN1 hd1 hg1 hr1 (hp.step hh hs1)
    have hx : XKPost B m N c ρ h w r ⟨fun f h => xexec c I d ro.isSome gd qt fid N m fuel y none f h k, k.exit, k.goto, k.ret⟩ (Exit.then (y.wpIn (fen ro) n c.P Q) Q) := ⟨hpost, hp.exit, hp.goto, hp.ret⟩
    cases fm with
    | none =>
      rw [xexec_seq_none] at he
      exact wpIn_seq (ihx none _ _ ρ f h a w hgx he hB hf hN hd hg hh hx)
    | some l =>
      rw [xexec_seq_some] at he
      cases hl : findLabel x l with
      | some rest =>
        rw [hl] at he
        obtain ⟨rest', h1, h2⟩ := ihx (some l) _ _ ρ f h a w hgx he hB hf hN hd hg hh hx
        rw [hl] at h1
        cases h1
        exact ⟨.seq rest y, by simp [findLabel, hl], wpIn_seq h2⟩
      | none =>
        rw [hl] at he
        obtain ⟨rest', h1, h2⟩ := ihy (some l) k Q ρ f h a w hgy he hB hf hN hd hg hh hp
        exact ⟨rest', by simp [findLabel, hl, h1], h2⟩
  | cond x p q ihp ihq =>
    intro fm k Q ρ f h a w hgd he hB hf hN hd hg hh hp
    rw [xexec_cond] at he
    obtain ⟨rfl, he⟩ := onN_some he
    have hgp : gd = true → drawsOK c.P qt p = true := fun e => by
      have h0 : (Bool.rec (motive := fun _ => Bool) false (drawsOK c.P qt q) (drawsOK c.P qt p)) = true := hgd e
      cases h1 : drawsOK c.P qt p with
      | true => rfl
      | false => rw [h1] at h0; cases h0
    have hgq : gd = true → drawsOK c.P qt q = true := fun e => by
      have h0 : (Bool.rec (motive := fun _ => Bool) false (drawsOK c.P qt q) (drawsOK c.P qt p)) = true := hgd e
      rw [hgp e] at h0
      exact h0
    have hx := evO_R (c := c) (fo := foFun) (fr := getX f) (a := a) hg hf.1 x
    rw [← evX_eq (Rel.start (N := N) hf.2)] at hx
    split at he
    · rename_i hb; rw [hb] at hx; exact wpIn_cond_true hx (ihp none k Q ρ f h a w hgp he hB hf hN hd hg hh hp)
    · rename_i hb; rw [hb] at hx; exact wpIn_cond_false hx (ihq none k Q ρ f h a w hgq he hB hf hN hd hg hh hp)
    · cases he
  | block id b ih =>
    intro fm k Q ρ f h a w hgd he hB hf hN hd hg hh hp
    rw [xexec_block] at he
    obtain ⟨rfl, he⟩ := onN_some he
    refine wpIn_block (ih none _ _ ρ f h a w hgd he hB hf hN hd hg hh ⟨hp.norm, fun id' => ?_, hp.goto, hp.ret⟩)
    intro f1 h1 a1 w1 ρ1 hk1 hf1 hN1 hd1 hg1 hr1 hs1
    simp only [Exit.inBlock]
    by_cases hid : id' = id
    · subst hid
      simp only [show Nat.beq id' id' = true from by simp, cond_true] at hk1
      rw [if_pos rfl]
      exact hp.norm f1 h1 a1 w1 ρ1 hk1 hf1 hN1 hd1 hg1 hr1 hs1
    · have hb : Nat.beq id' id = false := by cases hb : Nat.beq id' id; rfl; exact absurd (Nat.eq_of_beq_eq_true hb) hid
      simp only [hb, cond_false] at hk1
      rw [if_neg hid]
      exact hp.exit id' f1 h1 a1 w1 ρ1 hk1 hf1 hN1 hd1 hg1 hr1 hs1
  | loop b ih =>
    intro fm k Q ρ f h a w hgd he hB hf hN hd hg hh hp
    rw [xexec_loop] at he
    obtain ⟨rfl, he⟩ := onN_some he
    refine wpIn_loop_rounds fuel ?_
    have key : ∀ (j : Nat) (f : XF) (h : AH) (a : Act) (w : World) (ρ : Rho), loopN XF j (fun f h nx => xexec c I d ro.isSome gd qt fid N m fuel b none f h ⟨nx, k.exit, k.goto, k.ret⟩) f h = some r → B ≤ w.heap.size → FRX m ρ f a.tmps → a.tmps.size = N → Marks B ρ w a.defers → GOK c ρ → HR ρ h w → XKPost B m N c ρ h w r k Q → Code.roundsIn (fen ro) n c.P b Q j a w := by
      intro j
      induction j with
      | zero => intro f h a w ρ he; cases he
      | succ j ihj =>
        intro f h a w ρ he hB hf hN hd hg hh hp
        rw [roundsIn_succ]
        refine ih none _ _ ρ f h a w hgd he hB hf hN hd hg hh ⟨?_, hp.exit, hp.goto, hp.ret⟩
        intro f1 h1 a1 w1 ρ1 hk1 hf1 hN1 hd1 hg1 hr1 hs1
        exact ihj f1 h1 a1 w1 ρ1 hk1 (Nat.le_trans hB hs1.size) hf1 hN1 hd1 hg1 hr1 (hp.step hh hs1)
    exact key fuel f h a w ρ he hB hf hN hd hg hh hp
  | rangeFunc g ps aas bd _ _ =>
    intro fm k Q ρ f h a w hgd he hB hf hN hd hg hh hp
    rw [xexec_range] at he
    obtain ⟨rfl, he⟩ := onN_some he
    cases ro with
    | some l => cases he
    | none => exact range_wp hD he hB hf hN hd hg hh hp
  | exit id =>
    intro fm k Q ρ f h a w hgd he hB hf hN hd hg hh hp
    rw [xexec_exit] at he
    obtain ⟨rfl, he⟩ := onN_some he
    exact wpIn_exit ((hp.exit id).at he hf hN hd hg hh)
  | scope b ih =>
    intro fm k Q ρ f h a w hgd he hB hf hN hd hg hh hp
    rw [xexec_scope] at he
    obtain ⟨rfl, he⟩ := onN_some he
    have key : ∀ (j : Nat) (fm : Option Nat) (f : XF) (h : AH) (a : Act) (w : World) (ρ : Rho), scopeX b (xexec c I d ro.isSome gd qt fid N m fuel b) j fm f h k = some r → B ≤ w.heap.size → FRX m ρ f a.tmps → a.tmps.size = N → Marks B ρ w a.defers → GOK c ρ → HR ρ h w → XKPost B m N c ρ h w r k Q →
        match fm with
        | none => jumpsIn (fen ro) n c.P b Q j b a w
        | some l => ∃ rest, findLabel b l = some rest ∧ jumpsIn (fen ro) n c.P b Q j rest a w := by
      intro j
      induction j with
      | zero => intro fm f h a w ρ he; cases he
      | succ j ihj =>
        intro fm f h a w ρ he hB hf hN hd hg hh hp
        have hx : XKPost B m N c ρ h w r ⟨k.norm, k.exit, fun l f h => bif (findLabel b l).isSome then scopeX b (xexec c I d ro.isSome gd qt fid N m fuel b) j (some l) f h k else k.goto l f h, k.ret⟩ (fun e a' w' => match e with
            | .goto l => match findLabel b l with
              | some rest => jumpsIn (fen ro) n c.P b Q j rest a' w'
              | none => Q (.goto l) a' w'
            | e => Q e a' w') := by
          refine ⟨hp.norm, hp.exit, fun l => ?_, hp.ret⟩
          intro f1 h1 a1 w1 ρ1 hk1 hf1 hN1 hd1 hg1 hr1 hs1
          simp only
          cases hl : findLabel b l with
          | some rest =>
            simp only [hl, Option.isSome_some, cond_true] at hk1
            obtain ⟨rest', q1, q2⟩ := ihj (some l) f1 h1 a1 w1 ρ1 hk1 (Nat.le_trans hB hs1.size) hf1 hN1 hd1 hg1 hr1 (hp.step hh hs1)
            rw [hl] at q1
            cases q1
            exact q2
          | none =>
            simp only [hl, Option.isSome_none, cond_false] at hk1
            exact hp.goto l f1 h1 a1 w1 ρ1 hk1 hf1 hN1 hd1 hg1 hr1 hs1
        have := ih fm _ _ ρ f h a w hgd he hB hf hN hd hg hh hx
        cases fm with
        | none => exact this
        | some l => exact this
    exact wpIn_scope_jumps fuel (key fuel none f h a w ρ he hB hf hN hd hg hh hp)
  | label l' =>
    intro fm k Q ρ f h a w hgd he hB hf hN hd hg hh hp
    cases fm with
    | none => exact wpIn_label (hp.norm.at he hf hN hd hg hh)
    | some l =>
      rw [xexec_label_some] at he
      cases hb : Nat.beq l' l with
      | false => rw [hb] at he; cases he
      | true =>
        rw [hb] at he
        exact ⟨.skip, by simp [findLabel, Nat.eq_of_beq_eq_true hb], wpIn_skip (hp.norm.at he hf hN hd hg hh)⟩
  | goto l =>
    intro fm k Q ρ f h a w hgd he hB hf hN hd hg hh hp
    rw [xexec_goto] at he
    obtain ⟨rfl, he⟩ := onN_some he
    exact wpIn_goto ((hp.goto l).at he hf hN hd hg hh)
  | ret =>
    intro fm k Q ρ f h a w hgd he hB hf hN hd hg hh hp
    rw [xexec_ret] at he
    obtain ⟨rfl, he⟩ := onN_some he
    exact wpIn_ret (hp.ret.at he hf hN hd hg hh)
  | refuse s => intro fm k Q ρ f h a w hgd he; cases he
end Go.Proofs.YtbchdbhojafpdaaGreatDoor.Ev
namespace Go.Proofs.YtbchdbhojafpdaaGreatDoor.Ev
open Go
theorem loopOf_isSome {h : AH} {b : Nat} {p : V × V × Int × V} (hm : loopOf h b = some p) : (h.get b).isSome = true := by
  unfold loopOf at hm
  split at hm
  · rename_i k hk; rw [hk]; rfl
  · cases hm
def FB (m : Nat) (f : XF) : Prop := ∀ t, msk m t = false → getX f t = .bad
theorem stepX_astep {c : Cfg} {d : XD} (hA : CAbs (c.at d)) (hY : ∀ b args h v h', d.Y b args h = some (v, h') → AStep h h') {yl q : Bool} {o : Op} {ev : Operand → V} {h h' : AH} {v : V} (hs : stepX c yl q o d ev h = some (v, h')) : AStep h h' := by
  unfold stepX at hs
  split at hs
  · exact hY _ _ _ _ _ hs
  · exact (stepV_astep hA hs).1
section
variable {c : Cfg} {d : XD} (hA : CAbs (c.at d)) (hY : ∀ b args h v h', d.Y b args h = some (v, h') → AStep h h') {I : Bool → Bool → List Nat → Op → XI} (hI : OpsOK c I) {m N fid fuel : Nat} {rnd gd : Bool} {qt : Nat → QC} {r : V × AH} {X : AH → Prop} (hX : ∀ {h1 h2 : AH}, AStep h1 h2 → X h2 → X h1)
include hA hY hI hX
theorem runL_astep {ops : Array Oper} {qs : Nat → Bool} {yl : Bool} {K : XF → AH → Res} (hK : ∀ f h, FB m f → K f h = some r → X h) : ∀ (l : List Oper) (i : Nat) (ds : List Nat) (s : List V) (f : XF) (h : AH) (fr : Nat → V), Rel m N ds s f fr → runL (compL c (I yl) m N ops qs l i ds) d s f h K = some r → X h := by
  intro l
  induction l with
  | nil => intro i ds s f h fr hR hr; exact hK f h hR.bad hr
  | cons o l ih =>
    intro i ds s f h fr hR hr
    rw [compL_cons, runL_cons] at hr
    rcases opN_cases hR hr with hr | ⟨x, cl, hop, hgd, hnl, hne, hall⟩
    rotate_left
    · obtain ⟨p, l', e⟩ := List.exists_cons_of_ne_nil hne
      have hp : p ∈ cl := by rw [e]; simp
      obtain ⟨s', f', g1, g2⟩ := hall p hp
      exact hX (nextL_astep hnl p hp) (ih _ _ _ _ _ _ g2 g1)
    obtain ⟨fr', h', s', f', g1, g2, g3⟩ := opG_spec hI hR hr
    rcases g3 with ⟨_, _, rfl⟩ | ⟨_, v, hs, _⟩
    · exact ih _ _ _ _ _ _ g2 g1
    · exact hX (stepX_astep hA hY hs) (ih _ _ _ _ _ _ g2 g1)
omit hY in
theorem runN_astep {ops : Array Oper} {qs : Nat → Bool} {rc : Option RC} {b : Nat} {h0 : AH} (hb : h0.next ≤ b) {K : XF → AH → Res} (hK : ∀ f h, FB m f → K f h = some r → X h) : ∀ (l : List Nat) (ds : List Nat) (s : List V) (f : XF) (h : AH) (fr : Nat → V), AStep h0 h → Rel m N ds s f fr → runL (compN c (I false) m N ops qs rc l ds) ⟨d.C, d.Y, b⟩ s f h K = some r → X h0 := by
  intro l
  induction l with
  | nil => intro ds s f h fr h1 hR hr; exact hX h1 (hK f h hR.bad hr)
  | cons i l ih =>
    intro ds s f h fr h1 hR hr
    cases ho : ops[i]? with
    | none =>
      have hr' : runL (Option.rec (motive := fun _ => XL) .nil (fun o => .cons (opG c (wrapI c (I false) ops (spR rc i) i) m N ops (qs i) ds o) (compN c (I false) m N ops qs rc l (nextDs N o.dst ds))) ops[i]?) ⟨d.C, d.Y, b⟩ s f h K = some r := hr
      rw [ho] at hr'
      exact hX h1 (hK f h hR.bad hr')
    | some o =>
      rw [compN_cons (ho := ho), runL_cons] at hr
      obtain ⟨fr', h', s', f', g1, g2, g3⟩ := opG_specG (St := fun ev h v h' => stepN (c.at d) (b + i) (qs i) o.op ev h = some (v, h')) (fun s f h k r hx => by
        obtain ⟨v, h', ⟨q1, _⟩, q2⟩ := wrapI_spec (d := ⟨d.C, d.Y, b⟩) (show HintOK c from hA.2.2) hI hx
        exact ⟨v, h', q1, q2⟩) hR hr
      rcases g3 with ⟨_, _, e⟩ | ⟨_, v, hs, _⟩
      · subst e
        exact ih _ _ _ _ _ h1 g2 g1
      · refine ih _ _ _ _ _ ?_ g2 g1
        cases hn : isNew o.op with
        | true =>
          rw [stepN_new hn] at hs
          obtain ⟨k, e, _⟩ := newAt_at hn hs
          subst e
          refine ⟨h1.next, Nat.le_trans (Nat.min_le_left _ _) h1.low, fun b' hb' hn' => ?_, fun b' hb' hn' => ?_⟩
          · rw [AH.get_at, if_neg (by omega)]
            exact h1.quiet b' (Nat.lt_of_lt_of_le hb' (Nat.min_le_left _ _)) hn'
          · rw [AH.get_at, if_neg (by omega)]
            exact h1.none b' hb' hn'
        | false =>
          rw [stepN_old hn] at hs
          exact h1.trans (stepV_astep hA hs).1
theorem xexec_astep : ∀ (code : Code) (fm : Option Nat) (f : XF) (h : AH) (k : XK), (∀ f h, FB m f → k.norm f h = some r → X h) → (∀ id f h, FB m f → k.exit id f h = some r → X h) → (∀ l f h, FB m f → k.goto l f h = some r → X h) → (∀ f h, FB m f → k.ret f h = some r → X h) →
    FB m f → xexec c I d rnd gd qt fid N m fuel code fm f h k = some r → X h := by
  intro code
  induction code with
  | skip => intro fm f h k h1 h2 h3 h4 hb he; obtain ⟨rfl, he⟩ := onN_some he; exact h1 f h hb he
  | region id ops draw =>
    intro fm f h k h1 h2 h3 h4 hb he
    rw [xexec_region] at he
    obtain ⟨rfl, he⟩ := onN_some he
    unfold regX at he
    cases draw with
    | false => exact runL_astep hA hY hI hX h1 ops.toList 0 [] [] f h _ (Rel.start (N := N) hb) he
    | true =>
      cases gd with
      | false => cases he
      | true => exact runN_astep (b := h.next) (h0 := h) hA hI hX (Nat.le_refl _) h1 (ordL (qt id).r ops.size) [] [] f ⟨Nat.add h.next ops.size, h.low, h.m⟩ (getX f) ⟨Nat.le_add_right _ _, Nat.le_refl _, fun _ _ _ => rfl, fun _ _ h => h⟩ (Rel.start (N := N) hb) he
  | seq x y ihx ihy =>
    intro fm f h k h1 h2 h3 h4 hb he
    cases fm with
    | none =>
      rw [xexec_seq_none] at he
      exact ihx none f h ⟨fun f h => xexec c I d rnd gd qt fid N m fuel y none f h k, k.exit, k.goto, k.ret⟩ (fun f1 h1' hb1 he1 => ihy none f1 h1' k h1 h2 h3 h4 hb1 he1) h2 h3 h4 hb he
    | some l =>
      rw [xexec_seq_some] at he
      cases hl : (findLabel x l).isSome with
      | true => rw [hl] at he; exact ihx (some l) f h ⟨fun f h => xexec c I d rnd gd qt fid N m fuel y none f h k, k.exit, k.goto, k.ret⟩ (fun f1 h1' hb1 he1 => ihy none f1 h1' k h1 h2 h3 h4 hb1 he1) h2 h3 h4 hb he
      | false => rw [hl] at he; exact ihy (some l) f h k h1 h2 h3 h4 hb he
  | cond x p q ihp ihq =>
    intro fm f h k h1 h2 h3 h4 hb he
    rw [xexec_cond] at he
    obtain ⟨rfl, he⟩ := onN_some he
    split at he
    · exact ihp none f h k h1 h2 h3 h4 hb he
    · exact ihq none f h k h1 h2 h3 h4 hb he
    · cases he
  | block id b ih =>
    intro fm f h k h1 h2 h3 h4 hb he
    rw [xexec_block] at he
    obtain ⟨rfl, he⟩ := onN_some he
    refine ih none f h ⟨k.norm, fun id' f h => bif Nat.beq id' id then k.norm f h else k.exit id' f h, k.goto, k.ret⟩ h1 ?_ h3 h4 hb he
    intro id' f1 h1' hb1 he1
    simp only at he1
    cases hq : Nat.beq id' id with
    | true => rw [hq] at he1; exact h1 f1 h1' hb1 he1
    | false => rw [hq] at he1; exact h2 id' f1 h1' hb1 he1
  | loop b ih =>
    intro fm f h k h1 h2 h3 h4 hb he
    rw [xexec_loop] at he
    obtain ⟨rfl, he⟩ := onN_some he
    have key : ∀ (j : Nat) (f : XF) (h : AH), FB m f → loopN XF j (fun f h nx => xexec c I d rnd gd qt fid N m fuel b none f h ⟨nx, k.exit, k.goto, k.ret⟩) f h = some r → X h := by
      intro j
      induction j with
      | zero => intro f h _ he; cases he
      | succ j ihj => intro f h hb he; exact ih none f h ⟨loopN XF j (fun f h nx => xexec c I d rnd gd qt fid N m fuel b none f h ⟨nx, k.exit, k.goto, k.ret⟩), k.exit, k.goto, k.ret⟩ ihj h2 h3 h4 hb he
    exact key fuel f h hb he
  | rangeFunc g ps aas bd _ _ =>
    intro fm f h k h1 h2 h3 h4 hb he
    rw [xexec_range] at he
    obtain ⟨rfl, he⟩ := onN_some he
    unfold rangeX at he
    split at he
    · cases he
    · split at he
      · split at he
        · split at he
          · rename_i v h2' hc
            refine hX (AStep.add _ _) (hX (hA.1 _ _ _ _ _ hc) ?_)
            unfold endX at he
            split at he
            · split at he
              · cases he
              · change leapX _ f (putLoop _ _ _ _ _ _) k = some r at he
                unfold leapX at he
                split at he
                · exact hX (AStep.put _ _ _ (loopOf_isSome (by assumption))) (h1 _ _ hb he)
                · exact hX (AStep.put _ _ _ (loopOf_isSome (by assumption))) (h4 _ _ hb he)
                · exact hX (AStep.put _ _ _ (loopOf_isSome (by assumption))) (h2 _ _ _ hb he)
                · exact hX (AStep.put _ _ _ (loopOf_isSome (by assumption))) (h3 _ _ _ hb he)
                · cases he
            · cases he
          · cases he
        · cases he
      · cases he
  | exit id => intro fm f h k h1 h2 h3 h4 hb he; obtain ⟨rfl, he⟩ := onN_some he; exact h2 id f h hb he
  | scope b ih =>
    intro fm f h k h1 h2 h3 h4 hb he
    rw [xexec_scope] at he
    obtain ⟨rfl, he⟩ := onN_some he
    have key : ∀ (j : Nat) (fm : Option Nat) (f : XF) (h : AH), FB m f → scopeX b (xexec c I d rnd gd qt fid N m fuel b) j fm f h k = some r → X h := by
      intro j
      induction j with
      | zero => intro fm f h _ he; cases he
      | succ j ihj =>
        intro fm f h hb he
        refine ih fm f h ⟨k.norm, k.exit, fun l f h => bif (findLabel b l).isSome then scopeX b (xexec c I d rnd gd qt fid N m fuel b) j (some l) f h k else k.goto l f h, k.ret⟩ h1 h2 ?_ h4 hb he
        intro l f1 h1' hb1 he1
        simp only at he1
        cases hl : (findLabel b l).isSome with
        | true => rw [hl] at he1; exact ihj (some l) f1 h1' hb1 he1
        | false => rw [hl] at he1; exact h3 l f1 h1' hb1 he1
    exact key fuel none f h hb he
  | label l' =>
    intro fm f h k h1 h2 h3 h4 hb he
    cases fm with
    | none => exact h1 f h hb he
    | some l =>
      rw [xexec_label_some] at he
      cases hq : Nat.beq l' l with
      | true => rw [hq] at he; exact h1 f h hb he
      | false => rw [hq] at he; cases he
  | goto l => intro fm f h k h1 h2 h3 h4 hb he; obtain ⟨rfl, he⟩ := onN_some he; exact h3 l f h hb he
  | ret => intro fm f h k h1 h2 h3 h4 hb he; obtain ⟨rfl, he⟩ := onN_some he; exact h4 f h hb he
  | refuse s => intro fm f h k h1 h2 h3 h4 hb he; cases he
end
theorem iniM_cons (m : Nat) (v : V) (l : List V) (i : Nat) (f : XF) : iniM m (v :: l) i f = iniM m l (i + 1) (if msk m i = true then f.set i v else f) := by
  have h : iniM m (v :: l) i f = iniM m l (i + 1) (Bool.rec (motive := fun _ => XF) f (f.set i v) (msk m i)) := rfl
  rw [h]
  cases msk m i <;> rfl
theorem iniM_get (m : Nat) : ∀ (l : List V) (i : Nat) (f : XF) (t : Nat), getX (iniM m l i f) t = if i ≤ t ∧ t < i + l.length ∧ msk m t = true then l.getD (t - i) .bad else getX f t := by
  intro l
  induction l with
  | nil => intro i f t; rw [if_neg (by simp only [List.length_nil]; omega)]; rfl
  | cons v l ih =>
    intro i f t
    rw [iniM_cons, ih]
    by_cases h1 : i + 1 ≤ t ∧ t < i + 1 + l.length ∧ msk m t = true
    · rw [if_pos h1, if_pos ⟨by omega, by simp only [List.length_cons]; omega, h1.2.2⟩, show t - i = (t - (i + 1)) + 1 from by omega]
      rfl
    · rw [if_neg h1]
      by_cases h2 : t = i
      · subst h2
        by_cases hm : msk m t = true
        · simp only [hm, if_true, getX_set]
          rw [if_pos ⟨Nat.le_refl _, by simp only [List.length_cons]; omega, trivial⟩]; simp
        · simp only [hm, if_false, and_false, Bool.false_eq_true]
      · have hge : getX (if msk m i = true then f.set i v else f) t = getX f t := by
          split
          · rw [getX_set, if_neg h2]
          · rfl
        rw [hge, if_neg (fun h => h1 ⟨by omega, by have := h.2.1; simp only [List.length_cons] at this; omega, h.2.2⟩)]
theorem getX_leaf (t : Nat) : getX .leaf t = .bad := by unfold getX; rw [T.get_leaf]; rfl
theorem iniM_FB (m : Nat) (l : List V) : FB m (iniM m l 0 .leaf) := by
  intro t ht
  rw [iniM_get, if_neg (fun h => by rw [ht] at h; cases h.2.2), getX_leaf]
theorem iniM_frx {m : Nat} {ρ : Rho} {l : List V} {us : List Value} (h : RL ρ l us) (n : Nat) : FRX m ρ (iniM m l 0 .leaf) (us.toArray ++ Array.replicate n undef) := by
  refine ⟨fun t => ?_, iniM_FB m l⟩
  rw [iniM_get]
  split
  · rename_i hc
    obtain ⟨_, h1, _⟩ := hc
    have ht : t < l.length := by omega
    obtain ⟨y, h2, h3⟩ := h.get (List.getElem?_eq_getElem ht)
    have hlen := h.length
    rw [Nat.sub_zero, List.getD_eq_getElem?_getD, List.getElem?_eq_getElem ht, Array.getD_eq_getD_getElem?, Array.getElem?_append_left (by simp; omega), List.getElem?_toArray, h2]
    exact h3
  · rw [getX_leaf]; trivial
theorem HR.putObj {ρ : Rho} {h : AH} {w : World} (hr : HR ρ h w) {r : Nat} (hn : ∀ b L x, ρ b L ≠ some (r, x)) (o : Obj) : HR ρ h (w.putObj r o) := by
  have hoff : ∀ b L cb x, ρ b L = some (cb, x) → (w.putObj r o).heap[cb]? = w.heap[cb]? := fun b L cb x hx => World.putObj_heap_other (fun e => hn b L x (by rw [← e]; exact hx))
  refine ⟨hr.fresh, hr.lives, fun b L cb x hx => by have := hr.bound _ _ _ _ hx; simp only [World.putObj, Array.size_setIfInBounds]; exact this, hr.inj, hr.top, fun b k L cb sh S h1 h2 h3 => (hr.blk b k L cb sh S h1 h2 h3).mono (Rho.le_refl ρ) (hoff _ _ _ _ h2), fun b k h1 ho => (hr.obj b k h1 ho).mono (Rho.le_refl ρ) fun cb S e => hoff _ _ _ _ e⟩
theorem Step.putObj {ρ0 ρ : Rho} {h0 h : AH} {w0 w : World} (hs : Step ρ0 h0 w0 ρ h w) {r : Nat} (hr : w0.heap.size ≤ r) (o : Obj) : Step ρ0 h0 w0 ρ h (w.putObj r o) :=
  ⟨hs.le, hs.cons, hs.ro, hs.next, hs.os, hs.tape, hs.output, by simp only [World.putObj, Array.size_setIfInBounds]; exact hs.size, fun i hi hn => (World.putObj_heap_other (by omega)).trans (hs.keep i hi hn), hs.lowle, hs.quiet, hs.abs⟩
theorem leavesM {c : Cfg} {m n B : Nat} {fn : Func} {ρ0 ρ : Rho} {h0 h h' : AH} {w0 : World} {f : XF} {tmps : Array Value} {v : V} (hB : w0.heap.size ≤ B) (hf : FRX m ρ f tmps) (hs : finX c fn f h = some (v, h')) {X : Ending → World → Prop} (hX : ∀ u w' ρ', R ρ' v u → HR ρ' h' w' → Step ρ0 h0 w0 ρ' h' w' → X (.returned u) w') : ∀ (ds : List Deferred) (w : World), Marks B ρ w ds → HR ρ h w → Step ρ0 h0 w0 ρ h w →
    LeavesInM Fence.wide n c.P fn tmps X ds .returning w := by
  intro ds
  induction ds with
  | nil =>
    intro w _ hh hst
    obtain ⟨rfl, u, h1, h2⟩ := fin_sound (c := c) (fo := foFun) (fr := getX f) hf.1 hh hs
    exact ⟨u, h1, hX u w ρ h2 hh hst⟩
  | cons d ds ih =>
    rintro w ⟨⟨r, rfl, h2, h3, h4, h5⟩, hm⟩ hh hst
    refine ⟨by simp, .inl ⟨r, _, rfl, run_takeDeferred h4, ih _ ?_ (hh.putObj h3 _) (hst.putObj (Nat.le_trans hB h2) _)⟩⟩
    have : ∀ {ds : List Deferred}, (∀ d' ∈ ds, d'.target ≠ .collected r) → Marks B ρ w ds → Marks B ρ (w.putObj r (.deferred none)) ds := by
      intro ds
      induction ds with
      | nil => intro _ _; trivial
      | cons d0 ds ih0 =>
        rintro hne ⟨⟨r0, e1, e2, e3, e4, e5⟩, hm0⟩
        have hr0 : r0 ≠ r := fun e => hne d0 (by simp) (by rw [e1, e])
        exact ⟨⟨r0, e1, e2, e3, by rw [World.putObj_heap_other hr0]; exact e4, e5⟩, ih0 (fun d' hd' => hne d' (by simp [hd'])) hm0⟩
    exact this h5 hm
structure XEnv.OK (E : XEnv) : Prop where
  mixed : E.P.follows .mixedOrders = true
  xsound : XRun E.c0
  xabs : ∀ f args h v h', E.X f args h = some (v, h') → AStep h h'
  isound : ∀ f g, E.I f = some g → ∀ (ρ : Rho) (h : AH) (w : World) (args : List V) (args' : List Value) (v : V) (h' : AH), GOK E.c0 ρ → HR ρ h w → RL ρ args args' → g args h = some (v, h') →
    Calls E.P f args'.toArray w fun e w' => ∃ u ρ', e = .returned u ∧ R ρ' v u ∧ HR ρ' h' w' ∧ Step ρ h w ρ' h' w'
  iabs : ∀ f g, E.I f = some g → ∀ args h v h', g args h = some (v, h') → AStep h h'
  opsok : OpsOK E.c0 (E.ops E.c0)
  draws : ∀ f fn code, E.good f = true → E.P.funcs[f]? = some fn → fn.body = some code → drawsOK E.P (E.qt f) code = true
theorem xFn_sound {E : XEnv} (ok : E.OK) {d : XD} (hD : DSound E.c0 d) {ρ : Rho} {h h' : AH} {w : World} {f : FuncId} {args : List V} {args' : List Value} {v : V} (hg : GOK E.c0 ρ) (hr : HR ρ h w) (hR : RL ρ args args') (hs : xFn E d f args h = some (v, h')) :
    Calls E.P f args'.toArray w fun e w' => ∃ u ρ', e = .returned u ∧ R ρ' v u ∧ HR ρ' h' w' ∧ Step ρ h w ρ' h' w' := by
  unfold xFn at hs
  split at hs
  · cases hs
  · rename_i fn hfn
    split at hs
    · cases hs
    · rename_i code hcode
      split at hs
      · rename_i hle
        refine (callsIn_wide (n := 0)).1 (callsIn_of_wp_marks hfn hcode trivial ?_)
        have hlen := hR.length
        have hsz : (args'.toArray ++ Array.replicate (fn.ntmps - args'.toArray.size) undef).size = fn.ntmps := by
          simp only [Array.size_append, List.size_toArray, Array.size_replicate]; omega
        cases hgc : E.gc f with
        | false =>
          rw [hgc] at hs
          simp only [cond_false] at hs
          have hpost : ∀ e, (e = Exit.normal ∨ e = Exit.ret) → XPost w.heap.size (E.mask f) fn.ntmps E.c0 ρ h w (v, h') (finX E.c0 fn) (bodyPostM Fence.wide 0 E.P fn (fun e w' => ∃ u ρ', e = .returned u ∧ R ρ' v u ∧ HR ρ' h' w' ∧ Step ρ h w ρ' h' w') e) := by
            intro e he f1 h1 a1 w1 ρ1 hk1 hf1 hN1 hd1 hg1 hr1 hs1
            have := leavesM (c := E.c0) (n := 0) (Nat.le_refl _) hf1 hk1 (X := fun e w' => ∃ u ρ', e = .returned u ∧ R ρ' v u ∧ HR ρ' h' w' ∧ Step ρ h w ρ' h' w') (fun u w' ρ' e1 e2 e3 => ⟨u, ρ', rfl, e1, e2, e3⟩) a1.defers w1 hd1 hr1 hs1
            rcases he with rfl | rfl <;> exact this
          exact xexec_wp (ro := none) (B := w.heap.size) hD ok.mixed ok.opsok code none _ _ ρ _ h _ w (fun e => ok.draws f fn code e hfn hcode) hs (Nat.le_refl _) (iniM_frx hR _) hsz trivial hg hr ⟨hpost _ (.inl rfl), fun id f1 h1 a1 w1 ρ1 hk1 => (by cases hk1), fun l f1 h1 a1 w1 ρ1 hk1 => (by cases hk1), hpost _ (.inr rfl)⟩
        | true =>
          rw [hgc] at hs
          simp only [cond_true] at hs
          obtain ⟨hn, hx, rfl⟩ := gcO_some hs
          clear hs
          have hs := hx
          have hpost : ∀ e, (e = Exit.normal ∨ e = Exit.ret) → XPost w.heap.size (E.mask f) fn.ntmps E.c0 ρ ⟨h.next, h.next, h.m⟩ w (v, hn) (fun f' h' => gcR h (finX E.c0 fn f' h')) (bodyPostM Fence.wide 0 E.P fn (fun e w' => ∃ u ρ', e = .returned u ∧ R ρ' v u ∧ HR ρ' (gcU h hn) w' ∧ Step ρ h w ρ' (gcU h hn) w') e) := by
            intro e he f1 h1 a1 w1 ρ1 hk1 hf1 hN1 hd1 hg1 hr1 hs1
            obtain ⟨h2, k1, k2, k3⟩ := gcR_some hk1
            have := leavesM (c := E.c0) (n := 0) (Nat.le_refl _) hf1 k1 (X := fun e w' => ∃ u ρ', e = .returned u ∧ R ρ' v u ∧ HR ρ' (gcU h hn) w' ∧ Step ρ h w ρ' (gcU h hn) w') (fun u w' ρ' e1 e2 e3 => by
              obtain ⟨q1, q2⟩ := gc_sound (v := v) hr k2 e2 e3
              rw [k3]
              exact ⟨u, ρ', rfl, e1, q1, q2⟩) a1.defers w1 hd1 hr1 hs1
            rcases he with rfl | rfl <;> exact this
          exact xexec_wp (ro := none) (B := w.heap.size) hD ok.mixed ok.opsok code none _ _ ρ _ ⟨h.next, h.next, h.m⟩ _ w (fun e => ok.draws f fn code e hfn hcode) hs (Nat.le_refl _) (iniM_frx hR _) hsz trivial hg (hr.low h.next) ⟨hpost _ (.inl rfl), fun id f1 h1 a1 w1 ρ1 hk1 => (by cases hk1), fun l f1 h1 a1 w1 ρ1 hk1 => (by cases hk1), hpost _ (.inr rfl)⟩
      · cases hs
theorem xFn_astep {E : XEnv} (ok : E.OK) {d : XD} (hD : DSound E.c0 d) {f : FuncId} {args : List V} {h h' : AH} {v : V} (hs : xFn E d f args h = some (v, h')) : AStep h h' := by
  unfold xFn at hs
  split at hs
  · cases hs
  · rename_i fn hfn
    split at hs
    · cases hs
    · split at hs
      · have hfin : ∀ fn f1 h1, finX E.c0 fn f1 h1 = some (v, h') → AStep h1 h' := by
          intro fn f1 h1 he
          unfold finX at he
          obtain ⟨vs, _, h2⟩ := map_some he
          cases h2
          exact AStep.refl _
        cases hgc : E.gc f with
        | false =>
          rw [hgc] at hs
          simp only [cond_false] at hs
          exact xexec_astep (r := (v, h')) (X := fun h1 => AStep h1 h') hD.A hD.YA ok.opsok (fun a b => a.trans b) _ _ _ _ _ (fun f1 h1 _ he => hfin _ f1 h1 he) (fun id f1 h1 _ he => by cases he) (fun l f1 h1 _ he => by cases he) (fun f1 h1 _ he => hfin _ f1 h1 he) (iniM_FB _ _) hs
        | true =>
          rw [hgc] at hs
          simp only [cond_true] at hs
          obtain ⟨hn, hx, rfl⟩ := gcO_some hs
          clear hs
          have hs := hx
          have hk : ∀ f1 h1, gcR h (finX E.c0 fn f1 h1) = some (v, hn) → ∃ h2, AStep h1 h2 ∧ h.next ≤ h2.low ∧ hn = gcI h v h2 := by
            intro f1 h1 he
            obtain ⟨h2, k1, k2, k3⟩ := gcR_some he
            unfold finX at k1
            obtain ⟨vs, _, q2⟩ := map_some k1
            cases q2
            exact ⟨h1, AStep.refl _, k2, k3⟩
          obtain ⟨h2, k1, k2, k3⟩ := xexec_astep (r := (v, hn)) (X := fun h1 => ∃ h2, AStep h1 h2 ∧ h.next ≤ h2.low ∧ hn = gcI h v h2) hD.A hD.YA ok.opsok (fun a ⟨h2, b1, b2, b3⟩ => ⟨h2, a.trans b1, b2, b3⟩) _ _ _ _ _ (fun f1 h1 _ he => hk f1 h1 he) (fun id f1 h1 _ he => by cases he) (fun l f1 h1 _ he => by cases he) (fun f1 h1 _ he => hk f1 h1 he) (iniM_FB _ _) hs
          rw [k3]
          exact gc_astep k2 k1
      · cases hs
theorem setPs_sound {ρ : Rho} : ∀ (ps : List Nat) (args : List V) (us : List Value) (l : List V) (xs : Array Value), RL ρ args us → RL ρ l xs.toList → args.length = ps.length → RL ρ (setPs ps args l) ((ps.zip us).foldl (fun (tmps : Array Value) (p : Nat × Value) => tmps.setIfInBounds p.1 p.2) xs).toList := by
  intro ps
  induction ps with
  | nil => intro args us l xs h1 h2 h3; cases args with
    | nil => exact h2
    | cons => simp at h3
  | cons p ps ih =>
    intro args us l xs h1 h2 h3
    cases args with
    | nil => simp at h3
    | cons a aas =>
      obtain ⟨u, us', rfl, ha, has⟩ := h1
      simp only [setPs, List.zip_cons_cons, List.foldl_cons]
      refine ih aas us' _ _ has ?_ (by simpa using h3)
      rw [Array.toList_setIfInBounds]
      refine RL.of_get (by simp [h2.length]) ?_
      intro i x y hx hy
      rw [List.getElem?_set] at hx hy
      by_cases hip : p = i
      · subst hip
        simp only [if_true] at hx hy
        have hl := h2.length
        split at hx
        · split at hy
          · cases hx; cases hy; exact ha
          · cases hy
        · cases hx
      · rw [if_neg hip] at hx hy
        obtain ⟨y', q1, q2⟩ := h2.get hx
        rw [q1] at hy; cases hy; exact q2
theorem endR_sound {P : Program} {ρ : Rho} {h h' : AH} {w : World} (hr : HR ρ h w) {b cb S : Nat} (hb : ρ b 0 = some (cb, 0, S)) {st : Int} {j : V} {res : Bool} {v : V} (hs : endR b st j res h = some (v, h')) (jump : Option Code) (hj : jumpV jump = some j) (hst : st = stateN (if jump.isNone then .ready else .done)) (hres : res = jump.isNone) :
    ∃ w', (Instr.endRound cb jump).run P w = .ok (.bool res) w' ∧ v = .bool res ∧ HR ρ h' w' ∧ Step ρ h w ρ h' w' := by
  unfold endR at hs
  cases hlo : loopOf h b with
  | none => rw [hlo] at hs; cases hs
  | some p =>
    obtain ⟨R', T', st', j'⟩ := p
    rw [hlo] at hs
    cases hs
    obtain ⟨kb, cb', S', r, g1, g2, g3, g4, fn, tm, rfl, rfl, g5, g6, g7⟩ := loopOf_spec hr hlo
    rw [hb] at g3
    cases g3
    obtain ⟨p1, p2⟩ := putLoop_sound hr g1 g2 hb (fn := fn) (tm := tm) (j := j) (st := st) { r with state := if jump.isNone then .ready else .done, pending := jump } g5 hst hj
    exact ⟨_, by rw [hres]; exact run_endRound jump g4, rfl, p1, p2⟩
theorem yX_sound {E : XEnv} (ok : E.OK) {d : XD} (hD : DSound E.c0 d) {ρ : Rho} {h h' : AH} {w : World} {b : Nat} {args : List V} {args' : List Value} {v : V} {cb S : Nat} (hg : GOK E.c0 ρ) (hr : HR ρ h w) (hb : ρ b 0 = some (cb, 0, S)) (hR : RL ρ args args') (hs : yX E d b args h = some (v, h')) :
    ∃ r : Loop, w.heap[cb]? = some (.loop r) ∧ args'.length = r.params.size ∧ ∀ n, RoundIn Fence.wide n E.P cb r.fn ((r.params.zip args'.toArray).foldl (fun tmps (t, a) => tmps.setIfInBounds t a) r.tmps) r.assign r.body w fun e w' => ∃ u ρ', e = .returned u ∧ R ρ' v u ∧ HR ρ' h' w' ∧ Step ρ h w ρ' h' w' := by
  unfold yX at hs
  split at hs
  · rename_i f ps aas bd tm st j hlo
    obtain ⟨kb, cb', S', r, g1, g2, g3, g4, fn', tm', e1, e2, g5, g6, g7⟩ := loopOf_spec hr hlo
    cases e1
    cases e2
    rw [hb] at g3
    cases g3
    split at hs
    · cases hs
    · rename_i fn hfn
      split at hs
      · rename_i hc
        obtain ⟨hc1, hc2⟩ := hc
        have hlen := hR.length
        refine ⟨r, g4, by omega, fun n => ?_⟩
        have hfold : (r.params.zip args'.toArray).foldl (fun tmps (t, a) => tmps.setIfInBounds t a) r.tmps = (r.params.toList.zip args').foldl (fun (tmps : Array Value) (p : Nat × Value) => tmps.setIfInBounds p.1 p.2) r.tmps := by
          rw [← Array.foldl_toList, Array.toList_zip]
        rw [hfold]
        have hRL := setPs_sound r.params.toList args args' tm r.tmps hR g5 (by rw [Array.length_toList]; exact hc1)
        generalize hTT : (r.params.toList.zip args').foldl (fun (tmps : Array Value) (p : Nat × Value) => tmps.setIfInBounds p.1 p.2) r.tmps = TT at hRL
        have hTs : TT.size = fn.ntmps := by
          have h1 := g5.length
          have h2 : ∀ (l : List (Nat × Value)) (xs : Array Value), (l.foldl (fun (tmps : Array Value) (p : Nat × Value) => tmps.setIfInBounds p.1 p.2) xs).size = xs.size := by
            intro l
            induction l with
            | nil => intro xs; rfl
            | cons p l ih => intro xs; rw [List.foldl_cons, ih]; simp
          rw [← hTT, h2]
          have e : r.tmps.toList.length = r.tmps.size := Array.length_toList
          omega
        have hfr : FRX (E.mask f) ρ (iniM (E.mask f) (setPs r.params.toList args tm) 0 .leaf) TT := by
          have := iniM_frx (m := E.mask f) hRL 0
          simpa using this
        refine roundIn_of_wpIn trivial ?_
        have hbody : XPost 0 (E.mask f) fn.ntmps E.c0 ρ h w (v, h') (fun f1 h1 => beginX b h1 fun h2 => xexec E.c0 (E.ops E.c0) d true (drawsOK E.P (E.qt f) r.body) (E.qt f) f fn.ntmps (E.mask f) E.fuel r.body none f1 h2
              ⟨fun _ h3 => endR b 0 (.tuple []) true h3, fun id _ h3 => endR b 2 (.tuple [.int .u8 id]) false h3, fun l _ h3 => endR b 2 (.tuple [.int .u16 l]) false h3, fun _ h3 => endR b 2 (.tuple [.bool true]) false h3⟩)
            (fun a₁ w₁ => ∃ w₂, (Instr.beginRound cb).run E.P w₁ = .ok () w₂ ∧ r.body.wpIn (Fence.wide.inRound cb) n E.P (roundPost E.P cb fun e w' => ∃ u ρ', e = .returned u ∧ R ρ' v u ∧ HR ρ' h' w' ∧ Step ρ h w ρ' h' w') a₁ w₂) := by
          intro f1 h1 a1 w1 ρ1 hk1 hf1 hN1 hd1 hg1 hr1 hs1
          simp only at hk1
          unfold beginX at hk1
          split at hk1
          · rename_i R' T' j' hlo1
            obtain ⟨kb1, cb1, S1, r1, q1, q2, q3, q4, fn1, tm1, rfl, rfl, q5, q6, q7⟩ := loopOf_spec hr1 hlo1
            have hb1 := hs1.le _ _ _ hb
            rw [hb1] at q3
            cases q3
            obtain ⟨p1, p2⟩ := putLoop_sound hr1 q1 q2 hb1 (fn := fn1) (tm := tm1) (j := j') (st := 1) { r1 with state := .busy } q5 rfl q7
            have hs2 := Step.trans hr hs1 p2
            refine ⟨_, run_beginRound q4 (stateN_zero q6.symm), ?_⟩
            have hend : ∀ (jump : Option Code) (st : Int) (j : V) (res : Bool) (e : Exit), jumpV jump = some j → st = stateN (if jump.isNone then .ready else .done) → res = jump.isNone → (∀ a1 w1 w2 u, (Instr.endRound cb jump).run E.P w1 = .ok u w2 → (∃ u' ρ', Ending.returned u = .returned u' ∧ R ρ' v u' ∧ HR ρ' h' w2 ∧ Step ρ h w ρ' h' w2) → roundPost E.P cb (fun e w' => ∃ u ρ', e = .returned u ∧ R ρ' v u ∧ HR ρ' h' w' ∧ Step ρ h w ρ' h' w') e a1 w1) →
                XPost 0 (E.mask f) fn.ntmps E.c0 ρ1 (putLoop h1 b (.rcd fn1 r1.params r1.assign r1.body) (.tuple tm1) 1 j') (w1.putObj cb (.loop { r1 with state := .busy })) (v, h') (fun _ h3 => endR b st j res h3) (roundPost E.P cb (fun e w' => ∃ u ρ', e = .returned u ∧ R ρ' v u ∧ HR ρ' h' w' ∧ Step ρ h w ρ' h' w') e) := by
              intro jump st j res e hj hst hres hgo f3 h3 a3 w3 ρ3 hk3 hf3 hN3 hd3 hg3 hr3 hs3
              obtain ⟨w4, o1, rfl, o3, o4⟩ := endR_sound (P := E.P) hr3 (hs3.le _ _ _ hb1) hk3 jump hj hst hres
              exact hgo a3 w3 w4 _ o1 ⟨_, ρ3, rfl, rfl, o3, Step.trans hr hs2 (Step.trans p1 hs3 o4)⟩
            exact xexec_wp (ro := some cb) (B := 0) hD ok.mixed ok.opsok r.body none _ _ ρ1 f1 _ a1 _ (fun e => e) hk1 (Nat.zero_le _) hf1 hN1 (hd1.step p2) hg1 p1
              ⟨hend none 0 _ true .normal rfl rfl rfl (fun a1 w1 w2 u o1 o2 => ⟨u, w2, o1, o2⟩), fun id => hend (some (.exit id)) 2 _ false (.exit id) rfl rfl rfl (fun a1 w1 w2 u o1 o2 => ⟨u, w2, o1, o2⟩), fun l => hend (some (.goto l)) 2 _ false (.goto l) rfl rfl rfl (fun a1 w1 w2 u o1 o2 => ⟨u, w2, o1, o2⟩), hend (some .ret) 2 _ false .ret rfl rfl rfl (fun a1 w1 w2 u o1 o2 => ⟨u, w2, o1, o2⟩)⟩
          · cases hk1
        exact xexec_wp (ro := some cb) (B := 0) hD ok.mixed ok.opsok r.assign none _ _ ρ _ h { tmps := TT, defers := [] } w (fun e => e) hs (Nat.zero_le _) hfr hTs trivial hg hr
          ⟨hbody, fun id f1 h1 a1 w1 ρ1 hk1 => (by cases hk1), fun l f1 h1 a1 w1 ρ1 hk1 => (by cases hk1), fun f1 h1 a1 w1 ρ1 hk1 => (by cases hk1)⟩
      · cases hs
  · cases hs
theorem yX_astep {E : XEnv} (ok : E.OK) {d : XD} (hD : DSound E.c0 d) {b : Nat} {args : List V} {h h' : AH} {v : V} (hs : yX E d b args h = some (v, h')) : AStep h h' := by
  unfold yX at hs
  split at hs
  · split at hs
    · cases hs
    · split at hs
      · have hend : ∀ st j res h3, endR b st j res h3 = some (v, h') → AStep h3 h' := by
          intro st j res h3 he
          unfold endR at he
          split at he
          · cases he; exact AStep.put _ _ _ (loopOf_isSome (by assumption))
          · cases he
        refine xexec_astep (r := (v, h')) (X := fun h1 => AStep h1 h') hD.A hD.YA ok.opsok (fun a b => a.trans b) _ _ _ _ _ ?_ (fun id f1 h1 _ he => by cases he) (fun l f1 h1 _ he => by cases he) (fun f1 h1 _ he => by cases he) (iniM_FB _ _) hs
        intro f1 h1 hb1 he
        simp only at he
        unfold beginX at he
        split at he
        · refine (AStep.put _ _ _ (loopOf_isSome (by assumption))).trans (xexec_astep (r := (v, h')) (X := fun h1 => AStep h1 h') hD.A hD.YA ok.opsok (fun a b => a.trans b) _ _ _ _ _ (fun _ h3 _ he => hend _ _ _ h3 he) (fun id _ h3 _ he => hend _ _ _ h3 he) (fun l _ h3 _ he => hend _ _ _ h3 he) (fun _ h3 _ he => hend _ _ _ h3 he) hb1 he)
        · cases he
      · cases hs
  · cases hs
theorem xD_ok {E : XEnv} (ok : E.OK) : ∀ n, DSound E.c0 (xD E n) := by
  have hint : HintOK E.c0 := fun o m h => (by cases h)
  intro n
  induction n with
  | zero =>
    exact ⟨fun ρ h w f args args' v h' _ _ _ hs => (by cases hs), ⟨fun ρ h w f args args' v h' hr hR hs => ok.xsound ρ h w f args args' v h' hr hR hs, fun o m h => (by cases h)⟩, ⟨fun f args h v h' hs => (by cases hs), ok.xabs, fun o m h => (by cases h)⟩,
      fun ρ h w b args args' v h' cb S _ _ _ _ hs => (by cases hs), fun b args h v h' hs => (by cases hs)⟩
  | succ n ih =>
    have hC : ∀ f args h, (xD E (n + 1)).C f args h = Option.rec (motive := fun _ => Res) (xFn E (xD E n) f args h) (fun g => g args h) (E.I f) := fun _ _ _ => rfl
    refine ⟨?_, ⟨fun ρ h w f args args' v h' hr hR hs => ok.xsound ρ h w f args args' v h' hr hR hs, fun o m h => (by cases h)⟩, ⟨?_, ok.xabs, fun o m h => (by cases h)⟩, ?_, ?_⟩
    · intro ρ h w f args args' v h' hg hr hR hs
      have hs' : Option.rec (motive := fun _ => Res) (xFn E (xD E n) f args h) (fun g => g args h) (E.I f) = some (v, h') := hs
      cases hI : E.I f with
      | some g => rw [hI] at hs'; exact ok.isound f g hI ρ h w args args' v h' hg hr hR hs'
      | none => rw [hI] at hs'; exact xFn_sound ok ih hg hr hR hs'
    · intro f args h v h' hs
      have hs' : Option.rec (motive := fun _ => Res) (xFn E (xD E n) f args h) (fun g => g args h) (E.I f) = some (v, h') := hs
      cases hI : E.I f with
      | some g => rw [hI] at hs'; exact ok.iabs f g hI args h v h' hs'
      | none => rw [hI] at hs'; exact xFn_astep ok ih hs'
    · intro ρ h w b args args' v h' cb S hg hr hb hR hs
      exact yX_sound ok ih hg hr hb hR hs
    · intro b args h v h' hs
      exact yX_astep ok ih hs
theorem xrun_sound {E : XEnv} (ok : E.OK) {n : Nat} {ρ : Rho} {h h' : AH} {w : World} {f : FuncId} {args : List V} {args' : List Value} {v : V} (hg : GOK E.c0 ρ) (hr : HR ρ h w) (hR : RL ρ args args') (hs : xrun E n f args h = some (v, h')) :
    Calls E.P f args'.toArray w fun e w' => ∃ u ρ', e = .returned u ∧ R ρ' v u ∧ HR ρ' h' w' ∧ Step ρ h w ρ' h' w' := (xD_ok ok n).C ρ h w f args args' v h' hg hr hR hs
theorem xclosed_calls {E : XEnv} (ok : E.OK) {n f : Nat} {l : List Tab} {pl : Nat → Spot} {m : Nat} {W : World} (hn : ∀ t ∈ l, t.g < m) (hf : ∀ t ∈ l, t.Fits (pl t.g) W) (hg : ∀ g L, E.G g = some L → ∃ t, tabOf l g = some t ∧ t.vs.length = L ∧ (pl g).cb = g ∧ (pl g).off = 0)
    (hrun : isTrue (xrun E n f [] (tabsH m l)) = true) : Calls E.P f #[] W fun e w => e = .returned (.bool true) ∧ Same W w := by
  obtain ⟨h', hs⟩ := isTrue_spec hrun
  have hG : GOK E.c0 (tabsRho l pl) := by
    intro g L hgl
    obtain ⟨t, h1, h2, h3, h4⟩ := hg g L hgl
    refine ⟨(pl g).S, ?_⟩
    rw [← h2, tabsRho_of h1, h3, h4]
    rfl
  refine (xrun_sound ok (args := []) (args' := []) hG (tabs_HR hn hf) (show RL _ [] [] from rfl) hs).mono ?_
  rintro e w ⟨u, ρ', rfl, h1, _, h3⟩
  exact ⟨by rw [show u = .bool true from h1], h3.same tabs_ro⟩
end Go.Proofs.YtbchdbhojafpdaaGreatDoor.Ev
namespace Go.Proofs.YtbchdbhojafpdaaGreatDoor.Ev
open Go
structure Cut where
  f : FuncId
  args : List V
  next : Nat
  tabs : List (Nat × Arr)
  needs : List (Nat × Blk)
  v : V
  next' : Nat
  lw : Nat
  outs : List (Nat × Blk)
noncomputable def setsB (l : List (Nat × Blk)) (t : T Blk) : T Blk := List.rec t (fun p _ ih => ih.set p.1 p.2) l
def Cut.all (c : Cut) (es : Nat → Nat) : List (Nat × Blk) := c.needs ++ c.tabs.map fun p => (p.1, ⟨p.2, 0, 0, true, es p.1⟩)
noncomputable def Cut.h0 (c : Cut) (es : Nat → Nat) : AH := ⟨c.next, c.next, setsB (c.all es) .leaf⟩
noncomputable def esOf (h : AH) (b : Nat) : Nat := Option.rec 0 (fun k => k.e) (h.get b)
def alikeR (a b : Arr) : Bool := Nat.beq a.n b.n && (alikeL a.z b.z && alikeT alikeV a.t b.t)
theorem alikeR_eq {a b : Arr} (h : alikeR a b = true) : a = b := by
  unfold alikeR at h
  simp only [Bool.and_eq_true, Nat.beq_eq] at h
  obtain ⟨h1, h6, h7⟩ := h
  have h6' := alikeL_eq _ _ h6
  have h7' := alikeT_eq alikeV_eq _ _ h7
  obtain ⟨n, z, t⟩ := a
  obtain ⟨n', z', t'⟩ := b
  simp only at h1 h6' h7'
  subst h1; subst h6'; subst h7'
  rfl
noncomputable def hasR (h : AH) (p : Nat × Arr) : Bool := Option.rec false (fun k => k.ro && (Nat.beq k.minL 0 && (Nat.beq k.fz 0 && alikeR k.cells p.2))) (h.get p.1)
noncomputable def allR (h : AH) (l : List (Nat × Arr)) : Bool := List.rec true (fun p _ ih => Bool.rec false ih (hasR h p)) l
noncomputable def hasB (h : AH) (p : Nat × Blk) : Bool := Option.rec false (fun k => alikeB k p.2) (h.get p.1)
noncomputable def allB (h : AH) (l : List (Nat × Blk)) : Bool := List.rec true (fun p _ ih => Bool.rec false ih (hasB h p)) l
def inL (b : Nat) (l : List (Nat × Blk)) : Bool := l.any fun p => Nat.beq p.1 b
noncomputable def endB (c : Cut) (r : Res) : Bool := Option.rec false (fun p => alikeV p.1 c.v && (Nat.beq p.2.next c.next' && (Nat.ble c.lw p.2.low && allB p.2 c.outs))) r
noncomputable def cutB (E : XEnv) (n : Nat) (c : Cut) (es : Nat → Nat) : Bool := ((c.all es).all fun p => Nat.blt p.1 c.lw || inL p.1 c.outs) && endB c (xrun E n c.f c.args (c.h0 es))
noncomputable def cutG (c : Cut) (args : List V) (h : AH) : Option (V × AH) :=
  Bool.rec none (some (c.v, ⟨c.next', Nat.min h.low c.lw, setsB c.outs h.m⟩)) (alikeL args c.args && (Nat.beq h.next c.next && (allB h c.needs && allR h c.tabs)))
noncomputable def cutI (l : List Cut) (f : FuncId) : Option (List V → AH → Option (V × AH)) :=
  List.rec none (fun c _ ih => bif Nat.beq c.f f then some (fun args h => Option.rec (Option.rec none (fun g => g args h) ih) (fun p => some p) (cutG c args h)) else ih) l
theorem setsB_get (l : List (Nat × Blk)) (t : T Blk) (b : Nat) : (∃ k, (b, k) ∈ l ∧ (setsB l t).get b = some k) ∨ (inL b l = false ∧ (setsB l t).get b = t.get b) := by
  induction l with
  | nil => exact .inr ⟨rfl, rfl⟩
  | cons p l ih =>
    have e : setsB (p :: l) t = (setsB l t).set p.1 p.2 := rfl
    rw [e, T.get_set]
    by_cases hb : b = p.1
    · subst hb
      rw [if_pos rfl]
      exact .inl ⟨p.2, by simp, rfl⟩
    · rw [if_neg hb]
      rcases ih with ⟨k, h1, h2⟩ | ⟨h1, h2⟩
      · exact .inl ⟨k, by simp [h1], h2⟩
      · refine .inr ⟨?_, h2⟩
        unfold inL at h1 ⊢
        rw [List.any_cons, h1, Bool.or_false]
        cases hq : Nat.beq p.1 b with
        | false => rfl
        | true => exact absurd (Nat.eq_of_beq_eq_true hq).symm hb
theorem allR_spec {h : AH} : ∀ {l : List (Nat × Arr)}, allR h l = true → ∀ p, p ∈ l → h.get p.1 = some ⟨p.2, 0, 0, true, esOf h p.1⟩ := by
  intro l
  induction l with
  | nil => intro _ p hp; cases hp
  | cons q l ih =>
    intro ha p hp
    have e : allR h (q :: l) = Bool.rec (motive := fun _ => Bool) false (allR h l) (hasR h q) := rfl
    rw [e] at ha
    cases hq : hasR h q with
    | false => rw [hq] at ha; cases ha
    | true =>
      rw [hq] at ha
      rcases List.mem_cons.1 hp with rfl | hp
      · unfold hasR at hq
        unfold esOf
        cases hg : h.get p.1 with
        | none => rw [hg] at hq; cases hq
        | some k =>
          rw [hg] at hq
          simp only [Bool.and_eq_true, Nat.beq_eq] at hq
          obtain ⟨q1, q2, q3, q4⟩ := hq
          have q5 := alikeR_eq q4
          clear q4
          obtain ⟨cs, l, f, r, e⟩ := k
          simp only at q1 q2 q3 q5
          subst q1; subst q2; subst q3
          rw [q5]
      · exact ih ha p hp
theorem inL_mem {b : Nat} {l : List (Nat × Blk)} (h : inL b l = true) : ∃ k, (b, k) ∈ l := by
  unfold inL at h
  rw [List.any_eq_true] at h
  obtain ⟨p, h1, h2⟩ := h
  exact ⟨p.2, by rw [← Nat.eq_of_beq_eq_true h2]; exact h1⟩
def CutOK (E : XEnv) (c : Cut) : Prop := ∃ (I : FuncId → Option (List V → AH → Option (V × AH))) (n : Nat), ({ E with I := I } : XEnv).OK ∧ ∀ es, cutB { E with I := I } n c es = true
end Go.Proofs.YtbchdbhojafpdaaGreatDoor.Ev
namespace Go.Proofs.YtbchdbhojafpdaaGreatDoor.Ev
open Go
noncomputable def T.getF {α : Type} (t : T α) : Nat → Option α :=
  T.rec (fun _ => none) (fun _ v _ ihl ihr n => Bool.rec (Bool.rec (ihl (Nat.div n 2)) (ihr (Nat.div n 2)) (Nat.beq (Nat.mod n 2) 1)) v (Nat.ble n 1)) t
theorem T.getF_leaf {α : Type} (n : Nat) : (T.leaf : T α).getF n = none := rfl
theorem T.getF_node {α : Type} (l : T α) (v : Option α) (r : T α) (n : Nat) : (T.node l v r).getF n = bif Nat.ble n 1 then v else bif Nat.beq (n % 2) 1 then r.getF (n / 2) else l.getF (n / 2) := by
  have h : (T.node l v r).getF n = Bool.rec (motive := fun _ => Option α) (Bool.rec (motive := fun _ => Option α) (l.getF (Nat.div n 2)) (r.getF (Nat.div n 2)) (Nat.beq (Nat.mod n 2) 1)) v (Nat.ble n 1) := rfl
  rw [h]
  show _ = bif Nat.ble n 1 then v else bif Nat.beq (Nat.mod n 2) 1 then r.getF (Nat.div n 2) else l.getF (Nat.div n 2)
  cases Nat.ble n 1 <;> cases Nat.beq (Nat.mod n 2) 1 <;> rfl
theorem T.getP_bits {α : Type} : ∀ (t : T α) (f n : Nat), 1 ≤ n → n ≤ f → T.getP (bitsF f n) t = t.getF n := by
  intro t
  induction t with
  | leaf => intro f n _ _; rw [T.getP_leaf, T.getF_leaf]
  | node l v r ihl ihr =>
    intro f n h1 h2
    cases f with
    | zero => omega
    | succ f =>
      rw [bitsF_succ, T.getF_node]
      cases hb : Nat.ble n 1 with
      | true => rfl
      | false =>
        have hn : ¬ n ≤ 1 := fun h => by rw [Nat.ble_eq_true_of_le h] at hb; cases hb
        simp only [cond_false]
        rw [T.getP_cons, ihl f (n / 2) (by omega) (by omega), ihr f (n / 2) (by omega) (by omega)]
theorem T.get_getF {α : Type} (t : T α) (i : Nat) : t.get i = t.getF (Nat.succ i) := T.getP_bits t _ _ (Nat.succ_le_succ (Nat.zero_le _)) (Nat.le_refl _)
noncomputable def T.setF {α : Type} (t : T α) : Nat → α → T α :=
  T.rec (fun n x => T.setP (bitsF n n) .leaf x) (fun l v r ihl ihr n x => Bool.rec (Bool.rec (.node (ihl (Nat.div n 2) x) v r) (.node l v (ihr (Nat.div n 2) x)) (Nat.beq (Nat.mod n 2) 1)) (.node l (some x) r) (Nat.ble n 1)) t
theorem bitsF_more : ∀ (f g n : Nat), n ≤ f → n ≤ g → bitsF f n = bitsF g n := by
  intro f
  induction f with
  | zero => intro g n h1 h2; obtain rfl : n = 0 := by omega
            cases g with
            | zero => rfl
            | succ g => rw [bitsF_zero, bitsF_succ]; rfl
  | succ f ih =>
    intro g n h1 h2
    cases g with
    | zero => obtain rfl : n = 0 := by omega
              rw [bitsF_zero, bitsF_succ]; rfl
    | succ g =>
      rw [bitsF_succ, bitsF_succ]
      cases hb : Nat.ble n 1 with
      | true => rfl
      | false =>
        have hn : ¬ n ≤ 1 := fun h => by rw [Nat.ble_eq_true_of_le h] at hb; cases hb
        simp only [cond_false]
        rw [ih g (n / 2) (by omega) (by omega)]
theorem T.setP_cons {α : Type} (b : Bool) (p : List Bool) (l : T α) (v : Option α) (r : T α) (x : α) : T.setP (b :: p) (.node l v r) x = bif b then .node l v (T.setP p r x) else .node (T.setP p l x) v r := by cases b <;> rfl
theorem T.setP_bits {α : Type} : ∀ (t : T α) (f n : Nat) (x : α), 1 ≤ n → n ≤ f → T.setP (bitsF f n) t x = t.setF n x := by
  intro t
  induction t with
  | leaf => intro f n x h1 h2; rw [bitsF_more f n n h2 (Nat.le_refl _)]; rfl
  | node l v r ihl ihr =>
    intro f n x h1 h2
    have h : (T.node l v r).setF n x = Bool.rec (motive := fun _ => T α) (Bool.rec (motive := fun _ => T α) (.node (l.setF (Nat.div n 2) x) v r) (.node l v (r.setF (Nat.div n 2) x)) (Nat.beq (Nat.mod n 2) 1)) (.node l (some x) r) (Nat.ble n 1) := rfl
    rw [h]
    cases f with
    | zero => omega
    | succ f =>
      rw [bitsF_succ]
      cases hb : Nat.ble n 1 with
      | true => rfl
      | false =>
        have hn : ¬ n ≤ 1 := fun h => by rw [Nat.ble_eq_true_of_le h] at hb; cases hb
        simp only [cond_false]
        rw [T.setP_cons, ihl f (n / 2) x (by omega) (by omega), ihr f (n / 2) x (by omega) (by omega)]
        show _ = Bool.rec (motive := fun _ => T α) (.node (l.setF (n / 2) x) v r) (.node l v (r.setF (n / 2) x)) (Nat.beq (n % 2) 1)
        cases Nat.beq (n % 2) 1 <;> rfl
theorem T.set_setF {α : Type} (t : T α) (i : Nat) (x : α) : t.set i x = t.setF (Nat.succ i) x := T.setP_bits t _ _ x (Nat.succ_le_succ (Nat.zero_le _)) (Nat.le_refl _)
noncomputable def kN (k : IntKind) : Nat := IntKind.rec 0 1 2 3 4 5 6 7 k
theorem kN_inj {a b : IntKind} (h : kN a = kN b) : a = b := by cases a <;> cases b <;> first | rfl | (simp [kN] at h)
noncomputable def natR (v : V) : (IntKind → Nat → Res) → Res → Res :=
  V.rec (motive_1 := fun _ => (IntKind → Nat → Res) → Res → Res) (motive_2 := fun _ => Unit) (fun _ z => z) (fun _ _ z => z) (fun k n => Int.rec (fun m K _ => K k m) (fun _ _ z => z) n) (fun _ _ z => z) (fun _ _ z => z) (fun _ z => z) (fun _ _ _ _ _ _ z => z) (fun _ z => z) (fun _ z => z) (fun _ _ _ _ _ _ z => z) (fun _ z => z)
    (fun _ _ _ _ z => z) (fun _ z => z) (fun _ _ _ z => z) (fun _ _ _ z => z) (fun _ _ z => z) (fun _ z => z) (fun _ _ _ _ z => z) (fun _ _ _ z => z) (fun _ _ z => z) (fun _ _ _ _ _ z => z) () (fun _ _ _ _ => ()) v
theorem natR_some {v : V} {K : IntKind → Nat → Res} {z : Res} {r : V × AH} (h : natR v K z = some r) : (∃ k n, v = .int k (Int.ofNat n) ∧ K k n = some r) ∨ z = some r := by
  cases v
  case int k n =>
    cases n with
    | ofNat m => exact .inl ⟨k, m, rfl, h⟩
    | negSucc m => exact .inr h
  all_goals exact .inr h
noncomputable def ptrR (v : V) : (A → Res) → Res → Res :=
  V.rec (motive_1 := fun _ => (A → Res) → Res → Res) (motive_2 := fun _ => Unit) (fun _ z => z) (fun _ _ z => z) (fun _ _ _ z => z) (fun _ _ z => z) (fun a K _ => K a) (fun _ z => z) (fun _ _ _ _ _ _ z => z) (fun _ z => z) (fun _ z => z) (fun _ _ _ _ _ _ z => z) (fun _ z => z)
    (fun _ _ _ _ z => z) (fun _ z => z) (fun _ _ _ z => z) (fun _ _ _ z => z) (fun _ _ z => z) (fun _ z => z) (fun _ _ _ _ z => z) (fun _ _ _ z => z) (fun _ _ z => z) (fun _ _ _ _ _ z => z) () (fun _ _ _ _ => ()) v
theorem ptrR_some {v : V} {K : A → Res} {z : Res} {r : V × AH} (h : ptrR v K z = some r) : (∃ a, v = .ptr a ∧ K a = some r) ∨ z = some r := by
  cases v
  case ptr a => exact .inl ⟨a, rfl, h⟩
  all_goals exact .inr h
noncomputable def sliceR (v : V) : (A → Nat → Res) → Res → Res :=
  V.rec (motive_1 := fun _ => (A → Nat → Res) → Res → Res) (motive_2 := fun _ => Unit) (fun _ z => z) (fun _ _ z => z) (fun _ _ _ z => z) (fun _ _ z => z) (fun _ _ z => z) (fun _ z => z) (fun a n _ _ _ K _ => K a n) (fun _ z => z) (fun _ z => z) (fun _ _ _ _ _ _ z => z) (fun _ z => z)
    (fun _ _ _ _ z => z) (fun _ z => z) (fun _ _ _ z => z) (fun _ _ _ z => z) (fun _ _ z => z) (fun _ z => z) (fun _ _ _ _ z => z) (fun _ _ _ z => z) (fun _ _ z => z) (fun _ _ _ _ _ z => z) () (fun _ _ _ _ => ()) v
theorem sliceR_some {v : V} {K : A → Nat → Res} {z : Res} {r : V × AH} (h : sliceR v K z = some r) : (∃ a n cap ex zz, v = .slice a n cap ex zz ∧ K a n = some r) ∨ z = some r := by
  cases v
  case slice a n cap ex zz => exact .inl ⟨a, n, cap, ex, zz, rfl, h⟩
  all_goals exact .inr h
noncomputable def cellR (v : V) : Bool :=
  V.rec (motive_1 := fun _ => Bool) (motive_2 := fun _ => Unit) false (fun _ => true) (fun _ _ => true) (fun _ => true) (fun _ => true) true (fun _ _ _ _ _ => true) true true (fun _ _ _ _ _ => true) true
    (fun _ _ _ => true) true (fun _ _ => false) (fun _ _ => false) (fun _ => true) true (fun _ _ _ => true) (fun _ _ => true) (fun _ => true) (fun _ _ _ _ => false) () (fun _ _ _ _ => ()) v
theorem cellR_eq {v : V} (h : cellR v = true) : v.cell = true ∧ v.cells = [v] := by
  cases v <;> first | exact ⟨rfl, rfl⟩ | (exact absurd h (by simp [cellR]))
noncomputable def nat2 (k0 : Nat) (x y : V) (K : Nat → Nat → Res) (z : Res) : Res :=
  natR x (fun k a => Bool.rec z (natR y (fun k' b => Bool.rec z (K a b) (Nat.beq (kN k') k0)) z) (Nat.beq (kN k) k0)) z
theorem brec_some {b : Bool} {z y : Res} {r : V × AH} (h : (Bool.rec z y b : Res) = some r) : (b = true ∧ y = some r) ∨ (b = false ∧ z = some r) := by
  cases b
  · exact .inr ⟨rfl, h⟩
  · exact .inl ⟨rfl, h⟩
theorem nat2_some {k0 : IntKind} {x y : V} {K : Nat → Nat → Res} {z : Res} {r : V × AH} (h : nat2 (kN k0) x y K z = some r) : (∃ a b, x = .int k0 (Int.ofNat a) ∧ y = .int k0 (Int.ofNat b) ∧ K a b = some r) ∨ z = some r := by
  rcases natR_some h with ⟨k, a, hx, h1⟩ | h1
  · rcases brec_some h1 with ⟨e1, h2⟩ | ⟨_, h2⟩
    · rcases natR_some h2 with ⟨k', b, hy, h3⟩ | h3
      · rcases brec_some h3 with ⟨e2, h4⟩ | ⟨_, h4⟩
        · obtain rfl := kN_inj (Nat.eq_of_beq_eq_true e1)
          obtain rfl := kN_inj (Nat.eq_of_beq_eq_true e2)
          exact .inl ⟨a, b, hx, hy, h4⟩
        · exact .inr h4
      · exact .inr h3
    · exact .inr h2
  · exact .inr h1
theorem wrapU {k : IntKind} (hk : k.signed = false) (n : Nat) : k.wrap (n : Int) = ((n % 2 ^ k.bits : Nat) : Int) := by
  cases k <;> simp [IntKind.signed] at hk <;> simp [IntKind.wrap, IntKind.signed, IntKind.bits]
theorem wrapS {k : IntKind} (hk : k.signed = true) {n : Nat} (hn : n < 2 ^ (k.bits - 1)) : k.wrap (n : Int) = (n : Int) := by
  cases k <;> simp [IntKind.signed] at hk <;> simp [IntKind.wrap, IntKind.signed, IntKind.bits] at hn ⊢ <;> omega
theorem wrap_in {k : IntKind} {n : Nat} (h : (bif k.signed then Nat.blt n (2 ^ (k.bits - 1)) else Nat.blt n (2 ^ k.bits)) = true) : k.wrap (n : Int) = (n : Int) := by
  cases hk : k.signed with
  | true =>
    rw [hk] at h
    simp only [cond_true, Arr.blt_eq, decide_eq_true_eq] at h
    exact wrapS hk h
  | false =>
    rw [hk] at h
    simp only [cond_false, Arr.blt_eq, decide_eq_true_eq] at h
    rw [wrapU hk, Nat.mod_eq_of_lt h]
def lim (k : IntKind) : Nat := if k.signed then 2 ^ (k.bits - 1) else 2 ^ k.bits
theorem wrap_lim {k : IntKind} {n : Nat} (h : Nat.blt n (lim k) = true) : k.wrap (n : Int) = (n : Int) := by
  apply wrap_in
  unfold lim at h
  cases hk : k.signed <;> rw [hk] at h <;> simpa using h
theorem lim_le (k : IntKind) : lim k ≤ 2 ^ k.bits := by cases k <;> decide
theorem lt_lim {k : IntKind} {n : Nat} (h : Nat.blt n (lim k) = true) : n < lim k := by rw [Arr.blt_eq] at h; exact of_decide_eq_true h
theorem ofInt_nat {k : IntKind} {n : Nat} (h : n < lim k) : (BitVec.ofInt k.bits (n : Int)).toNat = n := by
  have := lim_le k
  rw [BitVec.ofInt_natCast, BitVec.toNat_ofNat, Nat.mod_eq_of_lt (by omega)]
theorem lim_pow (k : IntKind) : ∃ w, lim k = 2 ^ w := by
  unfold lim
  split
  · exact ⟨_, rfl⟩
  · exact ⟨_, rfl⟩
noncomputable def numB (op : BinOp) (k : IntKind) : Option (Nat → Nat → (V → Res) → Res → Res) :=
  match op with
  | .add => some (bif k.signed then fun a b K z => Bool.rec z (K (.int k (Int.ofNat (Nat.add a b)))) (Nat.blt (Nat.add a b) (lim k)) else fun a b K _ => K (.int k (Int.ofNat (Nat.mod (Nat.add a b) (2 ^ k.bits)))))
  | .sub => some (fun a b K z => Bool.rec z (Bool.rec z (K (.int k (Int.ofNat (Nat.sub a b)))) (Nat.blt a (lim k))) (Nat.ble b a))
  | .mul => some (bif k.signed then fun a b K z => Bool.rec z (K (.int k (Int.ofNat (Nat.mul a b)))) (Nat.blt (Nat.mul a b) (lim k)) else fun a b K _ => K (.int k (Int.ofNat (Nat.mod (Nat.mul a b) (2 ^ k.bits)))))
  | .rem => some (fun a b K z => Bool.rec (K (.int k (Int.ofNat (Nat.mod a b)))) z (Nat.beq b 0))
  | .and => some (fun a b K z => Bool.rec z (Bool.rec z (K (.int k (Int.ofNat (Nat.land a b)))) (Nat.blt b (lim k))) (Nat.blt a (lim k)))
  | .or => some (fun a b K z => Bool.rec z (Bool.rec z (K (.int k (Int.ofNat (Nat.lor a b)))) (Nat.blt b (lim k))) (Nat.blt a (lim k)))
  | .xor => some (fun a b K z => Bool.rec z (Bool.rec z (K (.int k (Int.ofNat (Nat.xor a b)))) (Nat.blt b (lim k))) (Nat.blt a (lim k)))
  | .eql => some (fun a b K _ => K (.bool (Nat.beq a b)))
  | .neq => some (fun a b K _ => K (.bool (Bool.rec true false (Nat.beq a b))))
  | .lss => some (fun a b K _ => K (.bool (Nat.blt a b)))
  | .leq => some (fun a b K _ => K (.bool (Nat.ble a b)))
  | .gtr => some (fun a b K _ => K (.bool (Nat.blt b a)))
  | .geq => some (fun a b K _ => K (.bool (Nat.ble b a)))
  | _ => none
theorem ble_eq (a b : Nat) : Nat.ble a b = decide (a ≤ b) := by
  rw [Bool.eq_iff_iff]; simp
theorem numB_some {op : BinOp} {k : IntKind} {F : Nat → Nat → (V → Res) → Res → Res} (hF : numB op k = some F) {a b : Nat} {K : V → Res} {z : Res} {r : V × AH} (h : F a b K z = some r) : (op ≠ .shl ∧ op ≠ .shr ∧ ∃ v, intBin op k (Int.ofNat a) (Int.ofNat b) = some v ∧ K v = some r) ∨ z = some r := by
  have nn : ∀ n : Nat, Int.ofNat n = (n : Int) := fun _ => rfl
  cases op <;> simp only [numB, reduceCtorEq, Option.some.injEq] at hF <;> subst hF
  case add =>
    cases hk : k.signed with
    | true =>
      rw [hk] at h
      rcases brec_some h with ⟨e, h1⟩ | ⟨_, h1⟩
      · refine .inl ⟨by simp, by simp, _, rfl, ?_⟩
        have : k.wrap (Int.ofNat a + Int.ofNat b) = Int.ofNat (Nat.add a b) := wrap_lim e
        rw [this]; exact h1
      · exact .inr h1
    | false =>
      rw [hk] at h
      refine .inl ⟨by simp, by simp, _, rfl, ?_⟩
      have : k.wrap (Int.ofNat a + Int.ofNat b) = Int.ofNat (Nat.mod (Nat.add a b) (2 ^ k.bits)) := wrapU hk (a + b)
      rw [this]; exact h
  case sub =>
    rcases brec_some h with ⟨e, h1⟩ | ⟨_, h1⟩
    · rcases brec_some h1 with ⟨e2, h2⟩ | ⟨_, h2⟩
      · refine .inl ⟨by simp, by simp, _, rfl, ?_⟩
        have hle : b ≤ a := Nat.le_of_ble_eq_true e
        have hlt := lt_lim e2
        have : k.wrap (Int.ofNat a - Int.ofNat b) = Int.ofNat (Nat.sub a b) := by
          have h3 : (Int.ofNat a - Int.ofNat b : Int) = ((a - b : Nat) : Int) := by simp only [nn]; omega
          rw [h3]
          exact wrap_lim (by rw [Arr.blt_eq]; exact decide_eq_true (by omega))
        rw [this]; exact h2
      · exact .inr h2
    · exact .inr h1
  case mul =>
    cases hk : k.signed with
    | true =>
      rw [hk] at h
      rcases brec_some h with ⟨e, h1⟩ | ⟨_, h1⟩
      · refine .inl ⟨by simp, by simp, _, rfl, ?_⟩
        have : k.wrap (Int.ofNat a * Int.ofNat b) = Int.ofNat (Nat.mul a b) := wrap_lim e
        rw [this]; exact h1
      · exact .inr h1
    | false =>
      rw [hk] at h
      refine .inl ⟨by simp, by simp, _, rfl, ?_⟩
      have : k.wrap (Int.ofNat a * Int.ofNat b) = Int.ofNat (Nat.mod (Nat.mul a b) (2 ^ k.bits)) := wrapU hk (a * b)
      rw [this]; exact h
  case rem =>
    rcases brec_some h with ⟨_, h1⟩ | ⟨e, h1⟩
    · exact .inr h1
    · have hb : b ≠ 0 := fun hb => by rw [hb] at e; cases e
      refine .inl ⟨by simp, by simp, _, ?_, h1⟩
      simp only [intBin]
      rw [if_neg (by simp only [nn]; omega)]
      rfl
  case and =>
    rcases brec_some h with ⟨e1, h1⟩ | ⟨_, h1⟩
    · rcases brec_some h1 with ⟨e2, h2⟩ | ⟨_, h2⟩
      · refine .inl ⟨by simp, by simp, _, rfl, ?_⟩
        obtain ⟨w, hw⟩ := lim_pow k
        have l1 := lt_lim e1
        have l2 := lt_lim e2
        rw [BitVec.toNat_and, nn, nn, ofInt_nat l1, ofInt_nat l2]
        rw [wrap_lim (by rw [Arr.blt_eq, hw]; rw [hw] at l1; exact decide_eq_true (Nat.and_lt_two_pow _ (by rw [← hw]; exact l2)))]
        exact h2
      · exact .inr h2
    · exact .inr h1
  case or =>
    rcases brec_some h with ⟨e1, h1⟩ | ⟨_, h1⟩
    · rcases brec_some h1 with ⟨e2, h2⟩ | ⟨_, h2⟩
      · refine .inl ⟨by simp, by simp, _, rfl, ?_⟩
        obtain ⟨w, hw⟩ := lim_pow k
        have l1 := lt_lim e1
        have l2 := lt_lim e2
        rw [BitVec.toNat_or, nn, nn, ofInt_nat l1, ofInt_nat l2]
        rw [wrap_lim (by rw [Arr.blt_eq, hw]; rw [hw] at l1 l2; exact decide_eq_true (Nat.or_lt_two_pow l1 l2))]
        exact h2
      · exact .inr h2
    · exact .inr h1
  case xor =>
    rcases brec_some h with ⟨e1, h1⟩ | ⟨_, h1⟩
    · rcases brec_some h1 with ⟨e2, h2⟩ | ⟨_, h2⟩
      · refine .inl ⟨by simp, by simp, _, rfl, ?_⟩
        obtain ⟨w, hw⟩ := lim_pow k
        have l1 := lt_lim e1
        have l2 := lt_lim e2
        rw [BitVec.toNat_xor, nn, nn, ofInt_nat l1, ofInt_nat l2]
        rw [wrap_lim (by rw [Arr.blt_eq, hw]; rw [hw] at l1 l2; exact decide_eq_true (Nat.xor_lt_two_pow l1 l2))]
        exact h2
      · exact .inr h2
    · exact .inr h1
  case eql =>
    refine .inl ⟨by simp, by simp, _, rfl, ?_⟩
    have : (Int.ofNat a == Int.ofNat b) = Nat.beq a b := by
      rw [Bool.eq_iff_iff]; simp only [beq_iff_eq, Int.ofNat.injEq, Nat.beq_eq]
    rw [this]; exact h
  case neq =>
    refine .inl ⟨by simp, by simp, _, rfl, ?_⟩
    have : (Int.ofNat a != Int.ofNat b) = Bool.rec true false (Nat.beq a b) := by
      have e : (Int.ofNat a == Int.ofNat b) = Nat.beq a b := by
        rw [Bool.eq_iff_iff]; simp only [beq_iff_eq, Int.ofNat.injEq, Nat.beq_eq]
      show (!(Int.ofNat a == Int.ofNat b)) = _
      rw [e]
      cases Nat.beq a b <;> rfl
    rw [this]; exact h
  case lss =>
    refine .inl ⟨by simp, by simp, _, rfl, ?_⟩
    have : decide (Int.ofNat a < Int.ofNat b) = Nat.blt a b := by rw [Arr.blt_eq]; simp only [nn]; rw [Bool.eq_iff_iff]; simp
    rw [this]; exact h
  case leq =>
    refine .inl ⟨by simp, by simp, _, rfl, ?_⟩
    have : decide (Int.ofNat a ≤ Int.ofNat b) = Nat.ble a b := by rw [ble_eq]; simp only [nn]; rw [Bool.eq_iff_iff]; simp
    rw [this]; exact h
  case gtr =>
    refine .inl ⟨by simp, by simp, _, rfl, ?_⟩
    have : decide (Int.ofNat a > Int.ofNat b) = Nat.blt b a := by rw [Arr.blt_eq]; simp only [nn]; rw [Bool.eq_iff_iff]; simp
    rw [this]; exact h
  case geq =>
    refine .inl ⟨by simp, by simp, _, rfl, ?_⟩
    have : decide (Int.ofNat a ≥ Int.ofNat b) = Nat.ble b a := by rw [ble_eq]; simp only [nn]; rw [Bool.eq_iff_iff]; simp
    rw [this]; exact h
end Go.Proofs.YtbchdbhojafpdaaGreatDoor.Ev
namespace Go.Proofs.YtbchdbhojafpdaaGreatDoor.Ev
open Go
noncomputable def rdG (r : RD) (K : (List V → XF → V) → XI) : XI := RD.rec (fun g => K g) r
theorem rdG_eq (r : RD) (K : (List V → XF → V) → XI) : rdG r K = K (rdV r) := by cases r; rfl
def Quick (c : Cfg) (yl q : Bool) (ds : List Nat) (o : Op) (i : XI) : Prop := ∀ d s f h k r, xiRun i d s f h k = some r → ∃ v h', stepX c yl q o d (evX c ds s f) h = some (v, h') ∧ k v h' = some r
theorem quick_slow (c : Cfg) (yl q : Bool) (ds : List Nat) (o : Op) : Quick c yl q ds o (xi c yl q ds o) := fun d s f h k r hr => resK_some hr
theorem stepX_sop {c : Cfg} (hc : ∀ o, c.hint o = none) {yl q : Bool} {o : Op} {d : XD} {ev : Operand → V} {h : AH} (hi : isCall o = none) : stepX c yl q o d ev h = sop c.P o ev h := by
  have hv : stepV (c.at d) q o ev h = sop c.P o ev h := by
    unfold stepV
    rw [hi]
    show conc (c.hint o) _ = _
    rw [hc]; rfl
  unfold stepX
  split
  · rename_i b args hy
    obtain ⟨cl, f, rfl, hcl, _, _⟩ := yieldAt_some hy
    obtain ⟨ce, aas, ats⟩ := cl
    simp only at hcl
    subst hcl
    cases hi
  · exact hv
section
variable (c : Cfg) (yl q : Bool) (ds : List Nat)
noncomputable def slowK (o : Op) (d : XD) (s : List V) (f : XF) (h : AH) (k : V → AH → Res) : Res := xiRun (xi c yl q ds o) d s f h k
noncomputable def xMove (x : Operand) : XI := rdG (rdOp c ds x) fun g => .mk fun _ s f h k => k (g s f) h
noncomputable def xBin (op : BinOp) (k0 : IntKind) (x y : Operand) (o : Op) : XI :=
  match numB op k0 with
  | none => xi c yl q ds o
  | some F => rdG (rdOp c ds x) fun gx => rdG (rdOp c ds y) fun gy => .mk fun d s f h k => nat2 (kN k0) (gx s f) (gy s f) (fun a b => F a b (fun v => k v h) (slowK c yl q ds o d s f h k)) (slowK c yl q ds o d s f h k)
noncomputable def xShift (left : Bool) (k0 : IntKind) (x y : Operand) (o : Op) : XI :=
  rdG (rdOp c ds x) fun gx => rdG (rdOp c ds y) fun gy => .mk fun d s f h k => natR (gx s f) (fun kx a => natR (gy s f) (fun _ b => Bool.rec (slowK c yl q ds o d s f h k) (Bool.rec (slowK c yl q ds o d s f h k)
    (Bool.rec (k (.int k0 (Int.ofNat (Nat.shiftRight a b))) h)
      (Bool.rec (k (.int k0 (Int.ofNat (Nat.mod (Nat.shiftLeft a b) (2 ^ k0.bits)))) h) (Bool.rec (slowK c yl q ds o d s f h k) (k (.int k0 (Int.ofNat (Nat.shiftLeft a b))) h) (Nat.blt (Nat.shiftLeft a b) (lim k0))) k0.signed) left)
    (Nat.ble b k0.bits)) (Nat.beq (kN kx) (kN k0))) (slowK c yl q ds o d s f h k)) (slowK c yl q ds o d s f h k)
noncomputable def loadK (a : A) (h : AH) (k : V → AH → Res) : Res :=
  Option.rec none (fun b => Bool.rec none (Option.rec (Option.rec none (fun v => k v h) (b.cells.get a.o)) (fun v => k v h) (b.cells.t.getF (Nat.succ a.o)))
    (Bool.rec false (Bool.rec false (Nat.ble (Nat.succ a.o) a.L) (Nat.ble a.L b.cells.n)) (Nat.ble b.minL a.L))) (h.m.getF (Nat.succ a.b))
noncomputable def xLoad (t : TypeId) (x : Operand) (o : Op) : XI := rdG (rdOp c ds x) fun g => .mk fun _ s f h k => ptrR (g s f) (fun a => loadK a h k) none
noncomputable def storeK (a : A) (v : V) (h : AH) (k : V → AH → Res) : Res :=
  AH.rec (fun next low hm => Option.rec none (fun b => Blk.rec (fun cells minL fz ro e => Arr.rec (fun n z t => Bool.rec none (k .bad ⟨next, Nat.min low a.b, hm.setF (Nat.succ a.b) ⟨⟨n, z, t.setF (Nat.succ a.o) v⟩, a.L, fz, ro, e⟩⟩)
    (Bool.rec false (Bool.rec false (Bool.rec false (Bool.rec false (Bool.rec true false ro) (Nat.ble (Nat.succ a.o) a.L)) (Nat.ble fz a.o)) (Nat.ble minL a.L)) (Nat.beq a.L n))) cells) b) (hm.getF (Nat.succ a.b))) h
noncomputable def xStore (t : TypeId) (x y : Operand) (o : Op) : XI :=
  rdG (rdOp c ds x) fun gx => rdG (rdOp c ds y) fun gy => .mk fun d s f h k => ptrR (gx s f) (fun a => Bool.rec (slowK c yl q ds o d s f h k) (storeK a (gy s f) h k) (cellR (gy s f))) none
noncomputable def xFieldAddr (off : Nat) (x : Operand) (o : Op) : XI := rdG (rdOp c ds x) fun g => .mk fun _ s f h k => ptrR (g s f) (fun a => k (.ptr ⟨a.b, a.L, Nat.add a.o off⟩) h) none
noncomputable def xSliceAddr (sz : Nat) (x y : Operand) (o : Op) : XI :=
  rdG (rdOp c ds x) fun gx => rdG (rdOp c ds y) fun gy => .mk fun _ s f h k => sliceR (gx s f) (fun a n => natR (gy s f) (fun _ i => Bool.rec none (k (.ptr ⟨a.b, a.L, Nat.add a.o (Nat.mul i sz)⟩) h) (Nat.blt i n)) none) none
noncomputable def xArrayAddr (len sz : Nat) (x y : Operand) (o : Op) : XI :=
  rdG (rdOp c ds x) fun gx => rdG (rdOp c ds y) fun gy => .mk fun _ s f h k => ptrR (gx s f) (fun a => natR (gy s f) (fun _ i => Bool.rec none (k (.ptr ⟨a.b, a.L, Nat.add a.o (Nat.mul i sz)⟩) h) (Nat.blt i len)) none) none
noncomputable def xConv (k0 : IntKind) (x : Operand) (o : Op) : XI :=
  rdG (rdOp c ds x) fun g => .mk fun d s f h k => natR (g s f) (fun _ a => Bool.rec (Bool.rec (k (.int k0 (Int.ofNat (Nat.mod a (2 ^ k0.bits)))) h) (slowK c yl q ds o d s f h k) k0.signed) (k (.int k0 (Int.ofNat a)) h) (Nat.blt a (lim k0))) (slowK c yl q ds o d s f h k)
noncomputable def xLen (x : Operand) (o : Op) : XI := rdG (rdOp c ds x) fun g => .mk fun d s f h k => sliceR (g s f) (fun _ n => k (.int .i64 (Int.ofNat n)) h) (slowK c yl q ds o d s f h k)
noncomputable def argsX (s : List V) (f : XF) : List Operand → List V := List.rec [] (fun x _ ih => evX c ds s f x :: ih)
noncomputable def xCall (g : FuncId) (args : List Operand) : XI := .mk fun d s f h k => resK (d.C g (argsX c ds s f args) h) k
noncomputable def xq (o : Op) : XI :=
  match o with
  | .move x => xMove c ds x
  | .assign x => xMove c ds x
  | .binOp op t x y _ => match c.P.underlying t with
    | some (.int k0) => match op with
      | .shl => xShift c yl q ds true k0 x y o
      | .shr => xShift c yl q ds false k0 x y o
      | op => xBin c yl q ds op k0 x y o
    | _ => xi c yl q ds o
  | .load t x => match c.P.underlying t with
    | none => xi c yl q ds o
    | some (.struct _) => xi c yl q ds o
    | some (.array _ _) => xi c yl q ds o
    | some _ => xLoad c ds t x o
  | .store t x y => if (c.P.info? t).isSome ∧ c.P.cellsOf t = 1 then xStore c yl q ds t x y o else xi c yl q ds o
  | .fieldAddr t x fd => match c.P.underlying t with
    | some (.struct fs) => match fs[fd]? with
      | some fl => if (c.P.info? fl.type).isSome ∧ c.P.cellsOf fl.type ≠ 0 then xFieldAddr c ds fl.offset x o else xi c yl q ds o
      | none => xi c yl q ds o
    | _ => xi c yl q ds o
  | .indexAddr t x y => match c.P.underlying t with
    | some (.slice e) => if (c.P.info? e).isSome then xSliceAddr c ds (c.P.cellsOf e) x y o else xi c yl q ds o
    | some (.array len e) => if (c.P.info? e).isSome then xArrayAddr c ds len (c.P.cellsOf e) x y o else xi c yl q ds o
    | _ => xi c yl q ds o
  | _ => xi c yl q ds o
end
theorem move_quick {c : Cfg} (hc : ∀ o, c.hint o = none) {yl q : Bool} {ds : List Nat} {x : Operand} {o : Op} (ho : ∀ ev h, sop c.P o ev h = some (ev x, h)) (hi : isCall o = none) : Quick c yl q ds o (xMove c ds x) := by
  intro d s f h k r hr
  unfold xMove at hr
  rw [rdG_eq] at hr
  exact ⟨_, h, by rw [stepX_sop hc hi, ho]; rfl, hr⟩
theorem bin_quick {c : Cfg} (hc : ∀ o, c.hint o = none) {yl q : Bool} {ds : List Nat} {op : BinOp} {t t2 : TypeId} {x y : Operand} {k0 : IntKind} : Quick c yl q ds (.binOp op t x y t2) (xBin c yl q ds op k0 x y (.binOp op t x y t2)) := by
  unfold xBin
  split
  · exact quick_slow _ _ _ _ _
  · rename_i F hF
    intro d s f h k r hr
    rw [rdG_eq, rdG_eq] at hr
    rcases nat2_some hr with ⟨a, b, hx, hy, h1⟩ | h1
    · rcases numB_some hF h1 with ⟨n1, n2, v, h2, h3⟩ | h2
      · refine ⟨v, h, ?_, h3⟩
        rw [stepX_sop hc rfl]
        show (absBin c.P op t x y (evX c ds s f x) (evX c ds s f y)).map (fun v => (v, h)) = _
        rw [show evX c ds s f x = _ from hx, show evX c ds s f y = _ from hy]
        unfold absBin
        simp only
        cases op <;> first | exact absurd rfl n1 | exact absurd rfl n2 | (simp only [if_true, h2, Option.map_some])
      · exact quick_slow c yl q ds _ d s f h k r h2
    · exact quick_slow c yl q ds _ d s f h k r h1
theorem shift_quick {c : Cfg} (hc : ∀ o, c.hint o = none) {yl q : Bool} {ds : List Nat} {left : Bool} {t t2 : TypeId} {x y : Operand} {k0 : IntKind} : Quick c yl q ds (.binOp (if left then .shl else .shr) t x y t2) (xShift c yl q ds left k0 x y (.binOp (if left then .shl else .shr) t x y t2)) := by
  intro d s f h k r hr
  unfold xShift at hr
  rw [rdG_eq, rdG_eq] at hr
  have slow := quick_slow c yl q ds (.binOp (if left then .shl else .shr) t x y t2) d s f h k r
  have done : ∀ kx a ky b v, evX c ds s f x = .int kx (Int.ofNat a) → evX c ds s f y = .int ky (Int.ofNat b) → shiftV (if left then .shl else .shr) kx (Int.ofNat a) (Int.ofNat b) = some v → k v h = some r → ∃ v h', stepX c yl q (.binOp (if left then .shl else .shr) t x y t2) d (evX c ds s f) h = some (v, h') ∧ k v h' = some r := by
    intro kx a ky b v hx hy hs hk
    refine ⟨v, h, ?_, hk⟩
    rw [stepX_sop hc rfl]
    show (absBin c.P _ t x y (evX c ds s f x) (evX c ds s f y)).map (fun v => (v, h)) = _
    rw [hx, hy]
    unfold absBin
    cases left <;> simp only [if_true, Bool.false_eq_true, if_false] at hs ⊢ <;> rw [hs] <;> rfl
  rcases natR_some hr with ⟨kx, a, hx, h1⟩ | h1
  · rcases natR_some h1 with ⟨ky, b, hy, h2⟩ | h2
    · rcases brec_some h2 with ⟨e1, h3⟩ | ⟨_, h3⟩
      · obtain rfl := kN_inj (Nat.eq_of_beq_eq_true e1)
        rcases brec_some h3 with ⟨e2, h4⟩ | ⟨_, h4⟩
        · have hle : b ≤ kx.bits := Nat.le_of_ble_eq_true e2
          have hneg : ¬ (Int.ofNat b < 0) := by show ¬ ((b : Int) < 0); omega
          have htn : min (Int.ofNat b).toNat kx.bits = b := by show min b kx.bits = b; omega
          rcases brec_some h4 with ⟨rfl, h5⟩ | ⟨rfl, h5⟩
          · rcases brec_some h5 with ⟨hs, h6⟩ | ⟨hs, h6⟩
            · rcases brec_some h6 with ⟨e3, h7⟩ | ⟨_, h7⟩
              · refine done kx a ky b _ hx hy ?_ h7
                simp only [if_true, shiftV, if_neg hneg, htn]
                have : Int.ofNat a * 2 ^ b = ((Nat.shiftLeft a b : Nat) : Int) := by
                  show (a : Int) * 2 ^ b = ((a <<< b : Nat) : Int)
                  rw [Nat.shiftLeft_eq]; simp
                rw [this, wrap_lim e3]
                rfl
              · exact slow h7
            · refine done kx a ky b _ hx hy ?_ h6
              simp only [if_true, shiftV, if_neg hneg, htn]
              have : Int.ofNat a * 2 ^ b = ((Nat.shiftLeft a b : Nat) : Int) := by
                show (a : Int) * 2 ^ b = ((a <<< b : Nat) : Int)
                rw [Nat.shiftLeft_eq]; simp
              rw [this, wrapU hs]
              rfl
          · refine done kx a ky b _ hx hy ?_ h5
            simp only [Bool.false_eq_true, if_false, shiftV, if_neg hneg, htn]
            have : Int.fdiv (Int.ofNat a) (2 ^ b) = ((Nat.shiftRight a b : Nat) : Int) := by
              show Int.fdiv (a : Int) (2 ^ b) = ((a >>> b : Nat) : Int)
              rw [Nat.shiftRight_eq_div_pow, Int.fdiv_eq_ediv_of_nonneg _ (Int.le_of_lt (Int.pow_pos (by decide)))]
              simp
            rw [this]
            rfl
        · exact slow h4
      · exact slow h3
    · exact slow h2
  · exact slow h1
theorem loadK_some {a : A} {h : AH} {k : V → AH → Res} {r : V × AH} (hr : loadK a h k = some r) : ∃ v, readN h a 1 = some [v] ∧ k v h = some r := by
  have e : loadK a h k = Option.rec (motive := fun _ => Res) none (fun b => Bool.rec (motive := fun _ => Res) none (Option.rec (motive := fun _ => Res) (Option.rec (motive := fun _ => Res) none (fun v => k v h) (b.cells.get a.o)) (fun v => k v h) (b.cells.t.get a.o))
      (Bool.rec (motive := fun _ => Bool) false (Bool.rec (motive := fun _ => Bool) false (Nat.ble (Nat.succ a.o) a.L) (Nat.ble a.L b.cells.n)) (Nat.ble b.minL a.L))) (h.get a.b) := by
    unfold loadK AH.get
    rw [T.get_getF]
    cases h.m.getF (Nat.succ a.b) with
    | none => rfl
    | some b => simp only [T.get_getF]
  rw [e] at hr
  rw [readN_eq]
  cases hb : h.get a.b with
  | none => rw [hb] at hr; cases hr
  | some b =>
    rw [hb] at hr
    simp only [Option.bind_some]
    rcases brec_some hr with ⟨e1, h1⟩ | ⟨_, h1⟩
    · have hc : b.minL ≤ a.L ∧ a.L ≤ b.cells.n ∧ a.o + 1 ≤ a.L := by
        cases q1 : Nat.ble b.minL a.L with
        | false => rw [q1] at e1; cases e1
        | true =>
          rw [q1] at e1
          cases q2 : Nat.ble a.L b.cells.n with
          | false => rw [q2] at e1; cases e1
          | true =>
            rw [q2] at e1
            exact ⟨Nat.le_of_ble_eq_true q1, Nat.le_of_ble_eq_true q2, Nat.le_of_ble_eq_true e1⟩
      rw [if_pos hc]
      have hget : ∃ v, b.cells.get a.o = some v ∧ k v h = some r := by
        cases hg : b.cells.t.get a.o with
        | some v =>
          rw [hg] at h1
          refine ⟨v, ?_, h1⟩
          rw [Arr.get_eq, if_pos (by omega), hg]
        | none =>
          rw [hg] at h1
          cases hg2 : b.cells.get a.o with
          | none => rw [hg2] at h1; cases h1
          | some v => rw [hg2] at h1; exact ⟨v, rfl, h1⟩
      obtain ⟨v, h2, h3⟩ := hget
      exact ⟨v, by rw [readL_succ, h2, readL_zero]; rfl, h3⟩
    · cases h1
theorem load_quick {c : Cfg} (hc : ∀ o, c.hint o = none) {yl q : Bool} {ds : List Nat} {t : TypeId} {x : Operand} {dsc : TypeDesc} (hu : c.P.underlying t = some dsc) (h1 : ∀ fs, dsc ≠ .struct fs) (h2 : ∀ n e, dsc ≠ .array n e) : Quick c yl q ds (.load t x) (xLoad c ds t x (.load t x)) := by
  intro d s f h k r hr
  unfold xLoad at hr
  rw [rdG_eq] at hr
  rcases ptrR_some hr with ⟨a, hx, h3⟩ | h3
  · obtain ⟨v, h4, h5⟩ := loadK_some h3
    refine ⟨v, h, ?_, h5⟩
    rw [stepX_sop hc rfl]
    show (absLoad c.P t (evX c ds s f x) h).map (fun v => (v, h)) = _
    rw [show evX c ds s f x = _ from hx]
    unfold absLoad
    simp only [hu]
    cases dsc <;> first | exact absurd rfl (h1 _) | exact absurd rfl (h2 _ _) | (simp only [h4]; rfl)
  · cases h3
theorem storeK_some {a : A} {v : V} {h : AH} {k : V → AH → Res} {r : V × AH} (hv : v.cell = true) (hr : storeK a v h k = some r) : ∃ h', writeN h a [v] = some h' ∧ k .bad h' = some r := by
  have e : storeK a v h k = Option.rec (motive := fun _ => Res) none (fun b => Bool.rec (motive := fun _ => Res) none (k .bad ⟨h.next, Nat.min h.low a.b, h.m.set a.b ⟨setL [v] a.o b.cells, a.L, b.fz, b.ro, b.e⟩⟩)
      (Bool.rec (motive := fun _ => Bool) false (Bool.rec (motive := fun _ => Bool) false (Bool.rec (motive := fun _ => Bool) false (Bool.rec (motive := fun _ => Bool) false (Bool.rec (motive := fun _ => Bool) true false b.ro) (Nat.ble (Nat.succ a.o) a.L)) (Nat.ble b.fz a.o)) (Nat.ble b.minL a.L)) (Nat.beq a.L b.cells.n))) (h.get a.b) := by
    obtain ⟨next, low, hm⟩ := h
    unfold storeK AH.get
    rw [T.get_getF]
    cases hq : hm.getF (Nat.succ a.b) with
    | none => simp only [hq]
    | some b =>
      obtain ⟨⟨n, z, t⟩, minL, fz, ro, e⟩ := b
      have h1 : setL [v] a.o (⟨n, z, t⟩ : Arr) = ⟨n, z, t.setF (Nat.succ a.o) v⟩ := by
        show ((⟨n, z, t⟩ : Arr).set a.o v : Arr) = _
        unfold Arr.set
        rw [T.set_setF]
      simp only [hq, T.set_setF, h1]
  rw [e] at hr
  cases hb : h.get a.b with
  | none => rw [hb] at hr; cases hr
  | some b =>
    rw [hb] at hr
    rcases brec_some hr with ⟨e1, h1⟩ | ⟨_, h1⟩
    · refine ⟨_, ?_, h1⟩
      have hw : writeN h a [v] = bif Nat.beq a.L b.cells.n && (Nat.ble b.minL a.L && (Nat.ble b.fz a.o && (Nat.ble (Nat.add a.o 1) a.L && ([v].all V.cell && not b.ro)))) then some ⟨h.next, Nat.min h.low a.b, h.m.set a.b ⟨setL [v] a.o b.cells, a.L, b.fz, b.ro, b.e⟩⟩ else none := by
        unfold writeN
        rw [hb]
        rfl
      rw [hw]
      have hall : [v].all V.cell = true := by simp [hv]
      rw [hall]
      cases q1 : Nat.beq a.L b.cells.n with
      | false => rw [q1] at e1; cases e1
      | true =>
        rw [q1] at e1
        cases q2 : Nat.ble b.minL a.L with
        | false => rw [q2] at e1; cases e1
        | true =>
          rw [q2] at e1
          cases q3 : Nat.ble b.fz a.o with
          | false => rw [q3] at e1; cases e1
          | true =>
            rw [q3] at e1
            cases q4 : Nat.ble (Nat.add a.o 1) a.L with
            | false => rw [show Nat.ble (Nat.succ a.o) a.L = false from q4] at e1; cases e1
            | true =>
              rw [show Nat.ble (Nat.succ a.o) a.L = true from q4] at e1
              cases q5 : b.ro with
              | true => rw [q5] at e1; cases e1
              | false => rfl
    · cases h1
theorem store_quick {c : Cfg} (hc : ∀ o, c.hint o = none) {yl q : Bool} {ds : List Nat} {t : TypeId} {x y : Operand} (ht : (c.P.info? t).isSome ∧ c.P.cellsOf t = 1) : Quick c yl q ds (.store t x y) (xStore c yl q ds t x y (.store t x y)) := by
  intro d s f h k r hr
  unfold xStore at hr
  rw [rdG_eq, rdG_eq] at hr
  rcases ptrR_some hr with ⟨a, hx, h3⟩ | h3
  · rcases brec_some h3 with ⟨e1, h4⟩ | ⟨_, h4⟩
    · obtain ⟨hcell, hcells⟩ := cellR_eq e1
      obtain ⟨h', h5, h6⟩ := storeK_some hcell h4
      refine ⟨.bad, h', ?_, h6⟩
      rw [stepX_sop hc rfl]
      show (absStore c.P t (evX c ds s f x) (evX c ds s f y) h).map (fun h' => (V.bad, h')) = _
      rw [show evX c ds s f x = _ from hx]
      unfold absStore
      simp only
      have hcells' : (evX c ds s f y).cells = [evX c ds s f y] := hcells
      rw [if_pos ⟨ht.1, by rw [hcells', ht.2]; rfl⟩, hcells']
      have h5' : writeN h a [evX c ds s f y] = some h' := h5
      rw [h5']; rfl
    · exact quick_slow c yl q ds _ d s f h k r h4
  · cases h3
theorem fieldAddr_quick {c : Cfg} (hc : ∀ o, c.hint o = none) {yl q : Bool} {ds : List Nat} {t : TypeId} {x : Operand} {fd : Nat} {fs : Array Field} {fl : Field} (hu : c.P.underlying t = some (.struct fs)) (hf : fs[fd]? = some fl) (hi : (c.P.info? fl.type).isSome ∧ c.P.cellsOf fl.type ≠ 0) : Quick c yl q ds (.fieldAddr t x fd) (xFieldAddr c ds fl.offset x (.fieldAddr t x fd)) := by
  intro d s f h k r hr
  unfold xFieldAddr at hr
  rw [rdG_eq] at hr
  rcases ptrR_some hr with ⟨a, hx, h3⟩ | h3
  · refine ⟨_, h, ?_, h3⟩
    rw [stepX_sop hc rfl]
    show (absFieldAddr c.P t (evX c ds s f x) fd).map (fun v => (v, h)) = _
    rw [show evX c ds s f x = _ from hx]
    unfold absFieldAddr
    simp only [hu, hf, if_pos hi]
    rfl
  · cases h3
theorem sliceAddr_quick {c : Cfg} (hc : ∀ o, c.hint o = none) {yl q : Bool} {ds : List Nat} {t e : TypeId} {x y : Operand} (hu : c.P.underlying t = some (.slice e)) (hi : (c.P.info? e).isSome) : Quick c yl q ds (.indexAddr t x y) (xSliceAddr c ds (c.P.cellsOf e) x y (.indexAddr t x y)) := by
  intro d s f h k r hr
  unfold xSliceAddr at hr
  rw [rdG_eq, rdG_eq] at hr
  rcases sliceR_some hr with ⟨a, n, cap, ex, zz, hx, h3⟩ | h3
  · rcases natR_some h3 with ⟨ky, i, hy, h4⟩ | h4
    · rcases brec_some h4 with ⟨e1, h5⟩ | ⟨_, h5⟩
      · refine ⟨_, h, ?_, h5⟩
        rw [stepX_sop hc rfl]
        show (absIndexAddr c.P t (evX c ds s f x) (evX c ds s f y)).map (fun v => (v, h)) = _
        rw [show evX c ds s f x = _ from hx, show evX c ds s f y = _ from hy]
        unfold absIndexAddr
        simp only [hu]
        rw [Arr.blt_eq] at e1
        have hlt : i < n := of_decide_eq_true e1
        rw [if_pos ⟨Int.natCast_nonneg i, by show (i : Int) < n; omega, hi⟩]
        rfl
      · cases h5
    · cases h4
  · cases h3
theorem arrayAddr_quick {c : Cfg} (hc : ∀ o, c.hint o = none) {yl q : Bool} {ds : List Nat} {t e : TypeId} {len : Nat} {x y : Operand} (hu : c.P.underlying t = some (.array len e)) (hi : (c.P.info? e).isSome) : Quick c yl q ds (.indexAddr t x y) (xArrayAddr c ds len (c.P.cellsOf e) x y (.indexAddr t x y)) := by
  intro d s f h k r hr
  unfold xArrayAddr at hr
  rw [rdG_eq, rdG_eq] at hr
  rcases ptrR_some hr with ⟨a, hx, h3⟩ | h3
  · rcases natR_some h3 with ⟨ky, i, hy, h4⟩ | h4
    · rcases brec_some h4 with ⟨e1, h5⟩ | ⟨_, h5⟩
      · refine ⟨_, h, ?_, h5⟩
        rw [stepX_sop hc rfl]
        show (absIndexAddr c.P t (evX c ds s f x) (evX c ds s f y)).map (fun v => (v, h)) = _
        rw [show evX c ds s f x = _ from hx, show evX c ds s f y = _ from hy]
        unfold absIndexAddr
        simp only [hu]
        rw [Arr.blt_eq] at e1
        have hlt : i < len := of_decide_eq_true e1
        rw [if_pos ⟨Int.natCast_nonneg i, by show (i : Int) < len; omega, hi⟩]
        rfl
      · cases h5
    · cases h4
  · cases h3
theorem xq_ok {c : Cfg} (hc : ∀ o, c.hint o = none) : OpsOK c (xq c) := by
  intro yl q ds o d s f h k r hr
  have slow : ∀ {o : Op}, xiRun (xi c yl q ds o) d s f h k = some r → ∃ v h', stepX c yl q o d (evX c ds s f) h = some (v, h') ∧ k v h' = some r := fun {o} hr => quick_slow c yl q ds o d s f h k r hr
  unfold xq at hr
  split at hr
  · exact move_quick hc (fun _ _ => rfl) rfl d s f h k r hr
  · exact move_quick hc (fun _ _ => rfl) rfl d s f h k r hr
  · split at hr
    · split at hr
      · exact shift_quick (left := true) hc d s f h k r hr
      · exact shift_quick (left := false) hc d s f h k r hr
      · exact bin_quick hc d s f h k r hr
    · exact slow hr
  · split at hr
    · exact slow hr
    · exact slow hr
    · exact slow hr
    · rename_i dsc h1 h2 hu
      exact load_quick hc hu (fun fs e => h1 fs e) (fun n e he => h2 n e he) d s f h k r hr
  · split at hr
    · rename_i ht; exact store_quick hc ht d s f h k r hr
    · exact slow hr
  · split at hr
    · rename_i fs hu
      split at hr
      · rename_i fl hf
        split at hr
        · rename_i hi; exact fieldAddr_quick hc hu hf hi d s f h k r hr
        · exact slow hr
      · exact slow hr
    · exact slow hr
  · split at hr
    · rename_i e hu
      split at hr
      · rename_i hi; exact sliceAddr_quick hc hu hi d s f h k r hr
      · exact slow hr
    · rename_i len e hu
      split at hr
      · rename_i hi; exact arrayAddr_quick hc hu hi d s f h k r hr
      · exact slow hr
    · exact slow hr
  · exact slow hr
end Go.Proofs.YtbchdbhojafpdaaGreatDoor.Ev
namespace Go.Proofs.YtbchdbhojafpdaaGreatDoor.Ev
open Go
mutual
def renV (s : Nat → Nat) : V → V
  | .bad => .bad
  | .bool b => .bool b
  | .int k n => .int k n
  | .str l => .str l
  | .ptr a => .ptr ⟨s a.b, a.L, a.o⟩
  | .nilptr => .nilptr
  | .slice a n c e z => .slice ⟨s a.b, a.L, a.o⟩ n c e z
  | .nilslice => .nilslice
  | .loose => .loose
  | .func f x y => .func f (renL s x) (renL s y)
  | .nilFunc => .nilFunc
  | .iface t v => .iface t (renV s v)
  | .nilIface => .nilIface
  | .agg x => .agg (renL s x)
  | .tuple x => .tuple (renL s x)
  | .mapv b => .mapv (s b)
  | .nilmap => .nilmap
  | .complex k a b => .complex k a b
  | .float k a => .float k a
  | .yield b => .yield (s b)
  | .rcd f ps a b => .rcd f ps a b
def renL (s : Nat → Nat) : List V → List V
  | [] => []
  | x :: xs => renV s x :: renL s xs
end
mutual
def belV (n : Nat) : V → Bool
  | .ptr a => Nat.blt a.b n
  | .slice a _ _ _ _ => Nat.blt a.b n
  | .func _ x y => belL n x && belL n y
  | .iface _ v => belV n v
  | .agg x => belL n x
  | .tuple x => belL n x
  | .mapv b => Nat.blt b n
  | .yield b => Nat.blt b n
  | _ => true
def belL (n : Nat) : List V → Bool
  | [] => true
  | x :: xs => belV n x && belL n xs
end
theorem blt_lt {a b : Nat} (h : Nat.blt a b = true) : a < b := by
  rw [Arr.blt_eq] at h
  exact of_decide_eq_true h
mutual
theorem R_ren {s : Nat → Nat} {ρ ρ' : Rho} (hs : ∀ b L x, ρ b L = some x → ρ' (s b) L = some x) : ∀ {v : V} {u : Value}, R ρ v u → R ρ' (renV s v) u
  | .bad, _, h => h
  | .bool _, _, h => h
  | .int _ _, _, h => h
  | .str _, _, h => h
  | .ptr _, _, ⟨c, h1, cb, sh, S, h2, h3⟩ => ⟨c, h1, cb, sh, S, hs _ _ _ h2, h3⟩
  | .nilptr, _, h => h
  | .slice .., _, ⟨cb, sh, S, cc, h1, h2, h3⟩ => ⟨cb, sh, S, cc, h1, hs _ _ _ h2, h3⟩
  | .nilslice, _, h => h
  | .loose, _, h => h
  | .func .., _, ⟨xs, ys, h1, h2, h3⟩ => ⟨xs, ys, h1, RL_ren hs h2, RL_ren hs h3⟩
  | .nilFunc, _, h => h
  | .iface .., _, ⟨y, h1, h2⟩ => ⟨y, h1, R_ren hs h2⟩
  | .nilIface, _, h => h
  | .agg _, _, ⟨xs, h1, h2⟩ => ⟨xs, h1, RL_ren hs h2⟩
  | .tuple _, _, ⟨xs, h1, h2⟩ => ⟨xs, h1, RL_ren hs h2⟩
  | .mapv _, _, ⟨cb, S, h1, h2⟩ => ⟨cb, S, h1, hs _ _ _ h2⟩
  | .nilmap, _, h => h
  | .complex .., _, h => h
  | .float .., _, h => h
  | .yield _, _, ⟨cb, S, h1, h2⟩ => ⟨cb, S, h1, hs _ _ _ h2⟩
  | .rcd .., _, h => h
theorem RL_ren {s : Nat → Nat} {ρ ρ' : Rho} (hs : ∀ b L x, ρ b L = some x → ρ' (s b) L = some x) : ∀ {l : List V} {us : List Value}, RL ρ l us → RL ρ' (renL s l) us
  | [], _, h => h
  | _ :: _, _, ⟨z, zs, h1, h2, h3⟩ => ⟨z, zs, h1, R_ren hs h2, RL_ren hs h3⟩
end
mutual
theorem R_unren {s : Nat → Nat} {n : Nat} {ρ ρ' : Rho} (hs : ∀ b L x, b < n → ρ' (s b) L = some x → ρ b L = some x) : ∀ {v : V} {u : Value}, belV n v = true → R ρ' (renV s v) u → R ρ v u
  | .bad, _, _, h => h
  | .bool _, _, _, h => h
  | .int _ _, _, _, h => h
  | .str _, _, _, h => h
  | .ptr _, _, hb, ⟨c, h1, cb, sh, S, h2, h3⟩ => ⟨c, h1, cb, sh, S, hs _ _ _ (blt_lt hb) h2, h3⟩
  | .nilptr, _, _, h => h
  | .slice .., _, hb, ⟨cb, sh, S, cc, h1, h2, h3⟩ => ⟨cb, sh, S, cc, h1, hs _ _ _ (blt_lt hb) h2, h3⟩
  | .nilslice, _, _, h => h
  | .loose, _, _, h => h
  | .func .., _, hb, ⟨xs, ys, h1, h2, h3⟩ => ⟨xs, ys, h1, RL_unren hs (Bool.and_eq_true_iff.1 hb).1 h2, RL_unren hs (Bool.and_eq_true_iff.1 hb).2 h3⟩
  | .nilFunc, _, _, h => h
  | .iface .., _, hb, ⟨y, h1, h2⟩ => ⟨y, h1, R_unren hs hb h2⟩
  | .nilIface, _, _, h => h
  | .agg _, _, hb, ⟨xs, h1, h2⟩ => ⟨xs, h1, RL_unren hs hb h2⟩
  | .tuple _, _, hb, ⟨xs, h1, h2⟩ => ⟨xs, h1, RL_unren hs hb h2⟩
  | .mapv _, _, hb, ⟨cb, S, h1, h2⟩ => ⟨cb, S, h1, hs _ _ _ (blt_lt hb) h2⟩
  | .nilmap, _, _, h => h
  | .complex .., _, _, h => h
  | .float .., _, _, h => h
  | .yield _, _, hb, ⟨cb, S, h1, h2⟩ => ⟨cb, S, h1, hs _ _ _ (blt_lt hb) h2⟩
  | .rcd .., _, _, h => h
theorem RL_unren {s : Nat → Nat} {n : Nat} {ρ ρ' : Rho} (hs : ∀ b L x, b < n → ρ' (s b) L = some x → ρ b L = some x) : ∀ {l : List V} {us : List Value}, belL n l = true → RL ρ' (renL s l) us → RL ρ l us
  | [], _, _, h => h
  | _ :: _, _, hb, ⟨z, zs, h1, h2, h3⟩ => ⟨z, zs, h1, R_unren hs (Bool.and_eq_true_iff.1 hb).1 h2, RL_unren hs (Bool.and_eq_true_iff.1 hb).2 h3⟩
end
mutual
theorem ren_id {s : Nat → Nat} {m : Nat} (hs : ∀ b, b < m → s b = b) : ∀ (v : V), belV m v = true → renV s v = v
  | .bad, _ => rfl
  | .bool _, _ => rfl
  | .int _ _, _ => rfl
  | .str _, _ => rfl
  | .ptr a, hb => by show V.ptr ⟨s a.b, a.L, a.o⟩ = _; rw [hs _ (blt_lt hb)]
  | .nilptr, _ => rfl
  | .slice a n c e z, hb => by show V.slice ⟨s a.b, a.L, a.o⟩ n c e z = _; rw [hs _ (blt_lt hb)]
  | .nilslice, _ => rfl
  | .loose, _ => rfl
  | .func f x y, hb => by show V.func f (renL s x) (renL s y) = _; rw [renL_id hs x (Bool.and_eq_true_iff.1 hb).1, renL_id hs y (Bool.and_eq_true_iff.1 hb).2]
  | .nilFunc, _ => rfl
  | .iface t v, hb => by show V.iface t (renV s v) = _; rw [ren_id hs v hb]
  | .nilIface, _ => rfl
  | .agg x, hb => by show V.agg (renL s x) = _; rw [renL_id hs x hb]
  | .tuple x, hb => by show V.tuple (renL s x) = _; rw [renL_id hs x hb]
  | .mapv b, hb => by show V.mapv (s b) = _; rw [hs _ (blt_lt hb)]
  | .nilmap, _ => rfl
  | .complex .., _ => rfl
  | .float .., _ => rfl
  | .yield b, hb => by show V.yield (s b) = _; rw [hs _ (blt_lt hb)]
  | .rcd .., _ => rfl
theorem renL_id {s : Nat → Nat} {m : Nat} (hs : ∀ b, b < m → s b = b) : ∀ (l : List V), belL m l = true → renL s l = l
  | [], _ => rfl
  | x :: xs, hb => by show renV s x :: renL s xs = _; rw [ren_id hs x (Bool.and_eq_true_iff.1 hb).1, renL_id hs xs (Bool.and_eq_true_iff.1 hb).2]
end
mutual
theorem ren_self : ∀ v : V, renV (fun b => b) v = v
  | .bad | .bool _ | .int _ _ | .str _ | .ptr _ | .nilptr | .slice .. | .nilslice | .loose | .nilFunc | .nilIface | .mapv _ | .nilmap | .complex .. | .float .. | .yield _ | .rcd .. => rfl
  | .func f x y => by show V.func f (renL _ x) (renL _ y) = _; rw [renL_self x, renL_self y]
  | .iface t v => by show V.iface t (renV _ v) = _; rw [ren_self v]
  | .agg x => by show V.agg (renL _ x) = _; rw [renL_self x]
  | .tuple x => by show V.tuple (renL _ x) = _; rw [renL_self x]
theorem renL_self : ∀ l : List V, renL (fun b => b) l = l
  | [] => rfl
  | x :: xs => by show renV _ x :: renL _ xs = _; rw [ren_self x, renL_self xs]
end
theorem renL_map (s : Nat → Nat) : ∀ l : List V, renL s l = l.map (renV s)
  | [] => rfl
  | x :: xs => by show renV s x :: renL s xs = _; rw [renL_map s xs]; rfl
theorem belL_mem {n : Nat} : ∀ {l : List V}, belL n l = true → ∀ v ∈ l, belV n v = true
  | [], _, v, hv => by cases hv
  | x :: xs, hb, v, hv => by
    rcases List.mem_cons.1 hv with rfl | hv
    · exact (Bool.and_eq_true_iff.1 hb).1
    · exact belL_mem (Bool.and_eq_true_iff.1 hb).2 v hv
mutual
def eqvV (s : Nat → Nat) : V → V → Bool
  | .bad, .bad => true
  | .bool a, .bool b => a == b
  | .int k a, .int j b => k == j && a == b
  | .str a, .str b => a == b
  | .ptr a, .ptr b => alikeA ⟨s a.b, a.L, a.o⟩ b
  | .nilptr, .nilptr => true
  | .slice a n c e z, .slice a' n' c' e' z' => alikeA ⟨s a.b, a.L, a.o⟩ a' && (Nat.beq n n' && (Nat.beq c c' && (e == e' && Nat.beq z z')))
  | .nilslice, .nilslice => true
  | .loose, .loose => true
  | .func f x y, .func f' x' y' => Nat.beq f f' && (eqvL s x x' && eqvL s y y')
  | .nilFunc, .nilFunc => true
  | .iface t x, .iface t' x' => Nat.beq t t' && eqvV s x x'
  | .nilIface, .nilIface => true
  | .agg x, .agg x' => eqvL s x x'
  | .tuple x, .tuple x' => eqvL s x x'
  | .mapv b, .mapv b' => Nat.beq (s b) b'
  | .nilmap, .nilmap => true
  | .complex k a b, .complex k' a' b' => decide (k = k') && (Nat.beq a a' && Nat.beq b b')
  | .float k a, .float k' a' => decide (k = k') && Nat.beq a a'
  | _, _ => false
def eqvL (s : Nat → Nat) : List V → List V → Bool
  | [], [] => true
  | x :: xs, y :: ys => eqvV s x y && eqvL s xs ys
  | _, _ => false
end
mutual
theorem eqvV_eq {s : Nat → Nat} : ∀ (x y : V), eqvV s x y = true → y = renV s x
  | .bad, y, h => by cases y <;> first | rfl | (simp [eqvV] at h; done)
  | .bool a, y, h => by cases y <;> first | (simp [eqvV] at h; done) | (simp only [eqvV, beq_iff_eq] at h; rw [h]; rfl)
  | .int k a, y, h => by cases y <;> first | (simp [eqvV] at h; done) | (simp only [eqvV, Bool.and_eq_true, beq_iff_eq] at h; rw [h.1, h.2]; rfl)
  | .str a, y, h => by cases y <;> first | (simp [eqvV] at h; done) | (simp only [eqvV, beq_iff_eq] at h; rw [h]; rfl)
  | .ptr a, y, h => by cases y <;> first | (simp [eqvV] at h; done) | (simp only [eqvV] at h; rw [← alikeA_eq h]; rfl)
  | .nilptr, y, h => by cases y <;> first | rfl | (simp [eqvV] at h; done)
  | .slice a n c e z, y, h => by cases y <;> first | (simp [eqvV] at h; done) | (simp only [eqvV, Bool.and_eq_true, Nat.beq_eq, beq_iff_eq] at h; rw [← alikeA_eq h.1, ← h.2.1, ← h.2.2.1, ← h.2.2.2.1, ← h.2.2.2.2]; rfl)
  | .nilslice, y, h => by cases y <;> first | rfl | (simp [eqvV] at h; done)
  | .loose, y, h => by cases y <;> first | rfl | (simp [eqvV] at h; done)
  | .func f x z, y, h => by cases y <;> first | (simp [eqvV] at h; done) | (simp only [eqvV, Bool.and_eq_true, Nat.beq_eq] at h; rw [← h.1, eqvL_eq x _ h.2.1, eqvL_eq z _ h.2.2]; rfl)
  | .nilFunc, y, h => by cases y <;> first | rfl | (simp [eqvV] at h; done)
  | .iface t x, y, h => by cases y <;> first | (simp [eqvV] at h; done) | (simp only [eqvV, Bool.and_eq_true, Nat.beq_eq] at h; rw [← h.1, eqvV_eq x _ h.2]; rfl)
  | .nilIface, y, h => by cases y <;> first | rfl | (simp [eqvV] at h; done)
  | .agg x, y, h => by cases y <;> first | (simp [eqvV] at h; done) | (simp only [eqvV] at h; rw [eqvL_eq x _ h]; rfl)
  | .tuple x, y, h => by cases y <;> first | (simp [eqvV] at h; done) | (simp only [eqvV] at h; rw [eqvL_eq x _ h]; rfl)
  | .mapv b, y, h => by cases y <;> first | (simp [eqvV] at h; done) | (simp only [eqvV, Nat.beq_eq] at h; rw [← h]; rfl)
  | .nilmap, y, h => by cases y <;> first | rfl | (simp [eqvV] at h; done)
  | .complex .., y, h => by cases y <;> first | (simp [eqvV] at h; done) | (simp only [eqvV, Bool.and_eq_true, Nat.beq_eq, decide_eq_true_eq] at h; rw [h.1, h.2.1, h.2.2]; rfl)
  | .float .., y, h => by cases y <;> first | (simp [eqvV] at h; done) | (simp only [eqvV, Bool.and_eq_true, Nat.beq_eq, decide_eq_true_eq] at h; rw [h.1, h.2]; rfl)
  | .yield _, y, h => by cases y <;> (simp [eqvV] at h; done)
  | .rcd .., y, h => by cases y <;> (simp [eqvV] at h; done)
theorem eqvL_eq {s : Nat → Nat} : ∀ (x y : List V), eqvL s x y = true → y = renL s x
  | [], y, h => by cases y <;> first | rfl | (simp [eqvL] at h; done)
  | x :: xs, y, h => by
    cases y with
    | nil => simp [eqvL] at h
    | cons y ys =>
      simp only [eqvL, Bool.and_eq_true] at h
      rw [eqvV_eq x y h.1, eqvL_eq xs ys h.2]
      rfl
end
noncomputable def renT (s : Nat → Nat) : T V → T V := T.rec .leaf (fun _ v _ l r => .node l (Option.rec none (fun x => some (renV s x)) v) r)
theorem renT_getP (s : Nat → Nat) (p : List Bool) : ∀ t : T V, T.getP p (renT s t) = (T.getP p t).map (renV s) := by
  induction p with
  | nil => intro t; cases t with
    | leaf => rfl
    | node l v r => cases v <;> rfl
  | cons b p ih => intro t; cases t with
    | leaf => rfl
    | node l v r =>
      show T.getP (b :: p) (.node (renT s l) _ (renT s r)) = _
      rw [T.getP_cons, T.getP_cons]
      cases b
      · exact ih l
      · exact ih r
theorem renT_get (s : Nat → Nat) (t : T V) (i : Nat) : (renT s t).get i = (t.get i).map (renV s) := renT_getP s _ t
noncomputable def renB (s : Nat → Nat) (k : Blk) : Blk := ⟨⟨k.cells.n, renL s k.cells.z, renT s k.cells.t⟩, k.minL, k.fz, k.ro, k.e⟩
structure MB (s : Nat → Nat) (k k' : Blk) : Prop where
  n : k'.cells.n = k.cells.n
  minL : k'.minL = k.minL
  fz : k'.fz = k.fz
  ro : k'.ro = k.ro
  e : k'.e = k.e
  get : ∀ j, k'.cells.get j = (k.cells.get j).map (renV s)
  obj : k.IsObj → k'.cells.z = renL s k.cells.z
theorem MB.isObj {s : Nat → Nat} {k k' : Blk} (h : MB s k k') : k'.IsObj ↔ k.IsObj := by
  unfold Blk.IsObj
  rw [h.n, h.minL]
theorem arr_ren {s : Nat → Nat} {a a' : Arr} (hn : a'.n = a.n) (hz : a'.z = renL s a.z) (ht : ∀ i, a'.t.get i = (a.t.get i).map (renV s)) (j : Nat) : a'.get j = (a.get j).map (renV s) := by
  rw [Arr.get_eq, Arr.get_eq, hn, ht, hz, renL_map]
  by_cases h : j < a.n
  · rw [if_pos h, if_pos h]
    cases a.t.get j with
    | none => simp
    | some v => rfl
  · rw [if_neg h, if_neg h]; rfl
theorem MB.ren (s : Nat → Nat) (k : Blk) : MB s k (renB s k) := ⟨rfl, rfl, rfl, rfl, rfl, arr_ren rfl rfl (renT_get s _), fun _ => rfl⟩
def sameO (s : Nat → Nat) : Option V → Option V → Bool
  | none, none => true
  | some a, some b => eqvV s a b
  | _, _ => false
theorem sameO_eq {s : Nat → Nat} {a b : Option V} (h : sameO s a b = true) : b = a.map (renV s) := by
  cases a <;> cases b <;> first | rfl | (cases h; done) | (rw [eqvV_eq _ _ h]; rfl)
def sameT (s : Nat → Nat) : T V → T V → Bool
  | .leaf, .leaf => true
  | .node l v r, .node l' v' r' => sameO s v v' && (sameT s l l' && sameT s r r')
  | _, _ => false
theorem sameT_get {s : Nat → Nat} : ∀ (x y : T V), sameT s x y = true → ∀ i, y.get i = (x.get i).map (renV s) := by
  have key : ∀ (x y : T V), sameT s x y = true → y = renT s x := by
    intro x
    induction x with
    | leaf => intro y h; cases y with
      | leaf => rfl
      | node => cases h
    | node l v r ihl ihr =>
      intro y h
      cases y with
      | leaf => cases h
      | node l' v' r' =>
        simp only [sameT, Bool.and_eq_true] at h
        rw [ihl l' h.2.1, ihr r' h.2.2, sameO_eq h.1]
        cases v <;> rfl
  intro x y h i
  rw [key x y h]
  exact renT_get s x i
noncomputable def sameC (s : Nat → Nat) (a a' : Arr) : Nat → Bool := Nat.rec true (fun j ih => Bool.rec false ih (sameO s (a.get j) (a'.get j)))
theorem sameC_spec {s : Nat → Nat} {a a' : Arr} : ∀ {n : Nat}, sameC s a a' n = true → ∀ j, j < n → a'.get j = (a.get j).map (renV s) := by
  intro n
  induction n with
  | zero => intro _ j hj; omega
  | succ n ih =>
    intro h j hj
    have e : sameC s a a' (n + 1) = Bool.rec (motive := fun _ => Bool) false (sameC s a a' n) (sameO s (a.get n) (a'.get n)) := rfl
    rw [e] at h
    cases hb : sameO s (a.get n) (a'.get n) with
    | false => rw [hb] at h; cases h
    | true =>
      rw [hb] at h
      by_cases hj' : j = n
      · subst hj'; exact sameO_eq hb
      · exact ih h j (by omega)
noncomputable def sameB (s : Nat → Nat) (k k' : Blk) : Bool :=
  Nat.beq k.cells.n k'.cells.n && (Nat.beq k.minL k'.minL && (Nat.beq k.fz k'.fz && (k.ro == k'.ro && (Nat.beq k.e k'.e &&
    (Bool.rec (Bool.rec (sameC s k.cells k'.cells k.cells.n) false (Nat.beq k.cells.n 0 && Nat.beq k.minL 2)) true (eqvL s k.cells.z k'.cells.z && sameT s k.cells.t k'.cells.t))))))
theorem sameB_spec {s : Nat → Nat} {k k' : Blk} (h : sameB s k k' = true) : MB s k k' := by
  unfold sameB at h
  simp only [Bool.and_eq_true, Nat.beq_eq, beq_iff_eq] at h
  obtain ⟨h1, h2, h3, h4, h5, h6⟩ := h
  cases hq : (eqvL s k.cells.z k'.cells.z && sameT s k.cells.t k'.cells.t) with
  | true =>
    rw [Bool.and_eq_true] at hq
    exact ⟨h1.symm, h2.symm, h3.symm, h4.symm, h5.symm, arr_ren h1.symm (eqvL_eq _ _ hq.1) (sameT_get _ _ hq.2), fun _ => eqvL_eq _ _ hq.1⟩
  | false =>
    rw [hq] at h6
    cases hn : (Nat.beq k.cells.n 0 && Nat.beq k.minL 2) with
    | true => rw [hn] at h6; cases h6
    | false =>
      rw [hn] at h6
      refine ⟨h1.symm, h2.symm, h3.symm, h4.symm, h5.symm, fun j => ?_, fun ho => ?_⟩
      · by_cases hj : j < k.cells.n
        · exact sameC_spec h6 j hj
        · rw [Arr.get_eq, Arr.get_eq, if_neg (by omega), if_neg hj]; rfl
      · unfold Blk.IsObj at ho
        rw [ho.1, ho.2] at hn
        cases hn
def belO (n : Nat) : Option V → Bool
  | none => true
  | some v => belV n v
noncomputable def belT (n : Nat) : T V → Bool := T.rec true (fun _ v _ l r => Bool.rec false (Bool.rec false r l) (belO n v))
theorem belT_get {n : Nat} {t : T V} (h : belT n t = true) (i : Nat) {v : V} (hv : t.get i = some v) : belV n v = true := by
  have key : ∀ (p : List Bool) (t : T V), belT n t = true → ∀ v, T.getP p t = some v → belV n v = true := by
    intro p
    induction p with
    | nil => intro t h v hv; cases t with
      | leaf => cases hv
      | node l w r =>
        have hv' : w = some v := hv
        subst hv'
        have e : belT n (.node l (some v) r) = Bool.rec (motive := fun _ => Bool) false (Bool.rec (motive := fun _ => Bool) false (belT n r) (belT n l)) (belV n v) := rfl
        rw [e] at h
        cases hb : belV n v with
        | true => rfl
        | false => rw [hb] at h; cases h
    | cons b p ih => intro t h v hv; cases t with
      | leaf => rw [T.getP_leaf] at hv; cases hv
      | node l w r =>
        have e : belT n (.node l w r) = Bool.rec (motive := fun _ => Bool) false (Bool.rec (motive := fun _ => Bool) false (belT n r) (belT n l)) (belO n w) := rfl
        rw [e] at h
        cases hb : belO n w with
        | false => rw [hb] at h; cases h
        | true =>
          rw [hb] at h
          cases hl : belT n l with
          | false => rw [hl] at h; cases h
          | true =>
            rw [hl] at h
            rw [T.getP_cons] at hv
            cases b
            · exact ih l hl v hv
            · exact ih r h v hv
  exact key _ t h v hv
noncomputable def belR (n : Nat) (a : Arr) : Bool := belL n a.z && belT n a.t
theorem belR_get {n : Nat} {a : Arr} (h : belR n a = true) {j : Nat} {v : V} (hv : a.get j = some v) : belV n v = true := by
  unfold belR at h
  rw [Bool.and_eq_true] at h
  rw [Arr.get_eq] at hv
  by_cases hj : j < a.n
  · rw [if_pos hj] at hv
    cases ht : a.t.get j with
    | none => rw [ht] at hv; exact belL_mem h.1 v (List.mem_of_getElem? hv)
    | some x => rw [ht] at hv; cases hv; exact belT_get h.2 j ht
  · rw [if_neg hj] at hv; cases hv
theorem MB.of_self {s : Nat → Nat} {k k1 k' : Blk} (a : MB (fun b => b) k k1) (h : MB s k k') : MB s k1 k' := by
  refine ⟨by rw [h.n, a.n], by rw [h.minL, a.minL], by rw [h.fz, a.fz], by rw [h.ro, a.ro], by rw [h.e, a.e], fun j => ?_, fun ho => ?_⟩
  · rw [h.get, a.get]
    cases k.cells.get j with
    | none => rfl
    | some v => show some _ = some (renV s (renV _ v)); rw [ren_self]
  · rw [h.obj (a.isObj.1 ho), a.obj (a.isObj.1 ho), renL_self]
def tagB (k : Blk) : Bool := Nat.beq k.e 0 || !(Nat.beq k.cells.n 0 && Nat.beq k.minL 2)
theorem tagB_spec {k : Blk} (h : tagB k = true) (ho : k.IsObj) : k.e = 0 := by
  unfold tagB at h
  unfold Blk.IsObj at ho
  rw [ho.1, ho.2] at h
  simpa using h
theorem MB.tag {s : Nat → Nat} {k k' : Blk} (h : MB s k k') (ht : tagB k = true) : tagB k' = true := by
  unfold tagB at ht ⊢
  rw [h.e, h.n, h.minL]
  exact ht
noncomputable def cutS (m : Nat) (c : Cut) : Bool :=
  Nat.ble m c.next && (belL c.next c.args && (c.needs.all (fun p => Nat.blt p.1 c.next && (belR c.next p.2.cells && tagB p.2)) && (c.tabs.all (fun p => Nat.blt p.1 m && belR m p.2) && c.outs.all (fun p => tagB p.2))))
noncomputable def nthN : List Nat → Nat → Nat := List.rec (fun _ => 0) (fun a _ ih i => Nat.rec a (fun i _ => ih i) i)
theorem nthN_eq : ∀ (l : List Nat) (i : Nat), nthN l i = l.getD i 0
  | [], i => by simp [nthN]
  | a :: l, 0 => rfl
  | a :: l, i + 1 => by
    show nthN l i = _
    rw [nthN_eq l i]; rfl
noncomputable def numF (m n : Nat) (sg : List Nat) (nx b : Nat) : Nat := bif Nat.blt b m then b else bif Nat.blt b n then nthN sg (Nat.sub b m) else Nat.add nx (Nat.sub b n)
noncomputable def lowF (s : Nat → Nat) (n : Nat) (l : List (Nat × Blk)) (low : Nat) : Nat := List.rec low (fun p _ ih => bif Nat.blt p.1 n then Nat.min ih (s p.1) else ih) l
def distinct : List Nat → Bool
  | [] => true
  | a :: l => !(l.any fun b => Nat.beq a b) && distinct l
noncomputable def needOK (s : Nat → Nat) (h : AH) (p : Nat × Blk) : Bool := Option.rec false (fun k => sameB s p.2 k) (h.get (s p.1))
noncomputable def needsOK (s : Nat → Nat) (h : AH) (l : List (Nat × Blk)) : Bool := List.rec true (fun p _ ih => Bool.rec false ih (needOK s h p)) l
noncomputable def endS (c : Cut) (r : Res) : Bool := Option.rec false (fun p => alikeV p.1 c.v && (Nat.beq p.2.next c.next' && (Nat.ble c.lw p.2.low && needsOK (fun b => b) p.2 c.outs))) r
noncomputable def memB (E : XEnv) (n : Nat) (c : Cut) (es : Nat → Nat) : Bool := Option.rec false (fun q => ((c.all es).all fun p => Nat.blt p.1 c.lw || (inL p.1 c.outs || needOK (fun b => b) q.2 p)) && endS c (some q)) (xFn E (xD E n) c.f c.args (c.h0 es))
theorem memB_spec {E : XEnv} {n : Nat} {c : Cut} {es : Nat → Nat} (h : memB E n c es = true) : endS c (xFn E (xD E n) c.f c.args (c.h0 es)) = true ∧ ∀ q, xFn E (xD E n) c.f c.args (c.h0 es) = some q → ((c.all es).all fun p => Nat.blt p.1 c.lw || (inL p.1 c.outs || needOK (fun b => b) q.2 p)) = true := by
  unfold memB at h
  cases hx : xFn E (xD E n) c.f c.args (c.h0 es) with
  | none => rw [hx] at h; cases h
  | some q =>
    rw [hx] at h
    have h' : (((c.all es).all fun p => Nat.blt p.1 c.lw || (inL p.1 c.outs || needOK (fun b => b) q.2 p)) && endS c (some q)) = true := h
    rw [Bool.and_eq_true] at h'
    exact ⟨h'.2, fun q' hq => by cases hq; exact h'.1⟩
noncomputable def renO (s : Nat → Nat) (l : List (Nat × Blk)) : List (Nat × Blk) := List.rec [] (fun p _ ih => (s p.1, renB s p.2) :: ih) l
noncomputable def memoS (m : Nat) (c : Cut) (sg : List Nat) (args : List V) (h : AH) : Option (V × AH) :=
  (fun s => Bool.rec none (some (renV s c.v, ⟨Nat.add h.next (Nat.sub c.next' c.next), lowF s c.next c.outs h.low, setsB (renO s c.outs) h.m⟩))
    (eqvL s c.args args && (Nat.beq sg.length (Nat.sub c.next m) && (distinct sg && (sg.all (fun b => Nat.ble m b && Nat.blt b h.next) && (Nat.ble m h.next && (needsOK s h c.needs && allR h c.tabs)))))))
  (numF m c.next sg h.next)
section
variable {m : Nat} {c : Cut} {sg : List Nat} {nx : Nat}
theorem numF_lo {b : Nat} (hb : b < m) : numF m c.next sg nx b = b := by
  unfold numF; rw [Arr.blt_eq, decide_eq_true hb]; rfl
theorem numF_mid {b : Nat} (h1 : m ≤ b) (h2 : b < c.next) : numF m c.next sg nx b = sg.getD (b - m) 0 := by
  unfold numF
  rw [Arr.blt_eq, Arr.blt_eq, decide_eq_false (by omega), decide_eq_true h2]
  exact nthN_eq _ _
theorem numF_hi {b : Nat} (h0 : m ≤ c.next) (h1 : c.next ≤ b) : numF m c.next sg nx b = nx + (b - c.next) := by
  unfold numF
  rw [Arr.blt_eq, Arr.blt_eq, decide_eq_false (by omega), decide_eq_false (by omega)]
  rfl
theorem distinct_inj : ∀ {l : List Nat}, distinct l = true → ∀ i j, i < l.length → j < l.length → l.getD i 0 = l.getD j 0 → i = j := by
  intro l
  induction l with
  | nil => intro _ i j hi; cases hi
  | cons a l ih =>
    intro h i j hi hj he
    simp only [distinct, Bool.and_eq_true, Bool.not_eq_true', List.any_eq_false, Nat.beq_eq] at h
    obtain ⟨h1, h2⟩ := h
    cases i with
    | zero =>
      cases j with
      | zero => rfl
      | succ j =>
        exfalso
        simp only [List.getD_cons_zero, List.getD_cons_succ] at he
        simp only [List.length_cons] at hj
        exact h1 _ (List.getElem_mem (show j < l.length by omega)) (by rw [he]; simp [show j < l.length by omega])
    | succ i =>
      cases j with
      | zero =>
        exfalso
        simp only [List.getD_cons_zero, List.getD_cons_succ] at he
        simp only [List.length_cons] at hi
        exact h1 _ (List.getElem_mem (show i < l.length by omega)) (by rw [← he]; simp [show i < l.length by omega])
      | succ j =>
        simp only [List.getD_cons_succ] at he
        simp only [List.length_cons] at hi hj
        rw [ih h2 i j (by omega) (by omega) he]
structure NumOK (m n : Nat) (nx : Nat) (s : Nat → Nat) : Prop where
  le : m ≤ n
  nxle : m ≤ nx
  lo : ∀ b, b < m → s b = b
  mid : ∀ b, m ≤ b → b < n → m ≤ s b ∧ s b < nx
  hi : ∀ b, n ≤ b → s b = nx + (b - n)
  inj : ∀ a b, s a = s b → a = b
theorem numOK (h0 : m ≤ c.next) (h1 : sg.length = c.next - m) (h2 : distinct sg = true) (h3 : ∀ b ∈ sg, m ≤ b ∧ b < nx) (h4 : m ≤ nx) : NumOK m c.next nx (numF m c.next sg nx) := by
  have mid : ∀ b, m ≤ b → b < c.next → m ≤ numF m c.next sg nx b ∧ numF m c.next sg nx b < nx := fun b ha hb => by
    rw [numF_mid ha hb]
    have hlt : b - m < sg.length := by omega
    have : sg.getD (b - m) 0 = sg[b - m] := by simp [hlt]
    rw [this]
    exact h3 _ (List.getElem_mem hlt)
  refine ⟨h0, h4, fun b => numF_lo, mid, fun b => numF_hi h0, fun a b he => ?_⟩
  by_cases ha : a < m
  · rw [numF_lo ha] at he
    by_cases hb : b < m
    · rwa [numF_lo hb] at he
    · by_cases hb2 : b < c.next
      · have := mid b (by omega) hb2; omega
      · rw [numF_hi h0 (by omega)] at he; omega
  · by_cases ha2 : a < c.next
    · have hm := mid a (by omega) ha2
      by_cases hb : b < m
      · rw [numF_lo hb] at he; omega
      · by_cases hb2 : b < c.next
        · rw [numF_mid (by omega) ha2, numF_mid (by omega) hb2] at he
          have := distinct_inj h2 (a - m) (b - m) (by omega) (by omega) he
          omega
        · rw [numF_hi h0 (show c.next ≤ b by omega)] at he; omega
    · rw [numF_hi h0 (show c.next ≤ a by omega)] at he
      by_cases hb : b < m
      · rw [numF_lo hb] at he; omega
      · by_cases hb2 : b < c.next
        · have := mid b (by omega) hb2; omega
        · rw [numF_hi h0 (show c.next ≤ b by omega)] at he; omega
end
theorem lowF_le (s : Nat → Nat) (n : Nat) (l : List (Nat × Blk)) (low : Nat) : lowF s n l low ≤ low ∧ ∀ p ∈ l, p.1 < n → lowF s n l low ≤ s p.1 := by
  induction l with
  | nil => exact ⟨Nat.le_refl _, fun p hp => by cases hp⟩
  | cons q l ih =>
    have e : lowF s n (q :: l) low = bif Nat.blt q.1 n then Nat.min (lowF s n l low) (s q.1) else lowF s n l low := rfl
    rw [e, Arr.blt_eq]
    by_cases hq : q.1 < n
    · rw [decide_eq_true hq]
      refine ⟨Nat.le_trans (Nat.min_le_left _ _) ih.1, fun p hp hlt => ?_⟩
      rcases List.mem_cons.1 hp with rfl | hp
      · exact Nat.min_le_right _ _
      · exact Nat.le_trans (Nat.min_le_left _ _) (ih.2 p hp hlt)
    · rw [decide_eq_false hq]
      refine ⟨ih.1, fun p hp hlt => ?_⟩
      rcases List.mem_cons.1 hp with rfl | hp
      · exact absurd hlt hq
      · exact ih.2 p hp hlt
theorem needsOK_spec {s : Nat → Nat} {h : AH} : ∀ {l : List (Nat × Blk)}, needsOK s h l = true → ∀ p ∈ l, ∃ k, h.get (s p.1) = some k ∧ MB s p.2 k := by
  intro l
  induction l with
  | nil => intro _ p hp; cases hp
  | cons q l ih =>
    intro hl p hp
    have e : needsOK s h (q :: l) = Bool.rec (motive := fun _ => Bool) false (needsOK s h l) (needOK s h q) := rfl
    rw [e] at hl
    cases hq : needOK s h q with
    | false => rw [hq] at hl; cases hl
    | true =>
      rw [hq] at hl
      rcases List.mem_cons.1 hp with rfl | hp
      · unfold needOK at hq
        cases hg : h.get (s p.1) with
        | none => rw [hg] at hq; cases hq
        | some k => rw [hg] at hq; exact ⟨k, rfl, sameB_spec hq⟩
      · exact ih hl p hp
theorem renO_mem {s : Nat → Nat} : ∀ {l : List (Nat × Blk)} {b : Nat} {k : Blk}, (b, k) ∈ renO s l → ∃ b0 k0, (b0, k0) ∈ l ∧ b = s b0 ∧ k = renB s k0 := by
  intro l
  induction l with
  | nil => intro b k h; cases h
  | cons p l ih =>
    intro b k h
    have e : renO s (p :: l) = (s p.1, renB s p.2) :: renO s l := rfl
    rw [e] at h
    rcases List.mem_cons.1 h with h | h
    · cases h; exact ⟨p.1, p.2, by simp, rfl, rfl⟩
    · obtain ⟨b0, k0, h1, h2⟩ := ih h
      exact ⟨b0, k0, by simp [h1], h2⟩
theorem renO_in {s : Nat → Nat} : ∀ {l : List (Nat × Blk)} {b : Nat} {k : Blk}, (b, k) ∈ l → inL (s b) (renO s l) = true := by
  intro l
  induction l with
  | nil => intro b k h; cases h
  | cons p l ih =>
    intro b k h
    have e : renO s (p :: l) = (s p.1, renB s p.2) :: renO s l := rfl
    rw [e]
    unfold inL
    rw [List.any_cons]
    rcases List.mem_cons.1 h with h | h
    · cases h; simp
    · rw [show (renO s l).any (fun p => Nat.beq p.1 (s b)) = true from ih h, Bool.or_true]
theorem ObjOK.ren {s : Nat → Nat} {ρ ρ' : Rho} (hs : ∀ b L x, ρ b L = some x → ρ' (s b) L = some x) {data : List V} {o : Option Obj} (h : ObjOK ρ 0 data o) : ObjOK ρ' 0 (renL s data) o := by
  obtain ⟨es, clock, h1, h2⟩ := h
  exact ⟨es, clock, h1, RL_ren hs h2⟩
theorem ObjOK.unren {s : Nat → Nat} {n : Nat} {ρ ρ' : Rho} (hs : ∀ b L x, b < n → ρ' (s b) L = some x → ρ b L = some x) {data : List V} (hb : belL n data = true) {o : Option Obj} (h : ObjOK ρ' 0 (renL s data) o) : ObjOK ρ 0 data o := by
  obtain ⟨es, clock, h1, h2⟩ := h
  exact ⟨es, clock, h1, RL_unren hs hb h2⟩
structure MemoFacts (E : XEnv) (n m : Nat) (c : Cut) (args : List V) (h : AH) (v : V) (h' : AH) (s : Nat → Nat) (hc h1 : AH) : Prop where
  num : NumOK m c.next h.next s
  args : args = renL s c.args
  bel : belL c.next c.args = true
  v : v = renV s c.v
  run : xFn E (xD E n) c.f c.args hc = some (c.v, h1)
  nextc : hc.next = c.next
  next : h'.next = h.next + (c.next' - c.next)
  next1 : h1.next = c.next'
  low : h'.low ≤ h.low
  step : AStep hc h1
  known : ∀ b k, hc.get b = some k → b < c.next ∧ tagB k = true ∧ belR c.next k.cells = true ∧ ∃ k', h.get (s b) = some k' ∧ MB s k k'
  got : ∀ b k', h'.get b = some k' → (∃ bc kc, b = s bc ∧ h1.get bc = some kc ∧ tagB kc = true ∧ MB s kc k') ∨ (h.get b = some k' ∧ ∀ bc, s bc = b → hc.get bc = none)
  kept : ∀ b, b < h.next → h'.get b = h.get b ∨ ∃ bc, b = s bc ∧ bc < c.next ∧ h'.low ≤ b ∧ (h1.get bc).isSome = true
theorem belR_mono {m n : Nat} (hmn : m ≤ n) {a : Arr} (h : belR m a = true) : belR n a = true := by
  have hv : (∀ v : V, belV m v = true → belV n v = true) ∧ (∀ l : List V, belL m l = true → belL n l = true) := by
    constructor
    · intro v
      refine V.rec (motive_1 := fun v => belV m v = true → belV n v = true) (motive_2 := fun l => belL m l = true → belL n l = true) ?_ ?_ ?_ ?_ ?_ ?_ ?_ ?_ ?_ ?_ ?_ ?_ ?_ ?_ ?_ ?_ ?_ ?_ ?_ ?_ ?_ ?_ ?_ v
      all_goals first
        | (intros; rfl)
        | (intro a h; exact (by rw [Arr.blt_eq]; exact decide_eq_true (Nat.lt_of_lt_of_le (blt_lt h) hmn) : Nat.blt _ n = true))
        | (intro a _ _ _ _ h; exact (by rw [Arr.blt_eq]; exact decide_eq_true (Nat.lt_of_lt_of_le (blt_lt h) hmn) : Nat.blt _ n = true))
        | (intro f x y ihx ihy h; exact Bool.and_eq_true_iff.2 ⟨ihx (Bool.and_eq_true_iff.1 h).1, ihy (Bool.and_eq_true_iff.1 h).2⟩)
        | (intro t v ih h; exact ih h)
        | (intro x ih h; exact ih h)
        | (intro x l ih1 ih2 h; exact Bool.and_eq_true_iff.2 ⟨ih1 (Bool.and_eq_true_iff.1 h).1, ih2 (Bool.and_eq_true_iff.1 h).2⟩)
    · intro l
      refine V.rec_1 (motive_1 := fun v => belV m v = true → belV n v = true) (motive_2 := fun l => belL m l = true → belL n l = true) ?_ ?_ ?_ ?_ ?_ ?_ ?_ ?_ ?_ ?_ ?_ ?_ ?_ ?_ ?_ ?_ ?_ ?_ ?_ ?_ ?_ ?_ ?_ l
      all_goals first
        | (intros; rfl)
        | (intro a h; exact (by rw [Arr.blt_eq]; exact decide_eq_true (Nat.lt_of_lt_of_le (blt_lt h) hmn) : Nat.blt _ n = true))
        | (intro a _ _ _ _ h; exact (by rw [Arr.blt_eq]; exact decide_eq_true (Nat.lt_of_lt_of_le (blt_lt h) hmn) : Nat.blt _ n = true))
        | (intro f x y ihx ihy h; exact Bool.and_eq_true_iff.2 ⟨ihx (Bool.and_eq_true_iff.1 h).1, ihy (Bool.and_eq_true_iff.1 h).2⟩)
        | (intro t v ih h; exact ih h)
        | (intro x ih h; exact ih h)
        | (intro x l ih1 ih2 h; exact Bool.and_eq_true_iff.2 ⟨ih1 (Bool.and_eq_true_iff.1 h).1, ih2 (Bool.and_eq_true_iff.1 h).2⟩)
  have ht : ∀ t : T V, belT m t = true → belT n t = true := by
    intro t
    induction t with
    | leaf => intro _; rfl
    | node l w r ihl ihr =>
      intro h
      have e : ∀ k, belT k (.node l w r) = Bool.rec (motive := fun _ => Bool) false (Bool.rec (motive := fun _ => Bool) false (belT k r) (belT k l)) (belO k w) := fun _ => rfl
      rw [e] at h ⊢
      cases hb : belO m w with
      | false => rw [hb] at h; cases h
      | true =>
        rw [hb] at h
        cases hl : belT m l with
        | false => rw [hl] at h; cases h
        | true =>
          rw [hl] at h
          rw [ihl hl, show belO n w = true from by cases w with
            | none => rfl
            | some x => exact hv.1 x hb]
          exact ihr h
  unfold belR at h ⊢
  rw [Bool.and_eq_true] at h ⊢
  exact ⟨hv.2 _ h.1, ht _ h.2⟩
theorem belR_ren {s : Nat → Nat} {m : Nat} (hs : ∀ b, b < m → s b = b) {k : Blk} (h : belR m k.cells = true) : MB s k k := by
  refine ⟨rfl, rfl, rfl, rfl, rfl, fun j => ?_, fun _ => ?_⟩
  · cases hg : k.cells.get j with
    | none => rfl
    | some v => rw [Option.map_some, ren_id hs v (belR_get h hg)]
  · unfold belR at h
    rw [Bool.and_eq_true] at h
    exact (renL_id hs _ h.1).symm
theorem memo_facts {E : XEnv} (ok : E.OK) {n m : Nat} {c : Cut} {sg : List Nat} (hS : cutS m c = true) (hc : ∀ es, memB E n c es = true) {args : List V} {h h' : AH} {v : V} (hs : memoS m c sg args h = some (v, h')) :
    ∃ s h1, MemoFacts E n m c args h v h' s (c.h0 (esOf h)) h1 := by
  obtain ⟨hend, hneed⟩ := memB_spec (hc (esOf h))
  unfold endS at hend
  unfold cutS at hS
  simp only [Bool.and_eq_true, List.all_eq_true] at hS
  obtain ⟨s1, s2, s3, s4, s5⟩ := hS
  have s1 : m ≤ c.next := Nat.le_of_ble_eq_true s1
  cases hx : xFn E (xD E n) c.f c.args (c.h0 (esOf h)) with
  | none => rw [hx] at hend; cases hend
  | some p =>
    obtain ⟨v1, h1⟩ := p
    rw [hx] at hend
    simp only [Bool.and_eq_true, Nat.beq_eq] at hend
    obtain ⟨e1, e2, e3, e4⟩ := hend
    have e1 := alikeV_eq _ _ e1
    subst e1
    have hle : c.lw ≤ h1.low := Nat.le_of_ble_eq_true e3
    unfold memoS at hs
    revert hs
    generalize hsE : numF m c.next sg h.next = s
    intro hs
    simp only at hs
    cases hb : (eqvL s c.args args && (Nat.beq sg.length (Nat.sub c.next m) && (distinct sg && (sg.all (fun b => Nat.ble m b && Nat.blt b h.next) && (Nat.ble m h.next && (needsOK s h c.needs && allR h c.tabs)))))) with
    | false => rw [hb] at hs; cases hs
    | true =>
      rw [hb] at hs
      cases hs
      simp only [Bool.and_eq_true, Nat.beq_eq, List.all_eq_true] at hb
      obtain ⟨b1, b2, b3, b4, b5, b6, b7⟩ := hb
      have hN : NumOK m c.next h.next s := hsE ▸ numOK s1 b2 b3 (fun b hb => ⟨Nat.le_of_ble_eq_true (b4 b hb).1, blt_lt (b4 b hb).2⟩) (Nat.le_of_ble_eq_true b5)
      have hA : AStep (c.h0 (esOf h)) h1 := xFn_astep ok (xD_ok ok n) hx
      have hout : ∀ b k, (b, k) ∈ c.outs → ∃ k1, h1.get b = some k1 ∧ MB (fun b => b) k k1 := fun b k hm => needsOK_spec e4 _ hm
      have h0get : ∀ b k, (c.h0 (esOf h)).get b = some k → (b, k) ∈ c.all (esOf h) := by
        intro b k hk
        rcases setsB_get (c.all (esOf h)) .leaf b with ⟨k', g1, g2⟩ | ⟨g1, g2⟩
        · have : (c.h0 (esOf h)).get b = some k' := g2
          rw [hk] at this
          cases this
          exact g1
        · have : (c.h0 (esOf h)).get b = none := g2.trans (T.get_leaf b)
          rw [hk] at this; cases this
      have known : ∀ b k, (c.h0 (esOf h)).get b = some k → b < c.next ∧ tagB k = true ∧ belR c.next k.cells = true ∧ ∃ k', h.get (s b) = some k' ∧ MB s k k' := by
        intro b k hk
        have hm := h0get b k hk
        unfold Cut.all at hm
        rcases List.mem_append.1 hm with hm | hm
        · obtain ⟨q1, q2, q3⟩ := s3 _ hm
          exact ⟨blt_lt q1, q3, q2, needsOK_spec b6 _ hm⟩
        · obtain ⟨p, p1, p2⟩ := List.mem_map.1 hm
          cases p2
          obtain ⟨q1, q2⟩ := s4 p p1
          refine ⟨Nat.lt_of_lt_of_le (blt_lt q1) s1, ?_, belR_mono s1 q2, _, (by rw [hN.lo _ (blt_lt q1)]; exact allR_spec b7 p p1), belR_ren (k := ⟨p.2, 0, 0, true, esOf h p.1⟩) hN.lo q2⟩
          simp [tagB]
          exact .inr (.inr rfl)
      have got0 : ∀ b k', (⟨Nat.add h.next (Nat.sub c.next' c.next), lowF s c.next c.outs h.low, setsB (renO s c.outs) h.m⟩ : AH).get b = some k' → (∃ bc kc, (bc, kc) ∈ c.outs ∧ b = s bc ∧ k' = renB s kc) ∨ (inL b (renO s c.outs) = false ∧ h.get b = some k') := by
        intro b k' hk
        rcases setsB_get (renO s c.outs) h.m b with ⟨k, g1, g2⟩ | ⟨g1, g2⟩
        · have : some k = some k' := g2.symm.trans hk
          cases this
          obtain ⟨b0, k0, r1, r2, r3⟩ := renO_mem g1
          exact .inl ⟨b0, k0, r1, r2, r3⟩
        · exact .inr ⟨g1, g2.symm.trans hk⟩
      refine ⟨s, h1, hN, eqvL_eq _ _ b1, s2, rfl, hx, rfl, rfl, e2, (lowF_le s c.next c.outs h.low).1, hA, known, ?_, ?_⟩
      · intro b k' hk
        rcases got0 b k' hk with ⟨bc, kc, g1, g2, g3⟩ | ⟨g1, g2⟩
        · subst g3
          obtain ⟨k1, r1, r2⟩ := hout _ _ g1
          exact .inl ⟨bc, k1, g2, r1, r2.tag (s5 _ g1), r2.of_self (MB.ren s kc)⟩
        · cases Classical.em (∃ bc, s bc = b ∧ (c.h0 (esOf h)).get bc ≠ none) with
          | inr hno => exact .inr ⟨g2, fun bc hbc => Classical.byContradiction fun hne => hno ⟨bc, hbc, hne⟩⟩
          | inl hyes =>
            obtain ⟨bc, hbc, hne⟩ := hyes
            subst hbc
            obtain ⟨kc, hkc⟩ := Option.ne_none_iff_exists'.1 hne
            obtain ⟨k1, k2, k3, k4, k5, k6⟩ := known bc kc hkc
            rw [g2] at k5
            cases k5
            have hq := (List.all_eq_true.1 (hneed _ hx)) _ (h0get bc kc hkc)
            rw [Bool.or_eq_true, Bool.or_eq_true] at hq
            rcases hq with hq | hq | hq
            · refine .inl ⟨bc, kc, rfl, ?_, k2, k6⟩
              rw [hA.quiet bc (Nat.lt_of_lt_of_le (blt_lt hq) hle) k1]
              exact hkc
            · obtain ⟨k0, hk0⟩ := inL_mem hq
              rw [renO_in hk0] at g1
              cases g1
            · unfold needOK at hq
              cases hh : h1.get bc with
              | none => simp only [hh] at hq; cases hq
              | some k1' =>
                simp only [hh] at hq
                have hmb := sameB_spec hq
                exact .inl ⟨bc, k1', rfl, hh, hmb.tag k2, hmb.of_self k6⟩
      · intro b hb
        rcases setsB_get (renO s c.outs) h.m b with ⟨k, g1, g2⟩ | ⟨g1, g2⟩
        · obtain ⟨b0, k0, r1, rfl, r3⟩ := renO_mem g1
          have hlt : b0 < c.next := by
            cases Nat.lt_or_ge b0 c.next with
            | inl h => exact h
            | inr h => rw [hN.hi b0 h] at hb; omega
          obtain ⟨k1, r4, _⟩ := hout _ _ r1
          exact .inr ⟨b0, rfl, hlt, (lowF_le s c.next c.outs h.low).2 _ r1 hlt, by rw [r4]; rfl⟩
        · exact .inl g2
theorem memoS_astep {E : XEnv} (ok : E.OK) {n m : Nat} {c : Cut} {sg : List Nat} (hS : cutS m c = true) (hc : ∀ es, memB E n c es = true) {args : List V} {h h' : AH} {v : V} (hs : memoS m c sg args h = some (v, h')) : AStep h h' := by
  obtain ⟨s, h1, F⟩ := memo_facts ok hS hc hs
  refine ⟨by rw [F.next]; omega, F.low, ?_, ?_⟩
  · intro b hb hn
    rcases F.kept b hn with g | ⟨bc, rfl, g1, g2, g3⟩
    · exact g
    · omega
  · intro b hb hn
    rcases F.kept b hb with g | ⟨bc, rfl, g1, g2, g3⟩
    · rw [g]; exact hn
    · exfalso
      cases hq : (c.h0 (esOf h)).get bc with
      | none => rw [F.step.none bc g1 hq] at g3; cases g3
      | some k =>
        obtain ⟨_, _, _, k', h2, _⟩ := F.known bc k hq
        rw [hn] at h2; cases h2
open Classical in
theorem memoS_sound {E : XEnv} (ok : E.OK) {n m : Nat} (hgm : ∀ g L, E.G g = some L → g < m) {c : Cut} {sg : List Nat} (hS : cutS m c = true) (hc : ∀ es, memB E n c es = true) {ρ : Rho} {h h' : AH} {w : World} {args : List V} {args' : List Value} {v : V} (hg : GOK E.c0 ρ) (hr : HR ρ h w) (hR : RL ρ args args') (hs : memoS m c sg args h = some (v, h')) :
    Calls E.P c.f args'.toArray w fun e w' => ∃ u ρ', e = .returned u ∧ R ρ' v u ∧ HR ρ' h' w' ∧ Step ρ h w ρ' h' w' := by
  obtain ⟨s, h1, F⟩ := memo_facts ok hS hc hs
  generalize c.h0 (esOf h) = hc at F
  have hN := F.num
  have bnd : ∀ bc, s bc < h.next → bc < c.next := fun bc hb => by
    cases Nat.lt_or_ge bc c.next with
    | inl h => exact h
    | inr h => rw [hN.hi bc h] at hb; omega
  have bnd2 : ∀ bc, bc < c.next → s bc < h.next := fun bc hb => by
    cases Nat.lt_or_ge bc m with
    | inl h => rw [hN.lo bc h]; exact Nat.lt_of_lt_of_le h hN.nxle
    | inr h => exact (hN.mid bc h hb).2
  have out : ∀ b, (∀ bc, s bc ≠ b) → b < h.next := fun b hb => by
    cases Nat.lt_or_ge b h.next with
    | inl h => exact h
    | inr hge => exact absurd (by rw [hN.hi _ (Nat.le_add_left _ _)]; omega) (hb ((b - h.next) + c.next))
  let ρc : Rho := fun b L => if b < c.next then ρ (s b) L else none
  have q1 : ∀ b L, b < c.next → ρc b L = ρ (s b) L := fun b L hb => if_pos hb
  have q2 : ∀ b L x, ρc b L = some x → b < c.next ∧ ρ (s b) L = some x := fun b L x hx => by
    by_cases hb : b < c.next
    · exact ⟨hb, by rw [← q1 b L hb]; exact hx⟩
    · rw [show ρc b L = none from if_neg hb] at hx; cases hx
  have q3 : ∀ b L x, b < c.next → ρ (s b) L = some x → ρc b L = some x := fun b L x hb hx => by rw [q1 b L hb]; exact hx
  have hrc : HR ρc hc w := by
    refine ⟨fun b L x hx => by rw [F.nextc]; exact (q2 b L x hx).1, fun b k hk => by rw [F.nextc]; exact (F.known b k hk).1, fun b L cb x hx => hr.bound _ _ _ _ (q2 b L _ hx).2, ?_, ?_, ?_, ?_⟩
    · intro b L b' L' cb x x' k h1 h2 hk hro
      obtain ⟨_, _, _, k', k1, k2⟩ := F.known b k hk
      obtain ⟨e1, e2⟩ := hr.inj _ _ _ _ _ _ _ _ (q2 _ _ _ h1).2 (q2 _ _ _ h2).2 k1 (by rw [k2.ro]; exact hro)
      exact ⟨hN.inj _ _ e1, e2⟩
    · intro b k L x hk hx
      obtain ⟨_, _, _, k', k1, k2⟩ := F.known b k hk
      rw [← k2.n]
      exact hr.top _ _ _ _ k1 (q2 _ _ _ hx).2
    · intro b k L cb sh S hk hx hm
      obtain ⟨_, _, kb, k', k1, k2⟩ := F.known b k hk
      obtain ⟨cs, lo, hi, r1, r2, r3, r4, r5⟩ := hr.blk _ _ _ _ _ _ k1 (q2 _ _ _ hx).2 (by rw [k2.minL]; exact hm)
      refine ⟨cs, lo, hi, by rw [← k2.e]; exact r1, r2, r3, fun j v hj hL hv => ?_, fun hro => by rw [← k2.fz]; exact r5 (by rw [k2.ro]; exact hro)⟩
      obtain ⟨u, hu, hRu⟩ := r4 j (renV s v) hj hL (by rw [k2.get, hv]; rfl)
      exact ⟨u, hu, R_unren q3 (belR_get kb hv) hRu⟩
    · intro b k hk ho
      obtain ⟨kn, kt, kb, k', k1, k2⟩ := F.known b k hk
      obtain ⟨hro, cb, S, h2, h3⟩ := hr.obj _ _ k1 (k2.isObj.2 ho)
      refine ⟨by rw [← k2.ro]; exact hro, cb, S, q3 _ _ _ kn h2, ?_⟩
      rw [k2.e, k2.obj ho, tagB_spec kt ho] at h3
      rw [tagB_spec kt ho]
      unfold belR at kb
      rw [Bool.and_eq_true] at kb
      exact h3.unren q3 kb.1
  have hgc : GOK E.c0 ρc := by
    intro g L hL
    obtain ⟨S, hS⟩ := hg g L hL
    have hlt := hgm g L hL
    exact ⟨S, q3 _ _ _ (Nat.lt_of_lt_of_le hlt hN.le) (by rw [hN.lo g hlt]; exact hS)⟩
  have hRc : RL ρc c.args args' := RL_unren q3 F.bel (F.args ▸ hR)
  refine (xFn_sound ok (xD_ok ok n) hgc hrc hRc F.run).mono ?_
  rintro e w' ⟨u, ρ2, he, g1, g2, g3⟩
  let ρ' : Rho := fun b L => if hb : ∃ bc, s bc = b then ρ2 (Classical.choose hb) L else ρ b L
  have p1 : ∀ bc L, ρ' (s bc) L = ρ2 bc L := fun bc L => by
    have hb : ∃ x, s x = s bc := ⟨bc, rfl⟩
    show (if hb : ∃ x, s x = s bc then ρ2 (Classical.choose hb) L else ρ (s bc) L) = _
    rw [dif_pos hb, hN.inj _ _ (Classical.choose_spec hb)]
  have p2 : ∀ b L, (∀ bc, s bc ≠ b) → ρ' b L = ρ b L := fun b L hb => dif_neg fun ⟨bc, h⟩ => hb bc h
  have img : ∀ b, (∃ bc, b = s bc) ∨ (∀ bc, s bc ≠ b) := fun b => by
    by_cases hb : ∃ bc, b = s bc
    · exact .inl hb
    · exact .inr fun bc e => hb ⟨bc, e.symm⟩
  have fwd : ∀ b L x, ρ2 b L = some x → ρ' (s b) L = some x := fun b L x hx => (p1 b L).trans hx
  have old : ∀ bc L cb x, ρ2 bc L = some (cb, x) → cb < w.heap.size → bc < c.next ∧ ∃ L0 x0, ρ (s bc) L0 = some (cb, x0) := fun bc L cb x hx hlt => by
    obtain ⟨L0, x0, h0⟩ := g3.cons _ _ _ _ hx hlt
    exact ⟨(q2 _ _ _ h0).1, L0, x0, (q2 _ _ _ h0).2⟩
  have abs2 : ∀ bc, bc < c.next → hc.get bc = none → h1.get bc = none ∧ ∀ L x, ρ2 bc L = some x → ρ (s bc) L = some x := fun bc hb hn => by
    obtain ⟨a1, a2⟩ := g3.abs bc (by rw [F.nextc]; exact hb) hn
    exact ⟨a1, fun L x hx => (q2 _ _ _ (a2 L x hx)).2⟩
  have hB : ∀ b k L x, h.get b = some k → (∀ bc, s bc = b → hc.get bc = none) → ρ' b L = some x → ρ b L = some x := fun b k L x hk hn hx => by
    rcases img b with ⟨bc, rfl⟩ | hno
    · rw [p1] at hx
      exact (abs2 bc (bnd bc (hr.lives _ _ hk)) (hn bc rfl)).2 L x hx
    · rwa [p2 b L hno] at hx
  have own : ∀ i, Owned ρc hc i → ∃ b L x k bc, ρ b L = some (i, x) ∧ h.get b = some k ∧ k.ro = false ∧ b = s bc ∧ hc.get bc ≠ none := by
    rintro i ⟨b2, L2, x2, k2, h3, h4, h5⟩
    obtain ⟨_, _, _, k', k1, k3⟩ := F.known b2 k2 h4
    exact ⟨s b2, L2, x2, k', b2, (q2 _ _ _ h3).2, k1, by rw [k3.ro]; exact h5, rfl, by rw [h4]; simp⟩
  have hBheap : ∀ b k L cb x, h.get b = some k → (∀ bc, s bc = b → hc.get bc = none) → ρ b L = some (cb, x) → w'.heap[cb]? = w.heap[cb]? := fun b k L cb x hk hn hx => by
    refine g3.keep cb (hr.bound _ _ _ _ hx) fun ho => ?_
    obtain ⟨b2, L2, x2, k2, bc, h3, h4, h5, h6, h7⟩ := own cb ho
    obtain ⟨e1, _⟩ := hr.inj _ _ _ _ _ _ _ _ h3 hx h4 h5
    exact h7 (hn bc (by rw [← h6, e1]))
  have knownRo : ∀ bc kc, h1.get bc = some kc → bc < c.next → ∃ k0, h.get (s bc) = some k0 ∧ k0.ro = kc.ro := fun bc kc hk hb => by
    obtain ⟨k0, a1, a2⟩ := g3.ro bc kc hk (by rw [F.nextc]; exact hb)
    obtain ⟨_, _, _, k', k1, k2⟩ := F.known bc k0 a1
    exact ⟨k', k1, by rw [k2.ro, a2]⟩
  have hle : c.next ≤ c.next' := by
    have := F.step.next
    rw [F.nextc, F.next1] at this
    exact this
  have upto : ∀ bc, bc < c.next' → s bc < h'.next := fun bc hb => by
    rw [F.next]
    cases Nat.lt_or_ge bc c.next with
    | inl hlt => exact Nat.lt_of_lt_of_le (bnd2 bc hlt) (Nat.le_add_right _ _)
    | inr hge => rw [hN.hi bc hge]; omega
  have hr' : HR ρ' h' w' := by
    refine ⟨?_, ?_, ?_, ?_, ?_, ?_, ?_⟩
    · intro b L x hx
      rcases img b with ⟨bc, rfl⟩ | hno
      · rw [p1] at hx
        exact upto bc (by rw [← F.next1]; exact g2.fresh _ _ _ hx)
      · rw [F.next]; exact Nat.lt_of_lt_of_le (out b hno) (Nat.le_add_right _ _)
    · intro b k hk
      rcases F.got b k hk with ⟨bc, kc, rfl, a1, _, _⟩ | ⟨a1, _⟩
      · exact upto bc (by rw [← F.next1]; exact g2.lives _ _ a1)
      · rw [F.next]; exact Nat.lt_of_lt_of_le (hr.lives _ _ a1) (Nat.le_add_right _ _)
    · intro b L cb x hx
      rcases img b with ⟨bc, rfl⟩ | hno
      · rw [p1] at hx; exact g2.bound _ _ _ _ hx
      · rw [p2 b L hno] at hx; exact Nat.lt_of_lt_of_le (hr.bound _ _ _ _ hx) g3.size
    · intro b L b' L' cb x x' k hx hx' hk hro
      rcases F.got b k hk with ⟨bc, kc, rfl, a1, _, a3⟩ | ⟨a1, a2⟩
      · rw [p1] at hx
        have hro' : kc.ro = false := by rw [← a3.ro]; exact hro
        rcases img b' with ⟨bc', rfl⟩ | hno
        · rw [p1] at hx'
          obtain ⟨e1, e2⟩ := g2.inj _ _ _ _ _ _ _ _ hx hx' a1 hro'
          exact ⟨by rw [e1], e2⟩
        · rw [p2 b' L' hno] at hx'
          obtain ⟨hlt, L0, x0, h0⟩ := old bc L cb x hx (hr.bound _ _ _ _ hx')
          obtain ⟨k0, r1, r2⟩ := knownRo bc kc a1 hlt
          exact absurd (hr.inj _ _ _ _ _ _ _ _ h0 hx' r1 (by rw [r2]; exact hro')).1 (hno bc)
      · have hx2 := hB b k L _ a1 a2 hx
        rcases img b' with ⟨bc', rfl⟩ | hno
        · rw [p1] at hx'
          obtain ⟨hlt, L0, x0, h0⟩ := old bc' L' cb x' hx' (hr.bound _ _ _ _ hx2)
          obtain ⟨e1, _⟩ := hr.inj _ _ _ _ _ _ _ _ hx2 h0 a1 hro
          have hx3 := (abs2 bc' hlt (a2 bc' e1.symm)).2 L' _ hx'
          exact hr.inj _ _ _ _ _ _ _ _ hx2 hx3 a1 hro
        · rw [p2 b' L' hno] at hx'
          exact hr.inj _ _ _ _ _ _ _ _ hx2 hx' a1 hro
    · intro b k L x hk hx
      rcases F.got b k hk with ⟨bc, kc, rfl, a1, _, a3⟩ | ⟨a1, a2⟩
      · rw [p1] at hx
        rw [a3.n]
        exact g2.top _ _ _ _ a1 hx
      · exact hr.top _ _ _ _ a1 (hB b k L x a1 a2 hx)
    · intro b k L cb sh S hk hx hm
      rcases F.got b k hk with ⟨bc, kc, rfl, a1, _, a3⟩ | ⟨a1, a2⟩
      · rw [p1] at hx
        obtain ⟨cs, lo, hi, r1, r2, r3, r4, r5⟩ := g2.blk _ _ _ _ _ _ a1 hx (by rw [← a3.minL]; exact hm)
        refine ⟨cs, lo, hi, by rw [a3.e]; exact r1, r2, r3, fun j v hj hL hv => ?_, fun hro => by rw [a3.fz]; exact r5 (by rw [← a3.ro]; exact hro)⟩
        rw [a3.get] at hv
        obtain ⟨v0, hv0, rfl⟩ := Option.map_eq_some_iff.1 hv
        obtain ⟨u0, hu0, hRu⟩ := r4 j v0 hj hL hv0
        exact ⟨u0, hu0, R_ren fwd hRu⟩
      · have hx2 := hB b k L _ a1 a2 hx
        refine (hr.blk _ _ _ _ _ _ a1 hx2 hm).mono ?_ (hBheap b k L cb _ a1 a2 hx2)
        intro b0 L0 x0 h0
        rcases img b0 with ⟨bc, rfl⟩ | hno
        · rw [p1]; exact g3.le _ _ _ (q3 _ _ _ (bnd bc (hr.fresh _ _ _ h0)) h0)
        · rw [p2 b0 L0 hno]; exact h0
    · intro b k hk ho
      rcases F.got b k hk with ⟨bc, kc, rfl, a1, at1, a3⟩ | ⟨a1, a2⟩
      · have ho' := a3.isObj.1 ho
        obtain ⟨hro, cb, S, h2, h3⟩ := g2.obj _ _ a1 ho'
        refine ⟨by rw [a3.ro]; exact hro, cb, S, fwd _ _ _ h2, ?_⟩
        rw [tagB_spec at1 ho'] at h3
        rw [a3.e, a3.obj ho', tagB_spec at1 ho']
        exact h3.ren fwd
      · refine (hr.obj _ _ a1 ho).mono ?_ fun cb S e => hBheap b k 0 cb _ a1 a2 e
        intro b0 L0 x0 h0
        rcases img b0 with ⟨bc, rfl⟩ | hno
        · rw [p1]; exact g3.le _ _ _ (q3 _ _ _ (bnd bc (hr.fresh _ _ _ h0)) h0)
        · rw [p2 b0 L0 hno]; exact h0
  refine ⟨u, ρ', he, by rw [F.v]; exact R_ren fwd g1, hr', ?_, ?_, ?_, by rw [F.next]; omega, g3.os, g3.tape, g3.output, g3.size, ?_, F.low, ?_, ?_⟩
  · intro b0 L0 x0 h0
    rcases img b0 with ⟨bc, rfl⟩ | hno
    · rw [p1]; exact g3.le _ _ _ (q3 _ _ _ (bnd bc (hr.fresh _ _ _ h0)) h0)
    · rw [p2 b0 L0 hno]; exact h0
  · intro b L cb x hx hlt
    rcases img b with ⟨bc, rfl⟩ | hno
    · rw [p1] at hx; exact (old bc L cb x hx hlt).2
    · rw [p2 b L hno] at hx; exact ⟨L, x, hx⟩
  · intro b k' hk' hb
    rcases F.got b k' hk' with ⟨bc, kc, rfl, a1, _, a3⟩ | ⟨a1, a2⟩
    · obtain ⟨k0, r1, r2⟩ := knownRo bc kc a1 (bnd bc hb)
      exact ⟨k0, r1, by rw [a3.ro, r2]⟩
    · exact ⟨k', a1, rfl⟩
  · intro i hi hn
    refine g3.keep i hi fun ho => ?_
    obtain ⟨b2, L2, x2, k2, bc, h3, h4, h5, h6, h7⟩ := own i ho
    exact hn ⟨b2, L2, x2, k2, h3, h4, h5⟩
  · intro b hb hn
    rcases F.kept b hn with g | ⟨bc, rfl, a1, a2, a3⟩
    · exact g
    · omega
  · intro b hb hn
    have key : ∀ bc, b = s bc → hc.get bc = none := fun bc hbc => by
      cases hq : hc.get bc with
      | none => rfl
      | some k =>
        obtain ⟨_, _, _, k', h2, _⟩ := F.known bc k hq
        rw [← hbc, hn] at h2; cases h2
    refine ⟨?_, fun L x hx => ?_⟩
    · rcases F.kept b hb with g | ⟨bc, hbc, a1, a2, a3⟩
      · rw [g]; exact hn
      · rw [(abs2 bc a1 (key bc hbc)).1] at a3; cases a3
    · rcases img b with ⟨bc, rfl⟩ | hno
      · rw [p1] at hx
        exact (abs2 bc (bnd bc hb) (key bc rfl)).2 L x hx
      · rwa [p2 b L hno] at hx
mutual
def pairV : V → V → List (Nat × Nat) → List (Nat × Nat)
  | .ptr a, .ptr b, l => (a.b, b.b) :: l
  | .slice a _ _ _ _, .slice b _ _ _ _, l => (a.b, b.b) :: l
  | .func _ x y, .func _ x' y', l => pairL x x' (pairL y y' l)
  | .iface _ x, .iface _ x', l => pairV x x' l
  | .agg x, .agg x', l => pairL x x' l
  | .tuple x, .tuple x', l => pairL x x' l
  | .mapv a, .mapv b, l => (a, b) :: l
  | _, _, l => l
def pairL : List V → List V → List (Nat × Nat) → List (Nat × Nat)
  | x :: xs, y :: ys, l => pairV x y (pairL xs ys l)
  | _, _, l => l
end
noncomputable def putP (l : List (Nat × Nat)) (t : T Nat) : T Nat := List.rec (fun t => t) (fun p _ ih t => ih (t.set p.1 p.2)) l t
noncomputable def orZ (o : Option Nat) : Nat := Option.rec 0 (fun a => a) o
structure Memo where
  c : Cut
  walk : List Nat
noncomputable def selB (l : List (Nat × Blk)) : List Nat → List (Nat × Blk) := List.rec (fun _ => []) (fun p _ ih w => List.rec [] (fun i w' _ => bif Nat.beq p.1 i then p :: ih w' else ih w) w) l
noncomputable def pairC (a a' : Arr) : Nat → List (Nat × Nat) := Nat.rec [] (fun j ih => pairV (orUndef (a.get j)) (orUndef (a'.get j)) ih)
noncomputable def pairB (k k' : Blk) : List (Nat × Nat) := bif Nat.beq k.cells.n 0 then pairL k.cells.z k'.cells.z [] else pairC k.cells k'.cells k.cells.n
noncomputable def walkN (h : AH) (l : List (Nat × Blk)) : T Nat → T Nat := List.rec (fun t => t) (fun p _ ih t => ih (Option.rec t (fun k => putP (pairB p.2 k) t) (h.get (orZ (t.get p.1))))) l
noncomputable def rangeN (a : Nat) : Nat → List Nat := Nat.rec (fun _ => []) (fun _ ih i => i :: ih (Nat.succ i)) a
noncomputable def findN (m : Nat) (o : Memo) (args : List V) (h : AH) : List Nat :=
  (fun t => List.rec (motive := fun _ => List Nat) [] (fun i _ ih => orZ (T.get t i) :: ih) (rangeN (Nat.sub o.c.next m) m)) (walkN h (selB o.c.needs o.walk) (putP (pairL o.c.args args []) .leaf))
mutual
def lookV : V → V → Bool
  | .bool a, .bool b => a == b
  | .int _ a, .int _ b => a == b
  | .str a, .str b => a == b
  | .slice _ n _ _ _, .slice _ n' _ _ _ => Nat.beq n n'
  | .ptr _, .ptr _ => true
  | .agg x, .agg x' => lookL x x'
  | .tuple x, .tuple x' => lookL x x'
  | .iface t x, .iface t' x' => Nat.beq t t' && lookV x x'
  | .mapv _, .mapv _ => true
  | .func f _ _, .func g _ _ => Nat.beq f g
  | .bad, .bad => true
  | .nilptr, .nilptr => true
  | .nilslice, .nilslice => true
  | .loose, .loose => true
  | .nilFunc, .nilFunc => true
  | .nilIface, .nilIface => true
  | .nilmap, .nilmap => true
  | .complex _ a b, .complex _ a' b' => Nat.beq a a' && Nat.beq b b'
  | .float _ a, .float _ a' => Nat.beq a a'
  | _, _ => false
def lookL : List V → List V → Bool
  | [], [] => true
  | x :: xs, y :: ys => lookV x y && lookL xs ys
  | _, _ => false
end
noncomputable def memoG (m : Nat) (f : FuncId) (o : Memo) (args : List V) (h : AH) : Option (V × AH) := bif Nat.beq o.c.f f && lookL o.c.args args then (memoS m o.c (findN m o args h) args h) else none
noncomputable def memoI (m : Nat) (f : FuncId) (args : List V) (h : AH) : List Memo → Option (V × AH) :=
  List.rec none (fun o _ ih => Option.rec ih (fun p => some p) (memoG m f o args h))
noncomputable def memoJ (m : Nat) (l : List (FuncId × List Memo)) (f : FuncId) : Option (List V → AH → Option (V × AH)) :=
  List.rec none (fun p _ ih => bif Nat.beq p.1 f then some (fun args h => memoI m f args h p.2) else ih) l
theorem memoI_inv {m : Nat} {f : FuncId} {args : List V} {h : AH} {x : V × AH} : ∀ {l : List Memo}, memoI m f args h l = some x → ∃ o ∈ l, ∃ sg, o.c.f = f ∧ memoS m o.c sg args h = some x := by
  intro l
  induction l with
  | nil => intro hs; cases hs
  | cons c l ih =>
    intro hs
    have e : memoI m f args h (c :: l) = Option.rec (motive := fun _ => Option (V × AH)) (memoI m f args h l) (fun p => some p) (memoG m f c args h) := rfl
    rw [e] at hs
    cases hc : memoG m f c args h with
    | some p =>
      rw [hc] at hs
      unfold memoG at hc
      cases hl : (Nat.beq c.c.f f && lookL c.c.args args) with
      | false => rw [hl] at hc; cases hc
      | true =>
        rw [hl] at hc
        rw [Bool.and_eq_true] at hl
        exact ⟨c, by simp, _, Nat.eq_of_beq_eq_true hl.1, hc.trans hs⟩
    | none =>
      rw [hc] at hs
      obtain ⟨c', h1, h2⟩ := ih hs
      exact ⟨c', by simp [h1], h2⟩
theorem memoJ_inv {m : Nat} {f : FuncId} {g : List V → AH → Option (V × AH)} : ∀ {l : List (FuncId × List Memo)}, memoJ m l f = some g → ∃ p ∈ l, g = fun args h => memoI m f args h p.2 := by
  intro l
  induction l with
  | nil => intro hg; cases hg
  | cons p l ih =>
    intro hg
    have e : memoJ m (p :: l) f = bif Nat.beq p.1 f then some (fun args h => memoI m f args h p.2) else memoJ m l f := rfl
    rw [e] at hg
    cases hb : Nat.beq p.1 f with
    | true => rw [hb] at hg; cases hg; exact ⟨p, by simp, rfl⟩
    | false =>
      rw [hb] at hg
      obtain ⟨q, h1, h2⟩ := ih hg
      exact ⟨q, by simp [h1], h2⟩
def MemoOK (E : XEnv) (m : Nat) (o : Memo) : Prop :=
  (∀ (sg : List Nat) (ρ : Rho) (h h' : AH) (w : World) (args : List V) (args' : List Value) (v : V), GOK E.c0 ρ → HR ρ h w → RL ρ args args' → memoS m o.c sg args h = some (v, h') →
    Calls E.P o.c.f args'.toArray w fun e w' => ∃ u ρ', e = .returned u ∧ R ρ' v u ∧ HR ρ' h' w' ∧ Step ρ h w ρ' h' w') ∧
  ∀ (sg : List Nat) (args : List V) (h : AH) (v : V) (h' : AH), memoS m o.c sg args h = some (v, h') → AStep h h'
def AllM (E : XEnv) (m : Nat) (l : List Memo) : Prop := ∀ o ∈ l, MemoOK E m o
def AllJ (E : XEnv) (m : Nat) (l : List (FuncId × List Memo)) : Prop := ∀ p ∈ l, AllM E m p.2
theorem allN {E : XEnv} {m : Nat} : AllM E m [] := fun o ho => by cases ho
theorem allC {E : XEnv} {m : Nat} {o : Memo} {l : List Memo} (h : MemoOK E m o) (hl : AllM E m l) : AllM E m (o :: l) := fun q hq => by
  rcases List.mem_cons.1 hq with rfl | hq
  · exact h
  · exact hl q hq
theorem jN {E : XEnv} {m : Nat} : AllJ E m [] := fun o ho => by cases ho
theorem jC {E : XEnv} {m : Nat} {f : FuncId} {l : List Memo} {r : List (FuncId × List Memo)} (h : AllM E m l) (hl : AllJ E m r) : AllJ E m ((f, l) :: r) := fun q hq => by
  rcases List.mem_cons.1 hq with rfl | hq
  · exact h
  · exact hl q hq
noncomputable def XEnv.mem (E : XEnv) (m : Nat) (l : List (FuncId × List Memo)) : XEnv := ⟨E.P, E.G, E.X, fun f => Option.rec (E.I f) (fun g => some g) (memoJ m l f), E.mask, E.fuel, E.ops, E.good, E.qt, E.gc⟩
theorem XEnv.mem_I {E : XEnv} {m : Nat} {l : List (FuncId × List Memo)} {f : FuncId} {g : List V → AH → Option (V × AH)} (h : (E.mem m l).I f = some g) : memoJ m l f = some g ∨ E.I f = some g := by
  have h' : (Option.rec (motive := fun _ => Option (List V → AH → Option (V × AH))) (E.I f) (fun g => some g) (memoJ m l f)) = some g := h
  cases hm : memoJ m l f with
  | none => rw [hm] at h'; exact .inr h'
  | some g' => rw [hm] at h'; exact .inl h'
theorem XEnv.OK.memos {E : XEnv} (ok : E.OK) {m : Nat} (hgm : ∀ g L, E.G g = some L → g < m) {l : List (FuncId × List Memo)} (hl : AllJ E m l) : (E.mem m l).OK where
  mixed := ok.mixed
  xsound := ok.xsound
  xabs := ok.xabs
  isound := by
    intro f g hg ρ h w args args' v h' hG hr hR hs
    rcases E.mem_I hg with hg | hg
    · obtain ⟨p, h1, rfl⟩ := memoJ_inv hg
      obtain ⟨o, h2, sg, rfl, h3⟩ := memoI_inv hs
      exact (hl p h1 o h2).1 sg ρ h h' w args args' v hG hr hR h3
    · exact ok.isound f g hg ρ h w args args' v h' hG hr hR hs
  iabs := by
    intro f g hg args h v h' hs
    rcases E.mem_I hg with hg | hg
    · obtain ⟨p, h1, rfl⟩ := memoJ_inv hg
      obtain ⟨o, h2, sg, rfl, h3⟩ := memoI_inv hs
      exact (hl p h1 o h2).2 sg args h v h' h3
    · exact ok.iabs f g hg args h v h' hs
  opsok := ok.opsok
  draws := ok.draws
theorem MemoOK.mk {E : XEnv} (ok : E.OK) {m : Nat} (hgm : ∀ g L, E.G g = some L → g < m) {o : Memo} {l : List (FuncId × List Memo)} (hl : AllJ E m l) {n : Nat} (hS : cutS m o.c = true) (hr : ∀ es, memB (E.mem m l) n o.c es = true) : MemoOK E m o :=
  ⟨fun _ _ _ _ _ _ _ _ g1 g2 g3 g4 => memoS_sound (ok.memos hgm hl) hgm hS hr g1 g2 g3 g4, fun _ _ _ _ _ g => memoS_astep (ok.memos hgm hl) hS hr g⟩
noncomputable def nb : Nat → Nat → List Nat := Nat.rec (fun _ => []) (fun _ ih n => Nat.mod n 256 :: ih (Nat.div n 256))
noncomputable def bys (l : List Nat) : List V := List.rec [] (fun x _ ih => V.int .u8 (.ofNat x) :: ih) l
noncomputable def arS (n : Nat) (z : List V) (l : List (Nat × V)) : Arr := ⟨n, z, List.rec (motive := fun _ => T V) .leaf (fun p _ ih => T.set ih p.1 p.2) l⟩
noncomputable def arL (l : List V) : Arr := Arr.ofList l
noncomputable def blk (a : Arr) (m e : Nat) : Blk := ⟨a, m, 0, false, e⟩
def iN (k : IntKind) (n : Nat) : V := .int k (.ofNat n)
def nN (k : IntKind) (n : Nat) : V := .int k (.negSucc n)
end Go.Proofs.YtbchdbhojafpdaaGreatDoor.Ev
namespace Go.Proofs.YtbchdbhojafpdaaGreatDoor.Ev
open Go
noncomputable def absMapsClone (args : List V) (h : AH) : Option (V × AH) :=
  match args with
  | [.iface t (.mapv b)] => (mapOf h b).map fun p => (.iface t (.mapv h.next), h.add (Blk.obj 0 (p.1 :: p.2)))
  | _ => none
theorem mapsClone_sound {P : Program} {ρ : Rho} {h h' : AH} {w : World} {args : List V} {args' : List Value} {v : V} (hr : HR ρ h w) (hR : RL ρ args args') (hs : absMapsClone args h = some (v, h')) : Sim P ρ h w (Extern.MapsClone.clone args'.toArray) v h' := by
  unfold absMapsClone at hs
  split at hs
  · rename_i t b
    obtain ⟨a, rfl, h1⟩ := RL1 hR
    obtain ⟨y, rfl, cb, S, rfl, hρ⟩ := h1
    obtain ⟨p, hm, h2⟩ := map_some' hs
    obtain ⟨c, data⟩ := p
    cases h2
    obtain ⟨kb, cb', S', es, clock, g1, g2, g3, g4, g5, g6⟩ := mapOf_spec hr hm
    rw [hρ] at g3
    cases g3
    obtain ⟨ρ', q1, q2, q3⟩ := obj_new hr 0 (c :: data) (.map es clock) ⟨es, clock, rfl, RL_cons.2 ⟨g5, g6⟩⟩
    refine ⟨.iface t (.map (some w.heap.size)), _, ρ', ?_, ⟨_, rfl, w.heap.size, 0, rfl, q3⟩, q1, q2⟩
    show (do
      let .map entries clock ← getObj cb | stuck "maps.clone: a map expected"
      pure (.iface t (.map (some (← newObj (.map entries clock))))) : Sem Value).run P w = _
    simp only [Sem.run_bind, run_getMap g4, Result.andThen_ok]
    rfl
  · cases hs
theorem mapsClone_step (args : List V) (h : AH) (v : V) (h' : AH) (hs : absMapsClone args h = some (v, h')) : AStep h h' := by
  unfold absMapsClone at hs
  split at hs
  · obtain ⟨p, _, h2⟩ := map_some' hs
    cases h2
    exact AStep.add _ _
  · cases hs
def anyI : V := .rcd 0 #[] .skip .skip
noncomputable def openR : Arr := Arr.ofList [anyI]
noncomputable def intR (x : Int) : Arr := Arr.ofList [.int .i64 x]
noncomputable def AH.swap (h : AH) (g : Nat) (k : Blk) : AH := ⟨h.next, h.low, h.m.set g k⟩
theorem AH.get_swap (h : AH) (g b : Nat) (k : Blk) : (h.swap g k).get b = if b = g then some k else h.get b := T.get_set _ _ _ _
theorem HR.swap {ρ : Rho} {h : AH} {w : World} {g : Nat} {k k2 : Blk} (hr : HR ρ h w) (hk : h.get g = some k) (hro : k2.ro = true) (hn : k2.cells.n = k.cells.n) (ho : ¬ k2.IsObj) (hb : ∀ L cb sh S, ρ g L = some (cb, sh, S) → k2.minL ≤ L → BlkOK ρ k2 L cb sh S w) : HR ρ (h.swap g k2) w := by
  have hg : ∀ b k', (h.swap g k2).get b = some k' → (b = g ∧ k' = k2) ∨ (b ≠ g ∧ h.get b = some k') := fun b k' h' => by
    rw [AH.get_swap] at h'
    by_cases e : b = g
    · rw [if_pos e] at h'; cases h'; exact .inl ⟨e, rfl⟩
    · rw [if_neg e] at h'; exact .inr ⟨e, h'⟩
  refine ⟨hr.fresh, ?_, hr.bound, ?_, ?_, ?_, ?_⟩
  · intro b k' h'
    rcases hg b k' h' with ⟨rfl, _⟩ | ⟨_, h'⟩
    · exact hr.lives _ _ hk
    · exact hr.lives _ _ h'
  · intro b L b' L' cb x x' k' h1 h2 h' hr'
    rcases hg b k' h' with ⟨rfl, rfl⟩ | ⟨_, h'⟩
    · rw [hro] at hr'; cases hr'
    · exact hr.inj _ _ _ _ _ _ _ _ h1 h2 h' hr'
  · intro b k' L x h' hx
    rcases hg b k' h' with ⟨rfl, rfl⟩ | ⟨_, h'⟩
    · rw [hn]; exact hr.top _ _ _ _ hk hx
    · exact hr.top _ _ _ _ h' hx
  · intro b k' L cb sh S h' hx hm
    rcases hg b k' h' with ⟨rfl, rfl⟩ | ⟨_, h'⟩
    · exact hb _ _ _ _ hx hm
    · exact hr.blk _ _ _ _ _ _ h' hx hm
  · intro b k' h' ho'
    rcases hg b k' h' with ⟨rfl, rfl⟩ | ⟨_, h'⟩
    · exact absurd ho' ho
    · exact hr.obj _ _ h' ho'
structure SameH (h h2 : AH) : Prop where
  next : h2.next = h.next
  low : h2.low = h.low
  get : ∀ b, h2.get b = h.get b
noncomputable def Cut.at (c : Cut) (g : Nat) (x : Int) : Cut := { c with tabs := c.tabs.map fun p => bif Nat.beq p.1 g then (p.1, intR x) else p }
noncomputable def cutX (m g : Nat) (c : Cut) : Bool := cutS m c && (c.needs.all (fun p => Nat.ble m p.1) && (c.outs.all (fun p => Nat.ble m p.1) && (Nat.blt g m && (c.tabs.any (fun p => Nat.beq p.1 g) && c.tabs.all (fun p => Bool.or (!(Nat.beq p.1 g)) (alikeR p.2 openR))))))
end Go.Proofs.YtbchdbhojafpdaaGreatDoor.Ev
namespace Go.Proofs.YtbchdbhojafpdaaGreatDoor.Ev
open Go
def leN : List Nat → List Nat → Bool
  | [], _ => true
  | _ :: _, [] => false
  | x :: a, y :: b => bif Nat.blt x y then true else bif Nat.beq x y then leN a b else false
def insN (x : List Nat) : List (List Nat) → List (List Nat)
  | [] => [x]
  | y :: l => bif leN x y then x :: y :: l else y :: insN x l
def sortN : List (List Nat) → List (List Nat)
  | [] => []
  | x :: l => insN x (sortN l)
def insB (x : List UInt8) : List (List UInt8) → List (List UInt8)
  | [] => [x]
  | y :: l => bif leB x y then x :: y :: l else y :: insB x l
def sortB : List (List UInt8) → List (List UInt8)
  | [] => []
  | x :: l => insB x (sortB l)
theorem leN_leB : ∀ a b : List UInt8, leN (a.map UInt8.toNat) (b.map UInt8.toNat) = leB a b
  | [], b => by simp [leN, leB]
  | x :: a, [] => by simp [leN, leB]
  | x :: a, y :: b => by
    have ih := leN_leB a b
    simp only [leB] at ih ⊢
    rw [List.map_cons, List.map_cons, leN, ih]
    rw [Bool.eq_iff_iff]
    simp only [List.cons_le_cons_iff, decide_eq_true_eq]
    have h1 : Nat.blt x.toNat y.toNat = decide (x < y) := by rw [Arr.blt_eq, Bool.eq_iff_iff]; simp [UInt8.lt_iff_toNat_lt]
    have h2 : Nat.beq x.toNat y.toNat = decide (x = y) := by rw [Bool.eq_iff_iff]; simp [UInt8.toNat_inj]
    rw [h1, h2]
    by_cases hlt : x < y
    · simp [hlt]
    · by_cases he : x = y
      · simp [hlt, he]
      · simp [hlt, he]
theorem insN_insB (x : List UInt8) : ∀ l : List (List UInt8), insN (x.map UInt8.toNat) (l.map fun y => y.map UInt8.toNat) = (insB x l).map fun y => y.map UInt8.toNat
  | [] => rfl
  | y :: l => by
    rw [List.map_cons, insN, insB, leN_leB]
    cases leB x y
    · simp only [cond_false, List.map_cons, insN_insB x l]
    · rfl
theorem sortN_sortB : ∀ l : List (List UInt8), sortN (l.map fun y => y.map UInt8.toNat) = (sortB l).map fun y => y.map UInt8.toNat
  | [] => rfl
  | x :: l => by rw [List.map_cons, sortN, sortB, sortN_sortB l, insN_insB]
theorem insB_perm (x : List UInt8) : ∀ l, (insB x l).Perm (x :: l)
  | [] => .refl _
  | y :: l => by
    rw [insB]
    cases leB x y
    · exact ((insB_perm x l).cons y).trans (.swap x y l)
    · exact .refl _
theorem sortB_perm : ∀ l, (sortB l).Perm l
  | [] => .refl _
  | x :: l => (insB_perm x _).trans ((sortB_perm l).cons x)
theorem leB_trans (a b c : List UInt8) (h1 : leB a b = true) (h2 : leB b c = true) : leB a c = true := by simp only [leB, decide_eq_true_eq] at *; exact List.le_trans h1 h2
theorem leB_total (a b : List UInt8) : leB a b = true ∨ leB b a = true := by simp only [leB, decide_eq_true_eq]; exact List.le_total a b
theorem insB_sorted (x : List UInt8) : ∀ l, l.Pairwise (fun a b => leB a b = true) → (insB x l).Pairwise (fun a b => leB a b = true)
  | [], _ => by simp [insB]
  | y :: l, h => by
    rw [insB]
    obtain ⟨h1, h2⟩ := List.pairwise_cons.1 h
    cases hxy : leB x y
    · refine List.pairwise_cons.2 ⟨fun z hz => ?_, insB_sorted x l h2⟩
      rcases List.mem_cons.1 ((insB_perm x l).mem_iff.1 hz) with rfl | hz
      · rcases leB_total z y with h3 | h3
        · rw [hxy] at h3; cases h3
        · exact h3
      · exact h1 z hz
    · refine List.pairwise_cons.2 ⟨fun z hz => ?_, h⟩
      rcases List.mem_cons.1 hz with rfl | hz
      · exact hxy
      · exact leB_trans _ _ _ hxy (h1 z hz)
theorem sortB_sorted : ∀ l, (sortB l).Pairwise (fun a b => leB a b = true)
  | [] => .nil
  | x :: l => insB_sorted x _ (sortB_sorted l)
theorem sortB_eq (l : List (List UInt8)) : sortB l = l.mergeSort leB := by
  refine List.Perm.eq_of_pairwise (le := fun a b => leB a b = true) (fun a b _ _ h1 h2 => ?_) (sortB_sorted l) (List.pairwise_mergeSort leB_trans (fun a b => by simpa using leB_total a b) l) ((sortB_perm l).trans (List.mergeSort_perm l leB).symm)
  simp only [leB, decide_eq_true_eq] at h1 h2
  exact List.le_antisymm h1 h2
def distK : List (List Nat) → Bool
  | [] => true
  | x :: l => l.all (fun y => !natsEq x y) && distK l
theorem distK_nodup : ∀ l : List (List Nat), distK l = true → l.Nodup
  | [], _ => .nil
  | x :: l, h => by
    simp only [distK, Bool.and_eq_true, List.all_eq_true] at h
    refine List.nodup_cons.2 ⟨fun hm => ?_, distK_nodup l h.2⟩
    have := h.1 x hm
    rw [natsEq_eq] at this
    simp at this
def distN : List Nat → Bool
  | [] => true
  | x :: l => l.all (fun y => !Nat.beq x y) && distN l
theorem distN_nodup : ∀ l : List Nat, distN l = true → l.Nodup
  | [], _ => .nil
  | x :: l, h => by
    simp only [distN, Bool.and_eq_true, List.all_eq_true] at h
    refine List.nodup_cons.2 ⟨fun hm => ?_, distN_nodup l h.2⟩
    have := h.1 x hm
    rw [Nat.beq_refl] at this
    cases this
abbrev KV := List UInt8 × Value
def setC (x : List UInt8) (u : Value) : List KV → List KV
  | [] => [(x, u)]
  | p :: l => if p.1 = x then (x, u) :: l else p :: setC x u l
def setA (x : List Nat) (u : V) : List (List Nat × V) → List (List Nat × V)
  | [] => [(x, u)]
  | p :: l => bif natsEq p.1 x then (x, u) :: l else p :: setA x u l
def foldA : List (List Nat × V) → List (List Nat × V) → List (List Nat × V)
  | [], l => l
  | p :: s, l => foldA s (setA p.1 p.2 l)
def foldC : List KV → List KV → List KV
  | [], l => l
  | p :: s, l => foldC s (setC p.1 p.2 l)
def AR (ρ : Rho) : List (List Nat × V) → List KV → Prop
  | [], [] => True
  | x :: l, y :: m => x.1 = y.1.map UInt8.toNat ∧ R ρ x.2 y.2 ∧ AR ρ l m
  | _, _ => False
theorem setA_AR {ρ : Rho} {x : List UInt8} {v : V} {u : Value} (hv : R ρ v u) : ∀ {l : List (List Nat × V)} {m : List KV}, AR ρ l m → AR ρ (setA (x.map UInt8.toNat) v l) (setC x u m)
  | [], [], _ => ⟨rfl, hv, trivial⟩
  | p :: l, q :: m, ⟨h1, h2, h3⟩ => by
    unfold setA setC
    rw [h1, natsEq_eq]
    by_cases he : q.1 = x
    · rw [if_pos he, he]
      simp only [beq_self_eq_true, cond_true]
      exact ⟨rfl, hv, h3⟩
    · rw [if_neg he]
      have : (q.1.map UInt8.toNat == x.map UInt8.toNat) = false := by
        cases hb : (q.1.map UInt8.toNat == x.map UInt8.toNat) with
        | false => rfl
        | true => exact absurd (map_toNat_inj (eq_of_beq hb)) he
      rw [this]
      exact ⟨h1, h2, setA_AR hv h3⟩
theorem foldA_AR {ρ : Rho} : ∀ {s : List (List Nat × V)} {t : List KV} {l : List (List Nat × V)} {m : List KV}, AR ρ s t → AR ρ l m → AR ρ (foldA s l) (foldC t m)
  | [], [], _, _, _, h => h
  | p :: s, q :: t, l, m, ⟨h1, h2, h3⟩, h => by
    unfold foldA foldC
    rw [h1]
    exact foldA_AR h3 (setA_AR h2 h)
theorem mem_setC {x : List UInt8} {u : Value} : ∀ {l : List KV}, (l.map (·.1)).Nodup → ∀ p, p ∈ setC x u l ↔ p = (x, u) ∨ (p ∈ l ∧ p.1 ≠ x)
  | [], _, p => by simp [setC]
  | q :: l, h, p => by
    rw [List.map_cons, List.nodup_cons] at h
    unfold setC
    by_cases he : q.1 = x
    · rw [if_pos he, List.mem_cons, List.mem_cons]
      constructor
      · rintro (h1 | h1)
        · exact .inl h1
        · exact .inr ⟨.inr h1, fun hp => h.1 (by rw [he, ← hp]; exact List.mem_map_of_mem h1)⟩
      · rintro (h1 | ⟨h1 | h1, h2⟩)
        · exact .inl h1
        · exact absurd (by rw [h1, he]) h2
        · exact .inr h1
    · rw [if_neg he, List.mem_cons, List.mem_cons, mem_setC h.2 p]
      constructor
      · rintro (h1 | h1 | ⟨h1, h2⟩)
        · exact .inr ⟨.inl h1, by rw [h1]; exact he⟩
        · exact .inl h1
        · exact .inr ⟨.inr h1, h2⟩
      · rintro (h1 | ⟨h1 | h1, h2⟩)
        · exact .inr (.inl h1)
        · exact .inl h1
        · exact .inr (.inr ⟨h1, h2⟩)
theorem keys_setC {x : List UInt8} {u : Value} : ∀ {l : List KV}, ∀ k, k ∈ (setC x u l).map (·.1) ↔ k = x ∨ k ∈ l.map (·.1)
  | [], k => by simp [setC]
  | q :: l, k => by
    unfold setC
    by_cases he : q.1 = x
    · rw [if_pos he, List.map_cons, List.map_cons, List.mem_cons, List.mem_cons, he]
      constructor
      · rintro (h | h)
        · exact .inl h
        · exact .inr (.inr h)
      · rintro (h | h | h)
        · exact .inl h
        · exact .inl h
        · exact .inr h
    · rw [if_neg he, List.map_cons, List.map_cons, List.mem_cons, List.mem_cons, keys_setC k]
      constructor
      · rintro (h | h | h)
        · exact .inr (.inl h)
        · exact .inl h
        · exact .inr (.inr h)
      · rintro (h | h | h)
        · exact .inr (.inl h)
        · exact .inl h
        · exact .inr (.inr h)
theorem nodup_setC {x : List UInt8} {u : Value} : ∀ {l : List KV}, (l.map (·.1)).Nodup → ((setC x u l).map (·.1)).Nodup
  | [], _ => by simp [setC]
  | q :: l, h => by
    rw [List.map_cons, List.nodup_cons] at h
    unfold setC
    by_cases he : q.1 = x
    · rw [if_pos he, List.map_cons, List.nodup_cons, ← he]; exact h
    · rw [if_neg he, List.map_cons, List.nodup_cons]
      exact ⟨fun hm => ((keys_setC _).1 hm).elim he h.1, nodup_setC h.2⟩
theorem nodup_foldC : ∀ {s l : List KV}, (l.map (·.1)).Nodup → ((foldC s l).map (·.1)).Nodup
  | [], _, h => h
  | _ :: s, _, h => nodup_foldC (s := s) (nodup_setC h)
theorem mem_foldC : ∀ {s l : List KV}, (s.map (·.1)).Nodup → (l.map (·.1)).Nodup → ∀ p, p ∈ foldC s l ↔ p ∈ s ∨ (p ∈ l ∧ p.1 ∉ s.map (·.1))
  | [], l, _, _, p => by simp [foldC]
  | q :: s, l, hs, hl, p => by
    rw [List.map_cons, List.nodup_cons] at hs
    unfold foldC
    rw [mem_foldC hs.2 (nodup_setC hl) p, mem_setC hl p, List.mem_cons, List.map_cons, List.mem_cons]
    constructor
    · rintro (h | ⟨h | ⟨h1, h2⟩, h3⟩)
      · exact .inl (.inr h)
      · exact .inl (.inl h)
      · exact .inr ⟨h1, fun h => h.elim h2 h3⟩
    · rintro ((h | h) | ⟨h1, h2⟩)
      · exact .inr ⟨.inl h, by rw [h]; exact hs.1⟩
      · exact .inl h
      · exact .inr ⟨.inr ⟨h1, fun h => h2 (.inl h)⟩, fun h => h2 (.inr h)⟩
abbrev heldR : Value → Option (DataW Value × List MemPlace) := fun v => some (.held v, [])
def emb (p : KV) : Lit × DataW Value := (.string p.1, .held p.2)
theorem sameKey_str (a b : List UInt8) : (Lit.string a).sameKey (.string b) = decide (a = b) := by
  cases hd : decide (a = b) with
  | true =>
    rw [of_decide_eq_true hd]
    exact WideAt.sameKey_self (show WideAt.IsKeyLit (.string b) from trivial)
  | false =>
    exact Maps.sameKey_ne (fun e => of_decide_eq_false hd (by cases e; rfl))
theorem put_perm {X : List (Lit × DataW Value)} {m : List KV} (hm : (m.map (·.1)).Nodup) (hX : X.Perm (m.map emb)) (x : List UInt8) (u : Value) : ∃ Y, DataW.put (.map X) (.string x) (.held u) = .map Y ∧ Y.Perm ((setC x u m).map emb) := by
  refine ⟨_, rfl, ?_⟩
  refine (WideShapes.insert_perm _ _).trans ?_
  have h1 : (X.filter fun p => !p.1.sameKey (.string x)).Perm ((m.filter fun p => !decide (p.1 = x)).map emb) := by
    refine (hX.filter _).trans ?_
    rw [List.filter_map]
    have : ((fun p : Lit × DataW Value => !p.1.sameKey (.string x)) ∘ emb) = fun p : KV => !decide (p.1 = x) := by
      funext p
      show (!(Lit.string p.1).sameKey (.string x)) = _
      rw [sameKey_str]
    rw [this]
  refine (h1.cons _).trans ?_
  show ((emb (x, u)) :: (m.filter fun p => !decide (p.1 = x)).map emb).Perm _
  rw [← List.map_cons]
  refine List.Perm.map _ ?_
  refine perm_of_mem ?_ (nodup_of_keys (nodup_setC hm)) fun p => ?_
  · refine List.nodup_cons.2 ⟨fun h => ?_, (nodup_of_keys hm).filter _⟩
    have := (List.mem_filter.1 h).2
    simp at this
  · rw [mem_setC hm, List.mem_cons, List.mem_filter]
    simp
where
  nodup_of_keys {l : List KV} (h : (l.map (·.1)).Nodup) : l.Nodup := List.Pairwise.of_map _ (fun a b hab e => hab (by rw [e])) h
  perm_of_mem {a b : List KV} (ha : a.Nodup) (hb : b.Nodup) (h : ∀ p, p ∈ a ↔ p ∈ b) : a.Perm b := (List.perm_ext_iff_of_nodup ha hb).2 h
theorem fold_perm : ∀ {Y : List (Lit × DataW Value)} {t m : List KV} {X : List (Lit × DataW Value)}, (m.map (·.1)).Nodup → X.Perm (m.map emb) → Y = t.map emb → ∃ Z, Y.foldl (fun (D : DataW Value) p => D.put p.1 p.2) (.map X) = .map Z ∧ Z.Perm ((foldC t m).map emb)
  | [], t, m, X, hm, hX, hY => by
    have : t = [] := by cases t with
      | nil => rfl
      | cons a l => simp at hY
    subst this
    exact ⟨X, rfl, hX⟩
  | y :: Y, t, m, X, hm, hX, hY => by
    cases t with
    | nil => simp at hY
    | cons q t =>
      rw [List.map_cons] at hY
      injection hY with h1 h2
      subst h1
      obtain ⟨X', g1, g2⟩ := put_perm hm hX q.1 q.2
      obtain ⟨Z, k1, k2⟩ := fold_perm (nodup_setC hm) g2 h2
      refine ⟨Z, ?_, k2⟩
      rw [List.foldl_cons]
      show List.foldl _ (DataW.put (.map X) (.string q.1) (.held q.2)) Y = _
      rw [g1]
      exact k1
theorem merge_perm {X Y : List (Lit × DataW Value)} {m s : List KV} (hm : (m.map (·.1)).Nodup) (hs : (s.map (·.1)).Nodup) (hX : X.Perm (m.map emb)) (hY : Y.Perm (s.map emb)) : ∃ Z, Lib.mergeD (.map X) (.map Y) = .map Z ∧ Z.Perm ((foldC s m).map emb) := by
  obtain ⟨t, h1, h2⟩ := perm_map hY.symm
  have ht : (t.map (·.1)).Nodup := (h1.symm.map (·.1)).nodup_iff.1 hs
  obtain ⟨Z, g1, g2⟩ := fold_perm hm hX h2.symm
  refine ⟨Z, g1, g2.trans (List.Perm.map _ ?_)⟩
  refine put_perm.perm_of_mem (put_perm.nodup_of_keys (nodup_foldC hm)) (put_perm.nodup_of_keys (nodup_foldC hm)) fun p => ?_
  rw [mem_foldC ht hm, mem_foldC hs hm, h1.mem_iff, (h1.map (·.1)).mem_iff]
where
  perm_map {α β : Type} {f : α → β} : ∀ {l : List α} {Y : List β}, (l.map f).Perm Y → ∃ t : List α, t.Perm l ∧ t.map f = Y := by
    intro l Y h
    generalize hL : l.map f = L at h
    induction h generalizing l with
    | nil => exact ⟨l, .refl _, hL⟩
    | cons x h ih =>
      cases l with
      | nil => simp at hL
      | cons a l =>
        rw [List.map_cons] at hL
        injection hL with e1 e2
        obtain ⟨t, h1, h2⟩ := ih e2
        exact ⟨a :: t, h1.cons a, by rw [List.map_cons, e1, h2]⟩
    | swap x y L' =>
      match l, hL with
      | a :: b :: l, hL =>
        simp only [List.map_cons, List.cons.injEq] at hL
        obtain ⟨e1, e2, e3⟩ := hL
        exact ⟨b :: a :: l, .swap _ _ _, by simp only [List.map_cons, e1, e2, e3]⟩
    | trans h1 h2 ih1 ih2 =>
      obtain ⟨t, p1, p2⟩ := ih1 hL
      obtain ⟨t2, q1, q2⟩ := ih2 p2
      exact ⟨t2, q1.trans p1, q2⟩
def pairsS : List (V × V × Nat) → Option (List (List Nat × V))
  | [] => some []
  | (.str s, v, _) :: l => (pairsS l).map ((s, v) :: ·)
  | _ => none
def pairsU : List V → Option (List (List Nat × V))
  | [] => some []
  | .str s :: v :: l => (pairsU l).map ((s, v) :: ·)
  | _ => none
def smallL (ks : List (List Nat × V)) : Bool := ks.all (fun x => Nat.ble x.1.length 1000000) && Nat.ble ks.length 1000000
noncomputable def entU (h : AH) (b : Nat) : Option (List (List Nat × V)) :=
  match mapOf h b with
  | some (.int .i64 (.ofNat clock), data) =>
    match trip data with
    | some l => match pairsS l with
      | some ks => if (l.all (fun x => Nat.blt x.2.2 clock) && (distN (l.map (·.2.2)) && (distK (ks.map (·.1)) && smallL ks))) = true then some ks else none
      | none => none
    | none => none
  | some _ => none
  | none => match mapU h b with
    | some data => match pairsU data with
      | some ks => if smallL ks = true then some ks else none
      | none => none
    | none => none
def kvE (e : MapEntry) : Value × Value := (e.key, e.val)
def kvC (p : KV) : Value × Value := (encStr p.1, p.2)
theorem pairsS_spec {ρ : Rho} : ∀ {l : List (V × V × Nat)} {es : List MapEntry} {ks : List (List Nat × V)}, Ent ρ l es → pairsS l = some ks → ∃ m : List KV, AR ρ ks m ∧ es.map kvE = m.map kvC ∧ es.map (·.born) = l.map (·.2.2)
  | [], [], _, _, h => by cases h; exact ⟨[], trivial, rfl, rfl⟩
  | (k, v, b) :: l, e :: es, ks, ⟨h1, h2, h3, h4⟩, h => by
    unfold pairsS at h
    split at h
    · rename_i hx; cases hx
    · rename_i s v' b' l' hx
      cases hx
      obtain ⟨ks', h5, rfl⟩ := map_some' h
      obtain ⟨m, g1, g2, g3⟩ := pairsS_spec h4 h5
      obtain ⟨t, ht, hs⟩ := h1
      refine ⟨(t.data.toList, e.val) :: m, ⟨hs.symm, h2, g1⟩, ?_, ?_⟩
      · rw [List.map_cons, List.map_cons, g2]
        exact congrArg (· :: m.map kvC) (by unfold kvE kvC; rw [ht])
      · rw [List.map_cons, List.map_cons, g3]
        exact congrArg (· :: l.map (·.2.2)) h3.symm
    · cases h
theorem pairsU_spec {ρ : Rho} : ∀ {ps : List MapEntry} {data : List V} {ks : List (List Nat × V)}, RL ρ data (kvL ps) → pairsU data = some ks → ∃ m : List KV, AR ρ ks m ∧ ps.map kvE = m.map kvC
  | [], data, ks, h, hk => by rw [RL_nokv h] at hk; cases hk; exact ⟨[], trivial, rfl⟩
  | e :: ps, data, ks, h, hk => by
    obtain ⟨k, v, rest, rfl, h1, h2, h3⟩ := RL_kv h
    unfold pairsU at hk
    split at hk
    · rename_i hx; cases hx
    · rename_i s v' l' hx
      cases hx
      obtain ⟨ks', h5, rfl⟩ := map_some' hk
      obtain ⟨m, g1, g2⟩ := pairsU_spec h3 h5
      obtain ⟨t, ht, hs⟩ := h1
      refine ⟨(t.data.toList, e.val) :: m, ⟨hs.symm, h2, g1⟩, ?_⟩
      rw [List.map_cons, List.map_cons, g2]
      exact congrArg (· :: m.map kvC) (by unfold kvE kvC; rw [ht])
    · cases hk
theorem AR_len {ρ : Rho} : ∀ {l : List (List Nat × V)} {m : List KV}, AR ρ l m → l.length = m.length
  | [], [], _ => rfl
  | _ :: _, _ :: _, ⟨_, _, h⟩ => congrArg (· + 1) (AR_len h)
theorem AR_small {ρ : Rho} : ∀ {l : List (List Nat × V)} {m : List KV}, AR ρ l m → (l.all (fun x => Nat.ble x.1.length 1000000)) = true → ∀ p ∈ m, p.1.length ≤ 1000000
  | [], [], _, _ => fun p hp => by cases hp
  | x :: l, y :: m, ⟨h1, _, h3⟩, h => fun p hp => by
    rw [List.all_cons, Bool.and_eq_true] at h
    rcases List.mem_cons.1 hp with rfl | hp
    · have := Nat.le_of_ble_eq_true h.1
      rw [h1, List.length_map] at this
      exact this
    · exact AR_small h3 h.2 p hp
theorem AR_keys {ρ : Rho} : ∀ {l : List (List Nat × V)} {m : List KV}, AR ρ l m → l.map (·.1) = m.map fun p => p.1.map UInt8.toNat
  | [], [], _ => rfl
  | x :: l, y :: m, ⟨h1, _, h3⟩ => by rw [List.map_cons, List.map_cons, AR_keys h3, h1]
theorem entU_spec {ρ : Rho} {h : AH} {w : World} (hr : HR ρ h w) {b : Nat} {ks : List (List Nat × V)} (hm : entU h b = some ks) :
    ∃ (k : Blk) (cb S : Nat) (es : Array MapEntry) (clock : Nat) (ps : List MapEntry), h.get b = some k ∧ k.IsObj ∧ ρ b 0 = some (cb, 0, S) ∧ w.heap[cb]? = some (.map es clock) ∧ ps.Perm es.toList ∧ MapKept.Stamped es clock ∧
      ∃ m : List KV, AR ρ ks m ∧ ps.map kvE = m.map kvC ∧ (∀ p ∈ m, p.1.length ≤ 1000000) ∧ m.length ≤ 1000000 := by
  unfold entU at hm
  split at hm
  · rename_i clock data hmo
    obtain ⟨kb, cb, S, es, clock', q1, q2, q3, q4, q5, q6⟩ := mapOf_spec hr hmo
    have hcl : clock' = clock := by
      have h6 : Value.int .i64 (clock' : Int) = .int .i64 (Int.ofNat clock) := q5
      exact Int.ofNat.inj (Value.int.inj h6).2
    subst hcl
    split at hm
    · rename_i l ht
      split at hm
      · rename_i ks' hk
        split at hm
        · rename_i hck
          cases hm
          simp only [smallL, Bool.and_eq_true] at hck
          obtain ⟨c1, c2, c3, c4, c5⟩ := hck
          obtain ⟨m, g1, g2, g3⟩ := pairsS_spec (trip_ent q6 ht) hk
          rw [List.all_eq_true] at c1
          refine ⟨kb, cb, S, es, clock', es.toList, q1, q2, q3, q4, .refl _, ⟨fun e he => ?_, by rw [g3]; exact distN_nodup _ c2, ?_⟩, m, g1, g2, AR_small g1 c4, by rw [← AR_len g1]; exact Nat.le_of_ble_eq_true c5⟩
          · have : e.born ∈ l.map (·.2.2) := by rw [← g3]; exact List.mem_map_of_mem he
            obtain ⟨x, hx, hx'⟩ := List.mem_map.1 this
            have := c1 x hx
            rw [Arr.blt_eq, decide_eq_true_eq, hx'] at this
            exact this
          · have e1 : es.toList.map (·.key) = m.map fun p => encStr p.1 := by
              have := congrArg (List.map Prod.fst) g2
              rw [List.map_map, List.map_map] at this
              exact this
            have hd := distK_nodup _ c3
            rw [AR_keys g1] at hd
            rw [e1]
            exact List.Pairwise.map _ (fun a b hab e => hab (by rw [encStr_inj e])) (List.Pairwise.of_map (S := fun a b => a ≠ b) (f := fun p : KV => p.1.map UInt8.toNat) (R := fun a b : KV => a.1 ≠ b.1) (fun a b hab e => hab (by rw [e])) hd)
        · cases hm
      · cases hm
    · cases hm
  · cases hm
  · split at hm
    · rename_i data hmu
      obtain ⟨kb, cb, S, es, clock, ps, g1, g2, g3, g4, g5, g6, g7⟩ := mapU_spec hr hmu
      split at hm
      · rename_i ks' hk
        split at hm
        · rename_i hck
          cases hm
          simp only [smallL, Bool.and_eq_true] at hck
          obtain ⟨m, k1, k2⟩ := pairsU_spec g7 hk
          exact ⟨kb, cb, S, es, clock, ps, g1, g2, g3, g4, g5, g6, m, k1, k2, AR_small k1 hck.1, by rw [← AR_len k1]; exact Nat.le_of_ble_eq_true hck.2⟩
        · cases hm
      · cases hm
    · cases hm
theorem owns_of {P : Program} {kt : TypeId} (hs : P.underlying kt = some .string) {w : World} {cb clock : Nat} {es : Array MapEntry} {ps : List MapEntry} {m : List KV} (hh : w.heap[cb]? = some (.map es clock)) (hp : ps.Perm es.toList) (hst : MapKept.Stamped es clock) (hm : ps.map kvE = m.map kvC) (hl : ∀ p ∈ m, p.1.length ≤ 1000000) (hn : m.length ≤ 1000000) :
    ∃ X : List (Lit × DataW Value), w.ownsMap P kt heldR cb m.length (.map X) ∧ X.Perm (m.map emb) ∧ (m.map (·.1)).Nodup ∧ X.length = m.length := by
  have hlen : es.size = m.length := by
    have h1 := congrArg List.length hm
    simp only [List.length_map] at h1
    have h2 := hp.length_eq
    have h3 : es.toList.length = es.size := Array.length_toList
    omega
  have hrg : ∀ e ∈ ps, ∀ p : KV, kvE e = kvC p → p.1.length ≤ 1000000 → WideElems.rd P kt heldR e = some (emb p) := by
    intro e he p hp' hpl
    have h1 : e.key = encStr p.1 := (Prod.mk.inj hp').1
    have h2 : e.val = p.2 := (Prod.mk.inj hp').2
    unfold WideElems.rd
    have : keyOf P kt e.key = some (.string p.1) := by
      rw [h1]
      unfold keyOf
      rw [hs]
      unfold mapKey
      rw [hs]
      have h3 : (⟨p.1.toArray⟩ : ByteArray).size ≤ maxLen := by show p.1.toArray.size ≤ maxLen; unfold maxLen; simp only [List.size_toArray]; omega
      simp only [encStr, h3, if_true]
    rw [this, h2]
    rfl
  have hmem : ∀ e ∈ ps, ∃ p ∈ m, kvE e = kvC p := fun e he => by
    have : kvE e ∈ m.map kvC := by rw [← hm]; exact List.mem_map_of_mem he
    obtain ⟨p, h1, h2⟩ := List.mem_map.1 this
    exact ⟨p, h1, h2.symm⟩
  have hmap : ∀ (qs : List MapEntry) (k : List KV), qs.map kvE = k.map kvC → (∀ e ∈ qs, e ∈ ps) → (∀ p ∈ k, p ∈ m) → qs.map (WideElems.rg P kt heldR) = k.map emb := by
    intro qs
    induction qs with
    | nil => intro k h _ _; cases k with
      | nil => rfl
      | cons a l => simp at h
    | cons e qs ih =>
      intro k h h1 h2
      cases k with
      | nil => simp at h
      | cons p k =>
        rw [List.map_cons, List.map_cons] at h
        injection h with e1 e2
        rw [List.map_cons, List.map_cons, WideElems.rg_of (hrg e (h1 e (by simp)) p e1 (hl p (h2 p (by simp)))), ih k e2 (fun x hx => h1 x (by simp [hx])) (fun x hx => h2 x (by simp [hx]))]
  have hrs := hmap ps m hm (fun e he => he) (fun p hp => hp)
  refine ⟨(es.toList.map (WideElems.rg P kt heldR)).foldr DataW.insert [], ⟨es, clock, hh, ⟨by rw [hlen]; unfold maxLen; omega, hst, fun e he => ?_⟩, by omega, rfl⟩, ?_, ?_, ?_⟩
  · obtain ⟨p, h1, h2⟩ := hmem e (hp.mem_iff.2 he)
    exact ⟨_, hrg e (hp.mem_iff.2 he) p h2 (hl p h1)⟩
  · refine (WideShapes.sorted_perm _).trans ?_
    rw [← hrs]
    exact (hp.map _).symm
  · have h1 : (ps.map (·.key)).Nodup := (hp.map (·.key)).nodup_iff.2 hst.2.2
    have e1 : ps.map (·.key) = m.map fun p => encStr p.1 := by
      have := congrArg (List.map Prod.fst) hm
      rw [List.map_map, List.map_map] at this
      exact this
    rw [e1] at h1
    exact List.Pairwise.map _ (fun a b hab e => hab e) (List.Pairwise.of_map (S := fun a b => a ≠ b) (f := fun p : KV => encStr p.1) (R := fun a b : KV => a.1 ≠ b.1) (fun a b hab e => hab (by rw [e])) h1)
  · rw [length_sorted, List.length_map, Array.length_toList, hlen]
end Go.Proofs.YtbchdbhojafpdaaGreatDoor.Ev
namespace Go.Proofs.YtbchdbhojafpdaaGreatDoor.Ev
open Go
def SortPost (c et : Nat) (w : World) (ok : List (List UInt8) → Prop) (e : Ending) (w' : World) : Prop :=
  ∃ (v : Value) (ss : List (List UInt8)), e = .returned v ∧ ok ss ∧ w'.ownsRow w.heap.size et 1 v ss.length ((ss.mergeSort fun x y => decide (x ≤ y)).map encStr) ∧ (v = .slice none 0 0 ↔ ss = []) ∧ Go.RowKit.Below w.heap.size w w'
structure SortedAt (P : Program) (c et g : Nat) : Prop where
  str : P.underlying et = some .string
  gives : ∀ (b nn Bm : Nat) (D0 : DataW Value) (w : World), Bm < w.heap.size → w.cell? ⟨Bm, 0, none⟩ = some (.map (some b)) → w.ownsMap P et heldR b nn D0 → Maps.size D0 ≤ maxLen → Maps.size D0 * 16 ≤ 140737488355328 →
    Calls P c #[.func (.func g) #[] #[.pointer (some ⟨Bm, 0, none⟩)]] w (SortPost c et w fun ss => ss.Perm (strKeys D0))
  nils : ∀ (Bm : Nat) (w : World), Bm < w.heap.size → w.cell? ⟨Bm, 0, none⟩ = some (.map none) →
    Calls P c #[.func (.func g) #[] #[.pointer (some ⟨Bm, 0, none⟩)]] w (SortPost c et w fun ss => ss = [])
noncomputable def capMap (a : A) (h : AH) : Option V :=
  match h.get a.b with
  | some k => if k.cells.n = 1 ∧ a.L = 1 ∧ a.o = 0 ∧ k.minL ≤ 1 ∧ k.ro = false then k.cells.get 0 else none
  | none => none
noncomputable def absSorted (et : Nat) (gs : List Nat) (args : List V) (h : AH) : Option (V × AH) :=
  match args with
  | [.func g [] [.ptr a]] =>
    if gs.contains g = true then
      match capMap a h with
      | some .nilmap => some (.nilslice, h)
      | some (.mapv b) => match entU h b with
        | some [] => some (.nilslice, h)
        | some (x :: l) => some (.slice ⟨h.next, (x :: l).length, 0⟩ (x :: l).length (x :: l).length false 1, h.add ⟨Arr.ofList ((sortN ((x :: l).map (·.1))).map V.str), 0, 0, false, et⟩)
        | none => none
      | _ => none
    else none
  | _ => none
theorem absSorted_step (et : Nat) (gs : List Nat) (args : List V) (h : AH) (v : V) (h' : AH) (hs : absSorted et gs args h = some (v, h')) : AStep h h' := by
  unfold absSorted at hs
  (repeat' split at hs) <;> first | (cases hs; done) | (cases hs; exact AStep.refl _) | (cases hs; exact AStep.add _ _)
theorem capMap_spec {ρ : Rho} {h : AH} {w : World} (hr : HR ρ h w) {a : A} {x : V} {c : Addr} (ha : At ρ a c) (hm : capMap a h = some x) : ∃ Bm u, c = ⟨Bm, 0, none⟩ ∧ Bm < w.heap.size ∧ w.cell? ⟨Bm, 0, none⟩ = some u ∧ R ρ x u := by
  unfold capMap at hm
  split at hm
  · rename_i k hk
    split at hm
    · rename_i hc
      obtain ⟨h1, h2, h3, h4, h5⟩ := hc
      obtain ⟨cb, sh, S, g1, g2, g3⟩ := ha
      obtain ⟨C, lo, hi, q1, q2, q3, q4, q5⟩ := hr.blk a.b k a.L cb sh S hk g1 (by rw [h2]; exact h4)
      have hsh : sh = 0 := by have := (q5 h5).2.2; rw [h3] at g2; omega
      subst hsh
      have hcc : c = ⟨cb, 0, none⟩ := by rw [g3, h3]; rfl
      subst hcc
      obtain ⟨u, q6, q7⟩ := q4 0 x (Int.le_refl _) (by omega) hm
      refine ⟨cb, u, rfl, hr.bound _ _ _ _ g1, ?_, q7⟩
      unfold World.cell?
      simp only [q1]
      simpa using q6
    · cases hm
  · cases hm
theorem HR.below {ρ : Rho} {h : AH} {w w' : World} (hr : HR ρ h w) (hb : Go.RowKit.Below w.heap.size w w') : HR ρ h w' :=
  ⟨hr.fresh, hr.lives, fun b L cb x hx => Nat.lt_of_lt_of_le (hr.bound b L cb x hx) hb.size, hr.inj, hr.top, fun b k L cb sh S h1 h2 h3 => (hr.blk b k L cb sh S h1 h2 h3).mono (Rho.le_refl ρ) (hb.block _ (hr.bound _ _ _ _ h2)), fun b k h1 ho => (hr.obj b k h1 ho).mono (Rho.le_refl ρ) fun cb S e => hb.block _ (hr.bound _ _ _ _ e)⟩
theorem Step.below {ρ : Rho} {h : AH} {w w' : World} (hb : Go.RowKit.Below w.heap.size w w') : Step ρ h w ρ h w' :=
  ⟨Rho.le_refl ρ, fun b L c x hx _ => ⟨L, x, hx⟩, fun b k' hk' _ => ⟨k', hk', rfl⟩, Nat.le_refl _, hb.os, hb.tape, hb.output, hb.size, fun i hi _ => hb.block i hi, Nat.le_refl _, fun _ _ _ => rfl, fun _ _ hb => ⟨hb, fun _ _ h => h⟩⟩
theorem sorted_fin {ρ : Rho} {h : AH} {w w' : World} {et : Nat} {u : Value} {zs : List (List UInt8)} (hr : HR ρ h w) (hb : Go.RowKit.Below w.heap.size w w') (hz : zs ≠ []) (ho : w'.ownsRow w.heap.size et 1 u zs.length (zs.map encStr)) :
    ∃ ρ', R ρ' (.slice ⟨h.next, zs.length, 0⟩ zs.length zs.length false 1) u ∧ HR ρ' (h.add ⟨Arr.ofList ((zs.map fun y => y.map UInt8.toNat).map V.str), 0, 0, false, et⟩) w' ∧ Step ρ h w ρ' (h.add ⟨Arr.ofList ((zs.map fun y => y.map UInt8.toNat).map V.str), 0, 0, false, et⟩) w' := by
  obtain ⟨_, ho⟩ := ho
  rcases ho with ⟨_, h0⟩ | ⟨g, cap, cur, rfl, hg, hh, h1, h2, h3, h4⟩
  · exact absurd (List.eq_nil_of_length_eq_zero h0) hz
  · have hr' := hr.below hb
    have hst : Step ρ h w ρ h w' := Step.below hb
    have hlen : ((zs.map fun y => y.map UInt8.toNat).map V.str).length = zs.length := by simp
    have hn : (⟨Arr.ofList ((zs.map fun y => y.map UInt8.toNat).map V.str), 0, 0, false, et⟩ : Blk).cells.n = zs.length := by rw [Arr.ofList_n, hlen]
    obtain ⟨ρ', a1, a2, a3, a4⟩ := adopt_sound hr' ⟨Arr.ofList ((zs.map fun y => y.map UInt8.toNat).map V.str), 0, 0, false, et⟩ cur 0 0 g (Array.getElem?_eq_some_iff.1 hh).1 hh
      (fun b L x hx => by have := hr.bound _ _ _ _ hx; omega) (by rw [hn, h3]; omega)
      (fun j x hx => by
        simp only [Arr.get_ofList] at hx
        rw [List.map_map, List.getElem?_map] at hx
        obtain ⟨y, hy, hx'⟩ := Option.map_eq_some_iff.1 hx
        have hj : j < zs.length := (List.getElem?_eq_some_iff.1 hy).1
        have hcur : (zs.map encStr)[j]? = some (encStr y) := by rw [List.getElem?_map, hy]; rfl
        rw [← h4, List.getElem?_take_of_lt (by omega), Array.getElem?_toList] at hcur
        refine ⟨encStr y, hcur, ?_⟩
        subst hx'
        exact ⟨⟨y.toArray⟩, rfl, by simp⟩)
      (fun i _ _ => by omega) (Nat.le_refl _) (Nat.zero_le _)
    rw [hn] at a4
    refine ⟨ρ', ⟨g, 0, cur.size, cap, rfl, a4, Int.le_refl _, h1, (fun e => by cases e), Nat.le_refl _, by rw [h3]; simp⟩, a2, Step.adopt hr hst _ a1 (fun b L c x hx hc => ?_) (fun b L x hx => ?_)⟩
    · rcases a3 b L c x hx with ⟨rfl, _⟩ | hx
      · omega
      · exact hx
    · obtain ⟨c, x⟩ := x
      rcases a3 b L c x hx with ⟨_, rfl⟩ | hx
      · exact .inl rfl
      · exact .inr hx
theorem absSorted_sound {P : Program} {c et : Nat} {gs : List Nat} (hS : ∀ g ∈ gs, SortedAt P c et g) {ρ : Rho} {h h' : AH} {w : World} {args : List V} {args' : List Value} {v : V} (hr : HR ρ h w) (hR : RL ρ args args') (hs : absSorted et gs args h = some (v, h')) :
    Calls P c args'.toArray w fun e w' => ∃ u ρ', e = .returned u ∧ R ρ' v u ∧ HR ρ' h' w' ∧ Step ρ h w ρ' h' w' := by
  unfold absSorted at hs
  split at hs
  · rename_i g a
    obtain ⟨y, rfl, xs, ys, rfl, hxs, hys⟩ := RL1 hR
    obtain ⟨p, hp, cA, rfl, hA⟩ := RL1 hys
    have hx0 : xs = #[] := Array.ext' (show xs.toList = [] from hxs)
    have hy0 : ys = #[.pointer (some cA)] := list1 hp
    subst hx0; subst hy0
    split at hs
    · rename_i hg
      have hS := hS g (by simpa using hg)
      have hnil : ∀ w' u, Go.RowKit.Below w.heap.size w w' → u = .slice none 0 0 → ∃ u' ρ', (Ending.returned u) = .returned u' ∧ R ρ' .nilslice u' ∧ HR ρ' h w' ∧ Step ρ h w ρ' h w' := fun w' u hb hu => ⟨u, ρ, rfl, hu, hr.below hb, Step.below hb⟩
      split at hs
      · rename_i hc
        cases hs
        obtain ⟨Bm, u, rfl, hlt, hcell, hRu⟩ := capMap_spec hr hA hc
        rw [show u = _ from hRu] at hcell
        refine (hS.nils Bm w hlt hcell).mono ?_
        rintro e w' ⟨v, ss, rfl, rfl, _, hv, hb⟩
        exact hnil w' v hb (hv.2 rfl)
      · rename_i b hc
        obtain ⟨Bm, u, rfl, hlt, hcell, hRu⟩ := capMap_spec hr hA hc
        obtain ⟨cb, S, rfl, hρ⟩ := hRu
        have main : ∀ ks, entU h b = some ks → ∃ zs : List (List UInt8), ks.map (·.1) = zs.map (fun y => y.map UInt8.toNat) ∧ zs.length = ks.length ∧
            Calls P c #[.func (.func g) #[] #[.pointer (some ⟨Bm, 0, none⟩)]] w (SortPost c et w fun ss => ss.Perm zs) := by
          intro ks hk
          obtain ⟨kb, cb2, S2, es, clock, ps, g1, g2, g3, g4, g5, g6, m, g7, g8, g9, g10⟩ := entU_spec hr hk
          rw [hρ] at g3
          cases g3
          obtain ⟨X, x1, x2, x3, x4⟩ := owns_of hS.str g4 g5 g6 g8 g9 g10
          refine ⟨m.map (·.1), by rw [AR_keys g7, List.map_map]; rfl, by rw [List.length_map, AR_len g7], ?_⟩
          refine (hS.gives cb _ Bm _ w hlt hcell x1 (by show X.length ≤ maxLen; rw [x4]; unfold maxLen; omega) (by show X.length * 16 ≤ _; rw [x4]; omega)).mono ?_
          rintro e w' ⟨v, ss, h1, h2, h3⟩
          refine ⟨v, ss, h1, h2.trans ?_, h3⟩
          show (X.map fun p => strOf p.1).Perm (m.map (·.1))
          refine (x2.map _).trans ?_
          rw [List.map_map]
          exact .refl _
        split at hs
        · rename_i hk
          cases hs
          obtain ⟨zs, z1, z2, z3⟩ := main _ hk
          refine z3.mono ?_
          rintro e w' ⟨v, ss, rfl, hP, hrow, hv, hb⟩
          have hz : zs = [] := List.eq_nil_of_length_eq_zero z2
          exact hnil w' v hb (hv.2 (by rw [hz] at hP; exact hP.eq_nil))
        · rename_i x l hk
          cases hs
          obtain ⟨zs, z1, z2, z3⟩ := main _ hk
          refine z3.mono ?_
          rintro e w' ⟨v, ss, rfl, hP, hrow, hv, hb⟩
          have hss : (ss.mergeSort fun x y => decide (x ≤ y)) = sortB zs := by rw [sortB_eq]; exact mergeSort_of_perm hP
          have hsl : ss.length = (sortB zs).length := by rw [hP.length_eq, (sortB_perm zs).length_eq]
          have hll : (x :: l).length = (sortB zs).length := by rw [(sortB_perm zs).length_eq, z2]
          rw [hss, hsl] at hrow
          rw [hll, z1, sortN_sortB]
          obtain ⟨ρ', f1, f2, f3⟩ := sorted_fin hr hb (fun e => by rw [e] at hll; simp at hll) hrow
          exact ⟨v, ρ', rfl, f1, f2, f3⟩
        · cases hs
      · cases hs
    · cases hs
  · cases hs
noncomputable def sortI (c et : Nat) (gs : List Nat) (f : FuncId) : Option (List V → AH → Option (V × AH)) := bif Nat.beq f c then some (absSorted et gs) else none
theorem sortI_inv {c et : Nat} {gs : List Nat} {f : FuncId} {g : List V → AH → Option (V × AH)} (h : sortI c et gs f = some g) : f = c ∧ g = absSorted et gs := by
  unfold sortI at h
  cases hb : Nat.beq f c with
  | false => rw [hb] at h; cases h
  | true => rw [hb] at h; cases h; exact ⟨Nat.eq_of_beq_eq_true hb, rfl⟩
theorem sortI_sound {P : Program} {c et : Nat} {gs : List Nat} (hS : ∀ g ∈ gs, SortedAt P c et g) (f : FuncId) (g : List V → AH → Option (V × AH)) (h : sortI c et gs f = some g) (ρ : Rho) (h0 : AH) (w : World) (args : List V) (args' : List Value) (v : V) (h' : AH) (hr : HR ρ h0 w) (hR : RL ρ args args') (hs : g args h0 = some (v, h')) :
    Calls P f args'.toArray w fun e w' => ∃ u ρ', e = .returned u ∧ R ρ' v u ∧ HR ρ' h' w' ∧ Step ρ h0 w ρ' h' w' := by
  obtain ⟨rfl, rfl⟩ := sortI_inv h
  exact absSorted_sound hS hr hR hs
theorem sortI_step {c et : Nat} {gs : List Nat} (f : FuncId) (g : List V → AH → Option (V × AH)) (h : sortI c et gs f = some g) (args : List V) (h0 : AH) (v : V) (h' : AH) (hs : g args h0 = some (v, h')) : AStep h0 h' := by
  obtain ⟨rfl, rfl⟩ := sortI_inv h
  exact absSorted_step _ _ _ _ _ _ hs
structure CopyAt (P : Program) (c kt : Nat) : Prop where
  str : P.underlying kt = some .string
  copy : ∀ (bd bs nd ns : Nat) (Dd Ds : DataW Value) (w : World), w.ownsMap P kt heldR bd nd Dd → w.ownsMap P kt heldR bs ns Ds → bd ≠ bs → nd + Maps.size Ds ≤ maxLen →
    Calls P c #[.map (some bd), .map (some bs)] w fun e w' => e = .returned (.tuple #[]) ∧ w'.ownsMap P kt heldR bd (nd + Maps.size Ds) (Lib.mergeD Dd Ds) ∧ w.grownBy w' (some bd)
def dataOf : List (List Nat × V) → List V
  | [] => []
  | p :: l => .str p.1 :: p.2 :: dataOf l
noncomputable def absCopyM (args : List V) (h : AH) : Option (V × AH) :=
  match args with
  | [.mapv d, .mapv s] => if d = s then none else
    match entU h d, entU h s with
    | some a, some b => some (.tuple [], h.put d (Blk.obj 4 (dataOf (foldA b a))))
    | _, _ => none
  | _ => none
theorem entU_isSome {h : AH} {b : Nat} {l : List (List Nat × V)} (hm : entU h b = some l) : (h.get b).isSome = true := by
  cases hg : h.get b with
  | some k => rfl
  | none =>
    have h1 : mapOf h b = none := by unfold mapOf; rw [hg]
    have h2 : mapU h b = none := by unfold mapU; rw [hg]
    unfold entU at hm
    simp only [h1, h2] at hm
    cases hm
theorem absCopyM_step (args : List V) (h : AH) (v : V) (h' : AH) (hs : absCopyM args h = some (v, h')) : AStep h h' := by
  unfold absCopyM at hs
  split at hs
  · split at hs
    · cases hs
    · split at hs
      · rename_i a b h1 h2
        cases hs
        exact AStep.put _ _ _ (entU_isSome h1)
      · cases hs
  · cases hs
theorem HR.grown {ρ : Rho} {h : AH} {w w' : World} (hr : HR ρ h w) {b : Nat} {k : Blk} (hk : h.get b = some k) (hob : k.IsObj) {cb S : Nat} (hb : ρ b 0 = some (cb, 0, S)) (hg : w.grownBy w' (some cb)) (tag : Nat) (data : List V) (ho : ObjOK ρ tag data w'.heap[cb]?) :
    HR ρ (h.put b (Blk.obj tag data)) w' ∧ Step ρ h w ρ (h.put b (Blk.obj tag data)) w' := by
  have hro : k.ro = false := (hr.obj b k hk hob).1
  have hoff : ∀ x, x < w.heap.size → x ≠ cb → w'.heap[x]? = w.heap[x]? := fun x hx hne => hg.block x hx (fun e => hne (Option.some.inj e))
  refine ⟨⟨hr.fresh, ?_, fun b L c x hx => Nat.lt_of_lt_of_le (hr.bound b L c x hx) hg.size, ?_, ?_, ?_, ?_⟩, ⟨Rho.le_refl ρ, fun b L c x hx _ => ⟨L, x, hx⟩, ?_, Nat.le_refl _, hg.os, hg.tape, hg.output, hg.size, ?_, Nat.min_le_left _ _, ?_, fun b' hb' hn => ⟨by rw [AH.get_put, if_neg (by rintro rfl; rw [hk] at hn; cases hn)]; exact hn, fun _ _ h => h⟩⟩⟩
  · intro b' k' hk'
    rw [AH.get_put] at hk'
    split at hk'
    · subst_vars; exact hr.lives _ _ hk
    · exact hr.lives _ _ hk'
  · intro b1 L1 b2 L2 c x x' k' q1 q2 hk' hro'
    rw [AH.get_put] at hk'
    split at hk'
    · subst_vars; exact hr.inj _ _ _ _ _ _ _ _ q1 q2 hk hro
    · exact hr.inj _ _ _ _ _ _ _ _ q1 q2 hk' hro'
  · intro b' k' L' x hk' hx
    rw [AH.get_put] at hk'
    split at hk'
    · subst_vars
      have := hr.top _ _ _ _ hk hx
      rw [hob.1] at this
      exact Nat.le_trans this (Nat.zero_le _)
    · exact hr.top _ _ _ _ hk' hx
  · intro b' k' L' cb' sh' S' hk' hρ' hm'
    rw [AH.get_put] at hk'
    split at hk'
    · subst_vars
      cases hk'
      have h1 := hr.top _ _ _ _ hk hρ'
      rw [hob.1] at h1
      exact absurd (Nat.le_trans (show 2 ≤ L' from hm') h1) (by decide)
    · rename_i hne
      refine (hr.blk _ _ _ _ _ _ hk' hρ' hm').mono (Rho.le_refl ρ) (hoff _ (hr.bound _ _ _ _ hρ') ?_)
      rintro rfl
      exact hne (hr.apart hk hob hb hρ').symm
  · intro b' k' hk' ho'
    rw [AH.get_put] at hk'
    split at hk'
    · subst_vars
      cases hk'
      exact ⟨rfl, cb, S, hb, ho⟩
    · rename_i hne
      refine (hr.obj b' k' hk' ho').mono (Rho.le_refl ρ) fun cb' S' e => hoff _ (hr.bound _ _ _ _ e) ?_
      rintro rfl
      exact hne (hr.apart hk hob hb e).symm
  · intro b' k' hk' _
    rw [AH.get_put] at hk'
    split at hk'
    · subst_vars; cases hk'; exact ⟨k, hk, hro.symm⟩
    · exact ⟨k', hk', rfl⟩
  · intro i hi' hn
    refine hoff _ hi' ?_
    rintro rfl
    exact hn ⟨b, 0, _, k, hb, hk, hro⟩
  · intro b' hb' _
    rw [AH.get_put, if_neg]
    rintro rfl
    exact absurd hb' (Nat.not_lt.2 (Nat.min_le_right h.low b'))
theorem data_RL {P : Program} {kt : TypeId} (hs : P.underlying kt = some .string) {ρ : Rho} : ∀ {l : List (List Nat × V)} {m : List KV} {qs : List MapEntry}, AR ρ l m → qs.map (WideElems.rg P kt heldR) = m.map emb → (∀ e ∈ qs, ∃ y, WideElems.rd P kt heldR e = some y) → RL ρ (dataOf l) (kvL qs)
  | [], [], qs, _, h, _ => by
    cases qs with
    | nil => exact rfl
    | cons a l => simp at h
  | x :: l, y :: m, qs, ⟨h1, h2, h3⟩, h, hrd => by
    cases qs with
    | nil => simp at h
    | cons e qs =>
      rw [List.map_cons, List.map_cons] at h
      injection h with e1 e2
      obtain ⟨z, hz⟩ := hrd e (by simp)
      rw [WideElems.rg_of hz] at e1
      subst e1
      obtain ⟨k1, hk1, hk2, _⟩ := Maps.keyOf_str hs (WideElems.rd_key hz)
      obtain ⟨zv, hv1, hv2⟩ := WideElems.rd_val hz
      have hkk : y.1 = k1 := by cases hk2; rfl
      have hvv : e.val = y.2 := by
        have : heldR e.val = some zv := hv1
        cases this
        have h5 : (emb y).2 = DataW.held e.val := hv2
        have h6 : DataW.held y.2 = DataW.held e.val := h5
        injection h6 with h7
        exact h7.symm
      rw [kvL_cons]
      refine RL_cons.2 ⟨⟨⟨k1.toArray⟩, hk1, ?_⟩, RL_cons.2 ⟨by rw [hvv]; exact h2, data_RL hs h3 e2 fun e' he' => hrd e' (by simp [he'])⟩⟩
      rw [h1, hkk]
theorem absCopyM_sound {P : Program} {c kt : Nat} (hS : CopyAt P c kt) {ρ : Rho} {h h' : AH} {w : World} {args : List V} {args' : List Value} {v : V} (hr : HR ρ h w) (hR : RL ρ args args') (hs : absCopyM args h = some (v, h')) :
    Calls P c args'.toArray w fun e w' => ∃ u ρ', e = .returned u ∧ R ρ' v u ∧ HR ρ' h' w' ∧ Step ρ h w ρ' h' w' := by
  unfold absCopyM at hs
  split at hs
  · rename_i d s
    obtain ⟨a1, a2, rfl, ⟨cd, Sd, rfl, hd⟩, ⟨cs, Ss, rfl, hsr⟩⟩ := RL2 hR
    split at hs
    · cases hs
    · rename_i hne
      split at hs
      · rename_i a b ha hb
        cases hs
        obtain ⟨kd, cd', Sd', es, clock, ps, g1, g2, g3, g4, g5, g6, m, g7, g8, g9, g10⟩ := entU_spec hr ha
        rw [hd] at g3
        cases g3
        obtain ⟨ks, cs', Ss', es2, clock2, ps2, k1, k2, k3, k4, k5, k6, m2, k7, k8, k9, k10⟩ := entU_spec hr hb
        rw [hsr] at k3
        cases k3
        obtain ⟨X, x1, x2, x3, x4⟩ := owns_of hS.str g4 g5 g6 g8 g9 g10
        obtain ⟨Y, y1, y2, y3, y4⟩ := owns_of hS.str k4 k5 k6 k8 k9 k10
        have hcb : cd ≠ cs := by
          rintro rfl
          exact hne (hr.apart g1 g2 hd hsr)
        obtain ⟨Z, z1, z2⟩ := merge_perm x3 y3 x2 y2
        refine (hS.copy cd cs _ _ _ _ w x1 y1 hcb (by show m.length + Y.length ≤ maxLen; rw [y4]; unfold maxLen; omega)).mono ?_
        rintro e w' ⟨rfl, ho, hg⟩
        rw [z1] at ho
        obtain ⟨es3, clock3, w1, w2, _, w3⟩ := ho
        injection w3 with w3
        have hZ : (es3.toList.map (WideElems.rg P kt heldR)).Perm ((foldC m2 m).map emb) := ((WideShapes.sorted_perm _).symm.trans (by rw [← w3])).trans z2
        obtain ⟨qs, q1, q2⟩ := merge_perm.perm_map hZ
        have hobj : ObjOK ρ 4 (dataOf (foldA b a)) w'.heap[cd]? := by
          rw [w1]
          exact ⟨es3, clock3, qs, rfl, q1, w2.stamped, data_RL hS.str (foldA_AR k7 g7) q2 fun e he => w2.reads e (q1.mem_iff.1 he)⟩
        obtain ⟨o1, o2⟩ := hr.grown g1 g2 hd hg 4 _ hobj
        exact ⟨_, ρ, rfl, ⟨_, rfl, RL_nil⟩, o1, o2⟩
      · cases hs
  · cases hs
structure ISound (P : Program) (I : FuncId → Option (List V → AH → Option (V × AH))) : Prop where
  sound : ∀ f g, I f = some g → ∀ (ρ : Rho) (h : AH) (w : World) (args : List V) (args' : List Value) (v : V) (h' : AH), HR ρ h w → RL ρ args args' → g args h = some (v, h') →
    Calls P f args'.toArray w fun e w' => ∃ u ρ', e = .returned u ∧ R ρ' v u ∧ HR ρ' h' w' ∧ Step ρ h w ρ' h' w'
  step : ∀ f g, I f = some g → ∀ args h v h', g args h = some (v, h') → AStep h h'
theorem sortI_ok {P : Program} {c et : Nat} {gs : List Nat} (hS : ∀ g ∈ gs, SortedAt P c et g) : ISound P (sortI c et gs) := ⟨sortI_sound hS, sortI_step⟩
noncomputable def copyI (cs : List Nat) (f : FuncId) : Option (List V → AH → Option (V × AH)) := bif cs.contains f then some absCopyM else none
theorem copyI_ok {P : Program} {kt : Nat} {cs : List Nat} (hS : ∀ c ∈ cs, CopyAt P c kt) : ISound P (copyI cs) := by
  have inv : ∀ f g, copyI cs f = some g → f ∈ cs ∧ g = absCopyM := by
    intro f g h
    unfold copyI at h
    cases hb : cs.contains f with
    | false => rw [hb] at h; cases h
    | true => rw [hb] at h; cases h; exact ⟨by simpa using hb, rfl⟩
  refine ⟨fun f g h ρ h0 w args args' v h' hr hR hs => ?_, fun f g h args h0 v h' hs => ?_⟩
  · obtain ⟨h1, rfl⟩ := inv f g h
    exact absCopyM_sound (hS f h1) hr hR hs
  · obtain ⟨h1, rfl⟩ := inv f g h
    exact absCopyM_step _ _ _ _ hs
noncomputable def iOr (a b : FuncId → Option (List V → AH → Option (V × AH))) (f : FuncId) : Option (List V → AH → Option (V × AH)) := Option.rec (b f) (fun g => some g) (a f)
theorem iOr_ok {P : Program} {a b : FuncId → Option (List V → AH → Option (V × AH))} (ha : ISound P a) (hb : ISound P b) : ISound P (iOr a b) := by
  have inv : ∀ f g, iOr a b f = some g → a f = some g ∨ b f = some g := by
    intro f g h
    have h' : Option.rec (motive := fun _ => Option (List V → AH → Option (V × AH))) (b f) (fun g => some g) (a f) = some g := h
    cases hq : a f with
    | none => rw [hq] at h'; exact .inr h'
    | some g' => rw [hq] at h'; exact .inl h'
  exact ⟨fun f g h => (inv f g h).elim (ha.sound f g) (hb.sound f g), fun f g h => (inv f g h).elim (ha.step f g) (hb.step f g)⟩
end Go.Proofs.YtbchdbhojafpdaaGreatDoor.Ev
