/-
  Part of a proof, written in a short hand by a program of this workplace. No condition.
-/
import Derived.WalkKit
import Derived.LaidEql
import Derived.Lib.UnsafeStr
import Derived.Lib.Builder
import Derived.Lib.BytesEntry
import Derived.Orders
import Derived.ProofKit
import Derived.OpenShut
import Derived.Deep.DeepHandedRow
import Derived.Lib.LaidTab
import Derived.Below
import Derived.ChangeSlices
import Derived.WideKeyArgs
import Derived.SizedLaws
import Derived.Test.YtcmhoboglapbdaaDoorProg
import Derived.Test.YtcmhoboglapbdaaDoorCards
import Derived.Test.YtcmhoboglapbdaaDoorTie
set_option linter.unusedVariables false
set_option linter.unusedSimpArgs false
namespace Go.Proofs.YtcmhoboglapbdaaDoor.Ev
open Go
inductive T (α:Type):Type where
 | leaf
 | node (l:T α) (v:Option α) (r:T α)
noncomputable def bitsF(f:Nat):Nat→List Bool :=
 Nat.rec (fun _=>[]) (fun _ ih n=>Bool.rec (Nat.beq (Nat.mod n 2) 1 :: ih (Nat.div n 2)) [] (Nat.ble n 1)) f
noncomputable def path(i:Nat):List Bool:=bitsF (Nat.succ i) (Nat.succ i)
theorem bitsF_succ(f n:Nat):bitsF (f+1) n=bif Nat.ble n 1 then [] else Nat.beq (n % 2) 1 :: bitsF f (n / 2):=by
 have h:bitsF (f+1) n=Bool.rec (motive:=fun _=>List Bool) (Nat.beq (Nat.mod n 2) 1 :: bitsF f (Nat.div n 2)) [] (Nat.ble n 1):=rfl
 rw [h]
 cases Nat.ble n 1 <;> rfl
theorem bitsF_inj:∀ (f g n m:Nat),1≤n→1≤m→n≤f→m≤g→bitsF f n=bitsF g m→n=m:=by
 intro f
 induction f with
 | zero=>intro g n m h1 _ h2;omega
 | succ f ih =>
  intro g n m hn hm hf hg h
  cases g with
  | zero=>omega
  | succ g =>
   rw [bitsF_succ,bitsF_succ] at h
   by_cases h1:n≤1 <;> by_cases h2:m≤1
   ·omega
   ·rw [Nat.ble_eq_true_of_le h1,show Nat.ble m 1=false from by cases h:Nat.ble m 1;rfl;exact absurd (Nat.le_of_ble_eq_true h) h2] at h
    cases h
   ·rw [Nat.ble_eq_true_of_le h2,show Nat.ble n 1=false from by cases h:Nat.ble n 1;rfl;exact absurd (Nat.le_of_ble_eq_true h) h1] at h
    cases h
   ·rw [show Nat.ble m 1=false from by cases h:Nat.ble m 1;rfl;exact absurd (Nat.le_of_ble_eq_true h) h2,
     show Nat.ble n 1=false from by cases h:Nat.ble n 1;rfl;exact absurd (Nat.le_of_ble_eq_true h) h1] at h
    simp only [cond_false,List.cons.injEq] at h
    have:=ih g (n / 2) (m / 2) (by omega) (by omega) (by omega) (by omega) h.2
    have hb:(n % 2=1)↔(m % 2=1):=by
     have h1:=h.1
     rw [Bool.eq_iff_iff] at h1
     simpa using h1
    omega
theorem path_inj{i j:Nat}(h:path i=path j):i=j:=by
 have:=bitsF_inj (i+1) (j+1) (i+1) (j+1) (by omega) (by omega) (by omega) (by omega) h
 omega
namespace T
variable {α:Type}
noncomputable def getP(p:List Bool):T α→Option α :=
 List.rec (fun t=>T.rec none (fun _ v _ _ _=>v) t)
  (fun b _ ih t=>T.rec none (fun l _ r _ _=>Bool.rec (ih l) (ih r) b) t) p
noncomputable def setP(p:List Bool):T α→α→T α :=
 List.rec (fun t x=>T.rec (.node .leaf (some x) .leaf) (fun l _ r _ _=>.node l (some x) r) t)
  (fun b _ ih t x=>T.rec (Bool.rec (.node (ih .leaf x) none .leaf) (.node .leaf none (ih .leaf x)) b) (fun l v r _ _=>Bool.rec (.node (ih l x) v r) (.node l v (ih r x)) b) t) p
theorem getP_leaf(p:List Bool):getP p (.leaf:T α)=none:=by cases p <;> rfl
theorem getP_set_same(p:List Bool):∀ (t:T α) (x:α),getP p (setP p t x)=some x:=by
 induction p with
 | nil=>intro t x;cases t <;> rfl
 | cons b p ih=>intro t x;cases t <;> cases b <;> exact ih _ _
theorem getP_set_other(p:List Bool):∀ (q:List Bool) (t:T α) (x:α),p≠q→getP q (setP p t x)=getP q t:=by
 induction p with
 | nil =>
  intro q t x h
  cases q with
  | nil=>exact absurd rfl h
  | cons c q=>cases t <;> cases c <;> first | rfl | (exact getP_leaf q)
 | cons b p ih =>
  intro q t x h
  cases q with
  | nil=>cases t <;> cases b <;> rfl
  | cons c q =>
   cases t <;> cases b <;> cases c <;> first
    | rfl
    | exact getP_leaf q
    | exact (ih q _ x (fun e=>h (by rw [e])))
    | exact (ih q _ x (fun e=>h (by rw [e]))).trans (getP_leaf q)
noncomputable def get(t:T α)(i:Nat):Option α:=getP (path i) t
noncomputable def set(t:T α)(i:Nat)(x:α):T α:=setP (path i) t x
theorem get_leaf(i:Nat):(leaf:T α).get i=none:=getP_leaf _
theorem get_set(t:T α)(i j:Nat)(x:α):(t.set i x).get j=if j=i then some x else t.get j:=by
 by_cases h:j=i
 ·subst h;rw [if_pos rfl];exact getP_set_same _ _ _
 ·rw [if_neg h];exact getP_set_other _ _ _ _ (fun e=>h (path_inj e).symm)
end T
end Go.Proofs.YtcmhoboglapbdaaDoor.Ev
namespace Go.Proofs.YtcmhoboglapbdaaDoor.Ev
open Go
structure A where
 b:Nat
 L:Nat
 o:Nat
inductive V:Type where
 | bad
 | bool (b:Bool)
 | int (k:IntKind) (n:Int)
 | str (s:List Nat)
 | ptr (a:A)
 | nilptr
 | slice (a:A) (len cap:Nat) (ex:Bool) (z:Nat)
 | nilslice
 | loose
 | func (f:Nat) (first captured:List V)
 | nilFunc
 | iface (t:Nat) (v:V)
 | nilIface
 | agg (cs:List V)
 | tuple (vs:List V)
structure Arr where
 n:Nat
 z:List V
 t:T V
namespace Arr
noncomputable def get(a:Arr)(i:Nat):Option V:=bif Nat.blt i a.n then Option.rec (a.z[Nat.mod i a.z.length]?) (fun v=>some v) (a.t.get i) else none
noncomputable def set(a:Arr)(i:Nat)(x:V):Arr:=⟨a.n,a.z,a.t.set i x⟩
noncomputable def push(a:Arr)(x:V):Arr:=⟨Nat.succ a.n,a.z,a.t.set a.n x⟩
noncomputable def pushAll(l:List V):Arr→Arr:=List.rec (fun a=>a) (fun x _ ih a=>ih (a.push x)) l
def empty:Arr:=⟨0,[],.leaf⟩
noncomputable def ofList(l:List V):Arr:=pushAll l empty
def make(n:Nat)(z:List V):Arr:=⟨n,z,.leaf⟩
theorem blt_eq(i n:Nat):Nat.blt i n=decide (i<n):=by
 rw [Bool.eq_iff_iff];simp [Nat.blt];omega
theorem get_eq(a:Arr)(i:Nat):a.get i=if i<a.n then (match a.t.get i with | some v=>some v | none=>a.z[i % a.z.length]?) else none:=by
 have e:a.get i=bif Nat.blt i a.n then Option.rec (motive:=fun _=>Option V) (a.z[i % a.z.length]?) (fun v=>some v) (a.t.get i) else none:=rfl
 rw [e,blt_eq]
 by_cases h:i<a.n
 ·simp only [h,decide_true,cond_true,if_true];cases a.t.get i <;> rfl
 ·simp [h]
@[simp] theorem set_n (a:Arr) (i:Nat) (x:V):(a.set i x).n=a.n:=rfl
@[simp] theorem push_n (a:Arr) (x:V):(a.push x).n=a.n+1:=rfl
theorem get_set(a:Arr)(i j:Nat)(x:V):(a.set i x).get j=if j=i then (if i<a.n then some x else none) else a.get j:=by
 rw [get_eq,get_eq];unfold set;simp only [T.get_set]
 by_cases h:j=i
 ·subst h;simp
 ·simp [h]
theorem get_push(a:Arr)(j:Nat)(x:V):(a.push x).get j=if j=a.n then some x else a.get j:=by
 rw [get_eq,get_eq];unfold push;simp only [T.get_set,Nat.succ_eq_add_one]
 by_cases h:j=a.n
 ·subst h;simp
 ·by_cases h2:j<a.n
  ·rw [if_pos (by omega),if_neg h,if_pos h2,if_neg h]
  ·rw [if_neg (by omega),if_neg h,if_neg h2]
@[simp] theorem make_n (n:Nat) (z:List V):(make n z).n=n:=rfl
theorem get_make(n:Nat)(z:List V)(j:Nat):(make n z).get j=if j<n then z[j % z.length]? else none:=by
 rw [get_eq];unfold make;simp only [T.get_leaf]
theorem pushAll_cons(x:V)(l:List V)(a:Arr):pushAll (x :: l) a=pushAll l (a.push x):=rfl
theorem pushAll_n(l:List V):∀ a:Arr,(pushAll l a).n=a.n+l.length:=by
 induction l with
 | nil=>intro a;rfl
 | cons x l ih=>intro a;rw [pushAll_cons,ih,push_n,List.length_cons];omega
theorem get_pushAll(l:List V):∀ (a:Arr) (j:Nat),(pushAll l a).get j=if j<a.n then a.get j else l[j-a.n]?:=by
 induction l with
 | nil =>
  intro a j
  show a.get j=_
  by_cases h:j<a.n
  ·rw [if_pos h]
  ·rw [if_neg h,get_eq,if_neg h];rfl
 | cons x l ih =>
  intro a j
  rw [pushAll_cons,ih,push_n,get_push]
  by_cases h:j<a.n
  ·rw [if_pos (by omega),if_pos h,if_neg (by omega)]
  ·rw [if_neg h]
   by_cases h2:j=a.n
   ·subst h2;simp
   ·rw [if_neg (by omega),show j-a.n=(j-(a.n+1))+1 from by omega,List.getElem?_cons_succ]
@[simp] theorem ofList_n (l:List V):(ofList l).n=l.length:=by unfold ofList;rw [pushAll_n];simp [empty]
theorem get_ofList(l:List V)(j:Nat):(ofList l).get j=l[j]?:=by
 unfold ofList;rw [get_pushAll];simp [empty]
end Arr
structure Blk where
 cells:Arr
 minL:Nat
 fz:Nat
 ro:Bool
 e:Nat
structure AH where
 next:Nat
 low:Nat
 m:T Blk
namespace AH
noncomputable def get(h:AH)(b:Nat):Option Blk:=h.m.get b
end AH
abbrev Rho:=Nat→Nat→Option (Nat×Int×Nat)
def Rho.le(ρ ρ':Rho):Prop:=∀ b L x,ρ b L=some x→ρ' b L=some x
theorem Rho.le_refl(ρ:Rho):ρ.le ρ:=fun _ _ _ h=>h
theorem Rho.le_trans{a b c:Rho}(h:a.le b)(k:b.le c):a.le c:=fun _ _ _ hx=>k _ _ _ (h _ _ _ hx)
def At(ρ:Rho)(a:A)(c:Addr):Prop:=∃ cb sh S,ρ a.b a.L=some (cb,sh,S)∧sh≤a.o∧c=⟨cb,((a.o:Int)-sh).toNat,none⟩
theorem At.mono{ρ ρ':Rho}{a:A}{c:Addr}(h:At ρ a c)(hle:ρ.le ρ'):At ρ' a c:=by
 obtain ⟨cb,sh,S,h1,h2,h3⟩:=h
 exact ⟨cb,sh,S,hle _ _ _ h1,h2,h3⟩
mutual
def R(ρ:Rho):V→Value→Prop
 | .bad,_=>True
 | .bool b,v=>v=.bool b
 | .int k n,v=>v=.int k n
 | .str s,v=>∃ t:ByteArray,v=.string t∧t.data.toList.map UInt8.toNat=s
 | .ptr a,v=>∃ c,v=.pointer (some c)∧At ρ a c
 | .nilptr,v=>v=.pointer none
 | .slice a n cap ex z,v=>∃ cb sh S cc,v=.slice (some ⟨cb,((a.o:Int)-sh).toNat,none⟩) n cc∧ρ a.b a.L=some (cb,sh,S)∧sh≤a.o∧cap≤cc∧(ex=true→cc=cap)∧n≤cap∧((a.o:Int)-sh).toNat+cc*z≤S
 | .nilslice,v=>v=.slice none 0 0
 | .loose,v=>∃ c cc,v=.slice (some c) 0 cc
 | .func f fs cs,v=>∃ xs ys,v=.func (.func f) xs ys∧RL ρ fs xs.toList∧RL ρ cs ys.toList
 | .nilFunc,v=>v=.nilFunc
 | .iface t x,v=>∃ y,v=.iface t y∧R ρ x y
 | .nilIface,v=>v=.nilIface
 | .agg cs,v=>∃ xs,v=.agg xs∧RL ρ cs xs.toList
 | .tuple cs,v=>∃ xs,v=.tuple xs∧RL ρ cs xs.toList
def RL(ρ:Rho):List V→List Value→Prop
 | [],ys=>ys=[]
 | x :: xs,ys=>∃ z zs,ys=z :: zs∧R ρ x z∧RL ρ xs zs
end
theorem RL_cons{ρ:Rho}{x:V}{xs:List V}{y:Value}{ys:List Value}:RL ρ (x :: xs) (y :: ys)↔R ρ x y∧RL ρ xs ys:=by
 constructor
 ·rintro ⟨z,zs,h,h1,h2⟩
  cases h
  exact ⟨h1,h2⟩
 ·rintro ⟨h1,h2⟩
  exact ⟨_,_,rfl,h1,h2⟩
theorem RL.length{ρ:Rho}:∀ {xs:List V} {ys:List Value},RL ρ xs ys→xs.length=ys.length:=by
 intro xs
 induction xs with
 | nil=>intro ys h;rw [show ys=[] from h];rfl
 | cons x xs ih =>
  rintro ys ⟨z,zs,rfl,_,h⟩
  simp [ih h]
theorem RL.get{ρ:Rho}:∀ {xs:List V} {ys:List Value},RL ρ xs ys→∀ {i:Nat} {x:V},xs[i]?=some x→∃ y,ys[i]?=some y∧R ρ x y:=by
 intro xs
 induction xs with
 | nil=>intro ys h i x hx;simp at hx
 | cons x xs ih =>
  rintro ys ⟨z,zs,rfl,hz,h⟩ i x' hx
  cases i with
  | zero=>simp at hx;subst hx;exact ⟨z,by simp,hz⟩
  | succ i=>simp at hx;obtain ⟨y,h1,h2⟩:=ih h hx;exact ⟨y,by simpa using h1,h2⟩
theorem RL.of_get{ρ:Rho}:∀ {xs:List V} {ys:List Value},xs.length=ys.length→(∀ (i:Nat) (x:V) (y:Value),xs[i]?=some x→ys[i]?=some y→R ρ x y)→RL ρ xs ys:=by
 intro xs
 induction xs with
 | nil=>intro ys h _;exact List.length_eq_zero_iff.1 h.symm
 | cons x xs ih =>
  intro ys h hg
  cases ys with
  | nil=>simp at h
  | cons y ys =>
   refine ⟨y,ys,rfl,hg 0 x y (by simp) (by simp),ih (by simpa using h) (fun i a b ha hb=>hg (i+1) a b (by simpa using ha) (by simpa using hb))⟩
theorem RL.append{ρ:Rho}:∀ {xs:List V} {ys:List Value} {xs':List V} {ys':List Value},RL ρ xs ys→RL ρ xs' ys'→RL ρ (xs++xs') (ys++ys'):=by
 intro xs
 induction xs with
 | nil=>intro ys xs' ys' h h';rw [show ys=[] from h];exact h'
 | cons x xs ih =>
  rintro ys xs' ys' ⟨z,zs,rfl,hz,h⟩ h'
  exact ⟨z,zs++ys',rfl,hz,ih h h'⟩
theorem RL.replicate{ρ:Rho}{x:V}{y:Value}(h:R ρ x y)(n:Nat):RL ρ (List.replicate n x) (List.replicate n y):=by
 induction n with
 | zero=>exact rfl
 | succ n ih=>exact ⟨_,_,rfl,h,ih⟩
theorem RL.take{ρ:Rho}:∀ {xs:List V} {ys:List Value},RL ρ xs ys→∀ n,RL ρ (xs.take n) (ys.take n):=by
 intro xs
 induction xs with
 | nil=>intro ys h n;rw [show ys=[] from h];simp;exact rfl
 | cons x xs ih =>
  rintro ys ⟨z,zs,rfl,hz,h⟩ n
  cases n with
  | zero=>exact rfl
  | succ n=>exact ⟨z,zs.take n,rfl,hz,ih h n⟩
theorem RL.drop{ρ:Rho}:∀ {xs:List V} {ys:List Value},RL ρ xs ys→∀ n,RL ρ (xs.drop n) (ys.drop n):=by
 intro xs
 induction xs with
 | nil=>intro ys h n;rw [show ys=[] from h];simp;exact rfl
 | cons x xs ih =>
  rintro ys ⟨z,zs,rfl,hz,h⟩ n
  cases n with
  | zero=>exact ⟨z,zs,rfl,hz,h⟩
  | succ n=>exact ih h n
mutual
theorem R.mono{ρ ρ':Rho}(hle:ρ.le ρ'):∀ {v:V} {c:Value},R ρ v c→R ρ' v c
 | .bad,_,h=>h
 | .bool _,_,h=>h
 | .int _ _,_,h=>h
 | .str _,_,h=>h
 | .ptr _,_,⟨c,h1,h2⟩=>⟨c,h1,h2.mono hle⟩
 | .nilptr,_,h=>h
 | .slice ..,_,⟨cb,sh,S,cc,h1,h2,h3⟩=>⟨cb,sh,S,cc,h1,hle _ _ _ h2,h3⟩
 | .nilslice,_,h=>h
 | .loose,_,h=>h
 | .func ..,_,⟨xs,ys,h1,h2,h3⟩=>⟨xs,ys,h1,RL.mono hle h2,RL.mono hle h3⟩
 | .nilFunc,_,h=>h
 | .iface ..,_,⟨y,h1,h2⟩=>⟨y,h1,R.mono hle h2⟩
 | .nilIface,_,h=>h
 | .agg _,_,⟨xs,h1,h2⟩=>⟨xs,h1,RL.mono hle h2⟩
 | .tuple _,_,⟨xs,h1,h2⟩=>⟨xs,h1,RL.mono hle h2⟩
theorem RL.mono{ρ ρ':Rho}(hle:ρ.le ρ'):∀ {vs:List V} {cs:List Value},RL ρ vs cs→RL ρ' vs cs
 | [],_,h=>h
 | _ :: _,_,⟨z,zs,h1,h2,h3⟩=>⟨z,zs,h1,R.mono hle h2,RL.mono hle h3⟩
end
def BlkOK(ρ:Rho)(k:Blk)(L cb:Nat)(sh:Int)(S:Nat)(w:World):Prop :=
 ∃ c lo hi,w.heap[cb]?=some (.cells c k.e (lo,hi))∧c.size=S∧((L:Int)-sh).toNat≤S∧(∀ (j:Nat) v,sh≤j→j<L→k.cells.get j=some v→∃ u,c[((j:Int)-sh).toNat]?=some u∧R ρ v u) ∧
  (k.ro=false→(∀ (i:Nat),(k.fz:Int)≤i+sh→i<S→¬(lo≤i∧i<hi))∧lo≤hi∧0≤sh)
theorem BlkOK.mono{ρ ρ':Rho}{k:Blk}{L cb:Nat}{sh:Int}{S:Nat}{w w':World}(h:BlkOK ρ k L cb sh S w)(hle:ρ.le ρ')(hw:w'.heap[cb]?=w.heap[cb]?):BlkOK ρ' k L cb sh S w':=by
 obtain ⟨c,lo,hi,h1,h2,h3,h4,h5⟩:=h
 exact ⟨c,lo,hi,hw.trans h1,h2,h3,fun j v hj hL hg=>let ⟨u,hu,hR⟩:=h4 j v hj hL hg;⟨u,hu,hR.mono hle⟩,h5⟩
structure HR (ρ:Rho) (h:AH) (w:World):Prop where
 fresh:∀ b L x,ρ b L=some x→b<h.next
 lives:∀ b k,h.get b=some k→b<h.next
 bound:∀ b L cb x,ρ b L=some (cb,x)→cb<w.heap.size
 inj:∀ b L b' L' cb x x' k,ρ b L=some (cb,x)→ρ b' L'=some (cb,x')→h.get b=some k→k.ro=false→b=b'∧x=x'
 top:∀ b k L x,h.get b=some k→ρ b L=some x→L≤k.cells.n
 blk:∀ b k L cb sh S,h.get b=some k→ρ b L=some (cb,sh,S)→k.minL≤L→BlkOK ρ k L cb sh S w
def Owned(ρ:Rho)(h:AH)(i:Nat):Prop:=∃ b L x k,ρ b L=some (i,x)∧h.get b=some k∧k.ro=false
structure Step (ρ:Rho) (h:AH) (w:World) (ρ':Rho) (h':AH) (w':World):Prop where
 le:ρ.le ρ'
 cons:∀ b L cb x,ρ' b L=some (cb,x)→cb<w.heap.size→∃ L0 x0,ρ b L0=some (cb,x0)
 ro:∀ b k',h'.get b=some k'→b<h.next→∃ k,h.get b=some k∧k'.ro=k.ro
 next:h.next≤h'.next
 os:w'.os=w.os
 tape:w'.tape=w.tape
 output:w'.output=w.output
 size:w.heap.size≤w'.heap.size
 keep:∀ i,i<w.heap.size→¬Owned ρ h i→w'.heap[i]?=w.heap[i]?
 lowle:h'.low≤h.low
 quiet:∀ b,b<h'.low→b<h.next→h'.get b=h.get b
theorem Step.refl(ρ:Rho)(h:AH)(w:World):Step ρ h w ρ h w :=
 ⟨Rho.le_refl ρ,fun _ L _ sh hx _=>⟨L,sh,hx⟩,fun _ k' hk _=>⟨k',hk,rfl⟩,Nat.le_refl _,rfl,rfl,rfl,Nat.le_refl _,fun _ _ _=>rfl,Nat.le_refl _,fun _ _ _=>rfl⟩
theorem Step.trans{ρ ρ' ρ'':Rho}{h h' h'':AH}{w w' w'':World}(hr:HR ρ h w)(a:Step ρ h w ρ' h' w')(b:Step ρ' h' w' ρ'' h'' w''):Step ρ h w ρ'' h'' w'' where
 le:=Rho.le_trans a.le b.le
 cons:=fun x L cb sh hx hlt=>by
  obtain ⟨L0,sh0,h0⟩:=b.cons x L cb sh hx (Nat.lt_of_lt_of_le hlt a.size)
  exact a.cons x L0 cb sh0 h0 hlt
 ro:=fun x k'' hk hx=>by
  obtain ⟨k',hk',e'⟩:=b.ro x k'' hk (Nat.lt_of_lt_of_le hx a.next)
  obtain ⟨k,hk0,e⟩:=a.ro x k' hk' hx
  exact ⟨k,hk0,e'.trans e⟩
 next:=Nat.le_trans a.next b.next
 os:=b.os.trans a.os
 tape:=b.tape.trans a.tape
 output:=b.output.trans a.output
 size:=Nat.le_trans a.size b.size
 keep:=fun i hi hn=>by
  refine (b.keep i (Nat.lt_of_lt_of_le hi a.size) ?_).trans (a.keep i hi hn)
  rintro ⟨x,L,sh,k',hx,hk',hro⟩
  obtain ⟨L0,sh0,h0⟩:=a.cons x L i sh hx hi
  obtain ⟨k,hk,e⟩:=a.ro x k' hk' (hr.fresh _ _ _ h0)
  exact hn ⟨x,L0,sh0,k,h0,hk,by rw [← e];exact hro⟩
 lowle:=Nat.le_trans b.lowle a.lowle
 quiet:=fun x hx hn=>(b.quiet x hx (Nat.lt_of_lt_of_le hn a.next)).trans (a.quiet x (Nat.lt_of_lt_of_le hx b.lowle) hn)
end Go.Proofs.YtcmhoboglapbdaaDoor.Ev
namespace Go.Proofs.YtcmhoboglapbdaaDoor.Ev
open Go
namespace V
def cells:V→List V
 | .agg cs=>cs
 | v=>[v]
def cell:V→Bool
 | .agg _ | .tuple _ | .bad=>false
 | _=>true
def isBad:V→Bool
 | .bad=>true
 | _=>false
end V
theorem R_cell{ρ:Rho}{v:V}{u:Value}(h:R ρ v u)(hc:v.cell=true):u.oneCell'=true:=by
 cases v <;> simp only [V.cell,Bool.false_eq_true] at hc
 case bool=>rw [show u=_ from h];rfl
 case int=>rw [show u=_ from h];rfl
 case str=>obtain ⟨t,rfl,_⟩:=h;rfl
 case ptr=>obtain ⟨c,rfl,_⟩:=h;rfl
 case nilptr=>rw [show u=_ from h];rfl
 case slice=>obtain ⟨cb,sh,S,cc,rfl,_⟩:=h;rfl
 case nilslice=>rw [show u=_ from h];rfl
 case loose=>obtain ⟨c,cc,rfl⟩:=h;rfl
 case func=>obtain ⟨xs,ys,rfl,_⟩:=h;rfl
 case nilFunc=>rw [show u=_ from h];rfl
 case iface=>obtain ⟨y,rfl,_⟩:=h;rfl
 case nilIface=>rw [show u=_ from h];rfl
theorem R_cells_list{ρ:Rho}{v:V}{u:Value}(h:R ρ v u)(hb:v.isBad=false):RL ρ v.cells u.cells.toList:=by
 cases v
 case bad=>cases hb
 case agg cs=>obtain ⟨xs,rfl,h⟩:=h;exact h
 case tuple cs=>obtain ⟨xs,rfl,h'⟩:=h;exact ⟨_,[],rfl,⟨xs,rfl,h'⟩,rfl⟩
 case bool=>rw [show u=_ from h];exact ⟨_,[],rfl,rfl,rfl⟩
 case int=>rw [show u=_ from h];exact ⟨_,[],rfl,rfl,rfl⟩
 case str=>obtain ⟨t,rfl,h'⟩:=h;exact ⟨_,[],rfl,⟨t,rfl,h'⟩,rfl⟩
 case ptr=>obtain ⟨c,rfl,h'⟩:=h;exact ⟨_,[],rfl,⟨c,rfl,h'⟩,rfl⟩
 case nilptr=>rw [show u=_ from h];exact ⟨_,[],rfl,rfl,rfl⟩
 case slice=>obtain ⟨cb,sh,S,cc,rfl,h'⟩:=h;exact ⟨_,[],rfl,⟨cb,sh,S,cc,rfl,h'⟩,rfl⟩
 case nilslice=>rw [show u=_ from h];exact ⟨_,[],rfl,rfl,rfl⟩
 case loose=>obtain ⟨c,cc,rfl⟩:=h;exact ⟨_,[],rfl,⟨c,cc,rfl⟩,rfl⟩
 case func=>obtain ⟨xs,ys,rfl,h'⟩:=h;exact ⟨_,[],rfl,⟨xs,ys,rfl,h'⟩,rfl⟩
 case nilFunc=>rw [show u=_ from h];exact ⟨_,[],rfl,rfl,rfl⟩
 case iface=>obtain ⟨y,rfl,h'⟩:=h;exact ⟨_,[],rfl,⟨y,rfl,h'⟩,rfl⟩
 case nilIface=>rw [show u=_ from h];exact ⟨_,[],rfl,rfl,rfl⟩
theorem RL_oneCell{ρ:Rho}:∀ {vs:List V} {us:List Value},RL ρ vs us→vs.all V.cell=true→∀ u∈us,u.oneCell'=true:=by
 intro vs
 induction vs with
 | nil=>intro us h _ u hu;rw [show us=[] from h] at hu;cases hu
 | cons v vs ih =>
  rintro us ⟨z,zs,rfl,hz,h⟩ hc u hu
  simp only [List.all_cons,Bool.and_eq_true] at hc
  cases hu with
  | head=>exact R_cell hz hc.1
  | tail _ hu=>exact ih h hc.2 u hu
noncomputable def readL(c:Arr)(n:Nat):Nat→Option (List V) :=
 Nat.rec (fun _=>some []) (fun _ ih o=>Option.rec none (fun v=>Option.rec none (fun l=>some (v :: l)) (ih (Nat.succ o))) (c.get o)) n
theorem readL_zero(c:Arr)(o:Nat):readL c 0 o=some []:=rfl
theorem readL_succ(c:Arr)(n o:Nat):readL c (n+1) o=(c.get o).bind fun v=>(readL c n (o+1)).map (v :: ·):=by
 have h:readL c (n+1) o=Option.rec (motive:=fun _=>Option (List V)) none (fun v=>Option.rec (motive:=fun _=>Option (List V)) none (fun l=>some (v :: l)) (readL c n (o+1))) (c.get o):=rfl
 rw [h]
 cases c.get o with
 | none=>rfl
 | some v=>cases readL c n (o+1) <;> rfl
theorem readL_spec{c:Arr}:∀ {n o:Nat} {l:List V},readL c n o=some l→l.length=n∧∀ j v,l[j]?=some v→c.get (o+j)=some v:=by
 intro n
 induction n with
 | zero=>intro o l h;rw [readL_zero] at h;cases h;exact ⟨rfl,fun j v hv=>by simp at hv⟩
 | succ n ih =>
  intro o l h
  rw [readL_succ] at h
  cases hg:c.get o with
  | none=>rw [hg] at h;cases h
  | some v =>
   rw [hg] at h
   cases hr:readL c n (o+1) with
   | none=>rw [hr] at h;cases h
   | some l' =>
    rw [hr] at h
    cases h
    obtain ⟨h1,h2⟩:=ih hr
    refine ⟨by simp [h1],fun j x hx=>?_⟩
    cases j with
    | zero=>simp at hx;subst hx;exact hg
    | succ j=>simp at hx;have:=h2 j x hx;rw [show o+(j+1)=o+1+j from by omega];exact this
theorem readL_of{c:Arr}:∀ {l:List V} {o:Nat},(∀ j v,l[j]?=some v→c.get (o+j)=some v)→readL c l.length o=some l:=by
 intro l
 induction l with
 | nil=>intro o _;rfl
 | cons v l ih =>
  intro o h
  have h0:c.get o=some v:=h 0 v (by simp)
  rw [List.length_cons,readL_succ,h0,ih (fun j x hx=>by have:=h (j+1) x (by simpa using hx);rw [show o+1+j=o+(j+1) from by omega];exact this)]
  rfl
noncomputable def jbj(h:AH)(a:A)(n:Nat):Option (List V) :=
 Option.rec none (fun k=>bif Nat.ble k.minL a.L && (Nat.ble a.L k.cells.n && Nat.ble (Nat.add a.o n) a.L) then readL k.cells n a.o else none) (h.get a.b)
theorem readN_eq(h:AH)(a:A)(n:Nat):jbj h a n=(h.get a.b).bind fun k=>if k.minL≤a.L∧a.L≤k.cells.n∧a.o+n≤a.L then readL k.cells n a.o else none:=by
 have e:jbj h a n=Option.rec (motive:=fun _=>Option (List V)) none (fun k=>bif Nat.ble k.minL a.L && (Nat.ble a.L k.cells.n && Nat.ble (a.o+n) a.L) then readL k.cells n a.o else none) (h.get a.b):=rfl
 rw [e]
 cases h.get a.b with
 | none=>rfl
 | some k =>
  show (bif _ then _ else _)=(if _ then _ else _)
  by_cases hc:k.minL≤a.L∧a.L≤k.cells.n∧a.o+n≤a.L
  ·rw [if_pos hc,Nat.ble_eq_true_of_le hc.1,Nat.ble_eq_true_of_le hc.2.1,Nat.ble_eq_true_of_le hc.2.2];rfl
  ·rw [if_neg hc]
   cases h1:Nat.ble k.minL a.L && (Nat.ble a.L k.cells.n && Nat.ble (a.o+n) a.L) with
   | false=>rfl
   | true=>simp only [Bool.and_eq_true,Nat.ble_eq] at h1;exact absurd h1 hc
theorem jcq{ρ:Rho}{h:AH}{w:World}(hr:HR ρ h w){a:A}{c:Addr}(ha:At ρ a c){n:Nat}{vs:List V}(hv:jbj h a n=some vs) :
  ∃ us:List Value,us.length=n∧RL ρ vs us∧∀ j u,us[j]?=some u→w.cell? (c.add j)=some u:=by
 rw [readN_eq] at hv
 cases hk:h.get a.b with
 | none=>rw [hk] at hv;cases hv
 | some k =>
  rw [hk] at hv
  simp only [Option.bind_some] at hv
  split at hv
  case isFalse=>cases hv
  rename_i hc
  obtain ⟨h1,h2,h3⟩:=hc
  obtain ⟨cb,sh,S,hρ,hsh,rfl⟩:=ha
  obtain ⟨cs,lo,hi,g1,g2,g3,g4,_⟩:=hr.blk _ k _ cb sh S hk hρ h1
  obtain ⟨hlen,hget⟩:=readL_spec hv
  have hsz:n≠0→((a.o:Int)-sh).toNat+n≤cs.size:=fun hn=>by omega
  by_cases hn:n=0
  ·subst hn
   exact ⟨[],rfl,by rw [List.eq_nil_of_length_eq_zero hlen];exact rfl,fun j u hu=>by simp at hu⟩
  refine ⟨(cs.toList.drop (((a.o:Int)-sh).toNat)).take n,?_,?_,?_⟩
  ·have:=hsz hn
   rw [List.length_take,List.length_drop,Array.length_toList];omega
  ·refine RL.of_get ?_ ?_
   ·have:=hsz hn
    rw [hlen,List.length_take,List.length_drop]
    have e:cs.toList.length=cs.size:=Array.length_toList
    omega
   ·intro i x y hx hy
    have hi':i<n:=by rw [← hlen];exact (List.getElem?_eq_some_iff.1 hx).1
    obtain ⟨u,hu,hR⟩:=g4 (a.o+i) x (by omega) (by omega) (hget i x hx)
    rw [List.getElem?_take_of_lt hi',List.getElem?_drop,Array.getElem?_toList,show ((a.o:Int)-sh).toNat+i=(((a.o+i:Nat):Int)-sh).toNat from by omega,hu] at hy
    cases hy
    exact hR
  ·intro j u hu
   have hj:j<n:=by
    have:=(List.getElem?_eq_some_iff.1 hu).1
    rw [List.length_take] at this
    omega
   rw [List.getElem?_take_of_lt hj,List.getElem?_drop,Array.getElem?_toList] at hu
   unfold Addr.add World.cell?
   by_cases hj0:j=0
   ·subst hj0;simp only [if_true,g1,Option.isSome_none,Bool.false_eq_true,if_false];simpa using hu
   ·simp only [if_neg hj0,g1,Option.isSome_none,Bool.false_eq_true,if_false];exact hu
noncomputable def setL(vs:List V):Nat→Arr→Arr:=List.rec (fun _ c=>c) (fun v _ ih o c=>ih (Nat.succ o) (c.set o v)) vs
theorem setL_cons(v:V)(vs:List V)(o:Nat)(c:Arr):setL (v :: vs) o c=setL vs (o+1) (c.set o v):=rfl
theorem setL_n(vs:List V):∀ (o:Nat) (c:Arr),(setL vs o c).n=c.n:=by
 induction vs with
 | nil=>intro o c;rfl
 | cons v vs ih=>intro o c;rw [setL_cons,ih,Arr.set_n]
theorem get_setL(vs:List V):∀ (o:Nat) (c:Arr) (j:Nat),o+vs.length≤c.n→(setL vs o c).get j=if o≤j∧j<o+vs.length then vs[j-o]? else c.get j:=by
 induction vs with
 | nil=>intro o c j _;rw [if_neg (by simp only [List.length_nil];omega)];rfl
 | cons v vs ih =>
  intro o c j hle
  simp only [List.length_cons] at hle
  rw [setL_cons,ih _ _ _ (by rw [Arr.set_n];omega),Arr.get_set]
  by_cases h1:o+1≤j∧j<o+1+vs.length
  ·rw [if_pos h1,if_pos (by simp only [List.length_cons];omega),show j-o=(j-(o+1))+1 from by omega,List.getElem?_cons_succ]
  ·rw [if_neg h1]
   by_cases h2:j=o
   ·subst h2;rw [if_pos rfl,if_pos (by omega),if_pos (by simp only [List.length_cons];omega)];simp
   ·rw [if_neg h2,if_neg (by simp only [List.length_cons];omega)]
noncomputable def writeN(h:AH)(a:A)(vs:List V):Option AH :=
 Option.rec none (fun k=>bif Nat.beq a.L k.cells.n && (Nat.ble k.minL a.L && (Nat.ble k.fz a.o && (Nat.ble (Nat.add a.o vs.length) a.L && (vs.all V.cell && not k.ro)))) then
  some ⟨h.next,Nat.min h.low a.b,h.m.set a.b ⟨setL vs a.o k.cells,a.L,k.fz,k.ro,k.e⟩⟩ else none) (h.get a.b)
theorem writeN_inv{h h':AH}{a:A}{vs:List V}(hw:writeN h a vs=some h'):∃ k,h.get a.b=some k∧a.L=k.cells.n∧k.minL≤a.L∧k.fz≤a.o∧a.o+vs.length≤a.L∧vs.all V.cell=true∧k.ro=false ∧
  h'=⟨h.next,Nat.min h.low a.b,h.m.set a.b ⟨setL vs a.o k.cells,a.L,k.fz,k.ro,k.e⟩⟩:=by
 have e:writeN h a vs=Option.rec (motive:=fun _=>Option AH) none (fun k=>bif Nat.beq a.L k.cells.n && (Nat.ble k.minL a.L && (Nat.ble k.fz a.o && (Nat.ble (a.o+vs.length) a.L && (vs.all V.cell && not k.ro)))) then
  some ⟨h.next,Nat.min h.low a.b,h.m.set a.b ⟨setL vs a.o k.cells,a.L,k.fz,k.ro,k.e⟩⟩ else none) (h.get a.b):=rfl
 rw [e] at hw
 cases hk:h.get a.b with
 | none=>rw [hk] at hw;cases hw
 | some k =>
  rw [hk] at hw
  change (bif _ then _ else _)=_ at hw
  cases hc:Nat.beq a.L k.cells.n && (Nat.ble k.minL a.L && (Nat.ble k.fz a.o && (Nat.ble (a.o+vs.length) a.L && (vs.all V.cell && not k.ro)))) with
  | false=>rw [hc] at hw;cases hw
  | true =>
   rw [hc] at hw
   cases hw
   simp only [Bool.and_eq_true,Nat.ble_eq,Nat.beq_eq,Bool.not_eq_true'] at hc
   obtain ⟨h1,h2,h3,h4,h5,h6⟩:=hc
   exact ⟨k,rfl,h1,h2,h3,h4,h5,h6,rfl⟩
theorem store_run(P:Program)(cb off:Nat)(e:TypeId)(lo hi:Nat):∀ (us:List Value) (i:Nat) (w:World) (c:Array Value),w.heap[cb]?=some (.cells c e (lo,hi))→off+i+us.length≤c.size →
  (∀ u∈us,u.oneCell'=true)→(∀ j,i≤j→j<i+us.length→¬(lo≤off+j∧off+j<hi)) →
  ∃ w' c',(storeCells ⟨cb,off,none⟩ us i).run P w=.ok () w'∧w'.heap[cb]?=some (.cells c' e (lo,hi))∧c'.size=c.size ∧
   (∀ j,c'[j]?=if off+i≤j∧j<off+i+us.length then us[j-(off+i)]? else c[j]?) ∧
   (∀ x,x≠cb→w'.heap[x]?=w.heap[x]?)∧w'.heap.size=w.heap.size∧w'.os=w.os∧w'.tape=w.tape∧w'.output=w.output:=by
 intro us
 induction us with
 | nil =>
  intro i w c hc _ _ _
  exact ⟨w,c,rfl,hc,rfl,fun j=>by rw [if_neg (by simp only [List.length_nil];omega)],fun _ _=>rfl,rfl,rfl,rfl,rfl⟩
 | cons u us ih =>
  intro i w c hc hs h1 hf
  simp only [List.length_cons] at hs
  have hcell:w.cell? ⟨cb,off+i,none⟩=some c[off+i]:=by
   unfold World.cell?
   simp [hc,Array.getElem?_eq_getElem (show off+i<c.size by omega)]
  have hfz:w.frozen? ⟨cb,off+i,none⟩=false:=by
   unfold World.frozen?
   simp only [hc]
   have:=hf i (Nat.le_refl _) (by simp)
   rw [← Bool.not_eq_true]
   intro hh
   simp only [Bool.and_eq_true,decide_eq_true_eq] at hh
   exact this hh
  have hadd:(⟨cb,off,none⟩:Addr).add i=⟨cb,off+i,none⟩:=by
   unfold Addr.add
   by_cases h0:i=0
   ·subst h0;simp
   ·simp [h0]
  have hone:=h1 u (by simp)
  have hset:(w.setCell ⟨cb,off+i,none⟩ u).heap[cb]?=some (.cells (c.setIfInBounds (off+i) u) e (lo,hi)):=by
   simp [World.setCell,Array.getElem?_modify,hc]
  obtain ⟨w',c',g1,g2,g3,g4,g5,g6,g7,g8,g9⟩:=ih (i+1) (w.setCell ⟨cb,off+i,none⟩ u) (c.setIfInBounds (off+i) u) hset (by simp;omega) (fun x hx=>h1 x (by simp [hx])) (fun j hj hj2=>hf j (by omega) (by simp only [List.length_cons];omega))
  refine ⟨w',c',?_,g2,by simpa using g3,?_,?_,?_,?_,?_,?_⟩
  ·rw [← g1]
   show ((store ((⟨cb,off,none⟩:Addr).add i) u).bind fun _=>storeCells ⟨cb,off,none⟩ us (i+1)).run P w=_
   rw [hadd]
   cases u <;> simp only [Value.oneCell',Bool.false_eq_true] at hone <;> (unfold store;simp only [Sem.bind,Sem.run,hcell,hfz,Bool.false_eq_true,if_false])
  ·intro j
   rw [g4 j,List.length_cons]
   by_cases hj:off+(i+1)≤j∧j<off+(i+1)+us.length
   ·rw [if_pos hj,if_pos (by omega),show j-(off+i)=(j-(off+(i+1)))+1 from by omega,List.getElem?_cons_succ]
   ·rw [if_neg hj]
    by_cases hj2:j=off+i
    ·subst hj2
     rw [if_pos (by omega)]
     simp [Array.getElem?_setIfInBounds,show off+i<c.size by omega]
    ·rw [if_neg (by omega),Array.getElem?_setIfInBounds,if_neg (by omega)]
  ·intro x hx
   rw [g5 x hx]
   simp only [World.setCell,Array.getElem?_modify]
   rw [if_neg (fun h=>hx h.symm)]
  ·rw [g6];simp [World.setCell]
  ·rw [g7];rfl
  ·rw [g8];rfl
  ·rw [g9];rfl
theorem AH.get_set(h:AH)(n l b b':Nat)(k:Blk):(⟨n,l,h.m.set b k⟩:AH).get b'=if b'=b then some k else h.get b':=T.get_set _ _ _ _
theorem write_sound{ρ:Rho}{h h':AH}{w:World}(P:Program)(hr:HR ρ h w){a:A}{c:Addr}(ha:At ρ a c){vs:List V}{us:List Value}(hR:RL ρ vs us)(hw:writeN h a vs=some h') :
  ∃ w',(storeCells c us).run P w=.ok () w'∧HR ρ h' w'∧Step ρ h w ρ h' w':=by
 obtain ⟨k,hk,h1,h2,h3,h4,h5,h6,rfl⟩:=writeN_inv hw
 obtain ⟨cb,sh,S,hρ,hsh,rfl⟩:=ha
 obtain ⟨cs,lo,hi,g1,g2,g3,g4,g5⟩:=hr.blk _ k _ cb sh S hk hρ h2
 have hlen:=hR.length
 obtain ⟨w',c',f1,f2,f3,f4,f5,f6,f7,f8,f9⟩:=store_run P cb (((a.o:Int)-sh).toNat) k.e lo hi us 0 w cs g1 (by
  by_cases hz:us.length=0
  ·by_cases hz2:a.o≤a.L <;> omega
  ·omega) (RL_oneCell hR h5) (fun j _ hj=>(g5 h6).1 (((a.o:Int)-sh).toNat+j) (by omega) (by omega))
 have hget:∀ b',(⟨h.next,Nat.min h.low a.b,h.m.set a.b ⟨setL vs a.o k.cells,a.L,k.fz,k.ro,k.e⟩⟩:AH).get b'=if b'=a.b then some ⟨setL vs a.o k.cells,a.L,k.fz,k.ro,k.e⟩ else h.get b':=fun b'=>AH.get_set _ _ _ _ _ _
 refine ⟨w',f1,?_,?_⟩
 ·refine ⟨hr.fresh,?_,?_,?_,?_,?_⟩
  ·intro b k' hk'
   rw [hget] at hk'
   by_cases hb:b=a.b
   ·subst hb;exact hr.lives _ _ hk
   ·rw [if_neg hb] at hk';exact hr.lives _ _ hk'
  ·intro b L cb' x hx
   rw [f6];exact hr.bound _ _ _ _ hx
  ·intro b L b' L' cb' x x' k' q1 q2 hk' hro'
   rw [hget] at hk'
   by_cases hb:b=a.b
   ·subst hb;exact hr.inj _ _ _ _ _ _ _ _ q1 q2 hk h6
   ·rw [if_neg hb] at hk';exact hr.inj _ _ _ _ _ _ _ _ q1 q2 hk' hro'
  ·intro b k' L x hk' hx
   rw [hget] at hk'
   by_cases hb:b=a.b
   ·subst hb;rw [if_pos rfl] at hk';cases hk';simp only;rw [setL_n];exact hr.top _ _ _ _ hk hx
   ·rw [if_neg hb] at hk';exact hr.top _ _ _ _ hk' hx
  ·intro b k' L cb' sh' S' hk' hx hm
   rw [hget] at hk'
   by_cases hb:b=a.b
   ·subst hb
    rw [if_pos rfl] at hk'
    cases hk'
    have hL:=hr.top _ _ _ _ hk hx
    simp only at hm
    obtain rfl:L=a.L:=by omega
    rw [hρ] at hx
    cases hx
    refine ⟨c',lo,hi,f2,by rw [f3];exact g2,g3,?_,g5⟩
    intro j v hj hjL hv
    simp only at hv
    rw [get_setL _ _ _ _ (by omega)] at hv
    rw [f4]
    by_cases hj2:a.o≤j∧j<a.o+vs.length
    ·rw [if_pos hj2] at hv
     rw [if_pos (by omega),show ((j:Int)-sh).toNat-(((a.o:Int)-sh).toNat+0)=j-a.o from by omega]
     exact hR.get hv
    ·rw [if_neg hj2] at hv
     rw [if_neg (by omega)]
     exact g4 j v hj hjL hv
   ·rw [if_neg hb] at hk'
    refine (hr.blk b k' L cb' sh' S' hk' hx hm).mono (Rho.le_refl ρ) (f5 _ ?_)
    rintro rfl
    exact hb (hr.inj _ _ _ _ _ _ _ _ hρ hx hk h6).1.symm
 ·refine ⟨Rho.le_refl ρ,fun b L cb' x hx _=>⟨L,x,hx⟩,?_,Nat.le_refl _,f7,f8,f9,Nat.le_of_eq f6.symm,?_,Nat.min_le_left _ _,?_⟩
  ·intro b k' hk' _
   rw [hget] at hk'
   by_cases hb:b=a.b
   ·subst hb;rw [if_pos rfl] at hk';cases hk';exact ⟨k,hk,rfl⟩
   ·rw [if_neg hb] at hk';exact ⟨k',hk',rfl⟩
  ·intro i hi hn
   refine f5 i ?_
   rintro rfl
   exact hn ⟨_,_,_,k,hρ,hk,h6⟩
  ·intro b hb _
   have h0:Nat.min h.low a.b≤a.b:=Nat.min_le_right h.low a.b
   have hb':b<Nat.min h.low a.b:=hb
   rw [hget,if_neg (by omega)]
end Go.Proofs.YtcmhoboglapbdaaDoor.Ev
namespace Go.Proofs.YtcmhoboglapbdaaDoor.Ev
open Go
def Rho.put(ρ:Rho)(b L:Nat)(x:Nat×Int×Nat):Rho:=fun b' L'=>if b'=b∧L'=L then some x else ρ b' L'
theorem Rho.put_same(ρ:Rho)(b L:Nat)(x:Nat×Int×Nat):ρ.put b L x b L=some x:=by simp [Rho.put]
theorem Rho.put_inv{ρ:Rho}{b L b' L':Nat}{x y:Nat×Int×Nat}(h:ρ.put b L x b' L'=some y):(b'=b∧L'=L∧y=x)∨ρ b' L'=some y:=by
 unfold Rho.put at h
 split at h
 ·rename_i hc;cases h;exact .inl ⟨hc.1,hc.2,rfl⟩
 ·exact .inr h
theorem Rho.le_put{ρ:Rho}{b L:Nat}{x:Nat×Int×Nat}(h:∀ y,ρ b L=some y→False):ρ.le (ρ.put b L x):=by
 intro b' L' y hy
 unfold Rho.put
 rw [if_neg]
 ·exact hy
 ·rintro ⟨rfl,rfl⟩;exact h _ hy
noncomputable def AH.add(h:AH)(k:Blk):AH:=⟨Nat.succ h.next,h.low,h.m.set h.next k⟩
theorem AH.get_add(h:AH)(k:Blk)(b:Nat):(h.add k).get b=if b=h.next then some k else h.get b:=T.get_set _ _ _ _
theorem add_sound{ρ:Rho}{h:AH}{w w':World}(hr:HR ρ h w)(k:Blk)(C:Array Value)(lo hi:Nat)(hheap:w'.heap=w.heap.push (.cells C k.e (lo,hi)))(hos:w'.os=w.os)(htape:w'.tape=w.tape)(hout:w'.output=w.output)
  (hn:k.cells.n≤C.size) (hc:∀ j v,k.cells.get j=some v→∃ u,C[j]?=some u∧R ρ v u) (hf:∀ i,k.fz≤i→i<C.size→¬(lo≤i∧i<hi)) (hlh:lo≤hi) :
  ∃ ρ',HR ρ' (h.add k) w'∧Step ρ h w ρ' (h.add k) w'∧ρ' h.next k.cells.n=some (w.heap.size,0,C.size):=by
 have hno:∀ L y,ρ h.next L=some y→False:=fun L y hy=>absurd (hr.fresh _ _ _ hy) (Nat.lt_irrefl _)
 have hle:ρ.le (ρ.put h.next k.cells.n (w.heap.size,0,C.size)):=Rho.le_put (hno _)
 have hsize:w'.heap.size=w.heap.size+1:=by rw [hheap];simp
 have hold:∀ i,i<w.heap.size→w'.heap[i]?=w.heap[i]?:=fun i hi=>by rw [hheap,Array.getElem?_push,if_neg (by omega)]
 refine ⟨ρ.put h.next k.cells.n (w.heap.size,0,C.size),⟨?_,?_,?_,?_,?_,?_⟩,?_,Rho.put_same _ _ _ _⟩
 ·intro b L x hx
  rcases Rho.put_inv hx with ⟨rfl,_⟩ | hx
  ·exact Nat.lt_succ_self _
  ·exact Nat.lt_succ_of_lt (hr.fresh _ _ _ hx)
 ·intro b k' hk'
  rw [AH.get_add] at hk'
  by_cases hb:b=h.next
  ·subst hb;exact Nat.lt_succ_self _
  ·rw [if_neg hb] at hk';exact Nat.lt_succ_of_lt (hr.lives _ _ hk')
 ·intro b L cb x hx
  rcases Rho.put_inv hx with ⟨_,_,hy⟩ | hx
  ·cases hy;omega
  ·have:=hr.bound _ _ _ _ hx;omega
 ·intro b L b' L' cb x x' k' hx hx' hk' hro'
  rcases Rho.put_inv hx with ⟨e1,e2,hy⟩ | gx <;> rcases Rho.put_inv hx' with ⟨e1',e2',hy'⟩ | gx'
  ·cases hy;cases hy';exact ⟨e1.trans e1'.symm,rfl⟩
  ·cases hy;have:=hr.bound _ _ _ _ gx';omega
  ·cases hy';have:=hr.bound _ _ _ _ gx;omega
  ·rw [AH.get_add,if_neg (by have:=hr.fresh _ _ _ gx;omega)] at hk'
   exact hr.inj _ _ _ _ _ _ _ _ gx gx' hk' hro'
 ·intro b k' L x hk' hx
  rw [AH.get_add] at hk'
  by_cases hb:b=h.next
  ·subst hb;rw [if_pos rfl] at hk';cases hk'
   rcases Rho.put_inv hx with ⟨_,rfl,_⟩ | hx
   ·exact Nat.le_refl _
   ·exact absurd hx (fun hh=>hno _ _ hh)
  ·rw [if_neg hb] at hk'
   rcases Rho.put_inv hx with ⟨rfl,_⟩ | hx
   ·exact absurd rfl hb
   ·exact hr.top _ _ _ _ hk' hx
 ·intro b k' L cb sh S hk' hx hm
  rw [AH.get_add] at hk'
  by_cases hb:b=h.next
  ·subst hb;rw [if_pos rfl] at hk';cases hk'
   rcases Rho.put_inv hx with ⟨_,rfl,hy⟩ | hx
   ·cases hy
    refine ⟨C,lo,hi,by rw [hheap];simp,rfl,by omega,?_,fun _=>⟨fun i hi1 hi2=>hf i (by omega) hi2,hlh,Int.le_refl _⟩⟩
    intro j v _ _ hv
    obtain ⟨u,hu,hR⟩:=hc j v hv
    exact ⟨u,by simpa using hu,hR.mono hle⟩
   ·exact absurd hx (fun hh=>hno _ _ hh)
  ·rw [if_neg hb] at hk'
   rcases Rho.put_inv hx with ⟨rfl,_⟩ | hx
   ·exact absurd rfl hb
   ·exact (hr.blk _ _ _ _ _ _ hk' hx hm).mono hle (hold _ (hr.bound _ _ _ _ hx))
 ·refine ⟨hle,?_,?_,Nat.le_succ _,hos,htape,hout,by omega,fun i hi _=>hold i hi,Nat.le_refl _,?_⟩
  ·intro b L cb x hx hlt
   rcases Rho.put_inv hx with ⟨_,_,hy⟩ | hx
   ·cases hy;omega
   ·exact ⟨L,x,hx⟩
  ·intro b k' hk' hb
   rw [AH.get_add,if_neg (by omega)] at hk'
   exact ⟨k',hk',rfl⟩
  ·intro b _ hb
   rw [AH.get_add,if_neg (by omega)]
noncomputable def Blk.more(k:Blk)(xs:List V):Blk:=⟨Arr.pushAll xs k.cells,k.minL,k.fz,k.ro,k.e⟩
noncomputable def AH.grow(h:AH)(b:Nat)(k:Blk)(xs:List V):AH:=⟨h.next,Nat.min h.low b,h.m.set b (k.more xs)⟩
theorem AH.get_grow(h:AH)(b:Nat)(k:Blk)(xs:List V)(b':Nat):(h.grow b k xs).get b'=if b'=b then some (k.more xs) else h.get b':=T.get_set _ _ _ _
section
variable {ρ:Rho} {h:AH} {w w':World} {b L cb S:Nat} {sh:Int} {k:Blk} {xs:List V}
theorem grow_core(hr:HR ρ h w)(hk:h.get b=some k)(hL:L=k.cells.n)(hx:xs≠[])(hρ:ρ b L=some (cb,sh,S))(hro:k.ro=false)(x:Nat×Int×Nat)
  (hos:w'.os=w.os) (htape:w'.tape=w.tape) (hout:w'.output=w.output) (hsize:w.heap.size≤w'.heap.size)
  (hx1:x.1<w'.heap.size) (hx2:x.1<w.heap.size→x.1=cb) (hx3:x.1=cb→x.2=(sh,S))
  (hnew:BlkOK (ρ.put b (L+xs.length) x) (k.more xs) (L+xs.length) x.1 x.2.1 x.2.2 w')
  (hsame:∀ L0 cb0 sh0 S0,ρ b L0=some (cb0,sh0,S0)→k.minL≤L0→BlkOK (ρ.put b (L+xs.length) x) (k.more xs) L0 cb0 sh0 S0 w')
  (hother:∀ i,i<w.heap.size→i≠cb→w'.heap[i]?=w.heap[i]?) :
  HR (ρ.put b (L+xs.length) x) (h.grow b k xs) w'∧Step ρ h w (ρ.put b (L+xs.length) x) (h.grow b k xs) w':=by
 have hpos:0<xs.length:=List.length_pos_iff.2 hx
 have hno:∀ y,ρ b (L+xs.length)=some y→False:=fun y hy=>by have:=hr.top _ _ _ _ hk hy;omega
 have hle:ρ.le (ρ.put b (L+xs.length) x):=Rho.le_put hno
 have hmn:(k.more xs).cells.n=k.cells.n+xs.length:=Arr.pushAll_n _ _
 constructor
 ·refine ⟨?_,?_,?_,?_,?_,?_⟩
  ·intro b' L' y hy
   rcases Rho.put_inv hy with ⟨rfl,_⟩ | hy
   ·exact hr.lives _ _ hk
   ·exact hr.fresh _ _ _ hy
  ·intro b' k' hk'
   rw [AH.get_grow] at hk'
   by_cases hb:b'=b
   ·subst hb;exact hr.lives _ _ hk
   ·rw [if_neg hb] at hk';exact hr.lives _ _ hk'
  ·intro b' L' cb' y hy
   rcases Rho.put_inv hy with ⟨_,_,hy⟩ | hy
   ·rw [show cb'=x.1 from by rw [← hy]];exact hx1
   ·exact Nat.lt_of_lt_of_le (hr.bound _ _ _ _ hy) hsize
  ·intro b1 L1 b2 L2 c y1 y2 k' h1 h2 hk' hro'
   rcases Rho.put_inv h1 with ⟨i1,j1,e1⟩ | g1 <;> rcases Rho.put_inv h2 with ⟨i2,j2,e2⟩ | g2
   ·subst e1;cases e2;exact ⟨i1.trans i2.symm,rfl⟩
   ·subst e1
    obtain rfl:c=cb:=hx2 (hr.bound _ _ _ _ g2)
    obtain ⟨q1,q2⟩:=hr.inj _ _ _ _ _ _ _ _ hρ g2 hk hro
    exact ⟨i1.trans q1,(hx3 rfl).trans q2⟩
   ·subst e2
    obtain rfl:c=cb:=hx2 (hr.bound _ _ _ _ g1)
    obtain ⟨q1,q2⟩:=hr.inj _ _ _ _ _ _ _ _ hρ g1 hk hro
    exact ⟨q1.symm.trans i2.symm,q2.symm.trans (hx3 rfl).symm⟩
   ·rw [AH.get_grow] at hk'
    by_cases hb:b1=b
    ·subst hb;exact hr.inj _ _ _ _ _ _ _ _ g1 g2 hk hro
    ·rw [if_neg hb] at hk';exact hr.inj _ _ _ _ _ _ _ _ g1 g2 hk' hro'
  ·intro b' k' L' y hk' hy
   rw [AH.get_grow] at hk'
   by_cases hb:b'=b
   ·subst hb;rw [if_pos rfl] at hk';cases hk'
    rcases Rho.put_inv hy with ⟨_,rfl,_⟩ | hy
    ·omega
    ·have:=hr.top _ _ _ _ hk hy;omega
   ·rw [if_neg hb] at hk'
    rcases Rho.put_inv hy with ⟨rfl,_⟩ | hy
    ·exact absurd rfl hb
    ·exact hr.top _ _ _ _ hk' hy
  ·intro b' k' L' cb' sh' S' hk' hy hm
   rw [AH.get_grow] at hk'
   by_cases hb:b'=b
   ·subst hb;rw [if_pos rfl] at hk';cases hk'
    rcases Rho.put_inv hy with ⟨_,rfl,e⟩ | hy
    ·subst e;exact hnew
    ·exact hsame _ _ _ _ hy hm
   ·rw [if_neg hb] at hk'
    rcases Rho.put_inv hy with ⟨rfl,_⟩ | hy
    ·exact absurd rfl hb
    ·refine (hr.blk _ _ _ _ _ _ hk' hy hm).mono hle (hother _ (hr.bound _ _ _ _ hy) ?_)
     rintro rfl
     exact hb (hr.inj _ _ _ _ _ _ _ _ hρ hy hk hro).1.symm
 ·refine ⟨hle,?_,?_,Nat.le_refl _,hos,htape,hout,hsize,?_,Nat.min_le_left _ _,?_⟩
  ·intro b' L' c y hy hlt
   rcases Rho.put_inv hy with ⟨rfl,_,e⟩ | hy
   ·have hc:c=x.1:=by rw [← e]
    have:x.1=cb:=hx2 (by rw [← hc];exact hlt)
    exact ⟨L,(sh,S),by rw [hc,this];exact hρ⟩
   ·exact ⟨L',y,hy⟩
  ·intro b' k' hk' _
   rw [AH.get_grow] at hk'
   by_cases hb:b'=b
   ·subst hb;rw [if_pos rfl] at hk';cases hk';exact ⟨k,hk,rfl⟩
   ·rw [if_neg hb] at hk';exact ⟨k',hk',rfl⟩
  ·intro i hi hn
   refine hother i hi ?_
   rintro rfl
   exact hn ⟨_,_,_,k,hρ,hk,hro⟩
  ·intro b' hb _
   have h0:Nat.min h.low b≤b:=Nat.min_le_right h.low b
   have hb':b'<Nat.min h.low b:=hb
   rw [AH.get_grow,if_neg (by omega)]
theorem get_more(k:Blk)(xs:List V)(j:Nat):(k.more xs).cells.get j=if j<k.cells.n then k.cells.get j else xs[j-k.cells.n]?:=Arr.get_pushAll _ _ _
theorem grow_here(P:Program)(hr:HR ρ h w)(hk:h.get b=some k)(hL:L=k.cells.n)(hx:xs≠[])(hρ:ρ b L=some (cb,sh,S))(hro:k.ro=false)(hm:k.minL≤L)(hfz:k.fz≤L)(hsh:sh≤L)
  {us:List Value} (hR:RL ρ xs us) (hc:xs.all V.cell=true) (hroom:((L:Int)-sh).toNat+us.length≤S) :
  ∃ w',(storeCells ⟨cb,((L:Int)-sh).toNat,none⟩ us).run P w=.ok () w'∧HR (ρ.put b (L+xs.length) (cb,sh,S)) (h.grow b k xs) w'∧Step ρ h w (ρ.put b (L+xs.length) (cb,sh,S)) (h.grow b k xs) w':=by
 obtain ⟨cs,lo,hi,g1,g2,g3,g4,g5⟩:=hr.blk _ k _ cb sh S hk hρ hm
 have hlen:=hR.length
 have hno:∀ y,ρ b (L+xs.length)=some y→False:=fun y hy=>by
  have:=hr.top _ _ _ _ hk hy
  have:0<xs.length:=List.length_pos_iff.2 hx
  omega
 have hle:ρ.le (ρ.put b (L+xs.length) (cb,sh,S)):=Rho.le_put hno
 obtain ⟨w',c',f1,f2,f3,f4,f5,f6,f7,f8,f9⟩:=store_run P cb (((L:Int)-sh).toNat) k.e lo hi us 0 w cs g1 (by omega) (RL_oneCell hR hc) (fun j _ hj=>(g5 hro).1 (((L:Int)-sh).toNat+j) (by omega) (by omega))
 refine ⟨w',f1,grow_core hr hk hL hx hρ hro _ f7 f8 f9 (Nat.le_of_eq f6.symm) (by rw [f6];exact hr.bound _ _ _ _ hρ) (fun _=>rfl) (fun _=>rfl) ?_ ?_ (fun i _ hne=>f5 i hne)⟩
 ·refine ⟨c',lo,hi,f2,by rw [f3];exact g2,by simp only;omega,?_,g5⟩
  intro j v hj hjL hv
  simp only at hj hjL ⊢
  rw [get_more] at hv
  rw [f4]
  by_cases hj2:j<k.cells.n
  ·rw [if_pos hj2] at hv
   rw [if_neg (by omega)]
   obtain ⟨u,hu,hRu⟩:=g4 j v hj (by omega) hv
   exact ⟨u,hu,hRu.mono hle⟩
  ·rw [if_neg hj2] at hv
   rw [if_pos (by omega),show ((j:Int)-sh).toNat-(((L:Int)-sh).toNat+0)=j-k.cells.n from by omega]
   obtain ⟨u,hu,hRu⟩:=hR.get hv
   exact ⟨u,hu,hRu.mono hle⟩
 ·intro L0 cb0 sh0 S0 h0 hm0
  have hL0:=hr.top _ _ _ _ hk h0
  obtain ⟨cs0,lo0,hi0,q1,q2,q3,q4,q5⟩:=hr.blk _ k _ cb0 sh0 S0 hk h0 hm0
  by_cases hcb:cb0=cb
  ·subst hcb
   rw [g1] at q1
   cases q1
   refine ⟨c',lo,hi,f2,by rw [f3];exact q2,q3,?_,q5⟩
   intro j v hj hjL hv
   rw [get_more,if_pos (by omega)] at hv
   obtain ⟨u,hu,hRu⟩:=q4 j v hj hjL hv
   rw [f4]
   have hs:=(hr.inj _ _ _ _ _ _ _ _ hρ h0 hk hro).2
   cases hs
   rw [if_neg (by omega)]
   exact ⟨u,hu,hRu.mono hle⟩
  ·refine ⟨cs0,lo0,hi0,(f5 _ hcb).trans q1,q2,q3,?_,q5⟩
   intro j v hj hjL hv
   rw [get_more,if_pos (by omega)] at hv
   obtain ⟨u,hu,hRu⟩:=q4 j v hj hjL hv
   exact ⟨u,hu,hRu.mono hle⟩
theorem grow_there(hr:HR ρ h w)(hk:h.get b=some k)(hL:L=k.cells.n)(hx:xs≠[])(hρ:ρ b L=some (cb,sh,S))(hro:k.ro=false)(hm:k.minL≤L)(o:Nat)(ho:sh≤o)(hoL:o≤L)
  {us:List Value} (hR:RL ρ xs us) (C:Array Value) (hheap:w'.heap=w.heap.push (.cells C k.e (0,0))) (hos:w'.os=w.os) (htape:w'.tape=w.tape) (hout:w'.output=w.output)
  (hsize:L-o+us.length≤C.size) (hold:∀ i,i<L-o→C[i]?=(w.cell? ⟨cb,((o:Int)-sh).toNat+i,none⟩)) (hnew:∀ i,i<us.length→C[L-o+i]?=us[i]?) :
  HR (ρ.put b (L+xs.length) (w.heap.size,o,C.size)) (h.grow b k xs) w'∧Step ρ h w (ρ.put b (L+xs.length) (w.heap.size,o,C.size)) (h.grow b k xs) w':=by
 obtain ⟨cs,lo,hi,g1,g2,g3,g4,g5⟩:=hr.blk _ k _ cb sh S hk hρ hm
 have hlen:=hR.length
 have hcell:∀ i,w.cell? ⟨cb,i,none⟩=cs[i]?:=fun i=>by unfold World.cell?;simp [g1]
 have hno:∀ y,ρ b (L+xs.length)=some y→False:=fun y hy=>by
  have:=hr.top _ _ _ _ hk hy
  have:0<xs.length:=List.length_pos_iff.2 hx
  omega
 have hle:ρ.le (ρ.put b (L+xs.length) (w.heap.size,o,C.size)):=Rho.le_put hno
 have hkeep:∀ i,i<w.heap.size→w'.heap[i]?=w.heap[i]?:=fun i hi=>by rw [hheap,Array.getElem?_push,if_neg (by omega)]
 have hsz:w'.heap.size=w.heap.size+1:=by rw [hheap];simp
 refine grow_core hr hk hL hx hρ hro _ hos htape hout (by omega) (by simp only;omega) (fun hlt=>absurd hlt (by simp)) (fun heq=>?_) ?_ ?_ (fun i hi _=>hkeep i hi)
 ·simp only at heq;have:=hr.bound _ _ _ _ hρ;omega
 ·refine ⟨C,0,0,by rw [hheap];simp [Blk.more],rfl,by simp only;omega,?_,fun _=>⟨fun i _ _=>by omega,Nat.le_refl 0,Int.natCast_nonneg o⟩⟩
  intro j v hj hjL hv
  simp only at hj hjL ⊢
  rw [get_more] at hv
  by_cases hj2:j<k.cells.n
  ·rw [if_pos hj2] at hv
   obtain ⟨u,hu,hRu⟩:=g4 j v (by omega) (by omega) hv
   rw [show ((j:Int)-(o:Int)).toNat=j-o from by omega,hold _ (by omega),hcell,show ((o:Int)-sh).toNat+(j-o)=((j:Int)-sh).toNat from by omega]
   exact ⟨u,hu,hRu.mono hle⟩
  ·rw [if_neg hj2] at hv
   obtain ⟨u,hu,hRu⟩:=hR.get hv
   have hlt:=(List.getElem?_eq_some_iff.1 hu).1
   have:=hnew _ hlt
   rw [show L-o+(j-k.cells.n)=j-o from by omega] at this
   rw [show ((j:Int)-(o:Int)).toNat=j-o from by omega,this]
   exact ⟨u,hu,hRu.mono hle⟩
 ·intro L0 cb0 sh0 S0 h0 hm0
  have hL0:=hr.top _ _ _ _ hk h0
  obtain ⟨cs0,lo0,hi0,q1,q2,q3,q4,q5⟩:=hr.blk _ k _ cb0 sh0 S0 hk h0 hm0
  refine ⟨cs0,lo0,hi0,(hkeep _ (hr.bound _ _ _ _ h0)).trans q1,q2,q3,?_,q5⟩
  intro j v hj hjL hv
  rw [get_more,if_pos (by omega)] at hv
  obtain ⟨u,hu,hRu⟩:=q4 j v hj hjL hv
  exact ⟨u,hu,hRu.mono hle⟩
end
end Go.Proofs.YtcmhoboglapbdaaDoor.Ev
namespace Go.Proofs.YtcmhoboglapbdaaDoor.Ev
open Go
theorem map_toNat_inj:∀ {a b:List UInt8},a.map UInt8.toNat=b.map UInt8.toNat→a=b:=by
 intro a
 induction a with
 | nil=>intro b h;cases b with | nil=>rfl | cons=>simp at h
 | cons x a ih =>
  intro b h
  cases b with
  | nil=>simp at h
  | cons y b =>
   simp only [List.map_cons,List.cons.injEq] at h
   rw [UInt8.toNat_inj.1 h.1,ih h.2]
theorem toList_data(s:ByteArray):s.toList=s.data.toList:=by
 exact ByteArray.toList_eq s
def natsLt:List Nat→List Nat→Bool
 | _,[]=>false
 | [],_ :: _=>true
 | a :: x,b :: y=>Nat.blt a b || (Nat.beq a b && natsLt x y)
theorem natsLt_eq:∀ (a b:List UInt8),natsLt (a.map UInt8.toNat) (b.map UInt8.toNat)=Op.bytesLess a b:=by
 intro a
 induction a with
 | nil=>intro b;cases b <;> rfl
 | cons x a ih =>
  intro b
  cases b with
  | nil=>rfl
  | cons y b =>
   simp only [List.map_cons,natsLt,Op.bytesLess,ih]
   have h1:Nat.blt x.toNat y.toNat=decide (x<y):=by rw [Arr.blt_eq];simp [UInt8.lt_iff_toNat_lt]
   have h2:Nat.beq x.toNat y.toNat=(x==y):=by
    rw [Bool.eq_iff_iff];simp [UInt8.toNat_inj]
   rw [h1,h2]
def natsEq:List Nat→List Nat→Bool
 | [],[]=>true
 | a :: x,b :: y=>Nat.beq a b && natsEq x y
 | _,_=>false
theorem natsEq_eq:∀ (a b:List Nat),natsEq a b=(a==b):=by
 intro a
 induction a with
 | nil=>intro b;cases b <;> rfl
 | cons x a ih =>
  intro b
  cases b with
  | nil=>rfl
  | cons y b =>
   simp only [natsEq,ih,List.cons_beq_cons]
   congr 1
   rw [Bool.eq_iff_iff]
   simp
def intBin(op:BinOp)(k:IntKind)(a b:Int):Option V :=
 match op with
 | .add=>some (.int k (k.wrap (a+b)))
 | .sub=>some (.int k (k.wrap (a-b)))
 | .mul=>some (.int k (k.wrap (a*b)))
 | .quo=>if b=0 then none else some (.int k (k.wrap (a.tdiv b)))
 | .rem=>if b=0 then none else some (.int k (a.tmod b))
 | .and=>some (.int k (k.wrap (BitVec.ofInt k.bits a &&& BitVec.ofInt k.bits b).toNat))
 | .or=>some (.int k (k.wrap (BitVec.ofInt k.bits a ||| BitVec.ofInt k.bits b).toNat))
 | .xor=>some (.int k (k.wrap (BitVec.ofInt k.bits a ^^^ BitVec.ofInt k.bits b).toNat))
 | .andNot=>some (.int k (k.wrap (BitVec.ofInt k.bits a &&& ~~~ BitVec.ofInt k.bits b).toNat))
 | .eql=>some (.bool (a==b))
 | .neq=>some (.bool (a != b))
 | .lss=>some (.bool (a<b))
 | .leq=>some (.bool (a≤b))
 | .gtr=>some (.bool (a>b))
 | .geq=>some (.bool (a≥b))
 | _=>none
def shiftV(op:BinOp)(k:IntKind)(a b:Int):Option V :=
 if b<0 then none else
 match op with
 | .shl=>some (.int k (k.wrap (a*2 ^ min b.toNat k.bits)))
 | .shr=>some (.int k (a.fdiv (2 ^ min b.toNat k.bits)))
 | _=>none
def strBin(op:BinOp)(x y:List Nat):Option V :=
 match op with
 | .add=>if ((x.length+y.length:Nat):Int)>IntKind.i64.max then none else some (.str (x++y))
 | .eql=>some (.bool (natsEq x y))
 | .neq=>some (.bool (!natsEq x y))
 | .lss=>some (.bool (natsLt x y))
 | .leq=>some (.bool (natsLt x y || natsEq x y))
 | .gtr=>some (.bool (!(natsLt x y || natsEq x y)))
 | .geq=>some (.bool (!natsLt x y))
 | _=>none
def partV(P:Program)(t:TypeId)(cs:List V)(off:Nat):Option V :=
 match P.underlying t with
 | some (.struct _) | some (.array _ _)=>some (.agg ((cs.drop off).take (P.cellsOf t)))
 | some _=>cs[off]?
 | none=>none
theorem underlying_info{P:Program}{t:TypeId}{d:TypeDesc}(h:P.underlying t=some d):∃ i,P.info? t=some i:=by
 unfold Program.underlying at h
 cases hi:P.info? t with
 | none=>rw [hi] at h;cases h
 | some i=>exact ⟨i,rfl⟩
theorem jaz{P:Program}{t:TypeId}{i:TypeInfo}(h:P.info? t=some i)(w:World):(sizeOf t).run P w=.ok (P.cellsOf t) w:=by
 simp [sizeOf,typeInfo,h,Program.cellsOf]
theorem jaz'{P:Program}{t:TypeId}{d:TypeDesc}(h:P.underlying t=some d)(w:World):(sizeOf t).run P w=.ok (P.cellsOf t) w:=by
 obtain ⟨i,hi⟩:=underlying_info h
 exact jaz hi w
theorem part_sound{P:Program}{ρ:Rho}{t:TypeId}{cs:List V}{off:Nat}{v:V}{xs:Array Value}(hR:RL ρ cs xs.toList)(h:partV P t cs off=some v)(w:World):∃ u,(part t xs off).run P w=.ok u w∧R ρ v u:=by
 unfold partV at h
 split at h
 ·rename_i fs hu
  cases h
  refine ⟨.agg (xs.extract off (off+P.cellsOf t)),by simp [part,isAgg,run_underlying hu,jaz' hu],_,rfl,?_⟩
  rw [Array.toList_extract]
  simp only [List.extract_eq_take_drop,Nat.add_sub_cancel_left]
  exact (hR.drop off).take _
 ·rename_i n e hu
  cases h
  refine ⟨.agg (xs.extract off (off+P.cellsOf t)),by simp [part,isAgg,run_underlying hu,jaz' hu],_,rfl,?_⟩
  rw [Array.toList_extract]
  simp only [List.extract_eq_take_drop,Nat.add_sub_cancel_left]
  exact (hR.drop off).take _
 ·rename_i d h1 h2 hu
  obtain ⟨y,hy,hRy⟩:=hR.get h
  rw [Array.getElem?_toList] at hy
  refine ⟨y,?_,hRy⟩
  have hagg:(isAgg t).run P w=.ok false w:=by
   unfold isAgg
   simp only [Sem.run_bind,run_underlying hu,Result.andThen_ok]
   rfl
  unfold part
  simp [hagg,hy]
 ·cases h
def allM{α:Type}(g:α→Option Bool):List α→Option Bool
 | []=>some true
 | x :: xs=>match g x with
  | none=>none
  | some false=>some false
  | some true=>allM g xs
theorem allM_run{α:Type}(P:Program)(w:World)(g:α→Option Bool)(f:α→Option Bool×Unit→Sem (ForInStep (Option Bool×Unit))):∀ (l:List α) (r:Bool),
  (∀ x∈l,∀ b,g x=some b→∀ s,(f x s).run P w=.ok (if b then .yield (none,()) else .done (some false,())) w)→allM g l=some r →
  (forIn l (none,()) f).run P w=.ok (if r then none else some false,()) w:=by
 intro l
 induction l with
 | nil=>intro r _ h;simp only [allM] at h;cases h;rfl
 | cons x xs ih =>
  intro r hf h
  simp only [allM] at h
  rw [List.forIn_cons,Sem.run_bind]
  cases hg:g x with
  | none=>rw [hg] at h;cases h
  | some b =>
   rw [hg] at h
   rw [hf x (by simp) b hg]
   cases b with
   | false=>cases h;rfl
   | true=>exact ih r (fun y hy=>hf y (by simp [hy])) h
def absEq(P:Program):Nat→TypeId→V→V→Option Bool
 | 0,_,_,_=>none
 | d+1,t,x,y =>
  match P.underlying t,x,y with
  | some .bool,.bool a,.bool b=>some (a==b)
  | some (.int _),.int k a,.int k' b=>if k=k' then some (a==b) else none
  | some .string,.str a,.str b=>some (natsEq a b)
  | some (.pointer _),.nilptr,.nilptr=>some true
  | some (.pointer _),.nilptr,.ptr _=>some false
  | some (.pointer _),.ptr _,.nilptr=>some false
  | some (.pointer e),.ptr p,.ptr q =>
   match P.info? e with
   | some j=>if j.size≠0∧p.b=q.b∧p.L=q.L∧p.o=q.o then some true else none
   | none=>none
  | some (.interface _),.nilIface,.nilIface=>some true
  | some (.interface _),.nilIface,.iface _ _=>some false
  | some (.interface _),.iface _ _,.nilIface=>some false
  | some (.interface _),.iface tx vx,.iface ty vy =>
   if tx≠ty then some false else
   match P.info? tx with
   | some i=>if i.comparable then absEq P d tx vx vy else none
   | none=>none
  | some (.struct fs),.agg xs,.agg ys =>
   if P.stoodInHeld t then none else
   allM (fun f:Field=>if f.name= "_" then some true else
    match partV P f.type xs f.offset,partV P f.type ys f.offset with
    | some a,some b=>absEq P d f.type a b
    | _,_=>none) fs.toList
  | some (.array len e),.agg xs,.agg ys =>
   match P.info? e with
   | none=>none
   | some _=>allM (fun i:Nat=>match partV P e xs (i*P.cellsOf e),partV P e ys (i*P.cellsOf e) with
    | some a,some b=>absEq P d e a b
    | _,_=>none) (List.range' 0 len)
  | some (.slice _),.nilslice,.nilslice=>some true
  | some (.slice _),.nilslice,.slice ..=>some false
  | some (.slice _),.slice ..,.nilslice=>some false
  | some (.slice _),.nilslice,.loose=>some false
  | some (.slice _),.loose,.nilslice=>some false
  | some (.func _ _ _),.nilFunc,.nilFunc=>some true
  | some (.func _ _ _),.nilFunc,.func ..=>some false
  | some (.func _ _ _),.func ..,.nilFunc=>some false
  | _,_,_=>none
set_option maxHeartbeats 2000000 in
theorem absEq_sound{P:Program}{ρ:Rho}(w:World):∀ (d:Nat) (t:TypeId) (x y:V) (a b:Value) (r:Bool),R ρ x a→R ρ y b→absEq P d t x y=some r→(Op.equalIn d t a b).run P w=.ok r w:=by
 intro d
 induction d with
 | zero=>intro t x y a b r _ _ h;cases h
 | succ d ih =>
  intro t x y a b r hx hy h
  unfold absEq at h
  split at h
  ·rename_i p q hu;cases h;rw [show a=_ from hx,show b=_ from hy];unfold Op.equalIn;simp [run_underlying hu]
  ·rename_i k0 k m k' n hu
   split at h
   ·rename_i hk;cases h;rw [show a=_ from hx,show b=_ from hy];unfold Op.equalIn;simp [run_underlying hu,hk]
   ·cases h
  ·rename_i s s' hu
   cases h
   obtain ⟨u,rfl,rfl⟩:=hx
   obtain ⟨u',rfl,rfl⟩:=hy
   unfold Op.equalIn
   simp only [Sem.run_bind,run_underlying hu,Result.andThen_ok,Sem.run_pure]
   rw [natsEq_eq,beq_toListBytes,toList_data,toList_data]
   congr 1
   rw [Bool.eq_iff_iff]
   simp only [beq_iff_eq]
   exact ⟨fun e=>by rw [e],fun e=>map_toNat_inj e⟩
  ·rename_i e hu;cases h;rw [show a=_ from hx,show b=_ from hy];unfold Op.equalIn;simp [run_underlying hu]
  ·rename_i e p hu;cases h;obtain ⟨c,rfl,_⟩:=hy;rw [show a=_ from hx];unfold Op.equalIn;simp [run_underlying hu]
  ·rename_i e p hu;cases h;obtain ⟨c,rfl,_⟩:=hx;rw [show b=_ from hy];unfold Op.equalIn;simp [run_underlying hu]
  ·rename_i e p q hu
   split at h
   case h_2=>cases h
   rename_i j hj
   split at h
   case isFalse=>cases h
   rename_i hc
   cases h
   obtain ⟨_,hb,hL,ho⟩:=hc
   obtain ⟨c,rfl,cb,sh,S,g1,g2,rfl⟩:=hx
   obtain ⟨c',rfl,cb',sh',S',g1',g2',rfl⟩:=hy
   rw [hb,hL] at g1
   rw [g1] at g1'
   cases g1'
   rw [ho]
   unfold Op.equalIn
   simp [run_underlying hu,sizeOf,typeInfo,hj,run_sameAddr_same]
  ·rename_i e hu;cases h;rw [show a=_ from hx,show b=_ from hy];unfold Op.equalIn;simp [run_underlying hu]
  ·rename_i e tt vv hu;cases h;obtain ⟨c,rfl,_⟩:=hy;rw [show a=_ from hx];unfold Op.equalIn;simp [run_underlying hu]
  ·rename_i e tt vv hu;cases h;obtain ⟨c,rfl,_⟩:=hx;rw [show b=_ from hy];unfold Op.equalIn;simp [run_underlying hu]
  ·rename_i e tx vx ty vy hu
   obtain ⟨c,rfl,hc⟩:=hx
   obtain ⟨c',rfl,hc'⟩:=hy
   unfold Op.equalIn
   simp only [Sem.run_bind,run_underlying hu,Result.andThen_ok]
   split at h
   ·rename_i hne;cases h;simp [hne]
   ·rename_i hne
    have heq:tx=ty:=by simpa using hne
    subst heq
    split at h
    ·rename_i i hi
     split at h
     ·rename_i hcomp
      simp [typeInfo,hi,hcomp]
      exact ih _ _ _ _ _ _ hc hc' h
     ·cases h
    ·cases h
  ·rename_i fs xs ys hu
   obtain ⟨us,rfl,hus⟩:=hx
   obtain ⟨us',rfl,hus'⟩:=hy
   split at h
   ·cases h
   ·rename_i hst
    unfold Op.equalIn
    simp only [Sem.run_bind,run_underlying hu,Result.andThen_ok,run_program,hst,Bool.false_eq_true,if_false,← Array.forIn_toList]
    have hall:=allM_run P w _ (fun f (__s:Option Bool×Unit) =>
       if f.name≠ "_" then do
        let __do_lift ← part f.type us f.offset
        let __do_lift_1 ← part f.type us' f.offset
        let __do_lift ← Op.equalIn d f.type __do_lift __do_lift_1
        if (!__do_lift)=true then pure (ForInStep.done (some false,())) else pure (ForInStep.yield (none,()))
       else pure (ForInStep.yield (none,()))) fs.toList r (fun f hf b hb s=>by
     split at hb
     ·rename_i hn;cases hb;simp [hn]
     ·rename_i hn
      split at hb
      ·rename_i va vb ha hb'
       obtain ⟨ua,h1,h2⟩:=part_sound hus ha w
       obtain ⟨ub,h3,h4⟩:=part_sound hus' hb' w
       simp only [ne_eq,hn,not_false_eq_true,if_true,Sem.run_bind,h1,h3,Result.andThen_ok,ih _ _ _ _ _ _ h2 h4 hb]
       cases b <;> rfl
      ·cases hb) h
    rw [hall]
    cases r <;> rfl
  ·rename_i len e xs ys hu
   obtain ⟨us,rfl,hus⟩:=hx
   obtain ⟨us',rfl,hus'⟩:=hy
   split at h
   ·cases h
   ·rename_i ie hie
    unfold Op.equalIn
    simp only [Sem.run_bind,run_underlying hu,Result.andThen_ok,jaz hie,Std.Legacy.Range.forIn_eq_forIn_range',Std.Legacy.Range.size,Nat.sub_zero,Nat.add_one_sub_one,Nat.div_one]
    have hall:=allM_run P w _ (fun i (__s:Option Bool×Unit)=>do
       let __do_lift ← part e us (i*P.cellsOf e)
       let __do_lift_1 ← part e us' (i*P.cellsOf e)
       let __do_lift ← Op.equalIn d e __do_lift __do_lift_1
       if (!__do_lift)=true then pure (ForInStep.done (some false,())) else pure (ForInStep.yield (none,()))) (List.range' 0 len) r (fun i hi b hb s=>by
     split at hb
     ·rename_i va vb ha hb'
      obtain ⟨ua,h1,h2⟩:=part_sound hus ha w
      obtain ⟨ub,h3,h4⟩:=part_sound hus' hb' w
      simp only [Sem.run_bind,h1,h3,Result.andThen_ok,ih _ _ _ _ _ _ h2 h4 hb]
      cases b <;> rfl
     ·cases hb) h
    rw [hall]
    cases r <;> rfl
  ·rename_i e hu;cases h;rw [show a=_ from hx,show b=_ from hy];unfold Op.equalIn;simp [run_underlying hu]
  ·rename_i hu;cases h;obtain ⟨_,_,_,_,rfl,_⟩:=hy;rw [show a=_ from hx];unfold Op.equalIn;simp [run_underlying hu]
  ·rename_i hu;cases h;obtain ⟨_,_,_,_,rfl,_⟩:=hx;rw [show b=_ from hy];unfold Op.equalIn;simp [run_underlying hu]
  ·rename_i hu;cases h;obtain ⟨_,_,rfl⟩:=hy;rw [show a=_ from hx];unfold Op.equalIn;simp [run_underlying hu]
  ·rename_i hu;cases h;obtain ⟨_,_,rfl⟩:=hx;rw [show b=_ from hy];unfold Op.equalIn;simp [run_underlying hu]
  ·rename_i hu;cases h;rw [show a=_ from hx,show b=_ from hy];unfold Op.equalIn;simp [run_underlying hu]
  ·rename_i hu;cases h;obtain ⟨_,_,rfl,_⟩:=hy;rw [show a=_ from hx];unfold Op.equalIn;simp [run_underlying hu]
  ·rename_i hu;cases h;obtain ⟨_,_,rfl,_⟩:=hx;rw [show b=_ from hy];unfold Op.equalIn;simp [run_underlying hu]
  ·cases h
end Go.Proofs.YtcmhoboglapbdaaDoor.Ev
namespace Go.Proofs.YtcmhoboglapbdaaDoor.Ev
open Go
def V.tag:V→Nat
 | .bad=>0 | .bool _=>1 | .int ..=>2 | .str _=>3 | .ptr _=>4 | .nilptr=>4 | .slice ..=>5 | .nilslice=>5 | .loose=>5 | .func ..=>6 | .nilFunc=>7 | .iface ..=>8 | .nilIface=>9 | .agg _=>10 | .tuple _=>11
def valueTag:Value→Nat
 | .bool _=>1 | .int ..=>2 | .float ..=>12 | .complex ..=>13 | .string _=>3 | .pointer _=>4 | .slice ..=>5 | .map _=>14 | .chan _=>15 | .func ..=>6 | .nilFunc=>7 | .iface ..=>8 | .nilIface=>9 | .agg _=>10 | .tuple _=>11
theorem R_tag{ρ:Rho}{x:V}{a:Value}(h:R ρ x a)(hb:x.isBad=false):valueTag a=x.tag:=by
 cases x
 case bad=>cases hb
 case bool=>rw [show a=_ from h];rfl
 case int=>rw [show a=_ from h];rfl
 case str=>obtain ⟨_,rfl,_⟩:=h;rfl
 case ptr=>obtain ⟨_,rfl,_⟩:=h;rfl
 case nilptr=>rw [show a=_ from h];rfl
 case slice=>obtain ⟨_,_,_,_,rfl,_⟩:=h;rfl
 case nilslice=>rw [show a=_ from h];rfl
 case loose=>obtain ⟨_,_,rfl⟩:=h;rfl
 case func=>obtain ⟨_,_,rfl,_⟩:=h;rfl
 case nilFunc=>rw [show a=_ from h];rfl
 case iface=>obtain ⟨_,rfl,_⟩:=h;rfl
 case nilIface=>rw [show a=_ from h];rfl
 case agg=>obtain ⟨_,rfl,_⟩:=h;rfl
 case tuple=>obtain ⟨_,rfl,_⟩:=h;rfl
def plainTags(m n:Nat):Bool:=!(m==n && (m==2 || m==3 || m==12 || m==13))
theorem binOp_eql{t:TypeId}{a b:Value}(h:plainTags (valueTag a) (valueTag b)=true):binOp .eql t a b=(do pure (.bool (← Op.equal t a b))):=by
 cases a <;> cases b <;> first | rfl | (simp [plainTags,valueTag] at h)
theorem binOp_neq{t:TypeId}{a b:Value}(h:plainTags (valueTag a) (valueTag b)=true):binOp .neq t a b=(do pure (.bool (!(← Op.equal t a b)))):=by
 cases a <;> cases b <;> first | rfl | (simp [plainTags,valueTag] at h)
def isC:Operand→Bool
 | .const _=>true
 | _=>false
def eqV(P:Program)(t:TypeId)(xo yo:Operand)(x y:V):Option Bool :=
 if x.isBad || y.isBad then none else
 match x,y with
 | .nilIface,.nilIface=>if isC xo || isC yo then absEq P 10000 t x y else none
 | .agg _,.agg _=>if P.eqGuardType P.depth t then none else absEq P 10000 t x y
 | x,y=>absEq P 10000 t x y
def absBin(P:Program)(op:BinOp)(t:TypeId)(xo yo:Operand)(x y:V):Option V :=
 match x,y with
 | .int k a,.int k' b =>
  match op with
  | .shl | .shr=>shiftV op k a b
  | _=>if k=k' then intBin op k a b else none
 | .str a,.str b=>strBin op a b
 | x,y =>
  match op with
  | .eql=>(eqV P t xo yo x y).map .bool
  | .neq=>(eqV P t xo yo x y).map fun r=>.bool (!r)
  | _=>none
theorem eqGuard_int(op:BinOp)(t:TypeId)(xo yo:Operand)(k k':IntKind)(m n:Int)(P:Program)(w:World):(eqGuard op t xo yo (.int k m) (.int k' n)).run P w=.ok () w:=by
 cases op <;> rfl
theorem eqGuard_str(op:BinOp)(t:TypeId)(xo yo:Operand)(m n:ByteArray)(P:Program)(w:World):(eqGuard op t xo yo (.string m) (.string n)).run P w=.ok () w:=by
 cases op <;> rfl
theorem eqV_sound{P:Program}{ρ:Rho}{t:TypeId}{xo yo:Operand}{x y:V}{a b:Value}{r:Bool}(hx:R ρ x a)(hy:R ρ y b)(h:eqV P t xo yo x y=some r)(op:BinOp)(w:World) :
  (eqGuard op t xo yo a b).run P w=.ok () w∧(Op.equal t a b).run P w=.ok r w∧x.isBad=false∧y.isBad=false:=by
 unfold eqV at h
 cases hbx:x.isBad with
 | true=>simp [hbx] at h
 | false =>
  cases hby:y.isBad with
  | true=>simp [hby] at h
  | false =>
   simp only [hbx,hby,Bool.or_self,Bool.false_eq_true,if_false] at h
   have hguard:∀ r',absEq P 10000 t x y=some r'→(Op.equal t a b).run P w=.ok r' w:=fun r' hr=>absEq_sound w 10000 t x y a b r' hx hy hr
   split at h
   ·split at h
    ·rename_i hc
     refine ⟨?_,hguard _ h,rfl,rfl⟩
     rw [show a=_ from hx,show b=_ from hy]
     cases op <;> (try rfl) <;> (cases xo <;> cases yo <;> simp [isC] at hc <;> rfl)
    ·cases h
   ·rename_i xs ys
    split at h
    ·cases h
    ·rename_i hg
     obtain ⟨us,rfl,_⟩:=hx
     obtain ⟨us',rfl,_⟩:=hy
     refine ⟨?_,hguard _ h,rfl,rfl⟩
     cases op <;> (try rfl) <;> (simp [eqGuard,hg])
   ·rename_i h1 h2
    refine ⟨?_,hguard _ h,rfl,rfl⟩
    have ha:=R_tag hx hbx
    have hb:=R_tag hy hby
    cases op <;> (try rfl) <;>
    ·cases x <;> cases y <;> first
      | exact absurd rfl (h1 rfl)
      | exact absurd rfl (h2 _ _ rfl)
      | (cases a <;> first | (cases ha;done) | (cases b <;> first | (cases hb;done) | rfl))
theorem binOp_arith{op:BinOp}{t:TypeId}{k:IntKind}{m n:Int}(h:op=.add∨op=.sub∨op=.mul):binOp op t (.int k m) (.int k n)=Op.intArith op k m n:=by
 rcases h with rfl | rfl | rfl <;> simp [binOp]
theorem binOp_div{op:BinOp}{t:TypeId}{k:IntKind}{m n:Int}(h:op=.quo∨op=.rem):binOp op t (.int k m) (.int k n)=Op.intDiv op k m n:=by
 rcases h with rfl | rfl <;> simp [binOp]
theorem binOp_bits{op:BinOp}{t:TypeId}{k:IntKind}{m n:Int}(h:op=.and∨op=.or∨op=.xor∨op=.andNot):binOp op t (.int k m) (.int k n)=Op.intBits op k m n:=by
 rcases h with rfl | rfl | rfl | rfl <;> simp [binOp]
theorem binOp_cmp{op:BinOp}{t:TypeId}{k:IntKind}{m n:Int}(h:op=.eql∨op=.neq∨op=.lss∨op=.leq∨op=.gtr∨op=.geq):binOp op t (.int k m) (.int k n)=Op.intCmp op m n:=by
 rcases h with rfl | rfl | rfl | rfl | rfl | rfl <;> simp [binOp]
theorem intBin_sound{P:Program}{op:BinOp}{t:TypeId}{k:IntKind}{m n:Int}{v:V}(hop:op≠.shl∧op≠.shr)(h:intBin op k m n=some v)(w:World):∃ u,(binOp op t (.int k m) (.int k n)).run P w=.ok u w∧∀ ρ,R ρ v u:=by
 cases op <;> simp only [intBin] at h
 case add=>cases h;exact ⟨_,by rw [binOp_arith (by simp)];rfl,fun ρ=>rfl⟩
 case sub=>cases h;exact ⟨_,by rw [binOp_arith (by simp)];rfl,fun ρ=>rfl⟩
 case mul=>cases h;exact ⟨_,by rw [binOp_arith (by simp)];rfl,fun ρ=>rfl⟩
 case quo =>
  by_cases hn:n=0
  ·rw [if_pos hn] at h;cases h
  ·rw [if_neg hn] at h;cases h;exact ⟨_,by rw [binOp_div (by simp),Op.intDiv,if_neg hn];rfl,fun ρ=>rfl⟩
 case rem =>
  by_cases hn:n=0
  ·rw [if_pos hn] at h;cases h
  ·rw [if_neg hn] at h;cases h;exact ⟨_,by rw [binOp_div (by simp),Op.intDiv,if_neg hn];rfl,fun ρ=>rfl⟩
 case and=>cases h;exact ⟨_,by rw [binOp_bits (by simp)];rfl,fun ρ=>rfl⟩
 case or=>cases h;exact ⟨_,by rw [binOp_bits (by simp)];rfl,fun ρ=>rfl⟩
 case xor=>cases h;exact ⟨_,by rw [binOp_bits (by simp)];rfl,fun ρ=>rfl⟩
 case andNot=>cases h;exact ⟨_,by rw [binOp_bits (by simp)];rfl,fun ρ=>rfl⟩
 case eql=>cases h;exact ⟨_,by rw [binOp_cmp (by simp)];rfl,fun ρ=>rfl⟩
 case neq=>cases h;exact ⟨_,by rw [binOp_cmp (by simp)];rfl,fun ρ=>rfl⟩
 case lss=>cases h;exact ⟨_,by rw [binOp_cmp (by simp)];rfl,fun ρ=>rfl⟩
 case leq=>cases h;exact ⟨_,by rw [binOp_cmp (by simp)];rfl,fun ρ=>rfl⟩
 case gtr=>cases h;exact ⟨_,by rw [binOp_cmp (by simp)];rfl,fun ρ=>rfl⟩
 case geq=>cases h;exact ⟨_,by rw [binOp_cmp (by simp)];rfl,fun ρ=>rfl⟩
 all_goals cases h
theorem shift_sound{P:Program}{op:BinOp}{t:TypeId}{k k':IntKind}{m n:Int}{v:V}(hop:op=.shl∨op=.shr)(h:shiftV op k m n=some v)(w:World):∃ u,(binOp op t (.int k m) (.int k' n)).run P w=.ok u w∧∀ ρ,R ρ v u:=by
 unfold shiftV at h
 split at h
 ·cases h
 ·rename_i hn
  rcases hop with rfl | rfl
  ·cases h;exact ⟨_,by simp only [binOp,Op.shift,if_neg hn];rfl,fun ρ=>rfl⟩
  ·cases h;exact ⟨_,by simp only [binOp,Op.shift,if_neg hn];rfl,fun ρ=>rfl⟩
theorem strBin_sound{P:Program}{op:BinOp}{t:TypeId}{a b:ByteArray}{v:V}(h:strBin op (a.data.toList.map UInt8.toNat) (b.data.toList.map UInt8.toNat)=some v)(w:World):∃ u,(binOp op t (.string a) (.string b)).run P w=.ok u w∧∀ ρ,R ρ v u:=by
 have heq:natsEq (a.data.toList.map UInt8.toNat) (b.data.toList.map UInt8.toNat)=(a.toList==b.toList):=by
  rw [natsEq_eq,toList_data,toList_data,Bool.eq_iff_iff]
  simp only [beq_iff_eq]
  exact ⟨map_toNat_inj,fun e=>by rw [e]⟩
 have hlt:natsLt (a.data.toList.map UInt8.toNat) (b.data.toList.map UInt8.toNat)=Op.bytesLess a.toList b.toList:=by
  rw [natsLt_eq,toList_data,toList_data]
 have hsz:∀ s:ByteArray,s.data.toList.length=s.size:=fun s=>by rw [Array.length_toList];rfl
 cases op <;> simp only [strBin,heq,hlt,List.length_map,hsz] at h
 case add =>
  by_cases hn:((a.size+b.size:Nat):Int)>IntKind.i64.max
  ·rw [if_pos hn] at h;cases h
  ·rw [if_neg hn] at h
   cases h
   refine ⟨.string (a++b),by simp only [binOp,Op.stringOp,if_neg hn];rfl,fun ρ=>⟨_,rfl,?_⟩⟩
   rw [← List.map_append,ByteArray.data_append,Array.toList_append]
 case eql=>cases h;exact ⟨_,rfl,fun ρ=>rfl⟩
 case neq=>cases h;exact ⟨_,rfl,fun ρ=>rfl⟩
 case lss=>cases h;exact ⟨_,rfl,fun ρ=>rfl⟩
 case leq=>cases h;exact ⟨_,rfl,fun ρ=>rfl⟩
 case gtr=>cases h;exact ⟨_,rfl,fun ρ=>rfl⟩
 case geq=>cases h;exact ⟨_,rfl,fun ρ=>rfl⟩
 all_goals cases h
theorem bin_sound{P:Program}{ρ:Rho}{op:BinOp}{t:TypeId}{xo yo:Operand}{x y v:V}{a b:Value}(hx:R ρ x a)(hy:R ρ y b)(h:absBin P op t xo yo x y=some v)(w:World) :
  ∃ u,(do eqGuard op t xo yo a b;binOp op t a b:Sem Value).run P w=.ok u w∧R ρ v u:=by
 unfold absBin at h
 split at h
 ·rename_i k m k' n
  rw [show a=_ from hx,show b=_ from hy]
  simp only [Sem.run_bind,eqGuard_int,Result.andThen_ok]
  split at h
  ·obtain ⟨u,h1,h2⟩:=shift_sound (P:=P) (t:=t) (k':=k') (.inl rfl) h w;exact ⟨u,h1,h2 ρ⟩
  ·obtain ⟨u,h1,h2⟩:=shift_sound (P:=P) (t:=t) (k':=k') (.inr rfl) h w;exact ⟨u,h1,h2 ρ⟩
  ·rename_i h1 h2
   split at h
   ·rename_i hk
    subst hk
    obtain ⟨u,g1,g2⟩:=intBin_sound (P:=P) (t:=t) ⟨h1,h2⟩ h w;exact ⟨u,g1,g2 ρ⟩
   ·cases h
 ·rename_i s s'
  obtain ⟨u,rfl,rfl⟩:=hx
  obtain ⟨u',rfl,rfl⟩:=hy
  simp only [Sem.run_bind,eqGuard_str,Result.andThen_ok]
  obtain ⟨r,g1,g2⟩:=strBin_sound (P:=P) (t:=t) h w
  exact ⟨r,g1,g2 ρ⟩
 ·rename_i h1 h2
  have key:∀ r,eqV P t xo yo x y=some r→plainTags (valueTag a) (valueTag b)=true:=by
   intro r hr
   obtain ⟨_,_,hbx,hby⟩:=eqV_sound hx hy hr .eql w
   rw [R_tag hx hbx,R_tag hy hby]
   cases x <;> cases y <;> first | rfl | exact absurd rfl (h1 _ _ _ _ rfl) | exact absurd rfl (h2 _ _ rfl) | cases hbx | cases hby
  split at h
  ·cases hr:eqV P t xo yo x y with
   | none=>rw [hr] at h;cases h
   | some r =>
    rw [hr] at h
    cases h
    obtain ⟨g1,g2,_⟩:=eqV_sound hx hy hr .eql w
    refine ⟨.bool r,?_,rfl⟩
    rw [binOp_eql (key r hr)]
    simp only [Sem.run_bind,g1,g2,Result.andThen_ok,Sem.run_pure]
  ·cases hr:eqV P t xo yo x y with
   | none=>rw [hr] at h;cases h
   | some r =>
    rw [hr] at h
    cases h
    obtain ⟨g1,g2,_⟩:=eqV_sound hx hy hr .neq w
    refine ⟨.bool (!r),?_,rfl⟩
    rw [binOp_neq (key r hr)]
    simp only [Sem.run_bind,g1,g2,Result.andThen_ok,Sem.run_pure]
  ·cases h
end Go.Proofs.YtcmhoboglapbdaaDoor.Ev
namespace Go.Proofs.YtcmhoboglapbdaaDoor.Ev
open Go
def absC1:Value→V
 | .bool b=>.bool b
 | .int k n=>.int k n
 | .string s=>.str (s.data.toList.map UInt8.toNat)
 | .pointer none=>.nilptr
 | .slice none 0 0=>.nilslice
 | .nilFunc=>.nilFunc
 | .nilIface=>.nilIface
 | _=>.bad
def absC:Value→V
 | .agg cs=>.agg (cs.toList.map absC1)
 | .tuple cs=>.tuple (cs.toList.map absC1)
 | v=>absC1 v
theorem absC1_R(ρ:Rho)(v:Value):R ρ (absC1 v) v:=by
 unfold absC1
 split <;> first | rfl | exact ⟨_,rfl,rfl⟩ | trivial
theorem absC1_RL(ρ:Rho):∀ l:List Value,RL ρ (l.map absC1) l:=by
 intro l
 induction l with
 | nil=>exact rfl
 | cons v l ih=>exact ⟨v,l,rfl,absC1_R ρ v,ih⟩
theorem absC_R(ρ:Rho)(v:Value):R ρ (absC v) v:=by
 unfold absC
 split
 ·exact ⟨_,rfl,absC1_RL ρ _⟩
 ·exact ⟨_,rfl,absC1_RL ρ _⟩
 ·exact absC1_R ρ _
def absUn(op:UnOp)(x:V):Option V :=
 match op,x with
 | .neg,.int k n=>some (.int k (k.wrap (0-n)))
 | .xor,.int k n=>some (.int k (k.wrap (BitVec.ofInt k.bits (if k.signed then -1 else k.max) ^^^ BitVec.ofInt k.bits n).toNat))
 | .not,.bool b=>some (.bool (!b))
 | _,_=>none
theorem un_sound{P:Program}{ρ:Rho}{op:UnOp}{x v:V}{a:Value}(hx:R ρ x a)(h:absUn op x=some v)(w:World):∃ u,(Op.unary op a).run P w=.ok u w∧R ρ v u:=by
 unfold absUn at h
 split at h
 ·cases h;rw [show a=_ from hx];exact ⟨_,rfl,rfl⟩
 ·cases h;rw [show a=_ from hx];exact ⟨_,rfl,rfl⟩
 ·cases h;rw [show a=_ from hx];exact ⟨_,rfl,rfl⟩
 ·cases h
def strAt(s:List Nat)(i:Int):Option Nat:=if 0≤i then s[i.toNat]? else none
def absIndex(P:Program)(t:TypeId)(x ix:V):Option V :=
 match P.underlying t,x,ix with
 | some (.array len e),.agg cs,.int _ i=>if 0≤i∧i<len then partV P e cs (i.toNat*P.cellsOf e) else none
 | some .string,.str s,.int _ i=>(strAt s i).map fun (b:Nat)=>.int .u8 b
 | _,_,_=>none
theorem partV_info{P:Program}{e:TypeId}{cs:List V}{o:Nat}{v:V}(h:partV P e cs o=some v):∃ i,P.info? e=some i:=by
 cases hu:P.underlying e with
 | none=>unfold partV at h;simp [hu] at h
 | some d=>exact underlying_info hu
theorem index_sound{P:Program}{ρ:Rho}{t:TypeId}{x ix v:V}{a b:Value}(hx:R ρ x a)(hi:R ρ ix b)(h:absIndex P t x ix=some v)(w:World):∃ u,(Instr.index t a b).run P w=.ok u w∧R ρ v u:=by
 unfold absIndex at h
 split at h
 ·rename_i len e cs k i hu
  split at h
  ·rename_i hb
   obtain ⟨xs,rfl,hR⟩:=hx
   rw [show b=_ from hi]
   obtain ⟨ie,hie⟩:=partV_info h
   obtain ⟨u,h1,h2⟩:=part_sound hR h w
   refine ⟨u,?_,h2⟩
   unfold Instr.index
   simp [asIntOf,run_underlying hu,hb,jaz hie,h1]
  ·cases h
 ·rename_i s k i hu
  unfold strAt at h
  split at h
  ·rename_i hb
   obtain ⟨t',rfl,rfl⟩:=hx
   rw [show b=_ from hi]
   rw [List.getElem?_map] at h
   cases hg:t'.data.toList[i.toNat]? with
   | none=>rw [hg] at h;cases h
   | some y =>
    rw [hg] at h
    cases h
    refine ⟨.int .u8 y.toNat,?_,rfl⟩
    have hg':t'[i.toNat]?=some y:=by
     rw [Array.getElem?_toList] at hg
     rw [← hg];rfl
    unfold Instr.index
    simp [asIntOf,run_underlying hu,hb,hg']
  ·cases h
 ·cases h
def absField(P:Program)(t:TypeId)(x:V)(f:Nat):Option V :=
 match P.underlying t,x with
 | some (.struct fs),.agg cs =>
  match fs[f]? with
  | some fd=>partV P fd.type cs fd.offset
  | none=>none
 | _,_=>none
theorem field_sound{P:Program}{ρ:Rho}{t:TypeId}{x v:V}{a:Value}{f:Nat}(hx:R ρ x a)(h:absField P t x f=some v)(w:World):∃ u,(Instr.field t a f).run P w=.ok u w∧R ρ v u:=by
 unfold absField at h
 split at h
 ·rename_i fs cs hu
  split at h
  ·rename_i fd hf
   obtain ⟨xs,rfl,hR⟩:=hx
   obtain ⟨u,h1,h2⟩:=part_sound hR h w
   refine ⟨u,?_,h2⟩
   unfold Instr.field
   simp [run_underlying hu,hf,asAgg,h1]
  ·cases h
 ·cases h
def jat(x:V)(i:Nat):Option V :=
 match x with
 | .tuple vs=>vs[i]?
 | _=>none
theorem extract_sound{P:Program}{ρ:Rho}{x v:V}{a:Value}{i:Nat}(hx:R ρ x a)(h:jat x i=some v)(w:World):∃ u,(Instr.extract a i).run P w=.ok u w∧R ρ v u:=by
 unfold jat at h
 split at h
 ·obtain ⟨xs,rfl,hR⟩:=hx
  obtain ⟨y,hy,hRy⟩:=hR.get h
  rw [Array.getElem?_toList] at hy
  exact ⟨y,by simp [Instr.extract,hy],hRy⟩
 ·cases h
theorem At.add{ρ:Rho}{a:A}{c:Addr}(h:At ρ a c)(k:Nat):At ρ ⟨a.b,a.L,a.o+k⟩ (c.add k):=by
 obtain ⟨cb,sh,S,h1,h2,rfl⟩:=h
 refine ⟨cb,sh,S,h1,by simp only;omega,?_⟩
 unfold Addr.add
 by_cases hk:k=0
 ·subst hk;simp
 ·simp only [if_neg hk,Addr.mk.injEq,true_and,and_true];omega
def absIndexAddr(P:Program)(t:TypeId)(x ix:V):Option V :=
 match P.underlying t,x,ix with
 | some (.array len e),.ptr a,.int _ i=>if 0≤i∧i<len∧(P.info? e).isSome then some (.ptr ⟨a.b,a.L,a.o+i.toNat*P.cellsOf e⟩) else none
 | some (.slice e),.slice a n _ _ _,.int _ i=>if 0≤i∧i<n∧(P.info? e).isSome then some (.ptr ⟨a.b,a.L,a.o+i.toNat*P.cellsOf e⟩) else none
 | _,_,_=>none
theorem indexAddr_sound{P:Program}{ρ:Rho}{t:TypeId}{x ix v:V}{a b:Value}(hx:R ρ x a)(hi:R ρ ix b)(h:absIndexAddr P t x ix=some v)(w:World):∃ u,(Instr.indexAt t a b).run P w=.ok u w∧R ρ v u:=by
 unfold absIndexAddr at h
 split at h
 ·rename_i len e p k i hu
  split at h
  ·rename_i hb
   cases h
   obtain ⟨ie,hie⟩:=Option.isSome_iff_exists.1 hb.2.2
   obtain ⟨c,rfl,hc⟩:=hx
   rw [show b=_ from hi]
   refine ⟨.pointer (some (c.add (i.toNat*P.cellsOf e))),?_,_,rfl,hc.add _⟩
   unfold Instr.indexAt
   simp [asIntOf,run_underlying hu,Instr.sureAddr,hb.1,hb.2.1,jaz hie]
  ·cases h
 ·rename_i e p n _ _ _ k i hu
  split at h
  ·rename_i hb
   cases h
   obtain ⟨ie,hie⟩:=Option.isSome_iff_exists.1 hb.2.2
   obtain ⟨cb,sh,S,cc,rfl,h1,h2,_⟩:=hx
   rw [show b=_ from hi]
   refine ⟨.pointer (some ((⟨cb,((p.o:Int)-sh).toNat,none⟩:Addr).add (i.toNat*P.cellsOf e))),?_,_,rfl,At.add ⟨cb,sh,S,h1,h2,rfl⟩ _⟩
   unfold Instr.indexAt
   simp [asIntOf,run_underlying hu,hb.1,hb.2.1,jaz hie]
  ·cases h
 ·cases h
def absFieldAddr(P:Program)(t:TypeId)(x:V)(f:Nat):Option V :=
 match P.underlying t,x with
 | some (.struct fs),.ptr a =>
  match fs[f]? with
  | some fd=>if (P.info? fd.type).isSome∧P.cellsOf fd.type≠0 then some (.ptr ⟨a.b,a.L,a.o+fd.offset⟩) else none
  | none=>none
 | _,_=>none
theorem fieldAddr_sound{P:Program}{ρ:Rho}{t:TypeId}{x v:V}{a:Value}{f:Nat}(hx:R ρ x a)(h:absFieldAddr P t x f=some v)(w:World):∃ u,(Instr.fieldAt t a f).run P w=.ok u w∧R ρ v u:=by
 unfold absFieldAddr at h
 split at h
 ·rename_i fs p hu
  split at h
  ·rename_i fd hf
   split at h
   ·rename_i hb
    cases h
    obtain ⟨ie,hie⟩:=Option.isSome_iff_exists.1 hb.1
    obtain ⟨c,rfl,hc⟩:=hx
    refine ⟨.pointer (some (c.add fd.offset)),?_,_,rfl,hc.add _⟩
    unfold Instr.fieldAt
    simp [run_underlying hu,hf,Instr.sureAddr,fieldPlace,jaz hie,hb.2]
   ·cases h
  ·cases h
 ·cases h
def absArrayAt(P:Program)(t:TypeId)(x:V):Option V :=
 match P.underlying t,x with
 | some (.array n _),.slice a len _ _ _=>if n≤len then some (.ptr a) else none
 | _,_=>none
theorem arrayAt_sound{P:Program}{ρ:Rho}{t:TypeId}{x v:V}{a:Value}(hx:R ρ x a)(h:absArrayAt P t x=some v)(w:World):∃ u,(Instr.arrayAt t a).run P w=.ok u w∧R ρ v u:=by
 unfold absArrayAt at h
 split at h
 ·rename_i n e p len _ _ _ hu
  split at h
  ·rename_i hb
   cases h
   obtain ⟨cb,sh,S,cc,rfl,h1,h2,_⟩:=hx
   refine ⟨.pointer (some ⟨cb,((p.o:Int)-sh).toNat,none⟩),?_,_,rfl,cb,sh,S,h1,h2,rfl⟩
   unfold Instr.arrayAt
   simp [run_underlying hu,show ¬len<n from by omega]
  ·cases h
 ·cases h
def bnd(v:Option V)(dflt lim:Nat):Option Nat :=
 match v with
 | none=>some dflt
 | some (.int _ i)=>if 0≤i∧i≤lim then some i.toNat else none
 | some _=>none
def cutV(a:A)(z n cap:Nat)(ex:Bool)(lo hi mx:Option V):Option V :=
 match mx with
 | some m =>
  match bnd (some m) 0 cap with
  | none=>none
  | some m =>
   match hi with
   | none=>none
   | some hv =>
    match bnd (some hv) 0 m with
    | none=>none
    | some h =>
     match bnd lo 0 h with
     | none=>none
     | some l=>some (if m=l then .slice a (h-l) (m-l) true z else .slice ⟨a.b,a.L,a.o+l*z⟩ (h-l) (m-l) true z)
 | none =>
  match bnd hi n cap with
  | none=>none
  | some h =>
   match bnd lo 0 h with
   | none=>none
   | some l =>
    if ex then some (if cap=l then .slice a (h-l) (cap-l) true z else .slice ⟨a.b,a.L,a.o+l*z⟩ (h-l) (cap-l) true z)
    else if l<cap then some (.slice ⟨a.b,a.L,a.o+l*z⟩ (h-l) (cap-l) false z)
    else some .loose
theorem bound_run{P:Program}{ρ:Rho}{x:V}{b:Value}(hx:R ρ x b){d lim r:Nat}(h:bnd (some x) d lim=some r)(y:Nat)(hy:lim≤y)(code:BoundsCode)(w:World):(Instr.sliceBound b y code).run P w=.ok r w∧r≤lim:=by
 unfold bnd at h
 split at h
 ·rename_i e;cases e
 ·rename_i k i e
  cases e
  split at h
  ·rename_i hb
   cases h
   rw [show b=_ from hx]
   refine ⟨?_,by omega⟩
   have:0≤i∧i≤y:=by omega
   simp [Instr.sliceBound,asIntOf,this]
  ·cases h
 ·cases h
inductive OR (ρ:Rho):Option V→Option Value→Prop
 | none:OR ρ none none
 | some {x:V} {b:Value} (h:R ρ x b):OR ρ (some x) (some b)
theorem bounds_nomax{P:Program}{ρ:Rho}{lo hi:Option V}{l' h':Option Value}(hlo:OR ρ lo l')(hhi:OR ρ hi h'){n cap h l:Nat}(h1:bnd hi n cap=some h)(h2:bnd lo 0 h=some l)(b:Bool)(cc:Nat)(hc:cap≤cc)(hn:n≤cap)(w:World) :
  (Instr.sliceBounds b n cc l' h' none).run P w=.ok (l,h,cc) w∧l≤h∧h≤cap:=by
 unfold Instr.sliceBounds
 cases hhi with
 | none =>
  cases h1
  cases hlo with
  | none=>cases h2;exact ⟨by simp,Nat.zero_le _,hn⟩
  | some hl=>have:=bound_run (P:=P) hl h2 n (Nat.le_refl _) .sliceB w;exact ⟨by simp [this.1],this.2,hn⟩
 | some hh =>
  have hb:=fun code=>bound_run (P:=P) hh h1 cc hc code w
  cases hlo with
  | none=>cases h2;exact ⟨by cases b <;> simp [(hb _).1],Nat.zero_le _,(hb .sliceB).2⟩
  | some hl=>have:=bound_run (P:=P) hl h2 h (Nat.le_refl _) .sliceB w;exact ⟨by cases b <;> simp [(hb _).1,this.1],this.2,(hb .sliceB).2⟩
theorem bounds_max{P:Program}{ρ:Rho}{lo:Option V}{hv mv:V}{l':Option Value}{h' m':Value}(hlo:OR ρ lo l')(hhi:R ρ hv h')(hmx:R ρ mv m'){n cap m h l:Nat}(h0:bnd (some mv) 0 cap=some m)(h1:bnd (some hv) 0 m=some h)(h2:bnd lo 0 h=some l)(b:Bool)(cc:Nat)(hc:cap≤cc)(w:World) :
  (Instr.sliceBounds b n cc l' (some h') (some m')).run P w=.ok (l,h,m) w∧l≤h∧h≤m∧m≤cap:=by
 unfold Instr.sliceBounds
 have hm:=fun code=>bound_run (P:=P) hmx h0 cc hc code w
 have hh:=fun code=>bound_run (P:=P) hhi h1 m (Nat.le_refl _) code w
 cases hlo with
 | none=>cases h2;exact ⟨by cases b <;> simp [(hm _).1,(hh _).1],Nat.zero_le _,(hh .sliceB).2,(hm .sliceB).2⟩
 | some hl=>have:=fun code=>bound_run (P:=P) hl h2 h (Nat.le_refl _) code w;exact ⟨by cases b <;> simp [(hm _).1,(hh _).1,(this _).1],(this .sliceB).2,(hh .sliceB).2,(hm .sliceB).2⟩
theorem cut_sound{P:Program}{ρ:Rho}{lo hi mx:Option V}{l' h' m':Option Value}(hlo:OR ρ lo l')(hhi:OR ρ hi h')(hmx:OR ρ mx m'){a:A}{z n cap cc:Nat}{ex:Bool}{v:V}{cb S:Nat}{sh:Int}
  (hρ:ρ a.b a.L=some (cb,sh,S)) (hsh:sh≤a.o) (hcc:cap≤cc) (hex:ex=true→cc=cap) (hn:n≤cap) (hroom:((a.o:Int)-sh).toNat+cc*z≤S) (h:cutV a z n cap ex lo hi mx=some v) (b:Bool) (w:World) :
  ∃ l hh m,(Instr.sliceBounds b n cc l' h' m').run P w=.ok (l,hh,m) w∧R ρ v (.slice (some (if m=l then ⟨cb,((a.o:Int)-sh).toNat,none⟩ else (⟨cb,((a.o:Int)-sh).toNat,none⟩:Addr).add (l*z))) (hh-l) (m-l)):=by
 have hadd:∀ l,(⟨cb,((a.o:Int)-sh).toNat,none⟩:Addr).add (l*z)=⟨cb,(((a.o+l*z:Nat):Int)-sh).toNat,none⟩:=by
  intro l
  unfold Addr.add
  by_cases hk:l*z=0
  ·simp [hk]
  ·simp only [if_neg hk,Addr.mk.injEq,true_and,and_true];omega
 have hmul:∀ m l,l≤m→m≤cc→l*z+(m-l)*z≤cc*z:=fun m l h1 h2=>by
  rw [← Nat.add_mul,Nat.add_sub_cancel' h1];exact Nat.mul_le_mul_right _ h2
 unfold cutV at h
 cases hmx with
 | some hm =>
  rename_i mv m'
  simp only at h
  split at h
  ·cases h
  ·rename_i m h0
   cases hhi with
   | none=>cases h
   | some hh =>
    rename_i hv h'
    simp only at h
    split at h
    ·cases h
    ·rename_i h1v h1
     split at h
     ·cases h
     ·rename_i l h2
      obtain ⟨g1,g2,g3,g4⟩:=bounds_max (P:=P) (n:=n) hlo hh hm h0 h1 h2 b cc hcc w
      refine ⟨l,h1v,m,g1,?_⟩
      cases h
      have:=hmul m l (by omega) (by omega)
      by_cases he:m=l
      ·rw [if_pos he,if_pos he]
       exact ⟨cb,sh,S,m-l,rfl,hρ,hsh,Nat.le_refl _,fun _=>rfl,by omega,by rw [show m-l=0 from by omega];omega⟩
      ·rw [if_neg he,if_neg he,hadd]
       exact ⟨cb,sh,S,m-l,rfl,hρ,by simp only;omega,Nat.le_refl _,fun _=>rfl,by omega,by simp only;omega⟩
 | none =>
  simp only at h
  split at h
  ·cases h
  ·rename_i h1v h1
   split at h
   ·cases h
   ·rename_i l h2
    obtain ⟨g1,g2,g3⟩:=bounds_nomax (P:=P) hlo hhi h1 h2 b cc hcc hn w
    refine ⟨l,h1v,cc,g1,?_⟩
    have:=hmul cc l (by omega) (Nat.le_refl _)
    cases ex with
    | true =>
     obtain rfl:=hex rfl
     simp only [if_true] at h
     cases h
     by_cases he:cc=l
     ·rw [if_pos he,if_pos he]
      exact ⟨cb,sh,S,cc-l,rfl,hρ,hsh,Nat.le_refl _,fun _=>rfl,by omega,by rw [show cc-l=0 from by omega];omega⟩
     ·rw [if_neg he,if_neg he,hadd]
      exact ⟨cb,sh,S,cc-l,rfl,hρ,by simp only;omega,Nat.le_refl _,fun _=>rfl,by omega,by simp only;omega⟩
    | false =>
     simp only [Bool.false_eq_true,if_false] at h
     by_cases hl:l<cap
     ·rw [if_pos hl] at h
      cases h
      rw [if_neg (by omega),hadd]
      exact ⟨cb,sh,S,cc-l,rfl,hρ,by simp only;omega,by omega,fun he=>absurd he (by simp),by omega,by simp only;omega⟩
     ·rw [if_neg hl] at h
      cases h
      rw [show h1v-l=0 from by omega]
      exact ⟨_,_,rfl⟩
end Go.Proofs.YtcmhoboglapbdaaDoor.Ev
namespace Go.Proofs.YtcmhoboglapbdaaDoor.Ev
open Go
def Sim(P:Program)(ρ:Rho)(h:AH)(w:World)(s:Sem Value)(v:V)(h':AH):Prop :=
 ∃ u w' ρ',s.run P w=.ok u w'∧R ρ' v u∧HR ρ' h' w'∧Step ρ h w ρ' h' w'
theorem Sim.pure{P:Program}{ρ:Rho}{h:AH}{w:World}{s:Sem Value}{v:V}(hr:HR ρ h w)(hs:∃ u,s.run P w=.ok u w∧R ρ v u):Sim P ρ h w s v h:=by
 obtain ⟨u,h1,h2⟩:=hs
 exact ⟨u,w,ρ,h1,h2,hr,Step.refl ρ h w⟩
def zeroOf(P:Program)(t:TypeId):Option (List V) :=
 match P.info? t with
 | some i =>
  match i.zero with
  | some z=>if (absC z).isBad=false∧(absC z).cells.length=i.size∧(absC z).cells.all V.cell=true then some (absC z).cells else none
  | none=>none
 | none=>none
theorem jce{P:Program}{t:TypeId}{zs:List V}(h:zeroOf P t=some zs)(ρ:Rho):∃ i z,P.info? t=some i∧i.zero=some z∧RL ρ zs z.cells.toList∧zs.length=P.cellsOf t∧zs.all V.cell=true∧(zeroValue t:Sem Value)=zeroValue t ∧
  (∀ w,(zeroValue t).run P w=.ok z w):=by
 unfold zeroOf at h
 split at h
 ·rename_i i hi
  split at h
  ·rename_i z hz
   split at h
   ·rename_i hc
    cases h
    refine ⟨i,z,hi,hz,R_cells_list (absC_R ρ z) hc.1,by rw [hc.2.1];simp [Program.cellsOf,hi],hc.2.2,rfl,fun w=>by simp [zeroValue,typeInfo,hi,hz]⟩
   ·cases h
  ·cases h
 ·cases h
theorem jcc(P:Program)(e:TypeId)(c:Array Value)(w:World):(newRow e c).run P w=.ok ⟨w.heap.size,0,none⟩ { w with heap:=w.heap.push (.cells c e) }:=by
 simp [newRow]
theorem new_row{P:Program}{ρ:Rho}{h:AH}{w w0:World}(hr:HR ρ h w)(h0:w0.heap=w.heap)(h1:w0.os=w.os)(h2:w0.tape=w.tape)(h3:w0.output=w.output){vs:List V}{us:List Value}(hR:RL ρ vs us)(extra:List Value)(e:TypeId)(hc:vs.all V.cell=true) :
  ∃ ρ',HR ρ' (h.add ⟨Arr.ofList vs,0,0,false,e⟩) { w0 with heap:=w0.heap.push (.cells (us++extra).toArray e) }∧Step ρ h w ρ' (h.add ⟨Arr.ofList vs,0,0,false,e⟩) { w0 with heap:=w0.heap.push (.cells (us++extra).toArray e) } ∧
   ρ' h.next vs.length=some (w.heap.size,0,us.length+extra.length):=by
 have hl:=hR.length
 obtain ⟨ρ',g1,g2,g3⟩:=add_sound (w':={ w0 with heap:=w0.heap.push (.cells (us++extra).toArray e) }) hr ⟨Arr.ofList vs,0,0,false,e⟩ (us++extra).toArray 0 0 (by simp only [h0]) h1 h2 h3 (by simp [hl]) (fun j v hv=>by
  simp only [Arr.get_ofList] at hv
  obtain ⟨u,hu,hRu⟩:=hR.get hv
  refine ⟨u,?_,hRu⟩
  have:=(List.getElem?_eq_some_iff.1 hu).1
  simp only [List.getElem?_toArray]
  rw [List.getElem?_append_left this,hu]) (fun i _ _=>by omega) (Nat.le_refl 0)
 refine ⟨ρ',g1,g2,?_⟩
 rw [Arr.ofList_n] at g3
 rw [g3]
 simp
noncomputable def absAlloc(P:Program)(t:TypeId)(h:AH):Option (V×AH) :=
 match zeroOf P t with
 | some zs=>some (.ptr ⟨h.next,zs.length,0⟩,h.add ⟨Arr.make zs.length zs,0,0,false,t⟩)
 | none=>none
theorem alloc_sound{P:Program}{ρ:Rho}{h h':AH}{w:World}{t:TypeId}{v:V}(hr:HR ρ h w)(hs:absAlloc P t h=some (v,h')):Sim P ρ h w (Instr.alloc t true (.tuple #[])) v h':=by
 unfold absAlloc at hs
 split at hs
 ·rename_i zs hz
  cases hs
  obtain ⟨i,z,hi,hz',hR,hl,hc,_,hrun⟩:=jce hz ρ
  have hlen:zs.length=z.cells.size:=by simpa using hR.length
  obtain ⟨ρ',g1,g2,g3⟩:=add_sound (w':={ w with heap:=w.heap.push (.cells z.cells t) }) hr ⟨Arr.make zs.length zs,0,0,false,t⟩ z.cells 0 0 rfl rfl rfl rfl (by simp [hlen]) (fun j v hv=>by
   simp only [Arr.get_make] at hv
   split at hv
   ·rename_i hj
    rw [Nat.mod_eq_of_lt hj] at hv
    obtain ⟨u,hu,hRu⟩:=hR.get hv
    rw [Array.getElem?_toList] at hu
    exact ⟨u,hu,hRu⟩
   ·cases hv) (fun i _ _=>by omega) (Nat.le_refl 0)
  refine ⟨.pointer (some ⟨w.heap.size,0,none⟩),_,ρ',?_,⟨_,rfl,w.heap.size,0,z.cells.size,?_,Int.le_refl _,rfl⟩,g1,g2⟩
  ·simp [Instr.alloc,hrun,newVar,jcc]
  ·rw [Arr.make_n] at g3;exact g3
 ·cases hs
noncomputable def absBox(t:TypeId)(x:V)(h:AH):Option (V×AH) :=
 if x.cells.all V.cell then some (.ptr ⟨h.next,x.cells.length,0⟩,h.add ⟨Arr.ofList x.cells,0,0,false,t⟩) else none
theorem box_sound{P:Program}{ρ:Rho}{h h':AH}{w:World}{t:TypeId}{x v:V}{a:Value}(hr:HR ρ h w)(hx:R ρ x a)(hs:absBox t x h=some (v,h')):Sim P ρ h w (Instr.box t a) v h':=by
 unfold absBox at hs
 split at hs
 ·rename_i hc
  cases hs
  have hb:x.isBad=false:=by cases x <;> first | rfl | (simp [V.cells,V.cell] at hc)
  have hR:=R_cells_list hx hb
  obtain ⟨ρ',g1,g2,g3⟩:=new_row (P:=P) hr rfl rfl rfl rfl hR [] t hc
  refine ⟨.pointer (some ⟨w.heap.size,0,none⟩),_,ρ',?_,⟨_,rfl,w.heap.size,0,_,g3,Int.le_refl _,rfl⟩,g1,g2⟩
  simp [Instr.box,newVar,jcc]
 ·cases hs
noncomputable def absLoad(P:Program)(t:TypeId)(x:V)(h:AH):Option V :=
 match x with
 | .ptr a =>
  match P.underlying t with
  | some (.struct _) | some (.array _ _)=>(jbj h a (P.cellsOf t)).map .agg
  | some _ =>
   match jbj h a 1 with
   | some [v]=>some v
   | _=>none
  | none=>none
 | _=>none
theorem load_sound{P:Program}{ρ:Rho}{h:AH}{w:World}{t:TypeId}{x v:V}{a:Value}(hr:HR ρ h w)(hx:R ρ x a)(hs:absLoad P t x h=some v):∃ u,(Instr.loadAt t a).run P w=.ok u w∧R ρ v u:=by
 unfold absLoad at hs
 split at hs
 ·rename_i p
  obtain ⟨c,rfl,hc⟩:=hx
  have agg:∀ d,P.underlying t=some d→(match d with | .struct _=>true | .array _ _=>true | _=>false)=true→(jbj h p (P.cellsOf t)).map V.agg=some v→∃ u,(Instr.loadAt t (.pointer (some c))).run P w=.ok u w∧R ρ v u:=by
   intro d hu hd hs
   cases hread:jbj h p (P.cellsOf t) with
   | none=>rw [hread] at hs;cases hs
   | some vs =>
    rw [hread] at hs
    cases hs
    obtain ⟨us,hlen,hR,hcell⟩:=jcq hr hc hread
    have hl:=run_loadCells_list (P:=P) (w:=w) c us hcell
    refine ⟨.agg us.toArray,?_,_,rfl,hR⟩
    unfold Instr.loadAt loadVar
    have hagg:(isAgg t).run P w=.ok true w:=by
     unfold isAgg
     simp only [Sem.run_bind,run_underlying hu,Result.andThen_ok]
     cases d <;> first | (cases hd;done) | rfl
    rw [hlen] at hl
    simp [Instr.sureAddr,hagg,jaz' hu,hl]
  split at hs
  ·rename_i fs hu;exact agg _ hu rfl hs
  ·rename_i n e hu;exact agg _ hu rfl hs
  ·rename_i d h1 h2 hu
   split at hs
   ·rename_i v' hread
    cases hs
    obtain ⟨us,hlen,hR,hcell⟩:=jcq hr hc hread
    obtain ⟨u,rest,rfl,hRu,_⟩:=hR
    have h0:=hcell 0 u (by simp)
    rw [show c.add 0=c from by simp [Addr.add]] at h0
    refine ⟨u,?_,hRu⟩
    have hagg:(isAgg t).run P w=.ok false w:=by
     unfold isAgg
     simp only [Sem.run_bind,run_underlying hu,Result.andThen_ok]
     rfl
    unfold Instr.loadAt loadVar
    simp [Instr.sureAddr,hagg,h0]
   ·cases hs
  ·cases hs
 ·cases hs
noncomputable def absStore(P:Program)(t:TypeId)(x v:V)(h:AH):Option AH :=
 match x with
 | .ptr a=>if (P.info? t).isSome∧v.cells.length=P.cellsOf t then writeN h a v.cells else none
 | _=>none
theorem store_sound{P:Program}{ρ:Rho}{h h':AH}{w:World}{t:TypeId}{x v:V}{a b:Value}(hr:HR ρ h w)(hx:R ρ x a)(hv:R ρ v b)(hs:absStore P t x v h=some h') :
  ∃ w',(Instr.storeAt t a b).run P w=.ok () w'∧HR ρ h' w'∧Step ρ h w ρ h' w':=by
 unfold absStore at hs
 split at hs
 ·rename_i p
  split at hs
  ·rename_i hc
   obtain ⟨i,hi⟩:=Option.isSome_iff_exists.1 hc.1
   obtain ⟨c,rfl,hcc⟩:=hx
   obtain ⟨k,_,_,_,_,_,hall,_⟩:=writeN_inv hs
   have hb:v.isBad=false:=by cases v <;> first | rfl | (simp [V.cells,V.cell] at hall)
   have hR:=R_cells_list hv hb
   obtain ⟨w',g1,g2,g3⟩:=write_sound P hr hcc hR hs
   refine ⟨w',?_,g2,g3⟩
   have hl:=hR.length
   rw [hc.2,Array.length_toList] at hl
   unfold Instr.storeAt storeVar
   simp [Instr.sureAddr,jaz hi,← hl,g1]
  ·cases hs
 ·cases hs
end Go.Proofs.YtcmhoboglapbdaaDoor.Ev
namespace Go.Proofs.YtcmhoboglapbdaaDoor.Ev
open Go
def putL(vs:List V)(o:Nat)(cs:List V):List V:=cs.take o++vs++cs.drop (o+vs.length)
def fillV(place:Nat→Option (Nat×Nat)):List (Nat×V)→List V→Option (List V)
 | [],cs=>some cs
 | (i,v) :: rest,cs =>
  match place i with
  | none=>none
  | some (off,size)=>if v.isBad=false∧v.cells.length=size∧off+size≤cs.length then fillV place rest (putL v.cells off cs) else none
theorem foldl_set(us:List Value):∀ (o k:Nat) (cs:Array Value),o+k+us.length≤cs.size→((us.zipIdx k).foldl (fun cs (x:Value×Nat)=>cs.setIfInBounds (o+x.2) x.1) cs).toList=cs.toList.take (o+k)++us++cs.toList.drop (o+k+us.length):=by
 induction us with
 | nil=>intro o k cs _;simp
 | cons u us ih =>
  intro o k cs h
  simp only [List.length_cons] at h
  rw [List.zipIdx_cons,List.foldl_cons,show o+k+(u :: us).length=o+(k+1)+us.length from by simp only [List.length_cons];omega]
  rw [ih o (k+1) _ (by simp;omega)]
  have hk:o+k<cs.toList.length:=by rw [Array.length_toList];omega
  simp only [Array.toList_setIfInBounds]
  rw [List.drop_set,if_pos (by omega)]
  rw [show o+(k+1)=(o+k)+1 from by omega,List.take_set,List.take_succ_eq_append_getElem (by simpa using hk),]
  rw [List.set_append_right _ _ (by rw [List.length_take];omega)]
  simp [List.length_take]
  rw [Nat.min_eq_left (by omega),Nat.sub_self]
  rfl
theorem fill_sound{ρ:Rho}{place:Nat→Option (Nat×Nat)}:∀ {ps:List (Nat×V)} {qs:List (Nat×Value)} {cs rs:List V} {us:Array Value},ps.map (·.1)=qs.map (·.1)→RL ρ (ps.map (·.2)) (qs.map (·.2))→RL ρ cs us.toList→fillV place ps cs=some rs →
  ∃ us':Array Value,Instr.fill place us qs=some us'∧RL ρ rs us'.toList:=by
 intro ps
 induction ps with
 | nil =>
  intro qs cs rs us hi _ hR h
  cases qs with
  | nil=>cases h;exact ⟨us,rfl,hR⟩
  | cons q qs=>simp at hi
 | cons p ps ih =>
  intro qs cs rs us hi hp hR h
  cases qs with
  | nil=>simp at hi
  | cons q qs =>
   obtain ⟨i,v⟩:=p
   obtain ⟨j,u⟩:=q
   simp only [List.map_cons,List.cons.injEq] at hi
   obtain ⟨rfl,hi⟩:=hi
   simp only [List.map_cons] at hp
   rw [RL_cons] at hp
   obtain ⟨hv,hp⟩:=hp
   simp only [fillV] at h
   cases hpl:place i with
   | none=>rw [hpl] at h;cases h
   | some x =>
    obtain ⟨off,size⟩:=x
    rw [hpl] at h
    simp only at h
    split at h
    ·rename_i hc
     have hRv:=R_cells_list hv hc.1
     have hl:v.cells.length=u.cells.size:=by simpa using hRv.length
     have hl2:cs.length=us.size:=by simpa using hR.length
     have hfold:=foldl_set u.cells.toList off 0 us (by rw [Array.length_toList];omega)
     have hR':RL ρ (putL v.cells off cs) ((u.cells.toList.zipIdx.foldl (fun cs (x:Value×Nat)=>cs.setIfInBounds (off+x.2) x.1) us)).toList:=by
      rw [hfold]
      unfold putL
      rw [show off+0=off from rfl,← hRv.length]
      exact ((hR.take _).append hRv).append (hR.drop _)
     obtain ⟨us',g1,g2⟩:=ih hi hp hR' h
     refine ⟨us',?_,g2⟩
     rw [← g1]
     simp only [Instr.fill,hpl]
     rw [if_neg (by simp only [ne_eq,Bool.or_eq_true,decide_eq_true_eq,not_or];constructor <;> omega)]
     congr 1
     simp only [← Array.foldl_toList,Array.toList_zipIdx]
    ·cases h
def structPlaces(P:Program)(fs:Array Field):Option (List (Nat×Nat)) :=
 if fs.toList.all (fun f=>(P.info? f.type).isSome) then some (fs.toList.map fun f=>(f.offset,P.cellsOf f.type)) else none
def absBuild(P:Program)(t:TypeId)(ps:List (Nat×V)):Option V :=
 match zeroOf P t with
 | none=>none
 | some zs =>
  match P.underlying t with
  | some (.struct fs) =>
   match structPlaces P fs with
   | some pl=>(fillV (pl[·]?) ps zs).map .agg
   | none=>none
  | some (.array _ e)=>if (P.info? e).isSome then (fillV (fun i=>some (i*P.cellsOf e,P.cellsOf e)) ps zs).map .agg else none
  | _=>none
theorem mapM_places{P:Program}(w:World):∀ (l:List Field),l.all (fun f=>(P.info? f.type).isSome)=true→(l.mapM (fun f=>do pure (f.offset,← sizeOf f.type):Field→Sem (Nat×Nat))).run P w=.ok (l.map fun f=>(f.offset,P.cellsOf f.type)) w:=by
 intro l
 induction l with
 | nil=>intro _;simp
 | cons f l ih =>
  intro h
  simp only [List.all_cons,Bool.and_eq_true] at h
  obtain ⟨i,hi⟩:=Option.isSome_iff_exists.1 h.1
  rw [List.mapM_cons]
  simp only [Sem.run_bind,jaz hi,Result.andThen_ok,Sem.run_pure,ih h.2,List.map_cons]
theorem build_sound{P:Program}{ρ:Rho}{t:TypeId}{ps:List (Nat×V)}{qs:Array (Nat×Value)}{v:V}(hi:ps.map (·.1)=qs.toList.map (·.1))(hp:RL ρ (ps.map (·.2)) (qs.toList.map (·.2)))(h:absBuild P t ps=some v)(w:World) :
  ∃ u,(Instr.build t qs).run P w=.ok u w∧R ρ v u:=by
 unfold absBuild at h
 split at h
 ·cases h
 ·rename_i zs hz
  obtain ⟨i,z,hi',hz',hR,hl,hc,_,hrun⟩:=jce hz ρ
  split at h
  ·rename_i fs hu
   unfold structPlaces at h
   split at h
   ·rename_i pl hpl
    split at hpl
    ·rename_i hall
     cases hpl
     cases hf:fillV (fun x=>(fs.toList.map fun f=>(f.offset,P.cellsOf f.type))[x]?) ps zs with
     | none=>rw [hf] at h;cases h
     | some rs =>
      rw [hf] at h
      cases h
      obtain ⟨us',g1,g2⟩:=fill_sound hi hp hR hf
      refine ⟨.agg us',?_,_,rfl,g2⟩
      unfold Instr.build
      have hm:=mapM_places (P:=P) w fs.toList hall
      have hm2:(fs.mapM (fun f=>do pure (f.offset,← sizeOf f.type):Field→Sem (Nat×Nat))).run P w=.ok (fs.toList.map fun f=>(f.offset,P.cellsOf f.type)).toArray w:=by
       rw [Array.mapM_eq_mapM_toList]
       simp only [Sem.run_map,hm,Result.andThen_ok]
      simp only [Sem.run_bind,hrun,Result.andThen_ok,run_underlying hu,hm2]
      simp only [List.getElem?_toArray,g1]
      rfl
    ·cases hpl
   ·cases h
  ·rename_i n e hu
   split at h
   ·rename_i hie
    obtain ⟨ie,hie⟩:=Option.isSome_iff_exists.1 hie
    cases hf:fillV (fun x=>some (x*P.cellsOf e,P.cellsOf e)) ps zs with
    | none=>rw [hf] at h;cases h
    | some rs =>
     rw [hf] at h
     cases h
     obtain ⟨us',g1,g2⟩:=fill_sound hi hp hR hf
     refine ⟨.agg us',?_,_,rfl,g2⟩
     unfold Instr.build
     simp only [Sem.run_bind,hrun,Result.andThen_ok,run_underlying hu,jaz hie,g1]
     rfl
   ·cases h
  ·cases h
end Go.Proofs.YtcmhoboglapbdaaDoor.Ev
namespace Go.Proofs.YtcmhoboglapbdaaDoor.Ev
open Go
noncomputable def absBuildSlice(P:Program)(t:TypeId)(len:Nat)(ps:List (Nat×V))(h:AH):Option (V×AH) :=
 match P.underlying t with
 | some (.slice e) =>
  match zeroOf P e with
  | some zs =>
   if 0<P.cellsOf e∧len*P.cellsOf e≤16777216 then
    match fillV (fun i=>some (i*P.cellsOf e,P.cellsOf e)) ps (List.replicate len zs).flatten with
    | some cs=>if cs.all V.cell then some (.slice ⟨h.next,cs.length,0⟩ len len true (P.cellsOf e),h.add ⟨Arr.ofList cs,0,0,false,e⟩) else none
    | none=>none
   else none
  | none=>none
 | _=>none
theorem range0(f:Nat→Value):(Array.range 0).map f=#[]:=by simp
theorem range_cells{ρ:Rho}{zs:List V}{us:List Value}(hR:RL ρ zs us)(n:Nat)(hpos:0<us.length) :
  RL ρ (List.replicate n zs).flatten ((Array.range (n*us.length)).map fun i=>us.toArray[i % us.toArray.size]!).toList:=by
 refine RL.of_get ?_ ?_
 ·simp [hR.length]
 ·intro i x y hx hy
  have hlen:=hR.length
  have hi:i<n*us.length:=by
   have:=(List.getElem?_eq_some_iff.1 hy).1
   simpa using this
  simp only [Array.getElem?_toList,Array.getElem?_map,Array.getElem?_range,hi,if_true,Option.map_some,Option.some.injEq] at hy
  have hget:(List.replicate n zs).flatten[i]?=zs[i % us.length]?:=by
   clear hx hy
   induction n generalizing i with
   | zero=>simp at hi
   | succ n ih =>
    rw [List.replicate_succ,List.flatten_cons]
    by_cases h1:i<zs.length
    ·rw [List.getElem?_append_left h1,Nat.mod_eq_of_lt (by omega)]
    ·have hm:i % us.length=(i-us.length) % us.length:=Nat.mod_eq_sub_mod (by omega)
     rw [List.getElem?_append_right (by omega),ih _ (by rw [Nat.add_mul,Nat.one_mul] at hi;omega),hlen,hm]
  rw [hget] at hx
  obtain ⟨u,hu,hRu⟩:=hR.get hx
  rw [← hy]
  have:us.toArray[i % us.toArray.size]! = u:=by
   have hlt:=(List.getElem?_eq_some_iff.1 hu).1
   simp only [List.size_toArray,List.getElem!_toArray]
   rw [List.getElem!_eq_getElem?_getD,hu];rfl
  rw [this]
  exact hRu
theorem buildSlice_sound{P:Program}{ρ:Rho}{h h':AH}{w:World}{t:TypeId}{len:Nat}{ps:List (Nat×V)}{qs:Array (Nat×Value)}{v:V}(hr:HR ρ h w)(hi:ps.map (·.1)=qs.toList.map (·.1))(hp:RL ρ (ps.map (·.2)) (qs.toList.map (·.2)))
  (hs:absBuildSlice P t len ps h=some (v,h')):Sim P ρ h w (Instr.buildSlice t len qs) v h':=by
 unfold absBuildSlice at hs
 split at hs
 ·rename_i e hu
  split at hs
  ·rename_i zs hz
   split at hs
   ·rename_i hb
    split at hs
    ·rename_i cs hf
     split at hs
     ·rename_i hc
      cases hs
      obtain ⟨i,z,hi',hz',hR,hl,hcz,_,hrun⟩:=jce hz ρ
      have hzl:z.cells.toList.length=P.cellsOf e:=hR.length.symm.trans hl
      have hR0:=range_cells hR len (by omega)
      rw [hzl,Array.toArray_toList] at hR0
      obtain ⟨us',g1,g2⟩:=fill_sound hi hp hR0 hf
      obtain ⟨ρ',f1,f2,f3⟩:=new_row (P:=P) hr rfl rfl rfl rfl g2 [] e hc
      refine ⟨.slice (some ⟨w.heap.size,0,none⟩) len len,_,ρ',?_,⟨w.heap.size,0,_,len,rfl,f3,Int.le_refl _,Nat.le_refl _,fun _=>rfl,Nat.le_refl _,?_⟩,f1,f2⟩
      ·unfold Instr.buildSlice
       simp only [Sem.run_bind,run_underlying hu,Result.andThen_ok,jaz hi']
       have hne:¬len*P.cellsOf e>2 ^ 24:=by omega
       rw [if_neg hne]
       by_cases h0:len*P.cellsOf e=0
       ·have hlen0:len=0:=by rcases Nat.mul_eq_zero.1 h0 with h | h;exact h;omega
        subst hlen0
        simp only [h0,if_true,Sem.run_bind,Sem.run_pure,Result.andThen_ok,Nat.zero_mul,range0] at g1 ⊢
        simp only [g1,Sem.run_bind,jcc,Result.andThen_ok,Sem.run_pure,List.append_nil,Array.toArray_toList]
       ·simp only [h0,if_false,Sem.run_bind,Sem.run_pure,hrun,Result.andThen_ok,g1,jcc,List.append_nil,Array.toArray_toList]
      ·have hl':=g2.length
       have:=hR0.length
       have hfl:cs.length=len*P.cellsOf e:=by
        have:∀ (ps:List (Nat×V)) (c0 c1:List V),fillV (fun i=>some (i*P.cellsOf e,P.cellsOf e)) ps c0=some c1→c1.length=c0.length:=by
         intro ps
         induction ps with
         | nil=>intro c0 c1 h;cases h;rfl
         | cons p ps ih =>
          intro c0 c1 h
          simp only [fillV] at h
          split at h
          ·rename_i hc2
           rw [ih _ _ h]
           unfold putL
           simp only [List.length_append,List.length_take,List.length_drop]
           omega
          ·cases h
        rw [this _ _ _ hf]
        simp [hl]
       simp only [List.length_nil]
       omega
     ·cases hs
    ·cases hs
   ·cases hs
  ·cases hs
 ·cases hs
noncomputable def absMakeSlice(P:Program)(t:TypeId)(l c:V)(h:AH):Option (V×AH) :=
 match P.underlying t,l,c with
 | some (.slice e),.int _ l,.int _ c =>
  match zeroOf P e with
  | some zs =>
   if 0<P.cellsOf e∧0≤l∧l≤c∧c≤9223372036854775807∧(P.bytesOf e:Int)*c≤281474976710656 then
    some (.slice ⟨h.next,c.toNat*P.cellsOf e,0⟩ l.toNat c.toNat true (P.cellsOf e),h.add ⟨Arr.make (c.toNat*P.cellsOf e) zs,0,0,false,e⟩)
   else none
  | none=>none
 | _,_,_=>none
theorem makeSlice_sound{P:Program}{ρ:Rho}{h h':AH}{w:World}{t:TypeId}{l c v:V}{a b:Value}(hr:HR ρ h w)(hl:R ρ l a)(hc:R ρ c b)(hs:absMakeSlice P t l c h=some (v,h')):Sim P ρ h w (Instr.makeSlice t a b) v h':=by
 unfold absMakeSlice at hs
 split at hs
 ·rename_i e k l k' c hu
  split at hs
  ·rename_i zs hz
   split at hs
   ·rename_i hb
    obtain ⟨hb0,hb1,hb2,hb3,hb4⟩:=hb
    cases hs
    obtain ⟨i,z,hi',hz',hR,hlz,hcz,_,hrun⟩:=jce hz ρ
    have hzl:z.cells.toList.length=P.cellsOf e:=hR.length.symm.trans hlz
    have hzs:z.cells.size=P.cellsOf e:=by simpa using hzl
    rw [show a=_ from hl,show b=_ from hc]
    have hwl:IntKind.i64.wrap l=l:=by simp [IntKind.wrap,IntKind.bits,IntKind.signed];omega
    have hwc:IntKind.i64.wrap c=c:=by simp [IntKind.wrap,IntKind.bits,IntKind.signed];omega
    have hby:(P.bytesOf e:Int)=i.bytes:=by simp [Program.bytesOf,hi']
    obtain ⟨ρ',g1,g2,g3⟩:=add_sound (w':={ w with heap:=w.heap.push (.cells ((Array.range (c.toNat*P.cellsOf e)).map fun i=>z.cells[i % z.cells.size]!) e) }) hr ⟨Arr.make (c.toNat*P.cellsOf e) zs,0,0,false,e⟩ _ 0 0 rfl rfl rfl rfl (by simp) (fun j v hv=>by
     simp only [Arr.get_make] at hv
     split at hv
     ·rename_i hj
      obtain ⟨u,hu,hRu⟩:=hR.get hv
      refine ⟨u,?_,hRu⟩
      rw [Array.getElem?_toList,hR.length,hzl,← hzs] at hu
      simp only [Array.getElem?_map,Array.getElem?_range,hj,if_true,Option.map_some,Option.some.injEq]
      rw [getElem!_def,hu]
     ·cases hv) (fun i _ _=>by omega) (Nat.le_refl 0)
    refine ⟨.slice (some ⟨w.heap.size,0,none⟩) l.toNat c.toNat,_,ρ',?_,⟨w.heap.size,0,_,c.toNat,rfl,?_,Int.le_refl _,Nat.le_refl _,fun _=>rfl,by omega,Nat.le_refl _⟩,g1,g2⟩
    ·unfold Instr.makeSlice
     simp only [Sem.run_bind,run_underlying hu,Result.andThen_ok,asInt,asIntOf,Sem.run_pure,typeInfo,run_program,hi',hwl,hwc]
     have hnot:¬((decide (c<0) || decide ((i.bytes:Int)*c>2 ^ 48) || decide (l<0) || decide (l>c))=true):=by
      simp only [Bool.or_eq_true,decide_eq_true_eq,not_or]
      rw [hby] at hb4
      refine ⟨⟨⟨by omega,by omega⟩,by omega⟩,by omega⟩
     rw [if_neg hnot]
     simp only [Sem.run_bind,Sem.run_pure,run_askRoom,Result.andThen_ok,jaz hi']
     by_cases h0:c.toNat*P.cellsOf e=0
     ·simp only [h0,if_true,Sem.run_bind,Sem.run_pure,Result.andThen_ok,jcc,range0]
     ·simp only [h0,if_false,Sem.run_bind,Sem.run_pure,hrun,Result.andThen_ok,jcc]
    ·rw [Arr.make_n] at g3;rw [g3];simp
   ·cases hs
  ·cases hs
 ·cases hs
end Go.Proofs.YtcmhoboglapbdaaDoor.Ev
namespace Go.Proofs.YtcmhoboglapbdaaDoor.Ev
open Go
def byteV(n:Nat):V:=.int .u8 n
def byteOf:V→Option Nat
 | .int .u8 n=>some (Nat.mod n.toNat 256)
 | _=>none
def toBytes:List V→Option (List Nat)
 | []=>some []
 | v :: l=>match byteOf v,toBytes l with
  | some n,some r=>some (n :: r)
  | _,_=>none
theorem byteOf_spec{v:V}{m:Nat}(h:byteOf v=some m):∃ n:Int,v=.int .u8 n∧m=n.toNat % 256:=by
 unfold byteOf at h
 split at h
 ·rename_i n;cases h;exact ⟨n,rfl,rfl⟩
 ·cases h
theorem byteV_RL(ρ:Rho):∀ l:List UInt8,RL ρ ((l.map UInt8.toNat).map byteV) (l.map fun b=>Value.int .u8 b.toNat):=by
 intro l
 induction l with
 | nil=>exact rfl
 | cons b l ih=>exact ⟨_,_,rfl,rfl,ih⟩
theorem toBytes_spec{ρ:Rho}:∀ {vs:List V} {us:List Value} {l:List Nat},toBytes vs=some l→RL ρ vs us→∃ ns:List Int,us=ns.map (Value.int .u8)∧l=ns.map fun n=>n.toNat % 256:=by
 intro vs
 induction vs with
 | nil=>intro us l h hR;cases h;exact ⟨[],hR,rfl⟩
 | cons v vs ih =>
  rintro us l h ⟨z,zs,rfl,hz,hR⟩
  unfold toBytes at h
  cases hb:byteOf v with
  | none=>rw [hb] at h;cases h
  | some n =>
   cases ht:toBytes vs with
   | none=>rw [hb,ht] at h;cases h
   | some r =>
    rw [hb,ht] at h
    cases h
    obtain ⟨m,rfl,rfl⟩:=byteOf_spec hb
    obtain ⟨ns,g1,g2⟩:=ih ht hR
    exact ⟨m :: ns,by rw [g1,show z=_ from hz];rfl,by rw [g2];rfl⟩
theorem bytes_mod:∀ ns:List Int,(ns.map fun n=>UInt8.ofNat n.toNat).map UInt8.toNat=ns.map fun n=>n.toNat % 256:=by
 intro ns
 rw [List.map_map]
 apply List.map_congr_left
 intro n _
 simp
theorem run_chooseCap(P:Program)(w:World)(need old:Nat)(e:TypeId):∃ c,(choose (.appendCap need old e)).run P w=.ok c { w with drawn:=w.drawn+1 }∧need≤c:=by
 refine ⟨_,rfl,?_⟩
 simp only [Question.cut]
 exact Nat.le_add_right _ _
theorem modify_push_last{α:Type}(xs:Array α)(x:α)(f:α→α):(xs.push x).modify xs.size f=xs.push (f x):=by
 apply Array.ext_getElem?
 intro i
 rw [Array.getElem?_modify,Array.getElem?_push,Array.getElem?_push]
 by_cases h:i=xs.size
 ·subst h;simp
 ·rw [if_neg (fun e=>h e.symm),if_neg h,if_neg h]
noncomputable def absToBytes(e:TypeId)(s:List Nat)(h:AH):V×AH :=
 (.slice ⟨h.next,s.length,0⟩ s.length s.length false 1,h.add ⟨Arr.ofList (s.map byteV),0,0,false,e⟩)
theorem toBytes_sound{P:Program}{ρ:Rho}{h:AH}{w:World}{e:TypeId}{s:ByteArray}(hr:HR ρ h w) :
  Sim P ρ h w (Conv.stringToBytes e s) (absToBytes e (s.data.toList.map UInt8.toNat) h).1 (absToBytes e (s.data.toList.map UInt8.toNat) h).2:=by
 obtain ⟨c,hc,hle⟩:=run_chooseCap P w s.size 0 e
 have hsz:s.data.toList.length=s.size:=by rw [Array.length_toList];rfl
 let C:Array Value:=s.data.map (fun b=>Value.int .u8 b.toNat)++Array.replicate (c-s.size) (Value.int .u8 0)
 have hC:C.size=c:=by
  have:s.data.size=s.size:=rfl
  simp only [C,Array.size_append,Array.size_map,Array.size_replicate];omega
 obtain ⟨ρ',g1,g2,g3⟩:=add_sound (w':={ w with heap:=w.heap.push (.cells C e (C.size,C.size+1)),drawn:=w.drawn+1 }) hr ⟨Arr.ofList ((s.data.toList.map UInt8.toNat).map byteV),0,0,false,e⟩ C C.size (C.size+1) rfl rfl rfl rfl
  (by simp only [Arr.ofList_n,List.length_map,hsz];omega) (fun j v hv=>by
   simp only [Arr.get_ofList] at hv
   obtain ⟨u,hu,hRu⟩:=(byteV_RL ρ s.data.toList).get hv
   refine ⟨u,?_,hRu⟩
   have hlt:=(List.getElem?_eq_some_iff.1 hu).1
   rw [List.length_map,hsz] at hlt
   simp only [C]
   rw [Array.getElem?_append_left (by simp only [Array.size_map];exact hlt)]
   rw [List.getElem?_map,Array.getElem?_toList] at hu
   rw [Array.getElem?_map];exact hu) (fun i _ hi=>by omega) (Nat.le_succ _)
 refine ⟨.slice (some ⟨w.heap.size,0,none⟩) s.size c,_,ρ',?_,⟨w.heap.size,0,C.size,c,?_,?_,Int.le_refl _,?_,fun h=>absurd h (by simp),Nat.le_refl _,by simp only;omega⟩,g1,g2⟩
 ·unfold Conv.stringToBytes
  simp only [Sem.run_bind,hc,Result.andThen_ok,jcc,markStringish,run_shape]
  have hshape:(World.shape? { w with heap:=w.heap.push (.cells C e),drawn:=w.drawn+1 } w.heap.size)=some (e,C.size):=by
   simp [World.shape?]
  simp only [C] at hshape
  rw [hshape]
  simp only [run_freeze,Result.andThen_ok,Sem.run_pure]
  congr 1
  simp only [World.freeze]
  congr 1
  rw [modify_push_last]
  simp [C]
 ·simp only [List.length_map,hsz];rfl
 ·simp only [Arr.ofList_n,List.length_map] at g3 ⊢;exact g3
 ·simp only [List.length_map,hsz];exact hle
noncomputable def absToStr(x:V)(h:AH):Option V :=
 match x with
 | .nilslice=>some (.str [])
 | .loose=>some (.str [])
 | .slice a n _ _ _=>(jbj h a n).bind fun vs=>(toBytes vs).map .str
 | _=>none
theorem run_pushAll(P:Program)(w:World)(f:Value→ByteArray→Sem (ForInStep ByteArray))(hf:∀ (n:Int) (s:ByteArray),f (.int .u8 n) s=pure (ForInStep.yield (s.push (UInt8.ofNat n.toNat)))):∀ (l:List Int) (s:ByteArray),
  (forIn (l.map (Value.int .u8)) s f).run P w=.ok ⟨s.data++(l.map fun n=>UInt8.ofNat n.toNat).toArray⟩ w:=by
 intro l
 induction l with
 | nil=>intro s;simp
 | cons n l ih =>
  intro s
  rw [List.map_cons,List.forIn_cons,hf]
  simp only [Sem.run_bind,Sem.run_pure,Result.andThen_ok]
  rw [ih]
  congr 1
  simp [ByteArray.push]
theorem toStr_sound{P:Program}{ρ:Rho}{h:AH}{w:World}{x v:V}{a:Value}(hr:HR ρ h w)(hx:R ρ x a)(hs:absToStr x h=some v):∃ u,(Conv.bytesToString a).run P w=.ok u w∧R ρ v u:=by
 unfold absToStr at hs
 split at hs
 ·cases hs;rw [show a=_ from hx];exact ⟨.string .empty,rfl,_,rfl,rfl⟩
 ·cases hs
  obtain ⟨c,cc,rfl⟩:=hx
  refine ⟨.string .empty,?_,_,rfl,rfl⟩
  have:=run_loadCells_list (P:=P) (w:=w) c [] (by simp)
  simp only [List.length_nil] at this
  simp [Conv.bytesToString,this]
 ·rename_i p n _ _ _
  obtain ⟨cb,sh,S,cc,rfl,h1,h2,_⟩:=hx
  cases hread:jbj h p n with
  | none=>rw [hread] at hs;cases hs
  | some vs =>
   rw [hread] at hs
   simp only [Option.bind_some] at hs
   cases ht:toBytes vs with
   | none=>rw [ht] at hs;cases hs
   | some l =>
    rw [ht] at hs
    cases hs
    obtain ⟨us,hlen,hR,hcell⟩:=jcq hr ⟨cb,sh,S,h1,h2,rfl⟩ hread
    obtain ⟨ns,g1,g2⟩:=toBytes_spec ht hR
    have hl:=run_loadCells_list (P:=P) (w:=w) _ us hcell
    rw [hlen] at hl
    refine ⟨.string ⟨(ns.map fun n=>UInt8.ofNat n.toNat).toArray⟩,?_,_,rfl,?_⟩
    ·unfold Conv.bytesToString
     subst g1
     simp only [Sem.run_bind,hl,Result.andThen_ok,← Array.forIn_toList]
     rw [run_pushAll P w _ (fun _ _=>rfl)]
     have e:ByteArray.empty.data=#[]:=rfl
     rw [e]
     simp
    ·rw [g2,← bytes_mod]
 ·cases hs
end Go.Proofs.YtcmhoboglapbdaaDoor.Ev
namespace Go.Proofs.YtcmhoboglapbdaaDoor.Ev
open Go
theorem toNat_00:(((0:Nat):Int)-0).toNat=0:=rfl
theorem toNat_oo(o:Nat):((o:Int)-(o:Int)).toNat=0:=by simp
def srcLen(x:V):Option Nat :=
 match x with
 | .nilslice=>some 0
 | .loose=>some 0
 | .slice _ n _ _ _=>some n
 | .str s=>some s.length
 | _=>none
noncomputable def srcCells(x:V)(size n:Nat)(h:AH):Option (List V) :=
 match x with
 | .nilslice=>some []
 | .loose=>some []
 | .slice a _ _ _ _=>if n=0 then some [] else jbj h a (n*size)
 | .str s=>some ((s.take n).map byteV)
 | _=>none
theorem srcLen_sound{P:Program}{ρ:Rho}{x:V}{a:Value}{n:Nat}(hx:R ρ x a)(h:srcLen x=some n)(w:World):(Builtin.lenOf a).run P w=.ok n w:=by
 unfold srcLen at h
 split at h
 ·cases h;rw [show a=_ from hx];rfl
 ·cases h;obtain ⟨_,_,rfl⟩:=hx;rfl
 ·cases h;obtain ⟨_,_,_,_,rfl,_⟩:=hx;rfl
 ·cases h;obtain ⟨t,rfl,rfl⟩:=hx;simp [Builtin.lenOf]
 ·cases h
theorem cell_of_heap{w w0:World}(h:w0.heap=w.heap)(a:Addr):w0.cell? a=w.cell? a:=by unfold World.cell?;rw [h]
theorem srcCells_sound{P:Program}{ρ:Rho}{h:AH}{w:World}{x:V}{a:Value}{m n size:Nat}{vs:List V}(hr:HR ρ h w)(hx:R ρ x a)(hm:srcLen x=some m)(hn:n≤m)(hs:srcCells x size n h=some vs) :
  ∃ us:List Value,RL ρ vs us∧∀ w0:World,w0.heap=w.heap→(Builtin.firstCells size n a).run P w0=.ok us.toArray w0:=by
 unfold srcCells at hs
 split at hs
 ·cases hs;rw [show a=_ from hx];exact ⟨[],rfl,fun _ _=>rfl⟩
 ·cases hs
  cases hm
  obtain ⟨c,cc,rfl⟩:=hx
  have hn0:n=0:=by omega
  subst hn0
  refine ⟨[],rfl,fun w0 _=>?_⟩
  have:=run_loadCells_list (P:=P) (w:=w0) c [] (by simp)
  simp only [List.length_nil] at this
  simp [Builtin.firstCells,this]
 ·rename_i p k _ _ _
  obtain ⟨cb,sh,S,cc,rfl,h1,h2,_⟩:=hx
  split at hs
  ·rename_i hn0
   cases hs
   subst hn0
   refine ⟨[],rfl,fun w0 _=>?_⟩
   have:=run_loadCells_list (P:=P) (w:=w0) (⟨cb,((p.o:Int)-sh).toNat,none⟩) [] (by simp)
   simp only [List.length_nil] at this
   simp [Builtin.firstCells,this]
  ·obtain ⟨us,hlen,hR,hcell⟩:=jcq hr ⟨cb,sh,S,h1,h2,rfl⟩ hs
   refine ⟨us,hR,fun w0 h0=>?_⟩
   have hl:=run_loadCells_list (P:=P) (w:=w0) _ us (fun j u hu=>(cell_of_heap h0 _).trans (hcell j u hu))
   rw [hlen] at hl
   simp [Builtin.firstCells,hl]
 ·rename_i s
  cases hs
  obtain ⟨t,rfl,rfl⟩:=hx
  refine ⟨(t.data.toList.take n).map fun b=>Value.int .u8 b.toNat,?_,fun w0 _=>?_⟩
  ·have:=byteV_RL ρ (t.data.toList.take n)
   rw [List.map_take] at this
   exact this
  ·simp only [Builtin.firstCells,Sem.run_pure]
   congr 1
   apply Array.ext'
   simp [ByteArray.data_extract]
 ·cases hs
theorem growBy_le(n:Nat):∀ (r c:Nat),256≤c→c<n→Builtin.growBy n r c≤2*n+128:=by
 intro r
 induction r with
 | zero=>intro c hc h;simp only [Builtin.growBy];omega
 | succ r ih =>
  intro c hc h
  simp only [Builtin.growBy]
  rw [if_neg (by omega)]
  by_cases h2:c+(c+768) / 4<n
  ·exact ih _ (by omega) h2
  ·cases r with
   | zero=>simp only [Builtin.growBy];omega
   | succ r=>simp only [Builtin.growBy];rw [if_pos (by omega)];omega
theorem nextcap_le{n c:Nat}(h:c<n):Builtin.nextslicecap n c≤2*n+128:=by
 unfold Builtin.nextslicecap
 split
 ·omega
 ·split
  ·omega
  ·exact growBy_le n 4 c (by omega) h
theorem jbh(z:Array Value)(n:Nat):(Builtin.zeroCells z n).size=n*z.size:=by simp [Builtin.zeroCells]
theorem append_grown{P:Program}{w:World}{t xt ty e:TypeId}{i:TypeInfo}{z:Value}{base:Option Addr}{sn cc n:Nat}{x:Value}{old new:List Value}(hu:P.underlying t=some (.slice e))(hx:∀ k,P.underlying xt≠some (.int k))(hxu:(P.underlying xt).isSome=true)(hi:P.info? e=some i)(hz:i.zero=some z)
  (hlen:(Builtin.lenOf x).run P w=.ok n w) (hold:∀ w0:World,w0.heap=w.heap→(Builtin.firstCells i.size sn (.slice base sn cc)).run P w0=.ok old.toArray w0) (hnew:∀ w0:World,w0.heap=w.heap→(Builtin.firstCells i.size n x).run P w0=.ok new.toArray w0)
  (hneed:cc<sn+n) (hmax:sn+n≤4611686018427387904) (hb:(2*(sn+n)+128)*i.bytes≤281474976710656) :
  ∃ c,sn+n≤c∧(Builtin.append_ #[t,xt] ty #[.slice base sn cc,x]).run P w =
   .ok (.slice (some ⟨w.heap.size,0,none⟩) (sn+n) c) { w with heap:=w.heap.push (.cells (old++new++(Builtin.zeroCells z.cells (c-(sn+n))).toList).toArray e),drawn:=w.drawn+1 }:=by
 obtain ⟨c,hc,hle⟩:=run_chooseCap P w (sn+n) cc e
 refine ⟨c,hle,?_⟩
 obtain ⟨xd,hxd⟩:=Option.isSome_iff_exists.1 hxu
 have hnx:∀ k,xd≠.int k:=fun k hk=>hx k (by rw [hxd,hk])
 have hsz:(sizeOf e).run P w=.ok i.size w:=by simp [sizeOf,typeInfo,hi]
 unfold Builtin.append_
 simp only [List.getElem?_toArray,List.getElem?_cons_zero,List.getElem?_cons_succ,Sem.run_bind,run_underlying hu,Result.andThen_ok,hsz,run_underlying hxd]
 have hm:(match xd with | .int k=>true | _=>false)=false:=by cases xd <;> first | rfl | exact absurd rfl (hnx _)
 have hn1:¬sn+n≤cc:=by omega
 have hmul:Builtin.nextslicecap (sn+n) cc*i.bytes≤281474976710656:=Nat.le_trans (Nat.mul_le_mul_right _ (nextcap_le hneed)) hb
 have h63:¬((sn+n:Nat):Int)>IntKind.i64.max:=by simp [IntKind.max,IntKind.bits,IntKind.signed];omega
 have hti:∀ w0:World,(typeInfo e).run P w0=.ok i w0:=fun w0=>by simp [typeInfo,hi]
 have hzv:∀ w0:World,(zeroValue e).run P w0=.ok z w0:=fun w0=>by simp [zeroValue,typeInfo,hi,hz]
 have hcap:¬Builtin.nextslicecap (sn+n) cc*i.bytes>2 ^ 48:=by omega
 simp only [Sem.run_pure,Result.andThen_ok,Bool.false_eq_true,if_false,Sem.run_bind,hlen,hn1,hti,h63,false_and,hcap,hc,run_askRoom]
 rw [hold { w with drawn:=w.drawn+1 } rfl]
 simp only [Result.andThen_ok,Bool.not_false,if_true]
 rw [hnew { w with drawn:=w.drawn+1 } rfl]
 simp only [Result.andThen_ok,hzv,jcc]
 have he:old.toArray++new.toArray++Builtin.zeroCells z.cells (c-(sn+n))=(old++new++(Builtin.zeroCells z.cells (c-(sn+n))).toList).toArray:=by
  apply Array.ext';simp
 rw [he]
theorem append_room{P:Program}{w w':World}{t xt ty e:TypeId}{i:TypeInfo}{a:Addr}{sn cc n:Nat}{x:Value}{new:List Value}(hu:P.underlying t=some (.slice e))(hx:∀ k,P.underlying xt≠some (.int k))(hxu:(P.underlying xt).isSome=true)(hi:P.info? e=some i)
  (hlen:(Builtin.lenOf x).run P w=.ok n w) (hnew:(Builtin.firstCells i.size n x).run P w=.ok new.toArray w) (hneed:sn+n≤cc) (hst:(storeCells (a.add (sn*i.size)) new).run P w=.ok () w') :
  (Builtin.append_ #[t,xt] ty #[.slice (some a) sn cc,x]).run P w=.ok (.slice (some a) (sn+n) cc) w':=by
 obtain ⟨xd,hxd⟩:=Option.isSome_iff_exists.1 hxu
 have hnx:∀ k,xd≠.int k:=fun k hk=>hx k (by rw [hxd,hk])
 have hsz:(sizeOf e).run P w=.ok i.size w:=by simp [sizeOf,typeInfo,hi]
 unfold Builtin.append_
 simp only [List.getElem?_toArray,List.getElem?_cons_zero,List.getElem?_cons_succ,Sem.run_bind,run_underlying hu,Result.andThen_ok,hsz,run_underlying hxd]
 simp only [Sem.run_pure,Result.andThen_ok,Bool.false_eq_true,if_false,Sem.run_bind,hlen,hneed,if_true,Bool.not_false,hnew,hst]
theorem append_nothing{P:Program}{w:World}{t xt ty e:TypeId}{i:TypeInfo}{cc:Nat}{x:Value}{new:List Value}(hu:P.underlying t=some (.slice e))(hx:∀ k,P.underlying xt≠some (.int k))(hxu:(P.underlying xt).isSome=true)(hi:P.info? e=some i)
  (hlen:(Builtin.lenOf x).run P w=.ok 0 w) (hnew:(Builtin.firstCells i.size 0 x).run P w=.ok new.toArray w) :
  (Builtin.append_ #[t,xt] ty #[.slice none 0 cc,x]).run P w=.ok (.slice none 0 cc) w:=by
 obtain ⟨xd,hxd⟩:=Option.isSome_iff_exists.1 hxu
 have hnx:∀ k,xd≠.int k:=fun k hk=>hx k (by rw [hxd,hk])
 have hsz:(sizeOf e).run P w=.ok i.size w:=by simp [sizeOf,typeInfo,hi]
 unfold Builtin.append_
 simp only [List.getElem?_toArray,List.getElem?_cons_zero,List.getElem?_cons_succ,Sem.run_bind,run_underlying hu,Result.andThen_ok,hsz,run_underlying hxd]
 simp only [Sem.run_pure,Result.andThen_ok,Bool.false_eq_true,if_false,Sem.run_bind,hlen,Nat.zero_le,Nat.add_zero,if_true,Bool.not_false,hnew]
def rowLike(P:Program)(xt:TypeId):Bool :=
 match P.underlying xt with
 | some (.int _)=>false
 | some _=>true
 | none=>false
theorem rowLike_spec{P:Program}{xt:TypeId}(h:rowLike P xt=true):(∀ k,P.underlying xt≠some (.int k))∧(P.underlying xt).isSome=true:=by
 unfold rowLike at h
 split at h
 ·cases h
 ·rename_i d hd hu;exact ⟨fun k hk=>by rw [hu] at hk;cases hk;exact hd _ rfl,by rw [hu];rfl⟩
 ·cases h
def capOk(P:Program)(e:TypeId)(need:Nat):Bool:=Nat.ble need 4611686018427387904 && Nat.ble (Nat.mul (Nat.add (Nat.mul 2 need) 128) (P.bytesOf e)) 281474976710656
noncomputable def absAppend(P:Program)(t xt:TypeId)(s x:V)(h:AH):Option (V×AH) :=
 match P.underlying t with
 | some (.slice e) =>
  if rowLike P xt=true∧(zeroOf P e).isSome=true∧0<P.cellsOf e then
   match srcLen x with
   | none=>none
   | some n =>
    match srcCells x (P.cellsOf e) n h with
    | none=>none
    | some new =>
     if new.length=n*P.cellsOf e then
     match s with
     | .nilslice =>
      if n=0 then some (.nilslice,h)
      else if capOk P e n=true∧new.all V.cell=true then some (.slice ⟨h.next,new.length,0⟩ n n false (P.cellsOf e),h.add ⟨Arr.ofList new,0,0,false,e⟩)
      else none
     | .loose=>if n=0 then some (.loose,h) else none
     | .slice a sn cap ex z =>
      if z=P.cellsOf e then
       if sn+n≤cap then
        if n=0 then some (.slice a sn cap ex z,h)
        else (writeN h ⟨a.b,a.L,a.o+sn*z⟩ new).map fun h'=>(.slice a (sn+n) cap ex z,h')
       else if capOk P e (sn+n)=true∧new.all V.cell=true then
        if ex then
         match jbj h a (sn*z) with
         | some old=>if old.all V.cell=true then some (.slice ⟨h.next,(old++new).length,0⟩ (sn+n) (sn+n) false z,h.add ⟨Arr.ofList (old++new),0,0,false,e⟩) else none
         | none=>none
        else
         match h.get a.b with
         | some k =>
          if a.L=k.cells.n∧a.o+sn*z=a.L∧k.ro=false∧k.minL≤a.L∧k.fz≤a.L∧k.e=e then some (.slice ⟨a.b,a.L+new.length,a.o⟩ (sn+n) (sn+n) false z,h.grow a.b k new) else none
         | none=>none
       else none
      else none
     | _=>none
     else none
  else none
 | _=>none
theorem append_sound{P:Program}{ρ:Rho}{h h':AH}{w:World}{t xt ty:TypeId}{s x v:V}{a b:Value}(hr:HR ρ h w)(hs:R ρ s a)(hx:R ρ x b)(hh:absAppend P t xt s x h=some (v,h')):Sim P ρ h w (Builtin.append_ #[t,xt] ty #[a,b]) v h':=by
 unfold absAppend at hh
 split at hh
 case h_2=>cases hh
 rename_i e hu
 split at hh
 case isFalse=>cases hh
 rename_i hc
 obtain ⟨hrow,hzo,hpos⟩:=hc
 obtain ⟨hnx,hxs⟩:=rowLike_spec hrow
 obtain ⟨zs,hzs⟩:=Option.isSome_iff_exists.1 hzo
 obtain ⟨i,z,hi,hz,hRz,hlz,hcz,_,hrun⟩:=jce hzs ρ
 have hsize:P.cellsOf e=i.size:=by simp [Program.cellsOf,hi]
 have hbytes:P.bytesOf e=i.bytes:=by simp [Program.bytesOf,hi]
 have hzc:z.cells.size=i.size:=by
  have:zs.length=z.cells.size:=by simpa using hRz.length
  omega
 split at hh
 case h_1=>cases hh
 rename_i n hn
 split at hh
 case h_1=>cases hh
 rename_i new hnew
 split at hh
 case isFalse=>cases hh
 rename_i hlen
 obtain ⟨us,hRn,hus⟩:=srcCells_sound (P:=P) hr hx hn (Nat.le_refl _) hnew
 rw [hsize] at hus
 have hlu:=hRn.length
 have hlenrun:=srcLen_sound (P:=P) hx hn w
 have hul:us.length=n*i.size:=by rw [← hlu,hlen,hsize]
 have capSpec:∀ need,capOk P e need=true→need≤4611686018427387904∧(2*need+128)*i.bytes≤281474976710656:=by
  intro need h
  unfold capOk at h
  simp only [Bool.and_eq_true,Nat.ble_eq] at h
  rw [hbytes] at h
  exact h
 split at hh
 ·
  rw [show a=_ from hs]
  split at hh
  ·rename_i hn0
   subst hn0
   cases hh
   exact Sim.pure hr ⟨.slice none 0 0,append_nothing hu hnx hxs hi hlenrun (hus w rfl),rfl⟩
  ·rename_i hn0
   split at hh
   ·rename_i hcap
    cases hh
    obtain ⟨hm,hb⟩:=capSpec n hcap.1
    obtain ⟨c,hle,hrunA⟩:=append_grown (P:=P) (w:=w) (ty:=ty) (base:=none) (sn:=0) (cc:=0) (old:=[]) hu hnx hxs hi hz hlenrun (fun w0 _=>rfl) hus (by omega) (by omega) (by rw [Nat.zero_add];exact hb)
    obtain ⟨ρ',f1,f2,f3⟩:=new_row (P:=P) (w0:={ w with drawn:=w.drawn+1 }) hr rfl rfl rfl rfl hRn (Builtin.zeroCells z.cells (c-(0+n))).toList e hcap.2
    refine ⟨_,_,ρ',hrunA,⟨w.heap.size,0,_,c,?_,f3,Int.le_refl _,by omega,fun h=>absurd h (by simp),Nat.le_refl _,?_⟩,by simpa using f1,by simpa using f2⟩
    ·simp
    ·simp only [Array.length_toList,jbh,hzc,hul,hsize,Nat.sub_zero,Nat.zero_add,toNat_00,toNat_oo]
     rw [← Nat.add_mul]
     exact Nat.mul_le_mul_right _ (by omega)
   ·cases hh
 ·
  split at hh
  ·rename_i hn0
   subst hn0
   cases hh
   obtain ⟨c,cc,rfl⟩:=hs
   have hu0:us=[]:=List.eq_nil_of_length_eq_zero (by rw [hul];simp)
   subst hu0
   exact Sim.pure hr ⟨.slice (some c) 0 cc,append_room hu hnx hxs hi hlenrun (hus w rfl) (by omega) rfl,c,cc,rfl⟩
  ·cases hh
 ·
  rename_i p sn cap ex zz
  obtain ⟨cb,sh,S,cc,rfl,h1,h2,h3,h4,h5,h6⟩:=hs
  split at hh
  case isFalse=>cases hh
  rename_i hzz
  subst hzz
  have hadd:∀ k,(⟨cb,((p.o:Int)-sh).toNat,none⟩:Addr).add k=⟨cb,(((p.o+k:Nat):Int)-sh).toNat,none⟩:=by
   intro k
   unfold Addr.add
   by_cases hk:k=0
   ·simp [hk]
   ·simp only [if_neg hk,Addr.mk.injEq,true_and,and_true];omega
  split at hh
  ·rename_i hfit
   split at hh
   ·rename_i hn0
    subst hn0
    cases hh
    have hu0:us=[]:=List.eq_nil_of_length_eq_zero (by rw [hul];simp)
    subst hu0
    exact Sim.pure hr ⟨.slice (some ⟨cb,((p.o:Int)-sh).toNat,none⟩) sn cc,append_room hu hnx hxs hi hlenrun (hus w rfl) (by omega) rfl,cb,sh,S,cc,rfl,h1,h2,h3,h4,h5,h6⟩
   ·rename_i hn0
    cases hwr:writeN h ⟨p.b,p.L,p.o+sn*P.cellsOf e⟩ new with
    | none=>rw [hwr] at hh;cases hh
    | some h1' =>
     rw [hwr] at hh
     cases hh
     obtain ⟨w',g1,g2,g3⟩:=write_sound P hr (a:=⟨p.b,p.L,p.o+sn*P.cellsOf e⟩) (c:=(⟨cb,((p.o:Int)-sh).toNat,none⟩:Addr).add (sn*i.size)) ⟨cb,sh,S,h1,by simp only;omega,by rw [hadd,hsize]⟩ hRn hwr
     exact ⟨_,w',ρ,append_room hu hnx hxs hi hlenrun (hus w rfl) (by omega) g1,⟨cb,sh,S,cc,rfl,h1,h2,h3,h4,hfit,h6⟩,g2,g3⟩
  ·rename_i hfit
   split at hh
   case isFalse=>cases hh
   rename_i hcap
   obtain ⟨hm,hb⟩:=capSpec _ hcap.1
   split at hh
   ·
    rename_i hex
    obtain rfl:=h4 hex
    cases hread:jbj h p (sn*P.cellsOf e) with
    | none=>rw [hread] at hh;cases hh
    | some old =>
     rw [hread] at hh
     simp only at hh
     split at hh
     case isFalse=>cases hh
     rename_i holdc
     cases hh
     obtain ⟨os,hol,hRo,hoc⟩:=jcq hr ⟨cb,sh,S,h1,h2,rfl⟩ hread
     have hold:∀ w0:World,w0.heap=w.heap→(Builtin.firstCells i.size sn (.slice (some ⟨cb,((p.o:Int)-sh).toNat,none⟩) sn cc)).run P w0=.ok os.toArray w0:=by
      intro w0 h0
      have hl:=run_loadCells_list (P:=P) (w:=w0) _ os (fun j u hu=>(cell_of_heap h0 _).trans (hoc j u hu))
      rw [hol,hsize] at hl
      simp [Builtin.firstCells,hl]
     obtain ⟨c,hle,hrunA⟩:=append_grown (P:=P) (w:=w) (ty:=ty) (base:=some ⟨cb,((p.o:Int)-sh).toNat,none⟩) (sn:=sn) (cc:=cc) hu hnx hxs hi hz hlenrun hold hus (by omega) hm hb
     obtain ⟨ρ',f1,f2,f3⟩:=new_row (P:=P) (w0:={ w with drawn:=w.drawn+1 }) hr rfl rfl rfl rfl (hRo.append hRn) (Builtin.zeroCells z.cells (c-(sn+n))).toList e (by rw [List.all_append,holdc,hcap.2];rfl)
     refine ⟨_,_,ρ',hrunA,⟨w.heap.size,0,_,c,rfl,f3,Int.le_refl _,hle,fun h=>absurd h (by simp),Nat.le_refl _,?_⟩,f1,f2⟩
     simp only [List.length_append,Array.length_toList,jbh,hzc,hul,hol,hsize,Nat.sub_zero,Nat.zero_add,toNat_00,toNat_oo]
     rw [← Nat.add_mul,← Nat.add_mul]
     exact Nat.mul_le_mul_right _ (by omega)
   ·
    cases hk:h.get p.b with
    | none=>rw [hk] at hh;cases hh
    | some k =>
     rw [hk] at hh
     simp only at hh
     split at hh
     case isFalse=>cases hh
     rename_i hg
     obtain ⟨k1,k2,k3,k4,k5,k6⟩:=hg
     cases hh
     have hn0:0<n:=by omega
     have hnew0:new≠[]:=by
      intro h0
      rw [h0] at hlen
      simp only [List.length_nil] at hlen
      have:=Nat.mul_pos hn0 hpos
      omega
     by_cases hroom:sn+n≤cc
     ·have hmulle:(sn+n)*P.cellsOf e≤cc*P.cellsOf e:=Nat.mul_le_mul_right _ hroom
      rw [Nat.add_mul] at hmulle
      obtain ⟨w',g1,g2,g3⟩:=grow_here P hr hk k1 hnew0 h1 k3 k4 k5 (by omega) hRn hcap.2 (by rw [← hlu,hlen];omega)
      have g1':(storeCells ((⟨cb,((p.o:Int)-sh).toNat,none⟩:Addr).add (sn*i.size)) us).run P w=.ok () w':=by
       rw [hadd,← hsize,k2];exact g1
      exact ⟨_,w',_,append_room hu hnx hxs hi hlenrun (hus w rfl) hroom g1',⟨cb,sh,S,cc,rfl,Rho.put_same _ _ _ _,h2,hroom,fun h=>absurd h (by simp),Nat.le_refl _,h6⟩,g2,g3⟩
     ·obtain ⟨cs,lo,hi',q1,q2,q3,q4,q5⟩:=hr.blk _ k _ cb sh S hk h1 k4
      have hcellp:∀ j,w.cell? ⟨cb,j,none⟩=cs[j]?:=fun j=>by unfold World.cell?;simp [q1]
      have hsnS:((p.o:Int)-sh).toNat+sn*P.cellsOf e≤cs.size:=by
       have:=Nat.mul_le_mul_right (P.cellsOf e) (show sn≤cc from by omega)
       omega
      let os:List Value:=(cs.toList.drop (((p.o:Int)-sh).toNat)).take (sn*P.cellsOf e)
      have hosl:os.length=sn*P.cellsOf e:=by
       have e1:cs.toList.length=cs.size:=Array.length_toList
       simp only [os,List.length_take,List.length_drop]
       omega
      have hosg:∀ j,j<sn*P.cellsOf e→os[j]?=cs[((p.o:Int)-sh).toNat+j]?:=fun j hj=>by
       simp only [os]
       rw [List.getElem?_take_of_lt hj,List.getElem?_drop,Array.getElem?_toList]
      have hold:∀ w0:World,w0.heap=w.heap→(Builtin.firstCells i.size sn (.slice (some ⟨cb,((p.o:Int)-sh).toNat,none⟩) sn cc)).run P w0=.ok os.toArray w0:=by
       intro w0 h0
       have hl:=run_loadCells_list (P:=P) (w:=w0) (⟨cb,((p.o:Int)-sh).toNat,none⟩) os (fun j u hu=>by
        have hj:=(List.getElem?_eq_some_iff.1 hu).1
        rw [hosl] at hj
        rw [cell_of_heap h0,hadd,hcellp,show (((p.o+j:Nat):Int)-sh).toNat=((p.o:Int)-sh).toNat+j from by omega,← hosg j hj,hu])
       rw [hosl,hsize] at hl
       simp [Builtin.firstCells,hl]
      obtain ⟨c,hle,hrunA⟩:=append_grown (P:=P) (w:=w) (ty:=ty) (base:=some ⟨cb,((p.o:Int)-sh).toNat,none⟩) (sn:=sn) (cc:=cc) hu hnx hxs hi hz hlenrun hold hus (by omega) hm hb
      obtain ⟨g1,g2⟩:=grow_there (w':={ w with heap:=w.heap.push (.cells (os++us++(Builtin.zeroCells z.cells (c-(sn+n))).toList).toArray e),drawn:=w.drawn+1 }) hr hk k1 hnew0 h1 k3 k4 p.o h2 (by omega) hRn (os++us++(Builtin.zeroCells z.cells (c-(sn+n))).toList).toArray (by rw [k6]) rfl rfl rfl
       (by simp only [List.size_toArray,List.length_append,hosl];omega)
       (fun j hj=>by
        rw [List.getElem?_toArray,List.append_assoc,List.getElem?_append_left (by rw [hosl];omega),hosg j (by omega),hcellp])
       (fun j hj=>by
        rw [List.getElem?_toArray,List.append_assoc,List.getElem?_append_right (by rw [hosl];omega),List.getElem?_append_left (by rw [hosl];omega),hosl]
        congr 1;omega)
      refine ⟨_,_,_,hrunA,⟨w.heap.size,p.o,_,c,by simp,Rho.put_same _ _ _ _,Int.le_refl _,hle,fun h=>absurd h (by simp),Nat.le_refl _,?_⟩,g1,g2⟩
      simp only [List.size_toArray,List.length_append,Array.length_toList,jbh,hzc,hul,hosl,hsize,Nat.sub_self,Nat.zero_add,toNat_00,toNat_oo]
      rw [← Nat.add_mul,← Nat.add_mul]
      exact Nat.mul_le_mul_right _ (by omega)
 ·cases hh
end Go.Proofs.YtcmhoboglapbdaaDoor.Ev
namespace Go.Proofs.YtcmhoboglapbdaaDoor.Ev
open Go
noncomputable def absCopy(P:Program)(t:TypeId)(d x:V)(h:AH):Option (V×AH) :=
 match P.underlying t with
 | some (.slice e) =>
  if (P.info? e).isSome then
   match srcLen x,srcLen d with
   | some m,some dn =>
    if Nat.min m dn=0 then (match d with | .str _=>none | _=>some (.int .i64 0,h)) else
    match srcCells x (P.cellsOf e) (Nat.min m dn) h,d with
    | some cs,.slice a _ _ _ _=>(writeN h a cs).map fun h'=>(.int .i64 (Nat.min m dn),h')
    | _,_=>none
   | _,_=>none
  else none
 | _=>none
theorem load0(P:Program)(w:World)(c:Addr):(loadCells c 0).run P w=.ok #[] w:=rfl
theorem copy_sound{P:Program}{ρ:Rho}{h h':AH}{w:World}{t xt ty:TypeId}{d x v:V}{a b:Value}(hr:HR ρ h w)(hd:R ρ d a)(hx:R ρ x b)(hs:absCopy P t d x h=some (v,h')):Sim P ρ h w (Builtin.copy_ #[t,xt] ty #[a,b]) v h':=by
 unfold absCopy at hs
 split at hs
 case h_2=>cases hs
 rename_i e hu
 split at hs
 case isFalse=>cases hs
 rename_i hi
 obtain ⟨i,hi⟩:=Option.isSome_iff_exists.1 hi
 have hsize:P.cellsOf e=i.size:=by simp [Program.cellsOf,hi]
 have hsz:∀ w0:World,(sizeOf e).run P w0=.ok i.size w0:=fun w0=>by simp [sizeOf,typeInfo,hi]
 split at hs
 case h_2=>cases hs
 rename_i m dn hm hdn
 have hlen:=srcLen_sound (P:=P) hx hm w
 split at hs
 ·rename_i h0
  have key:∀ (base:Option Addr) (cc:Nat),a=.slice base dn cc→v=.int .i64 0→h'=h→Sim P ρ h w (Builtin.copy_ #[t,xt] ty #[a,b]) v h':=by
   rintro base cc rfl rfl rfl
   have hcells:(Builtin.firstCells i.size 0 b).run P w=.ok #[] w:=by
    unfold srcLen at hm
    split at hm
    ·rw [show b=_ from hx];rfl
    ·obtain ⟨c,cc,rfl⟩:=hx
     simp [Builtin.firstCells,load0]
    ·obtain ⟨cb,sh,S,cc,rfl,_⟩:=hx
     simp [Builtin.firstCells,load0]
    ·obtain ⟨t',rfl,_⟩:=hx
     simp only [Builtin.firstCells,Sem.run_pure]
     congr 1
     apply Array.ext'
     simp [ByteArray.data_extract]
    ·cases hm
   refine Sim.pure hr ⟨.int .i64 0,?_,rfl⟩
   unfold Builtin.copy_
   simp only [List.getElem?_toArray,List.getElem?_cons_zero,List.getElem?_cons_succ,Sem.run_bind,run_underlying hu,Result.andThen_ok,hsz,hlen,h0,hcells]
   cases base <;> rfl
  unfold srcLen at hdn
  split at hdn
  ·cases hdn;cases hs;exact key none 0 (show a=_ from hd) rfl rfl
  ·cases hdn;cases hs;obtain ⟨c,cc,rfl⟩:=hd;exact key (some c) cc rfl rfl rfl
  ·cases hdn;cases hs;obtain ⟨cb,sh,S,cc,rfl,_⟩:=hd;exact key _ cc rfl rfl rfl
  ·cases hs
  ·cases hdn
 ·rename_i h0
  split at hs
  case h_2=>cases hs
  rename_i cs p dn' _ _ _ hcs
  cases hdn
  obtain ⟨us,hRn,hus⟩:=srcCells_sound (P:=P) hr hx hm (Nat.min_le_left _ _) hcs
  rw [hsize] at hus
  obtain ⟨cb,sh,S,cc,rfl,h1,h2,h3,h4,h5,h6⟩:=hd
  cases hwr:writeN h p cs with
  | none=>rw [hwr] at hs;cases hs
  | some h1' =>
   rw [hwr] at hs
   cases hs
   obtain ⟨w',g1,g2,g3⟩:=write_sound P hr ⟨cb,sh,S,h1,h2,rfl⟩ hRn hwr
   refine ⟨_,w',ρ,?_,rfl,g2,g3⟩
   unfold Builtin.copy_
   simp only [List.getElem?_toArray,List.getElem?_cons_zero,List.getElem?_cons_succ,Sem.run_bind,run_underlying hu,Result.andThen_ok,hsz,hlen,hus w rfl,g1,Sem.run_pure]
   rfl
theorem freeze_sound{ρ:Rho}{h:AH}{w:World}(hr:HR ρ h w){b L cb S:Nat}{sh:Int}{k:Blk}(hk:h.get b=some k)(hρ:ρ b L=some (cb,sh,S))(hm:k.minL≤L)(hf:k.fz=0)(hro:k.ro=false) :
  HR ρ h (w.freeze ⟨cb,S,none⟩ 1)∧Step ρ h w ρ h (w.freeze ⟨cb,S,none⟩ 1)∧w.shape? cb=some (k.e,S):=by
 obtain ⟨cs,lo,hi,g1,g2,g3,g4,g5⟩:=hr.blk _ _ _ _ _ _ hk hρ hm
 have hheap:∀ x,(w.freeze ⟨cb,S,none⟩ 1).heap[x]?=if x=cb then some (.cells cs k.e (if lo==hi then (S,S+1) else (min lo S,max hi (S+1)))) else w.heap[x]?:=by
  intro x
  simp only [World.freeze,Nat.one_ne_zero,if_false,Array.getElem?_modify]
  by_cases hx:x=cb
  ·subst hx;rw [if_pos rfl,if_pos rfl,g1];rfl
  ·rw [if_neg (fun e=>hx e.symm),if_neg hx]
 have hsz:(w.freeze ⟨cb,S,none⟩ 1).heap.size=w.heap.size:=by simp [World.freeze]
 refine ⟨⟨hr.fresh,hr.lives,fun b L c x hx=>by rw [hsz];exact hr.bound b L c x hx,hr.inj,hr.top,?_⟩,⟨Rho.le_refl ρ,fun b L c x hx _=>⟨L,x,hx⟩,fun b k' hk' _=>⟨k',hk',rfl⟩,Nat.le_refl _,?_,?_,?_,Nat.le_of_eq hsz.symm,?_,Nat.le_refl _,fun _ _ _=>rfl⟩,?_⟩
 ·intro b' k' L' cb' sh' S' hk' hρ' hm'
  by_cases hcb:cb'=cb
  ·subst hcb
   obtain ⟨rfl,hx⟩:=hr.inj _ _ _ _ _ _ _ _ hρ hρ' hk hro
   cases hx
   rw [hk] at hk'
   cases hk'
   obtain ⟨cs',lo',hi',q1,q2,q3,q4,q5⟩:=hr.blk _ _ _ _ _ _ hk hρ' hm'
   rw [g1] at q1
   cases q1
   have h0:=hheap cb'
   rw [if_pos rfl] at h0
   by_cases hlh:lo=hi
   ·subst hlh
    simp only [beq_self_eq_true,if_true] at h0
    exact ⟨cs,S,S+1,h0,q2,q3,q4,fun _=>⟨fun i _ hi=>by omega,Nat.le_succ _,(g5 hro).2.2⟩⟩
   ·rw [if_neg (by simpa using hlh)] at h0
    have hsh0:=(g5 hro).2.2
    refine ⟨cs,_,_,h0,q2,q3,q4,fun _=>⟨fun i hfz hi'=>?_,by omega,hsh0⟩⟩
    by_cases hlt:lo<hi
    ·have:S≤lo:=by
      rcases Nat.lt_or_ge lo S with hl | hl
      ·exact absurd ⟨Nat.le_refl lo,hlt⟩ ((g5 hro).1 lo (by omega) hl)
      ·exact hl
     omega
    ·have:=(g5 hro).2.1;omega
  ·refine (hr.blk _ _ _ _ _ _ hk' hρ' hm').mono (Rho.le_refl ρ) ?_
   rw [hheap,if_neg hcb]
 ·unfold World.freeze;rfl
 ·unfold World.freeze;rfl
 ·unfold World.freeze;rfl
 ·intro i hi' hn
  rw [hheap,if_neg]
  rintro rfl
  exact hn ⟨b,L,_,k,hρ,hk,hro⟩
 ·simp [World.shape?,g1,g2]
end Go.Proofs.YtcmhoboglapbdaaDoor.Ev
namespace Go.Proofs.YtcmhoboglapbdaaDoor.Ev
open Go
def u8type(P:Program)(e:TypeId):Bool :=
 match P.underlying e with
 | some (.int .u8)=>true
 | _=>false
theorem u8type_spec{P:Program}{e:TypeId}(h:u8type P e=true):P.underlying e=some (.int .u8):=by
 unfold u8type at h
 split at h
 ·assumption
 ·cases h
noncomputable def absConvert(P:Program)(src dst:TypeId)(x:V)(h:AH):Option (V×AH) :=
 match P.underlying src,P.underlying dst,x with
 | some _,some (.int k),.int _ n=>some (.int k (k.wrap n),h)
 | some _,some .string,.str s=>some (.str s,h)
 | some _,some (.slice e),.str s=>if u8type P e then some (absToBytes e s h) else none
 | some (.slice _),some (.slice e),.slice a n cap ex z =>
  if src=dst∧u8type P e=true then
   match h.get a.b with
   | some k=>if k.minL≤a.L∧k.fz=0∧k.ro=false then some (.slice a n cap ex z,h) else none
   | none=>none
  else none
 | some (.slice e),some .string,.slice a n cap ex z=>if u8type P e then (absToStr (.slice a n cap ex z) h).map fun v=>(v,h) else none
 | some (.slice e),some .string,.nilslice=>if u8type P e then some (.str [],h) else none
 | some (.slice e),some .string,.loose=>if u8type P e then some (.str [],h) else none
 | _,_,_=>none
theorem convert_sound{P:Program}{ρ:Rho}{h h':AH}{w:World}{src dst:TypeId}{x v:V}{a:Value}(hr:HR ρ h w)(hx:R ρ x a)(hs:absConvert P src dst x h=some (v,h')):Sim P ρ h w (convert src dst a) v h':=by
 unfold absConvert at hs
 split at hs
 ·rename_i d1 k k' n h1 h2
  cases hs
  rw [show a=_ from hx]
  refine Sim.pure hr ⟨.int k (k.wrap n),?_,rfl⟩
  unfold convert
  simp only [Sem.run_bind,run_underlying h1,run_underlying h2,Result.andThen_ok]
  cases d1 <;> rfl
 ·rename_i d1 s h1 h2
  cases hs
  obtain ⟨t,rfl,ht⟩:=hx
  refine Sim.pure hr ⟨.string t,?_,⟨t,rfl,ht⟩⟩
  unfold convert
  simp only [Sem.run_bind,run_underlying h1,run_underlying h2,Result.andThen_ok]
  cases d1 <;> rfl
 ·rename_i d1 e s h1 h2
  split at hs
  case isFalse=>cases hs
  rename_i hu8
  obtain ⟨t,rfl,rfl⟩:=hx
  have hs2:=toBytes_sound (P:=P) (e:=e) (s:=t) hr
  have he:(absToBytes e (t.data.toList.map UInt8.toNat) h).1=v∧(absToBytes e (t.data.toList.map UInt8.toNat) h).2=h':=by
   have:=Option.some.inj hs
   rw [this];exact ⟨rfl,rfl⟩
  rw [he.1,he.2] at hs2
  obtain ⟨u,w',ρ',g1,g2,g3,g4⟩:=hs2
  refine ⟨u,w',ρ',?_,g2,g3,g4⟩
  rw [← g1]
  unfold convert
  simp only [Sem.run_bind,run_underlying h1,run_underlying h2,Result.andThen_ok]
  cases d1 <;> simp only [Sem.run_bind,run_underlying (u8type_spec hu8),Result.andThen_ok]
 ·rename_i e0 e p n cap ex z h1 h2
  split at hs
  case isFalse=>cases hs
  rename_i hc
  obtain ⟨rfl,hu8⟩:=hc
  obtain rfl:e0=e:=by rw [h1] at h2;cases h2;rfl
  split at hs
  case h_2=>cases hs
  rename_i k hk
  split at hs
  case isFalse=>cases hs
  rename_i hg
  cases hs
  obtain ⟨cb,sh,S,cc,rfl,g1,g2,g3⟩:=hx
  obtain ⟨f1,f2,f3⟩:=freeze_sound hr hk g1 hg.1 hg.2.1 hg.2.2
  refine ⟨_,_,ρ,?_,⟨cb,sh,S,cc,rfl,g1,g2,g3⟩,f1,f2⟩
  unfold convert
  simp only [Sem.run_bind,run_underlying h1,run_underlying h2,Result.andThen_ok,beq_self_eq_true,run_underlying (u8type_spec hu8),markStringish,run_shape,f3,run_freeze,Sem.run_pure]
 ·rename_i e p n cap ex z h1 h2
  split at hs
  case isFalse=>cases hs
  rename_i hu8
  cases ht:absToStr (.slice p n cap ex z) h with
  | none=>rw [ht] at hs;cases hs
  | some v' =>
   rw [ht] at hs
   cases hs
   obtain ⟨u,g1,g2⟩:=toStr_sound (P:=P) hr hx ht
   obtain ⟨cb,sh,S,cc,rfl,_⟩:=hx
   refine Sim.pure hr ⟨u,?_,g2⟩
   rw [← g1]
   unfold convert
   simp only [Sem.run_bind,run_underlying h1,run_underlying h2,Result.andThen_ok,run_underlying (u8type_spec hu8)]
 ·rename_i e h1 h2
  split at hs
  case isFalse=>cases hs
  rename_i hu8
  cases hs
  obtain ⟨u,g1,g2⟩:=toStr_sound (P:=P) (x:=.nilslice) (v:=.str []) hr hx rfl
  rw [show a=_ from hx] at g1 ⊢
  refine Sim.pure hr ⟨u,?_,g2⟩
  rw [← g1]
  unfold convert
  simp only [Sem.run_bind,run_underlying h1,run_underlying h2,Result.andThen_ok,run_underlying (u8type_spec hu8)]
 ·rename_i e h1 h2
  split at hs
  case isFalse=>cases hs
  rename_i hu8
  cases hs
  obtain ⟨u,g1,g2⟩:=toStr_sound (P:=P) (x:=.loose) (v:=.str []) hr hx rfl
  obtain ⟨c,cc,rfl⟩:=hx
  refine Sim.pure hr ⟨u,?_,g2⟩
  rw [← g1]
  unfold convert
  simp only [Sem.run_bind,run_underlying h1,run_underlying h2,Result.andThen_ok,run_underlying (u8type_spec hu8)]
 ·cases hs
noncomputable def absSlice(P:Program)(t:TypeId)(x:V)(lo hi mx:Option V)(h:AH):Option V :=
 match P.underlying t,x with
 | some (.array n e),.ptr a =>
  match h.get a.b with
  | some k=>if k.minL≤a.L∧a.o+n*P.cellsOf e≤a.L∧(P.info? e).isSome then cutV a (P.cellsOf e) n n true lo hi mx else none
  | none=>none
 | some (.slice e),.slice a n cap ex z=>if z=P.cellsOf e∧(P.info? e).isSome then cutV a z n cap ex lo hi mx else none
 | some (.slice e),.nilslice =>
  match mx with
  | none =>
   match bnd hi 0 0 with
   | none=>none
   | some h'=>match bnd lo 0 h' with
    | none=>none
    | some _=>if (P.info? e).isSome then some .nilslice else none
  | some _=>none
 | some (.slice e),.loose =>
  match mx with
  | none =>
   match bnd hi 0 0 with
   | none=>none
   | some h'=>match bnd lo 0 h' with
    | none=>none
    | some _=>if (P.info? e).isSome then some .loose else none
  | some _=>none
 | some .string,.str s =>
  match mx with
  | none =>
   match bnd hi s.length s.length with
   | none=>none
   | some h'=>match bnd lo 0 h' with
    | none=>none
    | some l=>some (.str ((s.drop l).take (h'-l)))
  | some _=>none
 | _,_=>none
theorem slice_sound{P:Program}{ρ:Rho}{h:AH}{w:World}{t:TypeId}{x v:V}{a:Value}{lo hi mx:Option V}{l' h' m':Option Value}(hr:HR ρ h w)(hx:R ρ x a)(hlo:OR ρ lo l')(hhi:OR ρ hi h')(hmx:OR ρ mx m')(hs:absSlice P t x lo hi mx h=some v) :
  ∃ u,(Instr.sliceAt t a l' h' m').run P w=.ok u w∧R ρ v u:=by
 unfold absSlice at hs
 split at hs
 ·rename_i n e p hu
  split at hs
  case h_2=>cases hs
  rename_i k hk
  split at hs
  case isFalse=>cases hs
  rename_i hc
  obtain ⟨i,hi'⟩:=Option.isSome_iff_exists.1 hc.2.2
  obtain ⟨c,rfl,cb,sh,S,g1,g2,rfl⟩:=hx
  obtain ⟨cs,lo',hi2,q1,q2,q3,_⟩:=hr.blk _ _ _ _ _ _ hk g1 hc.1
  obtain ⟨l,hh,m,f1,f2⟩:=cut_sound (P:=P) hlo hhi hmx g1 g2 (Nat.le_refl n) (fun _=>rfl) (Nat.le_refl n) (by omega) hs false w
  refine ⟨_,?_,f2⟩
  unfold Instr.sliceAt
  simp only [Sem.run_bind,run_underlying hu,Result.andThen_ok,Instr.sureAddr,Sem.run_pure,f1,jaz hi']
 ·rename_i e p n cap ex z hu
  split at hs
  case isFalse=>cases hs
  rename_i hc
  obtain ⟨rfl,hi'⟩:=hc
  obtain ⟨i,hi'⟩:=Option.isSome_iff_exists.1 hi'
  obtain ⟨cb,sh,S,cc,rfl,g1,g2,g3,g4,g5,g6⟩:=hx
  obtain ⟨l,hh,m,f1,f2⟩:=cut_sound (P:=P) hlo hhi hmx g1 g2 g3 g4 g5 g6 hs true w
  refine ⟨_,?_,f2⟩
  unfold Instr.sliceAt
  simp only [Sem.run_bind,run_underlying hu,Result.andThen_ok]
  unfold Instr.slice
  simp only [Sem.run_bind,run_underlying hu,Result.andThen_ok,f1,jaz hi',Sem.run_pure]
  by_cases hml:m=l
  ·simp only [if_pos hml]
  ·simp only [if_neg hml,Option.map_some]
 ·rename_i e hu
  split at hs
  case h_2=>cases hs
  cases hmx
  split at hs
  case h_1=>cases hs
  rename_i h1v h1
  split at hs
  case h_1=>cases hs
  rename_i l h2
  split at hs
  case isFalse=>cases hs
  rename_i hi'
  obtain ⟨i,hi'⟩:=Option.isSome_iff_exists.1 hi'
  cases hs
  obtain ⟨f1,f2,f3⟩:=bounds_nomax (P:=P) (n:=0) (cap:=0) hlo hhi h1 h2 true 0 (Nat.le_refl _) (Nat.le_refl _) w
  obtain rfl:h1v=0:=by omega
  obtain rfl:l=0:=by omega
  rw [show a=_ from hx]
  refine ⟨.slice none 0 0,?_,rfl⟩
  unfold Instr.sliceAt
  simp only [Sem.run_bind,run_underlying hu,Result.andThen_ok]
  unfold Instr.slice
  simp only [Sem.run_bind,run_underlying hu,Result.andThen_ok,f1,jaz hi',Sem.run_pure]
  rfl
 ·rename_i e hu
  split at hs
  case h_2=>cases hs
  cases hmx
  split at hs
  case h_1=>cases hs
  rename_i h1v h1
  split at hs
  case h_1=>cases hs
  rename_i l h2
  split at hs
  case isFalse=>cases hs
  rename_i hi'
  obtain ⟨i,hi'⟩:=Option.isSome_iff_exists.1 hi'
  cases hs
  obtain ⟨c,cc,rfl⟩:=hx
  obtain ⟨f1,f2,f3⟩:=bounds_nomax (P:=P) (n:=0) (cap:=0) hlo hhi h1 h2 true cc (Nat.zero_le _) (Nat.le_refl _) w
  obtain rfl:h1v=0:=by omega
  obtain rfl:l=0:=by omega
  refine ⟨.slice (some c) 0 cc,?_,c,cc,rfl⟩
  unfold Instr.sliceAt
  simp only [Sem.run_bind,run_underlying hu,Result.andThen_ok]
  unfold Instr.slice
  simp only [Sem.run_bind,run_underlying hu,Result.andThen_ok,f1,jaz hi',Sem.run_pure,Nat.zero_mul,Nat.sub_zero]
  have:(if cc=0 then some c else (some c).map (·.add 0))=some c:=by
   split
   ·rfl
   ·simp [Addr.add]
  rw [this]
 ·rename_i s hu
  split at hs
  case h_2=>cases hs
  cases hmx
  split at hs
  case h_1=>cases hs
  rename_i h1v h1
  split at hs
  case h_1=>cases hs
  rename_i l h2
  cases hs
  obtain ⟨t',rfl,rfl⟩:=hx
  have hsz:(t'.data.toList.map UInt8.toNat).length=t'.size:=by rw [List.length_map,Array.length_toList];rfl
  rw [hsz] at h1
  obtain ⟨f1,f2,f3⟩:=bounds_nomax (P:=P) (n:=t'.size) (cap:=t'.size) hlo hhi h1 h2 false t'.size (Nat.le_refl _) (Nat.le_refl _) w
  refine ⟨.string (t'.extract l h1v),?_,_,rfl,?_⟩
  ·unfold Instr.sliceAt
   simp only [Sem.run_bind,run_underlying hu,Result.andThen_ok]
   unfold Instr.slice
   simp only [Sem.run_bind,run_underlying hu,Result.andThen_ok,f1,Option.isSome_none,Bool.false_eq_true,if_false,Sem.run_pure]
  ·simp only [ByteArray.data_extract,Array.toList_extract,List.extract_eq_take_drop,List.map_take,List.map_drop]
 ·cases hs
def zeroV(P:Program)(t:TypeId):Option V :=
 match P.info? t with
 | some i =>
  match i.zero with
  | some z=>some (absC z)
  | none=>none
 | none=>none
def holdsV(ok:Bool)(v:V):V:=if ok then .tuple [v,.bool true] else v
def failsV(P:Program)(ok:Bool)(t:TypeId):Option V:=if ok then (zeroV P t).map fun z=>.tuple [z,.bool false] else none
def absAssert(P:Program)(x:V)(t:TypeId)(ok:Bool):Option V :=
 match P.underlying t,x with
 | some (.interface _),.nilIface=>failsV P ok t
 | some (.interface want),.iface tx v =>
  match P.info? tx with
  | some i=>match Instr.missingMethod want i.methods with
   | none=>some (holdsV ok (.iface tx v))
   | some _=>failsV P ok t
  | none=>none
 | some _,.nilIface=>failsV P ok t
 | some _,.iface tx v=>if tx=t then some (holdsV ok v) else failsV P ok t
 | _,_=>none
theorem zeroV_sound{P:Program}{t:TypeId}{v:V}(h:zeroV P t=some v)(ρ:Rho)(w:World):∃ z,(zeroValue t).run P w=.ok z w∧R ρ v z:=by
 unfold zeroV at h
 split at h
 ·rename_i i hi
  split at h
  ·rename_i z hz
   cases h
   exact ⟨z,by simp [zeroValue,typeInfo,hi,hz],absC_R ρ z⟩
  ·cases h
 ·cases h
theorem assert_sound{P:Program}{ρ:Rho}{x v:V}{a:Value}{xt t:TypeId}{ok:Bool}(hx:R ρ x a)(hs:absAssert P x t ok=some v)(w:World):∃ u,(Instr.typeAssert a xt t ok).run P w=.ok u w∧R ρ v u:=by
 have fails:∀ (d:TypeDesc) (a:Value),P.underlying t=some d→failsV P ok t=some v→(∃ f:Option TypeId×Option TypeId×String,Instr.typeAssert a xt t ok=(do
   let d ← underlying t
   (if ok then do pure (.tuple #[← zeroValue t,.bool false]) else runtimePanic (.typeAssertion f.1 f.2.1 t f.2.2):Sem Value))∨(Instr.typeAssert a xt t ok).run P w=(if ok then do pure (.tuple #[← zeroValue t,.bool false]) else runtimePanic (.typeAssertion f.1 f.2.1 t f.2.2):Sem Value).run P w)→∃ u,(Instr.typeAssert a xt t ok).run P w=.ok u w∧R ρ v u:=by
  intro d a hd hf hrun
  unfold failsV at hf
  split at hf
  ·rename_i hok
   cases hz:zeroV P t with
   | none=>rw [hz] at hf;cases hf
   | some z =>
    rw [hz] at hf
    cases hf
    obtain ⟨u,h1,h2⟩:=zeroV_sound hz ρ w
    refine ⟨.tuple #[u,.bool false],?_,_,rfl,_,_,rfl,h2,_,_,rfl,rfl,rfl⟩
    obtain ⟨f,hrun⟩:=hrun
    rcases hrun with hrun | hrun
    ·rw [hrun];simp only [hok,if_true,Sem.run_bind,run_underlying hd,h1,Result.andThen_ok,Sem.run_pure]
    ·rw [hrun];simp only [hok,if_true,Sem.run_bind,h1,Result.andThen_ok,Sem.run_pure]
  ·cases hf
 have holds:∀ (v':V) (u':Value),R ρ v' u'→R ρ (holdsV ok v') (if ok then .tuple #[u',.bool true] else u'):=by
  intro v' u' h
  unfold holdsV
  cases ok
  ·exact h
  ·exact ⟨_,rfl,_,_,rfl,h,_,_,rfl,rfl,rfl⟩
 unfold absAssert at hs
 split at hs
 ·rename_i ms hu
  rw [show a=_ from hx]
  refine fails _ _ hu hs ⟨(none,none,""),.inr ?_⟩
  unfold Instr.typeAssert
  simp only [Sem.run_bind,run_underlying hu,Result.andThen_ok]
 ·rename_i want tx v' hu
  obtain ⟨y,rfl,hy⟩:=hx
  split at hs
  case h_2=>cases hs
  rename_i i hi
  split at hs
  ·rename_i hm
   cases hs
   refine ⟨if ok then .tuple #[.iface tx y,.bool true] else .iface tx y,?_,holds _ _ ⟨y,rfl,hy⟩⟩
   unfold Instr.typeAssert
   simp only [Sem.run_bind,run_underlying hu,Result.andThen_ok,typeInfo,run_program,hi,Sem.run_pure,hm]
  ·rename_i m hm
   refine fails _ _ hu hs ⟨(none,some tx,m),.inr ?_⟩
   unfold Instr.typeAssert
   simp only [Sem.run_bind,run_underlying hu,Result.andThen_ok,typeInfo,run_program,hi,Sem.run_pure,hm]
 ·rename_i d h1 hu
  rw [show a=_ from hx]
  refine fails _ _ hu hs ⟨(some xt,none,""),.inr ?_⟩
  unfold Instr.typeAssert
  simp only [Sem.run_bind,run_underlying hu,Result.andThen_ok]
 ·rename_i d tx v' h1 hu
  obtain ⟨y,rfl,hy⟩:=hx
  have hmatch:∀ (s:Sem Value),True:=fun _=>trivial
  split at hs
  ·rename_i he
   cases hs
   refine ⟨if ok then .tuple #[y,.bool true] else y,?_,holds _ _ hy⟩
   unfold Instr.typeAssert
   simp only [Sem.run_bind,run_underlying hu,Result.andThen_ok]
   cases d <;> first | (simp only [he,if_true,Sem.run_pure];done) | exact absurd rfl (h1 _ _ _ rfl rfl)
  ·rename_i he
   refine fails _ _ hu hs ⟨(some xt,some tx,""),.inr ?_⟩
   unfold Instr.typeAssert
   simp only [Sem.run_bind,run_underlying hu,Result.andThen_ok]
   cases d <;> first | (simp only [he,if_false];done) | exact absurd rfl (h1 _ _ _ rfl rfl)
 ·cases hs
end Go.Proofs.YtcmhoboglapbdaaDoor.Ev
namespace Go.Proofs.YtcmhoboglapbdaaDoor.Ev
open Go
noncomputable def AH.kill(h:AH)(b:Nat)(k:Blk):AH:=⟨h.next,Nat.min h.low b,h.m.set b ⟨k.cells,Nat.succ k.cells.n,k.fz,k.ro,k.e⟩⟩
theorem kill_sound{ρ:Rho}{h:AH}{w:World}(hr:HR ρ h w){b L cb S:Nat}{sh:Int}{k:Blk}(hk:h.get b=some k)(hρ:ρ b L=some (cb,sh,S))(hro:k.ro=false)(o n:Nat) :
  HR ρ (h.kill b k) (w.freeze ⟨cb,o,none⟩ n)∧Step ρ h w ρ (h.kill b k) (w.freeze ⟨cb,o,none⟩ n):=by
 have hsz:(w.freeze ⟨cb,o,none⟩ n).heap.size=w.heap.size:=by unfold World.freeze;split <;> simp
 have hoff:∀ x,x≠cb→(w.freeze ⟨cb,o,none⟩ n).heap[x]?=w.heap[x]?:=by
  intro x hx
  unfold World.freeze
  split
  ·rfl
  ·simp only [Array.getElem?_modify];rw [if_neg (fun e=>hx e.symm)]
 have hget:∀ b',(h.kill b k).get b'=if b'=b then some ⟨k.cells,Nat.succ k.cells.n,k.fz,k.ro,k.e⟩ else h.get b':=fun b'=>T.get_set _ _ _ _
 refine ⟨⟨hr.fresh,?_,fun b L c x hx=>by rw [hsz];exact hr.bound b L c x hx,?_,?_,?_⟩,⟨Rho.le_refl ρ,fun b L c x hx _=>⟨L,x,hx⟩,?_,Nat.le_refl _,?_,?_,?_,Nat.le_of_eq hsz.symm,?_,Nat.min_le_left _ _,?_⟩⟩
 ·intro b' k' hk'
  rw [hget] at hk'
  split at hk'
  ·subst_vars;exact hr.lives _ _ hk
  ·exact hr.lives _ _ hk'
 ·intro b1 L1 b2 L2 c x x' k' q1 q2 hk' hro'
  rw [hget] at hk'
  split at hk'
  ·subst_vars;exact hr.inj _ _ _ _ _ _ _ _ q1 q2 hk hro
  ·exact hr.inj _ _ _ _ _ _ _ _ q1 q2 hk' hro'
 ·intro b' k' L' x hk' hx
  rw [hget] at hk'
  split at hk'
  ·subst_vars;cases hk';have:=hr.top _ k _ _ hk hx;exact this
  ·exact hr.top _ _ _ _ hk' hx
 ·intro b' k' L' cb' sh' S' hk' hρ' hm'
  rw [hget] at hk'
  split at hk'
  ·subst_vars
   cases hk'
   have:=hr.top _ _ _ _ hk hρ'
   exact absurd hm' (Nat.not_le.2 (Nat.lt_succ_of_le this))
  ·rename_i hne
   refine (hr.blk _ _ _ _ _ _ hk' hρ' hm').mono (Rho.le_refl ρ) (hoff _ ?_)
   rintro rfl
   exact hne (hr.inj _ _ _ _ _ _ _ _ hρ hρ' hk hro).1.symm
 ·intro b' k' hk' _
  rw [hget] at hk'
  split at hk'
  ·subst_vars;cases hk';exact ⟨k,hk,rfl⟩
  ·exact ⟨k',hk',rfl⟩
 ·unfold World.freeze;split <;> rfl
 ·unfold World.freeze;split <;> rfl
 ·unfold World.freeze;split <;> rfl
 ·intro i hi' hn
  apply hoff
  rintro rfl
  exact hn ⟨b,L,_,k,hρ,hk,hro⟩
 ·intro b' hb _
  rw [hget,if_neg]
  rintro rfl
  exact absurd hb (Nat.not_lt.2 (Nat.min_le_right _ _))
def absSliceData(x:V):Option V :=
 match x with
 | .nilslice=>some .nilptr
 | .slice a _ cap _ _=>if cap=0 then none else some (.ptr a)
 | _=>none
theorem sliceData_sound{P:Program}{ρ:Rho}{x v:V}{a:Value}{ts:Array TypeId}{ty:TypeId}(hx:R ρ x a)(hs:absSliceData x=some v)(w:World):∃ u,(Builtin.unsafeSliceData_ ts ty #[a]).run P w=.ok u w∧R ρ v u:=by
 unfold absSliceData at hs
 split at hs
 ·cases hs;rw [show a=_ from hx];exact ⟨_,Lib.run_unsafeSliceData_nil w ts ty 0 0,rfl⟩
 ·split at hs
  ·cases hs
  ·cases hs
   obtain ⟨cb,sh,S,cc,rfl,h1,h2,h3,_⟩:=hx
   exact ⟨_,Lib.run_unsafeSliceData_row w ts ty _ _ cc (by omega),_,rfl,cb,sh,S,h1,h2,rfl⟩
 ·cases hs
def isPtrTo(P:Program)(t e:TypeId):Bool :=
 match P.underlying t with
 | some (.pointer e')=>Nat.beq e' e
 | _=>false
theorem isPtrTo_spec{P:Program}{t e:TypeId}(h:isPtrTo P t e=true):P.underlying t=some (.pointer e):=by
 unfold isPtrTo at h
 split at h
 ·rename_i e' hu;rw [hu,Nat.eq_of_beq_eq_true h]
 ·cases h
def byteC:V→Option Nat
 | .int .u8 (.ofNat n)=>if n<256 then some n else none
 | _=>none
def toBytesC:List V→Option (List Nat)
 | []=>some []
 | v :: l=>match byteC v,toBytesC l with
  | some n,some r=>some (n :: r)
  | _,_=>none
theorem byteC_spec{v:V}{n:Nat}(h:byteC v=some n):v=.int .u8 (n:Int)∧n<256:=by
 unfold byteC at h
 split at h
 ·split at h
  ·rename_i hn;cases h;exact ⟨rfl,hn⟩
  ·cases h
 ·cases h
theorem toBytesC_spec{ρ:Rho}:∀ {vs:List V} {us:List Value} {l:List Nat},toBytesC vs=some l→RL ρ vs us→us=l.map (fun (n:Nat)=>Value.int .u8 (n:Int))∧∀ n∈l,n<256:=by
 intro vs
 induction vs with
 | nil=>intro us l h hR;cases h;rw [show us=[] from hR];simp
 | cons v vs ih =>
  rintro us l h ⟨z,zs,rfl,hz,hR⟩
  unfold toBytesC at h
  cases hb:byteC v with
  | none=>rw [hb] at h;cases h
  | some n =>
   cases ht:toBytesC vs with
   | none=>rw [hb,ht] at h;cases h
   | some r =>
    rw [hb,ht] at h
    cases h
    obtain ⟨rfl,hn⟩:=byteC_spec hb
    obtain ⟨g1,g2⟩:=ih ht hR
    refine ⟨by rw [g1,show z=_ from hz];rfl,?_⟩
    intro m hm
    cases hm with
    | head=>exact hn
    | tail _ hm=>exact g2 m hm
noncomputable def absUnsafeString(P:Program)(pt:TypeId)(x n:V)(h:AH):Option (V×AH) :=
 match x,n with
 | .nilptr,.int .i64 m=>if m=0 then some (.str [],h) else none
 | .ptr a,.int .i64 m =>
  if m=0 then some (.str [],h) else
  if m<0 then none else if 9223372036854775807<m then none else
  match h.get a.b with
  | some k =>
   if a.o=0∧k.ro=false∧isPtrTo P pt k.e=true∧P.cellsOf k.e=1 then
    match jbj h a m.toNat with
    | some vs=>(toBytesC vs).map fun l=>(.str l,h.kill a.b k)
    | none=>none
   else none
  | none=>none
 | _,_=>none
theorem unsafeString_sound{P:Program}{ρ:Rho}{h h':AH}{w:World}{pt it ty:TypeId}{x n v:V}{a b:Value}(hr:HR ρ h w)(hx:R ρ x a)(hn:R ρ n b)(hs:absUnsafeString P pt x n h=some (v,h')) :
  Sim P ρ h w (Builtin.unsafeString_ #[pt,it] ty #[a,b]) v h':=by
 unfold absUnsafeString at hs
 split at hs
 ·split at hs
  ·rename_i h0;subst h0;cases hs
   rw [show a=_ from hx,show b=_ from hn]
   exact Sim.pure hr ⟨_,Lib.run_unsafeString_none w pt it ty none,_,rfl,rfl⟩
  ·cases hs
 ·rename_i p m
  rw [show b=_ from hn]
  split at hs
  ·rename_i h0;subst h0;cases hs
   obtain ⟨c,rfl,_⟩:=hx
   exact Sim.pure hr ⟨_,Lib.run_unsafeString_none w pt it ty _,_,rfl,rfl⟩
  ·rename_i hm0
   split at hs
   ·cases hs
   rename_i hm1
   split at hs
   ·cases hs
   rename_i hm2
   split at hs
   case h_2=>cases hs
   rename_i k hk
   split at hs
   case isFalse=>cases hs
   rename_i hc
   obtain ⟨ho,hro,hpt,hcell1⟩:=hc
   split at hs
   case h_2=>cases hs
   rename_i vs hread
   obtain ⟨l,ht,he⟩:∃ l,toBytesC vs=some l∧(V.str l,h.kill p.b k)=(v,h'):=by
    cases ht:toBytesC vs with
    | none=>rw [ht] at hs;cases hs
    | some l=>rw [ht] at hs;exact ⟨l,rfl,Option.some.inj hs⟩
   cases he
   obtain ⟨c,rfl,cb,sh,S,h1,h2,rfl⟩:=hx
   obtain ⟨us,hlen,hRL,hcell⟩:=jcq hr ⟨cb,sh,S,h1,h2,rfl⟩ hread
   obtain ⟨g1,g2⟩:=toBytesC_spec ht hRL
   have hrd:=hread
   rw [readN_eq,hk] at hrd
   simp only [Option.bind_some] at hrd
   split at hrd
   case isFalse=>cases hrd
   rename_i hc2
   obtain ⟨q1,q2,q3⟩:=hc2
   obtain ⟨cs,lo,hi,f1,f2,f3,f4,f5⟩:=hr.blk _ _ _ _ _ _ hk h1 q1
   have hsh1:=(f5 hro).2.2
   have hsh0:sh=0:=by omega
   have hll:l.length=m.toNat:=by rw [← hlen,g1,List.length_map]
   have hlm:(l.map UInt8.ofNat).length=m.toNat:=by rw [List.length_map];exact hll
   have hmm:m=((l.map UInt8.ofNat).length:Int):=by rw [hlm];omega
   have hoff:((p.o:Int)-sh).toNat=0:=by omega
   obtain ⟨k1,k2⟩:=kill_sound hr hk h1 hro 0 (l.map UInt8.ofNat).length
   refine ⟨.string ⟨(l.map UInt8.ofNat).toArray⟩,_,ρ,?_,?_,k1,k2⟩
   ·rw [hoff,hmm]
    refine Lib.run_unsafeString_row w pt it ty k.e (isPtrTo_spec hpt) hcell1 cb S (by simp [World.shape?,f1,f2]) _ ?_ ?_ ?_ ?_
    ·intro hnil
     rw [hnil] at hlm
     simp at hlm
     omega
    ·rw [hlm];omega
    ·rw [hlm];omega
    ·intro j x hj
     rw [List.getElem?_map] at hj
     cases hj':l[j]? with
     | none=>rw [hj'] at hj;cases hj
     | some n =>
      rw [hj'] at hj
      have hx:UInt8.ofNat n=x:=Option.some.inj hj
      have hlt:=g2 n (List.mem_of_getElem? hj')
      have:=hcell j (.int .u8 (n:Int)) (by rw [g1,List.getElem?_map,hj'];rfl)
      rw [hoff] at this
      rw [this,← hx]
      simp only [UInt8.toNat_ofNat']
      rw [Nat.mod_eq_of_lt hlt]
   ·refine ⟨_,rfl,?_⟩
    simp only [List.map_map]
    have:∀ l:List Nat,(∀ n∈l,n<256)→l.map (UInt8.toNat ∘ UInt8.ofNat)=l:=by
     intro l
     induction l with
     | nil=>intro _;rfl
     | cons n l ih =>
      intro h
      rw [List.map_cons,ih (fun m hm=>h m (by simp [hm]))]
      congr 1
      simp only [Function.comp,UInt8.toNat_ofNat']
      exact Nat.mod_eq_of_lt (h n (by simp))
    exact this l g2
 ·cases hs
noncomputable def absUnsafePtr(P:Program)(src dst:TypeId)(x:V)(h:AH):Option V :=
 match P.underlying src,P.underlying dst,x with
 | some (.pointer _),some .unsafePointer,.nilptr=>some .nilptr
 | some .unsafePointer,some (.pointer _),.nilptr=>some .nilptr
 | some (.pointer t),some .unsafePointer,.ptr a =>
  match h.get a.b,P.info? t with
  | some k,some j=>if k.minL≤a.L∧a.o<a.L∧j.size≠0 then some (.ptr a) else none
  | _,_=>none
 | some .unsafePointer,some (.pointer u),.ptr a =>
  match h.get a.b,P.info? u with
  | some k,some j=>if k.minL≤a.L∧a.o=0∧k.e=u∧P.cellsOf u≤a.L∧P.cellsOf u≠0∧k.ro=false then some (.ptr a) else none
  | _,_=>none
 | _,_,_=>none
theorem liesAt_head{P:Program}{e:TypeId}(count:Nat)(hs:P.cellsOf e≠0)(hc:1≤count):liesAt P P.depth e count 0 e 1=true:=by
 have hd:P.depth=(2*(P.types.size+Made.depth)+1)+1:=rfl
 rw [hd]
 simp only [liesAt,Bool.or_eq_true]
 left
 rw [hd]
 simp [rowAt,hs,hc,sameLayout]
theorem unsafePtr_sound{P:Program}{ρ:Rho}{h:AH}{w:World}{src dst:TypeId}{x v:V}{a:Value}(hr:HR ρ h w)(hx:R ρ x a)(hs:absUnsafePtr P src dst x h=some v):∃ u,(convert src dst a).run P w=.ok u w∧R ρ v u:=by
 unfold absUnsafePtr at hs
 split at hs
 ·rename_i t h1 h2
  cases hs
  rw [show a=_ from hx]
  exact ⟨.pointer none,by simp [convert,run_underlying h1,run_underlying h2,Conv.unsafePointer],rfl⟩
 ·rename_i t h1 h2
  cases hs
  rw [show a=_ from hx]
  exact ⟨.pointer none,by simp [convert,run_underlying h1,run_underlying h2,Conv.unsafePointer],rfl⟩
 ·rename_i t p h1 h2
  split at hs
  case h_2=>cases hs
  rename_i k j hk hj
  split at hs
  case isFalse=>cases hs
  rename_i hc
  cases hs
  obtain ⟨c,rfl,cb,sh,S,g1,g2,rfl⟩:=hx
  obtain ⟨cs,lo,hi,f1,f2,f3,f4,f5⟩:=hr.blk _ _ _ _ _ _ hk g1 hc.1
  refine ⟨_,Lib.run_to_unsafe w _ h1 h2 hj hc.2.2 (e:=k.e) (cells:=S) (by simp [World.shape?,f1,f2]) ?_,_,rfl,cb,sh,S,g1,g2,rfl⟩
  show ((p.o:Int)-sh).toNat<S
  omega
 ·rename_i u p h1 h2
  split at hs
  case h_2=>cases hs
  rename_i k j hk hj
  split at hs
  case isFalse=>cases hs
  rename_i hc
  cases hs
  obtain ⟨c1,c2,c3,c4,c5,c6⟩:=hc
  obtain ⟨c,rfl,cb,sh,S,g1,g2,rfl⟩:=hx
  obtain ⟨cs,lo,hi,f1,f2,f3,f4,f5⟩:=hr.blk _ _ _ _ _ _ hk g1 c1
  refine ⟨_,Lib.run_from_unsafe w _ h1 h2 hj (e:=k.e) (cells:=S) (by simp [World.shape?,f1,f2]) ?_,_,rfl,cb,sh,S,g1,g2,rfl⟩
  have hsh1:=(f5 c6).2.2
  have e0:((p.o:Int)-sh).toNat=0:=by omega
  show liesAt P P.depth k.e (S / P.cellsOf k.e) (((p.o:Int)-sh).toNat) u 1=true
  rw [e0,c3]
  refine liesAt_head _ c5 ?_
  have:P.cellsOf u≤S:=by omega
  exact (Nat.one_le_div_iff (Nat.pos_of_ne_zero c5)).2 this
 ·cases hs
end Go.Proofs.YtcmhoboglapbdaaDoor.Ev
namespace Go.Proofs.YtcmhoboglapbdaaDoor.Ev
open Go
def intLike(P:Program)(xt:TypeId):Bool :=
 match P.underlying xt with
 | some (.int _)=>true
 | _=>false
noncomputable def absAppendZ(P:Program)(t:TypeId)(s x:V)(h:AH):Option (V×AH) :=
 match P.underlying t with
 | some (.slice e) =>
  match s with
  | .nilslice =>
   match x with
   | .int _ n =>
    match zeroOf P e with
    | some zs =>
     if 0<P.cellsOf e∧0≤n∧capOk P e n.toNat=true then
      if n.toNat=0 then some (.nilslice,h)
      else some (.slice ⟨h.next,n.toNat*P.cellsOf e,0⟩ n.toNat n.toNat false (P.cellsOf e),h.add ⟨Arr.make (n.toNat*P.cellsOf e) zs,0,0,false,e⟩)
     else none
    | none=>none
   | _=>none
  | _=>none
 | _=>none
theorem appendZ_sound{P:Program}{ρ:Rho}{h h':AH}{w:World}{t xt ty:TypeId}{s x v:V}{a b:Value}(hr:HR ρ h w)(hs:R ρ s a)(hx:R ρ x b)(hi:intLike P xt=true)(hh:absAppendZ P t s x h=some (v,h')):Sim P ρ h w (Builtin.append_ #[t,xt] ty #[a,b]) v h':=by
 unfold absAppendZ at hh
 split at hh
 case h_2=>cases hh
 rename_i e hu
 split at hh
 case h_2=>cases hh
 split at hh
 case h_2=>cases hh
 rename_i k n
 split at hh
 case h_2=>cases hh
 rename_i zs hzo
 split at hh
 case isFalse=>cases hh
 rename_i hc
 obtain ⟨hpos,hn0,hcap⟩:=hc
 obtain ⟨i,z,hi',hz',hR,hlz,hcz,_,hrun⟩:=jce hzo ρ
 have hsize:P.cellsOf e=i.size:=by simp [Program.cellsOf,hi']
 have hbytes:P.bytesOf e=i.bytes:=by simp [Program.bytesOf,hi']
 have hzl:z.cells.toList.length=P.cellsOf e:=hR.length.symm.trans hlz
 have hzs:z.cells.size=P.cellsOf e:=by simpa using hzl
 unfold capOk at hcap
 simp only [Bool.and_eq_true,Nat.ble_eq] at hcap
 obtain ⟨hm,hb⟩:=hcap
 rw [hbytes] at hb
 have hb':(2*n.toNat+128)*i.bytes≤281474976710656:=hb
 rw [show a=_ from hs,show b=_ from hx]
 obtain ⟨k',hk'⟩:∃ k',P.underlying xt=some (.int k'):=by
  unfold intLike at hi
  split at hi
  ·rename_i k' hk';exact ⟨k',hk'⟩
  ·cases hi
 have hwl:IntKind.i64.wrap n=n:=by simp [IntKind.wrap,IntKind.bits,IntKind.signed];omega
 have hsz:(sizeOf e).run P w=.ok i.size w:=by simp [sizeOf,typeInfo,hi']
 have hti:∀ w0:World,(typeInfo e).run P w0=.ok i w0:=fun w0=>by simp [typeInfo,hi']
 have hneg:¬n<0:=by omega
 have hnb:¬n*(i.bytes:Int)>2 ^ 48:=by
  have h1:n.toNat*i.bytes≤281474976710656:=Nat.le_trans (Nat.mul_le_mul_right _ (by omega)) hb'
  have h2:n*(i.bytes:Int)=((n.toNat*i.bytes:Nat):Int):=by rw [Int.natCast_mul,Int.toNat_of_nonneg hn0]
  rw [h2]
  have:(2:Int) ^ 48=281474976710656:=rfl
  omega
 split at hh
 ·rename_i h0
  cases hh
  refine Sim.pure hr ⟨.slice none 0 0,?_,rfl⟩
  unfold Builtin.append_
  simp only [List.getElem?_toArray,List.getElem?_cons_zero,List.getElem?_cons_succ,Sem.run_bind,run_underlying hu,Result.andThen_ok,hsz,run_underlying hk',Sem.run_pure,asInt,asIntOf,hwl,hti,if_neg hneg,if_neg hnb,if_true,h0,Nat.add_zero,Nat.le_refl,Nat.zero_mul,Bool.not_true,Bool.false_eq_true,if_false]
 ·rename_i h0
  cases hh
  obtain ⟨c,hch,hle⟩:=run_chooseCap P w (0+n.toNat) 0 e
  have hmul:Builtin.nextslicecap (0+n.toNat) 0*i.bytes≤281474976710656:=Nat.le_trans (Nat.mul_le_mul_right _ (nextcap_le (by omega))) (by rw [Nat.zero_add];exact hb')
  have h63:¬((0+n.toNat:Nat):Int)>IntKind.i64.max:=by simp [IntKind.max,IntKind.bits,IntKind.signed];omega
  have hcap':¬Builtin.nextslicecap (0+n.toNat) 0*i.bytes>2 ^ 48:=by omega
  have hzv:∀ w0:World,(zeroValue e).run P w0=.ok z w0:=fun w0=>by simp [zeroValue,typeInfo,hi',hz']
  have hn1:¬0+n.toNat≤0:=by omega
  have hnz:¬n.toNat*i.size=0:=by
   intro h
   rcases Nat.mul_eq_zero.1 h with h | h <;> omega
  have hfirst:∀ w0:World,(Builtin.firstCells i.size 0 (.slice none 0 0)).run P w0=.ok #[] w0:=fun w0=>rfl
  obtain ⟨ρ',g1,g2,g3⟩:=add_sound (w':={ { w with drawn:=w.drawn+1 } with heap:=w.heap.push (.cells (#[]++Builtin.zeroCells z.cells n.toNat++Builtin.zeroCells z.cells (c-(0+n.toNat))) e) }) hr ⟨Arr.make (n.toNat*P.cellsOf e) zs,0,0,false,e⟩ _ 0 0 rfl rfl rfl rfl
   (by rw [Array.size_append,Array.size_append,jbh,jbh,hzs];show n.toNat*P.cellsOf e≤_;simp)
   (fun j v hv=>by
    simp only [Arr.get_make] at hv
    split at hv
    ·rename_i hj
     obtain ⟨u,hu',hRu⟩:=hR.get hv
     refine ⟨u,?_,hRu⟩
     rw [Array.getElem?_toList,hR.length,hzl,← hzs] at hu'
     rw [Array.getElem?_append_left (by rw [Array.size_append,jbh,hzs];simp;exact hj),Array.empty_append]
     unfold Builtin.zeroCells
     simp only [Array.getElem?_map,Array.getElem?_range,hzs,hj,if_true,Option.map_some,Option.some.injEq]
     rw [hzs] at hu'
     rw [getElem!_def,hu']
    ·cases hv) (fun i _ _=>by omega) (Nat.le_refl 0)
  refine ⟨.slice (some ⟨w.heap.size,0,none⟩) (0+n.toNat) c,_,ρ',?_,⟨w.heap.size,0,(#[]++Builtin.zeroCells z.cells n.toNat++Builtin.zeroCells z.cells (c-(0+n.toNat))).size,c,by rw [Nat.zero_add];rfl,?_,Int.le_refl _,by omega,fun h=>absurd h (by simp),Nat.le_refl _,?_⟩,g1,g2⟩
  ·unfold Builtin.append_
   simp only [List.getElem?_toArray,List.getElem?_cons_zero,List.getElem?_cons_succ,Sem.run_bind,run_underlying hu,Result.andThen_ok,hsz,run_underlying hk',Sem.run_pure,asInt,asIntOf,hwl,hti,if_neg hneg,if_neg hnb,if_true,hn1,if_false,h63,false_and,hcap',hch,run_askRoom,hfirst,Bool.not_true,Bool.false_eq_true,hnz,hzv,jcc]
  ·exact g3
  ·rw [Array.size_append,Array.size_append,jbh,jbh,hzs]
   simp only [toNat_00,toNat_oo,Nat.zero_add]
   rw [Array.size_empty,Nat.zero_add,← Nat.add_mul]
   exact Nat.mul_le_mul_right _ (by omega)
end Go.Proofs.YtcmhoboglapbdaaDoor.Ev
namespace Go.Proofs.YtcmhoboglapbdaaDoor.Ev
open Go
def absLen(P:Program)(t:TypeId)(x:V):Option V :=
 match P.underlying t,x with
 | some .string,.str s=>some (.int .i64 s.length)
 | some (.array n _),_=>some (.int .i64 n)
 | some (.pointer arr),_ =>
  match P.underlying arr with
  | some (.array n _)=>some (.int .i64 n)
  | _=>none
 | some (.slice _),.slice _ n _ _ _=>some (.int .i64 n)
 | some (.slice _),.nilslice=>some (.int .i64 0)
 | some (.slice _),.loose=>some (.int .i64 0)
 | _,_=>none
theorem len_sound{P:Program}{ρ:Rho}{t ty:TypeId}{x v:V}{a:Value}(hx:R ρ x a)(hs:absLen P t x=some v)(w:World):∃ u,(Builtin.len_ #[t] ty #[a]).run P w=.ok u w∧R ρ v u:=by
 unfold absLen at hs
 have run0:∀ (f:TypeId×Value→Sem Value),True:=fun _=>trivial
 split at hs
 ·rename_i s hu
  cases hs
  obtain ⟨t',rfl,rfl⟩:=hx
  refine ⟨.int .i64 t'.size,?_,?_⟩
  ·simp [Builtin.len_,run_underlying hu,goInt]
  ·have:(t'.data.toList.map UInt8.toNat).length=t'.size:=by rw [List.length_map,Array.length_toList];rfl
   rw [this];rfl
 ·rename_i n e hu
  cases hs
  refine ⟨.int .i64 n,?_,rfl⟩
  simp only [Builtin.len_,List.getElem?_toArray,List.getElem?_cons_zero,Sem.run_bind,run_underlying hu,Result.andThen_ok,goInt]
  cases a <;> rfl
 ·rename_i arr hu
  split at hs
  ·rename_i n e hu2
   cases hs
   refine ⟨.int .i64 n,?_,rfl⟩
   simp only [Builtin.len_,List.getElem?_toArray,List.getElem?_cons_zero,Sem.run_bind,run_underlying hu,Result.andThen_ok,goInt]
   cases a <;> simp only [Sem.run_bind,run_underlying hu2,Result.andThen_ok,Sem.run_pure]
  ·cases hs
 ·rename_i e p n _ _ _ hu
  cases hs
  obtain ⟨cb,sh,S,cc,rfl,_⟩:=hx
  exact ⟨.int .i64 n,by simp [Builtin.len_,run_underlying hu,goInt],rfl⟩
 ·rename_i e hu
  cases hs
  rw [show a=_ from hx]
  exact ⟨.int .i64 0,by simp [Builtin.len_,run_underlying hu,goInt],rfl⟩
 ·rename_i e hu
  cases hs
  obtain ⟨c,cc,rfl⟩:=hx
  exact ⟨.int .i64 0,by simp [Builtin.len_,run_underlying hu,goInt],rfl⟩
 ·cases hs
def absCap(P:Program)(t:TypeId)(x:V):Option V :=
 match P.underlying t,x with
 | some (.slice _),.slice _ _ c true _=>some (.int .i64 c)
 | some (.slice _),.nilslice=>some (.int .i64 0)
 | _,_=>none
theorem cap_sound{P:Program}{ρ:Rho}{t ty:TypeId}{x v:V}{a:Value}(hx:R ρ x a)(hs:absCap P t x=some v)(w:World):∃ u,(Builtin.cap_ #[t] ty #[a]).run P w=.ok u w∧R ρ v u:=by
 unfold absCap at hs
 split at hs
 ·rename_i e p n c _ hu
  cases hs
  obtain ⟨cb,sh,S,cc,rfl,h1,h2,h3,h4,_⟩:=hx
  obtain rfl:=h4 rfl
  exact ⟨.int .i64 cc,by simp [Builtin.cap_,run_underlying hu,goInt],rfl⟩
 ·rename_i e hu
  cases hs
  rw [show a=_ from hx]
  exact ⟨.int .i64 0,by simp [Builtin.cap_,run_underlying hu,goInt],rfl⟩
 ·cases hs
def max2V(x y:V):Option V :=
 match x,y with
 | .int k a,.int _ b=>some (.int k (if b>a then b else a))
 | _,_=>none
def min2V(x y:V):Option V :=
 match x,y with
 | .int k a,.int _ b=>some (.int k (if b<a then b else a))
 | _,_=>none
def foldV(f:V→V→Option V):V→List V→Option V
 | x,[]=>some x
 | x,y :: l=>match f x y with
  | some z=>foldV f z l
  | none=>none
theorem fold_sound{P:Program}{ρ:Rho}{f:V→V→Option V}{g:Value→Value→Sem Value}(w:World)(hf:∀ x y z a b,R ρ x a→R ρ y b→f x y=some z→∃ c,(g a b).run P w=.ok c w∧R ρ z c):∀ {l:List V} {l':List Value} {x z:V} {a:Value},R ρ x a→RL ρ l l'→foldV f x l=some z →
  ∃ c,(l'.foldlM g a).run P w=.ok c w∧R ρ z c:=by
 intro l
 induction l with
 | nil=>intro l' x z a hx hl h;cases h;rw [show l'=[] from hl];exact ⟨a,rfl,hx⟩
 | cons y l ih =>
  rintro l' x z a hx ⟨b,bs,rfl,hb,hl⟩ h
  simp only [foldV] at h
  cases hz:f x y with
  | none=>rw [hz] at h;cases h
  | some m =>
   rw [hz] at h
   obtain ⟨c,h1,h2⟩:=hf _ _ _ _ _ hx hb hz
   obtain ⟨c',h3,h4⟩:=ih h2 hl h
   exact ⟨c',by simp only [List.foldlM_cons,Sem.run_bind,h1,Result.andThen_ok,h3],h4⟩
theorem max2_sound{P:Program}{ρ:Rho}(w:World):∀ x y z a b,R ρ x a→R ρ y b→max2V x y=some z→∃ c,(Builtin.max2 a b).run P w=.ok c w∧R ρ z c:=by
 intro x y z a b hx hy h
 unfold max2V at h
 split at h
 ·cases h;rw [show a=_ from hx,show b=_ from hy];exact ⟨_,rfl,rfl⟩
 ·cases h
theorem min2_sound{P:Program}{ρ:Rho}(w:World):∀ x y z a b,R ρ x a→R ρ y b→min2V x y=some z→∃ c,(Builtin.min2 a b).run P w=.ok c w∧R ρ z c:=by
 intro x y z a b hx hy h
 unfold min2V at h
 split at h
 ·cases h;rw [show a=_ from hx,show b=_ from hy];exact ⟨_,rfl,rfl⟩
 ·cases h
noncomputable def absBuiltin(P:Program)(b:Builtin)(ts:List TypeId)(args:List V)(h:AH):Option (V×AH) :=
 match b,ts,args with
 | .len,[t],[x]=>(absLen P t x).map fun v=>(v,h)
 | .cap,[t],[x]=>(absCap P t x).map fun v=>(v,h)
 | .append,[t,xt],[s,x]=>bif intLike P xt then absAppendZ P t s x h else absAppend P t xt s x h
 | .copy,[t,_],[d,x]=>absCopy P t d x h
 | .max,_,x :: l=>(foldV max2V x l).map fun v=>(v,h)
 | .min,_,x :: l=>(foldV min2V x l).map fun v=>(v,h)
 | .unsafeSliceData,_,[x]=>(absSliceData x).map fun v=>(v,h)
 | .unsafeString,[pt,_],[x,n]=>absUnsafeString P pt x n h
 | _,_,_=>none
def SimN(P:Program)(ρ:Rho)(h:AH)(w:World)(s:Sem Next)(v:V)(h':AH):Prop :=
 ∃ n u w' ρ',s.run P w=.ok n w'∧(n=.value u∨(n=.skip∧u=undef))∧R ρ' v u∧HR ρ' h' w'∧Step ρ h w ρ' h' w'
theorem SimN.of{P:Program}{ρ:Rho}{h h':AH}{w:World}{s:Sem Value}{v:V}(hs:Sim P ρ h w s v h'):SimN P ρ h w (do pure (.value (← s))) v h':=by
 obtain ⟨u,w',ρ',h1,h2,h3,h4⟩:=hs
 exact ⟨.value u,u,w',ρ',by simp only [Sem.run_bind,h1,Result.andThen_ok,Sem.run_pure],.inl rfl,h2,h3,h4⟩
theorem SimN.pure{P:Program}{ρ:Rho}{h:AH}{w:World}{s:Sem Value}{v:V}(hr:HR ρ h w)(hs:∃ u,s.run P w=.ok u w∧R ρ v u):SimN P ρ h w (do pure (.value (← s))) v h:=.of (.pure hr hs)
theorem list1{α:Type}{a:Array α}{x:α}(h:a.toList=[x]):a=#[x]:=Array.ext' (by simpa using h)
theorem list2{α:Type}{a:Array α}{x y:α}(h:a.toList=[x,y]):a=#[x,y]:=Array.ext' (by simpa using h)
theorem RL1{ρ:Rho}{x:V}{l:List Value}(h:RL ρ [x] l):∃ a,l=[a]∧R ρ x a:=by
 obtain ⟨z,zs,rfl,hz,h⟩:=h
 rw [show zs=[] from h]
 exact ⟨z,rfl,hz⟩
theorem RL2{ρ:Rho}{x y:V}{l:List Value}(h:RL ρ [x,y] l):∃ a b,l=[a,b]∧R ρ x a∧R ρ y b:=by
 obtain ⟨z,zs,rfl,hz,h⟩:=h
 obtain ⟨b,rfl,hb⟩:=RL1 h
 exact ⟨z,b,rfl,hz,hb⟩
theorem builtin_sound{P:Program}{ρ:Rho}{h h':AH}{w:World}{b:Builtin}{ats:Array TypeId}{ty:TypeId}{cs:Array Bool}{xs:List V}{args:Array Value}{v:V}(hr:HR ρ h w)(hx:RL ρ xs args.toList)(hs:absBuiltin P b ats.toList xs h=some (v,h')) :
  SimN P ρ h w (builtin b ats ty cs args) v h':=by
 unfold absBuiltin at hs
 split at hs
 ·rename_i t x hts
  obtain ⟨a,ha,hR⟩:=RL1 hx
  rw [list1 ha,list1 hts,BigFrame.builtin_len]
  cases hl:absLen P t x with
  | none=>rw [hl] at hs;cases hs
  | some v'=>rw [hl] at hs;cases hs;exact .pure hr (len_sound hR hl w)
 ·rename_i t x hts
  obtain ⟨a,ha,hR⟩:=RL1 hx
  rw [list1 ha,list1 hts,BigFrame.builtin_cap]
  cases hl:absCap P t x with
  | none=>rw [hl] at hs;cases hs
  | some v'=>rw [hl] at hs;cases hs;exact .pure hr (cap_sound hR hl w)
 ·rename_i t xt s x hts
  obtain ⟨a,b,ha,hR,hR2⟩:=RL2 hx
  rw [list2 ha,list2 hts,BigFrame.builtin_append]
  cases hz:intLike P xt with
  | true=>rw [hz] at hs;exact .of (appendZ_sound hr hR hR2 hz hs)
  | false=>rw [hz] at hs;exact .of (append_sound hr hR hR2 hs)
 ·rename_i t xt s x hts
  obtain ⟨a,b,ha,hR,hR2⟩:=RL2 hx
  rw [list2 ha,list2 hts,BigFrame.builtin_copy]
  exact .of (copy_sound hr hR hR2 hs)
 ·rename_i x l
  obtain ⟨a,aas,ha,hR,hR2⟩:=hx
  rw [BigFrame.builtin_max]
  cases hl:foldV max2V x l with
  | none=>rw [hl] at hs;cases hs
  | some v' =>
   rw [hl] at hs;cases hs
   refine .pure hr ?_
   unfold Builtin.max_
   rw [ha]
   exact fold_sound w (max2_sound w) hR hR2 hl
 ·rename_i x l
  obtain ⟨a,aas,ha,hR,hR2⟩:=hx
  rw [BigFrame.builtin_min]
  cases hl:foldV min2V x l with
  | none=>rw [hl] at hs;cases hs
  | some v' =>
   rw [hl] at hs;cases hs
   refine .pure hr ?_
   unfold Builtin.min_
   rw [ha]
   exact fold_sound w (min2_sound w) hR hR2 hl
 ·rename_i x
  obtain ⟨a,ha,hR⟩:=RL1 hx
  rw [list1 ha]
  cases hl:absSliceData x with
  | none=>rw [hl] at hs;cases hs
  | some v'=>rw [hl] at hs;cases hs;exact .pure hr (sliceData_sound hR hl w)
 ·rename_i pt it x n hts
  obtain ⟨a,b,ha,hR,hR2⟩:=RL2 hx
  rw [list2 ha,list2 hts,BigFrame.builtin_unsafeString]
  exact .of (unsafeString_sound hr hR hR2 hs)
 ·cases hs
def absNilCheck(x:V):Option V :=
 match x with
 | .nilptr | .nilIface | .nilFunc | .bad=>none
 | v=>some v
def absMakeIface(P:Program)(t:TypeId)(x:V):Option V :=
 match P.underlying t with
 | some (.interface _)=>none
 | some _=>some (.iface t x)
 | none=>none
def absMakeFunc(fn:Fn)(fs cs:List V):Option V :=
 match fn with
 | .func f=>some (.func f fs cs)
 | _=>none
def pickV(t:Bool)(a b:V):V :=
 match a,b with
 | .bool x,.bool y=>.bool (bif t then x else y)
 | .int k x,.int k' y=>if k=k' then .int k (bif t then x else y) else bif t then a else b
 | .str x,.str y=>.str (bif t then x else y)
 | .agg x,.agg y=>.agg (bif t then x else y)
 | a,b=>bif t then a else b
theorem pickV_eq(t:Bool)(a b:V):pickV t a b=if t then a else b:=by
 unfold pickV
 split
 ·cases t <;> rfl
 ·split
  ·rename_i hk;subst hk;cases t <;> rfl
  ·cases t <;> rfl
 ·cases t <;> rfl
 ·cases t <;> rfl
 ·cases t <;> rfl
noncomputable def sop(P:Program)(o:Op)(ev:Operand→V)(h:AH):Option (V×AH) :=
 match o with
 | .move x=>some (ev x,h)
 | .assign x=>some (ev x,h)
 | .pick c a b=>match ev c with
  | .bool t=>some (pickV t (ev a) (ev b),h)
  | _=>none
 | .alloc t=>absAlloc P t h
 | .box t x=>absBox t (ev x) h
 | .build t ps=>(absBuild P t (ps.toList.map fun p=>(p.1,ev p.2))).map fun v=>(v,h)
 | .buildSlice t n ps=>absBuildSlice P t n (ps.toList.map fun p=>(p.1,ev p.2)) h
 | .load t a=>(absLoad P t (ev a) h).map fun v=>(v,h)
 | .store t a x=>(absStore P t (ev a) (ev x) h).map fun h'=>(.bad,h')
 | .nilCheck x=>(absNilCheck (ev x)).map fun v=>(v,h)
 | .binOp op t x y _=>(absBin P op t x y (ev x) (ev y)).map fun v=>(v,h)
 | .unOp op _ x=>(absUn op (ev x)).map fun v=>(v,h)
 | .convert s d x =>
  match absUnsafePtr P s d (ev x) h with
  | some v=>some (v,h)
  | none=>absConvert P s d (ev x) h
 | .sliceToArrayPointer t x=>(absArrayAt P t (ev x)).map fun v=>(v,h)
 | .makeInterface t x=>(absMakeIface P t (ev x)).map fun v=>(v,h)
 | .makeFunc fn fs cs=>(absMakeFunc fn (fs.toList.map ev) (cs.toList.map ev)).map fun v=>(v,h)
 | .makeSlice t l c=>absMakeSlice P t (ev l) (ev c) h
 | .slice t x lo hi mx=>(absSlice P t (ev x) (lo.map ev) (hi.map ev) (mx.map ev) h).map fun v=>(v,h)
 | .fieldAddr t x f=>(absFieldAddr P t (ev x) f).map fun v=>(v,h)
 | .field t x f=>(absField P t (ev x) f).map fun v=>(v,h)
 | .indexAddr t x i=>(absIndexAddr P t (ev x) (ev i)).map fun v=>(v,h)
 | .index t x i=>(absIndex P t (ev x) (ev i)).map fun v=>(v,h)
 | .typeAssert x _ t ok=>(absAssert P (ev x) t ok).map fun v=>(v,h)
 | .extract x i=>(jat (ev x) i).map fun v=>(v,h)
 | .call { callee:=.builtin b,args,argTypes }=>absBuiltin P b argTypes.toList (args.toList.map ev) h
 | _=>none
theorem RL_map{ρ:Rho}{ev:Operand→V}{ρc:Operand→Value}(he:∀ x,R ρ (ev x) (ρc x)):∀ l:List Operand,RL ρ (l.map ev) (l.map ρc):=by
 intro l
 induction l with
 | nil=>exact rfl
 | cons x l ih=>exact ⟨_,_,rfl,he x,ih⟩
theorem OR_map{ρ:Rho}{ev:Operand→V}{ρc:Operand→Value}(he:∀ x,R ρ (ev x) (ρc x))(o:Option Operand):OR ρ (o.map ev) (o.map ρc):=by
 cases o with
 | none=>exact .none
 | some x=>exact .some (he x)
theorem parts_map{ρ:Rho}{ev:Operand→V}{ρc:Operand→Value}(he:∀ x,R ρ (ev x) (ρc x))(ps:Array (Nat×Operand)):(ps.toList.map fun p=>(p.1,ev p.2)).map (·.1)=(ps.map fun (i,x)=>(i,ρc x)).toList.map (·.1) ∧
  RL ρ ((ps.toList.map fun p=>(p.1,ev p.2)).map (·.2)) ((ps.map fun (i,x)=>(i,ρc x)).toList.map (·.2)):=by
 constructor
 ·simp
 ·have:=RL_map he (ps.toList.map (·.2))
  simpa [Function.comp_def] using this
theorem map_some{α β:Type}{o:Option α}{f:α→β}{b:β}(h:o.map f=some b):∃ a,o=some a∧f a=b:=by
 cases o with
 | none=>cases h
 | some a=>exact ⟨a,rfl,Option.some.inj h⟩
theorem sop_sound{P:Program}{ρ:Rho}{h h':AH}{w:World}{o:Oper}{ev:Operand→V}{ρc:Operand→Value}{v:V}(hr:HR ρ h w)(he:∀ x,R ρ (ev x) (ρc x))(hs:sop P o.op ev h=some (v,h')):SimN P ρ h w (execOp ρc o) v h':=by
 obtain ⟨dst,op,ty,pos,after,guard⟩:=o
 simp only at hs
 unfold sop at hs
 split at hs
 ·cases hs;exact ⟨_,_,w,ρ,rfl,.inl rfl,he _,hr,Step.refl ρ h w⟩
 ·cases hs;exact ⟨_,_,w,ρ,rfl,.inl rfl,he _,hr,Step.refl ρ h w⟩
 ·rename_i c a b
  split at hs
  ·rename_i t hc
   cases hs
   have:=he c
   rw [hc] at this
   have hc':ρc c=.bool t:=this
   refine ⟨_,if t then ρc a else ρc b,w,ρ,?_,.inl rfl,?_,hr,Step.refl ρ h w⟩
   ·simp only [execOp,hc',asBool,Sem.run_bind,Sem.run_pure,Result.andThen_ok]
   ·rw [pickV_eq];cases t <;> exact he _
  ·cases hs
 ·exact .of (alloc_sound hr hs)
 ·exact .of (box_sound hr (he _) hs)
 ·obtain ⟨v',h1,h2⟩:=map_some hs
  cases h2
  obtain ⟨g1,g2⟩:=parts_map he _
  exact .pure hr (build_sound g1 g2 h1 w)
 ·obtain ⟨g1,g2⟩:=parts_map he _
  exact .of (buildSlice_sound hr g1 g2 hs)
 ·obtain ⟨v',h1,h2⟩:=map_some hs
  cases h2
  exact .pure hr (load_sound hr (he _) h1)
 ·obtain ⟨v',h1,h2⟩:=map_some hs
  cases h2
  obtain ⟨w',g1,g2,g3⟩:=store_sound hr (he _) (he _) h1
  exact ⟨.skip,undef,w',ρ,by simp only [execOp,Sem.run_bind,g1,Result.andThen_ok,Sem.run_pure],.inr ⟨rfl,rfl⟩,trivial,g2,g3⟩
 ·rename_i x
  obtain ⟨v',h1,h2⟩:=map_some hs
  cases h2
  refine ⟨.value (ρc x),ρc x,w,ρ,?_,.inl rfl,?_,hr,Step.refl ρ h w⟩
  ·have hx:=he x
   unfold absNilCheck at h1
   generalize ev x=y at h1 hx
   simp only [execOp]
   cases y <;> simp only [reduceCtorEq] at h1
   case bool=>rw [show ρc x=_ from hx];rfl
   case int=>rw [show ρc x=_ from hx];rfl
   case str=>obtain ⟨_,e,_⟩:=hx;rw [e];rfl
   case ptr=>obtain ⟨_,e,_⟩:=hx;rw [e];rfl
   case slice=>obtain ⟨_,_,_,_,e,_⟩:=hx;rw [e];rfl
   case nilslice=>rw [show ρc x=_ from hx];rfl
   case loose=>obtain ⟨_,_,e⟩:=hx;rw [e];rfl
   case func=>obtain ⟨_,_,e,_⟩:=hx;rw [e];rfl
   case iface=>obtain ⟨_,e,_⟩:=hx;rw [e];rfl
   case agg=>obtain ⟨_,e,_⟩:=hx;rw [e];rfl
   case tuple=>obtain ⟨_,e,_⟩:=hx;rw [e];rfl
  ·have hx:=he x
   unfold absNilCheck at h1
   split at h1
   ·cases h1
   ·cases h1
   ·cases h1
   ·cases h1
   ·cases h1;exact hx
 ·obtain ⟨v',h1,h2⟩:=map_some hs
  cases h2
  exact .pure hr (bin_sound (he _) (he _) h1 w)
 ·obtain ⟨v',h1,h2⟩:=map_some hs
  cases h2
  exact .pure hr (un_sound (he _) h1 w)
 ·split at hs
  ·rename_i v' h1;cases hs;exact .pure hr (unsafePtr_sound hr (he _) h1)
  ·exact .of (convert_sound hr (he _) hs)
 ·obtain ⟨v',h1,h2⟩:=map_some hs
  cases h2
  exact .pure hr (arrayAt_sound (he _) h1 w)
 ·rename_i t x
  obtain ⟨v',h1,h2⟩:=map_some hs
  cases h2
  unfold absMakeIface at h1
  refine .pure hr ?_
  split at h1
  ·cases h1
  ·rename_i d hd hu
   cases h1
   refine ⟨.iface t (ρc x),?_,_,rfl,he _⟩
   unfold Instr.makeInterface
   simp only [Sem.run_bind,run_underlying hu,Result.andThen_ok]
   rfl
  ·cases h1
 ·rename_i fn fs cs
  obtain ⟨v',h1,h2⟩:=map_some hs
  cases h2
  unfold absMakeFunc at h1
  split at h1
  ·cases h1
   refine .pure hr ⟨.func (.func _) (fs.map ρc) (cs.map ρc),rfl,_,_,rfl,?_,?_⟩
   ·rw [Array.toList_map];exact RL_map he _
   ·rw [Array.toList_map];exact RL_map he _
  ·cases h1
 ·exact .of (makeSlice_sound hr (he _) (he _) hs)
 ·obtain ⟨v',h1,h2⟩:=map_some hs
  cases h2
  exact .pure hr (slice_sound hr (he _) (OR_map he _) (OR_map he _) (OR_map he _) h1)
 ·obtain ⟨v',h1,h2⟩:=map_some hs
  cases h2
  exact .pure hr (fieldAddr_sound (he _) h1 w)
 ·obtain ⟨v',h1,h2⟩:=map_some hs
  cases h2
  exact .pure hr (field_sound (he _) h1 w)
 ·obtain ⟨v',h1,h2⟩:=map_some hs
  cases h2
  exact .pure hr (indexAddr_sound (he _) (he _) h1 w)
 ·obtain ⟨v',h1,h2⟩:=map_some hs
  cases h2
  exact .pure hr (index_sound (he _) (he _) h1 w)
 ·obtain ⟨v',h1,h2⟩:=map_some hs
  cases h2
  exact .pure hr (assert_sound (he _) h1 w)
 ·obtain ⟨v',h1,h2⟩:=map_some hs
  cases h2
  exact .pure hr (extract_sound (he _) h1 w)
 ·rename_i b args ats
  have:=builtin_sound (P:=P) (ty:=ty) (cs:=args.map fun | .const _=>true | _=>false) (args:=args.map ρc) hr (by rw [Array.toList_map];exact RL_map he _) hs
  exact this
 ·cases hs
end Go.Proofs.YtcmhoboglapbdaaDoor.Ev
namespace Go.Proofs.YtcmhoboglapbdaaDoor.Ev
open Go
def undefV:V:=.tuple []
theorem undefV_R(ρ:Rho):R ρ undefV undef:=⟨_,rfl,rfl⟩
structure FO where
 F:Type
 get:F→Nat→V
 set:F→Nat→V→F
 ini:List V→F
 get_set:∀ f i j v,get (set f i v) j=if j=i then v else get f j
 get_ini:∀ l i,get (ini l) i=l.getD i .bad
 keepK:Nat→F→(F→Option (V×AH))→Option (V×AH)
 keepK_spec:∀ key f K,keepK key f K=none∨∃ f',keepK key f K=K f'∧∀ i,get f' i=get f i∨get f' i=.bad
def foFun:FO where
 F:=Nat→V
 get:=fun f i=>f i
 set:=fun f i v j=>bif Nat.beq j i then v else f j
 ini:=fun l i=>l.getD i .bad
 get_set:=fun f i j v=>by
  by_cases h:j=i
  ·subst h;simp
  ·have hb:Nat.beq j i=false:=by
    cases hb:Nat.beq j i with
    | false=>rfl
    | true=>exact absurd (Nat.eq_of_beq_eq_true hb) h
   simp only [hb,cond_false,if_neg h]
 get_ini:=fun _ _=>rfl
 keepK:=fun _ f K=>K f
 keepK_spec:=fun _ f _=>.inr ⟨f,rfl,fun _=>.inl rfl⟩
structure Cfg where
 P:Program
 G:Nat→Option Nat
 C:FuncId→List V→AH→Option (V×AH)
 X:FuncId→List V→AH→Option (V×AH)
 hint:Op→Option (Int×(Int→Bool))
abbrev Res:=Option (V×AH)
inductive Ck:Type where
 | any
 | int (k:IntKind)
 | bool
 | str
 | agg
def Ck.ty:Ck→Type
 | .any=>V
 | .int _=>Int
 | .bool=>Bool
 | .str=>List Nat
 | .agg=>List V
def Ck.val:(c:Ck)→c.ty→V
 | .any,x=>x
 | .int k,x=>.int k x
 | .bool,x=>.bool x
 | .str,x=>.str x
 | .agg,x=>.agg x
noncomputable def ckI(k:IntKind)(v:V)(K:Int→Res):Res :=
 match v with
 | .int k' n=>if k'=k then K n else none
 | _=>none
noncomputable def ckB(v:V)(K:Bool→Res):Res :=
 match v with
 | .bool b=>K b
 | _=>none
noncomputable def ckS(v:V)(K:List Nat→Res):Res :=
 match v with
 | .str s=>K s
 | _=>none
noncomputable def ckA(v:V)(K:List V→Res):Res :=
 match v with
 | .agg cs=>K cs
 | _=>none
noncomputable def ckT:(c:Ck)→V→(c.ty→Res)→Res
 | .any,v,K=>K v
 | .int k,v,K=>ckI k v K
 | .bool,v,K=>ckB v K
 | .str,v,K=>ckS v K
 | .agg,v,K=>ckA v K
noncomputable def chk(c:Ck)(v:V)(K:V→Res):Res:=ckT c v fun x=>K (c.val x)
theorem ckT_some{c:Ck}{v:V}{K:c.ty→Res}{r:V×AH}(h:ckT c v K=some r):∃ x,v=c.val x∧K x=some r:=by
 cases c
 case any=>exact ⟨v,rfl,h⟩
 case int k =>
  have h':ckI k v K=some r:=h
  unfold ckI at h'
  split at h'
  ·split at h'
   ·rename_i hk;subst hk;exact ⟨_,rfl,h'⟩
   ·cases h'
  ·cases h'
 case bool =>
  have h':ckB v K=some r:=h
  unfold ckB at h'
  split at h'
  ·exact ⟨_,rfl,h'⟩
  ·cases h'
 case str =>
  have h':ckS v K=some r:=h
  unfold ckS at h'
  split at h'
  ·exact ⟨_,rfl,h'⟩
  ·cases h'
 case agg =>
  have h':ckA v K=some r:=h
  unfold ckA at h'
  split at h'
  ·exact ⟨_,rfl,h'⟩
  ·cases h'
theorem chk_some{c:Ck}{v:V}{K:V→Res}{r:V×AH}(h:chk c v K=some r):K v=some r:=by
 obtain ⟨x,rfl,h2⟩:=ckT_some h
 exact h2
def kindOf(P:Program)(t:TypeId):Ck :=
 match P.underlying t with
 | some (.int k)=>.int k
 | some .bool=>.bool
 | some .string=>.str
 | some (.struct _) | some (.array _ _)=>.agg
 | _=>.any
def ckOf(P:Program)(o:Oper):Ck :=
 match o.dst with
 | none=>.any
 | some _=>kindOf P o.type
noncomputable def seeB(g:Bool)(v:V)(K:V→Res):Res :=
 match g,v with
 | true,.bool b=>bif b then K (.bool true) else K (.bool false)
 | _,v=>K v
theorem seeB_eq(g:Bool)(v:V)(K:V→Res):seeB g v K=K v:=by
 unfold seeB
 split
 ·rename_i b;cases b <;> rfl
 ·rfl
def guards(ops:Array Oper)(i:Nat):Bool:=ops.toList.any fun o=>match o.guard with
 | some (j,_)=>Nat.beq j i
 | none=>false
noncomputable def look(P:Program)(ops:Array Oper)(i:Nat)(o:Oper)(v:V)(K:V→Res):Res:=chk (ckOf P o) v fun v=>seeB (guards ops i) v K
theorem look_some{P:Program}{ops:Array Oper}{i:Nat}{o:Oper}{v:V}{K:V→Res}{r:V×AH}(h:look P ops i o v K=some r):K v=some r:=by
 have:=chk_some h
 rwa [seeB_eq] at this
noncomputable def concR(m:Int×(Int→Bool))(r:Res):Res :=
 match r with
 | some (.int k x,h)=>bif m.2 x then some (.int k m.1,h) else none
 | _=>none
noncomputable def conc(o:Option (Int×(Int→Bool)))(r:Res):Res:=Option.rec r (fun m=>concR m r) o
def HintOK(c:Cfg):Prop:=∀ o m,c.hint o=some m→∀ x,m.2 x=true→x=m.1
theorem conc_some{c:Cfg}(hH:HintOK c){o:Op}{r:Res}{x:V×AH}(h:conc (c.hint o) r=some x):r=some x:=by
 cases ho:c.hint o with
 | none=>rw [ho] at h;exact h
 | some m =>
  rw [ho] at h
  have h':concR m r=some x:=h
  unfold concR at h'
  split at h'
  ·rename_i k y hh
   cases hy:m.2 y with
   | true=>rw [hy] at h';rw [hH o m ho y hy];exact h'
   | false=>rw [hy] at h';cases h'
  ·cases h'
theorem conc_of{c:Cfg}(hH:HintOK c){o:Op}{r r':Res}{v:V}{h h':AH}(hc:conc (c.hint o) r=some (v,h))(hr':r'=some (v,h')):conc (c.hint o) r'=some (v,h'):=by
 have hr:=conc_some hH hc
 subst hr hr'
 cases ho:c.hint o with
 | none=>rfl
 | some m =>
  rw [ho] at hc
  have h1:concR m (some (v,h))=some (v,h):=hc
  show concR m (some (v,h'))=some (v,h')
  unfold concR at h1 ⊢
  split at h1
  ·rename_i k y hh he
   cases he
   cases hy:m.2 y with
   | true=>rw [hy] at h1;have h2:V.int k m.1=V.int k y:=(Prod.mk.inj (Option.some.inj h1)).1;simp only [hy,cond_true,h2]
   | false=>rw [hy] at h1;cases h1
  ·cases h1
section
variable (c:Cfg) (fo:FO)
def evO(fr:fo.F):Operand→V
 | .tmp t=>fo.get fr t
 | .const v=>absC v
 | .global g=>match c.G g with
  | some L=>.ptr ⟨g,L,0⟩
  | none=>.bad
 | .func f=>.func f [] []
def putF(N:Nat)(fr:fo.F)(d:Option Nat)(v:V):fo.F :=
 match d with
 | some d=>bif Nat.blt d N then fo.set fr d v else fr
 | none=>fr
def callee(ev:Operand→V)(cl:Call):Option (FuncId×List V) :=
 match cl.callee with
 | .value f=>match ev f with
  | .func f fs cs=>some (f,fs++cl.args.toList.map ev++cs)
  | _=>none
 | .invoke r name=>match ev r with
  | .iface t v =>
   match c.P.info? t with
   | none=>none
   | some i =>
    match i.methods.find? (·.name==name) with
    | none=>none
    | some m =>
     if m.path.isEmpty then
      match m.func,c.P.underlying t with
      | some (f,true),some (.pointer _)=>some (f,v :: cl.args.toList.map ev)
      | some (f,false),some (.pointer _)=>none
      | some (f,false),some _=>some (f,v :: cl.args.toList.map ev)
      | _,_=>none
     else none
  | _=>none
 | .builtin _=>none
def hasBody(f:FuncId):Option Bool :=
 match c.P.funcs[f]? with
 | none=>none
 | some fn=>if fn.name== "runtime.NumGoroutine" then none else some fn.body.isSome
noncomputable def callV(f:FuncId)(args:List V)(h:AH):Res :=
 match hasBody c f with
 | some true=>c.C f args h
 | some false=>c.X f args h
 | none=>none
noncomputable def quietV(f:FuncId)(args:List V)(h:AH):Res :=
 match callV c f args ⟨h.next,h.next,h.m⟩ with
 | none=>none
 | some (v,h1)=>if h.next≤h1.low then some (v,⟨h1.next,h.low,h1.m⟩) else none
def jau:Op→Option Call
 | .call cl=>match cl.callee with
  | .builtin _=>none
  | _=>some cl
 | _=>none
noncomputable def jbm(quiet:Bool)(o:Op)(ev:Operand→V)(h:AH):Res :=
 match jau o with
 | some cl =>
  match callee c ev cl with
  | some (f,args)=>if quiet then quietV c f args h else callV c f args h
  | none=>none
 | none=>conc (c.hint o) (sop c.P o ev h)
def wantedV(ops:Array Oper)(o:Oper)(fr:fo.F):Option Bool :=
 match o.guard with
 | none=>some true
 | some (j,want) =>
  match (ops[j]?).bind (·.dst) with
  | none=>some false
  | some d =>
   match fo.get fr d with
   | .bool b=>some (b==want)
   | .bad=>none
   | _=>some false
end
def GOK(c:Cfg)(ρ:Rho):Prop:=∀ g L,c.G g=some L→∃ S,ρ g L=some (g,0,S)
theorem GOK.mono{c:Cfg}{ρ ρ':Rho}(h:GOK c ρ)(hle:ρ.le ρ'):GOK c ρ':=fun g L hg=>let ⟨S,hS⟩:=h g L hg;⟨S,hle _ _ _ hS⟩
def FR(fo:FO)(ρ:Rho)(fr:fo.F)(tmps:Array Value):Prop:=∀ t,R ρ (fo.get fr t) (tmps.getD t undef)
theorem FR.mono{fo:FO}{ρ ρ':Rho}{fr:fo.F}{tmps:Array Value}(h:FR fo ρ fr tmps)(hle:ρ.le ρ'):FR fo ρ' fr tmps:=fun t=>(h t).mono hle
theorem FR.put{fo:FO}{ρ:Rho}{fr:fo.F}{a:Act}(h:FR fo ρ fr a.tmps){N:Nat}(hN:a.tmps.size=N)(d:Option Nat){v:V}{u:Value}(hR:R ρ v u):FR fo ρ (putF fo N fr d v) (a.put d u).tmps:=by
 cases d with
 | none=>exact h
 | some d =>
  intro t
  unfold putF Act.put
  simp only [Array.getD_eq_getD_getElem?]
  rw [Arr.blt_eq]
  by_cases hd:d<N
  ·simp only [hd,decide_true,cond_true,fo.get_set,Array.getElem?_setIfInBounds]
   by_cases ht:t=d
   ·subst ht;rw [if_pos rfl,if_pos rfl,if_pos (by omega)];exact hR
   ·rw [if_neg ht,if_neg (fun e=>ht e.symm)]
    have:=h t
    rwa [Array.getD_eq_getD_getElem?] at this
  ·simp only [hd,decide_false,cond_false,Array.getElem?_setIfInBounds]
   have:=h t
   rw [Array.getD_eq_getD_getElem?] at this
   by_cases ht:d=t
   ·subst ht;rw [if_pos rfl,if_neg (by omega)]
    rw [Array.getElem?_eq_none (by omega)] at this
    exact this
   ·rw [if_neg ht];exact this
theorem put_size(a:Act)(d:Option Tmp)(u:Value):(a.put d u).tmps.size=a.tmps.size:=by cases d <;> simp [Act.put]
theorem put_defers(a:Act)(d:Option Tmp)(u:Value):(a.put d u).defers=a.defers:=by cases d <;> simp [Act.put]
theorem evO_R{c:Cfg}{fo:FO}{ρ:Rho}{fr:fo.F}{a:Act}(hg:GOK c ρ)(h:FR fo ρ fr a.tmps):∀ x,R ρ (evO c fo fr x) (a.eval x):=by
 intro x
 cases x with
 | tmp t=>exact h t
 | const v=>exact absC_R ρ v
 | global g =>
  simp only [evO]
  cases hG:c.G g with
  | none=>trivial
  | some L =>
   obtain ⟨S,hS⟩:=hg g L hG
   exact ⟨_,rfl,g,0,S,hS,Int.le_refl _,rfl⟩
 | func f=>exact ⟨_,_,rfl,rfl,rfl⟩
def CSound(c:Cfg):Prop:=∀ (ρ:Rho) (h:AH) (w:World) (f:FuncId) (args:List V) (args':List Value) (v:V) (h':AH),GOK c ρ→HR ρ h w→RL ρ args args'→c.C f args h=some (v,h') →
 Calls c.P f args'.toArray w fun e w'=>∃ u ρ',e=.returned u∧R ρ' v u∧HR ρ' h' w'∧Step ρ h w ρ' h' w'
def XRun(c:Cfg):Prop:=∀ (ρ:Rho) (h:AH) (w:World) (f:FuncId) (args:List V) (args':List Value) (v:V) (h':AH),HR ρ h w→RL ρ args args'→c.X f args h=some (v,h')→SimN c.P ρ h w (callFunc f args'.toArray) v h'
def XSound(c:Cfg):Prop:=XRun c∧HintOK c
theorem callee_sound{c:Cfg}{ρ:Rho}{ev:Operand→V}{ρc:Operand→Value}{cl:Call}{f:FuncId}{args:List V}{ty:TypeId}(he:∀ x,R ρ (ev x) (ρc x))(h:callee c ev cl=some (f,args)) :
  ∃ args':List Value,RL ρ args args'∧∀ w,(do let d ← resolve ρc cl ty;invoke d.target d.args:Sem Next).run c.P w=(callFunc f args'.toArray).run c.P w:=by
 unfold callee at h
 have hargs:RL ρ (cl.args.toList.map ev) (cl.args.toList.map ρc):=RL_map he _
 split at h
 ·rename_i fo hcl
  split at h
  ·rename_i f' fs cs hf
   cases h
   have hR:=he fo
   rw [hf] at hR
   obtain ⟨xs,ys,hv,h1,h2⟩:=hR
   refine ⟨xs.toList++cl.args.toList.map ρc++ys.toList,(h1.append hargs).append h2,fun w=>?_⟩
   unfold resolve
   simp only [hcl,hv,Deferred.ofValue,Sem.run_bind,Sem.run_pure,Result.andThen_ok,invoke]
   congr 2
   apply Array.ext'
   simp
  ·cases h
 ·rename_i r name hcl
  split at h
  ·rename_i t v hr
   have hR:=he r
   rw [hr] at hR
   obtain ⟨y,hy,hRy⟩:=hR
   split at h
   ·cases h
   ·rename_i i hi
    split at h
    ·cases h
    ·rename_i m hm
     split at h
     ·rename_i hp
      have hpe:m.path.toList=[]:=by
       have:m.path=#[]:=by simpa using hp
       rw [this]
      have hstep:∀ (w:World) (f:FuncId) (b:Bool),m.func=some (f,b)→(∀ w0:World,(receiverAt t (.val y) b (if m.path.isEmpty then some ((name.splitOn ".").getLastD name) else none)).run c.P w0=.ok y w0) →
        (do let d ← resolve ρc cl ty;invoke d.target d.args:Sem Next).run c.P w=(callFunc f (y :: cl.args.toList.map ρc).toArray).run c.P w:=by
       intro w f b hf hrec
       unfold resolve
       simp only [hcl,hy,Sem.run_bind,Sem.run_pure,Result.andThen_ok,invoke]
       have h0:(#[Value.iface t y]++Array.map ρc cl.args)[0]?=some (.iface t y):=by rw [Array.getElem?_append_left (by simp)];rfl
       rw [h0]
       simp only [callMethod,Sem.run_bind,run_program,Result.andThen_ok]
       obtain ⟨k,hk⟩:∃ k,c.P.types.size+Made.depth=k+1:=⟨c.P.types.size+Made.depth-1,by have h00:0<Made.depth:=(by decide);omega⟩
       rw [hk]
       unfold method
       simp only [Sem.run_bind,typeInfo,run_program,hi,Sem.run_pure,Result.andThen_ok,hm,hpe,follow,hf,hrec]
       congr 2
       apply Array.ext'
       simp [List.take_of_length_le]
      split at h
      ·rename_i f' e hf hu
       cases h
       refine ⟨y :: cl.args.toList.map ρc,⟨_,_,rfl,hRy,hargs⟩,fun w=>hstep w _ _ hf fun w0=>?_⟩
       unfold receiverAt
       simp only [Sem.run_bind,run_underlying hu,Result.andThen_ok,Place.get,Sem.run_pure]
      ·cases h
      ·rename_i f' d hd hf hu
       cases h
       refine ⟨y :: cl.args.toList.map ρc,⟨_,_,rfl,hRy,hargs⟩,fun w=>hstep w _ _ hf fun w0=>?_⟩
       unfold receiverAt
       simp only [Sem.run_bind,run_underlying hu,Result.andThen_ok]
       cases d <;> first | exact absurd rfl (hd _) | rfl
      ·cases h
     ·cases h
  ·cases h
 ·cases h
theorem callFunc_body{P:Program}{f:FuncId}{fn:Func}(h:P.funcs[f]?=some fn)(hn:(fn.name== "runtime.NumGoroutine")=false)(hb:fn.body.isSome=true)(args:Array Value)(w:World):(callFunc f args).run P w=.ok (.enter f args) w:=by
 unfold callFunc
 have:fn.body.isNone=false:=by cases hh:fn.body with | none=>rw [hh] at hb;cases hb | some=>rfl
 simp only [Sem.run_bind,run_program,Result.andThen_ok,h,hn,this,Bool.false_eq_true,if_false,Sem.run_pure]
theorem callV_wp{c:Cfg}(hC:CSound c)(hX:XSound c){ρ:Rho}{h h':AH}{w:World}{f:FuncId}{args:List V}{args':List Value}{v:V}(hg:GOK c ρ)(hr:HR ρ h w)(hR:RL ρ args args')(hs:callV c f args h=some (v,h'))
  {o:Oper} {a:Act} {next:Act→World→Prop} {Q:Exit→Act→World→Prop} (hn:∀ u w' ρ',R ρ' v u→HR ρ' h' w'→Step ρ h w ρ' h' w'→next (a.put o.dst u) w') :
  o.upon c.P a next Q ((callFunc f args'.toArray).run c.P w):=by
 unfold callV at hs
 cases hb:hasBody c f with
 | none=>rw [hb] at hs;cases hs
 | some b =>
  rw [hb] at hs
  unfold hasBody at hb
  split at hb
  ·cases hb
  ·rename_i fn hfn
   split at hb
   ·cases hb
   ·rename_i hname
    cases b with
    | true =>
     rw [callFunc_body hfn (by simpa using hname) (Option.some.inj hb)]
     simp only [Oper.upon]
     refine (hC ρ h w f args args' v h' hg hr hR hs).mono ?_
     rintro e w' ⟨u,ρ',rfl,h1,h2,h3⟩
     exact hn u w' ρ' h1 h2 h3
    | false =>
     obtain ⟨n,u,w',ρ',h1,h2,h3,h4,h5⟩:=hX.1 ρ h w f args args' v h' hr hR hs
     rw [h1]
     rcases h2 with rfl | ⟨rfl,rfl⟩
     ·exact hn u w' ρ' h3 h4 h5
     ·exact hn undef w' ρ' h3 h4 h5
theorem HR.low{ρ:Rho}{h:AH}{w:World}(hr:HR ρ h w)(l:Nat):HR ρ ⟨h.next,l,h.m⟩ w:=⟨hr.fresh,hr.lives,hr.bound,hr.inj,hr.top,hr.blk⟩
theorem stepV_wp{c:Cfg}(hC:CSound c)(hX:XSound c){ρ:Rho}{h h':AH}{w:World}{quiet:Bool}{o:Oper}{a:Act}{ev:Operand→V}{v:V}(hg:GOK c ρ)(hr:HR ρ h w)(he:∀ x,R ρ (ev x) (a.eval x))(hs:jbm c quiet o.op ev h=some (v,h'))
  {next:Act→World→Prop} {Q:Exit→Act→World→Prop} (hn:∀ u w' ρ',R ρ' v u→HR ρ' h' w'→Step ρ h w ρ' h' w'→next (a.put o.dst u) w'):o.wp c.P a w next Q:=by
 unfold jbm at hs
 unfold Oper.wp
 split at hs
 ·rename_i cl hcl
  have hop:o.op=.call cl:=by
   unfold jau at hcl
   split at hcl
   ·split at hcl
    ·cases hcl
    ·cases hcl;assumption
   ·cases hcl
  split at hs
  ·rename_i f args hcall
   obtain ⟨args',hRL,hrun⟩:=callee_sound (ty:=o.type) he hcall
   have hrun':(execOp a.eval o).run c.P w=(callFunc f args'.toArray).run c.P w:=by
    rw [← hrun w]
    unfold execOp
    rw [hop]
   rw [hrun']
   split at hs
   ·unfold quietV at hs
    cases hq:callV c f args ⟨h.next,h.next,h.m⟩ with
    | none=>rw [hq] at hs;cases hs
    | some x =>
     obtain ⟨v1,h1⟩:=x
     rw [hq] at hs
     simp only at hs
     split at hs
     ·rename_i hlow
      cases hs
      refine callV_wp hC hX hg (hr.low h.next) hRL hq ?_
      intro u w' ρ' g1 g2 g3
      refine hn u w' ρ' g1 (g2.low h.low) ?_
      exact ⟨g3.le,g3.cons,g3.ro,g3.next,g3.os,g3.tape,g3.output,g3.size,g3.keep,Nat.le_refl _,fun b _ hb=>g3.quiet b (Nat.lt_of_lt_of_le hb hlow) hb⟩
     ·cases hs
   ·exact callV_wp hC hX hg hr hRL hs hn
  ·cases hs
 ·obtain ⟨n,u,w',ρ',h1,h2,h3,h4,h5⟩:=sop_sound hr he (conc_some hX.2 hs)
  rw [h1]
  rcases h2 with rfl | ⟨rfl,rfl⟩
  ·exact hn u w' ρ' h3 h4 h5
  ·exact hn undef w' ρ' h3 h4 h5
theorem wantedV_sound{fo:FO}{ρ:Rho}{ops:Array Oper}{o:Oper}{fr:fo.F}{a:Act}{b:Bool}(h:FR fo ρ fr a.tmps)(hw:wantedV fo ops o fr=some b):Region.wanted o (yielded ops a.tmps)=b:=by
 unfold wantedV at hw
 unfold Region.wanted
 split at hw
 ·rename_i hgd;rw [hgd];exact Option.some.inj hw
 ·rename_i j want hgd
  rw [hgd]
  simp only
  unfold yielded
  split at hw
  ·rename_i hd;rw [hd];simp only [Option.bind_none];cases hw;rfl
  ·rename_i d hd
   rw [hd]
   simp only [Option.bind_some]
   have hR:=h d
   rw [Array.getD_eq_getD_getElem?] at hR
   split at hw
   ·rename_i b' hv
    rw [hv] at hR
    cases hg:a.tmps[d]? with
    | none=>rw [hg] at hR;simp only [Option.getD_none] at hR;cases (show undef=.bool b' from hR)
    | some u=>rw [hg] at hR;simp only [Option.getD_some] at hR;rw [show u=_ from hR];cases hw;cases b' <;> cases want <;> rfl
   ·cases hw
   ·rename_i hv hbad
    cases hw
    cases hg:a.tmps[d]? with
    | none=>rfl
    | some u =>
     rw [hg] at hR
     simp only [Option.getD_some] at hR
     cases u with
     | bool b' =>
      exfalso
      have htag:=R_tag hR (by cases hx:fo.get fr d <;> first | rfl | exact absurd hx hbad)
      cases hx:fo.get fr d <;> rw [hx] at htag <;> first | (simp [valueTag,V.tag] at htag;done) | exact hv _ hx
     | _=>rfl
end Go.Proofs.YtcmhoboglapbdaaDoor.Ev
namespace Go.Proofs.YtcmhoboglapbdaaDoor.Ev
open Go
section
variable (c:Cfg) (fo:FO) (N:Nat) (ops:Array Oper) (qs:Nat→Bool)
noncomputable def runOps:List Nat→fo.F→AH→(fo.F→AH→Res)→Res
 | [],fr,h,k=>k fr h
 | i :: is,fr,h,k =>
  match ops[i]? with
  | none=>runOps is fr h k
  | some o =>
   match wantedV fo ops o fr with
   | none=>none
   | some false=>runOps is (putF fo N fr o.dst undefV) h k
   | some true =>
    match jbm c (qs i) o.op (evO c fo fr) h with
    | none=>none
    | some (v,h')=>look c.P ops i o v fun v=>runOps is (putF fo N fr o.dst v) h' k
end
def Post(c:Cfg)(fo:FO)(N:Nat)(ρ0:Rho)(h0:AH)(w0:World)(r:V×AH)(k:fo.F→AH→Res)(Q:Act→World→Prop):Prop :=
 ∀ (fr:fo.F) (h:AH) (a:Act) (w:World) (ρ:Rho),k fr h=some r→FR fo ρ fr a.tmps→a.tmps.size=N→a.defers=[]→GOK c ρ→HR ρ h w→Step ρ0 h0 w0 ρ h w→Q a w
theorem Post.step{c:Cfg}{fo:FO}{N:Nat}{ρ0 ρ1:Rho}{h0 h1:AH}{w0 w1:World}{r:V×AH}{k:fo.F→AH→Res}{Q:Act→World→Prop}(hr:HR ρ0 h0 w0)(hs:Step ρ0 h0 w0 ρ1 h1 w1)(hp:Post c fo N ρ0 h0 w0 r k Q):Post c fo N ρ1 h1 w1 r k Q :=
 fun fr h a w ρ hk hf hN hd hg hh hst=>hp fr h a w ρ hk hf hN hd hg hh (Step.trans hr hs hst)
theorem runOps_wp{c:Cfg}(hC:CSound c)(hX:XSound c){fo:FO}{N:Nat}{ops:Array Oper}{qs:Nat→Bool}{Q:Exit→Act→World→Prop}{r:V×AH}{k:fo.F→AH→Res}:∀ (l:List Nat) (ρ:Rho) (fr:fo.F) (h:AH) (a:Act) (w:World),
  runOps c fo N ops qs l fr h k=some r→FR fo ρ fr a.tmps→a.tmps.size=N→a.defers=[]→GOK c ρ→HR ρ h w→Post c fo N ρ h w r k (Q .normal)→wpOps c.P ops Q l a w:=by
 intro l
 induction l with
 | nil =>
  intro ρ fr h a w hrun hf hN hd hg hr hp
  exact hp fr h a w ρ hrun hf hN hd hg hr (Step.refl _ _ _)
 | cons i is ih =>
  intro ρ fr h a w hrun hf hN hd hg hr hp
  unfold runOps at hrun
  unfold wpOps
  cases ho:ops[i]? with
  | none=>rw [ho] at hrun;exact ih ρ fr h a w hrun hf hN hd hg hr hp
  | some o =>
   rw [ho] at hrun
   simp only at hrun ⊢
   cases hw:wantedV fo ops o fr with
   | none=>rw [hw] at hrun;cases hrun
   | some b =>
    rw [hw] at hrun
    have hwant:=wantedV_sound hf hw
    cases b with
    | false =>
     simp only [hwant,Bool.false_eq_true,if_false] at hrun ⊢
     exact ih ρ _ h _ w hrun (hf.put hN o.dst (undefV_R ρ)) (by rw [put_size];exact hN) (by rw [put_defers];exact hd) hg hr hp
    | true =>
     simp only [hwant,if_true] at hrun ⊢
     cases hs:jbm c (qs i) o.op (evO c fo fr) h with
     | none=>rw [hs] at hrun;cases hrun
     | some x =>
      obtain ⟨v,h'⟩:=x
      rw [hs] at hrun
      replace hrun:=look_some hrun
      refine .inl (stepV_wp hC hX hg hr (evO_R hg hf) hs ?_)
      intro u w' ρ' g1 g2 g3
      exact ih ρ' _ h' _ w' hrun ((hf.mono g3.le).put hN o.dst g1) (by rw [put_size];exact hN) (by rw [put_defers];exact hd) (hg.mono g3.le) g2 (hp.step hr g3)
def cls(P:Program)(o:Op):Nat :=
 match o with
 | .move _ | .assign _ | .pick .. | .build .. | .nilCheck _ | .binOp .. | .unOp .. | .sliceToArrayPointer .. | .makeInterface .. | .makeFunc .. | .fieldAddr .. | .field .. | .indexAddr .. | .index .. | .typeAssert .. | .extract ..=>0
 | .load .. | .slice ..=>1
 | .convert s d _ =>
  match P.underlying s,P.underlying d with
  | _,some (.int _)=>0
  | some .string,some .string=>0
  | some (.slice _),some .string=>1
  | _,_=>2
 | .call { callee:=.builtin b,.. } =>
  match b with
  | .len | .cap | .max | .min | .unsafeSliceData=>0
  | _=>2
 | _=>2
def blockOf:V→Option Nat
 | .ptr a=>some a.b
 | .slice a _ _ _ _=>some a.b
 | _=>none
theorem readN_same{h h2:AH}{a:A}{n:Nat}(he:h2.get a.b=h.get a.b):jbj h2 a n=jbj h a n:=by
 rw [readN_eq,readN_eq,he]
theorem loud_same{P:Program}{o:Op}{ev:Operand→V}{h h1:AH}{v:V}(hc:cls P o≠2)(hcall:jau o=none)(hs:sop P o ev h=some (v,h1)) :
  h1=h∧∀ h2:AH,(cls P o≠0→∀ x b,blockOf (ev x)=some b→(h.get b).isSome=true→h2.get b=h.get b)→sop P o ev h2=some (v,h2):=by
 have pureCase:∀ (z:Option V),(z.map fun v=>(v,h))=some (v,h1)→h1=h∧z=some v:=by
  intro z hz
  cases z with
  | none=>cases hz
  | some v'=>cases hz;exact ⟨rfl,rfl⟩
 have outP:∀ (z:Option V),(z.map fun v=>(v,h))=some (v,h1)→h1=h∧∀ h2:AH,(cls P o≠0→∀ x b,blockOf (ev x)=some b→(h.get b).isSome=true→h2.get b=h.get b)→(z.map fun v=>(v,h2))=some (v,h2):=by
  intro z hz
  obtain ⟨rfl,rfl⟩:=pureCase z hz
  exact ⟨rfl,fun h2 _=>rfl⟩
 cases o
 case move x=>cases hs;exact ⟨rfl,fun _ _=>rfl⟩
 case assign x=>cases hs;exact ⟨rfl,fun _ _=>rfl⟩
 case pick cc a b =>
  unfold sop at hs ⊢
  simp only at hs ⊢
  split at hs
  ·cases hs;exact ⟨rfl,fun _ _=>rfl⟩
  ·cases hs
 case build t ps=>exact outP _ hs
 case nilCheck x=>exact outP _ hs
 case binOp op t x y t2=>exact outP _ hs
 case unOp op t x=>exact outP _ hs
 case sliceToArrayPointer t x=>exact outP _ hs
 case makeInterface t x=>exact outP _ hs
 case makeFunc f a b=>exact outP _ hs
 case fieldAddr t x f=>exact outP _ hs
 case field t x f=>exact outP _ hs
 case indexAddr t x i=>exact outP _ hs
 case index t x i=>exact outP _ hs
 case typeAssert x t1 t2 ok=>exact outP _ hs
 case extract x i=>exact outP _ hs
 case load t x =>
  obtain ⟨rfl,hl⟩:=pureCase _ hs
  refine ⟨rfl,fun h2 hb=>?_⟩
  show ((absLoad P t (ev x) h2).map fun v=>(v,h2))=_
  have:absLoad P t (ev x) h2=absLoad P t (ev x) h1:=by
   unfold absLoad
   cases hx:ev x with
   | ptr a =>
    have hsome:(h1.get a.b).isSome=true:=by
     rw [hx] at hl
     unfold absLoad at hl
     cases hg:h1.get a.b with
     | some k=>rfl
     | none =>
      exfalso
      have hr:∀ n,jbj h1 a n=none:=fun n=>by rw [readN_eq,hg];rfl
      simp only [hr] at hl
      split at hl <;> cases hl
    have he:=hb (by simp [cls]) x a.b (by rw [hx];rfl) hsome
    simp only [readN_same he]
   | _=>rfl
  rw [this,hl];rfl
 case slice t x lo hi mx =>
  obtain ⟨rfl,hl⟩:=pureCase _ hs
  refine ⟨rfl,fun h2 hb=>?_⟩
  show ((absSlice P t (ev x) _ _ _ h2).map fun v=>(v,h2))=_
  have:absSlice P t (ev x) (lo.map ev) (hi.map ev) (mx.map ev) h2=absSlice P t (ev x) (lo.map ev) (hi.map ev) (mx.map ev) h1:=by
   unfold absSlice
   cases hx:ev x with
   | ptr a =>
    have hsome:∀ n e,P.underlying t=some (.array n e)→(h1.get a.b).isSome=true:=by
     intro n e hu
     rw [hx] at hl
     unfold absSlice at hl
     simp only [hu] at hl
     cases hg:h1.get a.b with
     | some k=>rfl
     | none=>rw [hg] at hl;cases hl
    cases hu:P.underlying t with
    | none=>rfl
    | some d =>
     cases d with
     | array n e =>
      have he:=hb (by simp [cls]) x a.b (by rw [hx];rfl) (hsome n e hu)
      simp only [he]
     | _=>rfl
   | _ =>
    cases hu:P.underlying t with
    | none=>rfl
    | some d=>cases d <;> rfl
  rw [this,hl];rfl
 case convert s d x =>
  have hno:∀ h3,absUnsafePtr P s d (ev x) h3=none:=by
   intro h3
   unfold absUnsafePtr
   split
   ·rename_i g1 g2;exact absurd (by simp [cls,g1,g2]) hc
   ·rename_i g1 g2;exact absurd (by simp [cls,g1,g2]) hc
   ·rename_i g1 g2;exact absurd (by simp [cls,g1,g2]) hc
   ·rename_i g1 g2;exact absurd (by simp [cls,g1,g2]) hc
   ·rfl
  have hs':absConvert P s d (ev x) h=some (v,h1):=by
   unfold sop at hs
   simp only [hno] at hs
   exact hs
  have hgo:∀ h2,sop P (.convert s d x) ev h2=absConvert P s d (ev x) h2:=by
   intro h2
   unfold sop
   simp only [hno]
  simp only [hgo]
  generalize hx:ev x=y at hs'
  unfold absConvert at hs' ⊢
  cases hu1:P.underlying s with
  | none=>simp only [hu1] at hs';cases hs'
  | some d1 =>
   cases hu2:P.underlying d with
   | none=>simp only [hu1,hu2] at hs';cases d1 <;> cases hs'
   | some d2 =>
    have hcl:(match (some d1:Option TypeDesc),(some d2:Option TypeDesc) with
      | _,some (.int _)=>0
      | some .string,some .string=>0
      | some (.slice _),some .string=>1
      | _,_=>2)≠2:=by
     have:=hc
     simp only [cls,hu1,hu2] at this
     exact this
    simp only [hu1,hu2] at hs'
    cases d2
    case int k =>
     cases y <;> cases d1 <;> first | (cases hs';done) | (cases hs';exact ⟨rfl,fun _ _=>rfl⟩)
    case string =>
     cases d1
     case string=>cases y <;> first | (cases hs';done) | (cases hs';exact ⟨rfl,fun _ _=>rfl⟩)
     case slice e =>
      cases y
      case str=>cases hs';exact ⟨rfl,fun _ _=>rfl⟩
      case slice p n cap ex z =>
       simp only at hs' ⊢
       split at hs'
       ·rename_i hu8
        obtain ⟨rfl,hl⟩:=pureCase _ hs'
        refine ⟨rfl,fun h2 hb=>?_⟩
        have hsome:(h1.get p.b).isSome=true:=by
         cases hg:h1.get p.b with
         | some k=>rfl
         | none =>
          exfalso
          unfold absToStr at hl
          simp only [readN_eq,hg] at hl
          cases hl
        have he:=hb (by simp [cls,hu1,hu2]) x p.b (by rw [hx];rfl) hsome
        have:absToStr (.slice p n cap ex z) h2=absToStr (.slice p n cap ex z) h1:=by
         unfold absToStr
         simp only [readN_same he]
        rw [if_pos hu8,this,hl];rfl
       ·cases hs'
      case nilslice =>
       simp only at hs' ⊢
       split at hs'
       ·rename_i hu8;cases hs';exact ⟨rfl,fun _ _=>by rw [if_pos hu8]⟩
       ·cases hs'
      case loose =>
       simp only at hs' ⊢
       split at hs'
       ·rename_i hu8;cases hs';exact ⟨rfl,fun _ _=>by rw [if_pos hu8]⟩
       ·cases hs'
      all_goals cases hs'
     all_goals exact absurd rfl hcl
    all_goals (cases d1 <;> exact absurd rfl hcl)
 case call cl =>
  obtain ⟨ce,args,ats⟩:=cl
  cases ce with
  | value f=>simp [jau] at hcall
  | invoke r n=>simp [jau] at hcall
  | builtin b =>
   have hs':absBuiltin P b ats.toList (args.toList.map ev) h=some (v,h1):=hs
   show h1=h∧∀ h2:AH,_→absBuiltin P b ats.toList (args.toList.map ev) h2=some (v,h2)
   unfold absBuiltin at hs' ⊢
   split at hs'
   ·exact outP _ hs'
   ·exact outP _ hs'
   ·exact absurd rfl hc
   ·exact absurd rfl hc
   ·exact outP _ hs'
   ·exact outP _ hs'
   ·exact outP _ hs'
   ·exact absurd rfl hc
   ·cases hs'
 all_goals exact absurd rfl hc
end Go.Proofs.YtcmhoboglapbdaaDoor.Ev
namespace Go.Proofs.YtcmhoboglapbdaaDoor.Ev
open Go
structure AStep (h h':AH):Prop where
 next:h.next≤h'.next
 low:h'.low≤h.low
 quiet:∀ b,b<h'.low→b<h.next→h'.get b=h.get b
theorem AStep.refl(h:AH):AStep h h:=⟨Nat.le_refl _,Nat.le_refl _,fun _ _ _=>rfl⟩
theorem AStep.trans{a b d:AH}(x:AStep a b)(y:AStep b d):AStep a d :=
 ⟨Nat.le_trans x.next y.next,Nat.le_trans y.low x.low,fun k hk hn=>(y.quiet k hk (Nat.lt_of_lt_of_le hn x.next)).trans (x.quiet k (Nat.lt_of_lt_of_le hk y.low) hn)⟩
theorem AStep.add(h:AH)(k:Blk):AStep h (h.add k):=⟨Nat.le_succ _,Nat.le_refl _,fun b _ hb=>by rw [AH.get_add,if_neg (by omega)]⟩
theorem AStep.write{h h':AH}{a:A}{vs:List V}(hw:writeN h a vs=some h'):AStep h h':=by
 obtain ⟨k,_,_,_,_,_,_,_,rfl⟩:=writeN_inv hw
 refine ⟨Nat.le_refl _,Nat.min_le_left _ _,fun b hb _=>?_⟩
 have h0:Nat.min h.low a.b≤a.b:=Nat.min_le_right h.low a.b
 have hb':b<Nat.min h.low a.b:=hb
 rw [AH.get_set,if_neg (by omega)]
theorem AStep.grow(h:AH)(b:Nat)(k:Blk)(xs:List V):AStep h (h.grow b k xs):=by
 refine ⟨Nat.le_refl _,Nat.min_le_left _ _,fun b' hb _=>?_⟩
 have h0:Nat.min h.low b≤b:=Nat.min_le_right h.low b
 have hb':b'<Nat.min h.low b:=hb
 rw [AH.get_grow,if_neg (by omega)]
theorem AStep.kill(h:AH)(b:Nat)(k:Blk):AStep h (h.kill b k):=by
 refine ⟨Nat.le_refl _,Nat.min_le_left _ _,fun b' hb _=>?_⟩
 have h0:Nat.min h.low b≤b:=Nat.min_le_right h.low b
 have hb':b'<Nat.min h.low b:=hb
 show (h.m.set b _).get b'=_
 rw [T.get_set,if_neg (by omega)]
 rfl
theorem map_self{z:Option V}{h h':AH}{v:V}(hs:(z.map fun v=>(v,h))=some (v,h')):h'=h:=by
 cases z with
 | none=>cases hs
 | some _=>cases hs;rfl
theorem sop_astep{P:Program}{o:Op}{ev:Operand→V}{h h':AH}{v:V}(hs:sop P o ev h=some (v,h')):AStep h h':=by
 have self:∀ z:Option V,(z.map fun v=>(v,h))=some (v,h')→AStep h h':=fun z hz=>by rw [map_self hz];exact AStep.refl h
 unfold sop at hs
 split at hs
 ·cases hs;exact AStep.refl h
 ·cases hs;exact AStep.refl h
 ·split at hs
  ·cases hs;exact AStep.refl h
  ·cases hs
 ·unfold absAlloc at hs;split at hs
  ·cases hs;exact AStep.add _ _
  ·cases hs
 ·unfold absBox at hs;split at hs
  ·cases hs;exact AStep.add _ _
  ·cases hs
 ·exact self _ hs
 ·unfold absBuildSlice at hs
  (repeat' split at hs) <;> first | (cases hs;done) | (cases hs;exact AStep.add _ _)
 ·exact self _ hs
 ·obtain ⟨h1,g1,g2⟩:=map_some hs
  cases g2
  unfold absStore at g1
  (repeat' split at g1) <;> first | (cases g1;done) | exact AStep.write g1
 ·exact self _ hs
 ·exact self _ hs
 ·exact self _ hs
 ·split at hs
  ·cases hs;exact AStep.refl h
  unfold absConvert at hs
  (repeat' split at hs) <;> first | (cases hs;done) | (cases hs;exact AStep.refl h) | exact self _ hs | (cases hs;exact AStep.add _ _)
 ·exact self _ hs
 ·exact self _ hs
 ·exact self _ hs
 ·unfold absMakeSlice at hs
  (repeat' split at hs) <;> first | (cases hs;done) | (cases hs;exact AStep.add _ _)
 ·exact self _ hs
 ·exact self _ hs
 ·exact self _ hs
 ·exact self _ hs
 ·exact self _ hs
 ·exact self _ hs
 ·exact self _ hs
 ·unfold absBuiltin at hs
  split at hs
  ·exact self _ hs
  ·exact self _ hs
  ·rename_i t xt s x _ _
   cases hz:intLike P xt with
   | true =>
    rw [hz] at hs
    change absAppendZ P t s x h=some (v,h') at hs
    unfold absAppendZ at hs
    (repeat' split at hs) <;> first
     | (cases hs;done)
     | (cases hs;exact AStep.refl h)
     | (cases hs;exact AStep.add _ _)
   | false =>
    rw [hz] at hs
    change absAppend P t xt s x h=some (v,h') at hs
    unfold absAppend at hs
    (repeat' split at hs) <;> first
     | (cases hs;done)
     | (cases hs;exact AStep.refl h)
     | (cases hs;exact AStep.add _ _)
     | (cases hs;exact AStep.grow _ _ _ _)
     | (obtain ⟨h1,g1,g2⟩:=map_some hs;cases g2;exact AStep.write g1)
  ·unfold absCopy at hs
   (repeat' split at hs) <;> first
    | (cases hs;done)
    | (cases hs;exact AStep.refl h)
    | (obtain ⟨h1,g1,g2⟩:=map_some hs;cases g2;exact AStep.write g1)
  ·exact self _ hs
  ·exact self _ hs
  ·exact self _ hs
  ·unfold absUnsafeString at hs
   split at hs
   ·split at hs
    ·cases hs;exact AStep.refl h
    ·cases hs
   ·(repeat' split at hs) <;> first
     | (cases hs;done)
     | (cases hs;exact AStep.refl h)
     | (obtain ⟨h1,g1,g2⟩:=map_some hs;cases g2;exact AStep.kill _ _ _)
   ·cases hs
  ·cases hs
 ·cases hs
def CAbs(c:Cfg):Prop:=(∀ f args h v h',c.C f args h=some (v,h')→AStep h h')∧(∀ f args h v h',c.X f args h=some (v,h')→AStep h h')∧HintOK c
theorem callV_astep{c:Cfg}(hA:CAbs c){f:FuncId}{args:List V}{h h':AH}{v:V}(hs:callV c f args h=some (v,h')):AStep h h':=by
 unfold callV at hs
 split at hs
 ·exact hA.1 _ _ _ _ _ hs
 ·exact hA.2.1 _ _ _ _ _ hs
 ·cases hs
theorem quietV_spec{c:Cfg}(hA:CAbs c){f:FuncId}{args:List V}{h h':AH}{v:V}(hs:quietV c f args h=some (v,h')):AStep h h'∧∀ b,b<h.next→h'.get b=h.get b:=by
 unfold quietV at hs
 split at hs
 ·cases hs
 ·rename_i v1 h1 hq
  split at hs
  ·rename_i hl
   cases hs
   have:=callV_astep hA hq
   exact ⟨⟨this.next,Nat.le_refl _,fun b _ hb=>this.quiet b (Nat.lt_of_lt_of_le hb hl) hb⟩,fun b hb=>this.quiet b (Nat.lt_of_lt_of_le hb hl) hb⟩
  ·cases hs
theorem stepV_astep{c:Cfg}(hA:CAbs c){q:Bool}{o:Op}{ev:Operand→V}{h h':AH}{v:V}(hs:jbm c q o ev h=some (v,h')):AStep h h'∧((jau o).isSome=true→q=true→∀ b,b<h.next→h'.get b=h.get b):=by
 unfold jbm at hs
 split at hs
 ·rename_i cl hcl
  split at hs
  ·split at hs
   ·obtain ⟨g1,g2⟩:=quietV_spec hA hs;exact ⟨g1,fun _ _=>g2⟩
   ·rename_i hq;exact ⟨callV_astep hA hs,fun _ hq'=>absurd hq' hq⟩
  ·cases hs
 ·rename_i hcl;exact ⟨sop_astep (conc_some hA.2.2 hs),fun hsome=>by rw [hcl] at hsome;cases hsome⟩
theorem stepV_congr{c:Cfg}{q:Bool}{o:Op}{ev ev':Operand→V}(he:∀ x,x∈o.operands.toList→ev x=ev' x)(h:AH):jbm c q o ev h=jbm c q o ev' h:=by
 have hps:∀ ps:Array (Nat×Operand),(∀ x,x∈(ps.toList.map (·.2))→ev x=ev' x)→(ps.toList.map fun p=>(p.1,ev p.2))=ps.toList.map fun p=>(p.1,ev' p.2):=fun ps hx =>
  List.map_congr_left fun p hp=>by rw [hx p.2 (List.mem_map.2 ⟨p,hp,rfl⟩)]
 have hopt:∀ m:Option Operand,(∀ x,m=some x→ev x=ev' x)→m.map ev=m.map ev':=fun m hx=>by cases m with | none=>rfl | some y=>simp [hx y rfl]
 cases o
 case move x=>simp only [jbm,jau,sop,he x (by simp [Op.operands])]
 case assign x=>simp only [jbm,jau,sop,he x (by simp [Op.operands])]
 case pick a b d=>simp only [jbm,jau,sop,he a (by simp [Op.operands]),he b (by simp [Op.operands]),he d (by simp [Op.operands])]
 case alloc t=>rfl
 case box t x=>simp only [jbm,jau,sop,he x (by simp [Op.operands])]
 case build t ps=>simp only [jbm,jau,sop,hps ps (fun x hx=>he x (by simpa [Op.operands] using hx))]
 case buildSlice t n ps=>simp only [jbm,jau,sop,hps ps (fun x hx=>he x (by simpa [Op.operands] using hx))]
 case load t x=>simp only [jbm,jau,sop,he x (by simp [Op.operands])]
 case store t x y=>simp only [jbm,jau,sop,he x (by simp [Op.operands]),he y (by simp [Op.operands])]
 case nilCheck x=>simp only [jbm,jau,sop,he x (by simp [Op.operands])]
 case binOp op t x y t2=>simp only [jbm,jau,sop,he x (by simp [Op.operands]),he y (by simp [Op.operands])]
 case unOp op t x=>simp only [jbm,jau,sop,he x (by simp [Op.operands])]
 case convert a b x=>simp only [jbm,jau,sop,he x (by simp [Op.operands])]
 case sliceToArrayPointer t x=>simp only [jbm,jau,sop,he x (by simp [Op.operands])]
 case makeInterface t x=>simp only [jbm,jau,sop,he x (by simp [Op.operands])]
 case makeFunc f a b =>
  have h1:a.toList.map ev=a.toList.map ev':=List.map_congr_left fun x hx=>he x (by simp only [Op.operands,Array.toList_append];exact List.mem_append_left _ hx)
  have h2:b.toList.map ev=b.toList.map ev':=List.map_congr_left fun x hx=>he x (by simp only [Op.operands,Array.toList_append];exact List.mem_append_right _ hx)
  simp only [jbm,jau,sop,h1,h2]
 case makeSlice t x y=>simp only [jbm,jau,sop,he x (by simp [Op.operands]),he y (by simp [Op.operands])]
 case slice t x lo hi mx =>
  have h1:=hopt lo (fun y hy=>he y (by subst hy;simp [Op.operands]))
  have h2:=hopt hi (fun y hy=>he y (by subst hy;simp [Op.operands]))
  have h3:=hopt mx (fun y hy=>he y (by subst hy;simp [Op.operands]))
  simp only [jbm,jau,sop,he x (by simp [Op.operands]),h1,h2,h3]
 case fieldAddr t x f=>simp only [jbm,jau,sop,he x (by simp [Op.operands])]
 case field t x f=>simp only [jbm,jau,sop,he x (by simp [Op.operands])]
 case indexAddr t x y=>simp only [jbm,jau,sop,he x (by simp [Op.operands]),he y (by simp [Op.operands])]
 case index t x y=>simp only [jbm,jau,sop,he x (by simp [Op.operands]),he y (by simp [Op.operands])]
 case typeAssert x a b ok=>simp only [jbm,jau,sop,he x (by simp [Op.operands])]
 case extract x i=>simp only [jbm,jau,sop,he x (by simp [Op.operands])]
 case call cl =>
  obtain ⟨ce,args,ats⟩:=cl
  have h1:args.toList.map ev=args.toList.map ev':=List.map_congr_left fun x hx=>he x (by
   simp only [Op.operands,Call.operands,Array.toList_append];exact List.mem_append_right _ hx)
  cases ce with
  | value f=>simp only [jbm,jau,callee,he f (by simp [Op.operands,Call.operands]),h1]
  | invoke r n=>simp only [jbm,jau,callee,he r (by simp [Op.operands,Call.operands]),h1]
  | builtin b=>simp only [jbm,jau,sop,h1]
 all_goals rfl
structure DrawOK (P:Program) (ops:Array Oper) (qs:Nat→Bool) (ord:Nat→Nat→Prop) (lo:Option Nat):Prop where
 edge:∀ j o e,ops[j]?=some o→e∈o.after.toList→Region.binds .any e=true→e.on<j
 closed:∀ i j o,ops[j]?=some o→ord i j→∃ e,e∈o.after.toList∧Region.binds .any e=true∧(i=e.on∨ord i e.on)
 slot:∀ i j oi oj t,ops[i]?=some oi→ops[j]?=some oj→i≠j→oi.dst=some t→(t∈oj.looksAt ops∨oj.dst=some t)→(i<j→ord i j)∧(j<i→ord j i)
 spine:∀ i j oi oj,ops[i]?=some oi→ops[j]?=some oj→i<j→cls P oi.op=2→cls P oj.op=2→lo=some j∨ord i j
 read:∀ i s oi os,ops[i]?=some oi→ops[s]?=some os→i≠s→cls P oi.op≠2→cls P oi.op≠0→cls P os.op=2→¬ord i s→¬ord s i→lo=some s∨((jau os.op).isSome=true∧qs s=true)
 late:∀ j,lo=some j→∃ o t d,ops[j]?=some o∧o.op=.alloc t∧o.guard=none∧o.dst=some d∧∀ k ok,ops[k]?=some ok→k≠j→ok.dst≠some d∧(d∈ok.looksAt ops→j<k∧∀ l ol,ops[l]?=some ol→l<j→cls P ol.op=2→ord l k)
def Trace(c:Cfg)(fo:FO)(N:Nat)(ops:Array Oper)(qs:Nat→Bool)(i:Nat)(fr:fo.F)(h:AH)(fr':fo.F)(h':AH):Prop :=
 ∃ o,ops[i]?=some o∧((wantedV fo ops o fr=some false∧fr'=putF fo N fr o.dst undefV∧h'=h) ∨
  (wantedV fo ops o fr=some true∧∃ v,jbm c (qs i) o.op (evO c fo fr) h=some (v,h')∧fr'=putF fo N fr o.dst v))
theorem trace_of{c:Cfg}{fo:FO}{N:Nat}{ops:Array Oper}{qs:Nat→Bool}{r:V×AH}{k:fo.F→AH→Res}:∀ (m s:Nat) (fr:fo.F) (h:AH),s+m=ops.size→runOps c fo N ops qs (List.range' s m) fr h k=some r →
  ∃ (frs:Nat→fo.F) (hs:Nat→AH),frs s=fr∧hs s=h∧(∀ i,s≤i→i<s+m→Trace c fo N ops qs i (frs i) (hs i) (frs (i+1)) (hs (i+1)))∧k (frs (s+m)) (hs (s+m))=some r:=by
 intro m
 induction m with
 | zero=>intro s fr h _ hrun;exact ⟨fun _=>fr,fun _=>h,rfl,rfl,fun i h1 h2=>by omega,hrun⟩
 | succ m ih =>
  intro s fr h hsz hrun
  rw [List.range'_succ] at hrun
  unfold runOps at hrun
  have hlt:s<ops.size:=by omega
  rw [Array.getElem?_eq_getElem hlt] at hrun
  simp only at hrun
  have go:∀ (fr1:fo.F) (h1:AH),Trace c fo N ops qs s fr h fr1 h1→runOps c fo N ops qs (List.range' (s+1) m) fr1 h1 k=some r →
    (∃ (frs:Nat→fo.F) (hs:Nat→AH),frs s=fr∧hs s=h∧(∀ i,s≤i→i<s+(m+1)→Trace c fo N ops qs i (frs i) (hs i) (frs (i+1)) (hs (i+1)))∧k (frs (s+(m+1))) (hs (s+(m+1)))=some r):=fun fr1 h1 ht hr1=>by
   obtain ⟨frs,hs,e1,e2,e3,e4⟩:=ih (s+1) fr1 h1 (by omega) hr1
   refine ⟨fun i=>if i=s then fr else frs i,fun i=>if i=s then h else hs i,by simp,by simp,?_,?_⟩
   ·intro i hi1 hi2
    by_cases his:i=s
    ·subst his
     simp only [if_true,if_neg (show ¬i+1=i by omega),e1,e2]
     exact ht
    ·simp only [if_neg his,if_neg (show ¬i+1=s by omega)]
     exact e3 i (by omega) (by omega)
   ·simp only [if_neg (show ¬s+(m+1)=s by omega)]
    rw [show s+(m+1)=s+1+m from by omega]
    exact e4
  cases hw:wantedV fo ops ops[s] fr with
  | none=>rw [hw] at hrun;cases hrun
  | some b =>
   rw [hw] at hrun
   cases b with
   | false=>exact go _ _ ⟨ops[s],Array.getElem?_eq_getElem hlt,.inl ⟨hw,rfl,rfl⟩⟩ hrun
   | true =>
    simp only at hrun
    cases hs:jbm c (qs s) ops[s].op (evO c fo fr) h with
    | none=>rw [hs] at hrun;cases hrun
    | some x =>
     obtain ⟨v,h'⟩:=x
     rw [hs] at hrun
     replace hrun:=look_some hrun
     exact go _ _ ⟨ops[s],Array.getElem?_eq_getElem hlt,.inr ⟨hw,v,hs,rfl⟩⟩ hrun
end Go.Proofs.YtcmhoboglapbdaaDoor.Ev
namespace Go.Proofs.YtcmhoboglapbdaaDoor.Ev
open Go
theorem cls_call{P:Program}{o:Op}(h:(jau o).isSome=true):cls P o=2:=by
 unfold jau at h
 split at h
 ·rename_i cl
  obtain ⟨ce,args,ats⟩:=cl
  cases ce with
  | value f=>rfl
  | invoke r n=>rfl
  | builtin b=>cases h
 ·cases h
theorem mem_looks{ops:Array Oper}{o:Oper}{t:Tmp}(h:Operand.tmp t∈o.op.operands.toList):t∈o.looksAt ops:=by
 unfold Oper.looksAt
 rw [List.mem_append]
 refine .inl ?_
 rw [List.mem_filterMap]
 exact ⟨_,h,rfl⟩
theorem mem_guard{ops:Array Oper}{o:Oper}{j:Nat}{b:Bool}{d:Tmp}(h:o.guard=some (j,b))(hd:(ops[j]?).bind (·.dst)=some d):d∈o.looksAt ops:=by
 unfold Oper.looksAt
 rw [List.mem_append]
 refine .inr ?_
 rw [h]
 simp [hd]
section
variable {c:Cfg} {fo:FO} {N:Nat} {ops:Array Oper} {qs:Nat→Bool} {ord:Nat→Nat→Prop} {lo:Option Nat} {frs:Nat→fo.F} {hs:Nat→AH}
theorem get_putF(fr:fo.F)(d:Option Nat)(v:V)(t:Nat)(h:d≠some t):fo.get (putF fo N fr d v) t=fo.get fr t:=by
 cases d with
 | none=>rfl
 | some d =>
  simp only [putF]
  cases Nat.blt d N with
  | false=>rfl
  | true =>
   simp only [cond_true]
   rw [fo.get_set,if_neg (fun e=>h (by rw [e]))]
theorem frame_const(ht:∀ i,i<ops.size→Trace c fo N ops qs i (frs i) (hs i) (frs (i+1)) (hs (i+1)))(t:Nat):∀ (m lo:Nat),lo+m≤ops.size→(∀ i o,lo≤i→i<lo+m→ops[i]?=some o→o.dst≠some t)→fo.get (frs (lo+m)) t=fo.get (frs lo) t:=by
 intro m
 induction m with
 | zero=>intro lo _ _;rfl
 | succ m ih =>
  intro lo hle hno
  rw [← ih lo (by omega) (fun i o h1 h2 h3=>hno i o h1 (by omega) h3),show lo+(m+1)=lo+m+1 from by omega]
  obtain ⟨o,ho,hh⟩:=ht (lo+m) (by omega)
  have hd:=hno (lo+m) o (by omega) (by omega) ho
  rcases hh with ⟨_,e,_⟩ | ⟨_,v,_,e⟩ <;> rw [e] <;> exact get_putF _ _ _ _ hd
theorem heap_const(hH:HintOK c)(ht:∀ i,i<ops.size→Trace c fo N ops qs i (frs i) (hs i) (frs (i+1)) (hs (i+1))):∀ (m lo:Nat),lo+m≤ops.size→(∀ i o,lo≤i→i<lo+m→ops[i]?=some o→cls c.P o.op≠2)→hs (lo+m)=hs lo:=by
 intro m
 induction m with
 | zero=>intro lo _ _;rfl
 | succ m ih =>
  intro lo hle hno
  rw [← ih lo (by omega) (fun i o h1 h2 h3=>hno i o h1 (by omega) h3),show lo+(m+1)=lo+m+1 from by omega]
  obtain ⟨o,ho,hh⟩:=ht (lo+m) (by omega)
  have hc:=hno (lo+m) o (by omega) (by omega) ho
  rcases hh with ⟨_,_,e⟩ | ⟨_,v,e,_⟩
  ·exact e
  ·have hcall:jau o.op=none:=by
    cases hi:jau o.op with
    | none=>rfl
    | some cl=>exact absurd (cls_call (by rw [hi];rfl)) hc
   unfold jbm at e
   rw [hcall] at e
   exact (loud_same hc hcall (conc_some hH e)).1
theorem alloc_step(hH:HintOK c){o:Oper}{ty:TypeId}{q:Bool}{ev:Operand→V}{h h':AH}{v:V}(hop:o.op=.alloc ty)(hs:jbm c q o.op ev h=some (v,h')):∃ k,h'=h.add k∧∃ zs,zeroOf c.P ty=some zs∧k=⟨Arr.make zs.length zs,0,0,false,ty⟩∧v=.ptr ⟨h.next,zs.length,0⟩:=by
 rw [hop] at hs
 have h1:conc (c.hint (.alloc ty)) (absAlloc c.P ty h)=some (v,h'):=hs
 have h2:=conc_some hH h1
 unfold absAlloc at h2
 split at h2
 ·rename_i zs hz
  cases h2
  exact ⟨_,rfl,zs,hz,rfl,rfl⟩
 ·cases h2
theorem adopt_sound{ρ:Rho}{h:AH}{w:World}(hr:HR ρ h w)(k:Blk)(C:Array Value)(lo hi cb:Nat)(hcb:cb<w.heap.size)(hheap:w.heap[cb]?=some (.cells C k.e (lo,hi)))(hfree:∀ b L x,ρ b L≠some (cb,x))
  (hn:k.cells.n≤C.size) (hc:∀ j v,k.cells.get j=some v→∃ u,C[j]?=some u∧R ρ v u) (hf:∀ i,k.fz≤i→i<C.size→¬(lo≤i∧i<hi)) (hlh:lo≤hi) :
  ∃ ρ',ρ.le ρ'∧HR ρ' (h.add k) w∧(∀ b L c x,ρ' b L=some (c,x)→c=cb∨ρ b L=some (c,x))∧ρ' h.next k.cells.n=some (cb,0,C.size):=by
 have hno:∀ L y,ρ h.next L=some y→False:=fun L y hy=>absurd (hr.fresh _ _ _ hy) (Nat.lt_irrefl _)
 have hle:ρ.le (ρ.put h.next k.cells.n (cb,0,C.size)):=Rho.le_put (hno _)
 refine ⟨ρ.put h.next k.cells.n (cb,0,C.size),hle,⟨?_,?_,?_,?_,?_,?_⟩,?_,Rho.put_same _ _ _ _⟩
 ·intro b L x hx
  rcases Rho.put_inv hx with ⟨rfl,_⟩ | hx
  ·exact Nat.lt_succ_self _
  ·exact Nat.lt_succ_of_lt (hr.fresh _ _ _ hx)
 ·intro b k' hk'
  rw [AH.get_add] at hk'
  by_cases hb:b=h.next
  ·subst hb;exact Nat.lt_succ_self _
  ·rw [if_neg hb] at hk';exact Nat.lt_succ_of_lt (hr.lives _ _ hk')
 ·intro b L cb' x hx
  rcases Rho.put_inv hx with ⟨_,_,hy⟩ | hx
  ·cases hy;exact hcb
  ·exact hr.bound _ _ _ _ hx
 ·intro b L b' L' cb' x x' k' hx hx' hk' hro'
  rcases Rho.put_inv hx with ⟨e1,e2,hy⟩ | gx <;> rcases Rho.put_inv hx' with ⟨e1',e2',hy'⟩ | gx'
  ·cases hy;cases hy';exact ⟨e1.trans e1'.symm,rfl⟩
  ·cases hy;exact absurd gx' (hfree _ _ _)
  ·cases hy';exact absurd gx (hfree _ _ _)
  ·rw [AH.get_add,if_neg (by have:=hr.fresh _ _ _ gx;omega)] at hk'
   exact hr.inj _ _ _ _ _ _ _ _ gx gx' hk' hro'
 ·intro b k' L x hk' hx
  rw [AH.get_add] at hk'
  by_cases hb:b=h.next
  ·subst hb;rw [if_pos rfl] at hk';cases hk'
   rcases Rho.put_inv hx with ⟨_,rfl,_⟩ | hx
   ·exact Nat.le_refl _
   ·exact absurd hx (fun hh=>hno _ _ hh)
  ·rw [if_neg hb] at hk'
   rcases Rho.put_inv hx with ⟨rfl,_⟩ | hx
   ·exact absurd rfl hb
   ·exact hr.top _ _ _ _ hk' hx
 ·intro b k' L cb' sh S hk' hx hm
  rw [AH.get_add] at hk'
  by_cases hb:b=h.next
  ·subst hb;rw [if_pos rfl] at hk';cases hk'
   rcases Rho.put_inv hx with ⟨_,rfl,hy⟩ | hx
   ·cases hy
    refine ⟨C,lo,hi,hheap,rfl,by omega,?_,fun _=>⟨fun i hi1 hi2=>hf i (by omega) hi2,hlh,Int.le_refl _⟩⟩
    intro j v _ _ hv
    obtain ⟨u,hu,hR⟩:=hc j v hv
    exact ⟨u,by simpa using hu,hR.mono hle⟩
   ·exact absurd hx (fun hh=>hno _ _ hh)
  ·rw [if_neg hb] at hk'
   rcases Rho.put_inv hx with ⟨rfl,_⟩ | hx
   ·exact absurd rfl hb
   ·exact (hr.blk _ _ _ _ _ _ hk' hx hm).mono hle rfl
 ·intro b L c' x hx
  rcases Rho.put_inv hx with ⟨_,_,hy⟩ | hx
  ·cases hy;exact .inl rfl
  ·exact .inr hx
theorem HR.add_alone{ρ:Rho}{h:AH}{w:World}(hr:HR ρ h w)(k:Blk):HR ρ (h.add k) w:=by
 have hno:∀ b L y,ρ b L=some y→b≠h.next:=fun b L y hy e=>by have:=hr.fresh _ _ _ hy;omega
 refine ⟨fun b L x hx=>Nat.lt_succ_of_lt (hr.fresh _ _ _ hx),?_,hr.bound,?_,?_,?_⟩
 ·intro b k' hk'
  rw [AH.get_add] at hk'
  by_cases hb:b=h.next
  ·subst hb;exact Nat.lt_succ_self _
  ·rw [if_neg hb] at hk';exact Nat.lt_succ_of_lt (hr.lives _ _ hk')
 ·intro b L b' L' cb x x' k' hx hx' hk'
  rw [AH.get_add,if_neg (hno _ _ _ hx)] at hk'
  exact hr.inj _ _ _ _ _ _ _ _ hx hx' hk'
 ·intro b k' L x hk' hx
  rw [AH.get_add,if_neg (hno _ _ _ hx)] at hk'
  exact hr.top _ _ _ _ hk' hx
 ·intro b k' L cb sh S hk' hx
  rw [AH.get_add,if_neg (hno _ _ _ hx)] at hk'
  exact hr.blk _ _ _ _ _ _ hk' hx
theorem HR.push{ρ:Rho}{h:AH}{w w':World}(hr:HR ρ h w){x:Obj}(hw:w'.heap=w.heap.push x):HR ρ h w':=by
 have hold:∀ i,i<w.heap.size→w'.heap[i]?=w.heap[i]?:=fun i hi=>by rw [hw,Array.getElem?_push,if_neg (by omega)]
 refine ⟨hr.fresh,hr.lives,fun b L cb y hy=>by have:=hr.bound _ _ _ _ hy;rw [hw,Array.size_push];omega,hr.inj,hr.top,fun b k L cb sh S h1 h2 h3=>(hr.blk b k L cb sh S h1 h2 h3).mono (Rho.le_refl ρ) (hold _ (hr.bound _ _ _ _ h2))⟩
theorem Step.push{ρ0 ρ:Rho}{h0 h:AH}{w0 w w':World}(hs:Step ρ0 h0 w0 ρ h w){x:Obj}(hw:w'.heap=w.heap.push x)(e1:w'.os=w.os)(e2:w'.tape=w.tape)(e3:w'.output=w.output):Step ρ0 h0 w0 ρ h w':=by
 refine ⟨hs.le,hs.cons,hs.ro,hs.next,e1.trans hs.os,e2.trans hs.tape,e3.trans hs.output,by rw [hw,Array.size_push];have:=hs.size;omega,fun i hi hn=>?_,hs.lowle,hs.quiet⟩
 rw [hw,Array.getElem?_push,if_neg (by have:=hs.size;omega)]
 exact hs.keep i hi hn
theorem Step.adopt{ρ0 ρ ρ':Rho}{h0 h:AH}{w0 w:World}(hr0:HR ρ0 h0 w0)(hs:Step ρ0 h0 w0 ρ h w)(k:Blk)(hle:ρ.le ρ')(hc:∀ b L c x,ρ' b L=some (c,x)→c<w0.heap.size→ρ b L=some (c,x)):Step ρ0 h0 w0 ρ' (h.add k) w:=by
 refine ⟨Rho.le_trans hs.le hle,fun b L cb x hx hlt=>hs.cons b L cb x (hc b L cb x hx hlt) hlt,?_,Nat.le_trans hs.next (Nat.le_succ _),hs.os,hs.tape,hs.output,hs.size,hs.keep,hs.lowle,?_⟩
 ·intro b k' hk' hb
  have:=hs.next
  rw [AH.get_add,if_neg (by omega)] at hk'
  exact hs.ro b k' hk' hb
 ·intro b hb hn
  have:=hs.next
  rw [AH.get_add,if_neg (by omega)]
  exact hs.quiet b hb hn
def Pd(c:Cfg)(ρ:Rho)(w0:World)(ty:TypeId)(u:Value)(w:World):Prop :=
 ∃ cb i z,u=.pointer (some ⟨cb,0,none⟩)∧w0.heap.size≤cb∧cb<w.heap.size∧c.P.info? ty=some i∧i.zero=some z∧w.heap[cb]?=some (.cells z.cells ty)∧∀ b L x,ρ b L≠some (cb,x)
theorem Pd.step{c:Cfg}{ρ ρ':Rho}{w0 w w':World}{ty:TypeId}{u:Value}{h h':AH}(hp:Pd c ρ w0 ty u w)(hs:Step ρ h w ρ' h' w'):Pd c ρ' w0 ty u w':=by
 obtain ⟨cb,i,z,h1,h2,h3,h4,h5,h6,h7⟩:=hp
 refine ⟨cb,i,z,h1,h2,Nat.lt_of_lt_of_le h3 hs.size,h4,h5,?_,fun b L x hx=>?_⟩
 ·rw [hs.keep cb h3 ?_]
  ·exact h6
  ·rintro ⟨b,L,x,k,hx,_⟩
   exact h7 b L x hx
 ·obtain ⟨L0,x0,h0⟩:=hs.cons b L cb x hx h3
  exact h7 b L0 x0 h0
theorem heap_quiet(hA:CAbs c)(ht:∀ i,i<ops.size→Trace c fo N ops qs i (frs i) (hs i) (frs (i+1)) (hs (i+1))):∀ (m lo:Nat),lo+m≤ops.size→(∀ i o,lo≤i→i<lo+m→ops[i]?=some o→cls c.P o.op=2→((jau o.op).isSome=true∧qs i=true)∨∃ ty,o.op=.alloc ty) →
  (hs lo).next≤(hs (lo+m)).next∧∀ b,b<(hs lo).next→(hs (lo+m)).get b=(hs lo).get b:=by
 intro m
 induction m with
 | zero=>intro lo _ _;exact ⟨Nat.le_refl _,fun _ _=>rfl⟩
 | succ m ih =>
  intro lo hle hno
  obtain ⟨h1,h2⟩:=ih lo (by omega) (fun i o h1 h2 h3=>hno i o h1 (by omega) h3)
  rw [show lo+(m+1)=lo+m+1 from by omega]
  obtain ⟨o,ho,hh⟩:=ht (lo+m) (by omega)
  have key:(hs (lo+m)).next≤(hs (lo+m+1)).next∧∀ b,b<(hs (lo+m)).next→(hs (lo+m+1)).get b=(hs (lo+m)).get b:=by
   rcases hh with ⟨_,_,e⟩ | ⟨_,v,e,_⟩
   ·rw [e];exact ⟨Nat.le_refl _,fun _ _=>rfl⟩
   ·by_cases hc:cls c.P o.op=2
    ·obtain ⟨q1,q2⟩:=stepV_astep hA e
     rcases hno (lo+m) o (by omega) (by omega) ho hc with ⟨g1,g2⟩ | ⟨ty,hty⟩
     ·exact ⟨q1.next,q2 g1 g2⟩
     ·refine ⟨q1.next,fun b hb=>?_⟩
      obtain ⟨k,hk,_⟩:=alloc_step hA.2.2 hty e
      rw [hk,AH.get_add,if_neg (by omega)]
    ·have hcall:jau o.op=none:=by
      cases hi:jau o.op with
      | none=>rfl
      | some cl=>exact absurd (cls_call (by rw [hi];rfl)) hc
     unfold jbm at e
     rw [hcall] at e
     rw [(loud_same hc hcall (conc_some hA.2.2 e)).1]
     exact ⟨Nat.le_refl _,fun _ _=>rfl⟩
  exact ⟨Nat.le_trans h1 key.1,fun b hb=>(key.2 b (Nat.lt_of_lt_of_le hb h1)).trans (h2 b hb)⟩
def Waits(c:Cfg)(N:Nat)(ops:Array Oper)(lo:Option Nat)(w0:World)(listed:Array Bool)(a:Act)(w:World)(ρ:Rho)(p t:Nat):Prop :=
 ∃ j o ty,lo=some j∧ops[j]?=some o∧o.op=.alloc ty∧o.dst=some t∧p≤j∧listed.getD j false=true∧t<N∧Pd c ρ w0 ty (a.tmps.getD t undef) w
structure DInv (c:Cfg) (fo:FO) (N:Nat) (ops:Array Oper) (ord:Nat→Nat→Prop) (lo:Option Nat) (frs:Nat→fo.F) (hs:Nat→AH) (ρ0:Rho) (h0:AH) (w0:World) (listed:Array Bool) (a:Act) (w:World) (ρ:Rho) (p:Nat):Prop where
 size:listed.size=ops.size
 down:∀ i j,listed.getD j false=true→ord i j→listed.getD i false=true
 ple:p≤ops.size
 spine:∀ i o,ops[i]?=some o→cls c.P o.op=2→lo≠some i→(listed.getD i false=true↔i<p)
 slate:∀ j,lo=some j→j<p→listed.getD j false=true
 heap:HR ρ (hs p) w
 step:Step ρ0 h0 w0 ρ (hs p) w
 gok:GOK c ρ
 lives:∀ q,q≤p→∀ b k,(hs q).get b=some k→b<(hs q).next
 slots:∀ t:Nat,∃ d,d≤ops.size∧(∀ i o,ops[i]?=some o→o.dst=some t→(listed.getD i false=true↔i<d))∧(R ρ (fo.get (frs d) t) (a.tmps.getD t undef)∨Waits c N ops lo w0 listed a w ρ p t)
 tmps:a.tmps.size=N
 defers:a.defers=[]
theorem jbo(l:Array Bool)(i j:Nat)(hi:i<l.size):(l.setIfInBounds i true).getD j false=if j=i then true else l.getD j false:=by
 simp only [Array.getD_eq_getD_getElem?,Array.getElem?_setIfInBounds]
 by_cases h:j=i
 ·subst h;simp [hi]
 ·rw [if_neg h,if_neg (fun e=>h e.symm)]
theorem ready_iff{listed:Array Bool}(hsz:listed.size=ops.size){i:Nat}:i∈Region.ready .any ops listed↔i<ops.size∧listed.getD i false=false∧∀ o,ops[i]?=some o→∀ e,e∈o.after.toList→Region.binds .any e=true→listed.getD e.on false=true:=by
 unfold Region.ready
 rw [List.mem_filter,List.mem_range]
 constructor
 ·rintro ⟨h1,h2⟩
  simp only [Bool.and_eq_true,Bool.not_eq_true'] at h2
  refine ⟨h1,?_,?_⟩
  ·have h3:=h2.1
   rw [Array.getD_eq_getD_getElem?,Array.getElem?_eq_getElem (by omega),Option.getD_some] at h3
   rw [Array.getD_eq_getD_getElem?,Array.getElem?_eq_getElem (by omega),Option.getD_some]
   exact h3
  ·intro o ho e he hb
   have h3:=h2.2
   rw [ho] at h3
   simp only [Option.map_some,Option.getD_some] at h3
   rw [← Array.all_toList,List.all_eq_true] at h3
   have:=h3 e he
   simpa [hb] using this
 ·rintro ⟨h1,h2,h3⟩
  refine ⟨h1,?_⟩
  simp only [Bool.and_eq_true,Bool.not_eq_true']
  constructor
  ·rw [Array.getD_eq_getD_getElem?,Array.getElem?_eq_getElem (by omega),Option.getD_some] at h2
   rw [Array.getD_eq_getD_getElem?,Array.getElem?_eq_getElem (by omega),Option.getD_some]
   exact h2
  ·rw [Array.getElem?_eq_getElem h1]
   simp only [Option.map_some,Option.getD_some]
   rw [← Array.all_toList,List.all_eq_true]
   intro e he
   cases hb:Region.binds .any e with
   | false=>rfl
   | true=>simpa using h3 ops[i] (Array.getElem?_eq_getElem h1) e he hb
theorem ord_lt{P:Program}(hd:DrawOK P ops qs ord lo):∀ (j i:Nat),j<ops.size→ord i j→i<j:=by
 intro j
 induction j using Nat.strongRecOn with
 | _ j ih =>
  intro i hj hord
  obtain ⟨e,he,hb,hor⟩:=hd.closed i j ops[j] (Array.getElem?_eq_getElem hj) hord
  have hlt:=hd.edge j ops[j] e (Array.getElem?_eq_getElem hj) he hb
  rcases hor with rfl | hor
  ·exact hlt
  ·have:=ih e.on hlt i (by omega) hor
   omega
theorem all_listed{P:Program}(hd:DrawOK P ops qs ord lo){listed:Array Bool}(hsz:listed.size=ops.size)(hr:Region.ready .any ops listed=[]):∀ i,i<ops.size→listed.getD i false=true:=by
 intro i
 induction i using Nat.strongRecOn with
 | _ i ih =>
  intro hi
  cases hl:listed.getD i false with
  | true=>rfl
  | false =>
   exfalso
   have:i∈Region.ready .any ops listed:=(ready_iff hsz).2 ⟨hi,hl,fun o ho e he hb=>by
    have hlt:=hd.edge i o e ho he hb
    exact ih e.on hlt (by omega)⟩
   rw [hr] at this
   cases this
theorem frame_at{P:Program}(hd:DrawOK P ops qs ord lo)(ht:∀ i,i<ops.size→Trace c fo N ops qs i (frs i) (hs i) (frs (i+1)) (hs (i+1))){listed:Array Bool}(hdown:∀ i j,listed.getD j false=true→ord i j→listed.getD i false=true){i:Nat}{o:Oper}(hi:i<ops.size)(ho:ops[i]?=some o)(hnl:listed.getD i false=false)
  (hpre:∀ x,ord x i→listed.getD x false=true) {t d:Nat} (hlook:t∈o.looksAt ops) (hdle:d≤ops.size) (hdw:∀ x ox,ops[x]?=some ox→ox.dst=some t→(listed.getD x false=true↔x<d)):fo.get (frs d) t=fo.get (frs i) t:=by
 have hwr:∀ x ox,ops[x]?=some ox→ox.dst=some t→(x<i→x<d)∧(i≤x→d≤x):=by
  intro x ox hx hdst
  by_cases hxi:x=i
  ·subst hxi
   refine ⟨fun h=>absurd h (Nat.lt_irrefl _),fun _=>?_⟩
   have h2:=(hdw x ox hx hdst)
   rw [hnl] at h2
   have:¬x<d:=fun h=>by have:=h2.2 h;cases this
   omega
  ·obtain ⟨s1,s2⟩:=hd.slot x i ox o t hx ho hxi hdst (.inl hlook)
   refine ⟨fun h=>(hdw x ox hx hdst).1 (hpre x (s1 h)),fun h=>?_⟩
   have hlt:i<x:=by omega
   rcases Nat.lt_or_ge x d with hxd | hxd
   ·have:=hdown i x ((hdw x ox hx hdst).2 hxd) (s2 hlt)
    rw [hnl] at this;cases this
   ·exact hxd
 rcases Nat.le_total d i with hle | hle
 ·have:=frame_const ht t (i-d) d (by omega) (fun x ox h1 h2 h3 h4=>by have:=(hwr x ox h3 h4).1 (by omega);omega)
  rw [show d+(i-d)=i from by omega] at this
  exact this.symm
 ·have:=frame_const ht t (d-i) i (by omega) (fun x ox h1 h2 h3 h4=>by have:=(hwr x ox h3 h4).2 (by omega);omega)
  rw [show i+(d-i)=d from by omega] at this
  exact this
theorem slot_out(ht:∀ i,i<ops.size→Trace c fo N ops qs i (frs i) (hs i) (frs (i+1)) (hs (i+1))){t:Nat}(htn:¬t<N):∀ m,m≤ops.size→fo.get (frs m) t=fo.get (frs 0) t:=by
 intro m
 induction m with
 | zero=>intro _;rfl
 | succ m ihm =>
  intro hm
  rw [← ihm (by omega)]
  obtain ⟨om,hom,hhm⟩:=ht m (by omega)
  have hput:∀ vv:V,fo.get (putF fo N (frs m) om.dst vv) t=fo.get (frs m) t:=by
   intro vv
   by_cases he:om.dst=some t
   ·rw [he]
    unfold putF
    simp only [Arr.blt_eq,htn,decide_false,cond_false]
   ·exact get_putF _ _ _ _ he
  rcases hhm with ⟨_,e,_⟩ | ⟨_,vv,_,e⟩ <;> rw [e] <;> exact hput _
theorem Waits.later{w0 w:World}{listed:Array Bool}{a:Act}{ρ:Rho}{p q t:Nat}(hw:Waits c N ops lo w0 listed a w ρ p t)(hq:∀ j,lo=some j→p≤j→q≤j):Waits c N ops lo w0 listed a w ρ q t:=by
 obtain ⟨j,o,ty,h1,h2,h3,h4,h5,h6⟩:=hw
 exact ⟨j,o,ty,h1,h2,h3,h4,hq j h1 h5,h6⟩
theorem commit1(hA:CAbs c)(hd:DrawOK c.P ops qs ord lo)(ht:∀ i,i<ops.size→Trace c fo N ops qs i (frs i) (hs i) (frs (i+1)) (hs (i+1))){ρ0:Rho}{h0:AH}{w0:World}(hr0:HR ρ0 h0 w0){listed:Array Bool}{a:Act}{w:World}{ρ:Rho}{p:Nat}
  (inv:DInv c fo N ops ord lo frs hs ρ0 h0 w0 listed a w ρ p) (hp:p<ops.size) (hl:∀ o,ops[p]?=some o→cls c.P o.op=2→listed.getD p false=true):∃ ρ',DInv c fo N ops ord lo frs hs ρ0 h0 w0 listed a w ρ' (p+1):=by
 obtain ⟨o,ho,hcase⟩:=ht p hp
 by_cases hcl:cls c.P o.op=2
 ·have hlp:=hl o ho hcl
  by_cases hlo:lo=some p
  ·obtain ⟨o',ty,d,ho',hop,hgd,hdst,hnm⟩:=hd.late p hlo
   rw [ho] at ho'
   cases ho'
   rcases hcase with ⟨hw,_⟩ | ⟨_,v,hstep,hfr⟩
   ·unfold wantedV at hw
    rw [hgd] at hw
    cases hw
   ·obtain ⟨k,hk,zs,hz,rfl,rfl⟩:=alloc_step hA.2.2 hop hstep
    obtain ⟨q1,q2⟩:=stepV_astep hA hstep
    have hval:∀ t d',o.dst=some t→t<N→p<d'→d'≤ops.size→fo.get (frs d') t=.ptr ⟨(hs p).next,zs.length,0⟩:=by
     intro t d' hdt htn hpd d1
     rw [hdst] at hdt
     cases hdt
     have hfc:=frame_const (fo:=fo) ht d (d'-(p+1)) (p+1) (by omega) (fun x ox h1 h2 hx=>(hnm x ox hx (by omega)).1)
     rw [show p+1+(d'-(p+1))=d' from by omega] at hfc
     rw [hfc,hfr,hdst]
     unfold putF
     simp only [Arr.blt_eq,htn,decide_true,cond_true,fo.get_set,if_true]
    have common:∀ ρ',ρ.le ρ'→HR ρ' (hs (p+1)) w→Step ρ0 h0 w0 ρ' (hs (p+1)) w→(d<N→R ρ' (.ptr ⟨(hs p).next,zs.length,0⟩) (a.tmps.getD d undef))→∃ ρ',DInv c fo N ops ord lo frs hs ρ0 h0 w0 listed a w ρ' (p+1):=by
     intro ρ' hle hH hS hdR
     refine ⟨ρ',inv.size,inv.down,hp,?_,?_,hH,hS,inv.gok.mono hle,?_,?_,inv.tmps,inv.defers⟩
     ·intro i oi hi hc hne
      rw [inv.spine i oi hi hc hne]
      constructor
      ·intro h;omega
      ·intro h
       have:i≠p:=fun e=>hne (by rw [e];exact hlo)
       omega
     ·intro j hj hlt
      rw [hlo] at hj
      cases hj
      exact hlp
     ·intro q hq b kk hb
      by_cases hqp:q≤p
      ·exact inv.lives q hqp b kk hb
      ·obtain rfl:q=p+1:=by omega
       exact hH.lives b kk hb
     ·intro t
      obtain ⟨d',d1,d2,d3⟩:=inv.slots t
      refine ⟨d',d1,d2,.inl ?_⟩
      by_cases htd:t=d
      ·subst htd
       by_cases htn:t<N
       ·have hpd:p<d':=(d2 p o ho hdst).1 hlp
        rw [hval t d' hdst htn hpd d1]
        exact hdR htn
       ·rcases d3 with d3 | ⟨_,_,_,_,_,_,_,_,_,htn',_⟩
        ·exact d3.mono hle
        ·exact absurd htn' htn
      ·rcases d3 with d3 | ⟨j,oj,ty',h1,h2,h3,h4,h5,h6,h7,h8⟩
       ·exact d3.mono hle
       ·rw [hlo] at h1
        cases h1
        rw [ho] at h2
        cases h2
        rw [hdst] at h4
        cases h4
        exact absurd rfl htd
    have alone:(d<N→R ρ (.ptr ⟨(hs p).next,zs.length,0⟩) (a.tmps.getD d undef))→∃ ρ',DInv c fo N ops ord lo frs hs ρ0 h0 w0 listed a w ρ' (p+1):=fun hdR =>
     common ρ (Rho.le_refl ρ) (by rw [hk];exact inv.heap.add_alone _) (by rw [hk];exact inv.step.adopt hr0 _ (Rho.le_refl ρ) (fun _ _ _ _ h _=>h)) hdR
    obtain ⟨d',d1,d2,d3⟩:=inv.slots d
    have hpd:p<d':=(d2 p o ho hdst).1 hlp
    rcases d3 with d3 | ⟨j,oj,ty',i1,i2,i3,i4,i5,i6,i7,i8⟩
    ·exact alone fun hdn=>by rw [← hval d d' hdst hdn hpd d1];exact d3
    ·rw [hlo] at i1
     cases i1
     rw [ho] at i2
     cases i2
     rw [hop] at i3
     cases i3
     obtain ⟨cb,ti,z,j1,j2,j3,j4,j5,j6,j7⟩:=i8
     obtain ⟨ti',z',hi',hz',hR,_,hc,_,_⟩:=jce hz ρ
     rw [j4] at hi'
     cases hi'
     rw [j5] at hz'
     cases hz'
     have hlen:zs.length=z.cells.size:=by simpa using hR.length
     obtain ⟨ρ',g1,g2,g3,g4⟩:=adopt_sound inv.heap ⟨Arr.make zs.length zs,0,0,false,ty⟩ z.cells 0 0 cb j3 j6 j7 (by simp [hlen]) (fun j v hv=>by
      simp only [Arr.get_make] at hv
      split at hv
      ·rename_i hj
       rw [Nat.mod_eq_of_lt hj] at hv
       obtain ⟨u,hu,hRu⟩:=hR.get hv
       rw [Array.getElem?_toList] at hu
       exact ⟨u,hu,hRu⟩
      ·cases hv) (fun i _ _=>by omega) (Nat.le_refl 0)
     refine common ρ' g1 (by rw [hk];exact g2) (by rw [hk];exact inv.step.adopt hr0 _ g1 (fun b L cc x hx hlt=>(g3 b L cc x hx).resolve_left (by omega))) fun _=>?_
     rw [j1]
     rw [Arr.make_n] at g4
     exact ⟨_,rfl,cb,0,z.cells.size,g4,Int.le_refl _,rfl⟩
  ·have:=(inv.spine p o ho hcl hlo).1 hlp
   omega
 ·have hsame:hs (p+1)=hs p:=by
   have:=heap_const hA.2.2 ht 1 p (by omega) (fun x ox h1 h2 hx=>by
    obtain rfl:x=p:=by omega
    rw [ho] at hx
    cases hx
    exact hcl)
   exact this
  refine ⟨ρ,inv.size,inv.down,hp,?_,?_,by rw [hsame];exact inv.heap,by rw [hsame];exact inv.step,inv.gok,?_,?_,inv.tmps,inv.defers⟩
  ·intro i oi hi hc hne
   rw [inv.spine i oi hi hc hne]
   constructor
   ·intro h;omega
   ·intro h
    have:i≠p:=fun e=>by subst e;rw [ho] at hi;cases hi;exact hcl hc
    omega
  ·intro j hj hlt
   have:j≠p:=fun e=>by
    subst e
    obtain ⟨o',ty,d,ho',hop,_⟩:=hd.late j hj
    rw [ho] at ho'
    cases ho'
    exact hcl (by rw [hop];rfl)
   exact inv.slate j hj (by omega)
  ·intro q hq b kk hb
   by_cases hqp:q≤p
   ·exact inv.lives q hqp b kk hb
   ·obtain rfl:q=p+1:=by omega
    rw [hsame] at hb ⊢
    exact inv.lives p (Nat.le_refl _) b kk hb
  ·intro t
   obtain ⟨d',d1,d2,d3⟩:=inv.slots t
   refine ⟨d',d1,d2,d3.imp (fun h=>h) fun hw=>hw.later fun j hj hpj=>?_⟩
   have:j≠p:=fun e=>by
    subst e
    obtain ⟨o',ty,d,ho',hop,_⟩:=hd.late j hj
    rw [ho] at ho'
    cases ho'
    exact hcl (by rw [hop];rfl)
   omega
theorem commit(hA:CAbs c)(hd:DrawOK c.P ops qs ord lo)(ht:∀ i,i<ops.size→Trace c fo N ops qs i (frs i) (hs i) (frs (i+1)) (hs (i+1))){ρ0:Rho}{h0:AH}{w0:World}(hr0:HR ρ0 h0 w0){listed:Array Bool}{a:Act}{w:World}:∀ (m:Nat) {ρ:Rho} {p:Nat},
  DInv c fo N ops ord lo frs hs ρ0 h0 w0 listed a w ρ p→p+m≤ops.size→(∀ x o,ops[x]?=some o→x<p+m→cls c.P o.op=2→listed.getD x false=true)→∃ ρ',DInv c fo N ops ord lo frs hs ρ0 h0 w0 listed a w ρ' (p+m):=by
 intro m
 induction m with
 | zero=>intro ρ p inv _ _;exact ⟨ρ,inv⟩
 | succ m ih =>
  intro ρ p inv hp hl
  obtain ⟨ρ1,inv1⟩:=commit1 hA hd ht hr0 inv (by omega) (fun o ho hc=>hl p o ho (by omega) hc)
  obtain ⟨ρ2,inv2⟩:=ih inv1 (by omega) (fun x o ho hx hc=>hl x o ho (by omega) hc)
  exact ⟨ρ2,by rw [show p+(m+1)=p+1+m by omega];exact inv2⟩
theorem commit_to(hA:CAbs c)(hd:DrawOK c.P ops qs ord lo)(ht:∀ i,i<ops.size→Trace c fo N ops qs i (frs i) (hs i) (frs (i+1)) (hs (i+1))){ρ0:Rho}{h0:AH}{w0:World}(hr0:HR ρ0 h0 w0){listed:Array Bool}{a:Act}{w:World}{q:Nat}{ρ:Rho}{p:Nat}
  (inv:DInv c fo N ops ord lo frs hs ρ0 h0 w0 listed a w ρ p) (hpq:p≤q) (hq:q≤ops.size) (hl:∀ x o,ops[x]?=some o→x<q→cls c.P o.op=2→listed.getD x false=true):∃ ρ',DInv c fo N ops ord lo frs hs ρ0 h0 w0 listed a w ρ' q:=by
 have:=commit hA hd ht hr0 (q-p) inv (by omega) (fun x o ho hx hc=>hl x o ho (by omega) hc)
 rw [show p+(q-p)=q by omega] at this
 exact this
theorem alloc_run{P:Program}{o:Oper}{ty:TypeId}{z:Value}(hop:o.op=.alloc ty)(hrun:∀ w,(zeroValue ty).run P w=.ok z w){f:Operand→Value}{w:World}:(execOp f o).run P w=.ok (.value (.pointer (some ⟨w.heap.size,0,none⟩))) { w with heap:=w.heap.push (.cells z.cells ty) }:=by
 obtain ⟨dst,op,t,pos,after,guard⟩:=o
 simp only at hop
 subst hop
 simp [execOp,Instr.alloc,hrun,newVar,jcc]
theorem draw_wp(hC:CSound c)(hX:XSound c)(hA:CAbs c)(hd:DrawOK c.P ops qs ord lo)(ht:∀ i,i<ops.size→Trace c fo N ops qs i (frs i) (hs i) (frs (i+1)) (hs (i+1))){Q:Exit→Act→World→Prop}{r:V×AH}{k:fo.F→AH→Res}(hk:k (frs ops.size) (hs ops.size)=some r)
  {ρ0:Rho} {h0:AH} {w0:World} (hr0:HR ρ0 h0 w0) (hp:Post c fo N ρ0 h0 w0 r k (Q .normal)):∀ (fuel:Nat) (listed:Array Bool) (a:Act) (w:World) (ρ:Rho) (p:Nat),
  (listed.toList.filter (·==false)).length≤fuel→DInv c fo N ops ord lo frs hs ρ0 h0 w0 listed a w ρ p→wpAny c.P .any ops Q fuel listed a w:=by
 have done:∀ (listed:Array Bool) (a:Act) (w:World) (ρ:Rho) (p:Nat),DInv c fo N ops ord lo frs hs ρ0 h0 w0 listed a w ρ p→Region.ready .any ops listed=[]→Q .normal a w:=by
  intro listed a w ρ p inv hr
  have hall:=all_listed hd inv.size hr
  obtain ⟨ρ,inv⟩:=commit_to hA hd ht hr0 inv inv.ple (Nat.le_refl _) (fun x o ho hx _=>hall x hx)
  refine hp (frs ops.size) (hs ops.size) a w ρ hk ?_ inv.tmps inv.defers inv.gok inv.heap inv.step
  intro t
  obtain ⟨d,d1,d2,d3⟩:=inv.slots t
  have:=frame_const ht t (ops.size-d) d (by omega) (fun i o h1 h2 ho hdst=>by
   have:=(d2 i o ho hdst).1 (hall i (by omega))
   omega)
  rw [show d+(ops.size-d)=ops.size from by omega] at this
  rw [this]
  refine d3.resolve_right ?_
  rintro ⟨j,o,_,_,ho,_,_,hj,_⟩
  have:=(Array.getElem?_eq_some_iff.1 ho).1
  omega
 intro fuel
 induction fuel with
 | zero =>
  intro listed a w ρ p hf inv
  have hready:Region.ready .any ops listed=[]:=by
   apply List.eq_nil_iff_forall_not_mem.2
   intro i hi
   obtain ⟨h1,h2,_⟩:=(ready_iff inv.size).1 hi
   have hnil:listed.toList.filter (·==false)=[]:=List.eq_nil_of_length_eq_zero (by omega)
   have hmem:false∈listed.toList.filter (·==false):=by
    rw [List.mem_filter]
    refine ⟨?_,rfl⟩
    rw [Array.getD_eq_getD_getElem?,Array.getElem?_eq_getElem (by rw [inv.size];exact h1),Option.getD_some] at h2
    rw [← h2]
    exact Array.mem_toList_iff.2 (Array.getElem_mem _)
   rw [hnil] at hmem
   cases hmem
  exact ⟨hready,done listed a w ρ p inv hready⟩
 | succ fuel ih =>
  intro listed a w ρ p hf inv
  refine ⟨done listed a w ρ p inv,fun i hi=>?_⟩
  obtain ⟨hilt,hnl,hedges⟩:=(ready_iff inv.size).1 hi
  obtain ⟨o,ho,hcase⟩:=ht i hilt
  have hpre:∀ x,ord x i→listed.getD x false=true:=by
   intro x hx
   obtain ⟨e,he,hb,hor⟩:=hd.closed x i o ho hx
   have hl:=hedges o ho e he hb
   rcases hor with rfl | hor
   ·exact hl
   ·exact inv.down x e.on hl hor
  have hislt:i<listed.size:=by rw [inv.size];exact hilt
  have hcount:((listed.setIfInBounds i true).toList.filter (·==false)).length≤fuel:=by
   have h1:listed.toList[i]?=some false:=by
    rw [Array.getD_eq_getD_getElem?,Array.getElem?_eq_getElem hislt,Option.getD_some] at hnl
    rw [Array.getElem?_toList,Array.getElem?_eq_getElem hislt,hnl]
   rw [Array.toList_setIfInBounds]
   have:∀ (l:List Bool) (i:Nat),l[i]?=some false→((l.set i true).filter (·==false)).length+1=(l.filter (·==false)).length:=by
    intro l
    induction l with
    | nil=>intro i h;simp at h
    | cons b l ihl =>
     intro i h
     cases i with
     | zero=>simp at h;subst h;simp
     | succ i =>
      have:=ihl i (by simpa using h)
      cases b <;> simp [List.set_cons_succ] <;> simpa using this
   have:=this listed.toList i h1
   omega
  obtain ⟨ρ,p,inv,hnw,hturn⟩:∃ ρ p,DInv c fo N ops ord lo frs hs ρ0 h0 w0 listed a w ρ p∧(∀ t,t∈o.looksAt ops→¬Waits c N ops lo w0 listed a w ρ p t) ∧
    (cls c.P o.op=2→(lo≠some i∨∀ x ox,ops[x]?=some ox→x<i→cls c.P ox.op=2→listed.getD x false=true)→p=i):=by
   have hlook:∀ t j oj ty,t∈o.looksAt ops→lo=some j→ops[j]?=some oj→oj.op=.alloc ty→oj.dst=some t→listed.getD j false=true→j<i∧∀ l ol,ops[l]?=some ol→l<j→cls c.P ol.op=2→ord l i:=by
    intro t j oj ty hl h1 h2 h3 h4 h6
    obtain ⟨oj',ty',d',e1,e2,e3,e4,hnm⟩:=hd.late j h1
    rw [h2] at e1
    cases e1
    rw [h4] at e4
    cases e4
    have hij:i≠j:=fun e=>by rw [e,h6] at hnl;cases hnl
    exact (hnm i o ho hij).2 hl
   by_cases hc2:cls c.P o.op=2∧(lo≠some i∨∀ x ox,ops[x]?=some ox→x<i→cls c.P ox.op=2→listed.getD x false=true)
   ·obtain ⟨hcl,hor⟩:=hc2
    have hall:∀ x ox,ops[x]?=some ox→x<i→cls c.P ox.op=2→listed.getD x false=true:=by
     rcases hor with hne | hall
     ·intro x ox hx hlt hc
      exact hpre x ((hd.spine x i ox o hx ho hlt hc hcl).resolve_left hne)
     ·exact hall
    have hip:p≤i:=by
     rcases Nat.lt_or_ge i p with hlt | hge
     ·have:listed.getD i false=true:=by
       by_cases hlo:lo=some i
       ·exact inv.slate i hlo hlt
       ·exact (inv.spine i o ho hcl hlo).2 hlt
      rw [hnl] at this;cases this
     ·exact hge
    obtain ⟨ρ',inv'⟩:=commit_to hA hd ht hr0 inv hip (Nat.le_of_lt hilt) hall
    refine ⟨ρ',i,inv',fun t hl hw=>?_,fun _ _=>rfl⟩
    obtain ⟨j,oj,ty,h1,h2,h3,h4,h5,h6,_⟩:=hw
    have:=(hlook t j oj ty hl h1 h2 h3 h4 h6).1
    omega
   ·by_cases hwt:∃ t,t∈o.looksAt ops∧Waits c N ops lo w0 listed a w ρ p t
    ·obtain ⟨t,hl,j,oj,ty,h1,h2,h3,h4,h5,h6,h7,h8⟩:=hwt
     obtain ⟨hji,hbef⟩:=hlook t j oj ty hl h1 h2 h3 h4 h6
     obtain ⟨ρ',inv'⟩:=commit_to hA hd ht hr0 (q:=j+1) inv (by omega) (by omega) (fun x ox hx hxj hc=>by
      by_cases hxe:x=j
      ·rw [hxe];exact h6
      ·exact hpre x (hbef x ox hx (by omega) hc))
     refine ⟨ρ',j+1,inv',fun t' _ hw=>?_,fun h1 h2=>absurd ⟨h1,h2⟩ hc2⟩
     obtain ⟨j',_,_,k1,_,_,_,k2,_⟩:=hw
     rw [h1] at k1
     cases k1
     omega
    ·exact ⟨ρ,p,inv,fun t hl hw=>hwt ⟨t,hl,hw⟩,fun h1 h2=>absurd ⟨h1,h2⟩ hc2⟩
  have hwait:∀ {ρ':Rho} {w':World} {p':Nat} {u:Value} {ha hb:AH},Step ρ ha w ρ' hb w'→(∀ j,listed.getD j false=true→p≤j→p'≤j)→∀ t,o.dst≠some t→Waits c N ops lo w0 listed a w ρ p t→Waits c N ops lo w0 (listed.setIfInBounds i true) (a.put o.dst u) w' ρ' p' t:=by
   intro ρ' w' p' u ha hb hst hpp t hdt hw
   obtain ⟨j,oj,ty,h1,h2,h3,h4,h5,h6,h7,h8⟩:=hw
   refine ⟨j,oj,ty,h1,h2,h3,h4,hpp j h6 h5,?_,h7,?_⟩
   ·rw [jbo _ _ _ hislt]
    split
    ·rfl
    ·exact h6
   ·have:(a.put o.dst u).tmps.getD t undef=a.tmps.getD t undef:=by
     cases hdd:o.dst with
     | none=>rfl
     | some dd =>
      simp only [Act.put,Array.getD_eq_getD_getElem?,Array.getElem?_setIfInBounds]
      rw [if_neg]
      intro he
      exact hdt (by rw [hdd,he])
    rw [this]
    exact h8.step hst
  have hslot:∀ t,t∈o.looksAt ops→R ρ (fo.get (frs i) t) (a.tmps.getD t undef):=by
   intro t hlook
   obtain ⟨d,d1,d2,d3⟩:=inv.slots t
   rw [← frame_at hd ht inv.down hilt ho hnl hpre hlook d1 d2]
   exact d3.resolve_right (hnw t hlook)
  have hdown':∀ x j,(listed.setIfInBounds i true).getD j false=true→ord x j→(listed.setIfInBounds i true).getD x false=true:=by
   intro x j hj hx
   rw [jbo _ _ _ hislt] at hj ⊢
   by_cases hxi:x=i
   ·rw [if_pos hxi]
   ·rw [if_neg hxi]
    by_cases hji:j=i
    ·subst hji;exact hpre x hx
    ·rw [if_neg hji] at hj;exact inv.down x j hj hx
  have hslots':∀ (v:V) (u:Value) (ρ':Rho) (w':World) (p':Nat),ρ.le ρ'→R ρ' v u→(fo.get (frs (i+1))=fo.get (putF fo N (frs i) o.dst v))→(∀ t,o.dst≠some t→Waits c N ops lo w0 listed a w ρ p t→Waits c N ops lo w0 (listed.setIfInBounds i true) (a.put o.dst u) w' ρ' p' t)→∀ t:Nat,∃ d,d≤ops.size∧(∀ x ox,ops[x]?=some ox→ox.dst=some t→((listed.setIfInBounds i true).getD x false=true↔x<d))∧(R ρ' (fo.get (frs d) t) ((a.put o.dst u).tmps.getD t undef)∨Waits c N ops lo w0 (listed.setIfInBounds i true) (a.put o.dst u) w' ρ' p' t):=by
   intro v u ρ' w' p' hle hR hfr hW t
   by_cases hdst:o.dst=some t
   ·refine ⟨i+1,hilt,?_,?_⟩
    ·intro x ox hx hxd
     rw [jbo _ _ _ hislt]
     by_cases hxi:x=i
     ·subst hxi;simp
     ·rw [if_neg hxi]
      obtain ⟨s1,s2⟩:=hd.slot x i ox o t hx ho hxi hxd (.inr hdst)
      constructor
      ·intro hl
       rcases Nat.lt_or_ge x i with hlt | hge
       ·omega
       ·have:=inv.down i x hl (s2 (by omega))
        rw [hnl] at this;cases this
      ·intro hlt
       exact hpre x (s1 (by omega))
    ·refine .inl ?_
     rw [hfr,hdst]
     unfold putF Act.put
     simp only [Array.getD_eq_getD_getElem?]
     rw [Arr.blt_eq]
     by_cases htn:t<N
     ·simp only [htn,decide_true,cond_true,fo.get_set,if_true,Array.getElem?_setIfInBounds]
      rw [if_pos (by rw [inv.tmps];exact htn)]
      exact hR
     ·simp only [htn,decide_false,cond_false,Array.getElem?_setIfInBounds,if_true]
      rw [if_neg (by rw [inv.tmps];exact htn)]
      obtain ⟨d,d1,d2,d3⟩:=inv.slots t
      have d3:R ρ (fo.get (frs d) t) (a.tmps.getD t undef):=d3.resolve_right (by rintro ⟨_,_,_,_,_,_,_,_,_,htn',_⟩;exact htn htn')
      rw [slot_out ht htn i (by omega),← slot_out ht htn d d1]
      have:=d3.mono hle
      rw [Array.getD_eq_getD_getElem?,Array.getElem?_eq_none (by rw [inv.tmps];omega)] at this
      exact this
   ·obtain ⟨d,d1,d2,d3⟩:=inv.slots t
    refine ⟨d,d1,?_,?_⟩
    ·intro x ox hx hxd
     rw [jbo _ _ _ hislt]
     have hxi:x≠i:=by
      rintro rfl
      rw [ho] at hx
      cases hx
      exact hdst hxd
     rw [if_neg hxi]
     exact d2 x ox hx hxd
    ·have:(a.put o.dst u).tmps.getD t undef=a.tmps.getD t undef:=by
      cases hdd:o.dst with
      | none=>rfl
      | some dd =>
       simp only [Act.put,Array.getD_eq_getD_getElem?,Array.getElem?_setIfInBounds]
       rw [if_neg]
       intro he
       exact hdst (by rw [hdd,he])
     rw [this]
     exact d3.imp (fun d3=>d3.mono hle) (hW t hdst)
  unfold wpOp
  rw [ho]
  simp only
  have hwant:∀ b,wantedV fo ops o (frs i)=some b→Region.wanted o (yielded ops a.tmps)=b:=by
   intro b hw
   let fr':Nat→V:=fun t=>if t∈o.looksAt ops then fo.get (frs i) t else .bad
   have hfr':FR foFun ρ fr' a.tmps:=by
    intro t
    show R ρ (if t∈o.looksAt ops then fo.get (frs i) t else .bad) _
    by_cases hl:t∈o.looksAt ops
    ·rw [if_pos hl];exact hslot t hl
    ·rw [if_neg hl];trivial
   refine wantedV_sound (fo:=foFun) hfr' ?_
   rw [← hw]
   unfold wantedV
   cases hg:o.guard with
   | none=>rfl
   | some jb =>
    obtain ⟨j,b'⟩:=jb
    simp only
    cases hdd:(ops[j]?).bind (·.dst) with
    | none=>rfl
    | some dd =>
     simp only
     have:foFun.get fr' dd=fo.get (frs i) dd:=by
      show (if dd∈o.looksAt ops then fo.get (frs i) dd else .bad)=_
      rw [if_pos (mem_guard hg hdd)]
     rw [this]
  rcases hcase with ⟨hw,hfr,hhp⟩ | ⟨hw,v,hstep,hfr⟩
  ·rw [hwant false hw]
   simp only [Bool.false_eq_true,if_false]
   have hnlo:lo≠some i:=fun hlo=>by
    obtain ⟨o',ty,d,ho',_,hgd,_⟩:=hd.late i hlo
    rw [ho] at ho'
    cases ho'
    unfold wantedV at hw
    rw [hgd] at hw
    cases hw
   by_cases hcl:cls c.P o.op=2
   ·
    have hpi:=hturn hcl (.inl hnlo)
    subst p
    refine ih _ _ _ ρ (i+1) hcount ⟨by simpa using inv.size,hdown',hilt,?_,?_,?_,?_,inv.gok,?_,?_,by rw [put_size];exact inv.tmps,by rw [put_defers];exact inv.defers⟩
    ·intro x ox hx hc hne
     rw [jbo _ _ _ hislt]
     by_cases hxi:x=i
     ·subst hxi;simp
     ·rw [if_neg hxi,inv.spine x ox hx hc hne]
      constructor <;> (intro h;omega)
    ·intro j hj hlt
     rw [jbo _ _ _ hislt]
     split
     ·rfl
     ·exact inv.slate j hj (by omega)
    ·rw [hhp];exact inv.heap
    ·rw [hhp];exact inv.step
    ·intro q hq b kk hb
     by_cases hqp:q≤i
     ·exact inv.lives q hqp b kk hb
     ·obtain rfl:q=i+1:=by omega
      rw [hhp] at hb ⊢
      exact inv.lives i (Nat.le_refl _) b kk hb
    ·exact hslots' undefV undef ρ w (i+1) (Rho.le_refl ρ) (undefV_R ρ) (by rw [hfr]) (hwait (Step.refl ρ (hs i) w) fun j hj hij=>by
      have:j≠i:=fun e=>by rw [e,hnl] at hj;cases hj
      omega)
   ·refine ih _ _ _ ρ p hcount ⟨by simpa using inv.size,hdown',inv.ple,?_,?_,inv.heap,inv.step,inv.gok,inv.lives,?_,by rw [put_size];exact inv.tmps,by rw [put_defers];exact inv.defers⟩
    ·intro x ox hx hc hne
     rw [jbo _ _ _ hislt,if_neg (by rintro rfl;rw [ho] at hx;cases hx;exact hcl hc)]
     exact inv.spine x ox hx hc hne
    ·intro j hj hlt
     rw [jbo _ _ _ hislt]
     split
     ·rfl
     ·exact inv.slate j hj hlt
    ·exact hslots' undefV undef ρ w p (Rho.le_refl ρ) (undefV_R ρ) (by rw [hfr]) (hwait (Step.refl ρ (hs p) w) fun j _ h=>h)
  ·rw [hwant true hw]
   simp only [if_true]
   refine .inl ?_
   let ev':Operand→V:=fun x=>match x with
    | .tmp t=>if t∈o.looksAt ops then fo.get (frs i) t else .bad
    | x=>evO c fo (frs i) x
   have hev:∀ x,R ρ (ev' x) (a.eval x):=by
    intro x
    cases x with
    | tmp t =>
     show R ρ (if t∈o.looksAt ops then fo.get (frs i) t else .bad) _
     by_cases hl:t∈o.looksAt ops
     ·rw [if_pos hl];exact hslot t hl
     ·rw [if_neg hl];trivial
    | const vv=>exact absC_R ρ vv
    | global g =>
     show R ρ (evO c fo (frs i) (.global g)) _
     simp only [evO]
     cases hG:c.G g with
     | none=>trivial
     | some L =>
      obtain ⟨S,hS⟩:=inv.gok g L hG
      exact ⟨_,rfl,g,0,S,hS,Int.le_refl _,rfl⟩
    | func f=>exact ⟨_,_,rfl,rfl,rfl⟩
   have hcongr:∀ h,jbm c (qs i) o.op (evO c fo (frs i)) h=jbm c (qs i) o.op ev' h:=fun h=>stepV_congr (fun x hx=>by
    cases x with
    | tmp t =>
     show fo.get (frs i) t=if t∈o.looksAt ops then fo.get (frs i) t else .bad
     rw [if_pos (mem_looks hx)]
    | _=>rfl) h
   rw [hcongr] at hstep
   by_cases hcl:cls c.P o.op=2
   ·by_cases hor:lo≠some i∨∀ x ox,ops[x]?=some ox→x<i→cls c.P ox.op=2→listed.getD x false=true
    ·have hpi:=hturn hcl hor
     subst p
     refine stepV_wp hC hX inv.gok inv.heap hev hstep ?_
     intro u w' ρ' g1 g2 g3
     refine ih _ _ _ ρ' (i+1) hcount ⟨by simpa using inv.size,hdown',hilt,?_,?_,g2,Step.trans hr0 inv.step g3,inv.gok.mono g3.le,?_,?_,by rw [put_size];exact inv.tmps,by rw [put_defers];exact inv.defers⟩
     ·intro x ox hx hc hne
      rw [jbo _ _ _ hislt]
      by_cases hxi:x=i
      ·subst hxi;simp
      ·rw [if_neg hxi,inv.spine x ox hx hc hne]
       constructor <;> (intro h;omega)
     ·intro j hj hlt
      rw [jbo _ _ _ hislt]
      split
      ·rfl
      ·exact inv.slate j hj (by omega)
     ·intro q hq b kk hb
      by_cases hqp:q≤i
      ·exact inv.lives q hqp b kk hb
      ·obtain rfl:q=i+1:=by omega
       exact g2.lives b kk hb
     ·exact hslots' v u ρ' w' (i+1) g3.le g1 (by rw [hfr]) (hwait g3 fun j hj hij=>by
       have:j≠i:=fun e=>by rw [e,hnl] at hj;cases hj
       omega)
    ·
     have hlo:lo=some i:=Classical.byContradiction fun h=>hor (.inl h)
     obtain ⟨o',ty,d,ho',hop,hgd,hdst,hnm⟩:=hd.late i hlo
     rw [ho] at ho'
     cases ho'
     obtain ⟨k,hk',zs,hz,rfl,rfl⟩:=alloc_step hA.2.2 hop hstep
     obtain ⟨ti,z,hti,hzz,hR,_,_,_,hrun⟩:=jce hz ρ
     unfold Oper.wp
     rw [alloc_run hop hrun,Oper.upon_value]
     have hpi:p≤i:=by
      rcases Nat.lt_or_ge i p with hlt | hge
      ·have:=inv.slate i hlo hlt
       rw [hnl] at this;cases this
      ·exact hge
     have hput:∀ t,o.dst≠some t→(a.put o.dst (.pointer (some ⟨w.heap.size,0,none⟩))).tmps.getD t undef=a.tmps.getD t undef:=by
      intro t hdt
      rw [hdst]
      simp only [Act.put,Array.getD_eq_getD_getElem?,Array.getElem?_setIfInBounds]
      rw [if_neg]
      intro he
      exact hdt (by rw [hdst,he])
     refine ih _ _ _ ρ p hcount ⟨by simpa using inv.size,hdown',inv.ple,?_,?_,inv.heap.push rfl,inv.step.push rfl rfl rfl rfl,inv.gok,inv.lives,?_,by rw [put_size];exact inv.tmps,by rw [put_defers];exact inv.defers⟩
     ·intro x ox hx hc hne
      rw [jbo _ _ _ hislt,if_neg (by rintro rfl;exact hne hlo)]
      exact inv.spine x ox hx hc hne
     ·intro j hj hlt
      rw [jbo _ _ _ hislt]
      split
      ·rfl
      ·exact inv.slate j hj hlt
     ·intro t
      by_cases htd:o.dst=some t
      ·have honly:∀ x ox,ops[x]?=some ox→ox.dst=some t→((listed.setIfInBounds i true).getD x false=true↔x<i+1):=by
        intro x ox hx hxd
        have hxi:x=i:=Classical.byContradiction fun hne=>by
         have h1:=(hnm x ox hx hne).1
         rw [hdst] at htd
         cases htd
         exact h1 hxd
        subst hxi
        rw [jbo _ _ _ hislt]
        simp
       refine ⟨i+1,hilt,honly,?_⟩
       by_cases htn:t<N
       ·refine .inr ⟨i,o,ty,hlo,ho,hop,htd,hpi,by rw [jbo _ _ _ hislt,if_pos rfl],htn,w.heap.size,ti,z,?_,inv.step.size,by simp,hti,hzz,by simp,fun b L x hx=>?_⟩
        ·rw [htd]
         simp only [Act.put,Array.getD_eq_getD_getElem?,Array.getElem?_setIfInBounds,if_true]
         rw [if_pos (by rw [inv.tmps];exact htn)]
         rfl
        ·have:=inv.heap.bound _ _ _ _ hx
         omega
       ·refine .inl ?_
        obtain ⟨d',d1,d2,d3⟩:=inv.slots t
        have d3:R ρ (fo.get (frs d') t) (a.tmps.getD t undef):=d3.resolve_right (by rintro ⟨_,_,_,_,_,_,_,_,_,htn',_⟩;exact htn htn')
        rw [slot_out ht htn (i+1) hilt,← slot_out ht htn d' d1]
        have e1:∀ u,(a.put o.dst u).tmps.getD t undef=undef:=fun u=>by
         rw [Array.getD_eq_getD_getElem?,Array.getElem?_eq_none (by rw [put_size,inv.tmps];omega)];rfl
        rw [e1]
        rw [Array.getD_eq_getD_getElem?,Array.getElem?_eq_none (by rw [inv.tmps];omega)] at d3
        exact d3
      ·obtain ⟨d',d1,d2,d3⟩:=inv.slots t
       refine ⟨d',d1,?_,.inl ?_⟩
       ·intro x ox hx hxd
        rw [jbo _ _ _ hislt]
        have hxi:x≠i:=by
         rintro rfl
         rw [ho] at hx
         cases hx
         exact htd hxd
        rw [if_neg hxi]
        exact d2 x ox hx hxd
       ·rw [hput t htd]
        refine d3.resolve_right ?_
        rintro ⟨j,oj,_,k1,k2,_,k4,_⟩
        rw [hlo] at k1
        cases k1
        rw [ho] at k2
        cases k2
        exact htd k4
   ·
    have hcall:jau o.op=none:=by
     cases hi:jau o.op with
     | none=>rfl
     | some cl=>exact absurd (cls_call (by rw [hi];rfl)) hcl
    have hconc:conc (c.hint o.op) (sop c.P o.op ev' (hs i))=some (v,hs (i+1)):=by
     have:=hstep
     unfold jbm at this
     rw [hcall] at this
     exact this
    have hsop:sop c.P o.op ev' (hs i)=some (v,hs (i+1)):=conc_some hA.2.2 hconc
    obtain ⟨hsame,hmove⟩:=loud_same hcl hcall hsop
    have hsop':sop c.P o.op ev' (hs p)=some (v,hs p):=by
     ·refine hmove (hs p) ?_
      intro hc0 x b hb hsome
      have hbp:b<(hs p).next:=by
       have hR:=hev x
       cases hx:ev' x <;> rw [hx] at hR hb <;> simp only [blockOf,reduceCtorEq,Option.some.injEq] at hb
       ·obtain ⟨_,_,cb,sh,S,h1,_⟩:=hR;subst hb;exact inv.heap.fresh _ _ _ h1
       ·obtain ⟨cb,sh,S,cc,_,h1,_⟩:=hR;subst hb;exact inv.heap.fresh _ _ _ h1
      have hlt:∀ x ox,ops[x]?=some ox→lo=some x→∃ ty,ox.op=.alloc ty:=by
       intro x ox hx hlo
       obtain ⟨o',ty,_,ho',hop,_⟩:=hd.late x hlo
       rw [hx] at ho'
       cases ho'
       exact ⟨ty,hop⟩
      have hq:∀ x ox,ops[x]?=some ox→cls c.P ox.op=2→(lo≠some x→¬ord x i)→(lo≠some x→¬ord i x)→((jau ox.op).isSome=true∧qs x=true)∨∃ ty,ox.op=.alloc ty:=fun x ox hx hc h1 h2=>by
       by_cases hlo:lo=some x
       ·exact .inr (hlt x ox hx hlo)
       ·exact .inl ((hd.read i x o ox ho hx (by rintro rfl;rw [ho] at hx;cases hx;exact hcl hc) hcl hc0 hc (h2 hlo) (h1 hlo)).resolve_left hlo)
      rcases Nat.le_total p i with hle | hle
      ·obtain ⟨_,hk2⟩:=heap_quiet hA ht (i-p) p (by omega) (fun x ox h1 h2 hx hc=>by
        refine hq x ox hx hc ?_ ?_
        ·intro hne hord
         have:=(inv.spine x ox hx hc hne).1 (hpre x hord)
         omega
        ·intro _ hord
         have:=ord_lt hd x i (by omega) hord
         omega)
       rw [show p+(i-p)=i from by omega] at hk2
       exact (hk2 b hbp).symm
      ·obtain ⟨_,hk2⟩:=heap_quiet hA ht (p-i) i (by have:=inv.ple;omega) (fun x ox h1 h2 hx hc=>by
        refine hq x ox hx hc ?_ ?_
        ·intro _ hord
         have:=ord_lt hd i x hilt hord
         omega
        ·intro hne hord
         have:=inv.down i x ((inv.spine x ox hx hc hne).2 (by omega)) hord
         rw [hnl] at this;cases this)
       rw [show i+(p-i)=p from by omega] at hk2
       obtain ⟨kk,hkk⟩:=Option.isSome_iff_exists.1 hsome
       exact hk2 b (inv.lives i hle b kk hkk)
    have hstep':jbm c (qs i) o.op ev' (hs p)=some (v,hs p):=by
     unfold jbm
     rw [hcall]
     exact conc_of hA.2.2 hconc hsop'
    refine stepV_wp hC hX inv.gok inv.heap hev hstep' ?_
    intro u w' ρ' g1 g2 g3
    refine ih _ _ _ ρ' p hcount ⟨by simpa using inv.size,hdown',inv.ple,?_,?_,g2,Step.trans hr0 inv.step g3,inv.gok.mono g3.le,inv.lives,?_,by rw [put_size];exact inv.tmps,by rw [put_defers];exact inv.defers⟩
    ·intro x ox hx hc hne
     rw [jbo _ _ _ hislt,if_neg (by rintro rfl;rw [ho] at hx;cases hx;exact hcl hc)]
     exact inv.spine x ox hx hc hne
    ·intro j hj hlt
     rw [jbo _ _ _ hislt]
     split
     ·rfl
     ·exact inv.slate j hj hlt
    ·exact hslots' v u ρ' w' p g3.le g1 (by rw [hfr]) (hwait g3 fun j _ h=>h)
end
end Go.Proofs.YtcmhoboglapbdaaDoor.Ev
