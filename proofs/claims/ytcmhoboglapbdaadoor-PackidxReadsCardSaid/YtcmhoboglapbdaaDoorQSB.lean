/-
  Part of a proof, written in a short hand by a program of this workplace. No condition.
-/
import Derived.Test.YtcmhoboglapbdaaDoorQSA
set_option linter.unusedVariables false
set_option linter.unusedSimpArgs false
namespace Go.Proofs.YtcmhoboglapbdaaDoor.Ev
open Go
def ordB(B:Array Nat)(i j:Nat):Bool:=(B.getD j 0).testBit i
def maskOf(B:Array Nat)(o:Oper):Nat:=o.after.toList.foldl (fun s e=>if Region.binds .any e then s ||| 2 ^ e.on ||| B.getD e.on 0 else s) 0
def names(ops:Array Oper)(o:Oper)(t:Tmp):Bool:=(o.looksAt ops).contains t || o.dst==some t
def needsQuiet(P:Program)(ops:Array Oper)(B:Array Nat)(s:Nat):Bool :=
 (List.range ops.size).any fun i=>match ops[i]? with
  | some o=>(cls P o.op==1) && !(ordB B i s) && !(ordB B s i) && i != s
  | none=>false
def isLate(P:Program)(ops:Array Oper)(B:Array Nat)(j:Nat):Bool :=
 match ops[j]? with
 | some ⟨some d,.alloc _,_,_,_,none⟩ =>
  (List.range ops.size).any (fun l=>match ops[l]? with
   | some ol=>Nat.blt l j && cls P ol.op==2 && !ordB B l j
   | none=>false) &&
  (List.range ops.size).all fun k=>match ops[k]? with
   | some ok=>k==j || (!(ok.dst==some d) && (!(ok.looksAt ops).contains d || (Nat.blt j k && (List.range ops.size).all fun l=>match ops[l]? with
    | some ol=>!(Nat.blt l j && cls P ol.op==2) || ordB B l k
    | none=>true)))
   | none=>true
 | _=>false
def lateOf(P:Program)(ops:Array Oper)(B:Array Nat):Option Nat:=(List.range ops.size).find? (isLate P ops B)
def isLo(P:Program)(ops:Array Oper)(B:Array Nat)(j:Nat):Bool:=match lateOf P ops B with
 | some k=>Nat.beq k j
 | none=>false
def drawB(P:Program)(ops:Array Oper)(B:Array Nat):Bool :=
 (List.range ops.size).all fun j=>match ops[j]? with
  | none=>false
  | some oj =>
   (oj.after.toList.all fun e=>!Region.binds .any e || Nat.blt e.on j) && (B.getD j 0==maskOf B oj) &&
   (List.range ops.size).all fun i=>match ops[i]? with
    | none=>false
    | some oi =>
     (i==j) ||
     ((match oi.dst with
      | none=>true
      | some t=>!names ops oj t || (if Nat.blt i j then ordB B i j else ordB B j i)) &&
      (!(cls P oi.op==2 && cls P oj.op==2 && Nat.blt i j) || ordB B i j || isLo P ops B j) &&
      (!(cls P oi.op==1 && cls P oj.op==2) || ordB B i j || ordB B j i || (jau oj.op).isSome || isLo P ops B j))
theorem isLo_some{P:Program}{ops:Array Oper}{B:Array Nat}{j:Nat}(h:isLo P ops B j=true):lateOf P ops B=some j:=by
 unfold isLo at h
 split at h
 ·rename_i k hk
  rw [hk,Nat.eq_of_beq_eq_true h]
 ·cases h
theorem names_iff{ops:Array Oper}{o:Oper}{t:Tmp}(h:t∈o.looksAt ops∨o.dst=some t):names ops o t=true:=by
 unfold names
 rcases h with hl | hl
 ·simp only [Bool.or_eq_true];exact .inl (by simpa using hl)
 ·simp only [Bool.or_eq_true];exact .inr (by rw [hl];simp)
theorem late_ok{P:Program}{ops:Array Oper}{B:Array Nat}{j:Nat}(h:lateOf P ops B=some j):∃ o t d,ops[j]?=some o∧o.op=.alloc t∧o.guard=none∧o.dst=some d∧∀ k ok,ops[k]?=some ok→k≠j→ok.dst≠some d∧(d∈ok.looksAt ops→j<k∧∀ l ol,ops[l]?=some ol→l<j→cls P ol.op=2→ordB B l k=true):=by
 have h1:=List.find?_some h
 unfold isLate at h1
 split at h1
 ·rename_i d t ty pos after ho
  rw [Bool.and_eq_true] at h1
  refine ⟨_,t,d,ho,rfl,rfl,rfl,fun k ok hk hne=>?_⟩
  have h2:=h1.2
  rw [List.all_eq_true] at h2
  have h3:=h2 k (List.mem_range.2 (Array.getElem?_eq_some_iff.1 hk).1)
  rw [hk] at h3
  have hne':(k==j)=false:=by simpa using hne
  simp only [hne',Bool.false_or,Bool.and_eq_true] at h3
  obtain ⟨g1,h3⟩:=h3
  refine ⟨fun e=>by rw [e] at g1;simp at g1,fun hd=>?_⟩
  have hd':(ok.looksAt ops).contains d=true:=by simpa using hd
  simp only [hd',Bool.not_true,Bool.false_or,Bool.and_eq_true] at h3
  refine ⟨by have:=h3.1;rw [Arr.blt_eq] at this;exact of_decide_eq_true this,fun l ol hl hlt hc=>?_⟩
  have h4:=h3.2
  rw [List.all_eq_true] at h4
  have h5:=h4 l (List.mem_range.2 (Array.getElem?_eq_some_iff.1 hl).1)
  rw [hl] at h5
  have hb:Nat.blt l j=true:=by rw [Arr.blt_eq];exact decide_eq_true hlt
  simpa [hb,hc] using h5
 ·cases h1
theorem mask_bit(B:Array Nat)(i:Nat):∀ (l:List Edge) (s:Nat),(l.foldl (fun s e=>if Region.binds .any e then s ||| 2 ^ e.on ||| B.getD e.on 0 else s) s).testBit i=true→s.testBit i=true∨∃ e,e∈l∧Region.binds .any e=true∧(i=e.on∨(B.getD e.on 0).testBit i=true):=by
 intro l
 induction l with
 | nil=>intro s h;exact .inl h
 | cons e l ih =>
  intro s h
  rw [List.foldl_cons] at h
  rcases ih _ h with h1 | ⟨e',h1,h2,h3⟩
  ·by_cases hb:Region.binds .any e=true
   ·rw [if_pos hb] at h1
    simp only [Nat.testBit_or,Bool.or_eq_true] at h1
    rcases h1 with (h1 | h1) | h1
    ·exact .inl h1
    ·refine .inr ⟨e,by simp,hb,.inl ?_⟩
     rw [Nat.testBit_two_pow] at h1
     simpa using (of_decide_eq_true h1).symm
    ·exact .inr ⟨e,by simp,hb,.inr h1⟩
   ·rw [if_neg hb] at h1;exact .inl h1
  ·exact .inr ⟨e',by simp [h1],h2,h3⟩
theorem cls_le(P:Program)(o:Op):cls P o=0∨cls P o=1∨cls P o=2:=by
 unfold cls
 (repeat' split) <;> simp
theorem drawB_ok{P:Program}{ops:Array Oper}{B:Array Nat}(h:drawB P ops B=true):DrawOK P ops (needsQuiet P ops B) (fun i j=>ordB B i j=true) (lateOf P ops B):=by
 have lt:∀ {i:Nat} {o:Oper},ops[i]?=some o→i<ops.size:=fun ho=>(Array.getElem?_eq_some_iff.1 ho).1
 have row:∀ j oj,ops[j]?=some oj→(∀ e∈oj.after.toList,Region.binds .any e=true→e.on<j)∧B.getD j 0=maskOf B oj∧∀ i oi,ops[i]?=some oi→i≠j →
   ((∀ t,oi.dst=some t→names ops oj t=true→(if Nat.blt i j then ordB B i j else ordB B j i)=true)∧(cls P oi.op=2→cls P oj.op=2→i<j→lateOf P ops B=some j∨ordB B i j=true) ∧
    (cls P oi.op=1→cls P oj.op=2→ordB B i j=true∨ordB B j i=true∨lateOf P ops B=some j∨(jau oj.op).isSome=true)):=by
  intro j oj hj
  unfold drawB at h
  rw [List.all_eq_true] at h
  have hrow:=h j (List.mem_range.2 (lt hj))
  rw [hj] at hrow
  simp only [Bool.and_eq_true] at hrow
  obtain ⟨⟨h1,h2⟩,h3⟩:=hrow
  refine ⟨fun e he hb=>?_,by simpa using h2,fun i oi hi hne=>?_⟩
  ·rw [List.all_eq_true] at h1
   have:=h1 e he
   simp only [hb,Bool.not_true,Bool.false_or] at this
   rw [Arr.blt_eq] at this
   exact of_decide_eq_true this
  ·rw [List.all_eq_true] at h3
   have:=h3 i (List.mem_range.2 (lt hi))
   rw [hi] at this
   have hne':(i==j)=false:=by simpa using hne
   simp only [hne',Bool.false_or] at this
   rw [Bool.and_eq_true,Bool.and_eq_true] at this
   obtain ⟨⟨g1,g2⟩,g3⟩:=this
   simp only [Bool.or_eq_true,Bool.not_eq_true'] at g2 g3
   refine ⟨fun t ht hn=>?_,fun c1 c2 hlt=>?_,fun c1 c2=>?_⟩
   ·rw [ht] at g1
    simpa only [hn,Bool.not_true,Bool.false_or] using g1
   ·rcases g2 with (g2 | g2) | g2
    ·rw [c1,c2,Arr.blt_eq] at g2
     simp [hlt] at g2
    ·exact .inr g2
    ·exact .inl (isLo_some g2)
   ·rcases g3 with (((g3 | g3) | g3) | g3) | g3
    ·rw [c1,c2] at g3;cases g3
    ·exact .inl g3
    ·exact .inr (.inl g3)
    ·exact .inr (.inr (.inr g3))
    ·exact .inr (.inr (.inl (isLo_some g3)))
 refine ⟨fun j o e ho he hb=>(row j o ho).1 e he hb,?_,?_,?_,?_,fun j h=>late_ok h⟩
 ·intro i j o ho hord
  have hm:=(row j o ho).2.1
  unfold ordB at hord
  rw [hm] at hord
  rcases mask_bit B i _ _ hord with h1 | ⟨e,h1,h2,h3⟩
  ·simp at h1
  ·exact ⟨e,h1,h2,h3⟩
 ·intro i j oi oj t hi hj hne hdst hlook
  have hn:names ops oj t=true:=names_iff hlook
  have:=((row j oj hj).2.2 i oi hi hne).1 t hdst hn
  constructor
  ·intro hlt
   rw [Arr.blt_eq] at this
   simpa [hlt] using this
  ·intro hlt
   rw [Arr.blt_eq] at this
   simpa [show ¬i<j from by omega] using this
 ·intro i j oi oj hi hj hlt c1 c2
  exact ((row j oj hj).2.2 i oi hi (by omega)).2.1 c1 c2 hlt
 ·intro i s oi os hi hs hne c1 c2 c3 h1 h2
  have hc:cls P oi.op=1:=by rcases cls_le P oi.op with h | h | h <;> omega
  rcases ((row s os hs).2.2 i oi hi hne).2.2 hc c3 with h | h | h | hcall
  ·exact absurd h h1
  ·exact absurd h h2
  ·exact .inl h
  refine .inr ⟨hcall,?_⟩
  unfold needsQuiet
  rw [List.any_eq_true]
  refine ⟨i,List.mem_range.2 (lt hi),?_⟩
  rw [hi]
  simp only [hc,beq_self_eq_true,Bool.true_and,Bool.and_eq_true,Bool.not_eq_true',bne_iff_ne]
  exact ⟨⟨by simpa using h1,by simpa using h2⟩,hne⟩
structure Kont (fo:FO) where
 norm:fo.F→AH→Res
 exit:Nat→fo.F→AH→Res
 ret:fo.F→AH→Res
noncomputable def jaw(F:Type)(fuel:Nat)(body:F→AH→(F→AH→Res)→Res):F→AH→Res:=Nat.rec (fun _ _=>none) (fun _ ih fr h=>body fr h ih) fuel
def jcd:Code→Nat
 | .region id _ _=>2*id+1
 | .seq a _=>jcd a
 | .block _ b=>jcd b
 | .loop b=>jcd b
 | _=>0
def isRegion:Code→Bool
 | .region ..=>true
 | _=>false
section
variable (c:Cfg) (fo:FO) (N fuel:Nat)
noncomputable def exec:Code→fo.F→AH→Kont fo→Res
 | .skip,fr,h,k=>k.norm fr h
 | .label _,fr,h,k=>k.norm fr h
 | .region id ops draw,fr,h,k =>
  if draw then
   if drawB c.P ops (Region.before ops) then runOps c fo N ops (needsQuiet c.P ops (Region.before ops)) (List.range' 0 ops.size) fr h (fun fr h=>fo.keepK (2*id+2) fr fun fr=>k.norm fr h) else none
  else runOps c fo N ops (fun _=>false) (List.range ops.size) fr h (fun fr h=>fo.keepK (2*id+2) fr fun fr=>k.norm fr h)
 | .seq a b,fr,h,k=>exec a fr h { k with norm:=if isRegion a then fun fr h=>exec b fr h k else fun fr h=>fo.keepK (jcd b) fr fun fr=>exec b fr h k }
 | .cond x a b,fr,h,k =>
  match evO c fo fr x with
  | .bool true=>exec a fr h k
  | .bool false=>exec b fr h k
  | _=>none
 | .block id b,fr,h,k=>exec b fr h { k with exit:=fun id' fr h=>if id'=id then k.norm fr h else k.exit id' fr h }
 | .loop b,fr,h,k=>jaw fo.F fuel (fun fr h n=>fo.keepK (jcd b) fr fun fr=>exec b fr h { k with norm:=n }) fr h
 | .exit id,fr,h,k=>k.exit id fr h
 | .ret,fr,h,k=>k.ret fr h
 | _,_,_,_=>none
noncomputable def resOne(fr:fo.F)(h:AH)(r:ResultVar):Option V :=
 match r with
 | .tmp t=>some (fo.get fr t)
 | .cell a t=>absLoad c.P t (fo.get fr a) h
noncomputable def resList(fr:fo.F)(h:AH):List ResultVar→Option (List V)
 | []=>some []
 | r :: l=>match resOne c fo fr h r with
  | none=>none
  | some v=>match resList fr h l with
   | none=>none
   | some vs=>some (v :: vs)
def pack:List V→V
 | [v]=>v
 | vs=>.tuple vs
noncomputable def fin(fn:Func)(fr:fo.F)(h:AH):Res:=(resList c fo fr h fn.results.toList).map fun vs=>(pack vs,h)
noncomputable def execFn(f:FuncId)(args:List V)(h:AH):Res :=
 match c.P.funcs[f]? with
 | none=>none
 | some fn =>
  match fn.body with
  | none=>none
  | some code=>if args.length≤fn.ntmps then exec c fo fn.ntmps fuel code (fo.ini args) h ⟨fin c fo fn,fun _ _ _=>none,fin c fo fn⟩ else none
end
def KPost(c:Cfg)(fo:FO)(N:Nat)(ρ0:Rho)(h0:AH)(w0:World)(r:V×AH)(k:Kont fo)(Q:Exit→Act→World→Prop):Prop :=
 Post c fo N ρ0 h0 w0 r k.norm (Q .normal)∧(∀ id,Post c fo N ρ0 h0 w0 r (k.exit id) (Q (.exit id)))∧Post c fo N ρ0 h0 w0 r k.ret (Q .ret)
theorem KPost.step{c:Cfg}{fo:FO}{N:Nat}{ρ0 ρ1:Rho}{h0 h1:AH}{w0 w1:World}{r:V×AH}{k:Kont fo}{Q:Exit→Act→World→Prop}(hr:HR ρ0 h0 w0)(hs:Step ρ0 h0 w0 ρ1 h1 w1)(hp:KPost c fo N ρ0 h0 w0 r k Q):KPost c fo N ρ1 h1 w1 r k Q :=
 ⟨hp.1.step hr hs,fun id=>(hp.2.1 id).step hr hs,hp.2.2.step hr hs⟩
theorem Post.keep{c:Cfg}{fo:FO}{N:Nat}{ρ:Rho}{h:AH}{w:World}{r:V×AH}{k:fo.F→AH→Res}{Q:Act→World→Prop}(hp:Post c fo N ρ h w r k Q)(key:Nat):Post c fo N ρ h w r (fun fr h=>fo.keepK key fr fun fr=>k fr h) Q:=by
 intro fr h1 a w1 ρ1 hk hf hN hd hg hr hs
 rcases fo.keepK_spec key fr (fun fr=>k fr h1) with e | ⟨f',e1,e2⟩
 ·simp only [e] at hk;cases hk
 ·simp only [e1] at hk
  refine hp f' h1 a w1 ρ1 hk (fun t=>?_) hN hd hg hr hs
  rcases e2 t with e | e
  ·rw [e];exact hf t
  ·rw [e];trivial
theorem exec_wp{c:Cfg}(hC:CSound c)(hX:XSound c)(hA:CAbs c)(hm:c.P.follows .mixedOrders=true){fo:FO}{N fuel:Nat}{r:V×AH}:∀ (code:Code) (k:Kont fo) (Q:Exit→Act→World→Prop) (ρ:Rho) (fr:fo.F) (h:AH) (a:Act) (w:World),
  exec c fo N fuel code fr h k=some r→FR fo ρ fr a.tmps→a.tmps.size=N→a.defers=[]→GOK c ρ→HR ρ h w→KPost c fo N ρ h w r k Q→code.wp c.P Q a w:=by
 intro code
 induction code with
 | skip=>intro k Q ρ fr h a w he hf hN hd hg hr hp;exact wp_skip (hp.1 fr h a w ρ he hf hN hd hg hr (Step.refl _ _ _))
 | label l=>intro k Q ρ fr h a w he hf hN hd hg hr hp;exact wp_label (hp.1 fr h a w ρ he hf hN hd hg hr (Step.refl _ _ _))
 | exit id=>intro k Q ρ fr h a w he hf hN hd hg hr hp;exact wp_exit (hp.2.1 id fr h a w ρ he hf hN hd hg hr (Step.refl _ _ _))
 | ret=>intro k Q ρ fr h a w he hf hN hd hg hr hp;exact wp_ret (hp.2.2 fr h a w ρ he hf hN hd hg hr (Step.refl _ _ _))
 | region id ops draw =>
  intro k Q ρ fr h a w he hf hN hd hg hr hp
  unfold exec at he
  cases draw with
  | false =>
   simp only [Bool.false_eq_true,if_false] at he
   exact wp_region (runOps_wp hC hX _ ρ fr h a w he hf hN hd hg hr (hp.1.keep _))
  | true =>
   simp only [if_true] at he
   split at he
   case isFalse=>cases he
   rename_i hdb
   have hok:=drawB_ok hdb
   obtain ⟨frs,hs,e1,e2,e3,e4⟩:=trace_of ops.size 0 fr h (by omega) he
   simp only [Nat.zero_add] at e3 e4
   refine wp_region_any hm ?_
   have hr':HR ρ h { w with drawn:=w.drawn+1 }:=⟨hr.fresh,hr.lives,hr.bound,hr.inj,hr.top,fun b k L cb sh S h1 h2 h3=>(hr.blk b k L cb sh S h1 h2 h3).mono (Rho.le_refl ρ) rfl⟩
   have hst:Step ρ h w ρ h { w with drawn:=w.drawn+1 }:=⟨Rho.le_refl ρ,fun b L c x hx _=>⟨L,x,hx⟩,fun b k' hk' _=>⟨k',hk',rfl⟩,Nat.le_refl _,rfl,rfl,rfl,Nat.le_refl _,fun _ _ _=>rfl,Nat.le_refl _,fun _ _ _=>rfl⟩
   have hfalse:∀ j,(Array.replicate ops.size false).getD j false=false:=by
    intro j
    rw [Array.getD_eq_getD_getElem?,Array.getElem?_replicate]
    split <;> rfl
   refine draw_wp hC hX hA hok (fun i hi=>e3 i (Nat.zero_le _) hi) e4 hr' ((hp.1.keep _).step hr hst) ops.size _ a _ ρ 0 ?_ ?_
   ·refine Nat.le_trans (List.length_filter_le _ _) ?_
    simp
   ·refine ⟨by simp,(fun i j hj _=>by rw [hfalse] at hj;cases hj),Nat.zero_le _,(fun i o _ _ _=>by rw [hfalse];simp),(fun j _ h=>by omega),(by rw [e2];exact hr'),(by rw [e2];exact Step.refl _ _ _),hg,?_,?_,hN,hd⟩
    ·intro q hq b kk hb
     obtain rfl:q=0:=by omega
     rw [e2] at hb ⊢
     exact hr.lives b kk hb
    ·intro t
     exact ⟨0,Nat.zero_le _,(fun i o _ _=>by rw [hfalse];simp),.inl (by rw [e1];exact hf t)⟩
 | seq x y ihx ihy =>
  intro k Q ρ fr h a w he hf hN hd hg hr hp
  unfold exec at he
  refine wp_seq (ihx _ _ ρ fr h a w he hf hN hd hg hr ⟨?_,fun id=>hp.2.1 id,hp.2.2⟩)
  have hpost:Post c fo N ρ h w r (fun fr h=>exec c fo N fuel y fr h k) (fun a w=>y.wp c.P Q a w):=by
   intro fr1 h1 a1 w1 ρ1 hk1 hf1 hN1 hd1 hg1 hr1 hs1
   exact ihy k Q ρ1 fr1 h1 a1 w1 hk1 hf1 hN1 hd1 hg1 hr1 (hp.step hr hs1)
  have hnorm:Post c fo N ρ h w r (if isRegion x then fun fr h=>exec c fo N fuel y fr h k else fun fr h=>fo.keepK (jcd y) fr fun fr=>exec c fo N fuel y fr h k) (fun a w=>y.wp c.P Q a w):=by
   split
   ·exact hpost
   ·exact hpost.keep _
  exact hnorm
 | cond x p q ihp ihq =>
  intro k Q ρ fr h a w he hf hN hd hg hr hp
  unfold exec at he
  have hx:=evO_R (c:=c) (fr:=fr) hg hf x
  split at he
  ·rename_i hb;rw [hb] at hx;exact wp_cond_true hx (ihp k Q ρ fr h a w he hf hN hd hg hr hp)
  ·rename_i hb;rw [hb] at hx;exact wp_cond_false hx (ihq k Q ρ fr h a w he hf hN hd hg hr hp)
  ·cases he
 | block id b ih =>
  intro k Q ρ fr h a w he hf hN hd hg hr hp
  unfold exec at he
  refine wp_block (ih _ _ ρ fr h a w he hf hN hd hg hr ⟨hp.1,fun id'=>?_,hp.2.2⟩)
  intro fr1 h1 a1 w1 ρ1 hk1 hf1 hN1 hd1 hg1 hr1 hs1
  simp only [Exit.inBlock]
  by_cases hid:id'=id
  ·rw [if_pos hid];simp only [if_pos hid] at hk1;exact hp.1 fr1 h1 a1 w1 ρ1 hk1 hf1 hN1 hd1 hg1 hr1 hs1
  ·rw [if_neg hid];simp only [if_neg hid] at hk1;exact hp.2.1 id' fr1 h1 a1 w1 ρ1 hk1 hf1 hN1 hd1 hg1 hr1 hs1
 | loop b ih =>
  intro k Q ρ fr h a w he hf hN hd hg hr hp
  unfold exec at he
  let body:fo.F→AH→(fo.F→AH→Res)→Res:=fun fr h n=>fo.keepK (jcd b) fr fun fr=>exec c fo N fuel b fr h { k with norm:=n }
  let I:Nat→Act→World→Prop:=fun m a' w'=>∃ (ρ':Rho) (fr':fo.F) (h':AH),jaw fo.F m body fr' h'=some r∧FR fo ρ' fr' a'.tmps∧a'.tmps.size=N∧a'.defers=[]∧GOK c ρ'∧HR ρ' h' w'∧Step ρ h w ρ' h' w'
  have hround:∀ (m:Nat) (a':Act) (w':World),I m a' w'→b.wp c.P (Exit.then (fun a'' w''=>∃ m',m'<m∧I m' a'' w'') Q) a' w':=by
   intro m a' w' hI
   obtain ⟨ρ',fr',h',g1,g2,g3,g4,g5,g6,g7⟩:=hI
   cases m with
   | zero=>cases g1
   | succ m =>
    have g1':(fo.keepK (jcd b) fr' fun fr=>exec c fo N fuel b fr h' { k with norm:=jaw fo.F m body })=some r:=g1
    rcases fo.keepK_spec (jcd b) fr' (fun fr=>exec c fo N fuel b fr h' { k with norm:=jaw fo.F m body }) with e0 | ⟨f',e1,e2⟩
    ·exact absurd (e0.symm.trans g1') (by simp)
    rw [e1] at g1'
    have g2':FR fo ρ' f' a'.tmps:=fun t=>by
     rcases e2 t with e | e
     ·rw [e];exact g2 t
     ·rw [e];trivial
    refine ih _ _ ρ' f' h' a' w' g1' g2' g3 g4 g5 g6 ⟨?_,fun id=>(hp.2.1 id).step hr g7,hp.2.2.step hr g7⟩
    intro fr1 h1 a1 w1 ρ1 hk1 hf1 hN1 hd1 hg1 hr1 hs1
    exact ⟨m,Nat.lt_succ_self m,ρ1,fr1,h1,hk1,hf1,hN1,hd1,hg1,hr1,Step.trans hr g7 hs1⟩
  intro bf kk cs
  have key:∀ (m:Nat) (a':Act) (w':World),I m a' w'→∃ e a'' w'',Q e a'' w''∧Arrives c.P (lone (bf.at a' (.code b :: .inLoop b :: kk)) cs w') bf kk cs e a'' w'':=by
   intro m
   induction m using Nat.strongRecOn with
   | _ m ihm =>
    intro a' w' hI
    obtain ⟨e,a1,w1,hq,harr⟩:=hround m a' w' hI bf (.inLoop b :: kk) cs
    cases e with
    | normal =>
     obtain ⟨m',hlt,hI'⟩:=hq
     obtain ⟨e2,a2,w2,hq2,harr2⟩:=ihm m' hlt a1 w1 hI'
     exact ⟨e2,a2,w2,hq2,.of_steps (Steps.trans harr (.one step_inLoop)) harr2⟩
    | exit id=>exact ⟨_,a1,w1,hq,.pass (x:=.inLoop b) rfl (fun _ _=>.inl (by simp)) harr⟩
    | goto l=>exact ⟨_,a1,w1,hq,.pass (x:=.inLoop b) rfl (fun _ _=>.inl (by simp)) harr⟩
    | ret=>exact ⟨_,a1,w1,hq,.pass (x:=.inLoop b) rfl (fun _ _=>.inl (by simp)) harr⟩
    | panic ch=>exact ⟨_,a1,w1,hq,.pass (x:=.inLoop b) rfl (fun _ _=>.inl (by simp)) harr⟩
    | outgrown=>exact ⟨_,a1,w1,hq,.pass (x:=.inLoop b) rfl (fun _ _=>.inl (by simp)) harr⟩
  obtain ⟨e,a',w',hq,harr⟩:=key fuel a w ⟨ρ,fr,h,he,hf,hN,hd,hg,hr,Step.refl _ _ _⟩
  exact ⟨e,a',w',hq,.of_steps (.one step_loop) harr⟩
 | rangeFunc f ps x y _ _=>intro k Q ρ fr h a w he;cases he
 | scope b _=>intro k Q ρ fr h a w he;cases he
 | goto l=>intro k Q ρ fr h a w he;cases he
 | refuse s=>intro k Q ρ fr h a w he;cases he
theorem resOne_sound{c:Cfg}{fo:FO}{ρ:Rho}{fr:fo.F}{h:AH}{w:World}{tmps:Array Value}{r:ResultVar}{v:V}(hf:FR fo ρ fr tmps)(hr:HR ρ h w)(hs:resOne c fo fr h r=some v) :
  ∃ u,((match r with | .tmp t=>pure (tmps.getD t undef) | .cell a t=>do loadVar t (← asAddr (tmps.getD a undef))):Sem Value).run c.P w=.ok u w∧R ρ v u:=by
 cases r with
 | tmp t=>cases hs;exact ⟨_,rfl,hf t⟩
 | cell a t =>
  have hs':absLoad c.P t (fo.get fr a) h=some v:=hs
  have hR:=hf a
  obtain ⟨u,h1,h2⟩:=load_sound (P:=c.P) hr hR hs'
  refine ⟨u,?_,h2⟩
  rw [← h1]
  unfold absLoad at hs'
  split at hs'
  ·rename_i p hp
   rw [hp] at hR
   obtain ⟨cc,hcc,_⟩:=hR
   simp only [hcc,asAddr,Sem.run_bind,Sem.run_pure,Result.andThen_ok,Instr.loadAt,Instr.sureAddr]
  ·cases hs'
theorem resList_sound{c:Cfg}{fo:FO}{ρ:Rho}{fr:fo.F}{h:AH}{w:World}{tmps:Array Value}(hf:FR fo ρ fr tmps)(hr:HR ρ h w):∀ {l:List ResultVar} {vs:List V},resList c fo fr h l=some vs →
  ∃ us:List Value,(l.mapM (fun | .tmp t=>pure (tmps.getD t undef) | .cell a t=>do loadVar t (← asAddr (tmps.getD a undef)):ResultVar→Sem Value)).run c.P w=.ok us w∧RL ρ vs us:=by
 intro l
 induction l with
 | nil=>intro vs hs;cases hs;exact ⟨[],rfl,rfl⟩
 | cons r l ih =>
  intro vs hs
  unfold resList at hs
  cases h1:resOne c fo fr h r with
  | none=>rw [h1] at hs;cases hs
  | some v =>
   cases h2:resList c fo fr h l with
   | none=>rw [h1,h2] at hs;cases hs
   | some vs' =>
    rw [h1,h2] at hs
    cases hs
    obtain ⟨u,g1,g2⟩:=resOne_sound (w:=w) hf hr h1
    obtain ⟨us,g3,g4⟩:=ih h2
    refine ⟨u :: us,?_,⟨u,us,rfl,g2,g4⟩⟩
    rw [List.mapM_cons]
    simp only [Sem.run_bind]
    rw [g1]
    simp only [Result.andThen_ok]
    rw [g3]
    simp only [Result.andThen_ok,Sem.run_pure]
theorem fin_sound{c:Cfg}{fo:FO}{ρ:Rho}{fn:Func}{fr:fo.F}{h h':AH}{w:World}{tmps:Array Value}{v:V}(hf:FR fo ρ fr tmps)(hr:HR ρ h w)(hs:fin c fo fn fr h=some (v,h')):h'=h∧∃ u,(results fn tmps).run c.P w=.ok u w∧R ρ v u:=by
 unfold fin at hs
 obtain ⟨vs,h1,h2⟩:=map_some hs
 cases h2
 obtain ⟨us,g1,g2⟩:=resList_sound (w:=w) hf hr h1
 refine ⟨rfl,?_⟩
 have hrun:(results fn tmps).run c.P w=.ok (if hh:us.toArray.size=1 then us.toArray[0] else .tuple us.toArray) w:=by
  unfold results
  rw [Array.mapM_eq_mapM_toList]
  simp only [Sem.run_bind,Sem.run_map,Sem.run_pure]
  erw [g1]
  simp only [Result.andThen_ok]
 refine ⟨_,hrun,?_⟩
 have hl:=g2.length
 cases vs with
 | nil=>rw [show us=[] from g2];exact ⟨_,rfl,rfl⟩
 | cons v vs =>
  obtain ⟨u,us,rfl,q1,q2⟩:=g2
  cases vs with
  | nil=>rw [show us=[] from q2];exact q1
  | cons v2 vs =>
   obtain ⟨u2,us,rfl,q3,q4⟩:=q2
   rw [dif_neg (by simp)]
   exact ⟨_,rfl,u,_,rfl,q1,u2,us,rfl,q3,q4⟩
theorem execFn_sound{c:Cfg}(hC:CSound c)(hX:XSound c)(hA:CAbs c)(hm:c.P.follows .mixedOrders=true){fo:FO}{fuel:Nat}{ρ:Rho}{h h':AH}{w:World}{f:FuncId}{args:List V}{args':List Value}{v:V}(hg:GOK c ρ)(hr:HR ρ h w)(hR:RL ρ args args')(hs:execFn c fo fuel f args h=some (v,h')) :
  Calls c.P f args'.toArray w fun e w'=>∃ u ρ',e=.returned u∧R ρ' v u∧HR ρ' h' w'∧Step ρ h w ρ' h' w':=by
 unfold execFn at hs
 split at hs
 case h_1=>cases hs
 rename_i fn hfn
 split at hs
 case h_1=>cases hs
 rename_i code hcode
 split at hs
 case isFalse=>cases hs
 rename_i hle
 have hlen:=hR.length
 refine calls_of_wp hfn hcode ?_
 have hsz:(args'.toArray++Array.replicate (fn.ntmps-args'.toArray.size) undef).size=fn.ntmps:=by
  simp only [Array.size_append,List.size_toArray,Array.size_replicate];omega
 have hf:FR fo ρ (fo.ini args) (args'.toArray++Array.replicate (fn.ntmps-args'.toArray.size) undef):=by
  intro t
  rw [fo.get_ini,Array.getD_eq_getD_getElem?,List.getD_eq_getElem?_getD]
  by_cases ht:t<args.length
  ·rw [Array.getElem?_append_left (by simp;omega),List.getElem?_toArray]
   obtain ⟨y,h1,h2⟩:=hR.get (List.getElem?_eq_getElem ht)
   rw [h1,List.getElem?_eq_getElem ht]
   exact h2
  ·rw [List.getElem?_eq_none (by omega),Array.getElem?_append_right (by simp;omega),Array.getElem?_replicate]
   split
   ·trivial
   ·trivial
 have hpost:∀ e,(e=Exit.normal∨e=Exit.ret)→Post c fo fn.ntmps ρ h w (v,h') (fin c fo fn) (bodyPost c.P fn (fun e w'=>∃ u ρ',e=.returned u∧R ρ' v u∧HR ρ' h' w'∧Step ρ h w ρ' h' w') e):=by
  intro e he fr1 h1 a1 w1 ρ1 hk1 hf1 hN1 hd1 hg1 hr1 hs1
  obtain ⟨rfl,u,q1,q2⟩:=fin_sound hf1 hr1 hk1
  rcases he with rfl | rfl <;> exact ⟨hd1,u,q1,u,ρ1,rfl,q2,hr1,hs1⟩
 refine exec_wp hC hX hA hm code _ _ ρ (fo.ini args) h _ w hs hf hsz rfl hg hr ⟨hpost _ (.inl rfl),fun id fr1 h1 a1 w1 ρ1 hk1=>?_,hpost _ (.inr rfl)⟩
 cases hk1
end Go.Proofs.YtcmhoboglapbdaaDoor.Ev
namespace Go.Proofs.YtcmhoboglapbdaaDoor.Ev
open Go
noncomputable def orUndef(o:Option V):V:=Option.rec .bad (fun v=>v) o
theorem orUndef_eq(o:Option V):orUndef o=o.getD .bad:=by cases o <;> rfl
noncomputable def iniT(l:List V):Nat→T V→T V:=List.rec (fun _ t=>t) (fun v _ ih i t=>ih (Nat.succ i) (t.set i v)) l
theorem iniT_cons(v:V)(l:List V)(k:Nat)(t:T V):iniT (v :: l) k t=iniT l (k+1) (t.set k v):=rfl
theorem get_iniT:∀ (l:List V) (k:Nat) (t:T V) (i:Nat),(iniT l k t).get i=if k≤i∧i<k+l.length then l[i-k]? else t.get i:=by
 intro l
 induction l with
 | nil=>intro k t i;rw [if_neg (by simp only [List.length_nil];omega)];rfl
 | cons v l ih =>
  intro k t i
  rw [iniT_cons,ih,T.get_set]
  by_cases h1:k+1≤i∧i<k+1+l.length
  ·rw [if_pos h1,if_pos (by simp only [List.length_cons];omega),show i-k=(i-(k+1))+1 from by omega,List.getElem?_cons_succ]
  ·rw [if_neg h1]
   by_cases h2:i=k
   ·subst h2;rw [if_pos rfl,if_pos (by simp only [List.length_cons];omega)];simp
   ·rw [if_neg h2,if_neg (by simp only [List.length_cons];omega)]
noncomputable def seen(v:V)(K:V→Option (V×AH)):Option (V×AH):=V.casesOn (motive_1:=fun _=>Option (V×AH)) v (K .bad) (fun b=>K (.bool b)) (fun k n=>K (.int k n)) (fun s=>K (.str s)) (fun a=>K (.ptr a)) (K .nilptr) (fun a n c e z=>K (.slice a n c e z)) (K .nilslice) (K .loose) (fun f x y=>K (.func f x y)) (K .nilFunc)
 (fun t v=>K (.iface t v)) (K .nilIface) (fun c=>K (.agg c)) (fun c=>K (.tuple c))
theorem seen_eq(v:V)(K:V→Option (V×AH)):seen v K=K v:=by cases v <;> rfl
noncomputable def keepT(f:T V)(K:T V→Option (V×AH))(l:List Nat):T V→Option (V×AH):=List.rec (fun t=>K t) (fun i _ ih t=>seen (orUndef (f.get i)) fun v=>ih (t.set i v)) l
theorem keepT_spec(f:T V)(K:T V→Option (V×AH)):∀ (l:List Nat) (t:T V),(∀ i,orUndef (t.get i)=orUndef (f.get i)∨orUndef (t.get i)=.bad)→∃ t',keepT f K l t=K t'∧∀ i,orUndef (t'.get i)=orUndef (f.get i)∨orUndef (t'.get i)=.bad:=by
 intro l
 induction l with
 | nil=>intro t h;exact ⟨t,rfl,h⟩
 | cons i l ih =>
  intro t h
  have e:keepT f K (i :: l) t=seen (orUndef (f.get i)) fun v=>keepT f K l (t.set i v):=rfl
  rw [e,seen_eq]
  refine ih _ fun j=>?_
  rw [T.get_set]
  by_cases hj:j=i
  ·subst hj;rw [if_pos rfl];exact .inl rfl
  ·rw [if_neg hj];exact h j
noncomputable def foKeep(lv:Nat→Option (List Nat)):FO where
 F:=T V
 get:=fun f i=>orUndef (f.get i)
 set:=fun f i v=>f.set i v
 ini:=fun l=>iniT l 0 .leaf
 keepK:=fun key f K=>Option.rec (K f) (fun l=>keepT f K l .leaf) (lv key)
 keepK_spec:=fun key f K=>by
  cases lv key with
  | none=>exact .inr ⟨f,rfl,fun _=>.inl rfl⟩
  | some l=>exact .inr (keepT_spec f K l .leaf fun i=>.inr (by rw [T.get_leaf];rfl))
 get_set:=fun f i j v=>by
  rw [T.get_set]
  by_cases h:j=i
  ·rw [if_pos h,if_pos h];rfl
  ·rw [if_neg h,if_neg h]
 get_ini:=fun l i=>by
  rw [get_iniT,List.getD_eq_getElem?_getD,orUndef_eq]
  by_cases hi:i<l.length
  ·rw [if_pos (by omega),Nat.sub_zero]
  ·rw [if_neg (by omega),T.get_leaf,List.getElem?_eq_none (by omega)]
noncomputable def foTrie:FO:=foKeep fun _=>none
structure Env where
 P:Program
 G:Nat→Option Nat
 X:FuncId→List V→AH→Option (V×AH)
 I:FuncId→Option (List V→AH→Option (V×AH))
 fo:FuncId→FO
 fuel:Nat
 hint:Op→Option (Int×(Int→Bool)):=fun _=>none
noncomputable def runC(E:Env):Nat→FuncId→List V→AH→Option (V×AH)
 | 0,_,_,_=>none
 | n+1,f,args,h =>
  match E.I f with
  | some g=>g args h
  | none=>execFn ⟨E.P,E.G,runC E n,E.X,E.hint⟩ (E.fo f) E.fuel f args h
noncomputable def Env.cfg(E:Env)(n:Nat):Cfg:=⟨E.P,E.G,runC E n,E.X,E.hint⟩
theorem runOps_astep{c:Cfg}(hA:CAbs c){fo:FO}{N:Nat}{ops:Array Oper}{qs:Nat→Bool}{r:V×AH}{k:fo.F→AH→Res}(hk:∀ fr h,k fr h=some r→AStep h r.2):∀ (l:List Nat) (fr:fo.F) (h:AH),runOps c fo N ops qs l fr h k=some r→AStep h r.2:=by
 intro l
 induction l with
 | nil=>intro fr h he;exact hk fr h he
 | cons i is ih =>
  intro fr h he
  unfold runOps at he
  split at he
  ·exact ih fr h he
  ·split at he
   ·cases he
   ·exact ih _ h he
   ·split at he
    ·cases he
    ·rename_i v h' hs
     exact (stepV_astep hA hs).1.trans (ih _ h' (look_some he))
theorem keep_astep{fo:FO}{r:V×AH}{k:fo.F→AH→Res}(hk:∀ fr h,k fr h=some r→AStep h r.2)(key:Nat):∀ fr h,(fo.keepK key fr fun fr=>k fr h)=some r→AStep h r.2:=by
 intro fr h he
 rcases fo.keepK_spec key fr (fun fr=>k fr h) with e | ⟨f',e,_⟩
 ·rw [e] at he;cases he
 ·rw [e] at he;exact hk f' h he
theorem exec_astep{c:Cfg}(hA:CAbs c){fo:FO}{N fuel:Nat}{r:V×AH}:∀ (code:Code) (fr:fo.F) (h:AH) (k:Kont fo),(∀ fr h,k.norm fr h=some r→AStep h r.2)→(∀ id fr h,k.exit id fr h=some r→AStep h r.2)→(∀ fr h,k.ret fr h=some r→AStep h r.2) →
  exec c fo N fuel code fr h k=some r→AStep h r.2:=by
 intro code
 induction code with
 | skip=>intro fr h k h1 h2 h3 he;exact h1 fr h he
 | label l=>intro fr h k h1 h2 h3 he;exact h1 fr h he
 | exit id=>intro fr h k h1 h2 h3 he;exact h2 id fr h he
 | ret=>intro fr h k h1 h2 h3 he;exact h3 fr h he
 | region id ops draw =>
  intro fr h k h1 h2 h3 he
  unfold exec at he
  (repeat' split at he) <;> first | (cases he;done) | exact runOps_astep hA (keep_astep h1 _) _ fr h he
 | seq x y ihx ihy =>
  intro fr h k h1 h2 h3 he
  unfold exec at he
  refine ihx fr h { k with norm:=if isRegion x then fun fr h=>exec c fo N fuel y fr h k else fun fr h=>fo.keepK (jcd y) fr fun fr=>exec c fo N fuel y fr h k } ?_ h2 h3 he
  split
  ·exact fun fr1 h1' he1=>ihy fr1 h1' k h1 h2 h3 he1
  ·exact keep_astep (k:=fun fr h=>exec c fo N fuel y fr h k) (fun fr1 h1' he1=>ihy fr1 h1' k h1 h2 h3 he1) _
 | cond x p q ihp ihq =>
  intro fr h k h1 h2 h3 he
  unfold exec at he
  split at he
  ·exact ihp fr h k h1 h2 h3 he
  ·exact ihq fr h k h1 h2 h3 he
  ·cases he
 | block id b ih =>
  intro fr h k h1 h2 h3 he
  unfold exec at he
  refine ih fr h { k with exit:=fun id' fr h=>if id'=id then k.norm fr h else k.exit id' fr h } h1 ?_ h3 he
  intro id' fr1 h1' he1
  simp only at he1
  split at he1
  ·exact h1 fr1 h1' he1
  ·exact h2 id' fr1 h1' he1
 | loop b ih =>
  intro fr h k h1 h2 h3 he
  unfold exec at he
  have key:∀ (m:Nat) (fr:fo.F) (h:AH),jaw fo.F m (fun fr h n=>fo.keepK (jcd b) fr fun fr=>exec c fo N fuel b fr h { k with norm:=n }) fr h=some r→AStep h r.2:=by
   intro m
   induction m with
   | zero=>intro fr h he;cases he
   | succ m ihm =>
    intro fr h he
    exact keep_astep (k:=fun fr h=>exec c fo N fuel b fr h { k with norm:=jaw fo.F m (fun fr h n=>fo.keepK (jcd b) fr fun fr=>exec c fo N fuel b fr h { k with norm:=n }) })
     (fun fr1 h1' he1=>ih fr1 h1' { k with norm:=jaw fo.F m (fun fr h n=>fo.keepK (jcd b) fr fun fr=>exec c fo N fuel b fr h { k with norm:=n }) } ihm h2 h3 he1) _ fr h he
  exact key fuel fr h he
 | rangeFunc f ps x y _ _=>intro fr h k _ _ _ he;cases he
 | scope b _=>intro fr h k _ _ _ he;cases he
 | goto l=>intro fr h k _ _ _ he;cases he
 | refuse s=>intro fr h k _ _ _ he;cases he
theorem execFn_astep{c:Cfg}(hA:CAbs c){fo:FO}{fuel:Nat}{f:FuncId}{args:List V}{h h':AH}{v:V}(hs:execFn c fo fuel f args h=some (v,h')):AStep h h':=by
 unfold execFn at hs
 split at hs
 case h_1=>cases hs
 split at hs
 case h_1=>cases hs
 split at hs
 case isFalse=>cases hs
 have hfin:∀ fn fr h1,fin c fo fn fr h1=some (v,h')→AStep h1 h':=by
  intro fn fr h1 he
  unfold fin at he
  obtain ⟨vs,_,h2⟩:=map_some he
  cases h2
  exact AStep.refl _
 exact exec_astep hA (r:=(v,h')) _ _ _ _ (hfin _) (fun id fr h he=>by cases he) (hfin _) hs
structure Env.OK (E:Env):Prop where
 mixed:E.P.follows .mixedOrders=true
 xsound:XRun ⟨E.P,E.G,fun _ _ _=>none,E.X,fun _=>none⟩
 xabs:∀ f args h v h',E.X f args h=some (v,h')→AStep h h'
 isound:∀ f g,E.I f=some g→∀ (ρ:Rho) (h:AH) (w:World) (args:List V) (args':List Value) (v:V) (h':AH),GOK ⟨E.P,E.G,fun _ _ _=>none,E.X,fun _=>none⟩ ρ→HR ρ h w→RL ρ args args'→g args h=some (v,h') →
  Calls E.P f args'.toArray w fun e w'=>∃ u ρ',e=.returned u∧R ρ' v u∧HR ρ' h' w'∧Step ρ h w ρ' h' w'
 iabs:∀ f g,E.I f=some g→∀ args h v h',g args h=some (v,h')→AStep h h'
 hints:∀ o m,E.hint o=some m→∀ x,m.2 x=true→x=m.1
theorem runC_ok{E:Env}(ok:E.OK):∀ n,CSound (E.cfg n)∧CAbs (E.cfg n):=by
 intro n
 induction n with
 | zero=>exact ⟨fun ρ h w f args args' v h' _ _ _ hs=>(by cases hs),⟨fun f args h v h' hs=>(by cases hs),ok.xabs,ok.hints⟩⟩
 | succ n ih =>
  constructor
  ·intro ρ h w f args args' v h' hg hr hR hs
   have hs':(match E.I f with | some g=>g args h | none=>execFn (E.cfg n) (E.fo f) E.fuel f args h)=some (v,h'):=hs
   cases hI:E.I f with
   | some g=>rw [hI] at hs';exact ok.isound f g hI ρ h w args args' v h' hg hr hR hs'
   | none=>rw [hI] at hs';exact execFn_sound (c:=E.cfg n) ih.1 ⟨ok.xsound,ok.hints⟩ ih.2 ok.mixed hg hr hR hs'
  ·refine ⟨fun f args h v h' hs=>?_,ok.xabs,ok.hints⟩
   have hs':(match E.I f with | some g=>g args h | none=>execFn (E.cfg n) (E.fo f) E.fuel f args h)=some (v,h'):=hs
   cases hI:E.I f with
   | some g=>rw [hI] at hs';exact ok.iabs f g hI args h v h' hs'
   | none=>rw [hI] at hs';exact execFn_astep ih.2 hs'
theorem runC_sound{E:Env}(ok:E.OK){n:Nat}{ρ:Rho}{h h':AH}{w:World}{f:FuncId}{args:List V}{args':List Value}{v:V}(hg:GOK (E.cfg n) ρ)(hr:HR ρ h w)(hR:RL ρ args args')(hs:runC E n f args h=some (v,h')) :
  Calls E.P f args'.toArray w fun e w'=>∃ u ρ',e=.returned u∧R ρ' v u∧HR ρ' h' w'∧Step ρ h w ρ' h' w':=(runC_ok ok n).1 ρ h w f args args' v h' hg hr hR hs
end Go.Proofs.YtcmhoboglapbdaaDoor.Ev
namespace Go.Proofs.YtcmhoboglapbdaaDoor.Ev
open Go
structure XRow where
 f:Nat
 e:Array Value→Sem Value
 g:List V→AH→Option (V×AH)
noncomputable def xOf(l:List XRow)(f:FuncId)(args:List V)(h:AH):Option (V×AH) :=
 List.rec none (fun r _ ih=>bif Nat.beq r.f f then r.g args h else ih) l
theorem xOf_cons(r:XRow)(l:List XRow)(f:FuncId)(args:List V)(h:AH):xOf (r :: l) f args h=bif Nat.beq r.f f then r.g args h else xOf l f args h:=rfl
structure XRow.OK (P:Program) (r:XRow):Prop where
 fits:∃ fn,P.funcs[r.f]?=some fn∧(fn.name== "runtime.NumGoroutine")=false∧fn.body.isNone=true∧Extern.findNext fn=none∧Extern.find fn=some r.e
 sound:∀ (ρ:Rho) (h:AH) (w:World) (args:List V) (args':List Value) (v:V) (h':AH),HR ρ h w→RL ρ args args'→r.g args h=some (v,h')→Sim P ρ h w (r.e args'.toArray) v h'
 step:∀ args h v h',r.g args h=some (v,h')→AStep h h'
theorem xOf_inv{l:List XRow}{f:FuncId}{args:List V}{h:AH}{x:V×AH}:xOf l f args h=some x→∃ r∈l,r.f=f∧r.g args h=some x:=by
 induction l with
 | nil=>intro hx;cases hx
 | cons r l ih =>
  intro hx
  rw [xOf_cons] at hx
  cases hb:Nat.beq r.f f with
  | true=>rw [hb] at hx;exact ⟨r,by simp,Nat.eq_of_beq_eq_true hb,hx⟩
  | false =>
   rw [hb] at hx
   obtain ⟨r',h1,h2,h3⟩:=ih hx
   exact ⟨r',by simp [h1],h2,h3⟩
theorem xOf_sound{c:Cfg}{l:List XRow}(hX:c.X=xOf l)(hl:∀ r∈l,r.OK c.P):XRun c:=by
 intro ρ h w f args args' v h' hr hR hs
 rw [hX] at hs
 obtain ⟨r,h1,rfl,h3⟩:=xOf_inv hs
 obtain ⟨fn,g1,g2,g3,g4,g5⟩:=(hl r h1).fits
 obtain ⟨u,w',ρ',q1,q2,q3,q4⟩:=(hl r h1).sound ρ h w args args' v h' hr hR h3
 refine ⟨.value u,u,w',ρ',?_,.inl rfl,q2,q3,q4⟩
 rw [run_callFunc_extern g1 g2 g3 g4 g5,q1]
 rfl
theorem xOf_astep{P:Program}{l:List XRow}(hl:∀ r∈l,r.OK P):∀ f args h v h',xOf l f args h=some (v,h')→AStep h h':=by
 intro f args h v h' hs
 obtain ⟨r,h1,_,h3⟩:=xOf_inv hs
 exact (hl r h1).step args h v h' h3
noncomputable def bytesV(x:V)(h:AH):Option (List Nat) :=
 match x with
 | .str s=>some s
 | .nilslice=>some []
 | .loose=>some []
 | .slice a n _ _ _=>(jbj h a n).bind toBytes
 | _=>none
theorem bytesV_sound{P:Program}{ρ:Rho}{h:AH}{w:World}{x:V}{a:Value}{l:List Nat}(hr:HR ρ h w)(hx:R ρ x a)(hs:bytesV x h=some l) :
  ∃ s:ByteArray,(Extern.Bytes.bytesOf a).run P w=.ok s w∧s.data.toList.map UInt8.toNat=l:=by
 unfold bytesV at hs
 split at hs
 ·cases hs;obtain ⟨t,rfl,ht⟩:=hx;exact ⟨t,rfl,ht⟩
 ·cases hs;rw [show a=_ from hx];exact ⟨.empty,rfl,rfl⟩
 ·cases hs;obtain ⟨c,cc,rfl⟩:=hx;exact ⟨.empty,rfl,rfl⟩
 ·rename_i p n _ _ _
  obtain ⟨cb,sh,S,cc,rfl,h1,h2,_⟩:=hx
  cases hread:jbj h p n with
  | none=>rw [hread] at hs;cases hs
  | some vs =>
   rw [hread] at hs
   simp only [Option.bind_some] at hs
   obtain ⟨us,hlen,hR,hcell⟩:=jcq hr ⟨cb,sh,S,h1,h2,rfl⟩ hread
   obtain ⟨ns,g1,g2⟩:=toBytes_spec hs hR
   have hl:ns.length=n:=by rw [← hlen,g1,List.length_map]
   have hrun:=Lib.run_loadBytesX (P:=P) w ns ⟨cb,((p.o:Int)-sh).toNat,none⟩ .empty (fun j y hj=>hcell j _ (by rw [g1,List.getElem?_map,hj];rfl))
   rw [hl] at hrun
   refine ⟨_,hrun,?_⟩
   have e:ByteArray.empty.data=#[]:=rfl
   rw [e,g2,← bytes_mod]
   simp [Lib.bytesOf]
 ·cases hs
noncomputable def cmpN(l:List Nat):List Nat→Int:=List.rec (fun m=>List.rec 0 (fun _ _ _=>-1) m) (fun a _ ih m=>List.rec 1 (fun b bs _=>bif Nat.blt a b then -1 else bif Nat.blt b a then 1 else ih bs) m) l
theorem cmpN_eq:∀ (s t:List UInt8),cmpN (s.map UInt8.toNat) (t.map UInt8.toNat)=Lib.compareBytes s t:=by
 intro s
 induction s with
 | nil=>intro t;cases t <;> rfl
 | cons a s ih =>
  intro t
  cases t with
  | nil=>rfl
  | cons b t =>
   show (bif Nat.blt a.toNat b.toNat then -1 else bif Nat.blt b.toNat a.toNat then 1 else cmpN (s.map UInt8.toNat) (t.map UInt8.toNat))=_
   have hstep:Lib.compareBytes (a :: s) (b :: t)=if a<b then -1 else if b<a then 1 else Lib.compareBytes s t:=rfl
   rw [ih,Arr.blt_eq,Arr.blt_eq,hstep]
   simp only [UInt8.lt_iff_toNat_lt]
   by_cases h1:a.toNat<b.toNat
   ·simp [h1]
   ·by_cases h2:b.toNat<a.toNat
    ·simp [h1,h2]
    ·simp [h1,h2]
noncomputable def absCompare(args:List V)(h:AH):Option (V×AH) :=
 match args with
 | [x,y] =>
  match bytesV x h,bytesV y h with
  | some l,some m=>some (.int .i64 (cmpN l m),h)
  | _,_=>none
 | _=>none
theorem compare_sound{P:Program}{ρ:Rho}{h h':AH}{w:World}{args:List V}{args':List Value}{v:V}(hr:HR ρ h w)(hR:RL ρ args args')(hs:absCompare args h=some (v,h')):Sim P ρ h w (Extern.BytealgCompare.compare args'.toArray) v h':=by
 unfold absCompare at hs
 split at hs
 ·rename_i x y
  obtain ⟨a,b,rfl,h1,h2⟩:=RL2 hR
  split at hs
  ·rename_i l m g1 g2
   cases hs
   obtain ⟨s,q1,q2⟩:=bytesV_sound (P:=P) hr h1 g1
   obtain ⟨t,q3,q4⟩:=bytesV_sound (P:=P) hr h2 g2
   refine Sim.pure hr ⟨_,?_,rfl⟩
   change Sem.run P (do pure (goInt (Extern.BytealgCompare.cmp (← Extern.Bytes.bytesOf a) (← Extern.Bytes.bytesOf b)))) w=_
   simp only [Sem.run_bind,q1,q3,Result.andThen,Sem.run_pure]
   rw [Lib.cmp_eq,← cmpN_eq,q2,q4]
   rfl
  ·cases hs
 ·cases hs
theorem compare_step:∀ args h v h',absCompare args h=some (v,h')→AStep h h':=by
 intro args h v h' hs
 unfold absCompare at hs
 (repeat' split at hs) <;> cases hs
 exact AStep.refl _
end Go.Proofs.YtcmhoboglapbdaaDoor.Ev
namespace Go.Proofs.YtcmhoboglapbdaaDoor.Ev
open Go Go.ChangeShapes Go.WideShapes Go.ChangeAt Go.RowKit
def Stays(W w:World):Prop:=W.keptBut w (fun _=>False)∧(∀ a:Addr,a.block<W.heap.size→w.frozen? a=W.frozen? a)
theorem keptBut_same{W w:World}(hos:w.os=W.os)(hout:w.output=W.output)(hb:∀ i,i<W.heap.size→w.heap[i]?=W.heap[i]?):W.keptBut w (fun _=>False):=by
 refine ⟨hos,hout,fun i hi=>?_⟩
 rw [hb i hi]
 cases W.heap[i]? with
 | none=>rfl
 | some o =>
  cases o with
  | cells c t fr=>exact ⟨rfl,rfl,rfl,fun _ _=>rfl⟩
  | map es clock=>exact .inr ⟨rfl,rfl⟩
  | _=>rfl
theorem frozen_same{W w:World}{a:Addr}(h:w.heap[a.block]?=W.heap[a.block]?):w.frozen? a=W.frozen? a:=by
 unfold World.frozen?
 rw [h]
theorem Step.stays{ρ ρ':Rho}{h h':AH}{W w:World}(hs:Step ρ h W ρ' h' w)(hro:∀ b k,h.get b=some k→k.ro=true):Stays W w:=by
 have hb:∀ i,i<W.heap.size→w.heap[i]?=W.heap[i]?:=fun i hi=>hs.keep i hi (by
  rintro ⟨b,L,x,k,_,hk,hr⟩
  rw [hro b k hk] at hr
  cases hr)
 exact ⟨keptBut_same hs.os hs.output hb,fun a ha=>frozen_same (hb _ ha)⟩
section
variable {H:Type} {enc:TypeId×Value→H} {P:Program}
theorem post_stays{f:Func}{s:ChangeSpec}{apart fresh handsOn again:Bool}{W W':World}{args:Array Value}{v:Value}{ds gs:List (DataW H)}{before pa pv:List MemPlace}
  (hW:DataW.Whole enc P f.params.toList s.vars apart W args.toList ds gs before)
  (hres:∀ (b:Nat) (sp:Nat→Bool) (hd:Bool),DataW.TrodAll enc P W' b sp hd f.resultTypes.toList (v.resultList f.resultTypes.size) (s.fn H (ds++gs)).results [])
  (hargs:∀ sp:Nat→Bool,(∀ p∈before,sp p.block=true)→DataW.TrodAll enc P W' 0 sp true f.params.toList args.toList (s.fn H (ds++gs)).args pa)
  (hvars:∀ sp:Nat→Bool,(∀ p∈before,sp p.block=true)→DataW.TrodVars enc P W' sp s.vars (s.fn H (ds++gs)).vars pv)
  (hps:before=pa++pv) (hst:Stays W W')
  (hok:∀ (j:Nat) (t:TypeId) (r:Value),f.resultTypes[j]?=some t→(v.resultList f.resultTypes.size)[j]?=some r→Value.okWide P W' .any 0 t r) :
  s.post enc P f apart fresh handsOn again W args v W':=by
 have hlt:=fun p hp=>hW.lt p hp
 have hold:∀ p∈before,(fun b=>decide (b<W.heap.size)) p.block=true:=fun p hp=>by simpa using hlt p hp
 have hWhole:=hW
 obtain ⟨_,_,_,_,_,hz,hn⟩:=hW
 refine ⟨ds,gs,before,[],pa,pv,hWhole,hres _ _ _,hargs _ hold,hvars _ hold,World.keptBut_mono (fun p hp=>False.elim hp) hst.1,fun _=>?_⟩
 refine ⟨hok,_,_,([]++pa)++pv,⟨[]++pa,pv,trodAll_append (hargs _ (fun _ _=>rfl)) (hres _ _ _),hvars _ (fun _ _=>rfl),rfl,?_,?_⟩,?_⟩
 ·intro b off hp
  have hm:MemPlace.cell b off∈before:=by rw [hps];simpa using hp
  have hb:=hlt _ hm
  have:=hst.2 ⟨b,off,none⟩ hb
  have hz':=hz b off hm
  first
   | exact this.trans hz'
   | (rw [hst.2 _ hb];exact hz')
 ·intro ha
  have:=hn ha
  rw [hps] at this
  simpa using this
 ·intro p hp _
  rw [hps]
  simpa using hp
end
structure Tab where
 g:Nat
 vs:List V
 e:Nat
structure Spot where
 cb:Nat
 off:Nat
 S:Nat
noncomputable def tabsT:List Tab→T Blk
 | []=>.leaf
 | t :: l=>(tabsT l).set t.g ⟨Arr.ofList t.vs,0,0,true,t.e⟩
noncomputable def tabsH(n:Nat)(l:List Tab):AH:=⟨n,n,tabsT l⟩
def tabOf(l:List Tab)(b:Nat):Option Tab:=l.find? fun t=>t.g==b
def tabsRho(l:List Tab)(pl:Nat→Spot):Rho:=fun b L=>match tabOf l b with
 | some t=>if L=t.vs.length then some ((pl b).cb,-((pl b).off:Int),(pl b).S) else none
 | none=>none
theorem tabsT_get:∀ (l:List Tab) (b:Nat),(tabsT l).get b=(tabOf l b).map fun t=>⟨Arr.ofList t.vs,0,0,true,t.e⟩:=by
 intro l
 induction l with
 | nil=>intro b;exact T.get_leaf b
 | cons t l ih =>
  intro b
  show ((tabsT l).set t.g _).get b=_
  rw [T.get_set,ih]
  unfold tabOf
  rw [List.find?_cons]
  by_cases h:b=t.g
  ·subst h;simp
  ·have:(t.g==b)=false:=by simpa using fun e=>h e.symm
   rw [if_neg h,this]
theorem tabOf_spec{l:List Tab}{b:Nat}{t:Tab}(h:tabOf l b=some t):t∈l∧t.g=b:=by
 unfold tabOf at h
 exact ⟨List.mem_of_find?_eq_some h,by simpa using List.find?_some h⟩
def Tab.Fits(t:Tab)(p:Spot)(W:World):Prop:=∃ us lo hi,W.heap[p.cb]?=some (.cells us t.e (lo,hi))∧us.size=p.S∧p.off+t.vs.length≤p.S∧∀ ρ j v,t.vs[j]?=some v→∃ u,us[p.off+j]?=some u∧R ρ v u
theorem tabsRho_inv{l:List Tab}{pl:Nat→Spot}{b L:Nat}{x:Nat×Int×Nat}(h:tabsRho l pl b L=some x):∃ t,tabOf l b=some t∧L=t.vs.length∧x=((pl b).cb,-((pl b).off:Int),(pl b).S):=by
 unfold tabsRho at h
 split at h
 ·rename_i t ht
  split at h
  ·rename_i hL;cases h;exact ⟨t,ht,hL,rfl⟩
  ·cases h
 ·cases h
theorem tabsRho_of{l:List Tab}{pl:Nat→Spot}{b:Nat}{t:Tab}(h:tabOf l b=some t):tabsRho l pl b t.vs.length=some ((pl b).cb,-((pl b).off:Int),(pl b).S):=by
 unfold tabsRho
 rw [h]
 simp
theorem tabsH_inv{n:Nat}{l:List Tab}{b:Nat}{k:Blk}(h:(tabsH n l).get b=some k):∃ t,tabOf l b=some t∧k=⟨Arr.ofList t.vs,0,0,true,t.e⟩:=by
 have h':(tabsT l).get b=some k:=h
 rw [tabsT_get] at h'
 cases ht:tabOf l b with
 | none=>rw [ht] at h';cases h'
 | some t=>rw [ht] at h';exact ⟨t,rfl,(Option.some.inj h').symm⟩
theorem tabs_ro{n:Nat}{l:List Tab}:∀ b k,(tabsH n l).get b=some k→k.ro=true:=by
 intro b k h
 obtain ⟨t,_,rfl⟩:=tabsH_inv h
 rfl
theorem tabs_HR{n:Nat}{l:List Tab}{pl:Nat→Spot}{W:World}(hn:∀ t∈l,t.g<n)(hf:∀ t∈l,t.Fits (pl t.g) W):HR (tabsRho l pl) (tabsH n l) W:=by
 refine ⟨?_,?_,?_,?_,?_,?_⟩
 ·intro b L x h
  obtain ⟨t,h1,_,_⟩:=tabsRho_inv h
  obtain ⟨h2,rfl⟩:=tabOf_spec h1
  exact hn t h2
 ·intro b k h
  obtain ⟨t,h1,_⟩:=tabsH_inv h
  obtain ⟨h2,rfl⟩:=tabOf_spec h1
  exact hn t h2
 ·intro b L cb x h
  obtain ⟨t,h1,_,h3⟩:=tabsRho_inv h
  cases h3
  obtain ⟨h2,rfl⟩:=tabOf_spec h1
  obtain ⟨us,lo,hi,g1,_⟩:=hf t h2
  exact (Array.getElem?_eq_some_iff.1 g1).1
 ·intro b L b' L' cb x x' k _ _ hk hro
  rw [tabs_ro b k hk] at hro
  cases hro
 ·intro b k L x hk h
  obtain ⟨t,h1,h2,_⟩:=tabsRho_inv h
  obtain ⟨t',h1',rfl⟩:=tabsH_inv hk
  rw [h1] at h1'
  cases h1'
  rw [Arr.ofList_n,h2]
  exact Nat.le_refl _
 ·intro b k L cb sh S hk h _
  obtain ⟨t,h1,h2,h3⟩:=tabsRho_inv h
  cases h3
  obtain ⟨t',h1',rfl⟩:=tabsH_inv hk
  rw [h1] at h1'
  cases h1'
  obtain ⟨h4,rfl⟩:=tabOf_spec h1
  obtain ⟨us,lo,hi,g1,g2,g3,g4⟩:=hf t h4
  refine ⟨us,lo,hi,g1,g2,by omega,?_,fun h5=>by cases h5⟩
  intro j v _ _ hv
  rw [Arr.get_ofList] at hv
  obtain ⟨u,q1,q2⟩:=g4 (tabsRho l pl) j v hv
  exact ⟨u,by rw [← q1];congr 1;omega,q2⟩
theorem tab_fits{P:Program}{W:World}{name:String}{k:IntKind}{zs:List Int}{g:Nat}(h:Lib.TabIs P W name k zs)(hg:P.globalNamed name=some g):∃ e,Tab.Fits ⟨g,zs.map (V.int k),e⟩ ⟨g,0,zs.length⟩ W:=by
 unfold Lib.TabIs World.var? at h
 rw [hg] at h
 simp only [Option.bind_some] at h
 split at h
 ·rename_i cs e fr hw
  obtain ⟨lo,hi⟩:=fr
  have hcs:cs=(zs.map fun z=>Value.int k z).toArray:=Option.some.inj h
  refine ⟨e,cs,lo,hi,hw,by rw [hcs];simp,by simp,fun ρ j v hv=>?_⟩
  simp only [List.getElem?_map] at hv
  cases hz:zs[j]? with
  | none=>rw [hz] at hv;cases hv
  | some z =>
   rw [hz] at hv
   cases hv
   refine ⟨.int k z,?_,rfl⟩
   rw [hcs]
   simp only [Nat.zero_add,List.getElem?_toArray,List.getElem?_map,hz]
   rfl
 ·cases h
structure Same (W w:World):Prop where
 os:w.os=W.os
 tape:w.tape=W.tape
 output:w.output=W.output
 size:W.heap.size≤w.heap.size
 heap:∀ i,i<W.heap.size→w.heap[i]?=W.heap[i]?
theorem Same.stays{W w:World}(h:Same W w):Stays W w:=⟨keptBut_same h.os h.output h.heap,fun _ ha=>frozen_same (h.heap _ ha)⟩
theorem Same.refl(W:World):Same W W:=⟨rfl,rfl,rfl,Nat.le_refl _,fun _ _=>rfl⟩
theorem Same.trans{a b c:World}(x:Same a b)(y:Same b c):Same a c:=⟨y.os.trans x.os,y.tape.trans x.tape,y.output.trans x.output,Nat.le_trans x.size y.size,fun i hi=>(y.heap i (Nat.lt_of_lt_of_le hi x.size)).trans (x.heap i hi)⟩
theorem Step.same{ρ ρ':Rho}{h h':AH}{W w:World}(hs:Step ρ h W ρ' h' w)(hro:∀ b k,h.get b=some k→k.ro=true):Same W w :=
 ⟨hs.os,hs.tape,hs.output,hs.size,fun i hi=>hs.keep i hi (by
  rintro ⟨b,L,x,k,_,hk,hr⟩
  rw [hro b k hk] at hr
  cases hr)⟩
theorem HR.same{ρ:Rho}{h:AH}{W w:World}(hr:HR ρ h W)(hs:Same W w):HR ρ h w :=
 ⟨hr.fresh,hr.lives,fun b L cb x hx=>Nat.lt_of_lt_of_le (hr.bound b L cb x hx) hs.size,hr.inj,hr.top,fun b k L cb sh S h1 h2 h3=>(hr.blk b k L cb sh S h1 h2 h3).mono (Rho.le_refl ρ) (hs.heap _ (hr.bound _ _ _ _ h2))⟩
theorem Same.step(ρ:Rho)(h:AH){W w:World}(hs:Same W w):Step ρ h W ρ h w :=
 ⟨Rho.le_refl ρ,fun b L c x hx _=>⟨L,x,hx⟩,fun b k' hk' _=>⟨k',hk',rfl⟩,Nat.le_refl _,hs.os,hs.tape,hs.output,hs.size,fun i hi _=>hs.heap i hi,Nat.le_refl _,fun _ _ _=>rfl⟩
theorem tab_calls{E:Env}(ok:E.OK){n f:Nat}{l:List Tab}{pl:Nat→Spot}{m:Nat}{W:World}{args:List V}{args':List Value}{v:V}{h':AH}(hn:∀ t∈l,t.g<m)(hf:∀ t∈l,t.Fits (pl t.g) W)
  (hg:∀ g L,E.G g=some L→∃ t,tabOf l g=some t∧t.vs.length=L∧(pl g).cb=g∧(pl g).off=0) (hR:RL (tabsRho l pl) args args') (hrun:runC E n f args (tabsH m l)=some (v,h')) :
  Calls E.P f args'.toArray W fun e w=>∃ u ρ',e=.returned u∧R ρ' v u∧((tabsRho l pl).le ρ'∧∀ b L cb x,ρ' b L=some (cb,x)→cb<W.heap.size→∃ L0 x0,tabsRho l pl b L0=some (cb,x0))∧HR ρ' h' w∧Same W w:=by
 have hG:GOK (E.cfg n) (tabsRho l pl):=by
  intro g L hgl
  obtain ⟨t,h1,h2,h3,h4⟩:=hg g L hgl
  refine ⟨(pl g).S,?_⟩
  rw [← h2,tabsRho_of h1,h3,h4]
  rfl
 refine (runC_sound ok (args':=args') hG (tabs_HR hn hf) hR hrun).mono ?_
 rintro e w ⟨u,ρ',rfl,h1,h2,h3⟩
 exact ⟨u,ρ',rfl,h1,⟨h3.le,h3.cons⟩,h2,h3.same tabs_ro⟩
end Go.Proofs.YtcmhoboglapbdaaDoor.Ev
namespace Go.Proofs.YtcmhoboglapbdaaDoor.Ev
open Go
def Flat(v:V):Prop:=∀ ρ ρ' u,R ρ v u→R ρ' v u
theorem flat_list{l:List V}(h:∀ v∈l,Flat v):∀ (ρ ρ':Rho) (us:List Value),RL ρ l us→RL ρ' l us:=by
 induction l with
 | nil=>intro ρ ρ' us hR;exact hR
 | cons v l ih =>
  rintro ρ ρ' us ⟨z,zs,rfl,h1,h2⟩
  exact ⟨z,zs,rfl,h v (by simp) ρ ρ' z h1,ih (fun x hx=>h x (by simp [hx])) ρ ρ' zs h2⟩
theorem flat_int(k:IntKind)(n:Int):Flat (.int k n):=fun _ _ _ h=>h
theorem flat_agg{l:List V}(h:∀ v∈l,Flat v):Flat (.agg l):=by
 rintro ρ ρ' u ⟨xs,rfl,hR⟩
 exact ⟨xs,rfl,flat_list h ρ ρ' _ hR⟩
theorem flat_ints(k:IntKind)(l:List Int):Flat (.agg (l.map (V.int k))):=flat_agg (by
 intro v hv
 obtain ⟨n,_,rfl⟩:=List.mem_map.1 hv
 exact flat_int k n)
theorem flat_call{P:Program}{ρ:Rho}{h:AH}{w:World}{f:FuncId}{args':Array Value}{v:V}(hr:HR ρ h w)(hv:Flat v)(hc:Calls P f args' w fun e w'=>∃ u ρ',e=.returned u∧R ρ' v u∧Same w w') :
  Calls P f args' w fun e w'=>∃ u ρ',e=.returned u∧R ρ' v u∧HR ρ' h w'∧Step ρ h w ρ' h w':=by
 refine hc.mono ?_
 rintro e w' ⟨u,ρ',rfl,h1,h2⟩
 exact ⟨u,ρ,rfl,hv ρ' ρ u h1,hr.same h2,h2.step ρ h⟩
noncomputable def intsOf(k:IntKind):List V→Option (List Int)
 | []=>some []
 | .int k' n :: l=>if k'=k then (intsOf k l).map fun r=>n :: r else none
 | _ :: _=>none
theorem intsOf_spec{k:IntKind}:∀ {vs:List V} {ns:List Int},intsOf k vs=some ns→vs=ns.map (V.int k):=by
 intro vs
 induction vs with
 | nil=>intro ns h;cases h;rfl
 | cons v vs ih =>
  intro ns h
  cases v <;> try (cases h;done)
  rename_i k' n
  unfold intsOf at h
  split at h
  ·rename_i hk
   obtain ⟨r,h1,h2⟩:=map_some h
   subst h2 hk
   rw [ih h1];rfl
  ·cases h
theorem intsOf_map(k:IntKind):∀ ns:List Int,intsOf k (ns.map (V.int k))=some ns:=by
 intro ns
 induction ns with
 | nil=>rfl
 | cons n ns ih =>
  show (if k=k then (intsOf k (ns.map (V.int k))).map (fun r=>n :: r) else none)=_
  rw [if_pos rfl,ih];rfl
theorem RL_ints{ρ:Rho}{k:IntKind}:∀ {ns:List Int} {us:List Value},RL ρ (ns.map (V.int k)) us→us=ns.map (Value.int k):=by
 intro ns
 induction ns with
 | nil=>intro us h;exact h
 | cons n ns ih =>
  rintro us ⟨z,zs,rfl,h1,h2⟩
  rw [ih h2,show z=_ from h1];rfl
theorem ints_RL(ρ:Rho)(k:IntKind):∀ ns:List Int,RL ρ (ns.map (V.int k)) (ns.map (Value.int k)):=by
 intro ns
 induction ns with
 | nil=>exact rfl
 | cons n ns ih=>exact ⟨_,_,rfl,rfl,ih⟩
theorem fits_of_read{ρ:Rho}{h:AH}{w:World}(hr:HR ρ h w){a:A}{cb S n:Nat}{sh:Int}{k:IntKind}{ns:List Int}(hread:jbj h a n=some (ns.map (V.int k)))(hρ:ρ a.b a.L=some (cb,sh,S))(hsh:sh≤a.o)(g:Nat) :
  ns.length=n∧∃ e,Tab.Fits ⟨g,ns.map (V.int k),e⟩ ⟨cb,((a.o:Int)-sh).toNat,S⟩ w:=by
 obtain ⟨us,hlen,hR,hcell⟩:=jcq hr ⟨cb,sh,S,hρ,hsh,rfl⟩ hread
 have hus:=RL_ints hR
 have hn:ns.length=n:=by rw [← hlen,hus,List.length_map]
 refine ⟨hn,?_⟩
 rw [readN_eq] at hread
 cases hk:h.get a.b with
 | none=>rw [hk] at hread;cases hread
 | some kb =>
  rw [hk] at hread
  simp only [Option.bind_some] at hread
  split at hread
  case isFalse=>cases hread
  rename_i hc
  obtain ⟨c,lo,hi,g1,g2,g3,_,_⟩:=hr.blk _ _ _ _ _ _ hk hρ hc.1
  refine ⟨kb.e,c,lo,hi,g1,g2,by simp only [List.length_map];omega,fun ρ' j v hv=>?_⟩
  rw [List.getElem?_map] at hv
  cases hj:ns[j]? with
  | none=>rw [hj] at hv;cases hv
  | some x =>
   rw [hj] at hv
   cases hv
   refine ⟨.int k x,?_,rfl⟩
   have:=hcell j (.int k x) (by rw [hus,List.getElem?_map,hj];rfl)
   unfold World.cell? Addr.add at this
   by_cases hj0:j=0
   ·subst hj0
    simpa [g1] using this
   ·simpa [hj0,g1] using this
theorem adopt{ρ:Rho}{h:AH}{w w':World}(hr:HR ρ h w)(hs:Same w w')(k:Blk){cb S:Nat}{sh:Int}(hcb:w.heap.size≤cb)(hlt:cb<w'.heap.size)(hblk:∀ ρ',BlkOK ρ' k k.cells.n cb sh S w') :
  ∃ ρ',HR ρ' (h.add k) w'∧Step ρ h w ρ' (h.add k) w'∧ρ' h.next k.cells.n=some (cb,sh,S):=by
 have hno:∀ L y,ρ h.next L=some y→False:=fun L y hy=>absurd (hr.fresh _ _ _ hy) (Nat.lt_irrefl _)
 have hle:ρ.le (ρ.put h.next k.cells.n (cb,sh,S)):=Rho.le_put (hno _)
 refine ⟨ρ.put h.next k.cells.n (cb,sh,S),⟨?_,?_,?_,?_,?_,?_⟩,?_,Rho.put_same _ _ _ _⟩
 ·intro b L x hx
  rcases Rho.put_inv hx with ⟨rfl,_⟩ | hx
  ·exact Nat.lt_succ_self _
  ·exact Nat.lt_succ_of_lt (hr.fresh _ _ _ hx)
 ·intro b k' hk'
  rw [AH.get_add] at hk'
  by_cases hb:b=h.next
  ·subst hb;exact Nat.lt_succ_self _
  ·rw [if_neg hb] at hk';exact Nat.lt_succ_of_lt (hr.lives _ _ hk')
 ·intro b L cb' x hx
  rcases Rho.put_inv hx with ⟨_,_,hy⟩ | hx
  ·cases hy;exact hlt
  ·exact Nat.lt_of_lt_of_le (hr.bound _ _ _ _ hx) hs.size
 ·intro b L b' L' cb' x x' k' hx hx' hk' hro'
  rcases Rho.put_inv hx with ⟨e1,e2,hy⟩ | gx <;> rcases Rho.put_inv hx' with ⟨e1',e2',hy'⟩ | gx'
  ·cases hy;cases hy';exact ⟨e1.trans e1'.symm,rfl⟩
  ·cases hy;have:=hr.bound _ _ _ _ gx';omega
  ·cases hy';have:=hr.bound _ _ _ _ gx;omega
  ·rw [AH.get_add,if_neg (by have:=hr.fresh _ _ _ gx;omega)] at hk'
   exact hr.inj _ _ _ _ _ _ _ _ gx gx' hk' hro'
 ·intro b k' L x hk' hx
  rw [AH.get_add] at hk'
  by_cases hb:b=h.next
  ·subst hb;rw [if_pos rfl] at hk';cases hk'
   rcases Rho.put_inv hx with ⟨_,rfl,_⟩ | hx
   ·exact Nat.le_refl _
   ·exact absurd hx (fun hh=>hno _ _ hh)
  ·rw [if_neg hb] at hk'
   rcases Rho.put_inv hx with ⟨rfl,_⟩ | hx
   ·exact absurd rfl hb
   ·exact hr.top _ _ _ _ hk' hx
 ·intro b k' L cb' sh' S' hk' hx hm
  rw [AH.get_add] at hk'
  by_cases hb:b=h.next
  ·subst hb;rw [if_pos rfl] at hk';cases hk'
   rcases Rho.put_inv hx with ⟨_,rfl,hy⟩ | hx
   ·cases hy;exact hblk _
   ·exact absurd hx (fun hh=>hno _ _ hh)
  ·rw [if_neg hb] at hk'
   rcases Rho.put_inv hx with ⟨rfl,_⟩ | hx
   ·exact absurd rfl hb
   ·exact (hr.blk _ _ _ _ _ _ hk' hx hm).mono hle (hs.heap _ (hr.bound _ _ _ _ hx))
 ·refine ⟨hle,?_,?_,Nat.le_succ _,hs.os,hs.tape,hs.output,hs.size,fun i hi _=>hs.heap i hi,Nat.le_refl _,?_⟩
  ·intro b L cb' x hx hlt'
   rcases Rho.put_inv hx with ⟨_,_,hy⟩ | hx
   ·cases hy;omega
   ·exact ⟨L,x,hx⟩
  ·intro b k' hk' hb
   rw [AH.get_add,if_neg (by omega)] at hk'
   exact ⟨k',hk',rfl⟩
  ·intro b _ hb
   rw [AH.get_add,if_neg (by omega)]
end Go.Proofs.YtcmhoboglapbdaaDoor.Ev
namespace Go.Proofs.YtcmhoboglapbdaaDoor.Ev
open Go
abbrev Slots:=List (Nat×Ck)
def Tup:Slots→Type
 | []=>Unit
 | (_,c) :: l=>c.ty×Tup l
noncomputable def rdT(g:Nat→V):(L:Slots)→(Tup L→Res)→Res
 | [],K=>K ()
 | (i,c) :: l,K=>ckT c (g i) fun x=>rdT g l fun t=>K (x,t)
noncomputable def mkT:(L:Slots)→Tup L→T V
 | [],_=>.leaf
 | (i,c) :: l,t=>(mkT l t.2).set i (c.val t.1)
noncomputable def gT(f:T V)(i:Nat):V:=orUndef (f.get i)
theorem ckT_none{c:Ck}{v:V}{K:c.ty→Res}:ckT c v K=none∨∃ x,v=c.val x∧ckT c v K=K x:=by
 cases h:ckT c v K with
 | none=>exact .inl rfl
 | some r =>
  obtain ⟨x,h1,h2⟩:=ckT_some h
  exact .inr ⟨x,h1,h2.symm⟩
theorem rdT_spec(g:Nat→V):∀ (L:Slots) (K:Tup L→Res),rdT g L K=none∨∃ t,rdT g L K=K t∧∀ i,gT (mkT L t) i=g i∨gT (mkT L t) i=.bad:=by
 intro L
 induction L with
 | nil=>intro K;exact .inr ⟨(),rfl,fun i=>.inr (by show orUndef (T.leaf.get i)=_;rw [T.get_leaf];rfl)⟩
 | cons a L ih =>
  obtain ⟨i,c⟩:=a
  intro K
  show ckT c (g i) (fun x=>rdT g L fun t=>K (x,t))=none∨∃ t,ckT c (g i) (fun x=>rdT g L fun t=>K (x,t))=K t∧_
  rcases ckT_none (c:=c) (v:=g i) (K:=fun x=>rdT g L fun t=>K (x,t)) with e | ⟨x,h1,h2⟩
  ·exact .inl e
  ·rcases ih (fun t=>K (x,t)) with e | ⟨t,h3,h4⟩
   ·exact .inl (h2.trans e)
   ·refine .inr ⟨(x,t),h2.trans h3,fun j=>?_⟩
    show orUndef (((mkT L t).set i (c.val x)).get j)=g j∨orUndef (((mkT L t).set i (c.val x)).get j)=.bad
    rw [T.get_set]
    by_cases hj:j=i
    ·subst hj;rw [if_pos rfl];exact .inl h1.symm
    ·rw [if_neg hj];exact h4 j
theorem rdT_none(g:Nat→V):∀ (L:Slots),rdT g L (fun _=>none)=none:=by
 intro L
 induction L with
 | nil=>rfl
 | cons a L ih =>
  obtain ⟨i,c⟩:=a
  show ckT c (g i) (fun x=>rdT g L fun t=>none)=none
  simp only [ih]
  rcases ckT_none (c:=c) (v:=g i) (K:=fun _=>none) with e | ⟨x,_,h2⟩
  ·exact e
  ·exact h2
noncomputable def jbi(lv:Nat→Option Slots):FO where
 F:=T V
 get:=gT
 set:=fun f i v=>f.set i v
 ini:=fun l=>iniT l 0 .leaf
 keepK:=fun key f K=>match lv key with
  | none=>K f
  | some L=>rdT (gT f) L fun t=>K (mkT L t)
 keepK_spec:=fun key f K=>by
  cases lv key with
  | none=>exact .inr ⟨f,rfl,fun _=>.inl rfl⟩
  | some L =>
   rcases rdT_spec (gT f) L (fun t=>K (mkT L t)) with e | ⟨t,h1,h2⟩
   ·exact .inl e
   ·exact .inr ⟨mkT L t,h1,h2⟩
 get_set:=foTrie.get_set
 get_ini:=foTrie.get_ini
noncomputable def jk(L:Slots)(J:Tup L→AH→Res):T V→AH→Res:=fun fr h=>rdT (gT fr) L fun t=>J t h
noncomputable def exK:List (Nat×(T V→AH→Res))→Nat→T V→AH→Res
 | [],_,_,_=>none
 | (id,f) :: l,id',fr,h=>if id'=id then f fr h else exK l id' fr h
section
variable (c:Cfg) (lv:Nat→Option Slots) (N F:Nat)
noncomputable def exL(X:Code)(fr:T V)(h:AH)(n:T V→AH→Res)(e:Nat→T V→AH→Res)(r:T V→AH→Res):Res:=exec c (jbi lv) N F X fr h ⟨n,e,r⟩
noncomputable def runL:List Code→T V→AH→(T V→AH→Res)→(Nat→T V→AH→Res)→(T V→AH→Res)→Res
 | [],fr,h,n,_,_=>n fr h
 | a :: l,fr,h,n,e,r=>exL c lv N F a fr h (fun fr h=>runL l fr h n e r) e r
def peel:Nat→Code→List Code×Code
 | k+1,.seq (.region i o d) b=>((.region i o d) :: (peel k b).1,(peel k b).2)
 | _+1,.region i o d=>([.region i o d],.skip)
 | _,X=>([],X)
theorem peel_eq:∀ (k:Nat) (X:Code) (fr:T V) (h:AH) (n:T V→AH→Res) (e:Nat→T V→AH→Res) (r:T V→AH→Res),
  exL c lv N F X fr h n e r=runL c lv N F (peel k X).1 fr h (fun fr h=>exL c lv N F (peel k X).2 fr h n e r) e r:=by
 intro k
 induction k with
 | zero=>intro X fr h n e r;cases X <;> rfl
 | succ k ih =>
  intro X fr h n e r
  cases X
  case seq a b =>
   cases a
   case region i o d =>
    show exL c lv N F (.region i o d) fr h (fun fr h=>exL c lv N F b fr h n e r) e r=exL c lv N F (.region i o d) fr h (fun fr h=>runL c lv N F (peel k b).1 fr h (fun fr h=>exL c lv N F (peel k b).2 fr h n e r) e r) e r
    congr 1
    funext fr h
    exact ih b fr h n e r
   all_goals rfl
  case region i o d=>rfl
  all_goals rfl
variable {c lv N F}
theorem nd_chain{X:Code}{fr:T V}{h:AH}{n:T V→AH→Res}{e:Nat→T V→AH→Res}{r:T V→AH→Res}(k:Nat){L:Slots}{S:(Tup L→AH→Res)→Res}{Q:Tup L→AH→Res}
  (hc:∀ n,runL c lv N F (peel k X).1 fr h n e r=S (fun t h=>n (mkT L t) h)) (he:∀ t h,exL c lv N F (peel k X).2 (mkT L t) h n e r=Q t h):exL c lv N F X fr h n e r=S Q:=by
 rw [peel_eq c lv N F k,hc]
 congr 1
 funext t h
 exact he t h
theorem nd_norm{a b:Code}(ha:isRegion a=false){L:Slots}(hl:lv (jcd b)=some L){n:T V→AH→Res}{e:Nat→T V→AH→Res}{r:T V→AH→Res}{SB:Tup L→AH→Res}(hb:∀ t h,exL c lv N F b (mkT L t) h n e r=SB t h)(fr:T V)(h:AH) :
  exL c lv N F (.seq a b) fr h n e r=exL c lv N F a fr h (jk L SB) e r:=by
 unfold exL
 have e1:exec c (jbi lv) N F (.seq a b) fr h ⟨n,e,r⟩=exec c (jbi lv) N F a fr h ⟨if isRegion a then fun fr h=>exec c (jbi lv) N F b fr h ⟨n,e,r⟩ else fun fr h=>(jbi lv).keepK (jcd b) fr fun fr=>exec c (jbi lv) N F b fr h ⟨n,e,r⟩,e,r⟩:=rfl
 rw [e1,ha]
 congr 1
 simp only [Bool.false_eq_true,if_false]
 congr 1
 funext fr h
 show (match lv (jcd b) with | none=>_ | some L=>rdT (gT fr) L fun t=>exec c (jbi lv) N F b (mkT L t) h ⟨n,e,r⟩)=rdT (gT fr) L fun t=>SB t h
 rw [hl]
 show (rdT (gT fr) L fun t=>exec c (jbi lv) N F b (mkT L t) h ⟨n,e,r⟩)=rdT (gT fr) L fun t=>SB t h
 congr 1
 funext t
 exact hb t h
theorem nd_cond{x:Operand}{a b:Code}{fr:T V}{h:AH}{n:T V→AH→Res}{e:Nat→T V→AH→Res}{r:T V→AH→Res}{t:Bool}{A B:Res}(hx:evO c (jbi lv) fr x=.bool t)
  (ha:exL c lv N F a fr h n e r=A) (hb:exL c lv N F b fr h n e r=B):exL c lv N F (.cond x a b) fr h n e r=bif t then A else B:=by
 have e1:exL c lv N F (.cond x a b) fr h n e r=(match evO c (jbi lv) fr x with
  | .bool true=>exec c (jbi lv) N F a fr h ⟨n,e,r⟩
  | .bool false=>exec c (jbi lv) N F b fr h ⟨n,e,r⟩
  | _=>none):=rfl
 rw [e1,hx]
 cases t
 ·exact hb
 ·exact ha
theorem nd_block{id:Nat}{b:Code}{fr:T V}{h:AH}{n:T V→AH→Res}{es:List (Nat×(T V→AH→Res))}{r:T V→AH→Res}{A:Res}(hb:exL c lv N F b fr h n (exK ((id,n) :: es)) r=A):exL c lv N F (.block id b) fr h n (exK es) r=A:=hb
theorem nd_loop{b:Code}{n:T V→AH→Res}{e:Nat→T V→AH→Res}{r:T V→AH→Res}{L:Slots}(hl:lv (jcd b)=some L){SB:(Tup L→AH→Res)→Tup L→AH→Res}
  (hb:∀ J t h,exL c lv N F b (mkT L t) h (jk L J) e r=SB J t h) (fr:T V) (h:AH):exL c lv N F (.loop b) fr h n e r=rdT (gT fr) L fun t=>jaw (Tup L) F (fun t h J=>SB J t h) t h:=by
 have e1:exL c lv N F (.loop b) fr h n e r=jaw (T V) F (fun fr h m=>(jbi lv).keepK (jcd b) fr fun fr=>exec c (jbi lv) N F b fr h ⟨m,e,r⟩) fr h:=rfl
 rw [e1]
 have key:∀ m (fr:T V) (h:AH),jaw (T V) m (fun fr h m=>(jbi lv).keepK (jcd b) fr fun fr=>exec c (jbi lv) N F b fr h ⟨m,e,r⟩) fr h=rdT (gT fr) L fun t=>jaw (Tup L) m (fun t h J=>SB J t h) t h:=by
  intro m
  induction m with
  | zero=>intro fr h;exact (rdT_none (gT fr) L).symm
  | succ m ih =>
   intro fr h
   have ih':jaw (T V) m (fun fr h m=>(jbi lv).keepK (jcd b) fr fun fr=>exec c (jbi lv) N F b fr h ⟨m,e,r⟩)=jk L (fun t h=>jaw (Tup L) m (fun t h J=>SB J t h) t h):=by
    funext fr h;exact ih fr h
   show (match lv (jcd b) with
    | none=>_
    | some L=>rdT (gT fr) L fun t=>exec c (jbi lv) N F b (mkT L t) h ⟨jaw (T V) m (fun fr h m=>(jbi lv).keepK (jcd b) fr fun fr=>exec c (jbi lv) N F b fr h ⟨m,e,r⟩),e,r⟩)=_
   rw [hl,ih']
   show (rdT (gT fr) L fun t=>exL c lv N F b (mkT L t) h (jk L (fun t h=>jaw (Tup L) m (fun t h J=>SB J t h) t h)) e r)=rdT (gT fr) L fun t=>SB (jaw (Tup L) m (fun t h J=>SB J t h)) t h
   congr 1
   funext t
   exact hb _ t h
 exact key F fr h
theorem nd_chain'{X Y:Code}{fr:T V}{h:AH}{n:T V→AH→Res}{e:Nat→T V→AH→Res}{r:T V→AH→Res}(k:Nat){L:Slots}{S:(Tup L→AH→Res)→Res}{Q:Tup L→AH→Res}(hY:(peel k X).2=Y)
  (hc:∀ n,runL c lv N F (peel k X).1 fr h n e r=S (fun t h=>n (mkT L t) h)) (he:∀ t h,exL c lv N F Y (mkT L t) h n e r=Q t h):exL c lv N F X fr h n e r=S Q:=nd_chain k hc (by rw [hY];exact he)
theorem nd_norm'{X a b:Code}{L:Slots}(hX:X=.seq a b)(ha:isRegion a=false)(hl:lv (jcd b)=some L){n:T V→AH→Res}{e:Nat→T V→AH→Res}{r:T V→AH→Res}{SB:Tup L→AH→Res}(hb:∀ t h,exL c lv N F b (mkT L t) h n e r=SB t h)(fr:T V)(h:AH) :
  exL c lv N F X fr h n e r=exL c lv N F a fr h (jk L SB) e r:=by rw [hX];exact nd_norm ha hl hb fr h
theorem nd_cond'{X:Code}{x:Operand}{a b:Code}{fr:T V}{h:AH}{n:T V→AH→Res}{e:Nat→T V→AH→Res}{r:T V→AH→Res}{t:Bool}{A B:Res}(hX:X=.cond x a b)(hx:evO c (jbi lv) fr x=.bool t)
  (ha:exL c lv N F a fr h n e r=A) (hb:exL c lv N F b fr h n e r=B):exL c lv N F X fr h n e r=bif t then A else B:=by rw [hX];exact nd_cond hx ha hb
theorem nd_block'{X:Code}{id:Nat}{b:Code}{fr:T V}{h:AH}{n:T V→AH→Res}{es:List (Nat×(T V→AH→Res))}{r:T V→AH→Res}{A:Res}(hX:X=.block id b)(hb:exL c lv N F b fr h n (exK ((id,n) :: es)) r=A):exL c lv N F X fr h n (exK es) r=A:=by rw [hX];exact nd_block hb
theorem nd_loop'{X b:Code}{n:T V→AH→Res}{e:Nat→T V→AH→Res}{r:T V→AH→Res}{L:Slots}(hX:X=.loop b)(hl:lv (jcd b)=some L){SB:(Tup L→AH→Res)→Tup L→AH→Res}
  (hb:∀ J t h,exL c lv N F b (mkT L t) h (jk L J) e r=SB J t h) (fr:T V) (h:AH):exL c lv N F X fr h n e r=rdT (gT fr) L fun t=>jaw (Tup L) F (fun t h J=>SB J t h) t h:=by rw [hX];exact nd_loop hl hb fr h
end
theorem fn_eq{c:Cfg}{lv:Nat→Option Slots}{F:Nat}{f:FuncId}{args:List V}{h:AH}(fn:Func)(X:Code)(hf:c.P.funcs[f]?=some fn)(hb:fn.body=some X)(hn:args.length≤fn.ntmps) :
  execFn c (jbi lv) F f args h=exL c lv fn.ntmps F X (iniT args 0 .leaf) h (fin c (jbi lv) fn) (exK []) (fin c (jbi lv) fn):=by
 unfold execFn
 rw [hf]
 simp only [hb]
 rw [if_pos hn]
 have:(fun (_:Nat) (_:T V) (_:AH)=>(none:Res))=exK []:=by funext a b c;rfl
 exact congrArg (fun x=>exec c (jbi lv) fn.ntmps F X (iniT args 0 .leaf) h ⟨fin c (jbi lv) fn,x,fin c (jbi lv) fn⟩) this
def cAt:List Bool→Code→Code
 | [],X=>X
 | false :: p,.seq a _=>cAt p a
 | true :: p,.seq _ b=>cAt p b
 | false :: p,.cond _ a _=>cAt p a
 | true :: p,.cond _ _ b=>cAt p b
 | _ :: p,.block _ b=>cAt p b
 | _ :: p,.loop b=>cAt p b
 | _ :: _,X=>X
def cT:Nat→Code→Code
 | 0,X=>X
 | k+1,X=>cT k (cAt [true] X)
def cP:List Nat→Code→Code
 | [],X=>X
 | [k],X=>cT k X
 | k :: l,X=>cP l (cAt [false] (cT k X))
end Go.Proofs.YtcmhoboglapbdaaDoor.Ev
namespace Go.Proofs.YtcmhoboglapbdaaDoor.Ev
open Go
abbrev Fn:=List V→AH→Res
structure Cx where
 C:Nat→Fn
 X:Nat→Fn
 F:Nat
abbrev wr(k:IntKind)(n:Int):Int:=k.wrap n
def iand(k:IntKind)(a b:Int):Int:=k.wrap (BitVec.ofInt k.bits a &&& BitVec.ofInt k.bits b).toNat
def ior(k:IntKind)(a b:Int):Int:=k.wrap (BitVec.ofInt k.bits a ||| BitVec.ofInt k.bits b).toNat
def ixor(k:IntKind)(a b:Int):Int:=k.wrap (BitVec.ofInt k.bits a ^^^ BitVec.ofInt k.bits b).toNat
def ishl(k:IntKind)(a b:Int):Int:=k.wrap (a*2 ^ min b.toNat k.bits)
def ishr(k:IntKind)(a b:Int):Int:=a.fdiv (2 ^ min b.toNat k.bits)
def imax(a b:Int):Int:=if b>a then b else a
noncomputable def bV(o:Option V)(h:AH)(F:V→AH→Res):Res :=
 match o.map fun v=>(v,h) with
 | none=>none
 | some (v,h')=>F v h'
noncomputable def bI(k:IntKind)(o:Option V)(h:AH)(F:Int→AH→Res):Res:=bV o h fun v h=>ckI k v fun x=>F x h
noncomputable def bB(o:Option V)(h:AH)(F:Bool→AH→Res):Res:=bV o h fun v h=>ckB v fun x=>F x h
noncomputable def bA(o:Option V)(h:AH)(F:List V→AH→Res):Res:=bV o h fun v h=>ckA v fun x=>F x h
noncomputable def cV(o:Res)(F:V→AH→Res):Res :=
 match o with
 | none=>none
 | some (v,h')=>F v h'
noncomputable def cI(k:IntKind)(o:Res)(F:Int→AH→Res):Res:=cV o fun v h=>ckI k v fun x=>F x h
noncomputable def cB(o:Res)(F:Bool→AH→Res):Res:=cV o fun v h=>ckB v fun x=>F x h
noncomputable def cZ(o:Res)(F:List Nat→AH→Res):Res:=cV o fun v h=>ckS v fun x=>F x h
noncomputable def cA(o:Res)(F:List V→AH→Res):Res:=cV o fun v h=>ckA v fun x=>F x h
noncomputable def bS(o:Option AH)(F:AH→Res):Res :=
 match o.map fun h=>(V.bad,h) with
 | none=>none
 | some (_,h')=>F h'
noncomputable def ld(p:V)(h:AH):Option V :=
 match p with
 | .ptr a=>match jbj h a 1 with
  | some [v]=>some v
  | _=>none
 | _=>none
noncomputable def ldA(n:Nat)(p:V)(h:AH):Option V :=
 match p with
 | .ptr a=>(jbj h a n).map .agg
 | _=>none
noncomputable def st(n:Nat)(p v:V)(h:AH):Option AH :=
 match p with
 | .ptr a=>if true=true∧v.cells.length=n then writeN h a v.cells else none
 | _=>none
def fA(off:Nat)(p:V):Option V :=
 match p with
 | .ptr a=>some (.ptr ⟨a.b,a.L,a.o+off⟩)
 | _=>none
def ixA(n z:Nat)(p:V)(i:Int):Option V :=
 match p with
 | .ptr a=>if 0≤i∧i<n∧true=true then some (.ptr ⟨a.b,a.L,a.o+i.toNat*z⟩) else none
 | _=>none
def ixS(z:Nat)(s:V)(i:Int):Option V :=
 match s with
 | .slice a n _ _ _=>if 0≤i∧i<n∧true=true then some (.ptr ⟨a.b,a.L,a.o+i.toNat*z⟩) else none
 | _=>none
def ixC(n z:Nat)(cs:List V)(i:Int):Option V:=if 0≤i∧i<n then cs[i.toNat*z]? else none
def ixZ(s:List Nat)(i:Int):Option V:=(strAt s i).map fun (b:Nat)=>.int .u8 b
noncomputable def slA(n z:Nat)(p:V)(lo hi mx:Option V)(h:AH):Option V :=
 match p with
 | .ptr a =>
  match h.get a.b with
  | some k=>if k.minL≤a.L∧a.o+n*z≤a.L∧true=true then cutV a z n n true lo hi mx else none
  | none=>none
 | _=>none
def slS(z:Nat)(s:V)(lo hi mx:Option V):Option V :=
 match s with
 | .slice a n cap ex z'=>if z'=z∧true=true then cutV a z' n cap ex lo hi mx else none
 | .nilslice =>
  match mx with
  | none =>
   match bnd hi 0 0 with
   | none=>none
   | some h'=>match bnd lo 0 h' with
    | none=>none
    | some _=>if true=true then some .nilslice else none
  | some _=>none
 | .loose =>
  match mx with
  | none =>
   match bnd hi 0 0 with
   | none=>none
   | some h'=>match bnd lo 0 h' with
    | none=>none
    | some _=>if true=true then some .loose else none
  | some _=>none
 | _=>none
def lenS(s:V):Option V :=
 match s with
 | .slice _ n _ _ _=>some (.int .i64 n)
 | .nilslice=>some (.int .i64 0)
 | .loose=>some (.int .i64 0)
 | _=>none
def capS(s:V):Option V :=
 match s with
 | .slice _ _ c true _=>some (.int .i64 c)
 | .nilslice=>some (.int .i64 0)
 | _=>none
noncomputable def al(zs:List V)(e:Nat)(h:AH):V×AH:=(.ptr ⟨h.next,zs.length,0⟩,h.add ⟨Arr.make zs.length zs,0,0,false,e⟩)
noncomputable def mkS(z by_:Nat)(zs:List V)(e:Nat)(l c:Int)(h:AH):Res :=
 if 0<z∧0≤l∧l≤c∧c≤9223372036854775807∧(by_:Int)*c≤281474976710656 then
  some (.slice ⟨h.next,c.toNat*z,0⟩ l.toNat c.toNat true z,h.add ⟨Arr.make (c.toNat*z) zs,0,0,false,e⟩)
 else none
def fillW:List (Nat×Nat×V)→List V→Option (List V)
 | [],cs=>some cs
 | (off,size,v) :: rest,cs=>if v.isBad=false∧v.cells.length=size∧off+size≤cs.length then fillW rest (putL v.cells off cs) else none
def bld(ps:List (Nat×Nat×V))(zs:List V):Option V:=(fillW ps zs).map .agg
noncomputable def bsl(z n:Nat)(ps:List (Nat×Nat×V))(zs:List V)(e:Nat)(h:AH):Res :=
 match fillW ps (List.replicate n zs).flatten with
 | some cs=>if cs.all V.cell then some (.slice ⟨h.next,cs.length,0⟩ n n true z,h.add ⟨Arr.ofList cs,0,0,false,e⟩) else none
 | none=>none
noncomputable def toS(s:V)(h:AH):Res :=
 match s with
 | .slice a n cap ex z=>(absToStr (.slice a n cap ex z) h).map fun v=>(v,h)
 | .nilslice=>some (.str [],h)
 | .loose=>some (.str [],h)
 | .str s=>some (.str s,h)
 | _=>none
def capW(by_ need:Nat):Bool:=Nat.ble need 4611686018427387904 && Nat.ble (Nat.mul (Nat.add (Nat.mul 2 need) 128) by_) 281474976710656
noncomputable def app(z by_ e:Nat)(s x:V)(h:AH):Res :=
 match srcLen x with
 | none=>none
 | some n =>
  match srcCells x z n h with
  | none=>none
  | some new =>
   if new.length=n*z then
   match s with
   | .nilslice =>
    if n=0 then some (.nilslice,h)
    else if capW by_ n=true∧new.all V.cell=true then some (.slice ⟨h.next,new.length,0⟩ n n false z,h.add ⟨Arr.ofList new,0,0,false,e⟩)
    else none
   | .loose=>if n=0 then some (.loose,h) else none
   | .slice a sn cap ex z' =>
    if z'=z then
     if sn+n≤cap then
      if n=0 then some (.slice a sn cap ex z',h)
      else (writeN h ⟨a.b,a.L,a.o+sn*z'⟩ new).map fun h'=>(.slice a (sn+n) cap ex z',h')
     else if capW by_ (sn+n)=true∧new.all V.cell=true then
      if ex then
       match jbj h a (sn*z') with
       | some old=>if old.all V.cell=true then some (.slice ⟨h.next,(old++new).length,0⟩ (sn+n) (sn+n) false z',h.add ⟨Arr.ofList (old++new),0,0,false,e⟩) else none
       | none=>none
      else
       match h.get a.b with
       | some k =>
        if a.L=k.cells.n∧a.o+sn*z'=a.L∧k.ro=false∧k.minL≤a.L∧k.fz≤a.L∧k.e=e then some (.slice ⟨a.b,a.L+new.length,a.o⟩ (sn+n) (sn+n) false z',h.grow a.b k new) else none
       | none=>none
     else none
    else none
   | _=>none
   else none
noncomputable def appZ(z by_:Nat)(zs:List V)(e:Nat)(s:V)(n:Int)(h:AH):Res :=
 match s with
 | .nilslice =>
  if 0<z∧0≤n∧capW by_ n.toNat=true then
   if n.toNat=0 then some (.nilslice,h)
   else some (.slice ⟨h.next,n.toNat*z,0⟩ n.toNat n.toNat false z,h.add ⟨Arr.make (n.toNat*z) zs,0,0,false,e⟩)
  else none
 | _=>none
def arrAt(n:Nat)(s:V):Option V :=
 match s with
 | .slice a len _ _ _=>if n≤len then some (.ptr a) else none
 | _=>none
noncomputable def quiet(g:AH→Res)(h:AH):Res :=
 match g ⟨h.next,h.next,h.m⟩ with
 | none=>none
 | some (v,h1)=>if h.next≤h1.low then some (v,⟨h1.next,h.low,h1.m⟩) else none
def who(f:V)(args:List V):Option (FuncId×List V) :=
 match f with
 | .func f fs cs=>some (f,fs++args++cs)
 | _=>none
def hasB(P:Program)(f:FuncId):Option Bool :=
 match P.funcs[f]? with
 | none=>none
 | some fn=>if fn.name== "runtime.NumGoroutine" then none else some fn.body.isSome
noncomputable def callW(P:Program)(C X:Nat→Fn)(f:FuncId)(args:List V)(h:AH):Res :=
 match hasB P f with
 | some true=>C f args h
 | some false=>X f args h
 | none=>none
noncomputable def dyn(P:Program)(C X:Nat→Fn)(f:V)(args:List V)(h:AH):Res :=
 match who f args with
 | some (f,args)=>callW P C X f args h
 | none=>none
theorem dyn_fn{P:Program}{C X:Nat→Fn}{f:FuncId}{fs cs args:List V}{h:AH}(hb:hasB P f=some true):dyn P C X (.func f fs cs) args h=C f (fs++args++cs) h:=by
 show (match hasB P f with | some true=>C f (fs++args++cs) h | some false=>X f (fs++args++cs) h | none=>none)=_
 rw [hb]
def eqW(P:Program)(c:Bool)(t:Nat)(x y:V):Option V:=absBin P .eql t (bif c then .const (.bool true) else .tmp 0) (.tmp 0) x y
def neW(P:Program)(c:Bool)(t:Nat)(x y:V):Option V:=absBin P .neq t (bif c then .const (.bool true) else .tmp 0) (.tmp 0) x y
noncomputable def cvS(e:Nat)(s:V)(h:AH):Res :=
 match s with
 | .str s=>some (absToBytes e s h)
 | .slice a n cap ex z =>
  match h.get a.b with
  | some k=>if k.minL≤a.L∧k.fz=0∧k.ro=false then some (.slice a n cap ex z,h) else none
  | none=>none
 | _=>none
noncomputable def resW:List (Option V)→Option (List V)
 | []=>some []
 | r :: l=>match r with
  | none=>none
  | some v=>match resW l with
   | none=>none
   | some vs=>some (v :: vs)
noncomputable def finW(l:List (Option V))(h:AH):Res:=(resW l).map fun vs=>(pack vs,h)
end Go.Proofs.YtcmhoboglapbdaaDoor.Ev
namespace Go.Proofs.YtcmhoboglapbdaaDoor.Ev
open Go
theorem jae(v:V)(h:AH)(F:V→AH→Res):bV (some v) h F=F v h:=rfl
theorem jam(v:V)(h:AH)(F:V→AH→Res):cV (some (v,h)) F=F v h:=rfl
theorem jag(k:IntKind)(n:Int)(h:AH)(F:Int→AH→Res):bI k (some (.int k n)) h F=F n h:=if_pos rfl
theorem jan(k:IntKind)(n:Int)(h:AH)(F:Int→AH→Res):cI k (some (.int k n,h)) F=F n h:=if_pos rfl
theorem bB_some(x:Bool)(h:AH)(F:Bool→AH→Res):bB (some (.bool x)) h F=F x h:=rfl
theorem cB_some(x:Bool)(h:AH)(F:Bool→AH→Res):cB (some (.bool x,h)) F=F x h:=rfl
theorem cZ_some(x:List Nat)(h:AH)(F:List Nat→AH→Res):cZ (some (.str x,h)) F=F x h:=rfl
theorem jaf(x:List V)(h:AH)(F:List V→AH→Res):bA (some (.agg x)) h F=F x h:=rfl
theorem cA_some(x:List V)(h:AH)(F:List V→AH→Res):cA (some (.agg x,h)) F=F x h:=rfl
theorem jaj(h:AH)(F:AH→Res):bS (some h) F=F h:=rfl
def AH.WF(h:AH):Prop:=∀ b k,h.get b=some k→b<h.next
structure Old (n:Nat) (h h':AH):Prop where
 next:h.next≤h'.next
 get:∀ b,b<n→h'.get b=h.get b
 low:min h.low n≤h'.low
 wf:h'.WF
theorem Old.refl{h:AH}(hw:h.WF)(n:Nat):Old n h h:=⟨Nat.le_refl _,fun _ _=>rfl,Nat.min_le_left _ _,hw⟩
theorem Old.trans{n:Nat}{a b c:AH}(x:Old n a b)(y:Old n b c):Old n a c :=
 ⟨Nat.le_trans x.next y.next,fun i hi=>(y.get i hi).trans (x.get i hi),by have:=x.low;have:=y.low;omega,y.wf⟩
theorem Old.weak{n m:Nat}{a b:AH}(x:Old n a b)(hm:m≤n):Old m a b:=⟨x.next,fun i hi=>x.get i (by omega),by have:=x.low;omega,x.wf⟩
def jal(h:AH)(b e:Nat)(cs:List V):Prop:=∃ k,h.get b=some k∧k.cells.n=cs.length∧(∀ j,k.cells.get j=cs[j]?)∧k.ro=false∧k.fz=0∧k.minL≤cs.length∧k.e=e∧cs.all V.cell=true
theorem jal.lt{h:AH}{b e:Nat}{cs:List V}(hc:jal h b e cs)(hw:h.WF):b<h.next:=let ⟨k,h1,_⟩:=hc;hw b k h1
theorem jal.mono{h h':AH}{b e:Nat}{cs:List V}(hc:jal h b e cs)(hg:h'.get b=h.get b):jal h' b e cs:=let ⟨k,h1,h2⟩:=hc;⟨k,hg.trans h1,h2⟩
theorem readN_of{h:AH}{a:A}{k:Blk}{n:Nat}{cs:List V}(hk:h.get a.b=some k)(h1:k.minL≤a.L)(h2:a.L≤k.cells.n)(h3:a.o+n≤a.L)(hl:cs.length=n)(hget:∀ j v,cs[j]?=some v→k.cells.get (a.o+j)=some v):jbj h a n=some cs:=by
 rw [readN_eq,hk]
 simp only [Option.bind_some]
 rw [if_pos ⟨h1,h2,h3⟩,← hl]
 exact readL_of hget
theorem jal.read{h:AH}{b e:Nat}{cs:List V}(hc:jal h b e cs){L o n:Nat}(hL:L=cs.length)(ho:o+n≤cs.length):jbj h ⟨b,L,o⟩ n=some ((cs.drop o).take n):=by
 obtain ⟨k,h1,h2,h3,h4,h5,h6,h7⟩:=hc
 subst hL
 refine readN_of h1 h6 (by simp only;omega) ho (by rw [List.length_take,List.length_drop];omega) fun j v hj=>?_
 rw [h3]
 have hlt:j<n:=by
  have:=(List.getElem?_eq_some_iff.1 hj).1
  rw [List.length_take] at this
  omega
 rw [List.getElem?_take_of_lt hlt,List.getElem?_drop] at hj
 exact hj
theorem jal.read1{h:AH}{b e:Nat}{cs:List V}(hc:jal h b e cs){L o:Nat}(hL:L=cs.length){v:V}(hv:cs[o]?=some v):jbj h ⟨b,L,o⟩ 1=some [v]:=by
 have hlt:=(List.getElem?_eq_some_iff.1 hv).1
 rw [hc.read hL (by omega)]
 congr 1
 rw [List.take_one,List.head?_drop,hv];rfl
theorem jal.write{h:AH}{b e:Nat}{cs:List V}(hc:jal h b e cs)(hw:h.WF){L o:Nat}(hL:L=cs.length){vs:List V}(hv:vs.all V.cell=true)(ho:o+vs.length≤cs.length) :
  ∃ h',writeN h ⟨b,L,o⟩ vs=some h'∧jal h' b e (putL vs o cs)∧h'.next=h.next∧h'.low=min h.low b∧(∀ b',b'≠b→h'.get b'=h.get b')∧h'.WF:=by
 obtain ⟨k,h1,h2,h3,h4,h5,h6,h7,h8⟩:=hc
 subst hL
 have e1:writeN h ⟨b,cs.length,o⟩ vs=some ⟨h.next,Nat.min h.low b,h.m.set b ⟨setL vs o k.cells,cs.length,k.fz,k.ro,k.e⟩⟩:=by
  have e:writeN h ⟨b,cs.length,o⟩ vs=Option.rec (motive:=fun _=>Option AH) none (fun k=>bif Nat.beq cs.length k.cells.n && (Nat.ble k.minL cs.length && (Nat.ble k.fz o && (Nat.ble (o+vs.length) cs.length && (vs.all V.cell && not k.ro)))) then
   some ⟨h.next,Nat.min h.low b,h.m.set b ⟨setL vs o k.cells,cs.length,k.fz,k.ro,k.e⟩⟩ else none) (h.get b):=rfl
  rw [e,h1]
  have c1:Nat.beq cs.length k.cells.n=true:=by rw [h2];simp
  have c2:Nat.ble k.minL cs.length=true:=Nat.ble_eq_true_of_le h6
  have c3:Nat.ble k.fz o=true:=by rw [h5];exact Nat.ble_eq_true_of_le (Nat.zero_le _)
  have c4:Nat.ble (o+vs.length) cs.length=true:=Nat.ble_eq_true_of_le ho
  simp only [c1,c2,c3,c4,hv,h4,Bool.not_false,Bool.and_self,cond_true]
 refine ⟨_,e1,⟨⟨setL vs o k.cells,cs.length,k.fz,k.ro,k.e⟩,by rw [AH.get_set,if_pos rfl],?_,?_,h4,h5,?_,h7,?_⟩,rfl,rfl,fun b' hb'=>by rw [AH.get_set,if_neg hb'],?_⟩
 ·simp only;rw [setL_n,h2];simp only [putL,List.length_append,List.length_take,List.length_drop];omega
 ·intro j
  simp only
  rw [get_setL _ _ _ _ (by omega),h3]
  unfold putL
  by_cases hj:o≤j∧j<o+vs.length
  ·rw [if_pos hj,List.append_assoc,List.getElem?_append_right (by rw [List.length_take];omega),List.length_take,Nat.min_eq_left (by omega),List.getElem?_append_left (by omega)]
  ·rw [if_neg hj]
   by_cases hj2:j<o
   ·rw [List.append_assoc,List.getElem?_append_left (by rw [List.length_take];omega),List.getElem?_take_of_lt hj2]
   ·rw [List.append_assoc,List.getElem?_append_right (by rw [List.length_take];omega),List.length_take,Nat.min_eq_left (by omega),List.getElem?_append_right (by omega),List.getElem?_drop]
    congr 1
    omega
 ·simp only [putL,List.length_append,List.length_take,List.length_drop];omega
 ·have hall:∀ x∈cs,x.cell=true:=List.all_eq_true.1 h8
  rw [List.all_eq_true]
  intro x hx
  simp only [putL,List.mem_append] at hx
  rcases hx with (hx | hx) | hx
  ·exact hall x (List.mem_of_mem_take hx)
  ·exact List.all_eq_true.1 hv x hx
  ·exact hall x (List.mem_of_mem_drop hx)
 ·intro b' k' hk'
  rw [AH.get_set] at hk'
  by_cases hb:b'=b
  ·subst hb;exact hw _ _ h1
  ·rw [if_neg hb] at hk';exact hw _ _ hk'
theorem putL_one(v:V)(o:Nat)(cs:List V)(ho:o<cs.length):putL [v] o cs=cs.set o v:=by
 unfold putL
 simp only [List.length_cons,List.length_nil,Nat.zero_add]
 rw [List.set_eq_take_append_cons_drop,if_pos ho,List.append_assoc];rfl
theorem putL_all(vs cs:List V)(h:vs.length=cs.length):putL vs 0 cs=vs:=by
 unfold putL
 simp [h]
theorem add_cells{h:AH}(hw:h.WF)(c:Arr)(e:Nat){cs:List V}(hn:c.n=cs.length)(hg:∀ j,c.get j=cs[j]?)(ha:cs.all V.cell=true) :
  jal (h.add ⟨c,0,0,false,e⟩) h.next e cs∧(h.add ⟨c,0,0,false,e⟩).next=h.next+1∧Old h.next h (h.add ⟨c,0,0,false,e⟩):=by
 refine ⟨⟨_,by rw [AH.get_add,if_pos rfl],hn,hg,rfl,rfl,Nat.zero_le _,rfl,ha⟩,rfl,⟨Nat.le_succ _,fun b hb=>by rw [AH.get_add,if_neg (by omega)],Nat.min_le_left _ _,?_⟩⟩
 intro b k hk
 rw [AH.get_add] at hk
 by_cases hb:b=h.next
 ·subst hb;exact Nat.lt_succ_self _
 ·rw [if_neg hb] at hk;exact Nat.lt_succ_of_lt (hw _ _ hk)
theorem jay{h:AH}(hw:h.WF)(zs:List V)(e:Nat)(hz:zs.all V.cell=true)(h0:zs≠[]):jal (al zs e h).2 h.next e zs∧(al zs e h).1=.ptr ⟨h.next,zs.length,0⟩∧(al zs e h).2.next=h.next+1∧Old h.next h (al zs e h).2:=by
 obtain ⟨h1,h2,h3⟩:=add_cells hw (Arr.make zs.length zs) e (cs:=zs) rfl (fun j=>by
  rw [Arr.get_make]
  by_cases hj:j<zs.length
  ·rw [if_pos hj,Nat.mod_eq_of_lt hj]
  ·rw [if_neg hj,List.getElem?_eq_none (by omega)]) hz
 exact ⟨h1,rfl,h2,h3⟩
theorem ld_of{h:AH}{a:A}{v:V}(hr:jbj h a 1=some [v]):ld (.ptr a) h=some v:=by simp only [ld,hr]
theorem jbf{h:AH}{a:A}{n:Nat}{cs:List V}(hr:jbj h a n=some cs):ldA n (.ptr a) h=some (.agg cs):=by simp only [ldA,hr];rfl
theorem ixA_of{n z:Nat}{a:A}{i:Int}(h0:0≤i)(h1:i<n):ixA n z (.ptr a) i=some (.ptr ⟨a.b,a.L,a.o+i.toNat*z⟩):=by
 simp only [ixA]
 rw [if_pos ⟨h0,h1,trivial⟩]
theorem st_of{h h':AH}{a:A}{v:V}{n:Nat}(hn:v.cells.length=n)(hw:writeN h a v.cells=some h'):st n (.ptr a) v h=some h':=by
 simp only [st]
 rw [if_pos ⟨trivial,hn⟩,hw]
def Sl(z:Nat)(h:AH)(v:V)(n:Nat)(cs:List V):Prop :=
 cs.length=n*z∧((n=0∧(v=.nilslice∨v=.loose))∨∃ a cap ex,v=.slice a n cap ex z∧n≤cap∧jbj h a (n*z)=some cs)
theorem readN_alive{h:AH}{a:A}{n:Nat}{cs:List V}(hr:jbj h a n=some cs):∃ k,h.get a.b=some k∧k.minL≤a.L∧a.L≤k.cells.n∧a.o+n≤a.L∧readL k.cells n a.o=some cs:=by
 rw [readN_eq] at hr
 cases hk:h.get a.b with
 | none=>rw [hk] at hr;cases hr
 | some k =>
  rw [hk] at hr
  simp only [Option.bind_some] at hr
  split at hr
  ·rename_i hc;exact ⟨k,rfl,hc.1,hc.2.1,hc.2.2,hr⟩
  ·cases hr
theorem readN_part{h:AH}{a:A}{n:Nat}{cs:List V}(hr:jbj h a n=some cs){o m:Nat}(ho:o+m≤n):jbj h ⟨a.b,a.L,a.o+o⟩ m=some ((cs.drop o).take m):=by
 obtain ⟨k,h1,h2,h3,h4,h5⟩:=readN_alive hr
 obtain ⟨h6,h7⟩:=readL_spec h5
 refine readN_of h1 h2 h3 (by simp only;omega) (by rw [List.length_take,List.length_drop];omega) fun j v hj=>?_
 have hlt:j<m:=by
  have:=(List.getElem?_eq_some_iff.1 hj).1
  rw [List.length_take] at this
  omega
 rw [List.getElem?_take_of_lt hlt,List.getElem?_drop] at hj
 have:=h7 (o+j) v hj
 simp only
 rw [Nat.add_assoc]
 exact this
theorem readN_mono{h h':AH}{a:A}{n:Nat}{cs:List V}(hr:jbj h a n=some cs)(hg:h'.get a.b=h.get a.b):jbj h' a n=some cs:=by rw [readN_eq] at hr ⊢;rw [hg];exact hr
theorem Sl.mono{z:Nat}{h h':AH}{v:V}{n:Nat}{cs:List V}{m:Nat}(hs:Sl z h v n cs)(hw:h.WF)(hm:∀ b,b<h.next→h'.get b=h.get b):Sl z h' v n cs:=by
 obtain ⟨h1,h2 | ⟨a,cap,ex,h2,h3,h4⟩⟩:=hs
 ·exact ⟨h1,.inl h2⟩
 ·obtain ⟨k,hk,_⟩:=readN_alive h4
  exact ⟨h1,.inr ⟨a,cap,ex,h2,h3,readN_mono h4 (hm _ (hw _ _ hk))⟩⟩
theorem Sl.old{z:Nat}{h h':AH}{v:V}{n:Nat}{cs:List V}(hs:Sl z h v n cs)(hw:h.WF)(ho:Old h.next h h'):Sl z h' v n cs:=Sl.mono (m:=0) hs hw ho.get
theorem Sl.len{z:Nat}{h:AH}{v:V}{n:Nat}{cs:List V}(hs:Sl z h v n cs):lenS v=some (.int .i64 n):=by
 obtain ⟨h1,⟨rfl,rfl | rfl⟩ | ⟨a,cap,ex,rfl,h3,h4⟩⟩:=hs <;> rfl
theorem Sl.ix{z:Nat}{h:AH}{v:V}{n:Nat}{cs:List V}(hs:Sl z h v n cs){i:Int}(h0:0≤i)(hi:i<n):∃ a,ixS z v i=some (.ptr a)∧jbj h a z=some ((cs.drop (i.toNat*z)).take z):=by
 obtain ⟨h1,⟨rfl,_⟩ | ⟨a,cap,ex,rfl,h3,h4⟩⟩:=hs
 ·omega
 ·refine ⟨⟨a.b,a.L,a.o+i.toNat*z⟩,?_,readN_part h4 ?_⟩
  ·simp only [ixS]
   rw [if_pos ⟨h0,hi,trivial⟩]
  ·have:(i.toNat+1)*z≤n*z:=Nat.mul_le_mul_right z (by omega)
   rw [Nat.add_mul] at this
   omega
theorem Sl.ix1{h:AH}{v:V}{n:Nat}{cs:List V}(hs:Sl 1 h v n cs){i:Int}(h0:0≤i)(hi:i<n){x:V}(hx:cs[i.toNat]?=some x):∃ a,ixS 1 v i=some (.ptr a)∧jbj h a 1=some [x]:=by
 obtain ⟨a,h1,h2⟩:=hs.ix h0 hi
 refine ⟨a,h1,h2.trans ?_⟩
 congr 1
 rw [Nat.mul_one,List.take_one,List.head?_drop,hx];rfl
theorem Sl.cut{z:Nat}{h:AH}{v:V}{n:Nat}{cs:List V}(hs:Sl z h v n cs)(hz:0<z){lo hi:Option V}{l u:Nat}(hhi:(hi=none∧u=n)∨hi=some (.int .i64 u))(hlo:(lo=none∧l=0)∨lo=some (.int .i64 l))(hlu:l≤u)(hun:u≤n) :
  ∃ v',slS z v lo hi none=some v'∧Sl z h v' (u-l) ((cs.drop (l*z)).take ((u-l)*z)):=by
 have hlen:((cs.drop (l*z)).take ((u-l)*z)).length=(u-l)*z:=by
  rw [List.length_take,List.length_drop,hs.1]
  have:u*z≤n*z:=Nat.mul_le_mul_right z hun
  have e:(u-l)*z=u*z-l*z:=Nat.sub_mul u l z
  omega
 have bhi:∀ lim,u≤lim→bnd hi n lim=some u:=by
  intro lim hl
  rcases hhi with ⟨rfl,rfl⟩ | rfl
  ·rfl
  ·show (if 0≤(u:Int)∧(u:Int)≤lim then some (u:Int).toNat else none)=_
   rw [if_pos (by omega)];simp
 have blo:bnd lo 0 u=some l:=by
  rcases hlo with ⟨rfl,rfl⟩ | rfl
  ·rfl
  ·show (if 0≤(l:Int)∧(l:Int)≤u then some (l:Int).toNat else none)=_
   rw [if_pos (by omega)];simp
 obtain ⟨h1,⟨rfl,h2⟩ | ⟨a,cap,ex,rfl,h3,h4⟩⟩:=hs
 ·obtain rfl:u=0:=by omega
  obtain rfl:l=0:=by omega
  have b0:=bhi 0 (Nat.le_refl _)
  rcases h2 with rfl | rfl
  ·exact ⟨.nilslice,by simp only [slS,b0,blo,if_pos],hlen,.inl ⟨rfl,.inl rfl⟩⟩
  ·exact ⟨.loose,by simp only [slS,b0,blo,if_pos],hlen,.inl ⟨rfl,.inr rfl⟩⟩
 ·have bc:=bhi cap (by omega)
  have hrd:jbj h ⟨a.b,a.L,a.o+l*z⟩ ((u-l)*z)=some ((cs.drop (l*z)).take ((u-l)*z)):=readN_part h4 (by
   have:u*z≤n*z:=Nat.mul_le_mul_right z hun
   have e:(u-l)*z=u*z-l*z:=Nat.sub_mul u l z
   have e2:l*z≤u*z:=Nat.mul_le_mul_right z hlu
   omega)
  have hcut:slS z (.slice a n cap ex z) lo hi none=(if ex then some (if cap=l then .slice a (u-l) (cap-l) true z else .slice ⟨a.b,a.L,a.o+l*z⟩ (u-l) (cap-l) true z) else if l<cap then some (.slice ⟨a.b,a.L,a.o+l*z⟩ (u-l) (cap-l) false z) else some .loose):=by
   simp only [slS,and_self,if_true,cutV,bc,blo]
  rw [hcut]
  cases ex with
  | true =>
   by_cases hcl:cap=l
   ·simp only [if_true,if_pos hcl]
    refine ⟨_,rfl,hlen,.inr ⟨a,cap-l,true,rfl,by omega,?_⟩⟩
    have h0:u-l=0:=by omega
    rw [h0,Nat.zero_mul,List.take_zero]
    have:=readN_part h4 (o:=0) (m:=0) (by omega)
    simpa using this
   ·simp only [if_true,if_neg hcl]
    exact ⟨_,rfl,hlen,.inr ⟨_,_,_,rfl,by omega,hrd⟩⟩
  | false =>
   by_cases hcl:l<cap
   ·simp only [Bool.false_eq_true,if_false,if_pos hcl]
    exact ⟨_,rfl,hlen,.inr ⟨_,_,_,rfl,by omega,hrd⟩⟩
   ·simp only [Bool.false_eq_true,if_false,if_neg hcl]
    exact ⟨_,rfl,hlen,.inl ⟨by omega,.inr rfl⟩⟩
theorem Sl.arr{h:AH}{v:V}{n m:Nat}{cs:List V}{z:Nat}(hs:Sl z h v n cs)(hm:m≤n)(h0:0<m):∃ a,arrAt m v=some (.ptr a)∧jbj h a (m*z)=some (cs.take (m*z)):=by
 obtain ⟨h1,⟨rfl,_⟩ | ⟨a,cap,ex,rfl,h3,h4⟩⟩:=hs
 ·omega
 ·refine ⟨a,?_,?_⟩
  ·simp only [arrAt];rw [if_pos hm]
  ·have:=readN_part h4 (o:=0) (m:=m*z) (by have:=Nat.mul_le_mul_right z hm;omega)
   simpa using this
def jaa(l:List Nat):List V:=l.map byteV
theorem jad(l:List Nat):(jaa l).length=l.length:=List.length_map ..
theorem jck(l:List Nat)(i:Nat):(jaa l)[i]?=(l[i]?).map byteV:=List.getElem?_map ..
theorem jap(l:List Nat):(jaa l).all V.cell=true:=by
 rw [List.all_eq_true];intro x hx
 obtain ⟨n,_,rfl⟩:=List.mem_map.1 hx
 rfl
theorem byteL_append(a b:List Nat):jaa (a++b)=jaa a++jaa b:=List.map_append ..
theorem byteL_drop(l:List Nat)(n:Nat):(jaa l).drop n=jaa (l.drop n):=(List.map_drop ..).symm
theorem byteL_take(l:List Nat)(n:Nat):(jaa l).take n=jaa (l.take n):=(List.map_take ..).symm
theorem byteL_set(l:List Nat)(i n:Nat):(jaa l).set i (byteV n)=jaa (l.set i n):=(List.map_set ..).symm
theorem toBytes_byteL:∀ {l:List Nat},(∀ x∈l,x<256)→toBytes (jaa l)=some l:=by
 intro l
 induction l with
 | nil=>intro _;rfl
 | cons a l ih =>
  intro h
  show (match byteOf (byteV a),toBytes (jaa l) with | some n,some r=>some (n :: r) | _,_=>none)=_
  rw [ih (fun x hx=>h x (by simp [hx]))]
  have ha:=h a (by simp)
  show (match some (Nat.mod ((a:Int)).toNat 256),some l with | some n,some r=>some (n :: r) | _,_=>none)=_
  have:Nat.mod ((a:Int)).toNat 256=a:=by
   show ((a:Int)).toNat % 256=a
   rw [Int.toNat_natCast,Nat.mod_eq_of_lt ha]
  rw [this]
def Bs(h:AH)(v:V)(l:List Nat):Prop:=Sl 1 h v l.length (jaa l)∧∀ x∈l,x<256
theorem Bs.toS{h:AH}{v:V}{l:List Nat}(hb:Bs h v l):toS v h=some (.str l,h):=by
 obtain ⟨⟨h1,h2⟩,h3⟩:=hb
 rcases h2 with ⟨h0,rfl | rfl⟩ | ⟨a,cap,ex,rfl,h4,h5⟩
 ·rw [List.eq_nil_of_length_eq_zero h0];rfl
 ·rw [List.eq_nil_of_length_eq_zero h0];rfl
 ·show (absToStr (.slice a l.length cap ex 1) h).map (fun v=>(v,h))=_
  rw [Nat.mul_one] at h5
  simp only [absToStr,h5,Option.bind_some,toBytes_byteL h3,Option.map_some]
theorem Bs.old{h h':AH}{v:V}{l:List Nat}(hb:Bs h v l)(hw:h.WF)(ho:Old h.next h h'):Bs h' v l:=⟨hb.1.old hw ho,hb.2⟩
theorem Bs.ld{h:AH}{v:V}{l:List Nat}(hb:Bs h v l){i:Int}(h0:0≤i)(hi:i<l.length):∃ a,ixS 1 v i=some (.ptr a)∧Ev.ld (.ptr a) h=some (.int .u8 (l.getD i.toNat 0:Nat)):=by
 have hlt:i.toNat<l.length:=by omega
 obtain ⟨a,h1,h2⟩:=hb.1.ix1 h0 hi (x:=byteV l[i.toNat]) (by rw [jck,List.getElem?_eq_getElem hlt];rfl)
 exact ⟨a,h1,by rw [ld_of h2,List.getD_eq_getElem?_getD,List.getElem?_eq_getElem hlt];rfl⟩
theorem Bs.cut{h:AH}{v:V}{ns:List Nat}(hb:Bs h v ns){lo hi:Option V}{l u:Nat}(hhi:(hi=none∧u=ns.length)∨hi=some (.int .i64 u))(hlo:(lo=none∧l=0)∨lo=some (.int .i64 l))(hlu:l≤u)(hun:u≤ns.length) :
  ∃ v',slS 1 v lo hi none=some v'∧Bs h v' ((ns.drop l).take (u-l)):=by
 obtain ⟨v',h1,h2⟩:=hb.1.cut (by omega) hhi hlo hlu hun
 refine ⟨v',h1,?_,fun x hx=>hb.2 x (List.mem_of_mem_drop (List.mem_of_mem_take hx))⟩
 have hl:((ns.drop l).take (u-l)).length=u-l:=by rw [List.length_take,List.length_drop];omega
 rw [hl]
 simpa [byteL_drop,byteL_take] using h2
theorem Bs.arr{h:AH}{v:V}{l:List Nat}(hb:Bs h v l){m:Nat}(hm:m≤l.length)(h0:0<m):∃ a,arrAt m v=some (.ptr a)∧jbj h a m=some (jaa (l.take m)):=by
 obtain ⟨a,h1,h2⟩:=hb.1.arr hm h0
 exact ⟨a,h1,by simpa [byteL_take] using h2⟩
def Own(n0 z e:Nat)(h:AH)(v:V)(n:Nat)(cs:List V):Prop :=
 cs.length=n*z∧((n=0∧v=.nilslice)∨∃ b cap ex rest,v=.slice ⟨b,cap*z,0⟩ n cap ex z∧n0≤b∧n≤cap∧(cs++rest).length=cap*z∧(ex=false→n=cap)∧jal h b e (cs++rest))
theorem Own.sl{n0 z e:Nat}{h:AH}{v:V}{n:Nat}{cs:List V}(ho:Own n0 z e h v n cs):Sl z h v n cs:=by
 obtain ⟨h1,⟨rfl,rfl⟩ | ⟨b,cap,ex,rest,rfl,h2,h3,h4,h5,h6⟩⟩:=ho
 ·exact ⟨h1,.inl ⟨rfl,.inl rfl⟩⟩
 ·refine ⟨h1,.inr ⟨_,_,_,rfl,h3,?_⟩⟩
  rw [h6.read h4.symm (by rw [Nat.zero_add,h4];exact Nat.mul_le_mul_right z h3),List.drop_zero,← h1,List.take_left']
  rfl
theorem Own.mono{n0 z e:Nat}{h h':AH}{v:V}{n:Nat}{cs:List V}(ho:Own n0 z e h v n cs)(hw:h.WF)(hg:∀ b,b<h.next→h'.get b=h.get b):Own n0 z e h' v n cs:=by
 obtain ⟨h1,h2 | ⟨b,cap,ex,rest,rfl,h2,h3,h4,h5,h6⟩⟩:=ho
 ·exact ⟨h1,.inl h2⟩
 ·exact ⟨h1,.inr ⟨b,cap,ex,rest,rfl,h2,h3,h4,h5,h6.mono (hg _ (h6.lt hw))⟩⟩
def notIn(v:V)(b:Nat):Prop:=match v with
 | .slice a _ _ _ _=>b≠a.b
 | _=>True
theorem app_own{n0 z e by_:Nat}{h:AH}{v x:V}{n m:Nat}{cs ns:List V}(ho:Own n0 z e h v n cs)(hw:h.WF)(hn0:n0≤h.next)(hz:0<z)(hx:srcLen x=some m)(hc:srcCells x z m h=some ns)(hl:ns.length=m*z)(hcell:ns.all V.cell=true)(hcap:capW by_ (n+m)=true) :
  ∃ v' h',app z by_ e v x h=some (v',h')∧Own n0 z e h' v' (n+m) (cs++ns)∧Old n0 h h'∧(∀ b,b<h.next→notIn v b→h'.get b=h.get b)∧(∀ b,b<h.next→notIn v b→notIn v' b):=by
 obtain ⟨h1,⟨rfl,rfl⟩ | ⟨b,cap,ex,rest,rfl,h2,h3,h4,h5,h6⟩⟩:=ho
 ·have hcs:cs=[]:=List.eq_nil_of_length_eq_zero (by rw [h1,Nat.zero_mul])
  subst hcs
  by_cases hm:m=0
  ·subst hm
   have hns:ns=[]:=List.eq_nil_of_length_eq_zero (by rw [hl,Nat.zero_mul])
   subst hns
   refine ⟨.nilslice,h,?_,⟨by simp,.inl ⟨rfl,rfl⟩⟩,Old.refl hw _,fun _ _ _=>rfl,fun _ _ h=>h⟩
   simp only [app,hx,hc,hl,if_true]
  ·obtain ⟨g1,g2,g3⟩:=add_cells hw (Arr.ofList ns) e (cs:=ns) (Arr.ofList_n ns) (Arr.get_ofList ns) hcell
   rw [Nat.zero_add] at hcap
   refine ⟨.slice ⟨h.next,ns.length,0⟩ m m false z,_,?_,⟨by simp [hl],.inr ⟨h.next,m,false,[],?_,hn0,by omega,by simp [hl],fun _=>by omega,by simpa using g1⟩⟩,g3.weak hn0,fun b hb _=>g3.get b hb,fun b hb _=>(show b≠h.next by omega)⟩
   ·simp only [app,hx,hc,hl,if_true,if_neg hm,hcap,hcell,and_self]
   ·rw [hl,Nat.zero_add]
 ·have hlt:=h6.lt hw
  by_cases hfit:n+m≤cap
  ·by_cases hm:m=0
   ·subst hm
    have hns:ns=[]:=List.eq_nil_of_length_eq_zero (by rw [hl,Nat.zero_mul])
    subst hns
    refine ⟨_,h,?_,⟨by simp [h1],.inr ⟨b,cap,ex,rest,rfl,h2,h3,by simpa using h4,h5,by simpa using h6⟩⟩,Old.refl hw _,fun _ _ _=>rfl,fun _ _ h=>h⟩
    simp only [app,hx,hc,hl,if_true,Nat.add_zero,if_pos h3]
   ·have hrest:rest.length=(cap-n)*z:=by
     rw [List.length_append,h1] at h4
     rw [Nat.sub_mul];omega
    have hroom:m*z≤rest.length:=by rw [hrest];exact Nat.mul_le_mul_right z (by omega)
    obtain ⟨h',w1,w2,w3,w4,w5,w6⟩:=h6.write hw (L:=cap*z) (o:=n*z) h4.symm hcell (by rw [List.length_append,h1,hl];omega)
    have hput:putL ns (n*z) (cs++rest)=(cs++ns)++rest.drop (m*z):=by
     unfold putL
     rw [← h1,List.take_left' rfl,hl,List.drop_append]
     simp
    rw [hput] at w2
    refine ⟨.slice ⟨b,cap*z,0⟩ (n+m) cap ex z,h',?_,⟨by rw [List.length_append,h1,hl,Nat.add_mul],.inr ⟨b,cap,ex,rest.drop (m*z),rfl,h2,hfit,?_,(fun he=>by have:=h5 he;omega),w2⟩⟩,⟨by omega,fun b' hb'=>w5 b' (by omega),by rw [w4];omega,w6⟩,fun b' _ hb'=>w5 b' hb',fun _ _ h=>h⟩
    ·simp only [app,hx,hc,hl,if_true,if_pos hfit,if_neg hm,Nat.zero_add,w1];rfl
    ·rw [List.length_append,List.length_append,h1,hl,List.length_drop]
     rw [List.length_append,h1] at h4
     omega
  ·cases ex with
   | true =>
    have hrd:jbj h ⟨b,cap*z,0⟩ (n*z)=some cs:=by
     rw [h6.read h4.symm (by rw [Nat.zero_add,h4];exact Nat.mul_le_mul_right z h3),List.drop_zero,← h1,List.take_left' rfl]
    have hcc:cs.all V.cell=true:=by
     obtain ⟨_,_,_,_,_,_,_,_,h8⟩:=h6
     rw [List.all_append,Bool.and_eq_true] at h8
     exact h8.1
    have hall:(cs++ns).all V.cell=true:=by rw [List.all_append,hcc,hcell];rfl
    obtain ⟨g1,g2,g3⟩:=add_cells hw (Arr.ofList (cs++ns)) e (cs:=cs++ns) (Arr.ofList_n _) (Arr.get_ofList _) hall
    have hlen:(cs++ns).length=(n+m)*z:=by rw [List.length_append,h1,hl,Nat.add_mul]
    refine ⟨.slice ⟨h.next,(cs++ns).length,0⟩ (n+m) (n+m) false z,_,?_,⟨hlen,.inr ⟨h.next,n+m,false,[],by rw [hlen],hn0,by omega,by simpa using hlen,fun _=>rfl,by simpa using g1⟩⟩,g3.weak hn0,fun b hb _=>g3.get b hb,fun b hb _=>(show b≠h.next by omega)⟩
    simp only [app,hx,hc,hl,if_true,if_neg hfit,hcap,hcell,and_self,hrd,hcc]
   | false =>
    have hnc:=h5 rfl
    subst hnc
    obtain ⟨k,k1,k2,k3,k4,k5,k6,k7,k8⟩:=id h6
    have hrest:rest=[]:=by
     rw [List.length_append,h1] at h4
     exact List.eq_nil_of_length_eq_zero (by omega)
    subst hrest
    simp only [List.append_nil] at k2 k3 k6 k8 h4
    have hlen:(cs++ns).length=(n+m)*z:=by rw [List.length_append,h1,hl,Nat.add_mul]
    have hcond:n*z=k.cells.n∧0+n*z=n*z∧k.ro=false∧k.minL≤n*z∧k.fz≤n*z∧k.e=e:=⟨by rw [k2,h1],by omega,k4,by omega,by omega,k7⟩
    refine ⟨.slice ⟨b,n*z+ns.length,0⟩ (n+m) (n+m) false z,h.grow b k ns,?_,⟨hlen,.inr ⟨b,n+m,false,[],by rw [hl,Nat.add_mul],h2,Nat.le_refl _,by simpa using hlen,fun _=>rfl,?_⟩⟩,?_,?_,fun _ _ h=>h⟩
    ·simp only [app,hx,hc,hl,if_true,if_neg hfit,hcap,hcell,and_self,Bool.false_eq_true,if_false,k1]
     rw [if_pos (by simpa using hcond)]
    ·rw [List.append_nil]
     refine ⟨k.more ns,by rw [AH.get_grow,if_pos rfl],?_,?_,k4,k5,?_,k7,by rw [List.all_append,k8,hcell];rfl⟩
     ·show (Arr.pushAll ns k.cells).n=_
      rw [Arr.pushAll_n,k2,List.length_append]
     ·intro j
      show (Arr.pushAll ns k.cells).get j=_
      rw [Arr.get_pushAll,k2,k3]
      by_cases hj:j<cs.length
      ·rw [if_pos hj,List.getElem?_append_left hj]
      ·rw [if_neg hj,List.getElem?_append_right (by omega)]
     ·show k.minL≤_
      rw [List.length_append];omega
    ·refine ⟨Nat.le_refl _,fun b' hb'=>by rw [AH.get_grow,if_neg (by omega)],?_,?_⟩
     ·show min h.low n0≤Nat.min h.low b
      have:Nat.min h.low b=min h.low b:=rfl
      omega
     ·intro b' k' hk'
      rw [AH.get_grow] at hk'
      by_cases hb:b'=b
      ·subst hb;exact hlt
      ·rw [if_neg hb] at hk';exact hw _ _ hk'
    ·intro b' _ hb'
     rw [AH.get_grow,if_neg hb']
end Go.Proofs.YtcmhoboglapbdaaDoor.Ev
namespace Go.Proofs.YtcmhoboglapbdaaDoor.Ev
open Go
theorem p64:(2:Int) ^ 64=18446744073709551616:=rfl
theorem p32:(2:Int) ^ 32=4294967296:=rfl
theorem p8:(2:Int) ^ 8=256:=rfl
theorem jao{x:Int}(h1:-9223372036854775808≤x)(h2:x≤9223372036854775807):IntKind.wrap .i64 x=x:=by
 unfold IntKind.wrap
 have e:(if (IntKind.i64.signed && decide (x % 2 ^ IntKind.i64.bits≥2 ^ (IntKind.i64.bits-1)))=true then x % 2 ^ IntKind.i64.bits-2 ^ IntKind.i64.bits else x % 2 ^ IntKind.i64.bits)=if x % 18446744073709551616≥9223372036854775808 then x % 18446744073709551616-18446744073709551616 else x % 18446744073709551616:=by
  have h1:(IntKind.i64.signed && decide (x % 2 ^ IntKind.i64.bits≥2 ^ (IntKind.i64.bits-1)))=decide (x % 18446744073709551616≥9223372036854775808):=rfl
  rw [h1]
  simp only [decide_eq_true_eq]
  rfl
 refine Eq.trans e ?_
 split <;> omega
theorem wr_u64(x:Int):IntKind.wrap .u64 x=x % 18446744073709551616:=by
 unfold IntKind.wrap
 simp only [IntKind.bits,IntKind.signed,Bool.false_and,Bool.false_eq_true,if_false,p64]
theorem wr_u32(x:Int):IntKind.wrap .u32 x=x % 4294967296:=by
 unfold IntKind.wrap
 simp only [IntKind.bits,IntKind.signed,Bool.false_and,Bool.false_eq_true,if_false,p32]
theorem wr_u8(x:Int):IntKind.wrap .u8 x=x % 256:=by
 unfold IntKind.wrap
 simp only [IntKind.bits,IntKind.signed,Bool.false_and,Bool.false_eq_true,if_false,p8]
theorem jah{S:Type}{body:S→AH→(S→AH→Res)→Res}{out:Res→Prop}(Inv:Nat→S→AH→Prop)
  (step:∀ k s h n,Inv (k+1) s h→(∃ s' h',body s h n=n s' h'∧Inv k s' h')∨out (body s h n)) (last:∀ s h n,Inv 0 s h→out (body s h n)) :
  ∀ (m F:Nat) (s:S) (h:AH),Inv m s h→m<F→out (jaw S F body s h):=by
 intro m
 induction m with
 | zero =>
  intro F s h hI hF
  cases F with
  | zero=>omega
  | succ F=>exact last s h _ hI
 | succ m ih =>
  intro F s h hI hF
  cases F with
  | zero=>omega
  | succ F =>
   rcases step m s h (jaw S F body) hI with ⟨s',h',e,hI'⟩ | ho
   ·show out (body s h (jaw S F body))
    rw [e]
    exact ih F s' h' hI' (by omega)
   ·exact ho
theorem flatten_replicate_len(l:Nat)(zs:List V):(List.replicate l zs).flatten.length=l*zs.length:=by
 induction l with
 | zero=>simp
 | succ l ih=>rw [List.replicate_succ,List.flatten_cons,List.length_append,ih,Nat.succ_mul];omega
theorem get_replicate_flatten(zs:List V):∀ (l j:Nat),(List.replicate l zs).flatten[j]?=if j<l*zs.length then zs[j % zs.length]? else none:=by
 intro l
 induction l with
 | zero=>intro j;simp
 | succ l ih =>
  intro j
  rw [List.replicate_succ,List.flatten_cons]
  by_cases hj:j<zs.length
  ·rw [List.getElem?_append_left hj,if_pos (by rw [Nat.succ_mul];omega),Nat.mod_eq_of_lt hj]
  ·rw [List.getElem?_append_right (by omega),ih]
   have e:j % zs.length=(j-zs.length) % zs.length:=Nat.mod_eq_sub_mod (by omega)
   rw [e]
   by_cases h2:j-zs.length<l*zs.length
   ·rw [if_pos h2,if_pos (by rw [Nat.succ_mul];omega)]
   ·rw [if_neg h2,if_neg (by rw [Nat.succ_mul];omega)]
theorem mkS_own{h:AH}(hw:h.WF){z by_ e:Nat}{zs:List V}(hz:zs.length=z)(h0:0<z)(hc:zs.all V.cell=true){l:Nat}(hl:(l:Int)≤9223372036854775807)(hb:(by_:Int)*l≤281474976710656) :
  ∃ v h',mkS z by_ zs e l l h=some (v,h')∧Own h.next z e h' v l (List.replicate l zs).flatten∧Old h.next h h':=by
 have hall:(List.replicate l zs).flatten.all V.cell=true:=by
  rw [List.all_eq_true]
  intro x hx
  obtain ⟨y,hy,hx⟩:=List.mem_flatten.1 hx
  rw [List.eq_of_mem_replicate hy] at hx
  exact List.all_eq_true.1 hc x hx
 have hlen:(List.replicate l zs).flatten.length=l*z:=by rw [flatten_replicate_len,hz]
 obtain ⟨g1,g2,g3⟩:=add_cells hw (Arr.make (l*z) zs) e (cs:=(List.replicate l zs).flatten) hlen.symm (fun j=>by rw [Arr.get_make,get_replicate_flatten,hz]) hall
 refine ⟨.slice ⟨h.next,l*z,0⟩ l l true z,_,?_,⟨hlen,.inr ⟨h.next,l,true,[],rfl,Nat.le_refl _,Nat.le_refl _,by simpa using hlen,(fun h=>by cases h),by simpa using g1⟩⟩,g3⟩
 unfold mkS
 rw [if_pos ⟨h0,by omega,Int.le_refl _,hl,hb⟩]
 simp
theorem Own.set{n0 z e:Nat}{h:AH}{v:V}{n:Nat}{cs:List V}(ho:Own n0 z e h v n cs)(hw:h.WF){i:Int}(h0:0≤i)(hi:i<n){w:V}(hl:w.cells.length=z)(hc:w.cells.all V.cell=true) :
  ∃ a h',ixS z v i=some (.ptr a)∧st z (.ptr a) w h=some h'∧Own n0 z e h' v n (putL w.cells (i.toNat*z) cs)∧Old n0 h h'∧(∀ b,notIn v b→h'.get b=h.get b):=by
 obtain ⟨h1,⟨rfl,_⟩ | ⟨b,cap,ex,rest,rfl,h2,h3,h4,h5,h6⟩⟩:=ho
 ·omega
 ·have hlt:=h6.lt hw
  have hroom:i.toNat*z+z≤cs.length:=by
   have:(i.toNat+1)*z≤n*z:=Nat.mul_le_mul_right z (by omega)
   rw [Nat.add_mul] at this
   omega
  obtain ⟨h',w1,w2,w3,w4,w5,w6⟩:=h6.write hw (L:=cap*z) (o:=i.toNat*z) h4.symm hc (by rw [List.length_append,hl];omega)
  have hput:putL w.cells (i.toNat*z) (cs++rest)=putL w.cells (i.toNat*z) cs++rest:=by
   unfold putL
   rw [List.take_append_of_le_length (by omega),List.drop_append_of_le_length (by omega)]
   simp [List.append_assoc]
  have hlen:(putL w.cells (i.toNat*z) cs).length=cs.length:=by
   unfold putL
   simp only [List.length_append,List.length_take,List.length_drop,hl]
   omega
  rw [hput] at w2
  refine ⟨⟨b,cap*z,0+i.toNat*z⟩,h',?_,st_of hl (by rw [Nat.zero_add];exact w1),⟨hlen.trans h1,.inr ⟨b,cap,ex,rest,rfl,h2,h3,by rw [List.length_append,hlen,← h4,List.length_append],h5,w2⟩⟩,⟨by omega,fun b' hb'=>w5 b' (by omega),by rw [w4];omega,w6⟩,fun b' hb'=>w5 b' hb'⟩
  simp only [ixS]
  rw [if_pos ⟨h0,hi,trivial⟩]
theorem Own.setB{n0 e:Nat}{h:AH}{v:V}{l:List Nat}(ho:Own n0 1 e h v l.length (jaa l))(hw:h.WF){i:Int}(h0:0≤i)(hi:i<l.length)(x:Nat) :
  ∃ a h',ixS 1 v i=some (.ptr a)∧st 1 (.ptr a) (.int .u8 x) h=some h'∧Own n0 1 e h' v (l.set i.toNat x).length (jaa (l.set i.toNat x))∧Old n0 h h'∧(∀ b,notIn v b→h'.get b=h.get b):=by
 obtain ⟨a,h',g1,g2,g3,g4,g5⟩:=ho.set hw h0 hi (w:=byteV x) rfl rfl
 refine ⟨a,h',g1,g2,?_,g4,g5⟩
 rw [Nat.mul_one] at g3
 have e1:(byteV x).cells=[byteV x]:=rfl
 rw [e1,putL_one _ _ _ (by rw [jad];omega),byteL_set] at g3
 rw [List.length_set]
 exact g3
theorem Own.bs{n0 e:Nat}{h:AH}{v:V}{l:List Nat}(ho:Own n0 1 e h v l.length (jaa l))(hl:∀ x∈l,x<256):Bs h v l:=⟨ho.sl,hl⟩
theorem Bs.src{h:AH}{v:V}{l:List Nat}(hb:Bs h v l):srcLen v=some l.length∧srcCells v 1 l.length h=some (jaa l):=by
 obtain ⟨⟨h1,h2⟩,h3⟩:=hb
 rcases h2 with ⟨h0,rfl | rfl⟩ | ⟨a,cap,ex,rfl,h4,h5⟩
 ·rw [List.eq_nil_of_length_eq_zero h0];exact ⟨rfl,rfl⟩
 ·rw [List.eq_nil_of_length_eq_zero h0];exact ⟨rfl,rfl⟩
 ·refine ⟨rfl,?_⟩
  unfold srcCells
  by_cases hn:l.length=0
  ·rw [List.eq_nil_of_length_eq_zero hn];rfl
  ·simp only [if_neg hn];exact h5
theorem jbc{n0 e:Nat}{h:AH}{v x:V}{l m:List Nat}(ho:Own n0 1 e h v l.length (jaa l))(hb:Bs h x m)(hw:h.WF)(hn0:n0≤h.next)(hc:capW 1 (l.length+m.length)=true) :
  ∃ v' h',app 1 1 e v x h=some (v',h')∧Own n0 1 e h' v' (l++m).length (jaa (l++m))∧Old n0 h h'∧(∀ b,b<h.next→notIn v b→h'.get b=h.get b)∧(∀ b,b<h.next→notIn v b→notIn v' b):=by
 obtain ⟨s1,s2⟩:=hb.src
 obtain ⟨v',h',g1,g2,g3,g4,g5⟩:=app_own (by_:=1) ho hw hn0 (by omega) s1 s2 (by rw [jad,Nat.mul_one]) (jap m) hc
 exact ⟨v',h',g1,by rw [List.length_append,byteL_append];exact g2,g3,g4,g5⟩
theorem jci{n:Nat}(h:n≤140737488355000):capW 1 n=true:=by
 unfold capW
 rw [Bool.and_eq_true]
 refine ⟨Nat.ble_eq_true_of_le (by omega),Nat.ble_eq_true_of_le ?_⟩
 show (2*n+128)*1≤281474976710656
 omega
structure Wrote (h h':AH) (b:Nat):Prop where
 next:h'.next=h.next
 low:h'.low=min h.low b
 rest:∀ b',b'≠b→h'.get b'=h.get b'
 wf:h'.WF
theorem Wrote.old{h h':AH}{b n:Nat}(w:Wrote h h' b)(hb:n≤b):Old n h h':=⟨by rw [w.next];exact Nat.le_refl _,fun i hi=>w.rest i (by omega),by rw [w.low];omega,w.wf⟩
theorem jal.ldA{h:AH}{b e:Nat}{cs:List V}(hc:jal h b e cs){n:Nat}(hn:n=cs.length):Ev.ldA n (.ptr ⟨b,n,0⟩) h=some (.agg cs):=by
 refine jbf ((hc.read hn (by omega)).trans ?_)
 rw [List.drop_zero,hn,List.take_length]
theorem jal.put{h:AH}{b e:Nat}{cs vs:List V}(hc:jal h b e cs)(hw:h.WF){n:Nat}(hn:n=cs.length)(hv:vs.length=n)(ha:vs.all V.cell=true) :
  ∃ h',st n (.ptr ⟨b,n,0⟩) (.agg vs) h=some h'∧jal h' b e vs∧Wrote h h' b:=by
 obtain ⟨h',w1,w2,w3,w4,w5,w6⟩:=hc.write hw (L:=n) (o:=0) hn ha (by omega)
 rw [putL_all _ _ (by omega)] at w2
 exact ⟨h',st_of hv w1,w2,w3,w4,w5,w6⟩
theorem jal.ld1{h:AH}{b e:Nat}{cs:List V}(hc:jal h b e cs){n:Nat}(hn:n=cs.length){i:Int}(h0:0≤i)(hi:i<n){v:V}(hv:cs[i.toNat]?=some v) :
  ∃ a,ixA n 1 (.ptr ⟨b,n,0⟩) i=some (.ptr a)∧ld (.ptr a) h=some v:=by
 refine ⟨_,ixA_of h0 hi,ld_of (hc.read1 hn ?_)⟩
 simpa using hv
theorem jal.st1{h:AH}{b e:Nat}{cs:List V}(hc:jal h b e cs)(hw:h.WF){n:Nat}(hn:n=cs.length){i:Int}(h0:0≤i)(hi:i<n){v:V}(hv:v.cells=[v])(hcell:v.cell=true) :
  ∃ a h',ixA n 1 (.ptr ⟨b,n,0⟩) i=some (.ptr a)∧st 1 (.ptr a) v h=some h'∧jal h' b e (cs.set i.toNat v)∧Wrote h h' b:=by
 obtain ⟨h',w1,w2,w3,w4,w5,w6⟩:=hc.write hw (L:=n) (o:=0+i.toNat*1) (vs:=[v]) hn (by simp [hcell]) (by simp only [List.length_cons,List.length_nil];omega)
 refine ⟨_,h',ixA_of h0 hi,st_of (by rw [hv];rfl) (by rw [hv];exact w1),?_,w3,w4,w5,w6⟩
 rw [putL_one _ _ _ (by omega)] at w2
 simpa using w2
theorem bsl_own{h:AH}(hw:h.WF){z n e:Nat}{ps:List (Nat×Nat×V)}{zs cs:List V}(hf:fillW ps (List.replicate n zs).flatten=some cs)(hl:cs.length=n*z)(hc:cs.all V.cell=true) :
  ∃ v h',bsl z n ps zs e h=some (v,h')∧Own h.next z e h' v n cs∧Old h.next h h':=by
 obtain ⟨g1,g2,g3⟩:=add_cells hw (Arr.ofList cs) e (cs:=cs) (Arr.ofList_n cs) (Arr.get_ofList cs) hc
 refine ⟨.slice ⟨h.next,cs.length,0⟩ n n true z,_,?_,⟨hl,.inr ⟨h.next,n,true,[],by rw [hl],Nat.le_refl _,Nat.le_refl _,by simpa using hl,(fun h=>by cases h),by simpa using g1⟩⟩,g3⟩
 simp only [bsl,hf,hc,if_true]
theorem bsl_byte{h:AH}(hw:h.WF)(e x:Nat):∃ v h',bsl 1 1 [(0,1,.int .u8 x)] [.int .u8 0] e h=some (v,h')∧Own h.next 1 e h' v [x].length (jaa [x])∧Old h.next h h':=bsl_own hw (cs:=jaa [x]) rfl rfl rfl
theorem bsl_none{h:AH}(hw:h.WF)(e:Nat):∃ v h',bsl 1 0 [] [.int .u8 0] e h=some (v,h')∧Own h.next 1 e h' v ([]:List Nat).length (jaa [])∧Old h.next h h':=bsl_own hw (cs:=jaa []) rfl rfl rfl
theorem own_nil(n0 z e:Nat)(h:AH):Own n0 z e h .nilslice 0 []:=⟨by simp,.inl ⟨rfl,rfl⟩⟩
theorem Own.weak{n0 n1 z e:Nat}{h:AH}{v:V}{n:Nat}{cs:List V}(ho:Own n0 z e h v n cs)(hn:n1≤n0):Own n1 z e h v n cs:=by
 obtain ⟨h1,h2 | ⟨b,cap,ex,rest,h2,h3,h4⟩⟩:=ho
 ·exact ⟨h1,.inl h2⟩
 ·exact ⟨h1,.inr ⟨b,cap,ex,rest,h2,by omega,h4⟩⟩
theorem Own.old{n0 z e:Nat}{h h':AH}{v:V}{n:Nat}{cs:List V}(ho:Own n0 z e h v n cs)(hw:h.WF)(hd:Old h.next h h'):Own n0 z e h' v n cs:=ho.mono hw hd.get
theorem jbe{h:AH}(hw:h.WF)(cs:List V)(e:Nat)(hc:cs.all V.cell=true):∃ h',absBox e (.agg cs) h=some (.ptr ⟨h.next,cs.length,0⟩,h')∧jal h' h.next e cs∧h'.next=h.next+1∧Old h.next h h':=by
 obtain ⟨g1,g2,g3⟩:=add_cells hw (Arr.ofList cs) e (cs:=cs) (Arr.ofList_n cs) (Arr.get_ofList cs) hc
 refine ⟨_,?_,g1,g2,g3⟩
 unfold absBox
 rw [if_pos (show (V.agg cs).cells.all V.cell=true from hc)]
 rfl
theorem slS_notIn{z:Nat}{s v:V}{lo hi:Option V}{b:Nat}(h:slS z s lo hi none=some v)(hb:notIn s b):notIn v b:=by
 cases s <;> simp only [slS,reduceCtorEq] at h
 case slice a n cap ex z' =>
  split at h
  ·unfold cutV at h
   simp only at h
   split at h
   ·cases h
   ·split at h
    ·cases h
    ·split at h
     ·split at h <;> (cases h;exact hb)
     ·split at h <;> cases h
      ·exact hb
      ·trivial
  ·cases h
 case nilslice =>
  split at h
  ·cases h
  ·split at h
   ·cases h
   ·cases h;trivial
 case loose =>
  split at h
  ·cases h
  ·split at h
   ·cases h
   ·cases h;trivial
theorem Sl.notIn{z:Nat}{h:AH}{v:V}{n:Nat}{cs:List V}(hs:Sl z h v n cs)(hw:h.WF){b:Nat}(hb:h.next≤b):Ev.notIn v b:=by
 obtain ⟨_,⟨_,rfl | rfl⟩ | ⟨a,cap,ex,rfl,_,h4⟩⟩:=hs
 ·trivial
 ·trivial
 ·obtain ⟨k,hk,_⟩:=readN_alive h4
  have:=hw _ _ hk
  show b≠a.b
  omega
theorem Sl.keep{z:Nat}{h h':AH}{v:V}{n:Nat}{cs:List V}(hs:Sl z h v n cs)(hg:∀ b,¬Ev.notIn v b→h'.get b=h.get b):Sl z h' v n cs:=by
 obtain ⟨h1,h2 | ⟨a,cap,ex,rfl,h3,h4⟩⟩:=hs
 ·exact ⟨h1,.inl h2⟩
 ·exact ⟨h1,.inr ⟨a,cap,ex,rfl,h3,readN_mono h4 (hg _ (fun h=>h rfl))⟩⟩
theorem Bs.keep{h h':AH}{v:V}{l:List Nat}(hb:Bs h v l)(hg:∀ b,¬notIn v b→h'.get b=h.get b):Bs h' v l:=⟨hb.1.keep hg,hb.2⟩
theorem Bs.wrote{h h':AH}{v:V}{l:List Nat}{b:Nat}(hb:Bs h v l)(hw:Wrote h h' b)(hn:notIn v b):Bs h' v l:=hb.keep fun b' hb'=>hw.rest b' (fun e=>hb' (e▸hn))
theorem Own.fresh{n0 z e:Nat}{h:AH}{v:V}{n:Nat}{cs:List V}(ho:Own n0 z e h v n cs){b:Nat}(hb:b<n0):notIn v b:=by
 obtain ⟨h1,⟨_,rfl⟩ | ⟨b',cap,ex,rest,rfl,h2,_⟩⟩:=ho
 ·trivial
 ·show b≠b'
  omega
theorem jal.wrote{h h':AH}{b b' e:Nat}{cs:List V}(hc:jal h b e cs)(hw:Wrote h h' b')(hn:b≠b'):jal h' b e cs:=hc.mono (hw.rest b hn)
theorem jal.old{h h':AH}{b e:Nat}{cs:List V}(hc:jal h b e cs)(hw:h.WF)(hd:Old h.next h h'):jal h' b e cs:=hc.mono (hd.get b (hc.lt hw))
theorem jal.oldN{h h':AH}{b e n:Nat}{cs:List V}(hc:jal h b e cs)(hb:b<n)(hd:Old n h h'):jal h' b e cs:=hc.mono (hd.get b hb)
end Go.Proofs.YtcmhoboglapbdaaDoor.Ev
namespace Go.Proofs.YtcmhoboglapbdaaDoor.Ev
open Go Go.ChangeShapes Go.WideShapes Go.ChangeAt Go.RowKit Go.WideElems
theorem sameAt_of{W w:World}(hs:Same W w){p:MemPlace}(hlt:p.block<W.heap.size):W.sameAt w p:=by
 cases p with
 | cell b off =>
  show w.cell? ⟨b,off,none⟩=W.cell? ⟨b,off,none⟩
  unfold World.cell?
  rw [hs.heap b hlt]
 | map b=>exact hs.heap b hlt
theorem arg_stays{H:Type}{enc:TypeId×Value→H}{P:Program}{W w:World}(hs:Same W w){t:TypeId}(hl:laidOutB P=true)(hr:P.readableRec t=true)(hrow:t<P.types.size){v:Value}{d:DataW H}{ps:List MemPlace}
  (h:DataW.Trod enc P W 0 (fun _=>true) true t v d ps) (hlt:∀ p∈ps,p.block<W.heap.size) (sp:Nat→Bool) (hsp:∀ p∈ps,sp p.block=true):DataW.Trod enc P w 0 sp true t v d ps :=
 Trod_stays hl hr hrow h (fun p hp=>sameAt_of hs (hlt p hp)) hsp
theorem cell?_fits{W:World}{b off:Nat}{v:Value}(h:W.cell? ⟨b,off,none⟩=some v):∃ c e lo hi,W.heap[b]?=some (.cells c e (lo,hi))∧c[off]?=some v:=by
 unfold World.cell? at h
 simp only at h
 split at h
 ·rename_i c e fr hb
  obtain ⟨lo,hi⟩:=fr
  simp only [Option.isSome_none,Bool.false_eq_true,if_false] at h
  exact ⟨c,e,lo,hi,hb,h⟩
 all_goals first | (cases h;done) | (simp at h;done) | (split at h <;> simp at h)
theorem bytes_in{H:Type}{enc:TypeId×Value→H}{P:Program}{W:World}{base:Nat}{v:Value}{d:DataW H}{ps:List MemPlace}{t e:TypeId}(ht:P.underlying t=some (.slice e))(he:P.underlying e=some (.int .u8))(hc:P.cellsOf e=1)
  (hval:Value.okWide P W .any base t v) (h:DataW.Trod enc P W 0 (fun _=>true) true t v d ps) :
  ∃ l:List Nat,(∀ x∈l,x<256)∧((l=[]∧((∀ ρ,R ρ .nilslice v)∨(∀ ρ,R ρ .loose v))) ∨
   (l≠[]∧∃ cb off S e' cap elems spare,v=.slice (some ⟨cb,off,none⟩) l.length cap∧l.length≤cap∧off+cap≤S∧d=.slice elems spare∧elems.length=l.length∧∀ g,Tab.Fits ⟨g,jaa l,e'⟩ ⟨cb,off,S⟩ W)):=by
 obtain ⟨a1,len,cap,rfl⟩:=okWide_slice ht hval
 obtain ⟨fuel,hf⟩:=h
 rcases open_ints ht he hc hf with ⟨hcs,hx⟩ | ⟨a,len',cap',zs,hcs,_,hl,hm,hz,hx,hcell,hwz⟩
 ·simp [Value.cells] at hcs
  obtain ⟨rfl,rfl,rfl⟩:=hcs
  exact ⟨[],by simp,.inl ⟨rfl,.inl fun ρ=>rfl⟩⟩
 ·simp [Value.cells] at hcs
  obtain ⟨rfl,rfl,rfl⟩:=hcs
  simp only [if_true] at hz
  by_cases hlen:len=0
  ·subst hlen
   exact ⟨[],by simp,.inl ⟨rfl,.inr fun ρ=>⟨_,_,rfl⟩⟩⟩
  ·obtain ⟨ab,ao,spot⟩:=a
   have hspot:spot=none:=by simpa [Addr.add] using World.cell?_spot (hcell 0 (by omega))
   subst hspot
   simp only [Prod.mk.injEq] at hx
   have hb:∀ n∈zs,0≤n∧n≤255:=fun n hn=>bounds_u8 (hwz n hn)
   have hll:((zs.take len).map Int.toNat).length=len:=by rw [List.length_map,List.length_take];omega
   refine ⟨(zs.take len).map Int.toNat,?_,.inr ⟨?_,?_⟩⟩
   ·intro x hx
    obtain ⟨n,hn,rfl⟩:=List.mem_map.1 hx
    have:=hb n (List.mem_of_mem_take hn)
    omega
   ·intro h0
    rw [h0] at hll
    simp at hll
    omega
   ·have h0:=hcell 0 (by omega)
    rw [Addr.add_lit] at h0
    obtain ⟨c,e',lo,hi,g1,g2⟩:=cell?_fits h0
    have hall:∀ i,i<cap→c[ao+i]?=some (.int .u8 (zs.getD i 0)):=by
     intro i hi
     have hi':=hcell i (by omega)
     rw [Addr.add_lit] at hi'
     obtain ⟨c',e'',lo',hi'',g3,g4⟩:=cell?_fits hi'
     rw [g1] at g3
     cases g3
     exact g4
    have hS:ao+cap≤c.size:=by
     have:=(Array.getElem?_eq_some_iff.1 (hall (cap-1) (by omega))).1
     omega
    refine ⟨ab,ao,c.size,e',cap,_,_,by rw [hll],by rw [hll];exact hl,hS,hx.1,by simp [lits,hll],fun g=>⟨c,lo,hi,g1,rfl,by simp only [jad,hll];omega,fun ρ j v hv=>?_⟩⟩
    simp only [jck] at hv
    rw [List.getElem?_map] at hv
    have hj:j<len:=by
     rcases Nat.lt_or_ge j len with h | h
     ·exact h
     ·rw [List.getElem?_eq_none (by rw [List.length_take];omega)] at hv;cases hv
    have hj2:j<zs.length:=by omega
    rw [List.getElem?_take_of_lt hj,List.getElem?_eq_getElem hj2] at hv
    cases hv
    refine ⟨_,hall j (by omega),?_⟩
    have:=hb _ (List.getElem_mem hj2)
    show Value.int .u8 (zs.getD j 0)=.int .u8 ((zs[j].toNat:Nat):Int)
    rw [List.getD_eq_getElem?_getD,List.getElem?_eq_getElem hj2]
    simp only [Option.getD_some]
    congr 1
    omega
theorem tab_get{n:Nat}{l:List Tab}{g:Nat}{t:Tab}(h:tabOf l g=some t):(tabsH n l).get g=some ⟨Arr.ofList t.vs,0,0,true,t.e⟩:=by
 show (tabsT l).get g=_
 rw [tabsT_get,h];rfl
theorem tab_read{n:Nat}{l:List Tab}{g:Nat}{t:Tab}(h:tabOf l g=some t){L:Nat}(hL:L=t.vs.length):jbj (tabsH n l) ⟨g,L,0⟩ L=some t.vs:=by
 subst hL
 refine readN_of (tab_get h) (Nat.zero_le _) (by simp only [Arr.ofList_n];exact Nat.le_refl _) (by simp) rfl fun j v hv=>?_
 simp only [Nat.zero_add]
 rw [Arr.get_ofList];exact hv
theorem tab_bs{n:Nat}{l:List Tab}{g:Nat}{bs:List Nat}{e:Nat}(h:tabOf l g=some ⟨g,jaa bs,e⟩)(hb:∀ x∈bs,x<256):Bs (tabsH n l) (.slice ⟨g,bs.length,0⟩ bs.length bs.length false 1) bs:=by
 refine ⟨⟨by rw [jad,Nat.mul_one],.inr ⟨_,_,_,rfl,Nat.le_refl _,?_⟩⟩,hb⟩
 rw [Nat.mul_one]
 exact tab_read h (jad bs).symm
theorem tabs_wf{n:Nat}{l:List Tab}(hn:∀ t∈l,t.g<n):(tabsH n l).WF:=by
 intro b k hk
 obtain ⟨t,h1,_⟩:=tabsH_inv hk
 obtain ⟨h2,rfl⟩:=tabOf_spec h1
 exact hn t h2
theorem tab_R{l:List Tab}{pl:Nat→Spot}{g e:Nat}{bs:List Nat}(h:tabOf l g=some ⟨g,jaa bs,e⟩){cb off S cap:Nat}(hp:pl g=⟨cb,off,S⟩)(hcap:bs.length≤cap)(hS:off+cap≤S) :
  R (tabsRho l pl) (.slice ⟨g,bs.length,0⟩ bs.length bs.length false 1) (.slice (some ⟨cb,off,none⟩) bs.length cap):=by
 have h1:=tabsRho_of (pl:=pl) h
 simp only [jad,hp] at h1
 refine ⟨cb,-(off:Int),S,cap,?_,h1,?_,hcap,(by intro h;cases h),Nat.le_refl _,?_⟩
 ·simp
 ·simp only;omega
 ·simp only;omega
theorem arr_in{H:Type}{enc:TypeId×Value→H}{P:Program}{W:World}{base:Nat}{v:Value}{d:DataW H}{ps:List MemPlace}{t e n:Nat}{k:IntKind}(ht:P.underlying t=some (.array n e))(he:P.underlying e=some (.int k))(hc:P.cellsOf e=1)(hct:P.cellsOf t=n)
  (hval:Value.okWide P W .any base t v) (h:DataW.Trod enc P W 0 (fun _=>true) true t v d ps) :
  ∃ zs:List Int,zs.length=n∧(∀ z∈zs,(Lit.int k z).wf=true)∧v=.agg (zs.map (Value.int k)).toArray:=by
 unfold Value.okWide at hval
 rw [ht] at hval
 obtain ⟨cs,rfl,hsz,_⟩:=hval
 obtain ⟨fuel,hf⟩:=h
 obtain ⟨xs,m,rfl,hx,hlen,hxl,hel⟩:=DataW.trod_array ht hf
 have hcl:(Value.agg cs).cells.toList=cs.toList:=rfl
 rw [hcl] at hlen hel
 rw [hct] at hlen
 have each:∀ i,i<n→∃ z,cs.toList[i]?=some (.int k z)∧(Lit.int k z).wf=true:=by
  intro i hi
  have h1:=hel i hi
  rw [hc,Nat.mul_one,List.getElem?_eq_getElem (show i<xs.length by omega)] at h1
  obtain ⟨z,h2,_,h3⟩:=DataW.trod_int he h1
  refine ⟨z,?_,h3⟩
  rw [List.take_one,List.head?_drop,List.getElem?_eq_getElem (show i<cs.toList.length by omega)] at h2
  rw [List.getElem?_eq_getElem (show i<cs.toList.length by omega)]
  simp only [Option.toList_some,List.cons.injEq,and_true] at h2
  rw [h2]
 refine ⟨cs.toList.map fun | .int _ z=>z | _=>0,by simpa using hlen,?_,?_⟩
 ·intro z hz
  obtain ⟨u,hu,rfl⟩:=List.mem_map.1 hz
  obtain ⟨i,hi,rfl⟩:=List.getElem_of_mem hu
  obtain ⟨z,h1,h2⟩:=each i (by omega)
  rw [List.getElem?_eq_getElem hi] at h1
  rw [Option.some.inj h1]
  exact h2
 ·congr 1
  apply Array.ext'
  simp only [List.map_map]
  apply List.ext_getElem?
  intro i
  rw [List.getElem?_map]
  by_cases hi:i<n
  ·obtain ⟨z,h1,_⟩:=each i hi
   rw [h1];rfl
  ·rw [List.getElem?_eq_none (by omega)];rfl
theorem agg_R(ρ:Rho)(k:IntKind)(zs:List Int):R ρ (.agg (zs.map (V.int k))) (.agg (zs.map (Value.int k)).toArray):=⟨_,rfl,ints_RL ρ k zs⟩
theorem bytes_of{zs:List Int}(h:∀ z∈zs,(Lit.int .u8 z).wf=true):zs.map (V.int .u8)=jaa (zs.map Int.toNat)∧∀ x∈zs.map Int.toNat,x<256:=by
 constructor
 ·unfold jaa
  rw [List.map_map]
  apply List.map_congr_left
  intro z hz
  have:=bounds_u8 (h z hz)
  show V.int .u8 z=.int .u8 ((z.toNat:Nat):Int)
  congr 1
  omega
 ·intro x hx
  obtain ⟨z,hz,rfl⟩:=List.mem_map.1 hx
  have:=bounds_u8 (h z hz)
  omega
end Go.Proofs.YtcmhoboglapbdaaDoor.Ev
namespace Go.Proofs.YtcmhoboglapbdaaDoor
open Go Ev
noncomputable abbrev PP:Program:=Tryd.prog
abbrev Kn:=T V→AH→Res
abbrev Ke:=Nat→T V→AH→Res
def cBody(fn:Func):Code:=match fn.body with
 | some b=>b
 | none=>.skip
abbrev nzad:Nat:=4
abbrev nzae:Nat:=8
abbrev nzaj:Nat:=9
abbrev nzav:Nat:=12
abbrev nzam:Nat:=13
abbrev nzax:Nat:=14
abbrev nzbc:Nat:=15
abbrev nzbd:Nat:=16
abbrev nzaf:Nat:=17
abbrev nzak:Nat:=18
abbrev nzbb:Nat:=19
abbrev nzba:Nat:=21
abbrev nzbk:Nat:=22
abbrev nzbn:Nat:=23
abbrev nzao:Nat:=24
abbrev nzap:Nat:=25
abbrev nzan:Nat:=26
abbrev nzbl:Nat:=27
abbrev nzbi:Nat:=28
abbrev nzaq:Nat:=30
abbrev nzac:Nat:=31
abbrev nzar:Nat:=32
abbrev nzai:Nat:=33
abbrev nzbf:Nat:=34
abbrev nzaw:Nat:=35
abbrev nzbe:Nat:=36
abbrev nzay:Nat:=37
abbrev nzas:Nat:=38
abbrev nzbj:Nat:=39
abbrev nzal:Nat:=40
abbrev nzbg:Nat:=41
abbrev nzaz:Nat:=42
abbrev nzbz:Nat:=43
abbrev nzag:Nat:=44
abbrev nzbm:Nat:=45
abbrev jcf:Nat:=46
abbrev nzaa:Nat:=47
abbrev nzbh:Nat:=48
abbrev nzau:Nat:=49
abbrev jcb:Nat:=50
abbrev nzat:Nat:=51
abbrev nzab:Nat:=52
abbrev nzbr:Nat:=53
abbrev nzbq:Nat:=54
abbrev nzbo:Nat:=55
abbrev nzbp:Nat:=56
abbrev nzca:Nat:=57
abbrev nzbw:Nat:=58
abbrev nzby:Nat:=59
abbrev nzbx:Nat:=60
abbrev n_math_bits_Len32:Nat:=61
abbrev nzah:Nat:=62
abbrev n_bytealg_Compare:Nat:=67
abbrev nzcb:Nat:=68
abbrev nzbu:Nat:=69
abbrev nzcc:Nat:=70
abbrev nzbs:Nat:=71
abbrev nzbt:Nat:=72
abbrev nzbv:Nat:=73
abbrev T_int:Nat:=3
abbrev T_bool:Nat:=4
abbrev jai:Nat:=5
abbrev jab:Nat:=24
abbrev T_s_uint8:Nat:=26
abbrev T_s_packidx_Row:Nat:=30
abbrev T_uint32:Nat:=42
abbrev jcm:Nat:=43
abbrev jak:Nat:=45
abbrev jac:Nat:=48
abbrev jbl:Nat:=59
abbrev jba:Nat:=66
abbrev jbb:Nat:=85
abbrev jbt:Nat:=105
abbrev GL0:Nat:=64
def GG(g:Nat):Option Nat:=bif Nat.beq g 0 then some GL0 else none
noncomputable def cfgS(e:Cx):Cfg:=⟨PP,GG,e.C,e.X,fun _=>none⟩
noncomputable def lvT(l:List (Nat×Slots))(k:Nat):Option Slots:=List.rec none (fun p _ ih=>bif Nat.beq k p.1 then some p.2 else ih) l
end Go.Proofs.YtcmhoboglapbdaaDoor
namespace Go.Proofs.YtcmhoboglapbdaaDoor
open Go Go.ChangeShapes Go.WideShapes Go.ChangeAt Go.RowKit Ev
theorem own:ownKnob Tryd.prog.godebug=none:=by kernel_rfl
theorem gK:Tryd.prog.globalNamed "codicil/sha.k"=some 0:=by kernel_rfl
theorem gKType:(Tryd.prog.globals[0]?).map (·.type)=some 101:=by kernel_rfl
theorem gKArr:Tryd.prog.underlying 101=some (.array 64 42):=by kernel_rfl
theorem gKInt:Tryd.prog.underlying 42=some (.int .u32):=by kernel_rfl
theorem cells43:Tryd.prog.cellsOf 101=64:=by kernel_rfl
theorem cells22:Tryd.prog.cellsOf 42=1:=by kernel_rfl
def kTab:List Int:=[1116352408,1899447441,3049323471,3921009573,961987163,1508970993,2453635748,2870763221,3624381080,310598401,607225278,1426881987,1925078388,2162078206,2614888103,3248222580,3835390401,4022224774,264347078,604807628,770255983,1249150122,1555081692,1996064986,2554220882,2821834349,2952996808,3210313671,3336571891,3584528711,113926993,338241895,666307205,773529912,1294757372,1396182291,1695183700,1986661051,2177026350,2456956037,2730485921,2820302411,3259730800,3345764771,3516065817,3600352804,4094571909,275423344,430227734,506948616,659060556,883997877,958139571,1322822218,1537002063,1747873779,1955562222,2024104815,2227730452,2361852424,2428436474,2756734187,3204031479,3329325298]
theorem table{row:OpenClaim}(hrow:row.laid=[("codicil/sha.k",Rows.laid_codicil_sha_k)]){W:World}(h:laidMetH Tryd.prog row.laid W):Lib.TabIs Tryd.prog W "codicil/sha.k" .u32 kTab:=by
 rw [hrow] at h
 exact Lib.tabIs_of_head (rest:=[]) gK gKType gKArr gKInt cells22 cells43 h
noncomputable def xs:List XRow:=[⟨67,Extern.BytealgCompare.compare,absCompare⟩]
noncomputable def gOf(g:Nat):Option Nat:=bif Nat.beq g 0 then some 64 else none
noncomputable def env:Env:=⟨Tryd.prog,gOf,xOf xs,fun _=>none,fun _=>foTrie,1000000,fun _=>none⟩
theorem xs_ok:∀ r∈xs,r.OK Tryd.prog:=by
 intro r hr
 simp only [xs,List.mem_cons,List.not_mem_nil,or_false] at hr
 subst hr
 exact ⟨⟨Tryd.f67,Tryd.func67,by kernel_rfl,by kernel_rfl,by kernel_rfl,by kernel_rfl⟩,fun _ _ _ _ _ _ _ h1 h2 h3=>compare_sound h1 h2 h3,compare_step⟩
theorem env_ok:env.OK:=⟨by kernel_rfl,xOf_sound rfl xs_ok,xOf_astep xs_ok,fun f g h=>(by cases h),fun f g h=>(by cases h),fun o m h=>(by cases h)⟩
def spot(g:Nat):Spot:=⟨g,0,64⟩
noncomputable def laidWorld(os:Os):World :=
 { World.holding Tryd.prog os ⟨#[],#[],[]⟩ with heap:=(World.holding Tryd.prog os ⟨#[],#[],[]⟩).heap.modify 0 fun
   | .cells _ t frozen=>.cells (kTab.map fun z=>Value.int .u32 z).toArray t frozen
   | o=>o }
end Go.Proofs.YtcmhoboglapbdaaDoor
namespace Go.Proofs.YtcmhoboglapbdaaDoor
open Go
def w32(n:Int):Int:=IntKind.wrap .u32 n
def ad(a b:Int):Int:=IntKind.wrap .u32 (a+b)
def xo(a b:Int):Int:=IntKind.wrap .u32 (BitVec.ofInt 32 a ^^^ BitVec.ofInt 32 b).toNat
def an(a b:Int):Int:=IntKind.wrap .u32 (BitVec.ofInt 32 a &&& BitVec.ofInt 32 b).toNat
def orr(a b:Int):Int:=IntKind.wrap .u32 (BitVec.ofInt 32 a ||| BitVec.ofInt 32 b).toNat
def no(a:Int):Int:=IntKind.wrap .u32 (BitVec.ofInt 32 4294967295 ^^^ BitVec.ofInt 32 a).toNat
def sl(a:Int)(n:Nat):Int:=IntKind.wrap .u32 (a*2 ^ n)
def sr(a:Int)(n:Nat):Int:=a.fdiv (2 ^ n)
def rot(x:Int)(s:Nat):Int:=orr (sl x s) (sr x (32-s))
def word(b:List Int):List Int:=match b with
 | [p,q,r,s]=>[orr (orr (orr (sl (w32 p) 24) (sl (w32 q) 16)) (sl (w32 r) 8)) (w32 s)]
 | _=>[]
def words:Nat→List Int→List Int→List Int
 | 0,_,acc=>acc
 | n+1,b,acc=>words n (b.drop 4) (word (b.take 4)++acc)
def more1(r:List Int):Int :=
 let x:=r.getD 14 0
 let y:=r.getD 1 0
 ad (ad (ad (r.getD 15 0) (xo (xo (rot x 25) (rot x 14)) (sr x 3))) (r.getD 6 0)) (xo (xo (rot y 15) (rot y 13)) (sr y 10))
def more:Nat→List Int→List Int
 | 0,r=>r
 | n+1,r=>more n (more1 r :: r)
structure S8 where
 a:Int
 b:Int
 c:Int
 d:Int
 e:Int
 f:Int
 g:Int
 h:Int
def uOf(s:S8)(k w:Int):Int:=ad (ad (ad (ad s.h (xo (xo (rot s.e 26) (rot s.e 21)) (rot s.e 7))) (orr (an s.e s.f) (an (no s.e) s.g))) k) w
def vOf(s:S8):Int:=ad (xo (xo (rot s.a 30) (rot s.a 19)) (rot s.a 10)) (xo (xo (an s.a s.b) (an s.a s.c)) (an s.b s.c))
def round(s:S8)(k w:Int):S8:=⟨ad (uOf s k w) (vOf s),s.a,s.b,s.c,ad s.d (uOf s k w),s.e,s.f,s.g⟩
def rounds:List Int→List Int→S8→S8
 | k :: ks,w :: ws,s=>rounds ks ws (round s k w)
 | _,_,s=>s
def s8(l:List Int):S8:=⟨l.getD 0 0,l.getD 1 0,l.getD 2 0,l.getD 3 0,l.getD 4 0,l.getD 5 0,l.getD 6 0,l.getD 7 0⟩
def addS(x y:S8):List Int:=[ad x.a y.a,ad x.b y.b,ad x.c y.c,ad x.d y.d,ad x.e y.e,ad x.f y.f,ad x.g y.g,ad x.h y.h]
def blockA(ks hs bs:List Int):List Int:=addS (s8 hs) (rounds ks (more 48 (words 16 bs [])).reverse (s8 hs))
def rgt(x:Int)(n:Nat):Int:=ad (sr x n) (sl x (32-n))
def wordB(b:List Int):List Int:=match b with
 | [p,q,r,s]=>[ad (ad (ad (sl (w32 p) 24) (sl (w32 q) 16)) (sl (w32 r) 8)) (w32 s)]
 | _=>[]
def wordsB:Nat→List Int→List Int→List Int
 | 0,_,acc=>acc
 | n+1,b,acc=>wordsB n (b.drop 4) (wordB (b.take 4)++acc)
def moreB1(r:List Int):Int :=
 let x:=r.getD 14 0
 let y:=r.getD 1 0
 ad (ad (ad (r.getD 15 0) (r.getD 6 0)) (xo (xo (rgt x 7) (rgt x 18)) (sr x 3))) (xo (xo (rgt y 17) (rgt y 19)) (sr y 10))
def moreB:Nat→List Int→List Int
 | 0,r=>r
 | n+1,r=>moreB n (moreB1 r :: r)
def uOfB(s:S8)(k w:Int):Int:=ad (ad (ad (ad s.h (xo (xo (rgt s.e 6) (rgt s.e 11)) (rgt s.e 25))) (xo (an s.e s.f) (an (no s.e) s.g))) k) w
def vOfB(s:S8):Int:=ad (xo (xo (rgt s.a 2) (rgt s.a 13)) (rgt s.a 22)) (xo (xo (an s.a s.b) (an s.a s.c)) (an s.b s.c))
def roundB(s:S8)(k w:Int):S8:=⟨ad (uOfB s k w) (vOfB s),s.a,s.b,s.c,ad s.d (uOfB s k w),s.e,s.f,s.g⟩
def roundsB:List Int→List Int→S8→S8
 | k :: ks,w :: ws,s=>roundsB ks ws (roundB s k w)
 | _,_,s=>s
def blockB(ks hs bs:List Int):List Int:=addS (s8 hs) (roundsB ks (moreB 48 (wordsB 16 bs [])).reverse (s8 hs))
end Go.Proofs.YtcmhoboglapbdaaDoor
namespace Go.Proofs.YtcmhoboglapbdaaDoor
open Go Ev
def ints(n:Nat)(f:Nat→Int):List Int:=(List.range n).map f
noncomputable def tabK(e:Nat)(k:List Int):List Tab:=[⟨0,k.map (V.int .u32),e⟩]
noncomputable def env0:Env:=⟨Tryd.prog,fun _=>none,xOf xs,fun _=>none,fun _=>foTrie,1000000,fun _=>none⟩
noncomputable def tabB(e:Nat)(k:List Int):List Tab:=[⟨1,k.map (V.int .u8),e⟩]
set_option maxRecDepth 100000
theorem block_run(f g k:Nat→Int)(e:Nat):(runC env 20 46 [.agg ((ints 8 f).map (V.int .u32)),.agg ((ints 64 g).map (V.int .u8))] (tabsH 1 (tabK e (ints 64 k)))).map (·.1)=some (.agg ((blockA (ints 64 k) (ints 8 f) (ints 64 g)).map (V.int .u32))):=by kernel_rfl
theorem compress_run(f g:Nat→Int)(e:Nat):(runC env0 20 50 [.agg ((ints 8 f).map (V.int .u32)),.slice ⟨1,64,0⟩ 64 64 false 1] (tabsH 2 (tabB e (ints 64 g)))).map (·.1)=some (.agg ((blockB kTab (ints 8 f) (ints 64 g)).map (V.int .u32))):=by kernel_rfl
end Go.Proofs.YtcmhoboglapbdaaDoor
namespace Go.Proofs.YtcmhoboglapbdaaDoor
open Go
def InW(x:Int):Prop:=0≤x∧x<4294967296
def InB(x:Int):Prop:=0≤x∧x<256
theorem wrap32(n:Int):IntKind.wrap .u32 n=n % 4294967296:=by
 have h:(2:Int) ^ (IntKind.bits .u32)=4294967296:=by decide
 have hs:IntKind.signed .u32=false:=rfl
 unfold IntKind.wrap
 rw [hs,h]
 simp
theorem wrap_in(n:Int):InW (IntKind.wrap .u32 n):=by
 rw [wrap32]
 exact ⟨by omega,by omega⟩
theorem ad_in(a b:Int):InW (ad a b):=wrap_in _
theorem bv_of{x:Int}(h:InW x):∃ b:BitVec 32,x=(b.toNat:Int):=by
 refine ⟨BitVec.ofInt 32 x,?_⟩
 rw [BitVec.toNat_ofInt]
 obtain ⟨h1,h2⟩:=h
 have:x % ((2 ^ 32:Nat):Int)=x:=Int.emod_eq_of_lt h1 (by simpa using h2)
 rw [this,Int.toNat_of_nonneg h1]
theorem jcn(b:BitVec 32):BitVec.ofInt 32 (b.toNat:Int)=b:=by
 apply BitVec.eq_of_toNat_eq
 rw [BitVec.toNat_ofInt]
 have h:(b.toNat:Int) % ((2 ^ 32:Nat):Int)=b.toNat:=Int.emod_eq_of_lt (by omega) (by have:=b.isLt;omega)
 rw [h];simp
theorem wrap_bv(b:BitVec 32):IntKind.wrap .u32 (b.toNat:Int)=b.toNat:=by
 rw [wrap32]
 exact Int.emod_eq_of_lt (by omega) (by have:=b.isLt;omega)
theorem ad_bv(a b:BitVec 32):ad a.toNat b.toNat=((a+b).toNat:Int):=by
 unfold ad
 rw [wrap32,BitVec.toNat_add]
 simp
theorem xo_bv(a b:BitVec 32):xo a.toNat b.toNat=((a ^^^ b).toNat:Int):=by unfold xo;rw [jcn,jcn,wrap_bv]
theorem an_bv(a b:BitVec 32):an a.toNat b.toNat=((a &&& b).toNat:Int):=by unfold an;rw [jcn,jcn,wrap_bv]
theorem orr_bv(a b:BitVec 32):orr a.toNat b.toNat=((a ||| b).toNat:Int):=by unfold orr;rw [jcn,jcn,wrap_bv]
theorem no_bv(a:BitVec 32):no a.toNat=((~~~ a).toNat:Int):=by
 unfold no
 have h:BitVec.ofInt 32 4294967295=BitVec.allOnes 32:=by decide
 rw [jcn,h,BitVec.allOnes_xor,wrap_bv]
theorem sl_bv(a:BitVec 32)(n:Nat):sl a.toNat n=((a <<< n).toNat:Int):=by
 unfold sl
 rw [wrap32,BitVec.toNat_shiftLeft,Nat.shiftLeft_eq]
 have h:(2 ^ 32:Nat)=4294967296:=by decide
 rw [h,Int.natCast_emod,Int.natCast_mul,Int.natCast_pow]
 rfl
theorem sr_bv(a:BitVec 32)(n:Nat):sr a.toNat n=((a >>> n).toNat:Int):=by
 unfold sr
 rw [BitVec.toNat_ushiftRight,Nat.shiftRight_eq_div_pow,Int.fdiv_eq_ediv_of_nonneg _ (Int.pow_nonneg (by decide))]
 push_cast
 rfl
theorem rot_rgt{x:Int}(h:InW x)(n m:Nat)(hn:n+m=32)(h0:0<n)(h1:0<m):rot x m=rgt x n:=by
 obtain ⟨b,rfl⟩:=bv_of h
 unfold rot rgt
 have e1:32-m=n:=by omega
 have e2:32-n=m:=by omega
 rw [e1,e2,sl_bv,sr_bv,orr_bv,ad_bv]
 congr 2
 rw [BitVec.add_comm]
 symm
 apply BitVec.add_eq_or_of_and_eq_zero
 ext i hi
 simp only [BitVec.getElem_and,BitVec.getElem_shiftLeft,BitVec.getElem_ushiftRight,BitVec.getElem_zero]
 by_cases him:i<m
 ·simp [him]
 ·have:32≤n+i:=by omega
  simp [BitVec.getLsbD_of_ge _ _ this]
theorem ch_eq{a b c:Int}(h1:InW a)(h2:InW b)(h3:InW c):orr (an a b) (an (no a) c)=xo (an a b) (an (no a) c):=by
 obtain ⟨a,rfl⟩:=bv_of h1
 obtain ⟨b,rfl⟩:=bv_of h2
 obtain ⟨c,rfl⟩:=bv_of h3
 rw [no_bv,an_bv,an_bv,orr_bv,xo_bv]
 congr 2
 ext i hi
 simp only [BitVec.getElem_or,BitVec.getElem_and,BitVec.getElem_xor,BitVec.getElem_not]
 cases a[i] <;> simp
theorem ad_swap(a b c d:Int):ad (ad (ad a b) c) d=ad (ad (ad a c) b) d:=by
 unfold ad
 simp only [wrap32]
 omega
theorem word_eq{p q r s:Int}(hp:InB p)(hq:InB q)(hr:InB r)(hs:InB s):orr (orr (orr (sl (w32 p) 24) (sl (w32 q) 16)) (sl (w32 r) 8)) (w32 s)=ad (ad (ad (sl (w32 p) 24) (sl (w32 q) 16)) (sl (w32 r) 8)) (w32 s):=by
 have cv:∀ {x:Int},InB x→∃ b:BitVec 8,w32 x=((b.zeroExtend 32).toNat:Int):=by
  intro x ⟨h1,h2⟩
  refine ⟨BitVec.ofNat 8 x.toNat,?_⟩
  unfold w32
  rw [wrap32]
  simp only [BitVec.truncate_eq_setWidth,BitVec.toNat_setWidth,BitVec.toNat_ofNat]
  omega
 obtain ⟨p,hp⟩:=cv hp
 obtain ⟨q,hq⟩:=cv hq
 obtain ⟨r,hr⟩:=cv hr
 obtain ⟨s,hs⟩:=cv hs
 rw [hp,hq,hr,hs]
 simp only [sl_bv,orr_bv,ad_bv]
 congr 2
 have low:∀ (x:BitVec 8) (i:Nat),8≤i→(x.zeroExtend 32).getLsbD i=false:=by
  intro x i hi
  simp only [BitVec.truncate_eq_setWidth,BitVec.getLsbD_setWidth]
  simp [BitVec.getLsbD_of_ge x i hi]
 have s1:BitVec.zeroExtend 32 p <<< 24+BitVec.zeroExtend 32 q <<< 16=BitVec.zeroExtend 32 p <<< 24 ||| BitVec.zeroExtend 32 q <<< 16:=by
  apply BitVec.add_eq_or_of_and_eq_zero
  apply BitVec.eq_of_getLsbD_eq
  intro i hi
  simp only [BitVec.getLsbD_and,BitVec.getLsbD_shiftLeft,BitVec.getLsbD_zero]
  by_cases h:i<24
  ·simp [h]
  ·rw [low q (i-16) (by omega)];simp
 have s2:(BitVec.zeroExtend 32 p <<< 24 ||| BitVec.zeroExtend 32 q <<< 16)+BitVec.zeroExtend 32 r <<< 8=BitVec.zeroExtend 32 p <<< 24 ||| BitVec.zeroExtend 32 q <<< 16 ||| BitVec.zeroExtend 32 r <<< 8:=by
  apply BitVec.add_eq_or_of_and_eq_zero
  apply BitVec.eq_of_getLsbD_eq
  intro i hi
  simp only [BitVec.getLsbD_and,BitVec.getLsbD_or,BitVec.getLsbD_shiftLeft,BitVec.getLsbD_zero]
  by_cases h:i<16
  ·have:i<24:=by omega
   simp [h,this]
  ·rw [low r (i-8) (by omega)];simp
 have s3:(BitVec.zeroExtend 32 p <<< 24 ||| BitVec.zeroExtend 32 q <<< 16 ||| BitVec.zeroExtend 32 r <<< 8)+BitVec.zeroExtend 32 s=BitVec.zeroExtend 32 p <<< 24 ||| BitVec.zeroExtend 32 q <<< 16 ||| BitVec.zeroExtend 32 r <<< 8 ||| BitVec.zeroExtend 32 s:=by
  apply BitVec.add_eq_or_of_and_eq_zero
  apply BitVec.eq_of_getLsbD_eq
  intro i hi
  simp only [BitVec.getLsbD_and,BitVec.getLsbD_or,BitVec.getLsbD_shiftLeft,BitVec.getLsbD_zero]
  by_cases h:i<8
  ·have h1:i<24:=by omega
   have h2:i<16:=by omega
   simp [h,h1,h2]
  ·rw [low s i (by omega)];simp
 rw [s1,s2,s3]
theorem word_list{b:List Int}(h:∀ x∈b,InB x):word b=wordB b:=by
 unfold word wordB
 split
 ·rename_i p q r s
  rw [word_eq (h p (by simp)) (h q (by simp)) (h r (by simp)) (h s (by simp))]
 ·rfl
theorem words_list:∀ (n:Nat) (b acc:List Int),(∀ x∈b,InB x)→words n b acc=wordsB n b acc:=by
 intro n
 induction n with
 | zero=>intro b acc _;rfl
 | succ n ih =>
  intro b acc h
  show words n (b.drop 4) (word (b.take 4)++acc)=wordsB n (b.drop 4) (wordB (b.take 4)++acc)
  rw [word_list (fun x hx=>h x (List.mem_of_mem_take hx)),ih _ _ (fun x hx=>h x (List.mem_of_mem_drop hx))]
theorem wordB_in(b:List Int):∀ x∈wordB b,InW x:=by
 intro x hx
 unfold wordB at hx
 split at hx
 ·simp only [List.mem_singleton] at hx;subst hx;exact ad_in _ _
 ·simp at hx
theorem wordsB_in:∀ (n:Nat) (b acc:List Int),(∀ x∈acc,InW x)→∀ x∈wordsB n b acc,InW x:=by
 intro n
 induction n with
 | zero=>intro b acc h;exact h
 | succ n ih =>
  intro b acc h
  refine ih _ _ ?_
  intro x hx
  rcases List.mem_append.1 hx with hx | hx
  ·exact wordB_in _ x hx
  ·exact h x hx
theorem getD_in{l:List Int}(h:∀ x∈l,InW x)(i:Nat):InW (l.getD i 0):=by
 rw [List.getD_eq_getElem?_getD]
 cases hi:l[i]? with
 | none=>exact ⟨by simp,by simp⟩
 | some x=>exact h x (List.mem_of_getElem? hi)
theorem more1_eq{r:List Int}(h:∀ x∈r,InW x):more1 r=moreB1 r:=by
 unfold more1 moreB1
 simp only
 rw [rot_rgt (getD_in h 14) 7 25 rfl (by decide) (by decide),rot_rgt (getD_in h 14) 18 14 rfl (by decide) (by decide),rot_rgt (getD_in h 1) 17 15 rfl (by decide) (by decide),rot_rgt (getD_in h 1) 19 13 rfl (by decide) (by decide),ad_swap]
theorem more_eq:∀ (n:Nat) (r:List Int),(∀ x∈r,InW x)→more n r=moreB n r:=by
 intro n
 induction n with
 | zero=>intro r _;rfl
 | succ n ih =>
  intro r h
  show more n (more1 r :: r)=moreB n (moreB1 r :: r)
  rw [more1_eq h]
  refine ih _ ?_
  intro x hx
  rcases List.mem_cons.1 hx with rfl | hx
  ·exact ad_in _ _
  ·exact h x hx
structure S8.In (s:S8):Prop where
 a:InW s.a
 b:InW s.b
 c:InW s.c
 d:InW s.d
 e:InW s.e
 f:InW s.f
 g:InW s.g
 h:InW s.h
theorem u_eq{s:S8}(hs:s.In)(k w:Int):uOf s k w=uOfB s k w:=by
 unfold uOf uOfB
 rw [rot_rgt hs.e 6 26 rfl (by decide) (by decide),rot_rgt hs.e 11 21 rfl (by decide) (by decide),rot_rgt hs.e 25 7 rfl (by decide) (by decide),ch_eq hs.e hs.f hs.g]
theorem v_eq{s:S8}(hs:s.In):vOf s=vOfB s:=by
 unfold vOf vOfB
 rw [rot_rgt hs.a 2 30 rfl (by decide) (by decide),rot_rgt hs.a 13 19 rfl (by decide) (by decide),rot_rgt hs.a 22 10 rfl (by decide) (by decide)]
theorem round_eq{s:S8}(hs:s.In)(k w:Int):round s k w=roundB s k w:=by
 unfold round roundB
 rw [u_eq hs,v_eq hs]
theorem roundB_in{s:S8}(hs:s.In)(k w:Int):(roundB s k w).In:=⟨ad_in _ _,hs.a,hs.b,hs.c,ad_in _ _,hs.e,hs.f,hs.g⟩
theorem rounds_eq:∀ (ks ws:List Int) (s:S8),s.In→rounds ks ws s=roundsB ks ws s:=by
 intro ks
 induction ks with
 | nil=>intro ws s _;rfl
 | cons k ks ih =>
  intro ws s hs
  cases ws with
  | nil=>rfl
  | cons w ws =>
   show rounds ks ws (round s k w)=roundsB ks ws (roundB s k w)
   rw [round_eq hs,ih _ _ (roundB_in hs k w)]
theorem s8_in{l:List Int}(h:∀ x∈l,InW x):(s8 l).In:=⟨getD_in h 0,getD_in h 1,getD_in h 2,getD_in h 3,getD_in h 4,getD_in h 5,getD_in h 6,getD_in h 7⟩
theorem block_eq{ks hs bs:List Int}(h1:∀ x∈hs,InW x)(h2:∀ x∈bs,InB x):blockA ks hs bs=blockB ks hs bs:=by
 unfold blockA blockB
 rw [words_list 16 bs [] h2,more_eq 48 _ (wordsB_in 16 bs [] (fun x hx=>by simp at hx)),rounds_eq _ _ _ (s8_in h1)]
theorem blockB_in(ks hs bs:List Int):∀ x∈blockB ks hs bs,InW x:=by
 intro x hx
 unfold blockB addS at hx
 simp only [List.mem_cons,List.not_mem_nil,or_false] at hx
 rcases hx with rfl | rfl | rfl | rfl | rfl | rfl | rfl | rfl <;> exact ad_in _ _
end Go.Proofs.YtcmhoboglapbdaaDoor
namespace Go.Proofs.YtcmhoboglapbdaaDoor
open Go Ev
theorem ints_of(l:List Int):ints l.length (fun i=>l.getD i 0)=l:=by
 apply List.ext_getElem?
 intro i
 unfold ints
 by_cases hi:i<l.length
 ·rw [List.getElem?_map,List.getElem?_range hi];simp [hi]
 ·rw [List.getElem?_eq_none (by simpa using hi),List.getElem?_eq_none (by simpa using hi)]
theorem ints_of'{l:List Int}{n:Nat}(h:l.length=n):ints n (fun i=>l.getD i 0)=l:=by subst h;exact ints_of l
theorem of_fst{r:Option (V×AH)}{v:V}(h:r.map (·.1)=some v):∃ h',r=some (v,h'):=by
 cases r with
 | none=>cases h
 | some x=>obtain ⟨a,b⟩:=x;cases h;exact ⟨b,rfl⟩
def Owes(P:Program)(G:Nat→Option Nat)(f:FuncId)(g:List V→AH→Option (V×AH)):Prop :=
 (∀ (ρ:Rho) (h:AH) (w:World) (args:List V) (args':List Value) (v:V) (h':AH),GOK ⟨P,G,fun _ _ _=>none,fun _ _ _=>none,fun _=>none⟩ ρ→HR ρ h w→RL ρ args args'→g args h=some (v,h') →
  Calls P f args'.toArray w fun e w'=>∃ u ρ',e=.returned u∧R ρ' v u∧HR ρ' h' w'∧Step ρ h w ρ' h' w') ∧
 ∀ args h v h',g args h=some (v,h')→AStep h h'
theorem RL_flat2{v x:V}(hv:Flat v)(hx:Flat x){ρ ρ':Rho}{l:List Value}(h:RL ρ [v,x] l):RL ρ' [v,x] l:=flat_list (by
 intro y hy
 simp only [List.mem_cons,List.not_mem_nil,or_false] at hy
 rcases hy with rfl | rfl
 ·exact hv
 ·exact hx) ρ ρ' l h
noncomputable def gBlock(args:List V)(h:AH):Option (V×AH) :=
 match args with
 | [.agg hs,.agg bs] =>
  match intsOf .u32 hs,intsOf .u8 bs,jbj h ⟨0,64,0⟩ 64 with
  | some hs,some bs,some ks =>
   match intsOf .u32 ks with
   | some ks=>bif Nat.beq hs.length 8 && Nat.beq bs.length 64 then some (.agg ((blockA ks hs bs).map (V.int .u32)),h) else none
   | none=>none
  | _,_,_=>none
 | _=>none
theorem gBlock_owes:Owes Tryd.prog gOf 46 gBlock:=by
 constructor
 ·intro ρ h w args args' v h' hg hr hR hs
  unfold gBlock at hs
  split at hs
  case h_2=>cases hs
  rename_i hs0 bs0
  split at hs
  case h_2=>cases hs
  rename_i hs1 bs1 ks0 e1 e2 e3
  split at hs
  case h_2=>cases hs
  rename_i ks1 e4
  cases hb:Nat.beq hs1.length 8 && Nat.beq bs1.length 64 with
  | false=>rw [hb] at hs;cases hs
  | true =>
   rw [hb] at hs
   cases hs
   simp only [Bool.and_eq_true] at hb
   have l1:hs1.length=8:=Nat.eq_of_beq_eq_true hb.1
   have l2:bs1.length=64:=Nat.eq_of_beq_eq_true hb.2
   obtain rfl:=intsOf_spec e1
   obtain rfl:=intsOf_spec e2
   obtain rfl:=intsOf_spec e4
   obtain ⟨S,hS⟩:=hg 0 64 rfl
   obtain ⟨l3,e,hfit⟩:=fits_of_read hr e3 (a:=⟨0,64,0⟩) hS (Int.le_refl _) 0
   refine flat_call hr (flat_ints _ _) ?_
   obtain ⟨h'',hrun⟩:=of_fst (block_run (fun i=>hs1.getD i 0) (fun i=>bs1.getD i 0) (fun i=>ks1.getD i 0) e)
   rw [ints_of' l1,ints_of' l2,ints_of' l3] at hrun
   refine (tab_calls env_ok (n:=20) (f:=46) (l:=tabK e ks1) (pl:=fun _=>⟨0,0,S⟩) (m:=1) (W:=w) (args':=args') ?_ ?_ ?_ (RL_flat2 (flat_ints _ _) (flat_ints _ _) hR) hrun).mono ?_
   ·intro t ht;simp only [tabK,List.mem_singleton] at ht;subst ht;exact Nat.one_pos
   ·intro t ht;simp only [tabK,List.mem_singleton] at ht;subst ht;exact hfit
   ·intro g L hgL
    cases g with
    | zero=>cases hgL;exact ⟨_,rfl,by simp [l3],rfl,rfl⟩
    | succ g=>cases hgL
   ·rintro e w' ⟨u,ρ',rfl,q1,_,_,q2⟩
    exact ⟨u,ρ',rfl,q1,q2⟩
 ·intro args h v h' hs
  unfold gBlock at hs
  split at hs
  case h_2=>cases hs
  split at hs
  case h_2=>cases hs
  split at hs
  case h_2=>cases hs
  rename_i hs1 bs1 _ _ _ _ _ _ _
  cases hb:Nat.beq hs1.length 8 && Nat.beq bs1.length 64 with
  | false=>rw [hb] at hs;cases hs
  | true=>rw [hb] at hs;cases hs;exact AStep.refl _
theorem env0_ok:env0.OK:=⟨by kernel_rfl,xOf_sound rfl xs_ok,xOf_astep xs_ok,fun f g h=>(by cases h),fun f g h=>(by cases h),fun o m h=>(by cases h)⟩
noncomputable def gCompress(args:List V)(h:AH):Option (V×AH) :=
 match args with
 | [.agg hs,.slice a n _ _ z] =>
  match intsOf .u32 hs,jbj h a n with
  | some hs,some bs =>
   match intsOf .u8 bs with
   | some bs=>bif Nat.beq hs.length 8 && (Nat.beq n 64 && Nat.beq z 1) then some (.agg ((blockB kTab hs bs).map (V.int .u32)),h) else none
   | none=>none
  | _,_=>none
 | _=>none
theorem gCompress_owes(G:Nat→Option Nat):Owes Tryd.prog G 50 gCompress:=by
 constructor
 ·intro ρ h w args args' v h' hg hr hR hs
  unfold gCompress at hs
  split at hs
  case h_2=>cases hs
  rename_i hs0 a n cap ex z
  split at hs
  case h_2=>cases hs
  rename_i hs1 bs0 e1 e2
  split at hs
  case h_2=>cases hs
  rename_i bs1 e3
  cases hb:Nat.beq hs1.length 8 && (Nat.beq n 64 && Nat.beq z 1) with
  | false=>rw [hb] at hs;cases hs
  | true =>
   rw [hb] at hs
   cases hs
   simp only [Bool.and_eq_true] at hb
   have l1:hs1.length=8:=Nat.eq_of_beq_eq_true hb.1
   obtain rfl:n=64:=Nat.eq_of_beq_eq_true hb.2.1
   obtain rfl:z=1:=Nat.eq_of_beq_eq_true hb.2.2
   obtain rfl:=intsOf_spec e1
   obtain rfl:=intsOf_spec e3
   obtain ⟨x,y,rfl,hx,hy⟩:=RL2 hR
   obtain ⟨cb,sh,S,cc,rfl,f1,f2,f3,f4,f5,f6⟩:=hy
   obtain ⟨l3,e,hfit⟩:=fits_of_read hr e2 f1 f2 1
   refine flat_call hr (flat_ints _ _) ?_
   obtain ⟨h'',hrun⟩:=of_fst (compress_run (fun i=>hs1.getD i 0) (fun i=>bs1.getD i 0) e)
   rw [ints_of' l1,ints_of' l3] at hrun
   refine (tab_calls env0_ok (n:=20) (f:=50) (l:=tabB e bs1) (pl:=fun _=>⟨cb,((a.o:Int)-sh).toNat,S⟩) (m:=2) (W:=w) (args':=[x,.slice (some ⟨cb,((a.o:Int)-sh).toNat,none⟩) 64 cc]) ?_ ?_ ?_ ?_ hrun).mono ?_
   ·intro t ht;simp only [tabB,List.mem_singleton] at ht;subst ht;exact Nat.lt_succ_self 1
   ·intro t ht;simp only [tabB,List.mem_singleton] at ht;subst ht;exact hfit
   ·intro g L hgL;cases hgL
   ·refine ⟨x,_,rfl,flat_ints _ _ ρ _ x hx,_,[],rfl,?_,rfl⟩
    refine ⟨cb,-((((a.o:Int)-sh).toNat:Nat):Int),S,cc,?_,?_,?_,by omega,(by intro h;cases h),Nat.le_refl _,?_⟩
    ·simp
    ·have:=tabsRho_of (l:=tabB e bs1) (pl:=fun _=>⟨cb,((a.o:Int)-sh).toNat,S⟩) (b:=1) (t:=⟨1,bs1.map (V.int .u8),e⟩) rfl
     simp only [List.length_map,l3] at this
     exact this
    ·simp only;omega
    ·simp only;omega
   ·rintro e w' ⟨u,ρ',rfl,q1,_,_,q2⟩
    exact ⟨u,ρ',rfl,q1,q2⟩
 ·intro args h v h' hs
  unfold gCompress at hs
  split at hs
  case h_2=>cases hs
  rename_i n _ _ z
  split at hs
  case h_2=>cases hs
  rename_i hs1 _ _ _
  split at hs
  case h_2=>cases hs
  cases hb:Nat.beq hs1.length 8 && (Nat.beq n 64 && Nat.beq z 1) with
  | false=>rw [hb] at hs;cases hs
  | true=>rw [hb] at hs;cases hs;exact AStep.refl _
end Go.Proofs.YtcmhoboglapbdaaDoor
namespace Go.Proofs.YtcmhoboglapbdaaDoor
open Go Ev
namespace zad
noncomputable def B:Code:=cBody (PP.funcs.getD 4 default)
abbrev K2:Slots:=[(0,.any),(3,.any)]
abbrev P2:=V×V×Unit
abbrev Q2:=P2→AH→Res
abbrev K4:Slots:=[(0,.any),(3,.any),(14,.bool)]
abbrev P4:=V×V×Bool×Unit
abbrev Q4:=P4→AH→Res
abbrev K6:Slots:=[(4,.bool)]
abbrev P6:=Bool×Unit
abbrev Q6:=P6→AH→Res
abbrev K8:Slots:=[(0,.any),(3,.any),(17,.bool)]
abbrev P8:=V×V×Bool×Unit
abbrev Q8:=P8→AH→Res
abbrev K12:Slots:=[(0,.any),(3,.any),(5,.any),(6,.any),(7,.int .i64)]
abbrev P12:=V×V×V×V×Int×Unit
abbrev Q12:=P12→AH→Res
abbrev K14:Slots:=[(0,.any),(3,.any),(5,.any),(6,.any),(7,.int .i64),(8,.any),(9,.any),(10,.int .i64)]
abbrev P14:=V×V×V×V×Int×V×V×Int×Unit
abbrev Q14:=P14→AH→Res
abbrev K16:Slots:=[(0,.any),(3,.any),(45,.bool)]
abbrev P16:=V×V×Bool×Unit
abbrev Q16:=P16→AH→Res
abbrev K20:Slots:=[(0,.any),(3,.any),(7,.int .i64),(11,.any)]
abbrev P20:=V×V×Int×V×Unit
abbrev Q20:=P20→AH→Res
abbrev K22:Slots:=[(7,.int .i64),(10,.int .i64),(11,.any),(12,.any)]
abbrev P22:=Int×Int×V×V×Unit
abbrev Q22:=P22→AH→Res
noncomputable def lv:=lvT [(2,K2),(4,K4),(6,K6),(7,K2),(8,K8),(10,K6),(11,K2),(12,K12),(14,K14),(16,K16),(18,K6),(19,K2),(20,K20),(22,K22),(24,K6)]
abbrev KR:Slots:=[(4,.any)]
abbrev PR:=V×Unit
abbrev QR:=PR→AH→Res
noncomputable abbrev X (e:Cx):=exL (cfgS e) lv 73 e.F
noncomputable abbrev Y (e:Cx):=runL (cfgS e) lv 73 e.F
noncomputable abbrev C (p:List Nat):=cP p B
noncomputable def ret:QR
| (a,_),h=>finW [some a] h
theorem ret_eq(e:Cx):fin (cfgS e) (jbi lv) (PP.funcs.getD 4 default)=jk KR ret:=by kernel_rfl
noncomputable def c0(e:Cx)(J:Q2):V×List V×Unit→AH→Res
| (a,b,_),h =>
 cV (absBox jab (.agg b) h) fun c d =>
 J (a,c,()) d
theorem c0_eq(e a b h n ee r):Y e (peel 1 (C [0])).1 (iniT [a,(.agg b)] 0 .leaf) h n ee r=c0 e (fun t h=>n (mkT K2 t) h) (a,b,()) h:=by kernel_rfl
noncomputable def c5(e:Cx)(J:Q14):Q2
| (a,b,_),h =>
 cV (e.C nzax [a] h) fun c d =>
 cV (e.C nzam [c] d) fun f g =>
 bV (jat f 0) g fun i j =>
 bA (jat f 1) j fun k l =>
 bI .i64 (jat f 2) l fun m o =>
 let p:=(al (List.replicate 32 (.int .u8 0)) jab o).1
 let q:=(al (List.replicate 32 (.int .u8 0)) jab o).2
 bS (st 32 p (.agg k) q) fun s =>
 cV (e.C nzbc [a] s) fun u v =>
 bV (jat u 0) v fun w y =>
 bA (jat u 1) y fun z A =>
 bI .i64 (jat u 2) A fun D E =>
 let G:=(al (List.replicate 32 (.int .u8 0)) jab E).1
 let H:=(al (List.replicate 32 (.int .u8 0)) jab E).2
 bS (st 32 G (.agg z) H) fun I =>
 J (a,b,i,p,m,w,G,D,()) I
theorem c5_eq(e a b h n ee r):Y e (peel 2 (C [3])).1 (mkT K2 (a,b,())) h n ee r=c5 e (fun t h=>n (mkT K14 t) h) (a,b,()) h:=by kernel_rfl
noncomputable def c9(e:Cx)(J:Q6):Q2
| (a,b,_),h =>
 cV (quiet (fun h=>e.C nzax [a] h) h) fun c d =>
 bA (ldA 32 b d) d fun f g =>
 cV (e.C nzak [c,(.agg f)] g) fun i j =>
 bA (jat i 0) j fun k l =>
 bI .i64 (jat i 1) l fun m o =>
 let p:=(al (List.replicate 32 (.int .u8 0)++[.int .u32 0]++[.int .u64 0]) jak o).1
 let q:=(al (List.replicate 32 (.int .u8 0)++[.int .u32 0]++[.int .u64 0]) jak o).2
 bS (st 34 p (.agg k) q) fun s =>
 bA (ldA 32 b s) s fun u v =>
 cV (e.C nzbb [a,(.agg u)] v) fun w y =>
 bA (jat w 0) y fun z A =>
 bI .i64 (jat w 1) A fun D E =>
 let G:=(al (List.replicate 32 (.int .u8 0)++[.int .u32 0]++[.int .u64 0]) jac E).1
 let H:=(al (List.replicate 32 (.int .u8 0)++[.int .u32 0]++[.int .u64 0]) jac E).2
 bS (st 34 G (.agg z) H) fun I =>
 bV (fA 0 p) I fun L M =>
 bA (ldA 32 L M) M fun N O =>
 bV (fA 32 p) O fun R S =>
 bI .u32 (ld R S) S fun T U =>
 bV (fA 33 p) U fun V W =>
 bI .u64 (ld V W) W fun Z aa =>
 bA (bld [(0,32,(.agg N)),(32,1,(.int .u32 T)),(33,1,(.int .u64 Z))] (List.replicate 32 (.int .u8 0)++[.int .u32 0]++[.int .u64 0])) aa fun ab ac =>
 bA (ldA 34 G ac) ac fun ad af =>
 bB (eqW PP false jac (.agg ab) (.agg ad)) af fun ag ai =>
 bif ag then
  J ((bif true then (m==D) else false),()) ai
 else
  J (false,()) ai
theorem c9_eq(e a b h n ee r):Y e (peel 3 (C [6])).1 (mkT K2 (a,b,())) h n ee r=c9 e (fun t h=>n (mkT K6 t) h) (a,b,()) h:=by kernel_rfl
noncomputable def r9(e:Cx)(Jn:QR)(Jr:QR)(t:P2)(h:AH):Res:=c9 e (fun | (a,_),b=>Jr ((.bool a),()) b) t h
theorem r9_eq(e Jn Jr):∀ t h,X e (C [6]) (mkT K2 t) h (jk KR Jn) (exK []) (jk KR Jr)=r9 e Jn Jr t h
| (a,b,_),h=>nd_chain' (X:=C [6]) (Y:=(C [9])) 3 (L:=K6) (S:=fun J=>c9 e J (a,b,()) h) (Q:=fun | (c,_),d=>Jr ((.bool c),()) d) (by kernel_rfl) (fun n=>c9_eq e a b h n (exK []) (jk KR Jr)) (fun | (c,_),d=>by kernel_rfl)
noncomputable def c7(e:Cx)(J:Q16):Q14
| (a,b,c,d,f,g,i,j,_),h =>
 cV (e.C nzaf [c] h) fun k l =>
 cB (e.C nzbd [k,g] l) fun m o =>
 bif (!m) then
  J (a,b,true,()) o
 else
  bA (ldA 32 d o) o fun p q =>
  bA (ldA 32 i q) q fun s u =>
  bB (neW PP false jab (.agg p) (.agg s)) u fun v w =>
  bif (bif false then true else v) then
   J (a,b,true,()) w
  else
   J (a,b,(bif false then true else (f != j)),()) w
theorem c7_eq(e a b c d f g i j h n ee r):Y e (peel 1 (C [5,0])).1 (mkT K14 (a,b,c,d,f,g,i,j,())) h n ee r=c7 e (fun t h=>n (mkT K16 t) h) (a,b,c,d,f,g,i,j,()) h:=by kernel_rfl
noncomputable def c8(e:Cx)(J:Q6):Q16
| (a,b,c,_),h =>
 J (false,()) h
theorem c8_eq(e a b c h n ee r):Y e (peel 1 (C [5,1,0])).1 (mkT K16 (a,b,c,())) h n ee r=c8 e (fun t h=>n (mkT K6 t) h) (a,b,c,()) h:=by kernel_rfl
noncomputable def k7(e:Cx)(Jn:Q2)(Jr:QR):Q16
| (a,b,c,_),h =>
 bif c then c8 e (fun | (d,_),f=>Jr ((.bool d),()) f) (a,b,c,()) h else Jn (a,b,()) h
theorem k7_eq(e Jn Jr):∀ t h,X e (C [5,1]) (mkT K16 t) h (jk K2 Jn) (exK []) (jk KR Jr)=k7 e Jn Jr t h
| (c,d,f,_),h=>nd_cond' (X:=C [5,1]) (a:=C [5,1,0]) (b:=C [5,2]) (t:=f) (x:=.tmp 45) (by kernel_rfl) (by kernel_rfl) (nd_chain' (X:=C [5,1,0]) (Y:=(C [5,1,1])) 1 (L:=K6) (S:=fun J=>c8 e J (c,d,f,()) h) (Q:=fun | (g,_),i=>Jr ((.bool g),()) i) (by kernel_rfl) (fun n=>c8_eq e c d f h n (exK []) (jk KR Jr)) (fun | (g,_),i=>by kernel_rfl)) (by kernel_rfl)
noncomputable def k6(e:Cx)(Jn:QR)(Jr:QR)(t:P14)(h:AH):Res:=c7 e (k7 e (r9 e Jn Jr) Jr) t h
theorem k6_eq(e Jn Jr):∀ t h,X e (C [5]) (mkT K14 t) h (jk KR Jn) (exK []) (jk KR Jr)=k6 e Jn Jr t h
| (c,d,f,g,i,j,k,l,_),h=>(nd_norm' (X:=(C [5])) (a:=C [5,0]) (b:=C [6]) (L:=K2) (by kernel_rfl) (by kernel_rfl) (by kernel_rfl) (SB:=(r9 e Jn Jr)) (r9_eq e Jn Jr) _ _).trans (nd_chain' (X:=C [5,0]) (Y:=(C [5,1])) 1 (L:=K16) (S:=fun J=>c7 e J (c,d,f,g,i,j,k,l,()) h) (Q:=(k7 e (r9 e Jn Jr) Jr)) (by kernel_rfl) (fun n=>c7_eq e c d f g i j k l h n (exK []) (jk KR Jr)) (k7_eq e (r9 e Jn Jr) Jr))
noncomputable def r5(e:Cx)(Jn:QR)(Jr:QR)(t:P2)(h:AH):Res:=c5 e (k6 e Jn Jr) t h
theorem r5_eq(e Jn Jr):∀ t h,X e (C [3]) (mkT K2 t) h (jk KR Jn) (exK []) (jk KR Jr)=r5 e Jn Jr t h
| (a,b,_),h=>nd_chain' (X:=C [3]) (Y:=(C [5])) 2 (L:=K14) (S:=fun J=>c5 e J (a,b,()) h) (Q:=(k6 e Jn Jr)) (by kernel_rfl) (fun n=>c5_eq e a b h n (exK []) (jk KR Jr)) (k6_eq e Jn Jr)
noncomputable def c3(e:Cx)(J:Q8):Q2
| (a,b,_),h =>
 bI .i64 (lenS a) h fun c d =>
 J (a,b,(decide (c>8000)),()) d
theorem c3_eq(e a b h n ee r):Y e (peel 1 (C [2,0])).1 (mkT K2 (a,b,())) h n ee r=c3 e (fun t h=>n (mkT K8 t) h) (a,b,()) h:=by kernel_rfl
noncomputable def c4(e:Cx)(J:Q6):Q8
| (a,b,c,_),h =>
 J (true,()) h
theorem c4_eq(e a b c h n ee r):Y e (peel 1 (C [2,1,0])).1 (mkT K8 (a,b,c,())) h n ee r=c4 e (fun t h=>n (mkT K6 t) h) (a,b,c,()) h:=by kernel_rfl
noncomputable def k3(e:Cx)(Jn:Q2)(Jr:QR):Q8
| (a,b,c,_),h =>
 bif c then c4 e (fun | (d,_),f=>Jr ((.bool d),()) f) (a,b,c,()) h else Jn (a,b,()) h
theorem k3_eq(e Jn Jr):∀ t h,X e (C [2,1]) (mkT K8 t) h (jk K2 Jn) (exK []) (jk KR Jr)=k3 e Jn Jr t h
| (c,d,f,_),h=>nd_cond' (X:=C [2,1]) (a:=C [2,1,0]) (b:=C [2,2]) (t:=f) (x:=.tmp 17) (by kernel_rfl) (by kernel_rfl) (nd_chain' (X:=C [2,1,0]) (Y:=(C [2,1,1])) 1 (L:=K6) (S:=fun J=>c4 e J (c,d,f,()) h) (Q:=fun | (g,_),i=>Jr ((.bool g),()) i) (by kernel_rfl) (fun n=>c4_eq e c d f h n (exK []) (jk KR Jr)) (fun | (g,_),i=>by kernel_rfl)) (by kernel_rfl)
noncomputable def r3(e:Cx)(Jn:QR)(Jr:QR)(t:P2)(h:AH):Res:=c3 e (k3 e (r5 e Jn Jr) Jr) t h
theorem r3_eq(e Jn Jr):∀ t h,X e (C [2]) (mkT K2 t) h (jk KR Jn) (exK []) (jk KR Jr)=r3 e Jn Jr t h
| (c,d,_),h=>(nd_norm' (X:=(C [2])) (a:=C [2,0]) (b:=C [3]) (L:=K2) (by kernel_rfl) (by kernel_rfl) (by kernel_rfl) (SB:=(r5 e Jn Jr)) (r5_eq e Jn Jr) _ _).trans (nd_chain' (X:=C [2,0]) (Y:=(C [2,1])) 1 (L:=K8) (S:=fun J=>c3 e J (c,d,()) h) (Q:=(k3 e (r5 e Jn Jr) Jr)) (by kernel_rfl) (fun n=>c3_eq e c d h n (exK []) (jk KR Jr)) (k3_eq e (r5 e Jn Jr) Jr))
noncomputable def c1(e:Cx)(J:Q4):Q2
| (a,b,_),h =>
 cB (e.C nzae [] h) fun c d =>
 J (a,b,(!c),()) d
theorem c1_eq(e a b h n ee r):Y e (peel 1 (C [1,0])).1 (mkT K2 (a,b,())) h n ee r=c1 e (fun t h=>n (mkT K4 t) h) (a,b,()) h:=by kernel_rfl
noncomputable def c2(e:Cx)(J:Q6):Q4
| (a,b,c,_),h =>
 J (false,()) h
theorem c2_eq(e a b c h n ee r):Y e (peel 1 (C [1,1,0])).1 (mkT K4 (a,b,c,())) h n ee r=c2 e (fun t h=>n (mkT K6 t) h) (a,b,c,()) h:=by kernel_rfl
noncomputable def k1(e:Cx)(Jn:Q2)(Jr:QR):Q4
| (a,b,c,_),h =>
 bif c then c2 e (fun | (d,_),f=>Jr ((.bool d),()) f) (a,b,c,()) h else Jn (a,b,()) h
theorem k1_eq(e Jn Jr):∀ t h,X e (C [1,1]) (mkT K4 t) h (jk K2 Jn) (exK []) (jk KR Jr)=k1 e Jn Jr t h
| (c,d,f,_),h=>nd_cond' (X:=C [1,1]) (a:=C [1,1,0]) (b:=C [1,2]) (t:=f) (x:=.tmp 14) (by kernel_rfl) (by kernel_rfl) (nd_chain' (X:=C [1,1,0]) (Y:=(C [1,1,1])) 1 (L:=K6) (S:=fun J=>c2 e J (c,d,f,()) h) (Q:=fun | (g,_),i=>Jr ((.bool g),()) i) (by kernel_rfl) (fun n=>c2_eq e c d f h n (exK []) (jk KR Jr)) (fun | (g,_),i=>by kernel_rfl)) (by kernel_rfl)
noncomputable def k0(e:Cx)(Jn:QR)(Jr:QR)(t:P2)(h:AH):Res:=c1 e (k1 e (r3 e Jn Jr) Jr) t h
theorem k0_eq(e Jn Jr):∀ t h,X e (C [1]) (mkT K2 t) h (jk KR Jn) (exK []) (jk KR Jr)=k0 e Jn Jr t h
| (c,d,_),h=>(nd_norm' (X:=(C [1])) (a:=C [1,0]) (b:=C [2]) (L:=K2) (by kernel_rfl) (by kernel_rfl) (by kernel_rfl) (SB:=(r3 e Jn Jr)) (r3_eq e Jn Jr) _ _).trans (nd_chain' (X:=C [1,0]) (Y:=(C [1,1])) 1 (L:=K4) (S:=fun J=>c1 e J (c,d,()) h) (Q:=(k1 e (r3 e Jn Jr) Jr)) (by kernel_rfl) (fun n=>c1_eq e c d h n (exK []) (jk KR Jr)) (k1_eq e (r3 e Jn Jr) Jr))
noncomputable def fn(e:Cx)(a:V)(b:List V)(h:AH):Res :=
 c0 e (k0 e ret ret) (a,b,()) h
theorem run(e:Cx)(a:V)(b:List V)(h:AH):execFn (cfgS e) (jbi lv) e.F nzad [a,(.agg b)] h=fn e a b h:=by
 refine (fn_eq (c:=cfgS e) (lv:=lv) (PP.funcs.getD 4 default) B (by kernel_rfl) (by kernel_rfl) (Nat.le_of_ble_eq_true (by kernel_rfl))).trans ?_
 rw [ret_eq]
 exact nd_chain' (X:=C [0]) (Y:=(C [1])) 1 (L:=K2) (S:=fun J=>c0 e J (a,b,()) h) (Q:=(k0 e ret ret)) (by kernel_rfl) (fun n=>c0_eq e a b h n (exK []) (jk KR ret)) (k0_eq e ret ret)
end zad
namespace zae
noncomputable def B:Code:=cBody (PP.funcs.getD 8 default)
abbrev K2:Slots:=[]
abbrev P2:=Unit
abbrev Q2:=P2→AH→Res
abbrev K4:Slots:=[(1,.any),(2,.int .i64)]
abbrev P4:=V×Int×Unit
abbrev Q4:=P4→AH→Res
abbrev K6:Slots:=[(1,.any),(2,.int .i64),(3,.any),(4,.int .i64)]
abbrev P6:=V×Int×V×Int×Unit
abbrev Q6:=P6→AH→Res
abbrev K8:Slots:=[(1,.any),(2,.int .i64),(3,.any),(4,.int .i64),(5,.any),(6,.any),(7,.int .i64)]
abbrev P8:=V×Int×V×Int×V×V×Int×Unit
abbrev Q8:=P8→AH→Res
abbrev K10:Slots:=[(0,.bool)]
abbrev P10:=Bool×Unit
abbrev Q10:=P10→AH→Res
noncomputable def lv:=lvT [(2,K2),(4,K4),(6,K6),(8,K8),(10,K10)]
abbrev KR:Slots:=[(0,.any)]
abbrev PR:=V×Unit
abbrev QR:=PR→AH→Res
noncomputable abbrev X (e:Cx):=exL (cfgS e) lv 73 e.F
noncomputable abbrev Y (e:Cx):=runL (cfgS e) lv 73 e.F
noncomputable abbrev C (p:List Nat):=cP p B
noncomputable def ret:QR
| (a,_),h=>finW [some a] h
theorem ret_eq(e:Cx):fin (cfgS e) (jbi lv) (PP.funcs.getD 8 default)=jk KR ret:=by kernel_rfl
noncomputable def c0(e:Cx)(J:Q10):Unit→AH→Res
| (_),h =>
 bA (bld [(0,1,(.int .u8 2))] (List.replicate 32 (.int .u8 0))) h fun a b =>
 bA (bld [(0,32,(.agg a)),(33,1,(.int .u64 7))] (List.replicate 32 (.int .u8 0)++[.int .u32 0]++[.int .u64 0])) b fun c d =>
 bA (bld [(0,1,(.int .u8 1))] (List.replicate 32 (.int .u8 0))) d fun f g =>
 bA (bld [(0,32,(.agg f)),(33,1,(.int .u64 2147483648)),(32,1,(.int .u32 9))] (List.replicate 32 (.int .u8 0)++[.int .u32 0]++[.int .u64 0])) g fun i j =>
 cV (bsl 34 2 [(0,34,(.agg c)),(34,34,(.agg i))] (List.replicate 32 (.int .u8 0)++[.int .u32 0]++[.int .u64 0]) jak j) fun k l =>
 bA (bld [(0,1,(.int .u8 5))] (List.replicate 32 (.int .u8 0))) l fun m o =>
 cV (e.C nzaj [k,(.agg m)] o) fun p q =>
 bV (jat p 0) q fun s u =>
 bI .i64 (jat p 1) u fun v w =>
 bA (bld [(0,1,(.int .u8 1))] (List.replicate 32 (.int .u8 0))) w fun y z =>
 cV (e.C nzak [s,(.agg y)] z) fun A D =>
 bA (jat A 0) D fun E G =>
 bI .i64 (jat A 1) G fun H I =>
 let L:=(al (List.replicate 32 (.int .u8 0)++[.int .u32 0]++[.int .u64 0]) jak I).1
 let M:=(al (List.replicate 32 (.int .u8 0)++[.int .u32 0]++[.int .u64 0]) jak I).2
 bS (st 34 L (.agg E) M) fun N =>
 cV (e.C nzam [s] N) fun O R =>
 bV (jat O 0) R fun S T =>
 bA (jat O 1) T fun U V =>
 bI .i64 (jat O 2) V fun W Z =>
 let aa:=(al (List.replicate 32 (.int .u8 0)) jab Z).1
 let ab:=(al (List.replicate 32 (.int .u8 0)) jab Z).2
 bS (st 32 aa (.agg U) ab) fun ac =>
 bif (v==0) then
  bif (bif true then (H==0) else false) then
   bif (bif true then (W==0) else false) then
    bV (fA 33 L) ac fun ad af =>
    bI .u64 (ld ad af) af fun ag ai =>
    let aj:Bool:=(bif true then (ag==2147483648) else false)
    bif aj then
     bV (fA 32 L) ai fun ak am =>
     bI .u32 (ld ak am) am fun ao ap =>
     bif (bif true then (ao==9) else false) then
      bI .i64 (lenS s) ap fun aq aas =>
      bif (bif true then (aq==1184) else false) then
       bI .i64 (lenS S) aas fun au av =>
       bif (bif true then (au==2) else false) then
        bV (ixS 34 S 0) av fun aw ay =>
        bV (fA 0 aw) ay fun az ba =>
        bA (ldA 32 az ba) ba fun bb bc =>
        bA (bld [(0,1,(.int .u8 1))] (List.replicate 32 (.int .u8 0))) bc fun bd bf =>
        bB (eqW PP false jab (.agg bb) (.agg bd)) bf fun bg bi =>
        bif (bif true then bg else false) then
         bA (ldA 32 aa bi) bi fun bj bk =>
         bA (bld [(0,1,(.int .u8 5))] (List.replicate 32 (.int .u8 0))) bk fun bl bm =>
         bB (eqW PP false jab (.agg bj) (.agg bl)) bm fun bo bp =>
         J ((bif true then bo else false),()) bp
        else
         J (false,()) bi
       else
        J (false,()) av
      else
       J (false,()) aas
     else
      J (false,()) ap
    else
     J (false,()) ai
   else
    J (false,()) ac
  else
   J (false,()) ac
 else
  J (false,()) ac
theorem c0_eq(e h n ee r):Y e (peel 5 (C [0])).1 (iniT [] 0 .leaf) h n ee r=c0 e (fun t h=>n (mkT K10 t) h) (()) h:=by kernel_rfl
noncomputable def fn(e:Cx)(h:AH):Res :=
 c0 e (fun | (a,_),b=>ret ((.bool a),()) b) (()) h
theorem run(e:Cx)(h:AH):execFn (cfgS e) (jbi lv) e.F nzae [] h=fn e  h:=by
 refine (fn_eq (c:=cfgS e) (lv:=lv) (PP.funcs.getD 8 default) B (by kernel_rfl) (by kernel_rfl) (Nat.le_of_ble_eq_true (by kernel_rfl))).trans ?_
 rw [ret_eq]
 exact nd_chain' (X:=C [0]) (Y:=(C [5])) 5 (L:=K10) (S:=fun J=>c0 e J (()) h) (Q:=fun | (a,_),b=>ret ((.bool a),()) b) (by kernel_rfl) (fun n=>c0_eq e h n (exK []) (jk KR ret)) (fun | (a,_),b=>by kernel_rfl)
end zae
namespace zaj
noncomputable def B:Code:=cBody (PP.funcs.getD 9 default)
abbrev K2:Slots:=[(0,.any),(3,.any)]
abbrev P2:=V×V×Unit
abbrev Q2:=P2→AH→Res
abbrev K4:Slots:=[(0,.any),(3,.any),(21,.bool)]
abbrev P4:=V×V×Bool×Unit
abbrev Q4:=P4→AH→Res
abbrev K6:Slots:=[(4,.any),(5,.int .i64)]
abbrev P6:=V×Int×Unit
abbrev Q6:=P6→AH→Res
abbrev K8:Slots:=[(3,.any),(6,.any)]
abbrev P8:=V×V×Unit
abbrev Q8:=P8→AH→Res
abbrev K12:Slots:=[(3,.any),(6,.any),(7,.int .i64)]
abbrev P12:=V×V×Int×Unit
abbrev Q12:=P12→AH→Res
abbrev K14:Slots:=[(3,.any),(6,.any),(7,.int .i64),(29,.bool)]
abbrev P14:=V×V×Int×Bool×Unit
abbrev Q14:=P14→AH→Res
abbrev K18:Slots:=[(3,.any),(6,.any),(7,.int .i64),(43,.bool)]
abbrev P18:=V×V×Int×Bool×Unit
abbrev Q18:=P18→AH→Res
abbrev K22:Slots:=[(3,.any),(6,.any),(8,.any)]
abbrev P22:=V×V×V×Unit
abbrev Q22:=P22→AH→Res
abbrev K24:Slots:=[(3,.any),(6,.any),(8,.any),(47,.agg),(48,.int .i64)]
abbrev P24:=V×V×V×List V×Int×Unit
abbrev Q24:=P24→AH→Res
abbrev K26:Slots:=[(3,.any),(6,.any),(8,.any),(47,.agg),(48,.int .i64),(49,.bool)]
abbrev P26:=V×V×V×List V×Int×Bool×Unit
abbrev Q26:=P26→AH→Res
abbrev K28:Slots:=[(3,.any),(6,.any),(8,.any),(10,.int .i64),(47,.agg),(48,.int .i64)]
abbrev P28:=V×V×V×Int×List V×Int×Unit
abbrev Q28:=P28→AH→Res
abbrev K34:Slots:=[(3,.any),(6,.any),(8,.any),(56,.any),(57,.int .i64),(58,.int .i64)]
abbrev P34:=V×V×V×V×Int×Int×Unit
abbrev Q34:=P34→AH→Res
abbrev K36:Slots:=[(3,.any),(6,.any),(8,.any),(56,.any),(57,.int .i64),(58,.int .i64),(59,.bool)]
abbrev P36:=V×V×V×V×Int×Int×Bool×Unit
abbrev Q36:=P36→AH→Res
abbrev K38:Slots:=[(3,.any),(6,.any),(8,.any),(12,.any),(56,.any),(57,.int .i64),(58,.int .i64)]
abbrev P38:=V×V×V×V×V×Int×Int×Unit
abbrev Q38:=P38→AH→Res
abbrev K44:Slots:=[(3,.any),(6,.any),(8,.any),(67,.any),(68,.int .i64),(69,.int .i64)]
abbrev P44:=V×V×V×V×Int×Int×Unit
abbrev Q44:=P44→AH→Res
abbrev K46:Slots:=[(3,.any),(6,.any),(8,.any),(67,.any),(68,.int .i64),(69,.int .i64),(70,.bool)]
abbrev P46:=V×V×V×V×Int×Int×Bool×Unit
abbrev Q46:=P46→AH→Res
abbrev K48:Slots:=[(3,.any),(6,.any),(8,.any),(14,.any),(67,.any),(68,.int .i64),(69,.int .i64)]
abbrev P48:=V×V×V×V×V×Int×Int×Unit
abbrev Q48:=P48→AH→Res
abbrev K54:Slots:=[(3,.any),(6,.any),(8,.any),(15,.any)]
abbrev P54:=V×V×V×V×Unit
abbrev Q54:=P54→AH→Res
abbrev K56:Slots:=[(3,.any),(8,.any),(15,.any),(79,.any),(80,.int .i64),(81,.int .i64)]
abbrev P56:=V×V×V×V×Int×Int×Unit
abbrev Q56:=P56→AH→Res
abbrev K58:Slots:=[(3,.any),(8,.any),(15,.any),(79,.any),(80,.int .i64),(81,.int .i64),(82,.bool)]
abbrev P58:=V×V×V×V×Int×Int×Bool×Unit
abbrev Q58:=P58→AH→Res
abbrev K60:Slots:=[(3,.any),(8,.any),(15,.any),(17,.any),(79,.any),(80,.int .i64),(81,.int .i64)]
abbrev P60:=V×V×V×V×V×Int×Int×Unit
abbrev Q60:=P60→AH→Res
abbrev K62:Slots:=[(3,.any),(8,.any),(15,.any),(17,.any),(79,.any),(80,.int .i64),(81,.int .i64),(87,.bool)]
abbrev P62:=V×V×V×V×V×Int×Int×Bool×Unit
abbrev Q62:=P62→AH→Res
abbrev K71:Slots:=[(3,.any),(8,.any),(15,.any)]
abbrev P71:=V×V×V×Unit
abbrev Q71:=P71→AH→Res
abbrev K72:Slots:=[(8,.any)]
abbrev P72:=V×Unit
abbrev Q72:=P72→AH→Res
abbrev K74:Slots:=[(8,.any),(18,.any)]
abbrev P74:=V×V×Unit
abbrev Q74:=P74→AH→Res
noncomputable def lv:=lvT [(2,K2),(4,K4),(6,K6),(7,K2),(8,K8),(10,K8),(12,K12),(14,K14),(17,K12),(18,K18),(20,K6),(15,K12),(16,K12),(13,K12),(21,K8),(22,K22),(24,K24),(26,K26),(27,K24),(28,K28),(30,K24),(31,K24),(32,K24),(25,K24),(33,K22),(34,K34),(36,K36),(37,K34),(38,K38),(40,K34),(41,K34),(42,K34),(35,K34),(43,K22),(44,K44),(46,K46),(47,K44),(48,K48),(50,K44),(51,K44),(52,K44),(45,K44),(53,K22),(54,K54),(56,K56),(58,K58),(59,K56),(60,K60),(62,K62),(64,K56),(65,K60),(66,K60),(68,K56),(69,K56),(70,K56),(57,K56),(71,K71),(72,K72),(74,K74),(76,K6)]
abbrev KR:Slots:=[(4,.any),(5,.any)]
abbrev PR:=V×V×Unit
abbrev QR:=PR→AH→Res
noncomputable abbrev X (e:Cx):=exL (cfgS e) lv 114 e.F
noncomputable abbrev Y (e:Cx):=runL (cfgS e) lv 114 e.F
noncomputable abbrev C (p:List Nat):=cP p B
noncomputable def ret:QR
| (a,b,_),h=>finW [some a,some b] h
theorem ret_eq(e:Cx):fin (cfgS e) (jbi lv) (PP.funcs.getD 9 default)=jk KR ret:=by kernel_rfl
noncomputable def c0(e:Cx)(J:Q2):V×List V×Unit→AH→Res
| (a,b,_),h =>
 cV (absBox jab (.agg b) h) fun c d =>
 J (a,c,()) d
theorem c0_eq(e a b h n ee r):Y e (peel 1 (C [0])).1 (iniT [a,(.agg b)] 0 .leaf) h n ee r=c0 e (fun t h=>n (mkT K2 t) h) (a,b,()) h:=by kernel_rfl
noncomputable def c3(e:Cx)(J:Q8):Q2
| (a,b,_),h =>
 cV (e.C nzbk [a] h) fun c d =>
 cV (e.C nzbn [c,(.func 24 [] [])] d) fun f g =>
 J (b,c,()) g
theorem c3_eq(e a b h n ee r):Y e (peel 2 (C [2])).1 (mkT K2 (a,b,())) h n ee r=c3 e (fun t h=>n (mkT K8 t) h) (a,b,()) h:=by kernel_rfl
noncomputable def c10(e:Cx)(J:Q22):Q8
| (a,b,_),h =>
 cV (bsl 1 8 [(0,1,(.int .u8 255)),(1,1,(.int .u8 116)),(2,1,(.int .u8 79)),(3,1,(.int .u8 99)),(4,1,(.int .u8 0)),(5,1,(.int .u8 0)),(6,1,(.int .u8 0)),(7,1,(.int .u8 2))] [.int .u8 0] jai h) fun c d =>
 cV (cvS jai c d) fun f g =>
 J (a,b,f,()) g
theorem c10_eq(e a b h n ee r):Y e (peel 1 (C [5])).1 (mkT K8 (a,b,())) h n ee r=c10 e (fun t h=>n (mkT K22 t) h) (a,b,()) h:=by kernel_rfl
noncomputable def c26(e:Cx)(J:Q54):Q22
| (a,b,c,_),h =>
 J (a,b,c,(.nilslice),()) h
theorem c26_eq(e a b c h n ee r):Y e (peel 1 (C [9])).1 (mkT K22 (a,b,c,())) h n ee r=c26 e (fun t h=>n (mkT K54 t) h) (a,b,c,()) h:=by kernel_rfl
noncomputable def c35(e:Cx)(J:Q6):Q71
| (a,b,c,_),h =>
 bV (slA 32 1 a none none none h) h fun d f =>
 cV (bsl 1 3 [(0,1,b),(1,1,c),(2,1,d)] [.nilslice] T_s_uint8 f) fun g i =>
 cV (e.C nzbl [g] i) fun j k =>
 cA (e.C nzbi [j] k) fun l m =>
 let o:=(al (List.replicate 32 (.int .u8 0)) jab m).1
 let p:=(al (List.replicate 32 (.int .u8 0)) jab m).2
 bS (st 32 o (.agg l) p) fun q =>
 bV (slA 32 1 o none none none q) q fun s u =>
 cV (app 1 1 jai j s u) fun v w =>
 J (v,0,()) w
theorem c35_eq(e a b c h n ee r):Y e (peel 3 (C [11])).1 (mkT K71 (a,b,c,())) h n ee r=c35 e (fun t h=>n (mkT K6 t) h) (a,b,c,()) h:=by kernel_rfl
noncomputable def r35(e:Cx)(Jn:QR)(Jr:QR)(t:P71)(h:AH):Res:=c35 e (fun | (a,b,_),c=>Jr (a,(.int .i64 b),()) c) t h
theorem r35_eq(e Jn Jr):∀ t h,X e (C [11]) (mkT K71 t) h (jk KR Jn) (exK []) (jk KR Jr)=r35 e Jn Jr t h
| (a,b,c,_),h=>nd_chain' (X:=C [11]) (Y:=(C [14])) 3 (L:=K6) (S:=fun J=>c35 e J (a,b,c,()) h) (Q:=fun | (d,f,_),g=>Jr (d,(.int .i64 f),()) g) (by kernel_rfl) (fun n=>c35_eq e a b c h n (exK []) (jk KR Jr)) (fun | (d,f,_),g=>by kernel_rfl)
noncomputable def c27(e:Cx)(J:Q56):Q54
| (a,b,c,d,_),h =>
 bI .i64 (lenS b) h fun f g =>
 J (a,c,d,b,f,0,()) g
theorem c27_eq(e a b c d h n ee r):Y e (peel 1 (C [10,0])).1 (mkT K54 (a,b,c,d,())) h n ee r=c27 e (fun t h=>n (mkT K56 t) h) (a,b,c,d,()) h:=by kernel_rfl
noncomputable def c28(e:Cx)(J:Q58):Q56
| (a,b,c,d,f,g,_),h =>
 J (a,b,c,d,f,g,(decide (g<f)),()) h
theorem c28_eq(e a b c d f g h n ee r):Y e (peel 1 (C [10,3])).1 (mkT K56 (a,b,c,d,f,g,())) h n ee r=c28 e (fun t h=>n (mkT K58 t) h) (a,b,c,d,f,g,()) h:=by kernel_rfl
noncomputable def c34(e:Cx)(J:Q56):Q56
| (a,b,c,d,f,g,_),h =>
 J (a,b,c,d,f,(wr .i64 (g+1)),()) h
theorem c34_eq(e a b c d f g h n ee r):Y e (peel 1 (C [10,6])).1 (mkT K56 (a,b,c,d,f,g,())) h n ee r=c34 e (fun t h=>n (mkT K56 t) h) (a,b,c,d,f,g,()) h:=by kernel_rfl
noncomputable def r34(e:Cx)(Jn:Q56)(J8:Q71)(Jr:QR)(t:P56)(h:AH):Res:=c34 e Jn t h
theorem r34_eq(e Jn J8 Jr):∀ t h,X e (C [10,6]) (mkT K56 t) h (jk K56 Jn) (exK [(8,(jk K71 J8))]) (jk KR Jr)=r34 e Jn J8 Jr t h
| (a,b,c,d,f,g,_),h=>nd_chain' (X:=C [10,6]) (Y:=.skip) 1 (L:=K56) (S:=fun J=>c34 e J (a,b,c,d,f,g,()) h) (Q:=Jn) (by kernel_rfl) (fun n=>c34_eq e a b c d f g h n (exK [(8,(jk K71 J8))]) (jk KR Jr)) (fun t h=>by kernel_rfl)
noncomputable def c29(e:Cx)(J:Q60):Q56
| (a,b,c,d,f,g,_),h =>
 bV (ixS 34 d g) h fun i j =>
 bA (ldA 34 i j) j fun k l =>
 let m:=(al (List.replicate 32 (.int .u8 0)++[.int .u32 0]++[.int .u64 0]) jak l).1
 let o:=(al (List.replicate 32 (.int .u8 0)++[.int .u32 0]++[.int .u64 0]) jak l).2
 bS (st 34 m (.agg k) o) fun p =>
 J (a,b,c,m,d,f,g,()) p
theorem c29_eq(e a b c d f g h n ee r):Y e (peel 1 (C [10,5,1])).1 (mkT K56 (a,b,c,d,f,g,())) h n ee r=c29 e (fun t h=>n (mkT K60 t) h) (a,b,c,d,f,g,()) h:=by kernel_rfl
noncomputable def c32(e:Cx)(J:Q56):Q60
| (a,b,c,d,f,g,i,_),h =>
 bI .i64 (lenS c) h fun j k =>
 let l:Int:=(wr .u64 (2147483648+(wr .u64 (wr .i64 (j.tdiv 8)))))
 cV (e.C nzan [b,(.int .u64 l),(.int .i64 4)] k) fun m o =>
 bV (fA 33 d) o fun p q =>
 bI .u64 (ld p q) q fun s u =>
 cV (e.C nzan [c,(.int .u64 s),(.int .i64 8)] u) fun v w =>
 J (a,m,v,f,g,i,()) w
theorem c32_eq(e a b c d f g i h n ee r):Y e (peel 2 (C [10,5,3])).1 (mkT K60 (a,b,c,d,f,g,i,())) h n ee r=c32 e (fun t h=>n (mkT K56 t) h) (a,b,c,d,f,g,i,()) h:=by kernel_rfl
noncomputable def r32(e:Cx)(Jn:Q56)(J9:Q56)(J8:Q71)(Jr:QR)(t:P60)(h:AH):Res:=c32 e Jn t h
theorem r32_eq(e Jn J9 J8 Jr):∀ t h,X e (C [10,5,3]) (mkT K60 t) h (jk K56 Jn) (exK [(9,(jk K56 J9)),(8,(jk K71 J8))]) (jk KR Jr)=r32 e Jn J9 J8 Jr t h
| (a,b,c,d,f,g,i,_),h=>nd_chain' (X:=C [10,5,3]) (Y:=.skip) 2 (L:=K56) (S:=fun J=>c32 e J (a,b,c,d,f,g,i,()) h) (Q:=Jn) (by kernel_rfl) (fun n=>c32_eq e a b c d f g i h n (exK [(9,(jk K56 J9)),(8,(jk K71 J8))]) (jk KR Jr)) (fun t h=>by kernel_rfl)
noncomputable def c30(e:Cx)(J:Q62):Q60
| (a,b,c,d,f,g,i,_),h =>
 bV (fA 33 d) h fun j k =>
 bI .u64 (ld j k) k fun l m =>
 J (a,b,c,d,f,g,i,(decide (l<2147483648)),()) m
theorem c30_eq(e a b c d f g i h n ee r):Y e (peel 1 (C [10,5,2,0])).1 (mkT K60 (a,b,c,d,f,g,i,())) h n ee r=c30 e (fun t h=>n (mkT K62 t) h) (a,b,c,d,f,g,i,()) h:=by kernel_rfl
noncomputable def c31(e:Cx)(J:Q56):Q62
| (a,b,c,d,f,g,i,j,_),h =>
 bV (fA 33 d) h fun k l =>
 bI .u64 (ld k l) l fun m o =>
 cV (e.C nzan [b,(.int .u64 m),(.int .i64 4)] o) fun p q =>
 J (a,p,c,f,g,i,()) q
theorem c31_eq(e a b c d f g i j h n ee r):Y e (peel 1 (C [10,5,2,1,0])).1 (mkT K62 (a,b,c,d,f,g,i,j,())) h n ee r=c31 e (fun t h=>n (mkT K56 t) h) (a,b,c,d,f,g,i,j,()) h:=by kernel_rfl
noncomputable def k30(e:Cx)(Jn:Q60)(J9:Q56)(J8:Q71)(Jr:QR):Q62
| (a,b,c,d,f,g,i,j,_),h =>
 bif j then c31 e J9 (a,b,c,d,f,g,i,j,()) h else Jn (a,b,c,d,f,g,i,()) h
theorem k30_eq(e Jn J9 J8 Jr):∀ t h,X e (C [10,5,2,1]) (mkT K62 t) h (jk K60 Jn) (exK [(9,(jk K56 J9)),(8,(jk K71 J8))]) (jk KR Jr)=k30 e Jn J9 J8 Jr t h
| (c,d,f,g,i,j,k,l,_),h=>nd_cond' (X:=C [10,5,2,1]) (a:=C [10,5,2,1,0]) (b:=C [10,5,2,2]) (t:=l) (x:=.tmp 87) (by kernel_rfl) (by kernel_rfl) (nd_chain' (X:=C [10,5,2,1,0]) (Y:=(C [10,5,2,1,1])) 1 (L:=K56) (S:=fun J=>c31 e J (c,d,f,g,i,j,k,l,()) h) (Q:=J9) (by kernel_rfl) (fun n=>c31_eq e c d f g i j k l h n (exK [(9,(jk K56 J9)),(8,(jk K71 J8))]) (jk KR Jr)) (fun t h=>by kernel_rfl)) (by kernel_rfl)
noncomputable def k29(e:Cx)(Jn:Q56)(J9:Q56)(J8:Q71)(Jr:QR)(t:P60)(h:AH):Res:=c30 e (k30 e (r32 e Jn J9 J8 Jr) J9 J8 Jr) t h
theorem k29_eq(e Jn J9 J8 Jr):∀ t h,X e (C [10,5,2]) (mkT K60 t) h (jk K56 Jn) (exK [(9,(jk K56 J9)),(8,(jk K71 J8))]) (jk KR Jr)=k29 e Jn J9 J8 Jr t h
| (c,d,f,g,i,j,k,_),h=>(nd_norm' (X:=(C [10,5,2])) (a:=C [10,5,2,0]) (b:=C [10,5,3]) (L:=K60) (by kernel_rfl) (by kernel_rfl) (by kernel_rfl) (SB:=(r32 e Jn J9 J8 Jr)) (r32_eq e Jn J9 J8 Jr) _ _).trans (nd_chain' (X:=C [10,5,2,0]) (Y:=(C [10,5,2,1])) 1 (L:=K62) (S:=fun J=>c30 e J (c,d,f,g,i,j,k,()) h) (Q:=(k30 e (r32 e Jn J9 J8 Jr) J9 J8 Jr)) (by kernel_rfl) (fun n=>c30_eq e c d f g i j k h n (exK [(9,(jk K56 J9)),(8,(jk K71 J8))]) (jk KR Jr)) (k30_eq e (r32 e Jn J9 J8 Jr) J9 J8 Jr))
noncomputable def r29(e:Cx)(Jn:Q56)(J8:Q71)(Jr:QR)(t:P56)(h:AH):Res:=c29 e (k29 e (r34 e Jn J8 Jr) (r34 e Jn J8 Jr) J8 Jr) t h
theorem r29_eq(e Jn J8 Jr):∀ t h,X e (C [10,5]) (mkT K56 t) h (jk K56 Jn) (exK [(8,(jk K71 J8))]) (jk KR Jr)=r29 e Jn J8 Jr t h
| (c,d,f,g,i,j,_),h=>(nd_norm' (X:=(C [10,5])) (a:=C [10,5,0]) (b:=C [10,6]) (L:=K56) (by kernel_rfl) (by kernel_rfl) (by kernel_rfl) (SB:=(r34 e Jn J8 Jr)) (r34_eq e Jn J8 Jr) _ _).trans (nd_block' (X:=C [10,5,0]) (id:=9) (b:=C [10,5,1]) (by kernel_rfl) (nd_chain' (X:=C [10,5,1]) (Y:=(C [10,5,2])) 1 (L:=K60) (S:=fun J=>c29 e J (c,d,f,g,i,j,()) h) (Q:=(k29 e (r34 e Jn J8 Jr) (r34 e Jn J8 Jr) J8 Jr)) (by kernel_rfl) (fun n=>c29_eq e c d f g i j h n (exK [(9,(jk K56 (r34 e Jn J8 Jr))),(8,(jk K71 J8))]) (jk KR Jr)) (k29_eq e (r34 e Jn J8 Jr) (r34 e Jn J8 Jr) J8 Jr)))
noncomputable def k28(e:Cx)(Jn:Q56)(J8:Q71)(Jr:QR):Q58
| (a,b,c,d,f,g,i,_),h =>
 bif i then (r29 e Jn J8 Jr) (a,b,c,d,f,g,()) h else J8 (a,b,c,()) h
theorem k28_eq(e Jn J8 Jr):∀ t h,X e (C [10,4]) (mkT K58 t) h (jk K56 Jn) (exK [(8,(jk K71 J8))]) (jk KR Jr)=k28 e Jn J8 Jr t h
| (c,d,f,g,i,j,k,_),h=>(nd_norm' (X:=(C [10,4])) (a:=C [10,4,0]) (b:=C [10,5]) (L:=K56) (by kernel_rfl) (by kernel_rfl) (by kernel_rfl) (SB:=(r29 e Jn J8 Jr)) (r29_eq e Jn J8 Jr) _ _).trans (nd_cond' (X:=C [10,4,0]) (a:=C [10,4,0,0]) (b:=C [10,4,1]) (t:=k) (x:=.tmp 82) (by kernel_rfl) (by kernel_rfl) (by kernel_rfl) (by kernel_rfl))
noncomputable def l28(e:Cx)(Jn:Q56)(J8:Q71)(Jr:QR)(t:P56)(h:AH):Res:=c28 e (k28 e Jn J8 Jr) t h
theorem l28_eq(e Jn J8 Jr):∀ t h,X e (C [10,3]) (mkT K56 t) h (jk K56 Jn) (exK [(8,(jk K71 J8))]) (jk KR Jr)=l28 e Jn J8 Jr t h
| (a,b,c,d,f,g,_),h=>nd_chain' (X:=C [10,3]) (Y:=(C [10,4])) 1 (L:=K58) (S:=fun J=>c28 e J (a,b,c,d,f,g,()) h) (Q:=(k28 e Jn J8 Jr)) (by kernel_rfl) (fun n=>c28_eq e a b c d f g h n (exK [(8,(jk K71 J8))]) (jk KR Jr)) (k28_eq e Jn J8 Jr)
noncomputable def k27(e:Cx)(Jn:Q71)(Jr:QR)(t:P56)(h:AH):Res:=jaw (P56) e.F (fun t h n=>l28 e n Jn Jr t h) t h
theorem k27_eq(e Jn Jr):∀ t h,X e (C [10,1]) (mkT K56 t) h (jk K71 Jn) (exK []) (jk KR Jr)=k27 e Jn Jr t h
| (a,c,d,f,g,i,_),h=>nd_block' (X:=C [10,1]) (id:=8) (b:=C [10,2]) (by kernel_rfl) ((nd_loop' (X:=C [10,2]) (b:=C [10,3]) (L:=K56) (by kernel_rfl) (by kernel_rfl) (SB:=fun n=>l28 e n Jn Jr) (fun n=>l28_eq e n Jn Jr) _ _).trans (by kernel_rfl))
noncomputable def k26(e:Cx)(Jn:QR)(Jr:QR)(t:P54)(h:AH):Res:=c27 e (k27 e (r35 e Jn Jr) Jr) t h
theorem k26_eq(e Jn Jr):∀ t h,X e (C [10]) (mkT K54 t) h (jk KR Jn) (exK []) (jk KR Jr)=k26 e Jn Jr t h
| (c,d,f,g,_),h=>(nd_norm' (X:=(C [10])) (a:=C [10,0]) (b:=C [11]) (L:=K71) (by kernel_rfl) (by kernel_rfl) (by kernel_rfl) (SB:=(r35 e Jn Jr)) (r35_eq e Jn Jr) _ _).trans (nd_chain' (X:=C [10,0]) (Y:=(C [10,1])) 1 (L:=K56) (S:=fun J=>c27 e J (c,d,f,g,()) h) (Q:=(k27 e (r35 e Jn Jr) Jr)) (by kernel_rfl) (fun n=>c27_eq e c d f g h n (exK []) (jk KR Jr)) (k27_eq e (r35 e Jn Jr) Jr))
noncomputable def r26(e:Cx)(Jn:QR)(Jr:QR)(t:P22)(h:AH):Res:=c26 e (k26 e Jn Jr) t h
theorem r26_eq(e Jn Jr):∀ t h,X e (C [9]) (mkT K22 t) h (jk KR Jn) (exK []) (jk KR Jr)=r26 e Jn Jr t h
| (a,b,c,_),h=>nd_chain' (X:=C [9]) (Y:=(C [10])) 1 (L:=K54) (S:=fun J=>c26 e J (a,b,c,()) h) (Q:=(k26 e Jn Jr)) (by kernel_rfl) (fun n=>c26_eq e a b c h n (exK []) (jk KR Jr)) (k26_eq e Jn Jr)
noncomputable def c21(e:Cx)(J:Q44):Q22
| (a,b,c,_),h =>
 bI .i64 (lenS b) h fun d f =>
 J (a,b,c,b,d,0,()) f
theorem c21_eq(e a b c h n ee r):Y e (peel 1 (C [8,0])).1 (mkT K22 (a,b,c,())) h n ee r=c21 e (fun t h=>n (mkT K44 t) h) (a,b,c,()) h:=by kernel_rfl
noncomputable def c22(e:Cx)(J:Q46):Q44
| (a,b,c,d,f,g,_),h =>
 J (a,b,c,d,f,g,(decide (g<f)),()) h
theorem c22_eq(e a b c d f g h n ee r):Y e (peel 1 (C [8,3])).1 (mkT K44 (a,b,c,d,f,g,())) h n ee r=c22 e (fun t h=>n (mkT K46 t) h) (a,b,c,d,f,g,()) h:=by kernel_rfl
noncomputable def c25(e:Cx)(J:Q44):Q44
| (a,b,c,d,f,g,_),h =>
 J (a,b,c,d,f,(wr .i64 (g+1)),()) h
theorem c25_eq(e a b c d f g h n ee r):Y e (peel 1 (C [8,6])).1 (mkT K44 (a,b,c,d,f,g,())) h n ee r=c25 e (fun t h=>n (mkT K44 t) h) (a,b,c,d,f,g,()) h:=by kernel_rfl
noncomputable def r25(e:Cx)(Jn:Q44)(J6:Q22)(Jr:QR)(t:P44)(h:AH):Res:=c25 e Jn t h
theorem r25_eq(e Jn J6 Jr):∀ t h,X e (C [8,6]) (mkT K44 t) h (jk K44 Jn) (exK [(6,(jk K22 J6))]) (jk KR Jr)=r25 e Jn J6 Jr t h
| (a,b,c,d,f,g,_),h=>nd_chain' (X:=C [8,6]) (Y:=.skip) 1 (L:=K44) (S:=fun J=>c25 e J (a,b,c,d,f,g,()) h) (Q:=Jn) (by kernel_rfl) (fun n=>c25_eq e a b c d f g h n (exK [(6,(jk K22 J6))]) (jk KR Jr)) (fun t h=>by kernel_rfl)
noncomputable def c23(e:Cx)(J:Q44):Q44
| (a,b,c,d,f,g,_),h =>
 bV (ixS 34 d g) h fun i j =>
 bA (ldA 34 i j) j fun k l =>
 let m:=(al (List.replicate 32 (.int .u8 0)++[.int .u32 0]++[.int .u64 0]) jak l).1
 let o:=(al (List.replicate 32 (.int .u8 0)++[.int .u32 0]++[.int .u64 0]) jak l).2
 bS (st 34 m (.agg k) o) fun p =>
 bV (fA 32 m) p fun q s =>
 bI .u32 (ld q s) s fun u v =>
 cV (e.C nzan [c,(.int .u64 (wr .u64 u)),(.int .i64 4)] v) fun w y =>
 J (a,b,w,d,f,g,()) y
theorem c23_eq(e a b c d f g h n ee r):Y e (peel 2 (C [8,5,1])).1 (mkT K44 (a,b,c,d,f,g,())) h n ee r=c23 e (fun t h=>n (mkT K44 t) h) (a,b,c,d,f,g,()) h:=by kernel_rfl
noncomputable def r23(e:Cx)(Jn:Q44)(J6:Q22)(Jr:QR)(t:P44)(h:AH):Res:=c23 e (r25 e Jn J6 Jr) t h
theorem r23_eq(e Jn J6 Jr):∀ t h,X e (C [8,5]) (mkT K44 t) h (jk K44 Jn) (exK [(6,(jk K22 J6))]) (jk KR Jr)=r23 e Jn J6 Jr t h
| (c,d,f,g,i,j,_),h=>(nd_norm' (X:=(C [8,5])) (a:=C [8,5,0]) (b:=C [8,6]) (L:=K44) (by kernel_rfl) (by kernel_rfl) (by kernel_rfl) (SB:=(r25 e Jn J6 Jr)) (r25_eq e Jn J6 Jr) _ _).trans (nd_block' (X:=C [8,5,0]) (id:=7) (b:=C [8,5,1]) (by kernel_rfl) (nd_chain' (X:=C [8,5,1]) (Y:=.skip) 2 (L:=K44) (S:=fun J=>c23 e J (c,d,f,g,i,j,()) h) (Q:=(r25 e Jn J6 Jr)) (by kernel_rfl) (fun n=>c23_eq e c d f g i j h n (exK [(7,(jk K44 (r25 e Jn J6 Jr))),(6,(jk K22 J6))]) (jk KR Jr)) (fun t h=>by kernel_rfl)))
noncomputable def k22(e:Cx)(Jn:Q44)(J6:Q22)(Jr:QR):Q46
| (a,b,c,d,f,g,i,_),h =>
 bif i then (r23 e Jn J6 Jr) (a,b,c,d,f,g,()) h else J6 (a,b,c,()) h
theorem k22_eq(e Jn J6 Jr):∀ t h,X e (C [8,4]) (mkT K46 t) h (jk K44 Jn) (exK [(6,(jk K22 J6))]) (jk KR Jr)=k22 e Jn J6 Jr t h
| (c,d,f,g,i,j,k,_),h=>(nd_norm' (X:=(C [8,4])) (a:=C [8,4,0]) (b:=C [8,5]) (L:=K44) (by kernel_rfl) (by kernel_rfl) (by kernel_rfl) (SB:=(r23 e Jn J6 Jr)) (r23_eq e Jn J6 Jr) _ _).trans (nd_cond' (X:=C [8,4,0]) (a:=C [8,4,0,0]) (b:=C [8,4,1]) (t:=k) (x:=.tmp 70) (by kernel_rfl) (by kernel_rfl) (by kernel_rfl) (by kernel_rfl))
noncomputable def l22(e:Cx)(Jn:Q44)(J6:Q22)(Jr:QR)(t:P44)(h:AH):Res:=c22 e (k22 e Jn J6 Jr) t h
theorem l22_eq(e Jn J6 Jr):∀ t h,X e (C [8,3]) (mkT K44 t) h (jk K44 Jn) (exK [(6,(jk K22 J6))]) (jk KR Jr)=l22 e Jn J6 Jr t h
| (a,b,c,d,f,g,_),h=>nd_chain' (X:=C [8,3]) (Y:=(C [8,4])) 1 (L:=K46) (S:=fun J=>c22 e J (a,b,c,d,f,g,()) h) (Q:=(k22 e Jn J6 Jr)) (by kernel_rfl) (fun n=>c22_eq e a b c d f g h n (exK [(6,(jk K22 J6))]) (jk KR Jr)) (k22_eq e Jn J6 Jr)
noncomputable def k21(e:Cx)(Jn:Q22)(Jr:QR)(t:P44)(h:AH):Res:=jaw (P44) e.F (fun t h n=>l22 e n Jn Jr t h) t h
theorem k21_eq(e Jn Jr):∀ t h,X e (C [8,1]) (mkT K44 t) h (jk K22 Jn) (exK []) (jk KR Jr)=k21 e Jn Jr t h
| (a,c,d,f,g,i,_),h=>nd_block' (X:=C [8,1]) (id:=6) (b:=C [8,2]) (by kernel_rfl) ((nd_loop' (X:=C [8,2]) (b:=C [8,3]) (L:=K44) (by kernel_rfl) (by kernel_rfl) (SB:=fun n=>l22 e n Jn Jr) (fun n=>l22_eq e n Jn Jr) _ _).trans (by kernel_rfl))
noncomputable def r21(e:Cx)(Jn:QR)(Jr:QR)(t:P22)(h:AH):Res:=c21 e (k21 e (r26 e Jn Jr) Jr) t h
theorem r21_eq(e Jn Jr):∀ t h,X e (C [8]) (mkT K22 t) h (jk KR Jn) (exK []) (jk KR Jr)=r21 e Jn Jr t h
| (c,d,f,_),h=>(nd_norm' (X:=(C [8])) (a:=C [8,0]) (b:=C [9]) (L:=K22) (by kernel_rfl) (by kernel_rfl) (by kernel_rfl) (SB:=(r26 e Jn Jr)) (r26_eq e Jn Jr) _ _).trans (nd_chain' (X:=C [8,0]) (Y:=(C [8,1])) 1 (L:=K44) (S:=fun J=>c21 e J (c,d,f,()) h) (Q:=(k21 e (r26 e Jn Jr) Jr)) (by kernel_rfl) (fun n=>c21_eq e c d f h n (exK []) (jk KR Jr)) (k21_eq e (r26 e Jn Jr) Jr))
noncomputable def c16(e:Cx)(J:Q34):Q22
| (a,b,c,_),h =>
 bI .i64 (lenS b) h fun d f =>
 J (a,b,c,b,d,0,()) f
theorem c16_eq(e a b c h n ee r):Y e (peel 1 (C [7,0])).1 (mkT K22 (a,b,c,())) h n ee r=c16 e (fun t h=>n (mkT K34 t) h) (a,b,c,()) h:=by kernel_rfl
noncomputable def c17(e:Cx)(J:Q36):Q34
| (a,b,c,d,f,g,_),h =>
 J (a,b,c,d,f,g,(decide (g<f)),()) h
theorem c17_eq(e a b c d f g h n ee r):Y e (peel 1 (C [7,3])).1 (mkT K34 (a,b,c,d,f,g,())) h n ee r=c17 e (fun t h=>n (mkT K36 t) h) (a,b,c,d,f,g,()) h:=by kernel_rfl
noncomputable def c20(e:Cx)(J:Q34):Q34
| (a,b,c,d,f,g,_),h =>
 J (a,b,c,d,f,(wr .i64 (g+1)),()) h
theorem c20_eq(e a b c d f g h n ee r):Y e (peel 1 (C [7,6])).1 (mkT K34 (a,b,c,d,f,g,())) h n ee r=c20 e (fun t h=>n (mkT K34 t) h) (a,b,c,d,f,g,()) h:=by kernel_rfl
noncomputable def r20(e:Cx)(Jn:Q34)(J4:Q22)(Jr:QR)(t:P34)(h:AH):Res:=c20 e Jn t h
theorem r20_eq(e Jn J4 Jr):∀ t h,X e (C [7,6]) (mkT K34 t) h (jk K34 Jn) (exK [(4,(jk K22 J4))]) (jk KR Jr)=r20 e Jn J4 Jr t h
| (a,b,c,d,f,g,_),h=>nd_chain' (X:=C [7,6]) (Y:=.skip) 1 (L:=K34) (S:=fun J=>c20 e J (a,b,c,d,f,g,()) h) (Q:=Jn) (by kernel_rfl) (fun n=>c20_eq e a b c d f g h n (exK [(4,(jk K22 J4))]) (jk KR Jr)) (fun t h=>by kernel_rfl)
noncomputable def c18(e:Cx)(J:Q34):Q34
| (a,b,c,d,f,g,_),h =>
 bV (ixS 34 d g) h fun i j =>
 bA (ldA 34 i j) j fun k l =>
 let m:=(al (List.replicate 32 (.int .u8 0)++[.int .u32 0]++[.int .u64 0]) jak l).1
 let o:=(al (List.replicate 32 (.int .u8 0)++[.int .u32 0]++[.int .u64 0]) jak l).2
 bS (st 34 m (.agg k) o) fun p =>
 bV (fA 0 m) p fun q s =>
 bV (slA 32 1 q none none none s) s fun u v =>
 cV (app 1 1 jai c u v) fun w y =>
 J (a,b,w,d,f,g,()) y
theorem c18_eq(e a b c d f g h n ee r):Y e (peel 2 (C [7,5,1])).1 (mkT K34 (a,b,c,d,f,g,())) h n ee r=c18 e (fun t h=>n (mkT K34 t) h) (a,b,c,d,f,g,()) h:=by kernel_rfl
noncomputable def r18(e:Cx)(Jn:Q34)(J4:Q22)(Jr:QR)(t:P34)(h:AH):Res:=c18 e (r20 e Jn J4 Jr) t h
theorem r18_eq(e Jn J4 Jr):∀ t h,X e (C [7,5]) (mkT K34 t) h (jk K34 Jn) (exK [(4,(jk K22 J4))]) (jk KR Jr)=r18 e Jn J4 Jr t h
| (c,d,f,g,i,j,_),h=>(nd_norm' (X:=(C [7,5])) (a:=C [7,5,0]) (b:=C [7,6]) (L:=K34) (by kernel_rfl) (by kernel_rfl) (by kernel_rfl) (SB:=(r20 e Jn J4 Jr)) (r20_eq e Jn J4 Jr) _ _).trans (nd_block' (X:=C [7,5,0]) (id:=5) (b:=C [7,5,1]) (by kernel_rfl) (nd_chain' (X:=C [7,5,1]) (Y:=.skip) 2 (L:=K34) (S:=fun J=>c18 e J (c,d,f,g,i,j,()) h) (Q:=(r20 e Jn J4 Jr)) (by kernel_rfl) (fun n=>c18_eq e c d f g i j h n (exK [(5,(jk K34 (r20 e Jn J4 Jr))),(4,(jk K22 J4))]) (jk KR Jr)) (fun t h=>by kernel_rfl)))
noncomputable def k17(e:Cx)(Jn:Q34)(J4:Q22)(Jr:QR):Q36
| (a,b,c,d,f,g,i,_),h =>
 bif i then (r18 e Jn J4 Jr) (a,b,c,d,f,g,()) h else J4 (a,b,c,()) h
theorem k17_eq(e Jn J4 Jr):∀ t h,X e (C [7,4]) (mkT K36 t) h (jk K34 Jn) (exK [(4,(jk K22 J4))]) (jk KR Jr)=k17 e Jn J4 Jr t h
| (c,d,f,g,i,j,k,_),h=>(nd_norm' (X:=(C [7,4])) (a:=C [7,4,0]) (b:=C [7,5]) (L:=K34) (by kernel_rfl) (by kernel_rfl) (by kernel_rfl) (SB:=(r18 e Jn J4 Jr)) (r18_eq e Jn J4 Jr) _ _).trans (nd_cond' (X:=C [7,4,0]) (a:=C [7,4,0,0]) (b:=C [7,4,1]) (t:=k) (x:=.tmp 59) (by kernel_rfl) (by kernel_rfl) (by kernel_rfl) (by kernel_rfl))
noncomputable def l17(e:Cx)(Jn:Q34)(J4:Q22)(Jr:QR)(t:P34)(h:AH):Res:=c17 e (k17 e Jn J4 Jr) t h
theorem l17_eq(e Jn J4 Jr):∀ t h,X e (C [7,3]) (mkT K34 t) h (jk K34 Jn) (exK [(4,(jk K22 J4))]) (jk KR Jr)=l17 e Jn J4 Jr t h
| (a,b,c,d,f,g,_),h=>nd_chain' (X:=C [7,3]) (Y:=(C [7,4])) 1 (L:=K36) (S:=fun J=>c17 e J (a,b,c,d,f,g,()) h) (Q:=(k17 e Jn J4 Jr)) (by kernel_rfl) (fun n=>c17_eq e a b c d f g h n (exK [(4,(jk K22 J4))]) (jk KR Jr)) (k17_eq e Jn J4 Jr)
noncomputable def k16(e:Cx)(Jn:Q22)(Jr:QR)(t:P34)(h:AH):Res:=jaw (P34) e.F (fun t h n=>l17 e n Jn Jr t h) t h
theorem k16_eq(e Jn Jr):∀ t h,X e (C [7,1]) (mkT K34 t) h (jk K22 Jn) (exK []) (jk KR Jr)=k16 e Jn Jr t h
| (a,c,d,f,g,i,_),h=>nd_block' (X:=C [7,1]) (id:=4) (b:=C [7,2]) (by kernel_rfl) ((nd_loop' (X:=C [7,2]) (b:=C [7,3]) (L:=K34) (by kernel_rfl) (by kernel_rfl) (SB:=fun n=>l17 e n Jn Jr) (fun n=>l17_eq e n Jn Jr) _ _).trans (by kernel_rfl))
noncomputable def r16(e:Cx)(Jn:QR)(Jr:QR)(t:P22)(h:AH):Res:=c16 e (k16 e (r21 e Jn Jr) Jr) t h
theorem r16_eq(e Jn Jr):∀ t h,X e (C [7]) (mkT K22 t) h (jk KR Jn) (exK []) (jk KR Jr)=r16 e Jn Jr t h
| (c,d,f,_),h=>(nd_norm' (X:=(C [7])) (a:=C [7,0]) (b:=C [8]) (L:=K22) (by kernel_rfl) (by kernel_rfl) (by kernel_rfl) (SB:=(r21 e Jn Jr)) (r21_eq e Jn Jr) _ _).trans (nd_chain' (X:=C [7,0]) (Y:=(C [7,1])) 1 (L:=K34) (S:=fun J=>c16 e J (c,d,f,()) h) (Q:=(k16 e (r21 e Jn Jr) Jr)) (by kernel_rfl) (fun n=>c16_eq e c d f h n (exK []) (jk KR Jr)) (k16_eq e (r21 e Jn Jr) Jr))
noncomputable def c11(e:Cx)(J:Q24):Q22
| (a,b,c,_),h =>
 cA (e.C nzap [b] h) fun d f =>
 J (a,b,c,d,0,()) f
theorem c11_eq(e a b c h n ee r):Y e (peel 1 (C [6,0])).1 (mkT K22 (a,b,c,())) h n ee r=c11 e (fun t h=>n (mkT K24 t) h) (a,b,c,()) h:=by kernel_rfl
noncomputable def c12(e:Cx)(J:Q26):Q24
| (a,b,c,d,f,_),h =>
 J (a,b,c,d,f,(decide (f<256)),()) h
theorem c12_eq(e a b c d f h n ee r):Y e (peel 1 (C [6,3])).1 (mkT K24 (a,b,c,d,f,())) h n ee r=c12 e (fun t h=>n (mkT K26 t) h) (a,b,c,d,f,()) h:=by kernel_rfl
noncomputable def c15(e:Cx)(J:Q24):Q24
| (a,b,c,d,f,_),h =>
 J (a,b,c,d,(wr .i64 (f+1)),()) h
theorem c15_eq(e a b c d f h n ee r):Y e (peel 1 (C [6,6])).1 (mkT K24 (a,b,c,d,f,())) h n ee r=c15 e (fun t h=>n (mkT K24 t) h) (a,b,c,d,f,()) h:=by kernel_rfl
noncomputable def r15(e:Cx)(Jn:Q24)(J2:Q22)(Jr:QR)(t:P24)(h:AH):Res:=c15 e Jn t h
theorem r15_eq(e Jn J2 Jr):∀ t h,X e (C [6,6]) (mkT K24 t) h (jk K24 Jn) (exK [(2,(jk K22 J2))]) (jk KR Jr)=r15 e Jn J2 Jr t h
| (a,b,c,d,f,_),h=>nd_chain' (X:=C [6,6]) (Y:=.skip) 1 (L:=K24) (S:=fun J=>c15 e J (a,b,c,d,f,()) h) (Q:=Jn) (by kernel_rfl) (fun n=>c15_eq e a b c d f h n (exK [(2,(jk K22 J2))]) (jk KR Jr)) (fun t h=>by kernel_rfl)
noncomputable def c13(e:Cx)(J:Q24):Q24
| (a,b,c,d,f,_),h =>
 bI .i64 (ixC 256 1 d f) h fun g i =>
 cV (e.C nzan [c,(.int .u64 (wr .u64 g)),(.int .i64 4)] i) fun j k =>
 J (a,b,j,d,f,()) k
theorem c13_eq(e a b c d f h n ee r):Y e (peel 2 (C [6,5,1])).1 (mkT K24 (a,b,c,d,f,())) h n ee r=c13 e (fun t h=>n (mkT K24 t) h) (a,b,c,d,f,()) h:=by kernel_rfl
noncomputable def r13(e:Cx)(Jn:Q24)(J2:Q22)(Jr:QR)(t:P24)(h:AH):Res:=c13 e (r15 e Jn J2 Jr) t h
theorem r13_eq(e Jn J2 Jr):∀ t h,X e (C [6,5]) (mkT K24 t) h (jk K24 Jn) (exK [(2,(jk K22 J2))]) (jk KR Jr)=r13 e Jn J2 Jr t h
| (c,d,f,g,i,_),h=>(nd_norm' (X:=(C [6,5])) (a:=C [6,5,0]) (b:=C [6,6]) (L:=K24) (by kernel_rfl) (by kernel_rfl) (by kernel_rfl) (SB:=(r15 e Jn J2 Jr)) (r15_eq e Jn J2 Jr) _ _).trans (nd_block' (X:=C [6,5,0]) (id:=3) (b:=C [6,5,1]) (by kernel_rfl) (nd_chain' (X:=C [6,5,1]) (Y:=.skip) 2 (L:=K24) (S:=fun J=>c13 e J (c,d,f,g,i,()) h) (Q:=(r15 e Jn J2 Jr)) (by kernel_rfl) (fun n=>c13_eq e c d f g i h n (exK [(3,(jk K24 (r15 e Jn J2 Jr))),(2,(jk K22 J2))]) (jk KR Jr)) (fun t h=>by kernel_rfl)))
noncomputable def k12(e:Cx)(Jn:Q24)(J2:Q22)(Jr:QR):Q26
| (a,b,c,d,f,g,_),h =>
 bif g then (r13 e Jn J2 Jr) (a,b,c,d,f,()) h else J2 (a,b,c,()) h
theorem k12_eq(e Jn J2 Jr):∀ t h,X e (C [6,4]) (mkT K26 t) h (jk K24 Jn) (exK [(2,(jk K22 J2))]) (jk KR Jr)=k12 e Jn J2 Jr t h
| (c,d,f,g,i,j,_),h=>(nd_norm' (X:=(C [6,4])) (a:=C [6,4,0]) (b:=C [6,5]) (L:=K24) (by kernel_rfl) (by kernel_rfl) (by kernel_rfl) (SB:=(r13 e Jn J2 Jr)) (r13_eq e Jn J2 Jr) _ _).trans (nd_cond' (X:=C [6,4,0]) (a:=C [6,4,0,0]) (b:=C [6,4,1]) (t:=j) (x:=.tmp 49) (by kernel_rfl) (by kernel_rfl) (by kernel_rfl) (by kernel_rfl))
noncomputable def l12(e:Cx)(Jn:Q24)(J2:Q22)(Jr:QR)(t:P24)(h:AH):Res:=c12 e (k12 e Jn J2 Jr) t h
theorem l12_eq(e Jn J2 Jr):∀ t h,X e (C [6,3]) (mkT K24 t) h (jk K24 Jn) (exK [(2,(jk K22 J2))]) (jk KR Jr)=l12 e Jn J2 Jr t h
| (a,b,c,d,f,_),h=>nd_chain' (X:=C [6,3]) (Y:=(C [6,4])) 1 (L:=K26) (S:=fun J=>c12 e J (a,b,c,d,f,()) h) (Q:=(k12 e Jn J2 Jr)) (by kernel_rfl) (fun n=>c12_eq e a b c d f h n (exK [(2,(jk K22 J2))]) (jk KR Jr)) (k12_eq e Jn J2 Jr)
noncomputable def k11(e:Cx)(Jn:Q22)(Jr:QR)(t:P24)(h:AH):Res:=jaw (P24) e.F (fun t h n=>l12 e n Jn Jr t h) t h
theorem k11_eq(e Jn Jr):∀ t h,X e (C [6,1]) (mkT K24 t) h (jk K22 Jn) (exK []) (jk KR Jr)=k11 e Jn Jr t h
| (a,c,d,f,g,_),h=>nd_block' (X:=C [6,1]) (id:=2) (b:=C [6,2]) (by kernel_rfl) ((nd_loop' (X:=C [6,2]) (b:=C [6,3]) (L:=K24) (by kernel_rfl) (by kernel_rfl) (SB:=fun n=>l12 e n Jn Jr) (fun n=>l12_eq e n Jn Jr) _ _).trans (by kernel_rfl))
noncomputable def k10(e:Cx)(Jn:QR)(Jr:QR)(t:P22)(h:AH):Res:=c11 e (k11 e (r16 e Jn Jr) Jr) t h
theorem k10_eq(e Jn Jr):∀ t h,X e (C [6]) (mkT K22 t) h (jk KR Jn) (exK []) (jk KR Jr)=k10 e Jn Jr t h
| (c,d,f,_),h=>(nd_norm' (X:=(C [6])) (a:=C [6,0]) (b:=C [7]) (L:=K22) (by kernel_rfl) (by kernel_rfl) (by kernel_rfl) (SB:=(r16 e Jn Jr)) (r16_eq e Jn Jr) _ _).trans (nd_chain' (X:=C [6,0]) (Y:=(C [6,1])) 1 (L:=K24) (S:=fun J=>c11 e J (c,d,f,()) h) (Q:=(k11 e (r16 e Jn Jr) Jr)) (by kernel_rfl) (fun n=>c11_eq e c d f h n (exK []) (jk KR Jr)) (k11_eq e (r16 e Jn Jr) Jr))
noncomputable def r10(e:Cx)(Jn:QR)(Jr:QR)(t:P8)(h:AH):Res:=c10 e (k10 e Jn Jr) t h
theorem r10_eq(e Jn Jr):∀ t h,X e (C [5]) (mkT K8 t) h (jk KR Jn) (exK []) (jk KR Jr)=r10 e Jn Jr t h
| (a,b,_),h=>nd_chain' (X:=C [5]) (Y:=(C [6])) 1 (L:=K22) (S:=fun J=>c10 e J (a,b,()) h) (Q:=(k10 e Jn Jr)) (by kernel_rfl) (fun n=>c10_eq e a b h n (exK []) (jk KR Jr)) (k10_eq e Jn Jr)
noncomputable def c5(e:Cx)(J:Q12):Q8
| (a,b,_),h =>
 J (a,b,1,()) h
theorem c5_eq(e a b h n ee r):Y e (peel 1 (C [4,0])).1 (mkT K8 (a,b,())) h n ee r=c5 e (fun t h=>n (mkT K12 t) h) (a,b,()) h:=by kernel_rfl
noncomputable def c7(e:Cx)(J:Q12):Q12
| (a,b,c,_),h =>
 J (a,b,(wr .i64 (c+1)),()) h
theorem c7_eq(e a b c h n ee r):Y e (peel 1 (C [4,5])).1 (mkT K12 (a,b,c,())) h n ee r=c7 e (fun t h=>n (mkT K12 t) h) (a,b,c,()) h:=by kernel_rfl
noncomputable def r7(e:Cx)(Jn:Q12)(J0:Q8)(Jr:QR)(t:P12)(h:AH):Res:=c7 e Jn t h
theorem r7_eq(e Jn J0 Jr):∀ t h,X e (C [4,5]) (mkT K12 t) h (jk K12 Jn) (exK [(0,(jk K8 J0))]) (jk KR Jr)=r7 e Jn J0 Jr t h
| (a,b,c,_),h=>nd_chain' (X:=C [4,5]) (Y:=.skip) 1 (L:=K12) (S:=fun J=>c7 e J (a,b,c,()) h) (Q:=Jn) (by kernel_rfl) (fun n=>c7_eq e a b c h n (exK [(0,(jk K8 J0))]) (jk KR Jr)) (fun t h=>by kernel_rfl)
noncomputable def c8(e:Cx)(J:Q18):Q12
| (a,b,c,_),h =>
 bV (ixS 34 b c) h fun d f =>
 bV (fA 0 d) f fun g i =>
 bA (ldA 32 g i) i fun j k =>
 bV (ixS 34 b (wr .i64 (c-1))) k fun l m =>
 bV (fA 0 l) m fun o p =>
 bA (ldA 32 o p) p fun q s =>
 bB (eqW PP false jab (.agg j) (.agg q)) s fun u v =>
 J (a,b,c,u,()) v
theorem c8_eq(e a b c h n ee r):Y e (peel 1 (C [4,4,1])).1 (mkT K12 (a,b,c,())) h n ee r=c8 e (fun t h=>n (mkT K18 t) h) (a,b,c,()) h:=by kernel_rfl
noncomputable def c9(e:Cx)(J:Q6):Q18
| (a,b,c,d,_),h =>
 J ((.nilslice),8,()) h
theorem c9_eq(e a b c d h n ee r):Y e (peel 1 (C [4,4,2,0])).1 (mkT K18 (a,b,c,d,())) h n ee r=c9 e (fun t h=>n (mkT K6 t) h) (a,b,c,d,()) h:=by kernel_rfl
noncomputable def k8(e:Cx)(Jn:Q12)(J1:Q12)(J0:Q8)(Jr:QR):Q18
| (a,b,c,d,_),h =>
 bif d then c9 e (fun | (f,g,_),i=>Jr (f,(.int .i64 g),()) i) (a,b,c,d,()) h else Jn (a,b,c,()) h
theorem k8_eq(e Jn J1 J0 Jr):∀ t h,X e (C [4,4,2]) (mkT K18 t) h (jk K12 Jn) (exK [(1,(jk K12 J1)),(0,(jk K8 J0))]) (jk KR Jr)=k8 e Jn J1 J0 Jr t h
| (c,d,f,g,_),h=>nd_cond' (X:=C [4,4,2]) (a:=C [4,4,2,0]) (b:=C [4,4,3]) (t:=g) (x:=.tmp 43) (by kernel_rfl) (by kernel_rfl) (nd_chain' (X:=C [4,4,2,0]) (Y:=(C [4,4,2,1])) 1 (L:=K6) (S:=fun J=>c9 e J (c,d,f,g,()) h) (Q:=fun | (i,j,_),k=>Jr (i,(.int .i64 j),()) k) (by kernel_rfl) (fun n=>c9_eq e c d f g h n (exK [(1,(jk K12 J1)),(0,(jk K8 J0))]) (jk KR Jr)) (fun | (i,j,_),k=>by kernel_rfl)) (by kernel_rfl)
noncomputable def r8(e:Cx)(Jn:Q12)(J0:Q8)(Jr:QR)(t:P12)(h:AH):Res:=c8 e (k8 e (r7 e Jn J0 Jr) (r7 e Jn J0 Jr) J0 Jr) t h
theorem r8_eq(e Jn J0 Jr):∀ t h,X e (C [4,4]) (mkT K12 t) h (jk K12 Jn) (exK [(0,(jk K8 J0))]) (jk KR Jr)=r8 e Jn J0 Jr t h
| (c,d,f,_),h=>(nd_norm' (X:=(C [4,4])) (a:=C [4,4,0]) (b:=C [4,5]) (L:=K12) (by kernel_rfl) (by kernel_rfl) (by kernel_rfl) (SB:=(r7 e Jn J0 Jr)) (r7_eq e Jn J0 Jr) _ _).trans (nd_block' (X:=C [4,4,0]) (id:=1) (b:=C [4,4,1]) (by kernel_rfl) (nd_chain' (X:=C [4,4,1]) (Y:=(C [4,4,2])) 1 (L:=K18) (S:=fun J=>c8 e J (c,d,f,()) h) (Q:=(k8 e (r7 e Jn J0 Jr) (r7 e Jn J0 Jr) J0 Jr)) (by kernel_rfl) (fun n=>c8_eq e c d f h n (exK [(1,(jk K12 (r7 e Jn J0 Jr))),(0,(jk K8 J0))]) (jk KR Jr)) (k8_eq e (r7 e Jn J0 Jr) (r7 e Jn J0 Jr) J0 Jr)))
noncomputable def c6(e:Cx)(J:Q14):Q12
| (a,b,c,_),h =>
 bI .i64 (lenS b) h fun d f =>
 J (a,b,c,(decide (c<d)),()) f
theorem c6_eq(e a b c h n ee r):Y e (peel 1 (C [4,3,0])).1 (mkT K12 (a,b,c,())) h n ee r=c6 e (fun t h=>n (mkT K14 t) h) (a,b,c,()) h:=by kernel_rfl
noncomputable def k6(e:Cx)(Jn:Q12)(J0:Q8)(Jr:QR):Q14
| (a,b,c,d,_),h =>
 bif d then Jn (a,b,c,()) h else J0 (a,b,()) h
theorem k6_eq(e Jn J0 Jr):∀ t h,X e (C [4,3,1]) (mkT K14 t) h (jk K12 Jn) (exK [(0,(jk K8 J0))]) (jk KR Jr)=k6 e Jn J0 Jr t h
| (c,d,f,g,_),h=>nd_cond' (X:=C [4,3,1]) (a:=C [4,3,1,0]) (b:=C [4,3,2]) (t:=g) (x:=.tmp 29) (by kernel_rfl) (by kernel_rfl) (by kernel_rfl) (by kernel_rfl)
noncomputable def l6(e:Cx)(Jn:Q12)(J0:Q8)(Jr:QR)(t:P12)(h:AH):Res:=c6 e (k6 e (r8 e Jn J0 Jr) J0 Jr) t h
theorem l6_eq(e Jn J0 Jr):∀ t h,X e (C [4,3]) (mkT K12 t) h (jk K12 Jn) (exK [(0,(jk K8 J0))]) (jk KR Jr)=l6 e Jn J0 Jr t h
| (c,d,f,_),h=>(nd_norm' (X:=(C [4,3])) (a:=C [4,3,0]) (b:=C [4,4]) (L:=K12) (by kernel_rfl) (by kernel_rfl) (by kernel_rfl) (SB:=(r8 e Jn J0 Jr)) (r8_eq e Jn J0 Jr) _ _).trans (nd_chain' (X:=C [4,3,0]) (Y:=(C [4,3,1])) 1 (L:=K14) (S:=fun J=>c6 e J (c,d,f,()) h) (Q:=(k6 e (r8 e Jn J0 Jr) J0 Jr)) (by kernel_rfl) (fun n=>c6_eq e c d f h n (exK [(0,(jk K8 J0))]) (jk KR Jr)) (k6_eq e (r8 e Jn J0 Jr) J0 Jr))
noncomputable def k5(e:Cx)(Jn:Q8)(Jr:QR)(t:P12)(h:AH):Res:=jaw (P12) e.F (fun t h n=>l6 e n Jn Jr t h) t h
theorem k5_eq(e Jn Jr):∀ t h,X e (C [4,1]) (mkT K12 t) h (jk K8 Jn) (exK []) (jk KR Jr)=k5 e Jn Jr t h
| (a,c,d,_),h=>nd_block' (X:=C [4,1]) (id:=0) (b:=C [4,2]) (by kernel_rfl) ((nd_loop' (X:=C [4,2]) (b:=C [4,3]) (L:=K12) (by kernel_rfl) (by kernel_rfl) (SB:=fun n=>l6 e n Jn Jr) (fun n=>l6_eq e n Jn Jr) _ _).trans (by kernel_rfl))
noncomputable def k4(e:Cx)(Jn:QR)(Jr:QR)(t:P8)(h:AH):Res:=c5 e (k5 e (r10 e Jn Jr) Jr) t h
theorem k4_eq(e Jn Jr):∀ t h,X e (C [4]) (mkT K8 t) h (jk KR Jn) (exK []) (jk KR Jr)=k4 e Jn Jr t h
| (c,d,_),h=>(nd_norm' (X:=(C [4])) (a:=C [4,0]) (b:=C [5]) (L:=K8) (by kernel_rfl) (by kernel_rfl) (by kernel_rfl) (SB:=(r10 e Jn Jr)) (r10_eq e Jn Jr) _ _).trans (nd_chain' (X:=C [4,0]) (Y:=(C [4,1])) 1 (L:=K12) (S:=fun J=>c5 e J (c,d,()) h) (Q:=(k5 e (r10 e Jn Jr) Jr)) (by kernel_rfl) (fun n=>c5_eq e c d h n (exK []) (jk KR Jr)) (k5_eq e (r10 e Jn Jr) Jr))
noncomputable def r3(e:Cx)(Jn:QR)(Jr:QR)(t:P2)(h:AH):Res:=c3 e (k4 e Jn Jr) t h
theorem r3_eq(e Jn Jr):∀ t h,X e (C [2]) (mkT K2 t) h (jk KR Jn) (exK []) (jk KR Jr)=r3 e Jn Jr t h
| (a,b,_),h=>nd_chain' (X:=C [2]) (Y:=(C [4])) 2 (L:=K8) (S:=fun J=>c3 e J (a,b,()) h) (Q:=(k4 e Jn Jr)) (by kernel_rfl) (fun n=>c3_eq e a b h n (exK []) (jk KR Jr)) (k4_eq e Jn Jr)
noncomputable def c1(e:Cx)(J:Q4):Q2
| (a,b,_),h =>
 bI .i64 (lenS a) h fun c d =>
 J (a,b,(decide (c>4096)),()) d
theorem c1_eq(e a b h n ee r):Y e (peel 1 (C [1,0])).1 (mkT K2 (a,b,())) h n ee r=c1 e (fun t h=>n (mkT K4 t) h) (a,b,()) h:=by kernel_rfl
noncomputable def c2(e:Cx)(J:Q6):Q4
| (a,b,c,_),h =>
 J ((.nilslice),2,()) h
theorem c2_eq(e a b c h n ee r):Y e (peel 1 (C [1,1,0])).1 (mkT K4 (a,b,c,())) h n ee r=c2 e (fun t h=>n (mkT K6 t) h) (a,b,c,()) h:=by kernel_rfl
noncomputable def k1(e:Cx)(Jn:Q2)(Jr:QR):Q4
| (a,b,c,_),h =>
 bif c then c2 e (fun | (d,f,_),g=>Jr (d,(.int .i64 f),()) g) (a,b,c,()) h else Jn (a,b,()) h
theorem k1_eq(e Jn Jr):∀ t h,X e (C [1,1]) (mkT K4 t) h (jk K2 Jn) (exK []) (jk KR Jr)=k1 e Jn Jr t h
| (c,d,f,_),h=>nd_cond' (X:=C [1,1]) (a:=C [1,1,0]) (b:=C [1,2]) (t:=f) (x:=.tmp 21) (by kernel_rfl) (by kernel_rfl) (nd_chain' (X:=C [1,1,0]) (Y:=(C [1,1,1])) 1 (L:=K6) (S:=fun J=>c2 e J (c,d,f,()) h) (Q:=fun | (g,i,_),j=>Jr (g,(.int .i64 i),()) j) (by kernel_rfl) (fun n=>c2_eq e c d f h n (exK []) (jk KR Jr)) (fun | (g,i,_),j=>by kernel_rfl)) (by kernel_rfl)
noncomputable def k0(e:Cx)(Jn:QR)(Jr:QR)(t:P2)(h:AH):Res:=c1 e (k1 e (r3 e Jn Jr) Jr) t h
theorem k0_eq(e Jn Jr):∀ t h,X e (C [1]) (mkT K2 t) h (jk KR Jn) (exK []) (jk KR Jr)=k0 e Jn Jr t h
| (c,d,_),h=>(nd_norm' (X:=(C [1])) (a:=C [1,0]) (b:=C [2]) (L:=K2) (by kernel_rfl) (by kernel_rfl) (by kernel_rfl) (SB:=(r3 e Jn Jr)) (r3_eq e Jn Jr) _ _).trans (nd_chain' (X:=C [1,0]) (Y:=(C [1,1])) 1 (L:=K4) (S:=fun J=>c1 e J (c,d,()) h) (Q:=(k1 e (r3 e Jn Jr) Jr)) (by kernel_rfl) (fun n=>c1_eq e c d h n (exK []) (jk KR Jr)) (k1_eq e (r3 e Jn Jr) Jr))
noncomputable def fn(e:Cx)(a:V)(b:List V)(h:AH):Res :=
 c0 e (k0 e ret ret) (a,b,()) h
theorem run(e:Cx)(a:V)(b:List V)(h:AH):execFn (cfgS e) (jbi lv) e.F nzaj [a,(.agg b)] h=fn e a b h:=by
 refine (fn_eq (c:=cfgS e) (lv:=lv) (PP.funcs.getD 9 default) B (by kernel_rfl) (by kernel_rfl) (Nat.le_of_ble_eq_true (by kernel_rfl))).trans ?_
 rw [ret_eq]
 exact nd_chain' (X:=C [0]) (Y:=(C [1])) 1 (L:=K2) (S:=fun J=>c0 e J (a,b,()) h) (Q:=(k0 e ret ret)) (by kernel_rfl) (fun n=>c0_eq e a b h n (exK []) (jk KR ret)) (k0_eq e ret ret)
end zaj
namespace zav
noncomputable def B:Code:=cBody (PP.funcs.getD 12 default)
abbrev K2:Slots:=[(0,.any),(1,.any)]
abbrev P2:=V×V×Unit
abbrev Q2:=P2→AH→Res
abbrev K4:Slots:=[(4,.bool)]
abbrev P4:=Bool×Unit
abbrev Q4:=P4→AH→Res
noncomputable def lv:=lvT [(2,K2),(4,K4)]
abbrev KR:Slots:=[(4,.any)]
abbrev PR:=V×Unit
abbrev QR:=PR→AH→Res
noncomputable abbrev X (e:Cx):=exL (cfgS e) lv 10 e.F
noncomputable abbrev Y (e:Cx):=runL (cfgS e) lv 10 e.F
noncomputable abbrev C (p:List Nat):=cP p B
noncomputable def ret:QR
| (a,_),h=>finW [some a] h
theorem ret_eq(e:Cx):fin (cfgS e) (jbi lv) (PP.funcs.getD 12 default)=jk KR ret:=by kernel_rfl
noncomputable def c0(e:Cx)(J:Q4):V×V×Unit→AH→Res
| (a,b,_),h =>
 cZ (toS a h) fun c d =>
 cZ (toS b d) fun f g =>
 J ((natsEq c f),()) g
theorem c0_eq(e a b h n ee r):Y e (peel 2 (C [0])).1 (iniT [a,b] 0 .leaf) h n ee r=c0 e (fun t h=>n (mkT K4 t) h) (a,b,()) h:=by kernel_rfl
noncomputable def fn(e:Cx)(a:V)(b:V)(h:AH):Res :=
 c0 e (fun | (c,_),d=>ret ((.bool c),()) d) (a,b,()) h
theorem run(e:Cx)(a:V)(b:V)(h:AH):execFn (cfgS e) (jbi lv) e.F nzav [a,b] h=fn e a b h:=by
 refine (fn_eq (c:=cfgS e) (lv:=lv) (PP.funcs.getD 12 default) B (by kernel_rfl) (by kernel_rfl) (Nat.le_of_ble_eq_true (by kernel_rfl))).trans ?_
 rw [ret_eq]
 exact nd_chain' (X:=C [0]) (Y:=(C [2])) 2 (L:=K4) (S:=fun J=>c0 e J (a,b,()) h) (Q:=fun | (d,_),f=>ret ((.bool d),()) f) (by kernel_rfl) (fun n=>c0_eq e a b h n (exK []) (jk KR ret)) (fun | (d,_),f=>by kernel_rfl)
end zav
namespace zam
noncomputable def B:Code:=cBody (PP.funcs.getD 13 default)
abbrev K2:Slots:=[(0,.any),(3,.any)]
abbrev P2:=V×V×Unit
abbrev Q2:=P2→AH→Res
abbrev K4:Slots:=[(0,.any),(3,.any),(5,.any)]
abbrev P4:=V×V×V×Unit
abbrev Q4:=P4→AH→Res
abbrev K6:Slots:=[(0,.any),(3,.any),(5,.any),(6,.int .i64),(8,.int .i64)]
abbrev P6:=V×V×V×Int×Int×Unit
abbrev Q6:=P6→AH→Res
abbrev K8:Slots:=[(0,.any),(3,.any),(5,.any),(6,.int .i64),(8,.int .i64),(26,.bool)]
abbrev P8:=V×V×V×Int×Int×Bool×Unit
abbrev Q8:=P8→AH→Res
abbrev K10:Slots:=[(2,.any),(3,.any),(4,.int .i64)]
abbrev P10:=V×V×Int×Unit
abbrev Q10:=P10→AH→Res
abbrev K11:Slots:=[(0,.any),(3,.any),(5,.any),(6,.int .i64)]
abbrev P11:=V×V×V×Int×Unit
abbrev Q11:=P11→AH→Res
abbrev K12:Slots:=[(0,.any),(3,.any),(5,.any),(6,.int .i64),(9,.int .i64)]
abbrev P12:=V×V×V×Int×Int×Unit
abbrev Q12:=P12→AH→Res
abbrev K14:Slots:=[(0,.any),(3,.any),(5,.any),(6,.int .i64),(9,.int .i64),(10,.any)]
abbrev P14:=V×V×V×Int×Int×V×Unit
abbrev Q14:=P14→AH→Res
abbrev K16:Slots:=[(0,.any),(3,.any),(5,.any),(6,.int .i64),(9,.int .i64),(41,.bool)]
abbrev P16:=V×V×V×Int×Int×Bool×Unit
abbrev Q16:=P16→AH→Res
abbrev K20:Slots:=[(0,.any),(3,.any),(5,.any),(6,.int .i64),(9,.int .i64),(11,.any)]
abbrev P20:=V×V×V×Int×Int×V×Unit
abbrev Q20:=P20→AH→Res
abbrev K22:Slots:=[(0,.any),(3,.any),(5,.any),(6,.int .i64),(9,.int .i64),(11,.any),(12,.int .i64)]
abbrev P22:=V×V×V×Int×Int×V×Int×Unit
abbrev Q22:=P22→AH→Res
abbrev K24:Slots:=[(0,.any),(3,.any),(5,.any),(6,.int .i64),(9,.int .i64),(11,.any),(12,.int .i64),(46,.int .i64),(47,.int .i64)]
abbrev P24:=V×V×V×Int×Int×V×Int×Int×Int×Unit
abbrev Q24:=P24→AH→Res
abbrev K26:Slots:=[(0,.any),(3,.any),(5,.any),(6,.int .i64),(9,.int .i64),(11,.any),(12,.int .i64),(46,.int .i64),(47,.int .i64),(48,.bool)]
abbrev P26:=V×V×V×Int×Int×V×Int×Int×Int×Bool×Unit
abbrev Q26:=P26→AH→Res
abbrev K28:Slots:=[(0,.any),(3,.any),(5,.any),(6,.int .i64),(9,.int .i64),(11,.any),(12,.int .i64),(13,.int .i64),(46,.int .i64),(47,.int .i64)]
abbrev P28:=V×V×V×Int×Int×V×Int×Int×Int×Int×Unit
abbrev Q28:=P28→AH→Res
abbrev K30:Slots:=[(0,.any),(3,.any),(5,.any),(6,.int .i64),(9,.int .i64),(11,.any),(12,.int .i64),(13,.int .i64),(14,.int .u64),(46,.int .i64),(47,.int .i64)]
abbrev P30:=V×V×V×Int×Int×V×Int×Int×Int×Int×Int×Unit
abbrev Q30:=P30→AH→Res
abbrev K32:Slots:=[(0,.any),(3,.any),(5,.any),(6,.int .i64),(9,.int .i64),(11,.any),(12,.int .i64),(13,.int .i64),(14,.int .u64),(46,.int .i64),(47,.int .i64),(59,.bool)]
abbrev P32:=V×V×V×Int×Int×V×Int×Int×Int×Int×Int×Bool×Unit
abbrev Q32:=P32→AH→Res
abbrev K34:Slots:=[(0,.any),(3,.any),(5,.any),(6,.int .i64),(9,.int .i64),(11,.any),(12,.int .i64),(13,.int .i64),(46,.int .i64),(47,.int .i64),(64,.bool)]
abbrev P34:=V×V×V×Int×Int×V×Int×Int×Int×Int×Bool×Unit
abbrev Q34:=P34→AH→Res
abbrev K44:Slots:=[(0,.any),(3,.any),(5,.any),(6,.int .i64),(9,.int .i64),(11,.any),(12,.int .i64),(46,.int .i64),(47,.int .i64),(118,.bool)]
abbrev P44:=V×V×V×Int×Int×V×Int×Int×Int×Bool×Unit
abbrev Q44:=P44→AH→Res
abbrev K49:Slots:=[(0,.any),(3,.any),(5,.any),(9,.int .i64),(11,.any)]
abbrev P49:=V×V×V×Int×V×Unit
abbrev Q49:=P49→AH→Res
abbrev K50:Slots:=[(0,.any),(3,.any),(5,.any),(9,.int .i64),(11,.any),(122,.agg),(123,.int .i64)]
abbrev P50:=V×V×V×Int×V×List V×Int×Unit
abbrev Q50:=P50→AH→Res
abbrev K52:Slots:=[(0,.any),(3,.any),(5,.any),(9,.int .i64),(11,.any),(122,.agg),(123,.int .i64),(124,.bool)]
abbrev P52:=V×V×V×Int×V×List V×Int×Bool×Unit
abbrev Q52:=P52→AH→Res
abbrev K54:Slots:=[(0,.any),(3,.any),(5,.any),(9,.int .i64),(11,.any),(15,.int .i64),(16,.int .i64),(122,.agg),(123,.int .i64)]
abbrev P54:=V×V×V×Int×V×Int×Int×List V×Int×Unit
abbrev Q54:=P54→AH→Res
abbrev K56:Slots:=[(0,.any),(3,.any),(5,.any),(9,.int .i64),(11,.any),(122,.agg),(123,.int .i64),(134,.bool)]
abbrev P56:=V×V×V×Int×V×List V×Int×Bool×Unit
abbrev Q56:=P56→AH→Res
abbrev K61:Slots:=[(0,.any),(3,.any),(9,.int .i64),(11,.any)]
abbrev P61:=V×V×Int×V×Unit
abbrev Q61:=P61→AH→Res
noncomputable def lv:=lvT [(2,K2),(4,K4),(6,K6),(8,K8),(10,K10),(11,K11),(12,K12),(14,K14),(16,K16),(18,K10),(19,K12),(20,K20),(22,K22),(24,K24),(26,K26),(27,K24),(28,K28),(30,K30),(32,K32),(34,K34),(36,K10),(37,K28),(38,K30),(40,K30),(41,K30),(42,K28),(44,K44),(46,K10),(47,K24),(48,K24),(25,K24),(49,K49),(50,K50),(52,K52),(53,K50),(54,K54),(56,K56),(58,K10),(59,K50),(60,K50),(51,K50),(61,K61),(62,K10)]
abbrev KR:Slots:=[(2,.any),(3,.any),(4,.any)]
abbrev PR:=V×V×V×Unit
abbrev QR:=PR→AH→Res
noncomputable abbrev X (e:Cx):=exL (cfgS e) lv 145 e.F
noncomputable abbrev Y (e:Cx):=runL (cfgS e) lv 145 e.F
noncomputable abbrev C (p:List Nat):=cP p B
noncomputable def ret:QR
| (a,b,c,_),h=>finW [some a,ldA 32 b h,some c] h
theorem ret_eq(e:Cx):fin (cfgS e) (jbi lv) (PP.funcs.getD 13 default)=jk KR ret:=by kernel_rfl
noncomputable def c0(e:Cx)(J:Q6):V×Unit→AH→Res
| (a,_),h =>
 let b:=(al (List.replicate 32 (.int .u8 0)) jab h).1
 let c:=(al (List.replicate 32 (.int .u8 0)) jab h).2
 bA (bld [(0,1,a)] [.nilslice]) c fun d f =>
 let g:=(al [.nilslice] jba f).1
 let i:=(al [.nilslice] jba f).2
 bS (st 1 g (.agg d) i) fun j =>
 bA (ldA 1 g j) j fun k l =>
 cV (e.C nzaq [(.agg k)] l) fun m o =>
 bI .i64 (jat m 0) o fun p q =>
 bI .i64 (jat m 1) q fun s u =>
 bI .i64 (jat m 2) u fun v w =>
 J (a,b,g,p,v,()) w
theorem c0_eq(e a h n ee r):Y e (peel 3 (C [0])).1 (iniT [a] 0 .leaf) h n ee r=c0 e (fun t h=>n (mkT K6 t) h) (a,()) h:=by kernel_rfl
noncomputable def c5(e:Cx)(J:Q12):Q11
| (a,b,c,d,_),h =>
 bI .i64 (lenS a) h fun f g =>
 J (a,b,c,d,(wr .i64 (f-32)),()) g
theorem c5_eq(e a b c d h n ee r):Y e (peel 1 (C [4])).1 (mkT K11 (a,b,c,d,())) h n ee r=c5 e (fun t h=>n (mkT K12 t) h) (a,b,c,d,()) h:=by kernel_rfl
noncomputable def c9(e:Cx)(J:Q22):Q12
| (a,b,c,d,f,_),h =>
 cV (mkS 34 48 (List.replicate 32 (.int .u8 0)++[.int .u32 0]++[.int .u64 0]) jak d d h) fun g i =>
 J (a,b,c,d,f,g,0,()) i
theorem c9_eq(e a b c d f h n ee r):Y e (peel 2 (C [6])).1 (mkT K12 (a,b,c,d,f,())) h n ee r=c9 e (fun t h=>n (mkT K22 t) h) (a,b,c,d,f,()) h:=by kernel_rfl
noncomputable def c30(e:Cx)(J:Q10):Q61
| (a,b,c,d,_),h =>
 bV (slS 1 a (some (.int .i64 (wr .i64 (c-32)))) (some (.int .i64 c)) none) h fun f g =>
 bV (arrAt 32 f) g fun i j =>
 bA (ldA 32 i j) j fun k l =>
 bS (st 32 b (.agg k) l) fun m =>
 J (d,b,0,()) m
theorem c30_eq(e a b c d h n ee r):Y e (peel 1 (C [10])).1 (mkT K61 (a,b,c,d,())) h n ee r=c30 e (fun t h=>n (mkT K10 t) h) (a,b,c,d,()) h:=by kernel_rfl
noncomputable def r30(e:Cx)(Jn:QR)(Jr:QR)(t:P61)(h:AH):Res:=c30 e (fun | (a,b,c,_),d=>Jr (a,b,(.int .i64 c),()) d) t h
theorem r30_eq(e Jn Jr):∀ t h,X e (C [10]) (mkT K61 t) h (jk KR Jn) (exK []) (jk KR Jr)=r30 e Jn Jr t h
| (a,b,c,d,_),h=>nd_chain' (X:=C [10]) (Y:=(C [11])) 1 (L:=K10) (S:=fun J=>c30 e J (a,b,c,d,()) h) (Q:=fun | (f,g,i,_),j=>Jr (f,g,(.int .i64 i),()) j) (by kernel_rfl) (fun n=>c30_eq e a b c d h n (exK []) (jk KR Jr)) (fun | (f,g,i,_),j=>by kernel_rfl)
noncomputable def c24(e:Cx)(J:Q50):Q49
| (a,b,c,d,f,_),h =>
 cA (e.C nzap [f] h) fun g i =>
 J (a,b,c,d,f,g,0,()) i
theorem c24_eq(e a b c d f h n ee r):Y e (peel 1 (C [9,0])).1 (mkT K49 (a,b,c,d,f,())) h n ee r=c24 e (fun t h=>n (mkT K50 t) h) (a,b,c,d,f,()) h:=by kernel_rfl
noncomputable def c25(e:Cx)(J:Q52):Q50
| (a,b,c,d,f,g,i,_),h =>
 J (a,b,c,d,f,g,i,(decide (i<256)),()) h
theorem c25_eq(e a b c d f g i h n ee r):Y e (peel 1 (C [9,3])).1 (mkT K50 (a,b,c,d,f,g,i,())) h n ee r=c25 e (fun t h=>n (mkT K52 t) h) (a,b,c,d,f,g,i,()) h:=by kernel_rfl
noncomputable def c29(e:Cx)(J:Q50):Q50
| (a,b,c,d,f,g,i,_),h =>
 J (a,b,c,d,f,g,(wr .i64 (i+1)),()) h
theorem c29_eq(e a b c d f g i h n ee r):Y e (peel 1 (C [9,6])).1 (mkT K50 (a,b,c,d,f,g,i,())) h n ee r=c29 e (fun t h=>n (mkT K50 t) h) (a,b,c,d,f,g,i,()) h:=by kernel_rfl
noncomputable def r29(e:Cx)(Jn:Q50)(J2:Q61)(Jr:QR)(t:P50)(h:AH):Res:=c29 e Jn t h
theorem r29_eq(e Jn J2 Jr):∀ t h,X e (C [9,6]) (mkT K50 t) h (jk K50 Jn) (exK [(2,(jk K61 J2))]) (jk KR Jr)=r29 e Jn J2 Jr t h
| (a,b,c,d,f,g,i,_),h=>nd_chain' (X:=C [9,6]) (Y:=.skip) 1 (L:=K50) (S:=fun J=>c29 e J (a,b,c,d,f,g,i,()) h) (Q:=Jn) (by kernel_rfl) (fun n=>c29_eq e a b c d f g i h n (exK [(2,(jk K61 J2))]) (jk KR Jr)) (fun t h=>by kernel_rfl)
noncomputable def c26(e:Cx)(J:Q56):Q50
| (a,b,c,d,f,g,i,_),h =>
 bI .i64 (ixC 256 1 g i) h fun j k =>
 bA (ldA 1 c k) k fun l m =>
 cI .u64 (e.C nzar [(.agg l),(.int .i64 (wr .i64 (8+(wr .i64 (4*i)))))] m) fun o p =>
 J (a,b,c,d,f,g,i,(o != (wr .u64 j)),()) p
theorem c26_eq(e a b c d f g i h n ee r):Y e (peel 2 (C [9,5,1])).1 (mkT K50 (a,b,c,d,f,g,i,())) h n ee r=c26 e (fun t h=>n (mkT K56 t) h) (a,b,c,d,f,g,i,()) h:=by kernel_rfl
noncomputable def c28(e:Cx)(J:Q10):Q56
| (a,b,c,d,f,g,i,j,_),h =>
 bA (bld [] (List.replicate 32 (.int .u8 0))) h fun k l =>
 bS (st 32 b (.agg k) l) fun m =>
 J ((.nilslice),b,4,()) m
theorem c28_eq(e a b c d f g i j h n ee r):Y e (peel 1 (C [9,5,3,0])).1 (mkT K56 (a,b,c,d,f,g,i,j,())) h n ee r=c28 e (fun t h=>n (mkT K10 t) h) (a,b,c,d,f,g,i,j,()) h:=by kernel_rfl
noncomputable def k27(e:Cx)(Jn:Q50)(J3:Q50)(J2:Q61)(Jr:QR):Q56
| (a,b,c,d,f,g,i,j,_),h =>
 bif j then c28 e (fun | (k,l,m,_),o=>Jr (k,l,(.int .i64 m),()) o) (a,b,c,d,f,g,i,j,()) h else Jn (a,b,c,d,f,g,i,()) h
theorem k27_eq(e Jn J3 J2 Jr):∀ t h,X e (C [9,5,3]) (mkT K56 t) h (jk K50 Jn) (exK [(3,(jk K50 J3)),(2,(jk K61 J2))]) (jk KR Jr)=k27 e Jn J3 J2 Jr t h
| (c,d,f,g,i,j,k,l,_),h=>nd_cond' (X:=C [9,5,3]) (a:=C [9,5,3,0]) (b:=C [9,5,4]) (t:=l) (x:=.tmp 134) (by kernel_rfl) (by kernel_rfl) (nd_chain' (X:=C [9,5,3,0]) (Y:=(C [9,5,3,1])) 1 (L:=K10) (S:=fun J=>c28 e J (c,d,f,g,i,j,k,l,()) h) (Q:=fun | (m,o,p,_),q=>Jr (m,o,(.int .i64 p),()) q) (by kernel_rfl) (fun n=>c28_eq e c d f g i j k l h n (exK [(3,(jk K50 J3)),(2,(jk K61 J2))]) (jk KR Jr)) (fun | (m,o,p,_),q=>by kernel_rfl)) (by kernel_rfl)
noncomputable def r26(e:Cx)(Jn:Q50)(J2:Q61)(Jr:QR)(t:P50)(h:AH):Res:=c26 e (k27 e (r29 e Jn J2 Jr) (r29 e Jn J2 Jr) J2 Jr) t h
theorem r26_eq(e Jn J2 Jr):∀ t h,X e (C [9,5]) (mkT K50 t) h (jk K50 Jn) (exK [(2,(jk K61 J2))]) (jk KR Jr)=r26 e Jn J2 Jr t h
| (c,d,f,g,i,j,k,_),h=>(nd_norm' (X:=(C [9,5])) (a:=C [9,5,0]) (b:=C [9,6]) (L:=K50) (by kernel_rfl) (by kernel_rfl) (by kernel_rfl) (SB:=(r29 e Jn J2 Jr)) (r29_eq e Jn J2 Jr) _ _).trans (nd_block' (X:=C [9,5,0]) (id:=3) (b:=C [9,5,1]) (by kernel_rfl) (nd_chain' (X:=C [9,5,1]) (Y:=(C [9,5,3])) 2 (L:=K56) (S:=fun J=>c26 e J (c,d,f,g,i,j,k,()) h) (Q:=(k27 e (r29 e Jn J2 Jr) (r29 e Jn J2 Jr) J2 Jr)) (by kernel_rfl) (fun n=>c26_eq e c d f g i j k h n (exK [(3,(jk K50 (r29 e Jn J2 Jr))),(2,(jk K61 J2))]) (jk KR Jr)) (k27_eq e (r29 e Jn J2 Jr) (r29 e Jn J2 Jr) J2 Jr)))
noncomputable def k25(e:Cx)(Jn:Q50)(J2:Q61)(Jr:QR):Q52
| (a,b,c,d,f,g,i,j,_),h =>
 bif j then (r26 e Jn J2 Jr) (a,b,c,d,f,g,i,()) h else J2 (a,b,d,f,()) h
theorem k25_eq(e Jn J2 Jr):∀ t h,X e (C [9,4]) (mkT K52 t) h (jk K50 Jn) (exK [(2,(jk K61 J2))]) (jk KR Jr)=k25 e Jn J2 Jr t h
| (c,d,f,g,i,j,k,l,_),h=>(nd_norm' (X:=(C [9,4])) (a:=C [9,4,0]) (b:=C [9,5]) (L:=K50) (by kernel_rfl) (by kernel_rfl) (by kernel_rfl) (SB:=(r26 e Jn J2 Jr)) (r26_eq e Jn J2 Jr) _ _).trans (nd_cond' (X:=C [9,4,0]) (a:=C [9,4,0,0]) (b:=C [9,4,1]) (t:=l) (x:=.tmp 124) (by kernel_rfl) (by kernel_rfl) (by kernel_rfl) (by kernel_rfl))
noncomputable def l25(e:Cx)(Jn:Q50)(J2:Q61)(Jr:QR)(t:P50)(h:AH):Res:=c25 e (k25 e Jn J2 Jr) t h
theorem l25_eq(e Jn J2 Jr):∀ t h,X e (C [9,3]) (mkT K50 t) h (jk K50 Jn) (exK [(2,(jk K61 J2))]) (jk KR Jr)=l25 e Jn J2 Jr t h
| (a,b,c,d,f,g,i,_),h=>nd_chain' (X:=C [9,3]) (Y:=(C [9,4])) 1 (L:=K52) (S:=fun J=>c25 e J (a,b,c,d,f,g,i,()) h) (Q:=(k25 e Jn J2 Jr)) (by kernel_rfl) (fun n=>c25_eq e a b c d f g i h n (exK [(2,(jk K61 J2))]) (jk KR Jr)) (k25_eq e Jn J2 Jr)
noncomputable def k24(e:Cx)(Jn:Q61)(Jr:QR)(t:P50)(h:AH):Res:=jaw (P50) e.F (fun t h n=>l25 e n Jn Jr t h) t h
theorem k24_eq(e Jn Jr):∀ t h,X e (C [9,1]) (mkT K50 t) h (jk K61 Jn) (exK []) (jk KR Jr)=k24 e Jn Jr t h
| (a,c,d,f,g,i,j,_),h=>nd_block' (X:=C [9,1]) (id:=2) (b:=C [9,2]) (by kernel_rfl) ((nd_loop' (X:=C [9,2]) (b:=C [9,3]) (L:=K50) (by kernel_rfl) (by kernel_rfl) (SB:=fun n=>l25 e n Jn Jr) (fun n=>l25_eq e n Jn Jr) _ _).trans (by kernel_rfl))
noncomputable def r24(e:Cx)(Jn:QR)(Jr:QR)(t:P49)(h:AH):Res:=c24 e (k24 e (r30 e Jn Jr) Jr) t h
theorem r24_eq(e Jn Jr):∀ t h,X e (C [9]) (mkT K49 t) h (jk KR Jn) (exK []) (jk KR Jr)=r24 e Jn Jr t h
| (c,d,f,g,i,_),h=>(nd_norm' (X:=(C [9])) (a:=C [9,0]) (b:=C [10]) (L:=K61) (by kernel_rfl) (by kernel_rfl) (by kernel_rfl) (SB:=(r30 e Jn Jr)) (r30_eq e Jn Jr) _ _).trans (nd_chain' (X:=C [9,0]) (Y:=(C [9,1])) 1 (L:=K50) (S:=fun J=>c24 e J (c,d,f,g,i,()) h) (Q:=(k24 e (r30 e Jn Jr) Jr)) (by kernel_rfl) (fun n=>c24_eq e c d f g i h n (exK []) (jk KR Jr)) (k24_eq e (r30 e Jn Jr) Jr))
noncomputable def c11(e:Cx)(J:Q24):Q22
| (a,b,c,d,f,g,i,_),h =>
 bI .i64 (lenS g) h fun j k =>
 J (a,b,c,d,f,g,i,j,0,()) k
theorem c11_eq(e a b c d f g i h n ee r):Y e (peel 1 (C [8,0])).1 (mkT K22 (a,b,c,d,f,g,i,())) h n ee r=c11 e (fun t h=>n (mkT K24 t) h) (a,b,c,d,f,g,i,()) h:=by kernel_rfl
noncomputable def c12(e:Cx)(J:Q26):Q24
| (a,b,c,d,f,g,i,j,k,_),h =>
 J (a,b,c,d,f,g,i,j,k,(decide (k<j)),()) h
theorem c12_eq(e a b c d f g i j k h n ee r):Y e (peel 1 (C [8,3])).1 (mkT K24 (a,b,c,d,f,g,i,j,k,())) h n ee r=c12 e (fun t h=>n (mkT K26 t) h) (a,b,c,d,f,g,i,j,k,()) h:=by kernel_rfl
noncomputable def c23(e:Cx)(J:Q24):Q24
| (a,b,c,d,f,g,i,j,k,_),h =>
 J (a,b,c,d,f,g,i,j,(wr .i64 (k+1)),()) h
theorem c23_eq(e a b c d f g i j k h n ee r):Y e (peel 1 (C [8,6])).1 (mkT K24 (a,b,c,d,f,g,i,j,k,())) h n ee r=c23 e (fun t h=>n (mkT K24 t) h) (a,b,c,d,f,g,i,j,k,()) h:=by kernel_rfl
noncomputable def r23(e:Cx)(Jn:Q24)(J0:Q49)(Jr:QR)(t:P24)(h:AH):Res:=c23 e Jn t h
theorem r23_eq(e Jn J0 Jr):∀ t h,X e (C [8,6]) (mkT K24 t) h (jk K24 Jn) (exK [(0,(jk K49 J0))]) (jk KR Jr)=r23 e Jn J0 Jr t h
| (a,b,c,d,f,g,i,j,k,_),h=>nd_chain' (X:=C [8,6]) (Y:=.skip) 1 (L:=K24) (S:=fun J=>c23 e J (a,b,c,d,f,g,i,j,k,()) h) (Q:=Jn) (by kernel_rfl) (fun n=>c23_eq e a b c d f g i j k h n (exK [(0,(jk K49 J0))]) (jk KR Jr)) (fun t h=>by kernel_rfl)
noncomputable def c13(e:Cx)(J:Q30):Q24
| (a,b,c,d,f,g,i,j,k,_),h =>
 bA (ldA 1 c h) h fun l m =>
 let o:Int:=(wr .i64 ((wr .i64 (1032+(wr .i64 (36*d))))+(wr .i64 (4*k))))
 cI .u64 (e.C nzar [(.agg l),(.int .i64 o)] m) fun p q =>
 J (a,b,c,d,f,g,i,k,p,j,k,()) q
theorem c13_eq(e a b c d f g i j k h n ee r):Y e (peel 2 (C [8,5,1])).1 (mkT K24 (a,b,c,d,f,g,i,j,k,())) h n ee r=c13 e (fun t h=>n (mkT K30 t) h) (a,b,c,d,f,g,i,j,k,()) h:=by kernel_rfl
noncomputable def c20(e:Cx)(J:Q44):Q30
| (a,b,c,d,f,g,i,j,k,l,m,_),h =>
 let o:Int:=(wr .i64 ((wr .i64 (1032+(wr .i64 (32*j))))+32))
 bV (slS 1 a (some (.int .i64 (wr .i64 (1032+(wr .i64 (32*j)))))) (some (.int .i64 o)) none) h fun p q =>
 bV (arrAt 32 p) q fun s u =>
 bA (ldA 32 s u) u fun v w =>
 bA (ldA 1 c w) w fun y z =>
 let A:Int:=(wr .i64 ((wr .i64 (1032+(wr .i64 (32*d))))+(wr .i64 (4*j))))
 cI .u64 (quiet (fun h=>e.C nzar [(.agg y),(.int .i64 A)] h) z) fun D E =>
 bA (bld [(0,32,(.agg v)),(32,1,(.int .u32 (wr .u32 D))),(33,1,(.int .u64 k))] (List.replicate 32 (.int .u8 0)++[.int .u32 0]++[.int .u64 0])) E fun G H =>
 bV (ixS 34 g j) H fun I L =>
 bS (st 34 I (.agg G) L) fun M =>
 bif (decide (j>0)) then
  bV (ixS 34 g (wr .i64 (j-1))) M fun N O =>
  bA (ldA 34 N O) O fun R S =>
  bV (ixS 34 g j) S fun T U =>
  bA (ldA 34 T U) U fun V W =>
  cI .i64 (e.C nzao [(.agg R),(.agg V)] W) fun Z aa =>
  let ab:Bool:=(bif true then (decide (Z≥0)) else false)
  J (a,b,c,d,f,g,i,l,m,ab,()) aa
 else
  J (a,b,c,d,f,g,i,l,m,false,()) M
theorem c20_eq(e a b c d f g i j k l m h n ee r):Y e (peel 2 (C [8,5,4])).1 (mkT K30 (a,b,c,d,f,g,i,j,k,l,m,())) h n ee r=c20 e (fun t h=>n (mkT K44 t) h) (a,b,c,d,f,g,i,j,k,l,m,()) h:=by kernel_rfl
noncomputable def c22(e:Cx)(J:Q10):Q44
| (a,b,c,d,f,g,i,j,k,l,_),h =>
 bA (bld [] (List.replicate 32 (.int .u8 0))) h fun m o =>
 bS (st 32 b (.agg m) o) fun p =>
 J ((.nilslice),b,4,()) p
theorem c22_eq(e a b c d f g i j k l h n ee r):Y e (peel 1 (C [8,5,6,0])).1 (mkT K44 (a,b,c,d,f,g,i,j,k,l,())) h n ee r=c22 e (fun t h=>n (mkT K10 t) h) (a,b,c,d,f,g,i,j,k,l,()) h:=by kernel_rfl
noncomputable def k21(e:Cx)(Jn:Q24)(J1:Q24)(J0:Q49)(Jr:QR):Q44
| (a,b,c,d,f,g,i,j,k,l,_),h =>
 bif l then c22 e (fun | (m,o,p,_),q=>Jr (m,o,(.int .i64 p),()) q) (a,b,c,d,f,g,i,j,k,l,()) h else Jn (a,b,c,d,f,g,i,j,k,()) h
theorem k21_eq(e Jn J1 J0 Jr):∀ t h,X e (C [8,5,6]) (mkT K44 t) h (jk K24 Jn) (exK [(1,(jk K24 J1)),(0,(jk K49 J0))]) (jk KR Jr)=k21 e Jn J1 J0 Jr t h
| (c,d,f,g,i,j,k,l,m,o,_),h=>nd_cond' (X:=C [8,5,6]) (a:=C [8,5,6,0]) (b:=C [8,5,7]) (t:=o) (x:=.tmp 118) (by kernel_rfl) (by kernel_rfl) (nd_chain' (X:=C [8,5,6,0]) (Y:=(C [8,5,6,1])) 1 (L:=K10) (S:=fun J=>c22 e J (c,d,f,g,i,j,k,l,m,o,()) h) (Q:=fun | (p,q,s,_),u=>Jr (p,q,(.int .i64 s),()) u) (by kernel_rfl) (fun n=>c22_eq e c d f g i j k l m o h n (exK [(1,(jk K24 J1)),(0,(jk K49 J0))]) (jk KR Jr)) (fun | (p,q,s,_),u=>by kernel_rfl)) (by kernel_rfl)
noncomputable def r20(e:Cx)(Jn:Q24)(J1:Q24)(J0:Q49)(Jr:QR)(t:P30)(h:AH):Res:=c20 e (k21 e Jn J1 J0 Jr) t h
theorem r20_eq(e Jn J1 J0 Jr):∀ t h,X e (C [8,5,4]) (mkT K30 t) h (jk K24 Jn) (exK [(1,(jk K24 J1)),(0,(jk K49 J0))]) (jk KR Jr)=r20 e Jn J1 J0 Jr t h
| (a,b,c,d,f,g,i,j,k,l,m,_),h=>nd_chain' (X:=C [8,5,4]) (Y:=(C [8,5,6])) 2 (L:=K44) (S:=fun J=>c20 e J (a,b,c,d,f,g,i,j,k,l,m,()) h) (Q:=(k21 e Jn J1 J0 Jr)) (by kernel_rfl) (fun n=>c20_eq e a b c d f g i j k l m h n (exK [(1,(jk K24 J1)),(0,(jk K49 J0))]) (jk KR Jr)) (k21_eq e Jn J1 J0 Jr)
noncomputable def c15(e:Cx)(J:Q32):Q30
| (a,b,c,d,f,g,i,j,k,l,m,_),h =>
 J (a,b,c,d,f,g,i,j,k,l,m,(decide (k≥2147483648)),()) h
theorem c15_eq(e a b c d f g i j k l m h n ee r):Y e (peel 1 (C [8,5,3,0])).1 (mkT K30 (a,b,c,d,f,g,i,j,k,l,m,())) h n ee r=c15 e (fun t h=>n (mkT K32 t) h) (a,b,c,d,f,g,i,j,k,l,m,()) h:=by kernel_rfl
noncomputable def c18(e:Cx)(J:Q30):Q28
| (a,b,c,d,f,g,i,j,k,l,_),h =>
 let m:Int:=(wr .i64 ((wr .i64 (1032+(wr .i64 (40*d))))+(wr .i64 (8*i))))
 cV (e.C nzai [a,(.int .i64 m),(.int .i64 8)] h) fun o p =>
 bI .u64 (jat o 0) p fun q s =>
 bI .i64 (jat o 1) s fun u v =>
 J (a,b,c,d,f,g,(wr .i64 (i+1)),j,q,k,l,()) v
theorem c18_eq(e a b c d f g i j k l h n ee r):Y e (peel 2 (C [8,5,3,1,1])).1 (mkT K28 (a,b,c,d,f,g,i,j,k,l,())) h n ee r=c18 e (fun t h=>n (mkT K30 t) h) (a,b,c,d,f,g,i,j,k,l,()) h:=by kernel_rfl
noncomputable def r18(e:Cx)(Jn:Q30)(J1:Q24)(J0:Q49)(Jr:QR)(t:P28)(h:AH):Res:=c18 e Jn t h
theorem r18_eq(e Jn J1 J0 Jr):∀ t h,X e (C [8,5,3,1,1]) (mkT K28 t) h (jk K30 Jn) (exK [(1,(jk K24 J1)),(0,(jk K49 J0))]) (jk KR Jr)=r18 e Jn J1 J0 Jr t h
| (a,b,c,d,f,g,i,j,k,l,_),h=>nd_chain' (X:=C [8,5,3,1,1]) (Y:=.skip) 2 (L:=K30) (S:=fun J=>c18 e J (a,b,c,d,f,g,i,j,k,l,()) h) (Q:=Jn) (by kernel_rfl) (fun n=>c18_eq e a b c d f g i j k l h n (exK [(1,(jk K24 J1)),(0,(jk K49 J0))]) (jk KR Jr)) (fun t h=>by kernel_rfl)
noncomputable def c16(e:Cx)(J:Q34):Q32
| (a,b,c,d,f,g,i,j,k,l,m,o,_),h =>
 let p:Bool:=(k != (wr .u64 (2147483648+(wr .u64 i))))
 J (a,b,c,d,f,g,i,j,l,m,p,()) h
theorem c16_eq(e a b c d f g i j k l m o h n ee r):Y e (peel 1 (C [8,5,3,1,0,0])).1 (mkT K32 (a,b,c,d,f,g,i,j,k,l,m,o,())) h n ee r=c16 e (fun t h=>n (mkT K34 t) h) (a,b,c,d,f,g,i,j,k,l,m,o,()) h:=by kernel_rfl
noncomputable def c17(e:Cx)(J:Q10):Q34
| (a,b,c,d,f,g,i,j,k,l,m,_),h =>
 bA (bld [] (List.replicate 32 (.int .u8 0))) h fun o p =>
 bS (st 32 b (.agg o) p) fun q =>
 J ((.nilslice),b,4,()) q
theorem c17_eq(e a b c d f g i j k l m h n ee r):Y e (peel 1 (C [8,5,3,1,0,1,0])).1 (mkT K34 (a,b,c,d,f,g,i,j,k,l,m,())) h n ee r=c17 e (fun t h=>n (mkT K10 t) h) (a,b,c,d,f,g,i,j,k,l,m,()) h:=by kernel_rfl
noncomputable def k16(e:Cx)(Jn:Q28)(J1:Q24)(J0:Q49)(Jr:QR):Q34
| (a,b,c,d,f,g,i,j,k,l,m,_),h =>
 bif m then c17 e (fun | (o,p,q,_),s=>Jr (o,p,(.int .i64 q),()) s) (a,b,c,d,f,g,i,j,k,l,m,()) h else Jn (a,b,c,d,f,g,i,j,k,l,()) h
theorem k16_eq(e Jn J1 J0 Jr):∀ t h,X e (C [8,5,3,1,0,1]) (mkT K34 t) h (jk K28 Jn) (exK [(1,(jk K24 J1)),(0,(jk K49 J0))]) (jk KR Jr)=k16 e Jn J1 J0 Jr t h
| (c,d,f,g,i,j,k,l,m,o,p,_),h=>nd_cond' (X:=C [8,5,3,1,0,1]) (a:=C [8,5,3,1,0,1,0]) (b:=C [8,5,3,1,0,2]) (t:=p) (x:=.tmp 64) (by kernel_rfl) (by kernel_rfl) (nd_chain' (X:=C [8,5,3,1,0,1,0]) (Y:=(C [8,5,3,1,0,1,1])) 1 (L:=K10) (S:=fun J=>c17 e J (c,d,f,g,i,j,k,l,m,o,p,()) h) (Q:=fun | (q,s,u,_),v=>Jr (q,s,(.int .i64 u),()) v) (by kernel_rfl) (fun n=>c17_eq e c d f g i j k l m o p h n (exK [(1,(jk K24 J1)),(0,(jk K49 J0))]) (jk KR Jr)) (fun | (q,s,u,_),v=>by kernel_rfl)) (by kernel_rfl)
noncomputable def k15(e:Cx)(Jn:Q30)(J1:Q24)(J0:Q49)(Jr:QR):Q32
| (a,b,c,d,f,g,i,j,k,l,m,o,_),h =>
 bif o then c16 e (k16 e (r18 e Jn J1 J0 Jr) J1 J0 Jr) (a,b,c,d,f,g,i,j,k,l,m,o,()) h else Jn (a,b,c,d,f,g,i,j,k,l,m,()) h
theorem k15_eq(e Jn J1 J0 Jr):∀ t h,X e (C [8,5,3,1]) (mkT K32 t) h (jk K30 Jn) (exK [(1,(jk K24 J1)),(0,(jk K49 J0))]) (jk KR Jr)=k15 e Jn J1 J0 Jr t h
| (c,d,f,g,i,j,k,l,m,o,p,q,_),h=>nd_cond' (X:=C [8,5,3,1]) (a:=C [8,5,3,1,0]) (b:=C [8,5,3,2]) (t:=q) (x:=.tmp 59) (by kernel_rfl) (by kernel_rfl) ((nd_norm' (X:=(C [8,5,3,1,0])) (a:=C [8,5,3,1,0,0]) (b:=C [8,5,3,1,1]) (L:=K28) (by kernel_rfl) (by kernel_rfl) (by kernel_rfl) (SB:=(r18 e Jn J1 J0 Jr)) (r18_eq e Jn J1 J0 Jr) _ _).trans (nd_chain' (X:=C [8,5,3,1,0,0]) (Y:=(C [8,5,3,1,0,1])) 1 (L:=K34) (S:=fun J=>c16 e J (c,d,f,g,i,j,k,l,m,o,p,q,()) h) (Q:=(k16 e (r18 e Jn J1 J0 Jr) J1 J0 Jr)) (by kernel_rfl) (fun n=>c16_eq e c d f g i j k l m o p q h n (exK [(1,(jk K24 J1)),(0,(jk K49 J0))]) (jk KR Jr)) (k16_eq e (r18 e Jn J1 J0 Jr) J1 J0 Jr))) (by kernel_rfl)
noncomputable def k14(e:Cx)(Jn:Q24)(J1:Q24)(J0:Q49)(Jr:QR)(t:P30)(h:AH):Res:=c15 e (k15 e (r20 e Jn J1 J0 Jr) J1 J0 Jr) t h
theorem k14_eq(e Jn J1 J0 Jr):∀ t h,X e (C [8,5,3]) (mkT K30 t) h (jk K24 Jn) (exK [(1,(jk K24 J1)),(0,(jk K49 J0))]) (jk KR Jr)=k14 e Jn J1 J0 Jr t h
| (c,d,f,g,i,j,k,l,m,o,p,_),h=>(nd_norm' (X:=(C [8,5,3])) (a:=C [8,5,3,0]) (b:=C [8,5,4]) (L:=K30) (by kernel_rfl) (by kernel_rfl) (by kernel_rfl) (SB:=(r20 e Jn J1 J0 Jr)) (r20_eq e Jn J1 J0 Jr) _ _).trans (nd_chain' (X:=C [8,5,3,0]) (Y:=(C [8,5,3,1])) 1 (L:=K32) (S:=fun J=>c15 e J (c,d,f,g,i,j,k,l,m,o,p,()) h) (Q:=(k15 e (r20 e Jn J1 J0 Jr) J1 J0 Jr)) (by kernel_rfl) (fun n=>c15_eq e c d f g i j k l m o p h n (exK [(1,(jk K24 J1)),(0,(jk K49 J0))]) (jk KR Jr)) (k15_eq e (r20 e Jn J1 J0 Jr) J1 J0 Jr))
noncomputable def r13(e:Cx)(Jn:Q24)(J0:Q49)(Jr:QR)(t:P24)(h:AH):Res:=c13 e (k14 e (r23 e Jn J0 Jr) (r23 e Jn J0 Jr) J0 Jr) t h
theorem r13_eq(e Jn J0 Jr):∀ t h,X e (C [8,5]) (mkT K24 t) h (jk K24 Jn) (exK [(0,(jk K49 J0))]) (jk KR Jr)=r13 e Jn J0 Jr t h
| (c,d,f,g,i,j,k,l,m,_),h=>(nd_norm' (X:=(C [8,5])) (a:=C [8,5,0]) (b:=C [8,6]) (L:=K24) (by kernel_rfl) (by kernel_rfl) (by kernel_rfl) (SB:=(r23 e Jn J0 Jr)) (r23_eq e Jn J0 Jr) _ _).trans (nd_block' (X:=C [8,5,0]) (id:=1) (b:=C [8,5,1]) (by kernel_rfl) (nd_chain' (X:=C [8,5,1]) (Y:=(C [8,5,3])) 2 (L:=K30) (S:=fun J=>c13 e J (c,d,f,g,i,j,k,l,m,()) h) (Q:=(k14 e (r23 e Jn J0 Jr) (r23 e Jn J0 Jr) J0 Jr)) (by kernel_rfl) (fun n=>c13_eq e c d f g i j k l m h n (exK [(1,(jk K24 (r23 e Jn J0 Jr))),(0,(jk K49 J0))]) (jk KR Jr)) (k14_eq e (r23 e Jn J0 Jr) (r23 e Jn J0 Jr) J0 Jr)))
noncomputable def k12(e:Cx)(Jn:Q24)(J0:Q49)(Jr:QR):Q26
| (a,b,c,d,f,g,i,j,k,l,_),h =>
 bif l then (r13 e Jn J0 Jr) (a,b,c,d,f,g,i,j,k,()) h else J0 (a,b,c,f,g,()) h
theorem k12_eq(e Jn J0 Jr):∀ t h,X e (C [8,4]) (mkT K26 t) h (jk K24 Jn) (exK [(0,(jk K49 J0))]) (jk KR Jr)=k12 e Jn J0 Jr t h
| (c,d,f,g,i,j,k,l,m,o,_),h=>(nd_norm' (X:=(C [8,4])) (a:=C [8,4,0]) (b:=C [8,5]) (L:=K24) (by kernel_rfl) (by kernel_rfl) (by kernel_rfl) (SB:=(r13 e Jn J0 Jr)) (r13_eq e Jn J0 Jr) _ _).trans (nd_cond' (X:=C [8,4,0]) (a:=C [8,4,0,0]) (b:=C [8,4,1]) (t:=o) (x:=.tmp 48) (by kernel_rfl) (by kernel_rfl) (by kernel_rfl) (by kernel_rfl))
noncomputable def l12(e:Cx)(Jn:Q24)(J0:Q49)(Jr:QR)(t:P24)(h:AH):Res:=c12 e (k12 e Jn J0 Jr) t h
theorem l12_eq(e Jn J0 Jr):∀ t h,X e (C [8,3]) (mkT K24 t) h (jk K24 Jn) (exK [(0,(jk K49 J0))]) (jk KR Jr)=l12 e Jn J0 Jr t h
| (a,b,c,d,f,g,i,j,k,_),h=>nd_chain' (X:=C [8,3]) (Y:=(C [8,4])) 1 (L:=K26) (S:=fun J=>c12 e J (a,b,c,d,f,g,i,j,k,()) h) (Q:=(k12 e Jn J0 Jr)) (by kernel_rfl) (fun n=>c12_eq e a b c d f g i j k h n (exK [(0,(jk K49 J0))]) (jk KR Jr)) (k12_eq e Jn J0 Jr)
noncomputable def k11(e:Cx)(Jn:Q49)(Jr:QR)(t:P24)(h:AH):Res:=jaw (P24) e.F (fun t h n=>l12 e n Jn Jr t h) t h
theorem k11_eq(e Jn Jr):∀ t h,X e (C [8,1]) (mkT K24 t) h (jk K49 Jn) (exK []) (jk KR Jr)=k11 e Jn Jr t h
| (a,c,d,f,g,i,j,k,l,_),h=>nd_block' (X:=C [8,1]) (id:=0) (b:=C [8,2]) (by kernel_rfl) ((nd_loop' (X:=C [8,2]) (b:=C [8,3]) (L:=K24) (by kernel_rfl) (by kernel_rfl) (SB:=fun n=>l12 e n Jn Jr) (fun n=>l12_eq e n Jn Jr) _ _).trans (by kernel_rfl))
noncomputable def k10(e:Cx)(Jn:QR)(Jr:QR)(t:P22)(h:AH):Res:=c11 e (k11 e (r24 e Jn Jr) Jr) t h
theorem k10_eq(e Jn Jr):∀ t h,X e (C [8]) (mkT K22 t) h (jk KR Jn) (exK []) (jk KR Jr)=k10 e Jn Jr t h
| (c,d,f,g,i,j,k,_),h=>(nd_norm' (X:=(C [8])) (a:=C [8,0]) (b:=C [9]) (L:=K49) (by kernel_rfl) (by kernel_rfl) (by kernel_rfl) (SB:=(r24 e Jn Jr)) (r24_eq e Jn Jr) _ _).trans (nd_chain' (X:=C [8,0]) (Y:=(C [8,1])) 1 (L:=K24) (S:=fun J=>c11 e J (c,d,f,g,i,j,k,()) h) (Q:=(k11 e (r24 e Jn Jr) Jr)) (by kernel_rfl) (fun n=>c11_eq e c d f g i j k h n (exK []) (jk KR Jr)) (k11_eq e (r24 e Jn Jr) Jr))
noncomputable def r9(e:Cx)(Jn:QR)(Jr:QR)(t:P12)(h:AH):Res:=c9 e (k10 e Jn Jr) t h
theorem r9_eq(e Jn Jr):∀ t h,X e (C [6]) (mkT K12 t) h (jk KR Jn) (exK []) (jk KR Jr)=r9 e Jn Jr t h
| (a,b,c,d,f,_),h=>nd_chain' (X:=C [6]) (Y:=(C [8])) 2 (L:=K22) (S:=fun J=>c9 e J (a,b,c,d,f,()) h) (Q:=(k10 e Jn Jr)) (by kernel_rfl) (fun n=>c9_eq e a b c d f h n (exK []) (jk KR Jr)) (k10_eq e Jn Jr)
noncomputable def c6(e:Cx)(J:Q16):Q12
| (a,b,c,d,f,_),h =>
 bV (slS 1 a none (some (.int .i64 f)) none) h fun g i =>
 cA (e.C nzbi [g] i) fun j k =>
 let l:=(al (List.replicate 32 (.int .u8 0)) jab k).1
 let m:=(al (List.replicate 32 (.int .u8 0)) jab k).2
 bS (st 32 l (.agg j) m) fun o =>
 bV (slA 32 1 l none none none o) o fun p q =>
 bV (slS 1 a (some (.int .i64 f)) none none) q fun s u =>
 cB (e.C nzac [p,s] u) fun v w =>
 J (a,b,c,d,f,(!v),()) w
theorem c6_eq(e a b c d f h n ee r):Y e (peel 2 (C [5,0])).1 (mkT K12 (a,b,c,d,f,())) h n ee r=c6 e (fun t h=>n (mkT K16 t) h) (a,b,c,d,f,()) h:=by kernel_rfl
noncomputable def c8(e:Cx)(J:Q10):Q16
| (a,b,c,d,f,g,_),h =>
 bA (bld [] (List.replicate 32 (.int .u8 0))) h fun i j =>
 bS (st 32 b (.agg i) j) fun k =>
 J ((.nilslice),b,6,()) k
theorem c8_eq(e a b c d f g h n ee r):Y e (peel 1 (C [5,2,0])).1 (mkT K16 (a,b,c,d,f,g,())) h n ee r=c8 e (fun t h=>n (mkT K10 t) h) (a,b,c,d,f,g,()) h:=by kernel_rfl
noncomputable def k7(e:Cx)(Jn:Q12)(Jr:QR):Q16
| (a,b,c,d,f,g,_),h =>
 bif g then c8 e (fun | (i,j,k,_),l=>Jr (i,j,(.int .i64 k),()) l) (a,b,c,d,f,g,()) h else Jn (a,b,c,d,f,()) h
theorem k7_eq(e Jn Jr):∀ t h,X e (C [5,2]) (mkT K16 t) h (jk K12 Jn) (exK []) (jk KR Jr)=k7 e Jn Jr t h
| (c,d,f,g,i,j,_),h=>nd_cond' (X:=C [5,2]) (a:=C [5,2,0]) (b:=C [5,3]) (t:=j) (x:=.tmp 41) (by kernel_rfl) (by kernel_rfl) (nd_chain' (X:=C [5,2,0]) (Y:=(C [5,2,1])) 1 (L:=K10) (S:=fun J=>c8 e J (c,d,f,g,i,j,()) h) (Q:=fun | (k,l,m,_),o=>Jr (k,l,(.int .i64 m),()) o) (by kernel_rfl) (fun n=>c8_eq e c d f g i j h n (exK []) (jk KR Jr)) (fun | (k,l,m,_),o=>by kernel_rfl)) (by kernel_rfl)
noncomputable def k5(e:Cx)(Jn:QR)(Jr:QR)(t:P12)(h:AH):Res:=c6 e (k7 e (r9 e Jn Jr) Jr) t h
theorem k5_eq(e Jn Jr):∀ t h,X e (C [5]) (mkT K12 t) h (jk KR Jn) (exK []) (jk KR Jr)=k5 e Jn Jr t h
| (c,d,f,g,i,_),h=>(nd_norm' (X:=(C [5])) (a:=C [5,0]) (b:=C [6]) (L:=K12) (by kernel_rfl) (by kernel_rfl) (by kernel_rfl) (SB:=(r9 e Jn Jr)) (r9_eq e Jn Jr) _ _).trans (nd_chain' (X:=C [5,0]) (Y:=(C [5,2])) 2 (L:=K16) (S:=fun J=>c6 e J (c,d,f,g,i,()) h) (Q:=(k7 e (r9 e Jn Jr) Jr)) (by kernel_rfl) (fun n=>c6_eq e c d f g i h n (exK []) (jk KR Jr)) (k7_eq e (r9 e Jn Jr) Jr))
noncomputable def r5(e:Cx)(Jn:QR)(Jr:QR)(t:P11)(h:AH):Res:=c5 e (k5 e Jn Jr) t h
theorem r5_eq(e Jn Jr):∀ t h,X e (C [4]) (mkT K11 t) h (jk KR Jn) (exK []) (jk KR Jr)=r5 e Jn Jr t h
| (a,b,c,d,_),h=>nd_chain' (X:=C [4]) (Y:=(C [5])) 1 (L:=K12) (S:=fun J=>c5 e J (a,b,c,d,()) h) (Q:=(k5 e Jn Jr)) (by kernel_rfl) (fun n=>c5_eq e a b c d h n (exK []) (jk KR Jr)) (k5_eq e Jn Jr)
noncomputable def c3(e:Cx)(J:Q8):Q6
| (a,b,c,d,f,_),h =>
 J (a,b,c,d,f,(f != 0),()) h
theorem c3_eq(e a b c d f h n ee r):Y e (peel 1 (C [3,0])).1 (mkT K6 (a,b,c,d,f,())) h n ee r=c3 e (fun t h=>n (mkT K8 t) h) (a,b,c,d,f,()) h:=by kernel_rfl
noncomputable def c4(e:Cx)(J:Q10):Q8
| (a,b,c,d,f,g,_),h =>
 bA (bld [] (List.replicate 32 (.int .u8 0))) h fun i j =>
 bS (st 32 b (.agg i) j) fun k =>
 J ((.nilslice),b,f,()) k
theorem c4_eq(e a b c d f g h n ee r):Y e (peel 1 (C [3,1,0])).1 (mkT K8 (a,b,c,d,f,g,())) h n ee r=c4 e (fun t h=>n (mkT K10 t) h) (a,b,c,d,f,g,()) h:=by kernel_rfl
noncomputable def k3(e:Cx)(Jn:Q11)(Jr:QR):Q8
| (a,b,c,d,f,g,_),h =>
 bif g then c4 e (fun | (i,j,k,_),l=>Jr (i,j,(.int .i64 k),()) l) (a,b,c,d,f,g,()) h else Jn (a,b,c,d,()) h
theorem k3_eq(e Jn Jr):∀ t h,X e (C [3,1]) (mkT K8 t) h (jk K11 Jn) (exK []) (jk KR Jr)=k3 e Jn Jr t h
| (c,d,f,g,i,j,_),h=>nd_cond' (X:=C [3,1]) (a:=C [3,1,0]) (b:=C [3,2]) (t:=j) (x:=.tmp 26) (by kernel_rfl) (by kernel_rfl) (nd_chain' (X:=C [3,1,0]) (Y:=(C [3,1,1])) 1 (L:=K10) (S:=fun J=>c4 e J (c,d,f,g,i,j,()) h) (Q:=fun | (k,l,m,_),o=>Jr (k,l,(.int .i64 m),()) o) (by kernel_rfl) (fun n=>c4_eq e c d f g i j h n (exK []) (jk KR Jr)) (fun | (k,l,m,_),o=>by kernel_rfl)) (by kernel_rfl)
noncomputable def k2(e:Cx)(Jn:QR)(Jr:QR)(t:P6)(h:AH):Res:=c3 e (k3 e (r5 e Jn Jr) Jr) t h
theorem k2_eq(e Jn Jr):∀ t h,X e (C [3]) (mkT K6 t) h (jk KR Jn) (exK []) (jk KR Jr)=k2 e Jn Jr t h
| (c,d,f,g,i,_),h=>(nd_norm' (X:=(C [3])) (a:=C [3,0]) (b:=C [4]) (L:=K11) (by kernel_rfl) (by kernel_rfl) (by kernel_rfl) (SB:=(r5 e Jn Jr)) (r5_eq e Jn Jr) _ _).trans (nd_chain' (X:=C [3,0]) (Y:=(C [3,1])) 1 (L:=K8) (S:=fun J=>c3 e J (c,d,f,g,i,()) h) (Q:=(k3 e (r5 e Jn Jr) Jr)) (by kernel_rfl) (fun n=>c3_eq e c d f g i h n (exK []) (jk KR Jr)) (k3_eq e (r5 e Jn Jr) Jr))
noncomputable def fn(e:Cx)(a:V)(h:AH):Res :=
 c0 e (k2 e ret ret) (a,()) h
theorem run(e:Cx)(a:V)(h:AH):execFn (cfgS e) (jbi lv) e.F nzam [a] h=fn e a h:=by
 refine (fn_eq (c:=cfgS e) (lv:=lv) (PP.funcs.getD 13 default) B (by kernel_rfl) (by kernel_rfl) (Nat.le_of_ble_eq_true (by kernel_rfl))).trans ?_
 rw [ret_eq]
 exact nd_chain' (X:=C [0]) (Y:=(C [3])) 3 (L:=K6) (S:=fun J=>c0 e J (a,()) h) (Q:=(k2 e ret ret)) (by kernel_rfl) (fun n=>c0_eq e a h n (exK []) (jk KR ret)) (k2_eq e ret ret)
end zam
namespace zax
noncomputable def B:Code:=cBody (PP.funcs.getD 14 default)
abbrev K2:Slots:=[(0,.any)]
abbrev P2:=V×Unit
abbrev Q2:=P2→AH→Res
abbrev K4:Slots:=[(0,.any),(3,.any)]
abbrev P4:=V×V×Unit
abbrev Q4:=P4→AH→Res
abbrev K6:Slots:=[(2,.any)]
abbrev P6:=V×Unit
abbrev Q6:=P6→AH→Res
noncomputable def lv:=lvT [(2,K2),(4,K4),(6,K6)]
abbrev KR:Slots:=[(2,.any)]
abbrev PR:=V×Unit
abbrev QR:=PR→AH→Res
noncomputable abbrev X (e:Cx):=exL (cfgS e) lv 7 e.F
noncomputable abbrev Y (e:Cx):=runL (cfgS e) lv 7 e.F
noncomputable abbrev C (p:List Nat):=cP p B
noncomputable def ret:Q6
| (a,_),h=>finW [some a] h
theorem ret_eq(e:Cx):fin (cfgS e) (jbi lv) (PP.funcs.getD 14 default)=jk K6 ret:=by kernel_rfl
noncomputable def c0(e:Cx)(J:Q6):V×Unit→AH→Res
| (a,_),h =>
 cV (app 1 1 jai (.nilslice) a h) fun b c =>
 J (b,()) c
theorem c0_eq(e a h n ee r):Y e (peel 3 (C [0])).1 (iniT [a] 0 .leaf) h n ee r=c0 e (fun t h=>n (mkT K6 t) h) (a,()) h:=by kernel_rfl
noncomputable def fn(e:Cx)(a:V)(h:AH):Res :=
 c0 e ret (a,()) h
theorem run(e:Cx)(a:V)(h:AH):execFn (cfgS e) (jbi lv) e.F nzax [a] h=fn e a h:=by
 refine (fn_eq (c:=cfgS e) (lv:=lv) (PP.funcs.getD 14 default) B (by kernel_rfl) (by kernel_rfl) (Nat.le_of_ble_eq_true (by kernel_rfl))).trans ?_
 rw [ret_eq]
 exact nd_chain' (X:=C [0]) (Y:=(C [3])) 3 (L:=K6) (S:=fun J=>c0 e J (a,()) h) (Q:=ret) (by kernel_rfl) (fun n=>c0_eq e a h n (exK []) (jk K6 ret)) (fun t h=>by kernel_rfl)
end zax
namespace zbc
noncomputable def B:Code:=cBody (PP.funcs.getD 15 default)
abbrev K2:Slots:=[(0,.any),(3,.any)]
abbrev P2:=V×V×Unit
abbrev Q2:=P2→AH→Res
abbrev K4:Slots:=[(0,.any),(3,.any),(5,.int .i64),(7,.int .i64)]
abbrev P4:=V×V×Int×Int×Unit
abbrev Q4:=P4→AH→Res
abbrev K6:Slots:=[(0,.any),(3,.any),(5,.int .i64),(7,.int .i64),(23,.bool)]
abbrev P6:=V×V×Int×Int×Bool×Unit
abbrev Q6:=P6→AH→Res
abbrev K8:Slots:=[(2,.any),(3,.any),(4,.int .i64)]
abbrev P8:=V×V×Int×Unit
abbrev Q8:=P8→AH→Res
abbrev K9:Slots:=[(0,.any),(3,.any),(5,.int .i64)]
abbrev P9:=V×V×Int×Unit
abbrev Q9:=P9→AH→Res
abbrev K10:Slots:=[(0,.any),(3,.any),(5,.int .i64),(8,.any)]
abbrev P10:=V×V×Int×V×Unit
abbrev Q10:=P10→AH→Res
abbrev K12:Slots:=[(0,.any),(3,.any),(5,.int .i64),(39,.bool)]
abbrev P12:=V×V×Int×Bool×Unit
abbrev Q12:=P12→AH→Res
abbrev K16:Slots:=[(0,.any),(3,.any),(5,.int .i64),(9,.any)]
abbrev P16:=V×V×Int×V×Unit
abbrev Q16:=P16→AH→Res
abbrev K18:Slots:=[(0,.any),(3,.any),(5,.int .i64),(9,.any),(10,.any)]
abbrev P18:=V×V×Int×V×V×Unit
abbrev Q18:=P18→AH→Res
abbrev K20:Slots:=[(0,.any),(3,.any),(5,.int .i64),(9,.any),(10,.any),(11,.int .i64)]
abbrev P20:=V×V×Int×V×V×Int×Unit
abbrev Q20:=P20→AH→Res
abbrev K22:Slots:=[(0,.any),(3,.any),(5,.int .i64),(9,.any),(10,.any),(11,.int .i64),(12,.int .i64)]
abbrev P22:=V×V×Int×V×V×Int×Int×Unit
abbrev Q22:=P22→AH→Res
abbrev K24:Slots:=[(0,.any),(3,.any),(5,.int .i64),(9,.any),(10,.any),(11,.int .i64),(12,.int .i64),(45,.bool)]
abbrev P24:=V×V×Int×V×V×Int×Int×Bool×Unit
abbrev Q24:=P24→AH→Res
abbrev K28:Slots:=[(0,.any),(3,.any),(5,.int .i64),(9,.any),(10,.any),(11,.int .i64),(12,.int .i64),(13,.any)]
abbrev P28:=V×V×Int×V×V×Int×Int×V×Unit
abbrev Q28:=P28→AH→Res
abbrev K30:Slots:=[(0,.any),(3,.any),(5,.int .i64),(9,.any),(10,.any),(11,.int .i64),(12,.int .i64),(13,.any),(73,.bool)]
abbrev P30:=V×V×Int×V×V×Int×Int×V×Bool×Unit
abbrev Q30:=P30→AH→Res
abbrev K40:Slots:=[(0,.any),(3,.any),(5,.int .i64),(9,.any),(10,.any),(14,.any)]
abbrev P40:=V×V×Int×V×V×V×Unit
abbrev Q40:=P40→AH→Res
abbrev K42:Slots:=[(0,.any),(3,.any),(5,.int .i64),(9,.any),(10,.any),(14,.any),(15,.int .i64)]
abbrev P42:=V×V×Int×V×V×V×Int×Unit
abbrev Q42:=P42→AH→Res
abbrev K44:Slots:=[(0,.any),(3,.any),(5,.int .i64),(9,.any),(10,.any),(14,.any),(15,.int .i64),(99,.bool)]
abbrev P44:=V×V×Int×V×V×V×Int×Bool×Unit
abbrev Q44:=P44→AH→Res
abbrev K48:Slots:=[(0,.any),(3,.any),(5,.int .i64),(9,.any),(10,.any),(14,.any),(15,.int .i64),(114,.bool)]
abbrev P48:=V×V×Int×V×V×V×Int×Bool×Unit
abbrev Q48:=P48→AH→Res
abbrev K51:Slots:=[(0,.any),(3,.any),(9,.any),(10,.any),(14,.any)]
abbrev P51:=V×V×V×V×V×Unit
abbrev Q51:=P51→AH→Res
abbrev K52:Slots:=[(3,.any),(9,.any),(14,.any),(122,.bool)]
abbrev P52:=V×V×V×Bool×Unit
abbrev Q52:=P52→AH→Res
abbrev K55:Slots:=[(3,.any),(9,.any),(14,.any)]
abbrev P55:=V×V×V×Unit
abbrev Q55:=P55→AH→Res
noncomputable def lv:=lvT [(2,K2),(4,K4),(6,K6),(8,K8),(9,K9),(10,K10),(12,K12),(14,K8),(15,K9),(16,K16),(18,K18),(20,K20),(22,K22),(24,K24),(27,K22),(28,K28),(30,K30),(32,K28),(34,K28),(36,K28),(37,K28),(38,K22),(25,K22),(26,K22),(23,K22),(39,K18),(40,K40),(42,K42),(44,K44),(47,K42),(48,K48),(50,K8),(45,K42),(46,K42),(43,K42),(51,K51),(52,K52),(54,K8),(55,K55),(56,K8)]
abbrev KR:Slots:=[(2,.any),(3,.any),(4,.any)]
abbrev PR:=V×V×V×Unit
abbrev QR:=PR→AH→Res
noncomputable abbrev X (e:Cx):=exL (cfgS e) lv 126 e.F
noncomputable abbrev Y (e:Cx):=runL (cfgS e) lv 126 e.F
noncomputable abbrev C (p:List Nat):=cP p B
noncomputable def ret:QR
| (a,b,c,_),h=>finW [some a,ldA 32 b h,some c] h
theorem ret_eq(e:Cx):fin (cfgS e) (jbi lv) (PP.funcs.getD 15 default)=jk KR ret:=by kernel_rfl
noncomputable def c0(e:Cx)(J:Q4):V×Unit→AH→Res
| (a,_),h =>
 let b:=(al (List.replicate 32 (.int .u8 0)) jab h).1
 let c:=(al (List.replicate 32 (.int .u8 0)) jab h).2
 cV (e.C nzbf [a] c) fun d f =>
 bI .i64 (jat d 0) f fun g i =>
 bI .i64 (jat d 1) i fun j k =>
 bI .i64 (jat d 2) k fun l m =>
 J (a,b,g,l,()) m
theorem c0_eq(e a h n ee r):Y e (peel 2 (C [0])).1 (iniT [a] 0 .leaf) h n ee r=c0 e (fun t h=>n (mkT K4 t) h) (a,()) h:=by kernel_rfl
noncomputable def c4(e:Cx)(J:Q10):Q9
| (a,b,c,_),h =>
 bI .i64 (lenS a) h fun d f =>
 bV (slS 1 a none (some (.int .i64 (wr .i64 (d-32)))) none) f fun g i =>
 cA (e.C nzaw [g] i) fun j k =>
 let l:=(al (List.replicate 32 (.int .u8 0)) jab k).1
 let m:=(al (List.replicate 32 (.int .u8 0)) jab k).2
 bS (st 32 l (.agg j) m) fun o =>
 J (a,b,c,l,()) o
theorem c4_eq(e a b c h n ee r):Y e (peel 1 (C [3])).1 (mkT K9 (a,b,c,())) h n ee r=c4 e (fun t h=>n (mkT K10 t) h) (a,b,c,()) h:=by kernel_rfl
noncomputable def c7(e:Cx)(J:Q20):Q9
| (a,b,c,_),h =>
 cV (mkS 1 1 [.bool false] T_bool c c h) fun d f =>
 J (a,b,c,(.nilslice),d,0,()) f
theorem c7_eq(e a b c h n ee r):Y e (peel 3 (C [5])).1 (mkT K9 (a,b,c,())) h n ee r=c7 e (fun t h=>n (mkT K20 t) h) (a,b,c,()) h:=by kernel_rfl
noncomputable def c19(e:Cx)(J:Q40):Q18
| (a,b,c,d,f,_),h =>
 bI .i64 (lenS a) h fun g i =>
 cA (e.C nzbe [a,(.int .i64 (wr .i64 (g-64)))] i) fun j k =>
 let l:=(al (List.replicate 32 (.int .u8 0)) jab k).1
 let m:=(al (List.replicate 32 (.int .u8 0)) jab k).2
 bS (st 32 l (.agg j) m) fun o =>
 J (a,b,c,d,f,l,()) o
theorem c19_eq(e a b c d f h n ee r):Y e (peel 1 (C [9])).1 (mkT K18 (a,b,c,d,f,())) h n ee r=c19 e (fun t h=>n (mkT K40 t) h) (a,b,c,d,f,()) h:=by kernel_rfl
noncomputable def c27(e:Cx)(J:Q8):Q55
| (a,b,c,_),h =>
 bA (ldA 32 c h) h fun d f =>
 bS (st 32 a (.agg d) f) fun g =>
 J (b,a,0,()) g
theorem c27_eq(e a b c h n ee r):Y e (peel 1 (C [12])).1 (mkT K55 (a,b,c,())) h n ee r=c27 e (fun t h=>n (mkT K8 t) h) (a,b,c,()) h:=by kernel_rfl
noncomputable def r27(e:Cx)(Jn:QR)(Jr:QR)(t:P55)(h:AH):Res:=c27 e (fun | (a,b,c,_),d=>Jr (a,b,(.int .i64 c),()) d) t h
theorem r27_eq(e Jn Jr):∀ t h,X e (C [12]) (mkT K55 t) h (jk KR Jn) (exK []) (jk KR Jr)=r27 e Jn Jr t h
| (a,b,c,_),h=>nd_chain' (X:=C [12]) (Y:=(C [13])) 1 (L:=K8) (S:=fun J=>c27 e J (a,b,c,()) h) (Q:=fun | (d,f,g,_),i=>Jr (d,f,(.int .i64 g),()) i) (by kernel_rfl) (fun n=>c27_eq e a b c h n (exK []) (jk KR Jr)) (fun | (d,f,g,_),i=>by kernel_rfl)
noncomputable def c25(e:Cx)(J:Q52):Q51
| (a,b,c,d,f,_),h =>
 bA (ldA 32 f h) h fun g i =>
 cV (e.C nzba [c,d,(.agg g)] i) fun j k =>
 cB (e.C nzav [j,a] k) fun l m =>
 J (b,c,f,(!l),()) m
theorem c25_eq(e a b c d f h n ee r):Y e (peel 1 (C [11,0])).1 (mkT K51 (a,b,c,d,f,())) h n ee r=c25 e (fun t h=>n (mkT K52 t) h) (a,b,c,d,f,()) h:=by kernel_rfl
noncomputable def c26(e:Cx)(J:Q8):Q52
| (a,b,c,d,_),h =>
 bA (bld [] (List.replicate 32 (.int .u8 0))) h fun f g =>
 bS (st 32 a (.agg f) g) fun i =>
 J ((.nilslice),a,4,()) i
theorem c26_eq(e a b c d h n ee r):Y e (peel 1 (C [11,1,0])).1 (mkT K52 (a,b,c,d,())) h n ee r=c26 e (fun t h=>n (mkT K8 t) h) (a,b,c,d,()) h:=by kernel_rfl
noncomputable def k25(e:Cx)(Jn:Q55)(Jr:QR):Q52
| (a,b,c,d,_),h =>
 bif d then c26 e (fun | (f,g,i,_),j=>Jr (f,g,(.int .i64 i),()) j) (a,b,c,d,()) h else Jn (a,b,c,()) h
theorem k25_eq(e Jn Jr):∀ t h,X e (C [11,1]) (mkT K52 t) h (jk K55 Jn) (exK []) (jk KR Jr)=k25 e Jn Jr t h
| (c,d,f,g,_),h=>nd_cond' (X:=C [11,1]) (a:=C [11,1,0]) (b:=C [11,2]) (t:=g) (x:=.tmp 122) (by kernel_rfl) (by kernel_rfl) (nd_chain' (X:=C [11,1,0]) (Y:=(C [11,1,1])) 1 (L:=K8) (S:=fun J=>c26 e J (c,d,f,g,()) h) (Q:=fun | (i,j,k,_),l=>Jr (i,j,(.int .i64 k),()) l) (by kernel_rfl) (fun n=>c26_eq e c d f g h n (exK []) (jk KR Jr)) (fun | (i,j,k,_),l=>by kernel_rfl)) (by kernel_rfl)
noncomputable def r25(e:Cx)(Jn:QR)(Jr:QR)(t:P51)(h:AH):Res:=c25 e (k25 e (r27 e Jn Jr) Jr) t h
theorem r25_eq(e Jn Jr):∀ t h,X e (C [11]) (mkT K51 t) h (jk KR Jn) (exK []) (jk KR Jr)=r25 e Jn Jr t h
| (c,d,f,g,i,_),h=>(nd_norm' (X:=(C [11])) (a:=C [11,0]) (b:=C [12]) (L:=K55) (by kernel_rfl) (by kernel_rfl) (by kernel_rfl) (SB:=(r27 e Jn Jr)) (r27_eq e Jn Jr) _ _).trans (nd_chain' (X:=C [11,0]) (Y:=(C [11,1])) 1 (L:=K52) (S:=fun J=>c25 e J (c,d,f,g,i,()) h) (Q:=(k25 e (r27 e Jn Jr) Jr)) (by kernel_rfl) (fun n=>c25_eq e c d f g i h n (exK []) (jk KR Jr)) (k25_eq e (r27 e Jn Jr) Jr))
noncomputable def c20(e:Cx)(J:Q42):Q40
| (a,b,c,d,f,g,_),h =>
 J (a,b,c,d,f,g,1,()) h
theorem c20_eq(e a b c d f g h n ee r):Y e (peel 1 (C [10,0])).1 (mkT K40 (a,b,c,d,f,g,())) h n ee r=c20 e (fun t h=>n (mkT K42 t) h) (a,b,c,d,f,g,()) h:=by kernel_rfl
noncomputable def c22(e:Cx)(J:Q42):Q42
| (a,b,c,d,f,g,i,_),h =>
 J (a,b,c,d,f,g,(wr .i64 (i+1)),()) h
theorem c22_eq(e a b c d f g i h n ee r):Y e (peel 1 (C [10,5])).1 (mkT K42 (a,b,c,d,f,g,i,())) h n ee r=c22 e (fun t h=>n (mkT K42 t) h) (a,b,c,d,f,g,i,()) h:=by kernel_rfl
noncomputable def r22(e:Cx)(Jn:Q42)(J2:Q51)(Jr:QR)(t:P42)(h:AH):Res:=c22 e Jn t h
theorem r22_eq(e Jn J2 Jr):∀ t h,X e (C [10,5]) (mkT K42 t) h (jk K42 Jn) (exK [(2,(jk K51 J2))]) (jk KR Jr)=r22 e Jn J2 Jr t h
| (a,b,c,d,f,g,i,_),h=>nd_chain' (X:=C [10,5]) (Y:=.skip) 1 (L:=K42) (S:=fun J=>c22 e J (a,b,c,d,f,g,i,()) h) (Q:=Jn) (by kernel_rfl) (fun n=>c22_eq e a b c d f g i h n (exK [(2,(jk K51 J2))]) (jk KR Jr)) (fun t h=>by kernel_rfl)
noncomputable def c23(e:Cx)(J:Q48):Q42
| (a,b,c,d,f,g,i,_),h =>
 bV (ixS 34 d (wr .i64 (i-1))) h fun j k =>
 bV (fA 0 j) k fun l m =>
 bA (ldA 32 l m) m fun o p =>
 bV (ixS 34 d i) p fun q s =>
 bV (fA 0 q) s fun u v =>
 bA (ldA 32 u v) v fun w y =>
 cI .i64 (e.C nzas [(.agg o),(.agg w)] y) fun z A =>
 J (a,b,c,d,f,g,i,(decide (z≥0)),()) A
theorem c23_eq(e a b c d f g i h n ee r):Y e (peel 1 (C [10,4,1])).1 (mkT K42 (a,b,c,d,f,g,i,())) h n ee r=c23 e (fun t h=>n (mkT K48 t) h) (a,b,c,d,f,g,i,()) h:=by kernel_rfl
noncomputable def c24(e:Cx)(J:Q8):Q48
| (a,b,c,d,f,g,i,j,_),h =>
 bA (bld [] (List.replicate 32 (.int .u8 0))) h fun k l =>
 bS (st 32 b (.agg k) l) fun m =>
 J ((.nilslice),b,4,()) m
theorem c24_eq(e a b c d f g i j h n ee r):Y e (peel 1 (C [10,4,2,0])).1 (mkT K48 (a,b,c,d,f,g,i,j,())) h n ee r=c24 e (fun t h=>n (mkT K8 t) h) (a,b,c,d,f,g,i,j,()) h:=by kernel_rfl
noncomputable def k23(e:Cx)(Jn:Q42)(J3:Q42)(J2:Q51)(Jr:QR):Q48
| (a,b,c,d,f,g,i,j,_),h =>
 bif j then c24 e (fun | (k,l,m,_),o=>Jr (k,l,(.int .i64 m),()) o) (a,b,c,d,f,g,i,j,()) h else Jn (a,b,c,d,f,g,i,()) h
theorem k23_eq(e Jn J3 J2 Jr):∀ t h,X e (C [10,4,2]) (mkT K48 t) h (jk K42 Jn) (exK [(3,(jk K42 J3)),(2,(jk K51 J2))]) (jk KR Jr)=k23 e Jn J3 J2 Jr t h
| (c,d,f,g,i,j,k,l,_),h=>nd_cond' (X:=C [10,4,2]) (a:=C [10,4,2,0]) (b:=C [10,4,3]) (t:=l) (x:=.tmp 114) (by kernel_rfl) (by kernel_rfl) (nd_chain' (X:=C [10,4,2,0]) (Y:=(C [10,4,2,1])) 1 (L:=K8) (S:=fun J=>c24 e J (c,d,f,g,i,j,k,l,()) h) (Q:=fun | (m,o,p,_),q=>Jr (m,o,(.int .i64 p),()) q) (by kernel_rfl) (fun n=>c24_eq e c d f g i j k l h n (exK [(3,(jk K42 J3)),(2,(jk K51 J2))]) (jk KR Jr)) (fun | (m,o,p,_),q=>by kernel_rfl)) (by kernel_rfl)
noncomputable def r23(e:Cx)(Jn:Q42)(J2:Q51)(Jr:QR)(t:P42)(h:AH):Res:=c23 e (k23 e (r22 e Jn J2 Jr) (r22 e Jn J2 Jr) J2 Jr) t h
theorem r23_eq(e Jn J2 Jr):∀ t h,X e (C [10,4]) (mkT K42 t) h (jk K42 Jn) (exK [(2,(jk K51 J2))]) (jk KR Jr)=r23 e Jn J2 Jr t h
| (c,d,f,g,i,j,k,_),h=>(nd_norm' (X:=(C [10,4])) (a:=C [10,4,0]) (b:=C [10,5]) (L:=K42) (by kernel_rfl) (by kernel_rfl) (by kernel_rfl) (SB:=(r22 e Jn J2 Jr)) (r22_eq e Jn J2 Jr) _ _).trans (nd_block' (X:=C [10,4,0]) (id:=3) (b:=C [10,4,1]) (by kernel_rfl) (nd_chain' (X:=C [10,4,1]) (Y:=(C [10,4,2])) 1 (L:=K48) (S:=fun J=>c23 e J (c,d,f,g,i,j,k,()) h) (Q:=(k23 e (r22 e Jn J2 Jr) (r22 e Jn J2 Jr) J2 Jr)) (by kernel_rfl) (fun n=>c23_eq e c d f g i j k h n (exK [(3,(jk K42 (r22 e Jn J2 Jr))),(2,(jk K51 J2))]) (jk KR Jr)) (k23_eq e (r22 e Jn J2 Jr) (r22 e Jn J2 Jr) J2 Jr)))
noncomputable def c21(e:Cx)(J:Q44):Q42
| (a,b,c,d,f,g,i,_),h =>
 J (a,b,c,d,f,g,i,(decide (i<c)),()) h
theorem c21_eq(e a b c d f g i h n ee r):Y e (peel 1 (C [10,3,0])).1 (mkT K42 (a,b,c,d,f,g,i,())) h n ee r=c21 e (fun t h=>n (mkT K44 t) h) (a,b,c,d,f,g,i,()) h:=by kernel_rfl
noncomputable def k21(e:Cx)(Jn:Q42)(J2:Q51)(Jr:QR):Q44
| (a,b,c,d,f,g,i,j,_),h =>
 bif j then Jn (a,b,c,d,f,g,i,()) h else J2 (a,b,d,f,g,()) h
theorem k21_eq(e Jn J2 Jr):∀ t h,X e (C [10,3,1]) (mkT K44 t) h (jk K42 Jn) (exK [(2,(jk K51 J2))]) (jk KR Jr)=k21 e Jn J2 Jr t h
| (c,d,f,g,i,j,k,l,_),h=>nd_cond' (X:=C [10,3,1]) (a:=C [10,3,1,0]) (b:=C [10,3,2]) (t:=l) (x:=.tmp 99) (by kernel_rfl) (by kernel_rfl) (by kernel_rfl) (by kernel_rfl)
noncomputable def l21(e:Cx)(Jn:Q42)(J2:Q51)(Jr:QR)(t:P42)(h:AH):Res:=c21 e (k21 e (r23 e Jn J2 Jr) J2 Jr) t h
theorem l21_eq(e Jn J2 Jr):∀ t h,X e (C [10,3]) (mkT K42 t) h (jk K42 Jn) (exK [(2,(jk K51 J2))]) (jk KR Jr)=l21 e Jn J2 Jr t h
| (c,d,f,g,i,j,k,_),h=>(nd_norm' (X:=(C [10,3])) (a:=C [10,3,0]) (b:=C [10,4]) (L:=K42) (by kernel_rfl) (by kernel_rfl) (by kernel_rfl) (SB:=(r23 e Jn J2 Jr)) (r23_eq e Jn J2 Jr) _ _).trans (nd_chain' (X:=C [10,3,0]) (Y:=(C [10,3,1])) 1 (L:=K44) (S:=fun J=>c21 e J (c,d,f,g,i,j,k,()) h) (Q:=(k21 e (r23 e Jn J2 Jr) J2 Jr)) (by kernel_rfl) (fun n=>c21_eq e c d f g i j k h n (exK [(2,(jk K51 J2))]) (jk KR Jr)) (k21_eq e (r23 e Jn J2 Jr) J2 Jr))
noncomputable def k20(e:Cx)(Jn:Q51)(Jr:QR)(t:P42)(h:AH):Res:=jaw (P42) e.F (fun t h n=>l21 e n Jn Jr t h) t h
theorem k20_eq(e Jn Jr):∀ t h,X e (C [10,1]) (mkT K42 t) h (jk K51 Jn) (exK []) (jk KR Jr)=k20 e Jn Jr t h
| (a,c,d,f,g,i,j,_),h=>nd_block' (X:=C [10,1]) (id:=2) (b:=C [10,2]) (by kernel_rfl) ((nd_loop' (X:=C [10,2]) (b:=C [10,3]) (L:=K42) (by kernel_rfl) (by kernel_rfl) (SB:=fun n=>l21 e n Jn Jr) (fun n=>l21_eq e n Jn Jr) _ _).trans (by kernel_rfl))
noncomputable def k19(e:Cx)(Jn:QR)(Jr:QR)(t:P40)(h:AH):Res:=c20 e (k20 e (r25 e Jn Jr) Jr) t h
theorem k19_eq(e Jn Jr):∀ t h,X e (C [10]) (mkT K40 t) h (jk KR Jn) (exK []) (jk KR Jr)=k19 e Jn Jr t h
| (c,d,f,g,i,j,_),h=>(nd_norm' (X:=(C [10])) (a:=C [10,0]) (b:=C [11]) (L:=K51) (by kernel_rfl) (by kernel_rfl) (by kernel_rfl) (SB:=(r25 e Jn Jr)) (r25_eq e Jn Jr) _ _).trans (nd_chain' (X:=C [10,0]) (Y:=(C [10,1])) 1 (L:=K42) (S:=fun J=>c20 e J (c,d,f,g,i,j,()) h) (Q:=(k20 e (r25 e Jn Jr) Jr)) (by kernel_rfl) (fun n=>c20_eq e c d f g i j h n (exK []) (jk KR Jr)) (k20_eq e (r25 e Jn Jr) Jr))
noncomputable def r19(e:Cx)(Jn:QR)(Jr:QR)(t:P18)(h:AH):Res:=c19 e (k19 e Jn Jr) t h
theorem r19_eq(e Jn Jr):∀ t h,X e (C [9]) (mkT K18 t) h (jk KR Jn) (exK []) (jk KR Jr)=r19 e Jn Jr t h
| (a,b,c,d,f,_),h=>nd_chain' (X:=C [9]) (Y:=(C [10])) 1 (L:=K40) (S:=fun J=>c19 e J (a,b,c,d,f,()) h) (Q:=(k19 e Jn Jr)) (by kernel_rfl) (fun n=>c19_eq e a b c d f h n (exK []) (jk KR Jr)) (k19_eq e Jn Jr)
noncomputable def c10(e:Cx)(J:Q22):Q20
| (a,b,c,d,f,g,_),h =>
 J (a,b,c,d,f,g,0,()) h
theorem c10_eq(e a b c d f g h n ee r):Y e (peel 1 (C [8,0])).1 (mkT K20 (a,b,c,d,f,g,())) h n ee r=c10 e (fun t h=>n (mkT K22 t) h) (a,b,c,d,f,g,()) h:=by kernel_rfl
noncomputable def c12(e:Cx)(J:Q22):Q22
| (a,b,c,d,f,g,i,_),h =>
 J (a,b,c,d,f,g,(wr .i64 (i+1)),()) h
theorem c12_eq(e a b c d f g i h n ee r):Y e (peel 1 (C [8,5])).1 (mkT K22 (a,b,c,d,f,g,i,())) h n ee r=c12 e (fun t h=>n (mkT K22 t) h) (a,b,c,d,f,g,i,()) h:=by kernel_rfl
noncomputable def r12(e:Cx)(Jn:Q22)(J0:Q18)(Jr:QR)(t:P22)(h:AH):Res:=c12 e Jn t h
theorem r12_eq(e Jn J0 Jr):∀ t h,X e (C [8,5]) (mkT K22 t) h (jk K22 Jn) (exK [(0,(jk K18 J0))]) (jk KR Jr)=r12 e Jn J0 Jr t h
| (a,b,c,d,f,g,i,_),h=>nd_chain' (X:=C [8,5]) (Y:=.skip) 1 (L:=K22) (S:=fun J=>c12 e J (a,b,c,d,f,g,i,()) h) (Q:=Jn) (by kernel_rfl) (fun n=>c12_eq e a b c d f g i h n (exK [(0,(jk K18 J0))]) (jk KR Jr)) (fun t h=>by kernel_rfl)
noncomputable def c13(e:Cx)(J:Q28):Q22
| (a,b,c,d,f,g,i,_),h =>
 cA (e.C nzbe [a,(.int .i64 (wr .i64 (1032+(wr .i64 (32*i)))))] h) fun j k =>
 let l:Int:=(wr .i64 ((wr .i64 (1032+(wr .i64 (32*c))))+(wr .i64 (4*i))))
 cI .u64 (e.C nzay [a,(.int .i64 l),(.int .i64 4)] k) fun m o =>
 let p:Int:=(wr .i64 ((wr .i64 (1032+(wr .i64 (36*c))))+(wr .i64 (4*i))))
 cI .u64 (e.C nzay [a,(.int .i64 p),(.int .i64 4)] o) fun q s =>
 bA (bld [(0,32,(.agg j)),(32,1,(.int .u32 (wr .u32 m))),(33,1,(.int .u64 q))] (List.replicate 32 (.int .u8 0)++[.int .u32 0]++[.int .u64 0])) s fun u v =>
 let w:=(al (List.replicate 32 (.int .u8 0)++[.int .u32 0]++[.int .u64 0]) jac v).1
 let y:=(al (List.replicate 32 (.int .u8 0)++[.int .u32 0]++[.int .u64 0]) jac v).2
 bS (st 34 w (.agg u) y) fun z =>
 J (a,b,c,d,f,g,i,w,()) z
theorem c13_eq(e a b c d f g i h n ee r):Y e (peel 1 (C [8,4,1])).1 (mkT K22 (a,b,c,d,f,g,i,())) h n ee r=c13 e (fun t h=>n (mkT K28 t) h) (a,b,c,d,f,g,i,()) h:=by kernel_rfl
noncomputable def c18(e:Cx)(J:Q22):Q28
| (a,b,c,d,f,g,i,j,_),h =>
 bA (ldA 34 j h) h fun k l =>
 cV (bsl 34 1 [(0,34,(.agg k))] (List.replicate 32 (.int .u8 0)++[.int .u32 0]++[.int .u64 0]) jac l) fun m o =>
 cV (app 34 48 jac d m o) fun p q =>
 J (a,b,c,p,f,g,i,()) q
theorem c18_eq(e a b c d f g i j h n ee r):Y e (peel 1 (C [8,4,3])).1 (mkT K28 (a,b,c,d,f,g,i,j,())) h n ee r=c18 e (fun t h=>n (mkT K22 t) h) (a,b,c,d,f,g,i,j,()) h:=by kernel_rfl
noncomputable def r18(e:Cx)(Jn:Q22)(J1:Q22)(J0:Q18)(Jr:QR)(t:P28)(h:AH):Res:=c18 e Jn t h
theorem r18_eq(e Jn J1 J0 Jr):∀ t h,X e (C [8,4,3]) (mkT K28 t) h (jk K22 Jn) (exK [(1,(jk K22 J1)),(0,(jk K18 J0))]) (jk KR Jr)=r18 e Jn J1 J0 Jr t h
| (a,b,c,d,f,g,i,j,_),h=>nd_chain' (X:=C [8,4,3]) (Y:=.skip) 1 (L:=K22) (S:=fun J=>c18 e J (a,b,c,d,f,g,i,j,()) h) (Q:=Jn) (by kernel_rfl) (fun n=>c18_eq e a b c d f g i j h n (exK [(1,(jk K22 J1)),(0,(jk K18 J0))]) (jk KR Jr)) (fun t h=>by kernel_rfl)
noncomputable def c14(e:Cx)(J:Q30):Q28
| (a,b,c,d,f,g,i,j,_),h =>
 bV (fA 33 j) h fun k l =>
 bI .u64 (ld k l) l fun m o =>
 J (a,b,c,d,f,g,i,j,(decide (m≥2147483648)),()) o
theorem c14_eq(e a b c d f g i j h n ee r):Y e (peel 1 (C [8,4,2,0])).1 (mkT K28 (a,b,c,d,f,g,i,j,())) h n ee r=c14 e (fun t h=>n (mkT K30 t) h) (a,b,c,d,f,g,i,j,()) h:=by kernel_rfl
noncomputable def c15(e:Cx)(J:Q28):Q30
| (a,b,c,d,f,g,i,j,k,_),h =>
 bV (ixS 1 f i) h fun l m =>
 bS (st 1 l (.bool true) m) fun o =>
 let p:Int:=(wr .i64 ((wr .i64 (1032+(wr .i64 (40*c))))+(wr .i64 (8*g))))
 cI .u64 (e.C nzay [a,(.int .i64 p),(.int .i64 8)] o) fun q s =>
 bV (fA 33 j) s fun u v =>
 bS (st 1 u (.int .u64 q) v) fun w =>
 J (a,b,c,d,f,(wr .i64 (g+1)),i,j,()) w
theorem c15_eq(e a b c d f g i j k h n ee r):Y e (peel 3 (C [8,4,2,1,0])).1 (mkT K30 (a,b,c,d,f,g,i,j,k,())) h n ee r=c15 e (fun t h=>n (mkT K28 t) h) (a,b,c,d,f,g,i,j,k,()) h:=by kernel_rfl
noncomputable def k14(e:Cx)(Jn:Q28)(J1:Q22)(J0:Q18)(Jr:QR):Q30
| (a,b,c,d,f,g,i,j,k,_),h =>
 bif k then c15 e Jn (a,b,c,d,f,g,i,j,k,()) h else Jn (a,b,c,d,f,g,i,j,()) h
theorem k14_eq(e Jn J1 J0 Jr):∀ t h,X e (C [8,4,2,1]) (mkT K30 t) h (jk K28 Jn) (exK [(1,(jk K22 J1)),(0,(jk K18 J0))]) (jk KR Jr)=k14 e Jn J1 J0 Jr t h
| (c,d,f,g,i,j,k,l,m,_),h=>nd_cond' (X:=C [8,4,2,1]) (a:=C [8,4,2,1,0]) (b:=C [8,4,2,2]) (t:=m) (x:=.tmp 73) (by kernel_rfl) (by kernel_rfl) (nd_chain' (X:=C [8,4,2,1,0]) (Y:=.skip) 3 (L:=K28) (S:=fun J=>c15 e J (c,d,f,g,i,j,k,l,m,()) h) (Q:=Jn) (by kernel_rfl) (fun n=>c15_eq e c d f g i j k l m h n (exK [(1,(jk K22 J1)),(0,(jk K18 J0))]) (jk KR Jr)) (fun t h=>by kernel_rfl)) (by kernel_rfl)
noncomputable def k13(e:Cx)(Jn:Q22)(J1:Q22)(J0:Q18)(Jr:QR)(t:P28)(h:AH):Res:=c14 e (k14 e (r18 e Jn J1 J0 Jr) J1 J0 Jr) t h
theorem k13_eq(e Jn J1 J0 Jr):∀ t h,X e (C [8,4,2]) (mkT K28 t) h (jk K22 Jn) (exK [(1,(jk K22 J1)),(0,(jk K18 J0))]) (jk KR Jr)=k13 e Jn J1 J0 Jr t h
| (c,d,f,g,i,j,k,l,_),h=>(nd_norm' (X:=(C [8,4,2])) (a:=C [8,4,2,0]) (b:=C [8,4,3]) (L:=K28) (by kernel_rfl) (by kernel_rfl) (by kernel_rfl) (SB:=(r18 e Jn J1 J0 Jr)) (r18_eq e Jn J1 J0 Jr) _ _).trans (nd_chain' (X:=C [8,4,2,0]) (Y:=(C [8,4,2,1])) 1 (L:=K30) (S:=fun J=>c14 e J (c,d,f,g,i,j,k,l,()) h) (Q:=(k14 e (r18 e Jn J1 J0 Jr) J1 J0 Jr)) (by kernel_rfl) (fun n=>c14_eq e c d f g i j k l h n (exK [(1,(jk K22 J1)),(0,(jk K18 J0))]) (jk KR Jr)) (k14_eq e (r18 e Jn J1 J0 Jr) J1 J0 Jr))
noncomputable def r13(e:Cx)(Jn:Q22)(J0:Q18)(Jr:QR)(t:P22)(h:AH):Res:=c13 e (k13 e (r12 e Jn J0 Jr) (r12 e Jn J0 Jr) J0 Jr) t h
theorem r13_eq(e Jn J0 Jr):∀ t h,X e (C [8,4]) (mkT K22 t) h (jk K22 Jn) (exK [(0,(jk K18 J0))]) (jk KR Jr)=r13 e Jn J0 Jr t h
| (c,d,f,g,i,j,k,_),h=>(nd_norm' (X:=(C [8,4])) (a:=C [8,4,0]) (b:=C [8,5]) (L:=K22) (by kernel_rfl) (by kernel_rfl) (by kernel_rfl) (SB:=(r12 e Jn J0 Jr)) (r12_eq e Jn J0 Jr) _ _).trans (nd_block' (X:=C [8,4,0]) (id:=1) (b:=C [8,4,1]) (by kernel_rfl) (nd_chain' (X:=C [8,4,1]) (Y:=(C [8,4,2])) 1 (L:=K28) (S:=fun J=>c13 e J (c,d,f,g,i,j,k,()) h) (Q:=(k13 e (r12 e Jn J0 Jr) (r12 e Jn J0 Jr) J0 Jr)) (by kernel_rfl) (fun n=>c13_eq e c d f g i j k h n (exK [(1,(jk K22 (r12 e Jn J0 Jr))),(0,(jk K18 J0))]) (jk KR Jr)) (k13_eq e (r12 e Jn J0 Jr) (r12 e Jn J0 Jr) J0 Jr)))
noncomputable def c11(e:Cx)(J:Q24):Q22
| (a,b,c,d,f,g,i,_),h =>
 J (a,b,c,d,f,g,i,(decide (i<c)),()) h
theorem c11_eq(e a b c d f g i h n ee r):Y e (peel 1 (C [8,3,0])).1 (mkT K22 (a,b,c,d,f,g,i,())) h n ee r=c11 e (fun t h=>n (mkT K24 t) h) (a,b,c,d,f,g,i,()) h:=by kernel_rfl
noncomputable def k11(e:Cx)(Jn:Q22)(J0:Q18)(Jr:QR):Q24
| (a,b,c,d,f,g,i,j,_),h =>
 bif j then Jn (a,b,c,d,f,g,i,()) h else J0 (a,b,c,d,f,()) h
theorem k11_eq(e Jn J0 Jr):∀ t h,X e (C [8,3,1]) (mkT K24 t) h (jk K22 Jn) (exK [(0,(jk K18 J0))]) (jk KR Jr)=k11 e Jn J0 Jr t h
| (c,d,f,g,i,j,k,l,_),h=>nd_cond' (X:=C [8,3,1]) (a:=C [8,3,1,0]) (b:=C [8,3,2]) (t:=l) (x:=.tmp 45) (by kernel_rfl) (by kernel_rfl) (by kernel_rfl) (by kernel_rfl)
noncomputable def l11(e:Cx)(Jn:Q22)(J0:Q18)(Jr:QR)(t:P22)(h:AH):Res:=c11 e (k11 e (r13 e Jn J0 Jr) J0 Jr) t h
theorem l11_eq(e Jn J0 Jr):∀ t h,X e (C [8,3]) (mkT K22 t) h (jk K22 Jn) (exK [(0,(jk K18 J0))]) (jk KR Jr)=l11 e Jn J0 Jr t h
| (c,d,f,g,i,j,k,_),h=>(nd_norm' (X:=(C [8,3])) (a:=C [8,3,0]) (b:=C [8,4]) (L:=K22) (by kernel_rfl) (by kernel_rfl) (by kernel_rfl) (SB:=(r13 e Jn J0 Jr)) (r13_eq e Jn J0 Jr) _ _).trans (nd_chain' (X:=C [8,3,0]) (Y:=(C [8,3,1])) 1 (L:=K24) (S:=fun J=>c11 e J (c,d,f,g,i,j,k,()) h) (Q:=(k11 e (r13 e Jn J0 Jr) J0 Jr)) (by kernel_rfl) (fun n=>c11_eq e c d f g i j k h n (exK [(0,(jk K18 J0))]) (jk KR Jr)) (k11_eq e (r13 e Jn J0 Jr) J0 Jr))
noncomputable def k10(e:Cx)(Jn:Q18)(Jr:QR)(t:P22)(h:AH):Res:=jaw (P22) e.F (fun t h n=>l11 e n Jn Jr t h) t h
theorem k10_eq(e Jn Jr):∀ t h,X e (C [8,1]) (mkT K22 t) h (jk K18 Jn) (exK []) (jk KR Jr)=k10 e Jn Jr t h
| (a,c,d,f,g,i,j,_),h=>nd_block' (X:=C [8,1]) (id:=0) (b:=C [8,2]) (by kernel_rfl) ((nd_loop' (X:=C [8,2]) (b:=C [8,3]) (L:=K22) (by kernel_rfl) (by kernel_rfl) (SB:=fun n=>l11 e n Jn Jr) (fun n=>l11_eq e n Jn Jr) _ _).trans (by kernel_rfl))
noncomputable def k9(e:Cx)(Jn:QR)(Jr:QR)(t:P20)(h:AH):Res:=c10 e (k10 e (r19 e Jn Jr) Jr) t h
theorem k9_eq(e Jn Jr):∀ t h,X e (C [8]) (mkT K20 t) h (jk KR Jn) (exK []) (jk KR Jr)=k9 e Jn Jr t h
| (c,d,f,g,i,j,_),h=>(nd_norm' (X:=(C [8])) (a:=C [8,0]) (b:=C [9]) (L:=K18) (by kernel_rfl) (by kernel_rfl) (by kernel_rfl) (SB:=(r19 e Jn Jr)) (r19_eq e Jn Jr) _ _).trans (nd_chain' (X:=C [8,0]) (Y:=(C [8,1])) 1 (L:=K22) (S:=fun J=>c10 e J (c,d,f,g,i,j,()) h) (Q:=(k10 e (r19 e Jn Jr) Jr)) (by kernel_rfl) (fun n=>c10_eq e c d f g i j h n (exK []) (jk KR Jr)) (k10_eq e (r19 e Jn Jr) Jr))
noncomputable def r7(e:Cx)(Jn:QR)(Jr:QR)(t:P9)(h:AH):Res:=c7 e (k9 e Jn Jr) t h
theorem r7_eq(e Jn Jr):∀ t h,X e (C [5]) (mkT K9 t) h (jk KR Jn) (exK []) (jk KR Jr)=r7 e Jn Jr t h
| (a,b,c,_),h=>nd_chain' (X:=C [5]) (Y:=(C [8])) 3 (L:=K20) (S:=fun J=>c7 e J (a,b,c,()) h) (Q:=(k9 e Jn Jr)) (by kernel_rfl) (fun n=>c7_eq e a b c h n (exK []) (jk KR Jr)) (k9_eq e Jn Jr)
noncomputable def c5(e:Cx)(J:Q12):Q10
| (a,b,c,d,_),h =>
 bV (slA 32 1 d none none none h) h fun f g =>
 bI .i64 (lenS a) g fun i j =>
 bV (slS 1 a (some (.int .i64 (wr .i64 (i-32)))) none none) j fun k l =>
 cB (e.C nzav [f,k] l) fun m o =>
 J (a,b,c,(!m),()) o
theorem c5_eq(e a b c d h n ee r):Y e (peel 1 (C [4,0])).1 (mkT K10 (a,b,c,d,())) h n ee r=c5 e (fun t h=>n (mkT K12 t) h) (a,b,c,d,()) h:=by kernel_rfl
noncomputable def c6(e:Cx)(J:Q8):Q12
| (a,b,c,d,_),h =>
 bA (bld [] (List.replicate 32 (.int .u8 0))) h fun f g =>
 bS (st 32 b (.agg f) g) fun i =>
 J ((.nilslice),b,6,()) i
theorem c6_eq(e a b c d h n ee r):Y e (peel 1 (C [4,1,0])).1 (mkT K12 (a,b,c,d,())) h n ee r=c6 e (fun t h=>n (mkT K8 t) h) (a,b,c,d,()) h:=by kernel_rfl
noncomputable def k5(e:Cx)(Jn:Q9)(Jr:QR):Q12
| (a,b,c,d,_),h =>
 bif d then c6 e (fun | (f,g,i,_),j=>Jr (f,g,(.int .i64 i),()) j) (a,b,c,d,()) h else Jn (a,b,c,()) h
theorem k5_eq(e Jn Jr):∀ t h,X e (C [4,1]) (mkT K12 t) h (jk K9 Jn) (exK []) (jk KR Jr)=k5 e Jn Jr t h
| (c,d,f,g,_),h=>nd_cond' (X:=C [4,1]) (a:=C [4,1,0]) (b:=C [4,2]) (t:=g) (x:=.tmp 39) (by kernel_rfl) (by kernel_rfl) (nd_chain' (X:=C [4,1,0]) (Y:=(C [4,1,1])) 1 (L:=K8) (S:=fun J=>c6 e J (c,d,f,g,()) h) (Q:=fun | (i,j,k,_),l=>Jr (i,j,(.int .i64 k),()) l) (by kernel_rfl) (fun n=>c6_eq e c d f g h n (exK []) (jk KR Jr)) (fun | (i,j,k,_),l=>by kernel_rfl)) (by kernel_rfl)
noncomputable def k4(e:Cx)(Jn:QR)(Jr:QR)(t:P10)(h:AH):Res:=c5 e (k5 e (r7 e Jn Jr) Jr) t h
theorem k4_eq(e Jn Jr):∀ t h,X e (C [4]) (mkT K10 t) h (jk KR Jn) (exK []) (jk KR Jr)=k4 e Jn Jr t h
| (c,d,f,g,_),h=>(nd_norm' (X:=(C [4])) (a:=C [4,0]) (b:=C [5]) (L:=K9) (by kernel_rfl) (by kernel_rfl) (by kernel_rfl) (SB:=(r7 e Jn Jr)) (r7_eq e Jn Jr) _ _).trans (nd_chain' (X:=C [4,0]) (Y:=(C [4,1])) 1 (L:=K12) (S:=fun J=>c5 e J (c,d,f,g,()) h) (Q:=(k5 e (r7 e Jn Jr) Jr)) (by kernel_rfl) (fun n=>c5_eq e c d f g h n (exK []) (jk KR Jr)) (k5_eq e (r7 e Jn Jr) Jr))
noncomputable def r4(e:Cx)(Jn:QR)(Jr:QR)(t:P9)(h:AH):Res:=c4 e (k4 e Jn Jr) t h
theorem r4_eq(e Jn Jr):∀ t h,X e (C [3]) (mkT K9 t) h (jk KR Jn) (exK []) (jk KR Jr)=r4 e Jn Jr t h
| (a,b,c,_),h=>nd_chain' (X:=C [3]) (Y:=(C [4])) 1 (L:=K10) (S:=fun J=>c4 e J (a,b,c,()) h) (Q:=(k4 e Jn Jr)) (by kernel_rfl) (fun n=>c4_eq e a b c h n (exK []) (jk KR Jr)) (k4_eq e Jn Jr)
noncomputable def c2(e:Cx)(J:Q6):Q4
| (a,b,c,d,_),h =>
 J (a,b,c,d,(d != 0),()) h
theorem c2_eq(e a b c d h n ee r):Y e (peel 1 (C [2,0])).1 (mkT K4 (a,b,c,d,())) h n ee r=c2 e (fun t h=>n (mkT K6 t) h) (a,b,c,d,()) h:=by kernel_rfl
noncomputable def c3(e:Cx)(J:Q8):Q6
| (a,b,c,d,f,_),h =>
 bA (bld [] (List.replicate 32 (.int .u8 0))) h fun g i =>
 bS (st 32 b (.agg g) i) fun j =>
 J ((.nilslice),b,d,()) j
theorem c3_eq(e a b c d f h n ee r):Y e (peel 1 (C [2,1,0])).1 (mkT K6 (a,b,c,d,f,())) h n ee r=c3 e (fun t h=>n (mkT K8 t) h) (a,b,c,d,f,()) h:=by kernel_rfl
noncomputable def k2(e:Cx)(Jn:Q9)(Jr:QR):Q6
| (a,b,c,d,f,_),h =>
 bif f then c3 e (fun | (g,i,j,_),k=>Jr (g,i,(.int .i64 j),()) k) (a,b,c,d,f,()) h else Jn (a,b,c,()) h
theorem k2_eq(e Jn Jr):∀ t h,X e (C [2,1]) (mkT K6 t) h (jk K9 Jn) (exK []) (jk KR Jr)=k2 e Jn Jr t h
| (c,d,f,g,i,_),h=>nd_cond' (X:=C [2,1]) (a:=C [2,1,0]) (b:=C [2,2]) (t:=i) (x:=.tmp 23) (by kernel_rfl) (by kernel_rfl) (nd_chain' (X:=C [2,1,0]) (Y:=(C [2,1,1])) 1 (L:=K8) (S:=fun J=>c3 e J (c,d,f,g,i,()) h) (Q:=fun | (j,k,l,_),m=>Jr (j,k,(.int .i64 l),()) m) (by kernel_rfl) (fun n=>c3_eq e c d f g i h n (exK []) (jk KR Jr)) (fun | (j,k,l,_),m=>by kernel_rfl)) (by kernel_rfl)
noncomputable def k1(e:Cx)(Jn:QR)(Jr:QR)(t:P4)(h:AH):Res:=c2 e (k2 e (r4 e Jn Jr) Jr) t h
theorem k1_eq(e Jn Jr):∀ t h,X e (C [2]) (mkT K4 t) h (jk KR Jn) (exK []) (jk KR Jr)=k1 e Jn Jr t h
| (c,d,f,g,_),h=>(nd_norm' (X:=(C [2])) (a:=C [2,0]) (b:=C [3]) (L:=K9) (by kernel_rfl) (by kernel_rfl) (by kernel_rfl) (SB:=(r4 e Jn Jr)) (r4_eq e Jn Jr) _ _).trans (nd_chain' (X:=C [2,0]) (Y:=(C [2,1])) 1 (L:=K6) (S:=fun J=>c2 e J (c,d,f,g,()) h) (Q:=(k2 e (r4 e Jn Jr) Jr)) (by kernel_rfl) (fun n=>c2_eq e c d f g h n (exK []) (jk KR Jr)) (k2_eq e (r4 e Jn Jr) Jr))
noncomputable def fn(e:Cx)(a:V)(h:AH):Res :=
 c0 e (k1 e ret ret) (a,()) h
theorem run(e:Cx)(a:V)(h:AH):execFn (cfgS e) (jbi lv) e.F nzbc [a] h=fn e a h:=by
 refine (fn_eq (c:=cfgS e) (lv:=lv) (PP.funcs.getD 15 default) B (by kernel_rfl) (by kernel_rfl) (Nat.le_of_ble_eq_true (by kernel_rfl))).trans ?_
 rw [ret_eq]
 exact nd_chain' (X:=C [0]) (Y:=(C [2])) 2 (L:=K4) (S:=fun J=>c0 e J (a,()) h) (Q:=(k1 e ret ret)) (by kernel_rfl) (fun n=>c0_eq e a h n (exK []) (jk KR ret)) (k1_eq e ret ret)
end zbc
namespace zbd
noncomputable def B:Code:=cBody (PP.funcs.getD 16 default)
abbrev K2:Slots:=[(0,.any),(1,.any)]
abbrev P2:=V×V×Unit
abbrev Q2:=P2→AH→Res
abbrev K4:Slots:=[(0,.any),(1,.any),(10,.bool)]
abbrev P4:=V×V×Bool×Unit
abbrev Q4:=P4→AH→Res
abbrev K6:Slots:=[(4,.bool)]
abbrev P6:=Bool×Unit
abbrev Q6:=P6→AH→Res
abbrev K8:Slots:=[(0,.any),(1,.any),(12,.int .i64),(13,.int .i64)]
abbrev P8:=V×V×Int×Int×Unit
abbrev Q8:=P8→AH→Res
abbrev K10:Slots:=[(0,.any),(1,.any),(12,.int .i64),(13,.int .i64),(14,.bool)]
abbrev P10:=V×V×Int×Int×Bool×Unit
abbrev Q10:=P10→AH→Res
abbrev K12:Slots:=[(0,.any),(1,.any),(5,.int .i64),(12,.int .i64),(13,.int .i64)]
abbrev P12:=V×V×Int×Int×Int×Unit
abbrev Q12:=P12→AH→Res
abbrev K14:Slots:=[(0,.any),(1,.any),(12,.int .i64),(13,.int .i64),(24,.bool)]
abbrev P14:=V×V×Int×Int×Bool×Unit
abbrev Q14:=P14→AH→Res
abbrev K19:Slots:=[]
abbrev P19:=Unit
abbrev Q19:=P19→AH→Res
noncomputable def lv:=lvT [(2,K2),(4,K4),(6,K6),(7,K2),(8,K8),(10,K10),(11,K8),(12,K12),(14,K14),(16,K6),(17,K8),(18,K8),(9,K8),(19,K19),(20,K6)]
abbrev KR:Slots:=[(4,.any)]
abbrev PR:=V×Unit
abbrev QR:=PR→AH→Res
noncomputable abbrev X (e:Cx):=exL (cfgS e) lv 26 e.F
noncomputable abbrev Y (e:Cx):=runL (cfgS e) lv 26 e.F
noncomputable abbrev C (p:List Nat):=cP p B
noncomputable def ret:QR
| (a,_),h=>finW [some a] h
theorem ret_eq(e:Cx):fin (cfgS e) (jbi lv) (PP.funcs.getD 16 default)=jk KR ret:=by kernel_rfl
noncomputable def c0(e:Cx)(J:Q2):V×V×Unit→AH→Res
| (a,b,_),h =>
 J (a,b,()) h
theorem c0_eq(e a b h n ee r):Y e (peel 1 (C [0])).1 (iniT [a,b] 0 .leaf) h n ee r=c0 e (fun t h=>n (mkT K2 t) h) (a,b,()) h:=by kernel_rfl
noncomputable def c9(e:Cx)(J:Q6):Q19
| (_),h =>
 J (true,()) h
theorem c9_eq(e h n ee r):Y e (peel 1 (C [3])).1 (mkT K19 (())) h n ee r=c9 e (fun t h=>n (mkT K6 t) h) (()) h:=by kernel_rfl
noncomputable def r9(e:Cx)(Jn:QR)(Jr:QR):Q19
| (_),h =>
 c9 e (fun | (a,_),b=>Jr ((.bool a),()) b) (()) h
theorem r9_eq(e Jn Jr):∀ t h,X e (C [3]) (mkT K19 t) h (jk KR Jn) (exK []) (jk KR Jr)=r9 e Jn Jr t h
| (_),h=>nd_chain' (X:=C [3]) (Y:=(C [4])) 1 (L:=K6) (S:=fun J=>c9 e J (()) h) (Q:=fun | (a,_),b=>Jr ((.bool a),()) b) (by kernel_rfl) (fun n=>c9_eq e h n (exK []) (jk KR Jr)) (fun | (a,_),b=>by kernel_rfl)
noncomputable def c3(e:Cx)(J:Q8):Q2
| (a,b,_),h =>
 bI .i64 (lenS a) h fun c d =>
 J (a,b,c,0,()) d
theorem c3_eq(e a b h n ee r):Y e (peel 1 (C [2,0])).1 (mkT K2 (a,b,())) h n ee r=c3 e (fun t h=>n (mkT K8 t) h) (a,b,()) h:=by kernel_rfl
noncomputable def c4(e:Cx)(J:Q10):Q8
| (a,b,c,d,_),h =>
 J (a,b,c,d,(decide (d<c)),()) h
theorem c4_eq(e a b c d h n ee r):Y e (peel 1 (C [2,3])).1 (mkT K8 (a,b,c,d,())) h n ee r=c4 e (fun t h=>n (mkT K10 t) h) (a,b,c,d,()) h:=by kernel_rfl
noncomputable def c8(e:Cx)(J:Q8):Q8
| (a,b,c,d,_),h =>
 J (a,b,c,(wr .i64 (d+1)),()) h
theorem c8_eq(e a b c d h n ee r):Y e (peel 1 (C [2,6])).1 (mkT K8 (a,b,c,d,())) h n ee r=c8 e (fun t h=>n (mkT K8 t) h) (a,b,c,d,()) h:=by kernel_rfl
noncomputable def r8(e:Cx)(Jn:Q8)(J0:Q19)(Jr:QR)(t:P8)(h:AH):Res:=c8 e Jn t h
theorem r8_eq(e Jn J0 Jr):∀ t h,X e (C [2,6]) (mkT K8 t) h (jk K8 Jn) (exK [(0,(jk K19 J0))]) (jk KR Jr)=r8 e Jn J0 Jr t h
| (a,b,c,d,_),h=>nd_chain' (X:=C [2,6]) (Y:=.skip) 1 (L:=K8) (S:=fun J=>c8 e J (a,b,c,d,()) h) (Q:=Jn) (by kernel_rfl) (fun n=>c8_eq e a b c d h n (exK [(0,(jk K19 J0))]) (jk KR Jr)) (fun t h=>by kernel_rfl)
noncomputable def c5(e:Cx)(J:Q14):Q8
| (a,b,c,d,_),h =>
 bV (ixS 34 a d) h fun f g =>
 bA (ldA 34 f g) g fun i j =>
 bV (ixS 34 b d) j fun k l =>
 bA (ldA 34 k l) l fun m o =>
 bB (neW PP false jac (.agg i) (.agg m)) o fun p q =>
 J (a,b,c,d,p,()) q
theorem c5_eq(e a b c d h n ee r):Y e (peel 2 (C [2,5,1])).1 (mkT K8 (a,b,c,d,())) h n ee r=c5 e (fun t h=>n (mkT K14 t) h) (a,b,c,d,()) h:=by kernel_rfl
noncomputable def c7(e:Cx)(J:Q6):Q14
| (a,b,c,d,f,_),h =>
 J (false,()) h
theorem c7_eq(e a b c d f h n ee r):Y e (peel 1 (C [2,5,3,0])).1 (mkT K14 (a,b,c,d,f,())) h n ee r=c7 e (fun t h=>n (mkT K6 t) h) (a,b,c,d,f,()) h:=by kernel_rfl
noncomputable def k6(e:Cx)(Jn:Q8)(J1:Q8)(J0:Q19)(Jr:QR):Q14
| (a,b,c,d,f,_),h =>
 bif f then c7 e (fun | (g,_),i=>Jr ((.bool g),()) i) (a,b,c,d,f,()) h else Jn (a,b,c,d,()) h
theorem k6_eq(e Jn J1 J0 Jr):∀ t h,X e (C [2,5,3]) (mkT K14 t) h (jk K8 Jn) (exK [(1,(jk K8 J1)),(0,(jk K19 J0))]) (jk KR Jr)=k6 e Jn J1 J0 Jr t h
| (c,d,f,g,i,_),h=>nd_cond' (X:=C [2,5,3]) (a:=C [2,5,3,0]) (b:=C [2,5,4]) (t:=i) (x:=.tmp 24) (by kernel_rfl) (by kernel_rfl) (nd_chain' (X:=C [2,5,3,0]) (Y:=(C [2,5,3,1])) 1 (L:=K6) (S:=fun J=>c7 e J (c,d,f,g,i,()) h) (Q:=fun | (j,_),k=>Jr ((.bool j),()) k) (by kernel_rfl) (fun n=>c7_eq e c d f g i h n (exK [(1,(jk K8 J1)),(0,(jk K19 J0))]) (jk KR Jr)) (fun | (j,_),k=>by kernel_rfl)) (by kernel_rfl)
noncomputable def r5(e:Cx)(Jn:Q8)(J0:Q19)(Jr:QR)(t:P8)(h:AH):Res:=c5 e (k6 e (r8 e Jn J0 Jr) (r8 e Jn J0 Jr) J0 Jr) t h
theorem r5_eq(e Jn J0 Jr):∀ t h,X e (C [2,5]) (mkT K8 t) h (jk K8 Jn) (exK [(0,(jk K19 J0))]) (jk KR Jr)=r5 e Jn J0 Jr t h
| (c,d,f,g,_),h=>(nd_norm' (X:=(C [2,5])) (a:=C [2,5,0]) (b:=C [2,6]) (L:=K8) (by kernel_rfl) (by kernel_rfl) (by kernel_rfl) (SB:=(r8 e Jn J0 Jr)) (r8_eq e Jn J0 Jr) _ _).trans (nd_block' (X:=C [2,5,0]) (id:=1) (b:=C [2,5,1]) (by kernel_rfl) (nd_chain' (X:=C [2,5,1]) (Y:=(C [2,5,3])) 2 (L:=K14) (S:=fun J=>c5 e J (c,d,f,g,()) h) (Q:=(k6 e (r8 e Jn J0 Jr) (r8 e Jn J0 Jr) J0 Jr)) (by kernel_rfl) (fun n=>c5_eq e c d f g h n (exK [(1,(jk K8 (r8 e Jn J0 Jr))),(0,(jk K19 J0))]) (jk KR Jr)) (k6_eq e (r8 e Jn J0 Jr) (r8 e Jn J0 Jr) J0 Jr)))
noncomputable def k4(e:Cx)(Jn:Q8)(J0:Q19)(Jr:QR):Q10
| (a,b,c,d,f,_),h =>
 bif f then (r5 e Jn J0 Jr) (a,b,c,d,()) h else J0 (()) h
theorem k4_eq(e Jn J0 Jr):∀ t h,X e (C [2,4]) (mkT K10 t) h (jk K8 Jn) (exK [(0,(jk K19 J0))]) (jk KR Jr)=k4 e Jn J0 Jr t h
| (c,d,f,g,i,_),h=>(nd_norm' (X:=(C [2,4])) (a:=C [2,4,0]) (b:=C [2,5]) (L:=K8) (by kernel_rfl) (by kernel_rfl) (by kernel_rfl) (SB:=(r5 e Jn J0 Jr)) (r5_eq e Jn J0 Jr) _ _).trans (nd_cond' (X:=C [2,4,0]) (a:=C [2,4,0,0]) (b:=C [2,4,1]) (t:=i) (x:=.tmp 14) (by kernel_rfl) (by kernel_rfl) (by kernel_rfl) (by kernel_rfl))
noncomputable def l4(e:Cx)(Jn:Q8)(J0:Q19)(Jr:QR)(t:P8)(h:AH):Res:=c4 e (k4 e Jn J0 Jr) t h
theorem l4_eq(e Jn J0 Jr):∀ t h,X e (C [2,3]) (mkT K8 t) h (jk K8 Jn) (exK [(0,(jk K19 J0))]) (jk KR Jr)=l4 e Jn J0 Jr t h
| (a,b,c,d,_),h=>nd_chain' (X:=C [2,3]) (Y:=(C [2,4])) 1 (L:=K10) (S:=fun J=>c4 e J (a,b,c,d,()) h) (Q:=(k4 e Jn J0 Jr)) (by kernel_rfl) (fun n=>c4_eq e a b c d h n (exK [(0,(jk K19 J0))]) (jk KR Jr)) (k4_eq e Jn J0 Jr)
noncomputable def k3(e:Cx)(Jn:Q19)(Jr:QR)(t:P8)(h:AH):Res:=jaw (P8) e.F (fun t h n=>l4 e n Jn Jr t h) t h
theorem k3_eq(e Jn Jr):∀ t h,X e (C [2,1]) (mkT K8 t) h (jk K19 Jn) (exK []) (jk KR Jr)=k3 e Jn Jr t h
| (a,c,d,f,_),h=>nd_block' (X:=C [2,1]) (id:=0) (b:=C [2,2]) (by kernel_rfl) ((nd_loop' (X:=C [2,2]) (b:=C [2,3]) (L:=K8) (by kernel_rfl) (by kernel_rfl) (SB:=fun n=>l4 e n Jn Jr) (fun n=>l4_eq e n Jn Jr) _ _).trans (by kernel_rfl))
noncomputable def r3(e:Cx)(Jn:QR)(Jr:QR)(t:P2)(h:AH):Res:=c3 e (k3 e (r9 e Jn Jr) Jr) t h
theorem r3_eq(e Jn Jr):∀ t h,X e (C [2]) (mkT K2 t) h (jk KR Jn) (exK []) (jk KR Jr)=r3 e Jn Jr t h
| (c,d,_),h=>(nd_norm' (X:=(C [2])) (a:=C [2,0]) (b:=C [3]) (L:=K19) (by kernel_rfl) (by kernel_rfl) (by kernel_rfl) (SB:=(r9 e Jn Jr)) (r9_eq e Jn Jr) _ _).trans (nd_chain' (X:=C [2,0]) (Y:=(C [2,1])) 1 (L:=K8) (S:=fun J=>c3 e J (c,d,()) h) (Q:=(k3 e (r9 e Jn Jr) Jr)) (by kernel_rfl) (fun n=>c3_eq e c d h n (exK []) (jk KR Jr)) (k3_eq e (r9 e Jn Jr) Jr))
noncomputable def c1(e:Cx)(J:Q4):Q2
| (a,b,_),h =>
 bI .i64 (lenS a) h fun c d =>
 bI .i64 (lenS b) d fun f g =>
 J (a,b,(c != f),()) g
theorem c1_eq(e a b h n ee r):Y e (peel 1 (C [1,0])).1 (mkT K2 (a,b,())) h n ee r=c1 e (fun t h=>n (mkT K4 t) h) (a,b,()) h:=by kernel_rfl
noncomputable def c2(e:Cx)(J:Q6):Q4
| (a,b,c,_),h =>
 J (false,()) h
theorem c2_eq(e a b c h n ee r):Y e (peel 1 (C [1,1,0])).1 (mkT K4 (a,b,c,())) h n ee r=c2 e (fun t h=>n (mkT K6 t) h) (a,b,c,()) h:=by kernel_rfl
noncomputable def k1(e:Cx)(Jn:Q2)(Jr:QR):Q4
| (a,b,c,_),h =>
 bif c then c2 e (fun | (d,_),f=>Jr ((.bool d),()) f) (a,b,c,()) h else Jn (a,b,()) h
theorem k1_eq(e Jn Jr):∀ t h,X e (C [1,1]) (mkT K4 t) h (jk K2 Jn) (exK []) (jk KR Jr)=k1 e Jn Jr t h
| (c,d,f,_),h=>nd_cond' (X:=C [1,1]) (a:=C [1,1,0]) (b:=C [1,2]) (t:=f) (x:=.tmp 10) (by kernel_rfl) (by kernel_rfl) (nd_chain' (X:=C [1,1,0]) (Y:=(C [1,1,1])) 1 (L:=K6) (S:=fun J=>c2 e J (c,d,f,()) h) (Q:=fun | (g,_),i=>Jr ((.bool g),()) i) (by kernel_rfl) (fun n=>c2_eq e c d f h n (exK []) (jk KR Jr)) (fun | (g,_),i=>by kernel_rfl)) (by kernel_rfl)
noncomputable def k0(e:Cx)(Jn:QR)(Jr:QR)(t:P2)(h:AH):Res:=c1 e (k1 e (r3 e Jn Jr) Jr) t h
theorem k0_eq(e Jn Jr):∀ t h,X e (C [1]) (mkT K2 t) h (jk KR Jn) (exK []) (jk KR Jr)=k0 e Jn Jr t h
| (c,d,_),h=>(nd_norm' (X:=(C [1])) (a:=C [1,0]) (b:=C [2]) (L:=K2) (by kernel_rfl) (by kernel_rfl) (by kernel_rfl) (SB:=(r3 e Jn Jr)) (r3_eq e Jn Jr) _ _).trans (nd_chain' (X:=C [1,0]) (Y:=(C [1,1])) 1 (L:=K4) (S:=fun J=>c1 e J (c,d,()) h) (Q:=(k1 e (r3 e Jn Jr) Jr)) (by kernel_rfl) (fun n=>c1_eq e c d h n (exK []) (jk KR Jr)) (k1_eq e (r3 e Jn Jr) Jr))
noncomputable def fn(e:Cx)(a:V)(b:V)(h:AH):Res :=
 c0 e (k0 e ret ret) (a,b,()) h
theorem run(e:Cx)(a:V)(b:V)(h:AH):execFn (cfgS e) (jbi lv) e.F nzbd [a,b] h=fn e a b h:=by
 refine (fn_eq (c:=cfgS e) (lv:=lv) (PP.funcs.getD 16 default) B (by kernel_rfl) (by kernel_rfl) (Nat.le_of_ble_eq_true (by kernel_rfl))).trans ?_
 rw [ret_eq]
 exact nd_chain' (X:=C [0]) (Y:=(C [1])) 1 (L:=K2) (S:=fun J=>c0 e J (a,b,()) h) (Q:=(k0 e ret ret)) (by kernel_rfl) (fun n=>c0_eq e a b h n (exK []) (jk KR ret)) (k0_eq e ret ret)
end zbd
end Go.Proofs.YtcmhoboglapbdaaDoor
