/-
  The document's examples hold: the row and the card of PackidxFixed. The call comes back true, and all that was there reads as it did. No condition.
-/
import Derived.Test.YtcmhoboglapbdaaDoorQFE
set_option linter.unusedVariables false
set_option linter.unusedSimpArgs false
namespace Go.Proofs.YtcmhoboglapbdaaDoor
open Go Ev
def StrictOn(l:List Row):Prop:=∀ i j,i<j→j<l.length→Lt (rat l i) (rat l j)
theorem strictOn_of{l:List Row}(h:∀ i,0<i→i<l.length→Lt (rat l (i-1)) (rat l i)):StrictOn l:=by
 intro i j
 induction j with
 | zero=>intro h1;omega
 | succ j ih =>
  intro h1 h2
  have h3:=h (j+1) (by omega) h2
  rw [Nat.add_sub_cancel] at h3
  by_cases e:i=j
  ·rw [e];exact h3
  ·exact lt_le (ih (by omega) (by omega)) h3.le
theorem parseR_strict{p:List Nat}(he:(parseR p).2.2=0):StrictOn (parseR p).1:=by
 by_cases h1:(szM p).2.2≠0
 ·rw [parseR_e h1] at he ⊢;exact absurd he h1
 ·by_cases hs:sumM (p.take (p.length-32))=p.drop (p.length-32)
  ·by_cases hr:readOK p (szM p).1
   ·rw [parseR_g h1 hs hr]
    refine strictOn_of fun i h0 hi=>?_
    rw [rowsP_len] at hi
    rw [rowsP_rat (by omega),rowsP_rat hi]
    exact hr.2.1 i h0 hi
   ·rw [parseR_b h1 hs hr] at he;cases he
  ·rw [parseR_s h1 hs] at he;cases he
theorem z32_byte:∀ x∈z32,x<256:=by decide
theorem parseR_facts{p:List Nat}(hp:∀ x∈p,x<256):(parseR p).2.1.length=32∧(∀ x∈(parseR p).2.1,x<256)∧(∀ r∈(parseR p).1,r.ok)∧(parseR p).1.length≤4096:=by
 by_cases h1:(szM p).2.2≠0
 ·rw [parseR_e h1];exact ⟨rfl,z32_byte,fun r hr=>(by cases hr),by simp⟩
 ·obtain ⟨q1,q2,q3,q4,q5⟩:=(szM_cases p).resolve_left h1
  by_cases hs:sumM (p.take (p.length-32))=p.drop (p.length-32)
  ·by_cases hr:readOK p (szM p).1
   ·rw [parseR_g h1 hs hr]
    have hn':(szM p).1=lastN p:=by rw [q1]
    rw [hn']
    exact ⟨part_len (by omega),part_byte hp _ _,rowsP_ok hp (by omega),by rw [rowsP_len];exact q3⟩
   ·rw [parseR_b h1 hs hr];exact ⟨rfl,z32_byte,fun r hr=>(by cases hr),by simp⟩
  ·rw [parseR_s h1 hs];exact ⟨rfl,z32_byte,fun r hr=>(by cases hr),by simp⟩
def isId(id:List Nat)(r:Row):Bool:=decide (r.id=id)
noncomputable def findR(p:List Nat)(id:List Nat):Row×Int :=
 if (parseR p).2.2≠0 then (rz,(parseR p).2.2) else match (parseR p).1.find? (isId id) with
 | some r=>(r,0)
 | none=>(rz,7)
theorem find_at{l:List Row}(hs:StrictOn l){i:Nat}(hi:i<l.length){id:List Nat}(h:(rat l i).id=id):l.find? (isId id)=some (rat l i):=by
 rw [List.find?_eq_some_iff_getElem]
 refine ⟨dT h,i,hi,rat_getElem hi,fun j hj=>?_⟩
 have:=(hs j i hj hi).ne
 rw [rat_getElem (show j<l.length by omega)]
 unfold isId
 rw [dF (fun e=>this (e.trans h.symm))];rfl
theorem find_none{l:List Row}{id:List Nat}(h:∀ i,i<l.length→(rat l i).id≠id):l.find? (isId id)=none:=by
 rw [List.find?_eq_none]
 intro r hr
 obtain ⟨i,hi,rfl⟩:=List.getElem_of_mem hr
 rw [rat_getElem hi]
 unfold isId
 rw [dF (h i hi)];decide
theorem c1_spec{F m:Nat}{h:AH}(hw:h.WF){a:Row}{id:List Nat}(ha:a.ok)(hi:id.length=32)(hi8:∀ x∈id,x<256):∃ h',runC (EE F) (m+3) nzal [.agg (rowL a),.agg (byteL id)] h=some (.int .i64 (cmpN a.id id),h')∧Old h.next h h':=by
 rw [tzal]
 obtain ⟨h1,e1,c1,n1,o1⟩:=box_cells hw (rowL a) T_packidx_Row (rowL_cell a)
 obtain ⟨h2,e2,c2,n2,o2⟩:=box_cells o1.wf (byteL id) T_api_Id (byteL_cell id)
 rw [rowL_len ha] at e1
 rw [byteL_len,hi] at e2
 obtain ⟨h3,e3,o3⟩:=compare_spec (F:=F) (n:=m) o2.wf ha.1 hi ha.2.1 hi8
 have o12:=o1.trans (o2.weak o1.next)
 have ea:ldA 32 (.ptr ⟨h1.next,32,0⟩) h2=some (.agg (byteL id)):=c2.ldA (by rw [byteL_len,hi])
 refine ⟨h3,?_,o12.trans (o3.weak o12.next)⟩
 simp only [zal.fn,zal.c0,e1,cV_some,e2,fA_ptr,bV_some,row_id (c1.old o1.wf o2) ha,bA_some,ea,cxC,e3,cI_some,zal.ret]
 rfl
theorem has40:hasB PP 40=some true:=by kernel_rfl
theorem srch_word{F m:Nat}{g:AH}(hw:g.WF){a:Row}{id:List Nat}(ha:a.ok)(hi:id.length=32)(hi8:∀ x∈id,x<256):∃ g',dyn PP (cx F (m+3)).C (cx F (m+3)).X (.func 40 [] []) [.agg (rowL a),.agg (byteL id)] g=some (.int .i64 (cmpN a.id id),g')∧Old g.next g g':=by
 obtain ⟨g',e,o⟩:=c1_spec (F:=F) (m:=m) hw ha hi hi8
 exact ⟨g',(dyn_fn has40).trans e,o⟩
theorem half{x:Nat}(h:x<9223372036854775808):ishr .u64 (x:Int) 1=((x / 2:Nat):Int):=by
 unfold ishr
 have e:((2:Int) ^ min (Int.toNat 1) IntKind.u64.bits)=2:=rfl
 rw [e,Int.fdiv_eq_ediv_of_nonneg _ (by omega)];omega
theorem search_spec{F m:Nat}(hF:5000<F){h:AH}(hw:h.WF){v:V}{l:List Row}(hr:Rs h v l)(hl:l.length≤4096)(hs:StrictOn l){id:List Nat}(hi:id.length=32)(hi8:∀ x∈id,x<256) :
  ∃ (i:Nat) (b:Bool) (h':AH),runC (EE F) (m+4) nzbb [v,.agg (byteL id),.func 40 [] []] h=some (.tuple [.int .i64 (i:Int),.bool b],h')∧Old h.next h h' ∧
   (b=true→i<l.length∧(rat l i).id=id)∧(b=false→∀ i,i<l.length→(rat l i).id≠id):=by
 rw [tzbb]
 obtain ⟨h1,e1,c1,n1,o1⟩:=box_cells hw (byteL id) T_api_Id (byteL_cell id)
 rw [byteL_len,hi] at e1
 have R1:=hr.old hw o1
 simp only [zbb.fn,zbb.c0,e1,cV_some,R1.1.len,bI_some]
 refine loop_rule (S:=zbb.P6) (out:=fun x=>∃ (i:Nat) (b:Bool) (h':AH),x=some (.tuple [.int .i64 (i:Int),.bool b],h')∧Old h.next h h' ∧
   (b=true→i<l.length∧(rat l i).id=id)∧(b=false→∀ i,i<l.length→(rat l i).id≠id))
  (fun k s g=>∃ i j:Nat,j≤i+k∧i≤j∧j≤l.length∧s=(v,.func 40 [] [],.ptr ⟨h.next,32,0⟩,(l.length:Int),(i:Int),(j:Int),())∧(∀ x,x<i→cmpN (rat l x).id id<0)∧(∀ x,j≤x→x<l.length→¬cmpN (rat l x).id id<0)∧Old h1.next h1 g) ?_ ?_ l.length F _ _
  ⟨0,l.length,by omega,by omega,Nat.le_refl _,rfl,fun x hx=>by omega,fun x h1 h2=>by omega,Old.refl o1.wf _⟩ (by omega)
 ·rintro k s g n' ⟨i,j,hk,hij,hj,rfl,hlo,hhi,og⟩
  have Rg:=R1.old o1.wf og
  have Cg:=c1.old o1.wf og
  have ea:ldA 32 (.ptr ⟨h.next,32,0⟩) g=some (.agg (byteL id)):=Cg.ldA (by rw [byteL_len,hi])
  by_cases h':i<j
  ·have d1:decide ((i:Int)<(j:Int))=true:=dT (by omega)
   have i1:IntKind.wrap .i64 ((i:Int)+(j:Int))=((i+j:Nat):Int):=wi (by omega) (by omega)
   have i2:IntKind.wrap .i64 (((i+j) / 2:Nat):Int)=(((i+j) / 2:Nat):Int):=wi rfl (by omega)
   have hm:(i+j) / 2<l.length:=by omega
   obtain ⟨a,u1,u2⟩:=Rg.at (rat_get hm)
   have hk1:=Rg.2 _ (rat_mem hm)
   obtain ⟨g1,w1,w2⟩:=srch_word (F:=F) (m:=m) og.wf hk1 hi hi8
   have i3:IntKind.wrap .i64 ((((i+j) / 2:Nat):Int)+1)=(((i+j) / 2+1:Nat):Int):=wi (by omega) (by omega)
   by_cases hc:cmpN (rat l ((i+j) / 2)).id id<0
   ·refine .inl ⟨_,g1,?_,(i+j) / 2+1,j,by omega,by omega,hj,rfl,fun x hx=>?_,hhi,og.trans (w2.weak og.next)⟩
    ·simp -implicitDefEqProofs only [zbb.l3,zbb.c3,zbb.k3,zbb.r4,zbb.c4,zbb.k5,zbb.c6,d1,cond_true,wr,i1,u64_small (show i+j<18446744073709551616 by omega),half (show i+j<9223372036854775808 by omega),i2,u1,bV_some,ldA_of u2,bA_some,ea,w1,cI_some,dT hc,i3]
    ·by_cases e:x=(i+j) / 2
     ·rw [e];exact hc
     ·have hx2:Lt (rat l x) (rat l ((i+j) / 2)):=hs x _ (by omega) hm
      have t1:cmpN (rat l x).id (rat l ((i+j) / 2)).id<0:=hx2
      have t2:cmpN (rat l x).id id≤0:=cmpN_trans (b:=(rat l ((i+j) / 2)).id) (by omega) (by omega)
      rcases Int.lt_or_eq_of_le t2 with t3 | t3
      ·exact t3
      ·have:=cmpN_eq0 t3
       rw [← this] at hc
       have t4:=cmpN_anti (rat l ((i+j) / 2)).id (rat l x).id
       omega
   ·refine .inl ⟨_,g1,?_,i,(i+j) / 2,by omega,by omega,by omega,rfl,hlo,fun x hx1 hx2=>?_,og.trans (w2.weak og.next)⟩
    ·simp -implicitDefEqProofs only [zbb.l3,zbb.c3,zbb.k3,zbb.r4,zbb.c4,zbb.k5,zbb.c7,d1,cond_true,wr,i1,u64_small (show i+j<18446744073709551616 by omega),half (show i+j<9223372036854775808 by omega),i2,u1,bV_some,ldA_of u2,bA_some,ea,w1,cI_some,dF hc,cond_false]
    ·by_cases e:x=(i+j) / 2
     ·rw [e];exact hc
     ·have hx3:Lt (rat l ((i+j) / 2)) (rat l x):=hs _ x (by omega) hx2
      have t1:cmpN (rat l ((i+j) / 2)).id (rat l x).id<0:=hx3
      intro t2
      exact hc (by
       have t3:cmpN (rat l ((i+j) / 2)).id id≤0:=cmpN_trans (show cmpN (rat l ((i+j) / 2)).id (rat l x).id≤0 by omega) (by omega)
       rcases Int.lt_or_eq_of_le t3 with t4 | t4
       ·exact t4
       ·have:=cmpN_eq0 t4
        rw [← this] at t2
        have t5:=cmpN_anti (rat l ((i+j) / 2)).id (rat l x).id
        omega)
  ·obtain rfl:i=j:=by omega
   exact .inr (by
    have d1:decide ((i:Int)<(i:Int))=false:=dF (by omega)
    simp only [zbb.l3,zbb.c3,zbb.k3,zbb.r8,zbb.c8,d1,cond_false]
    by_cases hil:i<l.length
    ·have d2:decide ((i:Int)<(l.length:Int))=true:=dT (by omega)
     obtain ⟨a,u1,u2⟩:=Rg.at (rat_get hil)
     have hk1:=Rg.2 _ (rat_mem hil)
     obtain ⟨g1,w1,w2⟩:=srch_word (F:=F) (m:=m) og.wf hk1 hi hi8
     refine ⟨i,decide (cmpN (rat l i).id id=0),g1,?_,o1.trans ((og.trans (w2.weak og.next)).weak o1.next),fun hb=>⟨hil,cmpN_eq0 (of_decide_eq_true hb)⟩,fun hb x hx=>?_⟩
     ·have hbeq:(cmpN (rat l i).id id==0)=decide (cmpN (rat l i).id id=0):=by
       rw [Bool.eq_iff_iff,beq_iff_eq,decide_eq_true_eq]
      simp only [d2,cond_true,u1,bV_some,ldA_of u2,bA_some,ea,w1,cI_some,hbeq]
      rfl
     ·intro e
      have hb':¬cmpN (rat l i).id id=0:=of_decide_eq_false hb
      have ex:cmpN (rat l x).id id=0:=by rw [e,cmpN_self]
      rcases Nat.lt_trichotomy x i with h1 | h1 | h1
      ·have:=hlo x h1;omega
      ·rw [h1] at ex;exact hb' ex
      ·have t1:cmpN (rat l i).id (rat l x).id<0:=hs i x h1 hx
       have t2:=hhi i (Nat.le_refl _) hil
       rw [e] at t1
       omega
    ·have d2:decide ((i:Int)<(l.length:Int))=false:=dF (by omega)
     refine ⟨i,false,g,?_,o1.trans (og.weak o1.next),fun hb=>(by cases hb),fun _ x hx e=>?_⟩
     ·simp only [d2,cond_false]
      rfl
     ·have ex:cmpN (rat l x).id id=0:=by rw [e,cmpN_self]
      have:=hlo x (by omega)
      omega)
 ·rintro s g n' ⟨i,j,hk,hij,hj,rfl,hlo,hhi,og⟩
  obtain rfl:i=j:=by omega
  have Rg:=R1.old o1.wf og
  have Cg:=c1.old o1.wf og
  have ea:ldA 32 (.ptr ⟨h.next,32,0⟩) g=some (.agg (byteL id)):=Cg.ldA (by rw [byteL_len,hi])
  have d1:decide ((i:Int)<(i:Int))=false:=dF (by omega)
  simp only [zbb.l3,zbb.c3,zbb.k3,zbb.r8,zbb.c8,d1,cond_false]
  by_cases hil:i<l.length
  ·have d2:decide ((i:Int)<(l.length:Int))=true:=dT (by omega)
   obtain ⟨a,u1,u2⟩:=Rg.at (rat_get hil)
   have hk1:=Rg.2 _ (rat_mem hil)
   obtain ⟨g1,w1,w2⟩:=srch_word (F:=F) (m:=m) og.wf hk1 hi hi8
   refine ⟨i,decide (cmpN (rat l i).id id=0),g1,?_,o1.trans ((og.trans (w2.weak og.next)).weak o1.next),fun hb=>⟨hil,cmpN_eq0 (of_decide_eq_true hb)⟩,fun hb x hx=>?_⟩
   ·have hbeq:(cmpN (rat l i).id id==0)=decide (cmpN (rat l i).id id=0):=by
     rw [Bool.eq_iff_iff,beq_iff_eq,decide_eq_true_eq]
    simp only [d2,cond_true,u1,bV_some,ldA_of u2,bA_some,ea,w1,cI_some,hbeq]
    rfl
   ·intro e
    have hb':¬cmpN (rat l i).id id=0:=of_decide_eq_false hb
    have ex:cmpN (rat l x).id id=0:=by rw [e,cmpN_self]
    rcases Nat.lt_trichotomy x i with h1 | h1 | h1
    ·have:=hlo x h1;omega
    ·rw [h1] at ex;exact hb' ex
    ·have t1:cmpN (rat l i).id (rat l x).id<0:=hs i x h1 hx
     have t2:=hhi i (Nat.le_refl _) hil
     rw [e] at t1
     omega
  ·have d2:decide ((i:Int)<(l.length:Int))=false:=dF (by omega)
   refine ⟨i,false,g,?_,o1.trans (og.weak o1.next),fun hb=>(by cases hb),fun _ x hx e=>?_⟩
   ·simp only [d2,cond_false]
    rfl
   ·have ex:cmpN (rat l x).id id=0:=by rw [e,cmpN_self]
    have:=hlo x (by omega)
    omega
theorem zero_row:bld [] (List.replicate 32 (.int .u8 0)++[.int .u32 0]++[.int .u64 0])=some (.agg (rowL rz)):=rfl
theorem row_put{g:AH}{b e n0:Nat}{x y:Row}(hc:Cells g b e (rowL x))(hx:x.ok)(hy:y.ok)(hw:g.WF)(hn:n0≤b):∃ g',st 34 (.ptr ⟨b,34,0⟩) (.agg (rowL y)) g=some g'∧ldA 34 (.ptr ⟨b,34,0⟩) g'=some (.agg (rowL y))∧Old n0 g g':=by
 obtain ⟨g',p1,p2,p3⟩:=hc.put hw (n:=34) (vs:=rowL y) (rowL_len hx).symm (rowL_len hy) (rowL_cell y)
 exact ⟨g',p1,p2.ldA (rowL_len hy).symm,p3.old hn⟩
theorem fin2{a c:V}{o:Option V}(h:o=some a)(g:AH):finW [o,some c] g=some (.tuple [a,c],g):=by rw [h];rfl
theorem find_cps{F m:Nat}(hF:2000000<F){h:AH}(hw:h.WF)(hk:KT h){pv:V}{p:List Nat}(hp:Bs h pv p)(hlen:p.length≤1000000){id:List Nat}(hi:id.length=32)(hi8:∀ x∈id,x<256)
  {out:Res→Prop} (fin:∀ h',Old h.next h h'→out (some (.tuple [.agg (rowL (findR p id).1),.int .i64 (findR p id).2],h'))) :
  out (runC (EE F) (m+5) nzak [pv,.agg (byteL id)] h):=by
 rw [tzak]
 have hpos:=hk.pos hw
 obtain ⟨h1,e1,c1,n1,o1⟩:=box_cells hw (byteL id) T_api_Id (byteL_cell id)
 rw [byteL_len,hi] at e1
 obtain ⟨a1,a2,a3,a4⟩:=al_cells o1.wf zRow T_packidx_Row rfl (by simp)
 have a2':(al zRow T_packidx_Row h1).1=.ptr ⟨h1.next,34,0⟩:=a2
 generalize hh2:(al zRow T_packidx_Row h1).2=h2 at *
 have a1':Cells h2 h1.next T_packidx_Row (rowL rz):=a1
 have o12:Old h.next h h2:=o1.trans (a4.weak o1.next)
 have c2:=c1.old o1.wf a4
 have hn1:=o1.next
 have hn2:=a4.next
 simp only [zak.fn,zak.c0,e1,cV_some,a2',hh2,cxC]
 refine parse_cps (m:=m) (F:=F) (out:=fun x=>out (cV x fun x5 h6 =>
   bV (absExtract x5 0) h6 fun x7 h8 =>
   bA (absExtract x5 1) h8 fun x9 h10 =>
   bI .i64 (absExtract x5 2) h10 fun x11 h12 =>
   let x13:=(al (List.replicate 32 (.int .u8 0)) T_api_Id h12).1
   let h14:=(al (List.replicate 32 (.int .u8 0)) T_api_Id h12).2
   bS (st 32 x13 (.agg x9) h14) fun h15 =>
   zak.k1 (cx F (m+4)) zak.ret zak.ret (.ptr ⟨h.next,32,0⟩,.ptr ⟨h1.next,34,0⟩,x7,x11,()) h15)) hF o12.wf (hk.old hpos o12) (hp.old hw o12) hlen (fun w h3 w3 o3=>?_)
 obtain ⟨f1,f2,f3,f4⟩:=parseR_facts hp.2
 have o13:=o12.trans (o3.weak o12.next)
 obtain ⟨b1,b2,b3,b4⟩:=al_cells o3.wf (List.replicate 32 (.int .u8 0)) T_api_Id rfl (by simp)
 have b2':(al (List.replicate 32 (.int .u8 0)) T_api_Id h3).1=.ptr ⟨h3.next,32,0⟩:=b2
 generalize hh4:(al (List.replicate 32 (.int .u8 0)) T_api_Id h3).2=h4 at *
 obtain ⟨h5,s1,s2,s3⟩:=b1.put b4.wf (n:=32) (vs:=byteL (parseR p).2.1) rfl (by rw [byteL_len,f1]) (byteL_cell _)
 have o35:Old h3.next h3 h5:=b4.trans (s3.old (Nat.le_refl _))
 have hn3:=o3.next
 have o25:Old h2.next h2 h5:=o3.trans (o35.weak hn3)
 have o15:Old h.next h h5:=o12.trans (o25.weak (by omega))
 have Cz:=a1'.old a4.wf o25
 have Ci:=c2.old a4.wf o25
 have W5:=w3.old o3.wf o35
 have hn5:=o35.next
 simp -implicitDefEqProofs only [cV_some,et0,et1,et2,bV_some,bA_some,bI_some,b2',hh4,s1,bS_some,zak.k1,zak.c2,zak.k2]
 unfold findR at fin
 have bad:∀ (x:Int) (g:AH) (r:Row),r.ok→(∀ h',Old h.next h h'→out (some (.tuple [.agg (rowL r),.int .i64 x],h')))→Old h2.next h2 g →
   ∃ g',st 34 (.ptr ⟨h1.next,34,0⟩) (.agg (rowL r)) g=some g'∧out (zak.ret (.ptr ⟨h1.next,34,0⟩,.int .i64 x,()) g'):=by
  intro x g r hr hx og
  obtain ⟨g',p1,p2,p3⟩:=row_put (n0:=h.next) (a1'.old a4.wf og) rz_ok hr og.wf (by omega)
  refine ⟨g',p1,?_⟩
  simp only [zak.ret,fin2 p2]
  exact hx g' ((o12.trans (og.weak (by omega))).trans p3)
 by_cases he:(parseR p).2.2=0
 ·have e0:((parseR p).2.2 != 0)=false:=by rw [he];rfl
  rw [if_neg (fun hh=>hh he)] at fin
  have hst:=parseR_strict he
  have R5:Rs h5 w (parseR p).1:=⟨W5.sl,f3⟩
  have ea:ldA 32 (.ptr ⟨h.next,32,0⟩) h5=some (.agg (byteL id)):=Ci.ldA (by rw [byteL_len,hi])
  obtain ⟨i,b,h6,e6,o6,q1,q2⟩:=search_spec (F:=F) (m:=m) (by omega) o25.wf R5 f4 hst hi hi8
  have o26:=o25.trans (o6.weak o25.next)
  simp only [e0,cond_false,zak.r4,zak.c4,ea,bA_some,cxC,e6,cV_some,ex0,ex1,bI_some,bB_some,zak.k4,zak.c5,zak.k5]
  cases b with
  | false =>
   rw [find_none (q2 rfl)] at fin
   obtain ⟨g',p1,p2⟩:=bad 7 h6 rz rz_ok fin o26
   simp only [Bool.not_false,cond_true,zak.c6,zero_row,bA_some,p1,bS_some]
   exact p2
  | true =>
   obtain ⟨q3,q4⟩:=q1 rfl
   rw [find_at hst q3 q4] at fin
   have hro:=f3 _ (rat_mem q3)
   obtain ⟨a,u1,u2⟩:=(R5.old o25.wf o6).at (rat_get q3)
   obtain ⟨g',p1,p2⟩:=bad 0 h6 _ hro fin o26
   simp only [Bool.not_true,cond_false,zak.r7,zak.c7,u1,bV_some,ldA_of u2,bA_some,p1,bS_some]
   exact p2
 ·have e0:((parseR p).2.2 != 0)=true:=by rw [bne_iff_ne];exact he
  rw [if_pos he] at fin
  obtain ⟨g',p1,p2⟩:=bad _ h5 rz rz_ok fin o25
  simp only [e0,cond_true,zak.c3,zero_row,bA_some,p1,bS_some]
  exact p2
end Go.Proofs.YtcmhoboglapbdaaDoor
namespace Go.Proofs.YtcmhoboglapbdaaDoor
open Go Ev
theorem part_in{a b c:List Nat}{o w:Nat}(h:o+w≤b.length):part (a++(b++c)) (a.length+o) w=part b o w:=by
 unfold part
 rw [List.drop_append,List.drop_of_length_le (by omega),List.nil_append,Nat.add_sub_cancel_left,List.drop_append_of_le_length (by omega),List.take_append_of_le_length (by rw [List.length_drop];omega)]
theorem part_left{a b:List Nat}{o w:Nat}(h:o+w≤a.length):part (a++b) o w=part a o w:=by
 unfold part
 rw [List.drop_append_of_le_length (by omega),List.take_append_of_le_length (by rw [List.length_drop];omega)]
theorem part_all(b:List Nat):part b 0 b.length=b:=by unfold part;rw [List.drop_zero,List.take_length]
theorem part_whole{a b c:List Nat}{o w:Nat}(ho:o=a.length)(hw:w=b.length):part (a++(b++c)) o w=b:=by
 subst ho;subst hw
 have:=part_in (a:=a) (b:=b) (c:=c) (o:=0) (w:=b.length) (by omega)
 rw [Nat.add_zero,part_all] at this
 exact this
theorem cut_at{α:Type}{l:List α}{i:Nat}{x:α}(h:l[i]?=some x):l=l.take i++x :: l.drop (i+1):=by
 have hi:=(List.getElem?_eq_some_iff.1 h).1
 have hx:l[i]=x:=by have:=List.getElem?_eq_getElem hi;rw [h] at this;exact (Option.some.inj this).symm
 have:=List.take_append_drop i l
 rw [List.drop_eq_getElem_cons hi,hx] at this
 exact this.symm
theorem idsM_at{l:List Row}{i:Nat}{r:Row}(h:l[i]?=some r)(hok:∀ r∈l,r.ok):part (idsM l) (32*i) 32=r.id:=by
 have hi:=(List.getElem?_eq_some_iff.1 h).1
 have e:idsM l=idsM (l.take i)++(r.id++idsM (l.drop (i+1))):=by
  have:=congrArg idsM (cut_at h)
  rw [this];unfold idsM;rw [List.flatMap_append,List.flatMap_cons]
 rw [e]
 refine part_whole ?_ (hok _ (List.mem_of_getElem? h)).1.symm
 rw [idsM_len (fun r hr=>hok r (List.mem_of_mem_take hr)),List.length_take]
 congr 1;omega
theorem crcsM_at{l:List Row}{i:Nat}{r:Row}(h:l[i]?=some r):part (crcsM l) (4*i) 4=bigL r.crc 4:=by
 have hi:=(List.getElem?_eq_some_iff.1 h).1
 have e:crcsM l=crcsM (l.take i)++(bigL r.crc 4++crcsM (l.drop (i+1))):=by
  have:=congrArg crcsM (cut_at h)
  rw [this];unfold crcsM;rw [List.flatMap_append,List.flatMap_cons]
 rw [e]
 refine part_whole ?_ (bigL_len _ _).symm
 rw [crcsM_len,List.length_take]
 congr 1;omega
theorem atsM_append:∀ (a b:List (Row×Bool)) (k:Nat),atsM k (a++b)=atsM k a++atsM (k+nfar a) b:=by
 intro a
 induction a with
 | nil=>intro b k;rfl
 | cons x a ih =>
  intro b k
  rw [List.cons_append]
  have hn:nfar (x :: a)=nfar a+if x.2=true then 1 else 0:=List.countP_cons
  show (if x.2 then bigL (2147483648+k) 4++atsM (k+1) (a++b) else bigL x.1.pos 4++atsM k (a++b))=(if x.2 then bigL (2147483648+k) 4++atsM (k+1) a else bigL x.1.pos 4++atsM k a)++_
  by_cases hx:x.2=true
  ·rw [if_pos hx,if_pos hx,ih,hn,if_pos hx,List.append_assoc,show k+1+nfar a=k+(nfar a+1) by omega]
  ·rw [if_neg hx,if_neg hx,ih,hn,if_neg hx,List.append_assoc,Nat.add_zero]
theorem atsM_cons(k:Nat)(x:Row×Bool)(l:List (Row×Bool)):atsM k (x :: l)=(if x.2 then bigL (2147483648+k) 4 else bigL x.1.pos 4)++atsM (if x.2 then k+1 else k) l:=by
 show (if x.2 then _ else _)=_
 by_cases hx:x.2=true
 ·rw [if_pos hx,if_pos hx,if_pos hx]
 ·rw [if_neg hx,if_neg hx,if_neg hx]
theorem atsM_at{l:List (Row×Bool)}{i:Nat}{x:Row×Bool}(h:l[i]?=some x):part (atsM 0 l) (4*i) 4=if x.2 then bigL (2147483648+nfar (l.take i)) 4 else bigL x.1.pos 4:=by
 have hi:=(List.getElem?_eq_some_iff.1 h).1
 have e:=congrArg (atsM 0) (cut_at h)
 rw [atsM_append,atsM_cons,Nat.zero_add] at e
 rw [e]
 refine part_whole ?_ ?_
 ·rw [atsM_len,List.length_take];congr 1;omega
 ·split <;> rw [bigL_len]
theorem farsM_append(a b:List (Row×Bool)):farsM (a++b)=farsM a++farsM b:=List.flatMap_append ..
theorem farsM_at{l:List (Row×Bool)}{i:Nat}{x:Row×Bool}(h:l[i]?=some x)(hx:x.2=true):part (farsM l) (8*nfar (l.take i)) 8=bigL x.1.pos 8:=by
 have e:=congrArg farsM (cut_at h)
 rw [farsM_append,show farsM (x :: l.drop (i+1))=(if x.2 then bigL x.1.pos 8 else [])++farsM (l.drop (i+1)) from rfl,if_pos hx] at e
 rw [e]
 exact part_whole (farsM_len _).symm (bigL_len _ _).symm
theorem fansM_at(l:List Row){b:Nat}:∀ m,b<m→part (fansM l m) (4*b) 4=bigL (upto l b) 4:=by
 intro m
 induction m with
 | zero=>intro h;omega
 | succ m ih =>
  intro h
  rw [fansM_succ]
  by_cases e:b=m
  ·subst e
   have:=part_whole (a:=fansM l b) (b:=bigL (upto l b) 4) (c:=[]) (o:=4*b) (w:=4) (fansM_len _ _).symm (bigL_len _ _).symm
   rw [List.append_nil] at this
   exact this
  ·rw [part_left (by rw [fansM_len];omega)]
   exact ih (by omega)
theorem upto_mono(l:List Row){a b:Nat}(h:a≤b):upto l a≤upto l b:=by
 unfold upto
 refine List.countP_mono_left fun r _ hr=>?_
 rw [decide_eq_true_eq] at hr ⊢
 omega
theorem upto_all{l:List Row}(hok:∀ r∈l,r.ok):upto l 255=l.length:=by
 unfold upto
 rw [List.countP_eq_length]
 intro r hr
 have:=id0_lt (hok r hr)
 rw [decide_eq_true_eq];omega
theorem backF{m:List (Row×Bool)}{l:List Row}{pack:List Nat}(hl:m.map (·.1)=l)(hokf:∀ x∈m,x.1.ok)(hsh:∀ x∈m,x.2=false→x.1.pos<2147483648)(hs:StrictOn l)(hn:l.length≤4096)(h32:pack.length=32)(h8:∀ x∈pack,x<256):parseR (buildM m pack)=(l,pack,0):=by
 have hml:m.length=l.length:=by rw [← hl,List.length_map]
 have hok:∀ r∈l,r.ok:=by
  intro r hr
  rw [← hl] at hr
  obtain ⟨x,hx,rfl⟩:=List.mem_map.1 hr
  exact hokf x hx
 let fl:Nat→Bool:=fun i=>(m.getD i (rz,false)).2
 have hbl:=bodyM_len hokf h32
 rw [hml] at hbl
 have hp8:=buildM_byte hokf h8
 have hpl:(buildM m pack).length=1096+40*l.length+8*nfar m:=by
  unfold buildM;rw [List.length_append,hbl,sumM_len];omega
 have hnf:=nfar_le m
 rw [hml] at hnf
 have hp:buildM m pack=magicM++(fansM l 256++(idsM l++(crcsM l++(atsM 0 m++(farsM m++(pack++sumM (bodyM m pack))))))):=by
  unfold buildM
  conv=>lhs;arg 1;unfold bodyM headM
  rw [hl]
  simp only [List.append_assoc]
 have lm:magicM.length=8:=rfl
 have lf:(fansM l 256).length=1024:=fansM_len l 256
 have li:=idsM_len hok
 have lc:=crcsM_len l
 have la:(atsM 0 m).length=4*l.length:=by rw [atsM_len,hml]
 have lr:=farsM_len m
 have q1:∀ b,b<256→part (buildM m pack) (8+4*b) 4=bigL (upto l b) 4:=by
  intro b hb
  rw [hp,← fansM_at l 256 hb,← lm]
  exact part_in (by rw [lf];omega)
 have q2:∀ o w,o+w≤32*l.length→part (buildM m pack) (1032+o) w=part (idsM l) o w:=by
  intro o w hh
  rw [hp,← List.append_assoc,show 1032+o=(magicM++fansM l 256).length+o by rw [List.length_append,lm,lf]]
  exact part_in (by rw [li];omega)
 have q3:∀ o w,o+w≤4*l.length→part (buildM m pack) (1032+32*l.length+o) w=part (crcsM l) o w:=by
  intro o w hh
  rw [hp,← List.append_assoc,← List.append_assoc,show 1032+32*l.length+o=((magicM++fansM l 256)++idsM l).length+o by rw [List.length_append,List.length_append,lm,lf,li]]
  exact part_in (by rw [lc];omega)
 have q4:∀ o w,o+w≤4*l.length→part (buildM m pack) (1032+36*l.length+o) w=part (atsM 0 m) o w:=by
  intro o w hh
  rw [hp,← List.append_assoc,← List.append_assoc,← List.append_assoc,show 1032+36*l.length+o=(((magicM++fansM l 256)++idsM l)++crcsM l).length+o by rw [List.length_append,List.length_append,List.length_append,lm,lf,li,lc];omega]
  exact part_in (by rw [la];omega)
 have q5:∀ o w,o+w≤8*nfar m→part (buildM m pack) (1032+40*l.length+o) w=part (farsM m) o w:=by
  intro o w hh
  rw [hp,← List.append_assoc,← List.append_assoc,← List.append_assoc,← List.append_assoc,show 1032+40*l.length+o=((((magicM++fansM l 256)++idsM l)++crcsM l)++atsM 0 m).length+o by rw [List.length_append,List.length_append,List.length_append,List.length_append,lm,lf,li,lc,la];omega]
  exact part_in (by rw [lr];omega)
 have q6:part (buildM m pack) ((buildM m pack).length-64) 32=pack:=by
  rw [hpl,show 1096+40*l.length+8*nfar m-64=1032+40*l.length+8*nfar m by omega]
  rw [hp,← List.append_assoc,← List.append_assoc,← List.append_assoc,← List.append_assoc,← List.append_assoc]
  exact part_whole (by rw [List.length_append,List.length_append,List.length_append,List.length_append,List.length_append,lm,lf,li,lc,la,lr];omega) h32.symm
 have q7:(buildM m pack).take 8=magicM:=by rw [hp,List.take_left' lm]
 have q8:sumM ((buildM m pack).take ((buildM m pack).length-32))=(buildM m pack).drop ((buildM m pack).length-32):=by
  rw [hpl,show 1096+40*l.length+8*nfar m-32=(bodyM m pack).length by rw [hbl];omega]
  unfold buildM
  rw [List.take_left' rfl,List.drop_left' rfl]
 generalize buildM m pack=p at *
 have p4:256 ^ 4=4294967296:=by decide
 have p8:256 ^ 8=18446744073709551616:=by decide
 have hfan:∀ b,b<256→fanV p b=upto l b:=by
  intro b hb
  have hu:=upto_le l b
  unfold fanV g4
  rw [q1 b hb,bigN_bigL 4 _ (by rw [p4];omega)]
 have hlast:lastN p=l.length:=by
  unfold lastN;rw [hfan 255 (by omega),upto_all hok]
 have hup:fanUp p 256=true:=by
  unfold fanUp
  rw [List.all_eq_true]
  intro i hi
  have hi':=List.mem_range.1 hi
  rw [decide_eq_true_eq]
  unfold fanPrev
  by_cases h0:i=0
  ·rw [if_pos h0];exact Nat.zero_le _
  ·rw [if_neg h0,hfan _ (by omega),hfan _ (by omega)]
   exact upto_mono l (by omega)
 have fl_get:∀ i,i<l.length→m[i]?=some (rat l i,fl i):=by
  intro i hi
  have h1:m[i]?=some m[i]:=List.getElem?_eq_getElem (by omega)
  have h2:(m.map (·.1))[i]?=some m[i].1:=by rw [List.getElem?_map,h1];rfl
  rw [hl] at h2
  have h3:=rat_get hi
  rw [h2] at h3
  rw [h1,← Option.some.inj h3]
  show some m[i]=some (m[i].1,(m.getD i (rz,false)).2)
  rw [List.getD_eq_getElem?_getD,h1];rfl
 have fl_short:∀ i,i<l.length→¬fl i=true→(rat l i).pos<2147483648:=by
  intro i hi hf
  exact hsh _ (List.mem_of_getElem? (fl_get i hi)) (by simpa using hf)
 have hat:∀ i,i<l.length→atV p l.length i=if fl i=true then 2147483648+nfar (m.take i) else (rat l i).pos:=by
  intro i hi
  have hk:nfar (m.take i)≤i:=by
   have:=nfar_le (m.take i)
   rw [List.length_take] at this
   omega
  unfold atV g4
  rw [q4 (4*i) 4 (by omega),atsM_at (fl_get i hi)]
  by_cases hf:fl i=true
  ·rw [if_pos hf,if_pos hf,bigN_bigL 4 _ (by rw [p4];omega)]
  ·have hpos:=fl_short i hi hf
   rw [if_neg hf,if_neg hf]
   exact bigN_bigL 4 _ (by rw [p4];show (rat l i).pos<4294967296;omega)
 have hfar:∀ i,i<l.length→farF p l.length i=fl i:=by
  intro i hi
  unfold farF
  rw [hat i hi]
  by_cases hf:fl i=true
  ·rw [if_pos hf,hf];exact dT (by omega)
  ·have hf':fl i=false:=by simpa using hf
   have hpos:=fl_short i hi hf
   rw [if_neg hf,hf']
   exact dF (by omega)
 have hkP:∀ i,i≤l.length→kP p l.length i=nfar (m.take i):=by
  intro i
  induction i with
  | zero=>intro _;rfl
  | succ i ih =>
   intro h
   rw [kP_succ,ih (by omega),hfar i (by omega),← take_snoc (fl_get i (by omega)),nfar_snoc]
 have hkn:kP p l.length l.length=nfar m:=by
  rw [hkP _ (Nat.le_refl _),List.take_of_length_le (by rw [hml];omega)]
 have hrow:∀ i,i<l.length→rowP p l.length i=rat l i:=by
  intro i hi
  have hr:=hok _ (rat_mem hi)
  have e1:idV p i=(rat l i).id:=by
   unfold idV
   rw [q2 (32*i) 32 (by omega),idsM_at (rat_get hi) hok]
  have e2:crcV p l.length i=(rat l i).crc:=by
   unfold crcV g4
   have hcr:=hr.2.2.1
   rw [q3 (4*i) 4 (by omega),crcsM_at (rat_get hi),bigN_bigL 4 _ (by rw [p4];exact hcr)]
  have e3:(if farF p l.length i=true then farV p l.length i else atV p l.length i)=(rat l i).pos:=by
   by_cases hf:fl i=true
   ·rw [hfar i hi,if_pos hf]
    unfold farV
    have hpo:=hr.2.2.2
    have h1:nfar (m.take (i+1))≤nfar m:=by
     rw [← hkn,← hkP (i+1) (by omega)];exact kP_mono p _ (by omega)
    rw [← take_snoc (fl_get i hi),nfar_snoc,if_pos (show ((rat l i,fl i):Row×Bool).2=true from hf)] at h1
    rw [hkP i (by omega),q5 _ 8 (by omega),farsM_at (fl_get i hi) hf,bigN_bigL 8 _ (by rw [p8];exact hpo)]
   ·rw [hfar i hi,if_neg hf,hat i hi,if_neg hf]
  unfold rowP
  rw [e1,e2,e3]
 have hrows:rowsP p l.length=l:=by
  apply List.ext_getElem?
  intro i
  by_cases hi:i<l.length
  ·rw [rowsP_get hi,hrow i hi,rat_get hi]
  ·rw [List.getElem?_eq_none (by rw [rowsP_len];omega),List.getElem?_eq_none (by omega)]
 have hsz:szM p=(l.length,nfar m,0):=by
  unfold szM
  rw [hlast,hkn,hup,hpl,if_neg (by omega),if_neg (fun hh=>hh q7),if_neg (by decide),if_neg (by omega),if_neg (by omega),if_neg (by omega),if_neg (by omega)]
 have hrd:readOK p (szM p).1:=by
  rw [hsz]
  refine ⟨fun i hi hf=>?_,fun i h0 hi=>?_,fun b hb=>?_⟩
  ·rw [hat i hi,if_pos (by rw [← hfar i hi];exact hf),hkP i (by omega)]
  ·rw [hrow _ (by omega),hrow _ hi];exact hs _ _ (by omega) hi
  ·show fanV p b=upto (rowsP p l.length) b
   rw [hrows,hfan b hb]
 rw [parseR_g (by rw [hsz];exact fun h=>h rfl) q8 hrd,hsz,q6]
 show (rowsP p l.length,pack,(0:Int))=_
 rw [hrows]
theorem back{l:List Row}{pack:List Nat}(hok:∀ r∈l,r.ok)(hs:StrictOn l)(hn:l.length≤4096)(h32:pack.length=32)(h8:∀ x∈pack,x<256):parseR (buildM (flags l) pack)=(l,pack,0) :=
 backF (flags_fst l) (flags_ok hok) (fun x hx hf=>by
  obtain ⟨r,hr,rfl⟩:=List.mem_map.1 hx
  have:¬2147483648≤r.pos:=of_decide_eq_false hf
  show r.pos<2147483648
  omega) hs hn h32 h8
end Go.Proofs.YtcmhoboglapbdaaDoor
namespace Go.Proofs.YtcmhoboglapbdaaDoor
open Go Ev
theorem parse_spec{F m:Nat}(hF:2000000<F){h:AH}(hw:h.WF)(hk:KT h){pv:V}{p:List Nat}(hp:Bs h pv p)(hlen:p.length≤1000000) :
  ∃ w h',runC (EE F) (m+4) nzam [pv] h=some (.tuple [w,.agg (byteL (parseR p).2.1),.int .i64 (parseR p).2.2],h')∧OwnR h.next T_packidx_Row h' w (parseR p).1∧Old h.next h h' :=
 parse_cps (out:=fun x=>∃ w h',x=some (.tuple [w,.agg (byteL (parseR p).2.1),.int .i64 (parseR p).2.2],h')∧OwnR h.next T_packidx_Row h' w (parseR p).1∧Old h.next h h') hF hw hk hp hlen (fun w h' a b=>⟨w,h',rfl,a,b⟩)
theorem find_spec{F m:Nat}(hF:2000000<F){h:AH}(hw:h.WF)(hk:KT h){pv:V}{p:List Nat}(hp:Bs h pv p)(hlen:p.length≤1000000){id:List Nat}(hi:id.length=32)(hi8:∀ x∈id,x<256) :
  ∃ h',runC (EE F) (m+5) nzak [pv,.agg (byteL id)] h=some (.tuple [.agg (rowL (findR p id).1),.int .i64 (findR p id).2],h')∧Old h.next h h' :=
 find_cps (out:=fun x=>∃ h',x=some (.tuple [.agg (rowL (findR p id).1),.int .i64 (findR p id).2],h')∧Old h.next h h') hF hw hk hp hlen hi hi8 (fun h' a=>⟨h',rfl,a⟩)
theorem Build_spec{F m:Nat}(hF:2000000<F){h:AH}(hw:h.WF)(hk:KT h){p:V}{l:List Row}(hp:Rs h p l)(hl:l.length≤200∨4096<l.length)(hlen:l.length≤2932031007317){pack:List Nat}(h32:pack.length=32)(h8:∀ x∈pack,x<256) :
  ∃ v h',runC (EE F) (m+210) nzaj [p,.agg (byteL pack)] h=some (.tuple [v,.int .i64 (buildE l)],h')∧Own h.next 1 T_uint8 h' v (buildB l pack).length (byteL (buildB l pack))∧Old h.next h h' :=
 build_spec (d:=m+203) (N:=200) (by omega) (sort_ok (m:=m) (by omega)) (by omega) hw hk hp hl hlen h32 h8
theorem buildB_byte{l:List Row}(hok:∀ r∈l,r.ok){pack:List Nat}(h8:∀ x∈pack,x<256):∀ x∈buildB l pack,x<256:=by
 unfold buildB
 split
 ·intro x hx;cases hx
 ·split
  ·intro x hx;cases hx
  ·exact buildM_byte (flags_ok (sortM_ok hok)) h8
theorem buildB_len{l:List Row}(hok:∀ r∈l,r.ok){pack:List Nat}(h32:pack.length=32):(buildB l pack).length≤400000:=by
 unfold buildB
 split
 ·simp
 ·split
  ·simp
  ·have h1:=bodyM_len (flags_ok (sortM_ok hok)) h32
   have h2:=nfar_le (flags (sortM l))
   rw [flags_len,sortM_len] at h1 h2
   unfold buildM
   rw [List.length_append,h1,sumM_len];omega
theorem strict_on{l:List Row}(h:StrictS l):StrictOn l:=by
 intro i j hij hj
 have:=List.pairwise_iff_getElem.1 h i j (by omega) hj hij
 rw [rat_getElem (show i<l.length by omega),rat_getElem hj] at this
 exact this
theorem build_back{l:List Row}(hok:∀ r∈l,r.ok)(he:buildE l=0){pack:List Nat}(h32:pack.length=32)(h8:∀ x∈pack,x<256):parseR (buildB l pack)=(sortM l,pack,0)∧StrictOn (sortM l):=by
 unfold buildE at he
 unfold buildB
 by_cases h1:4096<l.length
 ·rw [if_pos h1] at he;cases he
 ·rw [if_neg h1] at he ⊢
  by_cases h2:twiceM (sortM l)=true
  ·rw [if_pos h2] at he;cases he
  ·rw [if_neg h2]
   have hst:=strict_on (strict_of (sortM_both l).2 (by simpa using h2))
   exact ⟨back (sortM_ok hok) hst (by rw [sortM_len];omega) h32 h8,hst⟩
abbrev idA(n:Nat):List Nat:=n :: List.replicate 31 0
def rowA:Row:=⟨idA 2,0,7⟩
def rowB:Row:=⟨idA 1,9,2147483648⟩
theorem idA_byte{n:Nat}(h:n<256):∀ x∈idA n,x<256:=by
 intro x hx
 rcases List.mem_cons.1 hx with rfl | hx
 ·exact h
 ·rw [List.eq_of_mem_replicate hx];omega
theorem rowA_ok:rowA.ok:=⟨rfl,idA_byte (by omega),by decide,by decide⟩
theorem rowB_ok:rowB.ok:=⟨rfl,idA_byte (by omega),by decide,by decide⟩
theorem bld_A:bld [(0,32,(.agg (byteL (idA 2)))),(33,1,(.int .u64 7))] (List.replicate 32 (.int .u8 0)++[.int .u32 0]++[.int .u64 0])=some (.agg (rowL rowA)):=rfl
theorem bld_B:bld [(0,32,(.agg (byteL (idA 1)))),(33,1,(.int .u64 2147483648)),(32,1,(.int .u32 9))] (List.replicate 32 (.int .u8 0)++[.int .u32 0]++[.int .u64 0])=some (.agg (rowL rowB)):=rfl
theorem two_rows{h:AH}(hw:h.WF){a b:Row}(ha:a.ok)(hb:b.ok)(e:Nat):∃ v h',bsl 34 2 [(0,34,(.agg (rowL a))),(34,34,(.agg (rowL b)))] (List.replicate 32 (.int .u8 0)++[.int .u32 0]++[.int .u64 0]) e h=some (v,h')∧OwnR h.next e h' v [a,b]∧Old h.next h h':=by
 have la:=rowL_len ha
 have lb:=rowL_len hb
 have hz:(List.replicate 2 zRow).flatten.length=68:=rfl
 refine bsl_own hw (z:=34) (n:=2) (cs:=rowsL [a,b]) ?_ (by rw [rowsL_len (by intro r hr;simp only [List.mem_cons,List.not_mem_nil,or_false] at hr;rcases hr with rfl | rfl;exact ha;exact hb)];rfl) (rowsL_cell _)
 have e1:putL (rowL a) 0 (List.replicate 2 zRow).flatten=rowL a++zRow:=by
  unfold putL
  rw [List.take_zero,List.nil_append,Nat.zero_add,la]
  congr 1
 have e2:putL (rowL b) 34 (rowL a++zRow)=rowL a++rowL b:=by
  unfold putL
  rw [List.take_left' la,List.drop_append,List.drop_of_length_le (by omega),lb,la]
  simp
 unfold fillW
 rw [if_pos ⟨rfl,la,by rw [hz];omega⟩]
 unfold fillW
 rw [if_pos ⟨rfl,lb,by show 34+34≤(putL (rowL a) 0 _).length;rw [e1,List.length_append,la];simp⟩]
 show fillW [] (putL (rowL b) 34 (putL (rowL a) 0 _))=_
 rw [e1,e2]
 show some _=some _
 rw [rowsL_cons,rowsL_one]
theorem sortAB:sortM [rowA,rowB]=[rowB,rowA]:=by kernel_rfl
theorem twiceBA:twiceM [rowB,rowA]=false:=by kernel_rfl
theorem buildE_AB:buildE [rowA,rowB]=0:=by
 unfold buildE
 rw [sortAB,twiceBA]
 rfl
theorem buildB_AB_len{pack:List Nat}(h32:pack.length=32):(buildB [rowA,rowB] pack).length=1184:=by
 unfold buildB
 rw [sortAB,twiceBA]
 show (buildM (flags [rowB,rowA]) pack).length=1184
 have hok:∀ x∈flags [rowB,rowA],x.1.ok:=flags_ok (by
  intro r hr
  simp only [List.mem_cons,List.not_mem_nil,or_false] at hr
  rcases hr with rfl | rfl
  ·exact rowB_ok
  ·exact rowA_ok)
 unfold buildM
 rw [List.length_append,bodyM_len hok h32,sumM_len]
 have e:nfar (flags [rowB,rowA])=1:=by kernel_rfl
 rw [e]
 rfl
theorem awake10_spec{F m:Nat}(hF:2000000<F){h:AH}(hw:h.WF)(hk:KT h):∃ h',runC (EE F) (m+211) nzae [] h=some (.bool true,h')∧Old h.next h h':=by
 rw [tzae]
 have hpos:=hk.pos hw
 have hokAB:∀ r∈[rowA,rowB],r.ok:=by
  intro r hr
  simp only [List.mem_cons,List.not_mem_nil,or_false] at hr
  rcases hr with rfl | rfl
  ·exact rowA_ok
  ·exact rowB_ok
 obtain ⟨v1,h1,e1,w1,o1⟩:=two_rows hw rowA_ok rowB_ok T_packidx_Row
 have hid:∀ n,(idA n).length=32:=fun n=>rfl
 obtain ⟨v2,h2,e2,w2,o2⟩:=Build_spec (F:=F) (m:=m) hF o1.wf (hk.old hpos o1) (p:=v1) (l:=[rowA,rowB]) ⟨w1.sl,hokAB⟩ (.inl (by simp)) (by simp) (pack:=idA 5) (hid 5) (idA_byte (by omega))
 have o12:=o1.trans (o2.weak o1.next)
 have hb8:=buildB_byte hokAB (idA_byte (show 5<256 by omega))
 have hbl:=buildB_len hokAB (hid 5)
 have hb1184:=buildB_AB_len (hid 5)
 obtain ⟨hpr,hst⟩:=build_back hokAB buildE_AB (hid 5) (idA_byte (show 5<256 by omega))
 rw [buildE_AB] at e2
 rw [sortAB] at hpr
 generalize buildB [rowA,rowB] (idA 5)=P at *
 have hfr:findR P (idA 1)=(rowB,0):=by
  unfold findR
  rw [hpr]
  rfl
 have b2:=w2.bs hb8
 obtain ⟨h3,e3,o3⟩:=find_spec (F:=F) (m:=m+205) hF o2.wf (hk.old hpos o12) b2 (by omega) (hid 1) (idA_byte (show 1<256 by omega))
 rw [hfr] at e3
 have o13:=o12.trans (o3.weak o12.next)
 obtain ⟨h4,t1,t2,t3,t4,t5⟩:=tmp_row o3.wf rowB_ok T_packidx_Row
 have o14:=o13.trans (t4.weak o13.next)
 have b4:=(b2.old o2.wf o3).old o3.wf t4
 obtain ⟨w5,h5,e5,y5,o5⟩:=parse_spec (F:=F) (m:=m+206) hF t4.wf (hk.old hpos o14) b4 (by omega)
 rw [hpr] at e5 y5
 obtain ⟨c1,c2,c3,c4⟩:=al_cells o5.wf (List.replicate 32 (.int .u8 0)) T_api_Id rfl (by simp)
 have c2':(al (List.replicate 32 (.int .u8 0)) T_api_Id h5).1=.ptr ⟨h5.next,32,0⟩:=c2
 generalize hh6:(al (List.replicate 32 (.int .u8 0)) T_api_Id h5).2=h6 at *
 obtain ⟨h7,p1,p2,p3⟩:=c1.put c4.wf (n:=32) (vs:=byteL (idA 5)) rfl rfl (byteL_cell _)
 have o57:Old h5.next h5 h7:=c4.trans (p3.old (Nat.le_refl _))
 have o47:Old h4.next h4 h7:=o5.trans (o57.weak o5.next)
 have t7:=t3.old t4.wf o47
 have b7:=b4.old t4.wf o47
 have hokBA:∀ r∈[rowB,rowA],r.ok:=by
  intro r hr
  simp only [List.mem_cons,List.not_mem_nil,or_false] at hr
  rcases hr with rfl | rfl
  ·exact rowB_ok
  ·exact rowA_ok
 have R7:Rs h7 w5 [rowB,rowA]:=⟨(y5.old o5.wf o57).sl,hokBA⟩
 obtain ⟨a,u1,u2⟩:=R7.at (i:=0) (r:=rowB) rfl
 have u1':ixS 34 w5 0=some (.ptr a):=u1
 have ep:ldA 32 (.ptr ⟨h5.next,32,0⟩) h7=some (.agg (byteL (idA 5))):=p2.ldA rfl
 have q1:((0:Int)==0)=true:=rfl
 have q2:(((rowB.pos:Nat):Int)==2147483648)=true:=rfl
 have q3:(((rowB.crc:Nat):Int)==9)=true:=rfl
 have q4:(((P.length:Nat):Int)==1184)=true:=by rw [hb1184];rfl
 have q5:((([rowB,rowA].length:Nat):Int)==2)=true:=rfl
 have eq1:eqW PP false T_api_Id (.agg (byteL rowB.id)) (.agg (byteL (idA 1)))=some (.bool true):=by rw [eqId rowB_ok.1 rfl];rfl
 have eq5:eqW PP false T_api_Id (.agg (byteL (idA 5))) (.agg (byteL (idA 5)))=some (.bool true):=by rw [eqId rfl rfl,dT rfl]
 have k2:bld [(0,1,(.int .u8 2))] (List.replicate 32 (.int .u8 0))=some (.agg (byteL (idA 2))):=rfl
 have k1:bld [(0,1,(.int .u8 1))] (List.replicate 32 (.int .u8 0))=some (.agg (byteL (idA 1))):=rfl
 have k5:bld [(0,1,(.int .u8 5))] (List.replicate 32 (.int .u8 0))=some (.agg (byteL (idA 5))):=rfl
 refine ⟨h7,?_,o14.trans (o47.weak o14.next)⟩
 simp -implicitDefEqProofs only [zae.fn,zae.c0,k2,k1,k5,bA_some,bld_A,bld_B,e1,cV_some,cxC,e2,ex0,ex1,bV_some,bI_some,e3,t1,t2,bS_some,e5,et0,et1,et2,c2',hh6,p1,q1,cond_true,fA_ptr,row_pos t7 rowB_ok,row_crc t7 rowB_ok,q2,q3,b7.1.len,q4,R7.1.len,q5,u1',fA_at,rid_of u2 rowB_ok,eq1,bB_some,ep,eq5,zae.ret]
 rfl
end Go.Proofs.YtcmhoboglapbdaaDoor
namespace Go.Proofs.YtcmhoboglapbdaaDoor
open Go Ev
def rowC:Row:=⟨idA 1,0,5⟩
def rowD:Row:=⟨idA 2,0,1099511627776⟩
theorem rowC_ok:rowC.ok:=⟨rfl,idA_byte (by omega),by decide,by decide⟩
theorem rowD_ok:rowD.ok:=⟨rfl,idA_byte (by omega),by decide,by decide⟩
theorem two_ok{a b:Row}(ha:a.ok)(hb:b.ok):∀ r∈[a,b],r.ok:=by
 intro r hr
 simp only [List.mem_cons,List.not_mem_nil,or_false] at hr
 rcases hr with rfl | rfl
 ·exact ha
 ·exact hb
theorem bld_C:bld [(0,32,(.agg (byteL (idA 1)))),(33,1,(.int .u64 5))] (List.replicate 32 (.int .u8 0)++[.int .u32 0]++[.int .u64 0])=some (.agg (rowL rowC)):=rfl
theorem bld_D:bld [(0,32,(.agg (byteL (idA 2)))),(33,1,(.int .u64 1099511627776))] (List.replicate 32 (.int .u8 0)++[.int .u32 0]++[.int .u64 0])=some (.agg (rowL rowD)):=rfl
theorem buildE_nil:buildE []=0:=rfl
theorem sort_rz:sortM [rz,rz]=[rz,rz]:=by kernel_rfl
theorem buildE_rz:buildE [rz,rz]=8:=by
 unfold buildE
 rw [sort_rz]
 rfl
theorem buildE_many:buildE (List.replicate 4097 rz)=2:=by
 unfold buildE
 rw [if_pos (by rw [List.length_replicate];omega)]
theorem parseR_nil:parseR []=([],z32,5):=parseR_e (p:=[]) (by
 have:szM []=(0,0,5):=rfl
 rw [this];decide)
theorem body_nil(pack:List Nat):bodyM [] pack=headM []++pack:=by
 unfold bodyM
 show headM []++[]++[]++[]++([]++pack)=_
 simp
theorem build_nil(pack:List Nat):buildB [] pack=headM []++(pack++sumM (bodyM [] pack)):=by
 have h1:buildB [] pack=bodyM [] pack++sumM (bodyM [] pack):=rfl
 have h2:bodyM [] pack=headM []++pack:=by
  unfold bodyM
  show headM []++[]++[]++[]++([]++pack)=_
  simp
 rw [h1]
 conv=>lhs;arg 1;rw [h2]
 rw [List.append_assoc]
theorem head_part(P:List Nat){a n:Nat}(h:a+n≤1032):part (headM []++P) a n=part (headM []) a n:=part_left (by rw [headM_len];exact h)
theorem head20_part(P:List Nat){a n:Nat}(h:a+n≤1032):part ((headM []).set 20 1++P) a n=part ((headM []).set 20 1) a n:=part_left (by rw [List.length_set,headM_len];exact h)
theorem piece_a:part ((headM []).set 20 1) 0 8=magicM:=by kernel_rfl
theorem piece_b:bigN (part ((headM []).set 20 1) (8+4*3) 4)=16777216:=by kernel_rfl
theorem piece_c:bigN (part ((headM []).set 20 1) (8+4*4) 4)=0:=by kernel_rfl
theorem piece_d:part (headM []) 0 8=magicM:=by kernel_rfl
theorem piece_e:((headM []).set 20 0)=headM []:=by kernel_rfl
theorem cmp12:cmpN (idA 1) (idA 2)=-1:=by kernel_rfl
theorem falls(P:List Nat)(hP:P.length=64):(szM ((headM []).set 20 1++P)).2.2=4:=by
 have hl:((headM []).set 20 1++P).length=1096:=by rw [List.length_append,List.length_set,headM_len,hP]
 have h8:((headM []).set 20 1++P).take 8=magicM:=by
  have:((headM []).set 20 1++P).take 8=part ((headM []).set 20 1++P) 0 8:=by unfold part;rw [List.drop_zero]
  rw [this,head20_part P (by omega),piece_a]
 have f3:fanV ((headM []).set 20 1++P) 3=16777216:=by
  unfold fanV g4
  rw [head20_part P (by omega),piece_b]
 have f4:fanV ((headM []).set 20 1++P) 4=0:=by
  unfold fanV g4
  rw [head20_part P (by omega),piece_c]
 have hf:fanUp ((headM []).set 20 1++P) 256=false:=by
  refine fanUp_fail (n:=5) ?_ (by omega)
  rw [fanUp_succ]
  have:fanPrev ((headM []).set 20 1++P) 4=16777216:=f3
  rw [this,f4]
  simp
 unfold szM
 rw [hl,if_neg (by omega),if_neg (fun hh=>hh h8),if_pos hf]
theorem stands(P:List Nat)(hP:P.length=64):szM (headM []++P)=(0,0,0):=by
 have hl:(headM []++P).length=1096:=by rw [List.length_append,headM_len,hP]
 have h8:(headM []++P).take 8=magicM:=by
  have:(headM []++P).take 8=part (headM []++P) 0 8:=by unfold part;rw [List.drop_zero]
  rw [this,head_part P (by omega),piece_d]
 have hz:∀ b,b<256→fanV (headM []++P) b=0:=by
  intro b hb
  unfold fanV g4
  rw [head_part P (by omega)]
  have e:headM []=magicM++fansM [] 256:=rfl
  have e2:=part_in (a:=magicM) (b:=fansM [] 256) (c:=[]) (o:=4*b) (w:=4) (by rw [fansM_len];omega)
  rw [List.append_nil] at e2
  rw [e,show 8+4*b=magicM.length+4*b from rfl,e2,fansM_at [] 256 hb]
  have hu0:upto [] b=0:=rfl
  rw [hu0];rfl
 have hf:fanUp (headM []++P) 256=true:=by
  unfold fanUp
  rw [List.all_eq_true]
  intro i hi
  have hi':=List.mem_range.1 hi
  rw [decide_eq_true_eq]
  unfold fanPrev
  by_cases h0:i=0
  ·rw [if_pos h0];exact Nat.zero_le _
  ·rw [if_neg h0,hz _ (by omega)];exact Nat.zero_le _
 have hla:lastN (headM []++P)=0:=hz 255 (by omega)
 have hk:kP (headM []++P) 0 0=0:=rfl
 unfold szM
 rw [hl,hla,hk,if_neg (by omega),if_neg (fun hh=>hh h8),hf,if_neg (by decide),if_neg (by omega),if_neg (by omega),if_neg (by omega),if_neg (by omega)]
theorem spoilt{pack s:List Nat}(h32:pack.length=32)(hs:s.length=32)(hsum:sumM (headM []++pack)=s){x:Nat}(hx:x≠s.getD 31 0):parseR (headM []++(pack++s.set 31 x))=([],z32,6):=by
 have hz:=stands (pack++s.set 31 x) (by rw [List.length_append,List.length_set,h32,hs])
 refine parseR_s (by rw [hz];exact fun h=>h rfl) ?_
 have hl:(headM []++(pack++s.set 31 x)).length-32=(headM []++pack).length:=by
  simp only [List.length_append,List.length_set,headM_len,h32,hs]
 rw [hl,← List.append_assoc,List.take_left' rfl,List.drop_left' rfl,hsum]
 intro e
 have h1:=congrArg (fun l=>l.getD 31 0) e
 simp only [List.getD_eq_getElem?_getD] at h1 hx
 rw [List.getElem?_set_self (by omega)] at h1
 exact hx h1.symm
theorem set_in{a b:List Nat}(i x:Nat)(h:i<a.length):(a++b).set i x=a.set i x++b:=List.set_append_left _ _ h
theorem set_back(P:List Nat):((headM []++P).set 20 1).set 20 0=headM []++P:=by
 rw [List.set_set,set_in _ _ (by rw [headM_len];omega),piece_e]
theorem two_bools{h:AH}(hw:h.WF):∃ v h',bsl 1 2 [(0,1,(.bool true)),(1,1,(.bool true))] [.bool false] T_bool h=some (v,h')∧Own h.next 1 T_bool h' v 2 (boolL [true,true])∧Old h.next h h':=bsl_own hw (cs:=boolL [true,true]) rfl rfl rfl
theorem strictCD:StrictOn [rowC,rowD]:=by
 refine strictOn_of fun i h0 hi=>?_
 have:i=1:=by simp only [List.length_cons,List.length_nil] at hi;omega
 subst this
 have h:cmpN (idA 1) (idA 2)<0:=by rw [cmp12];decide
 exact h
theorem back_CD:parseR (buildM [(rowC,true),(rowD,true)] z32)=([rowC,rowD],z32,0) :=
 backF rfl (by
  intro x hx
  simp only [List.mem_cons,List.not_mem_nil,or_false] at hx
  rcases hx with rfl | rfl
  ·exact rowC_ok
  ·exact rowD_ok) (by
  intro x hx hf
  simp only [List.mem_cons,List.not_mem_nil,or_false] at hx
  rcases hx with rfl | rfl <;> cases hf) strictCD (by simp) rfl z32_byte
theorem docBytes_spec{F d:Nat}{h:AH}(hw:h.WF){v w:V}{l:List (Row×Bool)}(hF:50*l.length+100000<F)(hr:Rs h v (l.map (·.1)))(hb:Sl 1 h w l.length (boolL (l.map (·.2))))(hlen:l.length≤100000){pack:List Nat}(h32:pack.length=32)(h8:∀ x∈pack,x<256) :
  ∃ v' h',runC (EE F) (d+3) nzaw [v,w,.agg (byteL pack)] h=some (v',h')∧Own h.next 1 T_uint8 h' v' (buildM l pack).length (byteL (buildM l pack))∧Old h.next h h' :=
 docBytes_cps (out:=fun x=>∃ v' h',x=some (v',h')∧Own h.next 1 T_uint8 h' v' (buildM l pack).length (byteL (buildM l pack))∧Old h.next h h') hw hF hr hb hlen h32 h8 (fun v' h' a b=>⟨v',h',rfl,a,b⟩)
theorem id_tmp{h:AH}(hw:h.WF){l:List Nat}(hl:l.length=32):∃ h',(al (List.replicate 32 (.int .u8 0)) T_api_Id h).1=.ptr ⟨h.next,32,0⟩∧st 32 (.ptr ⟨h.next,32,0⟩) (.agg (byteL l)) (al (List.replicate 32 (.int .u8 0)) T_api_Id h).2=some h'∧ldA 32 (.ptr ⟨h.next,32,0⟩) h'=some (.agg (byteL l))∧Cells h' h.next T_api_Id (byteL l)∧Old h.next h h':=by
 obtain ⟨c1,c2,c3,c4⟩:=al_cells hw (List.replicate 32 (.int .u8 0)) T_api_Id rfl (by simp)
 obtain ⟨h',p1,p2,p3⟩:=c1.put c4.wf (n:=32) (vs:=byteL l) rfl (by rw [byteL_len,hl]) (byteL_cell _)
 exact ⟨h',c2,p1,p2.ldA (by rw [byteL_len,hl]),p2,c4.trans (p3.old (Nat.le_refl _))⟩
theorem fixed_spec{F m:Nat}(hF:2000000<F){h:AH}(hw:h.WF)(hk:KT h):∃ h',runC (EE F) (m+212) nzad [] h=some (.bool true,h'):=by
 rw [tzad]
 have hpos:=hk.pos hw
 have hid:∀ n,(idA n).length=32:=fun n=>rfl
 obtain ⟨h1,e1,o1⟩:=awake10_spec (F:=F) (m:=m) hF hw hk
 obtain ⟨v2,h2,e2,w2,o2⟩:=Build_spec (F:=F) (m:=m+1) hF o1.wf (hk.old hpos o1) (p:=.nilslice) (l:=[]) ⟨(own_nil 0 34 0 h1).sl,fun r hr=>by cases hr⟩ (.inl (by simp)) (by simp) (pack:=idA 7) (hid 7) (idA_byte (by omega))
 have o12:=o1.trans (o2.weak o1.next)
 obtain ⟨v3,h3,e3,w3,o3⟩:=two_rows o2.wf rz_ok rz_ok T_packidx_Row
 have o13:=o12.trans (o3.weak o12.next)
 obtain ⟨v4,h4,e4,w4,o4⟩:=Build_spec (F:=F) (m:=m+1) hF o3.wf (hk.old hpos o13) (p:=v3) (l:=[rz,rz]) ⟨w3.sl,two_ok rz_ok rz_ok⟩ (.inl (by simp)) (by simp) (pack:=z32) rfl z32_byte
 have o14:=o13.trans (o4.weak o13.next)
 obtain ⟨v5,h5,e5,w5,o5⟩:=mk_rows o4.wf (n:=4097) (by omega)
 have o15:=o14.trans (o5.weak o14.next)
 have hlr:(List.replicate 4097 rz).length=4097:=List.length_replicate
 obtain ⟨v6,h6,e6,w6,o6⟩:=Build_spec (F:=F) (m:=m+1) hF o5.wf (hk.old hpos o15) (p:=v5) (l:=List.replicate 4097 rz) w5.rs (.inr (by rw [hlr];omega)) (by rw [hlr];omega) (pack:=z32) rfl z32_byte
 have o16:=o15.trans (o6.weak o15.next)
 obtain ⟨v7,h7,e7,w7,o7⟩:=parse_spec (F:=F) (m:=m+207) hF o6.wf (hk.old hpos o16) (pv:=.nilslice) (p:=[]) ⟨(own_nil 0 1 0 h6).sl,fun x hx=>by cases hx⟩ (by simp)
 have o17:=o16.trans (o7.weak o16.next)
 rw [parseR_nil] at e7
 obtain ⟨h8,t1,t2,_,_,o8⟩:=id_tmp o7.wf (l:=z32) rfl
 have o18:=o17.trans (o8.weak o17.next)
 rw [buildE_nil] at e2
 rw [buildE_rz] at e4
 rw [buildE_many] at e6
 rw [build_nil] at w2
 have hsl:(sumM (bodyM [] (idA 7))).length=32:=sumM_len _
 have hsum:sumM (headM []++idA 7)=sumM (bodyM [] (idA 7)):=congrArg sumM (body_nil (idA 7)).symm
 have hs8:=sumM_byte (bodyM [] (idA 7))
 generalize sumM (bodyM [] (idA 7))=s at *
 have hPl:(headM []++(idA 7++s)).length=1096:=by rw [List.length_append,headM_len,List.length_append,hid,hsl]
 have hP8:∀ x∈headM []++(idA 7++s),x<256:=app_byte (headM_byte []) (app_byte (idA_byte (by omega)) hs8)
 have o28:Old h2.next h2 h8:=(((((o3.trans (o4.weak o3.next)).trans (o5.weak (Nat.le_trans o3.next o4.next))).trans (o6.weak (Nat.le_trans (Nat.le_trans o3.next o4.next) o5.next))).trans (o7.weak (Nat.le_trans (Nat.le_trans (Nat.le_trans o3.next o4.next) o5.next) o6.next))).trans (o8.weak (Nat.le_trans (Nat.le_trans (Nat.le_trans (Nat.le_trans o3.next o4.next) o5.next) o6.next) o7.next)))
 have w8:=w2.old o2.wf o28
 obtain ⟨a1,g1,x1,x2,x3,x4,_⟩:=w8.setB o8.wf (i:=20) (by omega) (by rw [hPl];omega) 1
 have d1:Old h1.next h8 g1:=x4
 have hk8:KT h8:=hk.old hpos o18
 have hn18:=o1.next
 have hp8:=hk8.pos o8.wf
 have hpos1:0<h1.next:=by omega
 have kg1:KT g1:=hk8.old hpos1 d1
 have i20:Int.toNat 20=20:=rfl
 rw [i20] at x3
 have hq20:(headM []++(idA 7++s)).set 20 1=(headM []).set 20 1++(idA 7++s):=set_in _ _ (by rw [headM_len];omega)
 have hb20:∀ x∈(headM []++(idA 7++s)).set 20 1,x<256:=by
  intro x hx
  rcases List.mem_or_eq_of_mem_set hx with hx | rfl
  ·exact hP8 x hx
  ·omega
 obtain ⟨v9,g2,y1,y2,y3⟩:=parse_spec (F:=F) (m:=m+207) hF x4.wf kg1 (x3.bs hb20) (by rw [List.length_set,hPl];omega)
 have hf:=falls (idA 7++s) (by rw [List.length_append,hid,hsl])
 have hpf:parseR ((headM []++(idA 7++s)).set 20 1)=([],z32,4):=by rw [hq20,parseR_e (by rw [hf];decide),hf]
 rw [hpf] at y1
 have x5:=x3.old x4.wf y3
 obtain ⟨a2,g3,z1,z2,z3,z4,_⟩:=x5.setB y3.wf (i:=20) (by omega) (by rw [List.length_set,hPl];omega) 0
 rw [i20,set_back] at z3
 obtain rfl:=ptr_eq x1 z1
 have dg3:Old h1.next h8 g3:=(d1.trans (y3.weak (by have:=o18.next;have:=d1.next;have:=o28.next;have:=o2.next;omega))).trans z4
 have jl:IntKind.wrap .i64 (((headM []++(idA 7++s)).length:Int)-1)=((1095:Nat):Int):=by rw [hPl];rfl
 obtain ⟨a3,q1,q2⟩:=(z3.bs hP8).ld (i:=((1095:Nat):Int)) (by omega) (by rw [hPl];omega)
 rw [Int.toNat_natCast] at q2
 have hlast:(headM []++(idA 7++s)).getD 1095 0=s.getD 31 0:=by
  rw [List.getD_eq_getElem?_getD,List.getD_eq_getElem?_getD,List.getElem?_append_right (by rw [headM_len];omega),headM_len,List.getElem?_append_right (by rw [hid];omega),hid]
 rw [hlast] at q2
 have hx8:s.getD 31 0<256:=at_lt hs8 31
 have jw:IntKind.wrap .u8 (((s.getD 31 0:Nat):Int)+1)=(((s.getD 31 0+1) % 256:Nat):Int):=by rw [wr_u8];omega
 obtain ⟨a4,g4',p1,p2,p3,p4,_⟩:=z3.setB z4.wf (i:=((1095:Nat):Int)) (by omega) (by rw [hPl];omega) ((s.getD 31 0+1) % 256)
 obtain rfl:=ptr_eq q1 p1
 rw [Int.toNat_natCast] at p3
 have dg4:=dg3.trans p4
 have hset:(headM []++(idA 7++s)).set 1095 ((s.getD 31 0+1) % 256)=headM []++(idA 7++s.set 31 ((s.getD 31 0+1) % 256)):=by
  rw [List.set_append_right _ _ (by rw [headM_len];omega),headM_len,List.set_append_right _ _ (by rw [hid];omega),hid]
 have hb95:∀ x∈(headM []++(idA 7++s)).set 1095 ((s.getD 31 0+1) % 256),x<256:=by
  intro x hx
  rcases List.mem_or_eq_of_mem_set hx with hx | rfl
  ·exact hP8 x hx
  ·exact Nat.mod_lt _ (by omega)
 obtain ⟨v10,g5,y4,y5,y6⟩:=parse_spec (F:=F) (m:=m+207) hF p4.wf (hk8.old hpos1 dg4) (p3.bs hb95) (by rw [List.length_set,hPl];omega)
 have hps:parseR ((headM []++(idA 7++s)).set 1095 ((s.getD 31 0+1) % 256))=([],z32,6):=by
  rw [hset]
  exact spoilt (hid 7) hsl hsum (by omega)
 rw [hps] at y4
 have hg5:Old h1.next h8 g5:=dg4.trans (y6.weak (by have:=dg4.next;have:=o28.next;have:=o2.next;omega))
 obtain ⟨v11,g6,c1,c2,c3⟩:=two_rows y6.wf rowC_ok rowD_ok T_codicilref10_Row
 obtain ⟨v12,g7,c4,c5,c6⟩:=two_bools c3.wf
 have R7:Rs g7 v11 [rowC,rowD]:=⟨(c2.old c3.wf c6).sl,two_ok rowC_ok rowD_ok⟩
 obtain ⟨v13,g8,c7,c8,c9⟩:=docBytes_spec (F:=F) (d:=m+208) (l:=[(rowC,true),(rowD,true)]) c6.wf (by simp only [List.length_cons,List.length_nil];omega) R7 c5.sl (by simp) (pack:=z32) rfl z32_byte
 have hQ8:∀ x∈buildM [(rowC,true),(rowD,true)] z32,x<256:=buildM_byte (by
  intro x hx
  simp only [List.mem_cons,List.not_mem_nil,or_false] at hx
  rcases hx with rfl | rfl
  ·exact rowC_ok
  ·exact rowD_ok) z32_byte
 have hQl:(buildM [(rowC,true),(rowD,true)] z32).length≤1000000:=by
  unfold buildM
  rw [List.length_append,sumM_len,bodyM_len (by
   intro x hx
   simp only [List.mem_cons,List.not_mem_nil,or_false] at hx
   rcases hx with rfl | rfl
   ·exact rowC_ok
   ·exact rowD_ok) rfl]
  have e:nfar [(rowC,true),(rowD,true)]=2:=by kernel_rfl
  rw [e]
  simp
 have og5:Old h1.next h8 g5:=hg5
 have n5:h1.next≤g5.next:=by have:=hg5.next;have:=o28.next;have:=o2.next;omega
 have og8:Old g5.next g5 g8:=(c3.trans (c6.weak c3.next)).trans (c9.weak (Nat.le_trans c3.next c6.next))
 have og18:Old h1.next h8 g8:=hg5.trans (og8.weak n5)
 obtain ⟨v14,g9,c10,c11,c12⟩:=parse_spec (F:=F) (m:=m+207) hF c9.wf (hk8.old hpos1 og18) (c8.bs hQ8) hQl
 rw [back_CD] at c10 c11
 obtain ⟨g10,t3,t4,_,_,c13⟩:=id_tmp c12.wf (l:=z32) rfl
 have R10:Rs g10 v14 [rowC,rowD]:=⟨(c11.old c12.wf c13).sl,two_ok rowC_ok rowD_ok⟩
 obtain ⟨v15,g11,c14,c15,c16⟩:=of_spec (F:=F) (n:=m+210) c13.wf R10 (by simp) (by simp;omega)
 have og7_11:Old g7.next g7 g11:=((c9.trans (c12.weak c9.next)).trans (c13.weak (Nat.le_trans c9.next c12.next))).trans (c16.weak (Nat.le_trans (Nat.le_trans c9.next c12.next) c13.next))
 have e16:=same10_spec (F:=F) (n:=m+210) (h:=g11) (p:=v15) (q:=v11) (l:=[rowC,rowD]) (m:=[rowC,rowD]) ⟨c15.sl,two_ok rowC_ok rowD_ok⟩ (R7.old c6.wf og7_11) (by simp) (by simp;omega)
 have k7:bld [(0,1,(.int .u8 7))] (List.replicate 32 (.int .u8 0))=some (.agg (byteL (idA 7))):=rfl
 have k1:bld [(0,1,(.int .u8 1))] (List.replicate 32 (.int .u8 0))=some (.agg (byteL (idA 1))):=rfl
 have k2:bld [(0,1,(.int .u8 2))] (List.replicate 32 (.int .u8 0))=some (.agg (byteL (idA 2))):=rfl
 have m4097:(4097:Int)=((4097:Nat):Int):=rfl
 refine ⟨g11,?_⟩
 have r1:((0:Int) != 0)=false:=rfl
 have r2:(((headM []++(idA 7++s)).length:Int) != 1096)=false:=by rw [hPl];rfl
 have r3:((8:Int) != 8)=false:=rfl
 have r4:((2:Int) != 2)=false:=rfl
 have r5:((5:Int) != 5)=false:=rfl
 have r6:((4:Int)==4)=true:=rfl
 have r7:((6:Int)==6)=true:=rfl
 have r8:((0:Int)==0)=true:=rfl
 have e5':mkS 34 48 (List.replicate 32 (.int .u8 0)++[.int .u32 0]++[.int .u64 0]) T_packidx_Row 4097 4097 h4=some (v5,h5):=e5
 have p2':st 1 (.ptr a3) (.int .u8 (((s.getD 31 0+1) % 256:Nat):Int)) g3=some g4':=p2
 have x2':st 1 (.ptr a1) (.int .u8 1) h8=some g1:=x2
 have z2':st 1 (.ptr a1) (.int .u8 0) g2=some g3:=z2
 simp -implicitDefEqProofs only [zad.fn,zad.c0,zad.k0,zad.c1,zad.k1,cxC,e1,cB_some,Bool.not_true,cond_false,zad.r3,zad.c3,k7,bA_some,e2,cV_some,ex0,ex1,bV_some,bI_some,zero_row,e3,zero_id,e4,e5',e6,e7,et0,et1,et2,t1,t2,bS_some,
  zad.k6,zad.c7,r1,w8.sl.len,r2,r3,r4,r5,zad.k7,zad.r9,zad.c9,x1,x2',y1,z1,z2',z3.sl.len,wr,jl,q1,q2,jw,p2',y4,k1,bld_C,k2,bld_D,c1,c4,c7,c10,t3,t4,r6,cond_true,r7,r8,c14,e16,decide_true,zad.ret]
 rfl
end Go.Proofs.YtcmhoboglapbdaaDoor
namespace Go.Proofs.YtcmhoboglapbdaaDoor
open Go Go.ChangeShapes Go.WideShapes Go.ChangeAt Go.RowKit Ev
theorem GG_tab(l:List Tab)(pl:Nat→Spot)(e:Nat)(h:tabOf l 0=some ⟨0,kTab.map (V.int .u32),e⟩)(hp:pl 0=⟨0,0,64⟩)(g L:Nat)(hg:GG g=some L):∃ t,tabOf l g=some t∧t.vs.length=L∧(pl g).cb=g∧(pl g).off=0:=by
 cases g with
 | zero=>cases hg;exact ⟨_,h,rfl,by rw [hp],by rw [hp]⟩
 | succ g=>cases hg
theorem walk_flat{W:World}(hL:Lib.TabIs Tryd.prog W "codicil/sha.k" .u32 kTab){f:FuncId}{args:List V}{vs:List Value}(hR:∀ ρ,RL ρ args vs)
  (hrun:∀ h:AH,h.WF→KT h→∃ F n h',runC (EE F) n f args h=some (.bool true,h')):Calls Tryd.prog f vs.toArray W fun e w=>e=.returned (.bool true)∧Same W w:=by
 obtain ⟨e,he⟩:=tab_fits hL gK
 have hm:∀ t∈([⟨0,kTab.map (V.int .u32),e⟩]:List Tab),t.g<1:=by intro t ht;simp only [List.mem_singleton] at ht;subst ht;exact Nat.one_pos
 obtain ⟨F,n,h',hr⟩:=hrun _ (tabs_wf hm) (tab_read (n:=1) (l:=[⟨0,kTab.map (V.int .u32),e⟩]) (g:=0) rfl rfl)
 refine (tab_calls (EE_ok F) (n:=n) (f:=f) (l:=[⟨0,kTab.map (V.int .u32),e⟩]) (pl:=fun _=>⟨0,0,64⟩) (m:=1) (W:=W) (args:=args) (args':=vs) hm (by intro t ht;simp only [List.mem_singleton] at ht;subst ht;exact he) (GG_tab _ _ e rfl rfl) (hR _) hr).mono ?_
 rintro x w ⟨u,ρ',rfl,q1,_,_,q2⟩
 exact ⟨by rw [show u=.bool true from q1],q2⟩
end Go.Proofs.YtcmhoboglapbdaaDoor
namespace Go.Proofs.YtcmhoboglapbdaaDoor.packidxFixed
open Go Go.ChangeShapes Go.WideShapes Go.ChangeAt Go.RowKit Ev
set_option maxRecDepth 100000 in
theorem contract(H:Type)(enc:TypeId×Value→H)(W:World)(base:Nat)(args:Array Value)(ds gs:List (DataW H))(before:List MemPlace)
  (hval:∀ (j:Nat) t v,Tryd.f6.params[j]?=some t→args[j]?=some v→Value.okWide Tryd.prog W .any base t v)
  (hW:DataW.Whole enc Tryd.prog Tryd.f6.params.toList Rows.packidxFixedSpec.vars false W args.toList ds gs before) (hL:laidMetH Tryd.prog Rows.packidxFixedRow.laid W) :
  Calls Tryd.prog 6 args W fun e W'=>∃ v,e=.returned v∧Rows.packidxFixedSpec.post enc Tryd.prog Tryd.f6 false true false false W args v W':=by
 have hW':=hW
 obtain ⟨p,q,hA0,hV,rfl,hfz,hnd⟩:=hW
 have hA:DataW.TrodAll enc Tryd.prog W 0 (fun _=>true) true Tryd.f6.params.toList args.toList ds p:=hA0
 rw [Tryd.params6] at hA
 obtain ⟨hargs,rfl,rfl⟩:=trodAll_nil hA
 obtain rfl:args=#[]:=by cases args;simp_all
 obtain ⟨rfl,rfl⟩:=trodVars_none hV
 have walk:=walk_flat (f:=6) (args:=[]) (vs:=[]) (table rfl hL) (fun ρ=>rfl) (fun h hw hk=>by
  obtain ⟨h',hr⟩:=fixed_spec (F:=2000001) (m:=0) (by omega) hw hk
  exact ⟨_,_,h',hr⟩)
 refine walk.mono fun e W' ⟨he,hst⟩=>?_
 subst he
 exact ⟨_,rfl,post_stays (pa:=[]) (pv:=[]) hW' (fun _ _ _=>trodAll_cons_mk (shut_bool Tryd.underlying4 _) trodAll_mk0) (fun _ _=>trodAll_mk0) (fun _ _=>rfl) rfl hst.stays (ok_one (by kernel_rfl) rfl (okWide_bool_mk Tryd.underlying4 _))⟩
theorem laid_met(os:Os):laidMet Tryd.prog Rows.packidxFixedRow.laid ((laidWorld os).forCall (fun _ _=>0) ⟨#[],#[],[]⟩).memory :=
 laidMet_of_run' 70 (by kernel_rfl) (by kernel_rfl)
theorem reads(os:Os){H:Type}(enc:TypeId×Value→H):∃ places,DataW.whole enc Tryd.prog ((laidWorld os).forCall (fun _ _=>0) ⟨#[],#[],[]⟩).memory Tryd.f6.params.toList Rows.packidxFixedSpec.vars false (#[]:Array Value).toList 8=some ([],[],places) :=
 ⟨[],by kernel_rfl⟩
set_option maxRecDepth 100000 in
theorem lifted(os:Os)(started:os.Started)(H:Type)(enc:TypeId×Value→H)(F:Stop.Interp) :
  ReturnsInHanded {} Tryd.checked os 6 .any ((OpenSpec.ofChange Rows.packidxFixedSpec).preRow enc Tryd.prog Tryd.f6 Rows.packidxFixedRow.domain false Rows.packidxFixedRow.laid) (((OpenSpec.ofChange Rows.packidxFixedSpec).at F).post enc Tryd.prog Tryd.f6 false true false false):=by
 obtain ⟨places,hx⟩:=reads os enc
 refine returnsInHanded_of_row (C:=Tryd.checked) (s:=OpenSpec.ofChange Rows.packidxFixedSpec) own started (by kernel_rfl) Tryd.func6
  (witness_row_at (enc:=enc) (C:=Tryd.checked) false (laidWorld os) #[] rfl (by kernel_rfl) (by kernel_rfl) (by kernel_rfl)
   (OpenSpec.preRow_of_cond 8 hx (by kernel_rfl) (fun k hk=>by cases hk) (by kernel_rfl) (laid_met os))) ?_
 intro W base args ds gs before hval hW _ _ _ hL _ _
 exact contract H enc W base args ds gs before hval hW hL
theorem said:Rows.PackidxFixedSaid :=
 OpenClaim.holds_of_cond 6 Tryd.f6 rfl rfl rfl rfl rfl rfl rfl ⟨rfl,rfl,rfl,rfl,rfl⟩ rfl rfl rfl rfl rfl (by kernel_rfl) Tryd.func6 (by kernel_rfl)
  (of_decide_eq_true (by kernel_rfl)) (by unfold Func.isWrapper;first | (rw [if_pos (by decide +kernel)];kernel_rfl) | (rw [if_neg (by decide +kernel)];exact ⟨rfl,rfl⟩))
  (fun os started H enc _ F=>by rw [OpenClaim.pre_eq_preRow];exact lifted os started H enc F)
theorem plain(f:FuncId)(fn:Func)(hf:Tryd.pinned.checked.prog.funcNamed "codicil/codicillaw10.PackidxFixed"=some f)(hfn:Tryd.pinned.checked.prog.funcs[f]?=some fn) :
  false=Tryd.pinned.checked.prog.looks []∧∀ (j:Nat) t,fn.params[j]?=some t→Tryd.pinned.checked.prog.wantsStandIn t=false:=by
 obtain rfl:f=6:=Option.some.inj ((show Tryd.prog.funcNamed "codicil/codicillaw10.PackidxFixed"=some 6 by kernel_rfl).symm.trans hf) |>.symm
 obtain rfl:fn=Tryd.f6:=(Option.some.inj (Tryd.func6.symm.trans hfn)).symm
 refine ⟨by kernel_rfl,fun j t ht=>?_⟩
 rw [Tryd.params6] at ht
 simp at ht
theorem card:Rows.PackidxFixedCardSaid :=
 Claim7.holds_tied_plain_at .later [] _ _ _ _ said (fun _ h=>by cases h) (by kernel_rfl) (fun _ h=>by cases h) packidxFixed_row_tie rfl ⟨rfl,rfl⟩ (by kernel_rfl) rfl plain (by kernel_rfl)
end Go.Proofs.YtcmhoboglapbdaaDoor.packidxFixed
