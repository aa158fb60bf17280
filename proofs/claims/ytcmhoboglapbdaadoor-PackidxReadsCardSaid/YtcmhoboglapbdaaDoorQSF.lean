/-
  The row and the card of PackidxReads: for any bytes the call comes back true (any bytes are read as the rows that the document describes), and all that was there reads as it did. No condition.
-/
import Derived.Test.YtcmhoboglapbdaaDoorQSE
set_option linter.unusedVariables false
set_option linter.unusedSimpArgs false
namespace Go.Proofs.YtcmhoboglapbdaaDoor
open Go Ev
def g4(p:List Nat)(a:Nat):Nat:=bigN (part p a 4)
def fanV(p:List Nat)(i:Nat):Nat:=g4 p (8+4*i)
def jco(p:List Nat)(i:Nat):Nat:=if i=0 then 0 else fanV p (i-1)
def fanUp(p:List Nat)(n:Nat):Bool:=(List.range n).all fun i=>decide (jco p i≤fanV p i)
def jbp(p:List Nat):Nat:=fanV p 255
def atV(p:List Nat)(n i:Nat):Nat:=g4 p (1032+36*n+4*i)
def farF(p:List Nat)(n i:Nat):Bool:=decide (2147483648≤atV p n i)
def kP(p:List Nat)(n i:Nat):Nat:=(List.range i).countP (farF p n)
def szM(p:List Nat):Nat×Nat×Int :=
 if p.length<1096 then (0,0,5) else if ¬p.take 8=jbd then (0,0,4) else if fanUp p 256=false then (0,0,4) else if 4096<jbp p then (0,0,10)
 else if p.length<1096+40*jbp p then (0,0,5) else if p.length<1096+40*jbp p+8*kP p (jbp p) (jbp p) then (0,0,5) else if 1096+40*jbp p+8*kP p (jbp p) (jbp p)<p.length then (0,0,4)
 else (jbp p,kP p (jbp p) (jbp p),0)
theorem fanUp_succ(p:List Nat)(n:Nat):fanUp p (n+1)=(fanUp p n && decide (jco p n≤fanV p n)):=by
 unfold fanUp;rw [List.range_succ,List.all_append];simp
theorem fanUp_fail{p:List Nat}{n m:Nat}(h:fanUp p n=false)(hm:n≤m):fanUp p m=false:=by
 induction m with
 | zero =>
  obtain rfl:n=0:=by omega
  exact h
 | succ m ih =>
  by_cases e:n=m+1
  ·rw [← e];exact h
  ·rw [fanUp_succ,ih (by omega)];rfl
theorem kP_succ(p:List Nat)(n i:Nat):kP p n (i+1)=kP p n i+if farF p n i=true then 1 else 0:=by
 unfold kP;rw [List.range_succ,List.countP_append];simp [List.countP_cons]
theorem kP_le(p:List Nat)(n i:Nat):kP p n i≤i:=by
 have:=List.countP_le_length (p:=farF p n) (l:=List.range i)
 rw [List.length_range] at this
 exact this
theorem kP_mono(p:List Nat)(n:Nat){i j:Nat}(h:i≤j):kP p n i≤kP p n j:=by
 induction j with
 | zero =>
  obtain rfl:i=0:=by omega
  exact Nat.le_refl _
 | succ j ih =>
  by_cases e:i=j+1
  ·rw [e];exact Nat.le_refl _
  ·rw [kP_succ];have:=ih (by omega);omega
theorem jcl{p:List Nat}{a n:Nat}(h:a+n≤p.length):(part p a n).length=n:=by unfold part;rw [List.length_take,List.length_drop];omega
theorem g4_lt{p:List Nat}(hp:∀ x∈p,x<256)(a:Nat):g4 p a<4294967296:=by
 unfold g4
 have h1:=bigN_lt _ (part_byte hp a 4)
 have h2:(part p a 4).length≤4:=by unfold part;rw [List.length_take];omega
 have h3:=pow256_le h2
 have h4:256 ^ 4=4294967296:=by decide
 omega
theorem g4_high{p:List Nat}(hp:∀ x∈p,x<256){a:Nat}(ha:a+4≤p.length):(2147483648≤g4 p a)↔128≤p.getD a 0:=by
 have b0:=at_lt hp a
 have b1:=at_lt hp (a+1)
 have b2:=at_lt hp (a+2)
 have b3:=at_lt hp (a+3)
 have s1:part p a 1=part p a 0++[p.getD (a+0) 0]:=(part_snoc (l:=p) (a:=a) (i:=0) (by omega)).symm
 have s2:part p a 2=part p a 1++[p.getD (a+1) 0]:=(part_snoc (l:=p) (a:=a) (i:=1) (by omega)).symm
 have s3:part p a 3=part p a 2++[p.getD (a+2) 0]:=(part_snoc (l:=p) (a:=a) (i:=2) (by omega)).symm
 have s4:part p a 4=part p a 3++[p.getD (a+3) 0]:=(part_snoc (l:=p) (a:=a) (i:=3) (by omega)).symm
 unfold g4
 rw [s4,bigN_snoc,s3,bigN_snoc,s2,bigN_snoc,s1,bigN_snoc]
 have z:bigN (part p a 0)=0:=rfl
 rw [z,Nat.add_zero]
 omega
theorem four_cell{F n:Nat}(hF:40<F){h:AH}(hw:h.WF){p:V}{l:List Nat}(hp:Bs h p l)(hlen:l.length≤140737488355328){a:Nat}(ha:a+4≤l.length) :
  ∃ h',runC (EE F) (n+2) nzar [.agg [p],.int .i64 (a:Int)] h=some (.int .u64 ((g4 l a:Nat):Int),h')∧Old h.next h h':=four_spec hF hw hp hlen ha
structure Rd (g:AH) (b e:Nat) (pv:V) (p:List Nat):Prop where
 cell:jal g b e [pv]
 bs:Bs g pv p
theorem Rd.old{g g':AH}{b e:Nat}{pv:V}{p:List Nat}(R:Rd g b e pv p)(hw:g.WF)(o:Old g.next g g'):Rd g' b e pv p:=⟨R.cell.old hw o,R.bs.old hw o⟩
theorem Rd.ld{g:AH}{b e:Nat}{pv:V}{p:List Nat}(R:Rd g b e pv p):ld (.ptr ⟨b,1,0+0⟩) g=some pv:=cell_ld R.cell
theorem Rd.ldA{g:AH}{b e:Nat}{pv:V}{p:List Nat}(R:Rd g b e pv p):Ev.ldA 1 (.ptr ⟨b,1,0⟩) g=some (.agg [pv]):=R.cell.ldA rfl
theorem cnt_fan{F m:Nat}(hF:300<F){out:Res→Prop}{Jn:V×Int×Unit→AH→Res}{Jr:V×V×V×Unit→AH→Res}{h:AH}{b e:Nat}{pv:V}{p:List Nat}(hw:h.WF)(R:Rd h b e pv p)(hl:1096≤p.length)(hlen:p.length≤1000000)
  (bad:fanUp p 256=false→∀ h',Old h.next h h'→out (Jr (.int .i64 0,.int .i64 0,.int .i64 4,()) h'))
  (fin:fanUp p 256=true→∀ h',Old h.next h h'→out (Jn (.ptr ⟨b,1,0⟩,((jbp p:Nat):Int),()) h')) :
  out (zaq.k6 (cx F (m+2)) Jn Jr (.ptr ⟨b,1,0⟩,0,0,()) h):=by
 show out (jaw zaq.P14 F (fun t h n'=>zaq.l7 (cx F (m+2)) n' Jn Jr t h) (.ptr ⟨b,1,0⟩,0,0,()) h)
 refine jah (S:=zaq.P14) (out:=out)
  (fun k s g=>∃ i:Nat,i+k=256∧s=(.ptr ⟨b,1,0⟩,((jco p i:Nat):Int),(i:Int),())∧fanUp p i=true∧Old h.next h g) ?_ ?_ 256 F _ _ ⟨0,rfl,rfl,rfl,Old.refl hw _⟩ (by omega)
 ·rintro k s g n' ⟨i,hi,rfl,hu,og⟩
  have Rg:=R.old hw og
  have i1:IntKind.wrap .i64 (4*(i:Int))=((4*i:Nat):Int):=wi (by omega) (by omega)
  have i2:IntKind.wrap .i64 (8+((4*i:Nat):Int))=((8+4*i:Nat):Int):=wi (by omega) (by omega)
  have i3:IntKind.wrap .i64 ((i:Int)+1)=((i+1:Nat):Int):=wi (by omega) (by omega)
  obtain ⟨g1,e1,o1⟩:=four_cell (F:=F) (n:=m) (by omega) og.wf Rg.bs (by omega) (a:=8+4*i) (by omega)
  have og1:=og.trans (o1.weak og.next)
  have c1:decide ((i:Int)<256)=true:=dT (by omega)
  have hs:=fanUp_succ p i
  rw [hu,Bool.true_and] at hs
  have hnext:jco p (i+1)=fanV p i:=by unfold jco;rw [if_neg (by omega),Nat.add_sub_cancel]
  have e1':runC (EE F) (m+2) nzar [.agg [pv],.int .i64 ((8+4*i:Nat):Int)] g=some (.int .u64 ((fanV p i:Nat):Int),g1):=e1
  by_cases hb:fanV p i<jco p i
  ·have c2:decide (((fanV p i:Nat):Int)<((jco p i:Nat):Int))=true:=dT (by omega)
   have hf:=bad (fanUp_fail (by rw [hs];exact dF (by omega)) (show i+1≤256 by omega)) g1 og1
   refine .inr ?_
   simp only [zaq.l7,zaq.c7,zaq.k7,zaq.r8,zaq.c8,zaq.k9,zaq.c10,zaq.k10,zaq.c11,c1,cond_true,Rg.ldA,jaf,wr,i1,i2,cxC,e1',jan,c2]
   exact hf
  ·have c2:decide (((fanV p i:Nat):Int)<((jco p i:Nat):Int))=false:=dF (by omega)
   refine .inl ⟨_,g1,?_,i+1,by omega,rfl,by rw [hs];exact dT (by omega),og1⟩
   rw [hnext]
   simp only [zaq.l7,zaq.c7,zaq.k7,zaq.r8,zaq.c8,zaq.k9,zaq.c10,zaq.k10,zaq.r12,zaq.c12,zaq.r13,zaq.c13,c1,cond_true,Rg.ldA,jaf,wr,i1,i2,cxC,e1',jan,c2,cond_false,i3]
 ·rintro s g n' ⟨i,hi,rfl,hu,og⟩
  obtain rfl:i=256:=by omega
  have c1:decide (((256:Nat):Int)<256)=false:=rfl
  have hf:=fin hu g og
  simp only [zaq.l7,zaq.c7,zaq.k7,c1,cond_false]
  exact hf
theorem cnt_far{F m:Nat}{out:Res→Prop}{Jn:V×Int×Int×Unit→AH→Res}{Jr:V×V×V×Unit→AH→Res}{h:AH}{b e n:Nat}{pv:V}{p:List Nat}(hF:n+40<F)(hn:n≤4096)(hw:h.WF)(R:Rd h b e pv p)(hl:1096+40*n≤p.length)(hlen:p.length≤1000000)
  (fin:∀ h',Old h.next h h'→out (Jn (.ptr ⟨b,1,0⟩,(n:Int),((kP p n n:Nat):Int),()) h')) :
  out (zaq.k19 (cx F (m+2)) Jn Jr (.ptr ⟨b,1,0⟩,(n:Int),0,(n:Int),0,()) h):=by
 show out (jaw zaq.P40 F (fun t h n'=>zaq.l20 (cx F (m+2)) n' Jn Jr t h) (.ptr ⟨b,1,0⟩,(n:Int),0,(n:Int),0,()) h)
 refine jah (S:=zaq.P40) (out:=out)
  (fun k s g=>∃ i:Nat,i+k=n∧s=(.ptr ⟨b,1,0⟩,(n:Int),((kP p n i:Nat):Int),(n:Int),(i:Int),())∧Old h.next h g) ?_ ?_ n F _ _ ⟨0,by omega,rfl,Old.refl hw _⟩ (by omega)
 ·rintro k s g n' ⟨i,hi,rfl,og⟩
  have Rg:=R.old hw og
  have i1:IntKind.wrap .i64 (36*(n:Int))=((36*n:Nat):Int):=wi (by omega) (by omega)
  have i2:IntKind.wrap .i64 (1032+((36*n:Nat):Int))=((1032+36*n:Nat):Int):=wi (by omega) (by omega)
  have i4:IntKind.wrap .i64 (4*(i:Int))=((4*i:Nat):Int):=wi (by omega) (by omega)
  have i5:IntKind.wrap .i64 (((1032+36*n:Nat):Int)+((4*i:Nat):Int))=((1032+36*n+4*i:Nat):Int):=wi (by omega) (by omega)
  have i3:IntKind.wrap .i64 ((i:Int)+1)=((i+1:Nat):Int):=wi (by omega) (by omega)
  have hk:=kP_le p n i
  have i6:IntKind.wrap .i64 (((kP p n i:Nat):Int)+1)=((kP p n i+1:Nat):Int):=wi (by omega) (by omega)
  obtain ⟨g1,e1,o1⟩:=four_cell (F:=F) (n:=m) (by omega) og.wf Rg.bs (by omega) (a:=1032+36*n+4*i) (by omega)
  have og1:=og.trans (o1.weak og.next)
  have c1:decide ((i:Int)<(n:Int))=true:=dT (by omega)
  have hs:=kP_succ p n i
  have e1':runC (EE F) (m+2) nzar [.agg [pv],.int .i64 ((1032+36*n+4*i:Nat):Int)] g=some (.int .u64 ((atV p n i:Nat):Int),g1):=e1
  by_cases hb:2147483648≤atV p n i
  ·have c2:decide (((atV p n i:Nat):Int)≥2147483648)=true:=dT (by omega)
   rw [if_pos (show farF p n i=true from dT hb)] at hs
   refine .inl ⟨_,g1,?_,i+1,by omega,rfl,og1⟩
   rw [hs]
   simp only [zaq.l20,zaq.c20,zaq.k20,zaq.r21,zaq.c21,zaq.k22,zaq.c23,zaq.r24,zaq.c24,c1,cond_true,Rg.ldA,jaf,wr,i1,i2,i4,i5,cxC,e1',jan,c2,i3,i6]
  ·have c2:decide (((atV p n i:Nat):Int)≥2147483648)=false:=dF (by omega)
   have hs:kP p n (i+1)=kP p n i:=by rw [hs,if_neg (show ¬farF p n i=true by rw [show farF p n i=false from dF hb];decide)];rfl
   refine .inl ⟨_,g1,?_,i+1,by omega,rfl,og1⟩
   rw [hs]
   simp only [zaq.l20,zaq.c20,zaq.k20,zaq.r21,zaq.c21,zaq.k22,zaq.r24,zaq.c24,c1,cond_true,Rg.ldA,jaf,wr,i1,i2,i4,i5,cxC,e1',jan,c2,cond_false,i3]
 ·rintro s g n' ⟨i,hi,rfl,og⟩
  obtain rfl:i=n:=by omega
  have c1:decide ((i:Int)<(i:Int))=false:=dF (by omega)
  have hf:=fin g og
  simp only [zaq.l20,zaq.c20,zaq.k20,c1,cond_false]
  exact hf
abbrev szV(x:Nat×Nat×Int):V:=.tuple [.int .i64 ((x.1:Nat):Int),.int .i64 ((x.2.1:Nat):Int),.int .i64 x.2.2]
theorem count_cps{F m:Nat}(hF:5000<F){h:AH}(hw:h.WF){pv:V}{p:List Nat}(hp:Bs h pv p)(hlen:p.length≤1000000)
  {out:Res→Prop} (fin:∀ h',Old h.next h h'→out (some (szV (szM p),h'))):out (runC (EE F) (m+3) nzaq [.agg [pv]] h):=by
 rw [tzaq]
 obtain ⟨h1,e1,c1,n1,o1⟩:=jbe hw [pv] jba (by simp [hp.cellOk])
 have R1:Rd h1 h.next jba pv p:=⟨c1,hp.old hw o1⟩
 have e1':absBox jba (.agg [pv]) h=some (.ptr ⟨h.next,1,0⟩,h1):=e1
 simp only [zaq.fn,zaq.c0,zaq.k0,zaq.c1,zaq.k1,e1',jam,jbu,jae,R1.ld,R1.bs.1.len,jag]
 unfold szM at fin
 by_cases hs:p.length<1096
 ·have d1:decide ((p.length:Int)<1096)=true:=dT (by omega)
  rw [if_pos hs] at fin
  simp only [d1,cond_true,zaq.c2,zaq.ret]
  exact fin h1 o1
 ·have d1:decide ((p.length:Int)<1096)=false:=dF (by omega)
  rw [if_neg hs] at fin
  obtain ⟨w,s1,s2⟩:=R1.bs.cut (lo:=none) (hi:=some (.int .i64 8)) (l:=0) (u:=8) (.inr rfl) (.inl ⟨rfl,rfl⟩) (by omega) (by omega)
  rw [List.drop_zero,Nat.sub_zero] at s2
  have hmag:([255,116,79,99,0,0,0,2]:List Nat)=jbd:=rfl
  simp only [d1,cond_false,zaq.r3,zaq.c3,zaq.k3,jbu,jae,R1.ld,s1,s2.toS,cZ_some,natsEq_eq]
  rw [hmag]
  by_cases hm:p.take 8=jbd
  ·rw [if_neg (fun hh=>hh hm)] at fin
   rw [dT hm]
   simp only [Bool.not_true,cond_false,zaq.r5,zaq.c5,zaq.k5,zaq.c6]
   refine cnt_fan (m:=m) (out:=out) (by omega) o1.wf R1 (by omega) hlen (fun hf h2 o2=>?_) (fun hf h2 o2=>?_)
   ·rw [if_pos hf] at fin
    exact fin h2 (o1.trans (o2.weak o1.next))
   ·have o12:=o1.trans (o2.weak o1.next)
    rw [if_neg (by rw [hf];decide)] at fin
    generalize jbp p=n at *
    simp only [zaq.r14,zaq.c14,zaq.k14]
    by_cases hbig:4096<n
    ·have d2:decide ((n:Int)>4096)=true:=dT (by omega)
     rw [if_pos hbig] at fin
     simp only [d2,cond_true,zaq.c15,zaq.ret]
     exact fin h2 o12
    ·have d2:decide ((n:Int)>4096)=false:=dF (by omega)
     rw [if_neg hbig] at fin
     have R2:=R1.old o1.wf o2
     have j0:IntKind.wrap .i64 (n:Int)=(n:Int):=wi rfl (by omega)
     have j1:IntKind.wrap .i64 (40*(n:Int))=((40*n:Nat):Int):=wi (by omega) (by omega)
     have j2:IntKind.wrap .i64 (1032+((40*n:Nat):Int))=((1032+40*n:Nat):Int):=wi (by omega) (by omega)
     have j3:IntKind.wrap .i64 (((1032+40*n:Nat):Int)+64)=((1096+40*n:Nat):Int):=wi (by omega) (by omega)
     have dd:∀ x:Int,decide (x<IntKind.wrap .i64 (IntKind.wrap .i64 (1032+IntKind.wrap .i64 (40*(n:Int)))+64))=decide (x<((1096+40*n:Nat):Int)):=fun x=>by rw [j1,j2,j3]
     simp only [d2,cond_false,zaq.r16,zaq.c16,zaq.k16,zaq.c17,zaq.k17,wr,j0,jbu,jae,R2.ld,R2.bs.1.len,jag,↓dd]
     by_cases hsh:p.length<1096+40*n
     ·rw [if_pos hsh] at fin
      rw [dT (show (p.length:Int)<((1096+40*n:Nat):Int) by omega)]
      simp only [cond_true,zaq.c18,zaq.ret]
      exact fin h2 o12
     ·rw [if_neg hsh] at fin
      rw [dF (show ¬(p.length:Int)<((1096+40*n:Nat):Int) by omega)]
      simp only [cond_false,zaq.r19,zaq.c19]
      refine cnt_far (m:=m) (n:=n) (out:=out) (by omega) (by omega) o2.wf R2 (by omega) hlen (fun h3 o3=>?_)
      have o13:=o12.trans (o3.weak o12.next)
      have R3:=R2.old o2.wf o3
      have hk:=kP_le p n n
      generalize kP p n n=f at *
      have j4:IntKind.wrap .i64 (8*(f:Int))=((8*f:Nat):Int):=wi (by omega) (by omega)
      have j5:IntKind.wrap .i64 (((1032+40*n:Nat):Int)+((8*f:Nat):Int))=((1032+40*n+8*f:Nat):Int):=wi (by omega) (by omega)
      have j6:IntKind.wrap .i64 (((1032+40*n+8*f:Nat):Int)+64)=((1096+40*n+8*f:Nat):Int):=wi (by omega) (by omega)
      simp only [zaq.r25,zaq.c25,wr,j1,j2,j4,j5,j6]
      simp only [zaq.k25,zaq.c26,zaq.k26,jbu,jae,R3.ld,R3.bs.1.len,jag]
      by_cases hx:p.length<1096+40*n+8*f
      ·rw [if_pos hx] at fin
       rw [dT (show (p.length:Int)<((1096+40*n+8*f:Nat):Int) by omega)]
       simp only [cond_true,zaq.c27,zaq.ret]
       exact fin h3 o13
      ·rw [if_neg hx] at fin
       rw [dF (show ¬(p.length:Int)<((1096+40*n+8*f:Nat):Int) by omega)]
       simp only [cond_false,zaq.c28,zaq.k28,jbu,jae,R3.ld,R3.bs.1.len,jag]
       by_cases hy:1096+40*n+8*f<p.length
       ·rw [if_pos hy] at fin
        rw [dT (show (p.length:Int)>((1096+40*n+8*f:Nat):Int) by omega)]
        simp only [cond_true,zaq.c29,zaq.ret]
        exact fin h3 o13
       ·rw [if_neg hy] at fin
        rw [dF (show ¬(p.length:Int)>((1096+40*n+8*f:Nat):Int) by omega)]
        simp only [cond_false,zaq.r30,zaq.c30,zaq.ret]
        exact fin h3 o13
  ·rw [if_pos hm] at fin
   rw [dF hm]
   simp only [Bool.not_false,cond_true,zaq.c4,zaq.ret]
   exact fin h1 o1
theorem sz_fan{F m:Nat}(hF:300<F){out:Res→Prop}{Jn:V×Int×Unit→AH→Res}{Jr:V×V×V×Unit→AH→Res}{h:AH}{pv:V}{p:List Nat}(hp:Bs h pv p)(hl:1096≤p.length)(hlen:p.length≤1000000)
  (bad:fanUp p 256=false→out (Jr (.int .i64 0,.int .i64 0,.int .i64 4,()) h))
  (fin:fanUp p 256=true→out (Jn (pv,((jbp p:Nat):Int),()) h)) :
  out (zbf.k6 (cx F (m+1)) Jn Jr (pv,0,0,()) h):=by
 show out (jaw zbf.P14 F (fun t h n'=>zbf.l7 (cx F (m+1)) n' Jn Jr t h) (pv,0,0,()) h)
 refine jah (S:=zbf.P14) (out:=out)
  (fun k s g=>∃ i:Nat,i+k=256∧s=(pv,((jco p i:Nat):Int),(i:Int),())∧fanUp p i=true∧g=h) ?_ ?_ 256 F _ _ ⟨0,rfl,rfl,rfl,rfl⟩ (by omega)
 ·rintro k s g n' ⟨i,hi,rfl,hu,rfl⟩
  have i1:IntKind.wrap .i64 (4*(i:Int))=((4*i:Nat):Int):=wi (by omega) (by omega)
  have i2:IntKind.wrap .i64 (8+((4*i:Nat):Int))=((8+4*i:Nat):Int):=wi (by omega) (by omega)
  have i3:IntKind.wrap .i64 ((i:Int)+1)=((i+1:Nat):Int):=wi (by omega) (by omega)
  have e1:=r02Big_spec (F:=F) (n:=m) (by omega) hp (by omega) (a:=8+4*i) (m:=4) (by omega) (by omega)
  have c1:decide ((i:Int)<256)=true:=dT (by omega)
  have hs:=fanUp_succ p i
  rw [hu,Bool.true_and] at hs
  have hnext:jco p (i+1)=fanV p i:=by unfold jco;rw [if_neg (by omega),Nat.add_sub_cancel]
  have e1':runC (EE F) (m+1) nzay [pv,.int .i64 ((8+4*i:Nat):Int),.int .i64 4] g=some (.int .u64 ((fanV p i:Nat):Int),g):=e1
  by_cases hb:fanV p i<jco p i
  ·have c2:decide (((fanV p i:Nat):Int)<((jco p i:Nat):Int))=true:=dT (by omega)
   have hf:=bad (fanUp_fail (by rw [hs];exact dF (by omega)) (show i+1≤256 by omega))
   refine .inr ?_
   simp only [zbf.l7,zbf.c7,zbf.k7,zbf.r9,zbf.c9,zbf.k9,zbf.c10,zbf.k10,zbf.c11,c1,cond_true,wr,i1,i2,cxC,e1',jan,c2]
   exact hf
  ·have c2:decide (((fanV p i:Nat):Int)<((jco p i:Nat):Int))=false:=dF (by omega)
   refine .inl ⟨_,g,?_,i+1,by omega,rfl,by rw [hs];exact dT (by omega),rfl⟩
   rw [hnext]
   simp only [zbf.l7,zbf.c7,zbf.k7,zbf.r9,zbf.c9,zbf.k9,zbf.c10,zbf.k10,zbf.r12,zbf.c12,zbf.r8,zbf.c8,c1,cond_true,wr,i1,i2,cxC,e1',jan,c2,cond_false,i3]
 ·rintro s g n' ⟨i,hi,rfl,hu,rfl⟩
  obtain rfl:i=256:=by omega
  have c1:decide (((256:Nat):Int)<256)=false:=rfl
  have hf:=fin hu
  simp only [zbf.l7,zbf.c7,zbf.k7,c1,cond_false]
  exact hf
theorem sz_far{F m:Nat}{out:Res→Prop}{Jn:V×Int×Int×Unit→AH→Res}{Jr:V×V×V×Unit→AH→Res}{h:AH}{n:Nat}{pv:V}{p:List Nat}(hF:n+40<F)(hn:n≤4096)(hp:Bs h pv p)(hl:1096+40*n≤p.length)(hlen:p.length≤1000000)
  (fin:out (Jn (pv,(n:Int),((kP p n n:Nat):Int),()) h)) :
  out (zbf.k19 (cx F m) Jn Jr (pv,(n:Int),0,0,()) h):=by
 show out (jaw zbf.P40 F (fun t h n'=>zbf.l20 (cx F m) n' Jn Jr t h) (pv,(n:Int),0,0,()) h)
 refine jah (S:=zbf.P40) (out:=out)
  (fun k s g=>∃ i:Nat,i+k=n∧s=(pv,(n:Int),((kP p n i:Nat):Int),(i:Int),())∧g=h) ?_ ?_ n F _ _ ⟨0,by omega,rfl,rfl⟩ (by omega)
 ·rintro k s g n' ⟨i,hi,rfl,rfl⟩
  have i1:IntKind.wrap .i64 (36*(n:Int))=((36*n:Nat):Int):=wi (by omega) (by omega)
  have i2:IntKind.wrap .i64 (1032+((36*n:Nat):Int))=((1032+36*n:Nat):Int):=wi (by omega) (by omega)
  have i4:IntKind.wrap .i64 (4*(i:Int))=((4*i:Nat):Int):=wi (by omega) (by omega)
  have i5:IntKind.wrap .i64 (((1032+36*n:Nat):Int)+((4*i:Nat):Int))=((1032+36*n+4*i:Nat):Int):=wi (by omega) (by omega)
  have i3:IntKind.wrap .i64 ((i:Int)+1)=((i+1:Nat):Int):=wi (by omega) (by omega)
  have hk:=kP_le p n i
  have i6:IntKind.wrap .i64 (((kP p n i:Nat):Int)+1)=((kP p n i+1:Nat):Int):=wi (by omega) (by omega)
  obtain ⟨q,u1,u2⟩:=hp.ld (i:=((1032+36*n+4*i:Nat):Int)) (by omega) (by omega)
  rw [Int.toNat_natCast] at u2
  have c1:decide ((i:Int)<(n:Int))=true:=dT (by omega)
  have hs:=kP_succ p n i
  have hh:=g4_high hp.2 (a:=1032+36*n+4*i) (by omega)
  by_cases hb:2147483648≤atV p n i
  ·have h128:=hh.1 hb
   have c2:decide (((p.getD (1032+36*n+4*i) 0:Nat):Int)≥128)=true:=dT (by omega)
   rw [if_pos (show farF p n i=true from dT hb)] at hs
   refine .inl ⟨_,g,?_,i+1,by omega,rfl,rfl⟩
   rw [hs]
   simp only [zbf.l20,zbf.c20,zbf.k20,zbf.r22,zbf.c22,zbf.k22,zbf.c23,zbf.r21,zbf.c21,c1,cond_true,wr,i1,i2,i4,i5,u1,jae,u2,jag,c2,i3,i6]
  ·have h128:¬128≤p.getD (1032+36*n+4*i) 0:=fun h=>hb (hh.2 h)
   have c2:decide (((p.getD (1032+36*n+4*i) 0:Nat):Int)≥128)=false:=dF (by omega)
   have hs:kP p n (i+1)=kP p n i:=by rw [hs,if_neg (show ¬farF p n i=true by rw [show farF p n i=false from dF hb];decide)];rfl
   refine .inl ⟨_,g,?_,i+1,by omega,rfl,rfl⟩
   rw [hs]
   simp only [zbf.l20,zbf.c20,zbf.k20,zbf.r22,zbf.c22,zbf.k22,zbf.r21,zbf.c21,c1,cond_true,wr,i1,i2,i4,i5,u1,jae,u2,jag,c2,cond_false,i3]
 ·rintro s g n' ⟨i,hi,rfl,rfl⟩
  obtain rfl:i=n:=by omega
  have c1:decide ((i:Int)<(i:Int))=false:=dF (by omega)
  simp only [zbf.l20,zbf.c20,zbf.k20,c1,cond_false]
  exact fin
theorem sizes_cps{F m:Nat}(hF:5000<F){h:AH}{pv:V}{p:List Nat}(hp:Bs h pv p)(hlen:p.length≤1000000)
  {out:Res→Prop} (fin:out (some (szV (szM p),h))):out (runC (EE F) (m+2) nzbf [pv] h):=by
 rw [tzbf]
 simp only [zbf.fn,zbf.c0,zbf.k0,zbf.c1,zbf.k1,hp.1.len,jag]
 unfold szM at fin
 by_cases hs:p.length<1096
 ·have d1:decide ((p.length:Int)<1096)=true:=dT (by omega)
  rw [if_pos hs] at fin
  simp only [d1,cond_true,zbf.c2,zbf.ret]
  exact fin
 ·have d1:decide ((p.length:Int)<1096)=false:=dF (by omega)
  rw [if_neg hs] at fin
  obtain ⟨w,s1,s2⟩:=hp.cut (lo:=none) (hi:=some (.int .i64 8)) (l:=0) (u:=8) (.inr rfl) (.inl ⟨rfl,rfl⟩) (by omega) (by omega)
  rw [List.drop_zero,Nat.sub_zero] at s2
  have hmag:([255,116,79,99,0,0,0,2]:List Nat)=jbd:=rfl
  simp only [d1,cond_false,zbf.r3,zbf.c3,zbf.k3,jae,s1,s2.toS,cZ_some,natsEq_eq]
  rw [hmag]
  by_cases hm:p.take 8=jbd
  ·rw [if_neg (fun hh=>hh hm)] at fin
   rw [dT hm]
   simp only [Bool.not_true,cond_false,zbf.r5,zbf.c5,zbf.k5,zbf.c6]
   refine sz_fan (m:=m) (out:=out) (by omega) hp (by omega) hlen (fun hf=>?_) (fun hf=>?_)
   ·rw [if_pos hf] at fin
    exact fin
   ·rw [if_neg (by rw [hf];decide)] at fin
    generalize jbp p=n at *
    simp only [zbf.r13,zbf.c13,zbf.k13]
    by_cases hbig:4096<n
    ·have d2:decide ((n:Int)>4096)=true:=dT (by omega)
     rw [if_pos hbig] at fin
     simp only [d2,cond_true,zbf.c14,zbf.ret]
     exact fin
    ·have d2:decide ((n:Int)>4096)=false:=dF (by omega)
     rw [if_neg hbig] at fin
     have j0:IntKind.wrap .i64 (n:Int)=(n:Int):=wi rfl (by omega)
     have j1:IntKind.wrap .i64 (40*(n:Int))=((40*n:Nat):Int):=wi (by omega) (by omega)
     have j2:IntKind.wrap .i64 (1032+((40*n:Nat):Int))=((1032+40*n:Nat):Int):=wi (by omega) (by omega)
     have j3:IntKind.wrap .i64 (((1032+40*n:Nat):Int)+64)=((1096+40*n:Nat):Int):=wi (by omega) (by omega)
     have dd:∀ x:Int,decide (x<IntKind.wrap .i64 (IntKind.wrap .i64 (1032+IntKind.wrap .i64 (40*(n:Int)))+64))=decide (x<((1096+40*n:Nat):Int)):=fun x=>by rw [j1,j2,j3]
     simp only [d2,cond_false,zbf.r15,zbf.c15,wr,j0]
     simp only [zbf.k15,zbf.c16,zbf.k16,hp.1.len,jag,wr,↓dd]
     by_cases hsh:p.length<1096+40*n
     ·rw [if_pos hsh] at fin
      rw [dT (show (p.length:Int)<((1096+40*n:Nat):Int) by omega)]
      simp only [cond_true,zbf.c17,zbf.ret]
      exact fin
     ·rw [if_neg hsh] at fin
      rw [dF (show ¬(p.length:Int)<((1096+40*n:Nat):Int) by omega)]
      simp only [cond_false,zbf.r18,zbf.c18,zbf.k18,zbf.c19]
      refine sz_far (m:=m+1) (n:=n) (out:=out) (by omega) (by omega) hp (by omega) hlen ?_
      have hk:=kP_le p n n
      generalize kP p n n=f at *
      have j4:IntKind.wrap .i64 (8*(f:Int))=((8*f:Nat):Int):=wi (by omega) (by omega)
      have j5:IntKind.wrap .i64 (((1032+40*n:Nat):Int)+((8*f:Nat):Int))=((1032+40*n+8*f:Nat):Int):=wi (by omega) (by omega)
      have j6:IntKind.wrap .i64 (((1032+40*n+8*f:Nat):Int)+64)=((1096+40*n+8*f:Nat):Int):=wi (by omega) (by omega)
      have dx:∀ x:Int,decide (x<IntKind.wrap .i64 (IntKind.wrap .i64 (IntKind.wrap .i64 (1032+IntKind.wrap .i64 (40*(n:Int)))+IntKind.wrap .i64 (8*(f:Int)))+64))=decide (x<((1096+40*n+8*f:Nat):Int)):=fun x=>by rw [j1,j2,j4,j5,j6]
      have dy:∀ x:Int,decide (x>IntKind.wrap .i64 (IntKind.wrap .i64 (IntKind.wrap .i64 (1032+IntKind.wrap .i64 (40*(n:Int)))+IntKind.wrap .i64 (8*(f:Int)))+64))=decide (x>((1096+40*n+8*f:Nat):Int)):=fun x=>by rw [j1,j2,j4,j5,j6]
      simp only [zbf.r24,zbf.c24,zbf.k24,hp.1.len,jag,wr,↓dx]
      by_cases hx:p.length<1096+40*n+8*f
      ·rw [if_pos hx] at fin
       rw [dT (show (p.length:Int)<((1096+40*n+8*f:Nat):Int) by omega)]
       simp only [cond_true,zbf.c25,zbf.ret]
       exact fin
      ·rw [if_neg hx] at fin
       rw [dF (show ¬(p.length:Int)<((1096+40*n+8*f:Nat):Int) by omega)]
       simp only [cond_false,zbf.c26,zbf.k26,hp.1.len,jag,wr,↓dy]
       by_cases hy:1096+40*n+8*f<p.length
       ·rw [if_pos hy] at fin
        rw [dT (show (p.length:Int)>((1096+40*n+8*f:Nat):Int) by omega)]
        simp only [cond_true,zbf.c27,zbf.ret]
        exact fin
       ·rw [if_neg hy] at fin
        rw [dF (show ¬(p.length:Int)>((1096+40*n+8*f:Nat):Int) by omega)]
        simp only [cond_false,zbf.r28,zbf.c28,zbf.ret]
        exact fin
  ·rw [if_pos hm] at fin
   rw [dF hm]
   simp only [Bool.not_false,cond_true,zbf.c4,zbf.ret]
   exact fin
end Go.Proofs.YtcmhoboglapbdaaDoor
namespace Go.Proofs.YtcmhoboglapbdaaDoor
open Go Ev
abbrev z32:List Nat:=List.replicate 32 0
def rz:Row:=⟨z32,0,0⟩
theorem rz_ok:rz.ok:=⟨rfl,by decide,by decide,by decide⟩
def idV(p:List Nat)(i:Nat):List Nat:=part p (1032+32*i) 32
def crcV(p:List Nat)(n i:Nat):Nat:=g4 p (1032+32*n+4*i)
def farV(p:List Nat)(n i:Nat):Nat:=bigN (part p (1032+40*n+8*kP p n i) 8)
def rowP(p:List Nat)(n i:Nat):Row:=⟨idV p i,crcV p n i,if farF p n i=true then farV p n i else atV p n i⟩
def jbq(p:List Nat)(n:Nat):List Row:=(List.range n).map (rowP p n)
def atsOK(p:List Nat)(n m:Nat):Prop:=∀ i,i<m→farF p n i=true→atV p n i=2147483648+kP p n i
def ordOK(p:List Nat)(n m:Nat):Prop:=∀ i,0<i→i<m→Lt (rowP p n (i-1)) (rowP p n i)
def fanOK(p:List Nat)(l:List Row)(m:Nat):Prop:=∀ b,b<m→fanV p b=upto l b
def readOK(p:List Nat)(n:Nat):Prop:=atsOK p n n∧ordOK p n n∧fanOK p (jbq p n) 256
open Classical in
noncomputable def jas(p:List Nat):List Row×List Nat×Int :=
 if (szM p).2.2≠0 then ([],z32,(szM p).2.2) else if ¬sumM (p.take (p.length-32))=p.drop (p.length-32) then ([],z32,6)
 else if readOK p (szM p).1 then (jbq p (szM p).1,part p (p.length-64) 32,0) else ([],z32,4)
theorem szM_cases(p:List Nat):(szM p).2.2≠0∨(szM p=(jbp p,kP p (jbp p) (jbp p),0)∧p.length=1096+40*jbp p+8*kP p (jbp p) (jbp p)∧jbp p≤4096∧p.take 8=jbd∧fanUp p 256=true):=by
 unfold szM
 by_cases h1:p.length<1096
 ·rw [if_pos h1];exact .inl (by decide)
 rw [if_neg h1]
 by_cases h2:p.take 8=jbd
 ·rw [if_neg (fun hh=>hh h2)]
  by_cases h3:fanUp p 256=false
  ·rw [if_pos h3];exact .inl (by decide)
  rw [if_neg h3]
  by_cases h4:4096<jbp p
  ·rw [if_pos h4];exact .inl (by decide)
  rw [if_neg h4]
  by_cases h5:p.length<1096+40*jbp p
  ·rw [if_pos h5];exact .inl (by decide)
  rw [if_neg h5]
  by_cases h6:p.length<1096+40*jbp p+8*kP p (jbp p) (jbp p)
  ·rw [if_pos h6];exact .inl (by decide)
  rw [if_neg h6]
  by_cases h7:1096+40*jbp p+8*kP p (jbp p) (jbp p)<p.length
  ·rw [if_pos h7];exact .inl (by decide)
  rw [if_neg h7]
  exact .inr ⟨rfl,by omega,by omega,h2,by simpa using h3⟩
 ·rw [if_pos h2];exact .inl (by decide)
theorem jbn(p:List Nat)(n:Nat):(jbq p n).length=n:=by simp [jbq]
theorem rowsP_get{p:List Nat}{n i:Nat}(h:i<n):(jbq p n)[i]?=some (rowP p n i):=by
 unfold jbq;rw [List.getElem?_map,List.getElem?_range h];rfl
theorem rowP_ok{p:List Nat}(hp:∀ x∈p,x<256){n i:Nat}(hi:i<n)(hl:1096+40*n≤p.length):(rowP p n i).ok:=by
 refine ⟨jcl (by omega),part_byte hp _ _,g4_lt hp _,?_⟩
 show (if farF p n i=true then farV p n i else atV p n i)<18446744073709551616
 split
 ·unfold farV
  have h1:=bigN_lt _ (part_byte hp (1032+40*n+8*kP p n i) 8)
  have h2:(part p (1032+40*n+8*kP p n i) 8).length≤8:=by unfold part;rw [List.length_take];omega
  have h3:=pow256_le h2
  have h4:256 ^ 8=18446744073709551616:=by decide
  omega
 ·have:=g4_lt hp (1032+36*n+4*i)
  show g4 p (1032+36*n+4*i)<_
  omega
theorem rowsP_ok{p:List Nat}(hp:∀ x∈p,x<256){n:Nat}(hl:1096+40*n≤p.length):∀ r∈jbq p n,r.ok:=by
 intro r hr
 obtain ⟨i,hi,rfl⟩:=List.mem_map.1 hr
 exact rowP_ok hp (List.mem_range.1 hi) hl
theorem rowsP_rat{p:List Nat}{n i:Nat}(h:i<n):rat (jbq p n) i=rowP p n i:=by
 unfold rat;rw [List.getD_eq_getElem?_getD,rowsP_get h];rfl
theorem fill_rat{l:List Row}{n i j:Nat}(hl:l.length=n)(hj:j<i)(hi:i≤n):rat (l.take i++List.replicate (n-i) rz) j=rat l j:=by
 unfold rat
 rw [List.getD_eq_getElem?_getD,List.getD_eq_getElem?_getD,List.getElem?_append_left (by rw [List.length_take];omega),List.getElem?_take_of_lt hj]
theorem zero_id:bld [] (List.replicate 32 (.int .u8 0))=some (.agg (jaa z32)):=rfl
theorem err_set{g:AH}{b e n0:Nat}{x:List Nat}(hc:jal g b e (jaa x))(hx:x.length=32)(hw:g.WF)(hn:n0≤b){y:List Nat}(hy:y.length=32):∃ g',st 32 (.ptr ⟨b,32,0⟩) (.agg (jaa y)) g=some g'∧ldA 32 (.ptr ⟨b,32,0⟩) g'=some (.agg (jaa y))∧Old n0 g g'∧Wrote g g' b:=by
 obtain ⟨g',p1,p2,p3⟩:=hc.put hw (n:=32) (vs:=jaa y) (by rw [jad,hx]) (by rw [jad,hy]) (jap _)
 exact ⟨g',p1,p2.ldA (by rw [jad,hy]),p3.old hn,p3⟩
theorem fin3{a b c:V}{o:Option V}(h:o=some b)(g:AH):finW [some a,o,some c] g=some (.tuple [a,b,c],g):=by rw [h];rfl
theorem quiet_four{F m:Nat}(hF:40<F){g:AH}(hw:g.WF){pv:V}{p:List Nat}(hp:Bs g pv p)(hlen:p.length≤1000000){a:Nat}(ha:a+4≤p.length) :
  ∃ g',quiet (fun h=>runC (EE F) (m+2) nzar [.agg [pv],.int .i64 (a:Int)] h) g=some (.int .u64 ((g4 p a:Nat):Int),g')∧Old g.next g g' :=
 quiet_of (four_cell hF (wf_low hw g.next) (show Bs ⟨g.next,g.next,g.m⟩ pv p from hp) (by omega) ha)
theorem pr_rows{F m:Nat}(hF:5000<F){out:Res→Prop}{Jn:V×V×V×Int×V×Unit→AH→Res}{Jr:V×V×V×Unit→AH→Res}{h:AH}{b b1 e n n0:Nat}{pv v:V}{p:List Nat}{en:Int}(hw:h.WF)(hn:n≤4096)(hlen:p.length≤1000000)(hl:p.length=1096+40*n+8*kP p n n)(hn0:n0≤h.next)
  (hR:∀ g,Old n0 h g→Rd g b e pv p) (hC:∀ g,Old n0 h g→jal g b1 jab (jaa z32)) (H:Has n0 v h (List.replicate n rz))
  (bad:¬(atsOK p n n∧ordOK p n n)→∀ h',Old n0 h h'→out ((bA (bld [] (List.replicate 32 (.int .u8 0))) h' fun x h487=>bS (st 32 (.ptr ⟨b1,32,0⟩) (.agg x) h487) fun h488=>Jr (.nilslice,.ptr ⟨b1,32,0⟩,.int .i64 4,()) h488)))
  (fin:atsOK p n n→ordOK p n n→∀ h',Has n0 v h' (jbq p n)→Old n0 h h'→out (Jn (pv,.ptr ⟨b1,32,0⟩,.ptr ⟨b,1,0⟩,en,v,()) h')) :
  out (zam.k11 (cx F (m+3)) Jn Jr (pv,.ptr ⟨b1,32,0⟩,.ptr ⟨b,1,0⟩,(n:Int),en,v,0,(n:Int),0,()) h):=by
 have hp8:=(hR h (Old.refl hw _)).bs.2
 show out (jaw zam.P24 F (fun t h n'=>zam.l12 (cx F (m+3)) n' Jn Jr t h) (pv,.ptr ⟨b1,32,0⟩,.ptr ⟨b,1,0⟩,(n:Int),en,v,0,(n:Int),0,()) h)
 refine jah (S:=zam.P24) (out:=out)
  (fun k s g=>∃ i:Nat,i+k=n∧s=(pv,.ptr ⟨b1,32,0⟩,.ptr ⟨b,1,0⟩,(n:Int),en,v,((kP p n i:Nat):Int),(n:Int),(i:Int),())∧atsOK p n i∧ordOK p n i∧Has n0 v g ((jbq p n).take i++List.replicate (n-i) rz)∧Old n0 h g) ?_ ?_ n F _ _
  ⟨0,by omega,rfl,(fun i hi=>by omega),(fun i h0 hi=>by omega),by simpa using H,Old.refl hw _⟩ (by omega)
 ·rintro k s g n' ⟨i,hi,rfl,ha,ho,H1,og⟩
  have hlt:i<n:=by omega
  have Rg:=hR g og
  have i1:IntKind.wrap .i64 (36*(n:Int))=((36*n:Nat):Int):=wi (by omega) (by omega)
  have i2:IntKind.wrap .i64 (1032+((36*n:Nat):Int))=((1032+36*n:Nat):Int):=wi (by omega) (by omega)
  have i4:IntKind.wrap .i64 (4*(i:Int))=((4*i:Nat):Int):=wi (by omega) (by omega)
  have i5:IntKind.wrap .i64 (((1032+36*n:Nat):Int)+((4*i:Nat):Int))=((1032+36*n+4*i:Nat):Int):=wi (by omega) (by omega)
  have i3:IntKind.wrap .i64 ((i:Int)+1)=((i+1:Nat):Int):=wi (by omega) (by omega)
  have hk:=kP_le p n i
  have hkm:=kP_mono p n (show i+1≤n by omega)
  have hks:=kP_succ p n i
  obtain ⟨g1,e1,o1⟩:=four_cell (F:=F) (n:=m+1) (by omega) og.wf Rg.bs (by omega) (a:=1032+36*n+4*i) (by omega)
  have e1':runC (EE F) (m+3) nzar [.agg [pv],.int .i64 ((1032+36*n+4*i:Nat):Int)] g=some (.int .u64 ((atV p n i:Nat):Int),g1):=e1
  have og1:Old n0 h g1:=og.trans (o1.weak (Nat.le_trans hn0 og.next))
  have H2:=H1.old og.wf o1
  have c1:decide ((i:Int)<(n:Int))=true:=dT (by omega)
  have hrok:=rowP_ok hp8 hlt (show 1096+40*n≤p.length by omega)
  have row:∀ (g1:AH) (pos k':Nat),pos=(rowP p n i).pos→k'=kP p n (i+1)→atsOK p n (i+1)→Has n0 v g1 ((jbq p n).take i++List.replicate (n-i) rz)→Old n0 h g1 →
    ((∃ s' h',zam.r20 (cx F (m+3)) (zam.r23 (cx F (m+3)) n' Jn Jr) (zam.r23 (cx F (m+3)) n' Jn Jr) Jn Jr (pv,.ptr ⟨b1,32,0⟩,.ptr ⟨b,1,0⟩,(n:Int),en,v,((k':Nat):Int),(i:Int),((pos:Nat):Int),(n:Int),(i:Int),()) g1=n' s' h' ∧
     ∃ i:Nat,i+k=n∧s'=(pv,.ptr ⟨b1,32,0⟩,.ptr ⟨b,1,0⟩,(n:Int),en,v,((kP p n i:Nat):Int),(n:Int),(i:Int),())∧atsOK p n i∧ordOK p n i∧Has n0 v h' ((jbq p n).take i++List.replicate (n-i) rz)∧Old n0 h h') ∨
    out (zam.r20 (cx F (m+3)) (zam.r23 (cx F (m+3)) n' Jn Jr) (zam.r23 (cx F (m+3)) n' Jn Jr) Jn Jr (pv,.ptr ⟨b1,32,0⟩,.ptr ⟨b,1,0⟩,(n:Int),en,v,((k':Nat):Int),(i:Int),((pos:Nat):Int),(n:Int),(i:Int),()) g1)):=by
   intro g1 pos k' hpos hk' ha1 H2 og1
   subst hpos
   subst hk'
   have R1:=hR g1 og1
   have j1:IntKind.wrap .i64 (32*(i:Int))=((32*i:Nat):Int):=wi (by omega) (by omega)
   have j2:IntKind.wrap .i64 (1032+((32*i:Nat):Int))=((1032+32*i:Nat):Int):=wi (by omega) (by omega)
   have j3:IntKind.wrap .i64 (((1032+32*i:Nat):Int)+32)=((1032+32*i+32:Nat):Int):=wi (by omega) (by omega)
   have j4:IntKind.wrap .i64 (32*(n:Int))=((32*n:Nat):Int):=wi (by omega) (by omega)
   have j5:IntKind.wrap .i64 (1032+((32*n:Nat):Int))=((1032+32*n:Nat):Int):=wi (by omega) (by omega)
   have j6:IntKind.wrap .i64 (((1032+32*n:Nat):Int)+((4*i:Nat):Int))=((1032+32*n+4*i:Nat):Int):=wi (by omega) (by omega)
   obtain ⟨w,s1,s2⟩:=R1.bs.cut (lo:=some (.int .i64 ((1032+32*i:Nat):Int))) (hi:=some (.int .i64 ((1032+32*i+32:Nat):Int))) (l:=1032+32*i) (u:=1032+32*i+32) (.inr rfl) (.inr rfl) (by omega) (by omega)
   rw [show 1032+32*i+32-(1032+32*i)=32 by omega] at s2
   change Bs g1 w (idV p i) at s2
   have hid:(idV p i).length=32:=jcl (by omega)
   obtain ⟨a,t1,t2⟩:=s2.arr (m:=32) (by omega) (by omega)
   rw [List.take_of_length_le (by omega)] at t2
   obtain ⟨g2,q1,q2⟩:=quiet_four (F:=F) (m:=m+1) (by omega) og1.wf R1.bs hlen (a:=1032+32*n+4*i) (by omega)
   have q1':quiet (fun h=>runC (EE F) (m+3) nzar [.agg [pv],.int .i64 ((1032+32*n+4*i:Nat):Int)] h) g1=some (.int .u64 ((crcV p n i:Nat):Int),g2):=q1
   have og2:Old n0 h g2:=og1.trans (q2.weak (Nat.le_trans hn0 og1.next))
   have hcr:=hrok.2.2.1
   have hcr':crcV p n i<4294967296:=hcr
   have j7:IntKind.wrap .u32 ((crcV p n i:Nat):Int)=((crcV p n i:Nat):Int):=by rw [wr_u32];omega
   have hbld:=bld_row hrok
   have hbld':bld [(0,32,(.agg (jaa (idV p i)))),(32,1,(.int .u32 ((crcV p n i:Nat):Int))),(33,1,(.int .u64 (((rowP p n i).pos:Nat):Int)))] zRow=some (.agg (rowL (rowP p n i))):=hbld
   have hfl:((jbq p n).take i++List.replicate (n-i) rz).length=n:=by rw [List.length_append,List.length_take,List.length_replicate,jbn];omega
   obtain ⟨x,g3,u1,u2,H3,o3,_⟩:=(H2.old og1.wf q2).put q2.wf (i:=i) (by omega) hrok
   rw [fill_set (jbn p n) hlt (rowsP_get hlt)] at H3
   have og3:=og2.trans o3
   have hfl3:((jbq p n).take (i+1)++List.replicate (n-(i+1)) rz).length=n:=by rw [List.length_append,List.length_take,List.length_replicate,jbn];omega
   by_cases h0:0<i
   ·have c2:decide ((i:Int)>0)=true:=dT (by omega)
    have j8:IntKind.wrap .i64 ((i:Int)-1)=((i-1:Nat):Int):=wi (by omega) (by omega)
    obtain ⟨y1,v1,v2⟩:=H3.at (i:=i-1) (by omega)
    obtain ⟨y2,v3,v4⟩:=H3.at (i:=i) (by omega)
    rw [fill_rat (jbn p n) (by omega) (by omega),rowsP_rat (by omega)] at v2 v4
    obtain ⟨g4',w1,w2⟩:=byId_spec (F:=F) (m:=m) o3.wf (rowP_ok hp8 (show i-1<n by omega) (show 1096+40*n≤p.length by omega)) hrok
    have H4:=H3.old og3.wf w2
    have og4:=og3.trans (w2.weak (Nat.le_trans hn0 og3.next))
    have hxy:=ptr_eq u1 v3
    subst hxy
    by_cases hlt2:Lt (rowP p n (i-1)) (rowP p n i)
    ·have hlt3:cmpN (rowP p n (i-1)).id (rowP p n i).id<0:=hlt2
     have c3:decide (cmpN (rowP p n (i-1)).id (rowP p n i).id≥0)=false:=dF (by omega)
     refine .inl ⟨_,g4',?_,i+1,by omega,rfl,ha1,fun j hj0 hj=>?_,H4,og4⟩
     ·simp -implicitDefEqProofs only [zam.r20,zam.c20,wr,j1,j2,j3,s1,jae,t1,jbf t2,jaf,R1.ldA,j4,j5,i4,j6,cxC,q1',jan,j7,hbld',u1,u2,jaj,c2,cond_true,j8,v1,v2,v4,w1,c3,zam.k21,zam.r23,zam.c23,cond_false,i3]
     ·by_cases e:j=i
      ·rw [e];exact hlt2
      ·exact ho j hj0 (by omega)
    ·have hlt3:¬cmpN (rowP p n (i-1)).id (rowP p n i).id<0:=hlt2
     have c3:decide (cmpN (rowP p n (i-1)).id (rowP p n i).id≥0)=true:=dT (by omega)
     refine .inr ?_
     have hb:=bad (fun hh=>hlt2 (hh.2 i h0 hlt)) g4' og4
     simp -implicitDefEqProofs only [zam.r20,zam.c20,wr,j1,j2,j3,s1,jae,t1,jbf t2,jaf,R1.ldA,j4,j5,i4,j6,cxC,q1',jan,j7,hbld',u1,u2,jaj,c2,cond_true,j8,v1,v2,v4,w1,c3,zam.k21,zam.c22]
     exact hb
   ·obtain rfl:i=0:=by omega
    have c2:decide (((0:Nat):Int)>0)=false:=rfl
    refine .inl ⟨_,g3,?_,1,by omega,rfl,ha1,fun j hj0 hj=>by omega,H3,og3⟩
    simp -implicitDefEqProofs only [zam.r20,zam.c20,wr,j1,j2,j3,s1,jae,t1,jbf t2,jaf,R1.ldA,j4,j5,i4,j6,cxC,q1',jan,j7,hbld',u1,u2,jaj,c2,cond_false,zam.k21,zam.r23,zam.c23,i3]
  simp only [zam.l12,zam.c12,zam.k12,c1,cond_true,zam.r13,zam.c13,Rg.ldA,jaf,wr,i1,i2,i4,i5,cxC,e1',jan,zam.k14,zam.c15]
  by_cases hf:2147483648≤atV p n i
  ·have hff:farF p n i=true:=dT hf
   rw [if_pos hff] at hks
   have c2:decide (((atV p n i:Nat):Int)≥2147483648)=true:=dT (by omega)
   have j1:IntKind.wrap .u64 (2147483648+IntKind.wrap .u64 ((kP p n i:Nat):Int))=((2147483648+kP p n i:Nat):Int):=by rw [wr_u64,wr_u64];omega
   simp only [c2,zam.k15,zam.c16,cond_true,wr,j1]
   by_cases hx:atV p n i=2147483648+kP p n i
   ·have c3:(((atV p n i:Nat):Int) != ((2147483648+kP p n i:Nat):Int))=false:=by rw [hx];exact bne_self_eq_false ..
    have j2:IntKind.wrap .i64 (40*(n:Int))=((40*n:Nat):Int):=wi (by omega) (by omega)
    have j3:IntKind.wrap .i64 (1032+((40*n:Nat):Int))=((1032+40*n:Nat):Int):=wi (by omega) (by omega)
    have j4:IntKind.wrap .i64 (8*((kP p n i:Nat):Int))=((8*kP p n i:Nat):Int):=wi (by omega) (by omega)
    have j5:IntKind.wrap .i64 (((1032+40*n:Nat):Int)+((8*kP p n i:Nat):Int))=((1032+40*n+8*kP p n i:Nat):Int):=wi (by omega) (by omega)
    have j6:IntKind.wrap .i64 (((kP p n i:Nat):Int)+1)=((kP p n i+1:Nat):Int):=wi (by omega) (by omega)
    have b1:=numBig_spec (F:=F) (n:=m+2) (by omega) (hR g1 og1).bs (by omega) (a:=1032+40*n+8*kP p n i) (m:=8) (by omega) (by omega)
    have b1':runC (EE F) (m+3) nzai [pv,.int .i64 ((1032+40*n+8*kP p n i:Nat):Int),.int .i64 8] g1=some (.tuple [.int .u64 ((farV p n i:Nat):Int),.int .i64 0],g1):=b1
    simp only [c3,zam.k16,zam.r18,zam.c18,cond_false,wr,j2,j3,j4,j5,cxC,b1',jam,ex0,ex1,jag,j6]
    refine row g1 (farV p n i) (kP p n i+1) ?_ hks.symm (fun j hj hjf=>?_) H2 og1
    ·show farV p n i=if farF p n i=true then farV p n i else atV p n i
     rw [if_pos hff]
    ·by_cases e:j=i
     ·rw [e];exact hx
     ·exact ha j (by omega) hjf
   ·have c3:(((atV p n i:Nat):Int) != ((2147483648+kP p n i:Nat):Int))=true:=by rw [bne_iff_ne];omega
    refine .inr ?_
    have hb:=bad (fun hh=>hx (hh.1 i hlt hff)) g1 og1
    simp only [c3,zam.k16,zam.c17,cond_true]
    exact hb
  ·have hff:farF p n i=false:=dF hf
   have hks:kP p n (i+1)=kP p n i:=by rw [hks,if_neg (by rw [hff];decide)];rfl
   have c2:decide (((atV p n i:Nat):Int)≥2147483648)=false:=dF (by omega)
   simp only [c2,zam.k15,cond_false]
   refine row g1 (atV p n i) (kP p n i) ?_ hks.symm (fun j hj hjf=>?_) H2 og1
   ·show atV p n i=if farF p n i=true then farV p n i else atV p n i
    rw [if_neg (by rw [hff];decide)]
   ·by_cases e:j=i
    ·rw [e,hff] at hjf;cases hjf
    ·exact ha j (by omega) hjf
 ·rintro s g n' ⟨i,hi,rfl,ha,ho,H1,og⟩
  obtain rfl:i=n:=by omega
  have c1:decide ((i:Int)<(i:Int))=false:=dF (by omega)
  rw [Nat.sub_self,List.replicate_zero,List.append_nil,List.take_of_length_le (by rw [jbn];omega)] at H1
  have hf:=fin ha ho g H1 og
  simp only [zam.l12,zam.c12,zam.k12,c1,cond_false]
  exact hf
theorem pr_fans{F m:Nat}(hF:5000<F){out:Res→Prop}{Jn:V×V×Int×V×Unit→AH→Res}{Jr:V×V×V×Unit→AH→Res}{h:AH}{b b1 e n0:Nat}{pv v:V}{p:List Nat}{l:List Row}{en:Int}(hw:h.WF)(hlen:p.length≤1000000)(hl:1096≤p.length)(hll:l.length≤4096)(hn0:n0≤h.next)
  (hR:∀ g,Old n0 h g→Rd g b e pv p)
  (bad:¬fanOK p l 256→∀ h',Old n0 h h'→out ((bA (bld [] (List.replicate 32 (.int .u8 0))) h' fun x h487=>bS (st 32 (.ptr ⟨b1,32,0⟩) (.agg x) h487) fun h488=>Jr (.nilslice,.ptr ⟨b1,32,0⟩,.int .i64 4,()) h488)))
  (fin:fanOK p l 256→∀ h',Old n0 h h'→out (Jn (pv,.ptr ⟨b1,32,0⟩,en,v,()) h')) :
  out (zam.k24 (cx F (m+3)) Jn Jr (pv,.ptr ⟨b1,32,0⟩,.ptr ⟨b,1,0⟩,en,v,iL 256 (upto l),0,()) h):=by
 show out (jaw zam.P50 F (fun t h n'=>zam.l25 (cx F (m+3)) n' Jn Jr t h) (pv,.ptr ⟨b1,32,0⟩,.ptr ⟨b,1,0⟩,en,v,iL 256 (upto l),0,()) h)
 refine jah (S:=zam.P50) (out:=out)
  (fun k s g=>∃ i:Nat,i+k=256∧s=(pv,.ptr ⟨b1,32,0⟩,.ptr ⟨b,1,0⟩,en,v,iL 256 (upto l),(i:Int),())∧fanOK p l i∧Old n0 h g) ?_ ?_ 256 F _ _ ⟨0,rfl,rfl,(fun b hb=>by omega),Old.refl hw _⟩ (by omega)
 ·rintro k s g n' ⟨i,hi,rfl,ho,og⟩
  have hx:i<256:=by omega
  have hu:=upto_le l i
  have Rg:=hR g og
  have i1:IntKind.wrap .i64 (4*(i:Int))=((4*i:Nat):Int):=wi (by omega) (by omega)
  have i2:IntKind.wrap .i64 (8+((4*i:Nat):Int))=((8+4*i:Nat):Int):=wi (by omega) (by omega)
  have i3:IntKind.wrap .i64 ((i:Int)+1)=((i+1:Nat):Int):=wi (by omega) (by omega)
  obtain ⟨g1,e1,o1⟩:=four_cell (F:=F) (n:=m+1) (by omega) og.wf Rg.bs (by omega) (a:=8+4*i) (by omega)
  have e1':runC (EE F) (m+3) nzar [.agg [pv],.int .i64 ((8+4*i:Nat):Int)] g=some (.int .u64 ((fanV p i:Nat):Int),g1):=e1
  have og1:Old n0 h g1:=og.trans (o1.weak (Nat.le_trans hn0 og.next))
  have c1:decide ((i:Int)<256)=true:=dT (by omega)
  have ei:ixC 256 1 (iL 256 (upto l)) (i:Int)=some (.int .i64 ((upto l i:Nat):Int)):=by
   unfold ixC
   rw [if_pos (by omega),Int.toNat_natCast,Nat.mul_one,iL_get _ hx]
  have j1:IntKind.wrap .u64 ((upto l i:Nat):Int)=((upto l i:Nat):Int):=jcg (by omega)
  by_cases he:fanV p i=upto l i
  ·have c2:(((fanV p i:Nat):Int) != ((upto l i:Nat):Int))=false:=by rw [he];exact bne_self_eq_false ..
   refine .inl ⟨_,g1,?_,i+1,by omega,rfl,fun b hb=>?_,og1⟩
   ·simp only [zam.l25,zam.c25,zam.k25,zam.r26,zam.c26,zam.k27,zam.r29,zam.c29,c1,cond_true,ei,jag,Rg.ldA,jaf,wr,i1,i2,cxC,e1',jan,j1,c2,cond_false,i3]
   ·by_cases e:b=i
    ·rw [e];exact he
    ·exact ho b (by omega)
  ·have c2:(((fanV p i:Nat):Int) != ((upto l i:Nat):Int))=true:=by rw [bne_iff_ne];omega
   refine .inr ?_
   have hb:=bad (fun hh=>he (hh i hx)) g1 og1
   simp only [zam.l25,zam.c25,zam.k25,zam.r26,zam.c26,zam.k27,zam.c28,c1,cond_true,ei,jag,Rg.ldA,jaf,wr,i1,i2,cxC,e1',jan,j1,c2]
   simp only [bA] at hb
   exact hb
 ·rintro s g n' ⟨i,hi,rfl,ho,og⟩
  obtain rfl:i=256:=by omega
  have c1:decide (((256:Nat):Int)<256)=false:=rfl
  have hf:=fin ho g og
  simp only [zam.l25,zam.c25,zam.k25,c1,cond_false]
  exact hf
theorem mk_rows{h:AH}(hw:h.WF){n:Nat}(hn:n≤100000):∃ v h',mkS 34 48 (List.replicate 32 (.int .u8 0)++[.int .u32 0]++[.int .u64 0]) jak (n:Int) (n:Int) h=some (v,h')∧Has h.next v h' (List.replicate n rz)∧Old h.next h h':=by
 obtain ⟨v,h',e1,e2,e3⟩:=mkS_own hw (z:=34) (by_:=48) (e:=jak) (zs:=zRow) rfl (by omega) rfl (l:=n) (by omega) (by omega)
 refine ⟨v,h',e1,⟨?_,fun r hr=>by rw [List.eq_of_mem_replicate hr];exact rz_ok⟩,e3⟩
 have e4:(List.replicate n zRow).flatten=rowsL (List.replicate n rz):=by
  unfold rowsL
  rw [List.flatMap_def,List.map_replicate]
  rfl
 rw [e4] at e2
 rw [OwnR,List.length_replicate]
 exact e2
end Go.Proofs.YtcmhoboglapbdaaDoor
namespace Go.Proofs.YtcmhoboglapbdaaDoor
open Go Ev
theorem et0(a b c:V):jat (.tuple [a,b,c]) 0=some a:=rfl
theorem et1(a b c:V):jat (.tuple [a,b,c]) 1=some b:=rfl
theorem et2(a b c:V):jat (.tuple [a,b,c]) 2=some c:=rfl
theorem parseR_e{p:List Nat}(h:(szM p).2.2≠0):jas p=([],z32,(szM p).2.2):=if_pos h
theorem parseR_s{p:List Nat}(h:¬(szM p).2.2≠0)(hs:¬sumM (p.take (p.length-32))=p.drop (p.length-32)):jas p=([],z32,6):=by
 unfold jas;rw [if_neg h,if_pos hs]
theorem parseR_b{p:List Nat}(h:¬(szM p).2.2≠0)(hs:sumM (p.take (p.length-32))=p.drop (p.length-32))(hr:¬readOK p (szM p).1):jas p=([],z32,4):=by
 unfold jas;rw [if_neg h,if_neg (fun hh=>hh hs),if_neg hr]
theorem parseR_g{p:List Nat}(h:¬(szM p).2.2≠0)(hs:sumM (p.take (p.length-32))=p.drop (p.length-32))(hr:readOK p (szM p).1):jas p=(jbq p (szM p).1,part p (p.length-64) 32,0):=by
 unfold jas;rw [if_neg h,if_neg (fun hh=>hh hs),if_pos hr]
theorem bld_one{v:V}(h1:v.cells=[v])(h2:v.isBad=false):bld [(0,1,v)] [.nilslice]=some (.agg [v]):=by
 show (fillW _ _).map V.agg=_
 unfold fillW
 rw [if_pos ⟨h2,by rw [h1];rfl,by simp⟩]
 show (fillW [] (putL v.cells 0 [.nilslice])).map V.agg=_
 rw [h1];rfl
theorem parse_cps{F m:Nat}(hF:2000000<F){h:AH}(hw:h.WF)(hk:KT h){pv:V}{p:List Nat}(hp:Bs h pv p)(hlen:p.length≤1000000)
  {out:Res→Prop} (fin:∀ w h',OwnR h.next jak h' w (jas p).1→Old h.next h h'→out (some (.tuple [w,.agg (jaa (jas p).2.1),.int .i64 (jas p).2.2],h'))) :
  out (runC (EE F) (m+4) nzam [pv] h):=by
 rw [tzam]
 have hpos:=hk.pos hw
 obtain ⟨a1,a2,a3,a4⟩:=jay hw (List.replicate 32 (.int .u8 0)) jab rfl (by simp)
 have a2':(al (List.replicate 32 (.int .u8 0)) jab h).1=.ptr ⟨h.next,32,0⟩:=a2
 generalize hh1:(al (List.replicate 32 (.int .u8 0)) jab h).2=h1 at *
 have a1':jal h1 h.next jab (jaa z32):=a1
 have hp1:=hp.old hw a4
 obtain ⟨c2,c1,c3,c4⟩:=cell_al a4.wf .nilslice jba rfl
 generalize hh2:(al [.nilslice] jba h1).2=h2 at *
 obtain ⟨h3,s1,s2,s3⟩:=c1.put c4.wf (n:=1) (vs:=[pv]) rfl rfl (by simp [hp.cellOk])
 have o23:Old h1.next h1 h3:=c4.trans (s3.old (Nat.le_refl _))
 have o13:Old h.next h h3:=a4.trans (o23.weak a4.next)
 have hp3:=hp.old hw o13
 have hC3:=a1'.old a4.wf o23
 have R3:Rd h3 h1.next jba pv p:=⟨s2,hp3⟩
 have hn1:=a4.next
 have hn3:=o13.next
 have hlt3:h1.next<h3.next:=by have:=s3.next;omega
 simp only [zam.fn,zam.c0,a2',hh1,bld_one hp.one.1 hp.one.2,jaf,c2,hh2,s1,jaj,R3.ldA,cxC]
 refine count_cps (m:=m) (out:=fun x=>out (cV x fun x10 h11 =>
   bI .i64 (jat x10 0) h11 fun x12 h13 =>
   bI .i64 (jat x10 1) h13 fun x14 h15 =>
   bI .i64 (jat x10 2) h15 fun x16 h17 =>
   zam.k2 (cx F (m+3)) zam.ret zam.ret (pv,.ptr ⟨h.next,32,0⟩,.ptr ⟨h1.next,1,0⟩,x12,x16,()) h17)) (by omega) o13.wf hp3 hlen (fun h4 o4=>?_)
 have o34:=o4
 have o14:Old h.next h h4:=o13.trans (o4.weak hn3)
 have hC4:jal h4 h.next jab (jaa z32):=hC3.old o13.wf o4
 have hn4:=o4.next
 simp only [szV,jam,et0,et1,et2,jag,zam.k2,zam.c3,zam.k3]
 have bad:∀ (x:Int) (g:AH),jas p=([],z32,x)→Old h.next h g→jal g h.next jab (jaa z32) →
   out (bA (bld [] (List.replicate 32 (.int .u8 0))) g fun y h487=>bS (st 32 (.ptr ⟨h.next,32,0⟩) (.agg y) h487) fun h488=>zam.ret (.nilslice,.ptr ⟨h.next,32,0⟩,.int .i64 x,()) h488):=by
  intro x g hx og hc
  obtain ⟨g',p1,p2,p3,_⟩:=err_set (n0:=h.next) hc rfl og.wf (Nat.le_refl _) (y:=z32) rfl
  have f:=fin .nilslice g' (by rw [hx];exact own_nil _ _ _ _) (og.trans p3)
  rw [hx] at f
  simp only [zero_id,jaf,p1,jaj,zam.ret,fin3 p2]
  exact f
 by_cases he:(szM p).2.2=0
 ·have e0:((szM p).2.2 != 0)=false:=by rw [he];rfl
  have hne:¬(szM p).2.2≠0:=fun hh=>hh he
  obtain ⟨q1,q2,q3,q4,q5⟩:=(szM_cases p).resolve_left hne
  have hn':(szM p).1=jbp p:=by rw [q1]
  rw [hn']
  have hkle:=kP_le p (jbp p) (jbp p)
  have pb:=fun hs hr=>parseR_b hne hs hr
  have pg:=fun hs hr=>parseR_g hne hs hr
  have ps:=fun hs=>parseR_s hne hs
  rw [hn'] at pb pg
  generalize jbp p=n at *
  have R4:=R3.old o13.wf o4
  have i1:IntKind.wrap .i64 ((p.length:Int)-32)=((p.length-32:Nat):Int):=wi (by omega) (by omega)
  obtain ⟨w1,u1,u2⟩:=R4.bs.cut (lo:=none) (hi:=some (.int .i64 ((p.length-32:Nat):Int))) (l:=0) (u:=p.length-32) (.inr rfl) (.inl ⟨rfl,rfl⟩) (by omega) (by omega)
  rw [List.drop_zero,Nat.sub_zero] at u2
  have k4:KT h4:=hk.old hpos o14
  have htl:(p.take (p.length-32)).length=p.length-32:=by rw [List.length_take];omega
  obtain ⟨h5,e5,o5⟩:=sum_spec (F:=F) (n:=m+1) o4.wf k4 u2 (by omega) (by omega)
  obtain ⟨w6,h6,t1,t2,t3,t4,t5⟩:=ids_tmp o5.wf (jby (p.take (p.length-32))) (sumM_byte _)
  have o46:Old h4.next h4 h6:=o5.trans (t5.weak o5.next)
  have R6:=R4.old o4.wf o46
  obtain ⟨w7,v1,v2⟩:=R6.bs.cut (lo:=some (.int .i64 ((p.length-32:Nat):Int))) (hi:=none) (l:=p.length-32) (u:=p.length) (.inl ⟨rfl,rfl⟩) (.inr rfl) (by omega) (by omega)
  rw [List.take_of_length_le (by rw [List.length_drop];omega)] at v2
  have e7:=bytesEqual_spec (F:=F) (n:=m+2) t4 v2
  have o16:Old h.next h h6:=o14.trans (o46.weak (Nat.le_trans hn3 hn4))
  have hC6:jal h6 h.next jab (jaa z32):=hC4.old o4.wf o46
  have hn6:=o46.next
  simp only [e0,cond_false,zam.r5,zam.c5,R4.bs.1.len,jag,wr,i1,zam.k5,zam.c6,u1,jae,cxC,e5,cA_some,t1,t2,jaj,t3,v1,e7,cB_some]
  by_cases hs:sumM (p.take (p.length-32))=p.drop (p.length-32)
  ·rw [dT hs]
   simp only [Bool.not_true,zam.k7,zam.r9,zam.c9,cond_false]
   obtain ⟨w8,h8,e8,H8,o8⟩:=mk_rows t5.wf (n:=n) (by omega)
   have R8:=R6.old t5.wf o8
   have o68:=o8
   have H8l:=H8.own.sl.len
   rw [List.length_replicate] at H8l
   simp only [e8,jam,zam.k10,zam.c11,H8l,jag]
   have o38:Old h3.next h3 h8:=o34.trans ((o46.trans (o8.weak hn6)).weak hn4)
   have hcc:∀ g,Old h6.next h8 g→Old h.next h g:=fun g og=>o16.trans ((o8.trans og).weak (by omega))
   have hCg:∀ g,Old h6.next h8 g→jal g h.next jab (jaa z32):=fun g og=>hC6.oldN (by have:=hC6.lt t5.wf;omega) (o8.trans og)
   refine pr_rows (m:=m) (n:=n) (n0:=h6.next) (out:=out) (by omega) o8.wf (by omega) hlen (by omega) o8.next (fun g og=>R6.old t5.wf (o8.trans og)) hCg H8 (fun hbad g og=>?_) (fun hA hO g9 H9 o9=>?_)
   ·exact bad 4 g (pb hs (fun hr=>hbad ⟨hr.1,hr.2.1⟩)) (hcc g og) (hCg g og)
   ·have hrl:=jbn p n
    obtain ⟨h10,e10,o10⟩:=fan_spec (F:=F) (n:=m+2) (by omega) o9.wf H9.rs (by rw [hrl];omega) (by rw [hrl];omega)
    have o9':=o9.next
    have o8':=o8.next
    have o8_10:Old h6.next h8 h10:=o9.trans (o10.weak (by omega))
    simp only [zam.r24,zam.c24,cxC,e10,cA_some]
    have o8_10n:=o8_10.next
    refine pr_fans (m:=m) (n0:=h10.next) (out:=out) (by omega) o10.wf hlen (by omega) (by rw [hrl];omega) (Nat.le_refl _) (fun g og=>R6.old t5.wf (o8.trans (o8_10.trans (og.weak (by omega))))) (fun hbad g og=>?_) (fun hFn g11 o11=>?_)
    ·have og':=o8_10.trans (og.weak (show h6.next≤h10.next by omega))
     exact bad 4 g (pb hs (fun hr=>hbad hr.2.2)) (hcc g og') (hCg g og')
    ·have o8_11:=o8_10.trans (o11.weak (show h6.next≤h10.next by omega))
     have R11:=R6.old t5.wf (o8.trans o8_11)
     have C11:=hCg g11 o8_11
     have j1:IntKind.wrap .i64 (((p.length-32:Nat):Int)-32)=((p.length-64:Nat):Int):=wi (by omega) (by omega)
     obtain ⟨x1,y1,y2⟩:=R11.bs.cut (lo:=some (.int .i64 ((p.length-64:Nat):Int))) (hi:=some (.int .i64 ((p.length-32:Nat):Int))) (l:=p.length-64) (u:=p.length-32) (.inr rfl) (.inr rfl) (by omega) (by omega)
     rw [show p.length-32-(p.length-64)=32 by omega] at y2
     change Bs g11 x1 (part p (p.length-64) 32) at y2
     have hpl:(part p (p.length-64) 32).length=32:=jcl (by omega)
     obtain ⟨x2,y3,y4⟩:=y2.arr (m:=32) (by omega) (by omega)
     rw [List.take_of_length_le (by omega)] at y4
     obtain ⟨g12,p1,p2,p3,p4⟩:=err_set (n0:=h.next) C11 rfl o11.wf (Nat.le_refl _) (y:=part p (p.length-64) 32) hpl
     have hg:=pg hs ⟨hA,hO,hFn⟩
     have H11:=(H9.old o9.wf o10).old o10.wf o11
     have H12:OwnR h6.next jak g12 w8 (jbq p n):=H11.own.keep fun b hb=>p4.rest b (fun e=>hb (e▸H11.own.fresh (by omega)))
     have f:=fin w8 g12 (by rw [hg];exact H12.weak (by omega)) ((hcc g11 o8_11).trans p3)
     rw [hg] at f
     simp only [zam.r30,zam.c30,wr,j1,y1,jae,y3,jbf y4,jaf,p1,jaj,zam.ret,fin3 p2]
     exact f
  ·rw [dF hs]
   simp only [Bool.not_false,zam.k7,zam.c8,cond_true]
   exact bad 6 h6 (ps hs) o16 hC6
 ·have e0:((szM p).2.2 != 0)=true:=by rw [bne_iff_ne];exact he
  simp only [e0,cond_true,zam.c4]
  exact bad _ h4 (parseR_e he) o14 hC4
end Go.Proofs.YtcmhoboglapbdaaDoor
namespace Go.Proofs.YtcmhoboglapbdaaDoor
open Go Ev
def rowsF(p:List Nat)(n:Nat):List (Row×Bool):=(List.range n).map fun i=>(rowP p n i,farF p n i)
theorem rowsF_fst(p:List Nat)(n:Nat):(rowsF p n).map (·.1)=jbq p n:=by unfold rowsF jbq;rw [List.map_map];rfl
def farsF(p:List Nat)(n:Nat):List Bool:=(List.range n).map (farF p n)
theorem rowsF_snd(p:List Nat)(n:Nat):(rowsF p n).map (·.2)=farsF p n:=by unfold rowsF farsF;rw [List.map_map];rfl
theorem rowsF_len(p:List Nat)(n:Nat):(rowsF p n).length=n:=by simp [rowsF]
theorem farsF_len(p:List Nat)(n:Nat):(farsF p n).length=n:=by simp [farsF]
theorem farsF_get{p:List Nat}{n i:Nat}(h:i<n):(farsF p n)[i]?=some (farF p n i):=by
 unfold farsF;rw [List.getElem?_map,List.getElem?_range h];rfl
def docOK(p:List Nat)(n:Nat):Prop:=ordOK p n n∧jbg (rowsF p n) (part p (p.length-64) 32)=p
open Classical in
noncomputable def docR(p:List Nat):List Row×List Nat×Int :=
 if (szM p).2.2≠0 then ([],z32,(szM p).2.2) else if ¬sumM (p.take (p.length-32))=p.drop (p.length-32) then ([],z32,6)
 else if docOK p (szM p).1 then (jbq p (szM p).1,part p (p.length-64) 32,0) else ([],z32,4)
theorem docR_e{p:List Nat}(h:(szM p).2.2≠0):docR p=([],z32,(szM p).2.2):=if_pos h
theorem docR_s{p:List Nat}(h:¬(szM p).2.2≠0)(hs:¬sumM (p.take (p.length-32))=p.drop (p.length-32)):docR p=([],z32,6):=by
 unfold docR;rw [if_neg h,if_pos hs]
theorem docR_b{p:List Nat}(h:¬(szM p).2.2≠0)(hs:sumM (p.take (p.length-32))=p.drop (p.length-32))(hr:¬docOK p (szM p).1):docR p=([],z32,4):=by
 unfold docR;rw [if_neg h,if_neg (fun hh=>hh hs),if_neg hr]
theorem docR_g{p:List Nat}(h:¬(szM p).2.2≠0)(hs:sumM (p.take (p.length-32))=p.drop (p.length-32))(hr:docOK p (szM p).1):docR p=(jbq p (szM p).1,part p (p.length-64) 32,0):=by
 unfold docR;rw [if_neg h,if_neg (fun hh=>hh hs),if_pos hr]
theorem fill_skip{α:Type}{A:List α}{n i:Nat}{d:α}(hi:i<n)(hx:A[i]?=some d):A.take i++List.replicate (n-i) d=A.take (i+1)++List.replicate (n-(i+1)) d:=by
 rw [show n-i=(n-(i+1))+1 by omega,List.replicate_succ,← jar hx,List.append_assoc];rfl
theorem row_setpos{g:AH}{b e:Nat}{r:Row}(hc:jal g b e (rowL r))(hr:r.ok)(hw:g.WF)(x:Nat):∃ g',st 1 (.ptr ⟨b,34,0+33⟩) (.int .u64 (x:Int)) g=some g'∧jal g' b e (rowL ⟨r.id,r.crc,x⟩)∧Wrote g g' b:=by
 have hl:=jav hr
 obtain ⟨g',w1,w2,w3,w4,w5,w6⟩:=hc.write hw (L:=34) (o:=0+33) (vs:=[V.int .u64 (x:Int)]) hl.symm rfl (by rw [hl];simp)
 refine ⟨g',st_of rfl w1,?_,w3,w4,w5,w6⟩
 have e:putL [V.int .u64 (x:Int)] (0+33) (rowL r)=rowL ⟨r.id,r.crc,x⟩:=by
  have hb:(jaa r.id).length=32:=by rw [jad,hr.1]
  unfold putL rowL
  rw [List.take_append,List.take_of_length_le (by omega),hb,List.drop_append,List.drop_of_length_le (by rw [hb];simp),hb]
  simp
 rw [← e];exact w2
theorem bsl_row'{h:AH}(hw:h.WF){r:Row}(hr:r.ok)(e:Nat):∃ v h',bsl 34 1 [(0,34,(.agg (rowL r)))] (List.replicate 32 (.int .u8 0)++[.int .u32 0]++[.int .u64 0]) e h=some (v,h')∧OwnR h.next e h' v [r]∧Old h.next h h':=bsl_row hw hr e
theorem dp_rows{F m:Nat}(hF:5000<F){out:Res→Prop}{Jn:V×V×Int×V×V×Unit→AH→Res}{Jr:V×V×V×Unit→AH→Res}{h:AH}{n n0:Nat}{pv x1 w:V}{p:List Nat}(hw:h.WF)(hn:n≤4096)(hlen:p.length≤1000000)(hl:p.length=1096+40*n+8*kP p n n)(hn0:n0≤h.next)
  (hR:∀ g,Old n0 h g→Bs g pv p) (hL:Own n0 1 T_bool h w (List.replicate n false).length (boolL (List.replicate n false)))
  (fin:∀ v h',OwnR n0 jac h' v (jbq p n)→Own n0 1 T_bool h' w (farsF p n).length (boolL (farsF p n))→Old n0 h h'→out (Jn (pv,x1,(n:Int),v,w,()) h')) :
  out (zbc.k10 (cx F (m+3)) Jn Jr (pv,x1,(n:Int),.nilslice,w,0,0,()) h):=by
 have hp8:=(hR h (Old.refl hw _)).2
 show out (jaw zbc.P22 F (fun t h n'=>zbc.l11 (cx F (m+3)) n' Jn Jr t h) (pv,x1,(n:Int),.nilslice,w,0,0,()) h)
 refine jah (S:=zbc.P22) (out:=out)
  (fun k s g=>∃ (i:Nat) (v:V),i+k=n∧s=(pv,x1,(n:Int),v,w,((kP p n i:Nat):Int),(i:Int),())∧OwnR n0 jac g v ((jbq p n).take i) ∧
   Own n0 1 T_bool g w ((farsF p n).take i++List.replicate (n-i) false).length (boolL ((farsF p n).take i++List.replicate (n-i) false))∧Dis v w∧Old n0 h g) ?_ ?_ n F _ _
  ⟨0,.nilslice,by omega,rfl,own_nil _ _ _ _,by simpa using hL,(dis_nil w).symm,Old.refl hw _⟩ (by omega)
 ·rintro k s g n' ⟨i,v,hi,rfl,hv,hb,hd,og⟩
  have hlt:i<n:=by omega
  have Bg:=hR g og
  have hk:=kP_le p n i
  have hkm:=kP_mono p n (show i+1≤n by omega)
  have hks:=kP_succ p n i
  have c1:decide ((i:Int)<(n:Int))=true:=dT (by omega)
  have i3:IntKind.wrap .i64 ((i:Int)+1)=((i+1:Nat):Int):=wi (by omega) (by omega)
  have i4:IntKind.wrap .i64 (4*(i:Int))=((4*i:Nat):Int):=wi (by omega) (by omega)
  have j1:IntKind.wrap .i64 (32*(i:Int))=((32*i:Nat):Int):=wi (by omega) (by omega)
  have j2:IntKind.wrap .i64 (1032+((32*i:Nat):Int))=((1032+32*i:Nat):Int):=wi (by omega) (by omega)
  have j4:IntKind.wrap .i64 (32*(n:Int))=((32*n:Nat):Int):=wi (by omega) (by omega)
  have j5:IntKind.wrap .i64 (1032+((32*n:Nat):Int))=((1032+32*n:Nat):Int):=wi (by omega) (by omega)
  have j6:IntKind.wrap .i64 (((1032+32*n:Nat):Int)+((4*i:Nat):Int))=((1032+32*n+4*i:Nat):Int):=wi (by omega) (by omega)
  have i1:IntKind.wrap .i64 (36*(n:Int))=((36*n:Nat):Int):=wi (by omega) (by omega)
  have i2:IntKind.wrap .i64 (1032+((36*n:Nat):Int))=((1032+36*n:Nat):Int):=wi (by omega) (by omega)
  have i5:IntKind.wrap .i64 (((1032+36*n:Nat):Int)+((4*i:Nat):Int))=((1032+36*n+4*i:Nat):Int):=wi (by omega) (by omega)
  obtain ⟨g1,e1,o1⟩:=id_spec (F:=F) (n:=m+2) (by omega) og.wf Bg (by omega) (a:=1032+32*i) (by omega)
  have og1:=og.trans (o1.weak (Nat.le_trans hn0 og.next))
  have e2:=r02Big_spec (F:=F) (n:=m+2) (by omega) (hR g1 og1) (by omega) (a:=1032+32*n+4*i) (m:=4) (by omega) (by omega)
  have e3:=r02Big_spec (F:=F) (n:=m+2) (by omega) (hR g1 og1) (by omega) (a:=1032+36*n+4*i) (m:=4) (by omega) (by omega)
  have e1':runC (EE F) (m+3) nzbe [pv,.int .i64 ((1032+32*i:Nat):Int)] g=some (.agg (jaa (idV p i)),g1):=e1
  have e2':runC (EE F) (m+3) nzay [pv,.int .i64 ((1032+32*n+4*i:Nat):Int),.int .i64 4] g1=some (.int .u64 ((crcV p n i:Nat):Int),g1):=e2
  have e3':runC (EE F) (m+3) nzay [pv,.int .i64 ((1032+36*n+4*i:Nat):Int),.int .i64 4] g1=some (.int .u64 ((atV p n i:Nat):Int),g1):=e3
  have hrok:=rowP_ok hp8 hlt (show 1096+40*n≤p.length by omega)
  have hcr':crcV p n i<4294967296:=hrok.2.2.1
  have hat:atV p n i<4294967296:=g4_lt hp8 _
  have j7:IntKind.wrap .u32 ((crcV p n i:Nat):Int)=((crcV p n i:Nat):Int):=by rw [wr_u32];omega
  have hr0:(⟨idV p i,crcV p n i,atV p n i⟩:Row).ok:=⟨hrok.1,hrok.2.1,hcr',show atV p n i<18446744073709551616 by omega⟩
  have hbld:bld [(0,32,(.agg (jaa (idV p i)))),(32,1,(.int .u32 ((crcV p n i:Nat):Int))),(33,1,(.int .u64 ((atV p n i:Nat):Int)))] zRow=some (.agg (rowL ⟨idV p i,crcV p n i,atV p n i⟩)):=bld_row hr0
  obtain ⟨g2,t1,t2,t3,t4,t5⟩:=tmp_row o1.wf hr0 jac
  have o12:Old g.next g g2:=o1.trans (t4.weak o1.next)
  have og2:Old n0 h g2:=og.trans (o12.weak (Nat.le_trans hn0 og.next))
  have hv2:=hv.old og.wf o12
  have hb2:=hb.old og.wf o12
  have hfl:((farsF p n).take i++List.replicate (n-i) false).length=n:=by rw [List.length_append,List.length_take,List.length_replicate,farsF_len];omega
  have hrl:((jbq p n).take i).length=i:=by rw [List.length_take,jbn];omega
  have last:∀ (g3:AH) (k':Nat),k'=kP p n (i+1)→jal g3 g1.next jac (rowL (rowP p n i))→OwnR n0 jac g3 v ((jbq p n).take i) →
    Own n0 1 T_bool g3 w ((farsF p n).take (i+1)++List.replicate (n-(i+1)) false).length (boolL ((farsF p n).take (i+1)++List.replicate (n-(i+1)) false))→Old n0 h g3 →
    ∃ s' h',zbc.r18 (cx F (m+3)) (zbc.r12 (cx F (m+3)) n' Jn Jr) (zbc.r12 (cx F (m+3)) n' Jn Jr) Jn Jr (pv,x1,(n:Int),v,w,((k':Nat):Int),(i:Int),.ptr ⟨g1.next,34,0⟩,()) g3=n' s' h' ∧
     ∃ (i:Nat) (v:V),i+k=n∧s'=(pv,x1,(n:Int),v,w,((kP p n i:Nat):Int),(i:Int),())∧OwnR n0 jac h' v ((jbq p n).take i) ∧
      Own n0 1 T_bool h' w ((farsF p n).take i++List.replicate (n-i) false).length (boolL ((farsF p n).take i++List.replicate (n-i) false))∧Dis v w∧Old n0 h h':=by
   intro g3 k' hk' hc hv3 hb3 og3
   subst hk'
   have ea:ldA 34 (.ptr ⟨g1.next,34,0⟩) g3=some (.agg (rowL (rowP p n i))):=hc.ldA (jav hrok).symm
   obtain ⟨y,g4',s1,s2,s3⟩:=bsl_row' og3.wf hrok jac
   obtain ⟨v5,g5,a1,a2,a3,a4,a5⟩:=app_rows (hv3.old og3.wf s3) (rs_one s2 hrok) s3.wf (Nat.le_trans hn0 (Nat.le_trans og3.next s3.next)) (by rw [hrl];simp;omega)
   rw [jar (rowsP_get hlt)] at a2
   obtain ⟨hb5,hd5⟩:=(hb3.old og3.wf s3).beside s3.wf hd ⟨a3.next,a4,a5⟩
   refine ⟨_,g5,?_,i+1,v5,by omega,rfl,a2,hb5,hd5,(og3.trans (s3.weak (Nat.le_trans hn0 og3.next))).trans a3⟩
   simp -implicitDefEqProofs only [zbc.r18,zbc.c18,zbc.r12,zbc.c12,ea,jaf,s1,jam,a1,wr,i3]
  refine .inl ?_
  simp -implicitDefEqProofs only [zbc.l11,zbc.c11,zbc.k11,zbc.r13,zbc.c13,c1,cond_true,wr,i1,i2,i4,i5,j1,j2,j4,j5,j6,cxC,e1',cA_some,e2',e3',jan,j7,hbld,jaf,t1,t2,jaj,zbc.k13,zbc.c14,jbu,jae,row_pos t3 hr0,jag]
  by_cases hf:2147483648≤atV p n i
  ·have hff:farF p n i=true:=dT hf
   rw [if_pos hff] at hks
   have c2:decide (((atV p n i:Nat):Int)≥2147483648)=true:=dT (by omega)
   have q2:IntKind.wrap .i64 (40*(n:Int))=((40*n:Nat):Int):=wi (by omega) (by omega)
   have q3:IntKind.wrap .i64 (1032+((40*n:Nat):Int))=((1032+40*n:Nat):Int):=wi (by omega) (by omega)
   have q4:IntKind.wrap .i64 (8*((kP p n i:Nat):Int))=((8*kP p n i:Nat):Int):=wi (by omega) (by omega)
   have q5:IntKind.wrap .i64 (((1032+40*n:Nat):Int)+((8*kP p n i:Nat):Int))=((1032+40*n+8*kP p n i:Nat):Int):=wi (by omega) (by omega)
   have q6:IntKind.wrap .i64 (((kP p n i:Nat):Int)+1)=((kP p n i+1:Nat):Int):=wi (by omega) (by omega)
   obtain ⟨a,g3,s1,s2,s3,s4,s5⟩:=hb2.setBool t4.wf (i:=i) (by rw [hfl];omega) true
   rw [fill_set (farsF_len p n) hlt (by rw [farsF_get hlt,hff])] at s3
   have og3:=og2.trans s4
   have offw:notIn w g1.next:=Classical.byContradiction fun hh=>by have:=hb.alive og.wf hh;have:=o1.next;omega
   have offv:notIn v g1.next:=Classical.byContradiction fun hh=>by have:=hv.alive og.wf hh;have:=o1.next;omega
   have t3':jal g3 g1.next jac (rowL ⟨idV p i,crcV p n i,atV p n i⟩):=t3.mono (s5 _ offw)
   have hv3:OwnR n0 jac g3 v ((jbq p n).take i):=hv2.keep fun b hb'=>s5 b ((hd b).resolve_left hb')
   have e4:=r02Big_spec (F:=F) (n:=m+2) (by omega) (hR g3 og3) (by omega) (a:=1032+40*n+8*kP p n i) (m:=8) (by omega) (by omega)
   have e4':runC (EE F) (m+3) nzay [pv,.int .i64 ((1032+40*n+8*kP p n i:Nat):Int),.int .i64 8] g3=some (.int .u64 ((farV p n i:Nat):Int),g3):=e4
   obtain ⟨g4',y1,y2,y3⟩:=row_setpos t3' hr0 s4.wf (farV p n i)
   have hrow:(⟨idV p i,crcV p n i,farV p n i⟩:Row)=rowP p n i:=by unfold rowP;rw [if_pos hff]
   rw [hrow] at y2
   have hgn:=og.next
   have ho1n:=o1.next
   obtain ⟨s',h',z1,z2⟩:=last g4' (kP p n i+1) hks.symm y2 (hv3.keep fun b hb'=>y3.rest b (fun e=>hb' (e▸offv))) (s3.keep fun b hb'=>y3.rest b (fun e=>hb' (e▸offw))) (og3.trans (y3.old (by omega)))
   refine ⟨s',h',?_,z2⟩
   rw [← z1]
   simp -implicitDefEqProofs only [c2,zbc.k14,zbc.c15,cond_true,s1,jae,s2,jaj,wr,q2,q3,q4,q5,cxC,e4',jan,jbu,y1,q6]
  ·have hff:farF p n i=false:=dF hf
   have hks:kP p n (i+1)=kP p n i:=by rw [hks,if_neg (by rw [hff];decide)];rfl
   have c2:decide (((atV p n i:Nat):Int)≥2147483648)=false:=dF (by omega)
   have hrow:(⟨idV p i,crcV p n i,atV p n i⟩:Row)=rowP p n i:=by unfold rowP;rw [if_neg (by rw [hff];decide)]
   rw [hrow] at t3
   rw [fill_skip hlt (by rw [farsF_get hlt,hff])] at hb2
   obtain ⟨s',h',z1,z2⟩:=last g2 (kP p n i) hks.symm t3 hv2 hb2 og2
   refine ⟨s',h',?_,z2⟩
   rw [← z1]
   simp only [c2,zbc.k14,cond_false]
 ·rintro s g n' ⟨i,v,hi,rfl,hv,hb,hd,og⟩
  obtain rfl:i=n:=by omega
  have c1:decide ((i:Int)<(i:Int))=false:=dF (by omega)
  rw [List.take_of_length_le (by rw [jbn];omega)] at hv
  rw [Nat.sub_self,List.replicate_zero,List.append_nil,List.take_of_length_le (by rw [farsF_len];omega)] at hb
  have hf:=fin v g hv hb og
  simp only [zbc.l11,zbc.c11,zbc.k11,c1,cond_false]
  exact hf
theorem dp_ord{F m:Nat}(hF:5000<F){out:Res→Prop}{Jn:V×V×V×V×V×Unit→AH→Res}{Jr:V×V×V×Unit→AH→Res}{h:AH}{n b1:Nat}{pv q v w:V}{p:List Nat}(hw:h.WF)(hn:n≤4096)(hr:Rs h v (jbq p n))
  (bad:¬ordOK p n n→∀ h',Old h.next h h'→out ((bA (bld [] (List.replicate 32 (.int .u8 0))) h' fun x h487=>bS (st 32 (.ptr ⟨b1,32,0⟩) (.agg x) h487) fun h488=>Jr (.nilslice,.ptr ⟨b1,32,0⟩,.int .i64 4,()) h488)))
  (fin:ordOK p n n→∀ h',Old h.next h h'→out (Jn (pv,.ptr ⟨b1,32,0⟩,v,w,q,()) h')) :
  out (zbc.k20 (cx F (m+3)) Jn Jr (pv,.ptr ⟨b1,32,0⟩,(n:Int),v,w,q,1,()) h):=by
 show out (jaw zbc.P42 F (fun t h n'=>zbc.l21 (cx F (m+3)) n' Jn Jr t h) (pv,.ptr ⟨b1,32,0⟩,(n:Int),v,w,q,1,()) h)
 refine jah (S:=zbc.P42) (out:=out)
  (fun k s g=>∃ i:Nat,1≤i∧i+k=max n 1∧s=(pv,.ptr ⟨b1,32,0⟩,(n:Int),v,w,q,(i:Int),())∧ordOK p n i∧Old h.next h g) ?_ ?_ (max n 1-1) F _ _
  ⟨1,by omega,by omega,rfl,(fun i h0 hi=>by omega),Old.refl hw _⟩ (by omega)
 ·rintro k s g n' ⟨i,h1,hi,rfl,ho,og⟩
  have hlt:i<n:=by omega
  have c1:decide ((i:Int)<(n:Int))=true:=dT (by omega)
  have i1:IntKind.wrap .i64 ((i:Int)-1)=((i-1:Nat):Int):=wi (by omega) (by omega)
  have i3:IntKind.wrap .i64 ((i:Int)+1)=((i+1:Nat):Int):=wi (by omega) (by omega)
  have Rg:=hr.old hw og
  have k1:=Rg.2 _ (List.mem_of_getElem? (rowsP_get (p:=p) (n:=n) hlt))
  have k0:=Rg.2 _ (List.mem_of_getElem? (rowsP_get (p:=p) (n:=n) (show i-1<n by omega)))
  obtain ⟨a,u1,u2⟩:=Rg.at (rowsP_get hlt)
  obtain ⟨b,u3,u4⟩:=Rg.at (rowsP_get (show i-1<n by omega))
  obtain ⟨g1,e1,o1⟩:=rcompare_spec (F:=F) (n:=m+2) (by omega) og.wf k0.1 k1.1
  have og1:=og.trans (o1.weak og.next)
  by_cases hl:Lt (rowP p n (i-1)) (rowP p n i)
  ·have hl':cmpN (rowP p n (i-1)).id (rowP p n i).id<0:=hl
   have c2:decide (cmpN (rowP p n (i-1)).id (rowP p n i).id≥0)=false:=dF (by omega)
   refine .inl ⟨_,g1,?_,i+1,by omega,by omega,rfl,fun j hj0 hj=>?_,og1⟩
   ·simp only [zbc.l21,zbc.c21,zbc.k21,zbc.r23,zbc.c23,zbc.k23,zbc.r22,zbc.c22,c1,cond_true,wr,i1,u3,jae,fA_at,rid_of u4 k0,jaf,u1,rid_of u2 k1,cxC,e1,jan,c2,cond_false,i3]
   ·by_cases e:j=i
    ·rw [e];exact hl
    ·exact ho j hj0 (by omega)
  ·have hl':¬cmpN (rowP p n (i-1)).id (rowP p n i).id<0:=hl
   have c2:decide (cmpN (rowP p n (i-1)).id (rowP p n i).id≥0)=true:=dT (by omega)
   refine .inr ?_
   have hb:=bad (fun hh=>hl (hh i (by omega) hlt)) g1 og1
   simp only [zbc.l21,zbc.c21,zbc.k21,zbc.r23,zbc.c23,zbc.k23,zbc.c24,c1,cond_true,wr,i1,u3,jae,fA_at,rid_of u4 k0,jaf,u1,rid_of u2 k1,cxC,e1,jan,c2]
   exact hb
 ·rintro s g n' ⟨i,h1,hi,rfl,ho,og⟩
  have c1:decide ((i:Int)<(n:Int))=false:=dF (by omega)
  have hf:=fin (fun j hj0 hj=>ho j hj0 (by omega)) g og
  simp only [zbc.l21,zbc.c21,zbc.k21,c1,cond_false]
  exact hf
theorem docParse_cps{F m:Nat}(hF:2000000<F){h:AH}(hw:h.WF){pv:V}{p:List Nat}(hp:Bs h pv p)(hlen:p.length≤1000000)
  {out:Res→Prop} (fin:∀ w h',OwnR h.next jac h' w (docR p).1→Old h.next h h'→out (some (.tuple [w,.agg (jaa (docR p).2.1),.int .i64 (docR p).2.2],h'))) :
  out (runC (EE F) (m+4) nzbc [pv] h):=by
 rw [tzbc]
 obtain ⟨a1,a2,a3,a4⟩:=jay hw (List.replicate 32 (.int .u8 0)) jab rfl (by simp)
 have a2':(al (List.replicate 32 (.int .u8 0)) jab h).1=.ptr ⟨h.next,32,0⟩:=a2
 generalize hh1:(al (List.replicate 32 (.int .u8 0)) jab h).2=h1 at *
 have a1':jal h1 h.next jab (jaa z32):=a1
 have hp1:=hp.old hw a4
 have hn1:=a4.next
 simp only [zbc.fn,zbc.c0,a2',hh1,cxC]
 refine sizes_cps (m:=m+1) (out:=fun x=>out (cV x fun x3 h4 =>
   bI .i64 (jat x3 0) h4 fun x5 h6 =>
   bI .i64 (jat x3 1) h6 fun x7 h8 =>
   bI .i64 (jat x3 2) h8 fun x9 h10 =>
   zbc.k1 (cx F (m+3)) zbc.ret zbc.ret (pv,.ptr ⟨h.next,32,0⟩,x5,x9,()) h10)) (by omega) hp1 hlen ?_
 simp only [szV,jam,et0,et1,et2,jag,zbc.k1,zbc.c2,zbc.k2]
 have bad:∀ (x:Int) (g:AH),docR p=([],z32,x)→Old h.next h g→jal g h.next jab (jaa z32) →
   out (bA (bld [] (List.replicate 32 (.int .u8 0))) g fun y h487=>bS (st 32 (.ptr ⟨h.next,32,0⟩) (.agg y) h487) fun h488=>zbc.ret (.nilslice,.ptr ⟨h.next,32,0⟩,.int .i64 x,()) h488):=by
  intro x g hx og hc
  obtain ⟨g',p1,p2,p3,_⟩:=err_set (n0:=h.next) hc rfl og.wf (Nat.le_refl _) (y:=z32) rfl
  have f:=fin .nilslice g' (by rw [hx];exact own_nil _ _ _ _) (og.trans p3)
  rw [hx] at f
  simp only [zero_id,jaf,p1,jaj,zbc.ret,fin3 p2]
  exact f
 by_cases he:(szM p).2.2=0
 ·have e0:((szM p).2.2 != 0)=false:=by rw [he];rfl
  have hne:¬(szM p).2.2≠0:=fun hh=>hh he
  obtain ⟨q1,q2,q3,q4,q5⟩:=(szM_cases p).resolve_left hne
  have hn':(szM p).1=jbp p:=by rw [q1]
  rw [hn']
  have hkle:=kP_le p (jbp p) (jbp p)
  have pb:=fun hs hr=>docR_b hne hs hr
  have pg:=fun hs hr=>docR_g hne hs hr
  have ps:=fun hs=>docR_s hne hs
  rw [hn'] at pb pg
  generalize jbp p=n at *
  have i1:IntKind.wrap .i64 ((p.length:Int)-32)=((p.length-32:Nat):Int):=wi (by omega) (by omega)
  obtain ⟨w1,u1,u2⟩:=hp1.cut (lo:=none) (hi:=some (.int .i64 ((p.length-32:Nat):Int))) (l:=0) (u:=p.length-32) (.inr rfl) (.inl ⟨rfl,rfl⟩) (by omega) (by omega)
  rw [List.drop_zero,Nat.sub_zero] at u2
  have htl:(p.take (p.length-32)).length=p.length-32:=by rw [List.length_take];omega
  obtain ⟨h5,e5,o5⟩:=rsum_spec (F:=F) (n:=m+1) a4.wf u2 (by omega) (by omega)
  obtain ⟨w6,h6,t1,t2,t3,t4,t5⟩:=ids_tmp o5.wf (jby (p.take (p.length-32))) (sumM_byte _)
  have o16:Old h1.next h1 h6:=o5.trans (t5.weak o5.next)
  have B6:=hp1.old a4.wf o16
  obtain ⟨w7,v1,v2⟩:=B6.cut (lo:=some (.int .i64 ((p.length-32:Nat):Int))) (hi:=none) (l:=p.length-32) (u:=p.length) (.inl ⟨rfl,rfl⟩) (.inr rfl) (by omega) (by omega)
  rw [List.take_of_length_le (by rw [List.length_drop];omega)] at v2
  have e7:=same_spec (F:=F) (n:=m+2) t4 v2
  have oh6:Old h.next h h6:=a4.trans (o16.weak hn1)
  have hC6:jal h6 h.next jab (jaa z32):=a1'.old a4.wf o16
  have hn6:=o16.next
  simp only [e0,cond_false,zbc.r4,zbc.c4,hp1.1.len,jag,wr,i1,u1,jae,cxC,e5,cA_some,t1,t2,jaj,zbc.k4,zbc.c5,t3,B6.1.len,v1,e7,cB_some]
  by_cases hs:sumM (p.take (p.length-32))=p.drop (p.length-32)
  ·rw [dT hs]
   simp only [Bool.not_true,zbc.k5,zbc.r7,zbc.c7,cond_false]
   obtain ⟨w8,h8,e8,H8,o8⟩:=mk_bools t5.wf (n:=n) (by omega)
   have hcc:∀ g,Old h6.next h8 g→Old h.next h g:=fun g og=>oh6.trans ((o8.trans og).weak (by omega))
   have hCg:∀ g,Old h6.next h8 g→jal g h.next jab (jaa z32):=fun g og=>hC6.oldN (by have:=hC6.lt t5.wf;omega) (o8.trans og)
   have hBg:∀ g,Old h6.next h8 g→Bs g pv p:=fun g og=>B6.old t5.wf (o8.trans og)
   have o8n:=o8.next
   simp only [e8,jam,zbc.k9,zbc.c10]
   refine dp_rows (m:=m) (n:=n) (n0:=h6.next) (out:=out) (by omega) o8.wf (by omega) hlen (by omega) o8.next hBg H8 (fun v h9 H9 L9 o9=>?_)
   have hrl:=jbn p n
   have hp8:=hp.2
   have R9:Rs h9 v (jbq p n):=⟨H9.sl,rowsP_ok hp8 (by omega)⟩
   have B9:=hBg h9 o9
   have j0:IntKind.wrap .i64 ((p.length:Int)-64)=((p.length-64:Nat):Int):=wi (by omega) (by omega)
   obtain ⟨h10,e10,o10⟩:=id_spec (F:=F) (n:=m+2) (by omega) o9.wf B9 (by omega) (a:=p.length-64) (by omega)
   have hpl:(part p (p.length-64) 32).length=32:=jcl (by omega)
   obtain ⟨c1,c2,c3,c4⟩:=jay o10.wf (List.replicate 32 (.int .u8 0)) jab rfl (by simp)
   have c2':(al (List.replicate 32 (.int .u8 0)) jab h10).1=.ptr ⟨h10.next,32,0⟩:=c2
   generalize hh11:(al (List.replicate 32 (.int .u8 0)) jab h10).2=h11 at *
   obtain ⟨h12,y1,y2,y3⟩:=c1.put c4.wf (n:=32) (vs:=jaa (part p (p.length-64) 32)) rfl (by rw [jad,hpl]) (jap _)
   have o10_12:Old h10.next h10 h12:=c4.trans (y3.old (Nat.le_refl _))
   have o9_12:Old h9.next h9 h12:=o10.trans (o10_12.weak o10.next)
   have R12:=R9.old o9.wf o9_12
   have L12:=L9.old o9.wf o9_12
   have o9n:=o9.next
   have o8_12:Old h6.next h8 h12:=o9.trans (o9_12.weak (by omega))
   simp only [zbc.r19,zbc.c19,B9.1.len,jag,wr,j0,cxC,e10,cA_some,c2',hh11,y1,jaj,zbc.k19,zbc.c20]
   have y3n:=o9_12.next
   refine dp_ord (m:=m) (n:=n) (out:=out) (by omega) y3.wf (by omega) R12 (fun hbad g og=>?_) (fun hO h13 o13=>?_)
   ·have og':=o8_12.trans (og.weak (show h6.next≤h12.next by omega))
    exact bad 4 g (pb hs (fun hr=>hbad hr.1)) (hcc g og') (hCg g og')
   ·have o8_13:=o8_12.trans (o13.weak (show h6.next≤h12.next by omega))
    have R13:=R12.old y3.wf o13
    have L13:=L12.old y3.wf o13
    have P13:=y2.old y3.wf o13
    have ea:ldA 32 (.ptr ⟨h10.next,32,0⟩) h13=some (.agg (jaa (part p (p.length-64) 32))):=P13.ldA (by rw [jad,hpl])
    have o13n:=o13.next
    simp only [zbc.r25,zbc.c25,ea,jaf,cxC]
    have hb:Sl 1 h13 w8 (rowsF p n).length (boolL ((rowsF p n).map (·.2))):=by
     rw [rowsF_snd,rowsF_len]
     have:=L13.sl
     rw [farsF_len] at this
     exact this
    have hr:Rs h13 v ((rowsF p n).map (·.1)):=by rw [rowsF_fst];exact R13
    refine docBytes_cps (F:=F) (d:=m) (l:=rowsF p n) (out:=fun x=>out (cV x fun x101 h102 =>
   cB (runC (EE F) (m+3) nzav [x101,pv] h102) fun x103 h104 =>
   zbc.k25 (cx F (m+3)) (zbc.r27 (cx F (m+3)) zbc.ret zbc.ret) zbc.ret (.ptr ⟨h.next,32,0⟩,v,.ptr ⟨h10.next,32,0⟩,(!x103),()) h104)) o13.wf (by rw [rowsF_len];omega) hr hb (by rw [rowsF_len];omega) hpl (part_byte hp8 _ _) (fun v14 h14 w14 o14=>?_)
    have o8_14:=o8_13.trans (o14.weak (show h6.next≤h13.next by omega))
    have e14:=same_spec (F:=F) (n:=m+2) (w14.bs (buildM_byte (fun x hx=>by
     have:x.1∈(rowsF p n).map (·.1):=List.mem_map.2 ⟨x,hx,rfl⟩
     exact hr.2 _ this) (part_byte hp8 _ _))) (hBg h14 o8_14)
    simp only [jam,e14,cB_some]
    by_cases hbm:jbg (rowsF p n) (part p (p.length-64) 32)=p
    ·rw [dT hbm]
     have hg:=pg hs ⟨hO,hbm⟩
     have P14:=P13.old o13.wf o14
     have ea14:ldA 32 (.ptr ⟨h10.next,32,0⟩) h14=some (.agg (jaa (part p (p.length-64) 32))):=P14.ldA (by rw [jad,hpl])
     have H14:OwnR h6.next jac h14 v (jbq p n):=((H9.old o9.wf o9_12).old y3.wf o13).old o13.wf o14
     obtain ⟨g15,p1,p2,p3,p4⟩:=err_set (n0:=h.next) (hCg h14 o8_14) rfl o14.wf (Nat.le_refl _) (y:=part p (p.length-64) 32) hpl
     have H15:OwnR h6.next jac g15 v (jbq p n):=H14.keep fun b hb=>p4.rest b (fun e=>hb (e▸H14.fresh (by omega)))
     have f:=fin v g15 (by rw [hg];exact H15.weak (by omega)) ((hcc h14 o8_14).trans p3)
     rw [hg] at f
     simp only [Bool.not_true,zbc.k25,zbc.r27,zbc.c27,cond_false,ea14,jaf,p1,jaj,zbc.ret,fin3 p2]
     exact f
    ·rw [dF hbm]
     simp only [Bool.not_false,zbc.k25,zbc.c26,cond_true]
     exact bad 4 h14 (pb hs (fun hr=>hbm hr.2)) (hcc h14 o8_14) (hCg h14 o8_14)
  ·rw [dF hs]
   simp only [Bool.not_false,zbc.k5,zbc.c6,cond_true]
   exact bad 6 h6 (ps hs) oh6 hC6
 ·have e0:((szM p).2.2 != 0)=true:=by rw [bne_iff_ne];exact he
  simp only [e0,cond_true,zbc.c3]
  exact bad _ h1 (docR_e he) a4 a1'
end Go.Proofs.YtcmhoboglapbdaaDoor
namespace Go.Proofs.YtcmhoboglapbdaaDoor
open Go Ev
theorem part_add(p:List Nat)(a m k:Nat):part p a m++part p (a+m) k=part p a (m+k):=by
 unfold part
 rw [List.take_add,List.drop_drop]
theorem bigN_foldl(l:List Nat):∀ v,l.foldl (fun v b=>v*256+b) v=v*256 ^ l.length+bigN l:=by
 induction l with
 | nil=>intro v;show v=v*1+0;omega
 | cons b l ih =>
  intro v
  have h1:bigN (b :: l)=l.foldl (fun v b=>v*256+b) (0*256+b):=rfl
  rw [List.foldl_cons,ih,h1,ih,List.length_cons,Nat.pow_succ,Nat.zero_mul,Nat.zero_add,Nat.add_mul,Nat.mul_assoc,Nat.mul_comm 256,Nat.add_assoc]
theorem bigN_cons(b:Nat)(l:List Nat):bigN (b :: l)=b*256 ^ l.length+bigN l:=by
 have h1:bigN (b :: l)=l.foldl (fun v b=>v*256+b) (0*256+b):=rfl
 rw [h1,bigN_foldl,Nat.zero_mul,Nat.zero_add]
theorem bigL_succ(v n:Nat):bigL v (n+1)=v / 256 ^ n % 256 :: bigL v n:=by
 unfold bigL
 rw [List.range_succ_eq_map,List.map_cons,List.map_map]
 congr 1
 refine List.map_congr_left fun j _=>?_
 show v / 256 ^ (n+1-1-(j+1)) % 256=v / 256 ^ (n-1-j) % 256
 rw [show n+1-1-(j+1)=n-1-j by omega]
theorem bigL_mod(v w n:Nat):bigL (w*256 ^ n+v) n=bigL v n:=by
 unfold bigL
 refine List.map_congr_left fun j hj=>?_
 have hj':=List.mem_range.1 hj
 obtain ⟨d,hd⟩:∃ d,n=(n-1-j)+1+d:=⟨j,by omega⟩
 generalize n-1-j=e at *
 subst hd
 rw [show w*256 ^ (e+1+d)=256 ^ e*(256*(w*256 ^ d)) by
  rw [Nat.pow_add,Nat.pow_add];simp only [Nat.pow_one,Nat.mul_assoc,Nat.mul_comm,Nat.mul_left_comm]]
 rw [Nat.mul_add_div (Nat.pow_pos (by omega)),Nat.mul_add_mod]
theorem bigL_bigN:∀ {l:List Nat},(∀ x∈l,x<256)→bigL (bigN l) l.length=l:=by
 intro l
 induction l with
 | nil=>intro _;rfl
 | cons b l ih =>
  intro h
  have hl:∀ x∈l,x<256:=fun x hx=>h x (by simp [hx])
  have hlt:=bigN_lt l hl
  rw [List.length_cons,bigL_succ,bigN_cons,bigL_mod,ih hl]
  congr 1
  rw [Nat.mul_comm,Nat.mul_add_div (Nat.pow_pos (by omega)),Nat.div_eq_of_lt hlt,Nat.add_zero]
  exact Nat.mod_eq_of_lt (h b (by simp))
theorem bigN_bigL:∀ (n v:Nat),v<256 ^ n→bigN (bigL v n)=v:=by
 intro n
 induction n with
 | zero =>
  intro v h;have:v=0:=by simpa using h
  subst this;rfl
 | succ n ih =>
  intro v h
  have hp:0<256 ^ n:=Nat.pow_pos (by omega)
  have hd:v / 256 ^ n<256:=by
   rw [Nat.pow_succ] at h
   exact Nat.div_lt_of_lt_mul h
  have e:bigL v n=bigL (v % 256 ^ n) n:=by
   have:=bigL_mod (v % 256 ^ n) (v / 256 ^ n) n
   rw [Nat.mul_comm,Nat.div_add_mod] at this
   exact this
  rw [bigL_succ,bigN_cons,jbv,e,ih _ (Nat.mod_lt _ hp),Nat.mod_eq_of_lt hd,Nat.mul_comm,Nat.div_add_mod]
theorem big4{p:List Nat}(hp:∀ x∈p,x<256){a:Nat}(h:a+4≤p.length):bigL (g4 p a) 4=part p a 4:=by
 have:=bigL_bigN (part_byte hp a 4)
 rw [jcl h] at this
 exact this
theorem big8{p:List Nat}(hp:∀ x∈p,x<256){a:Nat}(h:a+8≤p.length):bigL (bigN (part p a 8)) 8=part p a 8:=by
 have:=bigL_bigN (part_byte hp a 8)
 rw [jcl h] at this
 exact this
theorem big4_iff{p:List Nat}(hp:∀ x∈p,x<256){a v:Nat}(h:a+4≤p.length)(hv:v<4294967296):bigL v 4=part p a 4↔g4 p a=v:=by
 have h4:256 ^ 4=4294967296:=by decide
 constructor
 ·intro e
  unfold g4
  rw [← e,bigN_bigL 4 v (by rw [h4];exact hv)]
 ·intro e;rw [← e,big4 hp h]
theorem rowsP_snoc{p:List Nat}{n i:Nat}(h:i<n):(jbq p n).take (i+1)=(jbq p n).take i++[rowP p n i]:=(jar (rowsP_get h)).symm
theorem rowsF_get{p:List Nat}{n i:Nat}(h:i<n):(rowsF p n)[i]?=some (rowP p n i,farF p n i):=by
 unfold rowsF;rw [List.getElem?_map,List.getElem?_range h];rfl
theorem rowsF_snoc{p:List Nat}{n i:Nat}(h:i<n):(rowsF p n).take (i+1)=(rowsF p n).take i++[(rowP p n i,farF p n i)]:=(jar (rowsF_get h)).symm
theorem ids_piece(p:List Nat)(n:Nat):∀ i,i≤n→idsM ((jbq p n).take i)=part p 1032 (32*i):=by
 intro i
 induction i with
 | zero=>intro _;rfl
 | succ i ih =>
  intro h
  rw [rowsP_snoc (by omega),idsM_snoc,ih (by omega)]
  exact part_add p 1032 (32*i) 32
theorem crcs_piece{p:List Nat}(hp:∀ x∈p,x<256){n:Nat}(hl:1096+40*n≤p.length):∀ i,i≤n→jbx ((jbq p n).take i)=part p (1032+32*n) (4*i):=by
 intro i
 induction i with
 | zero=>intro _;rfl
 | succ i ih =>
  intro h
  rw [rowsP_snoc (by omega),crcsM_snoc,ih (by omega)]
  have:bigL (rowP p n i).crc 4=part p (1032+32*n+4*i) 4:=big4 hp (by omega)
  rw [this]
  exact part_add p (1032+32*n) (4*i) 4
theorem nfar_rows(p:List Nat)(n:Nat):∀ i,i≤n→nfar ((rowsF p n).take i)=kP p n i:=by
 intro i
 induction i with
 | zero=>intro _;rfl
 | succ i ih =>
  intro h
  rw [rowsF_snoc (by omega),nfar_snoc,ih (by omega),kP_succ]
theorem fars_piece{p:List Nat}(hp:∀ x∈p,x<256){n:Nat}(hl:1096+40*n+8*kP p n n≤p.length):∀ i,i≤n→jcr ((rowsF p n).take i)=part p (1032+40*n) (8*kP p n i):=by
 intro i
 induction i with
 | zero=>intro _;rfl
 | succ i ih =>
  intro h
  rw [rowsF_snoc (by omega),farsM_snoc,ih (by omega),kP_succ]
  have hm:=kP_mono p n h
  rw [kP_succ] at hm
  by_cases hf:farF p n i=true
  ·rw [if_pos hf] at hm
   rw [if_pos (show (rowP p n i,farF p n i).2=true from hf),if_pos hf]
   have e:(rowP p n i).pos=farV p n i:=by show (if farF p n i=true then _ else _)=_;rw [if_pos hf]
   have e2:bigL (rowP p n i).pos 8=part p (1032+40*n+8*kP p n i) 8:=by rw [e];exact big8 hp (by omega)
   show _++bigL (rowP p n i).pos 8=_
   rw [e2]
   exact part_add p (1032+40*n) (8*kP p n i) 8
  ·rw [if_neg (show ¬(rowP p n i,farF p n i).2=true from hf),if_neg hf]
   simp
theorem ats_piece{p:List Nat}(hp:∀ x∈p,x<256){n:Nat}(hn:n≤4096)(hl:1096+40*n≤p.length):∀ i,i≤n→(atsM 0 ((rowsF p n).take i)=part p (1032+36*n) (4*i)↔atsOK p n i):=by
 intro i
 induction i with
 | zero=>intro _;exact ⟨fun _ j hj=>by omega,fun _=>rfl⟩
 | succ i ih =>
  intro h
  have hk:=kP_le p n i
  rw [rowsF_snoc (by omega),atsM_snoc,nfar_rows p n i (by omega),Nat.zero_add]
  have hpa:=part_add p (1032+36*n) (4*i) 4
  rw [show 4*(i+1)=4*i+4 by omega,← hpa]
  have l1:(atsM 0 ((rowsF p n).take i)).length=(part p (1032+36*n) (4*i)).length:=by
   rw [atsM_len,List.length_take,rowsF_len,jcl (by omega)];omega
  constructor
  ·intro e
   obtain ⟨e1,e2⟩:=List.append_inj e l1
   have hA:=(ih (by omega)).1 e1
   intro j hj hf
   by_cases hji:j=i
   ·subst hji
    rw [if_pos (show (rowP p n j,farF p n j).2=true from hf)] at e2
    exact (big4_iff hp (by omega) (by omega)).1 e2
   ·exact hA j (by omega) hf
  ·intro hA
   rw [(ih (by omega)).2 (fun j hj hf=>hA j (by omega) hf)]
   congr 1
   by_cases hf:farF p n i=true
   ·rw [if_pos (show (rowP p n i,farF p n i).2=true from hf)]
    exact (big4_iff hp (by omega) (by omega)).2 (hA i (by omega) hf)
   ·rw [if_neg (show ¬(rowP p n i,farF p n i).2=true from hf)]
    have e:(rowP p n i).pos=atV p n i:=by show (if farF p n i=true then _ else _)=_;rw [if_neg hf]
    show bigL (rowP p n i).pos 4=_
    rw [e]
    exact big4 hp (by omega)
theorem fans_piece{p:List Nat}(hp:∀ x∈p,x<256)(hl:1096≤p.length){l:List Row}(hll:l.length≤4096):∀ i,i≤256→(fansM l i=part p 8 (4*i)↔fanOK p l i):=by
 intro i
 induction i with
 | zero=>intro _;exact ⟨fun _ j hj=>by omega,fun _=>rfl⟩
 | succ i ih =>
  intro h
  have hu:=upto_le l i
  have hpa:=part_add p 8 (4*i) 4
  rw [fansM_succ,show 4*(i+1)=4*i+4 by omega,← hpa]
  have l1:(fansM l i).length=(part p 8 (4*i)).length:=by rw [fansM_len,jcl (by omega)]
  constructor
  ·intro e
   obtain ⟨e1,e2⟩:=List.append_inj e l1
   have hA:=(ih (by omega)).1 e1
   intro j hj
   by_cases hji:j=i
   ·subst hji
    exact (big4_iff hp (by omega) (by omega)).1 e2
   ·exact hA j (by omega)
  ·intro hA
   rw [(ih (by omega)).2 (fun j hj=>hA j (by omega))]
   congr 1
   exact (big4_iff hp (by omega) (by omega)).2 (hA i (by omega))
theorem take_split(p:List Nat)(n k:Nat)(hl:p.length=1096+40*n+8*k):p.take (p.length-32)=p.take 8++part p 8 1024++part p 1032 (32*n)++part p (1032+32*n) (4*n)++part p (1032+36*n) (4*n)++(part p (1032+40*n) (8*k)++part p (p.length-64) 32):=by
 have h0:p.take 8=part p 0 8:=by unfold part;rw [List.drop_zero]
 have a1:=part_add p 0 8 1024
 have a2:=part_add p 0 1032 (32*n)
 have a3:=part_add p 0 (1032+32*n) (4*n)
 have a4:=part_add p 0 (1032+36*n) (4*n)
 have a5:=part_add p 0 (1032+40*n) (8*k)
 have a6:=part_add p 0 (1032+40*n+8*k) 32
 simp only [Nat.zero_add] at a1 a2 a3 a4 a5 a6
 rw [h0,a1,show 8+1024=1032 by rfl,a2,a3,show 1032+32*n+4*n=1032+36*n by omega,a4,show 1032+36*n+4*n=1032+40*n by omega,← List.append_assoc,a5,show p.length-64=1032+40*n+8*k by omega,a6]
 unfold part
 rw [List.drop_zero,show p.length-32=1032+40*n+8*k+32 by omega]
theorem body_iff{p:List Nat}(hp:∀ x∈p,x<256){n:Nat}(hn:n≤4096)(hl:p.length=1096+40*n+8*kP p n n)(hm:p.take 8=jbd) :
  bodyM (rowsF p n) (part p (p.length-64) 32)=p.take (p.length-32)↔atsOK p n n∧fanOK p (jbq p n) 256:=by
 have hrt:(jbq p n).take n=jbq p n:=List.take_of_length_le (by rw [jbn];omega)
 have hft:(rowsF p n).take n=rowsF p n:=List.take_of_length_le (by rw [rowsF_len];omega)
 have p1:=ids_piece p n n (Nat.le_refl _)
 have p2:=crcs_piece hp (n:=n) (by omega) n (Nat.le_refl _)
 have p3:=fars_piece hp (n:=n) (by omega) n (Nat.le_refl _)
 have p4:=ats_piece hp hn (by omega) n (Nat.le_refl _)
 have p5:=fans_piece hp (by omega) (l:=jbq p n) (by rw [jbn];omega) 256 (Nat.le_refl _)
 rw [hrt] at p1 p2
 rw [hft] at p3 p4
 rw [take_split p n (kP p n n) hl,← p4,← p5]
 unfold bodyM headM
 rw [rowsF_fst,p1,p2,p3,hm]
 have l1:(fansM (jbq p n) 256).length=(part p 8 1024).length:=by rw [fansM_len,jcl (by omega)]
 have l2:(atsM 0 (rowsF p n)).length=(part p (1032+36*n) (4*n)).length:=by rw [atsM_len,rowsF_len,jcl (by omega)]
 constructor
 ·intro e
  have e1:=(List.append_inj' e rfl).1
  obtain ⟨e2,e3⟩:=List.append_inj' e1 l2
  have e4:=(List.append_inj' e2 rfl).1
  have e5:=(List.append_inj' e4 rfl).1
  exact ⟨e3,(List.append_inj e5 rfl).2⟩
 ·rintro ⟨e3,e6⟩
  rw [e3,e6]
theorem doc_iff{p:List Nat}(hp:∀ x∈p,x<256){n:Nat}(hn:n≤4096)(hl:p.length=1096+40*n+8*kP p n n)(hm:p.take 8=jbd)(hs:sumM (p.take (p.length-32))=p.drop (p.length-32)):docOK p n↔readOK p n:=by
 have hb:=body_iff hp hn hl hm
 have hpl:(part p (p.length-64) 32).length=32:=jcl (by omega)
 have hok:∀ x∈rowsF p n,x.1.ok:=fun x hx=>rowsP_ok hp (show 1096+40*n≤p.length by omega) _ (by rw [← rowsF_fst];exact List.mem_map.2 ⟨x,hx,rfl⟩)
 have hbl:=bodyM_len hok hpl
 have hnf:nfar (rowsF p n)=kP p n n:=by
  have:=nfar_rows p n n (Nat.le_refl _)
  rw [List.take_of_length_le (by rw [rowsF_len];omega)] at this
  exact this
 rw [rowsF_len,hnf] at hbl
 have key:jbg (rowsF p n) (part p (p.length-64) 32)=p↔bodyM (rowsF p n) (part p (p.length-64) 32)=p.take (p.length-32):=by
  unfold jbg
  constructor
  ·intro e
   have h1:=congrArg (List.take (p.length-32)) e
   rw [List.take_left' (by rw [hbl];omega)] at h1
   exact h1
  ·intro e
   rw [e,hs,List.take_append_drop]
 unfold docOK readOK
 rw [key,hb]
 constructor
 ·rintro ⟨h1,h2,h3⟩;exact ⟨h2,h1,h3⟩
 ·rintro ⟨h2,h1,h3⟩;exact ⟨h1,h2,h3⟩
theorem docR_eq{p:List Nat}(hp:∀ x∈p,x<256):docR p=jas p:=by
 by_cases he:(szM p).2.2≠0
 ·rw [docR_e he,parseR_e he]
 ·obtain ⟨q1,q2,q3,q4,q5⟩:=(szM_cases p).resolve_left he
  have hn':(szM p).1=jbp p:=by rw [q1]
  by_cases hs:sumM (p.take (p.length-32))=p.drop (p.length-32)
  ·have hi:=doc_iff hp q3 q2 q4 hs
   by_cases hr:readOK p (szM p).1
   ·rw [parseR_g he hs hr,docR_g he hs (by rw [hn'] at hr ⊢;exact hi.2 hr)]
   ·rw [parseR_b he hs hr,docR_b he hs (fun hd=>hr (by rw [hn'] at hd ⊢;exact hi.1 hd))]
  ·rw [docR_s he hs,parseR_s he hs]
end Go.Proofs.YtcmhoboglapbdaaDoor
namespace Go.Proofs.YtcmhoboglapbdaaDoor
open Go Ev
def StrictOn(l:List Row):Prop:=∀ i j,i<j→j<l.length→Lt (rat l i) (rat l j)
theorem strictOn_of{l:List Row}(h:∀ i,0<i→i<l.length→Lt (rat l (i-1)) (rat l i)):StrictOn l:=by
 intro i j
 induction j with
 | zero=>intro h1;omega
 | succ j ih =>
  intro h1 h2
  have h3:=h (j+1) (by omega) h2
  rw [Nat.add_sub_cancel] at h3
  by_cases e:i=j
  ·rw [e];exact h3
  ·exact lt_le (ih (by omega) (by omega)) h3.le
theorem parseR_strict{p:List Nat}(he:(jas p).2.2=0):StrictOn (jas p).1:=by
 by_cases h1:(szM p).2.2≠0
 ·rw [parseR_e h1] at he ⊢;exact absurd he h1
 ·by_cases hs:sumM (p.take (p.length-32))=p.drop (p.length-32)
  ·by_cases hr:readOK p (szM p).1
   ·rw [parseR_g h1 hs hr]
    refine strictOn_of fun i h0 hi=>?_
    rw [jbn] at hi
    rw [rowsP_rat (by omega),rowsP_rat hi]
    exact hr.2.1 i h0 hi
   ·rw [parseR_b h1 hs hr] at he;cases he
  ·rw [parseR_s h1 hs] at he;cases he
theorem z32_byte:∀ x∈z32,x<256:=by decide
theorem parseR_facts{p:List Nat}(hp:∀ x∈p,x<256):(jas p).2.1.length=32∧(∀ x∈(jas p).2.1,x<256)∧(∀ r∈(jas p).1,r.ok)∧(jas p).1.length≤4096:=by
 by_cases h1:(szM p).2.2≠0
 ·rw [parseR_e h1];exact ⟨rfl,z32_byte,fun r hr=>(by cases hr),by simp⟩
 ·obtain ⟨q1,q2,q3,q4,q5⟩:=(szM_cases p).resolve_left h1
  by_cases hs:sumM (p.take (p.length-32))=p.drop (p.length-32)
  ·by_cases hr:readOK p (szM p).1
   ·rw [parseR_g h1 hs hr]
    have hn':(szM p).1=jbp p:=by rw [q1]
    rw [hn']
    exact ⟨jcl (by omega),part_byte hp _ _,rowsP_ok hp (by omega),by rw [jbn];exact q3⟩
   ·rw [parseR_b h1 hs hr];exact ⟨rfl,z32_byte,fun r hr=>(by cases hr),by simp⟩
  ·rw [parseR_s h1 hs];exact ⟨rfl,z32_byte,fun r hr=>(by cases hr),by simp⟩
def isId(id:List Nat)(r:Row):Bool:=decide (r.id=id)
noncomputable def findR(p:List Nat)(id:List Nat):Row×Int :=
 if (jas p).2.2≠0 then (rz,(jas p).2.2) else match (jas p).1.find? (isId id) with
 | some r=>(r,0)
 | none=>(rz,7)
theorem find_at{l:List Row}(hs:StrictOn l){i:Nat}(hi:i<l.length){id:List Nat}(h:(rat l i).id=id):l.find? (isId id)=some (rat l i):=by
 rw [List.find?_eq_some_iff_getElem]
 refine ⟨dT h,i,hi,jbz hi,fun j hj=>?_⟩
 have:=(hs j i hj hi).ne
 rw [jbz (show j<l.length by omega)]
 unfold isId
 rw [dF (fun e=>this (e.trans h.symm))];rfl
theorem find_none{l:List Row}{id:List Nat}(h:∀ i,i<l.length→(rat l i).id≠id):l.find? (isId id)=none:=by
 rw [List.find?_eq_none]
 intro r hr
 obtain ⟨i,hi,rfl⟩:=List.getElem_of_mem hr
 rw [jbz hi]
 unfold isId
 rw [dF (h i hi)];decide
theorem c1_spec{F m:Nat}{h:AH}(hw:h.WF){a:Row}{id:List Nat}(ha:a.ok)(hi:id.length=32)(hi8:∀ x∈id,x<256):∃ h',runC (EE F) (m+3) nzal [.agg (rowL a),.agg (jaa id)] h=some (.int .i64 (cmpN a.id id),h')∧Old h.next h h':=by
 rw [tzal]
 obtain ⟨h1,e1,c1,n1,o1⟩:=jbe hw (rowL a) jak (rowL_cell a)
 obtain ⟨h2,e2,c2,n2,o2⟩:=jbe o1.wf (jaa id) jab (jap id)
 rw [jav ha] at e1
 rw [jad,hi] at e2
 obtain ⟨h3,e3,o3⟩:=compare_spec (F:=F) (n:=m) o2.wf ha.1 hi ha.2.1 hi8
 have o12:=o1.trans (o2.weak o1.next)
 have ea:ldA 32 (.ptr ⟨h1.next,32,0⟩) h2=some (.agg (jaa id)):=c2.ldA (by rw [jad,hi])
 refine ⟨h3,?_,o12.trans (o3.weak o12.next)⟩
 simp only [zal.fn,zal.c0,e1,jam,e2,jbu,jae,row_id (c1.old o1.wf o2) ha,jaf,ea,cxC,e3,jan,zal.ret]
 rfl
theorem has40:hasB PP 40=some true:=by kernel_rfl
theorem srch_word{F m:Nat}{g:AH}(hw:g.WF){a:Row}{id:List Nat}(ha:a.ok)(hi:id.length=32)(hi8:∀ x∈id,x<256):∃ g',dyn PP (cx F (m+3)).C (cx F (m+3)).X (.func 40 [] []) [.agg (rowL a),.agg (jaa id)] g=some (.int .i64 (cmpN a.id id),g')∧Old g.next g g':=by
 obtain ⟨g',e,o⟩:=c1_spec (F:=F) (m:=m) hw ha hi hi8
 exact ⟨g',(dyn_fn has40).trans e,o⟩
theorem half{x:Nat}(h:x<9223372036854775808):ishr .u64 (x:Int) 1=((x / 2:Nat):Int):=by
 unfold ishr
 have e:((2:Int) ^ min (Int.toNat 1) IntKind.u64.bits)=2:=rfl
 rw [e,Int.fdiv_eq_ediv_of_nonneg _ (by omega)];omega
theorem search_spec{F m:Nat}(hF:5000<F){h:AH}(hw:h.WF){v:V}{l:List Row}(hr:Rs h v l)(hl:l.length≤4096)(hs:StrictOn l){id:List Nat}(hi:id.length=32)(hi8:∀ x∈id,x<256) :
  ∃ (i:Nat) (b:Bool) (h':AH),runC (EE F) (m+4) nzbj [v,.agg (jaa id),.func 40 [] []] h=some (.tuple [.int .i64 (i:Int),.bool b],h')∧Old h.next h h' ∧
   (b=true→i<l.length∧(rat l i).id=id)∧(b=false→∀ i,i<l.length→(rat l i).id≠id):=by
 rw [tzbj]
 obtain ⟨h1,e1,c1,n1,o1⟩:=jbe hw (jaa id) jab (jap id)
 rw [jad,hi] at e1
 have R1:=hr.old hw o1
 simp only [zbj.fn,zbj.c0,e1,jam,R1.1.len,jag]
 refine jah (S:=zbj.P6) (out:=fun x=>∃ (i:Nat) (b:Bool) (h':AH),x=some (.tuple [.int .i64 (i:Int),.bool b],h')∧Old h.next h h' ∧
   (b=true→i<l.length∧(rat l i).id=id)∧(b=false→∀ i,i<l.length→(rat l i).id≠id))
  (fun k s g=>∃ i j:Nat,j≤i+k∧i≤j∧j≤l.length∧s=(v,.func 40 [] [],.ptr ⟨h.next,32,0⟩,(l.length:Int),(i:Int),(j:Int),())∧(∀ x,x<i→cmpN (rat l x).id id<0)∧(∀ x,j≤x→x<l.length→¬cmpN (rat l x).id id<0)∧Old h1.next h1 g) ?_ ?_ l.length F _ _
  ⟨0,l.length,by omega,by omega,Nat.le_refl _,rfl,fun x hx=>by omega,fun x h1 h2=>by omega,Old.refl o1.wf _⟩ (by omega)
 ·rintro k s g n' ⟨i,j,hk,hij,hj,rfl,hlo,hhi,og⟩
  have Rg:=R1.old o1.wf og
  have Cg:=c1.old o1.wf og
  have ea:ldA 32 (.ptr ⟨h.next,32,0⟩) g=some (.agg (jaa id)):=Cg.ldA (by rw [jad,hi])
  by_cases h':i<j
  ·have d1:decide ((i:Int)<(j:Int))=true:=dT (by omega)
   have i1:IntKind.wrap .i64 ((i:Int)+(j:Int))=((i+j:Nat):Int):=wi (by omega) (by omega)
   have i2:IntKind.wrap .i64 (((i+j) / 2:Nat):Int)=(((i+j) / 2:Nat):Int):=wi rfl (by omega)
   have hm:(i+j) / 2<l.length:=by omega
   obtain ⟨a,u1,u2⟩:=Rg.at (rat_get hm)
   have hk1:=Rg.2 _ (rat_mem hm)
   obtain ⟨g1,w1,w2⟩:=srch_word (F:=F) (m:=m) og.wf hk1 hi hi8
   have i3:IntKind.wrap .i64 ((((i+j) / 2:Nat):Int)+1)=(((i+j) / 2+1:Nat):Int):=wi (by omega) (by omega)
   by_cases hc:cmpN (rat l ((i+j) / 2)).id id<0
   ·refine .inl ⟨_,g1,?_,(i+j) / 2+1,j,by omega,by omega,hj,rfl,fun x hx=>?_,hhi,og.trans (w2.weak og.next)⟩
    ·simp -implicitDefEqProofs only [zbj.l3,zbj.c3,zbj.k3,zbj.r4,zbj.c4,zbj.k5,zbj.c6,d1,cond_true,wr,i1,jcg (show i+j<18446744073709551616 by omega),half (show i+j<9223372036854775808 by omega),i2,u1,jae,jbf u2,jaf,ea,w1,jan,dT hc,i3]
    ·by_cases e:x=(i+j) / 2
     ·rw [e];exact hc
     ·have hx2:Lt (rat l x) (rat l ((i+j) / 2)):=hs x _ (by omega) hm
      have t1:cmpN (rat l x).id (rat l ((i+j) / 2)).id<0:=hx2
      have t2:cmpN (rat l x).id id≤0:=cmpN_trans (b:=(rat l ((i+j) / 2)).id) (by omega) (by omega)
      rcases Int.lt_or_eq_of_le t2 with t3 | t3
      ·exact t3
      ·have:=cmpN_eq0 t3
       rw [← this] at hc
       have t4:=cmpN_anti (rat l ((i+j) / 2)).id (rat l x).id
       omega
   ·refine .inl ⟨_,g1,?_,i,(i+j) / 2,by omega,by omega,by omega,rfl,hlo,fun x hx1 hx2=>?_,og.trans (w2.weak og.next)⟩
    ·simp -implicitDefEqProofs only [zbj.l3,zbj.c3,zbj.k3,zbj.r4,zbj.c4,zbj.k5,zbj.c7,d1,cond_true,wr,i1,jcg (show i+j<18446744073709551616 by omega),half (show i+j<9223372036854775808 by omega),i2,u1,jae,jbf u2,jaf,ea,w1,jan,dF hc,cond_false]
    ·by_cases e:x=(i+j) / 2
     ·rw [e];exact hc
     ·have hx3:Lt (rat l ((i+j) / 2)) (rat l x):=hs _ x (by omega) hx2
      have t1:cmpN (rat l ((i+j) / 2)).id (rat l x).id<0:=hx3
      intro t2
      exact hc (by
       have t3:cmpN (rat l ((i+j) / 2)).id id≤0:=cmpN_trans (show cmpN (rat l ((i+j) / 2)).id (rat l x).id≤0 by omega) (by omega)
       rcases Int.lt_or_eq_of_le t3 with t4 | t4
       ·exact t4
       ·have:=cmpN_eq0 t4
        rw [← this] at t2
        have t5:=cmpN_anti (rat l ((i+j) / 2)).id (rat l x).id
        omega)
  ·obtain rfl:i=j:=by omega
   exact .inr (by
    have d1:decide ((i:Int)<(i:Int))=false:=dF (by omega)
    simp only [zbj.l3,zbj.c3,zbj.k3,zbj.r8,zbj.c8,d1,cond_false]
    by_cases hil:i<l.length
    ·have d2:decide ((i:Int)<(l.length:Int))=true:=dT (by omega)
     obtain ⟨a,u1,u2⟩:=Rg.at (rat_get hil)
     have hk1:=Rg.2 _ (rat_mem hil)
     obtain ⟨g1,w1,w2⟩:=srch_word (F:=F) (m:=m) og.wf hk1 hi hi8
     refine ⟨i,decide (cmpN (rat l i).id id=0),g1,?_,o1.trans ((og.trans (w2.weak og.next)).weak o1.next),fun hb=>⟨hil,cmpN_eq0 (of_decide_eq_true hb)⟩,fun hb x hx=>?_⟩
     ·have hbeq:(cmpN (rat l i).id id==0)=decide (cmpN (rat l i).id id=0):=by
       rw [Bool.eq_iff_iff,beq_iff_eq,decide_eq_true_eq]
      simp only [d2,cond_true,u1,jae,jbf u2,jaf,ea,w1,jan,hbeq]
      rfl
     ·intro e
      have hb':¬cmpN (rat l i).id id=0:=of_decide_eq_false hb
      have ex:cmpN (rat l x).id id=0:=by rw [e,cmpN_self]
      rcases Nat.lt_trichotomy x i with h1 | h1 | h1
      ·have:=hlo x h1;omega
      ·rw [h1] at ex;exact hb' ex
      ·have t1:cmpN (rat l i).id (rat l x).id<0:=hs i x h1 hx
       have t2:=hhi i (Nat.le_refl _) hil
       rw [e] at t1
       omega
    ·have d2:decide ((i:Int)<(l.length:Int))=false:=dF (by omega)
     refine ⟨i,false,g,?_,o1.trans (og.weak o1.next),fun hb=>(by cases hb),fun _ x hx e=>?_⟩
     ·simp only [d2,cond_false]
      rfl
     ·have ex:cmpN (rat l x).id id=0:=by rw [e,cmpN_self]
      have:=hlo x (by omega)
      omega)
 ·rintro s g n' ⟨i,j,hk,hij,hj,rfl,hlo,hhi,og⟩
  obtain rfl:i=j:=by omega
  have Rg:=R1.old o1.wf og
  have Cg:=c1.old o1.wf og
  have ea:ldA 32 (.ptr ⟨h.next,32,0⟩) g=some (.agg (jaa id)):=Cg.ldA (by rw [jad,hi])
  have d1:decide ((i:Int)<(i:Int))=false:=dF (by omega)
  simp only [zbj.l3,zbj.c3,zbj.k3,zbj.r8,zbj.c8,d1,cond_false]
  by_cases hil:i<l.length
  ·have d2:decide ((i:Int)<(l.length:Int))=true:=dT (by omega)
   obtain ⟨a,u1,u2⟩:=Rg.at (rat_get hil)
   have hk1:=Rg.2 _ (rat_mem hil)
   obtain ⟨g1,w1,w2⟩:=srch_word (F:=F) (m:=m) og.wf hk1 hi hi8
   refine ⟨i,decide (cmpN (rat l i).id id=0),g1,?_,o1.trans ((og.trans (w2.weak og.next)).weak o1.next),fun hb=>⟨hil,cmpN_eq0 (of_decide_eq_true hb)⟩,fun hb x hx=>?_⟩
   ·have hbeq:(cmpN (rat l i).id id==0)=decide (cmpN (rat l i).id id=0):=by
     rw [Bool.eq_iff_iff,beq_iff_eq,decide_eq_true_eq]
    simp only [d2,cond_true,u1,jae,jbf u2,jaf,ea,w1,jan,hbeq]
    rfl
   ·intro e
    have hb':¬cmpN (rat l i).id id=0:=of_decide_eq_false hb
    have ex:cmpN (rat l x).id id=0:=by rw [e,cmpN_self]
    rcases Nat.lt_trichotomy x i with h1 | h1 | h1
    ·have:=hlo x h1;omega
    ·rw [h1] at ex;exact hb' ex
    ·have t1:cmpN (rat l i).id (rat l x).id<0:=hs i x h1 hx
     have t2:=hhi i (Nat.le_refl _) hil
     rw [e] at t1
     omega
  ·have d2:decide ((i:Int)<(l.length:Int))=false:=dF (by omega)
   refine ⟨i,false,g,?_,o1.trans (og.weak o1.next),fun hb=>(by cases hb),fun _ x hx e=>?_⟩
   ·simp only [d2,cond_false]
    rfl
   ·have ex:cmpN (rat l x).id id=0:=by rw [e,cmpN_self]
    have:=hlo x (by omega)
    omega
theorem zero_row:bld [] (List.replicate 32 (.int .u8 0)++[.int .u32 0]++[.int .u64 0])=some (.agg (rowL rz)):=rfl
theorem row_put{g:AH}{b e n0:Nat}{x y:Row}(hc:jal g b e (rowL x))(hx:x.ok)(hy:y.ok)(hw:g.WF)(hn:n0≤b):∃ g',st 34 (.ptr ⟨b,34,0⟩) (.agg (rowL y)) g=some g'∧ldA 34 (.ptr ⟨b,34,0⟩) g'=some (.agg (rowL y))∧Old n0 g g':=by
 obtain ⟨g',p1,p2,p3⟩:=hc.put hw (n:=34) (vs:=rowL y) (jav hx).symm (jav hy) (rowL_cell y)
 exact ⟨g',p1,p2.ldA (jav hy).symm,p3.old hn⟩
theorem fin2{a c:V}{o:Option V}(h:o=some a)(g:AH):finW [o,some c] g=some (.tuple [a,c],g):=by rw [h];rfl
theorem find_cps{F m:Nat}(hF:2000000<F){h:AH}(hw:h.WF)(hk:KT h){pv:V}{p:List Nat}(hp:Bs h pv p)(hlen:p.length≤1000000){id:List Nat}(hi:id.length=32)(hi8:∀ x∈id,x<256)
  {out:Res→Prop} (fin:∀ h',Old h.next h h'→out (some (.tuple [.agg (rowL (findR p id).1),.int .i64 (findR p id).2],h'))) :
  out (runC (EE F) (m+5) nzak [pv,.agg (jaa id)] h):=by
 rw [tzak]
 have hpos:=hk.pos hw
 obtain ⟨h1,e1,c1,n1,o1⟩:=jbe hw (jaa id) jab (jap id)
 rw [jad,hi] at e1
 obtain ⟨a1,a2,a3,a4⟩:=jay o1.wf zRow jak rfl (by simp)
 have a2':(al zRow jak h1).1=.ptr ⟨h1.next,34,0⟩:=a2
 generalize hh2:(al zRow jak h1).2=h2 at *
 have a1':jal h2 h1.next jak (rowL rz):=a1
 have o12:Old h.next h h2:=o1.trans (a4.weak o1.next)
 have c2:=c1.old o1.wf a4
 have hn1:=o1.next
 have hn2:=a4.next
 simp only [zak.fn,zak.c0,e1,jam,a2',hh2,cxC]
 refine parse_cps (m:=m) (F:=F) (out:=fun x=>out (cV x fun x5 h6 =>
   bV (jat x5 0) h6 fun x7 h8 =>
   bA (jat x5 1) h8 fun x9 h10 =>
   bI .i64 (jat x5 2) h10 fun x11 h12 =>
   let x13:=(al (List.replicate 32 (.int .u8 0)) jab h12).1
   let h14:=(al (List.replicate 32 (.int .u8 0)) jab h12).2
   bS (st 32 x13 (.agg x9) h14) fun h15 =>
   zak.k1 (cx F (m+4)) zak.ret zak.ret (.ptr ⟨h.next,32,0⟩,.ptr ⟨h1.next,34,0⟩,x7,x11,()) h15)) hF o12.wf (hk.old hpos o12) (hp.old hw o12) hlen (fun w h3 w3 o3=>?_)
 obtain ⟨f1,f2,f3,f4⟩:=parseR_facts hp.2
 have o13:=o12.trans (o3.weak o12.next)
 obtain ⟨b1,b2,b3,b4⟩:=jay o3.wf (List.replicate 32 (.int .u8 0)) jab rfl (by simp)
 have b2':(al (List.replicate 32 (.int .u8 0)) jab h3).1=.ptr ⟨h3.next,32,0⟩:=b2
 generalize hh4:(al (List.replicate 32 (.int .u8 0)) jab h3).2=h4 at *
 obtain ⟨h5,s1,s2,s3⟩:=b1.put b4.wf (n:=32) (vs:=jaa (jas p).2.1) rfl (by rw [jad,f1]) (jap _)
 have o35:Old h3.next h3 h5:=b4.trans (s3.old (Nat.le_refl _))
 have hn3:=o3.next
 have o25:Old h2.next h2 h5:=o3.trans (o35.weak hn3)
 have o15:Old h.next h h5:=o12.trans (o25.weak (by omega))
 have Cz:=a1'.old a4.wf o25
 have Ci:=c2.old a4.wf o25
 have W5:=w3.old o3.wf o35
 have hn5:=o35.next
 simp -implicitDefEqProofs only [jam,et0,et1,et2,jae,jaf,jag,b2',hh4,s1,jaj,zak.k1,zak.c2,zak.k2]
 unfold findR at fin
 have bad:∀ (x:Int) (g:AH) (r:Row),r.ok→(∀ h',Old h.next h h'→out (some (.tuple [.agg (rowL r),.int .i64 x],h')))→Old h2.next h2 g →
   ∃ g',st 34 (.ptr ⟨h1.next,34,0⟩) (.agg (rowL r)) g=some g'∧out (zak.ret (.ptr ⟨h1.next,34,0⟩,.int .i64 x,()) g'):=by
  intro x g r hr hx og
  obtain ⟨g',p1,p2,p3⟩:=row_put (n0:=h.next) (a1'.old a4.wf og) rz_ok hr og.wf (by omega)
  refine ⟨g',p1,?_⟩
  simp only [zak.ret,fin2 p2]
  exact hx g' ((o12.trans (og.weak (by omega))).trans p3)
 by_cases he:(jas p).2.2=0
 ·have e0:((jas p).2.2 != 0)=false:=by rw [he];rfl
  rw [if_neg (fun hh=>hh he)] at fin
  have hst:=parseR_strict he
  have R5:Rs h5 w (jas p).1:=⟨W5.sl,f3⟩
  have ea:ldA 32 (.ptr ⟨h.next,32,0⟩) h5=some (.agg (jaa id)):=Ci.ldA (by rw [jad,hi])
  obtain ⟨i,b,h6,e6,o6,q1,q2⟩:=search_spec (F:=F) (m:=m) (by omega) o25.wf R5 f4 hst hi hi8
  have o26:=o25.trans (o6.weak o25.next)
  simp only [e0,cond_false,zak.r4,zak.c4,ea,jaf,cxC,e6,jam,ex0,ex1,jag,bB_some,zak.k4,zak.c5,zak.k5]
  cases b with
  | false =>
   rw [find_none (q2 rfl)] at fin
   obtain ⟨g',p1,p2⟩:=bad 7 h6 rz rz_ok fin o26
   simp only [Bool.not_false,cond_true,zak.c6,zero_row,jaf,p1,jaj]
   exact p2
  | true =>
   obtain ⟨q3,q4⟩:=q1 rfl
   rw [find_at hst q3 q4] at fin
   have hro:=f3 _ (rat_mem q3)
   obtain ⟨a,u1,u2⟩:=(R5.old o25.wf o6).at (rat_get q3)
   obtain ⟨g',p1,p2⟩:=bad 0 h6 _ hro fin o26
   simp only [Bool.not_true,cond_false,zak.r7,zak.c7,u1,jae,jbf u2,jaf,p1,jaj]
   exact p2
 ·have e0:((jas p).2.2 != 0)=true:=by rw [bne_iff_ne];exact he
  rw [if_pos he] at fin
  obtain ⟨g',p1,p2⟩:=bad _ h5 rz rz_ok fin o25
  simp only [e0,cond_true,zak.c3,zero_row,jaf,p1,jaj]
  exact p2
theorem docFind_cps{F m:Nat}(hF:2000000<F){h:AH}(hw:h.WF){pv:V}{p:List Nat}(hp:Bs h pv p)(hlen:p.length≤1000000){id:List Nat}(hi:id.length=32)(hi8:∀ x∈id,x<256)
  {out:Res→Prop} (fin:∀ h',Old h.next h h'→out (some (.tuple [.agg (rowL (findR p id).1),.int .i64 (findR p id).2],h'))) :
  out (runC (EE F) (m+5) nzbb [pv,.agg (jaa id)] h):=by
 rw [tzbb]
 obtain ⟨h1,e1,c1,n1,o1⟩:=jbe hw (jaa id) jab (jap id)
 rw [jad,hi] at e1
 obtain ⟨a1,a2,a3,a4⟩:=jay o1.wf zRow jac rfl (by simp)
 have a2':(al zRow jac h1).1=.ptr ⟨h1.next,34,0⟩:=a2
 generalize hh2:(al zRow jac h1).2=h2 at *
 have a1':jal h2 h1.next jac (rowL rz):=a1
 have o12:Old h.next h h2:=o1.trans (a4.weak o1.next)
 have c2:=c1.old o1.wf a4
 have hn1:=o1.next
 have hn2:=a4.next
 simp only [zbb.fn,zbb.c0,e1,jam,a2',hh2,cxC]
 refine docParse_cps (m:=m) (F:=F) (out:=fun x=>out (cV x fun x5 h6 =>
   bV (jat x5 0) h6 fun x7 h8 =>
   bA (jat x5 1) h8 fun x9 h10 =>
   bI .i64 (jat x5 2) h10 fun x11 h12 =>
   let x13:=(al (List.replicate 32 (.int .u8 0)) jab h12).1
   let h14:=(al (List.replicate 32 (.int .u8 0)) jab h12).2
   bS (st 32 x13 (.agg x9) h14) fun h15 =>
   zbb.k1 (cx F (m+4)) zbb.ret zbb.ret (.ptr ⟨h.next,32,0⟩,.ptr ⟨h1.next,34,0⟩,x7,x11,()) h15)) hF o12.wf (hp.old hw o12) hlen (fun w h3 w3 o3=>?_)
 rw [docR_eq hp.2] at w3 ⊢
 obtain ⟨f1,f2,f3,f4⟩:=parseR_facts hp.2
 have o13:=o12.trans (o3.weak o12.next)
 obtain ⟨b1,b2,b3,b4⟩:=jay o3.wf (List.replicate 32 (.int .u8 0)) jab rfl (by simp)
 have b2':(al (List.replicate 32 (.int .u8 0)) jab h3).1=.ptr ⟨h3.next,32,0⟩:=b2
 generalize hh4:(al (List.replicate 32 (.int .u8 0)) jab h3).2=h4 at *
 obtain ⟨h5,s1,s2,s3⟩:=b1.put b4.wf (n:=32) (vs:=jaa (jas p).2.1) rfl (by rw [jad,f1]) (jap _)
 have o35:Old h3.next h3 h5:=b4.trans (s3.old (Nat.le_refl _))
 have hn3:=o3.next
 have o25:Old h2.next h2 h5:=o3.trans (o35.weak hn3)
 have W5:=w3.old o3.wf o35
 simp -implicitDefEqProofs only [jam,et0,et1,et2,jae,jaf,jag,b2',hh4,s1,jaj,zbb.k1,zbb.c2,zbb.k2]
 unfold findR at fin
 have bad:∀ (x:Int) (g:AH) (r:Row),r.ok→(∀ h',Old h.next h h'→out (some (.tuple [.agg (rowL r),.int .i64 x],h')))→Old h2.next h2 g →
   ∃ g',st 34 (.ptr ⟨h1.next,34,0⟩) (.agg (rowL r)) g=some g'∧out (zbb.ret (.ptr ⟨h1.next,34,0⟩,.int .i64 x,()) g'):=by
  intro x g r hr hx og
  obtain ⟨g',p1,p2,p3⟩:=row_put (n0:=h.next) (a1'.old a4.wf og) rz_ok hr og.wf (by omega)
  refine ⟨g',p1,?_⟩
  simp only [zbb.ret,fin2 p2]
  exact hx g' ((o12.trans (og.weak (by omega))).trans p3)
 by_cases he:(jas p).2.2=0
 ·have e0:((jas p).2.2 != 0)=false:=by rw [he];rfl
  rw [if_neg (fun hh=>hh he)] at fin
  have hst:=parseR_strict he
  have R5:Rs h5 w (jas p).1:=⟨W5.sl,f3⟩
  generalize (jas p).1=l at *
  simp only [e0,cond_false,zbb.r4,zbb.c4,R5.1.len,jag]
  refine jah (S:=zbb.P10) (out:=out)
   (fun k s g=>∃ i:Nat,i+k=l.length∧s=(.ptr ⟨h.next,32,0⟩,.ptr ⟨h1.next,34,0⟩,w,(l.length:Int),(i:Int),())∧(∀ x,x<i→(rat l x).id≠id)∧Old h5.next h5 g) ?_ ?_ l.length F _ _ ⟨0,by omega,rfl,(fun x hx=>by omega),Old.refl o25.wf _⟩ (by omega)
  ·rintro k s g n' ⟨i,hi',rfl,hlo,og⟩
   have hlt:i<l.length:=by omega
   have Rg:=R5.old o25.wf og
   have hro:=f3 _ (rat_mem hlt)
   obtain ⟨a,u1,u2⟩:=Rg.at (rat_get hlt)
   obtain ⟨g1,t1,t2,t3,t4,t5⟩:=tmp_row og.wf hro jac
   have og1:Old h5.next h5 g1:=og.trans (t4.weak og.next)
   have o2g1:Old h2.next h2 g1:=o25.trans (og1.weak o25.next)
   have Ci:=c2.old a4.wf o2g1
   have ea:ldA 32 (.ptr ⟨h.next,32,0⟩) g1=some (.agg (jaa id)):=Ci.ldA (by rw [jad,hi])
   have e1:=eqId hro.1 hi
   have c1:decide ((i:Int)<(l.length:Int))=true:=dT (by omega)
   have i3:IntKind.wrap .i64 ((i:Int)+1)=((i+1:Nat):Int):=wi (by omega) (by omega)
   by_cases hx:(rat l i).id=id
   ·refine .inr ?_
    rw [dT hx] at e1
    rw [find_at hst hlt hx] at fin
    have er:ldA 34 (.ptr ⟨g.next,34,0⟩) g1=some (.agg (rowL (rat l i))):=t3.ldA (jav hro).symm
    obtain ⟨g',p1,p2⟩:=bad 0 g1 _ hro fin o2g1
    simp only [zbb.l5,zbb.c5,zbb.k5,zbb.r6,zbb.c6,c1,cond_true,u1,jae,jbf u2,jaf,t1,t2,jaj,jbu,row_id t3 hro,ea,e1,bB_some,zbb.k7,zbb.c8,er,p1]
    exact p2
   ·rw [dF hx] at e1
    refine .inl ⟨_,g1,?_,i+1,by omega,rfl,fun x hxi=>?_,og1⟩
    ·simp only [zbb.l5,zbb.c5,zbb.k5,zbb.r6,zbb.c6,c1,cond_true,u1,jae,jbf u2,jaf,t1,t2,jaj,jbu,row_id t3 hro,ea,e1,bB_some,zbb.k7,zbb.r9,zbb.c9,cond_false,wr,i3]
    ·by_cases e:x=i
     ·rw [e];exact hx
     ·exact hlo x (by omega)
  ·rintro s g n' ⟨i,hi',rfl,hlo,og⟩
   obtain rfl:i=l.length:=by omega
   have c1:decide ((l.length:Int)<(l.length:Int))=false:=dF (by omega)
   rw [find_none hlo] at fin
   obtain ⟨g',p1,p2⟩:=bad 7 g rz rz_ok fin (o25.trans (og.weak o25.next))
   simp only [zbb.l5,zbb.c5,zbb.k5,zbb.r10,zbb.c10,c1,cond_false,zero_row,jaf,p1,jaj]
   exact p2
 ·have e0:((jas p).2.2 != 0)=true:=by rw [bne_iff_ne];exact he
  rw [if_pos he] at fin
  obtain ⟨g',p1,p2⟩:=bad _ h5 rz rz_ok fin o25
  simp only [e0,cond_true,zbb.c3,zero_row,jaf,p1,jaj]
  exact p2
end Go.Proofs.YtcmhoboglapbdaaDoor
namespace Go.Proofs.YtcmhoboglapbdaaDoor
open Go Ev
theorem part_in{a b c:List Nat}{o w:Nat}(h:o+w≤b.length):part (a++(b++c)) (a.length+o) w=part b o w:=by
 unfold part
 rw [List.drop_append,List.drop_of_length_le (by omega),List.nil_append,Nat.add_sub_cancel_left,List.drop_append_of_le_length (by omega),List.take_append_of_le_length (by rw [List.length_drop];omega)]
theorem part_left{a b:List Nat}{o w:Nat}(h:o+w≤a.length):part (a++b) o w=part a o w:=by
 unfold part
 rw [List.drop_append_of_le_length (by omega),List.take_append_of_le_length (by rw [List.length_drop];omega)]
theorem part_all(b:List Nat):part b 0 b.length=b:=by unfold part;rw [List.drop_zero,List.take_length]
theorem part_whole{a b c:List Nat}{o w:Nat}(ho:o=a.length)(hw:w=b.length):part (a++(b++c)) o w=b:=by
 subst ho;subst hw
 have:=part_in (a:=a) (b:=b) (c:=c) (o:=0) (w:=b.length) (by omega)
 rw [Nat.add_zero,part_all] at this
 exact this
theorem cut_at{α:Type}{l:List α}{i:Nat}{x:α}(h:l[i]?=some x):l=l.take i++x :: l.drop (i+1):=by
 have hi:=(List.getElem?_eq_some_iff.1 h).1
 have hx:l[i]=x:=by have:=List.getElem?_eq_getElem hi;rw [h] at this;exact (Option.some.inj this).symm
 have:=List.take_append_drop i l
 rw [List.drop_eq_getElem_cons hi,hx] at this
 exact this.symm
theorem idsM_at{l:List Row}{i:Nat}{r:Row}(h:l[i]?=some r)(hok:∀ r∈l,r.ok):part (idsM l) (32*i) 32=r.id:=by
 have hi:=(List.getElem?_eq_some_iff.1 h).1
 have e:idsM l=idsM (l.take i)++(r.id++idsM (l.drop (i+1))):=by
  have:=congrArg idsM (cut_at h)
  rw [this];unfold idsM;rw [List.flatMap_append,List.flatMap_cons]
 rw [e]
 refine part_whole ?_ (hok _ (List.mem_of_getElem? h)).1.symm
 rw [idsM_len (fun r hr=>hok r (List.mem_of_mem_take hr)),List.length_take]
 congr 1;omega
theorem crcsM_at{l:List Row}{i:Nat}{r:Row}(h:l[i]?=some r):part (jbx l) (4*i) 4=bigL r.crc 4:=by
 have hi:=(List.getElem?_eq_some_iff.1 h).1
 have e:jbx l=jbx (l.take i)++(bigL r.crc 4++jbx (l.drop (i+1))):=by
  have:=congrArg jbx (cut_at h)
  rw [this];unfold jbx;rw [List.flatMap_append,List.flatMap_cons]
 rw [e]
 refine part_whole ?_ (jbv _ _).symm
 rw [crcsM_len,List.length_take]
 congr 1;omega
theorem atsM_append:∀ (a b:List (Row×Bool)) (k:Nat),atsM k (a++b)=atsM k a++atsM (k+nfar a) b:=by
 intro a
 induction a with
 | nil=>intro b k;rfl
 | cons x a ih =>
  intro b k
  rw [List.cons_append]
  have hn:nfar (x :: a)=nfar a+if x.2=true then 1 else 0:=List.countP_cons
  show (if x.2 then bigL (2147483648+k) 4++atsM (k+1) (a++b) else bigL x.1.pos 4++atsM k (a++b))=(if x.2 then bigL (2147483648+k) 4++atsM (k+1) a else bigL x.1.pos 4++atsM k a)++_
  by_cases hx:x.2=true
  ·rw [if_pos hx,if_pos hx,ih,hn,if_pos hx,List.append_assoc,show k+1+nfar a=k+(nfar a+1) by omega]
  ·rw [if_neg hx,if_neg hx,ih,hn,if_neg hx,List.append_assoc,Nat.add_zero]
theorem atsM_cons(k:Nat)(x:Row×Bool)(l:List (Row×Bool)):atsM k (x :: l)=(if x.2 then bigL (2147483648+k) 4 else bigL x.1.pos 4)++atsM (if x.2 then k+1 else k) l:=by
 show (if x.2 then _ else _)=_
 by_cases hx:x.2=true
 ·rw [if_pos hx,if_pos hx,if_pos hx]
 ·rw [if_neg hx,if_neg hx,if_neg hx]
theorem atsM_at{l:List (Row×Bool)}{i:Nat}{x:Row×Bool}(h:l[i]?=some x):part (atsM 0 l) (4*i) 4=if x.2 then bigL (2147483648+nfar (l.take i)) 4 else bigL x.1.pos 4:=by
 have hi:=(List.getElem?_eq_some_iff.1 h).1
 have e:=congrArg (atsM 0) (cut_at h)
 rw [atsM_append,atsM_cons,Nat.zero_add] at e
 rw [e]
 refine part_whole ?_ ?_
 ·rw [atsM_len,List.length_take];congr 1;omega
 ·split <;> rw [jbv]
theorem farsM_append(a b:List (Row×Bool)):jcr (a++b)=jcr a++jcr b:=List.flatMap_append ..
theorem farsM_at{l:List (Row×Bool)}{i:Nat}{x:Row×Bool}(h:l[i]?=some x)(hx:x.2=true):part (jcr l) (8*nfar (l.take i)) 8=bigL x.1.pos 8:=by
 have e:=congrArg jcr (cut_at h)
 rw [farsM_append,show jcr (x :: l.drop (i+1))=(if x.2 then bigL x.1.pos 8 else [])++jcr (l.drop (i+1)) from rfl,if_pos hx] at e
 rw [e]
 exact part_whole (farsM_len _).symm (jbv _ _).symm
theorem fansM_at(l:List Row){b:Nat}:∀ m,b<m→part (fansM l m) (4*b) 4=bigL (upto l b) 4:=by
 intro m
 induction m with
 | zero=>intro h;omega
 | succ m ih =>
  intro h
  rw [fansM_succ]
  by_cases e:b=m
  ·subst e
   have:=part_whole (a:=fansM l b) (b:=bigL (upto l b) 4) (c:=[]) (o:=4*b) (w:=4) (fansM_len _ _).symm (jbv _ _).symm
   rw [List.append_nil] at this
   exact this
  ·rw [part_left (by rw [fansM_len];omega)]
   exact ih (by omega)
theorem upto_mono(l:List Row){a b:Nat}(h:a≤b):upto l a≤upto l b:=by
 unfold upto
 refine List.countP_mono_left fun r _ hr=>?_
 rw [decide_eq_true_eq] at hr ⊢
 omega
theorem upto_all{l:List Row}(hok:∀ r∈l,r.ok):upto l 255=l.length:=by
 unfold upto
 rw [List.countP_eq_length]
 intro r hr
 have:=id0_lt (hok r hr)
 rw [decide_eq_true_eq];omega
theorem backF{m:List (Row×Bool)}{l:List Row}{pack:List Nat}(hl:m.map (·.1)=l)(hokf:∀ x∈m,x.1.ok)(hsh:∀ x∈m,x.2=false→x.1.pos<2147483648)(hs:StrictOn l)(hn:l.length≤4096)(h32:pack.length=32)(h8:∀ x∈pack,x<256):jas (jbg m pack)=(l,pack,0):=by
 have hml:m.length=l.length:=by rw [← hl,List.length_map]
 have hok:∀ r∈l,r.ok:=by
  intro r hr
  rw [← hl] at hr
  obtain ⟨x,hx,rfl⟩:=List.mem_map.1 hr
  exact hokf x hx
 let fl:Nat→Bool:=fun i=>(m.getD i (rz,false)).2
 have hbl:=bodyM_len hokf h32
 rw [hml] at hbl
 have hp8:=buildM_byte hokf h8
 have hpl:(jbg m pack).length=1096+40*l.length+8*nfar m:=by
  unfold jbg;rw [List.length_append,hbl,jby];omega
 have hnf:=nfar_le m
 rw [hml] at hnf
 have hp:jbg m pack=jbd++(fansM l 256++(idsM l++(jbx l++(atsM 0 m++(jcr m++(pack++sumM (bodyM m pack))))))):=by
  unfold jbg
  conv=>lhs;arg 1;unfold bodyM headM
  rw [hl]
  simp only [List.append_assoc]
 have lm:jbd.length=8:=rfl
 have lf:(fansM l 256).length=1024:=fansM_len l 256
 have li:=idsM_len hok
 have lc:=crcsM_len l
 have la:(atsM 0 m).length=4*l.length:=by rw [atsM_len,hml]
 have lr:=farsM_len m
 have q1:∀ b,b<256→part (jbg m pack) (8+4*b) 4=bigL (upto l b) 4:=by
  intro b hb
  rw [hp,← fansM_at l 256 hb,← lm]
  exact part_in (by rw [lf];omega)
 have q2:∀ o w,o+w≤32*l.length→part (jbg m pack) (1032+o) w=part (idsM l) o w:=by
  intro o w hh
  rw [hp,← List.append_assoc,show 1032+o=(jbd++fansM l 256).length+o by rw [List.length_append,lm,lf]]
  exact part_in (by rw [li];omega)
 have q3:∀ o w,o+w≤4*l.length→part (jbg m pack) (1032+32*l.length+o) w=part (jbx l) o w:=by
  intro o w hh
  rw [hp,← List.append_assoc,← List.append_assoc,show 1032+32*l.length+o=((jbd++fansM l 256)++idsM l).length+o by rw [List.length_append,List.length_append,lm,lf,li]]
  exact part_in (by rw [lc];omega)
 have q4:∀ o w,o+w≤4*l.length→part (jbg m pack) (1032+36*l.length+o) w=part (atsM 0 m) o w:=by
  intro o w hh
  rw [hp,← List.append_assoc,← List.append_assoc,← List.append_assoc,show 1032+36*l.length+o=(((jbd++fansM l 256)++idsM l)++jbx l).length+o by rw [List.length_append,List.length_append,List.length_append,lm,lf,li,lc];omega]
  exact part_in (by rw [la];omega)
 have q5:∀ o w,o+w≤8*nfar m→part (jbg m pack) (1032+40*l.length+o) w=part (jcr m) o w:=by
  intro o w hh
  rw [hp,← List.append_assoc,← List.append_assoc,← List.append_assoc,← List.append_assoc,show 1032+40*l.length+o=((((jbd++fansM l 256)++idsM l)++jbx l)++atsM 0 m).length+o by rw [List.length_append,List.length_append,List.length_append,List.length_append,lm,lf,li,lc,la];omega]
  exact part_in (by rw [lr];omega)
 have q6:part (jbg m pack) ((jbg m pack).length-64) 32=pack:=by
  rw [hpl,show 1096+40*l.length+8*nfar m-64=1032+40*l.length+8*nfar m by omega]
  rw [hp,← List.append_assoc,← List.append_assoc,← List.append_assoc,← List.append_assoc,← List.append_assoc]
  exact part_whole (by rw [List.length_append,List.length_append,List.length_append,List.length_append,List.length_append,lm,lf,li,lc,la,lr];omega) h32.symm
 have q7:(jbg m pack).take 8=jbd:=by rw [hp,List.take_left' lm]
 have q8:sumM ((jbg m pack).take ((jbg m pack).length-32))=(jbg m pack).drop ((jbg m pack).length-32):=by
  rw [hpl,show 1096+40*l.length+8*nfar m-32=(bodyM m pack).length by rw [hbl];omega]
  unfold jbg
  rw [List.take_left' rfl,List.drop_left' rfl]
 generalize jbg m pack=p at *
 have p4:256 ^ 4=4294967296:=by decide
 have p8:256 ^ 8=18446744073709551616:=by decide
 have hfan:∀ b,b<256→fanV p b=upto l b:=by
  intro b hb
  have hu:=upto_le l b
  unfold fanV g4
  rw [q1 b hb,bigN_bigL 4 _ (by rw [p4];omega)]
 have hlast:jbp p=l.length:=by
  unfold jbp;rw [hfan 255 (by omega),upto_all hok]
 have hup:fanUp p 256=true:=by
  unfold fanUp
  rw [List.all_eq_true]
  intro i hi
  have hi':=List.mem_range.1 hi
  rw [decide_eq_true_eq]
  unfold jco
  by_cases h0:i=0
  ·rw [if_pos h0];exact Nat.zero_le _
  ·rw [if_neg h0,hfan _ (by omega),hfan _ (by omega)]
   exact upto_mono l (by omega)
 have fl_get:∀ i,i<l.length→m[i]?=some (rat l i,fl i):=by
  intro i hi
  have h1:m[i]?=some m[i]:=List.getElem?_eq_getElem (by omega)
  have h2:(m.map (·.1))[i]?=some m[i].1:=by rw [List.getElem?_map,h1];rfl
  rw [hl] at h2
  have h3:=rat_get hi
  rw [h2] at h3
  rw [h1,← Option.some.inj h3]
  show some m[i]=some (m[i].1,(m.getD i (rz,false)).2)
  rw [List.getD_eq_getElem?_getD,h1];rfl
 have fl_short:∀ i,i<l.length→¬fl i=true→(rat l i).pos<2147483648:=by
  intro i hi hf
  exact hsh _ (List.mem_of_getElem? (fl_get i hi)) (by simpa using hf)
 have hat:∀ i,i<l.length→atV p l.length i=if fl i=true then 2147483648+nfar (m.take i) else (rat l i).pos:=by
  intro i hi
  have hk:nfar (m.take i)≤i:=by
   have:=nfar_le (m.take i)
   rw [List.length_take] at this
   omega
  unfold atV g4
  rw [q4 (4*i) 4 (by omega),atsM_at (fl_get i hi)]
  by_cases hf:fl i=true
  ·rw [if_pos hf,if_pos hf,bigN_bigL 4 _ (by rw [p4];omega)]
  ·have hpos:=fl_short i hi hf
   rw [if_neg hf,if_neg hf]
   exact bigN_bigL 4 _ (by rw [p4];show (rat l i).pos<4294967296;omega)
 have hfar:∀ i,i<l.length→farF p l.length i=fl i:=by
  intro i hi
  unfold farF
  rw [hat i hi]
  by_cases hf:fl i=true
  ·rw [if_pos hf,hf];exact dT (by omega)
  ·have hf':fl i=false:=by simpa using hf
   have hpos:=fl_short i hi hf
   rw [if_neg hf,hf']
   exact dF (by omega)
 have hkP:∀ i,i≤l.length→kP p l.length i=nfar (m.take i):=by
  intro i
  induction i with
  | zero=>intro _;rfl
  | succ i ih =>
   intro h
   rw [kP_succ,ih (by omega),hfar i (by omega),← jar (fl_get i (by omega)),nfar_snoc]
 have hkn:kP p l.length l.length=nfar m:=by
  rw [hkP _ (Nat.le_refl _),List.take_of_length_le (by rw [hml];omega)]
 have hrow:∀ i,i<l.length→rowP p l.length i=rat l i:=by
  intro i hi
  have hr:=hok _ (rat_mem hi)
  have e1:idV p i=(rat l i).id:=by
   unfold idV
   rw [q2 (32*i) 32 (by omega),idsM_at (rat_get hi) hok]
  have e2:crcV p l.length i=(rat l i).crc:=by
   unfold crcV g4
   have hcr:=hr.2.2.1
   rw [q3 (4*i) 4 (by omega),crcsM_at (rat_get hi),bigN_bigL 4 _ (by rw [p4];exact hcr)]
  have e3:(if farF p l.length i=true then farV p l.length i else atV p l.length i)=(rat l i).pos:=by
   by_cases hf:fl i=true
   ·rw [hfar i hi,if_pos hf]
    unfold farV
    have hpo:=hr.2.2.2
    have h1:nfar (m.take (i+1))≤nfar m:=by
     rw [← hkn,← hkP (i+1) (by omega)];exact kP_mono p _ (by omega)
    rw [← jar (fl_get i hi),nfar_snoc,if_pos (show ((rat l i,fl i):Row×Bool).2=true from hf)] at h1
    rw [hkP i (by omega),q5 _ 8 (by omega),farsM_at (fl_get i hi) hf,bigN_bigL 8 _ (by rw [p8];exact hpo)]
   ·rw [hfar i hi,if_neg hf,hat i hi,if_neg hf]
  unfold rowP
  rw [e1,e2,e3]
 have hrows:jbq p l.length=l:=by
  apply List.ext_getElem?
  intro i
  by_cases hi:i<l.length
  ·rw [rowsP_get hi,hrow i hi,rat_get hi]
  ·rw [List.getElem?_eq_none (by rw [jbn];omega),List.getElem?_eq_none (by omega)]
 have hsz:szM p=(l.length,nfar m,0):=by
  unfold szM
  rw [hlast,hkn,hup,hpl,if_neg (by omega),if_neg (fun hh=>hh q7),if_neg (by decide),if_neg (by omega),if_neg (by omega),if_neg (by omega),if_neg (by omega)]
 have hrd:readOK p (szM p).1:=by
  rw [hsz]
  refine ⟨fun i hi hf=>?_,fun i h0 hi=>?_,fun b hb=>?_⟩
  ·rw [hat i hi,if_pos (by rw [← hfar i hi];exact hf),hkP i (by omega)]
  ·rw [hrow _ (by omega),hrow _ hi];exact hs _ _ (by omega) hi
  ·show fanV p b=upto (jbq p l.length) b
   rw [hrows,hfan b hb]
 rw [parseR_g (by rw [hsz];exact fun h=>h rfl) q8 hrd,hsz,q6]
 show (jbq p l.length,pack,(0:Int))=_
 rw [hrows]
theorem back{l:List Row}{pack:List Nat}(hok:∀ r∈l,r.ok)(hs:StrictOn l)(hn:l.length≤4096)(h32:pack.length=32)(h8:∀ x∈pack,x<256):jas (jbg (jbr l) pack)=(l,pack,0) :=
 backF (flags_fst l) (flags_ok hok) (fun x hx hf=>by
  obtain ⟨r,hr,rfl⟩:=List.mem_map.1 hx
  have:¬2147483648≤r.pos:=of_decide_eq_false hf
  show r.pos<2147483648
  omega) hs hn h32 h8
end Go.Proofs.YtcmhoboglapbdaaDoor
namespace Go.Proofs.YtcmhoboglapbdaaDoor
open Go Ev
theorem parse_spec{F m:Nat}(hF:2000000<F){h:AH}(hw:h.WF)(hk:KT h){pv:V}{p:List Nat}(hp:Bs h pv p)(hlen:p.length≤1000000) :
  ∃ w h',runC (EE F) (m+4) nzam [pv] h=some (.tuple [w,.agg (jaa (jas p).2.1),.int .i64 (jas p).2.2],h')∧OwnR h.next jak h' w (jas p).1∧Old h.next h h' :=
 parse_cps (out:=fun x=>∃ w h',x=some (.tuple [w,.agg (jaa (jas p).2.1),.int .i64 (jas p).2.2],h')∧OwnR h.next jak h' w (jas p).1∧Old h.next h h') hF hw hk hp hlen (fun w h' a b=>⟨w,h',rfl,a,b⟩)
theorem docParse_spec{F m:Nat}(hF:2000000<F){h:AH}(hw:h.WF){pv:V}{p:List Nat}(hp:Bs h pv p)(hlen:p.length≤1000000) :
  ∃ w h',runC (EE F) (m+4) nzbc [pv] h=some (.tuple [w,.agg (jaa (jas p).2.1),.int .i64 (jas p).2.2],h')∧OwnR h.next jac h' w (jas p).1∧Old h.next h h':=by
 rw [← docR_eq hp.2]
 exact docParse_cps (out:=fun x=>∃ w h',x=some (.tuple [w,.agg (jaa (docR p).2.1),.int .i64 (docR p).2.2],h')∧OwnR h.next jac h' w (docR p).1∧Old h.next h h') hF hw hp hlen (fun w h' a b=>⟨w,h',rfl,a,b⟩)
theorem find_spec{F m:Nat}(hF:2000000<F){h:AH}(hw:h.WF)(hk:KT h){pv:V}{p:List Nat}(hp:Bs h pv p)(hlen:p.length≤1000000){id:List Nat}(hi:id.length=32)(hi8:∀ x∈id,x<256) :
  ∃ h',runC (EE F) (m+5) nzak [pv,.agg (jaa id)] h=some (.tuple [.agg (rowL (findR p id).1),.int .i64 (findR p id).2],h')∧Old h.next h h' :=
 find_cps (out:=fun x=>∃ h',x=some (.tuple [.agg (rowL (findR p id).1),.int .i64 (findR p id).2],h')∧Old h.next h h') hF hw hk hp hlen hi hi8 (fun h' a=>⟨h',rfl,a⟩)
theorem docFind_spec{F m:Nat}(hF:2000000<F){h:AH}(hw:h.WF){pv:V}{p:List Nat}(hp:Bs h pv p)(hlen:p.length≤1000000){id:List Nat}(hi:id.length=32)(hi8:∀ x∈id,x<256) :
  ∃ h',runC (EE F) (m+5) nzbb [pv,.agg (jaa id)] h=some (.tuple [.agg (rowL (findR p id).1),.int .i64 (findR p id).2],h')∧Old h.next h h' :=
 docFind_cps (out:=fun x=>∃ h',x=some (.tuple [.agg (rowL (findR p id).1),.int .i64 (findR p id).2],h')∧Old h.next h h') hF hw hp hlen hi hi8 (fun h' a=>⟨h',rfl,a⟩)
theorem Build_spec{F m:Nat}(hF:2000000<F){h:AH}(hw:h.WF)(hk:KT h){p:V}{l:List Row}(hp:Rs h p l)(hl:l.length≤200∨4096<l.length)(hlen:l.length≤2932031007317){pack:List Nat}(h32:pack.length=32)(h8:∀ x∈pack,x<256) :
  ∃ v h',runC (EE F) (m+210) nzaj [p,.agg (jaa pack)] h=some (.tuple [v,.int .i64 (buildE l)],h')∧Own h.next 1 jai h' v (jcj l pack).length (jaa (jcj l pack))∧Old h.next h h' :=
 build_spec (d:=m+203) (N:=200) (by omega) (sort_ok (m:=m) (by omega)) (by omega) hw hk hp hl hlen h32 h8
theorem buildB_byte{l:List Row}(hok:∀ r∈l,r.ok){pack:List Nat}(h8:∀ x∈pack,x<256):∀ x∈jcj l pack,x<256:=by
 unfold jcj
 split
 ·intro x hx;cases hx
 ·split
  ·intro x hx;cases hx
  ·exact buildM_byte (flags_ok (sortM_ok hok)) h8
theorem buildB_len{l:List Row}(hok:∀ r∈l,r.ok){pack:List Nat}(h32:pack.length=32):(jcj l pack).length≤400000:=by
 unfold jcj
 split
 ·simp
 ·split
  ·simp
  ·have h1:=bodyM_len (flags_ok (sortM_ok hok)) h32
   have h2:=nfar_le (jbr (sortM l))
   rw [flags_len,sortM_len] at h1 h2
   unfold jbg
   rw [List.length_append,h1,jby];omega
theorem strict_on{l:List Row}(h:StrictS l):StrictOn l:=by
 intro i j hij hj
 have:=List.pairwise_iff_getElem.1 h i j (by omega) hj hij
 rw [jbz (show i<l.length by omega),jbz hj] at this
 exact this
theorem build_back{l:List Row}(hok:∀ r∈l,r.ok)(he:buildE l=0){pack:List Nat}(h32:pack.length=32)(h8:∀ x∈pack,x<256):jas (jcj l pack)=(sortM l,pack,0)∧StrictOn (sortM l):=by
 unfold buildE at he
 unfold jcj
 by_cases h1:4096<l.length
 ·rw [if_pos h1] at he;cases he
 ·rw [if_neg h1] at he ⊢
  by_cases h2:jcp (sortM l)=true
  ·rw [if_pos h2] at he;cases he
  ·rw [if_neg h2]
   have hst:=strict_on (strict_of (sortM_both l).2 (by simpa using h2))
   exact ⟨back (sortM_ok hok) hst (by rw [sortM_len];omega) h32 h8,hst⟩
abbrev idA(n:Nat):List Nat:=n :: List.replicate 31 0
def rowA:Row:=⟨idA 2,0,7⟩
def rowB:Row:=⟨idA 1,9,2147483648⟩
theorem idA_byte{n:Nat}(h:n<256):∀ x∈idA n,x<256:=by
 intro x hx
 rcases List.mem_cons.1 hx with rfl | hx
 ·exact h
 ·rw [List.eq_of_mem_replicate hx];omega
theorem rowA_ok:rowA.ok:=⟨rfl,idA_byte (by omega),by decide,by decide⟩
theorem rowB_ok:rowB.ok:=⟨rfl,idA_byte (by omega),by decide,by decide⟩
theorem bld_A:bld [(0,32,(.agg (jaa (idA 2)))),(33,1,(.int .u64 7))] (List.replicate 32 (.int .u8 0)++[.int .u32 0]++[.int .u64 0])=some (.agg (rowL rowA)):=rfl
theorem bld_B:bld [(0,32,(.agg (jaa (idA 1)))),(33,1,(.int .u64 2147483648)),(32,1,(.int .u32 9))] (List.replicate 32 (.int .u8 0)++[.int .u32 0]++[.int .u64 0])=some (.agg (rowL rowB)):=rfl
theorem two_rows{h:AH}(hw:h.WF){a b:Row}(ha:a.ok)(hb:b.ok)(e:Nat):∃ v h',bsl 34 2 [(0,34,(.agg (rowL a))),(34,34,(.agg (rowL b)))] (List.replicate 32 (.int .u8 0)++[.int .u32 0]++[.int .u64 0]) e h=some (v,h')∧OwnR h.next e h' v [a,b]∧Old h.next h h':=by
 have la:=jav ha
 have lb:=jav hb
 have hz:(List.replicate 2 zRow).flatten.length=68:=rfl
 refine bsl_own hw (z:=34) (n:=2) (cs:=rowsL [a,b]) ?_ (by rw [rowsL_len (by intro r hr;simp only [List.mem_cons,List.not_mem_nil,or_false] at hr;rcases hr with rfl | rfl;exact ha;exact hb)];rfl) (rowsL_cell _)
 have e1:putL (rowL a) 0 (List.replicate 2 zRow).flatten=rowL a++zRow:=by
  unfold putL
  rw [List.take_zero,List.nil_append,Nat.zero_add,la]
  congr 1
 have e2:putL (rowL b) 34 (rowL a++zRow)=rowL a++rowL b:=by
  unfold putL
  rw [List.take_left' la,List.drop_append,List.drop_of_length_le (by omega),lb,la]
  simp
 unfold fillW
 rw [if_pos ⟨rfl,la,by rw [hz];omega⟩]
 unfold fillW
 rw [if_pos ⟨rfl,lb,by show 34+34≤(putL (rowL a) 0 _).length;rw [e1,List.length_append,la];simp⟩]
 show fillW [] (putL (rowL b) 34 (putL (rowL a) 0 _))=_
 rw [e1,e2]
 show some _=some _
 rw [jch,rowsL_one]
theorem sortAB:sortM [rowA,rowB]=[rowB,rowA]:=by kernel_rfl
theorem twiceBA:jcp [rowB,rowA]=false:=by kernel_rfl
theorem buildE_AB:buildE [rowA,rowB]=0:=by
 unfold buildE
 rw [sortAB,twiceBA]
 rfl
theorem buildB_AB_len{pack:List Nat}(h32:pack.length=32):(jcj [rowA,rowB] pack).length=1184:=by
 unfold jcj
 rw [sortAB,twiceBA]
 show (jbg (jbr [rowB,rowA]) pack).length=1184
 have hok:∀ x∈jbr [rowB,rowA],x.1.ok:=flags_ok (by
  intro r hr
  simp only [List.mem_cons,List.not_mem_nil,or_false] at hr
  rcases hr with rfl | rfl
  ·exact rowB_ok
  ·exact rowA_ok)
 unfold jbg
 rw [List.length_append,bodyM_len hok h32,jby]
 have e:nfar (jbr [rowB,rowA])=1:=by kernel_rfl
 rw [e]
 rfl
theorem awake10_spec{F m:Nat}(hF:2000000<F){h:AH}(hw:h.WF)(hk:KT h):∃ h',runC (EE F) (m+211) nzae [] h=some (.bool true,h')∧Old h.next h h':=by
 rw [tzae]
 have hpos:=hk.pos hw
 have hokAB:∀ r∈[rowA,rowB],r.ok:=by
  intro r hr
  simp only [List.mem_cons,List.not_mem_nil,or_false] at hr
  rcases hr with rfl | rfl
  ·exact rowA_ok
  ·exact rowB_ok
 obtain ⟨v1,h1,e1,w1,o1⟩:=two_rows hw rowA_ok rowB_ok jak
 have hid:∀ n,(idA n).length=32:=fun n=>rfl
 obtain ⟨v2,h2,e2,w2,o2⟩:=Build_spec (F:=F) (m:=m) hF o1.wf (hk.old hpos o1) (p:=v1) (l:=[rowA,rowB]) ⟨w1.sl,hokAB⟩ (.inl (by simp)) (by simp) (pack:=idA 5) (hid 5) (idA_byte (by omega))
 have o12:=o1.trans (o2.weak o1.next)
 have hb8:=buildB_byte hokAB (idA_byte (show 5<256 by omega))
 have hbl:=buildB_len hokAB (hid 5)
 have hb1184:=buildB_AB_len (hid 5)
 obtain ⟨hpr,hst⟩:=build_back hokAB buildE_AB (hid 5) (idA_byte (show 5<256 by omega))
 rw [buildE_AB] at e2
 rw [sortAB] at hpr
 generalize jcj [rowA,rowB] (idA 5)=P at *
 have hfr:findR P (idA 1)=(rowB,0):=by
  unfold findR
  rw [hpr]
  rfl
 have b2:=w2.bs hb8
 obtain ⟨h3,e3,o3⟩:=find_spec (F:=F) (m:=m+205) hF o2.wf (hk.old hpos o12) b2 (by omega) (hid 1) (idA_byte (show 1<256 by omega))
 rw [hfr] at e3
 have o13:=o12.trans (o3.weak o12.next)
 obtain ⟨h4,t1,t2,t3,t4,t5⟩:=tmp_row o3.wf rowB_ok jak
 have o14:=o13.trans (t4.weak o13.next)
 have b4:=(b2.old o2.wf o3).old o3.wf t4
 obtain ⟨w5,h5,e5,y5,o5⟩:=parse_spec (F:=F) (m:=m+206) hF t4.wf (hk.old hpos o14) b4 (by omega)
 rw [hpr] at e5 y5
 obtain ⟨c1,c2,c3,c4⟩:=jay o5.wf (List.replicate 32 (.int .u8 0)) jab rfl (by simp)
 have c2':(al (List.replicate 32 (.int .u8 0)) jab h5).1=.ptr ⟨h5.next,32,0⟩:=c2
 generalize hh6:(al (List.replicate 32 (.int .u8 0)) jab h5).2=h6 at *
 obtain ⟨h7,p1,p2,p3⟩:=c1.put c4.wf (n:=32) (vs:=jaa (idA 5)) rfl rfl (jap _)
 have o57:Old h5.next h5 h7:=c4.trans (p3.old (Nat.le_refl _))
 have o47:Old h4.next h4 h7:=o5.trans (o57.weak o5.next)
 have t7:=t3.old t4.wf o47
 have b7:=b4.old t4.wf o47
 have hokBA:∀ r∈[rowB,rowA],r.ok:=by
  intro r hr
  simp only [List.mem_cons,List.not_mem_nil,or_false] at hr
  rcases hr with rfl | rfl
  ·exact rowB_ok
  ·exact rowA_ok
 have R7:Rs h7 w5 [rowB,rowA]:=⟨(y5.old o5.wf o57).sl,hokBA⟩
 obtain ⟨a,u1,u2⟩:=R7.at (i:=0) (r:=rowB) rfl
 have u1':ixS 34 w5 0=some (.ptr a):=u1
 have ep:ldA 32 (.ptr ⟨h5.next,32,0⟩) h7=some (.agg (jaa (idA 5))):=p2.ldA rfl
 have q1:((0:Int)==0)=true:=rfl
 have q2:(((rowB.pos:Nat):Int)==2147483648)=true:=rfl
 have q3:(((rowB.crc:Nat):Int)==9)=true:=rfl
 have q4:(((P.length:Nat):Int)==1184)=true:=by rw [hb1184];rfl
 have q5:((([rowB,rowA].length:Nat):Int)==2)=true:=rfl
 have eq1:eqW PP false jab (.agg (jaa rowB.id)) (.agg (jaa (idA 1)))=some (.bool true):=by rw [eqId rowB_ok.1 rfl];rfl
 have eq5:eqW PP false jab (.agg (jaa (idA 5))) (.agg (jaa (idA 5)))=some (.bool true):=by rw [eqId rfl rfl,dT rfl]
 have k2:bld [(0,1,(.int .u8 2))] (List.replicate 32 (.int .u8 0))=some (.agg (jaa (idA 2))):=rfl
 have k1:bld [(0,1,(.int .u8 1))] (List.replicate 32 (.int .u8 0))=some (.agg (jaa (idA 1))):=rfl
 have k5:bld [(0,1,(.int .u8 5))] (List.replicate 32 (.int .u8 0))=some (.agg (jaa (idA 5))):=rfl
 refine ⟨h7,?_,o14.trans (o47.weak o14.next)⟩
 simp -implicitDefEqProofs only [zae.fn,zae.c0,k2,k1,k5,jaf,bld_A,bld_B,e1,jam,cxC,e2,ex0,ex1,jae,jag,e3,t1,t2,jaj,e5,et0,et1,et2,c2',hh6,p1,q1,cond_true,jbu,row_pos t7 rowB_ok,row_crc t7 rowB_ok,q2,q3,b7.1.len,q4,R7.1.len,q5,u1',fA_at,rid_of u2 rowB_ok,eq1,bB_some,ep,eq5,zae.ret]
 rfl
end Go.Proofs.YtcmhoboglapbdaaDoor
namespace Go.Proofs.YtcmhoboglapbdaaDoor
open Go Go.ChangeShapes Go.WideShapes Go.ChangeAt Go.RowKit Ev
theorem laidOut:laidOutB Tryd.prog=true:=by kernel_rfl
theorem GG_tab(l:List Tab)(pl:Nat→Spot)(e:Nat)(h:tabOf l 0=some ⟨0,kTab.map (V.int .u32),e⟩)(hp:pl 0=⟨0,0,64⟩)(g L:Nat)(hg:GG g=some L):∃ t,tabOf l g=some t∧t.vs.length=L∧(pl g).cb=g∧(pl g).off=0:=by
 cases g with
 | zero=>cases hg;exact ⟨_,h,rfl,by rw [hp],by rw [hp]⟩
 | succ g=>cases hg
end Go.Proofs.YtcmhoboglapbdaaDoor
namespace Go.Proofs.YtcmhoboglapbdaaDoor
open Go Go.ChangeShapes Go.WideShapes Go.ChangeAt Go.RowKit Go.WideElems Ev
section
structure RT (P:Program) (ts ti tr ta tb tc:TypeId) (f0 f1 f2:Field):Prop where
 us:P.underlying ts=some (.slice tr)
 ur:P.underlying tr=some (.struct #[f0,f1,f2])
 ui:P.underlying ti=some (.array 32 ta)
 ua:P.underlying ta=some (.int .u8)
 ub:P.underlying tb=some (.int .u32)
 uc:P.underlying tc=some (.int .u64)
 f0:f0.type=ti∧f0.offset=0
 f1:f1.type=tb∧f1.offset=32
 f2:f2.type=tc∧f2.offset=33
 ca:P.cellsOf ta=1
 ci:P.cellsOf ti=32
 cb:P.cellsOf tb=1
 cc:P.cellsOf tc=1
 cr:P.cellsOf tr=34
variable {H:Type} {enc:TypeId×Value→H} {P:Program} {W:World} {base:Nat} {sp:Nat→Bool} {held:Bool} {ts ti tr ta tb tc:TypeId} {f0 f1 f2:Field}
end
end Go.Proofs.YtcmhoboglapbdaaDoor
namespace Go.Proofs.YtcmhoboglapbdaaDoor
open Go Ev
theorem quiet_get{g:AH→Res}{h h':AH}{v:V}(e:g ⟨h.next,h.next,h.m⟩=some (v,h'))(ho:h.next≤h'.low):quiet g h=some (v,⟨h'.next,h.low,h'.m⟩):=by
 unfold quiet
 rw [e]
 simp only
 rw [if_pos ho]
theorem id_box{h:AH}(hw:h.WF){l:List Nat}(hl:l.length=32):∃ h',absBox jab (.agg (jaa l)) h=some (.ptr ⟨h.next,32,0⟩,h')∧jal h' h.next jab (jaa l)∧h'.next=h.next+1∧Old h.next h h':=by
 obtain ⟨h1,e1,c1,n1,o1⟩:=jbe hw (jaa l) jab (jap l)
 exact ⟨h1,by rw [e1,jad,hl],c1,n1,o1⟩
end Go.Proofs.YtcmhoboglapbdaaDoor
namespace Go.Proofs.YtcmhoboglapbdaaDoor
open Go Ev
theorem id_put{h:AH}(hw:h.WF){l:List Nat}(hl:l.length=32):∃ h',(al (List.replicate 32 (.int .u8 0)) jab h).1=.ptr ⟨h.next,32,0⟩∧st 32 (.ptr ⟨h.next,32,0⟩) (.agg (jaa l)) (al (List.replicate 32 (.int .u8 0)) jab h).2=some h'∧ldA 32 (.ptr ⟨h.next,32,0⟩) h'=some (.agg (jaa l))∧jal h' h.next jab (jaa l)∧Old h.next h h':=by
 obtain ⟨c1,c2,c3,c4⟩:=jay hw (List.replicate 32 (.int .u8 0)) jab rfl (by simp)
 obtain ⟨h',p1,p2,p3⟩:=c1.put c4.wf (n:=32) (vs:=jaa l) rfl (by rw [jad,hl]) (jap _)
 exact ⟨h',c2,p1,p2.ldA (by rw [jad,hl]),p2,c4.trans (p3.old (Nat.le_refl _))⟩
end Go.Proofs.YtcmhoboglapbdaaDoor
namespace Go.Proofs.YtcmhoboglapbdaaDoor
open Go Ev
theorem findR_ok{p:List Nat}(hp:∀ x∈p,x<256)(id:List Nat):(findR p id).1.ok:=by
 unfold findR
 split
 ·exact rz_ok
 ·split
  ·rename_i r hr
   exact (parseR_facts hp).2.2.1 r (List.mem_of_find?_eq_some hr)
  ·exact rz_ok
theorem quiet_twin{F n:Nat}{h:AH}(hw:h.WF){p:V}{l:List Nat}(hb:Bs h p l)(hl:l.length≤140737488355000) :
  ∃ v h',quiet (fun h=>runC (EE F) (n+1) nzax [p] h) h=some (v,h')∧Own h.next 1 jai h' v l.length (jaa l)∧Old h.next h h':=by
 obtain ⟨v,h',e,w,o⟩:=twin_spec (F:=F) (n:=n) (wf_low hw h.next) (show Bs ⟨h.next,h.next,h.m⟩ p l from hb) hl
 refine ⟨v,⟨h'.next,h.low,h'.m⟩,?_,w.mono o.wf (fun _ _=>rfl),o.next,o.get,Nat.min_le_left _ _,o.wf⟩
 exact quiet_get e (by have:=o.low;simp only at this;omega)
theorem reads_spec{F m:Nat}{h:AH}(hw:h.WF)(hk:KT h){p:V}{l:List Nat}(hp:Bs h p l)(hF:2000000<F){id:List Nat}(h32:id.length=32)(h8:∀ x∈id,x<256) :
  ∃ h',runC (EE F) (m+212) nzad [p,.agg (jaa id)] h=some (.bool true,h'):=by
 rw [tzad]
 have hpos:=hk.pos hw
 obtain ⟨h1,e1,c1,n1,o1⟩:=id_box hw h32
 obtain ⟨h2,e2,o2⟩:=awake10_spec (F:=F) (m:=m) (by omega) o1.wf (hk.old hpos o1)
 have o12:=o1.trans (o2.weak o1.next)
 have P2:=hp.old hw o12
 have c2:=c1.old o1.wf o2
 by_cases hb:8000<l.length
 ·have x1:decide ((l.length:Int)>8000)=true:=by rw [decide_eq_true_eq];omega
  refine ⟨h2,?_⟩
  simp -implicitDefEqProofs only [zad.fn,zad.c0,zad.k0,zad.c1,zad.k1,zad.r3,zad.c3,zad.k3,zad.c4,cxC,e1,jam,e2,cB_some,Bool.not_true,cond_false,P2.1.len,jag,x1,cond_true,zad.ret]
  rfl
 ·have x1:decide ((l.length:Int)>8000)=false:=by rw [decide_eq_false_iff_not];omega
  obtain ⟨f1,f2,f3,f4⟩:=parseR_facts hp.2
  have fr:=findR_ok hp.2 id
  obtain ⟨v3,h3,e3,w3,o3⟩:=twin_spec (F:=F) (n:=m+210) o2.wf P2 (by omega)
  have o13:=o12.trans (o3.weak o12.next)
  obtain ⟨v4,h4,e4,w4,o4⟩:=parse_spec (F:=F) (m:=m+207) hF o3.wf (hk.old hpos o13) (w3.bs hp.2) (by omega)
  have o14:=o13.trans (o4.weak o13.next)
  obtain ⟨h5,t1,t2,_,t4,o5⟩:=id_put o4.wf f1
  have o15:=o14.trans (o5.weak o14.next)
  obtain ⟨v6,h6,e6,w6,o6⟩:=docParse_spec (F:=F) (m:=m+207) hF o5.wf (hp.old hw o15) (by omega)
  have o16:=o15.trans (o6.weak o15.next)
  obtain ⟨h7,s1,s2,s3,s4,o7⟩:=id_put o6.wf f1
  have o17:=o16.trans (o7.weak o16.next)
  have d57:=o6.trans (o7.weak o6.next)
  have d47:=o5.trans (d57.weak o5.next)
  obtain ⟨v8,h8',e8,w8,o8⟩:=of_spec (F:=F) (n:=m+210) o7.wf (l:=(jas l).1) ⟨(w4.old o4.wf d47).sl,f3⟩ (by omega) (by omega)
  have o18:=o17.trans (o8.weak o17.next)
  have d78:=o7.trans (o8.weak o7.next)
  have e9:=same10_spec (F:=F) (n:=m+210) (h:=h8') (p:=v8) (q:=v6) (l:=(jas l).1) (m:=(jas l).1) ⟨w8.sl,f3⟩ ⟨(w6.old o6.wf d78).sl,f3⟩ (by omega) (by omega)
  have l8:=((t4.old o5.wf d57).old o7.wf o8).ldA (n:=32) (by rw [jad,f1])
  have k8:=(s4.old o7.wf o8).ldA (n:=32) (by rw [jad,f1])
  have ne:neW PP false jab (.agg (jaa (jas l).2.1)) (.agg (jaa (jas l).2.1))=some (.bool false):=by rw [neId f1 f1,dT rfl];rfl
  have P8:=hp.old hw o18
  obtain ⟨v10,h10,e10,w10,o10⟩:=quiet_twin (F:=F) (n:=m+210) o8.wf P8 (by omega)
  have o20:=o18.trans (o10.weak o18.next)
  have c8:=(c2.old o2.wf (((o3.trans (o4.weak o3.next)).trans (d47.weak (Nat.le_trans o3.next o4.next))).trans (o8.weak (Nat.le_trans (Nat.le_trans o3.next o4.next) d47.next))))
  have c10:=c8.old o8.wf o10
  have i10:=c10.ldA (n:=32) (by rw [jad,h32])
  obtain ⟨h11,e11,o11⟩:=find_spec (F:=F) (m:=m+206) hF o10.wf (hk.old hpos o20) (w10.bs hp.2) (by omega) h32 h8
  have o21:=o20.trans (o11.weak o20.next)
  obtain ⟨h12,a1,a2,a3,a4,_⟩:=tmp_row o11.wf fr jak
  have o22:=o21.trans (a4.weak o21.next)
  have c12:=(c10.old o10.wf o11).old o11.wf a4
  have i12:=c12.ldA (n:=32) (by rw [jad,h32])
  obtain ⟨h13,e13,o13'⟩:=docFind_spec (F:=F) (m:=m+206) hF a4.wf (hp.old hw o22) (by omega) h32 h8
  obtain ⟨h14,b1,b2,b3,b4,_⟩:=tmp_row o13'.wf fr jac
  have a14:=(a3.old a4.wf o13').old o13'.wf b4
  have y14:=b3.ldA (n:=34) (jav fr).symm
  have eqr:eqW PP false jac (.agg (rowL (findR l id).1)) (.agg (rowL (findR l id).1))=some (.bool true):=by rw [eqRow fr fr,dT rfl]
  have r1:((jas l).2.2 != (jas l).2.2)=false:=bne_self_eq_false _
  have r2:((findR l id).2==(findR l id).2)=true:=beq_self_eq_true _
  refine ⟨h14,?_⟩
  simp -implicitDefEqProofs only [zad.fn,zad.c0,zad.k0,zad.c1,zad.k1,zad.r3,zad.c3,zad.k3,cxC,e1,jam,e2,cB_some,Bool.not_true,cond_false,P2.1.len,jag,x1,zad.r5,zad.c5,e3,e4,et0,et1,et2,jae,jaf,t1,t2,jaj,e6,s1,s2,zad.k6,zad.c7,e8,e9,decide_true,l8,k8,ne,bB_some,r1,
   zad.k7,zad.r9,zad.c9,e10,i10,e11,ex0,ex1,a1,a2,i12,e13,b1,b2,jbu,row_id a14 fr,row_crc a14 fr,row_pos a14 fr,bld_row fr,y14,eqr,cond_true,r2,zad.ret]
  rfl
end Go.Proofs.YtcmhoboglapbdaaDoor
namespace Go.Proofs.YtcmhoboglapbdaaDoor
open Go Go.ChangeShapes Go.WideShapes Go.ChangeAt Go.RowKit Ev
theorem walk_bytesF{W:World}(hL:Lib.TabIs Tryd.prog W "codicil/sha.k" .u32 kTab){v:Value}{f:FuncId}{args:List V}{vs:List Value}(hA:∀ ρ,RL ρ args vs)(l:List Nat)(hl8:∀ x∈l,x<256)
  (hv:(l=[]∧((∀ ρ,R ρ .nilslice v)∨(∀ ρ,R ρ .loose v)))∨(l≠[]∧∃ cb off S e' cap,v=.slice (some ⟨cb,off,none⟩) l.length cap∧l.length≤cap∧off+cap≤S∧∀ g,Tab.Fits ⟨g,jaa l,e'⟩ ⟨cb,off,S⟩ W))
  (hrun:∀ (h:AH) (p:V),h.WF→KT h→Bs h p l→∃ F n h',runC (EE F) n f (p :: args) h=some (.bool true,h')) :
  Calls Tryd.prog f (v :: vs).toArray W fun e w=>e=.returned (.bool true)∧Same W w:=by
 obtain ⟨e,he⟩:=tab_fits hL gK
 have fin:∀ {F n:Nat} {tl:List Tab} {pl:Nat→Spot} {m:Nat} {p:V} {h':AH},(∀ t∈tl,t.g<m)→(∀ t∈tl,t.Fits (pl t.g) W)→tabOf tl 0=some ⟨0,kTab.map (V.int .u32),e⟩→pl 0=⟨0,0,64⟩→R (tabsRho tl pl) p v→runC (EE F) n f (p :: args) (tabsH m tl)=some (.bool true,h') →
   Calls Tryd.prog f (v :: vs).toArray W fun e w=>e=.returned (.bool true)∧Same W w:=by
  intro F n tl pl m p h' h1 h2 h3 h4 h5 h6
  refine (tab_calls (EE_ok F) (n:=n) (f:=f) (l:=tl) (pl:=pl) (m:=m) (W:=W) (args:=p :: args) (args':=v :: vs) h1 h2 (GG_tab tl pl e h3 h4) (show RL (tabsRho tl pl) (p :: args) (v :: vs) from ⟨v,vs,rfl,h5,hA _⟩) h6).mono ?_
  rintro x w ⟨u,ρ',rfl,q1,_,_,q2⟩
  exact ⟨by rw [show u=.bool true from q1],q2⟩
 have kt:∀ {m:Nat} {tl:List Tab},tabOf tl 0=some ⟨0,kTab.map (V.int .u32),e⟩→KT (tabsH m tl):=fun h=>tab_read h rfl
 rcases hv with ⟨rfl,hv⟩ | ⟨hne,cb,off,S,e',cap,rfl,hcap,hS,hfit⟩
 ·have hw:(tabsH 1 [⟨0,kTab.map (V.int .u32),e⟩]).WF:=tabs_wf (by intro t ht;simp only [List.mem_singleton] at ht;subst ht;exact Nat.one_pos)
  have hb:∀ p,(p=.nilslice∨p=.loose)→Bs (tabsH 1 [⟨0,kTab.map (V.int .u32),e⟩]) p []:=fun p hp=>⟨⟨rfl,.inl ⟨rfl,hp⟩⟩,by simp⟩
  rcases hv with hv | hv
  ·obtain ⟨F,n,h',hr⟩:=hrun _ _ hw (kt rfl) (hb .nilslice (.inl rfl))
   exact fin (pl:=fun _=>⟨0,0,64⟩) (by intro t ht;simp only [List.mem_singleton] at ht;subst ht;exact Nat.one_pos) (by intro t ht;simp only [List.mem_singleton] at ht;subst ht;exact he) rfl rfl (hv _) hr
  ·obtain ⟨F,n,h',hr⟩:=hrun _ _ hw (kt rfl) (hb .loose (.inr rfl))
   exact fin (pl:=fun _=>⟨0,0,64⟩) (by intro t ht;simp only [List.mem_singleton] at ht;subst ht;exact Nat.one_pos) (by intro t ht;simp only [List.mem_singleton] at ht;subst ht;exact he) rfl rfl (hv _) hr
 ·have hm:∀ t∈([⟨1,jaa l,e'⟩,⟨0,kTab.map (V.int .u32),e⟩]:List Tab),t.g<2:=by
   intro t ht
   simp only [List.mem_cons,List.not_mem_nil,or_false] at ht
   rcases ht with rfl | rfl
   ·exact Nat.lt_succ_self 1
   ·exact Nat.two_pos
  obtain ⟨F,n,h',hr⟩:=hrun _ _ (tabs_wf hm) (kt (m:=2) (tl:=[⟨1,jaa l,e'⟩,⟨0,kTab.map (V.int .u32),e⟩]) rfl) (tab_bs (g:=1) (e:=e') rfl hl8)
  refine fin (pl:=fun g=>bif Nat.beq g 0 then ⟨0,0,64⟩ else ⟨cb,off,S⟩) hm ?_ rfl rfl (tab_R (g:=1) (e:=e') rfl rfl hcap hS) hr
  intro t ht
  simp only [List.mem_cons,List.not_mem_nil,or_false] at ht
  rcases ht with rfl | rfl
  ·exact hfit 1
  ·exact he
end Go.Proofs.YtcmhoboglapbdaaDoor
namespace Go.Proofs.YtcmhoboglapbdaaDoor.packidxReads
open Go Go.ChangeShapes Go.WideShapes Go.ChangeAt Go.RowKit Ev
set_option maxRecDepth 100000 in
theorem contract(H:Type)(enc:TypeId×Value→H)(W:World)(base:Nat)(args:Array Value)(ds gs:List (DataW H))(before:List MemPlace)
  (hval:∀ (j:Nat) t v,Tryd.f4.params[j]?=some t→args[j]?=some v→Value.okWide Tryd.prog W .any base t v)
  (hW:DataW.Whole enc Tryd.prog Tryd.f4.params.toList Rows.packidxReadsSpec.vars false W args.toList ds gs before)
  (hsz:(DataW.weightsEach Tryd.prog (Tryd.f4.params.toList++[]) (ds++gs)).all (·≤reachBytes)=true) (hL:laidMetH Tryd.prog Rows.packidxReadsRow.laid W) :
  Calls Tryd.prog 4 args W fun e W'=>∃ v,e=.returned v∧Rows.packidxReadsSpec.post enc Tryd.prog Tryd.f4 false true false false W args v W':=by
 have hW':=hW
 have hlt:=hW.lt
 obtain ⟨p,q,hA0,hV,rfl,hfz,hnd⟩:=hW
 have hA:DataW.TrodAll enc Tryd.prog W 0 (fun _=>true) true Tryd.f4.params.toList args.toList ds p:=hA0
 rw [Tryd.params4] at hA hval hsz
 obtain ⟨v0,v1,d0,d1,p0,p1,rfl,rfl,rfl,h0,h1⟩:=trodAll_two hA
 obtain ⟨rfl,rfl⟩:=trodVars_none hV
 obtain ⟨l,hl8,hl⟩:=bytes_in Tryd.underlying26 Tryd.underlying5 (by kernel_rfl) (hval 0 26 v0 rfl rfl) h0
 obtain ⟨z1,l1,w1,rfl⟩:=arr_in (n:=32) Tryd.underlying24 Tryd.underlying5 (by kernel_rfl) (by kernel_rfl) (hval 1 24 v1 rfl rfl) h1
 obtain ⟨b1,c1⟩:=bytes_of w1
 have walk:=walk_bytesF (f:=4) (args:=[.agg (jaa (z1.map Int.toNat))]) (vs:=[.agg (z1.map (Value.int .u8)).toArray]) (table rfl hL) (fun ρ=>⟨_,_,rfl,by rw [← b1];exact agg_R ρ .u8 z1,rfl⟩) l hl8 (by
  rcases hl with h | ⟨h1,cb,off,S,e',cap,elems,spare,h2,h3,h4,_,_,h5⟩
  ·exact .inl h
  ·exact .inr ⟨h1,cb,off,S,e',cap,h2,h3,h4,h5⟩) (fun h p hw hk hb=>by
   obtain ⟨h',hr⟩:=reads_spec (F:=2000001) (m:=0) hw hk hb (by omega) (by rw [List.length_map];exact l1) c1
   exact ⟨_,_,h',hr⟩)
 refine walk.mono fun e W' ⟨he,hst⟩=>?_
 subst he
 exact ⟨_,rfl,post_stays (pa:=p0++p1) (pv:=[]) hW' (fun _ _ _=>trodAll_cons_mk (shut_bool Tryd.underlying4 _) trodAll_mk0)
  (fun sp hsp=>trodAll_mk2 (arg_stays hst laidOut (by kernel_rfl) (of_decide_eq_true (by kernel_rfl)) h0 (fun x hx=>hlt x (by simp [hx])) sp (fun x hx=>hsp x (by simp [hx]))) (arg_stays hst laidOut (by kernel_rfl) (of_decide_eq_true (by kernel_rfl)) h1 (fun x hx=>hlt x (by simp [hx])) sp (fun x hx=>hsp x (by simp [hx]))))
  (fun _ _=>rfl) (by simp) hst.stays (ok_one (by kernel_rfl) rfl (okWide_bool_mk Tryd.underlying4 _))⟩
theorem laid_met(os:Os):laidMet Tryd.prog Rows.packidxReadsRow.laid ((laidWorld os).forCall (fun _ _=>0) ⟨#[],#[.slice none 0 0,.agg (Array.replicate 32 (.int .u8 0))],[]⟩).memory :=
 laidMet_of_run' 70 (by kernel_rfl) (by kernel_rfl)
theorem reads(os:Os){H:Type}(enc:TypeId×Value→H):∃ places,DataW.whole enc Tryd.prog ((laidWorld os).forCall (fun _ _=>0) ⟨#[],#[.slice none 0 0,.agg (Array.replicate 32 (.int .u8 0))],[]⟩).memory Tryd.f4.params.toList Rows.packidxReadsSpec.vars false (#[.slice none 0 0,.agg (Array.replicate 32 (.int .u8 0))]:Array Value).toList 8=some ([.nil,.agg (List.replicate 32 (.lit (.int .u8 0)))],[],places) :=
 ⟨[],by kernel_rfl⟩
set_option maxRecDepth 100000 in
theorem lifted(os:Os)(started:os.Started)(H:Type)(enc:TypeId×Value→H)(F:Stop.Interp) :
  ReturnsInHanded {} Tryd.checked os 4 .any ((OpenSpec.ofChange Rows.packidxReadsSpec).preRow enc Tryd.prog Tryd.f4 Rows.packidxReadsRow.domain false Rows.packidxReadsRow.laid) (((OpenSpec.ofChange Rows.packidxReadsSpec).at F).post enc Tryd.prog Tryd.f4 false true false false):=by
 obtain ⟨places,hx⟩:=reads os enc
 refine returnsInHanded_of_row (C:=Tryd.checked) (s:=OpenSpec.ofChange Rows.packidxReadsSpec) own started (by kernel_rfl) Tryd.func4
  (witness_row_at (enc:=enc) (C:=Tryd.checked) false (laidWorld os) #[.slice none 0 0,.agg (Array.replicate 32 (.int .u8 0))] rfl (by kernel_rfl) (by kernel_rfl) (by kernel_rfl)
   (OpenSpec.preRow_of_cond 8 hx (by kernel_rfl) (fun k hk=>by cases hk) (by kernel_rfl) (laid_met os))) ?_
 intro W base args ds gs before hval hW _ _ hsz hL _ _
 exact contract H enc W base args ds gs before hval hW hsz hL
theorem said:Rows.PackidxReadsSaid :=
 OpenClaim.holds_of_cond 4 Tryd.f4 rfl rfl rfl rfl rfl rfl rfl ⟨rfl,rfl,rfl,rfl,rfl⟩ rfl rfl rfl rfl rfl (by kernel_rfl) Tryd.func4 (by kernel_rfl)
  (of_decide_eq_true (by kernel_rfl)) (by unfold Func.isWrapper;first | (rw [if_pos (by decide +kernel)];kernel_rfl) | (rw [if_neg (by decide +kernel)];exact ⟨rfl,rfl⟩))
  (fun os started H enc _ F=>by rw [OpenClaim.pre_eq_preRow];exact lifted os started H enc F)
theorem plain(f:FuncId)(fn:Func)(hf:Tryd.pinned.checked.prog.funcNamed "codicil/codicillaw10.PackidxReads"=some f)(hfn:Tryd.pinned.checked.prog.funcs[f]?=some fn) :
  false=Tryd.pinned.checked.prog.looks []∧∀ (j:Nat) t,fn.params[j]?=some t→Tryd.pinned.checked.prog.wantsStandIn t=false:=by
 obtain rfl:f=4:=Option.some.inj ((show Tryd.prog.funcNamed "codicil/codicillaw10.PackidxReads"=some 4 by kernel_rfl).symm.trans hf) |>.symm
 obtain rfl:fn=Tryd.f4:=(Option.some.inj (Tryd.func4.symm.trans hfn)).symm
 refine ⟨by kernel_rfl,fun j t ht=>?_⟩
 rw [Tryd.params4] at ht
 have hm:=Array.mem_of_getElem? ht
 simp only [List.mem_toArray,List.mem_cons,List.not_mem_nil,or_false] at hm
 rcases hm with rfl | rfl
 ·exact (show Tryd.prog.wantsStandIn 26=false by kernel_rfl)
 ·exact (show Tryd.prog.wantsStandIn 24=false by kernel_rfl)
theorem card:Rows.PackidxReadsCardSaid :=
 Claim7.holds_tied_plain_at .later [] _ _ _ _ said (fun _ h=>by cases h) (by kernel_rfl) (fun _ h=>by cases h) packidxReads_row_tie rfl ⟨rfl,rfl⟩ (by kernel_rfl) rfl plain (by kernel_rfl)
end Go.Proofs.YtcmhoboglapbdaaDoor.packidxReads
