/-
  Part of a proof, written in a short hand by a program of this workplace. No condition.
-/
import Derived.Test.YtcmhoboglapbdaaDoorQSD
set_option linter.unusedVariables false
set_option linter.unusedSimpArgs false
namespace Go.Proofs.YtcmhoboglapbdaaDoor
open Go Ev
theorem rround_spec{F n:Nat}{g:AH}(hw:g.WF){bh e:Nat}{hs:List Int}(h8:W8 hs)(hc:jal g bh e (uL hs)){v:V}{l:List Nat}(hb:Bs g v l){j:Nat}(hj:64*j+64≤l.length)(hl:l.length≤140737488355000)(hn:notIn v bh) :
  ∃ g' v',Ev.ldA 8 (.ptr ⟨bh,8,0⟩) g=some (.agg (uL hs))∧slS 1 v (some (.int .i64 ((64*j:Nat):Int))) (some (.int .i64 ((64*(j+1):Nat):Int))) none=some v' ∧
   runC (EE F) (n+1) jcb [.agg (uL hs),v'] g=some (.agg (uL (BB hs ((l.drop (64*j)).take 64))),g) ∧
   st 8 (.ptr ⟨bh,8,0⟩) (.agg (uL (BB hs ((l.drop (64*j)).take 64)))) g=some g' ∧
   jal g' bh e (uL (BB hs ((l.drop (64*j)).take 64)))∧Wrote g g' bh∧Bs g' v l∧IntKind.wrap .i64 (((64*j:Nat):Int)+64)=((64*(j+1):Nat):Int):=by
 have i1:IntKind.wrap .i64 (((64*j:Nat):Int)+64)=((64*j+64:Nat):Int):=by rw [jao (by omega) (by omega)];omega
 obtain ⟨v',s1,s2⟩:=hb.cut (lo:=some (.int .i64 ((64*j:Nat):Int))) (hi:=some (.int .i64 ((64*j+64:Nat):Int))) (l:=64*j) (u:=64*j+64) (.inr rfl) (.inr rfl) (by omega) hj
 have e:64*j+64-64*j=64:=by omega
 rw [e] at s2
 obtain ⟨g',p1,p2,p3⟩:=hc.put hw (n:=8) h8.cell.symm (BB_w hs ((l.drop (64*j)).take 64)).cell (uL_cell _)
 exact ⟨g',v',hc.ldA h8.cell.symm,s1,compress_spec h8 s2 (by rw [List.length_take,List.length_drop];omega),p1,p2,p3,hb.wrote p3 hn,i1⟩
theorem rloop4_spec{F n:Nat}{n0 bh:Nat}(hn0:n0≤bh){p r:V}{l:List Nat}{hs:List Int}(h8:W8 hs){e:Nat}{h g:AH}(hF:l.length / 64<F)(hl:l.length≤140737488355000)(hd:Old n0 h g)(hc:jal g bh e (uL hs))(hb:Bs g p l)(hn:notIn p bh) :
  ∃ g',zaw.k2 (cx F (n+1)) zaw.ret zaw.ret (p,r,.ptr ⟨bh,8,0⟩,((64*(l.length / 64):Nat):Int),()) g=zaw.r7 (cx F (n+1)) zaw.ret zaw.ret (p,r,.ptr ⟨bh,8,0⟩,((64*(l.length / 64):Nat):Int),()) g' ∧
   jal g' bh e (uL (jbk (l.length / 64) hs l))∧Bs g' p l∧Old n0 h g'∧(∀ b,b≠bh→g'.get b=g.get b)∧g'.next=g.next:=by
 show ∃ g',jaw zaw.P8 F (fun t h n'=>zaw.l4 (cx F (n+1)) n' (zaw.r7 (cx F (n+1)) zaw.ret zaw.ret) zaw.ret t h) (p,r,.ptr ⟨bh,8,0⟩,((64*(l.length / 64):Nat):Int),0,()) g=zaw.r7 (cx F (n+1)) zaw.ret zaw.ret (p,r,.ptr ⟨bh,8,0⟩,((64*(l.length / 64):Nat):Int),()) g'∧_
 refine jah (S:=zaw.P8) (out:=fun x=>∃ g',x=zaw.r7 (cx F (n+1)) zaw.ret zaw.ret (p,r,.ptr ⟨bh,8,0⟩,((64*(l.length / 64):Nat):Int),()) g' ∧
   jal g' bh e (uL (jbk (l.length / 64) hs l))∧Bs g' p l∧Old n0 h g'∧(∀ b,b≠bh→g'.get b=g.get b)∧g'.next=g.next)
  (fun k s g1=>∃ (j:Nat),j+k=l.length / 64∧s=(p,r,.ptr ⟨bh,8,0⟩,((64*(l.length / 64):Nat):Int),((64*j:Nat):Int),())∧jal g1 bh e (uL (jbk j hs l))∧Bs g1 p l∧Old n0 h g1∧(∀ b,b≠bh→g1.get b=g.get b)∧g1.next=g.next)
  ?_ ?_ (l.length / 64) F _ _ ⟨0,by omega,rfl,hc,hb,hd,fun _ _=>rfl,rfl⟩ hF
 ·rintro k s g1 n' ⟨j,hj,rfl,hc1,hb1,hd1,hr1,hx1⟩
  refine .inl ?_
  obtain ⟨g2,v',q1,q2,q3,q4,q5,q6,q7,q8⟩:=rround_spec (F:=F) (n:=n) hd1.wf (fold64_w h8 j l) hc1 hb1 (j:=j) (by omega) hl hn
  refine ⟨_,g2,?_,j+1,by omega,rfl,q5,q7,hd1.trans (q6.old hn0),fun b hb=>(q6.rest b hb).trans (hr1 b hb),q6.next.trans hx1⟩
  have c1:decide (((64*j:Nat):Int)<((64*(l.length / 64):Nat):Int))=true:=by rw [decide_eq_true_eq];omega
  simp only [zaw.l4,zaw.c4,zaw.k4,c1,cond_true,zaw.r6,zaw.c6,q1,jaf,wr,q2,jae,cxC,q3,cA_some,q4,jaj,zaw.r5,zaw.c5,q8]
 ·rintro s g1 n' ⟨j,hj,rfl,hc1,hb1,hd1,hr1,hx1⟩
  obtain rfl:j=l.length / 64:=by omega
  refine ⟨g1,?_,hc1,hb1,hd1,hr1,hx1⟩
  have c1:decide (((64*(l.length / 64):Nat):Int)<((64*(l.length / 64):Nat):Int))=false:=by rw [decide_eq_false_iff_not];omega
  simp only [zaw.l4,zaw.c4,zaw.k4,c1,cond_false]
theorem rloop11_spec{F n:Nat}{n0 bh:Nat}(hn0:n0≤bh){p r:V}{l:List Nat}{hs:List Int}(h8:W8 hs){e:Nat}{h g:AH}(hF:l.length / 64<F)(hl:l.length≤140737488355000)(h64:l.length % 64=0)(hd:Old n0 h g)(hc:jal g bh e (uL hs))(hb:Bs g p l)(hn:notIn p bh) :
  ∃ g',zaw.k9 (cx F (n+1)) zaw.ret zaw.ret (r,.ptr ⟨bh,8,0⟩,p,()) g=zaw.r14 (cx F (n+1)) zaw.ret zaw.ret (r,.ptr ⟨bh,8,0⟩,()) g' ∧
   jal g' bh e (uL (jbk (l.length / 64) hs l))∧Old n0 h g'∧(∀ b,b≠bh→g'.get b=g.get b)∧g'.next=g.next:=by
 show ∃ g',jaw zaw.P22 F (fun t h n'=>zaw.l11 (cx F (n+1)) n' (zaw.r14 (cx F (n+1)) zaw.ret zaw.ret) zaw.ret t h) (r,.ptr ⟨bh,8,0⟩,p,0,()) g=zaw.r14 (cx F (n+1)) zaw.ret zaw.ret (r,.ptr ⟨bh,8,0⟩,()) g'∧_
 refine jah (S:=zaw.P22) (out:=fun x=>∃ g',x=zaw.r14 (cx F (n+1)) zaw.ret zaw.ret (r,.ptr ⟨bh,8,0⟩,()) g' ∧
   jal g' bh e (uL (jbk (l.length / 64) hs l))∧Old n0 h g'∧(∀ b,b≠bh→g'.get b=g.get b)∧g'.next=g.next)
  (fun k s g1=>∃ (j:Nat),j+k=l.length / 64∧s=(r,.ptr ⟨bh,8,0⟩,p,((64*j:Nat):Int),())∧jal g1 bh e (uL (jbk j hs l))∧Bs g1 p l∧Old n0 h g1∧(∀ b,b≠bh→g1.get b=g.get b)∧g1.next=g.next)
  ?_ ?_ (l.length / 64) F _ _ ⟨0,by omega,rfl,hc,hb,hd,fun _ _=>rfl,rfl⟩ hF
 ·rintro k s g1 n' ⟨j,hj,rfl,hc1,hb1,hd1,hr1,hx1⟩
  refine .inl ?_
  obtain ⟨g2,v',q1,q2,q3,q4,q5,q6,q7,q8⟩:=rround_spec (F:=F) (n:=n) hd1.wf (fold64_w h8 j l) hc1 hb1 (j:=j) (by omega) hl hn
  refine ⟨_,g2,?_,j+1,by omega,rfl,q5,q7,hd1.trans (q6.old hn0),fun b hb=>(q6.rest b hb).trans (hr1 b hb),q6.next.trans hx1⟩
  have c1:decide (((64*j:Nat):Int)<(l.length:Int))=true:=by rw [decide_eq_true_eq];omega
  simp only [zaw.l11,zaw.c11,hb1.1.len,jag,zaw.k11,c1,cond_true,zaw.r13,zaw.c13,q1,jaf,wr,q2,jae,cxC,q3,cA_some,q4,jaj,zaw.r12,zaw.c12,q8]
 ·rintro s g1 n' ⟨j,hj,rfl,hc1,hb1,hd1,hr1,hx1⟩
  obtain rfl:j=l.length / 64:=by omega
  refine ⟨g1,?_,hc1,hd1,hr1,hx1⟩
  have c1:decide (((64*(l.length / 64):Nat):Int)<(l.length:Int))=false:=by rw [decide_eq_false_iff_not];omega
  simp only [zaw.l11,zaw.c11,hb1.1.len,jag,zaw.k11,c1,cond_false]
theorem rdig_spec{F n:Nat}(hF:40<F){hs:List Int}(h8:W8 hs){res:V}{bh eh bd e n0:Nat}(hbd:n0≤bd)(hne:bh≠bd){h g:AH}(hd:Old n0 h g)(hh:jal g bh eh (uL hs))(hc:jal g bd e (jaa (digC hs 0))) :
  ∃ g',zaw.k14 (cx F n) zaw.ret zaw.ret (res,.ptr ⟨bh,8,0⟩,.ptr ⟨bd,32,0⟩,()) g=zaw.r19 (cx F n) zaw.ret zaw.ret (res,.ptr ⟨bd,32,0⟩,()) g'∧jal g' bd e (jaa (digM hs))∧Old n0 h g'∧(∀ b,b≠bd→g'.get b=g.get b):=by
 show ∃ g',jaw zaw.P32 F (fun t h n'=>zaw.l16 (cx F n) n' (zaw.r19 (cx F n) zaw.ret zaw.ret) zaw.ret t h) (res,.ptr ⟨bh,8,0⟩,.ptr ⟨bd,32,0⟩,0,()) g=_∧_
 refine jah (S:=zaw.P32) (out:=fun x=>∃ g',x=zaw.r19 (cx F n) zaw.ret zaw.ret (res,.ptr ⟨bd,32,0⟩,()) g'∧jal g' bd e (jaa (digM hs))∧Old n0 h g'∧(∀ b,b≠bd→g'.get b=g.get b))
  (fun k s g1=>∃ i:Nat,i+k=32∧s=(res,.ptr ⟨bh,8,0⟩,.ptr ⟨bd,32,0⟩,(i:Int),())∧jal g1 bh eh (uL hs)∧jal g1 bd e (jaa (digC hs i))∧Old n0 h g1∧(∀ b,b≠bd→g1.get b=g.get b))
  ?_ ?_ 32 F _ _ ⟨0,rfl,rfl,hh,hc,hd,fun _ _=>rfl⟩ (by omega)
 ·rintro k s g1 n' ⟨i,hi,rfl,hh1,hc1,hd1,hr1⟩
  refine .inl ?_
  have j1:(i:Int).tdiv 4=((i / 4:Nat):Int):=by rw [Int.tdiv_eq_ediv_of_nonneg (by omega)];omega
  have j2:(i:Int).tmod 4=((i % 4:Nat):Int):=by rw [Int.tmod_eq_emod_of_nonneg (by omega)];omega
  have j0:IntKind.wrap .i64 ((i / 4:Nat):Int)=((i / 4:Nat):Int):=jao (by omega) (by omega)
  have i1:IntKind.wrap .i64 (8*((i % 4:Nat):Int))=((8*(i % 4):Nat):Int):=by rw [jao (by omega) (by omega)];omega
  have i2:IntKind.wrap .i64 (24-((8*(i % 4):Nat):Int))=((24-8*(i % 4):Nat):Int):=by rw [jao (by omega) (by omega)];omega
  have i3:IntKind.wrap .i64 ((i:Int)+1)=((i+1:Nat):Int):=by rw [jao (by omega) (by omega)];omega
  obtain ⟨ha,u1,u2⟩:=hh1.ld1 (n:=8) h8.cell.symm (i:=((i / 4:Nat):Int)) (by omega) (by omega) (v:=.int .u32 (hs.getD (i / 4) 0)) (by rw [Int.toNat_natCast,uL_get (by rw [h8.1];omega)])
  have hl:(jaa (digC hs i)).length=32:=by rw [jad,digC_len hs (by omega)]
  obtain ⟨a,g2,w1,w2,w3,w4⟩:=hc1.st1 hd1.wf (n:=32) hl.symm (i:=(i:Int)) (by omega) (by omega) (v:=.int .u8 ((digit hs i:Nat):Int)) rfl rfl
  rw [Int.toNat_natCast] at w3
  have e2:(jaa (digC hs i)).set i (.int .u8 ((digit hs i:Nat):Int))=jaa (digC hs (i+1)):=by
   rw [← digC_step hs (by omega),← byteL_set];rfl
  rw [e2] at w3
  refine ⟨_,g2,?_,i+1,by omega,rfl,hh1.wrote w4 hne,w3,hd1.trans (w4.old hbd),fun b hb=>(w4.rest b hb).trans (hr1 b hb)⟩
  have c1:decide ((i:Int)<32)=true:=by rw [decide_eq_true_eq];omega
  have c2:¬((24-8*(i % 4):Nat):Int)<0:=by omega
  have e3:((digit hs i:Nat):Int)=((hs.getD (i / 4) 0).toNat / 256 ^ (3-i % 4) % 256:Nat):=rfl
  rw [e3] at w2
  simp only [zaw.l16,zaw.c16,zaw.k16,c1,cond_true,zaw.r18,zaw.c18,wr,j1,j0,u1,jae,u2,jag,j2,i1,i2,if_neg c2,w1,dig_byte (h8.at (i / 4) (by omega)) (show i % 4<4 by omega),w2,jaj,zaw.r17,zaw.c17,i3]
 ·rintro s g1 n' ⟨i,hi,rfl,hh1,hc1,hd1,hr1⟩
  obtain rfl:i=32:=by omega
  refine ⟨g1,rfl,?_,hd1,hr1⟩
  rw [← digC_end]
  exact hc1
theorem rsum_spec{F n:Nat}{h:AH}(hw:h.WF){p:V}{l:List Nat}(hb:Bs h p l)(hl:l.length≤140737488354000)(hF:l.length+200<F) :
  ∃ h',runC (EE F) (n+2) nzaw [p] h=some (.agg (jaa (sumM l)),h')∧Old h.next h h':=by
 rw [tzaw]
 obtain ⟨c1,c2,c3,c4⟩:=jay hw (List.replicate 32 (.int .u8 0)) jab rfl (by simp)
 have c2':(al (List.replicate 32 (.int .u8 0)) jab h).1=.ptr ⟨h.next,32,0⟩:=c2
 generalize hg1:(al (List.replicate 32 (.int .u8 0)) jab h).2=g1 at *
 obtain ⟨g2,f1,f2⟩:=first_spec (F:=F) (n:=n) c4.wf
 obtain ⟨d1,d2,d3,d4⟩:=jay f2.wf (List.replicate 8 (.int .u32 0)) jbb rfl (by simp)
 have d2':(al (List.replicate 8 (.int .u32 0)) jbb g2).1=.ptr ⟨g2.next,8,0⟩:=d2
 generalize hg3:(al (List.replicate 8 (.int .u32 0)) jbb g2).2=g3 at *
 obtain ⟨g4,p1,p2,p3⟩:=d1.put d4.wf (n:=8) (vs:=uL h0) rfl rfl (uL_cell h0)
 have n12:=f2.next
 have o3:Old h.next h g3:=(c4.trans (f2.weak c4.next)).trans (d4.weak (Nat.le_trans c4.next n12))
 have o4:Old h.next h g4:=o3.trans (p3.old (by omega))
 have b4:=hb.old hw o4
 have n4:notIn p g2.next:=hb.1.notIn hw (by omega)
 have r4:jal g4 h.next jab (List.replicate 32 (.int .u8 0)):=((c1.old c4.wf f2).old f2.wf d4).wrote p3 (by omega)
 have j1:((l.length:Nat):Int).tdiv 64=((l.length / 64:Nat):Int):=by rw [Int.tdiv_eq_ediv_of_nonneg (by omega)];omega
 have j0:IntKind.wrap .i64 ((l.length / 64:Nat):Int)=((l.length / 64:Nat):Int):=jao (by omega) (by omega)
 have j2:IntKind.wrap .i64 (((l.length / 64:Nat):Int)*64)=((64*(l.length / 64):Nat):Int):=by rw [jao (by omega) (by omega)];omega
 have e0:zaw.fn (cx F (n+1)) p h=zaw.k2 (cx F (n+1)) zaw.ret zaw.ret (p,.ptr ⟨h.next,32,0⟩,.ptr ⟨g2.next,8,0⟩,((64*(l.length / 64):Nat):Int),()) g4:=by
  simp only [zaw.fn,zaw.c0,c2',hg1,cxC,f1,cA_some,d2',hg3,p1,jaj,b4.1.len,jag,wr,j1,j0,j2]
 rw [e0]
 obtain ⟨g5,e5,x1,x2,x3,x4,x5⟩:=rloop4_spec (F:=F) (n:=n) (r:=.ptr ⟨h.next,32,0⟩) (n0:=h.next) (bh:=g2.next) (by omega) h0_w (by omega) (by omega) o4 p2 b4 n4
 rw [e5]
 have hpl:=padM_len l.length
 have hpz:padZ l.length<64:=by unfold padZ;omega
 have hlen4:(l.drop (64*(l.length / 64))).length=l.length % 64:=by rw [List.length_drop];omega
 obtain ⟨v6,s1,s2⟩:=x2.cut (lo:=some (.int .i64 ((64*(l.length / 64):Nat):Int))) (hi:=none) (l:=64*(l.length / 64)) (u:=l.length) (.inl ⟨rfl,rfl⟩) (.inr rfl) (by omega) (Nat.le_refl _)
 have e6:(l.drop (64*(l.length / 64))).take (l.length-64*(l.length / 64))=l.drop (64*(l.length / 64)):=List.take_of_length_le (by rw [List.length_drop];exact Nat.le_refl _)
 rw [e6] at s2
 obtain ⟨v7,g7,a7,o7,y7,_⟩:=jbc (l:=[]) (own_nil g5.next 1 jai g5) s2 x3.wf (Nat.le_refl _) (jci (by rw [hlen4];simp;omega))
 rw [List.nil_append] at o7
 have b7:Bs g7 p l:=hb.old hw (x3.trans (y7.weak x3.next))
 obtain ⟨v8,g8,a8,o8,y8⟩:=docpad_spec (F:=F) (n:=n) (by omega) (x:=(l.length:Int)) (by omega) y7.wf
 rw [Int.toNat_natCast] at o8
 obtain ⟨v9,g9,a9,o9,y9,_⟩:=jbc (o7.old y7.wf y8) (o8.bs (padM_byte _)) y8.wf (Nat.le_trans y7.next y8.next) (jci (by rw [hlen4,hpl];omega))
 have o59:Old g5.next g5 g9:=(y7.trans (y8.weak y7.next)).trans y9
 have n5:g5.next=g4.next:=x5
 have hbh:g2.next<g5.next:=by
  have:=p3.next
  omega
 have c9:jal g9 g2.next jbb (uL (jbk (l.length / 64) h0 l)):=x1.oldN hbh o59
 have o9h:Old h.next h g9:=x3.trans (o59.weak x3.next)
 have e7:zaw.r7 (cx F (n+1)) zaw.ret zaw.ret (p,.ptr ⟨h.next,32,0⟩,.ptr ⟨g2.next,8,0⟩,((64*(l.length / 64):Nat):Int),()) g5=zaw.k9 (cx F (n+1)) zaw.ret zaw.ret (.ptr ⟨h.next,32,0⟩,.ptr ⟨g2.next,8,0⟩,v9,()) g9:=by
  simp only [zaw.r7,zaw.c7,s1,jae,a7,jam,b7.1.len,jag,cxC,a8,a9]
 rw [e7]
 have bt:Bs g9 v9 (tailM l):=o9.bs (tailM_byte hb.2)
 have ht:=tailM_len l
 obtain ⟨g10,e10,q1,q2,q3,q4⟩:=rloop11_spec (F:=F) (n:=n) (r:=.ptr ⟨h.next,32,0⟩) (n0:=h.next) (bh:=g2.next) (by omega) (fold64_w h0_w _ _) (by omega) (by omega) (tailM_64 l) o9h c9 bt (o9.fresh hbh)
 rw [e10]
 obtain ⟨t1,t2,t3,t4⟩:=jay q2.wf (List.replicate 32 (.int .u8 0)) jab rfl (by simp)
 have t2':(al (List.replicate 32 (.int .u8 0)) jab g10).1=.ptr ⟨g10.next,32,0⟩:=t2
 generalize hg11:(al (List.replicate 32 (.int .u8 0)) jab g10).2=g11 at *
 have hlt5:h.next<g5.next:=by omega
 have hlt10:g2.next<g10.next:=by rw [q4];exact Nat.lt_of_lt_of_le hbh o59.next
 have c11:jal g11 g2.next jbb (uL (jbk ((tailM l).length / 64) (jbk (l.length / 64) h0 l) (tailM l))):=q1.old q2.wf t4
 have h8:=fold64_w (fold64_w h0_w (l.length / 64) l) ((tailM l).length / 64) (tailM l)
 rw [rep32,← digC_zero (jbk ((tailM l).length / 64) (jbk (l.length / 64) h0 l) (tailM l))] at t1
 obtain ⟨g12,e12,m1,m2,m3⟩:=rdig_spec (F:=F) (n:=n+1) (by omega) h8 (res:=.ptr ⟨h.next,32,0⟩) (n0:=h.next) (h:=h) q2.next (by omega) (q2.trans (t4.weak q2.next)) c11 t1
 have e11:zaw.r14 (cx F (n+1)) zaw.ret zaw.ret (.ptr ⟨h.next,32,0⟩,.ptr ⟨g2.next,8,0⟩,()) g10=zaw.r19 (cx F (n+1)) zaw.ret zaw.ret (.ptr ⟨h.next,32,0⟩,.ptr ⟨g10.next,32,0⟩,()) g12:=by
  rw [← e12]
  simp only [zaw.r14,zaw.c14,t2',hg11]
 rw [e11]
 have r12:jal g12 h.next jab (List.replicate 32 (.int .u8 0)):=by
  refine r4.mono ?_
  rw [m3 _ (by omega),t4.get _ (by omega),q3 _ (by omega),o59.get _ hlt5,x4 _ (by omega)]
 obtain ⟨g13,z1,z2,z3⟩:=r12.put m2.wf (n:=32) (vs:=jaa (sumM l)) rfl (by rw [jad,jby]) (jap _)
 refine ⟨g13,?_,m2.trans (z3.old (Nat.le_refl _))⟩
 have m1':jal g12 g10.next jab (jaa (sumM l)):=m1
 simp only [zaw.r19,zaw.c19,m1'.ldA (n:=32) (by rw [jad,jby]),jaf,z1,jaj,zaw.ret,z2.ldA (n:=32) (by rw [jad,jby])]
 rfl
end Go.Proofs.YtcmhoboglapbdaaDoor
namespace Go.Proofs.YtcmhoboglapbdaaDoor
open Go Ev
theorem allM_all{α:Type}(g:α→Option Bool)(p:α→Bool):∀ (l:List α),(∀ x∈l,g x=some (p x))→allM g l=some (l.all p):=by
 intro l
 induction l with
 | nil=>intro _;rfl
 | cons x l ih =>
  intro h
  have hx:=h x (by simp)
  show (match g x with | none=>none | some false=>some false | some true=>allM g l)=_
  rw [hx]
  cases hp:p x with
  | false=>simp [hp]
  | true=>rw [ih (fun y hy=>h y (by simp [hy]))];simp [hp]
theorem eqByte(x y:Int):absEq PP 9999 jai (.int .u8 x) (.int .u8 y)=some (x==y):=by kernel_rfl
theorem eqArr32(xs ys:List V):eqW PP false jab (.agg xs) (.agg ys)=(allM (fun i:Nat=>match xs[i*1]?,ys[i*1]? with
  | some a,some b=>absEq PP 9999 jai a b
  | _,_=>none) (List.range' 0 32)).map .bool:=by kernel_rfl
theorem neArr32(xs ys:List V):neW PP false jab (.agg xs) (.agg ys)=(allM (fun i:Nat=>match xs[i*1]?,ys[i*1]? with
  | some a,some b=>absEq PP 9999 jai a b
  | _,_=>none) (List.range' 0 32)).map fun r=>.bool (!r):=by kernel_rfl
theorem ids_all{a b:List Nat}(ha:a.length=32)(hb:b.length=32):allM (fun i:Nat=>match (jaa a)[i*1]?,(jaa b)[i*1]? with
  | some a,some b=>absEq PP 9999 jai a b
  | _,_=>none) (List.range' 0 32)=some (decide (a=b)):=by
 rw [allM_all _ (fun i=>a.getD i 0==b.getD i 0)]
 ·congr 1
  rw [Bool.eq_iff_iff,List.all_eq_true,decide_eq_true_eq]
  constructor
  ·intro h
   apply List.ext_getElem?
   intro i
   by_cases hi:i<32
   ·have:=h i (by rw [List.mem_range'_1];omega)
    rw [beq_iff_eq,List.getD_eq_getElem?_getD,List.getD_eq_getElem?_getD,List.getElem?_eq_getElem (by omega),List.getElem?_eq_getElem (by omega)] at this
    rw [List.getElem?_eq_getElem (by omega),List.getElem?_eq_getElem (by omega)]
    simpa using this
   ·rw [List.getElem?_eq_none (by omega),List.getElem?_eq_none (by omega)]
  ·rintro rfl i _
   simp
 ·intro i hi
  have hi':i<32:=by rw [List.mem_range'_1] at hi;omega
  rw [Nat.mul_one,jck,jck,List.getElem?_eq_getElem (by omega),List.getElem?_eq_getElem (by omega)]
  simp only [Option.map_some]
  show absEq PP 9999 jai (.int .u8 _) (.int .u8 _)=_
  rw [eqByte,List.getD_eq_getElem?_getD,List.getD_eq_getElem?_getD,List.getElem?_eq_getElem (by omega),List.getElem?_eq_getElem (by omega)]
  congr 1
  rw [Bool.eq_iff_iff]
  simp
  omega
theorem eqId{a b:List Nat}(ha:a.length=32)(hb:b.length=32):eqW PP false jab (.agg (jaa a)) (.agg (jaa b))=some (.bool (decide (a=b))):=by rw [eqArr32,ids_all ha hb];rfl
theorem neId{a b:List Nat}(ha:a.length=32)(hb:b.length=32):neW PP false jab (.agg (jaa a)) (.agg (jaa b))=some (.bool (!decide (a=b))):=by rw [neArr32,ids_all ha hb];rfl
end Go.Proofs.YtcmhoboglapbdaaDoor
namespace Go.Proofs.YtcmhoboglapbdaaDoor
open Go Ev
theorem slA_all{h:AH}{b e n z:Nat}{cs:List V}(hc:jal h b e cs)(hl:cs.length=n*z)(hn:0<n):slA n z (.ptr ⟨b,n*z,0⟩) none none none h=some (.slice ⟨b,n*z,0⟩ n n true z):=by
 obtain ⟨k,k1,k2,k3,k4,k5,k6,k7,k8⟩:=hc
 simp only [slA,k1]
 rw [if_pos ⟨by omega,by omega,trivial⟩]
 simp only [cutV,bnd,if_true]
 rw [if_neg (by omega)]
 simp
theorem arr_bs{h:AH}{b e n:Nat}{l:List Nat}(hc:jal h b e (jaa l))(hl:l.length=n)(hb:∀ x∈l,x<256):Bs h (.slice ⟨b,n*1,0⟩ n n true 1) l:=by
 subst hl
 refine ⟨⟨by rw [jad,Nat.mul_one],.inr ⟨_,_,_,rfl,Nat.le_refl _,?_⟩⟩,hb⟩
 rw [hc.read (by rw [jad,Nat.mul_one]) (by rw [jad];omega),List.drop_zero,List.take_of_length_le (by rw [jad];omega)]
theorem quiet_of{g:AH→Res}{h:AH}{v:V}(hg:∃ h',g ⟨h.next,h.next,h.m⟩=some (v,h')∧Old h.next ⟨h.next,h.next,h.m⟩ h'):∃ h',quiet g h=some (v,h')∧Old h.next h h':=by
 obtain ⟨h',e,o⟩:=hg
 refine ⟨⟨h'.next,h.low,h'.m⟩,?_,o.next,o.get,Nat.min_le_left _ _,o.wf⟩
 unfold quiet
 rw [e]
 simp only
 rw [if_pos (by have:=o.low;simp only at this;omega)]
theorem wf_low{h:AH}(hw:h.WF)(l:Nat):(⟨h.next,l,h.m⟩:AH).WF:=hw
end Go.Proofs.YtcmhoboglapbdaaDoor
namespace Go.Proofs.YtcmhoboglapbdaaDoor
open Go Ev
theorem cmpN_cons(a b:Nat)(l m:List Nat):cmpN (a :: l) (b :: m)=bif Nat.blt a b then -1 else bif Nat.blt b a then 1 else cmpN l m:=rfl
theorem cmpN_lt{a b:Nat}(l m:List Nat)(h:a<b):cmpN (a :: l) (b :: m)=-1:=by rw [cmpN_cons,Arr.blt_eq];simp [h]
theorem cmpN_gt{a b:Nat}(l m:List Nat)(h:b<a):cmpN (a :: l) (b :: m)=1:=by rw [cmpN_cons,Arr.blt_eq,Arr.blt_eq];simp [h,show ¬a<b by omega]
theorem cmpN_eq'(a:Nat)(l m:List Nat):cmpN (a :: l) (a :: m)=cmpN l m:=by rw [cmpN_cons,Arr.blt_eq];simp
theorem cmpN_anti:∀ (l m:List Nat),cmpN l m=-cmpN m l:=by
 intro l
 induction l with
 | nil=>intro m;cases m <;> rfl
 | cons a l ih =>
  intro m
  cases m with
  | nil=>rfl
  | cons b m =>
   rcases Nat.lt_trichotomy a b with h | h | h
   ·rw [cmpN_lt _ _ h,cmpN_gt _ _ h]
   ·subst h;rw [cmpN_eq',cmpN_eq'];exact ih m
   ·rw [cmpN_gt _ _ h,cmpN_lt _ _ h];rfl
theorem bs_bytesV{h:AH}{v:V}{l:List Nat}(hb:Bs h v l):bytesV v h=some l:=by
 obtain ⟨⟨h1,h2⟩,h3⟩:=hb
 rcases h2 with ⟨h0,rfl | rfl⟩ | ⟨a,cap,ex,rfl,h4,h5⟩
 ·rw [List.eq_nil_of_length_eq_zero h0];rfl
 ·rw [List.eq_nil_of_length_eq_zero h0];rfl
 ·rw [Nat.mul_one] at h5
  show (jbj h a l.length).bind toBytes=_
  rw [h5]
  exact toBytes_byteL h3
theorem bytesCompare_spec{F n:Nat}{h:AH}{v w:V}{a b:List Nat}(hv:Bs h v a)(hw:Bs h w b):runC (EE F) (n+1) nzab [v,w] h=some (.int .i64 (cmpN a b),h):=by
 rw [tzab]
 have e:(cx F n).X n_bytealg_Compare [v,w] h=some (.int .i64 (cmpN a b),h):=by
  show absCompare [v,w] h=_
  simp only [absCompare,bs_bytesV hv,bs_bytesV hw]
 simp only [zab.fn,zab.c0,e,jan]
 rfl
theorem compare_spec{F n:Nat}{h:AH}(hw:h.WF){a b:List Nat}(ha:a.length=32)(hb:b.length=32)(ha8:∀ x∈a,x<256)(hb8:∀ x∈b,x<256):∃ h',runC (EE F) (n+2) nzbg [.agg (jaa a),.agg (jaa b)] h=some (.int .i64 (cmpN a b),h')∧Old h.next h h':=by
 rw [tzbg]
 obtain ⟨h1,e1,c1,n1,o1⟩:=jbe hw (jaa a) jab (jap a)
 obtain ⟨h2,e2,c2,n2,o2⟩:=jbe o1.wf (jaa b) jab (jap b)
 have e1':absBox jab (.agg (jaa a)) h=some (.ptr ⟨h.next,32*1,0⟩,h1):=by rw [e1,jad,ha]
 have e2':absBox jab (.agg (jaa b)) h1=some (.ptr ⟨h1.next,32*1,0⟩,h2):=by rw [e2,jad,hb]
 have c1':=c1.old o1.wf o2
 have s1:=slA_all (n:=32) (z:=1) c1' (by rw [jad,ha]) (by omega)
 have s2:=slA_all (n:=32) (z:=1) c2 (by rw [jad,hb]) (by omega)
 have e3:=bytesCompare_spec (F:=F) (n:=n) (arr_bs c1' ha ha8) (arr_bs c2 hb hb8)
 refine ⟨h2,?_,o1.trans (o2.weak o1.next)⟩
 simp only [zbg.fn,zbg.c0,e1',jam,e2',s1,jae,s2,cxC,e3,jan]
 rfl
theorem rcompare_spec{F n:Nat}(hF:40<F){h:AH}(hw:h.WF){a b:List Nat}(ha:a.length=32)(hb:b.length=32):∃ h',runC (EE F) (n+1) nzas [.agg (jaa a),.agg (jaa b)] h=some (.int .i64 (cmpN a b),h')∧Old h.next h h':=by
 rw [tzas]
 obtain ⟨h1,e1,c1,n1,o1⟩:=jbe hw (jaa a) jab (jap a)
 obtain ⟨h2,e2,c2,n2,o2⟩:=jbe o1.wf (jaa b) jab (jap b)
 have e1':absBox jab (.agg (jaa a)) h=some (.ptr ⟨h.next,32,0⟩,h1):=by rw [e1,jad,ha]
 have e2':absBox jab (.agg (jaa b)) h1=some (.ptr ⟨h1.next,32,0⟩,h2):=by rw [e2,jad,hb]
 have c1':=c1.old o1.wf o2
 have e0:zas.fn (cx F n) (jaa a) (jaa b) h=zas.k1 (cx F n) (zas.r9 (cx F n) zas.ret zas.ret) zas.ret (.ptr ⟨h.next,32,0⟩,.ptr ⟨h1.next,32,0⟩,0,()) h2:=by
  simp only [zas.fn,zas.c0,e1',jam,e2',zas.k0,zas.c1]
 rw [e0]
 show ∃ h',jaw zas.P4 F (fun t h n'=>zas.l2 (cx F n) n' (zas.r9 (cx F n) zas.ret zas.ret) zas.ret t h) (.ptr ⟨h.next,32,0⟩,.ptr ⟨h1.next,32,0⟩,0,()) h2=some (.int .i64 (cmpN a b),h')∧Old h.next h h'
 refine jah (S:=zas.P4) (out:=fun x=>∃ h',x=some (.int .i64 (cmpN a b),h')∧Old h.next h h')
  (fun k t g=>∃ i:Nat,i+k=32∧t=(.ptr ⟨h.next,32,0⟩,.ptr ⟨h1.next,32,0⟩,(i:Int),())∧g=h2∧cmpN a b=cmpN (a.drop i) (b.drop i)) ?_ ?_ 32 F _ _ ⟨0,rfl,rfl,rfl,rfl⟩ (by omega)
 ·rintro k t g n' ⟨i,hi,rfl,rfl,hc⟩
  have c1x:decide ((i:Int)<32)=true:=by rw [decide_eq_true_eq];omega
  have i3:IntKind.wrap .i64 ((i:Int)+1)=((i+1:Nat):Int):=by rw [jao (by omega) (by omega)];omega
  have ga:a[i]?=some a[i]:=List.getElem?_eq_getElem (by omega)
  have gb:b[i]?=some b[i]:=List.getElem?_eq_getElem (by omega)
  obtain ⟨p,u1,u2⟩:=c1'.ld1 (n:=32) (by rw [jad,ha]) (i:=(i:Int)) (by omega) (by omega) (v:=.int .u8 ((a[i]:Nat):Int)) (by rw [Int.toNat_natCast,jck,ga];rfl)
  obtain ⟨q,u3,u4⟩:=c2.ld1 (n:=32) (by rw [jad,hb]) (i:=(i:Int)) (by omega) (by omega) (v:=.int .u8 ((b[i]:Nat):Int)) (by rw [Int.toNat_natCast,jck,gb];rfl)
  have da:a.drop i=a[i] :: a.drop (i+1):=List.drop_eq_getElem_cons (by omega)
  have db:b.drop i=b[i] :: b.drop (i+1):=List.drop_eq_getElem_cons (by omega)
  rw [da,db] at hc
  rcases Nat.lt_trichotomy a[i] b[i] with hlt | heq | hgt
  ·refine .inr ⟨g,?_,o1.trans (o2.weak o1.next)⟩
   have c2x:decide (((a[i]:Nat):Int)<((b[i]:Nat):Int))=true:=by rw [decide_eq_true_eq];omega
   rw [hc,cmpN_lt _ _ hlt]
   simp only [zas.l2,zas.c2,zas.k2,c1x,cond_true,zas.r3,zas.c3,zas.k3,zas.c4,u1,jae,u2,jag,u3,u4,c2x,zas.k4,zas.c5]
   rfl
  ·refine .inl ⟨_,g,?_,i+1,by omega,rfl,rfl,by rw [hc,heq,cmpN_eq']⟩
   have c2x:decide (((a[i]:Nat):Int)<((b[i]:Nat):Int))=false:=by rw [decide_eq_false_iff_not];omega
   have c3x:decide (((a[i]:Nat):Int)>((b[i]:Nat):Int))=false:=by rw [decide_eq_false_iff_not];omega
   simp only [zas.l2,zas.c2,zas.k2,c1x,cond_true,zas.r3,zas.c3,zas.k3,zas.c4,u1,jae,u2,jag,u3,u4,c2x,zas.k4,cond_false,zas.r6,zas.c6,c3x,zas.k6,zas.r8,zas.c8,wr,i3]
  ·refine .inr ⟨g,?_,o1.trans (o2.weak o1.next)⟩
   have c2x:decide (((a[i]:Nat):Int)<((b[i]:Nat):Int))=false:=by rw [decide_eq_false_iff_not];omega
   have c3x:decide (((a[i]:Nat):Int)>((b[i]:Nat):Int))=true:=by rw [decide_eq_true_eq];omega
   rw [hc,cmpN_gt _ _ hgt]
   simp only [zas.l2,zas.c2,zas.k2,c1x,cond_true,zas.r3,zas.c3,zas.k3,zas.c4,u1,jae,u2,jag,u3,u4,c2x,zas.k4,cond_false,zas.r6,zas.c6,c3x,zas.k6,zas.c7]
   rfl
 ·rintro t g n' ⟨i,hi,rfl,rfl,hc⟩
  obtain rfl:i=32:=by omega
  refine ⟨g,?_,o1.trans (o2.weak o1.next)⟩
  have c1x:decide (((32:Nat):Int)<32)=false:=rfl
  rw [hc,List.drop_of_length_le (by omega),List.drop_of_length_le (by omega)]
  simp only [zas.l2,zas.c2,zas.k2,c1x,cond_false,zas.r9,zas.c9]
  rfl
end Go.Proofs.YtcmhoboglapbdaaDoor
namespace Go.Proofs.YtcmhoboglapbdaaDoor
open Go Ev
structure Row where
 id:List Nat
 crc:Nat
 pos:Nat
 deriving DecidableEq
def Row.ok(r:Row):Prop:=r.id.length=32∧(∀ x∈r.id,x<256)∧r.crc<4294967296∧r.pos<18446744073709551616
def rowL(r:Row):List V:=jaa r.id++[.int .u32 (r.crc:Int),.int .u64 (r.pos:Int)]
def rowsL(l:List Row):List V:=l.flatMap rowL
abbrev zRow:List V:=List.replicate 32 (.int .u8 0)++[.int .u32 0]++[.int .u64 0]
theorem jav{r:Row}(h:r.ok):(rowL r).length=34:=by unfold rowL;rw [List.length_append,jad,h.1];rfl
theorem rowL_cell(r:Row):(rowL r).all V.cell=true:=by unfold rowL;rw [List.all_append,jap];rfl
theorem rowsL_append(l m:List Row):rowsL (l++m)=rowsL l++rowsL m:=List.flatMap_append ..
theorem rowsL_one(r:Row):rowsL [r]=rowL r:=by simp [rowsL]
theorem jch(r:Row)(l:List Row):rowsL (r :: l)=rowL r++rowsL l:=rfl
theorem rowsL_len:∀ {l:List Row},(∀ r∈l,r.ok)→(rowsL l).length=l.length*34:=by
 intro l
 induction l with
 | nil=>intro _;rfl
 | cons r l ih=>intro h;rw [jch,List.length_append,jav (h r (by simp)),ih (fun x hx=>h x (by simp [hx])),List.length_cons];omega
theorem rowsL_cell(l:List Row):(rowsL l).all V.cell=true:=by
 induction l with
 | nil=>rfl
 | cons r l ih=>rw [jch,List.all_append,rowL_cell,ih];rfl
theorem rowsL_at:∀ {l:List Row} {i:Nat} {r:Row},(∀ r∈l,r.ok)→l[i]?=some r→((rowsL l).drop (i*34)).take 34=rowL r:=by
 intro l
 induction l with
 | nil=>intro i r _ h;simp at h
 | cons x l ih =>
  intro i r hl h
  have hx:=jav (hl x (by simp))
  cases i with
  | zero =>
   cases h
   rw [jch,Nat.zero_mul,List.drop_zero,List.take_append_of_le_length (by omega),List.take_of_length_le (by omega)]
  | succ i =>
   rw [jch,List.drop_append,List.drop_of_length_le (by omega),List.nil_append,show (i+1)*34-(rowL x).length=i*34 by omega]
   exact ih (fun y hy=>hl y (by simp [hy])) (by simpa using h)
def Rs(h:AH)(v:V)(l:List Row):Prop:=Sl 34 h v l.length (rowsL l)∧∀ r∈l,r.ok
abbrev OwnR(n0 e:Nat)(h:AH)(v:V)(l:List Row):Prop:=Own n0 34 e h v l.length (rowsL l)
theorem Rs.old{h h':AH}{v:V}{l:List Row}(hr:Rs h v l)(hw:h.WF)(ho:Old h.next h h'):Rs h' v l:=⟨hr.1.old hw ho,hr.2⟩
theorem Rs.at{h:AH}{v:V}{l:List Row}(hr:Rs h v l){i:Nat}{r:Row}(hi:l[i]?=some r):∃ a,ixS 34 v (i:Int)=some (.ptr a)∧jbj h a 34=some (rowL r):=by
 have hlt:i<l.length:=(List.getElem?_eq_some_iff.1 hi).1
 obtain ⟨a,h1,h2⟩:=hr.1.ix (i:=(i:Int)) (by omega) (by omega)
 rw [Int.toNat_natCast,rowsL_at hr.2 hi] at h2
 exact ⟨a,h1,h2⟩
theorem Ev.Sl.src{z:Nat}{h:AH}{v:V}{n:Nat}{cs:List V}(hs:Sl z h v n cs):srcLen v=some n∧srcCells v z n h=some cs:=by
 obtain ⟨h1,⟨rfl,rfl | rfl⟩ | ⟨a,cap,ex,rfl,h4,h5⟩⟩:=hs
 ·obtain rfl:cs=[]:=List.eq_nil_of_length_eq_zero (by rw [h1,Nat.zero_mul]);exact ⟨rfl,rfl⟩
 ·obtain rfl:cs=[]:=List.eq_nil_of_length_eq_zero (by rw [h1,Nat.zero_mul]);exact ⟨rfl,rfl⟩
 ·refine ⟨rfl,?_⟩
  unfold srcCells
  by_cases hn:n=0
  ·subst hn;obtain rfl:cs=[]:=List.eq_nil_of_length_eq_zero (by rw [h1,Nat.zero_mul]);rfl
  ·simp only [if_neg hn];exact h5
theorem capR_ok{n:Nat}(h:n≤2932031007317):capW 48 n=true:=by
 unfold capW
 rw [Bool.and_eq_true]
 refine ⟨Nat.ble_eq_true_of_le (by omega),Nat.ble_eq_true_of_le ?_⟩
 show (2*n+128)*48≤281474976710656
 omega
theorem app_rows{n0 e:Nat}{h:AH}{v x:V}{l m:List Row}(ho:OwnR n0 e h v l)(hm:Rs h x m)(hw:h.WF)(hn0:n0≤h.next)(hc:l.length+m.length≤2932031007317) :
  ∃ v' h',app 34 48 e v x h=some (v',h')∧OwnR n0 e h' v' (l++m)∧Old n0 h h'∧(∀ b,b<h.next→notIn v b→h'.get b=h.get b)∧(∀ b,b<h.next→notIn v b→notIn v' b):=by
 obtain ⟨s1,s2⟩:=hm.1.src
 obtain ⟨v',h',g1,g2,g3,g4,g5⟩:=app_own (by_:=48) ho hw hn0 (by omega) s1 s2 hm.1.1 (rowsL_cell m) (capR_ok hc)
 exact ⟨v',h',g1,by rw [OwnR,List.length_append,rowsL_append];exact g2,g3,g4,g5⟩
theorem jbu(b L o x:Nat):fA x (.ptr ⟨b,L,o⟩)=some (.ptr ⟨b,L,o+x⟩):=rfl
theorem bld_row{r:Row}(hr:r.ok):bld [(0,32,(.agg (jaa r.id))),(32,1,(.int .u32 (r.crc:Int))),(33,1,(.int .u64 (r.pos:Int)))] zRow=some (.agg (rowL r)):=by
 obtain ⟨h1,_⟩:=hr
 have hb:(jaa r.id).length=32:=by rw [jad,h1]
 have e1:putL (jaa r.id) 0 zRow=jaa r.id++[V.int .u32 0,V.int .u64 0]:=by
  unfold putL zRow
  rw [hb];rfl
 have e2:∀ w:V,putL [w] 32 (jaa r.id++[V.int .u32 0,V.int .u64 0])=jaa r.id++[w,V.int .u64 0]:=by
  intro w
  unfold putL
  rw [List.take_append_of_le_length (by omega),List.take_of_length_le (by omega),List.drop_append,List.drop_of_length_le (by rw [hb];simp),hb]
  simp
 have e3:∀ w u:V,putL [u] 33 (jaa r.id++[w,V.int .u64 0])=jaa r.id++[w,u]:=by
  intro w u
  unfold putL
  rw [List.take_append,List.take_of_length_le (by omega),hb,List.drop_append,List.drop_of_length_le (by rw [hb];simp),hb]
  simp
 show (fillW _ _).map V.agg=_
 unfold fillW
 rw [if_pos ⟨rfl,hb,by simp⟩]
 unfold fillW
 rw [if_pos ⟨rfl,rfl,by show _≤(putL (jaa r.id) 0 zRow).length;rw [e1,List.length_append,hb];simp⟩]
 show (fillW _ (putL [V.int .u32 (r.crc:Int)] 32 (putL (jaa r.id) 0 zRow))).map V.agg=_
 rw [e1,e2]
 unfold fillW
 rw [if_pos ⟨rfl,rfl,by rw [List.length_append,hb];simp⟩]
 show (fillW [] (putL [V.int .u64 (r.pos:Int)] 33 _)).map V.agg=_
 rw [e3];rfl
theorem bsl_row{h:AH}(hw:h.WF){r:Row}(hr:r.ok)(e:Nat):∃ v h',bsl 34 1 [(0,34,(.agg (rowL r)))] zRow e h=some (v,h')∧OwnR h.next e h' v [r]∧Old h.next h h':=by
 have hl:=jav hr
 obtain ⟨v,h',a1,a2,a3⟩:=bsl_own hw (z:=34) (n:=1) (e:=e) (ps:=[(0,34,(.agg (rowL r)))]) (zs:=zRow) (cs:=rowL r) (by
  unfold fillW
  rw [if_pos ⟨rfl,hl,by simp⟩]
  show fillW [] (putL (rowL r) 0 _)=_
  rw [putL_all _ _ (by rw [hl];simp)];rfl) (by rw [hl]) (rowL_cell r)
 exact ⟨v,h',a1,by rw [OwnR,rowsL_one];exact a2,a3⟩
theorem tmp_row{h:AH}(hw:h.WF){r:Row}(hr:r.ok)(e:Nat):∃ h',(al zRow e h).1=.ptr ⟨h.next,34,0⟩∧st 34 (.ptr ⟨h.next,34,0⟩) (.agg (rowL r)) (al zRow e h).2=some h'∧jal h' h.next e (rowL r)∧Old h.next h h'∧h'.next=h.next+1:=by
 obtain ⟨c1,c2,c3,c4⟩:=jay hw zRow e rfl (by simp)
 obtain ⟨h',p1,p2,p3⟩:=c1.put c4.wf (n:=34) (vs:=rowL r) rfl (jav hr) (rowL_cell r)
 exact ⟨h',c2,p1,p2,c4.trans (p3.old (Nat.le_refl _)),by rw [p3.next];exact c3⟩
theorem row_id{h:AH}{b e:Nat}{r:Row}(hc:jal h b e (rowL r))(hr:r.ok):ldA 32 (.ptr ⟨b,34,0+0⟩) h=some (.agg (jaa r.id)):=by
 refine jbf ((hc.read (jav hr).symm (by rw [jav hr];omega)).trans ?_)
 rw [List.drop_zero]
 unfold rowL
 rw [List.take_append_of_le_length (by rw [jad,hr.1];omega),List.take_of_length_le (by rw [jad,hr.1];omega)]
theorem row_crc{h:AH}{b e:Nat}{r:Row}(hc:jal h b e (rowL r))(hr:r.ok):ld (.ptr ⟨b,34,0+32⟩) h=some (.int .u32 (r.crc:Int)):=by
 refine ld_of (hc.read1 (jav hr).symm ?_)
 unfold rowL
 rw [List.getElem?_append_right (by rw [jad,hr.1];omega),jad,hr.1];rfl
theorem row_pos{h:AH}{b e:Nat}{r:Row}(hc:jal h b e (rowL r))(hr:r.ok):ld (.ptr ⟨b,34,0+33⟩) h=some (.int .u64 (r.pos:Int)):=by
 refine ld_of (hc.read1 (jav hr).symm ?_)
 unfold rowL
 rw [List.getElem?_append_right (by rw [jad,hr.1];omega),jad,hr.1];rfl
end Go.Proofs.YtcmhoboglapbdaaDoor
namespace Go.Proofs.YtcmhoboglapbdaaDoor
open Go Ev
theorem eqByte1(d:Nat)(x y:Int):absEq PP (d+1) jai (.int .u8 x) (.int .u8 y)=some (x==y):=by kernel_rfl
theorem eqU32(x y:Int):absEq PP 9999 T_uint32 (.int .u32 x) (.int .u32 y)=some (x==y):=by kernel_rfl
theorem eqU64(x y:Int):absEq PP 9999 jcm (.int .u64 x) (.int .u64 y)=some (x==y):=by kernel_rfl
theorem ids_raw(xs ys:List V):absEq PP 9999 jab (.agg xs) (.agg ys)=(allM (fun i:Nat=>match xs[i*1]?,ys[i*1]? with
  | some a,some b=>absEq PP 9998 jai a b
  | _,_=>none) (List.range' 0 32)):=by kernel_rfl
theorem ids_eq{a b:List Nat}(ha:a.length=32)(hb:b.length=32):absEq PP 9999 jab (.agg (jaa a)) (.agg (jaa b))=some (decide (a=b)):=by
 rw [ids_raw,allM_all _ (fun i=>a.getD i 0==b.getD i 0)]
 ·congr 1
  rw [Bool.eq_iff_iff,List.all_eq_true,decide_eq_true_eq]
  constructor
  ·intro h
   apply List.ext_getElem?
   intro i
   by_cases hi:i<32
   ·have:=h i (by rw [List.mem_range'_1];omega)
    rw [beq_iff_eq,List.getD_eq_getElem?_getD,List.getD_eq_getElem?_getD,List.getElem?_eq_getElem (by omega),List.getElem?_eq_getElem (by omega)] at this
    rw [List.getElem?_eq_getElem (by omega),List.getElem?_eq_getElem (by omega)]
    simpa using this
   ·rw [List.getElem?_eq_none (by omega),List.getElem?_eq_none (by omega)]
  ·rintro rfl i _
   simp
 ·intro i hi
  have hi':i<32:=by rw [List.mem_range'_1] at hi;omega
  rw [Nat.mul_one,jck,jck,List.getElem?_eq_getElem (by omega),List.getElem?_eq_getElem (by omega)]
  simp only [Option.map_some]
  show absEq PP 9998 jai (.int .u8 _) (.int .u8 _)=_
  rw [eqByte1 9997,List.getD_eq_getElem?_getD,List.getD_eq_getElem?_getD,List.getElem?_eq_getElem (by omega),List.getElem?_eq_getElem (by omega)]
  congr 1
  rw [Bool.eq_iff_iff]
  simp
  omega
noncomputable def fldEq(xs ys:List V)(f:Nat×Nat):Option Bool:=match partV PP f.1 xs f.2,partV PP f.1 ys f.2 with
 | some a,some b=>absEq PP 9999 f.1 a b
 | _,_=>none
theorem eqRow_raw(xs ys:List V):eqW PP false jac (.agg xs) (.agg ys)=(allM (fldEq xs ys) [(jab,0),(T_uint32,32),(jcm,33)]).map .bool:=by kernel_rfl
theorem neRow_raw(xs ys:List V):neW PP false jac (.agg xs) (.agg ys)=(allM (fldEq xs ys) [(jab,0),(T_uint32,32),(jcm,33)]).map fun r=>.bool (!r):=by kernel_rfl
theorem part_id(xs:List V):partV PP jab xs 0=some (.agg ((xs.drop 0).take 32)):=by kernel_rfl
theorem part_u32(xs:List V):partV PP T_uint32 xs 32=xs[32]?:=by kernel_rfl
theorem part_u64(xs:List V):partV PP jcm xs 33=xs[33]?:=by kernel_rfl
theorem rowL_id{r:Row}(hr:r.ok):(((rowL r).drop 0).take 32)=jaa r.id:=by
 unfold rowL
 rw [List.drop_zero,List.take_append_of_le_length (by rw [jad,hr.1];omega),List.take_of_length_le (by rw [jad,hr.1];omega)]
theorem rowL_32{r:Row}(hr:r.ok):(rowL r)[32]?=some (.int .u32 (r.crc:Int)):=by
 unfold rowL
 rw [List.getElem?_append_right (by rw [jad,hr.1];omega),jad,hr.1];rfl
theorem rowL_33{r:Row}(hr:r.ok):(rowL r)[33]?=some (.int .u64 (r.pos:Int)):=by
 unfold rowL
 rw [List.getElem?_append_right (by rw [jad,hr.1];omega),jad,hr.1];rfl
theorem natBeq(x y:Nat):((x:Int)==(y:Int))=decide (x=y):=by rw [Bool.eq_iff_iff,beq_iff_eq,decide_eq_true_eq];omega
theorem row_eq_iff(a b:Row):(decide (a.id=b.id) && (decide (a.crc=b.crc) && (decide (a.pos=b.pos) && true)))=decide (a=b):=by
 rw [Bool.eq_iff_iff,decide_eq_true_eq]
 simp only [Bool.and_eq_true,decide_eq_true_eq,and_true]
 constructor
 ·rintro ⟨h1,h2,h3⟩
  cases a;cases b
  simp_all
 ·rintro rfl
  exact ⟨rfl,rfl,rfl⟩
theorem allM3{α:Type}{g:α→Option Bool}{x y z:α}{a b c:Bool}(h1:g x=some a)(h2:g y=some b)(h3:g z=some c):allM g [x,y,z]=some (a && (b && (c && true))):=by
 simp only [allM,h1,h2,h3]
 cases a <;> cases b <;> cases c <;> rfl
theorem rows_all{a b:Row}(ha:a.ok)(hb:b.ok):allM (fldEq (rowL a) (rowL b)) [(jab,0),(T_uint32,32),(jcm,33)]=some (decide (a=b)):=by
 have f1:fldEq (rowL a) (rowL b) (jab,0)=some (decide (a.id=b.id)):=by
  unfold fldEq
  simp only [part_id,rowL_id ha,rowL_id hb]
  exact ids_eq ha.1 hb.1
 have f2:fldEq (rowL a) (rowL b) (T_uint32,32)=some (decide (a.crc=b.crc)):=by
  unfold fldEq
  simp only [part_u32,rowL_32 ha,rowL_32 hb,eqU32,natBeq]
 have f3:fldEq (rowL a) (rowL b) (jcm,33)=some (decide (a.pos=b.pos)):=by
  unfold fldEq
  simp only [part_u64,rowL_33 ha,rowL_33 hb,eqU64,natBeq]
 rw [← row_eq_iff]
 exact allM3 f1 f2 f3
theorem eqRow{a b:Row}(ha:a.ok)(hb:b.ok):eqW PP false jac (.agg (rowL a)) (.agg (rowL b))=some (.bool (decide (a=b))):=by rw [eqRow_raw,rows_all ha hb];rfl
theorem neRow{a b:Row}(ha:a.ok)(hb:b.ok):neW PP false jac (.agg (rowL a)) (.agg (rowL b))=some (.bool (!decide (a=b))):=by rw [neRow_raw,rows_all ha hb];rfl
theorem rs_one{n0 e:Nat}{h:AH}{v:V}{r:Row}(ho:OwnR n0 e h v [r])(hr:r.ok):Rs h v [r]:=⟨ho.sl,fun x hx=>by simp only [List.mem_singleton] at hx;subst hx;exact hr⟩
theorem jar{α:Type}{l:List α}{i:Nat}{r:α}(h:l[i]?=some r):l.take i++[r]=l.take (i+1):=by
 rw [List.take_add_one,h];rfl
theorem of_spec{F n:Nat}{h:AH}(hw:h.WF){p:V}{l:List Row}(hp:Rs h p l)(hl:l.length≤2932031007317)(hF:l.length<F) :
  ∃ v h',runC (EE F) (n+1) nzaf [p] h=some (v,h')∧OwnR h.next jac h' v l∧Old h.next h h':=by
 rw [tzaf]
 have e0:zaf.fn (cx F n) p h=zaf.k2 (cx F n) (zaf.r7 (cx F n) zaf.ret zaf.ret) zaf.ret (.nilslice,p,(l.length:Int),0,()) h:=by
  simp only [zaf.fn,zaf.c0,zaf.k1,zaf.c2,hp.1.len,jag]
 rw [e0]
 show ∃ v h',jaw zaf.P6 F (fun t h n'=>zaf.l3 (cx F n) n' (zaf.r7 (cx F n) zaf.ret zaf.ret) zaf.ret t h) (.nilslice,p,(l.length:Int),0,()) h=some (v,h')∧_
 refine jah (S:=zaf.P6) (out:=fun x=>∃ v h',x=some (v,h')∧OwnR h.next jac h' v l∧Old h.next h h')
  (fun k s g=>∃ (i:Nat) (v:V),i+k=l.length∧s=(v,p,(l.length:Int),(i:Int),())∧OwnR h.next jac g v (l.take i)∧Old h.next h g) ?_ ?_ l.length F _ _ ⟨0,.nilslice,by omega,rfl,own_nil _ _ _ _,Old.refl hw _⟩ hF
 ·rintro k s g n' ⟨i,v,hi,rfl,ho,og⟩
  refine .inl ?_
  have hlt:i<l.length:=by omega
  have hget:l[i]?=some l[i]:=List.getElem?_eq_getElem hlt
  have hr:=hp.2 _ (List.getElem_mem hlt)
  obtain ⟨a,u1,u2⟩:=(hp.old hw og).at hget
  obtain ⟨g1,t1,t2,t3,t4,t5⟩:=tmp_row og.wf hr jak
  obtain ⟨w,g2,s1,s2,s3⟩:=bsl_row t4.wf hr jac
  have og2:Old g.next g g2:=t4.trans (s3.weak t4.next)
  obtain ⟨v',g3,a1,a2,a3,_⟩:=app_rows (ho.old og.wf og2) (rs_one s2 hr) og2.wf (Nat.le_trans og.next og2.next) (by rw [List.length_take,List.length_singleton];omega)
  rw [jar hget] at a2
  refine ⟨_,g3,?_,i+1,v',by omega,rfl,a2,(og.trans (og2.weak og.next)).trans a3⟩
  have c1:decide ((i:Int)<(l.length:Int))=true:=by rw [decide_eq_true_eq];omega
  have i3:IntKind.wrap .i64 ((i:Int)+1)=((i+1:Nat):Int):=by rw [jao (by omega) (by omega)];omega
  simp only [zaf.l3,zaf.c3,zaf.k3,c1,cond_true,zaf.r4,zaf.c4,u1,jae,jbf u2,jaf,t1,t2,jaj,jbu,row_id t3 hr,row_crc t3 hr,jag,row_pos t3 hr,bld_row hr,s1,jam,a1,zaf.r6,zaf.c6,wr,i3]
 ·rintro s g n' ⟨i,v,hi,rfl,ho,og⟩
  obtain rfl:i=l.length:=by omega
  rw [List.take_length] at ho
  refine ⟨v,g,?_,ho,og⟩
  have c1:decide ((l.length:Int)<(l.length:Int))=false:=by rw [decide_eq_false_iff_not];omega
  simp only [zaf.l3,zaf.c3,zaf.k3,c1,cond_false,zaf.r7,zaf.c7]
  rfl
theorem same10_spec{F n:Nat}{h:AH}{p q:V}{l m:List Row}(hp:Rs h p l)(hq:Rs h q m)(hl:l.length≤9223372036854775806)(hF:l.length<F) :
  runC (EE F) (n+1) nzbd [p,q] h=some (.bool (decide (l=m)),h):=by
 rw [tzbd]
 by_cases hlen:l.length=m.length
 ·have e0:zbd.fn (cx F n) p q h=zbd.k3 (cx F n) (zbd.r9 (cx F n) zbd.ret zbd.ret) zbd.ret (p,q,(l.length:Int),0,()) h:=by
   have c0:((l.length:Int) != (m.length:Int))=false:=by rw [hlen];exact bne_self_eq_false ..
   simp only [zbd.fn,zbd.c0,zbd.k0,zbd.c1,hp.1.len,hq.1.len,jag,c0,zbd.k1,cond_false,zbd.r3,zbd.c3]
  rw [e0]
  show jaw zbd.P8 F (fun t h n'=>zbd.l4 (cx F n) n' (zbd.r9 (cx F n) zbd.ret zbd.ret) zbd.ret t h) (p,q,(l.length:Int),0,()) h=_
  refine jah (S:=zbd.P8) (out:=fun x=>x=some (.bool (decide (l=m)),h))
   (fun k s g=>∃ i:Nat,i+k=l.length∧s=(p,q,(l.length:Int),(i:Int),())∧g=h∧l.take i=m.take i) ?_ ?_ l.length F _ _ ⟨0,by omega,rfl,rfl,rfl⟩ hF
  ·rintro k s g n' ⟨i,hi,rfl,rfl,ht⟩
   have hlt:i<l.length:=by omega
   have g1:l[i]?=some l[i]:=List.getElem?_eq_getElem hlt
   have g2:m[i]?=some m[i]:=List.getElem?_eq_getElem (by omega)
   obtain ⟨a,u1,u2⟩:=hp.at g1
   obtain ⟨b,u3,u4⟩:=hq.at g2
   have c1:decide ((i:Int)<(l.length:Int))=true:=by rw [decide_eq_true_eq];omega
   have i3:IntKind.wrap .i64 ((i:Int)+1)=((i+1:Nat):Int):=by rw [jao (by omega) (by omega)];omega
   have e1:=neRow (hp.2 _ (List.getElem_mem hlt)) (hq.2 _ (List.getElem_mem (show i<m.length by omega)))
   by_cases hx:l[i]=m[i]
   ·refine .inl ⟨_,g,?_,i+1,by omega,rfl,rfl,by rw [← jar g1,← jar g2,ht,hx]⟩
    rw [decide_eq_true hx] at e1
    simp only [zbd.l4,zbd.c4,zbd.k4,c1,cond_true,zbd.r5,zbd.c5,u1,jae,jbf u2,jaf,u3,jbf u4,e1,bB_some,Bool.not_true,zbd.k6,cond_false,zbd.r8,zbd.c8,wr,i3]
   ·refine .inr ?_
    rw [decide_eq_false hx] at e1
    have hne:l≠m:=fun e=>hx (by subst e;rfl)
    rw [decide_eq_false hne]
    simp only [zbd.l4,zbd.c4,zbd.k4,c1,cond_true,zbd.r5,zbd.c5,u1,jae,jbf u2,jaf,u3,jbf u4,e1,bB_some,Bool.not_false,zbd.k6,zbd.c7]
    rfl
  ·rintro s g n' ⟨i,hi,rfl,rfl,ht⟩
   obtain rfl:i=l.length:=by omega
   rw [List.take_length,List.take_of_length_le (by omega)] at ht
   have c1:decide ((l.length:Int)<(l.length:Int))=false:=by rw [decide_eq_false_iff_not];omega
   rw [decide_eq_true ht]
   simp only [zbd.l4,zbd.c4,zbd.k4,c1,cond_false,zbd.r9,zbd.c9]
   rfl
 ·have c0:((l.length:Int) != (m.length:Int))=true:=by rw [bne_iff_ne];omega
  have hne:l≠m:=fun e=>hlen (by rw [e])
  rw [decide_eq_false hne]
  simp only [zbd.fn,zbd.c0,zbd.k0,zbd.c1,hp.1.len,hq.1.len,jag,c0,zbd.k1,cond_true,zbd.c2]
  rfl
end Go.Proofs.YtcmhoboglapbdaaDoor
namespace Go.Proofs.YtcmhoboglapbdaaDoor
open Go Ev
def bigN(l:List Nat):Nat:=l.foldl (fun v b=>v*256+b) 0
def bigL(v n:Nat):List Nat:=(List.range n).map fun j=>v / 256 ^ (n-1-j) % 256
theorem jbv(v n:Nat):(bigL v n).length=n:=by simp [bigL]
theorem bigL_byte(v n:Nat):∀ x∈bigL v n,x<256:=by
 intro x hx
 obtain ⟨j,_,rfl⟩:=List.mem_map.1 hx
 exact Nat.mod_lt _ (by omega)
theorem bigL_take{v n j:Nat}(h:j<n):(bigL v n).take j++[v / 256 ^ (n-1-j) % 256]=(bigL v n).take (j+1):=by
 refine jar ?_
 unfold bigL
 rw [List.getElem?_map,List.getElem?_range h];rfl
theorem bigN_snoc(l:List Nat)(b:Nat):bigN (l++[b])=bigN l*256+b:=by unfold bigN;rw [List.foldl_append];rfl
theorem foldN_lt:∀ (l:List Nat) (v:Nat),(∀ x∈l,x<256)→l.foldl (fun v b=>v*256+b) v<(v+1)*256 ^ l.length:=by
 intro l
 induction l with
 | nil=>intro v _;show v<(v+1)*1;omega
 | cons b l ih =>
  intro v h
  have h1:=ih (v*256+b) (fun x hx=>h x (by simp [hx]))
  have h2:=h b (by simp)
  refine Nat.lt_of_lt_of_le h1 ?_
  rw [List.length_cons,Nat.pow_succ,Nat.mul_comm (256 ^ l.length) 256,← Nat.mul_assoc]
  exact Nat.mul_le_mul_right _ (by omega)
theorem bigN_lt(l:List Nat)(h:∀ x∈l,x<256):bigN l<256 ^ l.length:=by
 have:=foldN_lt l 0 h
 rw [Nat.zero_add,Nat.one_mul] at this
 exact this
theorem pow256_le{i n:Nat}(h:i≤n):256 ^ i≤256 ^ n:=Nat.pow_le_pow_right (by omega) h
theorem p256_7:256 ^ 7=72057594037927936:=by decide
theorem ishl8{v:Nat}(h:v<72057594037927936):ishl .u64 (v:Int) 8=((v*256:Nat):Int):=by
 unfold ishl
 have e:((2:Int) ^ min (Int.toNat 8) (IntKind.bits .u64))=256:=by decide
 rw [e,wr_u64];omega
theorem or8{v b:Nat}(h:v<72057594037927936)(hb:b<256):ior .u64 (ishl .u64 (v:Int) 8) (wr .u64 (b:Int))=((v*256+b:Nat):Int):=by
 rw [ishl8 h]
 show IntKind.wrap .u64 _=_
 have e1:IntKind.wrap .u64 (b:Int)=(b:Int):=by rw [wr_u64];omega
 rw [show wr .u64 (b:Int)=(b:Int) from e1,wr_u64,BitVec.toNat_or,BitVec.toNat_ofInt,BitVec.toNat_ofInt]
 have hbits:IntKind.u64.bits=64:=rfl
 rw [hbits]
 have e2:(((v*256:Nat):Int) % ((2 ^ 64:Nat):Int)).toNat=v*256:=by
  have:((2 ^ 64:Nat):Int)=18446744073709551616:=by decide
  rw [this];omega
 have e3:((b:Int) % ((2 ^ 64:Nat):Int)).toNat=b:=by
  have:((2 ^ 64:Nat):Int)=18446744073709551616:=by decide
  rw [this];omega
 rw [e2,e3]
 have e4:v*256 ||| b=v*256+b:=by
  have:=Nat.shiftLeft_add_eq_or_of_lt (b:=b) (i:=8) (by omega) v
  rw [Nat.shiftLeft_eq] at this
  exact this.symm
 rw [e4];omega
theorem add8{v b:Nat}(h:v<72057594037927936)(hb:b<256):wr .u64 (ishl .u64 (v:Int) 8+wr .u64 (b:Int))=((v*256+b:Nat):Int):=by
 rw [ishl8 h]
 have e1:IntKind.wrap .u64 (b:Int)=(b:Int):=by rw [wr_u64];omega
 rw [show wr .u64 (b:Int)=(b:Int) from e1]
 show IntKind.wrap .u64 _=_
 rw [wr_u64];omega
theorem shr_byte{v i:Nat}(hi:i<8):IntKind.wrap .u8 (ishr .u64 (v:Int) ((8*i:Nat):Int))=((v / 256 ^ i % 256:Nat):Int):=by
 unfold ishr
 rw [Int.toNat_natCast,wr_u8]
 have e2:min (8*i) IntKind.u64.bits=8*i:=by
  have:IntKind.u64.bits=64:=rfl
  omega
 have e3:((2:Int) ^ (8*i))=((256 ^ i:Nat):Int):=by
  have:i=0∨i=1∨i=2∨i=3∨i=4∨i=5∨i=6∨i=7:=by omega
  rcases this with rfl | rfl | rfl | rfl | rfl | rfl | rfl | rfl <;> decide
 rw [e2,e3,Int.fdiv_eq_ediv_of_nonneg _ (Int.natCast_nonneg _),← Int.natCast_ediv]
 omega
def part(l:List Nat)(at_ n:Nat):List Nat:=(l.drop at_).take n
theorem part_snoc{l:List Nat}{a i:Nat}(h:a+i<l.length):part l a i++[l.getD (a+i) 0]=part l a (i+1):=by
 refine jar ?_
 rw [List.getElem?_drop,List.getD_eq_getElem?_getD,List.getElem?_eq_getElem h];rfl
theorem part_byte{l:List Nat}(hl:∀ x∈l,x<256)(a n:Nat):∀ x∈part l a n,x<256:=fun x hx=>hl x (List.mem_of_mem_drop (List.mem_of_mem_take hx))
theorem part_small{l:List Nat}(hl:∀ x∈l,x<256){a i:Nat}(hi:i≤7):bigN (part l a i)<72057594037927936:=by
 have h1:=bigN_lt _ (part_byte hl a i)
 have h2:(part l a i).length≤7:=by unfold part;rw [List.length_take];omega
 have h3:=pow256_le h2
 rw [p256_7] at h3
 omega
theorem at_lt{s:List Nat}(hs:∀ x∈s,x<256)(i:Nat):s.getD i 0<256:=by
 rw [List.getD_eq_getElem?_getD]
 cases h:s[i]? with
 | none=>exact Nat.zero_lt_succ _
 | some x=>exact hs x (List.mem_of_getElem? h)
theorem numBig_spec{F n:Nat}(hF:40<F){h:AH}{p:V}{l:List Nat}(hp:Bs h p l)(hlen:l.length≤140737488355328){a m:Nat}(hm:1≤m∧m≤8)(ha:a+m≤l.length) :
  runC (EE F) (n+1) nzai [p,.int .i64 (a:Int),.int .i64 (m:Int)] h=some (.tuple [.int .u64 ((bigN (part l a m):Nat):Int),.int .i64 0],h):=by
 rw [tzai]
 have d1:decide ((m:Int)<1)=false:=by rw [decide_eq_false_iff_not];omega
 have d2:decide ((m:Int)>8)=false:=by rw [decide_eq_false_iff_not];omega
 have d3:decide ((a:Int)<0)=false:=by rw [decide_eq_false_iff_not];omega
 have d4:decide ((a:Int)>IntKind.wrap .i64 ((l.length:Int)-(m:Int)))=false:=by
  rw [jao (by omega) (by omega),decide_eq_false_iff_not];omega
 have e0:zai.fn (cx F n) p (a:Int) (m:Int) h=zai.k6 (cx F n) (zai.r11 (cx F n) zai.ret zai.ret) zai.ret (p,(a:Int),0,(m:Int),0,()) h:=by
  simp only [zai.fn,zai.c0,zai.k0,zai.c1,d1,cond_false,d2,d3,zai.k1,zai.r3,zai.c3,hp.1.len,jag,wr,d4,zai.k3,zai.r5,zai.c5,zai.k5,zai.c6]
 rw [e0]
 show jaw zai.P14 F (fun t h n'=>zai.l7 (cx F n) n' (zai.r11 (cx F n) zai.ret zai.ret) zai.ret t h) (p,(a:Int),0,(m:Int),0,()) h=_
 refine jah (S:=zai.P14) (out:=fun x=>x=some (.tuple [.int .u64 ((bigN (part l a m):Nat):Int),.int .i64 0],h))
  (fun k s g=>∃ i:Nat,i+k=m∧s=(p,(a:Int),((bigN (part l a i):Nat):Int),(m:Int),(i:Int),())∧g=h) ?_ ?_ m F _ _ ⟨0,by omega,rfl,rfl⟩ (by omega)
 ·rintro k s g n' ⟨i,hi,rfl,rfl⟩
  refine .inl ⟨_,g,?_,i+1,by omega,rfl,rfl⟩
  have c1:decide ((i:Int)<(m:Int))=true:=by rw [decide_eq_true_eq];omega
  have i1:IntKind.wrap .i64 ((a:Int)+(i:Int))=((a+i:Nat):Int):=by rw [jao (by omega) (by omega)];omega
  have i3:IntKind.wrap .i64 ((i:Int)+1)=((i+1:Nat):Int):=by rw [jao (by omega) (by omega)];omega
  obtain ⟨b,u1,u2⟩:=hp.ld (i:=((a+i:Nat):Int)) (by omega) (by omega)
  rw [Int.toNat_natCast] at u2
  have o8:=or8 (part_small hp.2 (a:=a) (i:=i) (by omega)) (at_lt hp.2 (a+i))
  rw [← bigN_snoc,part_snoc (by omega)] at o8
  simp only [zai.l7,zai.c7,zai.k7,c1,cond_true,zai.r8,zai.c8,wr,i1,u1,jae,u2,jag,zai.r10,zai.c10,i3]
  rw [← o8]
 ·rintro s g n' ⟨i,hi,rfl,rfl⟩
  obtain rfl:i=m:=by omega
  have c1:decide ((i:Int)<(i:Int))=false:=by rw [decide_eq_false_iff_not];omega
  simp only [zai.l7,zai.c7,zai.k7,c1,cond_false,zai.r11,zai.c11]
  rfl
theorem r02Big_spec{F n:Nat}(hF:40<F){h:AH}{p:V}{l:List Nat}(hp:Bs h p l)(hlen:l.length≤140737488355328){a m:Nat}(hm:1≤m∧m≤8)(ha:a+m≤l.length) :
  runC (EE F) (n+1) nzay [p,.int .i64 (a:Int),.int .i64 (m:Int)] h=some (.int .u64 ((bigN (part l a m):Nat):Int),h):=by
 rw [tzay]
 have i1:IntKind.wrap .i64 ((a:Int)+(m:Int))=((a+m:Nat):Int):=by rw [jao (by omega) (by omega)];omega
 obtain ⟨v,e1,hv⟩:=hp.cut (lo:=some (.int .i64 (a:Int))) (hi:=some (.int .i64 ((a+m:Nat):Int))) (l:=a) (u:=a+m) (.inr rfl) (.inr rfl) (by omega) (by omega)
 have hpl:(part l a m).length=m:=by unfold part;rw [List.length_take,List.length_drop];omega
 rw [show a+m-a=m by omega] at hv
 change Bs h v (part l a m) at hv
 have e0:zay.fn (cx F n) p (a:Int) (m:Int) h=zay.k2 (cx F n) (zay.r7 (cx F n) zay.ret zay.ret) zay.ret (0,v,((part l a m).length:Int),0,()) h:=by
  simp only [zay.fn,zay.c0,zay.k1,zay.c2,wr,i1,e1,jae,hv.1.len,jag]
 rw [e0]
 show jaw zay.P6 F (fun t h n'=>zay.l3 (cx F n) n' (zay.r7 (cx F n) zay.ret zay.ret) zay.ret t h) (0,v,((part l a m).length:Int),0,()) h=_
 rw [hpl]
 refine jah (S:=zay.P6) (out:=fun x=>x=some (.int .u64 ((bigN (part l a m):Nat):Int),h))
  (fun k s g=>∃ i:Nat,i+k=m∧s=(((bigN (part l a i):Nat):Int),v,(m:Int),(i:Int),())∧g=h) ?_ ?_ m F _ _ ⟨0,by omega,rfl,rfl⟩ (by omega)
 ·rintro k s g n' ⟨i,hi,rfl,rfl⟩
  refine .inl ⟨_,g,?_,i+1,by omega,rfl,rfl⟩
  have c1:decide ((i:Int)<(m:Int))=true:=by rw [decide_eq_true_eq];omega
  have i3:IntKind.wrap .i64 ((i:Int)+1)=((i+1:Nat):Int):=by rw [jao (by omega) (by omega)];omega
  obtain ⟨b,u1,u2⟩:=hv.ld (i:=(i:Int)) (by omega) (by omega)
  have hb:(part l a m).getD i 0=l.getD (a+i) 0:=by
   unfold part
   rw [List.getD_eq_getElem?_getD,List.getElem?_take_of_lt (by omega),List.getElem?_drop,← List.getD_eq_getElem?_getD]
  rw [Int.toNat_natCast,hb] at u2
  have o8:=add8 (part_small hp.2 (a:=a) (i:=i) (by omega)) (at_lt hp.2 (a+i))
  rw [← bigN_snoc,part_snoc (by omega)] at o8
  simp only [zay.l3,zay.c3,zay.k3,c1,cond_true,zay.r4,zay.c4,u1,jae,u2,jag,zay.r6,zay.c6,wr,i3]
  rw [← o8]
 ·rintro s g n' ⟨i,hi,rfl,rfl⟩
  obtain rfl:i=m:=by omega
  have c1:decide ((i:Int)<(i:Int))=false:=by rw [decide_eq_false_iff_not];omega
  simp only [zay.l3,zay.c3,zay.k3,c1,cond_false,zay.r7,zay.c7]
  rfl
structure Grew (v:V) (h:AH) (v':V) (h':AH):Prop where
 next:h.next≤h'.next
 keep:∀ b,b<h.next→notIn v b→h'.get b=h.get b
 off:∀ b,b<h.next→notIn v b→notIn v' b
theorem Grew.trans{v v' v'':V}{h h' h'':AH}(a:Grew v h v' h')(b:Grew v' h' v'' h''):Grew v h v'' h'' :=
 ⟨Nat.le_trans a.next b.next,fun x hx hn=>(b.keep x (Nat.lt_of_lt_of_le hx a.next) (a.off x hx hn)).trans (a.keep x hx hn),fun x hx hn=>b.off x (Nat.lt_of_lt_of_le hx a.next) (a.off x hx hn)⟩
theorem Grew.of_old{v:V}{h h':AH}(o:Old h.next h h'):Grew v h v h':=⟨o.next,fun b hb _=>o.get b hb,fun _ _ h=>h⟩
theorem Grew.refl(v:V)(h:AH):Grew v h v h:=⟨Nat.le_refl _,fun _ _ _=>rfl,fun _ _ h=>h⟩
def Dis(p q:V):Prop:=∀ b,notIn p b∨notIn q b
theorem Dis.symm{p q:V}(d:Dis p q):Dis q p:=fun b=>(d b).symm
theorem Ev.Own.keep{n0 z e:Nat}{h h':AH}{v:V}{n:Nat}{cs:List V}(ho:Own n0 z e h v n cs)(hg:∀ b,¬notIn v b→h'.get b=h.get b):Own n0 z e h' v n cs:=by
 obtain ⟨h1,h2 | ⟨b,cap,ex,rest,rfl,h2,h3,h4,h5,h6⟩⟩:=ho
 ·exact ⟨h1,.inl h2⟩
 ·exact ⟨h1,.inr ⟨b,cap,ex,rest,rfl,h2,h3,h4,h5,h6.mono (hg _ (fun h=>h rfl))⟩⟩
theorem Ev.Own.alive{n0 z e:Nat}{h:AH}{v:V}{n:Nat}{cs:List V}(ho:Own n0 z e h v n cs)(hw:h.WF){b:Nat}(hb:¬notIn v b):b<h.next:=by
 obtain ⟨h1,⟨_,rfl⟩ | ⟨b',cap,ex,rest,rfl,h2,h3,h4,h5,h6⟩⟩:=ho
 ·exact absurd trivial hb
 ·have:b=b':=Classical.byContradiction fun h=>hb h
  subst this
  exact h6.lt hw
theorem Ev.Own.beside{n0 z e:Nat}{h h':AH}{p p' q:V}{n:Nat}{cs:List V}(hq:Own n0 z e h q n cs)(hw:h.WF)(d:Dis p q)(g:Grew p h p' h'):Own n0 z e h' q n cs∧Dis p' q:=by
 refine ⟨hq.keep fun b hb=>g.keep b (hq.alive hw hb) ((d b).resolve_right hb),fun b=>?_⟩
 by_cases hb:notIn q b
 ·exact .inr hb
 ·exact .inl (g.off b (hq.alive hw hb) ((d b).resolve_right hb))
theorem big_spec{F n:Nat}(hF:40<F){h:AH}{n0:Nat}(hw:h.WF)(hn0:n0≤h.next){p:V}{l:List Nat}(hp:Own n0 1 jai h p l.length (jaa l))(hlen:l.length≤140737488354000){v m:Nat}(hm:m≤8) :
  ∃ p' h',runC (EE F) (n+1) nzan [p,.int .u64 (v:Int),.int .i64 (m:Int)] h=some (p',h')∧Own n0 1 jai h' p' (l++bigL v m).length (jaa (l++bigL v m))∧Old n0 h h'∧Grew p h p' h':=by
 rw [tzan]
 have i1:IntKind.wrap .i64 ((m:Int)-1)=(m:Int)-1:=jao (by omega) (by omega)
 have e0:zan.fn (cx F n) p (v:Int) (m:Int) h=zan.k1 (cx F n) (zan.r5 (cx F n) zan.ret zan.ret) zan.ret (p,(v:Int),(m:Int)-1,()) h:=by
  simp only [zan.fn,zan.c0,zan.k0,zan.c1,wr,i1]
 rw [e0]
 show ∃ p' h',jaw zan.P4 F (fun t h n'=>zan.l2 (cx F n) n' (zan.r5 (cx F n) zan.ret zan.ret) zan.ret t h) (p,(v:Int),(m:Int)-1,()) h=some (p',h')∧_
 refine jah (S:=zan.P4) (out:=fun x=>∃ p' h',x=some (p',h')∧Own n0 1 jai h' p' (l++bigL v m).length (jaa (l++bigL v m))∧Old n0 h h'∧Grew p h p' h')
  (fun k s g=>∃ (j:Nat) (q:V),j+k=m∧s=(q,(v:Int),(m:Int)-1-(j:Int),())∧Own n0 1 jai g q (l++(bigL v m).take j).length (jaa (l++(bigL v m).take j))∧Old n0 h g∧Grew p h q g) ?_ ?_ m F _ _
  ⟨0,p,by omega,(by simp),by simpa using hp,Old.refl hw _,Grew.refl _ _⟩ (by omega)
 ·rintro k s g n' ⟨j,q,hj,rfl,ho,og,gg⟩
  refine .inl ?_
  have hjm:j<m:=by omega
  have c1:decide ((m:Int)-1-(j:Int)≥0)=true:=by rw [decide_eq_true_eq];omega
  have i2:IntKind.wrap .i64 (8*((m:Int)-1-(j:Int)))=((8*(m-1-j):Nat):Int):=by rw [jao (by omega) (by omega)];omega
  have i3:IntKind.wrap .i64 ((m:Int)-1-(j:Int)-1)=(m:Int)-1-((j+1:Nat):Int):=by rw [jao (by omega) (by omega)];omega
  have c2:¬((8*(m-1-j):Nat):Int)<0:=by omega
  have i4:=shr_byte (v:=v) (i:=m-1-j) (by omega)
  obtain ⟨w,g1,s1,s2,s3⟩:=bsl_byte og.wf jai (v / 256 ^ (m-1-j) % 256)
  have og1:=s3.next
  obtain ⟨q',g2,a1,a2,a3,a4,a5⟩:=jbc (ho.old og.wf s3) (s2.bs (by
   intro x hx
   simp only [List.mem_singleton] at hx
   subst hx
   exact Nat.mod_lt _ (by omega))) s3.wf (Nat.le_trans (Nat.le_trans hn0 og.next) og1) (jci (by rw [List.length_append,List.length_take,jbv,List.length_singleton];omega))
  rw [List.append_assoc,bigL_take hjm] at a2
  refine ⟨_,g2,?_,j+1,q',by omega,rfl,a2,(og.trans (s3.weak (Nat.le_trans hn0 og.next))).trans a3,gg.trans ((Grew.of_old s3).trans ⟨a3.next,a4,a5⟩)⟩
  simp only [zan.l2,zan.c2,zan.k2,c1,cond_true,zan.r4,zan.c4,wr,i2,if_neg c2,jag,i4,s1,jam,a1,zan.r3,zan.c3,i3]
 ·rintro s g n' ⟨j,q,hj,rfl,ho,og,gg⟩
  obtain rfl:j=m:=by omega
  rw [List.take_of_length_le (by rw [jbv];omega)] at ho
  refine ⟨q,g,?_,ho,og,gg⟩
  have c1:decide ((j:Int)-1-(j:Int)≥0)=false:=by rw [decide_eq_false_iff_not];omega
  simp only [zan.l2,zan.c2,zan.k2,c1,cond_false,zan.r5,zan.c5]
  rfl
theorem putBig_spec{F n:Nat}(hF:40<F){h:AH}(hw:h.WF){p:V}{l:List Nat}(hp:Bs h p l)(hlen:l.length≤140737488354000){v m:Nat}(hm:m≤8) :
  ∃ p' h',runC (EE F) (n+1) nzaz [p,.int .u64 (v:Int),.int .i64 (m:Int)] h=some (p',h')∧Own h.next 1 jai h' p' (l++bigL v m).length (jaa (l++bigL v m))∧Old h.next h h':=by
 rw [tzaz]
 have i1:IntKind.wrap .i64 ((m:Int)-1)=(m:Int)-1:=jao (by omega) (by omega)
 obtain ⟨p1,h1,b1,b2,b3,_⟩:=jbc (l:=[]) (own_nil h.next 1 jai h) hp hw (Nat.le_refl _) (jci (by simp only [List.length_nil];omega))
 rw [List.nil_append] at b2
 have e0:zaz.fn (cx F n) p (v:Int) (m:Int) h=zaz.k3 (cx F n) (zaz.r7 (cx F n) zaz.ret zaz.ret) zaz.ret ((v:Int),p1,(m:Int)-1,()) h1:=by
  simp only [zaz.fn,zaz.c0,b1,jam,zaz.k2,zaz.c3,wr,i1]
 rw [e0]
 show ∃ p' h',jaw zaz.P8 F (fun t h n'=>zaz.l4 (cx F n) n' (zaz.r7 (cx F n) zaz.ret zaz.ret) zaz.ret t h) ((v:Int),p1,(m:Int)-1,()) h1=some (p',h')∧_
 refine jah (S:=zaz.P8) (out:=fun x=>∃ p' h',x=some (p',h')∧Own h.next 1 jai h' p' (l++bigL v m).length (jaa (l++bigL v m))∧Old h.next h h')
  (fun k s g=>∃ (j:Nat) (q:V),j+k=m∧s=((v:Int),q,(m:Int)-1-(j:Int),())∧Own h.next 1 jai g q (l++(bigL v m).take j).length (jaa (l++(bigL v m).take j))∧Old h.next h g) ?_ ?_ m F _ _
  ⟨0,p1,by omega,(by simp),by simpa using b2,b3⟩ (by omega)
 ·rintro k s g n' ⟨j,q,hj,rfl,ho,og⟩
  refine .inl ?_
  have hjm:j<m:=by omega
  have c1:decide ((m:Int)-1-(j:Int)≥0)=true:=by rw [decide_eq_true_eq];omega
  have i2:IntKind.wrap .i64 (8*((m:Int)-1-(j:Int)))=((8*(m-1-j):Nat):Int):=by rw [jao (by omega) (by omega)];omega
  have i3:IntKind.wrap .i64 ((m:Int)-1-(j:Int)-1)=(m:Int)-1-((j+1:Nat):Int):=by rw [jao (by omega) (by omega)];omega
  have c2:¬((8*(m-1-j):Nat):Int)<0:=by omega
  have i4:=shr_byte (v:=v) (i:=m-1-j) (by omega)
  obtain ⟨w,g1,s1,s2,s3⟩:=bsl_byte og.wf jai (v / 256 ^ (m-1-j) % 256)
  have og1:=s3.next
  obtain ⟨q',g2,a1,a2,a3,_⟩:=jbc (ho.old og.wf s3) (s2.bs (by
   intro x hx
   simp only [List.mem_singleton] at hx
   subst hx
   exact Nat.mod_lt _ (by omega))) s3.wf (Nat.le_trans og.next og1) (jci (by rw [List.length_append,List.length_take,jbv,List.length_singleton];omega))
  rw [List.append_assoc,bigL_take hjm] at a2
  refine ⟨_,g2,?_,j+1,q',by omega,rfl,a2,(og.trans (s3.weak og.next)).trans a3⟩
  simp only [zaz.l4,zaz.c4,zaz.k4,c1,cond_true,zaz.r6,zaz.c6,wr,i2,if_neg c2,jag,i4,s1,jam,a1,zaz.r5,zaz.c5,i3]
 ·rintro s g n' ⟨j,q,hj,rfl,ho,og⟩
  obtain rfl:j=m:=by omega
  rw [List.take_of_length_le (by rw [jbv];omega)] at ho
  refine ⟨q,g,?_,ho,og⟩
  have c1:decide ((j:Int)-1-(j:Int)≥0)=false:=by rw [decide_eq_false_iff_not];omega
  simp only [zaz.l4,zaz.c4,zaz.k4,c1,cond_false,zaz.r7,zaz.c7]
  rfl
end Go.Proofs.YtcmhoboglapbdaaDoor
namespace Go.Proofs.YtcmhoboglapbdaaDoor
open Go Ev
theorem rid_of{h:AH}{a:A}{r:Row}(hr:jbj h a 34=some (rowL r))(hk:r.ok):ldA 32 (.ptr ⟨a.b,a.L,a.o+0⟩) h=some (.agg (jaa r.id)) :=
 jbf ((readN_part hr (o:=0) (m:=32) (by omega)).trans (by rw [rowL_id hk]))
theorem fA_at(a:A)(x:Nat):fA x (.ptr a)=some (.ptr ⟨a.b,a.L,a.o+x⟩):=rfl
def jcp:List Row→Bool
 | a :: b :: l=>decide (b.id=a.id) || jcp (b :: l)
 | _=>false
theorem Ev.Bs.cellOk{h:AH}{v:V}{l:List Nat}(hb:Bs h v l):v.cell=true:=by
 obtain ⟨⟨_,⟨_,rfl | rfl⟩ | ⟨a,cap,ex,rfl,_⟩⟩,_⟩:=hb <;> rfl
theorem four_spec{F n:Nat}(hF:40<F){h:AH}(hw:h.WF){p:V}{l:List Nat}(hp:Bs h p l)(hlen:l.length≤140737488355328){a:Nat}(ha:a+4≤l.length) :
  ∃ h',runC (EE F) (n+2) nzar [.agg [p],.int .i64 (a:Int)] h=some (.int .u64 ((bigN (part l a 4):Nat):Int),h')∧Old h.next h h':=by
 rw [tzar]
 obtain ⟨h1,e1,c1,n1,o1⟩:=jbe hw [p] jba (by simp [hp.cellOk])
 have e2:ld (.ptr ⟨h.next,[p].length,0+0⟩) h1=some p:=ld_of (c1.read1 rfl rfl)
 have e3:=numBig_spec (F:=F) (n:=n) hF (hp.old hw o1) hlen (a:=a) (m:=4) (by omega) ha
 refine ⟨h1,?_,o1⟩
 simp only [zar.fn,zar.c0,e1,jam,jbu,jae,e2,cxC]
 have e3':runC (EE F) (n+1) nzai [p,.int .i64 (a:Int),.int .i64 4] h1=some (.tuple [.int .u64 ((bigN (part l a 4):Nat):Int),.int .i64 0],h1):=e3
 rw [e3']
 rfl
theorem set_fill{L:List Nat}{m i:Nat}(hL:L.length=m)(hi:i<m):(L.take i++List.replicate (m-i) 0).set i (L.getD i 0)=L.take (i+1)++List.replicate (m-(i+1)) 0:=by
 have hg:L[i]?=some (L.getD i 0):=by rw [List.getD_eq_getElem?_getD,List.getElem?_eq_getElem (by omega)];rfl
 have ht:(L.take i).length=i:=by rw [List.length_take];omega
 rw [List.set_append_right _ _ (by omega),ht,Nat.sub_self,show m-i=(m-(i+1))+1 by omega,List.replicate_succ,List.set_cons_zero,← jar hg,List.append_assoc];rfl
theorem id_spec{F n:Nat}(hF:40<F){h:AH}(hw:h.WF){p:V}{l:List Nat}(hp:Bs h p l)(hlen:l.length≤140737488355328){a:Nat}(ha:a+32≤l.length) :
  ∃ h',runC (EE F) (n+1) nzbe [p,.int .i64 (a:Int)] h=some (.agg (jaa (part l a 32)),h')∧Old h.next h h':=by
 rw [tzbe]
 obtain ⟨a1,a2,a3,a4⟩:=jay hw (List.replicate 32 (.int .u8 0)) jab rfl (by simp)
 have a2':(al (List.replicate 32 (.int .u8 0)) jab h).1=.ptr ⟨h.next,32,0⟩:=a2
 generalize hh1:(al (List.replicate 32 (.int .u8 0)) jab h).2=h1 at *
 obtain ⟨b1,b2,b3,b4⟩:=jay a4.wf (List.replicate 32 (.int .u8 0)) jab rfl (by simp)
 have b2':(al (List.replicate 32 (.int .u8 0)) jab h1).1=.ptr ⟨h1.next,32,0⟩:=b2
 generalize hh2:(al (List.replicate 32 (.int .u8 0)) jab h1).2=h2 at *
 have o2:Old h.next h h2:=a4.trans (b4.weak a4.next)
 have hL:(part l a 32).length=32:=by unfold part;rw [List.length_take,List.length_drop];omega
 have e0:zbe.fn (cx F n) p (a:Int) h=zbe.k2 (cx F n) (zbe.r6 (cx F n) zbe.ret zbe.ret) zbe.ret (p,(a:Int),.ptr ⟨h.next,32,0⟩,.ptr ⟨h1.next,32,0⟩,0,()) h2:=by
  simp only [zbe.fn,zbe.c0,a2',hh1,b2',hh2,zbe.k1,zbe.c2]
 rw [e0]
 show ∃ h',jaw zbe.P6 F (fun t h n'=>zbe.l3 (cx F n) n' (zbe.r6 (cx F n) zbe.ret zbe.ret) zbe.ret t h) (p,(a:Int),.ptr ⟨h.next,32,0⟩,.ptr ⟨h1.next,32,0⟩,0,()) h2=some (.agg (jaa (part l a 32)),h')∧_
 have hz:jal h2 h1.next jab (jaa ((part l a 32).take 0++List.replicate (32-0) 0)):=b1
 have hz1:jal h2 h.next jab (jaa (List.replicate 32 0)):=(show jal h1 h.next jab (jaa (List.replicate 32 0)) from a1).old a4.wf b4
 refine jah (S:=zbe.P6) (out:=fun x=>∃ h',x=some (.agg (jaa (part l a 32)),h')∧Old h.next h h')
  (fun k s g=>∃ i:Nat,i+k=32∧s=(p,(a:Int),.ptr ⟨h.next,32,0⟩,.ptr ⟨h1.next,32,0⟩,(i:Int),())∧jal g h.next jab (jaa (List.replicate 32 0))∧jal g h1.next jab (jaa ((part l a 32).take i++List.replicate (32-i) 0))∧Old h.next h g) ?_ ?_ 32 F _ _ ⟨0,rfl,rfl,hz1,hz,o2⟩ (by omega)
 ·rintro k s g n' ⟨i,hi,rfl,cr,ci,og⟩
  refine .inl ?_
  have c1:decide ((i:Int)<32)=true:=by rw [decide_eq_true_eq];omega
  have i1:IntKind.wrap .i64 ((a:Int)+(i:Int))=((a+i:Nat):Int):=by rw [jao (by omega) (by omega)];omega
  have i3:IntKind.wrap .i64 ((i:Int)+1)=((i+1:Nat):Int):=by rw [jao (by omega) (by omega)];omega
  obtain ⟨b,u1,u2⟩:=(hp.old hw og).ld (i:=((a+i:Nat):Int)) (by omega) (by omega)
  have hb:l.getD (a+i) 0=(part l a 32).getD i 0:=by
   unfold part
   rw [List.getD_eq_getElem?_getD,List.getD_eq_getElem?_getD,List.getElem?_take_of_lt (by omega),List.getElem?_drop]
  rw [Int.toNat_natCast,hb] at u2
  have hlen':(jaa ((part l a 32).take i++List.replicate (32-i) 0)).length=32:=by rw [jad,List.length_append,List.length_take,List.length_replicate];omega
  obtain ⟨c,g2,w1,w2,w3,w4⟩:=ci.st1 og.wf (n:=32) hlen'.symm (i:=(i:Int)) (by omega) (by omega) (v:=.int .u8 (((part l a 32).getD i 0:Nat):Int)) rfl rfl
  rw [Int.toNat_natCast] at w3
  have e2:(jaa ((part l a 32).take i++List.replicate (32-i) 0)).set i (.int .u8 (((part l a 32).getD i 0:Nat):Int))=jaa ((part l a 32).take (i+1)++List.replicate (32-(i+1)) 0):=by
   rw [← set_fill hL (by omega),← byteL_set];rfl
  rw [e2] at w3
  have hne:h.next<h1.next:=by omega
  refine ⟨_,g2,?_,i+1,by omega,rfl,cr.wrote w4 (by omega),w3,og.trans (w4.old (by omega))⟩
  simp only [zbe.l3,zbe.c3,zbe.k3,c1,cond_true,zbe.r5,zbe.c5,wr,i1,u1,jae,u2,jag,w1,w2,jaj,zbe.r4,zbe.c4,i3]
 ·rintro s g n' ⟨i,hi,rfl,cr,ci,og⟩
  obtain rfl:i=32:=by omega
  have ci':jal g h1.next jab (jaa (part l a 32)):=by
   rw [List.take_of_length_le (by omega),Nat.sub_self,List.replicate_zero,List.append_nil] at ci;exact ci
  have hb32:(jaa (part l a 32)).length=32:=by rw [jad,hL]
  obtain ⟨g',p1,p2,p3⟩:=cr.put og.wf (n:=32) (vs:=jaa (part l a 32)) rfl hb32 (jap _)
  refine ⟨g',?_,og.trans (p3.old (Nat.le_refl _))⟩
  have c1:decide (((32:Nat):Int)<32)=false:=rfl
  simp only [zbe.l3,zbe.c3,zbe.k3,c1,cond_false,zbe.r6,zbe.c6,ci'.ldA hb32.symm,jaf,p1,jaj,zbe.ret,p2.ldA hb32.symm]
  rfl
theorem cloneR_spec{F n:Nat}{h:AH}(hw:h.WF){p:V}{l:List Row}(hp:Rs h p l)(hl:l.length≤2932031007317) :
  ∃ v h',runC (EE F) (n+1) nzbk [p] h=some (v,h')∧OwnR h.next jak h' v l∧Old h.next h h':=by
 rw [tzbk]
 by_cases hn:p=.nilslice
 ·subst hn
  obtain ⟨⟨_,h2⟩,_⟩:=hp
  have hl0:l=[]:=by
   rcases h2 with ⟨h0,_⟩ | ⟨_,_,_,h3,_⟩
   ·exact List.eq_nil_of_length_eq_zero h0
   ·cases h3
  subst hl0
  exact ⟨.nilslice,h,by kernel_rfl,own_nil _ _ _ _,Old.refl hw _⟩
 ·obtain ⟨v1,h1,b1,o1,d1⟩:=bsl_own hw (z:=34) (n:=0) (e:=jak) (ps:=[]) (zs:=zRow) (cs:=[]) rfl rfl rfl
  obtain ⟨v,h',a1,a2,a3,_⟩:=app_rows (l:=[]) o1 (hp.old hw d1) d1.wf d1.next (by simpa using hl)
  refine ⟨v,h',?_,a2,d1.trans a3⟩
  have e1:eqW PP true T_s_packidx_Row p .nilslice=some (.bool false):=by
   obtain ⟨⟨_,h2⟩,_⟩:=hp
   rcases h2 with ⟨_,rfl | rfl⟩ | ⟨a,cap,ex,rfl,_⟩
   ·exact absurd rfl hn
   ·kernel_rfl
   ·kernel_rfl
  simp only [zbk.fn,zbk.c0,zbk.k0,zbk.c1,e1,bB_some,zbk.k1,cond_false,zbk.r3,zbk.c3,b1,jam,a1]
  rfl
end Go.Proofs.YtcmhoboglapbdaaDoor
namespace Go.Proofs.YtcmhoboglapbdaaDoor
open Go Ev
def iL(n:Nat)(f:Nat→Nat):List V:=(List.range n).map fun b=>.int .i64 (f b:Int)
theorem iL_len(n:Nat)(f:Nat→Nat):(iL n f).length=n:=by simp [iL]
theorem iL_get{n:Nat}(f:Nat→Nat){b:Nat}(h:b<n):(iL n f)[b]?=some (.int .i64 (f b:Int)):=by
 unfold iL;rw [List.getElem?_map,List.getElem?_range h];rfl
theorem iL_congr{n:Nat}{f g:Nat→Nat}(h:∀ b,b<n→f b=g b):iL n f=iL n g:=by
 unfold iL
 refine List.map_congr_left fun b hb=>?_
 rw [h b (List.mem_range.1 hb)]
theorem iL_set{n:Nat}(f:Nat→Nat){x y:Nat}(hx:x<n):(iL n f).set x (.int .i64 (y:Int))=iL n (fun b=>if b=x then y else f b):=by
 apply List.ext_getElem?
 intro j
 rw [List.getElem?_set]
 by_cases hj:j<n
 ·rw [iL_get (fun b=>if b=x then y else f b) hj]
  by_cases h:x=j
  ·subst h;rw [if_pos rfl,if_pos (by rw [iL_len];exact hx),if_pos rfl]
  ·rw [if_neg h,if_neg (fun e:j=x=>h e.symm),iL_get _ hj]
 ·rw [List.getElem?_eq_none (l:=iL n _) (by rw [iL_len];omega),if_neg (by omega),List.getElem?_eq_none (by rw [iL_len];omega)]
theorem iL_cell(n:Nat)(f:Nat→Nat):(iL n f).all V.cell=true:=by
 rw [List.all_eq_true];intro x hx
 obtain ⟨b,_,rfl⟩:=List.mem_map.1 hx
 rfl
theorem iL_zero(n:Nat):List.replicate n (V.int .i64 0)=iL n (fun _=>0):=by
 apply List.ext_getElem?
 intro j
 rw [List.getElem?_replicate]
 by_cases hj:j<n
 ·rw [if_pos hj,iL_get _ hj];rfl
 ·rw [if_neg hj,List.getElem?_eq_none (by rw [iL_len];omega)]
def id0(r:Row):Nat:=r.id.getD 0 0
def cnt(l:List Row)(b:Nat):Nat:=l.countP fun r=>id0 r==b
def upto(l:List Row)(b:Nat):Nat:=l.countP fun r=>decide (id0 r≤b)
theorem cnt_snoc(l:List Row)(r:Row)(b:Nat):cnt (l++[r]) b=if b=id0 r then cnt l (id0 r)+1 else cnt l b:=by
 unfold cnt
 rw [List.countP_append]
 by_cases h:b=id0 r
 ·subst h;rw [if_pos rfl];simp
 ·have h':¬id0 r=b:=fun e=>h e.symm
  rw [if_neg h];simp [h']
theorem upto_succ(l:List Row)(b:Nat):upto l (b+1)=cnt l (b+1)+upto l b:=by
 unfold upto cnt
 induction l with
 | nil=>rfl
 | cons r l ih =>
  simp only [List.countP_cons,ih]
  by_cases h1:id0 r=b+1
  ·simp [h1,Nat.not_succ_le_self];try omega
  ·by_cases h2:id0 r≤b
   ·have:id0 r≤b+1:=by omega
    simp [h1,h2,this];omega
   ·have:¬id0 r≤b+1:=by omega
    simp [h1,h2,this]
theorem upto_zero(l:List Row):upto l 0=cnt l 0:=by
 unfold upto cnt
 refine congrArg (fun p=>List.countP p l) (funext fun r=>?_)
 rw [Bool.eq_iff_iff];simp
theorem cnt_le(l:List Row)(b:Nat):cnt l b≤l.length:=List.countP_le_length
theorem upto_le(l:List Row)(b:Nat):upto l b≤l.length:=List.countP_le_length
theorem id0_lt{r:Row}(h:r.ok):id0 r<256:=at_lt h.2.1 0
theorem row_id0{h:AH}{b e:Nat}{r:Row}(hc:jal h b e (rowL r))(hr:r.ok):ld (.ptr ⟨b,34,0+0+(Int.toNat 0)*1⟩) h=some (.int .u8 ((id0 r:Nat):Int)):=by
 refine ld_of (hc.read1 (jav hr).symm ?_)
 have h0:r.id[0]?=some (id0 r):=by
  unfold id0
  rw [List.getD_eq_getElem?_getD,List.getElem?_eq_getElem (by rw [hr.1];omega)];rfl
 show (rowL r)[0]?=_
 unfold rowL
 rw [List.getElem?_append_left (by rw [jad,hr.1];omega),jck,h0];rfl
theorem rep256:List.replicate 256 (V.int .i64 0)≠[]:=by
 rw [show (256:Nat)=255+1 from rfl,List.replicate_succ];exact List.cons_ne_nil _ _
theorem fan_spec{F n:Nat}(hF:300<F){h:AH}(hw:h.WF){p:V}{l:List Row}(hp:Rs h p l)(hl:l.length≤2932031007317)(hFl:l.length<F) :
  ∃ h',runC (EE F) (n+1) nzap [p] h=some (.agg (iL 256 (upto l)),h')∧Old h.next h h':=by
 rw [tzap]
 obtain ⟨a1,a2,a3,a4⟩:=jay hw (List.replicate 256 (.int .i64 0)) jbl (by rw [iL_zero];exact iL_cell _ _) rep256
 have a2':(al (List.replicate 256 (.int .i64 0)) jbl h).1=.ptr ⟨h.next,256,0⟩:=by rw [a2,List.length_replicate]
 generalize hh1:(al (List.replicate 256 (.int .i64 0)) jbl h).2=h1 at *
 obtain ⟨b1,b2,b3,b4⟩:=jay a4.wf (List.replicate 256 (.int .i64 0)) jbl (by rw [iL_zero];exact iL_cell _ _) rep256
 have b2':(al (List.replicate 256 (.int .i64 0)) jbl h1).1=.ptr ⟨h1.next,256,0⟩:=by rw [b2,List.length_replicate]
 generalize hh2:(al (List.replicate 256 (.int .i64 0)) jbl h1).2=h2 at *
 have o2:Old h.next h h2:=a4.trans (b4.weak a4.next)
 rw [iL_zero] at a1 b1
 have a1':=a1.old a4.wf b4
 have e0:zap.fn (cx F n) p h=zap.k2 (cx F n) (zap.r7 (cx F n) zap.ret zap.ret) zap.ret (.ptr ⟨h.next,256,0⟩,.ptr ⟨h1.next,256,0⟩,p,(l.length:Int),0,()) h2:=by
  simp only [zap.fn,zap.c0,a2',hh1,b2',hh2,zap.k1,zap.c2,hp.1.len,jag]
 rw [e0]
 show ∃ h',jaw zap.P6 F (fun t h n'=>zap.l3 (cx F n) n' (zap.r7 (cx F n) zap.ret zap.ret) zap.ret t h) (.ptr ⟨h.next,256,0⟩,.ptr ⟨h1.next,256,0⟩,p,(l.length:Int),0,()) h2=some (.agg (iL 256 (upto l)),h')∧_
 have hne:h.next<h1.next:=by omega
 refine jah (S:=zap.P6) (out:=fun x=>∃ h',x=some (.agg (iL 256 (upto l)),h')∧Old h.next h h')
  (fun k s g=>∃ i:Nat,i+k=l.length∧s=(.ptr ⟨h.next,256,0⟩,.ptr ⟨h1.next,256,0⟩,p,(l.length:Int),(i:Int),())∧jal g h.next jbl (iL 256 fun _=>0)∧jal g h1.next jbl (iL 256 (cnt (l.take i)))∧Old h.next h g) ?_ ?_ l.length F _ _ ⟨0,by omega,rfl,a1',b1,o2⟩ hFl
 ·rintro k s g n' ⟨i,hi,rfl,cr,ci,og⟩
  refine .inl ?_
  have hlt:i<l.length:=by omega
  have hget:l[i]?=some l[i]:=List.getElem?_eq_getElem hlt
  have hr:=hp.2 _ (List.getElem_mem hlt)
  have hx:=id0_lt hr
  obtain ⟨a,u1,u2⟩:=(hp.old hw og).at hget
  obtain ⟨g1,t1,t2,t3,t4,t5⟩:=tmp_row og.wf hr jak
  have ci1:=ci.old og.wf t4
  have cr1:=cr.old og.wf t4
  have hcl:=cnt_le (l.take i) (id0 l[i])
  rw [List.length_take] at hcl
  obtain ⟨q,v1,v2⟩:=ci1.ld1 (n:=256) (iL_len _ _).symm (i:=((id0 l[i]:Nat):Int)) (by omega) (by omega) (v:=.int .i64 ((cnt (l.take i) (id0 l[i]):Nat):Int)) (by rw [Int.toNat_natCast,iL_get _ hx])
  obtain ⟨q',g2,w1,w2,w3,w4⟩:=ci1.st1 t4.wf (n:=256) (iL_len _ _).symm (i:=((id0 l[i]:Nat):Int)) (by omega) (by omega) (v:=.int .i64 ((cnt (l.take i) (id0 l[i])+1:Nat):Int)) rfl rfl
  obtain rfl:q=q':=V.ptr.inj (Option.some.inj (v1.symm.trans w1))
  rw [Int.toNat_natCast,iL_set _ hx] at w3
  have e3:iL 256 (fun b=>if b=id0 l[i] then cnt (l.take i) (id0 l[i])+1 else cnt (l.take i) b)=iL 256 (cnt (l.take (i+1))):=iL_congr fun b _=>by rw [← jar hget,cnt_snoc]
  rw [e3] at w3
  have ogn:=og.next
  refine ⟨_,g2,?_,i+1,by omega,rfl,cr1.wrote w4 (by omega),w3,(og.trans (t4.weak ogn)).trans (w4.old (by omega))⟩
  have c1:decide ((i:Int)<(l.length:Int))=true:=by rw [decide_eq_true_eq];omega
  have i3:IntKind.wrap .i64 ((i:Int)+1)=((i+1:Nat):Int):=by rw [jao (by omega) (by omega)];omega
  have i4:IntKind.wrap .i64 (((cnt (l.take i) (id0 l[i]):Nat):Int)+1)=((cnt (l.take i) (id0 l[i])+1:Nat):Int):=by rw [jao (by omega) (by omega)];omega
  simp only [zap.l3,zap.c3,zap.k3,c1,cond_true,zap.r4,zap.c4,u1,jae,jbf u2,jaf,t1,t2,jaj,jbu,ixA_of (n:=32) (z:=1) (i:=0) (by omega) (by omega),row_id0 t3 hr,jag,v1,v2,wr,i4,w2,zap.r6,zap.c6,i3]
 ·rintro s g n' ⟨i,hi,rfl,cr,ci,og⟩
  obtain rfl:i=l.length:=by omega
  rw [List.take_length] at ci
  have c1:decide ((l.length:Int)<(l.length:Int))=false:=by rw [decide_eq_false_iff_not];omega
  have e1:zap.l3 (cx F n) n' (zap.r7 (cx F n) zap.ret zap.ret) zap.ret (.ptr ⟨h.next,256,0⟩,.ptr ⟨h1.next,256,0⟩,p,(l.length:Int),(l.length:Int),()) g
    = jaw zap.P16 F (fun t h n'=>zap.l8 (cx F n) n' (zap.r11 (cx F n) zap.ret zap.ret) zap.ret t h) (.ptr ⟨h.next,256,0⟩,.ptr ⟨h1.next,256,0⟩,1,()) g:=by
   simp only [zap.l3,zap.c3,zap.k3,c1,cond_false,zap.r7,zap.c7,zap.k7]
   rfl
  rw [e1]
  have ci0:jal g h1.next jbl (iL 256 fun b=>if b<1 then upto l b else cnt l b):=by
   rw [show iL 256 (fun b=>if b<1 then upto l b else cnt l b)=iL 256 (cnt l) from iL_congr fun b _=>by
    by_cases hb:b<1
    ·rw [if_pos hb,show b=0 by omega,upto_zero]
    ·rw [if_neg hb]]
   exact ci
  refine jah (S:=zap.P16) (out:=fun x=>∃ h',x=some (.agg (iL 256 (upto l)),h')∧Old h.next h h')
   (fun k s g=>∃ i:Nat,1≤i∧i+k=256∧s=(.ptr ⟨h.next,256,0⟩,.ptr ⟨h1.next,256,0⟩,(i:Int),())∧jal g h.next jbl (iL 256 fun _=>0)∧jal g h1.next jbl (iL 256 fun b=>if b<i then upto l b else cnt l b)∧Old h.next h g) ?_ ?_ 255 F _ _ ⟨1,by omega,rfl,rfl,cr,ci0,og⟩ (by omega)
  ·rintro k s g n' ⟨i,h1i,hi,rfl,cr,ci,og⟩
   refine .inl ?_
   have hx:i<256:=by omega
   have hx1:i-1<256:=by omega
   have i1:IntKind.wrap .i64 ((i:Int)-1)=((i-1:Nat):Int):=by rw [jao (by omega) (by omega)];omega
   have i3:IntKind.wrap .i64 ((i:Int)+1)=((i+1:Nat):Int):=by rw [jao (by omega) (by omega)];omega
   have b1:=cnt_le l i
   have b2:=upto_le l (i-1)
   have i4:IntKind.wrap .i64 (((cnt l i:Nat):Int)+((upto l (i-1):Nat):Int))=((upto l i:Nat):Int):=by
    have:=upto_succ l (i-1)
    rw [show i-1+1=i by omega] at this
    rw [jao (by omega) (by omega)];omega
   obtain ⟨q,v1,v2⟩:=ci.ld1 (n:=256) (iL_len _ _).symm (i:=((i:Nat):Int)) (by omega) (by omega) (v:=.int .i64 ((cnt l i:Nat):Int)) (by rw [Int.toNat_natCast,iL_get _ hx,if_neg (by omega)])
   obtain ⟨q1,v3,v4⟩:=ci.ld1 (n:=256) (iL_len _ _).symm (i:=((i-1:Nat):Int)) (by omega) (by omega) (v:=.int .i64 ((upto l (i-1):Nat):Int)) (by rw [Int.toNat_natCast,iL_get _ hx1,if_pos (by omega)])
   obtain ⟨q',g2,w1,w2,w3,w4⟩:=ci.st1 og.wf (n:=256) (iL_len _ _).symm (i:=((i:Nat):Int)) (by omega) (by omega) (v:=.int .i64 ((upto l i:Nat):Int)) rfl rfl
   obtain rfl:q=q':=V.ptr.inj (Option.some.inj (v1.symm.trans w1))
   rw [Int.toNat_natCast,iL_set _ hx] at w3
   have e3:iL 256 (fun b=>if b=i then upto l i else if b<i then upto l b else cnt l b)=iL 256 (fun b=>if b<i+1 then upto l b else cnt l b):=iL_congr fun b _=>by
    by_cases hb:b=i
    ·subst hb;rw [if_pos rfl,if_pos (by omega)]
    ·rw [if_neg hb]
     by_cases hb2:b<i
     ·rw [if_pos hb2,if_pos (by omega)]
     ·rw [if_neg hb2,if_neg (by omega)]
   rw [e3] at w3
   have c2:decide ((i:Int)<256)=true:=by rw [decide_eq_true_eq];omega
   refine ⟨_,g2,?_,i+1,by omega,by omega,rfl,cr.wrote w4 (by omega),w3,og.trans (w4.old (by omega))⟩
   simp only [zap.l8,zap.c8,zap.k8,c2,cond_true,zap.r10,zap.c10,v1,jae,v2,jag,wr,i1,v3,v4,i4,w2,jaj,zap.r9,zap.c9,i3]
  ·rintro s g n' ⟨i,h1i,hi,rfl,cr,ci,og⟩
   obtain rfl:i=256:=by omega
   have ci':jal g h1.next jbl (iL 256 (upto l)):=by
    rw [show iL 256 (upto l)=iL 256 (fun b=>if b<256 then upto l b else cnt l b) from iL_congr fun b hb=>by rw [if_pos hb]]
    exact ci
   obtain ⟨g',p1,p2,p3⟩:=cr.put og.wf (n:=256) (vs:=iL 256 (upto l)) (iL_len _ _).symm (iL_len _ _) (iL_cell _ _)
   refine ⟨g',?_,og.trans (p3.old (Nat.le_refl _))⟩
   have c2:decide (((256:Nat):Int)<256)=false:=rfl
   simp only [zap.l8,zap.c8,zap.k8,c2,cond_false,zap.r11,zap.c11,ci'.ldA (iL_len _ _).symm,jaf,p1,jaj,zap.ret,p2.ldA (iL_len _ _).symm]
   rfl
end Go.Proofs.YtcmhoboglapbdaaDoor
namespace Go.Proofs.YtcmhoboglapbdaaDoor
open Go Ev
noncomputable def insM(x:Row):List Row→List Row
 | []=>[x]
 | y :: l=>if cmpN y.id x.id<0 then y :: insM x l else x :: y :: l
noncomputable def sortM(l:List Row):List Row:=l.foldl (fun m x=>insM x m) []
theorem insM_mem{x r:Row}:∀ {l:List Row},r∈insM x l→r=x∨r∈l:=by
 intro l
 induction l with
 | nil=>intro h;simp [insM] at h;exact .inl h
 | cons y l ih =>
  intro h
  unfold insM at h
  split at h
  ·rcases List.mem_cons.1 h with rfl | h
   ·exact .inr (by simp)
   ·rcases ih h with rfl | h
    ·exact .inl rfl
    ·exact .inr (by simp [h])
  ·rcases List.mem_cons.1 h with rfl | h
   ·exact .inl rfl
   ·exact .inr h
theorem insM_len(x:Row):∀ (l:List Row),(insM x l).length=l.length+1:=by
 intro l
 induction l with
 | nil=>rfl
 | cons y l ih =>
  unfold insM
  split
  ·rw [List.length_cons,ih,List.length_cons]
  ·rfl
theorem sortM_len(l:List Row):(sortM l).length=l.length:=by
 have key:∀ (l m:List Row),(l.foldl (fun m x=>insM x m) m).length=m.length+l.length:=by
  intro l
  induction l with
  | nil=>intro m;rfl
  | cons x l ih=>intro m;rw [List.foldl_cons,ih,insM_len,List.length_cons];omega
 have:=key l []
 rw [List.length_nil,Nat.zero_add] at this
 exact this
theorem sortM_ok{l:List Row}(h:∀ r∈l,r.ok):∀ r∈sortM l,r.ok:=by
 have key:∀ (l m:List Row),(∀ r∈l,r.ok)→(∀ r∈m,r.ok)→∀ r∈l.foldl (fun m x=>insM x m) m,r.ok:=by
  intro l
  induction l with
  | nil=>intro m _ hm;exact hm
  | cons x l ih =>
   intro m hl hm
   rw [List.foldl_cons]
   refine ih _ (fun r hr=>hl r (by simp [hr])) (fun r hr=>?_)
   rcases insM_mem hr with rfl | hr
   ·exact hl _ (by simp)
   ·exact hm _ hr
 exact key l [] h (fun r hr=>by cases hr)
theorem rowsL_drop:∀ {l:List Row} (i:Nat),(∀ r∈l,r.ok)→(rowsL l).drop (i*34)=rowsL (l.drop i):=by
 intro l
 induction l with
 | nil=>intro i _;cases i <;> rfl
 | cons x l ih =>
  intro i h
  have hx:=jav (h x (by simp))
  cases i with
  | zero=>rw [Nat.zero_mul];rfl
  | succ i =>
   rw [jch,List.drop_append,List.drop_of_length_le (by omega),List.nil_append,show (i+1)*34-(rowL x).length=i*34 by omega,List.drop_succ_cons]
   exact ih i (fun r hr=>h r (by simp [hr]))
theorem rowsL_take:∀ {l:List Row} (i:Nat),(∀ r∈l,r.ok)→(rowsL l).take (i*34)=rowsL (l.take i):=by
 intro l
 induction l with
 | nil=>intro i _;cases i <;> simp [rowsL]
 | cons x l ih =>
  intro i h
  have hx:=jav (h x (by simp))
  cases i with
  | zero=>rw [Nat.zero_mul];rfl
  | succ i =>
   rw [jch,List.take_append,List.take_of_length_le (by omega),show (i+1)*34-(rowL x).length=i*34 by omega,List.take_succ_cons,jch,ih i (fun r hr=>h r (by simp [hr]))]
theorem Rs.cut{h:AH}{v:V}{ns:List Row}(hb:Rs h v ns){lo hi:Option V}{l u:Nat}(hhi:(hi=none∧u=ns.length)∨hi=some (.int .i64 u))(hlo:(lo=none∧l=0)∨lo=some (.int .i64 l))(hlu:l≤u)(hun:u≤ns.length) :
  ∃ v',slS 34 v lo hi none=some v'∧Rs h v' ((ns.drop l).take (u-l)):=by
 obtain ⟨v',h1,h2⟩:=hb.1.cut (by omega) hhi hlo hlu hun
 have hd:∀ r∈ns.drop l,r.ok:=fun r hr=>hb.2 r (List.mem_of_mem_drop hr)
 refine ⟨v',h1,?_,fun x hx=>hb.2 x (List.mem_of_mem_drop (List.mem_of_mem_take hx))⟩
 have hl:((ns.drop l).take (u-l)).length=u-l:=by rw [List.length_take,List.length_drop];omega
 rw [hl]
 rw [rowsL_drop l hb.2,rowsL_take (u-l) hd] at h2
 exact h2
end Go.Proofs.YtcmhoboglapbdaaDoor
namespace Go.Proofs.YtcmhoboglapbdaaDoor
open Go Ev
theorem grow_spec{F n:Nat}{h:AH}(hw:h.WF){k:Nat}(hk:k≤140737488355000) :
  ∃ v h',runC (EE F) (n+1) nzbm [.nilslice,.int .i64 (k:Int)] h=some (v,h')∧((k=0∧v=.nilslice)∨(0<k∧v=.slice ⟨h.next,k*1,0⟩ 0 k false 1∧jal h' h.next jai (jaa (List.replicate k 0))))∧Old h.next h h':=by
 rw [tzbm]
 have d1:decide ((k:Int)<0)=false:=by rw [decide_eq_false_iff_not];omega
 have w0:IntKind.wrap .i64 (0-0)=0:=rfl
 have w1:IntKind.wrap .i64 ((k:Int)-0)=(k:Int):=by rw [jao (by omega) (by omega)];omega
 have cN:capS .nilslice=some (.int .i64 0):=rfl
 have lN:lenS .nilslice=some (.int .i64 0):=rfl
 have sN:slS 1 .nilslice none (some (.int .i64 0)) none=some .nilslice:=rfl
 by_cases h0:k=0
 ·subst h0
  have d2:decide (((0:Nat):Int)>0)=false:=rfl
  refine ⟨.nilslice,h,?_,.inl ⟨rfl,rfl⟩,Old.refl hw _⟩
  simp only [zbm.fn,zbm.c0,zbm.k0,zbm.c1,d1,zbm.k1,cond_false,zbm.r3,zbm.c3,cN,lN,jag,wr,w0,w1,d2,zbm.k4,zbm.r6,zbm.c6]
  rfl
 ·have d2:decide ((k:Int)>0)=true:=by rw [decide_eq_true_eq];omega
  obtain ⟨g1,g2,g3⟩:=add_cells hw (Arr.make (k*1) [V.int .u8 0]) jai (cs:=jaa (List.replicate k 0)) (by rw [jad,List.length_replicate,Nat.mul_one];rfl)
   (by
    intro j
    rw [Arr.get_make,jck,List.getElem?_replicate,Nat.mul_one]
    by_cases hj:j<k
    ·rw [if_pos hj,if_pos hj,List.length_singleton,Nat.mod_one];rfl
    ·rw [if_neg hj,if_neg hj];rfl) (jap _)
  have e1:appZ 1 1 [V.int .u8 0] jai .nilslice (k:Int) h=some (.slice ⟨h.next,k*1,0⟩ k k false 1,h.add ⟨Arr.make (k*1) [V.int .u8 0],0,0,false,jai⟩):=by
   show (if 0<1∧(0:Int)≤(k:Int)∧capW 1 (k:Int).toNat=true then _ else _)=_
   rw [if_pos ⟨by omega,by omega,by rw [Int.toNat_natCast];exact jci hk⟩,Int.toNat_natCast,if_neg h0]
  have e2:slS 1 (.slice ⟨h.next,k*1,0⟩ k k false 1) none (some (.int .i64 0)) none=some (.slice ⟨h.next,k*1,0⟩ 0 k false 1):=by
   simp [slS,cutV,bnd,h0]
  refine ⟨_,_,?_,.inr ⟨by omega,rfl,g1⟩,g3⟩
  simp only [zbm.fn,zbm.c0,zbm.k0,zbm.c1,d1,zbm.k1,cond_false,zbm.r3,zbm.c3,cN,lN,jag,wr,w0,w1,d2,zbm.k4,cond_true,zbm.c5,sN,jae,e1,jam,e2,zbm.r6,zbm.c6]
  rfl
def Room(h:AH)(b k:Nat)(xs:List Nat):Prop:=xs.length≤k∧jal h b jai (jaa (xs++List.replicate (k-xs.length) 0))
theorem app_room{h:AH}{b k:Nat}{xs ys:List Nat}{y:V}(hr:Room h b k xs)(hw:h.WF)(hy:Bs h y ys)(hl:xs.length+ys.length≤k) :
  ∃ h',app 1 1 jai (.slice ⟨b,k*1,0⟩ xs.length k false 1) y h=some (.slice ⟨b,k*1,0⟩ (xs.length+ys.length) k false 1,h')∧Room h' b k (xs++ys)∧Old b h h':=by
 obtain ⟨hx,hc⟩:=hr
 obtain ⟨s1,s2⟩:=hy.src
 have e0:(jaa ys).length=ys.length*1:=by rw [jad,Nat.mul_one]
 by_cases h0:ys.length=0
 ·obtain rfl:ys=[]:=List.eq_nil_of_length_eq_zero h0
  refine ⟨h,?_,⟨by simpa using hx,by simpa using hc⟩,Old.refl hw _⟩
  have s1':srcLen y=some 0:=s1
  have s2':srcCells y 1 0 h=some []:=s2
  simp [app,s1',s2',hx]
 ·obtain ⟨h',w1,w2,w3,w4,w5,w6⟩:=hc.write hw (L:=k*1) (o:=xs.length*1) (vs:=jaa ys) (by rw [jad,List.length_append,List.length_replicate];omega) (jap _) (by rw [jad,jad,List.length_append,List.length_replicate];omega)
  refine ⟨h',?_,⟨by rw [List.length_append];exact hl,?_⟩,⟨by omega,fun b' hb'=>w5 b' (by omega),by rw [w4];omega,w6⟩⟩
  ·simp only [app,s1,s2,e0,if_true,if_pos hl,if_neg h0,Nat.zero_add,w1,Option.map_some]
  ·have hput:putL (jaa ys) (xs.length*1) (jaa (xs++List.replicate (k-xs.length) 0))=jaa (xs++ys++List.replicate (k-(xs++ys).length) 0):=by
    unfold putL
    rw [Nat.mul_one,byteL_take,jad,byteL_drop,← byteL_append,← byteL_append,List.take_left',List.drop_append,List.drop_of_length_le (by omega),List.nil_append,List.drop_replicate,List.length_append]
    ·congr 3;omega
    ·rfl
   rw [← hput];exact w2
theorem bytesEqual_spec{F n:Nat}{h:AH}{p q:V}{l m:List Nat}(hp:Bs h p l)(hq:Bs h q m):runC (EE F) (n+1) nzac [p,q] h=some (.bool (decide (l=m)),h):=by
 rw [tzac]
 show zac.c0 _ _ _ _=_
 simp only [zac.c0,hp.toS,cZ_some,hq.toS,natsEq_eq]
 rfl
theorem flat_take{α:Type}{ls:List (List α)}{i:Nat}{l:List α}(h:ls[i]?=some l):(ls.take (i+1)).flatten=(ls.take i).flatten++l:=by
 rw [← jar h,List.flatten_append];simp
theorem flat_take_len{α:Type}(ls:List (List α))(i:Nat):(ls.take i).flatten.length≤ls.flatten.length:=by
 have:=congrArg List.length (congrArg List.flatten (List.take_append_drop i ls))
 rw [List.flatten_append,List.length_append] at this
 omega
theorem concat_spec{F n:Nat}{h:AH}(hw:h.WF){p:V}{vs:List V}{ls:List (List Nat)}(hp:Sl 1 h p vs.length vs)(hlen:vs.length=ls.length)(hs:∀ (i:Nat) (v:V) (l:List Nat),vs[i]?=some v→ls[i]?=some l→Bs h v l)(hl:ls.flatten.length≤140737488350000)(hv:vs.length≤140737488350000)(hF:vs.length<F) :
  ∃ v h',runC (EE F) (n+2) nzbl [p] h=some (v,h')∧Own h.next 1 jai h' v ls.flatten.length (jaa ls.flatten)∧Old h.next h h':=by
 rw [tzbl]
 have e0:zbl.fn (cx F (n+1)) p h=zbl.k2 (cx F (n+1)) (zbl.r9 (cx F (n+1)) zbl.ret zbl.ret) zbl.ret (p,0,p,(vs.length:Int),0,()) h:=by
  simp only [zbl.fn,zbl.c0,zbl.k1,zbl.c2,hp.len,jag]
 rw [e0]
 show ∃ v h',jaw zbl.P6 F (fun t h n'=>zbl.l3 (cx F (n+1)) n' (zbl.r9 (cx F (n+1)) zbl.ret zbl.ret) zbl.ret t h) (p,0,p,(vs.length:Int),0,()) h=some (v,h')∧_
 have at_:∀ i,i<vs.length→∃ (v:V) (l:List Nat),vs[i]?=some v∧ls[i]?=some l∧Bs h v l:=fun i hi=>⟨_,_,List.getElem?_eq_getElem hi,List.getElem?_eq_getElem (by omega),hs i _ _ (List.getElem?_eq_getElem hi) (List.getElem?_eq_getElem (by omega))⟩
 refine jah (S:=zbl.P6) (out:=fun x=>∃ v h',x=some (v,h')∧Own h.next 1 jai h' v ls.flatten.length (jaa ls.flatten)∧Old h.next h h')
  (fun k s g=>∃ i:Nat,i+k=vs.length∧s=(p,(((ls.take i).flatten.length:Nat):Int),p,(vs.length:Int),(i:Int),())∧g=h) ?_ ?_ vs.length F _ _ ⟨0,by omega,rfl,rfl⟩ hF
 ·rintro k s g n' ⟨i,hi,rfl,rfl⟩
  obtain ⟨v,l,hv1,hl1,hb⟩:=at_ i (by omega)
  obtain ⟨a,u1,u2⟩:=hp.ix1 (i:=(i:Int)) (by omega) (by omega) (x:=v) (by rw [Int.toNat_natCast];exact hv1)
  have ft:=congrArg List.length (flat_take hl1)
  rw [List.length_append] at ft
  have fl:=flat_take_len ls (i+1)
  have c1:decide ((i:Int)<(vs.length:Int))=true:=by rw [decide_eq_true_eq];omega
  have i3:IntKind.wrap .i64 ((i:Int)+1)=((i+1:Nat):Int):=by rw [jao (by omega) (by omega)];omega
  have i4:IntKind.wrap .i64 ((((ls.take i).flatten.length:Nat):Int)+(l.length:Int))=(((ls.take (i+1)).flatten.length:Nat):Int):=by rw [jao (by omega) (by omega)];omega
  have c2:decide ((((ls.take (i+1)).flatten.length:Nat):Int)<0)=false:=by rw [decide_eq_false_iff_not];omega
  refine .inl ⟨_,g,?_,i+1,by omega,rfl,rfl⟩
  simp only [zbl.l3,zbl.c3,zbl.k3,zbl.r4,zbl.c4,zbl.k6,zbl.r8,zbl.c8,c1,cond_true,u1,jae,ld_of u2,hb.1.len,jag,wr,i4,c2,cond_false,i3]
 ·rintro s g n' ⟨i,hi,rfl,rfl⟩
  obtain rfl:i=vs.length:=by omega
  have ht:(ls.take vs.length).flatten=ls.flatten:=by rw [hlen,List.take_length]
  rw [ht]
  have c1:decide ((vs.length:Int)<(vs.length:Int))=false:=by rw [decide_eq_false_iff_not];omega
  obtain ⟨v0,h0,e1,hv0,o0⟩:=grow_spec (F:=F) (n:=n) hw (k:=ls.flatten.length) (by omega)
  have e2:zbl.l3 (cx F (n+1)) n' (zbl.r9 (cx F (n+1)) zbl.ret zbl.ret) zbl.ret (p,((ls.flatten.length:Nat):Int),p,(vs.length:Int),(vs.length:Int),()) g
    = jaw zbl.P22 F (fun t h n'=>zbl.l11 (cx F (n+1)) n' (zbl.r15 (cx F (n+1)) zbl.ret zbl.ret) zbl.ret t h) (v0,p,(vs.length:Int),0,()) h0:=by
   simp only [zbl.l3,zbl.c3,zbl.k3,zbl.r9,zbl.c9,zbl.k9,zbl.c10,zbl.k10,c1,cond_false,cxC,e1,jam,hp.len,jag]
   rfl
  rw [e2]
  refine jah (S:=zbl.P22) (out:=fun x=>∃ v h',x=some (v,h')∧Own g.next 1 jai h' v ls.flatten.length (jaa ls.flatten)∧Old g.next g h')
   (fun k s f=>∃ (i:Nat) (v:V),i+k=vs.length∧s=(v,p,(vs.length:Int),(i:Int),())∧((ls.flatten.length=0∧Own g.next 1 jai f v 0 [])∨(0<ls.flatten.length∧v=.slice ⟨g.next,ls.flatten.length*1,0⟩ (ls.take i).flatten.length ls.flatten.length false 1∧Room f g.next ls.flatten.length (ls.take i).flatten))∧Old g.next g f) ?_ ?_ vs.length F _ _
   ⟨0,v0,by omega,rfl,?_,o0⟩ hF
  ·rintro k s f n'' ⟨i,v,hi,rfl,hst,of⟩
   obtain ⟨x,l,hv1,hl1,hb⟩:=at_ i (by omega)
   obtain ⟨a,u1,u2⟩:=(hp.old hw of).ix1 (i:=(i:Int)) (by omega) (by omega) (x:=x) (by rw [Int.toNat_natCast];exact hv1)
   have hb':=hb.old hw of
   have ft:=flat_take hl1
   have ftl:=congrArg List.length ft
   rw [List.length_append] at ftl
   have fl:=flat_take_len ls (i+1)
   have c2:decide ((i:Int)<(vs.length:Int))=true:=by rw [decide_eq_true_eq];omega
   have i3:IntKind.wrap .i64 ((i:Int)+1)=((i+1:Nat):Int):=by rw [jao (by omega) (by omega)];omega
   have fin:∀ v' f',app 1 1 jai v x f=some (v',f')→zbl.l11 (cx F (n+1)) n'' (zbl.r15 (cx F (n+1)) zbl.ret zbl.ret) zbl.ret (v,p,(vs.length:Int),(i:Int),()) f=n'' (v',p,(vs.length:Int),((i+1:Nat):Int),()) f':=by
    intro v' f' e
    simp only [zbl.l11,zbl.c11,zbl.k11,zbl.r12,zbl.c12,zbl.r14,zbl.c14,c2,cond_true,u1,jae,ld_of u2,e,jam,wr,i3]
   rcases hst with ⟨hz,ho⟩ | ⟨hz,rfl,hr⟩
   ·obtain rfl:l=[]:=List.eq_nil_of_length_eq_zero (by omega)
    obtain ⟨v',f',a1,a2,a3,_⟩:=jbc (l:=[]) ho hb' of.wf of.next (by decide)
    exact .inl ⟨_,f',fin v' f' a1,i+1,v',by omega,rfl,.inl ⟨hz,a2⟩,of.trans a3⟩
   ·obtain ⟨f',a1,a2,a3⟩:=app_room hr of.wf hb' (by omega)
    rw [← ft] at a2
    refine .inl ⟨_,f',fin _ f' a1,i+1,_,by omega,rfl,.inr ⟨hz,?_,a2⟩,of.trans a3⟩
    rw [ftl]
  ·rintro s f n'' ⟨i,v,hi,rfl,hst,of⟩
   obtain rfl:i=vs.length:=by omega
   rw [ht] at hst
   have c2:decide ((vs.length:Int)<(vs.length:Int))=false:=by rw [decide_eq_false_iff_not];omega
   refine ⟨v,f,?_,?_,of⟩
   ·simp only [zbl.l11,zbl.c11,zbl.k11,zbl.r15,zbl.c15,c2,cond_false]
    rfl
   ·rcases hst with ⟨hz,ho⟩ | ⟨hz,rfl,hr⟩
    ·rw [List.eq_nil_of_length_eq_zero hz];exact ho
    ·have hc:=hr.2
     rw [Nat.sub_self,List.replicate_zero,List.append_nil] at hc
     refine ⟨by rw [jad,Nat.mul_one],.inr ⟨g.next,_,false,[],rfl,Nat.le_refl _,Nat.le_refl _,by rw [List.append_nil,jad,Nat.mul_one],fun _=>rfl,by rw [List.append_nil];exact hc⟩⟩
  ·rcases hv0 with ⟨hz,rfl⟩ | ⟨hz,rfl,hc⟩
   ·exact .inl ⟨hz,own_nil _ _ _ _⟩
   ·refine .inr ⟨hz,rfl,Nat.zero_le _,?_⟩
    simpa using hc
end Go.Proofs.YtcmhoboglapbdaaDoor
namespace Go.Proofs.YtcmhoboglapbdaaDoor
open Go Ev
def jbd:List Nat:=[255,116,79,99,0,0,0,2]
def fansM(l:List Row)(n:Nat):List Nat:=(List.range n).flatMap fun b=>bigL (upto l b) 4
def headM(l:List Row):List Nat:=jbd++fansM l 256
def idsM(l:List Row):List Nat:=l.flatMap fun r=>r.id
def jbx(l:List Row):List Nat:=l.flatMap fun r=>bigL r.crc 4
def atsM:Nat→List (Row×Bool)→List Nat
 | _,[]=>[]
 | k,x :: l=>if x.2 then bigL (2147483648+k) 4++atsM (k+1) l else bigL x.1.pos 4++atsM k l
def jcr(l:List (Row×Bool)):List Nat:=l.flatMap fun x=>if x.2 then bigL x.1.pos 8 else []
def nfar(l:List (Row×Bool)):Nat:=l.countP fun x=>x.2
def bodyM(l:List (Row×Bool))(pack:List Nat):List Nat:=headM (l.map (·.1))++idsM (l.map (·.1))++jbx (l.map (·.1))++atsM 0 l++(jcr l++pack)
noncomputable def jbg(l:List (Row×Bool))(pack:List Nat):List Nat:=bodyM l pack++sumM (bodyM l pack)
def isFar(r:Row):Bool:=decide (2147483648≤r.pos)
def jbr(l:List Row):List (Row×Bool):=l.map fun r=>(r,isFar r)
theorem flags_fst(l:List Row):(jbr l).map (·.1)=l:=by
 unfold jbr;rw [List.map_map];exact (List.map_congr_left fun x _=>rfl).trans (List.map_id l)
theorem atsM_snoc:∀ (l:List (Row×Bool)) (k:Nat) (x:Row×Bool),atsM k (l++[x])=atsM k l++(if x.2 then bigL (2147483648+(k+nfar l)) 4 else bigL x.1.pos 4):=by
 intro l
 induction l with
 | nil =>
  intro k x
  show (if x.2=true then _++[] else _++[])=[]++(if x.2 then bigL (2147483648+(k+0)) 4 else _)
  rw [List.append_nil,List.append_nil,List.nil_append,Nat.add_zero]
 | cons y l ih =>
  intro k x
  rw [List.cons_append]
  unfold atsM
  have hn:nfar (y :: l)=nfar l+if y.2=true then 1 else 0:=List.countP_cons
  by_cases hy:y.2=true
  ·rw [if_pos hy,if_pos hy,ih,hn,if_pos hy,List.append_assoc,show k+1+nfar l=k+(nfar l+1) by omega]
  ·rw [if_neg hy,if_neg hy,ih,hn,if_neg hy,List.append_assoc,Nat.add_zero]
theorem farsM_snoc(l:List (Row×Bool))(x:Row×Bool):jcr (l++[x])=jcr l++(if x.2 then bigL x.1.pos 8 else []):=by
 unfold jcr;rw [List.flatMap_append];simp
theorem farsM_len(l:List (Row×Bool)):(jcr l).length=8*nfar l:=by
 induction l with
 | nil=>rfl
 | cons x l ih =>
  have hn:nfar (x :: l)=nfar l+if x.2=true then 1 else 0:=List.countP_cons
  have hf:jcr (x :: l)=(if x.2 then bigL x.1.pos 8 else [])++jcr l:=rfl
  rw [hf,hn,List.length_append,ih]
  by_cases hx:x.2=true
  ·rw [if_pos hx,if_pos hx,jbv];omega
  ·rw [if_neg hx,if_neg hx];simp
theorem nfar_snoc(l:List (Row×Bool))(x:Row×Bool):nfar (l++[x])=nfar l+if x.2=true then 1 else 0:=by
 unfold nfar;rw [List.countP_append];simp [List.countP_cons]
theorem nfar_le(l:List (Row×Bool)):nfar l≤l.length:=List.countP_le_length
theorem atsM_len:∀ (l:List (Row×Bool)) (k:Nat),(atsM k l).length=4*l.length:=by
 intro l
 induction l with
 | nil=>intro k;rfl
 | cons x l ih =>
  intro k
  unfold atsM
  by_cases hx:x.2=true
  ·rw [if_pos hx,List.length_append,jbv,ih,List.length_cons];omega
  ·rw [if_neg hx,List.length_append,jbv,ih,List.length_cons];omega
theorem fansM_succ(l:List Row)(n:Nat):fansM l (n+1)=fansM l n++bigL (upto l n) 4:=by
 unfold fansM;rw [List.range_succ,List.flatMap_append];simp
theorem fansM_len(l:List Row):∀ n,(fansM l n).length=4*n:=by
 intro n
 induction n with
 | zero=>rfl
 | succ n ih=>rw [fansM_succ,List.length_append,ih,jbv];omega
theorem headM_len(l:List Row):(headM l).length=1032:=by
 unfold headM;rw [List.length_append,fansM_len];rfl
theorem crcsM_snoc(l:List Row)(r:Row):jbx (l++[r])=jbx l++bigL r.crc 4:=by unfold jbx;rw [List.flatMap_append];simp
theorem idsM_snoc(l:List Row)(r:Row):idsM (l++[r])=idsM l++r.id:=by unfold idsM;rw [List.flatMap_append];simp
theorem crcsM_len(l:List Row):(jbx l).length=4*l.length:=by
 induction l with
 | nil=>rfl
 | cons r l ih =>
  have e:jbx (r :: l)=bigL r.crc 4++jbx l:=rfl
  rw [e,List.length_append,jbv,ih,List.length_cons];omega
theorem idsM_len{l:List Row}(h:∀ r∈l,r.ok):(idsM l).length=32*l.length:=by
 induction l with
 | nil=>rfl
 | cons r l ih =>
  have e:idsM (r :: l)=r.id++idsM l:=rfl
  rw [e,List.length_append,(h r (by simp)).1,ih (fun x hx=>h x (by simp [hx])),List.length_cons];omega
theorem flags_snoc(l:List Row)(r:Row):jbr (l++[r])=jbr l++[(r,isFar r)]:=by unfold jbr;rw [List.map_append];rfl
theorem flags_len(l:List Row):(jbr l).length=l.length:=by unfold jbr;rw [List.length_map]
theorem magicM_byte:∀ x∈jbd,x<256:=by decide
theorem jax{a b:List Nat}(ha:∀ x∈a,x<256)(hb:∀ x∈b,x<256):∀ x∈a++b,x<256:=by
 intro x hx
 rcases List.mem_append.1 hx with h | h
 ·exact ha x h
 ·exact hb x h
theorem fansM_byte(l:List Row)(n:Nat):∀ x∈fansM l n,x<256:=by
 intro x hx
 obtain ⟨b,_,hb⟩:=List.mem_flatMap.1 hx
 exact bigL_byte _ _ x hb
theorem headM_byte(l:List Row):∀ x∈headM l,x<256:=jax magicM_byte (fansM_byte l 256)
theorem idsM_byte{l:List Row}(h:∀ r∈l,r.ok):∀ x∈idsM l,x<256:=by
 intro x hx
 obtain ⟨r,hr,hb⟩:=List.mem_flatMap.1 hx
 exact (h r hr).2.1 x hb
theorem crcsM_byte(l:List Row):∀ x∈jbx l,x<256:=by
 intro x hx
 obtain ⟨b,_,hb⟩:=List.mem_flatMap.1 hx
 exact bigL_byte _ _ x hb
theorem atsM_byte:∀ (l:List (Row×Bool)) (k:Nat),∀ x∈atsM k l,x<256:=by
 intro l
 induction l with
 | nil=>intro k x hx;cases hx
 | cons y l ih =>
  intro k
  unfold atsM
  split
  ·exact jax (bigL_byte _ _) (ih _)
  ·exact jax (bigL_byte _ _) (ih _)
theorem farsM_byte(l:List (Row×Bool)):∀ x∈jcr l,x<256:=by
 intro x hx
 obtain ⟨y,_,hb⟩:=List.mem_flatMap.1 hx
 split at hb
 ·exact bigL_byte _ _ x hb
 ·cases hb
theorem bodyM_byte{l:List (Row×Bool)}(h:∀ x∈l,x.1.ok){pack:List Nat}(hp:∀ x∈pack,x<256):∀ x∈bodyM l pack,x<256:=by
 have h':∀ r∈l.map (·.1),r.ok:=by
  intro r hr
  obtain ⟨x,hx,rfl⟩:=List.mem_map.1 hr
  exact h x hx
 exact jax (jax (jax (jax (headM_byte _) (idsM_byte h')) (crcsM_byte _)) (atsM_byte _ _)) (jax (farsM_byte _) hp)
theorem bodyM_len{l:List (Row×Bool)}(h:∀ x∈l,x.1.ok){pack:List Nat}(hp:pack.length=32):(bodyM l pack).length=1032+40*l.length+8*nfar l+32:=by
 have h':∀ r∈l.map (·.1),r.ok:=by
  intro r hr
  obtain ⟨x,hx,rfl⟩:=List.mem_map.1 hr
  exact h x hx
 unfold bodyM
 simp only [List.length_append,headM_len,idsM_len h',crcsM_len,atsM_len,farsM_len,hp,List.length_map]
 omega
theorem flags_ok{l:List Row}(h:∀ r∈l,r.ok):∀ x∈jbr l,x.1.ok:=by
 intro x hx
 obtain ⟨r,hr,rfl⟩:=List.mem_map.1 hx
 exact h r hr
theorem buildM_byte{l:List (Row×Bool)}(h:∀ x∈l,x.1.ok){pack:List Nat}(hp:∀ x∈pack,x<256):∀ x∈jbg l pack,x<256:=jax (bodyM_byte h hp) (sumM_byte _)
end Go.Proofs.YtcmhoboglapbdaaDoor
namespace Go.Proofs.YtcmhoboglapbdaaDoor
open Go Ev
theorem bld_dup{F m:Nat}{out:Res→Prop}{Jn:V×V×Unit→AH→Res}{Jr:V×V×Unit→AH→Res}{q v:V}{h:AH}{l:List Row}(hp:Rs h v l)(hl:l.length≤2932031007317)(hF:l.length<F)
  (yes:jcp l=true→out (Jr (.nilslice,.int .i64 8,()) h)) (no:jcp l=false→out (Jn (q,v,()) h)):out (zaj.k5 (cx F m) Jn Jr (q,v,1,()) h):=by
 show out (jaw zaj.P12 F (fun t h n'=>zaj.l6 (cx F m) n' Jn Jr t h) (q,v,1,()) h)
 refine jah (S:=zaj.P12) (out:=out)
  (fun k s g=>∃ i:Nat,1≤i∧i+k=max l.length 1∧s=(q,v,(i:Int),())∧g=h∧jcp l=jcp (l.drop (i-1))) ?_ ?_ (max l.length 1-1) F _ _ ⟨1,by omega,by omega,rfl,rfl,by simp⟩ (by omega)
 ·rintro k s g n' ⟨i,h1,hi,rfl,rfl,ht⟩
  have hlt:i<l.length:=by omega
  have g1:l[i]?=some l[i]:=List.getElem?_eq_getElem hlt
  have g0:l[i-1]?=some l[i-1]:=List.getElem?_eq_getElem (by omega)
  obtain ⟨a,u1,u2⟩:=hp.at g1
  obtain ⟨b,u3,u4⟩:=hp.at g0
  have k1:=hp.2 _ (List.getElem_mem hlt)
  have k0:=hp.2 _ (List.getElem_mem (show i-1<l.length by omega))
  have c1:decide ((i:Int)<(l.length:Int))=true:=by rw [decide_eq_true_eq];omega
  have i1:IntKind.wrap .i64 ((i:Int)-1)=((i-1:Nat):Int):=by rw [jao (by omega) (by omega)];omega
  have i3:IntKind.wrap .i64 ((i:Int)+1)=((i+1:Nat):Int):=by rw [jao (by omega) (by omega)];omega
  have e1:=eqId k1.1 k0.1
  have d:l.drop (i-1)=l[i-1] :: l[i] :: l.drop (i+1):=by
   rw [List.drop_eq_getElem_cons (by omega),show i-1+1=i by omega,List.drop_eq_getElem_cons hlt]
  have d':l.drop (i+1-1)=l[i] :: l.drop (i+1):=by rw [Nat.add_sub_cancel,List.drop_eq_getElem_cons hlt]
  rw [d] at ht
  by_cases hx:l[i].id=l[i-1].id
  ·refine .inr ?_
   have ht':jcp l=true:=by rw [ht];show (decide (l[i].id=l[i-1].id) || _)=true;rw [decide_eq_true hx];rfl
   rw [decide_eq_true hx] at e1
   simp only [zaj.l6,zaj.c6,zaj.k6,zaj.r8,zaj.c8,zaj.k8,zaj.c9,hp.1.len,jag,c1,cond_true,u1,jae,fA_at,rid_of u2 k1,jaf,wr,i1,u3,rid_of u4 k0,e1,bB_some]
   exact yes ht'
  ·refine .inl ⟨_,g,?_,i+1,by omega,by omega,rfl,rfl,?_⟩
   ·rw [decide_eq_false hx] at e1
    simp only [zaj.l6,zaj.c6,zaj.k6,zaj.r8,zaj.c8,zaj.k8,zaj.r7,zaj.c7,hp.1.len,jag,c1,cond_true,u1,jae,fA_at,rid_of u2 k1,jaf,wr,i1,u3,rid_of u4 k0,e1,bB_some,cond_false,i3]
   ·rw [ht,d'];show (decide (l[i].id=l[i-1].id) || _)=_;rw [decide_eq_false hx];rfl
 ·rintro s g n' ⟨i,h1,hi,rfl,rfl,ht⟩
  have c1:decide ((i:Int)<(l.length:Int))=false:=by rw [decide_eq_false_iff_not];omega
  have ht':jcp l=false:=by
   rw [ht]
   have hd:(l.drop (i-1)).length≤1:=by rw [List.length_drop];omega
   cases hc:l.drop (i-1) with
   | nil=>rfl
   | cons a m =>
    rw [hc] at hd
    cases m with
    | nil=>rfl
    | cons b m=>simp at hd
  simp only [zaj.l6,zaj.c6,zaj.k6,hp.1.len,jag,c1,cond_false]
  exact no ht'
theorem jcg{x:Nat}(h:x<18446744073709551616):IntKind.wrap .u64 (x:Int)=(x:Int):=by rw [wr_u64];omega
theorem bld_fans{F m:Nat}(hF:300<F){out:Res→Prop}{Jn:V×V×V×Unit→AH→Res}{Jr:V×V×Unit→AH→Res}{q v p:V}{h:AH}{n0:Nat}{l:List Row}(hl:l.length≤4096)(hw:h.WF)(hn0:n0≤h.next)(hp:Own n0 1 jai h p jbd.length (jaa jbd))
  (fin:∀ p' h',Own n0 1 jai h' p' (headM l).length (jaa (headM l))→Old n0 h h'→out (Jn (q,v,p',()) h')) :
  out (zaj.k11 (cx F (m+1)) Jn Jr (q,v,p,iL 256 (upto l),0,()) h):=by
 show out (jaw zaj.P24 F (fun t h n'=>zaj.l12 (cx F (m+1)) n' Jn Jr t h) (q,v,p,iL 256 (upto l),0,()) h)
 refine jah (S:=zaj.P24) (out:=out)
  (fun k s g=>∃ (i:Nat) (p':V),i+k=256∧s=(q,v,p',iL 256 (upto l),(i:Int),())∧Own n0 1 jai g p' (jbd++fansM l i).length (jaa (jbd++fansM l i))∧Old n0 h g) ?_ ?_ 256 F _ _ ⟨0,p,rfl,rfl,by simpa [fansM] using hp,Old.refl hw _⟩ (by omega)
 ·rintro k s g n' ⟨i,p',hi,rfl,ho,og⟩
  have hx:i<256:=by omega
  have hu:=upto_le l i
  have hml:(jbd++fansM l i).length≤2000:=by rw [List.length_append,fansM_len];show 8+_≤_;omega
  obtain ⟨p2,g2,a1,a2,a3,_⟩:=big_spec (F:=F) (n:=m) (by omega) og.wf (Nat.le_trans hn0 og.next) ho (by omega) (v:=upto l i) (m:=4) (by omega)
  rw [List.append_assoc,← fansM_succ] at a2
  have c1:decide ((i:Int)<256)=true:=by rw [decide_eq_true_eq];omega
  have i3:IntKind.wrap .i64 ((i:Int)+1)=((i+1:Nat):Int):=by rw [jao (by omega) (by omega)];omega
  have e1:ixC 256 1 (iL 256 (upto l)) (i:Int)=some (.int .i64 ((upto l i:Nat):Int)):=by
   unfold ixC
   rw [if_pos (by omega),Int.toNat_natCast,Nat.mul_one,iL_get _ hx]
  have a1':runC (EE F) (m+1) nzan [p',.int .u64 ((upto l i:Nat):Int),.int .i64 4] g=some (p2,g2):=a1
  refine .inl ⟨_,g2,?_,i+1,p2,by omega,rfl,a2,og.trans a3⟩
  simp only [zaj.l12,zaj.c12,zaj.k12,zaj.r13,zaj.c13,zaj.r15,zaj.c15,c1,cond_true,e1,jag,wr,jcg (show upto l i<18446744073709551616 by omega),cxC,a1',jam,i3]
 ·rintro s g n' ⟨i,p',hi,rfl,ho,og⟩
  obtain rfl:i=256:=by omega
  have c1:decide (((256:Nat):Int)<256)=false:=rfl
  simp only [zaj.l12,zaj.c12,zaj.k12,c1,cond_false]
  exact fin p' g ho og
theorem row_sl{h:AH}{b e:Nat}{r:Row}(hc:jal h b e (rowL r))(hr:r.ok):∃ v,slA 32 1 (.ptr ⟨b,34,0+0⟩) none none none h=some v∧Bs h v r.id:=by
 have hl:=jav hr
 obtain ⟨k,k1,k2,k3,k4,k5,k6,k7,k8⟩:=id hc
 refine ⟨.slice ⟨b,34,0⟩ 32 32 true 1,?_,?_,hr.2.1⟩
 ·simp only [slA,k1]
  rw [if_pos ⟨by omega,by omega,trivial⟩]
  simp [cutV,bnd]
 ·rw [hr.1]
  refine ⟨by rw [jad,hr.1],.inr ⟨_,_,_,rfl,Nat.le_refl _,?_⟩⟩
  rw [hc.read hl.symm (by omega),rowL_id hr]
theorem bld_ids{F m:Nat}{out:Res→Prop}{Jn:V×V×V×Unit→AH→Res}{Jr:V×V×Unit→AH→Res}{q v p:V}{h:AH}{n0:Nat}{l:List Row}{x:List Nat}(hF:l.length<F)(hl:l.length≤4096)(hxl:x.length≤10000000)(hw:h.WF)(hn0:n0≤h.next)(hr:Rs h v l)
  (hv:∀ g,Old n0 h g→Rs g v l) (hp:Own n0 1 jai h p x.length (jaa x))
  (fin:∀ p' h',Own n0 1 jai h' p' (x++idsM l).length (jaa (x++idsM l))→Old n0 h h'→out (Jn (q,v,p',()) h')) :
  out (zaj.k16 (cx F m) Jn Jr (q,v,p,v,(l.length:Int),0,()) h):=by
 show out (jaw zaj.P34 F (fun t h n'=>zaj.l17 (cx F m) n' Jn Jr t h) (q,v,p,v,(l.length:Int),0,()) h)
 refine jah (S:=zaj.P34) (out:=out)
  (fun k s g=>∃ (i:Nat) (p':V),i+k=l.length∧s=(q,v,p',v,(l.length:Int),(i:Int),())∧Own n0 1 jai g p' (x++idsM (l.take i)).length (jaa (x++idsM (l.take i)))∧Old n0 h g) ?_ ?_ l.length F _ _ ⟨0,p,by omega,rfl,by simpa [idsM] using hp,Old.refl hw _⟩ hF
 ·rintro k s g n' ⟨i,p',hi,rfl,ho,og⟩
  have hlt:i<l.length:=by omega
  have hget:l[i]?=some l[i]:=List.getElem?_eq_getElem hlt
  have hk:=hr.2 _ (List.getElem_mem hlt)
  have hti:∀ r∈l.take i,r.ok:=fun r h'=>hr.2 r (List.mem_of_mem_take h')
  have hml:(idsM (l.take i)).length=32*i:=by rw [idsM_len hti,List.length_take];congr 1;omega
  obtain ⟨a,u1,u2⟩:=(hv g og).at hget
  obtain ⟨g1,t1,t2,t3,t4,t5⟩:=tmp_row og.wf hk jak
  obtain ⟨w,s1,s2⟩:=row_sl t3 hk
  obtain ⟨p2,g2,a1,a2,a3,_⟩:=jbc (ho.old og.wf t4) s2 t4.wf (Nat.le_trans hn0 (Nat.le_trans og.next t4.next)) (jci (by rw [List.length_append,hml,hk.1];omega))
  rw [List.append_assoc,← idsM_snoc,jar hget] at a2
  have c1:decide ((i:Int)<(l.length:Int))=true:=by rw [decide_eq_true_eq];omega
  have i3:IntKind.wrap .i64 ((i:Int)+1)=((i+1:Nat):Int):=by rw [jao (by omega) (by omega)];omega
  refine .inl ⟨_,g2,?_,i+1,p2,by omega,rfl,a2,(og.trans (t4.weak (Nat.le_trans hn0 og.next))).trans a3⟩
  simp only [zaj.l17,zaj.c17,zaj.k17,zaj.r18,zaj.c18,zaj.r20,zaj.c20,c1,cond_true,u1,jae,jbf u2,jaf,t1,t2,jaj,jbu,s1,a1,jam,wr,i3]
 ·rintro s g n' ⟨i,p',hi,rfl,ho,og⟩
  obtain rfl:i=l.length:=by omega
  rw [List.take_length] at ho
  have c1:decide ((l.length:Int)<(l.length:Int))=false:=by rw [decide_eq_false_iff_not];omega
  simp only [zaj.l17,zaj.c17,zaj.k17,c1,cond_false]
  exact fin p' g ho og
theorem bld_crcs{F m:Nat}{out:Res→Prop}{Jn:V×V×V×Unit→AH→Res}{Jr:V×V×Unit→AH→Res}{q v p:V}{h:AH}{n0:Nat}{l:List Row}{x:List Nat}(hF:l.length<F)(hF2:300<F)(hl:l.length≤4096)(hxl:x.length≤10000000)(hw:h.WF)(hn0:n0≤h.next)(hr:Rs h v l)
  (hv:∀ g,Old n0 h g→Rs g v l) (hp:Own n0 1 jai h p x.length (jaa x))
  (fin:∀ p' h',Own n0 1 jai h' p' (x++jbx l).length (jaa (x++jbx l))→Old n0 h h'→out (Jn (q,v,p',()) h')) :
  out (zaj.k21 (cx F (m+1)) Jn Jr (q,v,p,v,(l.length:Int),0,()) h):=by
 show out (jaw zaj.P44 F (fun t h n'=>zaj.l22 (cx F (m+1)) n' Jn Jr t h) (q,v,p,v,(l.length:Int),0,()) h)
 refine jah (S:=zaj.P44) (out:=out)
  (fun k s g=>∃ (i:Nat) (p':V),i+k=l.length∧s=(q,v,p',v,(l.length:Int),(i:Int),())∧Own n0 1 jai g p' (x++jbx (l.take i)).length (jaa (x++jbx (l.take i)))∧Old n0 h g) ?_ ?_ l.length F _ _ ⟨0,p,by omega,rfl,by simpa [jbx] using hp,Old.refl hw _⟩ hF
 ·rintro k s g n' ⟨i,p',hi,rfl,ho,og⟩
  have hlt:i<l.length:=by omega
  have hget:l[i]?=some l[i]:=List.getElem?_eq_getElem hlt
  have hk:=hr.2 _ (List.getElem_mem hlt)
  have hml:(jbx (l.take i)).length=4*i:=by rw [crcsM_len,List.length_take];congr 1;omega
  obtain ⟨a,u1,u2⟩:=(hv g og).at hget
  obtain ⟨g1,t1,t2,t3,t4,t5⟩:=tmp_row og.wf hk jak
  obtain ⟨p2,g2,a1,a2,a3,_⟩:=big_spec (F:=F) (n:=m) (by omega) t4.wf (Nat.le_trans hn0 (Nat.le_trans og.next t4.next)) (ho.old og.wf t4) (by rw [List.length_append,hml];omega) (v:=l[i].crc) (m:=4) (by omega)
  rw [List.append_assoc,← crcsM_snoc,jar hget] at a2
  have c1:decide ((i:Int)<(l.length:Int))=true:=by rw [decide_eq_true_eq];omega
  have i3:IntKind.wrap .i64 ((i:Int)+1)=((i+1:Nat):Int):=by rw [jao (by omega) (by omega)];omega
  have hcr:=hk.2.2.1
  have a1':runC (EE F) (m+1) nzan [p',.int .u64 ((l[i].crc:Nat):Int),.int .i64 4] g1=some (p2,g2):=a1
  refine .inl ⟨_,g2,?_,i+1,p2,by omega,rfl,a2,(og.trans (t4.weak (Nat.le_trans hn0 og.next))).trans a3⟩
  simp only [zaj.l22,zaj.c22,zaj.k22,zaj.r23,zaj.c23,zaj.r25,zaj.c25,c1,cond_true,u1,jae,jbf u2,jaf,t1,t2,jaj,jbu,row_crc t3 hk,jag,wr,jcg (show l[i].crc<18446744073709551616 by omega),cxC,a1',jam,i3]
 ·rintro s g n' ⟨i,p',hi,rfl,ho,og⟩
  obtain rfl:i=l.length:=by omega
  rw [List.take_length] at ho
  have c1:decide ((l.length:Int)<(l.length:Int))=false:=by rw [decide_eq_false_iff_not];omega
  simp only [zaj.l22,zaj.c22,zaj.k22,c1,cond_false]
  exact fin p' g ho og
theorem dis_nil(p:V):Dis p .nilslice:=fun _=>.inr trivial
theorem bld_ats{F m:Nat}{out:Res→Prop}{Jn:V×V×V×Unit→AH→Res}{Jr:V×V×Unit→AH→Res}{q v p:V}{h:AH}{n0:Nat}{l:List Row}{x:List Nat}(hF:l.length<F)(hF2:300<F)(hl:l.length≤4096)(hxl:x.length≤10000000)(hw:h.WF)(hn0:n0≤h.next)(hr:Rs h v l)
  (hv:∀ g,Old n0 h g→Rs g v l) (hp:Own n0 1 jai h p x.length (jaa x))
  (fin:∀ p' f' h',Own n0 1 jai h' p' (x++atsM 0 (jbr l)).length (jaa (x++atsM 0 (jbr l)))→Own n0 1 jai h' f' (jcr (jbr l)).length (jaa (jcr (jbr l)))→Old n0 h h'→out (Jn (q,p',f',()) h')) :
  out (zaj.k27 (cx F (m+1)) Jn Jr (q,p,.nilslice,v,(l.length:Int),0,()) h):=by
 show out (jaw zaj.P56 F (fun t h n'=>zaj.l28 (cx F (m+1)) n' Jn Jr t h) (q,p,.nilslice,v,(l.length:Int),0,()) h)
 refine jah (S:=zaj.P56) (out:=out)
  (fun k s g=>∃ (i:Nat) (p' f':V),i+k=l.length∧s=(q,p',f',v,(l.length:Int),(i:Int),())∧Own n0 1 jai g p' (x++atsM 0 (jbr (l.take i))).length (jaa (x++atsM 0 (jbr (l.take i)))) ∧
   Own n0 1 jai g f' (jcr (jbr (l.take i))).length (jaa (jcr (jbr (l.take i))))∧Dis p' f'∧Old n0 h g) ?_ ?_ l.length F _ _ ⟨0,p,.nilslice,by omega,rfl,by simpa [atsM,jbr] using hp,own_nil _ _ _ _,dis_nil _,Old.refl hw _⟩ hF
 ·rintro k s g n' ⟨i,p',f',hi,rfl,ho,hf,hd,og⟩
  have hlt:i<l.length:=by omega
  have hget:l[i]?=some l[i]:=List.getElem?_eq_getElem hlt
  have hk:=hr.2 _ (List.getElem_mem hlt)
  have hti:(l.take i).length=i:=by rw [List.length_take];omega
  have hml:(atsM 0 (jbr (l.take i))).length=4*i:=by rw [atsM_len,flags_len,hti]
  have hnf:=nfar_le (jbr (l.take i))
  rw [flags_len,hti] at hnf
  obtain ⟨a,u1,u2⟩:=(hv g og).at hget
  obtain ⟨g1,t1,t2,t3,t4,t5⟩:=tmp_row og.wf hk jak
  have og1:Old n0 h g1:=og.trans (t4.weak (Nat.le_trans hn0 og.next))
  have hn1:n0≤g1.next:=Nat.le_trans hn0 og1.next
  have c1:decide ((i:Int)<(l.length:Int))=true:=by rw [decide_eq_true_eq];omega
  have i3:IntKind.wrap .i64 ((i:Int)+1)=((i+1:Nat):Int):=by rw [jao (by omega) (by omega)];omega
  have ho1:=ho.old og.wf t4
  have hf1:=hf.old og.wf t4
  have sn:=(congrArg (fun t=>atsM 0 (jbr t)) (jar hget)).symm
  have sf:=(congrArg (fun t=>jcr (jbr t)) (jar hget)).symm
  simp only [flags_snoc,atsM_snoc,farsM_snoc,Nat.zero_add] at sn sf
  have hb:isFar l[i]=decide (2147483648≤l[i].pos):=rfl
  simp only [hb] at sn sf
  by_cases hx:l[i].pos<2147483648
  ·have hxd:decide (2147483648≤l[i].pos)=false:=by rw [decide_eq_false_iff_not];omega
   rw [hxd] at sn sf
   simp only [Bool.false_eq_true,if_false,List.append_nil] at sn sf
   obtain ⟨p2,g2,a1,a2,a3,a4⟩:=big_spec (F:=F) (n:=m) (by omega) t4.wf hn1 ho1 (by rw [List.length_append,hml];omega) (v:=l[i].pos) (m:=4) (by omega)
   rw [List.append_assoc,← sn] at a2
   obtain ⟨hf2,hd2⟩:=hf1.beside t4.wf hd a4
   rw [← sf] at hf2
   have c2:decide (((l[i].pos:Nat):Int)<2147483648)=true:=by rw [decide_eq_true_eq];omega
   have a1':runC (EE F) (m+1) nzan [p',.int .u64 ((l[i].pos:Nat):Int),.int .i64 4] g1=some (p2,g2):=a1
   refine .inl ⟨_,g2,?_,i+1,p2,f',by omega,rfl,a2,hf2,hd2,og1.trans a3⟩
   simp only [zaj.l28,zaj.c28,zaj.k28,zaj.r29,zaj.c29,zaj.k29,zaj.c30,zaj.k30,zaj.c31,zaj.r34,zaj.c34,c1,cond_true,u1,jae,jbf u2,jaf,t1,t2,jaj,jbu,row_pos t3 hk,jag,c2,cxC,a1',jam,wr,i3]
  ·have hxd:decide (2147483648≤l[i].pos)=true:=by rw [decide_eq_true_eq];omega
   rw [hxd] at sn sf
   simp only [if_true] at sn sf
   obtain ⟨p2,g2,a1,a2,a3,a4⟩:=big_spec (F:=F) (n:=m) (by omega) t4.wf hn1 ho1 (by rw [List.length_append,hml];omega) (v:=2147483648+nfar (jbr (l.take i))) (m:=4) (by omega)
   rw [List.append_assoc,← sn] at a2
   obtain ⟨hf2,hd2⟩:=hf1.beside t4.wf hd a4
   obtain ⟨f3,g3,b1,b2,b3,b4⟩:=big_spec (F:=F) (n:=m) (by omega) a3.wf (Nat.le_trans hn1 a3.next) hf2 (by rw [farsM_len];omega) (v:=l[i].pos) (m:=8) (by omega)
   rw [← sf] at b2
   obtain ⟨ho3,hd3⟩:=a2.beside a3.wf hd2.symm b4
   have c2:decide (((l[i].pos:Nat):Int)<2147483648)=false:=by rw [decide_eq_false_iff_not];omega
   have a1':runC (EE F) (m+1) nzan [p',.int .u64 ((2147483648+nfar (jbr (l.take i)):Nat):Int),.int .i64 4] g1=some (p2,g2):=a1
   have b1':runC (EE F) (m+1) nzan [f',.int .u64 ((l[i].pos:Nat):Int),.int .i64 8] g2=some (f3,g3):=b1
   have r3:ld (.ptr ⟨g.next,34,0+33⟩) g2=some (.int .u64 ((l[i].pos:Nat):Int)):=by
    have tc:jal g2 g.next jak (rowL l[i]):=t3.mono (a4.keep _ (by omega) (Classical.byContradiction fun hc=>by
     have:=ho.alive og.wf hc
     omega))
    exact row_pos tc hk
   have i5:IntKind.wrap .u64 (2147483648+IntKind.wrap .u64 (IntKind.wrap .i64 (((((jcr (jbr (l.take i))).length:Nat):Int)).tdiv 8)))=((2147483648+nfar (jbr (l.take i)):Nat):Int):=by
    rw [farsM_len]
    have e1:(((8*nfar (jbr (l.take i)):Nat):Int)).tdiv 8=((nfar (jbr (l.take i)):Nat):Int):=by
     rw [show ((8*nfar (jbr (l.take i)):Nat):Int)=8*((nfar (jbr (l.take i)):Nat):Int) by omega]
     exact Int.mul_tdiv_cancel_left _ (by decide)
    rw [e1,jao (by omega) (by omega),wr_u64,wr_u64];omega
   refine .inl ⟨_,g3,?_,i+1,p2,f3,by omega,rfl,ho3,b2,hd3.symm,(og1.trans a3).trans b3⟩
   simp only [zaj.l28,zaj.c28,zaj.k28,zaj.r29,zaj.c29,zaj.k29,zaj.c30,zaj.k30,zaj.r32,zaj.c32,zaj.r34,zaj.c34,c1,cond_true,u1,jae,jbf u2,jaf,t1,t2,jaj,jbu,row_pos t3 hk,jag,c2,cond_false,hf1.sl.len,wr,i5,cxC,a1',jam,r3,b1',i3]
 ·rintro s g n' ⟨i,p',f',hi,rfl,ho,hf,hd,og⟩
  obtain rfl:i=l.length:=by omega
  rw [List.take_length] at ho hf
  have c1:decide ((l.length:Int)<(l.length:Int))=false:=by rw [decide_eq_false_iff_not];omega
  simp only [zaj.l28,zaj.c28,zaj.k28,c1,cond_false]
  exact fin p' f' g ho hf og
end Go.Proofs.YtcmhoboglapbdaaDoor
namespace Go.Proofs.YtcmhoboglapbdaaDoor
open Go Ev
theorem cmpN_self:∀ l:List Nat,cmpN l l=0:=by
 intro l
 induction l with
 | nil=>rfl
 | cons a l ih=>rw [cmpN_eq',ih]
theorem cmpN_eq0:∀ {l m:List Nat},cmpN l m=0→l=m:=by
 intro l
 induction l with
 | nil =>
  intro m h
  cases m with
  | nil=>rfl
  | cons b m=>cases h
 | cons a l ih =>
  intro m h
  cases m with
  | nil=>cases h
  | cons b m =>
   rcases Nat.lt_trichotomy a b with hab | hab | hab
   ·rw [cmpN_lt _ _ hab] at h;cases h
   ·subst hab;rw [cmpN_eq'] at h;rw [ih h]
   ·rw [cmpN_gt _ _ hab] at h;cases h
theorem cmpN_le_cons{a b:Nat}{l m:List Nat}:cmpN (a :: l) (b :: m)≤0↔a<b∨(a=b∧cmpN l m≤0):=by
 rcases Nat.lt_trichotomy a b with h | h | h
 ·rw [cmpN_lt _ _ h];exact ⟨fun _=>.inl h,fun _=>by decide⟩
 ·subst h;rw [cmpN_eq'];exact ⟨fun h=>.inr ⟨rfl,h⟩,fun h=>by rcases h with h | h;exact absurd h (Nat.lt_irrefl _);exact h.2⟩
 ·rw [cmpN_gt _ _ h];exact ⟨fun h=>absurd h (by decide),fun h=>by omega⟩
theorem cmpN_trans:∀ {a b c:List Nat},cmpN a b≤0→cmpN b c≤0→cmpN a c≤0:=by
 intro a
 induction a with
 | nil =>
  intro b c _ _
  cases c with
  | nil=>decide
  | cons z c=>exact (by decide:(-1:Int)≤0)
 | cons x a ih =>
  intro b c h1 h2
  cases b with
  | nil=>exact absurd h1 (by decide:¬(1:Int)≤0)
  | cons y b =>
   cases c with
   | nil=>exact absurd h2 (by decide:¬(1:Int)≤0)
   | cons z c =>
    rw [cmpN_le_cons] at h1 h2 ⊢
    rcases h1 with h1 | ⟨rfl,h1⟩ <;> rcases h2 with h2 | ⟨rfl,h2⟩
    ·exact .inl (by omega)
    ·exact .inl h1
    ·exact .inl h2
    ·exact .inr ⟨rfl,ih h1 h2⟩
def Le(a b:Row):Prop:=cmpN a.id b.id≤0
def Lt(a b:Row):Prop:=cmpN a.id b.id<0
theorem Le.trans{a b c:Row}(h:Le a b)(k:Le b c):Le a c:=cmpN_trans h k
theorem Le.refl(a:Row):Le a a:=by show cmpN a.id a.id≤0;rw [cmpN_self];decide
theorem le_total(a b:Row):Le a b∨Le b a:=by
 unfold Le
 have:=cmpN_anti a.id b.id
 omega
theorem not_lt{a b:Row}:¬Lt a b↔Le b a:=by
 unfold Lt Le
 have:=cmpN_anti a.id b.id
 omega
theorem Lt.le{a b:Row}(h:Lt a b):Le a b:=by
 have h':cmpN a.id b.id<0:=h
 show cmpN a.id b.id≤0
 omega
theorem lt_of{a b:Row}(h:Le a b)(hne:a.id≠b.id):Lt a b:=by
 have h':cmpN a.id b.id≤0:=h
 show cmpN a.id b.id<0
 have:cmpN a.id b.id≠0:=fun e=>hne (cmpN_eq0 e)
 omega
theorem Lt.ne{a b:Row}(h:Lt a b):a.id≠b.id:=by
 intro e
 have h':cmpN a.id b.id<0:=h
 rw [e,cmpN_self] at h'
 omega
theorem lt_le{a b c:Row}(h:Lt a b)(k:Le b c):Lt a c:=by
 refine lt_of (h.le.trans k) fun e=>?_
 have h1:cmpN a.id b.id<0:=h
 have h2:cmpN b.id c.id≤0:=k
 have h3:=cmpN_anti a.id b.id
 rw [e] at h1 h3
 omega
def Srt(l:List Row):Prop:=l.Pairwise Le
def StrictS(l:List Row):Prop:=l.Pairwise Lt
theorem insM_perm(x:Row):∀ l:List Row,(insM x l).Perm (x :: l):=by
 intro l
 induction l with
 | nil=>exact .refl _
 | cons y l ih =>
  unfold insM
  split
  ·exact (ih.cons y).trans (.swap x y l)
  ·exact .refl _
theorem insM_srt(x:Row):∀ {l:List Row},Srt l→Srt (insM x l):=by
 intro l
 induction l with
 | nil=>intro _;exact List.pairwise_singleton _ _
 | cons y l ih =>
  intro h
  have h':=List.pairwise_cons.1 h
  unfold insM
  split
  ·rename_i hc
   refine List.pairwise_cons.2 ⟨fun r hr=>?_,ih h'.2⟩
   rcases insM_mem hr with rfl | hr
   ·exact Lt.le hc
   ·exact h'.1 r hr
  ·rename_i hc
   have hxy:Le x y:=not_lt.1 hc
   refine List.pairwise_cons.2 ⟨fun r hr=>?_,h⟩
   rcases List.mem_cons.1 hr with rfl | hr
   ·exact hxy
   ·exact hxy.trans (h'.1 r hr)
theorem sortM_both(l:List Row):(sortM l).Perm l∧Srt (sortM l):=by
 have key:∀ (l m:List Row),Srt m→(l.foldl (fun m x=>insM x m) m).Perm (l++m)∧Srt (l.foldl (fun m x=>insM x m) m):=by
  intro l
  induction l with
  | nil=>intro m h;exact ⟨.refl _,h⟩
  | cons x l ih =>
   intro m h
   obtain ⟨h1,h2⟩:=ih (insM x m) (insM_srt x h)
   refine ⟨h1.trans ?_,h2⟩
   exact ((insM_perm x m).append_left l).trans List.perm_middle
 have:=key l [] List.Pairwise.nil
 rw [List.append_nil] at this
 exact this
theorem strict_of:∀ {l:List Row},Srt l→jcp l=false→StrictS l:=by
 intro l
 induction l with
 | nil=>intro _ _;exact List.Pairwise.nil
 | cons a l ih =>
  intro h ht
  cases l with
  | nil=>exact List.pairwise_singleton _ _
  | cons b l =>
   have ht':(decide (b.id=a.id) || jcp (b :: l))=false:=ht
   rw [Bool.or_eq_false_iff,decide_eq_false_iff_not] at ht'
   have h':=List.pairwise_cons.1 h
   have hs:=ih h'.2 ht'.2
   have hab:Lt a b:=lt_of (h'.1 b (by simp)) (fun e=>ht'.1 e.symm)
   refine List.pairwise_cons.2 ⟨fun r hr=>?_,hs⟩
   rcases List.mem_cons.1 hr with rfl | hr
   ·exact hab
   ·exact lt_le hab ((List.pairwise_cons.1 h'.2).1 r hr)
theorem StrictS.unique:∀ {p q:List Row},StrictS p→q.Perm p→Srt q→q=p:=by
 intro p
 induction p with
 | nil=>intro q _ hp _;exact hp.eq_nil
 | cons a p ih =>
  intro q hs hp hq
  cases q with
  | nil=>exact absurd hp.symm.eq_nil (by simp)
  | cons b q =>
   have hs':=List.pairwise_cons.1 hs
   have hq':=List.pairwise_cons.1 hq
   have hb:b∈a :: p:=hp.mem_iff.1 (by simp)
   have ha:a∈b :: q:=hp.mem_iff.2 (by simp)
   by_cases hab:b=a
   ·subst hab
    rw [ih hs'.2 hp.cons_inv hq'.2]
   ·have hb':b∈p:=(List.mem_cons.1 hb).resolve_left hab
    have ha':a∈q:=(List.mem_cons.1 ha).resolve_left (fun e=>hab e.symm)
    have h1:=hs'.1 b hb'
    have h2:=hq'.1 a ha'
    exact absurd h1 (not_lt.2 h2)
theorem sort_law{l l':List Row}(hp:l'.Perm l)(hs:Srt l'):jcp l'=jcp (sortM l)∧(jcp l'=false→l'=sortM l):=by
 obtain ⟨h1,h2⟩:=sortM_both l
 have hp':l'.Perm (sortM l):=hp.trans h1.symm
 cases ht:jcp (sortM l) with
 | false =>
  have e:=(strict_of h2 ht).unique hp' hs
  rw [e]
  exact ⟨ht,fun _=>rfl⟩
 | true =>
  cases ht':jcp l' with
  | true=>exact ⟨rfl,fun h=>by cases h⟩
  | false =>
   have e:=(strict_of hs ht').unique hp'.symm h2
   rw [e,ht'] at ht;cases ht
end Go.Proofs.YtcmhoboglapbdaaDoor
namespace Go.Proofs.YtcmhoboglapbdaaDoor
open Go Ev
def SortOK(F n N:Nat):Prop:=∀ (n0:Nat) (h:AH) (v:V) (l:List Row),h.WF→n0≤h.next→OwnR n0 jak h v l→(∀ r∈l,r.ok)→l.length≤N →
 ∃ r h' l',runC (EE F) n nzbn [v,.func 24 [] []] h=some (r,h')∧OwnR n0 jak h' v l'∧Old n0 h h'∧l'.Perm l∧Srt l'
noncomputable def buildE(l:List Row):Int:=if 4096<l.length then 2 else if jcp (sortM l)=true then 8 else 0
noncomputable def jcj(l:List Row)(pack:List Nat):List Nat:=if 4096<l.length then [] else if jcp (sortM l)=true then [] else jbg (jbr (sortM l)) pack
theorem bsl_slices{h:AH}(hw:h.WF){a b c:V}(ha:a.cell=true)(hb:b.cell=true)(hc:c.cell=true)(la:a.cells=[a])(lb:b.cells=[b])(lc:c.cells=[c])(ia:a.isBad=false)(ib:b.isBad=false)(ic:c.isBad=false)(e:Nat) :
  ∃ v h',bsl 1 3 [(0,1,a),(1,1,b),(2,1,c)] [.nilslice] e h=some (v,h')∧Own h.next 1 e h' v [a,b,c].length [a,b,c]∧Old h.next h h':=by
 refine bsl_own hw (cs:=[a,b,c]) ?_ rfl (by simp [ha,hb,hc])
 unfold fillW
 rw [if_pos ⟨ia,by rw [la];rfl,by simp⟩]
 unfold fillW
 rw [if_pos ⟨ib,by rw [lb];rfl,by simp [putL,la]⟩]
 unfold fillW
 rw [if_pos ⟨ic,by rw [lc];rfl,by simp [putL,la,lb]⟩,la,lb,lc]
 rfl
theorem Ev.Bs.one{h:AH}{v:V}{l:List Nat}(hb:Bs h v l):v.cells=[v]∧v.isBad=false:=by
 obtain ⟨⟨_,⟨_,rfl | rfl⟩ | ⟨a,cap,ex,rfl,_⟩⟩,_⟩:=hb <;> exact ⟨rfl,rfl⟩
theorem ids_box{h:AH}{b e:Nat}{l:List Nat}(hc:jal h b e (jaa l))(hl:l.length=32)(h8:∀ x∈l,x<256):∃ v,slA 32 1 (.ptr ⟨b,32,0⟩) none none none h=some v∧Bs h v l:=by
 have s:=slA_all (n:=32) (z:=1) hc (by rw [jad,hl]) (by omega)
 exact ⟨_,s,arr_bs hc hl h8⟩
theorem ids_tmp{h:AH}(hw:h.WF){l:List Nat}(hl:l.length=32)(h8:∀ x∈l,x<256):∃ v h',(al (List.replicate 32 (.int .u8 0)) jab h).1=.ptr ⟨h.next,32,0⟩∧st 32 (.ptr ⟨h.next,32,0⟩) (.agg (jaa l)) (al (List.replicate 32 (.int .u8 0)) jab h).2=some h'∧slA 32 1 (.ptr ⟨h.next,32,0⟩) none none none h'=some v∧Bs h' v l∧Old h.next h h':=by
 obtain ⟨c1,c2,c3,c4⟩:=jay hw (List.replicate 32 (.int .u8 0)) jab rfl (by simp)
 obtain ⟨h',p1,p2,p3⟩:=c1.put c4.wf (n:=32) (vs:=jaa l) rfl (by rw [jad,hl]) (jap _)
 obtain ⟨v,s1,s2⟩:=ids_box p2 hl h8
 exact ⟨v,h',c2,p1,s1,s2,c4.trans (p3.old (Nat.le_refl _))⟩
theorem bld_tail{F m:Nat}{out:Res→Prop}{Jn:V×Int×Unit→AH→Res}{q p f:V}{h:AH}{n0 b0 e0:Nat}{x y pack:List Nat}(hF:x.length+y.length+300<F)(hxl:x.length+y.length≤10000000)(hw:h.WF)(hk:KT h)(hn0:n0≤h.next)
  (hp:Own n0 1 jai h p x.length (jaa x)) (hf:Own n0 1 jai h f y.length (jaa y)) (hq:q=.ptr ⟨b0,32,0⟩) (hc:jal h b0 e0 (jaa pack)) (h32:pack.length=32) (hx8:∀ a∈x,a<256) (hy8:∀ a∈y,a<256) (h8:∀ a∈pack,a<256)
  (fin:∀ p' h',Own n0 1 jai h' p' ((x++(y++pack))++sumM (x++(y++pack))).length (jaa ((x++(y++pack))++sumM (x++(y++pack))))→Old n0 h h'→out (Jn (p',0,()) h')) :
  out (zaj.c35 (cx F (m+3)) Jn (q,p,f,()) h):=by
 subst hq
 have hpos:=hk.pos hw
 obtain ⟨w,s1,s2⟩:=ids_box hc h32 h8
 have bp:=hp.bs hx8
 have bf:=hf.bs hy8
 obtain ⟨v1,h1,e1,o1,d1⟩:=bsl_slices hw bp.cellOk bf.cellOk s2.cellOk bp.one.1 bf.one.1 s2.one.1 bp.one.2 bf.one.2 s2.one.2 T_s_uint8
 have hfl:[x,y,pack].flatten=x++(y++pack):=by simp
 obtain ⟨v2,h2,e2,o2,d2⟩:=concat_spec (F:=F) (n:=m+1) d1.wf (vs:=[p,f,w]) (ls:=[x,y,pack]) o1.sl rfl (by
  intro i v l hv hl
  have hi:i=0∨i=1∨i=2:=by
   have:=(List.getElem?_eq_some_iff.1 hv).1
   simp at this
   omega
  rcases hi with rfl | rfl | rfl
  ·cases hv;cases hl;exact bp.old hw d1
  ·cases hv;cases hl;exact bf.old hw d1
  ·cases hv;cases hl;exact s2.old hw d1) (by rw [hfl,List.length_append,List.length_append];omega) (by simp) (by simp;omega)
 rw [hfl] at o2
 have h8':∀ a∈x++(y++pack),a<256:=jax hx8 (jax hy8 h8)
 have d12:=d1.trans (d2.weak d1.next)
 obtain ⟨h3,e3,d3⟩:=sum_spec (F:=F) (n:=m+1) d2.wf (hk.old hpos d12) (o2.bs h8') (by rw [List.length_append,List.length_append];omega) (by rw [List.length_append,List.length_append];omega)
 obtain ⟨w4,h4,t1,t2,t3,t4,t5⟩:=ids_tmp d3.wf (jby (x++(y++pack))) (sumM_byte _)
 have d34:=d3.trans (t5.weak d3.next)
 obtain ⟨v5,h5,e5,o5,d5,_⟩:=jbc (o2.old d2.wf d34) t4 d34.wf (Nat.le_trans d2.next d34.next) (jci (by simp only [List.length_append,jby];omega))
 have hn:=d1.next
 have d14:=d12.trans (d34.weak d12.next)
 have hfin:=fin v5 h5 (o5.weak (by omega)) ((d14.weak hn0).trans (d5.weak (by omega)))
 simp only [zaj.c35,s1,jae,e1,jam,cxC,e2,e3,cA_some,t1,t2,jaj,t3,e5]
 exact hfin
theorem cvS_own'{h:AH}{n0 e:Nat}{v:V}{n:Nat}{cs:List V}(ho:Own n0 1 e h v n cs)(hn:n≠0)(t:Nat):cvS t v h=some (v,h):=by
 obtain ⟨h1,⟨h0,_⟩ | ⟨b,cap,ex,rest,rfl,h2,h3,h4,h5,h6⟩⟩:=ho
 ·exact absurd h0 hn
 ·obtain ⟨k,k1,k2,k3,k4,k5,k6,k7,k8⟩:=h6
  simp only [cvS,k1]
  rw [if_pos ⟨by omega,k5,k4⟩]
theorem magic_own{h:AH}(hw:h.WF):∃ v h',bsl 1 8 [(0,1,(.int .u8 255)),(1,1,(.int .u8 116)),(2,1,(.int .u8 79)),(3,1,(.int .u8 99)),(4,1,(.int .u8 0)),(5,1,(.int .u8 0)),(6,1,(.int .u8 0)),(7,1,(.int .u8 2))] [.int .u8 0] jai h=some (v,h')∧Own h.next 1 jai h' v jbd.length (jaa jbd)∧Old h.next h h' :=
 bsl_own hw (cs:=jaa jbd) rfl rfl rfl
theorem build_cps{F d N:Nat}(hF:300000<F)(hS:SortOK F (d+6) N)(hN:N≤4096){h:AH}(hw:h.WF)(hk:KT h){p:V}{l:List Row}(hp:Rs h p l)(hl:l.length≤N∨4096<l.length)(hlen:l.length≤2932031007317){pack:List Nat}(h32:pack.length=32)(h8:∀ x∈pack,x<256)
  {out:Res→Prop} (fin:∀ v h',Own h.next 1 jai h' v (jcj l pack).length (jaa (jcj l pack))→Old h.next h h'→out (some (.tuple [v,.int .i64 (buildE l)],h'))) :
  out (runC (EE F) (d+7) nzaj [p,.agg (jaa pack)] h):=by
 rw [tzaj]
 obtain ⟨h1,e1,c1,n1,o1⟩:=jbe hw (jaa pack) jab (jap pack)
 rw [jad,h32] at e1
 have p1:=hp.old hw o1
 simp only [zaj.fn,zaj.c0,zaj.k0,zaj.c1,zaj.k1,e1,jam,p1.1.len,jag]
 by_cases hbig:4096<l.length
 ·have d1:decide ((l.length:Int)>4096)=true:=by rw [decide_eq_true_eq];omega
  have f1:=fin .nilslice h1 (by
   unfold jcj;rw [if_pos hbig];exact own_nil _ _ _ _) o1
  unfold buildE at f1
  rw [if_pos hbig] at f1
  simp only [d1,cond_true,zaj.c2,zaj.ret]
  exact f1
 ·have d1:decide ((l.length:Int)>4096)=false:=by rw [decide_eq_false_iff_not];omega
  have hlN:l.length≤N:=hl.resolve_right hbig
  obtain ⟨v2,h2,e2,w2,o2⟩:=cloneR_spec (F:=F) (n:=d+5) o1.wf p1 hlen
  obtain ⟨r3,h3,l',e3,w3,o3,q1,q2⟩:=hS h1.next h2 v2 l o2.wf o2.next w2 hp.2 hlN
  have hok:∀ r∈l',r.ok:=fun r hr=>hp.2 r (q1.mem_iff.1 hr)
  have hll:l'.length=l.length:=q1.length_eq
  have R3:Rs h3 v2 l':=⟨w3.sl,hok⟩
  have o13:Old h1.next h1 h3:=o2.trans o3
  have n13:=o13.next
  have hn1:=o1.next
  obtain ⟨sl1,sl2⟩:=sort_law q1 q2
  simp only [d1,cond_false,zaj.r3,zaj.c3,zaj.k4,zaj.c5,cxC,e2,e3,jam]
  refine bld_dup R3 (by omega) (by omega) (fun ht=>?_) (fun ht=>?_)
  ·have ht':jcp (sortM l)=true:=by rw [← sl1];exact ht
   have f1:=fin .nilslice h3 (by
    unfold jcj;rw [if_neg hbig,if_pos ht'];exact own_nil _ _ _ _) (o1.trans (o13.weak hn1))
   unfold buildE at f1
   rw [if_neg hbig,if_pos ht'] at f1
   simp only [zaj.ret]
   exact f1
  ·have ht':¬jcp (sortM l)=true:=by rw [← sl1,ht];decide
   obtain rfl:=sl2 ht
   have eE:buildE l=0:=by unfold buildE;rw [if_neg hbig,if_neg ht']
   have eB:jcj l pack=jbg (jbr (sortM l)) pack:=by unfold jcj;rw [if_neg hbig,if_neg ht']
   rw [eE,eB] at fin
   generalize hM:sortM l=m at *
   obtain ⟨v4,h4,e4,w4,o4⟩:=magic_own o3.wf
   have R4:=R3.old o3.wf o4
   obtain ⟨h5,e5,o5⟩:=fan_spec (F:=F) (n:=d+5) (by omega) o4.wf R4 (by omega) (by omega)
   have o35:Old h3.next h3 h5:=o4.trans (o5.weak o4.next)
   simp only [zaj.r10,zaj.c10,zaj.k10,zaj.c11,e4,jam,cvS_own' w4 (by decide),cxC,e5,cA_some]
   refine bld_fans (n0:=h3.next) (m:=d+5) (l:=m) (by omega) (by omega) o5.wf o35.next (w4.old o4.wf o5) (fun p6 h6 w6 o6=>?_)
   have o36:=o35.trans o6
   have hv:∀ g,Old h3.next h3 g→Rs g v2 m:=fun g og=>R3.old o3.wf og
   simp only [zaj.r16,zaj.c16,(hv _ o36).1.len,jag]
   refine bld_ids (n0:=h3.next) (l:=m) (by omega) (by omega) (by rw [headM_len];omega) o6.wf o36.next (hv _ o36) (fun g og=>hv g (o36.trans og)) w6 (fun p7 h7 w7 o7=>?_)
   have o37:=o36.trans o7
   have li:=idsM_len hok
   simp only [zaj.r21,zaj.c21,(hv _ o37).1.len,jag]
   refine bld_crcs (n0:=h3.next) (m:=d+5) (l:=m) (by omega) (by omega) (by omega) (by rw [List.length_append,headM_len,li];omega) o7.wf o37.next (hv _ o37) (fun g og=>hv g (o37.trans og)) w7 (fun p8 h8' w8 o8=>?_)
   have o38:=o37.trans o8
   simp only [zaj.r26,zaj.c26,zaj.k26,zaj.c27,(hv _ o38).1.len,jag]
   refine bld_ats (n0:=h3.next) (m:=d+5) (l:=m) (by omega) (by omega) (by omega) (by rw [List.length_append,List.length_append,headM_len,li,crcsM_len];omega) o8.wf o38.next (hv _ o38) (fun g og=>hv g (o38.trans og)) w8 (fun p9 f9 h9 w9 y9 o9=>?_)
   have o39:=o38.trans o9
   have c9:jal h9 h.next jab (jaa pack):=(c1.oldN (by omega) o13).oldN (by omega) o39
   have hpos:=hk.pos hw
   have o19:Old h1.next h1 h9:=o13.trans (o39.weak n13)
   have k9:KT h9:=hk.old hpos (o1.trans (o19.weak hn1))
   have hnf:=nfar_le (jbr m)
   rw [flags_len] at hnf
   have hl9:(headM m++idsM m++jbx m++atsM 0 (jbr m)).length=1032+40*m.length:=by
    simp only [List.length_append,headM_len,li,crcsM_len,atsM_len,flags_len];omega
   have hb9:(headM m++idsM m++jbx m++atsM 0 (jbr m))++(jcr (jbr m)++pack)=bodyM (jbr m) pack:=by
    unfold bodyM;rw [flags_fst]
   simp only [zaj.r35]
   refine bld_tail (m:=d+3) (n0:=h3.next) (by rw [hl9,farsM_len];omega) (by rw [hl9,farsM_len];omega) o9.wf k9 o39.next w9 y9 rfl c9 h32 (jax (jax (jax (headM_byte _) (idsM_byte hok)) (crcsM_byte _)) (atsM_byte _ _)) (farsM_byte _) h8 (fun p10 h10 w10 o10=>?_)
   rw [hb9] at w10
   have f1:=fin p10 h10 (w10.weak (by omega)) (o1.trans ((o19.trans (o10.weak n13)).weak hn1))
   simp only [zaj.ret]
   exact f1
theorem build_spec{F d N:Nat}(hF:300000<F)(hS:SortOK F (d+6) N)(hN:N≤4096){h:AH}(hw:h.WF)(hk:KT h){p:V}{l:List Row}(hp:Rs h p l)(hl:l.length≤N∨4096<l.length)(hlen:l.length≤2932031007317){pack:List Nat}(h32:pack.length=32)(h8:∀ x∈pack,x<256) :
  ∃ v h',runC (EE F) (d+7) nzaj [p,.agg (jaa pack)] h=some (.tuple [v,.int .i64 (buildE l)],h')∧Own h.next 1 jai h' v (jcj l pack).length (jaa (jcj l pack))∧Old h.next h h' :=
 build_cps (out:=fun x=>∃ v h',x=some (.tuple [v,.int .i64 (buildE l)],h')∧Own h.next 1 jai h' v (jcj l pack).length (jaa (jcj l pack))∧Old h.next h h') hF hS hN hw hk hp hl hlen h32 h8 (fun v h' a b=>⟨v,h',rfl,a,b⟩)
end Go.Proofs.YtcmhoboglapbdaaDoor
namespace Go.Proofs.YtcmhoboglapbdaaDoor
open Go Ev
def r0:Row:=⟨[],0,0⟩
def rat(l:List Row)(i:Nat):Row:=l.getD i r0
def swapM(l:List Row)(i j:Nat):List Row:=(l.set j (rat l i)).set i (rat l j)
theorem rat_get{l:List Row}{i:Nat}(h:i<l.length):l[i]?=some (rat l i):=by
 unfold rat;rw [List.getD_eq_getElem?_getD,List.getElem?_eq_getElem h];rfl
theorem jbz{l:List Row}{i:Nat}(h:i<l.length):l[i]=rat l i:=by
 have:=rat_get h
 rw [List.getElem?_eq_getElem h] at this
 exact Option.some.inj this
theorem rat_mem{l:List Row}{i:Nat}(h:i<l.length):rat l i∈l:=List.mem_of_getElem? (rat_get h)
theorem swapM_len(l:List Row)(i j:Nat):(swapM l i j).length=l.length:=by simp [swapM]
theorem rat_set{l:List Row}{i k:Nat}(x:Row)(h:i<l.length):rat (l.set i x) k=if k=i then x else rat l k:=by
 unfold rat
 rw [List.getD_eq_getElem?_getD,List.getD_eq_getElem?_getD,List.getElem?_set]
 by_cases hk:i=k
 ·subst hk;rw [if_pos rfl,if_pos h,if_pos rfl];rfl
 ·rw [if_neg hk,if_neg (fun e=>hk e.symm)]
theorem rat_swap{l:List Row}{i j:Nat}(hi:i<l.length)(hj:j<l.length)(k:Nat):rat (swapM l i j) k=if k=i then rat l j else if k=j then rat l i else rat l k:=by
 unfold swapM
 rw [rat_set _ (by rw [List.length_set];exact hi),rat_set _ hj]
theorem swapM_perm{l:List Row}{i j:Nat}(hi:i<l.length)(hj:j<l.length):(swapM l i j).Perm l:=by
 have:=@List.set_set_perm _ l j i hj hi
 rw [jbz hi,jbz hj] at this
 exact this
structure Re (a b:Nat) (l l':List Row):Prop where
 len:l'.length=l.length
 perm:l'.Perm l
 out:∀ k,¬(a≤k∧k<b)→rat l' k=rat l k
 all:∀ P:Row→Prop,(∀ k,a≤k→k<b→P (rat l k))→∀ k,a≤k→k<b→P (rat l' k)
theorem Re.refl(a b:Nat)(l:List Row):Re a b l l:=⟨rfl,.refl _,fun _ _=>rfl,fun _ h=>h⟩
theorem Re.trans{a b:Nat}{l m n:List Row}(x:Re a b l m)(y:Re a b m n):Re a b l n :=
 ⟨y.len.trans x.len,y.perm.trans x.perm,fun k hk=>(y.out k hk).trans (x.out k hk),fun P h=>y.all P (x.all P h)⟩
theorem Re.weak{a b a' b':Nat}{l m:List Row}(x:Re a b l m)(ha:a'≤a)(hb:b≤b'):Re a' b' l m :=
 ⟨x.len,x.perm,fun k hk=>x.out k (by omega),fun P h k h1 h2=>by
  by_cases hk:a≤k∧k<b
  ·exact x.all P (fun k' q1 q2=>h k' (by omega) (by omega)) k hk.1 hk.2
  ·rw [x.out k hk];exact h k h1 h2⟩
theorem Re.swap{a b:Nat}{l:List Row}{i j:Nat}(hi:i<l.length)(hj:j<l.length)(h1:a≤i)(h2:i<b)(h3:a≤j)(h4:j<b):Re a b l (swapM l i j) :=
 ⟨swapM_len l i j,swapM_perm hi hj,fun k hk=>by rw [rat_swap hi hj,if_neg (by omega),if_neg (by omega)],fun P h k q1 q2=>by
  rw [rat_swap hi hj]
  split
  ·exact h j h3 h4
  ·split
   ·exact h i h1 h2
   ·exact h k q1 q2⟩
def jca(l:List Row)(a b:Nat):Prop:=∀ x y,a≤x→x<y→y<b→Le (rat l x) (rat l y)
theorem jca.srt{l:List Row}(h:jca l 0 l.length):Srt l:=by
 unfold Srt
 rw [List.pairwise_iff_getElem]
 intro i j hi hj hij
 rw [jbz hi,jbz hj]
 exact h i j (by omega) hij hj
structure Has (n0:Nat) (v:V) (g:AH) (l:List Row):Prop where
 own:OwnR n0 jak g v l
 ok:∀ r∈l,r.ok
theorem Has.rs{n0:Nat}{v:V}{g:AH}{l:List Row}(H:Has n0 v g l):Rs g v l:=⟨H.own.sl,H.ok⟩
theorem Has.old{n0:Nat}{v:V}{g g':AH}{l:List Row}(H:Has n0 v g l)(hw:g.WF)(o:Old g.next g g'):Has n0 v g' l:=⟨H.own.old hw o,H.ok⟩
theorem rowsL_set:∀ {l:List Row} {i:Nat} {r:Row},(∀ x∈l,x.ok)→r.ok→i<l.length→putL (rowL r) (i*34) (rowsL l)=rowsL (l.set i r):=by
 intro l i r hl hr hi
 have h1:=rowsL_take i hl
 have h2:=rowsL_drop (i+1) hl
 unfold putL
 rw [h1,jav hr,show i*34+34=(i+1)*34 by omega,h2,List.set_eq_take_append_cons_drop,if_pos hi,rowsL_append,jch,List.append_assoc]
theorem Has.at{n0:Nat}{v:V}{g:AH}{l:List Row}(H:Has n0 v g l){i:Nat}(hi:i<l.length):∃ a,ixS 34 v (i:Int)=some (.ptr a)∧ldA 34 (.ptr a) g=some (.agg (rowL (rat l i))):=by
 obtain ⟨a,h1,h2⟩:=H.rs.at (rat_get hi)
 exact ⟨a,h1,jbf h2⟩
theorem Has.rok{n0:Nat}{v:V}{g:AH}{l:List Row}(H:Has n0 v g l){i:Nat}(hi:i<l.length):(rat l i).ok:=H.ok _ (rat_mem hi)
theorem Has.put{n0:Nat}{v:V}{g:AH}{l:List Row}(H:Has n0 v g l)(hw:g.WF){i:Nat}(hi:i<l.length){r:Row}(hr:r.ok) :
  ∃ a g',ixS 34 v (i:Int)=some (.ptr a)∧st 34 (.ptr a) (.agg (rowL r)) g=some g'∧Has n0 v g' (l.set i r)∧Old n0 g g'∧∀ b,notIn v b→g'.get b=g.get b:=by
 obtain ⟨a,g',h1,h2,h3,h4,h5⟩:=H.own.set hw (i:=(i:Int)) (by omega) (by omega) (w:=.agg (rowL r)) (jav hr) (rowL_cell r)
 refine ⟨a,g',h1,h2,⟨?_,?_⟩,h4,h5⟩
 ·have e:(V.agg (rowL r)).cells=rowL r:=rfl
  rw [Int.toNat_natCast,e,rowsL_set H.ok hr hi] at h3
  rw [OwnR,List.length_set];exact h3
 ·intro x hx
  rcases List.mem_or_eq_of_mem_set hx with h | rfl
  ·exact H.ok x h
  ·exact hr
theorem swap_keep{n0:Nat}{v:V}{g:AH}{l:List Row}(H:Has n0 v g l)(hw:g.WF){i j:Nat}(hi:i<l.length)(hj:j<l.length) :
  ∃ a b g1 g2,ixS 34 v (i:Int)=some (.ptr a)∧ixS 34 v (j:Int)=some (.ptr b)∧ldA 34 (.ptr a) g=some (.agg (rowL (rat l i)))∧ldA 34 (.ptr b) g=some (.agg (rowL (rat l j))) ∧
   st 34 (.ptr b) (.agg (rowL (rat l i))) g=some g1∧st 34 (.ptr a) (.agg (rowL (rat l j))) g1=some g2∧Has n0 v g2 (swapM l i j)∧Old n0 g g2∧∀ b,notIn v b→g2.get b=g.get b:=by
 obtain ⟨a,a1,a2⟩:=H.at hi
 obtain ⟨b,b1,b2⟩:=H.at hj
 obtain ⟨b',g1,c1,c2,c3,c4,c5⟩:=H.put hw hj (H.rok hi)
 obtain rfl:b=b':=V.ptr.inj (Option.some.inj (b1.symm.trans c1))
 obtain ⟨a',g2,d1,d2,d3,d4,d5⟩:=c3.put c4.wf (i:=i) (by rw [List.length_set];exact hi) (H.rok hj)
 obtain rfl:a=a':=V.ptr.inj (Option.some.inj (a1.symm.trans d1))
 exact ⟨a,b,g1,g2,a1,b1,a2,b2,c2,d2,d3,c4.trans d4,fun x hx=>(d5 x hx).trans (c5 x hx)⟩
theorem jbs{n0:Nat}{v:V}{g:AH}{l:List Row}(H:Has n0 v g l)(hw:g.WF){i j:Nat}(hi:i<l.length)(hj:j<l.length) :
  ∃ a b g1 g2,ixS 34 v (i:Int)=some (.ptr a)∧ixS 34 v (j:Int)=some (.ptr b)∧ldA 34 (.ptr a) g=some (.agg (rowL (rat l i)))∧ldA 34 (.ptr b) g=some (.agg (rowL (rat l j))) ∧
   st 34 (.ptr b) (.agg (rowL (rat l i))) g=some g1∧st 34 (.ptr a) (.agg (rowL (rat l j))) g1=some g2∧Has n0 v g2 (swapM l i j)∧Old n0 g g2:=by
 obtain ⟨a,b,g1,g2,h1,h2,h3,h4,h5,h6,h7,h8,_⟩:=swap_keep H hw hi hj
 exact ⟨a,b,g1,g2,h1,h2,h3,h4,h5,h6,h7,h8⟩
theorem ptr_eq{o:Option V}{a b:A}(h:o=some (.ptr a))(k:o=some (.ptr b)):a=b:=V.ptr.inj (Option.some.inj (h.symm.trans k))
abbrev cmpF:V:=.func 24 [] []
theorem byId_spec{F m:Nat}{h:AH}(hw:h.WF){a b:Row}(ha:a.ok)(hb:b.ok):∃ h',runC (EE F) (m+3) nzao [.agg (rowL a),.agg (rowL b)] h=some (.int .i64 (cmpN a.id b.id),h')∧Old h.next h h':=by
 rw [tzao]
 obtain ⟨h1,e1,c1,n1,o1⟩:=jbe hw (rowL a) jak (rowL_cell a)
 obtain ⟨h2,e2,c2,n2,o2⟩:=jbe o1.wf (rowL b) jak (rowL_cell b)
 rw [jav ha] at e1
 rw [jav hb] at e2
 obtain ⟨h3,e3,o3⟩:=compare_spec (F:=F) (n:=m) o2.wf ha.1 hb.1 ha.2.1 hb.2.1
 have o12:=o1.trans (o2.weak o1.next)
 refine ⟨h3,?_,o12.trans (o3.weak o12.next)⟩
 simp only [zao.fn,zao.c0,e1,jam,e2,jbu,jae,row_id (c1.old o1.wf o2) ha,jaf,row_id c2 hb,cxC,e3,jan,zao.ret]
 rfl
theorem has24:hasB PP 24=some true:=by kernel_rfl
theorem cmp_word{F m:Nat}{g:AH}(hw:g.WF){a b:Row}(ha:a.ok)(hb:b.ok):∃ g',dyn PP (cx F (m+3)).C (cx F (m+3)).X cmpF [.agg (rowL a),.agg (rowL b)] g=some (.int .i64 (cmpN a.id b.id),g')∧Old g.next g g':=by
 obtain ⟨g',e,o⟩:=byId_spec (F:=F) (m:=m) hw ha hb
 exact ⟨g',(dyn_fn has24).trans e,o⟩
theorem cmp_at{F m n0:Nat}{v:V}{g:AH}{l:List Row}(H:Has n0 v g l)(hw:g.WF)(hn:n0≤g.next){i j:Nat}(hi:i<l.length)(hj:j<l.length) :
  ∃ a b g',ixS 34 v (i:Int)=some (.ptr a)∧ixS 34 v (j:Int)=some (.ptr b)∧ldA 34 (.ptr a) g=some (.agg (rowL (rat l i)))∧ldA 34 (.ptr b) g=some (.agg (rowL (rat l j))) ∧
   dyn PP (cx F (m+3)).C (cx F (m+3)).X cmpF [.agg (rowL (rat l i)),.agg (rowL (rat l j))] g=some (.int .i64 (cmpN (rat l i).id (rat l j).id),g')∧Has n0 v g' l∧Old n0 g g'∧Old g.next g g':=by
 obtain ⟨a,a1,a2⟩:=H.at hi
 obtain ⟨b,b1,b2⟩:=H.at hj
 obtain ⟨g',e,o⟩:=cmp_word (F:=F) (m:=m) hw (H.rok hi) (H.rok hj)
 exact ⟨a,b,g',a1,b1,a2,b2,e,H.old hw o,o.weak hn,o⟩
theorem lt_true{a b:Row}(h:Lt a b):decide (cmpN a.id b.id<0)=true:=decide_eq_true h
theorem jbw{a b:Row}(h:¬Lt a b):decide (cmpN a.id b.id<0)=false:=decide_eq_false h
theorem wi{x:Int}{n:Nat}(h:x=(n:Int))(hn:n≤9223372036854775807):IntKind.wrap .i64 x=(n:Int):=by rw [jao (by omega) (by omega)];exact h
theorem dT{p:Prop}[Decidable p](h:p):decide p=true:=decide_eq_true h
theorem dF{p:Prop}[Decidable p](h:¬p):decide p=false:=decide_eq_false h
end Go.Proofs.YtcmhoboglapbdaaDoor
namespace Go.Proofs.YtcmhoboglapbdaaDoor
open Go Ev
def Near(l:List Row)(a i j:Nat):Prop:=∀ x y,a≤x→x<y→y≤i→y≠j→Le (rat l x) (rat l y)
theorem near_start{l:List Row}{a i:Nat}(h:jca l a i):Near l a i i:=fun x y h1 h2 h3 h4=>h x y h1 h2 (by omega)
theorem near_done{l:List Row}{a i j:Nat}(h:Near l a i j)(hj:j=a∨(a<j∧j≤i∧Le (rat l (j-1)) (rat l j))):jca l a (i+1):=by
 intro x y h1 h2 h3
 by_cases hy:y=j
 ·subst hy
  rcases hj with rfl | ⟨h4,h5,h6⟩
  ·omega
  ·by_cases hx:x=y-1
   ·subst hx;exact h6
   ·exact (h x (y-1) h1 (by omega) (by omega) (by omega)).trans h6
 ·exact h x y h1 h2 (by omega) hy
theorem near_step{l:List Row}{a i j:Nat}(h:Near l a i j)(hj:a<j)(hji:j≤i)(hi:i<l.length)(hlt:Lt (rat l j) (rat l (j-1))):Near (swapM l (j-1) j) a i (j-1):=by
 intro x y h1 h2 h3 h4
 rw [rat_swap (by omega) (by omega),rat_swap (by omega) (by omega),if_neg h4]
 by_cases hy:y=j
 ·subst hy
  rw [if_pos rfl]
  by_cases hx:x=y-1
  ·rw [if_pos hx];exact hlt.le
  ·rw [if_neg hx,if_neg (by omega)];exact h x (y-1) h1 (by omega) (by omega) (by omega)
 ·rw [if_neg hy]
  by_cases hx:x=j-1
  ·rw [if_pos hx];exact h j y (by omega) (by omega) h3 hy
  ·rw [if_neg hx]
   by_cases hx2:x=j
   ·rw [if_pos hx2];exact h (j-1) y (by omega) (by omega) h3 hy
   ·rw [if_neg hx2];exact h x y h1 h2 h3 hy
theorem ins_spec{F m n0:Nat}{v:V}{h:AH}{l:List Row}(H:Has n0 v h l)(hw:h.WF)(hn0:n0≤h.next){a b:Nat}(hab:a≤b)(hb:b≤l.length)(hlen:l.length≤4096)(hF:5000<F) :
  ∃ r h' l',runC (EE F) (m+4) nzbr [v,.int .i64 (a:Int),.int .i64 (b:Int),cmpF] h=some (r,h')∧Has n0 v h' l'∧Old n0 h h'∧Re a b l l'∧jca l' a b:=by
 rw [tzbr]
 have i0:IntKind.wrap .i64 ((a:Int)+1)=((a+1:Nat):Int):=wi (by omega) (by omega)
 simp only [zbr.fn,zbr.c0,wr,i0]
 show ∃ r h' l',jaw zbr.P2 F (fun t h n'=>zbr.l1 (cx F (m+3)) n' zbr.ret zbr.ret t h) (v,(a:Int),(b:Int),cmpF,((a+1:Nat):Int),()) h=some (r,h')∧_
 refine jah (S:=zbr.P2) (out:=fun x=>∃ r h' l',x=some (r,h')∧Has n0 v h' l'∧Old n0 h h'∧Re a b l l'∧jca l' a b)
  (fun k s g=>∃ (i:Nat) (l1:List Row),i+k=max (a+1) b∧a+1≤i∧s=(v,(a:Int),(b:Int),cmpF,(i:Int),())∧Has n0 v g l1∧Old n0 h g∧Re a b l l1∧jca l1 a i) ?_ ?_ (max (a+1) b-(a+1)) F _ _
  ⟨a+1,l,by omega,Nat.le_refl _,rfl,H,Old.refl hw _,Re.refl _ _ _,fun x y h1 h2 h3=>by omega⟩ (by omega)
 ·rintro k s g n' ⟨i,l1,hi,hai,rfl,H1,og,re,hs⟩
  have hib:i<b:=by omega
  have hl1:=re.len
  have c1:decide ((i:Int)<(b:Int))=true:=dT (by omega)
  have i3:IntKind.wrap .i64 ((i:Int)+1)=((i+1:Nat):Int):=wi (by omega) (by omega)
  refine .inl ?_
  simp only [zbr.l1,zbr.c1,zbr.k1,c1,cond_true,zbr.r3,zbr.c3]
  suffices hin:∃ g' l2,zbr.k3 (cx F (m+3)) (zbr.r2 (cx F (m+3)) n' zbr.ret zbr.ret) (zbr.r2 (cx F (m+3)) n' zbr.ret zbr.ret) zbr.ret zbr.ret (v,(a:Int),(b:Int),cmpF,(i:Int),(i:Int),()) g=n' (v,(a:Int),(b:Int),cmpF,((i+1:Nat):Int),()) g'∧Has n0 v g' l2∧Old n0 h g'∧Re a b l l2∧jca l2 a (i+1) by
   obtain ⟨g',l2,z1,z2,z3,z4,z5⟩:=hin
   exact ⟨_,g',z1,i+1,l2,by omega,by omega,rfl,z2,z3,z4,z5⟩
  refine jah (S:=zbr.P8) (out:=fun x=>∃ g' l2,x=n' (v,(a:Int),(b:Int),cmpF,((i+1:Nat):Int),()) g'∧Has n0 v g' l2∧Old n0 h g'∧Re a b l l2∧jca l2 a (i+1))
   (fun k s f=>∃ (j:Nat) (l2:List Row),j=a+k∧j≤i∧s=(v,(a:Int),(b:Int),cmpF,(i:Int),(j:Int),())∧Has n0 v f l2∧Old n0 h f∧Re a b l l2∧Near l2 a i j) ?_ ?_ (i-a) F _ _
   ⟨i,l1,by omega,Nat.le_refl _,rfl,H1,og,re,near_start hs⟩ (by omega)
  ·rintro k s f n'' ⟨j,l2,hj,hji,rfl,H2,of,re2,hne⟩
   have hl2:=re2.len
   have i4:IntKind.wrap .i64 ((j:Int)-1)=((j-1:Nat):Int):=wi (by omega) (by omega)
   have c2:decide ((j:Int)>(a:Int))=true:=dT (by omega)
   obtain ⟨p,q,f1,u1,u2,u3,u4,u5,u6,u7,u8⟩:=cmp_at (F:=F) (m:=m) H2 of.wf (Nat.le_trans hn0 of.next) (i:=j) (j:=j-1) (by omega) (by omega)
   have of1:=of.trans u7
   by_cases hlt:Lt (rat l2 j) (rat l2 (j-1))
   ·obtain ⟨p',q',f2,f3,w1,w2,w3,w4,w5,w6,w7,w8⟩:=jbs u6 of1.wf (i:=j-1) (j:=j) (by omega) (by omega)
    obtain rfl:=ptr_eq u1 w2
    obtain rfl:=ptr_eq u2 w1
    refine .inl ⟨_,f3,?_,j-1,_,by omega,by omega,rfl,w7,of1.trans w8,re2.trans (Re.swap (by omega) (by omega) (by omega) (by omega) (by omega) (by omega)),near_step hne (by omega) hji (by omega) hlt⟩
    simp only [zbr.l4,zbr.c4,zbr.k4,zbr.r6,zbr.c6,zbr.r5,zbr.c5,c2,cond_true,u1,u2,jae,u3,jaf,wr,i4,u4,u5,jan,lt_true hlt,w1,w2,w3,w4,w5,w6,jaj]
   ·refine .inr ⟨f1,l2,?_,u6,of1,re2,near_done hne (.inr ⟨by omega,hji,not_lt.1 hlt⟩)⟩
    simp only [zbr.l4,zbr.c4,zbr.k4,zbr.r2,zbr.c2,c2,cond_true,u1,u2,jae,u3,jaf,wr,i4,u4,u5,jan,jbw hlt,cond_false,i3]
  ·rintro s f n'' ⟨j,l2,hj,hji,rfl,H2,of,re2,hne⟩
   have c2:decide ((j:Int)>(a:Int))=false:=dF (by omega)
   refine ⟨f,l2,?_,H2,of,re2,near_done hne (.inl (by omega))⟩
   simp only [zbr.l4,zbr.c4,zbr.k4,zbr.r2,zbr.c2,c2,cond_false,wr,i3]
 ·rintro s g n' ⟨i,l1,hi,hai,rfl,H1,og,re,hs⟩
  have c1:decide ((i:Int)<(b:Int))=false:=dF (by omega)
  refine ⟨pack [],g,l1,?_,H1,og,re,fun x y h1 h2 h3=>hs x y h1 h2 (by omega)⟩
  simp only [zbr.l1,zbr.c1,zbr.k1,c1,cond_false]
  rfl
end Go.Proofs.YtcmhoboglapbdaaDoor
namespace Go.Proofs.YtcmhoboglapbdaaDoor
open Go Ev
def HeapAt(l:List Row)(f hi i:Nat):Prop:=∀ c,(c=2*i+1∨c=2*i+2)→c<hi→Le (rat l (f+c)) (rat l (f+i))
def Sift(l:List Row)(f lo hi r:Nat):Prop :=
 (∀ i,lo≤i→i≠r→HeapAt l f hi i)∧∀ p,lo≤p→(r=2*p+1∨r=2*p+2)→∀ c,(c=2*r+1∨c=2*r+2)→c<hi→Le (rat l (f+c)) (rat l (f+p))
theorem sift_start{l:List Row}{f lo hi:Nat}(h:∀ i,lo<i→HeapAt l f hi i):Sift l f lo hi lo :=
 ⟨fun i h1 h2=>h i (by omega),fun p h1 h2=>by omega⟩
theorem sift_done{l:List Row}{f lo hi r:Nat}(h:Sift l f lo hi r)(hr:HeapAt l f hi r):∀ i,lo≤i→HeapAt l f hi i:=by
 intro i hi'
 by_cases e:i=r
 ·rw [e];exact hr
 ·exact h.1 i hi' e
theorem sift_step{l:List Row}{f lo hi r c:Nat}(h:Sift l f lo hi r)(hlo:lo≤r)(hc:c=2*r+1∨c=2*r+2)(hch:c<hi)(hlen:f+hi≤l.length)(hlt:Lt (rat l (f+r)) (rat l (f+c)))
  (hmax:∀ d,(d=2*r+1∨d=2*r+2)→d<hi→Le (rat l (f+d)) (rat l (f+c))):Sift (swapM l (f+c) (f+r)) f lo hi c:=by
 have sw:∀ k,rat (swapM l (f+c) (f+r)) (f+k)=if k=c then rat l (f+r) else if k=r then rat l (f+c) else rat l (f+k):=by
  intro k
  rw [rat_swap (by omega) (by omega)]
  by_cases h1:k=c
  ·rw [if_pos (by omega),if_pos h1]
  ·rw [if_neg (by omega),if_neg h1]
   by_cases h2:k=r
   ·rw [if_pos (by omega),if_pos h2]
   ·rw [if_neg (by omega),if_neg h2]
 refine ⟨?_,?_⟩
 ·intro i h1 h2 d hd hdh
  rw [sw d,sw i,if_neg h2]
  by_cases hir:i=r
  ·subst hir
   rw [if_pos rfl]
   by_cases hdc:d=c
   ·rw [if_pos hdc];exact hlt.le
   ·rw [if_neg hdc,if_neg (by omega)];exact hmax d hd hdh
  ·rw [if_neg hir,if_neg (by omega)]
   by_cases hdr:d=r
   ·rw [if_pos hdr]
    exact h.2 i h1 (by omega) c hc hch
   ·rw [if_neg hdr];exact h.1 i h1 hir d hd hdh
 ·intro p h1 h2 d hd hdh
  have hpr:p=r:=by omega
  subst hpr
  rw [sw d,sw p,if_neg (by omega),if_neg (by omega),if_neg (by omega),if_pos rfl]
  exact h.1 c (by omega) (by omega) d hd hdh
theorem heap_max{l:List Row}{f hi:Nat}(h:∀ i,HeapAt l f hi i):∀ x,x<hi→Le (rat l (f+x)) (rat l (f+0)):=by
 intro x
 induction x using Nat.strongRecOn with
 | ind x ih =>
  intro hx
  by_cases h0:x=0
  ·subst h0;exact Le.refl _
  ·exact (h ((x-1) / 2) x (by omega) hx).trans (ih ((x-1) / 2) (by omega) (by omega))
theorem sift_spec{F m n0:Nat}{v:V}{h:AH}{l:List Row}(H:Has n0 v h l)(hw:h.WF)(hn0:n0≤h.next){lo hi f:Nat}(hlo:lo≤4096)(hb:f+hi≤l.length)(hlen:l.length≤4096)(hF:5000<F)(hh:∀ i,lo<i→HeapAt l f hi i) :
  ∃ h' l',runC (EE F) (m+4) nzcb [v,.int .i64 (lo:Int),.int .i64 (hi:Int),.int .i64 (f:Int),cmpF] h=some (pack [],h')∧Has n0 v h' l'∧Old n0 h h'∧Re f (f+hi) l l'∧∀ i,lo≤i→HeapAt l' f hi i:=by
 rw [tzcb]
 simp only [zcb.fn,zcb.c0]
 refine jah (S:=zcb.P2) (out:=fun x=>∃ h' l',x=some (pack [],h')∧Has n0 v h' l'∧Old n0 h h'∧Re f (f+hi) l l'∧∀ i,lo≤i→HeapAt l' f hi i)
  (fun k s g=>∃ (r:Nat) (l1:List Row),hi≤r+k∧lo≤r∧r≤4096∧s=(v,(hi:Int),(f:Int),cmpF,(r:Int),())∧Has n0 v g l1∧Old n0 h g∧Re f (f+hi) l l1∧Sift l1 f lo hi r) ?_ ?_ hi F _ _
  ⟨lo,l,by omega,Nat.le_refl _,hlo,rfl,H,Old.refl hw _,Re.refl _ _ _,sift_start hh⟩ (by omega)
 ·rintro k s g n' ⟨r,l1,hk,hr,hr2,rfl,H1,og,re,hs⟩
  have hl1:=re.len
  have i1:IntKind.wrap .i64 (2*(r:Int))=((2*r:Nat):Int):=wi (by omega) (by omega)
  have i2:IntKind.wrap .i64 (((2*r:Nat):Int)+1)=((2*r+1:Nat):Int):=wi (by omega) (by omega)
  by_cases hc:2*r+1≥hi
  ·have c1:decide (((2*r+1:Nat):Int)≥(hi:Int))=true:=dT (by omega)
   refine .inr ⟨g,l1,?_,H1,og,re,sift_done hs fun c h1 h2=>by omega⟩
   simp only [zcb.l1,zcb.c1,zcb.k1,zcb.c2,zcb.k2,wr,i1,i2,c1,cond_true]
   rfl
  ·have c1:decide (((2*r+1:Nat):Int)≥(hi:Int))=false:=dF (by omega)
   have i3:IntKind.wrap .i64 (((2*r+1:Nat):Int)+1)=((2*r+2:Nat):Int):=wi (by omega) (by omega)
   have i4:IntKind.wrap .i64 ((f:Int)+((2*r+1:Nat):Int))=((f+(2*r+1):Nat):Int):=wi (by omega) (by omega)
   have i5:IntKind.wrap .i64 (((f+(2*r+1):Nat):Int)+1)=((f+(2*r+2):Nat):Int):=wi (by omega) (by omega)
   have i6:IntKind.wrap .i64 ((f:Int)+(r:Int))=((f+r:Nat):Int):=wi (by omega) (by omega)
   have fin:∀ (c:Nat) (g1:AH),(c=2*r+1∨c=2*r+2)→c<hi→Has n0 v g1 l1→Old n0 h g1→(∀ d,(d=2*r+1∨d=2*r+2)→d<hi→Le (rat l1 (f+d)) (rat l1 (f+c))) →
     (∃ s' h',zcb.r5 (cx F (m+3)) n' n' zcb.ret zcb.ret (v,(hi:Int),(f:Int),cmpF,(r:Int),(c:Int),()) g1=n' s' h' ∧
      ∃ (r:Nat) (l1:List Row),hi≤r+k∧lo≤r∧r≤4096∧s'=(v,(hi:Int),(f:Int),cmpF,(r:Int),())∧Has n0 v h' l1∧Old n0 h h'∧Re f (f+hi) l l1∧Sift l1 f lo hi r) ∨
     (∃ h' l',zcb.r5 (cx F (m+3)) n' n' zcb.ret zcb.ret (v,(hi:Int),(f:Int),cmpF,(r:Int),(c:Int),()) g1=some (pack [],h')∧Has n0 v h' l'∧Old n0 h h'∧Re f (f+hi) l l'∧∀ i,lo≤i→HeapAt l' f hi i):=by
    intro c g1 hc1 hc2 H2 og1 hmax
    have i7:IntKind.wrap .i64 ((f:Int)+(c:Int))=((f+c:Nat):Int):=wi (by omega) (by omega)
    obtain ⟨p,q,f1,u1,u2,u3,u4,u5,u6,u7,u8⟩:=cmp_at (F:=F) (m:=m) H2 og1.wf (Nat.le_trans hn0 og1.next) (i:=f+r) (j:=f+c) (by omega) (by omega)
    have of1:=og1.trans u7
    by_cases hlt:Lt (rat l1 (f+r)) (rat l1 (f+c))
    ·obtain ⟨p',q',f2,f3,w1,w2,w3,w4,w5,w6,w7,w8⟩:=jbs u6 of1.wf (i:=f+c) (j:=f+r) (by omega) (by omega)
     obtain rfl:=ptr_eq u1 w2
     obtain rfl:=ptr_eq u2 w1
     refine .inl ⟨_,f3,?_,c,_,by omega,by omega,by omega,rfl,w7,of1.trans w8,re.trans (Re.swap (by omega) (by omega) (by omega) (by omega) (by omega) (by omega)),sift_step hs hr hc1 hc2 (by omega) hlt hmax⟩
     simp only [zcb.r5,zcb.c5,zcb.k5,zcb.r6,zcb.c6,wr,i6,i7,u1,u2,jae,u3,jaf,u4,u5,jan,lt_true hlt,Bool.not_true,cond_false,w3,w4,w5,w6,jaj]
    ·refine .inr ⟨f1,l1,?_,u6,of1,re,sift_done hs fun d h1 h2=>(hmax d h1 h2).trans (not_lt.1 hlt)⟩
     simp only [zcb.r5,zcb.c5,zcb.k5,wr,i6,i7,u1,u2,jae,u3,jaf,u4,u5,jan,jbw hlt,Bool.not_false,cond_true]
     rfl
   by_cases hd:2*r+2<hi
   ·have c2:decide (IntKind.wrap .i64 (((2*r+1:Nat):Int)+1)<(hi:Int))=true:=by rw [i3];exact dT (by omega)
    obtain ⟨p,q,f1,u1,u2,u3,u4,u5,u6,u7,u8⟩:=cmp_at (F:=F) (m:=m) H1 og.wf (Nat.le_trans hn0 og.next) (i:=f+(2*r+1)) (j:=f+(2*r+2)) (by omega) (by omega)
    simp only [zcb.l1,zcb.c1,zcb.k1,zcb.c2,zcb.k2,zcb.r3,zcb.c3,wr,i1,i2,c1,cond_false,↓c2,cond_true,i4,i5,u1,u2,jae,u3,jaf,u4,u5,jan]
    by_cases hlt:Lt (rat l1 (f+(2*r+1))) (rat l1 (f+(2*r+2)))
    ·simp only [lt_true hlt,zcb.k3,zcb.c4,cond_true,wr,i3]
     refine fin (2*r+2) f1 (.inr rfl) hd u6 (og.trans u7) fun d h1 h2=>?_
     rcases h1 with rfl | rfl
     ·exact hlt.le
     ·exact Le.refl _
    ·simp only [jbw hlt,zcb.k3,cond_false]
     refine fin (2*r+1) f1 (.inl rfl) (by omega) u6 (og.trans u7) fun d h1 h2=>?_
     rcases h1 with rfl | rfl
     ·exact Le.refl _
     ·exact not_lt.1 hlt
   ·have c2:decide (IntKind.wrap .i64 (((2*r+1:Nat):Int)+1)<(hi:Int))=false:=by rw [i3];exact dF (by omega)
    simp only [zcb.l1,zcb.c1,zcb.k1,zcb.c2,zcb.k2,zcb.r3,zcb.c3,wr,i1,i2,c1,cond_false,↓c2,zcb.k3]
    refine fin (2*r+1) g (.inl rfl) (by omega) H1 og fun d h1 h2=>?_
    rcases h1 with rfl | rfl
    ·exact Le.refl _
    ·omega
 ·rintro s g n' ⟨r,l1,hk,hr,hr2,rfl,H1,og,re,hs⟩
  have i1:IntKind.wrap .i64 (2*(r:Int))=((2*r:Nat):Int):=wi (by omega) (by omega)
  have i2:IntKind.wrap .i64 (((2*r:Nat):Int)+1)=((2*r+1:Nat):Int):=wi (by omega) (by omega)
  have c1:decide (((2*r+1:Nat):Int)≥(hi:Int))=true:=dT (by omega)
  refine ⟨g,l1,?_,H1,og,re,sift_done hs fun c h1 h2=>by omega⟩
  simp only [zcb.l1,zcb.c1,zcb.k1,zcb.c2,zcb.k2,wr,i1,i2,c1,cond_true]
  rfl
theorem heap_spec{F m n0:Nat}{v:V}{h:AH}{l:List Row}(H:Has n0 v h l)(hw:h.WF)(hn0:n0≤h.next){a b:Nat}(hab:a≤b)(hb:b≤l.length)(hlen:l.length≤4096)(hF:5000<F) :
  ∃ h' l',runC (EE F) (m+5) nzbq [v,.int .i64 (a:Int),.int .i64 (b:Int),cmpF] h=some (pack [],h')∧Has n0 v h' l'∧Old n0 h h'∧Re a b l l'∧jca l' a b:=by
 rw [tzbq]
 obtain ⟨hi,rfl⟩:∃ hi,b=a+hi:=⟨b-a,by omega⟩
 have i1:IntKind.wrap .i64 (((a+hi:Nat):Int)-(a:Int))=(hi:Int):=wi (by omega) (by omega)
 have i2:IntKind.wrap .i64 ((hi:Int)-1)=(hi:Int)-1:=jao (by omega) (by omega)
 have i3:IntKind.wrap .i64 (((hi:Int)-1).tdiv 2)=(((hi-1) / 2:Nat):Int):=by
  cases hi with
  | zero=>rfl
  | succ hi =>
   have e:(((hi+1:Nat):Int)-1)=(hi:Int):=by omega
   have e2:((hi:Int)).tdiv 2=((hi / 2:Nat):Int):=by rw [Int.tdiv_eq_ediv_of_nonneg (by omega)];omega
   rw [e,e2]
   exact wi (by simp) (by omega)
 simp only [zbq.fn,zbq.c0,zbq.k2,zbq.c3,wr,i1,i2,i3]
 refine jah (S:=zbq.P8) (out:=fun x=>∃ h' l',x=some (pack [],h')∧Has n0 v h' l'∧Old n0 h h'∧Re a (a+hi) l l'∧jca l' a (a+hi))
  (fun k s g=>∃ (l1:List Row),k≤4096∧s=(v,cmpF,(a:Int),0,(hi:Int),(k:Int)-1,())∧Has n0 v g l1∧Old n0 h g∧Re a (a+hi) l l1∧∀ i,k≤i→HeapAt l1 a hi i) ?_ ?_ ((hi-1) / 2+1) F _ _
  ⟨l,by omega,by rw [show (((hi-1) / 2+1:Nat):Int)-1=(((hi-1) / 2:Nat):Int) by omega],H,Old.refl hw _,Re.refl _ _ _,fun i h1 c h2 h3=>by omega⟩ (by omega)
 ·rintro k s g n' ⟨l1,hk,rfl,H1,og,re,hh⟩
  have hl1:=re.len
  obtain ⟨g2,l2,e1,H2,o2,re2,hh2⟩:=sift_spec (F:=F) (m:=m) H1 og.wf (Nat.le_trans hn0 og.next) (lo:=k) (hi:=hi) (f:=a) (by omega) (by omega) (by omega) hF (fun i h1=>hh i (by omega))
  have e0:(((k+1:Nat):Int)-1)=(k:Int):=by omega
  rw [e0]
  have c1:decide ((k:Int)≥0)=true:=dT (by omega)
  have i4:IntKind.wrap .i64 ((k:Int)-1)=(k:Int)-1:=jao (by omega) (by omega)
  refine .inl ⟨_,g2,?_,l2,by omega,rfl,H2,og.trans o2,re.trans re2,hh2⟩
  simp only [zbq.l4,zbq.c4,zbq.k4,zbq.r6,zbq.c6,zbq.r5,zbq.c5,c1,cond_true,cxC,e1,jam,wr,i4]
 ·rintro s g n' ⟨l1,hk,rfl,H1,og,re,hh⟩
  have c1:decide ((((0:Nat):Int)-1)≥0)=false:=rfl
  simp only [zbq.l4,zbq.c4,zbq.k4,zbq.r7,zbq.c7,zbq.k7,c1,cond_false,wr,i2]
  refine jah (S:=zbq.P16) (out:=fun x=>∃ h' l',x=some (pack [],h')∧Has n0 v h' l'∧Old n0 h h'∧Re a (a+hi) l l'∧jca l' a (a+hi))
   (fun k s g=>∃ (l1:List Row),k≤hi∧s=(v,cmpF,(a:Int),0,(k:Int)-1,())∧Has n0 v g l1∧Old n0 h g∧Re a (a+hi) l l1∧(∀ i,HeapAt l1 a k i)∧jca l1 (a+k) (a+hi)∧∀ x y,x<k→k≤y→y<hi→Le (rat l1 (a+x)) (rat l1 (a+y))) ?_ ?_ hi F _ _
   ⟨l1,Nat.le_refl _,rfl,H1,og,re,fun i=>hh i (Nat.zero_le _),fun x y h1 h2 h3=>by omega,fun x y h1 h2 h3=>by omega⟩ (by omega)
  ·rintro k s g n'' ⟨l1,hk,rfl,H1,og,re,hh,hs,hx⟩
   have hl1:=re.len
   have e0:(((k+1:Nat):Int)-1)=(k:Int):=by omega
   rw [e0]
   have c1:decide ((k:Int)≥0)=true:=dT (by omega)
   have i4:IntKind.wrap .i64 ((k:Int)-1)=(k:Int)-1:=jao (by omega) (by omega)
   have i5:IntKind.wrap .i64 ((a:Int)+(k:Int))=((a+k:Nat):Int):=wi (by omega) (by omega)
   obtain ⟨p',q',f2,f3,w1,w2,w3,w4,w5,w6,w7,w8⟩:=jbs H1 og.wf (i:=a+k) (j:=a) (by omega) (by omega)
   have o3:=og.trans w8
   have sw:∀ x,rat (swapM l1 (a+k) a) (a+x)=if x=k then rat l1 a else if x=0 then rat l1 (a+k) else rat l1 (a+x):=by
    intro x
    rw [rat_swap (by omega) (by omega)]
    by_cases h1:x=k
    ·rw [if_pos (by omega),if_pos h1]
    ·rw [if_neg (by omega),if_neg h1]
     by_cases h2:x=0
     ·rw [if_pos (by omega),if_pos h2]
     ·rw [if_neg (by omega),if_neg h2]
   obtain ⟨g4,l4,e1,H4,o4,re4,hh4⟩:=sift_spec (F:=F) (m:=m) w7 o3.wf (Nat.le_trans hn0 o3.next) (lo:=0) (hi:=k) (f:=a) (by omega) (by rw [swapM_len];omega) (by rw [swapM_len];omega) hF (fun i h1 c h2 h3=>by
    rw [sw c,sw i,if_neg (by omega),if_neg (by omega),if_neg (by omega),if_neg (by omega)]
    exact hh i c h2 (by omega))
   have hmax:=heap_max hh
   rw [Nat.add_zero] at hmax
   have outk:∀ y,k≤y→rat l4 (a+y)=if y=k then rat l1 a else rat l1 (a+y):=by
    intro y hy
    rw [re4.out _ (by omega),sw y]
    by_cases h1:y=k
    ·rw [if_pos h1,if_pos h1]
    ·rw [if_neg h1,if_neg h1,if_neg (by omega)]
   have e1':runC (EE F) (m+4) nzcb [v,.int .i64 0,.int .i64 (k:Int),.int .i64 (a:Int),cmpF] f3=some (pack [],g4):=e1
   refine .inl ⟨_,g4,?_,l4,by omega,rfl,H4,o3.trans o4,(re.trans (Re.swap (by omega) (by omega) (by omega) (by omega) (by omega) (by omega))).trans (re4.weak (Nat.le_refl _) (by omega)),fun i=>hh4 i (Nat.zero_le _),?_,?_⟩
   ·simp only [zbq.l8,zbq.c8,zbq.k8,zbq.r10,zbq.c10,zbq.r9,zbq.c9,c1,cond_true,wr,i4,i5,w1,w2,w3,w4,w5,w6,jae,jaf,jaj,cxC,e1',jam]
   ·intro x y h1 h2 h3
    obtain ⟨x,rfl⟩:∃ x',x=a+x':=⟨x-a,by omega⟩
    obtain ⟨y,rfl⟩:∃ y',y=a+y':=⟨y-a,by omega⟩
    rw [outk x (by omega),outk y (by omega),if_neg (show ¬y=k by omega)]
    by_cases hxk:x=k
    ·rw [if_pos hxk]
     have:=hx 0 y (by omega) (by omega) (by omega)
     rw [Nat.add_zero] at this
     exact this
    ·rw [if_neg hxk];exact hs _ _ (by omega) h2 h3
   ·intro x y h1 h2 h3
    rw [outk y h2]
    refine re4.all (fun r=>Le r (if y=k then rat l1 a else rat l1 (a+y))) (fun z q1 q2=>?_) (a+x) (by omega) (by omega)
    obtain ⟨z,rfl⟩:∃ z',z=a+z':=⟨z-a,by omega⟩
    rw [sw z,if_neg (by omega)]
    have each:∀ w,w≤k→Le (rat l1 (a+w)) (if y=k then rat l1 a else rat l1 (a+y)):=by
     intro w hwk
     by_cases hy:y=k
     ·rw [if_pos hy];exact hmax w (by omega)
     ·rw [if_neg hy];exact hx w y (by omega) (by omega) h3
    by_cases hz:z=0
    ·rw [if_pos hz];exact each k (Nat.le_refl _)
    ·rw [if_neg hz];exact each z (by omega)
  ·rintro s g n'' ⟨l1,hk,rfl,H1,og,re,hh,hs,hx⟩
   refine ⟨g,l1,?_,H1,og,re,by simpa using hs⟩
   simp only [zbq.l8,zbq.c8,zbq.k8,c1,cond_false]
   rfl
end Go.Proofs.YtcmhoboglapbdaaDoor
namespace Go.Proofs.YtcmhoboglapbdaaDoor
open Go Ev
theorem Ev.Wrote.trans{h h' h'':AH}{b:Nat}(x:Wrote h h' b)(y:Wrote h' h'' b):Wrote h h'' b :=
 ⟨y.next.trans x.next,by rw [y.low,x.low];omega,fun b' hb=>(y.rest b' hb).trans (x.rest b' hb),y.wf⟩
theorem cell_ld{h:AH}{b e:Nat}{v:V}(hc:jal h b e [v]):ld (.ptr ⟨b,1,0⟩) h=some v:=ld_of (hc.read1 rfl rfl)
theorem cell_st{h:AH}{b e:Nat}{v w:V}(hc:jal h b e [v])(hw:h.WF)(h1:w.cells=[w])(h2:w.cell=true):∃ h',st 1 (.ptr ⟨b,1,0⟩) w h=some h'∧jal h' b e [w]∧Wrote h h' b:=by
 obtain ⟨h',w1,w2,w3,w4,w5,w6⟩:=hc.write hw (L:=1) (o:=0) (vs:=[w]) rfl (by simp [h2]) (by simp)
 refine ⟨h',st_of (by rw [h1];rfl) (by rw [h1];exact w1),?_,w3,w4,w5,w6⟩
 rw [putL_all [w] [v] rfl] at w2
 exact w2
theorem cell_al{h:AH}(hw:h.WF)(v:V)(e:Nat)(hc:v.cell=true):(al [v] e h).1=.ptr ⟨h.next,1,0⟩∧jal (al [v] e h).2 h.next e [v]∧(al [v] e h).2.next=h.next+1∧Old h.next h (al [v] e h).2:=by
 obtain ⟨c1,c2,c3,c4⟩:=jay hw [v] e (by simp [hc]) (by simp)
 exact ⟨c2,c1,c3,c4⟩
theorem nil_ptr(a:A):absNilCheck (.ptr a)=some (.ptr a):=rfl
theorem u64_range(x:Int):0≤IntKind.wrap .u64 x∧IntKind.wrap .u64 x<18446744073709551616:=by rw [wr_u64];omega
theorem next_spec{F m:Nat}{h:AH}(hw:h.WF){b e:Nat}{x:Int}(hc:jal h b e [.int .u64 x]) :
  ∃ y h',runC (EE F) (m+1) nzcc [.ptr ⟨b,1,0⟩] h=some (.int .u64 y,h')∧(0≤y∧y<18446744073709551616)∧jal h' b e [.int .u64 y]∧Wrote h h' b:=by
 rw [tzcc]
 obtain ⟨h1,s1,c1,w1⟩:=cell_st hc hw (w:=.int .u64 (ixor .u64 x (ishl .u64 x 13))) rfl rfl
 obtain ⟨h2,s2,c2,w2⟩:=cell_st c1 w1.wf (w:=.int .u64 (ixor .u64 (ixor .u64 x (ishl .u64 x 13)) (ishr .u64 (ixor .u64 x (ishl .u64 x 13)) 7))) rfl rfl
 obtain ⟨h3,s3,c3,w3⟩:=cell_st c2 w2.wf (w:=.int .u64 (ixor .u64 (ixor .u64 (ixor .u64 x (ishl .u64 x 13)) (ishr .u64 (ixor .u64 x (ishl .u64 x 13)) 7)) (ishl .u64 (ixor .u64 (ixor .u64 x (ishl .u64 x 13)) (ishr .u64 (ixor .u64 x (ishl .u64 x 13)) 7)) 17))) rfl rfl
 refine ⟨_,h3,?_,u64_range _,c3,(w1.trans w2).trans w3⟩
 simp only [zcc.fn,zcc.c0,nil_ptr,jae,cell_ld hc,jag,s1,jaj,cell_ld c1,s2,cell_ld c2,s3,cell_ld c3]
 rfl
abbrev lenTab:List Nat:=[0,1,2,2,3,3,3,3,4,4,4,4,4,4,4,4,5,5,5,5,5,5,5,5,5,5,5,5,5,5,5,5,6,6,6,6,6,6,6,6,6,6,6,6,6,6,6,6,6,6,6,6,6,6,6,6,6,6,6,6,6,6,6,6,7,7,7,7,7,7,7,7,7,7,7,7,7,7,7,7,7,7,7,7,7,7,7,7,7,7,7,7,7,7,7,7,7,7,7,7,7,7,7,7,7,7,7,7,7,7,7,7,7,7,7,7,7,7,7,7,7,7,7,7,7,7,7,7,8,8,8,8,8,8,8,8,8,8,8,8,8,8,8,8,8,8,8,8,8,8,8,8,8,8,8,8,8,8,8,8,8,8,8,8,8,8,8,8,8,8,8,8,8,8,8,8,8,8,8,8,8,8,8,8,8,8,8,8,8,8,8,8,8,8,8,8,8,8,8,8,8,8,8,8,8,8,8,8,8,8,8,8,8,8,8,8,8,8,8,8,8,8,8,8,8,8,8,8,8,8,8,8,8,8,8,8,8,8,8,8,8,8,8,8,8,8,8,8,8,8,8,8,8,8,8,8]
theorem lenTab_all:∀ n,n<256→(lenTab[n]?=some (lenTab.getD n 0))∧lenTab.getD n 0≤8∧n<2 ^ lenTab.getD n 0∧(0<n→2 ^ lenTab.getD n 0≤2*n):=by decide +kernel
def blen(n:Nat):Nat:=lenTab.getD n 0
set_option maxRecDepth 20000 in
theorem len64_spec{F m:Nat}{h:AH}{n:Nat}(hn:n<256):runC (EE F) (m+1) nzah [.int .u64 (n:Int)] h=some (.int .i64 ((blen n:Nat):Int),h):=by
 rw [tzah]
 obtain ⟨l1,l2,_⟩:=lenTab_all n hn
 have d1:decide ((n:Int)≥4294967296)=false:=dF (by omega)
 have d2:decide ((n:Int)≥65536)=false:=dF (by omega)
 have d3:decide ((n:Int)≥256)=false:=dF (by omega)
 have i1:IntKind.wrap .u8 (n:Int)=(n:Int):=by rw [wr_u8];omega
 have e1:ixZ lenTab (n:Int)=some (.int .u8 ((blen n:Nat):Int)):=by
  show (strAt lenTab (n:Int)).map _=_
  unfold strAt
  rw [if_pos (by omega),Int.toNat_natCast,l1];rfl
 have i2:IntKind.wrap .i64 ((blen n:Nat):Int)=((blen n:Nat):Int):=wi rfl (by unfold blen;omega)
 have i3:IntKind.wrap .i64 (0+((blen n:Nat):Int))=((blen n:Nat):Int):=wi (by omega) (by unfold blen;omega)
 simp only [zah.fn,zah.c0,zah.k0,zah.c1,zah.k1,zah.r4,zah.c4,zah.k4,zah.r7,zah.c7,zah.k7,zah.r10,zah.c10,d1,d2,d3,cond_false,wr,i1]
 rw [e1]
 simp only [jag,i2,i3]
 rfl
theorem len_spec{F m:Nat}{h:AH}{n:Nat}(hn:n<256):runC (EE F) (m+2) nzag [.int .u64 (n:Int)] h=some (.int .i64 ((blen n:Nat):Int),h):=by
 rw [tzag]
 simp only [zag.fn,zag.c0,zag.k0,zag.r2,zag.c2,cond_false,cxC,len64_spec hn,jan]
 rfl
theorem pow2_spec{F m:Nat}{h:AH}{n:Nat}(hn:n<256):runC (EE F) (m+3) nzbu [.int .i64 (n:Int)] h=some (.int .u64 ((2 ^ blen n:Nat):Int),h):=by
 rw [tzbu]
 obtain ⟨l1,l2,l3,l4⟩:=lenTab_all n hn
 have hb:blen n≤8:=l2
 have e1:ishl .u64 1 ((blen n:Nat):Int)=((2 ^ blen n:Nat):Int):=by
  unfold ishl
  have hbits:IntKind.u64.bits=64:=rfl
  rw [Int.toNat_natCast,hbits,Nat.min_eq_left (by omega),Int.one_mul,wr_u64]
  have h8:(2:Nat) ^ blen n≤2 ^ 8:=Nat.pow_le_pow_right (by omega) hb
  have:((2:Int) ^ blen n)=((2 ^ blen n:Nat):Int):=by simp
  rw [this]
  have h256:(2:Nat) ^ 8=256:=rfl
  generalize (2:Nat) ^ blen n=M at *
  omega
 have c1:¬(((blen n:Nat):Int)<0):=by omega
 simp only [zbu.fn,zbu.c0,wr,jcg (show n<18446744073709551616 by omega),cxC,len_spec hn,jan,if_neg c1,e1,jag]
 rfl
theorem iand_lt{y:Int}{M:Nat}(hM:0<M)(h2:M≤4294967296):∃ o:Nat,iand .u64 y (((M-1:Nat):Int))=(o:Int)∧o<M:=by
 refine ⟨(BitVec.ofInt 64 y &&& BitVec.ofInt 64 ((M-1:Nat):Int)).toNat,?_,?_⟩
 ·show IntKind.wrap .u64 _=_
  exact jcg (BitVec.isLt _)
 ·rw [BitVec.toNat_and]
  refine Nat.lt_of_le_of_lt Nat.and_le_right ?_
  rw [BitVec.toNat_ofInt]
  have:((2 ^ 64:Nat):Int)=18446744073709551616:=by decide
  rw [this]
  omega
theorem Has.beside{n0:Nat}{v:V}{g g':AH}{l:List Row}(H:Has n0 v g l){b:Nat}(w:Wrote g g' b)(hn:notIn v b):Has n0 v g' l :=
 ⟨H.own.keep fun b' hb=>w.rest b' (fun e=>hb (e▸hn)),H.ok⟩
theorem Has.off{n0:Nat}{v:V}{g:AH}{l:List Row}(H:Has n0 v g l)(hw:g.WF){b:Nat}(hb:g.next≤b):notIn v b :=
 Classical.byContradiction fun h=>by have:=H.own.alive hw h;omega
theorem break_spec{F m n0:Nat}{v:V}{h:AH}{l:List Row}(H:Has n0 v h l)(hw:h.WF)(hn0:n0≤h.next){a b:Nat}(hab:a≤b)(hb:b≤l.length)(hlen:l.length≤200)(hF:5000<F) :
  ∃ h' l',runC (EE F) (m+4) nzbo [v,.int .i64 (a:Int),.int .i64 (b:Int),cmpF] h=some (pack [],h')∧Has n0 v h' l'∧Old n0 h h'∧Re a b l l':=by
 rw [tzbo]
 obtain ⟨n,rfl⟩:∃ n,b=a+n:=⟨b-a,by omega⟩
 have i1:IntKind.wrap .i64 (((a+n:Nat):Int)-(a:Int))=(n:Int):=wi (by omega) (by omega)
 simp only [zbo.fn,zbo.c0,wr,i1]
 by_cases h8:8≤n
 ·have d1:decide ((n:Int)≥8)=true:=dT (by omega)
  obtain ⟨a1,a2,a3,a4⟩:=cell_al hw (.int .u64 0) jbt rfl
  obtain ⟨h2,s1,s2,s3⟩:=cell_st a2 a4.wf (w:=.int .u64 (n:Int)) rfl rfl
  have o2:Old h.next h h2:=a4.trans (s3.old (Nat.le_refl _))
  have hoff:notIn v h.next:=H.off hw (Nat.le_refl _)
  have H2:=H.old hw o2
  obtain ⟨q1,q2,q3,q4⟩:=lenTab_all n (by omega)
  have hM1:n<2 ^ blen n:=q3
  have hM2:2 ^ blen n≤2*n:=q4 (by omega)
  have p1:=pow2_spec (F:=F) (m:=m) (h:=h2) (n:=n) (by omega)
  generalize 2 ^ blen n=M at *
  have e4:((n:Int)).tdiv 4=((n / 4:Nat):Int):=by rw [Int.tdiv_eq_ediv_of_nonneg (by omega)];omega
  have i2:IntKind.wrap .i64 ((n / 4:Nat):Int)=((n / 4:Nat):Int):=wi rfl (by omega)
  have i3:IntKind.wrap .i64 (((n / 4:Nat):Int)*2)=((n / 4*2:Nat):Int):=wi (by omega) (by omega)
  have i4:IntKind.wrap .i64 ((a:Int)+((n / 4*2:Nat):Int))=((a+n / 4*2:Nat):Int):=wi (by omega) (by omega)
  have i5:IntKind.wrap .i64 (((a+n / 4*2:Nat):Int)-1)=((a+n / 4*2-1:Nat):Int):=wi (by omega) (by omega)
  have i6:IntKind.wrap .i64 (((a+n / 4*2:Nat):Int)+1)=((a+n / 4*2+1:Nat):Int):=wi (by omega) (by omega)
  simp only [d1,zbo.k1,zbo.c2,cond_true,a1,wr,jcg (show n<18446744073709551616 by omega),s1,jaj,cxC,p1,jan,e4,i2,i3,i4,i5]
  refine jah (S:=zbo.P10) (out:=fun x=>∃ h' l',x=some (pack [],h')∧Has n0 v h' l'∧Old n0 h h'∧Re a (a+n) l l')
   (fun k s g=>∃ (x:Nat) (y:Int) (l1:List Row),x+k=a+n / 4*2+2∧a≤x∧s=(v,(a:Int),(n:Int),.ptr ⟨h.next,1,0⟩,(M:Int),(x:Int),())∧jal g h.next jbt [.int .u64 y]∧Has n0 v g l1∧Old n0 h g∧Re a (a+n) l l1) ?_ ?_ 3 F _ _
   ⟨a+n / 4*2-1,(n:Int),l,by omega,by omega,rfl,s2,H2,o2.weak hn0,Re.refl _ _ _⟩ (by omega)
  ·rintro k s g n' ⟨x,y,l1,hk,hx,rfl,hc,H1,og,re⟩
   have hl1:=re.len
   obtain ⟨z,g1,t1,t2,t3,t4⟩:=next_spec (F:=F) (m:=m+2) og.wf hc
   obtain ⟨o,e1,e2⟩:=iand_lt (y:=z) (M:=M) (by omega) (by omega)
   have H3:=H1.beside t4 hoff
   have og1:Old n0 h g1:=og.trans (t4.old hn0)
   have d2:decide ((x:Int)≤((a+n / 4*2+1:Nat):Int))=true:=dT (by omega)
   have j1:IntKind.wrap .u64 ((M:Int)-1)=((M-1:Nat):Int):=by rw [wr_u64];omega
   have j2:IntKind.wrap .i64 (o:Int)=(o:Int):=wi rfl (by omega)
   have j3:IntKind.wrap .i64 ((x:Int)+1)=((x+1:Nat):Int):=wi (by omega) (by omega)
   have fin:∀ o':Nat,o'<n→∃ g2 l2,zbo.r10 (cx F (m+3)) (zbo.r6 (cx F (m+3)) n' zbo.ret zbo.ret) (zbo.r6 (cx F (m+3)) n' zbo.ret zbo.ret) zbo.ret zbo.ret (v,(a:Int),(n:Int),.ptr ⟨h.next,1,0⟩,(M:Int),(x:Int),(o':Int),()) g1=n' (v,(a:Int),(n:Int),.ptr ⟨h.next,1,0⟩,(M:Int),((x+1:Nat):Int),()) g2 ∧
     jal g2 h.next jbt [.int .u64 z]∧Has n0 v g2 l2∧Old n0 h g2∧Re a (a+n) l l2:=by
    intro o' ho
    have j4:IntKind.wrap .i64 ((a:Int)+(o':Int))=((a+o':Nat):Int):=wi (by omega) (by omega)
    obtain ⟨p',q',f2,f3,w1,w2,w3,w4,w5,w6,w7,w8,w9⟩:=swap_keep H3 og1.wf (i:=a+o') (j:=x) (by omega) (by omega)
    have hc3:jal f3 h.next jbt [.int .u64 z]:=t3.mono (w9 _ hoff)
    refine ⟨f3,_,?_,hc3,w7,og1.trans w8,re.trans (Re.swap (by omega) (by omega) (by omega) (by omega) (by omega) (by omega))⟩
    simp only [zbo.r10,zbo.c10,zbo.r6,zbo.c6,wr,j3,j4,w1,w2,w3,w4,w5,w6,jae,jaf,jaj]
   refine .inl ?_
   suffices hin:∃ g2 l2,zbo.l5 (cx F (m+3)) n' zbo.ret zbo.ret (v,(a:Int),(n:Int),.ptr ⟨h.next,1,0⟩,(M:Int),(x:Int),()) g=n' (v,(a:Int),(n:Int),.ptr ⟨h.next,1,0⟩,(M:Int),((x+1:Nat):Int),()) g2 ∧
     jal g2 h.next jbt [.int .u64 z]∧Has n0 v g2 l2∧Old n0 h g2∧Re a (a+n) l l2 by
    obtain ⟨g2,l2,z1,z2,z3,z4,z5⟩:=hin
    exact ⟨_,g2,z1,x+1,z,l2,by omega,by omega,rfl,z2,z3,z4,z5⟩
   simp only [zbo.l5,zbo.c5,zbo.k5,wr,e4,i2,i3,i4,i6,d2,cond_true,zbo.r7,zbo.c7,cxC,t1,jan,j1,e1,j2,zbo.k7,zbo.c8]
   by_cases ho:o≥n
   ·have d3:decide ((o:Int)≥(n:Int))=true:=dT (by omega)
    have j4:IntKind.wrap .i64 ((o:Int)-(n:Int))=((o-n:Nat):Int):=wi (by omega) (by omega)
    simp only [d3,zbo.k8,zbo.c9,cond_true,wr,j4]
    exact fin (o-n) (by omega)
   ·have d3:decide ((o:Int)≥(n:Int))=false:=dF (by omega)
    simp only [d3,zbo.k8,cond_false]
    exact fin o (by omega)
  ·rintro s g n' ⟨x,y,l1,hk,hx,rfl,hc,H1,og,re⟩
   have d2:decide ((x:Int)≤((a+n / 4*2+1:Nat):Int))=false:=dF (by omega)
   refine ⟨g,l1,?_,H1,og,re⟩
   simp only [zbo.l5,zbo.c5,zbo.k5,wr,e4,i2,i3,i4,i6,d2,cond_false]
   rfl
 ·have d1:decide ((n:Int)≥8)=false:=dF (by omega)
  simp only [d1,zbo.k1,cond_false]
  exact ⟨h,l,rfl,H,Old.refl hw _,Re.refl _ _ _⟩
theorem rev_spec{F m n0:Nat}{v:V}{h:AH}{l:List Row}(H:Has n0 v h l)(hw:h.WF){a b:Nat}(hab:a<b)(hb:b≤l.length)(hlen:l.length≤4096)(hF:5000<F) :
  ∃ h' l',runC (EE F) (m+1) nzca [v,.int .i64 (a:Int),.int .i64 (b:Int),cmpF] h=some (pack [],h')∧Has n0 v h' l'∧Old n0 h h'∧Re a b l l':=by
 rw [tzca]
 have i1:IntKind.wrap .i64 ((b:Int)-1)=((b-1:Nat):Int):=wi (by omega) (by omega)
 simp only [zca.fn,zca.c0,wr,i1]
 refine jah (S:=zca.P4) (out:=fun x=>∃ h' l',x=some (pack [],h')∧Has n0 v h' l'∧Old n0 h h'∧Re a b l l')
  (fun k s g=>∃ (i j:Nat) (l1:List Row),j≤i+k∧a≤i∧i≤4096∧j<b∧s=(v,(i:Int),(j:Int),())∧Has n0 v g l1∧Old n0 h g∧Re a b l l1) ?_ ?_ b F _ _
  ⟨a,b-1,l,by omega,by omega,by omega,by omega,rfl,H,Old.refl hw _,Re.refl _ _ _⟩ (by omega)
 ·rintro k s g n' ⟨i,j,l1,hk,hi,hi2,hj,rfl,H1,og,re⟩
  have hl1:=re.len
  by_cases hij:i<j
  ·have c1:decide ((i:Int)<(j:Int))=true:=dT (by omega)
   have i3:IntKind.wrap .i64 ((i:Int)+1)=((i+1:Nat):Int):=wi (by omega) (by omega)
   have i4:IntKind.wrap .i64 ((j:Int)-1)=((j-1:Nat):Int):=wi (by omega) (by omega)
   obtain ⟨p',q',f2,f3,w1,w2,w3,w4,w5,w6,w7,w8⟩:=jbs H1 og.wf (i:=j) (j:=i) (by omega) (by omega)
   refine .inl ⟨_,f3,?_,i+1,j-1,_,by omega,by omega,by omega,by omega,rfl,w7,og.trans w8,re.trans (Re.swap (by omega) (by omega) (by omega) (by omega) (by omega) (by omega))⟩
   simp only [zca.l2,zca.c2,zca.k2,zca.r3,zca.c3,c1,cond_true,w1,w2,w3,w4,w5,w6,jae,jaf,jaj,wr,i3,i4]
  ·have c1:decide ((i:Int)<(j:Int))=false:=dF (by omega)
   refine .inr ⟨g,l1,?_,H1,og,re⟩
   simp only [zca.l2,zca.c2,zca.k2,c1,cond_false]
   rfl
 ·rintro s g n' ⟨i,j,l1,hk,hi,hi2,hj,rfl,H1,og,re⟩
  have c1:decide ((i:Int)<(j:Int))=false:=dF (by omega)
  refine ⟨g,l1,?_,H1,og,re⟩
  simp only [zca.l2,zca.c2,zca.k2,c1,cond_false]
  rfl
structure Sw (n0 bs:Nat) (v:V) (g:AH) (l:List Row):Prop where
 has:Has n0 v g l
 cell:∃ c:Int,jal g bs T_int [.int .i64 c]
 off:notIn v bs
theorem Sw.old{n0 bs:Nat}{v:V}{g g':AH}{l:List Row}(S:Sw n0 bs v g l)(hw:g.WF)(o:Old g.next g g'):Sw n0 bs v g' l :=
 ⟨S.has.old hw o,let ⟨c,hc⟩:=S.cell;⟨c,hc.old hw o⟩,S.off⟩
theorem ex0(a b:V):jat (.tuple [a,b]) 0=some a:=rfl
theorem ex1(a b:V):jat (.tuple [a,b]) 1=some b:=rfl
theorem order2_spec{F m n0 bs:Nat}{v:V}{h:AH}{l:List Row}(S:Sw n0 bs v h l)(hw:h.WF)(hn:n0≤bs)(hb:bs<h.next){i j:Nat}(hi:i<l.length)(hj:j<l.length) :
  ∃ i' j' h',runC (EE F) (m+4) nzbv [v,.int .i64 (i:Int),.int .i64 (j:Int),.ptr ⟨bs,1,0⟩,cmpF] h=some (.tuple [.int .i64 ((i':Nat):Int),.int .i64 ((j':Nat):Int)],h')∧Sw n0 bs v h' l∧Old bs h h'∧((i'=i∧j'=j)∨(i'=j∧j'=i)):=by
 rw [tzbv]
 obtain ⟨p,q,f1,u1,u2,u3,u4,u5,u6,u7,u8⟩:=cmp_at (F:=F) (m:=m) S.has hw (by omega) (i:=j) (j:=i) hj hi
 have S1:=S.old hw u8
 simp only [zbv.fn,zbv.c0,zbv.k0,zbv.c1,u1,u2,jae,u3,jaf,u4,u5,jan]
 by_cases hlt:Lt (rat l j) (rat l i)
 ·obtain ⟨c,hc⟩:=S1.cell
  obtain ⟨f2,s1,s2,s3⟩:=cell_st hc u8.wf (w:=.int .i64 (IntKind.wrap .i64 (c+1))) rfl rfl
  refine ⟨j,i,f2,?_,⟨S1.has.beside s3 S.off,⟨_,s2⟩,S.off⟩,(u8.weak (by omega)).trans (s3.old (Nat.le_refl _)),.inr ⟨rfl,rfl⟩⟩
  simp only [lt_true hlt,zbv.k1,zbv.c2,cond_true,nil_ptr,jae,cell_ld hc,jag,wr,s1,jaj]
  rfl
 ·refine ⟨i,j,f1,?_,S1,u8.weak (by omega),.inl ⟨rfl,rfl⟩⟩
  simp only [jbw hlt,zbv.k1,zbv.r4,zbv.c4,cond_false]
  rfl
theorem median_spec{F m n0 bs:Nat}{v:V}{h:AH}{l:List Row}(S:Sw n0 bs v h l)(hw:h.WF)(hn:n0≤bs)(hb:bs<h.next){i j k:Nat}(hi:i<l.length)(hj:j<l.length)(hk:k<l.length) :
  ∃ x h',runC (EE F) (m+5) nzbt [v,.int .i64 (i:Int),.int .i64 (j:Int),.int .i64 (k:Int),.ptr ⟨bs,1,0⟩,cmpF] h=some (.int .i64 ((x:Nat):Int),h')∧Sw n0 bs v h' l∧Old bs h h'∧(x=i∨x=j∨x=k):=by
 rw [tzbt]
 obtain ⟨a1,b1,h1,e1,S1,o1,q1⟩:=order2_spec (F:=F) (m:=m) S hw hn hb hi hj
 obtain ⟨a2,b2,h2,e2,S2,o2,q2⟩:=order2_spec (F:=F) (m:=m) S1 o1.wf hn (Nat.lt_of_lt_of_le hb o1.next) (i:=b1) (j:=k) (by omega) hk
 have o12:=o1.trans o2
 obtain ⟨a3,b3,h3,e3,S3,o3,q3⟩:=order2_spec (F:=F) (m:=m) S2 o2.wf hn (Nat.lt_of_lt_of_le hb o12.next) (i:=a1) (j:=a2) (by omega) (by omega)
 refine ⟨b3,h3,?_,S3,o12.trans o3,by omega⟩
 simp only [zbt.fn,zbt.c0,cxC,e1,jam,ex0,ex1,jag,e2,e3]
 rfl
theorem medAdj_spec{F m n0 bs:Nat}{v:V}{h:AH}{l:List Row}(S:Sw n0 bs v h l)(hw:h.WF)(hn:n0≤bs)(hb:bs<h.next){i:Nat}(h1i:1≤i)(hi:i+1<l.length)(hlen:l.length≤4096) :
  ∃ x h',runC (EE F) (m+6) nzbs [v,.int .i64 (i:Int),.ptr ⟨bs,1,0⟩,cmpF] h=some (.int .i64 ((x:Nat):Int),h')∧Sw n0 bs v h' l∧Old bs h h'∧(i-1≤x∧x≤i+1):=by
 rw [tzbs]
 obtain ⟨x,h1,e1,S1,o1,q1⟩:=median_spec (F:=F) (m:=m) S hw hn hb (i:=i-1) (j:=i) (k:=i+1) (by omega) (by omega) hi
 have i3:IntKind.wrap .i64 ((i:Int)+1)=((i+1:Nat):Int):=wi (by omega) (by omega)
 have i4:IntKind.wrap .i64 ((i:Int)-1)=((i-1:Nat):Int):=wi (by omega) (by omega)
 refine ⟨x,h1,?_,S1,o1,by omega⟩
 simp only [zbs.fn,zbs.c0,wr,i3,i4,cxC,e1,jan]
 rfl
theorem pivot_spec{F m n0:Nat}{v:V}{h:AH}{l:List Row}(H:Has n0 v h l)(hw:h.WF)(hn0:n0≤h.next){a b:Nat}(hab:a+8≤b)(hb:b≤l.length)(hlen:l.length≤4096) :
  ∃ (p:Nat) (hint:Int) (h':AH),runC (EE F) (m+7) nzbp [v,.int .i64 (a:Int),.int .i64 (b:Int),cmpF] h=some (.tuple [.int .i64 (p:Int),.int .i64 hint],h')∧a≤p∧p<b∧Has n0 v h' l∧Old n0 h h':=by
 rw [tzbp]
 obtain ⟨n,rfl⟩:∃ n,b=a+n:=⟨b-a,by omega⟩
 obtain ⟨a1,a2,a3,a4⟩:=cell_al hw (.int .i64 0) T_int rfl
 generalize hh1:(al [.int .i64 0] T_int h).2=h1 at *
 have S1:Sw n0 h.next v h1 l:=⟨H.old hw a4,⟨_,a2⟩,H.off hw (Nat.le_refl _)⟩
 have i1:IntKind.wrap .i64 (((a+n:Nat):Int)-(a:Int))=(n:Int):=wi (by omega) (by omega)
 have e4:((n:Int)).tdiv 4=((n / 4:Nat):Int):=by rw [Int.tdiv_eq_ediv_of_nonneg (by omega)];omega
 have i2:IntKind.wrap .i64 ((n / 4:Nat):Int)=((n / 4:Nat):Int):=wi rfl (by omega)
 have j1:IntKind.wrap .i64 (((n / 4:Nat):Int)*1)=((n / 4:Nat):Int):=wi (by omega) (by omega)
 have j2:IntKind.wrap .i64 (((n / 4:Nat):Int)*2)=((n / 4*2:Nat):Int):=wi (by omega) (by omega)
 have j3:IntKind.wrap .i64 (((n / 4:Nat):Int)*3)=((n / 4*3:Nat):Int):=wi (by omega) (by omega)
 have k1:IntKind.wrap .i64 ((a:Int)+((n / 4:Nat):Int))=((a+n / 4:Nat):Int):=wi (by omega) (by omega)
 have k2:IntKind.wrap .i64 ((a:Int)+((n / 4*2:Nat):Int))=((a+n / 4*2:Nat):Int):=wi (by omega) (by omega)
 have k3:IntKind.wrap .i64 ((a:Int)+((n / 4*3:Nat):Int))=((a+n / 4*3:Nat):Int):=wi (by omega) (by omega)
 have d1:decide ((n:Int)≥8)=true:=dT (by omega)
 simp only [zbp.fn,zbp.c0,zbp.k5,zbp.c6,a1,hh1,wr,i1,e4,i2,j1,j2,j3,k1,k2,k3,d1,zbp.k6,zbp.c7,cond_true]
 have fin:∀ (x y z:Nat) (g:AH),a≤x→x<a+n→a≤y→y<a+n→a≤z→z<a+n→Sw n0 h.next v g l→Old h.next h g→h.next<g.next →
   ∃ (p:Nat) (hint:Int) (h':AH),zbp.r11 (cx F (m+6)) (zbp.r12 (cx F (m+6)) zbp.ret zbp.ret) zbp.ret (v,cmpF,.ptr ⟨h.next,1,0⟩,(x:Int),(y:Int),(z:Int),()) g=some (.tuple [.int .i64 (p:Int),.int .i64 hint],h')∧a≤p∧p<a+n∧Has n0 v h' l∧Old n0 h h':=by
  intro x y z g h1 h2 h3 h4 h5 h6 S og hg
  obtain ⟨p,g1,e1,S2,o1,q1⟩:=median_spec (F:=F) (m:=m+1) S og.wf hn0 hg (i:=x) (j:=y) (k:=z) (by omega) (by omega) (by omega)
  obtain ⟨c,hc⟩:=S2.cell
  have og1:=(og.trans o1).weak hn0
  simp only [zbp.r11,zbp.c11,cxC,e1,jan,zbp.r12,zbp.c12,cell_ld hc,jag,zbp.k12,zbp.c14,zbp.k14]
  by_cases c0:(c==0)=true
  ·refine ⟨p,1,g1,?_,by omega,by omega,S2.has,og1⟩
   simp only [c0,cond_true,zbp.c15]
   rfl
  ·have c0':(c==0)=false:=by simpa using c0
   by_cases c12:(c==12)=true
   ·refine ⟨p,2,g1,?_,by omega,by omega,S2.has,og1⟩
    simp only [c0',cond_false,zbp.c16,zbp.k16,c12,cond_true,zbp.c17]
    rfl
   ·have c12':(c==12)=false:=by simpa using c12
    refine ⟨p,0,g1,?_,by omega,by omega,S2.has,og1⟩
    simp only [c0',cond_false,zbp.c16,zbp.k16,c12',zbp.c13]
    rfl
 by_cases h50:50≤n
 ·have d2:decide ((n:Int)≥50)=true:=dT (by omega)
  obtain ⟨x,g1,e1,S2,o1,q1⟩:=medAdj_spec (F:=F) (m:=m) S1 a4.wf hn0 (by omega) (i:=a+n / 4) (by omega) (by omega) hlen
  have o11:=a4.trans o1
  have hn1:h.next<g1.next:=by have:=o1.next;omega
  obtain ⟨y,g2,e2,S3,o2,q2⟩:=medAdj_spec (F:=F) (m:=m) S2 o1.wf hn0 hn1 (i:=a+n / 4*2) (by omega) (by omega) hlen
  have hn2:h.next<g2.next:=by have:=o2.next;omega
  obtain ⟨z,g3,e3,S4,o3,q3⟩:=medAdj_spec (F:=F) (m:=m) S3 o2.wf hn0 hn2 (i:=a+n / 4*3) (by omega) (by omega) hlen
  simp only [d2,zbp.k7,zbp.c8,cond_true,cxC,e1,e2,e3,jan]
  exact fin x y z g3 (by omega) (by omega) (by omega) (by omega) (by omega) (by omega) S4 ((o11.trans o2).trans o3) (by have:=o3.next;omega)
 ·have d2:decide ((n:Int)≥50)=false:=dF (by omega)
  simp only [d2,zbp.k7,cond_false]
  exact fin _ _ _ h1 (by omega) (by omega) (by omega) (by omega) (by omega) (by omega) S1 a4 (by omega)
end Go.Proofs.YtcmhoboglapbdaaDoor
namespace Go.Proofs.YtcmhoboglapbdaaDoor
open Go Ev
structure PI (l:List Row) (a b i j:Nat) (pv:Row) (L:Row→Prop):Prop where
 top:rat l a=pv
 lo:∀ k,a<k→k<i→L (rat l k)
 hi:∀ k,j<k→k<b→¬L (rat l k)
 b1:a+1≤i
 b2:i≤j+1
 b3:j<b
theorem PI.up{l:List Row}{a b i j:Nat}{pv:Row}{L:Row→Prop}(p:PI l a b i j pv L)(h:i≤j)(hL:L (rat l i)):PI l a b (i+1) j pv L :=
 ⟨p.top,fun k h1 h2=>by
  by_cases e:k=i
  ·rw [e];exact hL
  ·exact p.lo k h1 (by omega),p.hi,by have:=p.b1;omega,by omega,p.b3⟩
theorem PI.down{l:List Row}{a b i j:Nat}{pv:Row}{L:Row→Prop}(p:PI l a b i j pv L)(h:i≤j)(hL:¬L (rat l j)):PI l a b i (j-1) pv L :=
 ⟨p.top,p.lo,fun k h1 h2=>by
  by_cases e:k=j
  ·rw [e];exact hL
  ·exact p.hi k (by omega) h2,p.b1,by have:=p.b1;omega,by have:=p.b3;omega⟩
theorem PI.swap{l:List Row}{a b i j:Nat}{pv:Row}{L:Row→Prop}(p:PI l a b i j pv L)(hb:b≤l.length)(h:i<j)(h1:L (rat l j))(h2:¬L (rat l i)):PI (swapM l j i) a b (i+1) (j-1) pv L:=by
 have b1:=p.b1
 have b3:=p.b3
 have sw:=fun k=>rat_swap (l:=l) (i:=j) (j:=i) (by omega) (by omega) k
 refine ⟨?_,fun k q1 q2=>?_,fun k q1 q2=>?_,by omega,by omega,by omega⟩
 ·rw [sw,if_neg (by omega),if_neg (by omega)];exact p.top
 ·rw [sw,if_neg (by omega)]
  by_cases e:k=i
  ·rw [if_pos e];exact h1
  ·rw [if_neg e];exact p.lo k q1 (by omega)
 ·rw [sw]
  by_cases e:k=j
  ·rw [if_pos e];exact h2
  ·rw [if_neg e,if_neg (by omega)];exact p.hi k (by omega) q2
def PState(n0 a b:Nat)(v:V)(h:AH)(l:List Row)(pv:Row)(L:Row→Prop)(k:Nat)(s:V×Int×V×Int×Int×Unit)(g:AH):Prop :=
 ∃ (i j:Nat) (l1:List Row),j+1≤i+k∧s=(v,(a:Int),cmpF,(i:Int),(j:Int),())∧PI l1 a b i j pv L∧Has n0 v g l1∧Old n0 h g∧Re a b l l1
theorem part_up3{F m n0:Nat}{v:V}{out:Res→Prop}{JE:V×Int×V×Int×Int×Unit→AH→Res}{Jr:_}{h:AH}{l:List Row}{a b i j:Nat}{pv:Row}(H:Has n0 v h l)(hw:h.WF)(hn0:n0≤h.next)(hF:5000<F)(hb:b≤l.length)(hlen:l.length≤4096)(pi:PI l a b i j pv (fun r=>Lt r pv))
  (fin:∀ i1 h1,i≤i1→PI l a b i1 j pv (fun r=>Lt r pv)→(j<i1∨¬(fun r=>Lt r pv) (rat l i1))→Has n0 v h1 l→Old n0 h h1→out (JE (v,(a:Int),cmpF,((i1:Nat):Int),(j:Int),()) h1)) :
  out (jaw zbx.P6 F (fun t h n'=>zbx.l3 (cx F (m+3)) n' JE Jr t h) (v,(a:Int),cmpF,(i:Int),(j:Int),()) h):=by
 refine jah (S:=zbx.P6) (out:=out) (fun k s g=>∃ i1:Nat,(j+1≤i1+k∧i≤i1)∧s=(v,(a:Int),cmpF,(i1:Int),(j:Int),())∧PI l a b i1 j pv (fun r=>Lt r pv)∧Has n0 v g l∧Old n0 h g) ?_ ?_ (j+1) F _ _ ⟨i,⟨by omega,Nat.le_refl _⟩,rfl,pi,H,Old.refl hw _⟩ (by have:=pi.b3;omega)
 ·rintro k s g n' ⟨i1,⟨hk,hmo⟩,rfl,p1,H1,og⟩
  have b1:=p1.b1
  have b2:=p1.b2
  have b3:=p1.b3
  by_cases hij:i1≤j
  ·have c1:decide ((i1:Int)≤(j:Int))=true:=dT (by omega)
   have i3:IntKind.wrap .i64 ((i1:Int)+1)=((i1+1:Nat):Int):=wi (by omega) (by omega)
   obtain ⟨p,q,f1,u1,u2,u3,u4,u5,u6,u7,u8⟩:=cmp_at (F:=F) (m:=m) H1 og.wf (Nat.le_trans hn0 og.next) (i:=i1) (j:=a) (by omega) (by omega)
   by_cases hL:Lt (rat l i1) (rat l a)
   ·refine .inl ⟨_,f1,?_,i1+1,⟨by omega,by omega⟩,rfl,p1.up hij (show (fun r=>Lt r pv) (rat l i1) by rw [← p1.top];exact hL),u6,og.trans u7⟩
    simp only [zbx.l3,zbx.c3,zbx.k3,zbx.r4,zbx.c4,c1,cond_true,u1,u2,jae,u3,jaf,u4,u5,jan,lt_true hL,Bool.not_true,Bool.not_false,cond_true,cond_false,wr,i3]
   ·refine .inr ?_
    have hfin:=fin i1 f1 hmo p1 (.inr (show ¬(fun r=>Lt r pv) (rat l i1) by rw [← p1.top];exact hL)) u6 (og.trans u7)
    simp only [zbx.l3,zbx.c3,zbx.k3,c1,cond_true,u1,u2,jae,u3,jaf,u4,u5,jan,jbw hL,Bool.not_true,Bool.not_false,cond_true,cond_false]
    exact hfin
  ·refine .inr ?_
   have c1:decide ((i1:Int)≤(j:Int))=false:=dF (by omega)
   have hfin:=fin i1 g hmo p1 (.inl (by omega)) H1 og
   simp only [zbx.l3,zbx.c3,zbx.k3,c1,cond_false]
   exact hfin
 ·rintro s g n' ⟨i1,⟨hk,hmo⟩,rfl,p1,H1,og⟩
  have c1:decide ((i1:Int)≤(j:Int))=false:=dF (by omega)
  have hfin:=fin i1 g hmo p1 (.inl (by omega)) H1 og
  simp only [zbx.l3,zbx.c3,zbx.k3,c1,cond_false]
  exact hfin
theorem part_down5{F m n0:Nat}{v:V}{out:Res→Prop}{JE:V×Int×V×Int×Int×Unit→AH→Res}{Jr:_}{h:AH}{l:List Row}{a b i j:Nat}{pv:Row}(H:Has n0 v h l)(hw:h.WF)(hn0:n0≤h.next)(hF:5000<F)(hb:b≤l.length)(hlen:l.length≤4096)(pi:PI l a b i j pv (fun r=>Lt r pv))
  (fin:∀ j1 h1,j1≤j→PI l a b i j1 pv (fun r=>Lt r pv)→(j1<i∨(fun r=>Lt r pv) (rat l j1))→Has n0 v h1 l→Old n0 h h1→out (JE (v,(a:Int),cmpF,(i:Int),((j1:Nat):Int),()) h1)) :
  out (jaw zbx.P6 F (fun t h n'=>zbx.l5 (cx F (m+3)) n' JE Jr t h) (v,(a:Int),cmpF,(i:Int),(j:Int),()) h):=by
 refine jah (S:=zbx.P6) (out:=out) (fun k s g=>∃ j1:Nat,(j1+1≤i+k∧j1≤j)∧s=(v,(a:Int),cmpF,(i:Int),(j1:Int),())∧PI l a b i j1 pv (fun r=>Lt r pv)∧Has n0 v g l∧Old n0 h g) ?_ ?_ (j+1) F _ _ ⟨j,⟨by omega,Nat.le_refl _⟩,rfl,pi,H,Old.refl hw _⟩ (by have:=pi.b3;omega)
 ·rintro k s g n' ⟨j1,⟨hk,hmo⟩,rfl,p1,H1,og⟩
  have b1:=p1.b1
  have b2:=p1.b2
  have b3:=p1.b3
  by_cases hij:i≤j1
  ·have c1:decide ((i:Int)≤(j1:Int))=true:=dT (by omega)
   have i3:IntKind.wrap .i64 ((j1:Int)-1)=((j1-1:Nat):Int):=wi (by omega) (by omega)
   obtain ⟨p,q,f1,u1,u2,u3,u4,u5,u6,u7,u8⟩:=cmp_at (F:=F) (m:=m) H1 og.wf (Nat.le_trans hn0 og.next) (i:=j1) (j:=a) (by omega) (by omega)
   by_cases hL:Lt (rat l j1) (rat l a)
   ·refine .inr ?_
    have hfin:=fin j1 f1 hmo p1 (.inr (show (fun r=>Lt r pv) (rat l j1) by rw [← p1.top];exact hL)) u6 (og.trans u7)
    simp only [zbx.l5,zbx.c5,zbx.k5,c1,cond_true,u1,u2,jae,u3,jaf,u4,u5,jan,lt_true hL,Bool.not_true,Bool.not_false,cond_true,cond_false]
    exact hfin
   ·refine .inl ⟨_,f1,?_,j1-1,⟨by omega,by omega⟩,rfl,p1.down hij (show ¬(fun r=>Lt r pv) (rat l j1) by rw [← p1.top];exact hL),u6,og.trans u7⟩
    simp only [zbx.l5,zbx.c5,zbx.k5,zbx.r6,zbx.c6,c1,cond_true,u1,u2,jae,u3,jaf,u4,u5,jan,jbw hL,Bool.not_true,Bool.not_false,cond_true,cond_false,wr,i3]
  ·refine .inr ?_
   have c1:decide ((i:Int)≤(j1:Int))=false:=dF (by omega)
   have hfin:=fin j1 g hmo p1 (.inl (by omega)) H1 og
   simp only [zbx.l5,zbx.c5,zbx.k5,c1,cond_false]
   exact hfin
 ·rintro s g n' ⟨j1,⟨hk,hmo⟩,rfl,p1,H1,og⟩
  have c1:decide ((i:Int)≤(j1:Int))=false:=dF (by omega)
  have hfin:=fin j1 g hmo p1 (.inl (by omega)) H1 og
  simp only [zbx.l5,zbx.c5,zbx.k5,c1,cond_false]
  exact hfin
theorem part_up13{F m n0:Nat}{v:V}{out:Res→Prop}{JE:V×Int×V×Int×Int×Unit→AH→Res}{J5:_}{J4:_}{Jr:_}{h:AH}{l:List Row}{a b i j:Nat}{pv:Row}(H:Has n0 v h l)(hw:h.WF)(hn0:n0≤h.next)(hF:5000<F)(hb:b≤l.length)(hlen:l.length≤4096)(pi:PI l a b i j pv (fun r=>Lt r pv))
  (fin:∀ i1 h1,i≤i1→PI l a b i1 j pv (fun r=>Lt r pv)→(j<i1∨¬(fun r=>Lt r pv) (rat l i1))→Has n0 v h1 l→Old n0 h h1→out (JE (v,(a:Int),cmpF,((i1:Nat):Int),(j:Int),()) h1)) :
  out (jaw zbx.P6 F (fun t h n'=>zbx.l13 (cx F (m+3)) n' JE J5 J4 Jr t h) (v,(a:Int),cmpF,(i:Int),(j:Int),()) h):=by
 refine jah (S:=zbx.P6) (out:=out) (fun k s g=>∃ i1:Nat,(j+1≤i1+k∧i≤i1)∧s=(v,(a:Int),cmpF,(i1:Int),(j:Int),())∧PI l a b i1 j pv (fun r=>Lt r pv)∧Has n0 v g l∧Old n0 h g) ?_ ?_ (j+1) F _ _ ⟨i,⟨by omega,Nat.le_refl _⟩,rfl,pi,H,Old.refl hw _⟩ (by have:=pi.b3;omega)
 ·rintro k s g n' ⟨i1,⟨hk,hmo⟩,rfl,p1,H1,og⟩
  have b1:=p1.b1
  have b2:=p1.b2
  have b3:=p1.b3
  by_cases hij:i1≤j
  ·have c1:decide ((i1:Int)≤(j:Int))=true:=dT (by omega)
   have i3:IntKind.wrap .i64 ((i1:Int)+1)=((i1+1:Nat):Int):=wi (by omega) (by omega)
   obtain ⟨p,q,f1,u1,u2,u3,u4,u5,u6,u7,u8⟩:=cmp_at (F:=F) (m:=m) H1 og.wf (Nat.le_trans hn0 og.next) (i:=i1) (j:=a) (by omega) (by omega)
   by_cases hL:Lt (rat l i1) (rat l a)
   ·refine .inl ⟨_,f1,?_,i1+1,⟨by omega,by omega⟩,rfl,p1.up hij (show (fun r=>Lt r pv) (rat l i1) by rw [← p1.top];exact hL),u6,og.trans u7⟩
    simp only [zbx.l13,zbx.c13,zbx.k13,zbx.r14,zbx.c14,c1,cond_true,u1,u2,jae,u3,jaf,u4,u5,jan,lt_true hL,Bool.not_true,Bool.not_false,cond_true,cond_false,wr,i3]
   ·refine .inr ?_
    have hfin:=fin i1 f1 hmo p1 (.inr (show ¬(fun r=>Lt r pv) (rat l i1) by rw [← p1.top];exact hL)) u6 (og.trans u7)
    simp only [zbx.l13,zbx.c13,zbx.k13,c1,cond_true,u1,u2,jae,u3,jaf,u4,u5,jan,jbw hL,Bool.not_true,Bool.not_false,cond_true,cond_false]
    exact hfin
  ·refine .inr ?_
   have c1:decide ((i1:Int)≤(j:Int))=false:=dF (by omega)
   have hfin:=fin i1 g hmo p1 (.inl (by omega)) H1 og
   simp only [zbx.l13,zbx.c13,zbx.k13,c1,cond_false]
   exact hfin
 ·rintro s g n' ⟨i1,⟨hk,hmo⟩,rfl,p1,H1,og⟩
  have c1:decide ((i1:Int)≤(j:Int))=false:=dF (by omega)
  have hfin:=fin i1 g hmo p1 (.inl (by omega)) H1 og
  simp only [zbx.l13,zbx.c13,zbx.k13,c1,cond_false]
  exact hfin
theorem part_down15{F m n0:Nat}{v:V}{out:Res→Prop}{JE:V×Int×V×Int×Int×Unit→AH→Res}{J5:_}{J4:_}{Jr:_}{h:AH}{l:List Row}{a b i j:Nat}{pv:Row}(H:Has n0 v h l)(hw:h.WF)(hn0:n0≤h.next)(hF:5000<F)(hb:b≤l.length)(hlen:l.length≤4096)(pi:PI l a b i j pv (fun r=>Lt r pv))
  (fin:∀ j1 h1,j1≤j→PI l a b i j1 pv (fun r=>Lt r pv)→(j1<i∨(fun r=>Lt r pv) (rat l j1))→Has n0 v h1 l→Old n0 h h1→out (JE (v,(a:Int),cmpF,(i:Int),((j1:Nat):Int),()) h1)) :
  out (jaw zbx.P6 F (fun t h n'=>zbx.l15 (cx F (m+3)) n' JE J5 J4 Jr t h) (v,(a:Int),cmpF,(i:Int),(j:Int),()) h):=by
 refine jah (S:=zbx.P6) (out:=out) (fun k s g=>∃ j1:Nat,(j1+1≤i+k∧j1≤j)∧s=(v,(a:Int),cmpF,(i:Int),(j1:Int),())∧PI l a b i j1 pv (fun r=>Lt r pv)∧Has n0 v g l∧Old n0 h g) ?_ ?_ (j+1) F _ _ ⟨j,⟨by omega,Nat.le_refl _⟩,rfl,pi,H,Old.refl hw _⟩ (by have:=pi.b3;omega)
 ·rintro k s g n' ⟨j1,⟨hk,hmo⟩,rfl,p1,H1,og⟩
  have b1:=p1.b1
  have b2:=p1.b2
  have b3:=p1.b3
  by_cases hij:i≤j1
  ·have c1:decide ((i:Int)≤(j1:Int))=true:=dT (by omega)
   have i3:IntKind.wrap .i64 ((j1:Int)-1)=((j1-1:Nat):Int):=wi (by omega) (by omega)
   obtain ⟨p,q,f1,u1,u2,u3,u4,u5,u6,u7,u8⟩:=cmp_at (F:=F) (m:=m) H1 og.wf (Nat.le_trans hn0 og.next) (i:=j1) (j:=a) (by omega) (by omega)
   by_cases hL:Lt (rat l j1) (rat l a)
   ·refine .inr ?_
    have hfin:=fin j1 f1 hmo p1 (.inr (show (fun r=>Lt r pv) (rat l j1) by rw [← p1.top];exact hL)) u6 (og.trans u7)
    simp only [zbx.l15,zbx.c15,zbx.k15,c1,cond_true,u1,u2,jae,u3,jaf,u4,u5,jan,lt_true hL,Bool.not_true,Bool.not_false,cond_true,cond_false]
    exact hfin
   ·refine .inl ⟨_,f1,?_,j1-1,⟨by omega,by omega⟩,rfl,p1.down hij (show ¬(fun r=>Lt r pv) (rat l j1) by rw [← p1.top];exact hL),u6,og.trans u7⟩
    simp only [zbx.l15,zbx.c15,zbx.k15,zbx.r16,zbx.c16,c1,cond_true,u1,u2,jae,u3,jaf,u4,u5,jan,jbw hL,Bool.not_true,Bool.not_false,cond_true,cond_false,wr,i3]
  ·refine .inr ?_
   have c1:decide ((i:Int)≤(j1:Int))=false:=dF (by omega)
   have hfin:=fin j1 g hmo p1 (.inl (by omega)) H1 og
   simp only [zbx.l15,zbx.c15,zbx.k15,c1,cond_false]
   exact hfin
 ·rintro s g n' ⟨j1,⟨hk,hmo⟩,rfl,p1,H1,og⟩
  have c1:decide ((i:Int)≤(j1:Int))=false:=dF (by omega)
  have hfin:=fin j1 g hmo p1 (.inl (by omega)) H1 og
  simp only [zbx.l15,zbx.c15,zbx.k15,c1,cond_false]
  exact hfin
theorem eq_up3{F m n0:Nat}{v:V}{out:Res→Prop}{JE:V×Int×V×Int×Int×Unit→AH→Res}{J1:_}{J0:_}{Jr:_}{h:AH}{l:List Row}{a b i j:Nat}{pv:Row}(H:Has n0 v h l)(hw:h.WF)(hn0:n0≤h.next)(hF:5000<F)(hb:b≤l.length)(hlen:l.length≤4096)(pi:PI l a b i j pv (fun r=>¬Lt pv r))
  (fin:∀ i1 h1,i≤i1→PI l a b i1 j pv (fun r=>¬Lt pv r)→(j<i1∨¬(fun r=>¬Lt pv r) (rat l i1))→Has n0 v h1 l→Old n0 h h1→out (JE (v,(a:Int),cmpF,((i1:Nat):Int),(j:Int),()) h1)) :
  out (jaw zby.P6 F (fun t h n'=>zby.l3 (cx F (m+3)) n' JE J1 J0 Jr t h) (v,(a:Int),cmpF,(i:Int),(j:Int),()) h):=by
 refine jah (S:=zby.P6) (out:=out) (fun k s g=>∃ i1:Nat,(j+1≤i1+k∧i≤i1)∧s=(v,(a:Int),cmpF,(i1:Int),(j:Int),())∧PI l a b i1 j pv (fun r=>¬Lt pv r)∧Has n0 v g l∧Old n0 h g) ?_ ?_ (j+1) F _ _ ⟨i,⟨by omega,Nat.le_refl _⟩,rfl,pi,H,Old.refl hw _⟩ (by have:=pi.b3;omega)
 ·rintro k s g n' ⟨i1,⟨hk,hmo⟩,rfl,p1,H1,og⟩
  have b1:=p1.b1
  have b2:=p1.b2
  have b3:=p1.b3
  by_cases hij:i1≤j
  ·have c1:decide ((i1:Int)≤(j:Int))=true:=dT (by omega)
   have i3:IntKind.wrap .i64 ((i1:Int)+1)=((i1+1:Nat):Int):=wi (by omega) (by omega)
   obtain ⟨p,q,f1,u1,u2,u3,u4,u5,u6,u7,u8⟩:=cmp_at (F:=F) (m:=m) H1 og.wf (Nat.le_trans hn0 og.next) (i:=a) (j:=i1) (by omega) (by omega)
   by_cases hL:Lt (rat l a) (rat l i1)
   ·refine .inr ?_
    have hfin:=fin i1 f1 hmo p1 (.inr (show ¬(fun r=>¬Lt pv r) (rat l i1) by rw [← p1.top];exact fun hh=>hh hL)) u6 (og.trans u7)
    simp only [zby.l3,zby.c3,zby.k3,c1,cond_true,u1,u2,jae,u3,jaf,u4,u5,jan,lt_true hL,Bool.not_true,Bool.not_false,cond_true,cond_false]
    exact hfin
   ·refine .inl ⟨_,f1,?_,i1+1,⟨by omega,by omega⟩,rfl,p1.up hij (show (fun r=>¬Lt pv r) (rat l i1) by rw [← p1.top];exact hL),u6,og.trans u7⟩
    simp only [zby.l3,zby.c3,zby.k3,zby.r4,zby.c4,c1,cond_true,u1,u2,jae,u3,jaf,u4,u5,jan,jbw hL,Bool.not_true,Bool.not_false,cond_true,cond_false,wr,i3]
  ·refine .inr ?_
   have c1:decide ((i1:Int)≤(j:Int))=false:=dF (by omega)
   have hfin:=fin i1 g hmo p1 (.inl (by omega)) H1 og
   simp only [zby.l3,zby.c3,zby.k3,c1,cond_false]
   exact hfin
 ·rintro s g n' ⟨i1,⟨hk,hmo⟩,rfl,p1,H1,og⟩
  have c1:decide ((i1:Int)≤(j:Int))=false:=dF (by omega)
  have hfin:=fin i1 g hmo p1 (.inl (by omega)) H1 og
  simp only [zby.l3,zby.c3,zby.k3,c1,cond_false]
  exact hfin
theorem eq_down5{F m n0:Nat}{v:V}{out:Res→Prop}{JE:V×Int×V×Int×Int×Unit→AH→Res}{J1:_}{J0:_}{Jr:_}{h:AH}{l:List Row}{a b i j:Nat}{pv:Row}(H:Has n0 v h l)(hw:h.WF)(hn0:n0≤h.next)(hF:5000<F)(hb:b≤l.length)(hlen:l.length≤4096)(pi:PI l a b i j pv (fun r=>¬Lt pv r))
  (fin:∀ j1 h1,j1≤j→PI l a b i j1 pv (fun r=>¬Lt pv r)→(j1<i∨(fun r=>¬Lt pv r) (rat l j1))→Has n0 v h1 l→Old n0 h h1→out (JE (v,(a:Int),cmpF,(i:Int),((j1:Nat):Int),()) h1)) :
  out (jaw zby.P6 F (fun t h n'=>zby.l5 (cx F (m+3)) n' JE J1 J0 Jr t h) (v,(a:Int),cmpF,(i:Int),(j:Int),()) h):=by
 refine jah (S:=zby.P6) (out:=out) (fun k s g=>∃ j1:Nat,(j1+1≤i+k∧j1≤j)∧s=(v,(a:Int),cmpF,(i:Int),(j1:Int),())∧PI l a b i j1 pv (fun r=>¬Lt pv r)∧Has n0 v g l∧Old n0 h g) ?_ ?_ (j+1) F _ _ ⟨j,⟨by omega,Nat.le_refl _⟩,rfl,pi,H,Old.refl hw _⟩ (by have:=pi.b3;omega)
 ·rintro k s g n' ⟨j1,⟨hk,hmo⟩,rfl,p1,H1,og⟩
  have b1:=p1.b1
  have b2:=p1.b2
  have b3:=p1.b3
  by_cases hij:i≤j1
  ·have c1:decide ((i:Int)≤(j1:Int))=true:=dT (by omega)
   have i3:IntKind.wrap .i64 ((j1:Int)-1)=((j1-1:Nat):Int):=wi (by omega) (by omega)
   obtain ⟨p,q,f1,u1,u2,u3,u4,u5,u6,u7,u8⟩:=cmp_at (F:=F) (m:=m) H1 og.wf (Nat.le_trans hn0 og.next) (i:=a) (j:=j1) (by omega) (by omega)
   by_cases hL:Lt (rat l a) (rat l j1)
   ·refine .inl ⟨_,f1,?_,j1-1,⟨by omega,by omega⟩,rfl,p1.down hij (show ¬(fun r=>¬Lt pv r) (rat l j1) by rw [← p1.top];exact fun hh=>hh hL),u6,og.trans u7⟩
    simp only [zby.l5,zby.c5,zby.k5,zby.r6,zby.c6,c1,cond_true,u1,u2,jae,u3,jaf,u4,u5,jan,lt_true hL,Bool.not_true,Bool.not_false,cond_true,cond_false,wr,i3]
   ·refine .inr ?_
    have hfin:=fin j1 f1 hmo p1 (.inr (show (fun r=>¬Lt pv r) (rat l j1) by rw [← p1.top];exact hL)) u6 (og.trans u7)
    simp only [zby.l5,zby.c5,zby.k5,c1,cond_true,u1,u2,jae,u3,jaf,u4,u5,jan,jbw hL,Bool.not_true,Bool.not_false,cond_true,cond_false]
    exact hfin
  ·refine .inr ?_
   have c1:decide ((i:Int)≤(j1:Int))=false:=dF (by omega)
   have hfin:=fin j1 g hmo p1 (.inl (by omega)) H1 og
   simp only [zby.l5,zby.c5,zby.k5,c1,cond_false]
   exact hfin
 ·rintro s g n' ⟨j1,⟨hk,hmo⟩,rfl,p1,H1,og⟩
  have c1:decide ((i:Int)≤(j1:Int))=false:=dF (by omega)
  have hfin:=fin j1 g hmo p1 (.inl (by omega)) H1 og
  simp only [zby.l5,zby.c5,zby.k5,c1,cond_false]
  exact hfin
theorem PI.part{l:List Row}{a b i j:Nat}{pv:Row}(p:PI l a b i j pv (fun r=>Lt r pv))(hb:b≤l.length)(h:j<i) :
  rat (swapM l a j) j=pv∧(∀ k,a≤k→k<j→Lt (rat (swapM l a j) k) pv)∧∀ k,j<k→k<b→¬Lt (rat (swapM l a j) k) pv:=by
 have b1:=p.b1
 have b2:=p.b2
 have b3:=p.b3
 have sw:=fun k=>rat_swap (l:=l) (i:=a) (j:=j) (by omega) (by omega) k
 refine ⟨?_,fun k q1 q2=>?_,fun k q1 q2=>?_⟩
 ·rw [sw]
  by_cases e:j=a
  ·rw [if_pos e,e];exact p.top
  ·rw [if_neg e,if_pos rfl];exact p.top
 ·rw [sw]
  by_cases e:k=a
  ·rw [if_pos e];exact p.lo j (by omega) (by omega)
  ·rw [if_neg e,if_neg (by omega)];exact p.lo k (by omega) (by omega)
 ·rw [sw,if_neg (by omega),if_neg (by omega)];exact p.hi k (by omega) q2
theorem pi_start{l:List Row}{a b p:Nat}(L:Row→Prop)(hb:b≤l.length)(h1:a≤p)(h2:p<b):PI (swapM l p a) a b (a+1) (b-1) (rat l p) L:=by
 refine ⟨?_,fun k q1 q2=>by omega,fun k q1 q2=>by omega,Nat.le_refl _,by omega,by omega⟩
 rw [rat_swap (by omega) (by omega)]
 by_cases e:a=p
 ·rw [if_pos e,e]
 ·rw [if_neg e,if_pos rfl]
theorem part_spec{F m n0:Nat}{v:V}{h:AH}{l:List Row}(H:Has n0 v h l)(hw:h.WF)(hn0:n0≤h.next){a b p:Nat}(h1:a≤p)(h2:p<b)(hb:b≤l.length)(hlen:l.length≤4096)(hF:5000<F) :
  ∃ (mid:Nat) (fl:Bool) (h':AH) (l':List Row),runC (EE F) (m+4) nzbx [v,.int .i64 (a:Int),.int .i64 (b:Int),.int .i64 (p:Int),cmpF] h=some (.tuple [.int .i64 (mid:Int),.bool fl],h')∧Has n0 v h' l'∧Old n0 h h'∧Re a b l l' ∧
   a≤mid∧mid<b∧rat l' mid=rat l p∧(∀ k,a≤k→k<mid→Lt (rat l' k) (rat l p))∧∀ k,mid<k→k<b→¬Lt (rat l' k) (rat l p):=by
 rw [tzbx]
 have i1:IntKind.wrap .i64 ((a:Int)+1)=((a+1:Nat):Int):=wi (by omega) (by omega)
 have i2:IntKind.wrap .i64 ((b:Int)-1)=((b-1:Nat):Int):=wi (by omega) (by omega)
 obtain ⟨x1,x2,g1,g2,w1,w2,w3,w4,w5,w6,H2,o2⟩:=jbs H hw (i:=p) (j:=a) (by omega) (by omega)
 have re2:Re a b l (swapM l p a):=Re.swap (by omega) (by omega) h1 h2 (Nat.le_refl _) (by omega)
 have p2:=pi_start (fun r=>Lt r (rat l p)) hb h1 h2
 have len2:(swapM l p a).length=l.length:=swapM_len _ _ _
 simp only [zbx.fn,zbx.c0,w1,w2,w3,w4,w5,w6,jae,jaf,jaj,wr,i1,i2]
 generalize hpv:rat l p=pv at *
 generalize hl2:swapM l p a=l2 at *
 refine part_up3 (out:=fun x=>∃ (mid:Nat) (fl:Bool) (h':AH) (l':List Row),x=some (.tuple [.int .i64 (mid:Int),.bool fl],h')∧Has n0 v h' l'∧Old n0 h h'∧Re a b l l' ∧
   a≤mid∧mid<b∧rat l' mid=pv∧(∀ k,a≤k→k<mid→Lt (rat l' k) pv)∧∀ k,mid<k→k<b→¬Lt (rat l' k) pv) H2 o2.wf (Nat.le_trans hn0 o2.next) hF (by omega) (by omega) p2 (fun i h3 m3 p3 q3 H3 o3=>?_)
 have o23:=o2.trans o3
 refine part_down5 (out:=fun x=>∃ (mid:Nat) (fl:Bool) (h':AH) (l':List Row),x=some (.tuple [.int .i64 (mid:Int),.bool fl],h')∧Has n0 v h' l'∧Old n0 h h'∧Re a b l l' ∧
   a≤mid∧mid<b∧rat l' mid=pv∧(∀ k,a≤k→k<mid→Lt (rat l' k) pv)∧∀ k,mid<k→k<b→¬Lt (rat l' k) pv) H3 o23.wf (Nat.le_trans hn0 o23.next) hF (by omega) (by omega) p3 (fun j h4 m4 p4 q4 H4 o4=>?_)
 have o24:=o23.trans o4
 have b1:=p4.b1
 have b2:=p4.b2
 have b3:=p4.b3
 have last:∀ (i j:Nat) (g:AH) (l3:List Row),PI l3 a b i j pv (fun r=>Lt r pv)→j<i→Has n0 v g l3→Old n0 h g→Re a b l l3→∃ x1 x2 g1 g2,ixS 34 v (a:Int)=some (.ptr x1)∧ixS 34 v (j:Int)=some (.ptr x2)∧ldA 34 (.ptr x1) g=some (.agg (rowL (rat l3 a)))∧ldA 34 (.ptr x2) g=some (.agg (rowL (rat l3 j))) ∧
   st 34 (.ptr x2) (.agg (rowL (rat l3 a))) g=some g1∧st 34 (.ptr x1) (.agg (rowL (rat l3 j))) g1=some g2∧∃ l',Has n0 v g2 l'∧Old n0 h g2∧Re a b l l' ∧
   a≤j∧j<b∧rat l' j=pv∧(∀ k,a≤k→k<j→Lt (rat l' k) pv)∧∀ k,j<k→k<b→¬Lt (rat l' k) pv:=by
  intro i j g l3 p3 hji H3 o3 re3
  have b1:=p3.b1
  have b2:=p3.b2
  have b3:=p3.b3
  have hl3:=re3.len
  obtain ⟨x1,x2,g1,g2,w1,w2,w3,w4,w5,w6,H5,o5⟩:=jbs H3 o3.wf (i:=a) (j:=j) (by omega) (by omega)
  obtain ⟨q1,q2,q3⟩:=p3.part (by omega) hji
  exact ⟨x1,x2,g1,g2,w1,w2,w3,w4,w5,w6,_,H5,o3.trans o5,re3.trans (Re.swap (by omega) (by omega) (by omega) (by omega) (by omega) (by omega)),by omega,by omega,q1,q2,q3⟩
 by_cases hij:j<i
 ·obtain ⟨x1,x2,g1,g2,w1,w2,w3,w4,w5,w6,l',H5,z⟩:=last i j h4 l2 p4 hij H4 o24 re2
  have c1:decide ((i:Int)>(j:Int))=true:=dT (by omega)
  refine ⟨j,true,g2,l',?_,H5,z⟩
  simp only [zbx.r7,zbx.c7,zbx.k7,zbx.c8,c1,cond_true,w1,w2,w3,w4,w5,w6,jae,jaf,jaj]
  rfl
 ·have c1:decide ((i:Int)>(j:Int))=false:=dF (by omega)
  have hLj:Lt (rat l2 j) pv:=q4.resolve_left hij
  have hLi:¬Lt (rat l2 i) pv:=q3.resolve_left (by omega)
  have hne:i≠j:=fun e=>hLi (e▸hLj)
  have j1:IntKind.wrap .i64 ((i:Int)+1)=((i+1:Nat):Int):=wi (by omega) (by omega)
  have j2:IntKind.wrap .i64 ((j:Int)-1)=((j-1:Nat):Int):=wi (by omega) (by omega)
  obtain ⟨x1,x2,g1,g2,w1,w2,w3,w4,w5,w6,H5,o5⟩:=jbs H4 o24.wf (i:=j) (j:=i) (by omega) (by omega)
  have p5:=p4.swap (by omega) (by omega) hLj hLi
  have re5:Re a b l (swapM l2 j i):=re2.trans (Re.swap (by omega) (by omega) (by omega) (by omega) (by omega) (by omega))
  simp only [zbx.r7,zbx.c7,zbx.k7,zbx.r10,zbx.c10,c1,cond_false,w1,w2,w3,w4,w5,w6,jae,jaf,jaj,wr,j1,j2]
  refine jah (S:=zbx.P6) (out:=fun x=>∃ (mid:Nat) (fl:Bool) (h':AH) (l':List Row),x=some (.tuple [.int .i64 (mid:Int),.bool fl],h')∧Has n0 v h' l'∧Old n0 h h'∧Re a b l l' ∧
   a≤mid∧mid<b∧rat l' mid=pv∧(∀ k,a≤k→k<mid→Lt (rat l' k) pv)∧∀ k,mid<k→k<b→¬Lt (rat l' k) pv)
   (PState n0 a b v h l pv (fun r=>Lt r pv)) ?_ ?_ b F _ _ ⟨i+1,j-1,_,by omega,rfl,p5,H5,o24.trans o5,re5⟩ (by omega)
  ·rintro k s g n' ⟨i,j,l3,hk,rfl,p6,H6,o6,re6⟩
   have hl3:=re6.len
   refine part_up13 (J5:=n') (out:=fun x=>(∃ s' h',x=n' s' h'∧PState n0 a b v h l pv (fun r=>Lt r pv) k s' h')∨∃ (mid:Nat) (fl:Bool) (h':AH) (l':List Row),x=some (.tuple [.int .i64 (mid:Int),.bool fl],h')∧Has n0 v h' l'∧Old n0 h h'∧Re a b l l' ∧
   a≤mid∧mid<b∧rat l' mid=pv∧(∀ k,a≤k→k<mid→Lt (rat l' k) pv)∧∀ k,mid<k→k<b→¬Lt (rat l' k) pv) H6 o6.wf (Nat.le_trans hn0 o6.next) hF (by omega) (by omega) p6 (fun i7 h7 m7 p7 q7 H7 o7=>?_)
   have o67:=o6.trans o7
   refine part_down15 (J5:=n') (out:=fun x=>(∃ s' h',x=n' s' h'∧PState n0 a b v h l pv (fun r=>Lt r pv) k s' h')∨∃ (mid:Nat) (fl:Bool) (h':AH) (l':List Row),x=some (.tuple [.int .i64 (mid:Int),.bool fl],h')∧Has n0 v h' l'∧Old n0 h h'∧Re a b l l' ∧
   a≤mid∧mid<b∧rat l' mid=pv∧(∀ k,a≤k→k<mid→Lt (rat l' k) pv)∧∀ k,mid<k→k<b→¬Lt (rat l' k) pv) H7 o67.wf (Nat.le_trans hn0 o67.next) hF (by omega) (by omega) p7 (fun j8 h8 m8 p8 q8 H8 o8=>?_)
   have o68:=o67.trans o8
   have b1:=p8.b1
   have b2:=p8.b2
   have b3:=p8.b3
   have b4:=p7.b3
   have b5:=p6.b1
   by_cases hij:j8<i7
   ·obtain ⟨x1,x2,g1,g2,w1,w2,w3,w4,w5,w6,l',H5,z⟩:=last i7 j8 h8 l3 p8 hij H8 o68 re6
    have c1:decide ((i7:Int)>(j8:Int))=true:=dT (by omega)
    refine .inr ⟨j8,false,g2,l',?_,H5,z⟩
    simp only [zbx.r17,zbx.c17,zbx.k17,zbx.r21,zbx.c21,c1,cond_true,w1,w2,w3,w4,w5,w6,jae,jaf,jaj]
    rfl
   ·have c1:decide ((i7:Int)>(j8:Int))=false:=dF (by omega)
    have hLj:Lt (rat l3 j8) pv:=q8.resolve_left hij
    have hLi:¬Lt (rat l3 i7) pv:=q7.resolve_left (by omega)
    have hne:i7≠j8:=fun e=>hLi (e▸hLj)
    have j1:IntKind.wrap .i64 ((i7:Int)+1)=((i7+1:Nat):Int):=wi (by omega) (by omega)
    have j2:IntKind.wrap .i64 ((j8:Int)-1)=((j8-1:Nat):Int):=wi (by omega) (by omega)
    obtain ⟨x1,x2,g1,g2,w1,w2,w3,w4,w5,w6,H9,o9⟩:=jbs H8 o68.wf (i:=j8) (j:=i7) (by omega) (by omega)
    refine .inl ⟨_,g2,?_,i7+1,j8-1,_,by omega,rfl,p8.swap (by omega) (by omega) hLj hLi,H9,o68.trans o9,re6.trans (Re.swap (by omega) (by omega) (by omega) (by omega) (by omega) (by omega))⟩
    simp only [zbx.r17,zbx.c17,zbx.k17,zbx.r18,zbx.c18,c1,cond_false,w1,w2,w3,w4,w5,w6,jae,jaf,jaj,wr,j1,j2]
  ·rintro s g n' ⟨i,j,l3,hk,rfl,p6,H6,o6,re6⟩
   have hl3:=re6.len
   refine part_up13 (J5:=n') (out:=fun x=>∃ (mid:Nat) (fl:Bool) (h':AH) (l':List Row),x=some (.tuple [.int .i64 (mid:Int),.bool fl],h')∧Has n0 v h' l'∧Old n0 h h'∧Re a b l l' ∧
   a≤mid∧mid<b∧rat l' mid=pv∧(∀ k,a≤k→k<mid→Lt (rat l' k) pv)∧∀ k,mid<k→k<b→¬Lt (rat l' k) pv) H6 o6.wf (Nat.le_trans hn0 o6.next) hF (by omega) (by omega) p6 (fun i7 h7 m7 p7 q7 H7 o7=>?_)
   have o67:=o6.trans o7
   refine part_down15 (J5:=n') (out:=fun x=>∃ (mid:Nat) (fl:Bool) (h':AH) (l':List Row),x=some (.tuple [.int .i64 (mid:Int),.bool fl],h')∧Has n0 v h' l'∧Old n0 h h'∧Re a b l l' ∧
   a≤mid∧mid<b∧rat l' mid=pv∧(∀ k,a≤k→k<mid→Lt (rat l' k) pv)∧∀ k,mid<k→k<b→¬Lt (rat l' k) pv) H7 o67.wf (Nat.le_trans hn0 o67.next) hF (by omega) (by omega) p7 (fun j8 h8 m8 p8 q8 H8 o8=>?_)
   have o68:=o67.trans o8
   have b2:=p8.b2
   have b4:=p7.b2
   have b5:=p6.b2
   have hij:j8<i7:=by omega
   obtain ⟨x1,x2,g1,g2,w1,w2,w3,w4,w5,w6,l',H5,z⟩:=last i7 j8 h8 l3 p8 hij H8 o68 re6
   have c1:decide ((i7:Int)>(j8:Int))=true:=dT (by omega)
   refine ⟨j8,false,g2,l',?_,H5,z⟩
   simp only [zbx.r17,zbx.c17,zbx.k17,zbx.r21,zbx.c21,c1,cond_true,w1,w2,w3,w4,w5,w6,jae,jaf,jaj]
   rfl
end Go.Proofs.YtcmhoboglapbdaaDoor
namespace Go.Proofs.YtcmhoboglapbdaaDoor
open Go Ev
theorem eq_spec{F m n0:Nat}{v:V}{h:AH}{l:List Row}(H:Has n0 v h l)(hw:h.WF)(hn0:n0≤h.next){a b p:Nat}(h1:a≤p)(h2:p<b)(hb:b≤l.length)(hlen:l.length≤4096)(hF:5000<F) :
  ∃ (mid:Nat) (h':AH) (l':List Row),runC (EE F) (m+4) nzby [v,.int .i64 (a:Int),.int .i64 (b:Int),.int .i64 (p:Int),cmpF] h=some (.int .i64 (mid:Int),h')∧Has n0 v h' l'∧Old n0 h h'∧Re a b l l' ∧
   a<mid∧mid≤b∧(∀ k,a≤k→k<mid→¬Lt (rat l p) (rat l' k)):=by
 rw [tzby]
 have i1:IntKind.wrap .i64 ((a:Int)+1)=((a+1:Nat):Int):=wi (by omega) (by omega)
 have i2:IntKind.wrap .i64 ((b:Int)-1)=((b-1:Nat):Int):=wi (by omega) (by omega)
 obtain ⟨x1,x2,g1,g2,w1,w2,w3,w4,w5,w6,H2,o2⟩:=jbs H hw (i:=p) (j:=a) (by omega) (by omega)
 have re2:Re a b l (swapM l p a):=Re.swap (by omega) (by omega) h1 h2 (Nat.le_refl _) (by omega)
 have p2:=pi_start (fun r=>¬Lt (rat l p) r) hb h1 h2
 have len2:(swapM l p a).length=l.length:=swapM_len _ _ _
 simp only [zby.fn,zby.c0,w1,w2,w3,w4,w5,w6,jae,jaf,jaj,wr,i1,i2]
 generalize hpv:rat l p=pv at *
 generalize hl2:swapM l p a=l2 at *
 refine jah (S:=zby.P6) (out:=fun x=>∃ (mid:Nat) (h':AH) (l':List Row),x=some (.int .i64 (mid:Int),h')∧Has n0 v h' l'∧Old n0 h h'∧Re a b l l'∧a<mid∧mid≤b∧(∀ k,a≤k→k<mid→¬Lt pv (rat l' k)))
   (PState n0 a b v h l pv (fun r=>¬Lt pv r)) ?_ ?_ b F _ _ ⟨a+1,b-1,_,by omega,rfl,p2,H2,o2,re2⟩ (by omega)
 ·rintro k s g n' ⟨i,j,l3,hk,rfl,p6,H6,o6,re6⟩
  have hl3:=re6.len
  refine eq_up3 (J1:=n') (out:=fun x=>(∃ s' h',x=n' s' h'∧PState n0 a b v h l pv (fun r=>¬Lt pv r) k s' h')∨∃ (mid:Nat) (h':AH) (l':List Row),x=some (.int .i64 (mid:Int),h')∧Has n0 v h' l'∧Old n0 h h'∧Re a b l l'∧a<mid∧mid≤b∧(∀ k,a≤k→k<mid→¬Lt pv (rat l' k))) H6 o6.wf (Nat.le_trans hn0 o6.next) hF (by omega) (by omega) p6 (fun i7 h7 m7 p7 q7 H7 o7=>?_)
  have o67:=o6.trans o7
  refine eq_down5 (J1:=n') (out:=fun x=>(∃ s' h',x=n' s' h'∧PState n0 a b v h l pv (fun r=>¬Lt pv r) k s' h')∨∃ (mid:Nat) (h':AH) (l':List Row),x=some (.int .i64 (mid:Int),h')∧Has n0 v h' l'∧Old n0 h h'∧Re a b l l'∧a<mid∧mid≤b∧(∀ k,a≤k→k<mid→¬Lt pv (rat l' k))) H7 o67.wf (Nat.le_trans hn0 o67.next) hF (by omega) (by omega) p7 (fun j8 h8 m8 p8 q8 H8 o8=>?_)
  have o68:=o67.trans o8
  have b1:=p8.b1
  have b2:=p8.b2
  have b3:=p8.b3
  by_cases hij:j8<i7
  ·have c1:decide ((i7:Int)>(j8:Int))=true:=dT (by omega)
   refine .inr ⟨i7,h8,l3,?_,H8,o68,re6,by omega,by omega,fun k q1 q2=>?_⟩
   ·simp only [zby.r7,zby.c7,zby.k7,zby.r11,zby.c11,c1,cond_true]
    rfl
   ·by_cases e:k=a
    ·rw [e,p8.top];exact fun hh=>hh.ne rfl
    ·exact p8.lo k (by omega) q2
  ·have c1:decide ((i7:Int)>(j8:Int))=false:=dF (by omega)
   have hLj:¬Lt pv (rat l3 j8):=q8.resolve_left hij
   have hLi:¬¬Lt pv (rat l3 i7):=q7.resolve_left (by omega)
   have hne:i7≠j8:=fun e=>hLi (e▸hLj)
   have j1:IntKind.wrap .i64 ((i7:Int)+1)=((i7+1:Nat):Int):=wi (by omega) (by omega)
   have j2:IntKind.wrap .i64 ((j8:Int)-1)=((j8-1:Nat):Int):=wi (by omega) (by omega)
   obtain ⟨x1,x2,g1,g2,w1,w2,w3,w4,w5,w6,H9,o9⟩:=jbs H8 o68.wf (i:=j8) (j:=i7) (by omega) (by omega)
   refine .inl ⟨_,g2,?_,i7+1,j8-1,_,by omega,rfl,p8.swap (by omega) (by omega) hLj hLi,H9,o68.trans o9,re6.trans (Re.swap (by omega) (by omega) (by omega) (by omega) (by omega) (by omega))⟩
   simp only [zby.r7,zby.c7,zby.k7,zby.r8,zby.c8,c1,cond_false,w1,w2,w3,w4,w5,w6,jae,jaf,jaj,wr,j1,j2]
 ·rintro s g n' ⟨i,j,l3,hk,rfl,p6,H6,o6,re6⟩
  have hl3:=re6.len
  refine eq_up3 (J1:=n') (out:=fun x=>∃ (mid:Nat) (h':AH) (l':List Row),x=some (.int .i64 (mid:Int),h')∧Has n0 v h' l'∧Old n0 h h'∧Re a b l l'∧a<mid∧mid≤b∧(∀ k,a≤k→k<mid→¬Lt pv (rat l' k))) H6 o6.wf (Nat.le_trans hn0 o6.next) hF (by omega) (by omega) p6 (fun i7 h7 m7 p7 q7 H7 o7=>?_)
  have o67:=o6.trans o7
  refine eq_down5 (J1:=n') (out:=fun x=>∃ (mid:Nat) (h':AH) (l':List Row),x=some (.int .i64 (mid:Int),h')∧Has n0 v h' l'∧Old n0 h h'∧Re a b l l'∧a<mid∧mid≤b∧(∀ k,a≤k→k<mid→¬Lt pv (rat l' k))) H7 o67.wf (Nat.le_trans hn0 o67.next) hF (by omega) (by omega) p7 (fun j8 h8 m8 p8 q8 H8 o8=>?_)
  have o68:=o67.trans o8
  have b1:=p8.b1
  have b2:=p8.b2
  have b3:=p8.b3
  have hij:j8<i7:=by omega
  have c1:decide ((i7:Int)>(j8:Int))=true:=dT (by omega)
  refine ⟨i7,h8,l3,?_,H8,o68,re6,by omega,by omega,fun k q1 q2=>?_⟩
  ·simp only [zby.r7,zby.c7,zby.k7,zby.r11,zby.c11,c1,cond_true]
   rfl
  ·by_cases e:k=a
   ·rw [e,p8.top];exact fun hh=>hh.ne rfl
   ·exact p8.lo k (by omega) q2
def Pre(l:List Row)(a b:Nat):Prop:=0<a→∀ k,a≤k→k<b→Le (rat l (a-1)) (rat l k)
theorem Pre.re{l l':List Row}{a b:Nat}(p:Pre l a b)(r:Re a b l l'):Pre l' a b:=by
 intro ha
 rw [r.out (a-1) (by omega)]
 exact r.all (fun x=>Le (rat l (a-1)) x) (p ha)
theorem srtOn_keep{l l':List Row}{a i:Nat}(h:jca l a i)(hk:∀ k,a≤k→k<i→rat l' k=rat l k):jca l' a i:=fun x y h1 h2 h3=>by
 rw [hk x h1 (by omega),hk y (by omega) h3];exact h x y h1 h2 h3
theorem few_spec{F m n0:Nat}{v:V}{h:AH}{l:List Row}(H:Has n0 v h l)(hw:h.WF)(hn0:n0≤h.next){a b:Nat}(hab:a<b)(hb:b≤l.length)(hlen:l.length≤4096)(hF:5000<F)(hpre:Pre l a b) :
  ∃ (fl:Bool) (h':AH) (l':List Row),runC (EE F) (m+4) nzbw [v,.int .i64 (a:Int),.int .i64 (b:Int),cmpF] h=some (.bool fl,h')∧Has n0 v h' l'∧Old n0 h h'∧Re a b l l'∧(fl=true→jca l' a b):=by
 rw [tzbw]
 have i1:IntKind.wrap .i64 ((a:Int)+1)=((a+1:Nat):Int):=wi (by omega) (by omega)
 simp only [zbw.fn,zbw.c0,zbw.k1,zbw.c2,wr,i1]
 refine jah (S:=zbw.P6) (out:=fun x=>∃ (fl:Bool) (h':AH) (l':List Row),x=some (.bool fl,h')∧Has n0 v h' l'∧Old n0 h h'∧Re a b l l'∧(fl=true→jca l' a b))
  (fun k s g=>∃ (i c:Nat) (l1:List Row),c+k=5∧a+1≤i∧i≤b∧s=(v,(a:Int),(b:Int),cmpF,(i:Int),(c:Int),())∧Has n0 v g l1∧Old n0 h g∧Re a b l l1∧jca l1 a i) ?_ ?_ 5 F _ _
  ⟨a+1,0,l,by omega,by omega,by omega,rfl,H,Old.refl hw _,Re.refl _ _ _,fun x y h1 h2 h3=>by omega⟩ (by omega)
 ·rintro k s g n' ⟨i,c,l1,hk,hi,hib,rfl,H1,og,re,hs⟩
  have hl1:=re.len
  have c1:decide ((c:Int)<5)=true:=dT (by omega)
  have i2:IntKind.wrap .i64 ((c:Int)+1)=((c+1:Nat):Int):=wi (by omega) (by omega)
  simp only [zbw.l3,zbw.c3,zbw.k3,c1,cond_true]
  let J4:=zbw.r4 (cx F (m+3)) n' (zbw.r24 (cx F (m+3)) zbw.ret zbw.ret) zbw.ret
  let J0:=zbw.r24 (cx F (m+3)) zbw.ret zbw.ret
  have found:∀ (i:Nat) (g:AH),a+1≤i→i≤b→Has n0 v g l1→Old n0 h g→jca l1 a i→(i<b→Lt (rat l1 i) (rat l1 (i-1))) →
    (∃ s' h',zbw.r7 (cx F (m+3)) J4 J4 J0 zbw.ret (v,(a:Int),(b:Int),cmpF,(i:Int),(c:Int),()) g=n' s' h' ∧
     ∃ (i c:Nat) (l1:List Row),c+k=5∧a+1≤i∧i≤b∧s'=(v,(a:Int),(b:Int),cmpF,(i:Int),(c:Int),())∧Has n0 v h' l1∧Old n0 h h'∧Re a b l l1∧jca l1 a i) ∨
    (∃ (fl:Bool) (h':AH) (l':List Row),zbw.r7 (cx F (m+3)) J4 J4 J0 zbw.ret (v,(a:Int),(b:Int),cmpF,(i:Int),(c:Int),()) g=some (.bool fl,h')∧Has n0 v h' l'∧Old n0 h h'∧Re a b l l'∧(fl=true→jca l' a b)):=by
   intro i g hi hib H1 og hs hlt
   by_cases hib2:i=b
   ·subst hib2
    have c2:((i:Int)==(i:Int))=true:=beq_self_eq_true _
    refine .inr ⟨true,g,l1,?_,H1,og,re,fun _=>hs⟩
    simp only [zbw.r7,zbw.c7,zbw.k7,zbw.c8,c2,cond_true]
    rfl
   ·have c2:((i:Int)==(b:Int))=false:=beq_eq_false_iff_ne.2 (by omega)
    have i5:IntKind.wrap .i64 ((b:Int)-(a:Int))=((b-a:Nat):Int):=wi (by omega) (by omega)
    by_cases h50:b-a<50
    ·have c3:decide (IntKind.wrap .i64 ((b:Int)-(a:Int))<50)=true:=by rw [i5];exact dT (by omega)
     refine .inr ⟨false,g,l1,?_,H1,og,re,fun h=>by cases h⟩
     simp only [zbw.r7,zbw.c7,zbw.k7,zbw.r9,zbw.c9,zbw.k9,zbw.c10,c2,cond_false,wr,↓c3,cond_true]
     rfl
    ·have c3:decide (IntKind.wrap .i64 ((b:Int)-(a:Int))<50)=false:=by rw [i5];exact dF (by omega)
     have hlt':=hlt (by omega)
     have i6:IntKind.wrap .i64 ((i:Int)-1)=((i-1:Nat):Int):=wi (by omega) (by omega)
     have i7:IntKind.wrap .i64 ((i:Int)-(a:Int))=((i-a:Nat):Int):=wi (by omega) (by omega)
     obtain ⟨x1,x2,g1,g2,w1,w2,w3,w4,w5,w6,H2,o2⟩:=jbs H1 og.wf (i:=i-1) (j:=i) (by omega) (by omega)
     have og2:=og.trans o2
     have re2:=re.trans (Re.swap (a:=a) (b:=b) (l:=l1) (i:=i-1) (j:=i) (by omega) (by omega) (by omega) (by omega) (by omega) (by omega))
     have hs2:jca (swapM l1 (i-1) i) a (i-1):=srtOn_keep (i:=i-1) (fun x y h1 h2 h3=>hs x y h1 h2 (by omega)) (fun k h1 h2=>by rw [rat_swap (by omega) (by omega),if_neg (by omega),if_neg (by omega)])
     have hl2:=re2.len
     generalize swapM l1 (i-1) i=l2 at *
     have right:∀ (g:AH) (l3:List Row),Has n0 v g l3→Old n0 h g→Re a b l l3→jca l3 a i →
       ∃ s' h',zbw.r18 (cx F (m+3)) J4 J4 J0 zbw.ret (v,(a:Int),(b:Int),cmpF,(i:Int),(c:Int),()) g=n' s' h' ∧
        ∃ (i c:Nat) (l1:List Row),c+k=5∧a+1≤i∧i≤b∧s'=(v,(a:Int),(b:Int),cmpF,(i:Int),(c:Int),())∧Has n0 v h' l1∧Old n0 h h'∧Re a b l l1∧jca l1 a i:=by
      intro g l3 H3 og3 re3 hs3
      have fin:∀ (g:AH) (l4:List Row),Has n0 v g l4→Old n0 h g→Re a b l l4→jca l4 a i→∃ s' h',J4 (v,(a:Int),(b:Int),cmpF,(i:Int),(c:Int),()) g=n' s' h' ∧
        ∃ (i c:Nat) (l1:List Row),c+k=5∧a+1≤i∧i≤b∧s'=(v,(a:Int),(b:Int),cmpF,(i:Int),(c:Int),())∧Has n0 v h' l1∧Old n0 h h'∧Re a b l l1∧jca l1 a i:=by
       intro g l4 H4 og4 re4 hs4
       refine ⟨_,g,?_,i,c+1,l4,by omega,hi,hib,rfl,H4,og4,re4,hs4⟩
       show zbw.r4 _ _ _ _ _ _=_
       simp only [zbw.r4,zbw.c4,wr,i2]
      simp only [zbw.r18,zbw.c18]
      generalize decide (wr .i64 ((b:Int)-(i:Int))≥2)=bb
      cases bb with
      | false =>
       simp only [zbw.k18,cond_false]
       exact fin g l3 H3 og3 re3 hs3
      | true =>
       have i8:IntKind.wrap .i64 ((i:Int)+1)=((i+1:Nat):Int):=wi (by omega) (by omega)
       simp only [zbw.k18,zbw.c19,cond_true,wr,i8]
       refine jah (S:=zbw.P40) (out:=fun x=>∃ s' h',x=n' s' h' ∧
        ∃ (i c:Nat) (l1:List Row),c+k=5∧a+1≤i∧i≤b∧s'=(v,(a:Int),(b:Int),cmpF,(i:Int),(c:Int),())∧Has n0 v h' l1∧Old n0 h h'∧Re a b l l1∧jca l1 a i)
        (fun k s g=>∃ (j:Nat) (l4:List Row),b≤j+k∧i+1≤j∧j≤b∧s=(v,(a:Int),(b:Int),cmpF,(i:Int),(c:Int),(j:Int),())∧Has n0 v g l4∧Old n0 h g∧Re a b l l4∧jca l4 a i) ?_ ?_ b F _ _
        ⟨i+1,l3,by omega,by omega,by omega,rfl,H3,og3,re3,hs3⟩ (by omega)
       ·rintro k' s g n'' ⟨j,l4,hk',hj,hjb,rfl,H4,og4,re4,hs4⟩
        have hl4:=re4.len
        by_cases hjb2:j<b
        ·have c4:decide ((j:Int)<(b:Int))=true:=dT (by omega)
         have i9:IntKind.wrap .i64 ((j:Int)-1)=((j-1:Nat):Int):=wi (by omega) (by omega)
         have i10:IntKind.wrap .i64 ((j:Int)+1)=((j+1:Nat):Int):=wi (by omega) (by omega)
         obtain ⟨p,q,f1,u1,u2,u3,u4,u5,u6,u7,u8⟩:=cmp_at (F:=F) (m:=m) H4 og4.wf (Nat.le_trans hn0 og4.next) (i:=j) (j:=j-1) (by omega) (by omega)
         have of1:=og4.trans u7
         by_cases hlt:Lt (rat l4 j) (rat l4 (j-1))
         ·obtain ⟨p',q',f2,f3,z1,z2,z3,z4,z5,z6,z7,z8⟩:=jbs u6 of1.wf (i:=j-1) (j:=j) (by omega) (by omega)
          obtain rfl:=ptr_eq u1 z2
          obtain rfl:=ptr_eq u2 z1
          refine .inl ⟨_,f3,?_,j+1,_,by omega,by omega,by omega,rfl,z7,of1.trans z8,re4.trans (Re.swap (by omega) (by omega) (by omega) (by omega) (by omega) (by omega)),srtOn_keep hs4 fun k h1 h2=>by rw [rat_swap (by omega) (by omega),if_neg (by omega),if_neg (by omega)]⟩
          simp only [zbw.l20,zbw.c20,zbw.k20,zbw.r22,zbw.c22,zbw.k22,zbw.r23,zbw.c23,zbw.r21,zbw.c21,c4,cond_true,wr,i9,i10,u1,u2,jae,u3,jaf,u4,u5,jan,lt_true hlt,Bool.not_true,cond_false,z3,z4,z5,z6,jaj]
         ·refine .inr ?_
          have hfin:=fin f1 l4 u6 of1 re4 hs4
          simp only [zbw.l20,zbw.c20,zbw.k20,zbw.r22,zbw.c22,zbw.k22,c4,cond_true,wr,i9,u1,u2,jae,u3,jaf,u4,u5,jan,jbw hlt,Bool.not_false]
          exact hfin
        ·have c4:decide ((j:Int)<(b:Int))=false:=dF (by omega)
         refine .inr ?_
         have hfin:=fin g l4 H4 og4 re4 hs4
         simp only [zbw.l20,zbw.c20,zbw.k20,c4,cond_false]
         exact hfin
       ·rintro s g n'' ⟨j,l4,hk',hj,hjb,rfl,H4,og4,re4,hs4⟩
        have c4:decide ((j:Int)<(b:Int))=false:=dF (by omega)
        have hfin:=fin g l4 H4 og4 re4 hs4
        simp only [zbw.l20,zbw.c20,zbw.k20,c4,cond_false]
        exact hfin
     refine .inl ?_
     simp only [zbw.r7,zbw.c7,zbw.k7,zbw.r9,zbw.c9,zbw.k9,zbw.r11,zbw.c11,c2,cond_false,wr,↓c3,i6,w1,w2,w3,w4,w5,w6,jae,jaf,jaj,zbw.k11,zbw.c12]
     by_cases hi2:2≤i-a
     ·have c4:decide (IntKind.wrap .i64 ((i:Int)-(a:Int))≥2)=true:=by rw [i7];exact dT (by omega)
      simp only [↓c4,zbw.k12,zbw.c13,cond_true,wr,i6]
      refine jah (S:=zbw.P28) (out:=fun x=>∃ s' h',x=n' s' h' ∧
        ∃ (i c:Nat) (l1:List Row),c+k=5∧a+1≤i∧i≤b∧s'=(v,(a:Int),(b:Int),cmpF,(i:Int),(c:Int),())∧Has n0 v h' l1∧Old n0 h h'∧Re a b l l1∧jca l1 a i)
        (fun k s g=>∃ (j:Nat) (l4:List Row),j=a+k∧j≤i-1∧s=(v,(a:Int),(b:Int),cmpF,(i:Int),(c:Int),(j:Int),())∧Has n0 v g l4∧Old n0 h g∧Re a b l l4∧Near l4 a (i-1) j) ?_ ?_ (i-1-a) F _ _
        ⟨i-1,l2,by omega,by omega,rfl,H2,og2,re2,near_start hs2⟩ (by omega)
      ·rintro k' s g n'' ⟨j,l4,hk',hj,rfl,H4,og4,re4,hs4⟩
       have hl4:=re4.len
       have c5:decide ((j:Int)≥1)=true:=dT (by omega)
       have i9:IntKind.wrap .i64 ((j:Int)-1)=((j-1:Nat):Int):=wi (by omega) (by omega)
       obtain ⟨p,q,f1,u1,u2,u3,u4,u5,u6,u7,u8⟩:=cmp_at (F:=F) (m:=m) H4 og4.wf (Nat.le_trans hn0 og4.next) (i:=j) (j:=j-1) (by omega) (by omega)
       have of1:=og4.trans u7
       by_cases hlt:Lt (rat l4 j) (rat l4 (j-1))
       ·obtain ⟨p',q',f2,f3,z1,z2,z3,z4,z5,z6,z7,z8⟩:=jbs u6 of1.wf (i:=j-1) (j:=j) (by omega) (by omega)
        obtain rfl:=ptr_eq u1 z2
        obtain rfl:=ptr_eq u2 z1
        refine .inl ⟨_,f3,?_,j-1,_,by omega,by omega,rfl,z7,of1.trans z8,re4.trans (Re.swap (by omega) (by omega) (by omega) (by omega) (by omega) (by omega)),near_step hs4 (by omega) hj (by omega) hlt⟩
        simp only [zbw.l14,zbw.c14,zbw.k14,zbw.r16,zbw.c16,zbw.k16,zbw.r17,zbw.c17,zbw.r15,zbw.c15,c5,cond_true,wr,i9,u1,u2,jae,u3,jaf,u4,u5,jan,lt_true hlt,Bool.not_true,cond_false,z3,z4,z5,z6,jaj]
       ·refine .inr ?_
        have hn:=near_done hs4 (.inr ⟨by omega,hj,not_lt.1 hlt⟩)
        rw [show i-1+1=i by omega] at hn
        have hfin:=right f1 l4 u6 of1 re4 hn
        simp only [zbw.l14,zbw.c14,zbw.k14,zbw.r16,zbw.c16,zbw.k16,c5,cond_true,wr,i9,u1,u2,jae,u3,jaf,u4,u5,jan,jbw hlt,Bool.not_false]
        exact hfin
      ·rintro s g n'' ⟨j,l4,hk',hj,rfl,H4,og4,re4,hs4⟩
       obtain rfl:j=a:=by omega
       have hl4:=re4.len
       have hn:=near_done hs4 (.inl rfl)
       rw [show i-1+1=i by omega] at hn
       by_cases ha0:0<j
       ·have c5:decide ((j:Int)≥1)=true:=dT (by omega)
        have i9:IntKind.wrap .i64 ((j:Int)-1)=((j-1:Nat):Int):=wi (by omega) (by omega)
        obtain ⟨p,q,f1,u1,u2,u3,u4,u5,u6,u7,u8⟩:=cmp_at (F:=F) (m:=m) H4 og4.wf (Nat.le_trans hn0 og4.next) (i:=j) (j:=j-1) (by omega) (by omega)
        have of1:=og4.trans u7
        have hlt:¬Lt (rat l4 j) (rat l4 (j-1)):=not_lt.2 (hpre.re re4 ha0 j (Nat.le_refl _) (by omega))
        have hfin:=right f1 l4 u6 of1 re4 hn
        simp only [zbw.l14,zbw.c14,zbw.k14,zbw.r16,zbw.c16,zbw.k16,c5,cond_true,wr,i9,u1,u2,jae,u3,jaf,u4,u5,jan,jbw hlt,Bool.not_false]
        exact hfin
       ·have c5:decide ((j:Int)≥1)=false:=dF (by omega)
        have hfin:=right g l4 H4 og4 re4 hn
        simp only [zbw.l14,zbw.c14,zbw.k14,c5,cond_false]
        exact hfin
     ·have c4:decide (IntKind.wrap .i64 ((i:Int)-(a:Int))≥2)=false:=by rw [i7];exact dF (by omega)
      simp only [↓c4,zbw.k12,cond_false]
      exact right g2 l2 H2 og2 re2 (fun x y h1 h2 h3=>by omega)
  refine jah (S:=zbw.P6) (out:=fun x=>(∃ s' h',x=n' s' h'∧∃ (i c:Nat) (l1:List Row),c+k=5∧a+1≤i∧i≤b∧s'=(v,(a:Int),(b:Int),cmpF,(i:Int),(c:Int),())∧Has n0 v h' l1∧Old n0 h h'∧Re a b l l1∧jca l1 a i) ∨
    (∃ (fl:Bool) (h':AH) (l':List Row),x=some (.bool fl,h')∧Has n0 v h' l'∧Old n0 h h'∧Re a b l l'∧(fl=true→jca l' a b)))
   (fun k s g=>∃ (i:Nat),b≤i+k∧a+1≤i∧i≤b∧s=(v,(a:Int),(b:Int),cmpF,(i:Int),(c:Int),())∧Has n0 v g l1∧Old n0 h g∧jca l1 a i) ?_ ?_ b F _ _ ⟨i,by omega,hi,hib,rfl,H1,og,hs⟩ (by omega)
  ·rintro k' s g n'' ⟨i,hk',hi,hib,rfl,H1,og,hs⟩
   by_cases hib2:i<b
   ·have c2:decide ((i:Int)<(b:Int))=true:=dT (by omega)
    have i9:IntKind.wrap .i64 ((i:Int)-1)=((i-1:Nat):Int):=wi (by omega) (by omega)
    have i10:IntKind.wrap .i64 ((i:Int)+1)=((i+1:Nat):Int):=wi (by omega) (by omega)
    obtain ⟨p,q,f1,u1,u2,u3,u4,u5,u6,u7,u8⟩:=cmp_at (F:=F) (m:=m) H1 og.wf (Nat.le_trans hn0 og.next) (i:=i) (j:=i-1) (by omega) (by omega)
    have of1:=og.trans u7
    by_cases hlt:Lt (rat l1 i) (rat l1 (i-1))
    ·refine .inr ?_
     have hfin:=found i f1 hi hib u6 of1 hs (fun _=>hlt)
     simp only [zbw.l5,zbw.c5,zbw.k5,c2,cond_true,wr,i9,u1,u2,jae,u3,jaf,u4,u5,jan,lt_true hlt,Bool.not_true,cond_false]
     exact hfin
    ·refine .inl ⟨_,f1,?_,i+1,by omega,by omega,by omega,rfl,u6,of1,fun x y h1 h2 h3=>?_⟩
     ·simp only [zbw.l5,zbw.c5,zbw.k5,zbw.r6,zbw.c6,c2,cond_true,wr,i9,i10,u1,u2,jae,u3,jaf,u4,u5,jan,jbw hlt,Bool.not_false]
     ·by_cases hy:y=i
      ·subst hy
       by_cases hx:x=y-1
       ·rw [hx];exact not_lt.1 hlt
       ·exact (hs x (y-1) h1 (by omega) (by omega)).trans (not_lt.1 hlt)
      ·exact hs x y h1 h2 (by omega)
   ·have c2:decide ((i:Int)<(b:Int))=false:=dF (by omega)
    refine .inr ?_
    have hfin:=found i g hi hib H1 og hs (fun h=>absurd h hib2)
    simp only [zbw.l5,zbw.c5,zbw.k5,c2,cond_false]
    exact hfin
  ·rintro s g n'' ⟨i,hk',hi,hib,rfl,H1,og,hs⟩
   have c2:decide ((i:Int)<(b:Int))=false:=dF (by omega)
   have hfin:=found i g hi hib H1 og hs (fun h=>by omega)
   simp only [zbw.l5,zbw.c5,zbw.k5,c2,cond_false]
   exact hfin
 ·rintro s g n' ⟨i,c,l1,hk,hi,hib,rfl,H1,og,re,hs⟩
  have c1:decide ((c:Int)<5)=false:=dF (by omega)
  refine ⟨false,g,l1,?_,H1,og,re,fun h=>by cases h⟩
  simp only [zbw.l3,zbw.c3,zbw.k3,zbw.r24,zbw.c24,c1,cond_false]
  rfl
end Go.Proofs.YtcmhoboglapbdaaDoor
namespace Go.Proofs.YtcmhoboglapbdaaDoor
open Go Ev
def Mid(l:List Row)(a a1 b1 b:Nat):Prop:=∀ x y,a≤x→x<y→y<b→¬(a1≤x∧y<b1)→Le (rat l x) (rat l y)
theorem Mid.re{l l':List Row}{a a1 b1 b:Nat}(M:Mid l a a1 b1 b)(ha:a≤a1)(hb:b1≤b)(r:Re a1 b1 l l'):Mid l' a a1 b1 b:=by
 intro x y h1 h2 h3 h4
 by_cases hx:a1≤x∧x<b1
 ·have hy:¬(a1≤y∧y<b1):=by omega
  rw [r.out y hy]
  exact r.all (fun z=>Le z (rat l y)) (fun k q1 q2=>M k y (by omega) (by omega) h3 (by omega)) x hx.1 hx.2
 ·rw [r.out x hx]
  by_cases hy:a1≤y∧y<b1
  ·exact r.all (fun z=>Le (rat l x) z) (fun k q1 q2=>M x k h1 (by omega) (by omega) (by omega)) y hy.1 hy.2
  ·rw [r.out y hy];exact M x y h1 h2 h3 h4
theorem Mid.done{l:List Row}{a a1 b1 b:Nat}(M:Mid l a a1 b1 b)(h:jca l a1 b1):jca l a b:=fun x y h1 h2 h3=>by
 by_cases hh:a1≤x∧y<b1
 ·exact h x y hh.1 h2 hh.2
 ·exact M x y h1 h2 h3 hh
theorem Mid.less{l:List Row}{a a1 b1 b a2 b2:Nat}(M:Mid l a a1 b1 b)(h:∀ x y,a1≤x→x<y→y<b1→¬(a2≤x∧y<b2)→Le (rat l x) (rat l y)):Mid l a a2 b2 b:=fun x y h1 h2 h3 h4=>by
 by_cases hh:a1≤x∧y<b1
 ·exact h x y hh.1 h2 hh.2 h4
 ·exact M x y h1 h2 h3 hh
theorem pdq_spec{F m:Nat}(hF:5000<F):∀ (D n0:Nat) (v:V) (h:AH) (l:List Row) (a b:Nat) (lim:Int),Has n0 v h l→h.WF→n0≤h.next→a≤b→b≤l.length→l.length≤200→b-a≤D→Pre l a b →
  ∃ h' l',runC (EE F) (m+D+8) nzbz [v,.int .i64 (a:Int),.int .i64 (b:Int),.int .i64 lim,cmpF] h=some (pack [],h')∧Has n0 v h' l'∧Old n0 h h'∧Re a b l l'∧jca l' a b:=by
 intro D
 induction D with
 | zero =>
  intro n0 v h l a b lim H hw hn0 hab hb hlen hD hpre
  obtain rfl:a=b:=by omega
  rw [tzbz]
  have i1:IntKind.wrap .i64 ((a:Int)-(a:Int))=0:=by rw [Int.sub_self];rfl
  obtain ⟨r,h1,l1,e1,H1,o1,re1,s1⟩:=ins_spec (F:=F) (m:=m+3) H hw hn0 (Nat.le_refl a) hb (by omega) hF
  have d:decide ((0:Int)≤12)=true:=rfl
  have key:∀ n':zbz.P4→AH→Res,∃ h' l',zbz.l2 (cx F (m+0+7)) n' zbz.ret zbz.ret (v,(a:Int),(a:Int),lim,cmpF,true,true,()) h=some (pack [],h')∧Has n0 v h' l'∧Old n0 h h'∧Re a a l l'∧jca l' a a:=by
   intro n'
   refine ⟨h1,l1,?_,H1,o1,re1,s1⟩
   have e1':runC (EE F) (m+0+7) nzbr [v,.int .i64 (a:Int),.int .i64 (a:Int),cmpF] h=some (r,h1):=e1
   simp only [zbz.l2,zbz.c2,wr,i1]
   simp only [zbz.k2,zbz.c3,d,zbz.k3,zbz.c4,cond_true,cxC,e1',jam]
   rfl
  simp only [zbz.fn,zbz.c0]
  refine jah (S:=zbz.P4) (out:=fun x=>∃ h' l',x=some (pack [],h')∧Has n0 v h' l'∧Old n0 h h'∧Re a a l l'∧jca l' a a)
   (fun k s g=>s=(v,(a:Int),(a:Int),lim,cmpF,true,true,())∧g=h) ?_ ?_ 0 F _ _ ⟨rfl,rfl⟩ (by omega)
  ·rintro k s g n' ⟨rfl,rfl⟩
   exact .inr (key n')
  ·rintro s g n' ⟨rfl,rfl⟩
   exact key n'
 | succ D ih =>
  intro n0 v h l a b lim H hw hn0 hab hb hlen hD hpre
  rw [tzbz]
  simp only [zbz.fn,zbz.c0]
  let Out:Res→Prop:=fun x=>∃ h' l',x=some (pack [],h')∧Has n0 v h' l'∧Old n0 h h'∧Re a b l l'∧jca l' a b
  let Inv:Nat→zbz.P4→AH→Prop:=fun k s g=>∃ (a1 b1:Nat) (lm:Int) (wb wp:Bool) (l1:List Row),b1≤a1+k∧a≤a1∧a1≤b1∧b1≤b∧s=(v,(a1:Int),(b1:Int),lm,cmpF,wb,wp,())∧Has n0 v g l1∧Old n0 h g∧Re a b l l1∧Pre l1 a1 b1∧Mid l1 a a1 b1 b
  show Out (jaw zbz.P4 F (fun t h n'=>zbz.l2 (cx F (m+(D+1)+7)) n' zbz.ret zbz.ret t h) (v,(a:Int),(b:Int),lim,cmpF,true,true,()) h)
  have short:∀ (n':zbz.P4→AH→Res) (a1 b1:Nat) (lm:Int) (wb wp:Bool) (l1:List Row) (g:AH),a≤a1→a1≤b1→b1≤b→b1-a1≤12→Has n0 v g l1→Old n0 h g→Re a b l l1→Mid l1 a a1 b1 b →
    Out (zbz.l2 (cx F (m+(D+1)+7)) n' zbz.ret zbz.ret (v,(a1:Int),(b1:Int),lm,cmpF,wb,wp,()) g):=by
   intro n' a1 b1 lm wb wp l1 g ha hab1 hb1 h12 H1 og re M
   have hl1:=re.len
   obtain ⟨r,h2,l2,e2,H2,o2,re2,s2⟩:=ins_spec (F:=F) (m:=m+(D+1)+3) H1 og.wf (Nat.le_trans hn0 og.next) hab1 (by omega) (by omega) hF
   refine ⟨h2,l2,?_,H2,og.trans o2,re.trans (re2.weak ha hb1),(M.re ha hb1 re2).done s2⟩
   have i1:IntKind.wrap .i64 ((b1:Int)-(a1:Int))=((b1-a1:Nat):Int):=wi (by omega) (by omega)
   have d:decide (((b1-a1:Nat):Int)≤12)=true:=dT (by omega)
   simp only [zbz.l2,zbz.c2,wr,i1]
   simp only [zbz.k2,zbz.c3,d,zbz.k3,zbz.c4,cond_true,cxC,e2,jam]
   rfl
  refine jah (S:=zbz.P4) (out:=Out) Inv ?_ ?_ (b-a) F _ _ ⟨a,b,lim,true,true,l,by omega,Nat.le_refl _,hab,Nat.le_refl _,rfl,H,Old.refl hw _,Re.refl _ _ _,hpre,fun x y h1 h2 h3 h4=>absurd ⟨h1,h3⟩ h4⟩ (by omega)
  ·rintro k s g n' ⟨a1,b1,lm,wb,wp,l1,hk,ha1,hab1,hb1,rfl,H1,og,re,P1,M1⟩
   by_cases h12:b1-a1≤12
   ·exact .inr (short n' a1 b1 lm wb wp l1 g ha1 hab1 hb1 h12 H1 og re M1)
   ·have hl1:=re.len
    have i1:IntKind.wrap .i64 ((b1:Int)-(a1:Int))=((b1-a1:Nat):Int):=wi (by omega) (by omega)
    have d12:decide (((b1-a1:Nat):Int)≤12)=false:=dF (by omega)
    simp only [zbz.l2,zbz.c2,wr,i1]
    simp only [zbz.k2,zbz.c3,d12,zbz.k3,zbz.r5,zbz.c5,cond_false]
    let Goal:Res→Prop:=fun x=>(∃ s' h',x=n' s' h'∧Inv k s' h')∨Out x
    have ncast:m+(D+1)+7=m+D+8:=by omega
    have t20:∀ (lm ln:Int) (wb:Bool) (p:Nat) (g:AH) (l2:List Row),a1≤p→p<b1→Has n0 v g l2→Old n0 h g→Re a b l l2→Pre l2 a1 b1→Mid l2 a a1 b1 b →
      Goal (zbz.r20 (cx F (m+(D+1)+7)) n' n' zbz.ret zbz.ret (v,(a1:Int),(b1:Int),lm,cmpF,ln,(p:Int),()) g):=by
     intro lm ln wb p g l2 hp1 hp2 H2 o2 re2 P2 M2
     have hl2:=re2.len
     obtain ⟨mid,fl,g3,l3,e3,H3,o3,re3,q1,q2,q3,q4,q5⟩:=part_spec (F:=F) (m:=m+(D+1)+3) H2 o2.wf (Nat.le_trans hn0 o2.next) hp1 hp2 (by omega) (by omega) hF
     have hl3:=re3.len
     have o23:=o2.trans o3
     have re23:Re a b l l3:=re2.trans (re3.weak ha1 hb1)
     have P3:=P2.re re3
     have M3:=M2.re ha1 hb1 re3
     generalize rat l2 p=pv at *
     simp only [zbz.r20,zbz.c20,cxC,e3,jam,ex0,ex1,jag,bB_some]
     generalize decide (wr .i64 ((mid:Int)-(a1:Int))<wr .i64 ((b1:Int)-(mid:Int)))=bb
     have i5:IntKind.wrap .i64 ((mid:Int)+1)=((mid+1:Nat):Int):=wi (by omega) (by omega)
     cases bb with
     | true =>
      obtain ⟨g4,l4,e4,H4,o4,re4,s4⟩:=ih n0 v g3 l3 a1 mid lm H3 o23.wf (Nat.le_trans hn0 o23.next) q1 (by omega) (by omega) (by omega) (fun h0 kk z1 z2=>P3 h0 kk z1 (by omega))
      refine .inl ⟨_,g4,?_,mid+1,b1,lm,decide (wr .i64 ((mid:Int)-(a1:Int))≥wr .i64 (ln.tdiv 8)),fl,l4,by omega,by omega,by omega,hb1,rfl,H4,o23.trans o4,re23.trans (re4.weak ha1 (by omega)),fun _ kk z1 z2=>?_,(M3.re ha1 hb1 (re4.weak (Nat.le_refl _) (by omega))).less fun x y z1 z2 z3 z4=>?_⟩
      ·have e4':runC (EE F) (m+(D+1)+7) nzbz [v,.int .i64 (a1:Int),.int .i64 (mid:Int),.int .i64 lm,cmpF] g3=some (pack [],g4):=by rw [ncast];exact e4
       simp only [zbz.k24,zbz.c25,cond_true,cxC,e4',jam,i5]
      ·rw [Nat.add_sub_cancel,re4.out mid (by omega),re4.out kk (by omega),q3]
       exact not_lt.1 (q5 kk (by omega) z2)
      ·have hpv:∀ x,a1≤x→x<mid→Lt (rat l4 x) pv:=re4.all (fun r=>Lt r pv) (fun kk w1 w2=>q4 kk w1 w2)
       have hmid:rat l4 mid=pv:=by rw [re4.out mid (by omega),q3]
       by_cases hy:y<mid
       ·exact s4 x y z1 z2 hy
       ·have hxm:x≤mid:=by omega
        have hyp:Le pv (rat l4 y):=by
         by_cases hye:y=mid
         ·rw [hye,hmid];exact Le.refl _
         ·rw [re4.out y (by omega)];exact not_lt.1 (q5 y (by omega) z3)
        by_cases hxe:x=mid
        ·rw [hxe,hmid];exact hyp
        ·exact (hpv x z1 (by omega)).le.trans hyp
     | false =>
      obtain ⟨g4,l4,e4,H4,o4,re4,s4⟩:=ih n0 v g3 l3 (mid+1) b1 lm H3 o23.wf (Nat.le_trans hn0 o23.next) (by omega) (by omega) (by omega) (by omega) (fun _ kk z1 z2=>by
       rw [Nat.add_sub_cancel,q3];exact not_lt.1 (q5 kk (by omega) z2))
      refine .inl ⟨_,g4,?_,a1,mid,lm,decide (wr .i64 ((b1:Int)-(mid:Int))≥wr .i64 (ln.tdiv 8)),fl,l4,by omega,by omega,by omega,by omega,rfl,H4,o23.trans o4,re23.trans (re4.weak (by omega) hb1),fun h0 kk z1 z2=>?_,(M3.re ha1 hb1 (re4.weak (by omega) (Nat.le_refl _))).less fun x y z1 z2 z3 z4=>?_⟩
      ·have e4':runC (EE F) (m+(D+1)+7) nzbz [v,.int .i64 ((mid+1:Nat):Int),.int .i64 (b1:Int),.int .i64 lm,cmpF] g3=some (pack [],g4):=by rw [ncast];exact e4
       simp only [zbz.k24,zbz.c28,cond_false,i5,cxC,e4',jam]
      ·rw [re4.out (a1-1) (by omega),re4.out kk (by omega)]
       exact P3 h0 kk z1 (by omega)
      ·have hpv:∀ y,mid+1≤y→y<b1→¬Lt (rat l4 y) pv:=re4.all (fun r=>¬Lt r pv) (fun kk w1 w2=>q5 kk (by omega) w2)
       have hmid:rat l4 mid=pv:=by rw [re4.out mid (by omega),q3]
       by_cases hx:mid+1≤x
       ·exact s4 x y hx z2 z3
       ·have hyp:Le pv (rat l4 y):=by
         by_cases hye:y=mid
         ·rw [hye,hmid];exact Le.refl _
         ·exact not_lt.1 (hpv y (by omega) z3)
        by_cases hxe:x=mid
        ·rw [hxe,hmid];exact hyp
        ·have:Le (rat l4 x) pv:=by rw [re4.out x (by omega)];exact (q4 x z1 (by omega)).le
         exact this.trans hyp
    have t17:∀ (lm ln:Int) (wb wp:Bool) (p:Nat) (g:AH) (l2:List Row),a1≤p→p<b1→Has n0 v g l2→Old n0 h g→Re a b l l2→Pre l2 a1 b1→Mid l2 a a1 b1 b →
      Goal (zbz.r17 (cx F (m+(D+1)+7)) n' n' zbz.ret zbz.ret (v,(a1:Int),(b1:Int),lm,cmpF,wb,wp,ln,(p:Int),()) g):=by
     intro lm ln wb wp p g l2 hp1 hp2 H2 o2 re2 P2 M2
     have hl2:=re2.len
     simp only [zbz.r17,zbz.c17]
     by_cases ha0:0<a1
     ·have c1:decide ((a1:Int)>0)=true:=dT (by omega)
      have i6:IntKind.wrap .i64 ((a1:Int)-1)=((a1-1:Nat):Int):=wi (by omega) (by omega)
      obtain ⟨x1,x2,f1,u1,u2,u3,u4,u5,u6,u7,u8⟩:=cmp_at (F:=F) (m:=m+(D+1)+4) H2 o2.wf (Nat.le_trans hn0 o2.next) (i:=a1-1) (j:=p) (by omega) (by omega)
      have of1:=o2.trans u7
      by_cases hlt:Lt (rat l2 (a1-1)) (rat l2 p)
      ·have t:=t20 lm ln wb p f1 l2 hp1 hp2 u6 of1 re2 P2 M2
       simp only [c1,cond_true,wr,i6,u1,u2,jae,u3,jaf,u4,u5,jan,lt_true hlt,Bool.not_true,zbz.k17,cond_false]
       exact t
      ·obtain ⟨mid,g3,l3,e3,H3,o3,re3,q1,q2,q4⟩:=eq_spec (F:=F) (m:=m+(D+1)+3) u6 of1.wf (Nat.le_trans hn0 of1.next) hp1 hp2 (by omega) (by omega) hF
       have o13:=of1.trans o3
       have P3:=P2.re re3
       have M3:=M2.re ha1 hb1 re3
       have hout:rat l3 (a1-1)=rat l2 (a1-1):=re3.out _ (by omega)
       have low:∀ kk y,a1≤kk→kk<mid→a1≤y→y<b1→Le (rat l3 kk) (rat l3 y):=fun kk y z1 z2 z3 z4 =>
        (not_lt.1 (q4 kk z1 z2)).trans ((not_lt.1 hlt).trans (hout▸P3 ha0 y z3 z4))
       refine .inl ⟨(v,(mid:Int),(b1:Int),lm,cmpF,wb,wp,()),g3,?_,mid,b1,lm,wb,wp,l3,by omega,by omega,q2,hb1,rfl,H3,o13,re2.trans (re3.weak ha1 hb1),fun _ kk z1 z2=>low (mid-1) kk (by omega) (by omega) (by omega) z2,M3.less fun x y z1 z2 z3 z4=>low x y z1 (by omega) (by omega) z3⟩
       simp only [c1,cond_true,wr,i6,u1,u2,jae,u3,jaf,u4,u5,jan,jbw hlt,Bool.not_false,zbz.k17,zbz.c18,cxC,e3]
     ·have c1:decide ((a1:Int)>0)=false:=dF (by omega)
      have t:=t20 lm ln wb p g l2 hp1 hp2 H2 o2 re2 P2 M2
      simp only [c1,cond_false,zbz.k17]
      exact t
    have t15:∀ (lm ln hint:Int) (wb wp:Bool) (p:Nat) (g:AH) (l2:List Row),a1≤p→p<b1→Has n0 v g l2→Old n0 h g→Re a b l l2→Pre l2 a1 b1→Mid l2 a a1 b1 b →
      Goal (zbz.r15 (cx F (m+(D+1)+7)) n' n' zbz.ret zbz.ret (v,(a1:Int),(b1:Int),lm,cmpF,wb,wp,ln,(p:Int),hint,()) g):=by
     intro lm ln hint wb wp p g l2 hp1 hp2 H2 o2 re2 P2 M2
     have hl2:=re2.len
     have no:=t17 lm ln wb wp p g l2 hp1 hp2 H2 o2 re2 P2 M2
     have yes:Goal (zbz.k15 (cx F (m+(D+1)+7)) (zbz.r17 (cx F (m+(D+1)+7)) n' n' zbz.ret zbz.ret) n' zbz.ret zbz.ret (v,(a1:Int),(b1:Int),lm,cmpF,wb,wp,ln,(p:Int),true,()) g):=by
      obtain ⟨fl,g3,l3,e3,H3,o3,re3,s3⟩:=few_spec (F:=F) (m:=m+(D+1)+3) H2 o2.wf (Nat.le_trans hn0 o2.next) (show a1<b1 by omega) (by omega) (by omega) hF P2
      have o23:=o2.trans o3
      simp -implicitDefEqProofs only [zbz.k15,zbz.c16,cond_true,cxC,e3,cB_some]
      cases fl with
      | true =>
       refine .inr ⟨g3,l3,?_,H3,o23,re2.trans (re3.weak ha1 hb1),(M2.re ha1 hb1 re3).done (s3 rfl)⟩
       simp only [zbz.k16,cond_true]
       rfl
      | false =>
       have t:=t17 lm ln wb wp p g3 l3 hp1 hp2 H3 o23 (re2.trans (re3.weak ha1 hb1)) (P2.re re3) (M2.re ha1 hb1 re3)
       simp only [zbz.k16,cond_false]
       exact t
     have no':Goal (zbz.k15 (cx F (m+(D+1)+7)) (zbz.r17 (cx F (m+(D+1)+7)) n' n' zbz.ret zbz.ret) n' zbz.ret zbz.ret (v,(a1:Int),(b1:Int),lm,cmpF,wb,wp,ln,(p:Int),false,()) g):=by
      simp only [zbz.k15,cond_false]
      exact no
     simp only [zbz.r15,zbz.c15,cond_true]
     cases wb with
     | false=>simp only [cond_false];exact no'
     | true =>
      cases wp with
      | false=>simp only [cond_true,cond_false];exact no'
      | true =>
       simp only [cond_true]
       cases (hint==1) with
       | true=>exact yes
       | false=>exact no'
    have t10:∀ (lm ln:Int) (wb wp:Bool) (g:AH) (l2:List Row),Has n0 v g l2→Old n0 h g→Re a b l l2→Pre l2 a1 b1→Mid l2 a a1 b1 b →
      Goal (zbz.r10 (cx F (m+(D+1)+7)) n' n' zbz.ret zbz.ret (v,(a1:Int),(b1:Int),lm,cmpF,wb,wp,ln,()) g):=by
     intro lm ln wb wp g l2 H2 o2 re2 P2 M2
     have hl2:=re2.len
     obtain ⟨p,hint,g3,e3,q1,q2,H3,o3⟩:=pivot_spec (F:=F) (m:=m+(D+1)) H2 o2.wf (Nat.le_trans hn0 o2.next) (a:=a1) (b:=b1) (by omega) (by omega) (by omega)
     have o23:=o2.trans o3
     simp only [zbz.r10,zbz.c10,cxC,e3,jam,ex0,ex1,jag,zbz.k10,zbz.c11]
     cases hh:(hint==2) with
     | false =>
      simp only [zbz.k11,cond_false]
      exact t15 lm ln hint wb wp p g3 l2 q1 q2 H3 o23 re2 P2 M2
     | true =>
      obtain ⟨g4,l4,e4,H4,o4,re4⟩:=rev_spec (F:=F) (m:=m+(D+1)+6) H3 o23.wf (show a1<b1 by omega) (by omega) (by omega) hF
      have i7:IntKind.wrap .i64 ((b1:Int)-1)=((b1-1:Nat):Int):=wi (by omega) (by omega)
      have i8:IntKind.wrap .i64 ((p:Int)-(a1:Int))=((p-a1:Nat):Int):=wi (by omega) (by omega)
      have i9:IntKind.wrap .i64 (((b1-1:Nat):Int)-((p-a1:Nat):Int))=((b1-1-(p-a1):Nat):Int):=wi (by omega) (by omega)
      simp -implicitDefEqProofs only [zbz.k11,zbz.c12,cond_true,cxC,e4,jam,wr,i7,i8,i9]
      exact t15 lm ln 1 wb wp _ g4 l4 (by omega) (by omega) H4 (o23.trans o4) (re2.trans (re4.weak ha1 hb1)) (P2.re re4) (M2.re ha1 hb1 re4)
    show Goal _
    cases hz:(lm==0) with
    | true =>
     obtain ⟨g3,l3,e3,H3,o3,re3,s3⟩:=heap_spec (F:=F) (m:=m+(D+1)+2) H1 og.wf (Nat.le_trans hn0 og.next) hab1 (by omega) (by omega) hF
     refine .inr ⟨g3,l3,?_,H3,og.trans o3,re.trans (re3.weak ha1 hb1),(M1.re ha1 hb1 re3).done s3⟩
     simp only [zbz.k5,zbz.c6,cond_true,cxC,e3,jam]
     rfl
    | false =>
     simp only [zbz.k5,zbz.r7,zbz.c7,cond_false]
     cases wb with
     | true =>
      simp only [Bool.not_true,zbz.k7,cond_false]
      exact t10 lm _ true wp g l1 H1 og re P1 M1
     | false =>
      obtain ⟨g3,l3,e3,H3,o3,re3⟩:=break_spec (F:=F) (m:=m+(D+1)+3) H1 og.wf (Nat.le_trans hn0 og.next) hab1 (by omega) (by omega) hF
      simp only [Bool.not_false,zbz.k7,zbz.c8,cond_true,cxC,e3,jam]
      exact t10 _ _ false wp g3 l3 H3 (og.trans o3) (re.trans (re3.weak ha1 hb1)) (P1.re re3) (M1.re ha1 hb1 re3)
  ·rintro s g n' ⟨a1,b1,lm,wb,wp,l1,hk,ha1,hab1,hb1,rfl,H1,og,re,P1,M1⟩
   exact short n' a1 b1 lm wb wp l1 g ha1 hab1 hb1 (by omega) H1 og re M1
theorem sort_ok{F m:Nat}(hF:5000<F):SortOK F (m+209) 200:=by
 intro n0 h v l hw hn0 ho hok hl
 rw [tzbn]
 have H:Has n0 v h l:=⟨ho,hok⟩
 have e1:=len_spec (F:=F) (m:=m+206) (h:=h) (n:=l.length) (by omega)
 obtain ⟨h2,l2,e2,H2,o2,re2,s2⟩:=pdq_spec (F:=F) (m:=m) hF 200 n0 v h l 0 l.length ((blen l.length:Nat):Int) H hw hn0 (Nat.zero_le _) (Nat.le_refl _) hl (by omega) (fun h0=>absurd h0 (Nat.lt_irrefl _))
 refine ⟨pack [],h2,l2,?_,H2.own,o2,re2.perm,by
  rw [← re2.len] at s2
  exact s2.srt⟩
 have e2':runC (EE F) (m+208) nzbz [v,.int .i64 0,.int .i64 (l.length:Int),.int .i64 ((blen l.length:Nat):Int),cmpF] h=some (pack [],h2):=e2
 simp only [zbn.fn,zbn.c0,H.own.sl.len,jag,wr,jcg (show l.length<18446744073709551616 by omega),cxC,e1,jan,e2',jam,zbn.ret]
 rfl
end Go.Proofs.YtcmhoboglapbdaaDoor
namespace Go.Proofs.YtcmhoboglapbdaaDoor
open Go Ev
theorem dis_fresh{z e z' e' n n' n1:Nat}{h h':AH}{p q:V}{cs cs':List V}(hp:Own h.next z e h' p n cs)(hq:Own n1 z' e' h q n' cs')(hw:h.WF):Dis p q:=fun b=>by
 by_cases hb:b<h.next
 ·exact .inl (hp.fresh hb)
 ·exact .inr (Classical.byContradiction fun hh=>hb (hq.alive hw hh))
def boolL(l:List Bool):List V:=l.map V.bool
theorem boolL_len(l:List Bool):(boolL l).length=l.length:=List.length_map ..
theorem boolL_get(l:List Bool)(i:Nat):(boolL l)[i]?=(l[i]?).map V.bool:=List.getElem?_map ..
def u64L(l:List Nat):List V:=l.map fun (n:Nat)=>V.int .u64 (n:Int)
theorem u64L_len(l:List Nat):(u64L l).length=l.length:=List.length_map ..
theorem u64L_get(l:List Nat)(i:Nat):(u64L l)[i]?=(l[i]?).map fun (n:Nat)=>V.int .u64 (n:Int):=List.getElem?_map ..
theorem u64L_cell(l:List Nat):(u64L l).all V.cell=true:=by
 rw [List.all_eq_true];intro x hx
 obtain ⟨n,_,rfl⟩:=List.mem_map.1 hx
 rfl
def farP(l:List (Row×Bool)):List Nat:=l.flatMap fun x=>if x.2 then [x.1.pos] else []
theorem farP_snoc(l:List (Row×Bool))(x:Row×Bool):farP (l++[x])=farP l++(if x.2 then [x.1.pos] else []):=by unfold farP;rw [List.flatMap_append];simp
theorem farP_len(l:List (Row×Bool)):(farP l).length=nfar l:=by
 induction l with
 | nil=>rfl
 | cons x l ih =>
  have hn:nfar (x :: l)=nfar l+if x.2=true then 1 else 0:=List.countP_cons
  have hf:farP (x :: l)=(if x.2 then [x.1.pos] else [])++farP l:=rfl
  rw [hf,hn,List.length_append,ih]
  by_cases hx:x.2=true
  ·rw [if_pos hx,if_pos hx];simp;omega
  ·rw [if_neg hx,if_neg hx];simp
theorem farP_fars(l:List (Row×Bool)):jcr l=(farP l).flatMap fun n=>bigL n 8:=by
 induction l with
 | nil=>rfl
 | cons x l ih =>
  have h1:jcr (x :: l)=(if x.2 then bigL x.1.pos 8 else [])++jcr l:=rfl
  have hf:farP (x :: l)=(if x.2 then [x.1.pos] else [])++farP l:=rfl
  rw [h1,hf,List.flatMap_append,ih]
  by_cases hx:x.2=true
  ·rw [if_pos hx,if_pos hx];simp
  ·rw [if_neg hx,if_neg hx];simp
theorem snoc8{l:List Nat}{i x:Nat}(h:l[i]?=some x):(l.take (i+1)).flatMap (fun n=>bigL n 8)=(l.take i).flatMap (fun n=>bigL n 8)++bigL x 8:=by
 rw [← jar h,List.flatMap_append];simp
theorem len8(l:List Nat):(l.flatMap fun n=>bigL n 8).length=8*l.length:=by
 induction l with
 | nil=>rfl
 | cons x l ih=>rw [List.flatMap_cons,List.length_append,ih,jbv,List.length_cons];omega
theorem byte8(l:List Nat):∀ x∈l.flatMap (fun n=>bigL n 8),x<256:=by
 intro x hx
 obtain ⟨b,_,hb⟩:=List.mem_flatMap.1 hx
 exact bigL_byte _ _ x hb
theorem doc_cnt{F m:Nat}{out:Res→Prop}{Jn:V×V×V×V×Int×Int×Unit→AH→Res}{J1:_}{J0:_}{Jr:_}{v w q p:V}{b:Nat}{h:AH}{l:List Row}(hF:l.length<F)(hl:l.length≤100000)(hb:b<256)(hw:h.WF)(hr:Rs h v l)
  (fin:∀ h',Old h.next h h'→out (Jn (v,w,q,p,(b:Int),((upto l b:Nat):Int),()) h')) :
  out (zba.k6 (cx F m) Jn J1 J0 Jr (v,w,q,p,(b:Int),0,v,(l.length:Int),0,()) h):=by
 show out (jaw zba.P14 F (fun t h n'=>zba.l7 (cx F m) n' Jn J1 J0 Jr t h) (v,w,q,p,(b:Int),0,v,(l.length:Int),0,()) h)
 refine jah (S:=zba.P14) (out:=out)
  (fun k s g=>∃ i:Nat,i+k=l.length∧s=(v,w,q,p,(b:Int),((upto (l.take i) b:Nat):Int),v,(l.length:Int),(i:Int),())∧Old h.next h g) ?_ ?_ l.length F _ _ ⟨0,by omega,rfl,Old.refl hw _⟩ hF
 ·rintro k s g n' ⟨i,hi,rfl,og⟩
  have hlt:i<l.length:=by omega
  have hget:l[i]?=some l[i]:=List.getElem?_eq_getElem hlt
  have hk:=hr.2 _ (List.getElem_mem hlt)
  have hx:=id0_lt hk
  obtain ⟨a,u1,u2⟩:=(hr.old hw og).at hget
  obtain ⟨g1,t1,t2,t3,t4,t5⟩:=tmp_row og.wf hk jac
  have hu:=upto_le (l.take i) b
  rw [List.length_take] at hu
  have c1:decide ((i:Int)<(l.length:Int))=true:=dT (by omega)
  have i3:IntKind.wrap .i64 ((i:Int)+1)=((i+1:Nat):Int):=wi (by omega) (by omega)
  have i4:IntKind.wrap .i64 (((upto (l.take i) b:Nat):Int)+1)=((upto (l.take i) b+1:Nat):Int):=wi (by omega) (by omega)
  have i5:IntKind.wrap .i64 ((id0 l[i]:Nat):Int)=((id0 l[i]:Nat):Int):=wi rfl (by omega)
  have hs:upto (l.take (i+1)) b=upto (l.take i) b+if id0 l[i]≤b then 1 else 0:=by
   rw [← jar hget]
   unfold upto
   rw [List.countP_append,List.countP_singleton]
   simp
  by_cases hle:id0 l[i]≤b
  ·have c2:decide (IntKind.wrap .i64 ((id0 l[i]:Nat):Int)≤(b:Int))=true:=by rw [i5];exact dT (by omega)
   rw [if_pos hle] at hs
   refine .inl ⟨_,g1,?_,i+1,by omega,rfl,og.trans (t4.weak og.next)⟩
   rw [hs]
   simp only [zba.l7,zba.c7,zba.k7,zba.r8,zba.c8,zba.k9,zba.c10,zba.r11,zba.c11,c1,cond_true,u1,jae,jbf u2,jaf,t1,t2,jaj,jbu,ixA_of (n:=32) (z:=1) (i:=0) (by omega) (by omega),row_id0 t3 hk,jag,wr,↓c2,i4,i3]
  ·have c2:decide (IntKind.wrap .i64 ((id0 l[i]:Nat):Int)≤(b:Int))=false:=by rw [i5];exact dF (by omega)
   have hs:upto (l.take (i+1)) b=upto (l.take i) b:=by rw [hs,if_neg hle];rfl
   refine .inl ⟨_,g1,?_,i+1,by omega,rfl,og.trans (t4.weak og.next)⟩
   rw [hs]
   simp only [zba.l7,zba.c7,zba.k7,zba.r8,zba.c8,zba.k9,zba.r11,zba.c11,c1,cond_true,cond_false,u1,jae,jbf u2,jaf,t1,t2,jaj,jbu,ixA_of (n:=32) (z:=1) (i:=0) (by omega) (by omega),row_id0 t3 hk,jag,wr,↓c2,i3]
 ·rintro s g n' ⟨i,hi,rfl,og⟩
  obtain rfl:i=l.length:=by omega
  rw [List.take_length]
  have c1:decide ((l.length:Int)<(l.length:Int))=false:=dF (by omega)
  simp only [zba.l7,zba.c7,zba.k7,c1,cond_false]
  exact fin g og
theorem doc_fans{F m:Nat}(hF:300<F){out:Res→Prop}{Jn:V×V×V×V×Unit→AH→Res}{Jr:_}{v w q p:V}{h:AH}{n0:Nat}{l:List Row}(hl:l.length≤100000)(hFl:l.length<F)(hw:h.WF)(hn0:n0≤h.next)(hr:Rs h v l)(hp:Own n0 1 jai h p jbd.length (jaa jbd))
  (fin:∀ p' h',Own n0 1 jai h' p' (headM l).length (jaa (headM l))→Old h.next h h'→out (Jn (v,w,q,p',()) h')) :
  out (zba.k2 (cx F (m+1)) Jn Jr (v,w,q,p,0,()) h):=by
 show out (jaw zba.P6 F (fun t h n'=>zba.l3 (cx F (m+1)) n' Jn Jr t h) (v,w,q,p,0,()) h)
 refine jah (S:=zba.P6) (out:=out)
  (fun k s g=>∃ (i:Nat) (p':V),i+k=256∧s=(v,w,q,p',(i:Int),())∧Own n0 1 jai g p' (jbd++fansM l i).length (jaa (jbd++fansM l i))∧Old h.next h g) ?_ ?_ 256 F _ _ ⟨0,p,rfl,rfl,by simpa [fansM] using hp,Old.refl hw _⟩ (by omega)
 ·rintro k s g n' ⟨i,p',hi,rfl,ho,og⟩
  have hx:i<256:=by omega
  have hu:=upto_le l i
  have hml:(jbd++fansM l i).length≤2000:=by rw [List.length_append,fansM_len];show 8+_≤_;omega
  have c1:decide ((i:Int)<256)=true:=dT (by omega)
  have i3:IntKind.wrap .i64 ((i:Int)+1)=((i+1:Nat):Int):=wi (by omega) (by omega)
  refine .inl ?_
  simp only [zba.l3,zba.c3,zba.k3,c1,cond_true,zba.r5,zba.c5,zba.k5,zba.c6,(hr.old hw og).1.len,jag]
  refine doc_cnt (out:=fun x=>∃ s' h',x=n' s' h'∧∃ (i:Nat) (p':V),i+k=256∧s'=(v,w,q,p',(i:Int),())∧Own n0 1 jai h' p' (jbd++fansM l i).length (jaa (jbd++fansM l i))∧Old h.next h h') hFl hl hx og.wf (hr.old hw og) (fun g1 o1=>?_)
  have og1:=og.trans (o1.weak og.next)
  obtain ⟨p2,g2,a1,a2,a3⟩:=putBig_spec (F:=F) (n:=m) (by omega) og1.wf ((ho.old og.wf o1).bs (jax magicM_byte (fansM_byte l i))) (by omega) (v:=upto l i) (m:=4) (by omega)
  rw [List.append_assoc,← fansM_succ] at a2
  have a1':runC (EE F) (m+1) nzaz [p',.int .u64 ((upto l i:Nat):Int),.int .i64 4] g1=some (p2,g2):=a1
  have hn1:=og1.next
  refine ⟨_,g2,?_,i+1,p2,by omega,rfl,a2.weak (by omega),og1.trans (a3.weak og1.next)⟩
  simp only [zba.r12,zba.c12,zba.r4,zba.c4,wr,jcg (show upto l i<18446744073709551616 by omega),cxC,a1',jam,i3]
 ·rintro s g n' ⟨i,p',hi,rfl,ho,og⟩
  obtain rfl:i=256:=by omega
  have c1:decide (((256:Nat):Int)<256)=false:=rfl
  simp only [zba.l3,zba.c3,zba.k3,c1,cond_false]
  exact fin p' g ho og
theorem doc_ids{F m:Nat}{out:Res→Prop}{Jn:V×V×V×V×Unit→AH→Res}{Jr:_}{v w q p:V}{h:AH}{n0:Nat}{l:List Row}{x:List Nat}(hF:l.length<F)(hl:l.length≤100000)(hxl:x.length≤10000000)(hw:h.WF)(hn0:n0≤h.next)
  (hv:∀ g,Old n0 h g→Rs g v l) (hp:Own n0 1 jai h p x.length (jaa x)) (hok:∀ r∈l,r.ok)
  (fin:∀ p' h',Own n0 1 jai h' p' (x++idsM l).length (jaa (x++idsM l))→Old n0 h h'→out (Jn (v,w,q,p',()) h')) :
  out (zba.k13 (cx F m) Jn Jr (v,w,q,p,v,(l.length:Int),0,()) h):=by
 show out (jaw zba.P28 F (fun t h n'=>zba.l14 (cx F m) n' Jn Jr t h) (v,w,q,p,v,(l.length:Int),0,()) h)
 refine jah (S:=zba.P28) (out:=out)
  (fun k s g=>∃ (i:Nat) (p':V),i+k=l.length∧s=(v,w,q,p',v,(l.length:Int),(i:Int),())∧Own n0 1 jai g p' (x++idsM (l.take i)).length (jaa (x++idsM (l.take i)))∧Old n0 h g) ?_ ?_ l.length F _ _ ⟨0,p,by omega,rfl,by simpa [idsM] using hp,Old.refl hw _⟩ hF
 ·rintro k s g n' ⟨i,p',hi,rfl,ho,og⟩
  have hlt:i<l.length:=by omega
  have hget:l[i]?=some l[i]:=List.getElem?_eq_getElem hlt
  have hk:=hok _ (List.getElem_mem hlt)
  have hti:∀ r∈l.take i,r.ok:=fun r h'=>hok r (List.mem_of_mem_take h')
  have hml:(idsM (l.take i)).length=32*i:=by rw [idsM_len hti,List.length_take];congr 1;omega
  obtain ⟨a,u1,u2⟩:=(hv g og).at hget
  obtain ⟨g1,t1,t2,t3,t4,t5⟩:=tmp_row og.wf hk jac
  obtain ⟨w2,g2,s1,s2,s3,s4,s5⟩:=ids_tmp t4.wf hk.1 hk.2.1
  have o12:Old g.next g g2:=t4.trans (s5.weak t4.next)
  have og2:=og.trans (o12.weak (Nat.le_trans hn0 og.next))
  obtain ⟨p2,g3,a1,a2,a3,_⟩:=jbc (ho.old og.wf o12) s4 o12.wf (Nat.le_trans hn0 og2.next) (jci (by rw [List.length_append,hml,hk.1];omega))
  rw [List.append_assoc,← idsM_snoc,jar hget] at a2
  have c1:decide ((i:Int)<(l.length:Int))=true:=dT (by omega)
  have i3:IntKind.wrap .i64 ((i:Int)+1)=((i+1:Nat):Int):=wi (by omega) (by omega)
  refine .inl ⟨_,g3,?_,i+1,p2,by omega,rfl,a2,og2.trans a3⟩
  simp only [zba.l14,zba.c14,zba.k14,zba.r15,zba.c15,zba.r18,zba.c18,c1,cond_true,u1,jae,jbf u2,jaf,t1,t2,jaj,jbu,row_id t3 hk,s1,s2,s3,a1,jam,wr,i3]
 ·rintro s g n' ⟨i,p',hi,rfl,ho,og⟩
  obtain rfl:i=l.length:=by omega
  rw [List.take_length] at ho
  have c1:decide ((l.length:Int)<(l.length:Int))=false:=dF (by omega)
  simp only [zba.l14,zba.c14,zba.k14,c1,cond_false]
  exact fin p' g ho og
theorem doc_crcs{F m:Nat}{out:Res→Prop}{Jn:V×V×V×V×Unit→AH→Res}{Jr:_}{v w q p:V}{h:AH}{n0:Nat}{l:List Row}{x:List Nat}(hF:l.length<F)(hF2:300<F)(hl:l.length≤100000)(hxl:x.length≤10000000)(hw:h.WF)(hn0:n0≤h.next)
  (hv:∀ g,Old n0 h g→Rs g v l) (hp:Own n0 1 jai h p x.length (jaa x)) (hok:∀ r∈l,r.ok) (hx8:∀ a∈x,a<256)
  (fin:∀ p' h',Own n0 1 jai h' p' (x++jbx l).length (jaa (x++jbx l))→Old n0 h h'→out (Jn (v,w,q,p',()) h')) :
  out (zba.k19 (cx F (m+1)) Jn Jr (v,w,q,p,v,(l.length:Int),0,()) h):=by
 show out (jaw zba.P40 F (fun t h n'=>zba.l20 (cx F (m+1)) n' Jn Jr t h) (v,w,q,p,v,(l.length:Int),0,()) h)
 refine jah (S:=zba.P40) (out:=out)
  (fun k s g=>∃ (i:Nat) (p':V),i+k=l.length∧s=(v,w,q,p',v,(l.length:Int),(i:Int),())∧Own n0 1 jai g p' (x++jbx (l.take i)).length (jaa (x++jbx (l.take i)))∧Old n0 h g) ?_ ?_ l.length F _ _ ⟨0,p,by omega,rfl,by simpa [jbx] using hp,Old.refl hw _⟩ hF
 ·rintro k s g n' ⟨i,p',hi,rfl,ho,og⟩
  have hlt:i<l.length:=by omega
  have hget:l[i]?=some l[i]:=List.getElem?_eq_getElem hlt
  have hk:=hok _ (List.getElem_mem hlt)
  have hml:(jbx (l.take i)).length=4*i:=by rw [crcsM_len,List.length_take];congr 1;omega
  obtain ⟨a,u1,u2⟩:=(hv g og).at hget
  obtain ⟨g1,t1,t2,t3,t4,t5⟩:=tmp_row og.wf hk jac
  have og1:=og.trans (t4.weak (Nat.le_trans hn0 og.next))
  obtain ⟨p2,g2,a1,a2,a3⟩:=putBig_spec (F:=F) (n:=m) (by omega) t4.wf ((ho.old og.wf t4).bs (jax hx8 (crcsM_byte _))) (by rw [List.length_append,hml];omega) (v:=l[i].crc) (m:=4) (by omega)
  rw [List.append_assoc,← crcsM_snoc,jar hget] at a2
  have c1:decide ((i:Int)<(l.length:Int))=true:=dT (by omega)
  have i3:IntKind.wrap .i64 ((i:Int)+1)=((i+1:Nat):Int):=wi (by omega) (by omega)
  have hcr:=hk.2.2.1
  have a1':runC (EE F) (m+1) nzaz [p',.int .u64 ((l[i].crc:Nat):Int),.int .i64 4] g1=some (p2,g2):=a1
  have hn1:=og1.next
  refine .inl ⟨_,g2,?_,i+1,p2,by omega,rfl,a2.weak (by omega),og1.trans (a3.weak (by omega))⟩
  simp only [zba.l20,zba.c20,zba.k20,zba.r21,zba.c21,zba.r23,zba.c23,c1,cond_true,u1,jae,jbf u2,jaf,t1,t2,jaj,jbu,row_crc t3 hk,jag,wr,jcg (show l[i].crc<18446744073709551616 by omega),cxC,a1',jam,i3]
 ·rintro s g n' ⟨i,p',hi,rfl,ho,og⟩
  obtain rfl:i=l.length:=by omega
  rw [List.take_length] at ho
  have c1:decide ((l.length:Int)<(l.length:Int))=false:=dF (by omega)
  simp only [zba.l20,zba.c20,zba.k20,c1,cond_false]
  exact fin p' g ho og
theorem cap8_ok{n:Nat}(h:n≤17592186044000):capW 8 n=true:=by
 unfold capW
 rw [Bool.and_eq_true]
 refine ⟨Nat.ble_eq_true_of_le (by omega),Nat.ble_eq_true_of_le ?_⟩
 show (2*n+128)*8≤281474976710656
 omega
theorem bsl_u64{h:AH}(hw:h.WF)(x:Nat):∃ v h',bsl 1 1 [(0,1,.int .u64 (x:Int))] [.int .u64 0] jcm h=some (v,h')∧Own h.next 1 jcm h' v 1 (u64L [x])∧Old h.next h h':=bsl_own hw (cs:=u64L [x]) rfl rfl rfl
theorem doc_ats{F m:Nat}{out:Res→Prop}{Jn:V×V×V×Unit→AH→Res}{Jr:_}{v w q p:V}{h:AH}{n0:Nat}{l:List (Row×Bool)}{x:List Nat}(hF:l.length<F)(hF2:300<F)(hl:l.length≤100000)(hxl:x.length≤10000000)(hw:h.WF)(hn0:n0≤h.next)
  (hv:∀ g,Old n0 h g→Rs g v (l.map (·.1))) (hb:∀ g,Old n0 h g→Sl 1 g w l.length (boolL (l.map (·.2)))) (hp:Own n0 1 jai h p x.length (jaa x)) (hok:∀ r∈l,r.1.ok) (hx8:∀ a∈x,a<256)
  (fin:∀ p' f' h',Own n0 1 jai h' p' (x++atsM 0 l).length (jaa (x++atsM 0 l))→Own n0 1 jcm h' f' (farP l).length (u64L (farP l))→Old n0 h h'→out (Jn (q,p',f',()) h')) :
  out (zba.k25 (cx F (m+1)) Jn Jr (w,q,p,.nilslice,v,(l.length:Int),0,()) h):=by
 show out (jaw zba.P52 F (fun t h n'=>zba.l26 (cx F (m+1)) n' Jn Jr t h) (w,q,p,.nilslice,v,(l.length:Int),0,()) h)
 refine jah (S:=zba.P52) (out:=out)
  (fun k s g=>∃ (i:Nat) (p' f':V),i+k=l.length∧s=(w,q,p',f',v,(l.length:Int),(i:Int),())∧Own n0 1 jai g p' (x++atsM 0 (l.take i)).length (jaa (x++atsM 0 (l.take i))) ∧
   Own n0 1 jcm g f' (farP (l.take i)).length (u64L (farP (l.take i)))∧Old n0 h g) ?_ ?_ l.length F _ _ ⟨0,p,.nilslice,by omega,rfl,by simpa [atsM] using hp,(by rw [List.take_zero];exact own_nil _ _ _ _),Old.refl hw _⟩ hF
 ·rintro k s g n' ⟨i,p',f',hi,rfl,ho,hf,og⟩
  have hlt:i<l.length:=by omega
  have hget:l[i]?=some l[i]:=List.getElem?_eq_getElem hlt
  have hk:=hok _ (List.getElem_mem hlt)
  have hti:(l.take i).length=i:=by rw [List.length_take];omega
  have hml:(atsM 0 (l.take i)).length=4*i:=by rw [atsM_len,hti]
  have hnf:=nfar_le (l.take i)
  rw [hti] at hnf
  obtain ⟨a,u1,u2⟩:=(hv g og).at (i:=i) (r:=l[i].1) (by rw [List.getElem?_map,hget];rfl)
  obtain ⟨g1,t1,t2,t3,t4,t5⟩:=tmp_row og.wf hk jac
  have og1:Old n0 h g1:=og.trans (t4.weak (Nat.le_trans hn0 og.next))
  have hn1:n0≤g1.next:=Nat.le_trans hn0 og1.next
  obtain ⟨ab,v1,v2⟩:=(hb g1 og1).ix1 (i:=(i:Int)) (by omega) (by omega) (x:=.bool l[i].2) (by rw [Int.toNat_natCast,boolL_get,List.getElem?_map,hget];rfl)
  have c1:decide ((i:Int)<(l.length:Int))=true:=dT (by omega)
  have i3:IntKind.wrap .i64 ((i:Int)+1)=((i+1:Nat):Int):=wi (by omega) (by omega)
  have ho1:=ho.old og.wf t4
  have hf1:=hf.old og.wf t4
  have hbp:=ho1.bs (jax hx8 (atsM_byte (l.take i) 0))
  have sn:=(congrArg (fun t=>atsM 0 t) (jar hget)).symm
  have sf:=(congrArg (fun t=>farP t) (jar hget)).symm
  simp only [atsM_snoc,farP_snoc,Nat.zero_add] at sn sf
  cases hx:l[i].2 with
  | false =>
   rw [hx] at sn sf
   simp only [Bool.false_eq_true,if_false,List.append_nil] at sn sf
   obtain ⟨p2,g2,a1,a2,a3⟩:=putBig_spec (F:=F) (n:=m) (by omega) t4.wf hbp (by rw [List.length_append,hml];omega) (v:=l[i].1.pos) (m:=4) (by omega)
   rw [List.append_assoc,← sn] at a2
   have a1':runC (EE F) (m+1) nzaz [p',.int .u64 ((l[i].1.pos:Nat):Int),.int .i64 4] g1=some (p2,g2):=a1
   rw [hx] at v2
   have hf2:=hf1.old t4.wf a3
   rw [← sf] at hf2
   refine .inl ⟨_,g2,?_,i+1,p2,f',by omega,rfl,a2.weak (by omega),hf2,og1.trans (a3.weak (by omega))⟩
   simp only [zba.l26,zba.c26,zba.k26,zba.r27,zba.c27,c1,cond_true,u1,jae,jbf u2,jaf,t1,t2,jaj,v1,ld_of v2,bB_some,zba.k28,zba.c31,zba.r32,zba.c32,cond_false,jbu,row_pos t3 hk,jag,cxC,a1',jam,wr,i3]
  | true =>
   rw [hx] at sn sf
   simp only [if_true] at sn sf
   obtain ⟨p2,g2,a1,a2,a3⟩:=putBig_spec (F:=F) (n:=m) (by omega) t4.wf hbp (by rw [List.length_append,hml];omega) (v:=2147483648+nfar (l.take i)) (m:=4) (by omega)
   rw [List.append_assoc,← sn] at a2
   have a1':runC (EE F) (m+1) nzaz [p',.int .u64 ((2147483648+nfar (l.take i):Nat):Int),.int .i64 4] g1=some (p2,g2):=a1
   rw [hx] at v2
   have hd:Dis p2 f':=dis_fresh a2 hf1 t4.wf
   obtain ⟨y,g3,b1,b2,b3⟩:=bsl_u64 a3.wf l[i].1.pos
   have o13:Old g1.next g1 g3:=a3.trans (b3.weak a3.next)
   have hf3:=hf1.old t4.wf o13
   obtain ⟨s1,s2⟩:=b2.sl.src
   obtain ⟨f4,g4,d1,d2,d3,d4,d5⟩:=app_own (by_:=8) hf3 o13.wf (Nat.le_trans hn1 o13.next) (by omega) s1 s2 (by rw [u64L_len];rfl) (u64L_cell _) (cap8_ok (by rw [farP_len];omega))
   have hp4:=(a2.old a3.wf b3).beside o13.wf hd.symm ⟨d3.next,d4,d5⟩
   have hf4:Own n0 1 jcm g4 f4 (farP (l.take (i+1))).length (u64L (farP (l.take (i+1)))):=by
    rw [sf]
    have e:u64L (farP (l.take i)++[l[i].1.pos])=u64L (farP (l.take i))++u64L [l[i].1.pos]:=List.map_append ..
    rw [e,List.length_append]
    exact d2
   have r3:ld (.ptr ⟨g.next,34,0+33⟩) g2=some (.int .u64 ((l[i].1.pos:Nat):Int)):=row_pos (t3.old t4.wf a3) hk
   have i5:IntKind.wrap .u64 (2147483648+IntKind.wrap .u64 (((farP (l.take i)).length:Nat):Int))=((2147483648+nfar (l.take i):Nat):Int):=by
    rw [farP_len,wr_u64,wr_u64];omega
   refine .inl ⟨_,g4,?_,i+1,p2,f4,by omega,rfl,hp4.1.weak (by omega),hf4,(og1.trans (o13.weak hn1)).trans d3⟩
   simp only [zba.l26,zba.c26,zba.k26,zba.r27,zba.c27,c1,cond_true,u1,jae,jbf u2,jaf,t1,t2,jaj,v1,ld_of v2,bB_some,zba.k28,zba.c29,zba.r32,zba.c32,hf1.sl.len,jag,wr,i5,cxC,a1',jam,jbu,r3,b1,d1,i3]
 ·rintro s g n' ⟨i,p',f',hi,rfl,ho,hf,og⟩
  obtain rfl:i=l.length:=by omega
  rw [List.take_length] at ho hf
  have c1:decide ((l.length:Int)<(l.length:Int))=false:=dF (by omega)
  simp only [zba.l26,zba.c26,zba.k26,c1,cond_false]
  exact fin p' f' g ho hf og
theorem doc_fars{F m:Nat}{out:Res→Prop}{Jn:V×V×Unit→AH→Res}{Jr:_}{q p f:V}{h:AH}{n0:Nat}{us:List Nat}{x:List Nat}(hF:us.length<F)(hF2:300<F)(hl:us.length≤100000)(hxl:x.length≤10000000)(hw:h.WF)(hn0:n0≤h.next)
  (hf:Own n0 1 jcm h f us.length (u64L us)) (hp:Own n0 1 jai h p x.length (jaa x)) (hx8:∀ a∈x,a<256)
  (fin:∀ p' h',Own n0 1 jai h' p' (x++us.flatMap fun n=>bigL n 8).length (jaa (x++us.flatMap fun n=>bigL n 8))→Old h.next h h'→out (Jn (q,p',()) h')) :
  out (zba.k33 (cx F (m+1)) Jn Jr (q,p,f,(us.length:Int),0,()) h):=by
 show out (jaw zba.P68 F (fun t h n'=>zba.l34 (cx F (m+1)) n' Jn Jr t h) (q,p,f,(us.length:Int),0,()) h)
 refine jah (S:=zba.P68) (out:=out)
  (fun k s g=>∃ (i:Nat) (p':V),i+k=us.length∧s=(q,p',f,(us.length:Int),(i:Int),())∧Own n0 1 jai g p' (x++(us.take i).flatMap fun n=>bigL n 8).length (jaa (x++(us.take i).flatMap fun n=>bigL n 8))∧Old h.next h g) ?_ ?_ us.length F _ _ ⟨0,p,by omega,rfl,by simpa using hp,Old.refl hw _⟩ hF
 ·rintro k s g n' ⟨i,p',hi,rfl,ho,og⟩
  have hlt:i<us.length:=by omega
  have hget:us[i]?=some us[i]:=List.getElem?_eq_getElem hlt
  obtain ⟨a,v1,v2⟩:=(hf.old hw og).sl.ix1 (i:=(i:Int)) (by omega) (by omega) (x:=.int .u64 (us[i]:Int)) (by rw [Int.toNat_natCast,u64L_get,hget];rfl)
  have hml:((us.take i).flatMap fun n=>bigL n 8).length=8*i:=by rw [len8,List.length_take];congr 1;omega
  obtain ⟨p2,g2,a1,a2,a3⟩:=putBig_spec (F:=F) (n:=m) (by omega) og.wf (ho.bs (jax hx8 (byte8 _))) (by rw [List.length_append,hml];omega) (v:=us[i]) (m:=8) (by omega)
  rw [List.append_assoc,← snoc8 hget] at a2
  have c1:decide ((i:Int)<(us.length:Int))=true:=dT (by omega)
  have i3:IntKind.wrap .i64 ((i:Int)+1)=((i+1:Nat):Int):=wi (by omega) (by omega)
  have a1':runC (EE F) (m+1) nzaz [p',.int .u64 ((us[i]:Nat):Int),.int .i64 8] g=some (p2,g2):=a1
  have hn1:=og.next
  refine .inl ⟨_,g2,?_,i+1,p2,by omega,rfl,a2.weak (by omega),og.trans (a3.weak hn1)⟩
  simp only [zba.l34,zba.c34,zba.k34,zba.r35,zba.c35,zba.r37,zba.c37,c1,cond_true,v1,jae,ld_of v2,jag,cxC,a1',jam,wr,i3]
 ·rintro s g n' ⟨i,p',hi,rfl,ho,og⟩
  obtain rfl:i=us.length:=by omega
  rw [List.take_length] at ho
  have c1:decide ((us.length:Int)<(us.length:Int))=false:=dF (by omega)
  simp only [zba.l34,zba.c34,zba.k34,c1,cond_false]
  exact fin p' g ho og
theorem docBytes_cps{F d:Nat}{h:AH}(hw:h.WF){v w:V}{l:List (Row×Bool)}(hF:50*l.length+100000<F)(hr:Rs h v (l.map (·.1)))(hb:Sl 1 h w l.length (boolL (l.map (·.2))))(hlen:l.length≤100000){pack:List Nat}(h32:pack.length=32)(h8:∀ x∈pack,x<256)
  {out:Res→Prop} (fin:∀ v' h',Own h.next 1 jai h' v' (jbg l pack).length (jaa (jbg l pack))→Old h.next h h'→out (some (v',h'))) :
  out (runC (EE F) (d+3) nzba [v,w,.agg (jaa pack)] h):=by
 rw [tzba]
 obtain ⟨h1,e1,c1,n1,o1⟩:=jbe hw (jaa pack) jab (jap pack)
 rw [jad,h32] at e1
 obtain ⟨p2,h2,e2,w2,o2⟩:=magic_own o1.wf
 have o12:Old h.next h h2:=o1.trans (o2.weak o1.next)
 have hok:∀ r∈l.map (·.1),r.ok:=hr.2
 have hok':∀ x∈l,x.1.ok:=fun x hx=>hok _ (List.mem_map.2 ⟨x,hx,rfl⟩)
 have hll:(l.map (·.1)).length=l.length:=List.length_map ..
 simp only [zba.fn,zba.c0,zba.k1,zba.c2,e1,jam,e2]
 have hn1:=o1.next
 have hv:∀ g,Old h1.next h1 g→Rs g v (l.map (·.1)):=fun g og=>hr.old hw (o1.trans (og.weak hn1))
 have hbb:∀ g,Old h1.next h1 g→Sl 1 g w l.length (boolL (l.map (·.2))):=fun g og=>hb.old hw (o1.trans (og.weak hn1))
 refine doc_fans (m:=d+1) (n0:=h1.next) (l:=l.map (·.1)) (by omega) (by omega) (by omega) o2.wf o2.next (hv _ o2) w2 (fun p3 h3 w3 o3=>?_)
 have o13:=o2.trans (o3.weak o2.next)
 simp only [zba.r13,zba.c13,(hv _ o13).1.len,jag]
 have q_doc_ids:=@doc_ids F (d+2) out (zba.r19 (cx F (d+2)) zba.ret zba.ret) zba.ret v w (.ptr ⟨h.next,32,0⟩) p3 h3 h1.next (l.map (·.1)) (headM (l.map (·.1)))
 refine q_doc_ids (by omega) (by omega) (by rw [headM_len];omega) o13.wf o13.next (fun g og=>hv g (o13.trans og)) w3 hok (fun p4 h4 w4 o4=>?_)
 have o14:=o13.trans o4
 have li:=idsM_len hok
 simp only [zba.r19,zba.c19,(hv _ o14).1.len,jag]
 have q_doc_crcs:=@doc_crcs F (d+1) out (zba.r24 (cx F (d+2)) zba.ret zba.ret) zba.ret v w (.ptr ⟨h.next,32,0⟩) p4 h4 h1.next (l.map (·.1)) (headM (l.map (·.1))++idsM (l.map (·.1)))
 refine q_doc_crcs (by omega) (by omega) (by omega) (by rw [List.length_append,headM_len,li];omega) o14.wf o14.next (fun g og=>hv g (o14.trans og)) w4 hok (jax (headM_byte _) (idsM_byte hok)) (fun p5 h5 w5 o5=>?_)
 have o15:=o14.trans o5
 have e6:=(hv _ o15).1.len
 rw [hll] at e6
 simp only [zba.r24,zba.c24,zba.k24,zba.c25,e6,jag]
 have q_doc_ats:=@doc_ats F (d+1) out (zba.r33 (cx F (d+2)) zba.ret zba.ret) zba.ret v w (.ptr ⟨h.next,32,0⟩) p5 h5 h1.next l (headM (l.map (·.1))++idsM (l.map (·.1))++jbx (l.map (·.1)))
 refine q_doc_ats (by omega) (by omega) (by omega) (by rw [List.length_append,List.length_append,headM_len,li,crcsM_len];omega) o15.wf o15.next (fun g og=>hv g (o15.trans og)) (fun g og=>hbb g (o15.trans og)) w5 hok' (jax (jax (headM_byte _) (idsM_byte hok)) (crcsM_byte _)) (fun p6 f6 h6 w6 y6 o6=>?_)
 have o16:=o15.trans o6
 have hnf:=nfar_le l
 have l6:(headM (l.map (·.1))++idsM (l.map (·.1))++jbx (l.map (·.1))++atsM 0 l).length=1032+40*l.length:=by
  simp only [List.length_append,headM_len,li,crcsM_len,atsM_len,hll];omega
 have b6:∀ a∈headM (l.map (·.1))++idsM (l.map (·.1))++jbx (l.map (·.1))++atsM 0 l,a<256:=jax (jax (jax (headM_byte _) (idsM_byte hok)) (crcsM_byte _)) (atsM_byte _ _)
 simp only [zba.r33,zba.c33,y6.sl.len,jag]
 have q_doc_fars:=@doc_fars F (d+1) out (zba.r38 (cx F (d+2)) zba.ret zba.ret) zba.ret (.ptr ⟨h.next,32,0⟩) p6 f6 h6 h1.next (farP l) (headM (l.map (·.1))++idsM (l.map (·.1))++jbx (l.map (·.1))++atsM 0 l)
 refine q_doc_fars (by rw [farP_len];omega) (by omega) (by rw [farP_len];omega) (by rw [l6];omega) o16.wf o16.next y6 w6 b6 (fun p7 h7 w7 o7=>?_)
 rw [← farP_fars] at w7
 have o17:=o16.trans (o7.weak o16.next)
 have c7:jal h7 h.next jab (jaa pack):=c1.oldN (by omega) o17
 obtain ⟨y,s1,s2⟩:=ids_box c7 h32 h8
 have l7:((headM (l.map (·.1))++idsM (l.map (·.1))++jbx (l.map (·.1))++atsM 0 l)++jcr l).length=1032+40*l.length+8*nfar l:=by rw [List.length_append,l6,farsM_len]
 obtain ⟨p8,h8',a1,a2,a3,_⟩:=jbc w7 s2 o17.wf o17.next (jci (by rw [l7,h32];omega))
 have hbody:(headM (l.map (·.1))++idsM (l.map (·.1))++jbx (l.map (·.1))++atsM 0 l)++jcr l++pack=bodyM l pack:=by unfold bodyM;rw [List.append_assoc]
 rw [hbody] at a2
 have o18:=o17.trans a3
 have bl:=bodyM_len hok' h32
 have bb:=bodyM_byte hok' h8
 obtain ⟨h9,e9,o9⟩:=rsum_spec (F:=F) (n:=d) o18.wf (a2.bs bb) (by rw [bl];omega) (by rw [bl];omega)
 obtain ⟨z,h10,t1,t2,t3,t4,t5⟩:=ids_tmp o9.wf (jby (bodyM l pack)) (sumM_byte _)
 have o910:=o9.trans (t5.weak o9.next)
 obtain ⟨p11,h11,g1,g2,g3,_⟩:=jbc (a2.old o18.wf o910) t4 o910.wf (Nat.le_trans o18.next o910.next) (jci (by rw [bl,jby];omega))
 have f1:=fin p11 h11 (g2.weak hn1) (o1.trans (((o18.trans (o910.weak o18.next)).trans g3).weak hn1))
 simp only [zba.r38,zba.c38,s1,jae,a1,jam,cxC,e9,cA_some,t1,t2,jaj,t3,g1,zba.ret]
 exact f1
end Go.Proofs.YtcmhoboglapbdaaDoor
namespace Go.Proofs.YtcmhoboglapbdaaDoor
open Go Ev
theorem fill_set{α:Type}{A:List α}{n i:Nat}{d x:α}(hA:A.length=n)(hi:i<n)(hx:A[i]?=some x):(A.take i++List.replicate (n-i) d).set i x=A.take (i+1)++List.replicate (n-(i+1)) d:=by
 have ht:(A.take i).length=i:=by rw [List.length_take];omega
 rw [List.set_append_right _ _ (by omega),ht,Nat.sub_self,show n-i=(n-(i+1))+1 by omega,List.replicate_succ,List.set_cons_zero,← jar hx,List.append_assoc];rfl
theorem boolL_set(l:List Bool)(i:Nat)(x:Bool):(boolL l).set i (.bool x)=boolL (l.set i x):=(List.map_set ..).symm
theorem Ev.Own.setBool{n0 e:Nat}{h:AH}{v:V}{l:List Bool}(ho:Own n0 1 e h v l.length (boolL l))(hw:h.WF){i:Nat}(hi:i<l.length)(x:Bool) :
  ∃ a h',ixS 1 v (i:Int)=some (.ptr a)∧st 1 (.ptr a) (.bool x) h=some h'∧Own n0 1 e h' v (l.set i x).length (boolL (l.set i x))∧Old n0 h h'∧(∀ b,notIn v b→h'.get b=h.get b):=by
 obtain ⟨a,h',g1,g2,g3,g4,g5⟩:=ho.set hw (i:=(i:Int)) (by omega) (by omega) (w:=.bool x) rfl rfl
 refine ⟨a,h',g1,g2,?_,g4,g5⟩
 rw [Nat.mul_one] at g3
 have e1:(V.bool x).cells=[V.bool x]:=rfl
 rw [e1,Int.toNat_natCast,putL_one _ _ _ (by rw [boolL_len];omega),boolL_set] at g3
 rw [List.length_set]
 exact g3
theorem mk_bools{h:AH}(hw:h.WF){n:Nat}(hn:n≤100000):∃ v h',mkS 1 1 [.bool false] T_bool (n:Int) (n:Int) h=some (v,h')∧Own h.next 1 T_bool h' v (List.replicate n false).length (boolL (List.replicate n false))∧Old h.next h h':=by
 obtain ⟨v,h',e1,e2,e3⟩:=mkS_own hw (z:=1) (by_:=1) (e:=T_bool) (zs:=[.bool false]) rfl (by omega) rfl (l:=n) (by omega) (by omega)
 refine ⟨v,h',e1,?_,e3⟩
 have e4:(List.replicate n [V.bool false]).flatten=boolL (List.replicate n false):=by unfold boolL;rw [List.map_replicate];simp
 rw [e4] at e2
 rw [List.length_replicate]
 exact e2
end Go.Proofs.YtcmhoboglapbdaaDoor
