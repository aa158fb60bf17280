/-
  The row and the card of PackidxThere: for any rows that a call can be handed the call comes back true (what was built is read and found), and all that was there reads as it did. No condition.
-/
import Derived.Test.YtcmhoboglapbdaaDoorQTD
set_option linter.unusedVariables false
set_option linter.unusedSimpArgs false
namespace Go.Proofs.YtcmhoboglapbdaaDoor
open Go Ev
theorem bld_dup{F m:Nat}{out:Res→Prop}{Jn:V×V×Unit→AH→Res}{Jr:V×V×Unit→AH→Res}{q v:V}{h:AH}{l:List Row}(hp:Rs h v l)(hl:l.length≤2932031007317)(hF:l.length<F)
  (yes:twiceM l=true→out (Jr (.nilslice,.int .i64 8,()) h)) (no:twiceM l=false→out (Jn (q,v,()) h)):out (zak.k5 (cx F m) Jn Jr (q,v,1,()) h):=by
 show out (loopN zak.P12 F (fun t h n'=>zak.l6 (cx F m) n' Jn Jr t h) (q,v,1,()) h)
 refine loop_rule (S:=zak.P12) (out:=out)
  (fun k s g=>∃ i:Nat,1≤i∧i+k=max l.length 1∧s=(q,v,(i:Int),())∧g=h∧twiceM l=twiceM (l.drop (i-1))) ?_ ?_ (max l.length 1-1) F _ _ ⟨1,by omega,by omega,rfl,rfl,by simp⟩ (by omega)
 ·rintro k s g n' ⟨i,h1,hi,rfl,rfl,ht⟩
  have hlt:i<l.length:=by omega
  have g1:l[i]?=some l[i]:=List.getElem?_eq_getElem hlt
  have g0:l[i-1]?=some l[i-1]:=List.getElem?_eq_getElem (by omega)
  obtain ⟨a,u1,u2⟩:=hp.at g1
  obtain ⟨b,u3,u4⟩:=hp.at g0
  have k1:=hp.2 _ (List.getElem_mem hlt)
  have k0:=hp.2 _ (List.getElem_mem (show i-1<l.length by omega))
  have c1:decide ((i:Int)<(l.length:Int))=true:=by rw [decide_eq_true_eq];omega
  have i1:IntKind.wrap .i64 ((i:Int)-1)=((i-1:Nat):Int):=by rw [wr_i64 (by omega) (by omega)];omega
  have i3:IntKind.wrap .i64 ((i:Int)+1)=((i+1:Nat):Int):=by rw [wr_i64 (by omega) (by omega)];omega
  have e1:=eqId k1.1 k0.1
  have d:l.drop (i-1)=l[i-1] :: l[i] :: l.drop (i+1):=by
   rw [List.drop_eq_getElem_cons (by omega),show i-1+1=i by omega,List.drop_eq_getElem_cons hlt]
  have d':l.drop (i+1-1)=l[i] :: l.drop (i+1):=by rw [Nat.add_sub_cancel,List.drop_eq_getElem_cons hlt]
  rw [d] at ht
  by_cases hx:l[i].id=l[i-1].id
  ·refine .inr ?_
   have ht':twiceM l=true:=by rw [ht];show (decide (l[i].id=l[i-1].id) || _)=true;rw [decide_eq_true hx];rfl
   rw [decide_eq_true hx] at e1
   simp only [zak.l6,zak.c6,zak.k6,zak.r8,zak.c8,zak.k8,zak.c9,hp.1.len,bI_some,c1,cond_true,u1,bV_some,fA_at,rid_of u2 k1,bA_some,wr,i1,u3,rid_of u4 k0,e1,bB_some]
   exact yes ht'
  ·refine .inl ⟨_,g,?_,i+1,by omega,by omega,rfl,rfl,?_⟩
   ·rw [decide_eq_false hx] at e1
    simp only [zak.l6,zak.c6,zak.k6,zak.r8,zak.c8,zak.k8,zak.r7,zak.c7,hp.1.len,bI_some,c1,cond_true,u1,bV_some,fA_at,rid_of u2 k1,bA_some,wr,i1,u3,rid_of u4 k0,e1,bB_some,cond_false,i3]
   ·rw [ht,d'];show (decide (l[i].id=l[i-1].id) || _)=_;rw [decide_eq_false hx];rfl
 ·rintro s g n' ⟨i,h1,hi,rfl,rfl,ht⟩
  have c1:decide ((i:Int)<(l.length:Int))=false:=by rw [decide_eq_false_iff_not];omega
  have ht':twiceM l=false:=by
   rw [ht]
   have hd:(l.drop (i-1)).length≤1:=by rw [List.length_drop];omega
   cases hc:l.drop (i-1) with
   | nil=>rfl
   | cons a m =>
    rw [hc] at hd
    cases m with
    | nil=>rfl
    | cons b m=>simp at hd
  simp only [zak.l6,zak.c6,zak.k6,hp.1.len,bI_some,c1,cond_false]
  exact no ht'
theorem u64_small{x:Nat}(h:x<18446744073709551616):IntKind.wrap .u64 (x:Int)=(x:Int):=by rw [wr_u64];omega
theorem bld_fans{F m:Nat}(hF:300<F){out:Res→Prop}{Jn:V×V×V×Unit→AH→Res}{Jr:V×V×Unit→AH→Res}{q v p:V}{h:AH}{n0:Nat}{l:List Row}(hl:l.length≤4096)(hw:h.WF)(hn0:n0≤h.next)(hp:Own n0 1 T_uint8 h p magicM.length (byteL magicM))
  (fin:∀ p' h',Own n0 1 T_uint8 h' p' (headM l).length (byteL (headM l))→Old n0 h h'→out (Jn (q,v,p',()) h')) :
  out (zak.k11 (cx F (m+1)) Jn Jr (q,v,p,iL 256 (upto l),0,()) h):=by
 show out (loopN zak.P24 F (fun t h n'=>zak.l12 (cx F (m+1)) n' Jn Jr t h) (q,v,p,iL 256 (upto l),0,()) h)
 refine loop_rule (S:=zak.P24) (out:=out)
  (fun k s g=>∃ (i:Nat) (p':V),i+k=256∧s=(q,v,p',iL 256 (upto l),(i:Int),())∧Own n0 1 T_uint8 g p' (magicM++fansM l i).length (byteL (magicM++fansM l i))∧Old n0 h g) ?_ ?_ 256 F _ _ ⟨0,p,rfl,rfl,by simpa [fansM] using hp,Old.refl hw _⟩ (by omega)
 ·rintro k s g n' ⟨i,p',hi,rfl,ho,og⟩
  have hx:i<256:=by omega
  have hu:=upto_le l i
  have hml:(magicM++fansM l i).length≤2000:=by rw [List.length_append,fansM_len];show 8+_≤_;omega
  obtain ⟨p2,g2,a1,a2,a3,_⟩:=big_spec (F:=F) (n:=m) (by omega) og.wf (Nat.le_trans hn0 og.next) ho (by omega) (v:=upto l i) (m:=4) (by omega)
  rw [List.append_assoc,← fansM_succ] at a2
  have c1:decide ((i:Int)<256)=true:=by rw [decide_eq_true_eq];omega
  have i3:IntKind.wrap .i64 ((i:Int)+1)=((i+1:Nat):Int):=by rw [wr_i64 (by omega) (by omega)];omega
  have e1:ixC 256 1 (iL 256 (upto l)) (i:Int)=some (.int .i64 ((upto l i:Nat):Int)):=by
   unfold ixC
   rw [if_pos (by omega),Int.toNat_natCast,Nat.mul_one,iL_get _ hx]
  have a1':runC (EE F) (m+1) nzao [p',.int .u64 ((upto l i:Nat):Int),.int .i64 4] g=some (p2,g2):=a1
  refine .inl ⟨_,g2,?_,i+1,p2,by omega,rfl,a2,og.trans a3⟩
  simp only [zak.l12,zak.c12,zak.k12,zak.r13,zak.c13,zak.r15,zak.c15,c1,cond_true,e1,bI_some,wr,u64_small (show upto l i<18446744073709551616 by omega),cxC,a1',cV_some,i3]
 ·rintro s g n' ⟨i,p',hi,rfl,ho,og⟩
  obtain rfl:i=256:=by omega
  have c1:decide (((256:Nat):Int)<256)=false:=rfl
  simp only [zak.l12,zak.c12,zak.k12,c1,cond_false]
  exact fin p' g ho og
theorem row_sl{h:AH}{b e:Nat}{r:Row}(hc:Cells h b e (rowL r))(hr:r.ok):∃ v,slA 32 1 (.ptr ⟨b,34,0+0⟩) none none none h=some v∧Bs h v r.id:=by
 have hl:=rowL_len hr
 obtain ⟨k,k1,k2,k3,k4,k5,k6,k7,k8⟩:=id hc
 refine ⟨.slice ⟨b,34,0⟩ 32 32 true 1,?_,?_,hr.2.1⟩
 ·simp only [slA,k1]
  rw [if_pos ⟨by omega,by omega,trivial⟩]
  simp [cutV,bnd]
 ·rw [hr.1]
  refine ⟨by rw [byteL_len,hr.1],.inr ⟨_,_,_,rfl,Nat.le_refl _,?_⟩⟩
  rw [hc.read hl.symm (by omega),rowL_id hr]
theorem bld_ids{F m:Nat}{out:Res→Prop}{Jn:V×V×V×Unit→AH→Res}{Jr:V×V×Unit→AH→Res}{q v p:V}{h:AH}{n0:Nat}{l:List Row}{x:List Nat}(hF:l.length<F)(hl:l.length≤4096)(hxl:x.length≤10000000)(hw:h.WF)(hn0:n0≤h.next)(hr:Rs h v l)
  (hv:∀ g,Old n0 h g→Rs g v l) (hp:Own n0 1 T_uint8 h p x.length (byteL x))
  (fin:∀ p' h',Own n0 1 T_uint8 h' p' (x++idsM l).length (byteL (x++idsM l))→Old n0 h h'→out (Jn (q,v,p',()) h')) :
  out (zak.k16 (cx F m) Jn Jr (q,v,p,v,(l.length:Int),0,()) h):=by
 show out (loopN zak.P34 F (fun t h n'=>zak.l17 (cx F m) n' Jn Jr t h) (q,v,p,v,(l.length:Int),0,()) h)
 refine loop_rule (S:=zak.P34) (out:=out)
  (fun k s g=>∃ (i:Nat) (p':V),i+k=l.length∧s=(q,v,p',v,(l.length:Int),(i:Int),())∧Own n0 1 T_uint8 g p' (x++idsM (l.take i)).length (byteL (x++idsM (l.take i)))∧Old n0 h g) ?_ ?_ l.length F _ _ ⟨0,p,by omega,rfl,by simpa [idsM] using hp,Old.refl hw _⟩ hF
 ·rintro k s g n' ⟨i,p',hi,rfl,ho,og⟩
  have hlt:i<l.length:=by omega
  have hget:l[i]?=some l[i]:=List.getElem?_eq_getElem hlt
  have hk:=hr.2 _ (List.getElem_mem hlt)
  have hti:∀ r∈l.take i,r.ok:=fun r h'=>hr.2 r (List.mem_of_mem_take h')
  have hml:(idsM (l.take i)).length=32*i:=by rw [idsM_len hti,List.length_take];congr 1;omega
  obtain ⟨a,u1,u2⟩:=(hv g og).at hget
  obtain ⟨g1,t1,t2,t3,t4,t5⟩:=tmp_row og.wf hk T_packidx_Row
  obtain ⟨w,s1,s2⟩:=row_sl t3 hk
  obtain ⟨p2,g2,a1,a2,a3,_⟩:=app_bytes (ho.old og.wf t4) s2 t4.wf (Nat.le_trans hn0 (Nat.le_trans og.next t4.next)) (capW_ok (by rw [List.length_append,hml,hk.1];omega))
  rw [List.append_assoc,← idsM_snoc,take_snoc hget] at a2
  have c1:decide ((i:Int)<(l.length:Int))=true:=by rw [decide_eq_true_eq];omega
  have i3:IntKind.wrap .i64 ((i:Int)+1)=((i+1:Nat):Int):=by rw [wr_i64 (by omega) (by omega)];omega
  refine .inl ⟨_,g2,?_,i+1,p2,by omega,rfl,a2,(og.trans (t4.weak (Nat.le_trans hn0 og.next))).trans a3⟩
  simp only [zak.l17,zak.c17,zak.k17,zak.r18,zak.c18,zak.r20,zak.c20,c1,cond_true,u1,bV_some,ldA_of u2,bA_some,t1,t2,bS_some,fA_ptr,s1,a1,cV_some,wr,i3]
 ·rintro s g n' ⟨i,p',hi,rfl,ho,og⟩
  obtain rfl:i=l.length:=by omega
  rw [List.take_length] at ho
  have c1:decide ((l.length:Int)<(l.length:Int))=false:=by rw [decide_eq_false_iff_not];omega
  simp only [zak.l17,zak.c17,zak.k17,c1,cond_false]
  exact fin p' g ho og
theorem bld_crcs{F m:Nat}{out:Res→Prop}{Jn:V×V×V×Unit→AH→Res}{Jr:V×V×Unit→AH→Res}{q v p:V}{h:AH}{n0:Nat}{l:List Row}{x:List Nat}(hF:l.length<F)(hF2:300<F)(hl:l.length≤4096)(hxl:x.length≤10000000)(hw:h.WF)(hn0:n0≤h.next)(hr:Rs h v l)
  (hv:∀ g,Old n0 h g→Rs g v l) (hp:Own n0 1 T_uint8 h p x.length (byteL x))
  (fin:∀ p' h',Own n0 1 T_uint8 h' p' (x++crcsM l).length (byteL (x++crcsM l))→Old n0 h h'→out (Jn (q,v,p',()) h')) :
  out (zak.k21 (cx F (m+1)) Jn Jr (q,v,p,v,(l.length:Int),0,()) h):=by
 show out (loopN zak.P44 F (fun t h n'=>zak.l22 (cx F (m+1)) n' Jn Jr t h) (q,v,p,v,(l.length:Int),0,()) h)
 refine loop_rule (S:=zak.P44) (out:=out)
  (fun k s g=>∃ (i:Nat) (p':V),i+k=l.length∧s=(q,v,p',v,(l.length:Int),(i:Int),())∧Own n0 1 T_uint8 g p' (x++crcsM (l.take i)).length (byteL (x++crcsM (l.take i)))∧Old n0 h g) ?_ ?_ l.length F _ _ ⟨0,p,by omega,rfl,by simpa [crcsM] using hp,Old.refl hw _⟩ hF
 ·rintro k s g n' ⟨i,p',hi,rfl,ho,og⟩
  have hlt:i<l.length:=by omega
  have hget:l[i]?=some l[i]:=List.getElem?_eq_getElem hlt
  have hk:=hr.2 _ (List.getElem_mem hlt)
  have hml:(crcsM (l.take i)).length=4*i:=by rw [crcsM_len,List.length_take];congr 1;omega
  obtain ⟨a,u1,u2⟩:=(hv g og).at hget
  obtain ⟨g1,t1,t2,t3,t4,t5⟩:=tmp_row og.wf hk T_packidx_Row
  obtain ⟨p2,g2,a1,a2,a3,_⟩:=big_spec (F:=F) (n:=m) (by omega) t4.wf (Nat.le_trans hn0 (Nat.le_trans og.next t4.next)) (ho.old og.wf t4) (by rw [List.length_append,hml];omega) (v:=l[i].crc) (m:=4) (by omega)
  rw [List.append_assoc,← crcsM_snoc,take_snoc hget] at a2
  have c1:decide ((i:Int)<(l.length:Int))=true:=by rw [decide_eq_true_eq];omega
  have i3:IntKind.wrap .i64 ((i:Int)+1)=((i+1:Nat):Int):=by rw [wr_i64 (by omega) (by omega)];omega
  have hcr:=hk.2.2.1
  have a1':runC (EE F) (m+1) nzao [p',.int .u64 ((l[i].crc:Nat):Int),.int .i64 4] g1=some (p2,g2):=a1
  refine .inl ⟨_,g2,?_,i+1,p2,by omega,rfl,a2,(og.trans (t4.weak (Nat.le_trans hn0 og.next))).trans a3⟩
  simp only [zak.l22,zak.c22,zak.k22,zak.r23,zak.c23,zak.r25,zak.c25,c1,cond_true,u1,bV_some,ldA_of u2,bA_some,t1,t2,bS_some,fA_ptr,row_crc t3 hk,bI_some,wr,u64_small (show l[i].crc<18446744073709551616 by omega),cxC,a1',cV_some,i3]
 ·rintro s g n' ⟨i,p',hi,rfl,ho,og⟩
  obtain rfl:i=l.length:=by omega
  rw [List.take_length] at ho
  have c1:decide ((l.length:Int)<(l.length:Int))=false:=by rw [decide_eq_false_iff_not];omega
  simp only [zak.l22,zak.c22,zak.k22,c1,cond_false]
  exact fin p' g ho og
theorem dis_nil(p:V):Dis p .nilslice:=fun _=>.inr trivial
theorem bld_ats{F m:Nat}{out:Res→Prop}{Jn:V×V×V×Unit→AH→Res}{Jr:V×V×Unit→AH→Res}{q v p:V}{h:AH}{n0:Nat}{l:List Row}{x:List Nat}(hF:l.length<F)(hF2:300<F)(hl:l.length≤4096)(hxl:x.length≤10000000)(hw:h.WF)(hn0:n0≤h.next)(hr:Rs h v l)
  (hv:∀ g,Old n0 h g→Rs g v l) (hp:Own n0 1 T_uint8 h p x.length (byteL x))
  (fin:∀ p' f' h',Own n0 1 T_uint8 h' p' (x++atsM 0 (flags l)).length (byteL (x++atsM 0 (flags l)))→Own n0 1 T_uint8 h' f' (farsM (flags l)).length (byteL (farsM (flags l)))→Old n0 h h'→out (Jn (q,p',f',()) h')) :
  out (zak.k27 (cx F (m+1)) Jn Jr (q,p,.nilslice,v,(l.length:Int),0,()) h):=by
 show out (loopN zak.P56 F (fun t h n'=>zak.l28 (cx F (m+1)) n' Jn Jr t h) (q,p,.nilslice,v,(l.length:Int),0,()) h)
 refine loop_rule (S:=zak.P56) (out:=out)
  (fun k s g=>∃ (i:Nat) (p' f':V),i+k=l.length∧s=(q,p',f',v,(l.length:Int),(i:Int),())∧Own n0 1 T_uint8 g p' (x++atsM 0 (flags (l.take i))).length (byteL (x++atsM 0 (flags (l.take i)))) ∧
   Own n0 1 T_uint8 g f' (farsM (flags (l.take i))).length (byteL (farsM (flags (l.take i))))∧Dis p' f'∧Old n0 h g) ?_ ?_ l.length F _ _ ⟨0,p,.nilslice,by omega,rfl,by simpa [atsM,flags] using hp,own_nil _ _ _ _,dis_nil _,Old.refl hw _⟩ hF
 ·rintro k s g n' ⟨i,p',f',hi,rfl,ho,hf,hd,og⟩
  have hlt:i<l.length:=by omega
  have hget:l[i]?=some l[i]:=List.getElem?_eq_getElem hlt
  have hk:=hr.2 _ (List.getElem_mem hlt)
  have hti:(l.take i).length=i:=by rw [List.length_take];omega
  have hml:(atsM 0 (flags (l.take i))).length=4*i:=by rw [atsM_len,flags_len,hti]
  have hnf:=nfar_le (flags (l.take i))
  rw [flags_len,hti] at hnf
  obtain ⟨a,u1,u2⟩:=(hv g og).at hget
  obtain ⟨g1,t1,t2,t3,t4,t5⟩:=tmp_row og.wf hk T_packidx_Row
  have og1:Old n0 h g1:=og.trans (t4.weak (Nat.le_trans hn0 og.next))
  have hn1:n0≤g1.next:=Nat.le_trans hn0 og1.next
  have c1:decide ((i:Int)<(l.length:Int))=true:=by rw [decide_eq_true_eq];omega
  have i3:IntKind.wrap .i64 ((i:Int)+1)=((i+1:Nat):Int):=by rw [wr_i64 (by omega) (by omega)];omega
  have ho1:=ho.old og.wf t4
  have hf1:=hf.old og.wf t4
  have sn:=(congrArg (fun t=>atsM 0 (flags t)) (take_snoc hget)).symm
  have sf:=(congrArg (fun t=>farsM (flags t)) (take_snoc hget)).symm
  simp only [flags_snoc,atsM_snoc,farsM_snoc,Nat.zero_add] at sn sf
  have hb:isFar l[i]=decide (2147483648≤l[i].pos):=rfl
  simp only [hb] at sn sf
  by_cases hx:l[i].pos<2147483648
  ·have hxd:decide (2147483648≤l[i].pos)=false:=by rw [decide_eq_false_iff_not];omega
   rw [hxd] at sn sf
   simp only [Bool.false_eq_true,if_false,List.append_nil] at sn sf
   obtain ⟨p2,g2,a1,a2,a3,a4⟩:=big_spec (F:=F) (n:=m) (by omega) t4.wf hn1 ho1 (by rw [List.length_append,hml];omega) (v:=l[i].pos) (m:=4) (by omega)
   rw [List.append_assoc,← sn] at a2
   obtain ⟨hf2,hd2⟩:=hf1.beside t4.wf hd a4
   rw [← sf] at hf2
   have c2:decide (((l[i].pos:Nat):Int)<2147483648)=true:=by rw [decide_eq_true_eq];omega
   have a1':runC (EE F) (m+1) nzao [p',.int .u64 ((l[i].pos:Nat):Int),.int .i64 4] g1=some (p2,g2):=a1
   refine .inl ⟨_,g2,?_,i+1,p2,f',by omega,rfl,a2,hf2,hd2,og1.trans a3⟩
   simp only [zak.l28,zak.c28,zak.k28,zak.r29,zak.c29,zak.k29,zak.c30,zak.k30,zak.c31,zak.r34,zak.c34,c1,cond_true,u1,bV_some,ldA_of u2,bA_some,t1,t2,bS_some,fA_ptr,row_pos t3 hk,bI_some,c2,cxC,a1',cV_some,wr,i3]
  ·have hxd:decide (2147483648≤l[i].pos)=true:=by rw [decide_eq_true_eq];omega
   rw [hxd] at sn sf
   simp only [if_true] at sn sf
   obtain ⟨p2,g2,a1,a2,a3,a4⟩:=big_spec (F:=F) (n:=m) (by omega) t4.wf hn1 ho1 (by rw [List.length_append,hml];omega) (v:=2147483648+nfar (flags (l.take i))) (m:=4) (by omega)
   rw [List.append_assoc,← sn] at a2
   obtain ⟨hf2,hd2⟩:=hf1.beside t4.wf hd a4
   obtain ⟨f3,g3,b1,b2,b3,b4⟩:=big_spec (F:=F) (n:=m) (by omega) a3.wf (Nat.le_trans hn1 a3.next) hf2 (by rw [farsM_len];omega) (v:=l[i].pos) (m:=8) (by omega)
   rw [← sf] at b2
   obtain ⟨ho3,hd3⟩:=a2.beside a3.wf hd2.symm b4
   have c2:decide (((l[i].pos:Nat):Int)<2147483648)=false:=by rw [decide_eq_false_iff_not];omega
   have a1':runC (EE F) (m+1) nzao [p',.int .u64 ((2147483648+nfar (flags (l.take i)):Nat):Int),.int .i64 4] g1=some (p2,g2):=a1
   have b1':runC (EE F) (m+1) nzao [f',.int .u64 ((l[i].pos:Nat):Int),.int .i64 8] g2=some (f3,g3):=b1
   have r3:ld (.ptr ⟨g.next,34,0+33⟩) g2=some (.int .u64 ((l[i].pos:Nat):Int)):=by
    have tc:Cells g2 g.next T_packidx_Row (rowL l[i]):=t3.mono (a4.keep _ (by omega) (Classical.byContradiction fun hc=>by
     have:=ho.alive og.wf hc
     omega))
    exact row_pos tc hk
   have i5:IntKind.wrap .u64 (2147483648+IntKind.wrap .u64 (IntKind.wrap .i64 (((((farsM (flags (l.take i))).length:Nat):Int)).tdiv 8)))=((2147483648+nfar (flags (l.take i)):Nat):Int):=by
    rw [farsM_len]
    have e1:(((8*nfar (flags (l.take i)):Nat):Int)).tdiv 8=((nfar (flags (l.take i)):Nat):Int):=by
     rw [show ((8*nfar (flags (l.take i)):Nat):Int)=8*((nfar (flags (l.take i)):Nat):Int) by omega]
     exact Int.mul_tdiv_cancel_left _ (by decide)
    rw [e1,wr_i64 (by omega) (by omega),wr_u64,wr_u64];omega
   refine .inl ⟨_,g3,?_,i+1,p2,f3,by omega,rfl,ho3,b2,hd3.symm,(og1.trans a3).trans b3⟩
   simp only [zak.l28,zak.c28,zak.k28,zak.r29,zak.c29,zak.k29,zak.c30,zak.k30,zak.r32,zak.c32,zak.r34,zak.c34,c1,cond_true,u1,bV_some,ldA_of u2,bA_some,t1,t2,bS_some,fA_ptr,row_pos t3 hk,bI_some,c2,cond_false,hf1.sl.len,wr,i5,cxC,a1',cV_some,r3,b1',i3]
 ·rintro s g n' ⟨i,p',f',hi,rfl,ho,hf,hd,og⟩
  obtain rfl:i=l.length:=by omega
  rw [List.take_length] at ho hf
  have c1:decide ((l.length:Int)<(l.length:Int))=false:=by rw [decide_eq_false_iff_not];omega
  simp only [zak.l28,zak.c28,zak.k28,c1,cond_false]
  exact fin p' f' g ho hf og
end Go.Proofs.YtcmhoboglapbdaaDoor
namespace Go.Proofs.YtcmhoboglapbdaaDoor
open Go Ev
theorem cmpN_self:∀ l:List Nat,cmpN l l=0:=by
 intro l
 induction l with
 | nil=>rfl
 | cons a l ih=>rw [cmpN_eq',ih]
theorem cmpN_eq0:∀ {l m:List Nat},cmpN l m=0→l=m:=by
 intro l
 induction l with
 | nil =>
  intro m h
  cases m with
  | nil=>rfl
  | cons b m=>cases h
 | cons a l ih =>
  intro m h
  cases m with
  | nil=>cases h
  | cons b m =>
   rcases Nat.lt_trichotomy a b with hab | hab | hab
   ·rw [cmpN_lt _ _ hab] at h;cases h
   ·subst hab;rw [cmpN_eq'] at h;rw [ih h]
   ·rw [cmpN_gt _ _ hab] at h;cases h
theorem cmpN_le_cons{a b:Nat}{l m:List Nat}:cmpN (a :: l) (b :: m)≤0↔a<b∨(a=b∧cmpN l m≤0):=by
 rcases Nat.lt_trichotomy a b with h | h | h
 ·rw [cmpN_lt _ _ h];exact ⟨fun _=>.inl h,fun _=>by decide⟩
 ·subst h;rw [cmpN_eq'];exact ⟨fun h=>.inr ⟨rfl,h⟩,fun h=>by rcases h with h | h;exact absurd h (Nat.lt_irrefl _);exact h.2⟩
 ·rw [cmpN_gt _ _ h];exact ⟨fun h=>absurd h (by decide),fun h=>by omega⟩
theorem cmpN_trans:∀ {a b c:List Nat},cmpN a b≤0→cmpN b c≤0→cmpN a c≤0:=by
 intro a
 induction a with
 | nil =>
  intro b c _ _
  cases c with
  | nil=>decide
  | cons z c=>exact (by decide:(-1:Int)≤0)
 | cons x a ih =>
  intro b c h1 h2
  cases b with
  | nil=>exact absurd h1 (by decide:¬(1:Int)≤0)
  | cons y b =>
   cases c with
   | nil=>exact absurd h2 (by decide:¬(1:Int)≤0)
   | cons z c =>
    rw [cmpN_le_cons] at h1 h2 ⊢
    rcases h1 with h1 | ⟨rfl,h1⟩ <;> rcases h2 with h2 | ⟨rfl,h2⟩
    ·exact .inl (by omega)
    ·exact .inl h1
    ·exact .inl h2
    ·exact .inr ⟨rfl,ih h1 h2⟩
def Le(a b:Row):Prop:=cmpN a.id b.id≤0
def Lt(a b:Row):Prop:=cmpN a.id b.id<0
theorem Le.trans{a b c:Row}(h:Le a b)(k:Le b c):Le a c:=cmpN_trans h k
theorem Le.refl(a:Row):Le a a:=by show cmpN a.id a.id≤0;rw [cmpN_self];decide
theorem le_total(a b:Row):Le a b∨Le b a:=by
 unfold Le
 have:=cmpN_anti a.id b.id
 omega
theorem not_lt{a b:Row}:¬Lt a b↔Le b a:=by
 unfold Lt Le
 have:=cmpN_anti a.id b.id
 omega
theorem Lt.le{a b:Row}(h:Lt a b):Le a b:=by
 have h':cmpN a.id b.id<0:=h
 show cmpN a.id b.id≤0
 omega
theorem lt_of{a b:Row}(h:Le a b)(hne:a.id≠b.id):Lt a b:=by
 have h':cmpN a.id b.id≤0:=h
 show cmpN a.id b.id<0
 have:cmpN a.id b.id≠0:=fun e=>hne (cmpN_eq0 e)
 omega
theorem Lt.ne{a b:Row}(h:Lt a b):a.id≠b.id:=by
 intro e
 have h':cmpN a.id b.id<0:=h
 rw [e,cmpN_self] at h'
 omega
theorem lt_le{a b c:Row}(h:Lt a b)(k:Le b c):Lt a c:=by
 refine lt_of (h.le.trans k) fun e=>?_
 have h1:cmpN a.id b.id<0:=h
 have h2:cmpN b.id c.id≤0:=k
 have h3:=cmpN_anti a.id b.id
 rw [e] at h1 h3
 omega
def Srt(l:List Row):Prop:=l.Pairwise Le
def StrictS(l:List Row):Prop:=l.Pairwise Lt
theorem insM_perm(x:Row):∀ l:List Row,(insM x l).Perm (x :: l):=by
 intro l
 induction l with
 | nil=>exact .refl _
 | cons y l ih =>
  unfold insM
  split
  ·exact (ih.cons y).trans (.swap x y l)
  ·exact .refl _
theorem insM_srt(x:Row):∀ {l:List Row},Srt l→Srt (insM x l):=by
 intro l
 induction l with
 | nil=>intro _;exact List.pairwise_singleton _ _
 | cons y l ih =>
  intro h
  have h':=List.pairwise_cons.1 h
  unfold insM
  split
  ·rename_i hc
   refine List.pairwise_cons.2 ⟨fun r hr=>?_,ih h'.2⟩
   rcases insM_mem hr with rfl | hr
   ·exact Lt.le hc
   ·exact h'.1 r hr
  ·rename_i hc
   have hxy:Le x y:=not_lt.1 hc
   refine List.pairwise_cons.2 ⟨fun r hr=>?_,h⟩
   rcases List.mem_cons.1 hr with rfl | hr
   ·exact hxy
   ·exact hxy.trans (h'.1 r hr)
theorem sortM_both(l:List Row):(sortM l).Perm l∧Srt (sortM l):=by
 have key:∀ (l m:List Row),Srt m→(l.foldl (fun m x=>insM x m) m).Perm (l++m)∧Srt (l.foldl (fun m x=>insM x m) m):=by
  intro l
  induction l with
  | nil=>intro m h;exact ⟨.refl _,h⟩
  | cons x l ih =>
   intro m h
   obtain ⟨h1,h2⟩:=ih (insM x m) (insM_srt x h)
   refine ⟨h1.trans ?_,h2⟩
   exact ((insM_perm x m).append_left l).trans List.perm_middle
 have:=key l [] List.Pairwise.nil
 rw [List.append_nil] at this
 exact this
theorem strict_of:∀ {l:List Row},Srt l→twiceM l=false→StrictS l:=by
 intro l
 induction l with
 | nil=>intro _ _;exact List.Pairwise.nil
 | cons a l ih =>
  intro h ht
  cases l with
  | nil=>exact List.pairwise_singleton _ _
  | cons b l =>
   have ht':(decide (b.id=a.id) || twiceM (b :: l))=false:=ht
   rw [Bool.or_eq_false_iff,decide_eq_false_iff_not] at ht'
   have h':=List.pairwise_cons.1 h
   have hs:=ih h'.2 ht'.2
   have hab:Lt a b:=lt_of (h'.1 b (by simp)) (fun e=>ht'.1 e.symm)
   refine List.pairwise_cons.2 ⟨fun r hr=>?_,hs⟩
   rcases List.mem_cons.1 hr with rfl | hr
   ·exact hab
   ·exact lt_le hab ((List.pairwise_cons.1 h'.2).1 r hr)
theorem StrictS.unique:∀ {p q:List Row},StrictS p→q.Perm p→Srt q→q=p:=by
 intro p
 induction p with
 | nil=>intro q _ hp _;exact hp.eq_nil
 | cons a p ih =>
  intro q hs hp hq
  cases q with
  | nil=>exact absurd hp.symm.eq_nil (by simp)
  | cons b q =>
   have hs':=List.pairwise_cons.1 hs
   have hq':=List.pairwise_cons.1 hq
   have hb:b∈a :: p:=hp.mem_iff.1 (by simp)
   have ha:a∈b :: q:=hp.mem_iff.2 (by simp)
   by_cases hab:b=a
   ·subst hab
    rw [ih hs'.2 hp.cons_inv hq'.2]
   ·have hb':b∈p:=(List.mem_cons.1 hb).resolve_left hab
    have ha':a∈q:=(List.mem_cons.1 ha).resolve_left (fun e=>hab e.symm)
    have h1:=hs'.1 b hb'
    have h2:=hq'.1 a ha'
    exact absurd h1 (not_lt.2 h2)
theorem sort_law{l l':List Row}(hp:l'.Perm l)(hs:Srt l'):twiceM l'=twiceM (sortM l)∧(twiceM l'=false→l'=sortM l):=by
 obtain ⟨h1,h2⟩:=sortM_both l
 have hp':l'.Perm (sortM l):=hp.trans h1.symm
 cases ht:twiceM (sortM l) with
 | false =>
  have e:=(strict_of h2 ht).unique hp' hs
  rw [e]
  exact ⟨ht,fun _=>rfl⟩
 | true =>
  cases ht':twiceM l' with
  | true=>exact ⟨rfl,fun h=>by cases h⟩
  | false =>
   have e:=(strict_of hs ht').unique hp'.symm h2
   rw [e,ht'] at ht;cases ht
end Go.Proofs.YtcmhoboglapbdaaDoor
namespace Go.Proofs.YtcmhoboglapbdaaDoor
open Go Ev
def SortOK(F n N:Nat):Prop:=∀ (n0:Nat) (h:AH) (v:V) (l:List Row),h.WF→n0≤h.next→OwnR n0 T_packidx_Row h v l→(∀ r∈l,r.ok)→l.length≤N →
 ∃ r h' l',runC (EE F) n nzbe [v,.func 24 [] []] h=some (r,h')∧OwnR n0 T_packidx_Row h' v l'∧Old n0 h h'∧l'.Perm l∧Srt l'
noncomputable def buildE(l:List Row):Int:=if 4096<l.length then 2 else if twiceM (sortM l)=true then 8 else 0
noncomputable def buildB(l:List Row)(pack:List Nat):List Nat:=if 4096<l.length then [] else if twiceM (sortM l)=true then [] else buildM (flags (sortM l)) pack
theorem bsl_slices{h:AH}(hw:h.WF){a b c:V}(ha:a.cell=true)(hb:b.cell=true)(hc:c.cell=true)(la:a.cells=[a])(lb:b.cells=[b])(lc:c.cells=[c])(ia:a.isBad=false)(ib:b.isBad=false)(ic:c.isBad=false)(e:Nat) :
  ∃ v h',bsl 1 3 [(0,1,a),(1,1,b),(2,1,c)] [.nilslice] e h=some (v,h')∧Own h.next 1 e h' v [a,b,c].length [a,b,c]∧Old h.next h h':=by
 refine bsl_own hw (cs:=[a,b,c]) ?_ rfl (by simp [ha,hb,hc])
 unfold fillW
 rw [if_pos ⟨ia,by rw [la];rfl,by simp⟩]
 unfold fillW
 rw [if_pos ⟨ib,by rw [lb];rfl,by simp [putL,la]⟩]
 unfold fillW
 rw [if_pos ⟨ic,by rw [lc];rfl,by simp [putL,la,lb]⟩,la,lb,lc]
 rfl
theorem Ev.Bs.one{h:AH}{v:V}{l:List Nat}(hb:Bs h v l):v.cells=[v]∧v.isBad=false:=by
 obtain ⟨⟨_,⟨_,rfl | rfl⟩ | ⟨a,cap,ex,rfl,_⟩⟩,_⟩:=hb <;> exact ⟨rfl,rfl⟩
theorem ids_box{h:AH}{b e:Nat}{l:List Nat}(hc:Cells h b e (byteL l))(hl:l.length=32)(h8:∀ x∈l,x<256):∃ v,slA 32 1 (.ptr ⟨b,32,0⟩) none none none h=some v∧Bs h v l:=by
 have s:=slA_all (n:=32) (z:=1) hc (by rw [byteL_len,hl]) (by omega)
 exact ⟨_,s,arr_bs hc hl h8⟩
theorem ids_tmp{h:AH}(hw:h.WF){l:List Nat}(hl:l.length=32)(h8:∀ x∈l,x<256):∃ v h',(al (List.replicate 32 (.int .u8 0)) T_api_Id h).1=.ptr ⟨h.next,32,0⟩∧st 32 (.ptr ⟨h.next,32,0⟩) (.agg (byteL l)) (al (List.replicate 32 (.int .u8 0)) T_api_Id h).2=some h'∧slA 32 1 (.ptr ⟨h.next,32,0⟩) none none none h'=some v∧Bs h' v l∧Old h.next h h':=by
 obtain ⟨c1,c2,c3,c4⟩:=al_cells hw (List.replicate 32 (.int .u8 0)) T_api_Id rfl (by simp)
 obtain ⟨h',p1,p2,p3⟩:=c1.put c4.wf (n:=32) (vs:=byteL l) rfl (by rw [byteL_len,hl]) (byteL_cell _)
 obtain ⟨v,s1,s2⟩:=ids_box p2 hl h8
 exact ⟨v,h',c2,p1,s1,s2,c4.trans (p3.old (Nat.le_refl _))⟩
theorem bld_tail{F m:Nat}{out:Res→Prop}{Jn:V×Int×Unit→AH→Res}{q p f:V}{h:AH}{n0 b0 e0:Nat}{x y pack:List Nat}(hF:x.length+y.length+300<F)(hxl:x.length+y.length≤10000000)(hw:h.WF)(hk:KT h)(hn0:n0≤h.next)
  (hp:Own n0 1 T_uint8 h p x.length (byteL x)) (hf:Own n0 1 T_uint8 h f y.length (byteL y)) (hq:q=.ptr ⟨b0,32,0⟩) (hc:Cells h b0 e0 (byteL pack)) (h32:pack.length=32) (hx8:∀ a∈x,a<256) (hy8:∀ a∈y,a<256) (h8:∀ a∈pack,a<256)
  (fin:∀ p' h',Own n0 1 T_uint8 h' p' ((x++(y++pack))++sumM (x++(y++pack))).length (byteL ((x++(y++pack))++sumM (x++(y++pack))))→Old n0 h h'→out (Jn (p',0,()) h')) :
  out (zak.c35 (cx F (m+3)) Jn (q,p,f,()) h):=by
 subst hq
 have hpos:=hk.pos hw
 obtain ⟨w,s1,s2⟩:=ids_box hc h32 h8
 have bp:=hp.bs hx8
 have bf:=hf.bs hy8
 obtain ⟨v1,h1,e1,o1,d1⟩:=bsl_slices hw bp.cellOk bf.cellOk s2.cellOk bp.one.1 bf.one.1 s2.one.1 bp.one.2 bf.one.2 s2.one.2 T_s_uint8
 have hfl:[x,y,pack].flatten=x++(y++pack):=by simp
 obtain ⟨v2,h2,e2,o2,d2⟩:=concat_spec (F:=F) (n:=m+1) d1.wf (vs:=[p,f,w]) (ls:=[x,y,pack]) o1.sl rfl (by
  intro i v l hv hl
  have hi:i=0∨i=1∨i=2:=by
   have:=(List.getElem?_eq_some_iff.1 hv).1
   simp at this
   omega
  rcases hi with rfl | rfl | rfl
  ·cases hv;cases hl;exact bp.old hw d1
  ·cases hv;cases hl;exact bf.old hw d1
  ·cases hv;cases hl;exact s2.old hw d1) (by rw [hfl,List.length_append,List.length_append];omega) (by simp) (by simp;omega)
 rw [hfl] at o2
 have h8':∀ a∈x++(y++pack),a<256:=app_byte hx8 (app_byte hy8 h8)
 have d12:=d1.trans (d2.weak d1.next)
 obtain ⟨h3,e3,d3⟩:=sum_spec (F:=F) (n:=m+1) d2.wf (hk.old hpos d12) (o2.bs h8') (by rw [List.length_append,List.length_append];omega) (by rw [List.length_append,List.length_append];omega)
 obtain ⟨w4,h4,t1,t2,t3,t4,t5⟩:=ids_tmp d3.wf (sumM_len (x++(y++pack))) (sumM_byte _)
 have d34:=d3.trans (t5.weak d3.next)
 obtain ⟨v5,h5,e5,o5,d5,_⟩:=app_bytes (o2.old d2.wf d34) t4 d34.wf (Nat.le_trans d2.next d34.next) (capW_ok (by simp only [List.length_append,sumM_len];omega))
 have hn:=d1.next
 have d14:=d12.trans (d34.weak d12.next)
 have hfin:=fin v5 h5 (o5.weak (by omega)) ((d14.weak hn0).trans (d5.weak (by omega)))
 simp only [zak.c35,s1,bV_some,e1,cV_some,cxC,e2,e3,cA_some,t1,t2,bS_some,t3,e5]
 exact hfin
theorem cvS_own'{h:AH}{n0 e:Nat}{v:V}{n:Nat}{cs:List V}(ho:Own n0 1 e h v n cs)(hn:n≠0)(t:Nat):cvS t v h=some (v,h):=by
 obtain ⟨h1,⟨h0,_⟩ | ⟨b,cap,ex,rest,rfl,h2,h3,h4,h5,h6⟩⟩:=ho
 ·exact absurd h0 hn
 ·obtain ⟨k,k1,k2,k3,k4,k5,k6,k7,k8⟩:=h6
  simp only [cvS,k1]
  rw [if_pos ⟨by omega,k5,k4⟩]
theorem magic_own{h:AH}(hw:h.WF):∃ v h',bsl 1 8 [(0,1,(.int .u8 255)),(1,1,(.int .u8 116)),(2,1,(.int .u8 79)),(3,1,(.int .u8 99)),(4,1,(.int .u8 0)),(5,1,(.int .u8 0)),(6,1,(.int .u8 0)),(7,1,(.int .u8 2))] [.int .u8 0] T_uint8 h=some (v,h')∧Own h.next 1 T_uint8 h' v magicM.length (byteL magicM)∧Old h.next h h' :=
 bsl_own hw (cs:=byteL magicM) rfl rfl rfl
theorem build_cps{F d N:Nat}(hF:300000<F)(hS:SortOK F (d+6) N)(hN:N≤4096){h:AH}(hw:h.WF)(hk:KT h){p:V}{l:List Row}(hp:Rs h p l)(hl:l.length≤N∨4096<l.length)(hlen:l.length≤2932031007317){pack:List Nat}(h32:pack.length=32)(h8:∀ x∈pack,x<256)
  {out:Res→Prop} (fin:∀ v h',Own h.next 1 T_uint8 h' v (buildB l pack).length (byteL (buildB l pack))→Old h.next h h'→out (some (.tuple [v,.int .i64 (buildE l)],h'))) :
  out (runC (EE F) (d+7) nzak [p,.agg (byteL pack)] h):=by
 rw [tzak]
 obtain ⟨h1,e1,c1,n1,o1⟩:=box_cells hw (byteL pack) T_api_Id (byteL_cell pack)
 rw [byteL_len,h32] at e1
 have p1:=hp.old hw o1
 simp only [zak.fn,zak.c0,zak.k0,zak.c1,zak.k1,e1,cV_some,p1.1.len,bI_some]
 by_cases hbig:4096<l.length
 ·have d1:decide ((l.length:Int)>4096)=true:=by rw [decide_eq_true_eq];omega
  have f1:=fin .nilslice h1 (by
   unfold buildB;rw [if_pos hbig];exact own_nil _ _ _ _) o1
  unfold buildE at f1
  rw [if_pos hbig] at f1
  simp only [d1,cond_true,zak.c2,zak.ret]
  exact f1
 ·have d1:decide ((l.length:Int)>4096)=false:=by rw [decide_eq_false_iff_not];omega
  have hlN:l.length≤N:=hl.resolve_right hbig
  obtain ⟨v2,h2,e2,w2,o2⟩:=cloneR_spec (F:=F) (n:=d+5) o1.wf p1 hlen
  obtain ⟨r3,h3,l',e3,w3,o3,q1,q2⟩:=hS h1.next h2 v2 l o2.wf o2.next w2 hp.2 hlN
  have hok:∀ r∈l',r.ok:=fun r hr=>hp.2 r (q1.mem_iff.1 hr)
  have hll:l'.length=l.length:=q1.length_eq
  have R3:Rs h3 v2 l':=⟨w3.sl,hok⟩
  have o13:Old h1.next h1 h3:=o2.trans o3
  have n13:=o13.next
  have hn1:=o1.next
  obtain ⟨sl1,sl2⟩:=sort_law q1 q2
  simp only [d1,cond_false,zak.r3,zak.c3,zak.k4,zak.c5,cxC,e2,e3,cV_some]
  refine bld_dup R3 (by omega) (by omega) (fun ht=>?_) (fun ht=>?_)
  ·have ht':twiceM (sortM l)=true:=by rw [← sl1];exact ht
   have f1:=fin .nilslice h3 (by
    unfold buildB;rw [if_neg hbig,if_pos ht'];exact own_nil _ _ _ _) (o1.trans (o13.weak hn1))
   unfold buildE at f1
   rw [if_neg hbig,if_pos ht'] at f1
   simp only [zak.ret]
   exact f1
  ·have ht':¬twiceM (sortM l)=true:=by rw [← sl1,ht];decide
   obtain rfl:=sl2 ht
   have eE:buildE l=0:=by unfold buildE;rw [if_neg hbig,if_neg ht']
   have eB:buildB l pack=buildM (flags (sortM l)) pack:=by unfold buildB;rw [if_neg hbig,if_neg ht']
   rw [eE,eB] at fin
   generalize hM:sortM l=m at *
   obtain ⟨v4,h4,e4,w4,o4⟩:=magic_own o3.wf
   have R4:=R3.old o3.wf o4
   obtain ⟨h5,e5,o5⟩:=fan_spec (F:=F) (n:=d+5) (by omega) o4.wf R4 (by omega) (by omega)
   have o35:Old h3.next h3 h5:=o4.trans (o5.weak o4.next)
   simp only [zak.r10,zak.c10,zak.k10,zak.c11,e4,cV_some,cvS_own' w4 (by decide),cxC,e5,cA_some]
   refine bld_fans (n0:=h3.next) (m:=d+5) (l:=m) (by omega) (by omega) o5.wf o35.next (w4.old o4.wf o5) (fun p6 h6 w6 o6=>?_)
   have o36:=o35.trans o6
   have hv:∀ g,Old h3.next h3 g→Rs g v2 m:=fun g og=>R3.old o3.wf og
   simp only [zak.r16,zak.c16,(hv _ o36).1.len,bI_some]
   refine bld_ids (n0:=h3.next) (l:=m) (by omega) (by omega) (by rw [headM_len];omega) o6.wf o36.next (hv _ o36) (fun g og=>hv g (o36.trans og)) w6 (fun p7 h7 w7 o7=>?_)
   have o37:=o36.trans o7
   have li:=idsM_len hok
   simp only [zak.r21,zak.c21,(hv _ o37).1.len,bI_some]
   refine bld_crcs (n0:=h3.next) (m:=d+5) (l:=m) (by omega) (by omega) (by omega) (by rw [List.length_append,headM_len,li];omega) o7.wf o37.next (hv _ o37) (fun g og=>hv g (o37.trans og)) w7 (fun p8 h8' w8 o8=>?_)
   have o38:=o37.trans o8
   simp only [zak.r26,zak.c26,zak.k26,zak.c27,(hv _ o38).1.len,bI_some]
   refine bld_ats (n0:=h3.next) (m:=d+5) (l:=m) (by omega) (by omega) (by omega) (by rw [List.length_append,List.length_append,headM_len,li,crcsM_len];omega) o8.wf o38.next (hv _ o38) (fun g og=>hv g (o38.trans og)) w8 (fun p9 f9 h9 w9 y9 o9=>?_)
   have o39:=o38.trans o9
   have c9:Cells h9 h.next T_api_Id (byteL pack):=(c1.oldN (by omega) o13).oldN (by omega) o39
   have hpos:=hk.pos hw
   have o19:Old h1.next h1 h9:=o13.trans (o39.weak n13)
   have k9:KT h9:=hk.old hpos (o1.trans (o19.weak hn1))
   have hnf:=nfar_le (flags m)
   rw [flags_len] at hnf
   have hl9:(headM m++idsM m++crcsM m++atsM 0 (flags m)).length=1032+40*m.length:=by
    simp only [List.length_append,headM_len,li,crcsM_len,atsM_len,flags_len];omega
   have hb9:(headM m++idsM m++crcsM m++atsM 0 (flags m))++(farsM (flags m)++pack)=bodyM (flags m) pack:=by
    unfold bodyM;rw [flags_fst]
   simp only [zak.r35]
   refine bld_tail (m:=d+3) (n0:=h3.next) (by rw [hl9,farsM_len];omega) (by rw [hl9,farsM_len];omega) o9.wf k9 o39.next w9 y9 rfl c9 h32 (app_byte (app_byte (app_byte (headM_byte _) (idsM_byte hok)) (crcsM_byte _)) (atsM_byte _ _)) (farsM_byte _) h8 (fun p10 h10 w10 o10=>?_)
   rw [hb9] at w10
   have f1:=fin p10 h10 (w10.weak (by omega)) (o1.trans ((o19.trans (o10.weak n13)).weak hn1))
   simp only [zak.ret]
   exact f1
theorem build_spec{F d N:Nat}(hF:300000<F)(hS:SortOK F (d+6) N)(hN:N≤4096){h:AH}(hw:h.WF)(hk:KT h){p:V}{l:List Row}(hp:Rs h p l)(hl:l.length≤N∨4096<l.length)(hlen:l.length≤2932031007317){pack:List Nat}(h32:pack.length=32)(h8:∀ x∈pack,x<256) :
  ∃ v h',runC (EE F) (d+7) nzak [p,.agg (byteL pack)] h=some (.tuple [v,.int .i64 (buildE l)],h')∧Own h.next 1 T_uint8 h' v (buildB l pack).length (byteL (buildB l pack))∧Old h.next h h' :=
 build_cps (out:=fun x=>∃ v h',x=some (.tuple [v,.int .i64 (buildE l)],h')∧Own h.next 1 T_uint8 h' v (buildB l pack).length (byteL (buildB l pack))∧Old h.next h h') hF hS hN hw hk hp hl hlen h32 h8 (fun v h' a b=>⟨v,h',rfl,a,b⟩)
end Go.Proofs.YtcmhoboglapbdaaDoor
namespace Go.Proofs.YtcmhoboglapbdaaDoor
open Go Ev
def r0:Row:=⟨[],0,0⟩
def rat(l:List Row)(i:Nat):Row:=l.getD i r0
def swapM(l:List Row)(i j:Nat):List Row:=(l.set j (rat l i)).set i (rat l j)
theorem rat_get{l:List Row}{i:Nat}(h:i<l.length):l[i]?=some (rat l i):=by
 unfold rat;rw [List.getD_eq_getElem?_getD,List.getElem?_eq_getElem h];rfl
theorem rat_getElem{l:List Row}{i:Nat}(h:i<l.length):l[i]=rat l i:=by
 have:=rat_get h
 rw [List.getElem?_eq_getElem h] at this
 exact Option.some.inj this
theorem rat_mem{l:List Row}{i:Nat}(h:i<l.length):rat l i∈l:=List.mem_of_getElem? (rat_get h)
theorem swapM_len(l:List Row)(i j:Nat):(swapM l i j).length=l.length:=by simp [swapM]
theorem rat_set{l:List Row}{i k:Nat}(x:Row)(h:i<l.length):rat (l.set i x) k=if k=i then x else rat l k:=by
 unfold rat
 rw [List.getD_eq_getElem?_getD,List.getD_eq_getElem?_getD,List.getElem?_set]
 by_cases hk:i=k
 ·subst hk;rw [if_pos rfl,if_pos h,if_pos rfl];rfl
 ·rw [if_neg hk,if_neg (fun e=>hk e.symm)]
theorem rat_swap{l:List Row}{i j:Nat}(hi:i<l.length)(hj:j<l.length)(k:Nat):rat (swapM l i j) k=if k=i then rat l j else if k=j then rat l i else rat l k:=by
 unfold swapM
 rw [rat_set _ (by rw [List.length_set];exact hi),rat_set _ hj]
theorem swapM_perm{l:List Row}{i j:Nat}(hi:i<l.length)(hj:j<l.length):(swapM l i j).Perm l:=by
 have:=@List.set_set_perm _ l j i hj hi
 rw [rat_getElem hi,rat_getElem hj] at this
 exact this
structure Re (a b:Nat) (l l':List Row):Prop where
 len:l'.length=l.length
 perm:l'.Perm l
 out:∀ k,¬(a≤k∧k<b)→rat l' k=rat l k
 all:∀ P:Row→Prop,(∀ k,a≤k→k<b→P (rat l k))→∀ k,a≤k→k<b→P (rat l' k)
theorem Re.refl(a b:Nat)(l:List Row):Re a b l l:=⟨rfl,.refl _,fun _ _=>rfl,fun _ h=>h⟩
theorem Re.trans{a b:Nat}{l m n:List Row}(x:Re a b l m)(y:Re a b m n):Re a b l n :=
 ⟨y.len.trans x.len,y.perm.trans x.perm,fun k hk=>(y.out k hk).trans (x.out k hk),fun P h=>y.all P (x.all P h)⟩
theorem Re.weak{a b a' b':Nat}{l m:List Row}(x:Re a b l m)(ha:a'≤a)(hb:b≤b'):Re a' b' l m :=
 ⟨x.len,x.perm,fun k hk=>x.out k (by omega),fun P h k h1 h2=>by
  by_cases hk:a≤k∧k<b
  ·exact x.all P (fun k' q1 q2=>h k' (by omega) (by omega)) k hk.1 hk.2
  ·rw [x.out k hk];exact h k h1 h2⟩
theorem Re.swap{a b:Nat}{l:List Row}{i j:Nat}(hi:i<l.length)(hj:j<l.length)(h1:a≤i)(h2:i<b)(h3:a≤j)(h4:j<b):Re a b l (swapM l i j) :=
 ⟨swapM_len l i j,swapM_perm hi hj,fun k hk=>by rw [rat_swap hi hj,if_neg (by omega),if_neg (by omega)],fun P h k q1 q2=>by
  rw [rat_swap hi hj]
  split
  ·exact h j h3 h4
  ·split
   ·exact h i h1 h2
   ·exact h k q1 q2⟩
def SrtOn(l:List Row)(a b:Nat):Prop:=∀ x y,a≤x→x<y→y<b→Le (rat l x) (rat l y)
theorem SrtOn.srt{l:List Row}(h:SrtOn l 0 l.length):Srt l:=by
 unfold Srt
 rw [List.pairwise_iff_getElem]
 intro i j hi hj hij
 rw [rat_getElem hi,rat_getElem hj]
 exact h i j (by omega) hij hj
structure Has (n0:Nat) (v:V) (g:AH) (l:List Row):Prop where
 own:OwnR n0 T_packidx_Row g v l
 ok:∀ r∈l,r.ok
theorem Has.rs{n0:Nat}{v:V}{g:AH}{l:List Row}(H:Has n0 v g l):Rs g v l:=⟨H.own.sl,H.ok⟩
theorem Has.old{n0:Nat}{v:V}{g g':AH}{l:List Row}(H:Has n0 v g l)(hw:g.WF)(o:Old g.next g g'):Has n0 v g' l:=⟨H.own.old hw o,H.ok⟩
theorem rowsL_set:∀ {l:List Row} {i:Nat} {r:Row},(∀ x∈l,x.ok)→r.ok→i<l.length→putL (rowL r) (i*34) (rowsL l)=rowsL (l.set i r):=by
 intro l i r hl hr hi
 have h1:=rowsL_take i hl
 have h2:=rowsL_drop (i+1) hl
 unfold putL
 rw [h1,rowL_len hr,show i*34+34=(i+1)*34 by omega,h2,List.set_eq_take_append_cons_drop,if_pos hi,rowsL_append,rowsL_cons,List.append_assoc]
theorem Has.at{n0:Nat}{v:V}{g:AH}{l:List Row}(H:Has n0 v g l){i:Nat}(hi:i<l.length):∃ a,ixS 34 v (i:Int)=some (.ptr a)∧ldA 34 (.ptr a) g=some (.agg (rowL (rat l i))):=by
 obtain ⟨a,h1,h2⟩:=H.rs.at (rat_get hi)
 exact ⟨a,h1,ldA_of h2⟩
theorem Has.rok{n0:Nat}{v:V}{g:AH}{l:List Row}(H:Has n0 v g l){i:Nat}(hi:i<l.length):(rat l i).ok:=H.ok _ (rat_mem hi)
theorem Has.put{n0:Nat}{v:V}{g:AH}{l:List Row}(H:Has n0 v g l)(hw:g.WF){i:Nat}(hi:i<l.length){r:Row}(hr:r.ok) :
  ∃ a g',ixS 34 v (i:Int)=some (.ptr a)∧st 34 (.ptr a) (.agg (rowL r)) g=some g'∧Has n0 v g' (l.set i r)∧Old n0 g g'∧∀ b,notIn v b→g'.get b=g.get b:=by
 obtain ⟨a,g',h1,h2,h3,h4,h5⟩:=H.own.set hw (i:=(i:Int)) (by omega) (by omega) (w:=.agg (rowL r)) (rowL_len hr) (rowL_cell r)
 refine ⟨a,g',h1,h2,⟨?_,?_⟩,h4,h5⟩
 ·have e:(V.agg (rowL r)).cells=rowL r:=rfl
  rw [Int.toNat_natCast,e,rowsL_set H.ok hr hi] at h3
  rw [OwnR,List.length_set];exact h3
 ·intro x hx
  rcases List.mem_or_eq_of_mem_set hx with h | rfl
  ·exact H.ok x h
  ·exact hr
theorem swap_keep{n0:Nat}{v:V}{g:AH}{l:List Row}(H:Has n0 v g l)(hw:g.WF){i j:Nat}(hi:i<l.length)(hj:j<l.length) :
  ∃ a b g1 g2,ixS 34 v (i:Int)=some (.ptr a)∧ixS 34 v (j:Int)=some (.ptr b)∧ldA 34 (.ptr a) g=some (.agg (rowL (rat l i)))∧ldA 34 (.ptr b) g=some (.agg (rowL (rat l j))) ∧
   st 34 (.ptr b) (.agg (rowL (rat l i))) g=some g1∧st 34 (.ptr a) (.agg (rowL (rat l j))) g1=some g2∧Has n0 v g2 (swapM l i j)∧Old n0 g g2∧∀ b,notIn v b→g2.get b=g.get b:=by
 obtain ⟨a,a1,a2⟩:=H.at hi
 obtain ⟨b,b1,b2⟩:=H.at hj
 obtain ⟨b',g1,c1,c2,c3,c4,c5⟩:=H.put hw hj (H.rok hi)
 obtain rfl:b=b':=V.ptr.inj (Option.some.inj (b1.symm.trans c1))
 obtain ⟨a',g2,d1,d2,d3,d4,d5⟩:=c3.put c4.wf (i:=i) (by rw [List.length_set];exact hi) (H.rok hj)
 obtain rfl:a=a':=V.ptr.inj (Option.some.inj (a1.symm.trans d1))
 exact ⟨a,b,g1,g2,a1,b1,a2,b2,c2,d2,d3,c4.trans d4,fun x hx=>(d5 x hx).trans (c5 x hx)⟩
theorem swap_word{n0:Nat}{v:V}{g:AH}{l:List Row}(H:Has n0 v g l)(hw:g.WF){i j:Nat}(hi:i<l.length)(hj:j<l.length) :
  ∃ a b g1 g2,ixS 34 v (i:Int)=some (.ptr a)∧ixS 34 v (j:Int)=some (.ptr b)∧ldA 34 (.ptr a) g=some (.agg (rowL (rat l i)))∧ldA 34 (.ptr b) g=some (.agg (rowL (rat l j))) ∧
   st 34 (.ptr b) (.agg (rowL (rat l i))) g=some g1∧st 34 (.ptr a) (.agg (rowL (rat l j))) g1=some g2∧Has n0 v g2 (swapM l i j)∧Old n0 g g2:=by
 obtain ⟨a,b,g1,g2,h1,h2,h3,h4,h5,h6,h7,h8,_⟩:=swap_keep H hw hi hj
 exact ⟨a,b,g1,g2,h1,h2,h3,h4,h5,h6,h7,h8⟩
theorem ptr_eq{o:Option V}{a b:A}(h:o=some (.ptr a))(k:o=some (.ptr b)):a=b:=V.ptr.inj (Option.some.inj (h.symm.trans k))
abbrev cmpF:V:=.func 24 [] []
theorem byId_spec{F m:Nat}{h:AH}(hw:h.WF){a b:Row}(ha:a.ok)(hb:b.ok):∃ h',runC (EE F) (m+3) nzap [.agg (rowL a),.agg (rowL b)] h=some (.int .i64 (cmpN a.id b.id),h')∧Old h.next h h':=by
 rw [tzap]
 obtain ⟨h1,e1,c1,n1,o1⟩:=box_cells hw (rowL a) T_packidx_Row (rowL_cell a)
 obtain ⟨h2,e2,c2,n2,o2⟩:=box_cells o1.wf (rowL b) T_packidx_Row (rowL_cell b)
 rw [rowL_len ha] at e1
 rw [rowL_len hb] at e2
 obtain ⟨h3,e3,o3⟩:=compare_spec (F:=F) (n:=m) o2.wf ha.1 hb.1 ha.2.1 hb.2.1
 have o12:=o1.trans (o2.weak o1.next)
 refine ⟨h3,?_,o12.trans (o3.weak o12.next)⟩
 simp only [zap.fn,zap.c0,e1,cV_some,e2,fA_ptr,bV_some,row_id (c1.old o1.wf o2) ha,bA_some,row_id c2 hb,cxC,e3,cI_some,zap.ret]
 rfl
theorem has24:hasB PP 24=some true:=by kernel_rfl
theorem cmp_word{F m:Nat}{g:AH}(hw:g.WF){a b:Row}(ha:a.ok)(hb:b.ok):∃ g',dyn PP (cx F (m+3)).C (cx F (m+3)).X cmpF [.agg (rowL a),.agg (rowL b)] g=some (.int .i64 (cmpN a.id b.id),g')∧Old g.next g g':=by
 obtain ⟨g',e,o⟩:=byId_spec (F:=F) (m:=m) hw ha hb
 exact ⟨g',(dyn_fn has24).trans e,o⟩
theorem cmp_at{F m n0:Nat}{v:V}{g:AH}{l:List Row}(H:Has n0 v g l)(hw:g.WF)(hn:n0≤g.next){i j:Nat}(hi:i<l.length)(hj:j<l.length) :
  ∃ a b g',ixS 34 v (i:Int)=some (.ptr a)∧ixS 34 v (j:Int)=some (.ptr b)∧ldA 34 (.ptr a) g=some (.agg (rowL (rat l i)))∧ldA 34 (.ptr b) g=some (.agg (rowL (rat l j))) ∧
   dyn PP (cx F (m+3)).C (cx F (m+3)).X cmpF [.agg (rowL (rat l i)),.agg (rowL (rat l j))] g=some (.int .i64 (cmpN (rat l i).id (rat l j).id),g')∧Has n0 v g' l∧Old n0 g g'∧Old g.next g g':=by
 obtain ⟨a,a1,a2⟩:=H.at hi
 obtain ⟨b,b1,b2⟩:=H.at hj
 obtain ⟨g',e,o⟩:=cmp_word (F:=F) (m:=m) hw (H.rok hi) (H.rok hj)
 exact ⟨a,b,g',a1,b1,a2,b2,e,H.old hw o,o.weak hn,o⟩
theorem lt_true{a b:Row}(h:Lt a b):decide (cmpN a.id b.id<0)=true:=decide_eq_true h
theorem lt_false{a b:Row}(h:¬Lt a b):decide (cmpN a.id b.id<0)=false:=decide_eq_false h
theorem wi{x:Int}{n:Nat}(h:x=(n:Int))(hn:n≤9223372036854775807):IntKind.wrap .i64 x=(n:Int):=by rw [wr_i64 (by omega) (by omega)];exact h
theorem dT{p:Prop}[Decidable p](h:p):decide p=true:=decide_eq_true h
theorem dF{p:Prop}[Decidable p](h:¬p):decide p=false:=decide_eq_false h
end Go.Proofs.YtcmhoboglapbdaaDoor
namespace Go.Proofs.YtcmhoboglapbdaaDoor
open Go Ev
def Near(l:List Row)(a i j:Nat):Prop:=∀ x y,a≤x→x<y→y≤i→y≠j→Le (rat l x) (rat l y)
theorem near_start{l:List Row}{a i:Nat}(h:SrtOn l a i):Near l a i i:=fun x y h1 h2 h3 h4=>h x y h1 h2 (by omega)
theorem near_done{l:List Row}{a i j:Nat}(h:Near l a i j)(hj:j=a∨(a<j∧j≤i∧Le (rat l (j-1)) (rat l j))):SrtOn l a (i+1):=by
 intro x y h1 h2 h3
 by_cases hy:y=j
 ·subst hy
  rcases hj with rfl | ⟨h4,h5,h6⟩
  ·omega
  ·by_cases hx:x=y-1
   ·subst hx;exact h6
   ·exact (h x (y-1) h1 (by omega) (by omega) (by omega)).trans h6
 ·exact h x y h1 h2 (by omega) hy
theorem near_step{l:List Row}{a i j:Nat}(h:Near l a i j)(hj:a<j)(hji:j≤i)(hi:i<l.length)(hlt:Lt (rat l j) (rat l (j-1))):Near (swapM l (j-1) j) a i (j-1):=by
 intro x y h1 h2 h3 h4
 rw [rat_swap (by omega) (by omega),rat_swap (by omega) (by omega),if_neg h4]
 by_cases hy:y=j
 ·subst hy
  rw [if_pos rfl]
  by_cases hx:x=y-1
  ·rw [if_pos hx];exact hlt.le
  ·rw [if_neg hx,if_neg (by omega)];exact h x (y-1) h1 (by omega) (by omega) (by omega)
 ·rw [if_neg hy]
  by_cases hx:x=j-1
  ·rw [if_pos hx];exact h j y (by omega) (by omega) h3 hy
  ·rw [if_neg hx]
   by_cases hx2:x=j
   ·rw [if_pos hx2];exact h (j-1) y (by omega) (by omega) h3 hy
   ·rw [if_neg hx2];exact h x y h1 h2 h3 hy
theorem ins_spec{F m n0:Nat}{v:V}{h:AH}{l:List Row}(H:Has n0 v h l)(hw:h.WF)(hn0:n0≤h.next){a b:Nat}(hab:a≤b)(hb:b≤l.length)(hlen:l.length≤4096)(hF:5000<F) :
  ∃ r h' l',runC (EE F) (m+4) nzbi [v,.int .i64 (a:Int),.int .i64 (b:Int),cmpF] h=some (r,h')∧Has n0 v h' l'∧Old n0 h h'∧Re a b l l'∧SrtOn l' a b:=by
 rw [tzbi]
 have i0:IntKind.wrap .i64 ((a:Int)+1)=((a+1:Nat):Int):=wi (by omega) (by omega)
 simp only [zbi.fn,zbi.c0,wr,i0]
 show ∃ r h' l',loopN zbi.P2 F (fun t h n'=>zbi.l1 (cx F (m+3)) n' zbi.ret zbi.ret t h) (v,(a:Int),(b:Int),cmpF,((a+1:Nat):Int),()) h=some (r,h')∧_
 refine loop_rule (S:=zbi.P2) (out:=fun x=>∃ r h' l',x=some (r,h')∧Has n0 v h' l'∧Old n0 h h'∧Re a b l l'∧SrtOn l' a b)
  (fun k s g=>∃ (i:Nat) (l1:List Row),i+k=max (a+1) b∧a+1≤i∧s=(v,(a:Int),(b:Int),cmpF,(i:Int),())∧Has n0 v g l1∧Old n0 h g∧Re a b l l1∧SrtOn l1 a i) ?_ ?_ (max (a+1) b-(a+1)) F _ _
  ⟨a+1,l,by omega,Nat.le_refl _,rfl,H,Old.refl hw _,Re.refl _ _ _,fun x y h1 h2 h3=>by omega⟩ (by omega)
 ·rintro k s g n' ⟨i,l1,hi,hai,rfl,H1,og,re,hs⟩
  have hib:i<b:=by omega
  have hl1:=re.len
  have c1:decide ((i:Int)<(b:Int))=true:=dT (by omega)
  have i3:IntKind.wrap .i64 ((i:Int)+1)=((i+1:Nat):Int):=wi (by omega) (by omega)
  refine .inl ?_
  simp only [zbi.l1,zbi.c1,zbi.k1,c1,cond_true,zbi.r3,zbi.c3]
  suffices hin:∃ g' l2,zbi.k3 (cx F (m+3)) (zbi.r2 (cx F (m+3)) n' zbi.ret zbi.ret) (zbi.r2 (cx F (m+3)) n' zbi.ret zbi.ret) zbi.ret zbi.ret (v,(a:Int),(b:Int),cmpF,(i:Int),(i:Int),()) g=n' (v,(a:Int),(b:Int),cmpF,((i+1:Nat):Int),()) g'∧Has n0 v g' l2∧Old n0 h g'∧Re a b l l2∧SrtOn l2 a (i+1) by
   obtain ⟨g',l2,z1,z2,z3,z4,z5⟩:=hin
   exact ⟨_,g',z1,i+1,l2,by omega,by omega,rfl,z2,z3,z4,z5⟩
  refine loop_rule (S:=zbi.P8) (out:=fun x=>∃ g' l2,x=n' (v,(a:Int),(b:Int),cmpF,((i+1:Nat):Int),()) g'∧Has n0 v g' l2∧Old n0 h g'∧Re a b l l2∧SrtOn l2 a (i+1))
   (fun k s f=>∃ (j:Nat) (l2:List Row),j=a+k∧j≤i∧s=(v,(a:Int),(b:Int),cmpF,(i:Int),(j:Int),())∧Has n0 v f l2∧Old n0 h f∧Re a b l l2∧Near l2 a i j) ?_ ?_ (i-a) F _ _
   ⟨i,l1,by omega,Nat.le_refl _,rfl,H1,og,re,near_start hs⟩ (by omega)
  ·rintro k s f n'' ⟨j,l2,hj,hji,rfl,H2,of,re2,hne⟩
   have hl2:=re2.len
   have i4:IntKind.wrap .i64 ((j:Int)-1)=((j-1:Nat):Int):=wi (by omega) (by omega)
   have c2:decide ((j:Int)>(a:Int))=true:=dT (by omega)
   obtain ⟨p,q,f1,u1,u2,u3,u4,u5,u6,u7,u8⟩:=cmp_at (F:=F) (m:=m) H2 of.wf (Nat.le_trans hn0 of.next) (i:=j) (j:=j-1) (by omega) (by omega)
   have of1:=of.trans u7
   by_cases hlt:Lt (rat l2 j) (rat l2 (j-1))
   ·obtain ⟨p',q',f2,f3,w1,w2,w3,w4,w5,w6,w7,w8⟩:=swap_word u6 of1.wf (i:=j-1) (j:=j) (by omega) (by omega)
    obtain rfl:=ptr_eq u1 w2
    obtain rfl:=ptr_eq u2 w1
    refine .inl ⟨_,f3,?_,j-1,_,by omega,by omega,rfl,w7,of1.trans w8,re2.trans (Re.swap (by omega) (by omega) (by omega) (by omega) (by omega) (by omega)),near_step hne (by omega) hji (by omega) hlt⟩
    simp only [zbi.l4,zbi.c4,zbi.k4,zbi.r6,zbi.c6,zbi.r5,zbi.c5,c2,cond_true,u1,u2,bV_some,u3,bA_some,wr,i4,u4,u5,cI_some,lt_true hlt,w1,w2,w3,w4,w5,w6,bS_some]
   ·refine .inr ⟨f1,l2,?_,u6,of1,re2,near_done hne (.inr ⟨by omega,hji,not_lt.1 hlt⟩)⟩
    simp only [zbi.l4,zbi.c4,zbi.k4,zbi.r2,zbi.c2,c2,cond_true,u1,u2,bV_some,u3,bA_some,wr,i4,u4,u5,cI_some,lt_false hlt,cond_false,i3]
  ·rintro s f n'' ⟨j,l2,hj,hji,rfl,H2,of,re2,hne⟩
   have c2:decide ((j:Int)>(a:Int))=false:=dF (by omega)
   refine ⟨f,l2,?_,H2,of,re2,near_done hne (.inl (by omega))⟩
   simp only [zbi.l4,zbi.c4,zbi.k4,zbi.r2,zbi.c2,c2,cond_false,wr,i3]
 ·rintro s g n' ⟨i,l1,hi,hai,rfl,H1,og,re,hs⟩
  have c1:decide ((i:Int)<(b:Int))=false:=dF (by omega)
  refine ⟨pack [],g,l1,?_,H1,og,re,fun x y h1 h2 h3=>hs x y h1 h2 (by omega)⟩
  simp only [zbi.l1,zbi.c1,zbi.k1,c1,cond_false]
  rfl
end Go.Proofs.YtcmhoboglapbdaaDoor
namespace Go.Proofs.YtcmhoboglapbdaaDoor
open Go Ev
def HeapAt(l:List Row)(f hi i:Nat):Prop:=∀ c,(c=2*i+1∨c=2*i+2)→c<hi→Le (rat l (f+c)) (rat l (f+i))
def Sift(l:List Row)(f lo hi r:Nat):Prop :=
 (∀ i,lo≤i→i≠r→HeapAt l f hi i)∧∀ p,lo≤p→(r=2*p+1∨r=2*p+2)→∀ c,(c=2*r+1∨c=2*r+2)→c<hi→Le (rat l (f+c)) (rat l (f+p))
theorem sift_start{l:List Row}{f lo hi:Nat}(h:∀ i,lo<i→HeapAt l f hi i):Sift l f lo hi lo :=
 ⟨fun i h1 h2=>h i (by omega),fun p h1 h2=>by omega⟩
theorem sift_done{l:List Row}{f lo hi r:Nat}(h:Sift l f lo hi r)(hr:HeapAt l f hi r):∀ i,lo≤i→HeapAt l f hi i:=by
 intro i hi'
 by_cases e:i=r
 ·rw [e];exact hr
 ·exact h.1 i hi' e
theorem sift_step{l:List Row}{f lo hi r c:Nat}(h:Sift l f lo hi r)(hlo:lo≤r)(hc:c=2*r+1∨c=2*r+2)(hch:c<hi)(hlen:f+hi≤l.length)(hlt:Lt (rat l (f+r)) (rat l (f+c)))
  (hmax:∀ d,(d=2*r+1∨d=2*r+2)→d<hi→Le (rat l (f+d)) (rat l (f+c))):Sift (swapM l (f+c) (f+r)) f lo hi c:=by
 have sw:∀ k,rat (swapM l (f+c) (f+r)) (f+k)=if k=c then rat l (f+r) else if k=r then rat l (f+c) else rat l (f+k):=by
  intro k
  rw [rat_swap (by omega) (by omega)]
  by_cases h1:k=c
  ·rw [if_pos (by omega),if_pos h1]
  ·rw [if_neg (by omega),if_neg h1]
   by_cases h2:k=r
   ·rw [if_pos (by omega),if_pos h2]
   ·rw [if_neg (by omega),if_neg h2]
 refine ⟨?_,?_⟩
 ·intro i h1 h2 d hd hdh
  rw [sw d,sw i,if_neg h2]
  by_cases hir:i=r
  ·subst hir
   rw [if_pos rfl]
   by_cases hdc:d=c
   ·rw [if_pos hdc];exact hlt.le
   ·rw [if_neg hdc,if_neg (by omega)];exact hmax d hd hdh
  ·rw [if_neg hir,if_neg (by omega)]
   by_cases hdr:d=r
   ·rw [if_pos hdr]
    exact h.2 i h1 (by omega) c hc hch
   ·rw [if_neg hdr];exact h.1 i h1 hir d hd hdh
 ·intro p h1 h2 d hd hdh
  have hpr:p=r:=by omega
  subst hpr
  rw [sw d,sw p,if_neg (by omega),if_neg (by omega),if_neg (by omega),if_pos rfl]
  exact h.1 c (by omega) (by omega) d hd hdh
theorem heap_max{l:List Row}{f hi:Nat}(h:∀ i,HeapAt l f hi i):∀ x,x<hi→Le (rat l (f+x)) (rat l (f+0)):=by
 intro x
 induction x using Nat.strongRecOn with
 | ind x ih =>
  intro hx
  by_cases h0:x=0
  ·subst h0;exact Le.refl _
  ·exact (h ((x-1) / 2) x (by omega) hx).trans (ih ((x-1) / 2) (by omega) (by omega))
theorem sift_spec{F m n0:Nat}{v:V}{h:AH}{l:List Row}(H:Has n0 v h l)(hw:h.WF)(hn0:n0≤h.next){lo hi f:Nat}(hlo:lo≤4096)(hb:f+hi≤l.length)(hlen:l.length≤4096)(hF:5000<F)(hh:∀ i,lo<i→HeapAt l f hi i) :
  ∃ h' l',runC (EE F) (m+4) nzbs [v,.int .i64 (lo:Int),.int .i64 (hi:Int),.int .i64 (f:Int),cmpF] h=some (pack [],h')∧Has n0 v h' l'∧Old n0 h h'∧Re f (f+hi) l l'∧∀ i,lo≤i→HeapAt l' f hi i:=by
 rw [tzbs]
 simp only [zbs.fn,zbs.c0]
 refine loop_rule (S:=zbs.P2) (out:=fun x=>∃ h' l',x=some (pack [],h')∧Has n0 v h' l'∧Old n0 h h'∧Re f (f+hi) l l'∧∀ i,lo≤i→HeapAt l' f hi i)
  (fun k s g=>∃ (r:Nat) (l1:List Row),hi≤r+k∧lo≤r∧r≤4096∧s=(v,(hi:Int),(f:Int),cmpF,(r:Int),())∧Has n0 v g l1∧Old n0 h g∧Re f (f+hi) l l1∧Sift l1 f lo hi r) ?_ ?_ hi F _ _
  ⟨lo,l,by omega,Nat.le_refl _,hlo,rfl,H,Old.refl hw _,Re.refl _ _ _,sift_start hh⟩ (by omega)
 ·rintro k s g n' ⟨r,l1,hk,hr,hr2,rfl,H1,og,re,hs⟩
  have hl1:=re.len
  have i1:IntKind.wrap .i64 (2*(r:Int))=((2*r:Nat):Int):=wi (by omega) (by omega)
  have i2:IntKind.wrap .i64 (((2*r:Nat):Int)+1)=((2*r+1:Nat):Int):=wi (by omega) (by omega)
  by_cases hc:2*r+1≥hi
  ·have c1:decide (((2*r+1:Nat):Int)≥(hi:Int))=true:=dT (by omega)
   refine .inr ⟨g,l1,?_,H1,og,re,sift_done hs fun c h1 h2=>by omega⟩
   simp only [zbs.l1,zbs.c1,zbs.k1,zbs.c2,zbs.k2,wr,i1,i2,c1,cond_true]
   rfl
  ·have c1:decide (((2*r+1:Nat):Int)≥(hi:Int))=false:=dF (by omega)
   have i3:IntKind.wrap .i64 (((2*r+1:Nat):Int)+1)=((2*r+2:Nat):Int):=wi (by omega) (by omega)
   have i4:IntKind.wrap .i64 ((f:Int)+((2*r+1:Nat):Int))=((f+(2*r+1):Nat):Int):=wi (by omega) (by omega)
   have i5:IntKind.wrap .i64 (((f+(2*r+1):Nat):Int)+1)=((f+(2*r+2):Nat):Int):=wi (by omega) (by omega)
   have i6:IntKind.wrap .i64 ((f:Int)+(r:Int))=((f+r:Nat):Int):=wi (by omega) (by omega)
   have fin:∀ (c:Nat) (g1:AH),(c=2*r+1∨c=2*r+2)→c<hi→Has n0 v g1 l1→Old n0 h g1→(∀ d,(d=2*r+1∨d=2*r+2)→d<hi→Le (rat l1 (f+d)) (rat l1 (f+c))) →
     (∃ s' h',zbs.r5 (cx F (m+3)) n' n' zbs.ret zbs.ret (v,(hi:Int),(f:Int),cmpF,(r:Int),(c:Int),()) g1=n' s' h' ∧
      ∃ (r:Nat) (l1:List Row),hi≤r+k∧lo≤r∧r≤4096∧s'=(v,(hi:Int),(f:Int),cmpF,(r:Int),())∧Has n0 v h' l1∧Old n0 h h'∧Re f (f+hi) l l1∧Sift l1 f lo hi r) ∨
     (∃ h' l',zbs.r5 (cx F (m+3)) n' n' zbs.ret zbs.ret (v,(hi:Int),(f:Int),cmpF,(r:Int),(c:Int),()) g1=some (pack [],h')∧Has n0 v h' l'∧Old n0 h h'∧Re f (f+hi) l l'∧∀ i,lo≤i→HeapAt l' f hi i):=by
    intro c g1 hc1 hc2 H2 og1 hmax
    have i7:IntKind.wrap .i64 ((f:Int)+(c:Int))=((f+c:Nat):Int):=wi (by omega) (by omega)
    obtain ⟨p,q,f1,u1,u2,u3,u4,u5,u6,u7,u8⟩:=cmp_at (F:=F) (m:=m) H2 og1.wf (Nat.le_trans hn0 og1.next) (i:=f+r) (j:=f+c) (by omega) (by omega)
    have of1:=og1.trans u7
    by_cases hlt:Lt (rat l1 (f+r)) (rat l1 (f+c))
    ·obtain ⟨p',q',f2,f3,w1,w2,w3,w4,w5,w6,w7,w8⟩:=swap_word u6 of1.wf (i:=f+c) (j:=f+r) (by omega) (by omega)
     obtain rfl:=ptr_eq u1 w2
     obtain rfl:=ptr_eq u2 w1
     refine .inl ⟨_,f3,?_,c,_,by omega,by omega,by omega,rfl,w7,of1.trans w8,re.trans (Re.swap (by omega) (by omega) (by omega) (by omega) (by omega) (by omega)),sift_step hs hr hc1 hc2 (by omega) hlt hmax⟩
     simp only [zbs.r5,zbs.c5,zbs.k5,zbs.r6,zbs.c6,wr,i6,i7,u1,u2,bV_some,u3,bA_some,u4,u5,cI_some,lt_true hlt,Bool.not_true,cond_false,w3,w4,w5,w6,bS_some]
    ·refine .inr ⟨f1,l1,?_,u6,of1,re,sift_done hs fun d h1 h2=>(hmax d h1 h2).trans (not_lt.1 hlt)⟩
     simp only [zbs.r5,zbs.c5,zbs.k5,wr,i6,i7,u1,u2,bV_some,u3,bA_some,u4,u5,cI_some,lt_false hlt,Bool.not_false,cond_true]
     rfl
   by_cases hd:2*r+2<hi
   ·have c2:decide (IntKind.wrap .i64 (((2*r+1:Nat):Int)+1)<(hi:Int))=true:=by rw [i3];exact dT (by omega)
    obtain ⟨p,q,f1,u1,u2,u3,u4,u5,u6,u7,u8⟩:=cmp_at (F:=F) (m:=m) H1 og.wf (Nat.le_trans hn0 og.next) (i:=f+(2*r+1)) (j:=f+(2*r+2)) (by omega) (by omega)
    simp only [zbs.l1,zbs.c1,zbs.k1,zbs.c2,zbs.k2,zbs.r3,zbs.c3,wr,i1,i2,c1,cond_false,↓c2,cond_true,i4,i5,u1,u2,bV_some,u3,bA_some,u4,u5,cI_some]
    by_cases hlt:Lt (rat l1 (f+(2*r+1))) (rat l1 (f+(2*r+2)))
    ·simp only [lt_true hlt,zbs.k3,zbs.c4,cond_true,wr,i3]
     refine fin (2*r+2) f1 (.inr rfl) hd u6 (og.trans u7) fun d h1 h2=>?_
     rcases h1 with rfl | rfl
     ·exact hlt.le
     ·exact Le.refl _
    ·simp only [lt_false hlt,zbs.k3,cond_false]
     refine fin (2*r+1) f1 (.inl rfl) (by omega) u6 (og.trans u7) fun d h1 h2=>?_
     rcases h1 with rfl | rfl
     ·exact Le.refl _
     ·exact not_lt.1 hlt
   ·have c2:decide (IntKind.wrap .i64 (((2*r+1:Nat):Int)+1)<(hi:Int))=false:=by rw [i3];exact dF (by omega)
    simp only [zbs.l1,zbs.c1,zbs.k1,zbs.c2,zbs.k2,zbs.r3,zbs.c3,wr,i1,i2,c1,cond_false,↓c2,zbs.k3]
    refine fin (2*r+1) g (.inl rfl) (by omega) H1 og fun d h1 h2=>?_
    rcases h1 with rfl | rfl
    ·exact Le.refl _
    ·omega
 ·rintro s g n' ⟨r,l1,hk,hr,hr2,rfl,H1,og,re,hs⟩
  have i1:IntKind.wrap .i64 (2*(r:Int))=((2*r:Nat):Int):=wi (by omega) (by omega)
  have i2:IntKind.wrap .i64 (((2*r:Nat):Int)+1)=((2*r+1:Nat):Int):=wi (by omega) (by omega)
  have c1:decide (((2*r+1:Nat):Int)≥(hi:Int))=true:=dT (by omega)
  refine ⟨g,l1,?_,H1,og,re,sift_done hs fun c h1 h2=>by omega⟩
  simp only [zbs.l1,zbs.c1,zbs.k1,zbs.c2,zbs.k2,wr,i1,i2,c1,cond_true]
  rfl
theorem heap_spec{F m n0:Nat}{v:V}{h:AH}{l:List Row}(H:Has n0 v h l)(hw:h.WF)(hn0:n0≤h.next){a b:Nat}(hab:a≤b)(hb:b≤l.length)(hlen:l.length≤4096)(hF:5000<F) :
  ∃ h' l',runC (EE F) (m+5) nzbh [v,.int .i64 (a:Int),.int .i64 (b:Int),cmpF] h=some (pack [],h')∧Has n0 v h' l'∧Old n0 h h'∧Re a b l l'∧SrtOn l' a b:=by
 rw [tzbh]
 obtain ⟨hi,rfl⟩:∃ hi,b=a+hi:=⟨b-a,by omega⟩
 have i1:IntKind.wrap .i64 (((a+hi:Nat):Int)-(a:Int))=(hi:Int):=wi (by omega) (by omega)
 have i2:IntKind.wrap .i64 ((hi:Int)-1)=(hi:Int)-1:=wr_i64 (by omega) (by omega)
 have i3:IntKind.wrap .i64 (((hi:Int)-1).tdiv 2)=(((hi-1) / 2:Nat):Int):=by
  cases hi with
  | zero=>rfl
  | succ hi =>
   have e:(((hi+1:Nat):Int)-1)=(hi:Int):=by omega
   have e2:((hi:Int)).tdiv 2=((hi / 2:Nat):Int):=by rw [Int.tdiv_eq_ediv_of_nonneg (by omega)];omega
   rw [e,e2]
   exact wi (by simp) (by omega)
 simp only [zbh.fn,zbh.c0,zbh.k2,zbh.c3,wr,i1,i2,i3]
 refine loop_rule (S:=zbh.P8) (out:=fun x=>∃ h' l',x=some (pack [],h')∧Has n0 v h' l'∧Old n0 h h'∧Re a (a+hi) l l'∧SrtOn l' a (a+hi))
  (fun k s g=>∃ (l1:List Row),k≤4096∧s=(v,cmpF,(a:Int),0,(hi:Int),(k:Int)-1,())∧Has n0 v g l1∧Old n0 h g∧Re a (a+hi) l l1∧∀ i,k≤i→HeapAt l1 a hi i) ?_ ?_ ((hi-1) / 2+1) F _ _
  ⟨l,by omega,by rw [show (((hi-1) / 2+1:Nat):Int)-1=(((hi-1) / 2:Nat):Int) by omega],H,Old.refl hw _,Re.refl _ _ _,fun i h1 c h2 h3=>by omega⟩ (by omega)
 ·rintro k s g n' ⟨l1,hk,rfl,H1,og,re,hh⟩
  have hl1:=re.len
  obtain ⟨g2,l2,e1,H2,o2,re2,hh2⟩:=sift_spec (F:=F) (m:=m) H1 og.wf (Nat.le_trans hn0 og.next) (lo:=k) (hi:=hi) (f:=a) (by omega) (by omega) (by omega) hF (fun i h1=>hh i (by omega))
  have e0:(((k+1:Nat):Int)-1)=(k:Int):=by omega
  rw [e0]
  have c1:decide ((k:Int)≥0)=true:=dT (by omega)
  have i4:IntKind.wrap .i64 ((k:Int)-1)=(k:Int)-1:=wr_i64 (by omega) (by omega)
  refine .inl ⟨_,g2,?_,l2,by omega,rfl,H2,og.trans o2,re.trans re2,hh2⟩
  simp only [zbh.l4,zbh.c4,zbh.k4,zbh.r6,zbh.c6,zbh.r5,zbh.c5,c1,cond_true,cxC,e1,cV_some,wr,i4]
 ·rintro s g n' ⟨l1,hk,rfl,H1,og,re,hh⟩
  have c1:decide ((((0:Nat):Int)-1)≥0)=false:=rfl
  simp only [zbh.l4,zbh.c4,zbh.k4,zbh.r7,zbh.c7,zbh.k7,c1,cond_false,wr,i2]
  refine loop_rule (S:=zbh.P16) (out:=fun x=>∃ h' l',x=some (pack [],h')∧Has n0 v h' l'∧Old n0 h h'∧Re a (a+hi) l l'∧SrtOn l' a (a+hi))
   (fun k s g=>∃ (l1:List Row),k≤hi∧s=(v,cmpF,(a:Int),0,(k:Int)-1,())∧Has n0 v g l1∧Old n0 h g∧Re a (a+hi) l l1∧(∀ i,HeapAt l1 a k i)∧SrtOn l1 (a+k) (a+hi)∧∀ x y,x<k→k≤y→y<hi→Le (rat l1 (a+x)) (rat l1 (a+y))) ?_ ?_ hi F _ _
   ⟨l1,Nat.le_refl _,rfl,H1,og,re,fun i=>hh i (Nat.zero_le _),fun x y h1 h2 h3=>by omega,fun x y h1 h2 h3=>by omega⟩ (by omega)
  ·rintro k s g n'' ⟨l1,hk,rfl,H1,og,re,hh,hs,hx⟩
   have hl1:=re.len
   have e0:(((k+1:Nat):Int)-1)=(k:Int):=by omega
   rw [e0]
   have c1:decide ((k:Int)≥0)=true:=dT (by omega)
   have i4:IntKind.wrap .i64 ((k:Int)-1)=(k:Int)-1:=wr_i64 (by omega) (by omega)
   have i5:IntKind.wrap .i64 ((a:Int)+(k:Int))=((a+k:Nat):Int):=wi (by omega) (by omega)
   obtain ⟨p',q',f2,f3,w1,w2,w3,w4,w5,w6,w7,w8⟩:=swap_word H1 og.wf (i:=a+k) (j:=a) (by omega) (by omega)
   have o3:=og.trans w8
   have sw:∀ x,rat (swapM l1 (a+k) a) (a+x)=if x=k then rat l1 a else if x=0 then rat l1 (a+k) else rat l1 (a+x):=by
    intro x
    rw [rat_swap (by omega) (by omega)]
    by_cases h1:x=k
    ·rw [if_pos (by omega),if_pos h1]
    ·rw [if_neg (by omega),if_neg h1]
     by_cases h2:x=0
     ·rw [if_pos (by omega),if_pos h2]
     ·rw [if_neg (by omega),if_neg h2]
   obtain ⟨g4,l4,e1,H4,o4,re4,hh4⟩:=sift_spec (F:=F) (m:=m) w7 o3.wf (Nat.le_trans hn0 o3.next) (lo:=0) (hi:=k) (f:=a) (by omega) (by rw [swapM_len];omega) (by rw [swapM_len];omega) hF (fun i h1 c h2 h3=>by
    rw [sw c,sw i,if_neg (by omega),if_neg (by omega),if_neg (by omega),if_neg (by omega)]
    exact hh i c h2 (by omega))
   have hmax:=heap_max hh
   rw [Nat.add_zero] at hmax
   have outk:∀ y,k≤y→rat l4 (a+y)=if y=k then rat l1 a else rat l1 (a+y):=by
    intro y hy
    rw [re4.out _ (by omega),sw y]
    by_cases h1:y=k
    ·rw [if_pos h1,if_pos h1]
    ·rw [if_neg h1,if_neg h1,if_neg (by omega)]
   have e1':runC (EE F) (m+4) nzbs [v,.int .i64 0,.int .i64 (k:Int),.int .i64 (a:Int),cmpF] f3=some (pack [],g4):=e1
   refine .inl ⟨_,g4,?_,l4,by omega,rfl,H4,o3.trans o4,(re.trans (Re.swap (by omega) (by omega) (by omega) (by omega) (by omega) (by omega))).trans (re4.weak (Nat.le_refl _) (by omega)),fun i=>hh4 i (Nat.zero_le _),?_,?_⟩
   ·simp only [zbh.l8,zbh.c8,zbh.k8,zbh.r10,zbh.c10,zbh.r9,zbh.c9,c1,cond_true,wr,i4,i5,w1,w2,w3,w4,w5,w6,bV_some,bA_some,bS_some,cxC,e1',cV_some]
   ·intro x y h1 h2 h3
    obtain ⟨x,rfl⟩:∃ x',x=a+x':=⟨x-a,by omega⟩
    obtain ⟨y,rfl⟩:∃ y',y=a+y':=⟨y-a,by omega⟩
    rw [outk x (by omega),outk y (by omega),if_neg (show ¬y=k by omega)]
    by_cases hxk:x=k
    ·rw [if_pos hxk]
     have:=hx 0 y (by omega) (by omega) (by omega)
     rw [Nat.add_zero] at this
     exact this
    ·rw [if_neg hxk];exact hs _ _ (by omega) h2 h3
   ·intro x y h1 h2 h3
    rw [outk y h2]
    refine re4.all (fun r=>Le r (if y=k then rat l1 a else rat l1 (a+y))) (fun z q1 q2=>?_) (a+x) (by omega) (by omega)
    obtain ⟨z,rfl⟩:∃ z',z=a+z':=⟨z-a,by omega⟩
    rw [sw z,if_neg (by omega)]
    have each:∀ w,w≤k→Le (rat l1 (a+w)) (if y=k then rat l1 a else rat l1 (a+y)):=by
     intro w hwk
     by_cases hy:y=k
     ·rw [if_pos hy];exact hmax w (by omega)
     ·rw [if_neg hy];exact hx w y (by omega) (by omega) h3
    by_cases hz:z=0
    ·rw [if_pos hz];exact each k (Nat.le_refl _)
    ·rw [if_neg hz];exact each z (by omega)
  ·rintro s g n'' ⟨l1,hk,rfl,H1,og,re,hh,hs,hx⟩
   refine ⟨g,l1,?_,H1,og,re,by simpa using hs⟩
   simp only [zbh.l8,zbh.c8,zbh.k8,c1,cond_false]
   rfl
end Go.Proofs.YtcmhoboglapbdaaDoor
namespace Go.Proofs.YtcmhoboglapbdaaDoor
open Go Ev
theorem Ev.Wrote.trans{h h' h'':AH}{b:Nat}(x:Wrote h h' b)(y:Wrote h' h'' b):Wrote h h'' b :=
 ⟨y.next.trans x.next,by rw [y.low,x.low];omega,fun b' hb=>(y.rest b' hb).trans (x.rest b' hb),y.wf⟩
theorem cell_ld{h:AH}{b e:Nat}{v:V}(hc:Cells h b e [v]):ld (.ptr ⟨b,1,0⟩) h=some v:=ld_of (hc.read1 rfl rfl)
theorem cell_st{h:AH}{b e:Nat}{v w:V}(hc:Cells h b e [v])(hw:h.WF)(h1:w.cells=[w])(h2:w.cell=true):∃ h',st 1 (.ptr ⟨b,1,0⟩) w h=some h'∧Cells h' b e [w]∧Wrote h h' b:=by
 obtain ⟨h',w1,w2,w3,w4,w5,w6⟩:=hc.write hw (L:=1) (o:=0) (vs:=[w]) rfl (by simp [h2]) (by simp)
 refine ⟨h',st_of (by rw [h1];rfl) (by rw [h1];exact w1),?_,w3,w4,w5,w6⟩
 rw [putL_all [w] [v] rfl] at w2
 exact w2
theorem cell_al{h:AH}(hw:h.WF)(v:V)(e:Nat)(hc:v.cell=true):(al [v] e h).1=.ptr ⟨h.next,1,0⟩∧Cells (al [v] e h).2 h.next e [v]∧(al [v] e h).2.next=h.next+1∧Old h.next h (al [v] e h).2:=by
 obtain ⟨c1,c2,c3,c4⟩:=al_cells hw [v] e (by simp [hc]) (by simp)
 exact ⟨c2,c1,c3,c4⟩
theorem nil_ptr(a:A):absNilCheck (.ptr a)=some (.ptr a):=rfl
theorem u64_range(x:Int):0≤IntKind.wrap .u64 x∧IntKind.wrap .u64 x<18446744073709551616:=by rw [wr_u64];omega
theorem next_spec{F m:Nat}{h:AH}(hw:h.WF){b e:Nat}{x:Int}(hc:Cells h b e [.int .u64 x]) :
  ∃ y h',runC (EE F) (m+1) nzbt [.ptr ⟨b,1,0⟩] h=some (.int .u64 y,h')∧(0≤y∧y<18446744073709551616)∧Cells h' b e [.int .u64 y]∧Wrote h h' b:=by
 rw [tzbt]
 obtain ⟨h1,s1,c1,w1⟩:=cell_st hc hw (w:=.int .u64 (ixor .u64 x (ishl .u64 x 13))) rfl rfl
 obtain ⟨h2,s2,c2,w2⟩:=cell_st c1 w1.wf (w:=.int .u64 (ixor .u64 (ixor .u64 x (ishl .u64 x 13)) (ishr .u64 (ixor .u64 x (ishl .u64 x 13)) 7))) rfl rfl
 obtain ⟨h3,s3,c3,w3⟩:=cell_st c2 w2.wf (w:=.int .u64 (ixor .u64 (ixor .u64 (ixor .u64 x (ishl .u64 x 13)) (ishr .u64 (ixor .u64 x (ishl .u64 x 13)) 7)) (ishl .u64 (ixor .u64 (ixor .u64 x (ishl .u64 x 13)) (ishr .u64 (ixor .u64 x (ishl .u64 x 13)) 7)) 17))) rfl rfl
 refine ⟨_,h3,?_,u64_range _,c3,(w1.trans w2).trans w3⟩
 simp only [zbt.fn,zbt.c0,nil_ptr,bV_some,cell_ld hc,bI_some,s1,bS_some,cell_ld c1,s2,cell_ld c2,s3,cell_ld c3]
 rfl
abbrev lenTab:List Nat:=[0,1,2,2,3,3,3,3,4,4,4,4,4,4,4,4,5,5,5,5,5,5,5,5,5,5,5,5,5,5,5,5,6,6,6,6,6,6,6,6,6,6,6,6,6,6,6,6,6,6,6,6,6,6,6,6,6,6,6,6,6,6,6,6,7,7,7,7,7,7,7,7,7,7,7,7,7,7,7,7,7,7,7,7,7,7,7,7,7,7,7,7,7,7,7,7,7,7,7,7,7,7,7,7,7,7,7,7,7,7,7,7,7,7,7,7,7,7,7,7,7,7,7,7,7,7,7,7,8,8,8,8,8,8,8,8,8,8,8,8,8,8,8,8,8,8,8,8,8,8,8,8,8,8,8,8,8,8,8,8,8,8,8,8,8,8,8,8,8,8,8,8,8,8,8,8,8,8,8,8,8,8,8,8,8,8,8,8,8,8,8,8,8,8,8,8,8,8,8,8,8,8,8,8,8,8,8,8,8,8,8,8,8,8,8,8,8,8,8,8,8,8,8,8,8,8,8,8,8,8,8,8,8,8,8,8,8,8,8,8,8,8,8,8,8,8,8,8,8,8,8,8,8,8,8,8]
theorem lenTab_all:∀ n,n<256→(lenTab[n]?=some (lenTab.getD n 0))∧lenTab.getD n 0≤8∧n<2 ^ lenTab.getD n 0∧(0<n→2 ^ lenTab.getD n 0≤2*n):=by decide +kernel
def blen(n:Nat):Nat:=lenTab.getD n 0
set_option maxRecDepth 20000 in
theorem len64_spec{F m:Nat}{h:AH}{n:Nat}(hn:n<256):runC (EE F) (m+1) nzai [.int .u64 (n:Int)] h=some (.int .i64 ((blen n:Nat):Int),h):=by
 rw [tzai]
 obtain ⟨l1,l2,_⟩:=lenTab_all n hn
 have d1:decide ((n:Int)≥4294967296)=false:=dF (by omega)
 have d2:decide ((n:Int)≥65536)=false:=dF (by omega)
 have d3:decide ((n:Int)≥256)=false:=dF (by omega)
 have i1:IntKind.wrap .u8 (n:Int)=(n:Int):=by rw [wr_u8];omega
 have e1:ixZ lenTab (n:Int)=some (.int .u8 ((blen n:Nat):Int)):=by
  show (strAt lenTab (n:Int)).map _=_
  unfold strAt
  rw [if_pos (by omega),Int.toNat_natCast,l1];rfl
 have i2:IntKind.wrap .i64 ((blen n:Nat):Int)=((blen n:Nat):Int):=wi rfl (by unfold blen;omega)
 have i3:IntKind.wrap .i64 (0+((blen n:Nat):Int))=((blen n:Nat):Int):=wi (by omega) (by unfold blen;omega)
 simp only [zai.fn,zai.c0,zai.k0,zai.c1,zai.k1,zai.r4,zai.c4,zai.k4,zai.r7,zai.c7,zai.k7,zai.r10,zai.c10,d1,d2,d3,cond_false,wr,i1]
 rw [e1]
 simp only [bI_some,i2,i3]
 rfl
theorem len_spec{F m:Nat}{h:AH}{n:Nat}(hn:n<256):runC (EE F) (m+2) nzah [.int .u64 (n:Int)] h=some (.int .i64 ((blen n:Nat):Int),h):=by
 rw [tzah]
 simp only [zah.fn,zah.c0,zah.k0,zah.r2,zah.c2,cond_false,cxC,len64_spec hn,cI_some]
 rfl
theorem pow2_spec{F m:Nat}{h:AH}{n:Nat}(hn:n<256):runC (EE F) (m+3) nzbl [.int .i64 (n:Int)] h=some (.int .u64 ((2 ^ blen n:Nat):Int),h):=by
 rw [tzbl]
 obtain ⟨l1,l2,l3,l4⟩:=lenTab_all n hn
 have hb:blen n≤8:=l2
 have e1:ishl .u64 1 ((blen n:Nat):Int)=((2 ^ blen n:Nat):Int):=by
  unfold ishl
  have hbits:IntKind.u64.bits=64:=rfl
  rw [Int.toNat_natCast,hbits,Nat.min_eq_left (by omega),Int.one_mul,wr_u64]
  have h8:(2:Nat) ^ blen n≤2 ^ 8:=Nat.pow_le_pow_right (by omega) hb
  have:((2:Int) ^ blen n)=((2 ^ blen n:Nat):Int):=by simp
  rw [this]
  have h256:(2:Nat) ^ 8=256:=rfl
  generalize (2:Nat) ^ blen n=M at *
  omega
 have c1:¬(((blen n:Nat):Int)<0):=by omega
 simp only [zbl.fn,zbl.c0,wr,u64_small (show n<18446744073709551616 by omega),cxC,len_spec hn,cI_some,if_neg c1,e1,bI_some]
 rfl
theorem iand_lt{y:Int}{M:Nat}(hM:0<M)(h2:M≤4294967296):∃ o:Nat,iand .u64 y (((M-1:Nat):Int))=(o:Int)∧o<M:=by
 refine ⟨(BitVec.ofInt 64 y &&& BitVec.ofInt 64 ((M-1:Nat):Int)).toNat,?_,?_⟩
 ·show IntKind.wrap .u64 _=_
  exact u64_small (BitVec.isLt _)
 ·rw [BitVec.toNat_and]
  refine Nat.lt_of_le_of_lt Nat.and_le_right ?_
  rw [BitVec.toNat_ofInt]
  have:((2 ^ 64:Nat):Int)=18446744073709551616:=by decide
  rw [this]
  omega
theorem Has.beside{n0:Nat}{v:V}{g g':AH}{l:List Row}(H:Has n0 v g l){b:Nat}(w:Wrote g g' b)(hn:notIn v b):Has n0 v g' l :=
 ⟨H.own.keep fun b' hb=>w.rest b' (fun e=>hb (e▸hn)),H.ok⟩
theorem Has.off{n0:Nat}{v:V}{g:AH}{l:List Row}(H:Has n0 v g l)(hw:g.WF){b:Nat}(hb:g.next≤b):notIn v b :=
 Classical.byContradiction fun h=>by have:=H.own.alive hw h;omega
theorem break_spec{F m n0:Nat}{v:V}{h:AH}{l:List Row}(H:Has n0 v h l)(hw:h.WF)(hn0:n0≤h.next){a b:Nat}(hab:a≤b)(hb:b≤l.length)(hlen:l.length≤200)(hF:5000<F) :
  ∃ h' l',runC (EE F) (m+4) nzbf [v,.int .i64 (a:Int),.int .i64 (b:Int),cmpF] h=some (pack [],h')∧Has n0 v h' l'∧Old n0 h h'∧Re a b l l':=by
 rw [tzbf]
 obtain ⟨n,rfl⟩:∃ n,b=a+n:=⟨b-a,by omega⟩
 have i1:IntKind.wrap .i64 (((a+n:Nat):Int)-(a:Int))=(n:Int):=wi (by omega) (by omega)
 simp only [zbf.fn,zbf.c0,wr,i1]
 by_cases h8:8≤n
 ·have d1:decide ((n:Int)≥8)=true:=dT (by omega)
  obtain ⟨a1,a2,a3,a4⟩:=cell_al hw (.int .u64 0) T_slices_xorshift rfl
  obtain ⟨h2,s1,s2,s3⟩:=cell_st a2 a4.wf (w:=.int .u64 (n:Int)) rfl rfl
  have o2:Old h.next h h2:=a4.trans (s3.old (Nat.le_refl _))
  have hoff:notIn v h.next:=H.off hw (Nat.le_refl _)
  have H2:=H.old hw o2
  obtain ⟨q1,q2,q3,q4⟩:=lenTab_all n (by omega)
  have hM1:n<2 ^ blen n:=q3
  have hM2:2 ^ blen n≤2*n:=q4 (by omega)
  have p1:=pow2_spec (F:=F) (m:=m) (h:=h2) (n:=n) (by omega)
  generalize 2 ^ blen n=M at *
  have e4:((n:Int)).tdiv 4=((n / 4:Nat):Int):=by rw [Int.tdiv_eq_ediv_of_nonneg (by omega)];omega
  have i2:IntKind.wrap .i64 ((n / 4:Nat):Int)=((n / 4:Nat):Int):=wi rfl (by omega)
  have i3:IntKind.wrap .i64 (((n / 4:Nat):Int)*2)=((n / 4*2:Nat):Int):=wi (by omega) (by omega)
  have i4:IntKind.wrap .i64 ((a:Int)+((n / 4*2:Nat):Int))=((a+n / 4*2:Nat):Int):=wi (by omega) (by omega)
  have i5:IntKind.wrap .i64 (((a+n / 4*2:Nat):Int)-1)=((a+n / 4*2-1:Nat):Int):=wi (by omega) (by omega)
  have i6:IntKind.wrap .i64 (((a+n / 4*2:Nat):Int)+1)=((a+n / 4*2+1:Nat):Int):=wi (by omega) (by omega)
  simp only [d1,zbf.k1,zbf.c2,cond_true,a1,wr,u64_small (show n<18446744073709551616 by omega),s1,bS_some,cxC,p1,cI_some,e4,i2,i3,i4,i5]
  refine loop_rule (S:=zbf.P10) (out:=fun x=>∃ h' l',x=some (pack [],h')∧Has n0 v h' l'∧Old n0 h h'∧Re a (a+n) l l')
   (fun k s g=>∃ (x:Nat) (y:Int) (l1:List Row),x+k=a+n / 4*2+2∧a≤x∧s=(v,(a:Int),(n:Int),.ptr ⟨h.next,1,0⟩,(M:Int),(x:Int),())∧Cells g h.next T_slices_xorshift [.int .u64 y]∧Has n0 v g l1∧Old n0 h g∧Re a (a+n) l l1) ?_ ?_ 3 F _ _
   ⟨a+n / 4*2-1,(n:Int),l,by omega,by omega,rfl,s2,H2,o2.weak hn0,Re.refl _ _ _⟩ (by omega)
  ·rintro k s g n' ⟨x,y,l1,hk,hx,rfl,hc,H1,og,re⟩
   have hl1:=re.len
   obtain ⟨z,g1,t1,t2,t3,t4⟩:=next_spec (F:=F) (m:=m+2) og.wf hc
   obtain ⟨o,e1,e2⟩:=iand_lt (y:=z) (M:=M) (by omega) (by omega)
   have H3:=H1.beside t4 hoff
   have og1:Old n0 h g1:=og.trans (t4.old hn0)
   have d2:decide ((x:Int)≤((a+n / 4*2+1:Nat):Int))=true:=dT (by omega)
   have j1:IntKind.wrap .u64 ((M:Int)-1)=((M-1:Nat):Int):=by rw [wr_u64];omega
   have j2:IntKind.wrap .i64 (o:Int)=(o:Int):=wi rfl (by omega)
   have j3:IntKind.wrap .i64 ((x:Int)+1)=((x+1:Nat):Int):=wi (by omega) (by omega)
   have fin:∀ o':Nat,o'<n→∃ g2 l2,zbf.r10 (cx F (m+3)) (zbf.r6 (cx F (m+3)) n' zbf.ret zbf.ret) (zbf.r6 (cx F (m+3)) n' zbf.ret zbf.ret) zbf.ret zbf.ret (v,(a:Int),(n:Int),.ptr ⟨h.next,1,0⟩,(M:Int),(x:Int),(o':Int),()) g1=n' (v,(a:Int),(n:Int),.ptr ⟨h.next,1,0⟩,(M:Int),((x+1:Nat):Int),()) g2 ∧
     Cells g2 h.next T_slices_xorshift [.int .u64 z]∧Has n0 v g2 l2∧Old n0 h g2∧Re a (a+n) l l2:=by
    intro o' ho
    have j4:IntKind.wrap .i64 ((a:Int)+(o':Int))=((a+o':Nat):Int):=wi (by omega) (by omega)
    obtain ⟨p',q',f2,f3,w1,w2,w3,w4,w5,w6,w7,w8,w9⟩:=swap_keep H3 og1.wf (i:=a+o') (j:=x) (by omega) (by omega)
    have hc3:Cells f3 h.next T_slices_xorshift [.int .u64 z]:=t3.mono (w9 _ hoff)
    refine ⟨f3,_,?_,hc3,w7,og1.trans w8,re.trans (Re.swap (by omega) (by omega) (by omega) (by omega) (by omega) (by omega))⟩
    simp only [zbf.r10,zbf.c10,zbf.r6,zbf.c6,wr,j3,j4,w1,w2,w3,w4,w5,w6,bV_some,bA_some,bS_some]
   refine .inl ?_
   suffices hin:∃ g2 l2,zbf.l5 (cx F (m+3)) n' zbf.ret zbf.ret (v,(a:Int),(n:Int),.ptr ⟨h.next,1,0⟩,(M:Int),(x:Int),()) g=n' (v,(a:Int),(n:Int),.ptr ⟨h.next,1,0⟩,(M:Int),((x+1:Nat):Int),()) g2 ∧
     Cells g2 h.next T_slices_xorshift [.int .u64 z]∧Has n0 v g2 l2∧Old n0 h g2∧Re a (a+n) l l2 by
    obtain ⟨g2,l2,z1,z2,z3,z4,z5⟩:=hin
    exact ⟨_,g2,z1,x+1,z,l2,by omega,by omega,rfl,z2,z3,z4,z5⟩
   simp only [zbf.l5,zbf.c5,zbf.k5,wr,e4,i2,i3,i4,i6,d2,cond_true,zbf.r7,zbf.c7,cxC,t1,cI_some,j1,e1,j2,zbf.k7,zbf.c8]
   by_cases ho:o≥n
   ·have d3:decide ((o:Int)≥(n:Int))=true:=dT (by omega)
    have j4:IntKind.wrap .i64 ((o:Int)-(n:Int))=((o-n:Nat):Int):=wi (by omega) (by omega)
    simp only [d3,zbf.k8,zbf.c9,cond_true,wr,j4]
    exact fin (o-n) (by omega)
   ·have d3:decide ((o:Int)≥(n:Int))=false:=dF (by omega)
    simp only [d3,zbf.k8,cond_false]
    exact fin o (by omega)
  ·rintro s g n' ⟨x,y,l1,hk,hx,rfl,hc,H1,og,re⟩
   have d2:decide ((x:Int)≤((a+n / 4*2+1:Nat):Int))=false:=dF (by omega)
   refine ⟨g,l1,?_,H1,og,re⟩
   simp only [zbf.l5,zbf.c5,zbf.k5,wr,e4,i2,i3,i4,i6,d2,cond_false]
   rfl
 ·have d1:decide ((n:Int)≥8)=false:=dF (by omega)
  simp only [d1,zbf.k1,cond_false]
  exact ⟨h,l,rfl,H,Old.refl hw _,Re.refl _ _ _⟩
theorem rev_spec{F m n0:Nat}{v:V}{h:AH}{l:List Row}(H:Has n0 v h l)(hw:h.WF){a b:Nat}(hab:a<b)(hb:b≤l.length)(hlen:l.length≤4096)(hF:5000<F) :
  ∃ h' l',runC (EE F) (m+1) nzbr [v,.int .i64 (a:Int),.int .i64 (b:Int),cmpF] h=some (pack [],h')∧Has n0 v h' l'∧Old n0 h h'∧Re a b l l':=by
 rw [tzbr]
 have i1:IntKind.wrap .i64 ((b:Int)-1)=((b-1:Nat):Int):=wi (by omega) (by omega)
 simp only [zbr.fn,zbr.c0,wr,i1]
 refine loop_rule (S:=zbr.P4) (out:=fun x=>∃ h' l',x=some (pack [],h')∧Has n0 v h' l'∧Old n0 h h'∧Re a b l l')
  (fun k s g=>∃ (i j:Nat) (l1:List Row),j≤i+k∧a≤i∧i≤4096∧j<b∧s=(v,(i:Int),(j:Int),())∧Has n0 v g l1∧Old n0 h g∧Re a b l l1) ?_ ?_ b F _ _
  ⟨a,b-1,l,by omega,by omega,by omega,by omega,rfl,H,Old.refl hw _,Re.refl _ _ _⟩ (by omega)
 ·rintro k s g n' ⟨i,j,l1,hk,hi,hi2,hj,rfl,H1,og,re⟩
  have hl1:=re.len
  by_cases hij:i<j
  ·have c1:decide ((i:Int)<(j:Int))=true:=dT (by omega)
   have i3:IntKind.wrap .i64 ((i:Int)+1)=((i+1:Nat):Int):=wi (by omega) (by omega)
   have i4:IntKind.wrap .i64 ((j:Int)-1)=((j-1:Nat):Int):=wi (by omega) (by omega)
   obtain ⟨p',q',f2,f3,w1,w2,w3,w4,w5,w6,w7,w8⟩:=swap_word H1 og.wf (i:=j) (j:=i) (by omega) (by omega)
   refine .inl ⟨_,f3,?_,i+1,j-1,_,by omega,by omega,by omega,by omega,rfl,w7,og.trans w8,re.trans (Re.swap (by omega) (by omega) (by omega) (by omega) (by omega) (by omega))⟩
   simp only [zbr.l2,zbr.c2,zbr.k2,zbr.r3,zbr.c3,c1,cond_true,w1,w2,w3,w4,w5,w6,bV_some,bA_some,bS_some,wr,i3,i4]
  ·have c1:decide ((i:Int)<(j:Int))=false:=dF (by omega)
   refine .inr ⟨g,l1,?_,H1,og,re⟩
   simp only [zbr.l2,zbr.c2,zbr.k2,c1,cond_false]
   rfl
 ·rintro s g n' ⟨i,j,l1,hk,hi,hi2,hj,rfl,H1,og,re⟩
  have c1:decide ((i:Int)<(j:Int))=false:=dF (by omega)
  refine ⟨g,l1,?_,H1,og,re⟩
  simp only [zbr.l2,zbr.c2,zbr.k2,c1,cond_false]
  rfl
structure Sw (n0 bs:Nat) (v:V) (g:AH) (l:List Row):Prop where
 has:Has n0 v g l
 cell:∃ c:Int,Cells g bs T_int [.int .i64 c]
 off:notIn v bs
theorem Sw.old{n0 bs:Nat}{v:V}{g g':AH}{l:List Row}(S:Sw n0 bs v g l)(hw:g.WF)(o:Old g.next g g'):Sw n0 bs v g' l :=
 ⟨S.has.old hw o,let ⟨c,hc⟩:=S.cell;⟨c,hc.old hw o⟩,S.off⟩
theorem ex0(a b:V):absExtract (.tuple [a,b]) 0=some a:=rfl
theorem ex1(a b:V):absExtract (.tuple [a,b]) 1=some b:=rfl
theorem order2_spec{F m n0 bs:Nat}{v:V}{h:AH}{l:List Row}(S:Sw n0 bs v h l)(hw:h.WF)(hn:n0≤bs)(hb:bs<h.next){i j:Nat}(hi:i<l.length)(hj:j<l.length) :
  ∃ i' j' h',runC (EE F) (m+4) nzbm [v,.int .i64 (i:Int),.int .i64 (j:Int),.ptr ⟨bs,1,0⟩,cmpF] h=some (.tuple [.int .i64 ((i':Nat):Int),.int .i64 ((j':Nat):Int)],h')∧Sw n0 bs v h' l∧Old bs h h'∧((i'=i∧j'=j)∨(i'=j∧j'=i)):=by
 rw [tzbm]
 obtain ⟨p,q,f1,u1,u2,u3,u4,u5,u6,u7,u8⟩:=cmp_at (F:=F) (m:=m) S.has hw (by omega) (i:=j) (j:=i) hj hi
 have S1:=S.old hw u8
 simp only [zbm.fn,zbm.c0,zbm.k0,zbm.c1,u1,u2,bV_some,u3,bA_some,u4,u5,cI_some]
 by_cases hlt:Lt (rat l j) (rat l i)
 ·obtain ⟨c,hc⟩:=S1.cell
  obtain ⟨f2,s1,s2,s3⟩:=cell_st hc u8.wf (w:=.int .i64 (IntKind.wrap .i64 (c+1))) rfl rfl
  refine ⟨j,i,f2,?_,⟨S1.has.beside s3 S.off,⟨_,s2⟩,S.off⟩,(u8.weak (by omega)).trans (s3.old (Nat.le_refl _)),.inr ⟨rfl,rfl⟩⟩
  simp only [lt_true hlt,zbm.k1,zbm.c2,cond_true,nil_ptr,bV_some,cell_ld hc,bI_some,wr,s1,bS_some]
  rfl
 ·refine ⟨i,j,f1,?_,S1,u8.weak (by omega),.inl ⟨rfl,rfl⟩⟩
  simp only [lt_false hlt,zbm.k1,zbm.r4,zbm.c4,cond_false]
  rfl
theorem median_spec{F m n0 bs:Nat}{v:V}{h:AH}{l:List Row}(S:Sw n0 bs v h l)(hw:h.WF)(hn:n0≤bs)(hb:bs<h.next){i j k:Nat}(hi:i<l.length)(hj:j<l.length)(hk:k<l.length) :
  ∃ x h',runC (EE F) (m+5) nzbk [v,.int .i64 (i:Int),.int .i64 (j:Int),.int .i64 (k:Int),.ptr ⟨bs,1,0⟩,cmpF] h=some (.int .i64 ((x:Nat):Int),h')∧Sw n0 bs v h' l∧Old bs h h'∧(x=i∨x=j∨x=k):=by
 rw [tzbk]
 obtain ⟨a1,b1,h1,e1,S1,o1,q1⟩:=order2_spec (F:=F) (m:=m) S hw hn hb hi hj
 obtain ⟨a2,b2,h2,e2,S2,o2,q2⟩:=order2_spec (F:=F) (m:=m) S1 o1.wf hn (Nat.lt_of_lt_of_le hb o1.next) (i:=b1) (j:=k) (by omega) hk
 have o12:=o1.trans o2
 obtain ⟨a3,b3,h3,e3,S3,o3,q3⟩:=order2_spec (F:=F) (m:=m) S2 o2.wf hn (Nat.lt_of_lt_of_le hb o12.next) (i:=a1) (j:=a2) (by omega) (by omega)
 refine ⟨b3,h3,?_,S3,o12.trans o3,by omega⟩
 simp only [zbk.fn,zbk.c0,cxC,e1,cV_some,ex0,ex1,bI_some,e2,e3]
 rfl
theorem medAdj_spec{F m n0 bs:Nat}{v:V}{h:AH}{l:List Row}(S:Sw n0 bs v h l)(hw:h.WF)(hn:n0≤bs)(hb:bs<h.next){i:Nat}(h1i:1≤i)(hi:i+1<l.length)(hlen:l.length≤4096) :
  ∃ x h',runC (EE F) (m+6) nzbj [v,.int .i64 (i:Int),.ptr ⟨bs,1,0⟩,cmpF] h=some (.int .i64 ((x:Nat):Int),h')∧Sw n0 bs v h' l∧Old bs h h'∧(i-1≤x∧x≤i+1):=by
 rw [tzbj]
 obtain ⟨x,h1,e1,S1,o1,q1⟩:=median_spec (F:=F) (m:=m) S hw hn hb (i:=i-1) (j:=i) (k:=i+1) (by omega) (by omega) hi
 have i3:IntKind.wrap .i64 ((i:Int)+1)=((i+1:Nat):Int):=wi (by omega) (by omega)
 have i4:IntKind.wrap .i64 ((i:Int)-1)=((i-1:Nat):Int):=wi (by omega) (by omega)
 refine ⟨x,h1,?_,S1,o1,by omega⟩
 simp only [zbj.fn,zbj.c0,wr,i3,i4,cxC,e1,cI_some]
 rfl
theorem pivot_spec{F m n0:Nat}{v:V}{h:AH}{l:List Row}(H:Has n0 v h l)(hw:h.WF)(hn0:n0≤h.next){a b:Nat}(hab:a+8≤b)(hb:b≤l.length)(hlen:l.length≤4096) :
  ∃ (p:Nat) (hint:Int) (h':AH),runC (EE F) (m+7) nzbg [v,.int .i64 (a:Int),.int .i64 (b:Int),cmpF] h=some (.tuple [.int .i64 (p:Int),.int .i64 hint],h')∧a≤p∧p<b∧Has n0 v h' l∧Old n0 h h':=by
 rw [tzbg]
 obtain ⟨n,rfl⟩:∃ n,b=a+n:=⟨b-a,by omega⟩
 obtain ⟨a1,a2,a3,a4⟩:=cell_al hw (.int .i64 0) T_int rfl
 generalize hh1:(al [.int .i64 0] T_int h).2=h1 at *
 have S1:Sw n0 h.next v h1 l:=⟨H.old hw a4,⟨_,a2⟩,H.off hw (Nat.le_refl _)⟩
 have i1:IntKind.wrap .i64 (((a+n:Nat):Int)-(a:Int))=(n:Int):=wi (by omega) (by omega)
 have e4:((n:Int)).tdiv 4=((n / 4:Nat):Int):=by rw [Int.tdiv_eq_ediv_of_nonneg (by omega)];omega
 have i2:IntKind.wrap .i64 ((n / 4:Nat):Int)=((n / 4:Nat):Int):=wi rfl (by omega)
 have j1:IntKind.wrap .i64 (((n / 4:Nat):Int)*1)=((n / 4:Nat):Int):=wi (by omega) (by omega)
 have j2:IntKind.wrap .i64 (((n / 4:Nat):Int)*2)=((n / 4*2:Nat):Int):=wi (by omega) (by omega)
 have j3:IntKind.wrap .i64 (((n / 4:Nat):Int)*3)=((n / 4*3:Nat):Int):=wi (by omega) (by omega)
 have k1:IntKind.wrap .i64 ((a:Int)+((n / 4:Nat):Int))=((a+n / 4:Nat):Int):=wi (by omega) (by omega)
 have k2:IntKind.wrap .i64 ((a:Int)+((n / 4*2:Nat):Int))=((a+n / 4*2:Nat):Int):=wi (by omega) (by omega)
 have k3:IntKind.wrap .i64 ((a:Int)+((n / 4*3:Nat):Int))=((a+n / 4*3:Nat):Int):=wi (by omega) (by omega)
 have d1:decide ((n:Int)≥8)=true:=dT (by omega)
 simp only [zbg.fn,zbg.c0,zbg.k5,zbg.c6,a1,hh1,wr,i1,e4,i2,j1,j2,j3,k1,k2,k3,d1,zbg.k6,zbg.c7,cond_true]
 have fin:∀ (x y z:Nat) (g:AH),a≤x→x<a+n→a≤y→y<a+n→a≤z→z<a+n→Sw n0 h.next v g l→Old h.next h g→h.next<g.next →
   ∃ (p:Nat) (hint:Int) (h':AH),zbg.r11 (cx F (m+6)) (zbg.r12 (cx F (m+6)) zbg.ret zbg.ret) zbg.ret (v,cmpF,.ptr ⟨h.next,1,0⟩,(x:Int),(y:Int),(z:Int),()) g=some (.tuple [.int .i64 (p:Int),.int .i64 hint],h')∧a≤p∧p<a+n∧Has n0 v h' l∧Old n0 h h':=by
  intro x y z g h1 h2 h3 h4 h5 h6 S og hg
  obtain ⟨p,g1,e1,S2,o1,q1⟩:=median_spec (F:=F) (m:=m+1) S og.wf hn0 hg (i:=x) (j:=y) (k:=z) (by omega) (by omega) (by omega)
  obtain ⟨c,hc⟩:=S2.cell
  have og1:=(og.trans o1).weak hn0
  simp only [zbg.r11,zbg.c11,cxC,e1,cI_some,zbg.r12,zbg.c12,cell_ld hc,bI_some,zbg.k12,zbg.c14,zbg.k14]
  by_cases c0:(c==0)=true
  ·refine ⟨p,1,g1,?_,by omega,by omega,S2.has,og1⟩
   simp only [c0,cond_true,zbg.c15]
   rfl
  ·have c0':(c==0)=false:=by simpa using c0
   by_cases c12:(c==12)=true
   ·refine ⟨p,2,g1,?_,by omega,by omega,S2.has,og1⟩
    simp only [c0',cond_false,zbg.c16,zbg.k16,c12,cond_true,zbg.c17]
    rfl
   ·have c12':(c==12)=false:=by simpa using c12
    refine ⟨p,0,g1,?_,by omega,by omega,S2.has,og1⟩
    simp only [c0',cond_false,zbg.c16,zbg.k16,c12',zbg.c13]
    rfl
 by_cases h50:50≤n
 ·have d2:decide ((n:Int)≥50)=true:=dT (by omega)
  obtain ⟨x,g1,e1,S2,o1,q1⟩:=medAdj_spec (F:=F) (m:=m) S1 a4.wf hn0 (by omega) (i:=a+n / 4) (by omega) (by omega) hlen
  have o11:=a4.trans o1
  have hn1:h.next<g1.next:=by have:=o1.next;omega
  obtain ⟨y,g2,e2,S3,o2,q2⟩:=medAdj_spec (F:=F) (m:=m) S2 o1.wf hn0 hn1 (i:=a+n / 4*2) (by omega) (by omega) hlen
  have hn2:h.next<g2.next:=by have:=o2.next;omega
  obtain ⟨z,g3,e3,S4,o3,q3⟩:=medAdj_spec (F:=F) (m:=m) S3 o2.wf hn0 hn2 (i:=a+n / 4*3) (by omega) (by omega) hlen
  simp only [d2,zbg.k7,zbg.c8,cond_true,cxC,e1,e2,e3,cI_some]
  exact fin x y z g3 (by omega) (by omega) (by omega) (by omega) (by omega) (by omega) S4 ((o11.trans o2).trans o3) (by have:=o3.next;omega)
 ·have d2:decide ((n:Int)≥50)=false:=dF (by omega)
  simp only [d2,zbg.k7,cond_false]
  exact fin _ _ _ h1 (by omega) (by omega) (by omega) (by omega) (by omega) (by omega) S1 a4 (by omega)
end Go.Proofs.YtcmhoboglapbdaaDoor
namespace Go.Proofs.YtcmhoboglapbdaaDoor
open Go Ev
structure PI (l:List Row) (a b i j:Nat) (pv:Row) (L:Row→Prop):Prop where
 top:rat l a=pv
 lo:∀ k,a<k→k<i→L (rat l k)
 hi:∀ k,j<k→k<b→¬L (rat l k)
 b1:a+1≤i
 b2:i≤j+1
 b3:j<b
theorem PI.up{l:List Row}{a b i j:Nat}{pv:Row}{L:Row→Prop}(p:PI l a b i j pv L)(h:i≤j)(hL:L (rat l i)):PI l a b (i+1) j pv L :=
 ⟨p.top,fun k h1 h2=>by
  by_cases e:k=i
  ·rw [e];exact hL
  ·exact p.lo k h1 (by omega),p.hi,by have:=p.b1;omega,by omega,p.b3⟩
theorem PI.down{l:List Row}{a b i j:Nat}{pv:Row}{L:Row→Prop}(p:PI l a b i j pv L)(h:i≤j)(hL:¬L (rat l j)):PI l a b i (j-1) pv L :=
 ⟨p.top,p.lo,fun k h1 h2=>by
  by_cases e:k=j
  ·rw [e];exact hL
  ·exact p.hi k (by omega) h2,p.b1,by have:=p.b1;omega,by have:=p.b3;omega⟩
theorem PI.swap{l:List Row}{a b i j:Nat}{pv:Row}{L:Row→Prop}(p:PI l a b i j pv L)(hb:b≤l.length)(h:i<j)(h1:L (rat l j))(h2:¬L (rat l i)):PI (swapM l j i) a b (i+1) (j-1) pv L:=by
 have b1:=p.b1
 have b3:=p.b3
 have sw:=fun k=>rat_swap (l:=l) (i:=j) (j:=i) (by omega) (by omega) k
 refine ⟨?_,fun k q1 q2=>?_,fun k q1 q2=>?_,by omega,by omega,by omega⟩
 ·rw [sw,if_neg (by omega),if_neg (by omega)];exact p.top
 ·rw [sw,if_neg (by omega)]
  by_cases e:k=i
  ·rw [if_pos e];exact h1
  ·rw [if_neg e];exact p.lo k q1 (by omega)
 ·rw [sw]
  by_cases e:k=j
  ·rw [if_pos e];exact h2
  ·rw [if_neg e,if_neg (by omega)];exact p.hi k (by omega) q2
def PState(n0 a b:Nat)(v:V)(h:AH)(l:List Row)(pv:Row)(L:Row→Prop)(k:Nat)(s:V×Int×V×Int×Int×Unit)(g:AH):Prop :=
 ∃ (i j:Nat) (l1:List Row),j+1≤i+k∧s=(v,(a:Int),cmpF,(i:Int),(j:Int),())∧PI l1 a b i j pv L∧Has n0 v g l1∧Old n0 h g∧Re a b l l1
theorem part_up3{F m n0:Nat}{v:V}{out:Res→Prop}{JE:V×Int×V×Int×Int×Unit→AH→Res}{Jr:_}{h:AH}{l:List Row}{a b i j:Nat}{pv:Row}(H:Has n0 v h l)(hw:h.WF)(hn0:n0≤h.next)(hF:5000<F)(hb:b≤l.length)(hlen:l.length≤4096)(pi:PI l a b i j pv (fun r=>Lt r pv))
  (fin:∀ i1 h1,i≤i1→PI l a b i1 j pv (fun r=>Lt r pv)→(j<i1∨¬(fun r=>Lt r pv) (rat l i1))→Has n0 v h1 l→Old n0 h h1→out (JE (v,(a:Int),cmpF,((i1:Nat):Int),(j:Int),()) h1)) :
  out (loopN zbo.P6 F (fun t h n'=>zbo.l3 (cx F (m+3)) n' JE Jr t h) (v,(a:Int),cmpF,(i:Int),(j:Int),()) h):=by
 refine loop_rule (S:=zbo.P6) (out:=out) (fun k s g=>∃ i1:Nat,(j+1≤i1+k∧i≤i1)∧s=(v,(a:Int),cmpF,(i1:Int),(j:Int),())∧PI l a b i1 j pv (fun r=>Lt r pv)∧Has n0 v g l∧Old n0 h g) ?_ ?_ (j+1) F _ _ ⟨i,⟨by omega,Nat.le_refl _⟩,rfl,pi,H,Old.refl hw _⟩ (by have:=pi.b3;omega)
 ·rintro k s g n' ⟨i1,⟨hk,hmo⟩,rfl,p1,H1,og⟩
  have b1:=p1.b1
  have b2:=p1.b2
  have b3:=p1.b3
  by_cases hij:i1≤j
  ·have c1:decide ((i1:Int)≤(j:Int))=true:=dT (by omega)
   have i3:IntKind.wrap .i64 ((i1:Int)+1)=((i1+1:Nat):Int):=wi (by omega) (by omega)
   obtain ⟨p,q,f1,u1,u2,u3,u4,u5,u6,u7,u8⟩:=cmp_at (F:=F) (m:=m) H1 og.wf (Nat.le_trans hn0 og.next) (i:=i1) (j:=a) (by omega) (by omega)
   by_cases hL:Lt (rat l i1) (rat l a)
   ·refine .inl ⟨_,f1,?_,i1+1,⟨by omega,by omega⟩,rfl,p1.up hij (show (fun r=>Lt r pv) (rat l i1) by rw [← p1.top];exact hL),u6,og.trans u7⟩
    simp only [zbo.l3,zbo.c3,zbo.k3,zbo.r4,zbo.c4,c1,cond_true,u1,u2,bV_some,u3,bA_some,u4,u5,cI_some,lt_true hL,Bool.not_true,Bool.not_false,cond_true,cond_false,wr,i3]
   ·refine .inr ?_
    have hfin:=fin i1 f1 hmo p1 (.inr (show ¬(fun r=>Lt r pv) (rat l i1) by rw [← p1.top];exact hL)) u6 (og.trans u7)
    simp only [zbo.l3,zbo.c3,zbo.k3,c1,cond_true,u1,u2,bV_some,u3,bA_some,u4,u5,cI_some,lt_false hL,Bool.not_true,Bool.not_false,cond_true,cond_false]
    exact hfin
  ·refine .inr ?_
   have c1:decide ((i1:Int)≤(j:Int))=false:=dF (by omega)
   have hfin:=fin i1 g hmo p1 (.inl (by omega)) H1 og
   simp only [zbo.l3,zbo.c3,zbo.k3,c1,cond_false]
   exact hfin
 ·rintro s g n' ⟨i1,⟨hk,hmo⟩,rfl,p1,H1,og⟩
  have c1:decide ((i1:Int)≤(j:Int))=false:=dF (by omega)
  have hfin:=fin i1 g hmo p1 (.inl (by omega)) H1 og
  simp only [zbo.l3,zbo.c3,zbo.k3,c1,cond_false]
  exact hfin
theorem part_down5{F m n0:Nat}{v:V}{out:Res→Prop}{JE:V×Int×V×Int×Int×Unit→AH→Res}{Jr:_}{h:AH}{l:List Row}{a b i j:Nat}{pv:Row}(H:Has n0 v h l)(hw:h.WF)(hn0:n0≤h.next)(hF:5000<F)(hb:b≤l.length)(hlen:l.length≤4096)(pi:PI l a b i j pv (fun r=>Lt r pv))
  (fin:∀ j1 h1,j1≤j→PI l a b i j1 pv (fun r=>Lt r pv)→(j1<i∨(fun r=>Lt r pv) (rat l j1))→Has n0 v h1 l→Old n0 h h1→out (JE (v,(a:Int),cmpF,(i:Int),((j1:Nat):Int),()) h1)) :
  out (loopN zbo.P6 F (fun t h n'=>zbo.l5 (cx F (m+3)) n' JE Jr t h) (v,(a:Int),cmpF,(i:Int),(j:Int),()) h):=by
 refine loop_rule (S:=zbo.P6) (out:=out) (fun k s g=>∃ j1:Nat,(j1+1≤i+k∧j1≤j)∧s=(v,(a:Int),cmpF,(i:Int),(j1:Int),())∧PI l a b i j1 pv (fun r=>Lt r pv)∧Has n0 v g l∧Old n0 h g) ?_ ?_ (j+1) F _ _ ⟨j,⟨by omega,Nat.le_refl _⟩,rfl,pi,H,Old.refl hw _⟩ (by have:=pi.b3;omega)
 ·rintro k s g n' ⟨j1,⟨hk,hmo⟩,rfl,p1,H1,og⟩
  have b1:=p1.b1
  have b2:=p1.b2
  have b3:=p1.b3
  by_cases hij:i≤j1
  ·have c1:decide ((i:Int)≤(j1:Int))=true:=dT (by omega)
   have i3:IntKind.wrap .i64 ((j1:Int)-1)=((j1-1:Nat):Int):=wi (by omega) (by omega)
   obtain ⟨p,q,f1,u1,u2,u3,u4,u5,u6,u7,u8⟩:=cmp_at (F:=F) (m:=m) H1 og.wf (Nat.le_trans hn0 og.next) (i:=j1) (j:=a) (by omega) (by omega)
   by_cases hL:Lt (rat l j1) (rat l a)
   ·refine .inr ?_
    have hfin:=fin j1 f1 hmo p1 (.inr (show (fun r=>Lt r pv) (rat l j1) by rw [← p1.top];exact hL)) u6 (og.trans u7)
    simp only [zbo.l5,zbo.c5,zbo.k5,c1,cond_true,u1,u2,bV_some,u3,bA_some,u4,u5,cI_some,lt_true hL,Bool.not_true,Bool.not_false,cond_true,cond_false]
    exact hfin
   ·refine .inl ⟨_,f1,?_,j1-1,⟨by omega,by omega⟩,rfl,p1.down hij (show ¬(fun r=>Lt r pv) (rat l j1) by rw [← p1.top];exact hL),u6,og.trans u7⟩
    simp only [zbo.l5,zbo.c5,zbo.k5,zbo.r6,zbo.c6,c1,cond_true,u1,u2,bV_some,u3,bA_some,u4,u5,cI_some,lt_false hL,Bool.not_true,Bool.not_false,cond_true,cond_false,wr,i3]
  ·refine .inr ?_
   have c1:decide ((i:Int)≤(j1:Int))=false:=dF (by omega)
   have hfin:=fin j1 g hmo p1 (.inl (by omega)) H1 og
   simp only [zbo.l5,zbo.c5,zbo.k5,c1,cond_false]
   exact hfin
 ·rintro s g n' ⟨j1,⟨hk,hmo⟩,rfl,p1,H1,og⟩
  have c1:decide ((i:Int)≤(j1:Int))=false:=dF (by omega)
  have hfin:=fin j1 g hmo p1 (.inl (by omega)) H1 og
  simp only [zbo.l5,zbo.c5,zbo.k5,c1,cond_false]
  exact hfin
theorem part_up13{F m n0:Nat}{v:V}{out:Res→Prop}{JE:V×Int×V×Int×Int×Unit→AH→Res}{J5:_}{J4:_}{Jr:_}{h:AH}{l:List Row}{a b i j:Nat}{pv:Row}(H:Has n0 v h l)(hw:h.WF)(hn0:n0≤h.next)(hF:5000<F)(hb:b≤l.length)(hlen:l.length≤4096)(pi:PI l a b i j pv (fun r=>Lt r pv))
  (fin:∀ i1 h1,i≤i1→PI l a b i1 j pv (fun r=>Lt r pv)→(j<i1∨¬(fun r=>Lt r pv) (rat l i1))→Has n0 v h1 l→Old n0 h h1→out (JE (v,(a:Int),cmpF,((i1:Nat):Int),(j:Int),()) h1)) :
  out (loopN zbo.P6 F (fun t h n'=>zbo.l13 (cx F (m+3)) n' JE J5 J4 Jr t h) (v,(a:Int),cmpF,(i:Int),(j:Int),()) h):=by
 refine loop_rule (S:=zbo.P6) (out:=out) (fun k s g=>∃ i1:Nat,(j+1≤i1+k∧i≤i1)∧s=(v,(a:Int),cmpF,(i1:Int),(j:Int),())∧PI l a b i1 j pv (fun r=>Lt r pv)∧Has n0 v g l∧Old n0 h g) ?_ ?_ (j+1) F _ _ ⟨i,⟨by omega,Nat.le_refl _⟩,rfl,pi,H,Old.refl hw _⟩ (by have:=pi.b3;omega)
 ·rintro k s g n' ⟨i1,⟨hk,hmo⟩,rfl,p1,H1,og⟩
  have b1:=p1.b1
  have b2:=p1.b2
  have b3:=p1.b3
  by_cases hij:i1≤j
  ·have c1:decide ((i1:Int)≤(j:Int))=true:=dT (by omega)
   have i3:IntKind.wrap .i64 ((i1:Int)+1)=((i1+1:Nat):Int):=wi (by omega) (by omega)
   obtain ⟨p,q,f1,u1,u2,u3,u4,u5,u6,u7,u8⟩:=cmp_at (F:=F) (m:=m) H1 og.wf (Nat.le_trans hn0 og.next) (i:=i1) (j:=a) (by omega) (by omega)
   by_cases hL:Lt (rat l i1) (rat l a)
   ·refine .inl ⟨_,f1,?_,i1+1,⟨by omega,by omega⟩,rfl,p1.up hij (show (fun r=>Lt r pv) (rat l i1) by rw [← p1.top];exact hL),u6,og.trans u7⟩
    simp only [zbo.l13,zbo.c13,zbo.k13,zbo.r14,zbo.c14,c1,cond_true,u1,u2,bV_some,u3,bA_some,u4,u5,cI_some,lt_true hL,Bool.not_true,Bool.not_false,cond_true,cond_false,wr,i3]
   ·refine .inr ?_
    have hfin:=fin i1 f1 hmo p1 (.inr (show ¬(fun r=>Lt r pv) (rat l i1) by rw [← p1.top];exact hL)) u6 (og.trans u7)
    simp only [zbo.l13,zbo.c13,zbo.k13,c1,cond_true,u1,u2,bV_some,u3,bA_some,u4,u5,cI_some,lt_false hL,Bool.not_true,Bool.not_false,cond_true,cond_false]
    exact hfin
  ·refine .inr ?_
   have c1:decide ((i1:Int)≤(j:Int))=false:=dF (by omega)
   have hfin:=fin i1 g hmo p1 (.inl (by omega)) H1 og
   simp only [zbo.l13,zbo.c13,zbo.k13,c1,cond_false]
   exact hfin
 ·rintro s g n' ⟨i1,⟨hk,hmo⟩,rfl,p1,H1,og⟩
  have c1:decide ((i1:Int)≤(j:Int))=false:=dF (by omega)
  have hfin:=fin i1 g hmo p1 (.inl (by omega)) H1 og
  simp only [zbo.l13,zbo.c13,zbo.k13,c1,cond_false]
  exact hfin
theorem part_down15{F m n0:Nat}{v:V}{out:Res→Prop}{JE:V×Int×V×Int×Int×Unit→AH→Res}{J5:_}{J4:_}{Jr:_}{h:AH}{l:List Row}{a b i j:Nat}{pv:Row}(H:Has n0 v h l)(hw:h.WF)(hn0:n0≤h.next)(hF:5000<F)(hb:b≤l.length)(hlen:l.length≤4096)(pi:PI l a b i j pv (fun r=>Lt r pv))
  (fin:∀ j1 h1,j1≤j→PI l a b i j1 pv (fun r=>Lt r pv)→(j1<i∨(fun r=>Lt r pv) (rat l j1))→Has n0 v h1 l→Old n0 h h1→out (JE (v,(a:Int),cmpF,(i:Int),((j1:Nat):Int),()) h1)) :
  out (loopN zbo.P6 F (fun t h n'=>zbo.l15 (cx F (m+3)) n' JE J5 J4 Jr t h) (v,(a:Int),cmpF,(i:Int),(j:Int),()) h):=by
 refine loop_rule (S:=zbo.P6) (out:=out) (fun k s g=>∃ j1:Nat,(j1+1≤i+k∧j1≤j)∧s=(v,(a:Int),cmpF,(i:Int),(j1:Int),())∧PI l a b i j1 pv (fun r=>Lt r pv)∧Has n0 v g l∧Old n0 h g) ?_ ?_ (j+1) F _ _ ⟨j,⟨by omega,Nat.le_refl _⟩,rfl,pi,H,Old.refl hw _⟩ (by have:=pi.b3;omega)
 ·rintro k s g n' ⟨j1,⟨hk,hmo⟩,rfl,p1,H1,og⟩
  have b1:=p1.b1
  have b2:=p1.b2
  have b3:=p1.b3
  by_cases hij:i≤j1
  ·have c1:decide ((i:Int)≤(j1:Int))=true:=dT (by omega)
   have i3:IntKind.wrap .i64 ((j1:Int)-1)=((j1-1:Nat):Int):=wi (by omega) (by omega)
   obtain ⟨p,q,f1,u1,u2,u3,u4,u5,u6,u7,u8⟩:=cmp_at (F:=F) (m:=m) H1 og.wf (Nat.le_trans hn0 og.next) (i:=j1) (j:=a) (by omega) (by omega)
   by_cases hL:Lt (rat l j1) (rat l a)
   ·refine .inr ?_
    have hfin:=fin j1 f1 hmo p1 (.inr (show (fun r=>Lt r pv) (rat l j1) by rw [← p1.top];exact hL)) u6 (og.trans u7)
    simp only [zbo.l15,zbo.c15,zbo.k15,c1,cond_true,u1,u2,bV_some,u3,bA_some,u4,u5,cI_some,lt_true hL,Bool.not_true,Bool.not_false,cond_true,cond_false]
    exact hfin
   ·refine .inl ⟨_,f1,?_,j1-1,⟨by omega,by omega⟩,rfl,p1.down hij (show ¬(fun r=>Lt r pv) (rat l j1) by rw [← p1.top];exact hL),u6,og.trans u7⟩
    simp only [zbo.l15,zbo.c15,zbo.k15,zbo.r16,zbo.c16,c1,cond_true,u1,u2,bV_some,u3,bA_some,u4,u5,cI_some,lt_false hL,Bool.not_true,Bool.not_false,cond_true,cond_false,wr,i3]
  ·refine .inr ?_
   have c1:decide ((i:Int)≤(j1:Int))=false:=dF (by omega)
   have hfin:=fin j1 g hmo p1 (.inl (by omega)) H1 og
   simp only [zbo.l15,zbo.c15,zbo.k15,c1,cond_false]
   exact hfin
 ·rintro s g n' ⟨j1,⟨hk,hmo⟩,rfl,p1,H1,og⟩
  have c1:decide ((i:Int)≤(j1:Int))=false:=dF (by omega)
  have hfin:=fin j1 g hmo p1 (.inl (by omega)) H1 og
  simp only [zbo.l15,zbo.c15,zbo.k15,c1,cond_false]
  exact hfin
theorem eq_up3{F m n0:Nat}{v:V}{out:Res→Prop}{JE:V×Int×V×Int×Int×Unit→AH→Res}{J1:_}{J0:_}{Jr:_}{h:AH}{l:List Row}{a b i j:Nat}{pv:Row}(H:Has n0 v h l)(hw:h.WF)(hn0:n0≤h.next)(hF:5000<F)(hb:b≤l.length)(hlen:l.length≤4096)(pi:PI l a b i j pv (fun r=>¬Lt pv r))
  (fin:∀ i1 h1,i≤i1→PI l a b i1 j pv (fun r=>¬Lt pv r)→(j<i1∨¬(fun r=>¬Lt pv r) (rat l i1))→Has n0 v h1 l→Old n0 h h1→out (JE (v,(a:Int),cmpF,((i1:Nat):Int),(j:Int),()) h1)) :
  out (loopN zbp.P6 F (fun t h n'=>zbp.l3 (cx F (m+3)) n' JE J1 J0 Jr t h) (v,(a:Int),cmpF,(i:Int),(j:Int),()) h):=by
 refine loop_rule (S:=zbp.P6) (out:=out) (fun k s g=>∃ i1:Nat,(j+1≤i1+k∧i≤i1)∧s=(v,(a:Int),cmpF,(i1:Int),(j:Int),())∧PI l a b i1 j pv (fun r=>¬Lt pv r)∧Has n0 v g l∧Old n0 h g) ?_ ?_ (j+1) F _ _ ⟨i,⟨by omega,Nat.le_refl _⟩,rfl,pi,H,Old.refl hw _⟩ (by have:=pi.b3;omega)
 ·rintro k s g n' ⟨i1,⟨hk,hmo⟩,rfl,p1,H1,og⟩
  have b1:=p1.b1
  have b2:=p1.b2
  have b3:=p1.b3
  by_cases hij:i1≤j
  ·have c1:decide ((i1:Int)≤(j:Int))=true:=dT (by omega)
   have i3:IntKind.wrap .i64 ((i1:Int)+1)=((i1+1:Nat):Int):=wi (by omega) (by omega)
   obtain ⟨p,q,f1,u1,u2,u3,u4,u5,u6,u7,u8⟩:=cmp_at (F:=F) (m:=m) H1 og.wf (Nat.le_trans hn0 og.next) (i:=a) (j:=i1) (by omega) (by omega)
   by_cases hL:Lt (rat l a) (rat l i1)
   ·refine .inr ?_
    have hfin:=fin i1 f1 hmo p1 (.inr (show ¬(fun r=>¬Lt pv r) (rat l i1) by rw [← p1.top];exact fun hh=>hh hL)) u6 (og.trans u7)
    simp only [zbp.l3,zbp.c3,zbp.k3,c1,cond_true,u1,u2,bV_some,u3,bA_some,u4,u5,cI_some,lt_true hL,Bool.not_true,Bool.not_false,cond_true,cond_false]
    exact hfin
   ·refine .inl ⟨_,f1,?_,i1+1,⟨by omega,by omega⟩,rfl,p1.up hij (show (fun r=>¬Lt pv r) (rat l i1) by rw [← p1.top];exact hL),u6,og.trans u7⟩
    simp only [zbp.l3,zbp.c3,zbp.k3,zbp.r4,zbp.c4,c1,cond_true,u1,u2,bV_some,u3,bA_some,u4,u5,cI_some,lt_false hL,Bool.not_true,Bool.not_false,cond_true,cond_false,wr,i3]
  ·refine .inr ?_
   have c1:decide ((i1:Int)≤(j:Int))=false:=dF (by omega)
   have hfin:=fin i1 g hmo p1 (.inl (by omega)) H1 og
   simp only [zbp.l3,zbp.c3,zbp.k3,c1,cond_false]
   exact hfin
 ·rintro s g n' ⟨i1,⟨hk,hmo⟩,rfl,p1,H1,og⟩
  have c1:decide ((i1:Int)≤(j:Int))=false:=dF (by omega)
  have hfin:=fin i1 g hmo p1 (.inl (by omega)) H1 og
  simp only [zbp.l3,zbp.c3,zbp.k3,c1,cond_false]
  exact hfin
theorem eq_down5{F m n0:Nat}{v:V}{out:Res→Prop}{JE:V×Int×V×Int×Int×Unit→AH→Res}{J1:_}{J0:_}{Jr:_}{h:AH}{l:List Row}{a b i j:Nat}{pv:Row}(H:Has n0 v h l)(hw:h.WF)(hn0:n0≤h.next)(hF:5000<F)(hb:b≤l.length)(hlen:l.length≤4096)(pi:PI l a b i j pv (fun r=>¬Lt pv r))
  (fin:∀ j1 h1,j1≤j→PI l a b i j1 pv (fun r=>¬Lt pv r)→(j1<i∨(fun r=>¬Lt pv r) (rat l j1))→Has n0 v h1 l→Old n0 h h1→out (JE (v,(a:Int),cmpF,(i:Int),((j1:Nat):Int),()) h1)) :
  out (loopN zbp.P6 F (fun t h n'=>zbp.l5 (cx F (m+3)) n' JE J1 J0 Jr t h) (v,(a:Int),cmpF,(i:Int),(j:Int),()) h):=by
 refine loop_rule (S:=zbp.P6) (out:=out) (fun k s g=>∃ j1:Nat,(j1+1≤i+k∧j1≤j)∧s=(v,(a:Int),cmpF,(i:Int),(j1:Int),())∧PI l a b i j1 pv (fun r=>¬Lt pv r)∧Has n0 v g l∧Old n0 h g) ?_ ?_ (j+1) F _ _ ⟨j,⟨by omega,Nat.le_refl _⟩,rfl,pi,H,Old.refl hw _⟩ (by have:=pi.b3;omega)
 ·rintro k s g n' ⟨j1,⟨hk,hmo⟩,rfl,p1,H1,og⟩
  have b1:=p1.b1
  have b2:=p1.b2
  have b3:=p1.b3
  by_cases hij:i≤j1
  ·have c1:decide ((i:Int)≤(j1:Int))=true:=dT (by omega)
   have i3:IntKind.wrap .i64 ((j1:Int)-1)=((j1-1:Nat):Int):=wi (by omega) (by omega)
   obtain ⟨p,q,f1,u1,u2,u3,u4,u5,u6,u7,u8⟩:=cmp_at (F:=F) (m:=m) H1 og.wf (Nat.le_trans hn0 og.next) (i:=a) (j:=j1) (by omega) (by omega)
   by_cases hL:Lt (rat l a) (rat l j1)
   ·refine .inl ⟨_,f1,?_,j1-1,⟨by omega,by omega⟩,rfl,p1.down hij (show ¬(fun r=>¬Lt pv r) (rat l j1) by rw [← p1.top];exact fun hh=>hh hL),u6,og.trans u7⟩
    simp only [zbp.l5,zbp.c5,zbp.k5,zbp.r6,zbp.c6,c1,cond_true,u1,u2,bV_some,u3,bA_some,u4,u5,cI_some,lt_true hL,Bool.not_true,Bool.not_false,cond_true,cond_false,wr,i3]
   ·refine .inr ?_
    have hfin:=fin j1 f1 hmo p1 (.inr (show (fun r=>¬Lt pv r) (rat l j1) by rw [← p1.top];exact hL)) u6 (og.trans u7)
    simp only [zbp.l5,zbp.c5,zbp.k5,c1,cond_true,u1,u2,bV_some,u3,bA_some,u4,u5,cI_some,lt_false hL,Bool.not_true,Bool.not_false,cond_true,cond_false]
    exact hfin
  ·refine .inr ?_
   have c1:decide ((i:Int)≤(j1:Int))=false:=dF (by omega)
   have hfin:=fin j1 g hmo p1 (.inl (by omega)) H1 og
   simp only [zbp.l5,zbp.c5,zbp.k5,c1,cond_false]
   exact hfin
 ·rintro s g n' ⟨j1,⟨hk,hmo⟩,rfl,p1,H1,og⟩
  have c1:decide ((i:Int)≤(j1:Int))=false:=dF (by omega)
  have hfin:=fin j1 g hmo p1 (.inl (by omega)) H1 og
  simp only [zbp.l5,zbp.c5,zbp.k5,c1,cond_false]
  exact hfin
theorem PI.part{l:List Row}{a b i j:Nat}{pv:Row}(p:PI l a b i j pv (fun r=>Lt r pv))(hb:b≤l.length)(h:j<i) :
  rat (swapM l a j) j=pv∧(∀ k,a≤k→k<j→Lt (rat (swapM l a j) k) pv)∧∀ k,j<k→k<b→¬Lt (rat (swapM l a j) k) pv:=by
 have b1:=p.b1
 have b2:=p.b2
 have b3:=p.b3
 have sw:=fun k=>rat_swap (l:=l) (i:=a) (j:=j) (by omega) (by omega) k
 refine ⟨?_,fun k q1 q2=>?_,fun k q1 q2=>?_⟩
 ·rw [sw]
  by_cases e:j=a
  ·rw [if_pos e,e];exact p.top
  ·rw [if_neg e,if_pos rfl];exact p.top
 ·rw [sw]
  by_cases e:k=a
  ·rw [if_pos e];exact p.lo j (by omega) (by omega)
  ·rw [if_neg e,if_neg (by omega)];exact p.lo k (by omega) (by omega)
 ·rw [sw,if_neg (by omega),if_neg (by omega)];exact p.hi k (by omega) q2
theorem pi_start{l:List Row}{a b p:Nat}(L:Row→Prop)(hb:b≤l.length)(h1:a≤p)(h2:p<b):PI (swapM l p a) a b (a+1) (b-1) (rat l p) L:=by
 refine ⟨?_,fun k q1 q2=>by omega,fun k q1 q2=>by omega,Nat.le_refl _,by omega,by omega⟩
 rw [rat_swap (by omega) (by omega)]
 by_cases e:a=p
 ·rw [if_pos e,e]
 ·rw [if_neg e,if_pos rfl]
theorem part_spec{F m n0:Nat}{v:V}{h:AH}{l:List Row}(H:Has n0 v h l)(hw:h.WF)(hn0:n0≤h.next){a b p:Nat}(h1:a≤p)(h2:p<b)(hb:b≤l.length)(hlen:l.length≤4096)(hF:5000<F) :
  ∃ (mid:Nat) (fl:Bool) (h':AH) (l':List Row),runC (EE F) (m+4) nzbo [v,.int .i64 (a:Int),.int .i64 (b:Int),.int .i64 (p:Int),cmpF] h=some (.tuple [.int .i64 (mid:Int),.bool fl],h')∧Has n0 v h' l'∧Old n0 h h'∧Re a b l l' ∧
   a≤mid∧mid<b∧rat l' mid=rat l p∧(∀ k,a≤k→k<mid→Lt (rat l' k) (rat l p))∧∀ k,mid<k→k<b→¬Lt (rat l' k) (rat l p):=by
 rw [tzbo]
 have i1:IntKind.wrap .i64 ((a:Int)+1)=((a+1:Nat):Int):=wi (by omega) (by omega)
 have i2:IntKind.wrap .i64 ((b:Int)-1)=((b-1:Nat):Int):=wi (by omega) (by omega)
 obtain ⟨x1,x2,g1,g2,w1,w2,w3,w4,w5,w6,H2,o2⟩:=swap_word H hw (i:=p) (j:=a) (by omega) (by omega)
 have re2:Re a b l (swapM l p a):=Re.swap (by omega) (by omega) h1 h2 (Nat.le_refl _) (by omega)
 have p2:=pi_start (fun r=>Lt r (rat l p)) hb h1 h2
 have len2:(swapM l p a).length=l.length:=swapM_len _ _ _
 simp only [zbo.fn,zbo.c0,w1,w2,w3,w4,w5,w6,bV_some,bA_some,bS_some,wr,i1,i2]
 generalize hpv:rat l p=pv at *
 generalize hl2:swapM l p a=l2 at *
 refine part_up3 (out:=fun x=>∃ (mid:Nat) (fl:Bool) (h':AH) (l':List Row),x=some (.tuple [.int .i64 (mid:Int),.bool fl],h')∧Has n0 v h' l'∧Old n0 h h'∧Re a b l l' ∧
   a≤mid∧mid<b∧rat l' mid=pv∧(∀ k,a≤k→k<mid→Lt (rat l' k) pv)∧∀ k,mid<k→k<b→¬Lt (rat l' k) pv) H2 o2.wf (Nat.le_trans hn0 o2.next) hF (by omega) (by omega) p2 (fun i h3 m3 p3 q3 H3 o3=>?_)
 have o23:=o2.trans o3
 refine part_down5 (out:=fun x=>∃ (mid:Nat) (fl:Bool) (h':AH) (l':List Row),x=some (.tuple [.int .i64 (mid:Int),.bool fl],h')∧Has n0 v h' l'∧Old n0 h h'∧Re a b l l' ∧
   a≤mid∧mid<b∧rat l' mid=pv∧(∀ k,a≤k→k<mid→Lt (rat l' k) pv)∧∀ k,mid<k→k<b→¬Lt (rat l' k) pv) H3 o23.wf (Nat.le_trans hn0 o23.next) hF (by omega) (by omega) p3 (fun j h4 m4 p4 q4 H4 o4=>?_)
 have o24:=o23.trans o4
 have b1:=p4.b1
 have b2:=p4.b2
 have b3:=p4.b3
 have last:∀ (i j:Nat) (g:AH) (l3:List Row),PI l3 a b i j pv (fun r=>Lt r pv)→j<i→Has n0 v g l3→Old n0 h g→Re a b l l3→∃ x1 x2 g1 g2,ixS 34 v (a:Int)=some (.ptr x1)∧ixS 34 v (j:Int)=some (.ptr x2)∧ldA 34 (.ptr x1) g=some (.agg (rowL (rat l3 a)))∧ldA 34 (.ptr x2) g=some (.agg (rowL (rat l3 j))) ∧
   st 34 (.ptr x2) (.agg (rowL (rat l3 a))) g=some g1∧st 34 (.ptr x1) (.agg (rowL (rat l3 j))) g1=some g2∧∃ l',Has n0 v g2 l'∧Old n0 h g2∧Re a b l l' ∧
   a≤j∧j<b∧rat l' j=pv∧(∀ k,a≤k→k<j→Lt (rat l' k) pv)∧∀ k,j<k→k<b→¬Lt (rat l' k) pv:=by
  intro i j g l3 p3 hji H3 o3 re3
  have b1:=p3.b1
  have b2:=p3.b2
  have b3:=p3.b3
  have hl3:=re3.len
  obtain ⟨x1,x2,g1,g2,w1,w2,w3,w4,w5,w6,H5,o5⟩:=swap_word H3 o3.wf (i:=a) (j:=j) (by omega) (by omega)
  obtain ⟨q1,q2,q3⟩:=p3.part (by omega) hji
  exact ⟨x1,x2,g1,g2,w1,w2,w3,w4,w5,w6,_,H5,o3.trans o5,re3.trans (Re.swap (by omega) (by omega) (by omega) (by omega) (by omega) (by omega)),by omega,by omega,q1,q2,q3⟩
 by_cases hij:j<i
 ·obtain ⟨x1,x2,g1,g2,w1,w2,w3,w4,w5,w6,l',H5,z⟩:=last i j h4 l2 p4 hij H4 o24 re2
  have c1:decide ((i:Int)>(j:Int))=true:=dT (by omega)
  refine ⟨j,true,g2,l',?_,H5,z⟩
  simp only [zbo.r7,zbo.c7,zbo.k7,zbo.c8,c1,cond_true,w1,w2,w3,w4,w5,w6,bV_some,bA_some,bS_some]
  rfl
 ·have c1:decide ((i:Int)>(j:Int))=false:=dF (by omega)
  have hLj:Lt (rat l2 j) pv:=q4.resolve_left hij
  have hLi:¬Lt (rat l2 i) pv:=q3.resolve_left (by omega)
  have hne:i≠j:=fun e=>hLi (e▸hLj)
  have j1:IntKind.wrap .i64 ((i:Int)+1)=((i+1:Nat):Int):=wi (by omega) (by omega)
  have j2:IntKind.wrap .i64 ((j:Int)-1)=((j-1:Nat):Int):=wi (by omega) (by omega)
  obtain ⟨x1,x2,g1,g2,w1,w2,w3,w4,w5,w6,H5,o5⟩:=swap_word H4 o24.wf (i:=j) (j:=i) (by omega) (by omega)
  have p5:=p4.swap (by omega) (by omega) hLj hLi
  have re5:Re a b l (swapM l2 j i):=re2.trans (Re.swap (by omega) (by omega) (by omega) (by omega) (by omega) (by omega))
  simp only [zbo.r7,zbo.c7,zbo.k7,zbo.r10,zbo.c10,c1,cond_false,w1,w2,w3,w4,w5,w6,bV_some,bA_some,bS_some,wr,j1,j2]
  refine loop_rule (S:=zbo.P6) (out:=fun x=>∃ (mid:Nat) (fl:Bool) (h':AH) (l':List Row),x=some (.tuple [.int .i64 (mid:Int),.bool fl],h')∧Has n0 v h' l'∧Old n0 h h'∧Re a b l l' ∧
   a≤mid∧mid<b∧rat l' mid=pv∧(∀ k,a≤k→k<mid→Lt (rat l' k) pv)∧∀ k,mid<k→k<b→¬Lt (rat l' k) pv)
   (PState n0 a b v h l pv (fun r=>Lt r pv)) ?_ ?_ b F _ _ ⟨i+1,j-1,_,by omega,rfl,p5,H5,o24.trans o5,re5⟩ (by omega)
  ·rintro k s g n' ⟨i,j,l3,hk,rfl,p6,H6,o6,re6⟩
   have hl3:=re6.len
   refine part_up13 (J5:=n') (out:=fun x=>(∃ s' h',x=n' s' h'∧PState n0 a b v h l pv (fun r=>Lt r pv) k s' h')∨∃ (mid:Nat) (fl:Bool) (h':AH) (l':List Row),x=some (.tuple [.int .i64 (mid:Int),.bool fl],h')∧Has n0 v h' l'∧Old n0 h h'∧Re a b l l' ∧
   a≤mid∧mid<b∧rat l' mid=pv∧(∀ k,a≤k→k<mid→Lt (rat l' k) pv)∧∀ k,mid<k→k<b→¬Lt (rat l' k) pv) H6 o6.wf (Nat.le_trans hn0 o6.next) hF (by omega) (by omega) p6 (fun i7 h7 m7 p7 q7 H7 o7=>?_)
   have o67:=o6.trans o7
   refine part_down15 (J5:=n') (out:=fun x=>(∃ s' h',x=n' s' h'∧PState n0 a b v h l pv (fun r=>Lt r pv) k s' h')∨∃ (mid:Nat) (fl:Bool) (h':AH) (l':List Row),x=some (.tuple [.int .i64 (mid:Int),.bool fl],h')∧Has n0 v h' l'∧Old n0 h h'∧Re a b l l' ∧
   a≤mid∧mid<b∧rat l' mid=pv∧(∀ k,a≤k→k<mid→Lt (rat l' k) pv)∧∀ k,mid<k→k<b→¬Lt (rat l' k) pv) H7 o67.wf (Nat.le_trans hn0 o67.next) hF (by omega) (by omega) p7 (fun j8 h8 m8 p8 q8 H8 o8=>?_)
   have o68:=o67.trans o8
   have b1:=p8.b1
   have b2:=p8.b2
   have b3:=p8.b3
   have b4:=p7.b3
   have b5:=p6.b1
   by_cases hij:j8<i7
   ·obtain ⟨x1,x2,g1,g2,w1,w2,w3,w4,w5,w6,l',H5,z⟩:=last i7 j8 h8 l3 p8 hij H8 o68 re6
    have c1:decide ((i7:Int)>(j8:Int))=true:=dT (by omega)
    refine .inr ⟨j8,false,g2,l',?_,H5,z⟩
    simp only [zbo.r17,zbo.c17,zbo.k17,zbo.r21,zbo.c21,c1,cond_true,w1,w2,w3,w4,w5,w6,bV_some,bA_some,bS_some]
    rfl
   ·have c1:decide ((i7:Int)>(j8:Int))=false:=dF (by omega)
    have hLj:Lt (rat l3 j8) pv:=q8.resolve_left hij
    have hLi:¬Lt (rat l3 i7) pv:=q7.resolve_left (by omega)
    have hne:i7≠j8:=fun e=>hLi (e▸hLj)
    have j1:IntKind.wrap .i64 ((i7:Int)+1)=((i7+1:Nat):Int):=wi (by omega) (by omega)
    have j2:IntKind.wrap .i64 ((j8:Int)-1)=((j8-1:Nat):Int):=wi (by omega) (by omega)
    obtain ⟨x1,x2,g1,g2,w1,w2,w3,w4,w5,w6,H9,o9⟩:=swap_word H8 o68.wf (i:=j8) (j:=i7) (by omega) (by omega)
    refine .inl ⟨_,g2,?_,i7+1,j8-1,_,by omega,rfl,p8.swap (by omega) (by omega) hLj hLi,H9,o68.trans o9,re6.trans (Re.swap (by omega) (by omega) (by omega) (by omega) (by omega) (by omega))⟩
    simp only [zbo.r17,zbo.c17,zbo.k17,zbo.r18,zbo.c18,c1,cond_false,w1,w2,w3,w4,w5,w6,bV_some,bA_some,bS_some,wr,j1,j2]
  ·rintro s g n' ⟨i,j,l3,hk,rfl,p6,H6,o6,re6⟩
   have hl3:=re6.len
   refine part_up13 (J5:=n') (out:=fun x=>∃ (mid:Nat) (fl:Bool) (h':AH) (l':List Row),x=some (.tuple [.int .i64 (mid:Int),.bool fl],h')∧Has n0 v h' l'∧Old n0 h h'∧Re a b l l' ∧
   a≤mid∧mid<b∧rat l' mid=pv∧(∀ k,a≤k→k<mid→Lt (rat l' k) pv)∧∀ k,mid<k→k<b→¬Lt (rat l' k) pv) H6 o6.wf (Nat.le_trans hn0 o6.next) hF (by omega) (by omega) p6 (fun i7 h7 m7 p7 q7 H7 o7=>?_)
   have o67:=o6.trans o7
   refine part_down15 (J5:=n') (out:=fun x=>∃ (mid:Nat) (fl:Bool) (h':AH) (l':List Row),x=some (.tuple [.int .i64 (mid:Int),.bool fl],h')∧Has n0 v h' l'∧Old n0 h h'∧Re a b l l' ∧
   a≤mid∧mid<b∧rat l' mid=pv∧(∀ k,a≤k→k<mid→Lt (rat l' k) pv)∧∀ k,mid<k→k<b→¬Lt (rat l' k) pv) H7 o67.wf (Nat.le_trans hn0 o67.next) hF (by omega) (by omega) p7 (fun j8 h8 m8 p8 q8 H8 o8=>?_)
   have o68:=o67.trans o8
   have b2:=p8.b2
   have b4:=p7.b2
   have b5:=p6.b2
   have hij:j8<i7:=by omega
   obtain ⟨x1,x2,g1,g2,w1,w2,w3,w4,w5,w6,l',H5,z⟩:=last i7 j8 h8 l3 p8 hij H8 o68 re6
   have c1:decide ((i7:Int)>(j8:Int))=true:=dT (by omega)
   refine ⟨j8,false,g2,l',?_,H5,z⟩
   simp only [zbo.r17,zbo.c17,zbo.k17,zbo.r21,zbo.c21,c1,cond_true,w1,w2,w3,w4,w5,w6,bV_some,bA_some,bS_some]
   rfl
end Go.Proofs.YtcmhoboglapbdaaDoor
namespace Go.Proofs.YtcmhoboglapbdaaDoor
open Go Ev
theorem eq_spec{F m n0:Nat}{v:V}{h:AH}{l:List Row}(H:Has n0 v h l)(hw:h.WF)(hn0:n0≤h.next){a b p:Nat}(h1:a≤p)(h2:p<b)(hb:b≤l.length)(hlen:l.length≤4096)(hF:5000<F) :
  ∃ (mid:Nat) (h':AH) (l':List Row),runC (EE F) (m+4) nzbp [v,.int .i64 (a:Int),.int .i64 (b:Int),.int .i64 (p:Int),cmpF] h=some (.int .i64 (mid:Int),h')∧Has n0 v h' l'∧Old n0 h h'∧Re a b l l' ∧
   a<mid∧mid≤b∧(∀ k,a≤k→k<mid→¬Lt (rat l p) (rat l' k)):=by
 rw [tzbp]
 have i1:IntKind.wrap .i64 ((a:Int)+1)=((a+1:Nat):Int):=wi (by omega) (by omega)
 have i2:IntKind.wrap .i64 ((b:Int)-1)=((b-1:Nat):Int):=wi (by omega) (by omega)
 obtain ⟨x1,x2,g1,g2,w1,w2,w3,w4,w5,w6,H2,o2⟩:=swap_word H hw (i:=p) (j:=a) (by omega) (by omega)
 have re2:Re a b l (swapM l p a):=Re.swap (by omega) (by omega) h1 h2 (Nat.le_refl _) (by omega)
 have p2:=pi_start (fun r=>¬Lt (rat l p) r) hb h1 h2
 have len2:(swapM l p a).length=l.length:=swapM_len _ _ _
 simp only [zbp.fn,zbp.c0,w1,w2,w3,w4,w5,w6,bV_some,bA_some,bS_some,wr,i1,i2]
 generalize hpv:rat l p=pv at *
 generalize hl2:swapM l p a=l2 at *
 refine loop_rule (S:=zbp.P6) (out:=fun x=>∃ (mid:Nat) (h':AH) (l':List Row),x=some (.int .i64 (mid:Int),h')∧Has n0 v h' l'∧Old n0 h h'∧Re a b l l'∧a<mid∧mid≤b∧(∀ k,a≤k→k<mid→¬Lt pv (rat l' k)))
   (PState n0 a b v h l pv (fun r=>¬Lt pv r)) ?_ ?_ b F _ _ ⟨a+1,b-1,_,by omega,rfl,p2,H2,o2,re2⟩ (by omega)
 ·rintro k s g n' ⟨i,j,l3,hk,rfl,p6,H6,o6,re6⟩
  have hl3:=re6.len
  refine eq_up3 (J1:=n') (out:=fun x=>(∃ s' h',x=n' s' h'∧PState n0 a b v h l pv (fun r=>¬Lt pv r) k s' h')∨∃ (mid:Nat) (h':AH) (l':List Row),x=some (.int .i64 (mid:Int),h')∧Has n0 v h' l'∧Old n0 h h'∧Re a b l l'∧a<mid∧mid≤b∧(∀ k,a≤k→k<mid→¬Lt pv (rat l' k))) H6 o6.wf (Nat.le_trans hn0 o6.next) hF (by omega) (by omega) p6 (fun i7 h7 m7 p7 q7 H7 o7=>?_)
  have o67:=o6.trans o7
  refine eq_down5 (J1:=n') (out:=fun x=>(∃ s' h',x=n' s' h'∧PState n0 a b v h l pv (fun r=>¬Lt pv r) k s' h')∨∃ (mid:Nat) (h':AH) (l':List Row),x=some (.int .i64 (mid:Int),h')∧Has n0 v h' l'∧Old n0 h h'∧Re a b l l'∧a<mid∧mid≤b∧(∀ k,a≤k→k<mid→¬Lt pv (rat l' k))) H7 o67.wf (Nat.le_trans hn0 o67.next) hF (by omega) (by omega) p7 (fun j8 h8 m8 p8 q8 H8 o8=>?_)
  have o68:=o67.trans o8
  have b1:=p8.b1
  have b2:=p8.b2
  have b3:=p8.b3
  by_cases hij:j8<i7
  ·have c1:decide ((i7:Int)>(j8:Int))=true:=dT (by omega)
   refine .inr ⟨i7,h8,l3,?_,H8,o68,re6,by omega,by omega,fun k q1 q2=>?_⟩
   ·simp only [zbp.r7,zbp.c7,zbp.k7,zbp.r11,zbp.c11,c1,cond_true]
    rfl
   ·by_cases e:k=a
    ·rw [e,p8.top];exact fun hh=>hh.ne rfl
    ·exact p8.lo k (by omega) q2
  ·have c1:decide ((i7:Int)>(j8:Int))=false:=dF (by omega)
   have hLj:¬Lt pv (rat l3 j8):=q8.resolve_left hij
   have hLi:¬¬Lt pv (rat l3 i7):=q7.resolve_left (by omega)
   have hne:i7≠j8:=fun e=>hLi (e▸hLj)
   have j1:IntKind.wrap .i64 ((i7:Int)+1)=((i7+1:Nat):Int):=wi (by omega) (by omega)
   have j2:IntKind.wrap .i64 ((j8:Int)-1)=((j8-1:Nat):Int):=wi (by omega) (by omega)
   obtain ⟨x1,x2,g1,g2,w1,w2,w3,w4,w5,w6,H9,o9⟩:=swap_word H8 o68.wf (i:=j8) (j:=i7) (by omega) (by omega)
   refine .inl ⟨_,g2,?_,i7+1,j8-1,_,by omega,rfl,p8.swap (by omega) (by omega) hLj hLi,H9,o68.trans o9,re6.trans (Re.swap (by omega) (by omega) (by omega) (by omega) (by omega) (by omega))⟩
   simp only [zbp.r7,zbp.c7,zbp.k7,zbp.r8,zbp.c8,c1,cond_false,w1,w2,w3,w4,w5,w6,bV_some,bA_some,bS_some,wr,j1,j2]
 ·rintro s g n' ⟨i,j,l3,hk,rfl,p6,H6,o6,re6⟩
  have hl3:=re6.len
  refine eq_up3 (J1:=n') (out:=fun x=>∃ (mid:Nat) (h':AH) (l':List Row),x=some (.int .i64 (mid:Int),h')∧Has n0 v h' l'∧Old n0 h h'∧Re a b l l'∧a<mid∧mid≤b∧(∀ k,a≤k→k<mid→¬Lt pv (rat l' k))) H6 o6.wf (Nat.le_trans hn0 o6.next) hF (by omega) (by omega) p6 (fun i7 h7 m7 p7 q7 H7 o7=>?_)
  have o67:=o6.trans o7
  refine eq_down5 (J1:=n') (out:=fun x=>∃ (mid:Nat) (h':AH) (l':List Row),x=some (.int .i64 (mid:Int),h')∧Has n0 v h' l'∧Old n0 h h'∧Re a b l l'∧a<mid∧mid≤b∧(∀ k,a≤k→k<mid→¬Lt pv (rat l' k))) H7 o67.wf (Nat.le_trans hn0 o67.next) hF (by omega) (by omega) p7 (fun j8 h8 m8 p8 q8 H8 o8=>?_)
  have o68:=o67.trans o8
  have b1:=p8.b1
  have b2:=p8.b2
  have b3:=p8.b3
  have hij:j8<i7:=by omega
  have c1:decide ((i7:Int)>(j8:Int))=true:=dT (by omega)
  refine ⟨i7,h8,l3,?_,H8,o68,re6,by omega,by omega,fun k q1 q2=>?_⟩
  ·simp only [zbp.r7,zbp.c7,zbp.k7,zbp.r11,zbp.c11,c1,cond_true]
   rfl
  ·by_cases e:k=a
   ·rw [e,p8.top];exact fun hh=>hh.ne rfl
   ·exact p8.lo k (by omega) q2
def Pre(l:List Row)(a b:Nat):Prop:=0<a→∀ k,a≤k→k<b→Le (rat l (a-1)) (rat l k)
theorem Pre.re{l l':List Row}{a b:Nat}(p:Pre l a b)(r:Re a b l l'):Pre l' a b:=by
 intro ha
 rw [r.out (a-1) (by omega)]
 exact r.all (fun x=>Le (rat l (a-1)) x) (p ha)
theorem srtOn_keep{l l':List Row}{a i:Nat}(h:SrtOn l a i)(hk:∀ k,a≤k→k<i→rat l' k=rat l k):SrtOn l' a i:=fun x y h1 h2 h3=>by
 rw [hk x h1 (by omega),hk y (by omega) h3];exact h x y h1 h2 h3
theorem few_spec{F m n0:Nat}{v:V}{h:AH}{l:List Row}(H:Has n0 v h l)(hw:h.WF)(hn0:n0≤h.next){a b:Nat}(hab:a<b)(hb:b≤l.length)(hlen:l.length≤4096)(hF:5000<F)(hpre:Pre l a b) :
  ∃ (fl:Bool) (h':AH) (l':List Row),runC (EE F) (m+4) nzbn [v,.int .i64 (a:Int),.int .i64 (b:Int),cmpF] h=some (.bool fl,h')∧Has n0 v h' l'∧Old n0 h h'∧Re a b l l'∧(fl=true→SrtOn l' a b):=by
 rw [tzbn]
 have i1:IntKind.wrap .i64 ((a:Int)+1)=((a+1:Nat):Int):=wi (by omega) (by omega)
 simp only [zbn.fn,zbn.c0,zbn.k1,zbn.c2,wr,i1]
 refine loop_rule (S:=zbn.P6) (out:=fun x=>∃ (fl:Bool) (h':AH) (l':List Row),x=some (.bool fl,h')∧Has n0 v h' l'∧Old n0 h h'∧Re a b l l'∧(fl=true→SrtOn l' a b))
  (fun k s g=>∃ (i c:Nat) (l1:List Row),c+k=5∧a+1≤i∧i≤b∧s=(v,(a:Int),(b:Int),cmpF,(i:Int),(c:Int),())∧Has n0 v g l1∧Old n0 h g∧Re a b l l1∧SrtOn l1 a i) ?_ ?_ 5 F _ _
  ⟨a+1,0,l,by omega,by omega,by omega,rfl,H,Old.refl hw _,Re.refl _ _ _,fun x y h1 h2 h3=>by omega⟩ (by omega)
 ·rintro k s g n' ⟨i,c,l1,hk,hi,hib,rfl,H1,og,re,hs⟩
  have hl1:=re.len
  have c1:decide ((c:Int)<5)=true:=dT (by omega)
  have i2:IntKind.wrap .i64 ((c:Int)+1)=((c+1:Nat):Int):=wi (by omega) (by omega)
  simp only [zbn.l3,zbn.c3,zbn.k3,c1,cond_true]
  let J4:=zbn.r4 (cx F (m+3)) n' (zbn.r24 (cx F (m+3)) zbn.ret zbn.ret) zbn.ret
  let J0:=zbn.r24 (cx F (m+3)) zbn.ret zbn.ret
  have found:∀ (i:Nat) (g:AH),a+1≤i→i≤b→Has n0 v g l1→Old n0 h g→SrtOn l1 a i→(i<b→Lt (rat l1 i) (rat l1 (i-1))) →
    (∃ s' h',zbn.r7 (cx F (m+3)) J4 J4 J0 zbn.ret (v,(a:Int),(b:Int),cmpF,(i:Int),(c:Int),()) g=n' s' h' ∧
     ∃ (i c:Nat) (l1:List Row),c+k=5∧a+1≤i∧i≤b∧s'=(v,(a:Int),(b:Int),cmpF,(i:Int),(c:Int),())∧Has n0 v h' l1∧Old n0 h h'∧Re a b l l1∧SrtOn l1 a i) ∨
    (∃ (fl:Bool) (h':AH) (l':List Row),zbn.r7 (cx F (m+3)) J4 J4 J0 zbn.ret (v,(a:Int),(b:Int),cmpF,(i:Int),(c:Int),()) g=some (.bool fl,h')∧Has n0 v h' l'∧Old n0 h h'∧Re a b l l'∧(fl=true→SrtOn l' a b)):=by
   intro i g hi hib H1 og hs hlt
   by_cases hib2:i=b
   ·subst hib2
    have c2:((i:Int)==(i:Int))=true:=beq_self_eq_true _
    refine .inr ⟨true,g,l1,?_,H1,og,re,fun _=>hs⟩
    simp only [zbn.r7,zbn.c7,zbn.k7,zbn.c8,c2,cond_true]
    rfl
   ·have c2:((i:Int)==(b:Int))=false:=beq_eq_false_iff_ne.2 (by omega)
    have i5:IntKind.wrap .i64 ((b:Int)-(a:Int))=((b-a:Nat):Int):=wi (by omega) (by omega)
    by_cases h50:b-a<50
    ·have c3:decide (IntKind.wrap .i64 ((b:Int)-(a:Int))<50)=true:=by rw [i5];exact dT (by omega)
     refine .inr ⟨false,g,l1,?_,H1,og,re,fun h=>by cases h⟩
     simp only [zbn.r7,zbn.c7,zbn.k7,zbn.r9,zbn.c9,zbn.k9,zbn.c10,c2,cond_false,wr,↓c3,cond_true]
     rfl
    ·have c3:decide (IntKind.wrap .i64 ((b:Int)-(a:Int))<50)=false:=by rw [i5];exact dF (by omega)
     have hlt':=hlt (by omega)
     have i6:IntKind.wrap .i64 ((i:Int)-1)=((i-1:Nat):Int):=wi (by omega) (by omega)
     have i7:IntKind.wrap .i64 ((i:Int)-(a:Int))=((i-a:Nat):Int):=wi (by omega) (by omega)
     obtain ⟨x1,x2,g1,g2,w1,w2,w3,w4,w5,w6,H2,o2⟩:=swap_word H1 og.wf (i:=i-1) (j:=i) (by omega) (by omega)
     have og2:=og.trans o2
     have re2:=re.trans (Re.swap (a:=a) (b:=b) (l:=l1) (i:=i-1) (j:=i) (by omega) (by omega) (by omega) (by omega) (by omega) (by omega))
     have hs2:SrtOn (swapM l1 (i-1) i) a (i-1):=srtOn_keep (i:=i-1) (fun x y h1 h2 h3=>hs x y h1 h2 (by omega)) (fun k h1 h2=>by rw [rat_swap (by omega) (by omega),if_neg (by omega),if_neg (by omega)])
     have hl2:=re2.len
     generalize swapM l1 (i-1) i=l2 at *
     have right:∀ (g:AH) (l3:List Row),Has n0 v g l3→Old n0 h g→Re a b l l3→SrtOn l3 a i →
       ∃ s' h',zbn.r18 (cx F (m+3)) J4 J4 J0 zbn.ret (v,(a:Int),(b:Int),cmpF,(i:Int),(c:Int),()) g=n' s' h' ∧
        ∃ (i c:Nat) (l1:List Row),c+k=5∧a+1≤i∧i≤b∧s'=(v,(a:Int),(b:Int),cmpF,(i:Int),(c:Int),())∧Has n0 v h' l1∧Old n0 h h'∧Re a b l l1∧SrtOn l1 a i:=by
      intro g l3 H3 og3 re3 hs3
      have fin:∀ (g:AH) (l4:List Row),Has n0 v g l4→Old n0 h g→Re a b l l4→SrtOn l4 a i→∃ s' h',J4 (v,(a:Int),(b:Int),cmpF,(i:Int),(c:Int),()) g=n' s' h' ∧
        ∃ (i c:Nat) (l1:List Row),c+k=5∧a+1≤i∧i≤b∧s'=(v,(a:Int),(b:Int),cmpF,(i:Int),(c:Int),())∧Has n0 v h' l1∧Old n0 h h'∧Re a b l l1∧SrtOn l1 a i:=by
       intro g l4 H4 og4 re4 hs4
       refine ⟨_,g,?_,i,c+1,l4,by omega,hi,hib,rfl,H4,og4,re4,hs4⟩
       show zbn.r4 _ _ _ _ _ _=_
       simp only [zbn.r4,zbn.c4,wr,i2]
      simp only [zbn.r18,zbn.c18]
      generalize decide (wr .i64 ((b:Int)-(i:Int))≥2)=bb
      cases bb with
      | false =>
       simp only [zbn.k18,cond_false]
       exact fin g l3 H3 og3 re3 hs3
      | true =>
       have i8:IntKind.wrap .i64 ((i:Int)+1)=((i+1:Nat):Int):=wi (by omega) (by omega)
       simp only [zbn.k18,zbn.c19,cond_true,wr,i8]
       refine loop_rule (S:=zbn.P40) (out:=fun x=>∃ s' h',x=n' s' h' ∧
        ∃ (i c:Nat) (l1:List Row),c+k=5∧a+1≤i∧i≤b∧s'=(v,(a:Int),(b:Int),cmpF,(i:Int),(c:Int),())∧Has n0 v h' l1∧Old n0 h h'∧Re a b l l1∧SrtOn l1 a i)
        (fun k s g=>∃ (j:Nat) (l4:List Row),b≤j+k∧i+1≤j∧j≤b∧s=(v,(a:Int),(b:Int),cmpF,(i:Int),(c:Int),(j:Int),())∧Has n0 v g l4∧Old n0 h g∧Re a b l l4∧SrtOn l4 a i) ?_ ?_ b F _ _
        ⟨i+1,l3,by omega,by omega,by omega,rfl,H3,og3,re3,hs3⟩ (by omega)
       ·rintro k' s g n'' ⟨j,l4,hk',hj,hjb,rfl,H4,og4,re4,hs4⟩
        have hl4:=re4.len
        by_cases hjb2:j<b
        ·have c4:decide ((j:Int)<(b:Int))=true:=dT (by omega)
         have i9:IntKind.wrap .i64 ((j:Int)-1)=((j-1:Nat):Int):=wi (by omega) (by omega)
         have i10:IntKind.wrap .i64 ((j:Int)+1)=((j+1:Nat):Int):=wi (by omega) (by omega)
         obtain ⟨p,q,f1,u1,u2,u3,u4,u5,u6,u7,u8⟩:=cmp_at (F:=F) (m:=m) H4 og4.wf (Nat.le_trans hn0 og4.next) (i:=j) (j:=j-1) (by omega) (by omega)
         have of1:=og4.trans u7
         by_cases hlt:Lt (rat l4 j) (rat l4 (j-1))
         ·obtain ⟨p',q',f2,f3,z1,z2,z3,z4,z5,z6,z7,z8⟩:=swap_word u6 of1.wf (i:=j-1) (j:=j) (by omega) (by omega)
          obtain rfl:=ptr_eq u1 z2
          obtain rfl:=ptr_eq u2 z1
          refine .inl ⟨_,f3,?_,j+1,_,by omega,by omega,by omega,rfl,z7,of1.trans z8,re4.trans (Re.swap (by omega) (by omega) (by omega) (by omega) (by omega) (by omega)),srtOn_keep hs4 fun k h1 h2=>by rw [rat_swap (by omega) (by omega),if_neg (by omega),if_neg (by omega)]⟩
          simp only [zbn.l20,zbn.c20,zbn.k20,zbn.r22,zbn.c22,zbn.k22,zbn.r23,zbn.c23,zbn.r21,zbn.c21,c4,cond_true,wr,i9,i10,u1,u2,bV_some,u3,bA_some,u4,u5,cI_some,lt_true hlt,Bool.not_true,cond_false,z3,z4,z5,z6,bS_some]
         ·refine .inr ?_
          have hfin:=fin f1 l4 u6 of1 re4 hs4
          simp only [zbn.l20,zbn.c20,zbn.k20,zbn.r22,zbn.c22,zbn.k22,c4,cond_true,wr,i9,u1,u2,bV_some,u3,bA_some,u4,u5,cI_some,lt_false hlt,Bool.not_false]
          exact hfin
        ·have c4:decide ((j:Int)<(b:Int))=false:=dF (by omega)
         refine .inr ?_
         have hfin:=fin g l4 H4 og4 re4 hs4
         simp only [zbn.l20,zbn.c20,zbn.k20,c4,cond_false]
         exact hfin
       ·rintro s g n'' ⟨j,l4,hk',hj,hjb,rfl,H4,og4,re4,hs4⟩
        have c4:decide ((j:Int)<(b:Int))=false:=dF (by omega)
        have hfin:=fin g l4 H4 og4 re4 hs4
        simp only [zbn.l20,zbn.c20,zbn.k20,c4,cond_false]
        exact hfin
     refine .inl ?_
     simp only [zbn.r7,zbn.c7,zbn.k7,zbn.r9,zbn.c9,zbn.k9,zbn.r11,zbn.c11,c2,cond_false,wr,↓c3,i6,w1,w2,w3,w4,w5,w6,bV_some,bA_some,bS_some,zbn.k11,zbn.c12]
     by_cases hi2:2≤i-a
     ·have c4:decide (IntKind.wrap .i64 ((i:Int)-(a:Int))≥2)=true:=by rw [i7];exact dT (by omega)
      simp only [↓c4,zbn.k12,zbn.c13,cond_true,wr,i6]
      refine loop_rule (S:=zbn.P28) (out:=fun x=>∃ s' h',x=n' s' h' ∧
        ∃ (i c:Nat) (l1:List Row),c+k=5∧a+1≤i∧i≤b∧s'=(v,(a:Int),(b:Int),cmpF,(i:Int),(c:Int),())∧Has n0 v h' l1∧Old n0 h h'∧Re a b l l1∧SrtOn l1 a i)
        (fun k s g=>∃ (j:Nat) (l4:List Row),j=a+k∧j≤i-1∧s=(v,(a:Int),(b:Int),cmpF,(i:Int),(c:Int),(j:Int),())∧Has n0 v g l4∧Old n0 h g∧Re a b l l4∧Near l4 a (i-1) j) ?_ ?_ (i-1-a) F _ _
        ⟨i-1,l2,by omega,by omega,rfl,H2,og2,re2,near_start hs2⟩ (by omega)
      ·rintro k' s g n'' ⟨j,l4,hk',hj,rfl,H4,og4,re4,hs4⟩
       have hl4:=re4.len
       have c5:decide ((j:Int)≥1)=true:=dT (by omega)
       have i9:IntKind.wrap .i64 ((j:Int)-1)=((j-1:Nat):Int):=wi (by omega) (by omega)
       obtain ⟨p,q,f1,u1,u2,u3,u4,u5,u6,u7,u8⟩:=cmp_at (F:=F) (m:=m) H4 og4.wf (Nat.le_trans hn0 og4.next) (i:=j) (j:=j-1) (by omega) (by omega)
       have of1:=og4.trans u7
       by_cases hlt:Lt (rat l4 j) (rat l4 (j-1))
       ·obtain ⟨p',q',f2,f3,z1,z2,z3,z4,z5,z6,z7,z8⟩:=swap_word u6 of1.wf (i:=j-1) (j:=j) (by omega) (by omega)
        obtain rfl:=ptr_eq u1 z2
        obtain rfl:=ptr_eq u2 z1
        refine .inl ⟨_,f3,?_,j-1,_,by omega,by omega,rfl,z7,of1.trans z8,re4.trans (Re.swap (by omega) (by omega) (by omega) (by omega) (by omega) (by omega)),near_step hs4 (by omega) hj (by omega) hlt⟩
        simp only [zbn.l14,zbn.c14,zbn.k14,zbn.r16,zbn.c16,zbn.k16,zbn.r17,zbn.c17,zbn.r15,zbn.c15,c5,cond_true,wr,i9,u1,u2,bV_some,u3,bA_some,u4,u5,cI_some,lt_true hlt,Bool.not_true,cond_false,z3,z4,z5,z6,bS_some]
       ·refine .inr ?_
        have hn:=near_done hs4 (.inr ⟨by omega,hj,not_lt.1 hlt⟩)
        rw [show i-1+1=i by omega] at hn
        have hfin:=right f1 l4 u6 of1 re4 hn
        simp only [zbn.l14,zbn.c14,zbn.k14,zbn.r16,zbn.c16,zbn.k16,c5,cond_true,wr,i9,u1,u2,bV_some,u3,bA_some,u4,u5,cI_some,lt_false hlt,Bool.not_false]
        exact hfin
      ·rintro s g n'' ⟨j,l4,hk',hj,rfl,H4,og4,re4,hs4⟩
       obtain rfl:j=a:=by omega
       have hl4:=re4.len
       have hn:=near_done hs4 (.inl rfl)
       rw [show i-1+1=i by omega] at hn
       by_cases ha0:0<j
       ·have c5:decide ((j:Int)≥1)=true:=dT (by omega)
        have i9:IntKind.wrap .i64 ((j:Int)-1)=((j-1:Nat):Int):=wi (by omega) (by omega)
        obtain ⟨p,q,f1,u1,u2,u3,u4,u5,u6,u7,u8⟩:=cmp_at (F:=F) (m:=m) H4 og4.wf (Nat.le_trans hn0 og4.next) (i:=j) (j:=j-1) (by omega) (by omega)
        have of1:=og4.trans u7
        have hlt:¬Lt (rat l4 j) (rat l4 (j-1)):=not_lt.2 (hpre.re re4 ha0 j (Nat.le_refl _) (by omega))
        have hfin:=right f1 l4 u6 of1 re4 hn
        simp only [zbn.l14,zbn.c14,zbn.k14,zbn.r16,zbn.c16,zbn.k16,c5,cond_true,wr,i9,u1,u2,bV_some,u3,bA_some,u4,u5,cI_some,lt_false hlt,Bool.not_false]
        exact hfin
       ·have c5:decide ((j:Int)≥1)=false:=dF (by omega)
        have hfin:=right g l4 H4 og4 re4 hn
        simp only [zbn.l14,zbn.c14,zbn.k14,c5,cond_false]
        exact hfin
     ·have c4:decide (IntKind.wrap .i64 ((i:Int)-(a:Int))≥2)=false:=by rw [i7];exact dF (by omega)
      simp only [↓c4,zbn.k12,cond_false]
      exact right g2 l2 H2 og2 re2 (fun x y h1 h2 h3=>by omega)
  refine loop_rule (S:=zbn.P6) (out:=fun x=>(∃ s' h',x=n' s' h'∧∃ (i c:Nat) (l1:List Row),c+k=5∧a+1≤i∧i≤b∧s'=(v,(a:Int),(b:Int),cmpF,(i:Int),(c:Int),())∧Has n0 v h' l1∧Old n0 h h'∧Re a b l l1∧SrtOn l1 a i) ∨
    (∃ (fl:Bool) (h':AH) (l':List Row),x=some (.bool fl,h')∧Has n0 v h' l'∧Old n0 h h'∧Re a b l l'∧(fl=true→SrtOn l' a b)))
   (fun k s g=>∃ (i:Nat),b≤i+k∧a+1≤i∧i≤b∧s=(v,(a:Int),(b:Int),cmpF,(i:Int),(c:Int),())∧Has n0 v g l1∧Old n0 h g∧SrtOn l1 a i) ?_ ?_ b F _ _ ⟨i,by omega,hi,hib,rfl,H1,og,hs⟩ (by omega)
  ·rintro k' s g n'' ⟨i,hk',hi,hib,rfl,H1,og,hs⟩
   by_cases hib2:i<b
   ·have c2:decide ((i:Int)<(b:Int))=true:=dT (by omega)
    have i9:IntKind.wrap .i64 ((i:Int)-1)=((i-1:Nat):Int):=wi (by omega) (by omega)
    have i10:IntKind.wrap .i64 ((i:Int)+1)=((i+1:Nat):Int):=wi (by omega) (by omega)
    obtain ⟨p,q,f1,u1,u2,u3,u4,u5,u6,u7,u8⟩:=cmp_at (F:=F) (m:=m) H1 og.wf (Nat.le_trans hn0 og.next) (i:=i) (j:=i-1) (by omega) (by omega)
    have of1:=og.trans u7
    by_cases hlt:Lt (rat l1 i) (rat l1 (i-1))
    ·refine .inr ?_
     have hfin:=found i f1 hi hib u6 of1 hs (fun _=>hlt)
     simp only [zbn.l5,zbn.c5,zbn.k5,c2,cond_true,wr,i9,u1,u2,bV_some,u3,bA_some,u4,u5,cI_some,lt_true hlt,Bool.not_true,cond_false]
     exact hfin
    ·refine .inl ⟨_,f1,?_,i+1,by omega,by omega,by omega,rfl,u6,of1,fun x y h1 h2 h3=>?_⟩
     ·simp only [zbn.l5,zbn.c5,zbn.k5,zbn.r6,zbn.c6,c2,cond_true,wr,i9,i10,u1,u2,bV_some,u3,bA_some,u4,u5,cI_some,lt_false hlt,Bool.not_false]
     ·by_cases hy:y=i
      ·subst hy
       by_cases hx:x=y-1
       ·rw [hx];exact not_lt.1 hlt
       ·exact (hs x (y-1) h1 (by omega) (by omega)).trans (not_lt.1 hlt)
      ·exact hs x y h1 h2 (by omega)
   ·have c2:decide ((i:Int)<(b:Int))=false:=dF (by omega)
    refine .inr ?_
    have hfin:=found i g hi hib H1 og hs (fun h=>absurd h hib2)
    simp only [zbn.l5,zbn.c5,zbn.k5,c2,cond_false]
    exact hfin
  ·rintro s g n'' ⟨i,hk',hi,hib,rfl,H1,og,hs⟩
   have c2:decide ((i:Int)<(b:Int))=false:=dF (by omega)
   have hfin:=found i g hi hib H1 og hs (fun h=>by omega)
   simp only [zbn.l5,zbn.c5,zbn.k5,c2,cond_false]
   exact hfin
 ·rintro s g n' ⟨i,c,l1,hk,hi,hib,rfl,H1,og,re,hs⟩
  have c1:decide ((c:Int)<5)=false:=dF (by omega)
  refine ⟨false,g,l1,?_,H1,og,re,fun h=>by cases h⟩
  simp only [zbn.l3,zbn.c3,zbn.k3,zbn.r24,zbn.c24,c1,cond_false]
  rfl
end Go.Proofs.YtcmhoboglapbdaaDoor
namespace Go.Proofs.YtcmhoboglapbdaaDoor
open Go Ev
def Mid(l:List Row)(a a1 b1 b:Nat):Prop:=∀ x y,a≤x→x<y→y<b→¬(a1≤x∧y<b1)→Le (rat l x) (rat l y)
theorem Mid.re{l l':List Row}{a a1 b1 b:Nat}(M:Mid l a a1 b1 b)(ha:a≤a1)(hb:b1≤b)(r:Re a1 b1 l l'):Mid l' a a1 b1 b:=by
 intro x y h1 h2 h3 h4
 by_cases hx:a1≤x∧x<b1
 ·have hy:¬(a1≤y∧y<b1):=by omega
  rw [r.out y hy]
  exact r.all (fun z=>Le z (rat l y)) (fun k q1 q2=>M k y (by omega) (by omega) h3 (by omega)) x hx.1 hx.2
 ·rw [r.out x hx]
  by_cases hy:a1≤y∧y<b1
  ·exact r.all (fun z=>Le (rat l x) z) (fun k q1 q2=>M x k h1 (by omega) (by omega) (by omega)) y hy.1 hy.2
  ·rw [r.out y hy];exact M x y h1 h2 h3 h4
theorem Mid.done{l:List Row}{a a1 b1 b:Nat}(M:Mid l a a1 b1 b)(h:SrtOn l a1 b1):SrtOn l a b:=fun x y h1 h2 h3=>by
 by_cases hh:a1≤x∧y<b1
 ·exact h x y hh.1 h2 hh.2
 ·exact M x y h1 h2 h3 hh
theorem Mid.less{l:List Row}{a a1 b1 b a2 b2:Nat}(M:Mid l a a1 b1 b)(h:∀ x y,a1≤x→x<y→y<b1→¬(a2≤x∧y<b2)→Le (rat l x) (rat l y)):Mid l a a2 b2 b:=fun x y h1 h2 h3 h4=>by
 by_cases hh:a1≤x∧y<b1
 ·exact h x y hh.1 h2 hh.2 h4
 ·exact M x y h1 h2 h3 hh
theorem pdq_spec{F m:Nat}(hF:5000<F):∀ (D n0:Nat) (v:V) (h:AH) (l:List Row) (a b:Nat) (lim:Int),Has n0 v h l→h.WF→n0≤h.next→a≤b→b≤l.length→l.length≤200→b-a≤D→Pre l a b →
  ∃ h' l',runC (EE F) (m+D+8) nzbq [v,.int .i64 (a:Int),.int .i64 (b:Int),.int .i64 lim,cmpF] h=some (pack [],h')∧Has n0 v h' l'∧Old n0 h h'∧Re a b l l'∧SrtOn l' a b:=by
 intro D
 induction D with
 | zero =>
  intro n0 v h l a b lim H hw hn0 hab hb hlen hD hpre
  obtain rfl:a=b:=by omega
  rw [tzbq]
  have i1:IntKind.wrap .i64 ((a:Int)-(a:Int))=0:=by rw [Int.sub_self];rfl
  obtain ⟨r,h1,l1,e1,H1,o1,re1,s1⟩:=ins_spec (F:=F) (m:=m+3) H hw hn0 (Nat.le_refl a) hb (by omega) hF
  have d:decide ((0:Int)≤12)=true:=rfl
  have key:∀ n':zbq.P4→AH→Res,∃ h' l',zbq.l2 (cx F (m+0+7)) n' zbq.ret zbq.ret (v,(a:Int),(a:Int),lim,cmpF,true,true,()) h=some (pack [],h')∧Has n0 v h' l'∧Old n0 h h'∧Re a a l l'∧SrtOn l' a a:=by
   intro n'
   refine ⟨h1,l1,?_,H1,o1,re1,s1⟩
   have e1':runC (EE F) (m+0+7) nzbi [v,.int .i64 (a:Int),.int .i64 (a:Int),cmpF] h=some (r,h1):=e1
   simp only [zbq.l2,zbq.c2,wr,i1]
   simp only [zbq.k2,zbq.c3,d,zbq.k3,zbq.c4,cond_true,cxC,e1',cV_some]
   rfl
  simp only [zbq.fn,zbq.c0]
  refine loop_rule (S:=zbq.P4) (out:=fun x=>∃ h' l',x=some (pack [],h')∧Has n0 v h' l'∧Old n0 h h'∧Re a a l l'∧SrtOn l' a a)
   (fun k s g=>s=(v,(a:Int),(a:Int),lim,cmpF,true,true,())∧g=h) ?_ ?_ 0 F _ _ ⟨rfl,rfl⟩ (by omega)
  ·rintro k s g n' ⟨rfl,rfl⟩
   exact .inr (key n')
  ·rintro s g n' ⟨rfl,rfl⟩
   exact key n'
 | succ D ih =>
  intro n0 v h l a b lim H hw hn0 hab hb hlen hD hpre
  rw [tzbq]
  simp only [zbq.fn,zbq.c0]
  let Out:Res→Prop:=fun x=>∃ h' l',x=some (pack [],h')∧Has n0 v h' l'∧Old n0 h h'∧Re a b l l'∧SrtOn l' a b
  let Inv:Nat→zbq.P4→AH→Prop:=fun k s g=>∃ (a1 b1:Nat) (lm:Int) (wb wp:Bool) (l1:List Row),b1≤a1+k∧a≤a1∧a1≤b1∧b1≤b∧s=(v,(a1:Int),(b1:Int),lm,cmpF,wb,wp,())∧Has n0 v g l1∧Old n0 h g∧Re a b l l1∧Pre l1 a1 b1∧Mid l1 a a1 b1 b
  show Out (loopN zbq.P4 F (fun t h n'=>zbq.l2 (cx F (m+(D+1)+7)) n' zbq.ret zbq.ret t h) (v,(a:Int),(b:Int),lim,cmpF,true,true,()) h)
  have short:∀ (n':zbq.P4→AH→Res) (a1 b1:Nat) (lm:Int) (wb wp:Bool) (l1:List Row) (g:AH),a≤a1→a1≤b1→b1≤b→b1-a1≤12→Has n0 v g l1→Old n0 h g→Re a b l l1→Mid l1 a a1 b1 b →
    Out (zbq.l2 (cx F (m+(D+1)+7)) n' zbq.ret zbq.ret (v,(a1:Int),(b1:Int),lm,cmpF,wb,wp,()) g):=by
   intro n' a1 b1 lm wb wp l1 g ha hab1 hb1 h12 H1 og re M
   have hl1:=re.len
   obtain ⟨r,h2,l2,e2,H2,o2,re2,s2⟩:=ins_spec (F:=F) (m:=m+(D+1)+3) H1 og.wf (Nat.le_trans hn0 og.next) hab1 (by omega) (by omega) hF
   refine ⟨h2,l2,?_,H2,og.trans o2,re.trans (re2.weak ha hb1),(M.re ha hb1 re2).done s2⟩
   have i1:IntKind.wrap .i64 ((b1:Int)-(a1:Int))=((b1-a1:Nat):Int):=wi (by omega) (by omega)
   have d:decide (((b1-a1:Nat):Int)≤12)=true:=dT (by omega)
   simp only [zbq.l2,zbq.c2,wr,i1]
   simp only [zbq.k2,zbq.c3,d,zbq.k3,zbq.c4,cond_true,cxC,e2,cV_some]
   rfl
  refine loop_rule (S:=zbq.P4) (out:=Out) Inv ?_ ?_ (b-a) F _ _ ⟨a,b,lim,true,true,l,by omega,Nat.le_refl _,hab,Nat.le_refl _,rfl,H,Old.refl hw _,Re.refl _ _ _,hpre,fun x y h1 h2 h3 h4=>absurd ⟨h1,h3⟩ h4⟩ (by omega)
  ·rintro k s g n' ⟨a1,b1,lm,wb,wp,l1,hk,ha1,hab1,hb1,rfl,H1,og,re,P1,M1⟩
   by_cases h12:b1-a1≤12
   ·exact .inr (short n' a1 b1 lm wb wp l1 g ha1 hab1 hb1 h12 H1 og re M1)
   ·have hl1:=re.len
    have i1:IntKind.wrap .i64 ((b1:Int)-(a1:Int))=((b1-a1:Nat):Int):=wi (by omega) (by omega)
    have d12:decide (((b1-a1:Nat):Int)≤12)=false:=dF (by omega)
    simp only [zbq.l2,zbq.c2,wr,i1]
    simp only [zbq.k2,zbq.c3,d12,zbq.k3,zbq.r5,zbq.c5,cond_false]
    let Goal:Res→Prop:=fun x=>(∃ s' h',x=n' s' h'∧Inv k s' h')∨Out x
    have ncast:m+(D+1)+7=m+D+8:=by omega
    have t20:∀ (lm ln:Int) (wb:Bool) (p:Nat) (g:AH) (l2:List Row),a1≤p→p<b1→Has n0 v g l2→Old n0 h g→Re a b l l2→Pre l2 a1 b1→Mid l2 a a1 b1 b →
      Goal (zbq.r20 (cx F (m+(D+1)+7)) n' n' zbq.ret zbq.ret (v,(a1:Int),(b1:Int),lm,cmpF,ln,(p:Int),()) g):=by
     intro lm ln wb p g l2 hp1 hp2 H2 o2 re2 P2 M2
     have hl2:=re2.len
     obtain ⟨mid,fl,g3,l3,e3,H3,o3,re3,q1,q2,q3,q4,q5⟩:=part_spec (F:=F) (m:=m+(D+1)+3) H2 o2.wf (Nat.le_trans hn0 o2.next) hp1 hp2 (by omega) (by omega) hF
     have hl3:=re3.len
     have o23:=o2.trans o3
     have re23:Re a b l l3:=re2.trans (re3.weak ha1 hb1)
     have P3:=P2.re re3
     have M3:=M2.re ha1 hb1 re3
     generalize rat l2 p=pv at *
     simp only [zbq.r20,zbq.c20,cxC,e3,cV_some,ex0,ex1,bI_some,bB_some]
     generalize decide (wr .i64 ((mid:Int)-(a1:Int))<wr .i64 ((b1:Int)-(mid:Int)))=bb
     have i5:IntKind.wrap .i64 ((mid:Int)+1)=((mid+1:Nat):Int):=wi (by omega) (by omega)
     cases bb with
     | true =>
      obtain ⟨g4,l4,e4,H4,o4,re4,s4⟩:=ih n0 v g3 l3 a1 mid lm H3 o23.wf (Nat.le_trans hn0 o23.next) q1 (by omega) (by omega) (by omega) (fun h0 kk z1 z2=>P3 h0 kk z1 (by omega))
      refine .inl ⟨_,g4,?_,mid+1,b1,lm,decide (wr .i64 ((mid:Int)-(a1:Int))≥wr .i64 (ln.tdiv 8)),fl,l4,by omega,by omega,by omega,hb1,rfl,H4,o23.trans o4,re23.trans (re4.weak ha1 (by omega)),fun _ kk z1 z2=>?_,(M3.re ha1 hb1 (re4.weak (Nat.le_refl _) (by omega))).less fun x y z1 z2 z3 z4=>?_⟩
      ·have e4':runC (EE F) (m+(D+1)+7) nzbq [v,.int .i64 (a1:Int),.int .i64 (mid:Int),.int .i64 lm,cmpF] g3=some (pack [],g4):=by rw [ncast];exact e4
       simp only [zbq.k24,zbq.c25,cond_true,cxC,e4',cV_some,i5]
      ·rw [Nat.add_sub_cancel,re4.out mid (by omega),re4.out kk (by omega),q3]
       exact not_lt.1 (q5 kk (by omega) z2)
      ·have hpv:∀ x,a1≤x→x<mid→Lt (rat l4 x) pv:=re4.all (fun r=>Lt r pv) (fun kk w1 w2=>q4 kk w1 w2)
       have hmid:rat l4 mid=pv:=by rw [re4.out mid (by omega),q3]
       by_cases hy:y<mid
       ·exact s4 x y z1 z2 hy
       ·have hxm:x≤mid:=by omega
        have hyp:Le pv (rat l4 y):=by
         by_cases hye:y=mid
         ·rw [hye,hmid];exact Le.refl _
         ·rw [re4.out y (by omega)];exact not_lt.1 (q5 y (by omega) z3)
        by_cases hxe:x=mid
        ·rw [hxe,hmid];exact hyp
        ·exact (hpv x z1 (by omega)).le.trans hyp
     | false =>
      obtain ⟨g4,l4,e4,H4,o4,re4,s4⟩:=ih n0 v g3 l3 (mid+1) b1 lm H3 o23.wf (Nat.le_trans hn0 o23.next) (by omega) (by omega) (by omega) (by omega) (fun _ kk z1 z2=>by
       rw [Nat.add_sub_cancel,q3];exact not_lt.1 (q5 kk (by omega) z2))
      refine .inl ⟨_,g4,?_,a1,mid,lm,decide (wr .i64 ((b1:Int)-(mid:Int))≥wr .i64 (ln.tdiv 8)),fl,l4,by omega,by omega,by omega,by omega,rfl,H4,o23.trans o4,re23.trans (re4.weak (by omega) hb1),fun h0 kk z1 z2=>?_,(M3.re ha1 hb1 (re4.weak (by omega) (Nat.le_refl _))).less fun x y z1 z2 z3 z4=>?_⟩
      ·have e4':runC (EE F) (m+(D+1)+7) nzbq [v,.int .i64 ((mid+1:Nat):Int),.int .i64 (b1:Int),.int .i64 lm,cmpF] g3=some (pack [],g4):=by rw [ncast];exact e4
       simp only [zbq.k24,zbq.c28,cond_false,i5,cxC,e4',cV_some]
      ·rw [re4.out (a1-1) (by omega),re4.out kk (by omega)]
       exact P3 h0 kk z1 (by omega)
      ·have hpv:∀ y,mid+1≤y→y<b1→¬Lt (rat l4 y) pv:=re4.all (fun r=>¬Lt r pv) (fun kk w1 w2=>q5 kk (by omega) w2)
       have hmid:rat l4 mid=pv:=by rw [re4.out mid (by omega),q3]
       by_cases hx:mid+1≤x
       ·exact s4 x y hx z2 z3
       ·have hyp:Le pv (rat l4 y):=by
         by_cases hye:y=mid
         ·rw [hye,hmid];exact Le.refl _
         ·exact not_lt.1 (hpv y (by omega) z3)
        by_cases hxe:x=mid
        ·rw [hxe,hmid];exact hyp
        ·have:Le (rat l4 x) pv:=by rw [re4.out x (by omega)];exact (q4 x z1 (by omega)).le
         exact this.trans hyp
    have t17:∀ (lm ln:Int) (wb wp:Bool) (p:Nat) (g:AH) (l2:List Row),a1≤p→p<b1→Has n0 v g l2→Old n0 h g→Re a b l l2→Pre l2 a1 b1→Mid l2 a a1 b1 b →
      Goal (zbq.r17 (cx F (m+(D+1)+7)) n' n' zbq.ret zbq.ret (v,(a1:Int),(b1:Int),lm,cmpF,wb,wp,ln,(p:Int),()) g):=by
     intro lm ln wb wp p g l2 hp1 hp2 H2 o2 re2 P2 M2
     have hl2:=re2.len
     simp only [zbq.r17,zbq.c17]
     by_cases ha0:0<a1
     ·have c1:decide ((a1:Int)>0)=true:=dT (by omega)
      have i6:IntKind.wrap .i64 ((a1:Int)-1)=((a1-1:Nat):Int):=wi (by omega) (by omega)
      obtain ⟨x1,x2,f1,u1,u2,u3,u4,u5,u6,u7,u8⟩:=cmp_at (F:=F) (m:=m+(D+1)+4) H2 o2.wf (Nat.le_trans hn0 o2.next) (i:=a1-1) (j:=p) (by omega) (by omega)
      have of1:=o2.trans u7
      by_cases hlt:Lt (rat l2 (a1-1)) (rat l2 p)
      ·have t:=t20 lm ln wb p f1 l2 hp1 hp2 u6 of1 re2 P2 M2
       simp only [c1,cond_true,wr,i6,u1,u2,bV_some,u3,bA_some,u4,u5,cI_some,lt_true hlt,Bool.not_true,zbq.k17,cond_false]
       exact t
      ·obtain ⟨mid,g3,l3,e3,H3,o3,re3,q1,q2,q4⟩:=eq_spec (F:=F) (m:=m+(D+1)+3) u6 of1.wf (Nat.le_trans hn0 of1.next) hp1 hp2 (by omega) (by omega) hF
       have o13:=of1.trans o3
       have P3:=P2.re re3
       have M3:=M2.re ha1 hb1 re3
       have hout:rat l3 (a1-1)=rat l2 (a1-1):=re3.out _ (by omega)
       have low:∀ kk y,a1≤kk→kk<mid→a1≤y→y<b1→Le (rat l3 kk) (rat l3 y):=fun kk y z1 z2 z3 z4 =>
        (not_lt.1 (q4 kk z1 z2)).trans ((not_lt.1 hlt).trans (hout▸P3 ha0 y z3 z4))
       refine .inl ⟨(v,(mid:Int),(b1:Int),lm,cmpF,wb,wp,()),g3,?_,mid,b1,lm,wb,wp,l3,by omega,by omega,q2,hb1,rfl,H3,o13,re2.trans (re3.weak ha1 hb1),fun _ kk z1 z2=>low (mid-1) kk (by omega) (by omega) (by omega) z2,M3.less fun x y z1 z2 z3 z4=>low x y z1 (by omega) (by omega) z3⟩
       simp only [c1,cond_true,wr,i6,u1,u2,bV_some,u3,bA_some,u4,u5,cI_some,lt_false hlt,Bool.not_false,zbq.k17,zbq.c18,cxC,e3]
     ·have c1:decide ((a1:Int)>0)=false:=dF (by omega)
      have t:=t20 lm ln wb p g l2 hp1 hp2 H2 o2 re2 P2 M2
      simp only [c1,cond_false,zbq.k17]
      exact t
    have t15:∀ (lm ln hint:Int) (wb wp:Bool) (p:Nat) (g:AH) (l2:List Row),a1≤p→p<b1→Has n0 v g l2→Old n0 h g→Re a b l l2→Pre l2 a1 b1→Mid l2 a a1 b1 b →
      Goal (zbq.r15 (cx F (m+(D+1)+7)) n' n' zbq.ret zbq.ret (v,(a1:Int),(b1:Int),lm,cmpF,wb,wp,ln,(p:Int),hint,()) g):=by
     intro lm ln hint wb wp p g l2 hp1 hp2 H2 o2 re2 P2 M2
     have hl2:=re2.len
     have no:=t17 lm ln wb wp p g l2 hp1 hp2 H2 o2 re2 P2 M2
     have yes:Goal (zbq.k15 (cx F (m+(D+1)+7)) (zbq.r17 (cx F (m+(D+1)+7)) n' n' zbq.ret zbq.ret) n' zbq.ret zbq.ret (v,(a1:Int),(b1:Int),lm,cmpF,wb,wp,ln,(p:Int),true,()) g):=by
      obtain ⟨fl,g3,l3,e3,H3,o3,re3,s3⟩:=few_spec (F:=F) (m:=m+(D+1)+3) H2 o2.wf (Nat.le_trans hn0 o2.next) (show a1<b1 by omega) (by omega) (by omega) hF P2
      have o23:=o2.trans o3
      simp -implicitDefEqProofs only [zbq.k15,zbq.c16,cond_true,cxC,e3,cB_some]
      cases fl with
      | true =>
       refine .inr ⟨g3,l3,?_,H3,o23,re2.trans (re3.weak ha1 hb1),(M2.re ha1 hb1 re3).done (s3 rfl)⟩
       simp only [zbq.k16,cond_true]
       rfl
      | false =>
       have t:=t17 lm ln wb wp p g3 l3 hp1 hp2 H3 o23 (re2.trans (re3.weak ha1 hb1)) (P2.re re3) (M2.re ha1 hb1 re3)
       simp only [zbq.k16,cond_false]
       exact t
     have no':Goal (zbq.k15 (cx F (m+(D+1)+7)) (zbq.r17 (cx F (m+(D+1)+7)) n' n' zbq.ret zbq.ret) n' zbq.ret zbq.ret (v,(a1:Int),(b1:Int),lm,cmpF,wb,wp,ln,(p:Int),false,()) g):=by
      simp only [zbq.k15,cond_false]
      exact no
     simp only [zbq.r15,zbq.c15,cond_true]
     cases wb with
     | false=>simp only [cond_false];exact no'
     | true =>
      cases wp with
      | false=>simp only [cond_true,cond_false];exact no'
      | true =>
       simp only [cond_true]
       cases (hint==1) with
       | true=>exact yes
       | false=>exact no'
    have t10:∀ (lm ln:Int) (wb wp:Bool) (g:AH) (l2:List Row),Has n0 v g l2→Old n0 h g→Re a b l l2→Pre l2 a1 b1→Mid l2 a a1 b1 b →
      Goal (zbq.r10 (cx F (m+(D+1)+7)) n' n' zbq.ret zbq.ret (v,(a1:Int),(b1:Int),lm,cmpF,wb,wp,ln,()) g):=by
     intro lm ln wb wp g l2 H2 o2 re2 P2 M2
     have hl2:=re2.len
     obtain ⟨p,hint,g3,e3,q1,q2,H3,o3⟩:=pivot_spec (F:=F) (m:=m+(D+1)) H2 o2.wf (Nat.le_trans hn0 o2.next) (a:=a1) (b:=b1) (by omega) (by omega) (by omega)
     have o23:=o2.trans o3
     simp only [zbq.r10,zbq.c10,cxC,e3,cV_some,ex0,ex1,bI_some,zbq.k10,zbq.c11]
     cases hh:(hint==2) with
     | false =>
      simp only [zbq.k11,cond_false]
      exact t15 lm ln hint wb wp p g3 l2 q1 q2 H3 o23 re2 P2 M2
     | true =>
      obtain ⟨g4,l4,e4,H4,o4,re4⟩:=rev_spec (F:=F) (m:=m+(D+1)+6) H3 o23.wf (show a1<b1 by omega) (by omega) (by omega) hF
      have i7:IntKind.wrap .i64 ((b1:Int)-1)=((b1-1:Nat):Int):=wi (by omega) (by omega)
      have i8:IntKind.wrap .i64 ((p:Int)-(a1:Int))=((p-a1:Nat):Int):=wi (by omega) (by omega)
      have i9:IntKind.wrap .i64 (((b1-1:Nat):Int)-((p-a1:Nat):Int))=((b1-1-(p-a1):Nat):Int):=wi (by omega) (by omega)
      simp -implicitDefEqProofs only [zbq.k11,zbq.c12,cond_true,cxC,e4,cV_some,wr,i7,i8,i9]
      exact t15 lm ln 1 wb wp _ g4 l4 (by omega) (by omega) H4 (o23.trans o4) (re2.trans (re4.weak ha1 hb1)) (P2.re re4) (M2.re ha1 hb1 re4)
    show Goal _
    cases hz:(lm==0) with
    | true =>
     obtain ⟨g3,l3,e3,H3,o3,re3,s3⟩:=heap_spec (F:=F) (m:=m+(D+1)+2) H1 og.wf (Nat.le_trans hn0 og.next) hab1 (by omega) (by omega) hF
     refine .inr ⟨g3,l3,?_,H3,og.trans o3,re.trans (re3.weak ha1 hb1),(M1.re ha1 hb1 re3).done s3⟩
     simp only [zbq.k5,zbq.c6,cond_true,cxC,e3,cV_some]
     rfl
    | false =>
     simp only [zbq.k5,zbq.r7,zbq.c7,cond_false]
     cases wb with
     | true =>
      simp only [Bool.not_true,zbq.k7,cond_false]
      exact t10 lm _ true wp g l1 H1 og re P1 M1
     | false =>
      obtain ⟨g3,l3,e3,H3,o3,re3⟩:=break_spec (F:=F) (m:=m+(D+1)+3) H1 og.wf (Nat.le_trans hn0 og.next) hab1 (by omega) (by omega) hF
      simp only [Bool.not_false,zbq.k7,zbq.c8,cond_true,cxC,e3,cV_some]
      exact t10 _ _ false wp g3 l3 H3 (og.trans o3) (re.trans (re3.weak ha1 hb1)) (P1.re re3) (M1.re ha1 hb1 re3)
  ·rintro s g n' ⟨a1,b1,lm,wb,wp,l1,hk,ha1,hab1,hb1,rfl,H1,og,re,P1,M1⟩
   exact short n' a1 b1 lm wb wp l1 g ha1 hab1 hb1 (by omega) H1 og re M1
theorem sort_ok{F m:Nat}(hF:5000<F):SortOK F (m+209) 200:=by
 intro n0 h v l hw hn0 ho hok hl
 rw [tzbe]
 have H:Has n0 v h l:=⟨ho,hok⟩
 have e1:=len_spec (F:=F) (m:=m+206) (h:=h) (n:=l.length) (by omega)
 obtain ⟨h2,l2,e2,H2,o2,re2,s2⟩:=pdq_spec (F:=F) (m:=m) hF 200 n0 v h l 0 l.length ((blen l.length:Nat):Int) H hw hn0 (Nat.zero_le _) (Nat.le_refl _) hl (by omega) (fun h0=>absurd h0 (Nat.lt_irrefl _))
 refine ⟨pack [],h2,l2,?_,H2.own,o2,re2.perm,by
  rw [← re2.len] at s2
  exact s2.srt⟩
 have e2':runC (EE F) (m+208) nzbq [v,.int .i64 0,.int .i64 (l.length:Int),.int .i64 ((blen l.length:Nat):Int),cmpF] h=some (pack [],h2):=e2
 simp only [zbe.fn,zbe.c0,H.own.sl.len,bI_some,wr,u64_small (show l.length<18446744073709551616 by omega),cxC,e1,cI_some,e2',cV_some,zbe.ret]
 rfl
end Go.Proofs.YtcmhoboglapbdaaDoor
namespace Go.Proofs.YtcmhoboglapbdaaDoor
open Go Ev
def boolL(l:List Bool):List V:=l.map V.bool
def u64L(l:List Nat):List V:=l.map fun (n:Nat)=>V.int .u64 (n:Int)
def farP(l:List (Row×Bool)):List Nat:=l.flatMap fun x=>if x.2 then [x.1.pos] else []
end Go.Proofs.YtcmhoboglapbdaaDoor
namespace Go.Proofs.YtcmhoboglapbdaaDoor
open Go Ev
theorem fill_set{α:Type}{A:List α}{n i:Nat}{d x:α}(hA:A.length=n)(hi:i<n)(hx:A[i]?=some x):(A.take i++List.replicate (n-i) d).set i x=A.take (i+1)++List.replicate (n-(i+1)) d:=by
 have ht:(A.take i).length=i:=by rw [List.length_take];omega
 rw [List.set_append_right _ _ (by omega),ht,Nat.sub_self,show n-i=(n-(i+1))+1 by omega,List.replicate_succ,List.set_cons_zero,← take_snoc hx,List.append_assoc];rfl
end Go.Proofs.YtcmhoboglapbdaaDoor
namespace Go.Proofs.YtcmhoboglapbdaaDoor
open Go Ev
def g4(p:List Nat)(a:Nat):Nat:=bigN (part p a 4)
def fanV(p:List Nat)(i:Nat):Nat:=g4 p (8+4*i)
def fanPrev(p:List Nat)(i:Nat):Nat:=if i=0 then 0 else fanV p (i-1)
def fanUp(p:List Nat)(n:Nat):Bool:=(List.range n).all fun i=>decide (fanPrev p i≤fanV p i)
def lastN(p:List Nat):Nat:=fanV p 255
def atV(p:List Nat)(n i:Nat):Nat:=g4 p (1032+36*n+4*i)
def farF(p:List Nat)(n i:Nat):Bool:=decide (2147483648≤atV p n i)
def kP(p:List Nat)(n i:Nat):Nat:=(List.range i).countP (farF p n)
def szM(p:List Nat):Nat×Nat×Int :=
 if p.length<1096 then (0,0,5) else if ¬p.take 8=magicM then (0,0,4) else if fanUp p 256=false then (0,0,4) else if 4096<lastN p then (0,0,10)
 else if p.length<1096+40*lastN p then (0,0,5) else if p.length<1096+40*lastN p+8*kP p (lastN p) (lastN p) then (0,0,5) else if 1096+40*lastN p+8*kP p (lastN p) (lastN p)<p.length then (0,0,4)
 else (lastN p,kP p (lastN p) (lastN p),0)
theorem fanUp_succ(p:List Nat)(n:Nat):fanUp p (n+1)=(fanUp p n && decide (fanPrev p n≤fanV p n)):=by
 unfold fanUp;rw [List.range_succ,List.all_append];simp
theorem fanUp_fail{p:List Nat}{n m:Nat}(h:fanUp p n=false)(hm:n≤m):fanUp p m=false:=by
 induction m with
 | zero =>
  obtain rfl:n=0:=by omega
  exact h
 | succ m ih =>
  by_cases e:n=m+1
  ·rw [← e];exact h
  ·rw [fanUp_succ,ih (by omega)];rfl
theorem kP_succ(p:List Nat)(n i:Nat):kP p n (i+1)=kP p n i+if farF p n i=true then 1 else 0:=by
 unfold kP;rw [List.range_succ,List.countP_append];simp [List.countP_cons]
theorem kP_le(p:List Nat)(n i:Nat):kP p n i≤i:=by
 have:=List.countP_le_length (p:=farF p n) (l:=List.range i)
 rw [List.length_range] at this
 exact this
theorem kP_mono(p:List Nat)(n:Nat){i j:Nat}(h:i≤j):kP p n i≤kP p n j:=by
 induction j with
 | zero =>
  obtain rfl:i=0:=by omega
  exact Nat.le_refl _
 | succ j ih =>
  by_cases e:i=j+1
  ·rw [e];exact Nat.le_refl _
  ·rw [kP_succ];have:=ih (by omega);omega
theorem part_len{p:List Nat}{a n:Nat}(h:a+n≤p.length):(part p a n).length=n:=by unfold part;rw [List.length_take,List.length_drop];omega
theorem g4_lt{p:List Nat}(hp:∀ x∈p,x<256)(a:Nat):g4 p a<4294967296:=by
 unfold g4
 have h1:=bigN_lt _ (part_byte hp a 4)
 have h2:(part p a 4).length≤4:=by unfold part;rw [List.length_take];omega
 have h3:=pow256_le h2
 have h4:256 ^ 4=4294967296:=by decide
 omega
theorem four_cell{F n:Nat}(hF:40<F){h:AH}(hw:h.WF){p:V}{l:List Nat}(hp:Bs h p l)(hlen:l.length≤140737488355328){a:Nat}(ha:a+4≤l.length) :
  ∃ h',runC (EE F) (n+2) nzas [.agg [p],.int .i64 (a:Int)] h=some (.int .u64 ((g4 l a:Nat):Int),h')∧Old h.next h h':=four_spec hF hw hp hlen ha
structure Rd (g:AH) (b e:Nat) (pv:V) (p:List Nat):Prop where
 cell:Cells g b e [pv]
 bs:Bs g pv p
theorem Rd.old{g g':AH}{b e:Nat}{pv:V}{p:List Nat}(R:Rd g b e pv p)(hw:g.WF)(o:Old g.next g g'):Rd g' b e pv p:=⟨R.cell.old hw o,R.bs.old hw o⟩
theorem Rd.ld{g:AH}{b e:Nat}{pv:V}{p:List Nat}(R:Rd g b e pv p):ld (.ptr ⟨b,1,0+0⟩) g=some pv:=cell_ld R.cell
theorem Rd.ldA{g:AH}{b e:Nat}{pv:V}{p:List Nat}(R:Rd g b e pv p):Ev.ldA 1 (.ptr ⟨b,1,0⟩) g=some (.agg [pv]):=R.cell.ldA rfl
theorem cnt_fan{F m:Nat}(hF:300<F){out:Res→Prop}{Jn:V×Int×Unit→AH→Res}{Jr:V×V×V×Unit→AH→Res}{h:AH}{b e:Nat}{pv:V}{p:List Nat}(hw:h.WF)(R:Rd h b e pv p)(hl:1096≤p.length)(hlen:p.length≤1000000)
  (bad:fanUp p 256=false→∀ h',Old h.next h h'→out (Jr (.int .i64 0,.int .i64 0,.int .i64 4,()) h'))
  (fin:fanUp p 256=true→∀ h',Old h.next h h'→out (Jn (.ptr ⟨b,1,0⟩,((lastN p:Nat):Int),()) h')) :
  out (zar.k6 (cx F (m+2)) Jn Jr (.ptr ⟨b,1,0⟩,0,0,()) h):=by
 show out (loopN zar.P14 F (fun t h n'=>zar.l7 (cx F (m+2)) n' Jn Jr t h) (.ptr ⟨b,1,0⟩,0,0,()) h)
 refine loop_rule (S:=zar.P14) (out:=out)
  (fun k s g=>∃ i:Nat,i+k=256∧s=(.ptr ⟨b,1,0⟩,((fanPrev p i:Nat):Int),(i:Int),())∧fanUp p i=true∧Old h.next h g) ?_ ?_ 256 F _ _ ⟨0,rfl,rfl,rfl,Old.refl hw _⟩ (by omega)
 ·rintro k s g n' ⟨i,hi,rfl,hu,og⟩
  have Rg:=R.old hw og
  have i1:IntKind.wrap .i64 (4*(i:Int))=((4*i:Nat):Int):=wi (by omega) (by omega)
  have i2:IntKind.wrap .i64 (8+((4*i:Nat):Int))=((8+4*i:Nat):Int):=wi (by omega) (by omega)
  have i3:IntKind.wrap .i64 ((i:Int)+1)=((i+1:Nat):Int):=wi (by omega) (by omega)
  obtain ⟨g1,e1,o1⟩:=four_cell (F:=F) (n:=m) (by omega) og.wf Rg.bs (by omega) (a:=8+4*i) (by omega)
  have og1:=og.trans (o1.weak og.next)
  have c1:decide ((i:Int)<256)=true:=dT (by omega)
  have hs:=fanUp_succ p i
  rw [hu,Bool.true_and] at hs
  have hnext:fanPrev p (i+1)=fanV p i:=by unfold fanPrev;rw [if_neg (by omega),Nat.add_sub_cancel]
  have e1':runC (EE F) (m+2) nzas [.agg [pv],.int .i64 ((8+4*i:Nat):Int)] g=some (.int .u64 ((fanV p i:Nat):Int),g1):=e1
  by_cases hb:fanV p i<fanPrev p i
  ·have c2:decide (((fanV p i:Nat):Int)<((fanPrev p i:Nat):Int))=true:=dT (by omega)
   have hf:=bad (fanUp_fail (by rw [hs];exact dF (by omega)) (show i+1≤256 by omega)) g1 og1
   refine .inr ?_
   simp only [zar.l7,zar.c7,zar.k7,zar.r8,zar.c8,zar.k9,zar.c10,zar.k10,zar.c11,c1,cond_true,Rg.ldA,bA_some,wr,i1,i2,cxC,e1',cI_some,c2]
   exact hf
  ·have c2:decide (((fanV p i:Nat):Int)<((fanPrev p i:Nat):Int))=false:=dF (by omega)
   refine .inl ⟨_,g1,?_,i+1,by omega,rfl,by rw [hs];exact dT (by omega),og1⟩
   rw [hnext]
   simp only [zar.l7,zar.c7,zar.k7,zar.r8,zar.c8,zar.k9,zar.c10,zar.k10,zar.r12,zar.c12,zar.r13,zar.c13,c1,cond_true,Rg.ldA,bA_some,wr,i1,i2,cxC,e1',cI_some,c2,cond_false,i3]
 ·rintro s g n' ⟨i,hi,rfl,hu,og⟩
  obtain rfl:i=256:=by omega
  have c1:decide (((256:Nat):Int)<256)=false:=rfl
  have hf:=fin hu g og
  simp only [zar.l7,zar.c7,zar.k7,c1,cond_false]
  exact hf
theorem cnt_far{F m:Nat}{out:Res→Prop}{Jn:V×Int×Int×Unit→AH→Res}{Jr:V×V×V×Unit→AH→Res}{h:AH}{b e n:Nat}{pv:V}{p:List Nat}(hF:n+40<F)(hn:n≤4096)(hw:h.WF)(R:Rd h b e pv p)(hl:1096+40*n≤p.length)(hlen:p.length≤1000000)
  (fin:∀ h',Old h.next h h'→out (Jn (.ptr ⟨b,1,0⟩,(n:Int),((kP p n n:Nat):Int),()) h')) :
  out (zar.k19 (cx F (m+2)) Jn Jr (.ptr ⟨b,1,0⟩,(n:Int),0,(n:Int),0,()) h):=by
 show out (loopN zar.P40 F (fun t h n'=>zar.l20 (cx F (m+2)) n' Jn Jr t h) (.ptr ⟨b,1,0⟩,(n:Int),0,(n:Int),0,()) h)
 refine loop_rule (S:=zar.P40) (out:=out)
  (fun k s g=>∃ i:Nat,i+k=n∧s=(.ptr ⟨b,1,0⟩,(n:Int),((kP p n i:Nat):Int),(n:Int),(i:Int),())∧Old h.next h g) ?_ ?_ n F _ _ ⟨0,by omega,rfl,Old.refl hw _⟩ (by omega)
 ·rintro k s g n' ⟨i,hi,rfl,og⟩
  have Rg:=R.old hw og
  have i1:IntKind.wrap .i64 (36*(n:Int))=((36*n:Nat):Int):=wi (by omega) (by omega)
  have i2:IntKind.wrap .i64 (1032+((36*n:Nat):Int))=((1032+36*n:Nat):Int):=wi (by omega) (by omega)
  have i4:IntKind.wrap .i64 (4*(i:Int))=((4*i:Nat):Int):=wi (by omega) (by omega)
  have i5:IntKind.wrap .i64 (((1032+36*n:Nat):Int)+((4*i:Nat):Int))=((1032+36*n+4*i:Nat):Int):=wi (by omega) (by omega)
  have i3:IntKind.wrap .i64 ((i:Int)+1)=((i+1:Nat):Int):=wi (by omega) (by omega)
  have hk:=kP_le p n i
  have i6:IntKind.wrap .i64 (((kP p n i:Nat):Int)+1)=((kP p n i+1:Nat):Int):=wi (by omega) (by omega)
  obtain ⟨g1,e1,o1⟩:=four_cell (F:=F) (n:=m) (by omega) og.wf Rg.bs (by omega) (a:=1032+36*n+4*i) (by omega)
  have og1:=og.trans (o1.weak og.next)
  have c1:decide ((i:Int)<(n:Int))=true:=dT (by omega)
  have hs:=kP_succ p n i
  have e1':runC (EE F) (m+2) nzas [.agg [pv],.int .i64 ((1032+36*n+4*i:Nat):Int)] g=some (.int .u64 ((atV p n i:Nat):Int),g1):=e1
  by_cases hb:2147483648≤atV p n i
  ·have c2:decide (((atV p n i:Nat):Int)≥2147483648)=true:=dT (by omega)
   rw [if_pos (show farF p n i=true from dT hb)] at hs
   refine .inl ⟨_,g1,?_,i+1,by omega,rfl,og1⟩
   rw [hs]
   simp only [zar.l20,zar.c20,zar.k20,zar.r21,zar.c21,zar.k22,zar.c23,zar.r24,zar.c24,c1,cond_true,Rg.ldA,bA_some,wr,i1,i2,i4,i5,cxC,e1',cI_some,c2,i3,i6]
  ·have c2:decide (((atV p n i:Nat):Int)≥2147483648)=false:=dF (by omega)
   have hs:kP p n (i+1)=kP p n i:=by rw [hs,if_neg (show ¬farF p n i=true by rw [show farF p n i=false from dF hb];decide)];rfl
   refine .inl ⟨_,g1,?_,i+1,by omega,rfl,og1⟩
   rw [hs]
   simp only [zar.l20,zar.c20,zar.k20,zar.r21,zar.c21,zar.k22,zar.r24,zar.c24,c1,cond_true,Rg.ldA,bA_some,wr,i1,i2,i4,i5,cxC,e1',cI_some,c2,cond_false,i3]
 ·rintro s g n' ⟨i,hi,rfl,og⟩
  obtain rfl:i=n:=by omega
  have c1:decide ((i:Int)<(i:Int))=false:=dF (by omega)
  have hf:=fin g og
  simp only [zar.l20,zar.c20,zar.k20,c1,cond_false]
  exact hf
abbrev szV(x:Nat×Nat×Int):V:=.tuple [.int .i64 ((x.1:Nat):Int),.int .i64 ((x.2.1:Nat):Int),.int .i64 x.2.2]
theorem count_cps{F m:Nat}(hF:5000<F){h:AH}(hw:h.WF){pv:V}{p:List Nat}(hp:Bs h pv p)(hlen:p.length≤1000000)
  {out:Res→Prop} (fin:∀ h',Old h.next h h'→out (some (szV (szM p),h'))):out (runC (EE F) (m+3) nzar [.agg [pv]] h):=by
 rw [tzar]
 obtain ⟨h1,e1,c1,n1,o1⟩:=box_cells hw [pv] T_packidx_reader (by simp [hp.cellOk])
 have R1:Rd h1 h.next T_packidx_reader pv p:=⟨c1,hp.old hw o1⟩
 have e1':absBox T_packidx_reader (.agg [pv]) h=some (.ptr ⟨h.next,1,0⟩,h1):=e1
 simp only [zar.fn,zar.c0,zar.k0,zar.c1,zar.k1,e1',cV_some,fA_ptr,bV_some,R1.ld,R1.bs.1.len,bI_some]
 unfold szM at fin
 by_cases hs:p.length<1096
 ·have d1:decide ((p.length:Int)<1096)=true:=dT (by omega)
  rw [if_pos hs] at fin
  simp only [d1,cond_true,zar.c2,zar.ret]
  exact fin h1 o1
 ·have d1:decide ((p.length:Int)<1096)=false:=dF (by omega)
  rw [if_neg hs] at fin
  obtain ⟨w,s1,s2⟩:=R1.bs.cut (lo:=none) (hi:=some (.int .i64 8)) (l:=0) (u:=8) (.inr rfl) (.inl ⟨rfl,rfl⟩) (by omega) (by omega)
  rw [List.drop_zero,Nat.sub_zero] at s2
  have hmag:([255,116,79,99,0,0,0,2]:List Nat)=magicM:=rfl
  simp only [d1,cond_false,zar.r3,zar.c3,zar.k3,fA_ptr,bV_some,R1.ld,s1,s2.toS,cZ_some,natsEq_eq]
  rw [hmag]
  by_cases hm:p.take 8=magicM
  ·rw [if_neg (fun hh=>hh hm)] at fin
   rw [dT hm]
   simp only [Bool.not_true,cond_false,zar.r5,zar.c5,zar.k5,zar.c6]
   refine cnt_fan (m:=m) (out:=out) (by omega) o1.wf R1 (by omega) hlen (fun hf h2 o2=>?_) (fun hf h2 o2=>?_)
   ·rw [if_pos hf] at fin
    exact fin h2 (o1.trans (o2.weak o1.next))
   ·have o12:=o1.trans (o2.weak o1.next)
    rw [if_neg (by rw [hf];decide)] at fin
    generalize lastN p=n at *
    simp only [zar.r14,zar.c14,zar.k14]
    by_cases hbig:4096<n
    ·have d2:decide ((n:Int)>4096)=true:=dT (by omega)
     rw [if_pos hbig] at fin
     simp only [d2,cond_true,zar.c15,zar.ret]
     exact fin h2 o12
    ·have d2:decide ((n:Int)>4096)=false:=dF (by omega)
     rw [if_neg hbig] at fin
     have R2:=R1.old o1.wf o2
     have j0:IntKind.wrap .i64 (n:Int)=(n:Int):=wi rfl (by omega)
     have j1:IntKind.wrap .i64 (40*(n:Int))=((40*n:Nat):Int):=wi (by omega) (by omega)
     have j2:IntKind.wrap .i64 (1032+((40*n:Nat):Int))=((1032+40*n:Nat):Int):=wi (by omega) (by omega)
     have j3:IntKind.wrap .i64 (((1032+40*n:Nat):Int)+64)=((1096+40*n:Nat):Int):=wi (by omega) (by omega)
     have dd:∀ x:Int,decide (x<IntKind.wrap .i64 (IntKind.wrap .i64 (1032+IntKind.wrap .i64 (40*(n:Int)))+64))=decide (x<((1096+40*n:Nat):Int)):=fun x=>by rw [j1,j2,j3]
     simp only [d2,cond_false,zar.r16,zar.c16,zar.k16,zar.c17,zar.k17,wr,j0,fA_ptr,bV_some,R2.ld,R2.bs.1.len,bI_some,↓dd]
     by_cases hsh:p.length<1096+40*n
     ·rw [if_pos hsh] at fin
      rw [dT (show (p.length:Int)<((1096+40*n:Nat):Int) by omega)]
      simp only [cond_true,zar.c18,zar.ret]
      exact fin h2 o12
     ·rw [if_neg hsh] at fin
      rw [dF (show ¬(p.length:Int)<((1096+40*n:Nat):Int) by omega)]
      simp only [cond_false,zar.r19,zar.c19]
      refine cnt_far (m:=m) (n:=n) (out:=out) (by omega) (by omega) o2.wf R2 (by omega) hlen (fun h3 o3=>?_)
      have o13:=o12.trans (o3.weak o12.next)
      have R3:=R2.old o2.wf o3
      have hk:=kP_le p n n
      generalize kP p n n=f at *
      have j4:IntKind.wrap .i64 (8*(f:Int))=((8*f:Nat):Int):=wi (by omega) (by omega)
      have j5:IntKind.wrap .i64 (((1032+40*n:Nat):Int)+((8*f:Nat):Int))=((1032+40*n+8*f:Nat):Int):=wi (by omega) (by omega)
      have j6:IntKind.wrap .i64 (((1032+40*n+8*f:Nat):Int)+64)=((1096+40*n+8*f:Nat):Int):=wi (by omega) (by omega)
      simp only [zar.r25,zar.c25,wr,j1,j2,j4,j5,j6]
      simp only [zar.k25,zar.c26,zar.k26,fA_ptr,bV_some,R3.ld,R3.bs.1.len,bI_some]
      by_cases hx:p.length<1096+40*n+8*f
      ·rw [if_pos hx] at fin
       rw [dT (show (p.length:Int)<((1096+40*n+8*f:Nat):Int) by omega)]
       simp only [cond_true,zar.c27,zar.ret]
       exact fin h3 o13
      ·rw [if_neg hx] at fin
       rw [dF (show ¬(p.length:Int)<((1096+40*n+8*f:Nat):Int) by omega)]
       simp only [cond_false,zar.c28,zar.k28,fA_ptr,bV_some,R3.ld,R3.bs.1.len,bI_some]
       by_cases hy:1096+40*n+8*f<p.length
       ·rw [if_pos hy] at fin
        rw [dT (show (p.length:Int)>((1096+40*n+8*f:Nat):Int) by omega)]
        simp only [cond_true,zar.c29,zar.ret]
        exact fin h3 o13
       ·rw [if_neg hy] at fin
        rw [dF (show ¬(p.length:Int)>((1096+40*n+8*f:Nat):Int) by omega)]
        simp only [cond_false,zar.r30,zar.c30,zar.ret]
        exact fin h3 o13
  ·rw [if_pos hm] at fin
   rw [dF hm]
   simp only [Bool.not_false,cond_true,zar.c4,zar.ret]
   exact fin h1 o1
end Go.Proofs.YtcmhoboglapbdaaDoor
namespace Go.Proofs.YtcmhoboglapbdaaDoor
open Go Ev
abbrev z32:List Nat:=List.replicate 32 0
def rz:Row:=⟨z32,0,0⟩
theorem rz_ok:rz.ok:=⟨rfl,by decide,by decide,by decide⟩
def idV(p:List Nat)(i:Nat):List Nat:=part p (1032+32*i) 32
def crcV(p:List Nat)(n i:Nat):Nat:=g4 p (1032+32*n+4*i)
def farV(p:List Nat)(n i:Nat):Nat:=bigN (part p (1032+40*n+8*kP p n i) 8)
def rowP(p:List Nat)(n i:Nat):Row:=⟨idV p i,crcV p n i,if farF p n i=true then farV p n i else atV p n i⟩
def rowsP(p:List Nat)(n:Nat):List Row:=(List.range n).map (rowP p n)
def atsOK(p:List Nat)(n m:Nat):Prop:=∀ i,i<m→farF p n i=true→atV p n i=2147483648+kP p n i
def ordOK(p:List Nat)(n m:Nat):Prop:=∀ i,0<i→i<m→Lt (rowP p n (i-1)) (rowP p n i)
def fanOK(p:List Nat)(l:List Row)(m:Nat):Prop:=∀ b,b<m→fanV p b=upto l b
def readOK(p:List Nat)(n:Nat):Prop:=atsOK p n n∧ordOK p n n∧fanOK p (rowsP p n) 256
open Classical in
noncomputable def parseR(p:List Nat):List Row×List Nat×Int :=
 if (szM p).2.2≠0 then ([],z32,(szM p).2.2) else if ¬sumM (p.take (p.length-32))=p.drop (p.length-32) then ([],z32,6)
 else if readOK p (szM p).1 then (rowsP p (szM p).1,part p (p.length-64) 32,0) else ([],z32,4)
theorem szM_cases(p:List Nat):(szM p).2.2≠0∨(szM p=(lastN p,kP p (lastN p) (lastN p),0)∧p.length=1096+40*lastN p+8*kP p (lastN p) (lastN p)∧lastN p≤4096∧p.take 8=magicM∧fanUp p 256=true):=by
 unfold szM
 by_cases h1:p.length<1096
 ·rw [if_pos h1];exact .inl (by decide)
 rw [if_neg h1]
 by_cases h2:p.take 8=magicM
 ·rw [if_neg (fun hh=>hh h2)]
  by_cases h3:fanUp p 256=false
  ·rw [if_pos h3];exact .inl (by decide)
  rw [if_neg h3]
  by_cases h4:4096<lastN p
  ·rw [if_pos h4];exact .inl (by decide)
  rw [if_neg h4]
  by_cases h5:p.length<1096+40*lastN p
  ·rw [if_pos h5];exact .inl (by decide)
  rw [if_neg h5]
  by_cases h6:p.length<1096+40*lastN p+8*kP p (lastN p) (lastN p)
  ·rw [if_pos h6];exact .inl (by decide)
  rw [if_neg h6]
  by_cases h7:1096+40*lastN p+8*kP p (lastN p) (lastN p)<p.length
  ·rw [if_pos h7];exact .inl (by decide)
  rw [if_neg h7]
  exact .inr ⟨rfl,by omega,by omega,h2,by simpa using h3⟩
 ·rw [if_pos h2];exact .inl (by decide)
theorem rowsP_len(p:List Nat)(n:Nat):(rowsP p n).length=n:=by simp [rowsP]
theorem rowsP_get{p:List Nat}{n i:Nat}(h:i<n):(rowsP p n)[i]?=some (rowP p n i):=by
 unfold rowsP;rw [List.getElem?_map,List.getElem?_range h];rfl
theorem rowP_ok{p:List Nat}(hp:∀ x∈p,x<256){n i:Nat}(hi:i<n)(hl:1096+40*n≤p.length):(rowP p n i).ok:=by
 refine ⟨part_len (by omega),part_byte hp _ _,g4_lt hp _,?_⟩
 show (if farF p n i=true then farV p n i else atV p n i)<18446744073709551616
 split
 ·unfold farV
  have h1:=bigN_lt _ (part_byte hp (1032+40*n+8*kP p n i) 8)
  have h2:(part p (1032+40*n+8*kP p n i) 8).length≤8:=by unfold part;rw [List.length_take];omega
  have h3:=pow256_le h2
  have h4:256 ^ 8=18446744073709551616:=by decide
  omega
 ·have:=g4_lt hp (1032+36*n+4*i)
  show g4 p (1032+36*n+4*i)<_
  omega
theorem rowsP_ok{p:List Nat}(hp:∀ x∈p,x<256){n:Nat}(hl:1096+40*n≤p.length):∀ r∈rowsP p n,r.ok:=by
 intro r hr
 obtain ⟨i,hi,rfl⟩:=List.mem_map.1 hr
 exact rowP_ok hp (List.mem_range.1 hi) hl
theorem rowsP_rat{p:List Nat}{n i:Nat}(h:i<n):rat (rowsP p n) i=rowP p n i:=by
 unfold rat;rw [List.getD_eq_getElem?_getD,rowsP_get h];rfl
theorem fill_rat{l:List Row}{n i j:Nat}(hl:l.length=n)(hj:j<i)(hi:i≤n):rat (l.take i++List.replicate (n-i) rz) j=rat l j:=by
 unfold rat
 rw [List.getD_eq_getElem?_getD,List.getD_eq_getElem?_getD,List.getElem?_append_left (by rw [List.length_take];omega),List.getElem?_take_of_lt hj]
theorem zero_id:bld [] (List.replicate 32 (.int .u8 0))=some (.agg (byteL z32)):=rfl
theorem err_set{g:AH}{b e n0:Nat}{x:List Nat}(hc:Cells g b e (byteL x))(hx:x.length=32)(hw:g.WF)(hn:n0≤b){y:List Nat}(hy:y.length=32):∃ g',st 32 (.ptr ⟨b,32,0⟩) (.agg (byteL y)) g=some g'∧ldA 32 (.ptr ⟨b,32,0⟩) g'=some (.agg (byteL y))∧Old n0 g g'∧Wrote g g' b:=by
 obtain ⟨g',p1,p2,p3⟩:=hc.put hw (n:=32) (vs:=byteL y) (by rw [byteL_len,hx]) (by rw [byteL_len,hy]) (byteL_cell _)
 exact ⟨g',p1,p2.ldA (by rw [byteL_len,hy]),p3.old hn,p3⟩
theorem fin3{a b c:V}{o:Option V}(h:o=some b)(g:AH):finW [some a,o,some c] g=some (.tuple [a,b,c],g):=by rw [h];rfl
theorem quiet_four{F m:Nat}(hF:40<F){g:AH}(hw:g.WF){pv:V}{p:List Nat}(hp:Bs g pv p)(hlen:p.length≤1000000){a:Nat}(ha:a+4≤p.length) :
  ∃ g',quiet (fun h=>runC (EE F) (m+2) nzas [.agg [pv],.int .i64 (a:Int)] h) g=some (.int .u64 ((g4 p a:Nat):Int),g')∧Old g.next g g' :=
 quiet_of (four_cell hF (wf_low hw g.next) (show Bs ⟨g.next,g.next,g.m⟩ pv p from hp) (by omega) ha)
theorem pr_rows{F m:Nat}(hF:5000<F){out:Res→Prop}{Jn:V×V×V×Int×V×Unit→AH→Res}{Jr:V×V×V×Unit→AH→Res}{h:AH}{b b1 e n n0:Nat}{pv v:V}{p:List Nat}{en:Int}(hw:h.WF)(hn:n≤4096)(hlen:p.length≤1000000)(hl:p.length=1096+40*n+8*kP p n n)(hn0:n0≤h.next)
  (hR:∀ g,Old n0 h g→Rd g b e pv p) (hC:∀ g,Old n0 h g→Cells g b1 T_api_Id (byteL z32)) (H:Has n0 v h (List.replicate n rz))
  (bad:¬(atsOK p n n∧ordOK p n n)→∀ h',Old n0 h h'→out ((bA (bld [] (List.replicate 32 (.int .u8 0))) h' fun x h487=>bS (st 32 (.ptr ⟨b1,32,0⟩) (.agg x) h487) fun h488=>Jr (.nilslice,.ptr ⟨b1,32,0⟩,.int .i64 4,()) h488)))
  (fin:atsOK p n n→ordOK p n n→∀ h',Has n0 v h' (rowsP p n)→Old n0 h h'→out (Jn (pv,.ptr ⟨b1,32,0⟩,.ptr ⟨b,1,0⟩,en,v,()) h')) :
  out (zan.k11 (cx F (m+3)) Jn Jr (pv,.ptr ⟨b1,32,0⟩,.ptr ⟨b,1,0⟩,(n:Int),en,v,0,(n:Int),0,()) h):=by
 have hp8:=(hR h (Old.refl hw _)).bs.2
 show out (loopN zan.P24 F (fun t h n'=>zan.l12 (cx F (m+3)) n' Jn Jr t h) (pv,.ptr ⟨b1,32,0⟩,.ptr ⟨b,1,0⟩,(n:Int),en,v,0,(n:Int),0,()) h)
 refine loop_rule (S:=zan.P24) (out:=out)
  (fun k s g=>∃ i:Nat,i+k=n∧s=(pv,.ptr ⟨b1,32,0⟩,.ptr ⟨b,1,0⟩,(n:Int),en,v,((kP p n i:Nat):Int),(n:Int),(i:Int),())∧atsOK p n i∧ordOK p n i∧Has n0 v g ((rowsP p n).take i++List.replicate (n-i) rz)∧Old n0 h g) ?_ ?_ n F _ _
  ⟨0,by omega,rfl,(fun i hi=>by omega),(fun i h0 hi=>by omega),by simpa using H,Old.refl hw _⟩ (by omega)
 ·rintro k s g n' ⟨i,hi,rfl,ha,ho,H1,og⟩
  have hlt:i<n:=by omega
  have Rg:=hR g og
  have i1:IntKind.wrap .i64 (36*(n:Int))=((36*n:Nat):Int):=wi (by omega) (by omega)
  have i2:IntKind.wrap .i64 (1032+((36*n:Nat):Int))=((1032+36*n:Nat):Int):=wi (by omega) (by omega)
  have i4:IntKind.wrap .i64 (4*(i:Int))=((4*i:Nat):Int):=wi (by omega) (by omega)
  have i5:IntKind.wrap .i64 (((1032+36*n:Nat):Int)+((4*i:Nat):Int))=((1032+36*n+4*i:Nat):Int):=wi (by omega) (by omega)
  have i3:IntKind.wrap .i64 ((i:Int)+1)=((i+1:Nat):Int):=wi (by omega) (by omega)
  have hk:=kP_le p n i
  have hkm:=kP_mono p n (show i+1≤n by omega)
  have hks:=kP_succ p n i
  obtain ⟨g1,e1,o1⟩:=four_cell (F:=F) (n:=m+1) (by omega) og.wf Rg.bs (by omega) (a:=1032+36*n+4*i) (by omega)
  have e1':runC (EE F) (m+3) nzas [.agg [pv],.int .i64 ((1032+36*n+4*i:Nat):Int)] g=some (.int .u64 ((atV p n i:Nat):Int),g1):=e1
  have og1:Old n0 h g1:=og.trans (o1.weak (Nat.le_trans hn0 og.next))
  have H2:=H1.old og.wf o1
  have c1:decide ((i:Int)<(n:Int))=true:=dT (by omega)
  have hrok:=rowP_ok hp8 hlt (show 1096+40*n≤p.length by omega)
  have row:∀ (g1:AH) (pos k':Nat),pos=(rowP p n i).pos→k'=kP p n (i+1)→atsOK p n (i+1)→Has n0 v g1 ((rowsP p n).take i++List.replicate (n-i) rz)→Old n0 h g1 →
    ((∃ s' h',zan.r20 (cx F (m+3)) (zan.r23 (cx F (m+3)) n' Jn Jr) (zan.r23 (cx F (m+3)) n' Jn Jr) Jn Jr (pv,.ptr ⟨b1,32,0⟩,.ptr ⟨b,1,0⟩,(n:Int),en,v,((k':Nat):Int),(i:Int),((pos:Nat):Int),(n:Int),(i:Int),()) g1=n' s' h' ∧
     ∃ i:Nat,i+k=n∧s'=(pv,.ptr ⟨b1,32,0⟩,.ptr ⟨b,1,0⟩,(n:Int),en,v,((kP p n i:Nat):Int),(n:Int),(i:Int),())∧atsOK p n i∧ordOK p n i∧Has n0 v h' ((rowsP p n).take i++List.replicate (n-i) rz)∧Old n0 h h') ∨
    out (zan.r20 (cx F (m+3)) (zan.r23 (cx F (m+3)) n' Jn Jr) (zan.r23 (cx F (m+3)) n' Jn Jr) Jn Jr (pv,.ptr ⟨b1,32,0⟩,.ptr ⟨b,1,0⟩,(n:Int),en,v,((k':Nat):Int),(i:Int),((pos:Nat):Int),(n:Int),(i:Int),()) g1)):=by
   intro g1 pos k' hpos hk' ha1 H2 og1
   subst hpos
   subst hk'
   have R1:=hR g1 og1
   have j1:IntKind.wrap .i64 (32*(i:Int))=((32*i:Nat):Int):=wi (by omega) (by omega)
   have j2:IntKind.wrap .i64 (1032+((32*i:Nat):Int))=((1032+32*i:Nat):Int):=wi (by omega) (by omega)
   have j3:IntKind.wrap .i64 (((1032+32*i:Nat):Int)+32)=((1032+32*i+32:Nat):Int):=wi (by omega) (by omega)
   have j4:IntKind.wrap .i64 (32*(n:Int))=((32*n:Nat):Int):=wi (by omega) (by omega)
   have j5:IntKind.wrap .i64 (1032+((32*n:Nat):Int))=((1032+32*n:Nat):Int):=wi (by omega) (by omega)
   have j6:IntKind.wrap .i64 (((1032+32*n:Nat):Int)+((4*i:Nat):Int))=((1032+32*n+4*i:Nat):Int):=wi (by omega) (by omega)
   obtain ⟨w,s1,s2⟩:=R1.bs.cut (lo:=some (.int .i64 ((1032+32*i:Nat):Int))) (hi:=some (.int .i64 ((1032+32*i+32:Nat):Int))) (l:=1032+32*i) (u:=1032+32*i+32) (.inr rfl) (.inr rfl) (by omega) (by omega)
   rw [show 1032+32*i+32-(1032+32*i)=32 by omega] at s2
   change Bs g1 w (idV p i) at s2
   have hid:(idV p i).length=32:=part_len (by omega)
   obtain ⟨a,t1,t2⟩:=s2.arr (m:=32) (by omega) (by omega)
   rw [List.take_of_length_le (by omega)] at t2
   obtain ⟨g2,q1,q2⟩:=quiet_four (F:=F) (m:=m+1) (by omega) og1.wf R1.bs hlen (a:=1032+32*n+4*i) (by omega)
   have q1':quiet (fun h=>runC (EE F) (m+3) nzas [.agg [pv],.int .i64 ((1032+32*n+4*i:Nat):Int)] h) g1=some (.int .u64 ((crcV p n i:Nat):Int),g2):=q1
   have og2:Old n0 h g2:=og1.trans (q2.weak (Nat.le_trans hn0 og1.next))
   have hcr:=hrok.2.2.1
   have hcr':crcV p n i<4294967296:=hcr
   have j7:IntKind.wrap .u32 ((crcV p n i:Nat):Int)=((crcV p n i:Nat):Int):=by rw [wr_u32];omega
   have hbld:=bld_row hrok
   have hbld':bld [(0,32,(.agg (byteL (idV p i)))),(32,1,(.int .u32 ((crcV p n i:Nat):Int))),(33,1,(.int .u64 (((rowP p n i).pos:Nat):Int)))] zRow=some (.agg (rowL (rowP p n i))):=hbld
   have hfl:((rowsP p n).take i++List.replicate (n-i) rz).length=n:=by rw [List.length_append,List.length_take,List.length_replicate,rowsP_len];omega
   obtain ⟨x,g3,u1,u2,H3,o3,_⟩:=(H2.old og1.wf q2).put q2.wf (i:=i) (by omega) hrok
   rw [fill_set (rowsP_len p n) hlt (rowsP_get hlt)] at H3
   have og3:=og2.trans o3
   have hfl3:((rowsP p n).take (i+1)++List.replicate (n-(i+1)) rz).length=n:=by rw [List.length_append,List.length_take,List.length_replicate,rowsP_len];omega
   by_cases h0:0<i
   ·have c2:decide ((i:Int)>0)=true:=dT (by omega)
    have j8:IntKind.wrap .i64 ((i:Int)-1)=((i-1:Nat):Int):=wi (by omega) (by omega)
    obtain ⟨y1,v1,v2⟩:=H3.at (i:=i-1) (by omega)
    obtain ⟨y2,v3,v4⟩:=H3.at (i:=i) (by omega)
    rw [fill_rat (rowsP_len p n) (by omega) (by omega),rowsP_rat (by omega)] at v2 v4
    obtain ⟨g4',w1,w2⟩:=byId_spec (F:=F) (m:=m) o3.wf (rowP_ok hp8 (show i-1<n by omega) (show 1096+40*n≤p.length by omega)) hrok
    have H4:=H3.old og3.wf w2
    have og4:=og3.trans (w2.weak (Nat.le_trans hn0 og3.next))
    have hxy:=ptr_eq u1 v3
    subst hxy
    by_cases hlt2:Lt (rowP p n (i-1)) (rowP p n i)
    ·have hlt3:cmpN (rowP p n (i-1)).id (rowP p n i).id<0:=hlt2
     have c3:decide (cmpN (rowP p n (i-1)).id (rowP p n i).id≥0)=false:=dF (by omega)
     refine .inl ⟨_,g4',?_,i+1,by omega,rfl,ha1,fun j hj0 hj=>?_,H4,og4⟩
     ·simp -implicitDefEqProofs only [zan.r20,zan.c20,wr,j1,j2,j3,s1,bV_some,t1,ldA_of t2,bA_some,R1.ldA,j4,j5,i4,j6,cxC,q1',cI_some,j7,hbld',u1,u2,bS_some,c2,cond_true,j8,v1,v2,v4,w1,c3,zan.k21,zan.r23,zan.c23,cond_false,i3]
     ·by_cases e:j=i
      ·rw [e];exact hlt2
      ·exact ho j hj0 (by omega)
    ·have hlt3:¬cmpN (rowP p n (i-1)).id (rowP p n i).id<0:=hlt2
     have c3:decide (cmpN (rowP p n (i-1)).id (rowP p n i).id≥0)=true:=dT (by omega)
     refine .inr ?_
     have hb:=bad (fun hh=>hlt2 (hh.2 i h0 hlt)) g4' og4
     simp -implicitDefEqProofs only [zan.r20,zan.c20,wr,j1,j2,j3,s1,bV_some,t1,ldA_of t2,bA_some,R1.ldA,j4,j5,i4,j6,cxC,q1',cI_some,j7,hbld',u1,u2,bS_some,c2,cond_true,j8,v1,v2,v4,w1,c3,zan.k21,zan.c22]
     exact hb
   ·obtain rfl:i=0:=by omega
    have c2:decide (((0:Nat):Int)>0)=false:=rfl
    refine .inl ⟨_,g3,?_,1,by omega,rfl,ha1,fun j hj0 hj=>by omega,H3,og3⟩
    simp -implicitDefEqProofs only [zan.r20,zan.c20,wr,j1,j2,j3,s1,bV_some,t1,ldA_of t2,bA_some,R1.ldA,j4,j5,i4,j6,cxC,q1',cI_some,j7,hbld',u1,u2,bS_some,c2,cond_false,zan.k21,zan.r23,zan.c23,i3]
  simp only [zan.l12,zan.c12,zan.k12,c1,cond_true,zan.r13,zan.c13,Rg.ldA,bA_some,wr,i1,i2,i4,i5,cxC,e1',cI_some,zan.k14,zan.c15]
  by_cases hf:2147483648≤atV p n i
  ·have hff:farF p n i=true:=dT hf
   rw [if_pos hff] at hks
   have c2:decide (((atV p n i:Nat):Int)≥2147483648)=true:=dT (by omega)
   have j1:IntKind.wrap .u64 (2147483648+IntKind.wrap .u64 ((kP p n i:Nat):Int))=((2147483648+kP p n i:Nat):Int):=by rw [wr_u64,wr_u64];omega
   simp only [c2,zan.k15,zan.c16,cond_true,wr,j1]
   by_cases hx:atV p n i=2147483648+kP p n i
   ·have c3:(((atV p n i:Nat):Int) != ((2147483648+kP p n i:Nat):Int))=false:=by rw [hx];exact bne_self_eq_false ..
    have j2:IntKind.wrap .i64 (40*(n:Int))=((40*n:Nat):Int):=wi (by omega) (by omega)
    have j3:IntKind.wrap .i64 (1032+((40*n:Nat):Int))=((1032+40*n:Nat):Int):=wi (by omega) (by omega)
    have j4:IntKind.wrap .i64 (8*((kP p n i:Nat):Int))=((8*kP p n i:Nat):Int):=wi (by omega) (by omega)
    have j5:IntKind.wrap .i64 (((1032+40*n:Nat):Int)+((8*kP p n i:Nat):Int))=((1032+40*n+8*kP p n i:Nat):Int):=wi (by omega) (by omega)
    have j6:IntKind.wrap .i64 (((kP p n i:Nat):Int)+1)=((kP p n i+1:Nat):Int):=wi (by omega) (by omega)
    have b1:=numBig_spec (F:=F) (n:=m+2) (by omega) (hR g1 og1).bs (by omega) (a:=1032+40*n+8*kP p n i) (m:=8) (by omega) (by omega)
    have b1':runC (EE F) (m+3) nzaj [pv,.int .i64 ((1032+40*n+8*kP p n i:Nat):Int),.int .i64 8] g1=some (.tuple [.int .u64 ((farV p n i:Nat):Int),.int .i64 0],g1):=b1
    simp only [c3,zan.k16,zan.r18,zan.c18,cond_false,wr,j2,j3,j4,j5,cxC,b1',cV_some,ex0,ex1,bI_some,j6]
    refine row g1 (farV p n i) (kP p n i+1) ?_ hks.symm (fun j hj hjf=>?_) H2 og1
    ·show farV p n i=if farF p n i=true then farV p n i else atV p n i
     rw [if_pos hff]
    ·by_cases e:j=i
     ·rw [e];exact hx
     ·exact ha j (by omega) hjf
   ·have c3:(((atV p n i:Nat):Int) != ((2147483648+kP p n i:Nat):Int))=true:=by rw [bne_iff_ne];omega
    refine .inr ?_
    have hb:=bad (fun hh=>hx (hh.1 i hlt hff)) g1 og1
    simp only [c3,zan.k16,zan.c17,cond_true]
    exact hb
  ·have hff:farF p n i=false:=dF hf
   have hks:kP p n (i+1)=kP p n i:=by rw [hks,if_neg (by rw [hff];decide)];rfl
   have c2:decide (((atV p n i:Nat):Int)≥2147483648)=false:=dF (by omega)
   simp only [c2,zan.k15,cond_false]
   refine row g1 (atV p n i) (kP p n i) ?_ hks.symm (fun j hj hjf=>?_) H2 og1
   ·show atV p n i=if farF p n i=true then farV p n i else atV p n i
    rw [if_neg (by rw [hff];decide)]
   ·by_cases e:j=i
    ·rw [e,hff] at hjf;cases hjf
    ·exact ha j (by omega) hjf
 ·rintro s g n' ⟨i,hi,rfl,ha,ho,H1,og⟩
  obtain rfl:i=n:=by omega
  have c1:decide ((i:Int)<(i:Int))=false:=dF (by omega)
  rw [Nat.sub_self,List.replicate_zero,List.append_nil,List.take_of_length_le (by rw [rowsP_len];omega)] at H1
  have hf:=fin ha ho g H1 og
  simp only [zan.l12,zan.c12,zan.k12,c1,cond_false]
  exact hf
theorem pr_fans{F m:Nat}(hF:5000<F){out:Res→Prop}{Jn:V×V×Int×V×Unit→AH→Res}{Jr:V×V×V×Unit→AH→Res}{h:AH}{b b1 e n0:Nat}{pv v:V}{p:List Nat}{l:List Row}{en:Int}(hw:h.WF)(hlen:p.length≤1000000)(hl:1096≤p.length)(hll:l.length≤4096)(hn0:n0≤h.next)
  (hR:∀ g,Old n0 h g→Rd g b e pv p)
  (bad:¬fanOK p l 256→∀ h',Old n0 h h'→out ((bA (bld [] (List.replicate 32 (.int .u8 0))) h' fun x h487=>bS (st 32 (.ptr ⟨b1,32,0⟩) (.agg x) h487) fun h488=>Jr (.nilslice,.ptr ⟨b1,32,0⟩,.int .i64 4,()) h488)))
  (fin:fanOK p l 256→∀ h',Old n0 h h'→out (Jn (pv,.ptr ⟨b1,32,0⟩,en,v,()) h')) :
  out (zan.k24 (cx F (m+3)) Jn Jr (pv,.ptr ⟨b1,32,0⟩,.ptr ⟨b,1,0⟩,en,v,iL 256 (upto l),0,()) h):=by
 show out (loopN zan.P50 F (fun t h n'=>zan.l25 (cx F (m+3)) n' Jn Jr t h) (pv,.ptr ⟨b1,32,0⟩,.ptr ⟨b,1,0⟩,en,v,iL 256 (upto l),0,()) h)
 refine loop_rule (S:=zan.P50) (out:=out)
  (fun k s g=>∃ i:Nat,i+k=256∧s=(pv,.ptr ⟨b1,32,0⟩,.ptr ⟨b,1,0⟩,en,v,iL 256 (upto l),(i:Int),())∧fanOK p l i∧Old n0 h g) ?_ ?_ 256 F _ _ ⟨0,rfl,rfl,(fun b hb=>by omega),Old.refl hw _⟩ (by omega)
 ·rintro k s g n' ⟨i,hi,rfl,ho,og⟩
  have hx:i<256:=by omega
  have hu:=upto_le l i
  have Rg:=hR g og
  have i1:IntKind.wrap .i64 (4*(i:Int))=((4*i:Nat):Int):=wi (by omega) (by omega)
  have i2:IntKind.wrap .i64 (8+((4*i:Nat):Int))=((8+4*i:Nat):Int):=wi (by omega) (by omega)
  have i3:IntKind.wrap .i64 ((i:Int)+1)=((i+1:Nat):Int):=wi (by omega) (by omega)
  obtain ⟨g1,e1,o1⟩:=four_cell (F:=F) (n:=m+1) (by omega) og.wf Rg.bs (by omega) (a:=8+4*i) (by omega)
  have e1':runC (EE F) (m+3) nzas [.agg [pv],.int .i64 ((8+4*i:Nat):Int)] g=some (.int .u64 ((fanV p i:Nat):Int),g1):=e1
  have og1:Old n0 h g1:=og.trans (o1.weak (Nat.le_trans hn0 og.next))
  have c1:decide ((i:Int)<256)=true:=dT (by omega)
  have ei:ixC 256 1 (iL 256 (upto l)) (i:Int)=some (.int .i64 ((upto l i:Nat):Int)):=by
   unfold ixC
   rw [if_pos (by omega),Int.toNat_natCast,Nat.mul_one,iL_get _ hx]
  have j1:IntKind.wrap .u64 ((upto l i:Nat):Int)=((upto l i:Nat):Int):=u64_small (by omega)
  by_cases he:fanV p i=upto l i
  ·have c2:(((fanV p i:Nat):Int) != ((upto l i:Nat):Int))=false:=by rw [he];exact bne_self_eq_false ..
   refine .inl ⟨_,g1,?_,i+1,by omega,rfl,fun b hb=>?_,og1⟩
   ·simp only [zan.l25,zan.c25,zan.k25,zan.r26,zan.c26,zan.k27,zan.r29,zan.c29,c1,cond_true,ei,bI_some,Rg.ldA,bA_some,wr,i1,i2,cxC,e1',cI_some,j1,c2,cond_false,i3]
   ·by_cases e:b=i
    ·rw [e];exact he
    ·exact ho b (by omega)
  ·have c2:(((fanV p i:Nat):Int) != ((upto l i:Nat):Int))=true:=by rw [bne_iff_ne];omega
   refine .inr ?_
   have hb:=bad (fun hh=>he (hh i hx)) g1 og1
   simp only [zan.l25,zan.c25,zan.k25,zan.r26,zan.c26,zan.k27,zan.c28,c1,cond_true,ei,bI_some,Rg.ldA,bA_some,wr,i1,i2,cxC,e1',cI_some,j1,c2]
   simp only [bA] at hb
   exact hb
 ·rintro s g n' ⟨i,hi,rfl,ho,og⟩
  obtain rfl:i=256:=by omega
  have c1:decide (((256:Nat):Int)<256)=false:=rfl
  have hf:=fin ho g og
  simp only [zan.l25,zan.c25,zan.k25,c1,cond_false]
  exact hf
theorem mk_rows{h:AH}(hw:h.WF){n:Nat}(hn:n≤100000):∃ v h',mkS 34 48 (List.replicate 32 (.int .u8 0)++[.int .u32 0]++[.int .u64 0]) T_packidx_Row (n:Int) (n:Int) h=some (v,h')∧Has h.next v h' (List.replicate n rz)∧Old h.next h h':=by
 obtain ⟨v,h',e1,e2,e3⟩:=mkS_own hw (z:=34) (by_:=48) (e:=T_packidx_Row) (zs:=zRow) rfl (by omega) rfl (l:=n) (by omega) (by omega)
 refine ⟨v,h',e1,⟨?_,fun r hr=>by rw [List.eq_of_mem_replicate hr];exact rz_ok⟩,e3⟩
 have e4:(List.replicate n zRow).flatten=rowsL (List.replicate n rz):=by
  unfold rowsL
  rw [List.flatMap_def,List.map_replicate]
  rfl
 rw [e4] at e2
 rw [OwnR,List.length_replicate]
 exact e2
end Go.Proofs.YtcmhoboglapbdaaDoor
namespace Go.Proofs.YtcmhoboglapbdaaDoor
open Go Ev
theorem et0(a b c:V):absExtract (.tuple [a,b,c]) 0=some a:=rfl
theorem et1(a b c:V):absExtract (.tuple [a,b,c]) 1=some b:=rfl
theorem et2(a b c:V):absExtract (.tuple [a,b,c]) 2=some c:=rfl
theorem parseR_e{p:List Nat}(h:(szM p).2.2≠0):parseR p=([],z32,(szM p).2.2):=if_pos h
theorem parseR_s{p:List Nat}(h:¬(szM p).2.2≠0)(hs:¬sumM (p.take (p.length-32))=p.drop (p.length-32)):parseR p=([],z32,6):=by
 unfold parseR;rw [if_neg h,if_pos hs]
theorem parseR_b{p:List Nat}(h:¬(szM p).2.2≠0)(hs:sumM (p.take (p.length-32))=p.drop (p.length-32))(hr:¬readOK p (szM p).1):parseR p=([],z32,4):=by
 unfold parseR;rw [if_neg h,if_neg (fun hh=>hh hs),if_neg hr]
theorem parseR_g{p:List Nat}(h:¬(szM p).2.2≠0)(hs:sumM (p.take (p.length-32))=p.drop (p.length-32))(hr:readOK p (szM p).1):parseR p=(rowsP p (szM p).1,part p (p.length-64) 32,0):=by
 unfold parseR;rw [if_neg h,if_neg (fun hh=>hh hs),if_pos hr]
theorem bld_one{v:V}(h1:v.cells=[v])(h2:v.isBad=false):bld [(0,1,v)] [.nilslice]=some (.agg [v]):=by
 show (fillW _ _).map V.agg=_
 unfold fillW
 rw [if_pos ⟨h2,by rw [h1];rfl,by simp⟩]
 show (fillW [] (putL v.cells 0 [.nilslice])).map V.agg=_
 rw [h1];rfl
theorem parse_cps{F m:Nat}(hF:2000000<F){h:AH}(hw:h.WF)(hk:KT h){pv:V}{p:List Nat}(hp:Bs h pv p)(hlen:p.length≤1000000)
  {out:Res→Prop} (fin:∀ w h',OwnR h.next T_packidx_Row h' w (parseR p).1→Old h.next h h'→out (some (.tuple [w,.agg (byteL (parseR p).2.1),.int .i64 (parseR p).2.2],h'))) :
  out (runC (EE F) (m+4) nzan [pv] h):=by
 rw [tzan]
 have hpos:=hk.pos hw
 obtain ⟨a1,a2,a3,a4⟩:=al_cells hw (List.replicate 32 (.int .u8 0)) T_api_Id rfl (by simp)
 have a2':(al (List.replicate 32 (.int .u8 0)) T_api_Id h).1=.ptr ⟨h.next,32,0⟩:=a2
 generalize hh1:(al (List.replicate 32 (.int .u8 0)) T_api_Id h).2=h1 at *
 have a1':Cells h1 h.next T_api_Id (byteL z32):=a1
 have hp1:=hp.old hw a4
 obtain ⟨c2,c1,c3,c4⟩:=cell_al a4.wf .nilslice T_packidx_reader rfl
 generalize hh2:(al [.nilslice] T_packidx_reader h1).2=h2 at *
 obtain ⟨h3,s1,s2,s3⟩:=c1.put c4.wf (n:=1) (vs:=[pv]) rfl rfl (by simp [hp.cellOk])
 have o23:Old h1.next h1 h3:=c4.trans (s3.old (Nat.le_refl _))
 have o13:Old h.next h h3:=a4.trans (o23.weak a4.next)
 have hp3:=hp.old hw o13
 have hC3:=a1'.old a4.wf o23
 have R3:Rd h3 h1.next T_packidx_reader pv p:=⟨s2,hp3⟩
 have hn1:=a4.next
 have hn3:=o13.next
 have hlt3:h1.next<h3.next:=by have:=s3.next;omega
 simp only [zan.fn,zan.c0,a2',hh1,bld_one hp.one.1 hp.one.2,bA_some,c2,hh2,s1,bS_some,R3.ldA,cxC]
 refine count_cps (m:=m) (out:=fun x=>out (cV x fun x10 h11 =>
   bI .i64 (absExtract x10 0) h11 fun x12 h13 =>
   bI .i64 (absExtract x10 1) h13 fun x14 h15 =>
   bI .i64 (absExtract x10 2) h15 fun x16 h17 =>
   zan.k2 (cx F (m+3)) zan.ret zan.ret (pv,.ptr ⟨h.next,32,0⟩,.ptr ⟨h1.next,1,0⟩,x12,x16,()) h17)) (by omega) o13.wf hp3 hlen (fun h4 o4=>?_)
 have o34:=o4
 have o14:Old h.next h h4:=o13.trans (o4.weak hn3)
 have hC4:Cells h4 h.next T_api_Id (byteL z32):=hC3.old o13.wf o4
 have hn4:=o4.next
 simp only [szV,cV_some,et0,et1,et2,bI_some,zan.k2,zan.c3,zan.k3]
 have bad:∀ (x:Int) (g:AH),parseR p=([],z32,x)→Old h.next h g→Cells g h.next T_api_Id (byteL z32) →
   out (bA (bld [] (List.replicate 32 (.int .u8 0))) g fun y h487=>bS (st 32 (.ptr ⟨h.next,32,0⟩) (.agg y) h487) fun h488=>zan.ret (.nilslice,.ptr ⟨h.next,32,0⟩,.int .i64 x,()) h488):=by
  intro x g hx og hc
  obtain ⟨g',p1,p2,p3,_⟩:=err_set (n0:=h.next) hc rfl og.wf (Nat.le_refl _) (y:=z32) rfl
  have f:=fin .nilslice g' (by rw [hx];exact own_nil _ _ _ _) (og.trans p3)
  rw [hx] at f
  simp only [zero_id,bA_some,p1,bS_some,zan.ret,fin3 p2]
  exact f
 by_cases he:(szM p).2.2=0
 ·have e0:((szM p).2.2 != 0)=false:=by rw [he];rfl
  have hne:¬(szM p).2.2≠0:=fun hh=>hh he
  obtain ⟨q1,q2,q3,q4,q5⟩:=(szM_cases p).resolve_left hne
  have hn':(szM p).1=lastN p:=by rw [q1]
  rw [hn']
  have hkle:=kP_le p (lastN p) (lastN p)
  have pb:=fun hs hr=>parseR_b hne hs hr
  have pg:=fun hs hr=>parseR_g hne hs hr
  have ps:=fun hs=>parseR_s hne hs
  rw [hn'] at pb pg
  generalize lastN p=n at *
  have R4:=R3.old o13.wf o4
  have i1:IntKind.wrap .i64 ((p.length:Int)-32)=((p.length-32:Nat):Int):=wi (by omega) (by omega)
  obtain ⟨w1,u1,u2⟩:=R4.bs.cut (lo:=none) (hi:=some (.int .i64 ((p.length-32:Nat):Int))) (l:=0) (u:=p.length-32) (.inr rfl) (.inl ⟨rfl,rfl⟩) (by omega) (by omega)
  rw [List.drop_zero,Nat.sub_zero] at u2
  have k4:KT h4:=hk.old hpos o14
  have htl:(p.take (p.length-32)).length=p.length-32:=by rw [List.length_take];omega
  obtain ⟨h5,e5,o5⟩:=sum_spec (F:=F) (n:=m+1) o4.wf k4 u2 (by omega) (by omega)
  obtain ⟨w6,h6,t1,t2,t3,t4,t5⟩:=ids_tmp o5.wf (sumM_len (p.take (p.length-32))) (sumM_byte _)
  have o46:Old h4.next h4 h6:=o5.trans (t5.weak o5.next)
  have R6:=R4.old o4.wf o46
  obtain ⟨w7,v1,v2⟩:=R6.bs.cut (lo:=some (.int .i64 ((p.length-32:Nat):Int))) (hi:=none) (l:=p.length-32) (u:=p.length) (.inl ⟨rfl,rfl⟩) (.inr rfl) (by omega) (by omega)
  rw [List.take_of_length_le (by rw [List.length_drop];omega)] at v2
  have e7:=bytesEqual_spec (F:=F) (n:=m+2) t4 v2
  have o16:Old h.next h h6:=o14.trans (o46.weak (Nat.le_trans hn3 hn4))
  have hC6:Cells h6 h.next T_api_Id (byteL z32):=hC4.old o4.wf o46
  have hn6:=o46.next
  simp only [e0,cond_false,zan.r5,zan.c5,R4.bs.1.len,bI_some,wr,i1,zan.k5,zan.c6,u1,bV_some,cxC,e5,cA_some,t1,t2,bS_some,t3,v1,e7,cB_some]
  by_cases hs:sumM (p.take (p.length-32))=p.drop (p.length-32)
  ·rw [dT hs]
   simp only [Bool.not_true,zan.k7,zan.r9,zan.c9,cond_false]
   obtain ⟨w8,h8,e8,H8,o8⟩:=mk_rows t5.wf (n:=n) (by omega)
   have R8:=R6.old t5.wf o8
   have o68:=o8
   have H8l:=H8.own.sl.len
   rw [List.length_replicate] at H8l
   simp only [e8,cV_some,zan.k10,zan.c11,H8l,bI_some]
   have o38:Old h3.next h3 h8:=o34.trans ((o46.trans (o8.weak hn6)).weak hn4)
   have hcc:∀ g,Old h6.next h8 g→Old h.next h g:=fun g og=>o16.trans ((o8.trans og).weak (by omega))
   have hCg:∀ g,Old h6.next h8 g→Cells g h.next T_api_Id (byteL z32):=fun g og=>hC6.oldN (by have:=hC6.lt t5.wf;omega) (o8.trans og)
   refine pr_rows (m:=m) (n:=n) (n0:=h6.next) (out:=out) (by omega) o8.wf (by omega) hlen (by omega) o8.next (fun g og=>R6.old t5.wf (o8.trans og)) hCg H8 (fun hbad g og=>?_) (fun hA hO g9 H9 o9=>?_)
   ·exact bad 4 g (pb hs (fun hr=>hbad ⟨hr.1,hr.2.1⟩)) (hcc g og) (hCg g og)
   ·have hrl:=rowsP_len p n
    obtain ⟨h10,e10,o10⟩:=fan_spec (F:=F) (n:=m+2) (by omega) o9.wf H9.rs (by rw [hrl];omega) (by rw [hrl];omega)
    have o9':=o9.next
    have o8':=o8.next
    have o8_10:Old h6.next h8 h10:=o9.trans (o10.weak (by omega))
    simp only [zan.r24,zan.c24,cxC,e10,cA_some]
    have o8_10n:=o8_10.next
    refine pr_fans (m:=m) (n0:=h10.next) (out:=out) (by omega) o10.wf hlen (by omega) (by rw [hrl];omega) (Nat.le_refl _) (fun g og=>R6.old t5.wf (o8.trans (o8_10.trans (og.weak (by omega))))) (fun hbad g og=>?_) (fun hFn g11 o11=>?_)
    ·have og':=o8_10.trans (og.weak (show h6.next≤h10.next by omega))
     exact bad 4 g (pb hs (fun hr=>hbad hr.2.2)) (hcc g og') (hCg g og')
    ·have o8_11:=o8_10.trans (o11.weak (show h6.next≤h10.next by omega))
     have R11:=R6.old t5.wf (o8.trans o8_11)
     have C11:=hCg g11 o8_11
     have j1:IntKind.wrap .i64 (((p.length-32:Nat):Int)-32)=((p.length-64:Nat):Int):=wi (by omega) (by omega)
     obtain ⟨x1,y1,y2⟩:=R11.bs.cut (lo:=some (.int .i64 ((p.length-64:Nat):Int))) (hi:=some (.int .i64 ((p.length-32:Nat):Int))) (l:=p.length-64) (u:=p.length-32) (.inr rfl) (.inr rfl) (by omega) (by omega)
     rw [show p.length-32-(p.length-64)=32 by omega] at y2
     change Bs g11 x1 (part p (p.length-64) 32) at y2
     have hpl:(part p (p.length-64) 32).length=32:=part_len (by omega)
     obtain ⟨x2,y3,y4⟩:=y2.arr (m:=32) (by omega) (by omega)
     rw [List.take_of_length_le (by omega)] at y4
     obtain ⟨g12,p1,p2,p3,p4⟩:=err_set (n0:=h.next) C11 rfl o11.wf (Nat.le_refl _) (y:=part p (p.length-64) 32) hpl
     have hg:=pg hs ⟨hA,hO,hFn⟩
     have H11:=(H9.old o9.wf o10).old o10.wf o11
     have H12:OwnR h6.next T_packidx_Row g12 w8 (rowsP p n):=H11.own.keep fun b hb=>p4.rest b (fun e=>hb (e▸H11.own.fresh (by omega)))
     have f:=fin w8 g12 (by rw [hg];exact H12.weak (by omega)) ((hcc g11 o8_11).trans p3)
     rw [hg] at f
     simp only [zan.r30,zan.c30,wr,j1,y1,bV_some,y3,ldA_of y4,bA_some,p1,bS_some,zan.ret,fin3 p2]
     exact f
  ·rw [dF hs]
   simp only [Bool.not_false,zan.k7,zan.c8,cond_true]
   exact bad 6 h6 (ps hs) o16 hC6
 ·have e0:((szM p).2.2 != 0)=true:=by rw [bne_iff_ne];exact he
  simp only [e0,cond_true,zan.c4]
  exact bad _ h4 (parseR_e he) o14 hC4
end Go.Proofs.YtcmhoboglapbdaaDoor
namespace Go.Proofs.YtcmhoboglapbdaaDoor
open Go Ev
def rowsF(p:List Nat)(n:Nat):List (Row×Bool):=(List.range n).map fun i=>(rowP p n i,farF p n i)
def farsF(p:List Nat)(n:Nat):List Bool:=(List.range n).map (farF p n)
def docOK(p:List Nat)(n:Nat):Prop:=ordOK p n n∧buildM (rowsF p n) (part p (p.length-64) 32)=p
open Classical in
noncomputable def docR(p:List Nat):List Row×List Nat×Int :=
 if (szM p).2.2≠0 then ([],z32,(szM p).2.2) else if ¬sumM (p.take (p.length-32))=p.drop (p.length-32) then ([],z32,6)
 else if docOK p (szM p).1 then (rowsP p (szM p).1,part p (p.length-64) 32,0) else ([],z32,4)
end Go.Proofs.YtcmhoboglapbdaaDoor
namespace Go.Proofs.YtcmhoboglapbdaaDoor
open Go Ev
theorem bigN_foldl(l:List Nat):∀ v,l.foldl (fun v b=>v*256+b) v=v*256 ^ l.length+bigN l:=by
 induction l with
 | nil=>intro v;show v=v*1+0;omega
 | cons b l ih =>
  intro v
  have h1:bigN (b :: l)=l.foldl (fun v b=>v*256+b) (0*256+b):=rfl
  rw [List.foldl_cons,ih,h1,ih,List.length_cons,Nat.pow_succ,Nat.zero_mul,Nat.zero_add,Nat.add_mul,Nat.mul_assoc,Nat.mul_comm 256,Nat.add_assoc]
theorem bigN_cons(b:Nat)(l:List Nat):bigN (b :: l)=b*256 ^ l.length+bigN l:=by
 have h1:bigN (b :: l)=l.foldl (fun v b=>v*256+b) (0*256+b):=rfl
 rw [h1,bigN_foldl,Nat.zero_mul,Nat.zero_add]
theorem bigL_succ(v n:Nat):bigL v (n+1)=v / 256 ^ n % 256 :: bigL v n:=by
 unfold bigL
 rw [List.range_succ_eq_map,List.map_cons,List.map_map]
 congr 1
 refine List.map_congr_left fun j _=>?_
 show v / 256 ^ (n+1-1-(j+1)) % 256=v / 256 ^ (n-1-j) % 256
 rw [show n+1-1-(j+1)=n-1-j by omega]
theorem bigL_mod(v w n:Nat):bigL (w*256 ^ n+v) n=bigL v n:=by
 unfold bigL
 refine List.map_congr_left fun j hj=>?_
 have hj':=List.mem_range.1 hj
 obtain ⟨d,hd⟩:∃ d,n=(n-1-j)+1+d:=⟨j,by omega⟩
 generalize n-1-j=e at *
 subst hd
 rw [show w*256 ^ (e+1+d)=256 ^ e*(256*(w*256 ^ d)) by
  rw [Nat.pow_add,Nat.pow_add];simp only [Nat.pow_one,Nat.mul_assoc,Nat.mul_comm,Nat.mul_left_comm]]
 rw [Nat.mul_add_div (Nat.pow_pos (by omega)),Nat.mul_add_mod]
theorem bigN_bigL:∀ (n v:Nat),v<256 ^ n→bigN (bigL v n)=v:=by
 intro n
 induction n with
 | zero =>
  intro v h;have:v=0:=by simpa using h
  subst this;rfl
 | succ n ih =>
  intro v h
  have hp:0<256 ^ n:=Nat.pow_pos (by omega)
  have hd:v / 256 ^ n<256:=by
   rw [Nat.pow_succ] at h
   exact Nat.div_lt_of_lt_mul h
  have e:bigL v n=bigL (v % 256 ^ n) n:=by
   have:=bigL_mod (v % 256 ^ n) (v / 256 ^ n) n
   rw [Nat.mul_comm,Nat.div_add_mod] at this
   exact this
  rw [bigL_succ,bigN_cons,bigL_len,e,ih _ (Nat.mod_lt _ hp),Nat.mod_eq_of_lt hd,Nat.mul_comm,Nat.div_add_mod]
end Go.Proofs.YtcmhoboglapbdaaDoor
namespace Go.Proofs.YtcmhoboglapbdaaDoor
open Go Ev
def StrictOn(l:List Row):Prop:=∀ i j,i<j→j<l.length→Lt (rat l i) (rat l j)
theorem strictOn_of{l:List Row}(h:∀ i,0<i→i<l.length→Lt (rat l (i-1)) (rat l i)):StrictOn l:=by
 intro i j
 induction j with
 | zero=>intro h1;omega
 | succ j ih =>
  intro h1 h2
  have h3:=h (j+1) (by omega) h2
  rw [Nat.add_sub_cancel] at h3
  by_cases e:i=j
  ·rw [e];exact h3
  ·exact lt_le (ih (by omega) (by omega)) h3.le
theorem parseR_strict{p:List Nat}(he:(parseR p).2.2=0):StrictOn (parseR p).1:=by
 by_cases h1:(szM p).2.2≠0
 ·rw [parseR_e h1] at he ⊢;exact absurd he h1
 ·by_cases hs:sumM (p.take (p.length-32))=p.drop (p.length-32)
  ·by_cases hr:readOK p (szM p).1
   ·rw [parseR_g h1 hs hr]
    refine strictOn_of fun i h0 hi=>?_
    rw [rowsP_len] at hi
    rw [rowsP_rat (by omega),rowsP_rat hi]
    exact hr.2.1 i h0 hi
   ·rw [parseR_b h1 hs hr] at he;cases he
  ·rw [parseR_s h1 hs] at he;cases he
theorem z32_byte:∀ x∈z32,x<256:=by decide
theorem parseR_facts{p:List Nat}(hp:∀ x∈p,x<256):(parseR p).2.1.length=32∧(∀ x∈(parseR p).2.1,x<256)∧(∀ r∈(parseR p).1,r.ok)∧(parseR p).1.length≤4096:=by
 by_cases h1:(szM p).2.2≠0
 ·rw [parseR_e h1];exact ⟨rfl,z32_byte,fun r hr=>(by cases hr),by simp⟩
 ·obtain ⟨q1,q2,q3,q4,q5⟩:=(szM_cases p).resolve_left h1
  by_cases hs:sumM (p.take (p.length-32))=p.drop (p.length-32)
  ·by_cases hr:readOK p (szM p).1
   ·rw [parseR_g h1 hs hr]
    have hn':(szM p).1=lastN p:=by rw [q1]
    rw [hn']
    exact ⟨part_len (by omega),part_byte hp _ _,rowsP_ok hp (by omega),by rw [rowsP_len];exact q3⟩
   ·rw [parseR_b h1 hs hr];exact ⟨rfl,z32_byte,fun r hr=>(by cases hr),by simp⟩
  ·rw [parseR_s h1 hs];exact ⟨rfl,z32_byte,fun r hr=>(by cases hr),by simp⟩
def isId(id:List Nat)(r:Row):Bool:=decide (r.id=id)
noncomputable def findR(p:List Nat)(id:List Nat):Row×Int :=
 if (parseR p).2.2≠0 then (rz,(parseR p).2.2) else match (parseR p).1.find? (isId id) with
 | some r=>(r,0)
 | none=>(rz,7)
theorem find_at{l:List Row}(hs:StrictOn l){i:Nat}(hi:i<l.length){id:List Nat}(h:(rat l i).id=id):l.find? (isId id)=some (rat l i):=by
 rw [List.find?_eq_some_iff_getElem]
 refine ⟨dT h,i,hi,rat_getElem hi,fun j hj=>?_⟩
 have:=(hs j i hj hi).ne
 rw [rat_getElem (show j<l.length by omega)]
 unfold isId
 rw [dF (fun e=>this (e.trans h.symm))];rfl
theorem find_none{l:List Row}{id:List Nat}(h:∀ i,i<l.length→(rat l i).id≠id):l.find? (isId id)=none:=by
 rw [List.find?_eq_none]
 intro r hr
 obtain ⟨i,hi,rfl⟩:=List.getElem_of_mem hr
 rw [rat_getElem hi]
 unfold isId
 rw [dF (h i hi)];decide
theorem c1_spec{F m:Nat}{h:AH}(hw:h.WF){a:Row}{id:List Nat}(ha:a.ok)(hi:id.length=32)(hi8:∀ x∈id,x<256):∃ h',runC (EE F) (m+3) nzam [.agg (rowL a),.agg (byteL id)] h=some (.int .i64 (cmpN a.id id),h')∧Old h.next h h':=by
 rw [tzam]
 obtain ⟨h1,e1,c1,n1,o1⟩:=box_cells hw (rowL a) T_packidx_Row (rowL_cell a)
 obtain ⟨h2,e2,c2,n2,o2⟩:=box_cells o1.wf (byteL id) T_api_Id (byteL_cell id)
 rw [rowL_len ha] at e1
 rw [byteL_len,hi] at e2
 obtain ⟨h3,e3,o3⟩:=compare_spec (F:=F) (n:=m) o2.wf ha.1 hi ha.2.1 hi8
 have o12:=o1.trans (o2.weak o1.next)
 have ea:ldA 32 (.ptr ⟨h1.next,32,0⟩) h2=some (.agg (byteL id)):=c2.ldA (by rw [byteL_len,hi])
 refine ⟨h3,?_,o12.trans (o3.weak o12.next)⟩
 simp only [zam.fn,zam.c0,e1,cV_some,e2,fA_ptr,bV_some,row_id (c1.old o1.wf o2) ha,bA_some,ea,cxC,e3,cI_some,zam.ret]
 rfl
theorem has40:hasB PP 40=some true:=by kernel_rfl
theorem srch_word{F m:Nat}{g:AH}(hw:g.WF){a:Row}{id:List Nat}(ha:a.ok)(hi:id.length=32)(hi8:∀ x∈id,x<256):∃ g',dyn PP (cx F (m+3)).C (cx F (m+3)).X (.func 40 [] []) [.agg (rowL a),.agg (byteL id)] g=some (.int .i64 (cmpN a.id id),g')∧Old g.next g g':=by
 obtain ⟨g',e,o⟩:=c1_spec (F:=F) (m:=m) hw ha hi hi8
 exact ⟨g',(dyn_fn has40).trans e,o⟩
theorem half{x:Nat}(h:x<9223372036854775808):ishr .u64 (x:Int) 1=((x / 2:Nat):Int):=by
 unfold ishr
 have e:((2:Int) ^ min (Int.toNat 1) IntKind.u64.bits)=2:=rfl
 rw [e,Int.fdiv_eq_ediv_of_nonneg _ (by omega)];omega
theorem search_spec{F m:Nat}(hF:5000<F){h:AH}(hw:h.WF){v:V}{l:List Row}(hr:Rs h v l)(hl:l.length≤4096)(hs:StrictOn l){id:List Nat}(hi:id.length=32)(hi8:∀ x∈id,x<256) :
  ∃ (i:Nat) (b:Bool) (h':AH),runC (EE F) (m+4) nzba [v,.agg (byteL id),.func 40 [] []] h=some (.tuple [.int .i64 (i:Int),.bool b],h')∧Old h.next h h' ∧
   (b=true→i<l.length∧(rat l i).id=id)∧(b=false→∀ i,i<l.length→(rat l i).id≠id):=by
 rw [tzba]
 obtain ⟨h1,e1,c1,n1,o1⟩:=box_cells hw (byteL id) T_api_Id (byteL_cell id)
 rw [byteL_len,hi] at e1
 have R1:=hr.old hw o1
 simp only [zba.fn,zba.c0,e1,cV_some,R1.1.len,bI_some]
 refine loop_rule (S:=zba.P6) (out:=fun x=>∃ (i:Nat) (b:Bool) (h':AH),x=some (.tuple [.int .i64 (i:Int),.bool b],h')∧Old h.next h h' ∧
   (b=true→i<l.length∧(rat l i).id=id)∧(b=false→∀ i,i<l.length→(rat l i).id≠id))
  (fun k s g=>∃ i j:Nat,j≤i+k∧i≤j∧j≤l.length∧s=(v,.func 40 [] [],.ptr ⟨h.next,32,0⟩,(l.length:Int),(i:Int),(j:Int),())∧(∀ x,x<i→cmpN (rat l x).id id<0)∧(∀ x,j≤x→x<l.length→¬cmpN (rat l x).id id<0)∧Old h1.next h1 g) ?_ ?_ l.length F _ _
  ⟨0,l.length,by omega,by omega,Nat.le_refl _,rfl,fun x hx=>by omega,fun x h1 h2=>by omega,Old.refl o1.wf _⟩ (by omega)
 ·rintro k s g n' ⟨i,j,hk,hij,hj,rfl,hlo,hhi,og⟩
  have Rg:=R1.old o1.wf og
  have Cg:=c1.old o1.wf og
  have ea:ldA 32 (.ptr ⟨h.next,32,0⟩) g=some (.agg (byteL id)):=Cg.ldA (by rw [byteL_len,hi])
  by_cases h':i<j
  ·have d1:decide ((i:Int)<(j:Int))=true:=dT (by omega)
   have i1:IntKind.wrap .i64 ((i:Int)+(j:Int))=((i+j:Nat):Int):=wi (by omega) (by omega)
   have i2:IntKind.wrap .i64 (((i+j) / 2:Nat):Int)=(((i+j) / 2:Nat):Int):=wi rfl (by omega)
   have hm:(i+j) / 2<l.length:=by omega
   obtain ⟨a,u1,u2⟩:=Rg.at (rat_get hm)
   have hk1:=Rg.2 _ (rat_mem hm)
   obtain ⟨g1,w1,w2⟩:=srch_word (F:=F) (m:=m) og.wf hk1 hi hi8
   have i3:IntKind.wrap .i64 ((((i+j) / 2:Nat):Int)+1)=(((i+j) / 2+1:Nat):Int):=wi (by omega) (by omega)
   by_cases hc:cmpN (rat l ((i+j) / 2)).id id<0
   ·refine .inl ⟨_,g1,?_,(i+j) / 2+1,j,by omega,by omega,hj,rfl,fun x hx=>?_,hhi,og.trans (w2.weak og.next)⟩
    ·simp -implicitDefEqProofs only [zba.l3,zba.c3,zba.k3,zba.r4,zba.c4,zba.k5,zba.c6,d1,cond_true,wr,i1,u64_small (show i+j<18446744073709551616 by omega),half (show i+j<9223372036854775808 by omega),i2,u1,bV_some,ldA_of u2,bA_some,ea,w1,cI_some,dT hc,i3]
    ·by_cases e:x=(i+j) / 2
     ·rw [e];exact hc
     ·have hx2:Lt (rat l x) (rat l ((i+j) / 2)):=hs x _ (by omega) hm
      have t1:cmpN (rat l x).id (rat l ((i+j) / 2)).id<0:=hx2
      have t2:cmpN (rat l x).id id≤0:=cmpN_trans (b:=(rat l ((i+j) / 2)).id) (by omega) (by omega)
      rcases Int.lt_or_eq_of_le t2 with t3 | t3
      ·exact t3
      ·have:=cmpN_eq0 t3
       rw [← this] at hc
       have t4:=cmpN_anti (rat l ((i+j) / 2)).id (rat l x).id
       omega
   ·refine .inl ⟨_,g1,?_,i,(i+j) / 2,by omega,by omega,by omega,rfl,hlo,fun x hx1 hx2=>?_,og.trans (w2.weak og.next)⟩
    ·simp -implicitDefEqProofs only [zba.l3,zba.c3,zba.k3,zba.r4,zba.c4,zba.k5,zba.c7,d1,cond_true,wr,i1,u64_small (show i+j<18446744073709551616 by omega),half (show i+j<9223372036854775808 by omega),i2,u1,bV_some,ldA_of u2,bA_some,ea,w1,cI_some,dF hc,cond_false]
    ·by_cases e:x=(i+j) / 2
     ·rw [e];exact hc
     ·have hx3:Lt (rat l ((i+j) / 2)) (rat l x):=hs _ x (by omega) hx2
      have t1:cmpN (rat l ((i+j) / 2)).id (rat l x).id<0:=hx3
      intro t2
      exact hc (by
       have t3:cmpN (rat l ((i+j) / 2)).id id≤0:=cmpN_trans (show cmpN (rat l ((i+j) / 2)).id (rat l x).id≤0 by omega) (by omega)
       rcases Int.lt_or_eq_of_le t3 with t4 | t4
       ·exact t4
       ·have:=cmpN_eq0 t4
        rw [← this] at t2
        have t5:=cmpN_anti (rat l ((i+j) / 2)).id (rat l x).id
        omega)
  ·obtain rfl:i=j:=by omega
   exact .inr (by
    have d1:decide ((i:Int)<(i:Int))=false:=dF (by omega)
    simp only [zba.l3,zba.c3,zba.k3,zba.r8,zba.c8,d1,cond_false]
    by_cases hil:i<l.length
    ·have d2:decide ((i:Int)<(l.length:Int))=true:=dT (by omega)
     obtain ⟨a,u1,u2⟩:=Rg.at (rat_get hil)
     have hk1:=Rg.2 _ (rat_mem hil)
     obtain ⟨g1,w1,w2⟩:=srch_word (F:=F) (m:=m) og.wf hk1 hi hi8
     refine ⟨i,decide (cmpN (rat l i).id id=0),g1,?_,o1.trans ((og.trans (w2.weak og.next)).weak o1.next),fun hb=>⟨hil,cmpN_eq0 (of_decide_eq_true hb)⟩,fun hb x hx=>?_⟩
     ·have hbeq:(cmpN (rat l i).id id==0)=decide (cmpN (rat l i).id id=0):=by
       rw [Bool.eq_iff_iff,beq_iff_eq,decide_eq_true_eq]
      simp only [d2,cond_true,u1,bV_some,ldA_of u2,bA_some,ea,w1,cI_some,hbeq]
      rfl
     ·intro e
      have hb':¬cmpN (rat l i).id id=0:=of_decide_eq_false hb
      have ex:cmpN (rat l x).id id=0:=by rw [e,cmpN_self]
      rcases Nat.lt_trichotomy x i with h1 | h1 | h1
      ·have:=hlo x h1;omega
      ·rw [h1] at ex;exact hb' ex
      ·have t1:cmpN (rat l i).id (rat l x).id<0:=hs i x h1 hx
       have t2:=hhi i (Nat.le_refl _) hil
       rw [e] at t1
       omega
    ·have d2:decide ((i:Int)<(l.length:Int))=false:=dF (by omega)
     refine ⟨i,false,g,?_,o1.trans (og.weak o1.next),fun hb=>(by cases hb),fun _ x hx e=>?_⟩
     ·simp only [d2,cond_false]
      rfl
     ·have ex:cmpN (rat l x).id id=0:=by rw [e,cmpN_self]
      have:=hlo x (by omega)
      omega)
 ·rintro s g n' ⟨i,j,hk,hij,hj,rfl,hlo,hhi,og⟩
  obtain rfl:i=j:=by omega
  have Rg:=R1.old o1.wf og
  have Cg:=c1.old o1.wf og
  have ea:ldA 32 (.ptr ⟨h.next,32,0⟩) g=some (.agg (byteL id)):=Cg.ldA (by rw [byteL_len,hi])
  have d1:decide ((i:Int)<(i:Int))=false:=dF (by omega)
  simp only [zba.l3,zba.c3,zba.k3,zba.r8,zba.c8,d1,cond_false]
  by_cases hil:i<l.length
  ·have d2:decide ((i:Int)<(l.length:Int))=true:=dT (by omega)
   obtain ⟨a,u1,u2⟩:=Rg.at (rat_get hil)
   have hk1:=Rg.2 _ (rat_mem hil)
   obtain ⟨g1,w1,w2⟩:=srch_word (F:=F) (m:=m) og.wf hk1 hi hi8
   refine ⟨i,decide (cmpN (rat l i).id id=0),g1,?_,o1.trans ((og.trans (w2.weak og.next)).weak o1.next),fun hb=>⟨hil,cmpN_eq0 (of_decide_eq_true hb)⟩,fun hb x hx=>?_⟩
   ·have hbeq:(cmpN (rat l i).id id==0)=decide (cmpN (rat l i).id id=0):=by
     rw [Bool.eq_iff_iff,beq_iff_eq,decide_eq_true_eq]
    simp only [d2,cond_true,u1,bV_some,ldA_of u2,bA_some,ea,w1,cI_some,hbeq]
    rfl
   ·intro e
    have hb':¬cmpN (rat l i).id id=0:=of_decide_eq_false hb
    have ex:cmpN (rat l x).id id=0:=by rw [e,cmpN_self]
    rcases Nat.lt_trichotomy x i with h1 | h1 | h1
    ·have:=hlo x h1;omega
    ·rw [h1] at ex;exact hb' ex
    ·have t1:cmpN (rat l i).id (rat l x).id<0:=hs i x h1 hx
     have t2:=hhi i (Nat.le_refl _) hil
     rw [e] at t1
     omega
  ·have d2:decide ((i:Int)<(l.length:Int))=false:=dF (by omega)
   refine ⟨i,false,g,?_,o1.trans (og.weak o1.next),fun hb=>(by cases hb),fun _ x hx e=>?_⟩
   ·simp only [d2,cond_false]
    rfl
   ·have ex:cmpN (rat l x).id id=0:=by rw [e,cmpN_self]
    have:=hlo x (by omega)
    omega
theorem zero_row:bld [] (List.replicate 32 (.int .u8 0)++[.int .u32 0]++[.int .u64 0])=some (.agg (rowL rz)):=rfl
theorem row_put{g:AH}{b e n0:Nat}{x y:Row}(hc:Cells g b e (rowL x))(hx:x.ok)(hy:y.ok)(hw:g.WF)(hn:n0≤b):∃ g',st 34 (.ptr ⟨b,34,0⟩) (.agg (rowL y)) g=some g'∧ldA 34 (.ptr ⟨b,34,0⟩) g'=some (.agg (rowL y))∧Old n0 g g':=by
 obtain ⟨g',p1,p2,p3⟩:=hc.put hw (n:=34) (vs:=rowL y) (rowL_len hx).symm (rowL_len hy) (rowL_cell y)
 exact ⟨g',p1,p2.ldA (rowL_len hy).symm,p3.old hn⟩
theorem fin2{a c:V}{o:Option V}(h:o=some a)(g:AH):finW [o,some c] g=some (.tuple [a,c],g):=by rw [h];rfl
theorem find_cps{F m:Nat}(hF:2000000<F){h:AH}(hw:h.WF)(hk:KT h){pv:V}{p:List Nat}(hp:Bs h pv p)(hlen:p.length≤1000000){id:List Nat}(hi:id.length=32)(hi8:∀ x∈id,x<256)
  {out:Res→Prop} (fin:∀ h',Old h.next h h'→out (some (.tuple [.agg (rowL (findR p id).1),.int .i64 (findR p id).2],h'))) :
  out (runC (EE F) (m+5) nzal [pv,.agg (byteL id)] h):=by
 rw [tzal]
 have hpos:=hk.pos hw
 obtain ⟨h1,e1,c1,n1,o1⟩:=box_cells hw (byteL id) T_api_Id (byteL_cell id)
 rw [byteL_len,hi] at e1
 obtain ⟨a1,a2,a3,a4⟩:=al_cells o1.wf zRow T_packidx_Row rfl (by simp)
 have a2':(al zRow T_packidx_Row h1).1=.ptr ⟨h1.next,34,0⟩:=a2
 generalize hh2:(al zRow T_packidx_Row h1).2=h2 at *
 have a1':Cells h2 h1.next T_packidx_Row (rowL rz):=a1
 have o12:Old h.next h h2:=o1.trans (a4.weak o1.next)
 have c2:=c1.old o1.wf a4
 have hn1:=o1.next
 have hn2:=a4.next
 simp only [zal.fn,zal.c0,e1,cV_some,a2',hh2,cxC]
 refine parse_cps (m:=m) (F:=F) (out:=fun x=>out (cV x fun x5 h6 =>
   bV (absExtract x5 0) h6 fun x7 h8 =>
   bA (absExtract x5 1) h8 fun x9 h10 =>
   bI .i64 (absExtract x5 2) h10 fun x11 h12 =>
   let x13:=(al (List.replicate 32 (.int .u8 0)) T_api_Id h12).1
   let h14:=(al (List.replicate 32 (.int .u8 0)) T_api_Id h12).2
   bS (st 32 x13 (.agg x9) h14) fun h15 =>
   zal.k1 (cx F (m+4)) zal.ret zal.ret (.ptr ⟨h.next,32,0⟩,.ptr ⟨h1.next,34,0⟩,x7,x11,()) h15)) hF o12.wf (hk.old hpos o12) (hp.old hw o12) hlen (fun w h3 w3 o3=>?_)
 obtain ⟨f1,f2,f3,f4⟩:=parseR_facts hp.2
 have o13:=o12.trans (o3.weak o12.next)
 obtain ⟨b1,b2,b3,b4⟩:=al_cells o3.wf (List.replicate 32 (.int .u8 0)) T_api_Id rfl (by simp)
 have b2':(al (List.replicate 32 (.int .u8 0)) T_api_Id h3).1=.ptr ⟨h3.next,32,0⟩:=b2
 generalize hh4:(al (List.replicate 32 (.int .u8 0)) T_api_Id h3).2=h4 at *
 obtain ⟨h5,s1,s2,s3⟩:=b1.put b4.wf (n:=32) (vs:=byteL (parseR p).2.1) rfl (by rw [byteL_len,f1]) (byteL_cell _)
 have o35:Old h3.next h3 h5:=b4.trans (s3.old (Nat.le_refl _))
 have hn3:=o3.next
 have o25:Old h2.next h2 h5:=o3.trans (o35.weak hn3)
 have o15:Old h.next h h5:=o12.trans (o25.weak (by omega))
 have Cz:=a1'.old a4.wf o25
 have Ci:=c2.old a4.wf o25
 have W5:=w3.old o3.wf o35
 have hn5:=o35.next
 simp -implicitDefEqProofs only [cV_some,et0,et1,et2,bV_some,bA_some,bI_some,b2',hh4,s1,bS_some,zal.k1,zal.c2,zal.k2]
 unfold findR at fin
 have bad:∀ (x:Int) (g:AH) (r:Row),r.ok→(∀ h',Old h.next h h'→out (some (.tuple [.agg (rowL r),.int .i64 x],h')))→Old h2.next h2 g →
   ∃ g',st 34 (.ptr ⟨h1.next,34,0⟩) (.agg (rowL r)) g=some g'∧out (zal.ret (.ptr ⟨h1.next,34,0⟩,.int .i64 x,()) g'):=by
  intro x g r hr hx og
  obtain ⟨g',p1,p2,p3⟩:=row_put (n0:=h.next) (a1'.old a4.wf og) rz_ok hr og.wf (by omega)
  refine ⟨g',p1,?_⟩
  simp only [zal.ret,fin2 p2]
  exact hx g' ((o12.trans (og.weak (by omega))).trans p3)
 by_cases he:(parseR p).2.2=0
 ·have e0:((parseR p).2.2 != 0)=false:=by rw [he];rfl
  rw [if_neg (fun hh=>hh he)] at fin
  have hst:=parseR_strict he
  have R5:Rs h5 w (parseR p).1:=⟨W5.sl,f3⟩
  have ea:ldA 32 (.ptr ⟨h.next,32,0⟩) h5=some (.agg (byteL id)):=Ci.ldA (by rw [byteL_len,hi])
  obtain ⟨i,b,h6,e6,o6,q1,q2⟩:=search_spec (F:=F) (m:=m) (by omega) o25.wf R5 f4 hst hi hi8
  have o26:=o25.trans (o6.weak o25.next)
  simp only [e0,cond_false,zal.r4,zal.c4,ea,bA_some,cxC,e6,cV_some,ex0,ex1,bI_some,bB_some,zal.k4,zal.c5,zal.k5]
  cases b with
  | false =>
   rw [find_none (q2 rfl)] at fin
   obtain ⟨g',p1,p2⟩:=bad 7 h6 rz rz_ok fin o26
   simp only [Bool.not_false,cond_true,zal.c6,zero_row,bA_some,p1,bS_some]
   exact p2
  | true =>
   obtain ⟨q3,q4⟩:=q1 rfl
   rw [find_at hst q3 q4] at fin
   have hro:=f3 _ (rat_mem q3)
   obtain ⟨a,u1,u2⟩:=(R5.old o25.wf o6).at (rat_get q3)
   obtain ⟨g',p1,p2⟩:=bad 0 h6 _ hro fin o26
   simp only [Bool.not_true,cond_false,zal.r7,zal.c7,u1,bV_some,ldA_of u2,bA_some,p1,bS_some]
   exact p2
 ·have e0:((parseR p).2.2 != 0)=true:=by rw [bne_iff_ne];exact he
  rw [if_pos he] at fin
  obtain ⟨g',p1,p2⟩:=bad _ h5 rz rz_ok fin o25
  simp only [e0,cond_true,zal.c3,zero_row,bA_some,p1,bS_some]
  exact p2
end Go.Proofs.YtcmhoboglapbdaaDoor
namespace Go.Proofs.YtcmhoboglapbdaaDoor
open Go Ev
theorem part_in{a b c:List Nat}{o w:Nat}(h:o+w≤b.length):part (a++(b++c)) (a.length+o) w=part b o w:=by
 unfold part
 rw [List.drop_append,List.drop_of_length_le (by omega),List.nil_append,Nat.add_sub_cancel_left,List.drop_append_of_le_length (by omega),List.take_append_of_le_length (by rw [List.length_drop];omega)]
theorem part_left{a b:List Nat}{o w:Nat}(h:o+w≤a.length):part (a++b) o w=part a o w:=by
 unfold part
 rw [List.drop_append_of_le_length (by omega),List.take_append_of_le_length (by rw [List.length_drop];omega)]
theorem part_all(b:List Nat):part b 0 b.length=b:=by unfold part;rw [List.drop_zero,List.take_length]
theorem part_whole{a b c:List Nat}{o w:Nat}(ho:o=a.length)(hw:w=b.length):part (a++(b++c)) o w=b:=by
 subst ho;subst hw
 have:=part_in (a:=a) (b:=b) (c:=c) (o:=0) (w:=b.length) (by omega)
 rw [Nat.add_zero,part_all] at this
 exact this
theorem cut_at{α:Type}{l:List α}{i:Nat}{x:α}(h:l[i]?=some x):l=l.take i++x :: l.drop (i+1):=by
 have hi:=(List.getElem?_eq_some_iff.1 h).1
 have hx:l[i]=x:=by have:=List.getElem?_eq_getElem hi;rw [h] at this;exact (Option.some.inj this).symm
 have:=List.take_append_drop i l
 rw [List.drop_eq_getElem_cons hi,hx] at this
 exact this.symm
theorem idsM_at{l:List Row}{i:Nat}{r:Row}(h:l[i]?=some r)(hok:∀ r∈l,r.ok):part (idsM l) (32*i) 32=r.id:=by
 have hi:=(List.getElem?_eq_some_iff.1 h).1
 have e:idsM l=idsM (l.take i)++(r.id++idsM (l.drop (i+1))):=by
  have:=congrArg idsM (cut_at h)
  rw [this];unfold idsM;rw [List.flatMap_append,List.flatMap_cons]
 rw [e]
 refine part_whole ?_ (hok _ (List.mem_of_getElem? h)).1.symm
 rw [idsM_len (fun r hr=>hok r (List.mem_of_mem_take hr)),List.length_take]
 congr 1;omega
theorem crcsM_at{l:List Row}{i:Nat}{r:Row}(h:l[i]?=some r):part (crcsM l) (4*i) 4=bigL r.crc 4:=by
 have hi:=(List.getElem?_eq_some_iff.1 h).1
 have e:crcsM l=crcsM (l.take i)++(bigL r.crc 4++crcsM (l.drop (i+1))):=by
  have:=congrArg crcsM (cut_at h)
  rw [this];unfold crcsM;rw [List.flatMap_append,List.flatMap_cons]
 rw [e]
 refine part_whole ?_ (bigL_len _ _).symm
 rw [crcsM_len,List.length_take]
 congr 1;omega
theorem atsM_append:∀ (a b:List (Row×Bool)) (k:Nat),atsM k (a++b)=atsM k a++atsM (k+nfar a) b:=by
 intro a
 induction a with
 | nil=>intro b k;rfl
 | cons x a ih =>
  intro b k
  rw [List.cons_append]
  have hn:nfar (x :: a)=nfar a+if x.2=true then 1 else 0:=List.countP_cons
  show (if x.2 then bigL (2147483648+k) 4++atsM (k+1) (a++b) else bigL x.1.pos 4++atsM k (a++b))=(if x.2 then bigL (2147483648+k) 4++atsM (k+1) a else bigL x.1.pos 4++atsM k a)++_
  by_cases hx:x.2=true
  ·rw [if_pos hx,if_pos hx,ih,hn,if_pos hx,List.append_assoc,show k+1+nfar a=k+(nfar a+1) by omega]
  ·rw [if_neg hx,if_neg hx,ih,hn,if_neg hx,List.append_assoc,Nat.add_zero]
theorem atsM_cons(k:Nat)(x:Row×Bool)(l:List (Row×Bool)):atsM k (x :: l)=(if x.2 then bigL (2147483648+k) 4 else bigL x.1.pos 4)++atsM (if x.2 then k+1 else k) l:=by
 show (if x.2 then _ else _)=_
 by_cases hx:x.2=true
 ·rw [if_pos hx,if_pos hx,if_pos hx]
 ·rw [if_neg hx,if_neg hx,if_neg hx]
theorem atsM_at{l:List (Row×Bool)}{i:Nat}{x:Row×Bool}(h:l[i]?=some x):part (atsM 0 l) (4*i) 4=if x.2 then bigL (2147483648+nfar (l.take i)) 4 else bigL x.1.pos 4:=by
 have hi:=(List.getElem?_eq_some_iff.1 h).1
 have e:=congrArg (atsM 0) (cut_at h)
 rw [atsM_append,atsM_cons,Nat.zero_add] at e
 rw [e]
 refine part_whole ?_ ?_
 ·rw [atsM_len,List.length_take];congr 1;omega
 ·split <;> rw [bigL_len]
theorem farsM_append(a b:List (Row×Bool)):farsM (a++b)=farsM a++farsM b:=List.flatMap_append ..
theorem farsM_at{l:List (Row×Bool)}{i:Nat}{x:Row×Bool}(h:l[i]?=some x)(hx:x.2=true):part (farsM l) (8*nfar (l.take i)) 8=bigL x.1.pos 8:=by
 have e:=congrArg farsM (cut_at h)
 rw [farsM_append,show farsM (x :: l.drop (i+1))=(if x.2 then bigL x.1.pos 8 else [])++farsM (l.drop (i+1)) from rfl,if_pos hx] at e
 rw [e]
 exact part_whole (farsM_len _).symm (bigL_len _ _).symm
theorem fansM_at(l:List Row){b:Nat}:∀ m,b<m→part (fansM l m) (4*b) 4=bigL (upto l b) 4:=by
 intro m
 induction m with
 | zero=>intro h;omega
 | succ m ih =>
  intro h
  rw [fansM_succ]
  by_cases e:b=m
  ·subst e
   have:=part_whole (a:=fansM l b) (b:=bigL (upto l b) 4) (c:=[]) (o:=4*b) (w:=4) (fansM_len _ _).symm (bigL_len _ _).symm
   rw [List.append_nil] at this
   exact this
  ·rw [part_left (by rw [fansM_len];omega)]
   exact ih (by omega)
theorem upto_mono(l:List Row){a b:Nat}(h:a≤b):upto l a≤upto l b:=by
 unfold upto
 refine List.countP_mono_left fun r _ hr=>?_
 rw [decide_eq_true_eq] at hr ⊢
 omega
theorem upto_all{l:List Row}(hok:∀ r∈l,r.ok):upto l 255=l.length:=by
 unfold upto
 rw [List.countP_eq_length]
 intro r hr
 have:=id0_lt (hok r hr)
 rw [decide_eq_true_eq];omega
theorem backF{m:List (Row×Bool)}{l:List Row}{pack:List Nat}(hl:m.map (·.1)=l)(hokf:∀ x∈m,x.1.ok)(hsh:∀ x∈m,x.2=false→x.1.pos<2147483648)(hs:StrictOn l)(hn:l.length≤4096)(h32:pack.length=32)(h8:∀ x∈pack,x<256):parseR (buildM m pack)=(l,pack,0):=by
 have hml:m.length=l.length:=by rw [← hl,List.length_map]
 have hok:∀ r∈l,r.ok:=by
  intro r hr
  rw [← hl] at hr
  obtain ⟨x,hx,rfl⟩:=List.mem_map.1 hr
  exact hokf x hx
 let fl:Nat→Bool:=fun i=>(m.getD i (rz,false)).2
 have hbl:=bodyM_len hokf h32
 rw [hml] at hbl
 have hp8:=buildM_byte hokf h8
 have hpl:(buildM m pack).length=1096+40*l.length+8*nfar m:=by
  unfold buildM;rw [List.length_append,hbl,sumM_len];omega
 have hnf:=nfar_le m
 rw [hml] at hnf
 have hp:buildM m pack=magicM++(fansM l 256++(idsM l++(crcsM l++(atsM 0 m++(farsM m++(pack++sumM (bodyM m pack))))))):=by
  unfold buildM
  conv=>lhs;arg 1;unfold bodyM headM
  rw [hl]
  simp only [List.append_assoc]
 have lm:magicM.length=8:=rfl
 have lf:(fansM l 256).length=1024:=fansM_len l 256
 have li:=idsM_len hok
 have lc:=crcsM_len l
 have la:(atsM 0 m).length=4*l.length:=by rw [atsM_len,hml]
 have lr:=farsM_len m
 have q1:∀ b,b<256→part (buildM m pack) (8+4*b) 4=bigL (upto l b) 4:=by
  intro b hb
  rw [hp,← fansM_at l 256 hb,← lm]
  exact part_in (by rw [lf];omega)
 have q2:∀ o w,o+w≤32*l.length→part (buildM m pack) (1032+o) w=part (idsM l) o w:=by
  intro o w hh
  rw [hp,← List.append_assoc,show 1032+o=(magicM++fansM l 256).length+o by rw [List.length_append,lm,lf]]
  exact part_in (by rw [li];omega)
 have q3:∀ o w,o+w≤4*l.length→part (buildM m pack) (1032+32*l.length+o) w=part (crcsM l) o w:=by
  intro o w hh
  rw [hp,← List.append_assoc,← List.append_assoc,show 1032+32*l.length+o=((magicM++fansM l 256)++idsM l).length+o by rw [List.length_append,List.length_append,lm,lf,li]]
  exact part_in (by rw [lc];omega)
 have q4:∀ o w,o+w≤4*l.length→part (buildM m pack) (1032+36*l.length+o) w=part (atsM 0 m) o w:=by
  intro o w hh
  rw [hp,← List.append_assoc,← List.append_assoc,← List.append_assoc,show 1032+36*l.length+o=(((magicM++fansM l 256)++idsM l)++crcsM l).length+o by rw [List.length_append,List.length_append,List.length_append,lm,lf,li,lc];omega]
  exact part_in (by rw [la];omega)
 have q5:∀ o w,o+w≤8*nfar m→part (buildM m pack) (1032+40*l.length+o) w=part (farsM m) o w:=by
  intro o w hh
  rw [hp,← List.append_assoc,← List.append_assoc,← List.append_assoc,← List.append_assoc,show 1032+40*l.length+o=((((magicM++fansM l 256)++idsM l)++crcsM l)++atsM 0 m).length+o by rw [List.length_append,List.length_append,List.length_append,List.length_append,lm,lf,li,lc,la];omega]
  exact part_in (by rw [lr];omega)
 have q6:part (buildM m pack) ((buildM m pack).length-64) 32=pack:=by
  rw [hpl,show 1096+40*l.length+8*nfar m-64=1032+40*l.length+8*nfar m by omega]
  rw [hp,← List.append_assoc,← List.append_assoc,← List.append_assoc,← List.append_assoc,← List.append_assoc]
  exact part_whole (by rw [List.length_append,List.length_append,List.length_append,List.length_append,List.length_append,lm,lf,li,lc,la,lr];omega) h32.symm
 have q7:(buildM m pack).take 8=magicM:=by rw [hp,List.take_left' lm]
 have q8:sumM ((buildM m pack).take ((buildM m pack).length-32))=(buildM m pack).drop ((buildM m pack).length-32):=by
  rw [hpl,show 1096+40*l.length+8*nfar m-32=(bodyM m pack).length by rw [hbl];omega]
  unfold buildM
  rw [List.take_left' rfl,List.drop_left' rfl]
 generalize buildM m pack=p at *
 have p4:256 ^ 4=4294967296:=by decide
 have p8:256 ^ 8=18446744073709551616:=by decide
 have hfan:∀ b,b<256→fanV p b=upto l b:=by
  intro b hb
  have hu:=upto_le l b
  unfold fanV g4
  rw [q1 b hb,bigN_bigL 4 _ (by rw [p4];omega)]
 have hlast:lastN p=l.length:=by
  unfold lastN;rw [hfan 255 (by omega),upto_all hok]
 have hup:fanUp p 256=true:=by
  unfold fanUp
  rw [List.all_eq_true]
  intro i hi
  have hi':=List.mem_range.1 hi
  rw [decide_eq_true_eq]
  unfold fanPrev
  by_cases h0:i=0
  ·rw [if_pos h0];exact Nat.zero_le _
  ·rw [if_neg h0,hfan _ (by omega),hfan _ (by omega)]
   exact upto_mono l (by omega)
 have fl_get:∀ i,i<l.length→m[i]?=some (rat l i,fl i):=by
  intro i hi
  have h1:m[i]?=some m[i]:=List.getElem?_eq_getElem (by omega)
  have h2:(m.map (·.1))[i]?=some m[i].1:=by rw [List.getElem?_map,h1];rfl
  rw [hl] at h2
  have h3:=rat_get hi
  rw [h2] at h3
  rw [h1,← Option.some.inj h3]
  show some m[i]=some (m[i].1,(m.getD i (rz,false)).2)
  rw [List.getD_eq_getElem?_getD,h1];rfl
 have fl_short:∀ i,i<l.length→¬fl i=true→(rat l i).pos<2147483648:=by
  intro i hi hf
  exact hsh _ (List.mem_of_getElem? (fl_get i hi)) (by simpa using hf)
 have hat:∀ i,i<l.length→atV p l.length i=if fl i=true then 2147483648+nfar (m.take i) else (rat l i).pos:=by
  intro i hi
  have hk:nfar (m.take i)≤i:=by
   have:=nfar_le (m.take i)
   rw [List.length_take] at this
   omega
  unfold atV g4
  rw [q4 (4*i) 4 (by omega),atsM_at (fl_get i hi)]
  by_cases hf:fl i=true
  ·rw [if_pos hf,if_pos hf,bigN_bigL 4 _ (by rw [p4];omega)]
  ·have hpos:=fl_short i hi hf
   rw [if_neg hf,if_neg hf]
   exact bigN_bigL 4 _ (by rw [p4];show (rat l i).pos<4294967296;omega)
 have hfar:∀ i,i<l.length→farF p l.length i=fl i:=by
  intro i hi
  unfold farF
  rw [hat i hi]
  by_cases hf:fl i=true
  ·rw [if_pos hf,hf];exact dT (by omega)
  ·have hf':fl i=false:=by simpa using hf
   have hpos:=fl_short i hi hf
   rw [if_neg hf,hf']
   exact dF (by omega)
 have hkP:∀ i,i≤l.length→kP p l.length i=nfar (m.take i):=by
  intro i
  induction i with
  | zero=>intro _;rfl
  | succ i ih =>
   intro h
   rw [kP_succ,ih (by omega),hfar i (by omega),← take_snoc (fl_get i (by omega)),nfar_snoc]
 have hkn:kP p l.length l.length=nfar m:=by
  rw [hkP _ (Nat.le_refl _),List.take_of_length_le (by rw [hml];omega)]
 have hrow:∀ i,i<l.length→rowP p l.length i=rat l i:=by
  intro i hi
  have hr:=hok _ (rat_mem hi)
  have e1:idV p i=(rat l i).id:=by
   unfold idV
   rw [q2 (32*i) 32 (by omega),idsM_at (rat_get hi) hok]
  have e2:crcV p l.length i=(rat l i).crc:=by
   unfold crcV g4
   have hcr:=hr.2.2.1
   rw [q3 (4*i) 4 (by omega),crcsM_at (rat_get hi),bigN_bigL 4 _ (by rw [p4];exact hcr)]
  have e3:(if farF p l.length i=true then farV p l.length i else atV p l.length i)=(rat l i).pos:=by
   by_cases hf:fl i=true
   ·rw [hfar i hi,if_pos hf]
    unfold farV
    have hpo:=hr.2.2.2
    have h1:nfar (m.take (i+1))≤nfar m:=by
     rw [← hkn,← hkP (i+1) (by omega)];exact kP_mono p _ (by omega)
    rw [← take_snoc (fl_get i hi),nfar_snoc,if_pos (show ((rat l i,fl i):Row×Bool).2=true from hf)] at h1
    rw [hkP i (by omega),q5 _ 8 (by omega),farsM_at (fl_get i hi) hf,bigN_bigL 8 _ (by rw [p8];exact hpo)]
   ·rw [hfar i hi,if_neg hf,hat i hi,if_neg hf]
  unfold rowP
  rw [e1,e2,e3]
 have hrows:rowsP p l.length=l:=by
  apply List.ext_getElem?
  intro i
  by_cases hi:i<l.length
  ·rw [rowsP_get hi,hrow i hi,rat_get hi]
  ·rw [List.getElem?_eq_none (by rw [rowsP_len];omega),List.getElem?_eq_none (by omega)]
 have hsz:szM p=(l.length,nfar m,0):=by
  unfold szM
  rw [hlast,hkn,hup,hpl,if_neg (by omega),if_neg (fun hh=>hh q7),if_neg (by decide),if_neg (by omega),if_neg (by omega),if_neg (by omega),if_neg (by omega)]
 have hrd:readOK p (szM p).1:=by
  rw [hsz]
  refine ⟨fun i hi hf=>?_,fun i h0 hi=>?_,fun b hb=>?_⟩
  ·rw [hat i hi,if_pos (by rw [← hfar i hi];exact hf),hkP i (by omega)]
  ·rw [hrow _ (by omega),hrow _ hi];exact hs _ _ (by omega) hi
  ·show fanV p b=upto (rowsP p l.length) b
   rw [hrows,hfan b hb]
 rw [parseR_g (by rw [hsz];exact fun h=>h rfl) q8 hrd,hsz,q6]
 show (rowsP p l.length,pack,(0:Int))=_
 rw [hrows]
theorem back{l:List Row}{pack:List Nat}(hok:∀ r∈l,r.ok)(hs:StrictOn l)(hn:l.length≤4096)(h32:pack.length=32)(h8:∀ x∈pack,x<256):parseR (buildM (flags l) pack)=(l,pack,0) :=
 backF (flags_fst l) (flags_ok hok) (fun x hx hf=>by
  obtain ⟨r,hr,rfl⟩:=List.mem_map.1 hx
  have:¬2147483648≤r.pos:=of_decide_eq_false hf
  show r.pos<2147483648
  omega) hs hn h32 h8
end Go.Proofs.YtcmhoboglapbdaaDoor
namespace Go.Proofs.YtcmhoboglapbdaaDoor
open Go Ev
theorem parse_spec{F m:Nat}(hF:2000000<F){h:AH}(hw:h.WF)(hk:KT h){pv:V}{p:List Nat}(hp:Bs h pv p)(hlen:p.length≤1000000) :
  ∃ w h',runC (EE F) (m+4) nzan [pv] h=some (.tuple [w,.agg (byteL (parseR p).2.1),.int .i64 (parseR p).2.2],h')∧OwnR h.next T_packidx_Row h' w (parseR p).1∧Old h.next h h' :=
 parse_cps (out:=fun x=>∃ w h',x=some (.tuple [w,.agg (byteL (parseR p).2.1),.int .i64 (parseR p).2.2],h')∧OwnR h.next T_packidx_Row h' w (parseR p).1∧Old h.next h h') hF hw hk hp hlen (fun w h' a b=>⟨w,h',rfl,a,b⟩)
theorem find_spec{F m:Nat}(hF:2000000<F){h:AH}(hw:h.WF)(hk:KT h){pv:V}{p:List Nat}(hp:Bs h pv p)(hlen:p.length≤1000000){id:List Nat}(hi:id.length=32)(hi8:∀ x∈id,x<256) :
  ∃ h',runC (EE F) (m+5) nzal [pv,.agg (byteL id)] h=some (.tuple [.agg (rowL (findR p id).1),.int .i64 (findR p id).2],h')∧Old h.next h h' :=
 find_cps (out:=fun x=>∃ h',x=some (.tuple [.agg (rowL (findR p id).1),.int .i64 (findR p id).2],h')∧Old h.next h h') hF hw hk hp hlen hi hi8 (fun h' a=>⟨h',rfl,a⟩)
theorem Build_spec{F m:Nat}(hF:2000000<F){h:AH}(hw:h.WF)(hk:KT h){p:V}{l:List Row}(hp:Rs h p l)(hl:l.length≤200∨4096<l.length)(hlen:l.length≤2932031007317){pack:List Nat}(h32:pack.length=32)(h8:∀ x∈pack,x<256) :
  ∃ v h',runC (EE F) (m+210) nzak [p,.agg (byteL pack)] h=some (.tuple [v,.int .i64 (buildE l)],h')∧Own h.next 1 T_uint8 h' v (buildB l pack).length (byteL (buildB l pack))∧Old h.next h h' :=
 build_spec (d:=m+203) (N:=200) (by omega) (sort_ok (m:=m) (by omega)) (by omega) hw hk hp hl hlen h32 h8
theorem buildB_byte{l:List Row}(hok:∀ r∈l,r.ok){pack:List Nat}(h8:∀ x∈pack,x<256):∀ x∈buildB l pack,x<256:=by
 unfold buildB
 split
 ·intro x hx;cases hx
 ·split
  ·intro x hx;cases hx
  ·exact buildM_byte (flags_ok (sortM_ok hok)) h8
theorem buildB_len{l:List Row}(hok:∀ r∈l,r.ok){pack:List Nat}(h32:pack.length=32):(buildB l pack).length≤400000:=by
 unfold buildB
 split
 ·simp
 ·split
  ·simp
  ·have h1:=bodyM_len (flags_ok (sortM_ok hok)) h32
   have h2:=nfar_le (flags (sortM l))
   rw [flags_len,sortM_len] at h1 h2
   unfold buildM
   rw [List.length_append,h1,sumM_len];omega
theorem strict_on{l:List Row}(h:StrictS l):StrictOn l:=by
 intro i j hij hj
 have:=List.pairwise_iff_getElem.1 h i j (by omega) hj hij
 rw [rat_getElem (show i<l.length by omega),rat_getElem hj] at this
 exact this
theorem build_back{l:List Row}(hok:∀ r∈l,r.ok)(he:buildE l=0){pack:List Nat}(h32:pack.length=32)(h8:∀ x∈pack,x<256):parseR (buildB l pack)=(sortM l,pack,0)∧StrictOn (sortM l):=by
 unfold buildE at he
 unfold buildB
 by_cases h1:4096<l.length
 ·rw [if_pos h1] at he;cases he
 ·rw [if_neg h1] at he ⊢
  by_cases h2:twiceM (sortM l)=true
  ·rw [if_pos h2] at he;cases he
  ·rw [if_neg h2]
   have hst:=strict_on (strict_of (sortM_both l).2 (by simpa using h2))
   exact ⟨back (sortM_ok hok) hst (by rw [sortM_len];omega) h32 h8,hst⟩
abbrev idA(n:Nat):List Nat:=n :: List.replicate 31 0
def rowA:Row:=⟨idA 2,0,7⟩
def rowB:Row:=⟨idA 1,9,2147483648⟩
theorem idA_byte{n:Nat}(h:n<256):∀ x∈idA n,x<256:=by
 intro x hx
 rcases List.mem_cons.1 hx with rfl | hx
 ·exact h
 ·rw [List.eq_of_mem_replicate hx];omega
theorem rowA_ok:rowA.ok:=⟨rfl,idA_byte (by omega),by decide,by decide⟩
theorem rowB_ok:rowB.ok:=⟨rfl,idA_byte (by omega),by decide,by decide⟩
theorem bld_A:bld [(0,32,(.agg (byteL (idA 2)))),(33,1,(.int .u64 7))] (List.replicate 32 (.int .u8 0)++[.int .u32 0]++[.int .u64 0])=some (.agg (rowL rowA)):=rfl
theorem bld_B:bld [(0,32,(.agg (byteL (idA 1)))),(33,1,(.int .u64 2147483648)),(32,1,(.int .u32 9))] (List.replicate 32 (.int .u8 0)++[.int .u32 0]++[.int .u64 0])=some (.agg (rowL rowB)):=rfl
theorem two_rows{h:AH}(hw:h.WF){a b:Row}(ha:a.ok)(hb:b.ok)(e:Nat):∃ v h',bsl 34 2 [(0,34,(.agg (rowL a))),(34,34,(.agg (rowL b)))] (List.replicate 32 (.int .u8 0)++[.int .u32 0]++[.int .u64 0]) e h=some (v,h')∧OwnR h.next e h' v [a,b]∧Old h.next h h':=by
 have la:=rowL_len ha
 have lb:=rowL_len hb
 have hz:(List.replicate 2 zRow).flatten.length=68:=rfl
 refine bsl_own hw (z:=34) (n:=2) (cs:=rowsL [a,b]) ?_ (by rw [rowsL_len (by intro r hr;simp only [List.mem_cons,List.not_mem_nil,or_false] at hr;rcases hr with rfl | rfl;exact ha;exact hb)];rfl) (rowsL_cell _)
 have e1:putL (rowL a) 0 (List.replicate 2 zRow).flatten=rowL a++zRow:=by
  unfold putL
  rw [List.take_zero,List.nil_append,Nat.zero_add,la]
  congr 1
 have e2:putL (rowL b) 34 (rowL a++zRow)=rowL a++rowL b:=by
  unfold putL
  rw [List.take_left' la,List.drop_append,List.drop_of_length_le (by omega),lb,la]
  simp
 unfold fillW
 rw [if_pos ⟨rfl,la,by rw [hz];omega⟩]
 unfold fillW
 rw [if_pos ⟨rfl,lb,by show 34+34≤(putL (rowL a) 0 _).length;rw [e1,List.length_append,la];simp⟩]
 show fillW [] (putL (rowL b) 34 (putL (rowL a) 0 _))=_
 rw [e1,e2]
 show some _=some _
 rw [rowsL_cons,rowsL_one]
theorem sortAB:sortM [rowA,rowB]=[rowB,rowA]:=by kernel_rfl
theorem twiceBA:twiceM [rowB,rowA]=false:=by kernel_rfl
theorem buildE_AB:buildE [rowA,rowB]=0:=by
 unfold buildE
 rw [sortAB,twiceBA]
 rfl
theorem buildB_AB_len{pack:List Nat}(h32:pack.length=32):(buildB [rowA,rowB] pack).length=1184:=by
 unfold buildB
 rw [sortAB,twiceBA]
 show (buildM (flags [rowB,rowA]) pack).length=1184
 have hok:∀ x∈flags [rowB,rowA],x.1.ok:=flags_ok (by
  intro r hr
  simp only [List.mem_cons,List.not_mem_nil,or_false] at hr
  rcases hr with rfl | rfl
  ·exact rowB_ok
  ·exact rowA_ok)
 unfold buildM
 rw [List.length_append,bodyM_len hok h32,sumM_len]
 have e:nfar (flags [rowB,rowA])=1:=by kernel_rfl
 rw [e]
 rfl
theorem awake10_spec{F m:Nat}(hF:2000000<F){h:AH}(hw:h.WF)(hk:KT h):∃ h',runC (EE F) (m+211) nzae [] h=some (.bool true,h')∧Old h.next h h':=by
 rw [tzae]
 have hpos:=hk.pos hw
 have hokAB:∀ r∈[rowA,rowB],r.ok:=by
  intro r hr
  simp only [List.mem_cons,List.not_mem_nil,or_false] at hr
  rcases hr with rfl | rfl
  ·exact rowA_ok
  ·exact rowB_ok
 obtain ⟨v1,h1,e1,w1,o1⟩:=two_rows hw rowA_ok rowB_ok T_packidx_Row
 have hid:∀ n,(idA n).length=32:=fun n=>rfl
 obtain ⟨v2,h2,e2,w2,o2⟩:=Build_spec (F:=F) (m:=m) hF o1.wf (hk.old hpos o1) (p:=v1) (l:=[rowA,rowB]) ⟨w1.sl,hokAB⟩ (.inl (by simp)) (by simp) (pack:=idA 5) (hid 5) (idA_byte (by omega))
 have o12:=o1.trans (o2.weak o1.next)
 have hb8:=buildB_byte hokAB (idA_byte (show 5<256 by omega))
 have hbl:=buildB_len hokAB (hid 5)
 have hb1184:=buildB_AB_len (hid 5)
 obtain ⟨hpr,hst⟩:=build_back hokAB buildE_AB (hid 5) (idA_byte (show 5<256 by omega))
 rw [buildE_AB] at e2
 rw [sortAB] at hpr
 generalize buildB [rowA,rowB] (idA 5)=P at *
 have hfr:findR P (idA 1)=(rowB,0):=by
  unfold findR
  rw [hpr]
  rfl
 have b2:=w2.bs hb8
 obtain ⟨h3,e3,o3⟩:=find_spec (F:=F) (m:=m+205) hF o2.wf (hk.old hpos o12) b2 (by omega) (hid 1) (idA_byte (show 1<256 by omega))
 rw [hfr] at e3
 have o13:=o12.trans (o3.weak o12.next)
 obtain ⟨h4,t1,t2,t3,t4,t5⟩:=tmp_row o3.wf rowB_ok T_packidx_Row
 have o14:=o13.trans (t4.weak o13.next)
 have b4:=(b2.old o2.wf o3).old o3.wf t4
 obtain ⟨w5,h5,e5,y5,o5⟩:=parse_spec (F:=F) (m:=m+206) hF t4.wf (hk.old hpos o14) b4 (by omega)
 rw [hpr] at e5 y5
 obtain ⟨c1,c2,c3,c4⟩:=al_cells o5.wf (List.replicate 32 (.int .u8 0)) T_api_Id rfl (by simp)
 have c2':(al (List.replicate 32 (.int .u8 0)) T_api_Id h5).1=.ptr ⟨h5.next,32,0⟩:=c2
 generalize hh6:(al (List.replicate 32 (.int .u8 0)) T_api_Id h5).2=h6 at *
 obtain ⟨h7,p1,p2,p3⟩:=c1.put c4.wf (n:=32) (vs:=byteL (idA 5)) rfl rfl (byteL_cell _)
 have o57:Old h5.next h5 h7:=c4.trans (p3.old (Nat.le_refl _))
 have o47:Old h4.next h4 h7:=o5.trans (o57.weak o5.next)
 have t7:=t3.old t4.wf o47
 have b7:=b4.old t4.wf o47
 have hokBA:∀ r∈[rowB,rowA],r.ok:=by
  intro r hr
  simp only [List.mem_cons,List.not_mem_nil,or_false] at hr
  rcases hr with rfl | rfl
  ·exact rowB_ok
  ·exact rowA_ok
 have R7:Rs h7 w5 [rowB,rowA]:=⟨(y5.old o5.wf o57).sl,hokBA⟩
 obtain ⟨a,u1,u2⟩:=R7.at (i:=0) (r:=rowB) rfl
 have u1':ixS 34 w5 0=some (.ptr a):=u1
 have ep:ldA 32 (.ptr ⟨h5.next,32,0⟩) h7=some (.agg (byteL (idA 5))):=p2.ldA rfl
 have q1:((0:Int)==0)=true:=rfl
 have q2:(((rowB.pos:Nat):Int)==2147483648)=true:=rfl
 have q3:(((rowB.crc:Nat):Int)==9)=true:=rfl
 have q4:(((P.length:Nat):Int)==1184)=true:=by rw [hb1184];rfl
 have q5:((([rowB,rowA].length:Nat):Int)==2)=true:=rfl
 have eq1:eqW PP false T_api_Id (.agg (byteL rowB.id)) (.agg (byteL (idA 1)))=some (.bool true):=by rw [eqId rowB_ok.1 rfl];rfl
 have eq5:eqW PP false T_api_Id (.agg (byteL (idA 5))) (.agg (byteL (idA 5)))=some (.bool true):=by rw [eqId rfl rfl,dT rfl]
 have k2:bld [(0,1,(.int .u8 2))] (List.replicate 32 (.int .u8 0))=some (.agg (byteL (idA 2))):=rfl
 have k1:bld [(0,1,(.int .u8 1))] (List.replicate 32 (.int .u8 0))=some (.agg (byteL (idA 1))):=rfl
 have k5:bld [(0,1,(.int .u8 5))] (List.replicate 32 (.int .u8 0))=some (.agg (byteL (idA 5))):=rfl
 refine ⟨h7,?_,o14.trans (o47.weak o14.next)⟩
 simp -implicitDefEqProofs only [zae.fn,zae.c0,k2,k1,k5,bA_some,bld_A,bld_B,e1,cV_some,cxC,e2,ex0,ex1,bV_some,bI_some,e3,t1,t2,bS_some,e5,et0,et1,et2,c2',hh6,p1,q1,cond_true,fA_ptr,row_pos t7 rowB_ok,row_crc t7 rowB_ok,q2,q3,b7.1.len,q4,R7.1.len,q5,u1',fA_at,rid_of u2 rowB_ok,eq1,bB_some,ep,eq5,zae.ret]
 rfl
end Go.Proofs.YtcmhoboglapbdaaDoor
namespace Go.Proofs.YtcmhoboglapbdaaDoor
open Go Go.ChangeShapes Go.WideShapes Go.ChangeAt Go.RowKit Ev
theorem laidOut:laidOutB Tryd.prog=true:=by kernel_rfl
theorem GG_tab(l:List Tab)(pl:Nat→Spot)(e:Nat)(h:tabOf l 0=some ⟨0,kTab.map (V.int .u32),e⟩)(hp:pl 0=⟨0,0,64⟩)(g L:Nat)(hg:GG g=some L):∃ t,tabOf l g=some t∧t.vs.length=L∧(pl g).cb=g∧(pl g).off=0:=by
 cases g with
 | zero=>cases hg;exact ⟨_,h,rfl,by rw [hp],by rw [hp]⟩
 | succ g=>cases hg
end Go.Proofs.YtcmhoboglapbdaaDoor
namespace Go.Proofs.YtcmhoboglapbdaaDoor
open Go Go.ChangeShapes Go.WideShapes Go.ChangeAt Go.RowKit Go.WideElems Ev
def rowV(r:Row):List Value:=r.id.map (fun n:Nat=>Value.int .u8 (n:Int))++[.int .u32 (r.crc:Int),.int .u64 (r.pos:Int)]
theorem rowV_len{r:Row}(h:r.ok):(rowV r).length=34:=by unfold rowV;rw [List.length_append,List.length_map,h.1];rfl
theorem row_R{r:Row}{k:Nat}{v:V}(h:(rowL r)[k]?=some v):∃ u,(rowV r)[k]?=some u∧∀ ρ,R ρ v u:=by
 unfold rowL at h
 unfold rowV
 by_cases hk:k<r.id.length
 ·rw [List.getElem?_append_left (by rw [byteL_len];exact hk),byteL_get,List.getElem?_eq_getElem hk] at h
  rw [List.getElem?_append_left (by rw [List.length_map];exact hk),List.getElem?_map,List.getElem?_eq_getElem hk]
  cases h
  exact ⟨_,rfl,fun ρ=>rfl⟩
 ·rw [List.getElem?_append_right (by rw [byteL_len];omega),byteL_len] at h
  rw [List.getElem?_append_right (by rw [List.length_map];omega),List.length_map]
  generalize k-r.id.length=j at *
  match j,h with
  | 0,h=>cases h;exact ⟨_,rfl,fun ρ=>rfl⟩
  | 1,h=>cases h;exact ⟨_,rfl,fun ρ=>rfl⟩
  | j+2,h=>simp at h
theorem rowsL_get:∀ {l:List Row},(∀ r∈l,r.ok)→∀ {i k:Nat},k<34→(rowsL l)[i*34+k]?=(l[i]?).bind fun r=>(rowL r)[k]?:=by
 intro l
 induction l with
 | nil=>intro _ i k _;simp [rowsL]
 | cons x l ih =>
  intro hl i k hk
  have hx:=rowL_len (hl x (by simp))
  rw [rowsL_cons]
  cases i with
  | zero =>
   rw [Nat.zero_mul,Nat.zero_add,List.getElem?_append_left (by omega)];rfl
  | succ i =>
   rw [List.getElem?_append_right (by omega),show (i+1)*34+k-(rowL x).length=i*34+k by omega,ih (fun y hy=>hl y (by simp [hy])) hk]
   simp
section
structure RT (P:Program) (ts ti tr ta tb tc:TypeId) (f0 f1 f2:Field):Prop where
 us:P.underlying ts=some (.slice tr)
 ur:P.underlying tr=some (.struct #[f0,f1,f2])
 ui:P.underlying ti=some (.array 32 ta)
 ua:P.underlying ta=some (.int .u8)
 ub:P.underlying tb=some (.int .u32)
 uc:P.underlying tc=some (.int .u64)
 f0:f0.type=ti∧f0.offset=0
 f1:f1.type=tb∧f1.offset=32
 f2:f2.type=tc∧f2.offset=33
 ca:P.cellsOf ta=1
 ci:P.cellsOf ti=32
 cb:P.cellsOf tb=1
 cc:P.cellsOf tc=1
 cr:P.cellsOf tr=34
variable {H:Type} {enc:TypeId×Value→H} {P:Program} {W:World} {base:Nat} {sp:Nat→Bool} {held:Bool} {ts ti tr ta tb tc:TypeId} {f0 f1 f2:Field}
theorem id_cells(X:RT P ts ti tr ta tb tc f0 f1 f2){fuel:Nat}{cs:List Value}{x:DataW H×List MemPlace}(h:DataW.trod enc P W base sp held fuel ti cs=some x):∃ l:List Nat,l.length=32∧(∀ y∈l,y<256)∧cs=l.map (fun n:Nat=>Value.int .u8 (n:Int)):=by
 obtain ⟨xs,m,rfl,hx,hlen,hxl,hel⟩:=DataW.trod_array X.ui h
 rw [X.ci] at hlen
 have each:∀ i,i<32→∃ n:Nat,n<256∧cs[i]?=some (.int .u8 (n:Int)):=by
  intro i hi
  have h1:=hel i hi
  rw [X.ca,Nat.mul_one,List.getElem?_eq_getElem (show i<xs.length by omega)] at h1
  obtain ⟨z,h2,_,h3⟩:=DataW.trod_int X.ua h1
  have:=bounds_u8 h3
  refine ⟨z.toNat,by omega,?_⟩
  rw [List.take_one,List.head?_drop,List.getElem?_eq_getElem (show i<cs.length by omega)] at h2
  rw [List.getElem?_eq_getElem (show i<cs.length by omega)]
  simp only [Option.toList_some,List.cons.injEq,and_true] at h2
  rw [h2]
  exact congrArg (fun q=>some (Value.int .u8 q)) (by omega)
 refine ⟨cs.map fun | .int _ z=>z.toNat | _=>0,by rw [List.length_map];exact hlen,?_,?_⟩
 ·intro y hy
  obtain ⟨u,hu,rfl⟩:=List.mem_map.1 hy
  obtain ⟨i,hi,rfl⟩:=List.getElem_of_mem hu
  obtain ⟨n,h1,h2⟩:=each i (by omega)
  rw [List.getElem?_eq_getElem hi] at h2
  rw [Option.some.inj h2]
  simpa using h1
 ·rw [List.map_map]
  apply List.ext_getElem?
  intro i
  rw [List.getElem?_map]
  by_cases hi:i<32
  ·obtain ⟨n,_,h2⟩:=each i hi
   rw [h2]
   simp
  ·rw [List.getElem?_eq_none (by omega)];rfl
theorem row_cells(X:RT P ts ti tr ta tb tc f0 f1 f2){fuel:Nat}{cs:List Value}{x:DataW H×List MemPlace}(h:DataW.trod enc P W base sp held fuel tr cs=some x):∃ r:Row,r.ok∧cs=rowV r:=by
 obtain ⟨xs,m,rfl,hx,hlen,hxl,hel⟩:=DataW.trod_struct X.ur h
 rw [X.cr] at hlen
 have hxl':xs.length=3:=hxl
 have h0:=hel 0 f0 rfl
 have h1:=hel 1 f1 rfl
 have h2:=hel 2 f2 rfl
 rw [X.f0.1,X.f0.2,X.ci] at h0
 rw [X.f1.1,X.f1.2,X.cb] at h1
 rw [X.f2.1,X.f2.2,X.cc] at h2
 rw [List.getElem?_eq_getElem (show 0<xs.length by omega)] at h0
 rw [List.getElem?_eq_getElem (show 1<xs.length by omega)] at h1
 rw [List.getElem?_eq_getElem (show 2<xs.length by omega)] at h2
 obtain ⟨l,l1,l2,l3⟩:=id_cells X h0
 obtain ⟨z,z1,_,z2⟩:=DataW.trod_int X.ub h1
 obtain ⟨y,y1,_,y2⟩:=DataW.trod_int X.uc h2
 have bz:=bounds_u32 z2
 have by_:=bounds_u64 y2
 refine ⟨⟨l,z.toNat,y.toNat⟩,⟨l1,l2,(show z.toNat<4294967296 by omega),(show y.toNat<18446744073709551616 by omega)⟩,?_⟩
 have e:cs=(cs.drop 0).take 32++((cs.drop 32).take 1++(cs.drop 33).take 1):=by
  have e1:cs=cs.take 32++cs.drop 32:=(List.take_append_drop 32 cs).symm
  have e2:cs.drop 32=(cs.drop 32).take 1++(cs.drop 32).drop 1:=(List.take_append_drop 1 _).symm
  have e3:(cs.drop 33).take 1=cs.drop 33:=List.take_of_length_le (by rw [List.length_drop];omega)
  rw [List.drop_zero,e3]
  conv=>lhs;rw [e1,e2]
  rw [List.drop_drop]
 rw [e,l3,z1,y1]
 unfold rowV
 simp only [List.cons_append,List.nil_append]
 rw [show ((z.toNat:Nat):Int)=z by omega,show ((y.toNat:Nat):Int)=y by omega]
theorem list_of{α:Type}{Q:Nat→α→Prop}:∀ (n:Nat),(∀ i,i<n→∃ r,Q i r)→∃ l:List α,l.length=n∧∀ i r,l[i]?=some r→Q i r:=by
 intro n
 induction n with
 | zero=>intro _;exact ⟨[],rfl,fun i r h=>by simp at h⟩
 | succ n ih =>
  intro h
  obtain ⟨l,h1,h2⟩:=ih fun i hi=>h i (by omega)
  obtain ⟨r,hr⟩:=h n (by omega)
  refine ⟨l++[r],by rw [List.length_append,h1];rfl,fun i x hx=>?_⟩
  by_cases hi:i<n
  ·rw [List.getElem?_append_left (by omega)] at hx
   exact h2 i x hx
  ·rw [List.getElem?_append_right (by omega),h1] at hx
   obtain ⟨j,rfl⟩:∃ j,i=n+j:=⟨i-n,by omega⟩
   rw [show n+j-n=j by omega] at hx
   cases j with
   | zero=>cases hx;exact hr
   | succ j=>simp at hx
theorem rows_in(X:RT P ts ti tr ta tb tc f0 f1 f2){v:Value}{d:DataW H}{ps:List MemPlace}
  (hval:Value.okWide P W .any base ts v) (h:DataW.Trod enc P W 0 (fun _=>true) true ts v d ps) :
  ∃ l:List Row,(∀ x∈l,x.ok)∧((l=[]∧((∀ ρ,R ρ .nilslice v)∨(∀ ρ,R ρ .loose v))) ∨
   (l≠[]∧∃ cb off S e' cap elems spare,v=.slice (some ⟨cb,off,none⟩) l.length cap∧l.length≤cap∧off+cap*34≤S∧d=.slice elems spare∧elems.length=l.length∧∀ g,Tab.Fits ⟨g,rowsL l,e'⟩ ⟨cb,off,S⟩ W)):=by
 obtain ⟨a1,len,cap,rfl⟩:=okWide_slice X.us hval
 obtain ⟨fuel,hf⟩:=h
 rcases DataW.trod_slice X.us hf with ⟨hcs,hx⟩ | ⟨a,len',cap',elems,rest,n,_,hcs,hx,_,hl,hm,hlen,hel,hsp,_⟩
 ·simp [Value.cells] at hcs
  obtain ⟨rfl,rfl,rfl⟩:=hcs
  exact ⟨[],by simp,.inl ⟨rfl,.inl fun ρ=>rfl⟩⟩
 ·simp [Value.cells] at hcs
  obtain ⟨rfl,rfl,rfl⟩:=hcs
  obtain ⟨hrl,hr⟩:=hsp rfl
  by_cases h0:len=0
  ·subst h0
   exact ⟨[],by simp,.inl ⟨rfl,.inr fun ρ=>⟨_,_,rfl⟩⟩⟩
  ·have each:∀ i,i<cap→∃ r:Row,r.ok∧∀ k,k<34→W.cell? ((a.add (i*34)).add k)=(rowV r)[k]?:=by
    intro i hi
    have hb:∃ y,(W.cells? 0 (a.add (i*P.cellsOf tr)) (P.cellsOf tr)).bind (DataW.trod enc P W 0 (fun _=>true) true n tr)=some y:=by
     by_cases hi':i<len
     ·exact ⟨_,(hel i hi').trans (List.getElem?_eq_getElem (by omega))⟩
     ·have:=hr (i-len) (by omega)
      rw [show len+(i-len)=i by omega] at this
      exact ⟨_,this.trans (List.getElem?_eq_getElem (by omega))⟩
    obtain ⟨y,hb⟩:=hb
    rw [X.cr,Option.bind_eq_some_iff] at hb
    obtain ⟨cs',hcs,hy⟩:=hb
    obtain ⟨r,r1,rfl⟩:=row_cells X hy
    refine ⟨r,r1,fun k hk=>?_⟩
    exact (World.cells?_some hcs).2.2 k hk
   obtain ⟨l,l1,l2⟩:=list_of len fun i hi=>each i (by omega)
   have hok:∀ r∈l,r.ok:=by
    intro r hr
    obtain ⟨i,hi,rfl⟩:=List.getElem_of_mem hr
    exact (l2 i _ (List.getElem?_eq_getElem hi)).1
   obtain ⟨ab,ao,spot⟩:=a
   obtain ⟨r0,q0,q1⟩:=each 0 (by omega)
   have hspot:spot=none:=by
    have:=q1 0 (by omega)
    rw [List.getElem?_eq_getElem (by rw [rowV_len q0];omega)] at this
    simpa [Addr.add] using World.cell?_spot this
   subst hspot
   have hc0:=q1 0 (by omega)
   rw [Addr.add_lit,Addr.add_lit,List.getElem?_eq_getElem (by rw [rowV_len q0];omega)] at hc0
   obtain ⟨c,e',lo,hi,g1,g2⟩:=cell?_fits hc0
   have at_:∀ i k r u,k<34→(∀ k,k<34→W.cell? (((⟨ab,ao,none⟩:Addr).add (i*34)).add k)=(rowV r)[k]?)→(rowV r)[k]?=some u→c[ao+(i*34+k)]?=some u:=by
    intro i k r u hk hh hu
    have h1:=hh k hk
    rw [Addr.add_lit,Addr.add_lit,hu,Nat.add_assoc] at h1
    obtain ⟨c',e'',lo',hi',g3,g4⟩:=cell?_fits h1
    rw [g1] at g3
    cases g3
    exact g4
   have hS:ao+cap*34≤c.size:=by
    obtain ⟨r1,p0,p1⟩:=each (cap-1) (by omega)
    have:=at_ (cap-1) 33 r1 _ (by omega) p1 (List.getElem?_eq_getElem (by rw [rowV_len p0];omega))
    have:=(Array.getElem?_eq_some_iff.1 this).1
    omega
   refine ⟨l,hok,.inr ⟨fun e=>?_,ab,ao,c.size,e',cap,elems.map (·.1),rest.map (·.1),by rw [l1],by omega,hS,?_,by rw [List.length_map,l1,hlen],fun g=>⟨c,lo,hi,g1,rfl,?_,fun ρ j v hv=>?_⟩⟩⟩
   ·rw [e] at l1;exact h0 l1.symm
   ·simp only [Prod.mk.injEq] at hx
    exact hx.1
   ·simp only [rowsL_len hok]
    omega
   ·simp only at hv ⊢
    have hj:j=j / 34*34+j % 34:=by omega
    rw [hj,rowsL_get hok (Nat.mod_lt _ (by omega)),Option.bind_eq_some_iff] at hv
    obtain ⟨r,v1,v2⟩:=hv
    obtain ⟨u,u1,u2⟩:=row_R v2
    refine ⟨u,?_,u2 ρ⟩
    rw [hj]
    exact at_ _ _ r u (Nat.mod_lt _ (by omega)) (l2 _ _ v1).2 u1
end
theorem RR:∃ f0 f1 f2,RT Tryd.prog 22 24 48 5 42 43 f0 f1 f2:=⟨_,_,_,Tryd.underlying22,Tryd.underlying48,Tryd.underlying24,Tryd.underlying5,Tryd.underlying42,Tryd.underlying43,⟨rfl,rfl⟩,⟨rfl,rfl⟩,⟨rfl,rfl⟩,by kernel_rfl,by kernel_rfl,by kernel_rfl,by kernel_rfl,by kernel_rfl⟩
theorem tab_rs{n:Nat}{l:List Tab}{g:Nat}{m:List Row}{e:Nat}(h:tabOf l g=some ⟨g,rowsL m,e⟩)(hm:∀ r∈m,r.ok):Rs (tabsH n l) (.slice ⟨g,m.length*34,0⟩ m.length m.length false 34) m:=by
 refine ⟨⟨rowsL_len hm,.inr ⟨_,_,_,rfl,Nat.le_refl _,?_⟩⟩,hm⟩
 exact tab_read h (rowsL_len hm).symm
theorem tab_RR{l:List Tab}{pl:Nat→Spot}{g e:Nat}{m:List Row}(h:tabOf l g=some ⟨g,rowsL m,e⟩)(hm:∀ r∈m,r.ok){cb off S cap:Nat}(hp:pl g=⟨cb,off,S⟩)(hcap:m.length≤cap)(hS:off+cap*34≤S) :
  R (tabsRho l pl) (.slice ⟨g,m.length*34,0⟩ m.length m.length false 34) (.slice (some ⟨cb,off,none⟩) m.length cap):=by
 have h1:=tabsRho_of (pl:=pl) h
 simp only [rowsL_len hm,hp] at h1
 refine ⟨cb,-(off:Int),S,cap,?_,h1,?_,hcap,(by intro h;cases h),Nat.le_refl _,?_⟩
 ·simp
 ·simp only;omega
 ·simp only;omega
theorem walk_rows{W:World}(hL:Lib.TabIs Tryd.prog W "codicil/sha.k" .u32 kTab){v:Value}{f:FuncId}{args:List V}{vs:List Value}(hA:∀ ρ,RL ρ args vs)(l:List Row)(hl8:∀ x∈l,x.ok)
  (hv:(l=[]∧((∀ ρ,R ρ .nilslice v)∨(∀ ρ,R ρ .loose v)))∨(l≠[]∧∃ cb off S e' cap,v=.slice (some ⟨cb,off,none⟩) l.length cap∧l.length≤cap∧off+cap*34≤S∧∀ g,Tab.Fits ⟨g,rowsL l,e'⟩ ⟨cb,off,S⟩ W))
  (hrun:∀ (h:AH) (p:V),h.WF→KT h→Rs h p l→∃ F n h',runC (EE F) n f (p :: args) h=some (.bool true,h')) :
  Calls Tryd.prog f (v :: vs).toArray W fun e w=>e=.returned (.bool true)∧Same W w:=by
 obtain ⟨e,he⟩:=tab_fits hL gK
 have fin:∀ {F n:Nat} {tl:List Tab} {pl:Nat→Spot} {m:Nat} {p:V} {h':AH},(∀ t∈tl,t.g<m)→(∀ t∈tl,t.Fits (pl t.g) W)→tabOf tl 0=some ⟨0,kTab.map (V.int .u32),e⟩→pl 0=⟨0,0,64⟩→R (tabsRho tl pl) p v→runC (EE F) n f (p :: args) (tabsH m tl)=some (.bool true,h') →
   Calls Tryd.prog f (v :: vs).toArray W fun e w=>e=.returned (.bool true)∧Same W w:=by
  intro F n tl pl m p h' h1 h2 h3 h4 h5 h6
  refine (tab_calls (EE_ok F) (n:=n) (f:=f) (l:=tl) (pl:=pl) (m:=m) (W:=W) (args:=p :: args) (args':=v :: vs) h1 h2 (GG_tab tl pl e h3 h4) (show RL (tabsRho tl pl) (p :: args) (v :: vs) from ⟨v,vs,rfl,h5,hA _⟩) h6).mono ?_
  rintro x w ⟨u,ρ',rfl,q1,_,_,q2⟩
  exact ⟨by rw [show u=.bool true from q1],q2⟩
 have kt:∀ {m:Nat} {tl:List Tab},tabOf tl 0=some ⟨0,kTab.map (V.int .u32),e⟩→KT (tabsH m tl):=fun h=>tab_read h rfl
 rcases hv with ⟨rfl,hv⟩ | ⟨hne,cb,off,S,e',cap,rfl,hcap,hS,hfit⟩
 ·have hw:(tabsH 1 [⟨0,kTab.map (V.int .u32),e⟩]).WF:=tabs_wf (by intro t ht;simp only [List.mem_singleton] at ht;subst ht;exact Nat.one_pos)
  have hb:∀ p,(p=.nilslice∨p=.loose)→Rs (tabsH 1 [⟨0,kTab.map (V.int .u32),e⟩]) p []:=fun p hp=>⟨⟨rfl,.inl ⟨rfl,hp⟩⟩,by simp⟩
  rcases hv with hv | hv
  ·obtain ⟨F,n,h',hr⟩:=hrun _ _ hw (kt rfl) (hb .nilslice (.inl rfl))
   exact fin (pl:=fun _=>⟨0,0,64⟩) (by intro t ht;simp only [List.mem_singleton] at ht;subst ht;exact Nat.one_pos) (by intro t ht;simp only [List.mem_singleton] at ht;subst ht;exact he) rfl rfl (hv _) hr
  ·obtain ⟨F,n,h',hr⟩:=hrun _ _ hw (kt rfl) (hb .loose (.inr rfl))
   exact fin (pl:=fun _=>⟨0,0,64⟩) (by intro t ht;simp only [List.mem_singleton] at ht;subst ht;exact Nat.one_pos) (by intro t ht;simp only [List.mem_singleton] at ht;subst ht;exact he) rfl rfl (hv _) hr
 ·have hm:∀ t∈([⟨1,rowsL l,e'⟩,⟨0,kTab.map (V.int .u32),e⟩]:List Tab),t.g<2:=by
   intro t ht
   simp only [List.mem_cons,List.not_mem_nil,or_false] at ht
   rcases ht with rfl | rfl
   ·exact Nat.lt_succ_self 1
   ·exact Nat.two_pos
  obtain ⟨F,n,h',hr⟩:=hrun _ _ (tabs_wf hm) (kt (m:=2) (tl:=[⟨1,rowsL l,e'⟩,⟨0,kTab.map (V.int .u32),e⟩]) rfl) (tab_rs (g:=1) (e:=e') rfl hl8)
  refine fin (pl:=fun g=>bif Nat.beq g 0 then ⟨0,0,64⟩ else ⟨cb,off,S⟩) hm ?_ rfl rfl (tab_RR (g:=1) (e:=e') rfl hl8 rfl hcap hS) hr
  intro t ht
  simp only [List.mem_cons,List.not_mem_nil,or_false] at ht
  rcases ht with rfl | rfl
  ·exact hfit 1
  ·exact he
end Go.Proofs.YtcmhoboglapbdaaDoor
namespace Go.Proofs.YtcmhoboglapbdaaDoor
open Go Ev
theorem quiet_get{g:AH→Res}{h h':AH}{v:V}(e:g ⟨h.next,h.next,h.m⟩=some (v,h'))(ho:h.next≤h'.low):quiet g h=some (v,⟨h'.next,h.low,h'.m⟩):=by
 unfold quiet
 rw [e]
 simp only
 rw [if_pos ho]
theorem quiet_rows{F n:Nat}{h:AH}(hw:h.WF){p:V}{l:List Row}(hp:Rs h p l)(hl:l.length≤2932031007317)(hF:l.length<F) :
  ∃ v h',quiet (fun h=>runC (EE F) (n+1) nzag [p] h) h=some (v,h')∧OwnR h.next T_packidx_Row h' v l∧Old h.next h h':=by
 obtain ⟨v,h',e,w,o⟩:=rows_spec (F:=F) (n:=n) (wf_low hw h.next) (show Rs ⟨h.next,h.next,h.m⟩ p l from hp) hl hF
 refine ⟨v,⟨h'.next,h.low,h'.m⟩,?_,w.mono o.wf (fun _ _=>rfl),o.next,o.get,Nat.min_le_left _ _,o.wf⟩
 exact quiet_get e (by have:=o.low;simp only at this;omega)
theorem id_box{h:AH}(hw:h.WF){l:List Nat}(hl:l.length=32):∃ h',absBox T_api_Id (.agg (byteL l)) h=some (.ptr ⟨h.next,32,0⟩,h')∧Cells h' h.next T_api_Id (byteL l)∧h'.next=h.next+1∧Old h.next h h':=by
 obtain ⟨h1,e1,c1,n1,o1⟩:=box_cells hw (byteL l) T_api_Id (byteL_cell l)
 exact ⟨h1,by rw [e1,byteL_len,hl],c1,n1,o1⟩
end Go.Proofs.YtcmhoboglapbdaaDoor
namespace Go.Proofs.YtcmhoboglapbdaaDoor
open Go Ev
def row99:Row:=⟨z32,0,99⟩
theorem buildB_err{l:List Row}{pack:List Nat}(h:buildE l≠0):buildB l pack=[]:=by
 unfold buildE at h
 unfold buildB
 split at h
 ·rename_i h1;rw [if_pos h1]
 ·rename_i h1
  rw [if_neg h1]
  split at h
  ·rename_i h2;rw [if_pos h2]
  ·exact absurd rfl h
theorem id_put{h:AH}(hw:h.WF){l:List Nat}(hl:l.length=32):∃ h',(al (List.replicate 32 (.int .u8 0)) T_api_Id h).1=.ptr ⟨h.next,32,0⟩∧st 32 (.ptr ⟨h.next,32,0⟩) (.agg (byteL l)) (al (List.replicate 32 (.int .u8 0)) T_api_Id h).2=some h'∧ldA 32 (.ptr ⟨h.next,32,0⟩) h'=some (.agg (byteL l))∧Cells h' h.next T_api_Id (byteL l)∧Old h.next h h':=by
 obtain ⟨c1,c2,c3,c4⟩:=al_cells hw (List.replicate 32 (.int .u8 0)) T_api_Id rfl (by simp)
 obtain ⟨h',p1,p2,p3⟩:=c1.put c4.wf (n:=32) (vs:=byteL l) rfl (by rw [byteL_len,hl]) (byteL_cell _)
 exact ⟨h',c2,p1,p2.ldA (by rw [byteL_len,hl]),p2,c4.trans (p3.old (Nat.le_refl _))⟩
end Go.Proofs.YtcmhoboglapbdaaDoor
namespace Go.Proofs.YtcmhoboglapbdaaDoor
open Go Ev
theorem twice_no{l:List Row}(he:buildE l=0):¬4096<l.length∧twiceM (sortM l)=false:=by
 unfold buildE at he
 split at he
 ·cases he
 ·rename_i h1
  refine ⟨h1,?_⟩
  split at he
  ·cases he
  ·rename_i h2
   exact Bool.eq_false_iff.2 h2
theorem rev_same{l:List Row}(he:buildE l=0)(pack:List Nat):buildE l.reverse=0∧buildB l.reverse pack=buildB l pack:=by
 obtain ⟨h1,h2⟩:=twice_no he
 obtain ⟨p1,p2⟩:=sortM_both l
 have e:=(sort_law (l:=l.reverse) (p1.trans (List.reverse_perm l).symm) p2).2 h2
 unfold buildE buildB at *
 rw [← e,List.length_reverse]
 exact ⟨he,rfl⟩
theorem find_in{l:List Row}(hok:∀ r∈l,r.ok)(he:buildE l=0){pack:List Nat}(h32:pack.length=32)(h8:∀ x∈pack,x<256){x:Row}(hx:x∈l):findR (buildB l pack) x.id=(x,0):=by
 obtain ⟨hb,hs⟩:=build_back hok he h32 h8
 have hm:x∈sortM l:=(sortM_both l).1.mem_iff.2 hx
 obtain ⟨i,hi,rfl⟩:=List.getElem_of_mem hm
 have e:=find_at hs hi (id:=(sortM l)[i].id) (by rw [← rat_getElem hi])
 unfold findR
 rw [hb]
 simp only [e]
 rw [rat_getElem hi]
 rfl
theorem find_out{l:List Row}(hok:∀ r∈l,r.ok)(he:buildE l=0){pack:List Nat}(h32:pack.length=32)(h8:∀ x∈pack,x<256){id:List Nat}(hx:l.any (isId id)=false):findR (buildB l pack) id=(rz,7):=by
 obtain ⟨hb,hs⟩:=build_back hok he h32 h8
 have e:=find_none (l:=sortM l) (id:=id) (fun i hi e=>by
  have hm:rat (sortM l) i∈l:=(sortM_both l).1.mem_iff.1 (by rw [← rat_getElem hi];exact List.getElem_mem hi)
  have:=List.any_eq_false.1 hx _ hm
  unfold isId at this
  exact this (dT e))
 unfold findR
 rw [hb]
 simp only [e]
 rfl
theorem back_loop{F m:Nat}{Jn:zad.P18→AH→Res}{Jr:zad.PR→AH→Res}{h:AH}(hw:h.WF){lv pk ot pv:V}{l:List Row}(hp:Rs h lv l)(hl:l.length≤100)(hF:200<F){out:Res→Prop}
  (ho:∀ v g,OwnR h.next T_codicilref10_Row g v l.reverse→Old h.next h g→out (Jn (lv,pk,ot,pv,v,()) g)) :
  out (loopN zad.P20 F (fun t h n=>zad.l10 (cx F m) n Jn Jr t h) (lv,pk,ot,pv,.nilslice,(l.length:Int)-1,()) h):=by
 refine loop_rule (S:=zad.P20) (out:=out)
  (fun k s g=>∃ v,k≤l.length∧s=(lv,pk,ot,pv,v,(k:Int)-1,())∧OwnR h.next T_codicilref10_Row g v (l.drop k).reverse∧Old h.next h g) ?_ ?_ l.length F _ _ ⟨.nilslice,Nat.le_refl _,rfl,by rw [List.drop_length];exact own_nil _ _ _ _,Old.refl hw _⟩ (by omega)
 ·rintro k s g n' ⟨v,hi,rfl,w,o⟩
  refine .inl ?_
  have hlt:k<l.length:=by omega
  have hget:l[k]?=some l[k]:=List.getElem?_eq_getElem hlt
  have hr:=hp.2 _ (List.getElem_mem hlt)
  obtain ⟨a,u1,u2⟩:=(hp.old hw o).at hget
  obtain ⟨x,g2,s1,s2,s3⟩:=bsl_row o.wf hr T_codicilref10_Row
  obtain ⟨v',g3,a1,a2,a3,_⟩:=app_rows (w.old o.wf s3) (rs_one s2 hr) s3.wf (Nat.le_trans o.next s3.next) (by rw [List.length_reverse,List.length_drop,List.length_singleton];omega)
  have hd:(l.drop (k+1)).reverse++[l[k]]=(l.drop k).reverse:=by
   rw [List.drop_eq_getElem_cons hlt,List.reverse_cons]
  rw [hd] at a2
  refine ⟨_,g3,?_,v',by omega,rfl,a2,(o.trans (s3.weak o.next)).trans a3⟩
  have c1:decide ((k:Int)≥0)=true:=by rw [decide_eq_true_eq];omega
  have i1:(((k+1:Nat):Int)-1)=(k:Int):=by omega
  have i3:IntKind.wrap .i64 ((k:Int)-1)=(k:Int)-1:=wr_i64 (by omega) (by omega)
  simp only [zad.l10,zad.c10,zad.k10,c1,cond_true,zad.r12,zad.c12,i1,u1,bV_some,ldA_of u2,bA_some,s1,cV_some,a1,zad.r11,zad.c11,wr,i3]
 ·rintro s g n' ⟨v,hi,rfl,w,o⟩
  have c1:decide ((((0:Nat):Int)-1)≥0)=false:=by decide
  have:=ho v g w o
  simp only [zad.l10,zad.c10,zad.k10,c1,cond_false]
  exact this
theorem there_loop{F m:Nat}{Jn:zad.P30→AH→Res}{Jr:zad.PR→AH→Res}{h:AH}(hw:h.WF)(hk:KT h){lv pk pv:V}{l:List Row}(hp:Rs h lv l)(hl:l.length≤100)(hF:2000000<F){P:List Nat}(hb:Bs h pv P)(hPl:P.length≤1000000)
  (hf:∀ x∈l,findR P x.id=(x,0)) {ot:Nat} {other:List Nat} (hc:Cells h ot T_api_Id (byteL other)) (ho32:other.length=32) {out:Res→Prop}
  (ho:∀ g,Old h.next h g→out (Jn (lv,pk,.ptr ⟨ot,32,0⟩,pv,l.any (isId other),()) g)) :
  out (loopN zad.P36 F (fun t h n=>zad.l18 (cx F (m+5)) n Jn Jr t h) (lv,pk,.ptr ⟨ot,32,0⟩,pv,false,lv,(l.length:Int),0,()) h):=by
 have hpos:=hk.pos hw
 refine loop_rule (S:=zad.P36) (out:=out)
  (fun k s g=>∃ i:Nat,i+k=l.length∧s=(lv,pk,.ptr ⟨ot,32,0⟩,pv,(l.take i).any (isId other),lv,(l.length:Int),(i:Int),())∧Old h.next h g) ?_ ?_ l.length F _ _ ⟨0,by omega,rfl,Old.refl hw _⟩ (by omega)
 ·rintro k s g n' ⟨i,hi,rfl,o⟩
  refine .inl ?_
  have hlt:i<l.length:=by omega
  have hget:l[i]?=some l[i]:=List.getElem?_eq_getElem hlt
  have hr:=hp.2 _ (List.getElem_mem hlt)
  have hfi:=hf _ (List.getElem_mem hlt)
  obtain ⟨a,u1,u2⟩:=(hp.old hw o).at hget
  have htk:(l.take (i+1)).any (isId other)=((l.take i).any (isId other) || isId other l[i]):=by
   rw [List.take_add_one,hget,List.any_append];simp
  generalize l[i]=x at *
  obtain ⟨g1,t1,t2,t3,t4,t5⟩:=tmp_row o.wf hr T_codicilref10_Row
  have o1:=o.trans (t4.weak o.next)
  obtain ⟨g2,e2,o2⟩:=find_spec (F:=F) (m:=m) hF t4.wf (hk.old hpos o1) (hb.old hw o1) hPl hr.1 hr.2.1
  rw [hfi] at e2
  have o12:=o1.trans (o2.weak o1.next)
  obtain ⟨g3,s1,s2,s3,s4,s5⟩:=tmp_row o2.wf hr T_packidx_Row
  have o13:=o12.trans (s4.weak o12.next)
  have x3:=(t3.old t4.wf o2).old o2.wf s4
  have y3:=s3.ldA (n:=34) (rowL_len hr).symm
  have c3:=(hc.old hw o13).ldA (n:=32) (by rw [byteL_len,ho32])
  refine ⟨_,g3,?_,i+1,by omega,rfl,o13⟩
  have c1:decide ((i:Int)<(l.length:Int))=true:=by rw [decide_eq_true_eq];omega
  have i3:IntKind.wrap .i64 ((i:Int)+1)=((i+1:Nat):Int):=by rw [wr_i64 (by omega) (by omega)];omega
  have r0:((0:Int) != 0)=false:=rfl
  have ne:neW PP false T_packidx_Row (.agg (rowL x)) (.agg (rowL x))=some (.bool false):=by rw [neRowP hr hr,dT rfl];rfl
  have eqi:=eqId hr.1 ho32
  rw [htk]
  unfold isId at *
  cases hkn:(l.take i).any (fun r=>decide (r.id=other)) with
  | true =>
   simp -implicitDefEqProofs only [zad.l18,zad.c18,zad.k18,c1,cond_true,zad.r19,zad.c19,u1,bV_some,ldA_of u2,bA_some,t1,t2,bS_some,fA_ptr,row_id t3 hr,cxC,e2,cV_some,et0,et1,ex0,ex1,bI_some,s1,s2,zad.k20,zad.c21,r0,cond_false,y3,row_id x3 hr,row_crc x3 hr,row_pos x3 hr,bld_row hr,ne,bB_some,zad.k21,zad.r23,zad.c23,zad.r24,zad.c24,wr,i3,Bool.true_or]
  | false =>
   simp -implicitDefEqProofs only [zad.l18,zad.c18,zad.k18,c1,cond_true,zad.r19,zad.c19,u1,bV_some,ldA_of u2,bA_some,t1,t2,bS_some,fA_ptr,row_id t3 hr,cxC,e2,cV_some,et0,et1,ex0,ex1,bI_some,s1,s2,zad.k20,zad.c21,r0,cond_false,y3,row_id x3 hr,row_crc x3 hr,row_pos x3 hr,bld_row hr,ne,bB_some,zad.k21,zad.r23,zad.c23,zad.r24,zad.c24,c3,eqi,wr,i3,Bool.false_or]
 ·rintro s g n' ⟨i,hi,rfl,o⟩
  obtain rfl:i=l.length:=by omega
  have c1:decide ((l.length:Int)<(l.length:Int))=false:=by rw [decide_eq_false_iff_not];omega
  have:=ho g o
  rw [List.take_length]
  simp only [zad.l18,zad.c18,zad.k18,c1,cond_false]
  exact this
theorem there_spec{F m:Nat}{h:AH}(hw:h.WF)(hk:KT h){p:V}{l:List Row}(hp:Rs h p l)(hlen:l.length≤2932031007317)(hF:2000000+l.length<F){pack:List Nat}(h32:pack.length=32)(h8:∀ x∈pack,x<256){other:List Nat}(o32:other.length=32)(o8:∀ x∈other,x<256) :
  ∃ h',runC (EE F) (m+212) nzad [p,.agg (byteL pack),.agg (byteL other)] h=some (.bool true,h'):=by
 rw [tzad]
 have hpos:=hk.pos hw
 obtain ⟨h1,e1,c1,n1,o1⟩:=id_box hw h32
 obtain ⟨h2,e2,c2,n2,o2⟩:=id_box o1.wf o32
 have o12:=o1.trans (o2.weak o1.next)
 obtain ⟨h3,e3,o3⟩:=awake10_spec (F:=F) (m:=m) (by omega) o2.wf (hk.old hpos o12)
 have o13:=o12.trans (o3.weak o12.next)
 have P3:=hp.old hw o13
 by_cases hb:100<l.length
 ·have x1:decide ((l.length:Int)>100)=true:=by rw [decide_eq_true_eq];omega
  refine ⟨h3,?_⟩
  simp -implicitDefEqProofs only [zad.fn,zad.c0,zad.k0,zad.c1,zad.k1,zad.r3,zad.c3,zad.k3,zad.c4,cxC,e1,e2,cV_some,e3,cB_some,Bool.not_true,cond_false,P3.1.len,bI_some,x1,cond_true,zad.ret]
  rfl
 ·have x1:decide ((l.length:Int)>100)=false:=by rw [decide_eq_false_iff_not];omega
  have hb8:=buildB_byte hp.2 h8
  have hbl:=buildB_len hp.2 h32
  obtain ⟨v4,h4,e4,w4,o4⟩:=quiet_rows (F:=F) (n:=m+210) o3.wf P3 hlen (by omega)
  have o14:=o13.trans (o4.weak o13.next)
  have d1:=((c1.old o1.wf o2).old o2.wf o3).old o3.wf o4
  have d2:=(c2.old o2.wf o3).old o3.wf o4
  obtain ⟨v5,h5,e5,w5,o5⟩:=Build_spec (F:=F) (m:=m+1) (by omega) o4.wf (hk.old hpos o14) ⟨w4.sl,hp.2⟩ (.inl (by omega)) hlen h32 h8
  have o15:=o14.trans (o5.weak o14.next)
  have l1:=d1.ldA (n:=32) (by rw [byteL_len,h32])
  by_cases hE:buildE l=0
  ·rw [hE] at e5
   have j1:IntKind.wrap .i64 ((l.length:Int)-1)=(l.length:Int)-1:=wr_i64 (by omega) (by omega)
   have r0:((0:Int) != 0)=false:=rfl
   have e0:zad.fn (cx F (m+211)) p (byteL pack) (byteL other) h=loopN zad.P20 F (fun t h n=>zad.l10 (cx F (m+211)) n (zad.r13 (cx F (m+211)) zad.ret zad.ret) zad.ret t h) (p,.ptr ⟨h.next,32,0⟩,.ptr ⟨h1.next,32,0⟩,v5,.nilslice,(l.length:Int)-1,()) h5:=by
    simp -implicitDefEqProofs only [zad.fn,zad.c0,zad.k0,zad.c1,zad.k1,zad.r3,zad.c3,zad.k3,cxC,e1,e2,cV_some,e3,cB_some,Bool.not_true,cond_false,P3.1.len,bI_some,x1,zad.r5,zad.c5,e4,l1,bA_some,e5,ex0,ex1,bV_some,zad.k5,zad.c6,r0,zad.k6,zad.r8,zad.c8,zad.k8,zad.c9,(hp.old hw o15).1.len,wr,j1,zad.k9]
    rfl
   rw [e0]
   refine back_loop (out:=fun x=>∃ h',x=some (.bool true,h')) o5.wf (hp.old hw o15) (by omega) (by omega) fun v6 h6 w6 o6=>?_
   have o16:=o15.trans (o6.weak o15.next)
   obtain ⟨r1,r2⟩:=rev_same hE pack
   have hokr:∀ r∈l.reverse,r.ok:=fun r hr=>hp.2 r (List.mem_reverse.1 hr)
   obtain ⟨v7,h7,e7,w7,o7⟩:=quiet_rows (F:=F) (n:=m+210) o6.wf ⟨w6.sl,hokr⟩ (by rw [List.length_reverse];exact hlen) (by rw [List.length_reverse];omega)
   have o17:=o16.trans (o7.weak o16.next)
   obtain ⟨v8,h8',e8,w8,o8'⟩:=Build_spec (F:=F) (m:=m+1) (by omega) o7.wf (hk.old hpos o17) ⟨w7.sl,hokr⟩ (.inl (by rw [List.length_reverse];omega)) (by rw [List.length_reverse];exact hlen) h32 h8
   rw [r1] at e8
   rw [r2] at w8
   have o18:=o17.trans (o8'.weak o17.next)
   have f1:=((d1.old o4.wf o5).old o5.wf o6).old o6.wf o7
   have l7:=f1.ldA (n:=32) (by rw [byteL_len,h32])
   have b58:Old h5.next h5 h8':=(o6.trans (o7.weak o6.next)).trans (o8'.weak (Nat.le_trans o6.next o7.next))
   have B8:=(w5.old o5.wf b58).bs hb8
   have e9:=same_spec (F:=F) (n:=m+210) B8 (w8.bs hb8)
   have e10:zad.r13 (cx F (m+211)) zad.ret zad.ret (p,.ptr ⟨h.next,32,0⟩,.ptr ⟨h1.next,32,0⟩,v5,v6,()) h6=loopN zad.P36 F (fun t h n=>zad.l18 (cx F (m+211)) n (zad.r25 (cx F (m+211)) zad.ret zad.ret) zad.ret t h) (p,.ptr ⟨h.next,32,0⟩,.ptr ⟨h1.next,32,0⟩,v5,false,p,(l.length:Int),0,()) h8':=by
    simp -implicitDefEqProofs only [zad.r13,zad.c13,cxC,e7,cV_some,l7,bA_some,e8,ex0,ex1,bV_some,bI_some,zad.k13,zad.c14,r0,cond_false,e9,decide_true,cB_some,Bool.not_true,zad.k14,zad.r16,zad.c16,zad.k16,zad.c17,(hp.old hw o18).1.len,zad.k17]
    rfl
   rw [e10]
   have f2:=((((d2.old o4.wf o5).old o5.wf o6).old o6.wf o7).old o7.wf o8')
   refine there_loop (m:=m+206) (out:=fun x=>∃ h',x=some (.bool true,h')) o8'.wf (hk.old hpos o18) (hp.old hw o18) (by omega) (by omega) B8 (by omega) (fun x hx=>find_in hp.2 hE h32 h8 hx) f2 o32 fun g og=>?_
   have o19:=o18.trans (og.weak o18.next)
   have l9:=((f2.old o8'.wf og)).ldA (n:=32) (by rw [byteL_len,o32])
   have B9:=B8.old o8'.wf og
   obtain ⟨g1,i1,q1⟩:=find_spec (F:=F) (m:=m+206) (by omega) og.wf (hk.old hpos o19) B9 (by omega) o32 o8
   have o20:=o19.trans (q1.weak o19.next)
   obtain ⟨v10,g2,i2,w10,q2⟩:=parse_spec (F:=F) (m:=m+207) (by omega) q1.wf (hk.old hpos o20) (B9.old og.wf q1) (by omega)
   have hbk:=(build_back hp.2 hE h32 h8).1
   rw [hbk] at i2 w10
   have o21:=o20.trans (q2.weak o20.next)
   obtain ⟨g3,t1,t2,t3,_,q3⟩:=id_put q2.wf h32
   have o22:=o21.trans (q3.weak o21.next)
   have l3:=((((((f1.old o7.wf o8').old o8'.wf og).old og.wf q1).old q1.wf q2).old q2.wf q3)).ldA (n:=32) (by rw [byteL_len,h32])
   obtain ⟨v12,g4,i4,w12,q4⟩:=of_spec (F:=F) (n:=m+210) q3.wf (l:=sortM l) ⟨(w10.old q2.wf q3).sl,sortM_ok hp.2⟩ (by rw [sortM_len];exact hlen) (by rw [sortM_len];omega)
   have o23:=o22.trans (q4.weak o22.next)
   obtain ⟨v13,g5,i5,w13,q5⟩:=sorted_spec (F:=F) (n:=m+209) (by omega) q4.wf (hp.old hw o23) hlen (by omega)
   have i6:=same10_spec (F:=F) (n:=m+210) (h:=g5) (p:=v12) (q:=v13) (l:=sortM l) (m:=sortM l) ⟨(w12.old q4.wf q5).sl,sortM_ok hp.2⟩ ⟨w13.sl,sortM_ok hp.2⟩ (by rw [sortM_len];omega) (by rw [sortM_len];omega)
   have eqp:eqW PP false T_api_Id (.agg (byteL pack)) (.agg (byteL pack))=some (.bool true):=by rw [eqId h32 h32,dT rfl]
   have s0:((0:Int)==0)=true:=rfl
   have s7:((7:Int)==0)=false:=rfl
   have s8:((7:Int) != 7)=false:=rfl
   have bt:(true==true)=true:=rfl
   have bf:(false==false)=true:=rfl
   refine ⟨g5,?_⟩
   cases hkn:l.any (isId other) with
   | true =>
    obtain ⟨x,hx,hxi⟩:=List.any_eq_true.1 hkn
    unfold isId at hxi
    rw [decide_eq_true_eq] at hxi
    have hfi:=find_in hp.2 hE h32 h8 hx
    rw [hxi] at hfi
    rw [hfi] at i1
    simp -implicitDefEqProofs only [zad.r25,zad.c25,cxC,l9,bA_some,i1,cV_some,et0,et1,et2,ex0,ex1,bI_some,zad.k25,zad.c26,s0,bt,Bool.not_true,cond_false,zad.k26,zad.r28,zad.c28,i2,bV_some,t1,t2,bS_some,t3,l3,cond_true,eqp,bB_some,i4,i5,i6,decide_true,cB_some,zad.ret]
    rfl
   | false =>
    have hfi:=find_out hp.2 hE h32 h8 hkn
    rw [hfi] at i1
    simp -implicitDefEqProofs only [zad.r25,zad.c25,cxC,l9,bA_some,i1,cV_some,et0,et1,et2,ex0,ex1,bI_some,zad.k25,zad.c26,s7,s8,bf,Bool.not_true,Bool.not_false,cond_false,zad.k26,zad.r28,zad.c28,i2,bV_some,t1,t2,bS_some,t3,l3,s0,cond_true,eqp,bB_some,i4,i5,i6,decide_true,cB_some,zad.ret]
    rfl
  ·have r0:(buildE l != 0)=true:=bne_iff_ne.2 hE
   rw [buildB_err hE] at w5
   have z0:((([]:List Nat).length:Int)==0)=true:=rfl
   refine ⟨h5,?_⟩
   simp -implicitDefEqProofs only [zad.fn,zad.c0,zad.k0,zad.c1,zad.k1,zad.r3,zad.c3,zad.k3,cxC,e1,e2,cV_some,e3,cB_some,Bool.not_true,cond_false,P3.1.len,bI_some,x1,zad.r5,zad.c5,e4,l1,bA_some,e5,ex0,ex1,bV_some,zad.k5,zad.c6,r0,zad.k6,zad.c7,cond_true,w5.sl.len,z0,zad.ret]
   rfl
end Go.Proofs.YtcmhoboglapbdaaDoor
namespace Go.Proofs.YtcmhoboglapbdaaDoor.packidxThere
open Go Go.ChangeShapes Go.WideShapes Go.ChangeAt Go.RowKit Ev
set_option maxRecDepth 100000 in
theorem contract(H:Type)(enc:TypeId×Value→H)(W:World)(base:Nat)(args:Array Value)(ds gs:List (DataW H))(before:List MemPlace)
  (hval:∀ (j:Nat) t v,Tryd.f5.params[j]?=some t→args[j]?=some v→Value.okWide Tryd.prog W .any base t v)
  (hW:DataW.Whole enc Tryd.prog Tryd.f5.params.toList Rows.packidxThereSpec.vars false W args.toList ds gs before)
  (hsz:(DataW.weightsEach Tryd.prog (Tryd.f5.params.toList++[]) (ds++gs)).all (·≤reachBytes)=true) (hL:laidMetH Tryd.prog Rows.packidxThereRow.laid W) :
  Calls Tryd.prog 5 args W fun e W'=>∃ v,e=.returned v∧Rows.packidxThereSpec.post enc Tryd.prog Tryd.f5 false true false false W args v W':=by
 have hW':=hW
 have hlt:=hW.lt
 obtain ⟨p,q,hA0,hV,rfl,hfz,hnd⟩:=hW
 have hA:DataW.TrodAll enc Tryd.prog W 0 (fun _=>true) true Tryd.f5.params.toList args.toList ds p:=hA0
 rw [Tryd.params5] at hA hval hsz
 obtain ⟨v0,v1,v2,d0,d1,d2,p0,p1,p2,rfl,rfl,rfl,h0,h1,h2⟩:=trodAll_three hA
 obtain ⟨rfl,rfl⟩:=trodVars_none hV
 obtain ⟨f0,f1,f2,X⟩:=RR
 obtain ⟨l,hl8,hl⟩:=rows_in X (hval 0 22 v0 rfl rfl) h0
 have hlen:l.length≤2932031007317:=by
  rcases hl with ⟨rfl,_⟩ | ⟨_,cb,off,S,e',cap,elems,spare,rfl,_,_,rfl,hel,_⟩
  ·simp
  ·have:=sized_slice hsz (j:=0) (t:=22) (e:=48) rfl rfl Tryd.underlying22
   have hb:Tryd.prog.bytesOf 48=48:=by kernel_rfl
   rw [hb] at this
   have hr:reachBytes=140737488351232:=rfl
   omega
 obtain ⟨z1,l1,w1,rfl⟩:=arr_in (n:=32) Tryd.underlying24 Tryd.underlying5 (by kernel_rfl) (by kernel_rfl) (hval 1 24 v1 rfl rfl) h1
 obtain ⟨b1,c1⟩:=bytes_of w1
 obtain ⟨z2,l2,w2,rfl⟩:=arr_in (n:=32) Tryd.underlying24 Tryd.underlying5 (by kernel_rfl) (by kernel_rfl) (hval 2 24 v2 rfl rfl) h2
 obtain ⟨b2,c2⟩:=bytes_of w2
 have walk:=walk_rows (f:=5) (args:=[.agg (byteL (z1.map Int.toNat)),.agg (byteL (z2.map Int.toNat))]) (vs:=[.agg (z1.map (Value.int .u8)).toArray,.agg (z2.map (Value.int .u8)).toArray]) (table rfl hL) (fun ρ=>⟨_,_,rfl,by rw [← b1];exact agg_R ρ .u8 z1,_,_,rfl,by rw [← b2];exact agg_R ρ .u8 z2,rfl⟩) l hl8 (by
  rcases hl with h | ⟨h1,cb,off,S,e',cap,elems,spare,h2,h3,h4,_,_,h5⟩
  ·exact .inl h
  ·exact .inr ⟨h1,cb,off,S,e',cap,h2,h3,h4,h5⟩) (fun h p hw hk hb=>by
   obtain ⟨h',hr⟩:=there_spec (F:=l.length+2000001) (m:=0) hw hk hb hlen (by omega) (by rw [List.length_map];exact l1) c1 (by rw [List.length_map];exact l2) c2
   exact ⟨_,_,h',hr⟩)
 refine walk.mono fun e W' ⟨he,hst⟩=>?_
 subst he
 exact ⟨_,rfl,post_stays (pa:=p0++(p1++p2)) (pv:=[]) hW' (fun _ _ _=>trodAll_cons_mk (shut_bool Tryd.underlying4 _) trodAll_mk0)
  (fun sp hsp=>trodAll_mk3 (arg_stays hst laidOut (by kernel_rfl) (of_decide_eq_true (by kernel_rfl)) h0 (fun x hx=>hlt x (by simp [hx])) sp (fun x hx=>hsp x (by simp [hx]))) (arg_stays hst laidOut (by kernel_rfl) (of_decide_eq_true (by kernel_rfl)) h1 (fun x hx=>hlt x (by simp [hx])) sp (fun x hx=>hsp x (by simp [hx]))) (arg_stays hst laidOut (by kernel_rfl) (of_decide_eq_true (by kernel_rfl)) h2 (fun x hx=>hlt x (by simp [hx])) sp (fun x hx=>hsp x (by simp [hx]))))
  (fun _ _=>rfl) (by simp) hst.stays (ok_one (by kernel_rfl) rfl (okWide_bool_mk Tryd.underlying4 _))⟩
theorem laid_met(os:Os):laidMet Tryd.prog Rows.packidxThereRow.laid ((laidWorld os).forCall (fun _ _=>0) ⟨#[],#[.slice none 0 0,.agg (Array.replicate 32 (.int .u8 0)),.agg (Array.replicate 32 (.int .u8 0))],[]⟩).memory :=
 laidMet_of_run' 70 (by kernel_rfl) (by kernel_rfl)
theorem reads(os:Os){H:Type}(enc:TypeId×Value→H):∃ places,DataW.whole enc Tryd.prog ((laidWorld os).forCall (fun _ _=>0) ⟨#[],#[.slice none 0 0,.agg (Array.replicate 32 (.int .u8 0)),.agg (Array.replicate 32 (.int .u8 0))],[]⟩).memory Tryd.f5.params.toList Rows.packidxThereSpec.vars false (#[.slice none 0 0,.agg (Array.replicate 32 (.int .u8 0)),.agg (Array.replicate 32 (.int .u8 0))]:Array Value).toList 8=some ([.nil,.agg (List.replicate 32 (.lit (.int .u8 0))),.agg (List.replicate 32 (.lit (.int .u8 0)))],[],places) :=
 ⟨[],by kernel_rfl⟩
set_option maxRecDepth 100000 in
theorem lifted(os:Os)(started:os.Started)(H:Type)(enc:TypeId×Value→H)(F:Stop.Interp) :
  ReturnsInHanded {} Tryd.checked os 5 .any ((OpenSpec.ofChange Rows.packidxThereSpec).preRow enc Tryd.prog Tryd.f5 Rows.packidxThereRow.domain false Rows.packidxThereRow.laid) (((OpenSpec.ofChange Rows.packidxThereSpec).at F).post enc Tryd.prog Tryd.f5 false true false false):=by
 obtain ⟨places,hx⟩:=reads os enc
 refine returnsInHanded_of_row (C:=Tryd.checked) (s:=OpenSpec.ofChange Rows.packidxThereSpec) own started (by kernel_rfl) Tryd.func5
  (witness_row_at (enc:=enc) (C:=Tryd.checked) false (laidWorld os) #[.slice none 0 0,.agg (Array.replicate 32 (.int .u8 0)),.agg (Array.replicate 32 (.int .u8 0))] rfl (by kernel_rfl) (by kernel_rfl) (by kernel_rfl)
   (OpenSpec.preRow_of_cond 8 hx (by kernel_rfl) (fun k hk=>by cases hk) (by kernel_rfl) (laid_met os))) ?_
 intro W base args ds gs before hval hW _ _ hsz hL _ _
 exact contract H enc W base args ds gs before hval hW hsz hL
theorem said:Rows.PackidxThereSaid :=
 OpenClaim.holds_of_cond 5 Tryd.f5 rfl rfl rfl rfl rfl rfl rfl ⟨rfl,rfl,rfl,rfl,rfl⟩ rfl rfl rfl rfl rfl (by kernel_rfl) Tryd.func5 (by kernel_rfl)
  (of_decide_eq_true (by kernel_rfl)) (by unfold Func.isWrapper;first | (rw [if_pos (by decide +kernel)];kernel_rfl) | (rw [if_neg (by decide +kernel)];exact ⟨rfl,rfl⟩))
  (fun os started H enc _ F=>by rw [OpenClaim.pre_eq_preRow];exact lifted os started H enc F)
theorem plain(f:FuncId)(fn:Func)(hf:Tryd.pinned.checked.prog.funcNamed "codicil/codicillaw10.PackidxThere"=some f)(hfn:Tryd.pinned.checked.prog.funcs[f]?=some fn) :
  false=Tryd.pinned.checked.prog.looks []∧∀ (j:Nat) t,fn.params[j]?=some t→Tryd.pinned.checked.prog.wantsStandIn t=false:=by
 obtain rfl:f=5:=Option.some.inj ((show Tryd.prog.funcNamed "codicil/codicillaw10.PackidxThere"=some 5 by kernel_rfl).symm.trans hf) |>.symm
 obtain rfl:fn=Tryd.f5:=(Option.some.inj (Tryd.func5.symm.trans hfn)).symm
 refine ⟨by kernel_rfl,fun j t ht=>?_⟩
 rw [Tryd.params5] at ht
 have hm:=Array.mem_of_getElem? ht
 simp only [List.mem_toArray,List.mem_cons,List.not_mem_nil,or_false] at hm
 rcases hm with rfl | rfl | rfl
 ·exact (show Tryd.prog.wantsStandIn 22=false by kernel_rfl)
 ·exact (show Tryd.prog.wantsStandIn 24=false by kernel_rfl)
 ·exact (show Tryd.prog.wantsStandIn 24=false by kernel_rfl)
theorem card:Rows.PackidxThereCardSaid :=
 Claim7.holds_tied_plain_at .later [] _ _ _ _ said (fun _ h=>by cases h) (by kernel_rfl) (fun _ h=>by cases h) packidxThere_row_tie rfl ⟨rfl,rfl⟩ (by kernel_rfl) rfl plain (by kernel_rfl)
end Go.Proofs.YtcmhoboglapbdaaDoor.packidxThere
