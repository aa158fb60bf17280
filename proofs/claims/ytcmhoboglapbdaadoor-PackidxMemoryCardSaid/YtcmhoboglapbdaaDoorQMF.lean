/-
  The row and the card of PackidxMemory: for any rows that a call can be handed the call comes back true (what Build and Parse give back is the caller's own), and all that was there reads as it did. No condition.
-/
import Derived.Test.YtcmhoboglapbdaaDoorQME
set_option linter.unusedVariables false
set_option linter.unusedSimpArgs false
namespace Go.Proofs.YtcmhoboglapbdaaDoor
open Go Ev
theorem dis_fresh{z e z' e' n n' n1:Nat}{h h':AH}{p q:V}{cs cs':List V}(hp:Own h.next z e h' p n cs)(hq:Own n1 z' e' h q n' cs')(hw:h.WF):Dis p q:=fun b=>by
 by_cases hb:b<h.next
 ·exact .inl (hp.fresh hb)
 ·exact .inr (Classical.byContradiction fun hh=>hb (hq.alive hw hh))
def boolL(l:List Bool):List V:=l.map V.bool
theorem boolL_len(l:List Bool):(boolL l).length=l.length:=List.length_map ..
theorem boolL_get(l:List Bool)(i:Nat):(boolL l)[i]?=(l[i]?).map V.bool:=List.getElem?_map ..
def u64L(l:List Nat):List V:=l.map fun (n:Nat)=>V.int .u64 (n:Int)
theorem u64L_len(l:List Nat):(u64L l).length=l.length:=List.length_map ..
theorem u64L_get(l:List Nat)(i:Nat):(u64L l)[i]?=(l[i]?).map fun (n:Nat)=>V.int .u64 (n:Int):=List.getElem?_map ..
theorem u64L_cell(l:List Nat):(u64L l).all V.cell=true:=by
 rw [List.all_eq_true];intro x hx
 obtain ⟨n,_,rfl⟩:=List.mem_map.1 hx
 rfl
def farP(l:List (Row×Bool)):List Nat:=l.flatMap fun x=>if x.2 then [x.1.pos] else []
theorem farP_snoc(l:List (Row×Bool))(x:Row×Bool):farP (l++[x])=farP l++(if x.2 then [x.1.pos] else []):=by unfold farP;rw [List.flatMap_append];simp
theorem farP_len(l:List (Row×Bool)):(farP l).length=nfar l:=by
 induction l with
 | nil=>rfl
 | cons x l ih =>
  have hn:nfar (x :: l)=nfar l+if x.2=true then 1 else 0:=List.countP_cons
  have hf:farP (x :: l)=(if x.2 then [x.1.pos] else [])++farP l:=rfl
  rw [hf,hn,List.length_append,ih]
  by_cases hx:x.2=true
  ·rw [if_pos hx,if_pos hx];simp;omega
  ·rw [if_neg hx,if_neg hx];simp
theorem farP_fars(l:List (Row×Bool)):farsM l=(farP l).flatMap fun n=>bigL n 8:=by
 induction l with
 | nil=>rfl
 | cons x l ih =>
  have h1:farsM (x :: l)=(if x.2 then bigL x.1.pos 8 else [])++farsM l:=rfl
  have hf:farP (x :: l)=(if x.2 then [x.1.pos] else [])++farP l:=rfl
  rw [h1,hf,List.flatMap_append,ih]
  by_cases hx:x.2=true
  ·rw [if_pos hx,if_pos hx];simp
  ·rw [if_neg hx,if_neg hx];simp
theorem snoc8{l:List Nat}{i x:Nat}(h:l[i]?=some x):(l.take (i+1)).flatMap (fun n=>bigL n 8)=(l.take i).flatMap (fun n=>bigL n 8)++bigL x 8:=by
 rw [← take_snoc h,List.flatMap_append];simp
theorem len8(l:List Nat):(l.flatMap fun n=>bigL n 8).length=8*l.length:=by
 induction l with
 | nil=>rfl
 | cons x l ih=>rw [List.flatMap_cons,List.length_append,ih,bigL_len,List.length_cons];omega
theorem byte8(l:List Nat):∀ x∈l.flatMap (fun n=>bigL n 8),x<256:=by
 intro x hx
 obtain ⟨b,_,hb⟩:=List.mem_flatMap.1 hx
 exact bigL_byte _ _ x hb
theorem doc_cnt{F m:Nat}{out:Res→Prop}{Jn:V×V×V×V×Int×Int×Unit→AH→Res}{J1:_}{J0:_}{Jr:_}{v w q p:V}{b:Nat}{h:AH}{l:List Row}(hF:l.length<F)(hl:l.length≤100000)(hb:b<256)(hw:h.WF)(hr:Rs h v l)
  (fin:∀ h',Old h.next h h'→out (Jn (v,w,q,p,(b:Int),((upto l b:Nat):Int),()) h')) :
  out (zaz.k6 (cx F m) Jn J1 J0 Jr (v,w,q,p,(b:Int),0,v,(l.length:Int),0,()) h):=by
 show out (loopN zaz.P14 F (fun t h n'=>zaz.l7 (cx F m) n' Jn J1 J0 Jr t h) (v,w,q,p,(b:Int),0,v,(l.length:Int),0,()) h)
 refine loop_rule (S:=zaz.P14) (out:=out)
  (fun k s g=>∃ i:Nat,i+k=l.length∧s=(v,w,q,p,(b:Int),((upto (l.take i) b:Nat):Int),v,(l.length:Int),(i:Int),())∧Old h.next h g) ?_ ?_ l.length F _ _ ⟨0,by omega,rfl,Old.refl hw _⟩ hF
 ·rintro k s g n' ⟨i,hi,rfl,og⟩
  have hlt:i<l.length:=by omega
  have hget:l[i]?=some l[i]:=List.getElem?_eq_getElem hlt
  have hk:=hr.2 _ (List.getElem_mem hlt)
  have hx:=id0_lt hk
  obtain ⟨a,u1,u2⟩:=(hr.old hw og).at hget
  obtain ⟨g1,t1,t2,t3,t4,t5⟩:=tmp_row og.wf hk T_codicilref10_Row
  have hu:=upto_le (l.take i) b
  rw [List.length_take] at hu
  have c1:decide ((i:Int)<(l.length:Int))=true:=dT (by omega)
  have i3:IntKind.wrap .i64 ((i:Int)+1)=((i+1:Nat):Int):=wi (by omega) (by omega)
  have i4:IntKind.wrap .i64 (((upto (l.take i) b:Nat):Int)+1)=((upto (l.take i) b+1:Nat):Int):=wi (by omega) (by omega)
  have i5:IntKind.wrap .i64 ((id0 l[i]:Nat):Int)=((id0 l[i]:Nat):Int):=wi rfl (by omega)
  have hs:upto (l.take (i+1)) b=upto (l.take i) b+if id0 l[i]≤b then 1 else 0:=by
   rw [← take_snoc hget]
   unfold upto
   rw [List.countP_append,List.countP_singleton]
   simp
  by_cases hle:id0 l[i]≤b
  ·have c2:decide (IntKind.wrap .i64 ((id0 l[i]:Nat):Int)≤(b:Int))=true:=by rw [i5];exact dT (by omega)
   rw [if_pos hle] at hs
   refine .inl ⟨_,g1,?_,i+1,by omega,rfl,og.trans (t4.weak og.next)⟩
   rw [hs]
   simp only [zaz.l7,zaz.c7,zaz.k7,zaz.r8,zaz.c8,zaz.k9,zaz.c10,zaz.r11,zaz.c11,c1,cond_true,u1,bV_some,ldA_of u2,bA_some,t1,t2,bS_some,fA_ptr,ixA_of (n:=32) (z:=1) (i:=0) (by omega) (by omega),row_id0 t3 hk,bI_some,wr,↓c2,i4,i3]
  ·have c2:decide (IntKind.wrap .i64 ((id0 l[i]:Nat):Int)≤(b:Int))=false:=by rw [i5];exact dF (by omega)
   have hs:upto (l.take (i+1)) b=upto (l.take i) b:=by rw [hs,if_neg hle];rfl
   refine .inl ⟨_,g1,?_,i+1,by omega,rfl,og.trans (t4.weak og.next)⟩
   rw [hs]
   simp only [zaz.l7,zaz.c7,zaz.k7,zaz.r8,zaz.c8,zaz.k9,zaz.r11,zaz.c11,c1,cond_true,cond_false,u1,bV_some,ldA_of u2,bA_some,t1,t2,bS_some,fA_ptr,ixA_of (n:=32) (z:=1) (i:=0) (by omega) (by omega),row_id0 t3 hk,bI_some,wr,↓c2,i3]
 ·rintro s g n' ⟨i,hi,rfl,og⟩
  obtain rfl:i=l.length:=by omega
  rw [List.take_length]
  have c1:decide ((l.length:Int)<(l.length:Int))=false:=dF (by omega)
  simp only [zaz.l7,zaz.c7,zaz.k7,c1,cond_false]
  exact fin g og
theorem doc_fans{F m:Nat}(hF:300<F){out:Res→Prop}{Jn:V×V×V×V×Unit→AH→Res}{Jr:_}{v w q p:V}{h:AH}{n0:Nat}{l:List Row}(hl:l.length≤100000)(hFl:l.length<F)(hw:h.WF)(hn0:n0≤h.next)(hr:Rs h v l)(hp:Own n0 1 T_uint8 h p magicM.length (byteL magicM))
  (fin:∀ p' h',Own n0 1 T_uint8 h' p' (headM l).length (byteL (headM l))→Old h.next h h'→out (Jn (v,w,q,p',()) h')) :
  out (zaz.k2 (cx F (m+1)) Jn Jr (v,w,q,p,0,()) h):=by
 show out (loopN zaz.P6 F (fun t h n'=>zaz.l3 (cx F (m+1)) n' Jn Jr t h) (v,w,q,p,0,()) h)
 refine loop_rule (S:=zaz.P6) (out:=out)
  (fun k s g=>∃ (i:Nat) (p':V),i+k=256∧s=(v,w,q,p',(i:Int),())∧Own n0 1 T_uint8 g p' (magicM++fansM l i).length (byteL (magicM++fansM l i))∧Old h.next h g) ?_ ?_ 256 F _ _ ⟨0,p,rfl,rfl,by simpa [fansM] using hp,Old.refl hw _⟩ (by omega)
 ·rintro k s g n' ⟨i,p',hi,rfl,ho,og⟩
  have hx:i<256:=by omega
  have hu:=upto_le l i
  have hml:(magicM++fansM l i).length≤2000:=by rw [List.length_append,fansM_len];show 8+_≤_;omega
  have c1:decide ((i:Int)<256)=true:=dT (by omega)
  have i3:IntKind.wrap .i64 ((i:Int)+1)=((i+1:Nat):Int):=wi (by omega) (by omega)
  refine .inl ?_
  simp only [zaz.l3,zaz.c3,zaz.k3,c1,cond_true,zaz.r5,zaz.c5,zaz.k5,zaz.c6,(hr.old hw og).1.len,bI_some]
  refine doc_cnt (out:=fun x=>∃ s' h',x=n' s' h'∧∃ (i:Nat) (p':V),i+k=256∧s'=(v,w,q,p',(i:Int),())∧Own n0 1 T_uint8 h' p' (magicM++fansM l i).length (byteL (magicM++fansM l i))∧Old h.next h h') hFl hl hx og.wf (hr.old hw og) (fun g1 o1=>?_)
  have og1:=og.trans (o1.weak og.next)
  obtain ⟨p2,g2,a1,a2,a3⟩:=putBig_spec (F:=F) (n:=m) (by omega) og1.wf ((ho.old og.wf o1).bs (app_byte magicM_byte (fansM_byte l i))) (by omega) (v:=upto l i) (m:=4) (by omega)
  rw [List.append_assoc,← fansM_succ] at a2
  have a1':runC (EE F) (m+1) nzay [p',.int .u64 ((upto l i:Nat):Int),.int .i64 4] g1=some (p2,g2):=a1
  have hn1:=og1.next
  refine ⟨_,g2,?_,i+1,p2,by omega,rfl,a2.weak (by omega),og1.trans (a3.weak og1.next)⟩
  simp only [zaz.r12,zaz.c12,zaz.r4,zaz.c4,wr,u64_small (show upto l i<18446744073709551616 by omega),cxC,a1',cV_some,i3]
 ·rintro s g n' ⟨i,p',hi,rfl,ho,og⟩
  obtain rfl:i=256:=by omega
  have c1:decide (((256:Nat):Int)<256)=false:=rfl
  simp only [zaz.l3,zaz.c3,zaz.k3,c1,cond_false]
  exact fin p' g ho og
theorem doc_ids{F m:Nat}{out:Res→Prop}{Jn:V×V×V×V×Unit→AH→Res}{Jr:_}{v w q p:V}{h:AH}{n0:Nat}{l:List Row}{x:List Nat}(hF:l.length<F)(hl:l.length≤100000)(hxl:x.length≤10000000)(hw:h.WF)(hn0:n0≤h.next)
  (hv:∀ g,Old n0 h g→Rs g v l) (hp:Own n0 1 T_uint8 h p x.length (byteL x)) (hok:∀ r∈l,r.ok)
  (fin:∀ p' h',Own n0 1 T_uint8 h' p' (x++idsM l).length (byteL (x++idsM l))→Old n0 h h'→out (Jn (v,w,q,p',()) h')) :
  out (zaz.k13 (cx F m) Jn Jr (v,w,q,p,v,(l.length:Int),0,()) h):=by
 show out (loopN zaz.P28 F (fun t h n'=>zaz.l14 (cx F m) n' Jn Jr t h) (v,w,q,p,v,(l.length:Int),0,()) h)
 refine loop_rule (S:=zaz.P28) (out:=out)
  (fun k s g=>∃ (i:Nat) (p':V),i+k=l.length∧s=(v,w,q,p',v,(l.length:Int),(i:Int),())∧Own n0 1 T_uint8 g p' (x++idsM (l.take i)).length (byteL (x++idsM (l.take i)))∧Old n0 h g) ?_ ?_ l.length F _ _ ⟨0,p,by omega,rfl,by simpa [idsM] using hp,Old.refl hw _⟩ hF
 ·rintro k s g n' ⟨i,p',hi,rfl,ho,og⟩
  have hlt:i<l.length:=by omega
  have hget:l[i]?=some l[i]:=List.getElem?_eq_getElem hlt
  have hk:=hok _ (List.getElem_mem hlt)
  have hti:∀ r∈l.take i,r.ok:=fun r h'=>hok r (List.mem_of_mem_take h')
  have hml:(idsM (l.take i)).length=32*i:=by rw [idsM_len hti,List.length_take];congr 1;omega
  obtain ⟨a,u1,u2⟩:=(hv g og).at hget
  obtain ⟨g1,t1,t2,t3,t4,t5⟩:=tmp_row og.wf hk T_codicilref10_Row
  obtain ⟨w2,g2,s1,s2,s3,s4,s5⟩:=ids_tmp t4.wf hk.1 hk.2.1
  have o12:Old g.next g g2:=t4.trans (s5.weak t4.next)
  have og2:=og.trans (o12.weak (Nat.le_trans hn0 og.next))
  obtain ⟨p2,g3,a1,a2,a3,_⟩:=app_bytes (ho.old og.wf o12) s4 o12.wf (Nat.le_trans hn0 og2.next) (capW_ok (by rw [List.length_append,hml,hk.1];omega))
  rw [List.append_assoc,← idsM_snoc,take_snoc hget] at a2
  have c1:decide ((i:Int)<(l.length:Int))=true:=dT (by omega)
  have i3:IntKind.wrap .i64 ((i:Int)+1)=((i+1:Nat):Int):=wi (by omega) (by omega)
  refine .inl ⟨_,g3,?_,i+1,p2,by omega,rfl,a2,og2.trans a3⟩
  simp only [zaz.l14,zaz.c14,zaz.k14,zaz.r15,zaz.c15,zaz.r18,zaz.c18,c1,cond_true,u1,bV_some,ldA_of u2,bA_some,t1,t2,bS_some,fA_ptr,row_id t3 hk,s1,s2,s3,a1,cV_some,wr,i3]
 ·rintro s g n' ⟨i,p',hi,rfl,ho,og⟩
  obtain rfl:i=l.length:=by omega
  rw [List.take_length] at ho
  have c1:decide ((l.length:Int)<(l.length:Int))=false:=dF (by omega)
  simp only [zaz.l14,zaz.c14,zaz.k14,c1,cond_false]
  exact fin p' g ho og
theorem doc_crcs{F m:Nat}{out:Res→Prop}{Jn:V×V×V×V×Unit→AH→Res}{Jr:_}{v w q p:V}{h:AH}{n0:Nat}{l:List Row}{x:List Nat}(hF:l.length<F)(hF2:300<F)(hl:l.length≤100000)(hxl:x.length≤10000000)(hw:h.WF)(hn0:n0≤h.next)
  (hv:∀ g,Old n0 h g→Rs g v l) (hp:Own n0 1 T_uint8 h p x.length (byteL x)) (hok:∀ r∈l,r.ok) (hx8:∀ a∈x,a<256)
  (fin:∀ p' h',Own n0 1 T_uint8 h' p' (x++crcsM l).length (byteL (x++crcsM l))→Old n0 h h'→out (Jn (v,w,q,p',()) h')) :
  out (zaz.k19 (cx F (m+1)) Jn Jr (v,w,q,p,v,(l.length:Int),0,()) h):=by
 show out (loopN zaz.P40 F (fun t h n'=>zaz.l20 (cx F (m+1)) n' Jn Jr t h) (v,w,q,p,v,(l.length:Int),0,()) h)
 refine loop_rule (S:=zaz.P40) (out:=out)
  (fun k s g=>∃ (i:Nat) (p':V),i+k=l.length∧s=(v,w,q,p',v,(l.length:Int),(i:Int),())∧Own n0 1 T_uint8 g p' (x++crcsM (l.take i)).length (byteL (x++crcsM (l.take i)))∧Old n0 h g) ?_ ?_ l.length F _ _ ⟨0,p,by omega,rfl,by simpa [crcsM] using hp,Old.refl hw _⟩ hF
 ·rintro k s g n' ⟨i,p',hi,rfl,ho,og⟩
  have hlt:i<l.length:=by omega
  have hget:l[i]?=some l[i]:=List.getElem?_eq_getElem hlt
  have hk:=hok _ (List.getElem_mem hlt)
  have hml:(crcsM (l.take i)).length=4*i:=by rw [crcsM_len,List.length_take];congr 1;omega
  obtain ⟨a,u1,u2⟩:=(hv g og).at hget
  obtain ⟨g1,t1,t2,t3,t4,t5⟩:=tmp_row og.wf hk T_codicilref10_Row
  have og1:=og.trans (t4.weak (Nat.le_trans hn0 og.next))
  obtain ⟨p2,g2,a1,a2,a3⟩:=putBig_spec (F:=F) (n:=m) (by omega) t4.wf ((ho.old og.wf t4).bs (app_byte hx8 (crcsM_byte _))) (by rw [List.length_append,hml];omega) (v:=l[i].crc) (m:=4) (by omega)
  rw [List.append_assoc,← crcsM_snoc,take_snoc hget] at a2
  have c1:decide ((i:Int)<(l.length:Int))=true:=dT (by omega)
  have i3:IntKind.wrap .i64 ((i:Int)+1)=((i+1:Nat):Int):=wi (by omega) (by omega)
  have hcr:=hk.2.2.1
  have a1':runC (EE F) (m+1) nzay [p',.int .u64 ((l[i].crc:Nat):Int),.int .i64 4] g1=some (p2,g2):=a1
  have hn1:=og1.next
  refine .inl ⟨_,g2,?_,i+1,p2,by omega,rfl,a2.weak (by omega),og1.trans (a3.weak (by omega))⟩
  simp only [zaz.l20,zaz.c20,zaz.k20,zaz.r21,zaz.c21,zaz.r23,zaz.c23,c1,cond_true,u1,bV_some,ldA_of u2,bA_some,t1,t2,bS_some,fA_ptr,row_crc t3 hk,bI_some,wr,u64_small (show l[i].crc<18446744073709551616 by omega),cxC,a1',cV_some,i3]
 ·rintro s g n' ⟨i,p',hi,rfl,ho,og⟩
  obtain rfl:i=l.length:=by omega
  rw [List.take_length] at ho
  have c1:decide ((l.length:Int)<(l.length:Int))=false:=dF (by omega)
  simp only [zaz.l20,zaz.c20,zaz.k20,c1,cond_false]
  exact fin p' g ho og
theorem cap8_ok{n:Nat}(h:n≤17592186044000):capW 8 n=true:=by
 unfold capW
 rw [Bool.and_eq_true]
 refine ⟨Nat.ble_eq_true_of_le (by omega),Nat.ble_eq_true_of_le ?_⟩
 show (2*n+128)*8≤281474976710656
 omega
theorem bsl_u64{h:AH}(hw:h.WF)(x:Nat):∃ v h',bsl 1 1 [(0,1,.int .u64 (x:Int))] [.int .u64 0] T_uint64 h=some (v,h')∧Own h.next 1 T_uint64 h' v 1 (u64L [x])∧Old h.next h h':=bsl_own hw (cs:=u64L [x]) rfl rfl rfl
theorem doc_ats{F m:Nat}{out:Res→Prop}{Jn:V×V×V×Unit→AH→Res}{Jr:_}{v w q p:V}{h:AH}{n0:Nat}{l:List (Row×Bool)}{x:List Nat}(hF:l.length<F)(hF2:300<F)(hl:l.length≤100000)(hxl:x.length≤10000000)(hw:h.WF)(hn0:n0≤h.next)
  (hv:∀ g,Old n0 h g→Rs g v (l.map (·.1))) (hb:∀ g,Old n0 h g→Sl 1 g w l.length (boolL (l.map (·.2)))) (hp:Own n0 1 T_uint8 h p x.length (byteL x)) (hok:∀ r∈l,r.1.ok) (hx8:∀ a∈x,a<256)
  (fin:∀ p' f' h',Own n0 1 T_uint8 h' p' (x++atsM 0 l).length (byteL (x++atsM 0 l))→Own n0 1 T_uint64 h' f' (farP l).length (u64L (farP l))→Old n0 h h'→out (Jn (q,p',f',()) h')) :
  out (zaz.k25 (cx F (m+1)) Jn Jr (w,q,p,.nilslice,v,(l.length:Int),0,()) h):=by
 show out (loopN zaz.P52 F (fun t h n'=>zaz.l26 (cx F (m+1)) n' Jn Jr t h) (w,q,p,.nilslice,v,(l.length:Int),0,()) h)
 refine loop_rule (S:=zaz.P52) (out:=out)
  (fun k s g=>∃ (i:Nat) (p' f':V),i+k=l.length∧s=(w,q,p',f',v,(l.length:Int),(i:Int),())∧Own n0 1 T_uint8 g p' (x++atsM 0 (l.take i)).length (byteL (x++atsM 0 (l.take i))) ∧
   Own n0 1 T_uint64 g f' (farP (l.take i)).length (u64L (farP (l.take i)))∧Old n0 h g) ?_ ?_ l.length F _ _ ⟨0,p,.nilslice,by omega,rfl,by simpa [atsM] using hp,(by rw [List.take_zero];exact own_nil _ _ _ _),Old.refl hw _⟩ hF
 ·rintro k s g n' ⟨i,p',f',hi,rfl,ho,hf,og⟩
  have hlt:i<l.length:=by omega
  have hget:l[i]?=some l[i]:=List.getElem?_eq_getElem hlt
  have hk:=hok _ (List.getElem_mem hlt)
  have hti:(l.take i).length=i:=by rw [List.length_take];omega
  have hml:(atsM 0 (l.take i)).length=4*i:=by rw [atsM_len,hti]
  have hnf:=nfar_le (l.take i)
  rw [hti] at hnf
  obtain ⟨a,u1,u2⟩:=(hv g og).at (i:=i) (r:=l[i].1) (by rw [List.getElem?_map,hget];rfl)
  obtain ⟨g1,t1,t2,t3,t4,t5⟩:=tmp_row og.wf hk T_codicilref10_Row
  have og1:Old n0 h g1:=og.trans (t4.weak (Nat.le_trans hn0 og.next))
  have hn1:n0≤g1.next:=Nat.le_trans hn0 og1.next
  obtain ⟨ab,v1,v2⟩:=(hb g1 og1).ix1 (i:=(i:Int)) (by omega) (by omega) (x:=.bool l[i].2) (by rw [Int.toNat_natCast,boolL_get,List.getElem?_map,hget];rfl)
  have c1:decide ((i:Int)<(l.length:Int))=true:=dT (by omega)
  have i3:IntKind.wrap .i64 ((i:Int)+1)=((i+1:Nat):Int):=wi (by omega) (by omega)
  have ho1:=ho.old og.wf t4
  have hf1:=hf.old og.wf t4
  have hbp:=ho1.bs (app_byte hx8 (atsM_byte (l.take i) 0))
  have sn:=(congrArg (fun t=>atsM 0 t) (take_snoc hget)).symm
  have sf:=(congrArg (fun t=>farP t) (take_snoc hget)).symm
  simp only [atsM_snoc,farP_snoc,Nat.zero_add] at sn sf
  cases hx:l[i].2 with
  | false =>
   rw [hx] at sn sf
   simp only [Bool.false_eq_true,if_false,List.append_nil] at sn sf
   obtain ⟨p2,g2,a1,a2,a3⟩:=putBig_spec (F:=F) (n:=m) (by omega) t4.wf hbp (by rw [List.length_append,hml];omega) (v:=l[i].1.pos) (m:=4) (by omega)
   rw [List.append_assoc,← sn] at a2
   have a1':runC (EE F) (m+1) nzay [p',.int .u64 ((l[i].1.pos:Nat):Int),.int .i64 4] g1=some (p2,g2):=a1
   rw [hx] at v2
   have hf2:=hf1.old t4.wf a3
   rw [← sf] at hf2
   refine .inl ⟨_,g2,?_,i+1,p2,f',by omega,rfl,a2.weak (by omega),hf2,og1.trans (a3.weak (by omega))⟩
   simp only [zaz.l26,zaz.c26,zaz.k26,zaz.r27,zaz.c27,c1,cond_true,u1,bV_some,ldA_of u2,bA_some,t1,t2,bS_some,v1,ld_of v2,bB_some,zaz.k28,zaz.c31,zaz.r32,zaz.c32,cond_false,fA_ptr,row_pos t3 hk,bI_some,cxC,a1',cV_some,wr,i3]
  | true =>
   rw [hx] at sn sf
   simp only [if_true] at sn sf
   obtain ⟨p2,g2,a1,a2,a3⟩:=putBig_spec (F:=F) (n:=m) (by omega) t4.wf hbp (by rw [List.length_append,hml];omega) (v:=2147483648+nfar (l.take i)) (m:=4) (by omega)
   rw [List.append_assoc,← sn] at a2
   have a1':runC (EE F) (m+1) nzay [p',.int .u64 ((2147483648+nfar (l.take i):Nat):Int),.int .i64 4] g1=some (p2,g2):=a1
   rw [hx] at v2
   have hd:Dis p2 f':=dis_fresh a2 hf1 t4.wf
   obtain ⟨y,g3,b1,b2,b3⟩:=bsl_u64 a3.wf l[i].1.pos
   have o13:Old g1.next g1 g3:=a3.trans (b3.weak a3.next)
   have hf3:=hf1.old t4.wf o13
   obtain ⟨s1,s2⟩:=b2.sl.src
   obtain ⟨f4,g4,d1,d2,d3,d4,d5⟩:=app_own (by_:=8) hf3 o13.wf (Nat.le_trans hn1 o13.next) (by omega) s1 s2 (by rw [u64L_len];rfl) (u64L_cell _) (cap8_ok (by rw [farP_len];omega))
   have hp4:=(a2.old a3.wf b3).beside o13.wf hd.symm ⟨d3.next,d4,d5⟩
   have hf4:Own n0 1 T_uint64 g4 f4 (farP (l.take (i+1))).length (u64L (farP (l.take (i+1)))):=by
    rw [sf]
    have e:u64L (farP (l.take i)++[l[i].1.pos])=u64L (farP (l.take i))++u64L [l[i].1.pos]:=List.map_append ..
    rw [e,List.length_append]
    exact d2
   have r3:ld (.ptr ⟨g.next,34,0+33⟩) g2=some (.int .u64 ((l[i].1.pos:Nat):Int)):=row_pos (t3.old t4.wf a3) hk
   have i5:IntKind.wrap .u64 (2147483648+IntKind.wrap .u64 (((farP (l.take i)).length:Nat):Int))=((2147483648+nfar (l.take i):Nat):Int):=by
    rw [farP_len,wr_u64,wr_u64];omega
   refine .inl ⟨_,g4,?_,i+1,p2,f4,by omega,rfl,hp4.1.weak (by omega),hf4,(og1.trans (o13.weak hn1)).trans d3⟩
   simp only [zaz.l26,zaz.c26,zaz.k26,zaz.r27,zaz.c27,c1,cond_true,u1,bV_some,ldA_of u2,bA_some,t1,t2,bS_some,v1,ld_of v2,bB_some,zaz.k28,zaz.c29,zaz.r32,zaz.c32,hf1.sl.len,bI_some,wr,i5,cxC,a1',cV_some,fA_ptr,r3,b1,d1,i3]
 ·rintro s g n' ⟨i,p',f',hi,rfl,ho,hf,og⟩
  obtain rfl:i=l.length:=by omega
  rw [List.take_length] at ho hf
  have c1:decide ((l.length:Int)<(l.length:Int))=false:=dF (by omega)
  simp only [zaz.l26,zaz.c26,zaz.k26,c1,cond_false]
  exact fin p' f' g ho hf og
theorem doc_fars{F m:Nat}{out:Res→Prop}{Jn:V×V×Unit→AH→Res}{Jr:_}{q p f:V}{h:AH}{n0:Nat}{us:List Nat}{x:List Nat}(hF:us.length<F)(hF2:300<F)(hl:us.length≤100000)(hxl:x.length≤10000000)(hw:h.WF)(hn0:n0≤h.next)
  (hf:Own n0 1 T_uint64 h f us.length (u64L us)) (hp:Own n0 1 T_uint8 h p x.length (byteL x)) (hx8:∀ a∈x,a<256)
  (fin:∀ p' h',Own n0 1 T_uint8 h' p' (x++us.flatMap fun n=>bigL n 8).length (byteL (x++us.flatMap fun n=>bigL n 8))→Old h.next h h'→out (Jn (q,p',()) h')) :
  out (zaz.k33 (cx F (m+1)) Jn Jr (q,p,f,(us.length:Int),0,()) h):=by
 show out (loopN zaz.P68 F (fun t h n'=>zaz.l34 (cx F (m+1)) n' Jn Jr t h) (q,p,f,(us.length:Int),0,()) h)
 refine loop_rule (S:=zaz.P68) (out:=out)
  (fun k s g=>∃ (i:Nat) (p':V),i+k=us.length∧s=(q,p',f,(us.length:Int),(i:Int),())∧Own n0 1 T_uint8 g p' (x++(us.take i).flatMap fun n=>bigL n 8).length (byteL (x++(us.take i).flatMap fun n=>bigL n 8))∧Old h.next h g) ?_ ?_ us.length F _ _ ⟨0,p,by omega,rfl,by simpa using hp,Old.refl hw _⟩ hF
 ·rintro k s g n' ⟨i,p',hi,rfl,ho,og⟩
  have hlt:i<us.length:=by omega
  have hget:us[i]?=some us[i]:=List.getElem?_eq_getElem hlt
  obtain ⟨a,v1,v2⟩:=(hf.old hw og).sl.ix1 (i:=(i:Int)) (by omega) (by omega) (x:=.int .u64 (us[i]:Int)) (by rw [Int.toNat_natCast,u64L_get,hget];rfl)
  have hml:((us.take i).flatMap fun n=>bigL n 8).length=8*i:=by rw [len8,List.length_take];congr 1;omega
  obtain ⟨p2,g2,a1,a2,a3⟩:=putBig_spec (F:=F) (n:=m) (by omega) og.wf (ho.bs (app_byte hx8 (byte8 _))) (by rw [List.length_append,hml];omega) (v:=us[i]) (m:=8) (by omega)
  rw [List.append_assoc,← snoc8 hget] at a2
  have c1:decide ((i:Int)<(us.length:Int))=true:=dT (by omega)
  have i3:IntKind.wrap .i64 ((i:Int)+1)=((i+1:Nat):Int):=wi (by omega) (by omega)
  have a1':runC (EE F) (m+1) nzay [p',.int .u64 ((us[i]:Nat):Int),.int .i64 8] g=some (p2,g2):=a1
  have hn1:=og.next
  refine .inl ⟨_,g2,?_,i+1,p2,by omega,rfl,a2.weak (by omega),og.trans (a3.weak hn1)⟩
  simp only [zaz.l34,zaz.c34,zaz.k34,zaz.r35,zaz.c35,zaz.r37,zaz.c37,c1,cond_true,v1,bV_some,ld_of v2,bI_some,cxC,a1',cV_some,wr,i3]
 ·rintro s g n' ⟨i,p',hi,rfl,ho,og⟩
  obtain rfl:i=us.length:=by omega
  rw [List.take_length] at ho
  have c1:decide ((us.length:Int)<(us.length:Int))=false:=dF (by omega)
  simp only [zaz.l34,zaz.c34,zaz.k34,c1,cond_false]
  exact fin p' g ho og
theorem docBytes_cps{F d:Nat}{h:AH}(hw:h.WF){v w:V}{l:List (Row×Bool)}(hF:50*l.length+100000<F)(hr:Rs h v (l.map (·.1)))(hb:Sl 1 h w l.length (boolL (l.map (·.2))))(hlen:l.length≤100000){pack:List Nat}(h32:pack.length=32)(h8:∀ x∈pack,x<256)
  {out:Res→Prop} (fin:∀ v' h',Own h.next 1 T_uint8 h' v' (buildM l pack).length (byteL (buildM l pack))→Old h.next h h'→out (some (v',h'))) :
  out (runC (EE F) (d+3) nzaz [v,w,.agg (byteL pack)] h):=by
 rw [tzaz]
 obtain ⟨h1,e1,c1,n1,o1⟩:=box_cells hw (byteL pack) T_api_Id (byteL_cell pack)
 rw [byteL_len,h32] at e1
 obtain ⟨p2,h2,e2,w2,o2⟩:=magic_own o1.wf
 have o12:Old h.next h h2:=o1.trans (o2.weak o1.next)
 have hok:∀ r∈l.map (·.1),r.ok:=hr.2
 have hok':∀ x∈l,x.1.ok:=fun x hx=>hok _ (List.mem_map.2 ⟨x,hx,rfl⟩)
 have hll:(l.map (·.1)).length=l.length:=List.length_map ..
 simp only [zaz.fn,zaz.c0,zaz.k1,zaz.c2,e1,cV_some,e2]
 have hn1:=o1.next
 have hv:∀ g,Old h1.next h1 g→Rs g v (l.map (·.1)):=fun g og=>hr.old hw (o1.trans (og.weak hn1))
 have hbb:∀ g,Old h1.next h1 g→Sl 1 g w l.length (boolL (l.map (·.2))):=fun g og=>hb.old hw (o1.trans (og.weak hn1))
 refine doc_fans (m:=d+1) (n0:=h1.next) (l:=l.map (·.1)) (by omega) (by omega) (by omega) o2.wf o2.next (hv _ o2) w2 (fun p3 h3 w3 o3=>?_)
 have o13:=o2.trans (o3.weak o2.next)
 simp only [zaz.r13,zaz.c13,(hv _ o13).1.len,bI_some]
 have q_doc_ids:=@doc_ids F (d+2) out (zaz.r19 (cx F (d+2)) zaz.ret zaz.ret) zaz.ret v w (.ptr ⟨h.next,32,0⟩) p3 h3 h1.next (l.map (·.1)) (headM (l.map (·.1)))
 refine q_doc_ids (by omega) (by omega) (by rw [headM_len];omega) o13.wf o13.next (fun g og=>hv g (o13.trans og)) w3 hok (fun p4 h4 w4 o4=>?_)
 have o14:=o13.trans o4
 have li:=idsM_len hok
 simp only [zaz.r19,zaz.c19,(hv _ o14).1.len,bI_some]
 have q_doc_crcs:=@doc_crcs F (d+1) out (zaz.r24 (cx F (d+2)) zaz.ret zaz.ret) zaz.ret v w (.ptr ⟨h.next,32,0⟩) p4 h4 h1.next (l.map (·.1)) (headM (l.map (·.1))++idsM (l.map (·.1)))
 refine q_doc_crcs (by omega) (by omega) (by omega) (by rw [List.length_append,headM_len,li];omega) o14.wf o14.next (fun g og=>hv g (o14.trans og)) w4 hok (app_byte (headM_byte _) (idsM_byte hok)) (fun p5 h5 w5 o5=>?_)
 have o15:=o14.trans o5
 have e6:=(hv _ o15).1.len
 rw [hll] at e6
 simp only [zaz.r24,zaz.c24,zaz.k24,zaz.c25,e6,bI_some]
 have q_doc_ats:=@doc_ats F (d+1) out (zaz.r33 (cx F (d+2)) zaz.ret zaz.ret) zaz.ret v w (.ptr ⟨h.next,32,0⟩) p5 h5 h1.next l (headM (l.map (·.1))++idsM (l.map (·.1))++crcsM (l.map (·.1)))
 refine q_doc_ats (by omega) (by omega) (by omega) (by rw [List.length_append,List.length_append,headM_len,li,crcsM_len];omega) o15.wf o15.next (fun g og=>hv g (o15.trans og)) (fun g og=>hbb g (o15.trans og)) w5 hok' (app_byte (app_byte (headM_byte _) (idsM_byte hok)) (crcsM_byte _)) (fun p6 f6 h6 w6 y6 o6=>?_)
 have o16:=o15.trans o6
 have hnf:=nfar_le l
 have l6:(headM (l.map (·.1))++idsM (l.map (·.1))++crcsM (l.map (·.1))++atsM 0 l).length=1032+40*l.length:=by
  simp only [List.length_append,headM_len,li,crcsM_len,atsM_len,hll];omega
 have b6:∀ a∈headM (l.map (·.1))++idsM (l.map (·.1))++crcsM (l.map (·.1))++atsM 0 l,a<256:=app_byte (app_byte (app_byte (headM_byte _) (idsM_byte hok)) (crcsM_byte _)) (atsM_byte _ _)
 simp only [zaz.r33,zaz.c33,y6.sl.len,bI_some]
 have q_doc_fars:=@doc_fars F (d+1) out (zaz.r38 (cx F (d+2)) zaz.ret zaz.ret) zaz.ret (.ptr ⟨h.next,32,0⟩) p6 f6 h6 h1.next (farP l) (headM (l.map (·.1))++idsM (l.map (·.1))++crcsM (l.map (·.1))++atsM 0 l)
 refine q_doc_fars (by rw [farP_len];omega) (by omega) (by rw [farP_len];omega) (by rw [l6];omega) o16.wf o16.next y6 w6 b6 (fun p7 h7 w7 o7=>?_)
 rw [← farP_fars] at w7
 have o17:=o16.trans (o7.weak o16.next)
 have c7:Cells h7 h.next T_api_Id (byteL pack):=c1.oldN (by omega) o17
 obtain ⟨y,s1,s2⟩:=ids_box c7 h32 h8
 have l7:((headM (l.map (·.1))++idsM (l.map (·.1))++crcsM (l.map (·.1))++atsM 0 l)++farsM l).length=1032+40*l.length+8*nfar l:=by rw [List.length_append,l6,farsM_len]
 obtain ⟨p8,h8',a1,a2,a3,_⟩:=app_bytes w7 s2 o17.wf o17.next (capW_ok (by rw [l7,h32];omega))
 have hbody:(headM (l.map (·.1))++idsM (l.map (·.1))++crcsM (l.map (·.1))++atsM 0 l)++farsM l++pack=bodyM l pack:=by unfold bodyM;rw [List.append_assoc]
 rw [hbody] at a2
 have o18:=o17.trans a3
 have bl:=bodyM_len hok' h32
 have bb:=bodyM_byte hok' h8
 obtain ⟨h9,e9,o9⟩:=rsum_spec (F:=F) (n:=d) o18.wf (a2.bs bb) (by rw [bl];omega) (by rw [bl];omega)
 obtain ⟨z,h10,t1,t2,t3,t4,t5⟩:=ids_tmp o9.wf (sumM_len (bodyM l pack)) (sumM_byte _)
 have o910:=o9.trans (t5.weak o9.next)
 obtain ⟨p11,h11,g1,g2,g3,_⟩:=app_bytes (a2.old o18.wf o910) t4 o910.wf (Nat.le_trans o18.next o910.next) (capW_ok (by rw [bl,sumM_len];omega))
 have f1:=fin p11 h11 (g2.weak hn1) (o1.trans (((o18.trans (o910.weak o18.next)).trans g3).weak hn1))
 simp only [zaz.r38,zaz.c38,s1,bV_some,a1,cV_some,cxC,e9,cA_some,t1,t2,bS_some,t3,g1,zaz.ret]
 exact f1
end Go.Proofs.YtcmhoboglapbdaaDoor
namespace Go.Proofs.YtcmhoboglapbdaaDoor
open Go Ev
theorem fill_set{α:Type}{A:List α}{n i:Nat}{d x:α}(hA:A.length=n)(hi:i<n)(hx:A[i]?=some x):(A.take i++List.replicate (n-i) d).set i x=A.take (i+1)++List.replicate (n-(i+1)) d:=by
 have ht:(A.take i).length=i:=by rw [List.length_take];omega
 rw [List.set_append_right _ _ (by omega),ht,Nat.sub_self,show n-i=(n-(i+1))+1 by omega,List.replicate_succ,List.set_cons_zero,← take_snoc hx,List.append_assoc];rfl
theorem boolL_set(l:List Bool)(i:Nat)(x:Bool):(boolL l).set i (.bool x)=boolL (l.set i x):=(List.map_set ..).symm
theorem Ev.Own.setBool{n0 e:Nat}{h:AH}{v:V}{l:List Bool}(ho:Own n0 1 e h v l.length (boolL l))(hw:h.WF){i:Nat}(hi:i<l.length)(x:Bool) :
  ∃ a h',ixS 1 v (i:Int)=some (.ptr a)∧st 1 (.ptr a) (.bool x) h=some h'∧Own n0 1 e h' v (l.set i x).length (boolL (l.set i x))∧Old n0 h h'∧(∀ b,notIn v b→h'.get b=h.get b):=by
 obtain ⟨a,h',g1,g2,g3,g4,g5⟩:=ho.set hw (i:=(i:Int)) (by omega) (by omega) (w:=.bool x) rfl rfl
 refine ⟨a,h',g1,g2,?_,g4,g5⟩
 rw [Nat.mul_one] at g3
 have e1:(V.bool x).cells=[V.bool x]:=rfl
 rw [e1,Int.toNat_natCast,putL_one _ _ _ (by rw [boolL_len];omega),boolL_set] at g3
 rw [List.length_set]
 exact g3
theorem mk_bools{h:AH}(hw:h.WF){n:Nat}(hn:n≤100000):∃ v h',mkS 1 1 [.bool false] T_bool (n:Int) (n:Int) h=some (v,h')∧Own h.next 1 T_bool h' v (List.replicate n false).length (boolL (List.replicate n false))∧Old h.next h h':=by
 obtain ⟨v,h',e1,e2,e3⟩:=mkS_own hw (z:=1) (by_:=1) (e:=T_bool) (zs:=[.bool false]) rfl (by omega) rfl (l:=n) (by omega) (by omega)
 refine ⟨v,h',e1,?_,e3⟩
 have e4:(List.replicate n [V.bool false]).flatten=boolL (List.replicate n false):=by unfold boolL;rw [List.map_replicate];simp
 rw [e4] at e2
 rw [List.length_replicate]
 exact e2
theorem ge_far(x:Nat):decide (((x:Nat):Int)≥2147483648)=decide (2147483648≤x):=by
 by_cases h:2147483648≤x
 ·rw [dT h,dT (by omega)]
 ·rw [dF h,dF (by omega)]
theorem docBuild_cps{F d:Nat}(hF:600000<F){h:AH}(hw:h.WF){p:V}{l:List Row}(hp:Rs h p l)(hlen:l.length≤2932031007317){pack:List Nat}(h32:pack.length=32)(h8:∀ x∈pack,x<256)
  {out:Res→Prop} (fin:∀ v h',Own h.next 1 T_uint8 h' v (buildB l pack).length (byteL (buildB l pack))→Old h.next h h'→out (some (.tuple [v,.int .i64 (buildE l)],h'))) :
  out (runC (EE F) (d+4) nzba [p,.agg (byteL pack)] h):=by
 rw [tzba]
 obtain ⟨h1,e1,c1,n1,o1⟩:=box_cells hw (byteL pack) T_api_Id (byteL_cell pack)
 rw [byteL_len,h32] at e1
 have p1:=hp.old hw o1
 simp only [zba.fn,zba.c0,zba.k0,zba.c1,zba.k1,e1,cV_some,p1.1.len,bI_some]
 by_cases hbig:4096<l.length
 ·have d1:decide ((l.length:Int)>4096)=true:=dT (by omega)
  have f1:=fin .nilslice h1 (by
   unfold buildB;rw [if_pos hbig];exact own_nil _ _ _ _) o1
  unfold buildE at f1
  rw [if_pos hbig] at f1
  simp only [d1,cond_true,zba.c2,zba.ret]
  exact f1
 ·have d1:decide ((l.length:Int)>4096)=false:=dF (by omega)
  obtain ⟨v2,h2,e2,w2,o2⟩:=sorted_spec (F:=F) (n:=d+1) (by omega) o1.wf p1 hlen (by omega)
  have hok:=sortM_ok hp.2
  have hsl:=sortM_len l
  have hn1:=o1.next
  simp only [d1,cond_false,zba.r3,zba.c3,zba.k3,zba.c4,cxC,e2,cV_some]
  unfold buildE buildB at fin
  rw [if_neg hbig,if_neg hbig] at fin
  generalize sortM l=m at *
  have R2:Rs h2 v2 m:=⟨w2.sl,hok⟩
  rw [twice_spec (F:=F) (n:=d+2) R2 (by omega) (by omega)]
  simp only [cB_some]
  cases ht:twiceM m with
  | true =>
   rw [if_pos ht,if_pos ht] at fin
   simp only [zba.k4,zba.c5,zba.ret,cond_true]
   exact fin .nilslice h2 (own_nil _ _ _ _) (o1.trans (o2.weak hn1))
  | false =>
   have hne:¬twiceM m=true:=by rw [ht];decide
   rw [if_neg hne,if_neg hne] at fin
   obtain ⟨w3,h3,e3,y3,o3⟩:=mk_bools o2.wf (n:=m.length) (by omega)
   have o13:=o2.trans (o3.weak o2.next)
   have R3:=R2.old o2.wf o3
   simp only [zba.k4,zba.r6,zba.c6,cond_false,R2.1.len,bI_some,e3,cV_some,zba.k6,zba.c7,R3.1.len]
   refine loop_rule (S:=zba.P16) (out:=out)
    (fun k s g=>∃ i:Nat,i+k=m.length∧s=(.ptr ⟨h.next,32,0⟩,v2,w3,v2,(m.length:Int),(i:Int),())∧Own h2.next 1 T_bool g w3 (((m.map isFar).take i)++List.replicate (m.length-i) false).length (boolL (((m.map isFar).take i)++List.replicate (m.length-i) false))∧Old h2.next h2 g) ?_ ?_ m.length F _ _ ⟨0,by omega,rfl,by simpa using y3,o3⟩ (by omega)
   ·rintro k s g n' ⟨i,hi,rfl,ho,og⟩
    have hlt:i<m.length:=by omega
    have hget:m[i]?=some m[i]:=List.getElem?_eq_getElem hlt
    have hk:=hok _ (List.getElem_mem hlt)
    obtain ⟨a,u1,u2⟩:=(R2.old o2.wf og).at hget
    obtain ⟨g1,t1,t2,t3,t4,t5⟩:=tmp_row og.wf hk T_codicilref10_Row
    have hfl:(((m.map isFar).take i)++List.replicate (m.length-i) false).length=m.length:=by rw [List.length_append,List.length_take,List.length_replicate,List.length_map];omega
    obtain ⟨b,g2,s1,s2,s3,s4,s5⟩:=(ho.old og.wf t4).setBool t4.wf (i:=i) (by rw [hfl];omega) (decide (2147483648≤m[i].pos))
    rw [fill_set (by rw [List.length_map]) hlt (by rw [List.getElem?_map,hget];rfl)] at s3
    have c1:decide ((i:Int)<(m.length:Int))=true:=dT (by omega)
    have i3:IntKind.wrap .i64 ((i:Int)+1)=((i+1:Nat):Int):=wi (by omega) (by omega)
    refine .inl ⟨_,g2,?_,i+1,by omega,rfl,s3,(og.trans (t4.weak og.next)).trans s4⟩
    simp only [zba.l8,zba.c8,zba.k8,zba.r9,zba.c9,zba.r11,zba.c11,c1,cond_true,u1,bV_some,ldA_of u2,bA_some,t1,t2,bS_some,fA_ptr,row_pos t3 hk,bI_some,s1,ge_far,s2,wr,i3]
   ·rintro s g n' ⟨i,hi,rfl,ho,og⟩
    obtain rfl:i=m.length:=by omega
    have c1':decide ((m.length:Int)<(m.length:Int))=false:=dF (by omega)
    rw [Nat.sub_self,List.replicate_zero,List.append_nil,List.take_of_length_le (by rw [List.length_map];omega)] at ho
    have o1g:=o2.trans (og.weak o2.next)
    have cb:=c1.oldN (by omega) o1g
    have ea:ldA 32 (.ptr ⟨h.next,32,0⟩) g=some (.agg (byteL pack)):=cb.ldA (by rw [byteL_len,h32])
    have hm1:(flags m).map (·.2)=m.map isFar:=by
     unfold flags;rw [List.map_map];rfl
    have hb:Sl 1 g w3 (flags m).length (boolL ((flags m).map (·.2))):=by
     rw [hm1,flags_len]
     have:=ho.sl
     rw [List.length_map] at this
     exact this
    have hr:Rs g v2 ((flags m).map (·.1)):=by rw [flags_fst];exact R2.old o2.wf og
    simp only [zba.l8,zba.c8,zba.k8,zba.r12,zba.c12,c1',cond_false,ea,bA_some,cxC]
    have hgn:=o1g.next
    refine docBytes_cps (F:=F) (d:=d) (l:=flags m) (out:=fun x=>out (cV x fun x35 h36=>zba.ret (x35,.int .i64 0,()) h36)) og.wf (by rw [flags_len];omega) hr hb (by rw [flags_len];omega) h32 h8 (fun v5 h5 w5 o5=>?_)
    simp only [cV_some,zba.ret]
    exact fin v5 h5 (w5.weak (by omega)) (o1.trans ((o1g.trans (o5.weak hgn)).weak hn1))
theorem docBuild_spec{F d:Nat}(hF:600000<F){h:AH}(hw:h.WF){p:V}{l:List Row}(hp:Rs h p l)(hlen:l.length≤2932031007317){pack:List Nat}(h32:pack.length=32)(h8:∀ x∈pack,x<256) :
  ∃ v h',runC (EE F) (d+4) nzba [p,.agg (byteL pack)] h=some (.tuple [v,.int .i64 (buildE l)],h')∧Own h.next 1 T_uint8 h' v (buildB l pack).length (byteL (buildB l pack))∧Old h.next h h' :=
 docBuild_cps (out:=fun x=>∃ v h',x=some (.tuple [v,.int .i64 (buildE l)],h')∧Own h.next 1 T_uint8 h' v (buildB l pack).length (byteL (buildB l pack))∧Old h.next h h') hF hw hp hlen h32 h8 (fun v h' a b=>⟨v,h',rfl,a,b⟩)
end Go.Proofs.YtcmhoboglapbdaaDoor
namespace Go.Proofs.YtcmhoboglapbdaaDoor
open Go Ev
def g4(p:List Nat)(a:Nat):Nat:=bigN (part p a 4)
def fanV(p:List Nat)(i:Nat):Nat:=g4 p (8+4*i)
def fanPrev(p:List Nat)(i:Nat):Nat:=if i=0 then 0 else fanV p (i-1)
def fanUp(p:List Nat)(n:Nat):Bool:=(List.range n).all fun i=>decide (fanPrev p i≤fanV p i)
def lastN(p:List Nat):Nat:=fanV p 255
def atV(p:List Nat)(n i:Nat):Nat:=g4 p (1032+36*n+4*i)
def farF(p:List Nat)(n i:Nat):Bool:=decide (2147483648≤atV p n i)
def kP(p:List Nat)(n i:Nat):Nat:=(List.range i).countP (farF p n)
def szM(p:List Nat):Nat×Nat×Int :=
 if p.length<1096 then (0,0,5) else if ¬p.take 8=magicM then (0,0,4) else if fanUp p 256=false then (0,0,4) else if 4096<lastN p then (0,0,10)
 else if p.length<1096+40*lastN p then (0,0,5) else if p.length<1096+40*lastN p+8*kP p (lastN p) (lastN p) then (0,0,5) else if 1096+40*lastN p+8*kP p (lastN p) (lastN p)<p.length then (0,0,4)
 else (lastN p,kP p (lastN p) (lastN p),0)
theorem fanUp_succ(p:List Nat)(n:Nat):fanUp p (n+1)=(fanUp p n && decide (fanPrev p n≤fanV p n)):=by
 unfold fanUp;rw [List.range_succ,List.all_append];simp
theorem fanUp_fail{p:List Nat}{n m:Nat}(h:fanUp p n=false)(hm:n≤m):fanUp p m=false:=by
 induction m with
 | zero =>
  obtain rfl:n=0:=by omega
  exact h
 | succ m ih =>
  by_cases e:n=m+1
  ·rw [← e];exact h
  ·rw [fanUp_succ,ih (by omega)];rfl
theorem kP_succ(p:List Nat)(n i:Nat):kP p n (i+1)=kP p n i+if farF p n i=true then 1 else 0:=by
 unfold kP;rw [List.range_succ,List.countP_append];simp [List.countP_cons]
theorem kP_le(p:List Nat)(n i:Nat):kP p n i≤i:=by
 have:=List.countP_le_length (p:=farF p n) (l:=List.range i)
 rw [List.length_range] at this
 exact this
theorem kP_mono(p:List Nat)(n:Nat){i j:Nat}(h:i≤j):kP p n i≤kP p n j:=by
 induction j with
 | zero =>
  obtain rfl:i=0:=by omega
  exact Nat.le_refl _
 | succ j ih =>
  by_cases e:i=j+1
  ·rw [e];exact Nat.le_refl _
  ·rw [kP_succ];have:=ih (by omega);omega
theorem part_len{p:List Nat}{a n:Nat}(h:a+n≤p.length):(part p a n).length=n:=by unfold part;rw [List.length_take,List.length_drop];omega
theorem g4_lt{p:List Nat}(hp:∀ x∈p,x<256)(a:Nat):g4 p a<4294967296:=by
 unfold g4
 have h1:=bigN_lt _ (part_byte hp a 4)
 have h2:(part p a 4).length≤4:=by unfold part;rw [List.length_take];omega
 have h3:=pow256_le h2
 have h4:256 ^ 4=4294967296:=by decide
 omega
theorem four_cell{F n:Nat}(hF:40<F){h:AH}(hw:h.WF){p:V}{l:List Nat}(hp:Bs h p l)(hlen:l.length≤140737488355328){a:Nat}(ha:a+4≤l.length) :
  ∃ h',runC (EE F) (n+2) nzas [.agg [p],.int .i64 (a:Int)] h=some (.int .u64 ((g4 l a:Nat):Int),h')∧Old h.next h h':=four_spec hF hw hp hlen ha
structure Rd (g:AH) (b e:Nat) (pv:V) (p:List Nat):Prop where
 cell:Cells g b e [pv]
 bs:Bs g pv p
theorem Rd.old{g g':AH}{b e:Nat}{pv:V}{p:List Nat}(R:Rd g b e pv p)(hw:g.WF)(o:Old g.next g g'):Rd g' b e pv p:=⟨R.cell.old hw o,R.bs.old hw o⟩
theorem Rd.ld{g:AH}{b e:Nat}{pv:V}{p:List Nat}(R:Rd g b e pv p):ld (.ptr ⟨b,1,0+0⟩) g=some pv:=cell_ld R.cell
theorem Rd.ldA{g:AH}{b e:Nat}{pv:V}{p:List Nat}(R:Rd g b e pv p):Ev.ldA 1 (.ptr ⟨b,1,0⟩) g=some (.agg [pv]):=R.cell.ldA rfl
theorem cnt_fan{F m:Nat}(hF:300<F){out:Res→Prop}{Jn:V×Int×Unit→AH→Res}{Jr:V×V×V×Unit→AH→Res}{h:AH}{b e:Nat}{pv:V}{p:List Nat}(hw:h.WF)(R:Rd h b e pv p)(hl:1096≤p.length)(hlen:p.length≤1000000)
  (bad:fanUp p 256=false→∀ h',Old h.next h h'→out (Jr (.int .i64 0,.int .i64 0,.int .i64 4,()) h'))
  (fin:fanUp p 256=true→∀ h',Old h.next h h'→out (Jn (.ptr ⟨b,1,0⟩,((lastN p:Nat):Int),()) h')) :
  out (zar.k6 (cx F (m+2)) Jn Jr (.ptr ⟨b,1,0⟩,0,0,()) h):=by
 show out (loopN zar.P14 F (fun t h n'=>zar.l7 (cx F (m+2)) n' Jn Jr t h) (.ptr ⟨b,1,0⟩,0,0,()) h)
 refine loop_rule (S:=zar.P14) (out:=out)
  (fun k s g=>∃ i:Nat,i+k=256∧s=(.ptr ⟨b,1,0⟩,((fanPrev p i:Nat):Int),(i:Int),())∧fanUp p i=true∧Old h.next h g) ?_ ?_ 256 F _ _ ⟨0,rfl,rfl,rfl,Old.refl hw _⟩ (by omega)
 ·rintro k s g n' ⟨i,hi,rfl,hu,og⟩
  have Rg:=R.old hw og
  have i1:IntKind.wrap .i64 (4*(i:Int))=((4*i:Nat):Int):=wi (by omega) (by omega)
  have i2:IntKind.wrap .i64 (8+((4*i:Nat):Int))=((8+4*i:Nat):Int):=wi (by omega) (by omega)
  have i3:IntKind.wrap .i64 ((i:Int)+1)=((i+1:Nat):Int):=wi (by omega) (by omega)
  obtain ⟨g1,e1,o1⟩:=four_cell (F:=F) (n:=m) (by omega) og.wf Rg.bs (by omega) (a:=8+4*i) (by omega)
  have og1:=og.trans (o1.weak og.next)
  have c1:decide ((i:Int)<256)=true:=dT (by omega)
  have hs:=fanUp_succ p i
  rw [hu,Bool.true_and] at hs
  have hnext:fanPrev p (i+1)=fanV p i:=by unfold fanPrev;rw [if_neg (by omega),Nat.add_sub_cancel]
  have e1':runC (EE F) (m+2) nzas [.agg [pv],.int .i64 ((8+4*i:Nat):Int)] g=some (.int .u64 ((fanV p i:Nat):Int),g1):=e1
  by_cases hb:fanV p i<fanPrev p i
  ·have c2:decide (((fanV p i:Nat):Int)<((fanPrev p i:Nat):Int))=true:=dT (by omega)
   have hf:=bad (fanUp_fail (by rw [hs];exact dF (by omega)) (show i+1≤256 by omega)) g1 og1
   refine .inr ?_
   simp only [zar.l7,zar.c7,zar.k7,zar.r8,zar.c8,zar.k9,zar.c10,zar.k10,zar.c11,c1,cond_true,Rg.ldA,bA_some,wr,i1,i2,cxC,e1',cI_some,c2]
   exact hf
  ·have c2:decide (((fanV p i:Nat):Int)<((fanPrev p i:Nat):Int))=false:=dF (by omega)
   refine .inl ⟨_,g1,?_,i+1,by omega,rfl,by rw [hs];exact dT (by omega),og1⟩
   rw [hnext]
   simp only [zar.l7,zar.c7,zar.k7,zar.r8,zar.c8,zar.k9,zar.c10,zar.k10,zar.r12,zar.c12,zar.r13,zar.c13,c1,cond_true,Rg.ldA,bA_some,wr,i1,i2,cxC,e1',cI_some,c2,cond_false,i3]
 ·rintro s g n' ⟨i,hi,rfl,hu,og⟩
  obtain rfl:i=256:=by omega
  have c1:decide (((256:Nat):Int)<256)=false:=rfl
  have hf:=fin hu g og
  simp only [zar.l7,zar.c7,zar.k7,c1,cond_false]
  exact hf
theorem cnt_far{F m:Nat}{out:Res→Prop}{Jn:V×Int×Int×Unit→AH→Res}{Jr:V×V×V×Unit→AH→Res}{h:AH}{b e n:Nat}{pv:V}{p:List Nat}(hF:n+40<F)(hn:n≤4096)(hw:h.WF)(R:Rd h b e pv p)(hl:1096+40*n≤p.length)(hlen:p.length≤1000000)
  (fin:∀ h',Old h.next h h'→out (Jn (.ptr ⟨b,1,0⟩,(n:Int),((kP p n n:Nat):Int),()) h')) :
  out (zar.k19 (cx F (m+2)) Jn Jr (.ptr ⟨b,1,0⟩,(n:Int),0,(n:Int),0,()) h):=by
 show out (loopN zar.P40 F (fun t h n'=>zar.l20 (cx F (m+2)) n' Jn Jr t h) (.ptr ⟨b,1,0⟩,(n:Int),0,(n:Int),0,()) h)
 refine loop_rule (S:=zar.P40) (out:=out)
  (fun k s g=>∃ i:Nat,i+k=n∧s=(.ptr ⟨b,1,0⟩,(n:Int),((kP p n i:Nat):Int),(n:Int),(i:Int),())∧Old h.next h g) ?_ ?_ n F _ _ ⟨0,by omega,rfl,Old.refl hw _⟩ (by omega)
 ·rintro k s g n' ⟨i,hi,rfl,og⟩
  have Rg:=R.old hw og
  have i1:IntKind.wrap .i64 (36*(n:Int))=((36*n:Nat):Int):=wi (by omega) (by omega)
  have i2:IntKind.wrap .i64 (1032+((36*n:Nat):Int))=((1032+36*n:Nat):Int):=wi (by omega) (by omega)
  have i4:IntKind.wrap .i64 (4*(i:Int))=((4*i:Nat):Int):=wi (by omega) (by omega)
  have i5:IntKind.wrap .i64 (((1032+36*n:Nat):Int)+((4*i:Nat):Int))=((1032+36*n+4*i:Nat):Int):=wi (by omega) (by omega)
  have i3:IntKind.wrap .i64 ((i:Int)+1)=((i+1:Nat):Int):=wi (by omega) (by omega)
  have hk:=kP_le p n i
  have i6:IntKind.wrap .i64 (((kP p n i:Nat):Int)+1)=((kP p n i+1:Nat):Int):=wi (by omega) (by omega)
  obtain ⟨g1,e1,o1⟩:=four_cell (F:=F) (n:=m) (by omega) og.wf Rg.bs (by omega) (a:=1032+36*n+4*i) (by omega)
  have og1:=og.trans (o1.weak og.next)
  have c1:decide ((i:Int)<(n:Int))=true:=dT (by omega)
  have hs:=kP_succ p n i
  have e1':runC (EE F) (m+2) nzas [.agg [pv],.int .i64 ((1032+36*n+4*i:Nat):Int)] g=some (.int .u64 ((atV p n i:Nat):Int),g1):=e1
  by_cases hb:2147483648≤atV p n i
  ·have c2:decide (((atV p n i:Nat):Int)≥2147483648)=true:=dT (by omega)
   rw [if_pos (show farF p n i=true from dT hb)] at hs
   refine .inl ⟨_,g1,?_,i+1,by omega,rfl,og1⟩
   rw [hs]
   simp only [zar.l20,zar.c20,zar.k20,zar.r21,zar.c21,zar.k22,zar.c23,zar.r24,zar.c24,c1,cond_true,Rg.ldA,bA_some,wr,i1,i2,i4,i5,cxC,e1',cI_some,c2,i3,i6]
  ·have c2:decide (((atV p n i:Nat):Int)≥2147483648)=false:=dF (by omega)
   have hs:kP p n (i+1)=kP p n i:=by rw [hs,if_neg (show ¬farF p n i=true by rw [show farF p n i=false from dF hb];decide)];rfl
   refine .inl ⟨_,g1,?_,i+1,by omega,rfl,og1⟩
   rw [hs]
   simp only [zar.l20,zar.c20,zar.k20,zar.r21,zar.c21,zar.k22,zar.r24,zar.c24,c1,cond_true,Rg.ldA,bA_some,wr,i1,i2,i4,i5,cxC,e1',cI_some,c2,cond_false,i3]
 ·rintro s g n' ⟨i,hi,rfl,og⟩
  obtain rfl:i=n:=by omega
  have c1:decide ((i:Int)<(i:Int))=false:=dF (by omega)
  have hf:=fin g og
  simp only [zar.l20,zar.c20,zar.k20,c1,cond_false]
  exact hf
abbrev szV(x:Nat×Nat×Int):V:=.tuple [.int .i64 ((x.1:Nat):Int),.int .i64 ((x.2.1:Nat):Int),.int .i64 x.2.2]
theorem count_cps{F m:Nat}(hF:5000<F){h:AH}(hw:h.WF){pv:V}{p:List Nat}(hp:Bs h pv p)(hlen:p.length≤1000000)
  {out:Res→Prop} (fin:∀ h',Old h.next h h'→out (some (szV (szM p),h'))):out (runC (EE F) (m+3) nzar [.agg [pv]] h):=by
 rw [tzar]
 obtain ⟨h1,e1,c1,n1,o1⟩:=box_cells hw [pv] T_packidx_reader (by simp [hp.cellOk])
 have R1:Rd h1 h.next T_packidx_reader pv p:=⟨c1,hp.old hw o1⟩
 have e1':absBox T_packidx_reader (.agg [pv]) h=some (.ptr ⟨h.next,1,0⟩,h1):=e1
 simp only [zar.fn,zar.c0,zar.k0,zar.c1,zar.k1,e1',cV_some,fA_ptr,bV_some,R1.ld,R1.bs.1.len,bI_some]
 unfold szM at fin
 by_cases hs:p.length<1096
 ·have d1:decide ((p.length:Int)<1096)=true:=dT (by omega)
  rw [if_pos hs] at fin
  simp only [d1,cond_true,zar.c2,zar.ret]
  exact fin h1 o1
 ·have d1:decide ((p.length:Int)<1096)=false:=dF (by omega)
  rw [if_neg hs] at fin
  obtain ⟨w,s1,s2⟩:=R1.bs.cut (lo:=none) (hi:=some (.int .i64 8)) (l:=0) (u:=8) (.inr rfl) (.inl ⟨rfl,rfl⟩) (by omega) (by omega)
  rw [List.drop_zero,Nat.sub_zero] at s2
  have hmag:([255,116,79,99,0,0,0,2]:List Nat)=magicM:=rfl
  simp only [d1,cond_false,zar.r3,zar.c3,zar.k3,fA_ptr,bV_some,R1.ld,s1,s2.toS,cZ_some,natsEq_eq]
  rw [hmag]
  by_cases hm:p.take 8=magicM
  ·rw [if_neg (fun hh=>hh hm)] at fin
   rw [dT hm]
   simp only [Bool.not_true,cond_false,zar.r5,zar.c5,zar.k5,zar.c6]
   refine cnt_fan (m:=m) (out:=out) (by omega) o1.wf R1 (by omega) hlen (fun hf h2 o2=>?_) (fun hf h2 o2=>?_)
   ·rw [if_pos hf] at fin
    exact fin h2 (o1.trans (o2.weak o1.next))
   ·have o12:=o1.trans (o2.weak o1.next)
    rw [if_neg (by rw [hf];decide)] at fin
    generalize lastN p=n at *
    simp only [zar.r14,zar.c14,zar.k14]
    by_cases hbig:4096<n
    ·have d2:decide ((n:Int)>4096)=true:=dT (by omega)
     rw [if_pos hbig] at fin
     simp only [d2,cond_true,zar.c15,zar.ret]
     exact fin h2 o12
    ·have d2:decide ((n:Int)>4096)=false:=dF (by omega)
     rw [if_neg hbig] at fin
     have R2:=R1.old o1.wf o2
     have j0:IntKind.wrap .i64 (n:Int)=(n:Int):=wi rfl (by omega)
     have j1:IntKind.wrap .i64 (40*(n:Int))=((40*n:Nat):Int):=wi (by omega) (by omega)
     have j2:IntKind.wrap .i64 (1032+((40*n:Nat):Int))=((1032+40*n:Nat):Int):=wi (by omega) (by omega)
     have j3:IntKind.wrap .i64 (((1032+40*n:Nat):Int)+64)=((1096+40*n:Nat):Int):=wi (by omega) (by omega)
     have dd:∀ x:Int,decide (x<IntKind.wrap .i64 (IntKind.wrap .i64 (1032+IntKind.wrap .i64 (40*(n:Int)))+64))=decide (x<((1096+40*n:Nat):Int)):=fun x=>by rw [j1,j2,j3]
     simp only [d2,cond_false,zar.r16,zar.c16,zar.k16,zar.c17,zar.k17,wr,j0,fA_ptr,bV_some,R2.ld,R2.bs.1.len,bI_some,↓dd]
     by_cases hsh:p.length<1096+40*n
     ·rw [if_pos hsh] at fin
      rw [dT (show (p.length:Int)<((1096+40*n:Nat):Int) by omega)]
      simp only [cond_true,zar.c18,zar.ret]
      exact fin h2 o12
     ·rw [if_neg hsh] at fin
      rw [dF (show ¬(p.length:Int)<((1096+40*n:Nat):Int) by omega)]
      simp only [cond_false,zar.r19,zar.c19]
      refine cnt_far (m:=m) (n:=n) (out:=out) (by omega) (by omega) o2.wf R2 (by omega) hlen (fun h3 o3=>?_)
      have o13:=o12.trans (o3.weak o12.next)
      have R3:=R2.old o2.wf o3
      have hk:=kP_le p n n
      generalize kP p n n=f at *
      have j4:IntKind.wrap .i64 (8*(f:Int))=((8*f:Nat):Int):=wi (by omega) (by omega)
      have j5:IntKind.wrap .i64 (((1032+40*n:Nat):Int)+((8*f:Nat):Int))=((1032+40*n+8*f:Nat):Int):=wi (by omega) (by omega)
      have j6:IntKind.wrap .i64 (((1032+40*n+8*f:Nat):Int)+64)=((1096+40*n+8*f:Nat):Int):=wi (by omega) (by omega)
      simp only [zar.r25,zar.c25,wr,j1,j2,j4,j5,j6]
      simp only [zar.k25,zar.c26,zar.k26,fA_ptr,bV_some,R3.ld,R3.bs.1.len,bI_some]
      by_cases hx:p.length<1096+40*n+8*f
      ·rw [if_pos hx] at fin
       rw [dT (show (p.length:Int)<((1096+40*n+8*f:Nat):Int) by omega)]
       simp only [cond_true,zar.c27,zar.ret]
       exact fin h3 o13
      ·rw [if_neg hx] at fin
       rw [dF (show ¬(p.length:Int)<((1096+40*n+8*f:Nat):Int) by omega)]
       simp only [cond_false,zar.c28,zar.k28,fA_ptr,bV_some,R3.ld,R3.bs.1.len,bI_some]
       by_cases hy:1096+40*n+8*f<p.length
       ·rw [if_pos hy] at fin
        rw [dT (show (p.length:Int)>((1096+40*n+8*f:Nat):Int) by omega)]
        simp only [cond_true,zar.c29,zar.ret]
        exact fin h3 o13
       ·rw [if_neg hy] at fin
        rw [dF (show ¬(p.length:Int)>((1096+40*n+8*f:Nat):Int) by omega)]
        simp only [cond_false,zar.r30,zar.c30,zar.ret]
        exact fin h3 o13
  ·rw [if_pos hm] at fin
   rw [dF hm]
   simp only [Bool.not_false,cond_true,zar.c4,zar.ret]
   exact fin h1 o1
end Go.Proofs.YtcmhoboglapbdaaDoor
namespace Go.Proofs.YtcmhoboglapbdaaDoor
open Go Ev
abbrev z32:List Nat:=List.replicate 32 0
def rz:Row:=⟨z32,0,0⟩
theorem rz_ok:rz.ok:=⟨rfl,by decide,by decide,by decide⟩
def idV(p:List Nat)(i:Nat):List Nat:=part p (1032+32*i) 32
def crcV(p:List Nat)(n i:Nat):Nat:=g4 p (1032+32*n+4*i)
def farV(p:List Nat)(n i:Nat):Nat:=bigN (part p (1032+40*n+8*kP p n i) 8)
def rowP(p:List Nat)(n i:Nat):Row:=⟨idV p i,crcV p n i,if farF p n i=true then farV p n i else atV p n i⟩
def rowsP(p:List Nat)(n:Nat):List Row:=(List.range n).map (rowP p n)
def atsOK(p:List Nat)(n m:Nat):Prop:=∀ i,i<m→farF p n i=true→atV p n i=2147483648+kP p n i
def ordOK(p:List Nat)(n m:Nat):Prop:=∀ i,0<i→i<m→Lt (rowP p n (i-1)) (rowP p n i)
def fanOK(p:List Nat)(l:List Row)(m:Nat):Prop:=∀ b,b<m→fanV p b=upto l b
def readOK(p:List Nat)(n:Nat):Prop:=atsOK p n n∧ordOK p n n∧fanOK p (rowsP p n) 256
open Classical in
noncomputable def parseR(p:List Nat):List Row×List Nat×Int :=
 if (szM p).2.2≠0 then ([],z32,(szM p).2.2) else if ¬sumM (p.take (p.length-32))=p.drop (p.length-32) then ([],z32,6)
 else if readOK p (szM p).1 then (rowsP p (szM p).1,part p (p.length-64) 32,0) else ([],z32,4)
theorem szM_cases(p:List Nat):(szM p).2.2≠0∨(szM p=(lastN p,kP p (lastN p) (lastN p),0)∧p.length=1096+40*lastN p+8*kP p (lastN p) (lastN p)∧lastN p≤4096∧p.take 8=magicM∧fanUp p 256=true):=by
 unfold szM
 by_cases h1:p.length<1096
 ·rw [if_pos h1];exact .inl (by decide)
 rw [if_neg h1]
 by_cases h2:p.take 8=magicM
 ·rw [if_neg (fun hh=>hh h2)]
  by_cases h3:fanUp p 256=false
  ·rw [if_pos h3];exact .inl (by decide)
  rw [if_neg h3]
  by_cases h4:4096<lastN p
  ·rw [if_pos h4];exact .inl (by decide)
  rw [if_neg h4]
  by_cases h5:p.length<1096+40*lastN p
  ·rw [if_pos h5];exact .inl (by decide)
  rw [if_neg h5]
  by_cases h6:p.length<1096+40*lastN p+8*kP p (lastN p) (lastN p)
  ·rw [if_pos h6];exact .inl (by decide)
  rw [if_neg h6]
  by_cases h7:1096+40*lastN p+8*kP p (lastN p) (lastN p)<p.length
  ·rw [if_pos h7];exact .inl (by decide)
  rw [if_neg h7]
  exact .inr ⟨rfl,by omega,by omega,h2,by simpa using h3⟩
 ·rw [if_pos h2];exact .inl (by decide)
theorem rowsP_len(p:List Nat)(n:Nat):(rowsP p n).length=n:=by simp [rowsP]
theorem rowsP_get{p:List Nat}{n i:Nat}(h:i<n):(rowsP p n)[i]?=some (rowP p n i):=by
 unfold rowsP;rw [List.getElem?_map,List.getElem?_range h];rfl
theorem rowP_ok{p:List Nat}(hp:∀ x∈p,x<256){n i:Nat}(hi:i<n)(hl:1096+40*n≤p.length):(rowP p n i).ok:=by
 refine ⟨part_len (by omega),part_byte hp _ _,g4_lt hp _,?_⟩
 show (if farF p n i=true then farV p n i else atV p n i)<18446744073709551616
 split
 ·unfold farV
  have h1:=bigN_lt _ (part_byte hp (1032+40*n+8*kP p n i) 8)
  have h2:(part p (1032+40*n+8*kP p n i) 8).length≤8:=by unfold part;rw [List.length_take];omega
  have h3:=pow256_le h2
  have h4:256 ^ 8=18446744073709551616:=by decide
  omega
 ·have:=g4_lt hp (1032+36*n+4*i)
  show g4 p (1032+36*n+4*i)<_
  omega
theorem rowsP_ok{p:List Nat}(hp:∀ x∈p,x<256){n:Nat}(hl:1096+40*n≤p.length):∀ r∈rowsP p n,r.ok:=by
 intro r hr
 obtain ⟨i,hi,rfl⟩:=List.mem_map.1 hr
 exact rowP_ok hp (List.mem_range.1 hi) hl
theorem rowsP_rat{p:List Nat}{n i:Nat}(h:i<n):rat (rowsP p n) i=rowP p n i:=by
 unfold rat;rw [List.getD_eq_getElem?_getD,rowsP_get h];rfl
theorem fill_rat{l:List Row}{n i j:Nat}(hl:l.length=n)(hj:j<i)(hi:i≤n):rat (l.take i++List.replicate (n-i) rz) j=rat l j:=by
 unfold rat
 rw [List.getD_eq_getElem?_getD,List.getD_eq_getElem?_getD,List.getElem?_append_left (by rw [List.length_take];omega),List.getElem?_take_of_lt hj]
theorem zero_id:bld [] (List.replicate 32 (.int .u8 0))=some (.agg (byteL z32)):=rfl
theorem err_set{g:AH}{b e n0:Nat}{x:List Nat}(hc:Cells g b e (byteL x))(hx:x.length=32)(hw:g.WF)(hn:n0≤b){y:List Nat}(hy:y.length=32):∃ g',st 32 (.ptr ⟨b,32,0⟩) (.agg (byteL y)) g=some g'∧ldA 32 (.ptr ⟨b,32,0⟩) g'=some (.agg (byteL y))∧Old n0 g g'∧Wrote g g' b:=by
 obtain ⟨g',p1,p2,p3⟩:=hc.put hw (n:=32) (vs:=byteL y) (by rw [byteL_len,hx]) (by rw [byteL_len,hy]) (byteL_cell _)
 exact ⟨g',p1,p2.ldA (by rw [byteL_len,hy]),p3.old hn,p3⟩
theorem fin3{a b c:V}{o:Option V}(h:o=some b)(g:AH):finW [some a,o,some c] g=some (.tuple [a,b,c],g):=by rw [h];rfl
theorem quiet_four{F m:Nat}(hF:40<F){g:AH}(hw:g.WF){pv:V}{p:List Nat}(hp:Bs g pv p)(hlen:p.length≤1000000){a:Nat}(ha:a+4≤p.length) :
  ∃ g',quiet (fun h=>runC (EE F) (m+2) nzas [.agg [pv],.int .i64 (a:Int)] h) g=some (.int .u64 ((g4 p a:Nat):Int),g')∧Old g.next g g' :=
 quiet_of (four_cell hF (wf_low hw g.next) (show Bs ⟨g.next,g.next,g.m⟩ pv p from hp) (by omega) ha)
theorem pr_rows{F m:Nat}(hF:5000<F){out:Res→Prop}{Jn:V×V×V×Int×V×Unit→AH→Res}{Jr:V×V×V×Unit→AH→Res}{h:AH}{b b1 e n n0:Nat}{pv v:V}{p:List Nat}{en:Int}(hw:h.WF)(hn:n≤4096)(hlen:p.length≤1000000)(hl:p.length=1096+40*n+8*kP p n n)(hn0:n0≤h.next)
  (hR:∀ g,Old n0 h g→Rd g b e pv p) (hC:∀ g,Old n0 h g→Cells g b1 T_api_Id (byteL z32)) (H:Has n0 v h (List.replicate n rz))
  (bad:¬(atsOK p n n∧ordOK p n n)→∀ h',Old n0 h h'→out ((bA (bld [] (List.replicate 32 (.int .u8 0))) h' fun x h487=>bS (st 32 (.ptr ⟨b1,32,0⟩) (.agg x) h487) fun h488=>Jr (.nilslice,.ptr ⟨b1,32,0⟩,.int .i64 4,()) h488)))
  (fin:atsOK p n n→ordOK p n n→∀ h',Has n0 v h' (rowsP p n)→Old n0 h h'→out (Jn (pv,.ptr ⟨b1,32,0⟩,.ptr ⟨b,1,0⟩,en,v,()) h')) :
  out (zan.k11 (cx F (m+3)) Jn Jr (pv,.ptr ⟨b1,32,0⟩,.ptr ⟨b,1,0⟩,(n:Int),en,v,0,(n:Int),0,()) h):=by
 have hp8:=(hR h (Old.refl hw _)).bs.2
 show out (loopN zan.P24 F (fun t h n'=>zan.l12 (cx F (m+3)) n' Jn Jr t h) (pv,.ptr ⟨b1,32,0⟩,.ptr ⟨b,1,0⟩,(n:Int),en,v,0,(n:Int),0,()) h)
 refine loop_rule (S:=zan.P24) (out:=out)
  (fun k s g=>∃ i:Nat,i+k=n∧s=(pv,.ptr ⟨b1,32,0⟩,.ptr ⟨b,1,0⟩,(n:Int),en,v,((kP p n i:Nat):Int),(n:Int),(i:Int),())∧atsOK p n i∧ordOK p n i∧Has n0 v g ((rowsP p n).take i++List.replicate (n-i) rz)∧Old n0 h g) ?_ ?_ n F _ _
  ⟨0,by omega,rfl,(fun i hi=>by omega),(fun i h0 hi=>by omega),by simpa using H,Old.refl hw _⟩ (by omega)
 ·rintro k s g n' ⟨i,hi,rfl,ha,ho,H1,og⟩
  have hlt:i<n:=by omega
  have Rg:=hR g og
  have i1:IntKind.wrap .i64 (36*(n:Int))=((36*n:Nat):Int):=wi (by omega) (by omega)
  have i2:IntKind.wrap .i64 (1032+((36*n:Nat):Int))=((1032+36*n:Nat):Int):=wi (by omega) (by omega)
  have i4:IntKind.wrap .i64 (4*(i:Int))=((4*i:Nat):Int):=wi (by omega) (by omega)
  have i5:IntKind.wrap .i64 (((1032+36*n:Nat):Int)+((4*i:Nat):Int))=((1032+36*n+4*i:Nat):Int):=wi (by omega) (by omega)
  have i3:IntKind.wrap .i64 ((i:Int)+1)=((i+1:Nat):Int):=wi (by omega) (by omega)
  have hk:=kP_le p n i
  have hkm:=kP_mono p n (show i+1≤n by omega)
  have hks:=kP_succ p n i
  obtain ⟨g1,e1,o1⟩:=four_cell (F:=F) (n:=m+1) (by omega) og.wf Rg.bs (by omega) (a:=1032+36*n+4*i) (by omega)
  have e1':runC (EE F) (m+3) nzas [.agg [pv],.int .i64 ((1032+36*n+4*i:Nat):Int)] g=some (.int .u64 ((atV p n i:Nat):Int),g1):=e1
  have og1:Old n0 h g1:=og.trans (o1.weak (Nat.le_trans hn0 og.next))
  have H2:=H1.old og.wf o1
  have c1:decide ((i:Int)<(n:Int))=true:=dT (by omega)
  have hrok:=rowP_ok hp8 hlt (show 1096+40*n≤p.length by omega)
  have row:∀ (g1:AH) (pos k':Nat),pos=(rowP p n i).pos→k'=kP p n (i+1)→atsOK p n (i+1)→Has n0 v g1 ((rowsP p n).take i++List.replicate (n-i) rz)→Old n0 h g1 →
    ((∃ s' h',zan.r20 (cx F (m+3)) (zan.r23 (cx F (m+3)) n' Jn Jr) (zan.r23 (cx F (m+3)) n' Jn Jr) Jn Jr (pv,.ptr ⟨b1,32,0⟩,.ptr ⟨b,1,0⟩,(n:Int),en,v,((k':Nat):Int),(i:Int),((pos:Nat):Int),(n:Int),(i:Int),()) g1=n' s' h' ∧
     ∃ i:Nat,i+k=n∧s'=(pv,.ptr ⟨b1,32,0⟩,.ptr ⟨b,1,0⟩,(n:Int),en,v,((kP p n i:Nat):Int),(n:Int),(i:Int),())∧atsOK p n i∧ordOK p n i∧Has n0 v h' ((rowsP p n).take i++List.replicate (n-i) rz)∧Old n0 h h') ∨
    out (zan.r20 (cx F (m+3)) (zan.r23 (cx F (m+3)) n' Jn Jr) (zan.r23 (cx F (m+3)) n' Jn Jr) Jn Jr (pv,.ptr ⟨b1,32,0⟩,.ptr ⟨b,1,0⟩,(n:Int),en,v,((k':Nat):Int),(i:Int),((pos:Nat):Int),(n:Int),(i:Int),()) g1)):=by
   intro g1 pos k' hpos hk' ha1 H2 og1
   subst hpos
   subst hk'
   have R1:=hR g1 og1
   have j1:IntKind.wrap .i64 (32*(i:Int))=((32*i:Nat):Int):=wi (by omega) (by omega)
   have j2:IntKind.wrap .i64 (1032+((32*i:Nat):Int))=((1032+32*i:Nat):Int):=wi (by omega) (by omega)
   have j3:IntKind.wrap .i64 (((1032+32*i:Nat):Int)+32)=((1032+32*i+32:Nat):Int):=wi (by omega) (by omega)
   have j4:IntKind.wrap .i64 (32*(n:Int))=((32*n:Nat):Int):=wi (by omega) (by omega)
   have j5:IntKind.wrap .i64 (1032+((32*n:Nat):Int))=((1032+32*n:Nat):Int):=wi (by omega) (by omega)
   have j6:IntKind.wrap .i64 (((1032+32*n:Nat):Int)+((4*i:Nat):Int))=((1032+32*n+4*i:Nat):Int):=wi (by omega) (by omega)
   obtain ⟨w,s1,s2⟩:=R1.bs.cut (lo:=some (.int .i64 ((1032+32*i:Nat):Int))) (hi:=some (.int .i64 ((1032+32*i+32:Nat):Int))) (l:=1032+32*i) (u:=1032+32*i+32) (.inr rfl) (.inr rfl) (by omega) (by omega)
   rw [show 1032+32*i+32-(1032+32*i)=32 by omega] at s2
   change Bs g1 w (idV p i) at s2
   have hid:(idV p i).length=32:=part_len (by omega)
   obtain ⟨a,t1,t2⟩:=s2.arr (m:=32) (by omega) (by omega)
   rw [List.take_of_length_le (by omega)] at t2
   obtain ⟨g2,q1,q2⟩:=quiet_four (F:=F) (m:=m+1) (by omega) og1.wf R1.bs hlen (a:=1032+32*n+4*i) (by omega)
   have q1':quiet (fun h=>runC (EE F) (m+3) nzas [.agg [pv],.int .i64 ((1032+32*n+4*i:Nat):Int)] h) g1=some (.int .u64 ((crcV p n i:Nat):Int),g2):=q1
   have og2:Old n0 h g2:=og1.trans (q2.weak (Nat.le_trans hn0 og1.next))
   have hcr:=hrok.2.2.1
   have hcr':crcV p n i<4294967296:=hcr
   have j7:IntKind.wrap .u32 ((crcV p n i:Nat):Int)=((crcV p n i:Nat):Int):=by rw [wr_u32];omega
   have hbld:=bld_row hrok
   have hbld':bld [(0,32,(.agg (byteL (idV p i)))),(32,1,(.int .u32 ((crcV p n i:Nat):Int))),(33,1,(.int .u64 (((rowP p n i).pos:Nat):Int)))] zRow=some (.agg (rowL (rowP p n i))):=hbld
   have hfl:((rowsP p n).take i++List.replicate (n-i) rz).length=n:=by rw [List.length_append,List.length_take,List.length_replicate,rowsP_len];omega
   obtain ⟨x,g3,u1,u2,H3,o3,_⟩:=(H2.old og1.wf q2).put q2.wf (i:=i) (by omega) hrok
   rw [fill_set (rowsP_len p n) hlt (rowsP_get hlt)] at H3
   have og3:=og2.trans o3
   have hfl3:((rowsP p n).take (i+1)++List.replicate (n-(i+1)) rz).length=n:=by rw [List.length_append,List.length_take,List.length_replicate,rowsP_len];omega
   by_cases h0:0<i
   ·have c2:decide ((i:Int)>0)=true:=dT (by omega)
    have j8:IntKind.wrap .i64 ((i:Int)-1)=((i-1:Nat):Int):=wi (by omega) (by omega)
    obtain ⟨y1,v1,v2⟩:=H3.at (i:=i-1) (by omega)
    obtain ⟨y2,v3,v4⟩:=H3.at (i:=i) (by omega)
    rw [fill_rat (rowsP_len p n) (by omega) (by omega),rowsP_rat (by omega)] at v2 v4
    obtain ⟨g4',w1,w2⟩:=byId_spec (F:=F) (m:=m) o3.wf (rowP_ok hp8 (show i-1<n by omega) (show 1096+40*n≤p.length by omega)) hrok
    have H4:=H3.old og3.wf w2
    have og4:=og3.trans (w2.weak (Nat.le_trans hn0 og3.next))
    have hxy:=ptr_eq u1 v3
    subst hxy
    by_cases hlt2:Lt (rowP p n (i-1)) (rowP p n i)
    ·have hlt3:cmpN (rowP p n (i-1)).id (rowP p n i).id<0:=hlt2
     have c3:decide (cmpN (rowP p n (i-1)).id (rowP p n i).id≥0)=false:=dF (by omega)
     refine .inl ⟨_,g4',?_,i+1,by omega,rfl,ha1,fun j hj0 hj=>?_,H4,og4⟩
     ·simp -implicitDefEqProofs only [zan.r20,zan.c20,wr,j1,j2,j3,s1,bV_some,t1,ldA_of t2,bA_some,R1.ldA,j4,j5,i4,j6,cxC,q1',cI_some,j7,hbld',u1,u2,bS_some,c2,cond_true,j8,v1,v2,v4,w1,c3,zan.k21,zan.r23,zan.c23,cond_false,i3]
     ·by_cases e:j=i
      ·rw [e];exact hlt2
      ·exact ho j hj0 (by omega)
    ·have hlt3:¬cmpN (rowP p n (i-1)).id (rowP p n i).id<0:=hlt2
     have c3:decide (cmpN (rowP p n (i-1)).id (rowP p n i).id≥0)=true:=dT (by omega)
     refine .inr ?_
     have hb:=bad (fun hh=>hlt2 (hh.2 i h0 hlt)) g4' og4
     simp -implicitDefEqProofs only [zan.r20,zan.c20,wr,j1,j2,j3,s1,bV_some,t1,ldA_of t2,bA_some,R1.ldA,j4,j5,i4,j6,cxC,q1',cI_some,j7,hbld',u1,u2,bS_some,c2,cond_true,j8,v1,v2,v4,w1,c3,zan.k21,zan.c22]
     exact hb
   ·obtain rfl:i=0:=by omega
    have c2:decide (((0:Nat):Int)>0)=false:=rfl
    refine .inl ⟨_,g3,?_,1,by omega,rfl,ha1,fun j hj0 hj=>by omega,H3,og3⟩
    simp -implicitDefEqProofs only [zan.r20,zan.c20,wr,j1,j2,j3,s1,bV_some,t1,ldA_of t2,bA_some,R1.ldA,j4,j5,i4,j6,cxC,q1',cI_some,j7,hbld',u1,u2,bS_some,c2,cond_false,zan.k21,zan.r23,zan.c23,i3]
  simp only [zan.l12,zan.c12,zan.k12,c1,cond_true,zan.r13,zan.c13,Rg.ldA,bA_some,wr,i1,i2,i4,i5,cxC,e1',cI_some,zan.k14,zan.c15]
  by_cases hf:2147483648≤atV p n i
  ·have hff:farF p n i=true:=dT hf
   rw [if_pos hff] at hks
   have c2:decide (((atV p n i:Nat):Int)≥2147483648)=true:=dT (by omega)
   have j1:IntKind.wrap .u64 (2147483648+IntKind.wrap .u64 ((kP p n i:Nat):Int))=((2147483648+kP p n i:Nat):Int):=by rw [wr_u64,wr_u64];omega
   simp only [c2,zan.k15,zan.c16,cond_true,wr,j1]
   by_cases hx:atV p n i=2147483648+kP p n i
   ·have c3:(((atV p n i:Nat):Int) != ((2147483648+kP p n i:Nat):Int))=false:=by rw [hx];exact bne_self_eq_false ..
    have j2:IntKind.wrap .i64 (40*(n:Int))=((40*n:Nat):Int):=wi (by omega) (by omega)
    have j3:IntKind.wrap .i64 (1032+((40*n:Nat):Int))=((1032+40*n:Nat):Int):=wi (by omega) (by omega)
    have j4:IntKind.wrap .i64 (8*((kP p n i:Nat):Int))=((8*kP p n i:Nat):Int):=wi (by omega) (by omega)
    have j5:IntKind.wrap .i64 (((1032+40*n:Nat):Int)+((8*kP p n i:Nat):Int))=((1032+40*n+8*kP p n i:Nat):Int):=wi (by omega) (by omega)
    have j6:IntKind.wrap .i64 (((kP p n i:Nat):Int)+1)=((kP p n i+1:Nat):Int):=wi (by omega) (by omega)
    have b1:=numBig_spec (F:=F) (n:=m+2) (by omega) (hR g1 og1).bs (by omega) (a:=1032+40*n+8*kP p n i) (m:=8) (by omega) (by omega)
    have b1':runC (EE F) (m+3) nzaj [pv,.int .i64 ((1032+40*n+8*kP p n i:Nat):Int),.int .i64 8] g1=some (.tuple [.int .u64 ((farV p n i:Nat):Int),.int .i64 0],g1):=b1
    simp only [c3,zan.k16,zan.r18,zan.c18,cond_false,wr,j2,j3,j4,j5,cxC,b1',cV_some,ex0,ex1,bI_some,j6]
    refine row g1 (farV p n i) (kP p n i+1) ?_ hks.symm (fun j hj hjf=>?_) H2 og1
    ·show farV p n i=if farF p n i=true then farV p n i else atV p n i
     rw [if_pos hff]
    ·by_cases e:j=i
     ·rw [e];exact hx
     ·exact ha j (by omega) hjf
   ·have c3:(((atV p n i:Nat):Int) != ((2147483648+kP p n i:Nat):Int))=true:=by rw [bne_iff_ne];omega
    refine .inr ?_
    have hb:=bad (fun hh=>hx (hh.1 i hlt hff)) g1 og1
    simp only [c3,zan.k16,zan.c17,cond_true]
    exact hb
  ·have hff:farF p n i=false:=dF hf
   have hks:kP p n (i+1)=kP p n i:=by rw [hks,if_neg (by rw [hff];decide)];rfl
   have c2:decide (((atV p n i:Nat):Int)≥2147483648)=false:=dF (by omega)
   simp only [c2,zan.k15,cond_false]
   refine row g1 (atV p n i) (kP p n i) ?_ hks.symm (fun j hj hjf=>?_) H2 og1
   ·show atV p n i=if farF p n i=true then farV p n i else atV p n i
    rw [if_neg (by rw [hff];decide)]
   ·by_cases e:j=i
    ·rw [e,hff] at hjf;cases hjf
    ·exact ha j (by omega) hjf
 ·rintro s g n' ⟨i,hi,rfl,ha,ho,H1,og⟩
  obtain rfl:i=n:=by omega
  have c1:decide ((i:Int)<(i:Int))=false:=dF (by omega)
  rw [Nat.sub_self,List.replicate_zero,List.append_nil,List.take_of_length_le (by rw [rowsP_len];omega)] at H1
  have hf:=fin ha ho g H1 og
  simp only [zan.l12,zan.c12,zan.k12,c1,cond_false]
  exact hf
theorem pr_fans{F m:Nat}(hF:5000<F){out:Res→Prop}{Jn:V×V×Int×V×Unit→AH→Res}{Jr:V×V×V×Unit→AH→Res}{h:AH}{b b1 e n0:Nat}{pv v:V}{p:List Nat}{l:List Row}{en:Int}(hw:h.WF)(hlen:p.length≤1000000)(hl:1096≤p.length)(hll:l.length≤4096)(hn0:n0≤h.next)
  (hR:∀ g,Old n0 h g→Rd g b e pv p)
  (bad:¬fanOK p l 256→∀ h',Old n0 h h'→out ((bA (bld [] (List.replicate 32 (.int .u8 0))) h' fun x h487=>bS (st 32 (.ptr ⟨b1,32,0⟩) (.agg x) h487) fun h488=>Jr (.nilslice,.ptr ⟨b1,32,0⟩,.int .i64 4,()) h488)))
  (fin:fanOK p l 256→∀ h',Old n0 h h'→out (Jn (pv,.ptr ⟨b1,32,0⟩,en,v,()) h')) :
  out (zan.k24 (cx F (m+3)) Jn Jr (pv,.ptr ⟨b1,32,0⟩,.ptr ⟨b,1,0⟩,en,v,iL 256 (upto l),0,()) h):=by
 show out (loopN zan.P50 F (fun t h n'=>zan.l25 (cx F (m+3)) n' Jn Jr t h) (pv,.ptr ⟨b1,32,0⟩,.ptr ⟨b,1,0⟩,en,v,iL 256 (upto l),0,()) h)
 refine loop_rule (S:=zan.P50) (out:=out)
  (fun k s g=>∃ i:Nat,i+k=256∧s=(pv,.ptr ⟨b1,32,0⟩,.ptr ⟨b,1,0⟩,en,v,iL 256 (upto l),(i:Int),())∧fanOK p l i∧Old n0 h g) ?_ ?_ 256 F _ _ ⟨0,rfl,rfl,(fun b hb=>by omega),Old.refl hw _⟩ (by omega)
 ·rintro k s g n' ⟨i,hi,rfl,ho,og⟩
  have hx:i<256:=by omega
  have hu:=upto_le l i
  have Rg:=hR g og
  have i1:IntKind.wrap .i64 (4*(i:Int))=((4*i:Nat):Int):=wi (by omega) (by omega)
  have i2:IntKind.wrap .i64 (8+((4*i:Nat):Int))=((8+4*i:Nat):Int):=wi (by omega) (by omega)
  have i3:IntKind.wrap .i64 ((i:Int)+1)=((i+1:Nat):Int):=wi (by omega) (by omega)
  obtain ⟨g1,e1,o1⟩:=four_cell (F:=F) (n:=m+1) (by omega) og.wf Rg.bs (by omega) (a:=8+4*i) (by omega)
  have e1':runC (EE F) (m+3) nzas [.agg [pv],.int .i64 ((8+4*i:Nat):Int)] g=some (.int .u64 ((fanV p i:Nat):Int),g1):=e1
  have og1:Old n0 h g1:=og.trans (o1.weak (Nat.le_trans hn0 og.next))
  have c1:decide ((i:Int)<256)=true:=dT (by omega)
  have ei:ixC 256 1 (iL 256 (upto l)) (i:Int)=some (.int .i64 ((upto l i:Nat):Int)):=by
   unfold ixC
   rw [if_pos (by omega),Int.toNat_natCast,Nat.mul_one,iL_get _ hx]
  have j1:IntKind.wrap .u64 ((upto l i:Nat):Int)=((upto l i:Nat):Int):=u64_small (by omega)
  by_cases he:fanV p i=upto l i
  ·have c2:(((fanV p i:Nat):Int) != ((upto l i:Nat):Int))=false:=by rw [he];exact bne_self_eq_false ..
   refine .inl ⟨_,g1,?_,i+1,by omega,rfl,fun b hb=>?_,og1⟩
   ·simp only [zan.l25,zan.c25,zan.k25,zan.r26,zan.c26,zan.k27,zan.r29,zan.c29,c1,cond_true,ei,bI_some,Rg.ldA,bA_some,wr,i1,i2,cxC,e1',cI_some,j1,c2,cond_false,i3]
   ·by_cases e:b=i
    ·rw [e];exact he
    ·exact ho b (by omega)
  ·have c2:(((fanV p i:Nat):Int) != ((upto l i:Nat):Int))=true:=by rw [bne_iff_ne];omega
   refine .inr ?_
   have hb:=bad (fun hh=>he (hh i hx)) g1 og1
   simp only [zan.l25,zan.c25,zan.k25,zan.r26,zan.c26,zan.k27,zan.c28,c1,cond_true,ei,bI_some,Rg.ldA,bA_some,wr,i1,i2,cxC,e1',cI_some,j1,c2]
   simp only [bA] at hb
   exact hb
 ·rintro s g n' ⟨i,hi,rfl,ho,og⟩
  obtain rfl:i=256:=by omega
  have c1:decide (((256:Nat):Int)<256)=false:=rfl
  have hf:=fin ho g og
  simp only [zan.l25,zan.c25,zan.k25,c1,cond_false]
  exact hf
theorem mk_rows{h:AH}(hw:h.WF){n:Nat}(hn:n≤100000):∃ v h',mkS 34 48 (List.replicate 32 (.int .u8 0)++[.int .u32 0]++[.int .u64 0]) T_packidx_Row (n:Int) (n:Int) h=some (v,h')∧Has h.next v h' (List.replicate n rz)∧Old h.next h h':=by
 obtain ⟨v,h',e1,e2,e3⟩:=mkS_own hw (z:=34) (by_:=48) (e:=T_packidx_Row) (zs:=zRow) rfl (by omega) rfl (l:=n) (by omega) (by omega)
 refine ⟨v,h',e1,⟨?_,fun r hr=>by rw [List.eq_of_mem_replicate hr];exact rz_ok⟩,e3⟩
 have e4:(List.replicate n zRow).flatten=rowsL (List.replicate n rz):=by
  unfold rowsL
  rw [List.flatMap_def,List.map_replicate]
  rfl
 rw [e4] at e2
 rw [OwnR,List.length_replicate]
 exact e2
end Go.Proofs.YtcmhoboglapbdaaDoor
namespace Go.Proofs.YtcmhoboglapbdaaDoor
open Go Ev
theorem et0(a b c:V):absExtract (.tuple [a,b,c]) 0=some a:=rfl
theorem et1(a b c:V):absExtract (.tuple [a,b,c]) 1=some b:=rfl
theorem et2(a b c:V):absExtract (.tuple [a,b,c]) 2=some c:=rfl
theorem parseR_e{p:List Nat}(h:(szM p).2.2≠0):parseR p=([],z32,(szM p).2.2):=if_pos h
theorem parseR_s{p:List Nat}(h:¬(szM p).2.2≠0)(hs:¬sumM (p.take (p.length-32))=p.drop (p.length-32)):parseR p=([],z32,6):=by
 unfold parseR;rw [if_neg h,if_pos hs]
theorem parseR_b{p:List Nat}(h:¬(szM p).2.2≠0)(hs:sumM (p.take (p.length-32))=p.drop (p.length-32))(hr:¬readOK p (szM p).1):parseR p=([],z32,4):=by
 unfold parseR;rw [if_neg h,if_neg (fun hh=>hh hs),if_neg hr]
theorem parseR_g{p:List Nat}(h:¬(szM p).2.2≠0)(hs:sumM (p.take (p.length-32))=p.drop (p.length-32))(hr:readOK p (szM p).1):parseR p=(rowsP p (szM p).1,part p (p.length-64) 32,0):=by
 unfold parseR;rw [if_neg h,if_neg (fun hh=>hh hs),if_pos hr]
theorem bld_one{v:V}(h1:v.cells=[v])(h2:v.isBad=false):bld [(0,1,v)] [.nilslice]=some (.agg [v]):=by
 show (fillW _ _).map V.agg=_
 unfold fillW
 rw [if_pos ⟨h2,by rw [h1];rfl,by simp⟩]
 show (fillW [] (putL v.cells 0 [.nilslice])).map V.agg=_
 rw [h1];rfl
theorem parse_cps{F m:Nat}(hF:2000000<F){h:AH}(hw:h.WF)(hk:KT h){pv:V}{p:List Nat}(hp:Bs h pv p)(hlen:p.length≤1000000)
  {out:Res→Prop} (fin:∀ w h',OwnR h.next T_packidx_Row h' w (parseR p).1→Old h.next h h'→out (some (.tuple [w,.agg (byteL (parseR p).2.1),.int .i64 (parseR p).2.2],h'))) :
  out (runC (EE F) (m+4) nzan [pv] h):=by
 rw [tzan]
 have hpos:=hk.pos hw
 obtain ⟨a1,a2,a3,a4⟩:=al_cells hw (List.replicate 32 (.int .u8 0)) T_api_Id rfl (by simp)
 have a2':(al (List.replicate 32 (.int .u8 0)) T_api_Id h).1=.ptr ⟨h.next,32,0⟩:=a2
 generalize hh1:(al (List.replicate 32 (.int .u8 0)) T_api_Id h).2=h1 at *
 have a1':Cells h1 h.next T_api_Id (byteL z32):=a1
 have hp1:=hp.old hw a4
 obtain ⟨c2,c1,c3,c4⟩:=cell_al a4.wf .nilslice T_packidx_reader rfl
 generalize hh2:(al [.nilslice] T_packidx_reader h1).2=h2 at *
 obtain ⟨h3,s1,s2,s3⟩:=c1.put c4.wf (n:=1) (vs:=[pv]) rfl rfl (by simp [hp.cellOk])
 have o23:Old h1.next h1 h3:=c4.trans (s3.old (Nat.le_refl _))
 have o13:Old h.next h h3:=a4.trans (o23.weak a4.next)
 have hp3:=hp.old hw o13
 have hC3:=a1'.old a4.wf o23
 have R3:Rd h3 h1.next T_packidx_reader pv p:=⟨s2,hp3⟩
 have hn1:=a4.next
 have hn3:=o13.next
 have hlt3:h1.next<h3.next:=by have:=s3.next;omega
 simp only [zan.fn,zan.c0,a2',hh1,bld_one hp.one.1 hp.one.2,bA_some,c2,hh2,s1,bS_some,R3.ldA,cxC]
 refine count_cps (m:=m) (out:=fun x=>out (cV x fun x10 h11 =>
   bI .i64 (absExtract x10 0) h11 fun x12 h13 =>
   bI .i64 (absExtract x10 1) h13 fun x14 h15 =>
   bI .i64 (absExtract x10 2) h15 fun x16 h17 =>
   zan.k2 (cx F (m+3)) zan.ret zan.ret (pv,.ptr ⟨h.next,32,0⟩,.ptr ⟨h1.next,1,0⟩,x12,x16,()) h17)) (by omega) o13.wf hp3 hlen (fun h4 o4=>?_)
 have o34:=o4
 have o14:Old h.next h h4:=o13.trans (o4.weak hn3)
 have hC4:Cells h4 h.next T_api_Id (byteL z32):=hC3.old o13.wf o4
 have hn4:=o4.next
 simp only [szV,cV_some,et0,et1,et2,bI_some,zan.k2,zan.c3,zan.k3]
 have bad:∀ (x:Int) (g:AH),parseR p=([],z32,x)→Old h.next h g→Cells g h.next T_api_Id (byteL z32) →
   out (bA (bld [] (List.replicate 32 (.int .u8 0))) g fun y h487=>bS (st 32 (.ptr ⟨h.next,32,0⟩) (.agg y) h487) fun h488=>zan.ret (.nilslice,.ptr ⟨h.next,32,0⟩,.int .i64 x,()) h488):=by
  intro x g hx og hc
  obtain ⟨g',p1,p2,p3,_⟩:=err_set (n0:=h.next) hc rfl og.wf (Nat.le_refl _) (y:=z32) rfl
  have f:=fin .nilslice g' (by rw [hx];exact own_nil _ _ _ _) (og.trans p3)
  rw [hx] at f
  simp only [zero_id,bA_some,p1,bS_some,zan.ret,fin3 p2]
  exact f
 by_cases he:(szM p).2.2=0
 ·have e0:((szM p).2.2 != 0)=false:=by rw [he];rfl
  have hne:¬(szM p).2.2≠0:=fun hh=>hh he
  obtain ⟨q1,q2,q3,q4,q5⟩:=(szM_cases p).resolve_left hne
  have hn':(szM p).1=lastN p:=by rw [q1]
  rw [hn']
  have hkle:=kP_le p (lastN p) (lastN p)
  have pb:=fun hs hr=>parseR_b hne hs hr
  have pg:=fun hs hr=>parseR_g hne hs hr
  have ps:=fun hs=>parseR_s hne hs
  rw [hn'] at pb pg
  generalize lastN p=n at *
  have R4:=R3.old o13.wf o4
  have i1:IntKind.wrap .i64 ((p.length:Int)-32)=((p.length-32:Nat):Int):=wi (by omega) (by omega)
  obtain ⟨w1,u1,u2⟩:=R4.bs.cut (lo:=none) (hi:=some (.int .i64 ((p.length-32:Nat):Int))) (l:=0) (u:=p.length-32) (.inr rfl) (.inl ⟨rfl,rfl⟩) (by omega) (by omega)
  rw [List.drop_zero,Nat.sub_zero] at u2
  have k4:KT h4:=hk.old hpos o14
  have htl:(p.take (p.length-32)).length=p.length-32:=by rw [List.length_take];omega
  obtain ⟨h5,e5,o5⟩:=sum_spec (F:=F) (n:=m+1) o4.wf k4 u2 (by omega) (by omega)
  obtain ⟨w6,h6,t1,t2,t3,t4,t5⟩:=ids_tmp o5.wf (sumM_len (p.take (p.length-32))) (sumM_byte _)
  have o46:Old h4.next h4 h6:=o5.trans (t5.weak o5.next)
  have R6:=R4.old o4.wf o46
  obtain ⟨w7,v1,v2⟩:=R6.bs.cut (lo:=some (.int .i64 ((p.length-32:Nat):Int))) (hi:=none) (l:=p.length-32) (u:=p.length) (.inl ⟨rfl,rfl⟩) (.inr rfl) (by omega) (by omega)
  rw [List.take_of_length_le (by rw [List.length_drop];omega)] at v2
  have e7:=bytesEqual_spec (F:=F) (n:=m+2) t4 v2
  have o16:Old h.next h h6:=o14.trans (o46.weak (Nat.le_trans hn3 hn4))
  have hC6:Cells h6 h.next T_api_Id (byteL z32):=hC4.old o4.wf o46
  have hn6:=o46.next
  simp only [e0,cond_false,zan.r5,zan.c5,R4.bs.1.len,bI_some,wr,i1,zan.k5,zan.c6,u1,bV_some,cxC,e5,cA_some,t1,t2,bS_some,t3,v1,e7,cB_some]
  by_cases hs:sumM (p.take (p.length-32))=p.drop (p.length-32)
  ·rw [dT hs]
   simp only [Bool.not_true,zan.k7,zan.r9,zan.c9,cond_false]
   obtain ⟨w8,h8,e8,H8,o8⟩:=mk_rows t5.wf (n:=n) (by omega)
   have R8:=R6.old t5.wf o8
   have o68:=o8
   have H8l:=H8.own.sl.len
   rw [List.length_replicate] at H8l
   simp only [e8,cV_some,zan.k10,zan.c11,H8l,bI_some]
   have o38:Old h3.next h3 h8:=o34.trans ((o46.trans (o8.weak hn6)).weak hn4)
   have hcc:∀ g,Old h6.next h8 g→Old h.next h g:=fun g og=>o16.trans ((o8.trans og).weak (by omega))
   have hCg:∀ g,Old h6.next h8 g→Cells g h.next T_api_Id (byteL z32):=fun g og=>hC6.oldN (by have:=hC6.lt t5.wf;omega) (o8.trans og)
   refine pr_rows (m:=m) (n:=n) (n0:=h6.next) (out:=out) (by omega) o8.wf (by omega) hlen (by omega) o8.next (fun g og=>R6.old t5.wf (o8.trans og)) hCg H8 (fun hbad g og=>?_) (fun hA hO g9 H9 o9=>?_)
   ·exact bad 4 g (pb hs (fun hr=>hbad ⟨hr.1,hr.2.1⟩)) (hcc g og) (hCg g og)
   ·have hrl:=rowsP_len p n
    obtain ⟨h10,e10,o10⟩:=fan_spec (F:=F) (n:=m+2) (by omega) o9.wf H9.rs (by rw [hrl];omega) (by rw [hrl];omega)
    have o9':=o9.next
    have o8':=o8.next
    have o8_10:Old h6.next h8 h10:=o9.trans (o10.weak (by omega))
    simp only [zan.r24,zan.c24,cxC,e10,cA_some]
    have o8_10n:=o8_10.next
    refine pr_fans (m:=m) (n0:=h10.next) (out:=out) (by omega) o10.wf hlen (by omega) (by rw [hrl];omega) (Nat.le_refl _) (fun g og=>R6.old t5.wf (o8.trans (o8_10.trans (og.weak (by omega))))) (fun hbad g og=>?_) (fun hFn g11 o11=>?_)
    ·have og':=o8_10.trans (og.weak (show h6.next≤h10.next by omega))
     exact bad 4 g (pb hs (fun hr=>hbad hr.2.2)) (hcc g og') (hCg g og')
    ·have o8_11:=o8_10.trans (o11.weak (show h6.next≤h10.next by omega))
     have R11:=R6.old t5.wf (o8.trans o8_11)
     have C11:=hCg g11 o8_11
     have j1:IntKind.wrap .i64 (((p.length-32:Nat):Int)-32)=((p.length-64:Nat):Int):=wi (by omega) (by omega)
     obtain ⟨x1,y1,y2⟩:=R11.bs.cut (lo:=some (.int .i64 ((p.length-64:Nat):Int))) (hi:=some (.int .i64 ((p.length-32:Nat):Int))) (l:=p.length-64) (u:=p.length-32) (.inr rfl) (.inr rfl) (by omega) (by omega)
     rw [show p.length-32-(p.length-64)=32 by omega] at y2
     change Bs g11 x1 (part p (p.length-64) 32) at y2
     have hpl:(part p (p.length-64) 32).length=32:=part_len (by omega)
     obtain ⟨x2,y3,y4⟩:=y2.arr (m:=32) (by omega) (by omega)
     rw [List.take_of_length_le (by omega)] at y4
     obtain ⟨g12,p1,p2,p3,p4⟩:=err_set (n0:=h.next) C11 rfl o11.wf (Nat.le_refl _) (y:=part p (p.length-64) 32) hpl
     have hg:=pg hs ⟨hA,hO,hFn⟩
     have H11:=(H9.old o9.wf o10).old o10.wf o11
     have H12:OwnR h6.next T_packidx_Row g12 w8 (rowsP p n):=H11.own.keep fun b hb=>p4.rest b (fun e=>hb (e▸H11.own.fresh (by omega)))
     have f:=fin w8 g12 (by rw [hg];exact H12.weak (by omega)) ((hcc g11 o8_11).trans p3)
     rw [hg] at f
     simp only [zan.r30,zan.c30,wr,j1,y1,bV_some,y3,ldA_of y4,bA_some,p1,bS_some,zan.ret,fin3 p2]
     exact f
  ·rw [dF hs]
   simp only [Bool.not_false,zan.k7,zan.c8,cond_true]
   exact bad 6 h6 (ps hs) o16 hC6
 ·have e0:((szM p).2.2 != 0)=true:=by rw [bne_iff_ne];exact he
  simp only [e0,cond_true,zan.c4]
  exact bad _ h4 (parseR_e he) o14 hC4
end Go.Proofs.YtcmhoboglapbdaaDoor
namespace Go.Proofs.YtcmhoboglapbdaaDoor
open Go Ev
def rowsF(p:List Nat)(n:Nat):List (Row×Bool):=(List.range n).map fun i=>(rowP p n i,farF p n i)
def farsF(p:List Nat)(n:Nat):List Bool:=(List.range n).map (farF p n)
def docOK(p:List Nat)(n:Nat):Prop:=ordOK p n n∧buildM (rowsF p n) (part p (p.length-64) 32)=p
open Classical in
noncomputable def docR(p:List Nat):List Row×List Nat×Int :=
 if (szM p).2.2≠0 then ([],z32,(szM p).2.2) else if ¬sumM (p.take (p.length-32))=p.drop (p.length-32) then ([],z32,6)
 else if docOK p (szM p).1 then (rowsP p (szM p).1,part p (p.length-64) 32,0) else ([],z32,4)
end Go.Proofs.YtcmhoboglapbdaaDoor
namespace Go.Proofs.YtcmhoboglapbdaaDoor
open Go Ev
theorem bigN_foldl(l:List Nat):∀ v,l.foldl (fun v b=>v*256+b) v=v*256 ^ l.length+bigN l:=by
 induction l with
 | nil=>intro v;show v=v*1+0;omega
 | cons b l ih =>
  intro v
  have h1:bigN (b :: l)=l.foldl (fun v b=>v*256+b) (0*256+b):=rfl
  rw [List.foldl_cons,ih,h1,ih,List.length_cons,Nat.pow_succ,Nat.zero_mul,Nat.zero_add,Nat.add_mul,Nat.mul_assoc,Nat.mul_comm 256,Nat.add_assoc]
theorem bigN_cons(b:Nat)(l:List Nat):bigN (b :: l)=b*256 ^ l.length+bigN l:=by
 have h1:bigN (b :: l)=l.foldl (fun v b=>v*256+b) (0*256+b):=rfl
 rw [h1,bigN_foldl,Nat.zero_mul,Nat.zero_add]
theorem bigL_succ(v n:Nat):bigL v (n+1)=v / 256 ^ n % 256 :: bigL v n:=by
 unfold bigL
 rw [List.range_succ_eq_map,List.map_cons,List.map_map]
 congr 1
 refine List.map_congr_left fun j _=>?_
 show v / 256 ^ (n+1-1-(j+1)) % 256=v / 256 ^ (n-1-j) % 256
 rw [show n+1-1-(j+1)=n-1-j by omega]
theorem bigL_mod(v w n:Nat):bigL (w*256 ^ n+v) n=bigL v n:=by
 unfold bigL
 refine List.map_congr_left fun j hj=>?_
 have hj':=List.mem_range.1 hj
 obtain ⟨d,hd⟩:∃ d,n=(n-1-j)+1+d:=⟨j,by omega⟩
 generalize n-1-j=e at *
 subst hd
 rw [show w*256 ^ (e+1+d)=256 ^ e*(256*(w*256 ^ d)) by
  rw [Nat.pow_add,Nat.pow_add];simp only [Nat.pow_one,Nat.mul_assoc,Nat.mul_comm,Nat.mul_left_comm]]
 rw [Nat.mul_add_div (Nat.pow_pos (by omega)),Nat.mul_add_mod]
theorem bigN_bigL:∀ (n v:Nat),v<256 ^ n→bigN (bigL v n)=v:=by
 intro n
 induction n with
 | zero =>
  intro v h;have:v=0:=by simpa using h
  subst this;rfl
 | succ n ih =>
  intro v h
  have hp:0<256 ^ n:=Nat.pow_pos (by omega)
  have hd:v / 256 ^ n<256:=by
   rw [Nat.pow_succ] at h
   exact Nat.div_lt_of_lt_mul h
  have e:bigL v n=bigL (v % 256 ^ n) n:=by
   have:=bigL_mod (v % 256 ^ n) (v / 256 ^ n) n
   rw [Nat.mul_comm,Nat.div_add_mod] at this
   exact this
  rw [bigL_succ,bigN_cons,bigL_len,e,ih _ (Nat.mod_lt _ hp),Nat.mod_eq_of_lt hd,Nat.mul_comm,Nat.div_add_mod]
end Go.Proofs.YtcmhoboglapbdaaDoor
namespace Go.Proofs.YtcmhoboglapbdaaDoor
open Go Ev
def StrictOn(l:List Row):Prop:=∀ i j,i<j→j<l.length→Lt (rat l i) (rat l j)
theorem strictOn_of{l:List Row}(h:∀ i,0<i→i<l.length→Lt (rat l (i-1)) (rat l i)):StrictOn l:=by
 intro i j
 induction j with
 | zero=>intro h1;omega
 | succ j ih =>
  intro h1 h2
  have h3:=h (j+1) (by omega) h2
  rw [Nat.add_sub_cancel] at h3
  by_cases e:i=j
  ·rw [e];exact h3
  ·exact lt_le (ih (by omega) (by omega)) h3.le
theorem parseR_strict{p:List Nat}(he:(parseR p).2.2=0):StrictOn (parseR p).1:=by
 by_cases h1:(szM p).2.2≠0
 ·rw [parseR_e h1] at he ⊢;exact absurd he h1
 ·by_cases hs:sumM (p.take (p.length-32))=p.drop (p.length-32)
  ·by_cases hr:readOK p (szM p).1
   ·rw [parseR_g h1 hs hr]
    refine strictOn_of fun i h0 hi=>?_
    rw [rowsP_len] at hi
    rw [rowsP_rat (by omega),rowsP_rat hi]
    exact hr.2.1 i h0 hi
   ·rw [parseR_b h1 hs hr] at he;cases he
  ·rw [parseR_s h1 hs] at he;cases he
theorem z32_byte:∀ x∈z32,x<256:=by decide
theorem parseR_facts{p:List Nat}(hp:∀ x∈p,x<256):(parseR p).2.1.length=32∧(∀ x∈(parseR p).2.1,x<256)∧(∀ r∈(parseR p).1,r.ok)∧(parseR p).1.length≤4096:=by
 by_cases h1:(szM p).2.2≠0
 ·rw [parseR_e h1];exact ⟨rfl,z32_byte,fun r hr=>(by cases hr),by simp⟩
 ·obtain ⟨q1,q2,q3,q4,q5⟩:=(szM_cases p).resolve_left h1
  by_cases hs:sumM (p.take (p.length-32))=p.drop (p.length-32)
  ·by_cases hr:readOK p (szM p).1
   ·rw [parseR_g h1 hs hr]
    have hn':(szM p).1=lastN p:=by rw [q1]
    rw [hn']
    exact ⟨part_len (by omega),part_byte hp _ _,rowsP_ok hp (by omega),by rw [rowsP_len];exact q3⟩
   ·rw [parseR_b h1 hs hr];exact ⟨rfl,z32_byte,fun r hr=>(by cases hr),by simp⟩
  ·rw [parseR_s h1 hs];exact ⟨rfl,z32_byte,fun r hr=>(by cases hr),by simp⟩
def isId(id:List Nat)(r:Row):Bool:=decide (r.id=id)
noncomputable def findR(p:List Nat)(id:List Nat):Row×Int :=
 if (parseR p).2.2≠0 then (rz,(parseR p).2.2) else match (parseR p).1.find? (isId id) with
 | some r=>(r,0)
 | none=>(rz,7)
theorem find_at{l:List Row}(hs:StrictOn l){i:Nat}(hi:i<l.length){id:List Nat}(h:(rat l i).id=id):l.find? (isId id)=some (rat l i):=by
 rw [List.find?_eq_some_iff_getElem]
 refine ⟨dT h,i,hi,rat_getElem hi,fun j hj=>?_⟩
 have:=(hs j i hj hi).ne
 rw [rat_getElem (show j<l.length by omega)]
 unfold isId
 rw [dF (fun e=>this (e.trans h.symm))];rfl
theorem find_none{l:List Row}{id:List Nat}(h:∀ i,i<l.length→(rat l i).id≠id):l.find? (isId id)=none:=by
 rw [List.find?_eq_none]
 intro r hr
 obtain ⟨i,hi,rfl⟩:=List.getElem_of_mem hr
 rw [rat_getElem hi]
 unfold isId
 rw [dF (h i hi)];decide
theorem c1_spec{F m:Nat}{h:AH}(hw:h.WF){a:Row}{id:List Nat}(ha:a.ok)(hi:id.length=32)(hi8:∀ x∈id,x<256):∃ h',runC (EE F) (m+3) nzam [.agg (rowL a),.agg (byteL id)] h=some (.int .i64 (cmpN a.id id),h')∧Old h.next h h':=by
 rw [tzam]
 obtain ⟨h1,e1,c1,n1,o1⟩:=box_cells hw (rowL a) T_packidx_Row (rowL_cell a)
 obtain ⟨h2,e2,c2,n2,o2⟩:=box_cells o1.wf (byteL id) T_api_Id (byteL_cell id)
 rw [rowL_len ha] at e1
 rw [byteL_len,hi] at e2
 obtain ⟨h3,e3,o3⟩:=compare_spec (F:=F) (n:=m) o2.wf ha.1 hi ha.2.1 hi8
 have o12:=o1.trans (o2.weak o1.next)
 have ea:ldA 32 (.ptr ⟨h1.next,32,0⟩) h2=some (.agg (byteL id)):=c2.ldA (by rw [byteL_len,hi])
 refine ⟨h3,?_,o12.trans (o3.weak o12.next)⟩
 simp only [zam.fn,zam.c0,e1,cV_some,e2,fA_ptr,bV_some,row_id (c1.old o1.wf o2) ha,bA_some,ea,cxC,e3,cI_some,zam.ret]
 rfl
theorem has40:hasB PP 40=some true:=by kernel_rfl
theorem srch_word{F m:Nat}{g:AH}(hw:g.WF){a:Row}{id:List Nat}(ha:a.ok)(hi:id.length=32)(hi8:∀ x∈id,x<256):∃ g',dyn PP (cx F (m+3)).C (cx F (m+3)).X (.func 40 [] []) [.agg (rowL a),.agg (byteL id)] g=some (.int .i64 (cmpN a.id id),g')∧Old g.next g g':=by
 obtain ⟨g',e,o⟩:=c1_spec (F:=F) (m:=m) hw ha hi hi8
 exact ⟨g',(dyn_fn has40).trans e,o⟩
theorem half{x:Nat}(h:x<9223372036854775808):ishr .u64 (x:Int) 1=((x / 2:Nat):Int):=by
 unfold ishr
 have e:((2:Int) ^ min (Int.toNat 1) IntKind.u64.bits)=2:=rfl
 rw [e,Int.fdiv_eq_ediv_of_nonneg _ (by omega)];omega
theorem search_spec{F m:Nat}(hF:5000<F){h:AH}(hw:h.WF){v:V}{l:List Row}(hr:Rs h v l)(hl:l.length≤4096)(hs:StrictOn l){id:List Nat}(hi:id.length=32)(hi8:∀ x∈id,x<256) :
  ∃ (i:Nat) (b:Bool) (h':AH),runC (EE F) (m+4) nzbh [v,.agg (byteL id),.func 40 [] []] h=some (.tuple [.int .i64 (i:Int),.bool b],h')∧Old h.next h h' ∧
   (b=true→i<l.length∧(rat l i).id=id)∧(b=false→∀ i,i<l.length→(rat l i).id≠id):=by
 rw [tzbh]
 obtain ⟨h1,e1,c1,n1,o1⟩:=box_cells hw (byteL id) T_api_Id (byteL_cell id)
 rw [byteL_len,hi] at e1
 have R1:=hr.old hw o1
 simp only [zbh.fn,zbh.c0,e1,cV_some,R1.1.len,bI_some]
 refine loop_rule (S:=zbh.P6) (out:=fun x=>∃ (i:Nat) (b:Bool) (h':AH),x=some (.tuple [.int .i64 (i:Int),.bool b],h')∧Old h.next h h' ∧
   (b=true→i<l.length∧(rat l i).id=id)∧(b=false→∀ i,i<l.length→(rat l i).id≠id))
  (fun k s g=>∃ i j:Nat,j≤i+k∧i≤j∧j≤l.length∧s=(v,.func 40 [] [],.ptr ⟨h.next,32,0⟩,(l.length:Int),(i:Int),(j:Int),())∧(∀ x,x<i→cmpN (rat l x).id id<0)∧(∀ x,j≤x→x<l.length→¬cmpN (rat l x).id id<0)∧Old h1.next h1 g) ?_ ?_ l.length F _ _
  ⟨0,l.length,by omega,by omega,Nat.le_refl _,rfl,fun x hx=>by omega,fun x h1 h2=>by omega,Old.refl o1.wf _⟩ (by omega)
 ·rintro k s g n' ⟨i,j,hk,hij,hj,rfl,hlo,hhi,og⟩
  have Rg:=R1.old o1.wf og
  have Cg:=c1.old o1.wf og
  have ea:ldA 32 (.ptr ⟨h.next,32,0⟩) g=some (.agg (byteL id)):=Cg.ldA (by rw [byteL_len,hi])
  by_cases h':i<j
  ·have d1:decide ((i:Int)<(j:Int))=true:=dT (by omega)
   have i1:IntKind.wrap .i64 ((i:Int)+(j:Int))=((i+j:Nat):Int):=wi (by omega) (by omega)
   have i2:IntKind.wrap .i64 (((i+j) / 2:Nat):Int)=(((i+j) / 2:Nat):Int):=wi rfl (by omega)
   have hm:(i+j) / 2<l.length:=by omega
   obtain ⟨a,u1,u2⟩:=Rg.at (rat_get hm)
   have hk1:=Rg.2 _ (rat_mem hm)
   obtain ⟨g1,w1,w2⟩:=srch_word (F:=F) (m:=m) og.wf hk1 hi hi8
   have i3:IntKind.wrap .i64 ((((i+j) / 2:Nat):Int)+1)=(((i+j) / 2+1:Nat):Int):=wi (by omega) (by omega)
   by_cases hc:cmpN (rat l ((i+j) / 2)).id id<0
   ·refine .inl ⟨_,g1,?_,(i+j) / 2+1,j,by omega,by omega,hj,rfl,fun x hx=>?_,hhi,og.trans (w2.weak og.next)⟩
    ·simp -implicitDefEqProofs only [zbh.l3,zbh.c3,zbh.k3,zbh.r4,zbh.c4,zbh.k5,zbh.c6,d1,cond_true,wr,i1,u64_small (show i+j<18446744073709551616 by omega),half (show i+j<9223372036854775808 by omega),i2,u1,bV_some,ldA_of u2,bA_some,ea,w1,cI_some,dT hc,i3]
    ·by_cases e:x=(i+j) / 2
     ·rw [e];exact hc
     ·have hx2:Lt (rat l x) (rat l ((i+j) / 2)):=hs x _ (by omega) hm
      have t1:cmpN (rat l x).id (rat l ((i+j) / 2)).id<0:=hx2
      have t2:cmpN (rat l x).id id≤0:=cmpN_trans (b:=(rat l ((i+j) / 2)).id) (by omega) (by omega)
      rcases Int.lt_or_eq_of_le t2 with t3 | t3
      ·exact t3
      ·have:=cmpN_eq0 t3
       rw [← this] at hc
       have t4:=cmpN_anti (rat l ((i+j) / 2)).id (rat l x).id
       omega
   ·refine .inl ⟨_,g1,?_,i,(i+j) / 2,by omega,by omega,by omega,rfl,hlo,fun x hx1 hx2=>?_,og.trans (w2.weak og.next)⟩
    ·simp -implicitDefEqProofs only [zbh.l3,zbh.c3,zbh.k3,zbh.r4,zbh.c4,zbh.k5,zbh.c7,d1,cond_true,wr,i1,u64_small (show i+j<18446744073709551616 by omega),half (show i+j<9223372036854775808 by omega),i2,u1,bV_some,ldA_of u2,bA_some,ea,w1,cI_some,dF hc,cond_false]
    ·by_cases e:x=(i+j) / 2
     ·rw [e];exact hc
     ·have hx3:Lt (rat l ((i+j) / 2)) (rat l x):=hs _ x (by omega) hx2
      have t1:cmpN (rat l ((i+j) / 2)).id (rat l x).id<0:=hx3
      intro t2
      exact hc (by
       have t3:cmpN (rat l ((i+j) / 2)).id id≤0:=cmpN_trans (show cmpN (rat l ((i+j) / 2)).id (rat l x).id≤0 by omega) (by omega)
       rcases Int.lt_or_eq_of_le t3 with t4 | t4
       ·exact t4
       ·have:=cmpN_eq0 t4
        rw [← this] at t2
        have t5:=cmpN_anti (rat l ((i+j) / 2)).id (rat l x).id
        omega)
  ·obtain rfl:i=j:=by omega
   exact .inr (by
    have d1:decide ((i:Int)<(i:Int))=false:=dF (by omega)
    simp only [zbh.l3,zbh.c3,zbh.k3,zbh.r8,zbh.c8,d1,cond_false]
    by_cases hil:i<l.length
    ·have d2:decide ((i:Int)<(l.length:Int))=true:=dT (by omega)
     obtain ⟨a,u1,u2⟩:=Rg.at (rat_get hil)
     have hk1:=Rg.2 _ (rat_mem hil)
     obtain ⟨g1,w1,w2⟩:=srch_word (F:=F) (m:=m) og.wf hk1 hi hi8
     refine ⟨i,decide (cmpN (rat l i).id id=0),g1,?_,o1.trans ((og.trans (w2.weak og.next)).weak o1.next),fun hb=>⟨hil,cmpN_eq0 (of_decide_eq_true hb)⟩,fun hb x hx=>?_⟩
     ·have hbeq:(cmpN (rat l i).id id==0)=decide (cmpN (rat l i).id id=0):=by
       rw [Bool.eq_iff_iff,beq_iff_eq,decide_eq_true_eq]
      simp only [d2,cond_true,u1,bV_some,ldA_of u2,bA_some,ea,w1,cI_some,hbeq]
      rfl
     ·intro e
      have hb':¬cmpN (rat l i).id id=0:=of_decide_eq_false hb
      have ex:cmpN (rat l x).id id=0:=by rw [e,cmpN_self]
      rcases Nat.lt_trichotomy x i with h1 | h1 | h1
      ·have:=hlo x h1;omega
      ·rw [h1] at ex;exact hb' ex
      ·have t1:cmpN (rat l i).id (rat l x).id<0:=hs i x h1 hx
       have t2:=hhi i (Nat.le_refl _) hil
       rw [e] at t1
       omega
    ·have d2:decide ((i:Int)<(l.length:Int))=false:=dF (by omega)
     refine ⟨i,false,g,?_,o1.trans (og.weak o1.next),fun hb=>(by cases hb),fun _ x hx e=>?_⟩
     ·simp only [d2,cond_false]
      rfl
     ·have ex:cmpN (rat l x).id id=0:=by rw [e,cmpN_self]
      have:=hlo x (by omega)
      omega)
 ·rintro s g n' ⟨i,j,hk,hij,hj,rfl,hlo,hhi,og⟩
  obtain rfl:i=j:=by omega
  have Rg:=R1.old o1.wf og
  have Cg:=c1.old o1.wf og
  have ea:ldA 32 (.ptr ⟨h.next,32,0⟩) g=some (.agg (byteL id)):=Cg.ldA (by rw [byteL_len,hi])
  have d1:decide ((i:Int)<(i:Int))=false:=dF (by omega)
  simp only [zbh.l3,zbh.c3,zbh.k3,zbh.r8,zbh.c8,d1,cond_false]
  by_cases hil:i<l.length
  ·have d2:decide ((i:Int)<(l.length:Int))=true:=dT (by omega)
   obtain ⟨a,u1,u2⟩:=Rg.at (rat_get hil)
   have hk1:=Rg.2 _ (rat_mem hil)
   obtain ⟨g1,w1,w2⟩:=srch_word (F:=F) (m:=m) og.wf hk1 hi hi8
   refine ⟨i,decide (cmpN (rat l i).id id=0),g1,?_,o1.trans ((og.trans (w2.weak og.next)).weak o1.next),fun hb=>⟨hil,cmpN_eq0 (of_decide_eq_true hb)⟩,fun hb x hx=>?_⟩
   ·have hbeq:(cmpN (rat l i).id id==0)=decide (cmpN (rat l i).id id=0):=by
     rw [Bool.eq_iff_iff,beq_iff_eq,decide_eq_true_eq]
    simp only [d2,cond_true,u1,bV_some,ldA_of u2,bA_some,ea,w1,cI_some,hbeq]
    rfl
   ·intro e
    have hb':¬cmpN (rat l i).id id=0:=of_decide_eq_false hb
    have ex:cmpN (rat l x).id id=0:=by rw [e,cmpN_self]
    rcases Nat.lt_trichotomy x i with h1 | h1 | h1
    ·have:=hlo x h1;omega
    ·rw [h1] at ex;exact hb' ex
    ·have t1:cmpN (rat l i).id (rat l x).id<0:=hs i x h1 hx
     have t2:=hhi i (Nat.le_refl _) hil
     rw [e] at t1
     omega
  ·have d2:decide ((i:Int)<(l.length:Int))=false:=dF (by omega)
   refine ⟨i,false,g,?_,o1.trans (og.weak o1.next),fun hb=>(by cases hb),fun _ x hx e=>?_⟩
   ·simp only [d2,cond_false]
    rfl
   ·have ex:cmpN (rat l x).id id=0:=by rw [e,cmpN_self]
    have:=hlo x (by omega)
    omega
theorem zero_row:bld [] (List.replicate 32 (.int .u8 0)++[.int .u32 0]++[.int .u64 0])=some (.agg (rowL rz)):=rfl
theorem row_put{g:AH}{b e n0:Nat}{x y:Row}(hc:Cells g b e (rowL x))(hx:x.ok)(hy:y.ok)(hw:g.WF)(hn:n0≤b):∃ g',st 34 (.ptr ⟨b,34,0⟩) (.agg (rowL y)) g=some g'∧ldA 34 (.ptr ⟨b,34,0⟩) g'=some (.agg (rowL y))∧Old n0 g g':=by
 obtain ⟨g',p1,p2,p3⟩:=hc.put hw (n:=34) (vs:=rowL y) (rowL_len hx).symm (rowL_len hy) (rowL_cell y)
 exact ⟨g',p1,p2.ldA (rowL_len hy).symm,p3.old hn⟩
theorem fin2{a c:V}{o:Option V}(h:o=some a)(g:AH):finW [o,some c] g=some (.tuple [a,c],g):=by rw [h];rfl
theorem find_cps{F m:Nat}(hF:2000000<F){h:AH}(hw:h.WF)(hk:KT h){pv:V}{p:List Nat}(hp:Bs h pv p)(hlen:p.length≤1000000){id:List Nat}(hi:id.length=32)(hi8:∀ x∈id,x<256)
  {out:Res→Prop} (fin:∀ h',Old h.next h h'→out (some (.tuple [.agg (rowL (findR p id).1),.int .i64 (findR p id).2],h'))) :
  out (runC (EE F) (m+5) nzal [pv,.agg (byteL id)] h):=by
 rw [tzal]
 have hpos:=hk.pos hw
 obtain ⟨h1,e1,c1,n1,o1⟩:=box_cells hw (byteL id) T_api_Id (byteL_cell id)
 rw [byteL_len,hi] at e1
 obtain ⟨a1,a2,a3,a4⟩:=al_cells o1.wf zRow T_packidx_Row rfl (by simp)
 have a2':(al zRow T_packidx_Row h1).1=.ptr ⟨h1.next,34,0⟩:=a2
 generalize hh2:(al zRow T_packidx_Row h1).2=h2 at *
 have a1':Cells h2 h1.next T_packidx_Row (rowL rz):=a1
 have o12:Old h.next h h2:=o1.trans (a4.weak o1.next)
 have c2:=c1.old o1.wf a4
 have hn1:=o1.next
 have hn2:=a4.next
 simp only [zal.fn,zal.c0,e1,cV_some,a2',hh2,cxC]
 refine parse_cps (m:=m) (F:=F) (out:=fun x=>out (cV x fun x5 h6 =>
   bV (absExtract x5 0) h6 fun x7 h8 =>
   bA (absExtract x5 1) h8 fun x9 h10 =>
   bI .i64 (absExtract x5 2) h10 fun x11 h12 =>
   let x13:=(al (List.replicate 32 (.int .u8 0)) T_api_Id h12).1
   let h14:=(al (List.replicate 32 (.int .u8 0)) T_api_Id h12).2
   bS (st 32 x13 (.agg x9) h14) fun h15 =>
   zal.k1 (cx F (m+4)) zal.ret zal.ret (.ptr ⟨h.next,32,0⟩,.ptr ⟨h1.next,34,0⟩,x7,x11,()) h15)) hF o12.wf (hk.old hpos o12) (hp.old hw o12) hlen (fun w h3 w3 o3=>?_)
 obtain ⟨f1,f2,f3,f4⟩:=parseR_facts hp.2
 have o13:=o12.trans (o3.weak o12.next)
 obtain ⟨b1,b2,b3,b4⟩:=al_cells o3.wf (List.replicate 32 (.int .u8 0)) T_api_Id rfl (by simp)
 have b2':(al (List.replicate 32 (.int .u8 0)) T_api_Id h3).1=.ptr ⟨h3.next,32,0⟩:=b2
 generalize hh4:(al (List.replicate 32 (.int .u8 0)) T_api_Id h3).2=h4 at *
 obtain ⟨h5,s1,s2,s3⟩:=b1.put b4.wf (n:=32) (vs:=byteL (parseR p).2.1) rfl (by rw [byteL_len,f1]) (byteL_cell _)
 have o35:Old h3.next h3 h5:=b4.trans (s3.old (Nat.le_refl _))
 have hn3:=o3.next
 have o25:Old h2.next h2 h5:=o3.trans (o35.weak hn3)
 have o15:Old h.next h h5:=o12.trans (o25.weak (by omega))
 have Cz:=a1'.old a4.wf o25
 have Ci:=c2.old a4.wf o25
 have W5:=w3.old o3.wf o35
 have hn5:=o35.next
 simp -implicitDefEqProofs only [cV_some,et0,et1,et2,bV_some,bA_some,bI_some,b2',hh4,s1,bS_some,zal.k1,zal.c2,zal.k2]
 unfold findR at fin
 have bad:∀ (x:Int) (g:AH) (r:Row),r.ok→(∀ h',Old h.next h h'→out (some (.tuple [.agg (rowL r),.int .i64 x],h')))→Old h2.next h2 g →
   ∃ g',st 34 (.ptr ⟨h1.next,34,0⟩) (.agg (rowL r)) g=some g'∧out (zal.ret (.ptr ⟨h1.next,34,0⟩,.int .i64 x,()) g'):=by
  intro x g r hr hx og
  obtain ⟨g',p1,p2,p3⟩:=row_put (n0:=h.next) (a1'.old a4.wf og) rz_ok hr og.wf (by omega)
  refine ⟨g',p1,?_⟩
  simp only [zal.ret,fin2 p2]
  exact hx g' ((o12.trans (og.weak (by omega))).trans p3)
 by_cases he:(parseR p).2.2=0
 ·have e0:((parseR p).2.2 != 0)=false:=by rw [he];rfl
  rw [if_neg (fun hh=>hh he)] at fin
  have hst:=parseR_strict he
  have R5:Rs h5 w (parseR p).1:=⟨W5.sl,f3⟩
  have ea:ldA 32 (.ptr ⟨h.next,32,0⟩) h5=some (.agg (byteL id)):=Ci.ldA (by rw [byteL_len,hi])
  obtain ⟨i,b,h6,e6,o6,q1,q2⟩:=search_spec (F:=F) (m:=m) (by omega) o25.wf R5 f4 hst hi hi8
  have o26:=o25.trans (o6.weak o25.next)
  simp only [e0,cond_false,zal.r4,zal.c4,ea,bA_some,cxC,e6,cV_some,ex0,ex1,bI_some,bB_some,zal.k4,zal.c5,zal.k5]
  cases b with
  | false =>
   rw [find_none (q2 rfl)] at fin
   obtain ⟨g',p1,p2⟩:=bad 7 h6 rz rz_ok fin o26
   simp only [Bool.not_false,cond_true,zal.c6,zero_row,bA_some,p1,bS_some]
   exact p2
  | true =>
   obtain ⟨q3,q4⟩:=q1 rfl
   rw [find_at hst q3 q4] at fin
   have hro:=f3 _ (rat_mem q3)
   obtain ⟨a,u1,u2⟩:=(R5.old o25.wf o6).at (rat_get q3)
   obtain ⟨g',p1,p2⟩:=bad 0 h6 _ hro fin o26
   simp only [Bool.not_true,cond_false,zal.r7,zal.c7,u1,bV_some,ldA_of u2,bA_some,p1,bS_some]
   exact p2
 ·have e0:((parseR p).2.2 != 0)=true:=by rw [bne_iff_ne];exact he
  rw [if_pos he] at fin
  obtain ⟨g',p1,p2⟩:=bad _ h5 rz rz_ok fin o25
  simp only [e0,cond_true,zal.c3,zero_row,bA_some,p1,bS_some]
  exact p2
end Go.Proofs.YtcmhoboglapbdaaDoor
namespace Go.Proofs.YtcmhoboglapbdaaDoor
open Go Ev
theorem part_in{a b c:List Nat}{o w:Nat}(h:o+w≤b.length):part (a++(b++c)) (a.length+o) w=part b o w:=by
 unfold part
 rw [List.drop_append,List.drop_of_length_le (by omega),List.nil_append,Nat.add_sub_cancel_left,List.drop_append_of_le_length (by omega),List.take_append_of_le_length (by rw [List.length_drop];omega)]
theorem part_left{a b:List Nat}{o w:Nat}(h:o+w≤a.length):part (a++b) o w=part a o w:=by
 unfold part
 rw [List.drop_append_of_le_length (by omega),List.take_append_of_le_length (by rw [List.length_drop];omega)]
theorem part_all(b:List Nat):part b 0 b.length=b:=by unfold part;rw [List.drop_zero,List.take_length]
theorem part_whole{a b c:List Nat}{o w:Nat}(ho:o=a.length)(hw:w=b.length):part (a++(b++c)) o w=b:=by
 subst ho;subst hw
 have:=part_in (a:=a) (b:=b) (c:=c) (o:=0) (w:=b.length) (by omega)
 rw [Nat.add_zero,part_all] at this
 exact this
theorem cut_at{α:Type}{l:List α}{i:Nat}{x:α}(h:l[i]?=some x):l=l.take i++x :: l.drop (i+1):=by
 have hi:=(List.getElem?_eq_some_iff.1 h).1
 have hx:l[i]=x:=by have:=List.getElem?_eq_getElem hi;rw [h] at this;exact (Option.some.inj this).symm
 have:=List.take_append_drop i l
 rw [List.drop_eq_getElem_cons hi,hx] at this
 exact this.symm
theorem idsM_at{l:List Row}{i:Nat}{r:Row}(h:l[i]?=some r)(hok:∀ r∈l,r.ok):part (idsM l) (32*i) 32=r.id:=by
 have hi:=(List.getElem?_eq_some_iff.1 h).1
 have e:idsM l=idsM (l.take i)++(r.id++idsM (l.drop (i+1))):=by
  have:=congrArg idsM (cut_at h)
  rw [this];unfold idsM;rw [List.flatMap_append,List.flatMap_cons]
 rw [e]
 refine part_whole ?_ (hok _ (List.mem_of_getElem? h)).1.symm
 rw [idsM_len (fun r hr=>hok r (List.mem_of_mem_take hr)),List.length_take]
 congr 1;omega
theorem crcsM_at{l:List Row}{i:Nat}{r:Row}(h:l[i]?=some r):part (crcsM l) (4*i) 4=bigL r.crc 4:=by
 have hi:=(List.getElem?_eq_some_iff.1 h).1
 have e:crcsM l=crcsM (l.take i)++(bigL r.crc 4++crcsM (l.drop (i+1))):=by
  have:=congrArg crcsM (cut_at h)
  rw [this];unfold crcsM;rw [List.flatMap_append,List.flatMap_cons]
 rw [e]
 refine part_whole ?_ (bigL_len _ _).symm
 rw [crcsM_len,List.length_take]
 congr 1;omega
theorem atsM_append:∀ (a b:List (Row×Bool)) (k:Nat),atsM k (a++b)=atsM k a++atsM (k+nfar a) b:=by
 intro a
 induction a with
 | nil=>intro b k;rfl
 | cons x a ih =>
  intro b k
  rw [List.cons_append]
  have hn:nfar (x :: a)=nfar a+if x.2=true then 1 else 0:=List.countP_cons
  show (if x.2 then bigL (2147483648+k) 4++atsM (k+1) (a++b) else bigL x.1.pos 4++atsM k (a++b))=(if x.2 then bigL (2147483648+k) 4++atsM (k+1) a else bigL x.1.pos 4++atsM k a)++_
  by_cases hx:x.2=true
  ·rw [if_pos hx,if_pos hx,ih,hn,if_pos hx,List.append_assoc,show k+1+nfar a=k+(nfar a+1) by omega]
  ·rw [if_neg hx,if_neg hx,ih,hn,if_neg hx,List.append_assoc,Nat.add_zero]
theorem atsM_cons(k:Nat)(x:Row×Bool)(l:List (Row×Bool)):atsM k (x :: l)=(if x.2 then bigL (2147483648+k) 4 else bigL x.1.pos 4)++atsM (if x.2 then k+1 else k) l:=by
 show (if x.2 then _ else _)=_
 by_cases hx:x.2=true
 ·rw [if_pos hx,if_pos hx,if_pos hx]
 ·rw [if_neg hx,if_neg hx,if_neg hx]
theorem atsM_at{l:List (Row×Bool)}{i:Nat}{x:Row×Bool}(h:l[i]?=some x):part (atsM 0 l) (4*i) 4=if x.2 then bigL (2147483648+nfar (l.take i)) 4 else bigL x.1.pos 4:=by
 have hi:=(List.getElem?_eq_some_iff.1 h).1
 have e:=congrArg (atsM 0) (cut_at h)
 rw [atsM_append,atsM_cons,Nat.zero_add] at e
 rw [e]
 refine part_whole ?_ ?_
 ·rw [atsM_len,List.length_take];congr 1;omega
 ·split <;> rw [bigL_len]
theorem farsM_append(a b:List (Row×Bool)):farsM (a++b)=farsM a++farsM b:=List.flatMap_append ..
theorem farsM_at{l:List (Row×Bool)}{i:Nat}{x:Row×Bool}(h:l[i]?=some x)(hx:x.2=true):part (farsM l) (8*nfar (l.take i)) 8=bigL x.1.pos 8:=by
 have e:=congrArg farsM (cut_at h)
 rw [farsM_append,show farsM (x :: l.drop (i+1))=(if x.2 then bigL x.1.pos 8 else [])++farsM (l.drop (i+1)) from rfl,if_pos hx] at e
 rw [e]
 exact part_whole (farsM_len _).symm (bigL_len _ _).symm
theorem fansM_at(l:List Row){b:Nat}:∀ m,b<m→part (fansM l m) (4*b) 4=bigL (upto l b) 4:=by
 intro m
 induction m with
 | zero=>intro h;omega
 | succ m ih =>
  intro h
  rw [fansM_succ]
  by_cases e:b=m
  ·subst e
   have:=part_whole (a:=fansM l b) (b:=bigL (upto l b) 4) (c:=[]) (o:=4*b) (w:=4) (fansM_len _ _).symm (bigL_len _ _).symm
   rw [List.append_nil] at this
   exact this
  ·rw [part_left (by rw [fansM_len];omega)]
   exact ih (by omega)
theorem upto_mono(l:List Row){a b:Nat}(h:a≤b):upto l a≤upto l b:=by
 unfold upto
 refine List.countP_mono_left fun r _ hr=>?_
 rw [decide_eq_true_eq] at hr ⊢
 omega
theorem upto_all{l:List Row}(hok:∀ r∈l,r.ok):upto l 255=l.length:=by
 unfold upto
 rw [List.countP_eq_length]
 intro r hr
 have:=id0_lt (hok r hr)
 rw [decide_eq_true_eq];omega
theorem backF{m:List (Row×Bool)}{l:List Row}{pack:List Nat}(hl:m.map (·.1)=l)(hokf:∀ x∈m,x.1.ok)(hsh:∀ x∈m,x.2=false→x.1.pos<2147483648)(hs:StrictOn l)(hn:l.length≤4096)(h32:pack.length=32)(h8:∀ x∈pack,x<256):parseR (buildM m pack)=(l,pack,0):=by
 have hml:m.length=l.length:=by rw [← hl,List.length_map]
 have hok:∀ r∈l,r.ok:=by
  intro r hr
  rw [← hl] at hr
  obtain ⟨x,hx,rfl⟩:=List.mem_map.1 hr
  exact hokf x hx
 let fl:Nat→Bool:=fun i=>(m.getD i (rz,false)).2
 have hbl:=bodyM_len hokf h32
 rw [hml] at hbl
 have hp8:=buildM_byte hokf h8
 have hpl:(buildM m pack).length=1096+40*l.length+8*nfar m:=by
  unfold buildM;rw [List.length_append,hbl,sumM_len];omega
 have hnf:=nfar_le m
 rw [hml] at hnf
 have hp:buildM m pack=magicM++(fansM l 256++(idsM l++(crcsM l++(atsM 0 m++(farsM m++(pack++sumM (bodyM m pack))))))):=by
  unfold buildM
  conv=>lhs;arg 1;unfold bodyM headM
  rw [hl]
  simp only [List.append_assoc]
 have lm:magicM.length=8:=rfl
 have lf:(fansM l 256).length=1024:=fansM_len l 256
 have li:=idsM_len hok
 have lc:=crcsM_len l
 have la:(atsM 0 m).length=4*l.length:=by rw [atsM_len,hml]
 have lr:=farsM_len m
 have q1:∀ b,b<256→part (buildM m pack) (8+4*b) 4=bigL (upto l b) 4:=by
  intro b hb
  rw [hp,← fansM_at l 256 hb,← lm]
  exact part_in (by rw [lf];omega)
 have q2:∀ o w,o+w≤32*l.length→part (buildM m pack) (1032+o) w=part (idsM l) o w:=by
  intro o w hh
  rw [hp,← List.append_assoc,show 1032+o=(magicM++fansM l 256).length+o by rw [List.length_append,lm,lf]]
  exact part_in (by rw [li];omega)
 have q3:∀ o w,o+w≤4*l.length→part (buildM m pack) (1032+32*l.length+o) w=part (crcsM l) o w:=by
  intro o w hh
  rw [hp,← List.append_assoc,← List.append_assoc,show 1032+32*l.length+o=((magicM++fansM l 256)++idsM l).length+o by rw [List.length_append,List.length_append,lm,lf,li]]
  exact part_in (by rw [lc];omega)
 have q4:∀ o w,o+w≤4*l.length→part (buildM m pack) (1032+36*l.length+o) w=part (atsM 0 m) o w:=by
  intro o w hh
  rw [hp,← List.append_assoc,← List.append_assoc,← List.append_assoc,show 1032+36*l.length+o=(((magicM++fansM l 256)++idsM l)++crcsM l).length+o by rw [List.length_append,List.length_append,List.length_append,lm,lf,li,lc];omega]
  exact part_in (by rw [la];omega)
 have q5:∀ o w,o+w≤8*nfar m→part (buildM m pack) (1032+40*l.length+o) w=part (farsM m) o w:=by
  intro o w hh
  rw [hp,← List.append_assoc,← List.append_assoc,← List.append_assoc,← List.append_assoc,show 1032+40*l.length+o=((((magicM++fansM l 256)++idsM l)++crcsM l)++atsM 0 m).length+o by rw [List.length_append,List.length_append,List.length_append,List.length_append,lm,lf,li,lc,la];omega]
  exact part_in (by rw [lr];omega)
 have q6:part (buildM m pack) ((buildM m pack).length-64) 32=pack:=by
  rw [hpl,show 1096+40*l.length+8*nfar m-64=1032+40*l.length+8*nfar m by omega]
  rw [hp,← List.append_assoc,← List.append_assoc,← List.append_assoc,← List.append_assoc,← List.append_assoc]
  exact part_whole (by rw [List.length_append,List.length_append,List.length_append,List.length_append,List.length_append,lm,lf,li,lc,la,lr];omega) h32.symm
 have q7:(buildM m pack).take 8=magicM:=by rw [hp,List.take_left' lm]
 have q8:sumM ((buildM m pack).take ((buildM m pack).length-32))=(buildM m pack).drop ((buildM m pack).length-32):=by
  rw [hpl,show 1096+40*l.length+8*nfar m-32=(bodyM m pack).length by rw [hbl];omega]
  unfold buildM
  rw [List.take_left' rfl,List.drop_left' rfl]
 generalize buildM m pack=p at *
 have p4:256 ^ 4=4294967296:=by decide
 have p8:256 ^ 8=18446744073709551616:=by decide
 have hfan:∀ b,b<256→fanV p b=upto l b:=by
  intro b hb
  have hu:=upto_le l b
  unfold fanV g4
  rw [q1 b hb,bigN_bigL 4 _ (by rw [p4];omega)]
 have hlast:lastN p=l.length:=by
  unfold lastN;rw [hfan 255 (by omega),upto_all hok]
 have hup:fanUp p 256=true:=by
  unfold fanUp
  rw [List.all_eq_true]
  intro i hi
  have hi':=List.mem_range.1 hi
  rw [decide_eq_true_eq]
  unfold fanPrev
  by_cases h0:i=0
  ·rw [if_pos h0];exact Nat.zero_le _
  ·rw [if_neg h0,hfan _ (by omega),hfan _ (by omega)]
   exact upto_mono l (by omega)
 have fl_get:∀ i,i<l.length→m[i]?=some (rat l i,fl i):=by
  intro i hi
  have h1:m[i]?=some m[i]:=List.getElem?_eq_getElem (by omega)
  have h2:(m.map (·.1))[i]?=some m[i].1:=by rw [List.getElem?_map,h1];rfl
  rw [hl] at h2
  have h3:=rat_get hi
  rw [h2] at h3
  rw [h1,← Option.some.inj h3]
  show some m[i]=some (m[i].1,(m.getD i (rz,false)).2)
  rw [List.getD_eq_getElem?_getD,h1];rfl
 have fl_short:∀ i,i<l.length→¬fl i=true→(rat l i).pos<2147483648:=by
  intro i hi hf
  exact hsh _ (List.mem_of_getElem? (fl_get i hi)) (by simpa using hf)
 have hat:∀ i,i<l.length→atV p l.length i=if fl i=true then 2147483648+nfar (m.take i) else (rat l i).pos:=by
  intro i hi
  have hk:nfar (m.take i)≤i:=by
   have:=nfar_le (m.take i)
   rw [List.length_take] at this
   omega
  unfold atV g4
  rw [q4 (4*i) 4 (by omega),atsM_at (fl_get i hi)]
  by_cases hf:fl i=true
  ·rw [if_pos hf,if_pos hf,bigN_bigL 4 _ (by rw [p4];omega)]
  ·have hpos:=fl_short i hi hf
   rw [if_neg hf,if_neg hf]
   exact bigN_bigL 4 _ (by rw [p4];show (rat l i).pos<4294967296;omega)
 have hfar:∀ i,i<l.length→farF p l.length i=fl i:=by
  intro i hi
  unfold farF
  rw [hat i hi]
  by_cases hf:fl i=true
  ·rw [if_pos hf,hf];exact dT (by omega)
  ·have hf':fl i=false:=by simpa using hf
   have hpos:=fl_short i hi hf
   rw [if_neg hf,hf']
   exact dF (by omega)
 have hkP:∀ i,i≤l.length→kP p l.length i=nfar (m.take i):=by
  intro i
  induction i with
  | zero=>intro _;rfl
  | succ i ih =>
   intro h
   rw [kP_succ,ih (by omega),hfar i (by omega),← take_snoc (fl_get i (by omega)),nfar_snoc]
 have hkn:kP p l.length l.length=nfar m:=by
  rw [hkP _ (Nat.le_refl _),List.take_of_length_le (by rw [hml];omega)]
 have hrow:∀ i,i<l.length→rowP p l.length i=rat l i:=by
  intro i hi
  have hr:=hok _ (rat_mem hi)
  have e1:idV p i=(rat l i).id:=by
   unfold idV
   rw [q2 (32*i) 32 (by omega),idsM_at (rat_get hi) hok]
  have e2:crcV p l.length i=(rat l i).crc:=by
   unfold crcV g4
   have hcr:=hr.2.2.1
   rw [q3 (4*i) 4 (by omega),crcsM_at (rat_get hi),bigN_bigL 4 _ (by rw [p4];exact hcr)]
  have e3:(if farF p l.length i=true then farV p l.length i else atV p l.length i)=(rat l i).pos:=by
   by_cases hf:fl i=true
   ·rw [hfar i hi,if_pos hf]
    unfold farV
    have hpo:=hr.2.2.2
    have h1:nfar (m.take (i+1))≤nfar m:=by
     rw [← hkn,← hkP (i+1) (by omega)];exact kP_mono p _ (by omega)
    rw [← take_snoc (fl_get i hi),nfar_snoc,if_pos (show ((rat l i,fl i):Row×Bool).2=true from hf)] at h1
    rw [hkP i (by omega),q5 _ 8 (by omega),farsM_at (fl_get i hi) hf,bigN_bigL 8 _ (by rw [p8];exact hpo)]
   ·rw [hfar i hi,if_neg hf,hat i hi,if_neg hf]
  unfold rowP
  rw [e1,e2,e3]
 have hrows:rowsP p l.length=l:=by
  apply List.ext_getElem?
  intro i
  by_cases hi:i<l.length
  ·rw [rowsP_get hi,hrow i hi,rat_get hi]
  ·rw [List.getElem?_eq_none (by rw [rowsP_len];omega),List.getElem?_eq_none (by omega)]
 have hsz:szM p=(l.length,nfar m,0):=by
  unfold szM
  rw [hlast,hkn,hup,hpl,if_neg (by omega),if_neg (fun hh=>hh q7),if_neg (by decide),if_neg (by omega),if_neg (by omega),if_neg (by omega),if_neg (by omega)]
 have hrd:readOK p (szM p).1:=by
  rw [hsz]
  refine ⟨fun i hi hf=>?_,fun i h0 hi=>?_,fun b hb=>?_⟩
  ·rw [hat i hi,if_pos (by rw [← hfar i hi];exact hf),hkP i (by omega)]
  ·rw [hrow _ (by omega),hrow _ hi];exact hs _ _ (by omega) hi
  ·show fanV p b=upto (rowsP p l.length) b
   rw [hrows,hfan b hb]
 rw [parseR_g (by rw [hsz];exact fun h=>h rfl) q8 hrd,hsz,q6]
 show (rowsP p l.length,pack,(0:Int))=_
 rw [hrows]
theorem back{l:List Row}{pack:List Nat}(hok:∀ r∈l,r.ok)(hs:StrictOn l)(hn:l.length≤4096)(h32:pack.length=32)(h8:∀ x∈pack,x<256):parseR (buildM (flags l) pack)=(l,pack,0) :=
 backF (flags_fst l) (flags_ok hok) (fun x hx hf=>by
  obtain ⟨r,hr,rfl⟩:=List.mem_map.1 hx
  have:¬2147483648≤r.pos:=of_decide_eq_false hf
  show r.pos<2147483648
  omega) hs hn h32 h8
end Go.Proofs.YtcmhoboglapbdaaDoor
namespace Go.Proofs.YtcmhoboglapbdaaDoor
open Go Ev
theorem parse_spec{F m:Nat}(hF:2000000<F){h:AH}(hw:h.WF)(hk:KT h){pv:V}{p:List Nat}(hp:Bs h pv p)(hlen:p.length≤1000000) :
  ∃ w h',runC (EE F) (m+4) nzan [pv] h=some (.tuple [w,.agg (byteL (parseR p).2.1),.int .i64 (parseR p).2.2],h')∧OwnR h.next T_packidx_Row h' w (parseR p).1∧Old h.next h h' :=
 parse_cps (out:=fun x=>∃ w h',x=some (.tuple [w,.agg (byteL (parseR p).2.1),.int .i64 (parseR p).2.2],h')∧OwnR h.next T_packidx_Row h' w (parseR p).1∧Old h.next h h') hF hw hk hp hlen (fun w h' a b=>⟨w,h',rfl,a,b⟩)
theorem find_spec{F m:Nat}(hF:2000000<F){h:AH}(hw:h.WF)(hk:KT h){pv:V}{p:List Nat}(hp:Bs h pv p)(hlen:p.length≤1000000){id:List Nat}(hi:id.length=32)(hi8:∀ x∈id,x<256) :
  ∃ h',runC (EE F) (m+5) nzal [pv,.agg (byteL id)] h=some (.tuple [.agg (rowL (findR p id).1),.int .i64 (findR p id).2],h')∧Old h.next h h' :=
 find_cps (out:=fun x=>∃ h',x=some (.tuple [.agg (rowL (findR p id).1),.int .i64 (findR p id).2],h')∧Old h.next h h') hF hw hk hp hlen hi hi8 (fun h' a=>⟨h',rfl,a⟩)
theorem Build_spec{F m:Nat}(hF:2000000<F){h:AH}(hw:h.WF)(hk:KT h){p:V}{l:List Row}(hp:Rs h p l)(hl:l.length≤200∨4096<l.length)(hlen:l.length≤2932031007317){pack:List Nat}(h32:pack.length=32)(h8:∀ x∈pack,x<256) :
  ∃ v h',runC (EE F) (m+210) nzak [p,.agg (byteL pack)] h=some (.tuple [v,.int .i64 (buildE l)],h')∧Own h.next 1 T_uint8 h' v (buildB l pack).length (byteL (buildB l pack))∧Old h.next h h' :=
 build_spec (d:=m+203) (N:=200) (by omega) (sort_ok (m:=m) (by omega)) (by omega) hw hk hp hl hlen h32 h8
theorem buildB_byte{l:List Row}(hok:∀ r∈l,r.ok){pack:List Nat}(h8:∀ x∈pack,x<256):∀ x∈buildB l pack,x<256:=by
 unfold buildB
 split
 ·intro x hx;cases hx
 ·split
  ·intro x hx;cases hx
  ·exact buildM_byte (flags_ok (sortM_ok hok)) h8
theorem buildB_len{l:List Row}(hok:∀ r∈l,r.ok){pack:List Nat}(h32:pack.length=32):(buildB l pack).length≤400000:=by
 unfold buildB
 split
 ·simp
 ·split
  ·simp
  ·have h1:=bodyM_len (flags_ok (sortM_ok hok)) h32
   have h2:=nfar_le (flags (sortM l))
   rw [flags_len,sortM_len] at h1 h2
   unfold buildM
   rw [List.length_append,h1,sumM_len];omega
theorem strict_on{l:List Row}(h:StrictS l):StrictOn l:=by
 intro i j hij hj
 have:=List.pairwise_iff_getElem.1 h i j (by omega) hj hij
 rw [rat_getElem (show i<l.length by omega),rat_getElem hj] at this
 exact this
theorem build_back{l:List Row}(hok:∀ r∈l,r.ok)(he:buildE l=0){pack:List Nat}(h32:pack.length=32)(h8:∀ x∈pack,x<256):parseR (buildB l pack)=(sortM l,pack,0)∧StrictOn (sortM l):=by
 unfold buildE at he
 unfold buildB
 by_cases h1:4096<l.length
 ·rw [if_pos h1] at he;cases he
 ·rw [if_neg h1] at he ⊢
  by_cases h2:twiceM (sortM l)=true
  ·rw [if_pos h2] at he;cases he
  ·rw [if_neg h2]
   have hst:=strict_on (strict_of (sortM_both l).2 (by simpa using h2))
   exact ⟨back (sortM_ok hok) hst (by rw [sortM_len];omega) h32 h8,hst⟩
abbrev idA(n:Nat):List Nat:=n :: List.replicate 31 0
def rowA:Row:=⟨idA 2,0,7⟩
def rowB:Row:=⟨idA 1,9,2147483648⟩
theorem idA_byte{n:Nat}(h:n<256):∀ x∈idA n,x<256:=by
 intro x hx
 rcases List.mem_cons.1 hx with rfl | hx
 ·exact h
 ·rw [List.eq_of_mem_replicate hx];omega
theorem rowA_ok:rowA.ok:=⟨rfl,idA_byte (by omega),by decide,by decide⟩
theorem rowB_ok:rowB.ok:=⟨rfl,idA_byte (by omega),by decide,by decide⟩
theorem bld_A:bld [(0,32,(.agg (byteL (idA 2)))),(33,1,(.int .u64 7))] (List.replicate 32 (.int .u8 0)++[.int .u32 0]++[.int .u64 0])=some (.agg (rowL rowA)):=rfl
theorem bld_B:bld [(0,32,(.agg (byteL (idA 1)))),(33,1,(.int .u64 2147483648)),(32,1,(.int .u32 9))] (List.replicate 32 (.int .u8 0)++[.int .u32 0]++[.int .u64 0])=some (.agg (rowL rowB)):=rfl
theorem two_rows{h:AH}(hw:h.WF){a b:Row}(ha:a.ok)(hb:b.ok)(e:Nat):∃ v h',bsl 34 2 [(0,34,(.agg (rowL a))),(34,34,(.agg (rowL b)))] (List.replicate 32 (.int .u8 0)++[.int .u32 0]++[.int .u64 0]) e h=some (v,h')∧OwnR h.next e h' v [a,b]∧Old h.next h h':=by
 have la:=rowL_len ha
 have lb:=rowL_len hb
 have hz:(List.replicate 2 zRow).flatten.length=68:=rfl
 refine bsl_own hw (z:=34) (n:=2) (cs:=rowsL [a,b]) ?_ (by rw [rowsL_len (by intro r hr;simp only [List.mem_cons,List.not_mem_nil,or_false] at hr;rcases hr with rfl | rfl;exact ha;exact hb)];rfl) (rowsL_cell _)
 have e1:putL (rowL a) 0 (List.replicate 2 zRow).flatten=rowL a++zRow:=by
  unfold putL
  rw [List.take_zero,List.nil_append,Nat.zero_add,la]
  congr 1
 have e2:putL (rowL b) 34 (rowL a++zRow)=rowL a++rowL b:=by
  unfold putL
  rw [List.take_left' la,List.drop_append,List.drop_of_length_le (by omega),lb,la]
  simp
 unfold fillW
 rw [if_pos ⟨rfl,la,by rw [hz];omega⟩]
 unfold fillW
 rw [if_pos ⟨rfl,lb,by show 34+34≤(putL (rowL a) 0 _).length;rw [e1,List.length_append,la];simp⟩]
 show fillW [] (putL (rowL b) 34 (putL (rowL a) 0 _))=_
 rw [e1,e2]
 show some _=some _
 rw [rowsL_cons,rowsL_one]
theorem sortAB:sortM [rowA,rowB]=[rowB,rowA]:=by kernel_rfl
theorem twiceBA:twiceM [rowB,rowA]=false:=by kernel_rfl
theorem buildE_AB:buildE [rowA,rowB]=0:=by
 unfold buildE
 rw [sortAB,twiceBA]
 rfl
theorem buildB_AB_len{pack:List Nat}(h32:pack.length=32):(buildB [rowA,rowB] pack).length=1184:=by
 unfold buildB
 rw [sortAB,twiceBA]
 show (buildM (flags [rowB,rowA]) pack).length=1184
 have hok:∀ x∈flags [rowB,rowA],x.1.ok:=flags_ok (by
  intro r hr
  simp only [List.mem_cons,List.not_mem_nil,or_false] at hr
  rcases hr with rfl | rfl
  ·exact rowB_ok
  ·exact rowA_ok)
 unfold buildM
 rw [List.length_append,bodyM_len hok h32,sumM_len]
 have e:nfar (flags [rowB,rowA])=1:=by kernel_rfl
 rw [e]
 rfl
theorem awake10_spec{F m:Nat}(hF:2000000<F){h:AH}(hw:h.WF)(hk:KT h):∃ h',runC (EE F) (m+211) nzae [] h=some (.bool true,h')∧Old h.next h h':=by
 rw [tzae]
 have hpos:=hk.pos hw
 have hokAB:∀ r∈[rowA,rowB],r.ok:=by
  intro r hr
  simp only [List.mem_cons,List.not_mem_nil,or_false] at hr
  rcases hr with rfl | rfl
  ·exact rowA_ok
  ·exact rowB_ok
 obtain ⟨v1,h1,e1,w1,o1⟩:=two_rows hw rowA_ok rowB_ok T_packidx_Row
 have hid:∀ n,(idA n).length=32:=fun n=>rfl
 obtain ⟨v2,h2,e2,w2,o2⟩:=Build_spec (F:=F) (m:=m) hF o1.wf (hk.old hpos o1) (p:=v1) (l:=[rowA,rowB]) ⟨w1.sl,hokAB⟩ (.inl (by simp)) (by simp) (pack:=idA 5) (hid 5) (idA_byte (by omega))
 have o12:=o1.trans (o2.weak o1.next)
 have hb8:=buildB_byte hokAB (idA_byte (show 5<256 by omega))
 have hbl:=buildB_len hokAB (hid 5)
 have hb1184:=buildB_AB_len (hid 5)
 obtain ⟨hpr,hst⟩:=build_back hokAB buildE_AB (hid 5) (idA_byte (show 5<256 by omega))
 rw [buildE_AB] at e2
 rw [sortAB] at hpr
 generalize buildB [rowA,rowB] (idA 5)=P at *
 have hfr:findR P (idA 1)=(rowB,0):=by
  unfold findR
  rw [hpr]
  rfl
 have b2:=w2.bs hb8
 obtain ⟨h3,e3,o3⟩:=find_spec (F:=F) (m:=m+205) hF o2.wf (hk.old hpos o12) b2 (by omega) (hid 1) (idA_byte (show 1<256 by omega))
 rw [hfr] at e3
 have o13:=o12.trans (o3.weak o12.next)
 obtain ⟨h4,t1,t2,t3,t4,t5⟩:=tmp_row o3.wf rowB_ok T_packidx_Row
 have o14:=o13.trans (t4.weak o13.next)
 have b4:=(b2.old o2.wf o3).old o3.wf t4
 obtain ⟨w5,h5,e5,y5,o5⟩:=parse_spec (F:=F) (m:=m+206) hF t4.wf (hk.old hpos o14) b4 (by omega)
 rw [hpr] at e5 y5
 obtain ⟨c1,c2,c3,c4⟩:=al_cells o5.wf (List.replicate 32 (.int .u8 0)) T_api_Id rfl (by simp)
 have c2':(al (List.replicate 32 (.int .u8 0)) T_api_Id h5).1=.ptr ⟨h5.next,32,0⟩:=c2
 generalize hh6:(al (List.replicate 32 (.int .u8 0)) T_api_Id h5).2=h6 at *
 obtain ⟨h7,p1,p2,p3⟩:=c1.put c4.wf (n:=32) (vs:=byteL (idA 5)) rfl rfl (byteL_cell _)
 have o57:Old h5.next h5 h7:=c4.trans (p3.old (Nat.le_refl _))
 have o47:Old h4.next h4 h7:=o5.trans (o57.weak o5.next)
 have t7:=t3.old t4.wf o47
 have b7:=b4.old t4.wf o47
 have hokBA:∀ r∈[rowB,rowA],r.ok:=by
  intro r hr
  simp only [List.mem_cons,List.not_mem_nil,or_false] at hr
  rcases hr with rfl | rfl
  ·exact rowB_ok
  ·exact rowA_ok
 have R7:Rs h7 w5 [rowB,rowA]:=⟨(y5.old o5.wf o57).sl,hokBA⟩
 obtain ⟨a,u1,u2⟩:=R7.at (i:=0) (r:=rowB) rfl
 have u1':ixS 34 w5 0=some (.ptr a):=u1
 have ep:ldA 32 (.ptr ⟨h5.next,32,0⟩) h7=some (.agg (byteL (idA 5))):=p2.ldA rfl
 have q1:((0:Int)==0)=true:=rfl
 have q2:(((rowB.pos:Nat):Int)==2147483648)=true:=rfl
 have q3:(((rowB.crc:Nat):Int)==9)=true:=rfl
 have q4:(((P.length:Nat):Int)==1184)=true:=by rw [hb1184];rfl
 have q5:((([rowB,rowA].length:Nat):Int)==2)=true:=rfl
 have eq1:eqW PP false T_api_Id (.agg (byteL rowB.id)) (.agg (byteL (idA 1)))=some (.bool true):=by rw [eqId rowB_ok.1 rfl];rfl
 have eq5:eqW PP false T_api_Id (.agg (byteL (idA 5))) (.agg (byteL (idA 5)))=some (.bool true):=by rw [eqId rfl rfl,dT rfl]
 have k2:bld [(0,1,(.int .u8 2))] (List.replicate 32 (.int .u8 0))=some (.agg (byteL (idA 2))):=rfl
 have k1:bld [(0,1,(.int .u8 1))] (List.replicate 32 (.int .u8 0))=some (.agg (byteL (idA 1))):=rfl
 have k5:bld [(0,1,(.int .u8 5))] (List.replicate 32 (.int .u8 0))=some (.agg (byteL (idA 5))):=rfl
 refine ⟨h7,?_,o14.trans (o47.weak o14.next)⟩
 simp -implicitDefEqProofs only [zae.fn,zae.c0,k2,k1,k5,bA_some,bld_A,bld_B,e1,cV_some,cxC,e2,ex0,ex1,bV_some,bI_some,e3,t1,t2,bS_some,e5,et0,et1,et2,c2',hh6,p1,q1,cond_true,fA_ptr,row_pos t7 rowB_ok,row_crc t7 rowB_ok,q2,q3,b7.1.len,q4,R7.1.len,q5,u1',fA_at,rid_of u2 rowB_ok,eq1,bB_some,ep,eq5,zae.ret]
 rfl
end Go.Proofs.YtcmhoboglapbdaaDoor
namespace Go.Proofs.YtcmhoboglapbdaaDoor
open Go Go.ChangeShapes Go.WideShapes Go.ChangeAt Go.RowKit Ev
theorem laidOut:laidOutB Tryd.prog=true:=by kernel_rfl
theorem GG_tab(l:List Tab)(pl:Nat→Spot)(e:Nat)(h:tabOf l 0=some ⟨0,kTab.map (V.int .u32),e⟩)(hp:pl 0=⟨0,0,64⟩)(g L:Nat)(hg:GG g=some L):∃ t,tabOf l g=some t∧t.vs.length=L∧(pl g).cb=g∧(pl g).off=0:=by
 cases g with
 | zero=>cases hg;exact ⟨_,h,rfl,by rw [hp],by rw [hp]⟩
 | succ g=>cases hg
end Go.Proofs.YtcmhoboglapbdaaDoor
namespace Go.Proofs.YtcmhoboglapbdaaDoor
open Go Go.ChangeShapes Go.WideShapes Go.ChangeAt Go.RowKit Go.WideElems Ev
def rowV(r:Row):List Value:=r.id.map (fun n:Nat=>Value.int .u8 (n:Int))++[.int .u32 (r.crc:Int),.int .u64 (r.pos:Int)]
theorem rowV_len{r:Row}(h:r.ok):(rowV r).length=34:=by unfold rowV;rw [List.length_append,List.length_map,h.1];rfl
theorem row_R{r:Row}{k:Nat}{v:V}(h:(rowL r)[k]?=some v):∃ u,(rowV r)[k]?=some u∧∀ ρ,R ρ v u:=by
 unfold rowL at h
 unfold rowV
 by_cases hk:k<r.id.length
 ·rw [List.getElem?_append_left (by rw [byteL_len];exact hk),byteL_get,List.getElem?_eq_getElem hk] at h
  rw [List.getElem?_append_left (by rw [List.length_map];exact hk),List.getElem?_map,List.getElem?_eq_getElem hk]
  cases h
  exact ⟨_,rfl,fun ρ=>rfl⟩
 ·rw [List.getElem?_append_right (by rw [byteL_len];omega),byteL_len] at h
  rw [List.getElem?_append_right (by rw [List.length_map];omega),List.length_map]
  generalize k-r.id.length=j at *
  match j,h with
  | 0,h=>cases h;exact ⟨_,rfl,fun ρ=>rfl⟩
  | 1,h=>cases h;exact ⟨_,rfl,fun ρ=>rfl⟩
  | j+2,h=>simp at h
theorem rowsL_get:∀ {l:List Row},(∀ r∈l,r.ok)→∀ {i k:Nat},k<34→(rowsL l)[i*34+k]?=(l[i]?).bind fun r=>(rowL r)[k]?:=by
 intro l
 induction l with
 | nil=>intro _ i k _;simp [rowsL]
 | cons x l ih =>
  intro hl i k hk
  have hx:=rowL_len (hl x (by simp))
  rw [rowsL_cons]
  cases i with
  | zero =>
   rw [Nat.zero_mul,Nat.zero_add,List.getElem?_append_left (by omega)];rfl
  | succ i =>
   rw [List.getElem?_append_right (by omega),show (i+1)*34+k-(rowL x).length=i*34+k by omega,ih (fun y hy=>hl y (by simp [hy])) hk]
   simp
section
structure RT (P:Program) (ts ti tr ta tb tc:TypeId) (f0 f1 f2:Field):Prop where
 us:P.underlying ts=some (.slice tr)
 ur:P.underlying tr=some (.struct #[f0,f1,f2])
 ui:P.underlying ti=some (.array 32 ta)
 ua:P.underlying ta=some (.int .u8)
 ub:P.underlying tb=some (.int .u32)
 uc:P.underlying tc=some (.int .u64)
 f0:f0.type=ti∧f0.offset=0
 f1:f1.type=tb∧f1.offset=32
 f2:f2.type=tc∧f2.offset=33
 ca:P.cellsOf ta=1
 ci:P.cellsOf ti=32
 cb:P.cellsOf tb=1
 cc:P.cellsOf tc=1
 cr:P.cellsOf tr=34
variable {H:Type} {enc:TypeId×Value→H} {P:Program} {W:World} {base:Nat} {sp:Nat→Bool} {held:Bool} {ts ti tr ta tb tc:TypeId} {f0 f1 f2:Field}
theorem id_cells(X:RT P ts ti tr ta tb tc f0 f1 f2){fuel:Nat}{cs:List Value}{x:DataW H×List MemPlace}(h:DataW.trod enc P W base sp held fuel ti cs=some x):∃ l:List Nat,l.length=32∧(∀ y∈l,y<256)∧cs=l.map (fun n:Nat=>Value.int .u8 (n:Int)):=by
 obtain ⟨xs,m,rfl,hx,hlen,hxl,hel⟩:=DataW.trod_array X.ui h
 rw [X.ci] at hlen
 have each:∀ i,i<32→∃ n:Nat,n<256∧cs[i]?=some (.int .u8 (n:Int)):=by
  intro i hi
  have h1:=hel i hi
  rw [X.ca,Nat.mul_one,List.getElem?_eq_getElem (show i<xs.length by omega)] at h1
  obtain ⟨z,h2,_,h3⟩:=DataW.trod_int X.ua h1
  have:=bounds_u8 h3
  refine ⟨z.toNat,by omega,?_⟩
  rw [List.take_one,List.head?_drop,List.getElem?_eq_getElem (show i<cs.length by omega)] at h2
  rw [List.getElem?_eq_getElem (show i<cs.length by omega)]
  simp only [Option.toList_some,List.cons.injEq,and_true] at h2
  rw [h2]
  exact congrArg (fun q=>some (Value.int .u8 q)) (by omega)
 refine ⟨cs.map fun | .int _ z=>z.toNat | _=>0,by rw [List.length_map];exact hlen,?_,?_⟩
 ·intro y hy
  obtain ⟨u,hu,rfl⟩:=List.mem_map.1 hy
  obtain ⟨i,hi,rfl⟩:=List.getElem_of_mem hu
  obtain ⟨n,h1,h2⟩:=each i (by omega)
  rw [List.getElem?_eq_getElem hi] at h2
  rw [Option.some.inj h2]
  simpa using h1
 ·rw [List.map_map]
  apply List.ext_getElem?
  intro i
  rw [List.getElem?_map]
  by_cases hi:i<32
  ·obtain ⟨n,_,h2⟩:=each i hi
   rw [h2]
   simp
  ·rw [List.getElem?_eq_none (by omega)];rfl
theorem row_cells(X:RT P ts ti tr ta tb tc f0 f1 f2){fuel:Nat}{cs:List Value}{x:DataW H×List MemPlace}(h:DataW.trod enc P W base sp held fuel tr cs=some x):∃ r:Row,r.ok∧cs=rowV r:=by
 obtain ⟨xs,m,rfl,hx,hlen,hxl,hel⟩:=DataW.trod_struct X.ur h
 rw [X.cr] at hlen
 have hxl':xs.length=3:=hxl
 have h0:=hel 0 f0 rfl
 have h1:=hel 1 f1 rfl
 have h2:=hel 2 f2 rfl
 rw [X.f0.1,X.f0.2,X.ci] at h0
 rw [X.f1.1,X.f1.2,X.cb] at h1
 rw [X.f2.1,X.f2.2,X.cc] at h2
 rw [List.getElem?_eq_getElem (show 0<xs.length by omega)] at h0
 rw [List.getElem?_eq_getElem (show 1<xs.length by omega)] at h1
 rw [List.getElem?_eq_getElem (show 2<xs.length by omega)] at h2
 obtain ⟨l,l1,l2,l3⟩:=id_cells X h0
 obtain ⟨z,z1,_,z2⟩:=DataW.trod_int X.ub h1
 obtain ⟨y,y1,_,y2⟩:=DataW.trod_int X.uc h2
 have bz:=bounds_u32 z2
 have by_:=bounds_u64 y2
 refine ⟨⟨l,z.toNat,y.toNat⟩,⟨l1,l2,(show z.toNat<4294967296 by omega),(show y.toNat<18446744073709551616 by omega)⟩,?_⟩
 have e:cs=(cs.drop 0).take 32++((cs.drop 32).take 1++(cs.drop 33).take 1):=by
  have e1:cs=cs.take 32++cs.drop 32:=(List.take_append_drop 32 cs).symm
  have e2:cs.drop 32=(cs.drop 32).take 1++(cs.drop 32).drop 1:=(List.take_append_drop 1 _).symm
  have e3:(cs.drop 33).take 1=cs.drop 33:=List.take_of_length_le (by rw [List.length_drop];omega)
  rw [List.drop_zero,e3]
  conv=>lhs;rw [e1,e2]
  rw [List.drop_drop]
 rw [e,l3,z1,y1]
 unfold rowV
 simp only [List.cons_append,List.nil_append]
 rw [show ((z.toNat:Nat):Int)=z by omega,show ((y.toNat:Nat):Int)=y by omega]
theorem list_of{α:Type}{Q:Nat→α→Prop}:∀ (n:Nat),(∀ i,i<n→∃ r,Q i r)→∃ l:List α,l.length=n∧∀ i r,l[i]?=some r→Q i r:=by
 intro n
 induction n with
 | zero=>intro _;exact ⟨[],rfl,fun i r h=>by simp at h⟩
 | succ n ih =>
  intro h
  obtain ⟨l,h1,h2⟩:=ih fun i hi=>h i (by omega)
  obtain ⟨r,hr⟩:=h n (by omega)
  refine ⟨l++[r],by rw [List.length_append,h1];rfl,fun i x hx=>?_⟩
  by_cases hi:i<n
  ·rw [List.getElem?_append_left (by omega)] at hx
   exact h2 i x hx
  ·rw [List.getElem?_append_right (by omega),h1] at hx
   obtain ⟨j,rfl⟩:∃ j,i=n+j:=⟨i-n,by omega⟩
   rw [show n+j-n=j by omega] at hx
   cases j with
   | zero=>cases hx;exact hr
   | succ j=>simp at hx
theorem rows_in(X:RT P ts ti tr ta tb tc f0 f1 f2){v:Value}{d:DataW H}{ps:List MemPlace}
  (hval:Value.okWide P W .any base ts v) (h:DataW.Trod enc P W 0 (fun _=>true) true ts v d ps) :
  ∃ l:List Row,(∀ x∈l,x.ok)∧((l=[]∧((∀ ρ,R ρ .nilslice v)∨(∀ ρ,R ρ .loose v))) ∨
   (l≠[]∧∃ cb off S e' cap elems spare,v=.slice (some ⟨cb,off,none⟩) l.length cap∧l.length≤cap∧off+cap*34≤S∧d=.slice elems spare∧elems.length=l.length∧∀ g,Tab.Fits ⟨g,rowsL l,e'⟩ ⟨cb,off,S⟩ W)):=by
 obtain ⟨a1,len,cap,rfl⟩:=okWide_slice X.us hval
 obtain ⟨fuel,hf⟩:=h
 rcases DataW.trod_slice X.us hf with ⟨hcs,hx⟩ | ⟨a,len',cap',elems,rest,n,_,hcs,hx,_,hl,hm,hlen,hel,hsp,_⟩
 ·simp [Value.cells] at hcs
  obtain ⟨rfl,rfl,rfl⟩:=hcs
  exact ⟨[],by simp,.inl ⟨rfl,.inl fun ρ=>rfl⟩⟩
 ·simp [Value.cells] at hcs
  obtain ⟨rfl,rfl,rfl⟩:=hcs
  obtain ⟨hrl,hr⟩:=hsp rfl
  by_cases h0:len=0
  ·subst h0
   exact ⟨[],by simp,.inl ⟨rfl,.inr fun ρ=>⟨_,_,rfl⟩⟩⟩
  ·have each:∀ i,i<cap→∃ r:Row,r.ok∧∀ k,k<34→W.cell? ((a.add (i*34)).add k)=(rowV r)[k]?:=by
    intro i hi
    have hb:∃ y,(W.cells? 0 (a.add (i*P.cellsOf tr)) (P.cellsOf tr)).bind (DataW.trod enc P W 0 (fun _=>true) true n tr)=some y:=by
     by_cases hi':i<len
     ·exact ⟨_,(hel i hi').trans (List.getElem?_eq_getElem (by omega))⟩
     ·have:=hr (i-len) (by omega)
      rw [show len+(i-len)=i by omega] at this
      exact ⟨_,this.trans (List.getElem?_eq_getElem (by omega))⟩
    obtain ⟨y,hb⟩:=hb
    rw [X.cr,Option.bind_eq_some_iff] at hb
    obtain ⟨cs',hcs,hy⟩:=hb
    obtain ⟨r,r1,rfl⟩:=row_cells X hy
    refine ⟨r,r1,fun k hk=>?_⟩
    exact (World.cells?_some hcs).2.2 k hk
   obtain ⟨l,l1,l2⟩:=list_of len fun i hi=>each i (by omega)
   have hok:∀ r∈l,r.ok:=by
    intro r hr
    obtain ⟨i,hi,rfl⟩:=List.getElem_of_mem hr
    exact (l2 i _ (List.getElem?_eq_getElem hi)).1
   obtain ⟨ab,ao,spot⟩:=a
   obtain ⟨r0,q0,q1⟩:=each 0 (by omega)
   have hspot:spot=none:=by
    have:=q1 0 (by omega)
    rw [List.getElem?_eq_getElem (by rw [rowV_len q0];omega)] at this
    simpa [Addr.add] using World.cell?_spot this
   subst hspot
   have hc0:=q1 0 (by omega)
   rw [Addr.add_lit,Addr.add_lit,List.getElem?_eq_getElem (by rw [rowV_len q0];omega)] at hc0
   obtain ⟨c,e',lo,hi,g1,g2⟩:=cell?_fits hc0
   have at_:∀ i k r u,k<34→(∀ k,k<34→W.cell? (((⟨ab,ao,none⟩:Addr).add (i*34)).add k)=(rowV r)[k]?)→(rowV r)[k]?=some u→c[ao+(i*34+k)]?=some u:=by
    intro i k r u hk hh hu
    have h1:=hh k hk
    rw [Addr.add_lit,Addr.add_lit,hu,Nat.add_assoc] at h1
    obtain ⟨c',e'',lo',hi',g3,g4⟩:=cell?_fits h1
    rw [g1] at g3
    cases g3
    exact g4
   have hS:ao+cap*34≤c.size:=by
    obtain ⟨r1,p0,p1⟩:=each (cap-1) (by omega)
    have:=at_ (cap-1) 33 r1 _ (by omega) p1 (List.getElem?_eq_getElem (by rw [rowV_len p0];omega))
    have:=(Array.getElem?_eq_some_iff.1 this).1
    omega
   refine ⟨l,hok,.inr ⟨fun e=>?_,ab,ao,c.size,e',cap,elems.map (·.1),rest.map (·.1),by rw [l1],by omega,hS,?_,by rw [List.length_map,l1,hlen],fun g=>⟨c,lo,hi,g1,rfl,?_,fun ρ j v hv=>?_⟩⟩⟩
   ·rw [e] at l1;exact h0 l1.symm
   ·simp only [Prod.mk.injEq] at hx
    exact hx.1
   ·simp only [rowsL_len hok]
    omega
   ·simp only at hv ⊢
    have hj:j=j / 34*34+j % 34:=by omega
    rw [hj,rowsL_get hok (Nat.mod_lt _ (by omega)),Option.bind_eq_some_iff] at hv
    obtain ⟨r,v1,v2⟩:=hv
    obtain ⟨u,u1,u2⟩:=row_R v2
    refine ⟨u,?_,u2 ρ⟩
    rw [hj]
    exact at_ _ _ r u (Nat.mod_lt _ (by omega)) (l2 _ _ v1).2 u1
end
theorem RR:∃ f0 f1 f2,RT Tryd.prog 22 24 48 5 42 43 f0 f1 f2:=⟨_,_,_,Tryd.underlying22,Tryd.underlying48,Tryd.underlying24,Tryd.underlying5,Tryd.underlying42,Tryd.underlying43,⟨rfl,rfl⟩,⟨rfl,rfl⟩,⟨rfl,rfl⟩,by kernel_rfl,by kernel_rfl,by kernel_rfl,by kernel_rfl,by kernel_rfl⟩
theorem tab_rs{n:Nat}{l:List Tab}{g:Nat}{m:List Row}{e:Nat}(h:tabOf l g=some ⟨g,rowsL m,e⟩)(hm:∀ r∈m,r.ok):Rs (tabsH n l) (.slice ⟨g,m.length*34,0⟩ m.length m.length false 34) m:=by
 refine ⟨⟨rowsL_len hm,.inr ⟨_,_,_,rfl,Nat.le_refl _,?_⟩⟩,hm⟩
 exact tab_read h (rowsL_len hm).symm
theorem tab_RR{l:List Tab}{pl:Nat→Spot}{g e:Nat}{m:List Row}(h:tabOf l g=some ⟨g,rowsL m,e⟩)(hm:∀ r∈m,r.ok){cb off S cap:Nat}(hp:pl g=⟨cb,off,S⟩)(hcap:m.length≤cap)(hS:off+cap*34≤S) :
  R (tabsRho l pl) (.slice ⟨g,m.length*34,0⟩ m.length m.length false 34) (.slice (some ⟨cb,off,none⟩) m.length cap):=by
 have h1:=tabsRho_of (pl:=pl) h
 simp only [rowsL_len hm,hp] at h1
 refine ⟨cb,-(off:Int),S,cap,?_,h1,?_,hcap,(by intro h;cases h),Nat.le_refl _,?_⟩
 ·simp
 ·simp only;omega
 ·simp only;omega
theorem walk_rows{W:World}(hL:Lib.TabIs Tryd.prog W "codicil/sha.k" .u32 kTab){v:Value}{f:FuncId}{args:List V}{vs:List Value}(hA:∀ ρ,RL ρ args vs)(l:List Row)(hl8:∀ x∈l,x.ok)
  (hv:(l=[]∧((∀ ρ,R ρ .nilslice v)∨(∀ ρ,R ρ .loose v)))∨(l≠[]∧∃ cb off S e' cap,v=.slice (some ⟨cb,off,none⟩) l.length cap∧l.length≤cap∧off+cap*34≤S∧∀ g,Tab.Fits ⟨g,rowsL l,e'⟩ ⟨cb,off,S⟩ W))
  (hrun:∀ (h:AH) (p:V),h.WF→KT h→Rs h p l→∃ F n h',runC (EE F) n f (p :: args) h=some (.bool true,h')) :
  Calls Tryd.prog f (v :: vs).toArray W fun e w=>e=.returned (.bool true)∧Same W w:=by
 obtain ⟨e,he⟩:=tab_fits hL gK
 have fin:∀ {F n:Nat} {tl:List Tab} {pl:Nat→Spot} {m:Nat} {p:V} {h':AH},(∀ t∈tl,t.g<m)→(∀ t∈tl,t.Fits (pl t.g) W)→tabOf tl 0=some ⟨0,kTab.map (V.int .u32),e⟩→pl 0=⟨0,0,64⟩→R (tabsRho tl pl) p v→runC (EE F) n f (p :: args) (tabsH m tl)=some (.bool true,h') →
   Calls Tryd.prog f (v :: vs).toArray W fun e w=>e=.returned (.bool true)∧Same W w:=by
  intro F n tl pl m p h' h1 h2 h3 h4 h5 h6
  refine (tab_calls (EE_ok F) (n:=n) (f:=f) (l:=tl) (pl:=pl) (m:=m) (W:=W) (args:=p :: args) (args':=v :: vs) h1 h2 (GG_tab tl pl e h3 h4) (show RL (tabsRho tl pl) (p :: args) (v :: vs) from ⟨v,vs,rfl,h5,hA _⟩) h6).mono ?_
  rintro x w ⟨u,ρ',rfl,q1,_,_,q2⟩
  exact ⟨by rw [show u=.bool true from q1],q2⟩
 have kt:∀ {m:Nat} {tl:List Tab},tabOf tl 0=some ⟨0,kTab.map (V.int .u32),e⟩→KT (tabsH m tl):=fun h=>tab_read h rfl
 rcases hv with ⟨rfl,hv⟩ | ⟨hne,cb,off,S,e',cap,rfl,hcap,hS,hfit⟩
 ·have hw:(tabsH 1 [⟨0,kTab.map (V.int .u32),e⟩]).WF:=tabs_wf (by intro t ht;simp only [List.mem_singleton] at ht;subst ht;exact Nat.one_pos)
  have hb:∀ p,(p=.nilslice∨p=.loose)→Rs (tabsH 1 [⟨0,kTab.map (V.int .u32),e⟩]) p []:=fun p hp=>⟨⟨rfl,.inl ⟨rfl,hp⟩⟩,by simp⟩
  rcases hv with hv | hv
  ·obtain ⟨F,n,h',hr⟩:=hrun _ _ hw (kt rfl) (hb .nilslice (.inl rfl))
   exact fin (pl:=fun _=>⟨0,0,64⟩) (by intro t ht;simp only [List.mem_singleton] at ht;subst ht;exact Nat.one_pos) (by intro t ht;simp only [List.mem_singleton] at ht;subst ht;exact he) rfl rfl (hv _) hr
  ·obtain ⟨F,n,h',hr⟩:=hrun _ _ hw (kt rfl) (hb .loose (.inr rfl))
   exact fin (pl:=fun _=>⟨0,0,64⟩) (by intro t ht;simp only [List.mem_singleton] at ht;subst ht;exact Nat.one_pos) (by intro t ht;simp only [List.mem_singleton] at ht;subst ht;exact he) rfl rfl (hv _) hr
 ·have hm:∀ t∈([⟨1,rowsL l,e'⟩,⟨0,kTab.map (V.int .u32),e⟩]:List Tab),t.g<2:=by
   intro t ht
   simp only [List.mem_cons,List.not_mem_nil,or_false] at ht
   rcases ht with rfl | rfl
   ·exact Nat.lt_succ_self 1
   ·exact Nat.two_pos
  obtain ⟨F,n,h',hr⟩:=hrun _ _ (tabs_wf hm) (kt (m:=2) (tl:=[⟨1,rowsL l,e'⟩,⟨0,kTab.map (V.int .u32),e⟩]) rfl) (tab_rs (g:=1) (e:=e') rfl hl8)
  refine fin (pl:=fun g=>bif Nat.beq g 0 then ⟨0,0,64⟩ else ⟨cb,off,S⟩) hm ?_ rfl rfl (tab_RR (g:=1) (e:=e') rfl hl8 rfl hcap hS) hr
  intro t ht
  simp only [List.mem_cons,List.not_mem_nil,or_false] at ht
  rcases ht with rfl | rfl
  ·exact hfit 1
  ·exact he
end Go.Proofs.YtcmhoboglapbdaaDoor
namespace Go.Proofs.YtcmhoboglapbdaaDoor
open Go Ev
theorem id_box{h:AH}(hw:h.WF){l:List Nat}(hl:l.length=32):∃ h',absBox T_api_Id (.agg (byteL l)) h=some (.ptr ⟨h.next,32,0⟩,h')∧Cells h' h.next T_api_Id (byteL l)∧h'.next=h.next+1∧Old h.next h h':=by
 obtain ⟨h1,e1,c1,n1,o1⟩:=box_cells hw (byteL l) T_api_Id (byteL_cell l)
 exact ⟨h1,by rw [e1,byteL_len,hl],c1,n1,o1⟩
end Go.Proofs.YtcmhoboglapbdaaDoor
namespace Go.Proofs.YtcmhoboglapbdaaDoor
open Go Ev
theorem own_dis{n0 z e n z' e' m:Nat}{h h':AH}{a b:V}{cs ds:List V}(ha:Own n0 z e h a n cs)(hw:h.WF){n1:Nat}(hn:h.next≤n1)(hb:Own n1 z' e' h' b m ds):Dis a b:=fun k=>by
 by_cases hk:notIn a k
 ·exact .inl hk
 ·exact .inr (hb.fresh (Nat.lt_of_lt_of_le (ha.alive hw hk) hn))
theorem fill_a{F m:Nat}{Jn:zad.P35→AH→Res}{Jr:zad.PR→AH→Res}{n0 n e:Nat}{h:AH}(hw:h.WF){a:V}{cs:List V}(ha:Own n0 1 e h a n cs)(hF:n<F)(hn:n≤9223372036854775806){x pk b c d:V}{out:Res→Prop}
  (ho:∀ g,Old n0 h g→(∀ k,notIn a k→g.get k=h.get k)→out (Jn (x,pk,b,c,d,()) g)) :
  out (loopN zad.P26 F (fun t h n=>zad.l13 (cx F m) n Jn Jr t h) (x,pk,a,b,c,d,(n:Int),0,()) h):=by
 refine loop_rule (S:=zad.P26) (out:=out)
  (fun k s g=>∃ (i:Nat) (ds:List V),i+k=n∧s=(x,pk,a,b,c,d,(n:Int),(i:Int),())∧Own n0 1 e g a n ds∧Old n0 h g∧(∀ k,notIn a k→g.get k=h.get k)) ?_ ?_ n F _ _ ⟨0,cs,by omega,rfl,ha,Old.refl hw _,fun _ _=>rfl⟩ hF
 ·rintro k s g n' ⟨i,ds,hi,rfl,w,o,q⟩
  refine .inl ?_
  obtain ⟨p,g',s1,s2,s3,s4,s5⟩:=w.set o.wf (i:=(i:Int)) (by omega) (by omega) (w:=.int .u8 238) rfl rfl
  refine ⟨_,g',?_,i+1,_,by omega,rfl,s3,o.trans s4,fun k hk=>(s5 k hk).trans (q k hk)⟩
  have c1:decide ((i:Int)<(n:Int))=true:=by rw [decide_eq_true_eq];omega
  have i3:IntKind.wrap .i64 ((i:Int)+1)=((i+1:Nat):Int):=by rw [wr_i64 (by omega) (by omega)];omega
  simp only [zad.l13,zad.c13,zad.k13,c1,cond_true,zad.r14,zad.c14,s1,bV_some,s2,bS_some,zad.r16,zad.c16,wr,i3]
 ·rintro s g n' ⟨i,ds,hi,rfl,w,o,q⟩
  obtain rfl:i=n:=by omega
  have c1:decide ((i:Int)<(i:Int))=false:=by rw [decide_eq_false_iff_not];omega
  have:=ho g o q
  simp only [zad.l13,zad.c13,zad.k13,c1,cond_false]
  exact this
def row99:Row:=⟨z32,0,99⟩
theorem bld_99:bld [(33,1,(.int .u64 99))] (List.replicate 32 (.int .u8 0)++[.int .u32 0]++[.int .u64 0])=some (.agg (rowL row99)):=rfl
theorem fill_c{F m:Nat}{Jn:zad.P45→AH→Res}{Jr:zad.PR→AH→Res}{n0 n e:Nat}{h:AH}(hw:h.WF){c:V}{cs:List V}(hc:Own n0 34 e h c n cs)(hF:n<F)(hn:n≤9223372036854775806){x pk b d:V}{out:Res→Prop}
  (ho:∀ g,Old n0 h g→(∀ k,notIn c k→g.get k=h.get k)→out (Jn (x,pk,b,d,()) g)) :
  out (loopN zad.P36 F (fun t h n=>zad.l18 (cx F m) n Jn Jr t h) (x,pk,b,c,d,(n:Int),0,()) h):=by
 refine loop_rule (S:=zad.P36) (out:=out)
  (fun k s g=>∃ (i:Nat) (ds:List V),i+k=n∧s=(x,pk,b,c,d,(n:Int),(i:Int),())∧Own n0 34 e g c n ds∧Old n0 h g∧(∀ k,notIn c k→g.get k=h.get k)) ?_ ?_ n F _ _ ⟨0,cs,by omega,rfl,hc,Old.refl hw _,fun _ _=>rfl⟩ hF
 ·rintro k s g n' ⟨i,ds,hi,rfl,w,o,q⟩
  refine .inl ?_
  obtain ⟨p,g',s1,s2,s3,s4,s5⟩:=w.set o.wf (i:=(i:Int)) (by omega) (by omega) (w:=.agg (rowL row99)) rfl rfl
  refine ⟨_,g',?_,i+1,_,by omega,rfl,s3,o.trans s4,fun k hk=>(s5 k hk).trans (q k hk)⟩
  have c1:decide ((i:Int)<(n:Int))=true:=by rw [decide_eq_true_eq];omega
  have i3:IntKind.wrap .i64 ((i:Int)+1)=((i+1:Nat):Int):=by rw [wr_i64 (by omega) (by omega)];omega
  simp only [zad.l18,zad.c18,zad.k18,c1,cond_true,zad.r19,zad.c19,bld_99,bA_some,s1,bV_some,s2,bS_some,zad.r21,zad.c21,wr,i3]
 ·rintro s g n' ⟨i,ds,hi,rfl,w,o,q⟩
  obtain rfl:i=n:=by omega
  have c1:decide ((i:Int)<(i:Int))=false:=by rw [decide_eq_false_iff_not];omega
  have:=ho g o q
  simp only [zad.l18,zad.c18,zad.k18,c1,cond_false]
  exact this
theorem buildB_err{l:List Row}{pack:List Nat}(h:buildE l≠0):buildB l pack=[]:=by
 unfold buildE at h
 unfold buildB
 split at h
 ·rename_i h1;rw [if_pos h1]
 ·rename_i h1
  rw [if_neg h1]
  split at h
  ·rename_i h2;rw [if_pos h2]
  ·exact absurd rfl h
theorem parse_none:parseR []=([],z32,5):=parseR_e (p:=[]) (by
 have:szM []=(0,0,5):=rfl
 rw [this];decide)
theorem read_id{l:List Row}(hok:∀ r∈l,r.ok){pack:List Nat}(h32:pack.length=32)(h8:∀ x∈pack,x<256):(parseR (buildB l pack)).2.1.length=32∧(parseR (buildB l pack)).1.length≤l.length∧∀ r∈(parseR (buildB l pack)).1,r.ok:=by
 by_cases he:buildE l=0
 ·rw [(build_back hok he h32 h8).1]
  exact ⟨h32,by rw [sortM_len];exact Nat.le_refl _,sortM_ok hok⟩
 ·rw [buildB_err he,parse_none]
  exact ⟨rfl,Nat.zero_le _,fun r hr=>by cases hr⟩
theorem id_put{h:AH}(hw:h.WF){l:List Nat}(hl:l.length=32):∃ h',(al (List.replicate 32 (.int .u8 0)) T_api_Id h).1=.ptr ⟨h.next,32,0⟩∧st 32 (.ptr ⟨h.next,32,0⟩) (.agg (byteL l)) (al (List.replicate 32 (.int .u8 0)) T_api_Id h).2=some h'∧ldA 32 (.ptr ⟨h.next,32,0⟩) h'=some (.agg (byteL l))∧Cells h' h.next T_api_Id (byteL l)∧Old h.next h h':=by
 obtain ⟨c1,c2,c3,c4⟩:=al_cells hw (List.replicate 32 (.int .u8 0)) T_api_Id rfl (by simp)
 obtain ⟨h',p1,p2,p3⟩:=c1.put c4.wf (n:=32) (vs:=byteL l) rfl (by rw [byteL_len,hl]) (byteL_cell _)
 exact ⟨h',c2,p1,p2.ldA (by rw [byteL_len,hl]),p2,c4.trans (p3.old (Nat.le_refl _))⟩
theorem memory_spec{F m:Nat}{h:AH}(hw:h.WF)(hk:KT h){p:V}{l:List Row}(hp:Rs h p l)(hlen:l.length≤2932031007317)(hF:2000000+l.length<F){pack:List Nat}(h32:pack.length=32)(h8:∀ x∈pack,x<256) :
  ∃ h',runC (EE F) (m+212) nzad [p,.agg (byteL pack)] h=some (.bool true,h'):=by
 rw [tzad]
 have hpos:=hk.pos hw
 obtain ⟨h1,e1,c1,n1,o1⟩:=id_box hw h32
 obtain ⟨h2,e2,o2⟩:=awake10_spec (F:=F) (m:=m) (by omega) o1.wf (hk.old hpos o1)
 have o12:=o1.trans (o2.weak o1.next)
 have P2:=hp.old hw o12
 by_cases hb:100<l.length
 ·have x1:decide ((l.length:Int)>100)=true:=by rw [decide_eq_true_eq];omega
  refine ⟨h2,?_⟩
  simp -implicitDefEqProofs only [zad.fn,zad.c0,zad.k0,zad.c1,zad.k1,zad.r3,zad.c3,zad.k3,zad.c4,cxC,e1,cV_some,e2,cB_some,Bool.not_true,cond_false,P2.1.len,bI_some,x1,cond_true,zad.ret]
  rfl
 ·have x1:decide ((l.length:Int)>100)=false:=by rw [decide_eq_false_iff_not];omega
  have hb8:=buildB_byte hp.2 h8
  have hbl:=buildB_len hp.2 h32
  obtain ⟨r32,rlen,rok⟩:=read_id hp.2 h32 h8
  obtain ⟨v3,h3,e3,w3,o3⟩:=rows_spec (F:=F) (n:=m+210) o2.wf P2 hlen (by omega)
  have o13:=o12.trans (o3.weak o12.next)
  have c3:=(c1.old o1.wf o2).old o2.wf o3
  obtain ⟨v4,h4,e4,w4,o4⟩:=Build_spec (F:=F) (m:=m+1) (by omega) o3.wf (hk.old hpos o13) ⟨w3.sl,hp.2⟩ (.inl (by omega)) hlen h32 h8
  have o14:=o13.trans (o4.weak o13.next)
  have c4:=c3.old o3.wf o4
  obtain ⟨v5,h5,e5,w5,o5⟩:=Build_spec (F:=F) (m:=m+1) (by omega) o4.wf (hk.old hpos o14) ⟨(w3.old o3.wf o4).sl,hp.2⟩ (.inl (by omega)) hlen h32 h8
  have o15:=o14.trans (o5.weak o14.next)
  obtain ⟨v6,h6,e6,w6,o6⟩:=parse_spec (F:=F) (m:=m+207) (by omega) o5.wf (hk.old hpos o15) (w5.bs hb8) (by omega)
  have o16:=o15.trans (o6.weak o15.next)
  obtain ⟨h7,t1,t2,_,_,o7⟩:=id_put o6.wf r32
  have o17:=o16.trans (o7.weak o16.next)
  have d57:=o6.trans (o7.weak o6.next)
  obtain ⟨v8,h8',e8,w8,o8⟩:=parse_spec (F:=F) (m:=m+207) (by omega) o7.wf (hk.old hpos o17) ((w5.old o5.wf d57).bs hb8) (by omega)
  have o18:=o17.trans (o8.weak o17.next)
  obtain ⟨h9,t3,t4,_,_,o9⟩:=id_put o8.wf r32
  have o19:=o18.trans (o9.weak o18.next)
  have d35:=o4.trans (o5.weak o4.next)
  have d37:=d35.trans (d57.weak d35.next)
  have d38:=d37.trans (o8.weak d37.next)
  have d39:=d38.trans (o9.weak d38.next)
  obtain ⟨v10,h10,e10,w10,o10⟩:=of_spec (F:=F) (n:=m+210) o9.wf ⟨(w3.old o3.wf d39).sl,hp.2⟩ hlen (by omega)
  have d2_10:=(o3.trans (d39.weak o3.next)).trans (o10.weak (Nat.le_trans o3.next d39.next))
  have d1_10:=o12.trans (d2_10.weak o12.next)
  have P10:=hp.old hw d1_10
  have e11:=same10_spec (F:=F) (n:=m+210) (h:=h10) (p:=v10) (q:=p) (l:=l) (m:=l) ⟨w10.sl,hp.2⟩ P10 (by omega) (by omega)
  have d4_10:Old h4.next h4 h10:=((((o5.trans (o6.weak o5.next)).trans (o7.weak (Nat.le_trans o5.next o6.next))).trans (o8.weak (Nat.le_trans (Nat.le_trans o5.next o6.next) o7.next))).trans (o9.weak (Nat.le_trans (Nat.le_trans (Nat.le_trans o5.next o6.next) o7.next) o8.next))).trans (o10.weak (Nat.le_trans (Nat.le_trans (Nat.le_trans (Nat.le_trans o5.next o6.next) o7.next) o8.next) o9.next))
  have d5_10:Old h5.next h5 h10:=(((o6.trans (o7.weak o6.next)).trans (o8.weak (Nat.le_trans o6.next o7.next))).trans (o9.weak (Nat.le_trans (Nat.le_trans o6.next o7.next) o8.next))).trans (o10.weak (Nat.le_trans (Nat.le_trans (Nat.le_trans o6.next o7.next) o8.next) o9.next))
  have d6_10:Old h6.next h6 h10:=((o7.trans (o8.weak o7.next)).trans (o9.weak (Nat.le_trans o7.next o8.next))).trans (o10.weak (Nat.le_trans (Nat.le_trans o7.next o8.next) o9.next))
  have d8_10:Old h8'.next h8' h10:=o9.trans (o10.weak o9.next)
  have a10:=w4.old o4.wf d4_10
  have b10:=w5.old o5.wf d5_10
  have k10:=w6.old o6.wf d6_10
  have f10:=w8.old o8.wf d8_10
  have dab:Dis v4 v5:=own_dis w4 o4.wf (Nat.le_refl _) w5
  have dac:Dis v4 v6:=own_dis w4 o4.wf o5.next w6
  have dad:Dis v4 v8:=own_dis w4 o4.wf (Nat.le_trans o5.next d57.next) w8
  have dcb:Dis v6 v5:=(own_dis w5 o5.wf (Nat.le_refl _) w6).symm
  have dcd:Dis v6 v8:=own_dis w6 o6.wf o7.next w8
  have n3_10:h2.next≤h3.next:=o3.next
  have l3:=c3.ldA (n:=32) (by rw [byteL_len,h32])
  have l4:=c4.ldA (n:=32) (by rw [byteL_len,h32])
  have e0:zad.fn (cx F (m+211)) p (byteL pack) h=loopN zad.P26 F (fun t h n=>zad.l13 (cx F (m+211)) n (zad.r17 (cx F (m+211)) zad.ret zad.ret) zad.ret t h) (p,.ptr ⟨h.next,32,0⟩,v4,v5,v6,v8,((buildB l pack).length:Int),0,()) h10:=by
   simp -implicitDefEqProofs only [zad.fn,zad.c0,zad.k0,zad.c1,zad.k1,zad.r3,zad.c3,zad.k3,cxC,e1,cV_some,e2,cB_some,Bool.not_true,cond_false,P2.1.len,bI_some,x1,zad.r5,zad.c5,e3,l3,bA_some,e4,ex0,ex1,bV_some,l4,e5,e6,et0,et1,et2,t1,t2,bS_some,e8,t3,t4,zad.k9,zad.c10,e10,e11,decide_true,zad.k10,zad.r12,zad.c12,a10.sl.len,zad.k12]
   rfl
  rw [e0]
  refine fill_a (out:=fun x=>∃ h',x=some (.bool true,h')) o10.wf a10 (by omega) (by omega) fun g og qg=>?_
  have bg:=b10.keep fun k hk=>qg k ((dab k).resolve_right hk)
  have kg:=k10.keep fun k hk=>qg k ((dac k).resolve_right hk)
  have fg:=f10.keep fun k hk=>qg k ((dad k).resolve_right hk)
  have e12:zad.r17 (cx F (m+211)) zad.ret zad.ret (p,.ptr ⟨h.next,32,0⟩,v5,v6,v8,()) g=loopN zad.P36 F (fun t h n=>zad.l18 (cx F (m+211)) n (zad.r22 (cx F (m+211)) zad.ret zad.ret) zad.ret t h) (p,.ptr ⟨h.next,32,0⟩,v5,v6,v8,((parseR (buildB l pack)).1.length:Int),0,()) g:=by
   simp -implicitDefEqProofs only [zad.r17,zad.c17,kg.sl.len,bI_some,zad.k17]
   rfl
  rw [e12]
  refine fill_c (out:=fun x=>∃ h',x=some (.bool true,h')) og.wf kg (by omega) (by omega) fun g' og' qg'=>?_
  have bg':=bg.keep fun k hk=>qg' k ((dcb k).resolve_right hk)
  have fg':=fg.keep fun k hk=>qg' k ((dcd k).resolve_right hk)
  have n2:h.next≤h2.next:=o12.next
  have n5:h.next≤h5.next:=Nat.le_trans (Nat.le_trans (Nat.le_trans n2 o3.next) o4.next) o5.next
  have n1':h.next<h3.next:=by have:=o2.next;have:=o3.next;omega
  have n5':h.next<h5.next:=by have:=o4.next;have:=o5.next;omega
  have D:=(d1_10.trans (og.weak (Nat.le_of_lt n1'))).trans (og'.weak n5)
  have c10:=(c4.old o4.wf d4_10).mono (og.get _ n1')
  have l5:=(c10.mono (og'.get _ n5')).ldA (n:=32) (by rw [byteL_len,h32])
  obtain ⟨v11,h11,e13,w11,o11⟩:=docBuild_spec (F:=F) (d:=m+207) (by omega) og'.wf (hp.old hw D) hlen h32 h8
  have e14:=same_spec (F:=F) (n:=m+210) ((bg'.old og'.wf o11).bs hb8) (w11.bs hb8)
  have D11:=D.trans (o11.weak D.next)
  by_cases hE:buildE l=0
  ·have hbk:=(build_back hp.2 hE h32 h8).1
   rw [hbk] at fg'
   obtain ⟨v12,h12,e15,w12,o12'⟩:=of_spec (F:=F) (n:=m+210) o11.wf (l:=sortM l) ⟨(fg'.old og'.wf o11).sl,sortM_ok hp.2⟩ (by rw [sortM_len];exact hlen) (by rw [sortM_len];omega)
   have D12:=D11.trans (o12'.weak D11.next)
   obtain ⟨v13,h13,e16,w13,o13'⟩:=sorted_spec (F:=F) (n:=m+209) (by omega) o12'.wf (hp.old hw D12) hlen (by omega)
   have e17:=same10_spec (F:=F) (n:=m+210) (h:=h13) (p:=v12) (q:=v13) (l:=sortM l) (m:=sortM l) ⟨(w12.old o12'.wf o13').sl,sortM_ok hp.2⟩ ⟨w13.sl,sortM_ok hp.2⟩ (by rw [sortM_len];omega) (by rw [sortM_len];omega)
   have r1:(buildE l != 0)=false:=by rw [hE];rfl
   refine ⟨h13,?_⟩
   simp -implicitDefEqProofs only [zad.r22,zad.c22,cxC,l5,bA_some,e13,cV_some,ex0,ex1,bV_some,bI_some,e14,decide_true,cB_some,cond_true,r1,cond_false,e15,e16,e17,zad.ret]
   rfl
  ·have r1:(buildE l != 0)=true:=bne_iff_ne.2 hE
   refine ⟨h11,?_⟩
   simp -implicitDefEqProofs only [zad.r22,zad.c22,cxC,l5,bA_some,e13,cV_some,ex0,ex1,bV_some,bI_some,e14,decide_true,cB_some,cond_true,r1,zad.ret]
   rfl
end Go.Proofs.YtcmhoboglapbdaaDoor
namespace Go.Proofs.YtcmhoboglapbdaaDoor.packidxMemory
open Go Go.ChangeShapes Go.WideShapes Go.ChangeAt Go.RowKit Ev
set_option maxRecDepth 100000 in
theorem contract(H:Type)(enc:TypeId×Value→H)(W:World)(base:Nat)(args:Array Value)(ds gs:List (DataW H))(before:List MemPlace)
  (hval:∀ (j:Nat) t v,Tryd.f7.params[j]?=some t→args[j]?=some v→Value.okWide Tryd.prog W .any base t v)
  (hW:DataW.Whole enc Tryd.prog Tryd.f7.params.toList Rows.packidxMemorySpec.vars false W args.toList ds gs before)
  (hsz:(DataW.weightsEach Tryd.prog (Tryd.f7.params.toList++[]) (ds++gs)).all (·≤reachBytes)=true) (hL:laidMetH Tryd.prog Rows.packidxMemoryRow.laid W) :
  Calls Tryd.prog 7 args W fun e W'=>∃ v,e=.returned v∧Rows.packidxMemorySpec.post enc Tryd.prog Tryd.f7 false true false false W args v W':=by
 have hW':=hW
 have hlt:=hW.lt
 obtain ⟨p,q,hA0,hV,rfl,hfz,hnd⟩:=hW
 have hA:DataW.TrodAll enc Tryd.prog W 0 (fun _=>true) true Tryd.f7.params.toList args.toList ds p:=hA0
 rw [Tryd.params7] at hA hval hsz
 obtain ⟨v0,v1,d0,d1,p0,p1,rfl,rfl,rfl,h0,h1⟩:=trodAll_two hA
 obtain ⟨rfl,rfl⟩:=trodVars_none hV
 obtain ⟨f0,f1,f2,X⟩:=RR
 obtain ⟨l,hl8,hl⟩:=rows_in X (hval 0 22 v0 rfl rfl) h0
 have hlen:l.length≤2932031007317:=by
  rcases hl with ⟨rfl,_⟩ | ⟨_,cb,off,S,e',cap,elems,spare,rfl,_,_,rfl,hel,_⟩
  ·simp
  ·have:=sized_slice hsz (j:=0) (t:=22) (e:=48) rfl rfl Tryd.underlying22
   have hb:Tryd.prog.bytesOf 48=48:=by kernel_rfl
   rw [hb] at this
   have hr:reachBytes=140737488351232:=rfl
   omega
 obtain ⟨z1,l1,w1,rfl⟩:=arr_in (n:=32) Tryd.underlying24 Tryd.underlying5 (by kernel_rfl) (by kernel_rfl) (hval 1 24 v1 rfl rfl) h1
 obtain ⟨b1,c1⟩:=bytes_of w1
 have walk:=walk_rows (f:=7) (args:=[.agg (byteL (z1.map Int.toNat))]) (vs:=[.agg (z1.map (Value.int .u8)).toArray]) (table rfl hL) (fun ρ=>⟨_,_,rfl,by rw [← b1];exact agg_R ρ .u8 z1,rfl⟩) l hl8 (by
  rcases hl with h | ⟨h1,cb,off,S,e',cap,elems,spare,h2,h3,h4,_,_,h5⟩
  ·exact .inl h
  ·exact .inr ⟨h1,cb,off,S,e',cap,h2,h3,h4,h5⟩) (fun h p hw hk hb=>by
   obtain ⟨h',hr⟩:=memory_spec (F:=l.length+2000001) (m:=0) hw hk hb hlen (by omega) (by rw [List.length_map];exact l1) c1
   exact ⟨_,_,h',hr⟩)
 refine walk.mono fun e W' ⟨he,hst⟩=>?_
 subst he
 exact ⟨_,rfl,post_stays (pa:=p0++p1) (pv:=[]) hW' (fun _ _ _=>trodAll_cons_mk (shut_bool Tryd.underlying4 _) trodAll_mk0)
  (fun sp hsp=>trodAll_mk2 (arg_stays hst laidOut (by kernel_rfl) (of_decide_eq_true (by kernel_rfl)) h0 (fun x hx=>hlt x (by simp [hx])) sp (fun x hx=>hsp x (by simp [hx]))) (arg_stays hst laidOut (by kernel_rfl) (of_decide_eq_true (by kernel_rfl)) h1 (fun x hx=>hlt x (by simp [hx])) sp (fun x hx=>hsp x (by simp [hx]))))
  (fun _ _=>rfl) (by simp) hst.stays (ok_one (by kernel_rfl) rfl (okWide_bool_mk Tryd.underlying4 _))⟩
theorem laid_met(os:Os):laidMet Tryd.prog Rows.packidxMemoryRow.laid ((laidWorld os).forCall (fun _ _=>0) ⟨#[],#[.slice none 0 0,.agg (Array.replicate 32 (.int .u8 0))],[]⟩).memory :=
 laidMet_of_run' 70 (by kernel_rfl) (by kernel_rfl)
theorem reads(os:Os){H:Type}(enc:TypeId×Value→H):∃ places,DataW.whole enc Tryd.prog ((laidWorld os).forCall (fun _ _=>0) ⟨#[],#[.slice none 0 0,.agg (Array.replicate 32 (.int .u8 0))],[]⟩).memory Tryd.f7.params.toList Rows.packidxMemorySpec.vars false (#[.slice none 0 0,.agg (Array.replicate 32 (.int .u8 0))]:Array Value).toList 8=some ([.nil,.agg (List.replicate 32 (.lit (.int .u8 0)))],[],places) :=
 ⟨[],by kernel_rfl⟩
set_option maxRecDepth 100000 in
theorem lifted(os:Os)(started:os.Started)(H:Type)(enc:TypeId×Value→H)(F:Stop.Interp) :
  ReturnsInHanded {} Tryd.checked os 7 .any ((OpenSpec.ofChange Rows.packidxMemorySpec).preRow enc Tryd.prog Tryd.f7 Rows.packidxMemoryRow.domain false Rows.packidxMemoryRow.laid) (((OpenSpec.ofChange Rows.packidxMemorySpec).at F).post enc Tryd.prog Tryd.f7 false true false false):=by
 obtain ⟨places,hx⟩:=reads os enc
 refine returnsInHanded_of_row (C:=Tryd.checked) (s:=OpenSpec.ofChange Rows.packidxMemorySpec) own started (by kernel_rfl) Tryd.func7
  (witness_row_at (enc:=enc) (C:=Tryd.checked) false (laidWorld os) #[.slice none 0 0,.agg (Array.replicate 32 (.int .u8 0))] rfl (by kernel_rfl) (by kernel_rfl) (by kernel_rfl)
   (OpenSpec.preRow_of_cond 8 hx (by kernel_rfl) (fun k hk=>by cases hk) (by kernel_rfl) (laid_met os))) ?_
 intro W base args ds gs before hval hW _ _ hsz hL _ _
 exact contract H enc W base args ds gs before hval hW hsz hL
theorem said:Rows.PackidxMemorySaid :=
 OpenClaim.holds_of_cond 7 Tryd.f7 rfl rfl rfl rfl rfl rfl rfl ⟨rfl,rfl,rfl,rfl,rfl⟩ rfl rfl rfl rfl rfl (by kernel_rfl) Tryd.func7 (by kernel_rfl)
  (of_decide_eq_true (by kernel_rfl)) (by unfold Func.isWrapper;first | (rw [if_pos (by decide +kernel)];kernel_rfl) | (rw [if_neg (by decide +kernel)];exact ⟨rfl,rfl⟩))
  (fun os started H enc _ F=>by rw [OpenClaim.pre_eq_preRow];exact lifted os started H enc F)
theorem plain(f:FuncId)(fn:Func)(hf:Tryd.pinned.checked.prog.funcNamed "codicil/codicillaw10.PackidxMemory"=some f)(hfn:Tryd.pinned.checked.prog.funcs[f]?=some fn) :
  false=Tryd.pinned.checked.prog.looks []∧∀ (j:Nat) t,fn.params[j]?=some t→Tryd.pinned.checked.prog.wantsStandIn t=false:=by
 obtain rfl:f=7:=Option.some.inj ((show Tryd.prog.funcNamed "codicil/codicillaw10.PackidxMemory"=some 7 by kernel_rfl).symm.trans hf) |>.symm
 obtain rfl:fn=Tryd.f7:=(Option.some.inj (Tryd.func7.symm.trans hfn)).symm
 refine ⟨by kernel_rfl,fun j t ht=>?_⟩
 rw [Tryd.params7] at ht
 have hm:=Array.mem_of_getElem? ht
 simp only [List.mem_toArray,List.mem_cons,List.not_mem_nil,or_false] at hm
 rcases hm with rfl | rfl
 ·exact (show Tryd.prog.wantsStandIn 22=false by kernel_rfl)
 ·exact (show Tryd.prog.wantsStandIn 24=false by kernel_rfl)
theorem card:Rows.PackidxMemoryCardSaid :=
 Claim7.holds_tied_plain_at .later [] _ _ _ _ said (fun _ h=>by cases h) (by kernel_rfl) (fun _ h=>by cases h) packidxMemory_row_tie rfl ⟨rfl,rfl⟩ (by kernel_rfl) rfl plain (by kernel_rfl)
end Go.Proofs.YtcmhoboglapbdaaDoor.packidxMemory
