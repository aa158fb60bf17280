/-
  Part of a proof, written in a short hand by a program of this workplace. No condition.
-/
import Derived.Test.YtcmhoboglapbdaaDoorQSB
set_option linter.unusedVariables false
set_option linter.unusedSimpArgs false
namespace Go.Proofs.YtcmhoboglapbdaaDoor
open Go Ev
namespace zaf
noncomputable def B:Code:=cBody (PP.funcs.getD 17 default)
abbrev K2:Slots:=[(0,.any)]
abbrev P2:=V×Unit
abbrev Q2:=P2→AH→Res
abbrev K4:Slots:=[(0,.any),(3,.any)]
abbrev P4:=V×V×Unit
abbrev Q4:=P4→AH→Res
abbrev K6:Slots:=[(3,.any),(6,.any),(7,.int .i64),(8,.int .i64)]
abbrev P6:=V×V×Int×Int×Unit
abbrev Q6:=P6→AH→Res
abbrev K8:Slots:=[(3,.any),(6,.any),(7,.int .i64),(8,.int .i64),(9,.bool)]
abbrev P8:=V×V×Int×Int×Bool×Unit
abbrev Q8:=P8→AH→Res
abbrev K10:Slots:=[(3,.any),(5,.any),(6,.any),(7,.int .i64),(8,.int .i64)]
abbrev P10:=V×V×V×Int×Int×Unit
abbrev Q10:=P10→AH→Res
abbrev K15:Slots:=[(3,.any)]
abbrev P15:=V×Unit
abbrev Q15:=P15→AH→Res
abbrev K16:Slots:=[(2,.any)]
abbrev P16:=V×Unit
abbrev Q16:=P16→AH→Res
noncomputable def lv:=lvT [(2,K2),(4,K4),(6,K6),(8,K8),(9,K6),(10,K10),(12,K6),(13,K6),(14,K6),(7,K6),(15,K15),(16,K16)]
abbrev KR:Slots:=[(2,.any)]
abbrev PR:=V×Unit
abbrev QR:=PR→AH→Res
noncomputable abbrev X (e:Cx):=exL (cfgS e) lv 24 e.F
noncomputable abbrev Y (e:Cx):=runL (cfgS e) lv 24 e.F
noncomputable abbrev C (p:List Nat):=cP p B
noncomputable def ret:Q16
| (a,_),h=>finW [some a] h
theorem ret_eq(e:Cx):fin (cfgS e) (jbi lv) (PP.funcs.getD 17 default)=jk K16 ret:=by kernel_rfl
noncomputable def c0(e:Cx)(J:Q4):V×Unit→AH→Res
| (a,_),h =>
 J (a,(.nilslice),()) h
theorem c0_eq(e a h n ee r):Y e (peel 2 (C [0])).1 (iniT [a] 0 .leaf) h n ee r=c0 e (fun t h=>n (mkT K4 t) h) (a,()) h:=by kernel_rfl
noncomputable def c7(e:Cx)(J:Q16):Q15
| (a,_),h =>
 J (a,()) h
theorem c7_eq(e a h n ee r):Y e (peel 1 (C [3])).1 (mkT K15 (a,())) h n ee r=c7 e (fun t h=>n (mkT K16 t) h) (a,()) h:=by kernel_rfl
noncomputable def r7(e:Cx)(Jn:Q16)(Jr:Q16)(t:P15)(h:AH):Res:=c7 e Jr t h
theorem r7_eq(e Jn Jr):∀ t h,X e (C [3]) (mkT K15 t) h (jk K16 Jn) (exK []) (jk K16 Jr)=r7 e Jn Jr t h
| (a,_),h=>nd_chain' (X:=C [3]) (Y:=(C [4])) 1 (L:=K16) (S:=fun J=>c7 e J (a,()) h) (Q:=Jr) (by kernel_rfl) (fun n=>c7_eq e a h n (exK []) (jk K16 Jr)) (fun t h=>by kernel_rfl)
noncomputable def c2(e:Cx)(J:Q6):Q4
| (a,b,_),h =>
 bI .i64 (lenS a) h fun c d =>
 J (b,a,c,0,()) d
theorem c2_eq(e a b h n ee r):Y e (peel 1 (C [2,0])).1 (mkT K4 (a,b,())) h n ee r=c2 e (fun t h=>n (mkT K6 t) h) (a,b,()) h:=by kernel_rfl
noncomputable def c3(e:Cx)(J:Q8):Q6
| (a,b,c,d,_),h =>
 J (a,b,c,d,(decide (d<c)),()) h
theorem c3_eq(e a b c d h n ee r):Y e (peel 1 (C [2,3])).1 (mkT K6 (a,b,c,d,())) h n ee r=c3 e (fun t h=>n (mkT K8 t) h) (a,b,c,d,()) h:=by kernel_rfl
noncomputable def c6(e:Cx)(J:Q6):Q6
| (a,b,c,d,_),h =>
 J (a,b,c,(wr .i64 (d+1)),()) h
theorem c6_eq(e a b c d h n ee r):Y e (peel 1 (C [2,6])).1 (mkT K6 (a,b,c,d,())) h n ee r=c6 e (fun t h=>n (mkT K6 t) h) (a,b,c,d,()) h:=by kernel_rfl
noncomputable def r6(e:Cx)(Jn:Q6)(J0:Q15)(Jr:Q16)(t:P6)(h:AH):Res:=c6 e Jn t h
theorem r6_eq(e Jn J0 Jr):∀ t h,X e (C [2,6]) (mkT K6 t) h (jk K6 Jn) (exK [(0,(jk K15 J0))]) (jk K16 Jr)=r6 e Jn J0 Jr t h
| (a,b,c,d,_),h=>nd_chain' (X:=C [2,6]) (Y:=.skip) 1 (L:=K6) (S:=fun J=>c6 e J (a,b,c,d,()) h) (Q:=Jn) (by kernel_rfl) (fun n=>c6_eq e a b c d h n (exK [(0,(jk K15 J0))]) (jk K16 Jr)) (fun t h=>by kernel_rfl)
noncomputable def c4(e:Cx)(J:Q6):Q6
| (a,b,c,d,_),h =>
 bV (ixS 34 b d) h fun f g =>
 bA (ldA 34 f g) g fun i j =>
 let k:=(al (List.replicate 32 (.int .u8 0)++[.int .u32 0]++[.int .u64 0]) jak j).1
 let l:=(al (List.replicate 32 (.int .u8 0)++[.int .u32 0]++[.int .u64 0]) jak j).2
 bS (st 34 k (.agg i) l) fun m =>
 bV (fA 0 k) m fun o p =>
 bA (ldA 32 o p) p fun q s =>
 bV (fA 32 k) s fun u v =>
 bI .u32 (ld u v) v fun w y =>
 bV (fA 33 k) y fun z A =>
 bI .u64 (ld z A) A fun D E =>
 bA (bld [(0,32,(.agg q)),(32,1,(.int .u32 w)),(33,1,(.int .u64 D))] (List.replicate 32 (.int .u8 0)++[.int .u32 0]++[.int .u64 0])) E fun G H =>
 cV (bsl 34 1 [(0,34,(.agg G))] (List.replicate 32 (.int .u8 0)++[.int .u32 0]++[.int .u64 0]) jac H) fun I L =>
 cV (app 34 48 jac a I L) fun M N =>
 J (M,b,c,d,()) N
theorem c4_eq(e a b c d h n ee r):Y e (peel 2 (C [2,5,1])).1 (mkT K6 (a,b,c,d,())) h n ee r=c4 e (fun t h=>n (mkT K6 t) h) (a,b,c,d,()) h:=by kernel_rfl
noncomputable def r4(e:Cx)(Jn:Q6)(J0:Q15)(Jr:Q16)(t:P6)(h:AH):Res:=c4 e (r6 e Jn J0 Jr) t h
theorem r4_eq(e Jn J0 Jr):∀ t h,X e (C [2,5]) (mkT K6 t) h (jk K6 Jn) (exK [(0,(jk K15 J0))]) (jk K16 Jr)=r4 e Jn J0 Jr t h
| (c,d,f,g,_),h=>(nd_norm' (X:=(C [2,5])) (a:=C [2,5,0]) (b:=C [2,6]) (L:=K6) (by kernel_rfl) (by kernel_rfl) (by kernel_rfl) (SB:=(r6 e Jn J0 Jr)) (r6_eq e Jn J0 Jr) _ _).trans (nd_block' (X:=C [2,5,0]) (id:=1) (b:=C [2,5,1]) (by kernel_rfl) (nd_chain' (X:=C [2,5,1]) (Y:=.skip) 2 (L:=K6) (S:=fun J=>c4 e J (c,d,f,g,()) h) (Q:=(r6 e Jn J0 Jr)) (by kernel_rfl) (fun n=>c4_eq e c d f g h n (exK [(1,(jk K6 (r6 e Jn J0 Jr))),(0,(jk K15 J0))]) (jk K16 Jr)) (fun t h=>by kernel_rfl)))
noncomputable def k3(e:Cx)(Jn:Q6)(J0:Q15)(Jr:Q16):Q8
| (a,b,c,d,f,_),h =>
 bif f then (r4 e Jn J0 Jr) (a,b,c,d,()) h else J0 (a,()) h
theorem k3_eq(e Jn J0 Jr):∀ t h,X e (C [2,4]) (mkT K8 t) h (jk K6 Jn) (exK [(0,(jk K15 J0))]) (jk K16 Jr)=k3 e Jn J0 Jr t h
| (c,d,f,g,i,_),h=>(nd_norm' (X:=(C [2,4])) (a:=C [2,4,0]) (b:=C [2,5]) (L:=K6) (by kernel_rfl) (by kernel_rfl) (by kernel_rfl) (SB:=(r4 e Jn J0 Jr)) (r4_eq e Jn J0 Jr) _ _).trans (nd_cond' (X:=C [2,4,0]) (a:=C [2,4,0,0]) (b:=C [2,4,1]) (t:=i) (x:=.tmp 9) (by kernel_rfl) (by kernel_rfl) (by kernel_rfl) (by kernel_rfl))
noncomputable def l3(e:Cx)(Jn:Q6)(J0:Q15)(Jr:Q16)(t:P6)(h:AH):Res:=c3 e (k3 e Jn J0 Jr) t h
theorem l3_eq(e Jn J0 Jr):∀ t h,X e (C [2,3]) (mkT K6 t) h (jk K6 Jn) (exK [(0,(jk K15 J0))]) (jk K16 Jr)=l3 e Jn J0 Jr t h
| (a,b,c,d,_),h=>nd_chain' (X:=C [2,3]) (Y:=(C [2,4])) 1 (L:=K8) (S:=fun J=>c3 e J (a,b,c,d,()) h) (Q:=(k3 e Jn J0 Jr)) (by kernel_rfl) (fun n=>c3_eq e a b c d h n (exK [(0,(jk K15 J0))]) (jk K16 Jr)) (k3_eq e Jn J0 Jr)
noncomputable def k2(e:Cx)(Jn:Q15)(Jr:Q16)(t:P6)(h:AH):Res:=jaw (P6) e.F (fun t h n=>l3 e n Jn Jr t h) t h
theorem k2_eq(e Jn Jr):∀ t h,X e (C [2,1]) (mkT K6 t) h (jk K15 Jn) (exK []) (jk K16 Jr)=k2 e Jn Jr t h
| (a,c,d,f,_),h=>nd_block' (X:=C [2,1]) (id:=0) (b:=C [2,2]) (by kernel_rfl) ((nd_loop' (X:=C [2,2]) (b:=C [2,3]) (L:=K6) (by kernel_rfl) (by kernel_rfl) (SB:=fun n=>l3 e n Jn Jr) (fun n=>l3_eq e n Jn Jr) _ _).trans (by kernel_rfl))
noncomputable def k1(e:Cx)(Jn:Q16)(Jr:Q16)(t:P4)(h:AH):Res:=c2 e (k2 e (r7 e Jn Jr) Jr) t h
theorem k1_eq(e Jn Jr):∀ t h,X e (C [2]) (mkT K4 t) h (jk K16 Jn) (exK []) (jk K16 Jr)=k1 e Jn Jr t h
| (c,d,_),h=>(nd_norm' (X:=(C [2])) (a:=C [2,0]) (b:=C [3]) (L:=K15) (by kernel_rfl) (by kernel_rfl) (by kernel_rfl) (SB:=(r7 e Jn Jr)) (r7_eq e Jn Jr) _ _).trans (nd_chain' (X:=C [2,0]) (Y:=(C [2,1])) 1 (L:=K6) (S:=fun J=>c2 e J (c,d,()) h) (Q:=(k2 e (r7 e Jn Jr) Jr)) (by kernel_rfl) (fun n=>c2_eq e c d h n (exK []) (jk K16 Jr)) (k2_eq e (r7 e Jn Jr) Jr))
noncomputable def fn(e:Cx)(a:V)(h:AH):Res :=
 c0 e (k1 e ret ret) (a,()) h
theorem run(e:Cx)(a:V)(h:AH):execFn (cfgS e) (jbi lv) e.F nzaf [a] h=fn e a h:=by
 refine (fn_eq (c:=cfgS e) (lv:=lv) (PP.funcs.getD 17 default) B (by kernel_rfl) (by kernel_rfl) (Nat.le_of_ble_eq_true (by kernel_rfl))).trans ?_
 rw [ret_eq]
 exact nd_chain' (X:=C [0]) (Y:=(C [2])) 2 (L:=K4) (S:=fun J=>c0 e J (a,()) h) (Q:=(k1 e ret ret)) (by kernel_rfl) (fun n=>c0_eq e a h n (exK []) (jk K16 ret)) (k1_eq e ret ret)
end zaf
namespace zak
noncomputable def B:Code:=cBody (PP.funcs.getD 18 default)
abbrev K2:Slots:=[(0,.any),(3,.any),(4,.any)]
abbrev P2:=V×V×V×Unit
abbrev Q2:=P2→AH→Res
abbrev K4:Slots:=[(3,.any),(4,.any),(6,.any),(8,.int .i64)]
abbrev P4:=V×V×V×Int×Unit
abbrev Q4:=P4→AH→Res
abbrev K6:Slots:=[(3,.any),(4,.any),(6,.any),(8,.int .i64),(18,.bool)]
abbrev P6:=V×V×V×Int×Bool×Unit
abbrev Q6:=P6→AH→Res
abbrev K8:Slots:=[(4,.any),(5,.int .i64)]
abbrev P8:=V×Int×Unit
abbrev Q8:=P8→AH→Res
abbrev K9:Slots:=[(3,.any),(4,.any),(6,.any)]
abbrev P9:=V×V×V×Unit
abbrev Q9:=P9→AH→Res
abbrev K10:Slots:=[(4,.any),(6,.any),(9,.int .i64),(10,.bool)]
abbrev P10:=V×V×Int×Bool×Unit
abbrev Q10:=P10→AH→Res
abbrev K12:Slots:=[(4,.any),(6,.any),(9,.int .i64),(28,.bool)]
abbrev P12:=V×V×Int×Bool×Unit
abbrev Q12:=P12→AH→Res
abbrev K15:Slots:=[(4,.any),(6,.any),(9,.int .i64)]
abbrev P15:=V×V×Int×Unit
abbrev Q15:=P15→AH→Res
noncomputable def lv:=lvT [(2,K2),(4,K4),(6,K6),(8,K8),(9,K9),(10,K10),(12,K12),(14,K8),(15,K15),(16,K8)]
abbrev KR:Slots:=[(4,.any),(5,.any)]
abbrev PR:=V×V×Unit
abbrev QR:=PR→AH→Res
noncomputable abbrev X (e:Cx):=exL (cfgS e) lv 34 e.F
noncomputable abbrev Y (e:Cx):=runL (cfgS e) lv 34 e.F
noncomputable abbrev C (p:List Nat):=cP p B
noncomputable def ret:QR
| (a,b,_),h=>finW [ldA 34 a h,some b] h
theorem ret_eq(e:Cx):fin (cfgS e) (jbi lv) (PP.funcs.getD 18 default)=jk KR ret:=by kernel_rfl
noncomputable def c0(e:Cx)(J:Q4):V×List V×Unit→AH→Res
| (a,b,_),h =>
 cV (absBox jab (.agg b) h) fun c d =>
 let f:=(al (List.replicate 32 (.int .u8 0)++[.int .u32 0]++[.int .u64 0]) jak d).1
 let g:=(al (List.replicate 32 (.int .u8 0)++[.int .u32 0]++[.int .u64 0]) jak d).2
 cV (e.C nzam [a] g) fun i j =>
 bV (jat i 0) j fun k l =>
 bA (jat i 1) l fun m o =>
 bI .i64 (jat i 2) o fun p q =>
 let s:=(al (List.replicate 32 (.int .u8 0)) jab q).1
 let u:=(al (List.replicate 32 (.int .u8 0)) jab q).2
 bS (st 32 s (.agg m) u) fun v =>
 J (c,f,k,p,()) v
theorem c0_eq(e a b h n ee r):Y e (peel 2 (C [0])).1 (iniT [a,(.agg b)] 0 .leaf) h n ee r=c0 e (fun t h=>n (mkT K4 t) h) (a,b,()) h:=by kernel_rfl
noncomputable def c4(e:Cx)(J:Q10):Q9
| (a,b,c,_),h =>
 bA (ldA 32 a h) h fun d f =>
 cV (e.C nzbj [c,(.agg d),(.func 40 [] [])] f) fun g i =>
 bI .i64 (jat g 0) i fun j k =>
 bB (jat g 1) k fun l m =>
 J (b,c,j,l,()) m
theorem c4_eq(e a b c h n ee r):Y e (peel 1 (C [3])).1 (mkT K9 (a,b,c,())) h n ee r=c4 e (fun t h=>n (mkT K10 t) h) (a,b,c,()) h:=by kernel_rfl
noncomputable def c7(e:Cx)(J:Q8):Q15
| (a,b,c,_),h =>
 bV (ixS 34 b c) h fun d f =>
 bA (ldA 34 d f) f fun g i =>
 bS (st 34 a (.agg g) i) fun j =>
 J (a,0,()) j
theorem c7_eq(e a b c h n ee r):Y e (peel 1 (C [5])).1 (mkT K15 (a,b,c,())) h n ee r=c7 e (fun t h=>n (mkT K8 t) h) (a,b,c,()) h:=by kernel_rfl
noncomputable def r7(e:Cx)(Jn:QR)(Jr:QR)(t:P15)(h:AH):Res:=c7 e (fun | (a,b,_),c=>Jr (a,(.int .i64 b),()) c) t h
theorem r7_eq(e Jn Jr):∀ t h,X e (C [5]) (mkT K15 t) h (jk KR Jn) (exK []) (jk KR Jr)=r7 e Jn Jr t h
| (a,b,c,_),h=>nd_chain' (X:=C [5]) (Y:=(C [6])) 1 (L:=K8) (S:=fun J=>c7 e J (a,b,c,()) h) (Q:=fun | (d,f,_),g=>Jr (d,(.int .i64 f),()) g) (by kernel_rfl) (fun n=>c7_eq e a b c h n (exK []) (jk KR Jr)) (fun | (d,f,_),g=>by kernel_rfl)
noncomputable def c5(e:Cx)(J:Q12):Q10
| (a,b,c,d,_),h =>
 J (a,b,c,(!d),()) h
theorem c5_eq(e a b c d h n ee r):Y e (peel 1 (C [4,0])).1 (mkT K10 (a,b,c,d,())) h n ee r=c5 e (fun t h=>n (mkT K12 t) h) (a,b,c,d,()) h:=by kernel_rfl
noncomputable def c6(e:Cx)(J:Q8):Q12
| (a,b,c,d,_),h =>
 bA (bld [] (List.replicate 32 (.int .u8 0)++[.int .u32 0]++[.int .u64 0])) h fun f g =>
 bS (st 34 a (.agg f) g) fun i =>
 J (a,7,()) i
theorem c6_eq(e a b c d h n ee r):Y e (peel 1 (C [4,1,0])).1 (mkT K12 (a,b,c,d,())) h n ee r=c6 e (fun t h=>n (mkT K8 t) h) (a,b,c,d,()) h:=by kernel_rfl
noncomputable def k5(e:Cx)(Jn:Q15)(Jr:QR):Q12
| (a,b,c,d,_),h =>
 bif d then c6 e (fun | (f,g,_),i=>Jr (f,(.int .i64 g),()) i) (a,b,c,d,()) h else Jn (a,b,c,()) h
theorem k5_eq(e Jn Jr):∀ t h,X e (C [4,1]) (mkT K12 t) h (jk K15 Jn) (exK []) (jk KR Jr)=k5 e Jn Jr t h
| (c,d,f,g,_),h=>nd_cond' (X:=C [4,1]) (a:=C [4,1,0]) (b:=C [4,2]) (t:=g) (x:=.tmp 28) (by kernel_rfl) (by kernel_rfl) (nd_chain' (X:=C [4,1,0]) (Y:=(C [4,1,1])) 1 (L:=K8) (S:=fun J=>c6 e J (c,d,f,g,()) h) (Q:=fun | (i,j,_),k=>Jr (i,(.int .i64 j),()) k) (by kernel_rfl) (fun n=>c6_eq e c d f g h n (exK []) (jk KR Jr)) (fun | (i,j,_),k=>by kernel_rfl)) (by kernel_rfl)
noncomputable def k4(e:Cx)(Jn:QR)(Jr:QR)(t:P10)(h:AH):Res:=c5 e (k5 e (r7 e Jn Jr) Jr) t h
theorem k4_eq(e Jn Jr):∀ t h,X e (C [4]) (mkT K10 t) h (jk KR Jn) (exK []) (jk KR Jr)=k4 e Jn Jr t h
| (c,d,f,g,_),h=>(nd_norm' (X:=(C [4])) (a:=C [4,0]) (b:=C [5]) (L:=K15) (by kernel_rfl) (by kernel_rfl) (by kernel_rfl) (SB:=(r7 e Jn Jr)) (r7_eq e Jn Jr) _ _).trans (nd_chain' (X:=C [4,0]) (Y:=(C [4,1])) 1 (L:=K12) (S:=fun J=>c5 e J (c,d,f,g,()) h) (Q:=(k5 e (r7 e Jn Jr) Jr)) (by kernel_rfl) (fun n=>c5_eq e c d f g h n (exK []) (jk KR Jr)) (k5_eq e (r7 e Jn Jr) Jr))
noncomputable def r4(e:Cx)(Jn:QR)(Jr:QR)(t:P9)(h:AH):Res:=c4 e (k4 e Jn Jr) t h
theorem r4_eq(e Jn Jr):∀ t h,X e (C [3]) (mkT K9 t) h (jk KR Jn) (exK []) (jk KR Jr)=r4 e Jn Jr t h
| (a,b,c,_),h=>nd_chain' (X:=C [3]) (Y:=(C [4])) 1 (L:=K10) (S:=fun J=>c4 e J (a,b,c,()) h) (Q:=(k4 e Jn Jr)) (by kernel_rfl) (fun n=>c4_eq e a b c h n (exK []) (jk KR Jr)) (k4_eq e Jn Jr)
noncomputable def c2(e:Cx)(J:Q6):Q4
| (a,b,c,d,_),h =>
 J (a,b,c,d,(d != 0),()) h
theorem c2_eq(e a b c d h n ee r):Y e (peel 1 (C [2,0])).1 (mkT K4 (a,b,c,d,())) h n ee r=c2 e (fun t h=>n (mkT K6 t) h) (a,b,c,d,()) h:=by kernel_rfl
noncomputable def c3(e:Cx)(J:Q8):Q6
| (a,b,c,d,f,_),h =>
 bA (bld [] (List.replicate 32 (.int .u8 0)++[.int .u32 0]++[.int .u64 0])) h fun g i =>
 bS (st 34 b (.agg g) i) fun j =>
 J (b,d,()) j
theorem c3_eq(e a b c d f h n ee r):Y e (peel 1 (C [2,1,0])).1 (mkT K6 (a,b,c,d,f,())) h n ee r=c3 e (fun t h=>n (mkT K8 t) h) (a,b,c,d,f,()) h:=by kernel_rfl
noncomputable def k2(e:Cx)(Jn:Q9)(Jr:QR):Q6
| (a,b,c,d,f,_),h =>
 bif f then c3 e (fun | (g,i,_),j=>Jr (g,(.int .i64 i),()) j) (a,b,c,d,f,()) h else Jn (a,b,c,()) h
theorem k2_eq(e Jn Jr):∀ t h,X e (C [2,1]) (mkT K6 t) h (jk K9 Jn) (exK []) (jk KR Jr)=k2 e Jn Jr t h
| (c,d,f,g,i,_),h=>nd_cond' (X:=C [2,1]) (a:=C [2,1,0]) (b:=C [2,2]) (t:=i) (x:=.tmp 18) (by kernel_rfl) (by kernel_rfl) (nd_chain' (X:=C [2,1,0]) (Y:=(C [2,1,1])) 1 (L:=K8) (S:=fun J=>c3 e J (c,d,f,g,i,()) h) (Q:=fun | (j,k,_),l=>Jr (j,(.int .i64 k),()) l) (by kernel_rfl) (fun n=>c3_eq e c d f g i h n (exK []) (jk KR Jr)) (fun | (j,k,_),l=>by kernel_rfl)) (by kernel_rfl)
noncomputable def k1(e:Cx)(Jn:QR)(Jr:QR)(t:P4)(h:AH):Res:=c2 e (k2 e (r4 e Jn Jr) Jr) t h
theorem k1_eq(e Jn Jr):∀ t h,X e (C [2]) (mkT K4 t) h (jk KR Jn) (exK []) (jk KR Jr)=k1 e Jn Jr t h
| (c,d,f,g,_),h=>(nd_norm' (X:=(C [2])) (a:=C [2,0]) (b:=C [3]) (L:=K9) (by kernel_rfl) (by kernel_rfl) (by kernel_rfl) (SB:=(r4 e Jn Jr)) (r4_eq e Jn Jr) _ _).trans (nd_chain' (X:=C [2,0]) (Y:=(C [2,1])) 1 (L:=K6) (S:=fun J=>c2 e J (c,d,f,g,()) h) (Q:=(k2 e (r4 e Jn Jr) Jr)) (by kernel_rfl) (fun n=>c2_eq e c d f g h n (exK []) (jk KR Jr)) (k2_eq e (r4 e Jn Jr) Jr))
noncomputable def fn(e:Cx)(a:V)(b:List V)(h:AH):Res :=
 c0 e (k1 e ret ret) (a,b,()) h
theorem run(e:Cx)(a:V)(b:List V)(h:AH):execFn (cfgS e) (jbi lv) e.F nzak [a,(.agg b)] h=fn e a b h:=by
 refine (fn_eq (c:=cfgS e) (lv:=lv) (PP.funcs.getD 18 default) B (by kernel_rfl) (by kernel_rfl) (Nat.le_of_ble_eq_true (by kernel_rfl))).trans ?_
 rw [ret_eq]
 exact nd_chain' (X:=C [0]) (Y:=(C [2])) 2 (L:=K4) (S:=fun J=>c0 e J (a,b,()) h) (Q:=(k1 e ret ret)) (by kernel_rfl) (fun n=>c0_eq e a b h n (exK []) (jk KR ret)) (k1_eq e ret ret)
end zak
namespace zbb
noncomputable def B:Code:=cBody (PP.funcs.getD 19 default)
abbrev K2:Slots:=[(0,.any),(3,.any),(4,.any)]
abbrev P2:=V×V×V×Unit
abbrev Q2:=P2→AH→Res
abbrev K4:Slots:=[(3,.any),(4,.any),(6,.any),(8,.int .i64)]
abbrev P4:=V×V×V×Int×Unit
abbrev Q4:=P4→AH→Res
abbrev K6:Slots:=[(3,.any),(4,.any),(6,.any),(8,.int .i64),(18,.bool)]
abbrev P6:=V×V×V×Int×Bool×Unit
abbrev Q6:=P6→AH→Res
abbrev K8:Slots:=[(4,.any),(5,.int .i64)]
abbrev P8:=V×Int×Unit
abbrev Q8:=P8→AH→Res
abbrev K9:Slots:=[(3,.any),(4,.any),(6,.any)]
abbrev P9:=V×V×V×Unit
abbrev Q9:=P9→AH→Res
abbrev K10:Slots:=[(3,.any),(4,.any),(21,.any),(22,.int .i64),(23,.int .i64)]
abbrev P10:=V×V×V×Int×Int×Unit
abbrev Q10:=P10→AH→Res
abbrev K12:Slots:=[(3,.any),(4,.any),(21,.any),(22,.int .i64),(23,.int .i64),(24,.bool)]
abbrev P12:=V×V×V×Int×Int×Bool×Unit
abbrev Q12:=P12→AH→Res
abbrev K14:Slots:=[(3,.any),(4,.any),(10,.any),(21,.any),(22,.int .i64),(23,.int .i64)]
abbrev P14:=V×V×V×V×Int×Int×Unit
abbrev Q14:=P14→AH→Res
abbrev K16:Slots:=[(3,.any),(4,.any),(10,.any),(21,.any),(22,.int .i64),(23,.int .i64),(30,.bool)]
abbrev P16:=V×V×V×V×Int×Int×Bool×Unit
abbrev Q16:=P16→AH→Res
abbrev K21:Slots:=[(4,.any)]
abbrev P21:=V×Unit
abbrev Q21:=P21→AH→Res
noncomputable def lv:=lvT [(2,K2),(4,K4),(6,K6),(8,K8),(9,K9),(10,K10),(12,K12),(13,K10),(14,K14),(16,K16),(18,K8),(19,K10),(20,K10),(11,K10),(21,K21),(22,K8)]
abbrev KR:Slots:=[(4,.any),(5,.any)]
abbrev PR:=V×V×Unit
abbrev QR:=PR→AH→Res
noncomputable abbrev X (e:Cx):=exL (cfgS e) lv 34 e.F
noncomputable abbrev Y (e:Cx):=runL (cfgS e) lv 34 e.F
noncomputable abbrev C (p:List Nat):=cP p B
noncomputable def ret:QR
| (a,b,_),h=>finW [ldA 34 a h,some b] h
theorem ret_eq(e:Cx):fin (cfgS e) (jbi lv) (PP.funcs.getD 19 default)=jk KR ret:=by kernel_rfl
noncomputable def c0(e:Cx)(J:Q4):V×List V×Unit→AH→Res
| (a,b,_),h =>
 cV (absBox jab (.agg b) h) fun c d =>
 let f:=(al (List.replicate 32 (.int .u8 0)++[.int .u32 0]++[.int .u64 0]) jac d).1
 let g:=(al (List.replicate 32 (.int .u8 0)++[.int .u32 0]++[.int .u64 0]) jac d).2
 cV (e.C nzbc [a] g) fun i j =>
 bV (jat i 0) j fun k l =>
 bA (jat i 1) l fun m o =>
 bI .i64 (jat i 2) o fun p q =>
 let s:=(al (List.replicate 32 (.int .u8 0)) jab q).1
 let u:=(al (List.replicate 32 (.int .u8 0)) jab q).2
 bS (st 32 s (.agg m) u) fun v =>
 J (c,f,k,p,()) v
theorem c0_eq(e a b h n ee r):Y e (peel 2 (C [0])).1 (iniT [a,(.agg b)] 0 .leaf) h n ee r=c0 e (fun t h=>n (mkT K4 t) h) (a,b,()) h:=by kernel_rfl
noncomputable def c10(e:Cx)(J:Q8):Q21
| (a,_),h =>
 bA (bld [] (List.replicate 32 (.int .u8 0)++[.int .u32 0]++[.int .u64 0])) h fun b c =>
 bS (st 34 a (.agg b) c) fun d =>
 J (a,7,()) d
theorem c10_eq(e a h n ee r):Y e (peel 1 (C [4])).1 (mkT K21 (a,())) h n ee r=c10 e (fun t h=>n (mkT K8 t) h) (a,()) h:=by kernel_rfl
noncomputable def r10(e:Cx)(Jn:QR)(Jr:QR)(t:P21)(h:AH):Res:=c10 e (fun | (a,b,_),c=>Jr (a,(.int .i64 b),()) c) t h
theorem r10_eq(e Jn Jr):∀ t h,X e (C [4]) (mkT K21 t) h (jk KR Jn) (exK []) (jk KR Jr)=r10 e Jn Jr t h
| (a,_),h=>nd_chain' (X:=C [4]) (Y:=(C [5])) 1 (L:=K8) (S:=fun J=>c10 e J (a,()) h) (Q:=fun | (b,c,_),d=>Jr (b,(.int .i64 c),()) d) (by kernel_rfl) (fun n=>c10_eq e a h n (exK []) (jk KR Jr)) (fun | (b,c,_),d=>by kernel_rfl)
noncomputable def c4(e:Cx)(J:Q10):Q9
| (a,b,c,_),h =>
 bI .i64 (lenS c) h fun d f =>
 J (a,b,c,d,0,()) f
theorem c4_eq(e a b c h n ee r):Y e (peel 1 (C [3,0])).1 (mkT K9 (a,b,c,())) h n ee r=c4 e (fun t h=>n (mkT K10 t) h) (a,b,c,()) h:=by kernel_rfl
noncomputable def c5(e:Cx)(J:Q12):Q10
| (a,b,c,d,f,_),h =>
 J (a,b,c,d,f,(decide (f<d)),()) h
theorem c5_eq(e a b c d f h n ee r):Y e (peel 1 (C [3,3])).1 (mkT K10 (a,b,c,d,f,())) h n ee r=c5 e (fun t h=>n (mkT K12 t) h) (a,b,c,d,f,()) h:=by kernel_rfl
noncomputable def c9(e:Cx)(J:Q10):Q10
| (a,b,c,d,f,_),h =>
 J (a,b,c,d,(wr .i64 (f+1)),()) h
theorem c9_eq(e a b c d f h n ee r):Y e (peel 1 (C [3,6])).1 (mkT K10 (a,b,c,d,f,())) h n ee r=c9 e (fun t h=>n (mkT K10 t) h) (a,b,c,d,f,()) h:=by kernel_rfl
noncomputable def r9(e:Cx)(Jn:Q10)(J0:Q21)(Jr:QR)(t:P10)(h:AH):Res:=c9 e Jn t h
theorem r9_eq(e Jn J0 Jr):∀ t h,X e (C [3,6]) (mkT K10 t) h (jk K10 Jn) (exK [(0,(jk K21 J0))]) (jk KR Jr)=r9 e Jn J0 Jr t h
| (a,b,c,d,f,_),h=>nd_chain' (X:=C [3,6]) (Y:=.skip) 1 (L:=K10) (S:=fun J=>c9 e J (a,b,c,d,f,()) h) (Q:=Jn) (by kernel_rfl) (fun n=>c9_eq e a b c d f h n (exK [(0,(jk K21 J0))]) (jk KR Jr)) (fun t h=>by kernel_rfl)
noncomputable def c6(e:Cx)(J:Q16):Q10
| (a,b,c,d,f,_),h =>
 bV (ixS 34 c f) h fun g i =>
 bA (ldA 34 g i) i fun j k =>
 let l:=(al (List.replicate 32 (.int .u8 0)++[.int .u32 0]++[.int .u64 0]) jac k).1
 let m:=(al (List.replicate 32 (.int .u8 0)++[.int .u32 0]++[.int .u64 0]) jac k).2
 bS (st 34 l (.agg j) m) fun o =>
 bV (fA 0 l) o fun p q =>
 bA (ldA 32 p q) q fun s u =>
 bA (ldA 32 a u) u fun v w =>
 bB (eqW PP false jab (.agg s) (.agg v)) w fun y z =>
 J (a,b,l,c,d,f,y,()) z
theorem c6_eq(e a b c d f h n ee r):Y e (peel 2 (C [3,5,1])).1 (mkT K10 (a,b,c,d,f,())) h n ee r=c6 e (fun t h=>n (mkT K16 t) h) (a,b,c,d,f,()) h:=by kernel_rfl
noncomputable def c8(e:Cx)(J:Q8):Q16
| (a,b,c,d,f,g,i,_),h =>
 bA (ldA 34 c h) h fun j k =>
 bS (st 34 b (.agg j) k) fun l =>
 J (b,0,()) l
theorem c8_eq(e a b c d f g i h n ee r):Y e (peel 1 (C [3,5,3,0])).1 (mkT K16 (a,b,c,d,f,g,i,())) h n ee r=c8 e (fun t h=>n (mkT K8 t) h) (a,b,c,d,f,g,i,()) h:=by kernel_rfl
noncomputable def k7(e:Cx)(Jn:Q10)(J1:Q10)(J0:Q21)(Jr:QR):Q16
| (a,b,c,d,f,g,i,_),h =>
 bif i then c8 e (fun | (j,k,_),l=>Jr (j,(.int .i64 k),()) l) (a,b,c,d,f,g,i,()) h else Jn (a,b,d,f,g,()) h
theorem k7_eq(e Jn J1 J0 Jr):∀ t h,X e (C [3,5,3]) (mkT K16 t) h (jk K10 Jn) (exK [(1,(jk K10 J1)),(0,(jk K21 J0))]) (jk KR Jr)=k7 e Jn J1 J0 Jr t h
| (c,d,f,g,i,j,k,_),h=>nd_cond' (X:=C [3,5,3]) (a:=C [3,5,3,0]) (b:=C [3,5,4]) (t:=k) (x:=.tmp 30) (by kernel_rfl) (by kernel_rfl) (nd_chain' (X:=C [3,5,3,0]) (Y:=(C [3,5,3,1])) 1 (L:=K8) (S:=fun J=>c8 e J (c,d,f,g,i,j,k,()) h) (Q:=fun | (l,m,_),o=>Jr (l,(.int .i64 m),()) o) (by kernel_rfl) (fun n=>c8_eq e c d f g i j k h n (exK [(1,(jk K10 J1)),(0,(jk K21 J0))]) (jk KR Jr)) (fun | (l,m,_),o=>by kernel_rfl)) (by kernel_rfl)
noncomputable def r6(e:Cx)(Jn:Q10)(J0:Q21)(Jr:QR)(t:P10)(h:AH):Res:=c6 e (k7 e (r9 e Jn J0 Jr) (r9 e Jn J0 Jr) J0 Jr) t h
theorem r6_eq(e Jn J0 Jr):∀ t h,X e (C [3,5]) (mkT K10 t) h (jk K10 Jn) (exK [(0,(jk K21 J0))]) (jk KR Jr)=r6 e Jn J0 Jr t h
| (c,d,f,g,i,_),h=>(nd_norm' (X:=(C [3,5])) (a:=C [3,5,0]) (b:=C [3,6]) (L:=K10) (by kernel_rfl) (by kernel_rfl) (by kernel_rfl) (SB:=(r9 e Jn J0 Jr)) (r9_eq e Jn J0 Jr) _ _).trans (nd_block' (X:=C [3,5,0]) (id:=1) (b:=C [3,5,1]) (by kernel_rfl) (nd_chain' (X:=C [3,5,1]) (Y:=(C [3,5,3])) 2 (L:=K16) (S:=fun J=>c6 e J (c,d,f,g,i,()) h) (Q:=(k7 e (r9 e Jn J0 Jr) (r9 e Jn J0 Jr) J0 Jr)) (by kernel_rfl) (fun n=>c6_eq e c d f g i h n (exK [(1,(jk K10 (r9 e Jn J0 Jr))),(0,(jk K21 J0))]) (jk KR Jr)) (k7_eq e (r9 e Jn J0 Jr) (r9 e Jn J0 Jr) J0 Jr)))
noncomputable def k5(e:Cx)(Jn:Q10)(J0:Q21)(Jr:QR):Q12
| (a,b,c,d,f,g,_),h =>
 bif g then (r6 e Jn J0 Jr) (a,b,c,d,f,()) h else J0 (b,()) h
theorem k5_eq(e Jn J0 Jr):∀ t h,X e (C [3,4]) (mkT K12 t) h (jk K10 Jn) (exK [(0,(jk K21 J0))]) (jk KR Jr)=k5 e Jn J0 Jr t h
| (c,d,f,g,i,j,_),h=>(nd_norm' (X:=(C [3,4])) (a:=C [3,4,0]) (b:=C [3,5]) (L:=K10) (by kernel_rfl) (by kernel_rfl) (by kernel_rfl) (SB:=(r6 e Jn J0 Jr)) (r6_eq e Jn J0 Jr) _ _).trans (nd_cond' (X:=C [3,4,0]) (a:=C [3,4,0,0]) (b:=C [3,4,1]) (t:=j) (x:=.tmp 24) (by kernel_rfl) (by kernel_rfl) (by kernel_rfl) (by kernel_rfl))
noncomputable def l5(e:Cx)(Jn:Q10)(J0:Q21)(Jr:QR)(t:P10)(h:AH):Res:=c5 e (k5 e Jn J0 Jr) t h
theorem l5_eq(e Jn J0 Jr):∀ t h,X e (C [3,3]) (mkT K10 t) h (jk K10 Jn) (exK [(0,(jk K21 J0))]) (jk KR Jr)=l5 e Jn J0 Jr t h
| (a,b,c,d,f,_),h=>nd_chain' (X:=C [3,3]) (Y:=(C [3,4])) 1 (L:=K12) (S:=fun J=>c5 e J (a,b,c,d,f,()) h) (Q:=(k5 e Jn J0 Jr)) (by kernel_rfl) (fun n=>c5_eq e a b c d f h n (exK [(0,(jk K21 J0))]) (jk KR Jr)) (k5_eq e Jn J0 Jr)
noncomputable def k4(e:Cx)(Jn:Q21)(Jr:QR)(t:P10)(h:AH):Res:=jaw (P10) e.F (fun t h n=>l5 e n Jn Jr t h) t h
theorem k4_eq(e Jn Jr):∀ t h,X e (C [3,1]) (mkT K10 t) h (jk K21 Jn) (exK []) (jk KR Jr)=k4 e Jn Jr t h
| (a,c,d,f,g,_),h=>nd_block' (X:=C [3,1]) (id:=0) (b:=C [3,2]) (by kernel_rfl) ((nd_loop' (X:=C [3,2]) (b:=C [3,3]) (L:=K10) (by kernel_rfl) (by kernel_rfl) (SB:=fun n=>l5 e n Jn Jr) (fun n=>l5_eq e n Jn Jr) _ _).trans (by kernel_rfl))
noncomputable def r4(e:Cx)(Jn:QR)(Jr:QR)(t:P9)(h:AH):Res:=c4 e (k4 e (r10 e Jn Jr) Jr) t h
theorem r4_eq(e Jn Jr):∀ t h,X e (C [3]) (mkT K9 t) h (jk KR Jn) (exK []) (jk KR Jr)=r4 e Jn Jr t h
| (c,d,f,_),h=>(nd_norm' (X:=(C [3])) (a:=C [3,0]) (b:=C [4]) (L:=K21) (by kernel_rfl) (by kernel_rfl) (by kernel_rfl) (SB:=(r10 e Jn Jr)) (r10_eq e Jn Jr) _ _).trans (nd_chain' (X:=C [3,0]) (Y:=(C [3,1])) 1 (L:=K10) (S:=fun J=>c4 e J (c,d,f,()) h) (Q:=(k4 e (r10 e Jn Jr) Jr)) (by kernel_rfl) (fun n=>c4_eq e c d f h n (exK []) (jk KR Jr)) (k4_eq e (r10 e Jn Jr) Jr))
noncomputable def c2(e:Cx)(J:Q6):Q4
| (a,b,c,d,_),h =>
 J (a,b,c,d,(d != 0),()) h
theorem c2_eq(e a b c d h n ee r):Y e (peel 1 (C [2,0])).1 (mkT K4 (a,b,c,d,())) h n ee r=c2 e (fun t h=>n (mkT K6 t) h) (a,b,c,d,()) h:=by kernel_rfl
noncomputable def c3(e:Cx)(J:Q8):Q6
| (a,b,c,d,f,_),h =>
 bA (bld [] (List.replicate 32 (.int .u8 0)++[.int .u32 0]++[.int .u64 0])) h fun g i =>
 bS (st 34 b (.agg g) i) fun j =>
 J (b,d,()) j
theorem c3_eq(e a b c d f h n ee r):Y e (peel 1 (C [2,1,0])).1 (mkT K6 (a,b,c,d,f,())) h n ee r=c3 e (fun t h=>n (mkT K8 t) h) (a,b,c,d,f,()) h:=by kernel_rfl
noncomputable def k2(e:Cx)(Jn:Q9)(Jr:QR):Q6
| (a,b,c,d,f,_),h =>
 bif f then c3 e (fun | (g,i,_),j=>Jr (g,(.int .i64 i),()) j) (a,b,c,d,f,()) h else Jn (a,b,c,()) h
theorem k2_eq(e Jn Jr):∀ t h,X e (C [2,1]) (mkT K6 t) h (jk K9 Jn) (exK []) (jk KR Jr)=k2 e Jn Jr t h
| (c,d,f,g,i,_),h=>nd_cond' (X:=C [2,1]) (a:=C [2,1,0]) (b:=C [2,2]) (t:=i) (x:=.tmp 18) (by kernel_rfl) (by kernel_rfl) (nd_chain' (X:=C [2,1,0]) (Y:=(C [2,1,1])) 1 (L:=K8) (S:=fun J=>c3 e J (c,d,f,g,i,()) h) (Q:=fun | (j,k,_),l=>Jr (j,(.int .i64 k),()) l) (by kernel_rfl) (fun n=>c3_eq e c d f g i h n (exK []) (jk KR Jr)) (fun | (j,k,_),l=>by kernel_rfl)) (by kernel_rfl)
noncomputable def k1(e:Cx)(Jn:QR)(Jr:QR)(t:P4)(h:AH):Res:=c2 e (k2 e (r4 e Jn Jr) Jr) t h
theorem k1_eq(e Jn Jr):∀ t h,X e (C [2]) (mkT K4 t) h (jk KR Jn) (exK []) (jk KR Jr)=k1 e Jn Jr t h
| (c,d,f,g,_),h=>(nd_norm' (X:=(C [2])) (a:=C [2,0]) (b:=C [3]) (L:=K9) (by kernel_rfl) (by kernel_rfl) (by kernel_rfl) (SB:=(r4 e Jn Jr)) (r4_eq e Jn Jr) _ _).trans (nd_chain' (X:=C [2,0]) (Y:=(C [2,1])) 1 (L:=K6) (S:=fun J=>c2 e J (c,d,f,g,()) h) (Q:=(k2 e (r4 e Jn Jr) Jr)) (by kernel_rfl) (fun n=>c2_eq e c d f g h n (exK []) (jk KR Jr)) (k2_eq e (r4 e Jn Jr) Jr))
noncomputable def fn(e:Cx)(a:V)(b:List V)(h:AH):Res :=
 c0 e (k1 e ret ret) (a,b,()) h
theorem run(e:Cx)(a:V)(b:List V)(h:AH):execFn (cfgS e) (jbi lv) e.F nzbb [a,(.agg b)] h=fn e a b h:=by
 refine (fn_eq (c:=cfgS e) (lv:=lv) (PP.funcs.getD 19 default) B (by kernel_rfl) (by kernel_rfl) (Nat.le_of_ble_eq_true (by kernel_rfl))).trans ?_
 rw [ret_eq]
 exact nd_chain' (X:=C [0]) (Y:=(C [2])) 2 (L:=K4) (S:=fun J=>c0 e J (a,b,()) h) (Q:=(k1 e ret ret)) (by kernel_rfl) (fun n=>c0_eq e a b h n (exK []) (jk KR ret)) (k1_eq e ret ret)
end zbb
namespace zba
noncomputable def B:Code:=cBody (PP.funcs.getD 21 default)
abbrev K2:Slots:=[(0,.any),(1,.any),(5,.any)]
abbrev P2:=V×V×V×Unit
abbrev Q2:=P2→AH→Res
abbrev K4:Slots:=[(0,.any),(1,.any),(5,.any),(7,.any)]
abbrev P4:=V×V×V×V×Unit
abbrev Q4:=P4→AH→Res
abbrev K6:Slots:=[(0,.any),(1,.any),(5,.any),(7,.any),(8,.int .i64)]
abbrev P6:=V×V×V×V×Int×Unit
abbrev Q6:=P6→AH→Res
abbrev K8:Slots:=[(0,.any),(1,.any),(5,.any),(7,.any),(8,.int .i64),(25,.bool)]
abbrev P8:=V×V×V×V×Int×Bool×Unit
abbrev Q8:=P8→AH→Res
abbrev K12:Slots:=[(0,.any),(1,.any),(5,.any),(7,.any),(8,.int .i64),(9,.int .i64)]
abbrev P12:=V×V×V×V×Int×Int×Unit
abbrev Q12:=P12→AH→Res
abbrev K14:Slots:=[(0,.any),(1,.any),(5,.any),(7,.any),(8,.int .i64),(9,.int .i64),(28,.any),(29,.int .i64),(30,.int .i64)]
abbrev P14:=V×V×V×V×Int×Int×V×Int×Int×Unit
abbrev Q14:=P14→AH→Res
abbrev K16:Slots:=[(0,.any),(1,.any),(5,.any),(7,.any),(8,.int .i64),(9,.int .i64),(28,.any),(29,.int .i64),(30,.int .i64),(31,.bool)]
abbrev P16:=V×V×V×V×Int×Int×V×Int×Int×Bool×Unit
abbrev Q16:=P16→AH→Res
abbrev K18:Slots:=[(0,.any),(1,.any),(5,.any),(7,.any),(8,.int .i64),(9,.int .i64),(11,.any),(28,.any),(29,.int .i64),(30,.int .i64)]
abbrev P18:=V×V×V×V×Int×Int×V×V×Int×Int×Unit
abbrev Q18:=P18→AH→Res
abbrev K20:Slots:=[(0,.any),(1,.any),(5,.any),(7,.any),(8,.int .i64),(9,.int .i64),(28,.any),(29,.int .i64),(30,.int .i64),(39,.bool)]
abbrev P20:=V×V×V×V×Int×Int×V×Int×Int×Bool×Unit
abbrev Q20:=P20→AH→Res
abbrev K28:Slots:=[(0,.any),(1,.any),(5,.any),(7,.any),(47,.any),(48,.int .i64),(49,.int .i64)]
abbrev P28:=V×V×V×V×V×Int×Int×Unit
abbrev Q28:=P28→AH→Res
abbrev K30:Slots:=[(0,.any),(1,.any),(5,.any),(7,.any),(47,.any),(48,.int .i64),(49,.int .i64),(50,.bool)]
abbrev P30:=V×V×V×V×V×Int×Int×Bool×Unit
abbrev Q30:=P30→AH→Res
abbrev K32:Slots:=[(0,.any),(1,.any),(5,.any),(7,.any),(13,.any),(47,.any),(48,.int .i64),(49,.int .i64)]
abbrev P32:=V×V×V×V×V×V×Int×Int×Unit
abbrev Q32:=P32→AH→Res
abbrev K34:Slots:=[(0,.any),(1,.any),(5,.any),(7,.any),(14,.any),(47,.any),(48,.int .i64),(49,.int .i64)]
abbrev P34:=V×V×V×V×V×V×Int×Int×Unit
abbrev Q34:=P34→AH→Res
abbrev K40:Slots:=[(0,.any),(1,.any),(5,.any),(7,.any),(59,.any),(60,.int .i64),(61,.int .i64)]
abbrev P40:=V×V×V×V×V×Int×Int×Unit
abbrev Q40:=P40→AH→Res
abbrev K42:Slots:=[(0,.any),(1,.any),(5,.any),(7,.any),(59,.any),(60,.int .i64),(61,.int .i64),(62,.bool)]
abbrev P42:=V×V×V×V×V×Int×Int×Bool×Unit
abbrev Q42:=P42→AH→Res
abbrev K44:Slots:=[(0,.any),(1,.any),(5,.any),(7,.any),(16,.any),(59,.any),(60,.int .i64),(61,.int .i64)]
abbrev P44:=V×V×V×V×V×V×Int×Int×Unit
abbrev Q44:=P44→AH→Res
abbrev K50:Slots:=[(0,.any),(1,.any),(5,.any),(7,.any),(17,.any)]
abbrev P50:=V×V×V×V×V×Unit
abbrev Q50:=P50→AH→Res
abbrev K52:Slots:=[(1,.any),(5,.any),(7,.any),(17,.any),(71,.any),(72,.int .i64),(73,.int .i64)]
abbrev P52:=V×V×V×V×V×Int×Int×Unit
abbrev Q52:=P52→AH→Res
abbrev K54:Slots:=[(1,.any),(5,.any),(7,.any),(17,.any),(71,.any),(72,.int .i64),(73,.int .i64),(74,.bool)]
abbrev P54:=V×V×V×V×V×Int×Int×Bool×Unit
abbrev Q54:=P54→AH→Res
abbrev K56:Slots:=[(1,.any),(5,.any),(7,.any),(17,.any),(18,.int .i64),(19,.any),(71,.any),(72,.int .i64),(73,.int .i64)]
abbrev P56:=V×V×V×V×Int×V×V×Int×Int×Unit
abbrev Q56:=P56→AH→Res
abbrev K58:Slots:=[(1,.any),(5,.any),(7,.any),(17,.any),(19,.any),(71,.any),(72,.int .i64),(73,.int .i64),(81,.bool)]
abbrev P58:=V×V×V×V×V×V×Int×Int×Bool×Unit
abbrev Q58:=P58→AH→Res
abbrev K60:Slots:=[(1,.any),(5,.any),(7,.any),(17,.any),(19,.any),(71,.any),(72,.int .i64),(73,.int .i64)]
abbrev P60:=V×V×V×V×V×V×Int×Int×Unit
abbrev Q60:=P60→AH→Res
abbrev K67:Slots:=[(5,.any),(7,.any),(17,.any)]
abbrev P67:=V×V×V×Unit
abbrev Q67:=P67→AH→Res
abbrev K68:Slots:=[(5,.any),(7,.any),(98,.any),(99,.int .i64),(100,.int .i64)]
abbrev P68:=V×V×V×Int×Int×Unit
abbrev Q68:=P68→AH→Res
abbrev K70:Slots:=[(5,.any),(7,.any),(98,.any),(99,.int .i64),(100,.int .i64),(101,.bool)]
abbrev P70:=V×V×V×Int×Int×Bool×Unit
abbrev Q70:=P70→AH→Res
abbrev K72:Slots:=[(5,.any),(7,.any),(21,.int .u64),(98,.any),(99,.int .i64),(100,.int .i64)]
abbrev P72:=V×V×Int×V×Int×Int×Unit
abbrev Q72:=P72→AH→Res
abbrev K77:Slots:=[(5,.any),(7,.any)]
abbrev P77:=V×V×Unit
abbrev Q77:=P77→AH→Res
abbrev K78:Slots:=[(7,.any)]
abbrev P78:=V×Unit
abbrev Q78:=P78→AH→Res
abbrev K80:Slots:=[(7,.any),(22,.any)]
abbrev P80:=V×V×Unit
abbrev Q80:=P80→AH→Res
abbrev K82:Slots:=[(6,.any)]
abbrev P82:=V×Unit
abbrev Q82:=P82→AH→Res
noncomputable def lv:=lvT [(2,K2),(4,K4),(6,K6),(8,K8),(11,K6),(12,K12),(14,K14),(16,K16),(17,K14),(18,K18),(20,K20),(22,K14),(23,K14),(24,K14),(15,K14),(25,K12),(26,K6),(9,K6),(10,K6),(7,K6),(27,K4),(28,K28),(30,K30),(31,K28),(32,K32),(34,K34),(36,K28),(37,K28),(38,K28),(29,K28),(39,K4),(40,K40),(42,K42),(43,K40),(44,K44),(46,K40),(47,K40),(48,K40),(41,K40),(49,K4),(50,K50),(52,K52),(54,K54),(55,K52),(56,K56),(58,K58),(64,K52),(60,K60),(62,K52),(65,K52),(66,K52),(53,K52),(67,K67),(68,K68),(70,K70),(71,K68),(72,K72),(74,K68),(75,K68),(76,K68),(69,K68),(77,K77),(78,K78),(80,K80),(82,K82)]
abbrev KR:Slots:=[(6,.any)]
abbrev PR:=V×Unit
abbrev QR:=PR→AH→Res
noncomputable abbrev X (e:Cx):=exL (cfgS e) lv 116 e.F
noncomputable abbrev Y (e:Cx):=runL (cfgS e) lv 116 e.F
noncomputable abbrev C (p:List Nat):=cP p B
noncomputable def ret:Q82
| (a,_),h=>finW [some a] h
theorem ret_eq(e:Cx):fin (cfgS e) (jbi lv) (PP.funcs.getD 21 default)=jk K82 ret:=by kernel_rfl
noncomputable def c0(e:Cx)(J:Q4):V×V×List V×Unit→AH→Res
| (a,b,c,_),h =>
 cV (absBox jab (.agg c) h) fun d f =>
 cV (bsl 1 8 [(0,1,(.int .u8 255)),(1,1,(.int .u8 116)),(2,1,(.int .u8 79)),(3,1,(.int .u8 99)),(4,1,(.int .u8 0)),(5,1,(.int .u8 0)),(6,1,(.int .u8 0)),(7,1,(.int .u8 2))] [.int .u8 0] jai f) fun g i =>
 J (a,b,d,g,()) i
theorem c0_eq(e a b c h n ee r):Y e (peel 2 (C [0])).1 (iniT [a,b,(.agg c)] 0 .leaf) h n ee r=c0 e (fun t h=>n (mkT K4 t) h) (a,b,c,()) h:=by kernel_rfl
noncomputable def c24(e:Cx)(J:Q50):Q4
| (a,b,c,d,_),h =>
 J (a,b,c,d,(.nilslice),()) h
theorem c24_eq(e a b c d h n ee r):Y e (peel 1 (C [5])).1 (mkT K4 (a,b,c,d,())) h n ee r=c24 e (fun t h=>n (mkT K50 t) h) (a,b,c,d,()) h:=by kernel_rfl
noncomputable def c38(e:Cx)(J:Q82):Q77
| (a,b,_),h =>
 bV (slA 32 1 a none none none h) h fun c d =>
 cV (app 1 1 jai b c d) fun f g =>
 cA (e.C nzaw [f] g) fun i j =>
 let k:=(al (List.replicate 32 (.int .u8 0)) jab j).1
 let l:=(al (List.replicate 32 (.int .u8 0)) jab j).2
 bS (st 32 k (.agg i) l) fun m =>
 bV (slA 32 1 k none none none m) m fun o p =>
 cV (app 1 1 jai f o p) fun q s =>
 J (q,()) s
theorem c38_eq(e a b h n ee r):Y e (peel 3 (C [8])).1 (mkT K77 (a,b,())) h n ee r=c38 e (fun t h=>n (mkT K82 t) h) (a,b,()) h:=by kernel_rfl
noncomputable def r38(e:Cx)(Jn:Q82)(Jr:Q82)(t:P77)(h:AH):Res:=c38 e Jr t h
theorem r38_eq(e Jn Jr):∀ t h,X e (C [8]) (mkT K77 t) h (jk K82 Jn) (exK []) (jk K82 Jr)=r38 e Jn Jr t h
| (a,b,_),h=>nd_chain' (X:=C [8]) (Y:=(C [11])) 3 (L:=K82) (S:=fun J=>c38 e J (a,b,()) h) (Q:=Jr) (by kernel_rfl) (fun n=>c38_eq e a b h n (exK []) (jk K82 Jr)) (fun t h=>by kernel_rfl)
noncomputable def c33(e:Cx)(J:Q68):Q67
| (a,b,c,_),h =>
 bI .i64 (lenS c) h fun d f =>
 J (a,b,c,d,0,()) f
theorem c33_eq(e a b c h n ee r):Y e (peel 1 (C [7,0])).1 (mkT K67 (a,b,c,())) h n ee r=c33 e (fun t h=>n (mkT K68 t) h) (a,b,c,()) h:=by kernel_rfl
noncomputable def c34(e:Cx)(J:Q70):Q68
| (a,b,c,d,f,_),h =>
 J (a,b,c,d,f,(decide (f<d)),()) h
theorem c34_eq(e a b c d f h n ee r):Y e (peel 1 (C [7,3])).1 (mkT K68 (a,b,c,d,f,())) h n ee r=c34 e (fun t h=>n (mkT K70 t) h) (a,b,c,d,f,()) h:=by kernel_rfl
noncomputable def c37(e:Cx)(J:Q68):Q68
| (a,b,c,d,f,_),h =>
 J (a,b,c,d,(wr .i64 (f+1)),()) h
theorem c37_eq(e a b c d f h n ee r):Y e (peel 1 (C [7,6])).1 (mkT K68 (a,b,c,d,f,())) h n ee r=c37 e (fun t h=>n (mkT K68 t) h) (a,b,c,d,f,()) h:=by kernel_rfl
noncomputable def r37(e:Cx)(Jn:Q68)(J10:Q77)(Jr:Q82)(t:P68)(h:AH):Res:=c37 e Jn t h
theorem r37_eq(e Jn J10 Jr):∀ t h,X e (C [7,6]) (mkT K68 t) h (jk K68 Jn) (exK [(10,(jk K77 J10))]) (jk K82 Jr)=r37 e Jn J10 Jr t h
| (a,b,c,d,f,_),h=>nd_chain' (X:=C [7,6]) (Y:=.skip) 1 (L:=K68) (S:=fun J=>c37 e J (a,b,c,d,f,()) h) (Q:=Jn) (by kernel_rfl) (fun n=>c37_eq e a b c d f h n (exK [(10,(jk K77 J10))]) (jk K82 Jr)) (fun t h=>by kernel_rfl)
noncomputable def c35(e:Cx)(J:Q68):Q68
| (a,b,c,d,f,_),h =>
 bV (ixS 1 c f) h fun g i =>
 bI .u64 (ld g i) i fun j k =>
 cV (e.C nzaz [b,(.int .u64 j),(.int .i64 8)] k) fun l m =>
 J (a,l,c,d,f,()) m
theorem c35_eq(e a b c d f h n ee r):Y e (peel 2 (C [7,5,1])).1 (mkT K68 (a,b,c,d,f,())) h n ee r=c35 e (fun t h=>n (mkT K68 t) h) (a,b,c,d,f,()) h:=by kernel_rfl
noncomputable def r35(e:Cx)(Jn:Q68)(J10:Q77)(Jr:Q82)(t:P68)(h:AH):Res:=c35 e (r37 e Jn J10 Jr) t h
theorem r35_eq(e Jn J10 Jr):∀ t h,X e (C [7,5]) (mkT K68 t) h (jk K68 Jn) (exK [(10,(jk K77 J10))]) (jk K82 Jr)=r35 e Jn J10 Jr t h
| (c,d,f,g,i,_),h=>(nd_norm' (X:=(C [7,5])) (a:=C [7,5,0]) (b:=C [7,6]) (L:=K68) (by kernel_rfl) (by kernel_rfl) (by kernel_rfl) (SB:=(r37 e Jn J10 Jr)) (r37_eq e Jn J10 Jr) _ _).trans (nd_block' (X:=C [7,5,0]) (id:=11) (b:=C [7,5,1]) (by kernel_rfl) (nd_chain' (X:=C [7,5,1]) (Y:=.skip) 2 (L:=K68) (S:=fun J=>c35 e J (c,d,f,g,i,()) h) (Q:=(r37 e Jn J10 Jr)) (by kernel_rfl) (fun n=>c35_eq e c d f g i h n (exK [(11,(jk K68 (r37 e Jn J10 Jr))),(10,(jk K77 J10))]) (jk K82 Jr)) (fun t h=>by kernel_rfl)))
noncomputable def k34(e:Cx)(Jn:Q68)(J10:Q77)(Jr:Q82):Q70
| (a,b,c,d,f,g,_),h =>
 bif g then (r35 e Jn J10 Jr) (a,b,c,d,f,()) h else J10 (a,b,()) h
theorem k34_eq(e Jn J10 Jr):∀ t h,X e (C [7,4]) (mkT K70 t) h (jk K68 Jn) (exK [(10,(jk K77 J10))]) (jk K82 Jr)=k34 e Jn J10 Jr t h
| (c,d,f,g,i,j,_),h=>(nd_norm' (X:=(C [7,4])) (a:=C [7,4,0]) (b:=C [7,5]) (L:=K68) (by kernel_rfl) (by kernel_rfl) (by kernel_rfl) (SB:=(r35 e Jn J10 Jr)) (r35_eq e Jn J10 Jr) _ _).trans (nd_cond' (X:=C [7,4,0]) (a:=C [7,4,0,0]) (b:=C [7,4,1]) (t:=j) (x:=.tmp 101) (by kernel_rfl) (by kernel_rfl) (by kernel_rfl) (by kernel_rfl))
noncomputable def l34(e:Cx)(Jn:Q68)(J10:Q77)(Jr:Q82)(t:P68)(h:AH):Res:=c34 e (k34 e Jn J10 Jr) t h
theorem l34_eq(e Jn J10 Jr):∀ t h,X e (C [7,3]) (mkT K68 t) h (jk K68 Jn) (exK [(10,(jk K77 J10))]) (jk K82 Jr)=l34 e Jn J10 Jr t h
| (a,b,c,d,f,_),h=>nd_chain' (X:=C [7,3]) (Y:=(C [7,4])) 1 (L:=K70) (S:=fun J=>c34 e J (a,b,c,d,f,()) h) (Q:=(k34 e Jn J10 Jr)) (by kernel_rfl) (fun n=>c34_eq e a b c d f h n (exK [(10,(jk K77 J10))]) (jk K82 Jr)) (k34_eq e Jn J10 Jr)
noncomputable def k33(e:Cx)(Jn:Q77)(Jr:Q82)(t:P68)(h:AH):Res:=jaw (P68) e.F (fun t h n=>l34 e n Jn Jr t h) t h
theorem k33_eq(e Jn Jr):∀ t h,X e (C [7,1]) (mkT K68 t) h (jk K77 Jn) (exK []) (jk K82 Jr)=k33 e Jn Jr t h
| (a,c,d,f,g,_),h=>nd_block' (X:=C [7,1]) (id:=10) (b:=C [7,2]) (by kernel_rfl) ((nd_loop' (X:=C [7,2]) (b:=C [7,3]) (L:=K68) (by kernel_rfl) (by kernel_rfl) (SB:=fun n=>l34 e n Jn Jr) (fun n=>l34_eq e n Jn Jr) _ _).trans (by kernel_rfl))
noncomputable def r33(e:Cx)(Jn:Q82)(Jr:Q82)(t:P67)(h:AH):Res:=c33 e (k33 e (r38 e Jn Jr) Jr) t h
theorem r33_eq(e Jn Jr):∀ t h,X e (C [7]) (mkT K67 t) h (jk K82 Jn) (exK []) (jk K82 Jr)=r33 e Jn Jr t h
| (c,d,f,_),h=>(nd_norm' (X:=(C [7])) (a:=C [7,0]) (b:=C [8]) (L:=K77) (by kernel_rfl) (by kernel_rfl) (by kernel_rfl) (SB:=(r38 e Jn Jr)) (r38_eq e Jn Jr) _ _).trans (nd_chain' (X:=C [7,0]) (Y:=(C [7,1])) 1 (L:=K68) (S:=fun J=>c33 e J (c,d,f,()) h) (Q:=(k33 e (r38 e Jn Jr) Jr)) (by kernel_rfl) (fun n=>c33_eq e c d f h n (exK []) (jk K82 Jr)) (k33_eq e (r38 e Jn Jr) Jr))
noncomputable def c25(e:Cx)(J:Q52):Q50
| (a,b,c,d,f,_),h =>
 bI .i64 (lenS a) h fun g i =>
 J (b,c,d,f,a,g,0,()) i
theorem c25_eq(e a b c d f h n ee r):Y e (peel 1 (C [6,0])).1 (mkT K50 (a,b,c,d,f,())) h n ee r=c25 e (fun t h=>n (mkT K52 t) h) (a,b,c,d,f,()) h:=by kernel_rfl
noncomputable def c26(e:Cx)(J:Q54):Q52
| (a,b,c,d,f,g,i,_),h =>
 J (a,b,c,d,f,g,i,(decide (i<g)),()) h
theorem c26_eq(e a b c d f g i h n ee r):Y e (peel 1 (C [6,3])).1 (mkT K52 (a,b,c,d,f,g,i,())) h n ee r=c26 e (fun t h=>n (mkT K54 t) h) (a,b,c,d,f,g,i,()) h:=by kernel_rfl
noncomputable def c32(e:Cx)(J:Q52):Q52
| (a,b,c,d,f,g,i,_),h =>
 J (a,b,c,d,f,g,(wr .i64 (i+1)),()) h
theorem c32_eq(e a b c d f g i h n ee r):Y e (peel 1 (C [6,6])).1 (mkT K52 (a,b,c,d,f,g,i,())) h n ee r=c32 e (fun t h=>n (mkT K52 t) h) (a,b,c,d,f,g,i,()) h:=by kernel_rfl
noncomputable def r32(e:Cx)(Jn:Q52)(J8:Q67)(Jr:Q82)(t:P52)(h:AH):Res:=c32 e Jn t h
theorem r32_eq(e Jn J8 Jr):∀ t h,X e (C [6,6]) (mkT K52 t) h (jk K52 Jn) (exK [(8,(jk K67 J8))]) (jk K82 Jr)=r32 e Jn J8 Jr t h
| (a,b,c,d,f,g,i,_),h=>nd_chain' (X:=C [6,6]) (Y:=.skip) 1 (L:=K52) (S:=fun J=>c32 e J (a,b,c,d,f,g,i,()) h) (Q:=Jn) (by kernel_rfl) (fun n=>c32_eq e a b c d f g i h n (exK [(8,(jk K67 J8))]) (jk K82 Jr)) (fun t h=>by kernel_rfl)
noncomputable def c27(e:Cx)(J:Q58):Q52
| (a,b,c,d,f,g,i,_),h =>
 bV (ixS 34 f i) h fun j k =>
 bA (ldA 34 j k) k fun l m =>
 let o:=(al (List.replicate 32 (.int .u8 0)++[.int .u32 0]++[.int .u64 0]) jac m).1
 let p:=(al (List.replicate 32 (.int .u8 0)++[.int .u32 0]++[.int .u64 0]) jac m).2
 bS (st 34 o (.agg l) p) fun q =>
 bV (ixS 1 a i) q fun s u =>
 bB (ld s u) u fun v w =>
 J (a,b,c,d,o,f,g,i,v,()) w
theorem c27_eq(e a b c d f g i h n ee r):Y e (peel 2 (C [6,5,1])).1 (mkT K52 (a,b,c,d,f,g,i,())) h n ee r=c27 e (fun t h=>n (mkT K58 t) h) (a,b,c,d,f,g,i,()) h:=by kernel_rfl
noncomputable def c29(e:Cx)(J:Q52):Q58
| (a,b,c,d,f,g,i,j,k,_),h =>
 bI .i64 (lenS d) h fun l m =>
 cV (e.C nzaz [c,(.int .u64 (wr .u64 (2147483648+(wr .u64 l)))),(.int .i64 4)] m) fun o p =>
 bV (fA 33 f) p fun q s =>
 bI .u64 (ld q s) s fun u v =>
 cV (bsl 1 1 [(0,1,(.int .u64 u))] [.int .u64 0] jcm v) fun w y =>
 cV (app 1 8 jcm d w y) fun z A =>
 J (a,b,o,z,g,i,j,()) A
theorem c29_eq(e a b c d f g i j k h n ee r):Y e (peel 2 (C [6,5,3,0])).1 (mkT K58 (a,b,c,d,f,g,i,j,k,())) h n ee r=c29 e (fun t h=>n (mkT K52 t) h) (a,b,c,d,f,g,i,j,k,()) h:=by kernel_rfl
noncomputable def c31(e:Cx)(J:Q52):Q58
| (a,b,c,d,f,g,i,j,k,_),h =>
 bV (fA 33 f) h fun l m =>
 bI .u64 (ld l m) m fun o p =>
 cV (e.C nzaz [c,(.int .u64 o),(.int .i64 4)] p) fun q s =>
 J (a,b,q,d,g,i,j,()) s
theorem c31_eq(e a b c d f g i j k h n ee r):Y e (peel 1 (C [6,5,4])).1 (mkT K58 (a,b,c,d,f,g,i,j,k,())) h n ee r=c31 e (fun t h=>n (mkT K52 t) h) (a,b,c,d,f,g,i,j,k,()) h:=by kernel_rfl
noncomputable def k28(e:Cx)(Jn:Q52)(J9:Q52)(J8:Q67)(Jr:Q82):Q58
| (a,b,c,d,f,g,i,j,k,_),h =>
 bif k then c29 e Jn (a,b,c,d,f,g,i,j,k,()) h else c31 e Jn (a,b,c,d,f,g,i,j,k,()) h
theorem k28_eq(e Jn J9 J8 Jr):∀ t h,X e (C [6,5,3]) (mkT K58 t) h (jk K52 Jn) (exK [(9,(jk K52 J9)),(8,(jk K67 J8))]) (jk K82 Jr)=k28 e Jn J9 J8 Jr t h
| (c,d,f,g,i,j,k,l,m,_),h=>nd_cond' (X:=C [6,5,3]) (a:=C [6,5,3,0]) (b:=C [6,5,4]) (t:=m) (x:=.tmp 81) (by kernel_rfl) (by kernel_rfl) (nd_chain' (X:=C [6,5,3,0]) (Y:=.skip) 2 (L:=K52) (S:=fun J=>c29 e J (c,d,f,g,i,j,k,l,m,()) h) (Q:=Jn) (by kernel_rfl) (fun n=>c29_eq e c d f g i j k l m h n (exK [(9,(jk K52 J9)),(8,(jk K67 J8))]) (jk K82 Jr)) (fun t h=>by kernel_rfl)) (nd_chain' (X:=C [6,5,4]) (Y:=.skip) 1 (L:=K52) (S:=fun J=>c31 e J (c,d,f,g,i,j,k,l,m,()) h) (Q:=Jn) (by kernel_rfl) (fun n=>c31_eq e c d f g i j k l m h n (exK [(9,(jk K52 J9)),(8,(jk K67 J8))]) (jk K82 Jr)) (fun t h=>by kernel_rfl))
noncomputable def r27(e:Cx)(Jn:Q52)(J8:Q67)(Jr:Q82)(t:P52)(h:AH):Res:=c27 e (k28 e (r32 e Jn J8 Jr) (r32 e Jn J8 Jr) J8 Jr) t h
theorem r27_eq(e Jn J8 Jr):∀ t h,X e (C [6,5]) (mkT K52 t) h (jk K52 Jn) (exK [(8,(jk K67 J8))]) (jk K82 Jr)=r27 e Jn J8 Jr t h
| (c,d,f,g,i,j,k,_),h=>(nd_norm' (X:=(C [6,5])) (a:=C [6,5,0]) (b:=C [6,6]) (L:=K52) (by kernel_rfl) (by kernel_rfl) (by kernel_rfl) (SB:=(r32 e Jn J8 Jr)) (r32_eq e Jn J8 Jr) _ _).trans (nd_block' (X:=C [6,5,0]) (id:=9) (b:=C [6,5,1]) (by kernel_rfl) (nd_chain' (X:=C [6,5,1]) (Y:=(C [6,5,3])) 2 (L:=K58) (S:=fun J=>c27 e J (c,d,f,g,i,j,k,()) h) (Q:=(k28 e (r32 e Jn J8 Jr) (r32 e Jn J8 Jr) J8 Jr)) (by kernel_rfl) (fun n=>c27_eq e c d f g i j k h n (exK [(9,(jk K52 (r32 e Jn J8 Jr))),(8,(jk K67 J8))]) (jk K82 Jr)) (k28_eq e (r32 e Jn J8 Jr) (r32 e Jn J8 Jr) J8 Jr)))
noncomputable def k26(e:Cx)(Jn:Q52)(J8:Q67)(Jr:Q82):Q54
| (a,b,c,d,f,g,i,j,_),h =>
 bif j then (r27 e Jn J8 Jr) (a,b,c,d,f,g,i,()) h else J8 (b,c,d,()) h
theorem k26_eq(e Jn J8 Jr):∀ t h,X e (C [6,4]) (mkT K54 t) h (jk K52 Jn) (exK [(8,(jk K67 J8))]) (jk K82 Jr)=k26 e Jn J8 Jr t h
| (c,d,f,g,i,j,k,l,_),h=>(nd_norm' (X:=(C [6,4])) (a:=C [6,4,0]) (b:=C [6,5]) (L:=K52) (by kernel_rfl) (by kernel_rfl) (by kernel_rfl) (SB:=(r27 e Jn J8 Jr)) (r27_eq e Jn J8 Jr) _ _).trans (nd_cond' (X:=C [6,4,0]) (a:=C [6,4,0,0]) (b:=C [6,4,1]) (t:=l) (x:=.tmp 74) (by kernel_rfl) (by kernel_rfl) (by kernel_rfl) (by kernel_rfl))
noncomputable def l26(e:Cx)(Jn:Q52)(J8:Q67)(Jr:Q82)(t:P52)(h:AH):Res:=c26 e (k26 e Jn J8 Jr) t h
theorem l26_eq(e Jn J8 Jr):∀ t h,X e (C [6,3]) (mkT K52 t) h (jk K52 Jn) (exK [(8,(jk K67 J8))]) (jk K82 Jr)=l26 e Jn J8 Jr t h
| (a,b,c,d,f,g,i,_),h=>nd_chain' (X:=C [6,3]) (Y:=(C [6,4])) 1 (L:=K54) (S:=fun J=>c26 e J (a,b,c,d,f,g,i,()) h) (Q:=(k26 e Jn J8 Jr)) (by kernel_rfl) (fun n=>c26_eq e a b c d f g i h n (exK [(8,(jk K67 J8))]) (jk K82 Jr)) (k26_eq e Jn J8 Jr)
noncomputable def k25(e:Cx)(Jn:Q67)(Jr:Q82)(t:P52)(h:AH):Res:=jaw (P52) e.F (fun t h n=>l26 e n Jn Jr t h) t h
theorem k25_eq(e Jn Jr):∀ t h,X e (C [6,1]) (mkT K52 t) h (jk K67 Jn) (exK []) (jk K82 Jr)=k25 e Jn Jr t h
| (a,c,d,f,g,i,j,_),h=>nd_block' (X:=C [6,1]) (id:=8) (b:=C [6,2]) (by kernel_rfl) ((nd_loop' (X:=C [6,2]) (b:=C [6,3]) (L:=K52) (by kernel_rfl) (by kernel_rfl) (SB:=fun n=>l26 e n Jn Jr) (fun n=>l26_eq e n Jn Jr) _ _).trans (by kernel_rfl))
noncomputable def k24(e:Cx)(Jn:Q82)(Jr:Q82)(t:P50)(h:AH):Res:=c25 e (k25 e (r33 e Jn Jr) Jr) t h
theorem k24_eq(e Jn Jr):∀ t h,X e (C [6]) (mkT K50 t) h (jk K82 Jn) (exK []) (jk K82 Jr)=k24 e Jn Jr t h
| (c,d,f,g,i,_),h=>(nd_norm' (X:=(C [6])) (a:=C [6,0]) (b:=C [7]) (L:=K67) (by kernel_rfl) (by kernel_rfl) (by kernel_rfl) (SB:=(r33 e Jn Jr)) (r33_eq e Jn Jr) _ _).trans (nd_chain' (X:=C [6,0]) (Y:=(C [6,1])) 1 (L:=K52) (S:=fun J=>c25 e J (c,d,f,g,i,()) h) (Q:=(k25 e (r33 e Jn Jr) Jr)) (by kernel_rfl) (fun n=>c25_eq e c d f g i h n (exK []) (jk K82 Jr)) (k25_eq e (r33 e Jn Jr) Jr))
noncomputable def r24(e:Cx)(Jn:Q82)(Jr:Q82)(t:P4)(h:AH):Res:=c24 e (k24 e Jn Jr) t h
theorem r24_eq(e Jn Jr):∀ t h,X e (C [5]) (mkT K4 t) h (jk K82 Jn) (exK []) (jk K82 Jr)=r24 e Jn Jr t h
| (a,b,c,d,_),h=>nd_chain' (X:=C [5]) (Y:=(C [6])) 1 (L:=K50) (S:=fun J=>c24 e J (a,b,c,d,()) h) (Q:=(k24 e Jn Jr)) (by kernel_rfl) (fun n=>c24_eq e a b c d h n (exK []) (jk K82 Jr)) (k24_eq e Jn Jr)
noncomputable def c19(e:Cx)(J:Q40):Q4
| (a,b,c,d,_),h =>
 bI .i64 (lenS a) h fun f g =>
 J (a,b,c,d,a,f,0,()) g
theorem c19_eq(e a b c d h n ee r):Y e (peel 1 (C [4,0])).1 (mkT K4 (a,b,c,d,())) h n ee r=c19 e (fun t h=>n (mkT K40 t) h) (a,b,c,d,()) h:=by kernel_rfl
noncomputable def c20(e:Cx)(J:Q42):Q40
| (a,b,c,d,f,g,i,_),h =>
 J (a,b,c,d,f,g,i,(decide (i<g)),()) h
theorem c20_eq(e a b c d f g i h n ee r):Y e (peel 1 (C [4,3])).1 (mkT K40 (a,b,c,d,f,g,i,())) h n ee r=c20 e (fun t h=>n (mkT K42 t) h) (a,b,c,d,f,g,i,()) h:=by kernel_rfl
noncomputable def c23(e:Cx)(J:Q40):Q40
| (a,b,c,d,f,g,i,_),h =>
 J (a,b,c,d,f,g,(wr .i64 (i+1)),()) h
theorem c23_eq(e a b c d f g i h n ee r):Y e (peel 1 (C [4,6])).1 (mkT K40 (a,b,c,d,f,g,i,())) h n ee r=c23 e (fun t h=>n (mkT K40 t) h) (a,b,c,d,f,g,i,()) h:=by kernel_rfl
noncomputable def r23(e:Cx)(Jn:Q40)(J6:Q4)(Jr:Q82)(t:P40)(h:AH):Res:=c23 e Jn t h
theorem r23_eq(e Jn J6 Jr):∀ t h,X e (C [4,6]) (mkT K40 t) h (jk K40 Jn) (exK [(6,(jk K4 J6))]) (jk K82 Jr)=r23 e Jn J6 Jr t h
| (a,b,c,d,f,g,i,_),h=>nd_chain' (X:=C [4,6]) (Y:=.skip) 1 (L:=K40) (S:=fun J=>c23 e J (a,b,c,d,f,g,i,()) h) (Q:=Jn) (by kernel_rfl) (fun n=>c23_eq e a b c d f g i h n (exK [(6,(jk K4 J6))]) (jk K82 Jr)) (fun t h=>by kernel_rfl)
noncomputable def c21(e:Cx)(J:Q40):Q40
| (a,b,c,d,f,g,i,_),h =>
 bV (ixS 34 f i) h fun j k =>
 bA (ldA 34 j k) k fun l m =>
 let o:=(al (List.replicate 32 (.int .u8 0)++[.int .u32 0]++[.int .u64 0]) jac m).1
 let p:=(al (List.replicate 32 (.int .u8 0)++[.int .u32 0]++[.int .u64 0]) jac m).2
 bS (st 34 o (.agg l) p) fun q =>
 bV (fA 32 o) q fun s u =>
 bI .u32 (ld s u) u fun v w =>
 cV (e.C nzaz [d,(.int .u64 (wr .u64 v)),(.int .i64 4)] w) fun y z =>
 J (a,b,c,y,f,g,i,()) z
theorem c21_eq(e a b c d f g i h n ee r):Y e (peel 2 (C [4,5,1])).1 (mkT K40 (a,b,c,d,f,g,i,())) h n ee r=c21 e (fun t h=>n (mkT K40 t) h) (a,b,c,d,f,g,i,()) h:=by kernel_rfl
noncomputable def r21(e:Cx)(Jn:Q40)(J6:Q4)(Jr:Q82)(t:P40)(h:AH):Res:=c21 e (r23 e Jn J6 Jr) t h
theorem r21_eq(e Jn J6 Jr):∀ t h,X e (C [4,5]) (mkT K40 t) h (jk K40 Jn) (exK [(6,(jk K4 J6))]) (jk K82 Jr)=r21 e Jn J6 Jr t h
| (c,d,f,g,i,j,k,_),h=>(nd_norm' (X:=(C [4,5])) (a:=C [4,5,0]) (b:=C [4,6]) (L:=K40) (by kernel_rfl) (by kernel_rfl) (by kernel_rfl) (SB:=(r23 e Jn J6 Jr)) (r23_eq e Jn J6 Jr) _ _).trans (nd_block' (X:=C [4,5,0]) (id:=7) (b:=C [4,5,1]) (by kernel_rfl) (nd_chain' (X:=C [4,5,1]) (Y:=.skip) 2 (L:=K40) (S:=fun J=>c21 e J (c,d,f,g,i,j,k,()) h) (Q:=(r23 e Jn J6 Jr)) (by kernel_rfl) (fun n=>c21_eq e c d f g i j k h n (exK [(7,(jk K40 (r23 e Jn J6 Jr))),(6,(jk K4 J6))]) (jk K82 Jr)) (fun t h=>by kernel_rfl)))
noncomputable def k20(e:Cx)(Jn:Q40)(J6:Q4)(Jr:Q82):Q42
| (a,b,c,d,f,g,i,j,_),h =>
 bif j then (r21 e Jn J6 Jr) (a,b,c,d,f,g,i,()) h else J6 (a,b,c,d,()) h
theorem k20_eq(e Jn J6 Jr):∀ t h,X e (C [4,4]) (mkT K42 t) h (jk K40 Jn) (exK [(6,(jk K4 J6))]) (jk K82 Jr)=k20 e Jn J6 Jr t h
| (c,d,f,g,i,j,k,l,_),h=>(nd_norm' (X:=(C [4,4])) (a:=C [4,4,0]) (b:=C [4,5]) (L:=K40) (by kernel_rfl) (by kernel_rfl) (by kernel_rfl) (SB:=(r21 e Jn J6 Jr)) (r21_eq e Jn J6 Jr) _ _).trans (nd_cond' (X:=C [4,4,0]) (a:=C [4,4,0,0]) (b:=C [4,4,1]) (t:=l) (x:=.tmp 62) (by kernel_rfl) (by kernel_rfl) (by kernel_rfl) (by kernel_rfl))
noncomputable def l20(e:Cx)(Jn:Q40)(J6:Q4)(Jr:Q82)(t:P40)(h:AH):Res:=c20 e (k20 e Jn J6 Jr) t h
theorem l20_eq(e Jn J6 Jr):∀ t h,X e (C [4,3]) (mkT K40 t) h (jk K40 Jn) (exK [(6,(jk K4 J6))]) (jk K82 Jr)=l20 e Jn J6 Jr t h
| (a,b,c,d,f,g,i,_),h=>nd_chain' (X:=C [4,3]) (Y:=(C [4,4])) 1 (L:=K42) (S:=fun J=>c20 e J (a,b,c,d,f,g,i,()) h) (Q:=(k20 e Jn J6 Jr)) (by kernel_rfl) (fun n=>c20_eq e a b c d f g i h n (exK [(6,(jk K4 J6))]) (jk K82 Jr)) (k20_eq e Jn J6 Jr)
noncomputable def k19(e:Cx)(Jn:Q4)(Jr:Q82)(t:P40)(h:AH):Res:=jaw (P40) e.F (fun t h n=>l20 e n Jn Jr t h) t h
theorem k19_eq(e Jn Jr):∀ t h,X e (C [4,1]) (mkT K40 t) h (jk K4 Jn) (exK []) (jk K82 Jr)=k19 e Jn Jr t h
| (a,c,d,f,g,i,j,_),h=>nd_block' (X:=C [4,1]) (id:=6) (b:=C [4,2]) (by kernel_rfl) ((nd_loop' (X:=C [4,2]) (b:=C [4,3]) (L:=K40) (by kernel_rfl) (by kernel_rfl) (SB:=fun n=>l20 e n Jn Jr) (fun n=>l20_eq e n Jn Jr) _ _).trans (by kernel_rfl))
noncomputable def r19(e:Cx)(Jn:Q82)(Jr:Q82)(t:P4)(h:AH):Res:=c19 e (k19 e (r24 e Jn Jr) Jr) t h
theorem r19_eq(e Jn Jr):∀ t h,X e (C [4]) (mkT K4 t) h (jk K82 Jn) (exK []) (jk K82 Jr)=r19 e Jn Jr t h
| (c,d,f,g,_),h=>(nd_norm' (X:=(C [4])) (a:=C [4,0]) (b:=C [5]) (L:=K4) (by kernel_rfl) (by kernel_rfl) (by kernel_rfl) (SB:=(r24 e Jn Jr)) (r24_eq e Jn Jr) _ _).trans (nd_chain' (X:=C [4,0]) (Y:=(C [4,1])) 1 (L:=K40) (S:=fun J=>c19 e J (c,d,f,g,()) h) (Q:=(k19 e (r24 e Jn Jr) Jr)) (by kernel_rfl) (fun n=>c19_eq e c d f g h n (exK []) (jk K82 Jr)) (k19_eq e (r24 e Jn Jr) Jr))
noncomputable def c13(e:Cx)(J:Q28):Q4
| (a,b,c,d,_),h =>
 bI .i64 (lenS a) h fun f g =>
 J (a,b,c,d,a,f,0,()) g
theorem c13_eq(e a b c d h n ee r):Y e (peel 1 (C [3,0])).1 (mkT K4 (a,b,c,d,())) h n ee r=c13 e (fun t h=>n (mkT K28 t) h) (a,b,c,d,()) h:=by kernel_rfl
noncomputable def c14(e:Cx)(J:Q30):Q28
| (a,b,c,d,f,g,i,_),h =>
 J (a,b,c,d,f,g,i,(decide (i<g)),()) h
theorem c14_eq(e a b c d f g i h n ee r):Y e (peel 1 (C [3,3])).1 (mkT K28 (a,b,c,d,f,g,i,())) h n ee r=c14 e (fun t h=>n (mkT K30 t) h) (a,b,c,d,f,g,i,()) h:=by kernel_rfl
noncomputable def c18(e:Cx)(J:Q28):Q28
| (a,b,c,d,f,g,i,_),h =>
 J (a,b,c,d,f,g,(wr .i64 (i+1)),()) h
theorem c18_eq(e a b c d f g i h n ee r):Y e (peel 1 (C [3,6])).1 (mkT K28 (a,b,c,d,f,g,i,())) h n ee r=c18 e (fun t h=>n (mkT K28 t) h) (a,b,c,d,f,g,i,()) h:=by kernel_rfl
noncomputable def r18(e:Cx)(Jn:Q28)(J4:Q4)(Jr:Q82)(t:P28)(h:AH):Res:=c18 e Jn t h
theorem r18_eq(e Jn J4 Jr):∀ t h,X e (C [3,6]) (mkT K28 t) h (jk K28 Jn) (exK [(4,(jk K4 J4))]) (jk K82 Jr)=r18 e Jn J4 Jr t h
| (a,b,c,d,f,g,i,_),h=>nd_chain' (X:=C [3,6]) (Y:=.skip) 1 (L:=K28) (S:=fun J=>c18 e J (a,b,c,d,f,g,i,()) h) (Q:=Jn) (by kernel_rfl) (fun n=>c18_eq e a b c d f g i h n (exK [(4,(jk K4 J4))]) (jk K82 Jr)) (fun t h=>by kernel_rfl)
noncomputable def c15(e:Cx)(J:Q28):Q28
| (a,b,c,d,f,g,i,_),h =>
 bV (ixS 34 f i) h fun j k =>
 bA (ldA 34 j k) k fun l m =>
 let o:=(al (List.replicate 32 (.int .u8 0)++[.int .u32 0]++[.int .u64 0]) jac m).1
 let p:=(al (List.replicate 32 (.int .u8 0)++[.int .u32 0]++[.int .u64 0]) jac m).2
 bS (st 34 o (.agg l) p) fun q =>
 bV (fA 0 o) q fun s u =>
 bA (ldA 32 s u) u fun v w =>
 let y:=(al (List.replicate 32 (.int .u8 0)) jab w).1
 let z:=(al (List.replicate 32 (.int .u8 0)) jab w).2
 bS (st 32 y (.agg v) z) fun A =>
 bV (slA 32 1 y none none none A) A fun D E =>
 cV (app 1 1 jai d D E) fun G H =>
 J (a,b,c,G,f,g,i,()) H
theorem c15_eq(e a b c d f g i h n ee r):Y e (peel 3 (C [3,5,1])).1 (mkT K28 (a,b,c,d,f,g,i,())) h n ee r=c15 e (fun t h=>n (mkT K28 t) h) (a,b,c,d,f,g,i,()) h:=by kernel_rfl
noncomputable def r15(e:Cx)(Jn:Q28)(J4:Q4)(Jr:Q82)(t:P28)(h:AH):Res:=c15 e (r18 e Jn J4 Jr) t h
theorem r15_eq(e Jn J4 Jr):∀ t h,X e (C [3,5]) (mkT K28 t) h (jk K28 Jn) (exK [(4,(jk K4 J4))]) (jk K82 Jr)=r15 e Jn J4 Jr t h
| (c,d,f,g,i,j,k,_),h=>(nd_norm' (X:=(C [3,5])) (a:=C [3,5,0]) (b:=C [3,6]) (L:=K28) (by kernel_rfl) (by kernel_rfl) (by kernel_rfl) (SB:=(r18 e Jn J4 Jr)) (r18_eq e Jn J4 Jr) _ _).trans (nd_block' (X:=C [3,5,0]) (id:=5) (b:=C [3,5,1]) (by kernel_rfl) (nd_chain' (X:=C [3,5,1]) (Y:=.skip) 3 (L:=K28) (S:=fun J=>c15 e J (c,d,f,g,i,j,k,()) h) (Q:=(r18 e Jn J4 Jr)) (by kernel_rfl) (fun n=>c15_eq e c d f g i j k h n (exK [(5,(jk K28 (r18 e Jn J4 Jr))),(4,(jk K4 J4))]) (jk K82 Jr)) (fun t h=>by kernel_rfl)))
noncomputable def k14(e:Cx)(Jn:Q28)(J4:Q4)(Jr:Q82):Q30
| (a,b,c,d,f,g,i,j,_),h =>
 bif j then (r15 e Jn J4 Jr) (a,b,c,d,f,g,i,()) h else J4 (a,b,c,d,()) h
theorem k14_eq(e Jn J4 Jr):∀ t h,X e (C [3,4]) (mkT K30 t) h (jk K28 Jn) (exK [(4,(jk K4 J4))]) (jk K82 Jr)=k14 e Jn J4 Jr t h
| (c,d,f,g,i,j,k,l,_),h=>(nd_norm' (X:=(C [3,4])) (a:=C [3,4,0]) (b:=C [3,5]) (L:=K28) (by kernel_rfl) (by kernel_rfl) (by kernel_rfl) (SB:=(r15 e Jn J4 Jr)) (r15_eq e Jn J4 Jr) _ _).trans (nd_cond' (X:=C [3,4,0]) (a:=C [3,4,0,0]) (b:=C [3,4,1]) (t:=l) (x:=.tmp 50) (by kernel_rfl) (by kernel_rfl) (by kernel_rfl) (by kernel_rfl))
noncomputable def l14(e:Cx)(Jn:Q28)(J4:Q4)(Jr:Q82)(t:P28)(h:AH):Res:=c14 e (k14 e Jn J4 Jr) t h
theorem l14_eq(e Jn J4 Jr):∀ t h,X e (C [3,3]) (mkT K28 t) h (jk K28 Jn) (exK [(4,(jk K4 J4))]) (jk K82 Jr)=l14 e Jn J4 Jr t h
| (a,b,c,d,f,g,i,_),h=>nd_chain' (X:=C [3,3]) (Y:=(C [3,4])) 1 (L:=K30) (S:=fun J=>c14 e J (a,b,c,d,f,g,i,()) h) (Q:=(k14 e Jn J4 Jr)) (by kernel_rfl) (fun n=>c14_eq e a b c d f g i h n (exK [(4,(jk K4 J4))]) (jk K82 Jr)) (k14_eq e Jn J4 Jr)
noncomputable def k13(e:Cx)(Jn:Q4)(Jr:Q82)(t:P28)(h:AH):Res:=jaw (P28) e.F (fun t h n=>l14 e n Jn Jr t h) t h
theorem k13_eq(e Jn Jr):∀ t h,X e (C [3,1]) (mkT K28 t) h (jk K4 Jn) (exK []) (jk K82 Jr)=k13 e Jn Jr t h
| (a,c,d,f,g,i,j,_),h=>nd_block' (X:=C [3,1]) (id:=4) (b:=C [3,2]) (by kernel_rfl) ((nd_loop' (X:=C [3,2]) (b:=C [3,3]) (L:=K28) (by kernel_rfl) (by kernel_rfl) (SB:=fun n=>l14 e n Jn Jr) (fun n=>l14_eq e n Jn Jr) _ _).trans (by kernel_rfl))
noncomputable def r13(e:Cx)(Jn:Q82)(Jr:Q82)(t:P4)(h:AH):Res:=c13 e (k13 e (r19 e Jn Jr) Jr) t h
theorem r13_eq(e Jn Jr):∀ t h,X e (C [3]) (mkT K4 t) h (jk K82 Jn) (exK []) (jk K82 Jr)=r13 e Jn Jr t h
| (c,d,f,g,_),h=>(nd_norm' (X:=(C [3])) (a:=C [3,0]) (b:=C [4]) (L:=K4) (by kernel_rfl) (by kernel_rfl) (by kernel_rfl) (SB:=(r19 e Jn Jr)) (r19_eq e Jn Jr) _ _).trans (nd_chain' (X:=C [3,0]) (Y:=(C [3,1])) 1 (L:=K28) (S:=fun J=>c13 e J (c,d,f,g,()) h) (Q:=(k13 e (r19 e Jn Jr) Jr)) (by kernel_rfl) (fun n=>c13_eq e c d f g h n (exK []) (jk K82 Jr)) (k13_eq e (r19 e Jn Jr) Jr))
noncomputable def c2(e:Cx)(J:Q6):Q4
| (a,b,c,d,_),h =>
 J (a,b,c,d,0,()) h
theorem c2_eq(e a b c d h n ee r):Y e (peel 1 (C [2,0])).1 (mkT K4 (a,b,c,d,())) h n ee r=c2 e (fun t h=>n (mkT K6 t) h) (a,b,c,d,()) h:=by kernel_rfl
noncomputable def c4(e:Cx)(J:Q6):Q6
| (a,b,c,d,f,_),h =>
 J (a,b,c,d,(wr .i64 (f+1)),()) h
theorem c4_eq(e a b c d f h n ee r):Y e (peel 1 (C [2,5])).1 (mkT K6 (a,b,c,d,f,())) h n ee r=c4 e (fun t h=>n (mkT K6 t) h) (a,b,c,d,f,()) h:=by kernel_rfl
noncomputable def r4(e:Cx)(Jn:Q6)(J0:Q4)(Jr:Q82)(t:P6)(h:AH):Res:=c4 e Jn t h
theorem r4_eq(e Jn J0 Jr):∀ t h,X e (C [2,5]) (mkT K6 t) h (jk K6 Jn) (exK [(0,(jk K4 J0))]) (jk K82 Jr)=r4 e Jn J0 Jr t h
| (a,b,c,d,f,_),h=>nd_chain' (X:=C [2,5]) (Y:=.skip) 1 (L:=K6) (S:=fun J=>c4 e J (a,b,c,d,f,()) h) (Q:=Jn) (by kernel_rfl) (fun n=>c4_eq e a b c d f h n (exK [(0,(jk K4 J0))]) (jk K82 Jr)) (fun t h=>by kernel_rfl)
noncomputable def c5(e:Cx)(J:Q12):Q6
| (a,b,c,d,f,_),h =>
 J (a,b,c,d,f,0,()) h
theorem c5_eq(e a b c d f h n ee r):Y e (peel 1 (C [2,4,1])).1 (mkT K6 (a,b,c,d,f,())) h n ee r=c5 e (fun t h=>n (mkT K12 t) h) (a,b,c,d,f,()) h:=by kernel_rfl
noncomputable def c12(e:Cx)(J:Q6):Q12
| (a,b,c,d,f,g,_),h =>
 cV (e.C nzaz [d,(.int .u64 (wr .u64 g)),(.int .i64 4)] h) fun i j =>
 J (a,b,c,i,f,()) j
theorem c12_eq(e a b c d f g h n ee r):Y e (peel 1 (C [2,4,3])).1 (mkT K12 (a,b,c,d,f,g,())) h n ee r=c12 e (fun t h=>n (mkT K6 t) h) (a,b,c,d,f,g,()) h:=by kernel_rfl
noncomputable def r12(e:Cx)(Jn:Q6)(J1:Q6)(J0:Q4)(Jr:Q82)(t:P12)(h:AH):Res:=c12 e Jn t h
theorem r12_eq(e Jn J1 J0 Jr):∀ t h,X e (C [2,4,3]) (mkT K12 t) h (jk K6 Jn) (exK [(1,(jk K6 J1)),(0,(jk K4 J0))]) (jk K82 Jr)=r12 e Jn J1 J0 Jr t h
| (a,b,c,d,f,g,_),h=>nd_chain' (X:=C [2,4,3]) (Y:=.skip) 1 (L:=K6) (S:=fun J=>c12 e J (a,b,c,d,f,g,()) h) (Q:=Jn) (by kernel_rfl) (fun n=>c12_eq e a b c d f g h n (exK [(1,(jk K6 J1)),(0,(jk K4 J0))]) (jk K82 Jr)) (fun t h=>by kernel_rfl)
noncomputable def c6(e:Cx)(J:Q14):Q12
| (a,b,c,d,f,g,_),h =>
 bI .i64 (lenS a) h fun i j =>
 J (a,b,c,d,f,g,a,i,0,()) j
theorem c6_eq(e a b c d f g h n ee r):Y e (peel 1 (C [2,4,2,0])).1 (mkT K12 (a,b,c,d,f,g,())) h n ee r=c6 e (fun t h=>n (mkT K14 t) h) (a,b,c,d,f,g,()) h:=by kernel_rfl
noncomputable def c7(e:Cx)(J:Q16):Q14
| (a,b,c,d,f,g,i,j,k,_),h =>
 J (a,b,c,d,f,g,i,j,k,(decide (k<j)),()) h
theorem c7_eq(e a b c d f g i j k h n ee r):Y e (peel 1 (C [2,4,2,3])).1 (mkT K14 (a,b,c,d,f,g,i,j,k,())) h n ee r=c7 e (fun t h=>n (mkT K16 t) h) (a,b,c,d,f,g,i,j,k,()) h:=by kernel_rfl
noncomputable def c11(e:Cx)(J:Q14):Q14
| (a,b,c,d,f,g,i,j,k,_),h =>
 J (a,b,c,d,f,g,i,j,(wr .i64 (k+1)),()) h
theorem c11_eq(e a b c d f g i j k h n ee r):Y e (peel 1 (C [2,4,2,6])).1 (mkT K14 (a,b,c,d,f,g,i,j,k,())) h n ee r=c11 e (fun t h=>n (mkT K14 t) h) (a,b,c,d,f,g,i,j,k,()) h:=by kernel_rfl
noncomputable def r11(e:Cx)(Jn:Q14)(J2:Q12)(J1:Q6)(J0:Q4)(Jr:Q82)(t:P14)(h:AH):Res:=c11 e Jn t h
theorem r11_eq(e Jn J2 J1 J0 Jr):∀ t h,X e (C [2,4,2,6]) (mkT K14 t) h (jk K14 Jn) (exK [(2,(jk K12 J2)),(1,(jk K6 J1)),(0,(jk K4 J0))]) (jk K82 Jr)=r11 e Jn J2 J1 J0 Jr t h
| (a,b,c,d,f,g,i,j,k,_),h=>nd_chain' (X:=C [2,4,2,6]) (Y:=.skip) 1 (L:=K14) (S:=fun J=>c11 e J (a,b,c,d,f,g,i,j,k,()) h) (Q:=Jn) (by kernel_rfl) (fun n=>c11_eq e a b c d f g i j k h n (exK [(2,(jk K12 J2)),(1,(jk K6 J1)),(0,(jk K4 J0))]) (jk K82 Jr)) (fun t h=>by kernel_rfl)
noncomputable def c8(e:Cx)(J:Q20):Q14
| (a,b,c,d,f,g,i,j,k,_),h =>
 bV (ixS 34 i k) h fun l m =>
 bA (ldA 34 l m) m fun o p =>
 let q:=(al (List.replicate 32 (.int .u8 0)++[.int .u32 0]++[.int .u64 0]) jac p).1
 let s:=(al (List.replicate 32 (.int .u8 0)++[.int .u32 0]++[.int .u64 0]) jac p).2
 bS (st 34 q (.agg o) s) fun u =>
 bV (fA 0 q) u fun v w =>
 bV (ixA 32 1 v 0) w fun y z =>
 bI .u8 (ld y z) z fun A D =>
 J (a,b,c,d,f,g,i,j,k,(decide ((wr .i64 A)≤f)),()) D
theorem c8_eq(e a b c d f g i j k h n ee r):Y e (peel 2 (C [2,4,2,5,1])).1 (mkT K14 (a,b,c,d,f,g,i,j,k,())) h n ee r=c8 e (fun t h=>n (mkT K20 t) h) (a,b,c,d,f,g,i,j,k,()) h:=by kernel_rfl
noncomputable def c10(e:Cx)(J:Q14):Q20
| (a,b,c,d,f,g,i,j,k,l,_),h =>
 J (a,b,c,d,f,(wr .i64 (g+1)),i,j,k,()) h
theorem c10_eq(e a b c d f g i j k l h n ee r):Y e (peel 1 (C [2,4,2,5,3,0])).1 (mkT K20 (a,b,c,d,f,g,i,j,k,l,())) h n ee r=c10 e (fun t h=>n (mkT K14 t) h) (a,b,c,d,f,g,i,j,k,l,()) h:=by kernel_rfl
noncomputable def k9(e:Cx)(Jn:Q14)(J3:Q14)(J2:Q12)(J1:Q6)(J0:Q4)(Jr:Q82):Q20
| (a,b,c,d,f,g,i,j,k,l,_),h =>
 bif l then c10 e Jn (a,b,c,d,f,g,i,j,k,l,()) h else Jn (a,b,c,d,f,g,i,j,k,()) h
theorem k9_eq(e Jn J3 J2 J1 J0 Jr):∀ t h,X e (C [2,4,2,5,3]) (mkT K20 t) h (jk K14 Jn) (exK [(3,(jk K14 J3)),(2,(jk K12 J2)),(1,(jk K6 J1)),(0,(jk K4 J0))]) (jk K82 Jr)=k9 e Jn J3 J2 J1 J0 Jr t h
| (c,d,f,g,i,j,k,l,m,o,_),h=>nd_cond' (X:=C [2,4,2,5,3]) (a:=C [2,4,2,5,3,0]) (b:=C [2,4,2,5,4]) (t:=o) (x:=.tmp 39) (by kernel_rfl) (by kernel_rfl) (nd_chain' (X:=C [2,4,2,5,3,0]) (Y:=.skip) 1 (L:=K14) (S:=fun J=>c10 e J (c,d,f,g,i,j,k,l,m,o,()) h) (Q:=Jn) (by kernel_rfl) (fun n=>c10_eq e c d f g i j k l m o h n (exK [(3,(jk K14 J3)),(2,(jk K12 J2)),(1,(jk K6 J1)),(0,(jk K4 J0))]) (jk K82 Jr)) (fun t h=>by kernel_rfl)) (by kernel_rfl)
noncomputable def r8(e:Cx)(Jn:Q14)(J2:Q12)(J1:Q6)(J0:Q4)(Jr:Q82)(t:P14)(h:AH):Res:=c8 e (k9 e (r11 e Jn J2 J1 J0 Jr) (r11 e Jn J2 J1 J0 Jr) J2 J1 J0 Jr) t h
theorem r8_eq(e Jn J2 J1 J0 Jr):∀ t h,X e (C [2,4,2,5]) (mkT K14 t) h (jk K14 Jn) (exK [(2,(jk K12 J2)),(1,(jk K6 J1)),(0,(jk K4 J0))]) (jk K82 Jr)=r8 e Jn J2 J1 J0 Jr t h
| (c,d,f,g,i,j,k,l,m,_),h=>(nd_norm' (X:=(C [2,4,2,5])) (a:=C [2,4,2,5,0]) (b:=C [2,4,2,6]) (L:=K14) (by kernel_rfl) (by kernel_rfl) (by kernel_rfl) (SB:=(r11 e Jn J2 J1 J0 Jr)) (r11_eq e Jn J2 J1 J0 Jr) _ _).trans (nd_block' (X:=C [2,4,2,5,0]) (id:=3) (b:=C [2,4,2,5,1]) (by kernel_rfl) (nd_chain' (X:=C [2,4,2,5,1]) (Y:=(C [2,4,2,5,3])) 2 (L:=K20) (S:=fun J=>c8 e J (c,d,f,g,i,j,k,l,m,()) h) (Q:=(k9 e (r11 e Jn J2 J1 J0 Jr) (r11 e Jn J2 J1 J0 Jr) J2 J1 J0 Jr)) (by kernel_rfl) (fun n=>c8_eq e c d f g i j k l m h n (exK [(3,(jk K14 (r11 e Jn J2 J1 J0 Jr))),(2,(jk K12 J2)),(1,(jk K6 J1)),(0,(jk K4 J0))]) (jk K82 Jr)) (k9_eq e (r11 e Jn J2 J1 J0 Jr) (r11 e Jn J2 J1 J0 Jr) J2 J1 J0 Jr)))
noncomputable def k7(e:Cx)(Jn:Q14)(J2:Q12)(J1:Q6)(J0:Q4)(Jr:Q82):Q16
| (a,b,c,d,f,g,i,j,k,l,_),h =>
 bif l then (r8 e Jn J2 J1 J0 Jr) (a,b,c,d,f,g,i,j,k,()) h else J2 (a,b,c,d,f,g,()) h
theorem k7_eq(e Jn J2 J1 J0 Jr):∀ t h,X e (C [2,4,2,4]) (mkT K16 t) h (jk K14 Jn) (exK [(2,(jk K12 J2)),(1,(jk K6 J1)),(0,(jk K4 J0))]) (jk K82 Jr)=k7 e Jn J2 J1 J0 Jr t h
| (c,d,f,g,i,j,k,l,m,o,_),h=>(nd_norm' (X:=(C [2,4,2,4])) (a:=C [2,4,2,4,0]) (b:=C [2,4,2,5]) (L:=K14) (by kernel_rfl) (by kernel_rfl) (by kernel_rfl) (SB:=(r8 e Jn J2 J1 J0 Jr)) (r8_eq e Jn J2 J1 J0 Jr) _ _).trans (nd_cond' (X:=C [2,4,2,4,0]) (a:=C [2,4,2,4,0,0]) (b:=C [2,4,2,4,1]) (t:=o) (x:=.tmp 31) (by kernel_rfl) (by kernel_rfl) (by kernel_rfl) (by kernel_rfl))
noncomputable def l7(e:Cx)(Jn:Q14)(J2:Q12)(J1:Q6)(J0:Q4)(Jr:Q82)(t:P14)(h:AH):Res:=c7 e (k7 e Jn J2 J1 J0 Jr) t h
theorem l7_eq(e Jn J2 J1 J0 Jr):∀ t h,X e (C [2,4,2,3]) (mkT K14 t) h (jk K14 Jn) (exK [(2,(jk K12 J2)),(1,(jk K6 J1)),(0,(jk K4 J0))]) (jk K82 Jr)=l7 e Jn J2 J1 J0 Jr t h
| (a,b,c,d,f,g,i,j,k,_),h=>nd_chain' (X:=C [2,4,2,3]) (Y:=(C [2,4,2,4])) 1 (L:=K16) (S:=fun J=>c7 e J (a,b,c,d,f,g,i,j,k,()) h) (Q:=(k7 e Jn J2 J1 J0 Jr)) (by kernel_rfl) (fun n=>c7_eq e a b c d f g i j k h n (exK [(2,(jk K12 J2)),(1,(jk K6 J1)),(0,(jk K4 J0))]) (jk K82 Jr)) (k7_eq e Jn J2 J1 J0 Jr)
noncomputable def k6(e:Cx)(Jn:Q12)(J1:Q6)(J0:Q4)(Jr:Q82)(t:P14)(h:AH):Res:=jaw (P14) e.F (fun t h n=>l7 e n Jn J1 J0 Jr t h) t h
theorem k6_eq(e Jn J1 J0 Jr):∀ t h,X e (C [2,4,2,1]) (mkT K14 t) h (jk K12 Jn) (exK [(1,(jk K6 J1)),(0,(jk K4 J0))]) (jk K82 Jr)=k6 e Jn J1 J0 Jr t h
| (a,c,d,f,g,i,j,k,l,_),h=>nd_block' (X:=C [2,4,2,1]) (id:=2) (b:=C [2,4,2,2]) (by kernel_rfl) ((nd_loop' (X:=C [2,4,2,2]) (b:=C [2,4,2,3]) (L:=K14) (by kernel_rfl) (by kernel_rfl) (SB:=fun n=>l7 e n Jn J1 J0 Jr) (fun n=>l7_eq e n Jn J1 J0 Jr) _ _).trans (by kernel_rfl))
noncomputable def k5(e:Cx)(Jn:Q6)(J1:Q6)(J0:Q4)(Jr:Q82)(t:P12)(h:AH):Res:=c6 e (k6 e (r12 e Jn J1 J0 Jr) J1 J0 Jr) t h
theorem k5_eq(e Jn J1 J0 Jr):∀ t h,X e (C [2,4,2]) (mkT K12 t) h (jk K6 Jn) (exK [(1,(jk K6 J1)),(0,(jk K4 J0))]) (jk K82 Jr)=k5 e Jn J1 J0 Jr t h
| (c,d,f,g,i,j,_),h=>(nd_norm' (X:=(C [2,4,2])) (a:=C [2,4,2,0]) (b:=C [2,4,3]) (L:=K12) (by kernel_rfl) (by kernel_rfl) (by kernel_rfl) (SB:=(r12 e Jn J1 J0 Jr)) (r12_eq e Jn J1 J0 Jr) _ _).trans (nd_chain' (X:=C [2,4,2,0]) (Y:=(C [2,4,2,1])) 1 (L:=K14) (S:=fun J=>c6 e J (c,d,f,g,i,j,()) h) (Q:=(k6 e (r12 e Jn J1 J0 Jr) J1 J0 Jr)) (by kernel_rfl) (fun n=>c6_eq e c d f g i j h n (exK [(1,(jk K6 J1)),(0,(jk K4 J0))]) (jk K82 Jr)) (k6_eq e (r12 e Jn J1 J0 Jr) J1 J0 Jr))
noncomputable def r5(e:Cx)(Jn:Q6)(J0:Q4)(Jr:Q82)(t:P6)(h:AH):Res:=c5 e (k5 e (r4 e Jn J0 Jr) (r4 e Jn J0 Jr) J0 Jr) t h
theorem r5_eq(e Jn J0 Jr):∀ t h,X e (C [2,4]) (mkT K6 t) h (jk K6 Jn) (exK [(0,(jk K4 J0))]) (jk K82 Jr)=r5 e Jn J0 Jr t h
| (c,d,f,g,i,_),h=>(nd_norm' (X:=(C [2,4])) (a:=C [2,4,0]) (b:=C [2,5]) (L:=K6) (by kernel_rfl) (by kernel_rfl) (by kernel_rfl) (SB:=(r4 e Jn J0 Jr)) (r4_eq e Jn J0 Jr) _ _).trans (nd_block' (X:=C [2,4,0]) (id:=1) (b:=C [2,4,1]) (by kernel_rfl) (nd_chain' (X:=C [2,4,1]) (Y:=(C [2,4,2])) 1 (L:=K12) (S:=fun J=>c5 e J (c,d,f,g,i,()) h) (Q:=(k5 e (r4 e Jn J0 Jr) (r4 e Jn J0 Jr) J0 Jr)) (by kernel_rfl) (fun n=>c5_eq e c d f g i h n (exK [(1,(jk K6 (r4 e Jn J0 Jr))),(0,(jk K4 J0))]) (jk K82 Jr)) (k5_eq e (r4 e Jn J0 Jr) (r4 e Jn J0 Jr) J0 Jr)))
noncomputable def c3(e:Cx)(J:Q8):Q6
| (a,b,c,d,f,_),h =>
 J (a,b,c,d,f,(decide (f<256)),()) h
theorem c3_eq(e a b c d f h n ee r):Y e (peel 1 (C [2,3,0])).1 (mkT K6 (a,b,c,d,f,())) h n ee r=c3 e (fun t h=>n (mkT K8 t) h) (a,b,c,d,f,()) h:=by kernel_rfl
noncomputable def k3(e:Cx)(Jn:Q6)(J0:Q4)(Jr:Q82):Q8
| (a,b,c,d,f,g,_),h =>
 bif g then Jn (a,b,c,d,f,()) h else J0 (a,b,c,d,()) h
theorem k3_eq(e Jn J0 Jr):∀ t h,X e (C [2,3,1]) (mkT K8 t) h (jk K6 Jn) (exK [(0,(jk K4 J0))]) (jk K82 Jr)=k3 e Jn J0 Jr t h
| (c,d,f,g,i,j,_),h=>nd_cond' (X:=C [2,3,1]) (a:=C [2,3,1,0]) (b:=C [2,3,2]) (t:=j) (x:=.tmp 25) (by kernel_rfl) (by kernel_rfl) (by kernel_rfl) (by kernel_rfl)
noncomputable def l3(e:Cx)(Jn:Q6)(J0:Q4)(Jr:Q82)(t:P6)(h:AH):Res:=c3 e (k3 e (r5 e Jn J0 Jr) J0 Jr) t h
theorem l3_eq(e Jn J0 Jr):∀ t h,X e (C [2,3]) (mkT K6 t) h (jk K6 Jn) (exK [(0,(jk K4 J0))]) (jk K82 Jr)=l3 e Jn J0 Jr t h
| (c,d,f,g,i,_),h=>(nd_norm' (X:=(C [2,3])) (a:=C [2,3,0]) (b:=C [2,4]) (L:=K6) (by kernel_rfl) (by kernel_rfl) (by kernel_rfl) (SB:=(r5 e Jn J0 Jr)) (r5_eq e Jn J0 Jr) _ _).trans (nd_chain' (X:=C [2,3,0]) (Y:=(C [2,3,1])) 1 (L:=K8) (S:=fun J=>c3 e J (c,d,f,g,i,()) h) (Q:=(k3 e (r5 e Jn J0 Jr) J0 Jr)) (by kernel_rfl) (fun n=>c3_eq e c d f g i h n (exK [(0,(jk K4 J0))]) (jk K82 Jr)) (k3_eq e (r5 e Jn J0 Jr) J0 Jr))
noncomputable def k2(e:Cx)(Jn:Q4)(Jr:Q82)(t:P6)(h:AH):Res:=jaw (P6) e.F (fun t h n=>l3 e n Jn Jr t h) t h
theorem k2_eq(e Jn Jr):∀ t h,X e (C [2,1]) (mkT K6 t) h (jk K4 Jn) (exK []) (jk K82 Jr)=k2 e Jn Jr t h
| (a,c,d,f,g,_),h=>nd_block' (X:=C [2,1]) (id:=0) (b:=C [2,2]) (by kernel_rfl) ((nd_loop' (X:=C [2,2]) (b:=C [2,3]) (L:=K6) (by kernel_rfl) (by kernel_rfl) (SB:=fun n=>l3 e n Jn Jr) (fun n=>l3_eq e n Jn Jr) _ _).trans (by kernel_rfl))
noncomputable def k1(e:Cx)(Jn:Q82)(Jr:Q82)(t:P4)(h:AH):Res:=c2 e (k2 e (r13 e Jn Jr) Jr) t h
theorem k1_eq(e Jn Jr):∀ t h,X e (C [2]) (mkT K4 t) h (jk K82 Jn) (exK []) (jk K82 Jr)=k1 e Jn Jr t h
| (c,d,f,g,_),h=>(nd_norm' (X:=(C [2])) (a:=C [2,0]) (b:=C [3]) (L:=K4) (by kernel_rfl) (by kernel_rfl) (by kernel_rfl) (SB:=(r13 e Jn Jr)) (r13_eq e Jn Jr) _ _).trans (nd_chain' (X:=C [2,0]) (Y:=(C [2,1])) 1 (L:=K6) (S:=fun J=>c2 e J (c,d,f,g,()) h) (Q:=(k2 e (r13 e Jn Jr) Jr)) (by kernel_rfl) (fun n=>c2_eq e c d f g h n (exK []) (jk K82 Jr)) (k2_eq e (r13 e Jn Jr) Jr))
noncomputable def fn(e:Cx)(a:V)(b:V)(c:List V)(h:AH):Res :=
 c0 e (k1 e ret ret) (a,b,c,()) h
theorem run(e:Cx)(a:V)(b:V)(d:List V)(h:AH):execFn (cfgS e) (jbi lv) e.F nzba [a,b,(.agg d)] h=fn e a b d h:=by
 refine (fn_eq (c:=cfgS e) (lv:=lv) (PP.funcs.getD 21 default) B (by kernel_rfl) (by kernel_rfl) (Nat.le_of_ble_eq_true (by kernel_rfl))).trans ?_
 rw [ret_eq]
 exact nd_chain' (X:=C [0]) (Y:=(C [2])) 2 (L:=K4) (S:=fun J=>c0 e J (a,b,d,()) h) (Q:=(k1 e ret ret)) (by kernel_rfl) (fun n=>c0_eq e a b d h n (exK []) (jk K82 ret)) (k1_eq e ret ret)
end zba
namespace zbk
noncomputable def B:Code:=cBody (PP.funcs.getD 22 default)
abbrev K2:Slots:=[(0,.any)]
abbrev P2:=V×Unit
abbrev Q2:=P2→AH→Res
abbrev K4:Slots:=[(0,.any),(4,.bool)]
abbrev P4:=V×Bool×Unit
abbrev Q4:=P4→AH→Res
abbrev K6:Slots:=[(2,.any)]
abbrev P6:=V×Unit
abbrev Q6:=P6→AH→Res
noncomputable def lv:=lvT [(2,K2),(4,K4),(6,K6),(7,K2),(8,K6)]
abbrev KR:Slots:=[(2,.any)]
abbrev PR:=V×Unit
abbrev QR:=PR→AH→Res
noncomputable abbrev X (e:Cx):=exL (cfgS e) lv 8 e.F
noncomputable abbrev Y (e:Cx):=runL (cfgS e) lv 8 e.F
noncomputable abbrev C (p:List Nat):=cP p B
noncomputable def ret:Q6
| (a,_),h=>finW [some a] h
theorem ret_eq(e:Cx):fin (cfgS e) (jbi lv) (PP.funcs.getD 22 default)=jk K6 ret:=by kernel_rfl
noncomputable def c0(e:Cx)(J:Q2):V×Unit→AH→Res
| (a,_),h =>
 J (a,()) h
theorem c0_eq(e a h n ee r):Y e (peel 1 (C [0])).1 (iniT [a] 0 .leaf) h n ee r=c0 e (fun t h=>n (mkT K2 t) h) (a,()) h:=by kernel_rfl
noncomputable def c3(e:Cx)(J:Q6):Q2
| (a,_),h =>
 cV (bsl 34 0 [] (List.replicate 32 (.int .u8 0)++[.int .u32 0]++[.int .u64 0]) jak h) fun b c =>
 cV (app 34 48 jak b a c) fun d f =>
 J (d,()) f
theorem c3_eq(e a h n ee r):Y e (peel 1 (C [2])).1 (mkT K2 (a,())) h n ee r=c3 e (fun t h=>n (mkT K6 t) h) (a,()) h:=by kernel_rfl
noncomputable def r3(e:Cx)(Jn:Q6)(Jr:Q6)(t:P2)(h:AH):Res:=c3 e Jr t h
theorem r3_eq(e Jn Jr):∀ t h,X e (C [2]) (mkT K2 t) h (jk K6 Jn) (exK []) (jk K6 Jr)=r3 e Jn Jr t h
| (a,_),h=>nd_chain' (X:=C [2]) (Y:=(C [3])) 1 (L:=K6) (S:=fun J=>c3 e J (a,()) h) (Q:=Jr) (by kernel_rfl) (fun n=>c3_eq e a h n (exK []) (jk K6 Jr)) (fun t h=>by kernel_rfl)
noncomputable def c1(e:Cx)(J:Q4):Q2
| (a,_),h =>
 bB (eqW PP true T_s_packidx_Row a (.nilslice)) h fun b c =>
 J (a,b,()) c
theorem c1_eq(e a h n ee r):Y e (peel 1 (C [1,0])).1 (mkT K2 (a,())) h n ee r=c1 e (fun t h=>n (mkT K4 t) h) (a,()) h:=by kernel_rfl
noncomputable def c2(e:Cx)(J:Q6):Q4
| (a,b,_),h =>
 J ((.nilslice),()) h
theorem c2_eq(e a b h n ee r):Y e (peel 1 (C [1,1,0])).1 (mkT K4 (a,b,())) h n ee r=c2 e (fun t h=>n (mkT K6 t) h) (a,b,()) h:=by kernel_rfl
noncomputable def k1(e:Cx)(Jn:Q2)(Jr:Q6):Q4
| (a,b,_),h =>
 bif b then c2 e Jr (a,b,()) h else Jn (a,()) h
theorem k1_eq(e Jn Jr):∀ t h,X e (C [1,1]) (mkT K4 t) h (jk K2 Jn) (exK []) (jk K6 Jr)=k1 e Jn Jr t h
| (c,d,_),h=>nd_cond' (X:=C [1,1]) (a:=C [1,1,0]) (b:=C [1,2]) (t:=d) (x:=.tmp 4) (by kernel_rfl) (by kernel_rfl) (nd_chain' (X:=C [1,1,0]) (Y:=(C [1,1,1])) 1 (L:=K6) (S:=fun J=>c2 e J (c,d,()) h) (Q:=Jr) (by kernel_rfl) (fun n=>c2_eq e c d h n (exK []) (jk K6 Jr)) (fun t h=>by kernel_rfl)) (by kernel_rfl)
noncomputable def k0(e:Cx)(Jn:Q6)(Jr:Q6)(t:P2)(h:AH):Res:=c1 e (k1 e (r3 e Jn Jr) Jr) t h
theorem k0_eq(e Jn Jr):∀ t h,X e (C [1]) (mkT K2 t) h (jk K6 Jn) (exK []) (jk K6 Jr)=k0 e Jn Jr t h
| (c,_),h=>(nd_norm' (X:=(C [1])) (a:=C [1,0]) (b:=C [2]) (L:=K2) (by kernel_rfl) (by kernel_rfl) (by kernel_rfl) (SB:=(r3 e Jn Jr)) (r3_eq e Jn Jr) _ _).trans (nd_chain' (X:=C [1,0]) (Y:=(C [1,1])) 1 (L:=K4) (S:=fun J=>c1 e J (c,()) h) (Q:=(k1 e (r3 e Jn Jr) Jr)) (by kernel_rfl) (fun n=>c1_eq e c h n (exK []) (jk K6 Jr)) (k1_eq e (r3 e Jn Jr) Jr))
noncomputable def fn(e:Cx)(a:V)(h:AH):Res :=
 c0 e (k0 e ret ret) (a,()) h
theorem run(e:Cx)(a:V)(h:AH):execFn (cfgS e) (jbi lv) e.F nzbk [a] h=fn e a h:=by
 refine (fn_eq (c:=cfgS e) (lv:=lv) (PP.funcs.getD 22 default) B (by kernel_rfl) (by kernel_rfl) (Nat.le_of_ble_eq_true (by kernel_rfl))).trans ?_
 rw [ret_eq]
 exact nd_chain' (X:=C [0]) (Y:=(C [1])) 1 (L:=K2) (S:=fun J=>c0 e J (a,()) h) (Q:=(k0 e ret ret)) (by kernel_rfl) (fun n=>c0_eq e a h n (exK []) (jk K6 ret)) (k0_eq e ret ret)
end zbk
namespace zbn
noncomputable def B:Code:=cBody (PP.funcs.getD 23 default)
abbrev K2:Slots:=[(0,.any),(1,.any),(4,.int .i64)]
abbrev P2:=V×V×Int×Unit
abbrev Q2:=P2→AH→Res
abbrev K4:Slots:=[]
abbrev P4:=Unit
abbrev Q4:=P4→AH→Res
noncomputable def lv:=lvT [(2,K2),(4,K4)]
abbrev KR:Slots:=[]
abbrev PR:=Unit
abbrev QR:=PR→AH→Res
noncomputable abbrev X (e:Cx):=exL (cfgS e) lv 14 e.F
noncomputable abbrev Y (e:Cx):=runL (cfgS e) lv 14 e.F
noncomputable abbrev C (p:List Nat):=cP p B
noncomputable def ret:Q4
| (_),h=>finW [] h
theorem ret_eq(e:Cx):fin (cfgS e) (jbi lv) (PP.funcs.getD 23 default)=jk K4 ret:=by kernel_rfl
noncomputable def c0(e:Cx)(J:Q4):V×V×Unit→AH→Res
| (a,b,_),h =>
 bI .i64 (lenS a) h fun c d =>
 cI .i64 (e.C nzag [(.int .u64 (wr .u64 c))] d) fun f g =>
 cV (e.C nzbz [a,(.int .i64 0),(.int .i64 c),(.int .i64 f),b] g) fun i j =>
 J (()) j
theorem c0_eq(e a b h n ee r):Y e (peel 2 (C [0])).1 (iniT [a,b] 0 .leaf) h n ee r=c0 e (fun t h=>n (mkT K4 t) h) (a,b,()) h:=by kernel_rfl
noncomputable def fn(e:Cx)(a:V)(b:V)(h:AH):Res :=
 c0 e ret (a,b,()) h
theorem run(e:Cx)(a:V)(b:V)(h:AH):execFn (cfgS e) (jbi lv) e.F nzbn [a,b] h=fn e a b h:=by
 refine (fn_eq (c:=cfgS e) (lv:=lv) (PP.funcs.getD 23 default) B (by kernel_rfl) (by kernel_rfl) (Nat.le_of_ble_eq_true (by kernel_rfl))).trans ?_
 rw [ret_eq]
 exact nd_chain' (X:=C [0]) (Y:=.skip) 2 (L:=K4) (S:=fun J=>c0 e J (a,b,()) h) (Q:=ret) (by kernel_rfl) (fun n=>c0_eq e a b h n (exK []) (jk K4 ret)) (fun t h=>by kernel_rfl)
end zbn
namespace zao
noncomputable def B:Code:=cBody (PP.funcs.getD 24 default)
abbrev K2:Slots:=[(2,.any),(3,.any)]
abbrev P2:=V×V×Unit
abbrev Q2:=P2→AH→Res
abbrev K4:Slots:=[(4,.int .i64)]
abbrev P4:=Int×Unit
abbrev Q4:=P4→AH→Res
noncomputable def lv:=lvT [(2,K2),(4,K4)]
abbrev KR:Slots:=[(4,.any)]
abbrev PR:=V×Unit
abbrev QR:=PR→AH→Res
noncomputable abbrev X (e:Cx):=exL (cfgS e) lv 10 e.F
noncomputable abbrev Y (e:Cx):=runL (cfgS e) lv 10 e.F
noncomputable abbrev C (p:List Nat):=cP p B
noncomputable def ret:QR
| (a,_),h=>finW [some a] h
theorem ret_eq(e:Cx):fin (cfgS e) (jbi lv) (PP.funcs.getD 24 default)=jk KR ret:=by kernel_rfl
noncomputable def c0(e:Cx)(J:Q4):List V×List V×Unit→AH→Res
| (a,b,_),h =>
 cV (absBox jak (.agg a) h) fun c d =>
 cV (absBox jak (.agg b) d) fun f g =>
 bV (fA 0 c) g fun i j =>
 bA (ldA 32 i j) j fun k l =>
 bV (fA 0 f) l fun m o =>
 bA (ldA 32 m o) o fun p q =>
 cI .i64 (e.C nzbg [(.agg k),(.agg p)] q) fun s u =>
 J (s,()) u
theorem c0_eq(e a b h n ee r):Y e (peel 2 (C [0])).1 (iniT [(.agg a),(.agg b)] 0 .leaf) h n ee r=c0 e (fun t h=>n (mkT K4 t) h) (a,b,()) h:=by kernel_rfl
noncomputable def fn(e:Cx)(a:List V)(b:List V)(h:AH):Res :=
 c0 e (fun | (c,_),d=>ret ((.int .i64 c),()) d) (a,b,()) h
theorem run(e:Cx)(a:List V)(b:List V)(h:AH):execFn (cfgS e) (jbi lv) e.F nzao [(.agg a),(.agg b)] h=fn e a b h:=by
 refine (fn_eq (c:=cfgS e) (lv:=lv) (PP.funcs.getD 24 default) B (by kernel_rfl) (by kernel_rfl) (Nat.le_of_ble_eq_true (by kernel_rfl))).trans ?_
 rw [ret_eq]
 exact nd_chain' (X:=C [0]) (Y:=(C [2])) 2 (L:=K4) (S:=fun J=>c0 e J (a,b,()) h) (Q:=fun | (d,_),f=>ret ((.int .i64 d),()) f) (by kernel_rfl) (fun n=>c0_eq e a b h n (exK []) (jk KR ret)) (fun | (d,_),f=>by kernel_rfl)
end zao
namespace zap
noncomputable def B:Code:=cBody (PP.funcs.getD 25 default)
abbrev K2:Slots:=[(0,.any),(2,.any)]
abbrev P2:=V×V×Unit
abbrev Q2:=P2→AH→Res
abbrev K4:Slots:=[(0,.any),(2,.any),(3,.any)]
abbrev P4:=V×V×V×Unit
abbrev Q4:=P4→AH→Res
abbrev K6:Slots:=[(2,.any),(3,.any),(7,.any),(8,.int .i64),(9,.int .i64)]
abbrev P6:=V×V×V×Int×Int×Unit
abbrev Q6:=P6→AH→Res
abbrev K8:Slots:=[(2,.any),(3,.any),(7,.any),(8,.int .i64),(9,.int .i64),(10,.bool)]
abbrev P8:=V×V×V×Int×Int×Bool×Unit
abbrev Q8:=P8→AH→Res
abbrev K10:Slots:=[(2,.any),(3,.any),(5,.any),(7,.any),(8,.int .i64),(9,.int .i64)]
abbrev P10:=V×V×V×V×Int×Int×Unit
abbrev Q10:=P10→AH→Res
abbrev K15:Slots:=[(2,.any),(3,.any)]
abbrev P15:=V×V×Unit
abbrev Q15:=P15→AH→Res
abbrev K16:Slots:=[(2,.any),(3,.any),(6,.int .i64)]
abbrev P16:=V×V×Int×Unit
abbrev Q16:=P16→AH→Res
abbrev K18:Slots:=[(2,.any),(3,.any),(6,.int .i64),(22,.bool)]
abbrev P18:=V×V×Int×Bool×Unit
abbrev Q18:=P18→AH→Res
abbrev K24:Slots:=[(2,.any)]
abbrev P24:=V×Unit
abbrev Q24:=P24→AH→Res
noncomputable def lv:=lvT [(2,K2),(4,K4),(6,K6),(8,K8),(9,K6),(10,K10),(12,K6),(13,K6),(14,K6),(7,K6),(15,K15),(16,K16),(18,K18),(21,K16),(22,K16),(19,K16),(20,K16),(17,K16),(23,K15),(24,K24)]
abbrev KR:Slots:=[(2,.any)]
abbrev PR:=V×Unit
abbrev QR:=PR→AH→Res
noncomputable abbrev X (e:Cx):=exL (cfgS e) lv 35 e.F
noncomputable abbrev Y (e:Cx):=runL (cfgS e) lv 35 e.F
noncomputable abbrev C (p:List Nat):=cP p B
noncomputable def ret:Q24
| (a,_),h=>finW [ldA 256 a h] h
theorem ret_eq(e:Cx):fin (cfgS e) (jbi lv) (PP.funcs.getD 25 default)=jk K24 ret:=by kernel_rfl
noncomputable def c0(e:Cx)(J:Q4):V×Unit→AH→Res
| (a,_),h =>
 let b:=(al (List.replicate 256 (.int .i64 0)) jbl h).1
 let c:=(al (List.replicate 256 (.int .i64 0)) jbl h).2
 let d:=(al (List.replicate 256 (.int .i64 0)) jbl c).1
 let f:=(al (List.replicate 256 (.int .i64 0)) jbl c).2
 J (a,b,d,()) f
theorem c0_eq(e a h n ee r):Y e (peel 2 (C [0])).1 (iniT [a] 0 .leaf) h n ee r=c0 e (fun t h=>n (mkT K4 t) h) (a,()) h:=by kernel_rfl
noncomputable def c11(e:Cx)(J:Q24):Q15
| (a,b,_),h =>
 bA (ldA 256 b h) h fun c d =>
 bS (st 256 a (.agg c) d) fun f =>
 J (a,()) f
theorem c11_eq(e a b h n ee r):Y e (peel 1 (C [4])).1 (mkT K15 (a,b,())) h n ee r=c11 e (fun t h=>n (mkT K24 t) h) (a,b,()) h:=by kernel_rfl
noncomputable def r11(e:Cx)(Jn:Q24)(Jr:Q24)(t:P15)(h:AH):Res:=c11 e Jr t h
theorem r11_eq(e Jn Jr):∀ t h,X e (C [4]) (mkT K15 t) h (jk K24 Jn) (exK []) (jk K24 Jr)=r11 e Jn Jr t h
| (a,b,_),h=>nd_chain' (X:=C [4]) (Y:=(C [5])) 1 (L:=K24) (S:=fun J=>c11 e J (a,b,()) h) (Q:=Jr) (by kernel_rfl) (fun n=>c11_eq e a b h n (exK []) (jk K24 Jr)) (fun t h=>by kernel_rfl)
noncomputable def c7(e:Cx)(J:Q16):Q15
| (a,b,_),h =>
 J (a,b,1,()) h
theorem c7_eq(e a b h n ee r):Y e (peel 1 (C [3,0])).1 (mkT K15 (a,b,())) h n ee r=c7 e (fun t h=>n (mkT K16 t) h) (a,b,()) h:=by kernel_rfl
noncomputable def c9(e:Cx)(J:Q16):Q16
| (a,b,c,_),h =>
 J (a,b,(wr .i64 (c+1)),()) h
theorem c9_eq(e a b c h n ee r):Y e (peel 1 (C [3,5])).1 (mkT K16 (a,b,c,())) h n ee r=c9 e (fun t h=>n (mkT K16 t) h) (a,b,c,()) h:=by kernel_rfl
noncomputable def r9(e:Cx)(Jn:Q16)(J2:Q15)(Jr:Q24)(t:P16)(h:AH):Res:=c9 e Jn t h
theorem r9_eq(e Jn J2 Jr):∀ t h,X e (C [3,5]) (mkT K16 t) h (jk K16 Jn) (exK [(2,(jk K15 J2))]) (jk K24 Jr)=r9 e Jn J2 Jr t h
| (a,b,c,_),h=>nd_chain' (X:=C [3,5]) (Y:=.skip) 1 (L:=K16) (S:=fun J=>c9 e J (a,b,c,()) h) (Q:=Jn) (by kernel_rfl) (fun n=>c9_eq e a b c h n (exK [(2,(jk K15 J2))]) (jk K24 Jr)) (fun t h=>by kernel_rfl)
noncomputable def c10(e:Cx)(J:Q16):Q16
| (a,b,c,_),h =>
 bV (ixA 256 1 b c) h fun d f =>
 bI .i64 (ld d f) f fun g i =>
 bV (ixA 256 1 b (wr .i64 (c-1))) i fun j k =>
 bI .i64 (ld j k) k fun l m =>
 bV (ixA 256 1 b c) m fun o p =>
 bS (st 1 o (.int .i64 (wr .i64 (g+l))) p) fun q =>
 J (a,b,c,()) q
theorem c10_eq(e a b c h n ee r):Y e (peel 1 (C [3,4,1])).1 (mkT K16 (a,b,c,())) h n ee r=c10 e (fun t h=>n (mkT K16 t) h) (a,b,c,()) h:=by kernel_rfl
noncomputable def r10(e:Cx)(Jn:Q16)(J2:Q15)(Jr:Q24)(t:P16)(h:AH):Res:=c10 e (r9 e Jn J2 Jr) t h
theorem r10_eq(e Jn J2 Jr):∀ t h,X e (C [3,4]) (mkT K16 t) h (jk K16 Jn) (exK [(2,(jk K15 J2))]) (jk K24 Jr)=r10 e Jn J2 Jr t h
| (c,d,f,_),h=>(nd_norm' (X:=(C [3,4])) (a:=C [3,4,0]) (b:=C [3,5]) (L:=K16) (by kernel_rfl) (by kernel_rfl) (by kernel_rfl) (SB:=(r9 e Jn J2 Jr)) (r9_eq e Jn J2 Jr) _ _).trans (nd_block' (X:=C [3,4,0]) (id:=3) (b:=C [3,4,1]) (by kernel_rfl) (nd_chain' (X:=C [3,4,1]) (Y:=.skip) 1 (L:=K16) (S:=fun J=>c10 e J (c,d,f,()) h) (Q:=(r9 e Jn J2 Jr)) (by kernel_rfl) (fun n=>c10_eq e c d f h n (exK [(3,(jk K16 (r9 e Jn J2 Jr))),(2,(jk K15 J2))]) (jk K24 Jr)) (fun t h=>by kernel_rfl)))
noncomputable def c8(e:Cx)(J:Q18):Q16
| (a,b,c,_),h =>
 J (a,b,c,(decide (c<256)),()) h
theorem c8_eq(e a b c h n ee r):Y e (peel 1 (C [3,3,0])).1 (mkT K16 (a,b,c,())) h n ee r=c8 e (fun t h=>n (mkT K18 t) h) (a,b,c,()) h:=by kernel_rfl
noncomputable def k8(e:Cx)(Jn:Q16)(J2:Q15)(Jr:Q24):Q18
| (a,b,c,d,_),h =>
 bif d then Jn (a,b,c,()) h else J2 (a,b,()) h
theorem k8_eq(e Jn J2 Jr):∀ t h,X e (C [3,3,1]) (mkT K18 t) h (jk K16 Jn) (exK [(2,(jk K15 J2))]) (jk K24 Jr)=k8 e Jn J2 Jr t h
| (c,d,f,g,_),h=>nd_cond' (X:=C [3,3,1]) (a:=C [3,3,1,0]) (b:=C [3,3,2]) (t:=g) (x:=.tmp 22) (by kernel_rfl) (by kernel_rfl) (by kernel_rfl) (by kernel_rfl)
noncomputable def l8(e:Cx)(Jn:Q16)(J2:Q15)(Jr:Q24)(t:P16)(h:AH):Res:=c8 e (k8 e (r10 e Jn J2 Jr) J2 Jr) t h
theorem l8_eq(e Jn J2 Jr):∀ t h,X e (C [3,3]) (mkT K16 t) h (jk K16 Jn) (exK [(2,(jk K15 J2))]) (jk K24 Jr)=l8 e Jn J2 Jr t h
| (c,d,f,_),h=>(nd_norm' (X:=(C [3,3])) (a:=C [3,3,0]) (b:=C [3,4]) (L:=K16) (by kernel_rfl) (by kernel_rfl) (by kernel_rfl) (SB:=(r10 e Jn J2 Jr)) (r10_eq e Jn J2 Jr) _ _).trans (nd_chain' (X:=C [3,3,0]) (Y:=(C [3,3,1])) 1 (L:=K18) (S:=fun J=>c8 e J (c,d,f,()) h) (Q:=(k8 e (r10 e Jn J2 Jr) J2 Jr)) (by kernel_rfl) (fun n=>c8_eq e c d f h n (exK [(2,(jk K15 J2))]) (jk K24 Jr)) (k8_eq e (r10 e Jn J2 Jr) J2 Jr))
noncomputable def k7(e:Cx)(Jn:Q15)(Jr:Q24)(t:P16)(h:AH):Res:=jaw (P16) e.F (fun t h n=>l8 e n Jn Jr t h) t h
theorem k7_eq(e Jn Jr):∀ t h,X e (C [3,1]) (mkT K16 t) h (jk K15 Jn) (exK []) (jk K24 Jr)=k7 e Jn Jr t h
| (a,c,d,_),h=>nd_block' (X:=C [3,1]) (id:=2) (b:=C [3,2]) (by kernel_rfl) ((nd_loop' (X:=C [3,2]) (b:=C [3,3]) (L:=K16) (by kernel_rfl) (by kernel_rfl) (SB:=fun n=>l8 e n Jn Jr) (fun n=>l8_eq e n Jn Jr) _ _).trans (by kernel_rfl))
noncomputable def r7(e:Cx)(Jn:Q24)(Jr:Q24)(t:P15)(h:AH):Res:=c7 e (k7 e (r11 e Jn Jr) Jr) t h
theorem r7_eq(e Jn Jr):∀ t h,X e (C [3]) (mkT K15 t) h (jk K24 Jn) (exK []) (jk K24 Jr)=r7 e Jn Jr t h
| (c,d,_),h=>(nd_norm' (X:=(C [3])) (a:=C [3,0]) (b:=C [4]) (L:=K15) (by kernel_rfl) (by kernel_rfl) (by kernel_rfl) (SB:=(r11 e Jn Jr)) (r11_eq e Jn Jr) _ _).trans (nd_chain' (X:=C [3,0]) (Y:=(C [3,1])) 1 (L:=K16) (S:=fun J=>c7 e J (c,d,()) h) (Q:=(k7 e (r11 e Jn Jr) Jr)) (by kernel_rfl) (fun n=>c7_eq e c d h n (exK []) (jk K24 Jr)) (k7_eq e (r11 e Jn Jr) Jr))
noncomputable def c2(e:Cx)(J:Q6):Q4
| (a,b,c,_),h =>
 bI .i64 (lenS a) h fun d f =>
 J (b,c,a,d,0,()) f
theorem c2_eq(e a b c h n ee r):Y e (peel 1 (C [2,0])).1 (mkT K4 (a,b,c,())) h n ee r=c2 e (fun t h=>n (mkT K6 t) h) (a,b,c,()) h:=by kernel_rfl
noncomputable def c3(e:Cx)(J:Q8):Q6
| (a,b,c,d,f,_),h =>
 J (a,b,c,d,f,(decide (f<d)),()) h
theorem c3_eq(e a b c d f h n ee r):Y e (peel 1 (C [2,3])).1 (mkT K6 (a,b,c,d,f,())) h n ee r=c3 e (fun t h=>n (mkT K8 t) h) (a,b,c,d,f,()) h:=by kernel_rfl
noncomputable def c6(e:Cx)(J:Q6):Q6
| (a,b,c,d,f,_),h =>
 J (a,b,c,d,(wr .i64 (f+1)),()) h
theorem c6_eq(e a b c d f h n ee r):Y e (peel 1 (C [2,6])).1 (mkT K6 (a,b,c,d,f,())) h n ee r=c6 e (fun t h=>n (mkT K6 t) h) (a,b,c,d,f,()) h:=by kernel_rfl
noncomputable def r6(e:Cx)(Jn:Q6)(J0:Q15)(Jr:Q24)(t:P6)(h:AH):Res:=c6 e Jn t h
theorem r6_eq(e Jn J0 Jr):∀ t h,X e (C [2,6]) (mkT K6 t) h (jk K6 Jn) (exK [(0,(jk K15 J0))]) (jk K24 Jr)=r6 e Jn J0 Jr t h
| (a,b,c,d,f,_),h=>nd_chain' (X:=C [2,6]) (Y:=.skip) 1 (L:=K6) (S:=fun J=>c6 e J (a,b,c,d,f,()) h) (Q:=Jn) (by kernel_rfl) (fun n=>c6_eq e a b c d f h n (exK [(0,(jk K15 J0))]) (jk K24 Jr)) (fun t h=>by kernel_rfl)
noncomputable def c4(e:Cx)(J:Q6):Q6
| (a,b,c,d,f,_),h =>
 bV (ixS 34 c f) h fun g i =>
 bA (ldA 34 g i) i fun j k =>
 let l:=(al (List.replicate 32 (.int .u8 0)++[.int .u32 0]++[.int .u64 0]) jak k).1
 let m:=(al (List.replicate 32 (.int .u8 0)++[.int .u32 0]++[.int .u64 0]) jak k).2
 bS (st 34 l (.agg j) m) fun o =>
 bV (fA 0 l) o fun p q =>
 bV (ixA 32 1 p 0) q fun s u =>
 bI .u8 (ld s u) u fun v w =>
 bV (ixA 256 1 b v) w fun y z =>
 bI .i64 (ld y z) z fun A D =>
 bV (ixA 256 1 b v) D fun E G =>
 bS (st 1 E (.int .i64 (wr .i64 (A+1))) G) fun H =>
 J (a,b,c,d,f,()) H
theorem c4_eq(e a b c d f h n ee r):Y e (peel 2 (C [2,5,1])).1 (mkT K6 (a,b,c,d,f,())) h n ee r=c4 e (fun t h=>n (mkT K6 t) h) (a,b,c,d,f,()) h:=by kernel_rfl
noncomputable def r4(e:Cx)(Jn:Q6)(J0:Q15)(Jr:Q24)(t:P6)(h:AH):Res:=c4 e (r6 e Jn J0 Jr) t h
theorem r4_eq(e Jn J0 Jr):∀ t h,X e (C [2,5]) (mkT K6 t) h (jk K6 Jn) (exK [(0,(jk K15 J0))]) (jk K24 Jr)=r4 e Jn J0 Jr t h
| (c,d,f,g,i,_),h=>(nd_norm' (X:=(C [2,5])) (a:=C [2,5,0]) (b:=C [2,6]) (L:=K6) (by kernel_rfl) (by kernel_rfl) (by kernel_rfl) (SB:=(r6 e Jn J0 Jr)) (r6_eq e Jn J0 Jr) _ _).trans (nd_block' (X:=C [2,5,0]) (id:=1) (b:=C [2,5,1]) (by kernel_rfl) (nd_chain' (X:=C [2,5,1]) (Y:=.skip) 2 (L:=K6) (S:=fun J=>c4 e J (c,d,f,g,i,()) h) (Q:=(r6 e Jn J0 Jr)) (by kernel_rfl) (fun n=>c4_eq e c d f g i h n (exK [(1,(jk K6 (r6 e Jn J0 Jr))),(0,(jk K15 J0))]) (jk K24 Jr)) (fun t h=>by kernel_rfl)))
noncomputable def k3(e:Cx)(Jn:Q6)(J0:Q15)(Jr:Q24):Q8
| (a,b,c,d,f,g,_),h =>
 bif g then (r4 e Jn J0 Jr) (a,b,c,d,f,()) h else J0 (a,b,()) h
theorem k3_eq(e Jn J0 Jr):∀ t h,X e (C [2,4]) (mkT K8 t) h (jk K6 Jn) (exK [(0,(jk K15 J0))]) (jk K24 Jr)=k3 e Jn J0 Jr t h
| (c,d,f,g,i,j,_),h=>(nd_norm' (X:=(C [2,4])) (a:=C [2,4,0]) (b:=C [2,5]) (L:=K6) (by kernel_rfl) (by kernel_rfl) (by kernel_rfl) (SB:=(r4 e Jn J0 Jr)) (r4_eq e Jn J0 Jr) _ _).trans (nd_cond' (X:=C [2,4,0]) (a:=C [2,4,0,0]) (b:=C [2,4,1]) (t:=j) (x:=.tmp 10) (by kernel_rfl) (by kernel_rfl) (by kernel_rfl) (by kernel_rfl))
noncomputable def l3(e:Cx)(Jn:Q6)(J0:Q15)(Jr:Q24)(t:P6)(h:AH):Res:=c3 e (k3 e Jn J0 Jr) t h
theorem l3_eq(e Jn J0 Jr):∀ t h,X e (C [2,3]) (mkT K6 t) h (jk K6 Jn) (exK [(0,(jk K15 J0))]) (jk K24 Jr)=l3 e Jn J0 Jr t h
| (a,b,c,d,f,_),h=>nd_chain' (X:=C [2,3]) (Y:=(C [2,4])) 1 (L:=K8) (S:=fun J=>c3 e J (a,b,c,d,f,()) h) (Q:=(k3 e Jn J0 Jr)) (by kernel_rfl) (fun n=>c3_eq e a b c d f h n (exK [(0,(jk K15 J0))]) (jk K24 Jr)) (k3_eq e Jn J0 Jr)
noncomputable def k2(e:Cx)(Jn:Q15)(Jr:Q24)(t:P6)(h:AH):Res:=jaw (P6) e.F (fun t h n=>l3 e n Jn Jr t h) t h
theorem k2_eq(e Jn Jr):∀ t h,X e (C [2,1]) (mkT K6 t) h (jk K15 Jn) (exK []) (jk K24 Jr)=k2 e Jn Jr t h
| (a,c,d,f,g,_),h=>nd_block' (X:=C [2,1]) (id:=0) (b:=C [2,2]) (by kernel_rfl) ((nd_loop' (X:=C [2,2]) (b:=C [2,3]) (L:=K6) (by kernel_rfl) (by kernel_rfl) (SB:=fun n=>l3 e n Jn Jr) (fun n=>l3_eq e n Jn Jr) _ _).trans (by kernel_rfl))
noncomputable def k1(e:Cx)(Jn:Q24)(Jr:Q24)(t:P4)(h:AH):Res:=c2 e (k2 e (r7 e Jn Jr) Jr) t h
theorem k1_eq(e Jn Jr):∀ t h,X e (C [2]) (mkT K4 t) h (jk K24 Jn) (exK []) (jk K24 Jr)=k1 e Jn Jr t h
| (c,d,f,_),h=>(nd_norm' (X:=(C [2])) (a:=C [2,0]) (b:=C [3]) (L:=K15) (by kernel_rfl) (by kernel_rfl) (by kernel_rfl) (SB:=(r7 e Jn Jr)) (r7_eq e Jn Jr) _ _).trans (nd_chain' (X:=C [2,0]) (Y:=(C [2,1])) 1 (L:=K6) (S:=fun J=>c2 e J (c,d,f,()) h) (Q:=(k2 e (r7 e Jn Jr) Jr)) (by kernel_rfl) (fun n=>c2_eq e c d f h n (exK []) (jk K24 Jr)) (k2_eq e (r7 e Jn Jr) Jr))
noncomputable def fn(e:Cx)(a:V)(h:AH):Res :=
 c0 e (k1 e ret ret) (a,()) h
theorem run(e:Cx)(a:V)(h:AH):execFn (cfgS e) (jbi lv) e.F nzap [a] h=fn e a h:=by
 refine (fn_eq (c:=cfgS e) (lv:=lv) (PP.funcs.getD 25 default) B (by kernel_rfl) (by kernel_rfl) (Nat.le_of_ble_eq_true (by kernel_rfl))).trans ?_
 rw [ret_eq]
 exact nd_chain' (X:=C [0]) (Y:=(C [2])) 2 (L:=K4) (S:=fun J=>c0 e J (a,()) h) (Q:=(k1 e ret ret)) (by kernel_rfl) (fun n=>c0_eq e a h n (exK []) (jk K24 ret)) (k1_eq e ret ret)
end zap
namespace zan
noncomputable def B:Code:=cBody (PP.funcs.getD 26 default)
abbrev K2:Slots:=[(0,.any),(1,.int .u64),(2,.int .i64)]
abbrev P2:=V×Int×Int×Unit
abbrev Q2:=P2→AH→Res
abbrev K4:Slots:=[(0,.any),(1,.int .u64),(7,.int .i64)]
abbrev P4:=V×Int×Int×Unit
abbrev Q4:=P4→AH→Res
abbrev K6:Slots:=[(0,.any),(1,.int .u64),(7,.int .i64),(11,.bool)]
abbrev P6:=V×Int×Int×Bool×Unit
abbrev Q6:=P6→AH→Res
abbrev K11:Slots:=[(0,.any)]
abbrev P11:=V×Unit
abbrev Q11:=P11→AH→Res
abbrev K12:Slots:=[(6,.any)]
abbrev P12:=V×Unit
abbrev Q12:=P12→AH→Res
noncomputable def lv:=lvT [(2,K2),(4,K4),(6,K6),(9,K4),(10,K4),(7,K4),(8,K4),(5,K4),(11,K11),(12,K12)]
abbrev KR:Slots:=[(6,.any)]
abbrev PR:=V×Unit
abbrev QR:=PR→AH→Res
noncomputable abbrev X (e:Cx):=exL (cfgS e) lv 23 e.F
noncomputable abbrev Y (e:Cx):=runL (cfgS e) lv 23 e.F
noncomputable abbrev C (p:List Nat):=cP p B
noncomputable def ret:Q12
| (a,_),h=>finW [some a] h
theorem ret_eq(e:Cx):fin (cfgS e) (jbi lv) (PP.funcs.getD 26 default)=jk K12 ret:=by kernel_rfl
noncomputable def c0(e:Cx)(J:Q2):V×Int×Int×Unit→AH→Res
| (a,b,c,_),h =>
 J (a,b,c,()) h
theorem c0_eq(e a b c h n ee r):Y e (peel 1 (C [0])).1 (iniT [a,(.int .u64 b),(.int .i64 c)] 0 .leaf) h n ee r=c0 e (fun t h=>n (mkT K2 t) h) (a,b,c,()) h:=by kernel_rfl
noncomputable def c5(e:Cx)(J:Q12):Q11
| (a,_),h =>
 J (a,()) h
theorem c5_eq(e a h n ee r):Y e (peel 1 (C [2])).1 (mkT K11 (a,())) h n ee r=c5 e (fun t h=>n (mkT K12 t) h) (a,()) h:=by kernel_rfl
noncomputable def r5(e:Cx)(Jn:Q12)(Jr:Q12)(t:P11)(h:AH):Res:=c5 e Jr t h
theorem r5_eq(e Jn Jr):∀ t h,X e (C [2]) (mkT K11 t) h (jk K12 Jn) (exK []) (jk K12 Jr)=r5 e Jn Jr t h
| (a,_),h=>nd_chain' (X:=C [2]) (Y:=(C [3])) 1 (L:=K12) (S:=fun J=>c5 e J (a,()) h) (Q:=Jr) (by kernel_rfl) (fun n=>c5_eq e a h n (exK []) (jk K12 Jr)) (fun t h=>by kernel_rfl)
noncomputable def c1(e:Cx)(J:Q4):Q2
| (a,b,c,_),h =>
 J (a,b,(wr .i64 (c-1)),()) h
theorem c1_eq(e a b c h n ee r):Y e (peel 1 (C [1,0])).1 (mkT K2 (a,b,c,())) h n ee r=c1 e (fun t h=>n (mkT K4 t) h) (a,b,c,()) h:=by kernel_rfl
noncomputable def c3(e:Cx)(J:Q4):Q4
| (a,b,c,_),h =>
 J (a,b,(wr .i64 (c-1)),()) h
theorem c3_eq(e a b c h n ee r):Y e (peel 1 (C [1,5])).1 (mkT K4 (a,b,c,())) h n ee r=c3 e (fun t h=>n (mkT K4 t) h) (a,b,c,()) h:=by kernel_rfl
noncomputable def r3(e:Cx)(Jn:Q4)(J0:Q11)(Jr:Q12)(t:P4)(h:AH):Res:=c3 e Jn t h
theorem r3_eq(e Jn J0 Jr):∀ t h,X e (C [1,5]) (mkT K4 t) h (jk K4 Jn) (exK [(0,(jk K11 J0))]) (jk K12 Jr)=r3 e Jn J0 Jr t h
| (a,b,c,_),h=>nd_chain' (X:=C [1,5]) (Y:=.skip) 1 (L:=K4) (S:=fun J=>c3 e J (a,b,c,()) h) (Q:=Jn) (by kernel_rfl) (fun n=>c3_eq e a b c h n (exK [(0,(jk K11 J0))]) (jk K12 Jr)) (fun t h=>by kernel_rfl)
noncomputable def c4(e:Cx)(J:Q4):Q4
| (a,b,c,_),h =>
 bI .u64 (if (wr .i64 (8*c))<0 then none else some (.int .u64 (ishr .u64 b (wr .i64 (8*c))))) h fun d f =>
 cV (bsl 1 1 [(0,1,(.int .u8 (wr .u8 d)))] [.int .u8 0] jai f) fun g i =>
 cV (app 1 1 jai a g i) fun j k =>
 J (j,b,c,()) k
theorem c4_eq(e a b c h n ee r):Y e (peel 1 (C [1,4,1])).1 (mkT K4 (a,b,c,())) h n ee r=c4 e (fun t h=>n (mkT K4 t) h) (a,b,c,()) h:=by kernel_rfl
noncomputable def r4(e:Cx)(Jn:Q4)(J0:Q11)(Jr:Q12)(t:P4)(h:AH):Res:=c4 e (r3 e Jn J0 Jr) t h
theorem r4_eq(e Jn J0 Jr):∀ t h,X e (C [1,4]) (mkT K4 t) h (jk K4 Jn) (exK [(0,(jk K11 J0))]) (jk K12 Jr)=r4 e Jn J0 Jr t h
| (c,d,f,_),h=>(nd_norm' (X:=(C [1,4])) (a:=C [1,4,0]) (b:=C [1,5]) (L:=K4) (by kernel_rfl) (by kernel_rfl) (by kernel_rfl) (SB:=(r3 e Jn J0 Jr)) (r3_eq e Jn J0 Jr) _ _).trans (nd_block' (X:=C [1,4,0]) (id:=1) (b:=C [1,4,1]) (by kernel_rfl) (nd_chain' (X:=C [1,4,1]) (Y:=.skip) 1 (L:=K4) (S:=fun J=>c4 e J (c,d,f,()) h) (Q:=(r3 e Jn J0 Jr)) (by kernel_rfl) (fun n=>c4_eq e c d f h n (exK [(1,(jk K4 (r3 e Jn J0 Jr))),(0,(jk K11 J0))]) (jk K12 Jr)) (fun t h=>by kernel_rfl)))
noncomputable def c2(e:Cx)(J:Q6):Q4
| (a,b,c,_),h =>
 J (a,b,c,(decide (c≥0)),()) h
theorem c2_eq(e a b c h n ee r):Y e (peel 1 (C [1,3,0])).1 (mkT K4 (a,b,c,())) h n ee r=c2 e (fun t h=>n (mkT K6 t) h) (a,b,c,()) h:=by kernel_rfl
noncomputable def k2(e:Cx)(Jn:Q4)(J0:Q11)(Jr:Q12):Q6
| (a,b,c,d,_),h =>
 bif d then Jn (a,b,c,()) h else J0 (a,()) h
theorem k2_eq(e Jn J0 Jr):∀ t h,X e (C [1,3,1]) (mkT K6 t) h (jk K4 Jn) (exK [(0,(jk K11 J0))]) (jk K12 Jr)=k2 e Jn J0 Jr t h
| (c,d,f,g,_),h=>nd_cond' (X:=C [1,3,1]) (a:=C [1,3,1,0]) (b:=C [1,3,2]) (t:=g) (x:=.tmp 11) (by kernel_rfl) (by kernel_rfl) (by kernel_rfl) (by kernel_rfl)
noncomputable def l2(e:Cx)(Jn:Q4)(J0:Q11)(Jr:Q12)(t:P4)(h:AH):Res:=c2 e (k2 e (r4 e Jn J0 Jr) J0 Jr) t h
theorem l2_eq(e Jn J0 Jr):∀ t h,X e (C [1,3]) (mkT K4 t) h (jk K4 Jn) (exK [(0,(jk K11 J0))]) (jk K12 Jr)=l2 e Jn J0 Jr t h
| (c,d,f,_),h=>(nd_norm' (X:=(C [1,3])) (a:=C [1,3,0]) (b:=C [1,4]) (L:=K4) (by kernel_rfl) (by kernel_rfl) (by kernel_rfl) (SB:=(r4 e Jn J0 Jr)) (r4_eq e Jn J0 Jr) _ _).trans (nd_chain' (X:=C [1,3,0]) (Y:=(C [1,3,1])) 1 (L:=K6) (S:=fun J=>c2 e J (c,d,f,()) h) (Q:=(k2 e (r4 e Jn J0 Jr) J0 Jr)) (by kernel_rfl) (fun n=>c2_eq e c d f h n (exK [(0,(jk K11 J0))]) (jk K12 Jr)) (k2_eq e (r4 e Jn J0 Jr) J0 Jr))
noncomputable def k1(e:Cx)(Jn:Q11)(Jr:Q12)(t:P4)(h:AH):Res:=jaw (P4) e.F (fun t h n=>l2 e n Jn Jr t h) t h
theorem k1_eq(e Jn Jr):∀ t h,X e (C [1,1]) (mkT K4 t) h (jk K11 Jn) (exK []) (jk K12 Jr)=k1 e Jn Jr t h
| (a,c,d,_),h=>nd_block' (X:=C [1,1]) (id:=0) (b:=C [1,2]) (by kernel_rfl) ((nd_loop' (X:=C [1,2]) (b:=C [1,3]) (L:=K4) (by kernel_rfl) (by kernel_rfl) (SB:=fun n=>l2 e n Jn Jr) (fun n=>l2_eq e n Jn Jr) _ _).trans (by kernel_rfl))
noncomputable def k0(e:Cx)(Jn:Q12)(Jr:Q12)(t:P2)(h:AH):Res:=c1 e (k1 e (r5 e Jn Jr) Jr) t h
theorem k0_eq(e Jn Jr):∀ t h,X e (C [1]) (mkT K2 t) h (jk K12 Jn) (exK []) (jk K12 Jr)=k0 e Jn Jr t h
| (c,d,f,_),h=>(nd_norm' (X:=(C [1])) (a:=C [1,0]) (b:=C [2]) (L:=K11) (by kernel_rfl) (by kernel_rfl) (by kernel_rfl) (SB:=(r5 e Jn Jr)) (r5_eq e Jn Jr) _ _).trans (nd_chain' (X:=C [1,0]) (Y:=(C [1,1])) 1 (L:=K4) (S:=fun J=>c1 e J (c,d,f,()) h) (Q:=(k1 e (r5 e Jn Jr) Jr)) (by kernel_rfl) (fun n=>c1_eq e c d f h n (exK []) (jk K12 Jr)) (k1_eq e (r5 e Jn Jr) Jr))
noncomputable def fn(e:Cx)(a:V)(b:Int)(c:Int)(h:AH):Res :=
 c0 e (k0 e ret ret) (a,b,c,()) h
theorem run(e:Cx)(a:V)(b:Int)(d:Int)(h:AH):execFn (cfgS e) (jbi lv) e.F nzan [a,(.int .u64 b),(.int .i64 d)] h=fn e a b d h:=by
 refine (fn_eq (c:=cfgS e) (lv:=lv) (PP.funcs.getD 26 default) B (by kernel_rfl) (by kernel_rfl) (Nat.le_of_ble_eq_true (by kernel_rfl))).trans ?_
 rw [ret_eq]
 exact nd_chain' (X:=C [0]) (Y:=(C [1])) 1 (L:=K2) (S:=fun J=>c0 e J (a,b,d,()) h) (Q:=(k0 e ret ret)) (by kernel_rfl) (fun n=>c0_eq e a b d h n (exK []) (jk K12 ret)) (k0_eq e ret ret)
end zan
namespace zbl
noncomputable def B:Code:=cBody (PP.funcs.getD 27 default)
abbrev K2:Slots:=[(0,.any)]
abbrev P2:=V×Unit
abbrev Q2:=P2→AH→Res
abbrev K4:Slots:=[(0,.any),(3,.int .i64)]
abbrev P4:=V×Int×Unit
abbrev Q4:=P4→AH→Res
abbrev K6:Slots:=[(0,.any),(3,.int .i64),(9,.any),(10,.int .i64),(11,.int .i64)]
abbrev P6:=V×Int×V×Int×Int×Unit
abbrev Q6:=P6→AH→Res
abbrev K8:Slots:=[(0,.any),(3,.int .i64),(9,.any),(10,.int .i64),(11,.int .i64),(12,.bool)]
abbrev P8:=V×Int×V×Int×Int×Bool×Unit
abbrev Q8:=P8→AH→Res
abbrev K10:Slots:=[(0,.any),(3,.int .i64),(5,.any),(9,.any),(10,.int .i64),(11,.int .i64)]
abbrev P10:=V×Int×V×V×Int×Int×Unit
abbrev Q10:=P10→AH→Res
abbrev K14:Slots:=[(0,.any),(3,.int .i64),(9,.any),(10,.int .i64),(11,.int .i64),(20,.bool)]
abbrev P14:=V×Int×V×Int×Int×Bool×Unit
abbrev Q14:=P14→AH→Res
abbrev K20:Slots:=[(0,.any),(6,.any)]
abbrev P20:=V×V×Unit
abbrev Q20:=P20→AH→Res
abbrev K22:Slots:=[(6,.any),(25,.any),(26,.int .i64),(27,.int .i64)]
abbrev P22:=V×V×Int×Int×Unit
abbrev Q22:=P22→AH→Res
abbrev K24:Slots:=[(6,.any),(25,.any),(26,.int .i64),(27,.int .i64),(28,.bool)]
abbrev P24:=V×V×Int×Int×Bool×Unit
abbrev Q24:=P24→AH→Res
abbrev K26:Slots:=[(6,.any),(8,.any),(25,.any),(26,.int .i64),(27,.int .i64)]
abbrev P26:=V×V×V×Int×Int×Unit
abbrev Q26:=P26→AH→Res
abbrev K31:Slots:=[(6,.any)]
abbrev P31:=V×Unit
abbrev Q31:=P31→AH→Res
abbrev K32:Slots:=[(2,.any)]
abbrev P32:=V×Unit
abbrev Q32:=P32→AH→Res
noncomputable def lv:=lvT [(2,K2),(4,K4),(6,K6),(8,K8),(9,K6),(10,K10),(12,K6),(14,K14),(16,K6),(17,K6),(18,K6),(7,K6),(19,K4),(20,K20),(22,K22),(24,K24),(25,K22),(26,K26),(28,K22),(29,K22),(30,K22),(23,K22),(31,K31),(32,K32)]
abbrev KR:Slots:=[(2,.any)]
abbrev PR:=V×Unit
abbrev QR:=PR→AH→Res
noncomputable abbrev X (e:Cx):=exL (cfgS e) lv 36 e.F
noncomputable abbrev Y (e:Cx):=runL (cfgS e) lv 36 e.F
noncomputable abbrev C (p:List Nat):=cP p B
noncomputable def ret:Q32
| (a,_),h=>finW [some a] h
theorem ret_eq(e:Cx):fin (cfgS e) (jbi lv) (PP.funcs.getD 27 default)=jk K32 ret:=by kernel_rfl
noncomputable def c0(e:Cx)(J:Q4):V×Unit→AH→Res
| (a,_),h =>
 J (a,0,()) h
theorem c0_eq(e a h n ee r):Y e (peel 2 (C [0])).1 (iniT [a] 0 .leaf) h n ee r=c0 e (fun t h=>n (mkT K4 t) h) (a,()) h:=by kernel_rfl
noncomputable def c9(e:Cx)(J:Q20):Q4
| (a,b,_),h =>
 cV (e.C nzbm [(.nilslice),(.int .i64 b)] h) fun c d =>
 J (a,c,()) d
theorem c9_eq(e a b h n ee r):Y e (peel 1 (C [3])).1 (mkT K4 (a,b,())) h n ee r=c9 e (fun t h=>n (mkT K20 t) h) (a,b,()) h:=by kernel_rfl
noncomputable def c15(e:Cx)(J:Q32):Q31
| (a,_),h =>
 J (a,()) h
theorem c15_eq(e a h n ee r):Y e (peel 1 (C [5])).1 (mkT K31 (a,())) h n ee r=c15 e (fun t h=>n (mkT K32 t) h) (a,()) h:=by kernel_rfl
noncomputable def r15(e:Cx)(Jn:Q32)(Jr:Q32)(t:P31)(h:AH):Res:=c15 e Jr t h
theorem r15_eq(e Jn Jr):∀ t h,X e (C [5]) (mkT K31 t) h (jk K32 Jn) (exK []) (jk K32 Jr)=r15 e Jn Jr t h
| (a,_),h=>nd_chain' (X:=C [5]) (Y:=(C [6])) 1 (L:=K32) (S:=fun J=>c15 e J (a,()) h) (Q:=Jr) (by kernel_rfl) (fun n=>c15_eq e a h n (exK []) (jk K32 Jr)) (fun t h=>by kernel_rfl)
noncomputable def c10(e:Cx)(J:Q22):Q20
| (a,b,_),h =>
 bI .i64 (lenS a) h fun c d =>
 J (b,a,c,0,()) d
theorem c10_eq(e a b h n ee r):Y e (peel 1 (C [4,0])).1 (mkT K20 (a,b,())) h n ee r=c10 e (fun t h=>n (mkT K22 t) h) (a,b,()) h:=by kernel_rfl
noncomputable def c11(e:Cx)(J:Q24):Q22
| (a,b,c,d,_),h =>
 J (a,b,c,d,(decide (d<c)),()) h
theorem c11_eq(e a b c d h n ee r):Y e (peel 1 (C [4,3])).1 (mkT K22 (a,b,c,d,())) h n ee r=c11 e (fun t h=>n (mkT K24 t) h) (a,b,c,d,()) h:=by kernel_rfl
noncomputable def c14(e:Cx)(J:Q22):Q22
| (a,b,c,d,_),h =>
 J (a,b,c,(wr .i64 (d+1)),()) h
theorem c14_eq(e a b c d h n ee r):Y e (peel 1 (C [4,6])).1 (mkT K22 (a,b,c,d,())) h n ee r=c14 e (fun t h=>n (mkT K22 t) h) (a,b,c,d,()) h:=by kernel_rfl
noncomputable def r14(e:Cx)(Jn:Q22)(J2:Q31)(Jr:Q32)(t:P22)(h:AH):Res:=c14 e Jn t h
theorem r14_eq(e Jn J2 Jr):∀ t h,X e (C [4,6]) (mkT K22 t) h (jk K22 Jn) (exK [(2,(jk K31 J2))]) (jk K32 Jr)=r14 e Jn J2 Jr t h
| (a,b,c,d,_),h=>nd_chain' (X:=C [4,6]) (Y:=.skip) 1 (L:=K22) (S:=fun J=>c14 e J (a,b,c,d,()) h) (Q:=Jn) (by kernel_rfl) (fun n=>c14_eq e a b c d h n (exK [(2,(jk K31 J2))]) (jk K32 Jr)) (fun t h=>by kernel_rfl)
noncomputable def c12(e:Cx)(J:Q22):Q22
| (a,b,c,d,_),h =>
 bV (ixS 1 b d) h fun f g =>
 bV (ld f g) g fun i j =>
 cV (app 1 1 jai a i j) fun k l =>
 J (k,b,c,d,()) l
theorem c12_eq(e a b c d h n ee r):Y e (peel 2 (C [4,5,1])).1 (mkT K22 (a,b,c,d,())) h n ee r=c12 e (fun t h=>n (mkT K22 t) h) (a,b,c,d,()) h:=by kernel_rfl
noncomputable def r12(e:Cx)(Jn:Q22)(J2:Q31)(Jr:Q32)(t:P22)(h:AH):Res:=c12 e (r14 e Jn J2 Jr) t h
theorem r12_eq(e Jn J2 Jr):∀ t h,X e (C [4,5]) (mkT K22 t) h (jk K22 Jn) (exK [(2,(jk K31 J2))]) (jk K32 Jr)=r12 e Jn J2 Jr t h
| (c,d,f,g,_),h=>(nd_norm' (X:=(C [4,5])) (a:=C [4,5,0]) (b:=C [4,6]) (L:=K22) (by kernel_rfl) (by kernel_rfl) (by kernel_rfl) (SB:=(r14 e Jn J2 Jr)) (r14_eq e Jn J2 Jr) _ _).trans (nd_block' (X:=C [4,5,0]) (id:=3) (b:=C [4,5,1]) (by kernel_rfl) (nd_chain' (X:=C [4,5,1]) (Y:=.skip) 2 (L:=K22) (S:=fun J=>c12 e J (c,d,f,g,()) h) (Q:=(r14 e Jn J2 Jr)) (by kernel_rfl) (fun n=>c12_eq e c d f g h n (exK [(3,(jk K22 (r14 e Jn J2 Jr))),(2,(jk K31 J2))]) (jk K32 Jr)) (fun t h=>by kernel_rfl)))
noncomputable def k11(e:Cx)(Jn:Q22)(J2:Q31)(Jr:Q32):Q24
| (a,b,c,d,f,_),h =>
 bif f then (r12 e Jn J2 Jr) (a,b,c,d,()) h else J2 (a,()) h
theorem k11_eq(e Jn J2 Jr):∀ t h,X e (C [4,4]) (mkT K24 t) h (jk K22 Jn) (exK [(2,(jk K31 J2))]) (jk K32 Jr)=k11 e Jn J2 Jr t h
| (c,d,f,g,i,_),h=>(nd_norm' (X:=(C [4,4])) (a:=C [4,4,0]) (b:=C [4,5]) (L:=K22) (by kernel_rfl) (by kernel_rfl) (by kernel_rfl) (SB:=(r12 e Jn J2 Jr)) (r12_eq e Jn J2 Jr) _ _).trans (nd_cond' (X:=C [4,4,0]) (a:=C [4,4,0,0]) (b:=C [4,4,1]) (t:=i) (x:=.tmp 28) (by kernel_rfl) (by kernel_rfl) (by kernel_rfl) (by kernel_rfl))
noncomputable def l11(e:Cx)(Jn:Q22)(J2:Q31)(Jr:Q32)(t:P22)(h:AH):Res:=c11 e (k11 e Jn J2 Jr) t h
theorem l11_eq(e Jn J2 Jr):∀ t h,X e (C [4,3]) (mkT K22 t) h (jk K22 Jn) (exK [(2,(jk K31 J2))]) (jk K32 Jr)=l11 e Jn J2 Jr t h
| (a,b,c,d,_),h=>nd_chain' (X:=C [4,3]) (Y:=(C [4,4])) 1 (L:=K24) (S:=fun J=>c11 e J (a,b,c,d,()) h) (Q:=(k11 e Jn J2 Jr)) (by kernel_rfl) (fun n=>c11_eq e a b c d h n (exK [(2,(jk K31 J2))]) (jk K32 Jr)) (k11_eq e Jn J2 Jr)
noncomputable def k10(e:Cx)(Jn:Q31)(Jr:Q32)(t:P22)(h:AH):Res:=jaw (P22) e.F (fun t h n=>l11 e n Jn Jr t h) t h
theorem k10_eq(e Jn Jr):∀ t h,X e (C [4,1]) (mkT K22 t) h (jk K31 Jn) (exK []) (jk K32 Jr)=k10 e Jn Jr t h
| (a,c,d,f,_),h=>nd_block' (X:=C [4,1]) (id:=2) (b:=C [4,2]) (by kernel_rfl) ((nd_loop' (X:=C [4,2]) (b:=C [4,3]) (L:=K22) (by kernel_rfl) (by kernel_rfl) (SB:=fun n=>l11 e n Jn Jr) (fun n=>l11_eq e n Jn Jr) _ _).trans (by kernel_rfl))
noncomputable def k9(e:Cx)(Jn:Q32)(Jr:Q32)(t:P20)(h:AH):Res:=c10 e (k10 e (r15 e Jn Jr) Jr) t h
theorem k9_eq(e Jn Jr):∀ t h,X e (C [4]) (mkT K20 t) h (jk K32 Jn) (exK []) (jk K32 Jr)=k9 e Jn Jr t h
| (c,d,_),h=>(nd_norm' (X:=(C [4])) (a:=C [4,0]) (b:=C [5]) (L:=K31) (by kernel_rfl) (by kernel_rfl) (by kernel_rfl) (SB:=(r15 e Jn Jr)) (r15_eq e Jn Jr) _ _).trans (nd_chain' (X:=C [4,0]) (Y:=(C [4,1])) 1 (L:=K22) (S:=fun J=>c10 e J (c,d,()) h) (Q:=(k10 e (r15 e Jn Jr) Jr)) (by kernel_rfl) (fun n=>c10_eq e c d h n (exK []) (jk K32 Jr)) (k10_eq e (r15 e Jn Jr) Jr))
noncomputable def r9(e:Cx)(Jn:Q32)(Jr:Q32)(t:P4)(h:AH):Res:=c9 e (k9 e Jn Jr) t h
theorem r9_eq(e Jn Jr):∀ t h,X e (C [3]) (mkT K4 t) h (jk K32 Jn) (exK []) (jk K32 Jr)=r9 e Jn Jr t h
| (a,b,_),h=>nd_chain' (X:=C [3]) (Y:=(C [4])) 1 (L:=K20) (S:=fun J=>c9 e J (a,b,()) h) (Q:=(k9 e Jn Jr)) (by kernel_rfl) (fun n=>c9_eq e a b h n (exK []) (jk K32 Jr)) (k9_eq e Jn Jr)
noncomputable def c2(e:Cx)(J:Q6):Q4
| (a,b,_),h =>
 bI .i64 (lenS a) h fun c d =>
 J (a,b,a,c,0,()) d
theorem c2_eq(e a b h n ee r):Y e (peel 1 (C [2,0])).1 (mkT K4 (a,b,())) h n ee r=c2 e (fun t h=>n (mkT K6 t) h) (a,b,()) h:=by kernel_rfl
noncomputable def c3(e:Cx)(J:Q8):Q6
| (a,b,c,d,f,_),h =>
 J (a,b,c,d,f,(decide (f<d)),()) h
theorem c3_eq(e a b c d f h n ee r):Y e (peel 1 (C [2,3])).1 (mkT K6 (a,b,c,d,f,())) h n ee r=c3 e (fun t h=>n (mkT K8 t) h) (a,b,c,d,f,()) h:=by kernel_rfl
noncomputable def c8(e:Cx)(J:Q6):Q6
| (a,b,c,d,f,_),h =>
 J (a,b,c,d,(wr .i64 (f+1)),()) h
theorem c8_eq(e a b c d f h n ee r):Y e (peel 1 (C [2,6])).1 (mkT K6 (a,b,c,d,f,())) h n ee r=c8 e (fun t h=>n (mkT K6 t) h) (a,b,c,d,f,()) h:=by kernel_rfl
noncomputable def r8(e:Cx)(Jn:Q6)(J0:Q4)(Jr:Q32)(t:P6)(h:AH):Res:=c8 e Jn t h
theorem r8_eq(e Jn J0 Jr):∀ t h,X e (C [2,6]) (mkT K6 t) h (jk K6 Jn) (exK [(0,(jk K4 J0))]) (jk K32 Jr)=r8 e Jn J0 Jr t h
| (a,b,c,d,f,_),h=>nd_chain' (X:=C [2,6]) (Y:=.skip) 1 (L:=K6) (S:=fun J=>c8 e J (a,b,c,d,f,()) h) (Q:=Jn) (by kernel_rfl) (fun n=>c8_eq e a b c d f h n (exK [(0,(jk K4 J0))]) (jk K32 Jr)) (fun t h=>by kernel_rfl)
noncomputable def c4(e:Cx)(J:Q14):Q6
| (a,b,c,d,f,_),h =>
 bV (ixS 1 c f) h fun g i =>
 bV (ld g i) i fun j k =>
 bI .i64 (lenS j) k fun l m =>
 J (a,(wr .i64 (b+l)),c,d,f,(decide ((wr .i64 (b+l))<0)),()) m
theorem c4_eq(e a b c d f h n ee r):Y e (peel 3 (C [2,5,1])).1 (mkT K6 (a,b,c,d,f,())) h n ee r=c4 e (fun t h=>n (mkT K14 t) h) (a,b,c,d,f,()) h:=by kernel_rfl
noncomputable def c7(e:Cx)(J:Q6):Q14
| (a,b,c,d,f,g,_),h =>
 bS none fun i =>
 J (a,b,c,d,f,()) i
theorem c7_eq(e a b c d f g h n ee r):Y e (peel 1 (C [2,5,4,0])).1 (mkT K14 (a,b,c,d,f,g,())) h n ee r=c7 e (fun t h=>n (mkT K6 t) h) (a,b,c,d,f,g,()) h:=by kernel_rfl
noncomputable def k6(e:Cx)(Jn:Q6)(J1:Q6)(J0:Q4)(Jr:Q32):Q14
| (a,b,c,d,f,g,_),h =>
 bif g then c7 e Jn (a,b,c,d,f,g,()) h else Jn (a,b,c,d,f,()) h
theorem k6_eq(e Jn J1 J0 Jr):∀ t h,X e (C [2,5,4]) (mkT K14 t) h (jk K6 Jn) (exK [(1,(jk K6 J1)),(0,(jk K4 J0))]) (jk K32 Jr)=k6 e Jn J1 J0 Jr t h
| (c,d,f,g,i,j,_),h=>nd_cond' (X:=C [2,5,4]) (a:=C [2,5,4,0]) (b:=C [2,5,5]) (t:=j) (x:=.tmp 20) (by kernel_rfl) (by kernel_rfl) (nd_chain' (X:=C [2,5,4,0]) (Y:=.skip) 1 (L:=K6) (S:=fun J=>c7 e J (c,d,f,g,i,j,()) h) (Q:=Jn) (by kernel_rfl) (fun n=>c7_eq e c d f g i j h n (exK [(1,(jk K6 J1)),(0,(jk K4 J0))]) (jk K32 Jr)) (fun t h=>by kernel_rfl)) (by kernel_rfl)
noncomputable def r4(e:Cx)(Jn:Q6)(J0:Q4)(Jr:Q32)(t:P6)(h:AH):Res:=c4 e (k6 e (r8 e Jn J0 Jr) (r8 e Jn J0 Jr) J0 Jr) t h
theorem r4_eq(e Jn J0 Jr):∀ t h,X e (C [2,5]) (mkT K6 t) h (jk K6 Jn) (exK [(0,(jk K4 J0))]) (jk K32 Jr)=r4 e Jn J0 Jr t h
| (c,d,f,g,i,_),h=>(nd_norm' (X:=(C [2,5])) (a:=C [2,5,0]) (b:=C [2,6]) (L:=K6) (by kernel_rfl) (by kernel_rfl) (by kernel_rfl) (SB:=(r8 e Jn J0 Jr)) (r8_eq e Jn J0 Jr) _ _).trans (nd_block' (X:=C [2,5,0]) (id:=1) (b:=C [2,5,1]) (by kernel_rfl) (nd_chain' (X:=C [2,5,1]) (Y:=(C [2,5,4])) 3 (L:=K14) (S:=fun J=>c4 e J (c,d,f,g,i,()) h) (Q:=(k6 e (r8 e Jn J0 Jr) (r8 e Jn J0 Jr) J0 Jr)) (by kernel_rfl) (fun n=>c4_eq e c d f g i h n (exK [(1,(jk K6 (r8 e Jn J0 Jr))),(0,(jk K4 J0))]) (jk K32 Jr)) (k6_eq e (r8 e Jn J0 Jr) (r8 e Jn J0 Jr) J0 Jr)))
noncomputable def k3(e:Cx)(Jn:Q6)(J0:Q4)(Jr:Q32):Q8
| (a,b,c,d,f,g,_),h =>
 bif g then (r4 e Jn J0 Jr) (a,b,c,d,f,()) h else J0 (a,b,()) h
theorem k3_eq(e Jn J0 Jr):∀ t h,X e (C [2,4]) (mkT K8 t) h (jk K6 Jn) (exK [(0,(jk K4 J0))]) (jk K32 Jr)=k3 e Jn J0 Jr t h
| (c,d,f,g,i,j,_),h=>(nd_norm' (X:=(C [2,4])) (a:=C [2,4,0]) (b:=C [2,5]) (L:=K6) (by kernel_rfl) (by kernel_rfl) (by kernel_rfl) (SB:=(r4 e Jn J0 Jr)) (r4_eq e Jn J0 Jr) _ _).trans (nd_cond' (X:=C [2,4,0]) (a:=C [2,4,0,0]) (b:=C [2,4,1]) (t:=j) (x:=.tmp 12) (by kernel_rfl) (by kernel_rfl) (by kernel_rfl) (by kernel_rfl))
noncomputable def l3(e:Cx)(Jn:Q6)(J0:Q4)(Jr:Q32)(t:P6)(h:AH):Res:=c3 e (k3 e Jn J0 Jr) t h
theorem l3_eq(e Jn J0 Jr):∀ t h,X e (C [2,3]) (mkT K6 t) h (jk K6 Jn) (exK [(0,(jk K4 J0))]) (jk K32 Jr)=l3 e Jn J0 Jr t h
| (a,b,c,d,f,_),h=>nd_chain' (X:=C [2,3]) (Y:=(C [2,4])) 1 (L:=K8) (S:=fun J=>c3 e J (a,b,c,d,f,()) h) (Q:=(k3 e Jn J0 Jr)) (by kernel_rfl) (fun n=>c3_eq e a b c d f h n (exK [(0,(jk K4 J0))]) (jk K32 Jr)) (k3_eq e Jn J0 Jr)
noncomputable def k2(e:Cx)(Jn:Q4)(Jr:Q32)(t:P6)(h:AH):Res:=jaw (P6) e.F (fun t h n=>l3 e n Jn Jr t h) t h
theorem k2_eq(e Jn Jr):∀ t h,X e (C [2,1]) (mkT K6 t) h (jk K4 Jn) (exK []) (jk K32 Jr)=k2 e Jn Jr t h
| (a,c,d,f,g,_),h=>nd_block' (X:=C [2,1]) (id:=0) (b:=C [2,2]) (by kernel_rfl) ((nd_loop' (X:=C [2,2]) (b:=C [2,3]) (L:=K6) (by kernel_rfl) (by kernel_rfl) (SB:=fun n=>l3 e n Jn Jr) (fun n=>l3_eq e n Jn Jr) _ _).trans (by kernel_rfl))
noncomputable def k1(e:Cx)(Jn:Q32)(Jr:Q32)(t:P4)(h:AH):Res:=c2 e (k2 e (r9 e Jn Jr) Jr) t h
theorem k1_eq(e Jn Jr):∀ t h,X e (C [2]) (mkT K4 t) h (jk K32 Jn) (exK []) (jk K32 Jr)=k1 e Jn Jr t h
| (c,d,_),h=>(nd_norm' (X:=(C [2])) (a:=C [2,0]) (b:=C [3]) (L:=K4) (by kernel_rfl) (by kernel_rfl) (by kernel_rfl) (SB:=(r9 e Jn Jr)) (r9_eq e Jn Jr) _ _).trans (nd_chain' (X:=C [2,0]) (Y:=(C [2,1])) 1 (L:=K6) (S:=fun J=>c2 e J (c,d,()) h) (Q:=(k2 e (r9 e Jn Jr) Jr)) (by kernel_rfl) (fun n=>c2_eq e c d h n (exK []) (jk K32 Jr)) (k2_eq e (r9 e Jn Jr) Jr))
noncomputable def fn(e:Cx)(a:V)(h:AH):Res :=
 c0 e (k1 e ret ret) (a,()) h
theorem run(e:Cx)(a:V)(h:AH):execFn (cfgS e) (jbi lv) e.F nzbl [a] h=fn e a h:=by
 refine (fn_eq (c:=cfgS e) (lv:=lv) (PP.funcs.getD 27 default) B (by kernel_rfl) (by kernel_rfl) (Nat.le_of_ble_eq_true (by kernel_rfl))).trans ?_
 rw [ret_eq]
 exact nd_chain' (X:=C [0]) (Y:=(C [2])) 2 (L:=K4) (S:=fun J=>c0 e J (a,()) h) (Q:=(k1 e ret ret)) (by kernel_rfl) (fun n=>c0_eq e a h n (exK []) (jk K32 ret)) (k1_eq e ret ret)
end zbl
namespace zbi
noncomputable def B:Code:=cBody (PP.funcs.getD 28 default)
abbrev K2:Slots:=[(0,.any),(2,.any)]
abbrev P2:=V×V×Unit
abbrev Q2:=P2→AH→Res
abbrev K4:Slots:=[(0,.any),(2,.any),(3,.any)]
abbrev P4:=V×V×V×Unit
abbrev Q4:=P4→AH→Res
abbrev K6:Slots:=[(0,.any),(2,.any),(3,.any),(4,.any)]
abbrev P6:=V×V×V×V×Unit
abbrev Q6:=P6→AH→Res
abbrev K8:Slots:=[(0,.any),(2,.any),(3,.any),(4,.any),(13,.bool)]
abbrev P8:=V×V×V×V×Bool×Unit
abbrev Q8:=P8→AH→Res
abbrev K14:Slots:=[(2,.any),(3,.any),(4,.any)]
abbrev P14:=V×V×V×Unit
abbrev Q14:=P14→AH→Res
abbrev K16:Slots:=[(2,.any),(3,.any),(4,.any),(29,.bool)]
abbrev P16:=V×V×V×Bool×Unit
abbrev Q16:=P16→AH→Res
abbrev K21:Slots:=[(2,.any),(3,.any)]
abbrev P21:=V×V×Unit
abbrev Q21:=P21→AH→Res
abbrev K22:Slots:=[(2,.any),(3,.any),(5,.any)]
abbrev P22:=V×V×V×Unit
abbrev Q22:=P22→AH→Res
abbrev K24:Slots:=[(2,.any),(5,.any),(37,.agg),(38,.int .i64)]
abbrev P24:=V×V×List V×Int×Unit
abbrev Q24:=P24→AH→Res
abbrev K26:Slots:=[(2,.any),(5,.any),(37,.agg),(38,.int .i64),(39,.bool)]
abbrev P26:=V×V×List V×Int×Bool×Unit
abbrev Q26:=P26→AH→Res
abbrev K28:Slots:=[(2,.any),(5,.any),(6,.int .i64),(7,.int .u32),(37,.agg),(38,.int .i64)]
abbrev P28:=V×V×Int×Int×List V×Int×Unit
abbrev Q28:=P28→AH→Res
abbrev K30:Slots:=[(2,.any),(5,.any),(6,.int .i64),(7,.int .u32),(37,.agg),(38,.int .i64),(42,.int .i64)]
abbrev P30:=V×V×Int×Int×List V×Int×Int×Unit
abbrev Q30:=P30→AH→Res
abbrev K32:Slots:=[(2,.any),(5,.any),(6,.int .i64),(7,.int .u32),(37,.agg),(38,.int .i64),(42,.int .i64),(43,.bool)]
abbrev P32:=V×V×Int×Int×List V×Int×Int×Bool×Unit
abbrev Q32:=P32→AH→Res
abbrev K34:Slots:=[(2,.any),(5,.any),(6,.int .i64),(7,.int .u32),(8,.int .i64),(37,.agg),(38,.int .i64),(42,.int .i64)]
abbrev P34:=V×V×Int×Int×Int×List V×Int×Int×Unit
abbrev Q34:=P34→AH→Res
abbrev K41:Slots:=[(2,.any),(5,.any)]
abbrev P41:=V×V×Unit
abbrev Q41:=P41→AH→Res
abbrev K42:Slots:=[(2,.any)]
abbrev P42:=V×Unit
abbrev Q42:=P42→AH→Res
noncomputable def lv:=lvT [(2,K2),(4,K4),(6,K6),(8,K8),(9,K6),(10,K6),(12,K6),(7,K6),(13,K6),(14,K14),(16,K16),(17,K14),(18,K14),(20,K14),(15,K14),(21,K21),(22,K22),(24,K24),(26,K26),(27,K24),(28,K28),(30,K30),(32,K32),(33,K30),(34,K34),(36,K30),(37,K30),(38,K30),(31,K30),(39,K24),(40,K24),(25,K24),(41,K41),(42,K42)]
abbrev KR:Slots:=[(2,.any)]
abbrev PR:=V×Unit
abbrev QR:=PR→AH→Res
noncomputable abbrev X (e:Cx):=exL (cfgS e) lv 59 e.F
noncomputable abbrev Y (e:Cx):=runL (cfgS e) lv 59 e.F
noncomputable abbrev C (p:List Nat):=cP p B
noncomputable def ret:Q42
| (a,_),h=>finW [ldA 32 a h] h
theorem ret_eq(e:Cx):fin (cfgS e) (jbi lv) (PP.funcs.getD 28 default)=jk K42 ret:=by kernel_rfl
noncomputable def c0(e:Cx)(J:Q6):V×Unit→AH→Res
| (a,_),h =>
 let b:=(al (List.replicate 32 (.int .u8 0)) jab h).1
 let c:=(al (List.replicate 32 (.int .u8 0)) jab h).2
 bA (bld [(0,1,(.int .u32 1779033703)),(1,1,(.int .u32 3144134277)),(2,1,(.int .u32 1013904242)),(3,1,(.int .u32 2773480762)),(4,1,(.int .u32 1359893119)),(5,1,(.int .u32 2600822924)),(6,1,(.int .u32 528734635)),(7,1,(.int .u32 1541459225))] (List.replicate 8 (.int .u32 0))) c fun d f =>
 let g:=(al (List.replicate 8 (.int .u32 0)) jbb f).1
 let i:=(al (List.replicate 8 (.int .u32 0)) jbb f).2
 bS (st 8 g (.agg d) i) fun j =>
 J (a,b,g,a,()) j
theorem c0_eq(e a h n ee r):Y e (peel 3 (C [0])).1 (iniT [a] 0 .leaf) h n ee r=c0 e (fun t h=>n (mkT K6 t) h) (a,()) h:=by kernel_rfl
noncomputable def c6(e:Cx)(J:Q14):Q6
| (a,b,c,d,_),h =>
 cV (e.C nzaa [d] h) fun f g =>
 bI .i64 (lenS a) g fun i j =>
 cV (e.C nzbh [(.int .i64 i)] j) fun k l =>
 cV (app 1 1 jai f k l) fun m o =>
 J (b,c,m,()) o
theorem c6_eq(e a b c d h n ee r):Y e (peel 1 (C [4])).1 (mkT K6 (a,b,c,d,())) h n ee r=c6 e (fun t h=>n (mkT K14 t) h) (a,b,c,d,()) h:=by kernel_rfl
noncomputable def c10(e:Cx)(J:Q22):Q21
| (a,b,_),h =>
 let c:=(al (List.replicate 32 (.int .u8 0)) jab h).1
 let d:=(al (List.replicate 32 (.int .u8 0)) jab h).2
 J (a,b,c,()) d
theorem c10_eq(e a b h n ee r):Y e (peel 1 (C [6])).1 (mkT K21 (a,b,())) h n ee r=c10 e (fun t h=>n (mkT K22 t) h) (a,b,()) h:=by kernel_rfl
noncomputable def c20(e:Cx)(J:Q42):Q41
| (a,b,_),h =>
 bA (ldA 32 b h) h fun c d =>
 bS (st 32 a (.agg c) d) fun f =>
 J (a,()) f
theorem c20_eq(e a b h n ee r):Y e (peel 1 (C [8])).1 (mkT K41 (a,b,())) h n ee r=c20 e (fun t h=>n (mkT K42 t) h) (a,b,()) h:=by kernel_rfl
noncomputable def r20(e:Cx)(Jn:Q42)(Jr:Q42)(t:P41)(h:AH):Res:=c20 e Jr t h
theorem r20_eq(e Jn Jr):∀ t h,X e (C [8]) (mkT K41 t) h (jk K42 Jn) (exK []) (jk K42 Jr)=r20 e Jn Jr t h
| (a,b,_),h=>nd_chain' (X:=C [8]) (Y:=(C [9])) 1 (L:=K42) (S:=fun J=>c20 e J (a,b,()) h) (Q:=Jr) (by kernel_rfl) (fun n=>c20_eq e a b h n (exK []) (jk K42 Jr)) (fun t h=>by kernel_rfl)
noncomputable def c11(e:Cx)(J:Q24):Q22
| (a,b,c,_),h =>
 bA (ldA 8 b h) h fun d f =>
 J (a,c,d,0,()) f
theorem c11_eq(e a b c h n ee r):Y e (peel 1 (C [7,0])).1 (mkT K22 (a,b,c,())) h n ee r=c11 e (fun t h=>n (mkT K24 t) h) (a,b,c,()) h:=by kernel_rfl
noncomputable def c12(e:Cx)(J:Q26):Q24
| (a,b,c,d,_),h =>
 J (a,b,c,d,(decide (d<8)),()) h
theorem c12_eq(e a b c d h n ee r):Y e (peel 1 (C [7,3])).1 (mkT K24 (a,b,c,d,())) h n ee r=c12 e (fun t h=>n (mkT K26 t) h) (a,b,c,d,()) h:=by kernel_rfl
noncomputable def c19(e:Cx)(J:Q24):Q24
| (a,b,c,d,_),h =>
 J (a,b,c,(wr .i64 (d+1)),()) h
theorem c19_eq(e a b c d h n ee r):Y e (peel 1 (C [7,6])).1 (mkT K24 (a,b,c,d,())) h n ee r=c19 e (fun t h=>n (mkT K24 t) h) (a,b,c,d,()) h:=by kernel_rfl
noncomputable def r19(e:Cx)(Jn:Q24)(J4:Q41)(Jr:Q42)(t:P24)(h:AH):Res:=c19 e Jn t h
theorem r19_eq(e Jn J4 Jr):∀ t h,X e (C [7,6]) (mkT K24 t) h (jk K24 Jn) (exK [(4,(jk K41 J4))]) (jk K42 Jr)=r19 e Jn J4 Jr t h
| (a,b,c,d,_),h=>nd_chain' (X:=C [7,6]) (Y:=.skip) 1 (L:=K24) (S:=fun J=>c19 e J (a,b,c,d,()) h) (Q:=Jn) (by kernel_rfl) (fun n=>c19_eq e a b c d h n (exK [(4,(jk K41 J4))]) (jk K42 Jr)) (fun t h=>by kernel_rfl)
noncomputable def c13(e:Cx)(J:Q30):Q24
| (a,b,c,d,_),h =>
 bI .u32 (ixC 8 1 c d) h fun f g =>
 J (a,b,d,f,c,d,0,()) g
theorem c13_eq(e a b c d h n ee r):Y e (peel 2 (C [7,5,1])).1 (mkT K24 (a,b,c,d,())) h n ee r=c13 e (fun t h=>n (mkT K30 t) h) (a,b,c,d,()) h:=by kernel_rfl
noncomputable def c15(e:Cx)(J:Q32):Q30
| (a,b,c,d,f,g,i,_),h =>
 J (a,b,c,d,f,g,i,(decide (i<4)),()) h
theorem c15_eq(e a b c d f g i h n ee r):Y e (peel 1 (C [7,5,5])).1 (mkT K30 (a,b,c,d,f,g,i,())) h n ee r=c15 e (fun t h=>n (mkT K32 t) h) (a,b,c,d,f,g,i,()) h:=by kernel_rfl
noncomputable def c18(e:Cx)(J:Q30):Q30
| (a,b,c,d,f,g,i,_),h =>
 J (a,b,c,d,f,g,(wr .i64 (i+1)),()) h
theorem c18_eq(e a b c d f g i h n ee r):Y e (peel 1 (C [7,5,8])).1 (mkT K30 (a,b,c,d,f,g,i,())) h n ee r=c18 e (fun t h=>n (mkT K30 t) h) (a,b,c,d,f,g,i,()) h:=by kernel_rfl
noncomputable def r18(e:Cx)(Jn:Q30)(J6:Q24)(J5:Q24)(J4:Q41)(Jr:Q42)(t:P30)(h:AH):Res:=c18 e Jn t h
theorem r18_eq(e Jn J6 J5 J4 Jr):∀ t h,X e (C [7,5,8]) (mkT K30 t) h (jk K30 Jn) (exK [(6,(jk K24 J6)),(5,(jk K24 J5)),(4,(jk K41 J4))]) (jk K42 Jr)=r18 e Jn J6 J5 J4 Jr t h
| (a,b,c,d,f,g,i,_),h=>nd_chain' (X:=C [7,5,8]) (Y:=.skip) 1 (L:=K30) (S:=fun J=>c18 e J (a,b,c,d,f,g,i,()) h) (Q:=Jn) (by kernel_rfl) (fun n=>c18_eq e a b c d f g i h n (exK [(6,(jk K24 J6)),(5,(jk K24 J5)),(4,(jk K41 J4))]) (jk K42 Jr)) (fun t h=>by kernel_rfl)
noncomputable def c16(e:Cx)(J:Q30):Q30
| (a,b,c,d,f,g,i,_),h =>
 bI .u32 (if (wr .i64 (24-(wr .i64 (8*i))))<0 then none else some (.int .u32 (ishr .u32 d (wr .i64 (24-(wr .i64 (8*i))))))) h fun j k =>
 bV (ixA 32 1 b (wr .i64 ((wr .i64 (4*c))+i))) k fun l m =>
 bS (st 1 l (.int .u8 (wr .u8 j)) m) fun o =>
 J (a,b,c,d,f,g,i,()) o
theorem c16_eq(e a b c d f g i h n ee r):Y e (peel 2 (C [7,5,7,1])).1 (mkT K30 (a,b,c,d,f,g,i,())) h n ee r=c16 e (fun t h=>n (mkT K30 t) h) (a,b,c,d,f,g,i,()) h:=by kernel_rfl
noncomputable def r16(e:Cx)(Jn:Q30)(J6:Q24)(J5:Q24)(J4:Q41)(Jr:Q42)(t:P30)(h:AH):Res:=c16 e (r18 e Jn J6 J5 J4 Jr) t h
theorem r16_eq(e Jn J6 J5 J4 Jr):∀ t h,X e (C [7,5,7]) (mkT K30 t) h (jk K30 Jn) (exK [(6,(jk K24 J6)),(5,(jk K24 J5)),(4,(jk K41 J4))]) (jk K42 Jr)=r16 e Jn J6 J5 J4 Jr t h
| (c,d,f,g,i,j,k,_),h=>(nd_norm' (X:=(C [7,5,7])) (a:=C [7,5,7,0]) (b:=C [7,5,8]) (L:=K30) (by kernel_rfl) (by kernel_rfl) (by kernel_rfl) (SB:=(r18 e Jn J6 J5 J4 Jr)) (r18_eq e Jn J6 J5 J4 Jr) _ _).trans (nd_block' (X:=C [7,5,7,0]) (id:=7) (b:=C [7,5,7,1]) (by kernel_rfl) (nd_chain' (X:=C [7,5,7,1]) (Y:=.skip) 2 (L:=K30) (S:=fun J=>c16 e J (c,d,f,g,i,j,k,()) h) (Q:=(r18 e Jn J6 J5 J4 Jr)) (by kernel_rfl) (fun n=>c16_eq e c d f g i j k h n (exK [(7,(jk K30 (r18 e Jn J6 J5 J4 Jr))),(6,(jk K24 J6)),(5,(jk K24 J5)),(4,(jk K41 J4))]) (jk K42 Jr)) (fun t h=>by kernel_rfl)))
noncomputable def k15(e:Cx)(Jn:Q30)(J6:Q24)(J5:Q24)(J4:Q41)(Jr:Q42):Q32
| (a,b,c,d,f,g,i,j,_),h =>
 bif j then (r16 e Jn J6 J5 J4 Jr) (a,b,c,d,f,g,i,()) h else J6 (a,b,f,g,()) h
theorem k15_eq(e Jn J6 J5 J4 Jr):∀ t h,X e (C [7,5,6]) (mkT K32 t) h (jk K30 Jn) (exK [(6,(jk K24 J6)),(5,(jk K24 J5)),(4,(jk K41 J4))]) (jk K42 Jr)=k15 e Jn J6 J5 J4 Jr t h
| (c,d,f,g,i,j,k,l,_),h=>(nd_norm' (X:=(C [7,5,6])) (a:=C [7,5,6,0]) (b:=C [7,5,7]) (L:=K30) (by kernel_rfl) (by kernel_rfl) (by kernel_rfl) (SB:=(r16 e Jn J6 J5 J4 Jr)) (r16_eq e Jn J6 J5 J4 Jr) _ _).trans (nd_cond' (X:=C [7,5,6,0]) (a:=C [7,5,6,0,0]) (b:=C [7,5,6,1]) (t:=l) (x:=.tmp 43) (by kernel_rfl) (by kernel_rfl) (by kernel_rfl) (by kernel_rfl))
noncomputable def l15(e:Cx)(Jn:Q30)(J6:Q24)(J5:Q24)(J4:Q41)(Jr:Q42)(t:P30)(h:AH):Res:=c15 e (k15 e Jn J6 J5 J4 Jr) t h
theorem l15_eq(e Jn J6 J5 J4 Jr):∀ t h,X e (C [7,5,5]) (mkT K30 t) h (jk K30 Jn) (exK [(6,(jk K24 J6)),(5,(jk K24 J5)),(4,(jk K41 J4))]) (jk K42 Jr)=l15 e Jn J6 J5 J4 Jr t h
| (a,b,c,d,f,g,i,_),h=>nd_chain' (X:=C [7,5,5]) (Y:=(C [7,5,6])) 1 (L:=K32) (S:=fun J=>c15 e J (a,b,c,d,f,g,i,()) h) (Q:=(k15 e Jn J6 J5 J4 Jr)) (by kernel_rfl) (fun n=>c15_eq e a b c d f g i h n (exK [(6,(jk K24 J6)),(5,(jk K24 J5)),(4,(jk K41 J4))]) (jk K42 Jr)) (k15_eq e Jn J6 J5 J4 Jr)
noncomputable def k14(e:Cx)(Jn:Q24)(J5:Q24)(J4:Q41)(Jr:Q42)(t:P30)(h:AH):Res:=jaw (P30) e.F (fun t h n=>l15 e n Jn J5 J4 Jr t h) t h
theorem k14_eq(e Jn J5 J4 Jr):∀ t h,X e (C [7,5,3]) (mkT K30 t) h (jk K24 Jn) (exK [(5,(jk K24 J5)),(4,(jk K41 J4))]) (jk K42 Jr)=k14 e Jn J5 J4 Jr t h
| (a,c,d,f,g,i,j,_),h=>nd_block' (X:=C [7,5,3]) (id:=6) (b:=C [7,5,4]) (by kernel_rfl) ((nd_loop' (X:=C [7,5,4]) (b:=C [7,5,5]) (L:=K30) (by kernel_rfl) (by kernel_rfl) (SB:=fun n=>l15 e n Jn J5 J4 Jr) (fun n=>l15_eq e n Jn J5 J4 Jr) _ _).trans (by kernel_rfl))
noncomputable def r13(e:Cx)(Jn:Q24)(J4:Q41)(Jr:Q42)(t:P24)(h:AH):Res:=c13 e (k14 e (r19 e Jn J4 Jr) (r19 e Jn J4 Jr) J4 Jr) t h
theorem r13_eq(e Jn J4 Jr):∀ t h,X e (C [7,5]) (mkT K24 t) h (jk K24 Jn) (exK [(4,(jk K41 J4))]) (jk K42 Jr)=r13 e Jn J4 Jr t h
| (c,d,f,g,_),h=>(nd_norm' (X:=(C [7,5])) (a:=C [7,5,0]) (b:=C [7,6]) (L:=K24) (by kernel_rfl) (by kernel_rfl) (by kernel_rfl) (SB:=(r19 e Jn J4 Jr)) (r19_eq e Jn J4 Jr) _ _).trans (nd_block' (X:=C [7,5,0]) (id:=5) (b:=C [7,5,1]) (by kernel_rfl) (nd_chain' (X:=C [7,5,1]) (Y:=(C [7,5,3])) 2 (L:=K30) (S:=fun J=>c13 e J (c,d,f,g,()) h) (Q:=(k14 e (r19 e Jn J4 Jr) (r19 e Jn J4 Jr) J4 Jr)) (by kernel_rfl) (fun n=>c13_eq e c d f g h n (exK [(5,(jk K24 (r19 e Jn J4 Jr))),(4,(jk K41 J4))]) (jk K42 Jr)) (k14_eq e (r19 e Jn J4 Jr) (r19 e Jn J4 Jr) J4 Jr)))
noncomputable def k12(e:Cx)(Jn:Q24)(J4:Q41)(Jr:Q42):Q26
| (a,b,c,d,f,_),h =>
 bif f then (r13 e Jn J4 Jr) (a,b,c,d,()) h else J4 (a,b,()) h
theorem k12_eq(e Jn J4 Jr):∀ t h,X e (C [7,4]) (mkT K26 t) h (jk K24 Jn) (exK [(4,(jk K41 J4))]) (jk K42 Jr)=k12 e Jn J4 Jr t h
| (c,d,f,g,i,_),h=>(nd_norm' (X:=(C [7,4])) (a:=C [7,4,0]) (b:=C [7,5]) (L:=K24) (by kernel_rfl) (by kernel_rfl) (by kernel_rfl) (SB:=(r13 e Jn J4 Jr)) (r13_eq e Jn J4 Jr) _ _).trans (nd_cond' (X:=C [7,4,0]) (a:=C [7,4,0,0]) (b:=C [7,4,1]) (t:=i) (x:=.tmp 39) (by kernel_rfl) (by kernel_rfl) (by kernel_rfl) (by kernel_rfl))
noncomputable def l12(e:Cx)(Jn:Q24)(J4:Q41)(Jr:Q42)(t:P24)(h:AH):Res:=c12 e (k12 e Jn J4 Jr) t h
theorem l12_eq(e Jn J4 Jr):∀ t h,X e (C [7,3]) (mkT K24 t) h (jk K24 Jn) (exK [(4,(jk K41 J4))]) (jk K42 Jr)=l12 e Jn J4 Jr t h
| (a,b,c,d,_),h=>nd_chain' (X:=C [7,3]) (Y:=(C [7,4])) 1 (L:=K26) (S:=fun J=>c12 e J (a,b,c,d,()) h) (Q:=(k12 e Jn J4 Jr)) (by kernel_rfl) (fun n=>c12_eq e a b c d h n (exK [(4,(jk K41 J4))]) (jk K42 Jr)) (k12_eq e Jn J4 Jr)
noncomputable def k11(e:Cx)(Jn:Q41)(Jr:Q42)(t:P24)(h:AH):Res:=jaw (P24) e.F (fun t h n=>l12 e n Jn Jr t h) t h
theorem k11_eq(e Jn Jr):∀ t h,X e (C [7,1]) (mkT K24 t) h (jk K41 Jn) (exK []) (jk K42 Jr)=k11 e Jn Jr t h
| (a,c,d,f,_),h=>nd_block' (X:=C [7,1]) (id:=4) (b:=C [7,2]) (by kernel_rfl) ((nd_loop' (X:=C [7,2]) (b:=C [7,3]) (L:=K24) (by kernel_rfl) (by kernel_rfl) (SB:=fun n=>l12 e n Jn Jr) (fun n=>l12_eq e n Jn Jr) _ _).trans (by kernel_rfl))
noncomputable def k10(e:Cx)(Jn:Q42)(Jr:Q42)(t:P22)(h:AH):Res:=c11 e (k11 e (r20 e Jn Jr) Jr) t h
theorem k10_eq(e Jn Jr):∀ t h,X e (C [7]) (mkT K22 t) h (jk K42 Jn) (exK []) (jk K42 Jr)=k10 e Jn Jr t h
| (c,d,f,_),h=>(nd_norm' (X:=(C [7])) (a:=C [7,0]) (b:=C [8]) (L:=K41) (by kernel_rfl) (by kernel_rfl) (by kernel_rfl) (SB:=(r20 e Jn Jr)) (r20_eq e Jn Jr) _ _).trans (nd_chain' (X:=C [7,0]) (Y:=(C [7,1])) 1 (L:=K24) (S:=fun J=>c11 e J (c,d,f,()) h) (Q:=(k11 e (r20 e Jn Jr) Jr)) (by kernel_rfl) (fun n=>c11_eq e c d f h n (exK []) (jk K42 Jr)) (k11_eq e (r20 e Jn Jr) Jr))
noncomputable def r10(e:Cx)(Jn:Q42)(Jr:Q42)(t:P21)(h:AH):Res:=c10 e (k10 e Jn Jr) t h
theorem r10_eq(e Jn Jr):∀ t h,X e (C [6]) (mkT K21 t) h (jk K42 Jn) (exK []) (jk K42 Jr)=r10 e Jn Jr t h
| (a,b,_),h=>nd_chain' (X:=C [6]) (Y:=(C [7])) 1 (L:=K22) (S:=fun J=>c10 e J (a,b,()) h) (Q:=(k10 e Jn Jr)) (by kernel_rfl) (fun n=>c10_eq e a b h n (exK []) (jk K42 Jr)) (k10_eq e Jn Jr)
noncomputable def c8(e:Cx)(J:Q14):Q14
| (a,b,c,_),h =>
 bA (ldA 8 b h) h fun d f =>
 bV (arrAt 64 c) f fun g i =>
 bA (ldA 64 g i) i fun j k =>
 cA (e.C jcf [(.agg d),(.agg j)] k) fun l m =>
 bS (st 8 b (.agg l) m) fun o =>
 bV (slS 1 c (some (.int .i64 64)) none none) o fun p q =>
 J (a,b,p,()) q
theorem c8_eq(e a b c h n ee r):Y e (peel 2 (C [5,4])).1 (mkT K14 (a,b,c,())) h n ee r=c8 e (fun t h=>n (mkT K14 t) h) (a,b,c,()) h:=by kernel_rfl
noncomputable def r8(e:Cx)(Jn:Q14)(J2:Q21)(Jr:Q42)(t:P14)(h:AH):Res:=c8 e Jn t h
theorem r8_eq(e Jn J2 Jr):∀ t h,X e (C [5,3]) (mkT K14 t) h (jk K14 Jn) (exK [(2,(jk K21 J2))]) (jk K42 Jr)=r8 e Jn J2 Jr t h
| (a,c,d,_),h=>nd_block' (X:=C [5,3]) (id:=3) (b:=C [5,4]) (by kernel_rfl) (nd_chain' (X:=C [5,4]) (Y:=.skip) 2 (L:=K14) (S:=fun J=>c8 e J (a,c,d,()) h) (Q:=Jn) (by kernel_rfl) (fun n=>c8_eq e a c d h n (exK [(3,(jk K14 Jn)),(2,(jk K21 J2))]) (jk K42 Jr)) (fun t h=>by kernel_rfl))
noncomputable def c7(e:Cx)(J:Q16):Q14
| (a,b,c,_),h =>
 bI .i64 (lenS c) h fun d f =>
 J (a,b,c,(decide (d≥64)),()) f
theorem c7_eq(e a b c h n ee r):Y e (peel 1 (C [5,2,0])).1 (mkT K14 (a,b,c,())) h n ee r=c7 e (fun t h=>n (mkT K16 t) h) (a,b,c,()) h:=by kernel_rfl
noncomputable def k7(e:Cx)(Jn:Q14)(J2:Q21)(Jr:Q42):Q16
| (a,b,c,d,_),h =>
 bif d then Jn (a,b,c,()) h else J2 (a,b,()) h
theorem k7_eq(e Jn J2 Jr):∀ t h,X e (C [5,2,1]) (mkT K16 t) h (jk K14 Jn) (exK [(2,(jk K21 J2))]) (jk K42 Jr)=k7 e Jn J2 Jr t h
| (c,d,f,g,_),h=>nd_cond' (X:=C [5,2,1]) (a:=C [5,2,1,0]) (b:=C [5,2,2]) (t:=g) (x:=.tmp 29) (by kernel_rfl) (by kernel_rfl) (by kernel_rfl) (by kernel_rfl)
noncomputable def l7(e:Cx)(Jn:Q14)(J2:Q21)(Jr:Q42)(t:P14)(h:AH):Res:=c7 e (k7 e (r8 e Jn J2 Jr) J2 Jr) t h
theorem l7_eq(e Jn J2 Jr):∀ t h,X e (C [5,2]) (mkT K14 t) h (jk K14 Jn) (exK [(2,(jk K21 J2))]) (jk K42 Jr)=l7 e Jn J2 Jr t h
| (c,d,f,_),h=>(nd_norm' (X:=(C [5,2])) (a:=C [5,2,0]) (b:=C [5,3]) (L:=K14) (by kernel_rfl) (by kernel_rfl) (by kernel_rfl) (SB:=(r8 e Jn J2 Jr)) (r8_eq e Jn J2 Jr) _ _).trans (nd_chain' (X:=C [5,2,0]) (Y:=(C [5,2,1])) 1 (L:=K16) (S:=fun J=>c7 e J (c,d,f,()) h) (Q:=(k7 e (r8 e Jn J2 Jr) J2 Jr)) (by kernel_rfl) (fun n=>c7_eq e c d f h n (exK [(2,(jk K21 J2))]) (jk K42 Jr)) (k7_eq e (r8 e Jn J2 Jr) J2 Jr))
noncomputable def k6(e:Cx)(Jn:Q42)(Jr:Q42)(t:P14)(h:AH):Res:=jaw (P14) e.F (fun t h n=>l7 e n (r10 e Jn Jr) Jr t h) t h
theorem k6_eq(e Jn Jr):∀ t h,X e (C [5]) (mkT K14 t) h (jk K42 Jn) (exK []) (jk K42 Jr)=k6 e Jn Jr t h
| (c,d,f,_),h=>(nd_norm' (X:=(C [5])) (a:=C [5,0]) (b:=C [6]) (L:=K21) (by kernel_rfl) (by kernel_rfl) (by kernel_rfl) (SB:=(r10 e Jn Jr)) (r10_eq e Jn Jr) _ _).trans (nd_block' (X:=C [5,0]) (id:=2) (b:=C [5,1]) (by kernel_rfl) ((nd_loop' (X:=C [5,1]) (b:=C [5,2]) (L:=K14) (by kernel_rfl) (by kernel_rfl) (SB:=fun n=>l7 e n (r10 e Jn Jr) Jr) (fun n=>l7_eq e n (r10 e Jn Jr) Jr) _ _).trans (by kernel_rfl)))
noncomputable def r6(e:Cx)(Jn:Q42)(Jr:Q42)(t:P6)(h:AH):Res:=c6 e (k6 e Jn Jr) t h
theorem r6_eq(e Jn Jr):∀ t h,X e (C [4]) (mkT K6 t) h (jk K42 Jn) (exK []) (jk K42 Jr)=r6 e Jn Jr t h
| (a,b,c,d,_),h=>nd_chain' (X:=C [4]) (Y:=(C [5])) 1 (L:=K14) (S:=fun J=>c6 e J (a,b,c,d,()) h) (Q:=(k6 e Jn Jr)) (by kernel_rfl) (fun n=>c6_eq e a b c d h n (exK []) (jk K42 Jr)) (k6_eq e Jn Jr)
noncomputable def c4(e:Cx)(J:Q6):Q6
| (a,b,c,d,_),h =>
 bA (ldA 8 c h) h fun f g =>
 bV (arrAt 64 d) g fun i j =>
 bA (ldA 64 i j) j fun k l =>
 cA (e.C jcf [(.agg f),(.agg k)] l) fun m o =>
 bS (st 8 c (.agg m) o) fun p =>
 bV (slS 1 d (some (.int .i64 64)) none none) p fun q s =>
 J (a,b,c,q,()) s
theorem c4_eq(e a b c d h n ee r):Y e (peel 2 (C [3,4])).1 (mkT K6 (a,b,c,d,())) h n ee r=c4 e (fun t h=>n (mkT K6 t) h) (a,b,c,d,()) h:=by kernel_rfl
noncomputable def r4(e:Cx)(Jn:Q6)(J0:Q6)(Jr:Q42)(t:P6)(h:AH):Res:=c4 e Jn t h
theorem r4_eq(e Jn J0 Jr):∀ t h,X e (C [3,3]) (mkT K6 t) h (jk K6 Jn) (exK [(0,(jk K6 J0))]) (jk K42 Jr)=r4 e Jn J0 Jr t h
| (a,c,d,f,_),h=>nd_block' (X:=C [3,3]) (id:=1) (b:=C [3,4]) (by kernel_rfl) (nd_chain' (X:=C [3,4]) (Y:=.skip) 2 (L:=K6) (S:=fun J=>c4 e J (a,c,d,f,()) h) (Q:=Jn) (by kernel_rfl) (fun n=>c4_eq e a c d f h n (exK [(1,(jk K6 Jn)),(0,(jk K6 J0))]) (jk K42 Jr)) (fun t h=>by kernel_rfl))
noncomputable def c3(e:Cx)(J:Q8):Q6
| (a,b,c,d,_),h =>
 bI .i64 (lenS d) h fun f g =>
 J (a,b,c,d,(decide (f≥64)),()) g
theorem c3_eq(e a b c d h n ee r):Y e (peel 1 (C [3,2,0])).1 (mkT K6 (a,b,c,d,())) h n ee r=c3 e (fun t h=>n (mkT K8 t) h) (a,b,c,d,()) h:=by kernel_rfl
noncomputable def k3(e:Cx)(Jn:Q6)(J0:Q6)(Jr:Q42):Q8
| (a,b,c,d,f,_),h =>
 bif f then Jn (a,b,c,d,()) h else J0 (a,b,c,d,()) h
theorem k3_eq(e Jn J0 Jr):∀ t h,X e (C [3,2,1]) (mkT K8 t) h (jk K6 Jn) (exK [(0,(jk K6 J0))]) (jk K42 Jr)=k3 e Jn J0 Jr t h
| (c,d,f,g,i,_),h=>nd_cond' (X:=C [3,2,1]) (a:=C [3,2,1,0]) (b:=C [3,2,2]) (t:=i) (x:=.tmp 13) (by kernel_rfl) (by kernel_rfl) (by kernel_rfl) (by kernel_rfl)
noncomputable def l3(e:Cx)(Jn:Q6)(J0:Q6)(Jr:Q42)(t:P6)(h:AH):Res:=c3 e (k3 e (r4 e Jn J0 Jr) J0 Jr) t h
theorem l3_eq(e Jn J0 Jr):∀ t h,X e (C [3,2]) (mkT K6 t) h (jk K6 Jn) (exK [(0,(jk K6 J0))]) (jk K42 Jr)=l3 e Jn J0 Jr t h
| (c,d,f,g,_),h=>(nd_norm' (X:=(C [3,2])) (a:=C [3,2,0]) (b:=C [3,3]) (L:=K6) (by kernel_rfl) (by kernel_rfl) (by kernel_rfl) (SB:=(r4 e Jn J0 Jr)) (r4_eq e Jn J0 Jr) _ _).trans (nd_chain' (X:=C [3,2,0]) (Y:=(C [3,2,1])) 1 (L:=K8) (S:=fun J=>c3 e J (c,d,f,g,()) h) (Q:=(k3 e (r4 e Jn J0 Jr) J0 Jr)) (by kernel_rfl) (fun n=>c3_eq e c d f g h n (exK [(0,(jk K6 J0))]) (jk K42 Jr)) (k3_eq e (r4 e Jn J0 Jr) J0 Jr))
noncomputable def k2(e:Cx)(Jn:Q42)(Jr:Q42)(t:P6)(h:AH):Res:=jaw (P6) e.F (fun t h n=>l3 e n (r6 e Jn Jr) Jr t h) t h
theorem k2_eq(e Jn Jr):∀ t h,X e (C [3]) (mkT K6 t) h (jk K42 Jn) (exK []) (jk K42 Jr)=k2 e Jn Jr t h
| (c,d,f,g,_),h=>(nd_norm' (X:=(C [3])) (a:=C [3,0]) (b:=C [4]) (L:=K6) (by kernel_rfl) (by kernel_rfl) (by kernel_rfl) (SB:=(r6 e Jn Jr)) (r6_eq e Jn Jr) _ _).trans (nd_block' (X:=C [3,0]) (id:=0) (b:=C [3,1]) (by kernel_rfl) ((nd_loop' (X:=C [3,1]) (b:=C [3,2]) (L:=K6) (by kernel_rfl) (by kernel_rfl) (SB:=fun n=>l3 e n (r6 e Jn Jr) Jr) (fun n=>l3_eq e n (r6 e Jn Jr) Jr) _ _).trans (by kernel_rfl)))
noncomputable def fn(e:Cx)(a:V)(h:AH):Res :=
 c0 e (k2 e ret ret) (a,()) h
theorem run(e:Cx)(a:V)(h:AH):execFn (cfgS e) (jbi lv) e.F nzbi [a] h=fn e a h:=by
 refine (fn_eq (c:=cfgS e) (lv:=lv) (PP.funcs.getD 28 default) B (by kernel_rfl) (by kernel_rfl) (Nat.le_of_ble_eq_true (by kernel_rfl))).trans ?_
 rw [ret_eq]
 exact nd_chain' (X:=C [0]) (Y:=(C [3])) 3 (L:=K6) (S:=fun J=>c0 e J (a,()) h) (Q:=(k2 e ret ret)) (by kernel_rfl) (fun n=>c0_eq e a h n (exK []) (jk K42 ret)) (k2_eq e ret ret)
end zbi
namespace zaq
noncomputable def B:Code:=cBody (PP.funcs.getD 30 default)
abbrev K2:Slots:=[(1,.any)]
abbrev P2:=V×Unit
abbrev Q2:=P2→AH→Res
abbrev K4:Slots:=[(1,.any),(15,.bool)]
abbrev P4:=V×Bool×Unit
abbrev Q4:=P4→AH→Res
abbrev K6:Slots:=[(2,.int .i64),(3,.int .i64),(4,.int .i64)]
abbrev P6:=Int×Int×Int×Unit
abbrev Q6:=P6→AH→Res
abbrev K8:Slots:=[(1,.any),(20,.bool)]
abbrev P8:=V×Bool×Unit
abbrev Q8:=P8→AH→Res
abbrev K12:Slots:=[(1,.any),(5,.int .u64)]
abbrev P12:=V×Int×Unit
abbrev Q12:=P12→AH→Res
abbrev K14:Slots:=[(1,.any),(5,.int .u64),(21,.int .i64)]
abbrev P14:=V×Int×Int×Unit
abbrev Q14:=P14→AH→Res
abbrev K16:Slots:=[(1,.any),(5,.int .u64),(21,.int .i64),(22,.bool)]
abbrev P16:=V×Int×Int×Bool×Unit
abbrev Q16:=P16→AH→Res
abbrev K18:Slots:=[(1,.any),(5,.int .u64),(6,.int .i64),(21,.int .i64)]
abbrev P18:=V×Int×Int×Int×Unit
abbrev Q18:=P18→AH→Res
abbrev K20:Slots:=[(1,.any),(5,.int .u64),(7,.int .u64),(21,.int .i64)]
abbrev P20:=V×Int×Int×Int×Unit
abbrev Q20:=P20→AH→Res
abbrev K22:Slots:=[(1,.any),(7,.int .u64),(21,.int .i64),(31,.bool)]
abbrev P22:=V×Int×Int×Bool×Unit
abbrev Q22:=P22→AH→Res
abbrev K25:Slots:=[(1,.any),(7,.int .u64),(21,.int .i64)]
abbrev P25:=V×Int×Int×Unit
abbrev Q25:=P25→AH→Res
abbrev K30:Slots:=[(1,.any),(5,.int .u64),(35,.bool)]
abbrev P30:=V×Int×Bool×Unit
abbrev Q30:=P30→AH→Res
abbrev K34:Slots:=[(1,.any),(8,.int .i64),(9,.int .i64)]
abbrev P34:=V×Int×Int×Unit
abbrev Q34:=P34→AH→Res
abbrev K36:Slots:=[(1,.any),(8,.int .i64),(9,.int .i64),(45,.bool)]
abbrev P36:=V×Int×Int×Bool×Unit
abbrev Q36:=P36→AH→Res
abbrev K40:Slots:=[(1,.any),(8,.int .i64),(9,.int .i64),(46,.int .i64),(47,.int .i64)]
abbrev P40:=V×Int×Int×Int×Int×Unit
abbrev Q40:=P40→AH→Res
abbrev K42:Slots:=[(1,.any),(8,.int .i64),(9,.int .i64),(46,.int .i64),(47,.int .i64),(48,.bool)]
abbrev P42:=V×Int×Int×Int×Int×Bool×Unit
abbrev Q42:=P42→AH→Res
abbrev K44:Slots:=[(1,.any),(8,.int .i64),(9,.int .i64),(10,.int .i64),(46,.int .i64),(47,.int .i64)]
abbrev P44:=V×Int×Int×Int×Int×Int×Unit
abbrev Q44:=P44→AH→Res
abbrev K46:Slots:=[(1,.any),(8,.int .i64),(9,.int .i64),(46,.int .i64),(47,.int .i64),(58,.bool)]
abbrev P46:=V×Int×Int×Int×Int×Bool×Unit
abbrev Q46:=P46→AH→Res
abbrev K52:Slots:=[(1,.any),(8,.int .i64),(9,.int .i64),(11,.int .i64)]
abbrev P52:=V×Int×Int×Int×Unit
abbrev Q52:=P52→AH→Res
abbrev K54:Slots:=[(1,.any),(8,.int .i64),(9,.int .i64),(11,.int .i64),(69,.bool)]
abbrev P54:=V×Int×Int×Int×Bool×Unit
abbrev Q54:=P54→AH→Res
abbrev K58:Slots:=[(8,.int .i64),(9,.int .i64),(75,.bool)]
abbrev P58:=Int×Int×Bool×Unit
abbrev Q58:=P58→AH→Res
abbrev K61:Slots:=[(8,.int .i64),(9,.int .i64)]
abbrev P61:=Int×Int×Unit
abbrev Q61:=P61→AH→Res
noncomputable def lv:=lvT [(2,K2),(4,K4),(6,K6),(7,K2),(8,K8),(10,K6),(11,K2),(12,K12),(14,K14),(16,K16),(17,K14),(18,K18),(20,K20),(22,K22),(24,K6),(25,K25),(26,K14),(27,K14),(28,K14),(15,K14),(29,K12),(30,K30),(32,K6),(33,K12),(34,K34),(36,K36),(38,K6),(39,K34),(40,K40),(42,K42),(43,K40),(44,K44),(46,K46),(48,K40),(49,K40),(50,K40),(41,K40),(51,K34),(52,K52),(54,K54),(58,K58),(60,K6),(56,K6),(61,K61),(62,K6)]
abbrev KR:Slots:=[(2,.any),(3,.any),(4,.any)]
abbrev PR:=V×V×V×Unit
abbrev QR:=PR→AH→Res
noncomputable abbrev X (e:Cx):=exL (cfgS e) lv 83 e.F
noncomputable abbrev Y (e:Cx):=runL (cfgS e) lv 83 e.F
noncomputable abbrev C (p:List Nat):=cP p B
noncomputable def ret:QR
| (a,b,c,_),h=>finW [some a,some b,some c] h
theorem ret_eq(e:Cx):fin (cfgS e) (jbi lv) (PP.funcs.getD 30 default)=jk KR ret:=by kernel_rfl
noncomputable def c0(e:Cx)(J:Q2):List V×Unit→AH→Res
| (a,_),h =>
 cV (absBox jba (.agg a) h) fun b c =>
 J (b,()) c
theorem c0_eq(e a h n ee r):Y e (peel 1 (C [0])).1 (iniT [(.agg a)] 0 .leaf) h n ee r=c0 e (fun t h=>n (mkT K2 t) h) (a,()) h:=by kernel_rfl
noncomputable def c5(e:Cx)(J:Q12):Q2
| (a,_),h =>
 J (a,0,()) h
theorem c5_eq(e a h n ee r):Y e (peel 1 (C [3])).1 (mkT K2 (a,())) h n ee r=c5 e (fun t h=>n (mkT K12 t) h) (a,()) h:=by kernel_rfl
noncomputable def c16(e:Cx)(J:Q34):Q12
| (a,b,_),h =>
 J (a,(wr .i64 b),0,()) h
theorem c16_eq(e a b h n ee r):Y e (peel 1 (C [6])).1 (mkT K12 (a,b,())) h n ee r=c16 e (fun t h=>n (mkT K34 t) h) (a,b,()) h:=by kernel_rfl
noncomputable def c30(e:Cx)(J:Q6):Q61
| (a,b,_),h =>
 J (a,b,0,()) h
theorem c30_eq(e a b h n ee r):Y e (peel 1 (C [10])).1 (mkT K61 (a,b,())) h n ee r=c30 e (fun t h=>n (mkT K6 t) h) (a,b,()) h:=by kernel_rfl
noncomputable def r30(e:Cx)(Jn:QR)(Jr:QR)(t:P61)(h:AH):Res:=c30 e (fun | (a,b,c,_),d=>Jr ((.int .i64 a),(.int .i64 b),(.int .i64 c),()) d) t h
theorem r30_eq(e Jn Jr):∀ t h,X e (C [10]) (mkT K61 t) h (jk KR Jn) (exK []) (jk KR Jr)=r30 e Jn Jr t h
| (a,b,_),h=>nd_chain' (X:=C [10]) (Y:=(C [11])) 1 (L:=K6) (S:=fun J=>c30 e J (a,b,()) h) (Q:=fun | (c,d,f,_),g=>Jr ((.int .i64 c),(.int .i64 d),(.int .i64 f),()) g) (by kernel_rfl) (fun n=>c30_eq e a b h n (exK []) (jk KR Jr)) (fun | (c,d,f,_),g=>by kernel_rfl)
noncomputable def c25(e:Cx)(J:Q52):Q34
| (a,b,c,_),h =>
 let d:Int:=(wr .i64 ((wr .i64 (1032+(wr .i64 (40*b))))+(wr .i64 (8*c))))
 J (a,b,c,(wr .i64 (d+64)),()) h
theorem c25_eq(e a b c h n ee r):Y e (peel 1 (C [9,0])).1 (mkT K34 (a,b,c,())) h n ee r=c25 e (fun t h=>n (mkT K52 t) h) (a,b,c,()) h:=by kernel_rfl
noncomputable def c26(e:Cx)(J:Q54):Q52
| (a,b,c,d,_),h =>
 bV (fA 0 a) h fun f g =>
 bV (ld f g) g fun i j =>
 bI .i64 (lenS i) j fun k l =>
 J (a,b,c,d,(decide (k<d)),()) l
theorem c26_eq(e a b c d h n ee r):Y e (peel 1 (C [9,2])).1 (mkT K52 (a,b,c,d,())) h n ee r=c26 e (fun t h=>n (mkT K54 t) h) (a,b,c,d,()) h:=by kernel_rfl
noncomputable def c27(e:Cx)(J:Q6):Q54
| (a,b,c,d,f,_),h =>
 J (0,0,5,()) h
theorem c27_eq(e a b c d f h n ee r):Y e (peel 1 (C [9,3,0])).1 (mkT K54 (a,b,c,d,f,())) h n ee r=c27 e (fun t h=>n (mkT K6 t) h) (a,b,c,d,f,()) h:=by kernel_rfl
noncomputable def c28(e:Cx)(J:Q58):Q54
| (a,b,c,d,f,_),h =>
 bV (fA 0 a) h fun g i =>
 bV (ld g i) i fun j k =>
 bI .i64 (lenS j) k fun l m =>
 J (b,c,(decide (l>d)),()) m
theorem c28_eq(e a b c d f h n ee r):Y e (peel 1 (C [9,4])).1 (mkT K54 (a,b,c,d,f,())) h n ee r=c28 e (fun t h=>n (mkT K58 t) h) (a,b,c,d,f,()) h:=by kernel_rfl
noncomputable def c29(e:Cx)(J:Q6):Q58
| (a,b,c,_),h =>
 J (0,0,4,()) h
theorem c29_eq(e a b c h n ee r):Y e (peel 1 (C [9,5,0])).1 (mkT K58 (a,b,c,())) h n ee r=c29 e (fun t h=>n (mkT K6 t) h) (a,b,c,()) h:=by kernel_rfl
noncomputable def k28(e:Cx)(Jn:Q61)(J4:Q61)(Jr:QR):Q58
| (a,b,c,_),h =>
 bif c then c29 e (fun | (d,f,g,_),i=>Jr ((.int .i64 d),(.int .i64 f),(.int .i64 g),()) i) (a,b,c,()) h else Jn (a,b,()) h
theorem k28_eq(e Jn J4 Jr):∀ t h,X e (C [9,5]) (mkT K58 t) h (jk K61 Jn) (exK [(4,(jk K61 J4))]) (jk KR Jr)=k28 e Jn J4 Jr t h
| (c,d,f,_),h=>nd_cond' (X:=C [9,5]) (a:=C [9,5,0]) (b:=C [9,6]) (t:=f) (x:=.tmp 75) (by kernel_rfl) (by kernel_rfl) (nd_chain' (X:=C [9,5,0]) (Y:=(C [9,5,1])) 1 (L:=K6) (S:=fun J=>c29 e J (c,d,f,()) h) (Q:=fun | (g,i,j,_),k=>Jr ((.int .i64 g),(.int .i64 i),(.int .i64 j),()) k) (by kernel_rfl) (fun n=>c29_eq e c d f h n (exK [(4,(jk K61 J4))]) (jk KR Jr)) (fun | (g,i,j,_),k=>by kernel_rfl)) (by kernel_rfl)
noncomputable def k26(e:Cx)(Jn:Q61)(J4:Q61)(Jr:QR):Q54
| (a,b,c,d,f,_),h =>
 bif f then c27 e (fun | (g,i,j,_),k=>Jr ((.int .i64 g),(.int .i64 i),(.int .i64 j),()) k) (a,b,c,d,f,()) h else c28 e (k28 e Jn J4 Jr) (a,b,c,d,f,()) h
theorem k26_eq(e Jn J4 Jr):∀ t h,X e (C [9,3]) (mkT K54 t) h (jk K61 Jn) (exK [(4,(jk K61 J4))]) (jk KR Jr)=k26 e Jn J4 Jr t h
| (c,d,f,g,i,_),h=>nd_cond' (X:=C [9,3]) (a:=C [9,3,0]) (b:=C [9,4]) (t:=i) (x:=.tmp 69) (by kernel_rfl) (by kernel_rfl) (nd_chain' (X:=C [9,3,0]) (Y:=(C [9,3,1])) 1 (L:=K6) (S:=fun J=>c27 e J (c,d,f,g,i,()) h) (Q:=fun | (j,k,l,_),m=>Jr ((.int .i64 j),(.int .i64 k),(.int .i64 l),()) m) (by kernel_rfl) (fun n=>c27_eq e c d f g i h n (exK [(4,(jk K61 J4))]) (jk KR Jr)) (fun | (j,k,l,_),m=>by kernel_rfl)) (nd_chain' (X:=C [9,4]) (Y:=(C [9,5])) 1 (L:=K58) (S:=fun J=>c28 e J (c,d,f,g,i,()) h) (Q:=(k28 e Jn J4 Jr)) (by kernel_rfl) (fun n=>c28_eq e c d f g i h n (exK [(4,(jk K61 J4))]) (jk KR Jr)) (k28_eq e Jn J4 Jr))
noncomputable def k25(e:Cx)(Jn:Q61)(Jr:QR)(t:P52)(h:AH):Res:=c26 e (k26 e Jn Jn Jr) t h
theorem k25_eq(e Jn Jr):∀ t h,X e (C [9,1]) (mkT K52 t) h (jk K61 Jn) (exK []) (jk KR Jr)=k25 e Jn Jr t h
| (a,c,d,f,_),h=>nd_block' (X:=C [9,1]) (id:=4) (b:=C [9,2]) (by kernel_rfl) (nd_chain' (X:=C [9,2]) (Y:=(C [9,3])) 1 (L:=K54) (S:=fun J=>c26 e J (a,c,d,f,()) h) (Q:=(k26 e Jn Jn Jr)) (by kernel_rfl) (fun n=>c26_eq e a c d f h n (exK [(4,(jk K61 Jn))]) (jk KR Jr)) (k26_eq e Jn Jn Jr))
noncomputable def r25(e:Cx)(Jn:QR)(Jr:QR)(t:P34)(h:AH):Res:=c25 e (k25 e (r30 e Jn Jr) Jr) t h
theorem r25_eq(e Jn Jr):∀ t h,X e (C [9]) (mkT K34 t) h (jk KR Jn) (exK []) (jk KR Jr)=r25 e Jn Jr t h
| (c,d,f,_),h=>(nd_norm' (X:=(C [9])) (a:=C [9,0]) (b:=C [10]) (L:=K61) (by kernel_rfl) (by kernel_rfl) (by kernel_rfl) (SB:=(r30 e Jn Jr)) (r30_eq e Jn Jr) _ _).trans (nd_chain' (X:=C [9,0]) (Y:=(C [9,1])) 1 (L:=K52) (S:=fun J=>c25 e J (c,d,f,()) h) (Q:=(k25 e (r30 e Jn Jr) Jr)) (by kernel_rfl) (fun n=>c25_eq e c d f h n (exK []) (jk KR Jr)) (k25_eq e (r30 e Jn Jr) Jr))
noncomputable def c19(e:Cx)(J:Q40):Q34
| (a,b,c,_),h =>
 J (a,b,c,b,0,()) h
theorem c19_eq(e a b c h n ee r):Y e (peel 1 (C [8,0])).1 (mkT K34 (a,b,c,())) h n ee r=c19 e (fun t h=>n (mkT K40 t) h) (a,b,c,()) h:=by kernel_rfl
noncomputable def c20(e:Cx)(J:Q42):Q40
| (a,b,c,d,f,_),h =>
 J (a,b,c,d,f,(decide (f<d)),()) h
theorem c20_eq(e a b c d f h n ee r):Y e (peel 1 (C [8,3])).1 (mkT K40 (a,b,c,d,f,())) h n ee r=c20 e (fun t h=>n (mkT K42 t) h) (a,b,c,d,f,()) h:=by kernel_rfl
noncomputable def c24(e:Cx)(J:Q40):Q40
| (a,b,c,d,f,_),h =>
 J (a,b,c,d,(wr .i64 (f+1)),()) h
theorem c24_eq(e a b c d f h n ee r):Y e (peel 1 (C [8,6])).1 (mkT K40 (a,b,c,d,f,())) h n ee r=c24 e (fun t h=>n (mkT K40 t) h) (a,b,c,d,f,()) h:=by kernel_rfl
noncomputable def r24(e:Cx)(Jn:Q40)(J2:Q34)(Jr:QR)(t:P40)(h:AH):Res:=c24 e Jn t h
theorem r24_eq(e Jn J2 Jr):∀ t h,X e (C [8,6]) (mkT K40 t) h (jk K40 Jn) (exK [(2,(jk K34 J2))]) (jk KR Jr)=r24 e Jn J2 Jr t h
| (a,b,c,d,f,_),h=>nd_chain' (X:=C [8,6]) (Y:=.skip) 1 (L:=K40) (S:=fun J=>c24 e J (a,b,c,d,f,()) h) (Q:=Jn) (by kernel_rfl) (fun n=>c24_eq e a b c d f h n (exK [(2,(jk K34 J2))]) (jk KR Jr)) (fun t h=>by kernel_rfl)
noncomputable def c21(e:Cx)(J:Q46):Q40
| (a,b,c,d,f,_),h =>
 bA (ldA 1 a h) h fun g i =>
 let j:Int:=(wr .i64 ((wr .i64 (1032+(wr .i64 (36*b))))+(wr .i64 (4*f))))
 cI .u64 (e.C nzar [(.agg g),(.int .i64 j)] i) fun k l =>
 J (a,b,c,d,f,(decide (k≥2147483648)),()) l
theorem c21_eq(e a b c d f h n ee r):Y e (peel 2 (C [8,5,1])).1 (mkT K40 (a,b,c,d,f,())) h n ee r=c21 e (fun t h=>n (mkT K46 t) h) (a,b,c,d,f,()) h:=by kernel_rfl
noncomputable def c23(e:Cx)(J:Q40):Q46
| (a,b,c,d,f,g,_),h =>
 J (a,b,(wr .i64 (c+1)),d,f,()) h
theorem c23_eq(e a b c d f g h n ee r):Y e (peel 1 (C [8,5,3,0])).1 (mkT K46 (a,b,c,d,f,g,())) h n ee r=c23 e (fun t h=>n (mkT K40 t) h) (a,b,c,d,f,g,()) h:=by kernel_rfl
noncomputable def k22(e:Cx)(Jn:Q40)(J3:Q40)(J2:Q34)(Jr:QR):Q46
| (a,b,c,d,f,g,_),h =>
 bif g then c23 e Jn (a,b,c,d,f,g,()) h else Jn (a,b,c,d,f,()) h
theorem k22_eq(e Jn J3 J2 Jr):∀ t h,X e (C [8,5,3]) (mkT K46 t) h (jk K40 Jn) (exK [(3,(jk K40 J3)),(2,(jk K34 J2))]) (jk KR Jr)=k22 e Jn J3 J2 Jr t h
| (c,d,f,g,i,j,_),h=>nd_cond' (X:=C [8,5,3]) (a:=C [8,5,3,0]) (b:=C [8,5,4]) (t:=j) (x:=.tmp 58) (by kernel_rfl) (by kernel_rfl) (nd_chain' (X:=C [8,5,3,0]) (Y:=.skip) 1 (L:=K40) (S:=fun J=>c23 e J (c,d,f,g,i,j,()) h) (Q:=Jn) (by kernel_rfl) (fun n=>c23_eq e c d f g i j h n (exK [(3,(jk K40 J3)),(2,(jk K34 J2))]) (jk KR Jr)) (fun t h=>by kernel_rfl)) (by kernel_rfl)
noncomputable def r21(e:Cx)(Jn:Q40)(J2:Q34)(Jr:QR)(t:P40)(h:AH):Res:=c21 e (k22 e (r24 e Jn J2 Jr) (r24 e Jn J2 Jr) J2 Jr) t h
theorem r21_eq(e Jn J2 Jr):∀ t h,X e (C [8,5]) (mkT K40 t) h (jk K40 Jn) (exK [(2,(jk K34 J2))]) (jk KR Jr)=r21 e Jn J2 Jr t h
| (c,d,f,g,i,_),h=>(nd_norm' (X:=(C [8,5])) (a:=C [8,5,0]) (b:=C [8,6]) (L:=K40) (by kernel_rfl) (by kernel_rfl) (by kernel_rfl) (SB:=(r24 e Jn J2 Jr)) (r24_eq e Jn J2 Jr) _ _).trans (nd_block' (X:=C [8,5,0]) (id:=3) (b:=C [8,5,1]) (by kernel_rfl) (nd_chain' (X:=C [8,5,1]) (Y:=(C [8,5,3])) 2 (L:=K46) (S:=fun J=>c21 e J (c,d,f,g,i,()) h) (Q:=(k22 e (r24 e Jn J2 Jr) (r24 e Jn J2 Jr) J2 Jr)) (by kernel_rfl) (fun n=>c21_eq e c d f g i h n (exK [(3,(jk K40 (r24 e Jn J2 Jr))),(2,(jk K34 J2))]) (jk KR Jr)) (k22_eq e (r24 e Jn J2 Jr) (r24 e Jn J2 Jr) J2 Jr)))
noncomputable def k20(e:Cx)(Jn:Q40)(J2:Q34)(Jr:QR):Q42
| (a,b,c,d,f,g,_),h =>
 bif g then (r21 e Jn J2 Jr) (a,b,c,d,f,()) h else J2 (a,b,c,()) h
theorem k20_eq(e Jn J2 Jr):∀ t h,X e (C [8,4]) (mkT K42 t) h (jk K40 Jn) (exK [(2,(jk K34 J2))]) (jk KR Jr)=k20 e Jn J2 Jr t h
| (c,d,f,g,i,j,_),h=>(nd_norm' (X:=(C [8,4])) (a:=C [8,4,0]) (b:=C [8,5]) (L:=K40) (by kernel_rfl) (by kernel_rfl) (by kernel_rfl) (SB:=(r21 e Jn J2 Jr)) (r21_eq e Jn J2 Jr) _ _).trans (nd_cond' (X:=C [8,4,0]) (a:=C [8,4,0,0]) (b:=C [8,4,1]) (t:=j) (x:=.tmp 48) (by kernel_rfl) (by kernel_rfl) (by kernel_rfl) (by kernel_rfl))
noncomputable def l20(e:Cx)(Jn:Q40)(J2:Q34)(Jr:QR)(t:P40)(h:AH):Res:=c20 e (k20 e Jn J2 Jr) t h
theorem l20_eq(e Jn J2 Jr):∀ t h,X e (C [8,3]) (mkT K40 t) h (jk K40 Jn) (exK [(2,(jk K34 J2))]) (jk KR Jr)=l20 e Jn J2 Jr t h
| (a,b,c,d,f,_),h=>nd_chain' (X:=C [8,3]) (Y:=(C [8,4])) 1 (L:=K42) (S:=fun J=>c20 e J (a,b,c,d,f,()) h) (Q:=(k20 e Jn J2 Jr)) (by kernel_rfl) (fun n=>c20_eq e a b c d f h n (exK [(2,(jk K34 J2))]) (jk KR Jr)) (k20_eq e Jn J2 Jr)
noncomputable def k19(e:Cx)(Jn:Q34)(Jr:QR)(t:P40)(h:AH):Res:=jaw (P40) e.F (fun t h n=>l20 e n Jn Jr t h) t h
theorem k19_eq(e Jn Jr):∀ t h,X e (C [8,1]) (mkT K40 t) h (jk K34 Jn) (exK []) (jk KR Jr)=k19 e Jn Jr t h
| (a,c,d,f,g,_),h=>nd_block' (X:=C [8,1]) (id:=2) (b:=C [8,2]) (by kernel_rfl) ((nd_loop' (X:=C [8,2]) (b:=C [8,3]) (L:=K40) (by kernel_rfl) (by kernel_rfl) (SB:=fun n=>l20 e n Jn Jr) (fun n=>l20_eq e n Jn Jr) _ _).trans (by kernel_rfl))
noncomputable def r19(e:Cx)(Jn:QR)(Jr:QR)(t:P34)(h:AH):Res:=c19 e (k19 e (r25 e Jn Jr) Jr) t h
theorem r19_eq(e Jn Jr):∀ t h,X e (C [8]) (mkT K34 t) h (jk KR Jn) (exK []) (jk KR Jr)=r19 e Jn Jr t h
| (c,d,f,_),h=>(nd_norm' (X:=(C [8])) (a:=C [8,0]) (b:=C [9]) (L:=K34) (by kernel_rfl) (by kernel_rfl) (by kernel_rfl) (SB:=(r25 e Jn Jr)) (r25_eq e Jn Jr) _ _).trans (nd_chain' (X:=C [8,0]) (Y:=(C [8,1])) 1 (L:=K40) (S:=fun J=>c19 e J (c,d,f,()) h) (Q:=(k19 e (r25 e Jn Jr) Jr)) (by kernel_rfl) (fun n=>c19_eq e c d f h n (exK []) (jk KR Jr)) (k19_eq e (r25 e Jn Jr) Jr))
noncomputable def c17(e:Cx)(J:Q36):Q34
| (a,b,c,_),h =>
 bV (fA 0 a) h fun d f =>
 bV (ld d f) f fun g i =>
 bI .i64 (lenS g) i fun j k =>
 let l:Int:=(wr .i64 ((wr .i64 (1032+(wr .i64 (40*b))))+64))
 J (a,b,c,(decide (j<l)),()) k
theorem c17_eq(e a b c h n ee r):Y e (peel 1 (C [7,0])).1 (mkT K34 (a,b,c,())) h n ee r=c17 e (fun t h=>n (mkT K36 t) h) (a,b,c,()) h:=by kernel_rfl
noncomputable def c18(e:Cx)(J:Q6):Q36
| (a,b,c,d,_),h =>
 J (0,0,5,()) h
theorem c18_eq(e a b c d h n ee r):Y e (peel 1 (C [7,1,0])).1 (mkT K36 (a,b,c,d,())) h n ee r=c18 e (fun t h=>n (mkT K6 t) h) (a,b,c,d,()) h:=by kernel_rfl
noncomputable def k17(e:Cx)(Jn:Q34)(Jr:QR):Q36
| (a,b,c,d,_),h =>
 bif d then c18 e (fun | (f,g,i,_),j=>Jr ((.int .i64 f),(.int .i64 g),(.int .i64 i),()) j) (a,b,c,d,()) h else Jn (a,b,c,()) h
theorem k17_eq(e Jn Jr):∀ t h,X e (C [7,1]) (mkT K36 t) h (jk K34 Jn) (exK []) (jk KR Jr)=k17 e Jn Jr t h
| (c,d,f,g,_),h=>nd_cond' (X:=C [7,1]) (a:=C [7,1,0]) (b:=C [7,2]) (t:=g) (x:=.tmp 45) (by kernel_rfl) (by kernel_rfl) (nd_chain' (X:=C [7,1,0]) (Y:=(C [7,1,1])) 1 (L:=K6) (S:=fun J=>c18 e J (c,d,f,g,()) h) (Q:=fun | (i,j,k,_),l=>Jr ((.int .i64 i),(.int .i64 j),(.int .i64 k),()) l) (by kernel_rfl) (fun n=>c18_eq e c d f g h n (exK []) (jk KR Jr)) (fun | (i,j,k,_),l=>by kernel_rfl)) (by kernel_rfl)
noncomputable def k16(e:Cx)(Jn:QR)(Jr:QR)(t:P34)(h:AH):Res:=c17 e (k17 e (r19 e Jn Jr) Jr) t h
theorem k16_eq(e Jn Jr):∀ t h,X e (C [7]) (mkT K34 t) h (jk KR Jn) (exK []) (jk KR Jr)=k16 e Jn Jr t h
| (c,d,f,_),h=>(nd_norm' (X:=(C [7])) (a:=C [7,0]) (b:=C [8]) (L:=K34) (by kernel_rfl) (by kernel_rfl) (by kernel_rfl) (SB:=(r19 e Jn Jr)) (r19_eq e Jn Jr) _ _).trans (nd_chain' (X:=C [7,0]) (Y:=(C [7,1])) 1 (L:=K36) (S:=fun J=>c17 e J (c,d,f,()) h) (Q:=(k17 e (r19 e Jn Jr) Jr)) (by kernel_rfl) (fun n=>c17_eq e c d f h n (exK []) (jk KR Jr)) (k17_eq e (r19 e Jn Jr) Jr))
noncomputable def r16(e:Cx)(Jn:QR)(Jr:QR)(t:P12)(h:AH):Res:=c16 e (k16 e Jn Jr) t h
theorem r16_eq(e Jn Jr):∀ t h,X e (C [6]) (mkT K12 t) h (jk KR Jn) (exK []) (jk KR Jr)=r16 e Jn Jr t h
| (a,b,_),h=>nd_chain' (X:=C [6]) (Y:=(C [7])) 1 (L:=K34) (S:=fun J=>c16 e J (a,b,()) h) (Q:=(k16 e Jn Jr)) (by kernel_rfl) (fun n=>c16_eq e a b h n (exK []) (jk KR Jr)) (k16_eq e Jn Jr)
noncomputable def c14(e:Cx)(J:Q30):Q12
| (a,b,_),h =>
 J (a,b,(decide (b>4096)),()) h
theorem c14_eq(e a b h n ee r):Y e (peel 1 (C [5,0])).1 (mkT K12 (a,b,())) h n ee r=c14 e (fun t h=>n (mkT K30 t) h) (a,b,()) h:=by kernel_rfl
noncomputable def c15(e:Cx)(J:Q6):Q30
| (a,b,c,_),h =>
 J (0,0,10,()) h
theorem c15_eq(e a b c h n ee r):Y e (peel 1 (C [5,1,0])).1 (mkT K30 (a,b,c,())) h n ee r=c15 e (fun t h=>n (mkT K6 t) h) (a,b,c,()) h:=by kernel_rfl
noncomputable def k14(e:Cx)(Jn:Q12)(Jr:QR):Q30
| (a,b,c,_),h =>
 bif c then c15 e (fun | (d,f,g,_),i=>Jr ((.int .i64 d),(.int .i64 f),(.int .i64 g),()) i) (a,b,c,()) h else Jn (a,b,()) h
theorem k14_eq(e Jn Jr):∀ t h,X e (C [5,1]) (mkT K30 t) h (jk K12 Jn) (exK []) (jk KR Jr)=k14 e Jn Jr t h
| (c,d,f,_),h=>nd_cond' (X:=C [5,1]) (a:=C [5,1,0]) (b:=C [5,2]) (t:=f) (x:=.tmp 35) (by kernel_rfl) (by kernel_rfl) (nd_chain' (X:=C [5,1,0]) (Y:=(C [5,1,1])) 1 (L:=K6) (S:=fun J=>c15 e J (c,d,f,()) h) (Q:=fun | (g,i,j,_),k=>Jr ((.int .i64 g),(.int .i64 i),(.int .i64 j),()) k) (by kernel_rfl) (fun n=>c15_eq e c d f h n (exK []) (jk KR Jr)) (fun | (g,i,j,_),k=>by kernel_rfl)) (by kernel_rfl)
noncomputable def r14(e:Cx)(Jn:QR)(Jr:QR)(t:P12)(h:AH):Res:=c14 e (k14 e (r16 e Jn Jr) Jr) t h
theorem r14_eq(e Jn Jr):∀ t h,X e (C [5]) (mkT K12 t) h (jk KR Jn) (exK []) (jk KR Jr)=r14 e Jn Jr t h
| (c,d,_),h=>(nd_norm' (X:=(C [5])) (a:=C [5,0]) (b:=C [6]) (L:=K12) (by kernel_rfl) (by kernel_rfl) (by kernel_rfl) (SB:=(r16 e Jn Jr)) (r16_eq e Jn Jr) _ _).trans (nd_chain' (X:=C [5,0]) (Y:=(C [5,1])) 1 (L:=K30) (S:=fun J=>c14 e J (c,d,()) h) (Q:=(k14 e (r16 e Jn Jr) Jr)) (by kernel_rfl) (fun n=>c14_eq e c d h n (exK []) (jk KR Jr)) (k14_eq e (r16 e Jn Jr) Jr))
noncomputable def c6(e:Cx)(J:Q14):Q12
| (a,b,_),h =>
 J (a,b,0,()) h
theorem c6_eq(e a b h n ee r):Y e (peel 1 (C [4,0])).1 (mkT K12 (a,b,())) h n ee r=c6 e (fun t h=>n (mkT K14 t) h) (a,b,()) h:=by kernel_rfl
noncomputable def c7(e:Cx)(J:Q16):Q14
| (a,b,c,_),h =>
 J (a,b,c,(decide (c<256)),()) h
theorem c7_eq(e a b c h n ee r):Y e (peel 1 (C [4,3])).1 (mkT K14 (a,b,c,())) h n ee r=c7 e (fun t h=>n (mkT K16 t) h) (a,b,c,()) h:=by kernel_rfl
noncomputable def c13(e:Cx)(J:Q14):Q14
| (a,b,c,_),h =>
 J (a,b,(wr .i64 (c+1)),()) h
theorem c13_eq(e a b c h n ee r):Y e (peel 1 (C [4,6])).1 (mkT K14 (a,b,c,())) h n ee r=c13 e (fun t h=>n (mkT K14 t) h) (a,b,c,()) h:=by kernel_rfl
noncomputable def r13(e:Cx)(Jn:Q14)(J0:Q12)(Jr:QR)(t:P14)(h:AH):Res:=c13 e Jn t h
theorem r13_eq(e Jn J0 Jr):∀ t h,X e (C [4,6]) (mkT K14 t) h (jk K14 Jn) (exK [(0,(jk K12 J0))]) (jk KR Jr)=r13 e Jn J0 Jr t h
| (a,b,c,_),h=>nd_chain' (X:=C [4,6]) (Y:=.skip) 1 (L:=K14) (S:=fun J=>c13 e J (a,b,c,()) h) (Q:=Jn) (by kernel_rfl) (fun n=>c13_eq e a b c h n (exK [(0,(jk K12 J0))]) (jk KR Jr)) (fun t h=>by kernel_rfl)
noncomputable def c8(e:Cx)(J:Q20):Q14
| (a,b,c,_),h =>
 bA (ldA 1 a h) h fun d f =>
 cI .u64 (e.C nzar [(.agg d),(.int .i64 (wr .i64 (8+(wr .i64 (4*c)))))] f) fun g i =>
 J (a,b,g,c,()) i
theorem c8_eq(e a b c h n ee r):Y e (peel 2 (C [4,5,1])).1 (mkT K14 (a,b,c,())) h n ee r=c8 e (fun t h=>n (mkT K20 t) h) (a,b,c,()) h:=by kernel_rfl
noncomputable def c12(e:Cx)(J:Q14):Q25
| (a,b,c,_),h =>
 J (a,b,c,()) h
theorem c12_eq(e a b c h n ee r):Y e (peel 1 (C [4,5,4])).1 (mkT K25 (a,b,c,())) h n ee r=c12 e (fun t h=>n (mkT K14 t) h) (a,b,c,()) h:=by kernel_rfl
noncomputable def r12(e:Cx)(Jn:Q14)(J1:Q14)(J0:Q12)(Jr:QR)(t:P25)(h:AH):Res:=c12 e Jn t h
theorem r12_eq(e Jn J1 J0 Jr):∀ t h,X e (C [4,5,4]) (mkT K25 t) h (jk K14 Jn) (exK [(1,(jk K14 J1)),(0,(jk K12 J0))]) (jk KR Jr)=r12 e Jn J1 J0 Jr t h
| (a,b,c,_),h=>nd_chain' (X:=C [4,5,4]) (Y:=.skip) 1 (L:=K14) (S:=fun J=>c12 e J (a,b,c,()) h) (Q:=Jn) (by kernel_rfl) (fun n=>c12_eq e a b c h n (exK [(1,(jk K14 J1)),(0,(jk K12 J0))]) (jk KR Jr)) (fun t h=>by kernel_rfl)
noncomputable def c10(e:Cx)(J:Q22):Q20
| (a,b,c,d,_),h =>
 J (a,c,d,(decide (c<b)),()) h
theorem c10_eq(e a b c d h n ee r):Y e (peel 1 (C [4,5,3,0])).1 (mkT K20 (a,b,c,d,())) h n ee r=c10 e (fun t h=>n (mkT K22 t) h) (a,b,c,d,()) h:=by kernel_rfl
noncomputable def c11(e:Cx)(J:Q6):Q22
| (a,b,c,d,_),h =>
 J (0,0,4,()) h
theorem c11_eq(e a b c d h n ee r):Y e (peel 1 (C [4,5,3,1,0])).1 (mkT K22 (a,b,c,d,())) h n ee r=c11 e (fun t h=>n (mkT K6 t) h) (a,b,c,d,()) h:=by kernel_rfl
noncomputable def k10(e:Cx)(Jn:Q25)(J1:Q14)(J0:Q12)(Jr:QR):Q22
| (a,b,c,d,_),h =>
 bif d then c11 e (fun | (f,g,i,_),j=>Jr ((.int .i64 f),(.int .i64 g),(.int .i64 i),()) j) (a,b,c,d,()) h else Jn (a,b,c,()) h
theorem k10_eq(e Jn J1 J0 Jr):∀ t h,X e (C [4,5,3,1]) (mkT K22 t) h (jk K25 Jn) (exK [(1,(jk K14 J1)),(0,(jk K12 J0))]) (jk KR Jr)=k10 e Jn J1 J0 Jr t h
| (c,d,f,g,_),h=>nd_cond' (X:=C [4,5,3,1]) (a:=C [4,5,3,1,0]) (b:=C [4,5,3,2]) (t:=g) (x:=.tmp 31) (by kernel_rfl) (by kernel_rfl) (nd_chain' (X:=C [4,5,3,1,0]) (Y:=(C [4,5,3,1,1])) 1 (L:=K6) (S:=fun J=>c11 e J (c,d,f,g,()) h) (Q:=fun | (i,j,k,_),l=>Jr ((.int .i64 i),(.int .i64 j),(.int .i64 k),()) l) (by kernel_rfl) (fun n=>c11_eq e c d f g h n (exK [(1,(jk K14 J1)),(0,(jk K12 J0))]) (jk KR Jr)) (fun | (i,j,k,_),l=>by kernel_rfl)) (by kernel_rfl)
noncomputable def k9(e:Cx)(Jn:Q14)(J1:Q14)(J0:Q12)(Jr:QR)(t:P20)(h:AH):Res:=c10 e (k10 e (r12 e Jn J1 J0 Jr) J1 J0 Jr) t h
theorem k9_eq(e Jn J1 J0 Jr):∀ t h,X e (C [4,5,3]) (mkT K20 t) h (jk K14 Jn) (exK [(1,(jk K14 J1)),(0,(jk K12 J0))]) (jk KR Jr)=k9 e Jn J1 J0 Jr t h
| (c,d,f,g,_),h=>(nd_norm' (X:=(C [4,5,3])) (a:=C [4,5,3,0]) (b:=C [4,5,4]) (L:=K25) (by kernel_rfl) (by kernel_rfl) (by kernel_rfl) (SB:=(r12 e Jn J1 J0 Jr)) (r12_eq e Jn J1 J0 Jr) _ _).trans (nd_chain' (X:=C [4,5,3,0]) (Y:=(C [4,5,3,1])) 1 (L:=K22) (S:=fun J=>c10 e J (c,d,f,g,()) h) (Q:=(k10 e (r12 e Jn J1 J0 Jr) J1 J0 Jr)) (by kernel_rfl) (fun n=>c10_eq e c d f g h n (exK [(1,(jk K14 J1)),(0,(jk K12 J0))]) (jk KR Jr)) (k10_eq e (r12 e Jn J1 J0 Jr) J1 J0 Jr))
noncomputable def r8(e:Cx)(Jn:Q14)(J0:Q12)(Jr:QR)(t:P14)(h:AH):Res:=c8 e (k9 e (r13 e Jn J0 Jr) (r13 e Jn J0 Jr) J0 Jr) t h
theorem r8_eq(e Jn J0 Jr):∀ t h,X e (C [4,5]) (mkT K14 t) h (jk K14 Jn) (exK [(0,(jk K12 J0))]) (jk KR Jr)=r8 e Jn J0 Jr t h
| (c,d,f,_),h=>(nd_norm' (X:=(C [4,5])) (a:=C [4,5,0]) (b:=C [4,6]) (L:=K14) (by kernel_rfl) (by kernel_rfl) (by kernel_rfl) (SB:=(r13 e Jn J0 Jr)) (r13_eq e Jn J0 Jr) _ _).trans (nd_block' (X:=C [4,5,0]) (id:=1) (b:=C [4,5,1]) (by kernel_rfl) (nd_chain' (X:=C [4,5,1]) (Y:=(C [4,5,3])) 2 (L:=K20) (S:=fun J=>c8 e J (c,d,f,()) h) (Q:=(k9 e (r13 e Jn J0 Jr) (r13 e Jn J0 Jr) J0 Jr)) (by kernel_rfl) (fun n=>c8_eq e c d f h n (exK [(1,(jk K14 (r13 e Jn J0 Jr))),(0,(jk K12 J0))]) (jk KR Jr)) (k9_eq e (r13 e Jn J0 Jr) (r13 e Jn J0 Jr) J0 Jr)))
noncomputable def k7(e:Cx)(Jn:Q14)(J0:Q12)(Jr:QR):Q16
| (a,b,c,d,_),h =>
 bif d then (r8 e Jn J0 Jr) (a,b,c,()) h else J0 (a,b,()) h
theorem k7_eq(e Jn J0 Jr):∀ t h,X e (C [4,4]) (mkT K16 t) h (jk K14 Jn) (exK [(0,(jk K12 J0))]) (jk KR Jr)=k7 e Jn J0 Jr t h
| (c,d,f,g,_),h=>(nd_norm' (X:=(C [4,4])) (a:=C [4,4,0]) (b:=C [4,5]) (L:=K14) (by kernel_rfl) (by kernel_rfl) (by kernel_rfl) (SB:=(r8 e Jn J0 Jr)) (r8_eq e Jn J0 Jr) _ _).trans (nd_cond' (X:=C [4,4,0]) (a:=C [4,4,0,0]) (b:=C [4,4,1]) (t:=g) (x:=.tmp 22) (by kernel_rfl) (by kernel_rfl) (by kernel_rfl) (by kernel_rfl))
noncomputable def l7(e:Cx)(Jn:Q14)(J0:Q12)(Jr:QR)(t:P14)(h:AH):Res:=c7 e (k7 e Jn J0 Jr) t h
theorem l7_eq(e Jn J0 Jr):∀ t h,X e (C [4,3]) (mkT K14 t) h (jk K14 Jn) (exK [(0,(jk K12 J0))]) (jk KR Jr)=l7 e Jn J0 Jr t h
| (a,b,c,_),h=>nd_chain' (X:=C [4,3]) (Y:=(C [4,4])) 1 (L:=K16) (S:=fun J=>c7 e J (a,b,c,()) h) (Q:=(k7 e Jn J0 Jr)) (by kernel_rfl) (fun n=>c7_eq e a b c h n (exK [(0,(jk K12 J0))]) (jk KR Jr)) (k7_eq e Jn J0 Jr)
noncomputable def k6(e:Cx)(Jn:Q12)(Jr:QR)(t:P14)(h:AH):Res:=jaw (P14) e.F (fun t h n=>l7 e n Jn Jr t h) t h
theorem k6_eq(e Jn Jr):∀ t h,X e (C [4,1]) (mkT K14 t) h (jk K12 Jn) (exK []) (jk KR Jr)=k6 e Jn Jr t h
| (a,c,d,_),h=>nd_block' (X:=C [4,1]) (id:=0) (b:=C [4,2]) (by kernel_rfl) ((nd_loop' (X:=C [4,2]) (b:=C [4,3]) (L:=K14) (by kernel_rfl) (by kernel_rfl) (SB:=fun n=>l7 e n Jn Jr) (fun n=>l7_eq e n Jn Jr) _ _).trans (by kernel_rfl))
noncomputable def k5(e:Cx)(Jn:QR)(Jr:QR)(t:P12)(h:AH):Res:=c6 e (k6 e (r14 e Jn Jr) Jr) t h
theorem k5_eq(e Jn Jr):∀ t h,X e (C [4]) (mkT K12 t) h (jk KR Jn) (exK []) (jk KR Jr)=k5 e Jn Jr t h
| (c,d,_),h=>(nd_norm' (X:=(C [4])) (a:=C [4,0]) (b:=C [5]) (L:=K12) (by kernel_rfl) (by kernel_rfl) (by kernel_rfl) (SB:=(r14 e Jn Jr)) (r14_eq e Jn Jr) _ _).trans (nd_chain' (X:=C [4,0]) (Y:=(C [4,1])) 1 (L:=K14) (S:=fun J=>c6 e J (c,d,()) h) (Q:=(k6 e (r14 e Jn Jr) Jr)) (by kernel_rfl) (fun n=>c6_eq e c d h n (exK []) (jk KR Jr)) (k6_eq e (r14 e Jn Jr) Jr))
noncomputable def r5(e:Cx)(Jn:QR)(Jr:QR)(t:P2)(h:AH):Res:=c5 e (k5 e Jn Jr) t h
theorem r5_eq(e Jn Jr):∀ t h,X e (C [3]) (mkT K2 t) h (jk KR Jn) (exK []) (jk KR Jr)=r5 e Jn Jr t h
| (a,_),h=>nd_chain' (X:=C [3]) (Y:=(C [4])) 1 (L:=K12) (S:=fun J=>c5 e J (a,()) h) (Q:=(k5 e Jn Jr)) (by kernel_rfl) (fun n=>c5_eq e a h n (exK []) (jk KR Jr)) (k5_eq e Jn Jr)
noncomputable def c3(e:Cx)(J:Q8):Q2
| (a,_),h =>
 bV (fA 0 a) h fun b c =>
 bV (ld b c) c fun d f =>
 bV (slS 1 d none (some (.int .i64 8)) none) f fun g i =>
 cZ (toS g i) fun j k =>
 let l:Bool:=(!natsEq j [255,116,79,99,0,0,0,2])
 J (a,l,()) k
theorem c3_eq(e a h n ee r):Y e (peel 1 (C [2,0])).1 (mkT K2 (a,())) h n ee r=c3 e (fun t h=>n (mkT K8 t) h) (a,()) h:=by kernel_rfl
noncomputable def c4(e:Cx)(J:Q6):Q8
| (a,b,_),h =>
 J (0,0,4,()) h
theorem c4_eq(e a b h n ee r):Y e (peel 1 (C [2,1,0])).1 (mkT K8 (a,b,())) h n ee r=c4 e (fun t h=>n (mkT K6 t) h) (a,b,()) h:=by kernel_rfl
noncomputable def k3(e:Cx)(Jn:Q2)(Jr:QR):Q8
| (a,b,_),h =>
 bif b then c4 e (fun | (c,d,f,_),g=>Jr ((.int .i64 c),(.int .i64 d),(.int .i64 f),()) g) (a,b,()) h else Jn (a,()) h
theorem k3_eq(e Jn Jr):∀ t h,X e (C [2,1]) (mkT K8 t) h (jk K2 Jn) (exK []) (jk KR Jr)=k3 e Jn Jr t h
| (c,d,_),h=>nd_cond' (X:=C [2,1]) (a:=C [2,1,0]) (b:=C [2,2]) (t:=d) (x:=.tmp 20) (by kernel_rfl) (by kernel_rfl) (nd_chain' (X:=C [2,1,0]) (Y:=(C [2,1,1])) 1 (L:=K6) (S:=fun J=>c4 e J (c,d,()) h) (Q:=fun | (f,g,i,_),j=>Jr ((.int .i64 f),(.int .i64 g),(.int .i64 i),()) j) (by kernel_rfl) (fun n=>c4_eq e c d h n (exK []) (jk KR Jr)) (fun | (f,g,i,_),j=>by kernel_rfl)) (by kernel_rfl)
noncomputable def r3(e:Cx)(Jn:QR)(Jr:QR)(t:P2)(h:AH):Res:=c3 e (k3 e (r5 e Jn Jr) Jr) t h
theorem r3_eq(e Jn Jr):∀ t h,X e (C [2]) (mkT K2 t) h (jk KR Jn) (exK []) (jk KR Jr)=r3 e Jn Jr t h
| (c,_),h=>(nd_norm' (X:=(C [2])) (a:=C [2,0]) (b:=C [3]) (L:=K2) (by kernel_rfl) (by kernel_rfl) (by kernel_rfl) (SB:=(r5 e Jn Jr)) (r5_eq e Jn Jr) _ _).trans (nd_chain' (X:=C [2,0]) (Y:=(C [2,1])) 1 (L:=K8) (S:=fun J=>c3 e J (c,()) h) (Q:=(k3 e (r5 e Jn Jr) Jr)) (by kernel_rfl) (fun n=>c3_eq e c h n (exK []) (jk KR Jr)) (k3_eq e (r5 e Jn Jr) Jr))
noncomputable def c1(e:Cx)(J:Q4):Q2
| (a,_),h =>
 bV (fA 0 a) h fun b c =>
 bV (ld b c) c fun d f =>
 bI .i64 (lenS d) f fun g i =>
 J (a,(decide (g<1096)),()) i
theorem c1_eq(e a h n ee r):Y e (peel 1 (C [1,0])).1 (mkT K2 (a,())) h n ee r=c1 e (fun t h=>n (mkT K4 t) h) (a,()) h:=by kernel_rfl
noncomputable def c2(e:Cx)(J:Q6):Q4
| (a,b,_),h =>
 J (0,0,5,()) h
theorem c2_eq(e a b h n ee r):Y e (peel 1 (C [1,1,0])).1 (mkT K4 (a,b,())) h n ee r=c2 e (fun t h=>n (mkT K6 t) h) (a,b,()) h:=by kernel_rfl
noncomputable def k1(e:Cx)(Jn:Q2)(Jr:QR):Q4
| (a,b,_),h =>
 bif b then c2 e (fun | (c,d,f,_),g=>Jr ((.int .i64 c),(.int .i64 d),(.int .i64 f),()) g) (a,b,()) h else Jn (a,()) h
theorem k1_eq(e Jn Jr):∀ t h,X e (C [1,1]) (mkT K4 t) h (jk K2 Jn) (exK []) (jk KR Jr)=k1 e Jn Jr t h
| (c,d,_),h=>nd_cond' (X:=C [1,1]) (a:=C [1,1,0]) (b:=C [1,2]) (t:=d) (x:=.tmp 15) (by kernel_rfl) (by kernel_rfl) (nd_chain' (X:=C [1,1,0]) (Y:=(C [1,1,1])) 1 (L:=K6) (S:=fun J=>c2 e J (c,d,()) h) (Q:=fun | (f,g,i,_),j=>Jr ((.int .i64 f),(.int .i64 g),(.int .i64 i),()) j) (by kernel_rfl) (fun n=>c2_eq e c d h n (exK []) (jk KR Jr)) (fun | (f,g,i,_),j=>by kernel_rfl)) (by kernel_rfl)
noncomputable def k0(e:Cx)(Jn:QR)(Jr:QR)(t:P2)(h:AH):Res:=c1 e (k1 e (r3 e Jn Jr) Jr) t h
theorem k0_eq(e Jn Jr):∀ t h,X e (C [1]) (mkT K2 t) h (jk KR Jn) (exK []) (jk KR Jr)=k0 e Jn Jr t h
| (c,_),h=>(nd_norm' (X:=(C [1])) (a:=C [1,0]) (b:=C [2]) (L:=K2) (by kernel_rfl) (by kernel_rfl) (by kernel_rfl) (SB:=(r3 e Jn Jr)) (r3_eq e Jn Jr) _ _).trans (nd_chain' (X:=C [1,0]) (Y:=(C [1,1])) 1 (L:=K4) (S:=fun J=>c1 e J (c,()) h) (Q:=(k1 e (r3 e Jn Jr) Jr)) (by kernel_rfl) (fun n=>c1_eq e c h n (exK []) (jk KR Jr)) (k1_eq e (r3 e Jn Jr) Jr))
noncomputable def fn(e:Cx)(a:List V)(h:AH):Res :=
 c0 e (k0 e ret ret) (a,()) h
theorem run(e:Cx)(a:List V)(h:AH):execFn (cfgS e) (jbi lv) e.F nzaq [(.agg a)] h=fn e a h:=by
 refine (fn_eq (c:=cfgS e) (lv:=lv) (PP.funcs.getD 30 default) B (by kernel_rfl) (by kernel_rfl) (Nat.le_of_ble_eq_true (by kernel_rfl))).trans ?_
 rw [ret_eq]
 exact nd_chain' (X:=C [0]) (Y:=(C [1])) 1 (L:=K2) (S:=fun J=>c0 e J (a,()) h) (Q:=(k0 e ret ret)) (by kernel_rfl) (fun n=>c0_eq e a h n (exK []) (jk KR ret)) (k0_eq e ret ret)
end zaq
namespace zac
noncomputable def B:Code:=cBody (PP.funcs.getD 31 default)
abbrev K2:Slots:=[(0,.any),(1,.any)]
abbrev P2:=V×V×Unit
abbrev Q2:=P2→AH→Res
abbrev K4:Slots:=[(4,.bool)]
abbrev P4:=Bool×Unit
abbrev Q4:=P4→AH→Res
noncomputable def lv:=lvT [(2,K2),(4,K4)]
abbrev KR:Slots:=[(4,.any)]
abbrev PR:=V×Unit
abbrev QR:=PR→AH→Res
noncomputable abbrev X (e:Cx):=exL (cfgS e) lv 10 e.F
noncomputable abbrev Y (e:Cx):=runL (cfgS e) lv 10 e.F
noncomputable abbrev C (p:List Nat):=cP p B
noncomputable def ret:QR
| (a,_),h=>finW [some a] h
theorem ret_eq(e:Cx):fin (cfgS e) (jbi lv) (PP.funcs.getD 31 default)=jk KR ret:=by kernel_rfl
noncomputable def c0(e:Cx)(J:Q4):V×V×Unit→AH→Res
| (a,b,_),h =>
 cZ (toS a h) fun c d =>
 cZ (toS b d) fun f g =>
 J ((natsEq c f),()) g
theorem c0_eq(e a b h n ee r):Y e (peel 2 (C [0])).1 (iniT [a,b] 0 .leaf) h n ee r=c0 e (fun t h=>n (mkT K4 t) h) (a,b,()) h:=by kernel_rfl
noncomputable def fn(e:Cx)(a:V)(b:V)(h:AH):Res :=
 c0 e (fun | (c,_),d=>ret ((.bool c),()) d) (a,b,()) h
theorem run(e:Cx)(a:V)(b:V)(h:AH):execFn (cfgS e) (jbi lv) e.F nzac [a,b] h=fn e a b h:=by
 refine (fn_eq (c:=cfgS e) (lv:=lv) (PP.funcs.getD 31 default) B (by kernel_rfl) (by kernel_rfl) (Nat.le_of_ble_eq_true (by kernel_rfl))).trans ?_
 rw [ret_eq]
 exact nd_chain' (X:=C [0]) (Y:=(C [2])) 2 (L:=K4) (S:=fun J=>c0 e J (a,b,()) h) (Q:=fun | (d,_),f=>ret ((.bool d),()) f) (by kernel_rfl) (fun n=>c0_eq e a b h n (exK []) (jk KR ret)) (fun | (d,_),f=>by kernel_rfl)
end zac
namespace zar
noncomputable def B:Code:=cBody (PP.funcs.getD 32 default)
abbrev K2:Slots:=[(1,.int .i64),(2,.any)]
abbrev P2:=Int×V×Unit
abbrev Q2:=P2→AH→Res
abbrev K4:Slots:=[(5,.int .u64)]
abbrev P4:=Int×Unit
abbrev Q4:=P4→AH→Res
abbrev K6:Slots:=[(4,.int .u64)]
abbrev P6:=Int×Unit
abbrev Q6:=P6→AH→Res
noncomputable def lv:=lvT [(2,K2),(4,K4),(6,K6)]
abbrev KR:Slots:=[(4,.any)]
abbrev PR:=V×Unit
abbrev QR:=PR→AH→Res
noncomputable abbrev X (e:Cx):=exL (cfgS e) lv 15 e.F
noncomputable abbrev Y (e:Cx):=runL (cfgS e) lv 15 e.F
noncomputable abbrev C (p:List Nat):=cP p B
noncomputable def ret:QR
| (a,_),h=>finW [some a] h
theorem ret_eq(e:Cx):fin (cfgS e) (jbi lv) (PP.funcs.getD 32 default)=jk KR ret:=by kernel_rfl
noncomputable def c0(e:Cx)(J:Q6):List V×Int×Unit→AH→Res
| (a,b,_),h =>
 cV (absBox jba (.agg a) h) fun c d =>
 bV (fA 0 c) d fun f g =>
 bV (ld f g) g fun i j =>
 cV (e.C nzai [i,(.int .i64 b),(.int .i64 4)] j) fun k l =>
 bI .u64 (jat k 0) l fun m o =>
 bI .i64 (jat k 1) o fun p q =>
 J (m,()) q
theorem c0_eq(e a b h n ee r):Y e (peel 3 (C [0])).1 (iniT [(.agg a),(.int .i64 b)] 0 .leaf) h n ee r=c0 e (fun t h=>n (mkT K6 t) h) (a,b,()) h:=by kernel_rfl
noncomputable def fn(e:Cx)(a:List V)(b:Int)(h:AH):Res :=
 c0 e (fun | (c,_),d=>ret ((.int .u64 c),()) d) (a,b,()) h
theorem run(e:Cx)(a:List V)(b:Int)(h:AH):execFn (cfgS e) (jbi lv) e.F nzar [(.agg a),(.int .i64 b)] h=fn e a b h:=by
 refine (fn_eq (c:=cfgS e) (lv:=lv) (PP.funcs.getD 32 default) B (by kernel_rfl) (by kernel_rfl) (Nat.le_of_ble_eq_true (by kernel_rfl))).trans ?_
 rw [ret_eq]
 exact nd_chain' (X:=C [0]) (Y:=(C [3])) 3 (L:=K6) (S:=fun J=>c0 e J (a,b,()) h) (Q:=fun | (d,_),f=>ret ((.int .u64 d),()) f) (by kernel_rfl) (fun n=>c0_eq e a b h n (exK []) (jk KR ret)) (fun | (d,_),f=>by kernel_rfl)
end zar
namespace zai
noncomputable def B:Code:=cBody (PP.funcs.getD 33 default)
abbrev K2:Slots:=[(0,.any),(1,.int .i64),(2,.int .i64)]
abbrev P2:=V×Int×Int×Unit
abbrev Q2:=P2→AH→Res
abbrev K4:Slots:=[(0,.any),(1,.int .i64),(2,.int .i64),(19,.bool)]
abbrev P4:=V×Int×Int×Bool×Unit
abbrev Q4:=P4→AH→Res
abbrev K6:Slots:=[(6,.int .u64),(7,.int .i64)]
abbrev P6:=Int×Int×Unit
abbrev Q6:=P6→AH→Res
abbrev K8:Slots:=[(0,.any),(1,.int .i64),(2,.int .i64),(25,.bool)]
abbrev P8:=V×Int×Int×Bool×Unit
abbrev Q8:=P8→AH→Res
abbrev K12:Slots:=[(0,.any),(1,.int .i64),(2,.int .i64),(8,.int .u64)]
abbrev P12:=V×Int×Int×Int×Unit
abbrev Q12:=P12→AH→Res
abbrev K14:Slots:=[(0,.any),(1,.int .i64),(8,.int .u64),(26,.int .i64),(27,.int .i64)]
abbrev P14:=V×Int×Int×Int×Int×Unit
abbrev Q14:=P14→AH→Res
abbrev K16:Slots:=[(0,.any),(1,.int .i64),(8,.int .u64),(26,.int .i64),(27,.int .i64),(28,.bool)]
abbrev P16:=V×Int×Int×Int×Int×Bool×Unit
abbrev Q16:=P16→AH→Res
abbrev K18:Slots:=[(0,.any),(1,.int .i64),(8,.int .u64),(9,.int .i64),(26,.int .i64),(27,.int .i64)]
abbrev P18:=V×Int×Int×Int×Int×Int×Unit
abbrev Q18:=P18→AH→Res
abbrev K23:Slots:=[(8,.int .u64)]
abbrev P23:=Int×Unit
abbrev Q23:=P23→AH→Res
noncomputable def lv:=lvT [(2,K2),(4,K4),(6,K6),(7,K2),(8,K8),(10,K6),(11,K2),(12,K12),(14,K14),(16,K16),(17,K14),(18,K18),(20,K14),(21,K14),(22,K14),(15,K14),(23,K23),(24,K6)]
abbrev KR:Slots:=[(6,.any),(7,.any)]
abbrev PR:=V×V×Unit
abbrev QR:=PR→AH→Res
noncomputable abbrev X (e:Cx):=exL (cfgS e) lv 42 e.F
noncomputable abbrev Y (e:Cx):=runL (cfgS e) lv 42 e.F
noncomputable abbrev C (p:List Nat):=cP p B
noncomputable def ret:QR
| (a,b,_),h=>finW [some a,some b] h
theorem ret_eq(e:Cx):fin (cfgS e) (jbi lv) (PP.funcs.getD 33 default)=jk KR ret:=by kernel_rfl
noncomputable def c0(e:Cx)(J:Q2):V×Int×Int×Unit→AH→Res
| (a,b,c,_),h =>
 J (a,b,c,()) h
theorem c0_eq(e a b c h n ee r):Y e (peel 1 (C [0])).1 (iniT [a,(.int .i64 b),(.int .i64 c)] 0 .leaf) h n ee r=c0 e (fun t h=>n (mkT K2 t) h) (a,b,c,()) h:=by kernel_rfl
noncomputable def c5(e:Cx)(J:Q12):Q2
| (a,b,c,_),h =>
 J (a,b,c,0,()) h
theorem c5_eq(e a b c h n ee r):Y e (peel 1 (C [3])).1 (mkT K2 (a,b,c,())) h n ee r=c5 e (fun t h=>n (mkT K12 t) h) (a,b,c,()) h:=by kernel_rfl
noncomputable def c11(e:Cx)(J:Q6):Q23
| (a,_),h =>
 J (a,0,()) h
theorem c11_eq(e a h n ee r):Y e (peel 1 (C [5])).1 (mkT K23 (a,())) h n ee r=c11 e (fun t h=>n (mkT K6 t) h) (a,()) h:=by kernel_rfl
noncomputable def r11(e:Cx)(Jn:QR)(Jr:QR)(t:P23)(h:AH):Res:=c11 e (fun | (a,b,_),c=>Jr ((.int .u64 a),(.int .i64 b),()) c) t h
theorem r11_eq(e Jn Jr):∀ t h,X e (C [5]) (mkT K23 t) h (jk KR Jn) (exK []) (jk KR Jr)=r11 e Jn Jr t h
| (a,_),h=>nd_chain' (X:=C [5]) (Y:=(C [6])) 1 (L:=K6) (S:=fun J=>c11 e J (a,()) h) (Q:=fun | (b,c,_),d=>Jr ((.int .u64 b),(.int .i64 c),()) d) (by kernel_rfl) (fun n=>c11_eq e a h n (exK []) (jk KR Jr)) (fun | (b,c,_),d=>by kernel_rfl)
noncomputable def c6(e:Cx)(J:Q14):Q12
| (a,b,c,d,_),h =>
 J (a,b,d,c,0,()) h
theorem c6_eq(e a b c d h n ee r):Y e (peel 1 (C [4,0])).1 (mkT K12 (a,b,c,d,())) h n ee r=c6 e (fun t h=>n (mkT K14 t) h) (a,b,c,d,()) h:=by kernel_rfl
noncomputable def c7(e:Cx)(J:Q16):Q14
| (a,b,c,d,f,_),h =>
 J (a,b,c,d,f,(decide (f<d)),()) h
theorem c7_eq(e a b c d f h n ee r):Y e (peel 1 (C [4,3])).1 (mkT K14 (a,b,c,d,f,())) h n ee r=c7 e (fun t h=>n (mkT K16 t) h) (a,b,c,d,f,()) h:=by kernel_rfl
noncomputable def c10(e:Cx)(J:Q14):Q14
| (a,b,c,d,f,_),h =>
 J (a,b,c,d,(wr .i64 (f+1)),()) h
theorem c10_eq(e a b c d f h n ee r):Y e (peel 1 (C [4,6])).1 (mkT K14 (a,b,c,d,f,())) h n ee r=c10 e (fun t h=>n (mkT K14 t) h) (a,b,c,d,f,()) h:=by kernel_rfl
noncomputable def r10(e:Cx)(Jn:Q14)(J0:Q23)(Jr:QR)(t:P14)(h:AH):Res:=c10 e Jn t h
theorem r10_eq(e Jn J0 Jr):∀ t h,X e (C [4,6]) (mkT K14 t) h (jk K14 Jn) (exK [(0,(jk K23 J0))]) (jk KR Jr)=r10 e Jn J0 Jr t h
| (a,b,c,d,f,_),h=>nd_chain' (X:=C [4,6]) (Y:=.skip) 1 (L:=K14) (S:=fun J=>c10 e J (a,b,c,d,f,()) h) (Q:=Jn) (by kernel_rfl) (fun n=>c10_eq e a b c d f h n (exK [(0,(jk K23 J0))]) (jk KR Jr)) (fun t h=>by kernel_rfl)
noncomputable def c8(e:Cx)(J:Q14):Q14
| (a,b,c,d,f,_),h =>
 bV (ixS 1 a (wr .i64 (b+f))) h fun g i =>
 bI .u8 (ld g i) i fun j k =>
 let l:Int:=(ior .u64 (ishl .u64 c 8) (wr .u64 j))
 J (a,b,l,d,f,()) k
theorem c8_eq(e a b c d f h n ee r):Y e (peel 2 (C [4,5,1])).1 (mkT K14 (a,b,c,d,f,())) h n ee r=c8 e (fun t h=>n (mkT K14 t) h) (a,b,c,d,f,()) h:=by kernel_rfl
noncomputable def r8(e:Cx)(Jn:Q14)(J0:Q23)(Jr:QR)(t:P14)(h:AH):Res:=c8 e (r10 e Jn J0 Jr) t h
theorem r8_eq(e Jn J0 Jr):∀ t h,X e (C [4,5]) (mkT K14 t) h (jk K14 Jn) (exK [(0,(jk K23 J0))]) (jk KR Jr)=r8 e Jn J0 Jr t h
| (c,d,f,g,i,_),h=>(nd_norm' (X:=(C [4,5])) (a:=C [4,5,0]) (b:=C [4,6]) (L:=K14) (by kernel_rfl) (by kernel_rfl) (by kernel_rfl) (SB:=(r10 e Jn J0 Jr)) (r10_eq e Jn J0 Jr) _ _).trans (nd_block' (X:=C [4,5,0]) (id:=1) (b:=C [4,5,1]) (by kernel_rfl) (nd_chain' (X:=C [4,5,1]) (Y:=.skip) 2 (L:=K14) (S:=fun J=>c8 e J (c,d,f,g,i,()) h) (Q:=(r10 e Jn J0 Jr)) (by kernel_rfl) (fun n=>c8_eq e c d f g i h n (exK [(1,(jk K14 (r10 e Jn J0 Jr))),(0,(jk K23 J0))]) (jk KR Jr)) (fun t h=>by kernel_rfl)))
noncomputable def k7(e:Cx)(Jn:Q14)(J0:Q23)(Jr:QR):Q16
| (a,b,c,d,f,g,_),h =>
 bif g then (r8 e Jn J0 Jr) (a,b,c,d,f,()) h else J0 (c,()) h
theorem k7_eq(e Jn J0 Jr):∀ t h,X e (C [4,4]) (mkT K16 t) h (jk K14 Jn) (exK [(0,(jk K23 J0))]) (jk KR Jr)=k7 e Jn J0 Jr t h
| (c,d,f,g,i,j,_),h=>(nd_norm' (X:=(C [4,4])) (a:=C [4,4,0]) (b:=C [4,5]) (L:=K14) (by kernel_rfl) (by kernel_rfl) (by kernel_rfl) (SB:=(r8 e Jn J0 Jr)) (r8_eq e Jn J0 Jr) _ _).trans (nd_cond' (X:=C [4,4,0]) (a:=C [4,4,0,0]) (b:=C [4,4,1]) (t:=j) (x:=.tmp 28) (by kernel_rfl) (by kernel_rfl) (by kernel_rfl) (by kernel_rfl))
noncomputable def l7(e:Cx)(Jn:Q14)(J0:Q23)(Jr:QR)(t:P14)(h:AH):Res:=c7 e (k7 e Jn J0 Jr) t h
theorem l7_eq(e Jn J0 Jr):∀ t h,X e (C [4,3]) (mkT K14 t) h (jk K14 Jn) (exK [(0,(jk K23 J0))]) (jk KR Jr)=l7 e Jn J0 Jr t h
| (a,b,c,d,f,_),h=>nd_chain' (X:=C [4,3]) (Y:=(C [4,4])) 1 (L:=K16) (S:=fun J=>c7 e J (a,b,c,d,f,()) h) (Q:=(k7 e Jn J0 Jr)) (by kernel_rfl) (fun n=>c7_eq e a b c d f h n (exK [(0,(jk K23 J0))]) (jk KR Jr)) (k7_eq e Jn J0 Jr)
noncomputable def k6(e:Cx)(Jn:Q23)(Jr:QR)(t:P14)(h:AH):Res:=jaw (P14) e.F (fun t h n=>l7 e n Jn Jr t h) t h
theorem k6_eq(e Jn Jr):∀ t h,X e (C [4,1]) (mkT K14 t) h (jk K23 Jn) (exK []) (jk KR Jr)=k6 e Jn Jr t h
| (a,c,d,f,g,_),h=>nd_block' (X:=C [4,1]) (id:=0) (b:=C [4,2]) (by kernel_rfl) ((nd_loop' (X:=C [4,2]) (b:=C [4,3]) (L:=K14) (by kernel_rfl) (by kernel_rfl) (SB:=fun n=>l7 e n Jn Jr) (fun n=>l7_eq e n Jn Jr) _ _).trans (by kernel_rfl))
noncomputable def k5(e:Cx)(Jn:QR)(Jr:QR)(t:P12)(h:AH):Res:=c6 e (k6 e (r11 e Jn Jr) Jr) t h
theorem k5_eq(e Jn Jr):∀ t h,X e (C [4]) (mkT K12 t) h (jk KR Jn) (exK []) (jk KR Jr)=k5 e Jn Jr t h
| (c,d,f,g,_),h=>(nd_norm' (X:=(C [4])) (a:=C [4,0]) (b:=C [5]) (L:=K23) (by kernel_rfl) (by kernel_rfl) (by kernel_rfl) (SB:=(r11 e Jn Jr)) (r11_eq e Jn Jr) _ _).trans (nd_chain' (X:=C [4,0]) (Y:=(C [4,1])) 1 (L:=K14) (S:=fun J=>c6 e J (c,d,f,g,()) h) (Q:=(k6 e (r11 e Jn Jr) Jr)) (by kernel_rfl) (fun n=>c6_eq e c d f g h n (exK []) (jk KR Jr)) (k6_eq e (r11 e Jn Jr) Jr))
noncomputable def r5(e:Cx)(Jn:QR)(Jr:QR)(t:P2)(h:AH):Res:=c5 e (k5 e Jn Jr) t h
theorem r5_eq(e Jn Jr):∀ t h,X e (C [3]) (mkT K2 t) h (jk KR Jn) (exK []) (jk KR Jr)=r5 e Jn Jr t h
| (a,b,c,_),h=>nd_chain' (X:=C [3]) (Y:=(C [4])) 1 (L:=K12) (S:=fun J=>c5 e J (a,b,c,()) h) (Q:=(k5 e Jn Jr)) (by kernel_rfl) (fun n=>c5_eq e a b c h n (exK []) (jk KR Jr)) (k5_eq e Jn Jr)
noncomputable def c3(e:Cx)(J:Q8):Q2
| (a,b,c,_),h =>
 bI .i64 (lenS a) h fun d f =>
 J (a,b,c,(decide (b>(wr .i64 (d-c)))),()) f
theorem c3_eq(e a b c h n ee r):Y e (peel 1 (C [2,0])).1 (mkT K2 (a,b,c,())) h n ee r=c3 e (fun t h=>n (mkT K8 t) h) (a,b,c,()) h:=by kernel_rfl
noncomputable def c4(e:Cx)(J:Q6):Q8
| (a,b,c,d,_),h =>
 J (0,5,()) h
theorem c4_eq(e a b c d h n ee r):Y e (peel 1 (C [2,1,0])).1 (mkT K8 (a,b,c,d,())) h n ee r=c4 e (fun t h=>n (mkT K6 t) h) (a,b,c,d,()) h:=by kernel_rfl
noncomputable def k3(e:Cx)(Jn:Q2)(Jr:QR):Q8
| (a,b,c,d,_),h =>
 bif d then c4 e (fun | (f,g,_),i=>Jr ((.int .u64 f),(.int .i64 g),()) i) (a,b,c,d,()) h else Jn (a,b,c,()) h
theorem k3_eq(e Jn Jr):∀ t h,X e (C [2,1]) (mkT K8 t) h (jk K2 Jn) (exK []) (jk KR Jr)=k3 e Jn Jr t h
| (c,d,f,g,_),h=>nd_cond' (X:=C [2,1]) (a:=C [2,1,0]) (b:=C [2,2]) (t:=g) (x:=.tmp 25) (by kernel_rfl) (by kernel_rfl) (nd_chain' (X:=C [2,1,0]) (Y:=(C [2,1,1])) 1 (L:=K6) (S:=fun J=>c4 e J (c,d,f,g,()) h) (Q:=fun | (i,j,_),k=>Jr ((.int .u64 i),(.int .i64 j),()) k) (by kernel_rfl) (fun n=>c4_eq e c d f g h n (exK []) (jk KR Jr)) (fun | (i,j,_),k=>by kernel_rfl)) (by kernel_rfl)
noncomputable def r3(e:Cx)(Jn:QR)(Jr:QR)(t:P2)(h:AH):Res:=c3 e (k3 e (r5 e Jn Jr) Jr) t h
theorem r3_eq(e Jn Jr):∀ t h,X e (C [2]) (mkT K2 t) h (jk KR Jn) (exK []) (jk KR Jr)=r3 e Jn Jr t h
| (c,d,f,_),h=>(nd_norm' (X:=(C [2])) (a:=C [2,0]) (b:=C [3]) (L:=K2) (by kernel_rfl) (by kernel_rfl) (by kernel_rfl) (SB:=(r5 e Jn Jr)) (r5_eq e Jn Jr) _ _).trans (nd_chain' (X:=C [2,0]) (Y:=(C [2,1])) 1 (L:=K8) (S:=fun J=>c3 e J (c,d,f,()) h) (Q:=(k3 e (r5 e Jn Jr) Jr)) (by kernel_rfl) (fun n=>c3_eq e c d f h n (exK []) (jk KR Jr)) (k3_eq e (r5 e Jn Jr) Jr))
noncomputable def c1(e:Cx)(J:Q4):Q2
| (a,b,c,_),h =>
 bif (decide (c<1)) then
  J (a,b,c,true,()) h
 else
  let d:Bool:=(bif false then true else (decide (c>8)))
  bif d then
   J (a,b,c,true,()) h
  else
   let f:Bool:=(bif false then true else (decide (b<0)))
   J (a,b,c,f,()) h
theorem c1_eq(e a b c h n ee r):Y e (peel 1 (C [1,0])).1 (mkT K2 (a,b,c,())) h n ee r=c1 e (fun t h=>n (mkT K4 t) h) (a,b,c,()) h:=by kernel_rfl
noncomputable def c2(e:Cx)(J:Q6):Q4
| (a,b,c,d,_),h =>
 J (0,1,()) h
theorem c2_eq(e a b c d h n ee r):Y e (peel 1 (C [1,1,0])).1 (mkT K4 (a,b,c,d,())) h n ee r=c2 e (fun t h=>n (mkT K6 t) h) (a,b,c,d,()) h:=by kernel_rfl
noncomputable def k1(e:Cx)(Jn:Q2)(Jr:QR):Q4
| (a,b,c,d,_),h =>
 bif d then c2 e (fun | (f,g,_),i=>Jr ((.int .u64 f),(.int .i64 g),()) i) (a,b,c,d,()) h else Jn (a,b,c,()) h
theorem k1_eq(e Jn Jr):∀ t h,X e (C [1,1]) (mkT K4 t) h (jk K2 Jn) (exK []) (jk KR Jr)=k1 e Jn Jr t h
| (c,d,f,g,_),h=>nd_cond' (X:=C [1,1]) (a:=C [1,1,0]) (b:=C [1,2]) (t:=g) (x:=.tmp 19) (by kernel_rfl) (by kernel_rfl) (nd_chain' (X:=C [1,1,0]) (Y:=(C [1,1,1])) 1 (L:=K6) (S:=fun J=>c2 e J (c,d,f,g,()) h) (Q:=fun | (i,j,_),k=>Jr ((.int .u64 i),(.int .i64 j),()) k) (by kernel_rfl) (fun n=>c2_eq e c d f g h n (exK []) (jk KR Jr)) (fun | (i,j,_),k=>by kernel_rfl)) (by kernel_rfl)
noncomputable def k0(e:Cx)(Jn:QR)(Jr:QR)(t:P2)(h:AH):Res:=c1 e (k1 e (r3 e Jn Jr) Jr) t h
theorem k0_eq(e Jn Jr):∀ t h,X e (C [1]) (mkT K2 t) h (jk KR Jn) (exK []) (jk KR Jr)=k0 e Jn Jr t h
| (c,d,f,_),h=>(nd_norm' (X:=(C [1])) (a:=C [1,0]) (b:=C [2]) (L:=K2) (by kernel_rfl) (by kernel_rfl) (by kernel_rfl) (SB:=(r3 e Jn Jr)) (r3_eq e Jn Jr) _ _).trans (nd_chain' (X:=C [1,0]) (Y:=(C [1,1])) 1 (L:=K4) (S:=fun J=>c1 e J (c,d,f,()) h) (Q:=(k1 e (r3 e Jn Jr) Jr)) (by kernel_rfl) (fun n=>c1_eq e c d f h n (exK []) (jk KR Jr)) (k1_eq e (r3 e Jn Jr) Jr))
noncomputable def fn(e:Cx)(a:V)(b:Int)(c:Int)(h:AH):Res :=
 c0 e (k0 e ret ret) (a,b,c,()) h
theorem run(e:Cx)(a:V)(b:Int)(d:Int)(h:AH):execFn (cfgS e) (jbi lv) e.F nzai [a,(.int .i64 b),(.int .i64 d)] h=fn e a b d h:=by
 refine (fn_eq (c:=cfgS e) (lv:=lv) (PP.funcs.getD 33 default) B (by kernel_rfl) (by kernel_rfl) (Nat.le_of_ble_eq_true (by kernel_rfl))).trans ?_
 rw [ret_eq]
 exact nd_chain' (X:=C [0]) (Y:=(C [1])) 1 (L:=K2) (S:=fun J=>c0 e J (a,b,d,()) h) (Q:=(k0 e ret ret)) (by kernel_rfl) (fun n=>c0_eq e a b d h n (exK []) (jk KR ret)) (k0_eq e ret ret)
end zai
namespace zbf
noncomputable def B:Code:=cBody (PP.funcs.getD 34 default)
abbrev K2:Slots:=[(0,.any)]
abbrev P2:=V×Unit
abbrev Q2:=P2→AH→Res
abbrev K4:Slots:=[(0,.any),(13,.bool)]
abbrev P4:=V×Bool×Unit
abbrev Q4:=P4→AH→Res
abbrev K6:Slots:=[(2,.int .i64),(3,.int .i64),(4,.int .i64)]
abbrev P6:=Int×Int×Int×Unit
abbrev Q6:=P6→AH→Res
abbrev K8:Slots:=[(0,.any),(17,.bool)]
abbrev P8:=V×Bool×Unit
abbrev Q8:=P8→AH→Res
abbrev K12:Slots:=[(0,.any),(5,.int .u64)]
abbrev P12:=V×Int×Unit
abbrev Q12:=P12→AH→Res
abbrev K14:Slots:=[(0,.any),(5,.int .u64),(6,.int .i64)]
abbrev P14:=V×Int×Int×Unit
abbrev Q14:=P14→AH→Res
abbrev K16:Slots:=[(0,.any),(5,.int .u64),(6,.int .i64),(19,.bool)]
abbrev P16:=V×Int×Int×Bool×Unit
abbrev Q16:=P16→AH→Res
abbrev K20:Slots:=[(0,.any),(5,.int .u64),(6,.int .i64),(7,.int .u64)]
abbrev P20:=V×Int×Int×Int×Unit
abbrev Q20:=P20→AH→Res
abbrev K22:Slots:=[(0,.any),(6,.int .i64),(7,.int .u64),(29,.bool)]
abbrev P22:=V×Int×Int×Bool×Unit
abbrev Q22:=P22→AH→Res
abbrev K25:Slots:=[(0,.any),(6,.int .i64),(7,.int .u64)]
abbrev P25:=V×Int×Int×Unit
abbrev Q25:=P25→AH→Res
abbrev K28:Slots:=[(0,.any),(5,.int .u64),(32,.bool)]
abbrev P28:=V×Int×Bool×Unit
abbrev Q28:=P28→AH→Res
abbrev K32:Slots:=[(0,.any),(8,.int .i64)]
abbrev P32:=V×Int×Unit
abbrev Q32:=P32→AH→Res
abbrev K34:Slots:=[(0,.any),(8,.int .i64),(41,.bool)]
abbrev P34:=V×Int×Bool×Unit
abbrev Q34:=P34→AH→Res
abbrev K38:Slots:=[(0,.any),(8,.int .i64),(9,.int .i64)]
abbrev P38:=V×Int×Int×Unit
abbrev Q38:=P38→AH→Res
abbrev K40:Slots:=[(0,.any),(8,.int .i64),(9,.int .i64),(10,.int .i64)]
abbrev P40:=V×Int×Int×Int×Unit
abbrev Q40:=P40→AH→Res
abbrev K42:Slots:=[(0,.any),(8,.int .i64),(9,.int .i64),(10,.int .i64),(44,.bool)]
abbrev P42:=V×Int×Int×Int×Bool×Unit
abbrev Q42:=P42→AH→Res
abbrev K46:Slots:=[(0,.any),(8,.int .i64),(9,.int .i64),(10,.int .i64),(56,.bool)]
abbrev P46:=V×Int×Int×Int×Bool×Unit
abbrev Q46:=P46→AH→Res
abbrev K50:Slots:=[(0,.any),(8,.int .i64),(9,.int .i64),(59,.bool)]
abbrev P50:=V×Int×Int×Bool×Unit
abbrev Q50:=P50→AH→Res
abbrev K54:Slots:=[(8,.int .i64),(9,.int .i64),(70,.bool)]
abbrev P54:=Int×Int×Bool×Unit
abbrev Q54:=P54→AH→Res
abbrev K57:Slots:=[(8,.int .i64),(9,.int .i64)]
abbrev P57:=Int×Int×Unit
abbrev Q57:=P57→AH→Res
noncomputable def lv:=lvT [(2,K2),(4,K4),(6,K6),(7,K2),(8,K8),(10,K6),(11,K2),(12,K12),(14,K14),(16,K16),(19,K14),(20,K20),(22,K22),(24,K6),(25,K25),(26,K14),(17,K14),(18,K14),(15,K14),(27,K12),(28,K28),(30,K6),(31,K12),(32,K32),(34,K34),(36,K6),(37,K32),(38,K38),(40,K40),(42,K42),(45,K40),(46,K46),(48,K40),(43,K40),(44,K40),(41,K40),(49,K38),(50,K50),(54,K54),(56,K6),(52,K6),(57,K57),(58,K6)]
abbrev KR:Slots:=[(2,.any),(3,.any),(4,.any)]
abbrev PR:=V×V×V×Unit
abbrev QR:=PR→AH→Res
noncomputable abbrev X (e:Cx):=exL (cfgS e) lv 83 e.F
noncomputable abbrev Y (e:Cx):=runL (cfgS e) lv 83 e.F
noncomputable abbrev C (p:List Nat):=cP p B
noncomputable def ret:QR
| (a,b,c,_),h=>finW [some a,some b,some c] h
theorem ret_eq(e:Cx):fin (cfgS e) (jbi lv) (PP.funcs.getD 34 default)=jk KR ret:=by kernel_rfl
noncomputable def c0(e:Cx)(J:Q2):V×Unit→AH→Res
| (a,_),h =>
 J (a,()) h
theorem c0_eq(e a h n ee r):Y e (peel 1 (C [0])).1 (iniT [a] 0 .leaf) h n ee r=c0 e (fun t h=>n (mkT K2 t) h) (a,()) h:=by kernel_rfl
noncomputable def c5(e:Cx)(J:Q12):Q2
| (a,_),h =>
 J (a,0,()) h
theorem c5_eq(e a h n ee r):Y e (peel 1 (C [3])).1 (mkT K2 (a,())) h n ee r=c5 e (fun t h=>n (mkT K12 t) h) (a,()) h:=by kernel_rfl
noncomputable def c15(e:Cx)(J:Q32):Q12
| (a,b,_),h =>
 J (a,(wr .i64 b),()) h
theorem c15_eq(e a b h n ee r):Y e (peel 1 (C [6])).1 (mkT K12 (a,b,())) h n ee r=c15 e (fun t h=>n (mkT K32 t) h) (a,b,()) h:=by kernel_rfl
noncomputable def c18(e:Cx)(J:Q38):Q32
| (a,b,_),h =>
 J (a,b,0,()) h
theorem c18_eq(e a b h n ee r):Y e (peel 1 (C [8])).1 (mkT K32 (a,b,())) h n ee r=c18 e (fun t h=>n (mkT K38 t) h) (a,b,()) h:=by kernel_rfl
noncomputable def c28(e:Cx)(J:Q6):Q57
| (a,b,_),h =>
 J (a,b,0,()) h
theorem c28_eq(e a b h n ee r):Y e (peel 1 (C [11])).1 (mkT K57 (a,b,())) h n ee r=c28 e (fun t h=>n (mkT K6 t) h) (a,b,()) h:=by kernel_rfl
noncomputable def r28(e:Cx)(Jn:QR)(Jr:QR)(t:P57)(h:AH):Res:=c28 e (fun | (a,b,c,_),d=>Jr ((.int .i64 a),(.int .i64 b),(.int .i64 c),()) d) t h
theorem r28_eq(e Jn Jr):∀ t h,X e (C [11]) (mkT K57 t) h (jk KR Jn) (exK []) (jk KR Jr)=r28 e Jn Jr t h
| (a,b,_),h=>nd_chain' (X:=C [11]) (Y:=(C [12])) 1 (L:=K6) (S:=fun J=>c28 e J (a,b,()) h) (Q:=fun | (c,d,f,_),g=>Jr ((.int .i64 c),(.int .i64 d),(.int .i64 f),()) g) (by kernel_rfl) (fun n=>c28_eq e a b h n (exK []) (jk KR Jr)) (fun | (c,d,f,_),g=>by kernel_rfl)
noncomputable def c24(e:Cx)(J:Q50):Q38
| (a,b,c,_),h =>
 bI .i64 (lenS a) h fun d f =>
 let g:Int:=(wr .i64 ((wr .i64 (1032+(wr .i64 (40*b))))+(wr .i64 (8*c))))
 J (a,b,c,(decide (d<(wr .i64 (g+64)))),()) f
theorem c24_eq(e a b c h n ee r):Y e (peel 1 (C [10,1])).1 (mkT K38 (a,b,c,())) h n ee r=c24 e (fun t h=>n (mkT K50 t) h) (a,b,c,()) h:=by kernel_rfl
noncomputable def c25(e:Cx)(J:Q6):Q50
| (a,b,c,d,_),h =>
 J (0,0,5,()) h
theorem c25_eq(e a b c d h n ee r):Y e (peel 1 (C [10,2,0])).1 (mkT K50 (a,b,c,d,())) h n ee r=c25 e (fun t h=>n (mkT K6 t) h) (a,b,c,d,()) h:=by kernel_rfl
noncomputable def c26(e:Cx)(J:Q54):Q50
| (a,b,c,d,_),h =>
 bI .i64 (lenS a) h fun f g =>
 let i:Int:=(wr .i64 ((wr .i64 (1032+(wr .i64 (40*b))))+(wr .i64 (8*c))))
 J (b,c,(decide (f>(wr .i64 (i+64)))),()) g
theorem c26_eq(e a b c d h n ee r):Y e (peel 1 (C [10,3])).1 (mkT K50 (a,b,c,d,())) h n ee r=c26 e (fun t h=>n (mkT K54 t) h) (a,b,c,d,()) h:=by kernel_rfl
noncomputable def c27(e:Cx)(J:Q6):Q54
| (a,b,c,_),h =>
 J (0,0,4,()) h
theorem c27_eq(e a b c h n ee r):Y e (peel 1 (C [10,4,0])).1 (mkT K54 (a,b,c,())) h n ee r=c27 e (fun t h=>n (mkT K6 t) h) (a,b,c,()) h:=by kernel_rfl
noncomputable def k26(e:Cx)(Jn:Q57)(J4:Q57)(Jr:QR):Q54
| (a,b,c,_),h =>
 bif c then c27 e (fun | (d,f,g,_),i=>Jr ((.int .i64 d),(.int .i64 f),(.int .i64 g),()) i) (a,b,c,()) h else Jn (a,b,()) h
theorem k26_eq(e Jn J4 Jr):∀ t h,X e (C [10,4]) (mkT K54 t) h (jk K57 Jn) (exK [(4,(jk K57 J4))]) (jk KR Jr)=k26 e Jn J4 Jr t h
| (c,d,f,_),h=>nd_cond' (X:=C [10,4]) (a:=C [10,4,0]) (b:=C [10,5]) (t:=f) (x:=.tmp 70) (by kernel_rfl) (by kernel_rfl) (nd_chain' (X:=C [10,4,0]) (Y:=(C [10,4,1])) 1 (L:=K6) (S:=fun J=>c27 e J (c,d,f,()) h) (Q:=fun | (g,i,j,_),k=>Jr ((.int .i64 g),(.int .i64 i),(.int .i64 j),()) k) (by kernel_rfl) (fun n=>c27_eq e c d f h n (exK [(4,(jk K57 J4))]) (jk KR Jr)) (fun | (g,i,j,_),k=>by kernel_rfl)) (by kernel_rfl)
noncomputable def k24(e:Cx)(Jn:Q57)(J4:Q57)(Jr:QR):Q50
| (a,b,c,d,_),h =>
 bif d then c25 e (fun | (f,g,i,_),j=>Jr ((.int .i64 f),(.int .i64 g),(.int .i64 i),()) j) (a,b,c,d,()) h else c26 e (k26 e Jn J4 Jr) (a,b,c,d,()) h
theorem k24_eq(e Jn J4 Jr):∀ t h,X e (C [10,2]) (mkT K50 t) h (jk K57 Jn) (exK [(4,(jk K57 J4))]) (jk KR Jr)=k24 e Jn J4 Jr t h
| (c,d,f,g,_),h=>nd_cond' (X:=C [10,2]) (a:=C [10,2,0]) (b:=C [10,3]) (t:=g) (x:=.tmp 59) (by kernel_rfl) (by kernel_rfl) (nd_chain' (X:=C [10,2,0]) (Y:=(C [10,2,1])) 1 (L:=K6) (S:=fun J=>c25 e J (c,d,f,g,()) h) (Q:=fun | (i,j,k,_),l=>Jr ((.int .i64 i),(.int .i64 j),(.int .i64 k),()) l) (by kernel_rfl) (fun n=>c25_eq e c d f g h n (exK [(4,(jk K57 J4))]) (jk KR Jr)) (fun | (i,j,k,_),l=>by kernel_rfl)) (nd_chain' (X:=C [10,3]) (Y:=(C [10,4])) 1 (L:=K54) (S:=fun J=>c26 e J (c,d,f,g,()) h) (Q:=(k26 e Jn J4 Jr)) (by kernel_rfl) (fun n=>c26_eq e c d f g h n (exK [(4,(jk K57 J4))]) (jk KR Jr)) (k26_eq e Jn J4 Jr))
noncomputable def r24(e:Cx)(Jn:QR)(Jr:QR)(t:P38)(h:AH):Res:=c24 e (k24 e (r28 e Jn Jr) (r28 e Jn Jr) Jr) t h
theorem r24_eq(e Jn Jr):∀ t h,X e (C [10]) (mkT K38 t) h (jk KR Jn) (exK []) (jk KR Jr)=r24 e Jn Jr t h
| (c,d,f,_),h=>(nd_norm' (X:=(C [10])) (a:=C [10,0]) (b:=C [11]) (L:=K57) (by kernel_rfl) (by kernel_rfl) (by kernel_rfl) (SB:=(r28 e Jn Jr)) (r28_eq e Jn Jr) _ _).trans (nd_block' (X:=C [10,0]) (id:=4) (b:=C [10,1]) (by kernel_rfl) (nd_chain' (X:=C [10,1]) (Y:=(C [10,2])) 1 (L:=K50) (S:=fun J=>c24 e J (c,d,f,()) h) (Q:=(k24 e (r28 e Jn Jr) (r28 e Jn Jr) Jr)) (by kernel_rfl) (fun n=>c24_eq e c d f h n (exK [(4,(jk K57 (r28 e Jn Jr)))]) (jk KR Jr)) (k24_eq e (r28 e Jn Jr) (r28 e Jn Jr) Jr)))
noncomputable def c19(e:Cx)(J:Q40):Q38
| (a,b,c,_),h =>
 J (a,b,c,0,()) h
theorem c19_eq(e a b c h n ee r):Y e (peel 1 (C [9,0])).1 (mkT K38 (a,b,c,())) h n ee r=c19 e (fun t h=>n (mkT K40 t) h) (a,b,c,()) h:=by kernel_rfl
noncomputable def c21(e:Cx)(J:Q40):Q40
| (a,b,c,d,_),h =>
 J (a,b,c,(wr .i64 (d+1)),()) h
theorem c21_eq(e a b c d h n ee r):Y e (peel 1 (C [9,5])).1 (mkT K40 (a,b,c,d,())) h n ee r=c21 e (fun t h=>n (mkT K40 t) h) (a,b,c,d,()) h:=by kernel_rfl
noncomputable def r21(e:Cx)(Jn:Q40)(J2:Q38)(Jr:QR)(t:P40)(h:AH):Res:=c21 e Jn t h
theorem r21_eq(e Jn J2 Jr):∀ t h,X e (C [9,5]) (mkT K40 t) h (jk K40 Jn) (exK [(2,(jk K38 J2))]) (jk KR Jr)=r21 e Jn J2 Jr t h
| (a,b,c,d,_),h=>nd_chain' (X:=C [9,5]) (Y:=.skip) 1 (L:=K40) (S:=fun J=>c21 e J (a,b,c,d,()) h) (Q:=Jn) (by kernel_rfl) (fun n=>c21_eq e a b c d h n (exK [(2,(jk K38 J2))]) (jk KR Jr)) (fun t h=>by kernel_rfl)
noncomputable def c22(e:Cx)(J:Q46):Q40
| (a,b,c,d,_),h =>
 let f:Int:=(wr .i64 ((wr .i64 (1032+(wr .i64 (36*b))))+(wr .i64 (4*d))))
 bV (ixS 1 a f) h fun g i =>
 bI .u8 (ld g i) i fun j k =>
 J (a,b,c,d,(decide (j≥128)),()) k
theorem c22_eq(e a b c d h n ee r):Y e (peel 1 (C [9,4,1])).1 (mkT K40 (a,b,c,d,())) h n ee r=c22 e (fun t h=>n (mkT K46 t) h) (a,b,c,d,()) h:=by kernel_rfl
noncomputable def c23(e:Cx)(J:Q40):Q46
| (a,b,c,d,f,_),h =>
 J (a,b,(wr .i64 (c+1)),d,()) h
theorem c23_eq(e a b c d f h n ee r):Y e (peel 1 (C [9,4,2,0])).1 (mkT K46 (a,b,c,d,f,())) h n ee r=c23 e (fun t h=>n (mkT K40 t) h) (a,b,c,d,f,()) h:=by kernel_rfl
noncomputable def k22(e:Cx)(Jn:Q40)(J3:Q40)(J2:Q38)(Jr:QR):Q46
| (a,b,c,d,f,_),h =>
 bif f then c23 e Jn (a,b,c,d,f,()) h else Jn (a,b,c,d,()) h
theorem k22_eq(e Jn J3 J2 Jr):∀ t h,X e (C [9,4,2]) (mkT K46 t) h (jk K40 Jn) (exK [(3,(jk K40 J3)),(2,(jk K38 J2))]) (jk KR Jr)=k22 e Jn J3 J2 Jr t h
| (c,d,f,g,i,_),h=>nd_cond' (X:=C [9,4,2]) (a:=C [9,4,2,0]) (b:=C [9,4,3]) (t:=i) (x:=.tmp 56) (by kernel_rfl) (by kernel_rfl) (nd_chain' (X:=C [9,4,2,0]) (Y:=.skip) 1 (L:=K40) (S:=fun J=>c23 e J (c,d,f,g,i,()) h) (Q:=Jn) (by kernel_rfl) (fun n=>c23_eq e c d f g i h n (exK [(3,(jk K40 J3)),(2,(jk K38 J2))]) (jk KR Jr)) (fun t h=>by kernel_rfl)) (by kernel_rfl)
noncomputable def r22(e:Cx)(Jn:Q40)(J2:Q38)(Jr:QR)(t:P40)(h:AH):Res:=c22 e (k22 e (r21 e Jn J2 Jr) (r21 e Jn J2 Jr) J2 Jr) t h
theorem r22_eq(e Jn J2 Jr):∀ t h,X e (C [9,4]) (mkT K40 t) h (jk K40 Jn) (exK [(2,(jk K38 J2))]) (jk KR Jr)=r22 e Jn J2 Jr t h
| (c,d,f,g,_),h=>(nd_norm' (X:=(C [9,4])) (a:=C [9,4,0]) (b:=C [9,5]) (L:=K40) (by kernel_rfl) (by kernel_rfl) (by kernel_rfl) (SB:=(r21 e Jn J2 Jr)) (r21_eq e Jn J2 Jr) _ _).trans (nd_block' (X:=C [9,4,0]) (id:=3) (b:=C [9,4,1]) (by kernel_rfl) (nd_chain' (X:=C [9,4,1]) (Y:=(C [9,4,2])) 1 (L:=K46) (S:=fun J=>c22 e J (c,d,f,g,()) h) (Q:=(k22 e (r21 e Jn J2 Jr) (r21 e Jn J2 Jr) J2 Jr)) (by kernel_rfl) (fun n=>c22_eq e c d f g h n (exK [(3,(jk K40 (r21 e Jn J2 Jr))),(2,(jk K38 J2))]) (jk KR Jr)) (k22_eq e (r21 e Jn J2 Jr) (r21 e Jn J2 Jr) J2 Jr)))
noncomputable def c20(e:Cx)(J:Q42):Q40
| (a,b,c,d,_),h =>
 J (a,b,c,d,(decide (d<b)),()) h
theorem c20_eq(e a b c d h n ee r):Y e (peel 1 (C [9,3,0])).1 (mkT K40 (a,b,c,d,())) h n ee r=c20 e (fun t h=>n (mkT K42 t) h) (a,b,c,d,()) h:=by kernel_rfl
noncomputable def k20(e:Cx)(Jn:Q40)(J2:Q38)(Jr:QR):Q42
| (a,b,c,d,f,_),h =>
 bif f then Jn (a,b,c,d,()) h else J2 (a,b,c,()) h
theorem k20_eq(e Jn J2 Jr):∀ t h,X e (C [9,3,1]) (mkT K42 t) h (jk K40 Jn) (exK [(2,(jk K38 J2))]) (jk KR Jr)=k20 e Jn J2 Jr t h
| (c,d,f,g,i,_),h=>nd_cond' (X:=C [9,3,1]) (a:=C [9,3,1,0]) (b:=C [9,3,2]) (t:=i) (x:=.tmp 44) (by kernel_rfl) (by kernel_rfl) (by kernel_rfl) (by kernel_rfl)
noncomputable def l20(e:Cx)(Jn:Q40)(J2:Q38)(Jr:QR)(t:P40)(h:AH):Res:=c20 e (k20 e (r22 e Jn J2 Jr) J2 Jr) t h
theorem l20_eq(e Jn J2 Jr):∀ t h,X e (C [9,3]) (mkT K40 t) h (jk K40 Jn) (exK [(2,(jk K38 J2))]) (jk KR Jr)=l20 e Jn J2 Jr t h
| (c,d,f,g,_),h=>(nd_norm' (X:=(C [9,3])) (a:=C [9,3,0]) (b:=C [9,4]) (L:=K40) (by kernel_rfl) (by kernel_rfl) (by kernel_rfl) (SB:=(r22 e Jn J2 Jr)) (r22_eq e Jn J2 Jr) _ _).trans (nd_chain' (X:=C [9,3,0]) (Y:=(C [9,3,1])) 1 (L:=K42) (S:=fun J=>c20 e J (c,d,f,g,()) h) (Q:=(k20 e (r22 e Jn J2 Jr) J2 Jr)) (by kernel_rfl) (fun n=>c20_eq e c d f g h n (exK [(2,(jk K38 J2))]) (jk KR Jr)) (k20_eq e (r22 e Jn J2 Jr) J2 Jr))
noncomputable def k19(e:Cx)(Jn:Q38)(Jr:QR)(t:P40)(h:AH):Res:=jaw (P40) e.F (fun t h n=>l20 e n Jn Jr t h) t h
theorem k19_eq(e Jn Jr):∀ t h,X e (C [9,1]) (mkT K40 t) h (jk K38 Jn) (exK []) (jk KR Jr)=k19 e Jn Jr t h
| (a,c,d,f,_),h=>nd_block' (X:=C [9,1]) (id:=2) (b:=C [9,2]) (by kernel_rfl) ((nd_loop' (X:=C [9,2]) (b:=C [9,3]) (L:=K40) (by kernel_rfl) (by kernel_rfl) (SB:=fun n=>l20 e n Jn Jr) (fun n=>l20_eq e n Jn Jr) _ _).trans (by kernel_rfl))
noncomputable def k18(e:Cx)(Jn:QR)(Jr:QR)(t:P38)(h:AH):Res:=c19 e (k19 e (r24 e Jn Jr) Jr) t h
theorem k18_eq(e Jn Jr):∀ t h,X e (C [9]) (mkT K38 t) h (jk KR Jn) (exK []) (jk KR Jr)=k18 e Jn Jr t h
| (c,d,f,_),h=>(nd_norm' (X:=(C [9])) (a:=C [9,0]) (b:=C [10]) (L:=K38) (by kernel_rfl) (by kernel_rfl) (by kernel_rfl) (SB:=(r24 e Jn Jr)) (r24_eq e Jn Jr) _ _).trans (nd_chain' (X:=C [9,0]) (Y:=(C [9,1])) 1 (L:=K40) (S:=fun J=>c19 e J (c,d,f,()) h) (Q:=(k19 e (r24 e Jn Jr) Jr)) (by kernel_rfl) (fun n=>c19_eq e c d f h n (exK []) (jk KR Jr)) (k19_eq e (r24 e Jn Jr) Jr))
noncomputable def r18(e:Cx)(Jn:QR)(Jr:QR)(t:P32)(h:AH):Res:=c18 e (k18 e Jn Jr) t h
theorem r18_eq(e Jn Jr):∀ t h,X e (C [8]) (mkT K32 t) h (jk KR Jn) (exK []) (jk KR Jr)=r18 e Jn Jr t h
| (a,b,_),h=>nd_chain' (X:=C [8]) (Y:=(C [9])) 1 (L:=K38) (S:=fun J=>c18 e J (a,b,()) h) (Q:=(k18 e Jn Jr)) (by kernel_rfl) (fun n=>c18_eq e a b h n (exK []) (jk KR Jr)) (k18_eq e Jn Jr)
noncomputable def c16(e:Cx)(J:Q34):Q32
| (a,b,_),h =>
 bI .i64 (lenS a) h fun c d =>
 let f:Int:=(wr .i64 ((wr .i64 (1032+(wr .i64 (40*b))))+64))
 J (a,b,(decide (c<f)),()) d
theorem c16_eq(e a b h n ee r):Y e (peel 1 (C [7,0])).1 (mkT K32 (a,b,())) h n ee r=c16 e (fun t h=>n (mkT K34 t) h) (a,b,()) h:=by kernel_rfl
noncomputable def c17(e:Cx)(J:Q6):Q34
| (a,b,c,_),h =>
 J (0,0,5,()) h
theorem c17_eq(e a b c h n ee r):Y e (peel 1 (C [7,1,0])).1 (mkT K34 (a,b,c,())) h n ee r=c17 e (fun t h=>n (mkT K6 t) h) (a,b,c,()) h:=by kernel_rfl
noncomputable def k16(e:Cx)(Jn:Q32)(Jr:QR):Q34
| (a,b,c,_),h =>
 bif c then c17 e (fun | (d,f,g,_),i=>Jr ((.int .i64 d),(.int .i64 f),(.int .i64 g),()) i) (a,b,c,()) h else Jn (a,b,()) h
theorem k16_eq(e Jn Jr):∀ t h,X e (C [7,1]) (mkT K34 t) h (jk K32 Jn) (exK []) (jk KR Jr)=k16 e Jn Jr t h
| (c,d,f,_),h=>nd_cond' (X:=C [7,1]) (a:=C [7,1,0]) (b:=C [7,2]) (t:=f) (x:=.tmp 41) (by kernel_rfl) (by kernel_rfl) (nd_chain' (X:=C [7,1,0]) (Y:=(C [7,1,1])) 1 (L:=K6) (S:=fun J=>c17 e J (c,d,f,()) h) (Q:=fun | (g,i,j,_),k=>Jr ((.int .i64 g),(.int .i64 i),(.int .i64 j),()) k) (by kernel_rfl) (fun n=>c17_eq e c d f h n (exK []) (jk KR Jr)) (fun | (g,i,j,_),k=>by kernel_rfl)) (by kernel_rfl)
noncomputable def k15(e:Cx)(Jn:QR)(Jr:QR)(t:P32)(h:AH):Res:=c16 e (k16 e (r18 e Jn Jr) Jr) t h
theorem k15_eq(e Jn Jr):∀ t h,X e (C [7]) (mkT K32 t) h (jk KR Jn) (exK []) (jk KR Jr)=k15 e Jn Jr t h
| (c,d,_),h=>(nd_norm' (X:=(C [7])) (a:=C [7,0]) (b:=C [8]) (L:=K32) (by kernel_rfl) (by kernel_rfl) (by kernel_rfl) (SB:=(r18 e Jn Jr)) (r18_eq e Jn Jr) _ _).trans (nd_chain' (X:=C [7,0]) (Y:=(C [7,1])) 1 (L:=K34) (S:=fun J=>c16 e J (c,d,()) h) (Q:=(k16 e (r18 e Jn Jr) Jr)) (by kernel_rfl) (fun n=>c16_eq e c d h n (exK []) (jk KR Jr)) (k16_eq e (r18 e Jn Jr) Jr))
noncomputable def r15(e:Cx)(Jn:QR)(Jr:QR)(t:P12)(h:AH):Res:=c15 e (k15 e Jn Jr) t h
theorem r15_eq(e Jn Jr):∀ t h,X e (C [6]) (mkT K12 t) h (jk KR Jn) (exK []) (jk KR Jr)=r15 e Jn Jr t h
| (a,b,_),h=>nd_chain' (X:=C [6]) (Y:=(C [7])) 1 (L:=K32) (S:=fun J=>c15 e J (a,b,()) h) (Q:=(k15 e Jn Jr)) (by kernel_rfl) (fun n=>c15_eq e a b h n (exK []) (jk KR Jr)) (k15_eq e Jn Jr)
noncomputable def c13(e:Cx)(J:Q28):Q12
| (a,b,_),h =>
 J (a,b,(decide (b>4096)),()) h
theorem c13_eq(e a b h n ee r):Y e (peel 1 (C [5,0])).1 (mkT K12 (a,b,())) h n ee r=c13 e (fun t h=>n (mkT K28 t) h) (a,b,()) h:=by kernel_rfl
noncomputable def c14(e:Cx)(J:Q6):Q28
| (a,b,c,_),h =>
 J (0,0,10,()) h
theorem c14_eq(e a b c h n ee r):Y e (peel 1 (C [5,1,0])).1 (mkT K28 (a,b,c,())) h n ee r=c14 e (fun t h=>n (mkT K6 t) h) (a,b,c,()) h:=by kernel_rfl
noncomputable def k13(e:Cx)(Jn:Q12)(Jr:QR):Q28
| (a,b,c,_),h =>
 bif c then c14 e (fun | (d,f,g,_),i=>Jr ((.int .i64 d),(.int .i64 f),(.int .i64 g),()) i) (a,b,c,()) h else Jn (a,b,()) h
theorem k13_eq(e Jn Jr):∀ t h,X e (C [5,1]) (mkT K28 t) h (jk K12 Jn) (exK []) (jk KR Jr)=k13 e Jn Jr t h
| (c,d,f,_),h=>nd_cond' (X:=C [5,1]) (a:=C [5,1,0]) (b:=C [5,2]) (t:=f) (x:=.tmp 32) (by kernel_rfl) (by kernel_rfl) (nd_chain' (X:=C [5,1,0]) (Y:=(C [5,1,1])) 1 (L:=K6) (S:=fun J=>c14 e J (c,d,f,()) h) (Q:=fun | (g,i,j,_),k=>Jr ((.int .i64 g),(.int .i64 i),(.int .i64 j),()) k) (by kernel_rfl) (fun n=>c14_eq e c d f h n (exK []) (jk KR Jr)) (fun | (g,i,j,_),k=>by kernel_rfl)) (by kernel_rfl)
noncomputable def r13(e:Cx)(Jn:QR)(Jr:QR)(t:P12)(h:AH):Res:=c13 e (k13 e (r15 e Jn Jr) Jr) t h
theorem r13_eq(e Jn Jr):∀ t h,X e (C [5]) (mkT K12 t) h (jk KR Jn) (exK []) (jk KR Jr)=r13 e Jn Jr t h
| (c,d,_),h=>(nd_norm' (X:=(C [5])) (a:=C [5,0]) (b:=C [6]) (L:=K12) (by kernel_rfl) (by kernel_rfl) (by kernel_rfl) (SB:=(r15 e Jn Jr)) (r15_eq e Jn Jr) _ _).trans (nd_chain' (X:=C [5,0]) (Y:=(C [5,1])) 1 (L:=K28) (S:=fun J=>c13 e J (c,d,()) h) (Q:=(k13 e (r15 e Jn Jr) Jr)) (by kernel_rfl) (fun n=>c13_eq e c d h n (exK []) (jk KR Jr)) (k13_eq e (r15 e Jn Jr) Jr))
noncomputable def c6(e:Cx)(J:Q14):Q12
| (a,b,_),h =>
 J (a,b,0,()) h
theorem c6_eq(e a b h n ee r):Y e (peel 1 (C [4,0])).1 (mkT K12 (a,b,())) h n ee r=c6 e (fun t h=>n (mkT K14 t) h) (a,b,()) h:=by kernel_rfl
noncomputable def c8(e:Cx)(J:Q14):Q14
| (a,b,c,_),h =>
 J (a,b,(wr .i64 (c+1)),()) h
theorem c8_eq(e a b c h n ee r):Y e (peel 1 (C [4,5])).1 (mkT K14 (a,b,c,())) h n ee r=c8 e (fun t h=>n (mkT K14 t) h) (a,b,c,()) h:=by kernel_rfl
noncomputable def r8(e:Cx)(Jn:Q14)(J0:Q12)(Jr:QR)(t:P14)(h:AH):Res:=c8 e Jn t h
theorem r8_eq(e Jn J0 Jr):∀ t h,X e (C [4,5]) (mkT K14 t) h (jk K14 Jn) (exK [(0,(jk K12 J0))]) (jk KR Jr)=r8 e Jn J0 Jr t h
| (a,b,c,_),h=>nd_chain' (X:=C [4,5]) (Y:=.skip) 1 (L:=K14) (S:=fun J=>c8 e J (a,b,c,()) h) (Q:=Jn) (by kernel_rfl) (fun n=>c8_eq e a b c h n (exK [(0,(jk K12 J0))]) (jk KR Jr)) (fun t h=>by kernel_rfl)
noncomputable def c9(e:Cx)(J:Q20):Q14
| (a,b,c,_),h =>
 cI .u64 (e.C nzay [a,(.int .i64 (wr .i64 (8+(wr .i64 (4*c))))),(.int .i64 4)] h) fun d f =>
 J (a,b,c,d,()) f
theorem c9_eq(e a b c h n ee r):Y e (peel 1 (C [4,4,1])).1 (mkT K14 (a,b,c,())) h n ee r=c9 e (fun t h=>n (mkT K20 t) h) (a,b,c,()) h:=by kernel_rfl
noncomputable def c12(e:Cx)(J:Q14):Q25
| (a,b,c,_),h =>
 J (a,c,b,()) h
theorem c12_eq(e a b c h n ee r):Y e (peel 1 (C [4,4,3])).1 (mkT K25 (a,b,c,())) h n ee r=c12 e (fun t h=>n (mkT K14 t) h) (a,b,c,()) h:=by kernel_rfl
noncomputable def r12(e:Cx)(Jn:Q14)(J1:Q14)(J0:Q12)(Jr:QR)(t:P25)(h:AH):Res:=c12 e Jn t h
theorem r12_eq(e Jn J1 J0 Jr):∀ t h,X e (C [4,4,3]) (mkT K25 t) h (jk K14 Jn) (exK [(1,(jk K14 J1)),(0,(jk K12 J0))]) (jk KR Jr)=r12 e Jn J1 J0 Jr t h
| (a,b,c,_),h=>nd_chain' (X:=C [4,4,3]) (Y:=.skip) 1 (L:=K14) (S:=fun J=>c12 e J (a,b,c,()) h) (Q:=Jn) (by kernel_rfl) (fun n=>c12_eq e a b c h n (exK [(1,(jk K14 J1)),(0,(jk K12 J0))]) (jk KR Jr)) (fun t h=>by kernel_rfl)
noncomputable def c10(e:Cx)(J:Q22):Q20
| (a,b,c,d,_),h =>
 J (a,c,d,(decide (d<b)),()) h
theorem c10_eq(e a b c d h n ee r):Y e (peel 1 (C [4,4,2,0])).1 (mkT K20 (a,b,c,d,())) h n ee r=c10 e (fun t h=>n (mkT K22 t) h) (a,b,c,d,()) h:=by kernel_rfl
noncomputable def c11(e:Cx)(J:Q6):Q22
| (a,b,c,d,_),h =>
 J (0,0,4,()) h
theorem c11_eq(e a b c d h n ee r):Y e (peel 1 (C [4,4,2,1,0])).1 (mkT K22 (a,b,c,d,())) h n ee r=c11 e (fun t h=>n (mkT K6 t) h) (a,b,c,d,()) h:=by kernel_rfl
noncomputable def k10(e:Cx)(Jn:Q25)(J1:Q14)(J0:Q12)(Jr:QR):Q22
| (a,b,c,d,_),h =>
 bif d then c11 e (fun | (f,g,i,_),j=>Jr ((.int .i64 f),(.int .i64 g),(.int .i64 i),()) j) (a,b,c,d,()) h else Jn (a,b,c,()) h
theorem k10_eq(e Jn J1 J0 Jr):∀ t h,X e (C [4,4,2,1]) (mkT K22 t) h (jk K25 Jn) (exK [(1,(jk K14 J1)),(0,(jk K12 J0))]) (jk KR Jr)=k10 e Jn J1 J0 Jr t h
| (c,d,f,g,_),h=>nd_cond' (X:=C [4,4,2,1]) (a:=C [4,4,2,1,0]) (b:=C [4,4,2,2]) (t:=g) (x:=.tmp 29) (by kernel_rfl) (by kernel_rfl) (nd_chain' (X:=C [4,4,2,1,0]) (Y:=(C [4,4,2,1,1])) 1 (L:=K6) (S:=fun J=>c11 e J (c,d,f,g,()) h) (Q:=fun | (i,j,k,_),l=>Jr ((.int .i64 i),(.int .i64 j),(.int .i64 k),()) l) (by kernel_rfl) (fun n=>c11_eq e c d f g h n (exK [(1,(jk K14 J1)),(0,(jk K12 J0))]) (jk KR Jr)) (fun | (i,j,k,_),l=>by kernel_rfl)) (by kernel_rfl)
noncomputable def k9(e:Cx)(Jn:Q14)(J1:Q14)(J0:Q12)(Jr:QR)(t:P20)(h:AH):Res:=c10 e (k10 e (r12 e Jn J1 J0 Jr) J1 J0 Jr) t h
theorem k9_eq(e Jn J1 J0 Jr):∀ t h,X e (C [4,4,2]) (mkT K20 t) h (jk K14 Jn) (exK [(1,(jk K14 J1)),(0,(jk K12 J0))]) (jk KR Jr)=k9 e Jn J1 J0 Jr t h
| (c,d,f,g,_),h=>(nd_norm' (X:=(C [4,4,2])) (a:=C [4,4,2,0]) (b:=C [4,4,3]) (L:=K25) (by kernel_rfl) (by kernel_rfl) (by kernel_rfl) (SB:=(r12 e Jn J1 J0 Jr)) (r12_eq e Jn J1 J0 Jr) _ _).trans (nd_chain' (X:=C [4,4,2,0]) (Y:=(C [4,4,2,1])) 1 (L:=K22) (S:=fun J=>c10 e J (c,d,f,g,()) h) (Q:=(k10 e (r12 e Jn J1 J0 Jr) J1 J0 Jr)) (by kernel_rfl) (fun n=>c10_eq e c d f g h n (exK [(1,(jk K14 J1)),(0,(jk K12 J0))]) (jk KR Jr)) (k10_eq e (r12 e Jn J1 J0 Jr) J1 J0 Jr))
noncomputable def r9(e:Cx)(Jn:Q14)(J0:Q12)(Jr:QR)(t:P14)(h:AH):Res:=c9 e (k9 e (r8 e Jn J0 Jr) (r8 e Jn J0 Jr) J0 Jr) t h
theorem r9_eq(e Jn J0 Jr):∀ t h,X e (C [4,4]) (mkT K14 t) h (jk K14 Jn) (exK [(0,(jk K12 J0))]) (jk KR Jr)=r9 e Jn J0 Jr t h
| (c,d,f,_),h=>(nd_norm' (X:=(C [4,4])) (a:=C [4,4,0]) (b:=C [4,5]) (L:=K14) (by kernel_rfl) (by kernel_rfl) (by kernel_rfl) (SB:=(r8 e Jn J0 Jr)) (r8_eq e Jn J0 Jr) _ _).trans (nd_block' (X:=C [4,4,0]) (id:=1) (b:=C [4,4,1]) (by kernel_rfl) (nd_chain' (X:=C [4,4,1]) (Y:=(C [4,4,2])) 1 (L:=K20) (S:=fun J=>c9 e J (c,d,f,()) h) (Q:=(k9 e (r8 e Jn J0 Jr) (r8 e Jn J0 Jr) J0 Jr)) (by kernel_rfl) (fun n=>c9_eq e c d f h n (exK [(1,(jk K14 (r8 e Jn J0 Jr))),(0,(jk K12 J0))]) (jk KR Jr)) (k9_eq e (r8 e Jn J0 Jr) (r8 e Jn J0 Jr) J0 Jr)))
noncomputable def c7(e:Cx)(J:Q16):Q14
| (a,b,c,_),h =>
 J (a,b,c,(decide (c<256)),()) h
theorem c7_eq(e a b c h n ee r):Y e (peel 1 (C [4,3,0])).1 (mkT K14 (a,b,c,())) h n ee r=c7 e (fun t h=>n (mkT K16 t) h) (a,b,c,()) h:=by kernel_rfl
noncomputable def k7(e:Cx)(Jn:Q14)(J0:Q12)(Jr:QR):Q16
| (a,b,c,d,_),h =>
 bif d then Jn (a,b,c,()) h else J0 (a,b,()) h
theorem k7_eq(e Jn J0 Jr):∀ t h,X e (C [4,3,1]) (mkT K16 t) h (jk K14 Jn) (exK [(0,(jk K12 J0))]) (jk KR Jr)=k7 e Jn J0 Jr t h
| (c,d,f,g,_),h=>nd_cond' (X:=C [4,3,1]) (a:=C [4,3,1,0]) (b:=C [4,3,2]) (t:=g) (x:=.tmp 19) (by kernel_rfl) (by kernel_rfl) (by kernel_rfl) (by kernel_rfl)
noncomputable def l7(e:Cx)(Jn:Q14)(J0:Q12)(Jr:QR)(t:P14)(h:AH):Res:=c7 e (k7 e (r9 e Jn J0 Jr) J0 Jr) t h
theorem l7_eq(e Jn J0 Jr):∀ t h,X e (C [4,3]) (mkT K14 t) h (jk K14 Jn) (exK [(0,(jk K12 J0))]) (jk KR Jr)=l7 e Jn J0 Jr t h
| (c,d,f,_),h=>(nd_norm' (X:=(C [4,3])) (a:=C [4,3,0]) (b:=C [4,4]) (L:=K14) (by kernel_rfl) (by kernel_rfl) (by kernel_rfl) (SB:=(r9 e Jn J0 Jr)) (r9_eq e Jn J0 Jr) _ _).trans (nd_chain' (X:=C [4,3,0]) (Y:=(C [4,3,1])) 1 (L:=K16) (S:=fun J=>c7 e J (c,d,f,()) h) (Q:=(k7 e (r9 e Jn J0 Jr) J0 Jr)) (by kernel_rfl) (fun n=>c7_eq e c d f h n (exK [(0,(jk K12 J0))]) (jk KR Jr)) (k7_eq e (r9 e Jn J0 Jr) J0 Jr))
noncomputable def k6(e:Cx)(Jn:Q12)(Jr:QR)(t:P14)(h:AH):Res:=jaw (P14) e.F (fun t h n=>l7 e n Jn Jr t h) t h
theorem k6_eq(e Jn Jr):∀ t h,X e (C [4,1]) (mkT K14 t) h (jk K12 Jn) (exK []) (jk KR Jr)=k6 e Jn Jr t h
| (a,c,d,_),h=>nd_block' (X:=C [4,1]) (id:=0) (b:=C [4,2]) (by kernel_rfl) ((nd_loop' (X:=C [4,2]) (b:=C [4,3]) (L:=K14) (by kernel_rfl) (by kernel_rfl) (SB:=fun n=>l7 e n Jn Jr) (fun n=>l7_eq e n Jn Jr) _ _).trans (by kernel_rfl))
noncomputable def k5(e:Cx)(Jn:QR)(Jr:QR)(t:P12)(h:AH):Res:=c6 e (k6 e (r13 e Jn Jr) Jr) t h
theorem k5_eq(e Jn Jr):∀ t h,X e (C [4]) (mkT K12 t) h (jk KR Jn) (exK []) (jk KR Jr)=k5 e Jn Jr t h
| (c,d,_),h=>(nd_norm' (X:=(C [4])) (a:=C [4,0]) (b:=C [5]) (L:=K12) (by kernel_rfl) (by kernel_rfl) (by kernel_rfl) (SB:=(r13 e Jn Jr)) (r13_eq e Jn Jr) _ _).trans (nd_chain' (X:=C [4,0]) (Y:=(C [4,1])) 1 (L:=K14) (S:=fun J=>c6 e J (c,d,()) h) (Q:=(k6 e (r13 e Jn Jr) Jr)) (by kernel_rfl) (fun n=>c6_eq e c d h n (exK []) (jk KR Jr)) (k6_eq e (r13 e Jn Jr) Jr))
noncomputable def r5(e:Cx)(Jn:QR)(Jr:QR)(t:P2)(h:AH):Res:=c5 e (k5 e Jn Jr) t h
theorem r5_eq(e Jn Jr):∀ t h,X e (C [3]) (mkT K2 t) h (jk KR Jn) (exK []) (jk KR Jr)=r5 e Jn Jr t h
| (a,_),h=>nd_chain' (X:=C [3]) (Y:=(C [4])) 1 (L:=K12) (S:=fun J=>c5 e J (a,()) h) (Q:=(k5 e Jn Jr)) (by kernel_rfl) (fun n=>c5_eq e a h n (exK []) (jk KR Jr)) (k5_eq e Jn Jr)
noncomputable def c3(e:Cx)(J:Q8):Q2
| (a,_),h =>
 bV (slS 1 a none (some (.int .i64 8)) none) h fun b c =>
 cZ (toS b c) fun d f =>
 let g:Bool:=(!natsEq d [255,116,79,99,0,0,0,2])
 J (a,g,()) f
theorem c3_eq(e a h n ee r):Y e (peel 1 (C [2,0])).1 (mkT K2 (a,())) h n ee r=c3 e (fun t h=>n (mkT K8 t) h) (a,()) h:=by kernel_rfl
noncomputable def c4(e:Cx)(J:Q6):Q8
| (a,b,_),h =>
 J (0,0,4,()) h
theorem c4_eq(e a b h n ee r):Y e (peel 1 (C [2,1,0])).1 (mkT K8 (a,b,())) h n ee r=c4 e (fun t h=>n (mkT K6 t) h) (a,b,()) h:=by kernel_rfl
noncomputable def k3(e:Cx)(Jn:Q2)(Jr:QR):Q8
| (a,b,_),h =>
 bif b then c4 e (fun | (c,d,f,_),g=>Jr ((.int .i64 c),(.int .i64 d),(.int .i64 f),()) g) (a,b,()) h else Jn (a,()) h
theorem k3_eq(e Jn Jr):∀ t h,X e (C [2,1]) (mkT K8 t) h (jk K2 Jn) (exK []) (jk KR Jr)=k3 e Jn Jr t h
| (c,d,_),h=>nd_cond' (X:=C [2,1]) (a:=C [2,1,0]) (b:=C [2,2]) (t:=d) (x:=.tmp 17) (by kernel_rfl) (by kernel_rfl) (nd_chain' (X:=C [2,1,0]) (Y:=(C [2,1,1])) 1 (L:=K6) (S:=fun J=>c4 e J (c,d,()) h) (Q:=fun | (f,g,i,_),j=>Jr ((.int .i64 f),(.int .i64 g),(.int .i64 i),()) j) (by kernel_rfl) (fun n=>c4_eq e c d h n (exK []) (jk KR Jr)) (fun | (f,g,i,_),j=>by kernel_rfl)) (by kernel_rfl)
noncomputable def r3(e:Cx)(Jn:QR)(Jr:QR)(t:P2)(h:AH):Res:=c3 e (k3 e (r5 e Jn Jr) Jr) t h
theorem r3_eq(e Jn Jr):∀ t h,X e (C [2]) (mkT K2 t) h (jk KR Jn) (exK []) (jk KR Jr)=r3 e Jn Jr t h
| (c,_),h=>(nd_norm' (X:=(C [2])) (a:=C [2,0]) (b:=C [3]) (L:=K2) (by kernel_rfl) (by kernel_rfl) (by kernel_rfl) (SB:=(r5 e Jn Jr)) (r5_eq e Jn Jr) _ _).trans (nd_chain' (X:=C [2,0]) (Y:=(C [2,1])) 1 (L:=K8) (S:=fun J=>c3 e J (c,()) h) (Q:=(k3 e (r5 e Jn Jr) Jr)) (by kernel_rfl) (fun n=>c3_eq e c h n (exK []) (jk KR Jr)) (k3_eq e (r5 e Jn Jr) Jr))
noncomputable def c1(e:Cx)(J:Q4):Q2
| (a,_),h =>
 bI .i64 (lenS a) h fun b c =>
 J (a,(decide (b<1096)),()) c
theorem c1_eq(e a h n ee r):Y e (peel 1 (C [1,0])).1 (mkT K2 (a,())) h n ee r=c1 e (fun t h=>n (mkT K4 t) h) (a,()) h:=by kernel_rfl
noncomputable def c2(e:Cx)(J:Q6):Q4
| (a,b,_),h =>
 J (0,0,5,()) h
theorem c2_eq(e a b h n ee r):Y e (peel 1 (C [1,1,0])).1 (mkT K4 (a,b,())) h n ee r=c2 e (fun t h=>n (mkT K6 t) h) (a,b,()) h:=by kernel_rfl
noncomputable def k1(e:Cx)(Jn:Q2)(Jr:QR):Q4
| (a,b,_),h =>
 bif b then c2 e (fun | (c,d,f,_),g=>Jr ((.int .i64 c),(.int .i64 d),(.int .i64 f),()) g) (a,b,()) h else Jn (a,()) h
theorem k1_eq(e Jn Jr):∀ t h,X e (C [1,1]) (mkT K4 t) h (jk K2 Jn) (exK []) (jk KR Jr)=k1 e Jn Jr t h
| (c,d,_),h=>nd_cond' (X:=C [1,1]) (a:=C [1,1,0]) (b:=C [1,2]) (t:=d) (x:=.tmp 13) (by kernel_rfl) (by kernel_rfl) (nd_chain' (X:=C [1,1,0]) (Y:=(C [1,1,1])) 1 (L:=K6) (S:=fun J=>c2 e J (c,d,()) h) (Q:=fun | (f,g,i,_),j=>Jr ((.int .i64 f),(.int .i64 g),(.int .i64 i),()) j) (by kernel_rfl) (fun n=>c2_eq e c d h n (exK []) (jk KR Jr)) (fun | (f,g,i,_),j=>by kernel_rfl)) (by kernel_rfl)
noncomputable def k0(e:Cx)(Jn:QR)(Jr:QR)(t:P2)(h:AH):Res:=c1 e (k1 e (r3 e Jn Jr) Jr) t h
theorem k0_eq(e Jn Jr):∀ t h,X e (C [1]) (mkT K2 t) h (jk KR Jn) (exK []) (jk KR Jr)=k0 e Jn Jr t h
| (c,_),h=>(nd_norm' (X:=(C [1])) (a:=C [1,0]) (b:=C [2]) (L:=K2) (by kernel_rfl) (by kernel_rfl) (by kernel_rfl) (SB:=(r3 e Jn Jr)) (r3_eq e Jn Jr) _ _).trans (nd_chain' (X:=C [1,0]) (Y:=(C [1,1])) 1 (L:=K4) (S:=fun J=>c1 e J (c,()) h) (Q:=(k1 e (r3 e Jn Jr) Jr)) (by kernel_rfl) (fun n=>c1_eq e c h n (exK []) (jk KR Jr)) (k1_eq e (r3 e Jn Jr) Jr))
noncomputable def fn(e:Cx)(a:V)(h:AH):Res :=
 c0 e (k0 e ret ret) (a,()) h
theorem run(e:Cx)(a:V)(h:AH):execFn (cfgS e) (jbi lv) e.F nzbf [a] h=fn e a h:=by
 refine (fn_eq (c:=cfgS e) (lv:=lv) (PP.funcs.getD 34 default) B (by kernel_rfl) (by kernel_rfl) (Nat.le_of_ble_eq_true (by kernel_rfl))).trans ?_
 rw [ret_eq]
 exact nd_chain' (X:=C [0]) (Y:=(C [1])) 1 (L:=K2) (S:=fun J=>c0 e J (a,()) h) (Q:=(k0 e ret ret)) (by kernel_rfl) (fun n=>c0_eq e a h n (exK []) (jk KR ret)) (k0_eq e ret ret)
end zbf
namespace zaw
noncomputable def B:Code:=cBody (PP.funcs.getD 35 default)
abbrev K2:Slots:=[(0,.any),(2,.any)]
abbrev P2:=V×V×Unit
abbrev Q2:=P2→AH→Res
abbrev K4:Slots:=[(0,.any),(2,.any),(3,.any)]
abbrev P4:=V×V×V×Unit
abbrev Q4:=P4→AH→Res
abbrev K6:Slots:=[(0,.any),(2,.any),(3,.any),(4,.int .i64)]
abbrev P6:=V×V×V×Int×Unit
abbrev Q6:=P6→AH→Res
abbrev K8:Slots:=[(0,.any),(2,.any),(3,.any),(4,.int .i64),(5,.int .i64)]
abbrev P8:=V×V×V×Int×Int×Unit
abbrev Q8:=P8→AH→Res
abbrev K10:Slots:=[(0,.any),(2,.any),(3,.any),(4,.int .i64),(5,.int .i64),(17,.bool)]
abbrev P10:=V×V×V×Int×Int×Bool×Unit
abbrev Q10:=P10→AH→Res
abbrev K16:Slots:=[(0,.any),(2,.any),(3,.any),(4,.int .i64),(6,.any)]
abbrev P16:=V×V×V×Int×V×Unit
abbrev Q16:=P16→AH→Res
abbrev K18:Slots:=[(0,.any),(2,.any),(3,.any),(6,.any)]
abbrev P18:=V×V×V×V×Unit
abbrev Q18:=P18→AH→Res
abbrev K20:Slots:=[(2,.any),(3,.any),(6,.any)]
abbrev P20:=V×V×V×Unit
abbrev Q20:=P20→AH→Res
abbrev K22:Slots:=[(2,.any),(3,.any),(6,.any),(7,.int .i64)]
abbrev P22:=V×V×V×Int×Unit
abbrev Q22:=P22→AH→Res
abbrev K24:Slots:=[(2,.any),(3,.any),(6,.any),(7,.int .i64),(40,.bool)]
abbrev P24:=V×V×V×Int×Bool×Unit
abbrev Q24:=P24→AH→Res
abbrev K29:Slots:=[(2,.any),(3,.any)]
abbrev P29:=V×V×Unit
abbrev Q29:=P29→AH→Res
abbrev K30:Slots:=[(2,.any),(3,.any),(8,.any)]
abbrev P30:=V×V×V×Unit
abbrev Q30:=P30→AH→Res
abbrev K32:Slots:=[(2,.any),(3,.any),(8,.any),(9,.int .i64)]
abbrev P32:=V×V×V×Int×Unit
abbrev Q32:=P32→AH→Res
abbrev K34:Slots:=[(2,.any),(3,.any),(8,.any),(9,.int .i64),(51,.bool)]
abbrev P34:=V×V×V×Int×Bool×Unit
abbrev Q34:=P34→AH→Res
abbrev K39:Slots:=[(2,.any),(8,.any)]
abbrev P39:=V×V×Unit
abbrev Q39:=P39→AH→Res
abbrev K40:Slots:=[(2,.any)]
abbrev P40:=V×Unit
abbrev Q40:=P40→AH→Res
noncomputable def lv:=lvT [(2,K2),(4,K4),(6,K6),(8,K8),(10,K10),(13,K8),(14,K8),(11,K8),(12,K8),(9,K8),(15,K6),(16,K16),(18,K18),(20,K20),(22,K22),(24,K24),(27,K22),(28,K22),(25,K22),(26,K22),(23,K22),(29,K29),(30,K30),(32,K32),(34,K34),(37,K32),(38,K32),(35,K32),(36,K32),(33,K32),(39,K39),(40,K40)]
abbrev KR:Slots:=[(2,.any)]
abbrev PR:=V×Unit
abbrev QR:=PR→AH→Res
noncomputable abbrev X (e:Cx):=exL (cfgS e) lv 67 e.F
noncomputable abbrev Y (e:Cx):=runL (cfgS e) lv 67 e.F
noncomputable abbrev C (p:List Nat):=cP p B
noncomputable def ret:Q40
| (a,_),h=>finW [ldA 32 a h] h
theorem ret_eq(e:Cx):fin (cfgS e) (jbi lv) (PP.funcs.getD 35 default)=jk K40 ret:=by kernel_rfl
noncomputable def c0(e:Cx)(J:Q6):V×Unit→AH→Res
| (a,_),h =>
 let b:=(al (List.replicate 32 (.int .u8 0)) jab h).1
 let c:=(al (List.replicate 32 (.int .u8 0)) jab h).2
 cA (e.C nzau [] c) fun d f =>
 let g:=(al (List.replicate 8 (.int .u32 0)) jbb f).1
 let i:=(al (List.replicate 8 (.int .u32 0)) jbb f).2
 bS (st 8 g (.agg d) i) fun j =>
 bI .i64 (lenS a) j fun k l =>
 J (a,b,g,(wr .i64 ((wr .i64 (k.tdiv 64))*64)),()) l
theorem c0_eq(e a h n ee r):Y e (peel 3 (C [0])).1 (iniT [a] 0 .leaf) h n ee r=c0 e (fun t h=>n (mkT K6 t) h) (a,()) h:=by kernel_rfl
noncomputable def c7(e:Cx)(J:Q20):Q6
| (a,b,c,d,_),h =>
 bV (slS 1 a (some (.int .i64 d)) none none) h fun f g =>
 cV (app 1 1 jai (.nilslice) f g) fun i j =>
 bI .i64 (lenS a) j fun k l =>
 cV (e.C nzat [(.int .i64 k)] l) fun m o =>
 cV (app 1 1 jai i m o) fun p q =>
 J (b,c,p,()) q
theorem c7_eq(e a b c d h n ee r):Y e (peel 3 (C [4])).1 (mkT K6 (a,b,c,d,())) h n ee r=c7 e (fun t h=>n (mkT K20 t) h) (a,b,c,d,()) h:=by kernel_rfl
noncomputable def c14(e:Cx)(J:Q30):Q29
| (a,b,_),h =>
 let c:=(al (List.replicate 32 (.int .u8 0)) jab h).1
 let d:=(al (List.replicate 32 (.int .u8 0)) jab h).2
 J (a,b,c,()) d
theorem c14_eq(e a b h n ee r):Y e (peel 1 (C [8])).1 (mkT K29 (a,b,())) h n ee r=c14 e (fun t h=>n (mkT K30 t) h) (a,b,()) h:=by kernel_rfl
noncomputable def c19(e:Cx)(J:Q40):Q39
| (a,b,_),h =>
 bA (ldA 32 b h) h fun c d =>
 bS (st 32 a (.agg c) d) fun f =>
 J (a,()) f
theorem c19_eq(e a b h n ee r):Y e (peel 1 (C [10])).1 (mkT K39 (a,b,())) h n ee r=c19 e (fun t h=>n (mkT K40 t) h) (a,b,()) h:=by kernel_rfl
noncomputable def r19(e:Cx)(Jn:Q40)(Jr:Q40)(t:P39)(h:AH):Res:=c19 e Jr t h
theorem r19_eq(e Jn Jr):∀ t h,X e (C [10]) (mkT K39 t) h (jk K40 Jn) (exK []) (jk K40 Jr)=r19 e Jn Jr t h
| (a,b,_),h=>nd_chain' (X:=C [10]) (Y:=(C [11])) 1 (L:=K40) (S:=fun J=>c19 e J (a,b,()) h) (Q:=Jr) (by kernel_rfl) (fun n=>c19_eq e a b h n (exK []) (jk K40 Jr)) (fun t h=>by kernel_rfl)
noncomputable def c15(e:Cx)(J:Q32):Q30
| (a,b,c,_),h =>
 J (a,b,c,0,()) h
theorem c15_eq(e a b c h n ee r):Y e (peel 1 (C [9,0])).1 (mkT K30 (a,b,c,())) h n ee r=c15 e (fun t h=>n (mkT K32 t) h) (a,b,c,()) h:=by kernel_rfl
noncomputable def c17(e:Cx)(J:Q32):Q32
| (a,b,c,d,_),h =>
 J (a,b,c,(wr .i64 (d+1)),()) h
theorem c17_eq(e a b c d h n ee r):Y e (peel 1 (C [9,5])).1 (mkT K32 (a,b,c,d,())) h n ee r=c17 e (fun t h=>n (mkT K32 t) h) (a,b,c,d,()) h:=by kernel_rfl
noncomputable def r17(e:Cx)(Jn:Q32)(J4:Q39)(Jr:Q40)(t:P32)(h:AH):Res:=c17 e Jn t h
theorem r17_eq(e Jn J4 Jr):∀ t h,X e (C [9,5]) (mkT K32 t) h (jk K32 Jn) (exK [(4,(jk K39 J4))]) (jk K40 Jr)=r17 e Jn J4 Jr t h
| (a,b,c,d,_),h=>nd_chain' (X:=C [9,5]) (Y:=.skip) 1 (L:=K32) (S:=fun J=>c17 e J (a,b,c,d,()) h) (Q:=Jn) (by kernel_rfl) (fun n=>c17_eq e a b c d h n (exK [(4,(jk K39 J4))]) (jk K40 Jr)) (fun t h=>by kernel_rfl)
noncomputable def c18(e:Cx)(J:Q32):Q32
| (a,b,c,d,_),h =>
 bV (ixA 8 1 b (wr .i64 (d.tdiv 4))) h fun f g =>
 bI .u32 (ld f g) g fun i j =>
 let k:Int:=(wr .i64 (24-(wr .i64 (8*(d.tmod 4)))))
 bI .u32 (if k<0 then none else some (.int .u32 (ishr .u32 i k))) j fun l m =>
 bV (ixA 32 1 c d) m fun o p =>
 bS (st 1 o (.int .u8 (wr .u8 l)) p) fun q =>
 J (a,b,c,d,()) q
theorem c18_eq(e a b c d h n ee r):Y e (peel 1 (C [9,4,1])).1 (mkT K32 (a,b,c,d,())) h n ee r=c18 e (fun t h=>n (mkT K32 t) h) (a,b,c,d,()) h:=by kernel_rfl
noncomputable def r18(e:Cx)(Jn:Q32)(J4:Q39)(Jr:Q40)(t:P32)(h:AH):Res:=c18 e (r17 e Jn J4 Jr) t h
theorem r18_eq(e Jn J4 Jr):∀ t h,X e (C [9,4]) (mkT K32 t) h (jk K32 Jn) (exK [(4,(jk K39 J4))]) (jk K40 Jr)=r18 e Jn J4 Jr t h
| (c,d,f,g,_),h=>(nd_norm' (X:=(C [9,4])) (a:=C [9,4,0]) (b:=C [9,5]) (L:=K32) (by kernel_rfl) (by kernel_rfl) (by kernel_rfl) (SB:=(r17 e Jn J4 Jr)) (r17_eq e Jn J4 Jr) _ _).trans (nd_block' (X:=C [9,4,0]) (id:=5) (b:=C [9,4,1]) (by kernel_rfl) (nd_chain' (X:=C [9,4,1]) (Y:=.skip) 1 (L:=K32) (S:=fun J=>c18 e J (c,d,f,g,()) h) (Q:=(r17 e Jn J4 Jr)) (by kernel_rfl) (fun n=>c18_eq e c d f g h n (exK [(5,(jk K32 (r17 e Jn J4 Jr))),(4,(jk K39 J4))]) (jk K40 Jr)) (fun t h=>by kernel_rfl)))
noncomputable def c16(e:Cx)(J:Q34):Q32
| (a,b,c,d,_),h =>
 J (a,b,c,d,(decide (d<32)),()) h
theorem c16_eq(e a b c d h n ee r):Y e (peel 1 (C [9,3,0])).1 (mkT K32 (a,b,c,d,())) h n ee r=c16 e (fun t h=>n (mkT K34 t) h) (a,b,c,d,()) h:=by kernel_rfl
noncomputable def k16(e:Cx)(Jn:Q32)(J4:Q39)(Jr:Q40):Q34
| (a,b,c,d,f,_),h =>
 bif f then Jn (a,b,c,d,()) h else J4 (a,c,()) h
theorem k16_eq(e Jn J4 Jr):∀ t h,X e (C [9,3,1]) (mkT K34 t) h (jk K32 Jn) (exK [(4,(jk K39 J4))]) (jk K40 Jr)=k16 e Jn J4 Jr t h
| (c,d,f,g,i,_),h=>nd_cond' (X:=C [9,3,1]) (a:=C [9,3,1,0]) (b:=C [9,3,2]) (t:=i) (x:=.tmp 51) (by kernel_rfl) (by kernel_rfl) (by kernel_rfl) (by kernel_rfl)
noncomputable def l16(e:Cx)(Jn:Q32)(J4:Q39)(Jr:Q40)(t:P32)(h:AH):Res:=c16 e (k16 e (r18 e Jn J4 Jr) J4 Jr) t h
theorem l16_eq(e Jn J4 Jr):∀ t h,X e (C [9,3]) (mkT K32 t) h (jk K32 Jn) (exK [(4,(jk K39 J4))]) (jk K40 Jr)=l16 e Jn J4 Jr t h
| (c,d,f,g,_),h=>(nd_norm' (X:=(C [9,3])) (a:=C [9,3,0]) (b:=C [9,4]) (L:=K32) (by kernel_rfl) (by kernel_rfl) (by kernel_rfl) (SB:=(r18 e Jn J4 Jr)) (r18_eq e Jn J4 Jr) _ _).trans (nd_chain' (X:=C [9,3,0]) (Y:=(C [9,3,1])) 1 (L:=K34) (S:=fun J=>c16 e J (c,d,f,g,()) h) (Q:=(k16 e (r18 e Jn J4 Jr) J4 Jr)) (by kernel_rfl) (fun n=>c16_eq e c d f g h n (exK [(4,(jk K39 J4))]) (jk K40 Jr)) (k16_eq e (r18 e Jn J4 Jr) J4 Jr))
noncomputable def k15(e:Cx)(Jn:Q39)(Jr:Q40)(t:P32)(h:AH):Res:=jaw (P32) e.F (fun t h n=>l16 e n Jn Jr t h) t h
theorem k15_eq(e Jn Jr):∀ t h,X e (C [9,1]) (mkT K32 t) h (jk K39 Jn) (exK []) (jk K40 Jr)=k15 e Jn Jr t h
| (a,c,d,f,_),h=>nd_block' (X:=C [9,1]) (id:=4) (b:=C [9,2]) (by kernel_rfl) ((nd_loop' (X:=C [9,2]) (b:=C [9,3]) (L:=K32) (by kernel_rfl) (by kernel_rfl) (SB:=fun n=>l16 e n Jn Jr) (fun n=>l16_eq e n Jn Jr) _ _).trans (by kernel_rfl))
noncomputable def k14(e:Cx)(Jn:Q40)(Jr:Q40)(t:P30)(h:AH):Res:=c15 e (k15 e (r19 e Jn Jr) Jr) t h
theorem k14_eq(e Jn Jr):∀ t h,X e (C [9]) (mkT K30 t) h (jk K40 Jn) (exK []) (jk K40 Jr)=k14 e Jn Jr t h
| (c,d,f,_),h=>(nd_norm' (X:=(C [9])) (a:=C [9,0]) (b:=C [10]) (L:=K39) (by kernel_rfl) (by kernel_rfl) (by kernel_rfl) (SB:=(r19 e Jn Jr)) (r19_eq e Jn Jr) _ _).trans (nd_chain' (X:=C [9,0]) (Y:=(C [9,1])) 1 (L:=K32) (S:=fun J=>c15 e J (c,d,f,()) h) (Q:=(k15 e (r19 e Jn Jr) Jr)) (by kernel_rfl) (fun n=>c15_eq e c d f h n (exK []) (jk K40 Jr)) (k15_eq e (r19 e Jn Jr) Jr))
noncomputable def r14(e:Cx)(Jn:Q40)(Jr:Q40)(t:P29)(h:AH):Res:=c14 e (k14 e Jn Jr) t h
theorem r14_eq(e Jn Jr):∀ t h,X e (C [8]) (mkT K29 t) h (jk K40 Jn) (exK []) (jk K40 Jr)=r14 e Jn Jr t h
| (a,b,_),h=>nd_chain' (X:=C [8]) (Y:=(C [9])) 1 (L:=K30) (S:=fun J=>c14 e J (a,b,()) h) (Q:=(k14 e Jn Jr)) (by kernel_rfl) (fun n=>c14_eq e a b h n (exK []) (jk K40 Jr)) (k14_eq e Jn Jr)
noncomputable def c10(e:Cx)(J:Q22):Q20
| (a,b,c,_),h =>
 J (a,b,c,0,()) h
theorem c10_eq(e a b c h n ee r):Y e (peel 1 (C [7,0])).1 (mkT K20 (a,b,c,())) h n ee r=c10 e (fun t h=>n (mkT K22 t) h) (a,b,c,()) h:=by kernel_rfl
noncomputable def c12(e:Cx)(J:Q22):Q22
| (a,b,c,d,_),h =>
 J (a,b,c,(wr .i64 (d+64)),()) h
theorem c12_eq(e a b c d h n ee r):Y e (peel 1 (C [7,5])).1 (mkT K22 (a,b,c,d,())) h n ee r=c12 e (fun t h=>n (mkT K22 t) h) (a,b,c,d,()) h:=by kernel_rfl
noncomputable def r12(e:Cx)(Jn:Q22)(J2:Q29)(Jr:Q40)(t:P22)(h:AH):Res:=c12 e Jn t h
theorem r12_eq(e Jn J2 Jr):∀ t h,X e (C [7,5]) (mkT K22 t) h (jk K22 Jn) (exK [(2,(jk K29 J2))]) (jk K40 Jr)=r12 e Jn J2 Jr t h
| (a,b,c,d,_),h=>nd_chain' (X:=C [7,5]) (Y:=.skip) 1 (L:=K22) (S:=fun J=>c12 e J (a,b,c,d,()) h) (Q:=Jn) (by kernel_rfl) (fun n=>c12_eq e a b c d h n (exK [(2,(jk K29 J2))]) (jk K40 Jr)) (fun t h=>by kernel_rfl)
noncomputable def c13(e:Cx)(J:Q22):Q22
| (a,b,c,d,_),h =>
 bA (ldA 8 b h) h fun f g =>
 bV (slS 1 c (some (.int .i64 d)) (some (.int .i64 (wr .i64 (d+64)))) none) g fun i j =>
 cA (e.C jcb [(.agg f),i] j) fun k l =>
 bS (st 8 b (.agg k) l) fun m =>
 J (a,b,c,d,()) m
theorem c13_eq(e a b c d h n ee r):Y e (peel 1 (C [7,4,1])).1 (mkT K22 (a,b,c,d,())) h n ee r=c13 e (fun t h=>n (mkT K22 t) h) (a,b,c,d,()) h:=by kernel_rfl
noncomputable def r13(e:Cx)(Jn:Q22)(J2:Q29)(Jr:Q40)(t:P22)(h:AH):Res:=c13 e (r12 e Jn J2 Jr) t h
theorem r13_eq(e Jn J2 Jr):∀ t h,X e (C [7,4]) (mkT K22 t) h (jk K22 Jn) (exK [(2,(jk K29 J2))]) (jk K40 Jr)=r13 e Jn J2 Jr t h
| (c,d,f,g,_),h=>(nd_norm' (X:=(C [7,4])) (a:=C [7,4,0]) (b:=C [7,5]) (L:=K22) (by kernel_rfl) (by kernel_rfl) (by kernel_rfl) (SB:=(r12 e Jn J2 Jr)) (r12_eq e Jn J2 Jr) _ _).trans (nd_block' (X:=C [7,4,0]) (id:=3) (b:=C [7,4,1]) (by kernel_rfl) (nd_chain' (X:=C [7,4,1]) (Y:=.skip) 1 (L:=K22) (S:=fun J=>c13 e J (c,d,f,g,()) h) (Q:=(r12 e Jn J2 Jr)) (by kernel_rfl) (fun n=>c13_eq e c d f g h n (exK [(3,(jk K22 (r12 e Jn J2 Jr))),(2,(jk K29 J2))]) (jk K40 Jr)) (fun t h=>by kernel_rfl)))
noncomputable def c11(e:Cx)(J:Q24):Q22
| (a,b,c,d,_),h =>
 bI .i64 (lenS c) h fun f g =>
 J (a,b,c,d,(decide (d<f)),()) g
theorem c11_eq(e a b c d h n ee r):Y e (peel 1 (C [7,3,0])).1 (mkT K22 (a,b,c,d,())) h n ee r=c11 e (fun t h=>n (mkT K24 t) h) (a,b,c,d,()) h:=by kernel_rfl
noncomputable def k11(e:Cx)(Jn:Q22)(J2:Q29)(Jr:Q40):Q24
| (a,b,c,d,f,_),h =>
 bif f then Jn (a,b,c,d,()) h else J2 (a,b,()) h
theorem k11_eq(e Jn J2 Jr):∀ t h,X e (C [7,3,1]) (mkT K24 t) h (jk K22 Jn) (exK [(2,(jk K29 J2))]) (jk K40 Jr)=k11 e Jn J2 Jr t h
| (c,d,f,g,i,_),h=>nd_cond' (X:=C [7,3,1]) (a:=C [7,3,1,0]) (b:=C [7,3,2]) (t:=i) (x:=.tmp 40) (by kernel_rfl) (by kernel_rfl) (by kernel_rfl) (by kernel_rfl)
noncomputable def l11(e:Cx)(Jn:Q22)(J2:Q29)(Jr:Q40)(t:P22)(h:AH):Res:=c11 e (k11 e (r13 e Jn J2 Jr) J2 Jr) t h
theorem l11_eq(e Jn J2 Jr):∀ t h,X e (C [7,3]) (mkT K22 t) h (jk K22 Jn) (exK [(2,(jk K29 J2))]) (jk K40 Jr)=l11 e Jn J2 Jr t h
| (c,d,f,g,_),h=>(nd_norm' (X:=(C [7,3])) (a:=C [7,3,0]) (b:=C [7,4]) (L:=K22) (by kernel_rfl) (by kernel_rfl) (by kernel_rfl) (SB:=(r13 e Jn J2 Jr)) (r13_eq e Jn J2 Jr) _ _).trans (nd_chain' (X:=C [7,3,0]) (Y:=(C [7,3,1])) 1 (L:=K24) (S:=fun J=>c11 e J (c,d,f,g,()) h) (Q:=(k11 e (r13 e Jn J2 Jr) J2 Jr)) (by kernel_rfl) (fun n=>c11_eq e c d f g h n (exK [(2,(jk K29 J2))]) (jk K40 Jr)) (k11_eq e (r13 e Jn J2 Jr) J2 Jr))
noncomputable def k10(e:Cx)(Jn:Q29)(Jr:Q40)(t:P22)(h:AH):Res:=jaw (P22) e.F (fun t h n=>l11 e n Jn Jr t h) t h
theorem k10_eq(e Jn Jr):∀ t h,X e (C [7,1]) (mkT K22 t) h (jk K29 Jn) (exK []) (jk K40 Jr)=k10 e Jn Jr t h
| (a,c,d,f,_),h=>nd_block' (X:=C [7,1]) (id:=2) (b:=C [7,2]) (by kernel_rfl) ((nd_loop' (X:=C [7,2]) (b:=C [7,3]) (L:=K22) (by kernel_rfl) (by kernel_rfl) (SB:=fun n=>l11 e n Jn Jr) (fun n=>l11_eq e n Jn Jr) _ _).trans (by kernel_rfl))
noncomputable def k9(e:Cx)(Jn:Q40)(Jr:Q40)(t:P20)(h:AH):Res:=c10 e (k10 e (r14 e Jn Jr) Jr) t h
theorem k9_eq(e Jn Jr):∀ t h,X e (C [7]) (mkT K20 t) h (jk K40 Jn) (exK []) (jk K40 Jr)=k9 e Jn Jr t h
| (c,d,f,_),h=>(nd_norm' (X:=(C [7])) (a:=C [7,0]) (b:=C [8]) (L:=K29) (by kernel_rfl) (by kernel_rfl) (by kernel_rfl) (SB:=(r14 e Jn Jr)) (r14_eq e Jn Jr) _ _).trans (nd_chain' (X:=C [7,0]) (Y:=(C [7,1])) 1 (L:=K22) (S:=fun J=>c10 e J (c,d,f,()) h) (Q:=(k10 e (r14 e Jn Jr) Jr)) (by kernel_rfl) (fun n=>c10_eq e c d f h n (exK []) (jk K40 Jr)) (k10_eq e (r14 e Jn Jr) Jr))
noncomputable def r7(e:Cx)(Jn:Q40)(Jr:Q40)(t:P6)(h:AH):Res:=c7 e (k9 e Jn Jr) t h
theorem r7_eq(e Jn Jr):∀ t h,X e (C [4]) (mkT K6 t) h (jk K40 Jn) (exK []) (jk K40 Jr)=r7 e Jn Jr t h
| (a,b,c,d,_),h=>nd_chain' (X:=C [4]) (Y:=(C [7])) 3 (L:=K20) (S:=fun J=>c7 e J (a,b,c,d,()) h) (Q:=(k9 e Jn Jr)) (by kernel_rfl) (fun n=>c7_eq e a b c d h n (exK []) (jk K40 Jr)) (k9_eq e Jn Jr)
noncomputable def c3(e:Cx)(J:Q8):Q6
| (a,b,c,d,_),h =>
 J (a,b,c,d,0,()) h
theorem c3_eq(e a b c d h n ee r):Y e (peel 1 (C [3,0])).1 (mkT K6 (a,b,c,d,())) h n ee r=c3 e (fun t h=>n (mkT K8 t) h) (a,b,c,d,()) h:=by kernel_rfl
noncomputable def c5(e:Cx)(J:Q8):Q8
| (a,b,c,d,f,_),h =>
 J (a,b,c,d,(wr .i64 (f+64)),()) h
theorem c5_eq(e a b c d f h n ee r):Y e (peel 1 (C [3,5])).1 (mkT K8 (a,b,c,d,f,())) h n ee r=c5 e (fun t h=>n (mkT K8 t) h) (a,b,c,d,f,()) h:=by kernel_rfl
noncomputable def r5(e:Cx)(Jn:Q8)(J0:Q6)(Jr:Q40)(t:P8)(h:AH):Res:=c5 e Jn t h
theorem r5_eq(e Jn J0 Jr):∀ t h,X e (C [3,5]) (mkT K8 t) h (jk K8 Jn) (exK [(0,(jk K6 J0))]) (jk K40 Jr)=r5 e Jn J0 Jr t h
| (a,b,c,d,f,_),h=>nd_chain' (X:=C [3,5]) (Y:=.skip) 1 (L:=K8) (S:=fun J=>c5 e J (a,b,c,d,f,()) h) (Q:=Jn) (by kernel_rfl) (fun n=>c5_eq e a b c d f h n (exK [(0,(jk K6 J0))]) (jk K40 Jr)) (fun t h=>by kernel_rfl)
noncomputable def c6(e:Cx)(J:Q8):Q8
| (a,b,c,d,f,_),h =>
 bA (ldA 8 c h) h fun g i =>
 bV (slS 1 a (some (.int .i64 f)) (some (.int .i64 (wr .i64 (f+64)))) none) i fun j k =>
 cA (e.C jcb [(.agg g),j] k) fun l m =>
 bS (st 8 c (.agg l) m) fun o =>
 J (a,b,c,d,f,()) o
theorem c6_eq(e a b c d f h n ee r):Y e (peel 1 (C [3,4,1])).1 (mkT K8 (a,b,c,d,f,())) h n ee r=c6 e (fun t h=>n (mkT K8 t) h) (a,b,c,d,f,()) h:=by kernel_rfl
noncomputable def r6(e:Cx)(Jn:Q8)(J0:Q6)(Jr:Q40)(t:P8)(h:AH):Res:=c6 e (r5 e Jn J0 Jr) t h
theorem r6_eq(e Jn J0 Jr):∀ t h,X e (C [3,4]) (mkT K8 t) h (jk K8 Jn) (exK [(0,(jk K6 J0))]) (jk K40 Jr)=r6 e Jn J0 Jr t h
| (c,d,f,g,i,_),h=>(nd_norm' (X:=(C [3,4])) (a:=C [3,4,0]) (b:=C [3,5]) (L:=K8) (by kernel_rfl) (by kernel_rfl) (by kernel_rfl) (SB:=(r5 e Jn J0 Jr)) (r5_eq e Jn J0 Jr) _ _).trans (nd_block' (X:=C [3,4,0]) (id:=1) (b:=C [3,4,1]) (by kernel_rfl) (nd_chain' (X:=C [3,4,1]) (Y:=.skip) 1 (L:=K8) (S:=fun J=>c6 e J (c,d,f,g,i,()) h) (Q:=(r5 e Jn J0 Jr)) (by kernel_rfl) (fun n=>c6_eq e c d f g i h n (exK [(1,(jk K8 (r5 e Jn J0 Jr))),(0,(jk K6 J0))]) (jk K40 Jr)) (fun t h=>by kernel_rfl)))
noncomputable def c4(e:Cx)(J:Q10):Q8
| (a,b,c,d,f,_),h =>
 J (a,b,c,d,f,(decide (f<d)),()) h
theorem c4_eq(e a b c d f h n ee r):Y e (peel 1 (C [3,3,0])).1 (mkT K8 (a,b,c,d,f,())) h n ee r=c4 e (fun t h=>n (mkT K10 t) h) (a,b,c,d,f,()) h:=by kernel_rfl
noncomputable def k4(e:Cx)(Jn:Q8)(J0:Q6)(Jr:Q40):Q10
| (a,b,c,d,f,g,_),h =>
 bif g then Jn (a,b,c,d,f,()) h else J0 (a,b,c,d,()) h
theorem k4_eq(e Jn J0 Jr):∀ t h,X e (C [3,3,1]) (mkT K10 t) h (jk K8 Jn) (exK [(0,(jk K6 J0))]) (jk K40 Jr)=k4 e Jn J0 Jr t h
| (c,d,f,g,i,j,_),h=>nd_cond' (X:=C [3,3,1]) (a:=C [3,3,1,0]) (b:=C [3,3,2]) (t:=j) (x:=.tmp 17) (by kernel_rfl) (by kernel_rfl) (by kernel_rfl) (by kernel_rfl)
noncomputable def l4(e:Cx)(Jn:Q8)(J0:Q6)(Jr:Q40)(t:P8)(h:AH):Res:=c4 e (k4 e (r6 e Jn J0 Jr) J0 Jr) t h
theorem l4_eq(e Jn J0 Jr):∀ t h,X e (C [3,3]) (mkT K8 t) h (jk K8 Jn) (exK [(0,(jk K6 J0))]) (jk K40 Jr)=l4 e Jn J0 Jr t h
| (c,d,f,g,i,_),h=>(nd_norm' (X:=(C [3,3])) (a:=C [3,3,0]) (b:=C [3,4]) (L:=K8) (by kernel_rfl) (by kernel_rfl) (by kernel_rfl) (SB:=(r6 e Jn J0 Jr)) (r6_eq e Jn J0 Jr) _ _).trans (nd_chain' (X:=C [3,3,0]) (Y:=(C [3,3,1])) 1 (L:=K10) (S:=fun J=>c4 e J (c,d,f,g,i,()) h) (Q:=(k4 e (r6 e Jn J0 Jr) J0 Jr)) (by kernel_rfl) (fun n=>c4_eq e c d f g i h n (exK [(0,(jk K6 J0))]) (jk K40 Jr)) (k4_eq e (r6 e Jn J0 Jr) J0 Jr))
noncomputable def k3(e:Cx)(Jn:Q6)(Jr:Q40)(t:P8)(h:AH):Res:=jaw (P8) e.F (fun t h n=>l4 e n Jn Jr t h) t h
theorem k3_eq(e Jn Jr):∀ t h,X e (C [3,1]) (mkT K8 t) h (jk K6 Jn) (exK []) (jk K40 Jr)=k3 e Jn Jr t h
| (a,c,d,f,g,_),h=>nd_block' (X:=C [3,1]) (id:=0) (b:=C [3,2]) (by kernel_rfl) ((nd_loop' (X:=C [3,2]) (b:=C [3,3]) (L:=K8) (by kernel_rfl) (by kernel_rfl) (SB:=fun n=>l4 e n Jn Jr) (fun n=>l4_eq e n Jn Jr) _ _).trans (by kernel_rfl))
noncomputable def k2(e:Cx)(Jn:Q40)(Jr:Q40)(t:P6)(h:AH):Res:=c3 e (k3 e (r7 e Jn Jr) Jr) t h
theorem k2_eq(e Jn Jr):∀ t h,X e (C [3]) (mkT K6 t) h (jk K40 Jn) (exK []) (jk K40 Jr)=k2 e Jn Jr t h
| (c,d,f,g,_),h=>(nd_norm' (X:=(C [3])) (a:=C [3,0]) (b:=C [4]) (L:=K6) (by kernel_rfl) (by kernel_rfl) (by kernel_rfl) (SB:=(r7 e Jn Jr)) (r7_eq e Jn Jr) _ _).trans (nd_chain' (X:=C [3,0]) (Y:=(C [3,1])) 1 (L:=K8) (S:=fun J=>c3 e J (c,d,f,g,()) h) (Q:=(k3 e (r7 e Jn Jr) Jr)) (by kernel_rfl) (fun n=>c3_eq e c d f g h n (exK []) (jk K40 Jr)) (k3_eq e (r7 e Jn Jr) Jr))
noncomputable def fn(e:Cx)(a:V)(h:AH):Res :=
 c0 e (k2 e ret ret) (a,()) h
theorem run(e:Cx)(a:V)(h:AH):execFn (cfgS e) (jbi lv) e.F nzaw [a] h=fn e a h:=by
 refine (fn_eq (c:=cfgS e) (lv:=lv) (PP.funcs.getD 35 default) B (by kernel_rfl) (by kernel_rfl) (Nat.le_of_ble_eq_true (by kernel_rfl))).trans ?_
 rw [ret_eq]
 exact nd_chain' (X:=C [0]) (Y:=(C [3])) 3 (L:=K6) (S:=fun J=>c0 e J (a,()) h) (Q:=(k2 e ret ret)) (by kernel_rfl) (fun n=>c0_eq e a h n (exK []) (jk K40 ret)) (k2_eq e ret ret)
end zaw
namespace zbe
noncomputable def B:Code:=cBody (PP.funcs.getD 36 default)
abbrev K2:Slots:=[(0,.any),(1,.int .i64),(4,.any)]
abbrev P2:=V×Int×V×Unit
abbrev Q2:=P2→AH→Res
abbrev K4:Slots:=[(0,.any),(1,.int .i64),(4,.any),(5,.any)]
abbrev P4:=V×Int×V×V×Unit
abbrev Q4:=P4→AH→Res
abbrev K6:Slots:=[(0,.any),(1,.int .i64),(4,.any),(5,.any),(6,.int .i64)]
abbrev P6:=V×Int×V×V×Int×Unit
abbrev Q6:=P6→AH→Res
abbrev K8:Slots:=[(0,.any),(1,.int .i64),(4,.any),(5,.any),(6,.int .i64),(8,.bool)]
abbrev P8:=V×Int×V×V×Int×Bool×Unit
abbrev Q8:=P8→AH→Res
abbrev K13:Slots:=[(4,.any),(5,.any)]
abbrev P13:=V×V×Unit
abbrev Q13:=P13→AH→Res
abbrev K14:Slots:=[(4,.any)]
abbrev P14:=V×Unit
abbrev Q14:=P14→AH→Res
noncomputable def lv:=lvT [(2,K2),(4,K4),(6,K6),(8,K8),(11,K6),(12,K6),(9,K6),(10,K6),(7,K6),(13,K13),(14,K14)]
abbrev KR:Slots:=[(4,.any)]
abbrev PR:=V×Unit
abbrev QR:=PR→AH→Res
noncomputable abbrev X (e:Cx):=exL (cfgS e) lv 20 e.F
noncomputable abbrev Y (e:Cx):=runL (cfgS e) lv 20 e.F
noncomputable abbrev C (p:List Nat):=cP p B
noncomputable def ret:Q14
| (a,_),h=>finW [ldA 32 a h] h
theorem ret_eq(e:Cx):fin (cfgS e) (jbi lv) (PP.funcs.getD 36 default)=jk K14 ret:=by kernel_rfl
noncomputable def c0(e:Cx)(J:Q4):V×Int×Unit→AH→Res
| (a,b,_),h =>
 let c:=(al (List.replicate 32 (.int .u8 0)) jab h).1
 let d:=(al (List.replicate 32 (.int .u8 0)) jab h).2
 let f:=(al (List.replicate 32 (.int .u8 0)) jab d).1
 let g:=(al (List.replicate 32 (.int .u8 0)) jab d).2
 J (a,b,c,f,()) g
theorem c0_eq(e a b h n ee r):Y e (peel 2 (C [0])).1 (iniT [a,(.int .i64 b)] 0 .leaf) h n ee r=c0 e (fun t h=>n (mkT K4 t) h) (a,b,()) h:=by kernel_rfl
noncomputable def c6(e:Cx)(J:Q14):Q13
| (a,b,_),h =>
 bA (ldA 32 b h) h fun c d =>
 bS (st 32 a (.agg c) d) fun f =>
 J (a,()) f
theorem c6_eq(e a b h n ee r):Y e (peel 1 (C [3])).1 (mkT K13 (a,b,())) h n ee r=c6 e (fun t h=>n (mkT K14 t) h) (a,b,()) h:=by kernel_rfl
noncomputable def r6(e:Cx)(Jn:Q14)(Jr:Q14)(t:P13)(h:AH):Res:=c6 e Jr t h
theorem r6_eq(e Jn Jr):∀ t h,X e (C [3]) (mkT K13 t) h (jk K14 Jn) (exK []) (jk K14 Jr)=r6 e Jn Jr t h
| (a,b,_),h=>nd_chain' (X:=C [3]) (Y:=(C [4])) 1 (L:=K14) (S:=fun J=>c6 e J (a,b,()) h) (Q:=Jr) (by kernel_rfl) (fun n=>c6_eq e a b h n (exK []) (jk K14 Jr)) (fun t h=>by kernel_rfl)
noncomputable def c2(e:Cx)(J:Q6):Q4
| (a,b,c,d,_),h =>
 J (a,b,c,d,0,()) h
theorem c2_eq(e a b c d h n ee r):Y e (peel 1 (C [2,0])).1 (mkT K4 (a,b,c,d,())) h n ee r=c2 e (fun t h=>n (mkT K6 t) h) (a,b,c,d,()) h:=by kernel_rfl
noncomputable def c4(e:Cx)(J:Q6):Q6
| (a,b,c,d,f,_),h =>
 J (a,b,c,d,(wr .i64 (f+1)),()) h
theorem c4_eq(e a b c d f h n ee r):Y e (peel 1 (C [2,5])).1 (mkT K6 (a,b,c,d,f,())) h n ee r=c4 e (fun t h=>n (mkT K6 t) h) (a,b,c,d,f,()) h:=by kernel_rfl
noncomputable def r4(e:Cx)(Jn:Q6)(J0:Q13)(Jr:Q14)(t:P6)(h:AH):Res:=c4 e Jn t h
theorem r4_eq(e Jn J0 Jr):∀ t h,X e (C [2,5]) (mkT K6 t) h (jk K6 Jn) (exK [(0,(jk K13 J0))]) (jk K14 Jr)=r4 e Jn J0 Jr t h
| (a,b,c,d,f,_),h=>nd_chain' (X:=C [2,5]) (Y:=.skip) 1 (L:=K6) (S:=fun J=>c4 e J (a,b,c,d,f,()) h) (Q:=Jn) (by kernel_rfl) (fun n=>c4_eq e a b c d f h n (exK [(0,(jk K13 J0))]) (jk K14 Jr)) (fun t h=>by kernel_rfl)
noncomputable def c5(e:Cx)(J:Q6):Q6
| (a,b,c,d,f,_),h =>
 bV (ixS 1 a (wr .i64 (b+f))) h fun g i =>
 bI .u8 (ld g i) i fun j k =>
 bV (ixA 32 1 d f) k fun l m =>
 bS (st 1 l (.int .u8 j) m) fun o =>
 J (a,b,c,d,f,()) o
theorem c5_eq(e a b c d f h n ee r):Y e (peel 1 (C [2,4,1])).1 (mkT K6 (a,b,c,d,f,())) h n ee r=c5 e (fun t h=>n (mkT K6 t) h) (a,b,c,d,f,()) h:=by kernel_rfl
noncomputable def r5(e:Cx)(Jn:Q6)(J0:Q13)(Jr:Q14)(t:P6)(h:AH):Res:=c5 e (r4 e Jn J0 Jr) t h
theorem r5_eq(e Jn J0 Jr):∀ t h,X e (C [2,4]) (mkT K6 t) h (jk K6 Jn) (exK [(0,(jk K13 J0))]) (jk K14 Jr)=r5 e Jn J0 Jr t h
| (c,d,f,g,i,_),h=>(nd_norm' (X:=(C [2,4])) (a:=C [2,4,0]) (b:=C [2,5]) (L:=K6) (by kernel_rfl) (by kernel_rfl) (by kernel_rfl) (SB:=(r4 e Jn J0 Jr)) (r4_eq e Jn J0 Jr) _ _).trans (nd_block' (X:=C [2,4,0]) (id:=1) (b:=C [2,4,1]) (by kernel_rfl) (nd_chain' (X:=C [2,4,1]) (Y:=.skip) 1 (L:=K6) (S:=fun J=>c5 e J (c,d,f,g,i,()) h) (Q:=(r4 e Jn J0 Jr)) (by kernel_rfl) (fun n=>c5_eq e c d f g i h n (exK [(1,(jk K6 (r4 e Jn J0 Jr))),(0,(jk K13 J0))]) (jk K14 Jr)) (fun t h=>by kernel_rfl)))
noncomputable def c3(e:Cx)(J:Q8):Q6
| (a,b,c,d,f,_),h =>
 J (a,b,c,d,f,(decide (f<32)),()) h
theorem c3_eq(e a b c d f h n ee r):Y e (peel 1 (C [2,3,0])).1 (mkT K6 (a,b,c,d,f,())) h n ee r=c3 e (fun t h=>n (mkT K8 t) h) (a,b,c,d,f,()) h:=by kernel_rfl
noncomputable def k3(e:Cx)(Jn:Q6)(J0:Q13)(Jr:Q14):Q8
| (a,b,c,d,f,g,_),h =>
 bif g then Jn (a,b,c,d,f,()) h else J0 (c,d,()) h
theorem k3_eq(e Jn J0 Jr):∀ t h,X e (C [2,3,1]) (mkT K8 t) h (jk K6 Jn) (exK [(0,(jk K13 J0))]) (jk K14 Jr)=k3 e Jn J0 Jr t h
| (c,d,f,g,i,j,_),h=>nd_cond' (X:=C [2,3,1]) (a:=C [2,3,1,0]) (b:=C [2,3,2]) (t:=j) (x:=.tmp 8) (by kernel_rfl) (by kernel_rfl) (by kernel_rfl) (by kernel_rfl)
noncomputable def l3(e:Cx)(Jn:Q6)(J0:Q13)(Jr:Q14)(t:P6)(h:AH):Res:=c3 e (k3 e (r5 e Jn J0 Jr) J0 Jr) t h
theorem l3_eq(e Jn J0 Jr):∀ t h,X e (C [2,3]) (mkT K6 t) h (jk K6 Jn) (exK [(0,(jk K13 J0))]) (jk K14 Jr)=l3 e Jn J0 Jr t h
| (c,d,f,g,i,_),h=>(nd_norm' (X:=(C [2,3])) (a:=C [2,3,0]) (b:=C [2,4]) (L:=K6) (by kernel_rfl) (by kernel_rfl) (by kernel_rfl) (SB:=(r5 e Jn J0 Jr)) (r5_eq e Jn J0 Jr) _ _).trans (nd_chain' (X:=C [2,3,0]) (Y:=(C [2,3,1])) 1 (L:=K8) (S:=fun J=>c3 e J (c,d,f,g,i,()) h) (Q:=(k3 e (r5 e Jn J0 Jr) J0 Jr)) (by kernel_rfl) (fun n=>c3_eq e c d f g i h n (exK [(0,(jk K13 J0))]) (jk K14 Jr)) (k3_eq e (r5 e Jn J0 Jr) J0 Jr))
noncomputable def k2(e:Cx)(Jn:Q13)(Jr:Q14)(t:P6)(h:AH):Res:=jaw (P6) e.F (fun t h n=>l3 e n Jn Jr t h) t h
theorem k2_eq(e Jn Jr):∀ t h,X e (C [2,1]) (mkT K6 t) h (jk K13 Jn) (exK []) (jk K14 Jr)=k2 e Jn Jr t h
| (a,c,d,f,g,_),h=>nd_block' (X:=C [2,1]) (id:=0) (b:=C [2,2]) (by kernel_rfl) ((nd_loop' (X:=C [2,2]) (b:=C [2,3]) (L:=K6) (by kernel_rfl) (by kernel_rfl) (SB:=fun n=>l3 e n Jn Jr) (fun n=>l3_eq e n Jn Jr) _ _).trans (by kernel_rfl))
noncomputable def k1(e:Cx)(Jn:Q14)(Jr:Q14)(t:P4)(h:AH):Res:=c2 e (k2 e (r6 e Jn Jr) Jr) t h
theorem k1_eq(e Jn Jr):∀ t h,X e (C [2]) (mkT K4 t) h (jk K14 Jn) (exK []) (jk K14 Jr)=k1 e Jn Jr t h
| (c,d,f,g,_),h=>(nd_norm' (X:=(C [2])) (a:=C [2,0]) (b:=C [3]) (L:=K13) (by kernel_rfl) (by kernel_rfl) (by kernel_rfl) (SB:=(r6 e Jn Jr)) (r6_eq e Jn Jr) _ _).trans (nd_chain' (X:=C [2,0]) (Y:=(C [2,1])) 1 (L:=K6) (S:=fun J=>c2 e J (c,d,f,g,()) h) (Q:=(k2 e (r6 e Jn Jr) Jr)) (by kernel_rfl) (fun n=>c2_eq e c d f g h n (exK []) (jk K14 Jr)) (k2_eq e (r6 e Jn Jr) Jr))
noncomputable def fn(e:Cx)(a:V)(b:Int)(h:AH):Res :=
 c0 e (k1 e ret ret) (a,b,()) h
theorem run(e:Cx)(a:V)(b:Int)(h:AH):execFn (cfgS e) (jbi lv) e.F nzbe [a,(.int .i64 b)] h=fn e a b h:=by
 refine (fn_eq (c:=cfgS e) (lv:=lv) (PP.funcs.getD 36 default) B (by kernel_rfl) (by kernel_rfl) (Nat.le_of_ble_eq_true (by kernel_rfl))).trans ?_
 rw [ret_eq]
 exact nd_chain' (X:=C [0]) (Y:=(C [2])) 2 (L:=K4) (S:=fun J=>c0 e J (a,b,()) h) (Q:=(k1 e ret ret)) (by kernel_rfl) (fun n=>c0_eq e a b h n (exK []) (jk K14 ret)) (k1_eq e ret ret)
end zbe
namespace zay
noncomputable def B:Code:=cBody (PP.funcs.getD 37 default)
abbrev K2:Slots:=[(0,.any),(1,.int .i64),(2,.int .i64)]
abbrev P2:=V×Int×Int×Unit
abbrev Q2:=P2→AH→Res
abbrev K4:Slots:=[(0,.any),(1,.int .i64),(2,.int .i64),(7,.int .u64)]
abbrev P4:=V×Int×Int×Int×Unit
abbrev Q4:=P4→AH→Res
abbrev K6:Slots:=[(7,.int .u64),(15,.any),(16,.int .i64),(17,.int .i64)]
abbrev P6:=Int×V×Int×Int×Unit
abbrev Q6:=P6→AH→Res
abbrev K8:Slots:=[(7,.int .u64),(15,.any),(16,.int .i64),(17,.int .i64),(18,.bool)]
abbrev P8:=Int×V×Int×Int×Bool×Unit
abbrev Q8:=P8→AH→Res
abbrev K10:Slots:=[(7,.int .u64),(9,.int .u8),(15,.any),(16,.int .i64),(17,.int .i64)]
abbrev P10:=Int×Int×V×Int×Int×Unit
abbrev Q10:=P10→AH→Res
abbrev K15:Slots:=[(7,.int .u64)]
abbrev P15:=Int×Unit
abbrev Q15:=P15→AH→Res
abbrev K16:Slots:=[(6,.int .u64)]
abbrev P16:=Int×Unit
abbrev Q16:=P16→AH→Res
noncomputable def lv:=lvT [(2,K2),(4,K4),(6,K6),(8,K8),(9,K6),(10,K10),(12,K6),(13,K6),(14,K6),(7,K6),(15,K15),(16,K16)]
abbrev KR:Slots:=[(6,.any)]
abbrev PR:=V×Unit
abbrev QR:=PR→AH→Res
noncomputable abbrev X (e:Cx):=exL (cfgS e) lv 28 e.F
noncomputable abbrev Y (e:Cx):=runL (cfgS e) lv 28 e.F
noncomputable abbrev C (p:List Nat):=cP p B
noncomputable def ret:QR
| (a,_),h=>finW [some a] h
theorem ret_eq(e:Cx):fin (cfgS e) (jbi lv) (PP.funcs.getD 37 default)=jk KR ret:=by kernel_rfl
noncomputable def c0(e:Cx)(J:Q4):V×Int×Int×Unit→AH→Res
| (a,b,c,_),h =>
 J (a,b,c,0,()) h
theorem c0_eq(e a b c h n ee r):Y e (peel 2 (C [0])).1 (iniT [a,(.int .i64 b),(.int .i64 c)] 0 .leaf) h n ee r=c0 e (fun t h=>n (mkT K4 t) h) (a,b,c,()) h:=by kernel_rfl
noncomputable def c7(e:Cx)(J:Q16):Q15
| (a,_),h =>
 J (a,()) h
theorem c7_eq(e a h n ee r):Y e (peel 1 (C [3])).1 (mkT K15 (a,())) h n ee r=c7 e (fun t h=>n (mkT K16 t) h) (a,()) h:=by kernel_rfl
noncomputable def r7(e:Cx)(Jn:QR)(Jr:QR)(t:P15)(h:AH):Res:=c7 e (fun | (a,_),b=>Jr ((.int .u64 a),()) b) t h
theorem r7_eq(e Jn Jr):∀ t h,X e (C [3]) (mkT K15 t) h (jk KR Jn) (exK []) (jk KR Jr)=r7 e Jn Jr t h
| (a,_),h=>nd_chain' (X:=C [3]) (Y:=(C [4])) 1 (L:=K16) (S:=fun J=>c7 e J (a,()) h) (Q:=fun | (b,_),c=>Jr ((.int .u64 b),()) c) (by kernel_rfl) (fun n=>c7_eq e a h n (exK []) (jk KR Jr)) (fun | (b,_),c=>by kernel_rfl)
noncomputable def c2(e:Cx)(J:Q6):Q4
| (a,b,c,d,_),h =>
 bV (slS 1 a (some (.int .i64 b)) (some (.int .i64 (wr .i64 (b+c)))) none) h fun f g =>
 bI .i64 (lenS f) g fun i j =>
 J (d,f,i,0,()) j
theorem c2_eq(e a b c d h n ee r):Y e (peel 1 (C [2,0])).1 (mkT K4 (a,b,c,d,())) h n ee r=c2 e (fun t h=>n (mkT K6 t) h) (a,b,c,d,()) h:=by kernel_rfl
noncomputable def c3(e:Cx)(J:Q8):Q6
| (a,b,c,d,_),h =>
 J (a,b,c,d,(decide (d<c)),()) h
theorem c3_eq(e a b c d h n ee r):Y e (peel 1 (C [2,3])).1 (mkT K6 (a,b,c,d,())) h n ee r=c3 e (fun t h=>n (mkT K8 t) h) (a,b,c,d,()) h:=by kernel_rfl
noncomputable def c6(e:Cx)(J:Q6):Q6
| (a,b,c,d,_),h =>
 J (a,b,c,(wr .i64 (d+1)),()) h
theorem c6_eq(e a b c d h n ee r):Y e (peel 1 (C [2,6])).1 (mkT K6 (a,b,c,d,())) h n ee r=c6 e (fun t h=>n (mkT K6 t) h) (a,b,c,d,()) h:=by kernel_rfl
noncomputable def r6(e:Cx)(Jn:Q6)(J0:Q15)(Jr:QR)(t:P6)(h:AH):Res:=c6 e Jn t h
theorem r6_eq(e Jn J0 Jr):∀ t h,X e (C [2,6]) (mkT K6 t) h (jk K6 Jn) (exK [(0,(jk K15 J0))]) (jk KR Jr)=r6 e Jn J0 Jr t h
| (a,b,c,d,_),h=>nd_chain' (X:=C [2,6]) (Y:=.skip) 1 (L:=K6) (S:=fun J=>c6 e J (a,b,c,d,()) h) (Q:=Jn) (by kernel_rfl) (fun n=>c6_eq e a b c d h n (exK [(0,(jk K15 J0))]) (jk KR Jr)) (fun t h=>by kernel_rfl)
noncomputable def c4(e:Cx)(J:Q6):Q6
| (a,b,c,d,_),h =>
 bV (ixS 1 b d) h fun f g =>
 bI .u8 (ld f g) g fun i j =>
 let k:Int:=(wr .u64 ((ishl .u64 a 8)+(wr .u64 i)))
 J (k,b,c,d,()) j
theorem c4_eq(e a b c d h n ee r):Y e (peel 2 (C [2,5,1])).1 (mkT K6 (a,b,c,d,())) h n ee r=c4 e (fun t h=>n (mkT K6 t) h) (a,b,c,d,()) h:=by kernel_rfl
noncomputable def r4(e:Cx)(Jn:Q6)(J0:Q15)(Jr:QR)(t:P6)(h:AH):Res:=c4 e (r6 e Jn J0 Jr) t h
theorem r4_eq(e Jn J0 Jr):∀ t h,X e (C [2,5]) (mkT K6 t) h (jk K6 Jn) (exK [(0,(jk K15 J0))]) (jk KR Jr)=r4 e Jn J0 Jr t h
| (c,d,f,g,_),h=>(nd_norm' (X:=(C [2,5])) (a:=C [2,5,0]) (b:=C [2,6]) (L:=K6) (by kernel_rfl) (by kernel_rfl) (by kernel_rfl) (SB:=(r6 e Jn J0 Jr)) (r6_eq e Jn J0 Jr) _ _).trans (nd_block' (X:=C [2,5,0]) (id:=1) (b:=C [2,5,1]) (by kernel_rfl) (nd_chain' (X:=C [2,5,1]) (Y:=.skip) 2 (L:=K6) (S:=fun J=>c4 e J (c,d,f,g,()) h) (Q:=(r6 e Jn J0 Jr)) (by kernel_rfl) (fun n=>c4_eq e c d f g h n (exK [(1,(jk K6 (r6 e Jn J0 Jr))),(0,(jk K15 J0))]) (jk KR Jr)) (fun t h=>by kernel_rfl)))
noncomputable def k3(e:Cx)(Jn:Q6)(J0:Q15)(Jr:QR):Q8
| (a,b,c,d,f,_),h =>
 bif f then (r4 e Jn J0 Jr) (a,b,c,d,()) h else J0 (a,()) h
theorem k3_eq(e Jn J0 Jr):∀ t h,X e (C [2,4]) (mkT K8 t) h (jk K6 Jn) (exK [(0,(jk K15 J0))]) (jk KR Jr)=k3 e Jn J0 Jr t h
| (c,d,f,g,i,_),h=>(nd_norm' (X:=(C [2,4])) (a:=C [2,4,0]) (b:=C [2,5]) (L:=K6) (by kernel_rfl) (by kernel_rfl) (by kernel_rfl) (SB:=(r4 e Jn J0 Jr)) (r4_eq e Jn J0 Jr) _ _).trans (nd_cond' (X:=C [2,4,0]) (a:=C [2,4,0,0]) (b:=C [2,4,1]) (t:=i) (x:=.tmp 18) (by kernel_rfl) (by kernel_rfl) (by kernel_rfl) (by kernel_rfl))
noncomputable def l3(e:Cx)(Jn:Q6)(J0:Q15)(Jr:QR)(t:P6)(h:AH):Res:=c3 e (k3 e Jn J0 Jr) t h
theorem l3_eq(e Jn J0 Jr):∀ t h,X e (C [2,3]) (mkT K6 t) h (jk K6 Jn) (exK [(0,(jk K15 J0))]) (jk KR Jr)=l3 e Jn J0 Jr t h
| (a,b,c,d,_),h=>nd_chain' (X:=C [2,3]) (Y:=(C [2,4])) 1 (L:=K8) (S:=fun J=>c3 e J (a,b,c,d,()) h) (Q:=(k3 e Jn J0 Jr)) (by kernel_rfl) (fun n=>c3_eq e a b c d h n (exK [(0,(jk K15 J0))]) (jk KR Jr)) (k3_eq e Jn J0 Jr)
noncomputable def k2(e:Cx)(Jn:Q15)(Jr:QR)(t:P6)(h:AH):Res:=jaw (P6) e.F (fun t h n=>l3 e n Jn Jr t h) t h
theorem k2_eq(e Jn Jr):∀ t h,X e (C [2,1]) (mkT K6 t) h (jk K15 Jn) (exK []) (jk KR Jr)=k2 e Jn Jr t h
| (a,c,d,f,_),h=>nd_block' (X:=C [2,1]) (id:=0) (b:=C [2,2]) (by kernel_rfl) ((nd_loop' (X:=C [2,2]) (b:=C [2,3]) (L:=K6) (by kernel_rfl) (by kernel_rfl) (SB:=fun n=>l3 e n Jn Jr) (fun n=>l3_eq e n Jn Jr) _ _).trans (by kernel_rfl))
noncomputable def k1(e:Cx)(Jn:QR)(Jr:QR)(t:P4)(h:AH):Res:=c2 e (k2 e (r7 e Jn Jr) Jr) t h
theorem k1_eq(e Jn Jr):∀ t h,X e (C [2]) (mkT K4 t) h (jk KR Jn) (exK []) (jk KR Jr)=k1 e Jn Jr t h
| (c,d,f,g,_),h=>(nd_norm' (X:=(C [2])) (a:=C [2,0]) (b:=C [3]) (L:=K15) (by kernel_rfl) (by kernel_rfl) (by kernel_rfl) (SB:=(r7 e Jn Jr)) (r7_eq e Jn Jr) _ _).trans (nd_chain' (X:=C [2,0]) (Y:=(C [2,1])) 1 (L:=K6) (S:=fun J=>c2 e J (c,d,f,g,()) h) (Q:=(k2 e (r7 e Jn Jr) Jr)) (by kernel_rfl) (fun n=>c2_eq e c d f g h n (exK []) (jk KR Jr)) (k2_eq e (r7 e Jn Jr) Jr))
noncomputable def fn(e:Cx)(a:V)(b:Int)(c:Int)(h:AH):Res :=
 c0 e (k1 e ret ret) (a,b,c,()) h
theorem run(e:Cx)(a:V)(b:Int)(d:Int)(h:AH):execFn (cfgS e) (jbi lv) e.F nzay [a,(.int .i64 b),(.int .i64 d)] h=fn e a b d h:=by
 refine (fn_eq (c:=cfgS e) (lv:=lv) (PP.funcs.getD 37 default) B (by kernel_rfl) (by kernel_rfl) (Nat.le_of_ble_eq_true (by kernel_rfl))).trans ?_
 rw [ret_eq]
 exact nd_chain' (X:=C [0]) (Y:=(C [2])) 2 (L:=K4) (S:=fun J=>c0 e J (a,b,d,()) h) (Q:=(k1 e ret ret)) (by kernel_rfl) (fun n=>c0_eq e a b d h n (exK []) (jk KR ret)) (k1_eq e ret ret)
end zay
namespace zas
noncomputable def B:Code:=cBody (PP.funcs.getD 38 default)
abbrev K2:Slots:=[(2,.any),(3,.any)]
abbrev P2:=V×V×Unit
abbrev Q2:=P2→AH→Res
abbrev K4:Slots:=[(2,.any),(3,.any),(6,.int .i64)]
abbrev P4:=V×V×Int×Unit
abbrev Q4:=P4→AH→Res
abbrev K6:Slots:=[(2,.any),(3,.any),(6,.int .i64),(7,.bool)]
abbrev P6:=V×V×Int×Bool×Unit
abbrev Q6:=P6→AH→Res
abbrev K8:Slots:=[(2,.any),(3,.any),(5,.int .i64),(6,.int .i64)]
abbrev P8:=V×V×Int×Int×Unit
abbrev Q8:=P8→AH→Res
abbrev K10:Slots:=[(2,.any),(3,.any),(5,.int .i64),(6,.int .i64),(15,.bool)]
abbrev P10:=V×V×Int×Int×Bool×Unit
abbrev Q10:=P10→AH→Res
abbrev K12:Slots:=[(4,.int .i64)]
abbrev P12:=Int×Unit
abbrev Q12:=P12→AH→Res
abbrev K14:Slots:=[(2,.any),(3,.any),(6,.int .i64),(22,.bool)]
abbrev P14:=V×V×Int×Bool×Unit
abbrev Q14:=P14→AH→Res
abbrev K19:Slots:=[]
abbrev P19:=Unit
abbrev Q19:=P19→AH→Res
noncomputable def lv:=lvT [(2,K2),(4,K4),(6,K6),(7,K4),(8,K8),(10,K10),(12,K12),(13,K8),(14,K14),(16,K12),(17,K4),(18,K4),(5,K4),(19,K19),(20,K12)]
abbrev KR:Slots:=[(4,.any)]
abbrev PR:=V×Unit
abbrev QR:=PR→AH→Res
noncomputable abbrev X (e:Cx):=exL (cfgS e) lv 24 e.F
noncomputable abbrev Y (e:Cx):=runL (cfgS e) lv 24 e.F
noncomputable abbrev C (p:List Nat):=cP p B
noncomputable def ret:QR
| (a,_),h=>finW [some a] h
theorem ret_eq(e:Cx):fin (cfgS e) (jbi lv) (PP.funcs.getD 38 default)=jk KR ret:=by kernel_rfl
noncomputable def c0(e:Cx)(J:Q2):List V×List V×Unit→AH→Res
| (a,b,_),h =>
 cV (absBox jab (.agg a) h) fun c d =>
 cV (absBox jab (.agg b) d) fun f g =>
 J (c,f,()) g
theorem c0_eq(e a b h n ee r):Y e (peel 1 (C [0])).1 (iniT [(.agg a),(.agg b)] 0 .leaf) h n ee r=c0 e (fun t h=>n (mkT K2 t) h) (a,b,()) h:=by kernel_rfl
noncomputable def c9(e:Cx)(J:Q12):Q19
| (_),h =>
 J (0,()) h
theorem c9_eq(e h n ee r):Y e (peel 1 (C [2])).1 (mkT K19 (())) h n ee r=c9 e (fun t h=>n (mkT K12 t) h) (()) h:=by kernel_rfl
noncomputable def r9(e:Cx)(Jn:QR)(Jr:QR):Q19
| (_),h =>
 c9 e (fun | (a,_),b=>Jr ((.int .i64 a),()) b) (()) h
theorem r9_eq(e Jn Jr):∀ t h,X e (C [2]) (mkT K19 t) h (jk KR Jn) (exK []) (jk KR Jr)=r9 e Jn Jr t h
| (_),h=>nd_chain' (X:=C [2]) (Y:=(C [3])) 1 (L:=K12) (S:=fun J=>c9 e J (()) h) (Q:=fun | (a,_),b=>Jr ((.int .i64 a),()) b) (by kernel_rfl) (fun n=>c9_eq e h n (exK []) (jk KR Jr)) (fun | (a,_),b=>by kernel_rfl)
noncomputable def c1(e:Cx)(J:Q4):Q2
| (a,b,_),h =>
 J (a,b,0,()) h
theorem c1_eq(e a b h n ee r):Y e (peel 1 (C [1,0])).1 (mkT K2 (a,b,())) h n ee r=c1 e (fun t h=>n (mkT K4 t) h) (a,b,()) h:=by kernel_rfl
noncomputable def c2(e:Cx)(J:Q6):Q4
| (a,b,c,_),h =>
 J (a,b,c,(decide (c<32)),()) h
theorem c2_eq(e a b c h n ee r):Y e (peel 1 (C [1,3])).1 (mkT K4 (a,b,c,())) h n ee r=c2 e (fun t h=>n (mkT K6 t) h) (a,b,c,()) h:=by kernel_rfl
noncomputable def c8(e:Cx)(J:Q4):Q4
| (a,b,c,_),h =>
 J (a,b,(wr .i64 (c+1)),()) h
theorem c8_eq(e a b c h n ee r):Y e (peel 1 (C [1,6])).1 (mkT K4 (a,b,c,())) h n ee r=c8 e (fun t h=>n (mkT K4 t) h) (a,b,c,()) h:=by kernel_rfl
noncomputable def r8(e:Cx)(Jn:Q4)(J0:Q19)(Jr:QR)(t:P4)(h:AH):Res:=c8 e Jn t h
theorem r8_eq(e Jn J0 Jr):∀ t h,X e (C [1,6]) (mkT K4 t) h (jk K4 Jn) (exK [(0,(jk K19 J0))]) (jk KR Jr)=r8 e Jn J0 Jr t h
| (a,b,c,_),h=>nd_chain' (X:=C [1,6]) (Y:=.skip) 1 (L:=K4) (S:=fun J=>c8 e J (a,b,c,()) h) (Q:=Jn) (by kernel_rfl) (fun n=>c8_eq e a b c h n (exK [(0,(jk K19 J0))]) (jk KR Jr)) (fun t h=>by kernel_rfl)
noncomputable def c3(e:Cx)(J:Q8):Q4
| (a,b,c,_),h =>
 J (a,b,c,c,()) h
theorem c3_eq(e a b c h n ee r):Y e (peel 1 (C [1,5,1])).1 (mkT K4 (a,b,c,())) h n ee r=c3 e (fun t h=>n (mkT K8 t) h) (a,b,c,()) h:=by kernel_rfl
noncomputable def c6(e:Cx)(J:Q14):Q8
| (a,b,c,d,_),h =>
 bV (ixA 32 1 a c) h fun f g =>
 bI .u8 (ld f g) g fun i j =>
 bV (ixA 32 1 b c) j fun k l =>
 bI .u8 (ld k l) l fun m o =>
 J (a,b,d,(decide (i>m)),()) o
theorem c6_eq(e a b c d h n ee r):Y e (peel 1 (C [1,5,3])).1 (mkT K8 (a,b,c,d,())) h n ee r=c6 e (fun t h=>n (mkT K14 t) h) (a,b,c,d,()) h:=by kernel_rfl
noncomputable def c7(e:Cx)(J:Q12):Q14
| (a,b,c,d,_),h =>
 J (1,()) h
theorem c7_eq(e a b c d h n ee r):Y e (peel 1 (C [1,5,4,0])).1 (mkT K14 (a,b,c,d,())) h n ee r=c7 e (fun t h=>n (mkT K12 t) h) (a,b,c,d,()) h:=by kernel_rfl
noncomputable def k6(e:Cx)(Jn:Q4)(J1:Q4)(J0:Q19)(Jr:QR):Q14
| (a,b,c,d,_),h =>
 bif d then c7 e (fun | (f,_),g=>Jr ((.int .i64 f),()) g) (a,b,c,d,()) h else Jn (a,b,c,()) h
theorem k6_eq(e Jn J1 J0 Jr):∀ t h,X e (C [1,5,4]) (mkT K14 t) h (jk K4 Jn) (exK [(1,(jk K4 J1)),(0,(jk K19 J0))]) (jk KR Jr)=k6 e Jn J1 J0 Jr t h
| (c,d,f,g,_),h=>nd_cond' (X:=C [1,5,4]) (a:=C [1,5,4,0]) (b:=C [1,5,5]) (t:=g) (x:=.tmp 22) (by kernel_rfl) (by kernel_rfl) (nd_chain' (X:=C [1,5,4,0]) (Y:=(C [1,5,4,1])) 1 (L:=K12) (S:=fun J=>c7 e J (c,d,f,g,()) h) (Q:=fun | (i,_),j=>Jr ((.int .i64 i),()) j) (by kernel_rfl) (fun n=>c7_eq e c d f g h n (exK [(1,(jk K4 J1)),(0,(jk K19 J0))]) (jk KR Jr)) (fun | (i,_),j=>by kernel_rfl)) (by kernel_rfl)
noncomputable def r6(e:Cx)(Jn:Q4)(J1:Q4)(J0:Q19)(Jr:QR)(t:P8)(h:AH):Res:=c6 e (k6 e Jn J1 J0 Jr) t h
theorem r6_eq(e Jn J1 J0 Jr):∀ t h,X e (C [1,5,3]) (mkT K8 t) h (jk K4 Jn) (exK [(1,(jk K4 J1)),(0,(jk K19 J0))]) (jk KR Jr)=r6 e Jn J1 J0 Jr t h
| (a,b,c,d,_),h=>nd_chain' (X:=C [1,5,3]) (Y:=(C [1,5,4])) 1 (L:=K14) (S:=fun J=>c6 e J (a,b,c,d,()) h) (Q:=(k6 e Jn J1 J0 Jr)) (by kernel_rfl) (fun n=>c6_eq e a b c d h n (exK [(1,(jk K4 J1)),(0,(jk K19 J0))]) (jk KR Jr)) (k6_eq e Jn J1 J0 Jr)
noncomputable def c4(e:Cx)(J:Q10):Q8
| (a,b,c,d,_),h =>
 bV (ixA 32 1 a c) h fun f g =>
 bI .u8 (ld f g) g fun i j =>
 bV (ixA 32 1 b c) j fun k l =>
 bI .u8 (ld k l) l fun m o =>
 J (a,b,c,d,(decide (i<m)),()) o
theorem c4_eq(e a b c d h n ee r):Y e (peel 1 (C [1,5,2,0])).1 (mkT K8 (a,b,c,d,())) h n ee r=c4 e (fun t h=>n (mkT K10 t) h) (a,b,c,d,()) h:=by kernel_rfl
noncomputable def c5(e:Cx)(J:Q12):Q10
| (a,b,c,d,f,_),h =>
 J ((-1),()) h
theorem c5_eq(e a b c d f h n ee r):Y e (peel 1 (C [1,5,2,1,0])).1 (mkT K10 (a,b,c,d,f,())) h n ee r=c5 e (fun t h=>n (mkT K12 t) h) (a,b,c,d,f,()) h:=by kernel_rfl
noncomputable def k4(e:Cx)(Jn:Q8)(J1:Q4)(J0:Q19)(Jr:QR):Q10
| (a,b,c,d,f,_),h =>
 bif f then c5 e (fun | (g,_),i=>Jr ((.int .i64 g),()) i) (a,b,c,d,f,()) h else Jn (a,b,c,d,()) h
theorem k4_eq(e Jn J1 J0 Jr):∀ t h,X e (C [1,5,2,1]) (mkT K10 t) h (jk K8 Jn) (exK [(1,(jk K4 J1)),(0,(jk K19 J0))]) (jk KR Jr)=k4 e Jn J1 J0 Jr t h
| (c,d,f,g,i,_),h=>nd_cond' (X:=C [1,5,2,1]) (a:=C [1,5,2,1,0]) (b:=C [1,5,2,2]) (t:=i) (x:=.tmp 15) (by kernel_rfl) (by kernel_rfl) (nd_chain' (X:=C [1,5,2,1,0]) (Y:=(C [1,5,2,1,1])) 1 (L:=K12) (S:=fun J=>c5 e J (c,d,f,g,i,()) h) (Q:=fun | (j,_),k=>Jr ((.int .i64 j),()) k) (by kernel_rfl) (fun n=>c5_eq e c d f g i h n (exK [(1,(jk K4 J1)),(0,(jk K19 J0))]) (jk KR Jr)) (fun | (j,_),k=>by kernel_rfl)) (by kernel_rfl)
noncomputable def k3(e:Cx)(Jn:Q4)(J1:Q4)(J0:Q19)(Jr:QR)(t:P8)(h:AH):Res:=c4 e (k4 e (r6 e Jn J1 J0 Jr) J1 J0 Jr) t h
theorem k3_eq(e Jn J1 J0 Jr):∀ t h,X e (C [1,5,2]) (mkT K8 t) h (jk K4 Jn) (exK [(1,(jk K4 J1)),(0,(jk K19 J0))]) (jk KR Jr)=k3 e Jn J1 J0 Jr t h
| (c,d,f,g,_),h=>(nd_norm' (X:=(C [1,5,2])) (a:=C [1,5,2,0]) (b:=C [1,5,3]) (L:=K8) (by kernel_rfl) (by kernel_rfl) (by kernel_rfl) (SB:=(r6 e Jn J1 J0 Jr)) (r6_eq e Jn J1 J0 Jr) _ _).trans (nd_chain' (X:=C [1,5,2,0]) (Y:=(C [1,5,2,1])) 1 (L:=K10) (S:=fun J=>c4 e J (c,d,f,g,()) h) (Q:=(k4 e (r6 e Jn J1 J0 Jr) J1 J0 Jr)) (by kernel_rfl) (fun n=>c4_eq e c d f g h n (exK [(1,(jk K4 J1)),(0,(jk K19 J0))]) (jk KR Jr)) (k4_eq e (r6 e Jn J1 J0 Jr) J1 J0 Jr))
noncomputable def r3(e:Cx)(Jn:Q4)(J0:Q19)(Jr:QR)(t:P4)(h:AH):Res:=c3 e (k3 e (r8 e Jn J0 Jr) (r8 e Jn J0 Jr) J0 Jr) t h
theorem r3_eq(e Jn J0 Jr):∀ t h,X e (C [1,5]) (mkT K4 t) h (jk K4 Jn) (exK [(0,(jk K19 J0))]) (jk KR Jr)=r3 e Jn J0 Jr t h
| (c,d,f,_),h=>(nd_norm' (X:=(C [1,5])) (a:=C [1,5,0]) (b:=C [1,6]) (L:=K4) (by kernel_rfl) (by kernel_rfl) (by kernel_rfl) (SB:=(r8 e Jn J0 Jr)) (r8_eq e Jn J0 Jr) _ _).trans (nd_block' (X:=C [1,5,0]) (id:=1) (b:=C [1,5,1]) (by kernel_rfl) (nd_chain' (X:=C [1,5,1]) (Y:=(C [1,5,2])) 1 (L:=K8) (S:=fun J=>c3 e J (c,d,f,()) h) (Q:=(k3 e (r8 e Jn J0 Jr) (r8 e Jn J0 Jr) J0 Jr)) (by kernel_rfl) (fun n=>c3_eq e c d f h n (exK [(1,(jk K4 (r8 e Jn J0 Jr))),(0,(jk K19 J0))]) (jk KR Jr)) (k3_eq e (r8 e Jn J0 Jr) (r8 e Jn J0 Jr) J0 Jr)))
noncomputable def k2(e:Cx)(Jn:Q4)(J0:Q19)(Jr:QR):Q6
| (a,b,c,d,_),h =>
 bif d then (r3 e Jn J0 Jr) (a,b,c,()) h else J0 (()) h
theorem k2_eq(e Jn J0 Jr):∀ t h,X e (C [1,4]) (mkT K6 t) h (jk K4 Jn) (exK [(0,(jk K19 J0))]) (jk KR Jr)=k2 e Jn J0 Jr t h
| (c,d,f,g,_),h=>(nd_norm' (X:=(C [1,4])) (a:=C [1,4,0]) (b:=C [1,5]) (L:=K4) (by kernel_rfl) (by kernel_rfl) (by kernel_rfl) (SB:=(r3 e Jn J0 Jr)) (r3_eq e Jn J0 Jr) _ _).trans (nd_cond' (X:=C [1,4,0]) (a:=C [1,4,0,0]) (b:=C [1,4,1]) (t:=g) (x:=.tmp 7) (by kernel_rfl) (by kernel_rfl) (by kernel_rfl) (by kernel_rfl))
noncomputable def l2(e:Cx)(Jn:Q4)(J0:Q19)(Jr:QR)(t:P4)(h:AH):Res:=c2 e (k2 e Jn J0 Jr) t h
theorem l2_eq(e Jn J0 Jr):∀ t h,X e (C [1,3]) (mkT K4 t) h (jk K4 Jn) (exK [(0,(jk K19 J0))]) (jk KR Jr)=l2 e Jn J0 Jr t h
| (a,b,c,_),h=>nd_chain' (X:=C [1,3]) (Y:=(C [1,4])) 1 (L:=K6) (S:=fun J=>c2 e J (a,b,c,()) h) (Q:=(k2 e Jn J0 Jr)) (by kernel_rfl) (fun n=>c2_eq e a b c h n (exK [(0,(jk K19 J0))]) (jk KR Jr)) (k2_eq e Jn J0 Jr)
noncomputable def k1(e:Cx)(Jn:Q19)(Jr:QR)(t:P4)(h:AH):Res:=jaw (P4) e.F (fun t h n=>l2 e n Jn Jr t h) t h
theorem k1_eq(e Jn Jr):∀ t h,X e (C [1,1]) (mkT K4 t) h (jk K19 Jn) (exK []) (jk KR Jr)=k1 e Jn Jr t h
| (a,c,d,_),h=>nd_block' (X:=C [1,1]) (id:=0) (b:=C [1,2]) (by kernel_rfl) ((nd_loop' (X:=C [1,2]) (b:=C [1,3]) (L:=K4) (by kernel_rfl) (by kernel_rfl) (SB:=fun n=>l2 e n Jn Jr) (fun n=>l2_eq e n Jn Jr) _ _).trans (by kernel_rfl))
noncomputable def k0(e:Cx)(Jn:QR)(Jr:QR)(t:P2)(h:AH):Res:=c1 e (k1 e (r9 e Jn Jr) Jr) t h
theorem k0_eq(e Jn Jr):∀ t h,X e (C [1]) (mkT K2 t) h (jk KR Jn) (exK []) (jk KR Jr)=k0 e Jn Jr t h
| (c,d,_),h=>(nd_norm' (X:=(C [1])) (a:=C [1,0]) (b:=C [2]) (L:=K19) (by kernel_rfl) (by kernel_rfl) (by kernel_rfl) (SB:=(r9 e Jn Jr)) (r9_eq e Jn Jr) _ _).trans (nd_chain' (X:=C [1,0]) (Y:=(C [1,1])) 1 (L:=K4) (S:=fun J=>c1 e J (c,d,()) h) (Q:=(k1 e (r9 e Jn Jr) Jr)) (by kernel_rfl) (fun n=>c1_eq e c d h n (exK []) (jk KR Jr)) (k1_eq e (r9 e Jn Jr) Jr))
noncomputable def fn(e:Cx)(a:List V)(b:List V)(h:AH):Res :=
 c0 e (k0 e ret ret) (a,b,()) h
theorem run(e:Cx)(a:List V)(b:List V)(h:AH):execFn (cfgS e) (jbi lv) e.F nzas [(.agg a),(.agg b)] h=fn e a b h:=by
 refine (fn_eq (c:=cfgS e) (lv:=lv) (PP.funcs.getD 38 default) B (by kernel_rfl) (by kernel_rfl) (Nat.le_of_ble_eq_true (by kernel_rfl))).trans ?_
 rw [ret_eq]
 exact nd_chain' (X:=C [0]) (Y:=(C [1])) 1 (L:=K2) (S:=fun J=>c0 e J (a,b,()) h) (Q:=(k0 e ret ret)) (by kernel_rfl) (fun n=>c0_eq e a b h n (exK []) (jk KR ret)) (k0_eq e ret ret)
end zas
namespace zbj
noncomputable def B:Code:=cBody (PP.funcs.getD 39 default)
abbrev K2:Slots:=[(0,.any),(2,.any),(4,.any)]
abbrev P2:=V×V×V×Unit
abbrev Q2:=P2→AH→Res
abbrev K4:Slots:=[(0,.any),(2,.any),(4,.any),(8,.int .i64)]
abbrev P4:=V×V×V×Int×Unit
abbrev Q4:=P4→AH→Res
abbrev K6:Slots:=[(0,.any),(2,.any),(4,.any),(8,.int .i64),(9,.int .i64),(10,.int .i64)]
abbrev P6:=V×V×V×Int×Int×Int×Unit
abbrev Q6:=P6→AH→Res
abbrev K8:Slots:=[(0,.any),(2,.any),(4,.any),(8,.int .i64),(9,.int .i64),(10,.int .i64),(17,.bool)]
abbrev P8:=V×V×V×Int×Int×Int×Bool×Unit
abbrev Q8:=P8→AH→Res
abbrev K10:Slots:=[(0,.any),(2,.any),(4,.any),(8,.int .i64),(9,.int .i64),(10,.int .i64),(11,.int .i64)]
abbrev P10:=V×V×V×Int×Int×Int×Int×Unit
abbrev Q10:=P10→AH→Res
abbrev K12:Slots:=[(0,.any),(2,.any),(4,.any),(8,.int .i64),(9,.int .i64),(10,.int .i64),(11,.int .i64),(31,.bool)]
abbrev P12:=V×V×V×Int×Int×Int×Int×Bool×Unit
abbrev Q12:=P12→AH→Res
abbrev K17:Slots:=[(0,.any),(2,.any),(4,.any),(8,.int .i64),(9,.int .i64)]
abbrev P17:=V×V×V×Int×Int×Unit
abbrev Q17:=P17→AH→Res
abbrev K18:Slots:=[(6,.int .i64),(7,.bool)]
abbrev P18:=Int×Bool×Unit
abbrev Q18:=P18→AH→Res
noncomputable def lv:=lvT [(2,K2),(4,K4),(6,K6),(8,K8),(9,K6),(10,K10),(12,K12),(16,K6),(14,K6),(7,K6),(17,K17),(18,K18)]
abbrev KR:Slots:=[(6,.any),(7,.any)]
abbrev PR:=V×V×Unit
abbrev QR:=PR→AH→Res
noncomputable abbrev X (e:Cx):=exL (cfgS e) lv 49 e.F
noncomputable abbrev Y (e:Cx):=runL (cfgS e) lv 49 e.F
noncomputable abbrev C (p:List Nat):=cP p B
noncomputable def ret:QR
| (a,b,_),h=>finW [some a,some b] h
theorem ret_eq(e:Cx):fin (cfgS e) (jbi lv) (PP.funcs.getD 39 default)=jk KR ret:=by kernel_rfl
noncomputable def c0(e:Cx)(J:Q6):V×List V×V×Unit→AH→Res
| (a,b,c,_),h =>
 cV (absBox jab (.agg b) h) fun d f =>
 bI .i64 (lenS a) f fun g i =>
 J (a,c,d,g,0,g,()) i
theorem c0_eq(e a b c h n ee r):Y e (peel 3 (C [0])).1 (iniT [a,(.agg b),c] 0 .leaf) h n ee r=c0 e (fun t h=>n (mkT K6 t) h) (a,b,c,()) h:=by kernel_rfl
noncomputable def c8(e:Cx)(J:Q18):Q17
| (a,b,c,d,f,_),h =>
 bif (decide (f<d)) then
  bV (ixS 34 a f) h fun g i =>
  bA (ldA 34 g i) i fun j k =>
  bA (ldA 32 c k) k fun l m =>
  cI .i64 (dyn PP e.C e.X b [(.agg j),(.agg l)] m) fun o p =>
  J (f,(bif true then (o==0) else false),()) p
 else
  J (f,false,()) h
theorem c8_eq(e a b c d f h n ee r):Y e (peel 1 (C [4])).1 (mkT K17 (a,b,c,d,f,())) h n ee r=c8 e (fun t h=>n (mkT K18 t) h) (a,b,c,d,f,()) h:=by kernel_rfl
noncomputable def r8(e:Cx)(Jn:QR)(Jr:QR)(t:P17)(h:AH):Res:=c8 e (fun | (a,b,_),c=>Jr ((.int .i64 a),(.bool b),()) c) t h
theorem r8_eq(e Jn Jr):∀ t h,X e (C [4]) (mkT K17 t) h (jk KR Jn) (exK []) (jk KR Jr)=r8 e Jn Jr t h
| (a,b,c,d,f,_),h=>nd_chain' (X:=C [4]) (Y:=(C [5])) 1 (L:=K18) (S:=fun J=>c8 e J (a,b,c,d,f,()) h) (Q:=fun | (g,i,_),j=>Jr ((.int .i64 g),(.bool i),()) j) (by kernel_rfl) (fun n=>c8_eq e a b c d f h n (exK []) (jk KR Jr)) (fun | (g,i,_),j=>by kernel_rfl)
noncomputable def c4(e:Cx)(J:Q12):Q6
| (a,b,c,d,f,g,_),h =>
 let i:Int:=(ishr .u64 (wr .u64 (wr .i64 (f+g))) 1)
 bV (ixS 34 a (wr .i64 i)) h fun j k =>
 bA (ldA 34 j k) k fun l m =>
 bA (ldA 32 c m) m fun o p =>
 cI .i64 (dyn PP e.C e.X b [(.agg l),(.agg o)] p) fun q s =>
 J (a,b,c,d,f,g,(wr .i64 i),(decide (q<0)),()) s
theorem c4_eq(e a b c d f g h n ee r):Y e (peel 2 (C [3,4])).1 (mkT K6 (a,b,c,d,f,g,())) h n ee r=c4 e (fun t h=>n (mkT K12 t) h) (a,b,c,d,f,g,()) h:=by kernel_rfl
noncomputable def c6(e:Cx)(J:Q6):Q12
| (a,b,c,d,f,g,i,j,_),h =>
 J (a,b,c,d,(wr .i64 (i+1)),g,()) h
theorem c6_eq(e a b c d f g i j h n ee r):Y e (peel 1 (C [3,6,0])).1 (mkT K12 (a,b,c,d,f,g,i,j,())) h n ee r=c6 e (fun t h=>n (mkT K6 t) h) (a,b,c,d,f,g,i,j,()) h:=by kernel_rfl
noncomputable def c7(e:Cx)(J:Q6):Q12
| (a,b,c,d,f,g,i,j,_),h =>
 J (a,b,c,d,f,i,()) h
theorem c7_eq(e a b c d f g i j h n ee r):Y e (peel 1 (C [3,7])).1 (mkT K12 (a,b,c,d,f,g,i,j,())) h n ee r=c7 e (fun t h=>n (mkT K6 t) h) (a,b,c,d,f,g,i,j,()) h:=by kernel_rfl
noncomputable def k5(e:Cx)(Jn:Q6)(J1:Q6)(J0:Q17)(Jr:QR):Q12
| (a,b,c,d,f,g,i,j,_),h =>
 bif j then c6 e Jn (a,b,c,d,f,g,i,j,()) h else c7 e Jn (a,b,c,d,f,g,i,j,()) h
theorem k5_eq(e Jn J1 J0 Jr):∀ t h,X e (C [3,6]) (mkT K12 t) h (jk K6 Jn) (exK [(1,(jk K6 J1)),(0,(jk K17 J0))]) (jk KR Jr)=k5 e Jn J1 J0 Jr t h
| (c,d,f,g,i,j,k,l,_),h=>nd_cond' (X:=C [3,6]) (a:=C [3,6,0]) (b:=C [3,7]) (t:=l) (x:=.tmp 31) (by kernel_rfl) (by kernel_rfl) (nd_chain' (X:=C [3,6,0]) (Y:=.skip) 1 (L:=K6) (S:=fun J=>c6 e J (c,d,f,g,i,j,k,l,()) h) (Q:=Jn) (by kernel_rfl) (fun n=>c6_eq e c d f g i j k l h n (exK [(1,(jk K6 J1)),(0,(jk K17 J0))]) (jk KR Jr)) (fun t h=>by kernel_rfl)) (nd_chain' (X:=C [3,7]) (Y:=.skip) 1 (L:=K6) (S:=fun J=>c7 e J (c,d,f,g,i,j,k,l,()) h) (Q:=Jn) (by kernel_rfl) (fun n=>c7_eq e c d f g i j k l h n (exK [(1,(jk K6 J1)),(0,(jk K17 J0))]) (jk KR Jr)) (fun t h=>by kernel_rfl))
noncomputable def r4(e:Cx)(Jn:Q6)(J0:Q17)(Jr:QR)(t:P6)(h:AH):Res:=c4 e (k5 e Jn Jn J0 Jr) t h
theorem r4_eq(e Jn J0 Jr):∀ t h,X e (C [3,3]) (mkT K6 t) h (jk K6 Jn) (exK [(0,(jk K17 J0))]) (jk KR Jr)=r4 e Jn J0 Jr t h
| (a,c,d,f,g,i,_),h=>nd_block' (X:=C [3,3]) (id:=1) (b:=C [3,4]) (by kernel_rfl) (nd_chain' (X:=C [3,4]) (Y:=(C [3,6])) 2 (L:=K12) (S:=fun J=>c4 e J (a,c,d,f,g,i,()) h) (Q:=(k5 e Jn Jn J0 Jr)) (by kernel_rfl) (fun n=>c4_eq e a c d f g i h n (exK [(1,(jk K6 Jn)),(0,(jk K17 J0))]) (jk KR Jr)) (k5_eq e Jn Jn J0 Jr))
noncomputable def c3(e:Cx)(J:Q8):Q6
| (a,b,c,d,f,g,_),h =>
 J (a,b,c,d,f,g,(decide (f<g)),()) h
theorem c3_eq(e a b c d f g h n ee r):Y e (peel 1 (C [3,2,0])).1 (mkT K6 (a,b,c,d,f,g,())) h n ee r=c3 e (fun t h=>n (mkT K8 t) h) (a,b,c,d,f,g,()) h:=by kernel_rfl
noncomputable def k3(e:Cx)(Jn:Q6)(J0:Q17)(Jr:QR):Q8
| (a,b,c,d,f,g,i,_),h =>
 bif i then Jn (a,b,c,d,f,g,()) h else J0 (a,b,c,d,f,()) h
theorem k3_eq(e Jn J0 Jr):∀ t h,X e (C [3,2,1]) (mkT K8 t) h (jk K6 Jn) (exK [(0,(jk K17 J0))]) (jk KR Jr)=k3 e Jn J0 Jr t h
| (c,d,f,g,i,j,k,_),h=>nd_cond' (X:=C [3,2,1]) (a:=C [3,2,1,0]) (b:=C [3,2,2]) (t:=k) (x:=.tmp 17) (by kernel_rfl) (by kernel_rfl) (by kernel_rfl) (by kernel_rfl)
noncomputable def l3(e:Cx)(Jn:Q6)(J0:Q17)(Jr:QR)(t:P6)(h:AH):Res:=c3 e (k3 e (r4 e Jn J0 Jr) J0 Jr) t h
theorem l3_eq(e Jn J0 Jr):∀ t h,X e (C [3,2]) (mkT K6 t) h (jk K6 Jn) (exK [(0,(jk K17 J0))]) (jk KR Jr)=l3 e Jn J0 Jr t h
| (c,d,f,g,i,j,_),h=>(nd_norm' (X:=(C [3,2])) (a:=C [3,2,0]) (b:=C [3,3]) (L:=K6) (by kernel_rfl) (by kernel_rfl) (by kernel_rfl) (SB:=(r4 e Jn J0 Jr)) (r4_eq e Jn J0 Jr) _ _).trans (nd_chain' (X:=C [3,2,0]) (Y:=(C [3,2,1])) 1 (L:=K8) (S:=fun J=>c3 e J (c,d,f,g,i,j,()) h) (Q:=(k3 e (r4 e Jn J0 Jr) J0 Jr)) (by kernel_rfl) (fun n=>c3_eq e c d f g i j h n (exK [(0,(jk K17 J0))]) (jk KR Jr)) (k3_eq e (r4 e Jn J0 Jr) J0 Jr))
noncomputable def k2(e:Cx)(Jn:QR)(Jr:QR)(t:P6)(h:AH):Res:=jaw (P6) e.F (fun t h n=>l3 e n (r8 e Jn Jr) Jr t h) t h
theorem k2_eq(e Jn Jr):∀ t h,X e (C [3]) (mkT K6 t) h (jk KR Jn) (exK []) (jk KR Jr)=k2 e Jn Jr t h
| (c,d,f,g,i,j,_),h=>(nd_norm' (X:=(C [3])) (a:=C [3,0]) (b:=C [4]) (L:=K17) (by kernel_rfl) (by kernel_rfl) (by kernel_rfl) (SB:=(r8 e Jn Jr)) (r8_eq e Jn Jr) _ _).trans (nd_block' (X:=C [3,0]) (id:=0) (b:=C [3,1]) (by kernel_rfl) ((nd_loop' (X:=C [3,1]) (b:=C [3,2]) (L:=K6) (by kernel_rfl) (by kernel_rfl) (SB:=fun n=>l3 e n (r8 e Jn Jr) Jr) (fun n=>l3_eq e n (r8 e Jn Jr) Jr) _ _).trans (by kernel_rfl)))
noncomputable def fn(e:Cx)(a:V)(b:List V)(c:V)(h:AH):Res :=
 c0 e (k2 e ret ret) (a,b,c,()) h
theorem run(e:Cx)(a:V)(b:List V)(d:V)(h:AH):execFn (cfgS e) (jbi lv) e.F nzbj [a,(.agg b),d] h=fn e a b d h:=by
 refine (fn_eq (c:=cfgS e) (lv:=lv) (PP.funcs.getD 39 default) B (by kernel_rfl) (by kernel_rfl) (Nat.le_of_ble_eq_true (by kernel_rfl))).trans ?_
 rw [ret_eq]
 exact nd_chain' (X:=C [0]) (Y:=(C [3])) 3 (L:=K6) (S:=fun J=>c0 e J (a,b,d,()) h) (Q:=(k2 e ret ret)) (by kernel_rfl) (fun n=>c0_eq e a b d h n (exK []) (jk KR ret)) (k2_eq e ret ret)
end zbj
namespace zal
noncomputable def B:Code:=cBody (PP.funcs.getD 40 default)
abbrev K2:Slots:=[(2,.any),(3,.any)]
abbrev P2:=V×V×Unit
abbrev Q2:=P2→AH→Res
abbrev K4:Slots:=[(4,.int .i64)]
abbrev P4:=Int×Unit
abbrev Q4:=P4→AH→Res
noncomputable def lv:=lvT [(2,K2),(4,K4)]
abbrev KR:Slots:=[(4,.any)]
abbrev PR:=V×Unit
abbrev QR:=PR→AH→Res
noncomputable abbrev X (e:Cx):=exL (cfgS e) lv 9 e.F
noncomputable abbrev Y (e:Cx):=runL (cfgS e) lv 9 e.F
noncomputable abbrev C (p:List Nat):=cP p B
noncomputable def ret:QR
| (a,_),h=>finW [some a] h
theorem ret_eq(e:Cx):fin (cfgS e) (jbi lv) (PP.funcs.getD 40 default)=jk KR ret:=by kernel_rfl
noncomputable def c0(e:Cx)(J:Q4):List V×List V×Unit→AH→Res
| (a,b,_),h =>
 cV (absBox jak (.agg a) h) fun c d =>
 cV (absBox jab (.agg b) d) fun f g =>
 bV (fA 0 c) g fun i j =>
 bA (ldA 32 i j) j fun k l =>
 bA (ldA 32 f l) l fun m o =>
 cI .i64 (e.C nzbg [(.agg k),(.agg m)] o) fun p q =>
 J (p,()) q
theorem c0_eq(e a b h n ee r):Y e (peel 2 (C [0])).1 (iniT [(.agg a),(.agg b)] 0 .leaf) h n ee r=c0 e (fun t h=>n (mkT K4 t) h) (a,b,()) h:=by kernel_rfl
noncomputable def fn(e:Cx)(a:List V)(b:List V)(h:AH):Res :=
 c0 e (fun | (c,_),d=>ret ((.int .i64 c),()) d) (a,b,()) h
theorem run(e:Cx)(a:List V)(b:List V)(h:AH):execFn (cfgS e) (jbi lv) e.F nzal [(.agg a),(.agg b)] h=fn e a b h:=by
 refine (fn_eq (c:=cfgS e) (lv:=lv) (PP.funcs.getD 40 default) B (by kernel_rfl) (by kernel_rfl) (Nat.le_of_ble_eq_true (by kernel_rfl))).trans ?_
 rw [ret_eq]
 exact nd_chain' (X:=C [0]) (Y:=(C [2])) 2 (L:=K4) (S:=fun J=>c0 e J (a,b,()) h) (Q:=fun | (d,_),f=>ret ((.int .i64 d),()) f) (by kernel_rfl) (fun n=>c0_eq e a b h n (exK []) (jk KR ret)) (fun | (d,_),f=>by kernel_rfl)
end zal
namespace zbg
noncomputable def B:Code:=cBody (PP.funcs.getD 41 default)
abbrev K2:Slots:=[(2,.any),(3,.any)]
abbrev P2:=V×V×Unit
abbrev Q2:=P2→AH→Res
abbrev K4:Slots:=[(4,.int .i64)]
abbrev P4:=Int×Unit
abbrev Q4:=P4→AH→Res
noncomputable def lv:=lvT [(2,K2),(4,K4)]
abbrev KR:Slots:=[(4,.any)]
abbrev PR:=V×Unit
abbrev QR:=PR→AH→Res
noncomputable abbrev X (e:Cx):=exL (cfgS e) lv 8 e.F
noncomputable abbrev Y (e:Cx):=runL (cfgS e) lv 8 e.F
noncomputable abbrev C (p:List Nat):=cP p B
noncomputable def ret:QR
| (a,_),h=>finW [some a] h
theorem ret_eq(e:Cx):fin (cfgS e) (jbi lv) (PP.funcs.getD 41 default)=jk KR ret:=by kernel_rfl
noncomputable def c0(e:Cx)(J:Q4):List V×List V×Unit→AH→Res
| (a,b,_),h =>
 cV (absBox jab (.agg a) h) fun c d =>
 cV (absBox jab (.agg b) d) fun f g =>
 bV (slA 32 1 c none none none g) g fun i j =>
 bV (slA 32 1 f none none none j) j fun k l =>
 cI .i64 (e.C nzab [i,k] l) fun m o =>
 J (m,()) o
theorem c0_eq(e a b h n ee r):Y e (peel 2 (C [0])).1 (iniT [(.agg a),(.agg b)] 0 .leaf) h n ee r=c0 e (fun t h=>n (mkT K4 t) h) (a,b,()) h:=by kernel_rfl
noncomputable def fn(e:Cx)(a:List V)(b:List V)(h:AH):Res :=
 c0 e (fun | (c,_),d=>ret ((.int .i64 c),()) d) (a,b,()) h
theorem run(e:Cx)(a:List V)(b:List V)(h:AH):execFn (cfgS e) (jbi lv) e.F nzbg [(.agg a),(.agg b)] h=fn e a b h:=by
 refine (fn_eq (c:=cfgS e) (lv:=lv) (PP.funcs.getD 41 default) B (by kernel_rfl) (by kernel_rfl) (Nat.le_of_ble_eq_true (by kernel_rfl))).trans ?_
 rw [ret_eq]
 exact nd_chain' (X:=C [0]) (Y:=(C [2])) 2 (L:=K4) (S:=fun J=>c0 e J (a,b,()) h) (Q:=fun | (d,_),f=>ret ((.int .i64 d),()) f) (by kernel_rfl) (fun n=>c0_eq e a b h n (exK []) (jk KR ret)) (fun | (d,_),f=>by kernel_rfl)
end zbg
namespace zaz
noncomputable def B:Code:=cBody (PP.funcs.getD 42 default)
abbrev K2:Slots:=[(0,.any),(1,.int .u64),(2,.int .i64)]
abbrev P2:=V×Int×Int×Unit
abbrev Q2:=P2→AH→Res
abbrev K4:Slots:=[(0,.any),(1,.int .u64),(2,.int .i64),(7,.any)]
abbrev P4:=V×Int×Int×V×Unit
abbrev Q4:=P4→AH→Res
abbrev K6:Slots:=[(1,.int .u64),(2,.int .i64),(7,.any)]
abbrev P6:=Int×Int×V×Unit
abbrev Q6:=P6→AH→Res
abbrev K8:Slots:=[(1,.int .u64),(7,.any),(8,.int .i64)]
abbrev P8:=Int×V×Int×Unit
abbrev Q8:=P8→AH→Res
abbrev K10:Slots:=[(1,.int .u64),(7,.any),(8,.int .i64),(15,.bool)]
abbrev P10:=Int×V×Int×Bool×Unit
abbrev Q10:=P10→AH→Res
abbrev K15:Slots:=[(7,.any)]
abbrev P15:=V×Unit
abbrev Q15:=P15→AH→Res
abbrev K16:Slots:=[(6,.any)]
abbrev P16:=V×Unit
abbrev Q16:=P16→AH→Res
noncomputable def lv:=lvT [(2,K2),(4,K4),(6,K6),(8,K8),(10,K10),(13,K8),(14,K8),(11,K8),(12,K8),(9,K8),(15,K15),(16,K16)]
abbrev KR:Slots:=[(6,.any)]
abbrev PR:=V×Unit
abbrev QR:=PR→AH→Res
noncomputable abbrev X (e:Cx):=exL (cfgS e) lv 27 e.F
noncomputable abbrev Y (e:Cx):=runL (cfgS e) lv 27 e.F
noncomputable abbrev C (p:List Nat):=cP p B
noncomputable def ret:Q16
| (a,_),h=>finW [some a] h
theorem ret_eq(e:Cx):fin (cfgS e) (jbi lv) (PP.funcs.getD 42 default)=jk K16 ret:=by kernel_rfl
noncomputable def c0(e:Cx)(J:Q6):V×Int×Int×Unit→AH→Res
| (a,b,c,_),h =>
 cV (app 1 1 jai (.nilslice) a h) fun d f =>
 J (b,c,d,()) f
theorem c0_eq(e a b c h n ee r):Y e (peel 3 (C [0])).1 (iniT [a,(.int .u64 b),(.int .i64 c)] 0 .leaf) h n ee r=c0 e (fun t h=>n (mkT K6 t) h) (a,b,c,()) h:=by kernel_rfl
noncomputable def c7(e:Cx)(J:Q16):Q15
| (a,_),h =>
 J (a,()) h
theorem c7_eq(e a h n ee r):Y e (peel 1 (C [4])).1 (mkT K15 (a,())) h n ee r=c7 e (fun t h=>n (mkT K16 t) h) (a,()) h:=by kernel_rfl
noncomputable def r7(e:Cx)(Jn:Q16)(Jr:Q16)(t:P15)(h:AH):Res:=c7 e Jr t h
theorem r7_eq(e Jn Jr):∀ t h,X e (C [4]) (mkT K15 t) h (jk K16 Jn) (exK []) (jk K16 Jr)=r7 e Jn Jr t h
| (a,_),h=>nd_chain' (X:=C [4]) (Y:=(C [5])) 1 (L:=K16) (S:=fun J=>c7 e J (a,()) h) (Q:=Jr) (by kernel_rfl) (fun n=>c7_eq e a h n (exK []) (jk K16 Jr)) (fun t h=>by kernel_rfl)
noncomputable def c3(e:Cx)(J:Q8):Q6
| (a,b,c,_),h =>
 J (a,c,(wr .i64 (b-1)),()) h
theorem c3_eq(e a b c h n ee r):Y e (peel 1 (C [3,0])).1 (mkT K6 (a,b,c,())) h n ee r=c3 e (fun t h=>n (mkT K8 t) h) (a,b,c,()) h:=by kernel_rfl
noncomputable def c5(e:Cx)(J:Q8):Q8
| (a,b,c,_),h =>
 J (a,b,(wr .i64 (c-1)),()) h
theorem c5_eq(e a b c h n ee r):Y e (peel 1 (C [3,5])).1 (mkT K8 (a,b,c,())) h n ee r=c5 e (fun t h=>n (mkT K8 t) h) (a,b,c,()) h:=by kernel_rfl
noncomputable def r5(e:Cx)(Jn:Q8)(J0:Q15)(Jr:Q16)(t:P8)(h:AH):Res:=c5 e Jn t h
theorem r5_eq(e Jn J0 Jr):∀ t h,X e (C [3,5]) (mkT K8 t) h (jk K8 Jn) (exK [(0,(jk K15 J0))]) (jk K16 Jr)=r5 e Jn J0 Jr t h
| (a,b,c,_),h=>nd_chain' (X:=C [3,5]) (Y:=.skip) 1 (L:=K8) (S:=fun J=>c5 e J (a,b,c,()) h) (Q:=Jn) (by kernel_rfl) (fun n=>c5_eq e a b c h n (exK [(0,(jk K15 J0))]) (jk K16 Jr)) (fun t h=>by kernel_rfl)
noncomputable def c6(e:Cx)(J:Q8):Q8
| (a,b,c,_),h =>
 bI .u64 (if (wr .i64 (8*c))<0 then none else some (.int .u64 (ishr .u64 a (wr .i64 (8*c))))) h fun d f =>
 cV (bsl 1 1 [(0,1,(.int .u8 (wr .u8 d)))] [.int .u8 0] jai f) fun g i =>
 cV (app 1 1 jai b g i) fun j k =>
 J (a,j,c,()) k
theorem c6_eq(e a b c h n ee r):Y e (peel 1 (C [3,4,1])).1 (mkT K8 (a,b,c,())) h n ee r=c6 e (fun t h=>n (mkT K8 t) h) (a,b,c,()) h:=by kernel_rfl
noncomputable def r6(e:Cx)(Jn:Q8)(J0:Q15)(Jr:Q16)(t:P8)(h:AH):Res:=c6 e (r5 e Jn J0 Jr) t h
theorem r6_eq(e Jn J0 Jr):∀ t h,X e (C [3,4]) (mkT K8 t) h (jk K8 Jn) (exK [(0,(jk K15 J0))]) (jk K16 Jr)=r6 e Jn J0 Jr t h
| (c,d,f,_),h=>(nd_norm' (X:=(C [3,4])) (a:=C [3,4,0]) (b:=C [3,5]) (L:=K8) (by kernel_rfl) (by kernel_rfl) (by kernel_rfl) (SB:=(r5 e Jn J0 Jr)) (r5_eq e Jn J0 Jr) _ _).trans (nd_block' (X:=C [3,4,0]) (id:=1) (b:=C [3,4,1]) (by kernel_rfl) (nd_chain' (X:=C [3,4,1]) (Y:=.skip) 1 (L:=K8) (S:=fun J=>c6 e J (c,d,f,()) h) (Q:=(r5 e Jn J0 Jr)) (by kernel_rfl) (fun n=>c6_eq e c d f h n (exK [(1,(jk K8 (r5 e Jn J0 Jr))),(0,(jk K15 J0))]) (jk K16 Jr)) (fun t h=>by kernel_rfl)))
noncomputable def c4(e:Cx)(J:Q10):Q8
| (a,b,c,_),h =>
 J (a,b,c,(decide (c≥0)),()) h
theorem c4_eq(e a b c h n ee r):Y e (peel 1 (C [3,3,0])).1 (mkT K8 (a,b,c,())) h n ee r=c4 e (fun t h=>n (mkT K10 t) h) (a,b,c,()) h:=by kernel_rfl
noncomputable def k4(e:Cx)(Jn:Q8)(J0:Q15)(Jr:Q16):Q10
| (a,b,c,d,_),h =>
 bif d then Jn (a,b,c,()) h else J0 (b,()) h
theorem k4_eq(e Jn J0 Jr):∀ t h,X e (C [3,3,1]) (mkT K10 t) h (jk K8 Jn) (exK [(0,(jk K15 J0))]) (jk K16 Jr)=k4 e Jn J0 Jr t h
| (c,d,f,g,_),h=>nd_cond' (X:=C [3,3,1]) (a:=C [3,3,1,0]) (b:=C [3,3,2]) (t:=g) (x:=.tmp 15) (by kernel_rfl) (by kernel_rfl) (by kernel_rfl) (by kernel_rfl)
noncomputable def l4(e:Cx)(Jn:Q8)(J0:Q15)(Jr:Q16)(t:P8)(h:AH):Res:=c4 e (k4 e (r6 e Jn J0 Jr) J0 Jr) t h
theorem l4_eq(e Jn J0 Jr):∀ t h,X e (C [3,3]) (mkT K8 t) h (jk K8 Jn) (exK [(0,(jk K15 J0))]) (jk K16 Jr)=l4 e Jn J0 Jr t h
| (c,d,f,_),h=>(nd_norm' (X:=(C [3,3])) (a:=C [3,3,0]) (b:=C [3,4]) (L:=K8) (by kernel_rfl) (by kernel_rfl) (by kernel_rfl) (SB:=(r6 e Jn J0 Jr)) (r6_eq e Jn J0 Jr) _ _).trans (nd_chain' (X:=C [3,3,0]) (Y:=(C [3,3,1])) 1 (L:=K10) (S:=fun J=>c4 e J (c,d,f,()) h) (Q:=(k4 e (r6 e Jn J0 Jr) J0 Jr)) (by kernel_rfl) (fun n=>c4_eq e c d f h n (exK [(0,(jk K15 J0))]) (jk K16 Jr)) (k4_eq e (r6 e Jn J0 Jr) J0 Jr))
noncomputable def k3(e:Cx)(Jn:Q15)(Jr:Q16)(t:P8)(h:AH):Res:=jaw (P8) e.F (fun t h n=>l4 e n Jn Jr t h) t h
theorem k3_eq(e Jn Jr):∀ t h,X e (C [3,1]) (mkT K8 t) h (jk K15 Jn) (exK []) (jk K16 Jr)=k3 e Jn Jr t h
| (a,c,d,_),h=>nd_block' (X:=C [3,1]) (id:=0) (b:=C [3,2]) (by kernel_rfl) ((nd_loop' (X:=C [3,2]) (b:=C [3,3]) (L:=K8) (by kernel_rfl) (by kernel_rfl) (SB:=fun n=>l4 e n Jn Jr) (fun n=>l4_eq e n Jn Jr) _ _).trans (by kernel_rfl))
noncomputable def k2(e:Cx)(Jn:Q16)(Jr:Q16)(t:P6)(h:AH):Res:=c3 e (k3 e (r7 e Jn Jr) Jr) t h
theorem k2_eq(e Jn Jr):∀ t h,X e (C [3]) (mkT K6 t) h (jk K16 Jn) (exK []) (jk K16 Jr)=k2 e Jn Jr t h
| (c,d,f,_),h=>(nd_norm' (X:=(C [3])) (a:=C [3,0]) (b:=C [4]) (L:=K15) (by kernel_rfl) (by kernel_rfl) (by kernel_rfl) (SB:=(r7 e Jn Jr)) (r7_eq e Jn Jr) _ _).trans (nd_chain' (X:=C [3,0]) (Y:=(C [3,1])) 1 (L:=K8) (S:=fun J=>c3 e J (c,d,f,()) h) (Q:=(k3 e (r7 e Jn Jr) Jr)) (by kernel_rfl) (fun n=>c3_eq e c d f h n (exK []) (jk K16 Jr)) (k3_eq e (r7 e Jn Jr) Jr))
noncomputable def fn(e:Cx)(a:V)(b:Int)(c:Int)(h:AH):Res :=
 c0 e (k2 e ret ret) (a,b,c,()) h
theorem run(e:Cx)(a:V)(b:Int)(d:Int)(h:AH):execFn (cfgS e) (jbi lv) e.F nzaz [a,(.int .u64 b),(.int .i64 d)] h=fn e a b d h:=by
 refine (fn_eq (c:=cfgS e) (lv:=lv) (PP.funcs.getD 42 default) B (by kernel_rfl) (by kernel_rfl) (Nat.le_of_ble_eq_true (by kernel_rfl))).trans ?_
 rw [ret_eq]
 exact nd_chain' (X:=C [0]) (Y:=(C [3])) 3 (L:=K6) (S:=fun J=>c0 e J (a,b,d,()) h) (Q:=(k2 e ret ret)) (by kernel_rfl) (fun n=>c0_eq e a b d h n (exK []) (jk K16 ret)) (k2_eq e ret ret)
end zaz
end Go.Proofs.YtcmhoboglapbdaaDoor
