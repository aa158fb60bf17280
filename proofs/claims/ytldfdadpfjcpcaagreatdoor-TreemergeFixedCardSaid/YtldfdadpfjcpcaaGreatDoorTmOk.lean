/-
  The law: its run, by memos.
-/
import Derived.Test.YtldfdadpfjcpcaaGreatDoorMmC0
import Derived.Test.YtldfdadpfjcpcaaGreatDoorMmC1
import Derived.Test.YtldfdadpfjcpcaaGreatDoorMmC2
import Derived.Test.YtldfdadpfjcpcaaGreatDoorMmC3
import Derived.Test.YtldfdadpfjcpcaaGreatDoorMmC4
import Derived.Test.YtldfdadpfjcpcaaGreatDoorMmC5
import Derived.Test.YtldfdadpfjcpcaaGreatDoorMmC6
import Derived.Test.YtldfdadpfjcpcaaGreatDoorMmC7
import Derived.Test.YtldfdadpfjcpcaaGreatDoorMmLay
import Derived.Test.YtldfdadpfjcpcaaGreatDoorTmD0
import Derived.Test.YtldfdadpfjcpcaaGreatDoorTmR0
import Derived.Test.YtldfdadpfjcpcaaGreatDoorTmR1
import Derived.Test.YtldfdadpfjcpcaaGreatDoorTmR2
import Derived.Test.YtldfdadpfjcpcaaGreatDoorTmR3
import Derived.Test.YtldfdadpfjcpcaaGreatDoorTmR4
import Derived.Test.YtldfdadpfjcpcaaGreatDoorTmR5
import Derived.Test.YtldfdadpfjcpcaaGreatDoorTmR6
import Derived.Test.YtldfdadpfjcpcaaGreatDoorTmR7
import Derived.Test.YtldfdadpfjcpcaaGreatDoorTmR8
import Derived.Test.YtldfdadpfjcpcaaGreatDoorTmR9
import Derived.Test.YtldfdadpfjcpcaaGreatDoorTmR10
import Derived.Test.YtldfdadpfjcpcaaGreatDoorTmR11
import Derived.Test.YtldfdadpfjcpcaaGreatDoorTmR12
import Derived.Test.YtldfdadpfjcpcaaGreatDoorTmR13
set_option linter.unusedVariables false
set_option linter.unusedSimpArgs false
namespace Go.Proofs.YtldfdadpfjcpcaaGreatDoor
open Go Ev
theorem good_parts : good = part0 ++ (part1 ++ (part2 ++ (part3 ++ (part4 ++ (part5 ++ (part6 ++ (part7))))))) := by decide +kernel
theorem good_cert {f : Nat} (h : good.contains f = true) : certF f = true := by
  have hm : f ∈ good := by simpa using h
  rw [good_parts] at hm
  simp only [List.mem_append] at hm
  rcases hm with hm | hm | hm | hm | hm | hm | hm | hm
  · exact List.all_eq_true.1 part0_ok f hm
  · exact List.all_eq_true.1 part1_ok f hm
  · exact List.all_eq_true.1 part2_ok f hm
  · exact List.all_eq_true.1 part3_ok f hm
  · exact List.all_eq_true.1 part4_ok f hm
  · exact List.all_eq_true.1 part5_ok f hm
  · exact List.all_eq_true.1 part6_ok f hm
  · exact List.all_eq_true.1 part7_ok f hm
theorem env0_ok : env0.OK := ⟨by kernel_rfl, xOf_sound rfl xs_ok, xOf_astep xs_ok, fun f g h ρ h0 w args args2 v h2 _ hr hR hs => sortI_sound sorted_ats f g h ρ h0 w args args2 v h2 hr hR hs, fun f g h => sortI_step f g h, xq_ok fun _ => rfl, fun f fn code hg hf hc => certF_spec (good_cert hg) hf hc⟩
theorem gK1 : Tryz.prog.globalNamed "codicil/sha.k" = some 1 := by kernel_rfl
noncomputable def lenOf (g : Nat) : Nat := (bif Nat.beq g 1 then 64 else 0)
noncomputable def spot (g : Nat) : Spot := ⟨g, 0, lenOf g⟩
theorem gOf_tab (e : Nat → Nat) (g L : Nat) (h : gOf g = some L) : ∃ t, tabOf (tabs e) g = some t ∧ t.vs.length = L ∧ (spot g).cb = g ∧ (spot g).off = 0 := by
  unfold gOf at h
  cases hb0 : Nat.beq g 1 with
  | true =>
    rw [hb0] at h
    obtain rfl := Nat.eq_of_beq_eq_true hb0
    cases h; exact ⟨_, rfl, rfl, rfl, rfl⟩
  | false =>
    rw [hb0] at h
    cases h
theorem gOf_lt : ∀ g L, gOf g = some L → g < 11 := by
  intro g L h
  unfold gOf at h
  cases hb0 : Nat.beq g 1 with
  | true =>
    rw [hb0] at h
    obtain rfl := Nat.eq_of_beq_eq_true hb0
    decide
  | false =>
    rw [hb0] at h
    cases h
theorem tabs_fit {W : World} (h1 : Lib.TabIs Tryz.prog W "codicil/sha.k" .u32 tab1) : ∃ e : Nat → Nat, (∀ t ∈ tabs e, t.g < 11) ∧ ∀ t ∈ tabs e, t.Fits (spot t.g) W := by
  obtain ⟨e1, he1⟩ := tab_fits h1 gK1
  refine ⟨fun g => (bif Nat.beq g 1 then e1 else 0), ?_, ?_⟩
  · intro t ht
    simp only [tabs, List.mem_cons, List.not_mem_nil, or_false] at ht
    rcases ht with rfl
    · exact Nat.lt_of_sub_pos (by exact Nat.succ_pos 9)
  · intro t ht
    simp only [tabs, List.mem_cons, List.not_mem_nil, or_false] at ht
    rcases ht with rfl
    · exact he1
theorem k5 : MemoOK env0 11 m5 := .mk env0_ok gOf_lt jN s5 r5
theorem k6 : MemoOK env0 11 m6 := .mk env0_ok gOf_lt jN s6 r6
theorem k4 : MemoOK env0 11 m4 := .mk env0_ok gOf_lt (jC (allC k6 allN) (jC (allC k5 allN) jN)) s4 r4
theorem k3 : MemoOK env0 11 m3 := .mk env0_ok gOf_lt (jC (allC k4 allN) jN) s3 r3
theorem k9 : MemoOK env0 11 m9 := .mk env0_ok gOf_lt jN s9 r9
theorem k8 : MemoOK env0 11 m8 := .mk env0_ok gOf_lt (jC (allC k9 allN) jN) s8 r8
theorem k10 : MemoOK env0 11 m10 := .mk env0_ok gOf_lt jN s10 r10
theorem k7 : MemoOK env0 11 m7 := .mk env0_ok gOf_lt (jC (allC k8 allN) (jC (allC k10 allN) jN)) s7 r7
theorem k2 : MemoOK env0 11 m2 := .mk env0_ok gOf_lt (jC (allC k3 allN) (jC (allC k7 allN) jN)) s2 r2
theorem k11 : MemoOK env0 11 m11 := .mk env0_ok gOf_lt jN s11 r11
theorem k15 : MemoOK env0 11 m15 := .mk env0_ok gOf_lt jN s15 r15
theorem k14 : MemoOK env0 11 m14 := .mk env0_ok gOf_lt (jC (allC k15 allN) (jC (allC k5 allN) jN)) s14 r14
theorem k13 : MemoOK env0 11 m13 := .mk env0_ok gOf_lt (jC (allC k14 allN) jN) s13 r13
theorem k18 : MemoOK env0 11 m18 := .mk env0_ok gOf_lt jN s18 r18
theorem k17 : MemoOK env0 11 m17 := .mk env0_ok gOf_lt (jC (allC k18 allN) jN) s17 r17
theorem k19 : MemoOK env0 11 m19 := .mk env0_ok gOf_lt jN s19 r19
theorem k16 : MemoOK env0 11 m16 := .mk env0_ok gOf_lt (jC (allC k17 allN) (jC (allC k19 allN) jN)) s16 r16
theorem k12 : MemoOK env0 11 m12 := .mk env0_ok gOf_lt (jC (allC k13 allN) (jC (allC k16 allN) jN)) s12 r12
theorem k20 : MemoOK env0 11 m20 := .mk env0_ok gOf_lt jN s20 r20
theorem k1 : MemoOK env0 11 m1 := .mk env0_ok gOf_lt (jC (allC k2 (allC k12 allN)) (jC (allC k3 (allC k13 allN)) (jC (allC k11 (allC k20 allN)) jN))) s1 r1
theorem k23 : MemoOK env0 11 m23 := .mk env0_ok gOf_lt jN s23 r23
theorem k24 : MemoOK env0 11 m24 := .mk env0_ok gOf_lt jN s24 r24
theorem k25 : MemoOK env0 11 m25 := .mk env0_ok gOf_lt jN s25 r25
theorem k22 : MemoOK env0 11 m22 := .mk env0_ok gOf_lt (jC (allC k23 (allC k24 (allC k25 allN))) jN) s22 r22
theorem k27 : MemoOK env0 11 m27 := .mk env0_ok gOf_lt jN s27 r27
theorem k28 : MemoOK env0 11 m28 := .mk env0_ok gOf_lt jN s28 r28
theorem k26 : MemoOK env0 11 m26 := .mk env0_ok gOf_lt (jC (allC k23 (allC k27 (allC k28 allN))) jN) s26 r26
theorem k21 : MemoOK env0 11 m21 := .mk env0_ok gOf_lt (jC (allC k22 (allC k26 allN)) jN) s21 r21
theorem k29 : MemoOK env0 11 m29 := .mk env0_ok gOf_lt jN s29 r29
theorem k30 : MemoOK env0 11 m30 := .mk env0_ok gOf_lt jN s30 r30
theorem k31 : MemoOK env0 11 m31 := .mk env0_ok gOf_lt jN s31 r31
theorem k35 : MemoOK env0 11 m35 := .mk env0_ok gOf_lt jN s35 r35
theorem k34 : MemoOK env0 11 m34 := .mk env0_ok gOf_lt (jC (allC k35 allN) jN) s34 r34
theorem k33 : MemoOK env0 11 m33 := .mk env0_ok gOf_lt (jC (allC k34 allN) jN) s33 r33
theorem k38 : MemoOK env0 11 m38 := .mk env0_ok gOf_lt jN s38 r38
theorem k37 : MemoOK env0 11 m37 := .mk env0_ok gOf_lt (jC (allC k38 allN) jN) s37 r37
theorem k36 : MemoOK env0 11 m36 := .mk env0_ok gOf_lt (jC (allC k37 allN) jN) s36 r36
theorem k39 : MemoOK env0 11 m39 := .mk env0_ok gOf_lt (jC (allC k34 allN) jN) s39 r39
theorem k48 : MemoOK env0 11 m48 := .mk env0_ok gOf_lt jN s48 r48
theorem k49 : MemoOK env0 11 m49 := .mk env0_ok gOf_lt jN s49 r49
theorem k47 : MemoOK env0 11 m47 := .mk env0_ok gOf_lt (jC (allC k48 (allC k49 allN)) jN) s47 r47
theorem k46 : MemoOK env0 11 m46 := .mk env0_ok gOf_lt (jC (allC k47 allN) jN) s46 r46
theorem k50 : MemoOK env0 11 m50 := .mk env0_ok gOf_lt jN s50 r50
theorem k45 : MemoOK env0 11 m45 := .mk env0_ok gOf_lt (jC (allC k50 allN) (jC (allC k46 allN) jN)) s45 r45
theorem k44 : MemoOK env0 11 m44 := .mk env0_ok gOf_lt (jC (allC k45 allN) jN) s44 r44
theorem k43 : MemoOK env0 11 m43 := .mk env0_ok gOf_lt (jC (allC k3 allN) (jC (allC k22 (allC k26 allN)) (jC (allC k11 allN) (jC (allC k44 allN) jN)))) s43 r43
theorem k42 : MemoOK env0 11 m42 := .mk env0_ok gOf_lt (jC (allC k22 (allC k26 allN)) (jC (allC k11 allN) (jC (allC k43 allN) jN))) s42 r42
theorem k41 : MemoOK env0 11 m41 := .mk env0_ok gOf_lt (jC (allC k42 allN) jN) s41 r41
theorem k51 : MemoOK env0 11 m51 := .mk env0_ok gOf_lt (jC (allC k42 allN) jN) s51 r51
theorem k40 : MemoOK env0 11 m40 := .mk env0_ok gOf_lt (jC (allC k33 (allC k36 allN)) (jC (allC k41 (allC k51 allN)) jN)) s40 r40
theorem k53 : MemoOK env0 11 m53 := .mk env0_ok gOf_lt jN s53 r53
theorem k54 : MemoOK env0 11 m54 := .mk env0_ok gOf_lt jN s54 r54
theorem k52 : MemoOK env0 11 m52 := .mk env0_ok gOf_lt (jC (allC k33 (allC k39 allN)) (jC (allC k53 (allC k54 allN)) jN)) s52 r52
theorem k32 : MemoOK env0 11 m32 := .mk env0_ok gOf_lt (jC (allC k40 (allC k52 allN)) (jC (allC k33 (allC k36 (allC k39 allN))) jN)) s32 r32
theorem k56 : MemoOK env0 11 m56 := .mk env0_ok gOf_lt jN s56 r56
theorem k58 : MemoOK env0 11 m58 := .mk env0_ok gOf_lt (jC (allC k42 allN) jN) s58 r58
theorem k59 : MemoOK env0 11 m59 := .mk env0_ok gOf_lt jN s59 r59
theorem k57 : MemoOK env0 11 m57 := .mk env0_ok gOf_lt (jC (allC k33 (allC k56 allN)) (jC (allC k58 (allC k59 allN)) jN)) s57 r57
theorem k64 : MemoOK env0 11 m64 := .mk env0_ok gOf_lt (jC (allC k47 allN) jN) s64 r64
theorem k65 : MemoOK env0 11 m65 := .mk env0_ok gOf_lt jN s65 r65
theorem k63 : MemoOK env0 11 m63 := .mk env0_ok gOf_lt (jC (allC k65 allN) (jC (allC k64 allN) jN)) s63 r63
theorem k62 : MemoOK env0 11 m62 := .mk env0_ok gOf_lt (jC (allC k63 allN) jN) s62 r62
theorem k61 : MemoOK env0 11 m61 := .mk env0_ok gOf_lt (jC (allC k13 allN) (jC (allC k22 (allC k26 allN)) (jC (allC k20 allN) (jC (allC k62 allN) jN)))) s61 r61
theorem k60 : MemoOK env0 11 m60 := .mk env0_ok gOf_lt (jC (allC k22 (allC k26 allN)) (jC (allC k20 allN) (jC (allC k61 allN) jN))) s60 r60
theorem k55 : MemoOK env0 11 m55 := .mk env0_ok gOf_lt (jC (allC k52 (allC k57 allN)) (jC (allC k33 (allC k39 (allC k56 allN))) (jC (allC k60 allN) jN))) s55 r55
theorem k66 : MemoOK env0 11 m66 := .mk env0_ok gOf_lt jN s66 r66
theorem k0 : MemoOK env0 11 m0 := .mk env0_ok gOf_lt (jC (allC k29 (allC k30 (allC k31 (allC k66 allN)))) (jC (allC k32 (allC k55 allN)) (jC (allC k1 allN) (jC (allC k21 allN) jN)))) s0 r0
theorem k71 : MemoOK env0 11 m71 := .mk env0_ok gOf_lt jN s71 r71
theorem k72 : MemoOK env0 11 m72 := .mk env0_ok gOf_lt jN s72 r72
theorem k70 : MemoOK env0 11 m70 := .mk env0_ok gOf_lt (jC (allC k72 allN) (jC (allC k71 allN) jN)) s70 r70
theorem k69 : MemoOK env0 11 m69 := .mk env0_ok gOf_lt (jC (allC k70 allN) jN) s69 r69
theorem k75 : MemoOK env0 11 m75 := .mk env0_ok gOf_lt jN s75 r75
theorem k74 : MemoOK env0 11 m74 := .mk env0_ok gOf_lt (jC (allC k75 allN) jN) s74 r74
theorem k76 : MemoOK env0 11 m76 := .mk env0_ok gOf_lt jN s76 r76
theorem k73 : MemoOK env0 11 m73 := .mk env0_ok gOf_lt (jC (allC k74 allN) (jC (allC k76 allN) jN)) s73 r73
theorem k68 : MemoOK env0 11 m68 := .mk env0_ok gOf_lt (jC (allC k69 allN) (jC (allC k73 allN) jN)) s68 r68
theorem k77 : MemoOK env0 11 m77 := .mk env0_ok gOf_lt jN s77 r77
theorem k81 : MemoOK env0 11 m81 := .mk env0_ok gOf_lt jN s81 r81
theorem k80 : MemoOK env0 11 m80 := .mk env0_ok gOf_lt (jC (allC k81 allN) (jC (allC k71 allN) jN)) s80 r80
theorem k79 : MemoOK env0 11 m79 := .mk env0_ok gOf_lt (jC (allC k80 allN) jN) s79 r79
theorem k84 : MemoOK env0 11 m84 := .mk env0_ok gOf_lt jN s84 r84
theorem k83 : MemoOK env0 11 m83 := .mk env0_ok gOf_lt (jC (allC k84 allN) jN) s83 r83
theorem k85 : MemoOK env0 11 m85 := .mk env0_ok gOf_lt jN s85 r85
theorem k82 : MemoOK env0 11 m82 := .mk env0_ok gOf_lt (jC (allC k83 allN) (jC (allC k85 allN) jN)) s82 r82
theorem k78 : MemoOK env0 11 m78 := .mk env0_ok gOf_lt (jC (allC k79 allN) (jC (allC k82 allN) jN)) s78 r78
theorem k86 : MemoOK env0 11 m86 := .mk env0_ok gOf_lt jN s86 r86
theorem k67 : MemoOK env0 11 m67 := .mk env0_ok gOf_lt (jC (allC k68 (allC k78 allN)) (jC (allC k69 (allC k79 allN)) (jC (allC k77 (allC k86 allN)) jN))) s67 r67
theorem k89 : MemoOK env0 11 m89 := .mk env0_ok gOf_lt jN s89 r89
theorem k90 : MemoOK env0 11 m90 := .mk env0_ok gOf_lt jN s90 r90
theorem k88 : MemoOK env0 11 m88 := .mk env0_ok gOf_lt (jC (allC k23 (allC k89 (allC k90 allN))) jN) s88 r88
theorem k92 : MemoOK env0 11 m92 := .mk env0_ok gOf_lt jN s92 r92
theorem k93 : MemoOK env0 11 m93 := .mk env0_ok gOf_lt jN s93 r93
theorem k91 : MemoOK env0 11 m91 := .mk env0_ok gOf_lt (jC (allC k23 (allC k92 (allC k93 allN))) jN) s91 r91
theorem k87 : MemoOK env0 11 m87 := .mk env0_ok gOf_lt (jC (allC k88 (allC k91 allN)) jN) s87 r87
theorem k94 : MemoOK env0 11 m94 := .mk env0_ok gOf_lt jN s94 r94
theorem k95 : MemoOK env0 11 m95 := .mk env0_ok gOf_lt jN s95 r95
theorem k97 : MemoOK env0 11 m97 := .mk env0_ok gOf_lt (jC (allC k34 allN) jN) s97 r97
theorem k98 : MemoOK env0 11 m98 := .mk env0_ok gOf_lt (jC (allC k34 allN) jN) s98 r98
theorem k99 : MemoOK env0 11 m99 := .mk env0_ok gOf_lt (jC (allC k34 allN) jN) s99 r99
theorem k101 : MemoOK env0 11 m101 := .mk env0_ok gOf_lt jN s101 r101
theorem k102 : MemoOK env0 11 m102 := .mk env0_ok gOf_lt jN s102 r102
theorem k100 : MemoOK env0 11 m100 := .mk env0_ok gOf_lt (jC (allC k97 (allC k98 allN)) (jC (allC k101 (allC k102 allN)) jN)) s100 r100
theorem k104 : MemoOK env0 11 m104 := .mk env0_ok gOf_lt jN s104 r104
theorem k105 : MemoOK env0 11 m105 := .mk env0_ok gOf_lt jN s105 r105
theorem k103 : MemoOK env0 11 m103 := .mk env0_ok gOf_lt (jC (allC k97 (allC k99 allN)) (jC (allC k104 (allC k105 allN)) jN)) s103 r103
theorem k110 : MemoOK env0 11 m110 := .mk env0_ok gOf_lt (jC (allC k47 allN) jN) s110 r110
theorem k111 : MemoOK env0 11 m111 := .mk env0_ok gOf_lt jN s111 r111
theorem k109 : MemoOK env0 11 m109 := .mk env0_ok gOf_lt (jC (allC k111 allN) (jC (allC k110 allN) jN)) s109 r109
theorem k108 : MemoOK env0 11 m108 := .mk env0_ok gOf_lt (jC (allC k109 allN) jN) s108 r108
theorem k107 : MemoOK env0 11 m107 := .mk env0_ok gOf_lt (jC (allC k69 allN) (jC (allC k88 (allC k91 allN)) (jC (allC k77 allN) (jC (allC k108 allN) jN)))) s107 r107
theorem k106 : MemoOK env0 11 m106 := .mk env0_ok gOf_lt (jC (allC k88 (allC k91 allN)) (jC (allC k77 allN) (jC (allC k107 allN) jN))) s106 r106
theorem k116 : MemoOK env0 11 m116 := .mk env0_ok gOf_lt (jC (allC k47 allN) jN) s116 r116
theorem k117 : MemoOK env0 11 m117 := .mk env0_ok gOf_lt jN s117 r117
theorem k115 : MemoOK env0 11 m115 := .mk env0_ok gOf_lt (jC (allC k117 allN) (jC (allC k116 allN) jN)) s115 r115
theorem k114 : MemoOK env0 11 m114 := .mk env0_ok gOf_lt (jC (allC k115 allN) jN) s114 r114
theorem k113 : MemoOK env0 11 m113 := .mk env0_ok gOf_lt (jC (allC k79 allN) (jC (allC k88 (allC k91 allN)) (jC (allC k86 allN) (jC (allC k114 allN) jN)))) s113 r113
theorem k112 : MemoOK env0 11 m112 := .mk env0_ok gOf_lt (jC (allC k88 (allC k91 allN)) (jC (allC k86 allN) (jC (allC k113 allN) jN))) s112 r112
theorem k119 : MemoOK env0 11 m119 := .mk env0_ok gOf_lt jN s119 r119
theorem k120 : MemoOK env0 11 m120 := .mk env0_ok gOf_lt (jC (allC k119 allN) jN) s120 r120
theorem k122 : MemoOK env0 11 m122 := .mk env0_ok gOf_lt jN s122 r122
theorem k121 : MemoOK env0 11 m121 := .mk env0_ok gOf_lt (jC (allC k122 allN) jN) s121 r121
theorem k118 : MemoOK env0 11 m118 := .mk env0_ok gOf_lt (jC (allC k119 allN) (jC (allC k120 (allC k121 allN)) jN)) s118 r118
theorem k96 : MemoOK env0 11 m96 := .mk env0_ok gOf_lt (jC (allC k100 (allC k103 allN)) (jC (allC k79 allN) (jC (allC k97 (allC k98 (allC k99 allN))) (jC (allC k106 (allC k112 allN)) (jC (allC k118 allN) jN))))) s96 r96
theorem k125 : MemoOK env0 11 m125 := .mk env0_ok gOf_lt jN s125 r125
theorem k126 : MemoOK env0 11 m126 := .mk env0_ok gOf_lt (jC (allC k106 allN) jN) s126 r126
theorem k124 : MemoOK env0 11 m124 := .mk env0_ok gOf_lt (jC (allC k56 (allC k97 allN)) (jC (allC k125 (allC k126 allN)) jN)) s124 r124
theorem k128 : MemoOK env0 11 m128 := .mk env0_ok gOf_lt jN s128 r128
theorem k129 : MemoOK env0 11 m129 := .mk env0_ok gOf_lt (jC (allC k106 allN) jN) s129 r129
theorem k127 : MemoOK env0 11 m127 := .mk env0_ok gOf_lt (jC (allC k56 (allC k98 allN)) (jC (allC k128 (allC k129 allN)) jN)) s127 r127
theorem k131 : MemoOK env0 11 m131 := .mk env0_ok gOf_lt jN s131 r131
theorem k132 : MemoOK env0 11 m132 := .mk env0_ok gOf_lt (jC (allC k119 allN) jN) s132 r132
theorem k130 : MemoOK env0 11 m130 := .mk env0_ok gOf_lt (jC (allC k131 allN) (jC (allC k132 allN) jN)) s130 r130
theorem k123 : MemoOK env0 11 m123 := .mk env0_ok gOf_lt (jC (allC k124 (allC k127 allN)) (jC (allC k56 (allC k97 (allC k98 allN))) (jC (allC k106 allN) (jC (allC k130 allN) jN)))) s123 r123
theorem k134 : MemoOK env0 11 m134 := .mk env0_ok gOf_lt (jC (allC k34 allN) jN) s134 r134
theorem k136 : MemoOK env0 11 m136 := .mk env0_ok gOf_lt jN s136 r136
theorem k137 : MemoOK env0 11 m137 := .mk env0_ok gOf_lt jN s137 r137
theorem k135 : MemoOK env0 11 m135 := .mk env0_ok gOf_lt (jC (allC k97 (allC k134 allN)) (jC (allC k136 (allC k137 allN)) jN)) s135 r135
theorem k133 : MemoOK env0 11 m133 := .mk env0_ok gOf_lt (jC (allC k100 (allC k135 allN)) (jC (allC k97 (allC k98 (allC k134 allN))) (jC (allC k106 allN) jN))) s133 r133
theorem k138 : MemoOK env0 11 m138 := .mk env0_ok gOf_lt jN s138 r138
theorem k141 : MemoOK env0 11 m141 := .mk env0_ok gOf_lt (jC (allC k35 (allC k38 allN)) jN) s141 r141
theorem k140 : MemoOK env0 11 m140 := .mk env0_ok gOf_lt (jC (allC k141 allN) jN) s140 r140
theorem k143 : MemoOK env0 11 m143 := .mk env0_ok gOf_lt jN s143 r143
theorem k144 : MemoOK env0 11 m144 := .mk env0_ok gOf_lt (jC (allC k112 allN) jN) s144 r144
theorem k142 : MemoOK env0 11 m142 := .mk env0_ok gOf_lt (jC (allC k56 (allC k140 allN)) (jC (allC k143 (allC k144 allN)) jN)) s142 r142
theorem k139 : MemoOK env0 11 m139 := .mk env0_ok gOf_lt (jC (allC k124 (allC k142 allN)) (jC (allC k56 (allC k97 (allC k140 allN))) jN)) s139 r139
theorem k145 : MemoOK env0 11 m145 := .mk env0_ok gOf_lt (jC (allC k56 allN) jN) s145 r145
theorem k147 : MemoOK env0 11 m147 := .mk env0_ok gOf_lt (jC (allC k34 allN) jN) s147 r147
theorem k146 : MemoOK env0 11 m146 := .mk env0_ok gOf_lt (jC (allC k56 (allC k147 allN)) jN) s146 r146
theorem k148 : MemoOK env0 11 m148 := .mk env0_ok gOf_lt (jC (allC k124 allN) (jC (allC k56 (allC k97 allN)) jN)) s148 r148
theorem allTop : AllJ env0 11 [(4, [m0]), (6, [m94, m95, m138]), (7, [m96, m123, m133, m139, m145, m146, m148]), (9, [m67]), (10, [m87])] := (jC (allC k0 allN) (jC (allC k94 (allC k95 (allC k138 allN))) (jC (allC k96 (allC k123 (allC k133 (allC k139 (allC k145 (allC k146 (allC k148 allN))))))) (jC (allC k67 allN) (jC (allC k87 allN) jN)))))
noncomputable def envT : XEnv := (env0.mem 11 [(4, [m0]), (6, [m94, m95, m138]), (7, [m96, m123, m133, m139, m145, m146, m148]), (9, [m67]), (10, [m87])])
theorem envT_ok : envT.OK := env0_ok.memos gOf_lt allTop
set_option maxRecDepth 100000 in
theorem law_run (e : Nat → Nat) : isTrue (xrun envT 60 3 [] (tabsH 11 (tabs e))) = true := by kernel_rfl
end Go.Proofs.YtldfdadpfjcpcaaGreatDoor
