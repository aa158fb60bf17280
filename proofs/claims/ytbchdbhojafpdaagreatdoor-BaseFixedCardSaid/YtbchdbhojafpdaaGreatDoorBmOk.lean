/-
  The law: its run, by memos.
-/
import Derived.Test.YtbchdbhojafpdaaGreatDoorMmC0
import Derived.Test.YtbchdbhojafpdaaGreatDoorMmC1
import Derived.Test.YtbchdbhojafpdaaGreatDoorMmC2
import Derived.Test.YtbchdbhojafpdaaGreatDoorMmC3
import Derived.Test.YtbchdbhojafpdaaGreatDoorMmC4
import Derived.Test.YtbchdbhojafpdaaGreatDoorMmC5
import Derived.Test.YtbchdbhojafpdaaGreatDoorBmD0
import Derived.Test.YtbchdbhojafpdaaGreatDoorBmR0
import Derived.Test.YtbchdbhojafpdaaGreatDoorBmR1
import Derived.Test.YtbchdbhojafpdaaGreatDoorBmR2
import Derived.Test.YtbchdbhojafpdaaGreatDoorBmR3
import Derived.Test.YtbchdbhojafpdaaGreatDoorBmR4
import Derived.Test.YtbchdbhojafpdaaGreatDoorBmR5
import Derived.Test.YtbchdbhojafpdaaGreatDoorBmR6
import Derived.Test.YtbchdbhojafpdaaGreatDoorBmR7
import Derived.Test.YtbchdbhojafpdaaGreatDoorBmR8
import Derived.Test.YtbchdbhojafpdaaGreatDoorBmR9
import Derived.Test.YtbchdbhojafpdaaGreatDoorBmR10
import Derived.Test.YtbchdbhojafpdaaGreatDoorBmR11
import Derived.Test.YtbchdbhojafpdaaGreatDoorBmR12
import Derived.Test.YtbchdbhojafpdaaGreatDoorBmR13
import Derived.Test.YtbchdbhojafpdaaGreatDoorBmR14
import Derived.Test.YtbchdbhojafpdaaGreatDoorBmR15
import Derived.Test.YtbchdbhojafpdaaGreatDoorBmR16
import Derived.Test.YtbchdbhojafpdaaGreatDoorBmR17
import Derived.Test.YtbchdbhojafpdaaGreatDoorBmR18
import Derived.Test.YtbchdbhojafpdaaGreatDoorBmR19
import Derived.Test.YtbchdbhojafpdaaGreatDoorBmR20
import Derived.Test.YtbchdbhojafpdaaGreatDoorBmR21
import Derived.Test.YtbchdbhojafpdaaGreatDoorBmR22
import Derived.Test.YtbchdbhojafpdaaGreatDoorBmR23
import Derived.Test.YtbchdbhojafpdaaGreatDoorBmR24
import Derived.Test.YtbchdbhojafpdaaGreatDoorBmR25
import Derived.Test.YtbchdbhojafpdaaGreatDoorBmR26
import Derived.Test.YtbchdbhojafpdaaGreatDoorBmR27
import Derived.Test.YtbchdbhojafpdaaGreatDoorBmR28
import Derived.Test.YtbchdbhojafpdaaGreatDoorBmR29
import Derived.Test.YtbchdbhojafpdaaGreatDoorBmR30
import Derived.Test.YtbchdbhojafpdaaGreatDoorBmR31
import Derived.Test.YtbchdbhojafpdaaGreatDoorBmR32
import Derived.Test.YtbchdbhojafpdaaGreatDoorBmR33
import Derived.Test.YtbchdbhojafpdaaGreatDoorBmR34
set_option linter.unusedVariables false
set_option linter.unusedSimpArgs false
namespace Go.Proofs.YtbchdbhojafpdaaGreatDoor
open Go Ev
theorem good_parts : good = part0 ++ (part1 ++ (part2 ++ (part3 ++ (part4 ++ (part5))))) := by decide +kernel
theorem good_cert {f : Nat} (h : good.contains f = true) : certF f = true := by
  have hm : f ∈ good := by simpa using h
  rw [good_parts] at hm
  simp only [List.mem_append] at hm
  rcases hm with hm | hm | hm | hm | hm | hm
  · exact List.all_eq_true.1 part0_ok f hm
  · exact List.all_eq_true.1 part1_ok f hm
  · exact List.all_eq_true.1 part2_ok f hm
  · exact List.all_eq_true.1 part3_ok f hm
  · exact List.all_eq_true.1 part4_ok f hm
  · exact List.all_eq_true.1 part5_ok f hm
theorem env0_ok : env0.OK := ⟨by kernel_rfl, xOf_sound rfl xs_ok, xOf_astep xs_ok, fun f g h => (by cases h), fun f g h => (by cases h), xq_ok fun _ => rfl, fun f fn code hg hf hc => certF_spec (good_cert hg) hf hc⟩
theorem gK1 : Tryz.prog.globalNamed "codicil/sha.k" = some 1 := by kernel_rfl
theorem gK7 : Tryz.prog.globalNamed "internal/strconv.uint64pow10" = some 7 := by kernel_rfl
noncomputable def lenOf (g : Nat) : Nat := (bif Nat.beq g 1 then 64 else (bif Nat.beq g 7 then 20 else 0))
noncomputable def spot (g : Nat) : Spot := ⟨g, 0, lenOf g⟩
theorem gOf_tab (e : Nat → Nat) (g L : Nat) (h : gOf g = some L) : ∃ t, tabOf (tabs e) g = some t ∧ t.vs.length = L ∧ (spot g).cb = g ∧ (spot g).off = 0 := by
  unfold gOf at h
  cases hb0 : Nat.beq g 1 with
  | true =>
    rw [hb0] at h
    obtain rfl := Nat.eq_of_beq_eq_true hb0
    cases h; exact ⟨_, rfl, rfl, rfl, rfl⟩
  | false =>
    rw [hb0] at h
    cases hb1 : Nat.beq g 7 with
    | true =>
      rw [hb1] at h
      obtain rfl := Nat.eq_of_beq_eq_true hb1
      cases h; exact ⟨_, rfl, rfl, rfl, rfl⟩
    | false =>
      rw [hb1] at h
      cases h
theorem gOf_lt : ∀ g L, gOf g = some L → g < 13 := by
  intro g L h
  unfold gOf at h
  cases hb0 : Nat.beq g 1 with
  | true =>
    rw [hb0] at h
    obtain rfl := Nat.eq_of_beq_eq_true hb0
    decide
  | false =>
    rw [hb0] at h
    cases hb1 : Nat.beq g 7 with
    | true =>
      rw [hb1] at h
      obtain rfl := Nat.eq_of_beq_eq_true hb1
      decide
    | false =>
      rw [hb1] at h
      cases h
theorem tabs_fit {W : World} (h1 : Lib.TabIs Tryz.prog W "codicil/sha.k" .u32 tab1) (h7 : Lib.TabIs Tryz.prog W "internal/strconv.uint64pow10" .u64 tab7) : ∃ e : Nat → Nat, (∀ t ∈ tabs e, t.g < 13) ∧ ∀ t ∈ tabs e, t.Fits (spot t.g) W := by
  obtain ⟨e1, he1⟩ := tab_fits h1 gK1
  obtain ⟨e7, he7⟩ := tab_fits h7 gK7
  refine ⟨fun g => (bif Nat.beq g 1 then e1 else (bif Nat.beq g 7 then e7 else 0)), ?_, ?_⟩
  · intro t ht
    simp only [tabs, List.mem_cons, List.not_mem_nil, or_false] at ht
    rcases ht with rfl | rfl
    · exact Nat.lt_of_sub_pos (by exact Nat.succ_pos 11)
    · exact Nat.lt_of_sub_pos (by exact Nat.succ_pos 5)
  · intro t ht
    simp only [tabs, List.mem_cons, List.not_mem_nil, or_false] at ht
    rcases ht with rfl | rfl
    · exact he1
    · exact he7
theorem k2 : MemoOK env0 13 m2 := .mk env0_ok gOf_lt jN s2 r2
theorem k3 : MemoOK env0 13 m3 := .mk env0_ok gOf_lt jN s3 r3
theorem k1 : MemoOK env0 13 m1 := .mk env0_ok gOf_lt (jC (allC k3 allN) (jC (allC k2 allN) jN)) s1 r1
theorem k6 : MemoOK env0 13 m6 := .mk env0_ok gOf_lt jN s6 r6
theorem k5 : MemoOK env0 13 m5 := .mk env0_ok gOf_lt (jC (allC k6 allN) jN) s5 r5
theorem k10 : MemoOK env0 13 m10 := .mk env0_ok gOf_lt jN s10 r10
theorem k11 : MemoOK env0 13 m11 := .mk env0_ok gOf_lt jN s11 r11
theorem k12 : MemoOK env0 13 m12 := .mk env0_ok gOf_lt jN s12 r12
theorem k9 : MemoOK env0 13 m9 := .mk env0_ok gOf_lt (jC (allC k10 (allC k11 (allC k12 allN))) jN) s9 r9
theorem k8 : MemoOK env0 13 m8 := .mk env0_ok gOf_lt (jC (allC k9 allN) jN) s8 r8
theorem k15 : MemoOK env0 13 m15 := .mk env0_ok gOf_lt jN s15 r15
theorem k14 : MemoOK env0 13 m14 := .mk env0_ok gOf_lt (jC (allC k15 allN) jN) s14 r14
theorem k56 : MemoOK env0 13 m56 := .mk env0_ok gOf_lt jN s56 r56
theorem k13 : MemoOK env0 13 m13 := .mk env0_ok gOf_lt (jC (allC k14 allN) (jC (allC k56 allN) jN)) s13 r13
theorem k7 : MemoOK env0 13 m7 := .mk env0_ok gOf_lt (jC (allC k8 allN) (jC (allC k13 allN) jN)) s7 r7
theorem k57 : MemoOK env0 13 m57 := .mk env0_ok gOf_lt jN s57 r57
theorem k4 : MemoOK env0 13 m4 := .mk env0_ok gOf_lt (jC (allC k5 allN) (jC (allC k7 allN) (jC (allC k8 allN) (jC (allC k57 allN) jN)))) s4 r4
theorem k60 : MemoOK env0 13 m60 := .mk env0_ok gOf_lt jN s60 r60
theorem k61 : MemoOK env0 13 m61 := .mk env0_ok gOf_lt jN s61 r61
theorem k62 : MemoOK env0 13 m62 := .mk env0_ok gOf_lt jN s62 r62
theorem k59 : MemoOK env0 13 m59 := .mk env0_ok gOf_lt (jC (allC k60 (allC k61 (allC k62 allN))) jN) s59 r59
theorem k58 : MemoOK env0 13 m58 := .mk env0_ok gOf_lt (jC (allC k59 allN) jN) s58 r58
theorem k63 : MemoOK env0 13 m63 := .mk env0_ok gOf_lt (jC (allC k3 (allC k57 allN)) (jC (allC k2 allN) jN)) s63 r63
theorem k67 : MemoOK env0 13 m67 := .mk env0_ok gOf_lt jN s67 r67
theorem k66 : MemoOK env0 13 m66 := .mk env0_ok gOf_lt (jC (allC k59 allN) (jC (allC k67 allN) jN)) s66 r66
theorem k65 : MemoOK env0 13 m65 := .mk env0_ok gOf_lt (jC (allC k66 allN) jN) s65 r65
theorem k71 : MemoOK env0 13 m71 := .mk env0_ok gOf_lt jN s71 r71
theorem k72 : MemoOK env0 13 m72 := .mk env0_ok gOf_lt jN s72 r72
theorem k73 : MemoOK env0 13 m73 := .mk env0_ok gOf_lt jN s73 r73
theorem k74 : MemoOK env0 13 m74 := .mk env0_ok gOf_lt jN s74 r74
theorem k70 : MemoOK env0 13 m70 := .mk env0_ok gOf_lt (jC (allC k71 (allC k72 (allC k73 (allC k74 allN)))) jN) s70 r70
theorem k69 : MemoOK env0 13 m69 := .mk env0_ok gOf_lt (jC (allC k70 allN) jN) s69 r69
theorem k77 : MemoOK env0 13 m77 := .mk env0_ok gOf_lt jN s77 r77
theorem k76 : MemoOK env0 13 m76 := .mk env0_ok gOf_lt (jC (allC k77 allN) jN) s76 r76
theorem k188 : MemoOK env0 13 m188 := .mk env0_ok gOf_lt jN s188 r188
theorem k75 : MemoOK env0 13 m75 := .mk env0_ok gOf_lt (jC (allC k76 allN) (jC (allC k188 allN) jN)) s75 r75
theorem k68 : MemoOK env0 13 m68 := .mk env0_ok gOf_lt (jC (allC k69 allN) (jC (allC k75 allN) jN)) s68 r68
theorem k189 : MemoOK env0 13 m189 := .mk env0_ok gOf_lt jN s189 r189
theorem k64 : MemoOK env0 13 m64 := .mk env0_ok gOf_lt (jC (allC k65 allN) (jC (allC k68 allN) (jC (allC k69 allN) (jC (allC k189 allN) jN)))) s64 r64
theorem k192 : MemoOK env0 13 m192 := .mk env0_ok gOf_lt jN s192 r192
theorem k193 : MemoOK env0 13 m193 := .mk env0_ok gOf_lt jN s193 r193
theorem k191 : MemoOK env0 13 m191 := .mk env0_ok gOf_lt (jC (allC k60 (allC k192 (allC k193 allN))) jN) s191 r191
theorem k190 : MemoOK env0 13 m190 := .mk env0_ok gOf_lt (jC (allC k59 (allC k191 allN)) jN) s190 r190
theorem k194 : MemoOK env0 13 m194 := .mk env0_ok gOf_lt (jC (allC k3 (allC k57 allN)) (jC (allC k2 allN) jN)) s194 r194
theorem k198 : MemoOK env0 13 m198 := .mk env0_ok gOf_lt jN s198 r198
theorem k197 : MemoOK env0 13 m197 := .mk env0_ok gOf_lt (jC (allC k59 (allC k191 allN)) (jC (allC k67 (allC k198 allN)) jN)) s197 r197
theorem k196 : MemoOK env0 13 m196 := .mk env0_ok gOf_lt (jC (allC k197 allN) jN) s196 r196
theorem k202 : MemoOK env0 13 m202 := .mk env0_ok gOf_lt jN s202 r202
theorem k201 : MemoOK env0 13 m201 := .mk env0_ok gOf_lt (jC (allC k71 (allC k72 (allC k73 (allC k202 allN)))) jN) s201 r201
theorem k200 : MemoOK env0 13 m200 := .mk env0_ok gOf_lt (jC (allC k201 allN) jN) s200 r200
theorem k205 : MemoOK env0 13 m205 := .mk env0_ok gOf_lt jN s205 r205
theorem k204 : MemoOK env0 13 m204 := .mk env0_ok gOf_lt (jC (allC k205 allN) jN) s204 r204
theorem k316 : MemoOK env0 13 m316 := .mk env0_ok gOf_lt jN s316 r316
theorem k203 : MemoOK env0 13 m203 := .mk env0_ok gOf_lt (jC (allC k204 allN) (jC (allC k316 allN) jN)) s203 r203
theorem k199 : MemoOK env0 13 m199 := .mk env0_ok gOf_lt (jC (allC k200 allN) (jC (allC k203 allN) jN)) s199 r199
theorem k317 : MemoOK env0 13 m317 := .mk env0_ok gOf_lt jN s317 r317
theorem k195 : MemoOK env0 13 m195 := .mk env0_ok gOf_lt (jC (allC k196 allN) (jC (allC k199 allN) (jC (allC k200 allN) (jC (allC k317 allN) jN)))) s195 r195
theorem k320 : MemoOK env0 13 m320 := .mk env0_ok gOf_lt jN s320 r320
theorem k321 : MemoOK env0 13 m321 := .mk env0_ok gOf_lt jN s321 r321
theorem k319 : MemoOK env0 13 m319 := .mk env0_ok gOf_lt (jC (allC k60 (allC k320 (allC k321 allN))) jN) s319 r319
theorem k318 : MemoOK env0 13 m318 := .mk env0_ok gOf_lt (jC (allC k59 (allC k191 (allC k319 allN))) jN) s318 r318
theorem k326 : MemoOK env0 13 m326 := .mk env0_ok gOf_lt jN s326 r326
theorem k325 : MemoOK env0 13 m325 := .mk env0_ok gOf_lt (jC (allC k59 (allC k191 (allC k319 allN))) (jC (allC k67 (allC k198 (allC k326 allN))) jN)) s325 r325
theorem k324 : MemoOK env0 13 m324 := .mk env0_ok gOf_lt (jC (allC k325 allN) jN) s324 r324
theorem k334 : MemoOK env0 13 m334 := .mk env0_ok gOf_lt jN s334 r334
theorem k335 : MemoOK env0 13 m335 := .mk env0_ok gOf_lt jN s335 r335
theorem k333 : MemoOK env0 13 m333 := .mk env0_ok gOf_lt (jC (allC k334 (allC k335 allN)) jN) s333 r333
theorem k336 : MemoOK env0 13 m336 := .mk env0_ok gOf_lt jN s336 r336
theorem k337 : MemoOK env0 13 m337 := .mk env0_ok gOf_lt jN s337 r337
theorem k338 : MemoOK env0 13 m338 := .mk env0_ok gOf_lt jN s338 r338
theorem k339 : MemoOK env0 13 m339 := .mk env0_ok gOf_lt jN s339 r339
theorem k340 : MemoOK env0 13 m340 := .mk env0_ok gOf_lt jN s340 r340
theorem k332 : MemoOK env0 13 m332 := .mk env0_ok gOf_lt (jC (allC k333 allN) (jC (allC k336 (allC k337 (allC k338 (allC k339 (allC k340 allN))))) jN)) s332 r332
theorem k341 : MemoOK env0 13 m341 := .mk env0_ok gOf_lt jN s341 r341
theorem k331 : MemoOK env0 13 m331 := .mk env0_ok gOf_lt (jC (allC k341 allN) (jC (allC k332 allN) jN)) s331 r331
theorem k330 : MemoOK env0 13 m330 := .mk env0_ok gOf_lt (jC (allC k331 allN) jN) s330 r330
theorem k329 : MemoOK env0 13 m329 := .mk env0_ok gOf_lt (jC (allC k69 allN) (jC (allC k59 (allC k191 (allC k319 allN))) (jC (allC k189 allN) (jC (allC k330 allN) jN)))) s329 r329
theorem k328 : MemoOK env0 13 m328 := .mk env0_ok gOf_lt (jC (allC k59 (allC k191 (allC k319 allN))) (jC (allC k189 allN) (jC (allC k329 allN) jN))) s328 r328
theorem k343 : MemoOK env0 13 m343 := .mk env0_ok gOf_lt jN s343 r343
theorem k344 : MemoOK env0 13 m344 := .mk env0_ok gOf_lt (jC (allC k2 allN) jN) s344 r344
theorem k345 : MemoOK env0 13 m345 := .mk env0_ok gOf_lt (jC (allC k3 (allC k57 allN)) (jC (allC k2 allN) jN)) s345 r345
theorem k342 : MemoOK env0 13 m342 := .mk env0_ok gOf_lt (jC (allC k345 allN) (jC (allC k67 (allC k343 allN)) (jC (allC k344 allN) jN))) s342 r342
theorem k327 : MemoOK env0 13 m327 := .mk env0_ok gOf_lt (jC (allC k328 allN) (jC (allC k342 allN) jN)) s327 r327
theorem k352 : MemoOK env0 13 m352 := .mk env0_ok gOf_lt jN s352 r352
theorem k353 : MemoOK env0 13 m353 := .mk env0_ok gOf_lt jN s353 r353
theorem k354 : MemoOK env0 13 m354 := .mk env0_ok gOf_lt jN s354 r354
theorem k355 : MemoOK env0 13 m355 := .mk env0_ok gOf_lt jN s355 r355
theorem k356 : MemoOK env0 13 m356 := .mk env0_ok gOf_lt jN s356 r356
theorem k351 : MemoOK env0 13 m351 := .mk env0_ok gOf_lt (jC (allC k333 allN) (jC (allC k352 (allC k353 (allC k354 (allC k355 (allC k356 allN))))) jN)) s351 r351
theorem k357 : MemoOK env0 13 m357 := .mk env0_ok gOf_lt jN s357 r357
theorem k350 : MemoOK env0 13 m350 := .mk env0_ok gOf_lt (jC (allC k357 allN) (jC (allC k351 allN) jN)) s350 r350
theorem k349 : MemoOK env0 13 m349 := .mk env0_ok gOf_lt (jC (allC k350 allN) jN) s349 r349
theorem k348 : MemoOK env0 13 m348 := .mk env0_ok gOf_lt (jC (allC k200 allN) (jC (allC k59 (allC k191 (allC k319 allN))) (jC (allC k317 allN) (jC (allC k349 allN) jN)))) s348 r348
theorem k347 : MemoOK env0 13 m347 := .mk env0_ok gOf_lt (jC (allC k59 (allC k191 (allC k319 allN))) (jC (allC k317 allN) (jC (allC k348 allN) jN))) s347 r347
theorem k359 : MemoOK env0 13 m359 := .mk env0_ok gOf_lt (jC (allC k3 (allC k57 allN)) (jC (allC k2 allN) jN)) s359 r359
theorem k358 : MemoOK env0 13 m358 := .mk env0_ok gOf_lt (jC (allC k359 allN) (jC (allC k67 (allC k343 allN)) (jC (allC k344 allN) jN))) s358 r358
theorem k346 : MemoOK env0 13 m346 := .mk env0_ok gOf_lt (jC (allC k347 allN) (jC (allC k358 allN) jN)) s346 r346
theorem k366 : MemoOK env0 13 m366 := .mk env0_ok gOf_lt jN s366 r366
theorem k367 : MemoOK env0 13 m367 := .mk env0_ok gOf_lt jN s367 r367
theorem k368 : MemoOK env0 13 m368 := .mk env0_ok gOf_lt jN s368 r368
theorem k369 : MemoOK env0 13 m369 := .mk env0_ok gOf_lt jN s369 r369
theorem k365 : MemoOK env0 13 m365 := .mk env0_ok gOf_lt (jC (allC k333 allN) (jC (allC k366 (allC k367 (allC k368 (allC k369 allN)))) jN)) s365 r365
theorem k370 : MemoOK env0 13 m370 := .mk env0_ok gOf_lt jN s370 r370
theorem k364 : MemoOK env0 13 m364 := .mk env0_ok gOf_lt (jC (allC k370 allN) (jC (allC k365 allN) jN)) s364 r364
theorem k363 : MemoOK env0 13 m363 := .mk env0_ok gOf_lt (jC (allC k364 allN) jN) s363 r363
theorem k362 : MemoOK env0 13 m362 := .mk env0_ok gOf_lt (jC (allC k8 allN) (jC (allC k59 (allC k191 (allC k319 allN))) (jC (allC k57 allN) (jC (allC k363 allN) jN)))) s362 r362
theorem k361 : MemoOK env0 13 m361 := .mk env0_ok gOf_lt (jC (allC k59 (allC k191 (allC k319 allN))) (jC (allC k57 allN) (jC (allC k362 allN) jN))) s361 r361
theorem k371 : MemoOK env0 13 m371 := .mk env0_ok gOf_lt (jC (allC k1 allN) (jC (allC k343 allN) (jC (allC k344 allN) jN))) s371 r371
theorem k360 : MemoOK env0 13 m360 := .mk env0_ok gOf_lt (jC (allC k361 allN) (jC (allC k371 allN) jN)) s360 r360
theorem k323 : MemoOK env0 13 m323 := .mk env0_ok gOf_lt (jC (allC k327 (allC k346 (allC k360 allN))) (jC (allC k324 allN) jN)) s323 r323
theorem k372 : MemoOK env0 13 m372 := .mk env0_ok gOf_lt (jC (allC k327 (allC k360 allN)) (jC (allC k324 allN) jN)) s372 r372
theorem k373 : MemoOK env0 13 m373 := .mk env0_ok gOf_lt (jC (allC k346 (allC k360 allN)) (jC (allC k324 allN) jN)) s373 r373
theorem k322 : MemoOK env0 13 m322 := .mk env0_ok gOf_lt (jC (allC k323 (allC k372 (allC k373 allN))) jN) s322 r322
theorem k374 : MemoOK env0 13 m374 := .mk env0_ok gOf_lt (jC (allC k323 allN) jN) s374 r374
theorem k0 : MemoOK env0 13 m0 := .mk env0_ok gOf_lt (jC (allC k322 allN) (jC (allC k374 allN) (jC (allC k4 (allC k64 (allC k195 allN))) (jC (allC k58 (allC k190 (allC k318 allN))) (jC (allC k1 (allC k63 (allC k194 allN))) jN))))) s0 r0
theorem k375 : MemoOK env0 13 m375 := .mk env0_ok gOf_lt (jC (allC k3 allN) (jC (allC k2 allN) jN)) s375 r375
theorem k380 : MemoOK env0 13 m380 := .mk env0_ok gOf_lt jN s380 r380
theorem k381 : MemoOK env0 13 m381 := .mk env0_ok gOf_lt jN s381 r381
theorem k379 : MemoOK env0 13 m379 := .mk env0_ok gOf_lt (jC (allC k10 (allC k380 (allC k381 allN))) jN) s379 r379
theorem k378 : MemoOK env0 13 m378 := .mk env0_ok gOf_lt (jC (allC k379 allN) jN) s378 r378
theorem k384 : MemoOK env0 13 m384 := .mk env0_ok gOf_lt jN s384 r384
theorem k383 : MemoOK env0 13 m383 := .mk env0_ok gOf_lt (jC (allC k384 allN) jN) s383 r383
theorem k425 : MemoOK env0 13 m425 := .mk env0_ok gOf_lt jN s425 r425
theorem k382 : MemoOK env0 13 m382 := .mk env0_ok gOf_lt (jC (allC k383 allN) (jC (allC k425 allN) jN)) s382 r382
theorem k377 : MemoOK env0 13 m377 := .mk env0_ok gOf_lt (jC (allC k378 allN) (jC (allC k382 allN) jN)) s377 r377
theorem k426 : MemoOK env0 13 m426 := .mk env0_ok gOf_lt jN s426 r426
theorem k376 : MemoOK env0 13 m376 := .mk env0_ok gOf_lt (jC (allC k65 allN) (jC (allC k377 allN) (jC (allC k378 allN) (jC (allC k426 allN) jN)))) s376 r376
theorem k429 : MemoOK env0 13 m429 := .mk env0_ok gOf_lt jN s429 r429
theorem k430 : MemoOK env0 13 m430 := .mk env0_ok gOf_lt jN s430 r430
theorem k428 : MemoOK env0 13 m428 := .mk env0_ok gOf_lt (jC (allC k60 (allC k429 (allC k430 allN))) jN) s428 r428
theorem k427 : MemoOK env0 13 m427 := .mk env0_ok gOf_lt (jC (allC k59 (allC k428 allN)) jN) s427 r427
theorem k432 : MemoOK env0 13 m432 := .mk env0_ok gOf_lt jN s432 r432
theorem k431 : MemoOK env0 13 m431 := .mk env0_ok gOf_lt (jC (allC k3 (allC k432 allN)) (jC (allC k2 allN) jN)) s431 r431
theorem k436 : MemoOK env0 13 m436 := .mk env0_ok gOf_lt jN s436 r436
theorem k435 : MemoOK env0 13 m435 := .mk env0_ok gOf_lt (jC (allC k59 (allC k428 allN)) (jC (allC k67 (allC k436 allN)) jN)) s435 r435
theorem k434 : MemoOK env0 13 m434 := .mk env0_ok gOf_lt (jC (allC k435 allN) jN) s434 r434
theorem k440 : MemoOK env0 13 m440 := .mk env0_ok gOf_lt jN s440 r440
theorem k441 : MemoOK env0 13 m441 := .mk env0_ok gOf_lt jN s441 r441
theorem k442 : MemoOK env0 13 m442 := .mk env0_ok gOf_lt jN s442 r442
theorem k439 : MemoOK env0 13 m439 := .mk env0_ok gOf_lt (jC (allC k71 (allC k440 (allC k441 (allC k442 allN)))) jN) s439 r439
theorem k438 : MemoOK env0 13 m438 := .mk env0_ok gOf_lt (jC (allC k439 allN) jN) s438 r438
theorem k446 : MemoOK env0 13 m446 := .mk env0_ok gOf_lt jN s446 r446
theorem k447 : MemoOK env0 13 m447 := .mk env0_ok gOf_lt jN s447 r447
theorem k448 : MemoOK env0 13 m448 := .mk env0_ok gOf_lt jN s448 r448
theorem k449 : MemoOK env0 13 m449 := .mk env0_ok gOf_lt jN s449 r449
theorem k450 : MemoOK env0 13 m450 := .mk env0_ok gOf_lt jN s450 r450
theorem k451 : MemoOK env0 13 m451 := .mk env0_ok gOf_lt jN s451 r451
theorem k452 : MemoOK env0 13 m452 := .mk env0_ok gOf_lt jN s452 r452
theorem k453 : MemoOK env0 13 m453 := .mk env0_ok gOf_lt jN s453 r453
theorem k454 : MemoOK env0 13 m454 := .mk env0_ok gOf_lt jN s454 r454
theorem k455 : MemoOK env0 13 m455 := .mk env0_ok gOf_lt jN s455 r455
theorem k456 : MemoOK env0 13 m456 := .mk env0_ok gOf_lt jN s456 r456
theorem k457 : MemoOK env0 13 m457 := .mk env0_ok gOf_lt jN s457 r457
theorem k458 : MemoOK env0 13 m458 := .mk env0_ok gOf_lt jN s458 r458
theorem k459 : MemoOK env0 13 m459 := .mk env0_ok gOf_lt jN s459 r459
theorem k460 : MemoOK env0 13 m460 := .mk env0_ok gOf_lt jN s460 r460
theorem k461 : MemoOK env0 13 m461 := .mk env0_ok gOf_lt jN s461 r461
theorem k462 : MemoOK env0 13 m462 := .mk env0_ok gOf_lt jN s462 r462
theorem k463 : MemoOK env0 13 m463 := .mk env0_ok gOf_lt jN s463 r463
theorem k464 : MemoOK env0 13 m464 := .mk env0_ok gOf_lt jN s464 r464
theorem k465 : MemoOK env0 13 m465 := .mk env0_ok gOf_lt jN s465 r465
theorem k466 : MemoOK env0 13 m466 := .mk env0_ok gOf_lt jN s466 r466
theorem k467 : MemoOK env0 13 m467 := .mk env0_ok gOf_lt jN s467 r467
theorem k468 : MemoOK env0 13 m468 := .mk env0_ok gOf_lt jN s468 r468
theorem k469 : MemoOK env0 13 m469 := .mk env0_ok gOf_lt jN s469 r469
theorem k470 : MemoOK env0 13 m470 := .mk env0_ok gOf_lt jN s470 r470
theorem k471 : MemoOK env0 13 m471 := .mk env0_ok gOf_lt jN s471 r471
theorem k472 : MemoOK env0 13 m472 := .mk env0_ok gOf_lt jN s472 r472
theorem k473 : MemoOK env0 13 m473 := .mk env0_ok gOf_lt jN s473 r473
theorem k474 : MemoOK env0 13 m474 := .mk env0_ok gOf_lt jN s474 r474
theorem k475 : MemoOK env0 13 m475 := .mk env0_ok gOf_lt jN s475 r475
theorem k476 : MemoOK env0 13 m476 := .mk env0_ok gOf_lt jN s476 r476
theorem k477 : MemoOK env0 13 m477 := .mk env0_ok gOf_lt jN s477 r477
theorem k478 : MemoOK env0 13 m478 := .mk env0_ok gOf_lt jN s478 r478
theorem k479 : MemoOK env0 13 m479 := .mk env0_ok gOf_lt jN s479 r479
theorem k480 : MemoOK env0 13 m480 := .mk env0_ok gOf_lt jN s480 r480
theorem k481 : MemoOK env0 13 m481 := .mk env0_ok gOf_lt jN s481 r481
theorem k482 : MemoOK env0 13 m482 := .mk env0_ok gOf_lt jN s482 r482
theorem k483 : MemoOK env0 13 m483 := .mk env0_ok gOf_lt jN s483 r483
theorem k484 : MemoOK env0 13 m484 := .mk env0_ok gOf_lt jN s484 r484
theorem k485 : MemoOK env0 13 m485 := .mk env0_ok gOf_lt jN s485 r485
theorem k486 : MemoOK env0 13 m486 := .mk env0_ok gOf_lt jN s486 r486
theorem k487 : MemoOK env0 13 m487 := .mk env0_ok gOf_lt jN s487 r487
theorem k488 : MemoOK env0 13 m488 := .mk env0_ok gOf_lt jN s488 r488
theorem k489 : MemoOK env0 13 m489 := .mk env0_ok gOf_lt jN s489 r489
theorem k490 : MemoOK env0 13 m490 := .mk env0_ok gOf_lt jN s490 r490
theorem k491 : MemoOK env0 13 m491 := .mk env0_ok gOf_lt jN s491 r491
theorem k492 : MemoOK env0 13 m492 := .mk env0_ok gOf_lt jN s492 r492
theorem k493 : MemoOK env0 13 m493 := .mk env0_ok gOf_lt jN s493 r493
theorem k494 : MemoOK env0 13 m494 := .mk env0_ok gOf_lt jN s494 r494
theorem k495 : MemoOK env0 13 m495 := .mk env0_ok gOf_lt jN s495 r495
theorem k445 : MemoOK env0 13 m445 := .mk env0_ok gOf_lt (jC (allC k446 (allC k447 (allC k448 (allC k449 (allC k450 (allC k451 (allC k452 (allC k453 (allC k454 (allC k455 (allC k456 (allC k457 (allC k458 (allC k459 (allC k460 (allC k461 (allC k462 (allC k463 (allC k464 (allC k465 (allC k466 (allC k467 (allC k468 (allC k469 (allC k470 (allC k471 (allC k472 (allC k473 (allC k474 (allC k475 (allC k476 (allC k477 (allC k478 (allC k479 (allC k480 (allC k481 (allC k482 (allC k483 (allC k484 (allC k485 (allC k486 (allC k487 (allC k488 (allC k489 (allC k490 (allC k491 (allC k492 (allC k493 (allC k494 (allC k495 allN)))))))))))))))))))))))))))))))))))))))))))))))))) jN) s445 r445
theorem k444 : MemoOK env0 13 m444 := .mk env0_ok gOf_lt (jC (allC k445 allN) jN) s444 r444
theorem k496 : MemoOK env0 13 m496 := .mk env0_ok gOf_lt jN s496 r496
theorem k443 : MemoOK env0 13 m443 := .mk env0_ok gOf_lt (jC (allC k444 allN) (jC (allC k496 allN) jN)) s443 r443
theorem k437 : MemoOK env0 13 m437 := .mk env0_ok gOf_lt (jC (allC k438 allN) (jC (allC k443 allN) jN)) s437 r437
theorem k497 : MemoOK env0 13 m497 := .mk env0_ok gOf_lt jN s497 r497
theorem k433 : MemoOK env0 13 m433 := .mk env0_ok gOf_lt (jC (allC k434 allN) (jC (allC k437 allN) (jC (allC k438 allN) (jC (allC k497 allN) jN)))) s433 r433
theorem k500 : MemoOK env0 13 m500 := .mk env0_ok gOf_lt jN s500 r500
theorem k501 : MemoOK env0 13 m501 := .mk env0_ok gOf_lt jN s501 r501
theorem k499 : MemoOK env0 13 m499 := .mk env0_ok gOf_lt (jC (allC k60 (allC k500 (allC k501 allN))) jN) s499 r499
theorem k498 : MemoOK env0 13 m498 := .mk env0_ok gOf_lt (jC (allC k59 (allC k428 (allC k499 allN))) jN) s498 r498
theorem k506 : MemoOK env0 13 m506 := .mk env0_ok gOf_lt jN s506 r506
theorem k505 : MemoOK env0 13 m505 := .mk env0_ok gOf_lt (jC (allC k59 (allC k428 (allC k499 allN))) (jC (allC k67 (allC k436 (allC k506 allN))) jN)) s505 r505
theorem k504 : MemoOK env0 13 m504 := .mk env0_ok gOf_lt (jC (allC k505 allN) jN) s504 r504
theorem k509 : MemoOK env0 13 m509 := .mk env0_ok gOf_lt (jC (allC k8 allN) (jC (allC k59 (allC k428 (allC k499 allN))) (jC (allC k57 allN) (jC (allC k363 allN) jN)))) s509 r509
theorem k508 : MemoOK env0 13 m508 := .mk env0_ok gOf_lt (jC (allC k59 (allC k428 (allC k499 allN))) (jC (allC k57 allN) (jC (allC k509 allN) jN))) s508 r508
theorem k507 : MemoOK env0 13 m507 := .mk env0_ok gOf_lt (jC (allC k508 allN) (jC (allC k371 allN) jN)) s507 r507
theorem k516 : MemoOK env0 13 m516 := .mk env0_ok gOf_lt jN s516 r516
theorem k517 : MemoOK env0 13 m517 := .mk env0_ok gOf_lt jN s517 r517
theorem k518 : MemoOK env0 13 m518 := .mk env0_ok gOf_lt jN s518 r518
theorem k519 : MemoOK env0 13 m519 := .mk env0_ok gOf_lt jN s519 r519
theorem k515 : MemoOK env0 13 m515 := .mk env0_ok gOf_lt (jC (allC k333 allN) (jC (allC k516 (allC k517 (allC k518 (allC k519 allN)))) jN)) s515 r515
theorem k520 : MemoOK env0 13 m520 := .mk env0_ok gOf_lt jN s520 r520
theorem k514 : MemoOK env0 13 m514 := .mk env0_ok gOf_lt (jC (allC k520 allN) (jC (allC k515 allN) jN)) s514 r514
theorem k513 : MemoOK env0 13 m513 := .mk env0_ok gOf_lt (jC (allC k514 allN) jN) s513 r513
theorem k512 : MemoOK env0 13 m512 := .mk env0_ok gOf_lt (jC (allC k378 allN) (jC (allC k59 (allC k428 (allC k499 allN))) (jC (allC k426 allN) (jC (allC k513 allN) jN)))) s512 r512
theorem k511 : MemoOK env0 13 m511 := .mk env0_ok gOf_lt (jC (allC k59 (allC k428 (allC k499 allN))) (jC (allC k426 allN) (jC (allC k512 allN) jN))) s511 r511
theorem k521 : MemoOK env0 13 m521 := .mk env0_ok gOf_lt (jC (allC k375 allN) (jC (allC k343 allN) (jC (allC k344 allN) jN))) s521 r521
theorem k510 : MemoOK env0 13 m510 := .mk env0_ok gOf_lt (jC (allC k511 allN) (jC (allC k521 allN) jN)) s510 r510
theorem k503 : MemoOK env0 13 m503 := .mk env0_ok gOf_lt (jC (allC k507 (allC k510 allN)) (jC (allC k504 allN) jN)) s503 r503
theorem k522 : MemoOK env0 13 m522 := .mk env0_ok gOf_lt (jC (allC k507 allN) (jC (allC k504 allN) jN)) s522 r522
theorem k523 : MemoOK env0 13 m523 := .mk env0_ok gOf_lt (jC (allC k510 allN) (jC (allC k504 allN) jN)) s523 r523
theorem k502 : MemoOK env0 13 m502 := .mk env0_ok gOf_lt (jC (allC k503 (allC k522 (allC k523 allN))) jN) s502 r502
theorem k532 : MemoOK env0 13 m532 := .mk env0_ok gOf_lt jN s532 r532
theorem k533 : MemoOK env0 13 m533 := .mk env0_ok gOf_lt jN s533 r533
theorem k534 : MemoOK env0 13 m534 := .mk env0_ok gOf_lt jN s534 r534
theorem k535 : MemoOK env0 13 m535 := .mk env0_ok gOf_lt jN s535 r535
theorem k536 : MemoOK env0 13 m536 := .mk env0_ok gOf_lt jN s536 r536
theorem k531 : MemoOK env0 13 m531 := .mk env0_ok gOf_lt (jC (allC k333 allN) (jC (allC k532 (allC k533 (allC k534 (allC k535 (allC k536 allN))))) jN)) s531 r531
theorem k537 : MemoOK env0 13 m537 := .mk env0_ok gOf_lt jN s537 r537
theorem k530 : MemoOK env0 13 m530 := .mk env0_ok gOf_lt (jC (allC k537 allN) (jC (allC k531 allN) jN)) s530 r530
theorem k529 : MemoOK env0 13 m529 := .mk env0_ok gOf_lt (jC (allC k530 allN) jN) s529 r529
theorem k528 : MemoOK env0 13 m528 := .mk env0_ok gOf_lt (jC (allC k438 allN) (jC (allC k59 (allC k428 (allC k499 allN))) (jC (allC k497 allN) (jC (allC k529 allN) jN)))) s528 r528
theorem k527 : MemoOK env0 13 m527 := .mk env0_ok gOf_lt (jC (allC k59 (allC k428 (allC k499 allN))) (jC (allC k497 allN) (jC (allC k528 allN) jN))) s527 r527
theorem k539 : MemoOK env0 13 m539 := .mk env0_ok gOf_lt jN s539 r539
theorem k540 : MemoOK env0 13 m540 := .mk env0_ok gOf_lt (jC (allC k3 (allC k432 allN)) (jC (allC k2 allN) jN)) s540 r540
theorem k538 : MemoOK env0 13 m538 := .mk env0_ok gOf_lt (jC (allC k540 allN) (jC (allC k343 (allC k539 allN)) (jC (allC k344 allN) jN))) s538 r538
theorem k526 : MemoOK env0 13 m526 := .mk env0_ok gOf_lt (jC (allC k527 allN) (jC (allC k538 allN) jN)) s526 r526
theorem k542 : MemoOK env0 13 m542 := .mk env0_ok gOf_lt (jC (allC k59 (allC k428 (allC k499 allN))) (jC (allC k432 allN) jN)) s542 r542
theorem k541 : MemoOK env0 13 m541 := .mk env0_ok gOf_lt (jC (allC k542 allN) jN) s541 r541
theorem k525 : MemoOK env0 13 m525 := .mk env0_ok gOf_lt (jC (allC k526 (allC k541 allN)) (jC (allC k504 allN) jN)) s525 r525
theorem k524 : MemoOK env0 13 m524 := .mk env0_ok gOf_lt (jC (allC k525 allN) jN) s524 r524
theorem k548 : MemoOK env0 13 m548 := .mk env0_ok gOf_lt jN s548 r548
theorem k547 : MemoOK env0 13 m547 := .mk env0_ok gOf_lt (jC (allC k548 allN) jN) s547 r547
theorem k550 : MemoOK env0 13 m550 := .mk env0_ok gOf_lt jN s550 r550
theorem k549 : MemoOK env0 13 m549 := .mk env0_ok gOf_lt (jC (allC k550 allN) jN) s549 r549
theorem k546 : MemoOK env0 13 m546 := .mk env0_ok gOf_lt (jC (allC k547 (allC k549 allN)) jN) s546 r546
theorem k545 : MemoOK env0 13 m545 := .mk env0_ok gOf_lt (jC (allC k546 allN) jN) s545 r545
theorem k544 : MemoOK env0 13 m544 := .mk env0_ok gOf_lt (jC (allC k545 allN) jN) s544 r544
theorem k543 : MemoOK env0 13 m543 := .mk env0_ok gOf_lt (jC (allC k544 allN) jN) s543 r543
theorem k552 : MemoOK env0 13 m552 := .mk env0_ok gOf_lt (jC (allC k504 allN) jN) s552 r552
theorem k551 : MemoOK env0 13 m551 := .mk env0_ok gOf_lt (jC (allC k552 allN) jN) s551 r551
theorem k554 : MemoOK env0 13 m554 := .mk env0_ok gOf_lt (jC (allC k507 (allC k510 allN)) (jC (allC k504 allN) jN)) s554 r554
theorem k553 : MemoOK env0 13 m553 := .mk env0_ok gOf_lt (jC (allC k554 allN) jN) s553 r553
theorem k559 : MemoOK env0 13 m559 := .mk env0_ok gOf_lt jN s559 r559
theorem k558 : MemoOK env0 13 m558 := .mk env0_ok gOf_lt (jC (allC k559 allN) jN) s558 r558
theorem k557 : MemoOK env0 13 m557 := .mk env0_ok gOf_lt (jC (allC k558 allN) jN) s557 r557
theorem k562 : MemoOK env0 13 m562 := .mk env0_ok gOf_lt jN s562 r562
theorem k561 : MemoOK env0 13 m561 := .mk env0_ok gOf_lt (jC (allC k562 allN) jN) s561 r561
theorem k570 : MemoOK env0 13 m570 := .mk env0_ok gOf_lt jN s570 r570
theorem k560 : MemoOK env0 13 m560 := .mk env0_ok gOf_lt (jC (allC k561 allN) (jC (allC k570 allN) jN)) s560 r560
theorem k556 : MemoOK env0 13 m556 := .mk env0_ok gOf_lt (jC (allC k557 allN) (jC (allC k560 allN) jN)) s556 r556
theorem k571 : MemoOK env0 13 m571 := .mk env0_ok gOf_lt jN s571 r571
theorem k555 : MemoOK env0 13 m555 := .mk env0_ok gOf_lt (jC (allC k504 allN) (jC (allC k556 allN) (jC (allC k557 allN) (jC (allC k571 allN) jN)))) s555 r555
theorem k574 : MemoOK env0 13 m574 := .mk env0_ok gOf_lt jN s574 r574
theorem k575 : MemoOK env0 13 m575 := .mk env0_ok gOf_lt jN s575 r575
theorem k573 : MemoOK env0 13 m573 := .mk env0_ok gOf_lt (jC (allC k60 (allC k574 (allC k575 allN))) jN) s573 r573
theorem k572 : MemoOK env0 13 m572 := .mk env0_ok gOf_lt (jC (allC k59 (allC k428 (allC k499 (allC k573 allN)))) jN) s572 r572
theorem k581 : MemoOK env0 13 m581 := .mk env0_ok gOf_lt (jC (allC k333 allN) jN) s581 r581
theorem k582 : MemoOK env0 13 m582 := .mk env0_ok gOf_lt jN s582 r582
theorem k580 : MemoOK env0 13 m580 := .mk env0_ok gOf_lt (jC (allC k582 allN) (jC (allC k581 allN) jN)) s580 r580
theorem k579 : MemoOK env0 13 m579 := .mk env0_ok gOf_lt (jC (allC k580 allN) jN) s579 r579
theorem k583 : MemoOK env0 13 m583 := .mk env0_ok gOf_lt (jC (allC k558 allN) jN) s583 r583
theorem k578 : MemoOK env0 13 m578 := .mk env0_ok gOf_lt (jC (allC k583 allN) (jC (allC k59 (allC k428 (allC k499 (allC k573 allN)))) (jC (allC k571 allN) (jC (allC k579 allN) jN)))) s578 r578
theorem k577 : MemoOK env0 13 m577 := .mk env0_ok gOf_lt (jC (allC k59 (allC k428 (allC k499 (allC k573 allN)))) (jC (allC k571 allN) (jC (allC k578 allN) jN))) s577 r577
theorem k576 : MemoOK env0 13 m576 := .mk env0_ok gOf_lt (jC (allC k577 allN) jN) s576 r576
theorem allTop : AllJ env0 13 [(4, [m0]), (6, [m502]), (7, [m524, m543, m551, m553]), (8, [m4, m376, m433, m555]), (9, [m58, m427, m498, m572]), (10, [m576]), (12, [m1, m375, m431])] := (jC (allC k0 allN) (jC (allC k502 allN) (jC (allC k524 (allC k543 (allC k551 (allC k553 allN)))) (jC (allC k4 (allC k376 (allC k433 (allC k555 allN)))) (jC (allC k58 (allC k427 (allC k498 (allC k572 allN)))) (jC (allC k576 allN) (jC (allC k1 (allC k375 (allC k431 allN))) jN)))))))
noncomputable def envT : XEnv := (env0.mem 13 [(4, [m0]), (6, [m502]), (7, [m524, m543, m551, m553]), (8, [m4, m376, m433, m555]), (9, [m58, m427, m498, m572]), (10, [m576]), (12, [m1, m375, m431])])
theorem envT_ok : envT.OK := env0_ok.memos gOf_lt allTop
set_option maxRecDepth 100000 in
theorem law_run (e : Nat → Nat) : isTrue (xrun envT 60 3 [] (tabsH 13 (tabs e))) = true := by kernel_rfl
end Go.Proofs.YtbchdbhojafpdaaGreatDoor
