/-
  slices.Sorted over maps.Keys: the contracts of the library at this program (the layings were printed by the kit's own program).
-/
import Derived.Shelf.SlIter.Nil
import Derived.Shelf.SortM.Plain
import Derived.Shelf.SortM.SortNone
import Derived.Test.YtldfdadpfjcpcaaGreatDoorKC
import Derived.Test.YtldfdadpfjcpcaaGreatDoorProg
set_option linter.unusedVariables false
namespace Go.Proofs.YtldfdadpfjcpcaaGreatDoor
open Go Ev Go.Shelf Go.RowKit Go.Maps Go.Sort
def Tryz.keys46_ren : Go.Shelf.Ren := ⟨fun | 7 => 46 | 10 => 86 | n => n, fun | 23 => 65 | 26 => 9 | 3 => 67 | 28 => 111 | 0 => 0 | 27 => 110 | 33 => 55 | 4 => 4 | n => n, fun | n => n⟩
theorem Tryz.keys46 : Go.Proofs.SlLaysZ.n7 Tryz.prog Tryz.keys46_ren := {
  mixed := by kernel_rfl
  f7 := ⟨Tryz.f46.name, by decide, Tryz.func46.trans (congrArg some (by kernel_rfl))⟩
  f10 := ⟨Tryz.f86.name, by decide, Tryz.func86.trans (congrArg some (by kernel_rfl))⟩
  t0 := Tryz.underlying0
  a0 := Tryz.isAgg0
  z0 := Tryz.sizeOf0
  v0 := Tryz.zeroValue0
  t4 := Tryz.underlying4
  a4 := Tryz.isAgg4
  z4 := Tryz.sizeOf4
  v4 := Tryz.zeroValue4
  t23 := Tryz.underlying65
  a23 := Tryz.isAgg65
  z23 := Tryz.sizeOf65
  v23 := Tryz.zeroValue65
  t26 := Tryz.underlying9
  a26 := Tryz.isAgg9
  z26 := Tryz.sizeOf9
  v26 := Tryz.zeroValue9
  t27 := Tryz.underlying110
  a27 := Tryz.isAgg110
  z27 := Tryz.sizeOf110
  v27 := Tryz.zeroValue110
  t28 := Tryz.underlying111
  a28 := Tryz.isAgg111
  z28 := Tryz.sizeOf111
  v28 := Tryz.zeroValue111
  t33 := Tryz.underlying55
  a33 := Tryz.isAgg55
  z33 := Tryz.sizeOf55
  v33 := Tryz.zeroValue55 }
def Tryz.sorted45_ren : Go.Shelf.Ren := ⟨fun | 6 => 45 | 8 => 84 | 9 => 85 | 11 => 154 | 13 => 66 | 12 => 155 | 23 => 122 | 24 => 123 | 14 => 213 | 15 => 214 | 16 => 215 | 17 => 216 | 18 => 217 | 19 => 218 | 20 => 219 | 21 => 220 | 22 => 221 | 25 => 256 | 26 => 184 | 27 => 185 | 28 => 257 | 29 => 258 | 30 => 259 | 31 => 289 | n => n, fun | 26 => 9 | 28 => 111 | 24 => 44 | 0 => 0 | 3 => 3 | 37 => 137 | 48 => 122 | 50 => 123 | 4 => 4 | 40 => 198 | 39 => 197 | 45 => 162 | 5 => 5 | 9 => 9 | 51 => 262 | 55 => 266 | 57 => 322 | 58 => 316 | 33 => 55 | n => n, fun | n => n⟩
theorem Tryz.sorted45 : Go.Proofs.SlLaysZ.n6 Tryz.prog Tryz.sorted45_ren := {
  mixed := by kernel_rfl
  f6 := ⟨Tryz.f45.name, by decide, Tryz.func45.trans (congrArg some (by kernel_rfl))⟩
  f8 := ⟨Tryz.f84.name, by decide, Tryz.func84.trans (congrArg some (by kernel_rfl))⟩
  f11 := ⟨Tryz.f154.name, by decide, Tryz.func154.trans (congrArg some (by kernel_rfl))⟩
  t0 := Tryz.underlying0
  a0 := Tryz.isAgg0
  z0 := Tryz.sizeOf0
  v0 := Tryz.zeroValue0
  t24 := Tryz.underlying44
  a24 := Tryz.isAgg44
  z24 := Tryz.sizeOf44
  v24 := Tryz.zeroValue44
  t26 := Tryz.underlying9
  a26 := Tryz.isAgg9
  z26 := Tryz.sizeOf9
  v26 := Tryz.zeroValue9
  t28 := Tryz.underlying111
  a28 := Tryz.isAgg111
  z28 := Tryz.sizeOf111
  v28 := Tryz.zeroValue111
  i26 := by kernel_rfl }
def Tryz.sort85_ren : Go.Shelf.Ren := ⟨fun | 6 => 85 | 8 => 66 | 9 => 155 | 19 => 122 | 20 => 123 | 21 => 213 | 22 => 214 | 23 => 215 | 24 => 216 | 25 => 217 | 26 => 218 | 27 => 219 | 28 => 220 | 29 => 221 | 36 => 256 | 31 => 184 | 32 => 185 | 37 => 257 | 38 => 258 | 39 => 259 | 41 => 289 | n => n, fun | 27 => 44 | 29 => 9 | 3 => 3 | 32 => 137 | 26 => 44 | 0 => 0 | 44 => 122 | 46 => 123 | 4 => 4 | 36 => 198 | 35 => 197 | 41 => 162 | 5 => 5 | 9 => 9 | 53 => 262 | 57 => 266 | 63 => 322 | 64 => 316 | n => n, fun | n => n⟩
theorem Tryz.sort85 : Go.Proofs.SlLaysM.n6 Tryz.prog Tryz.sort85_ren := {
  mixed := by kernel_rfl
  f6 := ⟨Tryz.f85.name, by decide, Tryz.func85.trans (congrArg some (by kernel_rfl))⟩
  f8 := Tryz.func66.trans (congrArg some (by kernel_rfl))
  f9 := ⟨Tryz.f155.name, by decide, Tryz.func155.trans (congrArg some (by kernel_rfl))⟩
  f19 := Tryz.func122.trans (congrArg some (by kernel_rfl))
  f20 := Tryz.func123.trans (congrArg some (by kernel_rfl))
  f21 := ⟨Tryz.f213.name, by decide, Tryz.func213.trans (congrArg some (by kernel_rfl))⟩
  f22 := ⟨Tryz.f214.name, by decide, Tryz.func214.trans (congrArg some (by kernel_rfl))⟩
  f23 := ⟨Tryz.f215.name, by decide, Tryz.func215.trans (congrArg some (by kernel_rfl))⟩
  f24 := ⟨Tryz.f216.name, by decide, Tryz.func216.trans (congrArg some (by kernel_rfl))⟩
  f25 := ⟨Tryz.f217.name, by decide, Tryz.func217.trans (congrArg some (by kernel_rfl))⟩
  f26 := ⟨Tryz.f218.name, by decide, Tryz.func218.trans (congrArg some (by kernel_rfl))⟩
  f27 := ⟨Tryz.f219.name, by decide, Tryz.func219.trans (congrArg some (by kernel_rfl))⟩
  f28 := ⟨Tryz.f220.name, by decide, Tryz.func220.trans (congrArg some (by kernel_rfl))⟩
  f29 := ⟨Tryz.f221.name, by decide, Tryz.func221.trans (congrArg some (by kernel_rfl))⟩
  f31 := Tryz.func184.trans (congrArg some (by kernel_rfl))
  f32 := Tryz.func185.trans (congrArg some (by kernel_rfl))
  f36 := ⟨Tryz.f256.name, by decide, Tryz.func256.trans (congrArg some (by kernel_rfl))⟩
  f37 := ⟨Tryz.f257.name, by decide, Tryz.func257.trans (congrArg some (by kernel_rfl))⟩
  f38 := ⟨Tryz.f258.name, by decide, Tryz.func258.trans (congrArg some (by kernel_rfl))⟩
  f39 := ⟨Tryz.f259.name, by decide, Tryz.func259.trans (congrArg some (by kernel_rfl))⟩
  f41 := ⟨Tryz.f289.name, by decide, Tryz.func289.trans (congrArg some (by kernel_rfl))⟩
  t0 := Tryz.underlying0
  a0 := Tryz.isAgg0
  z0 := Tryz.sizeOf0
  v0 := Tryz.zeroValue0
  t3 := Tryz.underlying3
  a3 := Tryz.isAgg3
  z3 := Tryz.sizeOf3
  v3 := Tryz.zeroValue3
  t4 := Tryz.underlying4
  a4 := Tryz.isAgg4
  z4 := Tryz.sizeOf4
  v4 := Tryz.zeroValue4
  t5 := Tryz.underlying5
  a5 := Tryz.isAgg5
  z5 := Tryz.sizeOf5
  v5 := Tryz.zeroValue5
  t9 := Tryz.underlying9
  a9 := Tryz.isAgg9
  z9 := Tryz.sizeOf9
  v9 := Tryz.zeroValue9
  t26 := Tryz.underlying44
  a26 := Tryz.isAgg44
  z26 := Tryz.sizeOf44
  v26 := Tryz.zeroValue44
  t27 := Tryz.underlying44
  a27 := Tryz.isAgg44
  z27 := Tryz.sizeOf44
  v27 := Tryz.zeroValue44
  t29 := Tryz.underlying9
  a29 := Tryz.isAgg9
  z29 := Tryz.sizeOf9
  v29 := Tryz.zeroValue9
  t32 := Tryz.underlying137
  a32 := Tryz.isAgg137
  z32 := Tryz.sizeOf137
  v32 := Tryz.zeroValue137
  t35 := Tryz.underlying197
  a35 := Tryz.isAgg197
  z35 := Tryz.sizeOf197
  v35 := Tryz.zeroValue197
  t36 := Tryz.underlying198
  a36 := Tryz.isAgg198
  z36 := Tryz.sizeOf198
  v36 := Tryz.zeroValue198
  t41 := Tryz.underlying162
  a41 := Tryz.isAgg162
  z41 := Tryz.sizeOf162
  v41 := Tryz.zeroValue162
  t44 := Tryz.underlying122
  a44 := Tryz.isAgg122
  z44 := Tryz.sizeOf122
  v44 := Tryz.zeroValue122
  t46 := Tryz.underlying123
  a46 := Tryz.isAgg123
  z46 := Tryz.sizeOf123
  v46 := Tryz.zeroValue123
  t53 := Tryz.underlying262
  a53 := Tryz.isAgg262
  z53 := Tryz.sizeOf262
  v53 := Tryz.zeroValue262
  t57 := Tryz.underlying266
  a57 := Tryz.isAgg266
  z57 := Tryz.sizeOf266
  v57 := Tryz.zeroValue266
  t63 := Tryz.underlying322
  a63 := Tryz.isAgg322
  z63 := Tryz.sizeOf322
  v63 := Tryz.zeroValue322
  t64 := Tryz.underlying316
  a64 := Tryz.isAgg316
  z64 := Tryz.sizeOf316
  v64 := Tryz.zeroValue316 }
theorem sorts (m : Nat) : AnyZ.SortsIn Tryz.prog Tryz.sorted45_ren Fence.wide m :=
  ⟨fun blk off cap ss W hH hblk hsz => callsIn_wide.2 (AnyM.slices_Sort_string Tryz.sort85 blk off cap ss W hH hblk hsz),
   fun p cap W => callsIn_wide.2 (AnyM.slices_Sort_string_none Tryz.sort85 p cap W)⟩
theorem sorted_at86 : SortedAt Tryz.prog 45 9 86 := {
  str := Tryz.underlying9,
  gives := fun b nn Bm D0 w hB hm hown h1 h2 => (callsIn_wide (n := 5)).1 (AnyZ.sorted_in Tryz.sorted45 Fence.wide 5 trivial trivial trivial trivial rfl (by omega) (sorts _) (enters_of Tryz.func85 (by kernel_rfl) rfl) 86 #[.pointer (some ⟨Bm, 0, none⟩)] trivial (enters_of Tryz.func86 (by kernel_rfl) rfl) _ _ h1 h2 w
    (AnyZ.keys_gives (ρ := Tryz.keys46_ren) { Tryz.keys46 with } Fence.wide _ trivial rfl (by omega) Bm b nn D0 w hB hm hown)),
  nils := fun Bm w hB hm => (callsIn_wide (n := 5)).1 (AnyZ.sorted_in Tryz.sorted45 Fence.wide 5 trivial trivial trivial trivial rfl (by omega) (sorts _) (enters_of Tryz.func85 (by kernel_rfl) rfl) 86 #[.pointer (some ⟨Bm, 0, none⟩)] trivial (enters_of Tryz.func86 (by kernel_rfl) rfl) _ 0 (Nat.zero_le _) (by omega) w
    (AnyZ.keys_gives_nil (ρ := Tryz.keys46_ren) { Tryz.keys46 with } Fence.wide _ trivial rfl Bm w hB hm)) }
theorem sorted_ats : ∀ g ∈ [86], SortedAt Tryz.prog 45 9 g := by
  intro g hg
  simp only [List.mem_cons, List.not_mem_nil, or_false] at hg
  rcases hg with rfl
  · exact sorted_at86
end Go.Proofs.YtldfdadpfjcpcaaGreatDoor
