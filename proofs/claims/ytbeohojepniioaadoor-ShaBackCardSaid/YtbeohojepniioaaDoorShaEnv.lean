/-
  What the six laws of the first layer run over: the program, the table, the functions without a body.
-/
import Derived.Test.YtbeohojepniioaaDoorEwK
import Derived.Test.YtbeohojepniioaaDoorCards
import Derived.Test.YtbeohojepniioaaDoorTie
set_option linter.unusedVariables false
set_option linter.unusedSimpArgs false
namespace Go.Proofs.YtbeohojepniioaaDoor
open Go Go.ChangeShapes Go.WideShapes Go.ChangeAt Go.RowKit Ev

theorem own : ownKnob Tryd.prog.godebug = none := by kernel_rfl
theorem gK : Tryd.prog.globalNamed "codicil/sha.k" = some 0 := by kernel_rfl
theorem gKType : (Tryd.prog.globals[0]?).map (·.type) = some 43 := by kernel_rfl
theorem gKArr : Tryd.prog.underlying 43 = some (.array 64 22) := by kernel_rfl
theorem gKInt : Tryd.prog.underlying 22 = some (.int .u32) := by kernel_rfl
theorem cells43 : Tryd.prog.cellsOf 43 = 64 := by kernel_rfl
theorem cells22 : Tryd.prog.cellsOf 22 = 1 := by kernel_rfl
def kTab : List Int := [1116352408, 1899447441, 3049323471, 3921009573, 961987163, 1508970993, 2453635748, 2870763221, 3624381080, 310598401, 607225278, 1426881987, 1925078388, 2162078206, 2614888103, 3248222580, 3835390401, 4022224774, 264347078, 604807628, 770255983, 1249150122, 1555081692, 1996064986, 2554220882, 2821834349, 2952996808, 3210313671, 3336571891, 3584528711, 113926993, 338241895, 666307205, 773529912, 1294757372, 1396182291, 1695183700, 1986661051, 2177026350, 2456956037, 2730485921, 2820302411, 3259730800, 3345764771, 3516065817, 3600352804, 4094571909, 275423344, 430227734, 506948616, 659060556, 883997877, 958139571, 1322822218, 1537002063, 1747873779, 1955562222, 2024104815, 2227730452, 2361852424, 2428436474, 2756734187, 3204031479, 3329325298]
theorem table {row : OpenClaim} (hrow : row.laid = [("codicil/sha.k", Rows.laid_codicil_sha_k)]) {W : World} (h : laidMetH Tryd.prog row.laid W) : Lib.TabIs Tryd.prog W "codicil/sha.k" .u32 kTab := by
  rw [hrow] at h
  exact Lib.tabIs_of_head (rest := []) gK gKType gKArr gKInt cells22 cells43 h
noncomputable def tabs (e : Nat) : List Tab := [⟨0, kTab.map (V.int .u32), e⟩]
noncomputable def xs : List XRow := [⟨40, Extern.AbiNoEscape.same, absSame⟩, ⟨39, Extern.BytealgIndexByte.indexByte, absIndexByte⟩, ⟨38, Extern.BytealgCompare.compare, absCompare⟩]
noncomputable def gOf (g : Nat) : Option Nat := bif Nat.beq g 0 then some 64 else none
noncomputable def env : Env := ⟨Tryd.prog, gOf, xOf xs, fun _ => none, fun _ => foTrie, 1000000, fun _ => none⟩
theorem xs_ok : ∀ r ∈ xs, r.OK Tryd.prog := by
  intro r hr
  simp only [xs, List.mem_cons, List.not_mem_nil, or_false] at hr
  rcases hr with rfl | rfl | rfl
  · exact ⟨⟨Tryd.f40, Tryd.func40, by kernel_rfl, by kernel_rfl, by kernel_rfl, by kernel_rfl⟩, fun _ _ _ _ _ _ _ h1 h2 h3 => same_sound h1 h2 h3, same_step⟩
  · exact ⟨⟨Tryd.f39, Tryd.func39, by kernel_rfl, by kernel_rfl, by kernel_rfl, by kernel_rfl⟩, fun _ _ _ _ _ _ _ h1 h2 h3 => indexByte_sound h1 h2 h3, indexByte_step⟩
  · exact ⟨⟨Tryd.f38, Tryd.func38, by kernel_rfl, by kernel_rfl, by kernel_rfl, by kernel_rfl⟩, fun _ _ _ _ _ _ _ h1 h2 h3 => compare_sound h1 h2 h3, compare_step⟩
theorem env_ok : env.OK := ⟨by kernel_rfl, xOf_sound rfl xs_ok, xOf_astep xs_ok, fun f g h => (by cases h), fun f g h => (by cases h), fun o m h => (by cases h)⟩
def spot (g : Nat) : Spot := ⟨g, 0, 64⟩
theorem gOf_tab (e g L : Nat) (h : gOf g = some L) : ∃ t, tabOf (tabs e) g = some t ∧ t.vs.length = L ∧ (spot g).cb = g ∧ (spot g).off = 0 := by
  cases g with
  | zero => cases h; exact ⟨_, rfl, rfl, rfl, rfl⟩
  | succ g => cases h
theorem tabs_fit {W : World} (h : Lib.TabIs Tryd.prog W "codicil/sha.k" .u32 kTab) : ∃ e, (∀ t ∈ tabs e, t.g < 1) ∧ ∀ t ∈ tabs e, t.Fits (spot t.g) W := by
  obtain ⟨e, he⟩ := tab_fits h gK
  refine ⟨e, ?_, ?_⟩
  · intro t ht; simp only [tabs, List.mem_singleton] at ht; subst ht; exact Nat.one_pos
  · intro t ht; simp only [tabs, List.mem_singleton] at ht; subst ht; exact he

/-- A world for the witness: the settled one, the table holding what its initialiser lays. -/
noncomputable def laidWorld (os : Os) : World :=
  { World.holding Tryd.prog os ⟨#[], #[], []⟩ with heap := (World.holding Tryd.prog os ⟨#[], #[], []⟩).heap.modify 0 fun
      | .cells _ t frozen => .cells (kTab.map fun z => Value.int .u32 z).toArray t frozen
      | o => o }
end Go.Proofs.YtbeohojepniioaaDoor
