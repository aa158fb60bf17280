/-
  The two ways through a block: what the own machine makes of the code, by the kernel, for any words and bytes.
-/
import Derived.Test.YtbeohojepniioaaDoorShaModel
namespace Go.Proofs.YtbeohojepniioaaDoor
open Go Ev

def ints (n : Nat) (f : Nat → Int) : List Int := (List.range n).map f
noncomputable def tabK (e : Nat) (k : List Int) : List Tab := [⟨0, k.map (V.int .u32), e⟩]
noncomputable def env0 : Env := ⟨Tryd.prog, fun _ => none, xOf xs, fun _ => none, fun _ => foTrie, 1000000, fun _ => none⟩
noncomputable def tabB (e : Nat) (k : List Int) : List Tab := [⟨1, k.map (V.int .u8), e⟩]
set_option maxRecDepth 100000
theorem block_run (f g k : Nat → Int) (e : Nat) : (runC env 20 10 [.agg ((ints 8 f).map (V.int .u32)), .agg ((ints 64 g).map (V.int .u8))] (tabsH 1 (tabK e (ints 64 k)))).map (·.1) = some (.agg ((blockA (ints 64 k) (ints 8 f) (ints 64 g)).map (V.int .u32))) := by kernel_rfl
theorem compress_run (f g : Nat → Int) (e : Nat) : (runC env0 20 26 [.agg ((ints 8 f).map (V.int .u32)), .slice ⟨1, 64, 0⟩ 64 64 false 1] (tabsH 2 (tabB e (ints 64 g)))).map (·.1) = some (.agg ((blockB kTab (ints 8 f) (ints 64 g)).map (V.int .u32))) := by kernel_rfl
end Go.Proofs.YtbeohojepniioaaDoor
