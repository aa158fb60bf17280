/-
  What the laws of the first layer run over, told: the functions by their numbers, the two blocks by their contracts.
-/
import Derived.Test.YtbeohojepniioaaDoorSa
import Derived.Test.YtbeohojepniioaaDoorSb
import Derived.Test.YtbeohojepniioaaDoorShaFun
import Derived.Test.YtbeohojepniioaaDoorEwR
set_option linter.unusedVariables false
namespace Go.Proofs.YtbeohojepniioaaDoor
open Go Ev

noncomputable def lvOf (f : Nat) : Nat → Option Slots :=
  bif Nat.beq f n_law01_ShaBlocks then law01_ShaBlocks.lv else
  bif Nat.beq f n_law01_ShaSums then law01_ShaSums.lv else
  bif Nat.beq f n_law01_ShaChains then law01_ShaChains.lv else
  bif Nat.beq f n_law01_ShaFixed then law01_ShaFixed.lv else
  bif Nat.beq f n_law01_ShaWords then law01_ShaWords.lv else
  bif Nat.beq f n_law01_ShaBack then law01_ShaBack.lv else
  bif Nat.beq f n_law01_awake then law01_awake.lv else
  bif Nat.beq f n_sha_Block then sha_Block.lv else
  bif Nat.beq f n_r01_DocBlock then r01_DocBlock.lv else
  bif Nat.beq f n_r01_Same then r01_Same.lv else
  bif Nat.beq f n_sha_Pad then sha_Pad.lv else
  bif Nat.beq f n_r01_DocPad then r01_DocPad.lv else
  bif Nat.beq f n_sha_Sum then sha_Sum.lv else
  bif Nat.beq f n_r01_Twin then r01_Twin.lv else
  bif Nat.beq f n_r01_Sum then r01_Sum.lv else
  bif Nat.beq f n_r01_First then r01_First.lv else
  bif Nat.beq f n_sha_Parse then sha_Parse.lv else
  bif Nat.beq f n_sha_Hex then sha_Hex.lv else
  bif Nat.beq f n_r01_DocParse then r01_DocParse.lv else
  bif Nat.beq f n_r01_Hex then r01_Hex.lv else
  bif Nat.beq f n_sha_Compare then sha_Compare.lv else
  bif Nat.beq f n_r01_Compare then r01_Compare.lv else
  bif Nat.beq f n_math_bits_RotateLeft32 then math_bits_RotateLeft32.lv else
  bif Nat.beq f n_r01_compress then r01_compress.lv else
  bif Nat.beq f n_bytes_Clone then bytes_Clone.lv else
  bif Nat.beq f n_strings_IndexByte then strings_IndexByte.lv else
  bif Nat.beq f n_strings_Builder_WriteByte then strings_Builder_WriteByte.lv else
  bif Nat.beq f n_strings_Builder_String then strings_Builder_String.lv else
  bif Nat.beq f n_r01_digit then r01_digit.lv else
  bif Nat.beq f n_bytes_Compare then bytes_Compare.lv else
  bif Nat.beq f n_r01_big then r01_big.lv else
  bif Nat.beq f n_r01_right then r01_right.lv else
  bif Nat.beq f n_r01_constants then r01_constants.lv else
  bif Nat.beq f n_stringslite_IndexByte then stringslite_IndexByte.lv else
  bif Nat.beq f n_strings_Builder_copyCheck then strings_Builder_copyCheck.lv else
  fun _ => none
noncomputable def iOf (f : Nat) : Option Ev.Fn := bif Nat.beq f n_sha_Block then some gBlock else bif Nat.beq f n_r01_compress then some gCompress else none
noncomputable def EE (F : Nat) : Env := ⟨PP, GG, xOf xs, iOf, fun f => foLive (lvOf f), F, fun _ => none⟩
noncomputable def cx (F n : Nat) : Cx := ⟨runC (EE F) n, xOf xs, F⟩
theorem gg : gOf = GG := rfl
theorem EE_ok (F : Nat) : (EE F).OK := by
  have key : ∀ f g, iOf f = some g → Owes PP GG f g := by
    intro f g h
    unfold iOf at h
    cases h1 : Nat.beq f n_sha_Block with
    | true =>
      rw [h1] at h
      obtain rfl := Nat.eq_of_beq_eq_true h1
      cases h
      exact gBlock_owes
    | false =>
      rw [h1] at h
      cases h2 : Nat.beq f n_r01_compress with
      | true =>
        rw [h2] at h
        obtain rfl := Nat.eq_of_beq_eq_true h2
        cases h
        exact gCompress_owes GG
      | false => rw [h2] at h; cases h
  exact ⟨by kernel_rfl, xOf_sound rfl xs_ok, xOf_astep xs_ok, fun f g h => (key f g h).1, fun f g h => (key f g h).2, fun o m h => (by cases h)⟩
theorem run_of {F n : Nat} {f : FuncId} {args : List V} {h : AH} {lv : Nat → Option Slots} (hI : iOf f = none) (hl : lvOf f = lv) : runC (EE F) (n + 1) f args h = execFn (cfgS (cx F n)) (foLive lv) F f args h := by
  have e : runC (EE F) (n + 1) f args h = (match iOf f with | some g => g args h | none => execFn (cfgS (cx F n)) (foLive (lvOf f)) F f args h) := rfl
  rw [e, hI, hl]
theorem at_Block (F n : Nat) (args : List V) (h : AH) : runC (EE F) (n + 1) n_sha_Block args h = gBlock args h := rfl
theorem at_Compress (F n : Nat) (args : List V) (h : AH) : runC (EE F) (n + 1) n_r01_compress args h = gCompress args h := rfl
theorem at_X (F n : Nat) (args : List V) (h : AH) : (cx F n).X n_bytealg_IndexByteString args h = absIndexByte args h := rfl
theorem at_law01_ShaBlocks (F n : Nat) (a0 : List V) (a1 : List V) (a2 : Int) (h : AH) : runC (EE F) (n + 1) n_law01_ShaBlocks [(.agg a0), (.agg a1), (.int .i64 a2)] h = law01_ShaBlocks.fn (cx F n) a0 a1 a2 h := (run_of rfl rfl).trans (law01_ShaBlocks.run (cx F n) a0 a1 a2 h)
theorem at_law01_ShaSums (F n : Nat) (a0 : V) (h : AH) : runC (EE F) (n + 1) n_law01_ShaSums [a0] h = law01_ShaSums.fn (cx F n) a0 h := (run_of rfl rfl).trans (law01_ShaSums.run (cx F n) a0 h)
theorem at_law01_ShaChains (F n : Nat) (a0 : V) (h : AH) : runC (EE F) (n + 1) n_law01_ShaChains [a0] h = law01_ShaChains.fn (cx F n) a0 h := (run_of rfl rfl).trans (law01_ShaChains.run (cx F n) a0 h)
theorem at_law01_ShaFixed (F n : Nat) (h : AH) : runC (EE F) (n + 1) n_law01_ShaFixed [] h = law01_ShaFixed.fn (cx F n) h := (run_of rfl rfl).trans (law01_ShaFixed.run (cx F n) h)
theorem at_law01_ShaWords (F n : Nat) (a0 : List V) (a1 : List V) (a2 : List Nat) (h : AH) : runC (EE F) (n + 1) n_law01_ShaWords [(.agg a0), (.agg a1), (.str a2)] h = law01_ShaWords.fn (cx F n) a0 a1 a2 h := (run_of rfl rfl).trans (law01_ShaWords.run (cx F n) a0 a1 a2 h)
theorem at_law01_ShaBack (F n : Nat) (a0 : List V) (a1 : List V) (a2 : List Nat) (h : AH) : runC (EE F) (n + 1) n_law01_ShaBack [(.agg a0), (.agg a1), (.str a2)] h = law01_ShaBack.fn (cx F n) a0 a1 a2 h := (run_of rfl rfl).trans (law01_ShaBack.run (cx F n) a0 a1 a2 h)
theorem at_law01_awake (F n : Nat) (h : AH) : runC (EE F) (n + 1) n_law01_awake [] h = law01_awake.fn (cx F n) h := (run_of rfl rfl).trans (law01_awake.run (cx F n) h)
theorem at_r01_DocBlock (F n : Nat) (a0 : List V) (a1 : List V) (h : AH) : runC (EE F) (n + 1) n_r01_DocBlock [(.agg a0), (.agg a1)] h = r01_DocBlock.fn (cx F n) a0 a1 h := (run_of rfl rfl).trans (r01_DocBlock.run (cx F n) a0 a1 h)
theorem at_r01_Same (F n : Nat) (a0 : V) (a1 : V) (h : AH) : runC (EE F) (n + 1) n_r01_Same [a0, a1] h = r01_Same.fn (cx F n) a0 a1 h := (run_of rfl rfl).trans (r01_Same.run (cx F n) a0 a1 h)
theorem at_sha_Pad (F n : Nat) (a0 : Int) (h : AH) : runC (EE F) (n + 1) n_sha_Pad [(.int .i64 a0)] h = sha_Pad.fn (cx F n) a0 h := (run_of rfl rfl).trans (sha_Pad.run (cx F n) a0 h)
theorem at_r01_DocPad (F n : Nat) (a0 : Int) (h : AH) : runC (EE F) (n + 1) n_r01_DocPad [(.int .i64 a0)] h = r01_DocPad.fn (cx F n) a0 h := (run_of rfl rfl).trans (r01_DocPad.run (cx F n) a0 h)
theorem at_sha_Sum (F n : Nat) (a0 : V) (h : AH) : runC (EE F) (n + 1) n_sha_Sum [a0] h = sha_Sum.fn (cx F n) a0 h := (run_of rfl rfl).trans (sha_Sum.run (cx F n) a0 h)
theorem at_r01_Twin (F n : Nat) (a0 : V) (h : AH) : runC (EE F) (n + 1) n_r01_Twin [a0] h = r01_Twin.fn (cx F n) a0 h := (run_of rfl rfl).trans (r01_Twin.run (cx F n) a0 h)
theorem at_r01_Sum (F n : Nat) (a0 : V) (h : AH) : runC (EE F) (n + 1) n_r01_Sum [a0] h = r01_Sum.fn (cx F n) a0 h := (run_of rfl rfl).trans (r01_Sum.run (cx F n) a0 h)
theorem at_r01_First (F n : Nat) (h : AH) : runC (EE F) (n + 1) n_r01_First [] h = r01_First.fn (cx F n) h := (run_of rfl rfl).trans (r01_First.run (cx F n) h)
theorem at_sha_Parse (F n : Nat) (a0 : List Nat) (h : AH) : runC (EE F) (n + 1) n_sha_Parse [(.str a0)] h = sha_Parse.fn (cx F n) a0 h := (run_of rfl rfl).trans (sha_Parse.run (cx F n) a0 h)
theorem at_sha_Hex (F n : Nat) (a0 : List V) (h : AH) : runC (EE F) (n + 1) n_sha_Hex [(.agg a0)] h = sha_Hex.fn (cx F n) a0 h := (run_of rfl rfl).trans (sha_Hex.run (cx F n) a0 h)
theorem at_r01_DocParse (F n : Nat) (a0 : List Nat) (h : AH) : runC (EE F) (n + 1) n_r01_DocParse [(.str a0)] h = r01_DocParse.fn (cx F n) a0 h := (run_of rfl rfl).trans (r01_DocParse.run (cx F n) a0 h)
theorem at_r01_Hex (F n : Nat) (a0 : List V) (h : AH) : runC (EE F) (n + 1) n_r01_Hex [(.agg a0)] h = r01_Hex.fn (cx F n) a0 h := (run_of rfl rfl).trans (r01_Hex.run (cx F n) a0 h)
theorem at_sha_Compare (F n : Nat) (a0 : List V) (a1 : List V) (h : AH) : runC (EE F) (n + 1) n_sha_Compare [(.agg a0), (.agg a1)] h = sha_Compare.fn (cx F n) a0 a1 h := (run_of rfl rfl).trans (sha_Compare.run (cx F n) a0 a1 h)
theorem at_r01_Compare (F n : Nat) (a0 : List V) (a1 : List V) (h : AH) : runC (EE F) (n + 1) n_r01_Compare [(.agg a0), (.agg a1)] h = r01_Compare.fn (cx F n) a0 a1 h := (run_of rfl rfl).trans (r01_Compare.run (cx F n) a0 a1 h)
theorem at_math_bits_RotateLeft32 (F n : Nat) (a0 : Int) (a1 : Int) (h : AH) : runC (EE F) (n + 1) n_math_bits_RotateLeft32 [(.int .u32 a0), (.int .i64 a1)] h = math_bits_RotateLeft32.fn (cx F n) a0 a1 h := (run_of rfl rfl).trans (math_bits_RotateLeft32.run (cx F n) a0 a1 h)
theorem at_bytes_Clone (F n : Nat) (a0 : V) (h : AH) : runC (EE F) (n + 1) n_bytes_Clone [a0] h = bytes_Clone.fn (cx F n) a0 h := (run_of rfl rfl).trans (bytes_Clone.run (cx F n) a0 h)
theorem at_strings_IndexByte (F n : Nat) (a0 : List Nat) (a1 : Int) (h : AH) : runC (EE F) (n + 1) n_strings_IndexByte [(.str a0), (.int .u8 a1)] h = strings_IndexByte.fn (cx F n) a0 a1 h := (run_of rfl rfl).trans (strings_IndexByte.run (cx F n) a0 a1 h)
theorem at_strings_Builder_WriteByte (F n : Nat) (a0 : V) (a1 : Int) (h : AH) : runC (EE F) (n + 1) n_strings_Builder_WriteByte [a0, (.int .u8 a1)] h = strings_Builder_WriteByte.fn (cx F n) a0 a1 h := (run_of rfl rfl).trans (strings_Builder_WriteByte.run (cx F n) a0 a1 h)
theorem at_strings_Builder_String (F n : Nat) (a0 : V) (h : AH) : runC (EE F) (n + 1) n_strings_Builder_String [a0] h = strings_Builder_String.fn (cx F n) a0 h := (run_of rfl rfl).trans (strings_Builder_String.run (cx F n) a0 h)
theorem at_r01_digit (F n : Nat) (a0 : Int) (h : AH) : runC (EE F) (n + 1) n_r01_digit [(.int .u8 a0)] h = r01_digit.fn (cx F n) a0 h := (run_of rfl rfl).trans (r01_digit.run (cx F n) a0 h)
theorem at_bytes_Compare (F n : Nat) (a0 : V) (a1 : V) (h : AH) : runC (EE F) (n + 1) n_bytes_Compare [a0, a1] h = bytes_Compare.fn (cx F n) a0 a1 h := (run_of rfl rfl).trans (bytes_Compare.run (cx F n) a0 a1 h)
theorem at_r01_big (F n : Nat) (a0 : V) (a1 : Int) (h : AH) : runC (EE F) (n + 1) n_r01_big [a0, (.int .i64 a1)] h = r01_big.fn (cx F n) a0 a1 h := (run_of rfl rfl).trans (r01_big.run (cx F n) a0 a1 h)
theorem at_r01_right (F n : Nat) (a0 : Int) (a1 : Int) (h : AH) : runC (EE F) (n + 1) n_r01_right [(.int .u32 a0), (.int .i64 a1)] h = r01_right.fn (cx F n) a0 a1 h := (run_of rfl rfl).trans (r01_right.run (cx F n) a0 a1 h)
theorem at_r01_constants (F n : Nat) (h : AH) : runC (EE F) (n + 1) n_r01_constants [] h = r01_constants.fn (cx F n) h := (run_of rfl rfl).trans (r01_constants.run (cx F n) h)
theorem at_stringslite_IndexByte (F n : Nat) (a0 : List Nat) (a1 : Int) (h : AH) : runC (EE F) (n + 1) n_stringslite_IndexByte [(.str a0), (.int .u8 a1)] h = stringslite_IndexByte.fn (cx F n) a0 a1 h := (run_of rfl rfl).trans (stringslite_IndexByte.run (cx F n) a0 a1 h)
theorem at_strings_Builder_copyCheck (F n : Nat) (a0 : V) (h : AH) : runC (EE F) (n + 1) n_strings_Builder_copyCheck [a0] h = strings_Builder_copyCheck.fn (cx F n) a0 h := (run_of rfl rfl).trans (strings_Builder_copyCheck.run (cx F n) a0 h)
end Go.Proofs.YtbeohojepniioaaDoor
