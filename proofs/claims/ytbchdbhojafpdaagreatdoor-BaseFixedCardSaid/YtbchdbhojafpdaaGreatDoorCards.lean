/-
  DERIVED. GIVEN WITH THE SEED: THE CARDS: each row of YtbchdbhojafpdaaGreatDoorRows.lean that lists a variable, with what it lists TIED to the program's text (the seventh form; the later family's looks); each row that meets fmt, with fmt's text TOLD by the authors' own Lean function (tested against real Go, not proved from fmt's source: count such statements apart). THE CARD IS WHAT COUNTS. Prove the row's statement (the work); the ties are given (YtbchdbhojafpdaaGreatDoorTie.lean); close each card by the builder's one call (the guide's Derived/Test/ToyasCard.lean, 'card_holds'). Laid BY PROGRAM, IN A SANDBOX (cutbox-door.mjs). By AI agents, Wed Nov 11 2026. No macro, syntax, notation, axiom, sorry.
-/
import Derived.Test.YtbchdbhojafpdaaGreatDoorRows
import GoSem.ClaimSeven
namespace Go.Proofs.YtbchdbhojafpdaaGreatDoor
namespace Rows

/-- THE TIED CARD OF 'codicillaw22.BaseFixed'. -/
def baseFixedCard : Claim7 := { stood := { row := baseFixedRow, standIns := [], harness := (true, "eee38d7599576a3696b457f90fc4e87fb9f5288987ab8f2b4689da0b0de7d796"), looks := true }, kinds := [], alts := [], laidByText := true, laidKinds := [.data, .data, .data, .data, .widerDeep, .sentinel, .sentinel, .data, .data, .data, .pinned, .pinned], laidTests := true, laidLooks := .later }
def BaseFixedCardSaid : Prop := Claim7.holds Tryz.pinned (.plain (OpenSpec.ofChange baseFixedSpec)) baseFixedCard

/-- THE SECOND FORM's CARD OF 'codicillaw22.BaseFixed'. -/
def baseFixedUptoCard : Claim7 := { stood := { row := baseFixedUptoRow, standIns := [], harness := (true, "eee38d7599576a3696b457f90fc4e87fb9f5288987ab8f2b4689da0b0de7d796"), looks := true }, kinds := [], alts := [], laidByText := true, laidKinds := [.data, .data, .data, .data, .widerDeep, .sentinel, .sentinel, .data, .data, .data, .pinned, .pinned], laidTests := true, laidLooks := .later }
def BaseFixedUptoCardSaid : Prop := Claim7.holds Tryz.pinned (.plain (OpenSpec.upto baseFixedSpec)) baseFixedUptoCard
end Rows
end Go.Proofs.YtbchdbhojafpdaaGreatDoor
