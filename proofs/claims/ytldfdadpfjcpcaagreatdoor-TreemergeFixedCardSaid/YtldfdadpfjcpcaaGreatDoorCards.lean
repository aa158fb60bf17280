/-
  DERIVED. GIVEN WITH THE SEED: THE CARDS: each row of YtldfdadpfjcpcaaGreatDoorRows.lean that lists a variable, with what it lists TIED to the program's text (the seventh form; the later family's looks); each row that meets fmt, with fmt's text TOLD by the authors' own Lean function (tested against real Go, not proved from fmt's source: count such statements apart). THE CARD IS WHAT COUNTS. Prove the row's statement (the work); the ties are given (YtldfdadpfjcpcaaGreatDoorTie.lean); close each card by the builder's one call (the guide's Derived/Test/ToyasCard.lean, 'card_holds'). Laid BY PROGRAM, IN A SANDBOX (cutbox-door.mjs). By AI agents, Wed Nov 11 2026. No macro, syntax, notation, axiom, sorry.
-/
import Derived.Test.YtldfdadpfjcpcaaGreatDoorRows
import GoSem.ClaimSeven
namespace Go.Proofs.YtldfdadpfjcpcaaGreatDoor
namespace Rows

/-- THE TIED CARD OF 'codicillaw23.TreemergeFixed'. -/
def treemergeFixedCard : Claim7 := { stood := { row := treemergeFixedRow, standIns := [], harness := (true, "8bd18bb515ae7efe61906bd4e7a8f0205abb035626edcb37ea909d8c82b9c58e"), looks := false }, kinds := [], alts := [], laidByText := true, laidKinds := [.data, .data, .data, .data, .widerDeep, .data, .data, .data, .pinned, .pinned], laidTests := true, laidLooks := .later }
def TreemergeFixedCardSaid : Prop := Claim7.holds Tryz.pinned (.plain (OpenSpec.ofChange treemergeFixedSpec)) treemergeFixedCard

/-- THE SECOND FORM's CARD OF 'codicillaw23.TreemergeFixed'. -/
def treemergeFixedUptoCard : Claim7 := { stood := { row := treemergeFixedUptoRow, standIns := [], harness := (true, "8bd18bb515ae7efe61906bd4e7a8f0205abb035626edcb37ea909d8c82b9c58e"), looks := false }, kinds := [], alts := [], laidByText := true, laidKinds := [.data, .data, .data, .data, .widerDeep, .data, .data, .data, .pinned, .pinned], laidTests := true, laidLooks := .later }
def TreemergeFixedUptoCardSaid : Prop := Claim7.holds Tryz.pinned (.plain (OpenSpec.upto treemergeFixedSpec)) treemergeFixedUptoCard
end Rows
end Go.Proofs.YtldfdadpfjcpcaaGreatDoor
