/-
  DERIVED. GIVEN WITH THE SEED: THE CARDS: each row of YtdjedkbmijendaaGreatDoorRows.lean that lists a variable, with what it lists TIED to the program's text (the seventh form; the later family's looks); each row that meets fmt, with fmt's text TOLD by the authors' own Lean function (tested against real Go, not proved from fmt's source: count such statements apart). THE CARD IS WHAT COUNTS. Prove the row's statement (the work); the ties are given (YtdjedkbmijendaaGreatDoorTie.lean); close each card by the builder's one call (the guide's Derived/Test/ToyasCard.lean, 'card_holds'). Laid BY PROGRAM, IN A SANDBOX (cutbox-door.mjs). By AI agents, Wed Nov 11 2026. No macro, syntax, notation, axiom, sorry.
-/
import Derived.Test.YtdjedkbmijendaaGreatDoorRows
import GoSem.ClaimSeven
namespace Go.Proofs.YtdjedkbmijendaaGreatDoor
namespace Rows

/-- THE TIED CARD OF 'codicillaw20.RenameLikes'. -/
def renameLikesCard : Claim7 := { stood := { row := renameLikesRow, standIns := [], harness := (true, "0e77c700cdf3cabfe3328b7f9c9c1fba38f5023614df075b3050da7202006721"), looks := true }, kinds := [], alts := [], laidByText := true, laidKinds := [.data, .data, .data, .data, .widerDeep, .data, .data, .data, .pinned, .pinned], laidTests := true, laidLooks := .later }
def RenameLikesCardSaid : Prop := Claim7.holds Tryz.pinned (.plain (OpenSpec.ofChange renameLikesSpec)) renameLikesCard

/-- THE TIED CARD OF 'codicillaw20.RenameChanges'. -/
def renameChangesCard : Claim7 := { stood := { row := renameChangesRow, standIns := [], harness := (true, "0e77c700cdf3cabfe3328b7f9c9c1fba38f5023614df075b3050da7202006721"), looks := true }, kinds := [], alts := [], laidByText := true, laidKinds := [.data, .data, .data, .data, .widerDeep, .data, .data, .data, .pinned, .pinned], laidTests := true, laidLooks := .later }
def RenameChangesCardSaid : Prop := Claim7.holds Tryz.pinned (.plain (OpenSpec.ofChange renameChangesSpec)) renameChangesCard

/-- THE TIED CARD OF 'codicillaw20.RenameFixed'. -/
def renameFixedCard : Claim7 := { stood := { row := renameFixedRow, standIns := [], harness := (true, "0e77c700cdf3cabfe3328b7f9c9c1fba38f5023614df075b3050da7202006721"), looks := true }, kinds := [], alts := [], laidByText := true, laidKinds := [.data, .data, .data, .data, .widerDeep, .data, .data, .data, .pinned, .pinned], laidTests := true, laidLooks := .later }
def RenameFixedCardSaid : Prop := Claim7.holds Tryz.pinned (.plain (OpenSpec.ofChange renameFixedSpec)) renameFixedCard

/-- THE SECOND FORM's CARD OF 'codicillaw20.RenameLikes'. -/
def renameLikesUptoCard : Claim7 := { stood := { row := renameLikesUptoRow, standIns := [], harness := (true, "0e77c700cdf3cabfe3328b7f9c9c1fba38f5023614df075b3050da7202006721"), looks := true }, kinds := [], alts := [], laidByText := true, laidKinds := [.data, .data, .data, .data, .widerDeep, .data, .data, .data, .pinned, .pinned], laidTests := true, laidLooks := .later }
def RenameLikesUptoCardSaid : Prop := Claim7.holds Tryz.pinned (.plain (OpenSpec.upto renameLikesSpec)) renameLikesUptoCard

/-- THE SECOND FORM's CARD OF 'codicillaw20.RenameChanges'. -/
def renameChangesUptoCard : Claim7 := { stood := { row := renameChangesUptoRow, standIns := [], harness := (true, "0e77c700cdf3cabfe3328b7f9c9c1fba38f5023614df075b3050da7202006721"), looks := true }, kinds := [], alts := [], laidByText := true, laidKinds := [.data, .data, .data, .data, .widerDeep, .data, .data, .data, .pinned, .pinned], laidTests := true, laidLooks := .later }
def RenameChangesUptoCardSaid : Prop := Claim7.holds Tryz.pinned (.plain (OpenSpec.upto renameChangesSpec)) renameChangesUptoCard

/-- THE SECOND FORM's CARD OF 'codicillaw20.RenameFixed'. -/
def renameFixedUptoCard : Claim7 := { stood := { row := renameFixedUptoRow, standIns := [], harness := (true, "0e77c700cdf3cabfe3328b7f9c9c1fba38f5023614df075b3050da7202006721"), looks := true }, kinds := [], alts := [], laidByText := true, laidKinds := [.data, .data, .data, .data, .widerDeep, .data, .data, .data, .pinned, .pinned], laidTests := true, laidLooks := .later }
def RenameFixedUptoCardSaid : Prop := Claim7.holds Tryz.pinned (.plain (OpenSpec.upto renameFixedSpec)) renameFixedUptoCard
end Rows
end Go.Proofs.YtdjedkbmijendaaGreatDoor
