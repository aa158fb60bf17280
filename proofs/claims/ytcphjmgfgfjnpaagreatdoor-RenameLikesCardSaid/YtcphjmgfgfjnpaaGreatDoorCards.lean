/-
  DERIVED. GIVEN WITH THE SEED: THE CARDS: each row of YtcphjmgfgfjnpaaGreatDoorRows.lean that lists a variable, with what it lists TIED to the program's text (the seventh form; the later family's looks); each row that meets fmt, with fmt's text TOLD by the authors' own Lean function (tested against real Go, not proved from fmt's source: count such statements apart). THE CARD IS WHAT COUNTS. Prove the row's statement (the work); the ties are given (YtcphjmgfgfjnpaaGreatDoorTie.lean); close each card by the builder's one call (the guide's Derived/Test/ToyasCard.lean, 'card_holds'). Laid BY PROGRAM, IN A SANDBOX (cutbox-door.mjs). By AI agents, Wed Nov 11 2026. No macro, syntax, notation, axiom, sorry.
-/
import Derived.Test.YtcphjmgfgfjnpaaGreatDoorRows
import GoSem.ClaimSeven
namespace Go.Proofs.YtcphjmgfgfjnpaaGreatDoor
namespace Rows

/-- THE TIED CARD OF 'codicillaw20.RenameLikes'. -/
def renameLikesCard : Claim7 := { stood := { row := renameLikesRow, standIns := [], harness := (true, "b1e864152b4f7c6932f3947706a2a5031b825253f2e3a821aa1772775974e948"), looks := false }, kinds := [], alts := [], laidByText := true, laidKinds := [.data, .data, .data, .data, .widerDeep, .data, .data, .data, .pinned, .pinned], laidTests := true, laidLooks := .later }
def RenameLikesCardSaid : Prop := Claim7.holds Tryz.pinned (.plain (OpenSpec.ofChange renameLikesSpec)) renameLikesCard

/-- THE SECOND FORM's CARD OF 'codicillaw20.RenameLikes'. -/
def renameLikesUptoCard : Claim7 := { stood := { row := renameLikesUptoRow, standIns := [], harness := (true, "b1e864152b4f7c6932f3947706a2a5031b825253f2e3a821aa1772775974e948"), looks := false }, kinds := [], alts := [], laidByText := true, laidKinds := [.data, .data, .data, .data, .widerDeep, .data, .data, .data, .pinned, .pinned], laidTests := true, laidLooks := .later }
def RenameLikesUptoCardSaid : Prop := Claim7.holds Tryz.pinned (.plain (OpenSpec.upto renameLikesSpec)) renameLikesUptoCard
end Rows
end Go.Proofs.YtcphjmgfgfjnpaaGreatDoor
