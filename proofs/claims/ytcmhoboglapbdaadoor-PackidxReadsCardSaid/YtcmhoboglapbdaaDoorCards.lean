/-
  DERIVED. GIVEN WITH THE SEED: THE CARDS: each row of YtcmhoboglapbdaaDoorRows.lean that lists a variable, with what it lists TIED to the program's text (the seventh form; the later family's looks); each row that meets fmt, with fmt's text TOLD by the authors' own Lean function (tested against real Go, not proved from fmt's source: count such statements apart). THE CARD IS WHAT COUNTS. Prove the row's statement (the work); the ties are given (YtcmhoboglapbdaaDoorTie.lean); close each card by the builder's one call (the guide's Derived/Test/ToyasCard.lean, 'card_holds'). Laid BY PROGRAM, IN A SANDBOX (cutbox-door.mjs). By AI agents, Wed Nov 11 2026. No macro, syntax, notation, axiom, sorry.
-/
import Derived.Test.YtcmhoboglapbdaaDoorRows
import GoSem.ClaimSeven
namespace Go.Proofs.YtcmhoboglapbdaaDoor
namespace Rows

/-- THE TIED CARD OF 'codicillaw10.PackidxBuilds'. -/
def packidxBuildsCard : Claim7 := { stood := { row := packidxBuildsRow, standIns := [], harness := (true, "78ef1a2ab61da3355083f83e224517ec4704bcb4705ac59bd284ea37844beae1"), looks := false }, kinds := [], alts := [], laidByText := true, laidKinds := [.data], laidTests := true, laidLooks := .later }
def PackidxBuildsCardSaid : Prop := Claim7.holds Tryd.pinned (.plain (OpenSpec.ofChange packidxBuildsSpec)) packidxBuildsCard

/-- THE TIED CARD OF 'codicillaw10.PackidxReads'. -/
def packidxReadsCard : Claim7 := { stood := { row := packidxReadsRow, standIns := [], harness := (true, "78ef1a2ab61da3355083f83e224517ec4704bcb4705ac59bd284ea37844beae1"), looks := false }, kinds := [], alts := [], laidByText := true, laidKinds := [.data], laidTests := true, laidLooks := .later }
def PackidxReadsCardSaid : Prop := Claim7.holds Tryd.pinned (.plain (OpenSpec.ofChange packidxReadsSpec)) packidxReadsCard

/-- THE TIED CARD OF 'codicillaw10.PackidxThere'. -/
def packidxThereCard : Claim7 := { stood := { row := packidxThereRow, standIns := [], harness := (true, "78ef1a2ab61da3355083f83e224517ec4704bcb4705ac59bd284ea37844beae1"), looks := false }, kinds := [], alts := [], laidByText := true, laidKinds := [.data], laidTests := true, laidLooks := .later }
def PackidxThereCardSaid : Prop := Claim7.holds Tryd.pinned (.plain (OpenSpec.ofChange packidxThereSpec)) packidxThereCard

/-- THE TIED CARD OF 'codicillaw10.PackidxFixed'. -/
def packidxFixedCard : Claim7 := { stood := { row := packidxFixedRow, standIns := [], harness := (true, "78ef1a2ab61da3355083f83e224517ec4704bcb4705ac59bd284ea37844beae1"), looks := false }, kinds := [], alts := [], laidByText := true, laidKinds := [.data], laidTests := true, laidLooks := .later }
def PackidxFixedCardSaid : Prop := Claim7.holds Tryd.pinned (.plain (OpenSpec.ofChange packidxFixedSpec)) packidxFixedCard

/-- THE TIED CARD OF 'codicillaw10.PackidxMemory'. -/
def packidxMemoryCard : Claim7 := { stood := { row := packidxMemoryRow, standIns := [], harness := (true, "78ef1a2ab61da3355083f83e224517ec4704bcb4705ac59bd284ea37844beae1"), looks := false }, kinds := [], alts := [], laidByText := true, laidKinds := [.data], laidTests := true, laidLooks := .later }
def PackidxMemoryCardSaid : Prop := Claim7.holds Tryd.pinned (.plain (OpenSpec.ofChange packidxMemorySpec)) packidxMemoryCard

/-- THE SECOND FORM's CARD OF 'codicillaw10.PackidxBuilds'. -/
def packidxBuildsUptoCard : Claim7 := { stood := { row := packidxBuildsUptoRow, standIns := [], harness := (true, "78ef1a2ab61da3355083f83e224517ec4704bcb4705ac59bd284ea37844beae1"), looks := false }, kinds := [], alts := [], laidByText := true, laidKinds := [.data], laidTests := true, laidLooks := .later }
def PackidxBuildsUptoCardSaid : Prop := Claim7.holds Tryd.pinned (.plain (OpenSpec.upto packidxBuildsSpec)) packidxBuildsUptoCard

/-- THE SECOND FORM's CARD OF 'codicillaw10.PackidxReads'. -/
def packidxReadsUptoCard : Claim7 := { stood := { row := packidxReadsUptoRow, standIns := [], harness := (true, "78ef1a2ab61da3355083f83e224517ec4704bcb4705ac59bd284ea37844beae1"), looks := false }, kinds := [], alts := [], laidByText := true, laidKinds := [.data], laidTests := true, laidLooks := .later }
def PackidxReadsUptoCardSaid : Prop := Claim7.holds Tryd.pinned (.plain (OpenSpec.upto packidxReadsSpec)) packidxReadsUptoCard

/-- THE SECOND FORM's CARD OF 'codicillaw10.PackidxThere'. -/
def packidxThereUptoCard : Claim7 := { stood := { row := packidxThereUptoRow, standIns := [], harness := (true, "78ef1a2ab61da3355083f83e224517ec4704bcb4705ac59bd284ea37844beae1"), looks := false }, kinds := [], alts := [], laidByText := true, laidKinds := [.data], laidTests := true, laidLooks := .later }
def PackidxThereUptoCardSaid : Prop := Claim7.holds Tryd.pinned (.plain (OpenSpec.upto packidxThereSpec)) packidxThereUptoCard

/-- THE SECOND FORM's CARD OF 'codicillaw10.PackidxFixed'. -/
def packidxFixedUptoCard : Claim7 := { stood := { row := packidxFixedUptoRow, standIns := [], harness := (true, "78ef1a2ab61da3355083f83e224517ec4704bcb4705ac59bd284ea37844beae1"), looks := false }, kinds := [], alts := [], laidByText := true, laidKinds := [.data], laidTests := true, laidLooks := .later }
def PackidxFixedUptoCardSaid : Prop := Claim7.holds Tryd.pinned (.plain (OpenSpec.upto packidxFixedSpec)) packidxFixedUptoCard

/-- THE SECOND FORM's CARD OF 'codicillaw10.PackidxMemory'. -/
def packidxMemoryUptoCard : Claim7 := { stood := { row := packidxMemoryUptoRow, standIns := [], harness := (true, "78ef1a2ab61da3355083f83e224517ec4704bcb4705ac59bd284ea37844beae1"), looks := false }, kinds := [], alts := [], laidByText := true, laidKinds := [.data], laidTests := true, laidLooks := .later }
def PackidxMemoryUptoCardSaid : Prop := Claim7.holds Tryd.pinned (.plain (OpenSpec.upto packidxMemorySpec)) packidxMemoryUptoCard
end Rows
end Go.Proofs.YtcmhoboglapbdaaDoor
