/-
  DERIVED. GIVEN WITH THE SEED: THE CARDS: each row of YtbeohojepniioaaDoorRows.lean that lists a variable, with what it lists TIED to the program's text (the seventh form; the later family's looks); each row that meets fmt, with fmt's text TOLD by the authors' own Lean function (tested against real Go, not proved from fmt's source: count such statements apart). THE CARD IS WHAT COUNTS. Prove the row's statement (the work); the ties are given (YtbeohojepniioaaDoorTie.lean); close each card by the builder's one call (the guide's Derived/Test/ToyasCard.lean, 'card_holds'). Laid BY PROGRAM, IN A SANDBOX (cutbox-door.mjs). By AI agents, Wed Nov 11 2026. No macro, syntax, notation, axiom, sorry.
-/
import Derived.Test.YtbeohojepniioaaDoorRows
import GoSem.ClaimSeven
namespace Go.Proofs.YtbeohojepniioaaDoor
namespace Rows

/-- THE TIED CARD OF 'codicillaw01.ShaBlocks'. -/
def shaBlocksCard : Claim7 := { stood := { row := shaBlocksRow, standIns := [], harness := (true, "88c0567b0d06456341a89ebc5e0f37e9d27a9df82f0b47807d2493a172cdad81"), looks := false }, kinds := [], alts := [], laidByText := true, laidKinds := [.data], laidTests := true, laidLooks := .later }
def ShaBlocksCardSaid : Prop := Claim7.holds Tryd.pinned (.plain (OpenSpec.ofChange shaBlocksSpec)) shaBlocksCard

/-- THE TIED CARD OF 'codicillaw01.ShaSums'. -/
def shaSumsCard : Claim7 := { stood := { row := shaSumsRow, standIns := [], harness := (true, "88c0567b0d06456341a89ebc5e0f37e9d27a9df82f0b47807d2493a172cdad81"), looks := false }, kinds := [], alts := [], laidByText := true, laidKinds := [.data], laidTests := true, laidLooks := .later }
def ShaSumsCardSaid : Prop := Claim7.holds Tryd.pinned (.plain (OpenSpec.ofChange shaSumsSpec)) shaSumsCard

/-- THE TIED CARD OF 'codicillaw01.ShaChains'. -/
def shaChainsCard : Claim7 := { stood := { row := shaChainsRow, standIns := [], harness := (true, "88c0567b0d06456341a89ebc5e0f37e9d27a9df82f0b47807d2493a172cdad81"), looks := false }, kinds := [], alts := [], laidByText := true, laidKinds := [.data], laidTests := true, laidLooks := .later }
def ShaChainsCardSaid : Prop := Claim7.holds Tryd.pinned (.plain (OpenSpec.ofChange shaChainsSpec)) shaChainsCard

/-- THE TIED CARD OF 'codicillaw01.ShaFixed'. -/
def shaFixedCard : Claim7 := { stood := { row := shaFixedRow, standIns := [], harness := (true, "88c0567b0d06456341a89ebc5e0f37e9d27a9df82f0b47807d2493a172cdad81"), looks := false }, kinds := [], alts := [], laidByText := true, laidKinds := [.data], laidTests := true, laidLooks := .later }
def ShaFixedCardSaid : Prop := Claim7.holds Tryd.pinned (.plain (OpenSpec.ofChange shaFixedSpec)) shaFixedCard

/-- THE TIED CARD OF 'codicillaw01.ShaWords'. -/
def shaWordsCard : Claim7 := { stood := { row := shaWordsRow, standIns := [], harness := (true, "88c0567b0d06456341a89ebc5e0f37e9d27a9df82f0b47807d2493a172cdad81"), looks := false }, kinds := [], alts := [], laidByText := true, laidKinds := [.data], laidTests := true, laidLooks := .later }
def ShaWordsCardSaid : Prop := Claim7.holds Tryd.pinned (.plain (OpenSpec.ofChange shaWordsSpec)) shaWordsCard

/-- THE TIED CARD OF 'codicillaw01.ShaBack'. -/
def shaBackCard : Claim7 := { stood := { row := shaBackRow, standIns := [], harness := (true, "88c0567b0d06456341a89ebc5e0f37e9d27a9df82f0b47807d2493a172cdad81"), looks := false }, kinds := [], alts := [], laidByText := true, laidKinds := [.data], laidTests := true, laidLooks := .later }
def ShaBackCardSaid : Prop := Claim7.holds Tryd.pinned (.plain (OpenSpec.ofChange shaBackSpec)) shaBackCard

/-- THE SECOND FORM's CARD OF 'codicillaw01.ShaBlocks'. -/
def shaBlocksUptoCard : Claim7 := { stood := { row := shaBlocksUptoRow, standIns := [], harness := (true, "88c0567b0d06456341a89ebc5e0f37e9d27a9df82f0b47807d2493a172cdad81"), looks := false }, kinds := [], alts := [], laidByText := true, laidKinds := [.data], laidTests := true, laidLooks := .later }
def ShaBlocksUptoCardSaid : Prop := Claim7.holds Tryd.pinned (.plain (OpenSpec.upto shaBlocksSpec)) shaBlocksUptoCard

/-- THE SECOND FORM's CARD OF 'codicillaw01.ShaSums'. -/
def shaSumsUptoCard : Claim7 := { stood := { row := shaSumsUptoRow, standIns := [], harness := (true, "88c0567b0d06456341a89ebc5e0f37e9d27a9df82f0b47807d2493a172cdad81"), looks := false }, kinds := [], alts := [], laidByText := true, laidKinds := [.data], laidTests := true, laidLooks := .later }
def ShaSumsUptoCardSaid : Prop := Claim7.holds Tryd.pinned (.plain (OpenSpec.upto shaSumsSpec)) shaSumsUptoCard

/-- THE SECOND FORM's CARD OF 'codicillaw01.ShaChains'. -/
def shaChainsUptoCard : Claim7 := { stood := { row := shaChainsUptoRow, standIns := [], harness := (true, "88c0567b0d06456341a89ebc5e0f37e9d27a9df82f0b47807d2493a172cdad81"), looks := false }, kinds := [], alts := [], laidByText := true, laidKinds := [.data], laidTests := true, laidLooks := .later }
def ShaChainsUptoCardSaid : Prop := Claim7.holds Tryd.pinned (.plain (OpenSpec.upto shaChainsSpec)) shaChainsUptoCard

/-- THE SECOND FORM's CARD OF 'codicillaw01.ShaFixed'. -/
def shaFixedUptoCard : Claim7 := { stood := { row := shaFixedUptoRow, standIns := [], harness := (true, "88c0567b0d06456341a89ebc5e0f37e9d27a9df82f0b47807d2493a172cdad81"), looks := false }, kinds := [], alts := [], laidByText := true, laidKinds := [.data], laidTests := true, laidLooks := .later }
def ShaFixedUptoCardSaid : Prop := Claim7.holds Tryd.pinned (.plain (OpenSpec.upto shaFixedSpec)) shaFixedUptoCard

/-- THE SECOND FORM's CARD OF 'codicillaw01.ShaWords'. -/
def shaWordsUptoCard : Claim7 := { stood := { row := shaWordsUptoRow, standIns := [], harness := (true, "88c0567b0d06456341a89ebc5e0f37e9d27a9df82f0b47807d2493a172cdad81"), looks := false }, kinds := [], alts := [], laidByText := true, laidKinds := [.data], laidTests := true, laidLooks := .later }
def ShaWordsUptoCardSaid : Prop := Claim7.holds Tryd.pinned (.plain (OpenSpec.upto shaWordsSpec)) shaWordsUptoCard

/-- THE SECOND FORM's CARD OF 'codicillaw01.ShaBack'. -/
def shaBackUptoCard : Claim7 := { stood := { row := shaBackUptoRow, standIns := [], harness := (true, "88c0567b0d06456341a89ebc5e0f37e9d27a9df82f0b47807d2493a172cdad81"), looks := false }, kinds := [], alts := [], laidByText := true, laidKinds := [.data], laidTests := true, laidLooks := .later }
def ShaBackUptoCardSaid : Prop := Claim7.holds Tryd.pinned (.plain (OpenSpec.upto shaBackSpec)) shaBackUptoCard
end Rows
end Go.Proofs.YtbeohojepniioaaDoor
