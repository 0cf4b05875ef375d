/-
  DERIVED. GIVEN WITH THE SEED: THE CARDS: each row of YtpnhedlciamegaaDoorRows.lean that lists a variable, with what it lists TIED to the program's text (the seventh form; the later family's looks); each row that meets fmt, with fmt's text TOLD by the authors' own Lean function (tested against real Go, not proved from fmt's source: count such statements apart). THE CARD IS WHAT COUNTS. Prove the row's statement (the work); the ties are given (YtpnhedlciamegaaDoorTie.lean); close each card by the builder's one call (the guide's Derived/Test/ToyasCard.lean, 'card_holds'). Laid BY PROGRAM, IN A SANDBOX (cutbox-door.mjs). By AI agents, Wed Nov 11 2026. No macro, syntax, notation, axiom, sorry.
-/
import Derived.Test.YtpnhedlciamegaaDoorRows
import GoSem.ClaimSeven
namespace Go.Proofs.YtpnhedlciamegaaDoor
namespace Rows

/-- THE TIED CARD OF 'cryptexlaw14.KeysNonces'. -/
def keysNoncesCard : Claim7 := { stood := { row := keysNoncesRow, standIns := [], harness := (true, "7ce527b63b6d9b64ba70215964cffa66f990704f8ed3aad88521c9acb8d03f6f"), looks := true }, kinds := [], alts := [], laidByText := true, laidKinds := [.data, .data, .mapped], laidTests := true, laidLooks := .later }
def KeysNoncesCardSaid : Prop := Claim7.holds Tryd.pinned (.plain (OpenSpec.ofChange keysNoncesSpec)) keysNoncesCard

/-- THE TIED CARD OF 'cryptexlaw14.KeysLabels'. -/
def keysLabelsCard : Claim7 := { stood := { row := keysLabelsRow, standIns := [], harness := (true, "7ce527b63b6d9b64ba70215964cffa66f990704f8ed3aad88521c9acb8d03f6f"), looks := true }, kinds := [], alts := [], laidByText := true, laidKinds := [.data, .data, .mapped], laidTests := true, laidLooks := .later }
def KeysLabelsCardSaid : Prop := Claim7.holds Tryd.pinned (.plain (OpenSpec.ofChange keysLabelsSpec)) keysLabelsCard

/-- THE TIED CARD OF 'cryptexlaw18.VaultBack'. -/
def vaultBackCard : Claim7 := { stood := { row := vaultBackRow, standIns := [], harness := (true, "7ce527b63b6d9b64ba70215964cffa66f990704f8ed3aad88521c9acb8d03f6f"), looks := true }, kinds := [], alts := [], laidByText := true, laidKinds := [.data, .data], laidTests := true, laidLooks := .later }
def VaultBackCardSaid : Prop := Claim7.holds Tryd.pinned (.plain (OpenSpec.ofChange vaultBackSpec)) vaultBackCard

/-- THE TIED CARD OF 'cryptexlaw18.VaultStays'. -/
def vaultStaysCard : Claim7 := { stood := { row := vaultStaysRow, standIns := [], harness := (true, "7ce527b63b6d9b64ba70215964cffa66f990704f8ed3aad88521c9acb8d03f6f"), looks := true }, kinds := [], alts := [], laidByText := true, laidKinds := [.data, .data], laidTests := true, laidLooks := .later }
def VaultStaysCardSaid : Prop := Claim7.holds Tryd.pinned (.plain (OpenSpec.ofChange vaultStaysSpec)) vaultStaysCard

/-- THE TIED CARD OF 'cryptexlaw18.VaultChain'. -/
def vaultChainCard : Claim7 := { stood := { row := vaultChainRow, standIns := [], harness := (true, "7ce527b63b6d9b64ba70215964cffa66f990704f8ed3aad88521c9acb8d03f6f"), looks := true }, kinds := [], alts := [], laidByText := true, laidKinds := [.data, .data], laidTests := true, laidLooks := .later }
def VaultChainCardSaid : Prop := Claim7.holds Tryd.pinned (.plain (OpenSpec.ofChange vaultChainSpec)) vaultChainCard

/-- THE SECOND FORM's CARD OF 'cryptexlaw14.KeysNonces'. -/
def keysNoncesUptoCard : Claim7 := { stood := { row := keysNoncesUptoRow, standIns := [], harness := (true, "7ce527b63b6d9b64ba70215964cffa66f990704f8ed3aad88521c9acb8d03f6f"), looks := true }, kinds := [], alts := [], laidByText := true, laidKinds := [.data, .data, .mapped], laidTests := true, laidLooks := .later }
def KeysNoncesUptoCardSaid : Prop := Claim7.holds Tryd.pinned (.plain (OpenSpec.upto keysNoncesSpec)) keysNoncesUptoCard

/-- THE SECOND FORM's CARD OF 'cryptexlaw14.KeysLabels'. -/
def keysLabelsUptoCard : Claim7 := { stood := { row := keysLabelsUptoRow, standIns := [], harness := (true, "7ce527b63b6d9b64ba70215964cffa66f990704f8ed3aad88521c9acb8d03f6f"), looks := true }, kinds := [], alts := [], laidByText := true, laidKinds := [.data, .data, .mapped], laidTests := true, laidLooks := .later }
def KeysLabelsUptoCardSaid : Prop := Claim7.holds Tryd.pinned (.plain (OpenSpec.upto keysLabelsSpec)) keysLabelsUptoCard

/-- THE SECOND FORM's CARD OF 'cryptexlaw18.VaultBack'. -/
def vaultBackUptoCard : Claim7 := { stood := { row := vaultBackUptoRow, standIns := [], harness := (true, "7ce527b63b6d9b64ba70215964cffa66f990704f8ed3aad88521c9acb8d03f6f"), looks := true }, kinds := [], alts := [], laidByText := true, laidKinds := [.data, .data], laidTests := true, laidLooks := .later }
def VaultBackUptoCardSaid : Prop := Claim7.holds Tryd.pinned (.plain (OpenSpec.upto vaultBackSpec)) vaultBackUptoCard

/-- THE SECOND FORM's CARD OF 'cryptexlaw18.VaultStays'. -/
def vaultStaysUptoCard : Claim7 := { stood := { row := vaultStaysUptoRow, standIns := [], harness := (true, "7ce527b63b6d9b64ba70215964cffa66f990704f8ed3aad88521c9acb8d03f6f"), looks := true }, kinds := [], alts := [], laidByText := true, laidKinds := [.data, .data], laidTests := true, laidLooks := .later }
def VaultStaysUptoCardSaid : Prop := Claim7.holds Tryd.pinned (.plain (OpenSpec.upto vaultStaysSpec)) vaultStaysUptoCard

/-- THE SECOND FORM's CARD OF 'cryptexlaw18.VaultChain'. -/
def vaultChainUptoCard : Claim7 := { stood := { row := vaultChainUptoRow, standIns := [], harness := (true, "7ce527b63b6d9b64ba70215964cffa66f990704f8ed3aad88521c9acb8d03f6f"), looks := true }, kinds := [], alts := [], laidByText := true, laidKinds := [.data, .data], laidTests := true, laidLooks := .later }
def VaultChainUptoCardSaid : Prop := Claim7.holds Tryd.pinned (.plain (OpenSpec.upto vaultChainSpec)) vaultChainUptoCard
end Rows
end Go.Proofs.YtpnhedlciamegaaDoor
