/-
  DERIVED. GIVEN WITH THE SEED: THE CARDS: each row of YtfdldnomelnbgaaGreatDoorRows.lean that lists a variable, with what it lists TIED to the program's text (the seventh form; the later family's looks); each row that meets fmt, with fmt's text TOLD by the authors' own Lean function (tested against real Go, not proved from fmt's source: count such statements apart). THE CARD IS WHAT COUNTS. Prove the row's statement (the work); the ties are given (YtfdldnomelnbgaaGreatDoorTie.lean); close each card by the builder's one call (the guide's Derived/Test/ToyasCard.lean, 'card_holds'). Laid BY PROGRAM, IN A SANDBOX (cutbox-door.mjs). By AI agents, Wed Nov 11 2026. No macro, syntax, notation, axiom, sorry.
-/
import Derived.Test.YtfdldnomelnbgaaGreatDoorRows
import GoSem.ClaimSeven
namespace Go.Proofs.YtfdldnomelnbgaaGreatDoor
namespace Rows

/-- THE TIED CARD OF 'narratorlaw57.SecretsMasked'. -/
def secretsMaskedCard : Claim7 := { stood := { row := secretsMaskedRow, standIns := [], harness := (true, "e3be5949a617d24de58528450ecadce6ba78cb1e1f7f453a2fe250065910b52c"), looks := false }, kinds := [], alts := [], laidByText := true, laidKinds := [.data, .data, .data, .data, .data, .pinned], laidTests := true, laidLooks := .later }
def SecretsMaskedCardSaid : Prop := Claim7.holds Tryz.pinned (.plain (OpenSpec.ofChange secretsMaskedSpec)) secretsMaskedCard

/-- THE TIED CARD OF 'narratorlaw57.SecretsEquivalence'. -/
def secretsEquivalenceCard : Claim7 := { stood := { row := secretsEquivalenceRow, standIns := [], harness := (true, "e3be5949a617d24de58528450ecadce6ba78cb1e1f7f453a2fe250065910b52c"), looks := false }, kinds := [], alts := [], laidByText := true, laidKinds := [.data, .data, .data, .data, .data, .pinned], laidTests := true, laidLooks := .later }
def SecretsEquivalenceCardSaid : Prop := Claim7.holds Tryz.pinned (.plain (OpenSpec.ofChange secretsEquivalenceSpec)) secretsEquivalenceCard

/-- THE SECOND FORM's CARD OF 'narratorlaw57.SecretsMasked'. -/
def secretsMaskedUptoCard : Claim7 := { stood := { row := secretsMaskedUptoRow, standIns := [], harness := (true, "e3be5949a617d24de58528450ecadce6ba78cb1e1f7f453a2fe250065910b52c"), looks := false }, kinds := [], alts := [], laidByText := true, laidKinds := [.data, .data, .data, .data, .data, .pinned], laidTests := true, laidLooks := .later }
def SecretsMaskedUptoCardSaid : Prop := Claim7.holds Tryz.pinned (.plain (OpenSpec.upto secretsMaskedSpec)) secretsMaskedUptoCard

/-- THE SECOND FORM's CARD OF 'narratorlaw57.SecretsEquivalence'. -/
def secretsEquivalenceUptoCard : Claim7 := { stood := { row := secretsEquivalenceUptoRow, standIns := [], harness := (true, "e3be5949a617d24de58528450ecadce6ba78cb1e1f7f453a2fe250065910b52c"), looks := false }, kinds := [], alts := [], laidByText := true, laidKinds := [.data, .data, .data, .data, .data, .pinned], laidTests := true, laidLooks := .later }
def SecretsEquivalenceUptoCardSaid : Prop := Claim7.holds Tryz.pinned (.plain (OpenSpec.upto secretsEquivalenceSpec)) secretsEquivalenceUptoCard
end Rows
end Go.Proofs.YtfdldnomelnbgaaGreatDoor
