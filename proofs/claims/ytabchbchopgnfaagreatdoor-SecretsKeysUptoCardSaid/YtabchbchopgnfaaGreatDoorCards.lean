/-
  DERIVED. GIVEN WITH THE SEED: THE CARDS: each row of YtabchbchopgnfaaGreatDoorRows.lean that lists a variable, with what it lists TIED to the program's text (the seventh form; the later family's looks); each row that meets fmt, with fmt's text TOLD by the authors' own Lean function (tested against real Go, not proved from fmt's source: count such statements apart). THE CARD IS WHAT COUNTS. Prove the row's statement (the work); the ties are given (YtabchbchopgnfaaGreatDoorTie.lean); close each card by the builder's one call (the guide's Derived/Test/ToyasCard.lean, 'card_holds'). Laid BY PROGRAM, IN A SANDBOX (cutbox-door.mjs). By AI agents, Wed Nov 11 2026. No macro, syntax, notation, axiom, sorry.
-/
import Derived.Test.YtabchbchopgnfaaGreatDoorRows
import GoSem.ClaimSeven
namespace Go.Proofs.YtabchbchopgnfaaGreatDoor
namespace Rows

/-- THE TIED CARD OF 'narratorlaw57.SecretsKeys'. -/
def secretsKeysCard : Claim7 := { stood := { row := secretsKeysRow, standIns := [], harness := (true, "2f12f4f63a0119c2dc0aa4a5fa2dd54c6c3eb06e0aab816f95c071bbab61a554"), looks := false }, kinds := [], alts := [], laidByText := true, laidKinds := [.data, .data, .data, .data, .data, .pinned], laidTests := true, laidLooks := .later }
def SecretsKeysCardSaid : Prop := Claim7.holds Tryz.pinned (.plain (OpenSpec.ofChange secretsKeysSpec)) secretsKeysCard

/-- THE SECOND FORM's CARD OF 'narratorlaw57.SecretsKeys'. -/
def secretsKeysUptoCard : Claim7 := { stood := { row := secretsKeysUptoRow, standIns := [], harness := (true, "2f12f4f63a0119c2dc0aa4a5fa2dd54c6c3eb06e0aab816f95c071bbab61a554"), looks := false }, kinds := [], alts := [], laidByText := true, laidKinds := [.data, .data, .data, .data, .data, .pinned], laidTests := true, laidLooks := .later }
def SecretsKeysUptoCardSaid : Prop := Claim7.holds Tryz.pinned (.plain (OpenSpec.upto secretsKeysSpec)) secretsKeysUptoCard
end Rows
end Go.Proofs.YtabchbchopgnfaaGreatDoor
