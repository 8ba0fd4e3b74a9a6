/-
  DERIVED. GIVEN WITH THE SEED: THE CARDS: each row of YtigmkgampfbflaaGreatDoorRows.lean that lists a variable, with what it lists TIED to the program's text (the seventh form; the later family's looks); each row that meets fmt, with fmt's text TOLD by the authors' own Lean function (tested against real Go, not proved from fmt's source: count such statements apart). THE CARD IS WHAT COUNTS. Prove the row's statement (the work); the ties are given (YtigmkgampfbflaaGreatDoorTie.lean); close each card by the builder's one call (the guide's Derived/Test/ToyasCard.lean, 'card_holds'). Laid BY PROGRAM, IN A SANDBOX (cutbox-door.mjs). By AI agents, Wed Nov 11 2026. No macro, syntax, notation, axiom, sorry.
-/
import Derived.Test.YtigmkgampfbflaaGreatDoorRows
import GoSem.ClaimSeven
namespace Go.Proofs.YtigmkgampfbflaaGreatDoor
namespace Rows

/-- THE TIED CARD OF 'narratorlaw13.TerminalAlternate'. -/
def terminalAlternateCard : Claim7 := { stood := { row := terminalAlternateRow, standIns := [], harness := (true, "34ec3a71e0b5722b491b7b9e1812b2391a7c6f1c6d40096d87078edcbff7e152"), looks := false }, kinds := [], alts := [], laidByText := true, laidKinds := [.data, .data, .data, .data, .data, .pinned], laidTests := true, laidLooks := .later }
def TerminalAlternateCardSaid : Prop := Claim7.holds Tryz.pinned (.plain (OpenSpec.ofChange terminalAlternateSpec)) terminalAlternateCard

/-- THE TIED CARD OF 'narratorlaw13.TerminalSaved'. -/
def terminalSavedCard : Claim7 := { stood := { row := terminalSavedRow, standIns := [], harness := (true, "34ec3a71e0b5722b491b7b9e1812b2391a7c6f1c6d40096d87078edcbff7e152"), looks := false }, kinds := [], alts := [], laidByText := true, laidKinds := [.data, .data, .data, .data, .data, .pinned], laidTests := true, laidLooks := .later }
def TerminalSavedCardSaid : Prop := Claim7.holds Tryz.pinned (.plain (OpenSpec.ofChange terminalSavedSpec)) terminalSavedCard

/-- THE TIED CARD OF 'narratorlaw13.TerminalResize'. -/
def terminalResizeCard : Claim7 := { stood := { row := terminalResizeRow, standIns := [], harness := (true, "34ec3a71e0b5722b491b7b9e1812b2391a7c6f1c6d40096d87078edcbff7e152"), looks := false }, kinds := [], alts := [], laidByText := true, laidKinds := [.data, .data, .data, .data, .data, .pinned], laidTests := true, laidLooks := .later }
def TerminalResizeCardSaid : Prop := Claim7.holds Tryz.pinned (.plain (OpenSpec.ofChange terminalResizeSpec)) terminalResizeCard

/-- THE TIED CARD OF 'narratorlaw13.TerminalProper'. -/
def terminalProperCard : Claim7 := { stood := { row := terminalProperRow, standIns := [], harness := (true, "34ec3a71e0b5722b491b7b9e1812b2391a7c6f1c6d40096d87078edcbff7e152"), looks := false }, kinds := [], alts := [], laidByText := true, laidKinds := [.data, .data, .data, .data, .data, .pinned], laidTests := true, laidLooks := .later }
def TerminalProperCardSaid : Prop := Claim7.holds Tryz.pinned (.plain (OpenSpec.ofChange terminalProperSpec)) terminalProperCard

/-- THE TIED CARD OF 'narratorlaw13.TerminalText'. -/
def terminalTextCard : Claim7 := { stood := { row := terminalTextRow, standIns := [], harness := (true, "34ec3a71e0b5722b491b7b9e1812b2391a7c6f1c6d40096d87078edcbff7e152"), looks := false }, kinds := [], alts := [], laidByText := true, laidKinds := [.data, .data, .data, .data, .data, .pinned], laidTests := true, laidLooks := .later }
def TerminalTextCardSaid : Prop := Claim7.holds Tryz.pinned (.plain (OpenSpec.ofChange terminalTextSpec)) terminalTextCard

/-- THE TIED CARD OF 'narratorlaw13.TerminalScrollback'. -/
def terminalScrollbackCard : Claim7 := { stood := { row := terminalScrollbackRow, standIns := [], harness := (true, "34ec3a71e0b5722b491b7b9e1812b2391a7c6f1c6d40096d87078edcbff7e152"), looks := false }, kinds := [], alts := [], laidByText := true, laidKinds := [.data, .data, .data, .data, .data, .pinned], laidTests := true, laidLooks := .later }
def TerminalScrollbackCardSaid : Prop := Claim7.holds Tryz.pinned (.plain (OpenSpec.ofChange terminalScrollbackSpec)) terminalScrollbackCard

/-- THE TIED CARD OF 'narratorlaw13.TerminalReplies'. -/
def terminalRepliesCard : Claim7 := { stood := { row := terminalRepliesRow, standIns := [], harness := (true, "34ec3a71e0b5722b491b7b9e1812b2391a7c6f1c6d40096d87078edcbff7e152"), looks := false }, kinds := [], alts := [], laidByText := true, laidKinds := [.data, .data, .data, .data, .data, .pinned], laidTests := true, laidLooks := .later }
def TerminalRepliesCardSaid : Prop := Claim7.holds Tryz.pinned (.plain (OpenSpec.ofChange terminalRepliesSpec)) terminalRepliesCard

/-- THE SECOND FORM's CARD OF 'narratorlaw13.TerminalAlternate'. -/
def terminalAlternateUptoCard : Claim7 := { stood := { row := terminalAlternateUptoRow, standIns := [], harness := (true, "34ec3a71e0b5722b491b7b9e1812b2391a7c6f1c6d40096d87078edcbff7e152"), looks := false }, kinds := [], alts := [], laidByText := true, laidKinds := [.data, .data, .data, .data, .data, .pinned], laidTests := true, laidLooks := .later }
def TerminalAlternateUptoCardSaid : Prop := Claim7.holds Tryz.pinned (.plain (OpenSpec.upto terminalAlternateSpec)) terminalAlternateUptoCard

/-- THE SECOND FORM's CARD OF 'narratorlaw13.TerminalSaved'. -/
def terminalSavedUptoCard : Claim7 := { stood := { row := terminalSavedUptoRow, standIns := [], harness := (true, "34ec3a71e0b5722b491b7b9e1812b2391a7c6f1c6d40096d87078edcbff7e152"), looks := false }, kinds := [], alts := [], laidByText := true, laidKinds := [.data, .data, .data, .data, .data, .pinned], laidTests := true, laidLooks := .later }
def TerminalSavedUptoCardSaid : Prop := Claim7.holds Tryz.pinned (.plain (OpenSpec.upto terminalSavedSpec)) terminalSavedUptoCard

/-- THE SECOND FORM's CARD OF 'narratorlaw13.TerminalResize'. -/
def terminalResizeUptoCard : Claim7 := { stood := { row := terminalResizeUptoRow, standIns := [], harness := (true, "34ec3a71e0b5722b491b7b9e1812b2391a7c6f1c6d40096d87078edcbff7e152"), looks := false }, kinds := [], alts := [], laidByText := true, laidKinds := [.data, .data, .data, .data, .data, .pinned], laidTests := true, laidLooks := .later }
def TerminalResizeUptoCardSaid : Prop := Claim7.holds Tryz.pinned (.plain (OpenSpec.upto terminalResizeSpec)) terminalResizeUptoCard

/-- THE SECOND FORM's CARD OF 'narratorlaw13.TerminalProper'. -/
def terminalProperUptoCard : Claim7 := { stood := { row := terminalProperUptoRow, standIns := [], harness := (true, "34ec3a71e0b5722b491b7b9e1812b2391a7c6f1c6d40096d87078edcbff7e152"), looks := false }, kinds := [], alts := [], laidByText := true, laidKinds := [.data, .data, .data, .data, .data, .pinned], laidTests := true, laidLooks := .later }
def TerminalProperUptoCardSaid : Prop := Claim7.holds Tryz.pinned (.plain (OpenSpec.upto terminalProperSpec)) terminalProperUptoCard

/-- THE SECOND FORM's CARD OF 'narratorlaw13.TerminalText'. -/
def terminalTextUptoCard : Claim7 := { stood := { row := terminalTextUptoRow, standIns := [], harness := (true, "34ec3a71e0b5722b491b7b9e1812b2391a7c6f1c6d40096d87078edcbff7e152"), looks := false }, kinds := [], alts := [], laidByText := true, laidKinds := [.data, .data, .data, .data, .data, .pinned], laidTests := true, laidLooks := .later }
def TerminalTextUptoCardSaid : Prop := Claim7.holds Tryz.pinned (.plain (OpenSpec.upto terminalTextSpec)) terminalTextUptoCard

/-- THE SECOND FORM's CARD OF 'narratorlaw13.TerminalScrollback'. -/
def terminalScrollbackUptoCard : Claim7 := { stood := { row := terminalScrollbackUptoRow, standIns := [], harness := (true, "34ec3a71e0b5722b491b7b9e1812b2391a7c6f1c6d40096d87078edcbff7e152"), looks := false }, kinds := [], alts := [], laidByText := true, laidKinds := [.data, .data, .data, .data, .data, .pinned], laidTests := true, laidLooks := .later }
def TerminalScrollbackUptoCardSaid : Prop := Claim7.holds Tryz.pinned (.plain (OpenSpec.upto terminalScrollbackSpec)) terminalScrollbackUptoCard

/-- THE SECOND FORM's CARD OF 'narratorlaw13.TerminalReplies'. -/
def terminalRepliesUptoCard : Claim7 := { stood := { row := terminalRepliesUptoRow, standIns := [], harness := (true, "34ec3a71e0b5722b491b7b9e1812b2391a7c6f1c6d40096d87078edcbff7e152"), looks := false }, kinds := [], alts := [], laidByText := true, laidKinds := [.data, .data, .data, .data, .data, .pinned], laidTests := true, laidLooks := .later }
def TerminalRepliesUptoCardSaid : Prop := Claim7.holds Tryz.pinned (.plain (OpenSpec.upto terminalRepliesSpec)) terminalRepliesUptoCard
end Rows
end Go.Proofs.YtigmkgampfbflaaGreatDoor
