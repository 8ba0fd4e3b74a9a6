/-
  DERIVED. GIVEN WITH THE SEED: THE CARDS: each row of YtiphckeipbfbmaaGreatDoorRows.lean that lists a variable, with what it lists TIED to the program's text (the seventh form; the later family's looks); each row that meets fmt, with fmt's text TOLD by the authors' own Lean function (tested against real Go, not proved from fmt's source: count such statements apart). THE CARD IS WHAT COUNTS. Prove the row's statement (the work); the ties are given (YtiphckeipbfbmaaGreatDoorTie.lean); close each card by the builder's one call (the guide's Derived/Test/ToyasCard.lean, 'card_holds'). Laid BY PROGRAM, IN A SANDBOX (cutbox-door.mjs). By AI agents, Wed Nov 11 2026. No macro, syntax, notation, axiom, sorry.
-/
import Derived.Test.YtiphckeipbfbmaaGreatDoorRows
import GoSem.ClaimSeven
namespace Go.Proofs.YtiphckeipbfbmaaGreatDoor
namespace Rows

/-- THE TIED CARD OF 'narratorlaw58.JournalEncode'. -/
def journalEncodeCard : Claim7 := { stood := { row := journalEncodeRow, standIns := [], harness := (true, "6ceeca01a1d6a9b54dd725d14e2f1c7cf5bef03e996ebc6110903966d8d3f4ee"), looks := true }, kinds := [], alts := [], laidByText := true, laidKinds := [.data, .data, .data, .data, .data, .data, .listed, .data, .widerDeep, .pinned, .pinned], laidTests := true, laidLooks := .later }
def JournalEncodeCardSaid : Prop := Claim7.holds Tryz.pinned (.plain (OpenSpec.ofChange journalEncodeSpec)) journalEncodeCard

/-- THE TIED CARD OF 'narratorlaw58.JournalHides'. -/
def journalHidesCard : Claim7 := { stood := { row := journalHidesRow, standIns := [], harness := (true, "6ceeca01a1d6a9b54dd725d14e2f1c7cf5bef03e996ebc6110903966d8d3f4ee"), looks := true }, kinds := [], alts := [], laidByText := true, laidKinds := [.data, .data, .data, .data, .listed, .data, .widerDeep, .pinned, .pinned], laidTests := true, laidLooks := .later }
def JournalHidesCardSaid : Prop := Claim7.holds Tryz.pinned (.plain (OpenSpec.ofChange journalHidesSpec)) journalHidesCard

/-- THE TIED CARD OF 'narratorlaw58.JournalDecode'. -/
def journalDecodeCard : Claim7 := { stood := { row := journalDecodeRow, standIns := [], harness := (true, "6ceeca01a1d6a9b54dd725d14e2f1c7cf5bef03e996ebc6110903966d8d3f4ee"), looks := true }, kinds := [], alts := [], laidByText := true, laidKinds := [.data, .data, .data, .data, .data, .data, .sentinel, .sentinel, .listed, .data, .widerDeep, .pinned, .pinned], laidTests := true, laidLooks := .later }
def JournalDecodeCardSaid : Prop := Claim7.holds Tryz.pinned (.plain (OpenSpec.ofChange journalDecodeSpec)) journalDecodeCard

/-- THE TIED CARD OF 'narratorlaw58.JournalCanonical'. -/
def journalCanonicalCard : Claim7 := { stood := { row := journalCanonicalRow, standIns := [], harness := (true, "6ceeca01a1d6a9b54dd725d14e2f1c7cf5bef03e996ebc6110903966d8d3f4ee"), looks := true }, kinds := [], alts := [], laidByText := true, laidKinds := [.data, .data, .data, .data, .sentinel, .sentinel, .listed, .data, .widerDeep, .pinned, .pinned], laidTests := true, laidLooks := .later }
def JournalCanonicalCardSaid : Prop := Claim7.holds Tryz.pinned (.plain (OpenSpec.ofChange journalCanonicalSpec)) journalCanonicalCard

/-- THE TIED CARD OF 'narratorlaw58.JournalLines'. -/
def journalLinesCard : Claim7 := { stood := { row := journalLinesRow, standIns := [], harness := (true, "6ceeca01a1d6a9b54dd725d14e2f1c7cf5bef03e996ebc6110903966d8d3f4ee"), looks := true }, kinds := [], alts := [], laidByText := true, laidKinds := [.data, .data, .data, .data, .data, .data, .sentinel, .sentinel, .listed, .data, .widerDeep, .pinned, .pinned], laidTests := true, laidLooks := .later }
def JournalLinesCardSaid : Prop := Claim7.holds Tryz.pinned (.plain (OpenSpec.ofChange journalLinesSpec)) journalLinesCard

/-- THE TIED CARD OF 'narratorlaw58.JournalRoundTrip'. -/
def journalRoundTripCard : Claim7 := { stood := { row := journalRoundTripRow, standIns := [], harness := (true, "6ceeca01a1d6a9b54dd725d14e2f1c7cf5bef03e996ebc6110903966d8d3f4ee"), looks := true }, kinds := [], alts := [], laidByText := true, laidKinds := [.data, .data, .data, .data, .sentinel, .sentinel, .listed, .data, .widerDeep, .pinned, .pinned], laidTests := true, laidLooks := .later }
def JournalRoundTripCardSaid : Prop := Claim7.holds Tryz.pinned (.plain (OpenSpec.ofChange journalRoundTripSpec)) journalRoundTripCard

/-- THE TIED CARD OF 'narratorlaw58.JournalOrder'. -/
def journalOrderCard : Claim7 := { stood := { row := journalOrderRow, standIns := [], harness := (true, "6ceeca01a1d6a9b54dd725d14e2f1c7cf5bef03e996ebc6110903966d8d3f4ee"), looks := true }, kinds := [], alts := [], laidByText := true, laidKinds := [.data, .data, .data, .data, .sentinel, .sentinel, .listed, .data, .widerDeep, .pinned, .pinned], laidTests := true, laidLooks := .later }
def JournalOrderCardSaid : Prop := Claim7.holds Tryz.pinned (.plain (OpenSpec.ofChange journalOrderSpec)) journalOrderCard

/-- THE SECOND FORM's CARD OF 'narratorlaw58.JournalEncode'. -/
def journalEncodeUptoCard : Claim7 := { stood := { row := journalEncodeUptoRow, standIns := [], harness := (true, "6ceeca01a1d6a9b54dd725d14e2f1c7cf5bef03e996ebc6110903966d8d3f4ee"), looks := true }, kinds := [], alts := [], laidByText := true, laidKinds := [.data, .data, .data, .data, .data, .data, .listed, .data, .widerDeep, .pinned, .pinned], laidTests := true, laidLooks := .later }
def JournalEncodeUptoCardSaid : Prop := Claim7.holds Tryz.pinned (.plain (OpenSpec.upto journalEncodeSpec)) journalEncodeUptoCard

/-- THE SECOND FORM's CARD OF 'narratorlaw58.JournalHides'. -/
def journalHidesUptoCard : Claim7 := { stood := { row := journalHidesUptoRow, standIns := [], harness := (true, "6ceeca01a1d6a9b54dd725d14e2f1c7cf5bef03e996ebc6110903966d8d3f4ee"), looks := true }, kinds := [], alts := [], laidByText := true, laidKinds := [.data, .data, .data, .data, .listed, .data, .widerDeep, .pinned, .pinned], laidTests := true, laidLooks := .later }
def JournalHidesUptoCardSaid : Prop := Claim7.holds Tryz.pinned (.plain (OpenSpec.upto journalHidesSpec)) journalHidesUptoCard

/-- THE SECOND FORM's CARD OF 'narratorlaw58.JournalDecode'. -/
def journalDecodeUptoCard : Claim7 := { stood := { row := journalDecodeUptoRow, standIns := [], harness := (true, "6ceeca01a1d6a9b54dd725d14e2f1c7cf5bef03e996ebc6110903966d8d3f4ee"), looks := true }, kinds := [], alts := [], laidByText := true, laidKinds := [.data, .data, .data, .data, .data, .data, .sentinel, .sentinel, .listed, .data, .widerDeep, .pinned, .pinned], laidTests := true, laidLooks := .later }
def JournalDecodeUptoCardSaid : Prop := Claim7.holds Tryz.pinned (.plain (OpenSpec.upto journalDecodeSpec)) journalDecodeUptoCard

/-- THE SECOND FORM's CARD OF 'narratorlaw58.JournalCanonical'. -/
def journalCanonicalUptoCard : Claim7 := { stood := { row := journalCanonicalUptoRow, standIns := [], harness := (true, "6ceeca01a1d6a9b54dd725d14e2f1c7cf5bef03e996ebc6110903966d8d3f4ee"), looks := true }, kinds := [], alts := [], laidByText := true, laidKinds := [.data, .data, .data, .data, .sentinel, .sentinel, .listed, .data, .widerDeep, .pinned, .pinned], laidTests := true, laidLooks := .later }
def JournalCanonicalUptoCardSaid : Prop := Claim7.holds Tryz.pinned (.plain (OpenSpec.upto journalCanonicalSpec)) journalCanonicalUptoCard

/-- THE SECOND FORM's CARD OF 'narratorlaw58.JournalLines'. -/
def journalLinesUptoCard : Claim7 := { stood := { row := journalLinesUptoRow, standIns := [], harness := (true, "6ceeca01a1d6a9b54dd725d14e2f1c7cf5bef03e996ebc6110903966d8d3f4ee"), looks := true }, kinds := [], alts := [], laidByText := true, laidKinds := [.data, .data, .data, .data, .data, .data, .sentinel, .sentinel, .listed, .data, .widerDeep, .pinned, .pinned], laidTests := true, laidLooks := .later }
def JournalLinesUptoCardSaid : Prop := Claim7.holds Tryz.pinned (.plain (OpenSpec.upto journalLinesSpec)) journalLinesUptoCard

/-- THE SECOND FORM's CARD OF 'narratorlaw58.JournalRoundTrip'. -/
def journalRoundTripUptoCard : Claim7 := { stood := { row := journalRoundTripUptoRow, standIns := [], harness := (true, "6ceeca01a1d6a9b54dd725d14e2f1c7cf5bef03e996ebc6110903966d8d3f4ee"), looks := true }, kinds := [], alts := [], laidByText := true, laidKinds := [.data, .data, .data, .data, .sentinel, .sentinel, .listed, .data, .widerDeep, .pinned, .pinned], laidTests := true, laidLooks := .later }
def JournalRoundTripUptoCardSaid : Prop := Claim7.holds Tryz.pinned (.plain (OpenSpec.upto journalRoundTripSpec)) journalRoundTripUptoCard

/-- THE SECOND FORM's CARD OF 'narratorlaw58.JournalOrder'. -/
def journalOrderUptoCard : Claim7 := { stood := { row := journalOrderUptoRow, standIns := [], harness := (true, "6ceeca01a1d6a9b54dd725d14e2f1c7cf5bef03e996ebc6110903966d8d3f4ee"), looks := true }, kinds := [], alts := [], laidByText := true, laidKinds := [.data, .data, .data, .data, .sentinel, .sentinel, .listed, .data, .widerDeep, .pinned, .pinned], laidTests := true, laidLooks := .later }
def JournalOrderUptoCardSaid : Prop := Claim7.holds Tryz.pinned (.plain (OpenSpec.upto journalOrderSpec)) journalOrderUptoCard
end Rows
end Go.Proofs.YtiphckeipbfbmaaGreatDoor
