/-
  DERIVED. GIVEN WITH THE SEED: THE CARDS: each row of YtolmaphpfhplpaaDoorRows.lean that lists a variable, with what it lists TIED to the program's text (the seventh form; the later family's looks); each row that meets fmt, with fmt's text TOLD by the authors' own Lean function (tested against real Go, not proved from fmt's source: count such statements apart). THE CARD IS WHAT COUNTS. Prove the row's statement (the work); the ties are given (YtolmaphpfhplpaaDoorTie.lean); close each card by the builder's one call (the guide's Derived/Test/ToyasCard.lean, 'card_holds'). Laid BY PROGRAM, IN A SANDBOX (cutbox-door.mjs). By AI agents, Wed Nov 11 2026. No macro, syntax, notation, axiom, sorry.
-/
import Derived.Test.YtolmaphpfhplpaaDoorRows
import GoSem.ClaimSeven
namespace Go.Proofs.YtolmaphpfhplpaaDoor
namespace Rows

/-- THE TIED CARD OF 'narratorlaw04.AttrApply'. -/
def attrApplyCard : Claim7 := { stood := { row := attrApplyRow, standIns := [], harness := (true, "a65f6908e9144d9707032593f8f59cfb00469dbd0165378630953e168cb7fc91"), looks := false }, kinds := [], alts := [], laidByText := true, laidKinds := [.data], laidTests := true, laidLooks := .later }
def AttrApplyCardSaid : Prop := Claim7.holds Tryd.pinned (.plain (OpenSpec.ofChange attrApplySpec)) attrApplyCard

/-- THE TIED CARD OF 'narratorlaw04.AttrResults'. -/
def attrResultsCard : Claim7 := { stood := { row := attrResultsRow, standIns := [], harness := (true, "a65f6908e9144d9707032593f8f59cfb00469dbd0165378630953e168cb7fc91"), looks := false }, kinds := [], alts := [], laidByText := true, laidKinds := [.data], laidTests := true, laidLooks := .later }
def AttrResultsCardSaid : Prop := Claim7.holds Tryd.pinned (.plain (OpenSpec.ofChange attrResultsSpec)) attrResultsCard

/-- THE TIED CARD OF 'narratorlaw04.AttrRoundTrip'. -/
def attrRoundTripCard : Claim7 := { stood := { row := attrRoundTripRow, standIns := [], harness := (true, "a65f6908e9144d9707032593f8f59cfb00469dbd0165378630953e168cb7fc91"), looks := false }, kinds := [], alts := [], laidByText := true, laidKinds := [.data], laidTests := true, laidLooks := .later }
def AttrRoundTripCardSaid : Prop := Claim7.holds Tryd.pinned (.plain (OpenSpec.ofChange attrRoundTripSpec)) attrRoundTripCard

/-- THE TIED CARD OF 'narratorlaw04.AttrIdempotent'. -/
def attrIdempotentCard : Claim7 := { stood := { row := attrIdempotentRow, standIns := [], harness := (true, "a65f6908e9144d9707032593f8f59cfb00469dbd0165378630953e168cb7fc91"), looks := false }, kinds := [], alts := [], laidByText := true, laidKinds := [.data], laidTests := true, laidLooks := .later }
def AttrIdempotentCardSaid : Prop := Claim7.holds Tryd.pinned (.plain (OpenSpec.ofChange attrIdempotentSpec)) attrIdempotentCard

/-- THE TIED CARD OF 'narratorlaw04.AttrIndependent'. -/
def attrIndependentCard : Claim7 := { stood := { row := attrIndependentRow, standIns := [], harness := (true, "a65f6908e9144d9707032593f8f59cfb00469dbd0165378630953e168cb7fc91"), looks := false }, kinds := [], alts := [], laidByText := true, laidKinds := [.data], laidTests := true, laidLooks := .later }
def AttrIndependentCardSaid : Prop := Claim7.holds Tryd.pinned (.plain (OpenSpec.ofChange attrIndependentSpec)) attrIndependentCard

/-- THE TIED CARD OF 'narratorlaw04.AttrParts'. -/
def attrPartsCard : Claim7 := { stood := { row := attrPartsRow, standIns := [], harness := (true, "a65f6908e9144d9707032593f8f59cfb00469dbd0165378630953e168cb7fc91"), looks := false }, kinds := [], alts := [], laidByText := true, laidKinds := [.data], laidTests := true, laidLooks := .later }
def AttrPartsCardSaid : Prop := Claim7.holds Tryd.pinned (.plain (OpenSpec.ofChange attrPartsSpec)) attrPartsCard

/-- THE TIED CARD OF 'narratorlaw04.AttrColors'. -/
def attrColorsCard : Claim7 := { stood := { row := attrColorsRow, standIns := [], harness := (true, "a65f6908e9144d9707032593f8f59cfb00469dbd0165378630953e168cb7fc91"), looks := false }, kinds := [], alts := [], laidByText := true, laidKinds := [.data], laidTests := true, laidLooks := .later }
def AttrColorsCardSaid : Prop := Claim7.holds Tryd.pinned (.plain (OpenSpec.ofChange attrColorsSpec)) attrColorsCard

/-- THE TIED CARD OF 'narratorlaw04.AttrStyles'. -/
def attrStylesCard : Claim7 := { stood := { row := attrStylesRow, standIns := [], harness := (true, "a65f6908e9144d9707032593f8f59cfb00469dbd0165378630953e168cb7fc91"), looks := false }, kinds := [], alts := [], laidByText := true, laidKinds := [.data], laidTests := true, laidLooks := .later }
def AttrStylesCardSaid : Prop := Claim7.holds Tryd.pinned (.plain (OpenSpec.ofChange attrStylesSpec)) attrStylesCard

/-- THE SECOND FORM's CARD OF 'narratorlaw04.AttrApply'. -/
def attrApplyUptoCard : Claim7 := { stood := { row := attrApplyUptoRow, standIns := [], harness := (true, "a65f6908e9144d9707032593f8f59cfb00469dbd0165378630953e168cb7fc91"), looks := false }, kinds := [], alts := [], laidByText := true, laidKinds := [.data], laidTests := true, laidLooks := .later }
def AttrApplyUptoCardSaid : Prop := Claim7.holds Tryd.pinned (.plain (OpenSpec.upto attrApplySpec)) attrApplyUptoCard

/-- THE SECOND FORM's CARD OF 'narratorlaw04.AttrResults'. -/
def attrResultsUptoCard : Claim7 := { stood := { row := attrResultsUptoRow, standIns := [], harness := (true, "a65f6908e9144d9707032593f8f59cfb00469dbd0165378630953e168cb7fc91"), looks := false }, kinds := [], alts := [], laidByText := true, laidKinds := [.data], laidTests := true, laidLooks := .later }
def AttrResultsUptoCardSaid : Prop := Claim7.holds Tryd.pinned (.plain (OpenSpec.upto attrResultsSpec)) attrResultsUptoCard

/-- THE SECOND FORM's CARD OF 'narratorlaw04.AttrRoundTrip'. -/
def attrRoundTripUptoCard : Claim7 := { stood := { row := attrRoundTripUptoRow, standIns := [], harness := (true, "a65f6908e9144d9707032593f8f59cfb00469dbd0165378630953e168cb7fc91"), looks := false }, kinds := [], alts := [], laidByText := true, laidKinds := [.data], laidTests := true, laidLooks := .later }
def AttrRoundTripUptoCardSaid : Prop := Claim7.holds Tryd.pinned (.plain (OpenSpec.upto attrRoundTripSpec)) attrRoundTripUptoCard

/-- THE SECOND FORM's CARD OF 'narratorlaw04.AttrIdempotent'. -/
def attrIdempotentUptoCard : Claim7 := { stood := { row := attrIdempotentUptoRow, standIns := [], harness := (true, "a65f6908e9144d9707032593f8f59cfb00469dbd0165378630953e168cb7fc91"), looks := false }, kinds := [], alts := [], laidByText := true, laidKinds := [.data], laidTests := true, laidLooks := .later }
def AttrIdempotentUptoCardSaid : Prop := Claim7.holds Tryd.pinned (.plain (OpenSpec.upto attrIdempotentSpec)) attrIdempotentUptoCard

/-- THE SECOND FORM's CARD OF 'narratorlaw04.AttrIndependent'. -/
def attrIndependentUptoCard : Claim7 := { stood := { row := attrIndependentUptoRow, standIns := [], harness := (true, "a65f6908e9144d9707032593f8f59cfb00469dbd0165378630953e168cb7fc91"), looks := false }, kinds := [], alts := [], laidByText := true, laidKinds := [.data], laidTests := true, laidLooks := .later }
def AttrIndependentUptoCardSaid : Prop := Claim7.holds Tryd.pinned (.plain (OpenSpec.upto attrIndependentSpec)) attrIndependentUptoCard

/-- THE SECOND FORM's CARD OF 'narratorlaw04.AttrParts'. -/
def attrPartsUptoCard : Claim7 := { stood := { row := attrPartsUptoRow, standIns := [], harness := (true, "a65f6908e9144d9707032593f8f59cfb00469dbd0165378630953e168cb7fc91"), looks := false }, kinds := [], alts := [], laidByText := true, laidKinds := [.data], laidTests := true, laidLooks := .later }
def AttrPartsUptoCardSaid : Prop := Claim7.holds Tryd.pinned (.plain (OpenSpec.upto attrPartsSpec)) attrPartsUptoCard

/-- THE SECOND FORM's CARD OF 'narratorlaw04.AttrColors'. -/
def attrColorsUptoCard : Claim7 := { stood := { row := attrColorsUptoRow, standIns := [], harness := (true, "a65f6908e9144d9707032593f8f59cfb00469dbd0165378630953e168cb7fc91"), looks := false }, kinds := [], alts := [], laidByText := true, laidKinds := [.data], laidTests := true, laidLooks := .later }
def AttrColorsUptoCardSaid : Prop := Claim7.holds Tryd.pinned (.plain (OpenSpec.upto attrColorsSpec)) attrColorsUptoCard

/-- THE SECOND FORM's CARD OF 'narratorlaw04.AttrStyles'. -/
def attrStylesUptoCard : Claim7 := { stood := { row := attrStylesUptoRow, standIns := [], harness := (true, "a65f6908e9144d9707032593f8f59cfb00469dbd0165378630953e168cb7fc91"), looks := false }, kinds := [], alts := [], laidByText := true, laidKinds := [.data], laidTests := true, laidLooks := .later }
def AttrStylesUptoCardSaid : Prop := Claim7.holds Tryd.pinned (.plain (OpenSpec.upto attrStylesSpec)) attrStylesUptoCard
end Rows
end Go.Proofs.YtolmaphpfhplpaaDoor
