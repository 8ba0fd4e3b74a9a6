/-
  NARROWER THAN 'FOR EVERY INPUT', by the rows' own cells (each row's printed sentence says how): AttrApply: laid · AttrResults: laid · AttrRoundTrip: laid · AttrIdempotent: laid · AttrIndependent: laid · AttrParts: laid · AttrColors: laid · AttrStyles: laid.
  DERIVED. THE GIVEN ROWS OF THIS SEAT. 8 by the template 'for every input the law returns true; each argument reads behind the call as it read before'; 0 by the template 'total and deterministic' (their statements: YtolmaphpfhplpaaDoorTotals.lean).
  GIVEN WITH THE SEED: the statements are not yours to turn. If you find one false, say at which input.
  Laid BY PROGRAM, IN A SANDBOX (cutbox-rows.mjs): the forced cells as the released guide's own fill.sh prints them over the translation ea7800a38061635e… (all of the seat's roots in one cut). By AI agents, Wed Nov 11 2026. No macro, syntax, notation, axiom, sorry.
-/
import Derived.Test.YtolmaphpfhplpaaDoorChecked
import GoSem.Claim
import GoSem.ClaimJoined
import GoSem.ClaimMapViews
import Derived.JoinedTies
import Derived.KernelRfl
namespace Go.Proofs.YtolmaphpfhplpaaDoor
/- THE CELL 'sum', in the pinned program and in every row, IS THE sha256 OF THE DUMP (.gsa) THAT YtolmaphpfhplpaaDoorProg.lean LOADS. Nothing in Lean hashes anything: it is a label: what it is worth is what the hold of that sum in a sandbox is worth. -/
noncomputable def Tryd.pinned : Pinned := { name := "ytolmaphpfhplpaadoor", sum := "ea7800a38061635eefdfafee909d6930eabd9db343241385a55dcf759d3948a3", checked := Tryd.checked }
namespace Rows
def none {H : Type} : Left H := { results := [], args := [] }

/- WHAT THE LISTED PACKAGE-LEVEL VARIABLES READ AS WHEN THE CALL BEGINS. Each datum BY PROGRAM (the guide's laid-datum.mjs) off the statement by which the dump's own 'gosem.cut.vars' lays the variable. In a bare row this is a premise. The card (YtolmaphpfhplpaaDoorCards.lean) ties it to the program's text. -/
def laid_narrator_attr_codes {H : Type} : DataW H := .agg [.lit (.int .i64 1), .lit (.int .i64 2), .lit (.int .i64 3), .lit (.int .i64 4), .lit (.int .i64 5), .lit (.int .i64 7), .lit (.int .i64 8), .lit (.int .i64 9)]

/-- 'narratorlaw04.AttrApply': WHATEVER THE INPUT: true; the input reads as it did. -/
def attrApplySpec : ChangeSpec := { name := "attrApply", fn := fun _ => fun
  | [d1, d2] => { results := [.lit (.bool true)], args := [d1, d2] }
  | _ => none }
def attrApplyRow : OpenClaim := { program := "ytolmaphpfhplpaadoor", sum := "ea7800a38061635eefdfafee909d6930eabd9db343241385a55dcf759d3948a3", func := "narrator/narratorlaw04.AttrApply", spec := "attrApply", named := ["narrator/attr.codes"], apart := false, laid := [("narrator/attr.codes", laid_narrator_attr_codes)] }
def AttrApplySaid : Prop := attrApplyRow.holds Tryd.pinned (OpenSpec.ofChange attrApplySpec)

/-- ITS FALSE NEIGHBOUR: 'it returns false'. Refute it at one input. -/
def attrApplyWrong : ChangeSpec := { name := "attrApply", fn := fun _ => fun
  | [d1, d2] => { results := [.lit (.bool false)], args := [d1, d2] }
  | _ => none }
def AttrApplyWrongFalsely : Prop := attrApplyRow.holds Tryd.pinned (OpenSpec.ofChange attrApplyWrong)

/-- 'narratorlaw04.AttrResults': WHATEVER THE INPUT: true; the input reads as it did. -/
def attrResultsSpec : ChangeSpec := { name := "attrResults", fn := fun _ => fun
  | [d] => { results := [.lit (.bool true)], args := [d] }
  | _ => none }
def attrResultsRow : OpenClaim := { program := "ytolmaphpfhplpaadoor", sum := "ea7800a38061635eefdfafee909d6930eabd9db343241385a55dcf759d3948a3", func := "narrator/narratorlaw04.AttrResults", spec := "attrResults", named := ["narrator/attr.codes"], apart := false, laid := [("narrator/attr.codes", laid_narrator_attr_codes)] }
def AttrResultsSaid : Prop := attrResultsRow.holds Tryd.pinned (OpenSpec.ofChange attrResultsSpec)

/-- ITS FALSE NEIGHBOUR: 'it returns false'. Refute it at one input. -/
def attrResultsWrong : ChangeSpec := { name := "attrResults", fn := fun _ => fun
  | [d] => { results := [.lit (.bool false)], args := [d] }
  | _ => none }
def AttrResultsWrongFalsely : Prop := attrResultsRow.holds Tryd.pinned (OpenSpec.ofChange attrResultsWrong)

/-- 'narratorlaw04.AttrRoundTrip': WHATEVER THE INPUT: true; the input reads as it did. -/
def attrRoundTripSpec : ChangeSpec := { name := "attrRoundTrip", fn := fun _ => fun
  | [d1, d2] => { results := [.lit (.bool true)], args := [d1, d2] }
  | _ => none }
def attrRoundTripRow : OpenClaim := { program := "ytolmaphpfhplpaadoor", sum := "ea7800a38061635eefdfafee909d6930eabd9db343241385a55dcf759d3948a3", func := "narrator/narratorlaw04.AttrRoundTrip", spec := "attrRoundTrip", named := ["narrator/attr.codes"], apart := false, laid := [("narrator/attr.codes", laid_narrator_attr_codes)] }
def AttrRoundTripSaid : Prop := attrRoundTripRow.holds Tryd.pinned (OpenSpec.ofChange attrRoundTripSpec)

/-- ITS FALSE NEIGHBOUR: 'it returns false'. Refute it at one input. -/
def attrRoundTripWrong : ChangeSpec := { name := "attrRoundTrip", fn := fun _ => fun
  | [d1, d2] => { results := [.lit (.bool false)], args := [d1, d2] }
  | _ => none }
def AttrRoundTripWrongFalsely : Prop := attrRoundTripRow.holds Tryd.pinned (OpenSpec.ofChange attrRoundTripWrong)

/-- 'narratorlaw04.AttrIdempotent': WHATEVER THE INPUT: true; the input reads as it did. -/
def attrIdempotentSpec : ChangeSpec := { name := "attrIdempotent", fn := fun _ => fun
  | [d1, d2] => { results := [.lit (.bool true)], args := [d1, d2] }
  | _ => none }
def attrIdempotentRow : OpenClaim := { program := "ytolmaphpfhplpaadoor", sum := "ea7800a38061635eefdfafee909d6930eabd9db343241385a55dcf759d3948a3", func := "narrator/narratorlaw04.AttrIdempotent", spec := "attrIdempotent", named := ["narrator/attr.codes"], apart := false, laid := [("narrator/attr.codes", laid_narrator_attr_codes)] }
def AttrIdempotentSaid : Prop := attrIdempotentRow.holds Tryd.pinned (OpenSpec.ofChange attrIdempotentSpec)

/-- ITS FALSE NEIGHBOUR: 'it returns false'. Refute it at one input. -/
def attrIdempotentWrong : ChangeSpec := { name := "attrIdempotent", fn := fun _ => fun
  | [d1, d2] => { results := [.lit (.bool false)], args := [d1, d2] }
  | _ => none }
def AttrIdempotentWrongFalsely : Prop := attrIdempotentRow.holds Tryd.pinned (OpenSpec.ofChange attrIdempotentWrong)

/-- 'narratorlaw04.AttrIndependent': WHATEVER THE INPUT: true; the input reads as it did. -/
def attrIndependentSpec : ChangeSpec := { name := "attrIndependent", fn := fun _ => fun
  | [d1, d2] => { results := [.lit (.bool true)], args := [d1, d2] }
  | _ => none }
def attrIndependentRow : OpenClaim := { program := "ytolmaphpfhplpaadoor", sum := "ea7800a38061635eefdfafee909d6930eabd9db343241385a55dcf759d3948a3", func := "narrator/narratorlaw04.AttrIndependent", spec := "attrIndependent", named := ["narrator/attr.codes"], apart := false, laid := [("narrator/attr.codes", laid_narrator_attr_codes)] }
def AttrIndependentSaid : Prop := attrIndependentRow.holds Tryd.pinned (OpenSpec.ofChange attrIndependentSpec)

/-- ITS FALSE NEIGHBOUR: 'it returns false'. Refute it at one input. -/
def attrIndependentWrong : ChangeSpec := { name := "attrIndependent", fn := fun _ => fun
  | [d1, d2] => { results := [.lit (.bool false)], args := [d1, d2] }
  | _ => none }
def AttrIndependentWrongFalsely : Prop := attrIndependentRow.holds Tryd.pinned (OpenSpec.ofChange attrIndependentWrong)

/-- 'narratorlaw04.AttrParts': WHATEVER THE INPUT: true; the input reads as it did. -/
def attrPartsSpec : ChangeSpec := { name := "attrParts", fn := fun _ => fun
  | [d1, d2, d3] => { results := [.lit (.bool true)], args := [d1, d2, d3] }
  | _ => none }
def attrPartsRow : OpenClaim := { program := "ytolmaphpfhplpaadoor", sum := "ea7800a38061635eefdfafee909d6930eabd9db343241385a55dcf759d3948a3", func := "narrator/narratorlaw04.AttrParts", spec := "attrParts", named := ["narrator/attr.codes"], apart := false, laid := [("narrator/attr.codes", laid_narrator_attr_codes)] }
def AttrPartsSaid : Prop := attrPartsRow.holds Tryd.pinned (OpenSpec.ofChange attrPartsSpec)

/-- ITS FALSE NEIGHBOUR: 'it returns false'. Refute it at one input. -/
def attrPartsWrong : ChangeSpec := { name := "attrParts", fn := fun _ => fun
  | [d1, d2, d3] => { results := [.lit (.bool false)], args := [d1, d2, d3] }
  | _ => none }
def AttrPartsWrongFalsely : Prop := attrPartsRow.holds Tryd.pinned (OpenSpec.ofChange attrPartsWrong)

/-- 'narratorlaw04.AttrColors': WHATEVER THE INPUT: true; the input reads as it did. -/
def attrColorsSpec : ChangeSpec := { name := "attrColors", fn := fun _ => fun
  | [d1, d2, d3] => { results := [.lit (.bool true)], args := [d1, d2, d3] }
  | _ => none }
def attrColorsRow : OpenClaim := { program := "ytolmaphpfhplpaadoor", sum := "ea7800a38061635eefdfafee909d6930eabd9db343241385a55dcf759d3948a3", func := "narrator/narratorlaw04.AttrColors", spec := "attrColors", unfollowed := true, recurses := true, named := ["narrator/attr.codes"], apart := false, laid := [("narrator/attr.codes", laid_narrator_attr_codes)] }
def AttrColorsSaid : Prop := attrColorsRow.holds Tryd.pinned (OpenSpec.ofChange attrColorsSpec)

/-- ITS FALSE NEIGHBOUR: 'it returns false'. Refute it at one input. -/
def attrColorsWrong : ChangeSpec := { name := "attrColors", fn := fun _ => fun
  | [d1, d2, d3] => { results := [.lit (.bool false)], args := [d1, d2, d3] }
  | _ => none }
def AttrColorsWrongFalsely : Prop := attrColorsRow.holds Tryd.pinned (OpenSpec.ofChange attrColorsWrong)

/-- 'narratorlaw04.AttrStyles': WHATEVER THE INPUT: true; the input reads as it did. -/
def attrStylesSpec : ChangeSpec := { name := "attrStyles", fn := fun _ => fun
  | [d1, d2] => { results := [.lit (.bool true)], args := [d1, d2] }
  | _ => none }
def attrStylesRow : OpenClaim := { program := "ytolmaphpfhplpaadoor", sum := "ea7800a38061635eefdfafee909d6930eabd9db343241385a55dcf759d3948a3", func := "narrator/narratorlaw04.AttrStyles", spec := "attrStyles", named := ["narrator/attr.codes"], apart := false, laid := [("narrator/attr.codes", laid_narrator_attr_codes)] }
def AttrStylesSaid : Prop := attrStylesRow.holds Tryd.pinned (OpenSpec.ofChange attrStylesSpec)

/-- ITS FALSE NEIGHBOUR: 'it returns false'. Refute it at one input. -/
def attrStylesWrong : ChangeSpec := { name := "attrStyles", fn := fun _ => fun
  | [d1, d2] => { results := [.lit (.bool false)], args := [d1, d2] }
  | _ => none }
def AttrStylesWrongFalsely : Prop := attrStylesRow.holds Tryd.pinned (OpenSpec.ofChange attrStylesWrong)

/- THE SECOND FORM. 'bulk': how many values and letters a reading holds, each counted each time it is reached (what is shared counts as often as it is met; a slice's spare places count too). A statement '..UptoSaid' is the law's where the arguments, and the package variables that the reading takes, are together of bulk at most 1048576: NARROWER than '..Said'. Prove '..Said' where nothing that the law and all that it calls make is longer than what came in: it says more and counts as full. Else prove '..UptoSaid'. A law counts once. -/
mutual
def uptoBulk {H : Type} : DataW H → Nat
  | .lit (.string bytes) => bytes.length + 1
  | .lit _ => 1
  | .nil => 1
  | .ptr d => uptoBulk d + 1
  | .slice elems spare => uptoBulkAll elems + uptoBulkAll spare + 1
  | .agg parts => uptoBulkAll parts + 1
  | .iface _ d => uptoBulk d + 1
  | .map entries => uptoBulkEntries entries + 1
  | .held _ => 1
def uptoBulkAll {H : Type} : List (DataW H) → Nat
  | [] => 0
  | d :: r => uptoBulk d + uptoBulkAll r
def uptoBulkEntries {H : Type} : List (Lit × DataW H) → Nat
  | [] => 0
  | x :: r => uptoBulkEntry x + uptoBulkEntries r
def uptoBulkEntry {H : Type} : Lit × DataW H → Nat
  | (.string bytes, d) => bytes.length + uptoBulk d + 1
  | (_, d) => uptoBulk d + 1
 end
def uptoSmall : (H : Type) → List (DataW H) → Bool := fun _ ds => decide (uptoBulkAll ds ≤ 1048576)
def OpenSpec.upto (s : _root_.Go.ChangeSpec) : _root_.Go.OpenSpec := { _root_.Go.OpenSpec.ofChange s with cond := some uptoSmall }

/-- 'narratorlaw04.AttrApply', WHERE WHAT IT READS IS OF BULK AT MOST 1048576: true; the input reads as it did. -/
def attrApplyUptoRow : OpenClaim := { program := "ytolmaphpfhplpaadoor", sum := "ea7800a38061635eefdfafee909d6930eabd9db343241385a55dcf759d3948a3", func := "narrator/narratorlaw04.AttrApply", spec := "attrApply", named := ["narrator/attr.codes"], apart := false, laid := [("narrator/attr.codes", laid_narrator_attr_codes)], narrowed := true }
def AttrApplyUptoSaid : Prop := attrApplyUptoRow.holds Tryd.pinned (OpenSpec.upto attrApplySpec)

/-- 'narratorlaw04.AttrResults', WHERE WHAT IT READS IS OF BULK AT MOST 1048576: true; the input reads as it did. -/
def attrResultsUptoRow : OpenClaim := { program := "ytolmaphpfhplpaadoor", sum := "ea7800a38061635eefdfafee909d6930eabd9db343241385a55dcf759d3948a3", func := "narrator/narratorlaw04.AttrResults", spec := "attrResults", named := ["narrator/attr.codes"], apart := false, laid := [("narrator/attr.codes", laid_narrator_attr_codes)], narrowed := true }
def AttrResultsUptoSaid : Prop := attrResultsUptoRow.holds Tryd.pinned (OpenSpec.upto attrResultsSpec)

/-- 'narratorlaw04.AttrRoundTrip', WHERE WHAT IT READS IS OF BULK AT MOST 1048576: true; the input reads as it did. -/
def attrRoundTripUptoRow : OpenClaim := { program := "ytolmaphpfhplpaadoor", sum := "ea7800a38061635eefdfafee909d6930eabd9db343241385a55dcf759d3948a3", func := "narrator/narratorlaw04.AttrRoundTrip", spec := "attrRoundTrip", named := ["narrator/attr.codes"], apart := false, laid := [("narrator/attr.codes", laid_narrator_attr_codes)], narrowed := true }
def AttrRoundTripUptoSaid : Prop := attrRoundTripUptoRow.holds Tryd.pinned (OpenSpec.upto attrRoundTripSpec)

/-- 'narratorlaw04.AttrIdempotent', WHERE WHAT IT READS IS OF BULK AT MOST 1048576: true; the input reads as it did. -/
def attrIdempotentUptoRow : OpenClaim := { program := "ytolmaphpfhplpaadoor", sum := "ea7800a38061635eefdfafee909d6930eabd9db343241385a55dcf759d3948a3", func := "narrator/narratorlaw04.AttrIdempotent", spec := "attrIdempotent", named := ["narrator/attr.codes"], apart := false, laid := [("narrator/attr.codes", laid_narrator_attr_codes)], narrowed := true }
def AttrIdempotentUptoSaid : Prop := attrIdempotentUptoRow.holds Tryd.pinned (OpenSpec.upto attrIdempotentSpec)

/-- 'narratorlaw04.AttrIndependent', WHERE WHAT IT READS IS OF BULK AT MOST 1048576: true; the input reads as it did. -/
def attrIndependentUptoRow : OpenClaim := { program := "ytolmaphpfhplpaadoor", sum := "ea7800a38061635eefdfafee909d6930eabd9db343241385a55dcf759d3948a3", func := "narrator/narratorlaw04.AttrIndependent", spec := "attrIndependent", named := ["narrator/attr.codes"], apart := false, laid := [("narrator/attr.codes", laid_narrator_attr_codes)], narrowed := true }
def AttrIndependentUptoSaid : Prop := attrIndependentUptoRow.holds Tryd.pinned (OpenSpec.upto attrIndependentSpec)

/-- 'narratorlaw04.AttrParts', WHERE WHAT IT READS IS OF BULK AT MOST 1048576: true; the input reads as it did. -/
def attrPartsUptoRow : OpenClaim := { program := "ytolmaphpfhplpaadoor", sum := "ea7800a38061635eefdfafee909d6930eabd9db343241385a55dcf759d3948a3", func := "narrator/narratorlaw04.AttrParts", spec := "attrParts", named := ["narrator/attr.codes"], apart := false, laid := [("narrator/attr.codes", laid_narrator_attr_codes)], narrowed := true }
def AttrPartsUptoSaid : Prop := attrPartsUptoRow.holds Tryd.pinned (OpenSpec.upto attrPartsSpec)

/-- 'narratorlaw04.AttrColors', WHERE WHAT IT READS IS OF BULK AT MOST 1048576: true; the input reads as it did. -/
def attrColorsUptoRow : OpenClaim := { program := "ytolmaphpfhplpaadoor", sum := "ea7800a38061635eefdfafee909d6930eabd9db343241385a55dcf759d3948a3", func := "narrator/narratorlaw04.AttrColors", spec := "attrColors", unfollowed := true, recurses := true, named := ["narrator/attr.codes"], apart := false, laid := [("narrator/attr.codes", laid_narrator_attr_codes)], narrowed := true }
def AttrColorsUptoSaid : Prop := attrColorsUptoRow.holds Tryd.pinned (OpenSpec.upto attrColorsSpec)

/-- 'narratorlaw04.AttrStyles', WHERE WHAT IT READS IS OF BULK AT MOST 1048576: true; the input reads as it did. -/
def attrStylesUptoRow : OpenClaim := { program := "ytolmaphpfhplpaadoor", sum := "ea7800a38061635eefdfafee909d6930eabd9db343241385a55dcf759d3948a3", func := "narrator/narratorlaw04.AttrStyles", spec := "attrStyles", named := ["narrator/attr.codes"], apart := false, laid := [("narrator/attr.codes", laid_narrator_attr_codes)], narrowed := true }
def AttrStylesUptoSaid : Prop := attrStylesUptoRow.holds Tryd.pinned (OpenSpec.upto attrStylesSpec)

end Rows
end Go.Proofs.YtolmaphpfhplpaaDoor
