/-
  What attr.Check, attr.Style and the package's own examples (awake) answer: contracts for the laws of narratorlaw04.
  Condition: the package-level table 'codes' holds its eight numbers.
-/
import Derived.Test.YtolmaphpfhplpaaDoorAeFlat
import Derived.Test.YtolmaphpfhplpaaDoorAeClaim
import Derived.Test.YtolmaphpfhplpaaDoorCards
import Derived.Test.YtolmaphpfhplpaaDoorTie
import Derived.Lib.LaidTab
import Derived.WalkKit
namespace Go.Proofs.YtolmaphpfhplpaaDoor
open Go Go.AE Go.RowKit

def codes : List Value := [1, 2, 3, 4, 5, 7, 8, 9].map (Value.int .i64)
def st0 : AE.Stat := fun b => if b = 0 then some codes else none

theorem own : ownKnob Tryd.prog.godebug = none := by kernel_rfl
theorem follows : Tryd.prog.follows .mixedOrders = true := by kernel_rfl
theorem laidOut : laidOutB Tryd.prog = true := by kernel_rfl
theorem gTab : Tryd.prog.globalNamed "narrator/attr.codes" = some 0 := by kernel_rfl
theorem cells3 : Tryd.prog.cellsOf 3 = 1 := by kernel_rfl

theorem table {W : World} (h : laidMetH Tryd.prog [("narrator/attr.codes", Rows.laid_narrator_attr_codes)] W) : Lib.TabIs Tryd.prog W "narrator/attr.codes" .i64 [1, 2, 3, 4, 5, 7, 8, 9] := by
  obtain ⟨t, ht⟩ : ∃ t, (Tryd.prog.globals[0]?).map (·.type) = some t ∧ Tryd.prog.underlying t = some (.array 8 3) ∧ Tryd.prog.cellsOf t = 8 := by
    refine ⟨((Tryd.prog.globals[0]?).map (·.type)).getD 0, ?_, ?_, ?_⟩ <;> kernel_rfl
  exact Lib.tabIs_of_head (rest := []) gTab ht.1 ht.2.1 (show Tryd.prog.underlying 3 = some (.int .i64) by kernel_rfl) cells3 ht.2.2 h

theorem good {W : World} (h : laidMetH Tryd.prog [("narrator/attr.codes", Rows.laid_narrator_attr_codes)] W) : GoodSt W st0 := by
  intro b l hb
  unfold st0 at hb
  split at hb
  · rename_i e
    subst e
    obtain rfl := Option.some.inj hb
    have ht := table h
    unfold Lib.TabIs World.var? at ht
    rw [gTab] at ht
    simp only [Option.bind_some] at ht
    split at ht
    · rename_i cs ty fr hw
      obtain rfl := Option.some.inj ht
      refine ⟨_, ty, fr, hw, fun i v hv => ⟨v, by simpa [codes] using hv, fun ρ => flat_VR ρ ?_⟩⟩
      have : v ∈ codes := List.mem_of_getElem? hv
      exact List.all_eq_true.1 (show codes.all flat = true by kernel_rfl) v this
    · cases ht
  · cases hb

/-- The package's own examples hold. -/
def awFn : List Value → Option Value
  | [] => some (.bool true)
  | _ => none
def isTrue : Option (Value × Heap) → Bool
  | some (.bool b, _) => b
  | _ => false
theorem isTrue_some {x : Option (Value × Heap)} (h : isTrue x = true) : ∃ σ, x = some (.bool true, σ) := by
  unfold isTrue at h
  split at h
  · rename_i b σ
    subst h
    exact ⟨σ, rfl⟩
  · cases h
theorem awake_eval : isTrue (runF Tryd.prog st0 100 30 12 [] []) = true := by kernel_rfl
theorem awakeOk {W : World} (hst : GoodSt W st0) : FnOk Tryd.prog W 12 (flatFn awFn) :=
  fnOk_of (fun args σ v σ' h => runF_sound (n := 100) hst follows 30 12 args σ v σ' h) fun args v hv => by
    unfold awFn at hv
    split at hv
    · obtain rfl := Option.some.inj hv
      exact ⟨rfl, rfl, isTrue_some awake_eval⟩
    · cases hv

/-- An attribute, as a value. -/
def attrV (x y f : Int) : Value := .agg #[.int .i64 x, .int .i64 y, .int .i64 f]
def onAttr (g : Int → Int → Int → Int) : List Value → Option Value
  | [.agg ⟨[.int .i64 x, .int .i64 y, .int .i64 f]⟩] => some (.int .i64 (g x y f))
  | _ => none
theorem onAttr_eq {g : Int → Int → Int → Int} {args : List Value} {v : Value} (h : onAttr g args = some v) : ∃ x y f, args = [attrV x y f] ∧ v = .int .i64 (g x y f) := by
  unfold onAttr at h
  split at h
  · exact ⟨_, _, _, rfl, (Option.some.inj h).symm⟩
  · cases h

def checkF (x y f : Int) : Int :=
  if x < -1 then 2 else if x > 255 then 2 else if y < -1 then 2 else if y > 255 then 2 else if f < 0 then 2 else if f > 255 then 2 else 0
theorem check_tree (x y f : Int) : bodyV Tryd.prog st0 (tblA []) 10 Tryd.f15 [attrV x y f] =
    bif decide (x < -1) then some (.int .i64 2) else bif bif false then true else decide (x > 255) then some (.int .i64 2)
    else bif decide (y < -1) then some (.int .i64 2) else bif bif false then true else decide (y > 255) then some (.int .i64 2)
    else bif decide (f < 0) then some (.int .i64 2) else bif bif false then true else decide (f > 255) then some (.int .i64 2) else some (.int .i64 0) := by
  kernel_rfl
theorem checkOk {W : World} (hst : GoodSt W st0) : FnOk Tryd.prog W 15 (flatFn (onAttr checkF)) :=
  fnOk_flat 10 (tblA_nil _ _) hst follows Tryd.func15 fun args v hv => by
    obtain ⟨x, y, f, rfl, rfl⟩ := onAttr_eq hv
    refine ⟨rfl, rfl, (check_tree x y f).trans ?_⟩
    simp only [Bool.cond_decide, cond_false, checkF]
    repeat' split
    all_goals rfl
end Go.Proofs.YtolmaphpfhplpaaDoor
