/-
  'narratorlaw58.JournalOrder': for every input the law answers true and leaves the input as it was.
  Conditions: the row's own, that the listed tables hold what it lists.
-/
import Derived.Test.YtiphckeipbfbmaaGreatDoorJOrderLift
namespace Go.Proofs.YtiphckeipbfbmaaGreatDoor
open Go Go.AE Go.DE Go.RowKit Go.ChangeShapes Go.Joins

theorem fact1 : (Rows.journalOrderRow.inPlace == Tryz.pinned.checked.prog.inPlace 9) = true := by kernel_rfl
theorem fact2 : (Rows.journalOrderRow.unfollowed == Tryz.pinned.checked.prog.unfollowed 9) = true := by kernel_rfl
theorem fact3 : (Rows.journalOrderRow.recurses == Tryz.pinned.checked.prog.recurses 9) = true := by kernel_rfl
theorem fact4 : (Rows.journalOrderRow.named == Tryz.pinned.checked.prog.varsNamed 9) = true := by kernel_rfl
theorem closed : joinedFacts Tryz.pinned.checked.prog 9 Tryz.f9 (OpenSpec.ofChange Rows.journalOrderSpec).bare Rows.journalOrderRow = true := by
  unfold joinedFacts
  rw [fact1, fact2, fact3, fact4]
  kernel_rfl
theorem said : Rows.JournalOrderSaid :=
  OpenClaim.holds_of_cond 9 Tryz.f9 rfl rfl rfl rfl rfl rfl rfl ⟨rfl, rfl, rfl, rfl, rfl⟩ rfl rfl rfl rfl rfl (by kernel_rfl) Tryz.func9 closed
    (of_decide_eq_true (by kernel_rfl)) (by unfold Func.isWrapper; first | (rw [if_pos (by decide +kernel)]; kernel_rfl) | (rw [if_neg (by decide +kernel)]; exact ⟨rfl, rfl⟩))
    (fun os started H enc _ F => by rw [OpenClaim.pre_eq_preRow]; exact lifted os started H enc F)

theorem plain (f : FuncId) (fn : Func) (hf : Tryz.pinned.checked.prog.funcNamed "narrator/narratorlaw58.JournalOrder" = some f) (hfn : Tryz.pinned.checked.prog.funcs[f]? = some fn) :
    true = Tryz.pinned.checked.prog.looks [] ∧ ∀ (j : Nat) t, fn.params[j]? = some t → Tryz.pinned.checked.prog.wantsStandIn t = false := by
  obtain rfl : f = 9 := Option.some.inj ((show Tryz.prog.funcNamed "narrator/narratorlaw58.JournalOrder" = some 9 by kernel_rfl).symm.trans hf) |>.symm
  obtain rfl : fn = Tryz.f9 := (Option.some.inj (Tryz.func9.symm.trans hfn)).symm
  refine ⟨by kernel_rfl, fun j t ht => ?_⟩
  rw [Tryz.params9] at ht
  obtain rfl : t = 49 := by simpa using Array.mem_of_getElem? ht
  show Tryz.prog.wantsStandIn _ = false
  kernel_rfl

theorem card : Rows.JournalOrderCardSaid :=
  Claim7.holds_tied_plain_at .later [] _ _ _ _ said (fun _ h => by cases h) (by kernel_rfl) (fun _ h => by cases h) journalOrder_row_tie rfl ⟨rfl, rfl⟩ (by kernel_rfl) rfl plain (by kernel_rfl)
#print axioms card
end Go.Proofs.YtiphckeipbfbmaaGreatDoor
