/-
  'narratorlaw04.AttrParts': for every input the law answers true and leaves the input as it was.
  Condition: the package-level table 'codes' holds its eight numbers.
-/
import Derived.Test.YtolmaphpfhplpaaDoorOpen
import Derived.Test.YtolmaphpfhplpaaDoorParts
namespace Go.Proofs.YtolmaphpfhplpaaDoor
open Go Go.AE Go.DE Go.RowKit Go.ChangeShapes Go.Joins

theorem contract (H : Type) (enc : TypeId × Value → H) (W : World) (base : Nat) (args : Array Value) (ds gs : List (DataW H)) (before : List MemPlace)
    (hval : ∀ (j : Nat) t v, Tryd.f8.params[j]? = some t → args[j]? = some v → Value.okWide Tryd.prog W .any base t v)
    (hW : DataW.Whole enc Tryd.prog Tryd.f8.params.toList Rows.attrPartsSpec.vars false W args.toList ds gs before) (hsz : (DataW.weightsEach Tryd.prog (Tryd.f8.params.toList ++ (OpenSpec.ofChange Rows.attrPartsSpec).bare.plain.varTypes Tryd.prog) (ds ++ gs)).all (· ≤ reachBytes) = true) (hL : laidMetH Tryd.prog Rows.attrPartsRow.laid W) :
    Calls Tryd.prog 8 args W fun e W' => ∃ v, e = .returned v ∧ Rows.attrPartsSpec.post enc Tryd.prog Tryd.f8 false true false false W args v W' := by
  have hW' := hW
  obtain ⟨p, q, hA, hV, rfl, hfz, hnd⟩ := hW
  rw [Tryd.params8] at hA hval hsz
  obtain ⟨v0, vs0, d0, ds0, p0, q0, hargs, rfl, rfl, h0, r0⟩ := trodAll_cons hA
  obtain ⟨v1, vs1, d1, ds1, p1, q1, rfl, rfl, rfl, h1, r1⟩ := trodAll_cons r0
  obtain ⟨v2, vs2, d2, ds2, p2, q2, rfl, rfl, rfl, h2, r2⟩ := trodAll_cons r1
  obtain ⟨rfl, rfl, rfl⟩ := trodAll_nil r2
  obtain rfl : args = #[v0, v1, v2] := by cases args; simp_all
  obtain ⟨x0, y0, f0, rfl⟩ := open_attr (hval 0 23 v0 rfl rfl) h0
  obtain ⟨z1, n1, w1, hz1, hd1, hr1, hs1⟩ := open_ints64 (hval 1 24 v1 rfl rfl) h1
  obtain ⟨z2, n2, w2, hz2, hd2, hr2, hs2⟩ := open_ints64 (hval 2 24 v2 rfl rfl) h2
  have hz1 : n1 ≤ 1000000000000000000 := by
    have := hs1 _ _ 1 hsz rfl rfl
    rw [bytes3] at this
    unfold reachBytes at this
    omega
  have hz2 : n2 ≤ 1000000000000000000 := by
    have := hs2 _ _ 2 hsz rfl rfl
    rw [bytes3] at this
    unfold reachBytes at this
    omega
  refine law_calls (dv := [.agg [iv x0, iv y0, iv f0], .sl false (ints z1) 1 n1, .sl false (ints z2) 1 n2]) Tryd.func8 rfl rfl (by kernel_rfl) ?_ hW' rfl rfl (parts_ok (codesIn hL)) (fun k hk => lawC5_ask hz1 hz2 hk) (.cons (attr_dr x0 y0 f0) (.cons hd1 (.cons hd2 (.nil _ _)))) (.cons (attr_vr x0 y0 f0) (.cons hr1 (.cons hr2 (.nil _))))
  rw [Tryd.params8]
  intro t ht
  have ht : t = 23 ∨ t = 24 := by simpa using ht
  rcases ht with rfl | rfl <;> exact ⟨by kernel_rfl, by decide +kernel⟩

def wargs : Array Value := #[attrV 0 0 0, .slice none 0 0, .slice none 0 0]
theorem laid_met (os : Os) : laidMet Tryd.prog Rows.attrPartsRow.laid ((laidWorld os).forCall (fun _ _ => 0) ⟨#[], wargs, []⟩).memory :=
  laidMet_of_run' 8 (by kernel_rfl) (by kernel_rfl)
theorem reads (os : Os) {H : Type} (enc : TypeId × Value → H) : ∃ places, DataW.whole enc Tryd.prog ((laidWorld os).forCall (fun _ _ => 0) ⟨#[], wargs, []⟩).memory Tryd.f8.params.toList Rows.attrPartsSpec.vars false wargs.toList 8 = some ([zeroD, .nil, .nil], [], places) :=
  ⟨[], by kernel_rfl⟩

set_option maxRecDepth 100000 in
theorem lifted (os : Os) (started : os.Started) (H : Type) (enc : TypeId × Value → H) (F : Stop.Interp) :
    ReturnsInHanded {} Tryd.checked os 8 .any ((OpenSpec.ofChange Rows.attrPartsSpec).preRow enc Tryd.prog Tryd.f8 Rows.attrPartsRow.domain false Rows.attrPartsRow.laid) (((OpenSpec.ofChange Rows.attrPartsSpec).at F).post enc Tryd.prog Tryd.f8 false true false false) := by
  obtain ⟨places, hx⟩ := reads os enc
  refine returnsInHanded_of_row (C := Tryd.checked) (s := OpenSpec.ofChange Rows.attrPartsSpec) own started (by kernel_rfl) Tryd.func8
    (witness_row_at (enc := enc) (C := Tryd.checked) false (laidWorld os) wargs rfl (by kernel_rfl) (by kernel_rfl) (by kernel_rfl)
      (OpenSpec.preRow_of_cond 8 hx (by kernel_rfl) (fun k hk => by cases hk) (by kernel_rfl) (laid_met os))) ?_
  intro W base args ds gs before hval hW _ _ hsz hL _ _
  exact contract H enc W base args ds gs before hval hW hsz hL

theorem said : Rows.AttrPartsSaid :=
  OpenClaim.holds_of_cond 8 Tryd.f8 rfl rfl rfl rfl rfl rfl rfl ⟨rfl, rfl, rfl, rfl, rfl⟩ rfl rfl rfl rfl rfl (by kernel_rfl) Tryd.func8 (by kernel_rfl)
    (of_decide_eq_true (by kernel_rfl)) (by unfold Func.isWrapper; first | (rw [if_pos (by decide +kernel)]; kernel_rfl) | (rw [if_neg (by decide +kernel)]; exact ⟨rfl, rfl⟩))
    (fun os started H enc _ F => by rw [OpenClaim.pre_eq_preRow]; exact lifted os started H enc F)

theorem plain (f : FuncId) (fn : Func) (hf : Tryd.pinned.checked.prog.funcNamed "narrator/narratorlaw04.AttrParts" = some f) (hfn : Tryd.pinned.checked.prog.funcs[f]? = some fn) :
    false = Tryd.pinned.checked.prog.looks [] ∧ ∀ (j : Nat) t, fn.params[j]? = some t → Tryd.pinned.checked.prog.wantsStandIn t = false := by
  obtain rfl : f = 8 := Option.some.inj ((show Tryd.prog.funcNamed "narrator/narratorlaw04.AttrParts" = some 8 by kernel_rfl).symm.trans hf) |>.symm
  obtain rfl : fn = Tryd.f8 := (Option.some.inj (Tryd.func8.symm.trans hfn)).symm
  refine ⟨by kernel_rfl, fun j t ht => ?_⟩
  rw [Tryd.params8] at ht
  have ht : t = 23 ∨ t = 24 := by simpa using Array.mem_of_getElem? ht
  rcases ht with rfl | rfl <;> (show Tryd.prog.wantsStandIn _ = false; kernel_rfl)

theorem card : Rows.AttrPartsCardSaid :=
  Claim7.holds_tied_plain_at .later [] _ _ _ _ said (fun _ h => by cases h) (by kernel_rfl) (fun _ h => by cases h) attrParts_row_tie rfl ⟨rfl, rfl⟩ (by kernel_rfl) rfl plain (by kernel_rfl)
#print axioms card
end Go.Proofs.YtolmaphpfhplpaaDoor
