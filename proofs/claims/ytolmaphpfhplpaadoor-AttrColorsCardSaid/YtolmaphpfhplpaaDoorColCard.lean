/-
  'narratorlaw04.AttrColors': for every input the law answers true and leaves the input as it was.
  Condition: the package-level table 'codes' holds its eight numbers.
-/
import Derived.Test.YtolmaphpfhplpaaDoorArr
import Derived.Test.YtolmaphpfhplpaaDoorCol
namespace Go.Proofs.YtolmaphpfhplpaaDoor
open Go Go.AE Go.DE Go.RowKit Go.ChangeShapes Go.Joins

theorem contract (H : Type) (enc : TypeId × Value → H) (W : World) (base : Nat) (args : Array Value) (ds gs : List (DataW H)) (before : List MemPlace)
    (hval : ∀ (j : Nat) t v, Tryd.f9.params[j]? = some t → args[j]? = some v → Value.okWide Tryd.prog W .any base t v)
    (hW : DataW.Whole enc Tryd.prog Tryd.f9.params.toList Rows.attrColorsSpec.vars false W args.toList ds gs before) (hL : laidMetH Tryd.prog Rows.attrColorsRow.laid W) :
    Calls Tryd.prog 9 args W fun e W' => ∃ v, e = .returned v ∧ Rows.attrColorsSpec.post enc Tryd.prog Tryd.f9 false true false false W args v W' := by
  have hW' := hW
  obtain ⟨p, q, hA, hV, rfl, hfz, hnd⟩ := hW
  rw [Tryd.params9] at hA hval
  obtain ⟨v0, vs0, d0, ds0, p0, q0, hargs, rfl, rfl, h0, r0⟩ := trodAll_cons hA
  obtain ⟨v1, vs1, d1, ds1, p1, q1, rfl, rfl, rfl, h1, r1⟩ := trodAll_cons r0
  obtain ⟨v2, vs2, d2, ds2, p2, q2, rfl, rfl, rfl, h2, r2⟩ := trodAll_cons r1
  obtain ⟨rfl, rfl, rfl⟩ := trodAll_nil r2
  obtain rfl : args = #[v0, v1, v2] := by cases args; simp_all
  obtain ⟨x0, y0, f0, rfl⟩ := open_attr (hval 0 23 v0 rfl rfl) h0
  obtain ⟨c0, c1, c2, c3, c4, c5, rfl, hb1⟩ := open_arr (hval 1 39 v1 rfl rfl) h1
  obtain ⟨b2, rfl, -, -⟩ := open_bool Tryd.underlying4 (hval 2 4 v2 rfl rfl) h2
  refine law_calls (dv := [.agg [iv x0, iv y0, iv f0], .agg [bv c0, bv c1, bv c2, bv c3, bv c4, bv c5], .v (.bool b2)]) Tryd.func9 rfl rfl (by kernel_rfl) ?_ hW' rfl rfl (col_ok (codesIn hL)) (fun k hk => lawC6_ask hb1  hk) (.cons (attr_dr x0 y0 f0) (.cons (arr_dr c0 c1 c2 c3 c4 c5) (.cons (.v _ rfl) (.nil _ _)))) (.cons (attr_vr x0 y0 f0) (.cons (arr_vr c0 c1 c2 c3 c4 c5) (.cons (.bool _) (.nil _))))
  rw [Tryd.params9]
  intro t ht
  have ht : t = 23 ∨ t = 39 ∨ t = 4 := by simpa using ht
  rcases ht with rfl | rfl | rfl <;> exact ⟨by kernel_rfl, by decide +kernel⟩

def wargs : Array Value := #[attrV 0 0 0, arrV 0 0 0 0 0 0, .bool false]
theorem laid_met (os : Os) : laidMet Tryd.prog Rows.attrColorsRow.laid ((laidWorld os).forCall (fun _ _ => 0) ⟨#[], wargs, []⟩).memory :=
  laidMet_of_run' 8 (by kernel_rfl) (by kernel_rfl)
theorem reads (os : Os) {H : Type} (enc : TypeId × Value → H) : ∃ places, DataW.whole enc Tryd.prog ((laidWorld os).forCall (fun _ _ => 0) ⟨#[], wargs, []⟩).memory Tryd.f9.params.toList Rows.attrColorsSpec.vars false wargs.toList 8 = some ([zeroD, zeroA, .lit (.bool false)], [], places) :=
  ⟨[], by kernel_rfl⟩

set_option maxRecDepth 100000 in
theorem lifted (os : Os) (started : os.Started) (H : Type) (enc : TypeId × Value → H) (F : Stop.Interp) :
    ReturnsInHanded {} Tryd.checked os 9 .any ((OpenSpec.ofChange Rows.attrColorsSpec).preRow enc Tryd.prog Tryd.f9 Rows.attrColorsRow.domain false Rows.attrColorsRow.laid) (((OpenSpec.ofChange Rows.attrColorsSpec).at F).post enc Tryd.prog Tryd.f9 false true false false) := by
  obtain ⟨places, hx⟩ := reads os enc
  refine returnsInHanded_of_row (C := Tryd.checked) (s := OpenSpec.ofChange Rows.attrColorsSpec) own started (by kernel_rfl) Tryd.func9
    (witness_row_at (enc := enc) (C := Tryd.checked) false (laidWorld os) wargs rfl (by kernel_rfl) (by kernel_rfl) (by kernel_rfl)
      (OpenSpec.preRow_of_cond 8 hx (by kernel_rfl) (fun k hk => by cases hk) (by kernel_rfl) (laid_met os))) ?_
  intro W base args ds gs before hval hW _ _ _ hL _ _
  exact contract H enc W base args ds gs before hval hW hL

theorem said : Rows.AttrColorsSaid :=
  OpenClaim.holds_of_cond 9 Tryd.f9 rfl rfl rfl rfl rfl rfl rfl ⟨rfl, rfl, rfl, rfl, rfl⟩ rfl rfl rfl rfl rfl (by kernel_rfl) Tryd.func9 (by kernel_rfl)
    (of_decide_eq_true (by kernel_rfl)) (by unfold Func.isWrapper; first | (rw [if_pos (by decide +kernel)]; kernel_rfl) | (rw [if_neg (by decide +kernel)]; exact ⟨rfl, rfl⟩))
    (fun os started H enc _ F => by rw [OpenClaim.pre_eq_preRow]; exact lifted os started H enc F)

theorem plain (f : FuncId) (fn : Func) (hf : Tryd.pinned.checked.prog.funcNamed "narrator/narratorlaw04.AttrColors" = some f) (hfn : Tryd.pinned.checked.prog.funcs[f]? = some fn) :
    false = Tryd.pinned.checked.prog.looks [] ∧ ∀ (j : Nat) t, fn.params[j]? = some t → Tryd.pinned.checked.prog.wantsStandIn t = false := by
  obtain rfl : f = 9 := Option.some.inj ((show Tryd.prog.funcNamed "narrator/narratorlaw04.AttrColors" = some 9 by kernel_rfl).symm.trans hf) |>.symm
  obtain rfl : fn = Tryd.f9 := (Option.some.inj (Tryd.func9.symm.trans hfn)).symm
  refine ⟨by kernel_rfl, fun j t ht => ?_⟩
  rw [Tryd.params9] at ht
  have ht : t = 23 ∨ t = 39 ∨ t = 4 := by simpa using Array.mem_of_getElem? ht
  rcases ht with rfl | rfl | rfl <;> (show Tryd.prog.wantsStandIn _ = false; kernel_rfl)

theorem card : Rows.AttrColorsCardSaid :=
  Claim7.holds_tied_plain_at .later [] _ _ _ _ said (fun _ h => by cases h) (by kernel_rfl) (fun _ h => by cases h) attrColors_row_tie rfl ⟨rfl, rfl⟩ (by kernel_rfl) rfl plain (by kernel_rfl)
#print axioms card
end Go.Proofs.YtolmaphpfhplpaaDoor
