/-
  Contracts of functions whose arguments and results bear no address.
  Conditions: what is known of the old blocks is so (GoodSt); the callees do what the evaluator was told of them.
-/
import Derived.Test.YtiphckeipbfbmaaGreatDoorAeK
namespace Go.AE
open Go Go.RowKit

theorem Rel.bare {w0 w : World} (h : Below w0.heap.size w0 w) (H : HF) : Rel w0 (fun _ => none) H w :=
  ⟨h, fun _ _ _ _ e => (nomatch e), fun _ _ _ _ _ e _ => (nomatch e), fun _ _ _ _ _ _ _ _ _ e _ _ _ => (nomatch e)⟩

def endV (P : Program) (st : AE.Stat) (fn : Func) (e : Ex) (τ : Array Value) (σ : Heap) : Option Value :=
  match e with
  | .normal => resultsA P st fn τ σ
  | .ret => resultsA P st fn τ σ
  | _ => none

/-- The value that a function's body comes to, begun on an empty heap. -/
noncomputable def bodyV (P : Program) (st : AE.Stat) (call : CallA) (n : Nat) (fn : Func) (args : List Value) : Option Value :=
  match fn.body with
  | none => none
  | some c => execK P st call n c (args.toArray ++ Array.replicate (fn.ntmps - args.length) undef) [] (endV P st fn)

theorem bodyV_spec {P : Program} {st : AE.Stat} {call : CallA} {n : Nat} {fn : Func} {args : List Value} {v : Value} (h : bodyV P st call n fn args = some v) : ∃ σ, bodyA P st call n fn args [] = some (v, σ) := by
  rw [← bodyK_eq]
  unfold bodyV at h
  unfold bodyK
  cases hb : fn.body with
  | none => rw [hb] at h; cases h
  | some c =>
    rw [hb] at h
    simp only [execK_eq] at h ⊢
    cases hx : execA P st call n c (args.toArray ++ Array.replicate (fn.ntmps - args.length) undef) [] with
    | none => rw [hx] at h; cases h
    | some x =>
      obtain ⟨e, τ, σ⟩ := x
      rw [hx] at h
      simp only at h ⊢
      cases e with
      | normal => exact ⟨σ, by simp only [endK, endV] at h ⊢; rw [h]; rfl⟩
      | exit id => cases h
      | ret => exact ⟨σ, by simp only [endK, endV] at h ⊢; rw [h]; rfl⟩

/-- A flat function, as the evaluator's callee. -/
def flatFn (g : List Value → Option Value) : List Value → Heap → Option (Value × Heap) := fun args σ => (g args).map (·, σ)

theorem fnOk_of {P : Program} {w0 : World} {f : FuncId} {F : List Value → Heap → Option (Value × Heap)} {g : List Value → Option Value} (hF : FnOk P w0 f F)
    (h : ∀ args v, g args = some v → args.all flat = true ∧ flat v = true ∧ ∃ σ, F args [] = some (v, σ)) : FnOk P w0 f (flatFn g) := by
  intro args σ v σ' hg
  simp only [flatFn, Option.map_eq_some_iff, Prod.mk.injEq] at hg
  obtain ⟨u, hg, rfl, rfl⟩ := hg
  obtain ⟨hfa, hfv, σ2, hb⟩ := h args u hg
  refine ⟨Nat.le_refl _, fun ρ w args' hR _ hargs => ?_⟩
  have e : args' = args := by
    apply List.ext_getElem hargs.1.symm
    intro i h1 h2
    exact VR_flat (List.all_eq_true.1 hfa _ (List.getElem_mem h2)) (hargs.2 i _ _ (List.getElem?_eq_getElem h2) (List.getElem?_eq_getElem h1))
  subst e
  have hR0 : Rel w0 (fun _ => none) (hp []) w := .bare hR.below _
  have hargs0 : VRL (fun _ => none) args' args' := ⟨rfl, fun i v v' hv hv' => by
    obtain rfl := Option.some.inj (hv.symm.trans hv')
    exact flat_VR _ (List.all_eq_true.1 hfa _ (List.mem_of_getElem? hv))⟩
  refine ((hF _ _ _ _ hb).2 (fun _ => none) w args' hR0 (fun _ _ _ => rfl) hargs0).mono fun e w' he => ?_
  obtain ⟨v', rfl, ρ', hn, hv⟩ := he
  have ev : v' = u := VR_flat hfv hv
  subst ev
  have hun : ∀ k, k < w.heap.size → w'.heap[k]? = w.heap[k]? := fun k hk => hn.fr.fr k hk fun ⟨_, _, _, _, e1, _⟩ => (nomatch e1)
  refine ⟨v', rfl, ρ, ⟨Nat.le_refl _, .refl _ _ _, ⟨hn.fr.size, fun k hk _ => hun k hk, fun k hk _ => hk⟩, ⟨hn.rel.below, fun id b base n e => ?_, fun id b base n blk e1 e2 => ?_, hR.inj⟩⟩, flat_VR ρ hfv⟩
  · have := hR.dyn id b base n e
    have := hn.fr.size
    omega
  · obtain ⟨o, ho, hc⟩ := hR.cont id b base n blk e1 e2
    exact ⟨o, (hun b (hR.dyn id b base n e1).2).trans ho, hc⟩

theorem fnOk_flat {P : Program} {w0 : World} {st : AE.Stat} {call : CallA} {f : FuncId} {fn : Func} {g : List Value → Option Value} (n : Nat) (hcall : CallOk P w0 call) (hst : GoodSt w0 st) (hm : P.follows .mixedOrders = true) (hf : P.funcs[f]? = some fn)
    (h : ∀ args v, g args = some v → args.all flat = true ∧ flat v = true ∧ bodyV P st call n fn args = some v) : FnOk P w0 f (flatFn g) :=
  fnOk_of (bodyA_sound hcall.run hst hm hf (n := n)) fun args v hg => let ⟨h1, h2, h3⟩ := h args v hg; ⟨h1, h2, bodyV_spec h3⟩

/-- A table of callees. -/
def tblA : List (FuncId × (List Value → Heap → Option (Value × Heap))) → CallA
  | [], _ => fun _ _ => none
  | (f, g) :: r, k => if k = f then g else tblA r k
theorem tblA_nil (P : Program) (w0 : World) : CallOk P w0 (tblA []) := fun f args σ v σ' h => by simp [tblA] at h
theorem tblA_cons {P : Program} {w0 : World} {f : FuncId} {g : List Value → Heap → Option (Value × Heap)} {r : List (FuncId × (List Value → Heap → Option (Value × Heap)))} (h : FnOk P w0 f g) (hr : CallOk P w0 (tblA r)) : CallOk P w0 (tblA ((f, g) :: r)) := by
  intro k args σ v σ' hk
  unfold tblA at hk
  split at hk
  · rename_i e; subst e; exact h args σ v σ' hk
  · exact hr k args σ v σ' hk

/-- A contract, as a call of the model's, where nothing is in sight. -/
theorem calls_of_flat {P : Program} {w0 : World} {f : FuncId} {g : List Value → Option Value} (h : FnOk P w0 f (flatFn g)) {args : List Value} {v : Value} (hg : g args = some v) (hfa : args.all flat = true) (hfv : flat v = true) {w : World} (hw : Below w0.heap.size w0 w) :
    Calls P f args.toArray w fun e w' => e = .returned v ∧ Below w.heap.size w w' := by
  have hR0 : Rel w0 (fun _ => none) (hp []) w := .bare hw _
  have hargs0 : VRL (fun _ => none) args args := ⟨rfl, fun i v v' hv hv' => by
    obtain rfl := Option.some.inj (hv.symm.trans hv')
    exact flat_VR _ (List.all_eq_true.1 hfa _ (List.mem_of_getElem? hv))⟩
  refine ((h args [] v [] (by simp [flatFn, hg])).2 (fun _ => none) w args hR0 (fun _ _ _ => rfl) hargs0).mono fun e w' he => ?_
  obtain ⟨v', rfl, ρ', hn, hv⟩ := he
  have ev : v' = v := VR_flat hfv hv
  subst ev
  exact ⟨rfl, hn.rel.below.os.trans hw.os.symm, hn.rel.below.tape.trans hw.tape.symm, hn.rel.below.output.trans hw.output.symm, hn.fr.size, fun k hk => hn.fr.fr k hk fun ⟨_, _, _, _, e1, _⟩ => (nomatch e1)⟩
end Go.AE
