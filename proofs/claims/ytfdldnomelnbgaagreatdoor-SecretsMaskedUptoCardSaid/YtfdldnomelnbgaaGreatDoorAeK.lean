/-
 The evaluator once more, with what comes behind handed on: so that a run over unknown numbers comes to a tree of tests by itself.
 Conditions: none; equations between the two forms.

 Contracts of functions whose arguments and results bear no address.
 Conditions: what is known of the old blocks is so (GoodSt); the callees do what the evaluator was told of them.
-/
import Derived.Test.YtfdldnomelnbgaaGreatDoorAeExec
namespace Go.AE
open Go Go.RowKit

abbrev Res := Option (Value × Heap)

def guardK {α : Type} (ops : Array Oper) (o : Oper) (τ : Array Value) (run skip : Array Value → Option α) : Option α :=
 match o.guard with
 | none => run τ
 | some (j, want) => match (ops[j]?).bind (·.dst) with
  | none => skip τ
  | some d => match τ[d]? with
   | some (.bool t) => match want with
    | true => cond t (run (τ.setIfInBounds d (.bool true))) (skip (τ.setIfInBounds d (.bool false)))
    | false => cond t (skip (τ.setIfInBounds d (.bool true))) (run (τ.setIfInBounds d (.bool false)))
   | some (.chan _) => none
   | _ => skip τ

def stepK {α : Type} (P : Program) (st : AE.Stat) (call : CallA) (ops : Array Oper) (o : Oper) (τ : Array Value) (σ : Heap) (k : Array Value → Array Value → Heap → Option α) : Option α :=
 guardK ops o τ
  (fun τ => match o.op with
  | .pick c a b => if constsOk o.op then (match evalT τ c with
   | .bool t => match evalT τ a, evalT τ b with
    | .bool x, .bool y => k τ (putT τ o.dst (.bool (cond t x y))) σ
    | _, _ => cond t (k τ (putT τ o.dst (evalT τ a)) σ) (k τ (putT τ o.dst (evalT τ b)) σ)
   | _ => none) else none
  | _ => match opA P st call (evalT τ) o σ with
   | some (v, σ') => k τ (putT τ o.dst v) σ'
   | none => none)
  (fun τ => k τ (putT τ o.dst undef) σ)

theorem opA_pick {P : Program} {st : AE.Stat} {call : CallA} {ev : Operand → Value} {o : Oper} {c a b : Operand} {σ : Heap} (ho : o.op = .pick c a b) (hc : constsOk o.op = true) :
  opA P st call ev o σ = match ev c with | .bool t => some (if t then ev a else ev b, σ) | _ => none := by
 have hp : peek P (execOp ev o) = match ev c with | .bool t => some (.value (if t then ev a else ev b)) | _ => none := by
  have hx : execOp ev o = (do pure (.value (if ← asBool (ev c) then ev a else ev b))) := by
   unfold execOp
   rw [ho]
  rw [hx]
  cases ev c <;> rfl
 unfold opA
 rw [if_pos hc]
 unfold peekA
 rw [hp]
 by_cases hall : (o.op.operands.toList.all (fun x => flat (ev x)) && !isSelect o.op) = true
 ·rw [if_pos hall, ho]
  simp only [specA]
  cases hv : ev c <;> try rfl
  rename_i t
  simp only
  by_cases hf : flat (if t = true then ev a else ev b) = true
  ·simp only [hf, if_true]
  ·simp only [hf]
   rfl
 ·rw [if_neg hall, ho]
  rfl

end Go.AE

namespace Go.AE
open Go Go.RowKit

theorem Rel.bare {w0 w : World} (h : Below w0.heap.size w0 w) (H : HF) : Rel w0 (fun _ => none) H w :=
 ⟨h, fun _ _ _ _ e => (nomatch e), fun _ _ _ _ _ e _ => (nomatch e), fun _ _ _ _ _ _ _ _ _ e _ _ _ => (nomatch e)⟩

def flatFn (g : List Value → Option Value) : List Value → Heap → Option (Value × Heap) := fun args σ => (g args).map (·, σ)

theorem fnOk_of {P : Program} {w0 : World} {f : FuncId} {F : List Value → Heap → Option (Value × Heap)} {g : List Value → Option Value} (hF : FnOk P w0 f F)
  (h : ∀ args v, g args = some v → args.all flat = true ∧ flat v = true ∧ ∃ σ, F args [] = some (v, σ)) : FnOk P w0 f (flatFn g) := by
 intro args σ v σ' hg
 simp only [flatFn, Option.map_eq_some_iff, Prod.mk.injEq] at hg
 obtain ⟨u, hg, rfl, rfl⟩ := hg
 obtain ⟨hfa, hfv, σ2, hb⟩ := h args u hg
 refine ⟨Nat.le_refl _, fun ρ w args' hR _ hargs => ?_⟩
 have e : args' = args := by
  apply List.ext_getElem hargs.1.symm
  intro i h1 h2
  exact VR_flat (List.all_eq_true.1 hfa _ (List.getElem_mem h2)) (hargs.2 i _ _ (List.getElem?_eq_getElem h2) (List.getElem?_eq_getElem h1))
 subst e
 have hR0 : Rel w0 (fun _ => none) (hp []) w := .bare hR.below _
 have hargs0 : VRL (fun _ => none) args' args' := ⟨rfl, fun i v v' hv hv' => by
  obtain rfl := Option.some.inj (hv.symm.trans hv')
  exact flat_VR _ (List.all_eq_true.1 hfa _ (List.mem_of_getElem? hv))⟩
 refine ((hF _ _ _ _ hb).2 (fun _ => none) w args' hR0 (fun _ _ _ => rfl) hargs0).mono fun e w' he => ?_
 obtain ⟨v', rfl, ρ', hn, hv⟩ := he
 have ev : v' = u := VR_flat hfv hv
 subst ev
 have hun : ∀ k, k < w.heap.size → w'.heap[k]? = w.heap[k]? := fun k hk => hn.fr.fr k hk fun ⟨_, _, _, _, e1, _⟩ => (nomatch e1)
 refine ⟨v', rfl, ρ, ⟨Nat.le_refl _, .refl _ _ _, ⟨hn.fr.size, fun k hk _ => hun k hk, fun k hk _ => hk⟩, ⟨hn.rel.below, fun id b base n e => ?_, fun id b base n blk e1 e2 => ?_, hR.inj⟩⟩, flat_VR ρ hfv⟩
 ·have := hR.dyn id b base n e
  have := hn.fr.size
  omega
 ·obtain ⟨o, ho, hc⟩ := hR.cont id b base n blk e1 e2
  exact ⟨o, (hun b (hR.dyn id b base n e1).2).trans ho, hc⟩

end Go.AE
