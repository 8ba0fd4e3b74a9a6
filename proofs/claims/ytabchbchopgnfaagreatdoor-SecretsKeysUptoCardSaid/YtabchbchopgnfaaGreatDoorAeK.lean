/-
  The evaluator once more, with what comes behind handed on: so that a run over unknown numbers comes to a tree of tests by itself.
  Conditions: none; equations between the two forms.

  Contracts of functions whose arguments and results bear no address.
  Conditions: what is known of the old blocks is so (GoodSt); the callees do what the evaluator was told of them.
-/
import Derived.Test.YtabchbchopgnfaaGreatDoorAeExec
namespace Go.AE
open Go Go.RowKit

abbrev Res := Option (Value × Heap)

/-- The guard of an operation, as the bool that it names; behind the test the slot holds the outcome. -/
def guardK {α : Type} (ops : Array Oper) (o : Oper) (τ : Array Value) (run skip : Array Value → Option α) : Option α :=
  match o.guard with
  | none => run τ
  | some (j, want) => match (ops[j]?).bind (·.dst) with
    | none => skip τ
    | some d => match τ[d]? with
      | some (.bool t) => match want with
        | true => cond t (run (τ.setIfInBounds d (.bool true))) (skip (τ.setIfInBounds d (.bool false)))
        | false => cond t (skip (τ.setIfInBounds d (.bool true))) (run (τ.setIfInBounds d (.bool false)))
      | some (.chan _) => none
      | _ => skip τ

def stepK {α : Type} (P : Program) (st : AE.Stat) (call : CallA) (ops : Array Oper) (o : Oper) (τ : Array Value) (σ : Heap) (k : Array Value → Array Value → Heap → Option α) : Option α :=
  guardK ops o τ
    (fun τ => match o.op with
    | .pick c a b => if constsOk o.op then (match evalT τ c with
      | .bool t => match evalT τ a, evalT τ b with
        | .bool x, .bool y => k τ (putT τ o.dst (.bool (cond t x y))) σ
        | _, _ => cond t (k τ (putT τ o.dst (evalT τ a)) σ) (k τ (putT τ o.dst (evalT τ b)) σ)
      | _ => none) else none
    | _ => match opA P st call (evalT τ) o σ with
      | some (v, σ') => k τ (putT τ o.dst v) σ'
      | none => none)
    (fun τ => k τ (putT τ o.dst undef) σ)

theorem set_same {τ : Array Value} {d : Nat} {v : Value} (h : τ[d]? = some v) : τ.setIfInBounds d v = τ := by
  apply Array.ext_getElem?
  intro i
  rw [Array.getElem?_setIfInBounds]
  by_cases e : d = i
  · subst e
    have hlt : d < τ.size := (Array.getElem?_eq_some_iff.1 h).1
    rw [if_pos rfl, if_pos hlt, h]
  · simp [e]

theorem guardK_eq {α : Type} (ops : Array Oper) (o : Oper) (τ : Array Value) (run skip : Array Value → Option α) : guardK ops o τ run skip = if guardOk ops o τ then (if Region.wanted o (yielded ops τ) then run τ else skip τ) else none := by
  cases hg : o.guard with
  | none =>
    have hG : guardOk ops o τ = true := by unfold guardOk; rw [hg]
    have hW : Region.wanted o (yielded ops τ) = true := by unfold Region.wanted; rw [hg]
    rw [hG, hW]
    unfold guardK
    rw [hg]
    rfl
  | some p =>
    obtain ⟨j, want⟩ := p
    have hW : Region.wanted o (yielded ops τ) = (yielded ops τ j == some want) := by unfold Region.wanted; rw [hg]
    rw [hW]
    cases hd : (ops[j]?).bind (·.dst) with
    | none =>
      have hG : guardOk ops o τ = true := by unfold guardOk; rw [hg]; simp only [hd, Option.bind_none]
      have hy : yielded ops τ j = none := by unfold yielded; rw [hd]; rfl
      rw [hG, hy]
      unfold guardK
      rw [hg]
      simp only [hd]
      rfl
    | some d =>
      cases hx : τ[d]? with
      | none =>
        have hG : guardOk ops o τ = true := by unfold guardOk; rw [hg]; simp only [hd, Option.bind_some, hx]
        have hy : yielded ops τ j = none := by unfold yielded; rw [hd]; simp only [Option.bind_some, hx]
        rw [hG, hy]
        unfold guardK
        rw [hg]
        simp only [hd, hx]
        rfl
      | some v =>
        cases v
        case bool t =>
          have hG : guardOk ops o τ = true := by unfold guardOk; rw [hg]; simp only [hd, Option.bind_some, hx]
          have hy : yielded ops τ j = some t := by unfold yielded; rw [hd]; simp only [Option.bind_some, hx]
          rw [hG, hy]
          unfold guardK
          rw [hg]
          simp only [hd, hx]
          have := set_same hx
          cases t <;> cases want <;> simp only [cond, this] <;> rfl
        case chan r =>
          have hG : guardOk ops o τ = false := by unfold guardOk; rw [hg]; simp only [hd, Option.bind_some, hx]
          rw [hG]
          unfold guardK
          rw [hg]
          simp only [hd, hx]
          rfl
        all_goals
          have hG : guardOk ops o τ = true := by unfold guardOk; rw [hg]; simp only [hd, Option.bind_some, hx]
          have hy : yielded ops τ j = none := by unfold yielded; rw [hd]; simp only [Option.bind_some, hx]
          rw [hG, hy]
          unfold guardK
          rw [hg]
          simp only [hd, hx]
          rfl

theorem opA_pick {P : Program} {st : AE.Stat} {call : CallA} {ev : Operand → Value} {o : Oper} {c a b : Operand} {σ : Heap} (ho : o.op = .pick c a b) (hc : constsOk o.op = true) :
    opA P st call ev o σ = match ev c with | .bool t => some (if t then ev a else ev b, σ) | _ => none := by
  have hp : peek P (execOp ev o) = match ev c with | .bool t => some (.value (if t then ev a else ev b)) | _ => none := by
    have hx : execOp ev o = (do pure (.value (if ← asBool (ev c) then ev a else ev b))) := by
      unfold execOp
      rw [ho]
    rw [hx]
    cases ev c <;> rfl
  unfold opA
  rw [if_pos hc]
  unfold peekA
  rw [hp]
  by_cases hall : (o.op.operands.toList.all (fun x => flat (ev x)) && !isSelect o.op) = true
  · rw [if_pos hall, ho]
    simp only [specA]
    cases hv : ev c <;> try rfl
    rename_i t
    simp only
    by_cases hf : flat (if t = true then ev a else ev b) = true
    · simp only [hf, if_true]
    · simp only [hf]
      rfl
  · rw [if_neg hall, ho]
    rfl

theorem stepK_eq {α : Type} (P : Program) (st : AE.Stat) (call : CallA) (ops : Array Oper) (o : Oper) (τ : Array Value) (σ : Heap) (k : Array Value → Array Value → Heap → Option α) :
    stepK P st call ops o τ σ k = match stepA P st call ops o τ σ with | some (τ', σ') => k τ τ' σ' | none => none := by
  unfold stepK stepA
  rw [guardK_eq]
  split
  · split
    · cases ho : o.op
      case pick c a b =>
        simp only
        by_cases hc : constsOk (Op.pick c a b) = true
        · have := opA_pick (P := P) (st := st) (call := call) (ev := evalT τ) (σ := σ) ho (by rw [ho]; exact hc)
          rw [if_pos hc, this]
          cases evalT τ c <;> try rfl
          rename_i t
          simp only
          split
          · rename_i x y hx hy
            cases t
            · simp only [cond, Bool.false_eq_true, if_false, hy]
            · simp only [cond, if_true, hx]
          · cases t <;> rfl
        · rw [if_neg hc]
          unfold opA
          rw [ho, if_neg hc]
      all_goals
        simp only
        cases opA P st call (evalT τ) o σ with
        | none => rfl
        | some x => obtain ⟨v, σ'⟩ := x; rfl
    · rfl
  · rfl

def runK {α : Type} (P : Program) (st : AE.Stat) (call : CallA) (ops : Array Oper) : List Oper → Array Value → Heap → (Array Value → Heap → Option α) → Option α
  | [], τ, σ, k => k τ σ
  | o :: rest, τ, σ, k => stepK P st call ops o τ σ fun _ τ' σ' => runK P st call ops rest τ' σ' k

theorem runK_eq {α : Type} (P : Program) (st : AE.Stat) (call : CallA) (ops : Array Oper) (k : Array Value → Heap → Option α) : ∀ (l : List Oper) (τ : Array Value) (σ : Heap),
    runK P st call ops l τ σ k = match runA P st call ops l τ σ with | some (τ', σ') => k τ' σ' | none => none
  | [], τ, σ => rfl
  | o :: l, τ, σ => by
    simp only [runK, runA, stepK_eq]
    cases stepA P st call ops o τ σ with
    | none => rfl
    | some x => obtain ⟨τ1, σ1⟩ := x; exact runK_eq P st call ops k l τ1 σ1

def traceK {α : Type} (P : Program) (st : AE.Stat) (call : CallA) (ops : Array Oper) : List Oper → Array Value → Heap → List (Array Value × Heap) → (List (Array Value × Heap) → Array Value → Heap → Option α) → Option α
  | [], τ, σ, tr, k => k (tr ++ [(τ, σ)]) τ σ
  | o :: rest, τ, σ, tr, k => stepK P st call ops o τ σ fun τ0 τ' σ' => traceK P st call ops rest τ' σ' (tr ++ [(τ0, σ)]) k

theorem traceK_eq {α : Type} (P : Program) (st : AE.Stat) (call : CallA) (ops : Array Oper) (k : List (Array Value × Heap) → Array Value → Heap → Option α) : ∀ (l : List Oper) (τ : Array Value) (σ : Heap) (tr : List (Array Value × Heap)),
    traceK P st call ops l τ σ tr k = match traceA P st call ops l τ σ, runA P st call ops l τ σ with | some t, some (τ', σ') => k (tr ++ t) τ' σ' | _, _ => none
  | [], τ, σ, tr => rfl
  | o :: l, τ, σ, tr => by
    simp only [traceK, traceA, runA, stepK_eq]
    cases stepA P st call ops o τ σ with
    | none => rfl
    | some x =>
      obtain ⟨τ1, σ1⟩ := x
      simp only
      rw [traceK_eq P st call ops k l τ1 σ1]
      cases traceA P st call ops l τ1 σ1 with
      | none => rfl
      | some t =>
        cases runA P st call ops l τ1 σ1 with
        | none => rfl
        | some y => obtain ⟨τ2, σ2⟩ := y; simp

theorem trace_run (P : Program) (st : AE.Stat) (call : CallA) (ops : Array Oper) : ∀ (l : List Oper) (τ : Array Value) (σ : Heap),
    match traceA P st call ops l τ σ with
    | some t => ∃ x, runA P st call ops l τ σ = some x ∧ t.getLast? = some x
    | none => runA P st call ops l τ σ = none
  | [], τ, σ => ⟨(τ, σ), rfl, rfl⟩
  | o :: l, τ, σ => by
    unfold traceA runA
    cases stepA P st call ops o τ σ with
    | none => rfl
    | some x =>
      obtain ⟨τ1, σ1⟩ := x
      have ih := trace_run P st call ops l τ1 σ1
      simp only
      cases ht : traceA P st call ops l τ1 σ1 with
      | none => rw [ht] at ih; exact ih
      | some t =>
        rw [ht] at ih
        obtain ⟨x, h1, h2⟩ := ih
        refine ⟨x, h1, ?_⟩
        have hne : t ≠ [] := by intro e; rw [e] at h2; cases h2
        show ((τ, σ) :: t).getLast? = some x
        rw [List.getLast?_cons, h2]
        rfl

def iterK {α : Type} (f : Array Value → Heap → (Ex → Array Value → Heap → Option α) → Option α) : Nat → Array Value → Heap → (Ex → Array Value → Heap → Option α) → Option α
  | 0, _, _, _ => none
  | n + 1, τ, σ, k => f τ σ fun e τ' σ' => match e with
    | .normal => iterK f n τ' σ' k
    | e => k e τ' σ'

theorem iterK_eq {α : Type} {f : Array Value → Heap → (Ex → Array Value → Heap → Option α) → Option α} {g : Array Value → Heap → Out} (h : ∀ τ σ k, f τ σ k = match g τ σ with | some (e, τ', σ') => k e τ' σ' | none => none) :
    ∀ (n : Nat) (τ : Array Value) (σ : Heap) (k : Ex → Array Value → Heap → Option α), iterK f n τ σ k = match iterA g n τ σ with | some (e, τ', σ') => k e τ' σ' | none => none
  | 0, τ, σ, k => rfl
  | n + 1, τ, σ, k => by
    simp only [iterK, iterA, h]
    cases hg : g τ σ with
    | none => rfl
    | some x =>
      obtain ⟨e, τ1, σ1⟩ := x
      cases e with
      | normal => exact iterK_eq h n τ1 σ1 k
      | exit id => rfl
      | ret => rfl

/-- Code, with what comes behind it. -/
noncomputable def execK {α : Type} (P : Program) (st : AE.Stat) (call : CallA) (n : Nat) : Code → Array Value → Heap → (Ex → Array Value → Heap → Option α) → Option α
  | .skip => fun τ σ k => k .normal τ σ
  | .label _ => fun τ σ k => k .normal τ σ
  | .region _ ops draw => fun τ σ k =>
    match draw with
    | true => cond (staticP P ops) (traceK P st call ops ops.toList τ σ [] (fun tr τ' σ' => cond (dynB P st ops tr) (k .normal τ' σ') none)) none
    | false => runK P st call ops ops.toList τ σ (fun τ' σ' => k .normal τ' σ')
  | .seq a b => fun τ σ k => execK P st call n a τ σ fun e τ' σ' => match e with
    | .normal => execK P st call n b τ' σ' k
    | e => k e τ' σ'
  | .cond c a b => fun τ σ k => match evalT τ c with
    | .bool t => cond t (execK P st call n a τ σ k) (execK P st call n b τ σ k)
    | _ => none
  | .block id a => fun τ σ k => execK P st call n a τ σ fun e τ' σ' => match e with
    | .exit j => if j = id then k .normal τ' σ' else k (.exit j) τ' σ'
    | e => k e τ' σ'
  | .loop a => fun τ σ k => iterK (execK P st call n a) n τ σ k
  | .exit id => fun τ σ k => k (.exit id) τ σ
  | .ret => fun τ σ k => k .ret τ σ
  | .rangeFunc g ps asg body => fun τ σ k => match execA P st call n (.rangeFunc g ps asg body) τ σ with
    | some (e, τ', σ') => k e τ' σ'
    | none => none
  | _ => fun _ _ _ => none

theorem execK_eq {α : Type} (P : Program) (st : AE.Stat) (call : CallA) (n : Nat) : ∀ (c : Code) (τ : Array Value) (σ : Heap) (k : Ex → Array Value → Heap → Option α),
    execK P st call n c τ σ k = match execA P st call n c τ σ with | some (e, τ', σ') => k e τ' σ' | none => none := by
  intro c
  induction c with
  | skip => intro τ σ k; rfl
  | label l => intro τ σ k; rfl
  | exit id => intro τ σ k; rfl
  | ret => intro τ σ k; rfl
  | loop a ih => intro τ σ k; exact iterK_eq ih n τ σ k
  | rangeFunc f ps as b _ _ => intro τ σ k; rfl
  | scope b _ => intro τ σ k; rfl
  | goto l => intro τ σ k; rfl
  | refuse y => intro τ σ k; rfl
  | region id ops draw =>
    intro τ σ k
    cases draw with
    | false =>
      simp only [execK, execA, runK_eq, Bool.false_eq_true, if_false]
      cases runA P st call ops ops.toList τ σ with
      | none => rfl
      | some x => obtain ⟨τ1, σ1⟩ := x; rfl
    | true =>
      simp only [execK, execA, traceK_eq, if_true, drawA]
      by_cases hs : staticP P ops = true
      · simp only [hs, if_true, cond]
        have := trace_run P st call ops ops.toList τ σ
        cases ht : traceA P st call ops ops.toList τ σ with
        | none => rfl
        | some t =>
          rw [ht] at this
          obtain ⟨⟨τ1, σ1⟩, h1, h2⟩ := this
          simp only [h1, List.nil_append]
          cases hd : dynB P st ops t with
          | true => simp only [if_true, h2]
          | false => rfl
      · have hs : staticP P ops = false := by simpa using hs
        simp only [hs, cond]
        rfl
  | seq a b iha ihb =>
    intro τ σ k
    simp only [execK, execA, iha]
    cases h : execA P st call n a τ σ with
    | none => rfl
    | some x =>
      obtain ⟨e, τ1, σ1⟩ := x
      cases e with
      | normal => simp only [ihb]
      | exit id => rfl
      | ret => rfl
  | cond c a b iha ihb =>
    intro τ σ k
    simp only [execK, execA]
    cases evalT τ c <;> try rfl
    rename_i t
    cases t with
    | true => simp only [iha, cond, if_true]
    | false => simp only [ihb, cond, Bool.false_eq_true, if_false]
  | block id a iha =>
    intro τ σ k
    simp only [execK, execA, iha]
    cases h : execA P st call n a τ σ with
    | none => rfl
    | some x =>
      obtain ⟨e, τ1, σ1⟩ := x
      cases e with
      | normal => rfl
      | exit j => simp only; split <;> rfl
      | ret => rfl

def endK (P : Program) (st : AE.Stat) (fn : Func) (e : Ex) (τ : Array Value) (σ : Heap) : Res :=
  match e with
  | .normal => (resultsA P st fn τ σ).map (·, σ)
  | .ret => (resultsA P st fn τ σ).map (·, σ)
  | _ => none

/-- A function's body, in this form. -/
noncomputable def bodyK (P : Program) (st : AE.Stat) (call : CallA) (n : Nat) (fn : Func) (args : List Value) (σ : Heap) : Res :=
  match fn.body with
  | none => none
  | some c => execK P st call n c (args.toArray ++ Array.replicate (fn.ntmps - args.length) undef) σ (endK P st fn)
theorem bodyK_eq (P : Program) (st : AE.Stat) (call : CallA) (n : Nat) (fn : Func) (args : List Value) (σ : Heap) : bodyK P st call n fn args σ = bodyA P st call n fn args σ := by
  unfold bodyK bodyA
  cases fn.body with
  | none => rfl
  | some c =>
    simp only [execK_eq]
    cases execA P st call n c (args.toArray ++ Array.replicate (fn.ntmps - args.length) undef) σ with
    | none => rfl
    | some x => obtain ⟨e, τ1, σ1⟩ := x; cases e <;> rfl
end Go.AE

namespace Go.AE
open Go Go.RowKit

theorem Rel.bare {w0 w : World} (h : Below w0.heap.size w0 w) (H : HF) : Rel w0 (fun _ => none) H w :=
  ⟨h, fun _ _ _ _ e => (nomatch e), fun _ _ _ _ _ e _ => (nomatch e), fun _ _ _ _ _ _ _ _ _ e _ _ _ => (nomatch e)⟩

def endV (P : Program) (st : AE.Stat) (fn : Func) (e : Ex) (τ : Array Value) (σ : Heap) : Option Value :=
  match e with
  | .normal => resultsA P st fn τ σ
  | .ret => resultsA P st fn τ σ
  | _ => none

/-- The value that a function's body comes to, begun on an empty heap. -/
noncomputable def bodyV (P : Program) (st : AE.Stat) (call : CallA) (n : Nat) (fn : Func) (args : List Value) : Option Value :=
  match fn.body with
  | none => none
  | some c => execK P st call n c (args.toArray ++ Array.replicate (fn.ntmps - args.length) undef) [] (endV P st fn)

theorem bodyV_spec {P : Program} {st : AE.Stat} {call : CallA} {n : Nat} {fn : Func} {args : List Value} {v : Value} (h : bodyV P st call n fn args = some v) : ∃ σ, bodyA P st call n fn args [] = some (v, σ) := by
  rw [← bodyK_eq]
  unfold bodyV at h
  unfold bodyK
  cases hb : fn.body with
  | none => rw [hb] at h; cases h
  | some c =>
    rw [hb] at h
    simp only [execK_eq] at h ⊢
    cases hx : execA P st call n c (args.toArray ++ Array.replicate (fn.ntmps - args.length) undef) [] with
    | none => rw [hx] at h; cases h
    | some x =>
      obtain ⟨e, τ, σ⟩ := x
      rw [hx] at h
      simp only at h ⊢
      cases e with
      | normal => exact ⟨σ, by simp only [endK, endV] at h ⊢; rw [h]; rfl⟩
      | exit id => cases h
      | ret => exact ⟨σ, by simp only [endK, endV] at h ⊢; rw [h]; rfl⟩

/-- A flat function, as the evaluator's callee. -/
def flatFn (g : List Value → Option Value) : List Value → Heap → Option (Value × Heap) := fun args σ => (g args).map (·, σ)

theorem fnOk_of {P : Program} {w0 : World} {f : FuncId} {F : List Value → Heap → Option (Value × Heap)} {g : List Value → Option Value} (hF : FnOk P w0 f F)
    (h : ∀ args v, g args = some v → args.all flat = true ∧ flat v = true ∧ ∃ σ, F args [] = some (v, σ)) : FnOk P w0 f (flatFn g) := by
  intro args σ v σ' hg
  simp only [flatFn, Option.map_eq_some_iff, Prod.mk.injEq] at hg
  obtain ⟨u, hg, rfl, rfl⟩ := hg
  obtain ⟨hfa, hfv, σ2, hb⟩ := h args u hg
  refine ⟨Nat.le_refl _, fun ρ w args' hR _ hargs => ?_⟩
  have e : args' = args := by
    apply List.ext_getElem hargs.1.symm
    intro i h1 h2
    exact VR_flat (List.all_eq_true.1 hfa _ (List.getElem_mem h2)) (hargs.2 i _ _ (List.getElem?_eq_getElem h2) (List.getElem?_eq_getElem h1))
  subst e
  have hR0 : Rel w0 (fun _ => none) (hp []) w := .bare hR.below _
  have hargs0 : VRL (fun _ => none) args' args' := ⟨rfl, fun i v v' hv hv' => by
    obtain rfl := Option.some.inj (hv.symm.trans hv')
    exact flat_VR _ (List.all_eq_true.1 hfa _ (List.mem_of_getElem? hv))⟩
  refine ((hF _ _ _ _ hb).2 (fun _ => none) w args' hR0 (fun _ _ _ => rfl) hargs0).mono fun e w' he => ?_
  obtain ⟨v', rfl, ρ', hn, hv⟩ := he
  have ev : v' = u := VR_flat hfv hv
  subst ev
  have hun : ∀ k, k < w.heap.size → w'.heap[k]? = w.heap[k]? := fun k hk => hn.fr.fr k hk fun ⟨_, _, _, _, e1, _⟩ => (nomatch e1)
  refine ⟨v', rfl, ρ, ⟨Nat.le_refl _, .refl _ _ _, ⟨hn.fr.size, fun k hk _ => hun k hk, fun k hk _ => hk⟩, ⟨hn.rel.below, fun id b base n e => ?_, fun id b base n blk e1 e2 => ?_, hR.inj⟩⟩, flat_VR ρ hfv⟩
  · have := hR.dyn id b base n e
    have := hn.fr.size
    omega
  · obtain ⟨o, ho, hc⟩ := hR.cont id b base n blk e1 e2
    exact ⟨o, (hun b (hR.dyn id b base n e1).2).trans ho, hc⟩

theorem fnOk_flat {P : Program} {w0 : World} {st : AE.Stat} {call : CallA} {f : FuncId} {fn : Func} {g : List Value → Option Value} (n : Nat) (hcall : CallOk P w0 call) (hst : GoodSt w0 st) (hm : P.follows .mixedOrders = true) (hf : P.funcs[f]? = some fn)
    (h : ∀ args v, g args = some v → args.all flat = true ∧ flat v = true ∧ bodyV P st call n fn args = some v) : FnOk P w0 f (flatFn g) :=
  fnOk_of (bodyA_sound hcall.run hst hm hf (n := n)) fun args v hg => let ⟨h1, h2, h3⟩ := h args v hg; ⟨h1, h2, bodyV_spec h3⟩

/-- A table of callees. -/
def tblA : List (FuncId × (List Value → Heap → Option (Value × Heap))) → CallA
  | [], _ => fun _ _ => none
  | (f, g) :: r, k => if k = f then g else tblA r k
theorem tblA_nil (P : Program) (w0 : World) : CallOk P w0 (tblA []) := fun f args σ v σ' h => by simp [tblA] at h
theorem tblA_cons {P : Program} {w0 : World} {f : FuncId} {g : List Value → Heap → Option (Value × Heap)} {r : List (FuncId × (List Value → Heap → Option (Value × Heap)))} (h : FnOk P w0 f g) (hr : CallOk P w0 (tblA r)) : CallOk P w0 (tblA ((f, g) :: r)) := by
  intro k args σ v σ' hk
  unfold tblA at hk
  split at hk
  · rename_i e; subst e; exact h args σ v σ' hk
  · exact hr k args σ v σ' hk

/-- A contract, as a call of the model's, where nothing is in sight. -/
theorem calls_of_flat {P : Program} {w0 : World} {f : FuncId} {g : List Value → Option Value} (h : FnOk P w0 f (flatFn g)) {args : List Value} {v : Value} (hg : g args = some v) (hfa : args.all flat = true) (hfv : flat v = true) {w : World} (hw : Below w0.heap.size w0 w) :
    Calls P f args.toArray w fun e w' => e = .returned v ∧ Below w.heap.size w w' := by
  have hR0 : Rel w0 (fun _ => none) (hp []) w := .bare hw _
  have hargs0 : VRL (fun _ => none) args args := ⟨rfl, fun i v v' hv hv' => by
    obtain rfl := Option.some.inj (hv.symm.trans hv')
    exact flat_VR _ (List.all_eq_true.1 hfa _ (List.mem_of_getElem? hv))⟩
  refine ((h args [] v [] (by simp [flatFn, hg])).2 (fun _ => none) w args hR0 (fun _ _ _ => rfl) hargs0).mono fun e w' he => ?_
  obtain ⟨v', rfl, ρ', hn, hv⟩ := he
  have ev : v' = v := VR_flat hfv hv
  subst ev
  exact ⟨rfl, hn.rel.below.os.trans hw.os.symm, hn.rel.below.tape.trans hw.tape.symm, hn.rel.below.output.trans hw.output.symm, hn.fr.size, fun k hk => hn.fr.fr k hk fun ⟨_, _, _, _, e1, _⟩ => (nomatch e1)⟩
end Go.AE
