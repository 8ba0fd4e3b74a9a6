/-
  The evaluator with what comes behind handed on, where some calls are answered under a condition: so that a run over unknown strings asks for the conditions and goes on.
  Conditions: the answers are the callees' where their conditions hold.

  The evaluator with what comes behind handed on, which enters the callees too (rounds of a range over a function among them); some calls are answered under a condition.
  Conditions: the answers are what is told of the callees ('ext') where their conditions hold.
-/
import Derived.Test.YtabchbchopgnfaaGreatDoorDeCon
namespace Go.AE
open Go Go.RowKit Go.DE

abbrev Gd := FuncId → List Value → Heap → Option (Prop × Value × Heap)
def GdOk (P : Program) (call : CallA) (gd : Gd) : Prop := ∀ g args σ p v σ', gd g args σ = some (p, v, σ') → p → enterA P call g args σ = some (v, σ')

def calleeG (ev : Operand → Value) (o : Oper) : Option (FuncId × List Value) :=
  match o.op with
  | .call c => match c.callee with
    | .value f => match ev f with
      | .func (.func g) first captured => some (g, ((first ++ c.args.map ev) ++ captured).toList)
      | _ => none
    | _ => none
  | _ => none
def innerK {α : Type} (P : Program) (st : AE.Stat) (call : CallA) (o : Oper) (σ : Heap) (k : Array Value → Array Value → Heap → Option α) (τ : Array Value) : Option α :=
  match o.op with
  | .pick c a b => if constsOk o.op then (match evalT τ c with
    | .bool t => match evalT τ a, evalT τ b with
      | .bool x, .bool y => k τ (putT τ o.dst (.bool (cond t x y))) σ
      | _, _ => cond t (k τ (putT τ o.dst (evalT τ a)) σ) (k τ (putT τ o.dst (evalT τ b)) σ)
    | _ => none) else none
  | _ => match opA P st call (evalT τ) o σ with
    | some (v, σ') => k τ (putT τ o.dst v) σ'
    | none => none
theorem stepK_inner {α : Type} (P : Program) (st : AE.Stat) (call : CallA) (ops : Array Oper) (o : Oper) (τ : Array Value) (σ : Heap) (k : Array Value → Array Value → Heap → Option α) :
    stepK P st call ops o τ σ k = guardK ops o τ (innerK P st call o σ k) (fun τ => k τ (putT τ o.dst undef) σ) := rfl
noncomputable def innerG {α : Type} (P : Program) (st : AE.Stat) (call : CallA) (gd : Gd) (o : Oper) (σ : Heap) (k : Array Value → Array Value → Heap → Option α) (τ : Array Value) : Option α :=
  match (calleeG (evalT τ) o).bind fun x => gd x.1 x.2 σ with
  | some (p, v, σ') => cond (constsOk o.op && (peekA P (evalT τ) o).isNone) (cond (holds p) (k τ (putT τ o.dst v) σ') none) none
  | none => innerK P st call o σ k τ
noncomputable def stepG {α : Type} (P : Program) (st : AE.Stat) (call : CallA) (gd : Gd) (ops : Array Oper) (o : Oper) (τ : Array Value) (σ : Heap) (k : Array Value → Array Value → Heap → Option α) : Option α :=
  guardK ops o τ (innerG P st call gd o σ k) (fun τ => k τ (putT τ o.dst undef) σ)
noncomputable def runG {α : Type} (P : Program) (st : AE.Stat) (call : CallA) (gd : Gd) (ops : Array Oper) : List Oper → Array Value → Heap → (Array Value → Heap → Option α) → Option α
  | [], τ, σ, k => k τ σ
  | o :: rest, τ, σ, k => stepG P st call gd ops o τ σ fun _ τ' σ' => runG P st call gd ops rest τ' σ' k
noncomputable def traceG {α : Type} (P : Program) (st : AE.Stat) (call : CallA) (gd : Gd) (ops : Array Oper) : List Oper → Array Value → Heap → List (Array Value × Heap) → (List (Array Value × Heap) → Array Value → Heap → Option α) → Option α
  | [], τ, σ, tr, k => k (tr ++ [(τ, σ)]) τ σ
  | o :: rest, τ, σ, tr, k => stepG P st call gd ops o τ σ fun τ0 τ' σ' => traceG P st call gd ops rest τ' σ' (tr ++ [(τ0, σ)]) k
noncomputable def execG {α : Type} (P : Program) (st : AE.Stat) (call : CallA) (gd : Gd) (n : Nat) : Code → Array Value → Heap → (Ex → Array Value → Heap → Option α) → Option α
  | .skip => fun τ σ k => k .normal τ σ
  | .label _ => fun τ σ k => k .normal τ σ
  | .region _ ops draw => fun τ σ k =>
    match draw with
    | true => cond (staticP P ops) (traceG P st call gd ops ops.toList τ σ [] (fun tr τ' σ' => cond (dynB P st ops tr) (k .normal τ' σ') none)) none
    | false => runG P st call gd ops ops.toList τ σ (fun τ' σ' => k .normal τ' σ')
  | .seq a b => fun τ σ k => execG P st call gd n a τ σ fun e τ' σ' => match e with
    | .normal => execG P st call gd n b τ' σ' k
    | e => k e τ' σ'
  | .cond c a b => fun τ σ k => match evalT τ c with
    | .bool t => cond t (execG P st call gd n a τ σ k) (execG P st call gd n b τ σ k)
    | _ => none
  | .block id a => fun τ σ k => execG P st call gd n a τ σ fun e τ' σ' => match e with
    | .exit j => if j = id then k .normal τ' σ' else k (.exit j) τ' σ'
    | e => k e τ' σ'
  | .loop a => fun τ σ k => iterK (execG P st call gd n a) n τ σ k
  | .exit id => fun τ σ k => k (.exit id) τ σ
  | .ret => fun τ σ k => k .ret τ σ
  | _ => fun _ _ _ => none

section
variable {P : Program} {st : AE.Stat} {call : CallA} {gd : Gd} {α : Type} {r : α}

theorem cond_some {b : Bool} {x y x' y' : Option α} (h : cond b x y = some r) (hx : x = some r → x' = some r) (hy : y = some r → y' = some r) : cond b x' y' = some r := by
  cases b
  · exact hy h
  · exact hx h
theorem guardK_le {ops : Array Oper} {o : Oper} {τ : Array Value} {run skip run' skip' : Array Value → Option α} (h : guardK ops o τ run skip = some r) (h1 : ∀ τ, run τ = some r → run' τ = some r) (h2 : ∀ τ, skip τ = some r → skip' τ = some r) :
    guardK ops o τ run' skip' = some r := by
  unfold guardK at h ⊢
  cases hg : o.guard with
  | none => rw [hg] at h; exact h1 _ h
  | some p =>
    obtain ⟨j, want⟩ := p
    rw [hg] at h
    simp only at h ⊢
    cases hd : (ops[j]?).bind (·.dst) with
    | none => rw [hd] at h; exact h2 _ h
    | some d =>
      rw [hd] at h
      simp only at h ⊢
      cases hx : τ[d]? with
      | none => rw [hx] at h; exact h2 _ h
      | some v =>
        rw [hx] at h
        cases v
        case bool t =>
          cases want
          · exact cond_some h (h2 _) (h1 _)
          · exact cond_some h (h1 _) (h2 _)
        case chan c => cases h
        all_goals exact h2 _ h
theorem innerK_le {o : Oper} {σ : Heap} {τ : Array Value} {k k' : Array Value → Array Value → Heap → Option α} (hk : ∀ τ0 τ' σ', k τ0 τ' σ' = some r → k' τ0 τ' σ' = some r) (h : innerK P st call o σ k τ = some r) : innerK P st call o σ k' τ = some r := by
  unfold innerK at h ⊢
  cases ho : o.op
  case pick c a b =>
    rw [ho] at h
    simp only at h ⊢
    by_cases hc : constsOk (Op.pick c a b) = true
    · rw [if_pos hc] at h ⊢
      cases ht : evalT τ c
      case bool t =>
        rw [ht] at h
        simp only at h ⊢
        cases hx : evalT τ a
        case bool x =>
          cases hy : evalT τ b
          case bool y => rw [hx, hy] at h; exact hk _ _ _ h
          all_goals (rw [hx, hy] at h; exact cond_some h (hk _ _ _) (hk _ _ _))
        all_goals (rw [hx] at h; exact cond_some h (hk _ _ _) (hk _ _ _))
      all_goals (rw [ht] at h; cases h)
    · rw [if_neg hc] at h
      cases h
  all_goals
    rw [ho] at h
    simp only at h ⊢
    cases hv : opA P st call (evalT τ) o σ with
    | none => rw [hv] at h; cases h
    | some x => rw [hv] at h; exact hk _ _ _ h
theorem calleeG_op {ev : Operand → Value} {o : Oper} {σ : Heap} {g : FuncId} {args : List Value} {v : Value} {σ' : Heap} (hc : calleeG ev o = some (g, args)) (h1 : constsOk o.op = true) (h2 : peekA P ev o = none) (he : enterA P call g args σ = some (v, σ')) : opA P st call ev o σ = some (v, σ') ∧ ∀ c a b, o.op ≠ .pick c a b := by
  unfold calleeG at hc
  split at hc <;> first | (cases hc; done) | skip
  rename_i c ho
  split at hc <;> first | (cases hc; done) | skip
  rename_i f hf
  split at hc <;> first | (cases hc; done) | skip
  rename_i g' first captured hv
  cases hc
  refine ⟨?_, fun c' a b e => by rw [ho] at e; cases e⟩
  unfold opA
  rw [if_pos h1, h2, ho]
  show callA P st call ev c σ = _
  unfold callA
  rw [hf]
  simp only [hv]
  exact he
theorem innerG_le (hg : GdOk P call gd) {o : Oper} {σ : Heap} {τ : Array Value} {k k' : Array Value → Array Value → Heap → Option α} (hk : ∀ τ0 τ' σ', k τ0 τ' σ' = some r → k' τ0 τ' σ' = some r) (h : innerG P st call gd o σ k τ = some r) : innerK P st call o σ k' τ = some r := by
  unfold innerG at h
  split at h
  · rename_i p v σ' hb
    cases hc : (constsOk o.op && (peekA P (evalT τ) o).isNone) with
    | false => rw [hc] at h; cases h
    | true =>
      rw [hc] at h
      cases hp : holds p with
      | false => rw [hp] at h; cases h
      | true =>
        rw [hp] at h
        simp only [cond] at h
        simp only [Bool.and_eq_true, Option.isNone_iff_eq_none] at hc
        simp only [Option.bind_eq_some_iff] at hb
        obtain ⟨⟨g, args⟩, hcal, hgd⟩ := hb
        obtain ⟨hop, hne⟩ := calleeG_op (st := st) hcal hc.1 hc.2 (hg _ _ _ _ _ _ hgd (holds_eq.1 hp))
        unfold innerK
        split
        · rename_i c a b ho
          exact (hne _ _ _ ho).elim
        · rw [hop]
          exact hk _ _ _ h
  · exact innerK_le hk h
theorem stepG_le (hg : GdOk P call gd) {ops : Array Oper} {o : Oper} {σ : Heap} {τ : Array Value} {k k' : Array Value → Array Value → Heap → Option α} (hk : ∀ τ0 τ' σ', k τ0 τ' σ' = some r → k' τ0 τ' σ' = some r) (h : stepG P st call gd ops o τ σ k = some r) :
    stepK P st call ops o τ σ k' = some r := by
  rw [stepK_inner]
  exact guardK_le h (fun τ hr => innerG_le hg hk hr) fun τ hs => hk _ _ _ hs
theorem runG_le (hg : GdOk P call gd) {ops : Array Oper} : ∀ {l : List Oper} {σ : Heap} {τ : Array Value} {k k' : Array Value → Heap → Option α}, (∀ τ' σ', k τ' σ' = some r → k' τ' σ' = some r) → runG P st call gd ops l τ σ k = some r → runK P st call ops l τ σ k' = some r
  | [], _, _, _, _, hk, h => hk _ _ h
  | _ :: _, _, _, _, _, hk, h => stepG_le hg (fun _ _ _ h' => runG_le hg hk h') h
theorem traceG_le (hg : GdOk P call gd) {ops : Array Oper} : ∀ {l : List Oper} {σ : Heap} {τ : Array Value} {tr : List (Array Value × Heap)} {k k' : List (Array Value × Heap) → Array Value → Heap → Option α}, (∀ tr τ' σ', k tr τ' σ' = some r → k' tr τ' σ' = some r) → traceG P st call gd ops l τ σ tr k = some r → traceK P st call ops l τ σ tr k' = some r
  | [], _, _, _, _, _, hk, h => hk _ _ _ h
  | _ :: _, _, _, _, _, _, hk, h => stepG_le hg (fun _ _ _ h' => traceG_le hg hk h') h
theorem iterG_le {f g : Array Value → Heap → (Ex → Array Value → Heap → Option α) → Option α} (hf : ∀ τ σ k k', (∀ e τ' σ', k e τ' σ' = some r → k' e τ' σ' = some r) → f τ σ k = some r → g τ σ k' = some r) :
    ∀ (n : Nat) {τ : Array Value} {σ : Heap} {k k' : Ex → Array Value → Heap → Option α}, (∀ e τ' σ', k e τ' σ' = some r → k' e τ' σ' = some r) → iterK f n τ σ k = some r → iterK g n τ σ k' = some r
  | 0, _, _, _, _, _, h => by cases h
  | n + 1, _, _, _, _, hk, h => hf _ _ _ _ (fun e τ' σ' h' => by
      cases e with
      | normal => exact iterG_le hf n hk h'
      | exit id => exact hk _ _ _ h'
      | ret => exact hk _ _ _ h') h
theorem execG_le (hg : GdOk P call gd) (n : Nat) : ∀ (c : Code) (τ : Array Value) (σ : Heap) (k k' : Ex → Array Value → Heap → Option α), (∀ e τ' σ', k e τ' σ' = some r → k' e τ' σ' = some r) → execG P st call gd n c τ σ k = some r → execK P st call n c τ σ k' = some r := by
  intro c
  induction c with
  | skip => intro τ σ k k' hk h; exact hk _ _ _ h
  | label l => intro τ σ k k' hk h; exact hk _ _ _ h
  | exit id => intro τ σ k k' hk h; exact hk _ _ _ h
  | ret => intro τ σ k k' hk h; exact hk _ _ _ h
  | loop a ih => intro τ σ k k' hk h; exact iterG_le ih n hk h
  | rangeFunc f ps as b _ _ => intro τ σ k k' hk h; cases h
  | scope b _ => intro τ σ k k' hk h; cases h
  | goto l => intro τ σ k k' hk h; cases h
  | refuse y => intro τ σ k k' hk h; cases h
  | region id ops draw =>
    intro τ σ k k' hk h
    cases draw with
    | false => exact runG_le hg (fun _ _ h' => hk _ _ _ h') h
    | true =>
      exact cond_some (x' := traceK P st call ops ops.toList τ σ [] (fun tr τ' σ' => cond (dynB P st ops tr) (k' .normal τ' σ') none)) (y' := none) h
        (traceG_le hg fun tr τ' σ' h' => cond_some h' (hk _ _ _) fun x => x) fun x => x
  | seq a b iha ihb =>
    intro τ σ k k' hk h
    refine iha _ _ _ _ (fun e τ' σ' h' => ?_) h
    cases e with
    | normal => exact ihb _ _ _ _ hk h'
    | exit id => exact hk _ _ _ h'
    | ret => exact hk _ _ _ h'
  | cond c a b iha ihb =>
    intro τ σ k k' hk h
    simp only [execG, execK] at h ⊢
    split at h
    · rename_i t ht
      rw [ht]
      exact cond_some h (iha _ _ _ _ hk) (ihb _ _ _ _ hk)
    · cases h
  | block id a iha =>
    intro τ σ k k' hk h
    refine iha _ _ _ _ (fun e τ' σ' h' => ?_) h
    cases e with
    | normal => exact hk _ _ _ h'
    | exit j =>
      simp only at h' ⊢
      split
      · rename_i hj
        rw [if_pos hj] at h'
        exact hk _ _ _ h'
      · rename_i hj
        rw [if_neg hj] at h'
        exact hk _ _ _ h'
    | ret => exact hk _ _ _ h'

/-- A function's body, the answer asked of the kernel. -/
noncomputable def bodyG (P : Program) (st : AE.Stat) (call : CallA) (gd : Gd) (n : Nat) (fn : Func) (args : List Value) (σ : Heap) (k : Value → Option Unit) : Option Unit :=
  match fn.body with
  | none => none
  | some c => execG P st call gd n c (args.toArray ++ Array.replicate (fn.ntmps - args.length) undef) σ fun e τ σ => match endK P st fn e τ σ with
    | some (v, _) => k v
    | none => none
theorem bodyG_run (hg : GdOk P call gd) {n : Nat} {fn : Func} {args : List Value} {σ : Heap} {v : Value} (h : bodyG P st call gd n fn args σ (fun u => cond (holds (u = v)) (some ()) none) = some ()) : ∃ σ', bodyA P st call n fn args σ = some (v, σ') := by
  rw [← bodyK_eq]
  unfold bodyG at h
  unfold bodyK
  split at h
  · cases h
  · rename_i c hc
    rw [hc]
    simp only
    have hp : ∀ (e : Ex) (τ : Array Value) (σ : Heap), (match endK P st fn e τ σ with | some (v', _) => cond (holds (v' = v)) (some ()) none | none => none) = some () → ∃ σ', endK P st fn e τ σ = some (v, σ') := by
      intro e τ σ h
      split at h
      · rename_i v' σ' he
        cases hb : holds (v' = v) with
        | false => rw [hb] at h; cases h
        | true => exact ⟨σ', by rw [he, holds_eq.1 hb]⟩
      · cases h
    have h1 := execG_le (r := ()) hg n c _ _ _ _ (fun e τ σ h => h) h
    rw [execK_eq] at h1 ⊢
    cases hx : execA P st call n c (args.toArray ++ Array.replicate (fn.ntmps - args.length) undef) σ with
    | none => rw [hx] at h1; cases h1
    | some x =>
      rw [hx] at h1
      exact hp _ _ _ h1
end
end Go.AE

namespace Go.AE
open Go Go.RowKit Go.DE

abbrev CallC (α : Type) := FuncId → List Value → Heap → (Value → Heap → Option α) → Option α
def enterC {α : Type} (P : Program) (cf : CallC α) (g : FuncId) (args : List Value) (σ : Heap) (k : Value → Heap → Option α) : Option α :=
  match P.funcs[g]? with
  | none => none
  | some fn => match fn.name == "runtime.NumGoroutine" with
    | true => none
    | false => match fn.body.isNone with
      | true => (match enterA P (fun _ _ _ => none) g args σ with
        | some (v, σ') => k v σ'
        | none => none)
      | false => cf g args σ k
def callC {α : Type} (P : Program) (cf : CallC α) (ev : Operand → Value) (o : Oper) (σ : Heap) (k : Value → Heap → Option α) : Option (Option α) :=
  match o.op with
  | .call c => match c.callee with
    | .value f => match ev f with
      | .func (.func g) first captured => some (cond (constsOk o.op && (peekA P ev o).isNone) (enterC P cf g ((first ++ c.args.map ev) ++ captured).toList σ k) none)
      | .chan (some l) => some (cond (constsOk o.op && (peekA P ev o).isNone) (cf (P.funcs.size + l) (c.args.map ev).toList σ k) none)
      | _ => none
    | _ => none
  | _ => none
def innerC {α : Type} (P : Program) (st : AE.Stat) (call : CallA) (cf : CallC α) (o : Oper) (σ : Heap) (k : Array Value → Array Value → Heap → Option α) (τ : Array Value) : Option α :=
  match callC P cf (evalT τ) o σ (fun v σ' => k τ (putT τ o.dst v) σ') with
  | some x => x
  | none => innerK P st call o σ k τ
def stepC {α : Type} (P : Program) (st : AE.Stat) (call : CallA) (cf : CallC α) (ops : Array Oper) (o : Oper) (τ : Array Value) (σ : Heap) (k : Array Value → Array Value → Heap → Option α) : Option α :=
  guardK ops o τ (innerC P st call cf o σ k) (fun τ => k τ (putT τ o.dst undef) σ)
def runLC {α : Type} (P : Program) (st : AE.Stat) (call : CallA) (cf : CallC α) (ops : Array Oper) : List Oper → Array Value → Heap → (Array Value → Heap → Option α) → Option α
  | [], τ, σ, k => k τ σ
  | o :: rest, τ, σ, k => stepC P st call cf ops o τ σ fun _ τ' σ' => runLC P st call cf ops rest τ' σ' k
def traceC {α : Type} (P : Program) (st : AE.Stat) (call : CallA) (cf : CallC α) (ops : Array Oper) : List Oper → Array Value → Heap → List (Array Value × Heap) → (List (Array Value × Heap) → Array Value → Heap → Option α) → Option α
  | [], τ, σ, tr, k => k (tr ++ [(τ, σ)]) τ σ
  | o :: rest, τ, σ, tr, k => stepC P st call cf ops o τ σ fun τ0 τ' σ' => traceC P st call cf ops rest τ' σ' (tr ++ [(τ0, σ)]) k
def jumpC {α : Type} (τ : Array Value) (σ : Heap) (k : Ex → Array Value → Heap → Option α) : Option Code → Option α
  | none => k .normal τ σ
  | some .ret => k .ret τ σ
  | some (.exit id) => k (.exit id) τ σ
  | _ => none
noncomputable def execC {α : Type} (P : Program) (st : AE.Stat) (call : CallA) (cf : CallC α) (n : Nat) : Code → Array Value → Heap → (Ex → Array Value → Heap → Option α) → Option α
  | .skip => fun τ σ k => k .normal τ σ
  | .label _ => fun τ σ k => k .normal τ σ
  | .region _ ops draw => fun τ σ k =>
    match draw with
    | true => cond (staticP P ops) (traceC P st call cf ops ops.toList τ σ [] (fun tr τ' σ' => cond (dynB P st ops tr) (k .normal τ' σ') none)) none
    | false => runLC P st call cf ops ops.toList τ σ (fun τ' σ' => k .normal τ' σ')
  | .seq a b => fun τ σ k => execC P st call cf n a τ σ fun e τ' σ' => match e with
    | .normal => execC P st call cf n b τ' σ' k
    | .exit i => k (.exit i) τ' σ'
    | .ret => k .ret τ' σ'
  | .cond c a b => fun τ σ k => match evalT τ c with
    | .bool t => cond t (execC P st call cf n a τ σ k) (execC P st call cf n b τ σ k)
    | _ => none
  | .block id a => fun τ σ k => execC P st call cf n a τ σ fun e τ' σ' => match e with
    | .exit j => (match Nat.beq j id with
      | true => k .normal τ' σ'
      | false => k (.exit j) τ' σ')
    | .normal => k .normal τ' σ'
    | .ret => k .ret τ' σ'
  | .loop a => fun τ σ k => iterK (execC P st call cf n a) n τ σ k
  | .exit id => fun τ σ k => k (.exit id) τ σ
  | .ret => fun τ σ k => k .ret τ σ
  | .rangeFunc g ps asg body => fun τ σ k => match evalG τ g with
    | .func (.func f) first captured => cond (entersA P f) (cf f ((first ++ #[Value.chan (some σ.length)]) ++ captured).toList (σ ++ [some (.loop τ ps asg body .ready none)]) fun _ σ2 => match endLoopA σ2 σ.length with
      | some (p, σ3) => jumpC τ σ3 k p
      | none => none) none
    | _ => none
  | _ => fun _ _ _ => none
noncomputable def bodyC {α : Type} (P : Program) (st : AE.Stat) (call : CallA) (cf : CallC α) (n : Nat) (fn : Func) (args : List Value) (σ : Heap) (k : Value → Heap → Option α) : Option α :=
  match fn.body with
  | none => none
  | some c => execC P st call cf n c (args.toArray ++ Array.replicate (fn.ntmps - args.length) undef) σ fun e τ σ => match endK P st fn e τ σ with
    | some (v, σ') => k v σ'
    | none => none
noncomputable def roundC {α : Type} (P : Program) (st : AE.Stat) (call : CallA) (cf : CallC α) (n : Nat) (l : Nat) (args : List Value) (σ : Heap) (k : Value → Heap → Option α) : Option α :=
  match σ[l]? with
  | some (some (.loop τ ps asg body _ _)) => cond (Nat.beq args.length ps.size && noRange asg && noRange body)
    (execC P st call cf n asg ((ps.zip args.toArray).foldl (fun t q => t.setIfInBounds q.1 q.2) τ) σ fun e τ1 σ1 => match e with
      | .normal => (match beginA σ1 l with
        | some σ2 => execC P st call cf n body τ1 σ2 fun ex _ σ3 => match endA σ3 l (leftA ex) with
          | some (v, σ4) => k v σ4
          | none => none
        | none => none)
      | _ => none) none
  | _ => none
noncomputable def runC {α : Type} (P : Program) (st : AE.Stat) (gd : Gd) (n : Nat) : Nat → CallC α
  | 0 => fun _ _ _ _ => none
  | d + 1 => fun f args σ k => match P.funcs[f]? with
    | some fn => (match gd f args σ with
      | some (p, v, σ') => cond (holds p) (k v σ') none
      | none => match st.ext f args σ with
        | some (v, σ') => k v σ'
        | none => bodyC P st (runF P st n d) (runC P st gd n d) n fn args σ k)
    | none => roundC P st (runF P st n d) (runC P st gd n d) n (f - P.funcs.size) args σ k

section
variable {P : Program} {st : AE.Stat} {call : CallA} {gd : Gd} {α : Type} {r : α} {cf : CallC α}
def CallCR (call : CallA) (cf : CallC α) (r : α) : Prop := ∀ f args σ k, cf f args σ k = some r → ∃ v σ', call f args σ = some (v, σ') ∧ k v σ' = some r

theorem enterC_some (hc : CallCR call cf r) {g : FuncId} {args : List Value} {σ : Heap} {k : Value → Heap → Option α} (h : enterC P cf g args σ k = some r) : ∃ v σ', enterA P call g args σ = some (v, σ') ∧ k v σ' = some r := by
  unfold enterC at h
  cases hf : P.funcs[g]? with
  | none => rw [hf] at h; cases h
  | some fn =>
    rw [hf] at h
    simp only at h
    cases hn : fn.name == "runtime.NumGoroutine" with
    | true => rw [hn] at h; cases h
    | false =>
      rw [hn] at h
      simp only at h
      cases hb : fn.body.isNone with
      | true =>
        rw [hb] at h
        simp only at h
        have e : enterA P call g args σ = enterA P (fun _ _ _ => none) g args σ := by
          unfold enterA
          rw [hf]
          simp only [hn, hb, Bool.false_eq_true, if_false, if_true]
        rw [e]
        cases hx : enterA P (fun _ _ _ => none) g args σ with
        | none => rw [hx] at h; cases h
        | some x => rw [hx] at h; exact ⟨_, _, rfl, h⟩
      | false =>
        rw [hb] at h
        obtain ⟨v, σ', h1, h2⟩ := hc _ _ _ _ h
        refine ⟨v, σ', ?_, h2⟩
        unfold enterA
        rw [hf]
        simp only [hn, hb, Bool.false_eq_true, if_false]
        exact h1
theorem callC_some (hc : CallCR call cf r) {ev : Operand → Value} {o : Oper} {σ : Heap} {k : Value → Heap → Option α} (h : callC P cf ev o σ k = some (some r)) : ∃ v σ', opA P st call ev o σ = some (v, σ') ∧ k v σ' = some r := by
  unfold callC at h
  split at h <;> first | (cases h; done) | skip
  rename_i c ho
  split at h <;> first | (cases h; done) | skip
  rename_i f hf
  split at h <;> first | (cases h; done) | skip
  · rename_i g first captured hv
    obtain ⟨hb, hx⟩ := bif_none (Option.some.inj h)
    simp only [Bool.and_eq_true, Option.isNone_iff_eq_none] at hb
    obtain ⟨v, σ', h1, h2⟩ := enterC_some hc hx
    refine ⟨v, σ', ?_, h2⟩
    unfold opA
    rw [if_pos hb.1, hb.2, ho]
    show callA P st call ev c σ = _
    unfold callA
    rw [hf]
    simp only [hv]
    exact h1
  · rename_i l hv
    obtain ⟨hb, hx⟩ := bif_none (Option.some.inj h)
    simp only [Bool.and_eq_true, Option.isNone_iff_eq_none] at hb
    obtain ⟨v, σ', h1, h2⟩ := hc _ _ _ _ hx
    refine ⟨v, σ', ?_, h2⟩
    unfold opA
    rw [if_pos hb.1, hb.2, ho]
    show callA P st call ev c σ = _
    unfold callA
    rw [hf]
    simp only [hv]
    exact h1
theorem innerK_some {o : Oper} {σ : Heap} {k : Array Value → Array Value → Heap → Option α} {τ : Array Value} (h : innerK P st call o σ k τ = some r) : ∃ v σ', opA P st call (evalT τ) o σ = some (v, σ') ∧ k τ (putT τ o.dst v) σ' = some r := by
  unfold innerK at h
  cases ho : o.op
  case pick c a b =>
    rw [ho] at h
    simp only at h
    by_cases hc : constsOk (Op.pick c a b) = true
    · rw [if_pos hc] at h
      rw [opA_pick ho (by rw [ho]; exact hc)]
      cases ht : evalT τ c
      case bool t =>
        rw [ht] at h
        simp only at h ⊢
        refine ⟨_, _, rfl, ?_⟩
        split at h
        · rename_i x y hx hy
          rw [hx, hy]
          cases t
          · exact h
          · exact h
        · cases t
          · exact h
          · exact h
      all_goals (rw [ht] at h; cases h)
    · rw [if_neg hc] at h
      cases h
  all_goals
    rw [ho] at h
    simp only at h
    cases hv : opA P st call (evalT τ) o σ with
    | none => rw [hv] at h; cases h
    | some x => rw [hv] at h; exact ⟨_, _, rfl, h⟩
theorem innerC_some (hc : CallCR call cf r) {o : Oper} {σ : Heap} {k : Array Value → Array Value → Heap → Option α} {τ : Array Value} (h : innerC P st call cf o σ k τ = some r) : ∃ v σ', opA P st call (evalT τ) o σ = some (v, σ') ∧ k τ (putT τ o.dst v) σ' = some r := by
  unfold innerC at h
  split at h
  · rename_i x hx
    subst h
    exact callC_some hc hx
  · exact innerK_some h
theorem stepC_some (hc : CallCR call cf r) {ops : Array Oper} {o : Oper} {τ : Array Value} {σ : Heap} {k : Array Value → Array Value → Heap → Option α} (h : stepC P st call cf ops o τ σ k = some r) : ∃ τ' σ', stepA P st call ops o τ σ = some (τ', σ') ∧ k τ τ' σ' = some r := by
  unfold stepC at h
  rw [guardK_eq] at h
  unfold stepA
  split at h
  · rename_i hg
    rw [if_pos hg]
    split at h
    · rename_i hw
      rw [if_pos hw]
      obtain ⟨v, σ', h1, h2⟩ := innerC_some hc h
      rw [h1]
      exact ⟨_, _, rfl, h2⟩
    · rename_i hw
      rw [if_neg hw]
      exact ⟨_, _, rfl, h⟩
  · cases h
theorem runLC_some (hc : CallCR call cf r) {ops : Array Oper} : ∀ {l : List Oper} {τ : Array Value} {σ : Heap} {k : Array Value → Heap → Option α}, runLC P st call cf ops l τ σ k = some r → ∃ τ' σ', runA P st call ops l τ σ = some (τ', σ') ∧ k τ' σ' = some r
  | [], τ, σ, k, h => ⟨τ, σ, rfl, h⟩
  | o :: l, τ, σ, k, h => by
    obtain ⟨τ1, σ1, h1, h⟩ := stepC_some hc h
    obtain ⟨τ2, σ2, h2, h⟩ := runLC_some hc (l := l) h
    exact ⟨τ2, σ2, by simp only [runA, h1]; exact h2, h⟩
theorem traceC_some (hc : CallCR call cf r) {ops : Array Oper} : ∀ {l : List Oper} {τ : Array Value} {σ : Heap} {tr : List (Array Value × Heap)} {k : List (Array Value × Heap) → Array Value → Heap → Option α}, traceC P st call cf ops l τ σ tr k = some r →
    ∃ t τ' σ', traceA P st call ops l τ σ = some t ∧ t.getLast? = some (τ', σ') ∧ k (tr ++ t) τ' σ' = some r
  | [], τ, σ, tr, k, h => ⟨[(τ, σ)], τ, σ, rfl, rfl, h⟩
  | o :: l, τ, σ, tr, k, h => by
    obtain ⟨τ1, σ1, h1, h⟩ := stepC_some hc h
    obtain ⟨t, τ2, σ2, h2, h3, h⟩ := traceC_some hc (l := l) h
    refine ⟨(τ, σ) :: t, τ2, σ2, by simp only [traceA, h1, h2]; rfl, ?_, by simpa using h⟩
    rw [List.getLast?_cons, h3]
    rfl
theorem iterC_some {f : Array Value → Heap → (Ex → Array Value → Heap → Option α) → Option α} {g : Array Value → Heap → Out} (hf : ∀ τ σ k, f τ σ k = some r → ∃ e τ' σ', g τ σ = some (e, τ', σ') ∧ k e τ' σ' = some r) :
    ∀ (n : Nat) {τ : Array Value} {σ : Heap} {k : Ex → Array Value → Heap → Option α}, iterK f n τ σ k = some r → ∃ e τ' σ', iterA g n τ σ = some (e, τ', σ') ∧ k e τ' σ' = some r
  | 0, _, _, _, h => by cases h
  | n + 1, τ, σ, k, h => by
    obtain ⟨e, τ1, σ1, h1, h⟩ := hf _ _ _ h
    simp only [iterA, h1]
    cases e with
    | normal => exact iterC_some hf n h
    | exit id => exact ⟨_, _, _, rfl, h⟩
    | ret => exact ⟨_, _, _, rfl, h⟩
theorem execC_some (hc : CallCR call cf r) (n : Nat) : ∀ (c : Code) (τ : Array Value) (σ : Heap) (k : Ex → Array Value → Heap → Option α), execC P st call cf n c τ σ k = some r → ∃ e τ' σ', execA P st call n c τ σ = some (e, τ', σ') ∧ k e τ' σ' = some r := by
  intro c
  induction c with
  | skip => intro τ σ k h; exact ⟨_, _, _, rfl, h⟩
  | label l => intro τ σ k h; exact ⟨_, _, _, rfl, h⟩
  | exit id => intro τ σ k h; exact ⟨_, _, _, rfl, h⟩
  | ret => intro τ σ k h; exact ⟨_, _, _, rfl, h⟩
  | loop a ih => intro τ σ k h; exact iterC_some ih n h
  | scope b _ => intro τ σ k h; cases h
  | goto l => intro τ σ k h; cases h
  | refuse y => intro τ σ k h; cases h
  | rangeFunc g ps asg body _ _ =>
    intro τ σ k h
    simp only [execC] at h
    simp only [execA]
    split at h <;> first | (cases h; done) | skip
    rename_i f first captured hv
    obtain ⟨he, h⟩ := bif_none h
    obtain ⟨v, σ2, h1, h⟩ := hc _ _ _ _ h
    rw [hv]
    simp only [he, if_true, h1]
    split at h <;> first | (cases h; done) | skip
    rename_i p σ3 h2
    rw [h2]
    simp only
    unfold jumpC at h
    unfold jumpA
    split at h <;> first | (cases h; done) | exact ⟨_, _, _, rfl, h⟩
  | region id ops draw =>
    intro τ σ k h
    cases draw with
    | false =>
      obtain ⟨τ1, σ1, h1, h⟩ := runLC_some hc (l := ops.toList) h
      refine ⟨_, _, _, ?_, h⟩
      simp only [execA, Bool.false_eq_true, if_false, h1]
    | true =>
      simp only [execC] at h
      obtain ⟨hs, h⟩ := bif_none h
      obtain ⟨t, τ1, σ1, h1, h2, h⟩ := traceC_some hc (l := ops.toList) h
      obtain ⟨hd, h⟩ := bif_none h
      simp only [List.nil_append] at hd
      refine ⟨_, _, _, ?_, h⟩
      simp only [execA, if_true, drawA, hs, h1, hd, h2]
  | seq a b iha ihb =>
    intro τ σ k h
    obtain ⟨e, τ1, σ1, h1, h⟩ := iha _ _ _ h
    simp only [execA, h1]
    cases e with
    | normal => exact ihb _ _ _ h
    | exit id => exact ⟨_, _, _, rfl, h⟩
    | ret => exact ⟨_, _, _, rfl, h⟩
  | cond c a b iha ihb =>
    intro τ σ k h
    simp only [execC] at h
    simp only [execA]
    split at h
    · rename_i t ht
      rw [ht]
      cases t with
      | true => exact iha _ _ _ h
      | false => exact ihb _ _ _ h
    · cases h
  | block id a iha =>
    intro τ σ k h
    obtain ⟨e, τ1, σ1, h1, h⟩ := iha _ _ _ h
    simp only [execA, h1]
    cases e with
    | normal => exact ⟨_, _, _, rfl, h⟩
    | ret => exact ⟨_, _, _, rfl, h⟩
    | exit j =>
      simp only at h ⊢
      cases hb : Nat.beq j id with
      | true =>
        rw [hb] at h
        rw [if_pos (Nat.eq_of_beq_eq_true hb)]
        exact ⟨_, _, _, rfl, h⟩
      | false =>
        rw [hb] at h
        rw [if_neg (Nat.ne_of_beq_eq_false hb)]
        exact ⟨_, _, _, rfl, h⟩
theorem bodyC_some (hc : CallCR call cf r) {n : Nat} {fn : Func} {args : List Value} {σ : Heap} {k : Value → Heap → Option α} (h : bodyC P st call cf n fn args σ k = some r) : ∃ v σ', bodyA P st call n fn args σ = some (v, σ') ∧ k v σ' = some r := by
  unfold bodyC at h
  unfold bodyA
  split at h
  · cases h
  · rename_i c hb
    rw [hb]
    obtain ⟨e, τ1, σ1, h1, h⟩ := execC_some hc n c _ _ _ h
    simp only [h1]
    unfold endK at h
    cases e with
    | exit id => cases h
    | normal =>
      simp only at h ⊢
      split at h
      · rename_i v σ' hv
        exact ⟨_, _, hv, h⟩
      · cases h
    | ret =>
      simp only at h ⊢
      split at h
      · rename_i v σ' hv
        exact ⟨_, _, hv, h⟩
      · cases h
theorem roundC_some (hc : CallCR call cf r) {n l : Nat} {args : List Value} {σ : Heap} {k : Value → Heap → Option α} (h : roundC P st call cf n l args σ k = some r) : ∃ v σ', roundA P st call n l args σ = some (v, σ') ∧ k v σ' = some r := by
  unfold roundC at h
  unfold roundA
  split at h
  · rename_i τ ps asg body s p hl
    rw [hl]
    obtain ⟨hb, h⟩ := bif_none h
    simp only [Bool.and_eq_true] at hb
    simp only
    rw [if_pos ⟨Nat.eq_of_beq_eq_true hb.1.1, hb.1.2, hb.2⟩]
    obtain ⟨e, τ1, σ1, h1, h⟩ := execC_some hc n asg _ _ _ h
    rw [h1]
    cases e with
    | exit id => cases h
    | ret => cases h
    | normal =>
      simp only at h ⊢
      split at h
      · rename_i σ2 h2
        rw [h2]
        simp only
        obtain ⟨ex, τ3, σ3, h3, h⟩ := execC_some hc n body _ _ _ h
        rw [h3]
        simp only
        split at h
        · rename_i v σ4 h4
          exact ⟨_, _, h4, h⟩
        · cases h
      · cases h
  · cases h
/-- An answer is what 'ext' tells. -/
def GdExt (st : AE.Stat) (gd : Gd) : Prop := ∀ f args σ p v σ', gd f args σ = some (p, v, σ') → p → st.ext f args σ = some (v, σ')
theorem runC_some (hg : GdExt st gd) {n : Nat} : ∀ d, CallCR (runF P st n d) (runC P st gd n d) r
  | 0 => fun f args σ k h => by cases h
  | d + 1 => fun f args σ k h => by
    unfold runC at h
    unfold runF
    cases hf : P.funcs[f]? with
    | none => rw [hf] at h; exact roundC_some (runC_some hg d) h
    | some fn =>
      rw [hf] at h
      simp only at h ⊢
      split at h
      · rename_i p v σ' hgd
        obtain ⟨hp, h⟩ := bif_none h
        rw [hg _ _ _ _ _ _ hgd (holds_eq.1 hp)]
        exact ⟨_, _, rfl, h⟩
      · split at h
        · rename_i v σ' hx
          rw [hx]
          exact ⟨_, _, rfl, h⟩
        · rename_i hx
          rw [hx]
          exact bodyC_some (runC_some hg d) h
end
end Go.AE
