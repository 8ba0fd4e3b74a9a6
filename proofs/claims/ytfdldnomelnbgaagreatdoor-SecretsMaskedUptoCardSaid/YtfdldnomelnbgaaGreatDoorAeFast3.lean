/-
 Closed runs in the kernel: steps, regions, code, functions.
 Conditions: none; what a run comes to is what the evaluator comes to.
-/
import Derived.Test.YtfdldnomelnbgaaGreatDoorAeFast
namespace Go.AE
open Go Go.RowKit

abbrev TE := Tr Value
abbrev TH := Tr Blk

noncomputable def getT (m : Nat) (t : TE) (d : Nat) : Option Value := bif Nat.blt d m then some ((t.get d).getD undef) else none
noncomputable def evF (m : Nat) (t : TE) : Operand → Value
 | .tmp d => (getT m t d).getD undef
 | .const v => v
 | .global g => .pointer (some ⟨g, 0, some 0⟩)
 | .func f => .func (.func f) #[] #[]
def ERel (m : Nat) (t : TE) (τ : Array Value) : Prop := τ.size = m ∧ ∀ d, d < m → (t.get d).getD undef = τ.getD d undef
def HRel (h : TH) (n : Nat) (σ : Heap) : Prop := σ.length = n ∧ ∀ i, h.get i = hp σ i

section
variable {P : Program} {st : AE.Stat} {α : Type} {r : α} {m : Nat} {t : TE} {τ : Array Value} {h : TH} {n : Nat} {σ : Heap}

theorem blt_iff {a b : Nat} : Nat.blt a b = true ↔ a < b := by
 unfold Nat.blt
 rw [Nat.ble_eq]
 exact Iff.rfl
theorem getT_eq (hE : ERel m t τ) (d : Nat) : getT m t d = τ[d]? := by
 unfold getT
 cases hb : Nat.blt d m with
 | true =>
  have hlt := blt_iff.1 hb
  have := hE.2 d hlt
  have hs := hE.1
  rw [Array.getElem?_eq_getElem (by omega)]
  rw [Array.getD_eq_getD_getElem?, Array.getElem?_eq_getElem (by omega)] at this
  exact congrArg some this
 | false =>
  have hge : ¬ d < m := fun x => by rw [blt_iff.2 x] at hb; cases hb
  rw [Array.getElem?_eq_none (by have := hE.1; omega)]
  rfl
theorem evF_eq (hE : ERel m t τ) : evF m t = evalT τ := by
 funext x
 cases x with
 | tmp d => simp only [evF, evalT, getT_eq hE, Array.getD_eq_getD_getElem?]
 | const v => rfl
 | global g => rfl
 | func f => rfl
noncomputable def putF (m : Nat) (t : TE) (dst : Option Tmp) (v : Value) (k : TE → Option α) : Option α :=
 match dst with
 | none => k t
 | some d => bif Nat.blt d m then t.put (some v) d k else k t
theorem putF_some {dst : Option Tmp} {v : Value} {k : TE → Option α} (hE : ERel m t τ) (hx : putF m t dst v k = some r) : ∃ t', k t' = some r ∧ ERel m t' (putT τ dst v) := by
 unfold putF at hx
 unfold putT
 cases dst with
 | none => exact ⟨t, hx, hE⟩
 | some d =>
  simp only at hx ⊢
  cases hb : Nat.blt d m with
  | false =>
   rw [hb] at hx
   have hge : ¬ d < m := fun x => by rw [blt_iff.2 x] at hb; cases hb
   refine ⟨t, hx, by simpa using hE.1, fun j hj => ?_⟩
   rw [Array.getD_eq_getD_getElem?, Array.getElem?_setIfInBounds, if_neg (fun e : d = j => hge (e ▸ hj)), ← Array.getD_eq_getD_getElem?]
   exact hE.2 j hj
  | true =>
   rw [hb] at hx
   have hlt := blt_iff.1 hb
   have hs := hE.1
   obtain ⟨t', h1, h2⟩ := Tr.put_some hx
   refine ⟨t', h1, by simpa using hE.1, fun j hj => ?_⟩
   rw [h2, Array.getD_eq_getD_getElem?, Array.getElem?_setIfInBounds]
   by_cases e : j = d
   ·subst e
    rw [if_pos rfl, if_pos rfl, if_pos (by omega)]
   ·rw [if_neg e, if_neg (Ne.symm e), ← Array.getD_eq_getD_getElem?]
    exact hE.2 j hj

noncomputable def edF (ed : Ed) (h : TH) (n : Nat) (k : TH → Nat → Option α) : Option α :=
 match ed with
 | .keep => k h n
 | .push b => fNew b fun b => h.put (some b) n fun h => k h (Nat.succ n)
 | .set i b => bif Nat.blt i n then fBlk b fun b => fN i fun i => h.put (some b) i fun h => k h n else none
 | .grow i b => fNew b fun b => fN i fun i => h.put (some b) n fun h => h.put none i fun h => k h (Nat.succ n)
theorem hp_push (σ : Heap) (b : Blk) (i : Nat) : hp (σ ++ [some b]) i = if i = σ.length then some b else hp σ i := by
 by_cases e : i = σ.length
 ·subst e; rw [if_pos rfl]; exact hp_new σ _
 ·rw [if_neg e]; exact hp_old σ _ e
theorem edF_some {ed : Ed} {k : TH → Nat → Option α} (hH : HRel h n σ) (hx : edF ed h n k = some r) : ∃ h' n', k h' n' = some r ∧ HRel h' n' (ed.app σ) := by
 unfold edF at hx
 cases ed with
 | keep => exact ⟨h, n, hx, hH⟩
 | push b =>
  simp only [fNew_eq] at hx
  obtain ⟨h', h1, h2⟩ := Tr.put_some hx
  refine ⟨h', _, h1, by simp [Ed.app, hH.1], fun i => ?_⟩
  rw [h2, show Ed.app σ (.push b) = σ ++ [some b] from rfl, hp_push, hH.1, hH.2]
 | set i b =>
  simp only at hx
  cases hb : Nat.blt i n with
  | false => rw [hb] at hx; cases hx
  | true =>
   rw [hb] at hx
   simp only [fBlk_eq, fN_eq, cond_true] at hx
   have hlt := blt_iff.1 hb
   obtain ⟨h', h1, h2⟩ := Tr.put_some hx
   refine ⟨h', _, h1, by simp [Ed.app, hH.1], fun j => ?_⟩
   rw [h2, show Ed.app σ (.set i b) = σ.set i (some b) from rfl, hH.2]
   have := hH.1
   by_cases e : j = i
   ·subst e
    rw [if_pos rfl]
    simp [hp, List.getElem?_set_self (show j < σ.length by omega)]
   ·rw [if_neg e]
    simp [hp, List.getElem?_set_ne (Ne.symm e)]
 | grow i b =>
  simp only [fNew_eq, fN_eq] at hx
  obtain ⟨h', h1, h2⟩ := Tr.put_some hx
  obtain ⟨h3, h4, h5⟩ := Tr.put_some h1
  refine ⟨h3, _, h4, by simp [Ed.app, hH.1], fun j => ?_⟩
  rw [h5, h2, show Ed.app σ (.grow i b) = (σ ++ [some b]).set i none from rfl, hp_set_none, hp_push, hH.1, hH.2]

abbrev CallF' (α : Type) := FuncId → List Value → TH → Nat → (Value → TH → Nat → Option α) → Option α
def CallR (call : CallA) (cf : CallF' α) : Prop :=
 ∀ f args h n σ k r, HRel h n σ → cf f args h n k = some r → ∃ v σ' h' n', call f args σ = some (v, σ') ∧ HRel h' n' σ' ∧ k v h' n' = some r

noncomputable def enterF (P : Program) (cf : CallF' α) (g : FuncId) (args : List Value) (h : TH) (n : Nat) (k : Value → TH → Nat → Option α) : Option α :=
 match P.funcs[g]? with
 | none => none
 | some fn =>
  bif fn.name == "runtime.NumGoroutine" then none
  else bif fn.body.isNone then
   bif args.all flat then
    match peek P (callFunc g args.toArray) with
    | some (.value v) => fV v fun v => bif flat v then k v h n else none
    | _ => none
   else none
  else cf g args h n k
theorem enterF_some {call : CallA} {cf : CallF' α} {g : FuncId} {args : List Value} {k : Value → TH → Nat → Option α} (hc : CallR call cf) (hH : HRel h n σ) (hx : enterF P cf g args h n k = some r) :
  ∃ v σ' h' n', enterA P call g args σ = some (v, σ') ∧ HRel h' n' σ' ∧ k v h' n' = some r := by
 unfold enterF at hx
 unfold enterA
 cases hf : P.funcs[g]? with
 | none => rw [hf] at hx; cases hx
 | some fn =>
  rw [hf] at hx
  simp only at hx ⊢
  cases hn : fn.name == "runtime.NumGoroutine" with
  | true => rw [hn] at hx; cases hx
  | false =>
   rw [hn] at hx
   simp only [cond_false] at hx
   cases hb : fn.body.isNone with
   | false =>
    rw [hb] at hx
    exact hc g args h n σ k r hH hx
   | true =>
    rw [hb] at hx
    simp only [cond_true] at hx
    cases hfl : args.all flat with
    | false => rw [hfl] at hx; cases hx
    | true =>
     rw [hfl] at hx
     simp only [cond_true] at hx
     split at hx
     ·rename_i v hv
      simp only [fV_eq] at hx
      cases hfv : flat v with
      | false => rw [hfv] at hx; cases hx
      | true =>
       rw [hfv] at hx
       exact ⟨v, σ, h, n, by simp [hv, hfv], hH, hx⟩
     ·cases hx

noncomputable def opF (P : Program) (st : AE.Stat) (cf : CallF' α) (ev : Operand → Value) (o : Oper) (h : TH) (n : Nat) (k : Value → TH → Nat → Option α) : Option α :=
 bif constsOk o.op then
  match peekA P ev o with
  | some v => fV v fun v => k v h n
  | none => match isFnCall o.op with
   | true => match o.op with
    | .call c => match c.callee with
     | .value f => match ev f with
      | .func (.func g) first captured => fL fV ((first ++ c.args.map ev) ++ captured).toList fun args => enterF P cf g args h n k
      | .chan (some l) => fL fV (c.args.map ev).toList fun args => cf (P.funcs.size + l) args h n k
      | _ => none
     | _ => none
    | _ => none
   | false => match specG P st ev o.op h.get n with
    | some (v, ed) => fV v fun v => edF ed h n fun h n => k v h n
    | none => none
 else none
theorem opF_some {call : CallA} {cf : CallF' α} {ev : Operand → Value} {o : Oper} {k : Value → TH → Nat → Option α} (hc : CallR call cf) (hH : HRel h n σ) (hx : opF P st cf ev o h n k = some r) :
  ∃ v σ' h' n', opA P st call ev o σ = some (v, σ') ∧ HRel h' n' σ' ∧ k v h' n' = some r := by
 unfold opF at hx
 unfold opA
 cases hk : constsOk o.op with
 | false => rw [hk] at hx; cases hx
 | true =>
  rw [hk] at hx
  simp only [cond_true, if_true] at hx ⊢
  cases hp : peekA P ev o with
  | some v =>
   rw [hp] at hx
   simp only [fV_eq] at hx
   exact ⟨v, σ, h, n, rfl, hH, hx⟩
  | none =>
   rw [hp] at hx
   simp only at hx ⊢
   cases hf : isFnCall o.op with
   | true =>
    rw [hf] at hx
    simp only at hx
    split at hx <;> first | (cases hx; done) | skip
    rename_i c hop
    split at hx <;> first | (cases hx; done) | skip
    rename_i f hcal
    split at hx <;> first | (cases hx; done) | skip
    ·rename_i g first captured hev
     rw [fL_eq fV_eq] at hx
     obtain ⟨v, σ', h', n', h1, h2, h3⟩ := enterF_some hc hH hx
     exact ⟨v, σ', h', n', by simp only [hop, specA, callA, hcal, hev]; exact h1, h2, h3⟩
    ·rename_i l hev
     rw [fL_eq fV_eq] at hx
     obtain ⟨v, σ', h', n', h1, h2, h3⟩ := hc _ _ h n σ k r hH hx
     exact ⟨v, σ', h', n', by simp only [hop, specA, callA, hcal, hev]; exact h1, h2, h3⟩
   | false =>
    rw [hf] at hx
    simp only at hx
    rw [show h.get = AE.hp σ from funext hH.2] at hx
    split at hx <;> first | (cases hx; done) | skip
    rename_i v ed hs
    simp only [fV_eq] at hx
    obtain ⟨h', n', h1, h2⟩ := edF_some hH hx
    refine ⟨v, ed.app σ, h', n', ?_, h2, h1⟩
    have e := hH.1
    subst e
    rw [← specG_eq hf, hs]
    rfl

noncomputable def guardF (ops : Array Oper) (o : Oper) (m : Nat) (t : TE) (run skip : Option α) : Option α :=
 match o.guard with
 | none => run
 | some (j, want) => match (ops[j]?).bind (·.dst) with
  | none => skip
  | some d => match getT m t d with
   | some (.bool b) => bif b == want then run else skip
   | some (.chan _) => none
   | _ => skip
theorem guardF_eq (hE : ERel m t τ) (ops : Array Oper) (o : Oper) (run skip : Option α) : guardF ops o m t run skip = if guardOk ops o τ then (if Region.wanted o (yielded ops τ) then run else skip) else none := by
 unfold guardF guardOk Region.wanted yielded
 cases o.guard with
 | none => rfl
 | some p =>
  obtain ⟨j, want⟩ := p
  cases hd : (ops[j]?).bind (·.dst) with
  | none => simp [hd]
  | some d =>
   simp only [hd, getT_eq hE, Option.bind_some]
   cases τ[d]? with
   | none => rfl
   | some v =>
    cases v
    case bool b => cases b <;> cases want <;> rfl
    all_goals rfl
noncomputable def stepF (P : Program) (st : AE.Stat) (cf : CallF' α) (ops : Array Oper) (o : Oper) (m : Nat) (t : TE) (h : TH) (n : Nat) (k : TE → TH → Nat → Option α) : Option α :=
 guardF ops o m t (opF P st cf (evF m t) o h n fun v h n => putF m t o.dst v fun t => k t h n) (putF m t o.dst undef fun t => k t h n)
theorem stepF_some {call : CallA} {cf : CallF' α} {ops : Array Oper} {o : Oper} {k : TE → TH → Nat → Option α} (hc : CallR call cf) (hE : ERel m t τ) (hH : HRel h n σ) (hx : stepF P st cf ops o m t h n k = some r) :
  ∃ τ' σ' t' h' n', stepA P st call ops o τ σ = some (τ', σ') ∧ ERel m t' τ' ∧ HRel h' n' σ' ∧ k t' h' n' = some r := by
 unfold stepF at hx
 rw [guardF_eq hE] at hx
 unfold stepA
 split at hx
 ·rename_i hg
  rw [if_pos hg]
  split at hx
  ·rename_i hw
   rw [if_pos hw]
   rw [evF_eq hE] at hx
   obtain ⟨v, σ', h', n', h1, h2, hx⟩ := opF_some hc hH hx
   obtain ⟨t', hx, h3⟩ := putF_some hE hx
   exact ⟨_, σ', t', h', n', by rw [h1], h3, h2, hx⟩
  ·rename_i hw
   rw [if_neg hw]
   obtain ⟨t', hx, h3⟩ := putF_some hE hx
   exact ⟨_, σ, t', h, n, rfl, h3, hH, hx⟩
 ·cases hx

noncomputable def runLF (P : Program) (st : AE.Stat) (cf : CallF' α) (ops : Array Oper) (m : Nat) (l : List Oper) : TE → TH → Nat → (TE → TH → Nat → Option α) → Option α :=
 List.rec (fun t h n k => k t h n) (fun o _ ih t h n k => stepF P st cf ops o m t h n fun t h n => ih t h n k) l
theorem runLF_some {call : CallA} {cf : CallF' α} {ops : Array Oper} (hc : CallR call cf) : ∀ {l : List Oper} {t : TE} {τ : Array Value} {h : TH} {n : Nat} {σ : Heap} {k : TE → TH → Nat → Option α}, ERel m t τ → HRel h n σ → runLF P st cf ops m l t h n k = some r →
  ∃ τ' σ' t' h' n', runA P st call ops l τ σ = some (τ', σ') ∧ ERel m t' τ' ∧ HRel h' n' σ' ∧ k t' h' n' = some r
 | [], t, τ, h, n, σ, k, hE, hH, hx => ⟨τ, σ, t, h, n, rfl, hE, hH, hx⟩
 | o :: l, t, τ, h, n, σ, k, hE, hH, hx => by
  obtain ⟨τ1, σ1, t1, h1, n1, q1, q2, q3, hx⟩ := stepF_some (k := fun t h n => runLF P st cf ops m l t h n k) hc hE hH hx
  obtain ⟨τ2, σ2, t2, h2, n2, p1, p2, p3, hx⟩ := runLF_some hc q2 q3 hx
  exact ⟨τ2, σ2, t2, h2, n2, by simp only [runA, q1]; exact p1, p2, p3, hx⟩
end
end Go.AE
