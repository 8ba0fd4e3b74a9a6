/-
  Equality of structs of numbers, booleans and strings, for the symbolic evaluator.
  Conditions: none; lemmas.
-/
import Derived.Test.YtiphckeipbfbmaaGreatDoorDeOp2
namespace Go.DE
open Go Go.AE

def eqT (P : Program) (t : TypeId) (x y : Value) : Option Bool :=
  match P.underlying t, x, y with
  | some (.int _), .int k a, .int k' b => match decide (k = k') with
    | true => some (a == b)
    | false => none
  | some .bool, .bool a, .bool b => some (a == b)
  | some .string, .string a, .string b => some (a == b)
  | _, _, _ => none
def eqFs (P : Program) : List Field → List Value → List Value → Option Bool
  | [], _, _ => some true
  | f :: fs, xs, ys => match decide (f.name = "_"), xs[f.offset]?, ys[f.offset]? with
    | false, some x, some y => match eqT P f.type x y, eqFs P fs xs ys with
      | some a, some b => some (bif a then b else false)
      | _, _ => none
    | _, _, _ => none
def eqS (P : Program) (t : TypeId) (xs ys : List Value) : Option Bool :=
  match P.underlying t with
  | some (.struct fields) => match P.stoodInHeld t || P.eqGuardType P.depth t with
    | true => none
    | false => eqFs P fields.toList xs ys
  | _ => none
def eqO (P : Program) (ev : Operand → DV) (op : Op) : Option Bool :=
  match op with
  | .binOp .eql t x y _ => match ev x, ev y with
    | .agg l1, .agg l2 => match l1.all isV && l2.all isV with
      | true => eqS P t (l1.map val1) (l2.map val1)
      | false => none
    | _, _ => none
  | .binOp .neq t x y _ => match ev x, ev y with
    | .agg l1, .agg l2 => match l1.all isV && l2.all isV with
      | true => (eqS P t (l1.map val1) (l2.map val1)).map (fun b => !b)
      | false => none
    | _, _ => none
  | _ => none

section
variable {P : Program}
theorem peek_underlying {t : TypeId} {d : TypeDesc} (h : P.underlying t = some d) : peek P (underlying t) = some d := by
  unfold underlying
  show peek P (match P.underlying t with | some d => pure d | none => stuck "no such type") = _
  rw [h]; rfl
theorem peek_program : peek P program = some P := rfl
theorem eqT_peek {t : TypeId} {x y : Value} {b : Bool} (h : eqT P t x y = some b) (d : Nat) : peek P (Op.equalIn (d + 1) t x y) = some b := by
  unfold eqT at h
  unfold Op.equalIn
  rw [peek_bind']
  split at h <;> first | (cases h; done) | skip
  · rename_i hu
    split at h
    · rename_i hk
      have hk := of_decide_eq_true hk
      subst hk
      rw [peek_underlying hu]
      simp only [if_true]
      exact h
    · cases h
  · rename_i hu
    rw [peek_underlying hu]
    exact h
  · rename_i hu
    rw [peek_underlying hu]
    exact h
theorem eqT_agg {t : TypeId} {x y : Value} {b : Bool} (h : eqT P t x y = some b) : ∃ d, P.underlying t = some d ∧ aggDesc d = false := by
  unfold eqT at h
  split at h <;> first | (cases h; done) | skip
  all_goals exact ⟨_, by assumption, rfl⟩
theorem peek_part {t : TypeId} {d : TypeDesc} {cs : Array Value} {off : Nat} {v : Value} (hu : P.underlying t = some d) (ha : aggDesc d = false) (hv : cs[off]? = some v) : peek P (part t cs off) = some v := by
  have hi : peek P (isAgg t) = some false := by
    unfold isAgg
    rw [peek_bind', peek_underlying hu]
    cases d <;> first | rfl | cases ha
  unfold part
  rw [peek_bind', hi]
  simp only [Bool.false_eq_true, if_false]
  rw [hv]
  rfl

theorem eqFs_peek {dd : Nat} {xs ys : Array Value} : ∀ (fs : List Field) {b : Bool}, eqFs P fs xs.toList ys.toList = some b → ∀ (r : Option Bool × PUnit), r.1 = none →
    ∃ s, peek P (forIn fs r fun f (_ : Option Bool × PUnit) => (do
      if f.name ≠ "_" then
        if !(← Op.equalIn (dd + 1) f.type (← part f.type xs f.offset) (← part f.type ys f.offset)) then pure (ForInStep.done (some false, PUnit.unit))
        else pure (ForInStep.yield (none, PUnit.unit))
      else pure (ForInStep.yield (none, PUnit.unit)) : Sem (ForInStep (Option Bool × PUnit)))) = some s ∧ s.1 = if b then none else some false
  | [], b, h, r, hr => by
    obtain rfl := Option.some.inj h
    exact ⟨r, rfl, by simpa using hr⟩
  | f :: fs, b, h, r, hr => by
    unfold eqFs at h
    split at h <;> first | (cases h; done) | skip
    rename_i x y hn hx hy
    split at h <;> first | (cases h; done) | skip
    rename_i a c ha hc
    obtain rfl := Option.some.inj h
    have hn := of_decide_eq_false hn
    obtain ⟨d, hu, hag⟩ := eqT_agg ha
    rw [List.forIn_cons, peek_bind']
    simp only [ne_eq, hn, not_false_eq_true, if_true]
    rw [peek_bind', peek_part hu hag (by simpa using hx)]
    simp only
    rw [peek_bind', peek_part hu hag (by simpa using hy)]
    simp only
    rw [peek_bind', eqT_peek ha]
    cases a with
    | true =>
      obtain ⟨s, hs, he⟩ := eqFs_peek fs hc (none, PUnit.unit) rfl
      refine ⟨s, ?_, by simpa using he⟩
      exact hs
    | false => exact ⟨(some false, PUnit.unit), rfl, rfl⟩

theorem eqS_peek {t : TypeId} {xs ys : Array Value} {b : Bool} (h : eqS P t xs.toList ys.toList = some b) : peek P (Op.equal t (.agg xs) (.agg ys)) = some b ∧ P.eqGuardType P.depth t = false := by
  unfold eqS at h
  split at h <;> first | (cases h; done) | skip
  rename_i fields hu
  split at h <;> first | (cases h; done) | skip
  rename_i hg
  simp only [Bool.or_eq_false_iff] at hg
  refine ⟨?_, hg.2⟩
  unfold Op.equal Op.maxDepth Op.equalIn
  rw [peek_bind', peek_underlying hu]
  simp only
  rw [peek_bind', peek_program]
  simp only [hg.1, Bool.false_eq_true, if_false]
  obtain ⟨s, hs, he⟩ := eqFs_peek (dd := 9998) fields.toList h (none, PUnit.unit) rfl
  rw [peek_bind', ← Array.forIn_toList]
  have hs' : peek P (forIn fields.toList ((none, ()) : Option Bool × Unit) fun f (_ : Option Bool × Unit) => (do
      if f.name ≠ "_" then
        if !(← Op.equalIn 9999 f.type (← part f.type xs f.offset) (← part f.type ys f.offset)) then pure (ForInStep.done (some false, ()))
        else pure (ForInStep.yield (none, ()))
      else pure (ForInStep.yield (none, ())) : Sem (ForInStep (Option Bool × Unit)))) = some s := hs
  rw [hs']
  simp only [he]
  cases b <;> rfl

theorem eqGuard_peek {op : BinOp} (hop : op = .eql ∨ op = .neq) {t : TypeId} {x y : Operand} {xs ys : Array Value} (h : P.eqGuardType P.depth t = false) : peek P (eqGuard op t x y (.agg xs) (.agg ys)) = some () := by
  unfold eqGuard
  rcases hop with rfl | rfl
  all_goals
    simp only [Bool.not_true, Bool.false_eq_true, if_false]
    rw [peek_bind', peek_program]
    simp only
    rw [peek_bind', peek_program]
    simp only [h, Bool.not_false, if_true]
    rfl
theorem eqO_some {evd : Operand → DV} {op : Op} {b : Bool} (h : eqO P evd op = some b) : (∀ x ∈ op.operands, flD (evd x) = true) ∧ isSelect op = false ∧ ∀ o : Oper, o.op = op → peek P (execOp (fun x => valD (evd x)) o) = some (.value (.bool b)) := by
  have key : ∀ {x y : Operand} {l1 l2 : List DV}, evd x = .agg l1 → evd y = .agg l2 → (l1.all isV && l2.all isV) = true → (∀ z ∈ #[x, y], flD (evd z) = true) ∧ valD (evd x) = .agg (l1.map val1).toArray ∧ valD (evd y) = .agg (l2.map val1).toArray := by
    intro x y l1 l2 e1 e2 hv
    simp only [Bool.and_eq_true] at hv
    refine ⟨fun z hz => ?_, by rw [e1]; rfl, by rw [e2]; rfl⟩
    simp only [List.mem_toArray, List.mem_cons, List.not_mem_nil, or_false] at hz
    rcases hz with rfl | rfl
    · rw [e1]; exact hv.1
    · rw [e2]; exact hv.2
  unfold eqO at h
  split at h <;> first | (cases h; done) | skip
  · rename_i t x y z
    split at h <;> first | (cases h; done) | skip
    rename_i l1 l2 e1 e2
    split at h <;> first | (cases h; done) | skip
    rename_i hv
    obtain ⟨k1, k2, k3⟩ := key e1 e2 hv
    refine ⟨fun w hw => k1 w (by simpa [Op.operands] using hw), rfl, fun o ho => ?_⟩
    obtain ⟨p1, p2⟩ := eqS_peek (xs := (l1.map val1).toArray) (ys := (l2.map val1).toArray) (by simpa using h)
    unfold execOp
    rw [ho]
    simp only [k2, k3]
    simp only [peek_bind', eqGuard_peek (.inl rfl) p2]
    unfold binOp
    simp only [peek_bind', p1]
    rfl
  · rename_i t x y z
    split at h <;> first | (cases h; done) | skip
    rename_i l1 l2 e1 e2
    split at h <;> first | (cases h; done) | skip
    rename_i hv
    obtain ⟨k1, k2, k3⟩ := key e1 e2 hv
    refine ⟨fun w hw => k1 w (by simpa [Op.operands] using hw), rfl, fun o ho => ?_⟩
    simp only [Option.map_eq_some_iff] at h
    obtain ⟨c, h, rfl⟩ := h
    obtain ⟨p1, p2⟩ := eqS_peek (xs := (l1.map val1).toArray) (ys := (l2.map val1).toArray) (by simpa using h)
    unfold execOp
    rw [ho]
    simp only [k2, k3]
    simp only [peek_bind', eqGuard_peek (.inr rfl) p2]
    unfold binOp
    simp only [peek_bind', p1]
    rfl
end
end Go.DE
