/-
  What an operation of the evaluator comes to once its operands are known: helpers for the symbolic evaluator.
  Conditions: none; lemmas.
-/
import Derived.Test.YtiphckeipbfbmaaGreatDoorDeMem
namespace Go.DE
open Go Go.AE

/-- From some fuel on. -/
def Lim {β : Type} (F : Nat → Nat → Option β) (b : β) : Prop := ∃ N, ∀ n d, N ≤ n → N ≤ d → F n d = some b
theorem Lim.const {β : Type} {F : Nat → Nat → Option β} {b : β} (h : ∀ n d, F n d = some b) : Lim F b := ⟨0, fun n d _ _ => h n d⟩

theorem peek_bind {α β : Type} {P : Program} (s : Sem α) (f : α → Sem β) : peek P (s.bind f) = match peek P s with | some a => peek P (f a) | none => none := by
  induction s with
  | pure a => rfl
  | program k ih => exact ih P
  | mark m k ih => exact ih
  | _ => rfl
theorem peek_bind' {α β : Type} {P : Program} (s : Sem α) (f : α → Sem β) : peek P (s >>= f) = match peek P s with | some a => peek P (f a) | none => none := peek_bind s f
theorem peek_pure {α : Type} {P : Program} (a : α) : peek P (pure a : Sem α) = some a := rfl

theorem peek_new {P : Program} {t : TypeId} {cs : Array Value} : peek P (newRow t cs) = none := rfl

section
variable {P : Program} {st : AE.Stat} {call : CallA} {ev : Operand → Value} {o : Oper} {σ : Heap}

theorem opA_none (hc : constsOk o.op = true) (h : peekA P ev o = none) : opA P st call ev o σ = specA P st call ev o.op σ := by
  unfold opA
  rw [if_pos hc, h]
theorem peekA_nonflat {x : Operand} (hx : x ∈ o.op.operands) (h : flat (ev x) = false) : peekA P ev o = none := by
  unfold peekA
  rw [if_neg]
  simp only [Bool.and_eq_true, not_and]
  intro hall
  have := List.all_eq_true.1 hall x (by simpa using hx)
  rw [h] at this
  cases this
theorem peekA_peek (h : ∀ u, peek P (execOp ev o) = some (.value u) → flat u = false) : peekA P ev o = none := by
  unfold peekA
  split
  · split
    · rename_i v hv
      rw [if_neg (by rw [h v hv]; simp)]
    · rfl
  · rfl
theorem opA_move {x : Operand} (hc : constsOk o.op = true) (ho : o.op = .move x ∨ o.op = .assign x) : opA P st call ev o σ = some (ev x, σ) := by
  have hp : peek P (execOp ev o) = some (.value (ev x)) := by
    unfold execOp
    rcases ho with ho | ho <;> rw [ho] <;> rfl
  have hs : specA P st call ev o.op σ = some (ev x, σ) := by rcases ho with ho | ho <;> rw [ho] <;> rfl
  unfold opA
  rw [if_pos hc]
  unfold peekA
  rw [hp]
  split
  · rename_i u hu
    split at hu
    · simp only at hu
      split at hu
      · obtain rfl := Option.some.inj hu
        rfl
      · cases hu
    · cases hu
  · exact hs

theorem peek_alloc {e : TypeId} (ho : o.op = .alloc e) (u : Value) : peek P (execOp ev o) ≠ some (.value u) := by
  unfold execOp
  rw [ho]
  simp only [Instr.alloc, peek_bind', newVar, peek_new]
  cases peek P (zeroValue e) <;> simp
theorem peek_box {e : TypeId} {x : Operand} (ho : o.op = .box e x) (u : Value) : peek P (execOp ev o) ≠ some (.value u) := by
  unfold execOp
  rw [ho]
  simp only [Instr.box, peek_bind', newVar, peek_new]
  simp
theorem bind_none {α β : Type} {s : Sem α} {f : α → Sem β} (h : ∀ a, peek P (f a) = none) : peek P (s >>= f) = none := by
  rw [peek_bind']; cases peek P s <;> simp [h]
theorem bind_left {α β : Type} {s : Sem α} {f : α → Sem β} (h : peek P s = none) : peek P (s >>= f) = none := by
  rw [peek_bind', h]
theorem peek_buildSlice {t : TypeId} {n : Nat} {ps : Array (Nat × Operand)} (ho : o.op = .buildSlice t n ps) (u : Value) : peek P (execOp ev o) ≠ some (.value u) := by
  unfold execOp
  rw [ho]
  simp only [Instr.buildSlice]
  rw [bind_left]
  · simp
  · repeat' first | rfl | (apply bind_none; intro _) | split
theorem peek_makeSlice {t : TypeId} {l c : Operand} (ho : o.op = .makeSlice t l c) (u : Value) : peek P (execOp ev o) ≠ some (.value u) := by
  unfold execOp
  rw [ho]
  simp only [Instr.makeSlice]
  rw [bind_left]
  · simp
  · repeat' first | rfl | (apply bind_none; intro _) | split
theorem peek_len_nil {c : Go.Call} {t : TypeId} {e : TypeId} (ho : o.op = .call c) (hc : c.callee = .builtin .len) (ht : c.argTypes[0]? = some t) (hd : P.underlying t = some (.slice e)) (ha : (c.args.map ev)[0]? = some (.slice none 0 0)) :
    peek P (execOp ev o) = some (.value (goInt 0)) := by
  have hu : peek P (underlying t) = some (.slice e) := by
    unfold underlying
    show peek P (match P.underlying t with | some d => pure d | none => stuck "no such type") = _
    rw [hd]; rfl
  unfold execOp
  rw [ho]
  simp only [resolve, hc, invoke, builtin, Builtin.len_]
  simp only [peek_bind', peek_pure, ht, ha, hu]
  rfl
theorem peek_append_nil {c : Go.Call} {t t' : TypeId} {e : TypeId} {d : TypeDesc} {i : TypeInfo} (ho : o.op = .call c) (hc : c.callee = .builtin .append) (ht : c.argTypes[0]? = some t) (hd : P.underlying t = some (.slice e))
    (ht' : c.argTypes[1]? = some t') (hd' : P.underlying t' = some d) (hnd : isIntD d = false) (hi : P.info? e = some i)
    (ha : (c.args.map ev)[0]? = some (.slice none 0 0)) (ha' : (c.args.map ev)[1]? = some (.slice none 0 0)) :
    peek P (execOp ev o) = some (.value (.slice none 0 0)) := by
  have hu : peek P (underlying t) = some (.slice e) := by
    unfold underlying
    show peek P (match P.underlying t with | some d => pure d | none => stuck "no such type") = _
    rw [hd]; rfl
  have hu' : peek P (underlying t') = some d := by
    unfold underlying
    show peek P (match P.underlying t' with | some d => pure d | none => stuck "no such type") = _
    rw [hd']; rfl
  have hs : peek P (sizeOf e) = some i.size := by
    unfold sizeOf typeInfo
    show peek P (((match P.info? e with | some i => pure i | none => stuck "no such type") >>= fun i => pure i.size : Sem Nat)) = _
    rw [hi]; rfl
  unfold execOp
  rw [ho]
  simp only [resolve, hc, invoke, builtin, Builtin.append_]
  simp only [peek_bind', peek_pure, ht, ha, ht', ha', hu, hu', hs]
  cases d <;> first | (cases hnd; done) | rfl
end
end Go.DE
