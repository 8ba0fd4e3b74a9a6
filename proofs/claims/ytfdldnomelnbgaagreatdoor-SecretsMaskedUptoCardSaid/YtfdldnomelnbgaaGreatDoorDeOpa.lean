/-
 What an operation of the evaluator comes to once its operands are known: helpers for the symbolic evaluator.
 Conditions: none; lemmas.

 The symbolic evaluator's lists of cells: parts of a literal, elements of a block; append.
 Conditions: none; lemmas.
-/
import Derived.Test.YtfdldnomelnbgaaGreatDoorDeVal
namespace Go.DE
open Go Go.AE

def Lim {β : Type} (F : Nat → Nat → Option β) (b : β) : Prop := ∃ N, ∀ n d, N ≤ n → N ≤ d → F n d = some b
theorem Lim.const {β : Type} {F : Nat → Nat → Option β} {b : β} (h : ∀ n d, F n d = some b) : Lim F b := ⟨0, fun n d _ _ => h n d⟩

theorem peek_bind {α β : Type} {P : Program} (s : Sem α) (f : α → Sem β) : peek P (s.bind f) = match peek P s with | some a => peek P (f a) | none => none := by
 induction s with
 | pure a => rfl
 | program k ih => exact ih P
 | mark m k ih => exact ih
 | _ => rfl
theorem peek_bind' {α β : Type} {P : Program} (s : Sem α) (f : α → Sem β) : peek P (s >>= f) = match peek P s with | some a => peek P (f a) | none => none := peek_bind s f
theorem peek_pure {α : Type} {P : Program} (a : α) : peek P (pure a : Sem α) = some a := rfl

theorem peek_new {P : Program} {t : TypeId} {cs : Array Value} : peek P (newRow t cs) = none := rfl

section
variable {P : Program} {st : AE.Stat} {call : CallA} {ev : Operand → Value} {o : Oper} {σ : Heap}

theorem opA_none (hc : constsOk o.op = true) (h : peekA P ev o = none) : opA P st call ev o σ = specA P st call ev o.op σ := by
 unfold opA
 rw [if_pos hc, h]
theorem peekA_nonflat {x : Operand} (hx : x ∈ o.op.operands) (h : flat (ev x) = false) : peekA P ev o = none := by
 unfold peekA
 rw [if_neg]
 simp only [Bool.and_eq_true, not_and]
 intro hall
 have := List.all_eq_true.1 hall x (by simpa using hx)
 rw [h] at this
 cases this
theorem peekA_peek (h : ∀ u, peek P (execOp ev o) = some (.value u) → flat u = false) : peekA P ev o = none := by
 unfold peekA
 split
 ·split
  ·rename_i v hv
   rw [if_neg (by rw [h v hv]; simp)]
  ·rfl
 ·rfl
theorem opA_move {x : Operand} (hc : constsOk o.op = true) (ho : o.op = .move x ∨ o.op = .assign x) : opA P st call ev o σ = some (ev x, σ) := by
 have hp : peek P (execOp ev o) = some (.value (ev x)) := by
  unfold execOp
  rcases ho with ho | ho <;> rw [ho] <;> rfl
 have hs : specA P st call ev o.op σ = some (ev x, σ) := by rcases ho with ho | ho <;> rw [ho] <;> rfl
 unfold opA
 rw [if_pos hc]
 unfold peekA
 rw [hp]
 split
 ·rename_i u hu
  split at hu
  ·simp only at hu
   split at hu
   ·obtain rfl := Option.some.inj hu
    rfl
   ·cases hu
  ·cases hu
 ·exact hs

theorem peek_alloc {e : TypeId} (ho : o.op = .alloc e) (u : Value) : peek P (execOp ev o) ≠ some (.value u) := by
 unfold execOp
 rw [ho]
 simp only [Instr.alloc, peek_bind', newVar, peek_new]
 cases peek P (zeroValue e) <;> simp
theorem peek_box {e : TypeId} {x : Operand} (ho : o.op = .box e x) (u : Value) : peek P (execOp ev o) ≠ some (.value u) := by
 unfold execOp
 rw [ho]
 simp only [Instr.box, peek_bind', newVar, peek_new]
 simp
theorem bind_none {α β : Type} {s : Sem α} {f : α → Sem β} (h : ∀ a, peek P (f a) = none) : peek P (s >>= f) = none := by
 rw [peek_bind']; cases peek P s <;> simp [h]
theorem bind_left {α β : Type} {s : Sem α} {f : α → Sem β} (h : peek P s = none) : peek P (s >>= f) = none := by
 rw [peek_bind', h]
theorem peek_buildSlice {t : TypeId} {n : Nat} {ps : Array (Nat × Operand)} (ho : o.op = .buildSlice t n ps) (u : Value) : peek P (execOp ev o) ≠ some (.value u) := by
 unfold execOp
 rw [ho]
 simp only [Instr.buildSlice]
 rw [bind_left]
 ·simp
 ·repeat' first | rfl | (apply bind_none; intro _) | split
theorem peek_makeSlice {t : TypeId} {l c : Operand} (ho : o.op = .makeSlice t l c) (u : Value) : peek P (execOp ev o) ≠ some (.value u) := by
 unfold execOp
 rw [ho]
 simp only [Instr.makeSlice]
 rw [bind_left]
 ·simp
 ·repeat' first | rfl | (apply bind_none; intro _) | split
theorem peek_makeMap {t : TypeId} (ho : o.op = .makeMap t none) (u : Value) : peek P (execOp ev o) ≠ some (.value u) := by
 unfold execOp
 rw [ho]
 simp only [Instr.makeMap]
 rw [bind_left]
 ·simp
 ·repeat' first | rfl | (apply bind_none; intro _) | split
theorem peek_len_nil {c : Go.Call} {t : TypeId} {e : TypeId} (ho : o.op = .call c) (hc : c.callee = .builtin .len) (ht : c.argTypes[0]? = some t) (hd : P.underlying t = some (.slice e)) (ha : (c.args.map ev)[0]? = some (.slice none 0 0)) :
  peek P (execOp ev o) = some (.value (goInt 0)) := by
 have hu : peek P (underlying t) = some (.slice e) := by
  unfold underlying
  show peek P (match P.underlying t with | some d => pure d | none => stuck "no such type") = _
  rw [hd]; rfl
 unfold execOp
 rw [ho]
 simp only [resolve, hc, invoke, builtin, Builtin.len_]
 simp only [peek_bind', peek_pure, ht, ha, hu]
 rfl
theorem peek_append_nil {c : Go.Call} {t t' : TypeId} {e : TypeId} {d : TypeDesc} {i : TypeInfo} (ho : o.op = .call c) (hc : c.callee = .builtin .append) (ht : c.argTypes[0]? = some t) (hd : P.underlying t = some (.slice e))
  (ht' : c.argTypes[1]? = some t') (hd' : P.underlying t' = some d) (hnd : isIntD d = false) (hi : P.info? e = some i)
  (ha : (c.args.map ev)[0]? = some (.slice none 0 0)) (ha' : (c.args.map ev)[1]? = some (.slice none 0 0)) :
  peek P (execOp ev o) = some (.value (.slice none 0 0)) := by
 have hu : peek P (underlying t) = some (.slice e) := by
  unfold underlying
  show peek P (match P.underlying t with | some d => pure d | none => stuck "no such type") = _
  rw [hd]; rfl
 have hu' : peek P (underlying t') = some d := by
  unfold underlying
  show peek P (match P.underlying t' with | some d => pure d | none => stuck "no such type") = _
  rw [hd']; rfl
 have hs : peek P (sizeOf e) = some i.size := by
  unfold sizeOf typeInfo
  show peek P (((match P.info? e with | some i => pure i | none => stuck "no such type") >>= fun i => pure i.size : Sem Nat)) = _
  rw [hi]; rfl
 unfold execOp
 rw [ho]
 simp only [resolve, hc, invoke, builtin, Builtin.append_]
 simp only [peek_bind', peek_pure, ht, ha, ht', ha', hu, hu', hs]
 cases d <;> first | (cases hnd; done) | rfl
end
end Go.DE

namespace Go.DE
open Go Go.AE

def chunk : Nat → Nat → List DV → List (List DV)
 | 0, _, _ => []
 | m + 1, k, l => l.take k :: chunk m k (l.drop k)
theorem chunk_length : ∀ (m k : Nat) (l : List DV), (chunk m k l).length = m
 | 0, _, _ => rfl
 | m + 1, k, l => by simp [chunk, chunk_length m]
theorem chunk_get : ∀ (m k : Nat) (l : List DV) (i f : Nat), i < m → f < k → ((chunk m k l).getD i []).getD f .any = l.getD (i * k + f) .any
 | 0, k, l, i, f, hi, hf => by omega
 | m + 1, k, l, 0, f, hi, hf => by
  simp only [chunk, List.getD_cons_zero, Nat.zero_mul, Nat.zero_add]
  rw [List.getD_eq_getElem?_getD, List.getD_eq_getElem?_getD, List.getElem?_take, if_pos hf]
 | m + 1, k, l, i + 1, f, hi, hf => by
  simp only [chunk, List.getD_cons_succ]
  rw [chunk_get m k (l.drop k) i f (by omega) hf, List.getD_eq_getElem?_getD, List.getD_eq_getElem?_getD, List.getElem?_drop]
  congr 2
  rw [Nat.succ_mul]
  omega
def blockOf (k : Nat) (l : List DV) : DBlk := ⟨k, .lst (chunk (l.length / k) k l)⟩

section
variable {st : AE.Stat} {C : Cf} {μ : Mu} {σ : Heap} {σd : DHeap} {P : Program}

theorem oneL {ds : List DV} {xs : List Value} (h : DRL C μ ds xs) (ho : ds.all oneD = true) : ∀ v ∈ xs, v.oneCell' = true := by
 intro v hv
 obtain ⟨j, hj⟩ := List.mem_iff_getElem?.1 hv
 have hjl : j < ds.length := by have := (List.getElem?_eq_some_iff.1 hj).1; rw [h.1]; exact this
 exact oneD_one (h.2 j _ v (List.getElem?_eq_getElem hjl) hj) (List.all_eq_true.1 ho _ (List.getElem_mem hjl))

theorem blockOf_cells {k : Nat} {ds : List DV} {xs : List Value} (h : DRL C μ ds xs) (ho : ds.all oneD = true) :
  (blockOf k ds).c.n * k ≤ xs.length ∧ ∀ i f, i < (blockOf k ds).c.n → f < k → ∃ v, xs[i * k + f]? = some v ∧ v.oneCell' = true ∧ DR C μ ((blockOf k ds).c.get i f) v := by
 have hn : (blockOf k ds).c.n = ds.length / k := by simp [blockOf, DC.n, chunk_length]
 have hle : ds.length / k * k ≤ xs.length := by rw [← h.1]; exact Nat.div_mul_le_self _ _
 refine ⟨by rw [hn]; exact hle, fun i f hi hf => ?_⟩
 rw [hn] at hi
 have hlt := pos_lt hi hf
 have hd : i * k + f < ds.length := by rw [h.1]; omega
 obtain ⟨v, hv, hr⟩ := h.get (List.getElem?_eq_getElem hd)
 refine ⟨v, hv, oneL h ho v (List.mem_of_getElem? hv), ?_⟩
 show DR C μ (((chunk (ds.length / k) k ds).getD i []).getD f .any) v
 rw [chunk_get _ _ _ _ _ hi hf, List.getD_eq_getElem?_getD, List.getElem?_eq_getElem hd]
 exact hr

theorem St.pushL (h : St st C μ σ σd) {k : Nat} {ds : List DV} {xs : List Value} (hk : 0 < k) (hr : DRL C μ ds xs) (ho : ds.all oneD = true) :
  St st C (μ.put σd.length (σ.length, k, xs.length)) (newB σ xs).2 (σd ++ [some (blockOf k ds)]) ∧ Nx C μ σ σd C (μ.put σd.length (σ.length, k, xs.length)) (newB σ xs).2 (σd ++ [some (blockOf k ds)]) :=
 h.push hk (blockOf_cells hr ho).1 trivial (blockOf_cells hr ho).2

def fillD (place : Nat → Option (Nat × Nat)) (cells : List DV) : List (Nat × DV) → Option (List DV)
 | [] => some cells
 | (i, d) :: rest =>
  match place i with
  | none => none
  | some (off, size) =>
   match cellsD d with
   | none => none
   | some cs => bif cs.length != size || decide (cells.length < off + cs.length) then none else fillD place (cells.take off ++ cs ++ cells.drop (off + cs.length)) rest

theorem foldl_set (off : Nat) : ∀ (l : List Value) (k : Nat) (x : Array Value), off + k + l.length ≤ x.size →
  ((l.zipIdx k).foldl (fun cs (p : Value × Nat) => cs.setIfInBounds (off + p.2) p.1) x).toList = x.toList.take (off + k) ++ l ++ x.toList.drop (off + k + l.length)
 | [], k, x, h => by simp
 | v :: l, k, x, h => by
  simp only [List.length_cons] at h
  simp only [List.zipIdx_cons, List.foldl_cons]
  rw [foldl_set off l (k + 1) _ (by simp; omega)]
  apply List.ext_getElem?
  intro i
  have e1 : (List.take (off + (k + 1)) (x.setIfInBounds (off + k) v).toList).length = off + k + 1 := by simp; omega
  have e2 : (List.take (off + k) x.toList).length = off + k := by simp; omega
  rw [List.append_assoc, List.append_assoc]
  by_cases hi : i < off + k
  ·rw [List.getElem?_append_left (by omega), List.getElem?_append_left (by omega), List.getElem?_take, List.getElem?_take, if_pos (by omega), if_pos hi, Array.toList_setIfInBounds, List.getElem?_set_ne (by omega)]
  ·rw [List.getElem?_append_right (l₁ := List.take (off + k) x.toList) (by omega), e2]
   by_cases hj : i = off + k
   ·subst hj
    rw [List.getElem?_append_left (by omega), List.getElem?_take, if_pos (by omega), Array.toList_setIfInBounds, List.getElem?_set_self (by simp; omega)]
    simp
   ·rw [List.getElem?_append_right (by omega), e1]
    have : i - (off + k) = (i - (off + k + 1)) + 1 := by omega
    rw [this, List.cons_append, List.getElem?_cons_succ]
    by_cases hk : i - (off + k + 1) < l.length
    ·rw [List.getElem?_append_left hk, List.getElem?_append_left hk]
    ·rw [List.getElem?_append_right (by omega), List.getElem?_append_right (by omega), List.getElem?_drop, List.getElem?_drop, Array.toList_setIfInBounds, List.getElem?_set_ne (by omega), List.length_cons]
     congr 1
     omega

theorem fillD_some (place : Nat → Option (Nat × Nat)) : ∀ (ps : List (Nat × DV)) (qs : List (Nat × Value)) (cs out : List DV) (vs : Array Value), ps.map (·.1) = qs.map (·.1) → DRL C μ (ps.map (·.2)) (qs.map (·.2)) → DRL C μ cs vs.toList →
  fillD place cs ps = some out → ∃ out', Instr.fill place vs qs = some out' ∧ DRL C μ out out'.toList
 | [], [], cs, out, vs, _, _, hc, h => by
  obtain rfl := Option.some.inj h
  exact ⟨vs, rfl, hc⟩
 | [], _ :: _, _, _, _, h, _, _, _ => by simp at h
 | _ :: _, [], _, _, _, h, _, _, _ => by simp at h
 | (i, d) :: ps, (j, v) :: qs, cs, out, vs, hi, hp, hc, h => by
  simp only [List.map_cons, List.cons.injEq] at hi
  obtain ⟨rfl, hi⟩ := hi
  obtain ⟨x, xs, e, hd, hp⟩ := hp.cons_inv
  simp only [List.map_cons, List.cons.injEq] at e
  obtain ⟨rfl, rfl⟩ := e
  unfold fillD at h
  unfold Instr.fill
  cases hpl : place i with
  | none => rw [hpl] at h; cases h
  | some p =>
   obtain ⟨off, size⟩ := p
   rw [hpl] at h
   simp only at h ⊢
   cases hcd : cellsD d with
   | none => rw [hcd] at h; cases h
   | some c2 =>
    rw [hcd] at h
    simp only at h
    rcases bif_some h with ⟨_, h⟩ | ⟨hb, h⟩
    ·cases h
    ·simp only [Bool.or_eq_false_iff, bne_eq_false_iff_eq, decide_eq_false_iff_not, Nat.not_lt] at hb
     have hcells := cellsD_some hd hcd
     have hl1 : v.cells.size = size := by rw [← hb.1, hcells.1]; simp
     have hl2 : off + v.cells.toList.length ≤ vs.size := by
      have := hc.1
      have := hcells.1
      simp only [Array.length_toList] at *
      omega
     rw [if_neg (by simp only [Bool.or_eq_true, decide_eq_true_eq, not_or]; exact ⟨fun x => x hl1, by simp at hl2; omega⟩)]
     refine fillD_some place ps qs _ out _ hi hp ?_ h
     have hz : v.cells.zipIdx.foldl (fun cs (p : Value × Nat) => cs.setIfInBounds (off + p.2) p.1) vs = (v.cells.toList.zipIdx 0).foldl (fun cs (p : Value × Nat) => cs.setIfInBounds (off + p.2) p.1) vs := by
      rw [← Array.foldl_toList]
      simp
     show DRL C μ _ (v.cells.zipIdx.foldl (fun cs (p : Value × Nat) => cs.setIfInBounds (off + p.2) p.1) vs).toList
     rw [hz, foldl_set off v.cells.toList 0 vs (by omega), Nat.add_zero]
     have htake : ∀ n, DRL C μ (cs.take n) (vs.toList.take n) := fun n => ⟨by simp [hc.1], fun a e y he hy => by
      rw [List.getElem?_take] at he hy
      split at he
      ·rename_i hlt
       rw [if_pos hlt] at hy
       exact hc.2 a e y he hy
      ·cases he⟩
     have hdrop : ∀ n, DRL C μ (cs.drop n) (vs.toList.drop n) := fun n => ⟨by simp [hc.1], fun a e y he hy => by
      rw [List.getElem?_drop] at he hy
      exact hc.2 _ e y he hy⟩
     rw [← hcells.1]
     exact ((htake _).append hcells).append (hdrop _)

def zerosD (z : List DV) (n : Nat) : List DV := (List.range n).map fun i => z.getD (i % z.length) .any
theorem zerosD_DRL {z : List DV} {zv : Array Value} (h : DRL C μ z zv.toList) {n : Nat} (h0 : n = 0 ∨ 0 < z.length) : DRL C μ (zerosD z n) (zerosA zv n) := by
 have hz : z.length = zv.size := by simpa using h.1
 refine ⟨by simp [zerosD, zerosA], fun i d x hd hx => ?_⟩
 simp only [zerosD, zerosA, List.getElem?_map, Array.toList_map, Array.toList_range, Option.map_eq_some_iff] at hd hx
 obtain ⟨a, ha, rfl⟩ := hd
 obtain ⟨b, hb, rfl⟩ := hx
 rw [ha] at hb
 obtain rfl := Option.some.inj hb
 have hlt : a % z.length < z.length := by
  rcases h0 with rfl | h0
  ·simp at ha
  ·exact Nat.mod_lt _ h0
 have hlt' : a % zv.size < zv.size := by rw [← hz]; exact hlt
 have e : zv[a % zv.size]! = zv[a % zv.size] := getElem!_pos zv (a % zv.size) hlt'
 rw [e, List.getD_eq_getElem?_getD, List.getElem?_eq_getElem hlt]
 refine h.2 (a % z.length) _ _ (List.getElem?_eq_getElem hlt) ?_
 simp only [hz]
 simp [hlt']
end
end Go.DE
