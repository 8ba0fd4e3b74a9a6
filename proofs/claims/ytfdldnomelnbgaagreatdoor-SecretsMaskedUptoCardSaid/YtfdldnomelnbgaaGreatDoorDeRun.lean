/-
 The symbolic evaluator: regions, in the order of the text and in an open one.
 Conditions: the symbolic state stands for the evaluator's (Rl); the callees do what the symbolic evaluator was told of them (CallS, PureS).

 The symbolic evaluator: a region whose order is open.
 Conditions: the symbolic state stands for the evaluator's (Rl); the callees do what the symbolic evaluator was told of them (CallS, PureS).
-/
import Derived.Test.YtfdldnomelnbgaaGreatDoorDeExec
namespace Go.DE
open Go Go.AE

abbrev Gl := Nat → DV

def evalDT (gl : Gl) (τ : List DV) : Operand → DV
 | .tmp t => τ.getD t .any
 | .const v => match okV v with
  | true => ofV v
  | false => .any
 | .global g => gl g
 | .func f => .fn (.func f) [] []
def putD (τ : List DV) (dst : Option Tmp) (d : DV) : List DV :=
 match dst with
 | some t => τ.set t d
 | none => τ

structure Rl (st : AE.Stat) (gl : Gl) (C : Cf) (μ : Mu) (τ : Array Value) (σ : Heap) (τd : List DV) (σd : DHeap) : Prop where
 S : St st C μ σ σd
 T : DRL C μ τd τ.toList
 G : ∀ g, DR C μ (gl g) (.pointer (some ⟨g, 0, some 0⟩))

section
variable {α : Type} {st : AE.Stat} {gl : Gl} {C : Cf} {μ : Mu} {σ : Heap} {σd : DHeap} {P : Program} {r : α} {τ : Array Value} {τd : List DV}

theorem putT_list (dst : Option Tmp) (v : Value) : (putT τ dst v).toList = match dst with | some t => τ.toList.set t v | none => τ.toList := by
 cases dst with
 | none => rfl
 | some t => simp [putT]
theorem DRL.put (h : DRL C μ τd τ.toList) (dst : Option Tmp) {d : DV} {v : Value} (hd : DR C μ d v) : DRL C μ (putD τd dst d) (putT τ dst v).toList := by
 rw [putT_list]
 cases dst with
 | none => exact h
 | some t => exact h.set t hd
theorem Rl.ev (h : Rl st gl C μ τ σ τd σd) (x : Operand) : DR C μ (evalDT gl τd x) (evalT τ x) := by
 cases x with
 | tmp t =>
  have := h.T.getD t undef
  simp only [evalDT, evalT]
  rw [Array.getD_eq_getD_getElem?, ← Array.getElem?_toList, ← List.getD_eq_getElem?_getD]
  exact this
 | const v =>
  simp only [evalDT, evalT]
  split
  ·rename_i hv; exact okV_DR hv
  ·exact .any _
 | global g => exact h.G g
 | func f => exact .fn _ _ _ _ _ rfl rfl (fun i d x h => by simp at h) fun i d x h => by simp at h
theorem Rl.mono {C' : Cf} {μ' : Mu} {σ' : Heap} {σd' : DHeap} (h : Rl st gl C μ τ σ τd σd) (hS : St st C' μ' σ' σd') (hN : Nx C μ σ σd C' μ' σ' σd') : Rl st gl C' μ' τ σ' τd σd' :=
 ⟨hS, h.T.mono hN.hC hN.hμ, fun g => (h.G g).mono hN.hC hN.hμ⟩

def guardD (ops : Array Oper) (o : Oper) (τ : List DV) (run skip : List DV → Option α) : Option α :=
 match o.guard with
 | none => run τ
 | some (j, want) => match (ops[j]?).bind (·.dst) with
  | none => skip τ
  | some d => match τ[d]? with
   | some (.v (.bool t)) => match want with
    | true => cond t (run (τ.set d (.v (.bool true)))) (skip (τ.set d (.v (.bool false))))
    | false => cond t (skip (τ.set d (.v (.bool true)))) (run (τ.set d (.v (.bool false))))
   | some .any => none
   | _ => skip τ
theorem guardD_some {ops : Array Oper} {o : Oper} {run skip : List DV → Option α} (h : DRL C μ τd τ.toList) (hg : guardD ops o τd run skip = some r) :
  ∃ τ0, DRL C μ τ0 τ.toList ∧ guardOk ops o τ = true ∧ ((Region.wanted o (yielded ops τ) = true ∧ run τ0 = some r) ∨ (Region.wanted o (yielded ops τ) = false ∧ skip τ0 = some r)) := by
 unfold guardD at hg
 cases hgd : o.guard with
 | none =>
  rw [hgd] at hg
  exact ⟨τd, h, by unfold guardOk; rw [hgd], .inl ⟨by unfold Region.wanted; rw [hgd], hg⟩⟩
 | some p =>
  obtain ⟨j, want⟩ := p
  rw [hgd] at hg
  simp only at hg
  have hW : Region.wanted o (yielded ops τ) = (yielded ops τ j == some want) := by unfold Region.wanted; rw [hgd]
  cases hd : (ops[j]?).bind (·.dst) with
  | none =>
   rw [hd] at hg
   refine ⟨τd, h, by unfold guardOk; rw [hgd]; simp only [hd, Option.bind_none], .inr ⟨?_, hg⟩⟩
   have hy : yielded ops τ j = none := by unfold yielded; rw [hd]; rfl
   rw [hW, hy]; rfl
  | some d =>
   rw [hd] at hg
   simp only at hg
   have gOk : ∀ {x : Option Value}, τ[d]? = x → (∀ r, x ≠ some (.chan r)) → guardOk ops o τ = true := by
    intro x hx hn
    unfold guardOk
    rw [hgd]
    simp only [hd, Option.bind_some]
    rw [hx]
    cases x with
    | none => rfl
    | some v => cases v <;> first | rfl | exact absurd rfl (hn _)
   have hy : ∀ {x : Option Value}, τ[d]? = x → yielded ops τ j = match x with | some (.bool b) => some b | _ => none := by
    intro x hx
    unfold yielded
    rw [hd]
    simp only [Option.bind_some, hx]
    cases x with
    | none => rfl
    | some v => cases v <;> rfl
   have nb : ∀ {x : DV} {v : Value}, DR C μ x v → (∀ b, x ≠ .v (.bool b)) → x ≠ .any → (∀ b, v ≠ .bool b) ∧ ∀ r, v ≠ .chan r := by
    intro x v hx h1 h2
    cases hx <;> first | (exact absurd rfl h2) | (exact ⟨fun b e => Value.noConfusion e, fun r e => Value.noConfusion e⟩) | skip
    rename_i hf
    exact ⟨fun b e => h1 b (by rw [e]), fun r e => by rw [e] at hf; cases hf⟩
   have skp : ∀ {x : Option DV}, τd[d]? = x → (∀ b, x ≠ some (.v (.bool b))) → x ≠ some .any → skip τd = some r → ∃ τ0, DRL C μ τ0 τ.toList ∧ guardOk ops o τ = true ∧ ((Region.wanted o (yielded ops τ) = true ∧ run τ0 = some r) ∨ (Region.wanted o (yielded ops τ) = false ∧ skip τ0 = some r)) := by
    intro x hx h1 h2 hs
    cases x with
    | none =>
     have : τ[d]? = none := by
      rw [List.getElem?_eq_none_iff] at hx
      rw [Array.getElem?_eq_none_iff]
      have := h.1
      simp only [Array.length_toList] at this
      omega
     refine ⟨τd, h, gOk this (fun r e => by cases e), .inr ⟨?_, hs⟩⟩
     rw [hW, hy this]; rfl
    | some x =>
     obtain ⟨v, hv, hr⟩ := h.get hx
     rw [Array.getElem?_toList] at hv
     obtain ⟨n1, n2⟩ := nb hr (fun b e => h1 b (by rw [e])) (fun e => h2 (by rw [e]))
     refine ⟨τd, h, gOk hv (fun r e => n2 r (Option.some.inj e)), .inr ⟨?_, hs⟩⟩
     rw [hW, hy hv]
     cases v <;> first | rfl | (exact absurd rfl (n1 _))
   split at hg
   ·rename_i t ht
    obtain ⟨v, hv, hr⟩ := h.get ht
    rw [Array.getElem?_toList] at hv
    obtain rfl : v = .bool t := by cases hr; rfl
    have hk := gOk hv (fun r e => by cases e)
    have hyt := hy hv
    have hset : ∀ {b : Bool}, t = b → DRL C μ (τd.set d (.v (.bool b))) τ.toList := by
     intro b hb
     subst hb
     have := h.set d (d := .v (.bool t)) (x := .bool t) (.v _ rfl)
     have e : τ.toList.set d (.bool t) = τ.toList := by
      apply List.ext_getElem?
      intro i
      rw [List.getElem?_set]
      by_cases hi : d = i
      ·subst hi
       have hlt : d < τ.toList.length := by simpa using (Array.getElem?_eq_some_iff.1 hv).1
       rw [if_pos rfl, if_pos hlt, Array.getElem?_toList, hv]
      ·rw [if_neg hi]
     rw [e] at this
     exact this
    cases want with
    | true =>
     simp only at hg
     cases t with
     | true => exact ⟨_, hset rfl, hk, .inl ⟨by rw [hW, hyt]; rfl, hg⟩⟩
     | false => exact ⟨_, hset rfl, hk, .inr ⟨by rw [hW, hyt]; rfl, hg⟩⟩
    | false =>
     simp only at hg
     cases t with
     | true => exact ⟨_, hset rfl, hk, .inr ⟨by rw [hW, hyt]; rfl, hg⟩⟩
     | false => exact ⟨_, hset rfl, hk, .inl ⟨by rw [hW, hyt]; rfl, hg⟩⟩
   ·cases hg
   ·rename_i h1 h2
    exact skp rfl (fun b e => h1 b e) (fun e => h2 e) hg

def stepD (P : Program) (call : CallD α) (gl : Gl) (ops : Array Oper) (o : Oper) (τ : List DV) (σ : DHeap) (k : List DV → List DV → DHeap → Option α) : Option α :=
 guardD ops o τ (fun τ => opD P call (evalDT gl τ) o σ fun d σ' => k τ (putD τ o.dst d) σ') (fun τ => k τ (putD τ o.dst (.tup [])) σ)

def TResR (g : Bool) {β : Type} (st : AE.Stat) (gl : Gl) (C : Cf) (μ : Mu) (σ : Heap) (σd : DHeap) (F : Nat → Nat → Option (β × Array Value × Heap)) (k : β → List DV → DHeap → Option α) (r : α) : Prop :=
 ∃ e τ' σ' C' μ' τd' σd', Lim F (e, τ', σ') ∧ Rl st gl C' μ' τ' σ' τd' σd' ∧ (NRel.b g).N C μ σ σd C' μ' σ' σd' ∧ k e τd' σd' = some r
abbrev TRes {β : Type} (st : AE.Stat) (gl : Gl) (C : Cf) (μ : Mu) (σ : Heap) (σd : DHeap) (F : Nat → Nat → Option (β × Array Value × Heap)) (k : β → List DV → DHeap → Option α) (r : α) : Prop := TResR false st gl C μ σ σd F k r

theorem undef_DR : DR C μ (.tup []) undef := .tup [] #[] rfl fun i d x h => by simp at h

theorem stepD_some {g : Bool} {call : CallD α} {ops : Array Oper} {o : Oper} {k : List DV → List DV → DHeap → Option α} (h : Rl st gl C μ τ σ τd σd) (hcall : CallS g P st call) (hx : stepD P call gl ops o τd σd k = some r) :
  ∃ τ0 τ' σ' C' μ' τd' σd', Rl st gl C μ τ σ τ0 σd ∧ Lim (fun n m => stepA P st (runF P st n m) ops o τ σ) (τ', σ') ∧ Rl st gl C' μ' τ' σ' τd' σd' ∧ Nx1 g C μ σ σd C' μ' σ' σd' ∧ k τ0 τd' σd' = some r ∧
   (Region.wanted o (yielded ops τ) = true → ∃ k', opD P call (evalDT gl τ0) o σd k' = some r) := by
 obtain ⟨τ0, h0, hg, hw | hw⟩ := guardD_some h.T hx
 ·obtain ⟨hw, hx⟩ := hw
  have h' : Rl st gl C μ τ σ τ0 σd := ⟨h.S, h0, h.G⟩
  obtain ⟨v, σ', C', μ', d, σd', ⟨N, hN⟩, q1, q2, q3, q4⟩ := opD_sound h.S (fun x _ => h'.ev x) hcall hx
  refine ⟨τ0, _, σ', C', μ', _, σd', h', ⟨N, fun n m hn hm => ?_⟩, ⟨q1, (h0.mono q2.hC q2.hμ).put o.dst q3, fun g => (h.G g).mono q2.hC q2.hμ⟩, q2, q4, fun _ => ⟨_, hx⟩⟩
  have hN' : opA P st (runF P st n m) (evalT τ) o σ = some (v, σ') := hN n m hn hm
  show stepA P st (runF P st n m) ops o τ σ = _
  unfold stepA
  rw [if_pos hg, if_pos hw, hN']
 ·obtain ⟨hw, hx⟩ := hw
  have h' : Rl st gl C μ τ σ τ0 σd := ⟨h.S, h0, h.G⟩
  refine ⟨τ0, putT τ o.dst undef, σ, C, μ, _, σd, h', .const fun n m => ?_, ⟨h.S, h0.put o.dst undef_DR, h.G⟩, (Nx.refl _ _ _ _).one, hx, fun hw' => by rw [hw] at hw'; cases hw'⟩
  show stepA P st (runF P st n m) ops o τ σ = _
  unfold stepA
  rw [if_pos hg, if_neg (by rw [hw]; simp)]

def runLD (P : Program) (call : CallD α) (gl : Gl) (ops : Array Oper) : List Oper → List DV → DHeap → (List DV → DHeap → Option α) → Option α
 | [], τ, σ, k => k τ σ
 | o :: rest, τ, σ, k => stepD P call gl ops o τ σ fun _ τ' σ' => runLD P call gl ops rest τ' σ' k
theorem runLD_some {g : Bool} {call : CallD α} {ops : Array Oper} (hcall : CallS g P st call) {k : List DV → DHeap → Option α} : ∀ (l : List Oper) {C : Cf} {μ : Mu} {τ : Array Value} {σ : Heap} {τd : List DV} {σd : DHeap}, Rl st gl C μ τ σ τd σd → runLD P call gl ops l τd σd k = some r →
  ∃ τ' σ' C' μ' τd' σd', Lim (fun n m => runA P st (runF P st n m) ops l τ σ) (τ', σ') ∧ Rl st gl C' μ' τ' σ' τd' σd' ∧ Nx1 g C μ σ σd C' μ' σ' σd' ∧ k τd' σd' = some r
 | [], C, μ, τ, σ, τd, σd, h, hx => ⟨τ, σ, C, μ, τd, σd, .const fun _ _ => rfl, h, (Nx.refl _ _ _ _).one, hx⟩
 | o :: rest, C, μ, τ, σ, τd, σd, h, hx => by
  obtain ⟨τ0, τ1, σ1, C1, μ1, τd1, σd1, _, ⟨N, hN⟩, h1, n1, hx, _⟩ := stepD_some h hcall hx
  obtain ⟨τ2, σ2, C2, μ2, τd2, σd2, ⟨M, hM⟩, h2, n2, hx⟩ := runLD_some hcall rest h1 hx
  refine ⟨τ2, σ2, C2, μ2, τd2, σd2, ⟨max N M, fun n m hn hm => ?_⟩, h2, n1.trans n2, hx⟩
  show runA P st (runF P st n m) ops (o :: rest) τ σ = _
  have hN' : stepA P st (runF P st n m) ops o τ σ = some (τ1, σ1) := hN n m (by omega) (by omega)
  unfold runA
  rw [hN']
  exact hM n m (by omega) (by omega)

def PureS (P : Program) (st : AE.Stat) (call : CallD α) (pure : FuncId → Bool) : Prop :=
 ∀ f args σd k r, pure f = true → call f args σd k = some r → ∀ C μ σ vs, St st C μ σ σd → DRL C μ args vs → ∃ v σ', Lim (fun n m => enterA P (runF P st n m) f vs σ) (v, σ') ∧ ∀ b, b < σ.length → σ'[b]? = σ[b]?
def pureOp (pure : FuncId → Bool) (ev : Operand → DV) (o : Oper) : Bool :=
 match o.op with
 | .call c => match c.callee with
  | .value x => match ev x with
   | .fn (.func g) _ _ => pure g
   | _ => false
  | _ => false
 | _ => false
theorem pureOp_some {call : CallD α} {pure : FuncId → Bool} {o : Oper} {τ0 : List DV} {k : DV → DHeap → Option α} (h : Rl st gl C μ τ σ τ0 σd) (hp : PureS P st call pure) (ho : pureOp pure (evalDT gl τ0) o = true) (hx : opD P call (evalDT gl τ0) o σd k = some r) :
  ∃ v σ', Lim (fun n m => opA P st (runF P st n m) (evalT τ) o σ) (v, σ') ∧ ∀ b, b < σ.length → σ'[b]? = σ[b]? := by
 unfold pureOp at ho
 split at ho <;> first | (cases ho; done) | skip
 rename_i c hop
 split at ho <;> first | (cases ho; done) | skip
 rename_i x hcal
 split at ho <;> first | (cases ho; done) | skip
 rename_i g a b he
 obtain ⟨hc, hx⟩ := bif_none hx
 have hmem : x ∈ (Op.call c).operands.toList := by simp only [Op.operands, Go.Call.operands, hcal]; simp
 have hf : flats (evalDT gl τ0) o.op = false := by
  unfold flats
  rw [hop]
  cases hall : (Op.call c).operands.toList.all (fun x => flD (evalDT gl τ0 x)) with
  | false => rfl
  | true =>
   have := List.all_eq_true.1 hall x hmem
   rw [he] at this
   cases this
 have hx2 : call g (a ++ c.args.toList.map (evalDT gl τ0) ++ b) σd k = some r := by
  rw [hop] at hx hf
  simp only [hf, direct, eqO, specD, callOpD, hcal, he] at hx
  exact hx
 have hev := h.ev x
 rw [he] at hev
 obtain ⟨u, v, e2, q1, q2, q3, q4⟩ : ∃ (u v : Array Value), evalT τ x = .func (.func g) u v ∧ a.length = u.size ∧ b.length = v.size ∧ (∀ (i : Nat) d x', a[i]? = some d → u[i]? = some x' → DR C μ d x') ∧ (∀ (i : Nat) d x', b[i]? = some d → v[i]? = some x' → DR C μ d x') := by
  generalize evalT τ x = w at hev
  cases hev with
  | fn _ _ _ u v h1 h2 h3 h4 => exact ⟨u, v, rfl, h1, h2, h3, h4⟩
 have hargs : DRL C μ (a ++ c.args.toList.map (evalDT gl τ0) ++ b) (u.toList ++ c.args.toList.map (evalT τ) ++ v.toList) :=
  ((DRL.append ⟨by simpa using q1, fun i d x' hd hx' => q3 i d x' hd (by simpa using hx')⟩ (map_DRL fun x _ => h.ev x)).append ⟨by simpa using q2, fun i d x' hd hx' => q4 i d x' hd (by simpa using hx')⟩)
 obtain ⟨v', σ', ⟨N, hN⟩, hpre⟩ := hp g _ σd k r ho hx2 C μ σ _ h.S hargs
 refine ⟨v', σ', ⟨N, fun n m hn hm => ?_⟩, hpre⟩
 have hpk : peekA P (evalT τ) o = none := peekA_nonflat (x := x) (by rw [hop]; exact Array.mem_toList_iff.1 hmem) (by rw [e2]; rfl)
 show opA P st (runF P st n m) (evalT τ) o σ = _
 rw [opA_none hc hpk, hop]
 simp only [specA, callA, hcal, e2]
 have := hN n m hn hm
 simpa using this

def traceD (P : Program) (call : CallD α) (gl : Gl) (ops : Array Oper) : List Oper → List DV → DHeap → List (List DV × DHeap) → (List (List DV × DHeap) → List DV → DHeap → Option α) → Option α
 | [], τ, σ, tr, k => k (tr ++ [(τ, σ)]) τ σ
 | o :: rest, τ, σ, tr, k => stepD P call gl ops o τ σ fun τ0 τ' σ' => traceD P call gl ops rest τ' σ' (tr ++ [(τ0, σ)]) k

def wantD (ops : Array Oper) (o : Oper) (τ : List DV) : Bool :=
 match o.guard with
 | none => true
 | some (j, want) => match (ops[j]?).bind (·.dst) with
  | none => false
  | some d => match τ[d]? with
   | some (.v (.bool t)) => t == want
   | _ => true
def keepsD (pure : FuncId → Bool) (gl : Gl) (x : Oper) (τi : List DV) (y : Oper) (τj : List DV) (σj : DHeap) (ahead : Bool) : Bool :=
 match x.op with
 | .load _ a => match evalDT gl τi a with
  | .pf _ _ _ _ _ _ => ahead
  | .po id _ _ => match σj[id]? with
   | some (some _) => pureOp pure (evalDT gl τj) y || (match y.op with
    | .store _ b _ => match evalDT gl τj b with
     | .po id' _ _ => id != id'
     | _ => false
    | _ => false)
   | _ => false
  | _ => false
 | _ => false
def dynD (g : Bool) (pure : FuncId → Bool) (gl : Gl) (ops : Array Oper) (tr : List (List DV × DHeap)) : Bool :=
 let c := closeA ops.toList []
 ops.toList.zipIdx.all fun (x, i) => match tr[i]? with
  | none => false
  | some (τi, _) => if (cls x.op == 1 || cls x.op == 2) && wantD ops x τi then
    ops.toList.zipIdx.all fun (y, j) => match tr[j]? with
     | none => false
     | some (τj, σj) => if cls y.op == 3 && wantD ops y τj && !ordA c i j && !ordA c j i then
       (if cls x.op == 1 then keepsD pure gl x τi y τj σj (decide (i < j) || !g) else (decide (j ≤ i) || pureOp pure (evalDT gl τj) y)) else true
   else true

structure Tr (g : Bool) (P : Program) (st : AE.Stat) (gl : Gl) (pure : FuncId → Bool) (call : CallD α) (r : α) (ops : Array Oper) (l : List Oper) (trd : List (List DV × DHeap)) (tra : List (Array Value × Heap)) (cs : List (Cf × Mu)) : Prop where
 len1 : trd.length = l.length + 1
 len2 : tra.length = l.length + 1
 len3 : cs.length = l.length + 1
 rel : ∀ (i : Nat) d a c, trd[i]? = some d → tra[i]? = some a → cs[i]? = some c → Rl st gl c.1 c.2 a.1 a.2 d.1 d.2
 nx : ∀ (i j : Nat) d a c d' a' c', i ≤ j → trd[i]? = some d → tra[i]? = some a → cs[i]? = some c → trd[j]? = some d' → tra[j]? = some a' → cs[j]? = some c' → Nx c.1 c.2 a.2 d.2 c'.1 c'.2 a'.2 d'.2
 step : ∀ (i : Nat) o a a', l[i]? = some o → tra[i]? = some a → tra[i + 1]? = some a' → Lim (fun n m => stepA P st (runF P st n m) ops o a.1 a.2) a'
 pre : ∀ (i : Nat) o d a a', l[i]? = some o → trd[i]? = some d → tra[i]? = some a → tra[i + 1]? = some a' → Region.wanted o (yielded ops a.1) = true → pureOp pure (evalDT gl d.1) o = true → ∀ b, b < a.2.length → a'.2[b]? = a.2[b]?
 op : ∀ (i : Nat) o d a, l[i]? = some o → trd[i]? = some d → tra[i]? = some a → Region.wanted o (yielded ops a.1) = true → ∃ k', opD P call (evalDT gl d.1) o d.2 k' = some r
 one : ∀ (i : Nat) d a c d' a' c', trd[i]? = some d → tra[i]? = some a → cs[i]? = some c → trd[i + 1]? = some d' → tra[i + 1]? = some a' → cs[i + 1]? = some c' → Nx1 g c.1 c.2 a.2 d.2 c'.1 c'.2 a'.2 d'.2

theorem traceD_some {g : Bool} {call : CallD α} {pure : FuncId → Bool} {ops : Array Oper} (hcall : CallS g P st call) (hp : PureS P st call pure) {k : List (List DV × DHeap) → List DV → DHeap → Option α} :
  ∀ (l : List Oper) {C : Cf} {μ : Mu} {τ : Array Value} {σ : Heap} {τd : List DV} {σd : DHeap} {tr0 : List (List DV × DHeap)}, Rl st gl C μ τ σ τd σd → traceD P call gl ops l τd σd tr0 k = some r →
  ∃ trd tra cs τ' σ' C' μ' τd' σd', Tr g P st gl pure call r ops l trd tra cs ∧ tra[0]? = some (τ, σ) ∧ cs[0]? = some (C, μ) ∧ (∃ τ0, trd[0]? = some (τ0, σd)) ∧ Lim (fun n m => traceA P st (runF P st n m) ops l τ σ) tra ∧
   tra[l.length]? = some (τ', σ') ∧ Rl st gl C' μ' τ' σ' τd' σd' ∧ Nx1 g C μ σ σd C' μ' σ' σd' ∧ k (tr0 ++ trd) τd' σd' = some r
 | [], C, μ, τ, σ, τd, σd, tr0, h, hx => by
  refine ⟨[(τd, σd)], [(τ, σ)], [(C, μ)], τ, σ, C, μ, τd, σd, ⟨rfl, rfl, rfl, ?_, ?_, ?_, ?_, fun i o d a ho => by simp at ho, fun i d a c d' a' c' _ _ _ hd' => by simp at hd'⟩, rfl, rfl, ⟨τd, rfl⟩, .const fun _ _ => rfl, rfl, h, (Nx.refl _ _ _ _).one, hx⟩
  ·intro i d a c hd ha hc
   cases i with
   | zero => simp only [List.getElem?_cons_zero, Option.some.injEq] at hd ha hc; subst hd; subst ha; subst hc; exact h
   | succ i => simp at hd
  ·intro i j d a c d' a' c' _ hd ha hc hd' ha' hc'
   cases i with
   | succ i => simp at hd
   | zero =>
    cases j with
    | succ j => simp at hd'
    | zero => simp only [List.getElem?_cons_zero, Option.some.injEq] at hd ha hc hd' ha' hc'; subst hd; subst ha; subst hc; subst hd'; subst ha'; subst hc'; exact .refl _ _ _ _
  ·intro i o a a' ho; simp at ho
  ·intro i o d a a' ho; simp at ho
 | o :: rest, C, μ, τ, σ, τd, σd, tr0, h, hx => by
  obtain ⟨τ0, τ1, σ1, C1, μ1, τd1, σd1, h0, hN, h1, n1, hx, hop⟩ := stepD_some h hcall hx
  obtain ⟨trd, tra, cs, τ2, σ2, C2, μ2, τd2, σd2, T, e1, e2, ⟨τ10, e3⟩, hM, e4, h2, n2, hx⟩ := traceD_some hcall hp rest h1 hx
  refine ⟨(τ0, σd) :: trd, (τ, σ) :: tra, (C, μ) :: cs, τ2, σ2, C2, μ2, τd2, σd2, ⟨by simp [T.len1], by simp [T.len2], by simp [T.len3], ?_, ?_, ?_, ?_, ?_, fun i d a c d' a' c' hd ha hc hd' ha' hc' => by
   cases i with
   | zero =>
    simp only [List.getElem?_cons_zero, Option.some.injEq] at hd ha hc
    subst hd; subst ha; subst hc
    have hd' : trd[0]? = some d' := by simpa using hd'
    have ha' : tra[0]? = some a' := by simpa using ha'
    have hc' : cs[0]? = some c' := by simpa using hc'
    rw [e3] at hd'; rw [e1] at ha'; rw [e2] at hc'
    obtain rfl := Option.some.inj hd'
    obtain rfl := Option.some.inj ha'
    obtain rfl := Option.some.inj hc'
    exact n1
   | succ i => exact T.one i d a c d' a' c' (by simpa using hd) (by simpa using ha) (by simpa using hc) (by simpa using hd') (by simpa using ha') (by simpa using hc')⟩, rfl, rfl, ⟨τ0, rfl⟩, ?_, by simpa using e4, h2, n1.trans n2, by simpa using hx⟩
  ·intro i d a c hd ha hc
   cases i with
   | zero => simp only [List.getElem?_cons_zero, Option.some.injEq] at hd ha hc; subst hd; subst ha; subst hc; exact h0
   | succ i => exact T.rel i d a c (by simpa using hd) (by simpa using ha) (by simpa using hc)
  ·intro i j d a c d' a' c' hij hd ha hc hd' ha' hc'
   cases i with
   | zero =>
    simp only [List.getElem?_cons_zero, Option.some.injEq] at hd ha hc
    subst hd; subst ha; subst hc
    cases j with
    | zero => simp only [List.getElem?_cons_zero, Option.some.injEq] at hd' ha' hc'; subst hd'; subst ha'; subst hc'; exact .refl _ _ _ _
    | succ j => exact n1.toNx.trans (T.nx 0 j (τ10, σd1) (τ1, σ1) (C1, μ1) d' a' c' (by omega) e3 e1 e2 (by simpa using hd') (by simpa using ha') (by simpa using hc'))
   | succ i =>
    cases j with
    | zero => omega
    | succ j => exact T.nx i j d a c d' a' c' (by omega) (by simpa using hd) (by simpa using ha) (by simpa using hc) (by simpa using hd') (by simpa using ha') (by simpa using hc')
  ·intro i o' a a' ho ha ha'
   cases i with
   | zero =>
    simp only [List.getElem?_cons_zero, Option.some.injEq] at ho ha
    subst ho; subst ha
    have ha' : tra[0]? = some a' := by simpa using ha'
    rw [e1] at ha'
    obtain rfl := Option.some.inj ha'
    exact hN
   | succ i => exact T.step i o' a a' (by simpa using ho) (by simpa using ha) (by simpa using ha')
  ·intro i o' d a a' ho hd ha ha' hw hpu
   cases i with
   | zero =>
    simp only [List.getElem?_cons_zero, Option.some.injEq] at ho hd ha
    subst ho; subst hd; subst ha
    have ha' : tra[0]? = some a' := by simpa using ha'
    rw [e1] at ha'
    obtain rfl := Option.some.inj ha'
    obtain ⟨k', hk'⟩ := hop hw
    obtain ⟨v, σ', ⟨N', hN'⟩, hpre⟩ := pureOp_some h0 hp hpu hk'
    obtain ⟨N, hN⟩ := hN
    obtain ⟨v2, hv2⟩ := step_op (hN (max N N') (max N N') (by omega) (by omega)) hw
    have hN2 : opA P st (runF P st (max N N') (max N N')) (evalT τ) o σ = some (v, σ') := hN' (max N N') (max N N') (by omega) (by omega)
    rw [hN2] at hv2
    simp only [Option.some.injEq, Prod.mk.injEq] at hv2
    rw [← hv2.2]
    exact hpre
   | succ i => exact T.pre i o' d a a' (by simpa using ho) (by simpa using hd) (by simpa using ha) (by simpa using ha') hw hpu
  ·intro i o' d a ho hd ha hw
   cases i with
   | zero =>
    simp only [List.getElem?_cons_zero, Option.some.injEq] at ho hd ha
    subst ho; subst hd; subst ha
    exact hop hw
   | succ i => exact T.op i o' d a (by simpa using ho) (by simpa using hd) (by simpa using ha) hw
  ·obtain ⟨N, hN⟩ := hN
   obtain ⟨M, hM⟩ := hM
   refine ⟨max N M, fun n m hn hm => ?_⟩
   show traceA P st (runF P st n m) ops (o :: rest) τ σ = _
   have hN' : stepA P st (runF P st n m) ops o τ σ = some (τ1, σ1) := hN n m (by omega) (by omega)
   have hM' : traceA P st (runF P st n m) ops rest τ1 σ1 = some tra := hM n m (by omega) (by omega)
   unfold traceA
   rw [hN']
   simp only
   rw [hM']
   rfl

theorem wantD_of {ops : Array Oper} {o : Oper} (h : DRL C μ τd τ.toList) (hw : Region.wanted o (yielded ops τ) = true) : wantD ops o τd = true := by
 unfold wantD
 unfold Region.wanted at hw
 cases hg : o.guard with
 | none => rfl
 | some p =>
  obtain ⟨j, want⟩ := p
  rw [hg] at hw
  simp only at hw ⊢
  unfold yielded at hw
  cases hd : (ops[j]?).bind (·.dst) with
  | none => rw [hd] at hw; cases hw
  | some d =>
   rw [hd] at hw
   simp only [Option.bind_some] at hw ⊢
   split
   ·rename_i t ht
    obtain ⟨v, hv, hr⟩ := h.get ht
    rw [Array.getElem?_toList] at hv
    obtain rfl : v = .bool t := by cases hr; rfl
    rw [hv] at hw
    simpa using hw
   ·rfl
end
end Go.DE

namespace Go.DE
open Go Go.AE

section
variable {α : Type} {st : AE.Stat} {gl : Gl} {C : Cf} {μ : Mu} {σ : Heap} {σd : DHeap} {P : Program} {r : α} {τ : Array Value} {τd : List DV}

theorem loadN_congr {σ' : Heap} {a : Addr} {n : Nat} (h : a.spot.isSome = true ∨ σ[a.block]? = σ'[a.block]?) : loadN st σ a n = loadN st σ' a n := by
 unfold loadN
 cases hs : a.spot with
 | some s => rfl
 | none =>
  rcases h with h | h
  ·rw [hs] at h; cases h
  ·simp only [h]
theorem loadV_congr {σ' : Heap} {t : TypeId} {a : Addr} (h : a.spot.isSome = true ∨ σ[a.block]? = σ'[a.block]?) : loadV P st σ t a = loadV P st σ' t a := by
 unfold loadV
 simp only [loadN_congr h]

theorem readD_pf {t : Bool} {g : Nat → Nat → DV} {m n i f : Nat} : ∀ {N j : Nat} {k : List DV → Option α}, readD σd (.pf t g m n i f) N j k = some r → ∀ j', j ≤ j' → j' < j + N → i + (f + j') / m < n
 | 0, j, k, h, j', h1, h2 => by omega
 | N + 1, j, k, h, j', h1, h2 => by
  obtain ⟨hlt, h⟩ := dec_none h
  by_cases e : j' = j
  ·subst e; exact hlt
  ·exact readD_pf h j' (by omega) (by omega)

theorem pf_loadN {t : Bool} {g : Nat → Nat → DV} {m n i f N : Nat} {ad : Addr} (hp : DR C μ (.pf t g m n i f) (.pointer (some ad))) (hN : 0 < N) (hlt : ∀ j', j' < N → i + (f + j') / m < n) :
  ∃ l : List Value, l.length = N ∧ ∀ σ, (∀ o v, C t ad.block ad.spot o = some v → cellA st σ ⟨ad.block, 0, ad.spot⟩ o = some v) → loadN st σ ad N = some l := by
 obtain ⟨a, w, e, hk, hn, h1, h2⟩ := hp.pf_inv
 simp only [Value.pointer.injEq, Option.some.injEq] at e
 subst e
 refine ⟨(List.range N).map fun j => w (i + (f + j) / m) ((f + j) % m), by simp, fun σ hσ => loadN_intro hN (by simp) fun j v hv => ?_⟩
 rw [List.getElem?_map, Option.map_eq_some_iff] at hv
 obtain ⟨j', hj', rfl⟩ := hv
 have hjN : j < N := by have := (List.getElem?_eq_some_iff.1 hj').1; simpa using this
 rw [List.getElem?_range hjN] at hj'
 obtain rfl := Option.some.inj hj'
 have := hσ _ _ (h1 _ _ (hlt j hjN) (Nat.mod_lt (f + j) hk)).1
 have e2 := divmod_pos (i := i) (f := f) (j := j) hk
 rw [show a.off + (i + (f + j) / m) * m + (f + j) % m = a.off + i * m + f + j by omega] at this
 exact this

theorem pf_load {t : Bool} {g : Nat → Nat → DV} {m n i f : Nat} {T : TypeId} {ad : Addr} {k : DV → Option α} (hp : DR C μ (.pf t g m n i f) (.pointer (some ad))) (h : loadD P σd T (.pf t g m n i f) k = some r) :
  ∃ v, ∀ σ, (∀ o v, C t ad.block ad.spot o = some v → cellA st σ ⟨ad.block, 0, ad.spot⟩ o = some v) → loadV P st σ T ad = some v := by
 unfold loadD at h
 split at h
 ·rename_i d hd
  split at h
  ·rename_i hag
   split at h
   ·rename_i n hn
    obtain ⟨l, _, hl⟩ := pf_loadN (st := st) (N := n + 1) hp (Nat.succ_pos _) fun j' hj' => readD_pf h j' (Nat.zero_le _) (by omega)
    refine ⟨.agg l.toArray, fun σ hσ => ?_⟩
    unfold loadV
    simp only [hd, hag, if_true, hn]
    rw [show loadN st σ ad n.succ = some l from hl σ hσ]
    rfl
   ·cases h
  ·rename_i hag
   obtain ⟨hlt, _⟩ := dec_none h
   have key : ∀ j', j' < 1 → i + (f + j') / _ < _ := fun j' hj' => by
    obtain rfl : j' = 0 := by omega
    exact hlt
   obtain ⟨l, hlen, hl⟩ := pf_loadN (st := st) hp Nat.one_pos key
   match l, hlen, hl with
   | [v], _, hl =>
    refine ⟨v, fun σ hσ => ?_⟩
    unfold loadV
    simp only [hd, hag, Bool.false_eq_true, if_false, hl σ hσ]
 ·cases h

theorem loadV_out {T : TypeId} {ad : Addr} (h0 : ad.spot = none) (h1 : σ.length ≤ ad.block) : loadV P st σ T ad = none := by
 have e : ∀ n, loadN st σ ad n = none := fun n => by
  unfold loadN
  rw [h0]
  simp only [List.getElem?_eq_none h1]
 unfold loadV
 split
 ·split
  ·split
   ·rw [e]; rfl
   ·rfl
  ·rw [e]
 ·rfl
theorem op2_len {call : CallA} {o : Oper} {ev : Operand → Value} {σ' : Heap} {v : Value} (hc : cls o.op = 2) (h : opA P st call ev o σ = some (v, σ')) : σ'.length = σ.length + 1 := by
 have hcs : constsOk o.op = true := by
  unfold opA at h
  split at h
  ·assumption
  ·cases h
 cases hop : o.op
 all_goals (rw [hop] at hc)
 all_goals (first | (cases hc; done) | skip)
 case alloc e =>
  rw [opA_none hcs (peekA_peek fun u hu => absurd hu (peek_alloc hop u)), hop] at h
  simp only [specA, Option.map_eq_some_iff, Prod.mk.injEq] at h
  obtain ⟨z, _, _, rfl⟩ := h
  simp [newB]
 case box t x =>
  rw [opA_none hcs (peekA_peek fun u hu => absurd hu (peek_box hop u)), hop] at h
  simp only [specA, Option.some.injEq, Prod.mk.injEq] at h
  obtain ⟨_, rfl⟩ := h
  simp [newB]
 case buildSlice t len ps =>
  rw [opA_none hcs (peekA_peek fun u hu => absurd hu (peek_buildSlice hop u)), hop] at h
  simp only [specA, buildSliceA] at h
  repeat' split at h
  all_goals first | (cases h; done) | skip
  simp only [Option.some.injEq, Prod.mk.injEq] at h
  obtain ⟨_, rfl⟩ := h
  simp [newB]
 case makeSlice t l c =>
  rw [opA_none hcs (peekA_peek fun u hu => absurd hu (peek_makeSlice hop u)), hop] at h
  simp only [specA, makeSliceA] at h
  repeat' split at h
  all_goals first | (cases h; done) | skip
  simp only [Option.some.injEq, Prod.mk.injEq] at h
  obtain ⟨_, rfl⟩ := h
  simp [newB]
 case makeMap t q =>
  cases q with
  | some _ => cases hc
  | none =>
   rw [opA_none hcs (peekA_peek fun u hu => absurd hu (peek_makeMap hop u)), hop] at h
   simp only [specA, Option.some.injEq, Prod.mk.injEq] at h
   obtain ⟨_, rfl⟩ := h
   simp
 case call c =>
  simp only [cls] at hc
  split at hc <;> cases hc

theorem storeV_other {σ' : Heap} {t : TypeId} {a : Addr} {v : Value} (h : storeV P σ t a v = some σ') {b : Nat} (hb : b ≠ a.block) : σ'[b]? = σ[b]? := by
 unfold storeV storeN at h
 repeat' split at h
 all_goals first | (cases h; done) | skip
 obtain rfl := Option.some.inj h
 rw [List.getElem?_set_ne (fun e => hb e.symm)]

theorem opD_load {call : CallD α} {gl : Gl} {o : Oper} {T : TypeId} {a : Operand} {k : DV → DHeap → Option α} (hop : o.op = .load T a) (h : opD P call (evalDT gl τd) o σd k = some r) : loadD P σd T (evalDT gl τd a) (fun d => k d σd) = some r := by
 obtain ⟨_, h⟩ := bif_none h
 rw [hop] at h
 simp only [direct, specD] at h
 exact h
theorem opD_store {call : CallD α} {gl : Gl} {o : Oper} {T : TypeId} {a x : Operand} {k : DV → DHeap → Option α} (hop : o.op = .store T a x) (h : opD P call (evalDT gl τd) o σd k = some r) : storeD P σd T (evalDT gl τd a) (evalDT gl τd x) (fun σd' => k (.tup []) σd') = some r := by
 obtain ⟨_, h⟩ := bif_none h
 rw [hop] at h
 simp only [direct, specD] at h
 exact h

theorem dynD_ok {g : Bool} {call : CallD α} {pure : FuncId → Bool} {ops : Array Oper} {trd : List (List DV × DHeap)} {tra : List (Array Value × Heap)} {cs : List (Cf × Mu)} (T : Tr g P st gl pure call r ops ops.toList trd tra cs) (hd : dynD g pure gl ops trd = true) : DynP P st ops tra := by
 intro i j x y τi τj τk σi σj σk hx hy hti htj htk wi wj cy o1 o2
 have hi : i < ops.toList.length := by simpa using (Array.getElem?_eq_some_iff.1 hx).1
 have hj : j < ops.toList.length := by simpa using (Array.getElem?_eq_some_iff.1 hy).1
 have hx' : ops.toList[i]? = some x := by simpa using hx
 have hy' : ops.toList[j]? = some y := by simpa using hy
 obtain ⟨l1, l2, l3⟩ := And.intro T.len1 (And.intro T.len2 T.len3)
 obtain ⟨⟨di, si⟩, hdi⟩ : ∃ d, trd[i]? = some d := ⟨_, List.getElem?_eq_getElem (by omega)⟩
 obtain ⟨⟨dj, sj⟩, hdj⟩ : ∃ d, trd[j]? = some d := ⟨_, List.getElem?_eq_getElem (by omega)⟩
 obtain ⟨⟨dk, sk⟩, hdk⟩ : ∃ d, trd[j + 1]? = some d := ⟨_, List.getElem?_eq_getElem (by omega)⟩
 obtain ⟨⟨Ci, μi⟩, hci⟩ : ∃ d, cs[i]? = some d := ⟨_, List.getElem?_eq_getElem (by omega)⟩
 obtain ⟨⟨Cj, μj⟩, hcj⟩ : ∃ d, cs[j]? = some d := ⟨_, List.getElem?_eq_getElem (by omega)⟩
 obtain ⟨⟨Ck, μk⟩, hck⟩ : ∃ d, cs[j + 1]? = some d := ⟨_, List.getElem?_eq_getElem (by omega)⟩
 have ri := T.rel i _ _ _ hdi hti hci
 have rj := T.rel j _ _ _ hdj htj hcj
 have rk := T.rel (j + 1) _ _ _ hdk htk hck
 simp only at ri rj rk
 have xi := T.op i x _ _ hx' hdi hti wi
 have yj := T.op j y _ _ hy' hdj htj wj
 simp only at xi yj
 obtain ⟨ki, xi⟩ := xi
 obtain ⟨kj, yj⟩ := yj
 have wdi : wantD ops x di = true := wantD_of ri.T wi
 have wdj : wantD ops y dj = true := wantD_of rj.T wj
 have mi : (x, i) ∈ ops.toList.zipIdx := by rw [List.mem_zipIdx_iff_getElem?]; simpa using hx
 have mj : (y, j) ∈ ops.toList.zipIdx := by rw [List.mem_zipIdx_iff_getElem?]; simpa using hy
 have main : (cls x.op = 1 ∨ cls x.op = 2) → (if cls x.op == 1 then keepsD pure gl x di y dj sj (decide (i < j) || !g) else (decide (j ≤ i) || pureOp pure (evalDT gl dj) y)) = true := by
  intro hc
  unfold dynD at hd
  have h1 := List.all_eq_true.1 hd _ mi
  simp only [hdi] at h1
  have hc' : ((cls x.op == 1 || cls x.op == 2) && wantD ops x di) = true := by
   rw [wdi, Bool.and_true, Bool.or_eq_true, beq_iff_eq, beq_iff_eq]
   exact hc
  rw [if_pos hc'] at h1
  have h2 := List.all_eq_true.1 h1 _ mj
  simp only [hdj] at h2
  have hc2 : (cls y.op == 3 && wantD ops y dj && !ordA (closeA ops.toList []) i j && !ordA (closeA ops.toList []) j i) = true := by
   rw [wdj, o1, o2, cy]
   rfl
  rw [if_pos hc2] at h2
  exact h2
 refine ⟨fun hc => ?_, fun hc hij => ?_⟩
 ·have hk := main (.inl hc)
  rw [if_pos (by simp [hc])] at hk
  unfold keepsD at hk
  split at hk <;> first | (cases hk; done) | skip
  rename_i T0 a hop
  have hev := ri.ev a
  unfold loadAtA
  simp only [hop]
  split at hk <;> first | (cases hk; done) | skip
  ·rename_i tg g m n i0 f e
   rw [e] at hev
   have hl := opD_load hop xi
   rw [e] at hl
   obtain ⟨a0, e0⟩ : ∃ a0, evalT τi a = .pointer (some a0) := by
    obtain ⟨q, _, e0, _⟩ := hev.pf_inv
    exact ⟨_, e0⟩
   rw [e0] at hev
   simp only [e0]
   obtain ⟨v, hv⟩ := pf_load (st := st) hev hl
   have njk := T.nx j (j + 1) _ _ _ _ _ _ (by omega) hdj htj hcj hdk htk hck
   have key : (∀ o v, Ci tg a0.block a0.spot o = some v → Cj tg a0.block a0.spot o = some v) → loadV P st σj T0 a0 = loadV P st σk T0 a0 := fun frj => by
    rw [hv σj fun o v hcv => rj.S.frz _ _ _ _ _ (frj o v hcv), hv σk fun o v hcv => rk.S.frz _ _ _ _ _ (njk.hC _ _ _ _ _ (frj o v hcv))]
   rcases Nat.lt_or_ge i j with hij | hij
   ·exact key fun o v hcv => (T.nx i j _ _ _ _ _ _ (by omega) hdi hti hci hdj htj hcj).hC _ _ _ _ _ hcv
   ·have nji := T.nx j i _ _ _ _ _ _ hij hdj htj hcj hdi hti hci
    by_cases hB : a0.spot = none ∧ σj.length ≤ a0.block
    ·by_cases hK : σk.length ≤ a0.block
     ·rw [loadV_out hB.1 hB.2, loadV_out hB.1 hK]
     ·exfalso
      have hne : j ≠ i := fun e => by
       subst e
       rw [hx] at hy
       obtain rfl := Option.some.inj hy
       rw [hc] at cy
       cases cy
      obtain ⟨q, qw, qe, q1, q2, q3, _⟩ := hev.pf_inv
      simp only [Value.pointer.injEq, Option.some.injEq] at qe
      have fact := (q3 0 0 q2 q1).1
      have eb : a0.block = q.block := by rw [qe]
      have es : a0.spot = q.spot := by rw [qe]
      rw [← eb, ← es, hB.1] at fact
      have nki := T.nx (j + 1) i _ _ _ _ _ _ (by omega) hdk htk hck hdi hti hci
      rcases nki.old _ _ _ _ _ fact with f1 | f1
      ·rw [decide_eq_false (show ¬ i < j by omega), Bool.false_or] at hk
       have := rj.S.low _ _ _ _ ((T.one j _ _ _ _ _ _ hdj htj hcj hdk htk hck).one (by simpa using hk) _ _ _ _ _ f1)
       omega
      ·exact hK f1.2.2
    ·refine key fun o v hcv => ?_
     rcases nji.old _ _ _ _ _ hcv with f1 | f1
     ·exact f1
     ·exact absurd ⟨f1.2.1, f1.2.2⟩ hB
  ·rename_i id i0 f e
   rw [e] at hev
   obtain ⟨b, m, L, e0, hm, hk0⟩ := hev.po_inv
   simp only [e0]
   split at hk <;> first | (cases hk; done) | skip
   rename_i blk hblk
   have hmj : ∃ b0 L0 l0, μj id = some (b0, blk.k, L0) ∧ b0 = b ∧ σj[b0]? = some (some (.cells l0)) := by
    obtain ⟨b0, L0, l0, q1, q2, q3, _⟩ := rj.S.own id blk hblk
    refine ⟨b0, L0, l0, q1, ?_, q3⟩
    rcases Nat.le_total i j with hij | hij
    ·have := (T.nx i j _ _ _ _ _ _ hij hdi hti hci hdj htj hcj).hμ _ _ hm
     simp only at this
     rw [q1] at this
     simp only [Option.some.injEq, Prod.mk.injEq] at this
     exact this.1
    ·have := (T.nx j i _ _ _ _ _ _ hij hdj htj hcj hdi hti hci).hμ _ _ q1
     simp only at this
     rw [hm] at this
     simp only [Option.some.injEq, Prod.mk.injEq] at this
     exact this.1.symm
   obtain ⟨b0, L0, l0, q1, rfl, q3⟩ := hmj
   have hblt := (List.getElem?_eq_some_iff.1 q3).1
   refine loadV_congr (.inr ?_)
   show σj[b0]? = σk[b0]?
   rcases Bool.or_eq_true_iff.1 hk with hp | hs
   ·exact (T.pre j y _ _ _ hy' hdj htj htk wj hp b0 hblt).symm
   ·split at hs <;> first | (cases hs; done) | skip
    rename_i T1 b1 x1 hopy
    split at hs <;> first | (cases hs; done) | skip
    rename_i id' i1 f1 e1
    have hne : id ≠ id' := by simpa using hs
    have hst := opD_store hopy yj
    obtain ⟨ad, σ', σd', s1, s2, s3, s4, s5⟩ := storeD_some rj.S (rj.ev b1) (rj.ev x1) hst
    have hevb := rj.ev b1
    rw [e1, s1] at hevb
    obtain ⟨b2, m2, L2, e2, hm2, _⟩ := hevb.po_inv
    simp only [Value.pointer.injEq, Option.some.injEq] at e2
    obtain ⟨blk', hblk'⟩ : ∃ blk', sj[id']? = some (some blk') := by
     rw [e1] at hst
     unfold storeD at hst
     simp only at hst
     split at hst
     ·exact ⟨_, by assumption⟩
     ·cases hst
    have hbb : b0 ≠ b2 := by
     intro e
     subst e
     exact hne (rj.S.inj id id' _ _ _ _ _ hblk hblk' q1 hm2)
    obtain ⟨N, hN⟩ := T.step j y _ _ hy' htj htk
    have hN := hN N N (Nat.le_refl _) (Nat.le_refl _)
    obtain ⟨v2, hv2⟩ := step_op hN wj
    have hcs : constsOk y.op = true := by
     simp only at hv2
     unfold opA at hv2
     split at hv2
     ·assumption
     ·cases hv2
    simp only at hv2
    rw [opA_none hcs (peekA_nonflat (x := b1) (by rw [hopy]; simp [Op.operands]) (by rw [s1]; rfl)), hopy] at hv2
    simp only [specA, s1, Option.map_eq_some_iff, Prod.mk.injEq] at hv2
    obtain ⟨σ2, hσ2, _, rfl⟩ := hv2
    exact (storeV_other hσ2 (by rw [e2]; exact hbb)).symm
 ·have hk := main (.inr hc)
  rw [if_neg (by simp [hc])] at hk
  rcases Bool.or_eq_true_iff.1 hk with hle | hp
  ·have := of_decide_eq_true hle; omega
  ·obtain ⟨ti, hti1⟩ : ∃ t, tra[i + 1]? = some t := ⟨_, List.getElem?_eq_getElem (by omega)⟩
   obtain ⟨N, hN⟩ := T.step i x _ _ hx' hti hti1
   obtain ⟨v2, hv2⟩ := step_op (hN N N (Nat.le_refl _) (Nat.le_refl _)) wi
   have hl := op2_len hc hv2
   obtain ⟨d1, hd1⟩ : ∃ d, trd[i + 1]? = some d := ⟨_, List.getElem?_eq_getElem (by omega)⟩
   obtain ⟨c1, hc1⟩ : ∃ d, cs[i + 1]? = some d := ⟨_, List.getElem?_eq_getElem (by omega)⟩
   have := (T.nx (i + 1) j _ _ _ _ _ _ (by omega) hd1 hti1 hc1 hdj htj hcj).len
   simp only at hl this
   exact (T.pre j y _ _ _ hy' hdj htj htk wj hp σi.length (by simp only; omega)).symm

def drawD (g : Bool) (P : Program) (call : CallD α) (pure : FuncId → Bool) (gl : Gl) (ops : Array Oper) (τ : List DV) (σ : DHeap) (k : List DV → DHeap → Option α) : Option α :=
 bif staticP P ops then traceD P call gl ops ops.toList τ σ [] fun tr τ' σ' => bif dynD g pure gl ops tr then k τ' σ' else none else none
theorem drawD_some {g : Bool} {call : CallD α} {pure : FuncId → Bool} {ops : Array Oper} (hcall : CallS g P st call) (hp : PureS P st call pure) {k : List DV → DHeap → Option α} (h : Rl st gl C μ τ σ τd σd) (hx : drawD g P call pure gl ops τd σd k = some r) :
  ∃ τ' σ' C' μ' τd' σd', Lim (fun n m => drawA P st (runF P st n m) ops τ σ) (τ', σ') ∧ Rl st gl C' μ' τ' σ' τd' σd' ∧ Nx1 g C μ σ σd C' μ' σ' σd' ∧ k τd' σd' = some r := by
 obtain ⟨hs, hx⟩ := bif_none hx
 obtain ⟨trd, tra, cs, τ', σ', C', μ', τd', σd', T, _, _, _, ⟨N, hN⟩, e4, h2, n2, hx⟩ := traceD_some hcall hp ops.toList h hx
 obtain ⟨hd, hx⟩ := bif_none hx
 have hD := dynD_ok T (by simpa using hd)
 refine ⟨τ', σ', C', μ', τd', σd', ⟨N, fun n m hn hm => ?_⟩, h2, n2, hx⟩
 show drawA P st (runF P st n m) ops τ σ = _
 unfold drawA
 have hN' : traceA P st (runF P st n m) ops ops.toList τ σ = some tra := hN n m hn hm
 rw [if_pos hs, hN']
 have hB : dynB P st ops tra = true := by
  unfold dynB
  rw [Bool.or_eq_true]
  exact .inr (@decide_eq_true _ (Classical.propDecidable _) hD)
 simp only [hB, if_true]
 have hl := T.len2
 rw [List.getLast?_eq_getElem?, hl]
 simpa using e4
end
end Go.DE
