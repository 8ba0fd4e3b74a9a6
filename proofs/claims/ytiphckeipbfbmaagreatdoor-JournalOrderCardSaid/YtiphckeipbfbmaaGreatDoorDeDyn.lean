/-
  The symbolic evaluator: a region whose order is open.
  Conditions: the symbolic state stands for the evaluator's (Rl); the callees do what the symbolic evaluator was told of them (CallS, PureS).
-/
import Derived.Test.YtiphckeipbfbmaaGreatDoorDeRun
namespace Go.DE
open Go Go.AE

section
variable {α : Type} {st : AE.Stat} {gl : Gl} {C : Cf} {μ : Mu} {σ : Heap} {σd : DHeap} {P : Program} {r : α} {τ : Array Value} {τd : List DV}

theorem loadN_congr {σ' : Heap} {a : Addr} {n : Nat} (h : a.spot.isSome = true ∨ σ[a.block]? = σ'[a.block]?) : loadN st σ a n = loadN st σ' a n := by
  unfold loadN
  cases hs : a.spot with
  | some s => rfl
  | none =>
    rcases h with h | h
    · rw [hs] at h; cases h
    · simp only [h]
theorem loadV_congr {σ' : Heap} {t : TypeId} {a : Addr} (h : a.spot.isSome = true ∨ σ[a.block]? = σ'[a.block]?) : loadV P st σ t a = loadV P st σ' t a := by
  unfold loadV
  simp only [loadN_congr h]

theorem readD_pf {t : Bool} {g : Nat → Nat → DV} {m n i f : Nat} : ∀ {N j : Nat} {k : List DV → Option α}, readD σd (.pf t g m n i f) N j k = some r → ∀ j', j ≤ j' → j' < j + N → i + (f + j') / m < n
  | 0, j, k, h, j', h1, h2 => by omega
  | N + 1, j, k, h, j', h1, h2 => by
    obtain ⟨hlt, h⟩ := dec_none h
    by_cases e : j' = j
    · subst e; exact hlt
    · exact readD_pf h j' (by omega) (by omega)

theorem pf_loadN {t : Bool} {g : Nat → Nat → DV} {m n i f N : Nat} {ad : Addr} (hp : DR C μ (.pf t g m n i f) (.pointer (some ad))) (hN : 0 < N) (hlt : ∀ j', j' < N → i + (f + j') / m < n) :
    ∃ l : List Value, l.length = N ∧ ∀ σ, (∀ b s o v, C t b s o = some v → cellA st σ ⟨b, 0, s⟩ o = some v) → loadN st σ ad N = some l := by
  obtain ⟨a, w, e, hk, hn, h1, h2⟩ := hp.pf_inv
  simp only [Value.pointer.injEq, Option.some.injEq] at e
  subst e
  refine ⟨(List.range N).map fun j => w (i + (f + j) / m) ((f + j) % m), by simp, fun σ hσ => loadN_intro hN (by simp) fun j v hv => ?_⟩
  rw [List.getElem?_map, Option.map_eq_some_iff] at hv
  obtain ⟨j', hj', rfl⟩ := hv
  have hjN : j < N := by have := (List.getElem?_eq_some_iff.1 hj').1; simpa using this
  rw [List.getElem?_range hjN] at hj'
  obtain rfl := Option.some.inj hj'
  have := hσ _ _ _ _ (h1 _ _ (hlt j hjN) (Nat.mod_lt (f + j) hk)).1
  have e2 := divmod_pos (i := i) (f := f) (j := j) hk
  rw [show a.off + (i + (f + j) / m) * m + (f + j) % m = a.off + i * m + f + j by omega] at this
  exact this

theorem pf_load {t : Bool} {g : Nat → Nat → DV} {m n i f : Nat} {T : TypeId} {ad : Addr} {k : DV → Option α} (hp : DR C μ (.pf t g m n i f) (.pointer (some ad))) (h : loadD P σd T (.pf t g m n i f) k = some r) :
    ∃ v, ∀ σ, (∀ b s o v, C t b s o = some v → cellA st σ ⟨b, 0, s⟩ o = some v) → loadV P st σ T ad = some v := by
  unfold loadD at h
  split at h
  · rename_i d hd
    split at h
    · rename_i hag
      split at h
      · rename_i n hn
        obtain ⟨l, _, hl⟩ := pf_loadN (st := st) (N := n + 1) hp (Nat.succ_pos _) fun j' hj' => readD_pf h j' (Nat.zero_le _) (by omega)
        refine ⟨.agg l.toArray, fun σ hσ => ?_⟩
        unfold loadV
        simp only [hd, hag, if_true, hn]
        rw [show loadN st σ ad n.succ = some l from hl σ hσ]
        rfl
      · cases h
    · rename_i hag
      obtain ⟨hlt, _⟩ := dec_none h
      have key : ∀ j', j' < 1 → i + (f + j') / _ < _ := fun j' hj' => by
        obtain rfl : j' = 0 := by omega
        exact hlt
      obtain ⟨l, hlen, hl⟩ := pf_loadN (st := st) hp Nat.one_pos key
      match l, hlen, hl with
      | [v], _, hl =>
        refine ⟨v, fun σ hσ => ?_⟩
        unfold loadV
        simp only [hd, hag, Bool.false_eq_true, if_false, hl σ hσ]
  · cases h

theorem op2_len {call : CallA} {o : Oper} {ev : Operand → Value} {σ' : Heap} {v : Value} (hc : cls o.op = 2) (h : opA P st call ev o σ = some (v, σ')) : σ'.length = σ.length + 1 := by
  have hcs : constsOk o.op = true := by
    unfold opA at h
    split at h
    · assumption
    · cases h
  cases hop : o.op
  all_goals (rw [hop] at hc)
  all_goals (first | (cases hc; done) | skip)
  case alloc e =>
    rw [opA_none hcs (peekA_peek fun u hu => absurd hu (peek_alloc hop u)), hop] at h
    simp only [specA, Option.map_eq_some_iff, Prod.mk.injEq] at h
    obtain ⟨z, _, _, rfl⟩ := h
    simp [newB]
  case box t x =>
    rw [opA_none hcs (peekA_peek fun u hu => absurd hu (peek_box hop u)), hop] at h
    simp only [specA, Option.some.injEq, Prod.mk.injEq] at h
    obtain ⟨_, rfl⟩ := h
    simp [newB]
  case buildSlice t len ps =>
    rw [opA_none hcs (peekA_peek fun u hu => absurd hu (peek_buildSlice hop u)), hop] at h
    simp only [specA, buildSliceA] at h
    repeat' split at h
    all_goals first | (cases h; done) | skip
    simp only [Option.some.injEq, Prod.mk.injEq] at h
    obtain ⟨_, rfl⟩ := h
    simp [newB]
  case makeSlice t l c =>
    rw [opA_none hcs (peekA_peek fun u hu => absurd hu (peek_makeSlice hop u)), hop] at h
    simp only [specA, makeSliceA] at h
    repeat' split at h
    all_goals first | (cases h; done) | skip
    simp only [Option.some.injEq, Prod.mk.injEq] at h
    obtain ⟨_, rfl⟩ := h
    simp [newB]
  case call c =>
    simp only [cls] at hc
    split at hc <;> cases hc

theorem storeV_other {σ' : Heap} {t : TypeId} {a : Addr} {v : Value} (h : storeV P σ t a v = some σ') {b : Nat} (hb : b ≠ a.block) : σ'[b]? = σ[b]? := by
  unfold storeV storeN at h
  repeat' split at h
  all_goals first | (cases h; done) | skip
  obtain rfl := Option.some.inj h
  rw [List.getElem?_set_ne (fun e => hb e.symm)]

theorem opD_load {call : CallD α} {gl : Gl} {o : Oper} {T : TypeId} {a : Operand} {k : DV → DHeap → Option α} (hop : o.op = .load T a) (h : opD P call (evalDT gl τd) o σd k = some r) : loadD P σd T (evalDT gl τd a) (fun d => k d σd) = some r := by
  obtain ⟨_, h⟩ := bif_none h
  rw [hop] at h
  simp only [direct, specD] at h
  exact h
theorem opD_store {call : CallD α} {gl : Gl} {o : Oper} {T : TypeId} {a x : Operand} {k : DV → DHeap → Option α} (hop : o.op = .store T a x) (h : opD P call (evalDT gl τd) o σd k = some r) : storeD P σd T (evalDT gl τd a) (evalDT gl τd x) (fun σd' => k (.tup []) σd') = some r := by
  obtain ⟨_, h⟩ := bif_none h
  rw [hop] at h
  simp only [direct, specD] at h
  exact h

theorem dynD_ok {call : CallD α} {pure : FuncId → Bool} {ops : Array Oper} {trd : List (List DV × DHeap)} {tra : List (Array Value × Heap)} {cs : List (Cf × Mu)} (T : Tr P st gl pure call r ops ops.toList trd tra cs) (hd : dynD pure gl ops trd = true) : DynP P st ops tra := by
  intro i j x y τi τj τk σi σj σk hx hy hti htj htk wi wj cy o1 o2
  have hi : i < ops.toList.length := by simpa using (Array.getElem?_eq_some_iff.1 hx).1
  have hj : j < ops.toList.length := by simpa using (Array.getElem?_eq_some_iff.1 hy).1
  have hx' : ops.toList[i]? = some x := by simpa using hx
  have hy' : ops.toList[j]? = some y := by simpa using hy
  obtain ⟨l1, l2, l3⟩ := And.intro T.len1 (And.intro T.len2 T.len3)
  obtain ⟨⟨di, si⟩, hdi⟩ : ∃ d, trd[i]? = some d := ⟨_, List.getElem?_eq_getElem (by omega)⟩
  obtain ⟨⟨dj, sj⟩, hdj⟩ : ∃ d, trd[j]? = some d := ⟨_, List.getElem?_eq_getElem (by omega)⟩
  obtain ⟨⟨dk, sk⟩, hdk⟩ : ∃ d, trd[j + 1]? = some d := ⟨_, List.getElem?_eq_getElem (by omega)⟩
  obtain ⟨⟨Ci, μi⟩, hci⟩ : ∃ d, cs[i]? = some d := ⟨_, List.getElem?_eq_getElem (by omega)⟩
  obtain ⟨⟨Cj, μj⟩, hcj⟩ : ∃ d, cs[j]? = some d := ⟨_, List.getElem?_eq_getElem (by omega)⟩
  obtain ⟨⟨Ck, μk⟩, hck⟩ : ∃ d, cs[j + 1]? = some d := ⟨_, List.getElem?_eq_getElem (by omega)⟩
  have ri := T.rel i _ _ _ hdi hti hci
  have rj := T.rel j _ _ _ hdj htj hcj
  have rk := T.rel (j + 1) _ _ _ hdk htk hck
  simp only at ri rj rk
  have xi := T.op i x _ _ hx' hdi hti wi
  have yj := T.op j y _ _ hy' hdj htj wj
  simp only at xi yj
  obtain ⟨ki, xi⟩ := xi
  obtain ⟨kj, yj⟩ := yj
  have wdi : wantD ops x di = true := wantD_of ri.T wi
  have wdj : wantD ops y dj = true := wantD_of rj.T wj
  have mi : (x, i) ∈ ops.toList.zipIdx := by rw [List.mem_zipIdx_iff_getElem?]; simpa using hx
  have mj : (y, j) ∈ ops.toList.zipIdx := by rw [List.mem_zipIdx_iff_getElem?]; simpa using hy
  have main : (cls x.op = 1 ∨ cls x.op = 2) → (if cls x.op == 1 then keepsD pure gl x di y dj sj else (decide (j ≤ i) || pureOp pure (evalDT gl dj) y)) = true := by
    intro hc
    unfold dynD at hd
    have h1 := List.all_eq_true.1 hd _ mi
    simp only [hdi] at h1
    have hc' : ((cls x.op == 1 || cls x.op == 2) && wantD ops x di) = true := by
      rw [wdi, Bool.and_true, Bool.or_eq_true, beq_iff_eq, beq_iff_eq]
      exact hc
    rw [if_pos hc'] at h1
    have h2 := List.all_eq_true.1 h1 _ mj
    simp only [hdj] at h2
    have hc2 : (cls y.op == 3 && wantD ops y dj && !ordA (closeA ops.toList []) i j && !ordA (closeA ops.toList []) j i) = true := by
      rw [wdj, o1, o2, cy]
      rfl
    rw [if_pos hc2] at h2
    exact h2
  refine ⟨fun hc => ?_, fun hc hij => ?_⟩
  · have hk := main (.inl hc)
    rw [if_pos (by simp [hc])] at hk
    unfold keepsD at hk
    split at hk <;> first | (cases hk; done) | skip
    rename_i T0 a hop
    have hev := ri.ev a
    unfold loadAtA
    simp only [hop]
    split at hk <;> first | (cases hk; done) | skip
    · rename_i tg g m n i0 f e
      rw [e] at hev
      have hl := opD_load hop xi
      rw [e] at hl
      obtain ⟨a0, w0, e0, _⟩ := hev.pf_inv
      rw [e0] at hev
      simp only [e0]
      obtain ⟨v, hv⟩ := pf_load (st := st) hev hl
      have frj : ∀ b s o v, Ci tg b s o = some v → Cj tg b s o = some v := by
        intro b s o v hcv
        rcases Nat.le_total i j with hij | hij
        · exact (T.nx i j _ _ _ _ _ _ hij hdi hti hci hdj htj hcj).hC _ _ _ _ _ hcv
        · exact (T.nx j i _ _ _ _ _ _ hij hdj htj hcj hdi hti hci).old _ _ _ _ _ hcv
      have njk := T.nx j (j + 1) _ _ _ _ _ _ (by omega) hdj htj hcj hdk htk hck
      rw [hv σj fun b s o v hcv => rj.S.frz _ _ _ _ _ (frj b s o v hcv), hv σk fun b s o v hcv => rk.S.frz _ _ _ _ _ (njk.hC _ _ _ _ _ (frj b s o v hcv))]
    · rename_i id i0 f e
      rw [e] at hev
      obtain ⟨b, m, L, e0, hm, hk0⟩ := hev.po_inv
      simp only [e0]
      split at hk <;> first | (cases hk; done) | skip
      rename_i blk hblk
      have hmj : ∃ b0 L0 l0, μj id = some (b0, blk.k, L0) ∧ b0 = b ∧ σj[b0]? = some (some (.cells l0)) := by
        obtain ⟨b0, L0, l0, q1, q2, q3, _⟩ := rj.S.own id blk hblk
        refine ⟨b0, L0, l0, q1, ?_, q3⟩
        rcases Nat.le_total i j with hij | hij
        · have := (T.nx i j _ _ _ _ _ _ hij hdi hti hci hdj htj hcj).hμ _ _ hm
          simp only at this
          rw [q1] at this
          simp only [Option.some.injEq, Prod.mk.injEq] at this
          exact this.1
        · have := (T.nx j i _ _ _ _ _ _ hij hdj htj hcj hdi hti hci).hμ _ _ q1
          simp only at this
          rw [hm] at this
          simp only [Option.some.injEq, Prod.mk.injEq] at this
          exact this.1.symm
      obtain ⟨b0, L0, l0, q1, rfl, q3⟩ := hmj
      have hblt := (List.getElem?_eq_some_iff.1 q3).1
      refine loadV_congr (.inr ?_)
      show σj[b0]? = σk[b0]?
      rcases Bool.or_eq_true_iff.1 hk with hp | hs
      · exact (T.pre j y _ _ _ hy' hdj htj htk wj hp b0 hblt).symm
      · split at hs <;> first | (cases hs; done) | skip
        rename_i T1 b1 x1 hopy
        split at hs <;> first | (cases hs; done) | skip
        rename_i id' i1 f1 e1
        have hne : id ≠ id' := by simpa using hs
        have hst := opD_store hopy yj
        obtain ⟨ad, σ', σd', s1, s2, s3, s4, s5⟩ := storeD_some rj.S (rj.ev b1) (rj.ev x1) hst
        have hevb := rj.ev b1
        rw [e1, s1] at hevb
        obtain ⟨b2, m2, L2, e2, hm2, _⟩ := hevb.po_inv
        simp only [Value.pointer.injEq, Option.some.injEq] at e2
        obtain ⟨blk', hblk'⟩ : ∃ blk', sj[id']? = some (some blk') := by
          rw [e1] at hst
          unfold storeD at hst
          simp only at hst
          split at hst
          · exact ⟨_, by assumption⟩
          · cases hst
        have hbb : b0 ≠ b2 := by
          intro e
          subst e
          exact hne (rj.S.inj id id' _ _ _ _ _ hblk hblk' q1 hm2)
        obtain ⟨N, hN⟩ := T.step j y _ _ hy' htj htk
        have hN := hN N N (Nat.le_refl _) (Nat.le_refl _)
        obtain ⟨v2, hv2⟩ := step_op hN wj
        have hcs : constsOk y.op = true := by
          simp only at hv2
          unfold opA at hv2
          split at hv2
          · assumption
          · cases hv2
        simp only at hv2
        rw [opA_none hcs (peekA_nonflat (x := b1) (by rw [hopy]; simp [Op.operands]) (by rw [s1]; rfl)), hopy] at hv2
        simp only [specA, s1, Option.map_eq_some_iff, Prod.mk.injEq] at hv2
        obtain ⟨σ2, hσ2, _, rfl⟩ := hv2
        exact (storeV_other hσ2 (by rw [e2]; exact hbb)).symm
  · have hk := main (.inr hc)
    rw [if_neg (by simp [hc])] at hk
    rcases Bool.or_eq_true_iff.1 hk with hle | hp
    · have := of_decide_eq_true hle; omega
    · obtain ⟨ti, hti1⟩ : ∃ t, tra[i + 1]? = some t := ⟨_, List.getElem?_eq_getElem (by omega)⟩
      obtain ⟨N, hN⟩ := T.step i x _ _ hx' hti hti1
      obtain ⟨v2, hv2⟩ := step_op (hN N N (Nat.le_refl _) (Nat.le_refl _)) wi
      have hl := op2_len hc hv2
      obtain ⟨d1, hd1⟩ : ∃ d, trd[i + 1]? = some d := ⟨_, List.getElem?_eq_getElem (by omega)⟩
      obtain ⟨c1, hc1⟩ : ∃ d, cs[i + 1]? = some d := ⟨_, List.getElem?_eq_getElem (by omega)⟩
      have := (T.nx (i + 1) j _ _ _ _ _ _ (by omega) hd1 hti1 hc1 hdj htj hcj).len
      simp only at hl this
      exact (T.pre j y _ _ _ hy' hdj htj htk wj hp σi.length (by simp only; omega)).symm

/-- A region whose order is open. -/
def drawD (P : Program) (call : CallD α) (pure : FuncId → Bool) (gl : Gl) (ops : Array Oper) (τ : List DV) (σ : DHeap) (k : List DV → DHeap → Option α) : Option α :=
  bif staticP P ops then traceD P call gl ops ops.toList τ σ [] fun tr τ' σ' => bif dynD pure gl ops tr then k τ' σ' else none else none
theorem drawD_some {call : CallD α} {pure : FuncId → Bool} {ops : Array Oper} (hcall : CallS P st call) (hp : PureS P st call pure) {k : List DV → DHeap → Option α} (h : Rl st gl C μ τ σ τd σd) (hx : drawD P call pure gl ops τd σd k = some r) :
    ∃ τ' σ' C' μ' τd' σd', Lim (fun n m => drawA P st (runF P st n m) ops τ σ) (τ', σ') ∧ Rl st gl C' μ' τ' σ' τd' σd' ∧ Nx C μ σ σd C' μ' σ' σd' ∧ k τd' σd' = some r := by
  obtain ⟨hs, hx⟩ := bif_none hx
  obtain ⟨trd, tra, cs, τ', σ', C', μ', τd', σd', T, _, _, _, ⟨N, hN⟩, e4, h2, n2, hx⟩ := traceD_some hcall hp ops.toList h hx
  obtain ⟨hd, hx⟩ := bif_none hx
  have hD := dynD_ok T (by simpa using hd)
  refine ⟨τ', σ', C', μ', τd', σd', ⟨N, fun n m hn hm => ?_⟩, h2, n2, hx⟩
  show drawA P st (runF P st n m) ops τ σ = _
  unfold drawA
  have hN' : traceA P st (runF P st n m) ops ops.toList τ σ = some tra := hN n m hn hm
  rw [if_pos hs, hN']
  have hB : dynB P st ops tra = true := by
    unfold dynB
    rw [Bool.or_eq_true]
    exact .inr (@decide_eq_true _ (Classical.propDecidable _) hD)
  simp only [hB, if_true]
  have hl := T.len2
  rw [List.getLast?_eq_getElem?, hl]
  simpa using e4
end
end Go.DE
