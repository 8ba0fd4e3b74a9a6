/-
  A region whose order is open: whatever order its edges allow, it comes to what the evaluator says (the proof).
  Conditions: what is known of the old blocks is so (GoodSt); the callees do what the evaluator was told of them; the program follows mixed orders.
-/
import Derived.Test.YtiphckeipbfbmaaGreatDoorAeOrd
namespace Go.AE
open Go Go.RowKit

section
variable {P : Program} {w0 : World} {st : AE.Stat} {call : CallA} {ops : Array Oper} {n : Nat} {o : Nat → Oper} {T : Nat → Array Value} {S : Nat → Heap} {c : List Nat}

def Lst (listed : Array Bool) (i : Nat) : Prop := listed.getD i false = true

theorem Rel.congr {ρ : Ren} {H H' : HF} {w : World} (h : Rel w0 ρ H w) (e : ∀ id blk, ρ id ≠ none → H' id = some blk → H id = some blk) : Rel w0 ρ H' w :=
  ⟨h.below, h.dyn, fun id b base n blk e1 e2 => h.cont id b base n blk e1 (e id blk (by rw [e1]; simp) e2),
    fun i j b x y x' y' bi bj e1 e2 e3 e4 => h.inj i j b x y x' y' bi bj e1 e2 (e _ _ (by rw [e1]; simp) e3) (e _ _ (by rw [e2]; simp) e4)⟩
theorem Fr.congr {ρ ρ' : Ren} {H0 H H' : HF} {w w' : World} (h : Fr ρ H0 w ρ' H w') (e : ∀ id blk, ρ' id ≠ none → H' id = some blk → H id = some blk) : Fr ρ H0 w ρ' H' w' :=
  ⟨h.size, h.fr, fun b ⟨id, x, y, blk, e1, e2⟩ hb => h.img b ⟨id, x, y, blk, e1, e id blk (by rw [e1]; simp) e2⟩ hb⟩
theorem Fr.congr_left {ρ ρ' : Ren} {H0 H0' H : HF} {w w' : World} (h : Fr ρ H0 w ρ' H w') (e : ∀ id blk, ρ id ≠ none → H0 id = some blk → H0' id = some blk) : Fr ρ H0' w ρ' H w' :=
  ⟨h.size, fun b hb hi => h.fr b hb fun ⟨id, x, y, blk, e1, e2⟩ => hi ⟨id, x, y, blk, e1, e id blk (by rw [e1]; simp) e2⟩,
    fun b hi hb => let ⟨id, x, y, blk, e1, e2⟩ := h.img b hi hb; ⟨id, x, y, blk, e1, e id blk (by rw [e1]; simp) e2⟩⟩

theorem Reg.len (R : Reg P st call ops n o T S c) (hcall : CallOk P w0 call) {i : Nat} (hi : i < n) : (S i).length ≤ (S (i + 1)).length := stepA_len hcall (R.step i hi)
theorem Reg.mono (R : Reg P st call ops n o T S c) (hcall : CallOk P w0 call) {i j : Nat} (hij : i ≤ j) (hj : j ≤ n) : (S i).length ≤ (S j).length := by
  induction j with
  | zero => obtain rfl : i = 0 := by omega
            exact Nat.le_refl _
  | succ j ih =>
    by_cases h : i = j + 1
    · rw [h]; exact Nat.le_refl _
    · exact Nat.le_trans (ih (by omega) (by omega)) (R.len hcall (by omega))

/-- A step that is no chained one, or is passed over: the heap grows at its end by one block at most. -/
theorem Reg.quiet (R : Reg P st call ops n o T S c) {i : Nat} (hi : i < n) (h : cls (o i).op ≠ 3 ∨ Region.wanted (o i) (yielded ops (T i)) = false) : S (i + 1) = S i ∨ ∃ b, S (i + 1) = S i ++ [b] := by
  obtain ⟨_, ⟨hw, v, hv, _⟩ | ⟨_, _, hs⟩⟩ := step_cases (R.step i hi)
  · have hc : cls (o i).op ≠ 3 := h.resolve_right (by rw [hw]; simp)
    rcases opA_cls (R.cv i hi) hc hv with ⟨hs, _⟩ | ⟨_, hs, _⟩ | ⟨_, b, hs, _⟩
    · exact .inl hs
    · exact .inl hs
    · exact .inr ⟨b, hs⟩
  · exact .inl hs
theorem Reg.hp_quiet (R : Reg P st call ops n o T S c) {i : Nat} (hi : i < n) (h : cls (o i).op ≠ 3 ∨ Region.wanted (o i) (yielded ops (T i)) = false) {id : Nat} (hid : id < (S i).length) : hp (S (i + 1)) id = hp (S i) id := by
  rcases R.quiet hi h with e | ⟨b, e⟩
  · rw [e]
  · rw [e]; exact hp_old _ _ (by omega)
theorem Reg.adv (R : Reg P st call ops n o T S c) (hcall : CallOk P w0 call) {i j : Nat} (hij : i ≤ j) (hj : j ≤ n) (h : ∀ k, i ≤ k → k < j → cls (o k).op ≠ 3 ∨ Region.wanted (o k) (yielded ops (T k)) = false) {id : Nat} (hid : id < (S i).length) : hp (S j) id = hp (S i) id := by
  induction j with
  | zero => obtain rfl : i = 0 := by omega
            rfl
  | succ j ih =>
    by_cases e : i = j + 1
    · rw [e]
    · rw [R.hp_quiet (by omega) (h j (by omega) (by omega)) (Nat.lt_of_lt_of_le hid (R.mono hcall (by omega) (by omega)))]
      exact ih (by omega) (by omega) fun k a b => h k a (by omega)

theorem Reg.tsize (R : Reg P st call ops n o T S c) : ∀ m, m ≤ n → (T m).size = (T 0).size := by
  intro m
  induction m with
  | zero => intro _; rfl
  | succ m ih =>
    intro hm
    have : (T (m + 1)).size = (T m).size := by
      obtain ⟨_, ⟨_, v, _, ht⟩ | ⟨_, ht, _⟩⟩ := step_cases (R.step m (by omega))
      · rw [ht]; cases (o m).dst <;> simp [putT]
      · rw [ht]; cases (o m).dst <;> simp [putT]
    rw [this, ih (by omega)]
theorem Reg.tkeep (R : Reg P st call ops n o T S c) {t : Nat} {i j : Nat} (hij : i ≤ j) (hj : j ≤ n) (h : ∀ k, i ≤ k → k < j → (o k).dst ≠ some t) : (T j)[t]? = (T i)[t]? := by
  induction j with
  | zero => obtain rfl : i = 0 := by omega
            rfl
  | succ j ih =>
    by_cases e : i = j + 1
    · rw [e]
    · have ih := ih (by omega) (by omega) fun k a b => h k a (by omega)
      rw [← ih]
      have hne := h j (by omega) (by omega)
      have key : ∀ v, (putT (T j) (o j).dst v)[t]? = (T j)[t]? := by
        intro v
        cases hd : (o j).dst with
        | none => rfl
        | some d =>
          have : d ≠ t := fun e => hne (by rw [hd, e])
          simp [putT, Array.getElem?_setIfInBounds_ne this]
      obtain ⟨_, ⟨_, v, _, ht⟩ | ⟨_, ht, _⟩⟩ := step_cases (R.step j (by omega))
      · rw [ht]; exact key v
      · rw [ht]; exact key undef

/-- The state in the middle of a region, whatever order has been taken. -/
structure Inv (P : Program) (w0 : World) (ops : Array Oper) (n : Nat) (o : Nat → Oper) (T : Nat → Array Value) (S : Nat → Heap) (ρ0 : Ren) (wI : World) (aI : Act) (listed : Array Bool) (a : Act) (w : World) (ρ : Ren) (cur : HF) (r : Nat) : Prop where
  hsz : listed.size = n
  dc : ∀ i, i < n → Lst listed i → ∀ k ∈ predsA (o i), Lst listed k
  r_le : r ≤ n
  ch : ∀ i, i < n → cls (o i).op = 3 → (Lst listed i ↔ i < r)
  rel : Rel w0 ρ cur w
  c1 : ∀ id, id < (S r).length → ρ id ≠ none → cur id = hp (S r) id
  c2 : ∀ i, i < n → Lst listed i → r ≤ i → ∀ id, (S i).length ≤ id → id < (S (i + 1)).length → ρ id ≠ none → cur id = hp (S (i + 1)) id
  c4 : ∀ id, (S n).length ≤ id → cur id = none
  mp : ∀ id, ρ id ≠ none → id < (S 0).length ∨ (S n).length ≤ id ∨ ∃ i, i < n ∧ Lst listed i ∧ (S i).length ≤ id ∧ id < (S (i + 1)).length
  ext : Ext ρ0 ρ (S 0).length (S n).length
  fr : Fr ρ0 (hp (S 0)) wI ρ cur w
  tsz : a.tmps.size = (T 0).size
  tmp : ∀ t m, m ≤ n → (∀ i, i < n → (o i).dst = some t → (Lst listed i ↔ i < m)) → ∀ v, (T m)[t]? = some v → ∃ v', a.tmps[t]? = some v' ∧ VR ρ v v'
  dfr : a.defers = aI.defers

variable {ρ0 : Ren} {wI : World} {aI : Act} {listed : Array Bool} {a : Act} {w : World} {ρ : Ren} {cur : HF} {r : Nat}

theorem lst_set {i k : Nat} (hi : i < listed.size) : Lst (listed.setIfInBounds i true) k ↔ k = i ∨ Lst listed k := by
  unfold Lst
  by_cases h : i = k
  · subst h
    simp [hi]
  · rw [getD_set_ne false h]
    exact ⟨fun x => .inr x, fun x => x.resolve_left (fun e => h e.symm)⟩

/-- What is common to all steps: from the state ahead of operation i to the one behind it. -/
theorem Inv.next (R : Reg P st call ops n o T S c) (_hcall : CallOk P w0 call) (I : Inv P w0 ops n o T S ρ0 wI aI listed a w ρ cur r) {i : Nat} (hi : i < n) (hun : ¬ Lst listed i) (hrd : ∀ k ∈ predsA (o i), Lst listed k)
    {v v' : Value} {w1 : World} {ρ1 : Ren} {cur1 : HF} (hrel : Rel w0 ρ1 cur1 w1) (hle : ρ.le ρ1) (hext : Ext ρ ρ1 (S 0).length (S n).length) (hmp : ∀ id, ρ1 id ≠ none → ρ id ≠ none ∨ ((S i).length ≤ id ∧ id < (S (i + 1)).length)) (hfr : Fr ρ cur w ρ1 cur1 w1)
    (hv : VR ρ1 v v') (hT : T (i + 1) = putT (T i) (o i).dst v)
    (h1 : ∀ id, id < (S (if cls (o i).op = 3 then i + 1 else r)).length → ρ1 id ≠ none → cur1 id = hp (S (if cls (o i).op = 3 then i + 1 else r)) id)
    (h2 : ∀ k, k < n → (k = i ∨ Lst listed k) → (if cls (o i).op = 3 then i + 1 else r) ≤ k → ∀ id, (S k).length ≤ id → id < (S (k + 1)).length → ρ1 id ≠ none → cur1 id = hp (S (k + 1)) id)
    (h4 : ∀ id, (S n).length ≤ id → cur1 id = none) :
    Inv P w0 ops n o T S ρ0 wI aI (listed.setIfInBounds i true) (a.put (o i).dst v') w1 ρ1 cur1 (if cls (o i).op = 3 then i + 1 else r) := by
  have hi' : i < listed.size := by rw [I.hsz]; exact hi
  have hclo : ∀ j, j < n → Lst listed j → ∀ k, ordA c k j = true → Lst listed k := fun j hj hl => R.closed (L := Lst listed) I.dc j hj (I.dc j hj hl)
  have hcli : ∀ k, ordA c k i = true → Lst listed k := R.closed (L := Lst listed) I.dc i hi hrd
  refine ⟨by simp [I.hsz], ?_, ?_, ?_, hrel, h1, ?_, h4, ?_, ?_, I.fr.trans hfr, ?_, ?_, ?_⟩
  · intro k hk hl q hq
    rw [lst_set hi'] at hl ⊢
    rcases hl with rfl | hl
    · exact .inr (hrd q hq)
    · exact .inr (I.dc k hk hl q hq)
  · split
    · omega
    · exact I.r_le
  · intro k hk ck
    rw [lst_set hi']
    split
    · rename_i ci
      constructor
      · rintro (rfl | hl)
        · omega
        · rcases Nat.lt_or_ge i k with h | h
          · exact absurd (hclo k hk hl i (R.chain i k h hk ci ck)) hun
          · omega
      · intro h
        rcases Nat.lt_or_ge k i with h' | h'
        · exact .inr (hcli k (R.chain k i h' hi ck ci))
        · exact .inl (by omega)
    · rename_i ci
      rw [← I.ch k hk ck]
      exact ⟨fun h => h.resolve_left (fun e => ci (e ▸ ck)), .inr⟩
  · intro k hk hl
    rw [lst_set hi'] at hl
    exact h2 k hk hl
  · intro id hid
    rcases hmp id hid with h | h
    · rcases I.mp id h with h | h | ⟨k, hk, hl, hx⟩
      · exact .inl h
      · exact .inr (.inl h)
      · exact .inr (.inr ⟨k, hk, by rw [lst_set hi']; exact .inr hl, hx⟩)
    · exact .inr (.inr ⟨i, hi, by rw [lst_set hi']; exact .inl rfl, h⟩)
  · intro id hid
    exact (hext id hid).trans (I.ext id hid)
  · rw [← I.tsz]
    cases (o i).dst <;> simp [Act.put]
  · intro t m hm hwr u hu
    by_cases hd : (o i).dst = some t
    · have him : i < m := (hwr i hi hd).1 (by rw [lst_set hi']; exact .inl rfl)
      have hno : ∀ k, i + 1 ≤ k → k < m → (o k).dst ≠ some t := by
        intro k h1 h2 hk
        have hl := (hwr k (by omega) hk).2 h2
        rw [lst_set hi'] at hl
        have hl := hl.resolve_left (by omega)
        rcases R.tmp i k (by omega) (by omega) with ⟨ha, _⟩ | ho
        · exact (Oper.apart_spec ha).2.1 t hd hk
        · exact hun (hclo k (by omega) hl i ho)
      rw [R.tkeep him hm hno, hT] at hu
      have hlt : t < (T i).size := by
        have := (Array.getElem?_eq_some_iff.1 hu).1
        rw [hd] at this
        simpa [putT] using this
      have eu : u = v := by
        rw [hd] at hu
        simp [putT, hlt] at hu
        exact hu.symm
      subst eu
      refine ⟨v', ?_, hv⟩
      have hlt' : t < a.tmps.size := by rw [I.tsz, ← R.tsize i (by omega)]; exact hlt
      rw [hd]
      simp [Act.put, hlt']
    · have hwr' : ∀ k, k < n → (o k).dst = some t → (Lst listed k ↔ k < m) := by
        intro k hk hkd
        rw [← hwr k hk hkd, lst_set hi']
        exact ⟨.inr, fun h => h.resolve_left (fun e => hd (e ▸ hkd))⟩
      obtain ⟨u', h5, h6⟩ := I.tmp t m hm hwr' u hu
      refine ⟨u', ?_, h6.mono hle⟩
      cases hdd : (o i).dst with
      | none => exact h5
      | some d =>
        have : d ≠ t := fun e => hd (by rw [hdd, e])
        simp [Act.put, Array.getElem?_setIfInBounds_ne this, h5]
  · rw [← I.dfr]
    cases (o i).dst <;> rfl

/-- What the operation at hand looks at stands as it stood in the order of the text. -/
theorem Inv.looks (R : Reg P st call ops n o T S c) (I : Inv P w0 ops n o T S ρ0 wI aI listed a w ρ cur r) {i : Nat} (hi : i < n) (hun : ¬ Lst listed i) (hrd : ∀ k ∈ predsA (o i), Lst listed k) {t : Nat}
    (ht : t ∈ (o i).looksAt ops) : ∀ v, (T i)[t]? = some v → ∃ v', a.tmps[t]? = some v' ∧ VR ρ v v' := by
  refine I.tmp t i (by omega) fun k hk hd => ?_
  rcases Nat.lt_trichotomy k i with h | h | h
  · refine ⟨fun _ => h, fun _ => ?_⟩
    rcases R.tmp k i h hi with ⟨ha, _⟩ | ho
    · exact absurd ht ((Oper.apart_spec ha).1 t hd)
    · exact R.closed (L := Lst listed) I.dc i hi hrd k ho
  · subst h
    exact ⟨fun h => absurd h hun, fun h => by omega⟩
  · refine ⟨fun hl => ?_, fun h' => by omega⟩
    rcases R.tmp i k h hk with ⟨ha, _⟩ | ho
    · exact absurd ht ((Oper.apart_spec ha).2.2 t hd)
    · exact absurd (R.closed (L := Lst listed) I.dc k hk (I.dc k hk hl) i ho) hun

theorem evalT_looks {τ : Array Value} {x : Operand} (hs : τ.size = a.tmps.size) (h : ∀ t, x = .tmp t → ∀ v, τ[t]? = some v → ∃ v', a.tmps[t]? = some v' ∧ VR ρ v v') (hx : ∀ v, x = .const v → flat v = true) : VR ρ (evalT τ x) (a.eval x) := by
  cases x with
  | tmp t =>
    simp only [evalT, Act.eval]
    by_cases ht : t < τ.size
    · obtain ⟨v', h1, h2⟩ := h t rfl _ (Array.getElem?_eq_getElem ht)
      rw [Array.getD_eq_getD_getElem?, Array.getD_eq_getD_getElem?, Array.getElem?_eq_getElem ht, h1]
      exact h2
    · have ht' : ¬ t < a.tmps.size := by rw [← hs]; exact ht
      rw [Array.getD_eq_getD_getElem?, Array.getD_eq_getD_getElem?, Array.getElem?_eq_none (Nat.le_of_not_lt ht), Array.getElem?_eq_none (Nat.le_of_not_lt ht')]
      exact flat_VR ρ rfl
  | const v => exact flat_VR ρ (hx v rfl)
  | global g => exact .ptr _ _ ⟨rfl, .inl ⟨0, rfl, rfl, rfl⟩⟩
  | func f => exact .func _ _ _ _ _ rfl rfl (fun i v v' hv => by simp at hv) (fun i v v' hv => by simp at hv)

theorem guard_looks {x : Oper} {τ τ' : Array Value} (hs : τ.size = τ'.size) (h : ∀ t ∈ x.looksAt ops, ∀ v, τ[t]? = some v → ∃ v', τ'[t]? = some v' ∧ VR ρ v v') (hg : guardOk ops x τ = true) :
    Region.wanted x (yielded ops τ') = Region.wanted x (yielded ops τ) := by
  unfold guardOk at hg
  unfold Region.wanted
  cases hgd : x.guard with
  | none => rfl
  | some p =>
    obtain ⟨j, want⟩ := p
    simp only [hgd] at hg ⊢
    congr 1
    unfold yielded
    cases hd : (ops[j]?).bind (·.dst) with
    | none => rfl
    | some d =>
      have hin : d ∈ x.looksAt ops := by
        unfold Oper.looksAt
        rw [hgd]
        simp [hd]
      simp only [hd, Option.bind_some] at hg ⊢
      cases hv : τ[d]? with
      | none =>
        have : τ'[d]? = none := by
          rw [Array.getElem?_eq_none_iff] at hv ⊢
          rw [← hs]; exact hv
        rw [this]
      | some v =>
        obtain ⟨v', hv', hr⟩ := h d hin v hv
        rw [hv']
        rw [hv] at hg
        cases hr <;> first | rfl | simp at hg

/-- Behind all chained operations ahead of number i: what is known is what the text's heap i holds. -/
theorem Inv.at (R : Reg P st call ops n o T S c) (hcall : CallOk P w0 call) (I : Inv P w0 ops n o T S ρ0 wI aI listed a w ρ cur r) {i : Nat} (hi : i ≤ n) (hr : r ≤ i) (hch : ∀ k, k < i → cls (o k).op = 3 → Lst listed k) :
    ∀ id, id < (S i).length → ρ id ≠ none → cur id = hp (S i) id := by
  have hno : ∀ k, r ≤ k → k < i → cls (o k).op ≠ 3 ∨ Region.wanted (o k) (yielded ops (T k)) = false := by
    intro k h1 h2
    refine .inl fun hc => ?_
    have := (I.ch k (by omega) hc).1 (hch k h2 hc)
    omega
  intro id hid hm
  by_cases h : id < (S r).length
  · rw [I.c1 id h hm, R.adv hcall hr hi hno h]
  · rcases I.mp id hm with h1 | h1 | ⟨k, hk, hl, h1, h2⟩
    · have := R.mono hcall (Nat.zero_le r) I.r_le
      omega
    · have := R.mono hcall hi (Nat.le_refl n)
      omega
    · have hki : k < i := by
        rcases Nat.lt_or_ge k i with h3 | h3
        · exact h3
        · have := R.mono hcall h3 (by omega)
          omega
      have hrk : r ≤ k := by
        rcases Nat.lt_or_ge k r with h3 | h3
        · have := R.mono hcall (Nat.succ_le_of_lt h3) I.r_le
          simp only [Nat.succ_eq_add_one] at this
          omega
        · exact h3
      rw [I.c2 k hk hl hrk id h1 h2 hm, R.adv hcall (Nat.succ_le_of_lt hki) hi (fun q a b => hno q (by omega) b) h2]

/-- What is known of the mapped blocks, as a list. -/
def seen (ρ : Ren) (cur : HF) (N : Nat) : Heap := (List.range N).map fun id => if (ρ id).isSome then cur id else none
theorem hp_seen (ρ : Ren) (cur : HF) (N id : Nat) : hp (seen ρ cur N) id = if id < N ∧ ρ id ≠ none then cur id else none := by
  unfold hp seen
  by_cases h : id < N
  · cases hr : ρ id <;> simp [h, hr]
  · simp [h]
theorem seen_length (ρ : Ren) (cur : HF) (N : Nat) : (seen ρ cur N).length = N := by simp [seen]

theorem loadN_hp {σ σ' : Heap} {x : Addr} {m : Nat} (h : x.spot = none → hp σ' x.block = hp σ x.block) : loadN st σ' x m = loadN st σ x m := by
  unfold loadN
  cases hs : x.spot with
  | some s => rfl
  | none =>
    have h := h hs
    unfold hp at h
    simp only
    cases h1 : σ'[x.block]? with
    | none =>
      rw [h1] at h
      simp only [Option.join_none] at h
      cases h2 : σ[x.block]? with
      | none => rfl
      | some b => rw [h2] at h; cases b with
        | none => rfl
        | some b => simp at h
    | some b =>
      rw [h1] at h
      cases b with
      | none =>
        simp only [Option.join_some] at h
        cases h2 : σ[x.block]? with
        | none => rfl
        | some b => rw [h2] at h; cases b with
          | none => rfl
          | some b => simp at h
      | some b =>
        simp only [Option.join_some] at h
        cases h2 : σ[x.block]? with
        | none => rw [h2] at h; simp at h
        | some b' => rw [h2] at h; cases b' with
          | none => simp at h
          | some b' => simp only [Option.join_some, Option.some.injEq] at h; rw [h]
theorem loadV_hp {σ σ' : Heap} {x : Addr} {t : TypeId} (h : x.spot = none → hp σ' x.block = hp σ x.block) : loadV P st σ' t x = loadV P st σ t x := by
  unfold loadV
  have key : ∀ m, loadN st σ' x m = loadN st σ x m := fun m => loadN_hp h
  simp only [key]

theorem loadV_alive {σ : Heap} {x : Addr} {t : TypeId} {v : Value} (h : loadV P st σ t x = some v) (hs : x.spot = none) : x.block < σ.length := by
  unfold loadV loadN at h
  rw [hs] at h
  rcases Nat.lt_or_ge x.block σ.length with hl | hl
  · exact hl
  · simp only [List.getElem?_eq_none hl] at h
    (repeat' split at h) <;> cases h

/-- A load finds in what is known what it finds in the order of the text. -/
theorem Inv.loads (R : Reg P st call ops n o T S c) (hcall : CallOk P w0 call) (I : Inv P w0 ops n o T S ρ0 wI aI listed a w ρ cur r) {i : Nat} (hi : i < n) (hun : ¬ Lst listed i) (hrd : ∀ k ∈ predsA (o i), Lst listed k)
    (hc : cls (o i).op = 1) (hw : Region.wanted (o i) (yielded ops (T i)) = true) {v : Value} (hv : loadAtA P st (T i) (o i) (S i) = some v)
    (hmap : ∀ t x y, (o i).op = .load t x → evalT (T i) x = .pointer (some y) → y.spot = none → ρ y.block ≠ none) :
    loadAtA P st (T i) (o i) (seen ρ cur (S n).length) = some v := by
  have hbe : ∀ k, k < n → Lst listed k → ordA c i k = false := by
    intro k hk hl
    cases h : ordA c i k with
    | false => rfl
    | true => exact absurd (R.closed (L := Lst listed) I.dc k hk (I.dc k hk hl) i h) hun
  have hbe2 : ∀ k, k < n → ¬ Lst listed k → ordA c k i = false := by
    intro k hk hl
    cases h : ordA c k i with
    | false => rfl
    | true => exact absurd (R.closed (L := Lst listed) I.dc i hi hrd k h) hl
  have hlt : ∀ j k, j < n → k ≤ j → ordA c j k = false := by
    intro j k hj hkj
    cases h : ordA c j k with
    | false => rfl
    | true => have := R.lt k (by omega) j h; omega
  unfold loadAtA at hv ⊢
  have hld : ∀ k, k < n → cls (o k).op = 3 → Region.wanted (o k) (yielded ops (T k)) = true → ordA c i k = false → ordA c k i = false → ∀ t x y, (o i).op = .load t x → evalT (T i) x = .pointer (some y) →
      loadV P st (S k) t y = loadV P st (S (k + 1)) t y := by
    intro k hk ck wk h1 h2 t x y ho hy
    have h3 := R.ld i k hi hk hc hw ck wk h1 h2
    unfold loadAtA at h3
    simp only [ho, hy] at h3
    exact h3
  split at hv
  · rename_i t x ho
    (try simp only [ho])
    split at hv
    · rename_i y hy
      (try simp only [hy])
      by_cases hsp : y.spot = none
      · have hali := loadV_alive hv hsp
        have hm := hmap t x y ho hy hsp
        have hN : y.block < (S n).length := Nat.lt_of_lt_of_le hali (R.mono hcall (by omega) (Nat.le_refl n))
        -- the value at heap m, going down from i
        have down : ∀ m, m ≤ i → y.block < (S m).length → (∀ k, m ≤ k → k < i → cls (o k).op = 3 → ¬ Lst listed k) → loadV P st (S m) t y = some v := by
          intro m hmi hbm hno
          have : ∀ d m, m + d = i → y.block < (S m).length → (∀ k, m ≤ k → k < i → cls (o k).op = 3 → ¬ Lst listed k) → loadV P st (S m) t y = some v := by
            intro d
            induction d with
            | zero => intro m hmd _ _; obtain rfl : m = i := by omega
                      exact hv
            | succ d ih =>
              intro m hmd hb hno
              have hmn : m < n := by omega
              have ih := ih (m + 1) (by omega) (Nat.lt_of_lt_of_le hb (R.len hcall hmn)) fun k a b => hno k (by omega) b
              by_cases hq : cls (o m).op ≠ 3 ∨ Region.wanted (o m) (yielded ops (T m)) = false
              · rw [← ih]
                exact loadV_hp fun _ => (R.hp_quiet hmn hq hb).symm
              · simp only [ne_eq, not_or, Decidable.not_not, Bool.not_eq_false] at hq
                rw [hld m hmn hq.1 hq.2 (hlt i m hi (by omega)) (hbe2 m hmn (hno m (Nat.le_refl _) (by omega) hq.1)) t x y ho hy]
                exact ih
          exact this (i - m) m (by omega) hbm hno
        by_cases hbr : y.block < (S r).length
        · have hcur : hp (seen ρ cur (S n).length) y.block = hp (S r) y.block := by
            rw [hp_seen, if_pos ⟨hN, hm⟩, I.c1 _ hbr hm]
          rw [loadV_hp fun _ => hcur]
          rcases Nat.lt_or_ge i r with hir | hir
          · have up : ∀ d m, i + d = m → m ≤ r → loadV P st (S m) t y = some v := by
              intro d
              induction d with
              | zero => intro m hmd _; obtain rfl : m = i := by omega
                        exact hv
              | succ d ih =>
                intro m hmd hmr
                obtain ⟨k, rfl⟩ : ∃ k, m = k + 1 := ⟨m - 1, by omega⟩
                have hkn : k < n := by have := I.r_le; omega
                have ih := ih k (by omega) (by omega)
                by_cases hq : cls (o k).op ≠ 3 ∨ Region.wanted (o k) (yielded ops (T k)) = false
                · rw [← ih]
                  exact loadV_hp fun _ => R.hp_quiet hkn hq (loadV_alive ih hsp)
                · simp only [ne_eq, not_or, Decidable.not_not, Bool.not_eq_false] at hq
                  have hkl : Lst listed k := (I.ch k hkn hq.1).2 (by omega)
                  rw [← hld k hkn hq.1 hq.2 (hbe k hkn hkl) (hlt k i hkn (by omega)) t x y ho hy]
                  exact ih
            exact up (r - i) r (by omega) (Nat.le_refl r)
          · exact down r hir hbr fun k h1 h2 hck hl => by have := (I.ch k (by omega) hck).1 hl; omega
        · have hir : r ≤ i := by
            rcases Nat.lt_or_ge i r with h | h
            · have := R.mono hcall (Nat.le_of_lt h) I.r_le
              omega
            · exact h
          rcases I.mp y.block hm with h1 | h1 | ⟨k, hk, hl, h1, h2⟩
          · have := R.mono hcall (Nat.zero_le r) I.r_le
            omega
          · omega
          · have hki : k < i := by
              rcases Nat.lt_or_ge k i with h3 | h3
              · exact h3
              · have := R.mono hcall h3 (by omega)
                omega
            have hrk : r ≤ k := by
              rcases Nat.lt_or_ge k r with h3 | h3
              · have := R.mono hcall (Nat.succ_le_of_lt h3) I.r_le
                simp only [Nat.succ_eq_add_one] at this
                omega
              · exact h3
            have hcur : hp (seen ρ cur (S n).length) y.block = hp (S (k + 1)) y.block := by
              rw [hp_seen, if_pos ⟨hN, hm⟩, I.c2 k hk hl hrk _ h1 h2 hm]
            rw [loadV_hp fun _ => hcur]
            exact down (k + 1) (by omega) h2 fun q h3 h4 hcq hlq => by have := (I.ch q (by omega) hcq).1 hlq; omega
      · rw [loadV_hp (σ := S i) fun h => absurd h hsp]
        exact hv
    · cases hv
  · cases hv
end
end Go.AE
