/-
 A region whose order is open: whatever order its edges allow, it comes to what the evaluator says (the proof).
 Conditions: what is known of the old blocks is so (GoodSt); the callees do what the evaluator was told of them; the program follows mixed orders.

 A region whose order is open: whatever order its edges allow, it comes to what the evaluator says (the steps, and the whole).
 Conditions: what is known of the old blocks is so (GoodSt); the callees do what the evaluator was told of them; the program follows mixed orders.
-/
import Derived.Test.YtfdldnomelnbgaaGreatDoorAeOrd
namespace Go.AE
open Go Go.RowKit

section
variable {P : Program} {w0 : World} {st : AE.Stat} {call : CallA} {ops : Array Oper} {n : Nat} {o : Nat → Oper} {T : Nat → Array Value} {S : Nat → Heap} {c : List Nat}

def Lst (listed : Array Bool) (i : Nat) : Prop := listed.getD i false = true

theorem Rel.congr {ρ : Ren} {H H' : HF} {w : World} (h : Rel w0 ρ H w) (e : ∀ id blk, ρ id ≠ none → H' id = some blk → H id = some blk) : Rel w0 ρ H' w :=
 ⟨h.below, h.dyn, fun id b base n blk e1 e2 => h.cont id b base n blk e1 (e id blk (by rw [e1]; simp) e2),
  fun i j b x y x' y' bi bj e1 e2 e3 e4 => h.inj i j b x y x' y' bi bj e1 e2 (e _ _ (by rw [e1]; simp) e3) (e _ _ (by rw [e2]; simp) e4)⟩
theorem Fr.congr {ρ ρ' : Ren} {H0 H H' : HF} {w w' : World} (h : Fr ρ H0 w ρ' H w') (e : ∀ id blk, ρ' id ≠ none → H' id = some blk → H id = some blk) : Fr ρ H0 w ρ' H' w' :=
 ⟨h.size, h.fr, fun b ⟨id, x, y, blk, e1, e2⟩ hb => h.img b ⟨id, x, y, blk, e1, e id blk (by rw [e1]; simp) e2⟩ hb⟩
theorem Fr.congr_left {ρ ρ' : Ren} {H0 H0' H : HF} {w w' : World} (h : Fr ρ H0 w ρ' H w') (e : ∀ id blk, ρ id ≠ none → H0 id = some blk → H0' id = some blk) : Fr ρ H0' w ρ' H w' :=
 ⟨h.size, fun b hb hi => h.fr b hb fun ⟨id, x, y, blk, e1, e2⟩ => hi ⟨id, x, y, blk, e1, e id blk (by rw [e1]; simp) e2⟩,
  fun b hi hb => let ⟨id, x, y, blk, e1, e2⟩ := h.img b hi hb; ⟨id, x, y, blk, e1, e id blk (by rw [e1]; simp) e2⟩⟩

theorem Reg.len (R : Reg P st call ops n o T S c) (hcall : RunOk P w0 call) {i : Nat} (hi : i < n) : (S i).length ≤ (S (i + 1)).length := stepA_len hcall (R.step i hi)
theorem Reg.mono (R : Reg P st call ops n o T S c) (hcall : RunOk P w0 call) {i j : Nat} (hij : i ≤ j) (hj : j ≤ n) : (S i).length ≤ (S j).length := by
 induction j with
 | zero =>
      obtain rfl : i = 0 := by omega
      exact Nat.le_refl _
 | succ j ih =>
  by_cases h : i = j + 1
  ·rw [h]; exact Nat.le_refl _
  ·exact Nat.le_trans (ih (by omega) (by omega)) (R.len hcall (by omega))

theorem Reg.kinds (R : Reg P st call ops n o T S c) {i : Nat} (hi : i < n) {v : Value} {σ' : Heap} (hc : cls (o i).op ≠ 3) (hv : opA P st call (evalT (T i)) (o i) (S i) = some (v, σ')) :
  (σ' = S i ∧ Free P st call (T i) (o i) v) ∨ (cls (o i).op = 1 ∧ σ' = S i ∧ loadAtA P st (T i) (o i) (S i) = some v ∧ Loads P st call (T i) (o i) v) ∨ (cls (o i).op = 2 ∧ ∃ b, σ' = S i ++ [b] ∧ News P st call (T i) (o i) v (S i).length b) ∨
   (σ' = S i ∧ Reads P st call (T i) (o i) (S i) v ∧ ∀ j, j < n → cls (o j).op < 2) := by
 have old : convOk P (o i).op = true → _ := fun h => opA_cls h hc hv
 rcases R.cv with h | h
 ·rcases old (h i hi) with h | h | h
  ·exact .inl h
  ·exact .inr (.inl h)
  ·exact .inr (.inr (.inl h))
 ·rcases (h i hi).1 with h1 | h1
  ·rcases old h1 with h | h | h
   ·exact .inl h
   ·exact .inr (.inl h)
   ·exact .inr (.inr (.inl h))
  ·obtain ⟨h2, h3⟩ := opA_convS h1 hv
   exact .inr (.inr (.inr ⟨h2, h3, fun j hj => (h j hj).2⟩))
theorem Reg.quiet (R : Reg P st call ops n o T S c) {i : Nat} (hi : i < n) (h : cls (o i).op ≠ 3 ∨ Region.wanted (o i) (yielded ops (T i)) = false) : S (i + 1) = S i ∨ ∃ b, S (i + 1) = S i ++ [b] := by
 obtain ⟨_, ⟨hw, v, hv, _⟩ | ⟨_, _, hs⟩⟩ := step_cases (R.step i hi)
 ·have hc : cls (o i).op ≠ 3 := h.resolve_right (by rw [hw]; simp)
  rcases R.kinds hi hc hv with ⟨hs, _⟩ | ⟨_, hs, _⟩ | ⟨_, b, hs, _⟩ | ⟨hs, _⟩
  ·exact .inl hs
  ·exact .inl hs
  ·exact .inr ⟨b, hs⟩
  ·exact .inl hs
 ·exact .inl hs
theorem Reg.still (R : Reg P st call ops n o T S c) (h : ∀ j, j < n → cls (o j).op < 2) : ∀ m, m ≤ n → S m = S 0 := by
 intro m
 induction m with
 | zero => intro _; rfl
 | succ m ih =>
  intro hm
  rw [← ih (by omega)]
  have h1 := h m (by omega)
  obtain ⟨_, ⟨hw, v, hv, _⟩ | ⟨_, _, hs⟩⟩ := step_cases (R.step m (by omega))
  ·rcases R.kinds (by omega) (by omega) hv with ⟨hs, _⟩ | ⟨_, hs, _⟩ | ⟨h2, _⟩ | ⟨hs, _⟩
   ·exact hs
   ·exact hs
   ·omega
   ·exact hs
  ·exact hs
theorem Reg.hp_quiet (R : Reg P st call ops n o T S c) {i : Nat} (hi : i < n) (h : cls (o i).op ≠ 3 ∨ Region.wanted (o i) (yielded ops (T i)) = false) {id : Nat} (hid : id < (S i).length) : hp (S (i + 1)) id = hp (S i) id := by
 rcases R.quiet hi h with e | ⟨b, e⟩
 ·rw [e]
 ·rw [e]; exact hp_old _ _ (by omega)
theorem Reg.adv (R : Reg P st call ops n o T S c) (hcall : RunOk P w0 call) {i j : Nat} (hij : i ≤ j) (hj : j ≤ n) (h : ∀ k, i ≤ k → k < j → cls (o k).op ≠ 3 ∨ Region.wanted (o k) (yielded ops (T k)) = false) {id : Nat} (hid : id < (S i).length) : hp (S j) id = hp (S i) id := by
 induction j with
 | zero =>
      obtain rfl : i = 0 := by omega
      rfl
 | succ j ih =>
  by_cases e : i = j + 1
  ·rw [e]
  ·rw [R.hp_quiet (by omega) (h j (by omega) (by omega)) (Nat.lt_of_lt_of_le hid (R.mono hcall (by omega) (by omega)))]
   exact ih (by omega) (by omega) fun k a b => h k a (by omega)

theorem Reg.tsize (R : Reg P st call ops n o T S c) : ∀ m, m ≤ n → (T m).size = (T 0).size := by
 intro m
 induction m with
 | zero => intro _; rfl
 | succ m ih =>
  intro hm
  have : (T (m + 1)).size = (T m).size := by
   obtain ⟨_, ⟨_, v, _, ht⟩ | ⟨_, ht, _⟩⟩ := step_cases (R.step m (by omega))
   ·rw [ht]; cases (o m).dst <;> simp [putT]
   ·rw [ht]; cases (o m).dst <;> simp [putT]
  rw [this, ih (by omega)]
theorem Reg.tkeep (R : Reg P st call ops n o T S c) {t : Nat} {i j : Nat} (hij : i ≤ j) (hj : j ≤ n) (h : ∀ k, i ≤ k → k < j → (o k).dst ≠ some t) : (T j)[t]? = (T i)[t]? := by
 induction j with
 | zero =>
      obtain rfl : i = 0 := by omega
      rfl
 | succ j ih =>
  by_cases e : i = j + 1
  ·rw [e]
  ·have ih := ih (by omega) (by omega) fun k a b => h k a (by omega)
   rw [← ih]
   have hne := h j (by omega) (by omega)
   have key : ∀ v, (putT (T j) (o j).dst v)[t]? = (T j)[t]? := by
    intro v
    cases hd : (o j).dst with
    | none => rfl
    | some d =>
     have : d ≠ t := fun e => hne (by rw [hd, e])
     simp [putT, Array.getElem?_setIfInBounds_ne this]
   obtain ⟨_, ⟨_, v, _, ht⟩ | ⟨_, ht, _⟩⟩ := step_cases (R.step j (by omega))
   ·rw [ht]; exact key v
   ·rw [ht]; exact key undef

structure Inv (P : Program) (w0 : World) (ops : Array Oper) (n : Nat) (o : Nat → Oper) (T : Nat → Array Value) (S : Nat → Heap) (ρ0 : Ren) (wI : World) (aI : Act) (listed : Array Bool) (a : Act) (w : World) (ρ : Ren) (cur : HF) (r : Nat) : Prop where
 hsz : listed.size = n
 dc : ∀ i, i < n → Lst listed i → ∀ k ∈ predsA (o i), Lst listed k
 r_le : r ≤ n
 ch : ∀ i, i < n → cls (o i).op = 3 → (Lst listed i ↔ i < r)
 rel : Rel w0 ρ cur w
 c1 : ∀ id, id < (S r).length → ρ id ≠ none → cur id = hp (S r) id
 c2 : ∀ i, i < n → Lst listed i → r ≤ i → ∀ id, (S i).length ≤ id → id < (S (i + 1)).length → ρ id ≠ none → cur id = hp (S (i + 1)) id
 c4 : ∀ id, (S n).length ≤ id → cur id = none
 mp : ∀ id, ρ id ≠ none → id < (S 0).length ∨ (S n).length ≤ id ∨ ∃ i, i < n ∧ Lst listed i ∧ (S i).length ≤ id ∧ id < (S (i + 1)).length
 ext : Ext ρ0 ρ (S 0).length (S n).length
 fr : Fr ρ0 (hp (S 0)) wI ρ cur w
 tsz : a.tmps.size = (T 0).size
 tmp : ∀ t m, m ≤ n → (∀ i, i < n → (o i).dst = some t → (Lst listed i ↔ i < m)) → ∀ v, (T m)[t]? = some v → ∃ v', a.tmps[t]? = some v' ∧ VR ρ v v'
 dfr : a.defers = aI.defers

variable {ρ0 : Ren} {wI : World} {aI : Act} {listed : Array Bool} {a : Act} {w : World} {ρ : Ren} {cur : HF} {r : Nat}

theorem lst_set {i k : Nat} (hi : i < listed.size) : Lst (listed.setIfInBounds i true) k ↔ k = i ∨ Lst listed k := by
 unfold Lst
 by_cases h : i = k
 ·subst h
  simp [hi]
 ·rw [getD_set_ne false h]
  exact ⟨fun x => .inr x, fun x => x.resolve_left (fun e => h e.symm)⟩

theorem Inv.next (R : Reg P st call ops n o T S c) (_hcall : RunOk P w0 call) (I : Inv P w0 ops n o T S ρ0 wI aI listed a w ρ cur r) {i : Nat} (hi : i < n) (hun : ¬ Lst listed i) (hrd : ∀ k ∈ predsA (o i), Lst listed k)
  {v v' : Value} {w1 : World} {ρ1 : Ren} {cur1 : HF} (hrel : Rel w0 ρ1 cur1 w1) (hle : ρ.le ρ1) (hext : Ext ρ ρ1 (S 0).length (S n).length) (hmp : ∀ id, ρ1 id ≠ none → ρ id ≠ none ∨ ((S i).length ≤ id ∧ id < (S (i + 1)).length)) (hfr : Fr ρ cur w ρ1 cur1 w1)
  (hv : VR ρ1 v v') (hT : T (i + 1) = putT (T i) (o i).dst v)
  (h1 : ∀ id, id < (S (if cls (o i).op = 3 then i + 1 else r)).length → ρ1 id ≠ none → cur1 id = hp (S (if cls (o i).op = 3 then i + 1 else r)) id)
  (h2 : ∀ k, k < n → (k = i ∨ Lst listed k) → (if cls (o i).op = 3 then i + 1 else r) ≤ k → ∀ id, (S k).length ≤ id → id < (S (k + 1)).length → ρ1 id ≠ none → cur1 id = hp (S (k + 1)) id)
  (h4 : ∀ id, (S n).length ≤ id → cur1 id = none) :
  Inv P w0 ops n o T S ρ0 wI aI (listed.setIfInBounds i true) (a.put (o i).dst v') w1 ρ1 cur1 (if cls (o i).op = 3 then i + 1 else r) := by
 have hi' : i < listed.size := by rw [I.hsz]; exact hi
 have hclo : ∀ j, j < n → Lst listed j → ∀ k, ordA c k j = true → Lst listed k := fun j hj hl => R.closed (L := Lst listed) I.dc j hj (I.dc j hj hl)
 have hcli : ∀ k, ordA c k i = true → Lst listed k := R.closed (L := Lst listed) I.dc i hi hrd
 refine ⟨by simp [I.hsz], ?_, ?_, ?_, hrel, h1, ?_, h4, ?_, ?_, I.fr.trans hfr, ?_, ?_, ?_⟩
 ·intro k hk hl q hq
  rw [lst_set hi'] at hl ⊢
  rcases hl with rfl | hl
  ·exact .inr (hrd q hq)
  ·exact .inr (I.dc k hk hl q hq)
 ·split
  ·omega
  ·exact I.r_le
 ·intro k hk ck
  rw [lst_set hi']
  split
  ·rename_i ci
   constructor
   ·rintro (rfl | hl)
    ·omega
    ·rcases Nat.lt_or_ge i k with h | h
     ·exact absurd (hclo k hk hl i (R.chain i k h hk ci ck)) hun
     ·omega
   ·intro h
    rcases Nat.lt_or_ge k i with h' | h'
    ·exact .inr (hcli k (R.chain k i h' hi ck ci))
    ·exact .inl (by omega)
  ·rename_i ci
   rw [← I.ch k hk ck]
   exact ⟨fun h => h.resolve_left (fun e => ci (e ▸ ck)), .inr⟩
 ·intro k hk hl
  rw [lst_set hi'] at hl
  exact h2 k hk hl
 ·intro id hid
  rcases hmp id hid with h | h
  ·rcases I.mp id h with h | h | ⟨k, hk, hl, hx⟩
   ·exact .inl h
   ·exact .inr (.inl h)
   ·exact .inr (.inr ⟨k, hk, by rw [lst_set hi']; exact .inr hl, hx⟩)
  ·exact .inr (.inr ⟨i, hi, by rw [lst_set hi']; exact .inl rfl, h⟩)
 ·intro id hid
  exact (hext id hid).trans (I.ext id hid)
 ·rw [← I.tsz]
  cases (o i).dst <;> simp [Act.put]
 ·intro t m hm hwr u hu
  by_cases hd : (o i).dst = some t
  ·have him : i < m := (hwr i hi hd).1 (by rw [lst_set hi']; exact .inl rfl)
   have hno : ∀ k, i + 1 ≤ k → k < m → (o k).dst ≠ some t := by
    intro k h1 h2 hk
    have hl := (hwr k (by omega) hk).2 h2
    rw [lst_set hi'] at hl
    have hl := hl.resolve_left (by omega)
    rcases R.tmp i k (by omega) (by omega) with ⟨ha, _⟩ | ho
    ·exact (Oper.apart_spec ha).2.1 t hd hk
    ·exact hun (hclo k (by omega) hl i ho)
   rw [R.tkeep him hm hno, hT] at hu
   have hlt : t < (T i).size := by
    have := (Array.getElem?_eq_some_iff.1 hu).1
    rw [hd] at this
    simpa [putT] using this
   have eu : u = v := by
    rw [hd] at hu
    simp [putT, hlt] at hu
    exact hu.symm
   subst eu
   refine ⟨v', ?_, hv⟩
   have hlt' : t < a.tmps.size := by rw [I.tsz, ← R.tsize i (by omega)]; exact hlt
   rw [hd]
   simp [Act.put, hlt']
  ·have hwr' : ∀ k, k < n → (o k).dst = some t → (Lst listed k ↔ k < m) := by
    intro k hk hkd
    rw [← hwr k hk hkd, lst_set hi']
    exact ⟨.inr, fun h => h.resolve_left (fun e => hd (e ▸ hkd))⟩
   obtain ⟨u', h5, h6⟩ := I.tmp t m hm hwr' u hu
   refine ⟨u', ?_, h6.mono hle⟩
   cases hdd : (o i).dst with
   | none => exact h5
   | some d =>
    have : d ≠ t := fun e => hd (by rw [hdd, e])
    simp [Act.put, Array.getElem?_setIfInBounds_ne this, h5]
 ·rw [← I.dfr]
  cases (o i).dst <;> rfl

theorem Inv.looks (R : Reg P st call ops n o T S c) (I : Inv P w0 ops n o T S ρ0 wI aI listed a w ρ cur r) {i : Nat} (hi : i < n) (hun : ¬ Lst listed i) (hrd : ∀ k ∈ predsA (o i), Lst listed k) {t : Nat}
  (ht : t ∈ (o i).looksAt ops) : ∀ v, (T i)[t]? = some v → ∃ v', a.tmps[t]? = some v' ∧ VR ρ v v' := by
 refine I.tmp t i (by omega) fun k hk hd => ?_
 rcases Nat.lt_trichotomy k i with h | h | h
 ·refine ⟨fun _ => h, fun _ => ?_⟩
  rcases R.tmp k i h hi with ⟨ha, _⟩ | ho
  ·exact absurd ht ((Oper.apart_spec ha).1 t hd)
  ·exact R.closed (L := Lst listed) I.dc i hi hrd k ho
 ·subst h
  exact ⟨fun h => absurd h hun, fun h => by omega⟩
 ·refine ⟨fun hl => ?_, fun h' => by omega⟩
  rcases R.tmp i k h hk with ⟨ha, _⟩ | ho
  ·exact absurd ht ((Oper.apart_spec ha).2.2 t hd)
  ·exact absurd (R.closed (L := Lst listed) I.dc k hk (I.dc k hk hl) i ho) hun

theorem evalT_looks {τ : Array Value} {x : Operand} (hs : τ.size = a.tmps.size) (h : ∀ t, x = .tmp t → ∀ v, τ[t]? = some v → ∃ v', a.tmps[t]? = some v' ∧ VR ρ v v') (hx : ∀ v, x = .const v → flat v = true) : VR ρ (evalT τ x) (a.eval x) := by
 cases x with
 | tmp t =>
  simp only [evalT, Act.eval]
  by_cases ht : t < τ.size
  ·obtain ⟨v', h1, h2⟩ := h t rfl _ (Array.getElem?_eq_getElem ht)
   rw [Array.getD_eq_getD_getElem?, Array.getD_eq_getD_getElem?, Array.getElem?_eq_getElem ht, h1]
   exact h2
  ·have ht' : ¬ t < a.tmps.size := by rw [← hs]; exact ht
   rw [Array.getD_eq_getD_getElem?, Array.getD_eq_getD_getElem?, Array.getElem?_eq_none (Nat.le_of_not_lt ht), Array.getElem?_eq_none (Nat.le_of_not_lt ht')]
   exact flat_VR ρ rfl
 | const v => exact flat_VR ρ (hx v rfl)
 | global g => exact .ptr _ _ ⟨rfl, .inl ⟨0, rfl, rfl, rfl⟩⟩
 | func f => exact .func _ _ _ _ _ rfl rfl (fun i v v' hv => by simp at hv) (fun i v v' hv => by simp at hv)

theorem guard_looks {x : Oper} {τ τ' : Array Value} (hs : τ.size = τ'.size) (h : ∀ t ∈ x.looksAt ops, ∀ v, τ[t]? = some v → ∃ v', τ'[t]? = some v' ∧ VR ρ v v') (hg : guardOk ops x τ = true) :
  Region.wanted x (yielded ops τ') = Region.wanted x (yielded ops τ) := by
 unfold guardOk at hg
 unfold Region.wanted
 cases hgd : x.guard with
 | none => rfl
 | some p =>
  obtain ⟨j, want⟩ := p
  simp only [hgd] at hg ⊢
  congr 1
  unfold yielded
  cases hd : (ops[j]?).bind (·.dst) with
  | none => rfl
  | some d =>
   have hin : d ∈ x.looksAt ops := by
    unfold Oper.looksAt
    rw [hgd]
    simp [hd]
   simp only [hd, Option.bind_some] at hg ⊢
   cases hv : τ[d]? with
   | none =>
    have : τ'[d]? = none := by
     rw [Array.getElem?_eq_none_iff] at hv ⊢
     rw [← hs]; exact hv
    rw [this]
   | some v =>
    obtain ⟨v', hv', hr⟩ := h d hin v hv
    rw [hv']
    rw [hv] at hg
    cases hr <;> first | rfl | simp at hg

theorem Inv.at (R : Reg P st call ops n o T S c) (hcall : RunOk P w0 call) (I : Inv P w0 ops n o T S ρ0 wI aI listed a w ρ cur r) {i : Nat} (hi : i ≤ n) (hr : r ≤ i) (hch : ∀ k, k < i → cls (o k).op = 3 → Lst listed k) :
  ∀ id, id < (S i).length → ρ id ≠ none → cur id = hp (S i) id := by
 have hno : ∀ k, r ≤ k → k < i → cls (o k).op ≠ 3 ∨ Region.wanted (o k) (yielded ops (T k)) = false := by
  intro k h1 h2
  refine .inl fun hc => ?_
  have := (I.ch k (by omega) hc).1 (hch k h2 hc)
  omega
 intro id hid hm
 by_cases h : id < (S r).length
 ·rw [I.c1 id h hm, R.adv hcall hr hi hno h]
 ·rcases I.mp id hm with h1 | h1 | ⟨k, hk, hl, h1, h2⟩
  ·have := R.mono hcall (Nat.zero_le r) I.r_le
   omega
  ·have := R.mono hcall hi (Nat.le_refl n)
   omega
  ·have hki : k < i := by
    rcases Nat.lt_or_ge k i with h3 | h3
    ·exact h3
    ·have := R.mono hcall h3 (by omega)
     omega
   have hrk : r ≤ k := by
    rcases Nat.lt_or_ge k r with h3 | h3
    ·have := R.mono hcall (Nat.succ_le_of_lt h3) I.r_le
     simp only [Nat.succ_eq_add_one] at this
     omega
    ·exact h3
   rw [I.c2 k hk hl hrk id h1 h2 hm, R.adv hcall (Nat.succ_le_of_lt hki) hi (fun q a b => hno q (by omega) b) h2]

def seen (ρ : Ren) (cur : HF) (N : Nat) : Heap := (List.range N).map fun id => if (ρ id).isSome then cur id else none
theorem hp_seen (ρ : Ren) (cur : HF) (N id : Nat) : hp (seen ρ cur N) id = if id < N ∧ ρ id ≠ none then cur id else none := by
 unfold hp seen
 by_cases h : id < N
 ·cases hr : ρ id <;> simp [h, hr]
 ·simp [h]
theorem seen_length (ρ : Ren) (cur : HF) (N : Nat) : (seen ρ cur N).length = N := by simp [seen]

theorem loadN_hp {σ σ' : Heap} {x : Addr} {m : Nat} (h : x.spot = none → hp σ' x.block = hp σ x.block) : loadN st σ' x m = loadN st σ x m := by
 unfold loadN
 cases hs : x.spot with
 | some s => rfl
 | none =>
  have h := h hs
  unfold hp at h
  simp only
  cases h1 : σ'[x.block]? with
  | none =>
   rw [h1] at h
   simp only [Option.join_none] at h
   cases h2 : σ[x.block]? with
   | none => rfl
   | some b => rw [h2] at h; cases b with
    | none => rfl
    | some b => simp at h
  | some b =>
   rw [h1] at h
   cases b with
   | none =>
    simp only [Option.join_some] at h
    cases h2 : σ[x.block]? with
    | none => rfl
    | some b => rw [h2] at h; cases b with
     | none => rfl
     | some b => simp at h
   | some b =>
    simp only [Option.join_some] at h
    cases h2 : σ[x.block]? with
    | none => rw [h2] at h; simp at h
    | some b' => rw [h2] at h; cases b' with
     | none => simp at h
     | some b' => simp only [Option.join_some, Option.some.injEq] at h; rw [h]
theorem loadV_hp {σ σ' : Heap} {x : Addr} {t : TypeId} (h : x.spot = none → hp σ' x.block = hp σ x.block) : loadV P st σ' t x = loadV P st σ t x := by
 unfold loadV
 have key : ∀ m, loadN st σ' x m = loadN st σ x m := fun m => loadN_hp h
 simp only [key]

theorem loadV_alive {σ : Heap} {x : Addr} {t : TypeId} {v : Value} (h : loadV P st σ t x = some v) (hs : x.spot = none) : x.block < σ.length := by
 unfold loadV loadN at h
 rw [hs] at h
 rcases Nat.lt_or_ge x.block σ.length with hl | hl
 ·exact hl
 ·simp only [List.getElem?_eq_none hl] at h
  (repeat' split at h) <;> cases h

theorem Inv.loads (R : Reg P st call ops n o T S c) (hcall : RunOk P w0 call) (I : Inv P w0 ops n o T S ρ0 wI aI listed a w ρ cur r) {i : Nat} (hi : i < n) (hun : ¬ Lst listed i) (hrd : ∀ k ∈ predsA (o i), Lst listed k)
  (hc : cls (o i).op = 1) (hw : Region.wanted (o i) (yielded ops (T i)) = true) {v : Value} (hv : loadAtA P st (T i) (o i) (S i) = some v)
  (hmap : ∀ t x y, (o i).op = .load t x → evalT (T i) x = .pointer (some y) → y.spot = none → ρ y.block ≠ none) :
  loadAtA P st (T i) (o i) (seen ρ cur (S n).length) = some v := by
 have hbe : ∀ k, k < n → Lst listed k → ordA c i k = false := by
  intro k hk hl
  cases h : ordA c i k with
  | false => rfl
  | true => exact absurd (R.closed (L := Lst listed) I.dc k hk (I.dc k hk hl) i h) hun
 have hbe2 : ∀ k, k < n → ¬ Lst listed k → ordA c k i = false := by
  intro k hk hl
  cases h : ordA c k i with
  | false => rfl
  | true => exact absurd (R.closed (L := Lst listed) I.dc i hi hrd k h) hl
 have hlt : ∀ j k, j < n → k ≤ j → ordA c j k = false := by
  intro j k hj hkj
  cases h : ordA c j k with
  | false => rfl
  | true => have := R.lt k (by omega) j h; omega
 unfold loadAtA at hv ⊢
 have hld : ∀ k, k < n → cls (o k).op = 3 → Region.wanted (o k) (yielded ops (T k)) = true → ordA c i k = false → ordA c k i = false → ∀ t x y, (o i).op = .load t x → evalT (T i) x = .pointer (some y) →
   loadV P st (S k) t y = loadV P st (S (k + 1)) t y := by
  intro k hk ck wk h1 h2 t x y ho hy
  have h3 := R.ld i k hi hk hc hw ck wk h1 h2
  unfold loadAtA at h3
  simp only [ho, hy] at h3
  exact h3
 split at hv
 ·rename_i t x ho
  (try simp only [ho])
  split at hv
  ·rename_i y hy
   (try simp only [hy])
   by_cases hsp : y.spot = none
   ·have hali := loadV_alive hv hsp
    have hm := hmap t x y ho hy hsp
    have hN : y.block < (S n).length := Nat.lt_of_lt_of_le hali (R.mono hcall (by omega) (Nat.le_refl n))
    -- the value at heap m, going down from i
    have down : ∀ m, m ≤ i → y.block < (S m).length → (∀ k, m ≤ k → k < i → cls (o k).op = 3 → ¬ Lst listed k) → loadV P st (S m) t y = some v := by
     intro m hmi hbm hno
     have : ∀ d m, m + d = i → y.block < (S m).length → (∀ k, m ≤ k → k < i → cls (o k).op = 3 → ¬ Lst listed k) → loadV P st (S m) t y = some v := by
      intro d
      induction d with
      | zero =>
           intro m hmd _ _; obtain rfl : m = i := by omega
           exact hv
      | succ d ih =>
       intro m hmd hb hno
       have hmn : m < n := by omega
       have ih := ih (m + 1) (by omega) (Nat.lt_of_lt_of_le hb (R.len hcall hmn)) fun k a b => hno k (by omega) b
       by_cases hq : cls (o m).op ≠ 3 ∨ Region.wanted (o m) (yielded ops (T m)) = false
       ·rw [← ih]
        exact loadV_hp fun _ => (R.hp_quiet hmn hq hb).symm
       ·simp only [ne_eq, not_or, Decidable.not_not, Bool.not_eq_false] at hq
        rw [hld m hmn hq.1 hq.2 (hlt i m hi (by omega)) (hbe2 m hmn (hno m (Nat.le_refl _) (by omega) hq.1)) t x y ho hy]
        exact ih
     exact this (i - m) m (by omega) hbm hno
    by_cases hbr : y.block < (S r).length
    ·have hcur : hp (seen ρ cur (S n).length) y.block = hp (S r) y.block := by
      rw [hp_seen, if_pos ⟨hN, hm⟩, I.c1 _ hbr hm]
     rw [loadV_hp fun _ => hcur]
     rcases Nat.lt_or_ge i r with hir | hir
     ·have up : ∀ d m, i + d = m → m ≤ r → loadV P st (S m) t y = some v := by
       intro d
       induction d with
       | zero =>
            intro m hmd _; obtain rfl : m = i := by omega
            exact hv
       | succ d ih =>
        intro m hmd hmr
        obtain ⟨k, rfl⟩ : ∃ k, m = k + 1 := ⟨m - 1, by omega⟩
        have hkn : k < n := by have := I.r_le; omega
        have ih := ih k (by omega) (by omega)
        by_cases hq : cls (o k).op ≠ 3 ∨ Region.wanted (o k) (yielded ops (T k)) = false
        ·rw [← ih]
         exact loadV_hp fun _ => R.hp_quiet hkn hq (loadV_alive ih hsp)
        ·simp only [ne_eq, not_or, Decidable.not_not, Bool.not_eq_false] at hq
         have hkl : Lst listed k := (I.ch k hkn hq.1).2 (by omega)
         rw [← hld k hkn hq.1 hq.2 (hbe k hkn hkl) (hlt k i hkn (by omega)) t x y ho hy]
         exact ih
      exact up (r - i) r (by omega) (Nat.le_refl r)
     ·exact down r hir hbr fun k h1 h2 hck hl => by have := (I.ch k (by omega) hck).1 hl; omega
    ·have hir : r ≤ i := by
      rcases Nat.lt_or_ge i r with h | h
      ·have := R.mono hcall (Nat.le_of_lt h) I.r_le
       omega
      ·exact h
     rcases I.mp y.block hm with h1 | h1 | ⟨k, hk, hl, h1, h2⟩
     ·have := R.mono hcall (Nat.zero_le r) I.r_le
      omega
     ·omega
     ·have hki : k < i := by
       rcases Nat.lt_or_ge k i with h3 | h3
       ·exact h3
       ·have := R.mono hcall h3 (by omega)
        omega
      have hrk : r ≤ k := by
       rcases Nat.lt_or_ge k r with h3 | h3
       ·have := R.mono hcall (Nat.succ_le_of_lt h3) I.r_le
        simp only [Nat.succ_eq_add_one] at this
        omega
       ·exact h3
      have hcur : hp (seen ρ cur (S n).length) y.block = hp (S (k + 1)) y.block := by
       rw [hp_seen, if_pos ⟨hN, hm⟩, I.c2 k hk hl hrk _ h1 h2 hm]
      rw [loadV_hp fun _ => hcur]
      exact down (k + 1) (by omega) h2 fun q h3 h4 hcq hlq => by have := (I.ch q (by omega) hcq).1 hlq; omega
   ·rw [loadV_hp (σ := S i) fun h => absurd h hsp]
    exact hv
  ·cases hv
 ·cases hv
end
end Go.AE

namespace Go.AE
open Go Go.RowKit

section
variable {P : Program} {w0 : World} {st : AE.Stat} {call : CallA} {ops : Array Oper} {n : Nat} {o : Nat → Oper} {T : Nat → Array Value} {S : Nat → Heap} {c : List Nat}
variable {ρ0 : Ren} {wI : World} {aI : Act} {listed : Array Bool} {a : Act} {w : World} {ρ : Ren} {cur : HF} {r : Nat}  {rd : Option Nat}

theorem hp_lt {σ : Heap} {id : Nat} {b : Blk} (h : hp σ id = some b) : id < σ.length := by
 rcases Nat.lt_or_ge id σ.length with h1 | h1
 ·exact h1
 ·simp [hp, List.getElem?_eq_none h1] at h

theorem Inv.fresh (R : Reg P st call ops n o T S c) (hcall : RunOk P w0 call) (I : Inv P w0 ops n o T S ρ0 wI aI listed a w ρ cur r) {i : Nat} (hi : i < n) (hun : ¬ Lst listed i) : Fresh ρ (S i).length (S (i + 1)).length := by
 intro id h1 h2
 cases hr : ρ id with
 | none => rfl
 | some x =>
  exfalso
  rcases I.mp id (by rw [hr]; simp) with h | h | ⟨k, hk, hl, h3, h4⟩
  ·have := R.mono hcall (Nat.zero_le i) (by omega)
   omega
  ·have := R.mono hcall (Nat.succ_le_of_lt hi) (Nat.le_refl n)
   simp only [Nat.succ_eq_add_one] at this
   omega
  ·rcases Nat.lt_trichotomy k i with h | h | h
   ·have := R.mono hcall (Nat.succ_le_of_lt h) (by omega)
    simp only [Nat.succ_eq_add_one] at this
    omega
   ·exact hun (h ▸ hl)
   ·have := R.mono hcall (Nat.succ_le_of_lt h) (by omega)
    simp only [Nat.succ_eq_add_one] at this
    omega

theorem Inv.next_same (R : Reg P st call ops n o T S c) (hcall : RunOk P w0 call) (I : Inv P w0 ops n o T S ρ0 wI aI listed a w ρ cur r) {i : Nat} (hi : i < n) (hun : ¬ Lst listed i) (hrd : ∀ k ∈ predsA (o i), Lst listed k)
  {v v' : Value} {w1 : World} {ρ1 : Ren} (hn : Nxt w0 ρ (seen ρ cur (S n).length) w ρ1 (seen ρ cur (S n).length) w1) (hv : VR ρ1 v v') (hT : T (i + 1) = putT (T i) (o i).dst v) (hS : S (i + 1) = S i) (hc : cls (o i).op ≠ 3) :
  Inv P w0 ops n o T S ρ0 wI aI (listed.setIfInBounds i true) (a.put (o i).dst v') w1 ρ1 (hp (seen ρ cur (S n).length)) (if cls (o i).op = 3 then i + 1 else r) := by
 have hρ : ρ1 = ρ := by
  funext id
  exact hn.ext id (by omega)
 subst hρ
 have hsc : ∀ id blk, hp (seen ρ1 cur (S n).length) id = some blk → cur id = some blk := by
  intro id blk e
  rw [hp_seen] at e
  split at e
  ·exact e
  ·cases e
 refine I.next R hcall hi hun hrd hn.rel (fun id x h => h) (.refl _ _ _) (fun id h => .inl h) (hn.fr.congr_left fun id blk _ e => hsc id blk e) hv hT ?_ ?_ ?_
 ·rw [if_neg hc]
  intro id hid hm
  have := R.mono hcall I.r_le (Nat.le_refl n)
  rw [hp_seen, if_pos ⟨by omega, hm⟩]
  exact I.c1 id hid hm
 ·rw [if_neg hc]
  intro k hk hkl hrk id h1 h2 hm
  rcases hkl with rfl | hkl
  ·rw [hS] at h2; omega
  ·have := R.mono hcall (Nat.succ_le_of_lt hk) (Nat.le_refl n)
   simp only [Nat.succ_eq_add_one] at this
   rw [hp_seen, if_pos ⟨by omega, hm⟩]
   exact I.c2 k hk hkl hrk id h1 h2 hm
 ·intro id hid
  rw [hp_seen, if_neg (by omega)]

theorem Inv.next_new (R : Reg P st call ops n o T S c) (hcall : RunOk P w0 call) (I : Inv P w0 ops n o T S ρ0 wI aI listed a w ρ cur r) {i : Nat} (hi : i < n) (hun : ¬ Lst listed i) (hrd : ∀ k ∈ predsA (o i), Lst listed k)
  {v v' : Value} {w1 : World} {ρ1 : Ren} {b : Option Blk} (hn : Nxt w0 ρ (List.replicate (S i).length none) w ρ1 (List.replicate (S i).length none ++ [b]) w1) (hv : VR ρ1 v v') (hT : T (i + 1) = putT (T i) (o i).dst v)
  (hS : S (i + 1) = S i ++ [b]) (hc : cls (o i).op = 2) (hw : Region.wanted (o i) (yielded ops (T i)) = true) :
  ∃ cur1, Inv P w0 ops n o T S ρ0 wI aI (listed.setIfInBounds i true) (a.put (o i).dst v') w1 ρ1 cur1 (if cls (o i).op = 3 then i + 1 else r) := by
 have hc3 : cls (o i).op ≠ 3 := by rw [hc]; decide
 have hrep : ∀ id blk, hp (List.replicate (S i).length none) id = some blk → False := by
  intro id blk e
  unfold hp at e
  rw [List.getElem?_replicate] at e
  split at e <;> simp at e
 have hL : (List.replicate (S i).length (none : Option Blk)).length = (S i).length := by simp
 have hnewb : hp (List.replicate (S i).length none ++ [b]) (S i).length = b := by
  have := hp_new (List.replicate (S i).length none) b
  rwa [hL] at this
 have hfresh := I.fresh R hcall hi hun
 have hlen1 : (S (i + 1)).length = (S i).length + 1 := by rw [hS]; simp
 have hN : (S (i + 1)).length ≤ (S n).length := R.mono hcall (Nat.succ_le_of_lt hi) (Nat.le_refl n)
 have hext : ∀ id, id ≠ (S i).length → ρ1 id = ρ id := by
  intro id hid
  refine hn.ext id ?_
  simp
  omega
 have hle : ρ.le ρ1 := by
  intro id x hx
  by_cases e : id = (S i).length
  ·subst e
   rw [hfresh _ (Nat.le_refl _) (by omega)] at hx
   cases hx
  ·rw [hext id e]; exact hx
 have hun1 : ∀ k, k < w.heap.size → w1.heap[k]? = w.heap[k]? := fun k hk => hn.fr.fr k hk fun ⟨id, x, y, blk, e1, e2⟩ => hrep id blk e2
 have hnewge : ∀ k x y blk, ρ1 (S i).length = some (k, x, y) → b = some blk → w.heap.size ≤ k := by
  intro k x y blk e1 e2
  rcases Nat.lt_or_ge k w.heap.size with h | h
  ·obtain ⟨id, _, _, blk', _, e4⟩ := hn.fr.img k ⟨_, x, y, blk, e1, by rw [hnewb, e2]⟩ h
   exact (hrep id blk' e4).elim
  ·exact h
 refine ⟨fun id => if id = (S i).length then b else cur id, ?_⟩
 refine I.next R hcall hi hun hrd ⟨hn.rel.below, hn.rel.dyn, ?_, ?_⟩ hle ?_ ?_ ⟨hn.fr.size, fun k hk _ => hun1 k hk, ?_⟩ hv hT ?_ ?_ ?_
 ·intro id k x y blk e1 e2
  by_cases e : id = (S i).length
  ·subst e
   simp only [if_true] at e2
   exact hn.rel.cont _ k x y blk e1 (by rw [hnewb, e2])
  ·simp only [e, if_false] at e2
   rw [hext id e] at e1
   obtain ⟨ob, ho, hcont⟩ := I.rel.cont id k x y blk e1 e2
   exact ⟨ob, (hun1 k (I.rel.dyn id k x y e1).2).trans ho, hcont.mono hle⟩
 ·intro p q k x y x' y' bp bq e1 e2 e3 e4
  by_cases hp1 : p = (S i).length
  ·by_cases hq1 : q = (S i).length
   ·rw [hp1, hq1]
   ·exfalso
    subst hp1
    simp only [if_true] at e3
    rw [hext q hq1] at e2
    have := (I.rel.dyn q k x' y' e2).2
    have := hnewge k x y bp e1 e3
    omega
  ·by_cases hq1 : q = (S i).length
   ·exfalso
    subst hq1
    simp only [if_true] at e4
    rw [hext p hp1] at e1
    have := (I.rel.dyn p k x y e1).2
    have := hnewge k x' y' bq e2 e4
    omega
   ·simp only [hp1, if_false] at e3
    simp only [hq1, if_false] at e4
    rw [hext p hp1] at e1
    rw [hext q hq1] at e2
    exact I.rel.inj p q k x y x' y' bp bq e1 e2 e3 e4
 ·intro id hid
  refine hext id fun e => ?_
  have := R.mono hcall (Nat.zero_le i) (by omega)
  omega
 ·intro id h
  by_cases e : id = (S i).length
  ·exact .inr ⟨by omega, by omega⟩
  ·rw [hext id e] at h; exact .inl h
 ·intro k ⟨id, x, y, blk, e1, e2⟩ hk
  by_cases e : id = (S i).length
  ·exfalso
   subst e
   simp only [if_true] at e2
   have := hnewge k x y blk e1 e2
   omega
  ·simp only [e, if_false] at e2
   rw [hext id e] at e1
   exact ⟨id, x, y, blk, e1, e2⟩
 ·rw [if_neg hc3]
  intro id hid hm
  by_cases e : id = (S i).length
  ·subst e
   simp only [if_true]
   have hir : i < r := by
    rcases Nat.lt_or_ge i r with h | h
    ·exact h
    ·have := R.mono hcall h (by omega)
     omega
   have up : ∀ d k, i + 1 + d = k → k ≤ r → hp (S k) (S i).length = b := by
    intro d
    induction d with
    | zero =>
     intro k hk _
     obtain rfl : k = i + 1 := by omega
     rw [hS]
     exact hp_new _ _
    | succ d ih =>
     intro k hk hkr
     obtain ⟨q, rfl⟩ : ∃ q, k = q + 1 := ⟨k - 1, by omega⟩
     have hqn : q < n := by have := I.r_le; omega
     rw [← ih q (by omega) (by omega)]
     by_cases hq : cls (o q).op ≠ 3 ∨ Region.wanted (o q) (yielded ops (T q)) = false
     ·refine R.hp_quiet hqn hq ?_
      have := R.mono hcall (show i + 1 ≤ q by omega) (by omega)
      omega
     ·simp only [ne_eq, not_or, Decidable.not_not, Bool.not_eq_false] at hq
      have hql : Lst listed q := (I.ch q hqn hq.1).2 (by omega)
      have h1 : ordA c i q = false := by
       cases h : ordA c i q with
       | false => rfl
       | true => exact absurd (R.closed (L := Lst listed) I.dc q hqn (I.dc q hqn hql) i h) hun
      have h2 : ordA c q i = false := by
       cases h : ordA c q i with
       | false => rfl
       | true => have := R.lt i hi q h; omega
      have := R.al i q (by omega) hqn hc hw hq.1 hq.2 h1 h2
      simp only [hp, this]
   exact (up (r - (i + 1)) r (by omega) (Nat.le_refl r)).symm
  ·simp only [e, if_false]
   rw [hext id e] at hm
   exact I.c1 id hid hm
 ·rw [if_neg hc3]
  intro k hk hkl hrk id h1 h2 hm
  by_cases e : k = i
  ·subst e
   obtain rfl : id = (S k).length := by omega
   simp only [if_true]
   rw [hS]
   exact (hp_new _ _).symm
  ·have hne : id ≠ (S i).length := by
    rcases Nat.lt_or_ge k i with h | h
    ·have := R.mono hcall (Nat.succ_le_of_lt h) (by omega)
     simp only [Nat.succ_eq_add_one] at this
     omega
    ·have := R.mono hcall (show i + 1 ≤ k by omega) (by omega)
     omega
   simp only [hne, if_false]
   rw [hext id hne] at hm
   exact I.c2 k hk (hkl.resolve_left e) hrk id h1 h2 hm
 ·intro id hid
  have : id ≠ (S i).length := by omega
  simp only [this, if_false]
  exact I.c4 id hid

theorem Inv.next_chain (R : Reg P st call ops n o T S c) (hcall : RunOk P w0 call) (I : Inv P w0 ops n o T S ρ0 wI aI listed a w ρ cur r) {i : Nat} (hi : i < n) (hun : ¬ Lst listed i) (hrd : ∀ k ∈ predsA (o i), Lst listed k)
  {v v' : Value} {w1 : World} {ρ1 : Ren} (hn : Nxt w0 ρ (S i) w ρ1 (S (i + 1)) w1) (hv : VR ρ1 v v') (hT : T (i + 1) = putT (T i) (o i).dst v) (hc : cls (o i).op = 3)
  (hat : ∀ id, id < (S i).length → ρ id ≠ none → cur id = hp (S i) id) (hri : r ≤ i) :
  ∃ cur1, Inv P w0 ops n o T S ρ0 wI aI (listed.setIfInBounds i true) (a.put (o i).dst v') w1 ρ1 cur1 (if cls (o i).op = 3 then i + 1 else r) := by
 have hfresh := I.fresh R hcall hi hun
 have hN : (S (i + 1)).length ≤ (S n).length := R.mono hcall (Nat.succ_le_of_lt hi) (Nat.le_refl n)
 have hle : ρ.le ρ1 := hn.ext.le hfresh
 have him : ∀ k, Img ρ (hp (S i)) k → ∃ id x y blk, ρ id = some (k, x, y) ∧ cur id = some blk ∧ id < (S i).length := by
  intro k ⟨id, x, y, blk, e1, e2⟩
  have := hp_lt e2
  exact ⟨id, x, y, blk, e1, by rw [hat id this (by rw [e1]; simp), e2], this⟩
 have hold : ∀ id, (S (i + 1)).length ≤ id → ρ1 id = ρ id := fun id h => hn.ext id (.inr h)
 refine ⟨fun id => if id < (S (i + 1)).length then hp (S (i + 1)) id else cur id, ?_⟩
 have hearly : ∀ id k x y blk, (S (i + 1)).length ≤ id → ρ id = some (k, x, y) → cur id = some blk → ¬ Img ρ (hp (S i)) k := by
  intro id k x y blk h e1 e2 hi'
  obtain ⟨id', x', y', blk', e3, e4, h5⟩ := him k hi'
  have := I.rel.inj id id' k x y x' y' blk blk' e1 e3 e2 e4
  have := R.len hcall hi
  omega
 refine I.next R hcall hi hun hrd ⟨hn.rel.below, hn.rel.dyn, ?_, ?_⟩ hle ?_ ?_ ⟨hn.fr.size, ?_, ?_⟩ hv hT ?_ ?_ ?_
 ·intro id k x y blk e1 e2
  by_cases e : id < (S (i + 1)).length
  ·simp only [e, if_true] at e2
   exact hn.rel.cont id k x y blk e1 e2
  ·simp only [e, if_false] at e2
   rw [hold id (by omega)] at e1
   obtain ⟨ob, ho, hcont⟩ := I.rel.cont id k x y blk e1 e2
   exact ⟨ob, (hn.fr.fr k (I.rel.dyn id k x y e1).2 (hearly id k x y blk (by omega) e1 e2)).trans ho, hcont.mono hle⟩
 ·intro p q k x y x' y' bp bq e1 e2 e3 e4
  have mixed : ∀ p q x y x' y' bp bq, p < (S (i + 1)).length → ¬ q < (S (i + 1)).length → ρ1 p = some (k, x, y) → ρ1 q = some (k, x', y') → hp (S (i + 1)) p = some bp → cur q = some bq → False := by
   intro p q x y x' y' bp bq h1 h2 e1 e2 e3 e4
   rw [hold q (by omega)] at e2
   exact hearly q k x' y' bq (by omega) e2 e4 (hn.fr.img k ⟨p, x, y, bp, e1, e3⟩ (I.rel.dyn q k x' y' e2).2)
  by_cases hp1 : p < (S (i + 1)).length
  ·simp only [hp1, if_true] at e3
   by_cases hq1 : q < (S (i + 1)).length
   ·simp only [hq1, if_true] at e4
    exact hn.rel.inj p q k x y x' y' bp bq e1 e2 e3 e4
   ·simp only [hq1, if_false] at e4
    exact (mixed p q x y x' y' bp bq hp1 hq1 e1 e2 e3 e4).elim
  ·simp only [hp1, if_false] at e3
   by_cases hq1 : q < (S (i + 1)).length
   ·simp only [hq1, if_true] at e4
    exact (mixed q p x' y' x y bq bp hq1 hp1 e2 e1 e4 e3).elim
   ·simp only [hq1, if_false] at e4
    rw [hold p (by omega)] at e1
    rw [hold q (by omega)] at e2
    exact I.rel.inj p q k x y x' y' bp bq e1 e2 e3 e4
 ·intro id hid
  refine hn.ext id ?_
  have := R.mono hcall (Nat.zero_le i) (by omega)
  omega
 ·intro id h
  by_cases e : (S i).length ≤ id ∧ id < (S (i + 1)).length
  ·exact .inr e
  ·rw [hn.ext id (by omega)] at h; exact .inl h
 ·intro k hk hi'
  exact hn.fr.fr k hk fun hx => hi' (let ⟨id, x, y, blk, e1, e2, _⟩ := him k hx; ⟨id, x, y, blk, e1, e2⟩)
 ·intro k ⟨id, x, y, blk, e1, e2⟩ hk
  by_cases e : id < (S (i + 1)).length
  ·simp only [e, if_true] at e2
   obtain ⟨id', x', y', blk', e3, e4, _⟩ := him k (hn.fr.img k ⟨id, x, y, blk, e1, e2⟩ hk)
   exact ⟨id', x', y', blk', e3, e4⟩
  ·simp only [e, if_false] at e2
   rw [hold id (by omega)] at e1
   exact ⟨id, x, y, blk, e1, e2⟩
 ·rw [if_pos hc]
  intro id hid _
  simp only [hid, if_true]
 ·rw [if_pos hc]
  intro k hk hkl hrk id h1 h2 hm
  have hne : ¬ id < (S (i + 1)).length := by
   have := R.mono hcall hrk (by omega)
   omega
  simp only [hne, if_false]
  rw [hold id (by omega)] at hm
  exact I.c2 k hk (hkl.resolve_left (by omega)) (by omega) id h1 h2 hm
 ·intro id hid
  have hne : ¬ id < (S (i + 1)).length := by omega
  simp only [hne, if_false]
  exact I.c4 id hid

theorem Inv.step (R : Reg P st call ops n o T S c) (hcall : RunOk P w0 call) (hst : GoodSt w0 st) {Q : Exit → Act → World → Prop} {K : Act → World → Prop} (I : Inv P w0 ops n o T S ρ0 wI aI listed a w ρ cur r) {i : Nat} (hi : i < n)
  (hun : ¬ Lst listed i) (hrd : ∀ k ∈ predsA (o i), Lst listed k) (hK : ∀ a1 w1 ρ1 cur1 r1, Inv P w0 ops n o T S ρ0 wI aI (listed.setIfInBounds i true) a1 w1 ρ1 cur1 r1 → K a1 w1) : wpOpIn (FR rd) 0 P ops Q i K a w := by
 unfold wpOpIn
 rw [R.op i hi]
 simp only
 have hsz : (T i).size = a.tmps.size := by rw [I.tsz, R.tsize i (by omega)]
 have hlk := fun t (ht : t ∈ (o i).looksAt ops) => I.looks R hi hun hrd ht
 obtain ⟨hg, hcase⟩ := step_cases (R.step i hi)
 rw [guard_looks hsz hlk hg]
 have hchain : cls (o i).op = 3 → r ≤ i ∧ ∀ id, id < (S i).length → ρ id ≠ none → cur id = hp (S i) id := by
  intro hc
  have hri : r ≤ i := by
   rcases Nat.lt_or_ge i r with h | h
   ·exact absurd ((I.ch i hi hc).2 h) hun
   ·exact h
  exact ⟨hri, I.at R hcall (by omega) hri fun k hk ck => R.closed (L := Lst listed) I.dc i hi hrd k (R.chain k i hk hi ck hc)⟩
 rcases hcase with ⟨hw, v, hv, hT⟩ | ⟨hw, hT, hS⟩
 ·rw [if_pos hw]
  have hev : ∀ x ∈ (o i).op.operands, VR ρ (evalT (T i) x) (a.eval x) := by
   intro x hx
   refine evalT_looks hsz (fun t ht => hlk t ?_) fun u hu => ?_
   ·unfold Oper.looksAt
    refine List.mem_append.2 (.inl ?_)
    rw [List.mem_filterMap]
    exact ⟨x, by simpa using hx, by rw [ht]⟩
   ·have hck : constsOk (o i).op = true := by
     unfold opA at hv
     split at hv
     ·assumption
     ·cases hv
    unfold constsOk at hck
    have := List.all_eq_true.1 hck x (by simpa using hx)
    rw [hu] at this
    exact this
  by_cases hc : cls (o i).op = 3
  ·obtain ⟨hri, hat⟩ := hchain hc
   have hR : Rel w0 ρ (hp (S i)) w := I.rel.congr fun id blk hm e => by rw [hat id (hp_lt e) hm, e]
   refine (opA_next hcall hst hR (I.fresh R hcall hi hun) hev hv).wp (constsOk_defer hv) fun v' w' ho => ?_
   obtain ⟨ρ1, hn, hvr⟩ := ho
   obtain ⟨cur1, I'⟩ := I.next_chain R hcall hi hun hrd hn hvr hT hc hat hri
   exact hK _ _ _ _ _ I'
  ·have hRs : Rel w0 ρ (hp (seen ρ cur (S n).length)) w := I.rel.congr fun id blk hm e => by
    rw [hp_seen] at e
    split at e
    ·exact e
    ·cases e
   rcases R.kinds hi hc hv with ⟨hS, hfree⟩ | ⟨hc1, hS, hl, hloads⟩ | ⟨hc2, b, hS, hnews⟩ | ⟨hS, hreads, hq⟩
   ·refine (opA_next hcall hst hRs (fun id h1 h2 => by omega) hev (hfree _)).wp (constsOk_defer hv) fun v' w' ho => ?_
    obtain ⟨ρ1, hn, hvr⟩ := ho
    exact hK _ _ _ _ _ (I.next_same R hcall hi hun hrd hn hvr hT hS hc)
   ·have hls := I.loads R hcall hi hun hrd hc1 hw hl (by
     intro t x y ho hy hsp
     have hx := hev x (by rw [ho]; simp [Op.operands])
     rw [hy] at hx
     generalize he : a.eval x = z at hx
     cases hx with
     | ptr _ a' ha =>
      rcases ha.2 with ⟨s, h1, _, _⟩ | ⟨_, b, base, N, h1, _, _⟩
      ·rw [hsp] at h1; cases h1
      ·rw [h1]; simp)
    refine (opA_next hcall hst hRs (fun id h1 h2 => by omega) hev (hloads _ hls)).wp (constsOk_defer hv) fun v' w' ho => ?_
    obtain ⟨ρ1, hn, hvr⟩ := ho
    exact hK _ _ _ _ _ (I.next_same R hcall hi hun hrd hn hvr hT hS hc)
   ·have hR0 : Rel w0 ρ (hp (List.replicate (S i).length none)) w := I.rel.congr fun id blk hm e => by
     unfold hp at e
     rw [List.getElem?_replicate] at e
     split at e <;> simp at e
    have hf : Fresh ρ (List.replicate (S i).length (none : Option Blk)).length (List.replicate (S i).length (none : Option Blk) ++ [b]).length := by
     intro id h1 h2
     simp at h1 h2
     refine I.fresh R hcall hi hun id h1 ?_
     rw [hS]
     simp
     omega
    refine (opA_next hcall hst hR0 hf hev (hnews _ (by simp))).wp (constsOk_defer hv) fun v' w' ho => ?_
    obtain ⟨ρ1, hn, hvr⟩ := ho
    obtain ⟨cur1, I'⟩ := I.next_new R hcall hi hun hrd hn hvr hT hS hc2 hw
    exact hK _ _ _ _ _ I'
   ·have hst0 := R.still hq
    have hld : ∀ src dst x a n' c', (o i).op = .convert src dst x → evalT (T i) x = .slice (some a) n' c' → n' ≠ 0 → loadN st (seen ρ cur (S n).length) a n' = loadN st (S i) a n' := by
     intro src dst x y n' c' ho hy hn0
     unfold loadN
     cases hsp : y.spot with
     | some q => rfl
     | none =>
      have hx := hev x (by rw [ho]; simp [Op.operands])
      rw [hy] at hx
      have hm : ρ y.block ≠ none := by
       generalize a.eval x = z at hx
       cases hx with
       | sliceX _ a' _ _ h1 h2 h3 =>
        rcases h3 with h3 | h3
        ·omega
        ·rcases h3.2 with ⟨q, h4, _, _⟩ | ⟨_, b, base, N, h4, _, _⟩
         ·rw [hsp] at h4; cases h4
         ·rw [h4]; simp
       | sliceU _ a' _ _ cap' sz h0 h1 h2 h3 =>
        rcases h3 with h3 | ⟨_, _, b, base, N, h4, _⟩
        ·omega
        ·rw [h4]; simp
      have e : (seen ρ cur (S n).length)[y.block]? = (S i)[y.block]? := by
       rw [hst0 n (Nat.le_refl n), hst0 i (by omega)]
       by_cases hlt : y.block < (S 0).length
       ·have h1 := I.c1 y.block (by rw [hst0 r I.r_le]; exact hlt) hm
        rw [hst0 r I.r_le] at h1
        have h2 : (S 0)[y.block]? = some (S 0)[y.block] := List.getElem?_eq_getElem hlt
        unfold hp at h1
        rw [h2] at h1
        unfold seen
        rw [List.getElem?_map, List.getElem?_range hlt, h2]
        cases hr : ρ y.block with
        | none => exact (hm hr).elim
        | some q =>
         simp only [Option.map_some, hr, Option.isSome_some, if_true, h1]
         rfl
       ·rw [List.getElem?_eq_none (by rw [seen_length]; omega), List.getElem?_eq_none (by omega)]
      simp only [e]
    refine (opA_next hcall hst hRs (fun id h1 h2 => by omega) hev (hreads _ hld)).wp (constsOk_defer hv) fun v' w' ho => ?_
    obtain ⟨ρ1, hn, hvr⟩ := ho
    exact hK _ _ _ _ _ (I.next_same R hcall hi hun hrd hn hvr hT hS hc)
 ·rw [if_neg (by rw [hw]; simp)]
  refine ⟨fun _ _ => trivial, hK _ _ ρ cur _ (I.next R hcall hi hun hrd I.rel (fun id x h => h) (.refl _ _ _) (fun id h => .inl h) (.refl _ _ _) (flat_VR ρ rfl) hT ?_ ?_ I.c4)⟩
  ·split
   ·rename_i hc
    rw [hS]
    exact (hchain hc).2
   ·exact I.c1
  ·intro k hk hkl hrk id h1 h2 hm
   rcases hkl with rfl | hkl
   ·rw [hS] at h2; omega
   ·refine I.c2 k hk hkl ?_ id h1 h2 hm
    split at hrk
    ·rename_i hc
     have := (hchain hc).1
     omega
    ·exact hrk

theorem filter_less {p q : Nat → Bool} : ∀ (l : List Nat), (∀ x ∈ l, q x = true → p x = true) → (∃ x ∈ l, p x = true ∧ q x = false) → (l.filter q).length < (l.filter p).length
 | [], _, ⟨x, hx, _⟩ => by simp at hx
 | y :: l, hqp, hex => by
  have hle : (l.filter q).length ≤ (l.filter p).length := by
   have : ∀ (l : List Nat), (∀ x ∈ l, q x = true → p x = true) → (l.filter q).length ≤ (l.filter p).length := by
    intro l
    induction l with
    | nil => intro _; simp
    | cons z l ih =>
     intro h
     have ih := ih fun x hx => h x (by simp [hx])
     have hz := h z (by simp)
     cases hq : q z with
     | true => simp [hq, hz hq, ih]
     | false => cases hp : p z <;> simp [hq, hp] <;> omega
   exact this l fun x hx => hqp x (by simp [hx])
  obtain ⟨x, hx, h1, h2⟩ := hex
  rcases List.mem_cons.1 hx with rfl | hx
  ·simp [h1, h2]
   omega
  ·have ih := filter_less l (fun x hx => hqp x (by simp [hx])) ⟨x, hx, h1, h2⟩
   have hy := hqp y (by simp)
   cases hq : q y with
   | true => simp [hq, hy hq, ih]
   | false => cases hp : p y <;> simp [hq, hp] <;> omega

def left (n : Nat) (listed : Array Bool) : Nat := ((List.range n).filter fun i => !listed.getD i false).length

theorem Inv.all (R : Reg P st call ops n o T S c) (hcall : RunOk P w0 call) (hst : GoodSt w0 st) {Q : Exit → Act → World → Prop}
  (hQ : ∀ a1 w1 ρ1, Nxt w0 ρ0 (S 0) wI ρ1 (S n) w1 → VRA ρ1 (T n) a1.tmps → a1.defers = aI.defers → Q .normal a1 w1) : ∀ (fuel : Nat) (listed : Array Bool) (a : Act) (w : World) (ρ : Ren) (cur : HF) (r : Nat),
  Inv P w0 ops n o T S ρ0 wI aI listed a w ρ cur r → left n listed ≤ fuel → wpAnyIn (FR rd) 0 P .any ops Q fuel listed a w := by
 have fin : ∀ (listed : Array Bool) (a : Act) (w : World) (ρ : Ren) (cur : HF) (r : Nat), Inv P w0 ops n o T S ρ0 wI aI listed a w ρ cur r → (∀ i, i < n → Lst listed i) → Q .normal a w := by
  intro listed a w ρ cur r I hall
  have hat := I.at R hcall (Nat.le_refl n) I.r_le fun k hk _ => hall k hk
  have heq : ∀ id blk, ρ id ≠ none → hp (S n) id = some blk → cur id = some blk := fun id blk hm e => by rw [hat id (hp_lt e) hm, e]
  refine hQ a w ρ ⟨R.mono hcall (Nat.zero_le n) (Nat.le_refl n), I.ext, I.fr.congr heq, I.rel.congr heq⟩ ?_ I.dfr
  refine ⟨by rw [I.tsz, R.tsize n (Nat.le_refl n)], fun t v v' hv hv' => ?_⟩
  obtain ⟨u, h1, h2⟩ := I.tmp t n (Nat.le_refl n) (fun i hi _ => ⟨fun _ => hi, fun _ => hall i hi⟩) v hv
  obtain rfl := Option.some.inj (h1.symm.trans hv')
  exact h2
 have nil_all : ∀ (listed : Array Bool), listed.size = n → Region.ready .any ops listed = [] → ∀ i, i < n → Lst listed i := by
  intro listed hs hr i
  induction i using Nat.strongRecOn with
  | _ i ih =>
   intro hi
   cases hl : listed.getD i false with
   | true => exact hl
   | false =>
    exfalso
    have : i ∈ Region.ready .any ops listed := by
     rw [mem_ready]
     refine ⟨?_, o i, R.op i hi, fun e he hb => ?_⟩
     ·have hi' : i < listed.size := by omega
      simp [hi'] at hl ⊢
      exact hl
     ·have hk : e.on ∈ predsA (o i) := by
       unfold predsA
       rw [List.mem_filterMap]
       exact ⟨e, by simpa using he, by simp [hb]⟩
      have := R.pre i hi _ hk
      exact ih _ this (by omega)
    rw [hr] at this
    cases this
 intro fuel
 induction fuel with
 | zero =>
  intro listed a w ρ cur r I hl
  have hall : ∀ i, i < n → Lst listed i := by
   intro i hi
   cases hh : listed.getD i false with
   | true => exact hh
   | false =>
    exfalso
    have : i ∈ (List.range n).filter fun i => !listed.getD i false := by
     rw [List.mem_filter]
     exact ⟨by simp [hi], by simp [hh]⟩
    unfold left at hl
    have h0 : (List.range n).filter (fun i => !listed.getD i false) = [] := List.eq_nil_of_length_eq_zero (by omega)
    rw [h0] at this
    cases this
  refine ⟨?_, fin listed a w ρ cur r I hall⟩
  cases hr : Region.ready .any ops listed with
  | nil => rfl
  | cons x xs =>
   exfalso
   have hx : x ∈ Region.ready .any ops listed := by rw [hr]; simp
   rw [mem_ready] at hx
   obtain ⟨h1, ox, h2, _⟩ := hx
   have hxn : x < n := by
    have := (Array.getElem?_eq_some_iff.1 h2).1
    rw [R.size] at this
    exact this
   have := hall x hxn
   unfold Lst at this
   have hx' : x < listed.size := by rw [I.hsz]; exact hxn
   simp [hx'] at h1 this
   rw [h1] at this
   cases this
 | succ fuel ih =>
  intro listed a w ρ cur r I hl
  refine ⟨fun hr => fin listed a w ρ cur r I (nil_all listed I.hsz hr), fun i hi => ?_⟩
  rw [mem_ready] at hi
  obtain ⟨h1, oi, h2, h3⟩ := hi
  have hin : i < n := by
   have := (Array.getElem?_eq_some_iff.1 h2).1
   rw [R.size] at this
   exact this
  obtain rfl : oi = o i := Option.some.inj (h2.symm.trans (R.op i hin))
  have hi' : i < listed.size := by rw [I.hsz]; exact hin
  have hun : ¬ Lst listed i := by
   unfold Lst
   simp [hi'] at h1 ⊢
   exact h1
  refine I.step R hcall hst hin hun (fun k hk => ?_) fun a1 w1 ρ1 cur1 r1 I' => ih _ _ _ _ _ _ I' ?_
  ·unfold predsA at hk
   rw [List.mem_filterMap] at hk
   obtain ⟨e, he, hb⟩ := hk
   split at hb
   ·rename_i hb1
    obtain rfl := Option.some.inj hb
    exact h3 e (by simpa using he) hb1
   ·cases hb
  ·have : left n (listed.setIfInBounds i true) < left n listed := by
    unfold left
    refine filter_less _ (fun x _ hx => ?_) ⟨i, by simp [hin], ?_, ?_⟩
    ·simp only [Bool.not_eq_true'] at hx ⊢
     by_cases e : i = x
     ·subst e
      simp [hi'] at hx
     ·rwa [getD_set_ne false e] at hx
    ·unfold Lst at hun
     simpa using hun
    ·simp [hi']
   omega

theorem drawA_sound {Q : Exit → Act → World → Prop} {id : Nat} {τ τ' : Array Value} {σ σ' : Heap} (hcall : RunOk P w0 call) (hst : GoodSt w0 st) (hm : P.follows .mixedOrders = true) (h : drawA P st call ops τ σ = some (τ', σ'))
  (hR : Rel w0 ρ (hp σ) w) (hfr : Fresh ρ σ.length σ'.length) (ht : VRA ρ τ a.tmps)
  (hQ : ∀ a1 w1 ρ1, Nxt w0 ρ σ w ρ1 σ' w1 → VRA ρ1 τ' a1.tmps → a1.defers = a.defers → Q .normal a1 w1) : (Code.region id ops true).wpIn (FR rd) 0 P Q a w := by
 unfold drawA at h
 split at h
 ·rename_i hs
  split at h
  ·rename_i tr htr
   split at h
   ·rename_i hd
    obtain ⟨o, T, S, R, h0, h1, hl⟩ := reg_of_draw hs htr hd
    rw [h] at hl
    simp only [Option.some.injEq, Prod.mk.injEq] at hl
    obtain ⟨rfl, rfl⟩ := hl
    subst h0
    subst h1
    have hnl : ∀ i, ¬ Lst (Array.replicate ops.size false) i := by
     intro i
     unfold Lst
     by_cases h : i < ops.size <;> simp [h]
    have I : Inv P w0 ops ops.size o T S ρ w a (Array.replicate ops.size false) a { w with drawn := w.drawn + 1 } ρ (hp (S 0)) 0 := by
     refine ⟨by simp, fun i _ hl => absurd hl (hnl i), Nat.zero_le _, fun i _ _ => ⟨fun h => absurd h (hnl i), fun h => by omega⟩, hR.drew _, fun _ _ _ => rfl, fun i _ hl => absurd hl (hnl i), ?_, ?_, .refl _ _ _,
      ⟨Nat.le_refl _, fun _ _ _ => rfl, fun _ h _ => h⟩, ht.1.symm, ?_, rfl⟩
     ·intro id hid
      have := R.mono hcall (Nat.zero_le _) (Nat.le_refl _)
      simp [hp, List.getElem?_eq_none (show (S 0).length ≤ id by omega)]
     ·intro id hid
      rcases Nat.lt_or_ge id (S 0).length with h | h
      ·exact .inl h
      ·rcases Nat.lt_or_ge id (S ops.size).length with h' | h'
       ·exact absurd (hfr id h h') hid
       ·exact .inr (.inl h')
     ·intro t m hm hw v hv
      have hk : (T m)[t]? = (T 0)[t]? := R.tkeep (Nat.zero_le m) hm fun k _ hkm hkd => absurd ((hw k (by omega) hkd).2 hkm) (hnl k)
      rw [hk] at hv
      exact ht.get hv
    refine wpIn_region_any hm (Inv.all R hcall hst (fun a1 w1 ρ1 hn hv hdf => hQ a1 w1 ρ1 hn hv hdf) _ _ _ _ _ _ _ I ?_)
    unfold left
    have := List.length_filter_le (fun i => !(Array.replicate ops.size false).getD i false) (List.range ops.size)
    simpa using this
   ·cases h
  ·cases h
 ·cases h
end
end Go.AE
