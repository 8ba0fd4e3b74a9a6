/-
 A region whose order is open: whatever order its edges allow, it comes to what the evaluator says.
 Conditions: what is known of the old blocks is so (GoodSt); the callees do what the evaluator was told of them; the program follows mixed orders.
-/
import Derived.Test.YtfdldnomelnbgaaGreatDoorAeOp5
import Derived.Test.YtfdldnomelnbgaaGreatDoorAeDef2
namespace Go.AE
open Go Go.RowKit

theorem veqD_eq : ∀ (n : Nat) (x y : Value), veqD n x y = true → x = y := by
 intro n
 induction n with
 | zero => intro x y h; simp [veqD] at h
 | succ n ih =>
  have arr : ∀ a b : Array Value, a.size = b.size → (a.toList.zip b.toList).all (fun p => veqD n p.1 p.2) = true → a = b := by
   intro a b hs h
   apply Array.ext hs
   intro i h1 h2
   refine ih _ _ (List.all_eq_true.1 h (a[i], b[i]) ?_)
   refine List.mem_of_getElem? (i := i) ?_
   rw [List.getElem?_zip_eq_some]
   exact ⟨by simp [h1], by simp [h2]⟩
  intro x y h
  cases x <;> cases y <;> simp only [veqD, Bool.and_eq_true, beq_iff_eq, decide_eq_true_eq] at h <;> first
   | (cases h; done)
   | (rw [h]; done)
   | rfl
   | (rw [h.1, h.2]; done)
   | (rw [h.1.1, h.1.2, h.2]; done)
   | (rw [arr _ _ h.1 h.2]; done)
   | (rw [h.1, ih _ _ h.2]; done)
   | (rw [h.1.1.1.1, arr _ _ h.1.1.1.2 h.1.2, arr _ _ h.1.1.2 h.2]; done)
theorem veq_eq {x y : Value} (h : veq x y = true) : x = y := veqD_eq 5 x y h
theorem vEqO_eq {x y : Option Value} (h : vEqO x y = true) : ∃ v, x = some v ∧ y = some v := by
 cases x <;> cases y <;> simp [vEqO] at h
 exact ⟨_, rfl, by rw [veq_eq h]⟩
theorem blkEq_eq {x y : Option (Option Blk)} (h : blkEq x y = true) : x = y := by
 unfold blkEq at h
 split at h
 ·rename_i a b
  simp only [Bool.and_eq_true, beq_iff_eq] at h
  have : a = b := by
   apply List.ext_getElem h.1
   intro i h1 h2
   refine veq_eq (List.all_eq_true.1 h.2 (a[i], b[i]) ?_)
   refine List.mem_of_getElem? (i := i) ?_
   rw [List.getElem?_zip_eq_some]
   exact ⟨by simp [h1], by simp [h2]⟩
  rw [this]
 ·rfl
 ·cases h

theorem foldl_bits (f : Nat → Nat) : ∀ (ks : List Nat) (s i : Nat), (ks.foldl (fun s k => s ||| 2 ^ k ||| f k) s).testBit i = true → s.testBit i = true ∨ ∃ k ∈ ks, i = k ∨ (f k).testBit i = true
 | [], s, i, h => .inl h
 | k :: ks, s, i, h => by
  simp only [List.foldl_cons] at h
  rcases foldl_bits f ks _ i h with h | ⟨j, hj, h⟩
  ·simp only [Nat.testBit_or, Nat.testBit_two_pow, Bool.or_eq_true, decide_eq_true_eq] at h
   rcases h with (h | h) | h
   ·exact .inl h
   ·exact .inr ⟨k, by simp, .inl h.symm⟩
   ·exact .inr ⟨k, by simp, .inr h⟩
  ·exact .inr ⟨j, by simp [hj], h⟩

theorem closeA_spec : ∀ (l : List Oper) (acc : List Nat) (j : Nat) (o : Oper), l[j]? = some o → ∃ acc' : List Nat, (closeA l acc).getD (acc.length + j) 0 = (predsA o).foldl (fun s k => s ||| 2 ^ k ||| acc'.getD k 0) 0 ∧
  (∀ k, k < acc.length + j → acc'.getD k 0 = (closeA l acc).getD k 0) ∧ acc'.length = acc.length + j
 | [], acc, j, o, h => by simp at h
 | x :: l, acc, 0, o, h => by
  obtain rfl : x = o := by simpa using h
  have hpre : ∀ (l : List Oper) (acc : List Nat), acc <+: closeA l acc := by
   intro l
   induction l with
   | nil => intro acc; exact List.prefix_refl _
   | cons o l ih => intro acc; exact (List.prefix_append _ _).trans (ih _)
  refine ⟨acc, ?_, ?_, rfl⟩
  ·obtain ⟨t, ht⟩ := hpre l (acc ++ [(predsA x).foldl (fun s k => s ||| 2 ^ k ||| acc.getD k 0) 0])
   simp only [closeA]
   rw [← ht]
   simp
  ·intro k hk
   obtain ⟨t, ht⟩ := hpre (x :: l) acc
   rw [← ht]
   simp only [Nat.add_zero] at hk
   simp [List.getElem?_append_left hk]
 | x :: l, acc, j + 1, o, h => by
  obtain ⟨acc', h1, h2, h3⟩ := closeA_spec l (acc ++ [(predsA x).foldl (fun s k => s ||| 2 ^ k ||| acc.getD k 0) 0]) j o (by simpa using h)
  simp only [List.length_append, List.length_singleton] at h1 h2 h3
  refine ⟨acc', ?_, ?_, by omega⟩
  ·simp only [closeA]
   rw [← h1]
   congr 1
   omega
  ·intro k hk
   simp only [closeA]
   exact h2 k (by omega)

section
variable {P : Program} {w0 : World} {ρ : Ren} {w : World}

theorem traceA_spec {st : AE.Stat} {call : CallA} {ops : Array Oper} : ∀ (l : List Oper) (τ : Array Value) (σ : Heap) (tr : List (Array Value × Heap)), traceA P st call ops l τ σ = some tr →
  tr.length = l.length + 1 ∧ tr[0]? = some (τ, σ) ∧ ∀ i o, l[i]? = some o → ∃ s t, tr[i]? = some s ∧ tr[i + 1]? = some t ∧ stepA P st call ops o s.1 s.2 = some t
 | [], τ, σ, tr, h => by
  simp only [traceA, Option.some.injEq] at h
  subst h
  exact ⟨rfl, rfl, fun i o h => by simp at h⟩
 | o :: l, τ, σ, tr, h => by
  simp only [traceA] at h
  split at h
  ·rename_i τ1 σ1 h1
   simp only [Option.map_eq_some_iff] at h
   obtain ⟨tr1, h2, rfl⟩ := h
   obtain ⟨a, b, c⟩ := traceA_spec l τ1 σ1 tr1 h2
   refine ⟨by simp [a], rfl, fun i x hx => ?_⟩
   cases i with
   | zero =>
    obtain rfl : o = x := by simpa using hx
    exact ⟨(τ, σ), (τ1, σ1), rfl, by simpa using b, h1⟩
   | succ i =>
    obtain ⟨s, t, h3, h4, h5⟩ := c i x (by simpa using hx)
    exact ⟨s, t, by simpa using h3, by simpa using h4, h5⟩
  ·cases h

theorem drawA_len {st : AE.Stat} {call : CallA} {ops : Array Oper} {τ τ' : Array Value} {σ σ' : Heap} (hcall : RunOk P w0 call) (h : drawA P st call ops τ σ = some (τ', σ')) : σ.length ≤ σ'.length := by
 unfold drawA at h
 split at h
 ·split at h
  ·rename_i tr htr
   split at h
   ·have key : ∀ (l : List Oper) (τ : Array Value) (σ : Heap) (tr : List (Array Value × Heap)), traceA P st call ops l τ σ = some tr → ∀ x, tr.getLast? = some x → σ.length ≤ x.2.length := by
     intro l
     induction l with
     | nil =>
      intro τ σ tr h x hx
      simp only [traceA, Option.some.injEq] at h
      subst h
      simp at hx
      rw [← hx]; exact Nat.le_refl _
     | cons o l ih =>
      intro τ σ tr h x hx
      simp only [traceA] at h
      split at h
      ·rename_i τ1 σ1 h1
       simp only [Option.map_eq_some_iff] at h
       obtain ⟨tr1, h2, rfl⟩ := h
       have hne : tr1 ≠ [] := by
        intro e
        have := (traceA_spec l τ1 σ1 tr1 h2).1
        rw [e] at this
        simp at this
       rw [List.getLast?_cons, ] at hx
       have hx' : tr1.getLast? = some x := by
        cases hl : tr1.getLast? with
        | none => simp at hl; exact absurd hl hne
        | some y => rw [hl] at hx; simpa using hx
       exact Nat.le_trans (stepA_len hcall h1) (ih _ _ _ h2 x hx')
      ·cases h
    exact key _ _ _ _ htr _ h
   ·cases h
  ·cases h
 ·cases h

structure Reg (P : Program) (st : Stat) (call : CallA) (ops : Array Oper) (n : Nat) (o : Nat → Oper) (T : Nat → Array Value) (S : Nat → Heap) (c : List Nat) : Prop where
 size : ops.size = n
 op : ∀ i, i < n → ops[i]? = some (o i)
 step : ∀ i, i < n → stepA P st call ops (o i) (T i) (S i) = some (T (i + 1), S (i + 1))
 pre : ∀ i, i < n → ∀ k ∈ predsA (o i), k < i
 sel : ∀ i, i < n → isSelect (o i).op = false
 tmp : ∀ i j, i < j → j < n → (Oper.apart ops (o i) (o j) = true ∧ Oper.apart ops (o j) (o i) = true) ∨ ordA c i j = true
 chain : ∀ i j, i < j → j < n → cls (o i).op = 3 → cls (o j).op = 3 → ordA c i j = true
 cl : ∀ j, j < n → ∀ i, ordA c i j = true → ∃ k ∈ predsA (o j), i = k ∨ ordA c i k = true
 ld : ∀ i j, i < n → j < n → cls (o i).op = 1 → Region.wanted (o i) (yielded ops (T i)) = true → cls (o j).op = 3 → Region.wanted (o j) (yielded ops (T j)) = true → ordA c i j = false → ordA c j i = false →
  loadAtA P st (T i) (o i) (S j) = loadAtA P st (T i) (o i) (S (j + 1))
 cv : (∀ i, i < n → convOk P (o i).op = true) ∨ ∀ i, i < n → (convOk P (o i).op = true ∨ convS P (o i).op = true) ∧ cls (o i).op < 2
 al : ∀ i j, i < j → j < n → cls (o i).op = 2 → Region.wanted (o i) (yielded ops (T i)) = true → cls (o j).op = 3 → Region.wanted (o j) (yielded ops (T j)) = true → ordA c i j = false → ordA c j i = false →
  (S j)[(S i).length]? = (S (j + 1))[(S i).length]?

theorem storeN_load {st : AE.Stat} {σ σ' : Heap} {p q : Addr} {vs : List Value} {m : Nat} (h : storeN σ q vs = some σ') (ha : p.spot.isSome = true ∨ p.block ≠ q.block ∨ p.off + m ≤ q.off ∨ q.off + vs.length ≤ p.off) : loadN st σ p m = loadN st σ' p m := by
 unfold storeN at h
 split at h
 ·cases h
 ·rename_i hq
  split at h
  ·rename_i l hl
   split at h
   ·rename_i hle
    simp only [Bool.and_eq_true, decide_eq_true_eq] at hle
    obtain rfl := Option.some.inj h
    unfold loadN
    cases hs : p.spot with
    | some s => rfl
    | none =>
     simp only [hs, Option.isSome_none, Bool.false_eq_true, false_or] at ha
     simp only
     by_cases hb : p.block = q.block
     ·have hd := ha.resolve_left (fun e => e hb)
      rw [hb, hl, List.getElem?_set_self (List.getElem?_eq_some_iff.1 hl).1]
      simp only
      have hlen : (l.take q.off ++ vs ++ l.drop (q.off + vs.length)).length = l.length := by simp; omega
      rw [hlen]
      split
      ·rename_i hin
       congr 1
       apply List.ext_getElem?
       intro i
       rw [List.getElem?_take, List.getElem?_take]
       split
       ·rename_i him
        rw [List.getElem?_drop, List.getElem?_drop]
        have htl : (l.take q.off).length = q.off := by simp; omega
        rcases hd with hd | hd
        ·rw [List.append_assoc, List.getElem?_append_left (by omega), List.getElem?_take, if_pos (by omega)]
        ·rw [List.append_assoc, List.getElem?_append_right (by omega), htl, List.getElem?_append_right (by omega), List.getElem?_drop]
         congr 1
         omega
       ·rfl
      ·rfl
     ·rw [List.getElem?_set_ne (fun e => hb e.symm)]
   ·cases h
  ·cases h

theorem apartA_spec {st : AE.Stat} {call : CallA} {τi τj : Array Value} {x y : Oper} {σ σ' : Heap} {v : Value} (ha : apartA P τi τj x y = true) (h : opA P st call (evalT τj) y σ = some (v, σ')) : loadAtA P st τi x σ = loadAtA P st τi x σ' := by
 unfold apartA at ha
 split at ha
 ·rename_i t a u b c hx hy
  split at ha
  ·rename_i p q hp hq
   unfold loadAtA
   simp only [hx, hp]
   unfold opA at h
   split at h
   ·split at h
    ·simp only [Option.some.injEq, Prod.mk.injEq] at h
     rw [h.2]
    ·rw [hy] at h
     simp only [specA, hq, Option.map_eq_some_iff, Prod.mk.injEq] at h
     obtain ⟨σ2, hs, _, rfl⟩ := h
     unfold storeV at hs
     cases hk : sizeA P u with
     | none => simp [hk] at hs
     | some k =>
      simp only [hk] at hs
      split at hs
      ·rename_i hlen
       have hvl : (evalT τj c).cells.toList.length = k := by simpa using hlen
       have key : ∀ m, (p.spot.isSome = true ∨ p.block ≠ q.block ∨ p.off + m ≤ q.off ∨ q.off + k ≤ p.off) → loadN st σ p m = loadN st σ2 p m := fun m hm => storeN_load hs (by rw [hvl]; exact hm)
       unfold loadV
       cases hd : P.underlying t with
       | none => rfl
       | some d =>
        simp only [hk, hd, Bool.or_eq_true, bne_iff_ne, ne_eq] at ha
        simp only
        cases hag : aggDesc d with
        | true =>
         simp only [hag, if_true] at ha ⊢
         cases hm : sizeA P t with
         | none => rfl
         | some m =>
          simp only [hm, Bool.or_eq_true, decide_eq_true_eq] at ha
          simp only
          rw [key m (by rcases ha with (h | h) | (h | h) <;> simp [h])]
        | false =>
         simp only [hag, Bool.false_eq_true, if_false] at ha ⊢
         have : p.spot.isSome = true ∨ p.block ≠ q.block ∨ p.off + 1 ≤ q.off ∨ q.off + k ≤ p.off := by
          cases hm : sizeA P t with
          | none =>
           simp only [hm, Bool.false_eq_true, or_false] at ha
           rcases ha with h | h <;> simp [h]
          | some m =>
           simp only [hm, Bool.or_eq_true, decide_eq_true_eq] at ha
           rcases ha with (h | h) | (h | h) <;> simp [h]
         rw [key 1 this]
      ·cases hs
   ·cases h
  ·cases ha
 ·cases ha

theorem step_op {st : AE.Stat} {call : CallA} {ops : Array Oper} {o : Oper} {τ τ' : Array Value} {σ σ' : Heap} (h : stepA P st call ops o τ σ = some (τ', σ')) (hw : Region.wanted o (yielded ops τ) = true) : ∃ v, opA P st call (evalT τ) o σ = some (v, σ') := by
 unfold stepA at h
 simp only [hw, if_true] at h
 split at h
 ·split at h
  ·rename_i v σ1 h1
   simp only [Option.some.injEq, Prod.mk.injEq] at h
   exact ⟨v, by rw [h1, h.2]⟩
  ·cases h
 ·cases h

theorem reg_of_draw {st : AE.Stat} {call : CallA} {ops : Array Oper} {τ : Array Value} {σ : Heap} {tr : List (Array Value × Heap)} (hs : staticP P ops = true) (ht : traceA P st call ops ops.toList τ σ = some tr)
  (hd : dynB P st ops tr = true) : ∃ (o : Nat → Oper) (T : Nat → Array Value) (S : Nat → Heap), Reg P st call ops ops.size o T S (closeA ops.toList []) ∧ T 0 = τ ∧ S 0 = σ ∧ tr.getLast? = some (T ops.size, S ops.size) := by
 obtain ⟨hlen, h0, hst⟩ := traceA_spec _ _ _ _ ht
 simp only [Array.length_toList] at hlen
 let T : Nat → Array Value := fun i => (tr.getD i (τ, σ)).1
 let S : Nat → Heap := fun i => (tr.getD i (τ, σ)).2
 let o : Nat → Oper := fun i => ops.getD i default
 have hop : ∀ i, i < ops.size → ops[i]? = some (o i) := fun i hi => by simp [o, hi]
 have htr : ∀ i, i ≤ ops.size → tr[i]? = some (T i, S i) := by
  intro i hi
  have hi' : i < tr.length := by omega
  simp [T, S, hi']
 have hopl : ∀ i, i < ops.size → ops.toList[i]? = some (o i) := fun i hi => by simpa using hop i hi
 have mem : ∀ i, i < ops.size → (o i, i) ∈ ops.toList.zipIdx := by
  intro i hi
  refine List.mem_of_getElem? (i := i) ?_
  simp [List.getElem?_zipIdx, hop i hi]
 have hd' : dynOk P st ops tr = true ∨ DynP P st ops tr := by
  unfold dynB at hd
  simpa using hd
 unfold staticP staticOk at hs
 simp only [List.all_eq_true, Bool.and_eq_true, Bool.or_eq_true, decide_eq_true_eq] at hs
 obtain ⟨hs, hcv⟩ := hs
 have hpair : ∀ i j, i < j → j < ops.size → pairOk ops (closeA ops.toList []) i (o i) j (o j) = true := by
  intro i j hij hj
  have := (hs (o i, i) (mem i (by omega))).2 (o j, j) (mem j hj)
  simpa [hij] using this
 refine ⟨o, T, S, ⟨rfl, hop, ?_, ?_, ?_, ?_, ?_, ?_, ?_, hcv.imp (fun h i hi => h _ (List.mem_of_getElem? (hopl i hi))) (fun h i hi => h _ (List.mem_of_getElem? (hopl i hi))), ?_⟩, ?_, ?_, ?_⟩
 ·intro i hi
  obtain ⟨s, t, h1, h2, h3⟩ := hst i (o i) (hopl i hi)
  rw [htr i (by omega)] at h1
  rw [htr (i + 1) (by omega)] at h2
  obtain rfl := Option.some.inj h1
  obtain rfl := Option.some.inj h2
  exact h3
 ·intro i hi k hk
  have := (hs (o i, i) (mem i hi)).1.1 k hk
  simpa using this
 ·intro i hi
  have := (hs (o i, i) (mem i hi)).1.2
  simpa using this
 ·intro i j hij hj
  have := hpair i j hij hj
  unfold pairOk at this
  simp only [Bool.and_eq_true, Bool.or_eq_true] at this
  exact this.1
 ·intro i j hij hj ci cj
  have := hpair i j hij hj
  unfold pairOk at this
  simp only [Bool.and_eq_true, Bool.or_eq_true, bne_iff_ne, ne_eq] at this
  rcases this.2 with (h | h) | h
  ·exact absurd ci h
  ·exact absurd cj h
  ·exact h
 ·intro j hj i h
  obtain ⟨acc', h1, h2, _⟩ := closeA_spec ops.toList [] j (o j) (hopl j hj)
  simp only [List.length_nil, Nat.zero_add] at h1 h2
  unfold ordA at h
  rw [h1] at h
  rcases foldl_bits _ _ _ _ h with h | ⟨k, hk, h⟩
  ·simp at h
  ·refine ⟨k, hk, h.imp id fun h => ?_⟩
   have hkj : k < j := by
    have := (hs (o j, j) (mem j hj)).1.1 k hk
    simpa using this
   unfold ordA
   rw [← h2 k hkj]
   exact h
 ·intro i j hi hj ci wi cj wj oij oji
  rcases hd' with hd | hd
  case inr => exact (hd i j _ _ _ _ _ _ _ _ (hop i hi) (hop j hj) (htr i (by omega)) (htr j (by omega)) (htr (j + 1) (by omega)) wi wj cj oij oji).1 ci
  unfold dynOk at hd
  simp only [List.all_eq_true] at hd
  have h1 := hd (o i, i) (mem i hi)
  simp only [htr i (by omega), ci, beq_self_eq_true, Bool.true_or, wi, Bool.and_self, if_true, List.all_eq_true] at h1
  have h2 := h1 (o j, j) (mem j hj)
  simp only [htr j (by omega), htr (j + 1) (by omega), cj, beq_self_eq_true, wj, oij, oji, Bool.not_false, Bool.and_self, if_true, Bool.or_eq_true] at h2
  rcases h2 with h2 | h2
  ·obtain ⟨s, t, h3, h4, h5⟩ := hst j (o j) (hopl j hj)
   rw [htr j (by omega)] at h3
   rw [htr (j + 1) (by omega)] at h4
   obtain rfl := Option.some.inj h3
   obtain rfl := Option.some.inj h4
   obtain ⟨v, hv⟩ := step_op h5 wj
   exact apartA_spec h2 hv
  ·obtain ⟨v, a, b⟩ := vEqO_eq h2
   exact a.trans b.symm
 ·intro i j hij hj ci wi cj wj oij oji
  rcases hd' with hd | hd
  case inr => exact (hd i j _ _ _ _ _ _ _ _ (hop i (by omega)) (hop j hj) (htr i (by omega)) (htr j (by omega)) (htr (j + 1) (by omega)) wi wj cj oij oji).2 ci hij
  unfold dynOk at hd
  simp only [List.all_eq_true] at hd
  have h1 := hd (o i, i) (mem i (by omega))
  have c21 : ((2 : Nat) == 1) = false := rfl
  simp only [htr i (by omega), ci, c21, beq_self_eq_true, Bool.or_true, wi, Bool.and_self, if_true, List.all_eq_true] at h1
  have h2 := h1 (o j, j) (mem j hj)
  simp only [htr j (by omega), htr (j + 1) (by omega), cj, beq_self_eq_true, wj, oij, oji, Bool.not_false, Bool.and_self, if_true, Bool.false_eq_true, if_false, hij] at h2
  exact blkEq_eq h2
 ·simp [T, h0]
 ·simp [S, h0]
 ·rw [List.getLast?_eq_getElem?, hlen, Nat.add_sub_cancel]
  exact htr _ (Nat.le_refl _)

section
variable {st : AE.Stat} {call : CallA} {ops : Array Oper} {n : Nat} {o : Nat → Oper} {T : Nat → Array Value} {S : Nat → Heap} {c : List Nat}

theorem Reg.lt (R : Reg P st call ops n o T S c) : ∀ j, j < n → ∀ i, ordA c i j = true → i < j := by
 intro j
 induction j using Nat.strongRecOn with
 | _ j ih =>
  intro hj i h
  obtain ⟨k, hk, h | h⟩ := R.cl j hj i h
  ·rw [h]; exact R.pre j hj k hk
  ·have hkj := R.pre j hj k hk
   exact Nat.lt_trans (ih k hkj (by omega) i h) hkj

theorem Reg.closed (R : Reg P st call ops n o T S c) {L : Nat → Prop} (hL : ∀ i, i < n → L i → ∀ k ∈ predsA (o i), L k) : ∀ j, j < n → (∀ k ∈ predsA (o j), L k) → ∀ i, ordA c i j = true → L i := by
 intro j
 induction j using Nat.strongRecOn with
 | _ j ih =>
  intro hj hp i h
  obtain ⟨k, hk, h | h⟩ := R.cl j hj i h
  ·rw [h]; exact hp k hk
  ·have hkj := R.pre j hj k hk
   exact ih k hkj (by omega) (hL k (by omega) (hp k hk)) i h

theorem step_cases {o : Oper} {τ τ' : Array Value} {σ σ' : Heap} (h : stepA P st call ops o τ σ = some (τ', σ')) : guardOk ops o τ = true ∧
  ((Region.wanted o (yielded ops τ) = true ∧ ∃ v, opA P st call (evalT τ) o σ = some (v, σ') ∧ τ' = putT τ o.dst v) ∨ (Region.wanted o (yielded ops τ) = false ∧ τ' = putT τ o.dst undef ∧ σ' = σ)) := by
 unfold stepA at h
 split at h
 ·rename_i hg
  refine ⟨hg, ?_⟩
  split at h
  ·rename_i hw
   split at h
   ·rename_i v σ1 h1
    simp only [Option.some.injEq, Prod.mk.injEq] at h
    obtain ⟨rfl, rfl⟩ := h
    exact .inl ⟨hw, v, h1, rfl⟩
   ·cases h
  ·rename_i hw
   simp only [Option.some.injEq, Prod.mk.injEq] at h
   obtain ⟨rfl, rfl⟩ := h
   exact .inr ⟨by simpa using hw, rfl, rfl⟩
 ·cases h

def Free (P : Program) (st : Stat) (call : CallA) (τ : Array Value) (o : Oper) (v : Value) : Prop := ∀ σ2, opA P st call (evalT τ) o σ2 = some (v, σ2)
def Loads (P : Program) (st : Stat) (call : CallA) (τ : Array Value) (o : Oper) (v : Value) : Prop := ∀ σ2, loadAtA P st τ o σ2 = some v → opA P st call (evalT τ) o σ2 = some (v, σ2)
def News (P : Program) (st : Stat) (call : CallA) (τ : Array Value) (o : Oper) (v : Value) (len : Nat) (b : Option Blk) : Prop := ∀ σ2, σ2.length = len → opA P st call (evalT τ) o σ2 = some (v, σ2 ++ [b])

theorem convA_none {σ : Heap} {src dst : TypeId} {x : Operand} {y : Value} (h : convOk P (.convert src dst x) = true) : convA P st σ src dst y = none := by
 simp only [convOk] at h
 unfold convA
 split at h <;> first | (cases h; done) | skip
 rename_i h1 h2
 split
 ·rename_i e _ _ hd
  exact absurd hd (h2 _)
 ·rename_i e _ _ _ hs _
  exact absurd hs (h1 _)
 ·rfl
theorem opA_cls {o : Oper} {τ : Array Value} {σ σ' : Heap} {v : Value} (hcv : convOk P o.op = true) (hc : cls o.op ≠ 3) (h : opA P st call (evalT τ) o σ = some (v, σ')) :
  (σ' = σ ∧ Free P st call τ o v) ∨ (cls o.op = 1 ∧ σ' = σ ∧ loadAtA P st τ o σ = some v ∧ Loads P st call τ o v) ∨ (cls o.op = 2 ∧ ∃ b, σ' = σ ++ [b] ∧ News P st call τ o v σ.length b) := by
 unfold Free Loads News
 unfold opA at h ⊢
 split at h
 ·rename_i hk
  simp only [hk, if_true]
  cases hu : peekA P (evalT τ) o with
  | some u =>
   simp only [hu, Option.some.injEq, Prod.mk.injEq] at h
   obtain ⟨rfl, rfl⟩ := h
   exact .inl ⟨rfl, fun σ2 => rfl⟩
  | none =>
   simp only [hu] at h
   simp only []
   have mp : ∀ {s : Option Value}, s.map (·, σ) = some (v, σ') → σ' = σ ∧ s = some v := by
    intro s hs
    simp only [Option.map_eq_some_iff, Prod.mk.injEq] at hs
    obtain ⟨a, ha, rfl, rfl⟩ := hs
    exact ⟨rfl, ha⟩
   unfold loadAtA
   generalize o.op = op at *
   cases op <;> simp only [specA] at h ⊢ <;> (try simp only [cls, ne_eq, not_true_eq_false] at hc) <;> (try cases h; done)
   case move x =>
    simp only [Option.some.injEq, Prod.mk.injEq] at h
    obtain ⟨rfl, rfl⟩ := h
    exact .inl ⟨rfl, fun σ2 => rfl⟩
   case assign x =>
    simp only [Option.some.injEq, Prod.mk.injEq] at h
    obtain ⟨rfl, rfl⟩ := h
    exact .inl ⟨rfl, fun σ2 => rfl⟩
   case pick x y z =>
    split at h
    ·simp only [Option.some.injEq, Prod.mk.injEq] at h
     obtain ⟨rfl, rfl⟩ := h
     exact .inl ⟨rfl, fun σ2 => rfl⟩
    ·cases h
   case makeMap t q =>
    cases q with
    | some _ => exact absurd rfl hc
    | none =>
     simp only [Option.some.injEq, Prod.mk.injEq] at h
     obtain ⟨rfl, rfl⟩ := h
     exact .inr (.inr ⟨rfl, _, rfl, fun σ2 h2 => by simp [h2]⟩)
   case alloc e =>
    simp only [Option.map_eq_some_iff, Prod.mk.injEq] at h
    obtain ⟨z, hz, rfl, rfl⟩ := h
    exact .inr (.inr ⟨rfl, _, rfl, fun σ2 h2 => by simp [hz, newB, h2]⟩)
   case box e x =>
    simp only [Option.some.injEq, Prod.mk.injEq] at h
    obtain ⟨rfl, rfl⟩ := h
    exact .inr (.inr ⟨rfl, _, rfl, fun σ2 h2 => by simp [newB, h2]⟩)
   case build t ps =>
    obtain ⟨rfl, h5⟩ := mp h
    exact .inl ⟨rfl, fun σ2 => by rw [h5]; rfl⟩
   case buildSlice t m ps =>
    refine .inr (.inr ⟨rfl, ?_⟩)
    unfold buildSliceA at h
    split at h
    ·rename_i e hd
     split at h
     ·cases h
     ·rename_i size hs
      split at h
      ·cases h
      ·rename_i hbig
       split at h
       ·cases h
       ·rename_i zero hz
        split at h
        ·cases h
        ·rename_i cells hcl
         simp only [Option.some.injEq, Prod.mk.injEq] at h
         obtain ⟨rfl, rfl⟩ := h
         refine ⟨_, rfl, fun σ2 h2 => ?_⟩
         unfold buildSliceA
         simp only [hd, hs, hbig, if_false, hz, hcl]
         simp [newB, h2]
    ·cases h
   case load t a =>
    split at h
    ·rename_i a1 h1
     obtain ⟨rfl, h5⟩ := mp h
     exact .inr (.inl ⟨rfl, rfl, by simp only [h1, h5], fun σ2 h2 => by (try simp only [h1] at h2); (try simp only [h1]); rw [h2]; rfl⟩)
    ·cases h
   case nilCheck x =>
    split at h
    ·rename_i h1
     simp only [Option.some.injEq, Prod.mk.injEq] at h
     obtain ⟨rfl, rfl⟩ := h
     exact .inl ⟨rfl, fun σ2 => rfl⟩
    ·rename_i h1
     simp only [Option.some.injEq, Prod.mk.injEq] at h
     obtain ⟨rfl, rfl⟩ := h
     exact .inl ⟨rfl, fun σ2 => rfl⟩
    ·cases h
   case binOp op t x y yt =>
    obtain ⟨rfl, h5⟩ := mp h
    exact .inl ⟨rfl, fun σ2 => by rw [h5]; rfl⟩
   case makeFunc f x y =>
    simp only [Option.some.injEq, Prod.mk.injEq] at h
    obtain ⟨rfl, rfl⟩ := h
    exact .inl ⟨rfl, fun σ2 => rfl⟩
   case makeSlice t l c =>
    refine .inr (.inr ⟨rfl, ?_⟩)
    unfold makeSliceA at h
    split at h
    ·rename_i h1 h2 h3
     split at h
     ·cases h
     ·rename_i i hi
      split at h
      ·rename_i hb
       split at h
       ·cases h
       ·rename_i z hz
        simp only [Option.some.injEq, Prod.mk.injEq] at h
        obtain ⟨rfl, rfl⟩ := h
        refine ⟨_, rfl, fun σ2 h2' => ?_⟩
        unfold makeSliceA
        simp only [h1, h2, h3, hi, hb, and_self, if_true, hz]
        simp [newB, h2']
      ·cases h
    ·cases h
   case slice t x lo hi mx =>
    obtain ⟨rfl, h5⟩ := mp h
    exact .inl ⟨rfl, fun σ2 => by rw [h5]; rfl⟩
   case fieldAddr s x f =>
    obtain ⟨rfl, h5⟩ := mp h
    exact .inl ⟨rfl, fun σ2 => by rw [h5]; rfl⟩
   case field s x f =>
    obtain ⟨rfl, h5⟩ := mp h
    exact .inl ⟨rfl, fun σ2 => by rw [h5]; rfl⟩
   case indexAddr s x f =>
    obtain ⟨rfl, h5⟩ := mp h
    exact .inl ⟨rfl, fun σ2 => by rw [h5]; rfl⟩
   case index s x f =>
    obtain ⟨rfl, h5⟩ := mp h
    exact .inl ⟨rfl, fun σ2 => by rw [h5]; rfl⟩
   case convert src dst x =>
    rw [convA_none hcv] at h
    cases h
   case extract x i =>
    split at h
    ·rename_i vs h1
     obtain ⟨rfl, h5⟩ := mp h
     exact .inl ⟨rfl, fun σ2 => by rw [h5]; rfl⟩
    ·cases h
   case call cc =>
    refine .inl ?_
    unfold callA at h
    split at h
    ·rename_i hcal; simp [hcal] at hc
    ·rename_i hcal
     split at h
     ·rename_i h1 h2
      split at h
      ·rename_i h3
       simp only [Option.some.injEq, Prod.mk.injEq] at h
       obtain ⟨rfl, rfl⟩ := h
       exact ⟨rfl, fun σ2 => by unfold callA; simp only [hcal, h1, h2, h3]⟩
      ·cases h
     ·cases h
    ·rename_i hcal
     split at h
     ·rename_i h1 h2
      split at h
      ·rename_i h3
       split at h
       ·rename_i h4
        simp only [Option.some.injEq, Prod.mk.injEq] at h
        obtain ⟨rfl, rfl⟩ := h
        exact ⟨rfl, fun σ2 => by unfold callA; simp only [hcal, h1, h2, h3, h4, if_true]⟩
       ·cases h
      ·cases h
     ·cases h
    ·rename_i hcal; simp [hcal] at hc
    ·rename_i hcal; simp [hcal] at hc
    ·cases h
 ·cases h
def Reads (P : Program) (st : Stat) (call : CallA) (τ : Array Value) (o : Oper) (σ : Heap) (v : Value) : Prop :=
 ∀ σ2, (∀ src dst x a n c, o.op = .convert src dst x → evalT τ x = .slice (some a) n c → n ≠ 0 → loadN st σ2 a n = loadN st σ a n) → opA P st call (evalT τ) o σ2 = some (v, σ2)
theorem opA_convS {o : Oper} {τ : Array Value} {σ σ' : Heap} {v : Value} (hcv : convS P o.op = true) (h : opA P st call (evalT τ) o σ = some (v, σ')) : σ' = σ ∧ Reads P st call τ o σ v := by
 unfold Reads
 unfold opA at h ⊢
 split at h
 ·rename_i hk
  simp only [hk, if_true]
  cases hu : peekA P (evalT τ) o with
  | some u =>
   simp only [hu, Option.some.injEq, Prod.mk.injEq] at h
   obtain ⟨rfl, rfl⟩ := h
   exact ⟨rfl, fun σ2 _ => rfl⟩
  | none =>
   simp only [hu] at h
   simp only []
   unfold convS at hcv
   split at hcv <;> first | (cases hcv; done) | skip
   rename_i src dst x hop
   split at hcv <;> first | (cases hcv; done) | skip
   rename_i e h1 h2
   rw [hop] at h ⊢
   simp only [specA] at h ⊢
   unfold convA at h ⊢
   simp only [h1, h2] at h ⊢
   cases hx : evalT τ x
   case slice b n c =>
    cases b with
    | none => rw [hx] at h; cases h
    | some a =>
     rw [hx] at h
     simp only at h
     have key : ∀ σ2, (∀ src' dst' x' a' n' c', Op.convert src dst x = .convert src' dst' x' → evalT τ x' = .slice (some a') n' c' → n' ≠ 0 → loadN st σ2 a' n' = loadN st σ a' n') → (if n = 0 then some [] else loadN st σ2 a n) = (if n = 0 then some [] else loadN st σ a n) := by
      intro σ2 h3
      by_cases h0 : n = 0
      ·rw [if_pos h0, if_pos h0]
      ·rw [if_neg h0, if_neg h0]
       exact h3 src dst x a n c rfl hx h0
     split at h
     ·rename_i h4
      simp only [h4]
      split at h
      ·rename_i l hl
       simp only [Option.map_eq_some_iff, Prod.mk.injEq] at h
       obtain ⟨ns, h5, rfl, rfl⟩ := h
       exact ⟨rfl, fun σ2 h3 => by rw [key σ2 h3, hl]; simp only [h5, Option.map_some]⟩
      ·cases h
     ·rename_i h4
      simp only [h4]
      split at h
      ·rename_i l hl
       simp only [Option.map_eq_some_iff, Prod.mk.injEq] at h
       obtain ⟨ns, h5, rfl, rfl⟩ := h
       exact ⟨rfl, fun σ2 h3 => by rw [key σ2 h3, hl]; simp only [h5, Option.map_some]⟩
      ·cases h
     ·cases h
   all_goals (rw [hx] at h; cases h)
 ·cases h
end
end
end Go.AE
