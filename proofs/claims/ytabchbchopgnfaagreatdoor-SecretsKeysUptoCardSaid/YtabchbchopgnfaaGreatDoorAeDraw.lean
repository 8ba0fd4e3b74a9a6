/-
  Regions: in the order of the text, and in whatever order.
  Conditions: what is known of the old blocks is so (GoodSt); the callees do what the evaluator was told of them.
-/
import Derived.Test.YtabchbchopgnfaaGreatDoorAeOp5
namespace Go.AE
open Go Go.RowKit

section
variable {P : Program} {w0 : World} {ρ : Ren} {w : World} {r : Option Nat}

theorem storeN_len {σ σ' : Heap} {a : Addr} {vs : List Value} (h : storeN σ a vs = some σ') : σ'.length = σ.length := by
  unfold storeN at h
  split at h
  · cases h
  · split at h
    · split at h
      · obtain rfl := Option.some.inj h; simp
      · cases h
    · cases h

theorem growA_len {st : Stat} {σ σ' : Heap} {i : TypeInfo} {base : Option Addr} {sLen need : Nat} {news : List Value} {v : Value} (h : growA P st σ i base sLen need news = some (v, σ')) : σ.length ≤ σ'.length := by
  unfold growA at h
  (repeat' split at h) <;> (try cases h) <;> simp [newB]

theorem appendA_len {st : Stat} {σ σ' : Heap} {ts : Array TypeId} {args : Array Value} {v : Value} (h : appendA P st σ ts args = some (v, σ')) : σ.length ≤ σ'.length := by
  unfold appendA at h
  split at h
  · split at h
    · split at h
      · cases h
      · split at h
        · cases h
        · split at h
          · cases h
          · split at h
            · split at h
              · split at h
                · cases h; exact Nat.le_refl _
                · split at h
                  · cases h; exact Nat.le_refl _
                  · simp only [Option.map_eq_some_iff, Prod.mk.injEq] at h
                    obtain ⟨σ2, h2, _, rfl⟩ := h
                    rw [storeN_len h2]; exact Nat.le_refl _
              · exact growA_len h
            · split at h
              · cases h; exact Nat.le_refl _
              · split at h
                · cases h
                · split at h
                  · cases h
                  · split at h
                    · split at h
                      · cases h
                      · simp only [Option.map_eq_some_iff, Prod.mk.injEq] at h
                        obtain ⟨r, h2, _, rfl⟩ := h
                        have := growA_len (v := r.1) (σ' := r.2) h2
                        simpa using this
                    · cases h
    · cases h
  · cases h

theorem copyA_len {st : Stat} {σ σ' : Heap} {ts : Array TypeId} {args : Array Value} {v : Value} (h : copyA P st σ ts args = some (v, σ')) : σ.length ≤ σ'.length := by
  unfold copyA at h
  split at h
  · split at h
    · split at h
      · cases h
      · split at h
        · cases h
        · split at h
          · cases h; exact Nat.le_refl _
          · split at h
            · cases h; exact Nat.le_refl _
            · simp only [Option.map_eq_some_iff, Prod.mk.injEq] at h
              obtain ⟨σ2, h2, _, rfl⟩ := h
              rw [storeN_len h2]; exact Nat.le_refl _
    · cases h
  · cases h

theorem enterA_len {call : CallA} {g : FuncId} {args : List Value} {σ σ' : Heap} {v : Value} (hcall : RunOk P w0 call) (h : enterA P call g args σ = some (v, σ')) : σ.length ≤ σ'.length := by
  unfold enterA at h
  split at h
  · cases h
  · split at h
    · cases h
    · split at h
      · split at h
        · split at h
          · split at h
            · cases h; exact Nat.le_refl _
            · cases h
          · cases h
        · cases h
      · exact hcall.len h

theorem mapPutA_len {σ σ' : Heap} {t : TypeId} {m k v : Value} (h : mapPutA P σ t m k v = some σ') : σ'.length = σ.length := by
  unfold mapPutA at h
  split at h <;> first | (cases h; done) | skip
  split at h <;> first | (cases h; done) | skip
  split at h <;> first | (cases h; done) | skip
  · obtain rfl := Option.some.inj h
    simp
  · obtain rfl := Option.some.inj h
    simp
theorem convA_len {st : Stat} {σ σ' : Heap} {src dst : TypeId} {x v : Value} (h : convA P st σ src dst x = some (v, σ')) : σ.length ≤ σ'.length := by
  unfold convA at h
  split at h <;> first | (cases h; done) | skip
  · split at h <;> first | (cases h; done) | skip
    · split at h <;> first | (cases h; done) | skip
      simp only [Option.some.injEq, Prod.mk.injEq] at h
      rw [← h.2]
      simp [newB]
    · dsimp only at h
      split at h <;> first | (cases h; done) | skip
      simp only [Option.some.injEq, Prod.mk.injEq] at h
      rw [← h.2]
      simp [newB]
  · split at h <;> first | (cases h; done) | skip
    · split at h <;> first | (cases h; done) | skip
      simp only [Option.map_eq_some_iff, Prod.mk.injEq] at h
      obtain ⟨_, _, _, rfl⟩ := h
      exact Nat.le_refl _
    · split at h <;> first | (cases h; done) | skip
      simp only [Option.map_eq_some_iff, Prod.mk.injEq] at h
      obtain ⟨_, _, _, rfl⟩ := h
      exact Nat.le_refl _
theorem rangeA_len {σ σ' : Heap} {t : TypeId} {x v : Value} (h : rangeA P σ t x = some (v, σ')) : σ.length ≤ σ'.length := by
  unfold rangeA at h
  split at h <;> first | (cases h; done) | skip
  simp only [Option.some.injEq, Prod.mk.injEq] at h
  rw [← h.2]
  simp
theorem nextA_len {σ σ' : Heap} {it v : Value} {b : Bool} (h : nextA σ it b = some (v, σ')) : σ.length ≤ σ'.length := by
  unfold nextA at h
  split at h <;> first | (cases h; done) | skip
  split at h <;> first | (cases h; done) | skip
  split at h
  · simp only [Option.some.injEq, Prod.mk.injEq] at h
    rw [← h.2]
    simp
  · simp only [Option.some.injEq, Prod.mk.injEq] at h
    rw [← h.2]
    exact Nat.le_refl _

theorem opA_len {st : Stat} {call : CallA} {ev : Operand → Value} {o : Oper} {σ σ' : Heap} {v : Value} (hcall : RunOk P w0 call) (h : opA P st call ev o σ = some (v, σ')) : σ.length ≤ σ'.length := by
  have mp : ∀ {s : Option Value}, s.map (·, σ) = some (v, σ') → σ.length ≤ σ'.length := by
    intro s hs
    simp only [Option.map_eq_some_iff, Prod.mk.injEq] at hs
    obtain ⟨_, _, _, rfl⟩ := hs
    exact Nat.le_refl _
  unfold opA at h
  split at h
  · split at h
    · cases h; exact Nat.le_refl _
    · generalize ho : o.op = op at h
      cases op <;> simp only [specA] at h <;> (try cases h; done) <;> (try exact mp h) <;> (try (simp only [Option.some.injEq, Prod.mk.injEq] at h; rw [← h.2]; simp [newB]; done))
      case pick c a b =>
        split at h
        · cases h; exact Nat.le_refl _
        · cases h
      case alloc e =>
        simp only [Option.map_eq_some_iff, Prod.mk.injEq] at h
        obtain ⟨_, _, _, rfl⟩ := h
        simp [newB]
      case buildSlice t n ps =>
        unfold buildSliceA at h
        (repeat' split at h) <;> (try cases h) <;> simp [newB]
      case load t a =>
        split at h
        · exact mp h
        · cases h
      case store t a x =>
        split at h
        · simp only [Option.map_eq_some_iff, Prod.mk.injEq] at h
          obtain ⟨σ2, h2, _, rfl⟩ := h
          unfold storeV at h2
          split at h2
          · split at h2
            · rw [storeN_len h2]; exact Nat.le_refl _
            · cases h2
          · cases h2
        · cases h
      case nilCheck x =>
        split at h
        · cases h; exact Nat.le_refl _
        · cases h; exact Nat.le_refl _
        · cases h
      case makeSlice t l c =>
        unfold makeSliceA at h
        (repeat' split at h) <;> (try cases h) <;> simp [newB]
      case extract x i =>
        split at h
        · exact mp h
        · cases h
      case mapUpdate t m k x =>
        simp only [Option.map_eq_some_iff, Prod.mk.injEq] at h
        obtain ⟨σ2, h, _, rfl⟩ := h
        rw [mapPutA_len h]
        exact Nat.le_refl _
      case insert t m k x =>
        simp only [Option.map_eq_some_iff, Prod.mk.injEq] at h
        obtain ⟨σ2, h, _, rfl⟩ := h
        rw [mapPutA_len h]
        exact Nat.le_refl _
      case convert src dst x => exact convA_len h
      case range t x => exact rangeA_len h
      case next it b => exact nextA_len h
      case makeMap t r =>
        split at h
        · simp only [Option.some.injEq, Prod.mk.injEq] at h
          rw [← h.2]
          simp
        · cases h
      case call c =>
        unfold callA at h
        split at h
        · split at h
          · exact enterA_len hcall h
          · exact hcall.len h
          · cases h
        · (repeat' split at h) <;> (try cases h) <;> exact Nat.le_refl _
        · (repeat' split at h) <;> (try cases h) <;> exact Nat.le_refl _
        · exact appendA_len h
        · exact copyA_len h
        · cases h
  · cases h

theorem stepA_len {st : Stat} {call : CallA} {ops : Array Oper} {o : Oper} {τ τ' : Array Value} {σ σ' : Heap} (hcall : RunOk P w0 call) (h : stepA P st call ops o τ σ = some (τ', σ')) : σ.length ≤ σ'.length := by
  unfold stepA at h
  split at h
  · split at h
    · split at h
      · rename_i v σ1 h1
        simp only [Option.some.injEq, Prod.mk.injEq] at h
        rw [← h.2]
        exact opA_len hcall h1
      · cases h
    · simp only [Option.some.injEq, Prod.mk.injEq] at h
      rw [← h.2]; exact Nat.le_refl _
  · cases h

theorem runA_len {st : Stat} {call : CallA} {ops : Array Oper} (hcall : RunOk P w0 call) : ∀ (l : List Oper) (τ : Array Value) (σ : Heap) (τ' : Array Value) (σ' : Heap), runA P st call ops l τ σ = some (τ', σ') → σ.length ≤ σ'.length := by
  intro l
  induction l with
  | nil => intro τ σ τ' σ' h; simp only [runA, Option.some.injEq, Prod.mk.injEq] at h; rw [h.2]; exact Nat.le_refl _
  | cons o l ih =>
    intro τ σ τ' σ' h
    simp only [runA] at h
    split at h
    · rename_i τ1 σ1 h1
      exact Nat.le_trans (stepA_len hcall h1) (ih _ _ _ _ h)
    · cases h

theorem VRA.put {τ : Array Value} {a : Act} (h : VRA ρ τ a.tmps) {v v' : Value} (hv : VR ρ v v') (dst : Option Tmp) : VRA ρ (putT τ dst v) (a.put dst v').tmps := by
  cases dst with
  | none => exact h
  | some d => exact h.set d hv

theorem guard_eq {ops : Array Oper} {o : Oper} {τ τ' : Array Value} (ht : VRA ρ τ τ') (hg : guardOk ops o τ = true) : Region.wanted o (yielded ops τ') = Region.wanted o (yielded ops τ) := by
  unfold guardOk at hg
  unfold Region.wanted
  cases hgd : o.guard with
  | none => rfl
  | some p =>
    obtain ⟨j, want⟩ := p
    simp only [hgd] at hg ⊢
    congr 1
    unfold yielded
    cases hd : (ops[j]?).bind (·.dst) with
    | none => rfl
    | some d =>
      simp only [hd, Option.bind_some] at hg ⊢
      cases hv : τ[d]? with
      | none =>
        have : τ'[d]? = none := by
          rw [Array.getElem?_eq_none_iff] at hv ⊢
          rw [← ht.1]; exact hv
        rw [this]
      | some v =>
        obtain ⟨v', hv', hr⟩ := ht.get hv
        rw [hv'] 
        rw [hv] at hg
        cases hr <;> first | rfl | simp at hg

theorem wpStep {o : Oper} {ops : Array Oper} {a : Act} {K : Act → World → Prop} {Q : Exit → Act → World → Prop} {st : Stat} {call : CallA} {τ τ' : Array Value} {σ σ' : Heap} (hcall : RunOk P w0 call) (hst : GoodSt w0 st)
    (h : stepA P st call ops o τ σ = some (τ', σ')) (hR : Rel w0 ρ (hp σ) w) (hfr : Fresh ρ σ.length σ'.length) (ht : VRA ρ τ a.tmps)
    (hK : ∀ a1 w1 ρ1, Nxt w0 ρ σ w ρ1 σ' w1 → VRA ρ1 τ' a1.tmps → a1.defers = a.defers → K a1 w1) :
    if Region.wanted o (yielded ops a.tmps) then o.wpIn (FR r) 0 P a w K Q else (∀ f, o.about P w a.eval = some f → (FR r).fn f) ∧ K (a.put o.dst undef) w := by
  unfold stepA at h
  split at h
  · rename_i hg
    rw [guard_eq ht hg]
    split at h
    · rename_i hw
      rw [if_pos hw]
      split at h
      · rename_i v σ1 h1
        simp only [Option.some.injEq, Prod.mk.injEq] at h
        obtain ⟨rfl, rfl⟩ := h
        have hev : ∀ x ∈ o.op.operands, VR ρ (evalT τ x) (a.eval x) := by
          intro x hx
          refine evalT_VR ht fun v hv => ?_
          have hc : constsOk o.op = true := by
            unfold opA at h1
            split at h1
            · assumption
            · cases h1
          unfold constsOk at hc
          have := List.all_eq_true.1 hc x (by simpa using hx)
          rw [hv] at this
          exact this
        refine (opA_next hcall hst hR hfr hev h1).wp (constsOk_defer h1) fun v' w' ho => ?_
        obtain ⟨ρ1, hn, hv⟩ := ho
        exact hK _ _ ρ1 hn ((ht.mono (hn.ext.le hfr)).put hv o.dst) (by cases o.dst <;> rfl)
      · cases h
    · rename_i hw
      rw [if_neg hw]
      simp only [Option.some.injEq, Prod.mk.injEq] at h
      obtain ⟨rfl, rfl⟩ := h
      exact ⟨fun _ _ => trivial, hK _ _ ρ (.refl hR) (ht.put (flat_VR ρ rfl) o.dst) (by cases o.dst <;> rfl)⟩
  · cases h

theorem runA_sound {st : Stat} {call : CallA} {ops : Array Oper} {Q : Exit → Act → World → Prop} (hcall : RunOk P w0 call) (hst : GoodSt w0 st) : ∀ (l : List Oper) (τ : Array Value) (σ : Heap) (τ' : Array Value) (σ' : Heap),
    runA P st call ops l τ σ = some (τ', σ') → ∀ {ρ w a}, Rel w0 ρ (hp σ) w → Fresh ρ σ.length σ'.length → VRA ρ τ a.tmps →
      (∀ a1 w1 ρ1, Nxt w0 ρ σ w ρ1 σ' w1 → VRA ρ1 τ' a1.tmps → a1.defers = a.defers → Q .normal a1 w1) → wpListIn (FR r) 0 P ops Q l a w := by
  intro l
  induction l with
  | nil =>
    intro τ σ τ' σ' h ρ w a hR hfr ht hQ
    simp only [runA, Option.some.injEq, Prod.mk.injEq] at h
    obtain ⟨rfl, rfl⟩ := h
    exact hQ a w ρ (.refl hR) ht rfl
  | cons o l ih =>
    intro τ σ τ' σ' h ρ w a hR hfr ht hQ
    simp only [runA] at h
    split at h
    · rename_i τ1 σ1 h1
      have hl := runA_len hcall _ _ _ _ _ h
      have hl1 := stepA_len hcall h1
      unfold wpListIn
      refine wpStep hcall hst h1 hR (fun id a b => hfr id a (by omega)) ht fun a1 w1 ρ1 hn hv hd => ?_
      refine ih _ _ _ _ h hn.rel (fun id a b => by rw [hn.ext id (.inr a)]; exact hfr id (by omega) b) hv fun a2 w2 ρ2 hn2 hv2 hd2 => hQ a2 w2 ρ2 (hn.trans hn2) hv2 (hd2.trans hd)
    · cases h
end
end Go.AE
