/-
  A run of the evaluator over a function's code is a call of the model's function.
  Conditions: what is known of the old blocks is so (GoodSt); the callees do what the evaluator was told of them.
-/
import Derived.Test.YtiphckeipbfbmaaGreatDoorAeOrd3
import Derived.LoopN
namespace Go.AE
open Go Go.RowKit

section
variable {P : Program} {w0 : World} {ρ : Ren} {w : World}

def exOf : Ex → Exit
  | .normal => .normal
  | .exit id => .exit id
  | .ret => .ret

def PostX (w0 : World) (ρ : Ren) (σ : Heap) (w : World) (ex : Ex) (τ' : Array Value) (σ' : Heap) (e : Exit) (a : Act) (w' : World) : Prop :=
  e = exOf ex ∧ a.defers = [] ∧ ∃ ρ', Nxt w0 ρ σ w ρ' σ' w' ∧ VRA ρ' τ' a.tmps

theorem iterA_len {f : Array Value → Heap → Out} (hf : ∀ τ σ ex τ' σ', f τ σ = some (ex, τ', σ') → σ.length ≤ σ'.length) : ∀ (n : Nat) (τ : Array Value) (σ : Heap) (ex : Ex) (τ' : Array Value) (σ' : Heap),
    iterA f n τ σ = some (ex, τ', σ') → σ.length ≤ σ'.length := by
  intro n
  induction n with
  | zero => intro τ σ ex τ' σ' h; simp [iterA] at h
  | succ n ih =>
    intro τ σ ex τ' σ' h
    simp only [iterA] at h
    split at h
    · rename_i τ1 σ1 h1
      exact Nat.le_trans (hf _ _ _ _ _ h1) (ih _ _ _ _ _ h)
    · exact hf _ _ _ _ _ h

theorem execA_len {st : AE.Stat} {call : CallA} {n : Nat} (hcall : CallOk P w0 call) : ∀ (c : Code) (τ : Array Value) (σ : Heap) (ex : Ex) (τ' : Array Value) (σ' : Heap),
    execA P st call n c τ σ = some (ex, τ', σ') → σ.length ≤ σ'.length := by
  intro c
  induction c with
  | skip => intro τ σ ex τ' σ' h; simp only [execA, Option.some.injEq, Prod.mk.injEq] at h; rw [h.2.2]; exact Nat.le_refl _
  | label l => intro τ σ ex τ' σ' h; simp only [execA, Option.some.injEq, Prod.mk.injEq] at h; rw [h.2.2]; exact Nat.le_refl _
  | exit id => intro τ σ ex τ' σ' h; simp only [execA, Option.some.injEq, Prod.mk.injEq] at h; rw [h.2.2]; exact Nat.le_refl _
  | ret => intro τ σ ex τ' σ' h; simp only [execA, Option.some.injEq, Prod.mk.injEq] at h; rw [h.2.2]; exact Nat.le_refl _
  | region id ops draw =>
    intro τ σ ex τ' σ' h
    simp only [execA] at h
    split at h
    · rename_i τ1 σ1 h1
      simp only [Option.some.injEq, Prod.mk.injEq] at h
      obtain ⟨_, rfl, rfl⟩ := h
      cases draw with
      | true => exact drawA_len hcall (by simpa using h1)
      | false => exact runA_len hcall _ _ _ _ _ (by simpa using h1)
    · cases h
  | seq a b iha ihb =>
    intro τ σ ex τ' σ' h
    simp only [execA] at h
    split at h
    · rename_i τ1 σ1 h1
      exact Nat.le_trans (iha _ _ _ _ _ h1) (ihb _ _ _ _ _ h)
    · exact iha _ _ _ _ _ h
  | cond c a b iha ihb =>
    intro τ σ ex τ' σ' h
    simp only [execA] at h
    split at h
    · rename_i t ht
      cases t with
      | true => exact iha _ _ _ _ _ (by simpa using h)
      | false => exact ihb _ _ _ _ _ (by simpa using h)
    · cases h
  | block id a iha =>
    intro τ σ ex τ' σ' h
    simp only [execA] at h
    split at h
    · rename_i k τ1 σ1 h1
      have := iha _ _ _ _ _ h1
      split at h
      · simp only [Option.some.injEq, Prod.mk.injEq] at h; rw [← h.2.2]; exact this
      · simp only [Option.some.injEq, Prod.mk.injEq] at h; rw [← h.2.2]; exact this
    · exact iha _ _ _ _ _ h
  | loop a iha => intro τ σ ex τ' σ' h; exact iterA_len iha n τ σ ex τ' σ' h
  | rangeFunc f ps as b _ _ => intro τ σ ex τ' σ' h; simp [execA] at h
  | scope b _ => intro τ σ ex τ' σ' h; simp [execA] at h
  | goto l => intro τ σ ex τ' σ' h; simp [execA] at h
  | refuse y => intro τ σ ex τ' σ' h; simp [execA] at h

/-- What is proved of a piece of code. -/
def CodeOk (P : Program) (w0 : World) (f : Array Value → Heap → Out) (c : Code) : Prop :=
  ∀ τ σ ex τ' σ', f τ σ = some (ex, τ', σ') → ∀ ρ w a, Rel w0 ρ (hp σ) w → Fresh ρ σ.length σ'.length → VRA ρ τ a.tmps → a.defers = [] → c.wp P (PostX w0 ρ σ w ex τ' σ') a w

theorem Fresh.left {ρ : Ren} {a b c : Nat} (h : Fresh ρ a c) (hbc : b ≤ c) : Fresh ρ a b := fun id h1 h2 => h id h1 (by omega)
theorem Fresh.right {ρ ρ' : Ren} {a b c : Nat} (h : Fresh ρ a c) (he : Ext ρ ρ' a b) (hab : a ≤ b) : Fresh ρ' b c := fun id h1 h2 => by rw [he id (by omega)]; exact h id (by omega) h2

theorem PostX.then {σ σ1 σ2 : Heap} {ρ1 : Ren} {w1 : World} {ex : Ex} {τ : Array Value} {e : Exit} {a : Act} {w2 : World} (h : Nxt w0 ρ σ w ρ1 σ1 w1) (k : PostX w0 ρ1 σ1 w1 ex τ σ2 e a w2) : PostX w0 ρ σ w ex τ σ2 e a w2 := by
  obtain ⟨h1, h2, ρ2, h3, h4⟩ := k
  exact ⟨h1, h2, ρ2, h.trans h3, h4⟩

theorem iterA_rounds {f : Array Value → Heap → Out} {c : Code} (hf : CodeOk P w0 f c) (hlen : ∀ τ σ ex τ' σ', f τ σ = some (ex, τ', σ') → σ.length ≤ σ'.length) {Q : Exit → Act → World → Prop} : ∀ (n : Nat) τ σ ex τ' σ',
    iterA f n τ σ = some (ex, τ', σ') → ∀ ρ w a, Rel w0 ρ (hp σ) w → Fresh ρ σ.length σ'.length → VRA ρ τ a.tmps → a.defers = [] →
      (∀ e a1 w1, PostX w0 ρ σ w ex τ' σ' e a1 w1 → Q e a1 w1) → Code.rounds P c Q n a w := by
  intro n
  induction n with
  | zero => intro τ σ ex τ' σ' h; simp [iterA] at h
  | succ n ih =>
    intro τ σ ex τ' σ' h ρ w a hR hfr ht hd hQ
    rw [rounds_succ]
    simp only [iterA] at h
    split at h
    · rename_i τ1 σ1 h1
      have hl := iterA_len hlen n _ _ _ _ _ h
      refine wp_mono (hf _ _ _ _ _ h1 ρ w a hR (hfr.left hl) ht hd) fun e a1 w1 hp => ?_
      obtain ⟨rfl, hd1, ρ1, hn, hv⟩ := hp
      exact ih _ _ _ _ _ h ρ1 w1 a1 hn.rel (hfr.right hn.ext (hlen _ _ _ _ _ h1)) hv hd1 fun e2 a2 w2 hp => hQ _ _ _ (PostX.then hn hp)
    · rename_i hne
      refine wp_mono (hf _ _ _ _ _ h ρ w a hR hfr ht hd) fun e a1 w1 hp => ?_
      have he := hp.1
      cases ex with
      | normal => exact (hne _ _ h).elim
      | exit id => subst he; exact hQ _ _ _ hp
      | ret => subst he; exact hQ _ _ _ hp

theorem iterA_loop {f : Array Value → Heap → Out} {c : Code} (hf : CodeOk P w0 f c) (hlen : ∀ τ σ ex τ' σ', f τ σ = some (ex, τ', σ') → σ.length ≤ σ'.length) (n : Nat) : CodeOk P w0 (iterA f n) (.loop c) :=
  fun _ _ _ _ _ h ρ w a hR hfr ht hd => wp_loop_rounds n (iterA_rounds hf hlen n _ _ _ _ _ h ρ w a hR hfr ht hd fun _ _ _ hp => hp)

theorem execA_sound {st : AE.Stat} {call : CallA} {n : Nat} (hcall : CallOk P w0 call) (hst : GoodSt w0 st) (hm : P.follows .mixedOrders = true) : ∀ c : Code, CodeOk P w0 (execA P st call n c) c := by
  intro c
  induction c with
  | skip =>
    intro τ σ ex τ' σ' h ρ w a hR hfr ht hd
    simp only [execA, Option.some.injEq, Prod.mk.injEq] at h
    obtain ⟨rfl, rfl, rfl⟩ := h
    exact wp_skip ⟨rfl, hd, ρ, .refl hR, ht⟩
  | label l =>
    intro τ σ ex τ' σ' h ρ w a hR hfr ht hd
    simp only [execA, Option.some.injEq, Prod.mk.injEq] at h
    obtain ⟨rfl, rfl, rfl⟩ := h
    exact wp_label ⟨rfl, hd, ρ, .refl hR, ht⟩
  | exit id =>
    intro τ σ ex τ' σ' h ρ w a hR hfr ht hd
    simp only [execA, Option.some.injEq, Prod.mk.injEq] at h
    obtain ⟨rfl, rfl, rfl⟩ := h
    exact wp_exit ⟨rfl, hd, ρ, .refl hR, ht⟩
  | ret =>
    intro τ σ ex τ' σ' h ρ w a hR hfr ht hd
    simp only [execA, Option.some.injEq, Prod.mk.injEq] at h
    obtain ⟨rfl, rfl, rfl⟩ := h
    exact wp_ret ⟨rfl, hd, ρ, .refl hR, ht⟩
  | region id ops draw =>
    intro τ σ ex τ' σ' h ρ w a hR hfr ht hd
    simp only [execA] at h
    split at h
    · rename_i τ1 σ1 h1
      simp only [Option.some.injEq, Prod.mk.injEq] at h
      obtain ⟨rfl, rfl, rfl⟩ := h
      cases draw with
      | true => exact drawA_sound hcall hst hm (by simpa using h1) hR hfr ht fun a1 w1 ρ1 hn hv hd1 => ⟨rfl, hd1.trans hd, ρ1, hn, hv⟩
      | false =>
        exact wp_region_list (runA_sound hcall hst _ _ _ _ _ (by simpa using h1) hR hfr ht fun a1 w1 ρ1 hn hv hd1 => ⟨rfl, hd1.trans hd, ρ1, hn, hv⟩)
    · cases h
  | seq x y ihx ihy =>
    intro τ σ ex τ' σ' h ρ w a hR hfr ht hd
    simp only [execA] at h
    refine wp_seq ?_
    split at h
    · rename_i τ1 σ1 h1
      have hl := execA_len hcall _ _ _ _ _ _ h
      have hl1 := execA_len hcall _ _ _ _ _ _ h1
      refine wp_mono (ihx _ _ _ _ _ h1 ρ w a hR (hfr.left hl) ht hd) fun e a1 w1 hp => ?_
      obtain ⟨rfl, hd1, ρ1, hn, hv⟩ := hp
      exact wp_mono (ihy _ _ _ _ _ h ρ1 w1 a1 hn.rel (hfr.right hn.ext hl1) hv hd1) fun e2 a2 w2 hp => PostX.then hn hp
    · rename_i hne
      refine wp_mono (ihx _ _ _ _ _ h ρ w a hR hfr ht hd) fun e a1 w1 hp => ?_
      obtain ⟨rfl, hrest⟩ := hp
      cases ex with
      | normal => exact (hne _ _ h).elim
      | exit id => exact ⟨rfl, hrest⟩
      | ret => exact ⟨rfl, hrest⟩
  | cond c x y ihx ihy =>
    intro τ σ ex τ' σ' h ρ w a hR hfr ht hd
    simp only [execA] at h
    split at h
    · rename_i t hc
      have hca : a.eval c = .bool t := by
        cases c with
        | const v => exact hc
        | tmp k =>
          have := evalT_VR ht (x := .tmp k) (fun v hv => by cases hv)
          rw [hc] at this
          generalize hy : a.eval (.tmp k) = y at this
          cases this
          rfl
        | global g => simp [evalT] at hc
        | func f => simp [evalT] at hc
      refine wp_cond hca ?_
      cases t with
      | true => exact ihx _ _ _ _ _ (by simpa using h) ρ w a hR hfr ht hd
      | false => exact ihy _ _ _ _ _ (by simpa using h) ρ w a hR hfr ht hd
    · cases h
  | block id x ihx =>
    intro τ σ ex τ' σ' h ρ w a hR hfr ht hd
    simp only [execA] at h
    refine wp_block ?_
    split at h
    · rename_i k τ1 σ1 h1
      by_cases hk : k = id
      · simp only [hk, if_true, Option.some.injEq, Prod.mk.injEq] at h
        obtain ⟨rfl, rfl, rfl⟩ := h
        refine wp_mono (ihx _ _ _ _ _ h1 ρ w a hR hfr ht hd) fun e a1 w1 hp => ?_
        obtain ⟨rfl, hrest⟩ := hp
        simp only [exOf, Exit.inBlock, hk, if_true]
        exact ⟨rfl, hrest⟩
      · simp only [hk, if_false, Option.some.injEq, Prod.mk.injEq] at h
        obtain ⟨rfl, rfl, rfl⟩ := h
        refine wp_mono (ihx _ _ _ _ _ h1 ρ w a hR hfr ht hd) fun e a1 w1 hp => ?_
        obtain ⟨rfl, hrest⟩ := hp
        simp only [exOf, Exit.inBlock, hk, if_false]
        exact ⟨rfl, hrest⟩
    · rename_i hne
      refine wp_mono (ihx _ _ _ _ _ h ρ w a hR hfr ht hd) fun e a1 w1 hp => ?_
      obtain ⟨rfl, hrest⟩ := hp
      cases ex with
      | normal => exact ⟨rfl, hrest⟩
      | exit k => exact (hne _ _ _ h).elim
      | ret => exact ⟨rfl, hrest⟩
  | loop x ihx => exact iterA_loop ihx (execA_len hcall x) n
  | rangeFunc f ps as b _ _ => intro τ σ ex τ' σ' h; simp [execA] at h
  | scope b _ => intro τ σ ex τ' σ' h; simp [execA] at h
  | goto l => intro τ σ ex τ' σ' h; simp [execA] at h
  | refuse y => intro τ σ ex τ' σ' h; simp [execA] at h

theorem resultA_run {st : AE.Stat} {σ : Heap} {τ τ' : Array Value} (hst : GoodSt w0 st) (hR : Rel w0 ρ (hp σ) w) (ht : VRA ρ τ τ') (g : ResultVar → Sem Value) (g1 : ∀ t, g (.tmp t) = pure (τ'.getD t undef))
    (g2 : ∀ a t, g (.cell a t) = (do loadVar t (← asAddr (τ'.getD a undef)))) : ∀ (rs : List ResultVar) (vs : List Value), rs.mapM (resultA P st τ σ) = some vs → ∃ vs', (rs.mapM g).run P w = .ok vs' w ∧ VRL ρ vs vs'
  | [], vs, h => by
    simp only [List.mapM_nil] at h ⊢
    cases h
    exact ⟨[], rfl, .nil ρ⟩
  | r :: rs, vs, h => by
    simp only [List.mapM_cons] at h ⊢
    cases hr : resultA P st τ σ r with
    | none => simp [hr] at h
    | some v =>
      cases hrs : rs.mapM (resultA P st τ σ) with
      | none => simp [hr, hrs] at h
      | some us =>
        simp [hr, hrs] at h
        subst h
        obtain ⟨us', h1, h2⟩ := resultA_run hst hR ht g g1 g2 rs us hrs
        have key : ∃ v', (g r).run P w = .ok v' w ∧ VR ρ v v' := by
          have tv : ∀ t, VR ρ (τ.getD t undef) (τ'.getD t undef) := fun t => evalT_VR (a := { tmps := τ', defers := [] }) ht (x := .tmp t) (fun v hv => by cases hv)
          cases r with
          | tmp t =>
            simp only [resultA, Option.some.injEq] at hr
            subst hr
            exact ⟨_, by rw [g1]; rfl, tv t⟩
          | cell a t =>
            simp only [resultA] at hr
            split at hr
            · rename_i a1 ha1
              have := tv a
              rw [ha1] at this
              generalize hy : τ'.getD a undef = y at this
              cases this with
              | ptr _ a' ha =>
                obtain ⟨v', h3, h4⟩ := loadV_sound (P := P) hst hR ha hr
                exact ⟨v', by rw [g2, hy]; simp [asAddr, h3], h4⟩
            · cases hr
        obtain ⟨v', h3, h4⟩ := key
        exact ⟨v' :: us', by simp only [Sem.run_bind, h3, Result.andThen_ok, h1, Sem.run_pure], .cons h4 h2⟩

theorem resultsA_run {st : AE.Stat} {σ : Heap} {fn : Func} {τ τ' : Array Value} {v : Value} (hst : GoodSt w0 st) (hR : Rel w0 ρ (hp σ) w) (ht : VRA ρ τ τ') (h : resultsA P st fn τ σ = some v) :
    ∃ v', (results fn τ').run P w = .ok v' w ∧ VR ρ v v' := by
  unfold resultsA at h
  cases hm : fn.results.toList.mapM (resultA P st τ σ) with
  | none => simp [hm] at h
  | some vs =>
    have e : ∃ vs' : List Value, VRL ρ vs vs' ∧ ∀ g : ResultVar → Sem Value, (∀ t, g (.tmp t) = pure (τ'.getD t undef)) → (∀ a t, g (.cell a t) = (do loadVar t (← asAddr (τ'.getD a undef)))) → (fn.results.mapM g).run P w = .ok vs'.toArray w := by
      obtain ⟨vs', h1, h2⟩ := resultA_run (P := P) hst hR ht (fun | .tmp t => pure (τ'.getD t undef) | .cell a t => do loadVar t (← asAddr (τ'.getD a undef))) (fun _ => rfl) (fun _ _ => rfl) _ _ hm
      refine ⟨vs', h2, fun g g1 g2 => ?_⟩
      obtain ⟨us', h3, h4⟩ := resultA_run (P := P) hst hR ht g g1 g2 _ _ hm
      have eg : g = (fun | .tmp t => pure (τ'.getD t undef) | .cell a t => do loadVar t (← asAddr (τ'.getD a undef))) := by
        funext r
        cases r with
        | tmp t => exact g1 t
        | cell a t => exact g2 a t
      rw [← Array.toArray_toList (xs := fn.results), List.mapM_toArray]
      rw [eg]
      simp only [Sem.run_map, h1, Result.andThen_ok]
    obtain ⟨vs', h2, e⟩ := e
    unfold results
    simp only [Sem.run_bind]
    rw [e _ (fun _ => rfl) (fun _ _ => rfl)]
    simp only [Result.andThen_ok, Sem.run_pure]
    rw [hm] at h
    split at h
    · rename_i v0 hv0
      obtain rfl := Option.some.inj h
      simp only [Option.some.injEq] at hv0
      subst hv0
      obtain ⟨v', k, rfl, h3, h4⟩ := h2.cons_inv
      obtain rfl := h4.nil_inv
      exact ⟨v', by simp, h3⟩
    · rename_i vs0 hne hv0
      obtain rfl := Option.some.inj h
      simp only [Option.some.injEq] at hv0
      subst hv0
      have hl : vs'.length ≠ 1 := by
        intro hl
        rw [← h2.1] at hl
        match vs, hl with
        | [v], _ => exact hne v rfl
      exact ⟨_, by simp [hl], .tuple' (.mk_list h2)⟩
    · cases h

/-- A function's body, its callees given. -/
theorem bodyA_sound {st : AE.Stat} {call : CallA} {n : Nat} {f : FuncId} {fn : Func} (hcall : CallOk P w0 call) (hst : GoodSt w0 st) (hm : P.follows .mixedOrders = true) (hf : P.funcs[f]? = some fn) :
    FnOk P w0 f (bodyA P st call n fn) := by
  intro args σ v σ' h
  unfold bodyA at h
  cases hb : fn.body with
  | none => simp [hb] at h
  | some c =>
    simp only [hb] at h
    have go : ∀ ex τ σ1, execA P st call n c (args.toArray ++ Array.replicate (fn.ntmps - args.length) undef) σ = some (ex, τ, σ1) → (ex = .normal ∨ ex = .ret) → (resultsA P st fn τ σ1).map (·, σ1) = some (v, σ') →
        σ.length ≤ σ'.length ∧ ∀ ρ w args', Rel w0 ρ (hp σ) w → Fresh ρ σ.length σ'.length → VRL ρ args args' → Calls P f args'.toArray w fun e w' => ∃ v', e = .returned v' ∧ OpOut w0 ρ σ w v σ' v' w' := by
      intro ex τ σ1 hx hex hres
      simp only [Option.map_eq_some_iff, Prod.mk.injEq] at hres
      obtain ⟨v1, hres, rfl, rfl⟩ := hres
      refine ⟨execA_len hcall _ _ _ _ _ _ hx, fun ρ w args' hR hfr hargs => calls_of_wp hf hb ?_⟩
      have ht : VRA ρ (args.toArray ++ Array.replicate (fn.ntmps - args.length) undef) (args'.toArray ++ Array.replicate (fn.ntmps - args'.toArray.size) undef) := by
        refine .of_list ?_
        simp only [Array.toList_append, List.size_toArray, ← hargs.1]
        refine hargs.append ⟨rfl, fun i u u' hu hu' => ?_⟩
        obtain rfl := Option.some.inj (hu.symm.trans hu')
        simp only [Array.toList_replicate, List.getElem?_replicate] at hu
        split at hu
        · obtain rfl := Option.some.inj hu
          exact flat_VR ρ rfl
        · cases hu
      refine wp_mono (execA_sound (n := n) hcall hst hm c _ _ _ _ _ hx ρ w _ hR hfr ht rfl) fun e a1 w1 hp => ?_
      obtain ⟨rfl, hd1, ρ1, hn, hv⟩ := hp
      obtain ⟨v', hr, hvr⟩ := resultsA_run (P := P) (fn := fn) hst hn.rel hv hres
      rcases hex with rfl | rfl
      · exact ⟨hd1, v', hr, v', rfl, ρ1, hn, hvr⟩
      · exact ⟨hd1, v', hr, v', rfl, ρ1, hn, hvr⟩
    split at h
    · rename_i τ σ1 hx; exact go _ _ _ hx (.inl rfl) h
    · rename_i τ σ1 hx; exact go _ _ _ hx (.inr rfl) h
    · cases h

/-- A function and all that it calls, by their bodies. -/
theorem runF_sound {st : AE.Stat} {n : Nat} (hst : GoodSt w0 st) (hx : CallOk P w0 st.ext) (hm : P.follows .mixedOrders = true) : ∀ k, CallOk P w0 (runF P st n k) := by
  intro k
  induction k with
  | zero => intro f args σ v σ' h; simp [runF] at h
  | succ k ih =>
    intro f args σ v σ' h
    simp only [runF] at h
    split at h
    · rename_i fn hf
      split at h
      · rename_i r hr
        obtain rfl := Option.some.inj h
        exact hx f args σ v σ' hr
      · exact bodyA_sound ih hst hm hf args σ v σ' h
    · cases h
end
end Go.AE
