/-
  The symbolic evaluator: a state may be forgotten in part and its blocks given other numbers; loops by invariants.
  Conditions: the symbolic state stands for the evaluator's (Rl); the callees and inner loops do what the symbolic evaluator was told of them.
-/
import Derived.Test.YtiphckeipbfbmaaGreatDoorDeCode
namespace Go.DE
open Go Go.AE

noncomputable def holds (p : Prop) : Bool := @decide p (Classical.propDecidable p)
theorem holds_eq {p : Prop} : holds p = true ↔ p := ⟨fun h => @of_decide_eq_true p (Classical.propDecidable p) h, fun h => @decide_eq_true p (Classical.propDecidable p) h⟩

/-- The blocks' numbers, given anew. -/
def via (r : Nat → Option Nat) (μ : Mu) : Mu := fun j => match r j with
  | some i => μ i
  | none => none
theorem via_some {r : Nat → Option Nat} {μ : Mu} {i j : Nat} (h : r j = some i) : via r μ j = μ i := by
  unfold via
  rw [h]
def Sub (r : Nat → Option Nat) (d2 d : DV) : Prop := ∀ C μ x, DR C μ d x → DR C (via r μ) d2 x
/-- Data without numbers of blocks. -/
def Clo (d : DV) : Prop := ∀ C μ μ' x, DR C μ d x → DR C μ' d x

theorem Clo.v (x : Value) : Clo (.v x) := fun _ _ _ _ h => by cases h; exact .v _ (by assumption)
theorem Clo.any : Clo .any := fun _ _ _ _ _ => .any _
theorem Clo.sl (t : Bool) (g : Nat → Nat → DV) (k n : Nat) : Clo (.sl t g k n) := fun _ _ _ y hy => by
  rcases hy.sl_inv with ⟨a, cap, w, rfl, hc, hk, h1, h2⟩ | ⟨rfl, rfl⟩
  · exact .sl t g k n a cap w hc hk h1 h2
  · exact .slnil t g k
theorem Clo.pf (t : Bool) (g : Nat → Nat → DV) (k n i f : Nat) : Clo (.pf t g k n i f) := fun _ _ _ y hy => by
  obtain ⟨a, w, rfl, hk, hn, h1, h2⟩ := hy.pf_inv
  exact .pf t g k n i f a _ w hk hn rfl h1 h2
theorem Clo.agg {cs : List DV} (h : ∀ c ∈ cs, Clo c) : Clo (.agg cs) := fun C μ μ' y hy => by
  cases hy with
  | agg _ vs h1 h2 => exact .agg cs vs h1 fun i d x hd hx => h d (List.mem_of_getElem? hd) C μ μ' x (h2 i d x hd hx)
theorem Clo.tup {cs : List DV} (h : ∀ c ∈ cs, Clo c) : Clo (.tup cs) := fun C μ μ' y hy => by
  cases hy with
  | tup _ vs h1 h2 => exact .tup cs vs h1 fun i d x hd hx => h d (List.mem_of_getElem? hd) C μ μ' x (h2 i d x hd hx)
theorem Clo.of_isV {d : DV} (h : isV d = true) : Clo d := by
  cases d <;> first | exact Clo.v _ | cases h

section
variable {r : Nat → Option Nat}
theorem Sub.of_clo {d : DV} (h : Clo d) : Sub r d d := fun C μ x hx => h C μ _ x hx
theorem Sub.v (x : Value) : Sub r (.v x) (.v x) := .of_clo (.v x)
theorem Sub.any (d : DV) : Sub r .any d := fun _ _ x _ => .any x
theorem Sub.os {i j a n : Nat} (e : r j = some i) : Sub r (.os j a n) (.os i a n) := fun C μ x hx => by
  obtain ⟨b, k, L0, off, cap, rfl, hm, hk, hc⟩ := hx.os_inv
  exact .os j a n b k L0 off cap (by rw [via_some e]; exact hm) hk hc
theorem Sub.po {i j a n : Nat} (e : r j = some i) : Sub r (.po j a n) (.po i a n) := fun C μ x hx => by
  obtain ⟨b, k, L0, rfl, hm, hk⟩ := hx.po_inv
  exact .po j a n b k L0 _ (by rw [via_some e]; exact hm) hk rfl

inductive SubL (r : Nat → Option Nat) : List DV → List DV → Prop
  | nil : SubL r [] []
  | cons {d2 d : DV} {l2 l : List DV} (h : Sub r d2 d) (t : SubL r l2 l) : SubL r (d2 :: l2) (d :: l)
theorem SubL.drl {ds2 ds : List DV} (h : SubL r ds2 ds) {C : Cf} {μ : Mu} : ∀ {xs : List Value}, DRL C μ ds xs → DRL C (via r μ) ds2 xs := by
  induction h with
  | nil => intro xs hx; obtain rfl := hx.nil_inv; exact .nil _ _
  | cons h t ih => intro xs hx; obtain ⟨x, ys, rfl, h1, h2⟩ := hx.cons_inv; exact .cons (h _ _ _ h1) (ih h2)
theorem SubL.agg {ds2 ds : List DV} (h : SubL r ds2 ds) : Sub r (.agg ds2) (.agg ds) := fun C μ x hx => by
  cases hx with
  | agg _ vs h1 h2 =>
    have := h.drl (C := C) (μ := μ) (xs := vs.toList) ⟨by simpa using h1, fun i d x hd hx => h2 i d x hd (by simpa using hx)⟩
    exact .agg _ _ (by simpa using this.1) fun i d x hd hx => this.2 i d x hd (by simpa using hx)
theorem SubL.tup {ds2 ds : List DV} (h : SubL r ds2 ds) : Sub r (.tup ds2) (.tup ds) := fun C μ x hx => by
  cases hx with
  | tup _ vs h1 h2 =>
    have := h.drl (C := C) (μ := μ) (xs := vs.toList) ⟨by simpa using h1, fun i d x hd hx => h2 i d x hd (by simpa using hx)⟩
    exact .tup _ _ (by simpa using this.1) fun i d x hd hx => this.2 i d x hd (by simpa using hx)

/-- A state, forgotten in part; the blocks below m keep their numbers. -/
structure Wk (r : Nat → Option Nat) (m : Nat) (τ : List DV) (σ : DHeap) (τ2 : List DV) (σ2 : DHeap) : Prop where
  tm : SubL r τ2 τ
  low : ∀ j, j < m → r j = some j
  dom : ∀ j i, r j = some i → j < σ2.length
  mle : m ≤ σ2.length
  inj : ∀ (i j : Nat) bi bj, σ2[i]? = some (some bi) → σ2[j]? = some (some bj) → r i = r j → i = j
  blk : ∀ (j : Nat) b2, σ2[j]? = some (some b2) → ∃ i b, r j = some i ∧ σ[i]? = some (some b) ∧ b2.k = b.k ∧ b2.c.n ≤ b.c.n ∧ b2.c.good ∧ ∀ i f, i < b2.c.n → f < b2.k → Sub r (b2.c.get i f) (b.c.get i f)

/-- What steps leave of the blocks that were there when they began. -/
structure NxM (m : Nat) (C : Cf) (μ : Mu) (σ : Heap) (σd : DHeap) (C' : Cf) (μ' : Mu) (σ' : Heap) (σd' : DHeap) : Prop where
  hC : C.le C'
  hμ : ∀ id x, id < m → μ id = some x → μ' id = some x
  len : σ.length ≤ σ'.length
  lend : m ≤ σd'.length
  fr : ∀ b, b < σ.length → ¬ Live μ σd b → σ'[b]? = σ[b]?
  img : ∀ b, Live μ' σd' b → b < σ.length → Live μ σd b
  old : ∀ t b s o v, C' t b s o = some v → C t b s o = some v
  new : ∀ b o v, C' true b none o = some v → b < σ.length → C true b none o = some v ∨ Live μ σd b
end

section
variable {r : Nat → Option Nat} {st : AE.Stat} {gl : Gl} {C C1 C2 : Cf} {μ μ1 μ2 : Mu} {σ σ1 σ2 : Heap} {σd σd1 σd2 : DHeap} {P : Program} {τ : Array Value} {τd τd2 : List DV} {m : Nat}

theorem NxM.refl (h : m ≤ σd.length) : NxM m C μ σ σd C μ σ σd := ⟨Cf.le_refl _, fun _ _ _ h => h, Nat.le_refl _, h, fun _ _ _ => rfl, fun _ h _ => h, fun _ _ _ _ _ h => h, fun _ _ _ h _ => .inl h⟩
theorem NxM.then (h : NxM m C μ σ σd C1 μ1 σ1 σd1) (k : Nx C1 μ1 σ1 σd1 C2 μ2 σ2 σd2) : NxM m C μ σ σd C2 μ2 σ2 σd2 :=
  ⟨Cf.le_trans h.hC k.hC, fun id x hi hx => k.hμ _ _ (h.hμ id x hi hx), Nat.le_trans h.len k.len, Nat.le_trans h.lend k.lend,
    fun b hb hl => (k.fr b (Nat.lt_of_lt_of_le hb h.len) (fun x => hl (h.img b x hb))).trans (h.fr b hb hl),
    fun b hl hb => h.img b (k.img b hl (Nat.lt_of_lt_of_le hb h.len)) hb, fun t b s o v x => h.old t b s o v (k.old t b s o v x),
    fun b o v hx hb => by
      rcases k.new b o v hx (Nat.lt_of_lt_of_le hb h.len) with h1 | h1
      · exact h.new b o v h1 hb
      · exact .inr (h.img b h1 hb)⟩
theorem NxM.nx (h : NxM σd.length C μ σ σd C1 μ1 σ1 σd1) (hS : St st C μ σ σd) : Nx C μ σ σd C1 μ1 σ1 σd1 :=
  ⟨h.hC, fun id x hx => h.hμ id x (hS.dom id x hx).1 hx, h.len, h.lend, h.fr, h.img, h.old, h.new⟩

theorem Wk.live {b : Nat} (hw : Wk r m τd σd τd2 σd2) (h : Live (via r μ) σd2 b) : Live μ σd b := by
  obtain ⟨id, blk, x, h1, h2⟩ := h
  obtain ⟨i, bb, hr, hb, _⟩ := hw.blk id blk h1
  rw [via_some hr] at h2
  exact ⟨i, bb, x, hb, h2⟩
theorem Wk.nx (hw : Wk r m τd σd1 τd2 σd2) (h : NxM m C μ σ σd C1 μ1 σ1 σd1) : NxM m C μ σ σd C1 (via r μ1) σ1 σd2 :=
  ⟨h.hC, fun id x hi hx => by
      rw [via_some (hw.low id hi)]
      exact h.hμ id x hi hx, h.len, hw.mle, h.fr, fun b hl hb => h.img b (hw.live hl) hb, h.old, h.new⟩

theorem Wk.state (hw : Wk r m τd σd τd2 σd2) (h : St st C μ σ σd) : St st C (via r μ) σ σd2 := by
  refine ⟨h.frz, fun id b2 hb => ?_, fun id blk b x hb hm t o => ?_, fun id id' blk blk' b x x' hb hb' hm hm' => ?_, fun id x hm => ?_, h.low, h.sta⟩
  · obtain ⟨i, bb, q0, q1, q2, q3, q4, q5⟩ := hw.blk id b2 hb
    obtain ⟨b, L, l, h1, h2, h3, h4, h5, h6, h7⟩ := h.own i bb q1
    refine ⟨b, L, l, by rw [via_some q0, q2]; exact h1, by rw [q2]; exact h2, h3, h4, ?_, q4, fun i f hi hf => ?_⟩
    · rw [q2]
      exact Nat.le_trans (Nat.mul_le_mul_right _ q3) h5
    · obtain ⟨v, hv, ho, hr⟩ := h7 i f (by omega) (by omega)
      exact ⟨v, by rw [q2]; exact hv, ho, q5 i f hi hf _ _ _ hr⟩
  · obtain ⟨i, bb, q0, q1, _⟩ := hw.blk id blk hb
    rw [via_some q0] at hm
    exact h.sep i bb b x q1 hm t o
  · obtain ⟨i, bb, q0, q1, _⟩ := hw.blk id blk hb
    obtain ⟨i', bb', q0', q1', _⟩ := hw.blk id' blk' hb'
    rw [via_some q0] at hm
    rw [via_some q0'] at hm'
    refine hw.inj id id' _ _ hb hb' ?_
    rw [q0, q0', h.inj i i' _ _ b x x' q1 q1' hm hm']
  · unfold via at hm
    split at hm
    · rename_i i hi
      exact ⟨hw.dom _ _ hi, (h.dom _ _ hm).2⟩
    · cases hm
theorem Wk.rl (hw : Wk r m τd σd τd2 σd2) (hgl : ∀ g, Clo (gl g)) (h : Rl st gl C μ τ σ τd σd) : Rl st gl C (via r μ) τ σ τd2 σd2 :=
  ⟨hw.state h.S, hw.tm.drl h.T, fun g => hgl g _ _ _ _ (h.G g)⟩

/-- An end that is asked for. -/
noncomputable def asks (Q : Ex → List DV → DHeap → Prop) : KD Unit := fun e τ σ => bif holds (Q e τ σ) then some () else none
theorem asks_some {Q : Ex → List DV → DHeap → Prop} {e : Ex} {τ : List DV} {σ : DHeap} (h : asks Q e τ σ = some ()) : Q e τ σ := holds_eq.1 (bif_none h).1
theorem asks_of {Q : Ex → List DV → DHeap → Prop} {e : Ex} {τ : List DV} {σ : DHeap} (h : Q e τ σ) : asks Q e τ σ = some () := by
  unfold asks
  rw [holds_eq.2 h]
  rfl

def StepQ {X : Type} (pre : X → Prop) (m : Nat) (S : X → List DV × DHeap) (out : X → Ex × List DV × DHeap) (meas : X → Nat) (x : X) (e : Ex) (τ : List DV) (σ : DHeap) : Prop :=
  match e with
  | .normal => ∃ y, pre y ∧ out y = out x ∧ meas y < meas x ∧ ∃ r, Wk r m τ σ (S y).1 (S y).2
  | e => e = (out x).1 ∧ ∃ r, Wk r m τ σ (out x).2.1 (out x).2.2

theorem loop_core {X : Type} {E : Env Unit} (hE : EnvOk P st E) (hgl : ∀ g, Clo (E.gl g)) {c : Code} {p : Nat} (hl : ∀ x ∈ loopsL p c, ∀ g, E.lp x.1 = some g → LoopS P st E.gl x.2 g)
    {pre : X → Prop} {m : Nat} {S : X → List DV × DHeap} {out : X → Ex × List DV × DHeap} {meas : X → Nat} (body : ∀ x, pre x → ∃ κ : KD Unit, execD P E c p (S x).1 (S x).2 κ = some () ∧ ∀ e τ σ, κ e τ σ = some () → StepQ pre m S out meas x e τ σ) :
    ∀ (k : Nat) (x : X), meas x < k → pre x → ∀ {C0 : Cf} {μ0 : Mu} {σ0 : Heap} {σd0 : DHeap} {C : Cf} {μ : Mu} {τ : Array Value} {σ : Heap}, Rl st E.gl C μ τ σ (S x).1 (S x).2 → NxM m C0 μ0 σ0 σd0 C μ σ (S x).2 →
      ∃ τ' σ' C' μ', (∃ N, ∀ n mm q, N ≤ n → N ≤ mm → N ≤ q → iterA (execA P st (runF P st n mm) n c) q τ σ = some ((out x).1, τ', σ')) ∧ Rl st E.gl C' μ' τ' σ' (out x).2.1 (out x).2.2 ∧ NxM m C0 μ0 σ0 σd0 C' μ' σ' (out x).2.2
  | 0, x, hk, _, _, _, _, _, _, _, _, _, _, _ => by omega
  | k + 1, x, hk, hpre, C0, μ0, σ0, σd0, C, μ, τ, σ, h, hn => by
    obtain ⟨κ, hb, hκ⟩ := body x hpre
    obtain ⟨e, τ1, σ1, C1, μ1, τd1, σd1, ⟨N, hN⟩, h1, n1, hx⟩ := execD_some hE c p hl h hb
    have hq := hκ _ _ _ hx
    have step : ∀ n mm q, N ≤ n → N ≤ mm → iterA (execA P st (runF P st n mm) n c) (q + 1) τ σ = match e with
        | .normal => iterA (execA P st (runF P st n mm) n c) q τ1 σ1
        | .exit i => some (.exit i, τ1, σ1)
        | .ret => some (.ret, τ1, σ1) := by
      intro n mm q hn hm
      have hN' : execA P st (runF P st n mm) n c τ σ = some (e, τ1, σ1) := hN n mm hn hm
      simp only [iterA, hN']
      cases e <;> rfl
    have ends : ∀ e', e' = (out x).1 → (∃ r, Wk r m τd1 σd1 (out x).2.1 (out x).2.2) → (∀ n mm q, N ≤ n → N ≤ mm → iterA (execA P st (runF P st n mm) n c) (q + 1) τ σ = some (e', τ1, σ1)) →
        ∃ τ' σ' C' μ', (∃ N, ∀ n mm q, N ≤ n → N ≤ mm → N ≤ q → iterA (execA P st (runF P st n mm) n c) q τ σ = some ((out x).1, τ', σ')) ∧ Rl st E.gl C' μ' τ' σ' (out x).2.1 (out x).2.2 ∧ NxM m C0 μ0 σ0 σd0 C' μ' σ' (out x).2.2 := by
      intro e' he ⟨r, hw⟩ hs
      refine ⟨τ1, σ1, C1, _, ⟨N + 1, fun n mm q hn hm hq => ?_⟩, hw.rl hgl h1, hw.nx (hn.then n1)⟩
      obtain ⟨q, rfl⟩ : ∃ q', q = q' + 1 := ⟨q - 1, by omega⟩
      rw [hs n mm q (by omega) (by omega), he]
    cases e with
    | normal =>
      obtain ⟨y, hpy, hy, hm, r, hw⟩ := hq
      have h2 := hw.rl hgl h1
      obtain ⟨τ2, σ2, C2, μ2, ⟨M, hM⟩, h3, n3⟩ := loop_core hE hgl hl body k y (by omega) hpy h2 (hw.nx (hn.then n1))
      rw [hy] at hM h3 n3
      refine ⟨τ2, σ2, C2, μ2, ⟨max N M + 1, fun n mm q hn hm hq => ?_⟩, h3, n3⟩
      obtain ⟨q, rfl⟩ : ∃ q', q = q' + 1 := ⟨q - 1, by omega⟩
      rw [step n mm q (by omega) (by omega)]
      exact hM n mm q (by omega) (by omega) (by omega)
    | exit i => exact ends _ hq.1 hq.2 fun n mm q hn hm => step n mm q hn hm
    | ret => exact ends _ hq.1 hq.2 fun n mm q hn hm => step n mm q hn hm

/-- What is told of a loop, by an invariant. -/
theorem loopS_of {α X : Type} {E : Env Unit} (hE : EnvOk P st E) (hgl : ∀ g, Clo (E.gl g)) {c : Code} {p : Nat} (hl : ∀ x ∈ loopsL p c, ∀ g, E.lp x.1 = some g → LoopS P st E.gl x.2 g)
    {pre : X → Prop} {m : Nat} {S : X → List DV × DHeap} {out : X → Ex × List DV × DHeap} {meas : X → Nat} (body : ∀ x, pre x → ∃ κ : KD Unit, execD P E c p (S x).1 (S x).2 κ = some () ∧ ∀ e τ σ, κ e τ σ = some () → StepQ pre m S out meas x e τ σ)
    {g : LoopD α} (hg : ∀ τd σd k r, g τd σd k = some r → ∃ x, pre x ∧ σd.length = m ∧ (∃ ρ, Wk ρ m τd σd (S x).1 (S x).2) ∧ k (out x).1 (out x).2.1 (out x).2.2 = some r) : LoopS P st E.gl (.loop c) g := by
  intro τd σd k r hgr C μ τ σ h
  obtain ⟨x, hpx, hm, ⟨ρ, hw⟩, hk⟩ := hg τd σd k r hgr
  subst hm
  obtain ⟨τ', σ', C', μ', ⟨N, hN⟩, h1, n1⟩ := loop_core hE hgl hl body (meas x + 1) x (Nat.lt_succ_self _) hpx (hw.rl hgl h) (hw.nx (.refl (Nat.le_refl _)))
  exact ⟨_, τ', σ', C', μ', _, _, ⟨N, fun n mm hn hm => hN n mm n hn hm hn⟩, h1, n1.nx h.S, hk⟩
/-- What is told of a piece of code. -/
theorem pieceS_of {α X : Type} {E : Env Unit} (hE : EnvOk P st E) (hgl : ∀ g, Clo (E.gl g)) {c : Code} {p : Nat} (hl : ∀ x ∈ loopsL p c, ∀ g, E.lp x.1 = some g → LoopS P st E.gl x.2 g)
    {pre : X → Prop} {m : Nat} {S : X → List DV × DHeap} {out : X → Ex × List DV × DHeap} (body : ∀ x, pre x → ∃ κ : KD Unit, execD P E c p (S x).1 (S x).2 κ = some () ∧ ∀ e τ σ, κ e τ σ = some () → e = (out x).1 ∧ ∃ r, Wk r m τ σ (out x).2.1 (out x).2.2)
    {g : LoopD α} (hg : ∀ τd σd k r, g τd σd k = some r → ∃ x, pre x ∧ σd.length = m ∧ (∃ ρ, Wk ρ m τd σd (S x).1 (S x).2) ∧ k (out x).1 (out x).2.1 (out x).2.2 = some r) : LoopS P st E.gl c g := by
  intro τd σd k r hgr C μ τ σ h
  obtain ⟨x, hpx, hm, ⟨ρ, hw⟩, hk⟩ := hg τd σd k r hgr
  subst hm
  obtain ⟨κ, hb, hκ⟩ := body x hpx
  obtain ⟨e, τ1, σ1, C1, μ1, τd1, σd1, hL, h1, n1, hx⟩ := execD_some hE c p hl (hw.rl hgl h) hb
  obtain ⟨rfl, ρ', hw'⟩ := hκ _ _ _ hx
  exact ⟨_, τ1, σ1, C1, _, _, _, hL, hw'.rl hgl h1, (hw'.nx ((hw.nx (.refl (Nat.le_refl _))).then n1)).nx h.S, hk⟩
end
end Go.DE
