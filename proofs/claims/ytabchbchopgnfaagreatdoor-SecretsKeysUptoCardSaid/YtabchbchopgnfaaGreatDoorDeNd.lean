/-
  The symbolic evaluator: loops and callees of which is known only among what they end: whatever goes on behind them must go on at each of these ends.
  Conditions: the symbolic state stands for the evaluator's (Rl).

  Lists of whole numbers, as callees and loops see them.
  Conditions: none; definitions and lemmas.

  The symbolic evaluator: callees that are entered with the blocks as they are.
  Conditions: the callees and inner loops do what the symbolic evaluator was told of them.
-/
import Derived.Test.YtabchbchopgnfaaGreatDoorDeExt
namespace Go.DE
open Go Go.AE Go.RowKit

abbrev EndD := Ex × List DV × DHeap
def StepN {X : Type} (pre : X → Prop) (m : Nat) (S : X → List DV × DHeap) (fin : X → EndD → Prop) (meas : X → Nat) (x : X) (e : Ex) (τ : List DV) (σ : DHeap) : Prop :=
  match e with
  | .normal => ∃ y, pre y ∧ (∀ o, fin y o → fin x o) ∧ meas y < meas x ∧ ∃ r, Wk r m τ σ (S y).1 (S y).2
  | e => ∃ o, fin x o ∧ e = o.1 ∧ ∃ r, Wk r m τ σ o.2.1 o.2.2

section
variable {st : AE.Stat} {P : Program}
theorem loopN_core {X : Type} {E : Env Unit} (hE : EnvOk P st E) (hgl : ∀ g, Clo (E.gl g)) {c : Code} {p : Nat} (hl : ∀ x ∈ loopsL p c, ∀ g, E.lp x.1 = some g → LoopS P st E.gl x.2 g)
    {pre : X → Prop} {m : Nat} {S : X → List DV × DHeap} {fin : X → EndD → Prop} {meas : X → Nat} (body : ∀ x, pre x → ∃ κ : KD Unit, execD P E c p (S x).1 (S x).2 κ = some () ∧ ∀ e τ σ, κ e τ σ = some () → StepN pre m S fin meas x e τ σ) :
    ∀ (k : Nat) (x : X), meas x < k → pre x → ∀ {C0 : Cf} {μ0 : Mu} {σ0 : Heap} {σd0 : DHeap} {C : Cf} {μ : Mu} {τ : Array Value} {σ : Heap}, Rl st E.gl C μ τ σ (S x).1 (S x).2 → NxM m C0 μ0 σ0 σd0 C μ σ (S x).2 →
      ∃ o τ' σ' C' μ', fin x o ∧ (∃ N, ∀ n mm q, N ≤ n → N ≤ mm → N ≤ q → iterA (execA P st (runF P st n mm) n c) q τ σ = some (o.1, τ', σ')) ∧ Rl st E.gl C' μ' τ' σ' o.2.1 o.2.2 ∧ NxM m C0 μ0 σ0 σd0 C' μ' σ' o.2.2
  | 0, x, hk, _, _, _, _, _, _, _, _, _, _, _ => by omega
  | k + 1, x, hk, hpre, C0, μ0, σ0, σd0, C, μ, τ, σ, h, hn => by
    obtain ⟨κ, hb, hκ⟩ := body x hpre
    obtain ⟨e, τ1, σ1, C1, μ1, τd1, σd1, ⟨N, hN⟩, h1, n1, hx⟩ := execD_some hE c p hl h hb
    have hq := hκ _ _ _ hx
    have step : ∀ n mm q, N ≤ n → N ≤ mm → iterA (execA P st (runF P st n mm) n c) (q + 1) τ σ = match e with
        | .normal => iterA (execA P st (runF P st n mm) n c) q τ1 σ1
        | .exit i => some (.exit i, τ1, σ1)
        | .ret => some (.ret, τ1, σ1) := by
      intro n mm q hn hm
      have hN' : execA P st (runF P st n mm) n c τ σ = some (e, τ1, σ1) := hN n mm hn hm
      simp only [iterA, hN']
      cases e <;> rfl
    have ends : ∀ e', (∃ o, fin x o ∧ e' = o.1 ∧ ∃ r, Wk r m τd1 σd1 o.2.1 o.2.2) → (∀ n mm q, N ≤ n → N ≤ mm → iterA (execA P st (runF P st n mm) n c) (q + 1) τ σ = some (e', τ1, σ1)) →
        ∃ o τ' σ' C' μ', fin x o ∧ (∃ N, ∀ n mm q, N ≤ n → N ≤ mm → N ≤ q → iterA (execA P st (runF P st n mm) n c) q τ σ = some (o.1, τ', σ')) ∧ Rl st E.gl C' μ' τ' σ' o.2.1 o.2.2 ∧ NxM m C0 μ0 σ0 σd0 C' μ' σ' o.2.2 := by
      rintro e' ⟨o, ho, rfl, r, hw⟩ hs
      refine ⟨o, τ1, σ1, C1, _, ho, ⟨N + 1, fun n mm q hn hm hq => ?_⟩, hw.rl hgl h1, hw.nx (hn.then n1)⟩
      obtain ⟨q, rfl⟩ : ∃ q', q = q' + 1 := ⟨q - 1, by omega⟩
      rw [hs n mm q (by omega) (by omega)]
    cases e with
    | normal =>
      obtain ⟨y, hpy, hy, hm, r, hw⟩ := hq
      have h2 := hw.rl hgl h1
      obtain ⟨o, τ2, σ2, C2, μ2, ho, ⟨M, hM⟩, h3, n3⟩ := loopN_core hE hgl hl body k y (by omega) hpy h2 (hw.nx (hn.then n1))
      refine ⟨o, τ2, σ2, C2, μ2, hy o ho, ⟨max N M + 1, fun n mm q hn hm hq => ?_⟩, h3, n3⟩
      obtain ⟨q, rfl⟩ : ∃ q', q = q' + 1 := ⟨q - 1, by omega⟩
      rw [step n mm q (by omega) (by omega)]
      exact hM n mm q (by omega) (by omega) (by omega)
    | exit i => exact ends _ hq fun n mm q hn hm => step n mm q hn hm
    | ret => exact ends _ hq fun n mm q hn hm => step n mm q hn hm
theorem loopN_of {α X : Type} {E : Env Unit} (hE : EnvOk P st E) (hgl : ∀ g, Clo (E.gl g)) {c : Code} {p : Nat} (hl : ∀ x ∈ loopsL p c, ∀ g, E.lp x.1 = some g → LoopS P st E.gl x.2 g)
    {pre : X → Prop} {m : Nat} {S : X → List DV × DHeap} {fin : X → EndD → Prop} {meas : X → Nat} (body : ∀ x, pre x → ∃ κ : KD Unit, execD P E c p (S x).1 (S x).2 κ = some () ∧ ∀ e τ σ, κ e τ σ = some () → StepN pre m S fin meas x e τ σ)
    {g : LoopD α} (hg : ∀ τd σd k r, g τd σd k = some r → ∃ x, pre x ∧ σd.length = m ∧ (∃ ρ, Wk ρ m τd σd (S x).1 (S x).2) ∧ ∀ o, fin x o → k o.1 o.2.1 o.2.2 = some r) : LoopS P st E.gl (.loop c) g := by
  intro τd σd k r hgr C μ τ σ h
  obtain ⟨x, hpx, hm, ⟨ρ, hw⟩, hk⟩ := hg τd σd k r hgr
  subst hm
  obtain ⟨o, τ', σ', C', μ', ho, ⟨N, hN⟩, h1, n1⟩ := loopN_core hE hgl hl body (meas x + 1) x (Nat.lt_succ_self _) hpx (hw.rl hgl h) (hw.nx (.refl (Nat.le_refl _)))
  exact ⟨_, τ', σ', C', μ', _, _, ⟨N, fun n mm hn hm => hN n mm n hn hm hn⟩, h1, n1.nx h.S, hk o ho⟩
end

/-- A loop, by an invariant over a few temporaries; where it may end: Y tells the ends of each kind. -/
structure LInvN (X : Type) where
  pre : X → Prop := fun _ => True
  m : Nat
  n : Nat
  ps : List Nat
  sd : X → List DV
  sh : X → DHeap
  meas : X → Nat
  qs : List Nat
  fin : X → EndD → Prop
  guess : List DV → DHeap → Option X
  cps : X → (Ex → List DV → DHeap → Option Unit) → Option Unit
def LInvN.st {X : Type} (I : LInvN X) (x : X) : List DV × DHeap := (temps I.n I.ps (I.sd x), I.sh x)
/-- The ends, all temporaries told. -/
def LInvN.ends {X : Type} (I : LInvN X) (x : X) (o : EndD) : Prop := ∃ ds, I.fin x (o.1, ds, o.2.2) ∧ o.2.1 = temps I.n I.qs ds
def LInvN.Q {X : Type} (I : LInvN X) (x : X) (e : Ex) (n : Nat) (ds es : List DV) (σ : DHeap) : Prop :=
  n = I.n ∧ match e with
    | .normal => ∃ y, I.pre y ∧ (∀ o, I.fin y o → I.fin x o) ∧ I.meas y < I.meas x ∧ ∃ ids, WkP I.m ids ds σ (I.sd y) (I.sh y)
    | e => ∃ o : EndD, I.fin x o ∧ e = o.1 ∧ ∃ ids, WkP I.m ids es σ o.2.1 o.2.2
noncomputable def LInvN.ask {X : Type} (I : LInvN X) (x : X) (e : Ex) (n : Nat) (ds es : List DV) (σ : DHeap) : Option Unit := bif holds (I.Q x e n ds es σ) then some () else none
theorem LInvN.ask_of {X : Type} {I : LInvN X} {x : X} {e : Ex} {n : Nat} {ds es : List DV} {σ : DHeap} (h : I.Q x e n ds es σ) : I.ask x e n ds es σ = some () := hT h rfl
noncomputable def LInvN.g {X : Type} (I : LInvN X) : LoopD Unit := fun τ σ k => match Nat.beq τ.length I.n, Nat.beq σ.length I.m with
  | true, true => match I.guess (pick I.ps τ) σ with
    | some x => bif holds (I.pre x ∧ ∃ ids, WkP I.m ids (pick I.ps τ) σ (I.sd x) (I.sh x)) then I.cps x (fun e ds σ => k e (temps I.n I.qs ds) σ) else none
    | none => none
  | _, _ => none
theorem LInvN.ok {X : Type} {P : Program} {st : AE.Stat} {E : Env Unit} (I : LInvN X) (hE : EnvOk P st E) (hgl : ∀ g, Clo (E.gl g)) {c : Code} {p : Nat}
    (hl : ∀ x ∈ loopsL p c, ∀ g, E.lp x.1 = some g → LoopS P st E.gl x.2 g)
    (cps : ∀ x k, I.cps x k = some () → ∀ o, I.fin x o → k o.1 o.2.1 o.2.2 = some ())
    (body : ∀ x, I.pre x → execD P E c p (temps I.n I.ps (I.sd x)) (I.sh x) (fun e τ σ => I.ask x e τ.length (pick I.ps τ) (pick I.qs τ) σ) = some ()) : LoopS P st E.gl (.loop c) I.g := by
  refine loopN_of (pre := I.pre) (m := I.m) (S := I.st) (fin := I.ends) (meas := I.meas) hE hgl hl (fun x hpx => ?_) fun τd σd k r hx => ?_
  · refine ⟨_, body x hpx, fun e τ σ hx => ?_⟩
    obtain ⟨hn, hq⟩ : I.Q x e τ.length (pick I.ps τ) (pick I.qs τ) σ := holds_eq.1 (bif_none hx).1
    cases e with
    | normal =>
      obtain ⟨y, h5, h1, h4, ids, hw⟩ := hq
      refine ⟨y, h5, ?_, h4, _, hw.wk hn⟩
      rintro o ⟨ds, h6, h7⟩
      exact ⟨ds, h1 _ h6, h7⟩
    | exit i =>
      obtain ⟨⟨e', ds, σ'⟩, h1, rfl, ids, hw⟩ := hq
      exact ⟨(_, temps I.n I.qs ds, σ'), ⟨ds, h1, rfl⟩, rfl, _, hw.wk hn⟩
    | ret =>
      obtain ⟨⟨e', ds, σ'⟩, h1, h2, ids, hw⟩ := hq
      simp only at h2
      subst h2
      exact ⟨(_, temps I.n I.qs ds, σ'), ⟨ds, h1, rfl⟩, rfl, _, hw.wk hn⟩
  · unfold LInvN.g at hx
    split at hx <;> first | (cases hx; done) | skip
    rename_i h1 h2
    have h1 := Nat.eq_of_beq_eq_true h1
    have h2 := Nat.eq_of_beq_eq_true h2
    split at hx <;> first | (cases hx; done) | skip
    rename_i x hf
    obtain ⟨hw, hx⟩ := bif_none hx
    obtain ⟨hpx, ids, hw⟩ := holds_eq.1 hw
    refine ⟨x, hpx, h2, ⟨_, hw.wk h1⟩, ?_⟩
    rintro ⟨e, τ', σ'⟩ ⟨ds, h3, h4⟩
    simp only at h4
    subst h4
    exact cps _ _ hx _ h3

/-- A callee of which is known only among what it answers (flat answers). -/
noncomputable def someC (A : List DV → DV → Prop) : ConF := fun args k => bif holds ((∃ d, A args d) ∧ ∀ d, A args d → k (fun _ => (d, [])) = some ()) then some () else none
theorem con_some {P : Program} {st : AE.Stat} {gl : Gl} {f : FuncId} {fn : Func} {A : List DV → DV → Prop} {l : List (FuncId × ConF)} {lp : Nat → Option (LoopD Unit)} {n : Nat} {mg : List (Nat × List (Nat × List Nat))} (hst : GlOk st gl) (hl : ∀ x ∈ l, ConOk P st x.1 x.2) (hf : P.funcs[f]? = some fn)
    (hn : (fn.name == "runtime.NumGoroutine") = false) (hb : fn.body.isNone = false) (hxt : ∀ a σ, st.ext f a σ = none) (hlp : ∀ x ∈ loopsOf fn, ∀ g, lp x.1 = some g → LoopS P st gl x.2 g) (hA : ∀ args d, A args d → flR d = true)
    (h : ∀ args, (∃ d, A args d) → bodyD P ⟨tblD l, fun _ => true, gl, lp, n, joins P gl mg⟩ fn args [] (fun d _ => bif holds (A args d) then some () else none) = some ()) : ConOk P st f (someC A) :=
  conOk_run (E := ⟨tblD l, fun _ => true, gl, lp, n, joins P gl mg⟩) hf hn hb hxt hst (tblD_env hl) hlp fun args k hk s => by
    obtain ⟨he, hk⟩ := holds_eq.1 (bif_none hk).1
    refine ⟨_, h args he, fun d σ hd => ?_⟩
    have hd := holds_eq.1 (bif_none hd).1
    obtain ⟨h3, h4⟩ := flR_clo (hA args d hd)
    exact ⟨_, hk d hd, ⟨h4, fun id blk hb => by simp at hb⟩, finQ_flat h3 rfl⟩
end Go.DE

namespace Go.DE
open Go Go.AE Go.RowKit

abbrev kv (q : IntKind) (x : Int) : DV := .v (.int q x)
abbrev iv (x : Int) : DV := .v (.int .i64 x)
abbrev sv (s : ByteArray) : DV := .v (.string s)
abbrev bv (b : Bool) : DV := .v (.bool b)
/-- The rows of a list of numbers. -/
def rowI (q : IntKind) (z : Nat → Int) : Nat → Nat → DV := fun i _ => kv q (z i)
def rowOk (q : IntKind) (g : Nat → Nat → DV) (n : Nat) : Prop := ∀ i, i < n → g i 0 = kv q (numD (g i 0))
def lw (L : List Int) : Nat → Int := fun j => L.getD j 0
/-- A list of numbers handed to a callee: what goes on behind it gets the numbers. -/
noncomputable def rowK (q : IntKind) (d : DV) (k : (Nat → Int) → Nat → Option Unit) : Option Unit :=
  match d with
  | .sl _ g 1 n => bif holds (rowOk q g n) then k (fun i => numD (g i 0)) n else none
  | .v (.slice none 0 0) => k (fun _ => 0) 0
  | _ => none
theorem rowOk_row (q : IntKind) (z : Nat → Int) (n : Nat) : rowOk q (rowI q z) n := fun _ _ => rfl
theorem rowK_row {q : IntKind} {t : Bool} {z : Nat → Int} {n : Nat} {k : (Nat → Int) → Nat → Option Unit} (h : k z n = some ()) : rowK q (.sl t (rowI q z) 1 n) k = some () := hT (rowOk_row q z n) h
theorem rowK_some {q : IntKind} {d : DV} {k : (Nat → Int) → Nat → Option Unit} (h : rowK q d k = some ()) : ∃ t z n, k z n = some () ∧ ∀ C μ v, DR C μ d v → DR C μ (.sl t (rowI q z) 1 n) v := by
  unfold rowK at h
  split at h <;> first | (cases h; done) | skip
  · rename_i t g n
    obtain ⟨h1, h2⟩ := bif_none h
    have h1 := holds_eq.1 h1
    refine ⟨t, _, n, h2, fun C μ v hv => ?_⟩
    rcases hv.sl_inv with ⟨a, cap, w, rfl, hc, hk, q1, q2⟩ | ⟨rfl, rfl⟩
    · refine .sl t _ 1 n a cap w hc hk q1 fun i f hi hf => ?_
      obtain rfl : f = 0 := by omega
      have := q2 i 0 hi hf
      rw [h1 i hi] at this
      exact this
    · exact .slnil t _ 1
  · refine ⟨true, _, 0, h, fun C μ v hv => ?_⟩
    cases hv
    exact .slnil true _ 1
/-- A block that holds a list of numbers. -/
def lstB (q : IntKind) (L : List Int) : DBlk := ⟨1, .tab L.length (rowI q (lw L))⟩
def HasL (q : IntKind) (c : DC) (L : List Int) : Prop := L.length ≤ c.n ∧ c.good ∧ ∀ j, j < L.length → c.get j 0 = kv q (lw L j)
theorem HasL.sub {q : IntKind} {r : Nat → Option Nat} {c : DC} {L : List Int} (h : HasL q c L) : SubC r (lstB q L) ⟨1, c⟩ :=
  ⟨rfl, h.1, trivial, fun i f hi hf => by
    obtain rfl : f = 0 := by
      have : f < 1 := hf
      omega
    rw [h.2.2 i hi]
    exact .v _⟩
theorem HasL.tab {q : IntKind} {L : List Int} : HasL q (.tab L.length (rowI q (lw L))) L := ⟨Nat.le_refl _, trivial, fun _ _ => rfl⟩
theorem HasL.nil {q : IntKind} {c : DC} (h : c.good) : HasL q c [] := ⟨Nat.zero_le _, h, fun j hj => absurd hj (Nat.not_lt_zero _)⟩
theorem HasL.one {q : IntKind} {v w : Int} (h : v = w) : HasL q (.lst [[kv q v]]) [w] := ⟨Nat.le_refl _, trivial, fun j hj => by
  obtain rfl : j = 0 := by simpa using hj
  subst h
  rfl⟩
theorem HasL.lst {q : IntKind} (M : List Int) : HasL q (.lst (M.map fun v => [kv q v])) M := ⟨by show M.length ≤ (M.map fun v => [kv q v]).length; simp, trivial, fun j hj => by
  show ((M.map fun v => [kv q v]).getD j []).getD 0 .any = kv q (lw M j)
  have e : (M.map fun v => [kv q v]).getD j [] = [kv q M[j]] := by rw [List.getD_eq_getElem?_getD, List.getElem?_map, List.getElem?_eq_getElem hj]; rfl
  rw [e]
  simp [lw, List.getElem?_eq_getElem hj]⟩
theorem HasL.app {q : IntKind} {c d : DC} {L M : List Int} {n : Nat} (hn : n = L.length) (h : HasL q c L) (k : HasL q d M) : HasL q (.app (.pre c n) d) (L ++ M) := by
  subst hn
  refine ⟨?_, ⟨⟨h.2.1, h.1⟩, k.2.1⟩, fun j hj => ?_⟩
  · show (L ++ M).length ≤ L.length + d.n
    have := k.1
    simp only [List.length_append]
    omega
  · have e : (DC.app (.pre c L.length) d).get j 0 = if j < L.length then c.get j 0 else d.get (j - L.length) 0 := rfl
    rw [e]
    by_cases hjl : j < L.length
    · rw [if_pos hjl, h.2.2 j hjl]
      simp [lw, List.getElem?_append_left hjl]
    · rw [if_neg hjl, k.2.2 (j - L.length) (by simp at hj; omega)]
      simp [lw, List.getElem?_append_right (Nat.le_of_not_lt hjl)]
/-- A function's end: a new list beside flat data. -/
theorem finQ_tup {s id i n : Nat} {c : DC} {k : Nat} {σ : DHeap} {blk : DBlk} {d' : DV} {l : List DV} (e : d' = .tup (.os id i n :: l)) (hl : ∀ d ∈ l, Clo d) (hb : σ[id]? = some (some blk)) (hk : k = blk.k) (hn : c.n ≤ blk.c.n) (hg : c.good)
    (hc : ∀ i f, i < c.n → f < k → Clo (c.get i f) ∧ blk.c.get i f = c.get i f) : FinQ s (.tup (.os s i n :: l), [some ⟨k, c⟩]) d' σ := by
  have at0 : ∀ {j : Nat} {b}, (List.replicate s none ++ [some (⟨k, c⟩ : DBlk)])[j]? = some (some b) → j = s ∧ b = ⟨k, c⟩ := by
    intro j b hj
    obtain ⟨h1, h2⟩ := repl_get.1 hj
    cases hx : j - s with
    | zero => rw [hx] at h2; simp only [List.getElem?_cons_zero, Option.some.injEq] at h2; exact ⟨by omega, h2.symm⟩
    | succ m => rw [hx] at h2; simp at h2
  have hrest : ∀ {r : Nat → Option Nat} (l : List DV), (∀ d ∈ l, Clo d) → SubL r l l := by
    intro r l
    induction l with
    | nil => intro _; exact .nil
    | cons d l ih => intro h; exact .cons (.of_clo (h d (by simp))) (ih fun x hx => h x (by simp [hx]))
  refine ⟨fun j => if j = s then some id else none, fun j i h => ?_, ⟨.cons (by rw [e]; exact (SubL.cons (.os (by simp)) (hrest l hl)).tup) .nil, fun j h => by omega, fun j i h => ?_, by simp, fun a b ba bb ha hb _ => by rw [(at0 ha).1, (at0 hb).1], fun j b hj => ?_⟩⟩
  · have h : (if j = s then some id else none) = some i := h
    split at h
    · omega
    · cases h
  · have h : (if j = s then some id else none) = some i := h
    split at h
    · simp; omega
    · cases h
  · obtain ⟨rfl, rfl⟩ := at0 hj
    refine ⟨id, blk, by simp, hb, hk, hn, hg, fun i f hi hf => ?_⟩
    obtain ⟨h1, h2⟩ := hc i f hi hf
    show Sub _ (c.get i f) (blk.c.get i f)
    rw [h2]
    exact .of_clo h1
theorem lowR_lst {q : IntKind} {d : DV} {L : List Int} (h : Low d) : LowR (d, [some (lstB q L)]) := ⟨h, fun id blk hb i f hi hf => by
  cases id with
  | zero =>
    obtain rfl : lstB q L = blk := by simpa using hb
    exact .v _
  | succ id => simp at hb⟩
end Go.DE

namespace Go.DE
open Go Go.AE Go.RowKit

/-- A callee to be entered, and what is told of its own callees and loops. -/
structure InE where
  f : FuncId
  fn : Func
  E : Env Unit
def inH (P : Program) : List InE → List (FuncId × ConF) → CallD Unit
  | [], l => tblD l
  | e :: r, l => fun g args σ k => match Nat.beq g e.f with
    | true => bodyD P e.E e.fn args σ k
    | false => inH P r l g args σ k
def notIn : List InE → FuncId → Bool
  | [], _ => true
  | e :: r, g => match Nat.beq g e.f with
    | true => false
    | false => notIn r g
structure InOk (P : Program) (st : AE.Stat) (e : InE) : Prop where
  hf : P.funcs[e.f]? = some e.fn
  hn : (e.fn.name == "runtime.NumGoroutine") = false
  hb : e.fn.body.isNone = false
  hxt : ∀ a σ, st.ext e.f a σ = none
  hE : EnvOk P st e.E
  hgl : GlOk st e.E.gl
  hl : ∀ x ∈ loopsOf e.fn, ∀ g, e.E.lp x.1 = some g → LoopS P st e.E.gl x.2 g
section
variable {P : Program} {st : AE.Stat} {l : List (FuncId × ConF)}
theorem inH_call (hl : ∀ x ∈ l, ConOk P st x.1 x.2) : ∀ {hs : List InE}, (∀ e ∈ hs, InOk P st e) → CallS P st (inH P hs l)
  | [], _ => tblD_call hl
  | e :: r, h => fun f args σd k x hx C μ σ vs hS ha => by
    unfold inH at hx
    split at hx
    · rename_i he
      obtain rfl := Nat.eq_of_beq_eq_true he
      have ho := h e (by simp)
      obtain ⟨v, σ', C', μ', d, σd', ⟨N, hN⟩, h1, n1, h2, hk⟩ := bodyD_some ho.hE ho.hl hS ha (ho.hgl.2 _ _ _ _ hS) hx
      refine ⟨v, σ', C', μ', d, σd', ⟨N + 1, fun n m hn' hm => ?_⟩, h1, n1, h2, hk⟩
      obtain ⟨m, rfl⟩ : ∃ m', m = m' + 1 := ⟨m - 1, by omega⟩
      show enterA P (runF P st n (m + 1)) e.f vs σ = _
      unfold enterA
      rw [ho.hf]
      simp only [ho.hn, ho.hb, Bool.false_eq_true, if_false, runF, ho.hf, ho.hxt]
      exact hN n m (by omega) (by omega)
    · exact inH_call hl (fun e he => h e (by simp [he])) f args σd k x hx C μ σ vs hS ha
theorem inH_pure (hl : ∀ x ∈ l, ConOk P st x.1 x.2) : ∀ {hs : List InE}, PureS P st (inH P hs l) (notIn hs)
  | [] => fun f args σd k r _ hx C μ σ vs h ha => tblD_pure hl f args σd k r rfl hx C μ σ vs h ha
  | e :: r => fun f args σd k x hp hx C μ σ vs hS ha => by
    unfold inH at hx
    unfold notIn at hp
    split at hx
    · rename_i he
      rw [he] at hp
      cases hp
    · rename_i he
      rw [he] at hp
      exact inH_pure hl (hs := r) f args σd k x hp hx C μ σ vs hS ha
end
/-- What is told of callees to be entered, of callees, of loops. -/
noncomputable def envH (P : Program) (gl : Gl) (hs : List InE) (l : List (FuncId × ConF)) (lp : Nat → Option (LoopD Unit)) (n : Nat) (mg : List (Nat × List (Nat × List Nat)) := []) : Env Unit := ⟨inH P hs l, notIn hs, gl, lp, n, joins P gl mg⟩
section
variable {P : Program} {st : AE.Stat} {gl : Gl}
theorem envH_ok {hs : List InE} {l : List (FuncId × ConF)} {lp : Nat → Option (LoopD Unit)} {n : Nat} {mg : List (Nat × List (Nat × List Nat))} (h : ∀ e ∈ hs, InOk P st e) (hl : ∀ x ∈ l, ConOk P st x.1 x.2) : EnvOk P st (envH P gl hs l lp n mg) :=
  ⟨inH_call hl h, inH_pure hl, fun _ _ h => joins_ok h⟩
theorem con_ofE {E : Env Unit} {f : FuncId} {fn : Func} {F : ConF} (hst : GlOk st E.gl) (hE : EnvOk P st E) (hf : P.funcs[f]? = some fn)
    (hn : (fn.name == "runtime.NumGoroutine") = false) (hb : fn.body.isNone = false) (hxt : ∀ a σ, st.ext f a σ = none) (hlp : ∀ x ∈ loopsOf fn, ∀ g, E.lp x.1 = some g → LoopS P st E.gl x.2 g)
    (h : ∀ args k, F args k = some () → ∃ args' R, CvL args args' ∧ k R = some () ∧ ∀ s, LowR (R s) ∧ bodyD P E fn args' [] (fin s (R s)) = some ()) : ConOk P st f F := by
  intro args k hk s C σ vs hS ha
  obtain ⟨args', R, hargs, hR, hs⟩ := h args k hk
  exact conOk_run (E := E) (F := fun a k => bif holds (a = args') then k R else none) hf hn hb hxt hst hE hlp (fun a k' hk' s' => by
    obtain ⟨h1, h2⟩ := bif_none hk'
    obtain rfl := holds_eq.1 h1
    exact ⟨fin s' (R s'), (hs s').2, fun d σ hd => ⟨R, h2, (hs s').1, fin_some hd⟩⟩) args' k (hT rfl hR) s C σ vs hS (hargs.drl ha)
theorem con_flatE {E : Env Unit} {f : FuncId} {fn : Func} {F : ConF} (hst : GlOk st E.gl) (hE : EnvOk P st E) (hf : P.funcs[f]? = some fn)
    (hn : (fn.name == "runtime.NumGoroutine") = false) (hb : fn.body.isNone = false) (hxt : ∀ a σ, st.ext f a σ = none) (hlp : ∀ x ∈ loopsOf fn, ∀ g, E.lp x.1 = some g → LoopS P st E.gl x.2 g)
    (h : ∀ args k, F args k = some () → ∃ args' d0, CvL args args' ∧ (Clo d0 ∧ Low d0) ∧ k (fun _ => (d0, [])) = some () ∧ bodyD P E fn args' [] (fun d _ => isD d0 d) = some ()) : ConOk P st f F := by
  intro args k hk s C σ vs hS ha
  obtain ⟨args', d0, hargs, ⟨hc, hlo⟩, hR, hbody⟩ := h args k hk
  exact conOk_run (E := E) (F := fun a k => bif holds (a = args') then k (fun _ => (d0, [])) else none) hf hn hb hxt hst hE hlp (fun a k' hk' s' => by
    obtain ⟨h1, h2⟩ := bif_none hk'
    obtain rfl := holds_eq.1 h1
    exact ⟨_, hbody, fun d σ hd => ⟨_, h2, lowR_flat hlo, finQ_flat hc (holds_eq.1 (bif_none hd).1)⟩⟩) args' k (hT rfl hR) s C σ vs hS (hargs.drl ha)
end
end Go.DE
