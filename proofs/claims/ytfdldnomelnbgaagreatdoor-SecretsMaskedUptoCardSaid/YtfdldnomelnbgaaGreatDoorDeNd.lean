/-
 The symbolic evaluator: loops and callees of which is known only among what they end: whatever goes on behind them must go on at each of these ends.
 Conditions: the symbolic state stands for the evaluator's (Rl).

 Lists of whole numbers, as callees and loops see them.
 Conditions: none; definitions and lemmas.

 The symbolic evaluator: callees that are entered with the blocks as they are.
 Conditions: the callees and inner loops do what the symbolic evaluator was told of them.

 The symbolic evaluator: a contract whose answer is memory that nothing writes to any more.
 Conditions: as in the texts below.

 The symbolic evaluator beside a block that nobody owns: pieces of code that are told by what they do where this block is as it was.
 Conditions: as in the texts below.
-/
import Derived.Test.YtfdldnomelnbgaaGreatDoorDeExt
namespace Go.DE
open Go Go.AE Go.RowKit

abbrev EndD := Ex × List DV × DHeap
def StepN {X : Type} (pre : X → Prop) (m : Nat) (S : X → List DV × DHeap) (fin : X → EndD → Prop) (meas : X → Nat) (x : X) (e : Ex) (τ : List DV) (σ : DHeap) : Prop :=
 match e with
 | .normal => ∃ y, pre y ∧ (∀ o, fin y o → fin x o) ∧ meas y < meas x ∧ ∃ r, Wk r m τ σ (S y).1 (S y).2
 | e => ∃ o, fin x o ∧ e = o.1 ∧ ∃ r, Wk r m τ σ o.2.1 o.2.2

section
variable {st : AE.Stat} {P : Program}
theorem loopN_core {X : Type} {E : Env Unit} (hE : EnvOk P st E) (hgl : ∀ g, Clo (E.gl g)) {c : Code} {p : Nat} (hl : ∀ x ∈ loopsL p c, ∀ g, E.lp x.1 = some g → LoopSR E.gz P st E.gl x.2 g)
  {pre : X → Prop} {m : Nat} {S : X → List DV × DHeap} {fin : X → EndD → Prop} {meas : X → Nat} (body : ∀ x, pre x → ∃ κ : KD Unit, execD P E c p (S x).1 (S x).2 κ = some () ∧ ∀ e τ σ, κ e τ σ = some () → StepN pre m S fin meas x e τ σ) :
  ∀ (k : Nat) (x : X), meas x < k → pre x → ∀ {C0 : Cf} {μ0 : Mu} {σ0 : Heap} {σd0 : DHeap} {C : Cf} {μ : Mu} {τ : Array Value} {σ : Heap}, Rl st E.gl C μ τ σ (S x).1 (S x).2 → NxM E.gz m C0 μ0 σ0 σd0 C μ σ (S x).2 →
   ∃ o τ' σ' C' μ', fin x o ∧ (∃ N, ∀ n mm q, N ≤ n → N ≤ mm → N ≤ q → iterA (execA P st (runF P st n mm) n c) q τ σ = some (o.1, τ', σ')) ∧ Rl st E.gl C' μ' τ' σ' o.2.1 o.2.2 ∧ NxM E.gz m C0 μ0 σ0 σd0 C' μ' σ' o.2.2
 | 0, x, hk, _, _, _, _, _, _, _, _, _, _, _ => by omega
 | k + 1, x, hk, hpre, C0, μ0, σ0, σd0, C, μ, τ, σ, h, hn => by
  obtain ⟨κ, hb, hκ⟩ := body x hpre
  obtain ⟨e, τ1, σ1, C1, μ1, τd1, σd1, ⟨N, hN⟩, h1, n1, hx⟩ := execD_some hE c p hl h hb
  have hq := hκ _ _ _ hx
  have step : ∀ n mm q, N ≤ n → N ≤ mm → iterA (execA P st (runF P st n mm) n c) (q + 1) τ σ = match e with
    | .normal => iterA (execA P st (runF P st n mm) n c) q τ1 σ1
    | .exit i => some (.exit i, τ1, σ1)
    | .ret => some (.ret, τ1, σ1) := by
   intro n mm q hn hm
   have hN' : execA P st (runF P st n mm) n c τ σ = some (e, τ1, σ1) := hN n mm hn hm
   simp only [iterA, hN']
   cases e <;> rfl
  have ends : ∀ e', (∃ o, fin x o ∧ e' = o.1 ∧ ∃ r, Wk r m τd1 σd1 o.2.1 o.2.2) → (∀ n mm q, N ≤ n → N ≤ mm → iterA (execA P st (runF P st n mm) n c) (q + 1) τ σ = some (e', τ1, σ1)) →
    ∃ o τ' σ' C' μ', fin x o ∧ (∃ N, ∀ n mm q, N ≤ n → N ≤ mm → N ≤ q → iterA (execA P st (runF P st n mm) n c) q τ σ = some (o.1, τ', σ')) ∧ Rl st E.gl C' μ' τ' σ' o.2.1 o.2.2 ∧ NxM E.gz m C0 μ0 σ0 σd0 C' μ' σ' o.2.2 := by
   rintro e' ⟨o, ho, rfl, r, hw⟩ hs
   refine ⟨o, τ1, σ1, C1, _, ho, ⟨N + 1, fun n mm q hn hm hq => ?_⟩, hw.rl hgl h1, hw.nx (hn.then n1)⟩
   obtain ⟨q, rfl⟩ : ∃ q', q = q' + 1 := ⟨q - 1, by omega⟩
   rw [hs n mm q (by omega) (by omega)]
  cases e with
  | normal =>
   obtain ⟨y, hpy, hy, hm, r, hw⟩ := hq
   have h2 := hw.rl hgl h1
   obtain ⟨o, τ2, σ2, C2, μ2, ho, ⟨M, hM⟩, h3, n3⟩ := loopN_core hE hgl hl body k y (by omega) hpy h2 (hw.nx (hn.then n1))
   refine ⟨o, τ2, σ2, C2, μ2, hy o ho, ⟨max N M + 1, fun n mm q hn hm hq => ?_⟩, h3, n3⟩
   obtain ⟨q, rfl⟩ : ∃ q', q = q' + 1 := ⟨q - 1, by omega⟩
   rw [step n mm q (by omega) (by omega)]
   exact hM n mm q (by omega) (by omega) (by omega)
  | exit i => exact ends _ hq fun n mm q hn hm => step n mm q hn hm
  | ret => exact ends _ hq fun n mm q hn hm => step n mm q hn hm
theorem loopN_of {α X : Type} {E : Env Unit} (hE : EnvOk P st E) (hgl : ∀ g, Clo (E.gl g)) {c : Code} {p : Nat} (hl : ∀ x ∈ loopsL p c, ∀ g, E.lp x.1 = some g → LoopSR E.gz P st E.gl x.2 g)
  {pre : X → Prop} {m : Nat} {S : X → List DV × DHeap} {fin : X → EndD → Prop} {meas : X → Nat} (body : ∀ x, pre x → ∃ κ : KD Unit, execD P E c p (S x).1 (S x).2 κ = some () ∧ ∀ e τ σ, κ e τ σ = some () → StepN pre m S fin meas x e τ σ)
  {g : LoopD α} (hg : ∀ τd σd k r, g τd σd k = some r → ∃ x, pre x ∧ σd.length = m ∧ (∃ ρ, Wk ρ m τd σd (S x).1 (S x).2) ∧ ∀ o, fin x o → k o.1 o.2.1 o.2.2 = some r) : LoopSR E.gz P st E.gl (.loop c) g := by
 intro τd σd k r hgr C μ τ σ h
 obtain ⟨x, hpx, hm, ⟨ρ, hw⟩, hk⟩ := hg τd σd k r hgr
 subst hm
 obtain ⟨o, τ', σ', C', μ', ho, ⟨N, hN⟩, h1, n1⟩ := loopN_core hE hgl hl body (meas x + 1) x (Nat.lt_succ_self _) hpx (hw.rl hgl h) (hw.nx (.refl (Nat.le_refl _)))
 exact ⟨_, τ', σ', C', μ', _, _, ⟨N, fun n mm hn hm => hN n mm n hn hm hn⟩, h1, n1.nx h.S, hk o ho⟩
end

structure LInvN (X : Type) where
 pre : X → Prop := fun _ => True
 m : Nat
 n : Nat
 ps : List Nat
 sd : X → List DV
 sh : X → DHeap
 meas : X → Nat
 qs : List Nat
 fin : X → EndD → Prop
 guess : List DV → DHeap → Option X
 cps : X → (Ex → List DV → DHeap → Option Unit) → Option Unit
def LInvN.st {X : Type} (I : LInvN X) (x : X) : List DV × DHeap := (temps I.n I.ps (I.sd x), I.sh x)
def LInvN.ends {X : Type} (I : LInvN X) (x : X) (o : EndD) : Prop := ∃ ds, I.fin x (o.1, ds, o.2.2) ∧ o.2.1 = temps I.n I.qs ds
def LInvN.Q {X : Type} (I : LInvN X) (x : X) (e : Ex) (n : Nat) (ds es : List DV) (σ : DHeap) : Prop :=
 n = I.n ∧ match e with
  | .normal => ∃ y, I.pre y ∧ (∀ o, I.fin y o → I.fin x o) ∧ I.meas y < I.meas x ∧ ∃ ids, WkP I.m ids ds σ (I.sd y) (I.sh y)
  | e => ∃ o : EndD, I.fin x o ∧ e = o.1 ∧ ∃ ids, WkP I.m ids es σ o.2.1 o.2.2
noncomputable def LInvN.ask {X : Type} (I : LInvN X) (x : X) (e : Ex) (n : Nat) (ds es : List DV) (σ : DHeap) : Option Unit := bif holds (I.Q x e n ds es σ) then some () else none
theorem LInvN.ask_of {X : Type} {I : LInvN X} {x : X} {e : Ex} {n : Nat} {ds es : List DV} {σ : DHeap} (h : I.Q x e n ds es σ) : I.ask x e n ds es σ = some () := hT h rfl
noncomputable def LInvN.g {X : Type} (I : LInvN X) : LoopD Unit := fun τ σ k => match Nat.beq τ.length I.n, Nat.beq σ.length I.m with
 | true, true => match I.guess (pick I.ps τ) σ with
  | some x => bif holds (I.pre x ∧ ∃ ids, WkP I.m ids (pick I.ps τ) σ (I.sd x) (I.sh x)) then I.cps x (fun e ds σ => k e (temps I.n I.qs ds) σ) else none
  | none => none
 | _, _ => none
theorem LInvN.ok {X : Type} {P : Program} {st : AE.Stat} {E : Env Unit} (I : LInvN X) (hE : EnvOk P st E) (hgl : ∀ g, Clo (E.gl g)) {c : Code} {p : Nat}
  (hl : ∀ x ∈ loopsL p c, ∀ g, E.lp x.1 = some g → LoopSR E.gz P st E.gl x.2 g)
  (cps : ∀ x k, I.cps x k = some () → ∀ o, I.fin x o → k o.1 o.2.1 o.2.2 = some ())
  (body : ∀ x, I.pre x → execD P E c p (temps I.n I.ps (I.sd x)) (I.sh x) (fun e τ σ => I.ask x e τ.length (pick I.ps τ) (pick I.qs τ) σ) = some ()) : LoopSR E.gz P st E.gl (.loop c) I.g := by
 refine loopN_of (pre := I.pre) (m := I.m) (S := I.st) (fin := I.ends) (meas := I.meas) hE hgl hl (fun x hpx => ?_) fun τd σd k r hx => ?_
 ·refine ⟨_, body x hpx, fun e τ σ hx => ?_⟩
  obtain ⟨hn, hq⟩ : I.Q x e τ.length (pick I.ps τ) (pick I.qs τ) σ := holds_eq.1 (bif_none hx).1
  cases e with
  | normal =>
   obtain ⟨y, h5, h1, h4, ids, hw⟩ := hq
   refine ⟨y, h5, ?_, h4, _, hw.wk hn⟩
   rintro o ⟨ds, h6, h7⟩
   exact ⟨ds, h1 _ h6, h7⟩
  | exit i =>
   obtain ⟨⟨e', ds, σ'⟩, h1, rfl, ids, hw⟩ := hq
   exact ⟨(_, temps I.n I.qs ds, σ'), ⟨ds, h1, rfl⟩, rfl, _, hw.wk hn⟩
  | ret =>
   obtain ⟨⟨e', ds, σ'⟩, h1, h2, ids, hw⟩ := hq
   simp only at h2
   subst h2
   exact ⟨(_, temps I.n I.qs ds, σ'), ⟨ds, h1, rfl⟩, rfl, _, hw.wk hn⟩
 ·unfold LInvN.g at hx
  split at hx <;> first | (cases hx; done) | skip
  rename_i h1 h2
  have h1 := Nat.eq_of_beq_eq_true h1
  have h2 := Nat.eq_of_beq_eq_true h2
  split at hx <;> first | (cases hx; done) | skip
  rename_i x hf
  obtain ⟨hw, hx⟩ := bif_none hx
  obtain ⟨hpx, ids, hw⟩ := holds_eq.1 hw
  refine ⟨x, hpx, h2, ⟨_, hw.wk h1⟩, ?_⟩
  rintro ⟨e, τ', σ'⟩ ⟨ds, h3, h4⟩
  simp only at h4
  subst h4
  exact cps _ _ hx _ h3

end Go.DE

namespace Go.DE
open Go Go.AE Go.RowKit

abbrev kv (q : IntKind) (x : Int) : DV := .v (.int q x)
abbrev iv (x : Int) : DV := .v (.int .i64 x)
abbrev sv (s : ByteArray) : DV := .v (.string s)
abbrev bv (b : Bool) : DV := .v (.bool b)
def rowI (q : IntKind) (z : Nat → Int) : Nat → Nat → DV := fun i _ => kv q (z i)
def rowOk (q : IntKind) (g : Nat → Nat → DV) (n : Nat) : Prop := ∀ i, i < n → g i 0 = kv q (numD (g i 0))
def lw (L : List Int) : Nat → Int := fun j => L.getD j 0
noncomputable def rowK (q : IntKind) (d : DV) (k : (Nat → Int) → Nat → Option Unit) : Option Unit :=
 match d with
 | .sl _ g 1 n => bif holds (rowOk q g n) then k (fun i => numD (g i 0)) n else none
 | .v (.slice none 0 0) => k (fun _ => 0) 0
 | _ => none
theorem rowK_some {q : IntKind} {d : DV} {k : (Nat → Int) → Nat → Option Unit} (h : rowK q d k = some ()) : ∃ t z n, k z n = some () ∧ ∀ C μ v, DR C μ d v → DR C μ (.sl t (rowI q z) 1 n) v := by
 unfold rowK at h
 split at h <;> first | (cases h; done) | skip
 ·rename_i t g n
  obtain ⟨h1, h2⟩ := bif_none h
  have h1 := holds_eq.1 h1
  refine ⟨t, _, n, h2, fun C μ v hv => ?_⟩
  rcases hv.sl_inv with ⟨a, cap, w, rfl, hc, hk, q1, q2⟩ | ⟨rfl, rfl⟩
  ·refine .sl t _ 1 n a cap w hc hk q1 fun i f hi hf => ?_
   obtain rfl : f = 0 := by omega
   have := q2 i 0 hi hf
   rw [h1 i hi] at this
   exact this
  ·exact .slnil t _ 1
 ·refine ⟨true, _, 0, h, fun C μ v hv => ?_⟩
  cases hv
  exact .slnil true _ 1
def lstB (q : IntKind) (L : List Int) : DBlk := ⟨1, .tab L.length (rowI q (lw L))⟩
def HasL (q : IntKind) (c : DC) (L : List Int) : Prop := L.length ≤ c.n ∧ c.good ∧ ∀ j, j < L.length → c.get j 0 = kv q (lw L j)
theorem HasL.sub {q : IntKind} {r : Nat → Option Nat} {c : DC} {L : List Int} (h : HasL q c L) : SubC r (lstB q L) ⟨1, c⟩ :=
 ⟨rfl, h.1, trivial, fun i f hi hf => by
  obtain rfl : f = 0 := by
   have : f < 1 := hf
   omega
  rw [h.2.2 i hi]
  exact .v _⟩
theorem HasL.tab {q : IntKind} {L : List Int} : HasL q (.tab L.length (rowI q (lw L))) L := ⟨Nat.le_refl _, trivial, fun _ _ => rfl⟩
theorem HasL.nil {q : IntKind} {c : DC} (h : c.good) : HasL q c [] := ⟨Nat.zero_le _, h, fun j hj => absurd hj (Nat.not_lt_zero _)⟩
theorem HasL.one {q : IntKind} {v w : Int} (h : v = w) : HasL q (.lst [[kv q v]]) [w] := ⟨Nat.le_refl _, trivial, fun j hj => by
 obtain rfl : j = 0 := by simpa using hj
 subst h
 rfl⟩
theorem HasL.lst {q : IntKind} (M : List Int) : HasL q (.lst (M.map fun v => [kv q v])) M := ⟨by show M.length ≤ (M.map fun v => [kv q v]).length; simp, trivial, fun j hj => by
 show ((M.map fun v => [kv q v]).getD j []).getD 0 .any = kv q (lw M j)
 have e : (M.map fun v => [kv q v]).getD j [] = [kv q M[j]] := by rw [List.getD_eq_getElem?_getD, List.getElem?_map, List.getElem?_eq_getElem hj]; rfl
 rw [e]
 simp [lw, List.getElem?_eq_getElem hj]⟩
theorem HasL.app {q : IntKind} {c d : DC} {L M : List Int} {n : Nat} (hn : n = L.length) (h : HasL q c L) (k : HasL q d M) : HasL q (.app (.pre c n) d) (L ++ M) := by
 subst hn
 refine ⟨?_, ⟨⟨h.2.1, h.1⟩, k.2.1⟩, fun j hj => ?_⟩
 ·show (L ++ M).length ≤ L.length + d.n
  have := k.1
  simp only [List.length_append]
  omega
 ·have e : (DC.app (.pre c L.length) d).get j 0 = if j < L.length then c.get j 0 else d.get (j - L.length) 0 := rfl
  rw [e]
  by_cases hjl : j < L.length
  ·rw [if_pos hjl, h.2.2 j hjl]
   simp [lw, List.getElem?_append_left hjl]
  ·rw [if_neg hjl, k.2.2 (j - L.length) (by simp at hj; omega)]
   simp [lw, List.getElem?_append_right (Nat.le_of_not_lt hjl)]
theorem finQ_tup {s id i n : Nat} {c : DC} {k : Nat} {σ : DHeap} {blk : DBlk} {d' : DV} {l : List DV} (e : d' = .tup (.os id i n :: l)) (hl : ∀ d ∈ l, Clo d) (hb : σ[id]? = some (some blk)) (hk : k = blk.k) (hn : c.n ≤ blk.c.n) (hg : c.good)
  (hc : ∀ i f, i < c.n → f < k → Clo (c.get i f) ∧ blk.c.get i f = c.get i f) : FinQ s (.tup (.os s i n :: l), [some ⟨k, c⟩]) d' σ := by
 have at0 : ∀ {j : Nat} {b}, (List.replicate s none ++ [some (⟨k, c⟩ : DBlk)])[j]? = some (some b) → j = s ∧ b = ⟨k, c⟩ := by
  intro j b hj
  obtain ⟨h1, h2⟩ := repl_get.1 hj
  cases hx : j - s with
  | zero => rw [hx] at h2; simp only [List.getElem?_cons_zero, Option.some.injEq] at h2; exact ⟨by omega, h2.symm⟩
  | succ m => rw [hx] at h2; simp at h2
 have hrest : ∀ {r : Nat → Option Nat} (l : List DV), (∀ d ∈ l, Clo d) → SubL r l l := by
  intro r l
  induction l with
  | nil => intro _; exact .nil
  | cons d l ih => intro h; exact .cons (.of_clo (h d (by simp))) (ih fun x hx => h x (by simp [hx]))
 refine ⟨fun j => if j = s then some id else none, fun j i h => ?_, ⟨.cons (by rw [e]; exact (SubL.cons (.os (by simp)) (hrest l hl)).tup) .nil, fun j h => by omega, fun j i h => ?_, by simp, fun a b ba bb ha hb _ => by rw [(at0 ha).1, (at0 hb).1], fun j b hj => ?_⟩⟩
 ·have h : (if j = s then some id else none) = some i := h
  split at h
  ·omega
  ·cases h
 ·have h : (if j = s then some id else none) = some i := h
  split at h
  ·simp; omega
  ·cases h
 ·obtain ⟨rfl, rfl⟩ := at0 hj
  refine ⟨id, blk, by simp, hb, hk, hn, hg, fun i f hi hf => ?_⟩
  obtain ⟨h1, h2⟩ := hc i f hi hf
  show Sub _ (c.get i f) (blk.c.get i f)
  rw [h2]
  exact .of_clo h1
theorem lowR_lst {q : IntKind} {d : DV} {L : List Int} (h : Low d) : LowR (d, [some (lstB q L)]) := ⟨h, fun id blk hb i f hi hf => by
 cases id with
 | zero =>
  obtain rfl : lstB q L = blk := by simpa using hb
  exact .v _
 | succ id => simp at hb⟩
end Go.DE

namespace Go.DE
open Go Go.AE Go.RowKit

structure InE where
 f : FuncId
 fn : Func
 E : Env Unit
def inH (P : Program) : List InE → List (FuncId × ConF) → CallD Unit
 | [], l => tblD l
 | e :: r, l => fun g args σ k => match Nat.beq g e.f with
  | true => bodyD P e.E e.fn args σ k
  | false => inH P r l g args σ k
def notIn : List InE → FuncId → Bool
 | [], _ => true
 | e :: r, g => match Nat.beq g e.f with
  | true => false
  | false => notIn r g
structure InOk (P : Program) (st : AE.Stat) (e : InE) : Prop where
 hf : P.funcs[e.f]? = some e.fn
 hn : (e.fn.name == "runtime.NumGoroutine") = false
 hb : e.fn.body.isNone = false
 hxt : ∀ a σ, st.ext e.f a σ = none
 hE : EnvOk P st e.E
 hgl : GlOk st e.E.gl
 hl : ∀ x ∈ loopsOf e.fn, ∀ g, e.E.lp x.1 = some g → LoopSR e.E.gz P st e.E.gl x.2 g
 hz : e.E.gz = false
section
variable {P : Program} {st : AE.Stat} {l : List (FuncId × ConF)}
theorem inH_call {z : Bool} (hl : ∀ x ∈ l, ConOkZ z P st x.1 x.2) : ∀ {hs : List InE}, (∀ e ∈ hs, InOk P st e) → CallS z P st (inH P hs l)
 | [], _ => tblD_call hl
 | e :: r, h => fun f args σd k x hx C μ σ vs hS ha => by
  unfold inH at hx
  split at hx
  ·rename_i he
   obtain rfl := Nat.eq_of_beq_eq_true he
   have ho := h e (by simp)
   obtain ⟨v, σ', C', μ', d, σd', ⟨N, hN⟩, h1, n1, h2, hk⟩ := bodyD_some ho.hE ho.hl hS ha (ho.hgl.2 _ _ _ _ hS) hx
   rw [ho.hz] at n1
   have n1 : Nx1 false C μ σ σd C' μ' σ' σd' := n1
   refine ⟨v, σ', C', μ', d, σd', ⟨N + 1, fun n m hn' hm => ?_⟩, h1, ⟨n1.toNx, fun _ => n1.one rfl⟩, h2, hk⟩
   obtain ⟨m, rfl⟩ : ∃ m', m = m' + 1 := ⟨m - 1, by omega⟩
   show enterA P (runF P st n (m + 1)) e.f vs σ = _
   unfold enterA
   rw [ho.hf]
   simp only [ho.hn, ho.hb, Bool.false_eq_true, if_false, runF, ho.hf, ho.hxt]
   exact hN n m (by omega) (by omega)
  ·exact inH_call hl (fun e he => h e (by simp [he])) f args σd k x hx C μ σ vs hS ha
theorem inH_pure {z : Bool} (hl : ∀ x ∈ l, ConOkZ z P st x.1 x.2) : ∀ {hs : List InE}, PureS P st (inH P hs l) (notIn hs)
 | [] => fun f args σd k r _ hx C μ σ vs h ha => tblD_pure hl f args σd k r rfl hx C μ σ vs h ha
 | e :: r => fun f args σd k x hp hx C μ σ vs hS ha => by
  unfold inH at hx
  unfold notIn at hp
  split at hx
  ·rename_i he
   rw [he] at hp
   cases hp
  ·rename_i he
   rw [he] at hp
   exact inH_pure hl (hs := r) f args σd k x hp hx C μ σ vs hS ha
end
noncomputable def envH (P : Program) (gl : Gl) (hs : List InE) (l : List (FuncId × ConF)) (lp : Nat → Option (LoopD Unit)) (n : Nat) (mg : List (Nat × List (Nat × List Nat)) := []) (z : Bool := false) : Env Unit := ⟨inH P hs l, notIn hs, gl, lp, n, joins P gl mg, z⟩
section
variable {P : Program} {st : AE.Stat} {gl : Gl}
theorem envH_ok {hs : List InE} {l : List (FuncId × ConF)} {lp : Nat → Option (LoopD Unit)} {n : Nat} {mg : List (Nat × List (Nat × List Nat))} {z : Bool} (h : ∀ e ∈ hs, InOk P st e) (hl : ∀ x ∈ l, ConOkZ z P st x.1 x.2) : EnvOk P st (envH P gl hs l lp n mg z) :=
 ⟨inH_call hl h, inH_pure hl, fun _ _ h => joins_ok h⟩
theorem con_flatE {E : Env Unit} {f : FuncId} {fn : Func} {F : ConF} (hst : GlOk st E.gl) (hE : EnvOk P st E) (hf : P.funcs[f]? = some fn)
  (hn : (fn.name == "runtime.NumGoroutine") = false) (hb : fn.body.isNone = false) (hxt : ∀ a σ, st.ext f a σ = none) (hlp : ∀ x ∈ loopsOf fn, ∀ g, E.lp x.1 = some g → LoopSR E.gz P st E.gl x.2 g)
  (h : ∀ args k, F args k = some () → ∃ args' d0, CvL args args' ∧ (Clo d0 ∧ Low d0) ∧ k (fun _ => (d0, [])) = some () ∧ bodyD P E fn args' [] (fun d _ => isD d0 d) = some ()) : ConOkZ E.gz P st f F := by
 intro args k hk s C σ vs hS ha
 obtain ⟨args', d0, hargs, ⟨hc, hlo⟩, hR, hbody⟩ := h args k hk
 exact conOk_run (E := E) (F := fun a k => bif holds (a = args') then k (fun _ => (d0, [])) else none) hf hn hb hxt hst hE hlp (fun a k' hk' s' => by
  obtain ⟨h1, h2⟩ := bif_none hk'
  obtain rfl := holds_eq.1 h1
  exact ⟨_, hbody, fun d σ hd => ⟨_, h2, lowR_flat hlo, finQ_flat hc (holds_eq.1 (bif_none hd).1)⟩⟩) args' k (hT rfl hR) s C σ vs hS (hargs.drl ha)
end
end Go.DE

namespace Go.DE
open Go Go.AE Go.RowKit

def FzQ (d0 d : DV) (σ : DHeap) : Prop := ∃ zs : List Nat, SubZ (fun _ => none) (zf σ zs) d0 d ∧ ∀ j ∈ zs, ∀ blk, σ[j]? = some (some blk) → ∀ i f, i < blk.c.n → f < blk.k → Clo (blk.c.get i f)
noncomputable def fzq (d0 : DV) : DV → DHeap → Option Unit := fun d σ => bif holds (FzQ d0 d σ) then some () else none
theorem fzq_of {d0 d : DV} {σ : DHeap} (h : FzQ d0 d σ) : fzq d0 d σ = some () := hT h rfl
section
variable {P : Program} {st : AE.Stat}
theorem con_frz {E : Env Unit} {f : FuncId} {fn : Func} {F : ConF} (hz : E.gz = true) (hgl : GlOk st E.gl) (hE : EnvOk P st E) (hf : P.funcs[f]? = some fn)
  (hn : (fn.name == "runtime.NumGoroutine") = false) (hb : fn.body.isNone = false) (hxt : ∀ a σ, st.ext f a σ = none) (hlp : ∀ x ∈ loopsOf fn, ∀ g, E.lp x.1 = some g → LoopSR E.gz P st E.gl x.2 g)
  (h : ∀ args k, F args k = some () → ∃ args' d0, CvL args args' ∧ Low d0 ∧ k (fun _ => (d0, [])) = some () ∧ bodyD P E fn args' [] (fzq d0) = some ()) : ConOkZ true P st f F := by
 intro args k hk s C σ vs hS ha
 obtain ⟨args', d0, hargs, hlo, hR, hbody⟩ := h args k hk
 obtain ⟨v, σ', C', μ', d, σd', ⟨N, hN⟩, h1, n1, h2, hx⟩ := bodyD_some hE hlp hS (hargs.drl ha) (hgl.2 _ _ _ _ hS) hbody
 obtain ⟨zs, q1, q2⟩ : FzQ d0 d σd' := holds_eq.1 (bif_none hx).1
 have n0 := NRel.b_w n1
 have nolive : ∀ b, ¬ Live noMu ([] : DHeap) b := by
  rintro b ⟨id, blk, x, hb, _⟩
  simp at hb
 have hw : WkZ (fun _ => none) (zf σd' zs) 0 [d] σd' [d0] (List.replicate s none ++ []) := by
  refine ⟨.cons q1 .nil, fun j h => (by omega), fun j i h => (nomatch h), Nat.zero_le _, fun i j bi bj h => (by have := (repl_get.1 h).2; simp at this), fun j b h => (by have := (repl_get.1 h).2; simp at this), fun j blk hj => ?_, fun i j h => nomatch h⟩
  unfold zf at hj
  split at hj
  ·rename_i hm
   have hb := Option.join_eq_some_iff.1 hj
   exact ⟨hb, q2 j hm blk hb⟩
  ·cases hj
 obtain ⟨C2, hle, hold, hrl⟩ := hw.rl (gl := E.gl) (τ := #[v]) hgl.1 ⟨h1, .cons h2 (.nil _ _), hgl.2 _ _ _ _ h1⟩
 obtain ⟨x, ys, e, hd, -⟩ := hrl.T.cons_inv
 obtain ⟨rfl, -⟩ : v = x ∧ [] = ys := by simpa using e
 refine ⟨_, hR, lowR_flat hlo, v, σ', C2, via (fun _ => none) μ', ⟨N + 1, fun n m hn' hm => ?_⟩, hrl.S, hd, fun id x hx => (by cases hx), n0.len, fun b hb => n0.fr b hb (nolive b), fun b hl => ?_, fun b s' o v hv => ?_⟩
 ·obtain ⟨m, rfl⟩ : ∃ m', m = m' + 1 := ⟨m - 1, by omega⟩
  show enterA P (runF P st n (m + 1)) f vs σ = _
  unfold enterA
  rw [hf]
  simp only [hn, hb, Bool.false_eq_true, if_false, runF, hf, hxt]
  exact hN n m (by omega) (by omega)
 ·obtain ⟨id, blk, x, hb, hx⟩ := hl
  cases hx
 ·rcases hold _ b s' o v hv with q | ⟨_, q3, q4, _⟩
  ·exact (NRel.b_old n1 _ b s' o v q).imp id fun q => ⟨rfl, q.2.2.1, q.2.2.2.elim id fun x => (nolive b x).elim⟩
  ·refine .inr ⟨rfl, q3, ?_⟩
   rcases Nat.lt_or_ge b σ.length with hlt | hge
   ·exact absurd (n0.img b q4 hlt) (nolive b)
   ·exact hge
theorem SubZ.fz0 {r : Nat → Option Nat} {zs : Nat → Option DBlk} {j n k : Nat} {c : DC} {g : Nat → Nat → DV} (h : zs j = some ⟨k, c⟩) (hn : n ≤ c.n) (hg : ∀ i f, c.get i f = g i f) : SubZ r zs (.sl false g k n) (.os j 0 n) := by
 have q := SubZ.fz (r := r) (a := 0) (n := n) h (by simpa using hn)
 have e : (fun i f => (⟨k, c⟩ : DBlk).c.get (0 + i) f) = g := by
  funext i f
  rw [Nat.zero_add]
  exact hg i f
 rw [e] at q
 exact q
theorem lp_in {z : Bool} {gl : Gl} {l : List (Nat × Code)} {q : Nat} {g0 : LoopD Unit} {c0 : Code} (h : (l.filter fun x => Nat.beq x.1 q).map (·.2) = [c0]) (H : LoopSR z P st gl c0 g0) :
  ∀ x ∈ l, ∀ g, lpOf [(q, g0)] x.1 = some g → LoopSR z P st gl x.2 g := fun x hx g hg => by
 unfold lpOf at hg
 split at hg
 ·rename_i e
  have hm : x.2 ∈ (l.filter fun x => Nat.beq x.1 q).map (·.2) := List.mem_map.2 ⟨x, List.mem_filter.2 ⟨hx, e⟩, rfl⟩
  rw [h, List.mem_singleton] at hm
  rw [hm, ← Option.some.inj hg]
  exact H
 ·cases hg
end
end Go.DE

namespace Go.DE
open Go Go.AE Go.RowKit

/-! ### A temporary that a piece of code does not write -/
def noDst (t : Nat) : Code → Bool
 | .seq a b => noDst t a && noDst t b
 | .cond _ a b => noDst t a && noDst t b
 | .block _ a => noDst t a
 | .loop a => noDst t a
 | .scope a => noDst t a
 | .region _ ops _ => ops.toList.all fun o => match o.dst with
  | some d => !Nat.beq d t
  | none => true
 | _ => true
section
variable {P : Program} {st : AE.Stat} {call : CallA} {t : Nat}
theorem putT_other {τ : Array Value} {dst : Option Tmp} {v : Value} (h : (match dst with | some d => !Nat.beq d t | none => true) = true) : (putT τ dst v)[t]? = τ[t]? := by
 cases dst with
 | none => rfl
 | some d =>
  have hd : d ≠ t := fun e => by subst e; simp at h
  show (τ.setIfInBounds d v)[t]? = _
  exact Array.getElem?_setIfInBounds_ne hd
theorem stepA_tmp {ops : Array Oper} {o : Oper} {τ τ' : Array Value} {σ σ' : Heap} (ho : (match o.dst with | some d => !Nat.beq d t | none => true) = true) (h : stepA P st call ops o τ σ = some (τ', σ')) : τ'[t]? = τ[t]? := by
 unfold stepA at h
 split at h <;> first | (cases h; done) | skip
 split at h
 ·split at h <;> first | (cases h; done) | skip
  obtain ⟨rfl, rfl⟩ : putT τ o.dst _ = τ' ∧ _ = σ' := by simpa using h
  exact putT_other ho
 ·obtain ⟨rfl, rfl⟩ : putT τ o.dst _ = τ' ∧ _ = σ' := by simpa using h
  exact putT_other ho
theorem runA_tmp {ops : Array Oper} : ∀ {l : List Oper} {τ τ' : Array Value} {σ σ' : Heap}, (l.all fun o => match o.dst with | some d => !Nat.beq d t | none => true) = true → runA P st call ops l τ σ = some (τ', σ') → τ'[t]? = τ[t]?
 | [], τ, τ', σ, σ', _, h => by
  obtain ⟨rfl, rfl⟩ : τ = τ' ∧ σ = σ' := by simpa [runA] using h
  rfl
 | o :: rest, τ, τ', σ, σ', hl, h => by
  rw [List.all_cons, Bool.and_eq_true] at hl
  unfold runA at h
  split at h <;> first | (cases h; done) | skip
  rename_i τ1 σ1 h1
  exact (runA_tmp hl.2 h).trans (stepA_tmp hl.1 h1)
theorem traceA_tmp {ops : Array Oper} : ∀ {l : List Oper} {τ : Array Value} {σ : Heap} {tr : List (Array Value × Heap)}, (l.all fun o => match o.dst with | some d => !Nat.beq d t | none => true) = true → traceA P st call ops l τ σ = some tr → ∀ s ∈ tr, s.1[t]? = τ[t]?
 | [], τ, σ, tr, _, h, s, hs => by
  obtain rfl : [(τ, σ)] = tr := by simpa [traceA] using h
  rw [List.mem_singleton] at hs
  rw [hs]
 | o :: rest, τ, σ, tr, hl, h, s, hs => by
  rw [List.all_cons, Bool.and_eq_true] at hl
  unfold traceA at h
  split at h <;> first | (cases h; done) | skip
  rename_i τ1 σ1 h1
  obtain ⟨tr', h2, rfl⟩ := Option.map_eq_some_iff.1 h
  rcases List.mem_cons.1 hs with rfl | hs
  ·rfl
  ·exact (traceA_tmp hl.2 h2 s hs).trans (stepA_tmp hl.1 h1)
theorem drawA_tmp {ops : Array Oper} {τ τ' : Array Value} {σ σ' : Heap} (hl : (ops.toList.all fun o => match o.dst with | some d => !Nat.beq d t | none => true) = true) (h : drawA P st call ops τ σ = some (τ', σ')) : τ'[t]? = τ[t]? := by
 unfold drawA at h
 split at h <;> first | (cases h; done) | skip
 split at h <;> first | (cases h; done) | skip
 rename_i tr htr
 split at h <;> first | (cases h; done) | skip
 exact traceA_tmp hl htr _ (List.mem_of_getLast? h)
theorem iterA_tmp {f : Array Value → Heap → Out} (hf : ∀ {τ σ e τ' σ'}, f τ σ = some (e, τ', σ') → τ'[t]? = τ[t]?) : ∀ (n : Nat) {τ σ e τ' σ'}, iterA f n τ σ = some (e, τ', σ') → τ'[t]? = τ[t]?
 | 0, _, _, _, _, _, h => by simp [iterA] at h
 | n + 1, τ, σ, e, τ', σ', h => by
  unfold iterA at h
  split at h
  ·rename_i τ1 σ1 h1
   exact (iterA_tmp hf n h).trans (hf h1)
  ·exact hf h
theorem execA_tmp {n : Nat} : ∀ (c : Code), noDst t c = true → ∀ {τ σ e τ' σ'}, execA P st call n c τ σ = some (e, τ', σ') → τ'[t]? = τ[t]? := by
 intro c
 induction c with
 | skip =>
  intro _ τ σ e τ' σ' h
  simp only [execA, Option.some.injEq, Prod.mk.injEq] at h
  rw [h.2.1]
 | label l =>
  intro _ τ σ e τ' σ' h
  simp only [execA, Option.some.injEq, Prod.mk.injEq] at h
  rw [h.2.1]
 | exit id =>
  intro _ τ σ e τ' σ' h
  simp only [execA, Option.some.injEq, Prod.mk.injEq] at h
  rw [h.2.1]
 | ret =>
  intro _ τ σ e τ' σ' h
  simp only [execA, Option.some.injEq, Prod.mk.injEq] at h
  rw [h.2.1]
 | region id ops draw =>
  intro hd τ σ e τ' σ' h
  simp only [execA] at h
  split at h <;> first | (cases h; done) | skip
  rename_i τ1 σ1 h1
  simp only [Option.some.injEq, Prod.mk.injEq] at h
  rw [← h.2.1]
  cases draw with
  | true => exact drawA_tmp hd h1
  | false => exact runA_tmp hd h1
 | seq a b iha ihb =>
  intro hd τ σ e τ' σ' h
  rw [noDst, Bool.and_eq_true] at hd
  simp only [execA] at h
  split at h
  ·rename_i τ1 σ1 h1
   exact (ihb hd.2 h).trans (iha hd.1 h1)
  ·exact iha hd.1 h
 | cond c a b iha ihb =>
  intro hd τ σ e τ' σ' h
  rw [noDst, Bool.and_eq_true] at hd
  simp only [execA] at h
  split at h <;> first | (cases h; done) | skip
  split at h
  ·exact iha hd.1 h
  ·exact ihb hd.2 h
 | block id a iha =>
  intro hd τ σ e τ' σ' h
  simp only [execA] at h
  split at h
  ·rename_i k τ1 σ1 h1
   split at h
   ·simp only [Option.some.injEq, Prod.mk.injEq] at h
    rw [← h.2.1]
    exact iha hd h1
   ·simp only [Option.some.injEq, Prod.mk.injEq] at h
    rw [← h.2.1]
    exact iha hd h1
  ·exact iha hd h
 | loop a iha =>
  intro hd τ σ e τ' σ' h
  simp only [execA] at h
  exact iterA_tmp (fun h => iha hd h) _ h
 | scope a iha =>
  intro hd τ σ e τ' σ' h
  simp only [execA] at h
  exact iha hd h
 | rangeFunc f ps as b _ _ =>
  intro hd τ σ e τ' σ' h
  simp only [execA] at h
  split at h <;> first | (cases h; done) | skip
  split at h <;> first | (cases h; done) | skip
  split at h <;> first | (cases h; done) | skip
  split at h <;> first | (cases h; done) | skip
  unfold jumpA at h
  split at h
  all_goals first
   | (cases h; done)
   | (
     simp only [Option.some.injEq, Prod.mk.injEq] at h
     rw [h.2.1])
 | goto l => intro _ τ σ e τ' σ' h; simp [execA] at h
 | refuse y => intro _ τ σ e τ' σ' h; simp [execA] at h
end

/-! ### A block that nobody owns -/
structure KArg where
 l : Nat
 R : Blk
 x0 : Nat × Nat × Nat
 t : Nat
 v : Value
structure Kp (K : KArg) (μ : Mu) (σ : Heap) (σd : DHeap) : Prop where
 at_ : σ[K.l]? = some (some K.R)
 nl : ¬ Live μ σd K.l
 x0 : μ 0 = some K.x0
 len : 1 ≤ σd.length
section
variable {K : KArg} {w : Bool} {st : AE.Stat} {gl : Gl} {C C' : Cf} {μ μ' : Mu} {σ σ' : Heap} {σd σd' : DHeap} {τ τ' : Array Value} {τd τd' : List DV} {P : Program}
theorem Kp.next {m : Nat} (hm : 1 ≤ m) (h : Kp K μ σ σd) (n : NxM w m C μ σ σd C' μ' σ' σd') : Kp K μ' σ' σd' := by
 have hl : K.l < σ.length := (List.getElem?_eq_some_iff.1 h.at_).1
 exact ⟨(n.fr _ hl h.nl).trans h.at_, fun q => h.nl (n.img _ q hl), n.hμ 0 _ (by omega) h.x0, Nat.le_trans hm n.lend⟩
theorem Kp.nextN (h : Kp K μ σ σd) (n : (NRel.b w).N C μ σ σd C' μ' σ' σd') : Kp K μ' σ' σd' := h.next (m := 1) (C := C) (Nat.le_refl _) (NxM.then (w := w) (C := C) (.refl h.len) n)
structure RlK (K : KArg) (st : AE.Stat) (gl : Gl) (C : Cf) (μ : Mu) (τ : Array Value) (σ : Heap) (τd : List DV) (σd : DHeap) : Prop extends Rl st gl C μ τ σ τd σd where
 kp : Kp K μ σ σd
 tm : τ[K.t]? = some K.v
theorem RlK.next (h : RlK K st gl C μ τ σ τd σd) (r : Rl st gl C' μ' τ' σ' τd' σd') (n : (NRel.b w).N C μ σ σd C' μ' σ' σd') (e : τ'[K.t]? = τ[K.t]?) : RlK K st gl C' μ' τ' σ' τd' σd' :=
 ⟨r, h.kp.nextN n, e.trans h.tm⟩
end
def LoopSK {α : Type} (K : KArg) (z : Bool) (P : Program) (st : AE.Stat) (gl : Gl) (c : Code) (g : LoopD α) : Prop :=
 ∀ τd σd k r, g τd σd k = some r → ∀ C μ τ σ, RlK K st gl C μ τ σ τd σd → TResR z st gl C μ σ σd (fun n m => execA P st (runF P st n m) n c τ σ) k r
section
variable {α : Type} {K : KArg} {st : AE.Stat} {gl : Gl} {C : Cf} {μ : Mu} {σ : Heap} {σd : DHeap} {P : Program} {r : α} {τ : Array Value} {τd : List DV}
theorem LoopSR.k {z : Bool} {c : Code} {g : LoopD α} (h : LoopSR z P st gl c g) : LoopSK K z P st gl c g := fun τd σd k r hg C μ τ σ hR => h τd σd k r hg C μ τ σ hR.toRl
theorem iterD_someK {z : Bool} {f : LoopD α} {c : Code} (hd : noDst K.t c = true) {k : KD α} (hf : ∀ {C μ τ σ τd σd} {k : KD α}, RlK K st gl C μ τ σ τd σd → f τd σd k = some r → TResR z st gl C μ σ σd (fun n m => execA P st (runF P st n m) n c τ σ) k r) :
  ∀ (j : Nat) {C μ τ σ τd σd}, RlK K st gl C μ τ σ τd σd → iterD f j τd σd k = some r → ∃ e τ' σ' C' μ' τd' σd', (∃ N, ∀ n m q, N ≤ n → N ≤ m → j ≤ q → iterA (execA P st (runF P st n m) n c) q τ σ = some (e, τ', σ')) ∧ Rl st gl C' μ' τ' σ' τd' σd' ∧ (NRel.b z).N C μ σ σd C' μ' σ' σd' ∧ k e τd' σd' = some r
 | 0, C, μ, τ, σ, τd, σd, h, hx => by simp [iterD] at hx
 | j + 1, C, μ, τ, σ, τd, σd, h, hx => by
  obtain ⟨e, τ1, σ1, C1, μ1, τd1, σd1, ⟨N, hN⟩, h1, n1, hx⟩ := hf h hx
  have step : ∀ n m q, N ≤ n → N ≤ m → iterA (execA P st (runF P st n m) n c) (q + 1) τ σ = match e with
    | .normal => iterA (execA P st (runF P st n m) n c) q τ1 σ1
    | .exit i => some (.exit i, τ1, σ1)
    | .ret => some (.ret, τ1, σ1) := by
   intro n m q hn hm
   have hN' : execA P st (runF P st n m) n c τ σ = some (e, τ1, σ1) := hN n m hn hm
   simp only [iterA, hN']
   cases e <;> rfl
  cases e with
  | normal =>
   have hk : execA P st (runF P st N N) N c τ σ = some (.normal, τ1, σ1) := hN N N (Nat.le_refl _) (Nat.le_refl _)
   obtain ⟨e2, τ2, σ2, C2, μ2, τd2, σd2, ⟨M, hM⟩, h2, n2, hx⟩ := iterD_someK hd hf j (h.next h1 n1 (execA_tmp c hd hk)) hx
   refine ⟨e2, τ2, σ2, C2, μ2, τd2, σd2, ⟨max N M, fun n m q hn hm hq => ?_⟩, h2, (NRel.b z).tr n1 n2, hx⟩
   obtain ⟨q, rfl⟩ : ∃ q', q = q' + 1 := ⟨q - 1, by omega⟩
   rw [step n m q (by omega) (by omega)]
   exact hM n m q (by omega) (by omega) (by omega)
  | exit i =>
   refine ⟨_, τ1, σ1, C1, μ1, τd1, σd1, ⟨N, fun n m q hn hm hq => ?_⟩, h1, n1, hx⟩
   obtain ⟨q, rfl⟩ : ∃ q', q = q' + 1 := ⟨q - 1, by omega⟩
   rw [step n m q hn hm]
  | ret =>
   refine ⟨_, τ1, σ1, C1, μ1, τd1, σd1, ⟨N, fun n m q hn hm hq => ?_⟩, h1, n1, hx⟩
   obtain ⟨q, rfl⟩ : ∃ q', q = q' + 1 := ⟨q - 1, by omega⟩
   rw [step n m q hn hm]

theorem execD_someK {E : Env α} (hE : EnvOk P st E) : ∀ (c : Code) (p : Nat), noDst K.t c = true → (∀ x ∈ loopsL p c, ∀ g, E.lp x.1 = some g → LoopSK K E.gz P st E.gl x.2 g) →
  ∀ {C μ τ σ τd σd} {k : KD α}, RlK K st E.gl C μ τ σ τd σd → execD P E c p τd σd k = some r → TResR E.gz st E.gl C μ σ σd (fun n m => execA P st (runF P st n m) n c τ σ) k r := by
 intro c
 induction c with
 | skip => intro p _ _ C μ τ σ τd σd k h hx; exact TRes.now h.toRl (fun _ _ => rfl) hx
 | label l => intro p _ _ C μ τ σ τd σd k h hx; exact TRes.now h.toRl (fun _ _ => rfl) hx
 | exit id => intro p _ _ C μ τ σ τd σd k h hx; exact TRes.now h.toRl (fun _ _ => rfl) hx
 | ret => intro p _ _ C μ τ σ τd σd k h hx; exact TRes.now h.toRl (fun _ _ => rfl) hx
 | region id ops draw =>
  intro p _ _ C μ τ σ τd σd k h hx
  simp only [execD] at hx
  cases draw with
  | true =>
   obtain ⟨τ', σ', C', μ', τd', σd', ⟨N, hN⟩, h1, n1, hx⟩ := drawD_some hE.call hE.pure h.toRl hx
   refine ⟨.normal, τ', σ', C', μ', τd', σd', ⟨N, fun n m hn hm => ?_⟩, h1, (NRel.b E.gz).of n1, hx⟩
   have hN' : drawA P st (runF P st n m) ops τ σ = some (τ', σ') := hN n m hn hm
   simp only [execA, if_true, hN']
  | false =>
   obtain ⟨τ', σ', C', μ', τd', σd', ⟨N, hN⟩, h1, n1, hx⟩ := runLD_some hE.call _ h.toRl hx
   refine ⟨.normal, τ', σ', C', μ', τd', σd', ⟨N, fun n m hn hm => ?_⟩, h1, (NRel.b E.gz).of n1, hx⟩
   have hN' : runA P st (runF P st n m) ops ops.toList τ σ = some (τ', σ') := hN n m hn hm
   simp only [execA, Bool.false_eq_true, if_false, hN']
 | seq a b iha ihb =>
  intro p hd hl C μ τ σ τd σd k h hx
  rw [noDst, Bool.and_eq_true] at hd
  simp only [execD] at hx
  split at hx
  ·rename_i g hg
   exact hl (p, .seq a b) (by simp [loopsL]) g hg τd σd k r hx C μ τ σ h
  obtain ⟨e, τ1, σ1, C1, μ1, τd1, σd1, ⟨N, hN⟩, h1, n1, hx⟩ := iha (2 * p) hd.1 (fun x hm => hl x (by simp [loopsL, hm])) h hx
  cases e with
  | normal =>
   have hk : execA P st (runF P st N N) N a τ σ = some (.normal, τ1, σ1) := hN N N (Nat.le_refl _) (Nat.le_refl _)
   obtain ⟨e2, τ2, σ2, C2, μ2, τd2, σd2, ⟨M, hM⟩, h2, n2, hx⟩ := ihb (2 * p + 1) hd.2 (fun x hm => hl x (by simp [loopsL, hm])) (h.next h1 n1 (execA_tmp a hd.1 hk)) hx
   refine ⟨e2, τ2, σ2, C2, μ2, τd2, σd2, ⟨max N M, fun n m hn hm => ?_⟩, h2, (NRel.b E.gz).tr n1 n2, hx⟩
   have hN' : execA P st (runF P st n m) n a τ σ = some (.normal, τ1, σ1) := hN n m (by omega) (by omega)
   have hM' : execA P st (runF P st n m) n b τ1 σ1 = some (e2, τ2, σ2) := hM n m (by omega) (by omega)
   simp only [execA, hN', hM']
  | exit i =>
   refine ⟨_, τ1, σ1, C1, μ1, τd1, σd1, ⟨N, fun n m hn hm => ?_⟩, h1, n1, hx⟩
   have hN' : execA P st (runF P st n m) n a τ σ = some (.exit i, τ1, σ1) := hN n m hn hm
   simp only [execA, hN']
  | ret =>
   refine ⟨_, τ1, σ1, C1, μ1, τd1, σd1, ⟨N, fun n m hn hm => ?_⟩, h1, n1, hx⟩
   have hN' : execA P st (runF P st n m) n a τ σ = some (.ret, τ1, σ1) := hN n m hn hm
   simp only [execA, hN']
 | cond c a b iha ihb =>
  intro p hd hl C μ τ σ τd σd k h hx
  rw [noDst, Bool.and_eq_true] at hd
  simp only [execD] at hx
  split at hx
  ·rename_i g hg
   exact hl (p, .cond c a b) (by simp [loopsL]) g hg τd σd k r hx C μ τ σ h
  split at hx <;> first | (cases hx; done) | skip
  rename_i t ht
  have hev := h.ev c
  rw [ht] at hev
  have hc : evalT τ c = .bool t := by
   generalize evalT τ c = u at hev
   cases hev
   rfl
  split at hx
  ·rename_i M hM
   obtain ⟨e1, τ1, σ1, C1, μ1, τd1, σd1, ⟨N, hN⟩, h1, n1, hx⟩ := hE.mg p M hM a b t τd σd k r hx C μ τ σ h.toRl
   refine ⟨e1, τ1, σ1, C1, μ1, τd1, σd1, ⟨N, fun n m hn hm => ?_⟩, h1, (NRel.b E.gz).of ⟨(show Nx1 false _ _ _ _ _ _ _ _ from n1).toNx, fun _ => (show Nx1 false _ _ _ _ _ _ _ _ from n1).one rfl⟩, hx⟩
   simp only [execA, hc]
   exact hN n m hn hm
  cases t with
  | true =>
   obtain ⟨e1, τ1, σ1, C1, μ1, τd1, σd1, ⟨N, hN⟩, h1, n1, hx⟩ := iha (2 * p) hd.1 (fun x hm => hl x (by simp [loopsL, hm])) h hx
   refine ⟨e1, τ1, σ1, C1, μ1, τd1, σd1, ⟨N, fun n m hn hm => ?_⟩, h1, n1, hx⟩
   simp only [execA, hc, if_true]
   exact hN n m hn hm
  | false =>
   obtain ⟨e1, τ1, σ1, C1, μ1, τd1, σd1, ⟨N, hN⟩, h1, n1, hx⟩ := ihb (2 * p + 1) hd.2 (fun x hm => hl x (by simp [loopsL, hm])) h hx
   refine ⟨e1, τ1, σ1, C1, μ1, τd1, σd1, ⟨N, fun n m hn hm => ?_⟩, h1, n1, hx⟩
   simp only [execA, hc, Bool.false_eq_true, if_false]
   exact hN n m hn hm
 | block id a iha =>
  intro p hd hl C μ τ σ τd σd k h hx
  simp only [execD] at hx
  split at hx
  ·rename_i g hg
   exact hl (p, .block id a) (by simp [loopsL]) g hg τd σd k r hx C μ τ σ h
  obtain ⟨e, τ1, σ1, C1, μ1, τd1, σd1, ⟨N, hN⟩, h1, n1, hx⟩ := iha (2 * p) hd (fun x hm => hl x (by simp [loopsL, hm])) h hx
  cases e with
  | normal =>
   refine ⟨_, τ1, σ1, C1, μ1, τd1, σd1, ⟨N, fun n m hn hm => ?_⟩, h1, n1, hx⟩
   have hN' : execA P st (runF P st n m) n a τ σ = some (.normal, τ1, σ1) := hN n m hn hm
   simp only [execA, hN']
  | exit i =>
   simp only at hx
   split at hx
   ·rename_i he
    have he : i = id := Nat.eq_of_beq_eq_true he
    refine ⟨_, τ1, σ1, C1, μ1, τd1, σd1, ⟨N, fun n m hn hm => ?_⟩, h1, n1, hx⟩
    have hN' : execA P st (runF P st n m) n a τ σ = some (.exit i, τ1, σ1) := hN n m hn hm
    simp only [execA, hN', he, if_true]
   ·rename_i he
    have he : i ≠ id := Nat.ne_of_beq_eq_false he
    refine ⟨_, τ1, σ1, C1, μ1, τd1, σd1, ⟨N, fun n m hn hm => ?_⟩, h1, n1, hx⟩
    have hN' : execA P st (runF P st n m) n a τ σ = some (.exit i, τ1, σ1) := hN n m hn hm
    simp only [execA, hN', he, if_false]
  | ret =>
   refine ⟨_, τ1, σ1, C1, μ1, τd1, σd1, ⟨N, fun n m hn hm => ?_⟩, h1, n1, hx⟩
   have hN' : execA P st (runF P st n m) n a τ σ = some (.ret, τ1, σ1) := hN n m hn hm
   simp only [execA, hN']
 | loop a iha =>
  intro p hd hl C μ τ σ τd σd k h hx
  simp only [execD] at hx
  split at hx
  ·rename_i g hg
   exact hl (p, .loop a) (by simp [loopsL]) g hg τd σd k r hx C μ τ σ h
  ·obtain ⟨e, τ', σ', C', μ', τd', σd', ⟨N, hN⟩, h1, n1, hx⟩ := iterD_someK (P := P) (c := a) hd (fun h hx => iha (2 * p) hd (fun x hm => hl x (by simp [loopsL, hm])) h hx) E.n h hx
   refine ⟨e, τ', σ', C', μ', τd', σd', ⟨max N E.n, fun n m hn hm => ?_⟩, h1, n1, hx⟩
   exact hN n m n (by omega) (by omega) (by omega)
 | rangeFunc f ps as b _ _ => intro p _ hl C μ τ σ τd σd k h hx; simp [execD] at hx
 | scope b ih => intro p hd hl C μ τ σ τd σd k h hx; exact ih p hd hl h hx
 | goto l => intro p _ hl C μ τ σ τd σd k h hx; simp [execD] at hx
 | refuse y => intro p _ hl C μ τ σ τd σd k h hx; simp [execD] at hx
theorem bodyD_someK {E : Env α} {fn : Func} (hE : EnvOk P st E) (hl : ∀ x ∈ loopsOf fn, ∀ g, E.lp x.1 = some g → LoopSK K E.gz P st E.gl x.2 g) (hd : (match fn.body with | none => true | some c => noDst K.t c) = true)
  {args : List DV} {vs : List Value} {k : DV → DHeap → Option α} (hS : St st C μ σ σd) (hK : Kp K μ σ σd) (hv : vs[K.t]? = some K.v) (ha : DRL C μ args vs) (hG : ∀ g, DR C μ (E.gl g) (.pointer (some ⟨g, 0, some 0⟩))) (hx : bodyD P E fn args σd k = some r) :
  OpResR E.gz st C μ σ σd (fun n m => bodyA P st (runF P st n m) n fn vs σ) k r := by
 unfold bodyD at hx
 unfold bodyA
 unfold loopsOf at hl
 cases hb : fn.body with
 | none => rw [hb] at hx; cases hx
 | some c =>
  rw [hb] at hx hl hd
  simp only at hx hl hd ⊢
  have hT : DRL C μ (args ++ List.replicate (fn.ntmps - args.length) (.tup [])) (vs.toArray ++ Array.replicate (fn.ntmps - vs.length) undef).toList := by
   simp only [Array.toList_append, Array.toList_replicate]
   refine ha.append ⟨by simp [ha.1], fun i d x hd hx => ?_⟩
   rw [List.getElem?_replicate] at hd hx
   split at hd
   ·split at hx
    ·obtain rfl := Option.some.inj hd
     obtain rfl := Option.some.inj hx
     exact undef_DR
    ·cases hx
   ·cases hd
  have hv' : (vs.toArray ++ Array.replicate (fn.ntmps - vs.length) undef)[K.t]? = some K.v := by
   rw [← Array.getElem?_toList, Array.toList_append, List.getElem?_append_left (by have := (List.getElem?_eq_some_iff.1 hv).1; simpa using this)]
   simpa using hv
  obtain ⟨e, τ', σ', C', μ', τd', σd', ⟨N, hN⟩, h1, n1, hx⟩ := execD_someK hE c 1 hd hl ⟨⟨hS, hT, hG⟩, hK, hv'⟩ hx
  have fin : (e = .normal ∨ e = .ret) → resultsD P fn τd' σd' (fun d => k d σd') = some r → OpResR E.gz st C μ σ σd (fun n m => match execA P st (runF P st n m) n c (vs.toArray ++ Array.replicate (fn.ntmps - vs.length) undef) σ with
    | some (.normal, τ, σ') => (resultsA P st fn τ σ').map (·, σ')
    | some (.ret, τ, σ') => (resultsA P st fn τ σ').map (·, σ')
    | _ => none) k r := by
   intro he hx
   obtain ⟨v, d, e1, e2, e3⟩ := resultsD_some h1 hx
   refine ⟨v, σ', C', μ', d, σd', ⟨N, fun n m hn hm => ?_⟩, h1.S, n1, e2, e3⟩
   have hN' := hN n m hn hm
   simp only at hN' ⊢
   rw [hN']
   rcases he with rfl | rfl
   ·simp only [e1, Option.map_some]
   ·simp only [e1, Option.map_some]
  cases e with
  | normal => exact fin (.inl rfl) hx
  | ret => exact fin (.inr rfl) hx
  | exit i => cases hx
end
/-! ### Loops -/
section
variable {K : KArg} {w : Bool} {st : AE.Stat} {P : Program}
theorem loop_coreK {X : Type} {E : Env Unit} (hE : EnvOk P st E) (hgl : ∀ g, Clo (E.gl g)) {c : Code} {p : Nat} (hd : noDst K.t c = true) (hl : ∀ x ∈ loopsL p c, ∀ g, E.lp x.1 = some g → LoopSK K E.gz P st E.gl x.2 g)
  {pre : X → Prop} {m : Nat} (hm1 : 1 ≤ m) {S : X → List DV × DHeap} {out : X → Ex × List DV × DHeap} {meas : X → Nat} (body : ∀ x, pre x → ∃ κ : KD Unit, execD P E c p (S x).1 (S x).2 κ = some () ∧ ∀ e τ σ, κ e τ σ = some () → StepQ E.gz pre m S out meas x e τ σ) :
  ∀ (k : Nat) (x : X), meas x < k → pre x → ∀ {C0 : Cf} {μ0 : Mu} {σ0 : Heap} {σd0 : DHeap} {C : Cf} {μ : Mu} {τ : Array Value} {σ : Heap}, Kp K μ0 σ0 σd0 → τ[K.t]? = some K.v → Rl st E.gl C μ τ σ (S x).1 (S x).2 → NxM E.gz m C0 μ0 σ0 σd0 C μ σ (S x).2 →
   ∃ τ' σ' C' μ', (∃ N, ∀ n mm q, N ≤ n → N ≤ mm → N ≤ q → iterA (execA P st (runF P st n mm) n c) q τ σ = some ((out x).1, τ', σ')) ∧ Rl st E.gl C' μ' τ' σ' (out x).2.1 (out x).2.2 ∧ NxM E.gz m C0 μ0 σ0 σd0 C' μ' σ' (out x).2.2
 | 0, x, hk, _, _, _, _, _, _, _, _, _, _, _, _, _ => by omega
 | k + 1, x, hk, hpre, C0, μ0, σ0, σd0, C, μ, τ, σ, hK, ht, h, hn => by
  obtain ⟨κ, hb, hκ⟩ := body x hpre
  obtain ⟨e, τ1, σ1, C1, μ1, τd1, σd1, ⟨N, hN⟩, h1, n1, hx⟩ := execD_someK hE c p hd hl ⟨h, hK.next hm1 hn, ht⟩ hb
  have hq := hκ _ _ _ hx
  have step : ∀ n mm q, N ≤ n → N ≤ mm → iterA (execA P st (runF P st n mm) n c) (q + 1) τ σ = match e with
    | .normal => iterA (execA P st (runF P st n mm) n c) q τ1 σ1
    | .exit i => some (.exit i, τ1, σ1)
    | .ret => some (.ret, τ1, σ1) := by
   intro n mm q hn hm
   have hN' : execA P st (runF P st n mm) n c τ σ = some (e, τ1, σ1) := hN n mm hn hm
   simp only [iterA, hN']
   cases e <;> rfl
  have ends : ∀ e', e' = (out x).1 → WkG E.gz m τd1 σd1 (out x).2.1 (out x).2.2 → (∀ n mm q, N ≤ n → N ≤ mm → iterA (execA P st (runF P st n mm) n c) (q + 1) τ σ = some (e', τ1, σ1)) →
    ∃ τ' σ' C' μ', (∃ N, ∀ n mm q, N ≤ n → N ≤ mm → N ≤ q → iterA (execA P st (runF P st n mm) n c) q τ σ = some ((out x).1, τ', σ')) ∧ Rl st E.gl C' μ' τ' σ' (out x).2.1 (out x).2.2 ∧ NxM E.gz m C0 μ0 σ0 σd0 C' μ' σ' (out x).2.2 := by
   intro e' he hw hs
   obtain ⟨C2, μ2, h2, n2⟩ := hw.rl hgl h1 (hn.then n1)
   refine ⟨τ1, σ1, C2, μ2, ⟨N + 1, fun n mm q hn hm hq => ?_⟩, h2, n2⟩
   obtain ⟨q, rfl⟩ : ∃ q', q = q' + 1 := ⟨q - 1, by omega⟩
   rw [hs n mm q (by omega) (by omega), he]
  cases e with
  | normal =>
   obtain ⟨y, hpy, hy, hm, hw⟩ := hq
   obtain ⟨C1', μ1', h2, n2⟩ := hw.rl hgl h1 (hn.then n1)
   have hk1 : execA P st (runF P st N N) N c τ σ = some (.normal, τ1, σ1) := hN N N (Nat.le_refl _) (Nat.le_refl _)
   obtain ⟨τ2, σ2, C2, μ2, ⟨M, hM⟩, h3, n3⟩ := loop_coreK hE hgl hd hl hm1 body k y (by omega) hpy hK ((execA_tmp c hd hk1).trans ht) h2 n2
   rw [hy] at hM h3 n3
   refine ⟨τ2, σ2, C2, μ2, ⟨max N M + 1, fun n mm q hn hm hq => ?_⟩, h3, n3⟩
   obtain ⟨q, rfl⟩ : ∃ q', q = q' + 1 := ⟨q - 1, by omega⟩
   rw [step n mm q (by omega) (by omega)]
   exact hM n mm q (by omega) (by omega) (by omega)
  | exit i => exact ends _ hq.1 hq.2 fun n mm q hn hm => step n mm q hn hm
  | ret => exact ends _ hq.1 hq.2 fun n mm q hn hm => step n mm q hn hm
theorem loopS_ofK {α X : Type} {E : Env Unit} (hE : EnvOk P st E) (hgl : ∀ g, Clo (E.gl g)) {c : Code} {p : Nat} (hd : noDst K.t c = true) (hl : ∀ x ∈ loopsL p c, ∀ g, E.lp x.1 = some g → LoopSK K E.gz P st E.gl x.2 g)
  {pre : X → Prop} {m : Nat} (hm1 : 1 ≤ m) {S : X → List DV × DHeap} {out : X → Ex × List DV × DHeap} {meas : X → Nat} (body : ∀ x, pre x → ∃ κ : KD Unit, execD P E c p (S x).1 (S x).2 κ = some () ∧ ∀ e τ σ, κ e τ σ = some () → StepQ E.gz pre m S out meas x e τ σ)
  {g : LoopD α} (hg : ∀ τd σd k r, g τd σd k = some r → ∃ x, pre x ∧ σd.length = m ∧ (∃ ρ, Wk ρ m τd σd (S x).1 (S x).2) ∧ k (out x).1 (out x).2.1 (out x).2.2 = some r) : LoopSK K E.gz P st E.gl (.loop c) g := by
 intro τd σd k r hgr C μ τ σ h
 obtain ⟨x, hpx, hm, ⟨ρ, hw⟩, hk⟩ := hg τd σd k r hgr
 subst hm
 obtain ⟨τ', σ', C', μ', ⟨N, hN⟩, h1, n1⟩ := loop_coreK hE hgl hd hl hm1 body (meas x + 1) x (Nat.lt_succ_self _) hpx h.kp h.tm (hw.rl hgl h.toRl) (hw.nx (.refl (Nat.le_refl _)))
 exact ⟨_, τ', σ', C', μ', _, _, ⟨N, fun n mm hn hm => hN n mm n hn hm hn⟩, h1, n1.nx h.S, hk⟩
theorem LInv.okZK {X : Type} {E : Env Unit} (I : LInv X) (hz : E.gz = true) (hm1 : 1 ≤ I.m) (hE : EnvOk P st E) (hgl : ∀ g, Clo (E.gl g)) {c : Code} {p : Nat} (hd : noDst K.t c = true)
  (hl : ∀ x ∈ loopsL p c, ∀ g, E.lp x.1 = some g → LoopSK K E.gz P st E.gl x.2 g)
  (cps : ∀ x k, I.cps x k = some () → k (I.e x) (I.od x) (I.oh x) = some ())
  (body : ∀ x, I.pre x → execD P E c p (temps I.n I.ps (I.sd x)) (I.sh x) (fun e τ σ => I.askZ x e τ.length (pick I.ps τ) (pick I.qs τ) σ) = some ()) : LoopSK K E.gz P st E.gl (.loop c) I.g := by
 refine loopS_ofK (pre := I.pre) (m := I.m) (S := I.st) (out := I.out) (meas := I.meas) hE hgl hd hl hm1 (fun x hpx => ?_) fun τd σd k r hx => ?_
 ·refine ⟨_, body x hpx, fun e τ σ hx => ?_⟩
  obtain ⟨hn, hq⟩ : I.QZ x e τ.length (pick I.ps τ) (pick I.qs τ) σ := holds_eq.1 (bif_none hx).1
  cases e with
  | normal =>
   obtain ⟨y, ⟨h1, h2, h3, h5⟩, h4, ids, zs, hw⟩ := hq
   exact ⟨y, h5, by simp only [LInv.out, h1, h2, h3], h4, by rw [hz]; exact hw.g hn⟩
  | exit i =>
   obtain ⟨h1, ids, zs, hw⟩ := hq
   exact ⟨h1, by rw [hz]; exact hw.g hn⟩
  | ret =>
   obtain ⟨h1, ids, zs, hw⟩ := hq
   exact ⟨h1, by rw [hz]; exact hw.g hn⟩
 ·unfold LInv.g at hx
  split at hx <;> first | (cases hx; done) | skip
  rename_i h1 h2
  have h1 := Nat.eq_of_beq_eq_true h1
  have h2 := Nat.eq_of_beq_eq_true h2
  split at hx <;> first | (cases hx; done) | skip
  rename_i x hf
  obtain ⟨hw, hx⟩ := bif_none hx
  obtain ⟨hpx, ids, hw⟩ := holds_eq.1 hw
  exact ⟨x, hpx, h2, ⟨_, hw.wk h1⟩, cps _ _ hx⟩
end
end Go.DE
namespace Go.DE
open Go Go.AE Go.RowKit
/-! ### A round of a range over a function -/
section
variable {st : AE.Stat} {C C1 C2 : Cf} {μ μ1 μ2 : Mu} {σ σ1 σ2 : Heap} {σd σd1 σd2 : DHeap} {P : Program}
theorem St.mark {l : Nat} {τ0 : Array Value} {ps : Array Tmp} {asg body : Code} {s : LoopState} {p : Option Code} {B : Blk} (hB : ∀ q, B ≠ .cells q) (h : St st C μ σ σd) (hl : σ[l]? = some (some (.loop τ0 ps asg body s p))) : St st C μ (σ.set l (some B)) σd := by
 have hlt := (List.getElem?_eq_some_iff.1 hl).1
 refine ⟨fun t b s o v hv => ?_, fun id blk hb => ?_, h.sep, h.inj, fun id x hm => by have := h.dom id x hm; simpa using this, fun t b o v hv => by have := h.low t b o v hv; simpa using this, h.sta⟩
 ·have hold := h.frz t b s o v hv
  unfold cellA at hold ⊢
  cases s with
  | some s => exact hold
  | none =>
   have hne : l ≠ b := by
    intro e
    subst e
    simp only [hl] at hold
    cases hold
   simpa only [List.getElem?_set_ne hne] using hold
 ·obtain ⟨b, L, m, h1, h2, h3, h4, h5, h6, h7⟩ := h.own id blk hb
  have hne : l ≠ b := by
   intro e
   subst e
   rw [hl] at h3
   cases h3
  exact ⟨b, L, m, h1, h2, by rw [List.getElem?_set_ne hne]; exact h3, h4, h5, h6, h7⟩
theorem NxW.around {l : Nat} {R x : Option Blk} (h0 : σ[l]? = some R) (hn : ¬ Live μ σd l) (n1 : NxW C μ σ σd C1 μ1 σ1 σd1) (n2 : NxW C1 μ1 (σ1.set l x) σd1 C2 μ2 σ2 σd2) : NxW C μ σ σd C2 μ2 (σ2.set l R) σd2 := by
 have hlt := (List.getElem?_eq_some_iff.1 h0).1
 have l1 := n1.len
 have l2 := n2.len
 rw [List.length_set] at l2
 refine ⟨Cf.le_trans n1.hC n2.hC, Mu.le_trans n1.hμ n2.hμ, by rw [List.length_set]; omega, Nat.le_trans n1.lend n2.lend, fun b hb hl => ?_, fun b hl hb => n1.img b (n2.img b hl (by rw [List.length_set]; omega)) hb, fun t b s o v q => ?_⟩
 ·by_cases e : l = b
  ·subst e
   rw [List.getElem?_set_self (by omega), h0]
  ·rw [List.getElem?_set_ne e, n2.fr b (by rw [List.length_set]; omega) (fun q => hl (n1.img b q hb)), List.getElem?_set_ne e, n1.fr b hb hl]
 ·rcases n2.old t b s o v q with q | ⟨q1, q2, q3⟩
  ·exact n1.old t b s o v q
  ·refine .inr ⟨q1, q2, ?_⟩
   rcases Nat.lt_or_ge b σ.length with hb | hb
   ·rcases q3 with q3 | q3
    ·rw [List.length_set] at q3; omega
    ·exact .inr (n1.img b q3 hb)
   ·exact .inl hb
theorem runF_round {n m l : Nat} {args : List Value} (hm : 1 ≤ m) : runF P st n m (P.funcs.size + l) args σ = roundA P st (runF P st n (m - 1)) n l args σ := by
 obtain ⟨m, rfl⟩ : ∃ m', m = m' + 1 := ⟨m - 1, by omega⟩
 have h : P.funcs[P.funcs.size + l]? = none := Array.getElem?_eq_none (by omega)
 simp only [runF, h, Nat.add_sub_cancel_left, Nat.add_sub_cancel]
theorem yield_run {E0 : Env Unit} {K : KArg} {τ0 : Array Value} {q : Tmp} {asg body : Code} {pa pb : Nat} {τ0d : List DV} {d : DV} {v : Value} {k : DHeap → Option Unit}
  (hz : E0.gz = true) (hE : EnvOk P st E0) (hG : GlOk st E0.gl) (hla : ∀ x ∈ loopsL pa asg, ∀ g, E0.lp x.1 = some g → LoopSR E0.gz P st E0.gl x.2 g) (hlb : ∀ x ∈ loopsL pb body, ∀ g, E0.lp x.1 = some g → LoopSR E0.gz P st E0.gl x.2 g)
  (hR : K.R = .loop τ0 #[q] asg body .ready none) (ha : noRange asg = true) (hb : noRange body = true) (hS : St st C μ σ σd) (hK : Kp K μ σ σd) (hd : DR C μ d v) (ht : DRL C μ τ0d τ0.toList)
  (hx : execD P E0 asg pa (τ0d.set q d) σd (fun e τ1 s1 => match e with
   | .normal => execD P E0 body pb τ1 s1 (fun e2 _ s2 => match e2 with
    | .normal => k s2
    | _ => none)
   | _ => none) = some ()) :
  ∃ σ' C' μ' σd', Lim (fun n m => runF P st n m (P.funcs.size + K.l) [v] σ) (.bool true, σ') ∧ St st C' μ' σ' σd' ∧ NxW C μ σ σd C' μ' σ' σd' ∧ k σd' = some () := by
 have hput : ((τ0.setIfInBounds q v)).toList = τ0.toList.set q v := by simp
 have r0 : Rl st E0.gl C μ (τ0.setIfInBounds q v) σ (τ0d.set q d) σd := ⟨hS, by rw [hput]; exact ht.set q hd, hG.2 _ _ _ _ hS⟩
 obtain ⟨e1, τ1, σ1, C1, μ1, τd1, σd1, ⟨N1, hN1⟩, h1, n1, hx⟩ := execD_some hE asg pa hla r0 hx
 have hK1 := hK.nextN n1
 rw [hz] at n1
 cases e1 <;> first | (cases hx; done) | skip
 have hx : execD P E0 body pb τd1 σd1 (fun e2 _ s2 => match e2 with
    | .normal => k s2
    | _ => none) = some () := hx
 have at1 := hK1.at_
 rw [hR] at at1
 have hlt1 := (List.getElem?_eq_some_iff.1 at1).1
 let K2 : KArg := ⟨K.l, .loop τ0 #[q] asg body .busy none, K.x0, K.t, K.v⟩
 have hS2 : St st C1 μ1 (σ1.set K.l (some (.loop τ0 #[q] asg body .busy none))) σd1 := h1.S.mark (B := .loop τ0 #[q] asg body .busy none) (fun _ e => by cases e) at1
 have r2 : Rl st E0.gl C1 μ1 τ1 (σ1.set K.l (some (.loop τ0 #[q] asg body .busy none))) τd1 σd1 := ⟨hS2, h1.T, h1.G⟩
 have hK2 : Kp K2 μ1 (σ1.set K.l (some (.loop τ0 #[q] asg body .busy none))) σd1 := ⟨List.getElem?_set_self hlt1, hK1.nl, hK1.x0, hK1.len⟩
 obtain ⟨e2, τ2, σ2, C2, μ2, τd2, σd2, ⟨N2, hN2⟩, h2, n2, hx⟩ := execD_some hE body pb hlb r2 hx
 have hK3 := hK2.nextN n2
 rw [hz] at n2
 cases e2 <;> first | (cases hx; done) | skip
 have hx : k σd2 = some () := hx
 have at3 : σ2[K.l]? = some (some (.loop τ0 #[q] asg body .busy none)) := hK3.at_
 have at0 := hK.at_
 rw [hR] at at0
 refine ⟨σ2.set K.l (some (.loop τ0 #[q] asg body .ready none)), C2, μ2, σd2, ⟨max N1 N2 + 1, fun n m hn hm => ?_⟩, h2.S.mark (B := .loop τ0 #[q] asg body .ready none) (fun _ e => by cases e) at3, NxW.around at0 hK.nl n1 n2, hx⟩
 have a1 : execA P st (runF P st n (m - 1)) n asg (τ0.setIfInBounds q v) σ = some (.normal, τ1, σ1) := hN1 n (m - 1) (by omega) (by omega)
 have a2 : execA P st (runF P st n (m - 1)) n body τ1 (σ1.set K.l (some (.loop τ0 #[q] asg body .busy none))) = some (.normal, τ2, σ2) := hN2 n (m - 1) (by omega) (by omega)
 have b1 : beginA σ1 K.l = some (σ1.set K.l (some (.loop τ0 #[q] asg body .busy none))) := by unfold beginA; rw [at1]
 have b2 : endA σ2 K.l none = some (.bool true, σ2.set K.l (some (.loop τ0 #[q] asg body .ready none))) := by unfold endA; rw [at3]; rfl
 show runF P st n m (P.funcs.size + K.l) [v] σ = _
 rw [runF_round (by omega)]
 unfold roundA
 rw [at0]
 have hp : ((#[q] : Array Tmp).zip [v].toArray).foldl (fun t q => t.setIfInBounds q.1 q.2) τ0 = τ0.setIfInBounds q v := by rw [← Array.foldl_toList, Array.toList_zip]; rfl
 simp only [ha, hb, List.length_cons, List.length_nil, hp, a1, b1, a2, leftA]
 exact b2
end
end Go.DE
