/-
 The symbolic evaluator: code, loops by what is told of them, results, a function's body.
 Conditions: the symbolic state stands for the evaluator's (Rl); the callees and loops do what the symbolic evaluator was told of them (CallS, PureS, LoopS).
-/
import Derived.Test.YtfdldnomelnbgaaGreatDoorDeRun
namespace Go.DE
open Go Go.AE

abbrev KD (α : Type) := Ex → List DV → DHeap → Option α
abbrev LoopD (α : Type) := List DV → DHeap → KD α → Option α

section
variable {α : Type} {st : AE.Stat} {gl : Gl} {C : Cf} {μ : Mu} {σ : Heap} {σd : DHeap} {P : Program} {r : α} {τ : Array Value} {τd : List DV}

def iterD (f : LoopD α) : Nat → LoopD α
 | 0, _, _, _ => none
 | n + 1, τ, σ, k => f τ σ fun e τ' σ' => match e with
  | .normal => iterD f n τ' σ' k
  | .exit i => k (.exit i) τ' σ'
  | .ret => k .ret τ' σ'

def loopsL : Nat → Code → List (Nat × Code)
 | p, .seq a b => (p, .seq a b) :: (loopsL (2 * p) a ++ loopsL (2 * p + 1) b)
 | p, .cond c a b => (p, .cond c a b) :: (loopsL (2 * p) a ++ loopsL (2 * p + 1) b)
 | p, .block i a => (p, .block i a) :: loopsL (2 * p) a
 | p, .loop a => (p, .loop a) :: loopsL (2 * p) a
 | p, .scope a => loopsL p a
 | _, _ => []

structure Env (α : Type) where
 call : CallD α
 pure : FuncId → Bool
 gl : Gl
 lp : Nat → Option (LoopD α)
 n : Nat
 mg : Nat → Option (Code → Code → Bool → LoopD α)
 gz : Bool := false

def execD (P : Program) (E : Env α) : Code → Nat → LoopD α
 | .skip => fun _ τ σ k => k .normal τ σ
 | .label _ => fun _ τ σ k => k .normal τ σ
 | .region _ ops draw => fun _ τ σ k => match draw with
  | true => drawD E.gz P E.call E.pure E.gl ops τ σ fun τ' σ' => k .normal τ' σ'
  | false => runLD P E.call E.gl ops ops.toList τ σ fun τ' σ' => k .normal τ' σ'
 | .seq a b => fun p τ σ k => match E.lp p with
  | some g => g τ σ k
  | none => execD P E a (2 * p) τ σ fun e τ' σ' => match e with
   | .normal => execD P E b (2 * p + 1) τ' σ' k
   | .exit i => k (.exit i) τ' σ'
   | .ret => k .ret τ' σ'
 | .cond c a b => fun p τ σ k => match E.lp p with
  | some g => g τ σ k
  | none => match evalDT E.gl τ c with
   | .v (.bool t) => match E.mg p with
    | some M => M a b t τ σ k
    | none => bif t then execD P E a (2 * p) τ σ k else execD P E b (2 * p + 1) τ σ k
   | _ => none
 | .block id a => fun p τ σ k => match E.lp p with
  | some g => g τ σ k
  | none => execD P E a (2 * p) τ σ fun e τ' σ' => match e with
   | .normal => k .normal τ' σ'
   | .exit i => match Nat.beq i id with
    | true => k .normal τ' σ'
    | false => k (.exit i) τ' σ'
   | .ret => k .ret τ' σ'
 | .loop a => fun p τ σ k => match E.lp p with
  | some g => g τ σ k
  | none => iterD (execD P E a (2 * p)) E.n τ σ k
 | .scope a => fun p τ σ k => execD P E a p τ σ k
 | .exit id => fun _ τ σ k => k (.exit id) τ σ
 | .ret => fun _ τ σ k => k .ret τ σ
 | _ => fun _ _ _ _ => none

def LoopSR (z : Bool) (P : Program) (st : AE.Stat) (gl : Gl) (c : Code) (g : LoopD α) : Prop :=
 ∀ τd σd k r, g τd σd k = some r → ∀ C μ τ σ, Rl st gl C μ τ σ τd σd → TResR z st gl C μ σ σd (fun n m => execA P st (runF P st n m) n c τ σ) k r
abbrev LoopS (P : Program) (st : AE.Stat) (gl : Gl) (c : Code) (g : LoopD α) : Prop := LoopSR false P st gl c g

def JoinS (P : Program) (st : AE.Stat) (gl : Gl) (M : Code → Code → Bool → LoopD α) : Prop :=
 ∀ a b t τd σd k r, M a b t τd σd k = some r → ∀ C μ τ σ, Rl st gl C μ τ σ τd σd → TRes st gl C μ σ σd (fun n m => if t = true then execA P st (runF P st n m) n a τ σ else execA P st (runF P st n m) n b τ σ) k r
structure EnvOk (P : Program) (st : AE.Stat) (E : Env α) : Prop where
 call : CallS E.gz P st E.call
 pure : PureS P st E.call E.pure
 mg : ∀ p M, E.mg p = some M → JoinS P st E.gl M

theorem TRes.now {z : Bool} {β : Type} {F : Nat → Nat → Option (β × Array Value × Heap)} {k : β → List DV → DHeap → Option α} {e : β} (h : Rl st gl C μ τ σ τd σd) (hF : ∀ n m, F n m = some (e, τ, σ)) (hk : k e τd σd = some r) : TResR z st gl C μ σ σd F k r :=
 ⟨e, τ, σ, C, μ, τd, σd, .const hF, h, (NRel.b z).of (Nx.refl _ _ _ _).one, hk⟩

theorem iterD_some {z : Bool} {f : LoopD α} {c : Code} {k : KD α} (hf : ∀ {C μ τ σ τd σd} {k : KD α}, Rl st gl C μ τ σ τd σd → f τd σd k = some r → TResR z st gl C μ σ σd (fun n m => execA P st (runF P st n m) n c τ σ) k r) :
  ∀ (j : Nat) {C μ τ σ τd σd}, Rl st gl C μ τ σ τd σd → iterD f j τd σd k = some r → ∃ e τ' σ' C' μ' τd' σd', (∃ N, ∀ n m q, N ≤ n → N ≤ m → j ≤ q → iterA (execA P st (runF P st n m) n c) q τ σ = some (e, τ', σ')) ∧ Rl st gl C' μ' τ' σ' τd' σd' ∧ (NRel.b z).N C μ σ σd C' μ' σ' σd' ∧ k e τd' σd' = some r
 | 0, C, μ, τ, σ, τd, σd, h, hx => by simp [iterD] at hx
 | j + 1, C, μ, τ, σ, τd, σd, h, hx => by
  obtain ⟨e, τ1, σ1, C1, μ1, τd1, σd1, ⟨N, hN⟩, h1, n1, hx⟩ := hf h hx
  have step : ∀ n m q, N ≤ n → N ≤ m → iterA (execA P st (runF P st n m) n c) (q + 1) τ σ = match e with
    | .normal => iterA (execA P st (runF P st n m) n c) q τ1 σ1
    | .exit i => some (.exit i, τ1, σ1)
    | .ret => some (.ret, τ1, σ1) := by
   intro n m q hn hm
   have hN' : execA P st (runF P st n m) n c τ σ = some (e, τ1, σ1) := hN n m hn hm
   simp only [iterA, hN']
   cases e <;> rfl
  cases e with
  | normal =>
   obtain ⟨e2, τ2, σ2, C2, μ2, τd2, σd2, ⟨M, hM⟩, h2, n2, hx⟩ := iterD_some hf j h1 hx
   refine ⟨e2, τ2, σ2, C2, μ2, τd2, σd2, ⟨max N M, fun n m q hn hm hq => ?_⟩, h2, (NRel.b z).tr n1 n2, hx⟩
   obtain ⟨q, rfl⟩ : ∃ q', q = q' + 1 := ⟨q - 1, by omega⟩
   rw [step n m q (by omega) (by omega)]
   exact hM n m q (by omega) (by omega) (by omega)
  | exit i =>
   refine ⟨_, τ1, σ1, C1, μ1, τd1, σd1, ⟨N, fun n m q hn hm hq => ?_⟩, h1, n1, hx⟩
   obtain ⟨q, rfl⟩ : ∃ q', q = q' + 1 := ⟨q - 1, by omega⟩
   rw [step n m q hn hm]
  | ret =>
   refine ⟨_, τ1, σ1, C1, μ1, τd1, σd1, ⟨N, fun n m q hn hm hq => ?_⟩, h1, n1, hx⟩
   obtain ⟨q, rfl⟩ : ∃ q', q = q' + 1 := ⟨q - 1, by omega⟩
   rw [step n m q hn hm]

theorem execD_some {E : Env α} (hE : EnvOk P st E) : ∀ (c : Code) (p : Nat), (∀ x ∈ loopsL p c, ∀ g, E.lp x.1 = some g → LoopSR E.gz P st E.gl x.2 g) →
  ∀ {C μ τ σ τd σd} {k : KD α}, Rl st E.gl C μ τ σ τd σd → execD P E c p τd σd k = some r → TResR E.gz st E.gl C μ σ σd (fun n m => execA P st (runF P st n m) n c τ σ) k r := by
 intro c
 induction c with
 | skip => intro p _ C μ τ σ τd σd k h hx; exact TRes.now h (fun _ _ => rfl) hx
 | label l => intro p _ C μ τ σ τd σd k h hx; exact TRes.now h (fun _ _ => rfl) hx
 | exit id => intro p _ C μ τ σ τd σd k h hx; exact TRes.now h (fun _ _ => rfl) hx
 | ret => intro p _ C μ τ σ τd σd k h hx; exact TRes.now h (fun _ _ => rfl) hx
 | region id ops draw =>
  intro p _ C μ τ σ τd σd k h hx
  simp only [execD] at hx
  cases draw with
  | true =>
   obtain ⟨τ', σ', C', μ', τd', σd', ⟨N, hN⟩, h1, n1, hx⟩ := drawD_some hE.call hE.pure h hx
   refine ⟨.normal, τ', σ', C', μ', τd', σd', ⟨N, fun n m hn hm => ?_⟩, h1, (NRel.b E.gz).of n1, hx⟩
   have hN' : drawA P st (runF P st n m) ops τ σ = some (τ', σ') := hN n m hn hm
   simp only [execA, if_true, hN']
  | false =>
   obtain ⟨τ', σ', C', μ', τd', σd', ⟨N, hN⟩, h1, n1, hx⟩ := runLD_some hE.call _ h hx
   refine ⟨.normal, τ', σ', C', μ', τd', σd', ⟨N, fun n m hn hm => ?_⟩, h1, (NRel.b E.gz).of n1, hx⟩
   have hN' : runA P st (runF P st n m) ops ops.toList τ σ = some (τ', σ') := hN n m hn hm
   simp only [execA, Bool.false_eq_true, if_false, hN']
 | seq a b iha ihb =>
  intro p hl C μ τ σ τd σd k h hx
  simp only [execD] at hx
  split at hx
  ·rename_i g hg
   exact hl (p, .seq a b) (by simp [loopsL]) g hg τd σd k r hx C μ τ σ h
  obtain ⟨e, τ1, σ1, C1, μ1, τd1, σd1, ⟨N, hN⟩, h1, n1, hx⟩ := iha (2 * p) (fun x hm => hl x (by simp [loopsL, hm])) h hx
  cases e with
  | normal =>
   obtain ⟨e2, τ2, σ2, C2, μ2, τd2, σd2, ⟨M, hM⟩, h2, n2, hx⟩ := ihb (2 * p + 1) (fun x hm => hl x (by simp [loopsL, hm])) h1 hx
   refine ⟨e2, τ2, σ2, C2, μ2, τd2, σd2, ⟨max N M, fun n m hn hm => ?_⟩, h2, (NRel.b E.gz).tr n1 n2, hx⟩
   have hN' : execA P st (runF P st n m) n a τ σ = some (.normal, τ1, σ1) := hN n m (by omega) (by omega)
   have hM' : execA P st (runF P st n m) n b τ1 σ1 = some (e2, τ2, σ2) := hM n m (by omega) (by omega)
   simp only [execA, hN', hM']
  | exit i =>
   refine ⟨_, τ1, σ1, C1, μ1, τd1, σd1, ⟨N, fun n m hn hm => ?_⟩, h1, n1, hx⟩
   have hN' : execA P st (runF P st n m) n a τ σ = some (.exit i, τ1, σ1) := hN n m hn hm
   simp only [execA, hN']
  | ret =>
   refine ⟨_, τ1, σ1, C1, μ1, τd1, σd1, ⟨N, fun n m hn hm => ?_⟩, h1, n1, hx⟩
   have hN' : execA P st (runF P st n m) n a τ σ = some (.ret, τ1, σ1) := hN n m hn hm
   simp only [execA, hN']
 | cond c a b iha ihb =>
  intro p hl C μ τ σ τd σd k h hx
  simp only [execD] at hx
  split at hx
  ·rename_i g hg
   exact hl (p, .cond c a b) (by simp [loopsL]) g hg τd σd k r hx C μ τ σ h
  split at hx <;> first | (cases hx; done) | skip
  rename_i t ht
  have hev := h.ev c
  rw [ht] at hev
  have hc : evalT τ c = .bool t := by
   generalize evalT τ c = u at hev
   cases hev
   rfl
  split at hx
  ·rename_i M hM
   obtain ⟨e1, τ1, σ1, C1, μ1, τd1, σd1, ⟨N, hN⟩, h1, n1, hx⟩ := hE.mg p M hM a b t τd σd k r hx C μ τ σ h
   refine ⟨e1, τ1, σ1, C1, μ1, τd1, σd1, ⟨N, fun n m hn hm => ?_⟩, h1, (NRel.b E.gz).of ⟨(show Nx1 false _ _ _ _ _ _ _ _ from n1).toNx, fun _ => (show Nx1 false _ _ _ _ _ _ _ _ from n1).one rfl⟩, hx⟩
   simp only [execA, hc]
   exact hN n m hn hm
  cases t with
  | true =>
   obtain ⟨e1, τ1, σ1, C1, μ1, τd1, σd1, ⟨N, hN⟩, h1, n1, hx⟩ := iha (2 * p) (fun x hm => hl x (by simp [loopsL, hm])) h hx
   refine ⟨e1, τ1, σ1, C1, μ1, τd1, σd1, ⟨N, fun n m hn hm => ?_⟩, h1, n1, hx⟩
   simp only [execA, hc, if_true]
   exact hN n m hn hm
  | false =>
   obtain ⟨e1, τ1, σ1, C1, μ1, τd1, σd1, ⟨N, hN⟩, h1, n1, hx⟩ := ihb (2 * p + 1) (fun x hm => hl x (by simp [loopsL, hm])) h hx
   refine ⟨e1, τ1, σ1, C1, μ1, τd1, σd1, ⟨N, fun n m hn hm => ?_⟩, h1, n1, hx⟩
   simp only [execA, hc, Bool.false_eq_true, if_false]
   exact hN n m hn hm
 | block id a iha =>
  intro p hl C μ τ σ τd σd k h hx
  simp only [execD] at hx
  split at hx
  ·rename_i g hg
   exact hl (p, .block id a) (by simp [loopsL]) g hg τd σd k r hx C μ τ σ h
  obtain ⟨e, τ1, σ1, C1, μ1, τd1, σd1, ⟨N, hN⟩, h1, n1, hx⟩ := iha (2 * p) (fun x hm => hl x (by simp [loopsL, hm])) h hx
  cases e with
  | normal =>
   refine ⟨_, τ1, σ1, C1, μ1, τd1, σd1, ⟨N, fun n m hn hm => ?_⟩, h1, n1, hx⟩
   have hN' : execA P st (runF P st n m) n a τ σ = some (.normal, τ1, σ1) := hN n m hn hm
   simp only [execA, hN']
  | exit i =>
   simp only at hx
   split at hx
   ·rename_i he
    have he : i = id := Nat.eq_of_beq_eq_true he
    refine ⟨_, τ1, σ1, C1, μ1, τd1, σd1, ⟨N, fun n m hn hm => ?_⟩, h1, n1, hx⟩
    have hN' : execA P st (runF P st n m) n a τ σ = some (.exit i, τ1, σ1) := hN n m hn hm
    simp only [execA, hN', he, if_true]
   ·rename_i he
    have he : i ≠ id := Nat.ne_of_beq_eq_false he
    refine ⟨_, τ1, σ1, C1, μ1, τd1, σd1, ⟨N, fun n m hn hm => ?_⟩, h1, n1, hx⟩
    have hN' : execA P st (runF P st n m) n a τ σ = some (.exit i, τ1, σ1) := hN n m hn hm
    simp only [execA, hN', he, if_false]
  | ret =>
   refine ⟨_, τ1, σ1, C1, μ1, τd1, σd1, ⟨N, fun n m hn hm => ?_⟩, h1, n1, hx⟩
   have hN' : execA P st (runF P st n m) n a τ σ = some (.ret, τ1, σ1) := hN n m hn hm
   simp only [execA, hN']
 | loop a iha =>
  intro p hl C μ τ σ τd σd k h hx
  simp only [execD] at hx
  split at hx
  ·rename_i g hg
   exact hl (p, .loop a) (by simp [loopsL]) g hg τd σd k r hx C μ τ σ h
  ·obtain ⟨e, τ', σ', C', μ', τd', σd', ⟨N, hN⟩, h1, n1, hx⟩ := iterD_some (P := P) (c := a) (fun h hx => iha (2 * p) (fun x hm => hl x (by simp [loopsL, hm])) h hx) E.n h hx
   refine ⟨e, τ', σ', C', μ', τd', σd', ⟨max N E.n, fun n m hn hm => ?_⟩, h1, n1, hx⟩
   exact hN n m n (by omega) (by omega) (by omega)
 | rangeFunc f ps as b _ _ => intro p hl C μ τ σ τd σd k h hx; simp [execD] at hx
 | scope b ih => intro p hl C μ τ σ τd σd k h hx; exact ih p hl h hx
 | goto l => intro p hl C μ τ σ τd σd k h hx; simp [execD] at hx
 | refuse y => intro p hl C μ τ σ τd σd k h hx; simp [execD] at hx

def resultD (P : Program) (τ : List DV) (σ : DHeap) (rv : ResultVar) (k : DV → Option α) : Option α :=
 match rv with
 | .tmp t => k (τ.getD t .any)
 | .cell a t => loadD P σ t (τ.getD a .any) k
def resultLD (P : Program) (τ : List DV) (σ : DHeap) : List ResultVar → (List DV → Option α) → Option α
 | [], k => k []
 | rv :: rest, k => resultD P τ σ rv fun d => resultLD P τ σ rest fun l => k (d :: l)
def resultsD (P : Program) (fn : Func) (τ : List DV) (σ : DHeap) (k : DV → Option α) : Option α :=
 resultLD P τ σ fn.results.toList fun l => match l with
  | [d] => k d
  | l => k (.tup l)

theorem resultD_some {rv : ResultVar} {k : DV → Option α} (h : Rl st gl C μ τ σ τd σd) (hx : resultD P τd σd rv k = some r) : ∃ v d, resultA P st τ σ rv = some v ∧ DR C μ d v ∧ k d = some r := by
 have tv : ∀ t, DR C μ (τd.getD t .any) (τ.getD t undef) := fun t => h.ev (.tmp t)
 cases rv with
 | tmp t => exact ⟨_, _, rfl, tv t, hx⟩
 | cell a t =>
  obtain ⟨ad, d, v, e1, e2, e3, e4⟩ := loadD_some h.S (tv a) hx
  refine ⟨v, d, ?_, e3, e4⟩
  unfold resultA
  simp only [e1, e2]
theorem resultLD_some (h : Rl st gl C μ τ σ τd σd) : ∀ (l : List ResultVar) {k : List DV → Option α}, resultLD P τd σd l k = some r → ∃ vs ds, l.mapM (resultA P st τ σ) = some vs ∧ DRL C μ ds vs ∧ k ds = some r
 | [], k, hx => ⟨[], [], rfl, .nil _ _, hx⟩
 | rv :: rest, k, hx => by
  obtain ⟨v, d, e1, e2, hx⟩ := resultD_some h hx
  obtain ⟨vs, ds, e3, e4, hx⟩ := resultLD_some h rest hx
  exact ⟨v :: vs, d :: ds, by simp [List.mapM_cons, e1, e3], .cons e2 e4, hx⟩
theorem resultsD_some {fn : Func} {k : DV → Option α} (h : Rl st gl C μ τ σ τd σd) (hx : resultsD P fn τd σd k = some r) : ∃ v d, resultsA P st fn τ σ = some v ∧ DR C μ d v ∧ k d = some r := by
 obtain ⟨vs, ds, e1, e2, hx⟩ := resultLD_some h _ hx
 unfold resultsA
 rw [e1]
 split at hx
 ·rename_i d
  obtain ⟨v, ys, rfl, e3, e4⟩ := e2.cons_inv
  obtain rfl := e4.nil_inv
  exact ⟨v, d, rfl, e3, hx⟩
 ·rename_i hne
  have hne' : ∀ v, vs ≠ [v] := by
   intro v e
   subst e
   match ds, e2.1 with
   | [d], _ => exact hne d rfl
  refine ⟨.tuple vs.toArray, _, ?_, .tup ds vs.toArray (by simpa using e2.1) (fun i d x hd hx => e2.2 i d x hd (by simpa using hx)), hx⟩
  split
  ·rename_i v e
   exact absurd (Option.some.inj e) (hne' v)
  ·rename_i vs' _ e
   obtain rfl := Option.some.inj e
   rfl
  ·rename_i e
   cases e

def bodyD (P : Program) (E : Env α) (fn : Func) (args : List DV) (σ : DHeap) (k : DV → DHeap → Option α) : Option α :=
 match fn.body with
 | none => none
 | some c => execD P E c 1 (args ++ List.replicate (fn.ntmps - args.length) (.tup [])) σ fun e τ' σ' => match e with
  | .normal => resultsD P fn τ' σ' fun d => k d σ'
  | .ret => resultsD P fn τ' σ' fun d => k d σ'
  | .exit _ => none

def loopsOf (fn : Func) : List (Nat × Code) :=
 match fn.body with
 | none => []
 | some c => loopsL 1 c

def OpResR (z : Bool) (st : AE.Stat) (C : Cf) (μ : Mu) (σ : Heap) (σd : DHeap) (F : Nat → Nat → Option (Value × Heap)) (k : DV → DHeap → Option α) (r : α) : Prop :=
 ∃ v σ' C' μ' d σd', Lim F (v, σ') ∧ St st C' μ' σ' σd' ∧ (NRel.b z).N C μ σ σd C' μ' σ' σd' ∧ DR C' μ' d v ∧ k d σd' = some r
theorem bodyD_some {E : Env α} {fn : Func} (hE : EnvOk P st E) (hl : ∀ x ∈ loopsOf fn, ∀ g, E.lp x.1 = some g → LoopSR E.gz P st E.gl x.2 g)
  {args : List DV} {vs : List Value} {k : DV → DHeap → Option α} (hS : St st C μ σ σd) (ha : DRL C μ args vs) (hG : ∀ g, DR C μ (E.gl g) (.pointer (some ⟨g, 0, some 0⟩))) (hx : bodyD P E fn args σd k = some r) :
  OpResR E.gz st C μ σ σd (fun n m => bodyA P st (runF P st n m) n fn vs σ) k r := by
 unfold bodyD at hx
 unfold bodyA
 unfold loopsOf at hl
 cases hb : fn.body with
 | none => rw [hb] at hx; cases hx
 | some c =>
  rw [hb] at hx hl
  simp only at hx hl ⊢
  have hT : DRL C μ (args ++ List.replicate (fn.ntmps - args.length) (.tup [])) (vs.toArray ++ Array.replicate (fn.ntmps - vs.length) undef).toList := by
   simp only [Array.toList_append, Array.toList_replicate]
   refine ha.append ⟨by simp [ha.1], fun i d x hd hx => ?_⟩
   rw [List.getElem?_replicate] at hd hx
   split at hd
   ·split at hx
    ·obtain rfl := Option.some.inj hd
     obtain rfl := Option.some.inj hx
     exact undef_DR
    ·cases hx
   ·cases hd
  obtain ⟨e, τ', σ', C', μ', τd', σd', ⟨N, hN⟩, h1, n1, hx⟩ := execD_some hE c 1 hl ⟨hS, hT, hG⟩ hx
  have fin : (e = .normal ∨ e = .ret) → resultsD P fn τd' σd' (fun d => k d σd') = some r → OpResR E.gz st C μ σ σd (fun n m => match execA P st (runF P st n m) n c (vs.toArray ++ Array.replicate (fn.ntmps - vs.length) undef) σ with
    | some (.normal, τ, σ') => (resultsA P st fn τ σ').map (·, σ')
    | some (.ret, τ, σ') => (resultsA P st fn τ σ').map (·, σ')
    | _ => none) k r := by
   intro he hx
   obtain ⟨v, d, e1, e2, e3⟩ := resultsD_some h1 hx
   refine ⟨v, σ', C', μ', d, σd', ⟨N, fun n m hn hm => ?_⟩, h1.S, n1, e2, e3⟩
   have hN' := hN n m hn hm
   simp only at hN' ⊢
   rw [hN']
   rcases he with rfl | rfl
   ·simp only [e1, Option.map_some]
   ·simp only [e1, Option.map_some]
  cases e with
  | normal => exact fin (.inl rfl) hx
  | ret => exact fin (.inr rfl) hx
  | exit i => cases hx
end
end Go.DE
