/-
  The symbolic evaluator: loops and functions by the few temporaries that matter; the blocks' new numbers by a list.
  Conditions: as in the texts below.
-/
import Derived.Test.YtiphckeipbfbmaaGreatDoorDeCon
namespace Go.DE
open Go Go.AE Go.RowKit

theorem cT {b : Bool} {x y : Option Unit} (h : b = true) (hx : x = some ()) : (bif b then x else y) = some () := by rw [h]; exact hx
theorem cF {b : Bool} {x y : Option Unit} (h : b = false) (hy : y = some ()) : (bif b then x else y) = some () := by rw [h]; exact hy
theorem cS {b : Bool} {x y : Option Unit} (h1 : b = true → x = some ()) (h2 : b = false → y = some ()) : (bif b then x else y) = some () := by
  cases b
  · exact h2 rfl
  · exact h1 rfl
theorem dT {p : Prop} [Decidable p] {x y : Option Unit} (h : p) (hx : x = some ()) : (bif decide p then x else y) = some () := cT (decide_eq_true h) hx
theorem dF {p : Prop} [Decidable p] {x y : Option Unit} (h : ¬ p) (hy : y = some ()) : (bif decide p then x else y) = some () := cF (decide_eq_false h) hy
theorem dS {p : Prop} [Decidable p] {x y : Option Unit} (h1 : p → x = some ()) (h2 : ¬ p → y = some ()) : (bif decide p then x else y) = some () :=
  cS (fun h => h1 (of_decide_eq_true h)) (fun h => h2 (of_decide_eq_false h))
theorem hT {p : Prop} {x y : Option Unit} (h : p) (hx : x = some ()) : (bif holds p then x else y) = some () := cT (holds_eq.2 h) hx

/-- Numbers of blocks: those below m stay. -/
def ren (m : Nat) (ids : List Nat) : Nat → Option Nat := fun j => if j < m then some j else ids[j - m]?

/-- Temporaries, all but a few forgotten. -/
def temps (n : Nat) : List Nat → List DV → List DV
  | p :: ps, d :: ds => (temps n ps ds).set p d
  | _, _ => List.replicate n .any
def pick (ps : List Nat) (τ : List DV) : List DV := ps.map fun p => τ.getD p .any
theorem temps_length (n : Nat) : ∀ (ps : List Nat) (ds : List DV), (temps n ps ds).length = n
  | [], _ => by simp [temps]
  | _ :: _, [] => by simp [temps]
  | p :: ps, d :: ds => by simp [temps, temps_length n ps ds]

section
variable {r : Nat → Option Nat}
theorem SubL.set {l2 l : List DV} (h : SubL r l2 l) {d : DV} : ∀ (p : Nat), Sub r d (l.getD p .any) → SubL r (l2.set p d) l := by
  induction h with
  | nil => intro p hd; exact .nil
  | cons h t ih =>
    intro p hd
    cases p with
    | zero => exact .cons hd t
    | succ p => exact .cons h (ih p (by simpa using hd))
theorem SubL.replicate : ∀ {n : Nat} {l : List DV}, l.length = n → SubL r (List.replicate n .any) l
  | 0, [], _ => .nil
  | n + 1, d :: l, h => .cons (.any d) (SubL.replicate (by simpa using h))
theorem subL_temps {n : Nat} {τ : List DV} (hn : τ.length = n) : ∀ {ps : List Nat} {ds : List DV}, SubL r ds (pick ps τ) → SubL r (temps n ps ds) τ
  | [], ds, _ => by cases ds <;> exact .replicate hn
  | p :: ps, ds, h => by
    cases h with
    | cons h t => exact (subL_temps hn t).set p h
theorem Sub.eq {x y : Value} (h : x = y) : Sub r (.v x) (.v y) := by rw [h]; exact .v y
theorem Sub.sl (t : Bool) (g : Nat → Nat → DV) (k n : Nat) : Sub r (.sl t g k n) (.sl t g k n) := .of_clo (.sl t g k n)
end

def imgs (r : Nat → Option Nat) : Nat → DHeap → List (Option Nat)
  | _, [] => []
  | j, none :: rest => imgs r (j + 1) rest
  | j, some _ :: rest => r j :: imgs r (j + 1) rest
theorem imgs_mem {r : Nat → Option Nat} : ∀ {j : Nat} {σ : DHeap} {i : Nat} {b : DBlk}, σ[i]? = some (some b) → r (j + i) ∈ imgs r j σ
  | j, [], i, b, h => by simp at h
  | j, none :: rest, i, b, h => by
    cases i with
    | zero => simp at h
    | succ i =>
      have := imgs_mem (r := r) (j := j + 1) (i := i) (by simpa using h)
      rw [show j + (i + 1) = j + 1 + i by omega]
      exact this
  | j, some c :: rest, i, b, h => by
    cases i with
    | zero => exact .head _
    | succ i =>
      have := imgs_mem (r := r) (j := j + 1) (i := i) (by simpa using h)
      rw [show j + (i + 1) = j + 1 + i by omega]
      exact .tail _ this
theorem imgs_inj {r : Nat → Option Nat} : ∀ {j : Nat} {σ : DHeap}, (imgs r j σ).Nodup → ∀ {i i' : Nat} {b b' : DBlk}, σ[i]? = some (some b) → σ[i']? = some (some b') → r (j + i) = r (j + i') → i = i'
  | j, [], _, i, _, _, _, h, _, _ => by simp at h
  | j, none :: rest, hn, i, i', b, b', h, h', e => by
    cases i with
    | zero => simp at h
    | succ i => cases i' with
      | zero => simp at h'
      | succ i' =>
        have := imgs_inj (r := r) (j := j + 1) (σ := rest) hn (i := i) (i' := i') (by simpa using h) (by simpa using h') (by rw [show j + 1 + i = j + (i + 1) by omega, show j + 1 + i' = j + (i' + 1) by omega]; exact e)
        omega
  | j, some c :: rest, hn, i, i', b, b', h, h', e => by
    have hn : (r j :: imgs r (j + 1) rest).Nodup := hn
    rw [List.nodup_cons] at hn
    cases i with
    | zero => cases i' with
      | zero => rfl
      | succ i' =>
        have := imgs_mem (r := r) (j := j + 1) (σ := rest) (i := i') (b := b') (by simpa using h')
        rw [show j + 1 + i' = j + (i' + 1) by omega, ← e] at this
        exact absurd this hn.1
    | succ i => cases i' with
      | zero =>
        have := imgs_mem (r := r) (j := j + 1) (σ := rest) (i := i) (b := b) (by simpa using h)
        rw [show j + 1 + i = j + (i + 1) by omega, e] at this
        exact absurd this hn.1
      | succ i' =>
        have := imgs_inj (r := r) (j := j + 1) (σ := rest) hn.2 (i := i) (i' := i') (by simpa using h) (by simpa using h') (by rw [show j + 1 + i = j + (i + 1) by omega, show j + 1 + i' = j + (i' + 1) by omega]; exact e)
        omega

/-- What one block must be for another to stand for it. -/
def SubC (r : Nat → Option Nat) (b2 b : DBlk) : Prop := b2.k = b.k ∧ b2.c.n ≤ b.c.n ∧ b2.c.good ∧ ∀ i f, i < b2.c.n → f < b2.k → Sub r (b2.c.get i f) (b.c.get i f)
def BlkL (r : Nat → Option Nat) (σ : DHeap) : Nat → DHeap → Prop
  | _, [] => True
  | j, none :: rest => BlkL r σ (j + 1) rest
  | j, some b2 :: rest => (∃ i b, r j = some i ∧ σ[i]? = some (some b) ∧ SubC r b2 b) ∧ BlkL r σ (j + 1) rest
theorem BlkL.get {r : Nat → Option Nat} {σ : DHeap} : ∀ {j : Nat} {σ2 : DHeap}, BlkL r σ j σ2 → ∀ {i : Nat} {b2 : DBlk}, σ2[i]? = some (some b2) → ∃ i' b, r (j + i) = some i' ∧ σ[i']? = some (some b) ∧ SubC r b2 b
  | j, [], _, i, _, h => by simp at h
  | j, none :: rest, hb, i, b2, h => by
    cases i with
    | zero => simp at h
    | succ i =>
      have := BlkL.get (σ2 := rest) hb (i := i) (by simpa using h)
      rw [show j + 1 + i = j + (i + 1) by omega] at this
      exact this
  | j, some c :: rest, hb, i, b2, h => by
    cases i with
    | zero =>
      obtain rfl : c = b2 := by simpa using h
      exact hb.1
    | succ i =>
      have := BlkL.get (σ2 := rest) hb.2 (i := i) (by simpa using h)
      rw [show j + 1 + i = j + (i + 1) by omega] at this
      exact this

/-- A state, forgotten in part, by the few temporaries. -/
structure WkP (m : Nat) (ids : List Nat) (ds : List DV) (σ : DHeap) (ds2 : List DV) (σ2 : DHeap) : Prop where
  tm : SubL (ren m ids) ds2 ds
  len : σ2.length = m + ids.length
  blk : BlkL (ren m ids) σ 0 σ2
  nd : (imgs (ren m ids) 0 σ2).Nodup
theorem WkP.wk {m n : Nat} {ids ps : List Nat} {τ ds2 : List DV} {σ σ2 : DHeap} (h : WkP m ids (pick ps τ) σ ds2 σ2) (hn : τ.length = n) : Wk (ren m ids) m τ σ (temps n ps ds2) σ2 := by
  refine ⟨subL_temps hn h.tm, fun j hj => if_pos hj, fun j i hj => ?_, by have := h.len; omega, fun i j bi bj hi hj e => imgs_inj (j := 0) h.nd hi hj (by simpa using e), fun j b2 hj => ?_⟩
  · unfold ren at hj
    have := h.len
    split at hj
    · omega
    · have := (List.getElem?_eq_some_iff.1 hj).1
      omega
  · obtain ⟨i, b, h1, h2, h3⟩ := h.blk.get hj
    rw [Nat.zero_add] at h1
    exact ⟨i, b, h1, h2, h3⟩

theorem subC_same {r : Nat → Option Nat} {k : Nat} {c : DC} (hg : c.good) (h : ∀ i f, i < c.n → f < k → Clo (c.get i f)) : SubC r ⟨k, c⟩ ⟨k, c⟩ := ⟨rfl, Nat.le_refl _, hg, fun i f hi hf => .of_clo (h i f hi hf)⟩
theorem subC_lst {r : Nat → Option Nat} {k : Nat} {l : List (List DV)} (h : ∀ x ∈ l, ∀ d ∈ x, Clo d) : SubC r ⟨k, .lst l⟩ ⟨k, .lst l⟩ := by
  refine subC_same trivial fun i f hi _ => ?_
  show Clo ((l.getD i []).getD f .any)
  have hx : l[i]? = some l[i] := List.getElem?_eq_getElem hi
  have hm := List.mem_of_getElem? hx
  rw [List.getD_eq_getElem?_getD (l := l), hx, Option.getD_some, List.getD_eq_getElem?_getD]
  cases hy : (l[i])[f]? with
  | none => exact .any
  | some d => exact h _ hm d (List.mem_of_getElem? hy)
theorem subC_to {r : Nat → Option Nat} {k : Nat} {c c2 : DC} (hn : c2.n ≤ c.n) (hg : c2.good) (h : ∀ i f, i < c2.n → f < k → Clo (c2.get i f) ∧ c.get i f = c2.get i f) : SubC r ⟨k, c2⟩ ⟨k, c⟩ := ⟨rfl, hn, hg, fun i f hi hf => by
  obtain ⟨h1, h2⟩ := h i f hi hf
  show Sub r (c2.get i f) (c.get i f)
  rw [h2]
  exact .of_clo h1⟩

/-- A loop, by an invariant over a few temporaries. -/
structure LInv (X : Type) where
  pre : X → Prop := fun _ => True
  m : Nat
  n : Nat
  ps : List Nat
  sd : X → List DV
  sh : X → DHeap
  meas : X → Nat
  e : X → Ex
  qs : List Nat
  od : X → List DV
  oh : X → DHeap
  guess : List DV → DHeap → Option X
  cps : X → (Ex → List DV → DHeap → Option Unit) → Option Unit
def LInv.st {X : Type} (I : LInv X) (x : X) : List DV × DHeap := (temps I.n I.ps (I.sd x), I.sh x)
def LInv.out {X : Type} (I : LInv X) (x : X) : Ex × List DV × DHeap := (I.e x, temps I.n I.qs (I.od x), I.oh x)
/-- What a round must come to. -/
def LInv.Q {X : Type} (I : LInv X) (x : X) (e : Ex) (n : Nat) (ds es : List DV) (σ : DHeap) : Prop :=
  n = I.n ∧ match e with
    | .normal => ∃ y, (I.e y = I.e x ∧ I.od y = I.od x ∧ I.oh y = I.oh x ∧ I.pre y) ∧ I.meas y < I.meas x ∧ ∃ ids, WkP I.m ids ds σ (I.sd y) (I.sh y)
    | e => e = I.e x ∧ ∃ ids, WkP I.m ids es σ (I.od x) (I.oh x)
noncomputable def LInv.ask {X : Type} (I : LInv X) (x : X) (e : Ex) (n : Nat) (ds es : List DV) (σ : DHeap) : Option Unit := bif holds (I.Q x e n ds es σ) then some () else none
theorem LInv.ask_of {X : Type} {I : LInv X} {x : X} {e : Ex} {n : Nat} {ds es : List DV} {σ : DHeap} (h : I.Q x e n ds es σ) : I.ask x e n ds es σ = some () := hT h rfl
/-- What is told of the loop. -/
noncomputable def LInv.g {X : Type} (I : LInv X) : LoopD Unit := fun τ σ k => match Nat.beq τ.length I.n, Nat.beq σ.length I.m with
  | true, true => match I.guess (pick I.ps τ) σ with
    | some x => bif holds (I.pre x ∧ ∃ ids, WkP I.m ids (pick I.ps τ) σ (I.sd x) (I.sh x)) then I.cps x (fun e ds σ => k e (temps I.n I.qs ds) σ) else none
    | none => none
  | _, _ => none
theorem LInv.ok {X : Type} {P : Program} {st : AE.Stat} {E : Env Unit} (I : LInv X) (hE : EnvOk P st E) (hgl : ∀ g, Clo (E.gl g)) {c : Code} {p : Nat}
    (hl : ∀ x ∈ loopsL p c, ∀ g, E.lp x.1 = some g → LoopS P st E.gl x.2 g)
    (cps : ∀ x k, I.cps x k = some () → k (I.e x) (I.od x) (I.oh x) = some ())
    (body : ∀ x, I.pre x → execD P E c p (temps I.n I.ps (I.sd x)) (I.sh x) (fun e τ σ => I.ask x e τ.length (pick I.ps τ) (pick I.qs τ) σ) = some ()) : LoopS P st E.gl (.loop c) I.g := by
  refine loopS_of (pre := I.pre) (m := I.m) (S := I.st) (out := I.out) (meas := I.meas) hE hgl hl (fun x hpx => ?_) fun τd σd k r hx => ?_
  · refine ⟨_, body x hpx, fun e τ σ hx => ?_⟩
    obtain ⟨hn, hq⟩ : I.Q x e τ.length (pick I.ps τ) (pick I.qs τ) σ := holds_eq.1 (bif_none hx).1
    cases e with
    | normal =>
      obtain ⟨y, ⟨h1, h2, h3, h5⟩, h4, ids, hw⟩ := hq
      exact ⟨y, h5, by simp only [LInv.out, h1, h2, h3], h4, _, hw.wk hn⟩
    | exit i =>
      obtain ⟨h1, ids, hw⟩ := hq
      exact ⟨h1, _, hw.wk hn⟩
    | ret =>
      obtain ⟨h1, ids, hw⟩ := hq
      exact ⟨h1, _, hw.wk hn⟩
  · unfold LInv.g at hx
    split at hx <;> first | (cases hx; done) | skip
    rename_i h1 h2
    have h1 := Nat.eq_of_beq_eq_true h1
    have h2 := Nat.eq_of_beq_eq_true h2
    split at hx <;> first | (cases hx; done) | skip
    rename_i x hf
    obtain ⟨hw, hx⟩ := bif_none hx
    obtain ⟨hpx, ids, hw⟩ := holds_eq.1 hw
    exact ⟨x, hpx, h2, ⟨_, hw.wk h1⟩, cps _ _ hx⟩

/-- A piece of code, by what it comes to. -/
def LInv.P {X : Type} (I : LInv X) (x : X) (e : Ex) (n : Nat) (es : List DV) (σ : DHeap) : Prop := n = I.n ∧ e = I.e x ∧ ∃ ids, WkP I.m ids es σ (I.od x) (I.oh x)
noncomputable def LInv.askP {X : Type} (I : LInv X) (x : X) (e : Ex) (n : Nat) (es : List DV) (σ : DHeap) : Option Unit := bif holds (I.P x e n es σ) then some () else none
theorem LInv.askP_of {X : Type} {I : LInv X} {x : X} {e : Ex} {n : Nat} {es : List DV} {σ : DHeap} (h : I.P x e n es σ) : I.askP x e n es σ = some () := hT h rfl
theorem LInv.okP {X : Type} {P : Program} {st : AE.Stat} {E : Env Unit} (I : LInv X) (hE : EnvOk P st E) (hgl : ∀ g, Clo (E.gl g)) {c : Code} {p : Nat}
    (hl : ∀ x ∈ loopsL p c, ∀ g, E.lp x.1 = some g → LoopS P st E.gl x.2 g) (cps : ∀ x k, I.cps x k = some () → k (I.e x) (I.od x) (I.oh x) = some ())
    (body : ∀ x, I.pre x → execD P E c p (temps I.n I.ps (I.sd x)) (I.sh x) (fun e τ σ => I.askP x e τ.length (pick I.qs τ) σ) = some ()) : LoopS P st E.gl c I.g := by
  refine pieceS_of (pre := I.pre) (m := I.m) (S := I.st) (out := I.out) hE hgl hl (fun x hpx => ?_) fun τd σd k r hx => ?_
  · refine ⟨_, body x hpx, fun e τ σ hx => ?_⟩
    obtain ⟨hn, he, ids, hw⟩ : I.P x e τ.length (pick I.qs τ) σ := holds_eq.1 (bif_none hx).1
    exact ⟨he, _, hw.wk hn⟩
  · unfold LInv.g at hx
    split at hx <;> first | (cases hx; done) | skip
    rename_i h1 h2
    have h1 := Nat.eq_of_beq_eq_true h1
    have h2 := Nat.eq_of_beq_eq_true h2
    split at hx <;> first | (cases hx; done) | skip
    rename_i x hf
    obtain ⟨hw, hx⟩ := bif_none hx
    obtain ⟨hpx, ids, hw⟩ := holds_eq.1 hw
    exact ⟨x, hpx, h2, ⟨_, hw.wk h1⟩, cps _ _ hx⟩

/-- Arguments, read anew. -/
inductive CvL : List DV → List DV → Prop
  | nil : CvL [] []
  | cons {a b : DV} {as bs : List DV} (h : ∀ C μ v, DR C μ a v → DR C μ b v) (t : CvL as bs) : CvL (a :: as) (b :: bs)
theorem CvL.drl {as bs : List DV} (h : CvL as bs) {C : Cf} {μ : Mu} : ∀ {vs : List Value}, DRL C μ as vs → DRL C μ bs vs := by
  induction h with
  | nil => intro vs hv; obtain rfl := hv.nil_inv; exact .nil _ _
  | cons h t ih => intro vs hv; obtain ⟨x, ys, rfl, h1, h2⟩ := hv.cons_inv; exact .cons (h _ _ _ h1) (ih h2)
theorem CvL.self {d : DV} {as bs : List DV} (t : CvL as bs) : CvL (d :: as) (d :: bs) := .cons (fun _ _ _ h => h) t
theorem lowR_flat {d : DV} (h : Low d) : LowR (d, []) := ⟨h, fun id blk hb => by simp at hb⟩

/-- A contract, its arguments read anew. -/
theorem con_of {P : Program} {st : AE.Stat} {gl : Gl} {f : FuncId} {fn : Func} {F : ConF} {l : List (FuncId × ConF)} {lp : Nat → Option (LoopD Unit)} {n : Nat} {mg : List (Nat × List (Nat × List Nat))} (hst : GlOk st gl) (hl : ∀ x ∈ l, ConOk P st x.1 x.2) (hf : P.funcs[f]? = some fn)
    (hn : (fn.name == "runtime.NumGoroutine") = false) (hb : fn.body.isNone = false) (hxt : ∀ a σ, st.ext f a σ = none) (hlp : ∀ x ∈ loopsOf fn, ∀ g, lp x.1 = some g → LoopS P st gl x.2 g)
    (h : ∀ args k, F args k = some () → ∃ args' R, CvL args args' ∧ k R = some () ∧ ∀ s, LowR (R s) ∧ bodyD P ⟨tblD l, fun _ => true, gl, lp, n, joins P gl mg⟩ fn args' [] (fin s (R s)) = some ()) : ConOk P st f F := by
  intro args k hk s C σ vs hS ha
  obtain ⟨args', R, hargs, hR, hs⟩ := h args k hk
  exact conOk_run (E := ⟨tblD l, fun _ => true, gl, lp, n, joins P gl mg⟩) (F := fun a k => bif holds (a = args') then k R else none) hf hn hb hxt hst (tblD_env hl) hlp (fun a k' hk' s' => by
    obtain ⟨h1, h2⟩ := bif_none hk'
    obtain rfl := holds_eq.1 h1
    exact ⟨fin s' (R s'), (hs s').2, fun d σ hd => ⟨R, h2, (hs s').1, fin_some hd⟩⟩) args' k (hT rfl hR) s C σ vs hS (hargs.drl ha)
def noLp : Nat → Option (LoopD Unit) := fun _ => none
/-- The same, for flat results. -/
noncomputable def isD (d0 d : DV) : Option Unit := bif holds (d = d0) then some () else none
theorem isD_of {d0 d : DV} (h : d = d0) : isD d0 d = some () := hT h rfl
theorem con_flat {P : Program} {st : AE.Stat} {gl : Gl} {f : FuncId} {fn : Func} {F : ConF} {l : List (FuncId × ConF)} {lp : Nat → Option (LoopD Unit)} {n : Nat} {mg : List (Nat × List (Nat × List Nat))} (hst : GlOk st gl) (hl : ∀ x ∈ l, ConOk P st x.1 x.2) (hf : P.funcs[f]? = some fn)
    (hn : (fn.name == "runtime.NumGoroutine") = false) (hb : fn.body.isNone = false) (hxt : ∀ a σ, st.ext f a σ = none) (hlp : ∀ x ∈ loopsOf fn, ∀ g, lp x.1 = some g → LoopS P st gl x.2 g)
    (h : ∀ args k, F args k = some () → ∃ args' d0, CvL args args' ∧ (Clo d0 ∧ Low d0) ∧ k (fun _ => (d0, [])) = some () ∧ bodyD P ⟨tblD l, fun _ => true, gl, lp, n, joins P gl mg⟩ fn args' [] (fun d _ => isD d0 d) = some ()) : ConOk P st f F := by
  intro args k hk s C σ vs hS ha
  obtain ⟨args', d0, hargs, ⟨hc, hlo⟩, hR, hbody⟩ := h args k hk
  exact conOk_run (E := ⟨tblD l, fun _ => true, gl, lp, n, joins P gl mg⟩) (F := fun a k => bif holds (a = args') then k (fun _ => (d0, [])) else none) hf hn hb hxt hst (tblD_env hl) hlp (fun a k' hk' s' => by
    obtain ⟨h1, h2⟩ := bif_none hk'
    obtain rfl := holds_eq.1 h1
    exact ⟨_, hbody, fun d σ hd => ⟨_, h2, lowR_flat hlo, finQ_flat hc (holds_eq.1 (bif_none hd).1)⟩⟩) args' k (hT rfl hR) s C σ vs hS (hargs.drl ha)
/-- The pieces at a path. -/
def pieces (fn : Func) (p : Nat) : List Code := ((loopsOf fn).filter fun x => Nat.beq x.1 p).map (·.2)
noncomputable def pieceOf (fn : Func) (p : Nat) : Code := (pieces fn p).getD 0 .skip
noncomputable def loopAt (fn : Func) (p : Nat) : Code := match pieceOf fn p with
  | .loop c => c
  | _ => .skip
/-- A table of what is told of loops, by their paths. -/
def lpOf : List (Nat × LoopD Unit) → Nat → Option (LoopD Unit)
  | [], _ => none
  | (p, g) :: r, q => match Nat.beq q p with
    | true => some g
    | false => lpOf r q
theorem pieces_mem {fn : Func} {p : Nat} {c : Code} (h : (p, c) ∈ loopsOf fn) : c ∈ pieces fn p := by
  unfold pieces
  rw [List.mem_map]
  exact ⟨(p, c), List.mem_filter.2 ⟨h, by simp⟩, rfl⟩
/-- What is told of several pieces. -/
theorem lp_table {P : Program} {st : AE.Stat} {gl : Gl} {fn : Func} : ∀ {t : List (Nat × LoopD Unit)}, (∀ e ∈ t, ∃ c, pieces fn e.1 = [c] ∧ LoopS P st gl c e.2) → ∀ x ∈ loopsOf fn, ∀ g, lpOf t x.1 = some g → LoopS P st gl x.2 g
  | [], _, x, _, g, hg => by cases hg
  | (p, g0) :: r, h, x, hx, g, hg => by
    unfold lpOf at hg
    split at hg
    · rename_i e
      have e := Nat.eq_of_beq_eq_true e
      obtain rfl := Option.some.inj hg
      obtain ⟨c, h1, h2⟩ := h (p, g0) (by simp)
      have hm := pieces_mem (fn := fn) (p := x.1) (c := x.2) hx
      rw [e, h1] at hm
      obtain rfl : x.2 = c := by simpa using hm
      exact h2
    · exact lp_table (fun e he => h e (by simp [he])) x hx g hg
theorem lp_one {P : Program} {st : AE.Stat} {gl : Gl} {fn : Func} {p : Nat} {g0 : LoopD Unit} {c : Code} (h : pieces fn p = [c]) (H : LoopS P st gl c g0) : ∀ x ∈ loopsOf fn, ∀ g, lpOf [(p, g0)] x.1 = some g → LoopS P st gl x.2 g :=
  lp_table fun e he => by
    obtain rfl : e = (p, g0) := by simpa using he
    exact ⟨c, h, H⟩
theorem WkP.of {m : Nat} {ids : List Nat} {ds ds2 : List DV} {σ σ2 : DHeap} {im : List (Option Nat)} (tm : SubL (ren m ids) ds2 ds) (len : σ2.length = m + ids.length) (blk : BlkL (ren m ids) σ 0 σ2) (e : imgs (ren m ids) 0 σ2 = im) (nd : im.Nodup) : WkP m ids ds σ ds2 σ2 := ⟨tm, len, blk, e ▸ nd⟩
end Go.DE
