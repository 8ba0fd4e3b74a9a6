/-
 The symbolic evaluator: an operation, a region in the order of the text.
 Conditions: the symbolic state stands for the evaluator's (Rl); the callees do what the symbolic evaluator was told of them (CallS).
-/
import Derived.Test.YtfdldnomelnbgaaGreatDoorDeEq
namespace Go.DE
open Go Go.AE

section
variable {α : Type} {st : AE.Stat} {C : Cf} {μ : Mu} {σ : Heap} {σd : DHeap} {P : Program} {r : α}

def flats (ev : Operand → DV) (op : Op) : Bool := op.operands.toList.all (fun x => flD (ev x)) && !isSelect op

def callOpD (P : Program) (call : CallD α) (ev : Operand → DV) (c : Go.Call) (σd : DHeap) (k : DV → DHeap → Option α) : Option α :=
 match c.callee with
 | .value f => match ev f with
  | .fn (.func g) a b => call g (a ++ c.args.toList.map ev ++ b) σd k
  | _ => none
 | .builtin .len => match c.argTypes[0]?, c.args[0]? with
  | some t, some x => match P.underlying t with
   | some (.slice _) => match ev x with
    | .sl _ _ _ n => k (.v (goInt n)) σd
    | .os _ _ n => k (.v (goInt n)) σd
    | _ => none
   | _ => none
  | _, _ => none
 | .builtin .append => match c.args[0]?, c.args[1]? with
  | some s, some x => appendD P σd c.argTypes (ev s) (ev x) k
  | _, _ => none
 | _ => none

def specD (P : Program) (call : CallD α) (ev : Operand → DV) (op : Op) (σd : DHeap) (k : DV → DHeap → Option α) : Option α :=
 match op with
 | .alloc e => match zeroD P e with
  | some cs => newD P σd e cs k
  | none => none
 | .box t x => match cellsD (ev x) with
  | some cs => newD P σd t cs k
  | none => none
 | .build t ps => nonflatK (ps.toList.map fun p => ev p.2) (match buildD P t (ps.toList.map fun p => (p.1, ev p.2)) with
  | some d => k d σd
  | none => none)
 | .buildSlice t n ps => buildSliceD P σd t n (ps.toList.map fun p => (p.1, ev p.2)) k
 | .load t a => loadD P σd t (ev a) fun d => k d σd
 | .store t a x => storeD P σd t (ev a) (ev x) fun σd' => k (.tup []) σd'
 | .nilCheck x => match ev x with
  | .po id i f => k (.po id i f) σd
  | .pf t g m n i f => k (.pf t g m n i f) σd
  | .fn (.func f) a b => k (.fn (.func f) a b) σd
  | _ => none
 | .binOp op t x y _ => nilTestD P op t (ev x) (ev y) fun d => k d σd
 | .makeFunc f a b => k (.fn f (a.toList.map ev) (b.toList.map ev)) σd
 | .makeSlice t l c => makeSliceD P σd t (ev l) (ev c) k
 | .slice t x lo hi mx => match mx with
  | none => sliceD P σd t (ev x) (lo.map ev) (hi.map ev) fun d => k d σd
  | some _ => none
 | .fieldAddr s x f => fieldAddrD P s (ev x) f fun d => k d σd
 | .field t x f => nonflatK [ev x] (match fieldD P t (ev x) f with
  | some d => k d σd
  | none => none)
 | .indexAddr t x ix => indexAddrD P σd t (ev x) (ev ix) fun d => k d σd
 | .extract x i => nonflatK [ev x] (match extractD (ev x) i with
  | some d => k d σd
  | none => none)
 | .call c => callOpD P call ev c σd k
 | .convert src dst x => convD P σd src dst (ev x) k
 | _ => none

def direct : Op → Bool
 | .alloc _ => true
 | .box _ _ => true
 | .buildSlice _ _ _ => true
 | .makeSlice _ _ _ => true
 | .load _ _ => true
 | .store _ _ _ => true
 | _ => false
def opD (P : Program) (call : CallD α) (ev : Operand → DV) (o : Oper) (σd : DHeap) (k : DV → DHeap → Option α) : Option α :=
 bif constsOk o.op then (match o.op with
  | .move x => k (ev x) σd
  | .assign x => k (ev x) σd
  | .pick c a b => match ev c with
   | .v (.bool t) => match ev a, ev b with
    | .v (.bool x), .v (.bool y) => k (.v (.bool (cond t x y))) σd
    | da, db => cond t (k da σd) (k db σd)
   | _ => none
  | op => match direct op with
   | true => specD P call ev op σd k
   | false => match eqO P ev op with
    | some b => k (.v (.bool b)) σd
    | none => match strO P ev op with
    | true => strD ev op fun d => k d σd
    | false => match flats ev op with
     | true => match peek P (execOp (fun x => valD (ev x)) o) with
      | some (.value v) => match flat v with
       | true => bif okV v then k (ofV v) σd else none
       | false => specD P call ev op σd k
      | _ => specD P call ev op σd k
     | false => specD P call ev op σd k) else none

section
variable {o : Oper} {ev : Operand → Value} {evd : Operand → DV} {call : CallD α} {k : DV → DHeap → Option α}

theorem map_DRL {l : List Operand} (hev : ∀ x ∈ l, DR C μ (evd x) (ev x)) : DRL C μ (l.map evd) (l.map ev) := by
 refine ⟨by simp, fun i d v hd hv => ?_⟩
 rw [List.getElem?_map, Option.map_eq_some_iff] at hd hv
 obtain ⟨x, hx, rfl⟩ := hd
 obtain ⟨y, hy, rfl⟩ := hv
 rw [hx] at hy
 obtain rfl := Option.some.inj hy
 exact hev x (List.mem_of_getElem? hx)
theorem mapO_DR {x : Option Operand} (hev : ∀ y ∈ x.toArray, DR C μ (evd y) (ev y)) : DRO C μ (x.map evd) (x.map ev) := by
 cases x with
 | none => trivial
 | some y => exact hev y (by simp)

theorem specD_sound {g : Bool} (hc : constsOk o.op = true) (h : St st C μ σ σd) (hev : ∀ x ∈ o.op.operands, DR C μ (evd x) (ev x)) (hcall : CallS g P st call)
  (hx : specD P call evd o.op σd k = some r) : OpRes g st C μ σ σd (fun n m => opA P st (runF P st n m) ev o σ) k r := by
 -- the evaluator's own rule
 have spec : ∀ {v σ' μ' d σd'}, peekA P ev o = none → (∀ n m, specA P st (runF P st n m) ev o.op σ = some (v, σ')) → St st C μ' σ' σd' → Nx C μ σ σd C μ' σ' σd' → DR C μ' d v → k d σd' = some r →
   OpRes g st C μ σ σd (fun n m => opA P st (runF P st n m) ev o σ) k r := by
  intro v σ' μ' d σd' hp hs h1 h2 h3 h4
  exact ⟨v, σ', C, μ', d, σd', .const fun n m => by rw [opA_none hc hp]; exact hs n m, h1, h2.one, h3, h4⟩
 have stay : ∀ {v d}, peekA P ev o = none → (∀ n m, specA P st (runF P st n m) ev o.op σ = some (v, σ)) → DR C μ d v → k d σd = some r →
   OpRes g st C μ σ σd (fun n m => opA P st (runF P st n m) ev o σ) k r := fun hp hs h3 h4 => spec hp hs h (.refl _ _ _ _) h3 h4
 cases hop : o.op
 all_goals (rw [hop] at hev hx)
 all_goals (first | (cases hx; done) | skip)
 case alloc e =>
  simp only [specD] at hx
  split at hx
  ·rename_i cs hz
   obtain ⟨z, e1, e2, e3⟩ := zeroD_some (C := C) (μ := μ) hz
   obtain ⟨μ', σd', g1, g2, g3, g4⟩ := newD_some h e2 hx
   refine spec (peekA_peek fun u hu => absurd hu (peek_alloc hop u)) (fun n m => ?_) g1 g2 g3 g4
   rw [hop]; simp only [specA, e1]; rfl
  ·cases hx
 case box t x =>
  simp only [specD] at hx
  split at hx
  ·rename_i cs hz
   obtain ⟨μ', σd', g1, g2, g3, g4⟩ := newD_some h (cellsD_some (hev x (by simp [Op.operands])) hz) hx
   refine spec (peekA_peek fun u hu => absurd hu (peek_box hop u)) (fun n m => ?_) g1 g2 g3 g4
   rw [hop]; simp only [specA]
  ·cases hx
 case build t ps =>
  simp only [specD] at hx
  obtain ⟨hx, hnf⟩ := nonflatK_some hx
  split at hx
  ·rename_i d hb
   have hps : DRL C μ (ps.toList.map fun p => evd p.2) (ps.toList.map fun p => ev p.2) := by
    have := map_DRL (l := ps.toList.map (·.2)) (C := C) (μ := μ) (ev := ev) (evd := evd) fun x hx' => hev x (by simpa [Op.operands] using hx')
    simpa [List.map_map, Function.comp_def] using this
   obtain ⟨u, hu, hfl⟩ := hnf _ hps
   obtain ⟨p, hp, rfl⟩ := List.mem_map.1 hu
   obtain ⟨v, hv, hr⟩ := buildD_some (ps := ps.toList.map fun p => (p.1, evd p.2)) (qs := ps.toList.map fun p => (p.1, ev p.2)) (by simp [List.map_map, Function.comp_def]) (by simpa [List.map_map, Function.comp_def] using hps) hb
   refine stay (peekA_nonflat (x := p.2) (by rw [hop]; simp only [Op.operands, List.mem_toArray, List.mem_map]; exact ⟨p, hp, rfl⟩) hfl) (fun n m => ?_) hr hx
   rw [hop]; simp only [specA, Array.toList_map, hv]; rfl
  ·cases hx
 case buildSlice t len ps =>
  simp only [specD] at hx
  have hps : DRL C μ (ps.toList.map fun p => evd p.2) (ps.toList.map fun p => ev p.2) := by
   have := map_DRL (l := ps.toList.map (·.2)) (C := C) (μ := μ) (ev := ev) (evd := evd) fun x hx' => hev x (by simpa [Op.operands] using hx')
   simpa [List.map_map, Function.comp_def] using this
  obtain ⟨v, σ', μ', d, σd', g0, g1, g2, g3, g4⟩ := buildSliceD_some (ps := ps.toList.map fun p => (p.1, evd p.2)) (qs := ps.toList.map fun p => (p.1, ev p.2)) h (by simp [List.map_map, Function.comp_def]) (by simpa [List.map_map, Function.comp_def] using hps) hx
  refine spec (peekA_peek fun u hu => absurd hu (peek_buildSlice hop u)) (fun n m => ?_) g1 g2 g3 g4
  rw [hop]; simp only [specA, Array.toList_map, g0]
 case load t a =>
  simp only [specD] at hx
  have ha := hev a (by simp [Op.operands])
  obtain ⟨ad, d, v, e1, e2, e3, e4⟩ := loadD_some h ha hx
  refine stay (peekA_nonflat (x := a) (by rw [hop]; simp [Op.operands]) (by rw [e1]; rfl)) (fun n m => ?_) e3 e4
  rw [hop]; simp only [specA, e1, e2]; rfl
 case store t a x =>
  simp only [specD] at hx
  obtain ⟨ad, σ', σd', e1, e2, e3, e4, e5⟩ := storeD_some h (hev a (by simp [Op.operands])) (hev x (by simp [Op.operands])) hx
  refine spec (peekA_nonflat (x := a) (by rw [hop]; simp [Op.operands]) (by rw [e1]; rfl)) (fun n m => ?_) e3 e4 (.tup [] #[] rfl fun i d x h => by simp at h) e5
  rw [hop]; simp only [specA, e1, e2]; rfl
 case nilCheck x =>
  simp only [specD] at hx
  have hd := hev x (by simp [Op.operands])
  split at hx <;> first | (cases hx; done) | skip
  ·rename_i e
   rw [e] at hd
   obtain ⟨b, m, L, e1, _⟩ := hd.po_inv
   refine stay (peekA_nonflat (x := x) (by rw [hop]; simp [Op.operands]) (by rw [e1]; rfl)) (fun n m => ?_) hd hx
   rw [hop]; simp only [specA, e1]
  ·rename_i e
   rw [e] at hd
   obtain ⟨a, w, e1, _⟩ := hd.pf_inv
   refine stay (peekA_nonflat (x := x) (by rw [hop]; simp [Op.operands]) (by rw [e1]; rfl)) (fun n m => ?_) hd hx
   rw [hop]; simp only [specA, e1]
  ·rename_i f a b e
   rw [e] at hd
   obtain ⟨xs, ys, e1⟩ : ∃ xs ys, ev x = .func (.func f) xs ys := by
    generalize ev x = u at hd
    cases hd
    exact ⟨_, _, rfl⟩
   refine stay (peekA_nonflat (x := x) (by rw [hop]; simp [Op.operands]) (by rw [e1]; rfl)) (fun n m => ?_) hd hx
   rw [hop]; simp only [specA, e1]
 case binOp op t x y yt =>
  simp only [specD] at hx
  obtain ⟨d, v, e1, e2, e3, e4⟩ := nilTestD_some (hev x (by simp [Op.operands])) (hev y (by simp [Op.operands])) hx
  refine stay ?_ (fun n m => ?_) e2 e4
  ·rcases e3 with e3 | e3
   ·exact peekA_nonflat (x := x) (by rw [hop]; simp [Op.operands]) e3
   ·exact peekA_nonflat (x := y) (by rw [hop]; simp [Op.operands]) e3
  ·rw [hop]; simp only [specA, e1]; rfl
 case makeFunc f a b =>
  simp only [specD] at hx
  have ha : DRL C μ (a.toList.map evd) (a.toList.map ev) := map_DRL fun x hx' => hev x (by simp only [Op.operands, Array.mem_append]; exact .inl (by simpa using hx'))
  have hb : DRL C μ (b.toList.map evd) (b.toList.map ev) := map_DRL fun x hx' => hev x (by simp only [Op.operands, Array.mem_append]; exact .inr (by simpa using hx'))
  refine stay (v := .func f (a.map ev) (b.map ev)) (peekA_peek fun u hu => ?_) (fun n m => ?_) (.fn f _ _ _ _ (by simp) (by simp) (fun i d x' hd hx' => ha.2 i d x' hd (by simpa using hx')) fun i d x' hd hx' => hb.2 i d x' hd (by simpa using hx')) hx
  ·have e : peek P (execOp ev o) = some (.value (.func f (a.map ev) (b.map ev))) := by
    unfold execOp
    rw [hop]
    rfl
   rw [e] at hu
   simp only [Option.some.injEq, Next.value.injEq] at hu
   rw [← hu]
   rfl
  ·rw [hop]; simp only [specA]
 case makeSlice t l c =>
  simp only [specD] at hx
  obtain ⟨v, σ', μ', d, σd', g0, g1, g2, g3, g4⟩ := makeSliceD_some h (hev l (by simp [Op.operands])) (hev c (by simp [Op.operands])) hx
  refine spec (peekA_peek fun u hu => absurd hu (peek_makeSlice hop u)) (fun n m => ?_) g1 g2 g3 g4
  rw [hop]; simp only [specA, g0]
 case slice t x lo hi mx =>
  cases mx with
  | some _ => simp [specD] at hx
  | none =>
   simp only [specD] at hx
   obtain ⟨d, v, e1, e2, e3, e4⟩ := sliceD_some (lov := lo.map ev) (hiv := hi.map ev) h (hev x (by simp [Op.operands])) (mapO_DR fun y hy => hev y (by simp only [Op.operands, Array.mem_append]; exact .inl (.inl (.inr hy))))
    (mapO_DR fun y hy => hev y (by simp only [Op.operands, Array.mem_append]; exact .inl (.inr hy))) hx
   refine stay (peekA_nonflat (x := x) (by rw [hop]; simp [Op.operands]) e3) (fun n m => ?_) e2 e4
   rw [hop]; simp only [specA, Option.map_none, e1]; rfl
 case fieldAddr s x f =>
  simp only [specD] at hx
  obtain ⟨d, v, e1, e2, e3, e4⟩ := fieldAddrD_some (hev x (by simp [Op.operands])) hx
  refine stay (peekA_nonflat (x := x) (by rw [hop]; simp [Op.operands]) e3) (fun n m => ?_) e2 e4
  rw [hop]; simp only [specA, e1]; rfl
 case field t x f =>
  simp only [specD] at hx
  obtain ⟨hx, hnf⟩ := nonflatK_some hx
  have hd := hev x (by simp [Op.operands])
  obtain ⟨u, hu, hfl⟩ := hnf _ (DRL.cons hd (.nil _ _))
  obtain rfl : u = ev x := by simpa using hu
  split at hx
  ·rename_i d hf
   obtain ⟨v, e1, e2⟩ := fieldD_some hd hf
   refine stay (peekA_nonflat (x := x) (by rw [hop]; simp [Op.operands]) hfl) (fun n m => ?_) e2 hx
   rw [hop]; simp only [specA, e1]; rfl
  ·cases hx
 case indexAddr t x ix =>
  simp only [specD] at hx
  obtain ⟨d, v, e1, e2, e3, e4⟩ := indexAddrD_some h (hev x (by simp [Op.operands])) (hev ix (by simp [Op.operands])) hx
  refine stay (peekA_nonflat (x := x) (by rw [hop]; simp [Op.operands]) e3) (fun n m => ?_) e2 e4
  rw [hop]; simp only [specA, e1]; rfl
 case extract x i =>
  simp only [specD] at hx
  obtain ⟨hx, hnf⟩ := nonflatK_some hx
  have hd := hev x (by simp [Op.operands])
  obtain ⟨u, hu, hfl⟩ := hnf _ (DRL.cons hd (.nil _ _))
  obtain rfl : u = ev x := by simpa using hu
  split at hx
  ·rename_i d hf
   unfold extractD at hf
   split at hf
   ·rename_i l e
    rw [e] at hd
    generalize hy : ev x = y at hd
    cases hd with
    | tup _ vs h1 h2 =>
     have hi : i < vs.size := by have := (List.getElem?_eq_some_iff.1 hf).1; omega
     refine stay (peekA_nonflat (x := x) (by rw [hop]; simp [Op.operands]) hfl) (fun n m => ?_) (h2 i d _ hf (Array.getElem?_eq_getElem hi)) hx
     rw [hop]; simp only [specA, hy, Array.getElem?_eq_getElem hi]; rfl
   ·cases hf
  ·cases hx
 case convert src dst x =>
  simp only [specD] at hx
  obtain ⟨⟨v, σ', μ', d, σd', g0, g1, g2, g3, g4⟩, hcv⟩ := convD_some h (hev x (by simp [Op.operands])) hx
  rcases hcv with ⟨e, s, h1, h2, h3, h4⟩ | hfl
  ·refine spec (peekA_peek fun u hu => ?_) (fun n m => ?_) g1 g2 g3 g4
   ·exfalso
    have : peek P (execOp ev o) = none := by
     unfold execOp
     rw [hop]
     simp only [h4]
     refine bind_left ?_
     unfold convert
     rcases h3 with h3 | h3
     all_goals
      simp only [peek_bind', peek_underlying h1, peek_underlying h2, peek_underlying h3]
      rfl
    rw [this] at hu
    cases hu
   ·rw [hop]; simp only [specA, g0]
  ·refine spec (peekA_nonflat (x := x) (by rw [hop]; simp [Op.operands]) hfl) (fun n m => ?_) g1 g2 g3 g4
   rw [hop]; simp only [specA, g0]
 case call c =>
  simp only [specD] at hx
  unfold callOpD at hx
  cases hcal : c.callee with
  | invoke _ _ => rw [hcal] at hx; cases hx
  | value f =>
   rw [hcal] at hx
   simp only at hx
   split at hx <;> first | (cases hx; done) | skip
   rename_i g a b e
   have hf := hev f (by simp only [Op.operands, Go.Call.operands, hcal, Array.mem_append]; exact .inl (by simp))
   rw [e] at hf
   have hargs : DRL C μ (c.args.toList.map evd) (c.args.toList.map ev) := map_DRL fun x hx' => hev x (by simp only [Op.operands, Go.Call.operands, Array.mem_append]; exact .inr (by simpa using hx'))
   generalize hy : ev f = y at hf
   cases hf with
   | fn _ _ _ x y h1 h2 h3 h4 =>
    have h3' : DRL C μ a x.toList := ⟨by simpa using h1, fun i d v hd hv => h3 i d v hd (by simpa using hv)⟩
    have h4' : DRL C μ b y.toList := ⟨by simpa using h2, fun i d v hd hv => h4 i d v hd (by simpa using hv)⟩
    obtain ⟨v, σ', C', μ', d, σd', ⟨N, hN⟩, q1, q2, q3, q4⟩ := hcall g _ σd k r hx C μ σ _ h ((h3'.append hargs).append h4')
    refine ⟨v, σ', C', μ', d, σd', ⟨N, fun n m hn hm => ?_⟩, q1, q2, q3, q4⟩
    have hp : peekA P ev o = none := peekA_nonflat (x := f) (by rw [hop]; simp only [Op.operands, Go.Call.operands, hcal, Array.mem_append]; exact .inl (by simp)) (by rw [hy]; rfl)
    show opA P st (runF P st n m) ev o σ = _
    rw [opA_none hc hp, hop]
    simp only [specA, callA, hcal, hy]
    have := hN n m hn hm
    simpa using this
  | builtin bi =>
   rw [hcal] at hx
   simp only at hx
   split at hx <;> first | (cases hx; done) | skip
   ·rename_i heq
    cases heq
   ·rename_i heq
    cases heq
    split at hx <;> first | (cases hx; done) | skip
    rename_i t x ht hxa
    split at hx <;> first | (cases hx; done) | skip
    rename_i e hu
    have hmem : x ∈ c.args := Array.mem_of_getElem? hxa
    have hd := hev x (by simp only [Op.operands, Go.Call.operands, Array.mem_append]; exact .inr hmem)
    have hxv : (c.args.map ev)[0]? = some (ev x) := by rw [Array.getElem?_map, hxa]; rfl
    have hmem' : x ∈ o.op.operands := by rw [hop]; simp only [Op.operands, Go.Call.operands, Array.mem_append]; exact .inr hmem
    split at hx <;> first | (cases hx; done) | skip
    ·rename_i tg g m n he
     rw [he] at hd
     rcases hd.sl_inv with ⟨a, cap, w, e1, _⟩ | ⟨h0, e1⟩
     ·refine stay (v := goInt n) (peekA_nonflat hmem' (by rw [e1]; rfl)) (fun n m => ?_) (.v _ rfl) hx
      rw [hop]; simp only [specA, callA, hcal, ht, hxv, e1, hu]
     ·subst h0
      have hpk2 := peek_len_nil (P := P) (ev := ev) hop hcal ht hu (by rw [hxv, e1])
      cases hpa : peekA P ev o with
      | none =>
       refine stay (v := goInt (0 : Nat)) hpa (fun n m => ?_) (.v _ rfl) hx
       rw [hop]; simp only [specA, callA, hcal, ht, hxv, e1, hu]
      | some u =>
       have hu' : u = goInt (0 : Nat) := by
        unfold peekA at hpa
        split at hpa
        ·rw [hpk2] at hpa
         simp only at hpa
         split at hpa
         ·exact (Option.some.inj hpa).symm
         ·cases hpa
        ·cases hpa
       subst hu'
       refine OpRes.same h (v := goInt (0 : Nat)) (fun n m => ?_) (.v _ rfl) hx
       unfold opA
       rw [if_pos hc, hpa]
    ·rename_i id i n he
     rw [he] at hd
     obtain ⟨b, m, L, off, cap, e1, _⟩ := hd.os_inv
     refine stay (v := goInt n) (peekA_nonflat hmem' (by rw [e1]; rfl)) (fun n m => ?_) (.v _ rfl) hx
     rw [hop]; simp only [specA, callA, hcal, ht, hxv, e1, hu]
   ·rename_i heq
    cases heq
    split at hx <;> first | (cases hx; done) | skip
    rename_i s x hs0 hx0
    have hds := hev s (by simp only [Op.operands, Go.Call.operands, Array.mem_append]; exact .inr (Array.mem_of_getElem? hs0))
    have hdx := hev x (by simp only [Op.operands, Go.Call.operands, Array.mem_append]; exact .inr (Array.mem_of_getElem? hx0))
    have hms : s ∈ o.op.operands := by rw [hop]; simp only [Op.operands, Go.Call.operands, Array.mem_append]; exact .inr (Array.mem_of_getElem? hs0)
    have hmx : x ∈ o.op.operands := by rw [hop]; simp only [Op.operands, Go.Call.operands, Array.mem_append]; exact .inr (Array.mem_of_getElem? hx0)
    have hsv : (c.args.map ev)[0]? = some (ev s) := by rw [Array.getElem?_map, hs0]; rfl
    have hxv : (c.args.map ev)[1]? = some (ev x) := by rw [Array.getElem?_map, hx0]; rfl
    obtain ⟨⟨v, σ', μ', d, σd', g0, g1, g2, g3, g4, g5⟩, sT, xT, e, e', i, t0, t1, u0, u1, hi, fs, fx⟩ := appendD_some h hds hdx hsv hxv hx
    cases hpa : peekA P ev o with
    | none =>
     refine spec hpa (fun n m => ?_) g1 g2 g3 g4
     rw [hop]; simp only [specA, callA, hcal, g0]
    | some u =>
     have hfl : flat (ev s) = true ∧ flat (ev x) = true := by
      unfold peekA at hpa
      split at hpa
      ·rename_i hall
       simp only [Bool.and_eq_true] at hall
       exact ⟨List.all_eq_true.1 hall.1 s (by simpa using hms), List.all_eq_true.1 hall.1 x (by simpa using hmx)⟩
      ·cases hpa
     have es := fs hfl.1
     have ex := fx hfl.2
     have hpk2 := peek_append_nil (P := P) (ev := ev) hop hcal t0 u0 t1 u1 rfl hi (by rw [hsv, es]) (by rw [hxv, ex])
     obtain ⟨rfl, rfl⟩ := g5 hfl.1 hfl.2
     have hu' : u = .slice none 0 0 := by
      unfold peekA at hpa
      split at hpa
      ·rw [hpk2] at hpa
       simp only at hpa
       split at hpa
       ·exact (Option.some.inj hpa).symm
       ·cases hpa
      ·cases hpa
     subst hu'
     refine ⟨_, _, C, μ', d, σd', .const fun n m => ?_, g1, g2.one, g3, g4⟩
     unfold opA
     rw [if_pos hc, hpa]

theorem opD_sound {g : Bool} (h : St st C μ σ σd) (hev : ∀ x ∈ o.op.operands, DR C μ (evd x) (ev x)) (hcall : CallS g P st call) (hx : opD P call evd o σd k = some r) : OpRes g st C μ σ σd (fun n m => opA P st (runF P st n m) ev o σ) k r := by
 obtain ⟨hc, hx⟩ := bif_none hx
 have other : (match direct o.op with
   | true => specD P call evd o.op σd k
   | false => match eqO P evd o.op with
   | some b => k (.v (.bool b)) σd
   | none => match strO P evd o.op with
   | true => strD evd o.op fun d => k d σd
   | false => match flats evd o.op with
   | true => match peek P (execOp (fun x => valD (evd x)) o) with
    | some (.value v) => match flat v with
     | true => bif okV v then k (ofV v) σd else none
     | false => specD P call evd o.op σd k
    | _ => specD P call evd o.op σd k
   | false => specD P call evd o.op σd k) = some r → OpRes g st C μ σ σd (fun n m => opA P st (runF P st n m) ev o σ) k r := by
  intro hx
  split at hx
  ·exact specD_sound hc h hev hcall hx
  split at hx
  ·rename_i b he
   obtain ⟨q1, q2, q3⟩ := eqO_some he
   have hval : ∀ x ∈ o.op.operands, ev x = valD (evd x) ∧ flat (ev x) = true := fun x hxm => flD_val (hev x hxm) (q1 x hxm)
   refine OpRes.same h (v := .bool b) (fun n m => ?_) (.v _ rfl) hx
   unfold opA
   rw [if_pos hc]
   have hp : peekA P ev o = some (.bool b) := by
    unfold peekA
    rw [if_pos, execOp_congr o (fun cs b hcs => by rw [hcs] at q2; simp [isSelect] at q2) (fun x hxm => (hval x hxm).1), q3 o rfl]
    ·rfl
    ·rw [Bool.and_eq_true]
     exact ⟨List.all_eq_true.2 fun x hxm => (hval x (by simpa using hxm)).2, by rw [q2]; rfl⟩
   rw [hp]
  split at hx
  ·rename_i hso
   obtain ⟨d, v, q1, q2, q3⟩ := strD_some (P := P) (st := st) (σ := σ) hc hev hso hx
   exact OpRes.same h q2 q1 q3
  split at hx
  ·rename_i hf
   have hf' := hf
   unfold flats at hf
   simp only [Bool.and_eq_true, Bool.not_eq_true'] at hf
   have hval : ∀ x ∈ o.op.operands, ev x = valD (evd x) ∧ flat (ev x) = true := fun x hxm => flD_val (hev x hxm) (List.all_eq_true.1 hf.1 x (by simpa using hxm))
   have hall : (o.op.operands.toList.all (fun x => flat (ev x)) && !isSelect o.op) = true := by
    rw [Bool.and_eq_true]
    exact ⟨List.all_eq_true.2 fun x hxm => (hval x (by simpa using hxm)).2, by rw [hf.2]; rfl⟩
   have hex : execOp ev o = execOp (fun x => valD (evd x)) o := execOp_congr o (fun cs b hcs => by rw [hcs] at hf; simp [isSelect] at hf) fun x hxm => (hval x hxm).1
   have hpeek : peekA P ev o = match peek P (execOp (fun x => valD (evd x)) o) with
     | some (.value v) => if flat v then some v else none
     | _ => none := by
    unfold peekA
    rw [if_pos hall, hex]
    rfl
   split at hx
   ·rename_i v hv
    rw [hv] at hpeek
    simp only at hpeek
    split at hx
    ·rename_i hfl
     rw [if_pos hfl] at hpeek
     obtain ⟨hok, hx⟩ := bif_none hx
     refine OpRes.same h (fun n m => ?_) (okV_DR hok) hx
     unfold opA
     rw [if_pos hc, hpeek]
    ·rename_i hfl
     rw [if_neg (by rw [hfl]; simp)] at hpeek
     exact specD_sound hc h hev hcall hx
   ·rename_i hne
    exact specD_sound hc h hev hcall hx
  ·rename_i hf
   exact specD_sound hc h hev hcall hx
 split at hx
 ·rename_i x hop
  exact OpRes.same h (fun n m => opA_move hc (.inl hop)) (hev x (by rw [hop]; simp [Op.operands])) hx
 ·rename_i x hop
  exact OpRes.same h (fun n m => opA_move hc (.inr hop)) (hev x (by rw [hop]; simp [Op.operands])) hx
 ·rename_i c a b hop
  have e1 := hev c (by rw [hop]; simp [Op.operands])
  have e2 := hev a (by rw [hop]; simp [Op.operands])
  have e3 := hev b (by rw [hop]; simp [Op.operands])
  have hpick := fun n m => opA_pick (P := P) (st := st) (call := runF P st n m) (ev := ev) (σ := σ) hop hc
  split at hx <;> first | (cases hx; done) | skip
  rename_i t ht
  rw [ht] at e1
  have hcv : ev c = .bool t := by
   generalize ev c = u at e1
   cases e1
   rfl
  simp only [hcv] at hpick
  split at hx
  ·rename_i x y hx' hy'
   rw [hx'] at e2
   rw [hy'] at e3
   have ha : ev a = .bool x := by generalize ev a = u at e2; cases e2; rfl
   have hb : ev b = .bool y := by generalize ev b = u at e3; cases e3; rfl
   refine OpRes.same h (v := .bool (cond t x y)) (fun n m => ?_) (.v _ rfl) hx
   show opA P st (runF P st n m) ev o σ = _
   rw [hpick n m, ha, hb]
   cases t <;> rfl
  ·cases t with
   | true => exact OpRes.same h (fun n m => hpick n m) e2 hx
   | false => exact OpRes.same h (fun n m => hpick n m) e3 hx
 ·exact other hx
end
end
end Go.DE
