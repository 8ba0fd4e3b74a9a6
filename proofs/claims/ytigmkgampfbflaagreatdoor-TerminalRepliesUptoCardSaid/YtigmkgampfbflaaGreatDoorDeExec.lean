/-
 The symbolic evaluator: an operation,a region in the order of the text.
 Conditions: see the theorems.
-/
import Derived.Test.YtigmkgampfbflaaGreatDoorDeEq
namespace Go.DE
open Go Go.AE
section
variable {α:Type}{st:AE.Stat}{C:Cf}{μ:Mu}{σ:Heap}{σd:DHeap}{P:Program}{r:α}
def flats (ev:Operand->DV) (op:Op):Bool:=op.operands.toList.all (fun x=>flD (ev x))&&!isSelect op
def callOpD (P:Program) (call:CallD α) (ev:Operand->DV) (c:Go.Call) (σd:DHeap) (k:DV->DHeap->Option α):Option α :=
 match c.callee with
 | .value f=>match ev f with
  | .fn (.func g) a b=>call g (a++c.args.toList.map ev++b) σd k
  | _=>none
 | .builtin .len=>match c.argTypes[0]?,c.args[0]? with
  | some t,some x=>match P.underlying t with
   | some (.slice _)=>match ev x with
    | .sl _ _ _ n=>k (.v (goInt n)) σd
    | .os _ _ n=>k (.v (goInt n)) σd
    | _=>none
   | _=>none
  | _,_=>none
 | .builtin .append=>match c.args[0]?,c.args[1]? with
  | some s,some x=>appendD P σd c.argTypes (ev s) (ev x) k
  | _,_=>none
 | .builtin .copy=>match c.args[0]?,c.args[1]? with
  | some s,some x=>copyD P σd c.argTypes (ev s) (ev x) k
  | _,_=>none
 | _=>none
def specD (P:Program) (call:CallD α) (ev:Operand->DV) (op:Op) (σd:DHeap) (k:DV->DHeap->Option α):Option α :=
 match op with
 | .alloc e=>match zeroD P e with
  | some cs=>newD P σd e cs k
  | none=>none
 | .box t x=>match cellsD (ev x) with
  | some cs=>newD P σd t cs k
  | none=>none
 | .build t ps=>nonflatK (ps.toList.map fun p=>ev p.2) (match buildD P t (ps.toList.map fun p=>(p.1,ev p.2)) with
  | some d=>k d σd
  | none=>none)
 | .buildSlice t n ps=>buildSliceD P σd t n (ps.toList.map fun p=>(p.1,ev p.2)) k
 | .load t a=>loadD P σd t (ev a) fun d=>k d σd
 | .store t a x=>storeD P σd t (ev a) (ev x) fun σd'=>k (.tup []) σd'
 | .nilCheck x=>match ev x with
  | .po id i f=>k (.po id i f) σd
  | .pf t g m n i f=>k (.pf t g m n i f) σd
  | .fn (.func f) a b=>k (.fn (.func f) a b) σd
  | _=>none
 | .binOp op t x y _=>nilTestD P op t (ev x) (ev y) fun d=>k d σd
 | .makeFunc f a b=>k (.fn f (a.toList.map ev) (b.toList.map ev)) σd
 | .makeSlice t l c=>makeSliceD P σd t (ev l) (ev c) k
 | .slice t x lo hi mx=>match mx with
  | none=>sliceD P σd t (ev x) (lo.map ev) (hi.map ev) fun d=>k d σd
  | some y=>match lo,hi with
   | none,some h=>sliceMD P σd t (ev x) (ev h) (ev y) fun d=>k d σd
   | _,_=>none
 | .fieldAddr s x f=>fieldAddrD P s (ev x) f fun d=>k d σd
 | .field t x f=>nonflatK [ev x] (match fieldD P t (ev x) f with
  | some d=>k d σd
  | none=>none)
 | .indexAddr t x ix=>indexAddrD P σd t (ev x) (ev ix) fun d=>k d σd
 | .extract x i=>nonflatK [ev x] (match extractD (ev x) i with
  | some d=>k d σd
  | none=>none)
 | .call c=>callOpD P call ev c σd k
 | .convert src dst x=>convD P σd src dst (ev x) k
 | _=>none
def direct:Op->Bool
 | .alloc _=>true
 | .box _ _=>true
 | .buildSlice _ _ _=>true
 | .makeSlice _ _ _=>true
 | .load _ _=>true
 | .store _ _ _=>true
 | _=>false
def opD (P:Program) (call:CallD α) (ev:Operand->DV) (o:Oper) (σd:DHeap) (k:DV->DHeap->Option α):Option α :=
 bif constsOk o.op then (match o.op with
  | .move x=>k (ev x) σd
  | .assign x=>k (ev x) σd
  | .pick c a b=>match ev c with
   | .v (.bool t)=>match ev a,ev b with
    | .v (.bool x),.v (.bool y)=>k (.v (.bool (cond t x y))) σd
    | da,db=>cond t (k da σd) (k db σd)
   | _=>none
  | op=>match direct op with
   | true=>specD P call ev op σd k
   | false=>match eqO P ev op with
    | some b=>k (.v (.bool b)) σd
    | none=>match strO P ev op with
    | true=>strD ev op fun d=>k d σd
    | false=>match flats ev op with
     | true=>match peek P (execOp (fun x=>valD (ev x)) o) with
      | some (.value v)=>match flat v with
       | true=>bif okV v then k (ofV v) σd else none
       | false=>specD P call ev op σd k
      | _=>specD P call ev op σd k
     | false=>specD P call ev op σd k) else none
section
variable {o:Oper}{ev:Operand->Value}{evd:Operand->DV}{call:CallD α}{k:DV->DHeap->Option α}
theorem map_DRL {l:List Operand}(hev:∀ x∈l,DR C μ (evd x) (ev x)):DRL C μ (l.map evd) (l.map ev):=by
 refine ⟨by simp,fun i d v hd hv=>?_⟩
 rw [List.getElem?_map,Option.map_eq_some_iff] at hd hv;obtain ⟨x,hx,rfl⟩:=hd;obtain ⟨y,hy,rfl⟩:=hv;rw [hx] at hy;obtain rfl:=Option.some.inj hy;exact hev x (List.mem_of_getElem? hx)
theorem mapO_DR {x:Option Operand}(hev:∀ y∈x.toArray,DR C μ (evd y) (ev y)):DRO C μ (x.map evd) (x.map ev):=by
 cases x with
 | none=>trivial
 | some y=>exact hev y (by simp)
theorem specD_sound {g:Bool}(hc:constsOk o.op=true) (h:St st C μ σ σd) (hev:∀ x∈o.op.operands,DR C μ (evd x) (ev x)) (hcall:CallS g P st call)
  (hx:specD P call evd o.op σd k=some r):OpRes g st C μ σ σd (fun n m=>opA P st (runF P st n m) ev o σ) k r:=by
 -- the evaluator's own rule
 have spec:∀ {v σ' μ' d σd'},peekA P ev o=none->(∀ n m,specA P st (runF P st n m) ev o.op σ=some (v,σ'))->St st C μ' σ' σd'->Nx C μ σ σd C μ' σ' σd'->DR C μ' d v->k d σd'=some r ->
   OpRes g st C μ σ σd (fun n m=>opA P st (runF P st n m) ev o σ) k r:=by
  intro v σ' μ' d σd' hp hs h1 h2 h3 h4
  exact ⟨v,σ',C,μ',d,σd',.const fun n m=>by rw [opA_none hc hp]; exact hs n m,h1,h2.one,h3,h4⟩
 have stay:∀ {v d},peekA P ev o=none->(∀ n m,specA P st (runF P st n m) ev o.op σ=some (v,σ))->DR C μ d v->k d σd=some r ->
   OpRes g st C μ σ σd (fun n m=>opA P st (runF P st n m) ev o σ) k r:=fun hp hs h3 h4=>spec hp hs h (.refl _ _ _ _) h3 h4
 cases hop:o.op
 all_goals (rw [hop] at hev hx)
 all_goals (first | (cases hx; done) | skip)
 case alloc e =>
  simp only [specD] at hx;split at hx
  ·rename_i cs hz;obtain ⟨z,e1,e2,e3⟩:=zeroD_some (C:=C) (μ:=μ) hz;obtain ⟨μ',σd',g1,g2,g3,g4⟩:=newD_some h e2 hx
   refine spec (peekA_peek fun u hu=>absurd hu (peek_alloc hop u)) (fun n m=>?_) g1 g2 g3 g4
   rw [hop]; simp only [specA,e1]; rfl
  ·cases hx
 case box t x =>
  simp only [specD] at hx;split at hx
  ·rename_i cs hz
   obtain ⟨μ',σd',g1,g2,g3,g4⟩:=newD_some h (cellsD_some (hev x (by simp [Op.operands])) hz) hx
   refine spec (peekA_peek fun u hu=>absurd hu (peek_box hop u)) (fun n m=>?_) g1 g2 g3 g4
   rw [hop]; simp only [specA]
  ·cases hx
 case build t ps =>
  simp only [specD] at hx;obtain ⟨hx,hnf⟩:=nonflatK_some hx;split at hx
  ·rename_i d hb
   have hps:DRL C μ (ps.toList.map fun p=>evd p.2) (ps.toList.map fun p=>ev p.2):=by
    have:=map_DRL (l:=ps.toList.map (·.2)) (C:=C) (μ:=μ) (ev:=ev) (evd:=evd) fun x hx'=>hev x (by simpa [Op.operands] using hx')
    simpa [List.map_map,Function.comp_def] using this
   obtain ⟨u,hu,hfl⟩:=hnf _ hps;obtain ⟨p,hp,rfl⟩:=List.mem_map.1 hu
   obtain ⟨v,hv,hr⟩:=buildD_some (ps:=ps.toList.map fun p=>(p.1,evd p.2)) (qs:=ps.toList.map fun p=>(p.1,ev p.2)) (by simp [List.map_map,Function.comp_def]) (by simpa [List.map_map,Function.comp_def] using hps) hb
   refine stay (peekA_nonflat (x:=p.2) (by rw [hop]; simp only [Op.operands,List.mem_toArray,List.mem_map]; exact ⟨p,hp,rfl⟩) hfl) (fun n m=>?_) hr hx
   rw [hop]; simp only [specA,Array.toList_map,hv]; rfl
  ·cases hx
 case buildSlice t len ps =>
  simp only [specD] at hx
  have hps:DRL C μ (ps.toList.map fun p=>evd p.2) (ps.toList.map fun p=>ev p.2):=by
   have:=map_DRL (l:=ps.toList.map (·.2)) (C:=C) (μ:=μ) (ev:=ev) (evd:=evd) fun x hx'=>hev x (by simpa [Op.operands] using hx')
   simpa [List.map_map,Function.comp_def] using this
  obtain ⟨v,σ',μ',d,σd',g0,g1,g2,g3,g4⟩:=buildSliceD_some (ps:=ps.toList.map fun p=>(p.1,evd p.2)) (qs:=ps.toList.map fun p=>(p.1,ev p.2)) h (by simp [List.map_map,Function.comp_def]) (by simpa [List.map_map,Function.comp_def] using hps) hx
  refine spec (peekA_peek fun u hu=>absurd hu (peek_buildSlice hop u)) (fun n m=>?_) g1 g2 g3 g4
  rw [hop]; simp only [specA,Array.toList_map,g0]
 case load t a =>
  simp only [specD] at hx
  have ha:=hev a (by simp [Op.operands])
  obtain ⟨ad,d,v,e1,e2,e3,e4⟩:=loadD_some h ha hx
  refine stay (peekA_nonflat (x:=a) (by rw [hop]; simp [Op.operands]) (by rw [e1]; rfl)) (fun n m=>?_) e3 e4
  rw [hop]; simp only [specA,e1,e2]; rfl
 case store t a x =>
  simp only [specD] at hx
  obtain ⟨ad,σ',σd',e1,e2,e3,e4,e5⟩:=storeD_some h (hev a (by simp [Op.operands])) (hev x (by simp [Op.operands])) hx
  refine spec (peekA_nonflat (x:=a) (by rw [hop]; simp [Op.operands]) (by rw [e1]; rfl)) (fun n m=>?_) e3 e4 (.tup [] #[] rfl fun i d x h=>by simp at h) e5
  rw [hop]; simp only [specA,e1,e2]; rfl
 case nilCheck x =>
  simp only [specD] at hx
  have hd:=hev x (by simp [Op.operands])
  split at hx<;>first | (cases hx; done) | skip
  ·rename_i e;rw [e] at hd;obtain ⟨b,m,L,e1,_⟩:=hd.po_inv
   refine stay (peekA_nonflat (x:=x) (by rw [hop]; simp [Op.operands]) (by rw [e1]; rfl)) (fun n m=>?_) hd hx
   rw [hop]; simp only [specA,e1]
  ·rename_i e;rw [e] at hd;obtain ⟨a,w,e1,_⟩:=hd.pf_inv
   refine stay (peekA_nonflat (x:=x) (by rw [hop]; simp [Op.operands]) (by rw [e1]; rfl)) (fun n m=>?_) hd hx
   rw [hop]; simp only [specA,e1]
  ·rename_i f a b e;rw [e] at hd
   obtain ⟨xs,ys,e1⟩:∃ xs ys,ev x=.func (.func f) xs ys:=by
    generalize ev x=u at hd;cases hd;exact ⟨_,_,rfl⟩
   refine stay (peekA_nonflat (x:=x) (by rw [hop]; simp [Op.operands]) (by rw [e1]; rfl)) (fun n m=>?_) hd hx
   rw [hop]; simp only [specA,e1]
 case binOp op t x y yt =>
  simp only [specD] at hx
  obtain ⟨d,v,e1,e2,e3,e4⟩:=nilTestD_some (hev x (by simp [Op.operands])) (hev y (by simp [Op.operands])) hx
  refine stay ?_ (fun n m=>?_) e2 e4
  ·rcases e3 with e3 | e3
   ·exact peekA_nonflat (x:=x) (by rw [hop]; simp [Op.operands]) e3
   ·exact peekA_nonflat (x:=y) (by rw [hop]; simp [Op.operands]) e3
  ·rw [hop]; simp only [specA,e1]; rfl
 case makeFunc f a b =>
  simp only [specD] at hx
  have ha:DRL C μ (a.toList.map evd) (a.toList.map ev):=map_DRL fun x hx'=>hev x (by simp only [Op.operands,Array.mem_append]; exact .inl (by simpa using hx'))
  have hb:DRL C μ (b.toList.map evd) (b.toList.map ev):=map_DRL fun x hx'=>hev x (by simp only [Op.operands,Array.mem_append]; exact .inr (by simpa using hx'))
  refine stay (v:=.func f (a.map ev) (b.map ev)) (peekA_peek fun u hu=>?_) (fun n m=>?_) (.fn f _ _ _ _ (by simp) (by simp) (fun i d x' hd hx'=>ha.2 i d x' hd (by simpa using hx')) fun i d x' hd hx'=>hb.2 i d x' hd (by simpa using hx')) hx
  ·have e:peek P (execOp ev o)=some (.value (.func f (a.map ev) (b.map ev))):=by
    unfold execOp;rw [hop];rfl
   rw [e] at hu;simp only [Option.some.injEq,Next.value.injEq] at hu;rw [<- hu];rfl
  ·rw [hop]; simp only [specA]
 case makeSlice t l c =>
  simp only [specD] at hx
  obtain ⟨v,σ',μ',d,σd',g0,g1,g2,g3,g4⟩:=makeSliceD_some h (hev l (by simp [Op.operands])) (hev c (by simp [Op.operands])) hx
  refine spec (peekA_peek fun u hu=>absurd hu (peek_makeSlice hop u)) (fun n m=>?_) g1 g2 g3 g4
  rw [hop]; simp only [specA,g0]
 case slice t x lo hi mx =>
  cases mx with
  | some y =>
   cases lo with
   | some _=>simp [specD] at hx
   | none =>
    cases hi with
    | none=>simp [specD] at hx
    | some z =>
     simp only [specD] at hx
     obtain ⟨d,v,e1,e2,e3,e4⟩:=sliceMD_some h (hev x (by simp [Op.operands])) (hev z (by simp [Op.operands])) (hev y (by simp [Op.operands])) hx
     refine stay (peekA_nonflat (x:=x) (by rw [hop]; simp [Op.operands]) e3) (fun n m=>?_) e2 e4
     rw [hop]; simp only [specA,Option.map_none,Option.map_some,e1]
  | none =>
   simp only [specD] at hx
   obtain ⟨d,v,e1,e2,e3,e4⟩:=sliceD_some (lov:=lo.map ev) (hiv:=hi.map ev) h (hev x (by simp [Op.operands])) (mapO_DR fun y hy=>hev y (by simp only [Op.operands,Array.mem_append]; exact .inl (.inl (.inr hy))))
    (mapO_DR fun y hy=>hev y (by simp only [Op.operands,Array.mem_append]; exact .inl (.inr hy))) hx
   refine stay (peekA_nonflat (x:=x) (by rw [hop]; simp [Op.operands]) e3) (fun n m=>?_) e2 e4
   rw [hop]; simp only [specA,Option.map_none,e1]; rfl
 case fieldAddr s x f =>
  simp only [specD] at hx
  obtain ⟨d,v,e1,e2,e3,e4⟩:=fieldAddrD_some (hev x (by simp [Op.operands])) hx
  refine stay (peekA_nonflat (x:=x) (by rw [hop]; simp [Op.operands]) e3) (fun n m=>?_) e2 e4
  rw [hop]; simp only [specA,e1]; rfl
 case field t x f =>
  simp only [specD] at hx;obtain ⟨hx,hnf⟩:=nonflatK_some hx
  have hd:=hev x (by simp [Op.operands])
  obtain ⟨u,hu,hfl⟩:=hnf _ (DRL.cons hd (.nil _ _))
  obtain rfl:u=ev x:=by simpa using hu
  split at hx
  ·rename_i d hf;obtain ⟨v,e1,e2⟩:=fieldD_some hd hf
   refine stay (peekA_nonflat (x:=x) (by rw [hop]; simp [Op.operands]) hfl) (fun n m=>?_) e2 hx
   rw [hop]; simp only [specA,e1]; rfl
  ·cases hx
 case indexAddr t x ix =>
  simp only [specD] at hx
  obtain ⟨d,v,e1,e2,e3,e4⟩:=indexAddrD_some h (hev x (by simp [Op.operands])) (hev ix (by simp [Op.operands])) hx
  refine stay (peekA_nonflat (x:=x) (by rw [hop]; simp [Op.operands]) e3) (fun n m=>?_) e2 e4
  rw [hop]; simp only [specA,e1]; rfl
 case extract x i =>
  simp only [specD] at hx;obtain ⟨hx,hnf⟩:=nonflatK_some hx
  have hd:=hev x (by simp [Op.operands])
  obtain ⟨u,hu,hfl⟩:=hnf _ (DRL.cons hd (.nil _ _))
  obtain rfl:u=ev x:=by simpa using hu
  split at hx
  ·rename_i d hf;unfold extractD at hf;split at hf
   ·rename_i l e;rw [e] at hd;generalize hy:ev x=y at hd
    cases hd with
    | tup _ vs h1 h2 =>
     have hi:i<vs.size:=by have:=(List.getElem?_eq_some_iff.1 hf).1; omega
     refine stay (peekA_nonflat (x:=x) (by rw [hop]; simp [Op.operands]) hfl) (fun n m=>?_) (h2 i d _ hf (Array.getElem?_eq_getElem hi)) hx
     rw [hop]; simp only [specA,hy,Array.getElem?_eq_getElem hi]; rfl
   ·cases hf
  ·cases hx
 case convert src dst x =>
  simp only [specD] at hx
  obtain ⟨⟨v,σ',μ',d,σd',g0,g1,g2,g3,g4⟩,hcv⟩:=convD_some h (hev x (by simp [Op.operands])) hx
  rcases hcv with ⟨e,s,h1,h2,h3,h4⟩ | hfl
  ·refine spec (peekA_peek fun u hu=>?_) (fun n m=>?_) g1 g2 g3 g4
   ·exfalso
    have:peek P (execOp ev o)=none:=by
     unfold execOp;rw [hop];simp only [h4];refine bind_left ?_;unfold convert
     rcases h3 with h3 | h3
     all_goals
      simp only [peek_bind',peek_underlying h1,peek_underlying h2,peek_underlying h3];rfl
    rw [this] at hu;cases hu
   ·rw [hop]; simp only [specA,g0]
  ·refine spec (peekA_nonflat (x:=x) (by rw [hop]; simp [Op.operands]) hfl) (fun n m=>?_) g1 g2 g3 g4
   rw [hop]; simp only [specA,g0]
 case call c =>
  simp only [specD] at hx;unfold callOpD at hx
  cases hcal:c.callee with
  | invoke _ _=>rw [hcal] at hx; cases hx
  | value f =>
   rw [hcal] at hx;simp only at hx
   split at hx<;>first | (cases hx; done) | skip
   rename_i g a b e
   have hf:=hev f (by simp only [Op.operands,Go.Call.operands,hcal,Array.mem_append]; exact .inl (by simp))
   rw [e] at hf
   have hargs:DRL C μ (c.args.toList.map evd) (c.args.toList.map ev):=map_DRL fun x hx'=>hev x (by simp only [Op.operands,Go.Call.operands,Array.mem_append]; exact .inr (by simpa using hx'))
   generalize hy:ev f=y at hf
   cases hf with
   | fn _ _ _ x y h1 h2 h3 h4 =>
    have h3':DRL C μ a x.toList:=⟨by simpa using h1,fun i d v hd hv=>h3 i d v hd (by simpa using hv)⟩
    have h4':DRL C μ b y.toList:=⟨by simpa using h2,fun i d v hd hv=>h4 i d v hd (by simpa using hv)⟩
    obtain ⟨v,σ',C',μ',d,σd',⟨N,hN⟩,q1,q2,q3,q4⟩:=hcall g _ σd k r hx C μ σ _ h ((h3'.append hargs).append h4')
    refine ⟨v,σ',C',μ',d,σd',⟨N,fun n m hn hm=>?_⟩,q1,q2,q3,q4⟩
    have hp:peekA P ev o=none:=peekA_nonflat (x:=f) (by rw [hop]; simp only [Op.operands,Go.Call.operands,hcal,Array.mem_append]; exact .inl (by simp)) (by rw [hy]; rfl)
    show opA P st (runF P st n m) ev o σ=_;rw [opA_none hc hp,hop];simp only [specA,callA,hcal,hy];have:=hN n m hn hm
    simpa using this
  | builtin bi =>
   rw [hcal] at hx;simp only at hx
   split at hx<;>first | (cases hx; done) | skip
   ·rename_i heq;cases heq
   ·rename_i heq;cases heq
    split at hx<;>first | (cases hx; done) | skip
    rename_i t x ht hxa
    split at hx<;>first | (cases hx; done) | skip
    rename_i e hu;have hmem:x∈c.args:=Array.mem_of_getElem? hxa
    have hd:=hev x (by simp only [Op.operands,Go.Call.operands,Array.mem_append]; exact .inr hmem)
    have hxv:(c.args.map ev)[0]?=some (ev x):=by rw [Array.getElem?_map,hxa]; rfl
    have hmem':x∈o.op.operands:=by rw [hop]; simp only [Op.operands,Go.Call.operands,Array.mem_append]; exact .inr hmem
    split at hx<;>first | (cases hx; done) | skip
    ·rename_i tg g m n he;rw [he] at hd
     rcases hd.sl_inv with ⟨a,cap,w,e1,_⟩ | ⟨h0,e1⟩
     ·refine stay (v:=goInt n) (peekA_nonflat hmem' (by rw [e1]; rfl)) (fun n m=>?_) (.v _ rfl) hx
      rw [hop]; simp only [specA,callA,hcal,ht,hxv,e1,hu]
     ·subst h0
      have hpk2:=peek_len_nil (P:=P) (ev:=ev) hop hcal ht hu (by rw [hxv,e1])
      cases hpa:peekA P ev o with
      | none =>
       refine stay (v:=goInt (0:Nat)) hpa (fun n m=>?_) (.v _ rfl) hx
       rw [hop]; simp only [specA,callA,hcal,ht,hxv,e1,hu]
      | some u =>
       have hu':u=goInt (0:Nat):=by
        unfold peekA at hpa;split at hpa
        ·rw [hpk2] at hpa;simp only at hpa;split at hpa
         ·exact (Option.some.inj hpa).symm
         ·cases hpa
        ·cases hpa
       subst hu'
       refine OpRes.same h (v:=goInt (0:Nat)) (fun n m=>?_) (.v _ rfl) hx
       unfold opA;rw [if_pos hc,hpa]
    ·rename_i id i n he;rw [he] at hd;obtain ⟨b,m,L,off,cap,e1,_⟩:=hd.os_inv
     refine stay (v:=goInt n) (peekA_nonflat hmem' (by rw [e1]; rfl)) (fun n m=>?_) (.v _ rfl) hx
     rw [hop]; simp only [specA,callA,hcal,ht,hxv,e1,hu]
   ·rename_i heq;cases heq
    split at hx<;>first | (cases hx; done) | skip
    rename_i s x hs0 hx0
    have hds:=hev s (by simp only [Op.operands,Go.Call.operands,Array.mem_append]; exact .inr (Array.mem_of_getElem? hs0))
    have hdx:=hev x (by simp only [Op.operands,Go.Call.operands,Array.mem_append]; exact .inr (Array.mem_of_getElem? hx0))
    have hms:s∈o.op.operands:=by rw [hop]; simp only [Op.operands,Go.Call.operands,Array.mem_append]; exact .inr (Array.mem_of_getElem? hs0)
    have hmx:x∈o.op.operands:=by rw [hop]; simp only [Op.operands,Go.Call.operands,Array.mem_append]; exact .inr (Array.mem_of_getElem? hx0)
    have hsv:(c.args.map ev)[0]?=some (ev s):=by rw [Array.getElem?_map,hs0]; rfl
    have hxv:(c.args.map ev)[1]?=some (ev x):=by rw [Array.getElem?_map,hx0]; rfl
    obtain ⟨⟨v,σ',μ',d,σd',g0,g1,g2,g3,g4,g5⟩,gf⟩:=appendD_some h hds hdx hsv hxv hx
    cases hpa:peekA P ev o with
    | none =>
     refine spec hpa (fun n m=>?_) g1 g2 g3 g4
     rw [hop]; simp only [specA,callA,hcal,g0]
    | some u =>
     have hfl:flat (ev s)=true/\flat (ev x)=true:=by
      unfold peekA at hpa;split at hpa
      ·rename_i hall;simp only [Bool.and_eq_true] at hall
       exact ⟨List.all_eq_true.1 hall.1 s (by simpa using hms),List.all_eq_true.1 hall.1 x (by simpa using hmx)⟩
      ·cases hpa
     rcases gf hfl.1 hfl.2 with ⟨sT,xT,e,e',i,t0,t1,u0,u1,hi,es,ex⟩ | ⟨sT,xT,e,i,q,t0,t1,u0,u1,hi,es,ex,hq⟩
     case inr =>
      exfalso
      unfold peekA at hpa;split at hpa
      ·split at hpa
       ·rename_i u2 hu2
        exact peek_append_str (P:=P) (ev:=ev) hop hcal t0 u0 t1 u1 hi (by rw [hsv,es]) (by rw [hxv,ex]) hq u2 hu2
       ·cases hpa
      ·cases hpa
     have hpk2:=peek_append_nil (P:=P) (ev:=ev) hop hcal t0 u0 t1 u1 rfl hi (by rw [hsv,es]) (by rw [hxv,ex])
     obtain ⟨rfl,rfl⟩:=g5 es ex
     have hu':u=.slice none 0 0:=by
      unfold peekA at hpa;split at hpa
      ·rw [hpk2] at hpa;simp only at hpa;split at hpa
       ·exact (Option.some.inj hpa).symm
       ·cases hpa
      ·cases hpa
     subst hu'
     refine ⟨_,_,C,μ',d,σd',.const fun n m=>?_,g1,g2.one,g3,g4⟩
     unfold opA;rw [if_pos hc,hpa]
   ·rename_i heq;cases heq
    split at hx<;>first | (cases hx; done) | skip
    rename_i s x hs0 hx0
    have hds:=hev s (by simp only [Op.operands,Go.Call.operands,Array.mem_append]; exact .inr (Array.mem_of_getElem? hs0))
    have hdx:=hev x (by simp only [Op.operands,Go.Call.operands,Array.mem_append]; exact .inr (Array.mem_of_getElem? hx0))
    have hms:s∈o.op.operands:=by rw [hop]; simp only [Op.operands,Go.Call.operands,Array.mem_append]; exact .inr (Array.mem_of_getElem? hs0)
    have hsv:(c.args.map ev)[0]?=some (ev s):=by rw [Array.getElem?_map,hs0]; rfl
    have hxv:(c.args.map ev)[1]?=some (ev x):=by rw [Array.getElem?_map,hx0]; rfl
    obtain ⟨n,σ',σd',g0,g1,g2,g3,g4⟩:=copyD_some h hds hdx hsv hxv hx
    refine spec (peekA_nonflat hms g4) (fun n m=>?_) g1 g2 (.v _ rfl) g3
    rw [hop]; simp only [specA,callA,hcal,g0]
theorem opD_sound {g:Bool}(h:St st C μ σ σd) (hev:∀ x∈o.op.operands,DR C μ (evd x) (ev x)) (hcall:CallS g P st call) (hx:opD P call evd o σd k=some r):OpRes g st C μ σ σd (fun n m=>opA P st (runF P st n m) ev o σ) k r:=by
 obtain ⟨hc,hx⟩:=bif_none hx
 have other:(match direct o.op with
   | true=>specD P call evd o.op σd k
   | false=>match eqO P evd o.op with
   | some b=>k (.v (.bool b)) σd
   | none=>match strO P evd o.op with
   | true=>strD evd o.op fun d=>k d σd
   | false=>match flats evd o.op with
   | true=>match peek P (execOp (fun x=>valD (evd x)) o) with
    | some (.value v)=>match flat v with
     | true=>bif okV v then k (ofV v) σd else none
     | false=>specD P call evd o.op σd k
    | _=>specD P call evd o.op σd k
   | false=>specD P call evd o.op σd k)=some r->OpRes g st C μ σ σd (fun n m=>opA P st (runF P st n m) ev o σ) k r:=by
  intro hx;split at hx
  ·exact specD_sound hc h hev hcall hx
  split at hx
  ·rename_i b he;obtain ⟨q1,q2,q3⟩:=eqO_some he
   have hval:∀ x∈o.op.operands,ev x=valD (evd x)/\flat (ev x)=true:=fun x hxm=>flD_val (hev x hxm) (q1 x hxm)
   refine OpRes.same h (v:=.bool b) (fun n m=>?_) (.v _ rfl) hx
   unfold opA;rw [if_pos hc]
   have hp:peekA P ev o=some (.bool b):=by
    unfold peekA
    rw [if_pos,execOp_congr o (fun cs b hcs=>by rw [hcs] at q2; simp [isSelect] at q2) (fun x hxm=>(hval x hxm).1),q3 o rfl]
    ·rfl
    ·rw [Bool.and_eq_true]
     exact ⟨List.all_eq_true.2 fun x hxm=>(hval x (by simpa using hxm)).2,by rw [q2]; rfl⟩
   rw [hp]
  split at hx
  ·rename_i hso;obtain ⟨d,v,q1,q2,q3⟩:=strD_some (P:=P) (st:=st) (σ:=σ) hc hev hso hx;exact OpRes.same h q2 q1 q3
  split at hx
  ·rename_i hf;have hf':=hf;unfold flats at hf;simp only [Bool.and_eq_true,Bool.not_eq_true'] at hf
   have hval:∀ x∈o.op.operands,ev x=valD (evd x)/\flat (ev x)=true:=fun x hxm=>flD_val (hev x hxm) (List.all_eq_true.1 hf.1 x (by simpa using hxm))
   have hall:(o.op.operands.toList.all (fun x=>flat (ev x))&&!isSelect o.op)=true:=by
    rw [Bool.and_eq_true]
    exact ⟨List.all_eq_true.2 fun x hxm=>(hval x (by simpa using hxm)).2,by rw [hf.2]; rfl⟩
   have hex:execOp ev o=execOp (fun x=>valD (evd x)) o:=execOp_congr o (fun cs b hcs=>by rw [hcs] at hf; simp [isSelect] at hf) fun x hxm=>(hval x hxm).1
   have hpeek:peekA P ev o=match peek P (execOp (fun x=>valD (evd x)) o) with
     | some (.value v)=>if flat v then some v else none
     | _=>none:=by
    unfold peekA;rw [if_pos hall,hex];rfl
   split at hx
   ·rename_i v hv;rw [hv] at hpeek;simp only at hpeek;split at hx
    ·rename_i hfl;rw [if_pos hfl] at hpeek;obtain ⟨hok,hx⟩:=bif_none hx
     refine OpRes.same h (fun n m=>?_) (okV_DR hok) hx
     unfold opA;rw [if_pos hc,hpeek]
    ·rename_i hfl
     rw [if_neg (by rw [hfl]; simp)] at hpeek
     exact specD_sound hc h hev hcall hx
   ·rename_i hne;exact specD_sound hc h hev hcall hx
  ·rename_i hf;exact specD_sound hc h hev hcall hx
 split at hx
 ·rename_i x hop
  exact OpRes.same h (fun n m=>opA_move hc (.inl hop)) (hev x (by rw [hop]; simp [Op.operands])) hx
 ·rename_i x hop
  exact OpRes.same h (fun n m=>opA_move hc (.inr hop)) (hev x (by rw [hop]; simp [Op.operands])) hx
 ·rename_i c a b hop
  have e1:=hev c (by rw [hop]; simp [Op.operands])
  have e2:=hev a (by rw [hop]; simp [Op.operands])
  have e3:=hev b (by rw [hop]; simp [Op.operands])
  have hpick:=fun n m=>opA_pick (P:=P) (st:=st) (call:=runF P st n m) (ev:=ev) (σ:=σ) hop hc
  split at hx<;>first | (cases hx; done) | skip
  rename_i t ht;rw [ht] at e1
  have hcv:ev c=.bool t:=by
   generalize ev c=u at e1;cases e1;rfl
  simp only [hcv] at hpick;split at hx
  ·rename_i x y hx' hy';rw [hx'] at e2;rw [hy'] at e3
   have ha:ev a=.bool x:=by generalize ev a=u at e2; cases e2; rfl
   have hb:ev b=.bool y:=by generalize ev b=u at e3; cases e3; rfl
   refine OpRes.same h (v:=.bool (cond t x y)) (fun n m=>?_) (.v _ rfl) hx
   show opA P st (runF P st n m) ev o σ=_;rw [hpick n m,ha,hb]
   cases t<;>rfl
  ·cases t with
   | true=>exact OpRes.same h (fun n m=>hpick n m) e2 hx
   | false=>exact OpRes.same h (fun n m=>hpick n m) e3 hx
 ·exact other hx
end
end
end Go.DE
namespace Go.DE
open Go Go.AE
abbrev Gl:=Nat->DV
def evalDT (gl:Gl) (τ:List DV):Operand->DV
 | .tmp t=>τ.getD t .any
 | .const v=>match okV v with
  | true=>ofV v
  | false=>.any
 | .global g=>gl g
 | .func f=>.fn (.func f) [] []
def putD (τ:List DV) (dst:Option Tmp) (d:DV):List DV :=
 match dst with
 | some t=>τ.set t d
 | none=>τ
structure Rl (st:AE.Stat) (gl:Gl) (C:Cf) (μ:Mu) (τ:Array Value) (σ:Heap) (τd:List DV) (σd:DHeap):Prop where
 S:St st C μ σ σd
 T:DRL C μ τd τ.toList
 G:∀ g,DR C μ (gl g) (.pointer (some ⟨g,0,some 0⟩))
section
variable {α:Type}{st:AE.Stat}{gl:Gl}{C:Cf}{μ:Mu}{σ:Heap}{σd:DHeap}{P:Program}{r:α}{τ:Array Value}{τd:List DV}
theorem putT_list (dst:Option Tmp) (v:Value):(putT τ dst v).toList=match dst with | some t=>τ.toList.set t v | none=>τ.toList:=by
 cases dst with
 | none=>rfl
 | some t=>simp [putT]
theorem DRL.put (h:DRL C μ τd τ.toList) (dst:Option Tmp) {d:DV}{v:Value}(hd:DR C μ d v):DRL C μ (putD τd dst d) (putT τ dst v).toList:=by
 rw [putT_list]
 cases dst with
 | none=>exact h
 | some t=>exact h.set t hd
theorem Rl.ev (h:Rl st gl C μ τ σ τd σd) (x:Operand):DR C μ (evalDT gl τd x) (evalT τ x):=by
 cases x with
 | tmp t =>
  have:=h.T.getD t undef;simp only [evalDT,evalT];rw [Array.getD_eq_getD_getElem?,<- Array.getElem?_toList,<- List.getD_eq_getElem?_getD];exact this
 | const v =>
  simp only [evalDT,evalT];split
  ·rename_i hv; exact okV_DR hv
  ·exact .any _
 | global g=>exact h.G g
 | func f=>exact .fn _ _ _ _ _ rfl rfl (fun i d x h=>by simp at h) fun i d x h=>by simp at h
def guardD (ops:Array Oper) (o:Oper) (τ:List DV) (run skip:List DV->Option α):Option α :=
 match o.guard with
 | none=>run τ
 | some (j,want)=>match (ops[j]?).bind (·.dst) with
  | none=>skip τ
  | some d=>match τ[d]? with
   | some (.v (.bool t))=>match want with
    | true=>cond t (run (τ.set d (.v (.bool true)))) (skip (τ.set d (.v (.bool false))))
    | false=>cond t (skip (τ.set d (.v (.bool true)))) (run (τ.set d (.v (.bool false))))
   | some .any=>none
   | _=>skip τ
theorem guardD_some {ops:Array Oper}{o:Oper}{run skip:List DV->Option α}(h:DRL C μ τd τ.toList) (hg:guardD ops o τd run skip=some r) :
  ∃ τ0,DRL C μ τ0 τ.toList/\guardOk ops o τ=true/\((Region.wanted o (yielded ops τ)=true/\run τ0=some r)\/(Region.wanted o (yielded ops τ)=false/\skip τ0=some r)):=by
 unfold guardD at hg
 cases hgd:o.guard with
 | none =>
  rw [hgd] at hg
  exact ⟨τd,h,by unfold guardOk; rw [hgd],.inl ⟨by unfold Region.wanted; rw [hgd],hg⟩⟩
 | some p =>
  obtain ⟨j,want⟩:=p;rw [hgd] at hg;simp only at hg
  have hW:Region.wanted o (yielded ops τ)=(yielded ops τ j==some want):=by unfold Region.wanted; rw [hgd]
  cases hd:(ops[j]?).bind (·.dst) with
  | none =>
   rw [hd] at hg
   refine ⟨τd,h,by unfold guardOk; rw [hgd]; simp only [hd,Option.bind_none],.inr ⟨?_,hg⟩⟩
   have hy:yielded ops τ j=none:=by unfold yielded; rw [hd]; rfl
   rw [hW,hy]; rfl
  | some d =>
   rw [hd] at hg;simp only at hg
   have gOk:∀ {x:Option Value},τ[d]?=x->(∀ r,x≠some (.chan r))->guardOk ops o τ=true:=by
    intro x hx hn;unfold guardOk;rw [hgd];simp only [hd,Option.bind_some];rw [hx]
    cases x with
    | none=>rfl
    | some v=>cases v<;>first | rfl | exact absurd rfl (hn _)
   have hy:∀ {x:Option Value},τ[d]?=x->yielded ops τ j=match x with | some (.bool b)=>some b | _=>none:=by
    intro x hx;unfold yielded;rw [hd];simp only [Option.bind_some,hx]
    cases x with
    | none=>rfl
    | some v=>cases v<;>rfl
   have nb:∀ {x:DV}{v:Value},DR C μ x v->(∀ b,x≠.v (.bool b))->x≠.any->(∀ b,v≠.bool b)/\∀ r,v≠.chan r:=by
    intro x v hx h1 h2
    cases hx<;>first | (exact absurd rfl h2) | (exact ⟨fun b e=>Value.noConfusion e,fun r e=>Value.noConfusion e⟩) | skip
    rename_i hf
    exact ⟨fun b e=>h1 b (by rw [e]),fun r e=>by rw [e] at hf; cases hf⟩
   have skp:∀ {x:Option DV},τd[d]?=x->(∀ b,x≠some (.v (.bool b)))->x≠some .any->skip τd=some r->∃ τ0,DRL C μ τ0 τ.toList/\guardOk ops o τ=true/\((Region.wanted o (yielded ops τ)=true/\run τ0=some r)\/(Region.wanted o (yielded ops τ)=false/\skip τ0=some r)):=by
    intro x hx h1 h2 hs
    cases x with
    | none =>
     have:τ[d]?=none:=by
      rw [List.getElem?_eq_none_iff] at hx;rw [Array.getElem?_eq_none_iff];have:=h.1;simp only [Array.length_toList] at this;omega
     refine ⟨τd,h,gOk this (fun r e=>by cases e),.inr ⟨?_,hs⟩⟩
     rw [hW,hy this]; rfl
    | some x =>
     obtain ⟨v,hv,hr⟩:=h.get hx;rw [Array.getElem?_toList] at hv
     obtain ⟨n1,n2⟩:=nb hr (fun b e=>h1 b (by rw [e])) (fun e=>h2 (by rw [e]))
     refine ⟨τd,h,gOk hv (fun r e=>n2 r (Option.some.inj e)),.inr ⟨?_,hs⟩⟩
     rw [hW,hy hv]
     cases v<;>first | rfl | (exact absurd rfl (n1 _))
   split at hg
   ·rename_i t ht;obtain ⟨v,hv,hr⟩:=h.get ht;rw [Array.getElem?_toList] at hv
    obtain rfl:v=.bool t:=by cases hr; rfl
    have hk:=gOk hv (fun r e=>by cases e)
    have hyt:=hy hv
    have hset:∀ {b:Bool},t=b->DRL C μ (τd.set d (.v (.bool b))) τ.toList:=by
     intro b hb;subst hb;have:=h.set d (d:=.v (.bool t)) (x:=.bool t) (.v _ rfl)
     have e:τ.toList.set d (.bool t)=τ.toList:=by
      apply List.ext_getElem?
      intro i;rw [List.getElem?_set]
      by_cases hi:d=i
      ·subst hi
       have hlt:d<τ.toList.length:=by simpa using (Array.getElem?_eq_some_iff.1 hv).1
       rw [if_pos rfl,if_pos hlt,Array.getElem?_toList,hv]
      ·rw [if_neg hi]
     rw [e] at this;exact this
    cases want with
    | true =>
     simp only at hg
     cases t with
     | true=>exact ⟨_,hset rfl,hk,.inl ⟨by rw [hW,hyt]; rfl,hg⟩⟩
     | false=>exact ⟨_,hset rfl,hk,.inr ⟨by rw [hW,hyt]; rfl,hg⟩⟩
    | false =>
     simp only at hg
     cases t with
     | true=>exact ⟨_,hset rfl,hk,.inr ⟨by rw [hW,hyt]; rfl,hg⟩⟩
     | false=>exact ⟨_,hset rfl,hk,.inl ⟨by rw [hW,hyt]; rfl,hg⟩⟩
   ·cases hg
   ·rename_i h1 h2
    exact skp rfl (fun b e=>h1 b e) (fun e=>h2 e) hg
def stepD (P:Program) (call:CallD α) (gl:Gl) (ops:Array Oper) (o:Oper) (τ:List DV) (σ:DHeap) (k:List DV->List DV->DHeap->Option α):Option α :=
 guardD ops o τ (fun τ=>opD P call (evalDT gl τ) o σ fun d σ'=>k τ (putD τ o.dst d) σ') (fun τ=>k τ (putD τ o.dst (.tup [])) σ)
def TResR (g:Bool) {β:Type}(st:AE.Stat) (gl:Gl) (C:Cf) (μ:Mu) (σ:Heap) (σd:DHeap) (F:Nat->Nat->Option (β×Array Value×Heap)) (k:β->List DV->DHeap->Option α) (r:α):Prop :=
 ∃ e τ' σ' C' μ' τd' σd',Lim F (e,τ',σ')/\Rl st gl C' μ' τ' σ' τd' σd'/\(NRel.b g).N C μ σ σd C' μ' σ' σd'/\k e τd' σd'=some r
abbrev TRes {β:Type}(st:AE.Stat) (gl:Gl) (C:Cf) (μ:Mu) (σ:Heap) (σd:DHeap) (F:Nat->Nat->Option (β×Array Value×Heap)) (k:β->List DV->DHeap->Option α) (r:α):Prop:=TResR false st gl C μ σ σd F k r
theorem undef_DR:DR C μ (.tup []) undef:=.tup [] #[] rfl fun i d x h=>by simp at h
theorem stepD_some {g:Bool}{call:CallD α}{ops:Array Oper}{o:Oper}{k:List DV->List DV->DHeap->Option α}(h:Rl st gl C μ τ σ τd σd) (hcall:CallS g P st call) (hx:stepD P call gl ops o τd σd k=some r) :
  ∃ τ0 τ' σ' C' μ' τd' σd',Rl st gl C μ τ σ τ0 σd/\Lim (fun n m=>stepA P st (runF P st n m) ops o τ σ) (τ',σ')/\Rl st gl C' μ' τ' σ' τd' σd'/\Nx1 g C μ σ σd C' μ' σ' σd'/\k τ0 τd' σd'=some r /\
   (Region.wanted o (yielded ops τ)=true->∃ k',opD P call (evalDT gl τ0) o σd k'=some r):=by
 obtain ⟨τ0,h0,hg,hw | hw⟩:=guardD_some h.T hx
 ·obtain ⟨hw,hx⟩:=hw;have h':Rl st gl C μ τ σ τ0 σd:=⟨h.S,h0,h.G⟩
  obtain ⟨v,σ',C',μ',d,σd',⟨N,hN⟩,q1,q2,q3,q4⟩:=opD_sound h.S (fun x _=>h'.ev x) hcall hx
  refine ⟨τ0,_,σ',C',μ',_,σd',h',⟨N,fun n m hn hm=>?_⟩,⟨q1,(h0.mono q2.hC q2.hμ).put o.dst q3,fun g=>(h.G g).mono q2.hC q2.hμ⟩,q2,q4,fun _=>⟨_,hx⟩⟩
  have hN':opA P st (runF P st n m) (evalT τ) o σ=some (v,σ'):=hN n m hn hm;show stepA P st (runF P st n m) ops o τ σ=_;unfold stepA;rw [if_pos hg,if_pos hw,hN']
 ·obtain ⟨hw,hx⟩:=hw;have h':Rl st gl C μ τ σ τ0 σd:=⟨h.S,h0,h.G⟩
  refine ⟨τ0,putT τ o.dst undef,σ,C,μ,_,σd,h',.const fun n m=>?_,⟨h.S,h0.put o.dst undef_DR,h.G⟩,(Nx.refl _ _ _ _).one,hx,fun hw'=>by rw [hw] at hw'; cases hw'⟩
  show stepA P st (runF P st n m) ops o τ σ=_;unfold stepA
  rw [if_pos hg,if_neg (by rw [hw]; simp)]
def runLD (P:Program) (call:CallD α) (gl:Gl) (ops:Array Oper):List Oper->List DV->DHeap->(List DV->DHeap->Option α)->Option α
 | [],τ,σ,k=>k τ σ
 | o :: rest,τ,σ,k=>stepD P call gl ops o τ σ fun _ τ' σ'=>runLD P call gl ops rest τ' σ' k
theorem runLD_some {g:Bool}{call:CallD α}{ops:Array Oper}(hcall:CallS g P st call) {k:List DV->DHeap->Option α}:∀ (l:List Oper) {C:Cf}{μ:Mu}{τ:Array Value}{σ:Heap}{τd:List DV}{σd:DHeap},Rl st gl C μ τ σ τd σd->runLD P call gl ops l τd σd k=some r ->
  ∃ τ' σ' C' μ' τd' σd',Lim (fun n m=>runA P st (runF P st n m) ops l τ σ) (τ',σ')/\Rl st gl C' μ' τ' σ' τd' σd'/\Nx1 g C μ σ σd C' μ' σ' σd'/\k τd' σd'=some r
 | [],C,μ,τ,σ,τd,σd,h,hx=>⟨τ,σ,C,μ,τd,σd,.const fun _ _=>rfl,h,(Nx.refl _ _ _ _).one,hx⟩
 | o :: rest,C,μ,τ,σ,τd,σd,h,hx=>by
  obtain ⟨τ0,τ1,σ1,C1,μ1,τd1,σd1,_,⟨N,hN⟩,h1,n1,hx,_⟩:=stepD_some h hcall hx;obtain ⟨τ2,σ2,C2,μ2,τd2,σd2,⟨M,hM⟩,h2,n2,hx⟩:=runLD_some hcall rest h1 hx
  refine ⟨τ2,σ2,C2,μ2,τd2,σd2,⟨max N M,fun n m hn hm=>?_⟩,h2,n1.trans n2,hx⟩
  show runA P st (runF P st n m) ops (o :: rest) τ σ=_
  have hN':stepA P st (runF P st n m) ops o τ σ=some (τ1,σ1):=hN n m (by omega) (by omega)
  unfold runA;rw [hN']
  exact hM n m (by omega) (by omega)
def PureS (P:Program) (st:AE.Stat) (call:CallD α) (pure:FuncId->Bool):Prop :=
 ∀ f args σd k r,pure f=true->call f args σd k=some r->∀ C μ σ vs,St st C μ σ σd->DRL C μ args vs->∃ v σ',Lim (fun n m=>enterA P (runF P st n m) f vs σ) (v,σ')/\∀ b,b<σ.length->σ'[b]?=σ[b]?
def pureOp (pure:FuncId->Bool) (ev:Operand->DV) (o:Oper):Bool :=
 match o.op with
 | .call c=>match c.callee with
  | .value x=>match ev x with
   | .fn (.func g) _ _=>pure g
   | _=>false
  | _=>false
 | _=>false
theorem pureOp_some {call:CallD α}{pure:FuncId->Bool}{o:Oper}{τ0:List DV}{k:DV->DHeap->Option α}(h:Rl st gl C μ τ σ τ0 σd) (hp:PureS P st call pure) (ho:pureOp pure (evalDT gl τ0) o=true) (hx:opD P call (evalDT gl τ0) o σd k=some r) :
  ∃ v σ',Lim (fun n m=>opA P st (runF P st n m) (evalT τ) o σ) (v,σ')/\∀ b,b<σ.length->σ'[b]?=σ[b]?:=by
 unfold pureOp at ho
 split at ho<;>first | (cases ho; done) | skip
 rename_i c hop
 split at ho<;>first | (cases ho; done) | skip
 rename_i x hcal
 split at ho<;>first | (cases ho; done) | skip
 rename_i g a b he;obtain ⟨hc,hx⟩:=bif_none hx
 have hmem:x∈(Op.call c).operands.toList:=by simp only [Op.operands,Go.Call.operands,hcal]; simp
 have hf:flats (evalDT gl τ0) o.op=false:=by
  unfold flats;rw [hop]
  cases hall:(Op.call c).operands.toList.all (fun x=>flD (evalDT gl τ0 x)) with
  | false=>rfl
  | true =>
   have:=List.all_eq_true.1 hall x hmem;rw [he] at this;cases this
 have hx2:call g (a++c.args.toList.map (evalDT gl τ0)++b) σd k=some r:=by
  rw [hop] at hx hf;simp only [hf,direct,eqO,specD,callOpD,hcal,he] at hx;exact hx
 have hev:=h.ev x;rw [he] at hev
 obtain ⟨u,v,e2,q1,q2,q3,q4⟩:∃ (u v:Array Value),evalT τ x=.func (.func g) u v/\a.length=u.size/\b.length=v.size/\(∀ (i:Nat) d x',a[i]?=some d->u[i]?=some x'->DR C μ d x')/\(∀ (i:Nat) d x',b[i]?=some d->v[i]?=some x'->DR C μ d x'):=by
  generalize evalT τ x=w at hev
  cases hev with
  | fn _ _ _ u v h1 h2 h3 h4=>exact ⟨u,v,rfl,h1,h2,h3,h4⟩
 have hargs:DRL C μ (a++c.args.toList.map (evalDT gl τ0)++b) (u.toList++c.args.toList.map (evalT τ)++v.toList) :=
  ((DRL.append ⟨by simpa using q1,fun i d x' hd hx'=>q3 i d x' hd (by simpa using hx')⟩ (map_DRL fun x _=>h.ev x)).append ⟨by simpa using q2,fun i d x' hd hx'=>q4 i d x' hd (by simpa using hx')⟩)
 obtain ⟨v',σ',⟨N,hN⟩,hpre⟩:=hp g _ σd k r ho hx2 C μ σ _ h.S hargs
 refine ⟨v',σ',⟨N,fun n m hn hm=>?_⟩,hpre⟩
 have hpk:peekA P (evalT τ) o=none:=peekA_nonflat (x:=x) (by rw [hop]; exact Array.mem_toList_iff.1 hmem) (by rw [e2]; rfl)
 show opA P st (runF P st n m) (evalT τ) o σ=_;rw [opA_none hc hpk,hop];simp only [specA,callA,hcal,e2];have:=hN n m hn hm
 simpa using this
def traceD (P:Program) (call:CallD α) (gl:Gl) (ops:Array Oper):List Oper->List DV->DHeap->List (List DV×DHeap)->(List (List DV×DHeap)->List DV->DHeap->Option α)->Option α
 | [],τ,σ,tr,k=>k (tr++[(τ,σ)]) τ σ
 | o :: rest,τ,σ,tr,k=>stepD P call gl ops o τ σ fun τ0 τ' σ'=>traceD P call gl ops rest τ' σ' (tr++[(τ0,σ)]) k
def wantD (ops:Array Oper) (o:Oper) (τ:List DV):Bool :=
 match o.guard with
 | none=>true
 | some (j,want)=>match (ops[j]?).bind (·.dst) with
  | none=>false
  | some d=>match τ[d]? with
   | some (.v (.bool t))=>t==want
   | _=>true
def keepsD (pure:FuncId->Bool) (gl:Gl) (x:Oper) (τi:List DV) (y:Oper) (τj:List DV) (σj:DHeap) (ahead:Bool):Bool :=
 match x.op with
 | .load _ a=>match evalDT gl τi a with
  | .pf _ _ _ _ _ _=>ahead
  | .po id _ _=>match σj[id]? with
   | some (some _)=>pureOp pure (evalDT gl τj) y||(match y.op with
    | .store _ b _=>match evalDT gl τj b with
     | .po id' _ _=>id != id'
     | _=>false
    | _=>false)
   | _=>false
  | _=>false
 | _=>false
def dynD (g:Bool) (pure:FuncId->Bool) (gl:Gl) (ops:Array Oper) (tr:List (List DV×DHeap)):Bool :=
 let c:=closeA ops.toList []
 ops.toList.zipIdx.all fun (x,i)=>match tr[i]? with
  | none=>false
  | some (τi,_)=>if (cls x.op==1||cls x.op==2)&&wantD ops x τi then
    ops.toList.zipIdx.all fun (y,j)=>match tr[j]? with
     | none=>false
     | some (τj,σj)=>if cls y.op==3&&wantD ops y τj&&!ordA c i j&&!ordA c j i then
       (if cls x.op==1 then keepsD pure gl x τi y τj σj (decide (i<j)||!g) else (decide (j<=i)||pureOp pure (evalDT gl τj) y)) else true
   else true
structure Tr (g:Bool) (P:Program) (st:AE.Stat) (gl:Gl) (pure:FuncId->Bool) (call:CallD α) (r:α) (ops:Array Oper) (l:List Oper) (trd:List (List DV×DHeap)) (tra:List (Array Value×Heap)) (cs:List (Cf×Mu)):Prop where
 len1:trd.length=l.length+1
 len2:tra.length=l.length+1
 len3:cs.length=l.length+1
 rel:∀ (i:Nat) d a c,trd[i]?=some d->tra[i]?=some a->cs[i]?=some c->Rl st gl c.1 c.2 a.1 a.2 d.1 d.2
 nx:∀ (i j:Nat) d a c d' a' c',i<=j->trd[i]?=some d->tra[i]?=some a->cs[i]?=some c->trd[j]?=some d'->tra[j]?=some a'->cs[j]?=some c'->Nx c.1 c.2 a.2 d.2 c'.1 c'.2 a'.2 d'.2
 step:∀ (i:Nat) o a a',l[i]?=some o->tra[i]?=some a->tra[i+1]?=some a'->Lim (fun n m=>stepA P st (runF P st n m) ops o a.1 a.2) a'
 pre:∀ (i:Nat) o d a a',l[i]?=some o->trd[i]?=some d->tra[i]?=some a->tra[i+1]?=some a'->Region.wanted o (yielded ops a.1)=true->pureOp pure (evalDT gl d.1) o=true->∀ b,b<a.2.length->a'.2[b]?=a.2[b]?
 op:∀ (i:Nat) o d a,l[i]?=some o->trd[i]?=some d->tra[i]?=some a->Region.wanted o (yielded ops a.1)=true->∃ k',opD P call (evalDT gl d.1) o d.2 k'=some r
 one:∀ (i:Nat) d a c d' a' c',trd[i]?=some d->tra[i]?=some a->cs[i]?=some c->trd[i+1]?=some d'->tra[i+1]?=some a'->cs[i+1]?=some c'->Nx1 g c.1 c.2 a.2 d.2 c'.1 c'.2 a'.2 d'.2
theorem traceD_some {g:Bool}{call:CallD α}{pure:FuncId->Bool}{ops:Array Oper}(hcall:CallS g P st call) (hp:PureS P st call pure) {k:List (List DV×DHeap)->List DV->DHeap->Option α} :
  ∀ (l:List Oper) {C:Cf}{μ:Mu}{τ:Array Value}{σ:Heap}{τd:List DV}{σd:DHeap}{tr0:List (List DV×DHeap)},Rl st gl C μ τ σ τd σd->traceD P call gl ops l τd σd tr0 k=some r ->
  ∃ trd tra cs τ' σ' C' μ' τd' σd',Tr g P st gl pure call r ops l trd tra cs/\tra[0]?=some (τ,σ)/\cs[0]?=some (C,μ)/\(∃ τ0,trd[0]?=some (τ0,σd))/\Lim (fun n m=>traceA P st (runF P st n m) ops l τ σ) tra /\
   tra[l.length]?=some (τ',σ')/\Rl st gl C' μ' τ' σ' τd' σd'/\Nx1 g C μ σ σd C' μ' σ' σd'/\k (tr0++trd) τd' σd'=some r
 | [],C,μ,τ,σ,τd,σd,tr0,h,hx=>by
  refine ⟨[(τd,σd)],[(τ,σ)],[(C,μ)],τ,σ,C,μ,τd,σd,⟨rfl,rfl,rfl,?_,?_,?_,?_,fun i o d a ho=>by simp at ho,fun i d a c d' a' c' _ _ _ hd'=>by simp at hd'⟩,rfl,rfl,⟨τd,rfl⟩,.const fun _ _=>rfl,rfl,h,(Nx.refl _ _ _ _).one,hx⟩
  ·intro i d a c hd ha hc
   cases i with
   | zero=>simp only [List.getElem?_cons_zero,Option.some.injEq] at hd ha hc; subst hd; subst ha; subst hc; exact h
   | succ i=>simp at hd
  ·intro i j d a c d' a' c' _ hd ha hc hd' ha' hc'
   cases i with
   | succ i=>simp at hd
   | zero =>
    cases j with
    | succ j=>simp at hd'
    | zero=>simp only [List.getElem?_cons_zero,Option.some.injEq] at hd ha hc hd' ha' hc'; subst hd; subst ha; subst hc; subst hd'; subst ha'; subst hc'; exact .refl _ _ _ _
  ·intro i o a a' ho; simp at ho
  ·intro i o d a a' ho; simp at ho
 | o :: rest,C,μ,τ,σ,τd,σd,tr0,h,hx=>by
  obtain ⟨τ0,τ1,σ1,C1,μ1,τd1,σd1,h0,hN,h1,n1,hx,hop⟩:=stepD_some h hcall hx;obtain ⟨trd,tra,cs,τ2,σ2,C2,μ2,τd2,σd2,T,e1,e2,⟨τ10,e3⟩,hM,e4,h2,n2,hx⟩:=traceD_some hcall hp rest h1 hx
  refine ⟨(τ0,σd) :: trd,(τ,σ) :: tra,(C,μ) :: cs,τ2,σ2,C2,μ2,τd2,σd2,⟨by simp [T.len1],by simp [T.len2],by simp [T.len3],?_,?_,?_,?_,?_,fun i d a c d' a' c' hd ha hc hd' ha' hc'=>by
   cases i with
   | zero =>
    simp only [List.getElem?_cons_zero,Option.some.injEq] at hd ha hc
    subst hd; subst ha; subst hc
    have hd':trd[0]?=some d':=by simpa using hd'
    have ha':tra[0]?=some a':=by simpa using ha'
    have hc':cs[0]?=some c':=by simpa using hc'
    rw [e3] at hd'; rw [e1] at ha'; rw [e2] at hc'
    obtain rfl:=Option.some.inj hd';obtain rfl:=Option.some.inj ha';obtain rfl:=Option.some.inj hc';exact n1
   | succ i=>exact T.one i d a c d' a' c' (by simpa using hd) (by simpa using ha) (by simpa using hc) (by simpa using hd') (by simpa using ha') (by simpa using hc')⟩,rfl,rfl,⟨τ0,rfl⟩,?_,by simpa using e4,h2,n1.trans n2,by simpa using hx⟩
  ·intro i d a c hd ha hc
   cases i with
   | zero=>simp only [List.getElem?_cons_zero,Option.some.injEq] at hd ha hc; subst hd; subst ha; subst hc; exact h0
   | succ i=>exact T.rel i d a c (by simpa using hd) (by simpa using ha) (by simpa using hc)
  ·intro i j d a c d' a' c' hij hd ha hc hd' ha' hc'
   cases i with
   | zero =>
    simp only [List.getElem?_cons_zero,Option.some.injEq] at hd ha hc
    subst hd; subst ha; subst hc
    cases j with
    | zero=>simp only [List.getElem?_cons_zero,Option.some.injEq] at hd' ha' hc'; subst hd'; subst ha'; subst hc'; exact .refl _ _ _ _
    | succ j=>exact n1.toNx.trans (T.nx 0 j (τ10,σd1) (τ1,σ1) (C1,μ1) d' a' c' (by omega) e3 e1 e2 (by simpa using hd') (by simpa using ha') (by simpa using hc'))
   | succ i =>
    cases j with
    | zero=>omega
    | succ j=>exact T.nx i j d a c d' a' c' (by omega) (by simpa using hd) (by simpa using ha) (by simpa using hc) (by simpa using hd') (by simpa using ha') (by simpa using hc')
  ·intro i o' a a' ho ha ha'
   cases i with
   | zero =>
    simp only [List.getElem?_cons_zero,Option.some.injEq] at ho ha
    subst ho; subst ha
    have ha':tra[0]?=some a':=by simpa using ha'
    rw [e1] at ha';obtain rfl:=Option.some.inj ha';exact hN
   | succ i=>exact T.step i o' a a' (by simpa using ho) (by simpa using ha) (by simpa using ha')
  ·intro i o' d a a' ho hd ha ha' hw hpu
   cases i with
   | zero =>
    simp only [List.getElem?_cons_zero,Option.some.injEq] at ho hd ha
    subst ho; subst hd; subst ha
    have ha':tra[0]?=some a':=by simpa using ha'
    rw [e1] at ha';obtain rfl:=Option.some.inj ha';obtain ⟨k',hk'⟩:=hop hw;obtain ⟨v,σ',⟨N',hN'⟩,hpre⟩:=pureOp_some h0 hp hpu hk';obtain ⟨N,hN⟩:=hN
    obtain ⟨v2,hv2⟩:=step_op (hN (max N N') (max N N') (by omega) (by omega)) hw
    have hN2:opA P st (runF P st (max N N') (max N N')) (evalT τ) o σ=some (v,σ'):=hN' (max N N') (max N N') (by omega) (by omega)
    rw [hN2] at hv2;simp only [Option.some.injEq,Prod.mk.injEq] at hv2;rw [<- hv2.2];exact hpre
   | succ i=>exact T.pre i o' d a a' (by simpa using ho) (by simpa using hd) (by simpa using ha) (by simpa using ha') hw hpu
  ·intro i o' d a ho hd ha hw
   cases i with
   | zero =>
    simp only [List.getElem?_cons_zero,Option.some.injEq] at ho hd ha
    subst ho; subst hd; subst ha
    exact hop hw
   | succ i=>exact T.op i o' d a (by simpa using ho) (by simpa using hd) (by simpa using ha) hw
  ·obtain ⟨N,hN⟩:=hN;obtain ⟨M,hM⟩:=hM
   refine ⟨max N M,fun n m hn hm=>?_⟩
   show traceA P st (runF P st n m) ops (o :: rest) τ σ=_
   have hN':stepA P st (runF P st n m) ops o τ σ=some (τ1,σ1):=hN n m (by omega) (by omega)
   have hM':traceA P st (runF P st n m) ops rest τ1 σ1=some tra:=hM n m (by omega) (by omega)
   unfold traceA;rw [hN'];simp only;rw [hM'];rfl
theorem wantD_of {ops:Array Oper}{o:Oper}(h:DRL C μ τd τ.toList) (hw:Region.wanted o (yielded ops τ)=true):wantD ops o τd=true:=by
 unfold wantD;unfold Region.wanted at hw
 cases hg:o.guard with
 | none=>rfl
 | some p =>
  obtain ⟨j,want⟩:=p;rw [hg] at hw;simp only at hw ⊢;unfold yielded at hw
  cases hd:(ops[j]?).bind (·.dst) with
  | none=>rw [hd] at hw; cases hw
  | some d =>
   rw [hd] at hw;simp only [Option.bind_some] at hw ⊢;split
   ·rename_i t ht;obtain ⟨v,hv,hr⟩:=h.get ht;rw [Array.getElem?_toList] at hv
    obtain rfl:v=.bool t:=by cases hr; rfl
    rw [hv] at hw
    simpa using hw
   ·rfl
end
end Go.DE
