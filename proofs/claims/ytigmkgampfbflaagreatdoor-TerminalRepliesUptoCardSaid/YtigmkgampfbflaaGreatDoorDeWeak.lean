/-
 The symbolic evaluator: a state may be forgotten in part and its blocks given other numbers; loops by invariants.
 Conditions: see the theorems.
-/
import Derived.Test.YtigmkgampfbflaaGreatDoorDeDyn
namespace Go.DE
open Go Go.AE
noncomputable def holds (p:Prop):Bool:=@decide p (Classical.propDecidable p)
theorem holds_eq {p:Prop}:holds p=true ↔ p:=⟨fun h=>@of_decide_eq_true p (Classical.propDecidable p) h,fun h=>@decide_eq_true p (Classical.propDecidable p) h⟩
def via (r:Nat->Option Nat) (μ:Mu):Mu:=fun j=>match r j with
 | some i=>μ i
 | none=>none
theorem via_some {r:Nat->Option Nat}{μ:Mu}{i j:Nat}(h:r j=some i):via r μ j=μ i:=by
 unfold via;rw [h]
def Sub (r:Nat->Option Nat) (d2 d:DV):Prop:=∀ C μ x,DR C μ d x->DR C (via r μ) d2 x
def Clo (d:DV):Prop:=∀ C μ μ' x,DR C μ d x->DR C μ' d x
theorem Clo.v (x:Value):Clo (.v x):=fun _ _ _ _ h=>by cases h; exact .v _ (by assumption)
theorem Clo.any:Clo .any:=fun _ _ _ _ _=>.any _
theorem Clo.sl (t:Bool) (g:Nat->Nat->DV) (k n:Nat):Clo (.sl t g k n):=fun _ _ _ y hy=>by
 rcases hy.sl_inv with ⟨a,cap,w,rfl,hc,hk,h1,h2⟩ | ⟨rfl,rfl⟩
 ·exact .sl t g k n a cap w hc hk h1 h2
 ·exact .slnil t g k
theorem Clo.pf (t:Bool) (g:Nat->Nat->DV) (k n i f:Nat):Clo (.pf t g k n i f):=fun _ _ _ y hy=>by
 obtain ⟨a,w,rfl,hk,hn,h1,h2⟩:=hy.pf_inv;exact .pf t g k n i f a _ w hk hn rfl h1 h2
theorem Clo.agg {cs:List DV}(h:∀ c∈cs,Clo c):Clo (.agg cs):=fun C μ μ' y hy=>by
 cases hy with
 | agg _ vs h1 h2=>exact .agg cs vs h1 fun i d x hd hx=>h d (List.mem_of_getElem? hd) C μ μ' x (h2 i d x hd hx)
theorem Clo.tup {cs:List DV}(h:∀ c∈cs,Clo c):Clo (.tup cs):=fun C μ μ' y hy=>by
 cases hy with
 | tup _ vs h1 h2=>exact .tup cs vs h1 fun i d x hd hx=>h d (List.mem_of_getElem? hd) C μ μ' x (h2 i d x hd hx)
theorem Clo.of_isV {d:DV}(h:isV d=true):Clo d:=by
 cases d<;>first | exact Clo.v _ | cases h
section
variable {r:Nat->Option Nat}
theorem Sub.of_clo {d:DV}(h:Clo d):Sub r d d:=fun C μ x hx=>h C μ _ x hx
theorem Sub.v (x:Value):Sub r (.v x) (.v x):=.of_clo (.v x)
theorem Sub.any (d:DV):Sub r .any d:=fun _ _ x _=>.any x
theorem Sub.os {i j a n:Nat}(e:r j=some i):Sub r (.os j a n) (.os i a n):=fun C μ x hx=>by
 obtain ⟨b,k,L0,off,cap,rfl,hm,hk,hc⟩:=hx.os_inv
 exact .os j a n b k L0 off cap (by rw [via_some e]; exact hm) hk hc
theorem Sub.po {i j a n:Nat}(e:r j=some i):Sub r (.po j a n) (.po i a n):=fun C μ x hx=>by
 obtain ⟨b,k,L0,rfl,hm,hk⟩:=hx.po_inv
 exact .po j a n b k L0 _ (by rw [via_some e]; exact hm) hk rfl
inductive SubL (r:Nat->Option Nat):List DV->List DV->Prop
 | nil:SubL r [] []
 | cons {d2 d:DV}{l2 l:List DV}(h:Sub r d2 d) (t:SubL r l2 l):SubL r (d2 :: l2) (d :: l)
theorem SubL.drl {ds2 ds:List DV}(h:SubL r ds2 ds) {C:Cf}{μ:Mu}:∀ {xs:List Value},DRL C μ ds xs->DRL C (via r μ) ds2 xs:=by
 induction h with
 | nil=>intro xs hx; obtain rfl:=hx.nil_inv; exact .nil _ _
 | cons h t ih=>intro xs hx; obtain ⟨x,ys,rfl,h1,h2⟩:=hx.cons_inv; exact .cons (h _ _ _ h1) (ih h2)
theorem SubL.agg {ds2 ds:List DV}(h:SubL r ds2 ds):Sub r (.agg ds2) (.agg ds):=fun C μ x hx=>by
 cases hx with
 | agg _ vs h1 h2 =>
  have:=h.drl (C:=C) (μ:=μ) (xs:=vs.toList) ⟨by simpa using h1,fun i d x hd hx=>h2 i d x hd (by simpa using hx)⟩
  exact .agg _ _ (by simpa using this.1) fun i d x hd hx=>this.2 i d x hd (by simpa using hx)
theorem SubL.tup {ds2 ds:List DV}(h:SubL r ds2 ds):Sub r (.tup ds2) (.tup ds):=fun C μ x hx=>by
 cases hx with
 | tup _ vs h1 h2 =>
  have:=h.drl (C:=C) (μ:=μ) (xs:=vs.toList) ⟨by simpa using h1,fun i d x hd hx=>h2 i d x hd (by simpa using hx)⟩
  exact .tup _ _ (by simpa using this.1) fun i d x hd hx=>this.2 i d x hd (by simpa using hx)
structure Wk (r:Nat->Option Nat) (m:Nat) (τ:List DV) (σ:DHeap) (τ2:List DV) (σ2:DHeap):Prop where
 tm:SubL r τ2 τ
 low:∀ j,j<m->r j=some j
 dom:∀ j i,r j=some i->j<σ2.length
 mle:m<=σ2.length
 inj:∀ (i j:Nat) bi bj,σ2[i]?=some (some bi)->σ2[j]?=some (some bj)->r i=r j->i=j
 blk:∀ (j:Nat) b2,σ2[j]?=some (some b2)->∃ i b,r j=some i/\σ[i]?=some (some b)/\b2.k=b.k/\b2.c.n<=b.c.n/\b2.c.good/\∀ i f,i<b2.c.n->f<b2.k->Sub r (b2.c.get i f) (b.c.get i f)
def FzFacts (C:Cf) (μ:Mu) (zs:Nat->Option DBlk):Prop :=
 ∀ j blk,zs j=some blk->∃ b L,μ j=some (b,blk.k,L)/\0<blk.k/\∃ w:Nat->Nat->Value,∀ i f,i<blk.c.n->f<blk.k->C false b none (i*blk.k+f)=some (w i f)/\(w i f).oneCell'=true/\DR C noMu (blk.c.get i f) (w i f)
def SubZ (r:Nat->Option Nat) (zs:Nat->Option DBlk) (d2 d:DV):Prop:=∀ C μ x,FzFacts C μ zs->DR C μ d x->DR C (via r μ) d2 x
theorem Sub.z {zs:Nat->Option DBlk}{d2 d:DV}(h:Sub r d2 d):SubZ r zs d2 d:=fun C μ x _ hx=>h C μ x hx
theorem SubZ.fz {zs:Nat->Option DBlk}{j a n:Nat}{blk:DBlk}(h:zs j=some blk) (hn:a+n<=blk.c.n):SubZ r zs (.sl false (fun i f=>blk.c.get (a+i) f) blk.k n) (.os j a n):=fun C μ x hF hx=>by
 obtain ⟨b,k,L,off,cap,rfl,hm,hk,hc⟩:=hx.os_inv;obtain ⟨b',L',hm',hk',w,hw⟩:=hF j blk h;rw [hm] at hm';simp only [Option.some.injEq,Prod.mk.injEq] at hm';obtain ⟨rfl,rfl,rfl⟩:=hm'
 have hcap:CapOk n blk.k cap:=by
  rcases hc with ⟨c1,c2,_⟩ | ⟨c1,_⟩
  ·exact .inl ⟨c1,c2⟩
  ·exact .inr c1
 have hoff:n=0\/off=a*blk.k:=by
  rcases hc with ⟨c1,c2,c3 | c3⟩ | c3
  ·exact .inl (by omega)
  ·exact .inr c3.1
  ·exact .inr c3.2
 refine .sl false _ blk.k n ⟨b,off,none⟩ cap (fun i f=>w (a+i) f) hcap hk' (fun i f hi hf=>?_) fun i f hi hf=>(hw (a+i) f (by omega) hf).2.2
 obtain ⟨q1,q2,_⟩:=hw (a+i) f (by omega) hf
 refine ⟨?_,q2⟩
 rcases hoff with rfl | rfl
 ·omega
 ·show C false b none (a*blk.k+i*blk.k+f)=_
  rw [show a*blk.k+i*blk.k+f=(a+i)*blk.k+f by rw [Nat.add_mul]]
  exact q1
inductive SubLZ (r:Nat->Option Nat) (zs:Nat->Option DBlk):List DV->List DV->Prop
 | nil:SubLZ r zs [] []
 | cons {d2 d:DV}{l2 l:List DV}(h:SubZ r zs d2 d) (t:SubLZ r zs l2 l):SubLZ r zs (d2 :: l2) (d :: l)
theorem SubL.z {zs:Nat->Option DBlk}{l2 l:List DV}(h:SubL r l2 l):SubLZ r zs l2 l:=by
 induction h with
 | nil=>exact .nil
 | cons h _ ih=>exact .cons h.z ih
theorem SubLZ.drl {zs:Nat->Option DBlk}{ds2 ds:List DV}(h:SubLZ r zs ds2 ds) {C:Cf}{μ:Mu}(hF:FzFacts C μ zs):∀ {xs:List Value},DRL C μ ds xs->DRL C (via r μ) ds2 xs:=by
 induction h with
 | nil=>intro xs hx; obtain rfl:=hx.nil_inv; exact .nil _ _
 | cons h t ih=>intro xs hx; obtain ⟨x,ys,rfl,h1,h2⟩:=hx.cons_inv; exact .cons (h _ _ _ hF h1) (ih h2)
theorem SubLZ.agg {zs:Nat->Option DBlk}{ds2 ds:List DV}(h:SubLZ r zs ds2 ds):SubZ r zs (.agg ds2) (.agg ds):=fun C μ x hF hx=>by
 cases hx with
 | agg _ vs h1 h2 =>
  have:=h.drl (C:=C) (μ:=μ) hF (xs:=vs.toList) ⟨by simpa using h1,fun i d x hd hx=>h2 i d x hd (by simpa using hx)⟩
  exact .agg _ _ (by simpa using this.1) fun i d x hd hx=>this.2 i d x hd (by simpa using hx)
structure WkZ (r:Nat->Option Nat) (zs:Nat->Option DBlk) (m:Nat) (τ:List DV) (σ:DHeap) (τ2:List DV) (σ2:DHeap):Prop where
 tm:SubLZ r zs τ2 τ
 low:∀ j,j<m->r j=some j
 dom:∀ j i,r j=some i->j<σ2.length
 mle:m<=σ2.length
 inj:∀ (i j:Nat) bi bj,σ2[i]?=some (some bi)->σ2[j]?=some (some bj)->r i=r j->i=j
 blk:∀ (j:Nat) b2,σ2[j]?=some (some b2)->∃ i b,r j=some i/\σ[i]?=some (some b)/\b2.k=b.k/\b2.c.n<=b.c.n/\b2.c.good/\∀ i f,i<b2.c.n->f<b2.k->SubZ r zs (b2.c.get i f) (b.c.get i f)
 fz:∀ j blk,zs j=some blk->σ[j]?=some (some blk)/\∀ i f,i<blk.c.n->f<blk.k->Clo (blk.c.get i f)
 out:∀ i j,r i=some j->zs j=none
theorem Wk.z {r:Nat->Option Nat}{m:Nat}{τ:List DV}{σ:DHeap}{τ2:List DV}{σ2:DHeap}(h:Wk r m τ σ τ2 σ2):WkZ r (fun _=>none) m τ σ τ2 σ2 :=
 ⟨h.tm.z,h.low,h.dom,h.mle,h.inj,fun j b2 hb=>let ⟨i,b,q0,q1,q2,q3,q4,q5⟩:=h.blk j b2 hb; ⟨i,b,q0,q1,q2,q3,q4,fun i f hi hf=>(q5 i f hi hf).z⟩,fun _ _ e=>(nomatch e),fun _ _ _=>rfl⟩
def WkG (w:Bool) (m:Nat) (τ:List DV) (σ:DHeap) (τ2:List DV) (σ2:DHeap):Prop:=∃ r zs,(w=false->∀ j,zs j=none)/\WkZ r zs m τ σ τ2 σ2
theorem Wk.g {w:Bool}{r:Nat->Option Nat}{m:Nat}{τ:List DV}{σ:DHeap}{τ2:List DV}{σ2:DHeap}(h:Wk r m τ σ τ2 σ2):WkG w m τ σ τ2 σ2:=⟨r,_,fun _ _=>rfl,h.z⟩
def OldW (w:Bool) (C:Cf) (μ:Mu) (σ:Heap) (σd:DHeap) (C':Cf):Prop:=∀ t b s o v,C' t b s o=some v->C t b s o=some v\/(w=true/\t=false/\s=none/\(σ.length<=b\/Live μ σd b))
section
variable {w:Bool}{C C':Cf}{μ μ':Mu}{σ σ':Heap}{σd σd':DHeap}
theorem NRel.b_w (h:(NRel.b w).N C μ σ σd C' μ' σ' σd'):NxW C μ σ σd C' μ' σ' σd':=by
 cases w
 ·exact (show Nx1 false C μ σ σd C' μ' σ' σd' from h).toNx.w
 ·exact h
theorem NRel.b_old (h:(NRel.b w).N C μ σ σd C' μ' σ' σd'):OldW w C μ σ σd C':=fun t b s o v x=>by
 cases w
 ·exact .inl ((show Nx1 false C μ σ σd C' μ' σ' σd' from h).one rfl t b s o v x)
 ·exact ((show NxW C μ σ σd C' μ' σ' σd' from h).old t b s o v x).imp id fun e=>⟨rfl,e⟩
theorem NRel.b_mk (h:NxW C μ σ σd C' μ' σ' σd') (ho:OldW w C μ σ σd C'):(NRel.b w).N C μ σ σd C' μ' σ' σd':=by
 cases w
 ·have sm:C.same C':=fun t b s o v x=>(ho t b s o v x).elim id fun e=>by cases e.1
  exact ⟨⟨h.hC,h.hμ,h.len,h.lend,h.fr,h.img,fun t b s o v x=>.inl (sm t b s o v x)⟩,fun _=>sm⟩
 ·exact h
end
structure NxM (w:Bool) (m:Nat) (C:Cf) (μ:Mu) (σ:Heap) (σd:DHeap) (C':Cf) (μ':Mu) (σ':Heap) (σd':DHeap):Prop where
 hC:C.le C'
 hμ:∀ id x,id<m->μ id=some x->μ' id=some x
 len:σ.length<=σ'.length
 lend:m<=σd'.length
 fr:∀ b,b<σ.length->¬ Live μ σd b->σ'[b]?=σ[b]?
 img:∀ b,Live μ' σd' b->b<σ.length->Live μ σd b
 old:OldW w C μ σ σd C'
end
section
variable {w:Bool}{r:Nat->Option Nat}{st:AE.Stat}{gl:Gl}{C C1 C2:Cf}{μ μ1 μ2:Mu}{σ σ1 σ2:Heap}{σd σd1 σd2:DHeap}{P:Program}{τ:Array Value}{τd τd2:List DV}{m:Nat}
theorem NxM.refl (h:m<=σd.length):NxM w m C μ σ σd C μ σ σd:=⟨Cf.le_refl _,fun _ _ _ h=>h,Nat.le_refl _,h,fun _ _ _=>rfl,fun _ h _=>h,fun _ _ _ _ _ h=>.inl h⟩
theorem NxM.then (h:NxM w m C μ σ σd C1 μ1 σ1 σd1) (k:(NRel.b w).N C1 μ1 σ1 σd1 C2 μ2 σ2 σd2):NxM w m C μ σ σd C2 μ2 σ2 σd2 :=
 have kw:=NRel.b_w k
 ⟨Cf.le_trans h.hC kw.hC,fun id x hi hx=>kw.hμ _ _ (h.hμ id x hi hx),Nat.le_trans h.len kw.len,Nat.le_trans h.lend kw.lend,
  fun b hb hl=>(kw.fr b (Nat.lt_of_lt_of_le hb h.len) (fun x=>hl (h.img b x hb))).trans (h.fr b hb hl),
  fun b hl hb=>h.img b (kw.img b hl (Nat.lt_of_lt_of_le hb h.len)) hb,fun t b s o v x=>(NRel.b_old k t b s o v x).elim (h.old t b s o v) fun e=>.inr ⟨e.1,e.2.1,e.2.2.1,by
   rcases Nat.lt_or_ge b σ.length with hb | hb
   ·exact e.2.2.2.elim (fun q=>.inl (Nat.le_trans h.len q)) fun q=>.inr (h.img b q hb)
   ·exact .inl hb⟩⟩
theorem NxM.nx (h:NxM w σd.length C μ σ σd C1 μ1 σ1 σd1) (hS:St st C μ σ σd):(NRel.b w).N C μ σ σd C1 μ1 σ1 σd1 :=
 NRel.b_mk ⟨h.hC,fun id x hx=>h.hμ id x (hS.dom id x hx).1 hx,h.len,h.lend,h.fr,h.img,fun t b s o v x=>(h.old t b s o v x).imp id fun e=>e.2⟩ h.old
theorem Wk.live {b:Nat}(hw:Wk r m τd σd τd2 σd2) (h:Live (via r μ) σd2 b):Live μ σd b:=by
 obtain ⟨id,blk,x,h1,h2⟩:=h;obtain ⟨i,bb,hr,hb,_⟩:=hw.blk id blk h1;rw [via_some hr] at h2;exact ⟨i,bb,x,hb,h2⟩
theorem Wk.nx (hw:Wk r m τd σd1 τd2 σd2) (h:NxM w m C μ σ σd C1 μ1 σ1 σd1):NxM w m C μ σ σd C1 (via r μ1) σ1 σd2 :=
 ⟨h.hC,fun id x hi hx=>by
   rw [via_some (hw.low id hi)]
   exact h.hμ id x hi hx,h.len,hw.mle,h.fr,fun b hl hb=>h.img b (hw.live hl) hb,h.old⟩
theorem Wk.state (hw:Wk r m τd σd τd2 σd2) (h:St st C μ σ σd):St st C (via r μ) σ σd2:=by
 refine ⟨h.frz,fun id b2 hb=>?_,fun id blk b x hb hm t o=>?_,fun id id' blk blk' b x x' hb hb' hm hm'=>?_,fun id x hm=>?_,h.low,h.sta⟩
 ·obtain ⟨i,bb,q0,q1,q2,q3,q4,q5⟩:=hw.blk id b2 hb;obtain ⟨b,L,l,h1,h2,h3,h4,h5,h6,h7⟩:=h.own i bb q1
  refine ⟨b,L,l,by rw [via_some q0,q2]; exact h1,by rw [q2]; exact h2,h3,h4,?_,q4,fun i f hi hf=>?_⟩
  ·rw [q2];exact Nat.le_trans (Nat.mul_le_mul_right _ q3) h5
  ·obtain ⟨v,hv,ho,hr⟩:=h7 i f (by omega) (by omega)
   exact ⟨v,by rw [q2]; exact hv,ho,q5 i f hi hf _ _ _ hr⟩
 ·obtain ⟨i,bb,q0,q1,_⟩:=hw.blk id blk hb;rw [via_some q0] at hm;exact h.sep i bb b x q1 hm t o
 ·obtain ⟨i,bb,q0,q1,_⟩:=hw.blk id blk hb;obtain ⟨i',bb',q0',q1',_⟩:=hw.blk id' blk' hb';rw [via_some q0] at hm;rw [via_some q0'] at hm';refine hw.inj id id' _ _ hb hb' ?_;rw [q0,q0',h.inj i i' _ _ b x x' q1 q1' hm hm']
 ·unfold via at hm;split at hm
  ·rename_i i hi;exact ⟨hw.dom _ _ hi,(h.dom _ _ hm).2⟩
  ·cases hm
theorem Wk.rl (hw:Wk r m τd σd τd2 σd2) (hgl:∀ g,Clo (gl g)) (h:Rl st gl C μ τ σ τd σd):Rl st gl C (via r μ) τ σ τd2 σd2 :=
 ⟨hw.state h.S,hw.tm.drl h.T,fun g=>hgl g _ _ _ _ (h.G g)⟩
theorem WkZ.live {zs:Nat->Option DBlk}{b:Nat}(hw:WkZ r zs m τd σd τd2 σd2) (h:Live (via r μ) σd2 b):Live μ σd b:=by
 obtain ⟨id,blk,x,h1,h2⟩:=h;obtain ⟨i,bb,hr,hb,_⟩:=hw.blk id blk h1;rw [via_some hr] at h2;exact ⟨i,bb,x,hb,h2⟩
open Classical in
theorem WkZ.rl {zs:Nat->Option DBlk}(hw:WkZ r zs m τd σd τd2 σd2) (hgl:∀ g,Clo (gl g)) (h:Rl st gl C μ τ σ τd σd) :
  ∃ C',C.le C'/\(∀ t b s o v,C' t b s o=some v->C t b s o=some v\/(t=false/\s=none/\Live μ σd b/\∃ j blk,zs j=some blk))/\Rl st gl C' (via r μ) τ σ τd2 σd2:=by
 let at0:Nat->Prop:=fun b=>∃ j blk x,zs j=some blk/\μ j=some (b,x)
 let C':Cf:=fun t b s o=>if t=false/\s=none/\at0 b then cellA st σ ⟨b,0,none⟩ o else C t b s o
 have hliv:∀ b,at0 b->Live μ σd b:=fun b ⟨j,blk,x,q1,q2⟩=>⟨j,blk,x,(hw.fz j blk q1).1,q2⟩
 have hnone:∀ t b o,at0 b->C t b none o=none:=fun t b o ⟨j,blk,x,q1,q2⟩=>h.S.sep j blk b x (hw.fz j blk q1).1 q2 t o
 have hle:C.le C':=fun t b s o v hv=>by
  show (if _ then _ else _)=_
  split
  ·rename_i q;rw [q.2.1,hnone t b o q.2.2] at hv;cases hv
  ·exact hv
 have hC':∀ t b s o v,C' t b s o=some v->(t=false/\s=none/\at0 b/\cellA st σ ⟨b,0,none⟩ o=some v)\/(¬ (t=false/\s=none/\at0 b)/\C t b s o=some v):=fun t b s o v hv=>by
  by_cases q:t=false/\s=none/\at0 b
  ·rw [show C' t b s o=cellA st σ ⟨b,0,none⟩ o from if_pos q] at hv;exact .inl ⟨q.1,q.2.1,q.2.2,hv⟩
  ·rw [show C' t b s o=C t b s o from if_neg q] at hv;exact .inr ⟨q,hv⟩
 have facts:FzFacts C' μ zs:=fun j blk hj=>by
  obtain ⟨g1,g2⟩:=hw.fz j blk hj;obtain ⟨b,L,l,h1,h2,h3,h4,h5,h6,h7⟩:=h.S.own j blk g1
  refine ⟨b,L,h1,h2,fun i f=>(l[i*blk.k+f]?).getD undef,fun i f hi hf=>?_⟩
  obtain ⟨v,hv,ho,hr⟩:=h7 i f hi hf;simp only [hv,Option.getD_some];refine ⟨?_,ho,(g2 i f hi hf _ _ noMu _ hr).mono hle (Mu.le_refl _)⟩;rw [show C' false b none (i*blk.k+f)=cellA st σ ⟨b,0,none⟩ (i*blk.k+f) from if_pos ⟨rfl,rfl,j,blk,_,hj,h1⟩];unfold cellA;simp only [h3,hv]
 refine ⟨C',hle,fun t b s o v hv=>?_,⟨⟨fun t b s o v hv=>?_,fun id b2 hb=>?_,fun id blk b x hb hm t o=>?_,fun id id' blk blk' b x x' hb hb' hm hm'=>?_,fun id x hm=>?_,fun t b o v hv=>?_,fun b s o v hv=>hle _ _ _ _ _ (h.S.sta b s o v hv)⟩,hw.tm.drl facts (h.T.mono hle (Mu.le_refl _)),fun g=>(hgl g _ _ _ _ (h.G g)).mono hle (Mu.le_refl _)⟩⟩
 ·rcases hC' t b s o v hv with ⟨q1,q2,q3,_⟩ | ⟨_,q⟩
  ·obtain ⟨j,blk,x,q4,q5⟩:=q3;exact .inr ⟨q1,q2,hliv b ⟨j,blk,x,q4,q5⟩,j,blk,q4⟩
  ·exact .inl q
 ·rcases hC' t b s o v hv with ⟨_,q2,_,q⟩ | ⟨_,q⟩
  ·rw [q2]; exact q
  ·exact h.S.frz t b s o v q
 ·obtain ⟨i,bb,q0,q1,q2,q3,q4,q5⟩:=hw.blk id b2 hb;obtain ⟨b,L,l,h1,h2,h3,h4,h5,h6,h7⟩:=h.S.own i bb q1
  refine ⟨b,L,l,by rw [via_some q0,q2]; exact h1,by rw [q2]; exact h2,h3,h4,?_,q4,fun i f hi hf=>?_⟩
  ·rw [q2];exact Nat.le_trans (Nat.mul_le_mul_right _ q3) h5
  ·obtain ⟨v,hv,ho,hr⟩:=h7 i f (by omega) (by omega)
   exact ⟨v,by rw [q2]; exact hv,ho,q5 i f hi hf _ _ _ facts (hr.mono hle (Mu.le_refl _))⟩
 ·obtain ⟨i,bb,q0,q1,_⟩:=hw.blk id blk hb;rw [via_some q0] at hm;have hz:=hw.out id i q0
  cases hc:C' t b none o with
  | none=>rfl
  | some v =>
   exfalso
   rcases hC' t b none o v hc with ⟨_,_,⟨j,blk',x',q3,q4⟩,_⟩ | ⟨_,q⟩
   ·obtain rfl:=h.S.inj i j bb blk' b x x' q1 (hw.fz j blk' q3).1 hm q4;rw [hz] at q3;cases q3
   ·rw [h.S.sep i bb b x q1 hm t o] at q;cases q
 ·obtain ⟨i,bb,q0,q1,_⟩:=hw.blk id blk hb;obtain ⟨i',bb',q0',q1',_⟩:=hw.blk id' blk' hb';rw [via_some q0] at hm;rw [via_some q0'] at hm';refine hw.inj id id' _ _ hb hb' ?_;rw [q0,q0',h.S.inj i i' _ _ b x x' q1 q1' hm hm']
 ·unfold via at hm;split at hm
  ·rename_i i hi;exact ⟨hw.dom _ _ hi,(h.S.dom _ _ hm).2⟩
  ·cases hm
 ·rcases hC' t b none o v hv with ⟨_,_,q3,_⟩ | ⟨_,q⟩
  ·obtain ⟨j,blk,x,q4,q5⟩:=q3;exact (h.S.dom j _ q5).2
  ·exact h.S.low t b o v q
theorem WkG.rl {C0:Cf}{μ0:Mu}{σ0:Heap}{σd0:DHeap}(hw:WkG w m τd σd τd2 σd2) (hgl:∀ g,Clo (gl g)) (h:Rl st gl C μ τ σ τd σd) (hn:NxM w m C0 μ0 σ0 σd0 C μ σ σd) :
  ∃ C' μ',Rl st gl C' μ' τ σ τd2 σd2/\NxM w m C0 μ0 σ0 σd0 C' μ' σ σd2:=by
 obtain ⟨r,zs,hz,hw⟩:=hw;obtain ⟨C',hle,hold,hrl⟩:=hw.rl hgl h
 refine ⟨C',via r μ,hrl,⟨Cf.le_trans hn.hC hle,fun id x hi hx=>by rw [via_some (hw.low id hi)]; exact hn.hμ id x hi hx,hn.len,hw.mle,hn.fr,fun b hl hb=>hn.img b (hw.live hl) hb,fun t b s o v x=>?_⟩⟩
 rcases hold t b s o v x with q | ⟨q1,q2,q3,j,blk,q4⟩
 ·exact hn.old t b s o v q
 ·refine .inr ⟨?_,q1,q2,?_⟩
  ·cases w
   ·rw [hz rfl j] at q4; cases q4
   ·rfl
  rcases Nat.lt_or_ge b σ0.length with hb | hb
  ·exact .inr (hn.img b q3 hb)
  ·exact .inl hb
noncomputable def asks (Q:Ex->List DV->DHeap->Prop):KD Unit:=fun e τ σ=>bif holds (Q e τ σ) then some () else none
def StepQ (w:Bool) {X:Type}(pre:X->Prop) (m:Nat) (S:X->List DV×DHeap) (out:X->Ex×List DV×DHeap) (meas:X->Nat) (x:X) (e:Ex) (τ:List DV) (σ:DHeap):Prop :=
 match e with
 | .normal=>∃ y,pre y/\out y=out x/\meas y<meas x/\WkG w m τ σ (S y).1 (S y).2
 | e=>e=(out x).1/\WkG w m τ σ (out x).2.1 (out x).2.2
theorem loop_core {X:Type}{E:Env Unit}(hE:EnvOk P st E) (hgl:∀ g,Clo (E.gl g)) {c:Code}{p:Nat}(hl:∀ x∈loopsL p c,∀ g,E.lp x.1=some g->LoopSR E.gz P st E.gl x.2 g)
  {pre:X->Prop}{m:Nat}{S:X->List DV×DHeap}{out:X->Ex×List DV×DHeap}{meas:X->Nat}(body:∀ x,pre x->∃ κ:KD Unit,execD P E c p (S x).1 (S x).2 κ=some ()/\∀ e τ σ,κ e τ σ=some ()->StepQ E.gz pre m S out meas x e τ σ) :
  ∀ (k:Nat) (x:X),meas x<k->pre x->∀ {C0:Cf}{μ0:Mu}{σ0:Heap}{σd0:DHeap}{C:Cf}{μ:Mu}{τ:Array Value}{σ:Heap},Rl st E.gl C μ τ σ (S x).1 (S x).2->NxM E.gz m C0 μ0 σ0 σd0 C μ σ (S x).2 ->
   ∃ τ' σ' C' μ',(∃ N,∀ n mm q,N<=n->N<=mm->N<=q->iterA (execA P st (runF P st n mm) n c) q τ σ=some ((out x).1,τ',σ'))/\Rl st E.gl C' μ' τ' σ' (out x).2.1 (out x).2.2/\NxM E.gz m C0 μ0 σ0 σd0 C' μ' σ' (out x).2.2
 | 0,x,hk,_,_,_,_,_,_,_,_,_,_,_=>by omega
 | k+1,x,hk,hpre,C0,μ0,σ0,σd0,C,μ,τ,σ,h,hn=>by
  obtain ⟨κ,hb,hκ⟩:=body x hpre;obtain ⟨e,τ1,σ1,C1,μ1,τd1,σd1,⟨N,hN⟩,h1,n1,hx⟩:=execD_some hE c p hl h hb;have hq:=hκ _ _ _ hx
  have step:∀ n mm q,N<=n->N<=mm->iterA (execA P st (runF P st n mm) n c) (q+1) τ σ=match e with
    | .normal=>iterA (execA P st (runF P st n mm) n c) q τ1 σ1
    | .exit i=>some (.exit i,τ1,σ1)
    | .ret=>some (.ret,τ1,σ1):=by
   intro n mm q hn hm;have hN':execA P st (runF P st n mm) n c τ σ=some (e,τ1,σ1):=hN n mm hn hm;simp only [iterA,hN']
   cases e<;>rfl
  have ends:∀ e',e'=(out x).1->WkG E.gz m τd1 σd1 (out x).2.1 (out x).2.2->(∀ n mm q,N<=n->N<=mm->iterA (execA P st (runF P st n mm) n c) (q+1) τ σ=some (e',τ1,σ1)) ->
    ∃ τ' σ' C' μ',(∃ N,∀ n mm q,N<=n->N<=mm->N<=q->iterA (execA P st (runF P st n mm) n c) q τ σ=some ((out x).1,τ',σ'))/\Rl st E.gl C' μ' τ' σ' (out x).2.1 (out x).2.2/\NxM E.gz m C0 μ0 σ0 σd0 C' μ' σ' (out x).2.2:=by
   intro e' he hw hs;obtain ⟨C2,μ2,h2,n2⟩:=hw.rl hgl h1 (hn.then n1)
   refine ⟨τ1,σ1,C2,μ2,⟨N+1,fun n mm q hn hm hq=>?_⟩,h2,n2⟩
   obtain ⟨q,rfl⟩:∃ q',q=q'+1:=⟨q-1,by omega⟩
   rw [hs n mm q (by omega) (by omega),he]
  cases e with
  | normal =>
   obtain ⟨y,hpy,hy,hm,hw⟩:=hq;obtain ⟨C1',μ1',h2,n2⟩:=hw.rl hgl h1 (hn.then n1)
   obtain ⟨τ2,σ2,C2,μ2,⟨M,hM⟩,h3,n3⟩:=loop_core hE hgl hl body k y (by omega) hpy h2 n2
   rw [hy] at hM h3 n3
   refine ⟨τ2,σ2,C2,μ2,⟨max N M+1,fun n mm q hn hm hq=>?_⟩,h3,n3⟩
   obtain ⟨q,rfl⟩:∃ q',q=q'+1:=⟨q-1,by omega⟩
   rw [step n mm q (by omega) (by omega)]
   exact hM n mm q (by omega) (by omega) (by omega)
  | exit i=>exact ends _ hq.1 hq.2 fun n mm q hn hm=>step n mm q hn hm
  | ret=>exact ends _ hq.1 hq.2 fun n mm q hn hm=>step n mm q hn hm
theorem loopS_of {α X:Type}{E:Env Unit}(hE:EnvOk P st E) (hgl:∀ g,Clo (E.gl g)) {c:Code}{p:Nat}(hl:∀ x∈loopsL p c,∀ g,E.lp x.1=some g->LoopSR E.gz P st E.gl x.2 g)
  {pre:X->Prop}{m:Nat}{S:X->List DV×DHeap}{out:X->Ex×List DV×DHeap}{meas:X->Nat}(body:∀ x,pre x->∃ κ:KD Unit,execD P E c p (S x).1 (S x).2 κ=some ()/\∀ e τ σ,κ e τ σ=some ()->StepQ E.gz pre m S out meas x e τ σ)
  {g:LoopD α}(hg:∀ τd σd k r,g τd σd k=some r->∃ x,pre x/\σd.length=m/\(∃ ρ,Wk ρ m τd σd (S x).1 (S x).2)/\k (out x).1 (out x).2.1 (out x).2.2=some r):LoopSR E.gz P st E.gl (.loop c) g:=by
 intro τd σd k r hgr C μ τ σ h;obtain ⟨x,hpx,hm,⟨ρ,hw⟩,hk⟩:=hg τd σd k r hgr;subst hm;obtain ⟨τ',σ',C',μ',⟨N,hN⟩,h1,n1⟩:=loop_core hE hgl hl body (meas x+1) x (Nat.lt_succ_self _) hpx (hw.rl hgl h) (hw.nx (.refl (Nat.le_refl _)))
 exact ⟨_,τ',σ',C',μ',_,_,⟨N,fun n mm hn hm=>hN n mm n hn hm hn⟩,h1,n1.nx h.S,hk⟩
end
end Go.DE
namespace Go.DE
open Go Go.AE
def dsts:Code->List Nat
 | .region _ ops _=>ops.toList.filterMap (·.dst)
 | .seq a b=>dsts a++dsts b
 | .cond _ a b=>dsts a++dsts b
 | .block _ a=>dsts a
 | .loop a=>dsts a
 | .scope a=>dsts a
 | _=>[]
section
variable {P:Program}{st:AE.Stat}{call:CallA}
def Keeps (l:List Nat) (τ τ':Array Value):Prop:=τ'.size=τ.size/\∀ j,j ∉ l->τ'[j]?=τ[j]?
theorem Keeps.refl (l:List Nat) (τ:Array Value):Keeps l τ τ:=⟨rfl,fun _ _=>rfl⟩
theorem Keeps.trans {l:List Nat}{τ τ1 τ2:Array Value}(h:Keeps l τ τ1) (k:Keeps l τ1 τ2):Keeps l τ τ2:=⟨k.1.trans h.1,fun j hj=>(k.2 j hj).trans (h.2 j hj)⟩
theorem Keeps.mono {l l':List Nat}{τ τ':Array Value}(h:Keeps l τ τ') (hl:∀ x∈l,x∈l'):Keeps l' τ τ':=⟨h.1,fun j hj=>h.2 j fun hm=>hj (hl j hm)⟩
theorem stepA_keeps {ops:Array Oper}{o:Oper}{τ τ':Array Value}{σ σ':Heap}(h:stepA P st call ops o τ σ=some (τ',σ')) {l:List Nat}(hl:∀ d,o.dst=some d->d∈l):Keeps l τ τ':=by
 have put:∀ v,Keeps l τ (putT τ o.dst v):=by
  intro v;unfold putT;split
  ·rename_i d hd
   refine ⟨by simp,fun j hj=>?_⟩
   rw [Array.getElem?_setIfInBounds];split
   ·rename_i e; subst e; exact absurd (hl _ hd) hj
   ·rfl
  ·exact .refl _ _
 unfold stepA at h;split at h
 ·split at h
  ·split at h
   ·simp only [Option.some.injEq,Prod.mk.injEq] at h
    rw [<- h.1]; exact put _
   ·cases h
  ·simp only [Option.some.injEq,Prod.mk.injEq] at h
   rw [<- h.1]; exact put _
 ·cases h
theorem runA_keeps {ops:Array Oper}{l:List Nat}:∀ (os:List Oper) {τ τ':Array Value}{σ σ':Heap},(∀ o∈os,∀ d,o.dst=some d->d∈l)->runA P st call ops os τ σ=some (τ',σ')->Keeps l τ τ'
 | [],τ,τ',σ,σ',_,h=>by
  simp only [runA,Option.some.injEq,Prod.mk.injEq] at h
  rw [<- h.1]; exact .refl _ _
 | o :: os,τ,τ',σ,σ',hl,h=>by
  simp only [runA] at h;split at h
  ·rename_i τ1 σ1 h1
   exact (stepA_keeps h1 (hl o (by simp))).trans (runA_keeps os (fun x hx=>hl x (by simp [hx])) h)
  ·cases h
theorem traceA_keeps {ops:Array Oper}{l:List Nat}:∀ (os:List Oper) {τ:Array Value}{σ:Heap}{tr:List (Array Value×Heap)},(∀ o∈os,∀ d,o.dst=some d->d∈l)->traceA P st call ops os τ σ=some tr->∀ s∈tr,Keeps l τ s.1
 | [],τ,σ,tr,_,h,s,hs=>by
  simp only [traceA,Option.some.injEq] at h;subst h
  obtain rfl:s=(τ,σ):=by simpa using hs
  exact .refl _ _
 | o :: os,τ,σ,tr,hl,h,s,hs=>by
  simp only [traceA] at h;split at h
  ·rename_i τ1 σ1 h1;simp only [Option.map_eq_some_iff] at h;obtain ⟨tr1,h2,rfl⟩:=h
   rcases List.mem_cons.1 hs with rfl | hs
   ·exact .refl _ _
   ·exact (stepA_keeps h1 (hl o (by simp))).trans (traceA_keeps os (fun x hx=>hl x (by simp [hx])) h2 s hs)
  ·cases h
theorem iterA_keeps {f:Array Value->Heap->Out}{l:List Nat}(hf:∀ τ σ e τ' σ',f τ σ=some (e,τ',σ')->Keeps l τ τ'):∀ (n:Nat) {τ τ':Array Value}{σ σ':Heap}{e:AE.Ex},iterA f n τ σ=some (e,τ',σ')->Keeps l τ τ'
 | 0,_,_,_,_,_,h=>by simp [iterA] at h
 | n+1,τ,τ',σ,σ',e,h=>by
  simp only [iterA] at h;split at h
  ·rename_i τ1 σ1 h1;exact (hf _ _ _ _ _ h1).trans (iterA_keeps hf n h)
  ·exact hf _ _ _ _ _ h
theorem execA_keeps {n:Nat}:∀ (c:Code) {τ τ':Array Value}{σ σ':Heap}{e:AE.Ex},execA P st call n c τ σ=some (e,τ',σ')->Keeps (dsts c) τ τ':=by
 intro c
 induction c with
 | skip=>intro τ τ' σ σ' e h; simp only [execA,Option.some.injEq,Prod.mk.injEq] at h; rw [<- h.2.1]; exact .refl _ _
 | label l=>intro τ τ' σ σ' e h; simp only [execA,Option.some.injEq,Prod.mk.injEq] at h; rw [<- h.2.1]; exact .refl _ _
 | exit id=>intro τ τ' σ σ' e h; simp only [execA,Option.some.injEq,Prod.mk.injEq] at h; rw [<- h.2.1]; exact .refl _ _
 | ret=>intro τ τ' σ σ' e h; simp only [execA,Option.some.injEq,Prod.mk.injEq] at h; rw [<- h.2.1]; exact .refl _ _
 | region id ops draw =>
  intro τ τ' σ σ' e h;simp only [execA] at h
  have hl:∀ o∈ops.toList,∀ d,o.dst=some d->d∈dsts (.region id ops draw):=fun o ho d hd=>by
   simp only [dsts,List.mem_filterMap];exact ⟨o,ho,hd⟩
  split at h
  ·rename_i τ1 σ1 h1;simp only [Option.some.injEq,Prod.mk.injEq] at h;obtain ⟨_,rfl,_⟩:=h;split at h1
   ·unfold drawA at h1;split at h1
    ·split at h1
     ·rename_i tr htr;split at h1
      ·exact traceA_keeps _ hl htr _ (List.mem_of_getLast? h1)
      ·cases h1
     ·cases h1
    ·cases h1
   ·exact runA_keeps _ hl h1
  ·cases h
 | seq a b iha ihb =>
  intro τ τ' σ σ' e h;simp only [execA] at h;split at h
  ·rename_i τ1 σ1 h1
   exact ((iha h1).mono fun x hx=>by simp [dsts,hx]).trans ((ihb h).mono fun x hx=>by simp [dsts,hx])
  ·exact (iha h).mono fun x hx=>by simp [dsts,hx]
 | cond c a b iha ihb =>
  intro τ τ' σ σ' e h;simp only [execA] at h;split at h
  ·split at h
   ·exact (iha h).mono fun x hx=>by simp [dsts,hx]
   ·exact (ihb h).mono fun x hx=>by simp [dsts,hx]
  ·cases h
 | block id a iha =>
  intro τ τ' σ σ' e h;simp only [execA] at h;split at h
  ·rename_i k τ1 σ1 h1;split at h
   ·simp only [Option.some.injEq,Prod.mk.injEq] at h
    rw [<- h.2.1]; exact iha h1
   ·simp only [Option.some.injEq,Prod.mk.injEq] at h
    rw [<- h.2.1]; exact iha h1
  ·exact iha h
 | loop a iha=>intro τ τ' σ σ' e h; exact iterA_keeps (fun _ _ _ _ _ h=>iha h) n h
 | rangeFunc f ps as b _ _ =>
  intro τ τ' σ σ' e h;simp only [execA] at h
  split at h<;>first | (cases h; done) | skip
  split at h<;>first | (cases h; done) | skip
  split at h<;>first | (cases h; done) | skip
  split at h<;>first | (cases h; done) | skip
  unfold jumpA at h
  split at h<;>first | (cases h; done) | skip
  all_goals
   simp only [Option.some.injEq,Prod.mk.injEq] at h;rw [h.2.1];exact .refl _ _
 | scope b ih=>intro τ τ' σ σ' e h; exact ih h
 | goto l=>intro τ τ' σ σ' e h; simp [execA] at h
 | refuse y=>intro τ τ' σ σ' e h; simp [execA] at h
end
def join1 (t:Bool) (a b:DV):DV:=match a,b with
 | .v (.int k x),.v (.int k' y)=>match decide (k=k') with
  | true=>.v (.int k (bif t then x else y))
  | false=>.any
 | .v (.bool x),.v (.bool y)=>.v (.bool (bif t then x else y))
 | .v (.string x),.v (.string y)=>.v (.string (bif t then x else y))
 | .os id i n,.os id' i' n'=>match Nat.beq id id',Nat.beq i i',Nat.beq n n' with
  | true,true,true=>.os id i n
  | _,_,_=>.any
 | .po id i n,.po id' i' n'=>match Nat.beq id id',Nat.beq i i',Nat.beq n n' with
  | true,true,true=>.po id i n
  | _,_,_=>.any
 | _,_=>.any
def joinL (t:Bool):List DV->List DV->List DV
 | a :: r,b :: q=>join1 t a b :: joinL t r q
 | _,_=>[]
def joinD (t:Bool) (a b:DV):DV:=match a,b with
 | .agg a,.agg b=>match Nat.beq a.length b.length with
  | true=>.agg (joinL t a b)
  | false=>.any
 | a,b=>join1 t a b
theorem join1_true {C:Cf}{μ:Mu}{d1 d2:DV}{x:Value}(h:DR C μ d1 x):DR C μ (join1 true d1 d2) x:=by
 unfold join1;split
 ·split
  ·exact h
  ·exact .any _
 ·exact h
 ·exact h
 ·split
  ·exact h
  ·exact .any _
 ·split
  ·exact h
  ·exact .any _
 ·exact .any _
theorem join1_false {C:Cf}{μ:Mu}{d1 d2:DV}{x:Value}(h:DR C μ d2 x):DR C μ (join1 false d1 d2) x:=by
 unfold join1;split
 ·split
  ·rename_i e;have e:=of_decide_eq_true e;subst e;exact h
  ·exact .any _
 ·exact h
 ·exact h
 ·split
  ·rename_i h1 h2 h3;obtain rfl:=Nat.eq_of_beq_eq_true h1;obtain rfl:=Nat.eq_of_beq_eq_true h2;obtain rfl:=Nat.eq_of_beq_eq_true h3;exact h
  ·exact .any _
 ·split
  ·rename_i h1 h2 h3;obtain rfl:=Nat.eq_of_beq_eq_true h1;obtain rfl:=Nat.eq_of_beq_eq_true h2;obtain rfl:=Nat.eq_of_beq_eq_true h3;exact h
  ·exact .any _
 ·exact .any _
theorem joinL_true {C:Cf}{μ:Mu}:∀ {a b:List DV}{xs:List Value},a.length=b.length->DRL C μ a xs->DRL C μ (joinL true a b) xs
 | [],b,xs,_,h=>by obtain rfl:=h.nil_inv; exact .nil _ _
 | d :: a,[],xs,e,_=>by simp at e
 | d :: a,c :: b,xs,e,h=>by
  obtain ⟨x,ys,rfl,h1,h2⟩:=h.cons_inv
  exact .cons (join1_true h1) (joinL_true (by simpa using e) h2)
theorem joinL_false {C:Cf}{μ:Mu}:∀ {a b:List DV}{xs:List Value},a.length=b.length->DRL C μ b xs->DRL C μ (joinL false a b) xs
 | [],[],xs,_,h=>by obtain rfl:=h.nil_inv; exact .nil _ _
 | [],c :: b,xs,e,_=>by simp at e
 | d :: a,[],xs,e,_=>by simp at e
 | d :: a,c :: b,xs,e,h=>by
  obtain ⟨x,ys,rfl,h1,h2⟩:=h.cons_inv
  exact .cons (join1_false h1) (joinL_false (by simpa using e) h2)
theorem joinD_true {C:Cf}{μ:Mu}{d1 d2:DV}{x:Value}(h:DR C μ d1 x):DR C μ (joinD true d1 d2) x:=by
 unfold joinD;split
 ·split
  ·rename_i e
   cases h with
   | agg _ vs h1 h2 =>
    have:=joinL_true (Nat.eq_of_beq_eq_true e) (xs:=vs.toList) (C:=C) (μ:=μ) ⟨by simpa using h1,fun i d x hd hx=>h2 i d x hd (by simpa using hx)⟩
    exact .agg _ _ (by simpa using this.1) fun i d x hd hx=>this.2 i d x hd (by simpa using hx)
  ·exact .any _
 ·exact join1_true h
theorem joinD_false {C:Cf}{μ:Mu}{d1 d2:DV}{x:Value}(h:DR C μ d2 x):DR C μ (joinD false d1 d2) x:=by
 unfold joinD;split
 ·split
  ·rename_i e
   cases h with
   | agg _ vs h1 h2 =>
    have:=joinL_false (Nat.eq_of_beq_eq_true e) (xs:=vs.toList) (C:=C) (μ:=μ) ⟨by simpa using h1,fun i d x hd hx=>h2 i d x hd (by simpa using hx)⟩
    exact .agg _ _ (by simpa using this.1) fun i d x hd hx=>this.2 i d x hd (by simpa using hx)
  ·exact .any _
 ·exact join1_false h
def joinT (t:Bool) (τ τ1 τ2:List DV):List Nat->List DV
 | []=>τ
 | j :: r=>(joinT t τ τ1 τ2 r).set j (joinD t (τ1.getD j .any) (τ2.getD j .any))
theorem joinT_length {t:Bool}{τ τ1 τ2:List DV}:∀ (l:List Nat),(joinT t τ τ1 τ2 l).length=τ.length
 | []=>rfl
 | j :: r=>by simp [joinT,joinT_length r]
theorem joinT_get {t:Bool}{τ τ1 τ2:List DV}{i:Nat}:∀ (l:List Nat) {d:DV},(joinT t τ τ1 τ2 l)[i]?=some d->(i∈l/\d=joinD t (τ1.getD i .any) (τ2.getD i .any))\/(i ∉ l/\τ[i]?=some d)
 | [],d,h=>.inr ⟨by simp,h⟩
 | j :: r,d,h=>by
  simp only [joinT] at h;rw [List.getElem?_set] at h;split at h
  ·rename_i e;subst e;split at h
   ·exact .inl ⟨by simp,(Option.some.inj h).symm⟩
   ·cases h
  ·rename_i e
   rcases joinT_get r h with ⟨h1,h2⟩ | ⟨h1,h2⟩
   ·exact .inl ⟨by simp [h1],h2⟩
   ·exact .inr ⟨by simp [h1,Ne.symm e],h2⟩
def updJ (t:Bool) (c c1 c2:DC):List Nat->DC
 | []=>c
 | f :: r=>.upd (updJ t c c1 c2 r) 0 f (joinD t (c1.get 0 f) (c2.get 0 f))
theorem updJ_n {t:Bool}{c c1 c2:DC}:∀ (l:List Nat),(updJ t c c1 c2 l).n=c.n
 | []=>rfl
 | _ :: r=>updJ_n r
theorem updJ_good {t:Bool}{c c1 c2:DC}(h:c.good):∀ (l:List Nat),(updJ t c c1 c2 l).good
 | []=>h
 | _ :: r=>updJ_good h r
theorem updJ_get {t:Bool}{c c1 c2:DC}{i f:Nat}:∀ (l:List Nat),(updJ t c c1 c2 l).get i f=if i=0/\f∈l then joinD t (c1.get 0 f) (c2.get 0 f) else c.get i f
 | []=>by simp [updJ]
 | g :: r=>by
  show (if i=0/\f=g then _ else (updJ t c c1 c2 r).get i f)=_
  rw [updJ_get r]
  by_cases h:i=0/\f=g
  ·obtain ⟨rfl,rfl⟩:=h;simp
  ·rw [if_neg h]
   by_cases h2:i=0/\f∈r
   ·rw [if_pos h2,if_pos ⟨h2.1,by simp [h2.2]⟩]
   ·rw [if_neg h2,if_neg];intro ⟨h3,h4⟩
    rcases List.mem_cons.1 h4 with h4 | h4
    ·exact h ⟨h3,h4⟩
    ·exact h2 ⟨h3,h4⟩
def SameBut (fs:List Nat) (c c1 c2:DC):Prop:=(c1.n=c.n/\c2.n=c.n)/\∀ i f,¬ (i=0/\f∈fs)->c1.get i f=c.get i f/\c2.get i f=c.get i f
noncomputable def joinB (t:Bool) (fs:List Nat) (w x y:Option (Option DBlk)):Option DBlk :=
 match w,x,y with
 | some (some a),some (some b),some (some c)=>match Nat.beq a.k b.k,Nat.beq a.k c.k with
  | true,true=>some ⟨a.k,updJ t a.c b.c c.c fs⟩
  | _,_=>none
 | _,_,_=>none
def SameB (fs:List Nat) (w x y:Option (Option DBlk)):Prop :=
 match w,x,y with
 | some (some a),some (some b),some (some c)=>SameBut fs a.c b.c c.c
 | _,_,_=>True
def wipe (σ:DHeap):List (Nat×List Nat)->DHeap
 | []=>σ
 | i :: r=>(wipe σ r).set i.1 none
def SameAll (σ σ1 σ2:DHeap):List (Nat×List Nat)->Prop
 | []=>True
 | i :: r=>SameB i.2 σ[i.1]? σ1[i.1]? σ2[i.1]?/\SameAll σ σ1 σ2 r
noncomputable def joinH (t:Bool) (σ σ1 σ2:DHeap):List (Nat×List Nat)->DHeap
 | []=>σ
 | i :: r=>(joinH t σ σ1 σ2 r).set i.1 (joinB t i.2 σ[i.1]? σ1[i.1]? σ2[i.1]?)
theorem wipe_length {σ:DHeap}:∀ (l:List (Nat×List Nat)),(wipe σ l).length=σ.length
 | []=>rfl
 | i :: r=>by simp [wipe,wipe_length r]
theorem joinH_length {t:Bool}{σ σ1 σ2:DHeap}:∀ (l:List (Nat×List Nat)),(joinH t σ σ1 σ2 l).length=σ.length
 | []=>rfl
 | i :: r=>by simp [joinH,joinH_length r]
theorem wipe_get {σ:DHeap}{i:Nat}:∀ {l:List (Nat×List Nat)},(∀ x∈l,x.1≠i)->(wipe σ l)[i]?=σ[i]?
 | [],_=>rfl
 | j :: r,h=>by
  simp only [wipe]
  rw [List.getElem?_set_ne (h j (by simp)),wipe_get fun x hx=>h x (by simp [hx])]
theorem joinH_get {t:Bool}{σ σ1 σ2:DHeap}{i:Nat}{b:DBlk}:∀ {l:List (Nat×List Nat)},SameAll σ σ1 σ2 l->(joinH t σ σ1 σ2 l)[i]?=some (some b)->(∃ fs,SameB fs σ[i]? σ1[i]? σ2[i]?/\joinB t fs σ[i]? σ1[i]? σ2[i]?=some b)\/((∀ x∈l,x.1≠i)/\σ[i]?=some (some b))
 | [],_,h=>.inr ⟨by simp,h⟩
 | j :: r,hs,h=>by
  simp only [joinH] at h;rw [List.getElem?_set] at h;split at h
  ·rename_i e;subst e;split at h
   ·exact .inl ⟨j.2,hs.1,Option.some.inj h⟩
   ·cases h
  ·rename_i e
   rcases joinH_get hs.2 h with h1 | ⟨h1,h2⟩
   ·exact .inl h1
   ·refine .inr ⟨fun x hx=>?_,h2⟩
    rcases List.mem_cons.1 hx with rfl | hx
    ·exact e
    ·exact h1 x hx
theorem joinB_some {t:Bool}{fs:List Nat}{w x y:Option (Option DBlk)}{b:DBlk}(h:joinB t fs w x y=some b) (hs:SameB fs w x y):∃ p a c,w=some (some p)/\x=some (some a)/\y=some (some c)/\p.k=a.k/\p.k=c.k/\SameBut fs p.c a.c c.c/\b=⟨p.k,updJ t p.c a.c c.c fs⟩:=by
 unfold joinB at h
 split at h<;>first | (cases h; done) | skip
 rename_i p a c
 split at h<;>first | (cases h; done) | skip
 rename_i h1 h2;exact ⟨p,a,c,rfl,rfl,rfl,Nat.eq_of_beq_eq_true h1,Nat.eq_of_beq_eq_true h2,hs,(Option.some.inj h).symm⟩
section
variable {α:Type}{P:Program}{st:AE.Stat}{gl:Gl}{C C':Cf}{μ μ':Mu}{σ σ':Heap}{σd σd' σ2:DHeap}{τ:Array Value}{τd:List DV}
theorem St.weak (h:St st C μ σ σd) (hlen:σd.length<=σ2.length) (hb:∀ (id:Nat) b2,σ2[id]?=some (some b2)->∃ b,σd[id]?=some (some b)/\b2.k=b.k/\b2.c.n<=b.c.n/\b2.c.good/\∀ i f,i<b2.c.n->f<b2.k->∀ x,DR C μ (b.c.get i f) x->DR C μ (b2.c.get i f) x):St st C μ σ σ2:=by
 refine ⟨h.frz,fun id b2 hb2=>?_,fun id blk b x hx hm t o=>?_,fun id id' blk blk' b x x' hx hx' hm hm'=>?_,fun id x hm=>?_,h.low,h.sta⟩
 ·obtain ⟨bb,q1,q2,q3,q4,q5⟩:=hb id b2 hb2;obtain ⟨b,L,l,h1,h2,h3,h4,h5,h6,h7⟩:=h.own id bb q1
  refine ⟨b,L,l,by rw [q2]; exact h1,by rw [q2]; exact h2,h3,h4,?_,q4,fun i f hi hf=>?_⟩
  ·rw [q2]; exact Nat.le_trans (Nat.mul_le_mul_right _ q3) h5
  ·obtain ⟨v,hv,ho,hr⟩:=h7 i f (by omega) (by omega)
   exact ⟨v,by rw [q2]; exact hv,ho,q5 i f hi hf _ hr⟩
 ·obtain ⟨bb,q1,_⟩:=hb id blk hx;exact h.sep id bb b x q1 hm t o
 ·obtain ⟨bb,q1,_⟩:=hb id blk hx;obtain ⟨bb',q1',_⟩:=hb id' blk' hx';exact h.inj id id' _ _ b x x' q1 q1' hm hm'
 ·have:=h.dom id x hm;omega
theorem Nx1.weak (h:Nx1 false C μ σ σd C' μ' σ' σd') (hlen:σd'.length<=σ2.length) (hb:∀ (id:Nat) b2,σ2[id]?=some (some b2)->∃ b,σd'[id]?=some (some b)):Nx1 false C μ σ σd C' μ' σ' σ2 :=
 ⟨⟨h.hC,h.hμ,h.len,Nat.le_trans h.lend hlen,h.fr,fun b ⟨id,blk,x,h1,h2⟩ hlt=>by
  obtain ⟨bb,hbb⟩:=hb id blk h1;exact h.img b ⟨id,bb,x,hbb,h2⟩ hlt,h.old⟩,h.one⟩
abbrev ST:=List DV×DHeap
def bare:KD ST:=fun e τ σ=>match e with
 | .normal=>some (τ,σ)
 | _=>none
def envS (gl:Gl):Env ST:=⟨fun _ _ _ _=>none,fun _=>false,gl,fun _=>none,0,fun _=>none,false⟩
theorem envS_ok:EnvOk P st (envS gl):=⟨fun _ _ _ _ _ h=>by simp [envS] at h,fun _ _ _ _ _ h=>by simp [envS] at h,fun _ _ h=>by simp [envS] at h⟩
noncomputable def joinC (P:Program) (gl:Gl) (ids:List (Nat×List Nat)):Code->Code->Bool->LoopD α:=fun a b t τ σ k =>
 match execD P (envS gl) a 1 τ σ bare,execD P (envS gl) b 1 τ σ bare with
 | some (τ1,σ1),some (τ2,σ2)=>bif holds ((wipe σ1 ids=wipe σ ids/\wipe σ2 ids=wipe σ ids)/\SameAll σ σ1 σ2 ids) then k .normal (joinT t τ τ1 τ2 (dsts a++dsts b)) (joinH t σ σ1 σ2 ids) else none
 | _,_=>none
theorem joinC_ok {ids:List (Nat×List Nat)}:JoinS P st gl (joinC (α:=α) P gl ids):=by
 intro a b t τd σd k r hx C μ τ σ h;unfold joinC at hx
 split at hx<;>first | (cases hx; done) | skip
 rename_i τ1 σ1 τ2 σ2 h1 h2;obtain ⟨hw,hx⟩:=bif_none hx;obtain ⟨⟨w1,w2⟩,hs⟩:(wipe σ1 ids=wipe σd ids/\wipe σ2 ids=wipe σd ids)/\SameAll σd σ1 σ2 ids:=holds_eq.1 hw
 have l1:σ1.length=σd.length:=by rw [<- wipe_length (σ:=σ1) ids,w1,wipe_length]
 have l2:σ2.length=σd.length:=by rw [<- wipe_length (σ:=σ2) ids,w2,wipe_length]
 have fin:∀ (c:Code) (τc:List DV) (σc:DHeap),execD P (envS gl) c 1 τd σd bare=some (τc,σc)->(∀ x∈dsts c,x∈dsts a++dsts b)->wipe σc ids=wipe σd ids->σc.length=σd.length ->
   (∀ (C:Cf) (μ:Mu) (i:Nat) x,DR C μ (τc.getD i DV.any) x->DR C μ (joinD t (τ1.getD i DV.any) (τ2.getD i DV.any)) x) ->
   (∀ (i:Nat) fs b2,SameB fs σd[i]? σ1[i]? σ2[i]?->joinB t fs σd[i]? σ1[i]? σ2[i]?=some b2->(∀ p,σd[i]?=some (some p)->p.c.good)->∃ b,σc[i]?=some (some b)/\b2.k=b.k/\b2.c.n<=b.c.n/\b2.c.good/\∀ (C:Cf) (μ:Mu) i f,i<b2.c.n->f<b2.k->∀ x,DR C μ (b.c.get i f) x->DR C μ (b2.c.get i f) x) ->
   TRes st gl C μ σ σd (fun n m=>execA P st (runF P st n m) n c τ σ) k r:=by
  intro c τc σc hc hds hwc hl hj hjb
  obtain ⟨e,τ',σ',C',μ',τd',σd',⟨N,hN⟩,g1,g2,hk⟩:=execD_some envS_ok c 1 (fun x _ g hg=>by simp [envS] at hg) h hc
  cases e with
  | exit i=>simp [bare] at hk
  | ret=>simp [bare] at hk
  | normal =>
   simp only [bare,Option.some.injEq,Prod.mk.injEq] at hk;obtain ⟨rfl,rfl⟩:=hk;have hkeep:Keeps (dsts c) τ τ':=execA_keeps c (hN N N (Nat.le_refl _) (Nat.le_refl _))
   have hgood:∀ {i:Nat} p,σd[i]?=some (some p)->p.c.good:=fun {i} p hp=>by
    obtain ⟨_,_,_,_,_,_,_,_,hg,_⟩:=h.S.own i p hp;exact hg
   have hblk:∀ (id:Nat) b2,(joinH t σd σ1 σ2 ids)[id]?=some (some b2)->∃ b,σd'[id]?=some (some b)/\b2.k=b.k/\b2.c.n<=b.c.n/\b2.c.good/\∀ i f,i<b2.c.n->f<b2.k->∀ x,DR C' μ' (b.c.get i f) x->DR C' μ' (b2.c.get i f) x:=by
    intro id b2 hb2
    rcases joinH_get hs hb2 with ⟨fs,hsb,hb2⟩ | ⟨hid,hb2⟩
    ·obtain ⟨b,q1,q2,q3,q4,q5⟩:=hjb id fs b2 hsb hb2 fun p=>hgood p
     exact ⟨b,q1,q2,q3,q4,fun i f hi hf=>q5 _ _ i f hi hf⟩
    ·have hg:=hgood b2 hb2;rw [<- wipe_get hid,<- hwc,wipe_get hid] at hb2
     exact ⟨b2,hb2,rfl,Nat.le_refl _,hg,fun _ _ _ _ _ h=>h⟩
   have hlen:σd'.length<=(joinH t σd σ1 σ2 ids).length:=by rw [joinH_length,hl]; exact Nat.le_refl _
   refine ⟨.normal,τ',σ',C',μ',_,_,⟨N,hN⟩,⟨g1.S.weak hlen hblk,⟨?_,fun i d x hd hx=>?_⟩,g1.G⟩,g2.weak hlen (fun id b2 hb2=>by obtain ⟨b,hb,_⟩:=hblk id b2 hb2; exact ⟨b,hb⟩),hx⟩
   ·rw [joinT_length,h.T.1];simp [hkeep.1]
   ·rcases joinT_get _ hd with ⟨hi,rfl⟩ | ⟨hi,hd⟩
    ·refine hj _ _ _ _ ?_;have:=g1.T.getD i undef;rw [List.getD_eq_getElem?_getD (l:=τ'.toList),hx] at this;exact this
    ·have hx':τ.toList[i]?=some x:=by
      have:=hkeep.2 i fun hm=>hi (hds i hm)
      rw [Array.getElem?_toList] at hx ⊢;rw [<- this];exact hx
     exact (h.T.2 i d x hd hx').mono g2.hC g2.hμ
 cases t with
 | true =>
  refine fin a τ1 σ1 h1 (fun x hx=>by simp [hx]) w1 l1 (fun C μ i x h=>joinD_true h) fun i fs b2 hsb hb2 hg=>?_
  obtain ⟨w,p,q,e0,e1,e2,e3,e4,e5,rfl⟩:=joinB_some hb2 hsb
  refine ⟨p,e1,e3,by rw [updJ_n]; exact Nat.le_of_eq e5.1.1.symm,updJ_good (hg w e0) _,fun C μ i f hi hf x h=>?_⟩
  show DR C μ ((updJ true w.c p.c q.c fs).get i f) x;rw [updJ_get];split
  ·rename_i hif;obtain ⟨rfl,_⟩:=hif;exact joinD_true h
  ·rename_i hif;rw [<- (e5.2 i f hif).1];exact h
 | false =>
  refine fin b τ2 σ2 h2 (fun x hx=>by simp [hx]) w2 l2 (fun C μ i x h=>joinD_false h) fun i fs b2 hsb hb2 hg=>?_
  obtain ⟨w,p,q,e0,e1,e2,e3,e4,e5,rfl⟩:=joinB_some hb2 hsb
  refine ⟨q,e2,e4,by rw [updJ_n]; exact Nat.le_of_eq e5.1.2.symm,updJ_good (hg w e0) _,fun C μ i f hi hf x h=>?_⟩
  show DR C μ ((updJ false w.c p.c q.c fs).get i f) x;rw [updJ_get];split
  ·rename_i hif;obtain ⟨rfl,_⟩:=hif;exact joinD_false h
  ·rename_i hif;rw [<- (e5.2 i f hif).2];exact h
noncomputable def joins (P:Program) (gl:Gl):List (Nat×List (Nat×List Nat))->Nat->Option (Code->Code->Bool->LoopD α)
 | [],_=>none
 | (p,ids) :: r,q=>match Nat.beq q p with
  | true=>some (joinC P gl ids)
  | false=>joins P gl r q
theorem joins_ok:∀ {mg:List (Nat×List (Nat×List Nat))}{p:Nat}{M},joins (α:=α) P gl mg p=some M->JoinS P st gl M
 | [],p,M,h=>by cases h
 | (q,ids) :: r,p,M,h=>by
  unfold joins at h;split at h
  ·obtain rfl:=Option.some.inj h;exact joinC_ok
  ·exact joins_ok h
end
end Go.DE
