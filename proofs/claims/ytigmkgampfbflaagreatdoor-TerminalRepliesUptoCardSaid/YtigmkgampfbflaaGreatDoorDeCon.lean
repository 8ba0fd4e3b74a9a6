/-
 The symbolic evaluator: contracts of functions; what a caller makes of them; a function's contract from its body; the model's call.
 Conditions: see the theorems.
-/
import Derived.Test.YtigmkgampfbflaaGreatDoorDeWeak
import Derived.Test.YtigmkgampfbflaaGreatDoorAeFast4
namespace Go.DE
open Go Go.AE Go.RowKit
def Low (d:DV):Prop:=∀ C C' μ x,(∀ b s o v,C false b s o=some v->C' false b s o=some v)->DR C μ d x->DR C' μ d x
theorem Low.v (x:Value):Low (.v x):=fun _ _ _ _ _ h=>by cases h; exact .v _ (by assumption)
theorem Low.any:Low .any:=fun _ _ _ _ _ _=>.any _
theorem Low.os (id i n:Nat):Low (.os id i n):=fun _ _ _ _ _ h=>by
 obtain ⟨b,k,L,off,cap,rfl,hm,hk,hc⟩:=h.os_inv;exact .os id i n b k L off cap hm hk hc
theorem Low.po (id i n:Nat):Low (.po id i n):=fun _ _ _ _ _ h=>by
 obtain ⟨b,k,L,rfl,hm,hk⟩:=h.po_inv;exact .po id i n b k L _ hm hk rfl
theorem Low.sl {g:Nat->Nat->DV}{k n:Nat}(h:∀ i f,i<n->f<k->Low (g i f)):Low (.sl false g k n):=fun C C' μ y hC hy=>by
 rcases hy.sl_inv with ⟨a,cap,w,rfl,hc,hk,h1,h2⟩ | ⟨rfl,rfl⟩
 ·exact .sl _ g k n a cap w hc hk (fun i f hi hf=>⟨hC _ _ _ _ (h1 i f hi hf).1,(h1 i f hi hf).2⟩) fun i f hi hf=>h i f hi hf C C' _ _ hC (h2 i f hi hf)
 ·exact .slnil _ g k
theorem Low.agg {cs:List DV}(h:∀ c∈cs,Low c):Low (.agg cs):=fun C C' μ y hC hy=>by
 cases hy with
 | agg _ vs h1 h2=>exact .agg cs vs h1 fun i d x hd hx=>h d (List.mem_of_getElem? hd) C C' μ x hC (h2 i d x hd hx)
theorem Low.tup {cs:List DV}(h:∀ c∈cs,Low c):Low (.tup cs):=fun C C' μ y hC hy=>by
 cases hy with
 | tup _ vs h1 h2=>exact .tup cs vs h1 fun i d x hd hx=>h d (List.mem_of_getElem? hd) C C' μ x hC (h2 i d x hd hx)
theorem Low.of_isV {d:DV}(h:isV d=true):Low d:=by
 cases d<;>first | exact Low.v _ | cases h
structure LowR (R:DV×DHeap):Prop where
 d:Low R.1
 b:∀ (id:Nat) blk,R.2[id]?=some (some blk)->∀ i f,i<blk.c.n->f<blk.k->Low (blk.c.get i f)
def lend1:DV->DV
 | .v x=>.v x
 | .sl t g k n=>.sl t g k n
 | .pf t g k n i f=>.pf t g k n i f
 | .agg _=>.any
 | .tup _=>.any
 | .os _ _ _=>.any
 | .po _ _ _=>.any
 | .fn _ _ _=>.any
 | .any=>.any
section
variable {α:Type}
def lendA (σ:DHeap) (d:DV) (k:DV->Option α):Option α :=
 match d with
 | .os id i n=>match σ[id]? with
  | some (some b)=>bif decide (i+n<=b.c.n) then k (.sl true (fun j f=>lend1 (b.c.get (i+j) f)) b.k n) else none
  | _=>none
 | .po id i f=>match σ[id]? with
  | some (some b)=>bif decide (0<b.c.n) then k (.pf true (fun j f=>lend1 (b.c.get j f)) b.k b.c.n i f) else none
  | _=>none
 | d=>k (lend1 d)
def lendAL (σ:DHeap):List DV->(List DV->Option α)->Option α
 | [],k=>k []
 | d :: r,k=>lendA σ d fun d'=>lendAL σ r fun r'=>k (d' :: r')
def lendT (σ:DHeap) (d:DV) (k:DV->Option α):Option α :=
 match d with
 | .agg cs=>lendAL σ cs fun cs'=>k (.agg cs')
 | .fn f a b=>lendAL σ a fun a'=>lendAL σ b fun b'=>k (.fn f a' b')
 | d=>lendA σ d k
def lendTL (σ:DHeap):List DV->(List DV->Option α)->Option α
 | [],k=>k []
 | d :: r,k=>lendT σ d fun d'=>lendTL σ r fun r'=>k (d' :: r')
end
def CallF (C:Cf) (st:AE.Stat) (σ:Heap):Cf:=fun t b s o=>if t then cellA st σ ⟨b,0,s⟩ o else C false b s o
section
variable {α:Type}{st:AE.Stat}{gl:Gl}{C:Cf}{μ:Mu}{σ:Heap}{σd:DHeap}{P:Program}{r:α}
theorem callF_of (h:St st C μ σ σd) {t:Bool}{b:Nat}{s:Option Nat}{o:Nat}{v:Value}(hv:C t b s o=some v):CallF C st σ t b s o=some v:=by
 unfold CallF
 cases t with
 | true=>exact h.frz _ _ _ _ _ hv
 | false=>exact hv
theorem callF_state (h:St st C μ σ σd):St st (CallF C st σ) noMu σ []:=by
 refine ⟨fun t b s o v hv=>?_,fun id blk hb=>by simp at hb,fun id blk b x hb=>by simp at hb,fun id id' blk blk' b x x' hb=>by simp at hb,fun id x hm=>(nomatch hm),fun t b o v hv=>?_,fun b s o v hv=>h.sta b s o v hv⟩
 ·unfold CallF at hv;split at hv
  ·exact hv
  ·exact h.frz _ _ _ _ _ hv
 ·unfold CallF at hv;split at hv
  ·unfold cellA at hv;simp only at hv;split at hv
   ·rename_i hl;exact (List.getElem?_eq_some_iff.1 hl).1
   ·cases hv
  ·exact h.low _ _ _ _ hv
theorem lend1_DR (h:St st C μ σ σd) {d:DV}{x:Value}(hd:DR C μ d x):DR (CallF C st σ) noMu (lend1 d) x:=by
 have hle:C.le (CallF C st σ):=fun _ _ _ _ _ hv=>callF_of h hv
 cases d with
 | v y=>exact (Clo.v y _ _ noMu _ hd).mono hle (Mu.le_refl _)
 | sl t g k n=>exact (Clo.sl t g k n _ _ noMu _ hd).mono hle (Mu.le_refl _)
 | pf t g k n i f=>exact (Clo.pf t g k n i f _ _ noMu _ hd).mono hle (Mu.le_refl _)
 | _=>exact .any _
theorem lendA_some (h:St st C μ σ σd) {d:DV}{x:Value}(hd:DR C μ d x) {k:DV->Option α}(hx:lendA σd d k=some r):∃ d',DR (CallF C st σ) noMu d' x/\k d'=some r:=by
 unfold lendA at hx;split at hx
 ·rename_i id i n
  split at hx<;>first | (cases hx; done) | skip
  rename_i blk hb;obtain ⟨hle,hx⟩:=dec_none hx;obtain ⟨b0,L0,l,h1,h2,h3,h4,h5,h6,h7⟩:=h.own id blk hb;obtain ⟨b,m,L,off,cap,rfl,hm,hk,hc⟩:=hd.os_inv;rw [hm] at h1;simp only [Option.some.injEq,Prod.mk.injEq] at h1;obtain ⟨rfl,rfl,rfl⟩:=h1
  have hcap:CapOk n blk.k cap:=by
   rcases hc with ⟨c1,c2,_⟩ | ⟨c1,_⟩
   ·exact .inl ⟨c1,c2⟩
   ·exact .inr c1
  have hoff:n=0\/off=i*blk.k:=by
   rcases hc with ⟨c1,c2,c3 | c3⟩ | c3
   ·exact .inl (by omega)
   ·exact .inr c3.1
   ·exact .inr c3.2
  have key:∀ j f,j<n->f<blk.k->∃ v,l[(i+j)*blk.k+f]?=some v/\v.oneCell'=true/\DR C μ (blk.c.get (i+j) f) v:=fun j f hj hf=>h7 (i+j) f (by omega) hf
  refine ⟨_,.sl true _ blk.k n ⟨b,off,none⟩ cap (fun j f=>(l[(i+j)*blk.k+f]?).getD undef) hcap hk (fun j f hj hf=>?_) fun j f hj hf=>?_,hx⟩
  ·obtain ⟨v,hv,ho,_⟩:=key j f hj hf;simp only [hv,Option.getD_some];refine ⟨?_,ho⟩;unfold CallF cellA;simp only [if_true,h3]
   rcases hoff with rfl | rfl
   ·omega
   ·rw [show i*blk.k+j*blk.k+f=(i+j)*blk.k+f by rw [Nat.add_mul]]
    exact hv
  ·obtain ⟨v,hv,_,hr⟩:=key j f hj hf;simp only [hv,Option.getD_some];exact lend1_DR h hr
 ·rename_i id i f
  split at hx<;>first | (cases hx; done) | skip
  rename_i blk hb;obtain ⟨hlt,hx⟩:=dec_none hx;obtain ⟨b0,L0,l,h1,h2,h3,h4,h5,h6,h7⟩:=h.own id blk hb;obtain ⟨b,m,L,rfl,hm,hk⟩:=hd.po_inv;rw [hm] at h1;simp only [Option.some.injEq,Prod.mk.injEq] at h1;obtain ⟨rfl,rfl,rfl⟩:=h1
  refine ⟨_,.pf true _ blk.k blk.c.n i f ⟨b,0,none⟩ _ (fun j f=>(l[j*blk.k+f]?).getD undef) hk hlt (by simp) (fun j f hj hf=>?_) fun j f hj hf=>?_,hx⟩
  ·obtain ⟨v,hv,ho,_⟩:=h7 j f hj hf;simp only [hv,Option.getD_some];refine ⟨?_,ho⟩;unfold CallF cellA;simp only [if_true,h3,Nat.zero_add];exact hv
  ·obtain ⟨v,hv,_,hr⟩:=h7 j f hj hf;simp only [hv,Option.getD_some];exact lend1_DR h hr
 ·exact ⟨_,lend1_DR h hd,hx⟩
theorem lendAL_some (h:St st C μ σ σd):∀ {ds:List DV}{xs:List Value},DRL C μ ds xs->∀ {k:List DV->Option α},lendAL σd ds k=some r->∃ ds',DRL (CallF C st σ) noMu ds' xs/\k ds'=some r
 | [],xs,hd,k,hx=>by obtain rfl:=hd.nil_inv; exact ⟨[],.nil _ _,hx⟩
 | d :: ds,xs,hd,k,hx=>by
  obtain ⟨x,ys,rfl,h1,h2⟩:=hd.cons_inv;obtain ⟨d',e1,hx⟩:=lendA_some h h1 hx;obtain ⟨ds',e2,hx⟩:=lendAL_some h h2 hx;exact ⟨d' :: ds',.cons e1 e2,hx⟩
theorem lendT_some (h:St st C μ σ σd) {d:DV}{x:Value}(hd:DR C μ d x) {k:DV->Option α}(hx:lendT σd d k=some r):∃ d',DR (CallF C st σ) noMu d' x/\k d'=some r:=by
 unfold lendT at hx;split at hx
 ·rename_i cs
  cases hd with
  | agg _ vs h1 h2 =>
   obtain ⟨cs',e,hx⟩:=lendAL_some h (xs:=vs.toList) ⟨by simpa using h1,fun i d x hd hx=>h2 i d x hd (by simpa using hx)⟩ hx
   exact ⟨_,.agg cs' vs (by simpa using e.1) fun i d x hd hx=>e.2 i d x hd (by simpa using hx),hx⟩
 ·rename_i f a b
  cases hd with
  | fn _ _ _ u v h1 h2 h3 h4 =>
   obtain ⟨a',e,hx⟩:=lendAL_some h (xs:=u.toList) ⟨by simpa using h1,fun i d x hd hx=>h3 i d x hd (by simpa using hx)⟩ hx
   obtain ⟨b',e2,hx⟩:=lendAL_some h (xs:=v.toList) ⟨by simpa using h2,fun i d x hd hx=>h4 i d x hd (by simpa using hx)⟩ hx
   exact ⟨_,.fn f a' b' u v (by simpa using e.1) (by simpa using e2.1) (fun i d x hd hx=>e.2 i d x hd (by simpa using hx)) fun i d x hd hx=>e2.2 i d x hd (by simpa using hx),hx⟩
 ·exact lendA_some h hd hx
theorem lendTL_some (h:St st C μ σ σd):∀ {ds:List DV}{xs:List Value},DRL C μ ds xs->∀ {k:List DV->Option α},lendTL σd ds k=some r->∃ ds',DRL (CallF C st σ) noMu ds' xs/\k ds'=some r
 | [],xs,hd,k,hx=>by obtain rfl:=hd.nil_inv; exact ⟨[],.nil _ _,hx⟩
 | d :: ds,xs,hd,k,hx=>by
  obtain ⟨x,ys,rfl,h1,h2⟩:=hd.cons_inv;obtain ⟨d',e1,hx⟩:=lendT_some h h1 hx;obtain ⟨ds',e2,hx⟩:=lendTL_some h h2 hx;exact ⟨d' :: ds',.cons e1 e2,hx⟩
end
abbrev Res:=Nat->DV×DHeap
abbrev ConF:=List DV->(Res->Option Unit)->Option Unit
def ConOkZ (z:Bool) (P:Program) (st:AE.Stat) (f:FuncId) (F:ConF):Prop :=
 ∀ args k,F args k=some ()->∀ s C σ vs,St st C noMu σ []->DRL C noMu args vs->∃ R:Res,k R=some ()/\LowR (R s) /\
  ∃ v σ' C' μ',Lim (fun n m=>enterA P (runF P st n m) f vs σ) (v,σ')/\St st C' μ' σ' (List.replicate s none++(R s).2)/\DR C' μ' (R s).1 v/\(∀ id x,μ' id=some x->s<=id) /\
   σ.length<=σ'.length/\(∀ b,b<σ.length->σ'[b]?=σ[b]?)/\(∀ b,Live μ' (List.replicate s none++(R s).2) b->σ.length<=b)/\∀ b s o v,C' false b s o=some v->C false b s o=some v\/(z=true/\s=none/\σ.length<=b)
abbrev ConOk (P:Program) (st:AE.Stat) (f:FuncId) (F:ConF):Prop:=ConOkZ false P st f F
def conE (F:ConF):List DV->DHeap->(DV->DHeap->Option Unit)->Option Unit:=fun args σ k =>
 lendTL σ args fun args'=>F args' fun R=>k (R σ.length).1 (σ++(R σ.length).2)
section
variable {st:AE.Stat}{gl:Gl}{C:Cf}{μ:Mu}{σ:Heap}{σd:DHeap}{P:Program}{f:FuncId}{F:ConF}
theorem repl_get {s id:Nat}{l:DHeap}{blk:DBlk}:(List.replicate s none++l)[id]?=some (some blk) ↔ s<=id/\l[id-s]?=some (some blk):=by
 by_cases h:id<s
 ·rw [List.getElem?_append_left (by simpa using h),List.getElem?_replicate,if_pos h]
  constructor
  ·intro e; simp at e
  ·intro e; omega
 ·rw [List.getElem?_append_right (by simpa using Nat.le_of_not_lt h),List.length_replicate]
  exact ⟨fun e=>⟨by omega,e⟩,fun e=>e.2⟩
theorem conE_some {z:Bool}(hF:ConOkZ z P st f F) {args:List DV}{vs:List Value}{k:DV->DHeap->Option Unit}(h:St st C μ σ σd) (ha:DRL C μ args vs) (hx:conE F args σd k=some ()) :
  ∃ v σ' C2 μ' d σd',Lim (fun n m=>enterA P (runF P st n m) f vs σ) (v,σ')/\St st C2 μ' σ' σd'/\Nx1 z C μ σ σd C2 μ' σ' σd'/\DR C2 μ' d v/\k d σd'=some ()/\∀ b,b<σ.length->σ'[b]?=σ[b]?:=by
 obtain ⟨args',hargs,hx⟩:=lendTL_some h ha hx;obtain ⟨R,hk,hlow,v,σ',C',μ',hL,h1,h2,h3,h4,h5,h6,h7⟩:=hF args' _ hx σd.length _ σ vs (callF_state h) hargs
 let C2:Cf:=fun t b s o=>if t=false/\s=none/\σ.length<=b then C' false b none o else C t b s o
 have hC2:∀ t b s o v,C2 t b s o=some v->(t=false/\s=none/\σ.length<=b/\C' false b none o=some v)\/C t b s o=some v:=fun t b s o v hv=>by
  by_cases q:t=false/\s=none/\σ.length<=b
  ·rw [show C2 t b s o=C' false b none o from if_pos q] at hv;exact .inl ⟨q.1,q.2.1,q.2.2,hv⟩
  ·rw [show C2 t b s o=C t b s o from if_neg q] at hv;exact .inr hv
 have hle:C.le C2:=fun t b s o v hv=>by
  by_cases q:t=false/\s=none/\σ.length<=b
  ·rw [q.2.1] at hv;have:=h.low t b o v hv;omega
  ·exact (if_neg q).trans hv
 have toC:∀ {d x},Low d->DR C' μ' d x->DR C2 μ' d x:=fun hd hr=>hd _ _ _ _ (fun b s o v hv=>by
  rcases h7 b s o v hv with q | ⟨_,q2,q3⟩
  ·exact hle false b s o v q
  ·subst q2;exact (if_pos ⟨rfl,rfl,q3⟩).trans hv) hr
 let μ2:Mu:=fun id=>if id<σd.length then μ id else μ' id
 have le1:μ.le μ2:=fun id x hx=>by
  simp only [μ2];rw [if_pos (h.dom id x hx).1];exact hx
 have le2:μ'.le μ2:=fun id x hx=>by
  have:=h3 id x hx;simp only [μ2]
  rw [if_neg (by omega)]
  exact hx
 have old:∀ {id:Nat}{x},id<σd.length->μ2 id=some x->μ id=some x:=fun hid hx=>by
  simp only [μ2] at hx;rw [if_pos hid] at hx;exact hx
 have new:∀ {id:Nat}{x},σd.length<=id->μ2 id=some x->μ' id=some x:=fun hid hx=>by
  simp only [μ2] at hx
  rw [if_neg (by omega)] at hx
  exact hx
 have live:∀ {id:Nat}{blk},(σd++(R σd.length).2)[id]?=some (some blk)->(id<σd.length/\σd[id]?=some (some blk))\/(σd.length<=id/\(R σd.length).2[id-σd.length]?=some (some blk)/\(List.replicate σd.length none++(R σd.length).2)[id]?=some (some blk)):=by
  intro id blk hb
  by_cases hid:id<σd.length
  ·rw [List.getElem?_append_left hid] at hb;exact .inl ⟨hid,hb⟩
  ·rw [List.getElem?_append_right (by omega)] at hb
   exact .inr ⟨by omega,hb,repl_get.2 ⟨by omega,hb⟩⟩
 have hge:∀ {id:Nat}{blk b x},(List.replicate σd.length none++(R σd.length).2)[id]?=some (some blk)->μ' id=some (b,x)->σ.length<=b:=fun hb hm=>h6 _ ⟨_,_,_,hb,hm⟩
 refine ⟨v,σ',C2,μ2,_,_,hL,⟨fun t b s o v hv=>?_,fun id blk hb=>?_,fun id blk b x hb hm t o=>?_,fun id id' blk blk' b x x' hb hb' hm hm'=>?_,fun id x hm=>?_,fun t b o v hv=>?_,fun b s o v hv=>hle _ _ _ _ _ (h.sta b s o v hv)⟩,
  ⟨⟨hle,le1,h4,by simp,fun b hb _=>h5 b hb,fun b hl hb=>?_,fun t b s o v x=>(hC2 t b s o v x).elim (fun q=>.inr ⟨q.1,q.2.1,q.2.2.1⟩) .inl⟩,fun hz t b s o v x=>?_⟩,(toC hlow.d h2).mono (Cf.le_refl _) le2,hk,h5⟩
 ·rcases hC2 t b s o v hv with ⟨_,q2,_,q⟩ | hv
  ·rw [q2]; exact h1.frz _ _ _ _ _ q
  have hold:=h.frz t b s o v hv;unfold cellA at hold ⊢
  cases s with
  | some s=>exact hold
  | none=>simpa only [h5 b (h.low t b o v hv)] using hold
 ·rcases live hb with ⟨hid,hb⟩ | ⟨hid,hb,hb'⟩
  ·obtain ⟨b,L,l,q1,q2,q3,q4,q5,q6,q7⟩:=h.own id blk hb;have hblt:=(List.getElem?_eq_some_iff.1 q3).1
   refine ⟨b,L,l,le1 _ _ q1,q2,by rw [h5 b hblt]; exact q3,q4,q5,q6,fun i f hi hf=>?_⟩
   obtain ⟨u,hu,ho,hr⟩:=q7 i f hi hf;exact ⟨u,hu,ho,hr.mono hle le1⟩
  ·obtain ⟨b,L,l,q1,q2,q3,q4,q5,q6,q7⟩:=h1.own id blk hb'
   refine ⟨b,L,l,le2 _ _ q1,q2,q3,q4,q5,q6,fun i f hi hf=>?_⟩
   obtain ⟨u,hu,ho,hr⟩:=q7 i f hi hf;exact ⟨u,hu,ho,(toC (hlow.b _ blk hb i f hi hf) hr).mono (Cf.le_refl _) le2⟩
 ·rcases live hb with ⟨hid,hb⟩ | ⟨hid,hb,hb'⟩
  ·have hlt:=(h.dom id _ (old hid hm)).2
   cases hc:C2 t b none o with
   | none=>rfl
   | some u =>
    rcases hC2 t b none o u hc with ⟨_,_,q,_⟩ | q
    ·simp only at hlt; omega
    ·rw [h.sep id blk b x hb (old hid hm) t o] at q; cases q
  ·have:=hge hb' (new hid hm)
   cases hc:C2 t b none o with
   | none=>rfl
   | some u =>
    rcases hC2 t b none o u hc with ⟨_,_,_,q⟩ | q
    ·rw [h1.sep id blk b x hb' (new hid hm) false o] at q; cases q
    ·have:=h.low t b o u q; omega
 ·rcases live hb with ⟨hid,hb⟩ | ⟨hid,hb,hb1⟩
  ·rcases live hb' with ⟨hid',hb'⟩ | ⟨hid',hb',hb2⟩
   ·exact h.inj id id' _ _ b x x' hb hb' (old hid hm) (old hid' hm')
   ·have e1:=hge hb2 (new hid' hm');have e2:=(h.dom id _ (old hid hm)).2;simp only at e2;omega
  ·rcases live hb' with ⟨hid',hb'⟩ | ⟨hid',hb',hb2⟩
   ·have e1:=hge hb1 (new hid hm);have e2:=(h.dom id' _ (old hid' hm')).2;simp only at e2;omega
   ·exact h1.inj id id' _ _ b x x' hb1 hb2 (new hid hm) (new hid' hm')
 ·by_cases hid:id<σd.length
  ·have:=h.dom id x (old hid hm);simp only [List.length_append];omega
  ·have:=h1.dom id x (new (by omega) hm)
   simpa using this
 ·rcases hC2 t b none o v hv with ⟨_,_,_,q⟩ | q
  ·exact h1.low _ _ _ _ q
  ·exact Nat.lt_of_lt_of_le (h.low t b o v q) h4
 ·obtain ⟨id,blk,x,hb',hm⟩:=hl
  rcases live hb' with ⟨hid,hb'⟩ | ⟨hid,hb',hb2⟩
  ·exact ⟨id,blk,x,hb',old hid hm⟩
  ·have:=hge hb2 (new hid hm);omega
 ·rcases hC2 t b s o v x with ⟨q1,q2,q3,q⟩ | q
  ·rcases h7 b none o v q with q4 | q4
   ·have:=h.low _ _ _ _ (show C false b none o=some v from q4)
    omega
   ·rw [hz] at q4; cases q4.1
  ·exact q
def tblD:List (FuncId×ConF)->CallD Unit
 | [],_,_,_,_=>none
 | (f,F) :: r,g,args,σ,k=>match Nat.beq g f with
  | true=>conE F args σ k
  | false=>tblD r g args σ k
theorem tblD_ok {z:Bool}:∀ {l:List (FuncId×ConF)},(∀ x∈l,ConOkZ z P st x.1 x.2)->∀ {g args σd k},tblD l g args σd k=some ()->∀ {C μ σ vs},St st C μ σ σd->DRL C μ args vs ->
  ∃ v σ' C' μ' d σd',Lim (fun n m=>enterA P (runF P st n m) g vs σ) (v,σ')/\St st C' μ' σ' σd'/\Nx1 z C μ σ σd C' μ' σ' σd'/\DR C' μ' d v/\k d σd'=some ()/\∀ b,b<σ.length->σ'[b]?=σ[b]?
 | [],_,g,args,σd,k,hx,_,_,_,_,_,_=>by cases hx
 | (f,F) :: r,hl,g,args,σd,k,hx,C,μ,σ,vs,h,ha=>by
  unfold tblD at hx;split at hx
  ·rename_i e;obtain rfl:=Nat.eq_of_beq_eq_true e
   exact conE_some (hl (g,F) (by simp)) h ha hx
  ·exact tblD_ok (fun x hm=>hl x (by simp [hm])) hx h ha
theorem tblD_call {z:Bool}{l:List (FuncId×ConF)}(hl:∀ x∈l,ConOkZ z P st x.1 x.2):CallS z P st (tblD l):=fun f args σd k r hx C μ σ vs h ha=>by
 obtain ⟨v,σ',C',μ',d,σd',q1,q2,q3,q4,q5,_⟩:=tblD_ok hl hx h ha;exact ⟨v,σ',C',μ',d,σd',q1,q2,q3,q4,q5⟩
theorem tblD_pure {z:Bool}{l:List (FuncId×ConF)}(hl:∀ x∈l,ConOkZ z P st x.1 x.2):PureS P st (tblD l) (fun _=>true):=fun f args σd k r _ hx C μ σ vs h ha=>by
 obtain ⟨v,σ',C',μ',d,σd',q1,q2,q3,q4,q5,q6⟩:=tblD_ok hl hx h ha;exact ⟨v,σ',q1,q6⟩
theorem tblD_env {z:Bool}{l:List (FuncId×ConF)}{gl:Gl}{lp:Nat->Option (LoopD Unit)}{n:Nat}{mg:List (Nat×List (Nat×List Nat))}(hl:∀ x∈l,ConOkZ z P st x.1 x.2):EnvOk P st (⟨tblD l,fun _=>true,gl,lp,n,joins P gl mg,z⟩:Env Unit) :=
 ⟨tblD_call hl,tblD_pure hl,fun _ _ h=>joins_ok h⟩
def GlOk (st:AE.Stat) (gl:Gl):Prop:=(∀ g,Clo (gl g))/\∀ C μ σ σd,St st C μ σ σd->∀ g,DR C μ (gl g) (.pointer (some ⟨g,0,some 0⟩))
def FinQ (s:Nat) (R:DV×DHeap) (d:DV) (σ:DHeap):Prop:=∃ r:Nat->Option Nat,(∀ j i,r j=some i->s<=j)/\Wk r 0 [d] σ [R.1] (List.replicate s none++R.2)
noncomputable def fin (s:Nat) (R:DV×DHeap):DV->DHeap->Option Unit:=fun d σ=>bif holds (FinQ s R d σ) then some () else none
theorem fin_some {s:Nat}{R:DV×DHeap}{d:DV}{σ:DHeap}(h:fin s R d σ=some ()):FinQ s R d σ:=holds_eq.1 (bif_none h).1
theorem fin_of {s:Nat}{R:DV×DHeap}{d:DV}{σ:DHeap}(h:FinQ s R d σ):fin s R d σ=some ():=by
 unfold fin;rw [holds_eq.2 h];rfl
theorem finQ_flat {s:Nat}{d d':DV}{σ:DHeap}(h:Clo d) (e:d'=d):FinQ s (d,[]) d' σ :=
 ⟨fun _=>none,fun j i h=>(nomatch h),⟨.cons (by rw [e]; exact .of_clo h) .nil,fun j h=>(by omega),fun j i h=>(nomatch h),by simp,fun i j bi bj h=>(by have:=(repl_get.1 h).2; simp at this),fun j b h=>(by have:=(repl_get.1 h).2; simp at this)⟩⟩
theorem finQ_own {s id i n:Nat}{c:DC}{k:Nat}{σ:DHeap}{blk:DBlk}{d':DV}(e:d'=.os id i n) (hb:σ[id]?=some (some blk)) (hk:k=blk.k) (hn:c.n<=blk.c.n) (hg:c.good) (hc:∀ i f,i<c.n->f<k->Clo (c.get i f)/\blk.c.get i f=c.get i f) :
  FinQ s (.os s i n,[some ⟨k,c⟩]) d' σ:=by
 have at0:∀ {j:Nat}{b},(List.replicate s none++[some (⟨k,c⟩:DBlk)])[j]?=some (some b)->j=s/\b=⟨k,c⟩:=by
  intro j b hj;obtain ⟨h1,h2⟩:=repl_get.1 hj
  cases hx:j-s with
  | zero=>rw [hx] at h2; simp only [List.getElem?_cons_zero,Option.some.injEq] at h2; exact ⟨by omega,h2.symm⟩
  | succ m=>rw [hx] at h2; simp at h2
 refine ⟨fun j=>if j=s then some id else none,fun j i h=>?_,⟨.cons (by rw [e]; exact .os (by simp)) .nil,fun j h=>by omega,fun j i h=>?_,by simp,fun a b ba bb ha hb _=>by rw [(at0 ha).1,(at0 hb).1],fun j b hj=>?_⟩⟩
 ·have h:(if j=s then some id else none)=some i:=h
  split at h
  ·omega
  ·cases h
 ·have h:(if j=s then some id else none)=some i:=h
  split at h
  ·simp; omega
  ·cases h
 ·obtain ⟨rfl,rfl⟩:=at0 hj
  refine ⟨id,blk,by simp,hb,hk,hn,hg,fun i f hi hf=>?_⟩
  obtain ⟨h1,h2⟩:=hc i f hi hf;show Sub _ (c.get i f) (blk.c.get i f);rw [h2];exact .of_clo h1
theorem conOk_run {E:Env Unit}{fn:Func}(hf:P.funcs[f]?=some fn) (hn:(fn.name== "runtime.NumGoroutine")=false) (hb:fn.body.isNone=false) (hxt:∀ a σ,st.ext f a σ=none) (hgl:GlOk st E.gl) (hE:EnvOk P st E)
  (hl:∀ x∈loopsOf fn,∀ g,E.lp x.1=some g->LoopSR E.gz P st E.gl x.2 g)
  (h:∀ args k,F args k=some ()->∀ s,∃ κ:DV->DHeap->Option Unit,bodyD P E fn args [] κ=some ()/\∀ d σ,κ d σ=some ()->∃ R:Res,k R=some ()/\LowR (R s)/\FinQ s (R s) d σ):ConOkZ E.gz P st f F:=by
 intro args k hk s C σ vs hS ha;obtain ⟨κ,hbody,hκ⟩:=h args k hk s;obtain ⟨v,σ',C',μ',d,σd',⟨N,hN⟩,h1,n1,h2,hx⟩:=bodyD_some hE hl hS ha (hgl.2 _ _ _ _ hS) hbody;obtain ⟨R,hR,hlow,r,hr,hw⟩:=hκ _ _ hx;refine ⟨R,hR,hlow,?_⟩;have n0:=NRel.b_w n1;have hd:=hw.tm.drl (.cons h2 (.nil _ _));obtain ⟨x,ys,e,hd,hnil⟩:=hd.cons_inv
 obtain ⟨rfl,-⟩:v=x/\[]=ys:=by simpa using e
 have nolive:∀ b,¬ Live noMu ([]:DHeap) b:=by
  rintro b ⟨id,blk,x,hb,_⟩
  simp at hb
 refine ⟨v,σ',C',_,⟨N+1,fun n m hn' hm=>?_⟩,hw.state h1,hd,fun id x hx=>?_,n0.len,fun b hb=>n0.fr b hb (nolive b),fun b hl=>?_,fun b s o v hv=>(NRel.b_old n1 _ b s o v hv).imp id fun q=>⟨q.1,q.2.2.1,q.2.2.2.elim id fun x=>(nolive b x).elim⟩⟩
 ·obtain ⟨m,rfl⟩:∃ m',m=m'+1:=⟨m-1,by omega⟩
  show enterA P (runF P st n (m+1)) f vs σ=_;unfold enterA;rw [hf];simp only [hn,hb,Bool.false_eq_true,if_false,runF,hf,hxt]
  exact hN n m (by omega) (by omega)
 ·unfold via at hx;split at hx
  ·rename_i i hi;exact hr id i hi
  ·cases hx
 ·rcases Nat.lt_or_ge b σ.length with hlt | hge
  ·exact absurd (n0.img b (hw.live hl) hlt) (nolive b)
  ·exact hge
def flR:DV->Bool
 | .v _=>true
 | .agg cs=>cs.all isV
 | .tup cs=>cs.all isV2
 | _=>false
theorem flR_clo {d:DV}(h:flR d=true):Clo d/\Low d:=by
 have v2:∀ {d},isV2 d=true->Clo d/\Low d:=by
  intro d h
  cases d<;>first | (cases h; done) | exact ⟨.v _,.v _⟩ | skip
  rename_i cs;have h:∀ c∈cs,isV c=true:=List.all_eq_true.1 h
  exact ⟨.agg fun c hc=>.of_isV (h c hc),.agg fun c hc=>.of_isV (h c hc)⟩
 cases d<;>first | (cases h; done) | exact ⟨.v _,.v _⟩ | skip
 ·rename_i cs;have h:∀ c∈cs,isV c=true:=List.all_eq_true.1 h
  exact ⟨.agg fun c hc=>.of_isV (h c hc),.agg fun c hc=>.of_isV (h c hc)⟩
 ·rename_i cs;have h:∀ c∈cs,isV2 c=true:=List.all_eq_true.1 h
  exact ⟨.tup fun c hc=>(v2 (h c hc)).1,.tup fun c hc=>(v2 (h c hc)).2⟩
def inl (P:Program) (E:Env Unit) (fn:Func):ConF:=fun args k=>bodyD P E fn args [] fun d _=>bif flR d then k (fun _=>(d,[])) else none
def inlR (d:DV) (σ:DHeap) (k:Res->Option Unit):Option Unit :=
 match d with
 | .os id i n=>match σ[id]? with
  | some (some b)=>match b.c with
   | .lst l=>bif l.all (·.all isV) then k (fun s=>(.os s i n,[some ⟨b.k,.lst l⟩])) else none
   | _=>none
  | _=>none
 | d=>bif flR d then k (fun _=>(d,[])) else none
def inl2 (P:Program) (E:Env Unit) (fn:Func):ConF:=fun args k=>bodyD P E fn args [] fun d σ=>inlR d σ k
theorem lst_flat {l:List (List DV)}(h:l.all (·.all isV)=true) {i f:Nat}(hi:i<l.length):Clo ((DC.lst l).get i f)/\Low ((DC.lst l).get i f):=by
 show Clo ((l.getD i []).getD f .any)/\Low ((l.getD i []).getD f .any);have hx:l[i]?=some l[i]:=List.getElem?_eq_getElem hi;have hm:=List.all_eq_true.1 (List.all_eq_true.1 h _ (List.mem_of_getElem? hx));rw [List.getD_eq_getElem?_getD (l:=l),hx,Option.getD_some,List.getD_eq_getElem?_getD]
 cases hy:(l[i])[f]? with
 | none=>exact ⟨.any,.any⟩
 | some d=>exact ⟨.of_isV (hm d (List.mem_of_getElem? hy)),.of_isV (hm d (List.mem_of_getElem? hy))⟩
theorem inlR_some {d:DV}{σ:DHeap}{k:Res->Option Unit}{s:Nat}(h:inlR d σ k=some ()):∃ R:Res,k R=some ()/\LowR (R s)/\FinQ s (R s) d σ:=by
 unfold inlR at h;split at h
 ·rename_i id i n
  split at h<;>first | (cases h; done) | skip
  rename_i b hb
  split at h<;>first | (cases h; done) | skip
  rename_i l hc;obtain ⟨h1,h2⟩:=bif_none h
  refine ⟨_,h2,⟨.os _ _ _,fun id blk hb i f hi _=>?_⟩,finQ_own rfl hb rfl (by rw [hc]; exact Nat.le_refl _) trivial fun i f hi _=>⟨(lst_flat h1 hi).1,by rw [hc]⟩⟩
  cases id with
  | zero =>
   obtain rfl:(⟨b.k,.lst l⟩:DBlk)=blk:=by simpa using hb
   exact (lst_flat h1 hi).2
  | succ id=>simp at hb
 ·obtain ⟨h1,h2⟩:=bif_none h;obtain ⟨h3,h4⟩:=flR_clo h1
  exact ⟨_,h2,⟨h4,fun id blk hb=>by simp at hb⟩,finQ_flat h3 rfl⟩
theorem inl2_ok {E:Env Unit}{fn:Func}(hf:P.funcs[f]?=some fn) (hn:(fn.name== "runtime.NumGoroutine")=false) (hb:fn.body.isNone=false) (hxt:∀ a σ,st.ext f a σ=none) (hgl:GlOk st E.gl) (hE:EnvOk P st E)
  (hl:∀ x∈loopsOf fn,∀ g,E.lp x.1=some g->LoopSR E.gz P st E.gl x.2 g):ConOkZ E.gz P st f (inl2 P E fn) :=
 conOk_run hf hn hb hxt hgl hE hl fun _ _ hk _=>⟨_,hk,fun _ _ hd=>inlR_some hd⟩
def baseC (st:AE.Stat):Cf:=fun t b s o=>if t then none else match s with
 | some _=>st b o
 | none=>none
theorem baseC_state:St st (baseC st) noMu [] []:=by
 refine ⟨fun t b s o v hv=>?_,fun id blk hb=>by simp at hb,fun id blk b x hb=>by simp at hb,fun id id' blk blk' b x x' hb=>by simp at hb,fun id x hm=>(nomatch hm),fun t b o v hv=>?_,fun b s o v hv=>hv⟩
 ·unfold baseC at hv;split at hv
  ·cases hv
  ·cases s with
   | none=>cases hv
   | some s=>exact hv
 ·unfold baseC at hv
  split at hv<;>cases hv
theorem calls_of_con {w0 w:World}{fn:Func}{x:Value}{args:List DV}{vs args':List Value}(hst:GoodSt w0 st) (hx0:CallOk P w0 st.ext) (hm:P.follows .mixedOrders=true) (hf:P.funcs[f]?=some fn) (hn:(fn.name== "runtime.NumGoroutine")=false) (hb:fn.body.isNone=false)
  {z:Bool}(hF:ConOkZ z P st f F) (hx:∀ k,k (fun _=>(.v x,[]))=some ()->F args k=some ()) (ha:DRL (baseC st) noMu args vs) (hv:VRL (fun _=>none) vs args') (hw:Below w0.heap.size w0 w) :
  Calls P f args'.toArray w fun e w'=>e=.returned x/\Below w.heap.size w w':=by
 obtain ⟨R,hk,_,v,σ',C',μ',⟨N,hN⟩,_,hd,_⟩:=hF args (fun R=>bif holds (R=fun _=>(.v x,[])) then some () else none) (hx _ (by rw [holds_eq.2 rfl]; rfl)) 0 _ [] vs baseC_state ha
 obtain rfl:R=fun _=>(.v x,[]):=holds_eq.1 (bif_none hk).1
 have hfl:flat x=true/\v=x:=by
  cases hd with
  | v _ h=>exact ⟨fl1_flat h,rfl⟩
 obtain ⟨hfl,rfl⟩:=hfl;have hrun:=hN N N (Nat.le_refl _) (Nat.le_refl _);have hrun:enterA P (runF P st N N) f vs []=some (v,σ'):=hrun;unfold enterA at hrun;rw [hf] at hrun;simp only [hn,hb,Bool.false_eq_true,if_false] at hrun
 have hR0:Rel w0 (fun _=>none) (hp []) w:=.bare hw _
 refine (((runF_sound hst hx0 hm N).fn f (by rw [hf]; rfl) vs [] v σ' hrun).2 (fun _=>none) w args' hR0 (fun _ _ _=>rfl) hv).mono fun e w' he=>?_
 obtain ⟨v',rfl,ρ',hn,hv⟩:=he;have ev:v'=v:=VR_flat hfl hv;subst ev
 exact ⟨rfl,hn.rel.below.os.trans hw.os.symm,hn.rel.below.tape.trans hw.tape.symm,hn.rel.below.output.trans hw.output.symm,hn.fr.size,fun k hk=>hn.fr.fr k hk fun ⟨_,_,_,_,e1,_⟩=>(nomatch e1)⟩
end
end Go.DE
namespace Go.DE
open Go Go.AE Go.RowKit
theorem cT {b:Bool}{x y:Option Unit}(h:b=true) (hx:x=some ()):(bif b then x else y)=some ():=by rw [h]; exact hx
theorem cF {b:Bool}{x y:Option Unit}(h:b=false) (hy:y=some ()):(bif b then x else y)=some ():=by rw [h]; exact hy
theorem cS {b:Bool}{x y:Option Unit}(h1:b=true->x=some ()) (h2:b=false->y=some ()):(bif b then x else y)=some ():=by
 cases b
 ·exact h2 rfl
 ·exact h1 rfl
theorem dT {p:Prop} [Decidable p] {x y:Option Unit}(h:p) (hx:x=some ()):(bif decide p then x else y)=some ():=cT (decide_eq_true h) hx
theorem dF {p:Prop} [Decidable p] {x y:Option Unit}(h:¬ p) (hy:y=some ()):(bif decide p then x else y)=some ():=cF (decide_eq_false h) hy
theorem dS {p:Prop} [Decidable p] {x y:Option Unit}(h1:p->x=some ()) (h2:¬ p->y=some ()):(bif decide p then x else y)=some () :=
 cS (fun h=>h1 (of_decide_eq_true h)) (fun h=>h2 (of_decide_eq_false h))
theorem hT {p:Prop}{x y:Option Unit}(h:p) (hx:x=some ()):(bif holds p then x else y)=some ():=cT (holds_eq.2 h) hx
def ren (m:Nat) (ids:List Nat):Nat->Option Nat:=fun j=>if j<m then some j else ids[j-m]?
def temps (n:Nat):List Nat->List DV->List DV
 | p :: ps,d :: ds=>(temps n ps ds).set p d
 | _,_=>List.replicate n .any
def pick (ps:List Nat) (τ:List DV):List DV:=ps.map fun p=>τ.getD p .any
section
variable {r:Nat->Option Nat}
theorem SubL.set {l2 l:List DV}(h:SubL r l2 l) {d:DV}:∀ (p:Nat),Sub r d (l.getD p .any)->SubL r (l2.set p d) l:=by
 induction h with
 | nil=>intro p hd; exact .nil
 | cons h t ih =>
  intro p hd
  cases p with
  | zero=>exact .cons hd t
  | succ p=>exact .cons h (ih p (by simpa using hd))
theorem SubL.replicate:∀ {n:Nat}{l:List DV},l.length=n->SubL r (List.replicate n .any) l
 | 0,[],_=>.nil
 | n+1,d :: l,h=>.cons (.any d) (SubL.replicate (by simpa using h))
theorem subL_temps {n:Nat}{τ:List DV}(hn:τ.length=n):∀ {ps:List Nat}{ds:List DV},SubL r ds (pick ps τ)->SubL r (temps n ps ds) τ
 | [],ds,_=>by cases ds<;>exact .replicate hn
 | p :: ps,ds,h=>by
  cases h with
  | cons h t=>exact (subL_temps hn t).set p h
theorem Sub.sl (t:Bool) (g:Nat->Nat->DV) (k n:Nat):Sub r (.sl t g k n) (.sl t g k n):=.of_clo (.sl t g k n)
end
def imgs (r:Nat->Option Nat):Nat->DHeap->List (Option Nat)
 | _,[]=>[]
 | j,none :: rest=>imgs r (j+1) rest
 | j,some _ :: rest=>r j :: imgs r (j+1) rest
theorem imgs_mem {r:Nat->Option Nat}:∀ {j:Nat}{σ:DHeap}{i:Nat}{b:DBlk},σ[i]?=some (some b)->r (j+i)∈imgs r j σ
 | j,[],i,b,h=>by simp at h
 | j,none :: rest,i,b,h=>by
  cases i with
  | zero=>simp at h
  | succ i =>
   have:=imgs_mem (r:=r) (j:=j+1) (i:=i) (by simpa using h)
   rw [show j+(i+1)=j+1+i by omega]
   exact this
 | j,some c :: rest,i,b,h=>by
  cases i with
  | zero=>exact .head _
  | succ i =>
   have:=imgs_mem (r:=r) (j:=j+1) (i:=i) (by simpa using h)
   rw [show j+(i+1)=j+1+i by omega]
   exact .tail _ this
theorem imgs_inj {r:Nat->Option Nat}:∀ {j:Nat}{σ:DHeap},(imgs r j σ).Nodup->∀ {i i':Nat}{b b':DBlk},σ[i]?=some (some b)->σ[i']?=some (some b')->r (j+i)=r (j+i')->i=i'
 | j,[],_,i,_,_,_,h,_,_=>by simp at h
 | j,none :: rest,hn,i,i',b,b',h,h',e=>by
  cases i with
  | zero=>simp at h
  | succ i=>cases i' with
   | zero=>simp at h'
   | succ i' =>
    have:=imgs_inj (r:=r) (j:=j+1) (σ:=rest) hn (i:=i) (i':=i') (by simpa using h) (by simpa using h') (by rw [show j+1+i=j+(i+1) by omega,show j+1+i'=j+(i'+1) by omega]; exact e)
    omega
 | j,some c :: rest,hn,i,i',b,b',h,h',e=>by
  have hn:(r j :: imgs r (j+1) rest).Nodup:=hn;rw [List.nodup_cons] at hn
  cases i with
  | zero=>cases i' with
   | zero=>rfl
   | succ i' =>
    have:=imgs_mem (r:=r) (j:=j+1) (σ:=rest) (i:=i') (b:=b') (by simpa using h')
    rw [show j+1+i'=j+(i'+1) by omega,<- e] at this
    exact absurd this hn.1
  | succ i=>cases i' with
   | zero =>
    have:=imgs_mem (r:=r) (j:=j+1) (σ:=rest) (i:=i) (b:=b) (by simpa using h)
    rw [show j+1+i=j+(i+1) by omega,e] at this
    exact absurd this hn.1
   | succ i' =>
    have:=imgs_inj (r:=r) (j:=j+1) (σ:=rest) hn.2 (i:=i) (i':=i') (by simpa using h) (by simpa using h') (by rw [show j+1+i=j+(i+1) by omega,show j+1+i'=j+(i'+1) by omega]; exact e)
    omega
def SubC (r:Nat->Option Nat) (b2 b:DBlk):Prop:=b2.k=b.k/\b2.c.n<=b.c.n/\b2.c.good/\∀ i f,i<b2.c.n->f<b2.k->Sub r (b2.c.get i f) (b.c.get i f)
def BlkL (r:Nat->Option Nat) (σ:DHeap):Nat->DHeap->Prop
 | _,[]=>True
 | j,none :: rest=>BlkL r σ (j+1) rest
 | j,some b2 :: rest=>(∃ i b,r j=some i/\σ[i]?=some (some b)/\SubC r b2 b)/\BlkL r σ (j+1) rest
theorem BlkL.get {r:Nat->Option Nat}{σ:DHeap}:∀ {j:Nat}{σ2:DHeap},BlkL r σ j σ2->∀ {i:Nat}{b2:DBlk},σ2[i]?=some (some b2)->∃ i' b,r (j+i)=some i'/\σ[i']?=some (some b)/\SubC r b2 b
 | j,[],_,i,_,h=>by simp at h
 | j,none :: rest,hb,i,b2,h=>by
  cases i with
  | zero=>simp at h
  | succ i =>
   have:=BlkL.get (σ2:=rest) hb (i:=i) (by simpa using h)
   rw [show j+1+i=j+(i+1) by omega] at this
   exact this
 | j,some c :: rest,hb,i,b2,h=>by
  cases i with
  | zero =>
   obtain rfl:c=b2:=by simpa using h
   exact hb.1
  | succ i =>
   have:=BlkL.get (σ2:=rest) hb.2 (i:=i) (by simpa using h)
   rw [show j+1+i=j+(i+1) by omega] at this
   exact this
structure WkP (m:Nat) (ids:List Nat) (ds:List DV) (σ:DHeap) (ds2:List DV) (σ2:DHeap):Prop where
 tm:SubL (ren m ids) ds2 ds
 len:σ2.length=m+ids.length
 blk:BlkL (ren m ids) σ 0 σ2
 nd:(imgs (ren m ids) 0 σ2).Nodup
theorem WkP.wk {m n:Nat}{ids ps:List Nat}{τ ds2:List DV}{σ σ2:DHeap}(h:WkP m ids (pick ps τ) σ ds2 σ2) (hn:τ.length=n):Wk (ren m ids) m τ σ (temps n ps ds2) σ2:=by
 refine ⟨subL_temps hn h.tm,fun j hj=>if_pos hj,fun j i hj=>?_,by have:=h.len; omega,fun i j bi bj hi hj e=>imgs_inj (j:=0) h.nd hi hj (by simpa using e),fun j b2 hj=>?_⟩
 ·unfold ren at hj;have:=h.len;split at hj
  ·omega
  ·have:=(List.getElem?_eq_some_iff.1 hj).1;omega
 ·obtain ⟨i,b,h1,h2,h3⟩:=h.blk.get hj;rw [Nat.zero_add] at h1;exact ⟨i,b,h1,h2,h3⟩
structure LInv (X:Type) where
 pre:X->Prop:=fun _=>True
 m:Nat
 n:Nat
 ps:List Nat
 sd:X->List DV
 sh:X->DHeap
 meas:X->Nat
 e:X->Ex
 qs:List Nat
 od:X->List DV
 oh:X->DHeap
 guess:List DV->DHeap->Option X
 cps:X->(Ex->List DV->DHeap->Option Unit)->Option Unit
def LInv.st {X:Type}(I:LInv X) (x:X):List DV×DHeap:=(temps I.n I.ps (I.sd x),I.sh x)
def LInv.out {X:Type}(I:LInv X) (x:X):Ex×List DV×DHeap:=(I.e x,temps I.n I.qs (I.od x),I.oh x)
def LInv.Q {X:Type}(I:LInv X) (x:X) (e:Ex) (n:Nat) (ds es:List DV) (σ:DHeap):Prop :=
 n=I.n/\match e with
  | .normal=>∃ y,(I.e y=I.e x/\I.od y=I.od x/\I.oh y=I.oh x/\I.pre y)/\I.meas y<I.meas x/\∃ ids,WkP I.m ids ds σ (I.sd y) (I.sh y)
  | e=>e=I.e x/\∃ ids,WkP I.m ids es σ (I.od x) (I.oh x)
noncomputable def LInv.ask {X:Type}(I:LInv X) (x:X) (e:Ex) (n:Nat) (ds es:List DV) (σ:DHeap):Option Unit:=bif holds (I.Q x e n ds es σ) then some () else none
theorem LInv.ask_of {X:Type}{I:LInv X}{x:X}{e:Ex}{n:Nat}{ds es:List DV}{σ:DHeap}(h:I.Q x e n ds es σ):I.ask x e n ds es σ=some ():=hT h rfl
noncomputable def LInv.g {X:Type}(I:LInv X):LoopD Unit:=fun τ σ k=>match Nat.beq τ.length I.n,Nat.beq σ.length I.m with
 | true,true=>match I.guess (pick I.ps τ) σ with
  | some x=>bif holds (I.pre x/\∃ ids,WkP I.m ids (pick I.ps τ) σ (I.sd x) (I.sh x)) then I.cps x (fun e ds σ=>k e (temps I.n I.qs ds) σ) else none
  | none=>none
 | _,_=>none
theorem LInv.ok {X:Type}{P:Program}{st:AE.Stat}{E:Env Unit}(I:LInv X) (hE:EnvOk P st E) (hgl:∀ g,Clo (E.gl g)) {c:Code}{p:Nat}
  (hl:∀ x∈loopsL p c,∀ g,E.lp x.1=some g->LoopSR E.gz P st E.gl x.2 g)
  (cps:∀ x k,I.cps x k=some ()->k (I.e x) (I.od x) (I.oh x)=some ())
  (body:∀ x,I.pre x->execD P E c p (temps I.n I.ps (I.sd x)) (I.sh x) (fun e τ σ=>I.ask x e τ.length (pick I.ps τ) (pick I.qs τ) σ)=some ()):LoopSR E.gz P st E.gl (.loop c) I.g:=by
 refine loopS_of (pre:=I.pre) (m:=I.m) (S:=I.st) (out:=I.out) (meas:=I.meas) hE hgl hl (fun x hpx=>?_) fun τd σd k r hx=>?_
 ·refine ⟨_,body x hpx,fun e τ σ hx=>?_⟩
  obtain ⟨hn,hq⟩:I.Q x e τ.length (pick I.ps τ) (pick I.qs τ) σ:=holds_eq.1 (bif_none hx).1
  cases e with
  | normal =>
   obtain ⟨y,⟨h1,h2,h3,h5⟩,h4,ids,hw⟩:=hq
   exact ⟨y,h5,by simp only [LInv.out,h1,h2,h3],h4,(hw.wk hn).g⟩
  | exit i =>
   obtain ⟨h1,ids,hw⟩:=hq;exact ⟨h1,(hw.wk hn).g⟩
  | ret =>
   obtain ⟨h1,ids,hw⟩:=hq;exact ⟨h1,(hw.wk hn).g⟩
 ·unfold LInv.g at hx
  split at hx<;>first | (cases hx; done) | skip
  rename_i h1 h2;have h1:=Nat.eq_of_beq_eq_true h1;have h2:=Nat.eq_of_beq_eq_true h2
  split at hx<;>first | (cases hx; done) | skip
  rename_i x hf;obtain ⟨hw,hx⟩:=bif_none hx;obtain ⟨hpx,ids,hw⟩:=holds_eq.1 hw;exact ⟨x,hpx,h2,⟨_,hw.wk h1⟩,cps _ _ hx⟩
def LInv.P {X:Type}(I:LInv X) (x:X) (e:Ex) (n:Nat) (es:List DV) (σ:DHeap):Prop:=n=I.n/\e=I.e x/\∃ ids,WkP I.m ids es σ (I.od x) (I.oh x)
def zf (σ:DHeap) (zs:List Nat):Nat->Option DBlk:=fun j=>if j∈zs then (σ[j]?).join else none
section
variable {r:Nat->Option Nat}{zz:Nat->Option DBlk}
def SubCZ (r:Nat->Option Nat) (zz:Nat->Option DBlk) (b2 b:DBlk):Prop:=b2.k=b.k/\b2.c.n<=b.c.n/\b2.c.good/\∀ i f,i<b2.c.n->f<b2.k->SubZ r zz (b2.c.get i f) (b.c.get i f)
theorem SubC.z {b2 b:DBlk}(h:SubC r b2 b):SubCZ r zz b2 b:=⟨h.1,h.2.1,h.2.2.1,fun i f hi hf=>(h.2.2.2 i f hi hf).z⟩
def BlkLZ (r:Nat->Option Nat) (zz:Nat->Option DBlk) (σ:DHeap):Nat->DHeap->Prop
 | _,[]=>True
 | j,none :: rest=>BlkLZ r zz σ (j+1) rest
 | j,some b2 :: rest=>(∃ i b,r j=some i/\σ[i]?=some (some b)/\SubCZ r zz b2 b)/\BlkLZ r zz σ (j+1) rest
end
structure WkPZ (m:Nat) (ids zs:List Nat) (ds:List DV) (σ:DHeap) (ds2:List DV) (σ2:DHeap):Prop where
 tm:SubLZ (ren m ids) (zf σ zs) ds2 ds
 len:σ2.length=m+ids.length
 blk:BlkLZ (ren m ids) (zf σ zs) σ 0 σ2
 nd:(imgs (ren m ids) 0 σ2).Nodup
 fz:∀ j∈zs,m<=j/\j ∉ ids/\∀ blk,σ[j]?=some (some blk)->∀ i f,i<blk.c.n->f<blk.k->Clo (blk.c.get i f)
theorem LoopSR.z {α:Type}{P:Program}{st:AE.Stat}{gl:Gl}{c:Code}{g:LoopD α}(h:LoopS P st gl c g) {z:Bool}:LoopSR z P st gl c g:=fun τd σd k r hx C μ τ σ hR=>by
 obtain ⟨e,τ',σ',C',μ',τd',σd',hL,h1,n1,hx⟩:=h τd σd k r hx C μ τ σ hR;have n1:Nx1 false C μ σ σd C' μ' σ' σd':=n1
 exact ⟨e,τ',σ',C',μ',τd',σd',hL,h1,(NRel.b z).of ⟨n1.toNx,fun _=>n1.one rfl⟩,hx⟩
theorem ConOkZ.z {P:Program}{st:AE.Stat}{f:FuncId}{F:ConF}(h:ConOk P st f F) {z:Bool}:ConOkZ z P st f F:=fun args k hk s C σ vs hS ha=>by
 obtain ⟨R,hR,hlow,v,σ',C',μ',q1,q2,q3,q4,q5,q6,q7,q8⟩:=h args k hk s C σ vs hS ha
 exact ⟨R,hR,hlow,v,σ',C',μ',q1,q2,q3,q4,q5,q6,q7,fun b s o v hv=>(q8 b s o v hv).imp id fun e=>by cases e.1⟩
inductive CvL:List DV->List DV->Prop
 | nil:CvL [] []
 | cons {a b:DV}{as bs:List DV}(h:∀ C μ v,DR C μ a v->DR C μ b v) (t:CvL as bs):CvL (a :: as) (b :: bs)
theorem CvL.drl {as bs:List DV}(h:CvL as bs) {C:Cf}{μ:Mu}:∀ {vs:List Value},DRL C μ as vs->DRL C μ bs vs:=by
 induction h with
 | nil=>intro vs hv; obtain rfl:=hv.nil_inv; exact .nil _ _
 | cons h t ih=>intro vs hv; obtain ⟨x,ys,rfl,h1,h2⟩:=hv.cons_inv; exact .cons (h _ _ _ h1) (ih h2)
theorem CvL.self {d:DV}{as bs:List DV}(t:CvL as bs):CvL (d :: as) (d :: bs):=.cons (fun _ _ _ h=>h) t
theorem lowR_flat {d:DV}(h:Low d):LowR (d,[]):=⟨h,fun id blk hb=>by simp at hb⟩
theorem con_of {P:Program}{st:AE.Stat}{gl:Gl}{f:FuncId}{fn:Func}{F:ConF}{l:List (FuncId×ConF)}{lp:Nat->Option (LoopD Unit)}{n:Nat}{mg:List (Nat×List (Nat×List Nat))}(hst:GlOk st gl) (hl:∀ x∈l,ConOk P st x.1 x.2) (hf:P.funcs[f]?=some fn)
  (hn:(fn.name== "runtime.NumGoroutine")=false) (hb:fn.body.isNone=false) (hxt:∀ a σ,st.ext f a σ=none) (hlp:∀ x∈loopsOf fn,∀ g,lp x.1=some g->LoopS P st gl x.2 g)
  (h:∀ args k,F args k=some ()->∃ args' R,CvL args args'/\k R=some ()/\∀ s,LowR (R s)/\bodyD P ⟨tblD l,fun _=>true,gl,lp,n,joins P gl mg,false⟩ fn args' [] (fin s (R s))=some ()):ConOk P st f F:=by
 intro args k hk s C σ vs hS ha;obtain ⟨args',R,hargs,hR,hs⟩:=h args k hk
 exact conOk_run (E:=⟨tblD l,fun _=>true,gl,lp,n,joins P gl mg,false⟩) (F:=fun a k=>bif holds (a=args') then k R else none) hf hn hb hxt hst (tblD_env hl) hlp (fun a k' hk' s'=>by
  obtain ⟨h1,h2⟩:=bif_none hk';obtain rfl:=holds_eq.1 h1
  exact ⟨fin s' (R s'),(hs s').2,fun d σ hd=>⟨R,h2,(hs s').1,fin_some hd⟩⟩) args' k (hT rfl hR) s C σ vs hS (hargs.drl ha)
def noLp:Nat->Option (LoopD Unit):=fun _=>none
noncomputable def isD (d0 d:DV):Option Unit:=bif holds (d=d0) then some () else none
theorem isD_of {d0 d:DV}(h:d=d0):isD d0 d=some ():=hT h rfl
theorem con_flat {P:Program}{st:AE.Stat}{gl:Gl}{f:FuncId}{fn:Func}{F:ConF}{l:List (FuncId×ConF)}{lp:Nat->Option (LoopD Unit)}{n:Nat}{mg:List (Nat×List (Nat×List Nat))}(hst:GlOk st gl) (hl:∀ x∈l,ConOk P st x.1 x.2) (hf:P.funcs[f]?=some fn)
  (hn:(fn.name== "runtime.NumGoroutine")=false) (hb:fn.body.isNone=false) (hxt:∀ a σ,st.ext f a σ=none) (hlp:∀ x∈loopsOf fn,∀ g,lp x.1=some g->LoopS P st gl x.2 g)
  (h:∀ args k,F args k=some ()->∃ args' d0,CvL args args'/\(Clo d0/\Low d0)/\k (fun _=>(d0,[]))=some ()/\bodyD P ⟨tblD l,fun _=>true,gl,lp,n,joins P gl mg,false⟩ fn args' [] (fun d _=>isD d0 d)=some ()):ConOk P st f F:=by
 intro args k hk s C σ vs hS ha;obtain ⟨args',d0,hargs,⟨hc,hlo⟩,hR,hbody⟩:=h args k hk
 exact conOk_run (E:=⟨tblD l,fun _=>true,gl,lp,n,joins P gl mg,false⟩) (F:=fun a k=>bif holds (a=args') then k (fun _=>(d0,[])) else none) hf hn hb hxt hst (tblD_env hl) hlp (fun a k' hk' s'=>by
  obtain ⟨h1,h2⟩:=bif_none hk';obtain rfl:=holds_eq.1 h1
  exact ⟨_,hbody,fun d σ hd=>⟨_,h2,lowR_flat hlo,finQ_flat hc (holds_eq.1 (bif_none hd).1)⟩⟩) args' k (hT rfl hR) s C σ vs hS (hargs.drl ha)
theorem con_ofZ {P:Program}{st:AE.Stat}{gl:Gl}{f:FuncId}{fn:Func}{F:ConF}{l:List (FuncId×ConF)}{lp:Nat->Option (LoopD Unit)}{n:Nat}{mg:List (Nat×List (Nat×List Nat))}(hst:GlOk st gl) (hl:∀ x∈l,ConOkZ true P st x.1 x.2) (hf:P.funcs[f]?=some fn)
  (hn:(fn.name== "runtime.NumGoroutine")=false) (hb:fn.body.isNone=false) (hxt:∀ a σ,st.ext f a σ=none) (hlp:∀ x∈loopsOf fn,∀ g,lp x.1=some g->LoopSR true P st gl x.2 g)
  (h:∀ args k,F args k=some ()->∃ args' R,CvL args args'/\k R=some ()/\∀ s,LowR (R s)/\bodyD P ⟨tblD l,fun _=>true,gl,lp,n,joins P gl mg,true⟩ fn args' [] (fin s (R s))=some ()):ConOkZ true P st f F:=by
 intro args k hk s C σ vs hS ha;obtain ⟨args',R,hargs,hR,hs⟩:=h args k hk
 exact conOk_run (E:=⟨tblD l,fun _=>true,gl,lp,n,joins P gl mg,true⟩) (F:=fun a k=>bif holds (a=args') then k R else none) hf hn hb hxt hst (tblD_env hl) hlp (fun a k' hk' s'=>by
  obtain ⟨h1,h2⟩:=bif_none hk';obtain rfl:=holds_eq.1 h1
  exact ⟨fin s' (R s'),(hs s').2,fun d σ hd=>⟨R,h2,(hs s').1,fin_some hd⟩⟩) args' k (hT rfl hR) s C σ vs hS (hargs.drl ha)
theorem con_flatZ {P:Program}{st:AE.Stat}{gl:Gl}{f:FuncId}{fn:Func}{F:ConF}{l:List (FuncId×ConF)}{lp:Nat->Option (LoopD Unit)}{n:Nat}{mg:List (Nat×List (Nat×List Nat))}(hst:GlOk st gl) (hl:∀ x∈l,ConOkZ true P st x.1 x.2) (hf:P.funcs[f]?=some fn)
  (hn:(fn.name== "runtime.NumGoroutine")=false) (hb:fn.body.isNone=false) (hxt:∀ a σ,st.ext f a σ=none) (hlp:∀ x∈loopsOf fn,∀ g,lp x.1=some g->LoopSR true P st gl x.2 g)
  (h:∀ args k,F args k=some ()->∃ args' d0,CvL args args'/\(Clo d0/\Low d0)/\k (fun _=>(d0,[]))=some ()/\bodyD P ⟨tblD l,fun _=>true,gl,lp,n,joins P gl mg,true⟩ fn args' [] (fun d _=>isD d0 d)=some ()):ConOkZ true P st f F:=by
 intro args k hk s C σ vs hS ha;obtain ⟨args',d0,hargs,⟨hc,hlo⟩,hR,hbody⟩:=h args k hk
 exact conOk_run (E:=⟨tblD l,fun _=>true,gl,lp,n,joins P gl mg,true⟩) (F:=fun a k=>bif holds (a=args') then k (fun _=>(d0,[])) else none) hf hn hb hxt hst (tblD_env hl) hlp (fun a k' hk' s'=>by
  obtain ⟨h1,h2⟩:=bif_none hk';obtain rfl:=holds_eq.1 h1
  exact ⟨_,hbody,fun d σ hd=>⟨_,h2,lowR_flat hlo,finQ_flat hc (holds_eq.1 (bif_none hd).1)⟩⟩) args' k (hT rfl hR) s C σ vs hS (hargs.drl ha)
def pieces (fn:Func) (p:Nat):List Code:=((loopsOf fn).filter fun x=>Nat.beq x.1 p).map (·.2)
noncomputable def pieceOf (fn:Func) (p:Nat):Code:=(pieces fn p).getD 0 .skip
noncomputable def loopAt (fn:Func) (p:Nat):Code:=match pieceOf fn p with
 | .loop c=>c
 | _=>.skip
def lpOf:List (Nat×LoopD Unit)->Nat->Option (LoopD Unit)
 | [],_=>none
 | (p,g) :: r,q=>match Nat.beq q p with
  | true=>some g
  | false=>lpOf r q
theorem pieces_mem {fn:Func}{p:Nat}{c:Code}(h:(p,c)∈loopsOf fn):c∈pieces fn p:=by
 unfold pieces;rw [List.mem_map]
 exact ⟨(p,c),List.mem_filter.2 ⟨h,by simp⟩,rfl⟩
theorem lp_table {P:Program}{st:AE.Stat}{gl:Gl}{fn:Func}:∀ {t:List (Nat×LoopD Unit)},(∀ e∈t,∃ c,pieces fn e.1=[c]/\LoopS P st gl c e.2)->∀ x∈loopsOf fn,∀ g,lpOf t x.1=some g->LoopS P st gl x.2 g
 | [],_,x,_,g,hg=>by cases hg
 | (p,g0) :: r,h,x,hx,g,hg=>by
  unfold lpOf at hg;split at hg
  ·rename_i e;have e:=Nat.eq_of_beq_eq_true e;obtain rfl:=Option.some.inj hg
   obtain ⟨c,h1,h2⟩:=h (p,g0) (by simp)
   have hm:=pieces_mem (fn:=fn) (p:=x.1) (c:=x.2) hx;rw [e,h1] at hm
   obtain rfl:x.2=c:=by simpa using hm
   exact h2
  ·exact lp_table (fun e he=>h e (by simp [he])) x hx g hg
theorem lp_one {P:Program}{st:AE.Stat}{gl:Gl}{fn:Func}{p:Nat}{g0:LoopD Unit}{c:Code}(h:pieces fn p=[c]) (H:LoopS P st gl c g0):∀ x∈loopsOf fn,∀ g,lpOf [(p,g0)] x.1=some g->LoopS P st gl x.2 g :=
 lp_table fun e he=>by
  obtain rfl:e=(p,g0):=by simpa using he
  exact ⟨c,h,H⟩
theorem WkP.of {m:Nat}{ids:List Nat}{ds ds2:List DV}{σ σ2:DHeap}{im:List (Option Nat)}(tm:SubL (ren m ids) ds2 ds) (len:σ2.length=m+ids.length) (blk:BlkL (ren m ids) σ 0 σ2) (e:imgs (ren m ids) 0 σ2=im) (nd:im.Nodup):WkP m ids ds σ ds2 σ2:=⟨tm,len,blk,e ▸ nd⟩
end Go.DE
namespace Go.DE
open Go Go.AE Go.RowKit
section
variable {P:Program}{st:AE.Stat}{f:FuncId}{fn:Func}
theorem enter_ext {vs:List Value}{σ:Heap}{r:Value×Heap}(hf:P.funcs[f]?=some fn) (hn:(fn.name== "runtime.NumGoroutine")=false) (hb:fn.body.isNone=false) (he:st.ext f vs σ=some r):Lim (fun n m=>enterA P (runF P st n m) f vs σ) r:=by
 refine ⟨1,fun n m _ hm=>?_⟩
 obtain ⟨m,rfl⟩:∃ m',m=m'+1:=⟨m-1,by omega⟩
 show enterA P (runF P st n (m+1)) f vs σ=_;unfold enterA;rw [hf];simp only [hn,hb,Bool.false_eq_true,if_false,runF,hf,he]
theorem isV2_of2 (x:Value):isV2 (of2 x)=true:=by
 cases x
 case agg cs=>exact List.all_eq_true.2 fun d hd=>by obtain ⟨y,_,rfl⟩:=List.mem_map.1 hd; rfl
 all_goals rfl
theorem flR_ofV (v:Value):flR (ofV v)=true:=by
 cases v
 case agg cs=>exact List.all_eq_true.2 fun d hd=>by obtain ⟨y,_,rfl⟩:=List.mem_map.1 hd; rfl
 case tuple cs=>exact List.all_eq_true.2 fun d hd=>by obtain ⟨y,_,rfl⟩:=List.mem_map.1 hd; exact isV2_of2 y
 all_goals rfl
theorem con_ext {F:ConF}(hf:P.funcs[f]?=some fn) (hn:(fn.name== "runtime.NumGoroutine")=false) (hb:fn.body.isNone=false)
  (h:∀ args k,F args k=some ()->∃ v,okV v=true/\k (fun _=>(ofV v,[]))=some ()/\∀ C σ vs,St st C noMu σ []->DRL C noMu args vs->st.ext f vs σ=some (v,σ)):ConOk P st f F:=by
 intro args k hk s C σ vs hS ha;obtain ⟨v,hv,hR,he⟩:=h args k hk;have hlow:Low (ofV v):=(flR_clo (flR_ofV v)).2
 refine ⟨_,hR,⟨hlow,fun id blk hb=>by simp at hb⟩,v,σ,C,noMu,enter_ext hf hn hb (he C σ vs hS ha),?_,okV_DR hv,fun id x hm=>(nomatch hm),Nat.le_refl _,fun _ _=>rfl,fun b hl=>?_,fun _ _ _ _ h=>.inl h⟩
 ·have:(List.replicate s none++([]:DHeap))=List.replicate s none:=by simp
  refine ⟨hS.frz,fun id blk hb=>?_,fun id blk b x hb=>?_,fun id id' blk blk' b x x' hb=>?_,fun id x hm=>(nomatch hm),hS.low,hS.sta⟩
  all_goals (have:=(repl_get.1 hb).2; simp at this)
 ·obtain ⟨id,blk,x,hb,_⟩:=hl;have:=(repl_get.1 hb).2;simp at this
end
end Go.DE
namespace Go.DE
open Go Go.AE Go.RowKit
abbrev EndD:=Ex×List DV×DHeap
def StepN {X:Type}(pre:X->Prop) (m:Nat) (S:X->List DV×DHeap) (fin:X->EndD->Prop) (meas:X->Nat) (x:X) (e:Ex) (τ:List DV) (σ:DHeap):Prop :=
 match e with
 | .normal=>∃ y,pre y/\(∀ o,fin y o->fin x o)/\meas y<meas x/\∃ r,Wk r m τ σ (S y).1 (S y).2
 | e=>∃ o,fin x o/\e=o.1/\∃ r,Wk r m τ σ o.2.1 o.2.2
section
variable {st:AE.Stat}{P:Program}
end
structure LInvN (X:Type) where
 pre:X->Prop:=fun _=>True
 m:Nat
 n:Nat
 ps:List Nat
 sd:X->List DV
 sh:X->DHeap
 meas:X->Nat
 qs:List Nat
 fin:X->EndD->Prop
 guess:List DV->DHeap->Option X
 cps:X->(Ex->List DV->DHeap->Option Unit)->Option Unit
def LInvN.st {X:Type}(I:LInvN X) (x:X):List DV×DHeap:=(temps I.n I.ps (I.sd x),I.sh x)
def LInvN.ends {X:Type}(I:LInvN X) (x:X) (o:EndD):Prop:=∃ ds,I.fin x (o.1,ds,o.2.2)/\o.2.1=temps I.n I.qs ds
def LInvN.Q {X:Type}(I:LInvN X) (x:X) (e:Ex) (n:Nat) (ds es:List DV) (σ:DHeap):Prop :=
 n=I.n/\match e with
  | .normal=>∃ y,I.pre y/\(∀ o,I.fin y o->I.fin x o)/\I.meas y<I.meas x/\∃ ids,WkP I.m ids ds σ (I.sd y) (I.sh y)
  | e=>∃ o:EndD,I.fin x o/\e=o.1/\∃ ids,WkP I.m ids es σ o.2.1 o.2.2
noncomputable def LInvN.ask {X:Type}(I:LInvN X) (x:X) (e:Ex) (n:Nat) (ds es:List DV) (σ:DHeap):Option Unit:=bif holds (I.Q x e n ds es σ) then some () else none
noncomputable def LInvN.g {X:Type}(I:LInvN X):LoopD Unit:=fun τ σ k=>match Nat.beq τ.length I.n,Nat.beq σ.length I.m with
 | true,true=>match I.guess (pick I.ps τ) σ with
  | some x=>bif holds (I.pre x/\∃ ids,WkP I.m ids (pick I.ps τ) σ (I.sd x) (I.sh x)) then I.cps x (fun e ds σ=>k e (temps I.n I.qs ds) σ) else none
  | none=>none
 | _,_=>none
end Go.DE
