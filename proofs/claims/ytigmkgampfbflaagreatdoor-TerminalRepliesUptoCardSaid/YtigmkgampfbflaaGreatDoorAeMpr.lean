/-
 A region whose order is open and that builds one map: whatever order its edges allow,it comes to what the evaluator says,and the map holds each entry.
 Conditions: see the theorems.
-/
import Derived.Test.YtigmkgampfbflaaGreatDoorAeOrd3
import Derived.Test.YtigmkgampfbflaaGreatDoorAeExec
import Derived.Test.YtigmkgampfbflaaGreatDoorAeSub2
namespace Go.AE
open Go Go.RowKit
def mprOp (p:Tmp) (sp:List Tmp) (o:Oper):Oper :=
 match o.op with
 | .makeMap _ _=>{ o with op:=.move (.tmp p) }
 | .insert _ _ _ _=>{ o with op:=.move (.const (.bool true)) }
 | .move (.tmp s)=>if s∈sp then { o with op:=.move (.tmp p) } else o
 | .assign (.tmp s)=>if s∈sp then { o with op:=.move (.tmp p) } else o
 | _=>o
def isKeyed (P:Program) (q:IntKind) (t:TypeId):Bool :=
 match P.underlying t with
 | some (.map kt _)=>match P.underlying kt with
  | some (.int q')=>decide (q=q')
  | _=>false
 | _=>false
structure MprOk (P:Program) (q:IntKind) (ops:Array Oper) (n:Nat) (p iM:Nat) (tM:Tmp) (sp:List Tmp) (ins:List (Nat×Int×Tmp)) (cps:List (Nat×Tmp)):Prop where
 make:∀ i (o:Oper) t r,ops[i]?=some o->o.op=.makeMap t r->i=iM/\r=none/\o.dst=some tM/\o.guard=none
 entry:∀ i (o:Oper) t m k x,ops[i]?=some o->o.op=.insert t m k x->∃ k' x',m=.tmp tM/\k=.const (.int q k')/\x=.tmp x'/\o.dst=none/\o.guard=none/\(i,k',x')∈ins/\isKeyed P q t=true/\iM∈predsA o
 only:∀ (i:Nat) (o:Oper),ops[i]?=some o->o.dst=some tM->i=iM
 param:∀ (i:Nat) (o:Oper),ops[i]?=some o->o.dst≠some p
 isIns:∀ i k x,(i,k,x)∈ins->∃ (o:Oper) (t:TypeId) (m kk xx:Operand),ops[i]?=some o/\o.op=.insert t m kk xx/\iM∈predsA o/\∀ (j:Nat) (y:Oper),ops[j]?=some y->y.dst=some x->j∈predsA o
 apart:∀ i k x j y,(i,k,x)∈ins->(j,k,y)∈ins->i=j
 uniq:∀ i k x k' x',(i,k,x)∈ins->(i,k',x')∈ins->k=k'/\x=x'
 copy:∀ (i:Nat) (o:Oper) s,ops[i]?=some o->(o.op=.move (.tmp s)\/o.op=.assign (.tmp s))->s∈sp->∃ d,(i,d)∈cps/\o.dst=some d/\o.guard=none/\((s=tM/\iM∈predsA o)\/∃ j,(j,s)∈cps/\j∈predsA o)
 dstCopy:∀ i d,(i,d)∈cps->∀ (y:Oper),ops[i]?=some y->y.dst=some d
 isCopy:∀ i d,(i,d)∈cps->∃ (o:Oper) (s:Tmp),ops[i]?=some o/\(o.op=.move (.tmp s)\/o.op=.assign (.tmp s))/\s∈sp
 oneCopy:∀ i d,(i,d)∈cps->∀ (j:Nat) (y:Oper),ops[j]?=some y->y.dst=some d->j=i
 here:∃ (o:Oper) (t:TypeId),ops[iM]?=some o/\o.op=.makeMap t none
theorem mprOp_dst (p:Tmp) (sp:List Tmp) (o:Oper):(mprOp p sp o).dst=o.dst:=by unfold mprOp; split<;>first | rfl | (split<;>rfl)
theorem mprOp_after (p:Tmp) (sp:List Tmp) (o:Oper):(mprOp p sp o).after=o.after:=by unfold mprOp; split<;>first | rfl | (split<;>rfl)
theorem mprOp_guard (p:Tmp) (sp:List Tmp) (o:Oper):(mprOp p sp o).guard=o.guard:=by unfold mprOp; split<;>first | rfl | (split<;>rfl)
theorem mprOp_preds (p:Tmp) (sp:List Tmp) (o:Oper):predsA (mprOp p sp o)=predsA o:=by unfold predsA; rw [mprOp_after]
theorem mpr_yielded (p:Tmp) (sp:List Tmp) (ops:Array Oper):yielded (ops.map (mprOp p sp))=yielded ops:=by
 funext τ j
 unfold yielded;rw [Array.getElem?_map]
 cases ops[j]? with
 | none=>rfl
 | some o=>simp [mprOp_dst]
section
variable {P:Program}{w0:World}
theorem wp_value {o:Oper}{a:Act}{K:Act->World->Prop}{Q:Exit->Act->World->Prop}{w w':World}{v':Value}{r:Option Nat}(hd:isDefer o.op=false) (hr:(execOp a.eval o).run P w=.ok (.value v') w')
  (hK:K (a.put o.dst v') w'):o.wpIn (FR r) 0 P a w K Q:=by
 unfold Oper.wpIn
 refine ⟨fun _ _=>trivial,?_⟩
 rw [Oper.semAt_eq _ _ _ (fun c e=>by rw [e] at hd; cases hd),hr]
 exact hK
theorem wp_skip {o:Oper}{a:Act}{K:Act->World->Prop}{Q:Exit->Act->World->Prop}{w w':World}{r:Option Nat}(hd:isDefer o.op=false) (hr:(execOp a.eval o).run P w=.ok .skip w')
  (hK:K (a.put o.dst undef) w'):o.wpIn (FR r) 0 P a w K Q:=by
 unfold Oper.wpIn
 refine ⟨fun _ _=>trivial,?_⟩
 rw [Oper.semAt_eq _ _ _ (fun c e=>by rw [e] at hd; cases hd),hr]
 exact hK
theorem findNow_more {d:TypeDesc}{k:Value}{r:Nat×Value}(l':List MapEntry):∀ {l:List MapEntry}{i:Nat},Instr.findNow d k l i=some (some r)->Instr.findNow d k (l++l') i=some (some r)
 | [],i,h=>by cases h
 | e :: l,i,h=>by
  simp only [List.cons_append,Instr.findNow] at h ⊢
  cases hs:Instr.sameNow d k e.key with
  | none=>rw [hs] at h; cases h
  | some b=>cases b with
   | true=>rw [hs] at h; exact h
   | false=>rw [hs] at h; exact findNow_more l' h
theorem findNow_new {q:IntKind}{k:Int}(e:MapEntry) (he:e.key=.int q k):∀ {l:List MapEntry}{i:Nat},Instr.findNow (.int q) (.int q k) l i=some none->Instr.findNow (.int q) (.int q k) (l++[e]) i=some (some (i+l.length,e.val))
 | [],i,_=>by simp [Instr.findNow,he,Instr.sameNow]
 | x :: l,i,h=>by
  simp only [List.cons_append,Instr.findNow] at h ⊢
  cases hs:Instr.sameNow (.int q) (.int q k) x.key with
  | none=>rw [hs] at h; cases h
  | some b=>cases b with
   | true=>rw [hs] at h; cases h
   | false =>
    rw [hs] at h;have:=findNow_new e he h;simp only [this,List.length_cons]
    congr 3
    omega
theorem findNow_other {q:IntKind}{k:Int}:∀ {l:List MapEntry}{i:Nat},(∀ e∈l,∃ n,e.key=.int q n/\n≠k)->Instr.findNow (.int q) (.int q k) l i=some none
 | [],i,_=>rfl
 | x :: l,i,h=>by
  obtain ⟨n,hn,hk⟩:=h x (by simp)
  simp only [Instr.findNow,hn,Instr.sameNow,if_true]
  have:(k==n)=false:=by simpa using fun e=>hk e.symm
  rw [this]
  exact findNow_other fun e he=>h e (by simp [he])
theorem put_ne {a:Act}{d:Option Tmp}{v:Value}{t:Tmp}(h:d≠some t):(a.put d v).tmps[t]?=a.tmps[t]?:=by
 cases d with
 | none=>rfl
 | some d =>
  have:d≠t:=fun e=>h (by rw [e])
  simp [Act.put,Array.getElem?_setIfInBounds_ne this]
theorem Rel.push {ρ:Ren}{H:HF}{w:World}(h:Rel w0 ρ H w) (o:Obj):Rel w0 ρ H { w with heap:=w.heap.push o }:=by
 refine ⟨⟨h.below.os,h.below.tape,h.below.output,by simp; exact Nat.le_succ_of_le h.below.size,fun b hb=>?_⟩,fun id b x y e=>?_,fun id b x y blk e1 e2=>?_,h.inj⟩
 ·rw [<- h.below.block b hb];have:=h.below.size
  exact Array.getElem?_push_lt (by omega) |>.trans (Array.getElem?_eq_getElem (by omega)).symm
 ·have:=h.dyn id b x y e;simp;omega
 ·obtain ⟨ob,ho,hc⟩:=h.cont id b x y blk e1 e2;have:=(Array.getElem?_eq_some_iff.1 ho).1
  exact ⟨ob,by rw [Array.getElem?_push_lt this]; rw [Array.getElem?_eq_getElem this] at ho; exact ho,hc⟩
theorem Rel.poke {ρ:Ren}{H:HF}{w:World}(h:Rel w0 ρ H w) (o:Obj) {m:Nat}(hm:w0.heap.size<=m) (hi:¬ Img ρ H m):Rel w0 ρ H { w with heap:=w.heap.setIfInBounds m o }:=by
 refine ⟨⟨h.below.os,h.below.tape,h.below.output,by simp; exact h.below.size,fun b hb=>?_⟩,fun id b x y e=>?_,fun id b x y blk e1 e2=>?_,h.inj⟩
 ·rw [<- h.below.block b hb]
  exact Array.getElem?_setIfInBounds_ne (by omega)
 ·have:=h.dyn id b x y e;simp;omega
 ·obtain ⟨ob,ho,hc⟩:=h.cont id b x y blk e1 e2
  have hne:m≠b:=fun e=>hi ⟨id,x,y,blk,by rw [e1,e],e2⟩
  exact ⟨ob,by rw [<- ho]; exact Array.getElem?_setIfInBounds_ne hne,hc⟩
variable {st:Stat}{call:CallA}{ops:Array Oper}{n:Nat}{o:Nat->Oper}{T:Nat->Array Value}{S:Nat->Heap}{c:List Nat}{rd:Option Nat}
variable {ρ0:Ren}{wI:World}{aI:Act}{listed:Array Bool}{a:Act}{w:World}{ρ:Ren}{cur:HF}{r:Nat}
theorem Inv.poke {ops:Array Oper}(I:Inv P w0 ops n o T S ρ0 wI aI listed a w ρ cur r) (ob:Obj) {m:Nat}(h0:w0.heap.size<=m) (hI:wI.heap.size<=m) (hi:¬ Img ρ cur m) :
  Inv P w0 ops n o T S ρ0 wI aI listed a { w with heap:=w.heap.setIfInBounds m ob } ρ cur r :=
 { I with
  rel:=I.rel.poke ob h0 hi
  fr:=⟨by simp; exact I.fr.size,fun b hb hn=>by rw [<- I.fr.fr b hb hn]; exact Array.getElem?_setIfInBounds_ne (by omega),I.fr.img⟩ }
def MapE (q:IntKind) (w0 wI:World) (iM:Nat) (tM:Tmp) (ins:List (Nat×Int×Tmp)) (cps:List (Nat×Tmp)) (listed:Array Bool) (a:Act) (w:World) (ρ:Ren) (cur:HF):Prop :=
 Lst listed iM->∃ m en clock,a.tmps[tM]?=some (.map (some m))/\w.heap[m]?=some (.map en clock)/\w0.heap.size<=m/\wI.heap.size<=m/\¬ Img ρ cur m /\
  (∀ j d,(j,d)∈cps->Lst listed j->a.tmps[d]?=some (.map (some m))) /\
  (∀ e∈en.toList,∃ j k x,(j,k,x)∈ins/\Lst listed j/\e.key=.int q k) /\
  ∀ j k x,(j,k,x)∈ins->Lst listed j->∃ v u,a.tmps[x]?=some v/\Instr.findNow (.int q) (.int q k) en.toList 0=some (some (u,v))
variable {q:IntKind}{p iM:Nat}{tM:Tmp}{sp:List Tmp}{ins:List (Nat×Int×Tmp)}{cps:List (Nat×Tmp)}
theorem MapE.keep (hk:MprOk P q ops n p iM tM sp ins cps) (I:Inv P w0 (ops.map (mprOp p sp)) n o T S ρ0 wI aI listed a w ρ cur r) (hop:∀ i,i<n->∃ x,ops[i]?=some x/\o i=mprOp p sp x) (hsz:ops.size=n)
  (E:MapE q w0 wI iM tM ins cps listed a w ρ cur) {i:Nat}(hi:i<n) (hun:¬ Lst listed i) (hM:i≠iM) (hI:∀ k x,(i,k,x) ∉ ins) (hC:∀ d,(i,d) ∉ cps) {v1:Value}{w1:World}{ρ1:Ren}{cur1:HF}(hf:Fr ρ cur w ρ1 cur1 w1) :
  MapE q w0 wI iM tM ins cps (listed.setIfInBounds i true) (a.put (o i).dst v1) w1 ρ1 cur1:=by
 have hi':i<listed.size:=by rw [I.hsz]; exact hi
 intro hl;rw [lst_set hi'] at hl
 have hl:=hl.resolve_left (fun e=>hM e.symm)
 obtain ⟨m,en,clock,e1,e2,e3,e4,e5,ec,e6,e7⟩:=E hl;have hmlt:m<w.heap.size:=(Array.getElem?_eq_some_iff.1 e2).1;obtain ⟨x,hx,hox⟩:=hop i hi
 have hdx:(o i).dst=x.dst:=by rw [hox,mprOp_dst]
 refine ⟨m,en,clock,?_,(hf.fr m hmlt e5).trans e2,e3,e4,fun h=>e5 (hf.img m h hmlt),fun j d hj hlj=>?_,fun e he=>?_,fun j k y hj hlj=>?_⟩
 ·rw [put_ne (fun h=>hM (hk.only i x hx (by rw [<- hdx,h])))]
  exact e1
 ·rw [lst_set hi'] at hlj
  have hlj:=hlj.resolve_left (fun e=>hC d (e ▸ hj))
  rw [put_ne (t:=d) (fun h=>hC d (by have e:=hk.oneCopy j d hj i x hx (hdx.symm.trans h); rw [e]; exact hj))]
  exact ec j d hj hlj
 ·obtain ⟨j,k,y,h1,h2,h3⟩:=e6 e he
  exact ⟨j,k,y,h1,by rw [lst_set hi']; exact .inr h2,h3⟩
 ·rw [lst_set hi'] at hlj
  have hlj:=hlj.resolve_left (fun e=>hI k y (e ▸ hj))
  obtain ⟨v,u,h1,h2⟩:=e7 j k y hj hlj;refine ⟨v,u,?_,h2⟩
  rw [put_ne (fun h=>?_)]
  ·exact h1
  ·obtain ⟨oj,_,_,_,_,hoj,_,_,hdef⟩:=hk.isIns j k y hj
   have hjn:j<n:=by rw [<- hsz]; exact (Array.getElem?_eq_some_iff.1 hoj).1
   have hpre:i∈predsA (o j):=by
    obtain ⟨x',hx',hox'⟩:=hop j hjn;obtain rfl:=Option.some.inj (hoj.symm.trans hx');rw [hox',mprOp_preds]
    exact hdef i x hx (by rw [<- hdx,h])
   exact hun (I.dc j hjn hlj i hpre)
theorem Mpr.all (hk:MprOk P q ops n p iM tM sp ins cps) (R:Reg P st call (ops.map (mprOp p sp)) n o T S c) (hcall:RunOk P w0 call) (hst:GoodSt w0 st) (hp0:(T 0)[p]?=some (.chan none)) (htM:tM<(T 0).size)
  (hx0:∀ j k x,(j,k,x)∈ins->x<(T 0).size) (hc0:∀ j d,(j,d)∈cps->d<(T 0).size) {Q:Exit->Act->World->Prop}
  (hQ:∀ a1 w1 ρ1,Nxt w0 ρ0 (S 0) wI ρ1 (S n) w1->VRA ρ1 (T n) a1.tmps->a1.defers=aI.defers ->
   (∃ m en clock,a1.tmps[tM]?=some (.map (some m))/\w1.heap[m]?=some (.map en clock)/\w0.heap.size<=m/\wI.heap.size<=m/\¬ Img ρ1 (hp (S n)) m/\(∀ j d,(j,d)∈cps->a1.tmps[d]?=some (.map (some m))) /\
    ∀ j k x,(j,k,x)∈ins->∃ v u,a1.tmps[x]?=some v/\Instr.findNow (.int q) (.int q k) en.toList 0=some (some (u,v)))->Q .normal a1 w1) :
  ∀ (fuel:Nat) (listed:Array Bool) (a:Act) (w:World) (ρ:Ren) (cur:HF) (r:Nat),
  Inv P w0 (ops.map (mprOp p sp)) n o T S ρ0 wI aI listed a w ρ cur r->MapE q w0 wI iM tM ins cps listed a w ρ cur->left n listed<=fuel->wpAnyIn (FR rd) 0 P .any ops Q fuel listed a w:=by
 have hsz:ops.size=n:=by have:=R.size; simpa using this
 have hop:∀ i,i<n->∃ x,ops[i]?=some x/\o i=mprOp p sp x:=by
  intro i hi;have:=R.op i hi;rw [Array.getElem?_map] at this
  cases hx:ops[i]? with
  | none=>rw [hx] at this; cases this
  | some x=>rw [hx] at this; exact ⟨x,rfl,(Option.some.inj this).symm⟩
 have hpre:∀ i x,ops[i]?=some x->i<n->predsA x=predsA (o i):=by
  intro i x hx hi;obtain ⟨y,hy,hoy⟩:=hop i hi;obtain rfl:=Option.some.inj (hx.symm.trans hy);rw [hoy,mprOp_preds]
 have fin:∀ (listed:Array Bool) (a:Act) (w:World) (ρ:Ren) (cur:HF) (r:Nat),Inv P w0 (ops.map (mprOp p sp)) n o T S ρ0 wI aI listed a w ρ cur r->MapE q w0 wI iM tM ins cps listed a w ρ cur->(∀ i,i<n->Lst listed i)->Q .normal a w:=by
  intro listed a w ρ cur r I E hall
  have hat:=I.at R hcall (Nat.le_refl n) I.r_le fun k hk _=>hall k hk
  have heq:∀ id blk,ρ id≠none->hp (S n) id=some blk->cur id=some blk:=fun id blk hm e=>by rw [hat id (hp_lt e) hm,e]
  refine hQ a w ρ ⟨R.mono hcall (Nat.zero_le n) (Nat.le_refl n),I.ext,I.fr.congr heq,I.rel.congr heq⟩ ?_ I.dfr ?_
  ·refine ⟨by rw [I.tsz,R.tsize n (Nat.le_refl n)],fun t v v' hv hv'=>?_⟩
   obtain ⟨u,h1,h2⟩:=I.tmp t n (Nat.le_refl n) (fun i hi _=>⟨fun _=>hi,fun _=>hall i hi⟩) v hv
   obtain rfl:=Option.some.inj (h1.symm.trans hv');exact h2
  ·obtain ⟨oM,tt,hoM,_⟩:=hk.here
   have hMn:iM<n:=by rw [<- hsz]; exact (Array.getElem?_eq_some_iff.1 hoM).1
   obtain ⟨m,en,clock,e1,e2,e3,e4,e5,ec,e6,e7⟩:=E (hall iM hMn)
   refine ⟨m,en,clock,e1,e2,e3,e4,fun ⟨id,x,y,blk,h1,h2⟩=>e5 ⟨id,x,y,blk,h1,heq id blk (by rw [h1]; simp) h2⟩,fun j d hj=>?_,fun j k x hj=>?_⟩
   ·obtain ⟨oj,_,hoj,_⟩:=hk.isCopy j d hj
    have hjn:j<n:=by rw [<- hsz]; exact (Array.getElem?_eq_some_iff.1 hoj).1
    exact ec j d hj (hall j hjn)
   obtain ⟨oj,_,_,_,_,hoj,_,_,_⟩:=hk.isIns j k x hj
   have hjn:j<n:=by rw [<- hsz]; exact (Array.getElem?_eq_some_iff.1 hoj).1
   exact e7 j k x hj (hall j hjn)
 have nil_all:∀ (listed:Array Bool),listed.size=n->Region.ready .any ops listed=[]->∀ i,i<n->Lst listed i:=by
  intro listed hs hr i
  induction i using Nat.strongRecOn with
  | _ i ih =>
   intro hi
   cases hl:listed.getD i false with
   | true=>exact hl
   | false =>
    exfalso
    obtain ⟨x,hx,hox⟩:=hop i hi
    have:i∈Region.ready .any ops listed:=by
     rw [mem_ready]
     refine ⟨?_,x,hx,fun e he hb=>?_⟩
     ·have hi':i<listed.size:=by omega
      simp [hi'] at hl ⊢;exact hl
     ·have hk2:e.on∈predsA (o i):=by
       rw [hox,mprOp_preds];unfold predsA;rw [List.mem_filterMap]
       exact ⟨e,by simpa using he,by simp [hb]⟩
      have:=R.pre i hi _ hk2
      exact ih _ this (by omega)
    rw [hr] at this;cases this
 intro fuel
 induction fuel with
 | zero =>
  intro listed a w ρ cur r I E hl
  have hall:∀ i,i<n->Lst listed i:=by
   intro i hi
   cases hh:listed.getD i false with
   | true=>exact hh
   | false =>
    exfalso
    have:i∈(List.range n).filter fun i=>!listed.getD i false:=by
     rw [List.mem_filter]
     exact ⟨by simp [hi],by simp [hh]⟩
    unfold left at hl
    have h0:(List.range n).filter (fun i=>!listed.getD i false)=[]:=List.eq_nil_of_length_eq_zero (by omega)
    rw [h0] at this;cases this
  refine ⟨?_,fin listed a w ρ cur r I E hall⟩
  cases hr:Region.ready .any ops listed with
  | nil=>rfl
  | cons x xs =>
   exfalso
   have hx:x∈Region.ready .any ops listed:=by rw [hr]; simp
   rw [mem_ready] at hx;obtain ⟨h1,ox,h2,_⟩:=hx
   have hxn:x<n:=by
    have:=(Array.getElem?_eq_some_iff.1 h2).1;rw [hsz] at this;exact this
   have:=hall x hxn;unfold Lst at this
   have hx':x<listed.size:=by rw [I.hsz]; exact hxn
   simp [hx'] at h1 this;rw [h1] at this;cases this
 | succ fuel ih =>
  intro listed a w ρ cur r I E hl
  refine ⟨fun hr=>fin listed a w ρ cur r I E (nil_all listed I.hsz hr),fun i hi=>?_⟩
  rw [mem_ready] at hi;obtain ⟨h1,x,hx,h3⟩:=hi
  have hin:i<n:=by
   have:=(Array.getElem?_eq_some_iff.1 hx).1;rw [hsz] at this;exact this
  obtain ⟨x2,hx2,hox⟩:=hop i hin;obtain rfl:=Option.some.inj (hx.symm.trans hx2)
  have hi':i<listed.size:=by rw [I.hsz]; exact hin
  have hun:¬ Lst listed i:=by
   unfold Lst;simp [hi'] at h1 ⊢;exact h1
  have hrd:∀ k∈predsA (o i),Lst listed k:=by
   intro k hk2;rw [hox,mprOp_preds] at hk2;unfold predsA at hk2;rw [List.mem_filterMap] at hk2;obtain ⟨e,he,hb⟩:=hk2;split at hb
   ·rename_i hb1;obtain rfl:=Option.some.inj hb
    exact h3 e (by simpa using he) hb1
   ·cases hb
  have hless:left n (listed.setIfInBounds i true)<=fuel:=by
   have:left n (listed.setIfInBounds i true)<left n listed:=by
    unfold left
    refine filter_less _ (fun x _ hx=>?_) ⟨i,by simp [hin],?_,?_⟩
    ·simp only [Bool.not_eq_true'] at hx ⊢
     by_cases e:i=x
     ·subst e;simp [hi'] at hx
     ·rwa [getD_set_ne false e] at hx
    ·unfold Lst at hun
     simpa using hun
    ·simp [hi']
   omega
  have hRs:Rel w0 ρ (hp (seen ρ cur (S n).length)) w:=I.rel.congr fun id blk hm e=>by
   rw [hp_seen] at e;split at e
   ·exact e
   ·cases e
  have himg:∀ m,Img ρ (hp (seen ρ cur (S n).length)) m->Img ρ cur m:=by
   intro m ⟨id,y,z,blk,e1,e2⟩;rw [hp_seen] at e2;split at e2
   ·exact ⟨id,y,z,blk,e1,e2⟩
   ·cases e2
  have htsz:a.tmps.size=(T 0).size:=I.tsz
  have hcM:∀ j d,(j,d)∈cps->Lst listed j->Lst listed iM:=by
   intro j
   induction j using Nat.strongRecOn with
   | _ j ihj =>
    intro d hj hl;obtain ⟨oj,s,hoj,hops,hs⟩:=hk.isCopy j d hj
    have hjn:j<n:=by rw [<- hsz]; exact (Array.getElem?_eq_some_iff.1 hoj).1
    obtain ⟨_,_,_,_,hor⟩:=hk.copy j oj s hoj hops hs
    rcases hor with ⟨_,hM⟩ | ⟨j',hj',hM⟩
    ·exact I.dc j hjn hl iM (by rw [<- hpre j oj hoj hjn]; exact hM)
    ·have hM':j'∈predsA (o j):=by rw [<- hpre j oj hoj hjn]; exact hM
     exact ihj j' (R.pre j hjn _ hM') s hj' (I.dc j hjn hl j' hM')
  have hpi:(T i)[p]?=some (.chan none):=by
   rw [R.tkeep (Nat.zero_le i) (by omega) (fun k _ hki h=>?_)]
   ·exact hp0
   ·obtain ⟨y,hy,hoy⟩:=hop k (by omega)
    rw [hoy,mprOp_dst] at h;exact hk.param k y hy h
  have hev:evalT (T i) (.tmp p)=.chan none:=by
   show (T i).getD p undef=_;rw [Array.getD_eq_getD_getElem?,hpi];rfl
  have hva:(o i).op=.move (.tmp p)->opA P st call (evalT (T i)) (o i) (S i)=some (.chan none,S i):=by
   intro ho';unfold opA constsOk peekA;rw [ho'];simp [Op.operands,specA,hev,flat,flatD]
  by_cases hmk:∃ t r,x.op=.makeMap t r
  ·obtain ⟨t,rr,hxo⟩:=hmk;obtain ⟨rfl,rfl,hdst,hgd⟩:=hk.make i x t rr hx hxo
   have ho':(o i).op=.move (.tmp p):=by rw [hox]; unfold mprOp; rw [hxo]
   have hd':(o i).dst=some tM:=by rw [hox,mprOp_dst,hdst]
   obtain ⟨_,hcase⟩:=step_cases (R.step i hin)
   have hw':∀ y,Region.wanted (o i) y=true:=by
    intro y;unfold Region.wanted;rw [hox,mprOp_guard,hgd]
   obtain ⟨v,hv,hT⟩:∃ v,opA P st call (evalT (T i)) (o i) (S i)=some (v,S (i+1))/\T (i+1)=putT (T i) (o i).dst v:=by
    rcases hcase with ⟨_,v,hv,hT⟩ | ⟨hw,_⟩
    ·exact ⟨v,hv,hT⟩
    ·rw [hw'] at hw; cases hw
   rw [hva ho'] at hv;simp only [Option.some.injEq,Prod.mk.injEq] at hv;obtain ⟨rfl,hS⟩:=hv;show wpOpIn (FR rd) 0 P ops Q i _ a w;unfold wpOpIn;rw [hx];simp only
   rw [if_pos (by unfold Region.wanted; rw [hgd])]
   refine wp_value (v':=.map (some w.heap.size)) (w':={ w with heap:=w.heap.push (.map #[] 0) }) (by rw [hxo]; rfl) ?_ ?_
   ·unfold execOp;rw [hxo];simp [Instr.makeMap]
   ·have hn:Nxt w0 ρ (seen ρ cur (S n).length) w ρ (seen ρ cur (S n).length) { w with heap:=w.heap.push (.map #[] 0) }:=by
     refine ⟨Nat.le_refl _,.refl _ _ _,⟨by simp,fun b hb _=>?_,fun b h _=>h⟩,hRs.push _⟩
     exact Array.getElem?_push_lt hb |>.trans (Array.getElem?_eq_getElem hb).symm
    have h2:=I.next_same R hcall hin hun hrd (v':=.map (some w.heap.size)) hn (.any _ rfl) hT hS.symm (by rw [ho']; simp [cls])
    rw [hd'] at h2;rw [hdst]
    refine ih _ _ _ _ _ _ h2.1 (fun _=>?_) hless
    refine ⟨w.heap.size,#[],0,?_,by simp,I.rel.below.size,I.fr.size,fun h=>?_,fun j d hj hlj=>?_,fun e he=>by simp at he,fun j k y hj hlj=>?_⟩
    ·have:tM<a.tmps.size:=by rw [htsz]; exact htM
     simp [Act.put,this]
    ·obtain ⟨id,y,z,blk,e1,e2⟩:=himg _ h;have:=(I.rel.dyn id _ y z e1).2;omega
    ·exfalso
     rw [lst_set hi'] at hlj
     rcases hlj with rfl | hlj
     ·obtain ⟨oj,s,hoj,hops,_⟩:=hk.isCopy j d hj;obtain rfl:=Option.some.inj (hoj.symm.trans hx)
      rcases hops with h | h<;>(rw [h] at hxo; cases hxo)
     ·exact hun (hcM j d hj hlj)
    ·exfalso
     obtain ⟨oj,tt,mm,kk,xx,hoj,hopj,hMp,_⟩:=hk.isIns j k y hj
     have hjn:j<n:=by rw [<- hsz]; exact (Array.getElem?_eq_some_iff.1 hoj).1
     have hji:j≠i:=by
      rintro rfl
      obtain rfl:=Option.some.inj (hoj.symm.trans hx);rw [hopj] at hxo;cases hxo
     rw [lst_set hi'] at hlj
     exact hun (I.dc j hjn (hlj.resolve_left hji) i (by rw [<- hpre j oj hoj hjn]; exact hMp))
  ·by_cases hin2:∃ t m k y,x.op=.insert t m k y
   ·obtain ⟨t,mm,kk,yy,hxo⟩:=hin2;obtain ⟨k,y,rfl,rfl,rfl,hdst,hgd,hmem,hkey,hMp⟩:=hk.entry i x t mm kk yy hx hxo
    have hMl:Lst listed iM:=hrd iM (by rw [<- hpre i x hx hin]; exact hMp)
    have hiM:i≠iM:=fun e=>hun (e ▸ hMl)
    obtain ⟨m,en,clock,e1,e2,e3,e4,e5,ec,e6,e7⟩:=E hMl
    have hylt:y<a.tmps.size:=by rw [htsz]; exact hx0 i k y hmem
    have ho':(o i).op=.move (.const (.bool true)):=by rw [hox]; unfold mprOp; rw [hxo]
    have hd':(o i).dst=none:=by rw [hox,mprOp_dst,hdst]
    obtain ⟨_,hcase⟩:=step_cases (R.step i hin)
    have hw':∀ y,Region.wanted (o i) y=true:=by
     intro y;unfold Region.wanted;rw [hox,mprOp_guard,hgd]
    have hva:opA P st call (evalT (T i)) (o i) (S i)=some (.bool true,S i):=by
     have hpk:∀ v,peekA P (evalT (T i)) (o i)=some v->v=.bool true:=by
      intro v hv;unfold peekA at hv
      split at hv<;>first | (cases hv; done) | skip
      split at hv<;>first | (cases hv; done) | skip
      rename_i u hu
      split at hv<;>first | (cases hv; done) | skip
      obtain rfl:=Option.some.inj hv;unfold execOp at hu;rw [ho'] at hu
      change some (Next.value (Value.bool true))=some (Next.value u) at hu
      cases hu;rfl
     unfold opA
     rw [if_pos (by rw [ho']; rfl)]
     cases h:peekA P (evalT (T i)) (o i) with
     | none=>simp only [h]; rw [ho']; rfl
     | some v=>simp only [h]; rw [hpk v h]
    obtain ⟨v,hv,hT⟩:∃ v,opA P st call (evalT (T i)) (o i) (S i)=some (v,S (i+1))/\T (i+1)=putT (T i) (o i).dst v:=by
     rcases hcase with ⟨_,v,hv,hT⟩ | ⟨hw,_⟩
     ·exact ⟨v,hv,hT⟩
     ·rw [hw'] at hw; cases hw
    rw [hva] at hv;simp only [Option.some.injEq,Prod.mk.injEq] at hv;obtain ⟨rfl,hS⟩:=hv
    have h2:=I.next_same R hcall hin hun hrd (v':=.bool true) (.refl hRs) (.bool true) hT hS.symm (by rw [ho']; simp [cls])
    rw [hd'] at h2
    have hnk:Instr.findNow (.int q) (.int q k) en.toList 0=some none:=by
     refine findNow_other fun e he=>?_
     obtain ⟨j,k',y',h4,h5,h6⟩:=e6 e he;refine ⟨k',h6,?_⟩
     rintro rfl
     obtain rfl:=hk.apart j k' y' i y h4 hmem;exact hun h5
    obtain ⟨kt,et,hu,hd⟩:∃ kt et,P.underlying t=some (.map kt et)/\P.underlying kt=some (.int q):=by
     unfold isKeyed at hkey
     split at hkey<;>first | (cases hkey; done) | skip
     rename_i kt et hu
     split at hkey<;>first | (cases hkey; done) | skip
     rename_i q' hd;obtain rfl:=of_decide_eq_true hkey;exact ⟨kt,et,hu,hd⟩
    have hyv:a.tmps[y]?=some a.tmps[y]:=Array.getElem?_eq_getElem hylt;show wpOpIn (FR rd) 0 P ops Q i _ a w;unfold wpOpIn;rw [hx];simp only
    rw [if_pos (by unfold Region.wanted; rw [hgd])]
    have hem:a.eval (.tmp tM)=.map (some m):=by
     show a.tmps.getD tM undef=_;rw [Array.getD_eq_getD_getElem?,e1];rfl
    have hey:a.eval (.tmp y)=a.tmps[y]:=by
     show a.tmps.getD y undef=_;rw [Array.getD_eq_getD_getElem?,hyv];rfl
    refine wp_skip (w':={ w with heap:=w.heap.setIfInBounds m (.map (en.push { key:=.int q k,val:=a.tmps[y],born:=clock }) (clock+1)) }) (by rw [hxo]; rfl) ?_ ?_
    ·have hg:(getObj m).run P w=.ok (.map en clock) w:=by simp [getObj,Sem.run,e2]
     have hs:=setObj_run (P:=P) (.map (en.push { key:=.int q k,val:=a.tmps[y],born:=clock }) (clock+1)) e2;unfold execOp;rw [hxo]
     simp [hem,hey,(show a.eval (.const (.int q k))=.int q k from rfl),Instr.mapUpdate,run_underlying hu,hg,run_checkKey hd rfl,run_findKey hd hnk,hs]
    ·rw [hdst]
     have hni:¬ Img ρ (hp (seen ρ cur (S n).length)) m:=fun h=>e5 (himg m h)
     refine ih _ _ _ _ _ _ (h2.1.poke _ e3 e4 hni) (fun _=>?_) hless
     have hmlt:m<w.heap.size:=(Array.getElem?_eq_some_iff.1 e2).1
     refine ⟨m,en.push { key:=.int q k,val:=a.tmps[y],born:=clock },clock+1,e1,by simp [hmlt],e3,e4,hni,fun j d hj hlj=>?_,fun e he=>?_,fun j k' y' hj hlj=>?_⟩
     ·rw [lst_set hi'] at hlj;refine ec j d hj (hlj.resolve_left ?_)
      rintro rfl
      obtain ⟨oj,s,hoj,hops,_⟩:=hk.isCopy j d hj;obtain rfl:=Option.some.inj (hoj.symm.trans hx)
      rcases hops with h | h<;>(rw [h] at hxo; cases hxo)
     ·rw [Array.toList_push,List.mem_append] at he
      rcases he with he | he
      ·obtain ⟨j,k',y',h4,h5,h6⟩:=e6 e he
       exact ⟨j,k',y',h4,by rw [lst_set hi']; exact .inr h5,h6⟩
      ·obtain rfl:=by simpa using he
       exact ⟨i,k,y,hmem,by rw [lst_set hi']; exact .inl rfl,rfl⟩
     ·rw [Array.toList_push];rw [lst_set hi'] at hlj
      by_cases hji:j=i
      ·subst hji;obtain ⟨rfl,rfl⟩:=hk.uniq j k y k' y' hmem hj;exact ⟨_,_,hyv,findNow_new _ rfl hnk⟩
      ·obtain ⟨v,u,h7,h8⟩:=e7 j k' y' hj (hlj.resolve_left hji);exact ⟨v,u,h7,findNow_more _ h8⟩
   ·by_cases hcp:∃ s,(x.op=.move (.tmp s)\/x.op=.assign (.tmp s))/\s∈sp
    ·obtain ⟨s,hops,hs⟩:=hcp;obtain ⟨d,hcm,hdst,hgd,hor⟩:=hk.copy i x s hx hops hs
     have ho':(o i).op=.move (.tmp p):=by
      rw [hox];unfold mprOp
      rcases hops with h | h<;>(rw [h]; simp [hs])
     have hd':(o i).dst=some d:=by rw [hox,mprOp_dst,hdst]
     have hMl:Lst listed iM:=by
      rcases hor with ⟨_,hM⟩ | ⟨j',hj',hM⟩
      ·exact hrd iM (by rw [<- hpre i x hx hin]; exact hM)
      ·exact hcM j' s hj' (hrd j' (by rw [<- hpre i x hx hin]; exact hM))
     obtain ⟨m,en,clock,e1,e2,e3,e4,e5,ec,e6,e7⟩:=E hMl
     have hes:a.eval (.tmp s)=.map (some m):=by
      have:a.tmps[s]?=some (.map (some m)):=by
       rcases hor with ⟨rfl,_⟩ | ⟨j',hj',hM⟩
       ·exact e1
       ·exact ec j' s hj' (hrd j' (by rw [<- hpre i x hx hin]; exact hM))
      show a.tmps.getD s undef=_;rw [Array.getD_eq_getD_getElem?,this];rfl
     obtain ⟨_,hcase⟩:=step_cases (R.step i hin)
     have hw':∀ y,Region.wanted (o i) y=true:=by
      intro y;unfold Region.wanted;rw [hox,mprOp_guard,hgd]
     obtain ⟨v,hv,hT⟩:∃ v,opA P st call (evalT (T i)) (o i) (S i)=some (v,S (i+1))/\T (i+1)=putT (T i) (o i).dst v:=by
      rcases hcase with ⟨_,v,hv,hT⟩ | ⟨hw,_⟩
      ·exact ⟨v,hv,hT⟩
      ·rw [hw'] at hw; cases hw
     rw [hva ho'] at hv;simp only [Option.some.injEq,Prod.mk.injEq] at hv;obtain ⟨rfl,hS⟩:=hv;show wpOpIn (FR rd) 0 P ops Q i _ a w;unfold wpOpIn;rw [hx];simp only
     rw [if_pos (by unfold Region.wanted; rw [hgd])]
     refine wp_value (v':=.map (some m)) (w':=w) (by rcases hops with h | h<;>(rw [h]; rfl)) ?_ ?_
     ·unfold execOp
      rcases hops with h | h<;>(rw [h]; simp [hes])
     ·have h2:=I.next_same R hcall hin hun hrd (v':=.map (some m)) (.refl hRs) (.any _ rfl) hT hS.symm (by rw [ho']; simp [cls])
      rw [hd'] at h2;rw [hdst]
      have hdn:∀ t,t≠d->(a.put (some d) (.map (some m))).tmps[t]?=a.tmps[t]?:=fun t ht=>put_ne (fun h=>ht (Option.some.inj h).symm)
      have hdM:tM≠d:=by
       rintro rfl
       have:=hk.only i x hx hdst;exact hun (this ▸ hMl)
      refine ih _ _ _ _ _ _ h2.1 (fun _=>?_) hless
      refine ⟨m,en,clock,by rw [hdn tM hdM]; exact e1,e2,e3,e4,fun h=>e5 (himg m h),fun j d' hj hlj=>?_,fun e he=>?_,fun j k y hj hlj=>?_⟩
      ·rw [lst_set hi'] at hlj
       by_cases hdd:d'=d
       ·subst hdd
        have:d'<a.tmps.size:=by rw [htsz]; exact hc0 j d' hj
        simp [Act.put,this]
       ·rw [hdn d' hdd];refine ec j d' hj (hlj.resolve_left ?_)
        rintro rfl
        obtain ⟨oj,s',hoj,hops',hs'⟩:=hk.isCopy j d' hj;obtain rfl:=Option.some.inj (hoj.symm.trans hx);obtain ⟨d2,hcm2,hdst2,_⟩:=hk.copy j oj s' hoj hops' hs'
        exact hdd (hk.dstCopy j d' hj oj hoj ▸ hdst |> fun h=>by simpa using h)
      ·obtain ⟨j,k,y,h4,h5,h6⟩:=e6 e he
       exact ⟨j,k,y,h4,by rw [lst_set hi']; exact .inr h5,h6⟩
      ·rw [lst_set hi'] at hlj
       have hji:j≠i:=by
        rintro rfl
        obtain ⟨oj,_,_,_,_,hoj,hopj,_⟩:=hk.isIns j k y hj;obtain rfl:=Option.some.inj (hoj.symm.trans hx)
        rcases hops with h | h<;>(rw [hopj] at h; cases h)
       have hlj:=hlj.resolve_left hji;obtain ⟨v,u,h7,h8⟩:=e7 j k y hj hlj;refine ⟨v,u,?_,h8⟩
       rw [hdn y (fun hyd=>?_)]
       ·exact h7
       ·obtain ⟨oj,_,_,_,_,hoj,_,_,hdef⟩:=hk.isIns j k y hj
        have hjn:j<n:=by rw [<- hsz]; exact (Array.getElem?_eq_some_iff.1 hoj).1
        exact hun (I.dc j hjn hlj i (by rw [<- hpre j oj hoj hjn]; exact hdef i x hx (by rw [hyd]; exact hdst)))
    ·have hox2:o i=x:=by
      rw [hox];unfold mprOp;split
      ·rename_i t r h; exact absurd ⟨t,r,h⟩ hmk
      ·rename_i t m k y h; exact absurd ⟨t,m,k,y,h⟩ hin2
      ·rename_i s h; rw [if_neg (fun hs=>hcp ⟨s,.inl h,hs⟩)]
      ·rename_i s h; rw [if_neg (fun hs=>hcp ⟨s,.inr h,hs⟩)]
      ·rfl
     have hM:i≠iM:=by
      rintro rfl
      obtain ⟨oM,t,hoM,hopM⟩:=hk.here;obtain rfl:=Option.some.inj (hoM.symm.trans hx);exact hmk ⟨t,none,hopM⟩
     have hI:∀ k y,(i,k,y) ∉ ins:=by
      intro k y hm;obtain ⟨oj,t,mm,kk,xx,hoj,hopj,_⟩:=hk.isIns i k y hm;obtain rfl:=Option.some.inj (hoj.symm.trans hx);exact hin2 ⟨t,mm,kk,xx,hopj⟩
     have hC:∀ d,(i,d) ∉ cps:=by
      intro d hm;obtain ⟨oj,s,hoj,hops,hs⟩:=hk.isCopy i d hm;obtain rfl:=Option.some.inj (hoj.symm.trans hx);exact hcp ⟨s,hops,hs⟩
     have hs:=I.step (rd:=rd) (Q:=Q) (K:=wpAnyIn (FR rd) 0 P .any ops Q fuel (listed.setIfInBounds i true)) R hcall hst hin hun hrd fun v1 w1 ρ1 cur1 r1 I' hf1=>ih _ _ _ _ _ _ I' (E.keep hk I hop hsz hin hun hM hI hC hf1) hless
     unfold wpOpIn at hs ⊢;rw [R.op i hin] at hs;rw [hx];rw [mpr_yielded,hox2] at hs;exact hs
theorem drawM_sound {Q:Exit->Act->World->Prop}{id:Nat}{τ τ':Array Value}{σ σ':Heap}(hk:MprOk P q ops ops.size p iM tM sp ins cps) (hcall:RunOk P w0 call) (hst:GoodSt w0 st) (hm:P.follows .mixedOrders=true)
  (h:drawA P st call (ops.map (mprOp p sp)) τ σ=some (τ',σ')) (hR:Rel w0 ρ (hp σ) w) (hfr:Fresh ρ σ.length σ'.length) (ht:VRA ρ τ a.tmps) (hp0:τ[p]?=some (.chan none)) (htM:tM<τ.size) (hx0:∀ j k x,(j,k,x)∈ins->x<τ.size) (hc0:∀ j d,(j,d)∈cps->d<τ.size)
  (hQ:∀ a1 w1 ρ1,Nxt w0 ρ σ w ρ1 σ' w1->VRA ρ1 τ' a1.tmps->a1.defers=a.defers ->
   (∃ m en clock,a1.tmps[tM]?=some (.map (some m))/\w1.heap[m]?=some (.map en clock)/\w0.heap.size<=m/\w.heap.size<=m/\¬ Img ρ1 (hp σ') m/\(∀ j d,(j,d)∈cps->a1.tmps[d]?=some (.map (some m))) /\
    ∀ j k x,(j,k,x)∈ins->∃ v u,a1.tmps[x]?=some v/\Instr.findNow (.int q) (.int q k) en.toList 0=some (some (u,v)))->Q .normal a1 w1) :
  (Code.region id ops true).wpIn (FR rd) 0 P Q a w:=by
 unfold drawA at h;split at h
 ·rename_i hs;split at h
  ·rename_i tr htr;split at h
   ·rename_i hd;obtain ⟨o,T,S,R,h0,h1,hl⟩:=reg_of_draw hs htr hd;rw [h] at hl;simp only [Option.some.injEq,Prod.mk.injEq] at hl;obtain ⟨rfl,rfl⟩:=hl;subst h0;subst h1
    have hsz:(ops.map (mprOp p sp)).size=ops.size:=by simp
    rw [hsz] at R
    have hnl:∀ i,¬ Lst (Array.replicate ops.size false) i:=by
     intro i;unfold Lst
     by_cases h:i<ops.size<;>simp [h]
    have I:Inv P w0 (ops.map (mprOp p sp)) ops.size o T S ρ w a (Array.replicate ops.size false) a { w with drawn:=w.drawn+1 } ρ (hp (S 0)) 0:=by
     refine ⟨by simp,fun i _ hl=>absurd hl (hnl i),Nat.zero_le _,fun i _ _=>⟨fun h=>absurd h (hnl i),fun h=>by omega⟩,hR.drew _,fun _ _ _=>rfl,fun i _ hl=>absurd hl (hnl i),?_,?_,.refl _ _ _,
      ⟨Nat.le_refl _,fun _ _ _=>rfl,fun _ h _=>h⟩,ht.1.symm,?_,rfl⟩
     ·intro id hid;have:=R.mono hcall (Nat.zero_le _) (Nat.le_refl _)
      simp [hp,List.getElem?_eq_none (show (S 0).length<=id by omega)]
     ·intro id hid
      rcases Nat.lt_or_ge id (S 0).length with h | h
      ·exact .inl h
      ·rcases Nat.lt_or_ge id (S ops.size).length with h' | h'
       ·exact absurd (hfr id h (by rw [hsz]; exact h')) hid
       ·exact .inr (.inl h')
     ·intro t m hm hw v hv
      have hk:(T m)[t]?=(T 0)[t]?:=R.tkeep (Nat.zero_le m) hm fun k _ hkm hkd=>absurd ((hw k (by omega) hkd).2 hkm) (hnl k)
      rw [hk] at hv;exact ht.get hv
    refine wpIn_region_any hm (Mpr.all hk R hcall hst hp0 htM hx0 hc0 (fun a1 w1 ρ1 hn hv hdf hmf=>hQ a1 w1 ρ1 (by rw [hsz]; exact hn) (by rw [hsz]; exact hv) hdf (by rw [hsz]; exact hmf)) _ _ _ _ _ _ _ I (fun h=>absurd h (hnl _)) ?_)
    unfold left
    have:=List.length_filter_le (fun i=>!(Array.replicate ops.size false).getD i false) (List.range ops.size)
    simpa using this
   ·cases h
  ·cases h
 ·cases h
end
end Go.AE
namespace Go.AE
open Go Go.RowKit
def chainC:List (Nat×Array Oper)->Code->Code
 | [],l=>l
 | (i,o) :: r,l=>.seq (.region i o false) (chainC r l)
def chainA (P:Program) (st:Stat) (call:CallA):List (Nat×Array Oper)->Array Value->Heap->Option (Array Value×Heap)
 | [],τ,σ=>some (τ,σ)
 | (_,o) :: r,τ,σ=>match runA P st call o o.toList τ σ with
  | some (τ',σ')=>chainA P st call r τ' σ'
  | none=>none
section
variable {P:Program}{w0:World}{st:Stat}{call:CallA}
theorem chainA_len (hcall:RunOk P w0 call):∀ (pre:List (Nat×Array Oper)) (τ:Array Value) (σ:Heap) (τ1:Array Value) (σ1:Heap),chainA P st call pre τ σ=some (τ1,σ1)->σ.length<=σ1.length
 | [],τ,σ,τ1,σ1,h=>by
  simp only [chainA,Option.some.injEq,Prod.mk.injEq] at h
  rw [h.2]; exact Nat.le_refl _
 | (i,o) :: r,τ,σ,τ1,σ1,h=>by
  simp only [chainA] at h;split at h
  ·rename_i τ' σ' h';exact Nat.le_trans (runA_len hcall _ _ _ _ _ h') (chainA_len hcall r _ _ _ _ h)
  ·cases h
theorem chain_wp {Q:Exit->Act->World->Prop}{last:Code}(hcall:RunOk P w0 call) (hst:GoodSt w0 st):∀ (pre:List (Nat×Array Oper)) (τ:Array Value) (σ:Heap) (τ1:Array Value) (σ1:Heap),chainA P st call pre τ σ=some (τ1,σ1) ->
  ∀ {ρ:Ren}{w:World}{a:Act},Rel w0 ρ (hp σ) w->Fresh ρ σ.length σ1.length->VRA ρ τ a.tmps ->
  (∀ a1 w1 ρ1,Nxt w0 ρ σ w ρ1 σ1 w1->VRA ρ1 τ1 a1.tmps->a1.defers=a.defers->last.wpIn (FR none) 0 P Q a1 w1)->(chainC pre last).wpIn (FR none) 0 P Q a w
 | [],τ,σ,τ1,σ1,h,ρ,w,a,hR,hfr,ht,hQ=>by
  simp only [chainA,Option.some.injEq,Prod.mk.injEq] at h;obtain ⟨rfl,rfl⟩:=h;exact hQ a w ρ (.refl hR) ht rfl
 | (i,o) :: r,τ,σ,τ1,σ1,h,ρ,w,a,hR,hfr,ht,hQ=>by
  simp only [chainA] at h;split at h
  ·rename_i τ' σ' h';have hl:=chainA_len hcall r _ _ _ _ h;have hl1:=runA_len hcall _ _ _ _ _ h'
   refine wpIn_seq (wpIn_region_list (runA_sound hcall hst _ _ _ _ _ h' hR (hfr.left hl) ht fun a1 w1 ρ1 hn hv hd=>?_))
   exact chain_wp hcall hst r _ _ _ _ h hn.rel (hfr.right hn.ext hl1) hv fun a2 w2 ρ2 hn2 hv2 hd2=>hQ a2 w2 ρ2 (hn.trans hn2) hv2 (hd2.trans hd)
  ·cases h
theorem Nxt.adopt {ρ ρ1:Ren}{σ σ1:Heap}{w w1:World}{m N:Nat}{B:Blk}{o:Obj}(hn:Nxt w0 ρ σ w ρ1 σ1 w1) (hf:ρ1 σ1.length=none) (h0:w0.heap.size<=m) (hw:w.heap.size<=m) (hi:¬ Img ρ1 (hp σ1) m)
  (ho:w1.heap[m]?=some o) (hB:contentOk (ρ1.put σ1.length (m,0,N)) 0 N B o):Nxt w0 ρ σ w (ρ1.put σ1.length (m,0,N)) (σ1++[some B]) w1:=by
 have hle:=Ren.le_put (x:=(m,0,N)) hf;have hm:m<w1.heap.size:=(Array.getElem?_eq_some_iff.1 ho).1
 have hnew:∀ id b x y,(ρ1.put σ1.length (m,0,N)) id=some (b,x,y)->id≠σ1.length->ρ1 id=some (b,x,y):=by
  intro id b x y e hne
  simpa [Ren.put,hne] using e
 have hold:∀ id blk,hp (σ1++[some B]) id=some blk->id≠σ1.length->hp σ1 id=some blk:=by
  intro id blk e hne
  rwa [hp_old σ1 (some B) hne] at e
 refine ⟨by have:=hn.len; simp; omega,fun id hid=>?_,⟨hn.fr.size,hn.fr.fr,fun b ⟨id,x,y,blk,e1,e2⟩ hb=>?_⟩,⟨hn.rel.below,fun id b x y e=>?_,fun id b x y blk e1 e2=>?_,fun i j b x y x' y' bi bj e1 e2 e3 e4=>?_⟩⟩
 ·have:id≠σ1.length:=by
   have:=hn.len;simp at hid;omega
  rw [show (ρ1.put σ1.length (m,0,N)) id=ρ1 id by simp [Ren.put,this]]
  refine hn.ext id ?_;simp at hid;omega
 ·by_cases e:id=σ1.length
  ·subst e;simp only [Ren.put,if_true,Option.some.injEq,Prod.mk.injEq] at e1;omega
  ·exact hn.fr.img b ⟨id,x,y,blk,hnew _ _ _ _ e1 e,hold _ _ e2 e⟩ hb
 ·by_cases h:id=σ1.length
  ·subst h;simp only [Ren.put,if_true,Option.some.injEq,Prod.mk.injEq] at e;omega
  ·exact hn.rel.dyn id b x y (hnew _ _ _ _ e h)
 ·by_cases h:id=σ1.length
  ·subst h;simp only [Ren.put,if_true,Option.some.injEq,Prod.mk.injEq] at e1;obtain ⟨rfl,rfl,rfl⟩:=e1;rw [hp_new] at e2;obtain rfl:=Option.some.inj e2;exact ⟨o,ho,hB⟩
  ·obtain ⟨ob,h1,h2⟩:=hn.rel.cont id b x y blk (hnew _ _ _ _ e1 h) (hold _ _ e2 h);exact ⟨ob,h1,h2.mono hle⟩
 ·by_cases h:i=σ1.length
  ·by_cases h':j=σ1.length
   ·rw [h,h']
   ·exfalso
    subst h;simp only [Ren.put,if_true,Option.some.injEq,Prod.mk.injEq] at e1;obtain ⟨rfl,rfl,rfl⟩:=e1;exact hi ⟨j,x',y',bj,hnew _ _ _ _ e2 h',hold _ _ e4 h'⟩
  ·by_cases h':j=σ1.length
   ·exfalso
    subst h';simp only [Ren.put,if_true,Option.some.injEq,Prod.mk.injEq] at e2;obtain ⟨rfl,rfl,rfl⟩:=e2;exact hi ⟨i,x,y,bi,hnew _ _ _ _ e1 h,hold _ _ e3 h⟩
   ·exact hn.rel.inj i j b x y x' y' bi bj (hnew _ _ _ _ e1 h) (hnew _ _ _ _ e2 h') (hold _ _ e3 h) (hold _ _ e4 h')
theorem fnAt_mpr {f:FuncId}{fn:Func}{pre:List (Nat×Array Oper)}{id:Nat}{ops:Array Oper}{q:IntKind}{p iM t:Nat}{tM:Tmp}{sp:List Tmp}{ins:List (Nat×Int×Tmp)}{cps:List (Nat×Tmp)}
  (hf:P.funcs[f]?=some fn) (hb:fn.body=some (chainC pre (.seq (.region id ops true) .ret))) (hcall:RunOk P w0 call) (hst:GoodSt w0 st) (hm:P.follows .mixedOrders=true) (hk:MprOk P q ops ops.size p iM tM sp ins cps)
  {args0:List Value}{σ0 σ1 σ2:Heap}{τ1 τ2:Array Value}{x0:Addr}(h1:chainA P st call pre (args0.toArray++Array.replicate (fn.ntmps-args0.length) undef) σ0=some (τ1,σ1)) (hpp:τ1[p]?=some (.pointer (some x0)))
  (h2:drawA P st call (ops.map (mprOp p sp)) (τ1.setIfInBounds p (.chan none)) σ1=some (τ2,σ2)) (htM:tM<τ1.size) (hx0:∀ j k x,(j,k,x)∈ins->x<τ1.size) (hc0:∀ j d,(j,d)∈cps->d<τ1.size)
  (hres:fn.results=#[.tmp t]) {j:Nat}(hj:(j,t)∈cps) (es:List (Value×Value)) (hes:∀ k v,(k,v)∈es->∃ i k' x,(i,k',x)∈ins/\k=.int q k'/\τ2[x]?=some v) :
  FnAt P w0 f args0 σ0 (.map (some σ2.length)) (σ2++[some (.pmap q es)]):=by
 have hl1:=chainA_len hcall _ _ _ _ _ h1;have hl2:=drawA_len hcall h2
 refine ⟨by simp; omega,fun ρ w args' hR hfr hargs=>(callsIn_wide (n:=0)).1 (callsIn_of_wp_marks hf hb trivial ?_)⟩
 have ht:VRA ρ (args0.toArray++Array.replicate (fn.ntmps-args0.length) undef) (args'.toArray++Array.replicate (fn.ntmps-args'.toArray.size) undef):=by
  refine .of_list ?_;simp only [Array.toList_append,List.size_toArray,<- hargs.1]
  refine hargs.append ⟨rfl,fun i u u' hu hu'=>?_⟩
  obtain rfl:=Option.some.inj (hu.symm.trans hu');simp only [Array.toList_replicate,List.getElem?_replicate] at hu;split at hu
  ·obtain rfl:=Option.some.inj hu;exact flat_VR ρ rfl
  ·cases hu
 have hfr':Fresh ρ σ0.length (σ2.length+1):=fun i a b=>hfr i a (by simpa using b)
 refine chain_wp hcall hst _ _ _ _ _ h1 hR (fun i a b=>hfr' i a (by omega)) ht fun a1 w1 ρ1 hn hv hd=>?_
 have hv':VRA ρ1 (τ1.setIfInBounds p (.chan none)) a1.tmps:=by
  refine ⟨by simp [hv.1],fun i v v' hi hi'=>?_⟩
  by_cases e:p=i
  ·subst e;have hlt:p<τ1.size:=(Array.getElem?_eq_some_iff.1 hpp).1;simp [hlt] at hi;subst hi;obtain ⟨u,hu,hr⟩:=hv.get hpp;obtain rfl:=Option.some.inj (hu.symm.trans hi');cases hr;exact .any _ rfl
  ·rw [Array.getElem?_setIfInBounds_ne e] at hi;exact hv.2 i v v' hi hi'
 refine wpIn_seq (drawM_sound hk hcall hst hm h2 hn.rel (fun i a b=>?_) hv' ?_ (by simpa using htM) (fun j k x hx=>by simpa using hx0 j k x hx) (fun j d hx=>by simpa using hc0 j d hx) fun a2 w2 ρ2 hn2 hv2 hd2 hmf=>?_)
 ·rw [hn.ext i (.inr a)]
  exact hfr' i (by omega) (by omega)
 ·have hlt:p<τ1.size:=(Array.getElem?_eq_some_iff.1 hpp).1;simp [hlt]
 ·obtain ⟨m,en,clock,e1,e2,e3,e4,e5,e6,e7⟩:=hmf;have hn3:=hn.trans hn2
  have hfresh:ρ2 σ2.length=none:=by
   rw [hn3.ext σ2.length (.inr (Nat.le_refl _))]
   exact hfr' _ (by omega) (by omega)
  have hB:contentOk (ρ2.put σ2.length (m,0,0)) 0 0 (.pmap q es) (.map en clock):=by
   refine ⟨en,clock,rfl,fun k v hkv=>?_⟩
   obtain ⟨i,k',x,hi,rfl,hτ⟩:=hes k v hkv;obtain ⟨u,jj,hu,hfn⟩:=e7 i k' x hi;obtain ⟨u',hu',hr⟩:=hv2.get hτ;obtain rfl:=Option.some.inj (hu.symm.trans hu');exact ⟨jj,u,hfn,hr.mono (Ren.le_put hfresh)⟩
  have hn4:=hn3.adopt hfresh e3 (Nat.le_trans hn.fr.size e4) e5 e2 hB
  have hvt:VRA (ρ2.put σ2.length (m,0,0)) (τ2.setIfInBounds t (.map (some σ2.length))) a2.tmps:=by
   refine ⟨by simp [hv2.1],fun i v v' hi hi'=>?_⟩
   by_cases e:t=i
   ·subst e
    have hlt:t<τ2.size:=by
     have:=(Array.getElem?_eq_some_iff.1 (e6 j t hj)).1;rw [hv2.1];exact this
    simp [hlt] at hi;subst hi;obtain rfl:=Option.some.inj ((e6 j t hj).symm.trans hi')
    exact .map _ _ 0 0 (by simp [Ren.put])
   ·rw [Array.getElem?_setIfInBounds_ne e] at hi;exact (hv2.2 i v v' hi hi').mono (Ren.le_put hfresh)
  have hlt:t<τ2.size:=by
   have:=(Array.getElem?_eq_some_iff.1 (e6 j t hj)).1;rw [hv2.1];exact this
  have hr:resultsA P st fn (τ2.setIfInBounds t (.map (some σ2.length))) (σ2++[some (.pmap q es)])=some (.map (some σ2.length)):=by
   unfold resultsA;rw [hres];simp [resultA,hlt]
  refine wpIn_ret ?_;have hdd:a2.defers=[]:=hd2.trans hd
  have:=leaves_marks (R:=fun e w'=>∃ v',e=.returned v'/\OpOut w0 ρ σ0 w (.map (some σ2.length)) (σ2++[some (.pmap q es)]) v' w') hst hr [] w2 hn4.rel hvt List.nodup_nil (fun b hb=>by cases hb)
   fun v' w' hR' hs hk' hvr=>⟨v',rfl,_,⟨hn4.len,hn4.ext,⟨by rw [hs]; exact hn4.fr.size,fun b hb hi=>(hk' b (by simp)).trans (hn4.fr.fr b hb hi),hn4.fr.img⟩,hR'⟩,hvr⟩
  show LeavesInM Fence.wide 0 P fn a2.tmps _ a2.defers .returning w2;rw [hdd];exact this
end
end Go.AE
