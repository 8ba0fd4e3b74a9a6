/-
 A function that ends with a region that builds a map,as an answer at every heap: the checks,and the theorem.
 Conditions: see the theorems.
-/
import Derived.Test.YtigmkgampfbflaaGreatDoorAeMpr
import Derived.ProofKit
import Derived.OpenShut
import Derived.Carry
import Derived.WideKeyArgs
import Derived.ChangeSame
import Derived.RowKit
namespace Go.AE
open Go Go.RowKit
def insAt (q:IntKind) (x:Oper×Nat):Option (Nat×Int×Tmp) :=
 match x.1.op with
 | .insert _ _ (.const (.int q' k)) (.tmp y)=>if q=q' then some (x.2,k,y) else none
 | _=>none
def insOf (q:IntKind) (ops:Array Oper):List (Nat×Int×Tmp):=ops.toList.zipIdx.filterMap (insAt q)
def srcOf (o:Oper):Option Tmp :=
 match o.op with
 | .move (.tmp s)=>some s
 | .assign (.tmp s)=>some s
 | _=>none
def cpAt (sp:List Tmp) (x:Oper×Nat):Option (Nat×Tmp) :=
 match srcOf x.1,x.1.dst with
 | some s,some d=>if s∈sp then some (x.2,d) else none
 | _,_=>none
def cpsOf (sp:List Tmp) (ops:Array Oper):List (Nat×Tmp):=ops.toList.zipIdx.filterMap (cpAt sp)
def opOk (P:Program) (q:IntKind) (ops:Array Oper) (iM:Nat) (tM:Tmp) (sp:List Tmp) (o:Oper) (i:Nat):Bool :=
 (match o.op with
 | .makeMap _ r=>decide (i=iM)&&r.isNone&&decide (o.dst=some tM)&&o.guard.isNone
 | .insert t (.tmp m) (.const (.int q' _)) (.tmp x)=>decide (m=tM)&&decide (q=q')&&o.dst.isNone&&o.guard.isNone&&isKeyed P q t&&decide (iM∈predsA o) &&
   ops.toList.zipIdx.all fun y=>!decide (y.1.dst=some x)||decide (y.2∈predsA o)
 | .insert _ _ _ _=>false
 | _=>true) &&
 (match srcOf o with
 | some s=>if s∈sp then (match o.dst with
   | some d=>o.guard.isNone&&(ops.toList.zipIdx.all fun y=>!decide (y.1.dst=some d)||decide (y.2=i)) &&
     ((decide (s=tM)&&decide (iM∈predsA o))||(cpsOf sp ops).any fun z=>decide (z.2=s)&&decide (z.1∈predsA o))
   | none=>false) else true
 | none=>true)
def mprB (P:Program) (q:IntKind) (ops:Array Oper) (p iM:Nat) (tM:Tmp) (sp:List Tmp):Bool :=
 (ops.toList.zipIdx.all fun x=>opOk P q ops iM tM sp x.1 x.2&&(!decide (x.1.dst=some tM)||decide (x.2=iM))&&!decide (x.1.dst=some p)) &&
 ((insOf q ops).all fun a=>(insOf q ops).all fun b=>!decide (a.2.1=b.2.1)||decide (a.1=b.1)) &&
 (match ops[iM]? with
 | some o=>match o.op with
  | .makeMap _ none=>true
  | _=>false
 | none=>false)
theorem mem_zip {ops:Array Oper}{i:Nat}{o:Oper}:(o,i)∈ops.toList.zipIdx ↔ ops[i]?=some o:=by
 rw [List.mem_zipIdx_iff_getElem?];simp
theorem mem_ins {q:IntKind}{ops:Array Oper}{i:Nat}{k:Int}{x:Tmp}:(i,k,x)∈insOf q ops ↔ ∃ (o:Oper) (t:TypeId) (m:Operand),ops[i]?=some o/\o.op=.insert t m (.const (.int q k)) (.tmp x):=by
 unfold insOf;rw [List.mem_filterMap]
 constructor
 ·rintro ⟨⟨o,j⟩,h1,h2⟩
  unfold insAt at h2
  split at h2<;>first | (cases h2; done) | skip
  rename_i t m q' k' y ho
  split at h2<;>first | (cases h2; done) | skip
  rename_i hq;subst hq;simp only [Option.some.injEq,Prod.mk.injEq] at h2;obtain ⟨rfl,rfl,rfl⟩:=h2;exact ⟨o,t,m,mem_zip.1 h1,ho⟩
 ·rintro ⟨o,t,m,h1,h2⟩
  exact ⟨(o,i),mem_zip.2 h1,by simp [insAt,h2]⟩
theorem srcOf_iff {o:Oper}{s:Tmp}:srcOf o=some s ↔ (o.op=.move (.tmp s)\/o.op=.assign (.tmp s)):=by
 unfold srcOf;split
 ·rename_i s' h;rw [h];simp
 ·rename_i s' h;rw [h];simp
 ·rename_i h1 h2
  constructor
  ·intro h; cases h
  ·rintro (h | h)
   ·exact (h1 _ h).elim
   ·exact (h2 _ h).elim
theorem mem_cps {sp:List Tmp}{ops:Array Oper}{i:Nat}{d:Tmp}:(i,d)∈cpsOf sp ops ↔ ∃ (o:Oper) (s:Tmp),ops[i]?=some o/\srcOf o=some s/\o.dst=some d/\s∈sp:=by
 unfold cpsOf;rw [List.mem_filterMap]
 constructor
 ·rintro ⟨⟨o,j⟩,h1,h2⟩
  unfold cpAt at h2
  split at h2<;>first | (cases h2; done) | skip
  rename_i s d' ho hd
  split at h2<;>first | (cases h2; done) | skip
  rename_i hs;simp only [Option.some.injEq,Prod.mk.injEq] at h2;obtain ⟨rfl,rfl⟩:=h2;exact ⟨o,s,mem_zip.1 h1,ho,hd,hs⟩
 ·rintro ⟨o,s,h1,h2,h3,h4⟩
  exact ⟨(o,i),mem_zip.2 h1,by simp [cpAt,h2,h3,h4]⟩
theorem mprB_ok {P:Program}{q:IntKind}{ops:Array Oper}{p iM:Nat}{tM:Tmp}{sp:List Tmp}(h:mprB P q ops p iM tM sp=true):MprOk P q ops ops.size p iM tM sp (insOf q ops) (cpsOf sp ops):=by
 unfold mprB at h;simp only [Bool.and_eq_true] at h;obtain ⟨⟨ha,hk⟩,hM⟩:=h
 have hat:∀ (i:Nat) (o:Oper),ops[i]?=some o->opOk P q ops iM tM sp o i=true/\(o.dst=some tM->i=iM)/\o.dst≠some p:=by
  intro i o ho;have:=List.all_eq_true.1 ha (o,i) (mem_zip.2 ho);simp only [Bool.and_eq_true,Bool.or_eq_true,Bool.not_eq_true',decide_eq_false_iff_not,decide_eq_true_eq] at this
  exact ⟨this.1.1,fun e=>this.1.2.resolve_left (fun h=>h e),this.2⟩
 have hins:∀ (i:Nat) (o:Oper) t m k x,ops[i]?=some o->o.op=.insert t m k x->∃ k' x',m=.tmp tM/\k=.const (.int q k')/\x=.tmp x'/\o.dst=none/\o.guard=none/\isKeyed P q t=true/\iM∈predsA o /\
   ∀ (j:Nat) (y:Oper),ops[j]?=some y->y.dst=some x'->j∈predsA o:=by
  intro i o t m k x ho hop;have h1:=(hat i o ho).1;unfold opOk at h1;rw [Bool.and_eq_true] at h1;have h1:=h1.1;rw [hop] at h1;split at h1
  ·rename_i h2; cases h2
  ·rename_i t' m' q' k' x' h2;cases h2;simp only [Bool.and_eq_true,decide_eq_true_eq,Option.isNone_iff_eq_none] at h1;obtain ⟨⟨⟨⟨⟨⟨rfl,rfl⟩,h3⟩,h4⟩,h5⟩,h6⟩,h7⟩:=h1
   refine ⟨k',x',rfl,rfl,rfl,h3,h4,h5,h6,fun j y hy hd=>?_⟩
   have:=List.all_eq_true.1 h7 (y,j) (mem_zip.2 hy);simp only [Bool.or_eq_true,Bool.not_eq_true',decide_eq_false_iff_not,decide_eq_true_eq] at this
   exact this.resolve_left (fun h=>h hd)
  ·cases h1
  ·rename_i h2 h3; exact (h3 _ _ _ _ rfl).elim
 have hcp:∀ (i:Nat) (o:Oper) s,ops[i]?=some o->srcOf o=some s->s∈sp->∃ d,o.dst=some d/\o.guard=none/\(∀ (j:Nat) (y:Oper),ops[j]?=some y->y.dst=some d->j=i) /\
   ((s=tM/\iM∈predsA o)\/∃ j,(j,s)∈cpsOf sp ops/\j∈predsA o):=by
  intro i o s ho hs hsp;have h1:=(hat i o ho).1;unfold opOk at h1;rw [Bool.and_eq_true] at h1;have h1:=h1.2;rw [hs] at h1;simp only [if_pos hsp] at h1;split at h1
  ·rename_i d hd;simp only [Bool.and_eq_true,Option.isNone_iff_eq_none,Bool.or_eq_true,decide_eq_true_eq,List.any_eq_true] at h1;obtain ⟨⟨h2,h3⟩,h4⟩:=h1
   refine ⟨d,hd,h2,fun j y hy hyd=>?_,?_⟩
   ·have:=List.all_eq_true.1 h3 (y,j) (mem_zip.2 hy);simp only [Bool.or_eq_true,Bool.not_eq_true',decide_eq_false_iff_not,decide_eq_true_eq] at this
    exact this.resolve_left (fun h=>h hyd)
   ·rcases h4 with h4 | ⟨⟨j,s'⟩,h5,h6,h7⟩
    ·exact .inl h4
    ·obtain rfl:s'=s:=h6;exact .inr ⟨j,h5,h7⟩
  ·cases h1
 have hmakeAt:∀ (i:Nat) (o:Oper) t r,ops[i]?=some o->o.op=.makeMap t r->i=iM/\r=none/\o.dst=some tM/\o.guard=none:=by
  intro i o t r ho hop;have h1:=(hat i o ho).1;unfold opOk at h1;rw [Bool.and_eq_true] at h1;have h1:=h1.1;rw [hop] at h1;simp only [Bool.and_eq_true,decide_eq_true_eq,Option.isNone_iff_eq_none] at h1;exact ⟨h1.1.1.1,h1.1.1.2,h1.1.2,h1.2⟩
 refine ⟨hmakeAt,?_,fun i o ho hd=>(hat i o ho).2.1 hd,fun i o ho=>(hat i o ho).2.2,?_,?_,?_,?_,?_,?_,?_,?_⟩
 ·intro i o t m k x ho hop;obtain ⟨k',x',rfl,rfl,rfl,h3,h4,h5,h6,h7⟩:=hins i o t m k x ho hop;exact ⟨k',x',rfl,rfl,rfl,h3,h4,mem_ins.2 ⟨o,t,.tmp tM,ho,hop⟩,h5,h6⟩
 ·intro i k x hi;obtain ⟨o,t,m,ho,hop⟩:=mem_ins.1 hi;obtain ⟨k',x',rfl,hkk,hxx,h3,h4,h5,h6,h7⟩:=hins i o _ _ _ _ ho hop;cases hxx;exact ⟨o,t,_,_,_,ho,hop,h6,h7⟩
 ·intro i k x j y h1 h2;have:=List.all_eq_true.1 (List.all_eq_true.1 hk _ h1) _ h2;simp only [Bool.or_eq_true,Bool.not_eq_true',decide_eq_false_iff_not,decide_eq_true_eq] at this
  exact this.resolve_left (fun h=>h trivial)
 ·intro i k x k' x' h1 h2;obtain ⟨o,t,m,ho,hop⟩:=mem_ins.1 h1;obtain ⟨o',t',m',ho',hop'⟩:=mem_ins.1 h2;obtain rfl:=Option.some.inj (ho.symm.trans ho');rw [hop] at hop';cases hop';exact ⟨rfl,rfl⟩
 ·intro i o s ho hs hsp;have hs:=srcOf_iff.2 hs;obtain ⟨d,h1,h2,_,h4⟩:=hcp i o s ho hs hsp;exact ⟨d,mem_cps.2 ⟨o,s,ho,hs,h1,hsp⟩,h1,h2,h4⟩
 ·intro i d hi y hy;obtain ⟨o,s,ho,hs,hd,hsp⟩:=mem_cps.1 hi;obtain rfl:=Option.some.inj (ho.symm.trans hy);exact hd
 ·intro i d hi;obtain ⟨o,s,ho,hs,hd,hsp⟩:=mem_cps.1 hi;exact ⟨o,s,ho,srcOf_iff.1 hs,hsp⟩
 ·intro i d hi j y hy hyd;obtain ⟨o,s,ho,hs,hd,hsp⟩:=mem_cps.1 hi;obtain ⟨d',h1,_,h3,_⟩:=hcp i o s ho hs hsp;obtain rfl:=Option.some.inj (hd.symm.trans h1);exact h3 j y hy hyd
 ·split at hM
  ·rename_i o ho;split at hM
   ·rename_i t hop; exact ⟨o,t,ho,hop⟩
   ·cases hM
  ·cases hM
structure Mpr where
 f:FuncId
 fn:Func
 pre:List (Nat×Array Oper)
 id:Nat
 ops:Array Oper
 q:IntKind
 p:Nat
 iM:Nat
 tM:Tmp
 sp:List Tmp
 t:Tmp
 L1:List (Option Blk)
def arg0:List Value:=[.pointer (some ⟨0,0,none⟩)]
def esOf (τ:Array Value) (q:IntKind):List (Nat×Int×Tmp)->Option (List (Value×Value))
 | []=>some []
 | (_,k,x) :: r=>match τ[x]?,esOf τ q r with
  | some v,some l=>some ((.int q k,v) :: l)
  | _,_=>none
theorem esOf_ok {τ:Array Value}{q:IntKind}:∀ {ins:List (Nat×Int×Tmp)}{es:List (Value×Value)},esOf τ q ins=some es->∀ k v,(k,v)∈es->∃ i k' x,(i,k',x)∈ins/\k=.int q k'/\τ[x]?=some v
 | [],es,h,k,v,hm=>by
  obtain rfl:=Option.some.inj h;cases hm
 | (i,k0,x) :: r,es,h,k,v,hm=>by
  unfold esOf at h
  split at h<;>first | (cases h; done) | skip
  rename_i u l hu hl;obtain rfl:=Option.some.inj h
  rcases List.mem_cons.1 hm with e | hm
  ·cases e
   exact ⟨i,k0,x,by simp,rfl,hu⟩
  ·obtain ⟨i',k',x',h1,h2,h3⟩:=esOf_ok hl k v hm
   exact ⟨i',k',x',by simp [h1],h2,h3⟩
def selfE (n:Nat):Emb:=fun i=>if i<n then some i else none
noncomputable def Mpr.run (D:Mpr) (P:Program) (st:Stat) (call:CallA):Bool :=
 mprB P D.q D.ops D.p D.iM D.tM D.sp&&staticP P (D.ops.map (mprOp D.p D.sp))&&decide ((cpsOf D.sp D.ops).any fun z=>decide (z.2=D.t)) &&
 match chainA P st call D.pre (arg0.toArray++Array.replicate (D.fn.ntmps-arg0.length) undef) [none] with
 | some (τ1,σ1)=>(match τ1[D.p]? with
  | some (.pointer (some _))=>(match traceA P st call (D.ops.map (mprOp D.p D.sp)) (D.ops.map (mprOp D.p D.sp)).toList (τ1.setIfInBounds D.p (.chan none)) σ1 with
   | some tr=>dynOk P st (D.ops.map (mprOp D.p D.sp)) tr&&decide (D.tM<τ1.size)&&((insOf D.q D.ops).all fun z=>decide (z.2.2<τ1.size))&&((cpsOf D.sp D.ops).all fun z=>decide (z.2<τ1.size)) &&
     (match tr.getLast? with
     | some (τ2,σ2)=>(match esOf τ2 D.q (insOf D.q D.ops) with
      | some es=>decide (σ2.length+1=D.L1.length)&&decide (0<σ2.length)&&blksOk (selfE D.L1.length) (hp (σ2++[some (.pmap D.q es)])) D.L1 0
      | none=>false)
     | none=>false)
   | none=>false)
  | _=>false)
 | none=>false
def ptrE (j:Nat):Emb:=fun i=>if i=0 then some j else none
def Mpr.ans (D:Mpr) (args:List Value) (H:HF) (N:Nat):RL :=
 match args with
 | [.pointer (some a)]=>match a.spot,a.off,H a.block with
  | none,0,some _=>if a.block<N then (match rnV (growE (ptrE a.block) 1 D.L1.length N) 6 (.map (some (D.L1.length-1))),putsO (growE (ptrE a.block) 1 D.L1.length N) [] (D.L1.drop 1) with
   | some v,some eds=>some (v,eds)
   | _,_=>none) else none
  | _,_,_=>none
 | _=>none
theorem Mpr.ok {D:Mpr}{P:Program}{w0:World}{st:Stat}{call:CallA}(hrun:D.run P st call=true) (hf:P.funcs[D.f]?=some D.fn) (hb:D.fn.body=some (chainC D.pre (.seq (.region D.id D.ops true) .ret))) (hres:D.fn.results=#[.tmp D.t])
  (hcall:RunOk P w0 call) (hst:GoodSt w0 st) (hm:P.follows .mixedOrders=true):FnOk P w0 D.f fun args σ=>RL.app σ (D.ans args (hp σ) σ.length):=by
 unfold Mpr.run at hrun;simp only [Bool.and_eq_true] at hrun;obtain ⟨⟨⟨hB,hS⟩,hC⟩,hrun⟩:=hrun;have hk:=mprB_ok hB
 split at hrun<;>first | (cases hrun; done) | skip
 rename_i τ1 σ1 h1
 split at hrun<;>first | (cases hrun; done) | skip
 rename_i x0 hpp
 split at hrun<;>first | (cases hrun; done) | skip
 rename_i tr htr;simp only [Bool.and_eq_true,decide_eq_true_eq] at hrun;obtain ⟨⟨⟨⟨hd,htM⟩,hx0⟩,hc0⟩,hrun⟩:=hrun
 split at hrun<;>first | (cases hrun; done) | skip
 rename_i τ2 σ2 hl
 split at hrun<;>first | (cases hrun; done) | skip
 rename_i es hes;simp only [Bool.and_eq_true,decide_eq_true_eq] at hrun;obtain ⟨⟨hlen,hpos⟩,hblk⟩:=hrun
 have h2:drawA P st call (D.ops.map (mprOp D.p D.sp)) (τ1.setIfInBounds D.p (.chan none)) σ1=some (τ2,σ2):=by
  unfold drawA;rw [if_pos hS];simp only [htr]
  rw [if_pos (by unfold dynB; rw [hd]; rfl)]
  exact hl
 obtain ⟨⟨j,t'⟩,hj,ht'⟩:=List.any_eq_true.1 (of_decide_eq_true hC);obtain rfl:t'=D.t:=of_decide_eq_true ht'
 have hF:=fnAt_mpr (x0:=x0) hf hb hcall hst hm hk h1 hpp h2 htM (fun j k x hx=>of_decide_eq_true (List.all_eq_true.1 hx0 _ hx)) (fun j d hx=>of_decide_eq_true (List.all_eq_true.1 hc0 _ hx)) hres hj es (esOf_ok hes)
 intro args σ v σ' hg;show FnAt P w0 D.f args σ v σ';simp only [RL.app,Option.map_eq_some_iff,Prod.mk.injEq] at hg;obtain ⟨⟨v2,eds⟩,hg,rfl,rfl⟩:=hg;unfold Mpr.ans at hg
 split at hg<;>first | (cases hg; done) | skip
 rename_i a
 split at hg<;>first | (cases hg; done) | skip
 rename_i b' hsp hoff hH
 split at hg<;>first | (cases hg; done) | skip
 rename_i hlt
 split at hg<;>first | (cases hg; done) | skip
 rename_i v3 eds' hv3 heds;simp only [Option.some.injEq,Prod.mk.injEq] at hg;obtain ⟨rfl,rfl⟩:=hg;obtain ⟨g1,g2,g3⟩:=putsO_new heds σ
 have hL1:1<=D.L1.length:=by omega
 have hin:SubIn (ptrE a.block) [none] (hp σ) arg0 [.pointer (some a)]:=by
  refine ⟨fun i hi=>⟨a.block,b',by
                     have:i=0:=by simpa using hi
                     simp [ptrE,this],hH,fun b hb=>?_⟩,fun i hi=>?_,fun i j x e1 e2=>?_,?_⟩
  ·have:i=0:=by simpa using hi
   subst this;simp [hp] at hb
  ·have:i≠0:=by simp at hi; omega
   simp [ptrE,this]
  ·unfold ptrE at e1 e2
   split at e1<;>first | (cases e1; done) | skip
   split at e2<;>first | (cases e2; done) | skip
   omega
  ·obtain ⟨bl,of,spt⟩:=a;simp only at hsp hoff;subst hsp;subst hoff;simp [arg0,eqL,eqV,eqAddr,eqId,ptrE]
 have hout:SubOut (selfE D.L1.length) ([none]:Heap).length D.L1 (hp (σ2++[some (.pmap D.q es)])) (.map (some (D.L1.length-1))) (.map (some σ2.length)):=by
  refine ⟨hL1,fun i hi=>?_,fun i j h3 h4=>?_,fun i j x e1 e2=>?_,fun i b hb=>?_,?_⟩
  ·have:i<D.L1.length:=by simp at hi; omega
   simp [selfE,this]
  ·unfold selfE at h4
   split at h4<;>first | (cases h4; done) | skip
   simp at h4;omega
  ·unfold selfE at e1 e2
   split at e1<;>first | (cases e1; done) | skip
   split at e2<;>first | (cases e2; done) | skip
   simp at e1 e2;omega
  ·have hb':D.L1[i]?=some (some b):=by
    unfold hp at hb
    cases h:D.L1[i]? with
    | none=>rw [h] at hb; cases hb
    | some o=>rw [h] at hb; simp at hb; rw [hb]
   obtain ⟨j,b',e1,e2,e3⟩:=blksOk_at hblk i b hb'
   exact ⟨j,b',by simpa using e1,e2,e3⟩
  ·have:D.L1.length-1<D.L1.length:=by omega
   have e:σ2.length=D.L1.length-1:=by omega
   simp [eqV,eqId,selfE,this,e]
 refine sub_ok hF hin hout ⟨?_,fun i j hi h hne=>?_,fun j hj _=>g2 j hj,fun i h3 h4=>?_,hv3⟩
 ·rw [g1];simp
 ·have:i=0:=by simpa using hi
  subst this;simp [hp] at hne
 ·simp only [List.length_cons,List.length_nil,Nat.zero_add] at h3 ⊢
  have:=g3 (i-1) (by simp; omega)
  obtain ⟨x,r,hxr⟩:∃ x r,D.L1=x :: r:=by
   cases h:D.L1 with
   | nil=>rw [h] at hL1; simp at hL1
   | cons x r=>exact ⟨x,r,rfl⟩
  have h5:AtE (growE (ptrE a.block) 1 D.L1.length σ.length) (x :: D.L1.drop 1) (i-1+1) (hp (eds'.foldl E1.app σ) (σ.length+(i-1))):=this.cons (c:=x)
  rw [show i-1+1=i by omega,show x :: D.L1.drop 1=D.L1 by rw [hxr]; rfl] at h5
  exact h5
end Go.AE
namespace Go.AE
open Go Go.ChangeShapes Go.RowKit
theorem trodAll_stays {H:Type}{enc:TypeId×Value->H}{P:Program}(hl:laidOutB P=true) {W W':World}{sp':Nat->Bool} :
  ∀ {ts:List TypeId}{vs:List Value}{ds:List (DataW H)}{ps:List MemPlace},(∀ t∈ts,P.readableRec t=true/\t<P.types.size)->DataW.TrodAll enc P W 0 (fun _=>true) true ts vs ds ps ->
   (∀ p∈ps,W.sameAt W' p)->(∀ p∈ps,sp' p.block=true)->DataW.TrodAll enc P W' 0 sp' true ts vs ds ps
 | [],vs,ds,ps,_,h,_,_=>by
  obtain ⟨rfl,rfl,rfl⟩:=trodAll_nil h;exact rfl
 | t :: ts,vs,ds,ps,hr,h,hs,hp=>by
  obtain ⟨v,vs',d,ds',p,q,rfl,rfl,rfl,h0,h1⟩:=trodAll_cons h
  refine trodAll_cons_mk (WideElems.Trod_stays hl (hr t (by simp)).1 (hr t (by simp)).2 h0 (fun x hx=>hs x (by simp [hx])) (fun x hx=>hp x (by simp [hx])))
   (trodAll_stays hl (fun u hu=>hr u (by simp [hu])) h1 (fun x hx=>hs x (by simp [hx])) (fun x hx=>hp x (by simp [hx])))
theorem post_true {H:Type}{enc:TypeId×Value->H}{P:Program}{f:Func}{s:ChangeSpec}{apart fresh handsOn:Bool}{W W':World}{args:Array Value}{ds gs:List (DataW H)}{before:List MemPlace}{tb:TypeId}
  (hl:laidOutB P=true) (hread:∀ t∈f.params.toList,P.readableRec t=true/\t<P.types.size) (hW:DataW.Whole enc P f.params.toList s.vars apart W args.toList ds gs before) (hv:s.vars=[])
  (hfn:s.fn H (ds++[])={ results:=[.lit (.bool true)],args:=ds }) (hres:f.resultTypes=#[tb]) (htb:P.underlying tb=some .bool) (hb:Below W.heap.size W W') :
  s.post enc P f apart fresh handsOn false W args (.bool true) W':=by
 have hW':=hW;obtain ⟨p,q,hA,hV,rfl,hfz,hnd⟩:=hW;rw [hv] at hV;obtain ⟨rfl,rfl⟩:=trodVars_none hV
 have hlt:∀ x∈p,x.block<W.heap.size:=fun x hx=>hW'.lt x (by simp [hx])
 refine ⟨ds,[],_,[],p,[],hW',?_,?_,?_,hb.frame _,fun h=>by cases h⟩
 ·rw [hfn,hres];exact trodAll_mk1 (shut_bool htb _)
 ·rw [hfn]
  exact trodAll_stays hl hread hA (fun x hx=>hb.same (hlt x hx)) (fun x hx=>by simpa using hlt x hx)
 ·rw [hfn,hv];rfl
end Go.AE
