/-
 A region whose order is open: whatever order its edges allow,it comes to what the evaluator says.
 Conditions: see the theorems.
-/
import Derived.Test.YtigmkgampfbflaaGreatDoorAeOp5
namespace Go.AE
open Go Go.RowKit
theorem veqD_eq:∀ (n:Nat) (x y:Value),veqD n x y=true->x=y:=by
 intro n
 induction n with
 | zero=>intro x y h; simp [veqD] at h
 | succ n ih =>
  have arr:∀ a b:Array Value,a.size=b.size->(a.toList.zip b.toList).all (fun p=>veqD n p.1 p.2)=true->a=b:=by
   intro a b hs h
   apply Array.ext hs
   intro i h1 h2;refine ih _ _ (List.all_eq_true.1 h (a[i],b[i]) ?_);refine List.mem_of_getElem? (i:=i) ?_;rw [List.getElem?_zip_eq_some]
   exact ⟨by simp [h1],by simp [h2]⟩
  intro x y h
  cases x<;>cases y<;>simp only [veqD,Bool.and_eq_true,beq_iff_eq,decide_eq_true_eq] at h<;>first
   | (cases h; done)
   | (rw [h]; done)
   | rfl
   | (rw [h.1,h.2]; done)
   | (rw [h.1.1,h.1.2,h.2]; done)
   | (rw [arr _ _ h.1 h.2]; done)
   | (rw [h.1,ih _ _ h.2]; done)
   | (rw [h.1.1.1.1,arr _ _ h.1.1.1.2 h.1.2,arr _ _ h.1.1.2 h.2]; done)
theorem veq_eq {x y:Value}(h:veq x y=true):x=y:=veqD_eq 5 x y h
theorem vEqO_eq {x y:Option Value}(h:vEqO x y=true):∃ v,x=some v/\y=some v:=by
 cases x<;>cases y<;>simp [vEqO] at h
 exact ⟨_,rfl,by rw [veq_eq h]⟩
theorem blkEq_eq {x y:Option (Option Blk)}(h:blkEq x y=true):x=y:=by
 unfold blkEq at h;split at h
 ·rename_i a b;simp only [Bool.and_eq_true,beq_iff_eq] at h
  have:a=b:=by
   apply List.ext_getElem h.1
   intro i h1 h2;refine veq_eq (List.all_eq_true.1 h.2 (a[i],b[i]) ?_);refine List.mem_of_getElem? (i:=i) ?_;rw [List.getElem?_zip_eq_some]
   exact ⟨by simp [h1],by simp [h2]⟩
  rw [this]
 ·rfl
 ·cases h
theorem foldl_bits (f:Nat->Nat):∀ (ks:List Nat) (s i:Nat),(ks.foldl (fun s k=>s ||| 2 ^ k ||| f k) s).testBit i=true->s.testBit i=true\/∃ k∈ks,i=k\/(f k).testBit i=true
 | [],s,i,h=>.inl h
 | k :: ks,s,i,h=>by
  simp only [List.foldl_cons] at h
  rcases foldl_bits f ks _ i h with h | ⟨j,hj,h⟩
  ·simp only [Nat.testBit_or,Nat.testBit_two_pow,Bool.or_eq_true,decide_eq_true_eq] at h
   rcases h with (h | h) | h
   ·exact .inl h
   ·exact .inr ⟨k,by simp,.inl h.symm⟩
   ·exact .inr ⟨k,by simp,.inr h⟩
  ·exact .inr ⟨j,by simp [hj],h⟩
theorem closeA_spec:∀ (l:List Oper) (acc:List Nat) (j:Nat) (o:Oper),l[j]?=some o->∃ acc':List Nat,(closeA l acc).getD (acc.length+j) 0=(predsA o).foldl (fun s k=>s ||| 2 ^ k ||| acc'.getD k 0) 0 /\
  (∀ k,k<acc.length+j->acc'.getD k 0=(closeA l acc).getD k 0)/\acc'.length=acc.length+j
 | [],acc,j,o,h=>by simp at h
 | x :: l,acc,0,o,h=>by
  obtain rfl:x=o:=by simpa using h
  have hpre:∀ (l:List Oper) (acc:List Nat),acc <+: closeA l acc:=by
   intro l
   induction l with
   | nil=>intro acc; exact List.prefix_refl _
   | cons o l ih=>intro acc; exact (List.prefix_append _ _).trans (ih _)
  refine ⟨acc,?_,?_,rfl⟩
  ·obtain ⟨t,ht⟩:=hpre l (acc++[(predsA x).foldl (fun s k=>s ||| 2 ^ k ||| acc.getD k 0) 0])
   simp only [closeA];rw [<- ht];simp
  ·intro k hk;obtain ⟨t,ht⟩:=hpre (x :: l) acc;rw [<- ht];simp only [Nat.add_zero] at hk;simp [List.getElem?_append_left hk]
 | x :: l,acc,j+1,o,h=>by
  obtain ⟨acc',h1,h2,h3⟩:=closeA_spec l (acc++[(predsA x).foldl (fun s k=>s ||| 2 ^ k ||| acc.getD k 0) 0]) j o (by simpa using h)
  simp only [List.length_append,List.length_singleton] at h1 h2 h3
  refine ⟨acc',?_,?_,by omega⟩
  ·simp only [closeA];rw [<- h1]
   congr 1
   omega
  ·intro k hk;simp only [closeA]
   exact h2 k (by omega)
section
variable {P:Program}{w0:World}{ρ:Ren}{w:World}
theorem traceA_spec {st:AE.Stat}{call:CallA}{ops:Array Oper}:∀ (l:List Oper) (τ:Array Value) (σ:Heap) (tr:List (Array Value×Heap)),traceA P st call ops l τ σ=some tr ->
  tr.length=l.length+1/\tr[0]?=some (τ,σ)/\∀ i o,l[i]?=some o->∃ s t,tr[i]?=some s/\tr[i+1]?=some t/\stepA P st call ops o s.1 s.2=some t
 | [],τ,σ,tr,h=>by
  simp only [traceA,Option.some.injEq] at h;subst h
  exact ⟨rfl,rfl,fun i o h=>by simp at h⟩
 | o :: l,τ,σ,tr,h=>by
  simp only [traceA] at h;split at h
  ·rename_i τ1 σ1 h1;simp only [Option.map_eq_some_iff] at h;obtain ⟨tr1,h2,rfl⟩:=h;obtain ⟨a,b,c⟩:=traceA_spec l τ1 σ1 tr1 h2
   refine ⟨by simp [a],rfl,fun i x hx=>?_⟩
   cases i with
   | zero =>
    obtain rfl:o=x:=by simpa using hx
    exact ⟨(τ,σ),(τ1,σ1),rfl,by simpa using b,h1⟩
   | succ i =>
    obtain ⟨s,t,h3,h4,h5⟩:=c i x (by simpa using hx)
    exact ⟨s,t,by simpa using h3,by simpa using h4,h5⟩
  ·cases h
theorem drawA_len {st:AE.Stat}{call:CallA}{ops:Array Oper}{τ τ':Array Value}{σ σ':Heap}(hcall:RunOk P w0 call) (h:drawA P st call ops τ σ=some (τ',σ')):σ.length<=σ'.length:=by
 unfold drawA at h;split at h
 ·split at h
  ·rename_i tr htr;split at h
   ·have key:∀ (l:List Oper) (τ:Array Value) (σ:Heap) (tr:List (Array Value×Heap)),traceA P st call ops l τ σ=some tr->∀ x,tr.getLast?=some x->σ.length<=x.2.length:=by
     intro l
     induction l with
     | nil =>
      intro τ σ tr h x hx;simp only [traceA,Option.some.injEq] at h;subst h;simp at hx
      rw [<- hx]; exact Nat.le_refl _
     | cons o l ih =>
      intro τ σ tr h x hx;simp only [traceA] at h;split at h
      ·rename_i τ1 σ1 h1;simp only [Option.map_eq_some_iff] at h;obtain ⟨tr1,h2,rfl⟩:=h
       have hne:tr1≠[]:=by
        intro e;have:=(traceA_spec l τ1 σ1 tr1 h2).1;rw [e] at this;simp at this
       rw [List.getLast?_cons,] at hx
       have hx':tr1.getLast?=some x:=by
        cases hl:tr1.getLast? with
        | none=>simp at hl; exact absurd hl hne
        | some y=>rw [hl] at hx; simpa using hx
       exact Nat.le_trans (stepA_len hcall h1) (ih _ _ _ h2 x hx')
      ·cases h
    exact key _ _ _ _ htr _ h
   ·cases h
  ·cases h
 ·cases h
structure Reg (P:Program) (st:Stat) (call:CallA) (ops:Array Oper) (n:Nat) (o:Nat->Oper) (T:Nat->Array Value) (S:Nat->Heap) (c:List Nat):Prop where
 size:ops.size=n
 op:∀ i,i<n->ops[i]?=some (o i)
 step:∀ i,i<n->stepA P st call ops (o i) (T i) (S i)=some (T (i+1),S (i+1))
 pre:∀ i,i<n->∀ k∈predsA (o i),k<i
 sel:∀ i,i<n->isSelect (o i).op=false
 tmp:∀ i j,i<j->j<n->(Oper.apart ops (o i) (o j)=true/\Oper.apart ops (o j) (o i)=true)\/ordA c i j=true
 chain:∀ i j,i<j->j<n->cls (o i).op=3->cls (o j).op=3->ordA c i j=true
 cl:∀ j,j<n->∀ i,ordA c i j=true->∃ k∈predsA (o j),i=k\/ordA c i k=true
 ld:∀ i j,i<n->j<n->cls (o i).op=1->Region.wanted (o i) (yielded ops (T i))=true->cls (o j).op=3->Region.wanted (o j) (yielded ops (T j))=true->ordA c i j=false->ordA c j i=false ->
  loadAtA P st (T i) (o i) (S j)=loadAtA P st (T i) (o i) (S (j+1))
 cv:∀ i,i<n->convOk P (o i).op=true\/(convS P (o i).op=true/\cls (o i).op≠3/\∀ j,j<n->cls (o j).op=3->(j<i->ordA c j i=true)/\(i<j->ordA c i j=true))
 al:∀ i j,i<j->j<n->cls (o i).op=2->Region.wanted (o i) (yielded ops (T i))=true->cls (o j).op=3->Region.wanted (o j) (yielded ops (T j))=true->ordA c i j=false->ordA c j i=false ->
  (S j)[(S i).length]?=(S (j+1))[(S i).length]?
theorem storeN_load {st:AE.Stat}{σ σ':Heap}{p q:Addr}{vs:List Value}{m:Nat}(h:storeN σ q vs=some σ') (ha:p.spot.isSome=true\/p.block≠q.block\/p.off+m<=q.off\/q.off+vs.length<=p.off):loadN st σ p m=loadN st σ' p m:=by
 unfold storeN at h;split at h
 ·cases h
 ·rename_i hq;split at h
  ·rename_i l hl;split at h
   ·rename_i hle;simp only [Bool.and_eq_true,decide_eq_true_eq] at hle;obtain rfl:=Option.some.inj h;unfold loadN
    cases hs:p.spot with
    | some s=>rfl
    | none =>
     simp only [hs,Option.isSome_none,Bool.false_eq_true,false_or] at ha;simp only
     by_cases hb:p.block=q.block
     ·have hd:=ha.resolve_left (fun e=>e hb)
      rw [hb,hl,List.getElem?_set_self (List.getElem?_eq_some_iff.1 hl).1];simp only
      have hlen:(l.take q.off++vs++l.drop (q.off+vs.length)).length=l.length:=by simp; omega
      rw [hlen];split
      ·rename_i hin
       congr 1
       apply List.ext_getElem?
       intro i;rw [List.getElem?_take,List.getElem?_take];split
       ·rename_i him;rw [List.getElem?_drop,List.getElem?_drop]
        have htl:(l.take q.off).length=q.off:=by simp; omega
        rcases hd with hd | hd
        ·rw [List.append_assoc,List.getElem?_append_left (by omega),List.getElem?_take,if_pos (by omega)]
        ·rw [List.append_assoc,List.getElem?_append_right (by omega),htl,List.getElem?_append_right (by omega),List.getElem?_drop]
         congr 1
         omega
       ·rfl
      ·rfl
     ·rw [List.getElem?_set_ne (fun e=>hb e.symm)]
   ·cases h
  ·cases h
theorem apartA_spec {st:AE.Stat}{call:CallA}{τi τj:Array Value}{x y:Oper}{σ σ':Heap}{v:Value}(ha:apartA P τi τj x y=true) (h:opA P st call (evalT τj) y σ=some (v,σ')):loadAtA P st τi x σ=loadAtA P st τi x σ':=by
 unfold apartA at ha;split at ha
 ·rename_i t a u b c hx hy;split at ha
  ·rename_i p q hp hq;unfold loadAtA;simp only [hx,hp];unfold opA at h;split at h
   ·split at h
    ·simp only [Option.some.injEq,Prod.mk.injEq] at h;rw [h.2]
    ·rw [hy] at h;simp only [specA,hq,Option.map_eq_some_iff,Prod.mk.injEq] at h;obtain ⟨σ2,hs,_,rfl⟩:=h;unfold storeV at hs
     cases hk:sizeA P u with
     | none=>simp [hk] at hs
     | some k =>
      simp only [hk] at hs;split at hs
      ·rename_i hlen
       have hvl:(evalT τj c).cells.toList.length=k:=by simpa using hlen
       have key:∀ m,(p.spot.isSome=true\/p.block≠q.block\/p.off+m<=q.off\/q.off+k<=p.off)->loadN st σ p m=loadN st σ2 p m:=fun m hm=>storeN_load hs (by rw [hvl]; exact hm)
       unfold loadV
       cases hd:P.underlying t with
       | none=>rfl
       | some d =>
        simp only [hk,hd,Bool.or_eq_true,bne_iff_ne,ne_eq] at ha;simp only
        cases hag:aggDesc d with
        | true =>
         simp only [hag,if_true] at ha ⊢
         cases hm:sizeA P t with
         | none=>rfl
         | some m =>
          simp only [hm,Bool.or_eq_true,decide_eq_true_eq] at ha;simp only
          rw [key m (by rcases ha with (h | h) | (h | h)<;>simp [h])]
        | false =>
         simp only [hag,Bool.false_eq_true,if_false] at ha ⊢
         have:p.spot.isSome=true\/p.block≠q.block\/p.off+1<=q.off\/q.off+k<=p.off:=by
          cases hm:sizeA P t with
          | none =>
           simp only [hm,Bool.false_eq_true,or_false] at ha
           rcases ha with h | h<;>simp [h]
          | some m =>
           simp only [hm,Bool.or_eq_true,decide_eq_true_eq] at ha
           rcases ha with (h | h) | (h | h)<;>simp [h]
         rw [key 1 this]
      ·cases hs
   ·cases h
  ·cases ha
 ·cases ha
theorem step_op {st:AE.Stat}{call:CallA}{ops:Array Oper}{o:Oper}{τ τ':Array Value}{σ σ':Heap}(h:stepA P st call ops o τ σ=some (τ',σ')) (hw:Region.wanted o (yielded ops τ)=true):∃ v,opA P st call (evalT τ) o σ=some (v,σ'):=by
 unfold stepA at h;simp only [hw,if_true] at h;split at h
 ·split at h
  ·rename_i v σ1 h1;simp only [Option.some.injEq,Prod.mk.injEq] at h
   exact ⟨v,by rw [h1,h.2]⟩
  ·cases h
 ·cases h
theorem reg_of_draw {st:AE.Stat}{call:CallA}{ops:Array Oper}{τ:Array Value}{σ:Heap}{tr:List (Array Value×Heap)}(hs:staticP P ops=true) (ht:traceA P st call ops ops.toList τ σ=some tr)
  (hd:dynB P st ops tr=true):∃ (o:Nat->Oper) (T:Nat->Array Value) (S:Nat->Heap),Reg P st call ops ops.size o T S (closeA ops.toList [])/\T 0=τ/\S 0=σ/\tr.getLast?=some (T ops.size,S ops.size):=by
 obtain ⟨hlen,h0,hst⟩:=traceA_spec _ _ _ _ ht;simp only [Array.length_toList] at hlen
 let T:Nat->Array Value:=fun i=>(tr.getD i (τ,σ)).1
 let S:Nat->Heap:=fun i=>(tr.getD i (τ,σ)).2
 let o:Nat->Oper:=fun i=>ops.getD i default
 have hop:∀ i,i<ops.size->ops[i]?=some (o i):=fun i hi=>by simp [o,hi]
 have htr:∀ i,i<=ops.size->tr[i]?=some (T i,S i):=by
  intro i hi
  have hi':i<tr.length:=by omega
  simp [T,S,hi']
 have hopl:∀ i,i<ops.size->ops.toList[i]?=some (o i):=fun i hi=>by simpa using hop i hi
 have mem:∀ i,i<ops.size->(o i,i)∈ops.toList.zipIdx:=by
  intro i hi;refine List.mem_of_getElem? (i:=i) ?_;simp [List.getElem?_zipIdx,hop i hi]
 have hd':dynOk P st ops tr=true\/DynP P st ops tr:=by
  unfold dynB at hd
  simpa using hd
 unfold staticP staticOk at hs;rw [Bool.and_eq_true] at hs;obtain ⟨hs,hcv⟩:=hs;simp only [List.all_eq_true,Bool.and_eq_true,Bool.or_eq_true,decide_eq_true_eq] at hs
 have hcv':∀ i,i<ops.size->convOk P (o i).op=true\/(convS P (o i).op=true/\cls (o i).op≠3/\∀ j,j<ops.size->cls (o j).op=3->(j<i->ordA (closeA ops.toList []) j i=true)/\(i<j->ordA (closeA ops.toList []) i j=true)):=by
  intro i hi;rw [Bool.or_eq_true] at hcv
  rcases hcv with h | h
  ·exact .inl (List.all_eq_true.1 h _ (List.mem_of_getElem? (hopl i hi)))
  ·unfold convR at h;have h:=List.all_eq_true.1 h (o i,i) (mem i hi);simp only [Bool.or_eq_true,Bool.and_eq_true,List.all_eq_true,bne_iff_ne,ne_eq] at h
   refine h.imp id fun ⟨⟨h1,h2⟩,h3⟩=>⟨h1,h2,fun j hj cj=>?_⟩
   have h4:=(h3 (o j,j) (mem j hj)).resolve_left (fun h=>h cj)
   refine ⟨fun hji=>?_,fun hij=>?_⟩
   ·simpa [hji] using h4
   ·simpa [show ¬ j<i by omega] using h4
 have hpair:∀ i j,i<j->j<ops.size->pairOk ops (closeA ops.toList []) i (o i) j (o j)=true:=by
  intro i j hij hj
  have:=(hs (o i,i) (mem i (by omega))).2 (o j,j) (mem j hj)
  simpa [hij] using this
 refine ⟨o,T,S,⟨rfl,hop,?_,?_,?_,?_,?_,?_,?_,hcv',?_⟩,?_,?_,?_⟩
 ·intro i hi;obtain ⟨s,t,h1,h2,h3⟩:=hst i (o i) (hopl i hi)
  rw [htr i (by omega)] at h1
  rw [htr (i+1) (by omega)] at h2
  obtain rfl:=Option.some.inj h1;obtain rfl:=Option.some.inj h2;exact h3
 ·intro i hi k hk;have:=(hs (o i,i) (mem i hi)).1.1 k hk
  simpa using this
 ·intro i hi;have:=(hs (o i,i) (mem i hi)).1.2
  simpa using this
 ·intro i j hij hj;have:=hpair i j hij hj;unfold pairOk at this;simp only [Bool.and_eq_true,Bool.or_eq_true] at this;exact this.1
 ·intro i j hij hj ci cj;have:=hpair i j hij hj;unfold pairOk at this;simp only [Bool.and_eq_true,Bool.or_eq_true,bne_iff_ne,ne_eq] at this
  rcases this.2 with (h | h) | h
  ·exact absurd ci h
  ·exact absurd cj h
  ·exact h
 ·intro j hj i h;obtain ⟨acc',h1,h2,_⟩:=closeA_spec ops.toList [] j (o j) (hopl j hj);simp only [List.length_nil,Nat.zero_add] at h1 h2;unfold ordA at h;rw [h1] at h
  rcases foldl_bits _ _ _ _ h with h | ⟨k,hk,h⟩
  ·simp at h
  ·refine ⟨k,hk,h.imp id fun h=>?_⟩
   have hkj:k<j:=by
    have:=(hs (o j,j) (mem j hj)).1.1 k hk
    simpa using this
   unfold ordA;rw [<- h2 k hkj];exact h
 ·intro i j hi hj ci wi cj wj oij oji
  rcases hd' with hd | hd
  case inr=>exact (hd i j _ _ _ _ _ _ _ _ (hop i hi) (hop j hj) (htr i (by omega)) (htr j (by omega)) (htr (j+1) (by omega)) wi wj cj oij oji).1 ci
  unfold dynOk at hd;simp only [List.all_eq_true] at hd;have h1:=hd (o i,i) (mem i hi)
  simp only [htr i (by omega),ci,beq_self_eq_true,Bool.true_or,wi,Bool.and_self,if_true,List.all_eq_true] at h1
  have h2:=h1 (o j,j) (mem j hj)
  simp only [htr j (by omega),htr (j+1) (by omega),cj,beq_self_eq_true,wj,oij,oji,Bool.not_false,Bool.and_self,if_true,Bool.or_eq_true] at h2
  rcases h2 with h2 | h2
  ·obtain ⟨s,t,h3,h4,h5⟩:=hst j (o j) (hopl j hj)
   rw [htr j (by omega)] at h3
   rw [htr (j+1) (by omega)] at h4
   obtain rfl:=Option.some.inj h3;obtain rfl:=Option.some.inj h4;obtain ⟨v,hv⟩:=step_op h5 wj;exact apartA_spec h2 hv
  ·obtain ⟨v,a,b⟩:=vEqO_eq h2;exact a.trans b.symm
 ·intro i j hij hj ci wi cj wj oij oji
  rcases hd' with hd | hd
  case inr=>exact (hd i j _ _ _ _ _ _ _ _ (hop i (by omega)) (hop j hj) (htr i (by omega)) (htr j (by omega)) (htr (j+1) (by omega)) wi wj cj oij oji).2 ci hij
  unfold dynOk at hd;simp only [List.all_eq_true] at hd
  have h1:=hd (o i,i) (mem i (by omega))
  have c21:((2:Nat)==1)=false:=rfl
  simp only [htr i (by omega),ci,c21,beq_self_eq_true,Bool.or_true,wi,Bool.and_self,if_true,List.all_eq_true] at h1
  have h2:=h1 (o j,j) (mem j hj)
  simp only [htr j (by omega),htr (j+1) (by omega),cj,beq_self_eq_true,wj,oij,oji,Bool.not_false,Bool.and_self,if_true,Bool.false_eq_true,if_false,hij] at h2
  exact blkEq_eq h2
 ·simp [T,h0]
 ·simp [S,h0]
 ·rw [List.getLast?_eq_getElem?,hlen,Nat.add_sub_cancel];exact htr _ (Nat.le_refl _)
section
variable {st:AE.Stat}{call:CallA}{ops:Array Oper}{n:Nat}{o:Nat->Oper}{T:Nat->Array Value}{S:Nat->Heap}{c:List Nat}
theorem Reg.lt (R:Reg P st call ops n o T S c):∀ j,j<n->∀ i,ordA c i j=true->i<j:=by
 intro j
 induction j using Nat.strongRecOn with
 | _ j ih =>
  intro hj i h
  obtain ⟨k,hk,h | h⟩:=R.cl j hj i h
  ·rw [h]; exact R.pre j hj k hk
  ·have hkj:=R.pre j hj k hk
   exact Nat.lt_trans (ih k hkj (by omega) i h) hkj
theorem Reg.closed (R:Reg P st call ops n o T S c) {L:Nat->Prop}(hL:∀ i,i<n->L i->∀ k∈predsA (o i),L k):∀ j,j<n->(∀ k∈predsA (o j),L k)->∀ i,ordA c i j=true->L i:=by
 intro j
 induction j using Nat.strongRecOn with
 | _ j ih =>
  intro hj hp i h
  obtain ⟨k,hk,h | h⟩:=R.cl j hj i h
  ·rw [h]; exact hp k hk
  ·have hkj:=R.pre j hj k hk
   exact ih k hkj (by omega) (hL k (by omega) (hp k hk)) i h
theorem step_cases {o:Oper}{τ τ':Array Value}{σ σ':Heap}(h:stepA P st call ops o τ σ=some (τ',σ')):guardOk ops o τ=true /\
  ((Region.wanted o (yielded ops τ)=true/\∃ v,opA P st call (evalT τ) o σ=some (v,σ')/\τ'=putT τ o.dst v)\/(Region.wanted o (yielded ops τ)=false/\τ'=putT τ o.dst undef/\σ'=σ)):=by
 unfold stepA at h;split at h
 ·rename_i hg;refine ⟨hg,?_⟩;split at h
  ·rename_i hw;split at h
   ·rename_i v σ1 h1;simp only [Option.some.injEq,Prod.mk.injEq] at h;obtain ⟨rfl,rfl⟩:=h;exact .inl ⟨hw,v,h1,rfl⟩
   ·cases h
  ·rename_i hw;simp only [Option.some.injEq,Prod.mk.injEq] at h;obtain ⟨rfl,rfl⟩:=h
   exact .inr ⟨by simpa using hw,rfl,rfl⟩
 ·cases h
def Free (P:Program) (st:Stat) (call:CallA) (τ:Array Value) (o:Oper) (v:Value):Prop:=∀ σ2,opA P st call (evalT τ) o σ2=some (v,σ2)
def Loads (P:Program) (st:Stat) (call:CallA) (τ:Array Value) (o:Oper) (v:Value):Prop:=∀ σ2,loadAtA P st τ o σ2=some v->opA P st call (evalT τ) o σ2=some (v,σ2)
def News (P:Program) (st:Stat) (call:CallA) (τ:Array Value) (o:Oper) (v:Value) (len:Nat) (b:Option Blk):Prop:=∀ σ2,σ2.length=len->opA P st call (evalT τ) o σ2=some (v,σ2++[b])
theorem convA_none {σ:Heap}{src dst:TypeId}{x:Operand}{y:Value}(h:convOk P (.convert src dst x)=true):convA P st σ src dst y=none:=by
 simp only [convOk] at h;unfold convA
 split at h<;>first | (cases h; done) | skip
 rename_i h1 h2;split
 ·rename_i e _ _ hd;exact absurd hd (h2 _)
 ·rename_i e _ _ _ hs _;exact absurd hs (h1 _)
 ·rfl
theorem opA_cls {o:Oper}{τ:Array Value}{σ σ':Heap}{v:Value}(hcv:convOk P o.op=true) (hc:cls o.op≠3) (h:opA P st call (evalT τ) o σ=some (v,σ')) :
  (σ'=σ/\Free P st call τ o v)\/(cls o.op=1/\σ'=σ/\loadAtA P st τ o σ=some v/\Loads P st call τ o v)\/(cls o.op=2/\∃ b,σ'=σ++[b]/\News P st call τ o v σ.length b):=by
 unfold Free Loads News;unfold opA at h ⊢;split at h
 ·rename_i hk;simp only [hk,if_true]
  cases hu:peekA P (evalT τ) o with
  | some u =>
   simp only [hu,Option.some.injEq,Prod.mk.injEq] at h;obtain ⟨rfl,rfl⟩:=h
   exact .inl ⟨rfl,fun σ2=>rfl⟩
  | none =>
   simp only [hu] at h;simp only []
   have mp:∀ {s:Option Value},s.map (·,σ)=some (v,σ')->σ'=σ/\s=some v:=by
    intro s hs;simp only [Option.map_eq_some_iff,Prod.mk.injEq] at hs;obtain ⟨a,ha,rfl,rfl⟩:=hs;exact ⟨rfl,ha⟩
   unfold loadAtA;generalize o.op=op at *
   cases op<;>simp only [specA] at h ⊢<;>(try simp only [cls,ne_eq,not_true_eq_false] at hc)<;>(try cases h; done)
   case move x =>
    simp only [Option.some.injEq,Prod.mk.injEq] at h;obtain ⟨rfl,rfl⟩:=h
    exact .inl ⟨rfl,fun σ2=>rfl⟩
   case assign x =>
    simp only [Option.some.injEq,Prod.mk.injEq] at h;obtain ⟨rfl,rfl⟩:=h
    exact .inl ⟨rfl,fun σ2=>rfl⟩
   case pick x y z =>
    split at h
    ·simp only [Option.some.injEq,Prod.mk.injEq] at h;obtain ⟨rfl,rfl⟩:=h
     exact .inl ⟨rfl,fun σ2=>rfl⟩
    ·cases h
   case makeMap t q =>
    cases q with
    | some _=>exact absurd rfl hc
    | none =>
     simp only [Option.some.injEq,Prod.mk.injEq] at h;obtain ⟨rfl,rfl⟩:=h
     exact .inr (.inr ⟨rfl,_,rfl,fun σ2 h2=>by simp [h2]⟩)
   case alloc e =>
    simp only [Option.map_eq_some_iff,Prod.mk.injEq] at h;obtain ⟨z,hz,rfl,rfl⟩:=h
    exact .inr (.inr ⟨rfl,_,rfl,fun σ2 h2=>by simp [hz,newB,h2]⟩)
   case box e x =>
    simp only [Option.some.injEq,Prod.mk.injEq] at h;obtain ⟨rfl,rfl⟩:=h
    exact .inr (.inr ⟨rfl,_,rfl,fun σ2 h2=>by simp [newB,h2]⟩)
   case build t ps =>
    obtain ⟨rfl,h5⟩:=mp h
    exact .inl ⟨rfl,fun σ2=>by rw [h5]; rfl⟩
   case buildSlice t m ps =>
    refine .inr (.inr ⟨rfl,?_⟩);unfold buildSliceA at h;split at h
    ·rename_i e hd;split at h
     ·cases h
     ·rename_i size hs;split at h
      ·cases h
      ·rename_i hbig;split at h
       ·cases h
       ·rename_i zero hz;split at h
        ·cases h
        ·rename_i cells hcl;simp only [Option.some.injEq,Prod.mk.injEq] at h;obtain ⟨rfl,rfl⟩:=h
         refine ⟨_,rfl,fun σ2 h2=>?_⟩
         unfold buildSliceA;simp only [hd,hs,hbig,if_false,hz,hcl];simp [newB,h2]
    ·cases h
   case load t a =>
    split at h
    ·rename_i a1 h1;obtain ⟨rfl,h5⟩:=mp h
     exact .inr (.inl ⟨rfl,rfl,by simp only [h1,h5],fun σ2 h2=>by (try simp only [h1] at h2); (try simp only [h1]); rw [h2]; rfl⟩)
    ·cases h
   case nilCheck x =>
    split at h
    ·rename_i h1;simp only [Option.some.injEq,Prod.mk.injEq] at h;obtain ⟨rfl,rfl⟩:=h
     exact .inl ⟨rfl,fun σ2=>rfl⟩
    ·rename_i h1;simp only [Option.some.injEq,Prod.mk.injEq] at h;obtain ⟨rfl,rfl⟩:=h
     exact .inl ⟨rfl,fun σ2=>rfl⟩
    ·cases h
   case binOp op t x y yt =>
    obtain ⟨rfl,h5⟩:=mp h
    exact .inl ⟨rfl,fun σ2=>by rw [h5]; rfl⟩
   case makeFunc f x y =>
    simp only [Option.some.injEq,Prod.mk.injEq] at h;obtain ⟨rfl,rfl⟩:=h
    exact .inl ⟨rfl,fun σ2=>rfl⟩
   case makeSlice t l c =>
    refine .inr (.inr ⟨rfl,?_⟩);unfold makeSliceA at h;split at h
    ·rename_i h1 h2 h3;split at h
     ·cases h
     ·rename_i i hi;split at h
      ·rename_i hb;split at h
       ·cases h
       ·rename_i z hz;simp only [Option.some.injEq,Prod.mk.injEq] at h;obtain ⟨rfl,rfl⟩:=h
        refine ⟨_,rfl,fun σ2 h2'=>?_⟩
        unfold makeSliceA;simp only [h1,h2,h3,hi,hb,and_self,if_true,hz];simp [newB,h2']
      ·cases h
    ·cases h
   case slice t x lo hi mx =>
    obtain ⟨rfl,h5⟩:=mp h
    exact .inl ⟨rfl,fun σ2=>by rw [h5]; rfl⟩
   case fieldAddr s x f =>
    obtain ⟨rfl,h5⟩:=mp h
    exact .inl ⟨rfl,fun σ2=>by rw [h5]; rfl⟩
   case field s x f =>
    obtain ⟨rfl,h5⟩:=mp h
    exact .inl ⟨rfl,fun σ2=>by rw [h5]; rfl⟩
   case indexAddr s x f =>
    obtain ⟨rfl,h5⟩:=mp h
    exact .inl ⟨rfl,fun σ2=>by rw [h5]; rfl⟩
   case index s x f =>
    obtain ⟨rfl,h5⟩:=mp h
    exact .inl ⟨rfl,fun σ2=>by rw [h5]; rfl⟩
   case convert src dst x =>
    rw [convA_none hcv] at h;cases h
   case extract x i =>
    split at h
    ·rename_i vs h1;obtain ⟨rfl,h5⟩:=mp h
     exact .inl ⟨rfl,fun σ2=>by rw [h5]; rfl⟩
    ·cases h
   case call cc =>
    refine .inl ?_;unfold callA at h;split at h
    ·rename_i hcal; simp [hcal] at hc
    ·rename_i hcal;split at h
     ·rename_i h1 h2;split at h
      ·rename_i h3;simp only [Option.some.injEq,Prod.mk.injEq] at h;obtain ⟨rfl,rfl⟩:=h
       exact ⟨rfl,fun σ2=>by unfold callA; simp only [hcal,h1,h2,h3]⟩
      ·cases h
     ·cases h
    ·rename_i hcal;split at h
     ·rename_i h1 h2;split at h
      ·rename_i h3;split at h
       ·rename_i h4;simp only [Option.some.injEq,Prod.mk.injEq] at h;obtain ⟨rfl,rfl⟩:=h
        exact ⟨rfl,fun σ2=>by unfold callA; simp only [hcal,h1,h2,h3,h4,if_true]⟩
       ·cases h
      ·cases h
     ·cases h
    ·rename_i hcal; simp [hcal] at hc
    ·rename_i hcal; simp [hcal] at hc
    ·cases h
 ·cases h
def Reads (P:Program) (st:Stat) (call:CallA) (τ:Array Value) (o:Oper) (σ:Heap) (v:Value):Prop :=
 ∀ σ2,(∀ src dst x a n c,o.op=.convert src dst x->evalT τ x=.slice (some a) n c->n≠0->loadN st σ a n≠none->loadN st σ2 a n=loadN st σ a n)->opA P st call (evalT τ) o σ2=some (v,σ2)
theorem opA_convS {o:Oper}{τ:Array Value}{σ σ':Heap}{v:Value}(hcv:convS P o.op=true) (h:opA P st call (evalT τ) o σ=some (v,σ')):σ'=σ/\Reads P st call τ o σ v:=by
 unfold Reads;unfold opA at h ⊢;split at h
 ·rename_i hk;simp only [hk,if_true]
  cases hu:peekA P (evalT τ) o with
  | some u =>
   simp only [hu,Option.some.injEq,Prod.mk.injEq] at h;obtain ⟨rfl,rfl⟩:=h
   exact ⟨rfl,fun σ2 _=>rfl⟩
  | none =>
   simp only [hu] at h;simp only [];unfold convS at hcv
   split at hcv<;>first | (cases hcv; done) | skip
   rename_i src dst x hop
   split at hcv<;>first | (cases hcv; done) | skip
   rename_i e h1 h2;rw [hop] at h ⊢;simp only [specA] at h ⊢;unfold convA at h ⊢;simp only [h1,h2] at h ⊢;cases hx:evalT τ x
   case slice b n c =>
    cases b with
    | none=>rw [hx] at h; cases h
    | some a =>
     rw [hx] at h;simp only at h
     have key:∀ σ2,(∀ src' dst' x' a' n' c',Op.convert src dst x=.convert src' dst' x'->evalT τ x'=.slice (some a') n' c'->n'≠0->loadN st σ a' n'≠none->loadN st σ2 a' n'=loadN st σ a' n')->(if n=0 then some [] else loadN st σ a n)≠none->(if n=0 then some [] else loadN st σ2 a n)=(if n=0 then some [] else loadN st σ a n):=by
      intro σ2 h3 hne
      by_cases h0:n=0
      ·rw [if_pos h0,if_pos h0]
      ·rw [if_neg h0,if_neg h0];rw [if_neg h0] at hne;exact h3 src dst x a n c rfl hx h0 hne
     split at h
     ·rename_i h4;simp only [h4];split at h
      ·rename_i l hl;simp only [Option.map_eq_some_iff,Prod.mk.injEq] at h;obtain ⟨ns,h5,rfl,rfl⟩:=h
       exact ⟨rfl,fun σ2 h3=>by rw [key σ2 h3 (by rw [hl]; simp),hl]; simp only [h5,Option.map_some]⟩
      ·cases h
     ·rename_i h4;simp only [h4];split at h
      ·rename_i l hl;simp only [Option.map_eq_some_iff,Prod.mk.injEq] at h;obtain ⟨ns,h5,rfl,rfl⟩:=h
       exact ⟨rfl,fun σ2 h3=>by rw [key σ2 h3 (by rw [hl]; simp),hl]; simp only [h5,Option.map_some]⟩
      ·cases h
     ·cases h
   all_goals (rw [hx] at h; cases h)
 ·cases h
end
end
end Go.AE
namespace Go.AE
open Go Go.RowKit
section
variable {P:Program}{w0:World}{st:AE.Stat}{call:CallA}{ops:Array Oper}{n:Nat}{o:Nat->Oper}{T:Nat->Array Value}{S:Nat->Heap}{c:List Nat}
def Lst (listed:Array Bool) (i:Nat):Prop:=listed.getD i false=true
theorem Rel.congr {ρ:Ren}{H H':HF}{w:World}(h:Rel w0 ρ H w) (e:∀ id blk,ρ id≠none->H' id=some blk->H id=some blk):Rel w0 ρ H' w :=
 ⟨h.below,h.dyn,fun id b base n blk e1 e2=>h.cont id b base n blk e1 (e id blk (by rw [e1]; simp) e2),
  fun i j b x y x' y' bi bj e1 e2 e3 e4=>h.inj i j b x y x' y' bi bj e1 e2 (e _ _ (by rw [e1]; simp) e3) (e _ _ (by rw [e2]; simp) e4)⟩
theorem Fr.congr {ρ ρ':Ren}{H0 H H':HF}{w w':World}(h:Fr ρ H0 w ρ' H w') (e:∀ id blk,ρ' id≠none->H' id=some blk->H id=some blk):Fr ρ H0 w ρ' H' w' :=
 ⟨h.size,h.fr,fun b ⟨id,x,y,blk,e1,e2⟩ hb=>h.img b ⟨id,x,y,blk,e1,e id blk (by rw [e1]; simp) e2⟩ hb⟩
theorem Fr.congr_left {ρ ρ':Ren}{H0 H0' H:HF}{w w':World}(h:Fr ρ H0 w ρ' H w') (e:∀ id blk,ρ id≠none->H0 id=some blk->H0' id=some blk):Fr ρ H0' w ρ' H w' :=
 ⟨h.size,fun b hb hi=>h.fr b hb fun ⟨id,x,y,blk,e1,e2⟩=>hi ⟨id,x,y,blk,e1,e id blk (by rw [e1]; simp) e2⟩,
  fun b hi hb=>let ⟨id,x,y,blk,e1,e2⟩:=h.img b hi hb; ⟨id,x,y,blk,e1,e id blk (by rw [e1]; simp) e2⟩⟩
theorem Reg.len (R:Reg P st call ops n o T S c) (hcall:RunOk P w0 call) {i:Nat}(hi:i<n):(S i).length<=(S (i+1)).length:=stepA_len hcall (R.step i hi)
theorem Reg.mono (R:Reg P st call ops n o T S c) (hcall:RunOk P w0 call) {i j:Nat}(hij:i<=j) (hj:j<=n):(S i).length<=(S j).length:=by
 induction j with
 | zero =>
      obtain rfl:i=0:=by omega
      exact Nat.le_refl _
 | succ j ih =>
  by_cases h:i=j+1
  ·rw [h]; exact Nat.le_refl _
  ·exact Nat.le_trans (ih (by omega) (by omega)) (R.len hcall (by omega))
theorem Reg.kinds (R:Reg P st call ops n o T S c) {i:Nat}(hi:i<n) {v:Value}{σ':Heap}(hc:cls (o i).op≠3) (hv:opA P st call (evalT (T i)) (o i) (S i)=some (v,σ')) :
  (σ'=S i/\Free P st call (T i) (o i) v)\/(cls (o i).op=1/\σ'=S i/\loadAtA P st (T i) (o i) (S i)=some v/\Loads P st call (T i) (o i) v)\/(cls (o i).op=2/\∃ b,σ'=S i++[b]/\News P st call (T i) (o i) v (S i).length b) \/
   (σ'=S i/\Reads P st call (T i) (o i) (S i) v/\∀ j,j<n->cls (o j).op=3->(j<i->ordA c j i=true)/\(i<j->ordA c i j=true)):=by
 have old:convOk P (o i).op=true->_:=fun h=>opA_cls h hc hv
 rcases R.cv i hi with h | ⟨h1,_,h4⟩
 ·rcases old h with h | h | h
  ·exact .inl h
  ·exact .inr (.inl h)
  ·exact .inr (.inr (.inl h))
 ·obtain ⟨h2,h3⟩:=opA_convS h1 hv;exact .inr (.inr (.inr ⟨h2,h3,h4⟩))
theorem Reg.quiet (R:Reg P st call ops n o T S c) {i:Nat}(hi:i<n) (h:cls (o i).op≠3\/Region.wanted (o i) (yielded ops (T i))=false):S (i+1)=S i\/∃ b,S (i+1)=S i++[b]:=by
 obtain ⟨_,⟨hw,v,hv,_⟩ | ⟨_,_,hs⟩⟩:=step_cases (R.step i hi)
 ·have hc:cls (o i).op≠3:=h.resolve_right (by rw [hw]; simp)
  rcases R.kinds hi hc hv with ⟨hs,_⟩ | ⟨_,hs,_⟩ | ⟨_,b,hs,_⟩ | ⟨hs,_⟩
  ·exact .inl hs
  ·exact .inl hs
  ·exact .inr ⟨b,hs⟩
  ·exact .inl hs
 ·exact .inl hs
theorem Reg.hp_quiet (R:Reg P st call ops n o T S c) {i:Nat}(hi:i<n) (h:cls (o i).op≠3\/Region.wanted (o i) (yielded ops (T i))=false) {id:Nat}(hid:id<(S i).length):hp (S (i+1)) id=hp (S i) id:=by
 rcases R.quiet hi h with e | ⟨b,e⟩
 ·rw [e]
 ·rw [e]; exact hp_old _ _ (by omega)
theorem Reg.adv (R:Reg P st call ops n o T S c) (hcall:RunOk P w0 call) {i j:Nat}(hij:i<=j) (hj:j<=n) (h:∀ k,i<=k->k<j->cls (o k).op≠3\/Region.wanted (o k) (yielded ops (T k))=false) {id:Nat}(hid:id<(S i).length):hp (S j) id=hp (S i) id:=by
 induction j with
 | zero =>
      obtain rfl:i=0:=by omega
      rfl
 | succ j ih =>
  by_cases e:i=j+1
  ·rw [e]
  ·rw [R.hp_quiet (by omega) (h j (by omega) (by omega)) (Nat.lt_of_lt_of_le hid (R.mono hcall (by omega) (by omega)))]
   exact ih (by omega) (by omega) fun k a b=>h k a (by omega)
theorem Reg.tsize (R:Reg P st call ops n o T S c):∀ m,m<=n->(T m).size=(T 0).size:=by
 intro m
 induction m with
 | zero=>intro _; rfl
 | succ m ih =>
  intro hm
  have:(T (m+1)).size=(T m).size:=by
   obtain ⟨_,⟨_,v,_,ht⟩ | ⟨_,ht,_⟩⟩:=step_cases (R.step m (by omega))
   ·rw [ht]; cases (o m).dst<;>simp [putT]
   ·rw [ht]; cases (o m).dst<;>simp [putT]
  rw [this,ih (by omega)]
theorem Reg.tkeep (R:Reg P st call ops n o T S c) {t:Nat}{i j:Nat}(hij:i<=j) (hj:j<=n) (h:∀ k,i<=k->k<j->(o k).dst≠some t):(T j)[t]?=(T i)[t]?:=by
 induction j with
 | zero =>
      obtain rfl:i=0:=by omega
      rfl
 | succ j ih =>
  by_cases e:i=j+1
  ·rw [e]
  ·have ih:=ih (by omega) (by omega) fun k a b=>h k a (by omega)
   rw [<- ih]
   have hne:=h j (by omega) (by omega)
   have key:∀ v,(putT (T j) (o j).dst v)[t]?=(T j)[t]?:=by
    intro v
    cases hd:(o j).dst with
    | none=>rfl
    | some d =>
     have:d≠t:=fun e=>hne (by rw [hd,e])
     simp [putT,Array.getElem?_setIfInBounds_ne this]
   obtain ⟨_,⟨_,v,_,ht⟩ | ⟨_,ht,_⟩⟩:=step_cases (R.step j (by omega))
   ·rw [ht]; exact key v
   ·rw [ht]; exact key undef
structure Inv (P:Program) (w0:World) (ops:Array Oper) (n:Nat) (o:Nat->Oper) (T:Nat->Array Value) (S:Nat->Heap) (ρ0:Ren) (wI:World) (aI:Act) (listed:Array Bool) (a:Act) (w:World) (ρ:Ren) (cur:HF) (r:Nat):Prop where
 hsz:listed.size=n
 dc:∀ i,i<n->Lst listed i->∀ k∈predsA (o i),Lst listed k
 r_le:r<=n
 ch:∀ i,i<n->cls (o i).op=3->(Lst listed i ↔ i<r)
 rel:Rel w0 ρ cur w
 c1:∀ id,id<(S r).length->ρ id≠none->cur id=hp (S r) id
 c2:∀ i,i<n->Lst listed i->r<=i->∀ id,(S i).length<=id->id<(S (i+1)).length->ρ id≠none->cur id=hp (S (i+1)) id
 c4:∀ id,(S n).length<=id->cur id=none
 mp:∀ id,ρ id≠none->id<(S 0).length\/(S n).length<=id\/∃ i,i<n/\Lst listed i/\(S i).length<=id/\id<(S (i+1)).length
 ext:Ext ρ0 ρ (S 0).length (S n).length
 fr:Fr ρ0 (hp (S 0)) wI ρ cur w
 tsz:a.tmps.size=(T 0).size
 tmp:∀ t m,m<=n->(∀ i,i<n->(o i).dst=some t->(Lst listed i ↔ i<m))->∀ v,(T m)[t]?=some v->∃ v',a.tmps[t]?=some v'/\VR ρ v v'
 dfr:a.defers=aI.defers
variable {ρ0:Ren}{wI:World}{aI:Act}{listed:Array Bool}{a:Act}{w:World}{ρ:Ren}{cur:HF}{r:Nat}
theorem lst_set {i k:Nat}(hi:i<listed.size):Lst (listed.setIfInBounds i true) k ↔ k=i\/Lst listed k:=by
 unfold Lst
 by_cases h:i=k
 ·subst h;simp [hi]
 ·rw [getD_set_ne false h]
  exact ⟨fun x=>.inr x,fun x=>x.resolve_left (fun e=>h e.symm)⟩
theorem Inv.next (R:Reg P st call ops n o T S c) (_hcall:RunOk P w0 call) (I:Inv P w0 ops n o T S ρ0 wI aI listed a w ρ cur r) {i:Nat}(hi:i<n) (hun:¬ Lst listed i) (hrd:∀ k∈predsA (o i),Lst listed k)
  {v v':Value}{w1:World}{ρ1:Ren}{cur1:HF}(hrel:Rel w0 ρ1 cur1 w1) (hle:ρ.le ρ1) (hext:Ext ρ ρ1 (S 0).length (S n).length) (hmp:∀ id,ρ1 id≠none->ρ id≠none\/((S i).length<=id/\id<(S (i+1)).length)) (hfr:Fr ρ cur w ρ1 cur1 w1)
  (hv:VR ρ1 v v') (hT:T (i+1)=putT (T i) (o i).dst v)
  (h1:∀ id,id<(S (if cls (o i).op=3 then i+1 else r)).length->ρ1 id≠none->cur1 id=hp (S (if cls (o i).op=3 then i+1 else r)) id)
  (h2:∀ k,k<n->(k=i\/Lst listed k)->(if cls (o i).op=3 then i+1 else r)<=k->∀ id,(S k).length<=id->id<(S (k+1)).length->ρ1 id≠none->cur1 id=hp (S (k+1)) id)
  (h4:∀ id,(S n).length<=id->cur1 id=none) :
  Inv P w0 ops n o T S ρ0 wI aI (listed.setIfInBounds i true) (a.put (o i).dst v') w1 ρ1 cur1 (if cls (o i).op=3 then i+1 else r):=by
 have hi':i<listed.size:=by rw [I.hsz]; exact hi
 have hclo:∀ j,j<n->Lst listed j->∀ k,ordA c k j=true->Lst listed k:=fun j hj hl=>R.closed (L:=Lst listed) I.dc j hj (I.dc j hj hl)
 have hcli:∀ k,ordA c k i=true->Lst listed k:=R.closed (L:=Lst listed) I.dc i hi hrd
 refine ⟨by simp [I.hsz],?_,?_,?_,hrel,h1,?_,h4,?_,?_,I.fr.trans hfr,?_,?_,?_⟩
 ·intro k hk hl q hq;rw [lst_set hi'] at hl ⊢
  rcases hl with rfl | hl
  ·exact .inr (hrd q hq)
  ·exact .inr (I.dc k hk hl q hq)
 ·split
  ·omega
  ·exact I.r_le
 ·intro k hk ck;rw [lst_set hi'];split
  ·rename_i ci
   constructor
   ·rintro (rfl | hl)
    ·omega
    ·rcases Nat.lt_or_ge i k with h | h
     ·exact absurd (hclo k hk hl i (R.chain i k h hk ci ck)) hun
     ·omega
   ·intro h
    rcases Nat.lt_or_ge k i with h' | h'
    ·exact .inr (hcli k (R.chain k i h' hi ck ci))
    ·exact .inl (by omega)
  ·rename_i ci;rw [<- I.ch k hk ck]
   exact ⟨fun h=>h.resolve_left (fun e=>ci (e ▸ ck)),.inr⟩
 ·intro k hk hl;rw [lst_set hi'] at hl;exact h2 k hk hl
 ·intro id hid
  rcases hmp id hid with h | h
  ·rcases I.mp id h with h | h | ⟨k,hk,hl,hx⟩
   ·exact .inl h
   ·exact .inr (.inl h)
   ·exact .inr (.inr ⟨k,hk,by rw [lst_set hi']; exact .inr hl,hx⟩)
  ·exact .inr (.inr ⟨i,hi,by rw [lst_set hi']; exact .inl rfl,h⟩)
 ·intro id hid;exact (hext id hid).trans (I.ext id hid)
 ·rw [<- I.tsz]
  cases (o i).dst<;>simp [Act.put]
 ·intro t m hm hwr u hu
  by_cases hd:(o i).dst=some t
  ·have him:i<m:=(hwr i hi hd).1 (by rw [lst_set hi']; exact .inl rfl)
   have hno:∀ k,i+1<=k->k<m->(o k).dst≠some t:=by
    intro k h1 h2 hk
    have hl:=(hwr k (by omega) hk).2 h2
    rw [lst_set hi'] at hl
    have hl:=hl.resolve_left (by omega)
    rcases R.tmp i k (by omega) (by omega) with ⟨ha,_⟩ | ho
    ·exact (Oper.apart_spec ha).2.1 t hd hk
    ·exact hun (hclo k (by omega) hl i ho)
   rw [R.tkeep him hm hno,hT] at hu
   have hlt:t<(T i).size:=by
    have:=(Array.getElem?_eq_some_iff.1 hu).1;rw [hd] at this
    simpa [putT] using this
   have eu:u=v:=by
    rw [hd] at hu;simp [putT,hlt] at hu;exact hu.symm
   subst eu;refine ⟨v',?_,hv⟩
   have hlt':t<a.tmps.size:=by rw [I.tsz,<- R.tsize i (by omega)]; exact hlt
   rw [hd];simp [Act.put,hlt']
  ·have hwr':∀ k,k<n->(o k).dst=some t->(Lst listed k ↔ k<m):=by
    intro k hk hkd;rw [<- hwr k hk hkd,lst_set hi']
    exact ⟨.inr,fun h=>h.resolve_left (fun e=>hd (e ▸ hkd))⟩
   obtain ⟨u',h5,h6⟩:=I.tmp t m hm hwr' u hu;refine ⟨u',?_,h6.mono hle⟩
   cases hdd:(o i).dst with
   | none=>exact h5
   | some d =>
    have:d≠t:=fun e=>hd (by rw [hdd,e])
    simp [Act.put,Array.getElem?_setIfInBounds_ne this,h5]
 ·rw [<- I.dfr]
  cases (o i).dst<;>rfl
theorem Inv.looks (R:Reg P st call ops n o T S c) (I:Inv P w0 ops n o T S ρ0 wI aI listed a w ρ cur r) {i:Nat}(hi:i<n) (hun:¬ Lst listed i) (hrd:∀ k∈predsA (o i),Lst listed k) {t:Nat}
  (ht:t∈(o i).looksAt ops):∀ v,(T i)[t]?=some v->∃ v',a.tmps[t]?=some v'/\VR ρ v v':=by
 refine I.tmp t i (by omega) fun k hk hd=>?_
 rcases Nat.lt_trichotomy k i with h | h | h
 ·refine ⟨fun _=>h,fun _=>?_⟩
  rcases R.tmp k i h hi with ⟨ha,_⟩ | ho
  ·exact absurd ht ((Oper.apart_spec ha).1 t hd)
  ·exact R.closed (L:=Lst listed) I.dc i hi hrd k ho
 ·subst h
  exact ⟨fun h=>absurd h hun,fun h=>by omega⟩
 ·refine ⟨fun hl=>?_,fun h'=>by omega⟩
  rcases R.tmp i k h hk with ⟨ha,_⟩ | ho
  ·exact absurd ht ((Oper.apart_spec ha).2.2 t hd)
  ·exact absurd (R.closed (L:=Lst listed) I.dc k hk (I.dc k hk hl) i ho) hun
theorem evalT_looks {τ:Array Value}{x:Operand}(hs:τ.size=a.tmps.size) (h:∀ t,x=.tmp t->∀ v,τ[t]?=some v->∃ v',a.tmps[t]?=some v'/\VR ρ v v') (hx:∀ v,x=.const v->flat v=true):VR ρ (evalT τ x) (a.eval x):=by
 cases x with
 | tmp t =>
  simp only [evalT,Act.eval]
  by_cases ht:t<τ.size
  ·obtain ⟨v',h1,h2⟩:=h t rfl _ (Array.getElem?_eq_getElem ht);rw [Array.getD_eq_getD_getElem?,Array.getD_eq_getD_getElem?,Array.getElem?_eq_getElem ht,h1];exact h2
  ·have ht':¬ t<a.tmps.size:=by rw [<- hs]; exact ht
   rw [Array.getD_eq_getD_getElem?,Array.getD_eq_getD_getElem?,Array.getElem?_eq_none (Nat.le_of_not_lt ht),Array.getElem?_eq_none (Nat.le_of_not_lt ht')];exact flat_VR ρ rfl
 | const v=>exact flat_VR ρ (hx v rfl)
 | global g=>exact .ptr _ _ ⟨rfl,.inl ⟨0,rfl,rfl,rfl⟩⟩
 | func f=>exact .func _ _ _ _ _ rfl rfl (fun i v v' hv=>by simp at hv) (fun i v v' hv=>by simp at hv)
theorem guard_looks {x:Oper}{τ τ':Array Value}(hs:τ.size=τ'.size) (h:∀ t∈x.looksAt ops,∀ v,τ[t]?=some v->∃ v',τ'[t]?=some v'/\VR ρ v v') (hg:guardOk ops x τ=true) :
  Region.wanted x (yielded ops τ')=Region.wanted x (yielded ops τ):=by
 unfold guardOk at hg;unfold Region.wanted
 cases hgd:x.guard with
 | none=>rfl
 | some p =>
  obtain ⟨j,want⟩:=p;simp only [hgd] at hg ⊢
  congr 1
  unfold yielded
  cases hd:(ops[j]?).bind (·.dst) with
  | none=>rfl
  | some d =>
   have hin:d∈x.looksAt ops:=by
    unfold Oper.looksAt;rw [hgd];simp [hd]
   simp only [hd,Option.bind_some] at hg ⊢
   cases hv:τ[d]? with
   | none =>
    have:τ'[d]?=none:=by
     rw [Array.getElem?_eq_none_iff] at hv ⊢
     rw [<- hs]; exact hv
    rw [this]
   | some v =>
    obtain ⟨v',hv',hr⟩:=h d hin v hv;rw [hv'];rw [hv] at hg
    cases hr<;>first | rfl | simp at hg
theorem Inv.at (R:Reg P st call ops n o T S c) (hcall:RunOk P w0 call) (I:Inv P w0 ops n o T S ρ0 wI aI listed a w ρ cur r) {i:Nat}(hi:i<=n) (hr:r<=i) (hch:∀ k,k<i->cls (o k).op=3->Lst listed k) :
  ∀ id,id<(S i).length->ρ id≠none->cur id=hp (S i) id:=by
 have hno:∀ k,r<=k->k<i->cls (o k).op≠3\/Region.wanted (o k) (yielded ops (T k))=false:=by
  intro k h1 h2
  refine .inl fun hc=>?_
  have:=(I.ch k (by omega) hc).1 (hch k h2 hc)
  omega
 intro id hid hm
 by_cases h:id<(S r).length
 ·rw [I.c1 id h hm,R.adv hcall hr hi hno h]
 ·rcases I.mp id hm with h1 | h1 | ⟨k,hk,hl,h1,h2⟩
  ·have:=R.mono hcall (Nat.zero_le r) I.r_le;omega
  ·have:=R.mono hcall hi (Nat.le_refl n);omega
  ·have hki:k<i:=by
    rcases Nat.lt_or_ge k i with h3 | h3
    ·exact h3
    ·have:=R.mono hcall h3 (by omega)
     omega
   have hrk:r<=k:=by
    rcases Nat.lt_or_ge k r with h3 | h3
    ·have:=R.mono hcall (Nat.succ_le_of_lt h3) I.r_le;simp only [Nat.succ_eq_add_one] at this;omega
    ·exact h3
   rw [I.c2 k hk hl hrk id h1 h2 hm,R.adv hcall (Nat.succ_le_of_lt hki) hi (fun q a b=>hno q (by omega) b) h2]
def seen (ρ:Ren) (cur:HF) (N:Nat):Heap:=(List.range N).map fun id=>if (ρ id).isSome then cur id else none
theorem hp_seen (ρ:Ren) (cur:HF) (N id:Nat):hp (seen ρ cur N) id=if id<N/\ρ id≠none then cur id else none:=by
 unfold hp seen
 by_cases h:id<N
 ·cases hr:ρ id<;>simp [h,hr]
 ·simp [h]
theorem loadN_hp {σ σ':Heap}{x:Addr}{m:Nat}(h:x.spot=none->hp σ' x.block=hp σ x.block):loadN st σ' x m=loadN st σ x m:=by
 unfold loadN
 cases hs:x.spot with
 | some s=>rfl
 | none =>
  have h:=h hs;unfold hp at h;simp only
  cases h1:σ'[x.block]? with
  | none =>
   rw [h1] at h;simp only [Option.join_none] at h
   cases h2:σ[x.block]? with
   | none=>rfl
   | some b=>rw [h2] at h; cases b with
    | none=>rfl
    | some b=>simp at h
  | some b =>
   rw [h1] at h
   cases b with
   | none =>
    simp only [Option.join_some] at h
    cases h2:σ[x.block]? with
    | none=>rfl
    | some b=>rw [h2] at h; cases b with
     | none=>rfl
     | some b=>simp at h
   | some b =>
    simp only [Option.join_some] at h
    cases h2:σ[x.block]? with
    | none=>rw [h2] at h; simp at h
    | some b'=>rw [h2] at h; cases b' with
     | none=>simp at h
     | some b'=>simp only [Option.join_some,Option.some.injEq] at h; rw [h]
theorem loadV_hp {σ σ':Heap}{x:Addr}{t:TypeId}(h:x.spot=none->hp σ' x.block=hp σ x.block):loadV P st σ' t x=loadV P st σ t x:=by
 unfold loadV
 have key:∀ m,loadN st σ' x m=loadN st σ x m:=fun m=>loadN_hp h
 simp only [key]
theorem loadV_alive {σ:Heap}{x:Addr}{t:TypeId}{v:Value}(h:loadV P st σ t x=some v) (hs:x.spot=none):x.block<σ.length:=by
 unfold loadV loadN at h;rw [hs] at h
 rcases Nat.lt_or_ge x.block σ.length with hl | hl
 ·exact hl
 ·simp only [List.getElem?_eq_none hl] at h
  (repeat' split at h)<;>cases h
theorem Inv.loads (R:Reg P st call ops n o T S c) (hcall:RunOk P w0 call) (I:Inv P w0 ops n o T S ρ0 wI aI listed a w ρ cur r) {i:Nat}(hi:i<n) (hun:¬ Lst listed i) (hrd:∀ k∈predsA (o i),Lst listed k)
  (hc:cls (o i).op=1) (hw:Region.wanted (o i) (yielded ops (T i))=true) {v:Value}(hv:loadAtA P st (T i) (o i) (S i)=some v)
  (hmap:∀ t x y,(o i).op=.load t x->evalT (T i) x=.pointer (some y)->y.spot=none->ρ y.block≠none) :
  loadAtA P st (T i) (o i) (seen ρ cur (S n).length)=some v:=by
 have hbe:∀ k,k<n->Lst listed k->ordA c i k=false:=by
  intro k hk hl
  cases h:ordA c i k with
  | false=>rfl
  | true=>exact absurd (R.closed (L:=Lst listed) I.dc k hk (I.dc k hk hl) i h) hun
 have hbe2:∀ k,k<n->¬ Lst listed k->ordA c k i=false:=by
  intro k hk hl
  cases h:ordA c k i with
  | false=>rfl
  | true=>exact absurd (R.closed (L:=Lst listed) I.dc i hi hrd k h) hl
 have hlt:∀ j k,j<n->k<=j->ordA c j k=false:=by
  intro j k hj hkj
  cases h:ordA c j k with
  | false=>rfl
  | true=>have:=R.lt k (by omega) j h; omega
 unfold loadAtA at hv ⊢
 have hld:∀ k,k<n->cls (o k).op=3->Region.wanted (o k) (yielded ops (T k))=true->ordA c i k=false->ordA c k i=false->∀ t x y,(o i).op=.load t x->evalT (T i) x=.pointer (some y) ->
   loadV P st (S k) t y=loadV P st (S (k+1)) t y:=by
  intro k hk ck wk h1 h2 t x y ho hy;have h3:=R.ld i k hi hk hc hw ck wk h1 h2;unfold loadAtA at h3;simp only [ho,hy] at h3;exact h3
 split at hv
 ·rename_i t x ho
  (try simp only [ho])
  split at hv
  ·rename_i y hy
   (try simp only [hy])
   by_cases hsp:y.spot=none
   ·have hali:=loadV_alive hv hsp;have hm:=hmap t x y ho hy hsp
    have hN:y.block<(S n).length:=Nat.lt_of_lt_of_le hali (R.mono hcall (by omega) (Nat.le_refl n))
    -- the value at heap m, going down from i
    have down:∀ m,m<=i->y.block<(S m).length->(∀ k,m<=k->k<i->cls (o k).op=3->¬ Lst listed k)->loadV P st (S m) t y=some v:=by
     intro m hmi hbm hno
     have:∀ d m,m+d=i->y.block<(S m).length->(∀ k,m<=k->k<i->cls (o k).op=3->¬ Lst listed k)->loadV P st (S m) t y=some v:=by
      intro d
      induction d with
      | zero =>
           intro m hmd _ _; obtain rfl:m=i:=by omega
           exact hv
      | succ d ih =>
       intro m hmd hb hno
       have hmn:m<n:=by omega
       have ih:=ih (m+1) (by omega) (Nat.lt_of_lt_of_le hb (R.len hcall hmn)) fun k a b=>hno k (by omega) b
       by_cases hq:cls (o m).op≠3\/Region.wanted (o m) (yielded ops (T m))=false
       ·rw [<- ih]
        exact loadV_hp fun _=>(R.hp_quiet hmn hq hb).symm
       ·simp only [ne_eq,not_or,Decidable.not_not,Bool.not_eq_false] at hq
        rw [hld m hmn hq.1 hq.2 (hlt i m hi (by omega)) (hbe2 m hmn (hno m (Nat.le_refl _) (by omega) hq.1)) t x y ho hy]
        exact ih
     exact this (i-m) m (by omega) hbm hno
    by_cases hbr:y.block<(S r).length
    ·have hcur:hp (seen ρ cur (S n).length) y.block=hp (S r) y.block:=by
      rw [hp_seen,if_pos ⟨hN,hm⟩,I.c1 _ hbr hm]
     rw [loadV_hp fun _=>hcur]
     rcases Nat.lt_or_ge i r with hir | hir
     ·have up:∀ d m,i+d=m->m<=r->loadV P st (S m) t y=some v:=by
       intro d
       induction d with
       | zero =>
            intro m hmd _; obtain rfl:m=i:=by omega
            exact hv
       | succ d ih =>
        intro m hmd hmr
        obtain ⟨k,rfl⟩:∃ k,m=k+1:=⟨m-1,by omega⟩
        have hkn:k<n:=by have:=I.r_le; omega
        have ih:=ih k (by omega) (by omega)
        by_cases hq:cls (o k).op≠3\/Region.wanted (o k) (yielded ops (T k))=false
        ·rw [<- ih]
         exact loadV_hp fun _=>R.hp_quiet hkn hq (loadV_alive ih hsp)
        ·simp only [ne_eq,not_or,Decidable.not_not,Bool.not_eq_false] at hq
         have hkl:Lst listed k:=(I.ch k hkn hq.1).2 (by omega)
         rw [<- hld k hkn hq.1 hq.2 (hbe k hkn hkl) (hlt k i hkn (by omega)) t x y ho hy]
         exact ih
      exact up (r-i) r (by omega) (Nat.le_refl r)
     ·exact down r hir hbr fun k h1 h2 hck hl=>by have:=(I.ch k (by omega) hck).1 hl; omega
    ·have hir:r<=i:=by
      rcases Nat.lt_or_ge i r with h | h
      ·have:=R.mono hcall (Nat.le_of_lt h) I.r_le;omega
      ·exact h
     rcases I.mp y.block hm with h1 | h1 | ⟨k,hk,hl,h1,h2⟩
     ·have:=R.mono hcall (Nat.zero_le r) I.r_le;omega
     ·omega
     ·have hki:k<i:=by
       rcases Nat.lt_or_ge k i with h3 | h3
       ·exact h3
       ·have:=R.mono hcall h3 (by omega)
        omega
      have hrk:r<=k:=by
       rcases Nat.lt_or_ge k r with h3 | h3
       ·have:=R.mono hcall (Nat.succ_le_of_lt h3) I.r_le;simp only [Nat.succ_eq_add_one] at this;omega
       ·exact h3
      have hcur:hp (seen ρ cur (S n).length) y.block=hp (S (k+1)) y.block:=by
       rw [hp_seen,if_pos ⟨hN,hm⟩,I.c2 k hk hl hrk _ h1 h2 hm]
      rw [loadV_hp fun _=>hcur]
      exact down (k+1) (by omega) h2 fun q h3 h4 hcq hlq=>by have:=(I.ch q (by omega) hcq).1 hlq; omega
   ·rw [loadV_hp (σ:=S i) fun h=>absurd h hsp]
    exact hv
  ·cases hv
 ·cases hv
end
end Go.AE
