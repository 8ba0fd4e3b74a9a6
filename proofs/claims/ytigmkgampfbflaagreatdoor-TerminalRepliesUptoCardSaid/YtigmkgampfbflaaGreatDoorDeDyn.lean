/-
 The symbolic evaluator: a region whose order is open.
 Conditions: see the theorems.
-/
import Derived.Test.YtigmkgampfbflaaGreatDoorDeExec
namespace Go.DE
open Go Go.AE
section
variable {α:Type}{st:AE.Stat}{gl:Gl}{C:Cf}{μ:Mu}{σ:Heap}{σd:DHeap}{P:Program}{r:α}{τ:Array Value}{τd:List DV}
theorem loadN_congr {σ':Heap}{a:Addr}{n:Nat}(h:a.spot.isSome=true\/σ[a.block]?=σ'[a.block]?):loadN st σ a n=loadN st σ' a n:=by
 unfold loadN
 cases hs:a.spot with
 | some s=>rfl
 | none =>
  rcases h with h | h
  ·rw [hs] at h; cases h
  ·simp only [h]
theorem loadV_congr {σ':Heap}{t:TypeId}{a:Addr}(h:a.spot.isSome=true\/σ[a.block]?=σ'[a.block]?):loadV P st σ t a=loadV P st σ' t a:=by
 unfold loadV;simp only [loadN_congr h]
theorem readD_pf {t:Bool}{g:Nat->Nat->DV}{m n i f:Nat}:∀ {N j:Nat}{k:List DV->Option α},readD σd (.pf t g m n i f) N j k=some r->∀ j',j<=j'->j'<j+N->i+(f+j') / m<n
 | 0,j,k,h,j',h1,h2=>by omega
 | N+1,j,k,h,j',h1,h2=>by
  obtain ⟨hlt,h⟩:=dec_none h
  by_cases e:j'=j
  ·subst e; exact hlt
  ·exact readD_pf h j' (by omega) (by omega)
theorem pf_loadN {t:Bool}{g:Nat->Nat->DV}{m n i f N:Nat}{ad:Addr}(hp:DR C μ (.pf t g m n i f) (.pointer (some ad))) (hN:0<N) (hlt:∀ j',j'<N->i+(f+j') / m<n) :
  ∃ l:List Value,l.length=N/\∀ σ,(∀ o v,C t ad.block ad.spot o=some v->cellA st σ ⟨ad.block,0,ad.spot⟩ o=some v)->loadN st σ ad N=some l:=by
 obtain ⟨a,w,e,hk,hn,h1,h2⟩:=hp.pf_inv;simp only [Value.pointer.injEq,Option.some.injEq] at e;subst e
 refine ⟨(List.range N).map fun j=>w (i+(f+j) / m) ((f+j) % m),by simp,fun σ hσ=>loadN_intro hN (by simp) fun j v hv=>?_⟩
 rw [List.getElem?_map,Option.map_eq_some_iff] at hv;obtain ⟨j',hj',rfl⟩:=hv
 have hjN:j<N:=by have:=(List.getElem?_eq_some_iff.1 hj').1; simpa using this
 rw [List.getElem?_range hjN] at hj';obtain rfl:=Option.some.inj hj';have:=hσ _ _ (h1 _ _ (hlt j hjN) (Nat.mod_lt (f+j) hk)).1;have e2:=divmod_pos (i:=i) (f:=f) (j:=j) hk
 rw [show a.off+(i+(f+j) / m)*m+(f+j) % m=a.off+i*m+f+j by omega] at this
 exact this
theorem pf_load {t:Bool}{g:Nat->Nat->DV}{m n i f:Nat}{T:TypeId}{ad:Addr}{k:DV->Option α}(hp:DR C μ (.pf t g m n i f) (.pointer (some ad))) (h:loadD P σd T (.pf t g m n i f) k=some r) :
  ∃ v,∀ σ,(∀ o v,C t ad.block ad.spot o=some v->cellA st σ ⟨ad.block,0,ad.spot⟩ o=some v)->loadV P st σ T ad=some v:=by
 unfold loadD at h;split at h
 ·rename_i d hd;split at h
  ·rename_i hag;split at h
   ·rename_i n hn
    obtain ⟨l,_,hl⟩:=pf_loadN (st:=st) (N:=n+1) hp (Nat.succ_pos _) fun j' hj'=>readD_pf h j' (Nat.zero_le _) (by omega)
    refine ⟨.agg l.toArray,fun σ hσ=>?_⟩
    unfold loadV;simp only [hd,hag,if_true,hn];rw [show loadN st σ ad n.succ=some l from hl σ hσ];rfl
   ·cases h
  ·rename_i hag;obtain ⟨hlt,_⟩:=dec_none h
   have key:∀ j',j'<1->i+(f+j') / _<_:=fun j' hj'=>by
    obtain rfl:j'=0:=by omega
    exact hlt
   obtain ⟨l,hlen,hl⟩:=pf_loadN (st:=st) hp Nat.one_pos key
   match l,hlen,hl with
   | [v],_,hl =>
    refine ⟨v,fun σ hσ=>?_⟩
    unfold loadV;simp only [hd,hag,Bool.false_eq_true,if_false,hl σ hσ]
 ·cases h
theorem loadV_out {T:TypeId}{ad:Addr}(h0:ad.spot=none) (h1:σ.length<=ad.block):loadV P st σ T ad=none:=by
 have e:∀ n,loadN st σ ad n=none:=fun n=>by
  unfold loadN;rw [h0];simp only [List.getElem?_eq_none h1]
 unfold loadV;split
 ·split
  ·split
   ·rw [e]; rfl
   ·rfl
  ·rw [e]
 ·rfl
theorem op2_len {call:CallA}{o:Oper}{ev:Operand->Value}{σ':Heap}{v:Value}(hc:cls o.op=2) (h:opA P st call ev o σ=some (v,σ')):σ'.length=σ.length+1:=by
 have hcs:constsOk o.op=true:=by
  unfold opA at h;split at h
  ·assumption
  ·cases h
 cases hop:o.op
 all_goals (rw [hop] at hc)
 all_goals (first | (cases hc; done) | skip)
 case alloc e =>
  rw [opA_none hcs (peekA_peek fun u hu=>absurd hu (peek_alloc hop u)),hop] at h
  simp only [specA,Option.map_eq_some_iff,Prod.mk.injEq] at h;obtain ⟨z,_,_,rfl⟩:=h;simp [newB]
 case box t x =>
  rw [opA_none hcs (peekA_peek fun u hu=>absurd hu (peek_box hop u)),hop] at h
  simp only [specA,Option.some.injEq,Prod.mk.injEq] at h;obtain ⟨_,rfl⟩:=h;simp [newB]
 case buildSlice t len ps =>
  rw [opA_none hcs (peekA_peek fun u hu=>absurd hu (peek_buildSlice hop u)),hop] at h
  simp only [specA,buildSliceA] at h
  repeat' split at h
  all_goals first | (cases h; done) | skip
  simp only [Option.some.injEq,Prod.mk.injEq] at h;obtain ⟨_,rfl⟩:=h;simp [newB]
 case makeSlice t l c =>
  rw [opA_none hcs (peekA_peek fun u hu=>absurd hu (peek_makeSlice hop u)),hop] at h
  simp only [specA,makeSliceA] at h
  repeat' split at h
  all_goals first | (cases h; done) | skip
  simp only [Option.some.injEq,Prod.mk.injEq] at h;obtain ⟨_,rfl⟩:=h;simp [newB]
 case makeMap t q =>
  cases q with
  | some _=>cases hc
  | none =>
   rw [opA_none hcs (peekA_peek fun u hu=>absurd hu (peek_makeMap hop u)),hop] at h
   simp only [specA,Option.some.injEq,Prod.mk.injEq] at h;obtain ⟨_,rfl⟩:=h;simp
 case call c =>
  simp only [cls] at hc
  split at hc<;>cases hc
theorem storeV_other {σ':Heap}{t:TypeId}{a:Addr}{v:Value}(h:storeV P σ t a v=some σ') {b:Nat}(hb:b≠a.block):σ'[b]?=σ[b]?:=by
 unfold storeV storeN at h
 repeat' split at h
 all_goals first | (cases h; done) | skip
 obtain rfl:=Option.some.inj h
 rw [List.getElem?_set_ne (fun e=>hb e.symm)]
theorem opD_load {call:CallD α}{gl:Gl}{o:Oper}{T:TypeId}{a:Operand}{k:DV->DHeap->Option α}(hop:o.op=.load T a) (h:opD P call (evalDT gl τd) o σd k=some r):loadD P σd T (evalDT gl τd a) (fun d=>k d σd)=some r:=by
 obtain ⟨_,h⟩:=bif_none h;rw [hop] at h;simp only [direct,specD] at h;exact h
theorem opD_store {call:CallD α}{gl:Gl}{o:Oper}{T:TypeId}{a x:Operand}{k:DV->DHeap->Option α}(hop:o.op=.store T a x) (h:opD P call (evalDT gl τd) o σd k=some r):storeD P σd T (evalDT gl τd a) (evalDT gl τd x) (fun σd'=>k (.tup []) σd')=some r:=by
 obtain ⟨_,h⟩:=bif_none h;rw [hop] at h;simp only [direct,specD] at h;exact h
theorem dynD_ok {g:Bool}{call:CallD α}{pure:FuncId->Bool}{ops:Array Oper}{trd:List (List DV×DHeap)}{tra:List (Array Value×Heap)}{cs:List (Cf×Mu)}(T:Tr g P st gl pure call r ops ops.toList trd tra cs) (hd:dynD g pure gl ops trd=true):DynP P st ops tra:=by
 intro i j x y τi τj τk σi σj σk hx hy hti htj htk wi wj cy o1 o2
 have hi:i<ops.toList.length:=by simpa using (Array.getElem?_eq_some_iff.1 hx).1
 have hj:j<ops.toList.length:=by simpa using (Array.getElem?_eq_some_iff.1 hy).1
 have hx':ops.toList[i]?=some x:=by simpa using hx
 have hy':ops.toList[j]?=some y:=by simpa using hy
 obtain ⟨l1,l2,l3⟩:=And.intro T.len1 (And.intro T.len2 T.len3)
 obtain ⟨⟨di,si⟩,hdi⟩:∃ d,trd[i]?=some d:=⟨_,List.getElem?_eq_getElem (by omega)⟩
 obtain ⟨⟨dj,sj⟩,hdj⟩:∃ d,trd[j]?=some d:=⟨_,List.getElem?_eq_getElem (by omega)⟩
 obtain ⟨⟨dk,sk⟩,hdk⟩:∃ d,trd[j+1]?=some d:=⟨_,List.getElem?_eq_getElem (by omega)⟩
 obtain ⟨⟨Ci,μi⟩,hci⟩:∃ d,cs[i]?=some d:=⟨_,List.getElem?_eq_getElem (by omega)⟩
 obtain ⟨⟨Cj,μj⟩,hcj⟩:∃ d,cs[j]?=some d:=⟨_,List.getElem?_eq_getElem (by omega)⟩
 obtain ⟨⟨Ck,μk⟩,hck⟩:∃ d,cs[j+1]?=some d:=⟨_,List.getElem?_eq_getElem (by omega)⟩
 have ri:=T.rel i _ _ _ hdi hti hci;have rj:=T.rel j _ _ _ hdj htj hcj;have rk:=T.rel (j+1) _ _ _ hdk htk hck;simp only at ri rj rk;have xi:=T.op i x _ _ hx' hdi hti wi;have yj:=T.op j y _ _ hy' hdj htj wj;simp only at xi yj;obtain ⟨ki,xi⟩:=xi;obtain ⟨kj,yj⟩:=yj;have wdi:wantD ops x di=true:=wantD_of ri.T wi;have wdj:wantD ops y dj=true:=wantD_of rj.T wj
 have mi:(x,i)∈ops.toList.zipIdx:=by rw [List.mem_zipIdx_iff_getElem?]; simpa using hx
 have mj:(y,j)∈ops.toList.zipIdx:=by rw [List.mem_zipIdx_iff_getElem?]; simpa using hy
 have main:(cls x.op=1\/cls x.op=2)->(if cls x.op==1 then keepsD pure gl x di y dj sj (decide (i<j)||!g) else (decide (j<=i)||pureOp pure (evalDT gl dj) y))=true:=by
  intro hc;unfold dynD at hd;have h1:=List.all_eq_true.1 hd _ mi;simp only [hdi] at h1
  have hc':((cls x.op==1||cls x.op==2)&&wantD ops x di)=true:=by
   rw [wdi,Bool.and_true,Bool.or_eq_true,beq_iff_eq,beq_iff_eq];exact hc
  rw [if_pos hc'] at h1;have h2:=List.all_eq_true.1 h1 _ mj;simp only [hdj] at h2
  have hc2:(cls y.op==3&&wantD ops y dj&&!ordA (closeA ops.toList []) i j&&!ordA (closeA ops.toList []) j i)=true:=by
   rw [wdj,o1,o2,cy];rfl
  rw [if_pos hc2] at h2;exact h2
 refine ⟨fun hc=>?_,fun hc hij=>?_⟩
 ·have hk:=main (.inl hc)
  rw [if_pos (by simp [hc])] at hk
  unfold keepsD at hk
  split at hk<;>first | (cases hk; done) | skip
  rename_i T0 a hop;have hev:=ri.ev a;unfold loadAtA;simp only [hop]
  split at hk<;>first | (cases hk; done) | skip
  ·rename_i tg g m n i0 f e;rw [e] at hev;have hl:=opD_load hop xi;rw [e] at hl
   obtain ⟨a0,e0⟩:∃ a0,evalT τi a=.pointer (some a0):=by
    obtain ⟨q,_,e0,_⟩:=hev.pf_inv;exact ⟨_,e0⟩
   rw [e0] at hev;simp only [e0];obtain ⟨v,hv⟩:=pf_load (st:=st) hev hl
   have njk:=T.nx j (j+1) _ _ _ _ _ _ (by omega) hdj htj hcj hdk htk hck
   have key:(∀ o v,Ci tg a0.block a0.spot o=some v->Cj tg a0.block a0.spot o=some v)->loadV P st σj T0 a0=loadV P st σk T0 a0:=fun frj=>by
    rw [hv σj fun o v hcv=>rj.S.frz _ _ _ _ _ (frj o v hcv),hv σk fun o v hcv=>rk.S.frz _ _ _ _ _ (njk.hC _ _ _ _ _ (frj o v hcv))]
   rcases Nat.lt_or_ge i j with hij | hij
   ·exact key fun o v hcv=>(T.nx i j _ _ _ _ _ _ (by omega) hdi hti hci hdj htj hcj).hC _ _ _ _ _ hcv
   ·have nji:=T.nx j i _ _ _ _ _ _ hij hdj htj hcj hdi hti hci
    by_cases hB:a0.spot=none/\σj.length<=a0.block
    ·by_cases hK:σk.length<=a0.block
     ·rw [loadV_out hB.1 hB.2,loadV_out hB.1 hK]
     ·exfalso
      have hne:j≠i:=fun e=>by
       subst e;rw [hx] at hy;obtain rfl:=Option.some.inj hy;rw [hc] at cy;cases cy
      obtain ⟨q,qw,qe,q1,q2,q3,_⟩:=hev.pf_inv;simp only [Value.pointer.injEq,Option.some.injEq] at qe;have fact:=(q3 0 0 q2 q1).1
      have eb:a0.block=q.block:=by rw [qe]
      have es:a0.spot=q.spot:=by rw [qe]
      rw [<- eb,<- es,hB.1] at fact
      have nki:=T.nx (j+1) i _ _ _ _ _ _ (by omega) hdk htk hck hdi hti hci
      rcases nki.old _ _ _ _ _ fact with f1 | f1
      ·rw [decide_eq_false (show ¬ i<j by omega),Bool.false_or] at hk
       have:=rj.S.low _ _ _ _ ((T.one j _ _ _ _ _ _ hdj htj hcj hdk htk hck).one (by simpa using hk) _ _ _ _ _ f1)
       omega
      ·exact hK f1.2.2
    ·refine key fun o v hcv=>?_
     rcases nji.old _ _ _ _ _ hcv with f1 | f1
     ·exact f1
     ·exact absurd ⟨f1.2.1,f1.2.2⟩ hB
  ·rename_i id i0 f e;rw [e] at hev;obtain ⟨b,m,L,e0,hm,hk0⟩:=hev.po_inv;simp only [e0]
   split at hk<;>first | (cases hk; done) | skip
   rename_i blk hblk
   have hmj:∃ b0 L0 l0,μj id=some (b0,blk.k,L0)/\b0=b/\σj[b0]?=some (some (.cells l0)):=by
    obtain ⟨b0,L0,l0,q1,q2,q3,_⟩:=rj.S.own id blk hblk;refine ⟨b0,L0,l0,q1,?_,q3⟩
    rcases Nat.le_total i j with hij | hij
    ·have:=(T.nx i j _ _ _ _ _ _ hij hdi hti hci hdj htj hcj).hμ _ _ hm;simp only at this;rw [q1] at this;simp only [Option.some.injEq,Prod.mk.injEq] at this;exact this.1
    ·have:=(T.nx j i _ _ _ _ _ _ hij hdj htj hcj hdi hti hci).hμ _ _ q1;simp only at this;rw [hm] at this;simp only [Option.some.injEq,Prod.mk.injEq] at this;exact this.1.symm
   obtain ⟨b0,L0,l0,q1,rfl,q3⟩:=hmj;have hblt:=(List.getElem?_eq_some_iff.1 q3).1;refine loadV_congr (.inr ?_);show σj[b0]?=σk[b0]?
   rcases Bool.or_eq_true_iff.1 hk with hp | hs
   ·exact (T.pre j y _ _ _ hy' hdj htj htk wj hp b0 hblt).symm
   ·split at hs<;>first | (cases hs; done) | skip
    rename_i T1 b1 x1 hopy
    split at hs<;>first | (cases hs; done) | skip
    rename_i id' i1 f1 e1
    have hne:id≠id':=by simpa using hs
    have hst:=opD_store hopy yj;obtain ⟨ad,σ',σd',s1,s2,s3,s4,s5⟩:=storeD_some rj.S (rj.ev b1) (rj.ev x1) hst;have hevb:=rj.ev b1;rw [e1,s1] at hevb;obtain ⟨b2,m2,L2,e2,hm2,_⟩:=hevb.po_inv;simp only [Value.pointer.injEq,Option.some.injEq] at e2
    obtain ⟨blk',hblk'⟩:∃ blk',sj[id']?=some (some blk'):=by
     rw [e1] at hst;unfold storeD at hst;simp only at hst;split at hst
     ·exact ⟨_,by assumption⟩
     ·cases hst
    have hbb:b0≠b2:=by
     intro e;subst e;exact hne (rj.S.inj id id' _ _ _ _ _ hblk hblk' q1 hm2)
    obtain ⟨N,hN⟩:=T.step j y _ _ hy' htj htk;have hN:=hN N N (Nat.le_refl _) (Nat.le_refl _);obtain ⟨v2,hv2⟩:=step_op hN wj
    have hcs:constsOk y.op=true:=by
     simp only at hv2;unfold opA at hv2;split at hv2
     ·assumption
     ·cases hv2
    simp only at hv2
    rw [opA_none hcs (peekA_nonflat (x:=b1) (by rw [hopy]; simp [Op.operands]) (by rw [s1]; rfl)),hopy] at hv2
    simp only [specA,s1,Option.map_eq_some_iff,Prod.mk.injEq] at hv2;obtain ⟨σ2,hσ2,_,rfl⟩:=hv2
    exact (storeV_other hσ2 (by rw [e2]; exact hbb)).symm
 ·have hk:=main (.inr hc)
  rw [if_neg (by simp [hc])] at hk
  rcases Bool.or_eq_true_iff.1 hk with hle | hp
  ·have:=of_decide_eq_true hle; omega
  ·obtain ⟨ti,hti1⟩:∃ t,tra[i+1]?=some t:=⟨_,List.getElem?_eq_getElem (by omega)⟩
   obtain ⟨N,hN⟩:=T.step i x _ _ hx' hti hti1;obtain ⟨v2,hv2⟩:=step_op (hN N N (Nat.le_refl _) (Nat.le_refl _)) wi;have hl:=op2_len hc hv2
   obtain ⟨d1,hd1⟩:∃ d,trd[i+1]?=some d:=⟨_,List.getElem?_eq_getElem (by omega)⟩
   obtain ⟨c1,hc1⟩:∃ d,cs[i+1]?=some d:=⟨_,List.getElem?_eq_getElem (by omega)⟩
   have:=(T.nx (i+1) j _ _ _ _ _ _ (by omega) hd1 hti1 hc1 hdj htj hcj).len
   simp only at hl this
   exact (T.pre j y _ _ _ hy' hdj htj htk wj hp σi.length (by simp only; omega)).symm
def drawD (g:Bool) (P:Program) (call:CallD α) (pure:FuncId->Bool) (gl:Gl) (ops:Array Oper) (τ:List DV) (σ:DHeap) (k:List DV->DHeap->Option α):Option α :=
 bif staticP P ops then traceD P call gl ops ops.toList τ σ [] fun tr τ' σ'=>bif dynD g pure gl ops tr then k τ' σ' else none else none
theorem drawD_some {g:Bool}{call:CallD α}{pure:FuncId->Bool}{ops:Array Oper}(hcall:CallS g P st call) (hp:PureS P st call pure) {k:List DV->DHeap->Option α}(h:Rl st gl C μ τ σ τd σd) (hx:drawD g P call pure gl ops τd σd k=some r) :
  ∃ τ' σ' C' μ' τd' σd',Lim (fun n m=>drawA P st (runF P st n m) ops τ σ) (τ',σ')/\Rl st gl C' μ' τ' σ' τd' σd'/\Nx1 g C μ σ σd C' μ' σ' σd'/\k τd' σd'=some r:=by
 obtain ⟨hs,hx⟩:=bif_none hx;obtain ⟨trd,tra,cs,τ',σ',C',μ',τd',σd',T,_,_,_,⟨N,hN⟩,e4,h2,n2,hx⟩:=traceD_some hcall hp ops.toList h hx;obtain ⟨hd,hx⟩:=bif_none hx
 have hD:=dynD_ok T (by simpa using hd)
 refine ⟨τ',σ',C',μ',τd',σd',⟨N,fun n m hn hm=>?_⟩,h2,n2,hx⟩
 show drawA P st (runF P st n m) ops τ σ=_;unfold drawA;have hN':traceA P st (runF P st n m) ops ops.toList τ σ=some tra:=hN n m hn hm;rw [if_pos hs,hN']
 have hB:dynB P st ops tra=true:=by
  unfold dynB;rw [Bool.or_eq_true];exact .inr (@decide_eq_true _ (Classical.propDecidable _) hD)
 simp only [hB,if_true];have hl:=T.len2;rw [List.getLast?_eq_getElem?,hl]
 simpa using e4
end
end Go.DE
namespace Go.DE
open Go Go.AE
abbrev KD (α:Type):=Ex->List DV->DHeap->Option α
abbrev LoopD (α:Type):=List DV->DHeap->KD α->Option α
section
variable {α:Type}{st:AE.Stat}{gl:Gl}{C:Cf}{μ:Mu}{σ:Heap}{σd:DHeap}{P:Program}{r:α}{τ:Array Value}{τd:List DV}
def iterD (f:LoopD α):Nat->LoopD α
 | 0,_,_,_=>none
 | n+1,τ,σ,k=>f τ σ fun e τ' σ'=>match e with
  | .normal=>iterD f n τ' σ' k
  | .exit i=>k (.exit i) τ' σ'
  | .ret=>k .ret τ' σ'
def loopsL:Nat->Code->List (Nat×Code)
 | p,.seq a b=>(p,.seq a b) :: (loopsL (2*p) a++loopsL (2*p+1) b)
 | p,.cond c a b=>(p,.cond c a b) :: (loopsL (2*p) a++loopsL (2*p+1) b)
 | p,.block i a=>(p,.block i a) :: loopsL (2*p) a
 | p,.loop a=>(p,.loop a) :: loopsL (2*p) a
 | p,.scope a=>loopsL p a
 | _,_=>[]
structure Env (α:Type) where
 call:CallD α
 pure:FuncId->Bool
 gl:Gl
 lp:Nat->Option (LoopD α)
 n:Nat
 mg:Nat->Option (Code->Code->Bool->LoopD α)
 gz:Bool:=false
def execD (P:Program) (E:Env α):Code->Nat->LoopD α
 | .skip=>fun _ τ σ k=>k .normal τ σ
 | .label _=>fun _ τ σ k=>k .normal τ σ
 | .region _ ops draw=>fun _ τ σ k=>match draw with
  | true=>drawD E.gz P E.call E.pure E.gl ops τ σ fun τ' σ'=>k .normal τ' σ'
  | false=>runLD P E.call E.gl ops ops.toList τ σ fun τ' σ'=>k .normal τ' σ'
 | .seq a b=>fun p τ σ k=>match E.lp p with
  | some g=>g τ σ k
  | none=>execD P E a (2*p) τ σ fun e τ' σ'=>match e with
   | .normal=>execD P E b (2*p+1) τ' σ' k
   | .exit i=>k (.exit i) τ' σ'
   | .ret=>k .ret τ' σ'
 | .cond c a b=>fun p τ σ k=>match E.lp p with
  | some g=>g τ σ k
  | none=>match evalDT E.gl τ c with
   | .v (.bool t)=>match E.mg p with
    | some M=>M a b t τ σ k
    | none=>bif t then execD P E a (2*p) τ σ k else execD P E b (2*p+1) τ σ k
   | _=>none
 | .block id a=>fun p τ σ k=>match E.lp p with
  | some g=>g τ σ k
  | none=>execD P E a (2*p) τ σ fun e τ' σ'=>match e with
   | .normal=>k .normal τ' σ'
   | .exit i=>match Nat.beq i id with
    | true=>k .normal τ' σ'
    | false=>k (.exit i) τ' σ'
   | .ret=>k .ret τ' σ'
 | .loop a=>fun p τ σ k=>match E.lp p with
  | some g=>g τ σ k
  | none=>iterD (execD P E a (2*p)) E.n τ σ k
 | .scope a=>fun p τ σ k=>execD P E a p τ σ k
 | .exit id=>fun _ τ σ k=>k (.exit id) τ σ
 | .ret=>fun _ τ σ k=>k .ret τ σ
 | _=>fun _ _ _ _=>none
def LoopSR (z:Bool) (P:Program) (st:AE.Stat) (gl:Gl) (c:Code) (g:LoopD α):Prop :=
 ∀ τd σd k r,g τd σd k=some r->∀ C μ τ σ,Rl st gl C μ τ σ τd σd->TResR z st gl C μ σ σd (fun n m=>execA P st (runF P st n m) n c τ σ) k r
abbrev LoopS (P:Program) (st:AE.Stat) (gl:Gl) (c:Code) (g:LoopD α):Prop:=LoopSR false P st gl c g
def JoinS (P:Program) (st:AE.Stat) (gl:Gl) (M:Code->Code->Bool->LoopD α):Prop :=
 ∀ a b t τd σd k r,M a b t τd σd k=some r->∀ C μ τ σ,Rl st gl C μ τ σ τd σd->TRes st gl C μ σ σd (fun n m=>if t=true then execA P st (runF P st n m) n a τ σ else execA P st (runF P st n m) n b τ σ) k r
structure EnvOk (P:Program) (st:AE.Stat) (E:Env α):Prop where
 call:CallS E.gz P st E.call
 pure:PureS P st E.call E.pure
 mg:∀ p M,E.mg p=some M->JoinS P st E.gl M
theorem TRes.now {z:Bool}{β:Type}{F:Nat->Nat->Option (β×Array Value×Heap)}{k:β->List DV->DHeap->Option α}{e:β}(h:Rl st gl C μ τ σ τd σd) (hF:∀ n m,F n m=some (e,τ,σ)) (hk:k e τd σd=some r):TResR z st gl C μ σ σd F k r :=
 ⟨e,τ,σ,C,μ,τd,σd,.const hF,h,(NRel.b z).of (Nx.refl _ _ _ _).one,hk⟩
theorem iterD_some {z:Bool}{f:LoopD α}{c:Code}{k:KD α}(hf:∀ {C μ τ σ τd σd} {k:KD α},Rl st gl C μ τ σ τd σd->f τd σd k=some r->TResR z st gl C μ σ σd (fun n m=>execA P st (runF P st n m) n c τ σ) k r) :
  ∀ (j:Nat) {C μ τ σ τd σd},Rl st gl C μ τ σ τd σd->iterD f j τd σd k=some r->∃ e τ' σ' C' μ' τd' σd',(∃ N,∀ n m q,N<=n->N<=m->j<=q->iterA (execA P st (runF P st n m) n c) q τ σ=some (e,τ',σ'))/\Rl st gl C' μ' τ' σ' τd' σd'/\(NRel.b z).N C μ σ σd C' μ' σ' σd'/\k e τd' σd'=some r
 | 0,C,μ,τ,σ,τd,σd,h,hx=>by simp [iterD] at hx
 | j+1,C,μ,τ,σ,τd,σd,h,hx=>by
  obtain ⟨e,τ1,σ1,C1,μ1,τd1,σd1,⟨N,hN⟩,h1,n1,hx⟩:=hf h hx
  have step:∀ n m q,N<=n->N<=m->iterA (execA P st (runF P st n m) n c) (q+1) τ σ=match e with
    | .normal=>iterA (execA P st (runF P st n m) n c) q τ1 σ1
    | .exit i=>some (.exit i,τ1,σ1)
    | .ret=>some (.ret,τ1,σ1):=by
   intro n m q hn hm;have hN':execA P st (runF P st n m) n c τ σ=some (e,τ1,σ1):=hN n m hn hm;simp only [iterA,hN']
   cases e<;>rfl
  cases e with
  | normal =>
   obtain ⟨e2,τ2,σ2,C2,μ2,τd2,σd2,⟨M,hM⟩,h2,n2,hx⟩:=iterD_some hf j h1 hx
   refine ⟨e2,τ2,σ2,C2,μ2,τd2,σd2,⟨max N M,fun n m q hn hm hq=>?_⟩,h2,(NRel.b z).tr n1 n2,hx⟩
   obtain ⟨q,rfl⟩:∃ q',q=q'+1:=⟨q-1,by omega⟩
   rw [step n m q (by omega) (by omega)]
   exact hM n m q (by omega) (by omega) (by omega)
  | exit i =>
   refine ⟨_,τ1,σ1,C1,μ1,τd1,σd1,⟨N,fun n m q hn hm hq=>?_⟩,h1,n1,hx⟩
   obtain ⟨q,rfl⟩:∃ q',q=q'+1:=⟨q-1,by omega⟩
   rw [step n m q hn hm]
  | ret =>
   refine ⟨_,τ1,σ1,C1,μ1,τd1,σd1,⟨N,fun n m q hn hm hq=>?_⟩,h1,n1,hx⟩
   obtain ⟨q,rfl⟩:∃ q',q=q'+1:=⟨q-1,by omega⟩
   rw [step n m q hn hm]
theorem execD_some {E:Env α}(hE:EnvOk P st E):∀ (c:Code) (p:Nat),(∀ x∈loopsL p c,∀ g,E.lp x.1=some g->LoopSR E.gz P st E.gl x.2 g) ->
  ∀ {C μ τ σ τd σd} {k:KD α},Rl st E.gl C μ τ σ τd σd->execD P E c p τd σd k=some r->TResR E.gz st E.gl C μ σ σd (fun n m=>execA P st (runF P st n m) n c τ σ) k r:=by
 intro c
 induction c with
 | skip=>intro p _ C μ τ σ τd σd k h hx; exact TRes.now h (fun _ _=>rfl) hx
 | label l=>intro p _ C μ τ σ τd σd k h hx; exact TRes.now h (fun _ _=>rfl) hx
 | exit id=>intro p _ C μ τ σ τd σd k h hx; exact TRes.now h (fun _ _=>rfl) hx
 | ret=>intro p _ C μ τ σ τd σd k h hx; exact TRes.now h (fun _ _=>rfl) hx
 | region id ops draw =>
  intro p _ C μ τ σ τd σd k h hx;simp only [execD] at hx
  cases draw with
  | true =>
   obtain ⟨τ',σ',C',μ',τd',σd',⟨N,hN⟩,h1,n1,hx⟩:=drawD_some hE.call hE.pure h hx
   refine ⟨.normal,τ',σ',C',μ',τd',σd',⟨N,fun n m hn hm=>?_⟩,h1,(NRel.b E.gz).of n1,hx⟩
   have hN':drawA P st (runF P st n m) ops τ σ=some (τ',σ'):=hN n m hn hm;simp only [execA,if_true,hN']
  | false =>
   obtain ⟨τ',σ',C',μ',τd',σd',⟨N,hN⟩,h1,n1,hx⟩:=runLD_some hE.call _ h hx
   refine ⟨.normal,τ',σ',C',μ',τd',σd',⟨N,fun n m hn hm=>?_⟩,h1,(NRel.b E.gz).of n1,hx⟩
   have hN':runA P st (runF P st n m) ops ops.toList τ σ=some (τ',σ'):=hN n m hn hm;simp only [execA,Bool.false_eq_true,if_false,hN']
 | seq a b iha ihb =>
  intro p hl C μ τ σ τd σd k h hx;simp only [execD] at hx;split at hx
  ·rename_i g hg
   exact hl (p,.seq a b) (by simp [loopsL]) g hg τd σd k r hx C μ τ σ h
  obtain ⟨e,τ1,σ1,C1,μ1,τd1,σd1,⟨N,hN⟩,h1,n1,hx⟩:=iha (2*p) (fun x hm=>hl x (by simp [loopsL,hm])) h hx
  cases e with
  | normal =>
   obtain ⟨e2,τ2,σ2,C2,μ2,τd2,σd2,⟨M,hM⟩,h2,n2,hx⟩:=ihb (2*p+1) (fun x hm=>hl x (by simp [loopsL,hm])) h1 hx
   refine ⟨e2,τ2,σ2,C2,μ2,τd2,σd2,⟨max N M,fun n m hn hm=>?_⟩,h2,(NRel.b E.gz).tr n1 n2,hx⟩
   have hN':execA P st (runF P st n m) n a τ σ=some (.normal,τ1,σ1):=hN n m (by omega) (by omega)
   have hM':execA P st (runF P st n m) n b τ1 σ1=some (e2,τ2,σ2):=hM n m (by omega) (by omega)
   simp only [execA,hN',hM']
  | exit i =>
   refine ⟨_,τ1,σ1,C1,μ1,τd1,σd1,⟨N,fun n m hn hm=>?_⟩,h1,n1,hx⟩
   have hN':execA P st (runF P st n m) n a τ σ=some (.exit i,τ1,σ1):=hN n m hn hm;simp only [execA,hN']
  | ret =>
   refine ⟨_,τ1,σ1,C1,μ1,τd1,σd1,⟨N,fun n m hn hm=>?_⟩,h1,n1,hx⟩
   have hN':execA P st (runF P st n m) n a τ σ=some (.ret,τ1,σ1):=hN n m hn hm;simp only [execA,hN']
 | cond c a b iha ihb =>
  intro p hl C μ τ σ τd σd k h hx;simp only [execD] at hx;split at hx
  ·rename_i g hg
   exact hl (p,.cond c a b) (by simp [loopsL]) g hg τd σd k r hx C μ τ σ h
  split at hx<;>first | (cases hx; done) | skip
  rename_i t ht;have hev:=h.ev c;rw [ht] at hev
  have hc:evalT τ c=.bool t:=by
   generalize evalT τ c=u at hev;cases hev;rfl
  split at hx
  ·rename_i M hM;obtain ⟨e1,τ1,σ1,C1,μ1,τd1,σd1,⟨N,hN⟩,h1,n1,hx⟩:=hE.mg p M hM a b t τd σd k r hx C μ τ σ h
   refine ⟨e1,τ1,σ1,C1,μ1,τd1,σd1,⟨N,fun n m hn hm=>?_⟩,h1,(NRel.b E.gz).of ⟨(show Nx1 false _ _ _ _ _ _ _ _ from n1).toNx,fun _=>(show Nx1 false _ _ _ _ _ _ _ _ from n1).one rfl⟩,hx⟩
   simp only [execA,hc];exact hN n m hn hm
  cases t with
  | true =>
   obtain ⟨e1,τ1,σ1,C1,μ1,τd1,σd1,⟨N,hN⟩,h1,n1,hx⟩:=iha (2*p) (fun x hm=>hl x (by simp [loopsL,hm])) h hx
   refine ⟨e1,τ1,σ1,C1,μ1,τd1,σd1,⟨N,fun n m hn hm=>?_⟩,h1,n1,hx⟩
   simp only [execA,hc,if_true];exact hN n m hn hm
  | false =>
   obtain ⟨e1,τ1,σ1,C1,μ1,τd1,σd1,⟨N,hN⟩,h1,n1,hx⟩:=ihb (2*p+1) (fun x hm=>hl x (by simp [loopsL,hm])) h hx
   refine ⟨e1,τ1,σ1,C1,μ1,τd1,σd1,⟨N,fun n m hn hm=>?_⟩,h1,n1,hx⟩
   simp only [execA,hc,Bool.false_eq_true,if_false];exact hN n m hn hm
 | block id a iha =>
  intro p hl C μ τ σ τd σd k h hx;simp only [execD] at hx;split at hx
  ·rename_i g hg
   exact hl (p,.block id a) (by simp [loopsL]) g hg τd σd k r hx C μ τ σ h
  obtain ⟨e,τ1,σ1,C1,μ1,τd1,σd1,⟨N,hN⟩,h1,n1,hx⟩:=iha (2*p) (fun x hm=>hl x (by simp [loopsL,hm])) h hx
  cases e with
  | normal =>
   refine ⟨_,τ1,σ1,C1,μ1,τd1,σd1,⟨N,fun n m hn hm=>?_⟩,h1,n1,hx⟩
   have hN':execA P st (runF P st n m) n a τ σ=some (.normal,τ1,σ1):=hN n m hn hm;simp only [execA,hN']
  | exit i =>
   simp only at hx;split at hx
   ·rename_i he;have he:i=id:=Nat.eq_of_beq_eq_true he
    refine ⟨_,τ1,σ1,C1,μ1,τd1,σd1,⟨N,fun n m hn hm=>?_⟩,h1,n1,hx⟩
    have hN':execA P st (runF P st n m) n a τ σ=some (.exit i,τ1,σ1):=hN n m hn hm;simp only [execA,hN',he,if_true]
   ·rename_i he;have he:i≠id:=Nat.ne_of_beq_eq_false he
    refine ⟨_,τ1,σ1,C1,μ1,τd1,σd1,⟨N,fun n m hn hm=>?_⟩,h1,n1,hx⟩
    have hN':execA P st (runF P st n m) n a τ σ=some (.exit i,τ1,σ1):=hN n m hn hm;simp only [execA,hN',he,if_false]
  | ret =>
   refine ⟨_,τ1,σ1,C1,μ1,τd1,σd1,⟨N,fun n m hn hm=>?_⟩,h1,n1,hx⟩
   have hN':execA P st (runF P st n m) n a τ σ=some (.ret,τ1,σ1):=hN n m hn hm;simp only [execA,hN']
 | loop a iha =>
  intro p hl C μ τ σ τd σd k h hx;simp only [execD] at hx;split at hx
  ·rename_i g hg
   exact hl (p,.loop a) (by simp [loopsL]) g hg τd σd k r hx C μ τ σ h
  ·obtain ⟨e,τ',σ',C',μ',τd',σd',⟨N,hN⟩,h1,n1,hx⟩:=iterD_some (P:=P) (c:=a) (fun h hx=>iha (2*p) (fun x hm=>hl x (by simp [loopsL,hm])) h hx) E.n h hx
   refine ⟨e,τ',σ',C',μ',τd',σd',⟨max N E.n,fun n m hn hm=>?_⟩,h1,n1,hx⟩
   exact hN n m n (by omega) (by omega) (by omega)
 | rangeFunc f ps as b _ _=>intro p hl C μ τ σ τd σd k h hx; simp [execD] at hx
 | scope b ih=>intro p hl C μ τ σ τd σd k h hx; exact ih p hl h hx
 | goto l=>intro p hl C μ τ σ τd σd k h hx; simp [execD] at hx
 | refuse y=>intro p hl C μ τ σ τd σd k h hx; simp [execD] at hx
def resultD (P:Program) (τ:List DV) (σ:DHeap) (rv:ResultVar) (k:DV->Option α):Option α :=
 match rv with
 | .tmp t=>k (τ.getD t .any)
 | .cell a t=>loadD P σ t (τ.getD a .any) k
def resultLD (P:Program) (τ:List DV) (σ:DHeap):List ResultVar->(List DV->Option α)->Option α
 | [],k=>k []
 | rv :: rest,k=>resultD P τ σ rv fun d=>resultLD P τ σ rest fun l=>k (d :: l)
def resultsD (P:Program) (fn:Func) (τ:List DV) (σ:DHeap) (k:DV->Option α):Option α :=
 resultLD P τ σ fn.results.toList fun l=>match l with
  | [d]=>k d
  | l=>k (.tup l)
theorem resultD_some {rv:ResultVar}{k:DV->Option α}(h:Rl st gl C μ τ σ τd σd) (hx:resultD P τd σd rv k=some r):∃ v d,resultA P st τ σ rv=some v/\DR C μ d v/\k d=some r:=by
 have tv:∀ t,DR C μ (τd.getD t .any) (τ.getD t undef):=fun t=>h.ev (.tmp t)
 cases rv with
 | tmp t=>exact ⟨_,_,rfl,tv t,hx⟩
 | cell a t =>
  obtain ⟨ad,d,v,e1,e2,e3,e4⟩:=loadD_some h.S (tv a) hx;refine ⟨v,d,?_,e3,e4⟩;unfold resultA;simp only [e1,e2]
theorem resultLD_some (h:Rl st gl C μ τ σ τd σd):∀ (l:List ResultVar) {k:List DV->Option α},resultLD P τd σd l k=some r->∃ vs ds,l.mapM (resultA P st τ σ)=some vs/\DRL C μ ds vs/\k ds=some r
 | [],k,hx=>⟨[],[],rfl,.nil _ _,hx⟩
 | rv :: rest,k,hx=>by
  obtain ⟨v,d,e1,e2,hx⟩:=resultD_some h hx;obtain ⟨vs,ds,e3,e4,hx⟩:=resultLD_some h rest hx
  exact ⟨v :: vs,d :: ds,by simp [List.mapM_cons,e1,e3],.cons e2 e4,hx⟩
theorem resultsD_some {fn:Func}{k:DV->Option α}(h:Rl st gl C μ τ σ τd σd) (hx:resultsD P fn τd σd k=some r):∃ v d,resultsA P st fn τ σ=some v/\DR C μ d v/\k d=some r:=by
 obtain ⟨vs,ds,e1,e2,hx⟩:=resultLD_some h _ hx;unfold resultsA;rw [e1];split at hx
 ·rename_i d;obtain ⟨v,ys,rfl,e3,e4⟩:=e2.cons_inv;obtain rfl:=e4.nil_inv;exact ⟨v,d,rfl,e3,hx⟩
 ·rename_i hne
  have hne':∀ v,vs≠[v]:=by
   intro v e;subst e
   match ds,e2.1 with
   | [d],_=>exact hne d rfl
  refine ⟨.tuple vs.toArray,_,?_,.tup ds vs.toArray (by simpa using e2.1) (fun i d x hd hx=>e2.2 i d x hd (by simpa using hx)),hx⟩
  split
  ·rename_i v e;exact absurd (Option.some.inj e) (hne' v)
  ·rename_i vs' _ e;obtain rfl:=Option.some.inj e;rfl
  ·rename_i e;cases e
def bodyD (P:Program) (E:Env α) (fn:Func) (args:List DV) (σ:DHeap) (k:DV->DHeap->Option α):Option α :=
 match fn.body with
 | none=>none
 | some c=>execD P E c 1 (args++List.replicate (fn.ntmps-args.length) (.tup [])) σ fun e τ' σ'=>match e with
  | .normal=>resultsD P fn τ' σ' fun d=>k d σ'
  | .ret=>resultsD P fn τ' σ' fun d=>k d σ'
  | .exit _=>none
def loopsOf (fn:Func):List (Nat×Code) :=
 match fn.body with
 | none=>[]
 | some c=>loopsL 1 c
def OpResR (z:Bool) (st:AE.Stat) (C:Cf) (μ:Mu) (σ:Heap) (σd:DHeap) (F:Nat->Nat->Option (Value×Heap)) (k:DV->DHeap->Option α) (r:α):Prop :=
 ∃ v σ' C' μ' d σd',Lim F (v,σ')/\St st C' μ' σ' σd'/\(NRel.b z).N C μ σ σd C' μ' σ' σd'/\DR C' μ' d v/\k d σd'=some r
theorem bodyD_some {E:Env α}{fn:Func}(hE:EnvOk P st E) (hl:∀ x∈loopsOf fn,∀ g,E.lp x.1=some g->LoopSR E.gz P st E.gl x.2 g)
  {args:List DV}{vs:List Value}{k:DV->DHeap->Option α}(hS:St st C μ σ σd) (ha:DRL C μ args vs) (hG:∀ g,DR C μ (E.gl g) (.pointer (some ⟨g,0,some 0⟩))) (hx:bodyD P E fn args σd k=some r) :
  OpResR E.gz st C μ σ σd (fun n m=>bodyA P st (runF P st n m) n fn vs σ) k r:=by
 unfold bodyD at hx;unfold bodyA;unfold loopsOf at hl
 cases hb:fn.body with
 | none=>rw [hb] at hx; cases hx
 | some c =>
  rw [hb] at hx hl;simp only at hx hl ⊢
  have hT:DRL C μ (args++List.replicate (fn.ntmps-args.length) (.tup [])) (vs.toArray++Array.replicate (fn.ntmps-vs.length) undef).toList:=by
   simp only [Array.toList_append,Array.toList_replicate]
   refine ha.append ⟨by simp [ha.1],fun i d x hd hx=>?_⟩
   rw [List.getElem?_replicate] at hd hx;split at hd
   ·split at hx
    ·obtain rfl:=Option.some.inj hd;obtain rfl:=Option.some.inj hx;exact undef_DR
    ·cases hx
   ·cases hd
  obtain ⟨e,τ',σ',C',μ',τd',σd',⟨N,hN⟩,h1,n1,hx⟩:=execD_some hE c 1 hl ⟨hS,hT,hG⟩ hx
  have fin:(e=.normal\/e=.ret)->resultsD P fn τd' σd' (fun d=>k d σd')=some r->OpResR E.gz st C μ σ σd (fun n m=>match execA P st (runF P st n m) n c (vs.toArray++Array.replicate (fn.ntmps-vs.length) undef) σ with
    | some (.normal,τ,σ')=>(resultsA P st fn τ σ').map (·,σ')
    | some (.ret,τ,σ')=>(resultsA P st fn τ σ').map (·,σ')
    | _=>none) k r:=by
   intro he hx;obtain ⟨v,d,e1,e2,e3⟩:=resultsD_some h1 hx
   refine ⟨v,σ',C',μ',d,σd',⟨N,fun n m hn hm=>?_⟩,h1.S,n1,e2,e3⟩
   have hN':=hN n m hn hm;simp only at hN' ⊢;rw [hN']
   rcases he with rfl | rfl
   ·simp only [e1,Option.map_some]
   ·simp only [e1,Option.map_some]
  cases e with
  | normal=>exact fin (.inl rfl) hx
  | ret=>exact fin (.inr rfl) hx
  | exit i=>cases hx
end
end Go.DE
