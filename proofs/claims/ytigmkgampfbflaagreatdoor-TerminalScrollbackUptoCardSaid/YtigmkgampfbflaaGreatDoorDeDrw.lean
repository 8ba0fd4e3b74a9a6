/-
 The symbolic evaluator: a region whose order is open,with appends beside loads from other blocks; a piece of code that begins with such a region.
 Conditions: see the theorems.
-/
import Derived.Test.YtigmkgampfbflaaGreatDoorDeCon
import Derived.Test.YtigmkgampfbflaaGreatDoorDeLst
import Derived.Test.YtigmkgampfbflaaGreatDoorAeMpg
import Derived.Deep.Slices
import Derived.ChangeArms
import Derived.OpenShut
import Derived.DataReads
namespace Go.DE
open Go Go.AE
section
variable {α:Type}{st:AE.Stat}{gl:Gl}{C:Cf}{μ:Mu}{σ:Heap}{σd:DHeap}{P:Program}{r:α}{τ:Array Value}{τd:List DV}
theorem storeN_other {σ':Heap}{a:Addr}{l:List Value}(h:storeN σ a l=some σ') {b:Nat}(hb:a.block≠b):σ'[b]?=σ[b]?:=by
 unfold storeN at h
 repeat' split at h
 all_goals first | (cases h; done) | skip
 obtain rfl:=Option.some.inj h;rw [List.getElem?_set_ne hb]
theorem growA_other {i:TypeInfo}{base:Option Addr}{sLen need:Nat}{news:List Value}{v:Value}{σ':Heap}(h:growA P st σ i base sLen need news=some (v,σ')) {b:Nat}(hb:b<σ.length):σ'[b]?=σ[b]?:=by
 unfold growA at h
 repeat' split at h
 all_goals first | (cases h; done) | skip
 all_goals
  obtain ⟨-,rfl⟩:=Prod.mk.inj (Option.some.inj h);exact List.getElem?_append_left hb
theorem appendA_other {argTypes:Array TypeId}{args:Array Value}{v:Value}{σ':Heap}(h:appendA P st σ argTypes args=some (v,σ')) {b:Nat}(hb:b<σ.length) (hne:∀ a n c,args[0]?=some (.slice (some a) n c)->a.block≠b):σ'[b]?=σ[b]?:=by
 unfold appendA at h
 split at h<;>first | (cases h; done) | skip
 rename_i sT xT base sLen sCap x h0 h1 h2 h3
 split at h<;>first | (cases h; done) | skip
 split at h<;>first | (cases h; done) | skip
 split at h<;>first | (cases h; done) | skip
 split at h<;>first | (cases h; done) | skip
 split at h
 ·split at h
  ·split at h
   ·obtain ⟨-,rfl⟩:=Prod.mk.inj (Option.some.inj h);rfl
   ·rename_i a;split at h
    ·obtain ⟨-,rfl⟩:=Prod.mk.inj (Option.some.inj h);rfl
    ·obtain ⟨σ2,hs,e⟩:=Option.map_eq_some_iff.1 h;obtain ⟨-,rfl⟩:=Prod.mk.inj e
     exact storeN_other hs (by unfold addA; exact hne a _ _ h2)
  ·exact growA_other h hb
 ·split at h
  ·obtain ⟨-,rfl⟩:=Prod.mk.inj (Option.some.inj h);rfl
  ·split at h<;>first | (cases h; done) | skip
   split at h<;>first | (cases h; done) | skip
   rename_i a
   split at h<;>first | (cases h; done) | skip
   split at h<;>first | (cases h; done) | skip
   obtain ⟨⟨v2,σ2⟩,hs,e⟩:=Option.map_eq_some_iff.1 h;obtain ⟨-,rfl⟩:=Prod.mk.inj e;rw [List.getElem?_set_ne (hne a _ _ h2)];exact growA_other hs hb
theorem opA_append_other {call:CallA}{o:Oper}{c:Go.Call}{ev:Operand->Value}{v:Value}{σ':Heap}(hop:o.op=.call c) (hcal:c.callee=.builtin .append) (h:opA P st call ev o σ=some (v,σ')) {b:Nat}(hb:b<σ.length)
  (hne:∀ a n cap,(c.args[0]?).map ev=some (.slice (some a) n cap)->a.block≠b):σ'[b]?=σ[b]?:=by
 unfold opA at h
 split at h<;>first | (cases h; done) | skip
 split at h
 ·obtain ⟨-,rfl⟩:=Prod.mk.inj (Option.some.inj h);rfl
 ·rw [hop] at h;simp only [specA,callA,hcal] at h
  exact appendA_other h hb fun a n cap q=>hne a n cap (by simpa using q)
def keepsE2 (gl:Gl) (x:Oper) (τi:List DV) (y:Oper) (τj:List DV) (σj:DHeap):Bool :=
 match x.op with
 | .load _ a=>match evalDT gl τi a with
  | .po id _ _=>match σj[id]? with
   | some (some _)=>match y.op with
    | .call c=>match c.callee,c.args[0]? with
     | .builtin .append,some s=>match evalDT gl τj s with
      | .os id' _ _=>match σj[id']? with
       | some (some _)=>id != id'
       | _=>false
      | _=>false
     | _,_=>false
    | _=>false
   | _=>false
  | _=>false
 | _=>false
def keepsE (pure:FuncId->Bool) (gl:Gl) (x:Oper) (τi:List DV) (y:Oper) (τj:List DV) (σj:DHeap) (ahead:Bool):Bool:=keepsD pure gl x τi y τj σj ahead||keepsE2 gl x τi y τj σj
def dynE (g:Bool) (pure:FuncId->Bool) (gl:Gl) (ops:Array Oper) (tr:List (List DV×DHeap)):Bool :=
 let c:=closeA ops.toList []
 ops.toList.zipIdx.all fun (x,i)=>match tr[i]? with
  | none=>false
  | some (τi,_)=>if (cls x.op==1||cls x.op==2)&&wantD ops x τi then
    ops.toList.zipIdx.all fun (y,j)=>match tr[j]? with
     | none=>false
     | some (τj,σj)=>if cls y.op==3&&wantD ops y τj&&!ordA c i j&&!ordA c j i then
       (if cls x.op==1 then keepsE pure gl x τi y τj σj (decide (i<j)||!g) else (decide (j<=i)||pureOp pure (evalDT gl τj) y)) else true
   else true
theorem dynE_ok {g:Bool}{call:CallD α}{pure:FuncId->Bool}{ops:Array Oper}{trd:List (List DV×DHeap)}{tra:List (Array Value×Heap)}{cs:List (Cf×Mu)}(T:Tr g P st gl pure call r ops ops.toList trd tra cs) (hd:dynE g pure gl ops trd=true):DynP P st ops tra:=by
 intro i j x y τi τj τk σi σj σk hx hy hti htj htk wi wj cy o1 o2
 have hi:i<ops.toList.length:=by simpa using (Array.getElem?_eq_some_iff.1 hx).1
 have hj:j<ops.toList.length:=by simpa using (Array.getElem?_eq_some_iff.1 hy).1
 have hx':ops.toList[i]?=some x:=by simpa using hx
 have hy':ops.toList[j]?=some y:=by simpa using hy
 obtain ⟨l1,l2,l3⟩:=And.intro T.len1 (And.intro T.len2 T.len3)
 obtain ⟨⟨di,si⟩,hdi⟩:∃ d,trd[i]?=some d:=⟨_,List.getElem?_eq_getElem (by omega)⟩
 obtain ⟨⟨dj,sj⟩,hdj⟩:∃ d,trd[j]?=some d:=⟨_,List.getElem?_eq_getElem (by omega)⟩
 obtain ⟨⟨dk,sk⟩,hdk⟩:∃ d,trd[j+1]?=some d:=⟨_,List.getElem?_eq_getElem (by omega)⟩
 obtain ⟨⟨Ci,μi⟩,hci⟩:∃ d,cs[i]?=some d:=⟨_,List.getElem?_eq_getElem (by omega)⟩
 obtain ⟨⟨Cj,μj⟩,hcj⟩:∃ d,cs[j]?=some d:=⟨_,List.getElem?_eq_getElem (by omega)⟩
 obtain ⟨⟨Ck,μk⟩,hck⟩:∃ d,cs[j+1]?=some d:=⟨_,List.getElem?_eq_getElem (by omega)⟩
 have ri:=T.rel i _ _ _ hdi hti hci;have rj:=T.rel j _ _ _ hdj htj hcj;have rk:=T.rel (j+1) _ _ _ hdk htk hck;simp only at ri rj rk;have xi:=T.op i x _ _ hx' hdi hti wi;have yj:=T.op j y _ _ hy' hdj htj wj;simp only at xi yj;obtain ⟨ki,xi⟩:=xi;obtain ⟨kj,yj⟩:=yj;have wdi:wantD ops x di=true:=wantD_of ri.T wi;have wdj:wantD ops y dj=true:=wantD_of rj.T wj
 have mi:(x,i)∈ops.toList.zipIdx:=by rw [List.mem_zipIdx_iff_getElem?]; simpa using hx
 have mj:(y,j)∈ops.toList.zipIdx:=by rw [List.mem_zipIdx_iff_getElem?]; simpa using hy
 have main:(cls x.op=1\/cls x.op=2)->(if cls x.op==1 then keepsE pure gl x di y dj sj (decide (i<j)||!g) else (decide (j<=i)||pureOp pure (evalDT gl dj) y))=true:=by
  intro hc;unfold dynE at hd;have h1:=List.all_eq_true.1 hd _ mi;simp only [hdi] at h1
  have hc':((cls x.op==1||cls x.op==2)&&wantD ops x di)=true:=by
   rw [wdi,Bool.and_true,Bool.or_eq_true,beq_iff_eq,beq_iff_eq];exact hc
  rw [if_pos hc'] at h1;have h2:=List.all_eq_true.1 h1 _ mj;simp only [hdj] at h2
  have hc2:(cls y.op==3&&wantD ops y dj&&!ordA (closeA ops.toList []) i j&&!ordA (closeA ops.toList []) j i)=true:=by
   rw [wdj,o1,o2,cy];rfl
  rw [if_pos hc2] at h2;exact h2
 refine ⟨fun hc=>?_,fun hc hij=>?_⟩
 ·have hk:=main (.inl hc)
  rw [if_pos (by simp [hc])] at hk
  rcases Bool.or_eq_true_iff.1 hk with hk | hk
  case inr =>
   unfold keepsE2 at hk
   split at hk<;>first | (cases hk; done) | skip
   rename_i T0 a hop;have hev:=ri.ev a;unfold loadAtA;simp only [hop]
   split at hk<;>first | (cases hk; done) | skip
   rename_i id i0 f e;rw [e] at hev;obtain ⟨b,m,L,e0,hm,hk0⟩:=hev.po_inv;simp only [e0]
   split at hk<;>first | (cases hk; done) | skip
   rename_i blk hblk
   have hmj:∃ b0 L0 l0,μj id=some (b0,blk.k,L0)/\b0=b/\σj[b0]?=some (some (.cells l0)):=by
    obtain ⟨b0,L0,l0,q1,q2,q3,_⟩:=rj.S.own id blk hblk;refine ⟨b0,L0,l0,q1,?_,q3⟩
    rcases Nat.le_total i j with hij | hij
    ·have:=(T.nx i j _ _ _ _ _ _ hij hdi hti hci hdj htj hcj).hμ _ _ hm;simp only at this;rw [q1] at this;simp only [Option.some.injEq,Prod.mk.injEq] at this;exact this.1
    ·have:=(T.nx j i _ _ _ _ _ _ hij hdj htj hcj hdi hti hci).hμ _ _ q1;simp only at this;rw [hm] at this;simp only [Option.some.injEq,Prod.mk.injEq] at this;exact this.1.symm
   obtain ⟨b0,L0,l0,q1,rfl,q3⟩:=hmj;have hblt:=(List.getElem?_eq_some_iff.1 q3).1;refine loadV_congr (.inr ?_);show σj[b0]?=σk[b0]?
   split at hk<;>first | (cases hk; done) | skip
   rename_i c0 hopy
   split at hk<;>first | (cases hk; done) | skip
   rename_i s hcal hs0
   split at hk<;>first | (cases hk; done) | skip
   rename_i id' i1 n1 e1
   split at hk<;>first | (cases hk; done) | skip
   rename_i blk' hblk'
   have hne:id≠id':=by simpa using hk
   have hevs:=rj.ev s;rw [e1] at hevs;obtain ⟨b2,k2,L2,off,cap,e2,hm2,-,-⟩:=hevs.os_inv
   have hbb:b0≠b2:=by
    intro e;subst e;exact hne (rj.S.inj id id' _ _ _ _ _ hblk hblk' q1 hm2)
   obtain ⟨N,hN⟩:=T.step j y _ _ hy' htj htk;obtain ⟨v2,hv2⟩:=step_op (hN N N (Nat.le_refl _) (Nat.le_refl _)) wj
   exact (opA_append_other hopy hcal hv2 hblt fun a n c h=>by
    rw [hs0] at h;have h:evalT τj s=.slice (some a) n c:=Option.some.inj h;rw [e2] at h
    obtain ⟨h,-,-⟩:=by simpa using h
    rw [<- h]
    exact fun q=>hbb q.symm).symm
  unfold keepsD at hk
  split at hk<;>first | (cases hk; done) | skip
  rename_i T0 a hop;have hev:=ri.ev a;unfold loadAtA;simp only [hop]
  split at hk<;>first | (cases hk; done) | skip
  ·rename_i tg g m n i0 f e;rw [e] at hev;have hl:=opD_load hop xi;rw [e] at hl
   obtain ⟨a0,e0⟩:∃ a0,evalT τi a=.pointer (some a0):=by
    obtain ⟨q,_,e0,_⟩:=hev.pf_inv;exact ⟨_,e0⟩
   rw [e0] at hev;simp only [e0];obtain ⟨v,hv⟩:=pf_load (st:=st) hev hl
   have njk:=T.nx j (j+1) _ _ _ _ _ _ (by omega) hdj htj hcj hdk htk hck
   have key:(∀ o v,Ci tg a0.block a0.spot o=some v->Cj tg a0.block a0.spot o=some v)->loadV P st σj T0 a0=loadV P st σk T0 a0:=fun frj=>by
    rw [hv σj fun o v hcv=>rj.S.frz _ _ _ _ _ (frj o v hcv),hv σk fun o v hcv=>rk.S.frz _ _ _ _ _ (njk.hC _ _ _ _ _ (frj o v hcv))]
   rcases Nat.lt_or_ge i j with hij | hij
   ·exact key fun o v hcv=>(T.nx i j _ _ _ _ _ _ (by omega) hdi hti hci hdj htj hcj).hC _ _ _ _ _ hcv
   ·have nji:=T.nx j i _ _ _ _ _ _ hij hdj htj hcj hdi hti hci
    by_cases hB:a0.spot=none/\σj.length<=a0.block
    ·by_cases hK:σk.length<=a0.block
     ·rw [loadV_out hB.1 hB.2,loadV_out hB.1 hK]
     ·exfalso
      have hne:j≠i:=fun e=>by
       subst e;rw [hx] at hy;obtain rfl:=Option.some.inj hy;rw [hc] at cy;cases cy
      obtain ⟨q,qw,qe,q1,q2,q3,_⟩:=hev.pf_inv;simp only [Value.pointer.injEq,Option.some.injEq] at qe;have fact:=(q3 0 0 q2 q1).1
      have eb:a0.block=q.block:=by rw [qe]
      have es:a0.spot=q.spot:=by rw [qe]
      rw [<- eb,<- es,hB.1] at fact
      have nki:=T.nx (j+1) i _ _ _ _ _ _ (by omega) hdk htk hck hdi hti hci
      rcases nki.old _ _ _ _ _ fact with f1 | f1
      ·rw [decide_eq_false (show ¬ i<j by omega),Bool.false_or] at hk
       have:=rj.S.low _ _ _ _ ((T.one j _ _ _ _ _ _ hdj htj hcj hdk htk hck).one (by simpa using hk) _ _ _ _ _ f1)
       omega
      ·exact hK f1.2.2
    ·refine key fun o v hcv=>?_
     rcases nji.old _ _ _ _ _ hcv with f1 | f1
     ·exact f1
     ·exact absurd ⟨f1.2.1,f1.2.2⟩ hB
  ·rename_i id i0 f e;rw [e] at hev;obtain ⟨b,m,L,e0,hm,hk0⟩:=hev.po_inv;simp only [e0]
   split at hk<;>first | (cases hk; done) | skip
   rename_i blk hblk
   have hmj:∃ b0 L0 l0,μj id=some (b0,blk.k,L0)/\b0=b/\σj[b0]?=some (some (.cells l0)):=by
    obtain ⟨b0,L0,l0,q1,q2,q3,_⟩:=rj.S.own id blk hblk;refine ⟨b0,L0,l0,q1,?_,q3⟩
    rcases Nat.le_total i j with hij | hij
    ·have:=(T.nx i j _ _ _ _ _ _ hij hdi hti hci hdj htj hcj).hμ _ _ hm;simp only at this;rw [q1] at this;simp only [Option.some.injEq,Prod.mk.injEq] at this;exact this.1
    ·have:=(T.nx j i _ _ _ _ _ _ hij hdj htj hcj hdi hti hci).hμ _ _ q1;simp only at this;rw [hm] at this;simp only [Option.some.injEq,Prod.mk.injEq] at this;exact this.1.symm
   obtain ⟨b0,L0,l0,q1,rfl,q3⟩:=hmj;have hblt:=(List.getElem?_eq_some_iff.1 q3).1;refine loadV_congr (.inr ?_);show σj[b0]?=σk[b0]?
   rcases Bool.or_eq_true_iff.1 hk with hp | hs
   ·exact (T.pre j y _ _ _ hy' hdj htj htk wj hp b0 hblt).symm
   ·split at hs<;>first | (cases hs; done) | skip
    rename_i T1 b1 x1 hopy
    split at hs<;>first | (cases hs; done) | skip
    rename_i id' i1 f1 e1
    have hne:id≠id':=by simpa using hs
    have hst:=opD_store hopy yj;obtain ⟨ad,σ',σd',s1,s2,s3,s4,s5⟩:=storeD_some rj.S (rj.ev b1) (rj.ev x1) hst;have hevb:=rj.ev b1;rw [e1,s1] at hevb;obtain ⟨b2,m2,L2,e2,hm2,_⟩:=hevb.po_inv;simp only [Value.pointer.injEq,Option.some.injEq] at e2
    obtain ⟨blk',hblk'⟩:∃ blk',sj[id']?=some (some blk'):=by
     rw [e1] at hst;unfold storeD at hst;simp only at hst;split at hst
     ·exact ⟨_,by assumption⟩
     ·cases hst
    have hbb:b0≠b2:=by
     intro e;subst e;exact hne (rj.S.inj id id' _ _ _ _ _ hblk hblk' q1 hm2)
    obtain ⟨N,hN⟩:=T.step j y _ _ hy' htj htk;have hN:=hN N N (Nat.le_refl _) (Nat.le_refl _);obtain ⟨v2,hv2⟩:=step_op hN wj
    have hcs:constsOk y.op=true:=by
     simp only at hv2;unfold opA at hv2;split at hv2
     ·assumption
     ·cases hv2
    simp only at hv2
    rw [opA_none hcs (peekA_nonflat (x:=b1) (by rw [hopy]; simp [Op.operands]) (by rw [s1]; rfl)),hopy] at hv2
    simp only [specA,s1,Option.map_eq_some_iff,Prod.mk.injEq] at hv2;obtain ⟨σ2,hσ2,_,rfl⟩:=hv2
    exact (storeV_other hσ2 (by rw [e2]; exact hbb)).symm
 ·have hk:=main (.inr hc)
  rw [if_neg (by simp [hc])] at hk
  rcases Bool.or_eq_true_iff.1 hk with hle | hp
  ·have:=of_decide_eq_true hle; omega
  ·obtain ⟨ti,hti1⟩:∃ t,tra[i+1]?=some t:=⟨_,List.getElem?_eq_getElem (by omega)⟩
   obtain ⟨N,hN⟩:=T.step i x _ _ hx' hti hti1;obtain ⟨v2,hv2⟩:=step_op (hN N N (Nat.le_refl _) (Nat.le_refl _)) wi;have hl:=op2_len hc hv2
   obtain ⟨d1,hd1⟩:∃ d,trd[i+1]?=some d:=⟨_,List.getElem?_eq_getElem (by omega)⟩
   obtain ⟨c1,hc1⟩:∃ d,cs[i+1]?=some d:=⟨_,List.getElem?_eq_getElem (by omega)⟩
   have:=(T.nx (i+1) j _ _ _ _ _ _ (by omega) hd1 hti1 hc1 hdj htj hcj).len
   simp only at hl this
   exact (T.pre j y _ _ _ hy' hdj htj htk wj hp σi.length (by simp only; omega)).symm
def drawE (g:Bool) (P:Program) (call:CallD α) (pure:FuncId->Bool) (gl:Gl) (ops:Array Oper) (τ:List DV) (σ:DHeap) (k:List DV->DHeap->Option α):Option α :=
 bif staticP P ops then traceD P call gl ops ops.toList τ σ [] fun tr τ' σ'=>bif dynE g pure gl ops tr then k τ' σ' else none else none
theorem drawE_some {g:Bool}{call:CallD α}{pure:FuncId->Bool}{ops:Array Oper}(hcall:CallS g P st call) (hp:PureS P st call pure) {k:List DV->DHeap->Option α}(h:Rl st gl C μ τ σ τd σd) (hx:drawE g P call pure gl ops τd σd k=some r) :
  ∃ τ' σ' C' μ' τd' σd',Lim (fun n m=>drawA P st (runF P st n m) ops τ σ) (τ',σ')/\Rl st gl C' μ' τ' σ' τd' σd'/\Nx1 g C μ σ σd C' μ' σ' σd'/\k τd' σd'=some r:=by
 obtain ⟨hs,hx⟩:=bif_none hx;obtain ⟨trd,tra,cs,τ',σ',C',μ',τd',σd',T,_,_,_,⟨N,hN⟩,e4,h2,n2,hx⟩:=traceD_some hcall hp ops.toList h hx;obtain ⟨hd,hx⟩:=bif_none hx
 have hD:=dynE_ok T (by simpa using hd)
 refine ⟨τ',σ',C',μ',τd',σd',⟨N,fun n m hn hm=>?_⟩,h2,n2,hx⟩
 show drawA P st (runF P st n m) ops τ σ=_;unfold drawA;have hN':traceA P st (runF P st n m) ops ops.toList τ σ=some tra:=hN n m hn hm;rw [if_pos hs,hN']
 have hB:dynB P st ops tra=true:=by
  unfold dynB;rw [Bool.or_eq_true];exact .inr (@decide_eq_true _ (Classical.propDecidable _) hD)
 simp only [hB,if_true];have hl:=T.len2;rw [List.getLast?_eq_getElem?,hl]
 simpa using e4
def segD (P:Program) (E:Env α) (p:Nat):Code->LoopD α
 | .seq (.region _ ops true) b=>fun τ σ k=>drawE E.gz P E.call E.pure E.gl ops τ σ fun τ' σ'=>execD P E b (2*p+1) τ' σ' k
 | _=>fun _ _ _=>none
def segB:Code->Code
 | .seq _ b=>b
 | _=>.skip
theorem segD_ok {E:Env α}(hE:EnvOk P st E) {c:Code}{p:Nat}(hl:∀ x∈loopsL (2*p+1) (segB c),∀ g,E.lp x.1=some g->LoopSR E.gz P st E.gl x.2 g):LoopSR E.gz P st E.gl c (segD P E p c):=by
 intro τd σd k r hx C μ τ σ h;unfold segD at hx
 split at hx<;>first | (cases hx; done) | skip
 rename_i id ops b;obtain ⟨τ1,σ1,C1,μ1,τd1,σd1,⟨N,hN⟩,h1,n1,hx⟩:=drawE_some hE.call hE.pure h hx;obtain ⟨e2,τ2,σ2,C2,μ2,τd2,σd2,⟨M,hM⟩,h2,n2,hx⟩:=execD_some hE b (2*p+1) hl h1 hx
 refine ⟨e2,τ2,σ2,C2,μ2,τd2,σd2,⟨max N M,fun n m hn hm=>?_⟩,h2,(NRel.b E.gz).tr ((NRel.b E.gz).of n1) n2,hx⟩
 have hN':drawA P st (runF P st n m) ops τ σ=some (τ1,σ1):=hN n m (by omega) (by omega)
 have hM':execA P st (runF P st n m) n b τ1 σ1=some (e2,τ2,σ2):=hM n m (by omega) (by omega)
 simp only [execA,hN',hM',if_true,Option.map_some]
theorem loop_coreV {X:Type}{z:Bool}{E:X->Env Unit}(hE:∀ x,EnvOk P st (E x)) (hz:∀ x,(E x).gz=z) (hg:∀ x,(E x).gl=gl) (hgl:∀ g,Clo (gl g)) {c:Code}{p:Nat}(hl:∀ x,∀ y∈loopsL p c,∀ g,(E x).lp y.1=some g->LoopSR z P st gl y.2 g)
  {pre:X->Prop}{m:Nat}{S:X->List DV×DHeap}{out:X->Ex×List DV×DHeap}{meas:X->Nat}(body:∀ x,pre x->∃ κ:KD Unit,execD P (E x) c p (S x).1 (S x).2 κ=some ()/\∀ e τ σ,κ e τ σ=some ()->StepQ z pre m S out meas x e τ σ) :
  ∀ (k:Nat) (x:X),meas x<k->pre x->∀ {C0:Cf}{μ0:Mu}{σ0:Heap}{σd0:DHeap}{C:Cf}{μ:Mu}{τ:Array Value}{σ:Heap},Rl st gl C μ τ σ (S x).1 (S x).2->NxM z m C0 μ0 σ0 σd0 C μ σ (S x).2 ->
   ∃ τ' σ' C' μ',(∃ N,∀ n mm q,N<=n->N<=mm->N<=q->iterA (execA P st (runF P st n mm) n c) q τ σ=some ((out x).1,τ',σ'))/\Rl st gl C' μ' τ' σ' (out x).2.1 (out x).2.2/\NxM z m C0 μ0 σ0 σd0 C' μ' σ' (out x).2.2
 | 0,x,hk,_,_,_,_,_,_,_,_,_,_,_=>by omega
 | k+1,x,hk,hpre,C0,μ0,σ0,σd0,C,μ,τ,σ,h,hn=>by
  obtain ⟨κ,hb,hκ⟩:=body x hpre
  obtain ⟨e,τ1,σ1,C1,μ1,τd1,σd1,⟨N,hN⟩,h1,n1,hx⟩:=execD_some (hE x) c p (fun y hy g hg2=>by rw [hz,hg]; exact hl x y hy g hg2) (by rw [hg]; exact h) hb
  rw [hg] at h1;rw [hz] at n1;have hq:=hκ _ _ _ hx
  have step:∀ n mm q,N<=n->N<=mm->iterA (execA P st (runF P st n mm) n c) (q+1) τ σ=match e with
    | .normal=>iterA (execA P st (runF P st n mm) n c) q τ1 σ1
    | .exit i=>some (.exit i,τ1,σ1)
    | .ret=>some (.ret,τ1,σ1):=by
   intro n mm q hn hm;have hN':execA P st (runF P st n mm) n c τ σ=some (e,τ1,σ1):=hN n mm hn hm;simp only [iterA,hN']
   cases e<;>rfl
  have ends:∀ e',e'=(out x).1->WkG z m τd1 σd1 (out x).2.1 (out x).2.2->(∀ n mm q,N<=n->N<=mm->iterA (execA P st (runF P st n mm) n c) (q+1) τ σ=some (e',τ1,σ1)) ->
    ∃ τ' σ' C' μ',(∃ N,∀ n mm q,N<=n->N<=mm->N<=q->iterA (execA P st (runF P st n mm) n c) q τ σ=some ((out x).1,τ',σ'))/\Rl st gl C' μ' τ' σ' (out x).2.1 (out x).2.2/\NxM z m C0 μ0 σ0 σd0 C' μ' σ' (out x).2.2:=by
   intro e' he hw hs;obtain ⟨C2,μ2,h2,n2⟩:=hw.rl hgl h1 (hn.then n1)
   refine ⟨τ1,σ1,C2,μ2,⟨N+1,fun n mm q hn hm hq=>?_⟩,h2,n2⟩
   obtain ⟨q,rfl⟩:∃ q',q=q'+1:=⟨q-1,by omega⟩
   rw [hs n mm q (by omega) (by omega),he]
  cases e with
  | normal =>
   obtain ⟨y,hpy,hy,hm,hw⟩:=hq;obtain ⟨C1',μ1',h2,n2⟩:=hw.rl hgl h1 (hn.then n1)
   obtain ⟨τ2,σ2,C2,μ2,⟨M,hM⟩,h3,n3⟩:=loop_coreV hE hz hg hgl hl body k y (by omega) hpy h2 n2
   rw [hy] at hM h3 n3
   refine ⟨τ2,σ2,C2,μ2,⟨max N M+1,fun n mm q hn hm hq=>?_⟩,h3,n3⟩
   obtain ⟨q,rfl⟩:∃ q',q=q'+1:=⟨q-1,by omega⟩
   rw [step n mm q (by omega) (by omega)]
   exact hM n mm q (by omega) (by omega) (by omega)
  | exit i=>exact ends _ hq.1 hq.2 fun n mm q hn hm=>step n mm q hn hm
  | ret=>exact ends _ hq.1 hq.2 fun n mm q hn hm=>step n mm q hn hm
theorem LInv.okV {X:Type}{P:Program}{st:AE.Stat}{gl:Gl}{z:Bool}{E:X->Env Unit}(I:LInv X) (hE:∀ x,EnvOk P st (E x)) (hz:∀ x,(E x).gz=z) (hg:∀ x,(E x).gl=gl) (hgl:∀ g,Clo (gl g)) {c:Code}{p:Nat}
  (hl:∀ x,∀ y∈loopsL p c,∀ g,(E x).lp y.1=some g->LoopSR z P st gl y.2 g)
  (cps:∀ x k,I.cps x k=some ()->k (I.e x) (I.od x) (I.oh x)=some ())
  (body:∀ x,I.pre x->execD P (E x) c p (temps I.n I.ps (I.sd x)) (I.sh x) (fun e τ σ=>I.ask x e τ.length (pick I.ps τ) (pick I.qs τ) σ)=some ()):LoopSR z P st gl (.loop c) I.g:=by
 intro τd σd k r hx C μ τ σ h
 have step:∀ x,I.pre x->∃ κ:KD Unit,execD P (E x) c p (I.st x).1 (I.st x).2 κ=some ()/\∀ e τ σ,κ e τ σ=some ()->StepQ z I.pre I.m I.st I.out I.meas x e τ σ:=fun x hpx=>by
  refine ⟨_,body x hpx,fun e τ σ hx=>?_⟩
  obtain ⟨hn,hq⟩:I.Q x e τ.length (pick I.ps τ) (pick I.qs τ) σ:=holds_eq.1 (bif_none hx).1
  cases e with
  | normal =>
   obtain ⟨y,⟨h1,h2,h3,h5⟩,h4,ids,hw⟩:=hq
   exact ⟨y,h5,by simp only [LInv.out,h1,h2,h3],h4,(hw.wk hn).g⟩
  | exit i =>
   obtain ⟨h1,ids,hw⟩:=hq;exact ⟨h1,(hw.wk hn).g⟩
  | ret =>
   obtain ⟨h1,ids,hw⟩:=hq;exact ⟨h1,(hw.wk hn).g⟩
 obtain ⟨x,hpx,hm,⟨ρ,hw⟩,hk⟩:∃ x,I.pre x/\σd.length=I.m/\(∃ ρ,Wk ρ I.m τd σd (I.st x).1 (I.st x).2)/\k (I.out x).1 (I.out x).2.1 (I.out x).2.2=some r:=by
  unfold LInv.g at hx
  split at hx<;>first | (cases hx; done) | skip
  rename_i h1 h2;have h1:=Nat.eq_of_beq_eq_true h1;have h2:=Nat.eq_of_beq_eq_true h2
  split at hx<;>first | (cases hx; done) | skip
  rename_i x hf;obtain ⟨hw,hx⟩:=bif_none hx;obtain ⟨hpx,ids,hw⟩:=holds_eq.1 hw;exact ⟨x,hpx,h2,⟨_,hw.wk h1⟩,cps _ _ hx⟩
 rw [<- hm] at step hw;obtain ⟨τ',σ',C',μ',⟨N,hN⟩,h1,n1⟩:=loop_coreV hE hz hg hgl hl step (I.meas x+1) x (Nat.lt_succ_self _) hpx (hw.rl hgl h) (hw.nx (.refl (Nat.le_refl _)))
 exact ⟨_,τ',σ',C',μ',_,_,⟨N,fun n mm hn hm=>hN n mm n hn hm hn⟩,h1,n1.nx h.S,hk⟩
end
end Go.DE
namespace Go.DE
open Go Go.AE Go.RowKit
inductive Kd where
 | int (k:IntKind)
 | bool
 | str
 | sl (ks:List Kd)
inductive HasK (B:Nat):Kd->DV->Prop
 | int (k:IntKind) (z:Int):HasK B (.int k) (kv k z)
 | bool (b:Bool):HasK B .bool (bv b)
 | str (s:ByteArray) (h:s.size<=B):HasK B .str (sv s)
 | sl (ks:List Kd) (g:Nat->Nat->DV) (n:Nat) (hn:n<=B) (h:∀ i f k,i<n->ks[f]?=some k->HasK B k (g i f)):HasK B (.sl ks) (.sl false g ks.length n)
def kindsP (P:Program) (K:TypeId->Option (List Kd)):List (TypeId×Nat)->Nat->Option (List Kd)
 | [],_=>some []
 | (t,o') :: r,o=>if o'=o then (match K t,kindsP P K r (o+P.cellsOf t) with
  | some a,some b=>if a.length=P.cellsOf t then some (a++b) else none
  | _,_=>none) else none
def kinds (P:Program):Nat->TypeId->Option (List Kd)
 | 0,_=>none
 | n+1,t=>match P.underlying t with
  | some (.int k)=>some [.int k]
  | some .bool=>some [.bool]
  | some .string=>some [.str]
  | some (.struct fs)=>match kindsP P (kinds P n) (fs.toList.map fun f=>(f.type,f.offset)) 0 with
   | some ks=>if ks.length=P.cellsOf t then some ks else none
   | none=>none
  | some (.array len e)=>match kindsP P (kinds P n) ((List.range len).map fun i=>(e,i*P.cellsOf e)) 0 with
   | some ks=>if ks.length=P.cellsOf t then some ks else none
   | none=>none
  | some (.slice e)=>match kinds P n e with
   | some ks=>if ks.length=P.cellsOf e/\0<ks.length then some [.sl ks] else none
   | none=>none
  | _=>none
def stV:Value->Option Value
 | .bool b=>some (.bool b)
 | .int k n=>some (.int k n)
 | .string s=>some (.string s)
 | .slice none 0 0=>some (.slice none 0 0)
 | .slice (some a) len cap=>if len<=cap/\cap<unk/\(cap=0\/a.spot=none) then some (.slice (some ⟨a.block,a.off,some 0⟩) len cap) else none
 | _=>none
def stOf (W:World):Nat->Nat->Option Value:=fun b i=>(W.cell? ⟨b,i,none⟩).bind stV
theorem stV_vr {v u:Value}(h:stV v=some u) (ρ:Ren):VR ρ u v/\u.oneCell'=true:=by
 unfold stV at h
 split at h<;>first | (cases h; done) | skip
 ·obtain rfl:=Option.some.inj h; exact ⟨.bool _,rfl⟩
 ·obtain rfl:=Option.some.inj h; exact ⟨.int _ _,rfl⟩
 ·obtain rfl:=Option.some.inj h; exact ⟨.string _,rfl⟩
 ·obtain rfl:=Option.some.inj h; exact ⟨.snil,rfl⟩
 ·split at h<;>first | (cases h; done) | skip
  rename_i a len cap hc;obtain rfl:=Option.some.inj h;refine ⟨.sliceX _ _ len cap hc.2.1 hc.1 ?_,rfl⟩
  rcases hc.2.2 with h0 | h0
  ·exact .inl h0
  ·exact .inr ⟨h0,.inl ⟨0,rfl,rfl,rfl⟩⟩
theorem stOf_good (W:World) (ext:CallA):GoodSt W ⟨stOf W,ext⟩:=by
 intro b i v hv;obtain ⟨c,hc,hs⟩:=Option.bind_eq_some_iff.1 hv
 exact ⟨c,hc,fun ρ=>(stV_vr hs ρ).1⟩
def Opn (B:Nat) (C:Cf) (ks:List Kd) (cs:List Value):Prop :=
 ∃ (ds:List DV) (ws:List Value),ds.length=ks.length/\(∀ (i:Nat) k,ks[i]?=some k->∃ d,ds[i]?=some d/\HasK B k d)/\DRL C noMu ds ws/\cs.length=ks.length/\∀ (i:Nat) v,cs[i]?=some v->∃ u,ws[i]?=some u/\stV v=some u
section
variable {B:Nat}{C:Cf}
theorem Opn.nil:Opn B C [] []:=⟨[],[],rfl,fun i k h=>by simp at h,.nil _ _,rfl,fun i v h=>by simp at h⟩
theorem Opn.append {ks ls:List Kd}{cs es:List Value}(h:Opn B C ks cs) (k:Opn B C ls es):Opn B C (ks++ls) (cs++es):=by
 obtain ⟨ds,ws,a1,a2,a3,a4,a5⟩:=h;obtain ⟨ds',ws',b1,b2,b3,b4,b5⟩:=k;have hw:ws.length=ks.length:=a3.1.symm.trans a1
 refine ⟨ds++ds',ws++ws',by simp [a1,b1],fun i q hq=>?_,a3.append b3,by simp [a4,b4],fun i v hv=>?_⟩
 ·by_cases hi:i<ks.length
  ·rw [List.getElem?_append_left hi] at hq
   rw [List.getElem?_append_left (by omega)]
   exact a2 i q hq
  ·rw [List.getElem?_append_right (by omega)] at hq
   rw [List.getElem?_append_right (by omega),a1]
   exact b2 _ q hq
 ·by_cases hi:i<ks.length
  ·rw [List.getElem?_append_left (by omega)] at hv
   rw [List.getElem?_append_left (by omega)]
   exact a5 i v hv
  ·rw [List.getElem?_append_right (by omega),a4] at hv
   rw [List.getElem?_append_right (by omega),hw]
   exact b5 _ v hv
theorem Opn.one {k:Kd}{d:DV}{v u:Value}(hk:HasK B k d) (hd:DR C noMu d u) (hv:stV v=some u):Opn B C [k] [v] :=
 ⟨[d],[u],rfl,fun i q h=>by
  cases i with
  | zero=>obtain rfl:=Option.some.inj h; exact ⟨d,rfl,hk⟩
  | succ i=>simp at h,.cons hd (.nil _ _),rfl,fun i x h=>by
  cases i with
  | zero=>obtain rfl:=Option.some.inj h; exact ⟨u,rfl,hv⟩
  | succ i=>simp at h⟩
variable {H:Type}{enc:TypeId×Value->H}{P:Program}{W:World}{held:Bool}{bk:DataW H->Nat}
structure BkOk (bk:DataW H->Nat):Prop where
 str:∀ l,l.length<=bk (.lit (.string l))
 agg:∀ l d,d∈l->bk d<=bk (.agg l)
 sl:∀ l sp d,d∈l->bk d<=bk (.slice l sp)
 len:∀ l sp,l.length<=bk (.slice l sp)
theorem opn_parts {K:TypeId->Option (List Kd)}{m:Nat}{cs:List Value}(ih:∀ t ks,K t=some ks->∀ cs x,DataW.trod enc P W 0 (fun _=>true) held m t cs=some x->bk x.1<=B->Opn B C ks cs) :
  ∀ (ps:List (TypeId×Nat)) (o:Nat) (ks:List Kd) (xs:List (DataW H×List MemPlace)),kindsP P K ps o=some ks->(∀ (i:Nat) q,ps[i]?=some q->DataW.trod enc P W 0 (fun _=>true) held m q.1 ((cs.drop q.2).take (P.cellsOf q.1))=xs[i]?) ->
   xs.length=ps.length->(∀ x∈xs,bk x.1<=B)->Opn B C ks ((cs.drop o).take ks.length)
 | [],o,ks,xs,h,_,_,_=>by
  obtain rfl:=Option.some.inj h
  simpa using Opn.nil
 | (t,o') :: ps,o,ks,xs,h,hx,hl,hb=>by
  unfold kindsP at h
  split at h<;>first | (cases h; done) | skip
  rename_i ho;subst ho
  split at h<;>first | (cases h; done) | skip
  rename_i a b ha hbk
  split at h<;>first | (cases h; done) | skip
  rename_i hlen;obtain rfl:=Option.some.inj h
  cases xs with
  | nil=>simp at hl
  | cons x xs =>
   have h0:=hx 0 (t,o') rfl;simp only [List.getElem?_cons_zero] at h0
   have e:(cs.drop o').take (a++b).length=(cs.drop o').take (P.cellsOf t)++(cs.drop (o'+P.cellsOf t)).take b.length:=by
    rw [List.length_append,hlen,List.take_add,List.drop_drop]
   rw [e]
   exact (ih t a ha _ x h0 (hb x (by simp))).append (opn_parts ih ps _ b xs hbk (fun i q hq=>hx (i+1) q hq) (by simpa using hl) fun x hx=>hb x (by simp [hx]))
theorem add_none {a:Addr}(h:a.spot=none) (j:Nat):a.add j=⟨a.block,a.off+j,none⟩:=by
 cases a;simp only at h;subst h;unfold Addr.add;split
 ·rename_i h0; subst h0; rfl
 ·rfl
theorem opn (hbk:BkOk bk) (ext:CallA):∀ (n:Nat) (t:TypeId) (ks:List Kd),kinds P n t=some ks->∀ (fuel:Nat) (cs:List Value) (x:DataW H×List MemPlace),
  DataW.trod enc P W 0 (fun _=>true) held fuel t cs=some x->bk x.1<=B->Opn B (baseC ⟨stOf W,ext⟩) ks cs
 | 0,_,_,h,_,_,_,_,_=>by cases h
 | n+1,t,ks,h,fuel,cs,x,hx,hB=>by
  unfold kinds at h
  split at h<;>first | (cases h; done) | skip
  ·rename_i k hu;obtain rfl:=Option.some.inj h;obtain ⟨z,rfl,rfl,-⟩:=DataW.trod_int hu hx;exact .one (.int k z) (.v _ rfl) rfl
  ·rename_i hu;obtain rfl:=Option.some.inj h;obtain ⟨b,rfl,rfl⟩:=DataW.trod_bool hu hx;exact .one (.bool b) (.v _ rfl) rfl
  ·rename_i hu;obtain rfl:=Option.some.inj h;obtain ⟨s,rfl,rfl,-⟩:=DataW.trod_string hu hx;refine .one (.str s (Nat.le_trans ?_ (Nat.le_trans (hbk.str _) hB))) (.v _ rfl) rfl;simp
  ·rename_i fs hu
   split at h<;>first | (cases h; done) | skip
   rename_i ks' hk
   split at h<;>first | (cases h; done) | skip
   rename_i hlen;obtain rfl:=Option.some.inj h;obtain ⟨xs,m,rfl,rfl,hc,hl,hf⟩:=DataW.trod_struct hu hx
   have:=opn_parts (fun t ks hk cs x hx hb=>opn hbk ext n t ks hk m cs x hx hb) _ 0 _ xs hk (fun i q hq=>by
    rw [List.getElem?_map,Option.map_eq_some_iff] at hq;obtain ⟨f,hq,rfl⟩:=hq
    exact hf i f (by simpa using hq)) (by simpa using hl) fun y hy=>Nat.le_trans (hbk.agg _ _ (List.mem_map_of_mem hy)) hB
   rw [List.drop_zero,List.take_of_length_le (by omega)] at this
   exact this
  ·rename_i len e hu
   split at h<;>first | (cases h; done) | skip
   rename_i ks' hk
   split at h<;>first | (cases h; done) | skip
   rename_i hlen;obtain rfl:=Option.some.inj h;obtain ⟨xs,m,rfl,rfl,hc,hl,hf⟩:=DataW.trod_array hu hx
   have:=opn_parts (fun t ks hk cs x hx hb=>opn hbk ext n t ks hk m cs x hx hb) _ 0 _ xs hk (fun i q hq=>by
    rw [List.getElem?_map,Option.map_eq_some_iff] at hq;obtain ⟨j,hq,rfl⟩:=hq
    have hj:i<len/\j=i:=by
     rw [List.getElem?_eq_some_iff] at hq;obtain ⟨h1,h2⟩:=hq;simp at h1 h2;exact ⟨h1,h2.symm⟩
    obtain ⟨h1,rfl⟩:=hj
    exact hf _ h1) (by simpa using hl) fun y hy=>Nat.le_trans (hbk.agg _ _ (List.mem_map_of_mem hy)) hB
   rw [List.drop_zero,List.take_of_length_le (by omega)] at this
   exact this
  ·rename_i e hu
   split at h<;>first | (cases h; done) | skip
   rename_i ks' hk
   split at h<;>first | (cases h; done) | skip
   rename_i hlen;obtain ⟨hl1,hl2⟩:=hlen;obtain rfl:=Option.some.inj h
   rcases Go.Deep.open_slice hu hx with ⟨rfl,rfl⟩ | ⟨a,len,cap,m,q,D,Pl,rfl,-,hlc,hcm,hm,rfl,hel⟩
   ·exact .one (.sl ks' (fun _ _=>.any) 0 (Nat.zero_le _) fun i f k hi=>absurd hi (Nat.not_lt_zero _)) (.slnil _ _ _) rfl
   ·simp only [if_true] at hm;obtain rfl:=hm.symm
    have hunk:cap<unk:=Nat.lt_of_le_of_lt hcm (by decide)
    have hsp:0<cap->a.spot=none:=fun h0=>by
     obtain ⟨cs',h1,-⟩:=hel 0 h0
     have:=(World.cells?_some h1).2.2 0 (by omega)
     have hlen':=(World.cells?_some h1).2.1
     rw [List.getElem?_eq_getElem (by omega),Nat.zero_mul] at this
     exact World.cell?_spot (a:=a) (by simpa [Addr.add] using this)
    have one:∀ i,∃ y:List DV×List Value,i<len->y.1.length=ks'.length/\(∀ (f:Nat) k,ks'[f]?=some k->∃ d,y.1[f]?=some d/\HasK B k d)/\DRL (baseC ⟨stOf W,ext⟩) noMu y.1 y.2 /\
      ∀ f,f<ks'.length->∃ u,y.2[f]?=some u/\stOf W a.block (a.off+i*ks'.length+f)=some u/\u.oneCell'=true:=by
     intro i
     by_cases hi:i<len
     ·obtain ⟨cs',h1,h2⟩:=hel i (by omega)
      have hD:bk (D i)<=B:=Nat.le_trans (hbk.sl _ _ (D i) (List.mem_map.2 ⟨i,by simpa using hi,rfl⟩)) hB
      obtain ⟨ds,ws,a1,a2,a3,a4,a5⟩:=opn hbk ext n e ks' hk q cs' (D i,Pl i) h2 hD
      refine ⟨(ds,ws),fun _=>⟨a1,a2,a3,fun f hf=>?_⟩⟩
      have hcell:=(World.cells?_some h1).2.2 f (by omega)
      rw [List.getElem?_eq_getElem (by omega)] at hcell
      obtain ⟨u,hu1,hu2⟩:=a5 f _ (List.getElem?_eq_getElem (by omega))
      refine ⟨u,hu1,?_,(stV_vr hu2 fun _=>none).2⟩
      unfold stOf
      rw [Go.Deep.add_add,add_none (hsp (by omega)),<- hl1] at hcell
      rw [show a.off+i*ks'.length+f=a.off+(i*ks'.length+f) by omega,hcell]
      exact hu2
     ·exact ⟨([],[]),fun h=>absurd h hi⟩
    obtain ⟨Y,hY⟩:=Classical.axiomOfChoice one
    refine .one (d:=.sl false (fun i f=>(Y i).1.getD f .any) ks'.length len) (u:=.slice (some ⟨a.block,a.off,some 0⟩) len cap) (.sl ks' _ len ?_ fun i f k hi hf=>?_) ?_ ?_
    ·refine Nat.le_trans ?_ hB
     have:=hbk.len ((List.range len).map D) ((List.range (cap-len)).map fun j=>D (len+j))
     simpa using this
    ·obtain ⟨d,h1,h2⟩:=(hY i hi).2.1 f k hf;show HasK B k ((Y i).1.getD f .any);rw [List.getD_eq_getElem?_getD,h1];exact h2
    ·refine .sl false _ ks'.length len _ cap (fun i f=>(Y i).2.getD f undef) (.inl ⟨hunk,hlc⟩) hl2 (fun i f hi hf=>?_) fun i f hi hf=>(hY i hi).2.2.1.getD f undef
     obtain ⟨u,h1,h2,h3⟩:=(hY i hi).2.2.2 f hf;show stOf W a.block (a.off+i*ks'.length+f)=some ((Y i).2.getD f undef)/\((Y i).2.getD f undef).oneCell'=true;rw [List.getD_eq_getElem?_getD,h1];exact ⟨h2,h3⟩
    ·show (if len<=cap/\cap<unk/\(cap=0\/a.spot=none) then _ else none)=_
     refine if_pos ⟨hlc,hunk,?_⟩
     rcases Nat.eq_zero_or_pos cap with h0 | h0
     ·exact .inl h0
     ·exact .inr (hsp h0)
end
end Go.DE
