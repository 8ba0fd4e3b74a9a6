/-
 A region whose order is open: whatever order its edges allow,it comes to what the evaluator says (the steps,and the whole).
 Conditions: see the theorems.
-/
import Derived.Test.YtigmkgampfbflaaGreatDoorAeOrd
namespace Go.AE
open Go Go.RowKit
section
variable {P:Program}{w0:World}{st:AE.Stat}{call:CallA}{ops:Array Oper}{n:Nat}{o:Nat->Oper}{T:Nat->Array Value}{S:Nat->Heap}{c:List Nat}
variable {ρ0:Ren}{wI:World}{aI:Act}{listed:Array Bool}{a:Act}{w:World}{ρ:Ren}{cur:HF}{r:Nat}  {rd:Option Nat}
theorem hp_lt {σ:Heap}{id:Nat}{b:Blk}(h:hp σ id=some b):id<σ.length:=by
 rcases Nat.lt_or_ge id σ.length with h1 | h1
 ·exact h1
 ·simp [hp,List.getElem?_eq_none h1] at h
theorem Inv.fresh (R:Reg P st call ops n o T S c) (hcall:RunOk P w0 call) (I:Inv P w0 ops n o T S ρ0 wI aI listed a w ρ cur r) {i:Nat}(hi:i<n) (hun:¬ Lst listed i):Fresh ρ (S i).length (S (i+1)).length:=by
 intro id h1 h2
 cases hr:ρ id with
 | none=>rfl
 | some x =>
  exfalso
  rcases I.mp id (by rw [hr]; simp) with h | h | ⟨k,hk,hl,h3,h4⟩
  ·have:=R.mono hcall (Nat.zero_le i) (by omega)
   omega
  ·have:=R.mono hcall (Nat.succ_le_of_lt hi) (Nat.le_refl n);simp only [Nat.succ_eq_add_one] at this;omega
  ·rcases Nat.lt_trichotomy k i with h | h | h
   ·have:=R.mono hcall (Nat.succ_le_of_lt h) (by omega)
    simp only [Nat.succ_eq_add_one] at this;omega
   ·exact hun (h ▸ hl)
   ·have:=R.mono hcall (Nat.succ_le_of_lt h) (by omega)
    simp only [Nat.succ_eq_add_one] at this;omega
theorem Inv.next_same (R:Reg P st call ops n o T S c) (hcall:RunOk P w0 call) (I:Inv P w0 ops n o T S ρ0 wI aI listed a w ρ cur r) {i:Nat}(hi:i<n) (hun:¬ Lst listed i) (hrd:∀ k∈predsA (o i),Lst listed k)
  {v v':Value}{w1:World}{ρ1:Ren}(hn:Nxt w0 ρ (seen ρ cur (S n).length) w ρ1 (seen ρ cur (S n).length) w1) (hv:VR ρ1 v v') (hT:T (i+1)=putT (T i) (o i).dst v) (hS:S (i+1)=S i) (hc:cls (o i).op≠3) :
  Inv P w0 ops n o T S ρ0 wI aI (listed.setIfInBounds i true) (a.put (o i).dst v') w1 ρ1 (hp (seen ρ cur (S n).length)) (if cls (o i).op=3 then i+1 else r)/\Fr ρ cur w ρ1 (hp (seen ρ cur (S n).length)) w1:=by
 have hρ:ρ1=ρ:=by
  funext id
  exact hn.ext id (by omega)
 subst hρ
 have hsc:∀ id blk,hp (seen ρ1 cur (S n).length) id=some blk->cur id=some blk:=by
  intro id blk e;rw [hp_seen] at e;split at e
  ·exact e
  ·cases e
 refine ⟨I.next R hcall hi hun hrd hn.rel (fun id x h=>h) (.refl _ _ _) (fun id h=>.inl h) (hn.fr.congr_left fun id blk _ e=>hsc id blk e) hv hT ?_ ?_ ?_,hn.fr.congr_left fun id blk _ e=>hsc id blk e⟩
 ·rw [if_neg hc];intro id hid hm;have:=R.mono hcall I.r_le (Nat.le_refl n)
  rw [hp_seen,if_pos ⟨by omega,hm⟩]
  exact I.c1 id hid hm
 ·rw [if_neg hc];intro k hk hkl hrk id h1 h2 hm
  rcases hkl with rfl | hkl
  ·rw [hS] at h2; omega
  ·have:=R.mono hcall (Nat.succ_le_of_lt hk) (Nat.le_refl n);simp only [Nat.succ_eq_add_one] at this
   rw [hp_seen,if_pos ⟨by omega,hm⟩]
   exact I.c2 k hk hkl hrk id h1 h2 hm
 ·intro id hid
  rw [hp_seen,if_neg (by omega)]
theorem Inv.next_new (R:Reg P st call ops n o T S c) (hcall:RunOk P w0 call) (I:Inv P w0 ops n o T S ρ0 wI aI listed a w ρ cur r) {i:Nat}(hi:i<n) (hun:¬ Lst listed i) (hrd:∀ k∈predsA (o i),Lst listed k)
  {v v':Value}{w1:World}{ρ1:Ren}{b:Option Blk}(hn:Nxt w0 ρ (List.replicate (S i).length none) w ρ1 (List.replicate (S i).length none++[b]) w1) (hv:VR ρ1 v v') (hT:T (i+1)=putT (T i) (o i).dst v)
  (hS:S (i+1)=S i++[b]) (hc:cls (o i).op=2) (hw:Region.wanted (o i) (yielded ops (T i))=true) :
  ∃ cur1,Inv P w0 ops n o T S ρ0 wI aI (listed.setIfInBounds i true) (a.put (o i).dst v') w1 ρ1 cur1 (if cls (o i).op=3 then i+1 else r)/\Fr ρ cur w ρ1 cur1 w1:=by
 have hc3:cls (o i).op≠3:=by rw [hc]; decide
 have hrep:∀ id blk,hp (List.replicate (S i).length none) id=some blk->False:=by
  intro id blk e;unfold hp at e;rw [List.getElem?_replicate] at e
  split at e<;>simp at e
 have hL:(List.replicate (S i).length (none:Option Blk)).length=(S i).length:=by simp
 have hnewb:hp (List.replicate (S i).length none++[b]) (S i).length=b:=by
  have:=hp_new (List.replicate (S i).length none) b
  rwa [hL] at this
 have hfresh:=I.fresh R hcall hi hun
 have hlen1:(S (i+1)).length=(S i).length+1:=by rw [hS]; simp
 have hN:(S (i+1)).length<=(S n).length:=R.mono hcall (Nat.succ_le_of_lt hi) (Nat.le_refl n)
 have hext:∀ id,id≠(S i).length->ρ1 id=ρ id:=by
  intro id hid;refine hn.ext id ?_;simp;omega
 have hle:ρ.le ρ1:=by
  intro id x hx
  by_cases e:id=(S i).length
  ·subst e
   rw [hfresh _ (Nat.le_refl _) (by omega)] at hx
   cases hx
  ·rw [hext id e]; exact hx
 have hun1:∀ k,k<w.heap.size->w1.heap[k]?=w.heap[k]?:=fun k hk=>hn.fr.fr k hk fun ⟨id,x,y,blk,e1,e2⟩=>hrep id blk e2
 have hnewge:∀ k x y blk,ρ1 (S i).length=some (k,x,y)->b=some blk->w.heap.size<=k:=by
  intro k x y blk e1 e2
  rcases Nat.lt_or_ge k w.heap.size with h | h
  ·obtain ⟨id,_,_,blk',_,e4⟩:=hn.fr.img k ⟨_,x,y,blk,e1,by rw [hnewb,e2]⟩ h
   exact (hrep id blk' e4).elim
  ·exact h
 have hfrn:Fr ρ cur w ρ1 (fun id=>if id=(S i).length then b else cur id) w1:=by
  refine ⟨hn.fr.size,fun k hk _=>hun1 k hk,?_⟩
  intro k ⟨id,x,y,blk,e1,e2⟩ hk
  by_cases e:id=(S i).length
  ·exfalso
   subst e;simp only [if_true] at e2;have:=hnewge k x y blk e1 e2;omega
  ·simp only [e,if_false] at e2;rw [hext id e] at e1;exact ⟨id,x,y,blk,e1,e2⟩
 refine ⟨fun id=>if id=(S i).length then b else cur id,?_,hfrn⟩
 refine I.next R hcall hi hun hrd ⟨hn.rel.below,hn.rel.dyn,?_,?_⟩ hle ?_ ?_ hfrn hv hT ?_ ?_ ?_
 ·intro id k x y blk e1 e2
  by_cases e:id=(S i).length
  ·subst e;simp only [if_true] at e2
   exact hn.rel.cont _ k x y blk e1 (by rw [hnewb,e2])
  ·simp only [e,if_false] at e2;rw [hext id e] at e1;obtain ⟨ob,ho,hcont⟩:=I.rel.cont id k x y blk e1 e2;exact ⟨ob,(hun1 k (I.rel.dyn id k x y e1).2).trans ho,hcont.mono hle⟩
 ·intro p q k x y x' y' bp bq e1 e2 e3 e4
  by_cases hp1:p=(S i).length
  ·by_cases hq1:q=(S i).length
   ·rw [hp1,hq1]
   ·exfalso
    subst hp1;simp only [if_true] at e3;rw [hext q hq1] at e2;have:=(I.rel.dyn q k x' y' e2).2;have:=hnewge k x y bp e1 e3;omega
  ·by_cases hq1:q=(S i).length
   ·exfalso
    subst hq1;simp only [if_true] at e4;rw [hext p hp1] at e1;have:=(I.rel.dyn p k x y e1).2;have:=hnewge k x' y' bq e2 e4;omega
   ·simp only [hp1,if_false] at e3;simp only [hq1,if_false] at e4;rw [hext p hp1] at e1;rw [hext q hq1] at e2;exact I.rel.inj p q k x y x' y' bp bq e1 e2 e3 e4
 ·intro id hid
  refine hext id fun e=>?_
  have:=R.mono hcall (Nat.zero_le i) (by omega)
  omega
 ·intro id h
  by_cases e:id=(S i).length
  ·exact .inr ⟨by omega,by omega⟩
  ·rw [hext id e] at h; exact .inl h
 ·rw [if_neg hc3];intro id hid hm
  by_cases e:id=(S i).length
  ·subst e;simp only [if_true]
   have hir:i<r:=by
    rcases Nat.lt_or_ge i r with h | h
    ·exact h
    ·have:=R.mono hcall h (by omega)
     omega
   have up:∀ d k,i+1+d=k->k<=r->hp (S k) (S i).length=b:=by
    intro d
    induction d with
    | zero =>
     intro k hk _
     obtain rfl:k=i+1:=by omega
     rw [hS];exact hp_new _ _
    | succ d ih =>
     intro k hk hkr
     obtain ⟨q,rfl⟩:∃ q,k=q+1:=⟨k-1,by omega⟩
     have hqn:q<n:=by have:=I.r_le; omega
     rw [<- ih q (by omega) (by omega)]
     by_cases hq:cls (o q).op≠3\/Region.wanted (o q) (yielded ops (T q))=false
     ·refine R.hp_quiet hqn hq ?_
      have:=R.mono hcall (show i+1<=q by omega) (by omega)
      omega
     ·simp only [ne_eq,not_or,Decidable.not_not,Bool.not_eq_false] at hq
      have hql:Lst listed q:=(I.ch q hqn hq.1).2 (by omega)
      have h1:ordA c i q=false:=by
       cases h:ordA c i q with
       | false=>rfl
       | true=>exact absurd (R.closed (L:=Lst listed) I.dc q hqn (I.dc q hqn hql) i h) hun
      have h2:ordA c q i=false:=by
       cases h:ordA c q i with
       | false=>rfl
       | true=>have:=R.lt i hi q h; omega
      have:=R.al i q (by omega) hqn hc hw hq.1 hq.2 h1 h2
      simp only [hp,this]
   exact (up (r-(i+1)) r (by omega) (Nat.le_refl r)).symm
  ·simp only [e,if_false];rw [hext id e] at hm;exact I.c1 id hid hm
 ·rw [if_neg hc3];intro k hk hkl hrk id h1 h2 hm
  by_cases e:k=i
  ·subst e
   obtain rfl:id=(S k).length:=by omega
   simp only [if_true];rw [hS];exact (hp_new _ _).symm
  ·have hne:id≠(S i).length:=by
    rcases Nat.lt_or_ge k i with h | h
    ·have:=R.mono hcall (Nat.succ_le_of_lt h) (by omega)
     simp only [Nat.succ_eq_add_one] at this;omega
    ·have:=R.mono hcall (show i+1<=k by omega) (by omega)
     omega
   simp only [hne,if_false];rw [hext id hne] at hm;exact I.c2 k hk (hkl.resolve_left e) hrk id h1 h2 hm
 ·intro id hid
  have:id≠(S i).length:=by omega
  simp only [this,if_false];exact I.c4 id hid
theorem Inv.next_chain (R:Reg P st call ops n o T S c) (hcall:RunOk P w0 call) (I:Inv P w0 ops n o T S ρ0 wI aI listed a w ρ cur r) {i:Nat}(hi:i<n) (hun:¬ Lst listed i) (hrd:∀ k∈predsA (o i),Lst listed k)
  {v v':Value}{w1:World}{ρ1:Ren}(hn:Nxt w0 ρ (S i) w ρ1 (S (i+1)) w1) (hv:VR ρ1 v v') (hT:T (i+1)=putT (T i) (o i).dst v) (hc:cls (o i).op=3)
  (hat:∀ id,id<(S i).length->ρ id≠none->cur id=hp (S i) id) (hri:r<=i) :
  ∃ cur1,Inv P w0 ops n o T S ρ0 wI aI (listed.setIfInBounds i true) (a.put (o i).dst v') w1 ρ1 cur1 (if cls (o i).op=3 then i+1 else r)/\Fr ρ cur w ρ1 cur1 w1:=by
 have hfresh:=I.fresh R hcall hi hun;have hN:(S (i+1)).length<=(S n).length:=R.mono hcall (Nat.succ_le_of_lt hi) (Nat.le_refl n);have hle:ρ.le ρ1:=hn.ext.le hfresh
 have him:∀ k,Img ρ (hp (S i)) k->∃ id x y blk,ρ id=some (k,x,y)/\cur id=some blk/\id<(S i).length:=by
  intro k ⟨id,x,y,blk,e1,e2⟩;have:=hp_lt e2
  exact ⟨id,x,y,blk,e1,by rw [hat id this (by rw [e1]; simp),e2],this⟩
 have hold:∀ id,(S (i+1)).length<=id->ρ1 id=ρ id:=fun id h=>hn.ext id (.inr h)
 have hearly:∀ id k x y blk,(S (i+1)).length<=id->ρ id=some (k,x,y)->cur id=some blk->¬ Img ρ (hp (S i)) k:=by
  intro id k x y blk h e1 e2 hi';obtain ⟨id',x',y',blk',e3,e4,h5⟩:=him k hi';have:=I.rel.inj id id' k x y x' y' blk blk' e1 e3 e2 e4;have:=R.len hcall hi;omega
 have hfrn:Fr ρ cur w ρ1 (fun id=>if id<(S (i+1)).length then hp (S (i+1)) id else cur id) w1:=by
  refine ⟨hn.fr.size,?_,?_⟩
  ·intro k hk hi'
   exact hn.fr.fr k hk fun hx=>hi' (let ⟨id,x,y,blk,e1,e2,_⟩:=him k hx; ⟨id,x,y,blk,e1,e2⟩)
  ·intro k ⟨id,x,y,blk,e1,e2⟩ hk
   by_cases e:id<(S (i+1)).length
   ·simp only [e,if_true] at e2;obtain ⟨id',x',y',blk',e3,e4,_⟩:=him k (hn.fr.img k ⟨id,x,y,blk,e1,e2⟩ hk);exact ⟨id',x',y',blk',e3,e4⟩
   ·simp only [e,if_false] at e2
    rw [hold id (by omega)] at e1
    exact ⟨id,x,y,blk,e1,e2⟩
 refine ⟨fun id=>if id<(S (i+1)).length then hp (S (i+1)) id else cur id,?_,hfrn⟩
 refine I.next R hcall hi hun hrd ⟨hn.rel.below,hn.rel.dyn,?_,?_⟩ hle ?_ ?_ hfrn hv hT ?_ ?_ ?_
 ·intro id k x y blk e1 e2
  by_cases e:id<(S (i+1)).length
  ·simp only [e,if_true] at e2;exact hn.rel.cont id k x y blk e1 e2
  ·simp only [e,if_false] at e2
   rw [hold id (by omega)] at e1
   obtain ⟨ob,ho,hcont⟩:=I.rel.cont id k x y blk e1 e2
   exact ⟨ob,(hn.fr.fr k (I.rel.dyn id k x y e1).2 (hearly id k x y blk (by omega) e1 e2)).trans ho,hcont.mono hle⟩
 ·intro p q k x y x' y' bp bq e1 e2 e3 e4
  have mixed:∀ p q x y x' y' bp bq,p<(S (i+1)).length->¬ q<(S (i+1)).length->ρ1 p=some (k,x,y)->ρ1 q=some (k,x',y')->hp (S (i+1)) p=some bp->cur q=some bq->False:=by
   intro p q x y x' y' bp bq h1 h2 e1 e2 e3 e4
   rw [hold q (by omega)] at e2
   exact hearly q k x' y' bq (by omega) e2 e4 (hn.fr.img k ⟨p,x,y,bp,e1,e3⟩ (I.rel.dyn q k x' y' e2).2)
  by_cases hp1:p<(S (i+1)).length
  ·simp only [hp1,if_true] at e3
   by_cases hq1:q<(S (i+1)).length
   ·simp only [hq1,if_true] at e4;exact hn.rel.inj p q k x y x' y' bp bq e1 e2 e3 e4
   ·simp only [hq1,if_false] at e4;exact (mixed p q x y x' y' bp bq hp1 hq1 e1 e2 e3 e4).elim
  ·simp only [hp1,if_false] at e3
   by_cases hq1:q<(S (i+1)).length
   ·simp only [hq1,if_true] at e4;exact (mixed q p x' y' x y bq bp hq1 hp1 e2 e1 e4 e3).elim
   ·simp only [hq1,if_false] at e4
    rw [hold p (by omega)] at e1
    rw [hold q (by omega)] at e2
    exact I.rel.inj p q k x y x' y' bp bq e1 e2 e3 e4
 ·intro id hid;refine hn.ext id ?_
  have:=R.mono hcall (Nat.zero_le i) (by omega)
  omega
 ·intro id h
  by_cases e:(S i).length<=id/\id<(S (i+1)).length
  ·exact .inr e
  ·rw [hn.ext id (by omega)] at h; exact .inl h
 ·rw [if_pos hc];intro id hid _;simp only [hid,if_true]
 ·rw [if_pos hc];intro k hk hkl hrk id h1 h2 hm
  have hne:¬ id<(S (i+1)).length:=by
   have:=R.mono hcall hrk (by omega)
   omega
  simp only [hne,if_false]
  rw [hold id (by omega)] at hm
  exact I.c2 k hk (hkl.resolve_left (by omega)) (by omega) id h1 h2 hm
 ·intro id hid
  have hne:¬ id<(S (i+1)).length:=by omega
  simp only [hne,if_false];exact I.c4 id hid
theorem Inv.step (R:Reg P st call ops n o T S c) (hcall:RunOk P w0 call) (hst:GoodSt w0 st) {Q:Exit->Act->World->Prop}{K:Act->World->Prop}(I:Inv P w0 ops n o T S ρ0 wI aI listed a w ρ cur r) {i:Nat}(hi:i<n)
  (hun:¬ Lst listed i) (hrd:∀ k∈predsA (o i),Lst listed k) (hK:∀ v1 w1 ρ1 cur1 r1,Inv P w0 ops n o T S ρ0 wI aI (listed.setIfInBounds i true) (a.put (o i).dst v1) w1 ρ1 cur1 r1->Fr ρ cur w ρ1 cur1 w1->K (a.put (o i).dst v1) w1):wpOpIn (FR rd) 0 P ops Q i K a w:=by
 unfold wpOpIn;rw [R.op i hi];simp only
 have hsz:(T i).size=a.tmps.size:=by rw [I.tsz,R.tsize i (by omega)]
 have hlk:=fun t (ht:t∈(o i).looksAt ops)=>I.looks R hi hun hrd ht
 obtain ⟨hg,hcase⟩:=step_cases (R.step i hi);rw [guard_looks hsz hlk hg]
 have hchain:cls (o i).op=3->r<=i/\∀ id,id<(S i).length->ρ id≠none->cur id=hp (S i) id:=by
  intro hc
  have hri:r<=i:=by
   rcases Nat.lt_or_ge i r with h | h
   ·exact absurd ((I.ch i hi hc).2 h) hun
   ·exact h
  exact ⟨hri,I.at R hcall (by omega) hri fun k hk ck=>R.closed (L:=Lst listed) I.dc i hi hrd k (R.chain k i hk hi ck hc)⟩
 rcases hcase with ⟨hw,v,hv,hT⟩ | ⟨hw,hT,hS⟩
 ·rw [if_pos hw]
  have hev:∀ x∈(o i).op.operands,VR ρ (evalT (T i) x) (a.eval x):=by
   intro x hx
   refine evalT_looks hsz (fun t ht=>hlk t ?_) fun u hu=>?_
   ·unfold Oper.looksAt;refine List.mem_append.2 (.inl ?_);rw [List.mem_filterMap]
    exact ⟨x,by simpa using hx,by rw [ht]⟩
   ·have hck:constsOk (o i).op=true:=by
     unfold opA at hv;split at hv
     ·assumption
     ·cases hv
    unfold constsOk at hck
    have:=List.all_eq_true.1 hck x (by simpa using hx)
    rw [hu] at this;exact this
  by_cases hc:cls (o i).op=3
  ·obtain ⟨hri,hat⟩:=hchain hc
   have hR:Rel w0 ρ (hp (S i)) w:=I.rel.congr fun id blk hm e=>by rw [hat id (hp_lt e) hm,e]
   refine (opA_next hcall hst hR (I.fresh R hcall hi hun) hev hv).wp (constsOk_defer hv) fun v' w' ho=>?_
   obtain ⟨ρ1,hn,hvr⟩:=ho;obtain ⟨cur1,I',hf1⟩:=I.next_chain R hcall hi hun hrd hn hvr hT hc hat hri;exact hK _ _ _ _ _ I' hf1
  ·have hRs:Rel w0 ρ (hp (seen ρ cur (S n).length)) w:=I.rel.congr fun id blk hm e=>by
    rw [hp_seen] at e;split at e
    ·exact e
    ·cases e
   rcases R.kinds hi hc hv with ⟨hS,hfree⟩ | ⟨hc1,hS,hl,hloads⟩ | ⟨hc2,b,hS,hnews⟩ | ⟨hS,hreads,hq⟩
   ·refine (opA_next hcall hst hRs (fun id h1 h2=>by omega) hev (hfree _)).wp (constsOk_defer hv) fun v' w' ho=>?_
    obtain ⟨ρ1,hn,hvr⟩:=ho;exact hK _ _ _ _ _ (I.next_same R hcall hi hun hrd hn hvr hT hS hc).1 (I.next_same R hcall hi hun hrd hn hvr hT hS hc).2
   ·have hls:=I.loads R hcall hi hun hrd hc1 hw hl (by
     intro t x y ho hy hsp
     have hx:=hev x (by rw [ho]; simp [Op.operands])
     rw [hy] at hx;generalize he:a.eval x=z at hx
     cases hx with
     | ptr _ a' ha =>
      rcases ha.2 with ⟨s,h1,_,_⟩ | ⟨_,b,base,N,h1,_,_⟩
      ·rw [hsp] at h1; cases h1
      ·rw [h1]; simp)
    refine (opA_next hcall hst hRs (fun id h1 h2=>by omega) hev (hloads _ hls)).wp (constsOk_defer hv) fun v' w' ho=>?_
    obtain ⟨ρ1,hn,hvr⟩:=ho;exact hK _ _ _ _ _ (I.next_same R hcall hi hun hrd hn hvr hT hS hc).1 (I.next_same R hcall hi hun hrd hn hvr hT hS hc).2
   ·have hR0:Rel w0 ρ (hp (List.replicate (S i).length none)) w:=I.rel.congr fun id blk hm e=>by
     unfold hp at e;rw [List.getElem?_replicate] at e
     split at e<;>simp at e
    have hf:Fresh ρ (List.replicate (S i).length (none:Option Blk)).length (List.replicate (S i).length (none:Option Blk)++[b]).length:=by
     intro id h1 h2;simp at h1 h2;refine I.fresh R hcall hi hun id h1 ?_;rw [hS];simp;omega
    refine (opA_next hcall hst hR0 hf hev (hnews _ (by simp))).wp (constsOk_defer hv) fun v' w' ho=>?_
    obtain ⟨ρ1,hn,hvr⟩:=ho;obtain ⟨cur1,I',hf1⟩:=I.next_new R hcall hi hun hrd hn hvr hT hS hc2 hw;exact hK _ _ _ _ _ I' hf1
   ·have hsi:∀ id,id<(S i).length->ρ id≠none->cur id=hp (S i) id:=by
     intro id hid hm
     rcases Nat.lt_or_ge i r with hir | hir
     ·have hno:∀ k,i<=k->k<r->cls (o k).op≠3\/Region.wanted (o k) (yielded ops (T k))=false:=by
       intro k hik hkr
       by_cases ck:cls (o k).op=3
       ·exfalso
        have hkn:k<n:=by have:=I.r_le; omega
        have hkl:Lst listed k:=(I.ch k hkn ck).2 hkr
        have hne:k≠i:=fun e=>hun (e ▸ hkl)
        exact hun (R.closed (L:=Lst listed) I.dc k hkn (I.dc k hkn hkl) i ((hq k hkn ck).2 (by omega)))
       ·exact .inl ck
      rw [<- R.adv hcall (Nat.le_of_lt hir) I.r_le hno hid];have:=R.mono hcall (Nat.le_of_lt hir) I.r_le
      exact I.c1 id (by omega) hm
     ·exact I.at R hcall (by omega) hir (fun k hk ck=>R.closed (L:=Lst listed) I.dc i hi hrd k ((hq k (by omega) ck).1 hk)) id hid hm
    have hld:∀ src dst x a n' c',(o i).op=.convert src dst x->evalT (T i) x=.slice (some a) n' c'->n'≠0->loadN st (S i) a n'≠none->loadN st (seen ρ cur (S n).length) a n'=loadN st (S i) a n':=by
     intro src dst x y n' c' ho hy hn0 hne;unfold loadN at hne;unfold loadN
     cases hsp:y.spot with
     | some q=>rfl
     | none =>
      have hx:=hev x (by rw [ho]; simp [Op.operands])
      rw [hy] at hx
      have hm:ρ y.block≠none:=by
       generalize a.eval x=z at hx
       cases hx with
       | sliceX _ a' _ _ h1 h2 h3 =>
        rcases h3 with h3 | h3
        ·omega
        ·rcases h3.2 with ⟨q,h4,_,_⟩ | ⟨_,b,base,N,h4,_,_⟩
         ·rw [hsp] at h4; cases h4
         ·rw [h4]; simp
       | sliceU _ a' _ _ cap' sz h0 h1 h2 h3 =>
        rcases h3 with h3 | ⟨_,_,b,base,N,h4,_⟩
        ·omega
        ·rw [h4]; simp
      have hSn:=R.mono hcall (show i<=n by omega) (Nat.le_refl n)
      have e:(seen ρ cur (S n).length)[y.block]?=(S i)[y.block]?:=by
       by_cases hlt:y.block<(S i).length
       ·have h1:=hsi y.block hlt hm;have h2:(S i)[y.block]?=some (S i)[y.block]:=List.getElem?_eq_getElem hlt;unfold hp at h1;rw [h2] at h1;unfold seen
        rw [List.getElem?_map,List.getElem?_range (by omega),h2]
        cases hr:ρ y.block with
        | none=>exact (hm hr).elim
        | some q =>
         simp only [Option.map_some,hr,Option.isSome_some,if_true,h1];rfl
       ·exfalso
        rw [hsp,List.getElem?_eq_none (by omega)] at hne
        exact hne rfl
      simp only [e]
    refine (opA_next hcall hst hRs (fun id h1 h2=>by omega) hev (hreads _ hld)).wp (constsOk_defer hv) fun v' w' ho=>?_
    obtain ⟨ρ1,hn,hvr⟩:=ho;exact hK _ _ _ _ _ (I.next_same R hcall hi hun hrd hn hvr hT hS hc).1 (I.next_same R hcall hi hun hrd hn hvr hT hS hc).2
 ·rw [if_neg (by rw [hw]; simp)]
  refine ⟨fun _ _=>trivial,hK _ _ ρ cur _ (I.next R hcall hi hun hrd I.rel (fun id x h=>h) (.refl _ _ _) (fun id h=>.inl h) (.refl _ _ _) (flat_VR ρ rfl) hT ?_ ?_ I.c4) (.refl _ _ _)⟩
  ·split
   ·rename_i hc;rw [hS];exact (hchain hc).2
   ·exact I.c1
  ·intro k hk hkl hrk id h1 h2 hm
   rcases hkl with rfl | hkl
   ·rw [hS] at h2; omega
   ·refine I.c2 k hk hkl ?_ id h1 h2 hm;split at hrk
    ·rename_i hc;have:=(hchain hc).1;omega
    ·exact hrk
theorem filter_less {p q:Nat->Bool}:∀ (l:List Nat),(∀ x∈l,q x=true->p x=true)->(∃ x∈l,p x=true/\q x=false)->(l.filter q).length<(l.filter p).length
 | [],_,⟨x,hx,_⟩=>by simp at hx
 | y :: l,hqp,hex=>by
  have hle:(l.filter q).length<=(l.filter p).length:=by
   have:∀ (l:List Nat),(∀ x∈l,q x=true->p x=true)->(l.filter q).length<=(l.filter p).length:=by
    intro l
    induction l with
    | nil=>intro _; simp
    | cons z l ih =>
     intro h
     have ih:=ih fun x hx=>h x (by simp [hx])
     have hz:=h z (by simp)
     cases hq:q z with
     | true=>simp [hq,hz hq,ih]
     | false=>cases hp:p z<;>simp [hq,hp]<;>omega
   exact this l fun x hx=>hqp x (by simp [hx])
  obtain ⟨x,hx,h1,h2⟩:=hex
  rcases List.mem_cons.1 hx with rfl | hx
  ·simp [h1,h2];omega
  ·have ih:=filter_less l (fun x hx=>hqp x (by simp [hx])) ⟨x,hx,h1,h2⟩
   have hy:=hqp y (by simp)
   cases hq:q y with
   | true=>simp [hq,hy hq,ih]
   | false=>cases hp:p y<;>simp [hq,hp]<;>omega
def left (n:Nat) (listed:Array Bool):Nat:=((List.range n).filter fun i=>!listed.getD i false).length
theorem Inv.all (R:Reg P st call ops n o T S c) (hcall:RunOk P w0 call) (hst:GoodSt w0 st) {Q:Exit->Act->World->Prop}
  (hQ:∀ a1 w1 ρ1,Nxt w0 ρ0 (S 0) wI ρ1 (S n) w1->VRA ρ1 (T n) a1.tmps->a1.defers=aI.defers->Q .normal a1 w1):∀ (fuel:Nat) (listed:Array Bool) (a:Act) (w:World) (ρ:Ren) (cur:HF) (r:Nat),
  Inv P w0 ops n o T S ρ0 wI aI listed a w ρ cur r->left n listed<=fuel->wpAnyIn (FR rd) 0 P .any ops Q fuel listed a w:=by
 have fin:∀ (listed:Array Bool) (a:Act) (w:World) (ρ:Ren) (cur:HF) (r:Nat),Inv P w0 ops n o T S ρ0 wI aI listed a w ρ cur r->(∀ i,i<n->Lst listed i)->Q .normal a w:=by
  intro listed a w ρ cur r I hall
  have hat:=I.at R hcall (Nat.le_refl n) I.r_le fun k hk _=>hall k hk
  have heq:∀ id blk,ρ id≠none->hp (S n) id=some blk->cur id=some blk:=fun id blk hm e=>by rw [hat id (hp_lt e) hm,e]
  refine hQ a w ρ ⟨R.mono hcall (Nat.zero_le n) (Nat.le_refl n),I.ext,I.fr.congr heq,I.rel.congr heq⟩ ?_ I.dfr
  refine ⟨by rw [I.tsz,R.tsize n (Nat.le_refl n)],fun t v v' hv hv'=>?_⟩
  obtain ⟨u,h1,h2⟩:=I.tmp t n (Nat.le_refl n) (fun i hi _=>⟨fun _=>hi,fun _=>hall i hi⟩) v hv
  obtain rfl:=Option.some.inj (h1.symm.trans hv');exact h2
 have nil_all:∀ (listed:Array Bool),listed.size=n->Region.ready .any ops listed=[]->∀ i,i<n->Lst listed i:=by
  intro listed hs hr i
  induction i using Nat.strongRecOn with
  | _ i ih =>
   intro hi
   cases hl:listed.getD i false with
   | true=>exact hl
   | false =>
    exfalso
    have:i∈Region.ready .any ops listed:=by
     rw [mem_ready]
     refine ⟨?_,o i,R.op i hi,fun e he hb=>?_⟩
     ·have hi':i<listed.size:=by omega
      simp [hi'] at hl ⊢;exact hl
     ·have hk:e.on∈predsA (o i):=by
       unfold predsA;rw [List.mem_filterMap]
       exact ⟨e,by simpa using he,by simp [hb]⟩
      have:=R.pre i hi _ hk
      exact ih _ this (by omega)
    rw [hr] at this;cases this
 intro fuel
 induction fuel with
 | zero =>
  intro listed a w ρ cur r I hl
  have hall:∀ i,i<n->Lst listed i:=by
   intro i hi
   cases hh:listed.getD i false with
   | true=>exact hh
   | false =>
    exfalso
    have:i∈(List.range n).filter fun i=>!listed.getD i false:=by
     rw [List.mem_filter]
     exact ⟨by simp [hi],by simp [hh]⟩
    unfold left at hl
    have h0:(List.range n).filter (fun i=>!listed.getD i false)=[]:=List.eq_nil_of_length_eq_zero (by omega)
    rw [h0] at this;cases this
  refine ⟨?_,fin listed a w ρ cur r I hall⟩
  cases hr:Region.ready .any ops listed with
  | nil=>rfl
  | cons x xs =>
   exfalso
   have hx:x∈Region.ready .any ops listed:=by rw [hr]; simp
   rw [mem_ready] at hx;obtain ⟨h1,ox,h2,_⟩:=hx
   have hxn:x<n:=by
    have:=(Array.getElem?_eq_some_iff.1 h2).1;rw [R.size] at this;exact this
   have:=hall x hxn;unfold Lst at this
   have hx':x<listed.size:=by rw [I.hsz]; exact hxn
   simp [hx'] at h1 this;rw [h1] at this;cases this
 | succ fuel ih =>
  intro listed a w ρ cur r I hl
  refine ⟨fun hr=>fin listed a w ρ cur r I (nil_all listed I.hsz hr),fun i hi=>?_⟩
  rw [mem_ready] at hi;obtain ⟨h1,oi,h2,h3⟩:=hi
  have hin:i<n:=by
   have:=(Array.getElem?_eq_some_iff.1 h2).1;rw [R.size] at this;exact this
  obtain rfl:oi=o i:=Option.some.inj (h2.symm.trans (R.op i hin))
  have hi':i<listed.size:=by rw [I.hsz]; exact hin
  have hun:¬ Lst listed i:=by
   unfold Lst;simp [hi'] at h1 ⊢;exact h1
  refine I.step R hcall hst hin hun (fun k hk=>?_) fun v1 w1 ρ1 cur1 r1 I' _=>ih _ _ _ _ _ _ I' ?_
  ·unfold predsA at hk;rw [List.mem_filterMap] at hk;obtain ⟨e,he,hb⟩:=hk;split at hb
   ·rename_i hb1;obtain rfl:=Option.some.inj hb
    exact h3 e (by simpa using he) hb1
   ·cases hb
  ·have:left n (listed.setIfInBounds i true)<left n listed:=by
    unfold left
    refine filter_less _ (fun x _ hx=>?_) ⟨i,by simp [hin],?_,?_⟩
    ·simp only [Bool.not_eq_true'] at hx ⊢
     by_cases e:i=x
     ·subst e;simp [hi'] at hx
     ·rwa [getD_set_ne false e] at hx
    ·unfold Lst at hun
     simpa using hun
    ·simp [hi']
   omega
theorem drawA_sound {Q:Exit->Act->World->Prop}{id:Nat}{τ τ':Array Value}{σ σ':Heap}(hcall:RunOk P w0 call) (hst:GoodSt w0 st) (hm:P.follows .mixedOrders=true) (h:drawA P st call ops τ σ=some (τ',σ'))
  (hR:Rel w0 ρ (hp σ) w) (hfr:Fresh ρ σ.length σ'.length) (ht:VRA ρ τ a.tmps)
  (hQ:∀ a1 w1 ρ1,Nxt w0 ρ σ w ρ1 σ' w1->VRA ρ1 τ' a1.tmps->a1.defers=a.defers->Q .normal a1 w1):(Code.region id ops true).wpIn (FR rd) 0 P Q a w:=by
 unfold drawA at h;split at h
 ·rename_i hs;split at h
  ·rename_i tr htr;split at h
   ·rename_i hd;obtain ⟨o,T,S,R,h0,h1,hl⟩:=reg_of_draw hs htr hd;rw [h] at hl;simp only [Option.some.injEq,Prod.mk.injEq] at hl;obtain ⟨rfl,rfl⟩:=hl;subst h0;subst h1
    have hnl:∀ i,¬ Lst (Array.replicate ops.size false) i:=by
     intro i;unfold Lst
     by_cases h:i<ops.size<;>simp [h]
    have I:Inv P w0 ops ops.size o T S ρ w a (Array.replicate ops.size false) a { w with drawn:=w.drawn+1 } ρ (hp (S 0)) 0:=by
     refine ⟨by simp,fun i _ hl=>absurd hl (hnl i),Nat.zero_le _,fun i _ _=>⟨fun h=>absurd h (hnl i),fun h=>by omega⟩,hR.drew _,fun _ _ _=>rfl,fun i _ hl=>absurd hl (hnl i),?_,?_,.refl _ _ _,
      ⟨Nat.le_refl _,fun _ _ _=>rfl,fun _ h _=>h⟩,ht.1.symm,?_,rfl⟩
     ·intro id hid;have:=R.mono hcall (Nat.zero_le _) (Nat.le_refl _)
      simp [hp,List.getElem?_eq_none (show (S 0).length<=id by omega)]
     ·intro id hid
      rcases Nat.lt_or_ge id (S 0).length with h | h
      ·exact .inl h
      ·rcases Nat.lt_or_ge id (S ops.size).length with h' | h'
       ·exact absurd (hfr id h h') hid
       ·exact .inr (.inl h')
     ·intro t m hm hw v hv
      have hk:(T m)[t]?=(T 0)[t]?:=R.tkeep (Nat.zero_le m) hm fun k _ hkm hkd=>absurd ((hw k (by omega) hkd).2 hkm) (hnl k)
      rw [hk] at hv;exact ht.get hv
    refine wpIn_region_any hm (Inv.all R hcall hst (fun a1 w1 ρ1 hn hv hdf=>hQ a1 w1 ρ1 hn hv hdf) _ _ _ _ _ _ _ I ?_)
    unfold left
    have:=List.length_filter_le (fun i=>!(Array.replicate ops.size false).getD i false) (List.range ops.size)
    simpa using this
   ·cases h
  ·cases h
 ·cases h
end
end Go.AE
