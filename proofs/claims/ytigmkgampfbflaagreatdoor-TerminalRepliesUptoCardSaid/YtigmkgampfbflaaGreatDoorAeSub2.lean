/-
 A closed call,run once on a small heap of its own,as an answer at every heap that holds such a part: the theorem.
 Conditions: see the theorems.
-/
import Derived.Test.YtigmkgampfbflaaGreatDoorAeFast4
namespace Go.AE
open Go Go.RowKit
def FnAt (P:Program) (w0:World) (f:FuncId) (args:List Value) (σ:Heap) (v:Value) (σ':Heap):Prop :=
 σ.length<=σ'.length/\∀ ρ w args',Rel w0 ρ (hp σ) w->Fresh ρ σ.length σ'.length->VRL ρ args args' ->
  Calls P f args'.toArray w fun e w'=>∃ v',e=.returned v'/\OpOut w0 ρ σ w v σ' v' w'
structure SubIn (ι:Emb) (σ0:Heap) (H:HF) (args0 args:List Value):Prop where
 blk:∀ i,i<σ0.length->∃ j b',ι i=some j/\H j=some b'/\∀ b,hp σ0 i=some b->eqB ι b b'=true
 none:∀ i,σ0.length<=i->ι i=none
 inj:∀ i j x,ι i=some x->ι j=some x->i=j
 args:eqL (eqV ι 6) args0 args=true
structure SubOut (κ:Emb) (n0:Nat) (L1:Heap) (H:HF) (v1 v0:Value):Prop where
 len:n0<=L1.length
 old:∀ i,i<n0->κ i=some i
 new:∀ i j,n0<=i->κ i=some j->n0<=j
 inj:∀ i j x,κ i=some x->κ j=some x->i=j
 blk:∀ i b,hp L1 i=some b->∃ j b',κ i=some j/\H j=some b'/\eqB κ b b'=true
 val:eqV κ 6 v1 v0=true
def growE (ι:Emb) (n0 n1 N:Nat):Emb:=fun i=>if i<n0 then ι i else if i<n1 then some (N+(i-n0)) else none
def AtE (ι:Emb) (L1:Heap) (i:Nat) (b:Option Blk):Prop:=(hp L1 i=none/\b=none)\/∃ x y,hp L1 i=some x/\rnB ι x=some y/\b=some y
structure SubEd (ι:Emb) (n0:Nat) (σ0 L1:Heap) (σ σ':Heap) (v1 v:Value):Prop where
 len:σ'.length=σ.length+(L1.length-n0)
 old:∀ i j,i<n0->ι i=some j->hp σ0 i≠none->AtE (growE ι n0 L1.length σ.length) L1 i (hp σ' j)
 rest:∀ j,j<σ.length->(∀ i,ι i=some j->hp σ0 i=none)->hp σ' j=hp σ j
 new:∀ i,n0<=i->i<L1.length->AtE (growE ι n0 L1.length σ.length) L1 i (hp σ' (σ.length+(i-n0)))
 val:rnV (growE ι n0 L1.length σ.length) 6 v1=some v
theorem sub_ok {P:Program}{w0:World}{f:FuncId}{args0 args:List Value}{σ0 σ0' σ σ' L1:Heap}{v0 v1 v:Value}{ι κ:Emb}(hF:FnAt P w0 f args0 σ0 v0 σ0')
  (hi:SubIn ι σ0 (hp σ) args0 args) (ho:SubOut κ σ0.length L1 (hp σ0') v1 v0) (he:SubEd ι σ0.length σ0 L1 σ σ' v1 v):FnAt P w0 f args σ v σ':=by
 obtain ⟨hF0,hF⟩:=hF
 have hιlt:∀ i j,ι i=some j->i<σ0.length/\j<σ.length/\∃ b',hp σ j=some b':=by
  intro i j h
  have hi0:i<σ0.length:=by
   rcases Nat.lt_or_ge i σ0.length with h1 | h1
   ·exact h1
   ·rw [hi.none i h1] at h; cases h
  obtain ⟨j',b',h1,h2,_⟩:=hi.blk i hi0;obtain rfl:=Option.some.inj (h1.symm.trans h);refine ⟨hi0,?_,b',h2⟩
  rcases Nat.lt_or_ge j' σ.length with h3 | h3
  ·exact h3
  ·simp [hp,List.getElem?_eq_none h3] at h2
 refine ⟨by rw [he.len]; omega,fun ρ w args' hR hfr hargs=>?_⟩
 have hR0:Rel w0 (ι.ren ρ) (hp σ0) w:=by
  refine ⟨hR.below,fun id b base n e=>?_,fun id b base n blk e1 e2=>?_,fun i j b x y x' y' bi bj e1 e2 e3 e4=>?_⟩
  ·simp only [Emb.ren,Option.bind_eq_some_iff] at e;obtain ⟨j,_,e⟩:=e;exact hR.dyn j b base n e
  ·simp only [Emb.ren,Option.bind_eq_some_iff] at e1;obtain ⟨j,h1,e1⟩:=e1;obtain ⟨j',b',h2,h4,h5⟩:=hi.blk id (hιlt id j h1).1;obtain rfl:=Option.some.inj (h2.symm.trans h1);obtain ⟨o,ho,hc⟩:=hR.cont j' b base n b' e1 h4;exact ⟨o,ho,eqB_ok (h5 _ e2) hc⟩
  ·simp only [Emb.ren,Option.bind_eq_some_iff] at e1 e2;obtain ⟨k,h1,e1⟩:=e1;obtain ⟨l,h2,e2⟩:=e2;obtain ⟨_,_,bk,hk⟩:=hιlt i k h1;obtain ⟨_,_,bl,hl⟩:=hιlt j l h2;obtain rfl:=hR.inj k l b x y x' y' bk bl e1 e2 hk hl;exact hi.inj i j k h1 h2
 have hfr0:Fresh (ι.ren ρ) σ0.length σ0'.length:=fun i h1 _=>by simp [Emb.ren,hi.none i h1]
 refine (hF (ι.ren ρ) w args' hR0 hfr0 (eqL_VRL (eqV_VR 6) hi.args hargs)).mono fun e w' h=>?_
 obtain ⟨v',rfl,ρ0,hn,hv⟩:=h
 -- the renaming behind the call
 let n0:=σ0.length
 let ρ1:Ren:=κ.ren ρ0
 let ρ':Ren:=fun j=>if j<σ.length then ρ j else if j<σ'.length then ρ1 (j-σ.length+n0) else ρ j
 have r_old:∀ j,j<σ.length->ρ' j=ρ j:=fun j h=>by simp only [ρ',if_pos h]
 have r_new:∀ i,n0<=i->i<L1.length->ρ' (σ.length+(i-n0))=ρ1 i:=fun i h1 h2=>by
  have e:=he.len
  have:σ.length+(i-n0)<σ'.length:=by rw [e]; omega
  simp only [ρ',if_neg (show ¬ σ.length+(i-n0)<σ.length by omega),if_pos this]
  congr 1; omega
 have r1_old:∀ i,i<n0->ρ1 i=ι.ren ρ i:=fun i h=>by
  simp only [ρ1,Emb.ren,ho.old i h,Option.bind_some];exact hn.ext i (.inl h)
 have hext:Ext ρ ρ' σ.length σ'.length:=fun id hid=>by
  rcases hid with h | h
  ·exact r_old id h
  ·by_cases h2:id<σ.length
   ·exact r_old id h2
   ·simp only [ρ',if_neg h2,if_neg (show ¬ id<σ'.length by omega)]
 have hle:ρ.le ρ':=hext.le hfr
 have hA:Agree (growE ι n0 L1.length σ.length) ρ' ρ1:=by
  intro i x hx j hj;unfold growE at hj;split at hj
  ·rename_i h;rw [r1_old i h] at hx;simp only [Emb.ren,hj,Option.bind_some] at hx;rw [r_old j (hιlt i j hj).2.1];exact hx
  ·split at hj<;>first | (cases hj; done) | skip
   rename_i h1 h2;obtain rfl:=Option.some.inj hj
   rw [r_new i (by omega) h2]
   exact hx
 -- blocks of the old heap that are in the small one's image
 have imgS:∀ b,Img (ι.ren ρ) (hp σ0) b->Img ρ (hp σ) b:=by
  intro b ⟨id,base,n,blk,e1,e2⟩;simp only [Emb.ren,Option.bind_eq_some_iff] at e1;obtain ⟨j,h1,e1⟩:=e1;obtain ⟨_,_,bj,hj⟩:=hιlt id j h1;exact ⟨j,base,n,bj,e1,hj⟩
 have imgI:∀ j b base n blk,ρ j=some (b,base,n)->hp σ j=some blk->Img (ι.ren ρ) (hp σ0) b->∃ i,ι i=some j/\∃ b',hp σ0 i=some b':=by
  intro j b base n blk e1 e2 ⟨id,base',n',blk',e3,e4⟩;simp only [Emb.ren,Option.bind_eq_some_iff] at e3;obtain ⟨k,h1,e3⟩:=e3;obtain ⟨_,_,bk,hk⟩:=hιlt id k h1;obtain rfl:=hR.inj k j b base' n' base n bk blk e3 e1 hk e2;exact ⟨id,h1,blk',e4⟩
 -- what stands behind the call at a number
 have content:∀ i b base n x y,hp L1 i=some x->rnB (growE ι n0 L1.length σ.length) x=some y->ρ1 i=some (b,base,n)->∃ o,w'.heap[b]?=some o/\contentOk ρ' base n y o:=by
  intro i b base n x y h1 h2 h3;simp only [ρ1,Emb.ren,Option.bind_eq_some_iff] at h3;obtain ⟨k,hk,h3⟩:=h3;obtain ⟨k',b',hk',h4,h5⟩:=ho.blk i x h1;obtain rfl:=Option.some.inj (hk'.symm.trans hk);obtain ⟨o,ho',hc⟩:=hn.rel.cont k' b base n b' h3 h4;exact ⟨o,ho',rnB_ok hA h2 (eqB_ok h5 hc)⟩
 -- an old number that still stands for something
 have alive:∀ j blk,j<σ.length->hp σ' j=some blk->(∃ i x y,i<n0/\ι i=some j/\hp L1 i=some x/\rnB (growE ι n0 L1.length σ.length) x=some y/\blk=y)\/((∀ i,ι i=some j->hp σ0 i=none)/\hp σ j=some blk):=by
  intro j blk hj hb
  by_cases hex:∃ i,ι i=some j/\hp σ0 i≠none
  ·obtain ⟨i,hij,hne⟩:=hex;have hi0:=(hιlt i j hij).1
   rcases he.old i j hi0 hij hne with ⟨_,h2⟩ | ⟨x,y,h1,h2,h3⟩
   ·rw [hb] at h2; cases h2
   ·rw [hb] at h3;exact .inl ⟨i,x,y,hi0,hij,h1,h2,Option.some.inj h3⟩
  ·have hno:∀ i,ι i=some j->hp σ0 i=none:=fun i h=>Decidable.byContradiction fun hn=>hex ⟨i,h,hn⟩
   exact .inr ⟨hno,by rw [<- he.rest j hj hno]; exact hb⟩
 have newAt:∀ j blk,σ.length<=j->hp σ' j=some blk->∃ i x y,n0<=i/\i<L1.length/\j=σ.length+(i-n0)/\hp L1 i=some x/\rnB (growE ι n0 L1.length σ.length) x=some y/\blk=y:=by
  intro j blk hj hb
  have hlt:j<σ'.length:=by
   rcases Nat.lt_or_ge j σ'.length with h | h
   ·exact h
   ·simp [hp,List.getElem?_eq_none h] at hb
  rw [he.len] at hlt
  have e:j=σ.length+((j-σ.length+n0)-n0):=by omega
  rcases he.new (j-σ.length+n0) (by omega) (by omega) with ⟨_,h2⟩ | ⟨x,y,h1,h2,h3⟩
  ·rw [<- e,hb] at h2; cases h2
  ·rw [<- e,hb] at h3
   exact ⟨j-σ.length+n0,x,y,by omega,by omega,e,h1,h2,Option.some.inj h3⟩
 have aliveOld:∀ j blk,j<σ.length->hp σ' j=some blk->∃ b',hp σ j=some b':=by
  intro j blk hj hb
  rcases alive j blk hj hb with ⟨i,_,_,_,hij,_⟩ | ⟨_,h⟩
  ·exact (hιlt i j hij).2.2
  ·exact ⟨_,h⟩
 have newBlk:∀ i b base n x,n0<=i->hp L1 i=some x->ρ1 i=some (b,base,n)->∃ k b',κ i=some k/\n0<=k/\ρ0 k=some (b,base,n)/\hp σ0' k=some b':=by
  intro i b base n x h1 h2 h3;simp only [ρ1,Emb.ren,Option.bind_eq_some_iff] at h3;obtain ⟨k,hk,h3⟩:=h3;obtain ⟨k',b',hk',h4,_⟩:=ho.blk i x h2;obtain rfl:=Option.some.inj (hk'.symm.trans hk);exact ⟨k',b',hk,ho.new i k' h1 hk,h3,h4⟩
 refine ⟨v',rfl,ρ',⟨by rw [he.len]; omega,hext,⟨hn.fr.size,fun b hb hi'=>hn.fr.fr b hb fun h=>hi' (imgS b h),?_⟩,⟨hn.rel.below,?_,?_,?_⟩⟩,rnV_VR hA 6 _ _ he.val _ (eqV_VR 6 _ _ ho.val _ hv)⟩
 ·intro b ⟨id,base,n,blk,e1,e2⟩ hb
  by_cases hid:id<σ.length
  ·rw [r_old id hid] at e1;obtain ⟨b',hb'⟩:=aliveOld id blk hid e2;exact ⟨id,base,n,b',e1,hb'⟩
  ·obtain ⟨i,x,y,h1,h2,rfl,h3,h4,rfl⟩:=newAt id blk (by omega) e2
   rw [r_new i h1 h2] at e1;obtain ⟨k,b',_,_,h5,h6⟩:=newBlk i b base n x h1 h3 e1;exact imgS b (hn.fr.img b ⟨k,base,n,b',h5,h6⟩ hb)
 ·intro id b base n e
  by_cases hid:id<σ.length
  ·rw [r_old id hid] at e;have:=hR.dyn id b base n e;have:=hn.fr.size;omega
  ·by_cases h2:id<σ'.length
   ·simp only [ρ',if_neg hid,if_pos h2,ρ1,Emb.ren,Option.bind_eq_some_iff] at e;obtain ⟨k,_,e⟩:=e;exact hn.rel.dyn k b base n e
   ·simp only [ρ',if_neg hid,if_neg h2] at e;have:=hR.dyn id b base n e;have:=hn.fr.size;omega
 ·intro id b base n blk e1 e2
  by_cases hid:id<σ.length
  ·rw [r_old id hid] at e1
   rcases alive id blk hid e2 with ⟨i,x,y,h0,h1,h2,h3,rfl⟩ | ⟨hno,h⟩
   ·exact content i b base n x _ h2 h3 (by rw [r1_old i h0]; simp [Emb.ren,h1,e1])
   ·obtain ⟨o,ho',hc⟩:=hR.cont id b base n blk e1 h;refine ⟨o,?_,hc.mono hle⟩
    rw [hn.fr.fr b (hR.dyn id b base n e1).2 fun hi'=>?_]
    ·exact ho'
    ·obtain ⟨i,h1,b',h2⟩:=imgI id b base n blk e1 h hi';rw [hno i h1] at h2;cases h2
  ·obtain ⟨i,x,y,h1,h2,rfl,h3,h4,rfl⟩:=newAt id blk (by omega) e2
   rw [r_new i h1 h2] at e1;exact content i b base n x _ h3 h4 e1
 ·have mixed:∀ i j b x y x' y' bi bj,i<σ.length->σ.length<=j->ρ' i=some (b,x,y)->ρ' j=some (b,x',y')->hp σ' i=some bi->hp σ' j=some bj->False:=by
   intro i j b x y x' y' bi bj hi' hj e1 e2 e3 e4;rw [r_old i hi'] at e1;obtain ⟨k,u,u',h1,h2,rfl,h3,h4,rfl⟩:=newAt j bj hj e4;rw [r_new k h1 h2] at e2;obtain ⟨m,b',_,hm0,h5,h6⟩:=newBlk k b x' y' u h1 h3 e2;have hb:=(hR.dyn i b x y e1).2;obtain ⟨bi',hbi'⟩:=aliveOld i bi hi' e3;have hI:=hn.fr.img b ⟨m,x',y',b',h5,h6⟩ hb;obtain ⟨p,hp',bp,hbp⟩:=imgI i b x y bi' e1 hbi' hI;have hp0:=(hιlt p i hp').1
   rcases alive i bi hi' e3 with ⟨q,u,u',q0,q1,q2,q3,rfl⟩ | ⟨hno,_⟩
   ·obtain ⟨k',b'',hk',h7,_⟩:=ho.blk q u q2;rw [ho.old q q0] at hk';obtain rfl:=Option.some.inj hk'
    have e5:ρ0 q=some (b,x,y):=by
     rw [hn.ext q (.inl q0)];simp [Emb.ren,q1,e1]
    have:=hn.rel.inj q m b x y x' y' b'' b' e5 h5 h7 h6;omega
   ·rw [hno p hp'] at hbp;cases hbp
  intro i j b x y x' y' bi bj e1 e2 e3 e4
  by_cases hi':i<σ.length
  ·by_cases hj:j<σ.length
   ·rw [r_old i hi'] at e1;rw [r_old j hj] at e2;obtain ⟨bi',h1⟩:=aliveOld i bi hi' e3;obtain ⟨bj',h2⟩:=aliveOld j bj hj e4;exact hR.inj i j b x y x' y' bi' bj' e1 e2 h1 h2
   ·exact (mixed i j b x y x' y' bi bj hi' (by omega) e1 e2 e3 e4).elim
  ·by_cases hj:j<σ.length
   ·exact (mixed j i b x' y' x y bj bi hj (by omega) e2 e1 e4 e3).elim
   ·obtain ⟨k,u,u',h1,h2,rfl,h3,h4,rfl⟩:=newAt i bi (by omega) e3
    obtain ⟨l,t,t',g1,g2,rfl,g3,g4,rfl⟩:=newAt j bj (by omega) e4
    rw [r_new k h1 h2] at e1;rw [r_new l g1 g2] at e2;obtain ⟨m,b',hm,_,h5,h6⟩:=newBlk k b x y u h1 h3 e1;obtain ⟨m',b'',hm',_,h7,h8⟩:=newBlk l b x' y' t g1 g3 e2;obtain rfl:=hn.rel.inj m m' b x y x' y' b' b'' h5 h7 h6 h8;rw [ho.inj k l m hm hm']
end Go.AE
namespace Go.AE
open Go Go.RowKit
inductive E1 where
 | put (i:Nat) (b:Option Blk)
 | new (b:Option Blk)
def E1.app (σ:Heap):E1->Heap
 | .put i b=>σ.set i b
 | .new b=>σ++[b]
abbrev RL:=Option (Value×List E1)
def RL.app (σ:Heap) (r:RL):Option (Value×Heap):=r.map fun x=>(x.1,x.2.foldl E1.app σ)
abbrev ExtL:=FuncId->List Value->HF->Nat->RL
def extOfL (x:ExtL):CallA:=fun f args σ=>RL.app σ (x f args (hp σ) σ.length)
section
variable {P:Program}{st:AE.Stat}{α:Type}{r:α}{h:TH}{n:Nat}{σ:Heap}
noncomputable def newOF (b:Option Blk) (k:Option Blk->Option α):Option α:=match b with
 | none=>k none
 | some b=>fNew b fun b=>k (some b)
theorem newOF_eq (b:Option Blk) (k:Option Blk->Option α):newOF b k=k b:=by cases b<;>simp [newOF,fNew_eq]
noncomputable def e1F (e:E1) (h:TH) (n:Nat) (k:TH->Nat->Option α):Option α :=
 match e with
 | .put i b=>bif Nat.blt i n then newOF b fun b=>fN i fun i=>h.put b i fun h=>k h n else none
 | .new b=>newOF b fun b=>h.put b n fun h=>k h (Nat.succ n)
theorem e1F_some {e:E1}{k:TH->Nat->Option α}(hH:HRel h n σ) (hx:e1F e h n k=some r):∃ h' n',k h' n'=some r/\HRel h' n' (e.app σ):=by
 unfold e1F at hx
 cases e with
 | put i b =>
  simp only at hx
  cases hb:Nat.blt i n with
  | false=>rw [hb] at hx; cases hx
  | true =>
   rw [hb] at hx;simp only [newOF_eq,fN_eq,cond_true] at hx;have hlt:=blt_iff.1 hb;obtain ⟨h',h1,h2⟩:=Tr.put_some hx
   refine ⟨h',_,h1,by simp [E1.app,hH.1],fun j=>?_⟩
   rw [h2,show E1.app σ (.put i b)=σ.set i b from rfl,hH.2];have:=hH.1
   by_cases e:j=i
   ·subst e;rw [if_pos rfl]
    simp [hp,List.getElem?_set_self (show j<σ.length by omega)]
   ·rw [if_neg e];simp [hp,List.getElem?_set_ne (Ne.symm e)]
 | new b =>
  simp only [newOF_eq] at hx;obtain ⟨h',h1,h2⟩:=Tr.put_some hx
  refine ⟨h',_,h1,by simp [E1.app,hH.1],fun i=>?_⟩
  rw [h2,show E1.app σ (.new b)=σ++[b] from rfl,hH.2];have:=hH.1;subst this
  by_cases e:i=σ.length
  ·subst e; rw [if_pos rfl,hp_new]
  ·rw [if_neg e,hp_old σ _ e]
noncomputable def esF (l:List E1):TH->Nat->(TH->Nat->Option α)->Option α :=
 List.rec (fun h n k=>k h n) (fun e _ ih h n k=>e1F e h n fun h n=>ih h n k) l
theorem esF_some:∀ {l:List E1}{h:TH}{n:Nat}{σ:Heap}{k:TH->Nat->Option α},HRel h n σ->esF l h n k=some r->∃ h' n',k h' n'=some r/\HRel h' n' (l.foldl E1.app σ)
 | [],h,n,σ,k,hH,hx=>⟨h,n,hx,hH⟩
 | e :: l,h,n,σ,k,hH,hx=>by
  obtain ⟨h1,n1,hx,hH1⟩:=e1F_some (k:=fun h n=>esF l h n k) hH hx
  exact esF_some (l:=l) hH1 hx
noncomputable def runFL (P:Program) (st:AE.Stat) (x:ExtL) (q:Nat) (d:Nat):CallF' α :=
 Nat.rec (fun _ _ _ _ _=>none) (fun _ ih f args h n k=>match P.funcs[f]? with
  | some fn=>match x f args h.get n with
   | some (v,eds)=>fV v fun v=>esF eds h n fun h n=>k v h n
   | none=>bodyF P st ih q fn args h n k
  | none=>roundF P st ih q (Nat.sub f P.funcs.size) args h n k) d
theorem runFL_some {x:ExtL}(hx:st.ext=extOfL x) {q:Nat}:∀ d,CallR (runF P st q d) (runFL (α:=α) P st x q d)
 | 0=>fun f args h n σ k r _ h=>by cases h
 | d+1=>fun f args h n σ k r hH hk=>by
  have hk:(match P.funcs[f]? with
   | some fn=>match x f args h.get n with
    | some (v,eds)=>fV v fun v=>esF eds h n fun h n=>k v h n
    | none=>bodyF P st (runFL P st x q d) q fn args h n k
   | none=>roundF P st (runFL P st x q d) q (Nat.sub f P.funcs.size) args h n k)=some r:=hk
  unfold runF
  cases hf:P.funcs[f]? with
  | none=>rw [hf] at hk; exact roundF_some (runFL_some hx d) hH hk
  | some fn =>
   rw [hf] at hk;simp only at hk ⊢
   have e:st.ext f args σ=RL.app σ (x f args h.get n):=by
    rw [hx,show h.get=hp σ from funext hH.2];have:=hH.1;subst this;rfl
   rw [e]
   cases hxx:x f args h.get n with
   | some y =>
    obtain ⟨v,eds⟩:=y;rw [hxx] at hk;simp only [fV_eq] at hk;obtain ⟨h',n',h1,h2⟩:=esF_some hH hk;exact ⟨v,_,h',n',rfl,h2,h1⟩
   | none =>
    rw [hxx] at hk;exact bodyF_some (runFL_some hx d) hH hk
end
def idsL (f:Value->List Nat->List Nat):List Value->List Nat->List Nat
 | [],acc=>acc
 | x :: r,acc=>f x (idsL f r acc)
def idA (a:Addr) (acc:List Nat):List Nat:=match a.spot with
 | some _=>acc
 | none=>a.block :: acc
def idsV:Nat->Value->List Nat->List Nat
 | 0,_,acc=>acc
 | n+1,v,acc=>match v with
  | .pointer (some a)=>idA a acc
  | .slice (some a) _ c=>(match Nat.beq c 0 with
   | true=>acc
   | false=>idA a acc)
  | .map (some r)=>r :: acc
  | .chan (some r)=>r :: acc
  | .func _ x y=>idsL (idsV n) x.toList (idsL (idsV n) y.toList acc)
  | .iface _ x=>idsV n x acc
  | .agg x=>idsL (idsV n) x.toList acc
  | .tuple x=>idsL (idsV n) x.toList acc
  | _=>acc
def idsE:List (Value×Value)->List Nat->List Nat
 | [],acc=>acc
 | (_,v) :: r,acc=>idsV 6 v (idsE r acc)
def idsB (b:Option Blk) (acc:List Nat):List Nat:=match b with
 | some (.cells l)=>idsL (idsV 6) l acc
 | some (.map es)=>idsE es acc
 | _=>acc
def inSight (H:HF):Nat->List Nat->Nat->List Nat->List Nat
 | 0,_,_,acc=>acc.reverse
 | _+1,[],_,acc=>acc.reverse
 | k+1,j :: q,seen,acc=>match Nat.beq (Nat.land 1 (Nat.shiftRight seen j)) 1 with
  | true=>inSight H k q seen acc
  | false=>fN (Nat.lor seen (Nat.shiftLeft 1 j)) fun seen=>inSight H k (idsB (H j) q) seen (j :: acc)
def nodL:List Nat->Nat->Bool
 | [],_=>true
 | j :: r,seen=>match Nat.beq (Nat.land 1 (Nat.shiftRight seen j)) 1 with
  | true=>false
  | false=>fN (Nat.lor seen (Nat.shiftLeft 1 j)) fun seen=>nodL r seen
theorem bit_iff (s j:Nat):(Nat.beq (Nat.land 1 (Nat.shiftRight s j)) 1=true) ↔ s.testBit j=true:=by
 rw [Nat.beq_eq];show 1 &&& (s >>> j)=1 ↔ _;rw [Nat.testBit,Nat.one_and_eq_mod_two]
 rcases Nat.mod_two_eq_zero_or_one (s >>> j) with h | h<;>simp [h]
theorem nodL_ok:∀ (l:List Nat) (s:Nat),nodL l s=true->l.Nodup/\∀ x∈l,s.testBit x=false
 | [],s,_=>⟨.nil,fun x h=>by cases h⟩
 | j :: r,s,h=>by
  unfold nodL at h;split at h
  ·cases h
  ·rename_i hb;rw [fN_eq] at h
   have hj:s.testBit j=false:=by
    cases ht:s.testBit j with
    | false=>rfl
    | true=>rw [(bit_iff s j).2 ht] at hb; cases hb
   obtain ⟨h1,h2⟩:=nodL_ok r _ h
   have key:∀ x,(Nat.lor s (Nat.shiftLeft 1 j)).testBit x=(s.testBit x||decide (x=j)):=by
    intro x
    show (s ||| (1 <<< j)).testBit x=_
    rw [Nat.testBit_or,Nat.shiftLeft_eq,Nat.one_mul,Nat.testBit_two_pow]
    congr 1
    by_cases e:j=x<;>simp [e,eq_comm]
   refine ⟨List.nodup_cons.2 ⟨fun hm=>?_,h1⟩,fun x hx=>?_⟩
   ·have:=h2 j hm;rw [key] at this;simp at this
   ·rcases List.mem_cons.1 hx with rfl | hx
    ·exact hj
    ·have:=h2 x hx;rw [key] at this;simp only [Bool.or_eq_false_iff] at this;exact this.1
theorem nodup_at {l:List Nat}(h:l.Nodup) {i j x:Nat}(h1:l[i]?=some x) (h2:l[j]?=some x):i=j:=by
 obtain ⟨p1,q1⟩:=List.getElem?_eq_some_iff.1 h1;obtain ⟨p2,q2⟩:=List.getElem?_eq_some_iff.1 h2;have hp:=List.pairwise_iff_getElem.1 h
 rcases Nat.lt_trichotomy i j with h | h | h
 ·exact (hp i j p1 p2 h (q1.trans q2.symm)).elim
 ·exact h
 ·exact (hp j i p2 p1 h (q2.trans q1.symm)).elim
section
variable {α:Type}{r:α}
noncomputable def mkTr {A:Type}(l:List A):Nat->Tr A->(Tr A->Option α)->Option α :=
 List.rec (fun _ t k=>k t) (fun v _ ih i t k=>t.put (some v) i fun t=>ih (Nat.succ i) t k) l
theorem mkTr_some {A:Type}:∀ {l:List A}{i:Nat}{t:Tr A}{k:Tr A->Option α},mkTr l i t k=some r->∃ t',k t'=some r/\∀ j,t'.get j=if i<=j/\j<i+l.length then l[j-i]? else t.get j
 | [],i,t,k,hx=>⟨t,hx,fun j=>by rw [if_neg (by simp only [List.length_nil]; omega)]⟩
 | v :: l,i,t,k,hx=>by
  obtain ⟨t1,hx,h1⟩:=Tr.put_some (k:=fun t=>mkTr l (Nat.succ i) t k) hx
  obtain ⟨t2,hx,h2⟩:=mkTr_some hx
  refine ⟨t2,hx,fun j=>?_⟩
  rw [h2,h1]
  by_cases e:j=i
  ·subst e
   rw [if_neg (by omega),if_pos rfl,if_pos (by simp)]
   simp
  ·by_cases hj:i+1<=j/\j<i+1+l.length
   ·rw [if_pos (by omega),if_pos (by simp; omega)]
    rw [show j-i=(j-(i+1))+1 by omega]
    simp
   ·rw [if_neg (by omega),if_neg e,if_neg (by simp; omega)]
theorem mkTr_leaf {A:Type}{l:List A}{k:Tr A->Option α}(h:mkTr l 0 .leaf k=some r):∃ t',k t'=some r/\∀ j,t'.get j=l[j]?:=by
 obtain ⟨t,h1,h2⟩:=mkTr_some h
 refine ⟨t,h1,fun j=>?_⟩
 rw [h2]
 by_cases hj:j<l.length
 ·rw [if_pos (by omega)]; rfl
 ·rw [if_neg (by omega),List.getElem?_eq_none (by omega)]; rfl
end
def blksOk (ι:Emb) (H:HF):List (Option Blk)->Nat->Bool
 | [],_=>true
 | none :: r,i=>blksOk ι H r (Nat.succ i)
 | some b :: r,i=>(match ι i with
  | some j=>(match H j with
   | some b'=>eqB ι b b'
   | none=>false)
  | none=>false)&&blksOk ι H r (Nat.succ i)
theorem blksOk_at {ι:Emb}{H:HF}:∀ {l:List (Option Blk)}{i:Nat},blksOk ι H l i=true->∀ k b,l[k]?=some (some b)->∃ j b',ι (i+k)=some j/\H j=some b'/\eqB ι b b'=true
 | [],i,_,k,b,hk=>by simp at hk
 | none :: r,i,h,k,b,hk=>by
  cases k with
  | zero=>simp at hk
  | succ k =>
   have:=blksOk_at (l:=r) (i:=i+1) h k b (by simpa using hk)
   rwa [show i+1+k=i+(k+1) by omega] at this
 | some c :: r,i,h,k,b,hk=>by
  simp only [blksOk,Bool.and_eq_true] at h;obtain ⟨h0,h⟩:=h
  cases k with
  | zero =>
   simp at hk;subst hk
   split at h0<;>first | (cases h0; done) | skip
   rename_i j hj
   split at h0<;>first | (cases h0; done) | skip
   rename_i b' hb
   exact ⟨j,b',by simpa using hj,hb,h0⟩
  | succ k =>
   have:=blksOk_at (l:=r) (i:=i+1) h k b (by simpa using hk)
   rwa [show i+1+k=i+(k+1) by omega] at this
def rnOB (g:Emb):Option Blk->Option (Option Blk)
 | none=>some none
 | some b=>match rnB g b with
  | some b'=>some (some b')
  | none=>none
def putsO (g:Emb):List Nat->List (Option Blk)->Option (List E1)
 | j :: l,b :: bs=>match rnOB g b with
  | some b'=>(match putsO g l bs with
   | some r=>some (.put j b' :: r)
   | none=>none)
  | none=>none
 | [],b :: bs=>match rnOB g b with
  | some b'=>(match putsO g [] bs with
   | some r=>some (.new b' :: r)
   | none=>none)
  | none=>none
 | [],[]=>some []
 | _ :: _,[]=>none
theorem rnOB_AtE {g:Emb}{b b':Option Blk}(h:rnOB g b=some b') {L:List (Option Blk)}{i:Nat}(hi:L[i]?=some b):AtE g L i b':=by
 cases b with
 | none =>
  obtain rfl:=Option.some.inj h
  exact .inl ⟨by simp [hp,hi],rfl⟩
 | some b =>
  unfold rnOB at h;simp only at h
  split at h<;>first | (cases h; done) | skip
  rename_i x hx;obtain rfl:=Option.some.inj h
  exact .inr ⟨b,x,by simp [hp,hi],hx,rfl⟩
theorem AtE.cons {g:Emb}{L:List (Option Blk)}{i:Nat}{b c:Option Blk}(h:AtE g L i b):AtE g (c :: L) (i+1) b:=by
 rcases h with ⟨h1,h2⟩ | ⟨x,y,h1,h2,h3⟩
 ·exact .inl ⟨by simpa [hp] using h1,h2⟩
 ·exact .inr ⟨x,y,by simpa [hp] using h1,h2,h3⟩
theorem putsO_new {g:Emb}:∀ {L:List (Option Blk)}{eds:List E1},putsO g [] L=some eds->∀ σ:Heap,(eds.foldl E1.app σ).length=σ.length+L.length/\(∀ j,j<σ.length->hp (eds.foldl E1.app σ) j=hp σ j) /\
  ∀ i,i<L.length->AtE g L i (hp (eds.foldl E1.app σ) (σ.length+i))
 | [],eds,h,σ=>by
  obtain rfl:=Option.some.inj h
  exact ⟨rfl,fun _ _=>rfl,fun i hi=>by simp at hi⟩
 | b :: bs,eds,h,σ=>by
  unfold putsO at h
  split at h<;>first | (cases h; done) | skip
  rename_i b' hb
  split at h<;>first | (cases h; done) | skip
  rename_i r hr;obtain rfl:=Option.some.inj h;obtain ⟨h1,h2,h3⟩:=putsO_new hr (σ++[b']);simp only [List.foldl_cons,E1.app];simp only [List.length_append,List.length_cons,List.length_nil] at h1 h2 h3 ⊢
  refine ⟨by omega,fun j hj=>by rw [h2 j (by omega),hp_old σ _ (by omega)],fun i hi=>?_⟩
  cases i with
  | zero=>rw [Nat.add_zero,h2 _ (by omega),hp_new]; exact rnOB_AtE hb rfl
  | succ i =>
   have:=h3 i (by omega)
   rw [show σ.length+(0+1)+i=σ.length+(i+1) by omega] at this
   exact this.cons
theorem putsO_ok {g:Emb}:∀ {l:List Nat}{L:List (Option Blk)}{eds:List E1},putsO g l L=some eds->l.Nodup->∀ σ:Heap,(∀ j∈l,j<σ.length)->l.length<=L.length/\(eds.foldl E1.app σ).length=σ.length+(L.length-l.length) /\
  (∀ j,j<σ.length->j ∉ l->hp (eds.foldl E1.app σ) j=hp σ j)/\(∀ i j,l[i]?=some j->AtE g L i (hp (eds.foldl E1.app σ) j)) /\
  ∀ i,l.length<=i->i<L.length->AtE g L i (hp (eds.foldl E1.app σ) (σ.length+(i-l.length)))
 | [],L,eds,h,_,σ,_=>by
  obtain ⟨h1,h2,h3⟩:=putsO_new h σ
  refine ⟨by simp,by simpa using h1,fun j hj _=>h2 j hj,fun i j hi=>by simp at hi,fun i _ hi=>by simpa using h3 i hi⟩
 | j :: l,[],eds,h,_,σ,_=>by cases h
 | j :: l,b :: bs,eds,h,hnd,σ,hlt=>by
  unfold putsO at h
  split at h<;>first | (cases h; done) | skip
  rename_i b' hb
  split at h<;>first | (cases h; done) | skip
  rename_i r hr;obtain rfl:=Option.some.inj h;obtain ⟨hj,hnd⟩:=List.nodup_cons.1 hnd
  have hjlt:=hlt j (by simp)
  obtain ⟨h0,h1,h2,h3,h4⟩:=putsO_ok hr hnd (σ.set j b') (fun k hk=>by simpa using hlt k (by simp [hk]))
  simp only [List.foldl_cons,E1.app];simp only [List.length_set,List.length_cons] at h1 h2 h4 ⊢
  refine ⟨by omega,by omega,fun k hk hm=>?_,fun i k hi=>?_,fun i h5 h6=>?_⟩
  ·simp only [List.mem_cons,not_or] at hm;rw [h2 k hk hm.2];simp [hp,List.getElem?_set_ne (Ne.symm hm.1)]
  ·cases i with
   | zero =>
    simp at hi;subst hi;rw [h2 j hjlt hj]
    have:hp (σ.set j b') j=b':=by simp [hp,List.getElem?_set_self hjlt]
    rw [this];exact rnOB_AtE hb rfl
   | succ i=>exact (h3 i k (by simpa using hi)).cons
  ·cases i with
   | zero=>omega
   | succ i =>
    have:=h4 i (by omega) (by omega)
    rw [show i+1-(l.length+1)=i-l.length by omega]
    exact this.cons
structure Deep where
 f:FuncId
 args:List Value
 h0:List Blk
 v:Value
 h1:List (Option Blk)
noncomputable def Deep.ans (D:Deep) (args:List Value) (H:HF) (N:Nat):RL :=
 fL fN (inSight H 100000 (idsL (idsV 6) args []) 0 []) fun l =>
  bif Nat.beq l.length D.h0.length&&nodL l 0&&l.all (fun j=>Nat.blt j N) then
   mkTr l 0 .leaf fun t=>bif eqL (eqV t.get 6) D.args args&&blksOk t.get H (D.h0.map some) 0 then
    match rnV (growE t.get l.length D.h1.length N) 6 D.v with
    | some v=>(match putsO (growE t.get l.length D.h1.length N) l D.h1 with
     | some eds=>some (v,eds)
     | none=>none)
    | none=>none
   else none
  else none
noncomputable def Deep.out (D:Deep) (v:Value) (H:HF) (n:Nat):Option Unit :=
 fL fN (List.range D.h0.length++inSight H 100000 (idsV 6 v (idsL' H (List.range D.h0.length))) (Nat.sub (Nat.pow 2 D.h0.length) 1) []) fun l =>
  bif Nat.beq l.length D.h1.length&&nodL l 0&&(l.drop D.h0.length).all (fun j=>Nat.ble D.h0.length j)&&Nat.ble D.h0.length D.h1.length then
   mkTr l 0 .leaf fun t=>bif eqV t.get 6 D.v v&&blksOk t.get H D.h1 0 then some () else none
  else none
where
 idsL' (H:HF):List Nat->List Nat
  | []=>[]
  | j :: r=>idsB (H j) (idsL' H r)
theorem Deep.out_some {D:Deep}{v:Value}{H:HF}{n:Nat}(h:D.out v H n=some ()):∃ κ,SubOut κ D.h0.length D.h1 H D.v v:=by
 unfold Deep.out at h;rw [fL_eq fN_eq] at h;generalize hl:inSight H 100000 _ _ []=l' at h
 cases hc:(Nat.beq (List.range D.h0.length++l').length D.h1.length&&nodL (List.range D.h0.length++l') 0&&((List.range D.h0.length++l').drop D.h0.length).all (fun j=>Nat.ble D.h0.length j)&&Nat.ble D.h0.length D.h1.length) with
 | false=>rw [hc] at h; cases h
 | true =>
  rw [hc] at h;simp only [Bool.and_eq_true] at hc;obtain ⟨⟨⟨c1,c2⟩,c3⟩,c4⟩:=hc;have c1:=Nat.eq_of_beq_eq_true c1;obtain ⟨c2,_⟩:=nodL_ok _ _ c2;have c4:=Nat.le_of_ble_eq_true c4;simp only [cond_true] at h;obtain ⟨t,h,ht⟩:=mkTr_leaf h
  cases hd:eqV t.get 6 D.v v&&blksOk t.get H D.h1 0 with
  | false=>rw [hd] at h; cases h
  | true =>
   simp only [Bool.and_eq_true] at hd
   refine ⟨t.get,c4,fun i hi=>?_,fun i j h1 h2=>?_,fun i j x h1 h2=>?_,fun i b hb=>?_,hd.1⟩
   ·rw [ht,List.getElem?_append_left (by simpa using hi)]
    simp [hi]
   ·rw [ht,List.getElem?_append_right (by simpa using h1)] at h2
    have hm:=List.mem_of_getElem? h2
    have:(List.range D.h0.length++l').drop D.h0.length=l':=by
     rw [List.drop_append_of_le_length (by simp)]
     rw [List.drop_of_length_le (by simp)]
     rfl
    rw [this] at c3;exact Nat.le_of_ble_eq_true (List.all_eq_true.1 c3 j hm)
   ·rw [ht] at h1 h2;exact nodup_at c2 h1 h2
   ·have hb':D.h1[i]?=some (some b):=join_cells.1 hb;obtain ⟨j,b',e1,e2,e3⟩:=blksOk_at hd.2 i b hb'
    exact ⟨j,b',by simpa using e1,e2,e3⟩
noncomputable def Deep.run (D:Deep) (P:Program) (st:AE.Stat) (x:ExtL) (q d:Nat):Bool :=
 match mkTr (α:=Unit) D.h0 0 .leaf fun h=>runFL (α:=Unit) P st x q d D.f D.args h D.h0.length fun v h n=>D.out v h.get n with
 | some _=>true
 | none=>false
theorem Deep.ok {D:Deep}{P:Program}{st:AE.Stat}{x:ExtL}{q d:Nat}{w0:World}(hrun:D.run P st x q d=true) (hx:st.ext=extOfL x) (hst:GoodSt w0 st) (hok:CallOk P w0 st.ext) (hm:P.follows .mixedOrders=true) (hf:P.funcs[D.f]?.isSome=true) :
  FnOk P w0 D.f (fun args σ=>RL.app σ (D.ans args (hp σ) σ.length)):=by
 unfold Deep.run at hrun
 split at hrun<;>first | (cases hrun; done) | skip
 rename_i u hu;obtain ⟨h,hu,hh⟩:=mkTr_leaf hu
 have hH:HRel h D.h0.length (D.h0.map some):=⟨by simp,fun i=>by
  rw [hh,hp,List.getElem?_map]
  cases D.h0[i]?<;>rfl⟩
 obtain ⟨v0,σ0',h',n',h1,hH',h3⟩:=runFL_some hx d D.f D.args h D.h0.length _ _ _ hH hu;rw [show h'.get=hp σ0' from funext hH'.2] at h3;obtain ⟨κ,hκ⟩:=Deep.out_some h3;have hF:FnAt P w0 D.f D.args (D.h0.map some) v0 σ0':=(runF_sound (n:=q) hst hok hm d).fn D.f hf _ _ _ _ h1;intro args σ v σ' hg;show FnAt P w0 D.f args σ v σ';simp only [RL.app,Option.map_eq_some_iff,Prod.mk.injEq] at hg;obtain ⟨⟨v2,eds⟩,hg,rfl,rfl⟩:=hg;unfold Deep.ans at hg;rw [fL_eq fN_eq] at hg;generalize hl:inSight (hp σ) 100000 _ _ []=l at hg
 cases hc:(Nat.beq l.length D.h0.length&&nodL l 0&&l.all (fun j=>Nat.blt j σ.length)) with
 | false=>rw [hc] at hg; cases hg
 | true =>
  rw [hc] at hg;simp only [Bool.and_eq_true] at hc;obtain ⟨⟨c1,c2⟩,c3⟩:=hc;have c1:=Nat.eq_of_beq_eq_true c1;obtain ⟨c2,_⟩:=nodL_ok _ _ c2
  have c3:∀ j∈l,j<σ.length:=fun j hj=>blt_iff.1 (List.all_eq_true.1 c3 j hj)
  simp only [cond_true] at hg;obtain ⟨t,hg,ht⟩:=mkTr_leaf hg
  cases hd:(eqL (eqV t.get 6) D.args args&&blksOk t.get (hp σ) (D.h0.map some) 0) with
  | false=>rw [hd] at hg; cases hg
  | true =>
   rw [hd] at hg;simp only [Bool.and_eq_true] at hd;simp only [cond_true] at hg
   split at hg<;>first | (cases hg; done) | skip
   rename_i v3 hv3
   split at hg<;>first | (cases hg; done) | skip
   rename_i eds' heds;simp only [Option.some.injEq,Prod.mk.injEq] at hg;obtain ⟨rfl,rfl⟩:=hg;obtain ⟨g0,g1,g2,g3,g4⟩:=putsO_ok heds c2 σ c3
   have e0:(D.h0.map some).length=l.length:=by simp [c1]
   have hin:SubIn t.get (D.h0.map some) (hp σ) D.args args:=by
    refine ⟨fun i hi=>?_,fun i hi=>?_,fun i j x h1 h2=>?_,hd.1⟩
    ·have hi':i<D.h0.length:=by simpa using hi
     obtain ⟨j,b',e1,e2,e3⟩:=blksOk_at hd.2 i D.h0[i] (by simp [hi'])
     exact ⟨j,b',by simpa using e1,e2,fun b hb=>by
      have:b=D.h0[i]:=by simpa [hp,hi'] using hb.symm
      rw [this];exact e3⟩
    ·rw [ht,List.getElem?_eq_none (by omega)]
    ·rw [ht] at h1 h2;exact nodup_at c2 h1 h2
   refine sub_ok hF hin (by rw [List.length_map]; exact hκ) ?_
   rw [e0]
   refine ⟨g1,fun i j hi h _=>?_,fun j hj hno=>?_,fun i h5 h6=>?_,hv3⟩
   ·rw [ht] at h;exact g3 i j h
   ·refine g2 j hj fun hm=>?_
    obtain ⟨i,hi⟩:=List.getElem?_of_mem hm
    have h1:=hno i (by rw [ht]; exact hi)
    have h2:i<D.h0.length:=by rw [<- c1]; exact (List.getElem?_eq_some_iff.1 hi).1
    simp [hp,h2] at h1
   ·exact g4 i h5 h6
def RL.or (a b:RL):RL:=match a with
 | some r=>some r
 | none=>b
end Go.AE
