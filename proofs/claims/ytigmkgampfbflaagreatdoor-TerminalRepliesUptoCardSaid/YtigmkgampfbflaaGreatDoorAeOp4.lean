/-
 Append,copy,'==' against nil,calls; each operation of the evaluator is the model's.
 Conditions: see the theorems.
-/
import Derived.Test.YtigmkgampfbflaaGreatDoorAeOp
import Derived.Laws.BytesString
import Derived.Laws.IdiomStrings
namespace Go.AE
open Go Go.RowKit
section
variable {P:Program}{w0:World}{ρ:Ren}{w:World}
theorem hp_set_none (σ:Heap) (k id:Nat):hp (σ.set k none) id=if id=k then none else hp σ id:=by
 simp only [hp,List.getElem?_set]
 by_cases h:id=k
 ·subst h;rw [if_pos rfl,if_pos rfl]
  by_cases hl:id<σ.length
  ·simp [hl]
  ·simp [hl]
 ·rw [if_neg (Ne.symm h),if_neg h]
theorem Nxt.kill {σ σ':Heap}{ρ':Ren}{w':World}(h:Nxt w0 ρ σ w ρ' σ' w') (k:Nat):Nxt w0 ρ σ w ρ' (σ'.set k none) w':=by
 have hle:∀ id blk,hp (σ'.set k none) id=some blk->hp σ' id=some blk:=by
  intro id blk e;rw [hp_set_none] at e;split at e
  ·cases e
  ·exact e
 refine ⟨by simpa using h.len,by simpa using h.ext,⟨h.fr.size,h.fr.fr,fun b hi hb=>h.fr.img b ?_ hb⟩,⟨h.rel.below,h.rel.dyn,fun id b base n blk e1 e2=>h.rel.cont id b base n blk e1 (hle _ _ e2),
  fun i j b x y x' y' bi bj e1 e2 e3 e4=>h.rel.inj i j b x y x' y' bi bj e1 e2 (hle _ _ e3) (hle _ _ e4)⟩⟩
 obtain ⟨id,x,y,blk,e1,e2⟩:=hi;exact ⟨id,x,y,blk,e1,hle _ _ e2⟩
theorem append_place {σ:Heap}{a a':Addr}{sLen n cap':Nat}{size:Nat}{old news news':List Value}{st:Stat}(hst:GoodSt w0 st) (hR:Rel w0 ρ (hp σ) w)
  (hf:ρ σ.length=none) (ha:addrOk ρ a a') (hsp:a.spot=none) (hroom:∃ b base N,ρ a.block=some (b,base,N)/\base+a.off+cap'*size<=N)
  (hold:if sLen*size=0 then old=[] else loadN st σ a (sLen*size)=some old) (hv:VRL ρ news news') (hnl:news.length=n*size) (_hpos:news≠[]) (hone:news.all Value.oneCell'=true) (hle:sLen+n<=cap')
  (hc1:cap'<unk) (hal:∃ l,hp σ a.block=some (.cells l)) :
  ∃ w',(storeCells (a'.add (sLen*size)) news').run P w=.ok () w'/\OpOut w0 ρ σ w (.slice (some ⟨σ.length,0,none⟩) (sLen+n) (unk+size)) ((σ++[some (Blk.cells (old++news))]).set a.block none) (.slice (some a') (sLen+n) cap') w':=by
 obtain ⟨b,base,N,hb,hroom⟩:=hroom;obtain ⟨l,hl⟩:=hal;have ha2:=ha;obtain ⟨hs',hk⟩:=ha
 obtain ⟨_,b',base',N',hb',hblk,hoff⟩:a.spot=none/\∃ b base n,ρ a.block=some (b,base,n)/\a'.block=b/\a'.off=base+a.off:=by
  rcases hk with ⟨s,h1,_,_⟩ | h
  ·rw [hsp] at h1; cases h1
  ·exact h
 rw [hb] at hb';simp only [Option.some.injEq,Prod.mk.injEq] at hb';obtain ⟨rfl,rfl,rfl⟩:=hb';obtain ⟨o,ho,hc⟩:=hR.cont a.block b base N (.cells l) hb hl;obtain ⟨cs,ty,fz,rfl,hfz,hsz,hbl,hcs⟩:=hc;have hmul:(sLen+n)*size<=cap'*size:=Nat.mul_le_mul_right _ hle;rw [Nat.add_mul] at hmul
 have hlen':news'.length=n*size:=by rw [<- hv.1,hnl]
 have hone':∀ v∈news',v.oneCell'=true:=by
  intro v' hv';obtain ⟨i,hi⟩:=List.getElem?_of_mem hv'
  have hi':i<news.length:=by rw [hv.1]; exact (List.getElem?_eq_some_iff.1 hi).1
  exact (hv.2 i news[i] v' (List.getElem?_eq_getElem hi') hi).oneCell (List.all_eq_true.1 hone _ (List.getElem_mem hi'))
 have ea:a'.add (sLen*size)=⟨b,base+a.off+sLen*size,none⟩:=by
  obtain ⟨h1,h2⟩:=ha2.add (sLen*size)
  rcases h2 with ⟨s,h3,_,_⟩ | ⟨_,b2,base2,N2,h3,h4,h5⟩
  ·have:a.spot=some s:=h3
   rw [hsp] at this; cases this
  ·have h3':ρ a.block=some (b2,base2,N2):=h3;rw [hb] at h3';simp only [Option.some.injEq,Prod.mk.injEq] at h3';obtain ⟨rfl,rfl,rfl⟩:=h3';have h5':(a'.add (sLen*size)).off=base+(a.off+sLen*size):=h5;generalize a'.add (sLen*size)=y at h1 h4 h5';cases y
   simp_all
   omega
 have hrun:=run_storeCells_fz P b (base+a.off+sLen*size) ty fz news' 0 cs w ho (by rw [hsz]; exact hfz) (by omega) hone'
 rw [<- ea] at hrun;simp only [Nat.add_zero] at hrun
 have holdlen:old.length=sLen*size/\∀ j v,old[j]?=some v->∃ v',cs[base+a.off+j]?=some v'/\VR ρ v v':=by
  by_cases h0:sLen*size=0
  ·simp only [h0,if_true] at hold;subst hold
   exact ⟨by simp [h0],fun j v h=>by simp at h⟩
  ·simp only [h0,if_false] at hold;obtain ⟨l',hn,hvl,hcell⟩:=loadN_sound hst hR ha2 hold
   refine ⟨by rw [hvl.1,hn],fun j v hj=>?_⟩
   obtain ⟨v',h1,h2⟩:=hvl.get hj;have h3:=hcell j v' h1;refine ⟨v',?_,h2⟩
   have e:a'.add j=⟨b,base+a.off+j,none⟩:=by
    unfold Addr.add;split
    ·rename_i hj0; subst hj0; cases a'; simp_all
    ·simp_all
   rw [e] at h3
   simpa [World.cell?,ho] using h3
 obtain ⟨hol,hoc⟩:=holdlen
 have hsl:a.block<σ.length:=by
  rcases Nat.lt_or_ge a.block σ.length with h | h
  ·exact h
  ·simp [hp,List.getElem?_eq_none h] at hl
 have hle2:ρ.le (ρ.put σ.length (b,base+a.off,N)):=Ren.le_put hf
 have hHold:∀ id blk,hp ((σ++[some (Blk.cells (old++news))]).set a.block none) id=some blk->id≠a.block/\(id=σ.length/\blk=.cells (old++news)\/id≠σ.length/\hp σ id=some blk):=by
  intro id blk e;rw [hp_set_none] at e;split at e
  ·cases e
  ·rename_i hne;refine ⟨hne,?_⟩
   by_cases h:id=σ.length
   ·subst h;rw [hp_new] at e;exact .inl ⟨rfl,(Option.some.inj e).symm⟩
   ·rw [hp_old σ _ h] at e;exact .inr ⟨h,e⟩
 refine ⟨_,hrun,ρ.put σ.length (b,base+a.off,N),⟨by simp,fun id hid=>?_,⟨by simp,?_,?_⟩,⟨?_,?_,?_,?_⟩⟩,?_⟩
 ·simp at hid;simp [Ren.put];omega
 ·intro k hk hi
  exact setRow_other _ _ _ _ (fun e=>hi ⟨a.block,base,N,_,by rw [hb,e],hl⟩)
 ·intro k hi hk;obtain ⟨id,x,y,blk,e1,e2⟩:=hi
  obtain ⟨hne,⟨rfl,rfl⟩ | ⟨h1,h2⟩⟩:=hHold _ _ e2
  ·simp only [Ren.put,if_true,Option.some.injEq,Prod.mk.injEq] at e1
   exact ⟨a.block,base,N,_,by rw [hb,e1.1],hl⟩
  ·simp only [Ren.put,h1,if_false] at e1;exact ⟨id,x,y,blk,e1,h2⟩
 ·exact hR.below.trans ⟨rfl,rfl,rfl,by simp,fun k hk=>setRow_other _ _ _ _ (by have:=(hR.dyn _ _ _ _ hb).1; omega)⟩
 ·intro id b2 x y e
  by_cases h:id=σ.length
  ·subst h;simp only [Ren.put,if_true,Option.some.injEq,Prod.mk.injEq] at e;have:=hR.dyn _ _ _ _ hb;simp;omega
  ·simp only [Ren.put,h,if_false] at e
   simpa using hR.dyn _ _ _ _ e
 ·intro id b2 x y blk e1 e2
  obtain ⟨hne,⟨rfl,rfl⟩ | ⟨h1,h2⟩⟩:=hHold _ _ e2
  ·simp only [Ren.put,if_true,Option.some.injEq,Prod.mk.injEq] at e1;obtain ⟨rfl,rfl,rfl⟩:=e1;refine ⟨_,setRow_heap _ _ _ _ _ _ ho,_,ty,fz,rfl,hfz,?_,?_,?_⟩
   ·simp only [List.size_toArray,List.length_append,List.length_take,List.length_drop,Array.length_toList,hsz]; omega
   ·simp only [List.length_append]; omega
   ·intro j v hj
    have hlt:(cs.toList.take (base+a.off+sLen*size)).length=base+a.off+sLen*size:=by simp; omega
    simp only [List.getElem?_toArray]
    by_cases c1:j<old.length
    ·rw [List.getElem?_append_left c1] at hj;obtain ⟨v',h1,h2⟩:=hoc j v hj;refine ⟨v',?_,h2.mono hle2⟩
     rw [List.append_assoc,List.getElem?_append_left (by omega),List.getElem?_take,if_pos (by omega)]
     simpa using h1
    ·rw [List.getElem?_append_right (by omega)] at hj
     obtain ⟨v',h1,h2⟩:=hv.get hj;have hj2:j-old.length<news'.length:=(List.getElem?_eq_some_iff.1 h1).1;refine ⟨v',?_,h2.mono hle2⟩
     rw [List.append_assoc,List.getElem?_append_right (by omega),hlt,List.getElem?_append_left (by omega),<- h1]
     congr 1
     omega
  ·simp only [Ren.put,h1,if_false] at e1;obtain ⟨o2,ho2,hc2⟩:=hR.cont id b2 x y blk e1 h2;refine ⟨o2,?_,hc2.mono hle2⟩
   rw [setRow_other _ _ _ _ (fun e=>hne (hR.inj id a.block b x y base N blk _ (by rw [e1,e]) hb h2 hl))]
   exact ho2
 ·intro i j b2 x y x' y' bi bj e1 e2 e3 e4;obtain ⟨hni,hi⟩:=hHold _ _ e3;obtain ⟨hnj,hj⟩:=hHold _ _ e4
  have cross:∀ k blk x y,ρ k=some (b,x,y)->hp σ k=some blk->k=a.block:=fun k blk x y e1 e2=>hR.inj k a.block b x y base N blk _ e1 hb e2 hl
  rcases hi with ⟨rfl,rfl⟩ | ⟨h1,h2⟩
  ·rcases hj with ⟨rfl,_⟩ | ⟨h3,h4⟩
   ·rfl
   ·exfalso
    simp only [Ren.put,if_true,Option.some.injEq,Prod.mk.injEq] at e1;simp only [Ren.put,h3,if_false] at e2;obtain ⟨rfl,_⟩:=e1;exact hnj (cross _ _ _ _ e2 h4)
  ·rcases hj with ⟨rfl,_⟩ | ⟨h3,h4⟩
   ·exfalso
    simp only [Ren.put,if_true,Option.some.injEq,Prod.mk.injEq] at e2;simp only [Ren.put,h1,if_false] at e1;obtain ⟨rfl,_⟩:=e2;exact hni (cross _ _ _ _ e1 h2)
   ·simp only [Ren.put,h1,if_false] at e1;simp only [Ren.put,h3,if_false] at e2;exact hR.inj i j b2 x y x' y' bi bj e1 e2 h2 h4
 ·refine .sliceU _ _ _ _ _ size rfl hc1 hle (.inr ⟨⟨hs',.inr ⟨rfl,b,base+a.off,N,by simp [Ren.put],hblk,by simp [hoff]⟩⟩,rfl,b,base+a.off,N,by simp [Ren.put],by simpa using hroom⟩)
theorem appendA_sound {st:Stat}{σ σ':Heap}{argTypes:Array TypeId}{ty:TypeId}{args args':Array Value}{v:Value}(hst:GoodSt w0 st) (hR:Rel w0 ρ (hp σ) w)
  (hfr:Fresh ρ σ.length σ'.length) (hargs:VRA ρ args args') (h:appendA P st σ argTypes args=some (v,σ')) :
  ∃ v' w',(Builtin.append_ argTypes ty args').run P w=.ok v' w'/\OpOut w0 ρ σ w v σ' v' w':=by
 unfold appendA at h;split at h
 ·rename_i sT xT base sLen sCap x h0 h1 h2 h3;split at h
  ·rename_i e xd hd hx
   cases hi:P.info? e with
   | none=>simp [hi] at h
   | some i =>
    simp only [hi] at h;split at h
    ·cases h
    ·rename_i n news hsrc;split at h
     ·cases h
     ·rename_i hchk;simp only [ne_eq,not_or,Decidable.not_not,Bool.not_eq_false] at hchk;obtain ⟨hnl,hone⟩:=hchk;obtain ⟨s',hs',hsv⟩:=hargs.get h2;obtain ⟨x',hx',hxv⟩:=hargs.get h3
      have hn:∃ news',VRL ρ news news'/\((isIntD xd=false/\(Builtin.lenOf x').run P w=.ok n w/\∀ k,(Builtin.firstCells i.size n x').run P { w with drawn:=k }=.ok news'.toArray { w with drawn:=k }) \/
        (isIntD xd=true/\∃ kd m,x'=.int kd m/\0<=m/\m<9223372036854775808/\m*i.bytes<=281474976710656/\n=m.toNat /\
         ((n*i.size=0/\news'=[])\/∃ z,i.zero=some z/\n*i.size≠0/\news'=(Builtin.zeroCells z.cells n).toList))):=by
       by_cases hint:isIntD xd=true
       ·cases xd<;>simp [isIntD] at hint
        simp only at hsrc;split at hsrc
        ·rename_i kd m;split at hsrc
         ·rename_i hb
          cases hxv with
          | int _ _ =>
          by_cases hz0:m.toNat*i.size=0
          ·simp only [hz0,if_true,Option.some.injEq,Prod.mk.injEq] at hsrc;obtain ⟨rfl,rfl⟩:=hsrc;exact ⟨[],.nil ρ,.inr ⟨rfl,kd,m,rfl,hb.1,hb.2.1,hb.2.2,rfl,.inl ⟨hz0,rfl⟩⟩⟩
          ·simp only [hz0,if_false,Option.map_eq_some_iff,Prod.mk.injEq] at hsrc;obtain ⟨z,hz,rfl,rfl⟩:=hsrc;have hzf:=(run_zeroValue (P:=P) hz w).2
           have hzz:i.zero=some z:=by
            unfold zeroA at hz;simp only [hi] at hz
            cases hq:i.zero with
            | none=>simp [hq] at hz
            | some z' =>
             simp only [hq] at hz;split at hz
             ·simpa using hz
             ·cases hz
           refine ⟨_,zerosA_VRL hzf _,.inr ⟨rfl,kd,m,rfl,hb.1,hb.2.1,hb.2.2,rfl,.inr ⟨z,hzz,hz0,?_⟩⟩⟩;simp [zerosA,Builtin.zeroCells]
         ·cases hsrc
        ·cases hsrc
       ·have hint:isIntD xd=false:=by simpa using hint
        have hsrc':sourceA st σ i.size x=some (n,news):=by
         cases xd<;>simp [isIntD] at hint<;>exact hsrc
        obtain ⟨news',a,b,c⟩:=sourceA_sound (P:=P) hst hR hxv hsrc';exact ⟨news',a,.inl ⟨hint,b,c⟩⟩
      obtain ⟨news',hnv,hn⟩:=hn
      by_cases hcap:sCap<unk
      ·simp only [hcap,if_true] at h
       have hbase:∃ base',s'=.slice base' sLen sCap/\(match base,base' with | none,none=>sLen=0/\sCap=0 | some a,some a'=>sCap=0\/addrOk ρ a a' | _,_=>False)/\sLen<=sCap:=by
        cases hsv with
        | snil=>exact ⟨none,rfl,⟨rfl,rfl⟩,Nat.le_refl _⟩
        | sliceX a a' _ _ q1 q2 q3=>exact ⟨some a',rfl,q3,q2⟩
        | sliceU a a' _ _ cap' sz q0 q1 q2 q3=>omega
       obtain ⟨base',rfl,hbase,hlc⟩:=hbase
       by_cases hle:sLen+n<=sCap
       ·simp only [hle,if_true] at h
        have hrt:=run_append_tail (w:=w) (ty:=ty) (z:=.nilFunc) (by exact h0) (by exact h1) hs' hx' hd hx hi hn (old:=[]) (fun hc=>by omega) (fun hc=>by omega) (fun hc=>by omega)
        rw [hrt];unfold appTail;simp only [hle,if_true]
        cases base with
        | none =>
         cases base' with
         | some _=>exact hbase.elim
         | none =>
          obtain ⟨rfl,rfl⟩:=hbase;simp only [Option.some.injEq,Prod.mk.injEq] at h;obtain ⟨rfl,rfl⟩:=h
          obtain rfl:n=0:=by omega
          exact ⟨_,w,rfl,.same hR .snil⟩
        | some a =>
         cases base' with
         | none=>exact hbase.elim
         | some a' =>
          simp only at h
          by_cases hem:news=[]
          ·subst hem;obtain rfl:=hnv.nil_inv;simp only [List.isEmpty_nil,if_true,Option.some.injEq,Prod.mk.injEq] at h;obtain ⟨rfl,rfl⟩:=h
           exact ⟨_,w,by simp [storeCells],.same hR (.sliceX a a' _ _ hcap hle hbase)⟩
          ·have hie:news.isEmpty=false:=by cases news<;>simp at hem ⊢
           simp only [hie,Bool.false_eq_true,if_false,Option.map_eq_some_iff,Prod.mk.injEq] at h;obtain ⟨σ2,hst2,rfl,rfl⟩:=h
           have hpos:0<n:=by
            rcases Nat.eq_zero_or_pos n with h0 | h0
            ·subst h0; simp at hnl; exact absurd hnl hem
            ·exact h0
           have hb':addrOk ρ a a':=(show sCap=0\/addrOk ρ a a' from hbase).resolve_left (by omega)
           obtain ⟨w',hr,hnx⟩:=storeN_sound hR (hb'.add (sLen*i.size)) hnv hst2
           exact ⟨_,w',by simp [hr P],ρ,hnx,.sliceX a a' _ _ hcap hle (.inr hb')⟩
       ·simp only [hle,if_false] at h
        obtain ⟨v',w',hr,ho,⟨z,hz⟩,hb1,hb2,⟨old,hold⟩,_⟩:=growA_sound (P:=P) (e:=e) (base':=base') (sCap':=sCap) (n:=n) hst hR hfr
         (by cases base<;>cases base'<;>first | exact hbase.1 | exact hbase | exact (show sCap=0\/_ from hbase).imp (fun e=>by omega) id) hnv rfl (by omega) hnl h
        have hrt:=run_append_tail (w:=w) (ty:=ty) (z:=z) (by exact h0) (by exact h1) hs' hx' hd hx hi hn (fun _=>hold) (fun _=>hz) (fun _=>⟨hb1,hb2⟩)
        exact ⟨v',w',hrt.trans hr,ho⟩
      ·simp only [hcap,if_false] at h
       cases hsv with
       | snil=>exact absurd hcap (by unfold unk; omega)
       | sliceX a a' _ _ q1 q2 q3=>omega
       | sliceU a a' _ _ cap' sz q0 q1 q2 q3 =>
        by_cases hn0:n=0
        ·simp only [hn0,if_true,Option.some.injEq,Prod.mk.injEq] at h;obtain ⟨rfl,rfl⟩:=h;subst hn0
         have hne:news=[]:=List.eq_nil_of_length_eq_zero (by simpa using hnl)
         subst hne;obtain rfl:=hnv.nil_inv
         have hrt:=run_append_tail (w:=w) (ty:=ty) (z:=.nilFunc) (by exact h0) (by exact h1) hs' hx' hd hx hi hn (old:=[]) (fun hc=>by omega) (fun hc=>by omega) (fun hc=>by omega)
         refine ⟨.slice (some a') sLen cap',w,?_,.same hR (.sliceU a a' _ _ cap' sz q0 q1 q2 q3)⟩;rw [hrt];unfold appTail;simp [q2,storeCells]
        ·simp only [hn0,if_false] at h;split at h
         ·cases h
         ·rename_i hcz
          obtain rfl:sz=i.size:=by omega
          split at h
          ·rename_i l hsp hall
           have hal:∃ l,hp σ a.block=some (.cells l):=⟨l,by simp [hp,hall]⟩
           have hem:news≠[]:=by intro e; simp [e] at h
           have hie:news.isEmpty=false:=by cases news<;>simp at hem ⊢
           simp only [hie,Bool.false_eq_true,if_false] at h;simp only [Option.map_eq_some_iff] at h;obtain ⟨⟨v1,σ1⟩,hg,he⟩:=h;simp only [Prod.mk.injEq] at he;obtain ⟨rfl,rfl⟩:=he
           have hb0:sLen=0\/addrOk ρ a a':=q3.imp (fun e=>by omega) (·.1)
           have hg2:=hg;unfold growA at hg2;split at hg2
           ·rename_i hbb
            cases hz:i.zero with
            | none=>simp [hz] at hg2
            | some z =>
             by_cases hroom:sLen+n<=cap'
             ·have hrt:=run_append_tail (w:=w) (ty:=ty) (z:=z) (old:=[]) (by exact h0) (by exact h1) hs' hx' hd hx hi hn (fun hc=>by omega) (fun hc=>by omega) (fun hc=>by omega)
              rw [hrt];simp only [hz] at hg2;split at hg2
              ·cases hg2
              ·split at hg2
               ·cases hg2
               ·rename_i old hold;simp only [Option.some.injEq,Prod.mk.injEq] at hg2;obtain ⟨rfl,rfl⟩:=hg2
                have hc0:¬ cap'=0:=fun hc=>hn0 (Nat.eq_zero_of_le_zero (Nat.le_trans (Nat.le_add_left n sLen) (Nat.le_trans hroom (Nat.le_of_eq hc))))
                obtain ⟨ha,_,hrm⟩:=q3.resolve_left hc0
                obtain ⟨w',hr,ho⟩:=append_place (P:=P) (old:=old) (n:=n) hst hR (hfr _ (Nat.le_refl _) (by simp [newB])) ha hsp hrm (by
                 by_cases h0:sLen*i.size=0
                 ·simp only [h0,if_true,Option.some.injEq] at hold ⊢; exact hold.symm
                 ·simp only [h0,if_false] at hold ⊢; exact hold) hnv hnl hem hone hroom q1 hal
                refine ⟨_,w',?_,ho⟩;unfold appTail;simp [hroom,hr]
             ·obtain ⟨v',w',hr,_,_,_,_,⟨old,hold⟩,⟨ρ',hnx,hvr,_⟩,_⟩:=growA_sound (P:=P) (e:=e) (base:=some a) (base':=some a') (sCap':=cap') (n:=n) hst hR
               (by simpa using hfr) hb0 hnv rfl (by omega) hnl hg
              have hrt:=run_append_tail (w:=w) (ty:=ty) (z:=z) (by exact h0) (by exact h1) hs' hx' hd hx hi hn (fun _=>hold) (fun _=>hz) (fun _=>hbb)
              exact ⟨v',w',hrt.trans hr,ρ',hnx.kill _,hvr⟩
           ·cases hg2
          ·cases h
  ·cases h
 ·cases h
end
end Go.AE
namespace Go.AE
open Go Go.RowKit
section
variable {P:Program}{w0:World}{ρ:Ren}{w:World}
def EntsR (ρ:Ren) (es:List (Value×Value)) (en:List MapEntry):Prop :=
 en.length=es.length/\∀ (i:Nat) k v,es[i]?=some (k,v)->∃ e:MapEntry,en[i]?=some e/\e.key=k/\flat k=true/\VR ρ v e.val
theorem entsR_cons {k v:Value}{es:List (Value×Value)}{en:List MapEntry}(h:EntsR ρ ((k,v) :: es) en):∃ e r,en=e :: r/\e.key=k/\VR ρ v e.val/\EntsR ρ es r:=by
 cases en with
 | nil=>simp [EntsR] at h
 | cons e r =>
  obtain ⟨e',h1,h2,_,h4⟩:=h.2 0 k v rfl;obtain rfl:=Option.some.inj h1
  exact ⟨e,r,rfl,h2,h4,by simpa using h.1,fun i k' v' hi=>by simpa using h.2 (i+1) k' v' (by simpa using hi)⟩
theorem ba_beq {a b:ByteArray}(h:(a==b)=true):a=b:=by
 cases a;cases b;have h:ByteArray.beq _ _=true:=h;simp only [ByteArray.beq,beq_iff_eq] at h;rw [h]
theorem ba_self (a:ByteArray):(a==a)=true:=by
 show ByteArray.beq a a=true;simp [ByteArray.beq]
theorem sameNow_eq {d:TypeDesc}{k k':Value}(h:Instr.sameNow d k k'=some true):k'=k/\∀ n,Instr.sameBits n k k=true:=by
 unfold Instr.sameNow at h;split at h
 ·split at h
  ·rename_i e;subst e;simp only [Option.some.injEq,beq_iff_eq] at h;subst h
   exact ⟨rfl,fun n=>by cases n<;>simp [Instr.sameBits]⟩
  ·cases h
 ·obtain rfl:=ba_beq (Option.some.inj h)
  exact ⟨rfl,fun n=>by cases n<;>exact ba_self _⟩
 ·simp only [Option.some.injEq,beq_iff_eq] at h;subst h
  exact ⟨rfl,fun n=>by cases n<;>simp [Instr.sameBits]⟩
 ·cases h
theorem findA_none {d:TypeDesc}{k:Value}:∀ {es:List (Value×Value)}{en:List MapEntry}{i:Nat},EntsR ρ es en->findA d k es i=some none->Instr.findNow d k en i=some none
 | [],en,i,h,hf=>by
  have:en=[]:=List.eq_nil_of_length_eq_zero (by simpa using h.1)
  subst this;rfl
 | (k0,v0) :: es,en,i,h,hf=>by
  obtain ⟨e,r,rfl,hk,hv,hr⟩:=entsR_cons h;unfold findA at hf;unfold Instr.findNow;rw [hk]
  split at hf<;>first | (cases hf; done) | skip
  rename_i hs;rw [hs];exact findA_none hr hf
theorem findA_some {d:TypeDesc}{k v:Value}{j:Nat}:∀ {es:List (Value×Value)}{en:List MapEntry}{i:Nat},EntsR ρ es en->findA d k es i=some (some (j,v)) ->
  i<=j/\(∃ k0,es[j-i]?=some (k0,v))/\∃ e:MapEntry,en[j-i]?=some e/\e.key=k/\VR ρ v e.val/\Instr.findNow d k en i=some (some (j,e.val))/\∀ n,Instr.sameBits n k k=true
 | [],en,i,h,hf=>by cases hf
 | (k0,v0) :: es,en,i,h,hf=>by
  obtain ⟨e,r,rfl,hk,hv,hr⟩:=entsR_cons h;unfold findA at hf;unfold Instr.findNow;rw [hk]
  split at hf<;>first | (cases hf; done) | skip
  ·rename_i hs;simp only [Option.some.injEq,Prod.mk.injEq] at hf;obtain ⟨rfl,rfl⟩:=hf;obtain ⟨h1,h2⟩:=sameNow_eq hs;rw [hs]
   exact ⟨Nat.le_refl _,⟨k0,by simp⟩,e,by simp,by rw [hk]; exact h1,hv,rfl,h2⟩
  ·rename_i hs;rw [hs];obtain ⟨h1,⟨k1,h2⟩,e',h3,h4,h5,h6,h7⟩:=findA_some hr hf
   have:j-i=(j-(i+1))+1:=by omega
   exact ⟨by omega,⟨k1,by rw [this]; simpa using h2⟩,e',by rw [this]; simpa using h3,h4,h5,h6,h7⟩
theorem run_checkKey {kt:TypeId}{d:TypeDesc}{b:Bool}(hd:P.underlying kt=some d) (hp:plainKey d=true) (k:Value):(Instr.checkKey b 10000 kt k).run P w=.ok () w:=by
 show (Instr.checkKey b (9999+1) kt k).run P w=.ok () w;unfold Instr.checkKey
 cases d<;>first | (cases hp; done) | simp [run_underlying hd]
theorem run_findKey {kt:TypeId}{d:TypeDesc}{k:Value}{en:List MapEntry}{r:Option (Nat×Value)}(hd:P.underlying kt=some d) (h:Instr.findNow d k en 0=some r):(Instr.findKey kt k en).run P w=.ok r w:=by
 unfold Instr.findKey;simp [run_underlying hd,h]
theorem mapA_sound {σ:Heap}{t:TypeId}{m m':Value}{d:TypeDesc}{et:TypeId}{es:List (Value×Value)}(hR:Rel w0 ρ (hp σ) w) (hm:VR ρ m m') (h:mapA P σ t m=some (d,et,es)) :
  ∃ kt,P.underlying t=some (.map kt et)/\P.underlying kt=some d/\plainKey d=true /\
   ((m=.map none/\m'=.map none/\es=[])\/∃ r b x y en clock,m=.map (some r)/\m'=.map (some b)/\σ[r]?=some (some (.map es))/\ρ r=some (b,x,y)/\w.heap[b]?=some (.map en clock)/\EntsR ρ es en.toList):=by
 unfold mapA at h
 split at h<;>first | (cases h; done) | skip
 rename_i kt et' hu
 split at h<;>first | (cases h; done) | skip
 rename_i d' hd
 split at h<;>first | (cases h; done) | skip
 rename_i hp;split at h
 ·simp only [Option.some.injEq,Prod.mk.injEq] at h;obtain ⟨rfl,rfl,rfl⟩:=h;cases hm;exact ⟨kt,hu,hd,hp,.inl ⟨rfl,rfl,rfl⟩⟩
 ·rename_i r
  split at h<;>first | (cases h; done) | skip
  rename_i es' hr;simp only [Option.some.injEq,Prod.mk.injEq] at h;obtain ⟨rfl,rfl,rfl⟩:=h
  cases hm with
  | map _ b x y hρ =>
   obtain ⟨o,ho,hc⟩:=hR.cont r b x y (.map es') hρ (by show (σ[r]?).join=_; rw [hr]; rfl)
   obtain ⟨en,clock,rfl,hl,hv⟩:=hc
   exact ⟨kt,hu,hd,hp,.inr ⟨r,b,x,y,en,clock,rfl,rfl,hr,hρ,ho,by simpa using hl,fun i k v hi=>by simpa using hv i k v hi⟩⟩
 ·cases h
theorem VR.pair {a a' b b':Value}(h:VR ρ a a') (k:VR ρ b b'):VR ρ (.tuple #[a,b]) (.tuple #[a',b']) :=
 .tuple' (.mk_list (.cons h (.cons k (.nil ρ))))
theorem run_lookup {t kt et:TypeId}{d:TypeDesc}{m' k z:Value}{ok:Bool}{en:Array MapEntry}{r:Option (Nat×Value)}(hu:P.underlying t=some (.map kt et)) (hd:P.underlying kt=some d) (hp:plainKey d=true)
  (hm:(m'=.map none/\en=#[])\/∃ b clock,m'=.map (some b)/\w.heap[b]?=some (.map en clock)) (hf:Instr.findNow d k en.toList 0=some r) (hz:r=none->(zeroValue et).run P w=.ok z w) :
  (Instr.lookup t m' k ok).run P w=.ok (match r with | some (_,v)=>if ok then .tuple #[v,.bool true] else v | none=>if ok then .tuple #[z,.bool false] else z) w:=by
 have hz':r=none->∀ w1,w1=w->(zeroValue et).run P w1=.ok z w1:=fun h w1 e=>by rw [e]; exact hz h
 rcases hm with ⟨rfl,rfl⟩ | ⟨b,clock,rfl,hb⟩
 ·cases r with
  | none=>simp [Instr.lookup,run_underlying hu,run_checkKey hd hp,run_findKey hd hf,hz rfl]
  | some p=>simp [Instr.lookup,run_underlying hu,run_checkKey hd hp,run_findKey hd hf]
 ·have hg:(getObj b).run P w=.ok (.map en clock) w:=by simp [getObj,Sem.run,hb]
  cases r with
  | none=>simp [Instr.lookup,run_underlying hu,hg,run_checkKey hd hp,run_findKey hd hf,hz rfl]
  | some p=>simp [Instr.lookup,run_underlying hu,hg,run_checkKey hd hp,run_findKey hd hf]
theorem findA_mem {d:TypeDesc}{k v:Value}{j:Nat}:∀ {es:List (Value×Value)}{i:Nat},findA d k es i=some (some (j,v))->(k,v)∈es
 | [],i,h=>by cases h
 | (k',v') :: es,i,h=>by
  unfold findA at h;split at h
  ·rename_i hs;simp only [Option.some.injEq,Prod.mk.injEq] at h;obtain ⟨_,rfl⟩:=h;obtain ⟨rfl,_⟩:=sameNow_eq hs;exact List.mem_cons_self
  ·exact List.mem_cons_of_mem _ (findA_mem h)
  ·cases h
theorem pmapA_sound {σ:Heap}{t:TypeId}{m m' k k' v:Value}{ok:Bool}(hR:Rel w0 ρ (hp σ) w) (hm:VR ρ m m') (hk:VR ρ k k') (h:pmapA P σ t m k=some v) :
  ∃ v',(Instr.lookup t m' k' ok).run P w=.ok v' w/\VR ρ (if ok then .tuple #[v,.bool true] else v) v':=by
 unfold pmapA at h
 split at h<;>first | (cases h; done) | skip
 rename_i r
 cases hr:(σ[r]?).join with
 | none=>rw [hr] at h; cases h
 | some b =>
  rw [hr] at h;unfold pmapB at h
  split at h<;>first | (cases h; done) | skip
  rename_i q es hb;obtain rfl:=Option.some.inj hb
  split at h<;>first | (cases h; done) | skip
  rename_i kt et hu
  split at h<;>first | (cases h; done) | skip
  rename_i q' hd
  split at h<;>first | (cases h; done) | skip
  rename_i hq;obtain ⟨rfl,hfk⟩:=hq
  split at h<;>first | (cases h; done) | skip
  rename_i j u hf;obtain rfl:=Option.some.inj h;obtain rfl:=VR_flat hfk hk
  cases hm with
  | map _ b x y hρ =>
   obtain ⟨o,ho,en,clock,rfl,hv⟩:=hR.cont r b x y (.pmap q es) hρ hr;obtain ⟨j',u',hfn,hvr⟩:=hv _ _ (findA_mem hf)
   refine ⟨_,run_lookup (z:=undef) hu hd rfl (.inr ⟨b,clock,rfl,ho⟩) hfn (fun h=>by cases h),?_⟩
   cases ok
   ·exact hvr
   ·exact .pair hvr (.bool true)
theorem lookupA_sound {σ:Heap}{t:TypeId}{m m' k k' v:Value}{ok:Bool}(hR:Rel w0 ρ (hp σ) w) (hm:VR ρ m m') (hk:VR ρ k k') (h:lookupA P σ t m k ok=some v) :
  ∃ v',(Instr.lookup t m' k' ok).run P w=.ok v' w/\VR ρ v v':=by
 unfold lookupA at h;split at h
 ·rename_i u hp;obtain rfl:=Option.some.inj h;exact pmapA_sound hR hm hk hp
 split at h<;>first | (cases h; done) | skip
 rename_i d et es hma
 split at h<;>first | (cases h; done) | skip
 rename_i hfk
 have hfk:flat k=true:=by simpa using hfk
 obtain rfl:=VR_flat hfk hk;obtain ⟨kt,hu,hd,hp,hcase⟩:=mapA_sound hR hm hma
 obtain ⟨en,hmm,hE⟩:∃ en:Array MapEntry,((m'=.map none/\en=#[])\/∃ b clock,m'=.map (some b)/\w.heap[b]?=some (.map en clock))/\EntsR ρ es en.toList:=by
  rcases hcase with ⟨_,rfl,rfl⟩ | ⟨r,b,x,y,en,clock,_,rfl,_,_,ho,hE⟩
  ·exact ⟨#[],.inl ⟨rfl,rfl⟩,by simp,fun i k v hi=>by simp at hi⟩
  ·exact ⟨en,.inr ⟨b,clock,rfl,ho⟩,hE⟩
 split at h
 ·rename_i j u hf;simp only [Option.some.injEq] at h;subst h;obtain ⟨_,_,e,_,_,hv,hfn,_⟩:=findA_some hE hf
  refine ⟨_,run_lookup (z:=undef) hu hd hp hmm hfn (fun h=>by cases h),?_⟩
  cases ok
  ·exact hv
  ·exact .pair hv (.bool true)
 ·rename_i hf;simp only [Option.map_eq_some_iff] at h;obtain ⟨z,hz,rfl⟩:=h;obtain ⟨hzr,hzf⟩:=run_zeroValue hz w
  refine ⟨_,run_lookup hu hd hp hmm (findA_none hE hf) (fun _=>hzr),?_⟩
  cases ok
  ·exact flat_VR ρ hzf
  ·exact .pair (flat_VR ρ hzf) (.bool false)
 ·cases h
theorem setObj_run {b:Nat}{en:Array MapEntry}{clock:Nat}(o:Obj) (hb:w.heap[b]?=some (.map en clock)):(setObj b o).run P w=.ok () { w with heap:=w.heap.setIfInBounds b o }:=by
 simp [setObj,Sem.run,hb]
theorem mapPutA_sound {σ σ':Heap}{t:TypeId}{m m' k k' v v':Value}(hR:Rel w0 ρ (hp σ) w) (hm:VR ρ m m') (hk:VR ρ k k') (hv:VR ρ v v') (h:mapPutA P σ t m k v=some σ') :
  ∃ w',(Instr.mapUpdate t m' k' v').run P w=.ok () w'/\Nxt w0 ρ σ w ρ σ' w':=by
 unfold mapPutA at h
 split at h<;>first | (cases h; done) | skip
 rename_i d et es r hma
 split at h<;>first | (cases h; done) | skip
 rename_i hfk;obtain rfl:=VR_flat hfk hk;obtain ⟨kt,hu,hd,hp,hcase⟩:=mapA_sound hR hm hma
 rcases hcase with ⟨h0,_⟩ | ⟨r',b,x,y,en,clock,h0,rfl,hr,hρ,ho,hE⟩
 ·cases h0
 obtain rfl:r=r':=by simpa using h0
 have hg:(getObj b).run P w=.ok (.map en clock) w:=by simp [getObj,Sem.run,ho]
 split at h
 ·rename_i i u hf;simp only [Option.some.injEq] at h;subst h;obtain ⟨_,⟨k0,hes⟩,e,hen,hek,_,hfn,hsb⟩:=findA_some hE hf;simp only [Nat.sub_zero] at hes hen
  have hen':en[i]?=some e:=by simpa using hen
  refine ⟨_,?_,upd_sound (o:=.map (en.modify i fun e=>{ e with key:=k',val:=v' }) clock) hR hr hρ ⟨_,clock,rfl,by simpa using hE.1,fun j kj vj hj=>?_⟩⟩
  ·have hs:=setObj_run (P:=P) (.map (en.modify i fun e=>{ e with key:=k',val:=v' }) clock) ho
   simp [Instr.mapUpdate,run_underlying hu,hg,run_checkKey hd hp,run_findKey hd hfn,hen',hek,Instr.keyThatStays,hsb,hs]
  ·have hlt:i<es.length:=(List.getElem?_eq_some_iff.1 hes).1
   by_cases hij:i=j
   ·subst hij;rw [List.getElem?_set_self hlt] at hj;simp only [Option.some.injEq,Prod.mk.injEq] at hj;obtain ⟨rfl,rfl⟩:=hj
    exact ⟨{ e with key:=k',val:=v' },by rw [Array.getElem?_modify]; simp [hen'],rfl,hfk,hv⟩
   ·rw [List.getElem?_set_ne hij] at hj;obtain ⟨e',h1,h2,h3,h4⟩:=hE.2 j kj vj hj
    exact ⟨e',by rw [Array.getElem?_modify,if_neg hij]; simpa using h1,h2,h3,h4⟩
 ·rename_i hf;simp only [Option.some.injEq] at h;subst h;have hfn:=findA_none hE hf
  refine ⟨_,?_,upd_sound (o:=.map (en.push { key:=k',val:=v',born:=clock }) (clock+1)) hR hr hρ ⟨_,clock+1,rfl,by simpa using hE.1,fun j kj vj hj=>?_⟩⟩
  ·have hs:=setObj_run (P:=P) (.map (en.push { key:=k',val:=v',born:=clock }) (clock+1)) ho;simp [Instr.mapUpdate,run_underlying hu,hg,run_checkKey hd hp,run_findKey hd hfn,hs]
  ·have hl:en.size=es.length:=by simpa using hE.1
   by_cases hj2:j<es.length
   ·rw [List.getElem?_append_left hj2] at hj;obtain ⟨e',h1,h2,h3,h4⟩:=hE.2 j kj vj hj
    exact ⟨e',by rw [Array.getElem?_push,if_neg (by omega)]; simpa using h1,h2,h3,h4⟩
   ·rw [List.getElem?_append_right (by omega)] at hj
    cases hx:j-es.length with
    | zero =>
     rw [hx] at hj;simp only [List.getElem?_cons_zero,Option.some.injEq,Prod.mk.injEq] at hj;obtain ⟨rfl,rfl⟩:=hj
     exact ⟨_,by rw [Array.getElem?_push,if_pos (by omega)],rfl,hfk,hv⟩
    | succ n=>rw [hx] at hj; simp at hj
 ·cases h
theorem makeMap_sound {σ:Heap}{t:TypeId}(hR:Rel w0 ρ (hp σ) w) (hfr:Fresh ρ σ.length (σ++[some (Blk.map [])]).length) :
  ∃ v' w',(Instr.makeMap t none).run P w=.ok v' w'/\OpOut w0 ρ σ w (.map (some σ.length)) (σ++[some (.map [])]) v' w':=by
 have hf:ρ σ.length=none:=hfr _ (Nat.le_refl _) (by simp)
 have:=new_sound (B:=.map []) (N:=0) (o:=.map #[] 0) hR hf ⟨#[],0,rfl,rfl,fun i k v hi=>by simp at hi⟩
 exact ⟨.map (some w.heap.size),_,by simp [Instr.makeMap],_,this,.map _ _ 0 0 (by simp [Ren.put])⟩
theorem rangeA_sound {σ σ':Heap}{t:TypeId}{x x' v:Value}(hR:Rel w0 ρ (hp σ) w) (hfr:Fresh ρ σ.length σ'.length) (hx:VR ρ x x') (h:rangeA P σ t x=some (v,σ')) :
  ∃ v' w',(Instr.range t x').run P w=.ok v' w'/\OpOut w0 ρ σ w v σ' v' w':=by
 unfold rangeA at h
 split at h<;>first | (cases h; done) | skip
 rename_i s hu;simp only [Option.some.injEq,Prod.mk.injEq] at h;obtain ⟨rfl,rfl⟩:=h;cases hx
 have hf:ρ σ.length=none:=hfr _ (Nat.le_refl _) (by simp)
 have:=new_sound (B:=.iter s 0) (N:=0) (o:=.stringIter s 0) hR hf ⟨rfl,rfl⟩
 exact ⟨.pointer (some ⟨w.heap.size,0,none⟩),_,by simp [Instr.range,run_underlying hu],_,this,.ptr _ _ ⟨rfl,.inr ⟨rfl,w.heap.size,0,0,by simp [Ren.put],rfl,rfl⟩⟩⟩
theorem nextA_sound {σ σ':Heap}{it it' v:Value}{b:Bool}{ty:TypeId}(hR:Rel w0 ρ (hp σ) w) (hx:VR ρ it it') (h:nextA σ it b=some (v,σ')) :
  ∃ v' w',(Instr.next it' b ty).run P w=.ok v' w'/\OpOut w0 ρ σ w v σ' v' w':=by
 unfold nextA at h
 split at h<;>first | (cases h; done) | skip
 rename_i r
 split at h<;>first | (cases h; done) | skip
 rename_i s pos hr
 cases hx with
 | ptr _ a' ha =>
  obtain ⟨hs,ha⟩:=ha
  rcases ha with ⟨_,h1,_,_⟩ | ⟨_,b,base,n,hρ,hb,ho⟩
  ·cases h1
  have hρ:ρ r=some (b,base,n):=hρ
  obtain ⟨o,hob,hc⟩:=hR.cont r b base n (.iter s pos) hρ (by simp [hp,hr])
  obtain ⟨rfl,rfl⟩:o=.stringIter s pos/\base=0:=hc
  have ea:a'=⟨b,0,none⟩:=by cases a'; simp_all
  subst ea;split at h
  ·rename_i hlt;simp only [Option.some.injEq,Prod.mk.injEq] at h;obtain ⟨rfl,rfl⟩:=h;refine ⟨_,_,?_,ρ,upd_sound (o:=.stringIter s (pos+(Utf8.decode s pos).2)) hR hr hρ ⟨rfl,rfl⟩,flat_VR ρ rfl⟩;simp [Instr.next,getObj,setObj,Sem.run,hob,hlt]
  ·rename_i hlt;simp only [Option.some.injEq,Prod.mk.injEq] at h;obtain ⟨rfl,rfl⟩:=h;refine ⟨_,w,?_,.same hR (flat_VR ρ rfl)⟩;simp [Instr.next,getObj,Sem.run,hob,hlt]
theorem intsA_some {q:IntKind}:∀ {l:List Value}{ns:List Int},intsA q l=some ns->l=ns.map (Value.int q)
 | [],ns,h=>by obtain rfl:=Option.some.inj h; rfl
 | v :: r,ns,h=>by
  unfold intsA at h
  split at h<;>first | (cases h; done) | skip
  ·rename_i heq;cases heq
  ·rename_i k n r' heq;cases heq
   split at h<;>first | (cases h; done) | skip
   rename_i e;subst e;simp only [Option.map_eq_some_iff] at h;obtain ⟨m,hm,rfl⟩:=h;rw [intsA_some hm];rfl
theorem ints_VRL {q:IntKind}{ns:List Int}{l':List Value}(h:VRL ρ (ns.map (Value.int q)) l'):l'=ns.map (Value.int q):=by
 apply List.ext_getElem h.1.symm
 intro i h1 h2;have:=h.2 i _ _ (List.getElem?_eq_getElem h2) (List.getElem?_eq_getElem h1);simp only [List.getElem_map] at this ⊢;generalize l'[i]=x at this;cases this;rfl
theorem run_forIn_runes {f:Value->ByteArray->Sem (ForInStep ByteArray)}(hf:∀ (n:Int) (r:ByteArray),(f (.int .i32 n) r).run P w=.ok (.yield (r++Utf8.encode n)) w) :
  ∀ (ns:List Int) (s:ByteArray),(forIn (ns.map (Value.int .i32)) s f).run P w=.ok (ns.foldl (fun r n=>r++Utf8.encode n) s) w:=by
 intro ns
 induction ns with
 | nil=>intro s; simp [Sem.run_pure]
 | cons n ns ih =>
  intro s;simp only [List.map_cons,List.forIn_cons,Sem.run_bind,hf,Result.andThen,List.foldl_cons];exact ih _
theorem run_runesToString (a:Addr) (len cap:Nat) (ns:List Int) (h:(loadCells a len).run P w=.ok (ns.map (Value.int .i32)).toArray w) :
  (Conv.runesToString (.slice (some a) len cap)).run P w=.ok (.string (ns.foldl (fun r n=>r++Utf8.encode n) ByteArray.empty)) w:=by
 unfold Conv.runesToString;simp only [Sem.run_bind,h,Result.andThen,List.forIn_toArray]
 rw [run_forIn_runes (by intro n r; simp [Sem.run_pure])]
 simp [Sem.run_pure]
theorem run_runes_of_string (w:World) (src dst e:TypeId) (s:ByteArray) (hs:P.underlying src=some .string) (hd:P.underlying dst=some (.slice e)) (he:P.underlying e=some (.int .i32)) :
  (convert src dst (.string s)).run P w=.ok (.slice (some ⟨w.heap.size,0,none⟩) (Conv.runesFrom s s.size 0 #[]).size (grownCap w (Conv.runesFrom s s.size 0 #[]).size 0 e))
   (w.drew.alloc (.cells (Conv.runesFrom s s.size 0 #[]++Array.replicate (grownCap w (Conv.runesFrom s s.size 0 #[]).size 0 e-(Conv.runesFrom s s.size 0 #[]).size) (.int .i32 0)) e)):=by
 simp [convert,run_underlying hs,run_underlying hd,run_underlying he,Conv.stringToRunes,Question.forced,newRow,grownCap]
theorem runesFrom_ints (s:ByteArray):∀ (n i:Nat) (acc:Array Value),(∀ v∈acc.toList,∃ k,v=.int .i32 k)->∀ v∈(Conv.runesFrom s n i acc).toList,∃ k,v=.int .i32 k
 | 0,i,acc,h=>h
 | n+1,i,acc,h=>by
  unfold Conv.runesFrom;split
  ·refine runesFrom_ints s n _ _ fun v hv=>?_
   simp only [Array.toList_push,List.mem_append,List.mem_singleton] at hv
   rcases hv with hv | rfl
   ·exact h v hv
   ·exact ⟨_,rfl⟩
  ·exact h
theorem convA_sound {st:Stat}{σ σ':Heap}{src dst:TypeId}{x x' v:Value}(hst:GoodSt w0 st) (hR:Rel w0 ρ (hp σ) w) (hfr:Fresh ρ σ.length σ'.length) (hx:VR ρ x x') (h:convA P st σ src dst x=some (v,σ')) :
  ∃ v' w',(convert src dst x').run P w=.ok v' w'/\OpOut w0 ρ σ w v σ' v' w':=by
 unfold convA at h
 split at h<;>first | (cases h; done) | skip
 ·rename_i e s hs hd;cases hx
  have hf:σ'.length=σ.length+1->ρ σ.length=none:=fun e=>hfr _ (Nat.le_refl _) (by omega)
  have bound:∀ n,n<=140737488355328->n<=grownCap w n 0 e/\grownCap w n 0 e<unk:=by
   intro n hn;refine ⟨grownCap_ge w n 0 e,?_⟩
   have:=grownCap_le_maxLen w n 0 e (by unfold maxLen; omega)
   unfold maxLen at this;unfold unk;omega
  split at h<;>first | (cases h; done) | skip
  ·rename_i he
   split at h<;>first | (cases h; done) | skip
   rename_i hsz;simp only [Option.some.injEq,Prod.mk.injEq] at h;obtain ⟨rfl,rfl⟩:=h;obtain ⟨hge,hlt⟩:=bound _ hsz;have hsd:s.data.size=s.size:=rfl
   have hrow:(bytesRow s (grownCap w s.size 0 e)).size=grownCap w s.size 0 e:=by
    simp only [bytesRow,Array.size_append,Array.size_map,Array.size_replicate];omega
   have hf0:=hf (by simp [newB])
   have hn:=newF_sound (w:=w.drew) (ty:=e) (σ:=σ) (l:=bytesA s) (cs:=bytesRow s (grownCap w s.size 0 e)) (fz:=((bytesRow s (grownCap w s.size 0 e)).size,(bytesRow s (grownCap w s.size 0 e)).size+1))
    (hR.drew _) hf0 (fun i hi h=>by simp only at h; omega) (by simp [bytesA,hrow]; omega) (fun i v hi=>by
     have hi2:i<s.data.size:=by have:=(List.getElem?_eq_some_iff.1 hi).1; simpa [bytesA] using this
     refine ⟨v,?_,?_⟩
     ·unfold bytesRow
      rw [Array.getElem?_append_left (by simpa using hi2)]
      simpa [bytesA] using hi
     ·simp only [bytesA,List.getElem?_map,Option.map_eq_some_iff] at hi;obtain ⟨b,_,rfl⟩:=hi;exact .int _ _)
   have hn2:Nxt w0 ρ σ w _ _ _:=Nxt.drew hn;refine ⟨_,_,run_bytes_of_string w src dst e s hs hd he,_,hn2,?_⟩;rw [hrow] at *
   exact .sliceU _ _ _ _ _ 1 rfl hlt hge (.inr ⟨⟨rfl,.inr ⟨rfl,w.heap.size,0,grownCap w s.size 0 e,by simp [newB,Ren.put],rfl,rfl⟩⟩,rfl,w.heap.size,0,grownCap w s.size 0 e,by simp [newB,Ren.put],by simp [newB]⟩)
  ·rename_i he
   dsimp only at h
   split at h<;>first | (cases h; done) | skip
   rename_i hsz;simp only [Option.some.injEq,Prod.mk.injEq] at h;obtain ⟨rfl,rfl⟩:=h;simp only [Array.length_toList] at hsz;obtain ⟨hge,hlt⟩:=bound _ hsz;generalize hg:grownCap w (Conv.runesFrom s s.size 0 #[]).size 0 e=G at hge hlt
   have hf0:=hf (by simp [newB])
   have hrow:(Conv.runesFrom s s.size 0 #[]++Array.replicate (G-(Conv.runesFrom s s.size 0 #[]).size) (Value.int .i32 0)).size=G:=by
    simp only [Array.size_append,Array.size_replicate];omega
   have hn:=newB_sound (w:=w.drew) (ty:=e) (σ:=σ) (l:=(Conv.runesFrom s s.size 0 #[]).toList) (cs:=Conv.runesFrom s s.size 0 #[]++Array.replicate (G-(Conv.runesFrom s s.size 0 #[]).size) (.int .i32 0))
    (hR.drew _) hf0 (by rw [hrow]; simpa using hge) (fun i v hi=>by
     have hi2:i<(Conv.runesFrom s s.size 0 #[]).size:=by have:=(List.getElem?_eq_some_iff.1 hi).1; simpa using this
     refine ⟨v,?_,?_⟩
     ·rw [Array.getElem?_append_left hi2]
      simpa using hi
     ·obtain ⟨k,rfl⟩:=runesFrom_ints s s.size 0 #[] (by simp) v (List.mem_of_getElem? hi)
      exact .int _ _)
   rw [hrow] at hn;have hn2:Nxt w0 ρ σ w _ _ _:=Nxt.drew hn;have hrun:=run_runes_of_string (P:=P) w src dst e s hs hd he;rw [hg] at hrun;refine ⟨_,_,hrun,_,hn2,?_⟩;simp only [Array.length_toList]
   exact .sliceU _ _ _ _ _ 1 rfl hlt hge (.inr ⟨⟨rfl,.inr ⟨rfl,w.heap.size,0,G,by simp [newB,Ren.put],rfl,rfl⟩⟩,rfl,w.heap.size,0,G,by simp [newB,Ren.put],by simp [newB]⟩)
 ·rename_i e a n c hs hd
  have load:∀ {l:List Value}{q:IntKind}{ns:List Int}{a':Addr},(n=0\/addrOk ρ a a')->(if n=0 then some [] else loadN st σ a n)=some l->intsA q l=some ns->(loadCells a' n).run P w=.ok (ns.map (Value.int q)).toArray w:=by
   intro l q ns a' ha hl hi;obtain rfl:=intsA_some hi;split at hl
   ·rename_i h0;have hl:[]=ns.map (Value.int q):=Option.some.inj hl;rw [h0,<- hl];simp [loadCells,loadCellsFrom]
   ·rename_i h0;obtain ⟨l',hn,hv,hc⟩:=loadN_sound hst hR (ha.resolve_left h0) hl;obtain rfl:=ints_VRL hv;have:=run_loadCells_list (P:=P) w a' _ hc;rw [hn] at this;exact this
  obtain ⟨a',c',rfl,ha⟩:∃ a' c',x'=.slice (some a') n c'/\(n=0\/addrOk ρ a a'):=by
   cases hx with
   | sliceX _ a' _ _ h1 h2 h3=>exact ⟨a',c,rfl,h3.imp (fun e=>by omega) id⟩
   | sliceU _ a' _ _ cap' sz h0 h1 h2 h3=>exact ⟨a',cap',rfl,h3.imp (fun e=>by omega) (·.1)⟩
  split at h<;>first | (cases h; done) | skip
  ·rename_i he
   split at h<;>first | (cases h; done) | skip
   rename_i l hl;simp only [Option.map_eq_some_iff,Prod.mk.injEq] at h;obtain ⟨ns,hns,rfl,rfl⟩:=h;have hr:=load ha hl hns;refine ⟨_,w,?_,.same hR (.string _)⟩;rw [run_convert_bytes_string w src dst e (some a') n c' hs he hd];exact run_bytesToString w a' n c' ns hr
  ·rename_i he
   split at h<;>first | (cases h; done) | skip
   rename_i l hl;simp only [Option.map_eq_some_iff,Prod.mk.injEq] at h;obtain ⟨ns,hns,rfl,rfl⟩:=h;have hr:=load ha hl hns;refine ⟨_,w,?_,.same hR (.string _)⟩
   have e1:(convert src dst (.slice (some a') n c')).run P w=(Conv.runesToString (.slice (some a') n c')).run P w:=by
    simp [convert,run_underlying hs,run_underlying hd,run_underlying he]
   rw [e1];exact run_runesToString a' n c' ns hr
end
end Go.AE
