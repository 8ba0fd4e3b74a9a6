/-
 Copy,'==' against nil,calls; each operation of the evaluator is the model's.
 Conditions: see the theorems.
-/
import Derived.Test.YtigmkgampfbflaaGreatDoorAeOp4
import Derived.Test.YtigmkgampfbflaaGreatDoorAeDef
namespace Go.AE
open Go Go.RowKit
section
variable {P:Program}{w0:World}{ρ:Ren}{w:World}
theorem copyA_sound {st:Stat}{σ σ':Heap}{argTypes:Array TypeId}{ty:TypeId}{args args':Array Value}{v:Value}(hst:GoodSt w0 st) (hR:Rel w0 ρ (hp σ) w)
  (hargs:VRA ρ args args') (h:copyA P st σ argTypes args=some (v,σ')):∃ v' w',(Builtin.copy_ argTypes ty args').run P w=.ok v' w'/\OpOut w0 ρ σ w v σ' v' w':=by
 unfold copyA at h;split at h
 ·rename_i dT base dLen dCap src h0 h2 h3;split at h
  ·rename_i e hd
   cases hs:sizeA P e with
   | none=>simp [hs] at h
   | some size =>
    simp only [hs] at h;split at h
    ·cases h
    ·rename_i n cells hsrc;obtain ⟨s',hs',hsv⟩:=hargs.get h2;obtain ⟨x',hx',hxv⟩:=hargs.get h3
     have hc:∃ cells',VRL ρ cells cells'/\(do let m <- Builtin.lenOf x'; let cs <- Builtin.firstCells size (Nat.min m dLen) x'; pure (Nat.min m dLen,cs):Sem (Nat×Array Value)).run P w=.ok (n,cells'.toArray) w:=by
      have go:∀ (a a':Addr) (m c:Nat),(m=0\/addrOk ρ a a') ->
        (if Nat.min m dLen*size=0 then some (Nat.min m dLen,[]) else (loadN st σ a (Nat.min m dLen*size)).map fun l=>(Nat.min m dLen,l))=some (n,cells) ->
        ∃ cells',VRL ρ cells cells'/\(do let m <- Builtin.lenOf (.slice (some a') m c); let cs <- Builtin.firstCells size (Nat.min m dLen) (.slice (some a') m c); pure (Nat.min m dLen,cs):Sem (Nat×Array Value)).run P w=.ok (n,cells'.toArray) w:=by
       intro a a' m c ha h
       by_cases h0:Nat.min m dLen*size=0
       ·simp only [h0,if_true,Option.some.injEq,Prod.mk.injEq] at h;obtain ⟨rfl,rfl⟩:=h
        exact ⟨[],.nil ρ,by simp [Builtin.lenOf,Builtin.firstCells,h0,loadCells,loadCellsFrom]⟩
       ·simp only [h0,if_false,Option.map_eq_some_iff,Prod.mk.injEq] at h;obtain ⟨l,hl,rfl,rfl⟩:=h
        have hm:m≠0:=by
         intro e;subst e;simp at h0
        obtain ⟨l',hn,hv,hcell⟩:=loadN_sound hst hR (ha.resolve_left hm) hl;have:=run_loadCells_list (P:=P) w a' l' hcell;rw [hn] at this
        exact ⟨l',hv,by simp [Builtin.lenOf,Builtin.firstCells,this]⟩
      split at hsrc
      ·simp only [Option.some.injEq,Prod.mk.injEq] at hsrc;obtain ⟨rfl,rfl⟩:=hsrc;cases hxv
       exact ⟨[],.nil ρ,by simp [Builtin.lenOf,Builtin.firstCells]⟩
      ·rename_i a m c
       cases hxv with
       | sliceX _ a' _ _ q1 q2 q3=>exact go a a' m c (q3.imp (fun e=>by omega) id) hsrc
       | sliceU _ a' _ _ cap' sz q0 q1 q2 q3=>exact go a a' m cap' (q3.imp (fun e=>by omega) (·.1)) hsrc
      ·rename_i s;simp only [Option.some.injEq,Prod.mk.injEq] at hsrc;obtain ⟨rfl,rfl⟩:=hsrc;cases hxv
       refine ⟨_,⟨rfl,fun i v v' hv hv'=>?_⟩,by simp only [Builtin.lenOf,Builtin.firstCells,Sem.run_bind,Sem.run_pure,Result.andThen_ok,Array.toArray_toList]⟩
       obtain rfl:=Option.some.inj (hv.symm.trans hv');simp only [Array.toList_map,List.getElem?_map,Option.map_eq_some_iff] at hv;obtain ⟨b,_,rfl⟩:=hv;exact .int _ _
      ·cases hsrc
     obtain ⟨cells',hcv,hrun⟩:=hc
     have fin:∀ (b:Option Addr) (c:Nat),args'[0]?=some (.slice b dLen c)->(Builtin.copy_ argTypes ty args').run P w =
       ((do let m <- Builtin.lenOf x'; let cs <- Builtin.firstCells size (Nat.min m dLen) x'; pure (Nat.min m dLen,cs):Sem (Nat×Array Value)).run P w).andThen fun p w1 =>
        ((do
           if let some a:=b then storeCells a p.2.toList
           pure (goInt p.1):Sem Value)).run P w1:=by
      intro b c hb
      cases hl:(Builtin.lenOf x').run P w with
      | halt hh w2=>simp [Builtin.copy_,h0,hb,hx',run_underlying hd,hl]
      | ok m w2 =>
       have hw2:w2=w:=by
        cases x'<;>simp [Builtin.lenOf] at hl<;>first | exact hl.2.symm | skip
       subst hw2
       cases hf:(Builtin.firstCells size (Nat.min m dLen) x').run P w2 with
       | halt hh w3=>simp [Builtin.copy_,h0,hb,hx',run_underlying hd,hl,run_sizeOf' hs,hf]
       | ok cs w3=>cases b<;>simp [Builtin.copy_,h0,hb,hx',run_underlying hd,hl,run_sizeOf' hs,hf]
     have hbase:∃ base' c,s'=.slice base' dLen c/\(match base,base' with | none,none=>True | some a,some a'=>dLen=0\/addrOk ρ a a' | _,_=>False):=by
      cases hsv with
      | snil=>exact ⟨none,0,rfl,trivial⟩
      | sliceX a a' _ _ q1 q2 q3=>exact ⟨some a',_,rfl,q3.imp (fun e=>by omega) id⟩
      | sliceU a a' _ _ cap' sz q0 q1 q2 q3=>exact ⟨some a',_,rfl,q3.imp (fun e=>by omega) (·.1)⟩
     obtain ⟨base',c,rfl,hbase⟩:=hbase;rw [fin base' c hs',hrun];simp only [Result.andThen_ok]
     cases base with
     | none =>
      cases base' with
      | some _=>exact hbase.elim
      | none =>
       simp only [Option.some.injEq,Prod.mk.injEq] at h;obtain ⟨rfl,rfl⟩:=h;exact ⟨_,w,rfl,.same hR (.int _ _)⟩
     | some a =>
      cases base' with
      | none=>exact hbase.elim
      | some a' =>
       simp only at h
       by_cases hem:cells=[]
       ·subst hem;obtain rfl:=hcv.nil_inv;simp only [List.isEmpty_nil,if_true,Option.some.injEq,Prod.mk.injEq] at h;obtain ⟨rfl,rfl⟩:=h
        exact ⟨_,w,by simp [storeCells]; rfl,.same hR (.int _ _)⟩
       ·have hie:cells.isEmpty=false:=by cases cells<;>simp at hem ⊢
        simp only [hie,Bool.false_eq_true,if_false,Option.map_eq_some_iff,Prod.mk.injEq] at h;obtain ⟨σ2,hst2,rfl,rfl⟩:=h
        have hd0:dLen≠0:=by
         intro e;subst e
         apply hem
         split at hsrc
         ·simp only [Option.some.injEq,Prod.mk.injEq] at hsrc; exact hsrc.2.symm
         ·simp only [Nat.min_def,Nat.le_zero_eq] at hsrc
          split at hsrc<;>rename_i hz<;>simp_all
         ·simp only [Option.some.injEq,Prod.mk.injEq] at hsrc;rw [<- hsrc.2];simp
         ·cases hsrc
        obtain ⟨w',hr,hnx⟩:=storeN_sound hR ((show dLen=0\/addrOk ρ a a' from hbase).resolve_left hd0) hcv hst2
        exact ⟨_,w',by simp [hr P]; rfl,ρ,hnx,.int _ _⟩
  ·cases h
 ·cases h
theorem binA_sound {op:BinOp}{t:TypeId}{xo yo:Operand}{x x' y y' v:Value}(hx:VR ρ x x') (hy:VR ρ y y') (h:binA P op t x y=some v) (w:World) :
  ∃ v',(do eqGuard op t xo yo x' y'; binOp op t x' y':Sem Value).run P w=.ok v' w/\VR ρ v v':=by
 unfold binA at h
 cases hd:P.underlying t with
 | none=>simp [hd] at h
 | some d =>
  simp only [hd] at h;split at h
  ·rename_i hfit;simp only [Bool.and_eq_true] at hfit;obtain ⟨hf1,hf2⟩:=hfit
   have key:∀ b,nilEqA x y=some b->(Op.equal t x' y').run P w=.ok b w/\eqGuard op t xo yo x' y'=pure ()/\(∀ op',op'=.eql\/op'=.neq->(binOp op' t x' y').run P w=.ok (.bool (if op'=.eql then b else !b)) w):=by
    intro b hb
    have he:(Op.equal t x' y').run P w=.ok b w:=by
     have hall:∀ k,(Op.equalIn (k+1) t x' y').run P w=.ok b w:=by
      intro k;unfold nilEqA at hb
      split at hb<;>(try cases hb)<;>cases hx<;>cases hy<;>cases d<;>simp [descFits] at hf1 hf2<;>simp [Op.equalIn,run_underlying hd]
     exact hall 9999
    refine ⟨he,?_,?_⟩
    ·unfold nilEqA at hb
     split at hb<;>(try cases hb)<;>cases hx<;>cases hy<;>cases op<;>rfl
    ·intro op' hop;unfold nilEqA at hb
     rcases hop with rfl | rfl
     ·split at hb<;>(try cases hb)<;>cases hx<;>cases hy<;>simp_all [binOp]
     ·split at hb<;>(try cases hb)<;>cases hx<;>cases hy<;>simp_all [binOp]
   cases hn:nilEqA x y with
   | none=>cases op<;>simp [hn] at h
   | some b =>
    obtain ⟨_,hg,hb⟩:=key b hn;simp only [hn] at h;split at h
    ·rename_i h1; cases h1; cases h
     exact ⟨_,by rw [hg]; simpa using hb .eql (.inl rfl),.bool _⟩
    ·rename_i h1; cases h1; cases h
     exact ⟨_,by rw [hg]; simpa using hb .neq (.inr rfl),.bool _⟩
    ·cases h
  ·cases h
def NextOk (P:Program) (w0:World) (ρ:Ren) (σ:Heap) (w:World) (v:Value) (σ':Heap) (r:Result Next):Prop :=
 (∃ v' w',r=.ok (.value v') w'/\OpOut w0 ρ σ w v σ' v' w')\/(∃ w',r=.ok .skip w'/\OpOut w0 ρ σ w v σ' undef w') \/
  (∃ f args' ,r=.ok (.enter f args') w/\Calls P f args' w fun e w'=>∃ v',e=.returned v'/\OpOut w0 ρ σ w v σ' v' w') \/
  ∃ l fn tmps asg body,r=.ok (.round l fn tmps asg body) w/\RoundIn Fence.wide 0 P l fn tmps asg body w fun e w'=>∃ v',e=.returned v'/\OpOut w0 ρ σ w v σ' v' w'
theorem NextOk.val {σ σ':Heap}{v:Value}{s:Sem Value}(h:∃ v' w',s.run P w=.ok v' w'/\OpOut w0 ρ σ w v σ' v' w') :
  NextOk P w0 ρ σ w v σ' ((do pure (.value (<- s)):Sem Next).run P w):=by
 obtain ⟨v',w',hr,ho⟩:=h
 exact .inl ⟨v',w',by simp [hr],ho⟩
theorem NextOk.pur {σ:Heap}{v:Value}{s:Sem Value}(hR:Rel w0 ρ (hp σ) w) (h:∃ v',s.run P w=.ok v' w/\VR ρ v v') :
  NextOk P w0 ρ σ w v σ ((do pure (.value (<- s)):Sem Next).run P w):=by
 obtain ⟨v',hr,hv⟩:=h
 exact .inl ⟨v',w,by simp [hr],.same hR hv⟩
theorem enterA_sound {call:CallA}{g:FuncId}{args args':List Value}{σ σ':Heap}{v:Value}(hcall:RunOk P w0 call) (hR:Rel w0 ρ (hp σ) w) (hfr:Fresh ρ σ.length σ'.length)
  (hargs:VRL ρ args args') (h:enterA P call g args σ=some (v,σ')):NextOk P w0 ρ σ w v σ' ((callFunc g args'.toArray).run P w):=by
 unfold enterA at h
 cases hf:P.funcs[g]? with
 | none=>simp [hf] at h
 | some fn =>
  simp only [hf] at h;split at h
  ·cases h
  ·rename_i hname;split at h
   ·rename_i hbody;split at h
    ·rename_i hflat
     split at h
     ·rename_i v' hpk;split at h
      ·rename_i hfv;simp only [Option.some.injEq,Prod.mk.injEq] at h;obtain ⟨rfl,rfl⟩:=h
       have e:args'=args:=by
        apply List.ext_getElem hargs.1.symm
        intro i h1 h2;exact VR_flat (List.all_eq_true.1 hflat _ (List.getElem_mem h2)) (hargs.2 i _ _ (List.getElem?_eq_getElem h2) (List.getElem?_eq_getElem h1))
       rw [e];exact .inl ⟨v',w,peek_run hpk w,.same hR (flat_VR ρ hfv)⟩
      ·cases h
     ·cases h
    ·cases h
   ·rename_i hbody
    refine .inr (.inr (.inl ⟨g,args'.toArray,?_,(hcall.fn g (by rw [hf]; rfl) args σ v σ' h).2 ρ w args' hR hfr hargs⟩))
    simp only [callFunc,Sem.run_bind,run_program,Result.andThen_ok,hf];rw [if_neg hname,if_neg hbody];rfl
theorem callA_sound {st:Stat}{call:CallA}{ev ev':Operand->Value}{c:Call}{ty:TypeId}{σ σ':Heap}{v:Value}(hcall:RunOk P w0 call) (hst:GoodSt w0 st) (hR:Rel w0 ρ (hp σ) w)
  (hfr:Fresh ρ σ.length σ'.length) (hev:∀ x∈c.operands,VR ρ (ev x) (ev' x)) (h:callA P st call ev c σ=some (v,σ')) :
  NextOk P w0 ρ σ w v σ' ((do let d <- resolve ev' c ty; invoke d.target d.args:Sem Next).run P w):=by
 have hargs:VRA ρ (c.args.map ev) (c.args.map ev'):=by
  refine ⟨by simp,fun i u u' hu hu'=>?_⟩
  simp only [Array.getElem?_map,Option.map_eq_some_iff] at hu hu';obtain ⟨x,hx,rfl⟩:=hu;obtain ⟨x',hx',rfl⟩:=hu';obtain rfl:=Option.some.inj (hx.symm.trans hx')
  exact hev x (by simp only [Call.operands]; exact Array.mem_append.2 (.inr (Array.mem_of_getElem? hx)))
 have blt:∀ b,c.callee=.builtin b->(do let d <- resolve ev' c ty; invoke d.target d.args:Sem Next)=builtin b c.argTypes ty (c.args.map fun | .const _=>true | _=>false) (c.args.map ev'):=by
  intro b hb;unfold resolve;rw [hb];rfl
 unfold callA at h;split at h
 ·rename_i f hc
  have hf:VR ρ (ev f) (ev' f):=hev f (by simp [Call.operands,hc])
  split at h
  ·rename_i g first captured hfv;rw [hfv] at hf;generalize hy:ev' f=y at hf
   cases hf with
   | func _ _ _ x' y' q1 q2 q3 q4 =>
    have e:(do let d <- resolve ev' c ty; invoke d.target d.args:Sem Next)=callFunc g ((x'++c.args.map ev')++y'):=by
     unfold resolve;rw [hc];simp only [hy,Deferred.ofValue];rfl
    rw [e]
    have hall:VRL ρ ((first++c.args.map ev)++captured).toList ((x'++c.args.map ev')++y').toList:=by
     simp only [Array.toList_append];exact ((VRL.of_array ⟨q1,q3⟩).append (.of_array hargs)).append (.of_array ⟨q2,q4⟩)
    have:=enterA_sound hcall hR hfr hall h
    rwa [Array.toArray_toList] at this
  ·rename_i l hfv;rw [hfv] at hf;generalize hy:ev' f=y at hf
   cases hf with
   | yield _ l' p q hl =>
    have e:(do let d <- resolve ev' c ty; invoke d.target d.args:Sem Next)=Instr.yield l' (c.args.map ev'):=by
     unfold resolve;rw [hc];simp only [hy,Deferred.ofValue];show Instr.yield l' (#[]++c.args.map ev')=_;rw [Array.empty_append]
    rw [e];obtain ⟨fn,tmps,asg,body,h1,h2⟩:=(hcall.rnd l _ σ v σ' h).2 ρ w _ l' p q hR hfr (.of_array hargs) hl;rw [Array.toArray_toList] at h1;exact .inr (.inr (.inr ⟨l',fn,tmps,asg,body,h1,h2⟩))
  ·cases h
 ·rename_i hc;rw [blt _ hc];split at h
  ·rename_i t b n m ht hb;split at h
   ·rename_i e hd;simp only [Option.some.injEq,Prod.mk.injEq] at h;obtain ⟨rfl,rfl⟩:=h;obtain ⟨x',hx',hv⟩:=hargs.get hb;refine NextOk.pur hR ⟨_,?_,.int _ _⟩
    cases hv<;>simp [Builtin.len_,ht,hx',run_underlying hd]<;>rfl
   ·cases h
  ·cases h
 ·rename_i hc;rw [blt _ hc];split at h
  ·rename_i t b n m ht hb;split at h
   ·rename_i e hd;split at h
    ·rename_i hm;simp only [Option.some.injEq,Prod.mk.injEq] at h;obtain ⟨rfl,rfl⟩:=h;obtain ⟨x',hx',hv⟩:=hargs.get hb;refine NextOk.pur hR ⟨_,?_,.int _ _⟩
     cases hv with
     | snil=>simp [Builtin.cap_,ht,hx',run_underlying hd]; rfl
     | sliceX=>simp [Builtin.cap_,ht,hx',run_underlying hd]; rfl
     | sliceU=>omega
    ·cases h
   ·cases h
  ·cases h
 ·rename_i hc;rw [blt _ hc];exact .val (appendA_sound hst hR hfr hargs h)
 ·rename_i hc;rw [blt _ hc];exact .val (copyA_sound hst hR hargs h)
 ·cases h
theorem OptR.map {ev ev':Operand->Value}{o:Option Operand}(h:∀ x∈o.toList,VR ρ (ev x) (ev' x)):OptR ρ (o.map ev) (o.map ev'):=by
 cases o with
 | none=>trivial
 | some x=>exact h x (by simp)
theorem PartsR.map {ev ev':Operand->Value}:∀ (ps:List (Nat×Operand)),(∀ p∈ps,VR ρ (ev p.2) (ev' p.2))->PartsR ρ (ps.map fun p=>(p.1,ev p.2)) (ps.map fun p=>(p.1,ev' p.2))
 | [],_=>trivial
 | p :: ps,h=>⟨rfl,h p (by simp),PartsR.map ps fun q hq=>h q (by simp [hq])⟩
theorem VRA.map {ev ev':Operand->Value}{x:Array Operand}(h:∀ o∈x,VR ρ (ev o) (ev' o)):VRA ρ (x.map ev) (x.map ev'):=by
 refine ⟨by simp,fun i u u' hu hu'=>?_⟩
 simp only [Array.getElem?_map,Option.map_eq_some_iff] at hu hu';obtain ⟨o,ho,rfl⟩:=hu;obtain ⟨o',ho',rfl⟩:=hu';obtain rfl:=Option.some.inj (ho.symm.trans ho');exact h o (Array.mem_of_getElem? ho)
set_option maxHeartbeats 2000000 in
theorem specA_sound {st:Stat}{call:CallA}{ev ev':Operand->Value}{o:Oper}{σ σ':Heap}{v:Value}(hcall:RunOk P w0 call) (hst:GoodSt w0 st) (hR:Rel w0 ρ (hp σ) w)
  (hfr:Fresh ρ σ.length σ'.length) (hev:∀ x∈o.op.operands,VR ρ (ev x) (ev' x)) (h:specA P st call ev o.op σ=some (v,σ')) :
  NextOk P w0 ρ σ w v σ' ((execOp ev' o).run P w):=by
 obtain ⟨dst,op,type,pos,after,guard⟩:=o;simp only at h hev
 have same:∀ {s:Option Value},s.map (·,σ)=some (v,σ')->s=some v/\σ'=σ:=by
  intro s hs;simp only [Option.map_eq_some_iff,Prod.mk.injEq] at hs;obtain ⟨a,ha,rfl,rfl⟩:=hs;exact ⟨ha,rfl⟩
 cases op<;>simp only [specA] at h<;>(try cases h; done)<;>simp only [execOp]
 case move x =>
  simp only [Option.some.injEq,Prod.mk.injEq] at h;obtain ⟨rfl,rfl⟩:=h
  exact .inl ⟨_,w,rfl,.same hR (hev x (by simp [Op.operands]))⟩
 case assign x =>
  simp only [Option.some.injEq,Prod.mk.injEq] at h;obtain ⟨rfl,rfl⟩:=h
  exact .inl ⟨_,w,rfl,.same hR (hev x (by simp [Op.operands]))⟩
 case pick c a b =>
  have hc:=hev c (by simp [Op.operands])
  have ha:=hev a (by simp [Op.operands])
  have hb:=hev b (by simp [Op.operands])
  split at h
  ·rename_i t ht;rw [ht] at hc;simp only [Option.some.injEq,Prod.mk.injEq] at h;obtain ⟨rfl,rfl⟩:=h;generalize hy:ev' c=y at hc;cases hc
   exact .inl ⟨if t then ev' a else ev' b,w,by simp [asBool],.same hR (by cases t<;>simp [ha,hb])⟩
  ·cases h
 case alloc e =>
  simp only [Option.map_eq_some_iff,Prod.mk.injEq] at h;obtain ⟨z,hz,rfl,rfl⟩:=h;obtain ⟨hr,hzf⟩:=run_zeroValue hz w;obtain ⟨ρ',hn,ha,_,_⟩:=newB_out (ty:=e) hR hfr (VRL.of_array (zeroA_cells (ρ:=ρ) hzf))
  exact .inl ⟨.pointer (some ⟨w.heap.size,0,none⟩),{ w with heap:=w.heap.push (.cells z.cells e) },by simp [Instr.alloc,hr,newVar,newRow],ρ',by simpa using hn,.ptr _ _ ha⟩
 case box e x =>
  simp only [Option.some.injEq,Prod.mk.injEq] at h;obtain ⟨rfl,rfl⟩:=h
  obtain ⟨ρ',hn,ha,_,_⟩:=newB_out (ty:=e) hR hfr (hev x (by simp [Op.operands])).cells_any
  exact .inl ⟨.pointer (some ⟨w.heap.size,0,none⟩),{ w with heap:=w.heap.push (.cells (ev' x).cells e) },by simp [Instr.box,newVar,newRow],ρ',by simpa using hn,.ptr _ _ ha⟩
 case build t ps =>
  obtain ⟨h5,rfl⟩:=same h
  refine NextOk.pur hR (buildA_sound (ps:=ps.map fun p=>(p.1,ev p.2)) (ps':=ps.map fun p=>(p.1,ev' p.2)) ?_ h5 w)
  simpa using PartsR.map ps.toList fun p hp=>hev p.2 (by simp only [Op.operands,List.mem_toArray,List.mem_map]; exact ⟨p,hp,rfl⟩)
 case buildSlice t n ps =>
  refine .val (buildSliceA_sound (ps:=ps.map fun p=>(p.1,ev p.2)) (ps':=ps.map fun p=>(p.1,ev' p.2)) hR hfr ?_ h)
  simpa using PartsR.map ps.toList fun p hp=>hev p.2 (by simp only [Op.operands,List.mem_toArray,List.mem_map]; exact ⟨p,hp,rfl⟩)
 case load t a =>
  have ha:=hev a (by simp [Op.operands])
  split at h
  ·rename_i a1 h1;rw [h1] at ha;generalize hy:ev' a=y at ha
   cases ha with
   | ptr _ a' ha =>
    obtain ⟨h5,rfl⟩:=same h;obtain ⟨v',hr,hv⟩:=loadV_sound (P:=P) hst hR ha h5
    exact NextOk.pur hR ⟨v',by simp [Instr.loadAt,Instr.sureAddr,hr],hv⟩
  ·cases h
 case store t a x =>
  have ha:=hev a (by simp [Op.operands])
  split at h
  ·rename_i a1 h1;rw [h1] at ha;generalize hy:ev' a=y at ha
   cases ha with
   | ptr _ a' ha =>
    simp only [Option.map_eq_some_iff,Prod.mk.injEq] at h;obtain ⟨σ2,h,rfl,rfl⟩:=h
    obtain ⟨w',hr,hn⟩:=storeV_sound (P:=P) hR ha (hev x (by simp [Op.operands])) h
    exact .inr (.inl ⟨w',by simp [Instr.storeAt,Instr.sureAddr,hr],ρ,hn,flat_VR ρ rfl⟩)
  ·cases h
 case nilCheck x =>
  have hx:=hev x (by simp [Op.operands])
  split at h
  ·rename_i a1 h1;rw [h1] at hx;simp only [Option.some.injEq,Prod.mk.injEq] at h;obtain ⟨rfl,rfl⟩:=h;generalize hy:ev' x=y at hx;have hx2:=hx
   cases hx with
   | ptr _ a' ha=>exact .inl ⟨_,w,rfl,.same hR hx2⟩
  ·rename_i f fi ca h1;rw [h1] at hx;simp only [Option.some.injEq,Prod.mk.injEq] at h;obtain ⟨rfl,rfl⟩:=h;generalize hy:ev' x=y at hx;have hx2:=hx
   cases hx with
   | func _ _ _ x' y' q1 q2 q3 q4=>exact .inl ⟨_,w,rfl,.same hR hx2⟩
  ·cases h
 case binOp op t x y yt =>
  obtain ⟨h5,rfl⟩:=same h
  exact NextOk.pur hR (binA_sound (hev x (by simp [Op.operands])) (hev y (by simp [Op.operands])) h5 w)
 case makeFunc fn first captured =>
  simp only [Option.some.injEq,Prod.mk.injEq] at h;obtain ⟨rfl,rfl⟩:=h
  have h1:VRA ρ (first.map ev) (first.map ev'):=.map fun o ho=>hev o (by simp [Op.operands,ho])
  have h2:VRA ρ (captured.map ev) (captured.map ev'):=.map fun o ho=>hev o (by simp [Op.operands,ho])
  exact NextOk.pur hR ⟨_,rfl,.func fn _ _ _ _ h1.1 h2.1 h1.2 h2.2⟩
 case makeSlice t l c=>exact .val (makeSliceA_sound hR hfr (hev l (by simp [Op.operands])) (hev c (by simp [Op.operands])) h)
 case slice t x lo hi mx =>
  obtain ⟨h5,rfl⟩:=same h
  refine NextOk.pur hR (sliceA_sound (hev x (by simp [Op.operands])) (.map fun y hy=>hev y ?_) (.map fun y hy=>hev y ?_) (.map fun y hy=>hev y ?_) h5 w)
  all_goals (simp only [Op.operands,Array.mem_append,List.mem_toArray,Option.mem_toArray,Option.mem_toList] at hy ⊢; simp [hy])
 case fieldAddr s x f =>
  obtain ⟨h5,rfl⟩:=same h
  exact NextOk.pur hR (fieldAddrA_sound (hev x (by simp [Op.operands])) h5 w)
 case field t x f =>
  obtain ⟨h5,rfl⟩:=same h
  exact NextOk.pur hR (fieldA_sound (hev x (by simp [Op.operands])) h5 w)
 case indexAddr t x i =>
  obtain ⟨h5,rfl⟩:=same h
  exact NextOk.pur hR (indexAddrA_sound (hev x (by simp [Op.operands])) (hev i (by simp [Op.operands])) h5 w)
 case index t x i =>
  obtain ⟨h5,rfl⟩:=same h
  exact NextOk.pur hR (indexA_sound (hev x (by simp [Op.operands])) (hev i (by simp [Op.operands])) h5 w)
 case extract x i =>
  have hx:=hev x (by simp [Op.operands])
  split at h
  ·rename_i vs h1;rw [h1] at hx;obtain ⟨h5,rfl⟩:=same h;generalize hy:ev' x=y at hx
   cases hx with
   | tuple _ vs' q1 q2 =>
    obtain ⟨v',hv',hr⟩:=(show VRA ρ vs vs' from ⟨q1,q2⟩).get h5
    exact NextOk.pur hR ⟨v',by simp [Instr.extract,hv'],hr⟩
  ·cases h
 case makeMap t r =>
  cases r with
  | none =>
   simp only [Option.some.injEq,Prod.mk.injEq] at h;obtain ⟨rfl,rfl⟩:=h;exact .val (makeMap_sound hR hfr)
  | some _=>cases h
 case lookup t m k ok =>
  obtain ⟨h5,rfl⟩:=same h
  exact NextOk.pur hR (lookupA_sound hR (hev m (by simp [Op.operands])) (hev k (by simp [Op.operands])) h5)
 case mapUpdate t m k x =>
  simp only [Option.map_eq_some_iff,Prod.mk.injEq] at h;obtain ⟨σ2,h,rfl,rfl⟩:=h
  obtain ⟨w',hr,hn⟩:=mapPutA_sound (P:=P) hR (hev m (by simp [Op.operands])) (hev k (by simp [Op.operands])) (hev x (by simp [Op.operands])) h
  exact .inr (.inl ⟨w',by simp [hr],ρ,hn,flat_VR ρ rfl⟩)
 case insert t m k x =>
  simp only [Option.map_eq_some_iff,Prod.mk.injEq] at h;obtain ⟨σ2,h,rfl,rfl⟩:=h
  obtain ⟨w',hr,hn⟩:=mapPutA_sound (P:=P) hR (hev m (by simp [Op.operands])) (hev k (by simp [Op.operands])) (hev x (by simp [Op.operands])) h
  exact .inr (.inl ⟨w',by simp [hr],ρ,hn,flat_VR ρ rfl⟩)
 case convert src dst x=>exact .val (convA_sound hst hR hfr (hev x (by simp [Op.operands])) h)
 case range t x=>exact .val (rangeA_sound hR hfr (hev x (by simp [Op.operands])) h)
 case next it b=>exact .val (nextA_sound hR (hev it (by simp [Op.operands])) h)
 case call c=>exact callA_sound hcall hst hR hfr hev h
theorem evalT_VR {τ:Array Value}{a:Act}(h:VRA ρ τ a.tmps) {x:Operand}(hx:∀ v,x=.const v->flat v=true):VR ρ (evalT τ x) (a.eval x):=by
 cases x with
 | tmp t =>
  simp only [evalT,Act.eval]
  by_cases ht:t<τ.size
  ·have ht':t<a.tmps.size:=by rw [<- h.1]; exact ht
   rw [Array.getD_eq_getD_getElem?,Array.getD_eq_getD_getElem?,Array.getElem?_eq_getElem ht,Array.getElem?_eq_getElem ht'];exact h.2 t _ _ (Array.getElem?_eq_getElem ht) (Array.getElem?_eq_getElem ht')
  ·have ht':¬ t<a.tmps.size:=by rw [<- h.1]; exact ht
   rw [Array.getD_eq_getD_getElem?,Array.getD_eq_getD_getElem?,Array.getElem?_eq_none (Nat.le_of_not_lt ht),Array.getElem?_eq_none (Nat.le_of_not_lt ht')];exact flat_VR ρ rfl
 | const v=>exact flat_VR ρ (hx v rfl)
 | global g=>exact .ptr _ _ ⟨rfl,.inl ⟨0,rfl,rfl,rfl⟩⟩
 | func f=>exact .func _ _ _ _ _ rfl rfl (fun i v v' hv=>by simp at hv) (fun i v v' hv=>by simp at hv)
theorem opA_next {st:Stat}{call:CallA}{ev ev':Operand->Value}{o:Oper}{σ σ':Heap}{v:Value}(hcall:RunOk P w0 call) (hst:GoodSt w0 st) (hR:Rel w0 ρ (hp σ) w)
  (hfr:Fresh ρ σ.length σ'.length) (hev:∀ x∈o.op.operands,VR ρ (ev x) (ev' x)) (h:opA P st call ev o σ=some (v,σ')) :
  NextOk P w0 ρ σ w v σ' ((execOp ev' o).run P w):=by
 unfold opA at h;split at h
 ·split at h
  ·rename_i u hu;simp only [Option.some.injEq,Prod.mk.injEq] at h;obtain ⟨rfl,rfl⟩:=h;unfold peekA at hu;split at hu
   ·rename_i hall;simp only [Bool.and_eq_true,Bool.not_eq_true'] at hall;obtain ⟨hall,hsel⟩:=hall;split at hu
    ·rename_i u' hpk;split at hu
     ·rename_i hf;obtain rfl:=Option.some.inj hu
      have e:execOp ev' o=execOp ev o:=execOp_congr o (fun cs b hc=>by rw [hc] at hsel; simp [isSelect] at hsel)
       (fun x hx=>VR_flat (List.all_eq_true.1 hall x (by simpa using hx)) (hev x hx))
      rw [e];exact .inl ⟨_,w,peek_run hpk w,.same hR (flat_VR ρ hf)⟩
     ·cases hu
    ·cases hu
   ·cases hu
  ·exact specA_sound hcall hst hR hfr hev h
 ·cases h
def FR (r:Option Nat):Fence:={ Fence.wide with round:=r }
theorem peek_map {α β:Type}{f:α->β}{b:β}:∀ {s:Sem α},peek P (s >>= fun a=>pure (f a))=some b->∃ a,b=f a:=by
 intro s
 induction s with
 | pure x=>exact fun h=>⟨x,(Option.some.inj h).symm⟩
 | program k ih=>exact fun h=>ih P h
 | mark m k ih=>exact fun h=>ih h
 | _=>exact fun h=>nomatch h
def isDefer:Op->Bool
 | .defer _=>true
 | _=>false
theorem constsOk_defer {st:Stat}{call:CallA}{ev:Operand->Value}{o:Oper}{σ:Heap}{r:Value×Heap}(h:opA P st call ev o σ=some r):isDefer o.op=false:=by
 unfold opA at h;split at h
 ·cases ho:o.op<;>first | rfl | skip
  rename_i c;split at h
  ·rename_i u hu;unfold peekA at hu;split at hu
   ·split at hu
    ·rename_i hp
     have e:execOp ev o=(resolve ev c o.type >>= fun d=>pure (.defer d)):=by
      unfold execOp;rw [ho]
     rw [e] at hp;obtain ⟨d,e⟩:=peek_map hp;cases e
    ·cases hu
   ·cases hu
  ·rw [ho] at h;simp [specA] at h
 ·cases h
theorem NextOk.wp {o:Oper}{a:Act}{K:Act->World->Prop}{Q:Exit->Act->World->Prop}{σ σ':Heap}{v:Value}{r:Option Nat}(h:NextOk P w0 ρ σ w v σ' ((execOp a.eval o).run P w))
  (hd:isDefer o.op=false) (hK:∀ v' w',OpOut w0 ρ σ w v σ' v' w'->K (a.put o.dst v') w'):o.wpIn (FR r) 0 P a w K Q:=by
 unfold Oper.wpIn
 refine ⟨fun _ _=>trivial,?_⟩
 rw [Oper.semAt_eq _ _ _ (fun c e=>by rw [e] at hd; cases hd)]
 rcases h with ⟨v',w',hr,ho⟩ | ⟨w',hr,ho⟩ | ⟨f,args',hr,hc⟩ | ⟨l,fn,tmps,asg,body,hr,hc⟩
 ·rw [hr]; exact hK _ _ ho
 ·rw [hr]; exact hK _ _ ho
 ·rw [hr]
  refine ⟨fun h=>(by cases h),CallsIn.mono (callsIn_wide.2 hc) fun e w' he=>?_⟩
  obtain ⟨v',rfl,ho⟩:=he;exact hK _ _ ho
 ·rw [hr]
  refine ⟨fun h=>(by cases h),RoundIn.mono hc fun e w' he=>?_⟩
  obtain ⟨v',rfl,ho⟩:=he;exact hK _ _ ho
end
end Go.AE
namespace Go.AE
open Go Go.RowKit
section
variable {P:Program}{w0:World}{ρ:Ren}{w:World}{r:Option Nat}
theorem storeN_len {σ σ':Heap}{a:Addr}{vs:List Value}(h:storeN σ a vs=some σ'):σ'.length=σ.length:=by
 unfold storeN at h;split at h
 ·cases h
 ·split at h
  ·split at h
   ·obtain rfl:=Option.some.inj h; simp
   ·cases h
  ·cases h
theorem growA_len {st:Stat}{σ σ':Heap}{i:TypeInfo}{base:Option Addr}{sLen need:Nat}{news:List Value}{v:Value}(h:growA P st σ i base sLen need news=some (v,σ')):σ.length<=σ'.length:=by
 unfold growA at h
 (repeat' split at h)<;>(try cases h)<;>simp [newB]
theorem appendA_len {st:Stat}{σ σ':Heap}{ts:Array TypeId}{args:Array Value}{v:Value}(h:appendA P st σ ts args=some (v,σ')):σ.length<=σ'.length:=by
 unfold appendA at h;split at h
 ·split at h
  ·split at h
   ·cases h
   ·split at h
    ·cases h
    ·split at h
     ·cases h
     ·split at h
      ·split at h
       ·split at h
        ·cases h; exact Nat.le_refl _
        ·split at h
         ·cases h; exact Nat.le_refl _
         ·simp only [Option.map_eq_some_iff,Prod.mk.injEq] at h;obtain ⟨σ2,h2,_,rfl⟩:=h
          rw [storeN_len h2]; exact Nat.le_refl _
       ·exact growA_len h
      ·split at h
       ·cases h; exact Nat.le_refl _
       ·split at h
        ·cases h
        ·split at h
         ·cases h
         ·split at h
          ·split at h
           ·cases h
           ·simp only [Option.map_eq_some_iff,Prod.mk.injEq] at h;obtain ⟨r,h2,_,rfl⟩:=h;have:=growA_len (v:=r.1) (σ':=r.2) h2
            simpa using this
          ·cases h
  ·cases h
 ·cases h
theorem copyA_len {st:Stat}{σ σ':Heap}{ts:Array TypeId}{args:Array Value}{v:Value}(h:copyA P st σ ts args=some (v,σ')):σ.length<=σ'.length:=by
 unfold copyA at h;split at h
 ·split at h
  ·split at h
   ·cases h
   ·split at h
    ·cases h
    ·split at h
     ·cases h; exact Nat.le_refl _
     ·split at h
      ·cases h; exact Nat.le_refl _
      ·simp only [Option.map_eq_some_iff,Prod.mk.injEq] at h;obtain ⟨σ2,h2,_,rfl⟩:=h
       rw [storeN_len h2]; exact Nat.le_refl _
  ·cases h
 ·cases h
theorem enterA_len {call:CallA}{g:FuncId}{args:List Value}{σ σ':Heap}{v:Value}(hcall:RunOk P w0 call) (h:enterA P call g args σ=some (v,σ')):σ.length<=σ'.length:=by
 unfold enterA at h;split at h
 ·cases h
 ·split at h
  ·cases h
  ·split at h
   ·split at h
    ·split at h
     ·split at h
      ·cases h; exact Nat.le_refl _
      ·cases h
     ·cases h
    ·cases h
   ·exact hcall.len h
theorem mapPutA_len {σ σ':Heap}{t:TypeId}{m k v:Value}(h:mapPutA P σ t m k v=some σ'):σ'.length=σ.length:=by
 unfold mapPutA at h
 split at h<;>first | (cases h; done) | skip
 split at h<;>first | (cases h; done) | skip
 split at h<;>first | (cases h; done) | skip
 ·obtain rfl:=Option.some.inj h;simp
 ·obtain rfl:=Option.some.inj h;simp
theorem convA_len {st:Stat}{σ σ':Heap}{src dst:TypeId}{x v:Value}(h:convA P st σ src dst x=some (v,σ')):σ.length<=σ'.length:=by
 unfold convA at h
 split at h<;>first | (cases h; done) | skip
 ·split at h<;>first | (cases h; done) | skip
  ·split at h<;>first | (cases h; done) | skip
   simp only [Option.some.injEq,Prod.mk.injEq] at h;rw [<- h.2];simp [newB]
  ·dsimp only at h
   split at h<;>first | (cases h; done) | skip
   simp only [Option.some.injEq,Prod.mk.injEq] at h;rw [<- h.2];simp [newB]
 ·split at h<;>first | (cases h; done) | skip
  ·split at h<;>first | (cases h; done) | skip
   simp only [Option.map_eq_some_iff,Prod.mk.injEq] at h;obtain ⟨_,_,_,rfl⟩:=h;exact Nat.le_refl _
  ·split at h<;>first | (cases h; done) | skip
   simp only [Option.map_eq_some_iff,Prod.mk.injEq] at h;obtain ⟨_,_,_,rfl⟩:=h;exact Nat.le_refl _
theorem rangeA_len {σ σ':Heap}{t:TypeId}{x v:Value}(h:rangeA P σ t x=some (v,σ')):σ.length<=σ'.length:=by
 unfold rangeA at h
 split at h<;>first | (cases h; done) | skip
 simp only [Option.some.injEq,Prod.mk.injEq] at h;rw [<- h.2];simp
theorem nextA_len {σ σ':Heap}{it v:Value}{b:Bool}(h:nextA σ it b=some (v,σ')):σ.length<=σ'.length:=by
 unfold nextA at h
 split at h<;>first | (cases h; done) | skip
 split at h<;>first | (cases h; done) | skip
 split at h
 ·simp only [Option.some.injEq,Prod.mk.injEq] at h;rw [<- h.2];simp
 ·simp only [Option.some.injEq,Prod.mk.injEq] at h;rw [<- h.2];exact Nat.le_refl _
theorem opA_len {st:Stat}{call:CallA}{ev:Operand->Value}{o:Oper}{σ σ':Heap}{v:Value}(hcall:RunOk P w0 call) (h:opA P st call ev o σ=some (v,σ')):σ.length<=σ'.length:=by
 have mp:∀ {s:Option Value},s.map (·,σ)=some (v,σ')->σ.length<=σ'.length:=by
  intro s hs;simp only [Option.map_eq_some_iff,Prod.mk.injEq] at hs;obtain ⟨_,_,_,rfl⟩:=hs;exact Nat.le_refl _
 unfold opA at h;split at h
 ·split at h
  ·cases h; exact Nat.le_refl _
  ·generalize ho:o.op=op at h
   cases op<;>simp only [specA] at h<;>(try cases h; done)<;>(try exact mp h)<;>(try (simp only [Option.some.injEq,Prod.mk.injEq] at h; rw [<- h.2]; simp [newB]; done))
   case pick c a b =>
    split at h
    ·cases h; exact Nat.le_refl _
    ·cases h
   case alloc e =>
    simp only [Option.map_eq_some_iff,Prod.mk.injEq] at h;obtain ⟨_,_,_,rfl⟩:=h;simp [newB]
   case buildSlice t n ps =>
    unfold buildSliceA at h
    (repeat' split at h)<;>(try cases h)<;>simp [newB]
   case load t a =>
    split at h
    ·exact mp h
    ·cases h
   case store t a x =>
    split at h
    ·simp only [Option.map_eq_some_iff,Prod.mk.injEq] at h;obtain ⟨σ2,h2,_,rfl⟩:=h;unfold storeV at h2;split at h2
     ·split at h2
      ·rw [storeN_len h2]; exact Nat.le_refl _
      ·cases h2
     ·cases h2
    ·cases h
   case nilCheck x =>
    split at h
    ·cases h; exact Nat.le_refl _
    ·cases h; exact Nat.le_refl _
    ·cases h
   case makeSlice t l c =>
    unfold makeSliceA at h
    (repeat' split at h)<;>(try cases h)<;>simp [newB]
   case extract x i =>
    split at h
    ·exact mp h
    ·cases h
   case mapUpdate t m k x =>
    simp only [Option.map_eq_some_iff,Prod.mk.injEq] at h;obtain ⟨σ2,h,_,rfl⟩:=h;rw [mapPutA_len h];exact Nat.le_refl _
   case insert t m k x =>
    simp only [Option.map_eq_some_iff,Prod.mk.injEq] at h;obtain ⟨σ2,h,_,rfl⟩:=h;rw [mapPutA_len h];exact Nat.le_refl _
   case convert src dst x=>exact convA_len h
   case range t x=>exact rangeA_len h
   case next it b=>exact nextA_len h
   case makeMap t r =>
    split at h
    ·simp only [Option.some.injEq,Prod.mk.injEq] at h;rw [<- h.2];simp
    ·cases h
   case call c =>
    unfold callA at h;split at h
    ·split at h
     ·exact enterA_len hcall h
     ·exact hcall.len h
     ·cases h
    ·(repeat' split at h)<;>(try cases h)<;>exact Nat.le_refl _
    ·(repeat' split at h)<;>(try cases h)<;>exact Nat.le_refl _
    ·exact appendA_len h
    ·exact copyA_len h
    ·cases h
 ·cases h
theorem stepA_len {st:Stat}{call:CallA}{ops:Array Oper}{o:Oper}{τ τ':Array Value}{σ σ':Heap}(hcall:RunOk P w0 call) (h:stepA P st call ops o τ σ=some (τ',σ')):σ.length<=σ'.length:=by
 unfold stepA at h;split at h
 ·split at h
  ·split at h
   ·rename_i v σ1 h1;simp only [Option.some.injEq,Prod.mk.injEq] at h;rw [<- h.2];exact opA_len hcall h1
   ·cases h
  ·simp only [Option.some.injEq,Prod.mk.injEq] at h
   rw [<- h.2]; exact Nat.le_refl _
 ·cases h
theorem runA_len {st:Stat}{call:CallA}{ops:Array Oper}(hcall:RunOk P w0 call):∀ (l:List Oper) (τ:Array Value) (σ:Heap) (τ':Array Value) (σ':Heap),runA P st call ops l τ σ=some (τ',σ')->σ.length<=σ'.length:=by
 intro l
 induction l with
 | nil=>intro τ σ τ' σ' h; simp only [runA,Option.some.injEq,Prod.mk.injEq] at h; rw [h.2]; exact Nat.le_refl _
 | cons o l ih =>
  intro τ σ τ' σ' h;simp only [runA] at h;split at h
  ·rename_i τ1 σ1 h1;exact Nat.le_trans (stepA_len hcall h1) (ih _ _ _ _ h)
  ·cases h
theorem VRA.put {τ:Array Value}{a:Act}(h:VRA ρ τ a.tmps) {v v':Value}(hv:VR ρ v v') (dst:Option Tmp):VRA ρ (putT τ dst v) (a.put dst v').tmps:=by
 cases dst with
 | none=>exact h
 | some d=>exact h.set d hv
theorem guard_eq {ops:Array Oper}{o:Oper}{τ τ':Array Value}(ht:VRA ρ τ τ') (hg:guardOk ops o τ=true):Region.wanted o (yielded ops τ')=Region.wanted o (yielded ops τ):=by
 unfold guardOk at hg;unfold Region.wanted
 cases hgd:o.guard with
 | none=>rfl
 | some p =>
  obtain ⟨j,want⟩:=p;simp only [hgd] at hg ⊢
  congr 1
  unfold yielded
  cases hd:(ops[j]?).bind (·.dst) with
  | none=>rfl
  | some d =>
   simp only [hd,Option.bind_some] at hg ⊢
   cases hv:τ[d]? with
   | none =>
    have:τ'[d]?=none:=by
     rw [Array.getElem?_eq_none_iff] at hv ⊢
     rw [<- ht.1]; exact hv
    rw [this]
   | some v =>
    obtain ⟨v',hv',hr⟩:=ht.get hv;rw [hv'] ;rw [hv] at hg
    cases hr<;>first | rfl | simp at hg
theorem wpStep {o:Oper}{ops:Array Oper}{a:Act}{K:Act->World->Prop}{Q:Exit->Act->World->Prop}{st:Stat}{call:CallA}{τ τ':Array Value}{σ σ':Heap}(hcall:RunOk P w0 call) (hst:GoodSt w0 st)
  (h:stepA P st call ops o τ σ=some (τ',σ')) (hR:Rel w0 ρ (hp σ) w) (hfr:Fresh ρ σ.length σ'.length) (ht:VRA ρ τ a.tmps)
  (hK:∀ a1 w1 ρ1,Nxt w0 ρ σ w ρ1 σ' w1->VRA ρ1 τ' a1.tmps->a1.defers=a.defers->K a1 w1) :
  if Region.wanted o (yielded ops a.tmps) then o.wpIn (FR r) 0 P a w K Q else (∀ f,o.about P w a.eval=some f->(FR r).fn f)/\K (a.put o.dst undef) w:=by
 unfold stepA at h;split at h
 ·rename_i hg;rw [guard_eq ht hg];split at h
  ·rename_i hw;rw [if_pos hw];split at h
   ·rename_i v σ1 h1;simp only [Option.some.injEq,Prod.mk.injEq] at h;obtain ⟨rfl,rfl⟩:=h
    have hev:∀ x∈o.op.operands,VR ρ (evalT τ x) (a.eval x):=by
     intro x hx
     refine evalT_VR ht fun v hv=>?_
     have hc:constsOk o.op=true:=by
      unfold opA at h1;split at h1
      ·assumption
      ·cases h1
     unfold constsOk at hc
     have:=List.all_eq_true.1 hc x (by simpa using hx)
     rw [hv] at this;exact this
    refine (opA_next hcall hst hR hfr hev h1).wp (constsOk_defer h1) fun v' w' ho=>?_
    obtain ⟨ρ1,hn,hv⟩:=ho
    exact hK _ _ ρ1 hn ((ht.mono (hn.ext.le hfr)).put hv o.dst) (by cases o.dst<;>rfl)
   ·cases h
  ·rename_i hw;rw [if_neg hw];simp only [Option.some.injEq,Prod.mk.injEq] at h;obtain ⟨rfl,rfl⟩:=h
   exact ⟨fun _ _=>trivial,hK _ _ ρ (.refl hR) (ht.put (flat_VR ρ rfl) o.dst) (by cases o.dst<;>rfl)⟩
 ·cases h
theorem runA_sound {st:Stat}{call:CallA}{ops:Array Oper}{Q:Exit->Act->World->Prop}(hcall:RunOk P w0 call) (hst:GoodSt w0 st):∀ (l:List Oper) (τ:Array Value) (σ:Heap) (τ':Array Value) (σ':Heap),
  runA P st call ops l τ σ=some (τ',σ')->∀ {ρ w a},Rel w0 ρ (hp σ) w->Fresh ρ σ.length σ'.length->VRA ρ τ a.tmps ->
   (∀ a1 w1 ρ1,Nxt w0 ρ σ w ρ1 σ' w1->VRA ρ1 τ' a1.tmps->a1.defers=a.defers->Q .normal a1 w1)->wpListIn (FR r) 0 P ops Q l a w:=by
 intro l
 induction l with
 | nil =>
  intro τ σ τ' σ' h ρ w a hR hfr ht hQ;simp only [runA,Option.some.injEq,Prod.mk.injEq] at h;obtain ⟨rfl,rfl⟩:=h;exact hQ a w ρ (.refl hR) ht rfl
 | cons o l ih =>
  intro τ σ τ' σ' h ρ w a hR hfr ht hQ;simp only [runA] at h;split at h
  ·rename_i τ1 σ1 h1;have hl:=runA_len hcall _ _ _ _ _ h;have hl1:=stepA_len hcall h1;unfold wpListIn
   refine wpStep hcall hst h1 hR (fun id a b=>hfr id a (by omega)) ht fun a1 w1 ρ1 hn hv hd=>?_
   refine ih _ _ _ _ h hn.rel (fun id a b=>by rw [hn.ext id (.inr a)]; exact hfr id (by omega) b) hv fun a2 w2 ρ2 hn2 hv2 hd2=>hQ a2 w2 ρ2 (hn.trans hn2) hv2 (hd2.trans hd)
  ·cases h
end
end Go.AE
namespace Go.AE
open Go
def cls:Op->Nat
 | .move _ | .assign _ | .pick _ _ _ | .build _ _ | .nilCheck _ | .binOp _ _ _ _ _ | .unOp _ _ _ | .convert _ _ _ | .makeFunc _ _ _ | .slice _ _ _ _ _ | .fieldAddr _ _ _
 | .field _ _ _ | .indexAddr _ _ _ | .index _ _ _ | .extract _ _=>0
 | .load _ _=>1
 | .alloc _ | .box _ _ | .buildSlice _ _ _ | .makeSlice _ _ _=>2
 | .makeMap _ r=>match r with
  | none=>2
  | some _=>3
 | .call c=>match c.callee with
  | .builtin .len | .builtin .cap | .builtin .min | .builtin .max=>0
  | _=>3
 | _=>3
def veqD:Nat->Value->Value->Bool
 | 0,_,_=>false
 | n+1,x,y =>
  match x,y with
  | .bool a,.bool b=>a==b
  | .int k a,.int l b=>k==l&&a==b
  | .float k a,.float l b=>k==l&&a==b
  | .string a,.string b=>decide (a=b)
  | .pointer a,.pointer b=>a==b
  | .slice a l c,.slice b m d=>a==b&&l==m&&c==d
  | .map a,.map b=>a==b
  | .chan a,.chan b=>a==b
  | .nilFunc,.nilFunc=>true
  | .nilIface,.nilIface=>true
  | .func f a b,.func g c d=>f==g&&a.size==c.size&&b.size==d.size&&(a.toList.zip c.toList).all (fun p=>veqD n p.1 p.2)&&(b.toList.zip d.toList).all (fun p=>veqD n p.1 p.2)
  | .iface s a,.iface t b=>s==t&&veqD n a b
  | .agg a,.agg b=>a.size==b.size&&(a.toList.zip b.toList).all (fun p=>veqD n p.1 p.2)
  | .tuple a,.tuple b=>a.size==b.size&&(a.toList.zip b.toList).all (fun p=>veqD n p.1 p.2)
  | _,_=>false
def veq (x y:Value):Bool:=veqD 5 x y
def blkEq (x y:Option (Option Blk)):Bool :=
 match x,y with
 | some (some (.cells a)),some (some (.cells b))=>a.length==b.length&&(a.zip b).all (fun p=>veq p.1 p.2)
 | some (some (.map [])),some (some (.map []))=>true
 | _,_=>false
def vEqO (x y:Option Value):Bool :=
 match x,y with
 | some a,some b=>veq a b
 | _,_=>false
def predsA (o:Oper):List Nat:=o.after.toList.filterMap fun e=>if Region.binds .any e then some e.on else none
def closeA:List Oper->List Nat->List Nat
 | [],acc=>acc
 | o :: rest,acc=>closeA rest (acc++[(predsA o).foldl (fun s k=>s ||| 2 ^ k ||| acc.getD k 0) 0])
def ordA (c:List Nat) (i j:Nat):Bool:=(c.getD j 0).testBit i
def pairOk (ops:Array Oper) (c:List Nat) (i:Nat) (x:Oper) (j:Nat) (y:Oper):Bool :=
 (Oper.apart ops x y&&Oper.apart ops y x||ordA c i j)&&(cls x.op != 3||cls y.op != 3||ordA c i j)
def staticOk (ops:Array Oper):Bool :=
 let c:=closeA ops.toList []
 ops.toList.zipIdx.all fun (x,i)=>(predsA x).all (·<i)&&!isSelect x.op &&
  ops.toList.zipIdx.all fun (y,j)=>if i<j then pairOk ops c i x j y else true
def convOk (P:Program):Op->Bool
 | .convert src dst _=>match P.underlying src,P.underlying dst with
  | some (.slice _),_=>false
  | _,some (.slice _)=>false
  | _,_=>true
 | _=>true
def convS (P:Program):Op->Bool
 | .convert src dst _=>match P.underlying src,P.underlying dst with
  | some (.slice _),some .string=>true
  | _,_=>false
 | _=>false
def convR (P:Program) (ops:Array Oper):Bool :=
 let c:=closeA ops.toList []
 ops.toList.zipIdx.all fun (x,i)=>convOk P x.op||(convS P x.op&&cls x.op != 3 &&
  ops.toList.zipIdx.all fun (y,j)=>cls y.op != 3||(if j<i then ordA c j i else ordA c i j))
def staticP (P:Program) (ops:Array Oper):Bool:=staticOk ops&&((ops.toList.all fun o=>convOk P o.op)||convR P ops)
def loadAtA (P:Program) (st:Stat) (τ:Array Value) (o:Oper) (σ:Heap):Option Value :=
 match o.op with
 | .load t a=>match evalT τ a with
  | .pointer (some a)=>loadV P st σ t a
  | _=>none
 | _=>none
def apartA (P:Program) (τi τj:Array Value) (x y:Oper):Bool :=
 match x.op,y.op with
 | .load t a,.store u b _=>match evalT τi a,evalT τj b with
  | .pointer (some p),.pointer (some q)=>p.spot.isSome||p.block != q.block||(match sizeA P t,sizeA P u with
   | some m,some k=>(match P.underlying t with | some d=>if aggDesc d then decide (p.off+m<=q.off) else decide (p.off+1<=q.off) | none=>false)||decide (q.off+k<=p.off)
   | _,_=>false)
  | _,_=>false
 | _,_=>false
def dynOk (P:Program) (st:Stat) (ops:Array Oper) (tr:List (Array Value×Heap)):Bool :=
 let c:=closeA ops.toList []
 ops.toList.zipIdx.all fun (x,i)=>match tr[i]? with
  | none=>false
  | some (τi,σi) =>
   if (cls x.op==1||cls x.op==2)&&Region.wanted x (yielded ops τi) then
    ops.toList.zipIdx.all fun (y,j)=>match tr[j]?,tr[j+1]? with
     | some (τj,σj),some (_,σk) =>
      if cls y.op==3&&Region.wanted y (yielded ops τj)&&!ordA c i j&&!ordA c j i then
       if cls x.op==1 then apartA P τi τj x y||vEqO (loadAtA P st τi x σj) (loadAtA P st τi x σk)
       else if i<j then blkEq σj[σi.length]? σk[σi.length]? else true
      else true
     | _,_=>false
   else true
def DynP (P:Program) (st:Stat) (ops:Array Oper) (tr:List (Array Value×Heap)):Prop :=
 ∀ (i j:Nat) (x y:Oper) (τi τj τk:Array Value) (σi σj σk:Heap),ops[i]?=some x->ops[j]?=some y->tr[i]?=some (τi,σi)->tr[j]?=some (τj,σj)->tr[j+1]?=some (τk,σk) ->
  Region.wanted x (yielded ops τi)=true->Region.wanted y (yielded ops τj)=true->cls y.op=3->ordA (closeA ops.toList []) i j=false->ordA (closeA ops.toList []) j i=false ->
  (cls x.op=1->loadAtA P st τi x σj=loadAtA P st τi x σk)/\(cls x.op=2->i<j->σj[σi.length]?=σk[σi.length]?)
noncomputable def dynB (P:Program) (st:Stat) (ops:Array Oper) (tr:List (Array Value×Heap)):Bool:=dynOk P st ops tr||@decide (DynP P st ops tr) (Classical.propDecidable _)
def traceA (P:Program) (st:Stat) (call:CallA) (ops:Array Oper):List Oper->Array Value->Heap->Option (List (Array Value×Heap))
 | [],τ,σ=>some [(τ,σ)]
 | o :: rest,τ,σ =>
  match stepA P st call ops o τ σ with
  | some (τ',σ')=>(traceA P st call ops rest τ' σ').map fun l=>(τ,σ) :: l
  | none=>none
noncomputable def drawA (P:Program) (st:Stat) (call:CallA) (ops:Array Oper) (τ:Array Value) (σ:Heap):Option (Array Value×Heap) :=
 if staticP P ops then
  match traceA P st call ops ops.toList τ σ with
  | some tr=>if dynB P st ops tr then tr.getLast? else none
  | none=>none
 else none
inductive Ex where
 | normal
 | exit (id:Nat)
 | ret
 deriving DecidableEq
abbrev Out:=Option (Ex×Array Value×Heap)
def iterA (f:Array Value->Heap->Out):Nat->Array Value->Heap->Out
 | 0,_,_=>none
 | n+1,τ,σ =>
  match f τ σ with
  | some (.normal,τ',σ')=>iterA f n τ' σ'
  | r=>r
def noRange:Code->Bool
 | .seq a b=>noRange a&&noRange b
 | .cond _ a b=>noRange a&&noRange b
 | .block _ a=>noRange a
 | .loop a=>noRange a
 | .scope a=>noRange a
 | .rangeFunc _ _ _ _=>false
 | _=>true
def evalG (τ:Array Value):Operand->Value
 | .tmp t=>τ.getD t undef
 | .func f=>.func (.func f) #[] #[]
 | _=>undef
def entersA (P:Program) (f:FuncId):Bool :=
 match P.funcs[f]? with
 | some fn=>!(fn.name== "runtime.NumGoroutine")&&!fn.body.isNone
 | none=>false
def endLoopA (σ:Heap) (l:Nat):Option (Option Code×Heap) :=
 match σ[l]? with
 | some (some (.loop τ ps asg body s p))=>if s=.busy then none else some (p,σ.set l (some (.loop τ ps asg body .exhausted p)))
 | _=>none
def jumpA (τ:Array Value) (σ:Heap):Option Code->Out
 | none=>some (.normal,τ,σ)
 | some .ret=>some (.ret,τ,σ)
 | some (.exit id)=>some (.exit id,τ,σ)
 | _=>none
noncomputable def execA (P:Program) (st:Stat) (call:CallA) (n:Nat):Code->Array Value->Heap->Out
 | .skip=>fun τ σ=>some (.normal,τ,σ)
 | .label _=>fun τ σ=>some (.normal,τ,σ)
 | .region _ ops draw=>fun τ σ =>
  match (if draw then drawA P st call ops τ σ else runA P st call ops ops.toList τ σ) with
  | some (τ',σ')=>some (.normal,τ',σ')
  | none=>none
 | .seq a b=>fun τ σ =>
  match execA P st call n a τ σ with
  | some (.normal,τ',σ')=>execA P st call n b τ' σ'
  | r=>r
 | .cond c a b=>fun τ σ =>
  match evalT τ c with
  | .bool t=>if t then execA P st call n a τ σ else execA P st call n b τ σ
  | _=>none
 | .block id a=>fun τ σ =>
  match execA P st call n a τ σ with
  | some (.exit k,τ',σ')=>if k=id then some (.normal,τ',σ') else some (.exit k,τ',σ')
  | r=>r
 | .loop a=>fun τ σ=>iterA (execA P st call n a) n τ σ
 | .scope a=>fun τ σ=>execA P st call n a τ σ
 | .exit id=>fun τ σ=>some (.exit id,τ,σ)
 | .ret=>fun τ σ=>some (.ret,τ,σ)
 | .rangeFunc g ps asg body=>fun τ σ =>
  match evalG τ g with
  | .func (.func f) first captured =>
   if entersA P f then
    match call f ((first++#[Value.chan (some σ.length)])++captured).toList (σ++[some (.loop τ ps asg body .ready none)]) with
    | some (_,σ2)=>match endLoopA σ2 σ.length with
     | some (p,σ3)=>jumpA τ σ3 p
     | none=>none
    | none=>none
   else none
  | _=>none
 | _=>fun _ _=>none
def beginA (σ:Heap) (l:Nat):Option Heap :=
 match σ[l]? with
 | some (some (.loop τ ps asg body .ready p))=>some (σ.set l (some (.loop τ ps asg body .busy p)))
 | _=>none
def endA (σ:Heap) (l:Nat) (p:Option Code):Option (Value×Heap) :=
 match σ[l]? with
 | some (some (.loop τ ps asg body _ _))=>some (.bool p.isNone,σ.set l (some (.loop τ ps asg body (if p.isNone then .ready else .done) p)))
 | _=>none
def leftA:Ex->Option Code
 | .normal=>none
 | .exit id=>some (.exit id)
 | .ret=>some .ret
noncomputable def roundA (P:Program) (st:Stat) (call:CallA) (n:Nat) (l:Nat) (args:List Value) (σ:Heap):Option (Value×Heap) :=
 match σ[l]? with
 | some (some (.loop τ ps asg body _ _)) =>
  if args.length=ps.size/\noRange asg=true/\noRange body=true then
   match execA P st call n asg ((ps.zip args.toArray).foldl (fun t q=>t.setIfInBounds q.1 q.2) τ) σ with
   | some (.normal,τ1,σ1)=>match beginA σ1 l with
    | some σ2=>match execA P st call n body τ1 σ2 with
     | some (ex,_,σ3)=>endA σ3 l (leftA ex)
     | none=>none
    | none=>none
   | _=>none
  else none
 | _=>none
def resultA (P:Program) (st:Stat) (τ:Array Value) (σ:Heap):ResultVar->Option Value
 | .tmp t=>some (τ.getD t undef)
 | .cell a t=>match τ.getD a undef with
  | .pointer (some a)=>loadV P st σ t a
  | _=>none
def resultsA (P:Program) (st:Stat) (fn:Func) (τ:Array Value) (σ:Heap):Option Value :=
 match fn.results.toList.mapM (resultA P st τ σ) with
 | some [v]=>some v
 | some vs=>some (.tuple vs.toArray)
 | none=>none
noncomputable def bodyA (P:Program) (st:Stat) (call:CallA) (n:Nat) (fn:Func) (args:List Value) (σ:Heap):Option (Value×Heap) :=
 match fn.body with
 | none=>none
 | some c =>
  match execA P st call n c (args.toArray++Array.replicate (fn.ntmps-args.length) undef) σ with
  | some (.normal,τ,σ')=>(resultsA P st fn τ σ').map (·,σ')
  | some (.ret,τ,σ')=>(resultsA P st fn τ σ').map (·,σ')
  | _=>none
noncomputable def runF (P:Program) (st:Stat) (n:Nat):Nat->CallA
 | 0=>fun _ _ _=>none
 | k+1=>fun f args σ =>
  match P.funcs[f]? with
  | some fn=>match st.ext f args σ with
   | some r=>some r
   | none=>bodyA P st (runF P st n k) n fn args σ
  | none=>roundA P st (runF P st n k) n (f-P.funcs.size) args σ
end Go.AE
