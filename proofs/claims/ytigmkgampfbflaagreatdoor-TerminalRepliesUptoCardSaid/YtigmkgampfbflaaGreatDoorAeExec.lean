/-
 A run of the evaluator over a function's code is a call of the model's function.
 Conditions: see the theorems.
-/
import Derived.Test.YtigmkgampfbflaaGreatDoorAeOrd3
import Derived.RangeFuncLeaves
namespace Go.AE
open Go Go.RowKit
def noGo (Q:Exit->Act->World->Prop):Exit->Act->World->Prop
 | .goto _,_,_=>False
 | e,a,w=>Q e a w
section
variable {P:Program}{b:Frame}{a:Act}{k:List Item}{cs:List Frame}{w:World}{Q:Exit->Act->World->Prop}{F:Fence}{n:Nat}
theorem stepR_scope {c:Code}:step P (lone (b.atR a (.code (.scope c) :: k)) cs w)=.next (lone (b.atR a (.code c :: .inScope c :: k)) cs w) :=
 step_lone_go (by simp [stepG,stepG.exec,Frame.atR])
theorem stepR_inScope {c:Code}:step P (lone (b.atR a (.inScope c :: k)) cs w)=.next (lone (b.atR a k) cs w) :=
 step_lone_go (by simp [stepG,stepG.exec,Frame.atR])
theorem wpIn_scope {c:Code}(h:c.wpIn F n P (noGo Q) a w):(Code.scope c).wpIn F n P Q a w:=by
 intro b k cs hro hb hr;have h0:(lone (b.atR a (.code (.scope c) :: k)) cs w).fenced P F:=fenced_calm hb hr rfl;obtain ⟨e,a₁,w₁,hq,harr⟩:=h b (.inScope c :: k) cs hro hb hr
 cases e with
 | normal=>exact ⟨.normal,a₁,w₁,hq,.head h0 stepR_scope (StepsIn.trans harr (.one (fenced_calm hb hr rfl) stepR_inScope))⟩
 | exit id =>
  have hx:exitTo id (.inScope c :: k)=exitTo id k:=by simp [exitTo]
  exact ⟨.exit id,a₁,w₁,hq,fun k' hk=>.head h0 stepR_scope (harr.1 k' (by rw [hx]; exact hk)),
   fun hr' hk=>let ⟨k₁,h1,h2⟩:=harr.2 hr' (by rw [hx]; exact hk); ⟨k₁,h1,.head h0 stepR_scope h2⟩⟩
 | goto l=>exact hq.elim
 | ret=>exact ⟨_,a₁,w₁,hq,.of_steps (.one h0 stepR_scope) harr⟩
 | panic ch=>exact ⟨_,a₁,w₁,hq,.of_steps (.one h0 stepR_scope) harr⟩
 | outgrown=>exact ⟨_,a₁,w₁,hq,.of_steps (.one h0 stepR_scope) harr⟩
end
section
variable {P:Program}{w0:World}{ρ:Ren}{w:World}{B:Nat}
def exOf:Ex->Exit
 | .normal=>.normal
 | .exit id=>.exit id
 | .ret=>.ret
def Mk (B:Nat) (ρ:Ren) (H:HF) (w:World) (ds:List Deferred):Prop :=
 B<=w.heap.size/\∃ bs:List Nat,ds=bs.map (fun b=>{ target:=.collected b,args:=#[] })/\bs.Nodup/\∀ b∈bs,B<=b/\w.heap[b]?=some (.deferred (some []))/\¬ Img ρ H b
theorem Mk.nil {H:HF}(h:B<=w.heap.size):Mk B ρ H w []:=⟨h,[],rfl,.nil,fun b h=>by cases h⟩
theorem Mk.nxt {ρ':Ren}{σ σ':Heap}{w':World}{ds:List Deferred}(h:Mk B ρ (hp σ) w ds) (hn:Nxt w0 ρ σ w ρ' σ' w'):Mk B ρ' (hp σ') w' ds:=by
 obtain ⟨h0,bs,h1,h2,h3⟩:=h
 refine ⟨Nat.le_trans h0 hn.fr.size,bs,h1,h2,fun b hb=>?_⟩
 obtain ⟨a1,a2,a3⟩:=h3 b hb;have hlt:=(Array.getElem?_eq_some_iff.1 a2).1
 exact ⟨a1,(hn.fr.fr b hlt a3).trans a2,fun hi=>a3 (hn.fr.img b hi hlt)⟩
def PostX (w0:World) (B:Nat) (ρ:Ren) (σ:Heap) (w:World) (ex:Ex) (τ':Array Value) (σ':Heap) (e:Exit) (a:Act) (w':World):Prop :=
 e=exOf ex/\∃ ρ',Nxt w0 ρ σ w ρ' σ' w'/\VRA ρ' τ' a.tmps/\Mk B ρ' (hp σ') w' a.defers
theorem iterA_len {f:Array Value->Heap->Out}(hf:∀ τ σ ex τ' σ',f τ σ=some (ex,τ',σ')->σ.length<=σ'.length):∀ (n:Nat) (τ:Array Value) (σ:Heap) (ex:Ex) (τ':Array Value) (σ':Heap),
  iterA f n τ σ=some (ex,τ',σ')->σ.length<=σ'.length:=by
 intro n
 induction n with
 | zero=>intro τ σ ex τ' σ' h; simp [iterA] at h
 | succ n ih =>
  intro τ σ ex τ' σ' h;simp only [iterA] at h;split at h
  ·rename_i τ1 σ1 h1;exact Nat.le_trans (hf _ _ _ _ _ h1) (ih _ _ _ _ _ h)
  ·exact hf _ _ _ _ _ h
theorem endLoopA_len {σ σ':Heap}{l:Nat}{p:Option Code}(h:endLoopA σ l=some (p,σ')):σ'.length=σ.length:=by
 unfold endLoopA at h
 split at h<;>first | (cases h; done) | skip
 split at h<;>first | (cases h; done) | skip
 simp only [Option.some.injEq,Prod.mk.injEq] at h;rw [<- h.2];simp
theorem jumpA_heap {τ τ':Array Value}{σ σ':Heap}{p:Option Code}{ex:Ex}(h:jumpA τ σ p=some (ex,τ',σ')):σ'=σ:=by
 unfold jumpA at h
 split at h<;>first | (cases h; done) | skip
 all_goals
  simp only [Option.some.injEq,Prod.mk.injEq] at h;exact h.2.2.symm
theorem execA_len {st:AE.Stat}{call:CallA}{n:Nat}(hcall:RunOk P w0 call):∀ (c:Code) (τ:Array Value) (σ:Heap) (ex:Ex) (τ':Array Value) (σ':Heap),
  execA P st call n c τ σ=some (ex,τ',σ')->σ.length<=σ'.length:=by
 intro c
 induction c with
 | skip=>intro τ σ ex τ' σ' h; simp only [execA,Option.some.injEq,Prod.mk.injEq] at h; rw [h.2.2]; exact Nat.le_refl _
 | label l=>intro τ σ ex τ' σ' h; simp only [execA,Option.some.injEq,Prod.mk.injEq] at h; rw [h.2.2]; exact Nat.le_refl _
 | exit id=>intro τ σ ex τ' σ' h; simp only [execA,Option.some.injEq,Prod.mk.injEq] at h; rw [h.2.2]; exact Nat.le_refl _
 | ret=>intro τ σ ex τ' σ' h; simp only [execA,Option.some.injEq,Prod.mk.injEq] at h; rw [h.2.2]; exact Nat.le_refl _
 | region id ops draw =>
  intro τ σ ex τ' σ' h;simp only [execA] at h;split at h
  ·rename_i τ1 σ1 h1;simp only [Option.some.injEq,Prod.mk.injEq] at h;obtain ⟨_,rfl,rfl⟩:=h
   cases draw with
   | true=>exact drawA_len hcall (by simpa using h1)
   | false=>exact runA_len hcall _ _ _ _ _ (by simpa using h1)
  ·cases h
 | seq a b iha ihb =>
  intro τ σ ex τ' σ' h;simp only [execA] at h;split at h
  ·rename_i τ1 σ1 h1;exact Nat.le_trans (iha _ _ _ _ _ h1) (ihb _ _ _ _ _ h)
  ·exact iha _ _ _ _ _ h
 | cond c a b iha ihb =>
  intro τ σ ex τ' σ' h;simp only [execA] at h;split at h
  ·rename_i t ht
   cases t with
   | true=>exact iha _ _ _ _ _ (by simpa using h)
   | false=>exact ihb _ _ _ _ _ (by simpa using h)
  ·cases h
 | block id a iha =>
  intro τ σ ex τ' σ' h;simp only [execA] at h;split at h
  ·rename_i k τ1 σ1 h1;have:=iha _ _ _ _ _ h1;split at h
   ·simp only [Option.some.injEq,Prod.mk.injEq] at h; rw [<- h.2.2]; exact this
   ·simp only [Option.some.injEq,Prod.mk.injEq] at h; rw [<- h.2.2]; exact this
  ·exact iha _ _ _ _ _ h
 | loop a iha=>intro τ σ ex τ' σ' h; exact iterA_len iha n τ σ ex τ' σ' h
 | rangeFunc g ps asg body _ _ =>
  intro τ σ ex τ' σ' h;simp only [execA] at h
  split at h<;>first | (cases h; done) | skip
  split at h<;>first | (cases h; done) | skip
  split at h<;>first | (cases h; done) | skip
  rename_i v σ2 h2
  split at h<;>first | (cases h; done) | skip
  rename_i p σ3 h3;have h1:=hcall.len h2;have h4:=endLoopA_len h3;have h5:=jumpA_heap h;rw [h5];simp at h1;omega
 | scope b ih=>intro τ σ ex τ' σ' h; exact ih τ σ ex τ' σ' h
 | goto l=>intro τ σ ex τ' σ' h; simp [execA] at h
 | refuse y=>intro τ σ ex τ' σ' h; simp [execA] at h
def CodeOk (P:Program) (w0:World) (B:Nat) (r:Option Nat) (f:Array Value->Heap->Out) (c:Code):Prop :=
 ∀ τ σ ex τ' σ',f τ σ=some (ex,τ',σ')->∀ ρ w a,Rel w0 ρ (hp σ) w->Fresh ρ σ.length σ'.length->VRA ρ τ a.tmps->Mk B ρ (hp σ) w a.defers->c.wpIn (FR r) 0 P (PostX w0 B ρ σ w ex τ' σ') a w
theorem Fresh.left {ρ:Ren}{a b c:Nat}(h:Fresh ρ a c) (hbc:b<=c):Fresh ρ a b:=fun id h1 h2=>h id h1 (by omega)
theorem Fresh.right {ρ ρ':Ren}{a b c:Nat}(h:Fresh ρ a c) (he:Ext ρ ρ' a b) (hab:a<=b):Fresh ρ' b c:=fun id h1 h2=>by rw [he id (by omega)]; exact h id (by omega) h2
theorem PostX.then {σ σ1 σ2:Heap}{ρ1:Ren}{w1:World}{ex:Ex}{τ:Array Value}{e:Exit}{a:Act}{w2:World}(h:Nxt w0 ρ σ w ρ1 σ1 w1) (k:PostX w0 B ρ1 σ1 w1 ex τ σ2 e a w2):PostX w0 B ρ σ w ex τ σ2 e a w2:=by
 obtain ⟨h1,ρ2,h3,h4⟩:=k;exact ⟨h1,ρ2,h.trans h3,h4⟩
theorem iterA_rounds {r:Option Nat}{f:Array Value->Heap->Out}{c:Code}(hf:CodeOk P w0 B r f c) (hlen:∀ τ σ ex τ' σ',f τ σ=some (ex,τ',σ')->σ.length<=σ'.length) {Q:Exit->Act->World->Prop}:∀ (n:Nat) τ σ ex τ' σ',
  iterA f n τ σ=some (ex,τ',σ')->∀ ρ w a,Rel w0 ρ (hp σ) w->Fresh ρ σ.length σ'.length->VRA ρ τ a.tmps->Mk B ρ (hp σ) w a.defers ->
   (∀ e a1 w1,PostX w0 B ρ σ w ex τ' σ' e a1 w1->Q e a1 w1)->Code.roundsIn (FR r) 0 P c Q n a w:=by
 intro n
 induction n with
 | zero=>intro τ σ ex τ' σ' h; simp [iterA] at h
 | succ n ih =>
  intro τ σ ex τ' σ' h ρ w a hR hfr ht hd hQ;rw [roundsIn_succ];simp only [iterA] at h;split at h
  ·rename_i τ1 σ1 h1;have hl:=iterA_len hlen n _ _ _ _ _ h
   refine wpIn_mono (hf _ _ _ _ _ h1 ρ w a hR (hfr.left hl) ht hd) fun e a1 w1 hp=>?_
   obtain ⟨rfl,ρ1,hn,hv,hd1⟩:=hp
   exact ih _ _ _ _ _ h ρ1 w1 a1 hn.rel (hfr.right hn.ext (hlen _ _ _ _ _ h1)) hv hd1 fun e2 a2 w2 hp=>hQ _ _ _ (PostX.then hn hp)
  ·rename_i hne
   refine wpIn_mono (hf _ _ _ _ _ h ρ w a hR hfr ht hd) fun e a1 w1 hp=>?_
   have he:=hp.1
   cases ex with
   | normal=>exact (hne _ _ h).elim
   | exit id=>subst he; exact hQ _ _ _ hp
   | ret=>subst he; exact hQ _ _ _ hp
theorem iterA_loop {r:Option Nat}{f:Array Value->Heap->Out}{c:Code}(hf:CodeOk P w0 B r f c) (hlen:∀ τ σ ex τ' σ',f τ σ=some (ex,τ',σ')->σ.length<=σ'.length) (n:Nat):CodeOk P w0 B r (iterA f n) (.loop c) :=
 fun _ _ _ _ _ h ρ w a hR hfr ht hd=>wpIn_loop_rounds n (iterA_rounds hf hlen n _ _ _ _ _ h ρ w a hR hfr ht hd fun _ _ _ hp=>hp)
theorem evalG_VR {τ:Array Value}{a:Act}(h:VRA ρ τ a.tmps) {g:Operand}{fn:Fn}{x y:Array Value}(hx:evalG τ g=.func fn x y):VR ρ (.func fn x y) (a.eval g):=by
 cases g with
 | tmp t =>
  have:=evalT_VR h (x:=.tmp t) (fun v hv=>by cases hv)
  rw [show evalT τ (.tmp t)=_ from hx] at this;exact this
 | func f =>
  have:=evalT_VR h (x:=.func f) (fun v hv=>by cases hv)
  rw [show evalT τ (.func f)=_ from hx] at this;exact this
 | const v=>cases hx
 | global g=>cases hx
theorem run_enter {f:FuncId}{args:Array Value}(h:entersA P f=true) (w:World):(callFunc f args).run P w=.ok (.enter f args) w:=by
 unfold entersA at h
 cases hf:P.funcs[f]? with
 | none=>simp [hf] at h
 | some fn =>
  simp only [hf,Bool.and_eq_true,Bool.not_eq_true'] at h;simp only [callFunc,Sem.run_bind,run_program,Result.andThen_ok,hf]
  rw [if_neg (by rw [h.1]; simp),if_neg (by rw [h.2]; simp)]
  rfl
theorem enters_some {f:FuncId}(h:entersA P f=true):P.funcs[f]?.isSome=true:=by
 unfold entersA at h
 cases hf:P.funcs[f]? with
 | none=>simp [hf] at h
 | some fn=>rfl
theorem Nxt.laid {σ:Heap}(hR:Rel w0 ρ (hp σ) w) (o:Obj):Nxt w0 ρ σ w ρ σ (w.alloc o):=by
 have hpush:∀ k,k<w.heap.size->(w.alloc o).heap[k]?=w.heap[k]?:=fun k hk=>Below.heap_alloc w o k hk
 refine ⟨Nat.le_refl _,.refl _ _ _,⟨by simp,fun b hb _=>hpush b hb,fun b hi _=>hi⟩,⟨hR.below.trans ((Below.refl _ w).alloc hR.below.size o),fun id b base n e=>?_,fun id b base n blk e1 e2=>?_,hR.inj⟩⟩
 ·have:=hR.dyn id b base n e;simp;omega
 ·obtain ⟨o',ho,hc⟩:=hR.cont id b base n blk e1 e2;exact ⟨o',(hpush b (hR.dyn id b base n e1).2).trans ho,hc⟩
theorem Nxt.turned {σ:Heap}{b:Nat}(hR:Rel w0 ρ (hp σ) w) (h0:w0.heap.size<=b) (hb:¬ Img ρ (hp σ) b) (o:Obj):Rel w0 ρ (hp σ) (w.putObj b o):=by
 have ho:∀ k,k≠b->(w.putObj b o).heap[k]?=w.heap[k]?:=fun k hk=>World.putObj_heap_other hk
 refine ⟨hR.below.trans ⟨rfl,rfl,rfl,by simp,fun k hk=>ho k (by omega)⟩,fun id b' base n e=>?_,fun id b' base n blk e1 e2=>?_,hR.inj⟩
 ·have:=hR.dyn id b' base n e;simp;omega
 ·obtain ⟨o',ho',hc⟩:=hR.cont id b' base n blk e1 e2
  exact ⟨o',(ho b' fun e=>hb ⟨id,base,n,blk,by rw [e1,e],e2⟩).trans ho',hc⟩
theorem loop_at {σ:Heap}{l l' x y:Nat}{τ:Array Value}{ps:Array Tmp}{asg body:Code}{s:LoopState}{p:Option Code}(hR:Rel w0 ρ (hp σ) w) (hl:ρ l=some (l',x,y)) (h:σ[l]?=some (some (.loop τ ps asg body s p))) :
  ∃ r:Loop,w.heap[l']?=some (.loop r)/\r.state=s/\r.pending=p/\r.params=ps/\r.assign=asg/\r.body=body/\VRA ρ τ r.tmps:=by
 obtain ⟨o,ho,r,rfl,h1⟩:=hR.cont l l' x y (.loop τ ps asg body s p) hl (by simp [hp,h])
 exact ⟨r,ho,h1⟩
theorem endLoopA_sound {σ σ':Heap}{l l' x y:Nat}{p:Option Code}(hR:Rel w0 ρ (hp σ) w) (hl:ρ l=some (l',x,y)) (h:endLoopA σ l=some (p,σ')) :
  ∃ w',(Instr.endLoop l').run P w=.ok p w'/\Nxt w0 ρ σ w ρ σ' w':=by
 unfold endLoopA at h
 split at h<;>first | (cases h; done) | skip
 rename_i τ ps asg body s p' hs
 split at h<;>first | (cases h; done) | skip
 rename_i hb;simp only [Option.some.injEq,Prod.mk.injEq] at h;obtain ⟨rfl,rfl⟩:=h;obtain ⟨r,hr,h1,h2,h3,h4,h5,h6⟩:=loop_at hR hl hs
 refine ⟨w.putObj l' (.loop { r with state:=.exhausted }),by rw [run_endLoop hr (by rw [h1]; exact hb),h2],upd_sound hR hs hl ⟨{ r with state:=.exhausted },rfl,rfl,h2,h3,h4,h5,h6⟩⟩
theorem beginA_sound {σ σ':Heap}{l l' x y:Nat}(hR:Rel w0 ρ (hp σ) w) (hl:ρ l=some (l',x,y)) (h:beginA σ l=some σ') :
  ∃ w',(Instr.beginRound l').run P w=.ok () w'/\Nxt w0 ρ σ w ρ σ' w':=by
 unfold beginA at h
 split at h<;>first | (cases h; done) | skip
 rename_i τ ps asg body p' hs;obtain rfl:=Option.some.inj h;obtain ⟨r,hr,h1,h2,h3,h4,h5,h6⟩:=loop_at hR hl hs
 exact ⟨_,run_beginRound hr h1,upd_sound hR hs hl ⟨{ r with state:=.busy },rfl,rfl,h2,h3,h4,h5,h6⟩⟩
theorem endA_sound {σ σ':Heap}{l l' x y:Nat}{p:Option Code}{v:Value}(hR:Rel w0 ρ (hp σ) w) (hl:ρ l=some (l',x,y)) (h:endA σ l p=some (v,σ')) :
  ∃ w',(Instr.endRound l' p).run P w=.ok v w'/\Nxt w0 ρ σ w ρ σ' w'/\flat v=true:=by
 unfold endA at h
 split at h<;>first | (cases h; done) | skip
 rename_i τ ps asg body s p' hs;simp only [Option.some.injEq,Prod.mk.injEq] at h;obtain ⟨rfl,rfl⟩:=h;obtain ⟨r,hr,h1,h2,h3,h4,h5,h6⟩:=loop_at hR hl hs
 exact ⟨_,run_endRound p hr,upd_sound hR hs hl ⟨{ r with state:=if p.isNone then .ready else .done,pending:=p },rfl,rfl,rfl,h3,h4,h5,h6⟩,rfl⟩
theorem endA_len {σ σ':Heap}{l:Nat}{p:Option Code}{v:Value}(h:endA σ l p=some (v,σ')):σ'.length=σ.length:=by
 unfold endA at h
 split at h<;>first | (cases h; done) | skip
 simp only [Option.some.injEq,Prod.mk.injEq] at h;rw [<- h.2];simp
theorem beginA_len {σ σ':Heap}{l:Nat}(h:beginA σ l=some σ'):σ'.length=σ.length:=by
 unfold beginA at h
 split at h<;>first | (cases h; done) | skip
 obtain rfl:=Option.some.inj h;simp
theorem execA_sound {st:AE.Stat}{call:CallA}{n:Nat}(hcall:RunOk P w0 call) (hst:GoodSt w0 st) (hm:P.follows .mixedOrders=true) {r:Option Nat}:∀ c:Code,(r=none\/noRange c=true)->CodeOk P w0 B r (execA P st call n c) c:=by
 intro c
 induction c with
 | skip =>
  intro _ τ σ ex τ' σ' h ρ w a hR hfr ht hd;simp only [execA,Option.some.injEq,Prod.mk.injEq] at h;obtain ⟨rfl,rfl,rfl⟩:=h;exact wpIn_skip ⟨rfl,ρ,.refl hR,ht,hd⟩
 | label l =>
  intro _ τ σ ex τ' σ' h ρ w a hR hfr ht hd;simp only [execA,Option.some.injEq,Prod.mk.injEq] at h;obtain ⟨rfl,rfl,rfl⟩:=h;exact wpIn_label ⟨rfl,ρ,.refl hR,ht,hd⟩
 | exit id =>
  intro _ τ σ ex τ' σ' h ρ w a hR hfr ht hd;simp only [execA,Option.some.injEq,Prod.mk.injEq] at h;obtain ⟨rfl,rfl,rfl⟩:=h;exact wpIn_exit ⟨rfl,ρ,.refl hR,ht,hd⟩
 | ret =>
  intro _ τ σ ex τ' σ' h ρ w a hR hfr ht hd;simp only [execA,Option.some.injEq,Prod.mk.injEq] at h;obtain ⟨rfl,rfl,rfl⟩:=h;exact wpIn_ret ⟨rfl,ρ,.refl hR,ht,hd⟩
 | region id ops draw =>
  intro _ τ σ ex τ' σ' h ρ w a hR hfr ht hd;simp only [execA] at h;split at h
  ·rename_i τ1 σ1 h1;simp only [Option.some.injEq,Prod.mk.injEq] at h;obtain ⟨rfl,rfl,rfl⟩:=h
   cases draw with
   | true=>exact drawA_sound hcall hst hm (by simpa using h1) hR hfr ht fun a1 w1 ρ1 hn hv hd1=>⟨rfl,ρ1,hn,hv,by rw [hd1]; exact hd.nxt hn⟩
   | false =>
    exact wpIn_region_list (runA_sound hcall hst _ _ _ _ _ (by simpa using h1) hR hfr ht fun a1 w1 ρ1 hn hv hd1=>⟨rfl,ρ1,hn,hv,by rw [hd1]; exact hd.nxt hn⟩)
  ·cases h
 | seq x y ihx ihy =>
  intro hr τ σ ex τ' σ' h ρ w a hR hfr ht hd
  have hrx:r=none\/noRange x=true:=hr.imp id fun e=>by simp only [noRange,Bool.and_eq_true] at e; exact e.1
  have hry:r=none\/noRange y=true:=hr.imp id fun e=>by simp only [noRange,Bool.and_eq_true] at e; exact e.2
  simp only [execA] at h;refine wpIn_seq ?_;split at h
  ·rename_i τ1 σ1 h1;have hl:=execA_len hcall _ _ _ _ _ _ h;have hl1:=execA_len hcall _ _ _ _ _ _ h1
   refine wpIn_mono (ihx hrx _ _ _ _ _ h1 ρ w a hR (hfr.left hl) ht hd) fun e a1 w1 hp=>?_
   obtain ⟨rfl,ρ1,hn,hv,hd1⟩:=hp
   exact wpIn_mono (ihy hry _ _ _ _ _ h ρ1 w1 a1 hn.rel (hfr.right hn.ext hl1) hv hd1) fun e2 a2 w2 hp=>PostX.then hn hp
  ·rename_i hne
   refine wpIn_mono (ihx hrx _ _ _ _ _ h ρ w a hR hfr ht hd) fun e a1 w1 hp=>?_
   obtain ⟨rfl,hrest⟩:=hp
   cases ex with
   | normal=>exact (hne _ _ h).elim
   | exit id=>exact ⟨rfl,hrest⟩
   | ret=>exact ⟨rfl,hrest⟩
 | cond c x y ihx ihy =>
  intro hr τ σ ex τ' σ' h ρ w a hR hfr ht hd
  have hrx:r=none\/noRange x=true:=hr.imp id fun e=>by simp only [noRange,Bool.and_eq_true] at e; exact e.1
  have hry:r=none\/noRange y=true:=hr.imp id fun e=>by simp only [noRange,Bool.and_eq_true] at e; exact e.2
  simp only [execA] at h;split at h
  ·rename_i t hc
   have hca:a.eval c=.bool t:=by
    cases c with
    | const v=>exact hc
    | tmp k =>
     have:=evalT_VR ht (x:=.tmp k) (fun v hv=>by cases hv)
     rw [hc] at this;generalize hy:a.eval (.tmp k)=y at this;cases this;rfl
    | global g=>simp [evalT] at hc
    | func f=>simp [evalT] at hc
   refine wpIn_cond hca ?_
   cases t with
   | true=>exact ihx hrx _ _ _ _ _ (by simpa using h) ρ w a hR hfr ht hd
   | false=>exact ihy hry _ _ _ _ _ (by simpa using h) ρ w a hR hfr ht hd
  ·cases h
 | block id x ihx =>
  intro hr τ σ ex τ' σ' h ρ w a hR hfr ht hd;have hrx:r=none\/noRange x=true:=hr;simp only [execA] at h;refine wpIn_block ?_;split at h
  ·rename_i k τ1 σ1 h1
   by_cases hk:k=id
   ·simp only [hk,if_true,Option.some.injEq,Prod.mk.injEq] at h;obtain ⟨rfl,rfl,rfl⟩:=h
    refine wpIn_mono (ihx hrx _ _ _ _ _ h1 ρ w a hR hfr ht hd) fun e a1 w1 hp=>?_
    obtain ⟨rfl,hrest⟩:=hp;simp only [exOf,Exit.inBlock,hk,if_true];exact ⟨rfl,hrest⟩
   ·simp only [hk,if_false,Option.some.injEq,Prod.mk.injEq] at h;obtain ⟨rfl,rfl,rfl⟩:=h
    refine wpIn_mono (ihx hrx _ _ _ _ _ h1 ρ w a hR hfr ht hd) fun e a1 w1 hp=>?_
    obtain ⟨rfl,hrest⟩:=hp;simp only [exOf,Exit.inBlock,hk,if_false];exact ⟨rfl,hrest⟩
  ·rename_i hne
   refine wpIn_mono (ihx hrx _ _ _ _ _ h ρ w a hR hfr ht hd) fun e a1 w1 hp=>?_
   obtain ⟨rfl,hrest⟩:=hp
   cases ex with
   | normal=>exact ⟨rfl,hrest⟩
   | exit k=>exact (hne _ _ _ h).elim
   | ret=>exact ⟨rfl,hrest⟩
 | loop x ihx=>intro hr; exact iterA_loop (ihx hr) (execA_len hcall x) n
 | rangeFunc g ps asg body _ _ =>
  intro hr τ σ ex τ' σ' h ρ w a hR hfr ht hd
  have hr:r=none:=by
   rcases hr with h | h
   ·exact h
   ·cases h
  subst hr;have hlen:=execA_len hcall _ _ _ _ _ _ h;simp only [execA] at h
  split at h<;>first | (cases h; done) | skip
  rename_i f first captured hg
  split at h<;>first | (cases h; done) | skip
  rename_i hent
  split at h<;>first | (cases h; done) | skip
  rename_i v σ2 h2
  split at h<;>first | (cases h; done) | skip
  rename_i p σ3 h3;have e3:=endLoopA_len h3;have e5:=jumpA_heap h;subst e5
  refine wpIn_rangeFunc fun fn _=>?_
  have n1:=Nxt.laid hR (.deferred (some []));obtain ⟨rec,hrec⟩:∃ rec:Loop,rec={ state:=.ready,pending:=none,fn,tmps:=a.tmps,params:=ps,assign:=asg,body,defers:=w.heap.size }:=⟨_,rfl⟩;have hl2:=hcall.len h2
  have hf:ρ σ.length=none:=hfr _ (Nat.le_refl _) (by simp at hl2; omega)
  have n2:=new_sound (B:=.loop τ ps asg body .ready none) (N:=0) (o:=.loop rec) n1.rel hf ⟨rec,rfl,by rw [hrec],by rw [hrec],by rw [hrec],by rw [hrec],by rw [hrec],by rw [hrec]; exact ht.mono (Ren.le_put hf)⟩
  have n12:=n1.trans n2
  have hput:(ρ.put σ.length ((w.alloc (.deferred (some []))).heap.size,0,0)) σ.length=some (w.heap.size+1,0,0):=by simp [Ren.put]
  have hfv:VR (ρ.put σ.length ((w.alloc (.deferred (some []))).heap.size,0,0)) (.func (.func f) first captured) (a.eval g):=(evalG_VR ht hg).mono (Ren.le_put hf);generalize hy:a.eval g=y at hfv
  cases hfv with
  | func _ _ _ x' y' q1 q2 q3 q4 =>
   refine ⟨w.heap.size+1,[{ target:=.collected w.heap.size,args:=#[] }],(w.alloc (.deferred (some []))).alloc (.loop rec),{ target:=.fn (.func f) y',args:=x'++#[.func (.yield (w.heap.size+1)) #[] #[]] },
    (w.alloc (.deferred (some []))).alloc (.loop rec),f,(x'++#[.func (.yield (w.heap.size+1)) #[] #[]])++y',(w.alloc (.deferred (some []))).alloc (.loop rec),?_,?_,fun _ _=>trivial,?_,fun h=>(by cases h),?_⟩
   ·rw [hrec]; exact run_enterLoop_outer _ _ _ _ _
   ·simp only [resolve,hy,Deferred.ofValue];simp [Act.eval]
   ·show (callFunc f _).run P _=_;exact run_enter hent _
   ·have hargs:VRL (ρ.put σ.length ((w.alloc (.deferred (some []))).heap.size,0,0)) ((first++#[Value.chan (some σ.length)])++captured).toList ((x'++#[Value.func (.yield (w.heap.size+1)) #[] #[]])++y').toList:=by
     simp only [Array.toList_append];exact ((VRL.of_array ⟨q1,q3⟩).append (.cons (.yield _ _ _ _ hput) (.nil _))).append (.of_array ⟨q2,q4⟩)
    have hfr2:Fresh (ρ.put σ.length ((w.alloc (.deferred (some []))).heap.size,0,0)) (σ++[some (Blk.loop τ ps asg body .ready none)]).length σ2.length:=by
     refine (hfr.left (b:=σ2.length) (by omega)).right n12.ext ?_
     simp
    have hc:=(hcall.fn f (enters_some hent) _ _ _ _ h2).2 _ _ _ n12.rel hfr2 hargs;rw [Array.toArray_toList] at hc
    refine CallsIn.mono (callsIn_wide.2 hc) fun e w3 he=>?_
    obtain ⟨v',rfl,ρ3,n3,_⟩:=he;have hl3:ρ3 σ.length=some (w.heap.size+1,0,0):=n3.ext.le hfr2 _ _ hput;obtain ⟨w4,hr4,n4⟩:=endLoopA_sound (P:=P) n3.rel hl3 h3;have nn:=(n12.trans n3).trans n4
    have hni:¬ Img ρ (hp σ) w.heap.size:=fun ⟨id,base,k,blk,e1,_⟩=>by have:=(hR.dyn id _ base k e1).2; omega
    have hmk:Mk B ρ3 (hp σ') w4 ([{ target:=.collected w.heap.size,args:=#[] }]++a.defers):=by
     obtain ⟨b0,bs,b1,b2,b3⟩:=hd;refine Mk.nxt (σ:=σ) (ρ:=ρ) (w:=w.alloc (.deferred (some []))) ?_ ((n2.trans n3).trans n4)
     refine ⟨by simp; omega,w.heap.size :: bs,by rw [b1]; rfl,?_,fun b hb=>?_⟩
     ·refine List.nodup_cons.2 ⟨fun hm=>?_,b2⟩
      have:=(Array.getElem?_eq_some_iff.1 (b3 _ hm).2.1).1;omega
     ·rcases List.mem_cons.1 hb with rfl | hb
      ·exact ⟨b0,World.alloc_heap_new w _,hni⟩
      ·obtain ⟨c1,c2,c3⟩:=b3 b hb;exact ⟨c1,(Below.heap_alloc w _ b (Array.getElem?_eq_some_iff.1 c2).1).trans c2,c3⟩
    have hv:VRA ρ3 τ a.tmps:=ht.mono (nn.ext.le (hfr.left (by omega)))
    refine ⟨p,w4,hr4,?_⟩;unfold jumpA at h
    split at h<;>first | (cases h; done) | skip
    ·simp only [Option.some.injEq,Prod.mk.injEq] at h;obtain ⟨rfl,rfl,_⟩:=h;exact ⟨rfl,ρ3,nn,hv,hmk⟩
    ·simp only [Option.some.injEq,Prod.mk.injEq] at h;obtain ⟨rfl,rfl,_⟩:=h;exact wpIn_ret ⟨rfl,ρ3,nn,hv,hmk⟩
    ·simp only [Option.some.injEq,Prod.mk.injEq] at h;obtain ⟨rfl,rfl,_⟩:=h;exact wpIn_exit ⟨rfl,ρ3,nn,hv,hmk⟩
 | scope b ih =>
  intro hn τ σ ex τ' σ' h ρ w a hR hfr ht hd
  refine wpIn_scope (wpIn_mono (ih hn τ σ ex τ' σ' h ρ w a hR hfr ht hd) fun e a1 w1 hp=>?_)
  have he:=hp.1
  cases ex with
  | normal=>subst he; exact hp
  | exit id=>subst he; exact hp
  | ret=>subst he; exact hp
 | goto l=>intro _ τ σ ex τ' σ' h; simp [execA] at h
 | refuse y=>intro _ τ σ ex τ' σ' h; simp [execA] at h
theorem params_VRA:∀ (ps:List Tmp) (args args':List Value) (tmps tmps':Array Value),VRA ρ tmps tmps'->VRL ρ args args' ->
  VRA ρ ((ps.zip args).foldl (fun t q=>t.setIfInBounds q.1 q.2) tmps) ((ps.zip args').foldl (fun t q=>t.setIfInBounds q.1 q.2) tmps')
 | [],args,args',t,t',h,_=>by simpa using h
 | p :: ps,[],args',t,t',h,ha=>by
  obtain rfl:=ha.nil_inv
  simpa using h
 | p :: ps,v :: args,args',t,t',h,ha=>by
  obtain ⟨v',r,rfl,hv,hr⟩:=ha.cons_inv;simp only [List.zip_cons_cons,List.foldl_cons];exact params_VRA ps args r _ _ (VRA.put (a:={ tmps:=t',defers:=[] }) h hv (some p)) hr
theorem roundA_sound {st:AE.Stat}{call:CallA}{n l:Nat}(hcall:RunOk P w0 call) (hst:GoodSt w0 st) (hm:P.follows .mixedOrders=true):RndOk P w0 l (roundA P st call n l):=by
 intro args σ v σ' h;unfold roundA at h
 split at h<;>first | (cases h; done) | skip
 rename_i τ ps asg body s p hs
 split at h<;>first | (cases h; done) | skip
 rename_i hc;obtain ⟨hlen,ha,hb⟩:=hc
 split at h<;>first | (cases h; done) | skip
 rename_i τ1 σ1 h1
 split at h<;>first | (cases h; done) | skip
 rename_i σ2 h2
 split at h<;>first | (cases h; done) | skip
 rename_i ex τ3 σ3 h3;have l1:=execA_len hcall _ _ _ _ _ _ h1;have l2:=beginA_len h2;have l3:=execA_len hcall _ _ _ _ _ _ h3;have l4:=endA_len h
 refine ⟨by omega,fun ρ w args' l' x y hR hF hargs hl=>?_⟩
 obtain ⟨r,hr,_,_,r3,r4,r5,r6⟩:=loop_at hR hl hs
 have hy:=run_yield (P:=P) (args:=args'.toArray) hr (by rw [r3]; simp [<- hargs.1,hlen])
 rw [r3,r4,r5] at hy;refine ⟨r.fn,_,asg,body,hy,roundIn_of_wpIn trivial ?_⟩
 have ht:VRA ρ ((ps.zip args.toArray).foldl (fun t q=>t.setIfInBounds q.1 q.2) τ) ((ps.zip args'.toArray).foldl (fun tmps (t,a)=>tmps.setIfInBounds t a) r.tmps):=by
  have:=params_VRA ps.toList args args' _ _ r6 hargs;rw [<- Array.foldl_toList,<- Array.foldl_toList,Array.toList_zip,Array.toList_zip];exact this
 refine wpIn_mono (execA_sound (r:=some l') hcall hst hm asg (.inr ha) _ _ _ _ _ h1 ρ w _ hR (hF.left (by omega)) ht (.nil (B:=0) (Nat.zero_le _))) fun e a1 w1 hp=>?_
 obtain ⟨rfl,ρ1,n1,hv1,hd1⟩:=hp
 have hl1:=n1.ext.le (hF.left (by omega)) _ _ hl
 obtain ⟨w2,hb2,n2⟩:=beginA_sound (P:=P) n1.rel hl1 h2;refine ⟨w2,hb2,?_⟩
 have hF2:Fresh ρ1 σ2.length σ3.length:=by
  rw [l2]
  exact (hF.left (by omega)).right n1.ext l1
 refine wpIn_mono (execA_sound (r:=some l') hcall hst hm body (.inr hb) _ _ _ _ _ h3 ρ1 w2 _ n2.rel hF2 hv1 (hd1.nxt n2)) fun e a3 w3 hp=>?_
 obtain ⟨rfl,ρ3,n3,hv3,hd3⟩:=hp;have hl3:=n3.ext.le hF2 _ _ hl1;obtain ⟨w4,hr4,n4,hfv⟩:=endA_sound (P:=P) n3.rel hl3 h
 have fin:∃ v' w',(Instr.endRound l' (leftA ex)).run P w3=.ok v' w'/\∃ v'',Ending.returned v'=.returned v''/\OpOut w0 ρ σ w v σ' v'' w' :=
  ⟨v,w4,hr4,v,rfl,ρ3,((n1.trans n2).trans n3).trans n4,flat_VR _ hfv⟩
 cases ex with
 | normal=>exact fin
 | exit id=>exact fin
 | ret=>exact fin
theorem resultA_run {st:AE.Stat}{σ:Heap}{τ τ':Array Value}(hst:GoodSt w0 st) (hR:Rel w0 ρ (hp σ) w) (ht:VRA ρ τ τ') (g:ResultVar->Sem Value) (g1:∀ t,g (.tmp t)=pure (τ'.getD t undef))
  (g2:∀ a t,g (.cell a t)=(do loadVar t (<- asAddr (τ'.getD a undef)))):∀ (rs:List ResultVar) (vs:List Value),rs.mapM (resultA P st τ σ)=some vs->∃ vs',(rs.mapM g).run P w=.ok vs' w/\VRL ρ vs vs'
 | [],vs,h=>by
  simp only [List.mapM_nil] at h ⊢;cases h;exact ⟨[],rfl,.nil ρ⟩
 | r :: rs,vs,h=>by
  simp only [List.mapM_cons] at h ⊢
  cases hr:resultA P st τ σ r with
  | none=>simp [hr] at h
  | some v =>
   cases hrs:rs.mapM (resultA P st τ σ) with
   | none=>simp [hr,hrs] at h
   | some us =>
    simp [hr,hrs] at h;subst h;obtain ⟨us',h1,h2⟩:=resultA_run hst hR ht g g1 g2 rs us hrs
    have key:∃ v',(g r).run P w=.ok v' w/\VR ρ v v':=by
     have tv:∀ t,VR ρ (τ.getD t undef) (τ'.getD t undef):=fun t=>evalT_VR (a:={ tmps:=τ',defers:=[] }) ht (x:=.tmp t) (fun v hv=>by cases hv)
     cases r with
     | tmp t =>
      simp only [resultA,Option.some.injEq] at hr;subst hr
      exact ⟨_,by rw [g1]; rfl,tv t⟩
     | cell a t =>
      simp only [resultA] at hr;split at hr
      ·rename_i a1 ha1;have:=tv a;rw [ha1] at this;generalize hy:τ'.getD a undef=y at this
       cases this with
       | ptr _ a' ha =>
        obtain ⟨v',h3,h4⟩:=loadV_sound (P:=P) hst hR ha hr
        exact ⟨v',by rw [g2,hy]; simp [asAddr,h3],h4⟩
      ·cases hr
    obtain ⟨v',h3,h4⟩:=key
    exact ⟨v' :: us',by simp only [Sem.run_bind,h3,Result.andThen_ok,h1,Sem.run_pure],.cons h4 h2⟩
theorem resultsA_run {st:AE.Stat}{σ:Heap}{fn:Func}{τ τ':Array Value}{v:Value}(hst:GoodSt w0 st) (hR:Rel w0 ρ (hp σ) w) (ht:VRA ρ τ τ') (h:resultsA P st fn τ σ=some v) :
  ∃ v',(results fn τ').run P w=.ok v' w/\VR ρ v v':=by
 unfold resultsA at h
 cases hm:fn.results.toList.mapM (resultA P st τ σ) with
 | none=>simp [hm] at h
 | some vs =>
  have e:∃ vs':List Value,VRL ρ vs vs'/\∀ g:ResultVar->Sem Value,(∀ t,g (.tmp t)=pure (τ'.getD t undef))->(∀ a t,g (.cell a t)=(do loadVar t (<- asAddr (τ'.getD a undef))))->(fn.results.mapM g).run P w=.ok vs'.toArray w:=by
   obtain ⟨vs',h1,h2⟩:=resultA_run (P:=P) hst hR ht (fun | .tmp t=>pure (τ'.getD t undef) | .cell a t=>do loadVar t (<- asAddr (τ'.getD a undef))) (fun _=>rfl) (fun _ _=>rfl) _ _ hm
   refine ⟨vs',h2,fun g g1 g2=>?_⟩
   obtain ⟨us',h3,h4⟩:=resultA_run (P:=P) hst hR ht g g1 g2 _ _ hm
   have eg:g=(fun | .tmp t=>pure (τ'.getD t undef) | .cell a t=>do loadVar t (<- asAddr (τ'.getD a undef))):=by
    funext r
    cases r with
    | tmp t=>exact g1 t
    | cell a t=>exact g2 a t
   rw [<- Array.toArray_toList (xs:=fn.results),List.mapM_toArray];rw [eg];simp only [Sem.run_map,h1,Result.andThen_ok]
  obtain ⟨vs',h2,e⟩:=e;unfold results;simp only [Sem.run_bind]
  rw [e _ (fun _=>rfl) (fun _ _=>rfl)]
  simp only [Result.andThen_ok,Sem.run_pure];rw [hm] at h;split at h
  ·rename_i v0 hv0;obtain rfl:=Option.some.inj h;simp only [Option.some.injEq] at hv0;subst hv0;obtain ⟨v',k,rfl,h3,h4⟩:=h2.cons_inv;obtain rfl:=h4.nil_inv
   exact ⟨v',by simp,h3⟩
  ·rename_i vs0 hne hv0;obtain rfl:=Option.some.inj h;simp only [Option.some.injEq] at hv0;subst hv0
   have hl:vs'.length≠1:=by
    intro hl;rw [<- h2.1] at hl
    match vs,hl with
    | [v],_=>exact hne v rfl
   exact ⟨_,by simp [hl],.tuple' (.mk_list h2)⟩
  ·cases h
theorem leaves_marks {fn:Func}{st:AE.Stat}{R:Ending->World->Prop}{τ tmps:Array Value}{σ:Heap}{v:Value}(hst:GoodSt w0 st) (hres:resultsA P st fn τ σ=some v):∀ (bs:List Nat) (w:World),Rel w0 ρ (hp σ) w->VRA ρ τ tmps ->
  bs.Nodup->(∀ b∈bs,w0.heap.size<=b/\w.heap[b]?=some (.deferred (some []))/\¬ Img ρ (hp σ) b) ->
  (∀ v' w',Rel w0 ρ (hp σ) w'->w'.heap.size=w.heap.size->(∀ k,k ∉ bs->w'.heap[k]?=w.heap[k]?)->VR ρ v v'->R (.returned v') w') ->
  LeavesInM Fence.wide 0 P fn tmps R (bs.map (fun b=>{ target:=.collected b,args:=#[] })) .returning w
 | [],w,hR,ht,_,_,hk=>by
  obtain ⟨v',hr,hv⟩:=resultsA_run (P:=P) (fn:=fn) hst hR ht hres
  exact ⟨v',hr,hk v' w hR rfl (fun _ _=>rfl) hv⟩
 | b :: bs,w,hR,ht,hnd,hb,hk=>by
  obtain ⟨h0,h1,h2⟩:=hb b (List.mem_cons_self ..);obtain ⟨hnb,hnd⟩:=List.nodup_cons.1 hnd
  refine ⟨by simp,.inl ⟨b,_,rfl,run_takeDeferred h1,?_⟩⟩
  refine leaves_marks hst hres bs _ (Nxt.turned hR h0 h2 _) ht hnd (fun c hc=>?_) fun v' w' hR' hs hk' hv=>hk v' w' hR' (by simpa using hs) (fun k hkn=>?_) hv
  ·obtain ⟨c0,c1,c2⟩:=hb c (List.mem_cons_of_mem _ hc)
   exact ⟨c0,(World.putObj_heap_other (r:=b) (k:=c) (fun e=>hnb (by rw [<- e]; exact hc))).trans c1,c2⟩
  ·rw [List.mem_cons,not_or] at hkn;exact (hk' k hkn.2).trans (World.putObj_heap_other hkn.1)
theorem bodyA_sound {st:AE.Stat}{call:CallA}{n:Nat}{f:FuncId}{fn:Func}(hcall:RunOk P w0 call) (hst:GoodSt w0 st) (hm:P.follows .mixedOrders=true) (hf:P.funcs[f]?=some fn) :
  FnOk P w0 f (bodyA P st call n fn):=by
 intro args σ v σ' h;unfold bodyA at h
 cases hb:fn.body with
 | none=>simp [hb] at h
 | some c =>
  simp only [hb] at h
  have go:∀ ex τ σ1,execA P st call n c (args.toArray++Array.replicate (fn.ntmps-args.length) undef) σ=some (ex,τ,σ1)->(ex=.normal\/ex=.ret)->(resultsA P st fn τ σ1).map (·,σ1)=some (v,σ') ->
    σ.length<=σ'.length/\∀ ρ w args',Rel w0 ρ (hp σ) w->Fresh ρ σ.length σ'.length->VRL ρ args args'->Calls P f args'.toArray w fun e w'=>∃ v',e=.returned v'/\OpOut w0 ρ σ w v σ' v' w':=by
   intro ex τ σ1 hx hex hres;simp only [Option.map_eq_some_iff,Prod.mk.injEq] at hres;obtain ⟨v1,hres,rfl,rfl⟩:=hres
   refine ⟨execA_len hcall _ _ _ _ _ _ hx,fun ρ w args' hR hfr hargs=>(callsIn_wide (n:=0)).1 (callsIn_of_wp_marks hf hb trivial ?_)⟩
   have ht:VRA ρ (args.toArray++Array.replicate (fn.ntmps-args.length) undef) (args'.toArray++Array.replicate (fn.ntmps-args'.toArray.size) undef):=by
    refine .of_list ?_;simp only [Array.toList_append,List.size_toArray,<- hargs.1]
    refine hargs.append ⟨rfl,fun i u u' hu hu'=>?_⟩
    obtain rfl:=Option.some.inj (hu.symm.trans hu');simp only [Array.toList_replicate,List.getElem?_replicate] at hu;split at hu
    ·obtain rfl:=Option.some.inj hu;exact flat_VR ρ rfl
    ·cases hu
   refine wpIn_mono (execA_sound (r:=none) (n:=n) hcall hst hm c (.inl rfl) _ _ _ _ _ hx ρ w _ hR hfr ht (.nil (Nat.le_refl _))) fun e a1 w1 hp=>?_
   obtain ⟨rfl,ρ1,hn,hv,_,bs,hds,hnd,hbs⟩:=hp
   have fin:LeavesInM Fence.wide 0 P fn a1.tmps (fun e w'=>∃ v',e=.returned v'/\OpOut w0 ρ σ w v1 σ1 v' w') a1.defers .returning w1:=by
    rw [hds]
    refine leaves_marks hst hres bs w1 hn.rel hv hnd (fun b hb=>let ⟨x,y,z⟩:=hbs b hb; ⟨Nat.le_trans hR.below.size x,y,z⟩) fun v' w' hR' hs hk hvr=>⟨v',rfl,ρ1,⟨hn.len,hn.ext,⟨by rw [hs]; exact hn.fr.size,fun b hb hi=>?_,hn.fr.img⟩,hR'⟩,hvr⟩
    by_cases hbm:b∈bs
    ·have:=(hbs b hbm).1;omega
    ·exact (hk b hbm).trans (hn.fr.fr b hb hi)
   rcases hex with rfl | rfl
   ·exact fin
   ·exact fin
  split at h
  ·rename_i τ σ1 hx; exact go _ _ _ hx (.inl rfl) h
  ·rename_i τ σ1 hx; exact go _ _ _ hx (.inr rfl) h
  ·cases h
theorem runF_sound {st:AE.Stat}{n:Nat}(hst:GoodSt w0 st) (hx:CallOk P w0 st.ext) (hm:P.follows .mixedOrders=true):∀ k,RunOk P w0 (runF P st n k):=by
 intro k
 induction k with
 | zero=>exact ⟨fun f _ args σ v σ' h=>by simp [runF] at h,fun l args σ v σ' h=>by simp [runF] at h⟩
 | succ k ih =>
  refine ⟨fun f hs args σ v σ' h=>?_,fun l args σ v σ' h=>?_⟩
  ·simp only [runF] at h;split at h
   ·rename_i fn hf;split at h
    ·rename_i r hr;obtain rfl:=Option.some.inj h;exact hx f args σ v σ' hr
    ·exact bodyA_sound ih hst hm hf args σ v σ' h
   ·rename_i hf;rw [hf] at hs;cases hs
  ·simp only [runF] at h
   rw [Array.getElem?_eq_none (by omega),Nat.add_sub_cancel_left] at h
   exact roundA_sound ih hst hm args σ v σ' h
end
end Go.AE
namespace Go.AE
open Go Go.RowKit
abbrev Res:=Option (Value×Heap)
def guardK {α:Type}(ops:Array Oper) (o:Oper) (τ:Array Value) (run skip:Array Value->Option α):Option α :=
 match o.guard with
 | none=>run τ
 | some (j,want)=>match (ops[j]?).bind (·.dst) with
  | none=>skip τ
  | some d=>match τ[d]? with
   | some (.bool t)=>match want with
    | true=>cond t (run (τ.setIfInBounds d (.bool true))) (skip (τ.setIfInBounds d (.bool false)))
    | false=>cond t (skip (τ.setIfInBounds d (.bool true))) (run (τ.setIfInBounds d (.bool false)))
   | some (.chan _)=>none
   | _=>skip τ
def stepK {α:Type}(P:Program) (st:AE.Stat) (call:CallA) (ops:Array Oper) (o:Oper) (τ:Array Value) (σ:Heap) (k:Array Value->Array Value->Heap->Option α):Option α :=
 guardK ops o τ
  (fun τ=>match o.op with
  | .pick c a b=>if constsOk o.op then (match evalT τ c with
   | .bool t=>match evalT τ a,evalT τ b with
    | .bool x,.bool y=>k τ (putT τ o.dst (.bool (cond t x y))) σ
    | _,_=>cond t (k τ (putT τ o.dst (evalT τ a)) σ) (k τ (putT τ o.dst (evalT τ b)) σ)
   | _=>none) else none
  | _=>match opA P st call (evalT τ) o σ with
   | some (v,σ')=>k τ (putT τ o.dst v) σ'
   | none=>none)
  (fun τ=>k τ (putT τ o.dst undef) σ)
theorem set_same {τ:Array Value}{d:Nat}{v:Value}(h:τ[d]?=some v):τ.setIfInBounds d v=τ:=by
 apply Array.ext_getElem?
 intro i;rw [Array.getElem?_setIfInBounds]
 by_cases e:d=i
 ·subst e;have hlt:d<τ.size:=(Array.getElem?_eq_some_iff.1 h).1;rw [if_pos rfl,if_pos hlt,h]
 ·simp [e]
theorem opA_pick {P:Program}{st:AE.Stat}{call:CallA}{ev:Operand->Value}{o:Oper}{c a b:Operand}{σ:Heap}(ho:o.op=.pick c a b) (hc:constsOk o.op=true) :
  opA P st call ev o σ=match ev c with | .bool t=>some (if t then ev a else ev b,σ) | _=>none:=by
 have hp:peek P (execOp ev o)=match ev c with | .bool t=>some (.value (if t then ev a else ev b)) | _=>none:=by
  have hx:execOp ev o=(do pure (.value (if <- asBool (ev c) then ev a else ev b))):=by
   unfold execOp;rw [ho]
  rw [hx]
  cases ev c<;>rfl
 unfold opA;rw [if_pos hc];unfold peekA;rw [hp]
 by_cases hall:(o.op.operands.toList.all (fun x=>flat (ev x))&&!isSelect o.op)=true
 ·rw [if_pos hall,ho];simp only [specA]
  cases hv:ev c<;>try rfl
  rename_i t;simp only
  by_cases hf:flat (if t=true then ev a else ev b)=true
  ·simp only [hf,if_true]
  ·simp only [hf];rfl
 ·rw [if_neg hall,ho];rfl
end Go.AE
namespace Go.AE
open Go Go.RowKit
theorem Rel.bare {w0 w:World}(h:Below w0.heap.size w0 w) (H:HF):Rel w0 (fun _=>none) H w :=
 ⟨h,fun _ _ _ _ e=>(nomatch e),fun _ _ _ _ _ e _=>(nomatch e),fun _ _ _ _ _ _ _ _ _ e _ _ _=>(nomatch e)⟩
def flatFn (g:List Value->Option Value):List Value->Heap->Option (Value×Heap):=fun args σ=>(g args).map (·,σ)
theorem fnOk_of {P:Program}{w0:World}{f:FuncId}{F:List Value->Heap->Option (Value×Heap)}{g:List Value->Option Value}(hF:FnOk P w0 f F)
  (h:∀ args v,g args=some v->args.all flat=true/\flat v=true/\∃ σ,F args []=some (v,σ)):FnOk P w0 f (flatFn g):=by
 intro args σ v σ' hg;simp only [flatFn,Option.map_eq_some_iff,Prod.mk.injEq] at hg;obtain ⟨u,hg,rfl,rfl⟩:=hg;obtain ⟨hfa,hfv,σ2,hb⟩:=h args u hg
 refine ⟨Nat.le_refl _,fun ρ w args' hR _ hargs=>?_⟩
 have e:args'=args:=by
  apply List.ext_getElem hargs.1.symm
  intro i h1 h2;exact VR_flat (List.all_eq_true.1 hfa _ (List.getElem_mem h2)) (hargs.2 i _ _ (List.getElem?_eq_getElem h2) (List.getElem?_eq_getElem h1))
 subst e
 have hR0:Rel w0 (fun _=>none) (hp []) w:=.bare hR.below _
 have hargs0:VRL (fun _=>none) args' args':=⟨rfl,fun i v v' hv hv'=>by
  obtain rfl:=Option.some.inj (hv.symm.trans hv');exact flat_VR _ (List.all_eq_true.1 hfa _ (List.mem_of_getElem? hv))⟩
 refine ((hF _ _ _ _ hb).2 (fun _=>none) w args' hR0 (fun _ _ _=>rfl) hargs0).mono fun e w' he=>?_
 obtain ⟨v',rfl,ρ',hn,hv⟩:=he;have ev:v'=u:=VR_flat hfv hv;subst ev
 have hun:∀ k,k<w.heap.size->w'.heap[k]?=w.heap[k]?:=fun k hk=>hn.fr.fr k hk fun ⟨_,_,_,_,e1,_⟩=>(nomatch e1)
 refine ⟨v',rfl,ρ,⟨Nat.le_refl _,.refl _ _ _,⟨hn.fr.size,fun k hk _=>hun k hk,fun k hk _=>hk⟩,⟨hn.rel.below,fun id b base n e=>?_,fun id b base n blk e1 e2=>?_,hR.inj⟩⟩,flat_VR ρ hfv⟩
 ·have:=hR.dyn id b base n e;have:=hn.fr.size;omega
 ·obtain ⟨o,ho,hc⟩:=hR.cont id b base n blk e1 e2;exact ⟨o,(hun b (hR.dyn id b base n e1).2).trans ho,hc⟩
end Go.AE
namespace Go.AE
open Go Go.RowKit
inductive Tr (A:Type) where
 | leaf
 | node (l:Tr A) (x:Option A) (r:Tr A)
section
variable {A:Type}{α:Type}
noncomputable def Tr.get (t:Tr A):Nat->Option A :=
 Tr.rec (fun _=>none) (fun _ x _ gl gr i=>bif Nat.beq i 0 then x else bif Nat.beq (Nat.mod i 2) 1 then gl (Nat.div i 2) else gr (Nat.sub (Nat.div i 2) 1)) t
noncomputable def Tr.single (x:Option A):Nat->Nat->(Tr A->Option α)->Option α :=
 fun n=>Nat.rec (fun _ _=>none) (fun _ ih i k=>bif Nat.beq i 0 then k (.node .leaf x .leaf) else bif Nat.beq (Nat.mod i 2) 1 then ih (Nat.div i 2) fun l=>k (.node l none .leaf) else ih (Nat.sub (Nat.div i 2) 1) fun r=>k (.node .leaf none r)) n
noncomputable def Tr.put (x:Option A) (t:Tr A):Nat->(Tr A->Option α)->Option α :=
 Tr.rec (fun i k=>Tr.single x 64 i k) (fun l y r pl pr i k=>bif Nat.beq i 0 then k (.node l x r) else bif Nat.beq (Nat.mod i 2) 1 then pl (Nat.div i 2) fun l'=>k (.node l' y r) else pr (Nat.sub (Nat.div i 2) 1) fun r'=>k (.node l y r')) t
theorem Tr.get_node (l r:Tr A) (x:Option A) (i:Nat):(Tr.node l x r).get i=if i=0 then x else if i % 2=1 then l.get (i / 2) else r.get (i / 2-1):=by
 show (bif Nat.beq i 0 then x else bif Nat.beq (Nat.mod i 2) 1 then l.get (Nat.div i 2) else r.get (Nat.sub (Nat.div i 2) 1))=_
 by_cases h:i=0
 ·subst h; rfl
 ·have h1:Nat.beq i 0=false:=by cases i<;>first | exact absurd rfl h | rfl
  rw [h1,if_neg h]
  by_cases h2:i % 2=1
  ·have:Nat.beq (Nat.mod i 2) 1=true:=by rw [show Nat.mod i 2=i % 2 from rfl,h2]; rfl
   rw [this,if_pos h2]; rfl
  ·have:Nat.beq (Nat.mod i 2) 1=false:=by
    cases hb:Nat.beq (Nat.mod i 2) 1 with
    | false=>rfl
    | true=>exact absurd (Nat.eq_of_beq_eq_true hb) h2
   rw [this,if_neg h2]; rfl
theorem Tr.get_leaf (i:Nat):(Tr.leaf:Tr A).get i=none:=rfl
theorem bif3 {i:Nat}{x y z:Option α}{r:α}(h:(bif Nat.beq i 0 then x else bif Nat.beq (Nat.mod i 2) 1 then y else z)=some r) :
  (i=0/\x=some r)\/(i≠0/\i % 2=1/\y=some r)\/(i≠0/\i % 2≠1/\z=some r):=by
 cases h0:Nat.beq i 0 with
 | true=>rw [h0] at h; exact .inl ⟨Nat.eq_of_beq_eq_true h0,h⟩
 | false =>
  rw [h0] at h;have hi:i≠0:=Nat.ne_of_beq_eq_false h0
  cases h1:Nat.beq (Nat.mod i 2) 1 with
  | true=>rw [h1] at h; exact .inr (.inl ⟨hi,Nat.eq_of_beq_eq_true h1,h⟩)
  | false=>rw [h1] at h; exact .inr (.inr ⟨hi,Nat.ne_of_beq_eq_false h1,h⟩)
theorem Tr.single_some {x:Option A}{r:α}:∀ {n i:Nat}{k:Tr A->Option α},Tr.single x n i k=some r->∃ t,k t=some r/\∀ j,t.get j=if j=i then x else none
 | 0,i,k,h=>by cases h
 | n+1,i,k,h=>by
  rcases bif3 h with ⟨rfl,h⟩ | ⟨h0,h1,h⟩ | ⟨h0,h1,h⟩
  ·refine ⟨_,h,fun j=>?_⟩
   rw [Tr.get_node]
   by_cases e:j=0<;>simp [e,Tr.get_leaf]
  ·obtain ⟨t,h,hg⟩:=Tr.single_some (n:=n) h
   refine ⟨_,h,fun j=>?_⟩
   rw [Tr.get_node,hg];have:Nat.div i 2=i / 2:=rfl;rw [this]
   by_cases e:j=i
   ·subst e; simp [h0,h1]
   ·rw [if_neg e];split
    ·rfl
    ·split
     ·rw [if_neg (by omega)]
     ·exact Tr.get_leaf _
  ·obtain ⟨t,h,hg⟩:=Tr.single_some (n:=n) h
   refine ⟨_,h,fun j=>?_⟩
   rw [Tr.get_node,hg];have:Nat.sub (Nat.div i 2) 1=i / 2-1:=rfl;rw [this]
   by_cases e:j=i
   ·subst e; simp [h0,h1]
   ·rw [if_neg e];split
    ·rfl
    ·split
     ·exact Tr.get_leaf _
     ·rw [if_neg (by omega)]
theorem Tr.put_some {x:Option A}{r:α}:∀ {t:Tr A}{i:Nat}{k:Tr A->Option α},Tr.put x t i k=some r->∃ t',k t'=some r/\∀ j,t'.get j=if j=i then x else t.get j
 | .leaf,i,k,h=>Tr.single_some (n:=64) (show Tr.single x 64 i k=some r from h)
 | .node l y rr,i,k,h=>by
  rcases bif3 h with ⟨rfl,h⟩ | ⟨h0,h1,h⟩ | ⟨h0,h1,h⟩
  ·refine ⟨_,h,fun j=>?_⟩
   rw [Tr.get_node,Tr.get_node]
   by_cases e:j=0<;>simp [e]
  ·obtain ⟨t,h,hg⟩:=Tr.put_some (t:=l) h
   refine ⟨_,h,fun j=>?_⟩
   rw [Tr.get_node,Tr.get_node,hg];have:Nat.div i 2=i / 2:=rfl;rw [this]
   by_cases e:j=i
   ·subst e; simp [h0,h1]
   ·rw [if_neg e];split
    ·rfl
    ·split
     ·rw [if_neg (by omega)]
     ·rfl
  ·obtain ⟨t,h,hg⟩:=Tr.put_some (t:=rr) h
   refine ⟨_,h,fun j=>?_⟩
   rw [Tr.get_node,Tr.get_node,hg];have:Nat.sub (Nat.div i 2) 1=i / 2-1:=rfl;rw [this]
   by_cases e:j=i
   ·subst e; simp [h0,h1]
   ·rw [if_neg e];split
    ·rfl
    ·split
     ·rfl
     ·rw [if_neg (by omega)]
end
section
variable {β:Type}
def fN (n:Nat) (k:Nat->β):β:=match n with
 | 0=>k 0
 | n+1=>k (Nat.succ n)
def fI (i:Int) (k:Int->β):β:=match i with
 | .ofNat n=>fN n fun n=>k (.ofNat n)
 | .negSucc n=>fN n fun n=>k (.negSucc n)
def fB (b:Bool) (k:Bool->β):β:=match b with
 | true=>k true
 | false=>k false
def fQ (q:IntKind) (k:IntKind->β):β:=match q with
 | .i8=>k .i8 | .i16=>k .i16 | .i32=>k .i32 | .i64=>k .i64 | .u8=>k .u8 | .u16=>k .u16 | .u32=>k .u32 | .u64=>k .u64
def fO (o:Option Nat) (k:Option Nat->β):β:=match o with
 | none=>k none
 | some n=>fN n fun n=>k (some n)
def fA (a:Addr) (k:Addr->β):β:=match a with
 | ⟨b,o,s⟩=>fN b fun b=>fN o fun o=>fO s fun s=>k ⟨b,o,s⟩
def fL {A:Type}(f:A->(A->β)->β):List A->(List A->β)->β
 | [],k=>k []
 | x :: r,k=>f x fun x=>fL f r fun r=>k (x :: r)
def fU (u:UInt8) (k:UInt8->β):β:=fN u.toNat fun n=>k (UInt8.ofNat n)
def fS (s:ByteArray) (k:ByteArray->β):β:=match s with
 | ⟨⟨l⟩⟩=>fL fU l fun l=>k ⟨⟨l⟩⟩
def fD:Nat->Value->(Value->β)->β
 | 0,v,k=>k v
 | n+1,v,k=>match v with
  | .bool b=>fB b fun b=>k (.bool b)
  | .int q i=>fQ q fun q=>fI i fun i=>k (.int q i)
  | .string s=>fS s fun s=>k (.string s)
  | .pointer none=>k (.pointer none)
  | .pointer (some a)=>fA a fun a=>k (.pointer (some a))
  | .slice none l c=>fN l fun l=>fN c fun c=>k (.slice none l c)
  | .slice (some a) l c=>fA a fun a=>fN l fun l=>fN c fun c=>k (.slice (some a) l c)
  | .map r=>fO r fun r=>k (.map r)
  | .func f ⟨x⟩ ⟨y⟩=>fL (fD n) x fun x=>fL (fD n) y fun y=>k (.func f ⟨x⟩ ⟨y⟩)
  | .iface t v=>fD n v fun v=>k (.iface t v)
  | .agg ⟨x⟩=>fL (fD n) x fun x=>k (.agg ⟨x⟩)
  | .tuple ⟨x⟩=>fL (fD n) x fun x=>k (.tuple ⟨x⟩)
  | v=>k v
def fV (v:Value) (k:Value->β):β:=fD 4 v k
def fP (p:Value×Value) (k:Value×Value->β):β:=match p with
 | (a,b)=>fV a fun a=>fV b fun b=>k (a,b)
def fBlk (b:Blk) (k:Blk->β):β:=match b with
 | .cells l=>fL (fun x k=>k x) l fun l=>k (.cells l)
 | .map es=>fL (fun x k=>k x) es fun es=>k (.map es)
 | .pmap q l=>fL (fun x k=>k x) l fun l=>k (.pmap q l)
 | .iter s p=>fN p fun p=>k (.iter s p)
 | .loop τ ps a b s p=>k (.loop τ ps a b s p)
def fNew (b:Blk) (k:Blk->β):β:=match b with
 | .cells l=>fL fV l fun l=>k (.cells l)
 | .map es=>fL fP es fun es=>k (.map es)
 | .pmap q l=>fL fP l fun l=>k (.pmap q l)
 | .iter s p=>fS s fun s=>fN p fun p=>k (.iter s p)
 | .loop ⟨l⟩ ps a b s p=>fL fV l fun l=>k (.loop ⟨l⟩ ps a b s p)
theorem fN_eq (n:Nat) (k:Nat->β):fN n k=k n:=by cases n<;>rfl
theorem fI_eq (i:Int) (k:Int->β):fI i k=k i:=by cases i<;>simp [fI,fN_eq]
theorem fB_eq (i:Bool) (k:Bool->β):fB i k=k i:=by cases i<;>rfl
theorem fQ_eq (i:IntKind) (k:IntKind->β):fQ i k=k i:=by cases i<;>rfl
theorem fO_eq (i:Option Nat) (k:Option Nat->β):fO i k=k i:=by cases i<;>simp [fO,fN_eq]
theorem fA_eq (i:Addr) (k:Addr->β):fA i k=k i:=by cases i; simp [fA,fN_eq,fO_eq]
theorem fL_eq {A:Type}{f:A->(A->β)->β}(h:∀ x k,f x k=k x):∀ (l:List A) (k:List A->β),fL f l k=k l
 | [],k=>rfl
 | x :: r,k=>by simp only [fL,h,fL_eq h r]
theorem fU_eq (i:UInt8) (k:UInt8->β):fU i k=k i:=by simp [fU,fN_eq]
theorem fS_eq (i:ByteArray) (k:ByteArray->β):fS i k=k i:=by obtain ⟨⟨l⟩⟩:=i; simp [fS,fL_eq fU_eq]
theorem fD_eq:∀ (n:Nat) (v:Value) (k:Value->β),fD n v k=k v
 | 0,v,k=>rfl
 | n+1,v,k=>by
  have ih:∀ (v:Value) (k:Value->β),fD n v k=k v:=fD_eq n;cases v
  case pointer a=>cases a<;>simp [fD,fA_eq]
  case slice a l c=>cases a<;>simp [fD,fA_eq,fN_eq]
  case func f x y=>obtain ⟨x⟩:=x; obtain ⟨y⟩:=y; simp [fD,fL_eq ih]
  case agg x=>obtain ⟨x⟩:=x; simp [fD,fL_eq ih]
  case tuple x=>obtain ⟨x⟩:=x; simp [fD,fL_eq ih]
  all_goals simp [fD,fB_eq,fQ_eq,fI_eq,fS_eq,fO_eq,ih]
theorem fV_eq (v:Value) (k:Value->β):fV v k=k v:=fD_eq 4 v k
theorem fBlk_eq (b:Blk) (k:Blk->β):fBlk b k=k b:=by
 cases b
 case cells l=>simp [fBlk,fL_eq (f:=fun x k=>k x) (fun _ _=>rfl)]
 case map l=>simp [fBlk,fL_eq (f:=fun x k=>k x) (fun _ _=>rfl)]
 case pmap q l=>simp [fBlk,fL_eq (f:=fun x k=>k x) (fun _ _=>rfl)]
 case iter s p=>simp [fBlk,fN_eq]
 case loop=>rfl
theorem fP_eq (p:Value×Value) (k:Value×Value->β):fP p k=k p:=by obtain ⟨a,b⟩:=p; simp [fP,fV_eq]
theorem fNew_eq (b:Blk) (k:Blk->β):fNew b k=k b:=by
 cases b
 case loop τ ps a b s p=>obtain ⟨l⟩:=τ; simp [fNew,fL_eq fV_eq]
 all_goals simp [fNew,fL_eq fV_eq,fL_eq fP_eq,fS_eq,fN_eq]
end
end Go.AE
