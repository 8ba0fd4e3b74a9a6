/-
 Each operation of the evaluator is an operation of the model.
 Conditions: see the theorems.
-/
import Derived.Test.YtigmkgampfbflaaGreatDoorAeRel
import Derived.RangeFuncRecord
import Derived.OrdersIn
import Derived.TacticsIn
import Derived.LoopNIn
import Derived.Laws.MakeOwn
import Derived.Laws.AppendOwn
namespace Go.AE
open Go Go.RowKit
theorem peek_run {α:Type}{P:Program}{e:Sem α}{a:α}(h:peek P e=some a) (w:World):e.run P w=.ok a w:=by
 induction e with
 | pure x=>simp only [peek,Option.some.injEq] at h; subst h; rfl
 | program k ih=>exact ih P h
 | mark m k ih=>exact ih h
 | _=>simp [peek] at h
def OpOut (w0:World) (ρ:Ren) (σ:Heap) (w:World) (v:Value) (σ':Heap) (v':Value) (w':World):Prop:=∃ ρ',Nxt w0 ρ σ w ρ' σ' w'/\VR ρ' v v'
def FnOk (P:Program) (w0:World) (f:FuncId) (g:List Value->Heap->Option (Value×Heap)):Prop :=
 ∀ args σ v σ',g args σ=some (v,σ')->σ.length<=σ'.length/\∀ ρ w args',Rel w0 ρ (hp σ) w->Fresh ρ σ.length σ'.length->VRL ρ args args' ->
  Calls P f args'.toArray w fun e w'=>∃ v',e=.returned v'/\OpOut w0 ρ σ w v σ' v' w'
def CallOk (P:Program) (w0:World) (call:CallA):Prop:=∀ f,FnOk P w0 f (call f)
def RndOk (P:Program) (w0:World) (l:Nat) (g:List Value->Heap->Option (Value×Heap)):Prop :=
 ∀ args σ v σ',g args σ=some (v,σ')->σ.length<=σ'.length/\∀ ρ w args' l' x y,Rel w0 ρ (hp σ) w->Fresh ρ σ.length σ'.length->VRL ρ args args'->ρ l=some (l',x,y) ->
  ∃ fn tmps asg body,(Instr.yield l' args'.toArray).run P w=.ok (.round l' fn tmps asg body) w/\RoundIn Fence.wide 0 P l' fn tmps asg body w fun e w'=>∃ v',e=.returned v'/\OpOut w0 ρ σ w v σ' v' w'
structure RunOk (P:Program) (w0:World) (call:CallA):Prop where
 fn:∀ f,P.funcs[f]?.isSome=true->FnOk P w0 f (call f)
 rnd:∀ l,RndOk P w0 l (call (P.funcs.size+l))
theorem RunOk.len {P:Program}{w0:World}{call:CallA}(h:RunOk P w0 call) {f:FuncId}{args:List Value}{σ σ':Heap}{v:Value}(hc:call f args σ=some (v,σ')):σ.length<=σ'.length:=by
 by_cases hf:f<P.funcs.size
 ·exact (h.fn f (by rw [Array.getElem?_eq_getElem hf]; rfl) args σ v σ' hc).1
 ·have e:f=P.funcs.size+Nat.sub f P.funcs.size:=(Nat.add_sub_of_le (Nat.le_of_not_lt hf)).symm;rw [e] at hc;exact (h.rnd _ args σ v σ' hc).1
section
variable {P:Program}{w0:World}{ρ:Ren}{w:World}
theorem OpOut.same {σ:Heap}{v v':Value}(hR:Rel w0 ρ (hp σ) w) (h:VR ρ v v'):OpOut w0 ρ σ w v σ v' w:=⟨ρ,.refl hR,h⟩
theorem run_isAgg {t:TypeId}{d:TypeDesc}(h:P.underlying t=some d) (w:World):(isAgg t).run P w=.ok (aggDesc d) w:=by
 unfold isAgg;simp only [Sem.run_bind,run_underlying h,Result.andThen_ok]
 cases d<;>rfl
theorem run_sizeOf' {t:TypeId}{n:Nat}(h:sizeA P t=some n) (w:World):(sizeOf t).run P w=.ok n w:=by
 unfold sizeA at h
 cases hi:P.info? t with
 | none=>simp [hi] at h
 | some i =>
  simp only [hi,Option.map_some,Option.some.injEq] at h;simp [sizeOf,typeInfo,hi,h]
theorem run_zeroValue {t:TypeId}{z:Value}(h:zeroA P t=some z) (w:World):(zeroValue t).run P w=.ok z w/\flat z=true:=by
 unfold zeroA at h
 cases hi:P.info? t with
 | none=>simp [hi] at h
 | some i =>
  cases hz:i.zero with
  | none=>simp [hi,hz] at h
  | some z' =>
   simp only [hi,hz] at h;split at h
   ·rename_i hf;simp only [Option.some.injEq] at h;subst h
    exact ⟨by simp [zeroValue,typeInfo,hi,hz],hf⟩
   ·cases h
theorem loadV_sound {st:Stat}{σ:Heap}{t:TypeId}{a a':Addr}{v:Value}(hst:GoodSt w0 st) (hR:Rel w0 ρ (hp σ) w) (ha:addrOk ρ a a') (h:loadV P st σ t a=some v) :
  ∃ v',(loadVar t a').run P w=.ok v' w/\VR ρ v v':=by
 unfold loadV at h
 cases hd:P.underlying t with
 | none=>simp [hd] at h
 | some d =>
  simp only [hd] at h;unfold loadVar;simp only [Sem.run_bind,run_isAgg hd,Result.andThen_ok]
  cases hag:aggDesc d with
  | true =>
   simp only [hag,if_true] at h ⊢
   cases hs:sizeA P t with
   | none=>simp [hs] at h
   | some n =>
    simp only [hs,Option.map_eq_some_iff] at h;obtain ⟨l,hl,rfl⟩:=h;obtain ⟨l',hn,hv,hc⟩:=loadN_sound hst hR ha hl;have hrun:=run_loadCells_list (P:=P) w a' l' hc;rw [hn] at hrun
    exact ⟨.agg l'.toArray,by simp [run_sizeOf' hs,hrun],.agg' (.mk_list hv)⟩
  | false =>
   simp only [hag,Bool.false_eq_true,if_false] at h ⊢;split at h
   ·rename_i u hl;obtain rfl:=Option.some.inj h;obtain ⟨l',hn,hv,hc⟩:=loadN_sound hst hR ha hl;obtain ⟨u',k,rfl,hu,_⟩:=hv.cons_inv;have h0:=hc 0 u' rfl;rw [Addr.add_zero'] at h0
    exact ⟨u',by simp [h0],hu⟩
   ·cases h
theorem storeV_sound {σ σ':Heap}{t:TypeId}{a a':Addr}{v v':Value}(hR:Rel w0 ρ (hp σ) w) (ha:addrOk ρ a a') (hv:VR ρ v v') (h:storeV P σ t a v=some σ') :
  ∃ w',(storeVar t a' v').run P w=.ok () w'/\Nxt w0 ρ σ w ρ σ' w':=by
 unfold storeV at h
 cases hs:sizeA P t with
 | none=>simp [hs] at h
 | some n =>
  simp only [hs] at h;split at h
  ·rename_i hn;have hc:=hv.cells_any;obtain ⟨w',hrun,hnx⟩:=storeN_sound hR ha hc h
   have hsz:v'.cells.size=n:=by have:=hc.1; simp at this; omega
   exact ⟨w',by simp [storeVar,run_sizeOf' hs,hsz,hrun P],hnx⟩
  ·cases h
theorem newB_out {σ:Heap}{l l':List Value}{ty:TypeId}(hR:Rel w0 ρ (hp σ) w) (hf:Fresh ρ σ.length (newB σ l).2.length) (hv:VRL ρ l l') :
  ∃ ρ',Nxt w0 ρ σ w ρ' (newB σ l).2 { w with heap:=w.heap.push (.cells l'.toArray ty) }/\addrOk ρ' (newB σ l).1 ⟨w.heap.size,0,none⟩/\ρ.le ρ'/\ρ' σ.length=some (w.heap.size,0,l'.length):=by
 have hfr:ρ σ.length=none:=hf _ (Nat.le_refl _) (by simp [newB])
 have:=newB_sound (ty:=ty) (cs:=l'.toArray) (l:=l) hR hfr (by simp [hv.1]) (fun i v hi=>let ⟨v',a,b⟩:=hv.get hi; ⟨v',by simpa using a,b⟩)
 refine ⟨_,this,⟨rfl,.inr ⟨rfl,w.heap.size,0,_,by simp [newB,Ren.put]; rfl,rfl,rfl⟩⟩,Ren.le_put hfr,by simp [Ren.put]⟩
def OptR (ρ:Ren):Option Value->Option Value->Prop
 | none,none=>True
 | some v,some v'=>VR ρ v v'
 | _,_=>False
theorem run_sliceBound {x x':Value}{y y' k:Nat}(c:BoundsCode) (hv:VR ρ x x') (hy:y<=y') (h:boundA x y=some k) (w:World) :
  (Instr.sliceBound x' y' c).run P w=.ok k w/\k<=y:=by
 cases hv with
 | int kd i =>
  simp only [boundA] at h;split at h
  ·rename_i hb;obtain rfl:=Option.some.inj h
   have:0<=i/\i<=(y':Int):=by omega
   exact ⟨by simp [Instr.sliceBound,asIntOf,this],by omega⟩
  ·cases h
 | _=>simp [boundA] at h
def maxOf (mx:Option Value) (m c:Nat):Nat :=
 match mx with
 | some _=>m
 | none=>c
theorem maxOf_eq {len c:Nat}{lo hi mx:Option Value}{l h m:Nat}(e:boundsA len c lo hi mx=some (l,h,m)):maxOf mx m c=m:=by
 cases mx with
 | some _=>rfl
 | none=>unfold boundsA at e; simp only at e; (repeat' split at e)<;>simp_all [maxOf]
theorem run_sliceBounds {isSlice:Bool}{len c c':Nat}{lo hi mx lo' hi' mx':Option Value}{l h m:Nat}(hl:OptR ρ lo lo') (hh:OptR ρ hi hi') (hm:OptR ρ mx mx') (hc:c<=c') (hlen:len<=c)
  (e:boundsA len c lo hi mx=some (l,h,m)) (w:World) :
  (Instr.sliceBounds isSlice len c' lo' hi' mx').run P w=.ok (l,h,maxOf mx m c') w/\l<=h/\h<=m/\m<=c:=by
 unfold boundsA at e;unfold Instr.sliceBounds
 cases mx with
 | none =>
  cases mx' with
  | some _=>exact hm.elim
  | none =>
   simp only at e
   cases hi with
   | none =>
    cases hi' with
    | some _=>exact hh.elim
    | none =>
     simp only at e
     cases lo with
     | none =>
      cases lo' with
      | some _=>exact hl.elim
      | none =>
       simp only [Option.some.injEq,Prod.mk.injEq] at e;obtain ⟨rfl,rfl,rfl⟩:=e
       exact ⟨by simp [maxOf],Nat.zero_le _,hlen,Nat.le_refl _⟩
     | some v =>
      cases lo' with
      | none=>exact hl.elim
      | some v' =>
       simp only at e
       cases hb:boundA v len with
       | none=>simp [hb] at e
       | some k =>
        simp only [hb,Option.some.injEq,Prod.mk.injEq] at e;obtain ⟨rfl,rfl,rfl⟩:=e;obtain ⟨hr,hk⟩:=run_sliceBound (P:=P) .sliceB hl (Nat.le_refl _) hb w
        exact ⟨by simp [hr,maxOf],hk,hlen,Nat.le_refl _⟩
   | some u =>
    cases hi' with
    | none=>exact hh.elim
    | some u' =>
     simp only at e
     cases hb:boundA u c with
     | none=>simp [hb] at e
     | some k =>
      simp only [hb] at e
      obtain ⟨hr,hk⟩:=run_sliceBound (P:=P) (if isSlice then .sliceAcap else .sliceAlen) hh hc hb w
      cases lo with
      | none =>
       cases lo' with
       | some _=>exact hl.elim
       | none =>
        simp only [Option.some.injEq,Prod.mk.injEq] at e;obtain ⟨rfl,rfl,rfl⟩:=e
        exact ⟨by simp [hr,maxOf],Nat.zero_le _,hk,Nat.le_refl _⟩
      | some v =>
       cases lo' with
       | none=>exact hl.elim
       | some v' =>
        simp only at e
        cases hb2:boundA v k with
        | none=>simp [hb2] at e
        | some k2 =>
         simp only [hb2,Option.some.injEq,Prod.mk.injEq] at e;obtain ⟨rfl,rfl,rfl⟩:=e;obtain ⟨hr2,hk2⟩:=run_sliceBound (P:=P) .sliceB hl (Nat.le_refl _) hb2 w
         exact ⟨by simp [hr,hr2,maxOf],hk2,hk,Nat.le_refl _⟩
 | some z =>
  cases mx' with
  | none=>exact hm.elim
  | some z' =>
   simp only at e
   cases hb0:boundA z c with
   | none=>simp [hb0] at e
   | some m0 =>
    simp only [hb0] at e
    obtain ⟨hr0,hk0⟩:=run_sliceBound (P:=P) (if isSlice then .slice3Acap else .slice3Alen) hm hc hb0 w
    cases hi with
    | none=>simp at e
    | some u =>
     cases hi' with
     | none=>exact hh.elim
     | some u' =>
      simp only at e
      cases hb:boundA u m0 with
      | none=>simp [hb] at e
      | some k =>
       simp only [hb] at e;obtain ⟨hr,hk⟩:=run_sliceBound (P:=P) .slice3B hh (Nat.le_refl _) hb w
       cases lo with
       | none =>
        cases lo' with
        | some _=>exact hl.elim
        | none =>
         simp only [Option.some.injEq,Prod.mk.injEq] at e;obtain ⟨rfl,rfl,rfl⟩:=e
         exact ⟨by simp [hr0,hr,maxOf],Nat.zero_le _,hk,hk0⟩
       | some v =>
        cases lo' with
        | none=>exact hl.elim
        | some v' =>
         simp only at e
         cases hb2:boundA v k with
         | none=>simp [hb2] at e
         | some k2 =>
          simp only [hb2,Option.some.injEq,Prod.mk.injEq] at e;obtain ⟨rfl,rfl,rfl⟩:=e;obtain ⟨hr2,hk2⟩:=run_sliceBound (P:=P) .slice3C hl (Nat.le_refl _) hb2 w
          exact ⟨by simp [hr0,hr,hr2,maxOf],hk2,hk,hk0⟩
theorem mul_room {base off l n size N:Nat}(h:base+off+n*size<=N) (hl:l<=n):base+(off+l*size)+(n-l)*size<=N:=by
 have e:l*size+(n-l)*size=n*size:=by rw [<- Nat.add_mul]; congr 1; omega
 omega
theorem sliceA_sound {t:TypeId}{x x' v:Value}{lo hi mx lo' hi' mx':Option Value}(hx:VR ρ x x') (hl:OptR ρ lo lo') (hh:OptR ρ hi hi') (hm:OptR ρ mx mx')
  (h:sliceA P t x lo hi mx=some v) (w:World):∃ v',(Instr.sliceAt t x' lo' hi' mx').run P w=.ok v' w/\VR ρ v v':=by
 unfold sliceA at h;split at h
 ·rename_i e base len cap hd
  cases hs:sizeA P e with
  | none=>simp [hs] at h
  | some size =>
   simp only [hs] at h
   have go:∀ {base':Option Addr}{cap' l k m:Nat},(Instr.sliceBounds true len cap' lo' hi' mx').run P w=.ok (l,k,m) w ->
     (Instr.sliceAt t (.slice base' len cap') lo' hi' mx').run P w=.ok (.slice (if m=l then base' else base'.map (·.add (l*size))) (k-l) (m-l)) w:=by
    intro base' cap' l k m hb;simp [Instr.sliceAt,Instr.slice,run_underlying hd,hb,run_sizeOf' hs]
   by_cases hc:cap<unk
   ·simp only [hc,if_true] at h
    cases hbd:boundsA len cap lo hi mx with
    | none=>simp [hbd] at h
    | some r =>
     obtain ⟨l,k,m⟩:=r;simp only [hbd,Option.some.injEq] at h;subst h
     cases hx with
     | snil =>
      obtain ⟨hr,h1,h2,h3⟩:=run_sliceBounds (P:=P) (isSlice:=true) hl hh hm (Nat.le_refl 0) (Nat.le_refl 0) hbd w
      obtain rfl:m=0:=by omega
      obtain rfl:k=0:=by omega
      obtain rfl:l=0:=by omega
      rw [maxOf_eq hbd] at hr
      exact ⟨_,go hr,by simpa using VR.snil⟩
     | sliceX a a' _ _ h1' h2' h3' =>
      obtain ⟨hr,h1,h2,h3⟩:=run_sliceBounds (P:=P) (isSlice:=true) hl hh hm (Nat.le_refl cap) h2' hbd w;rw [maxOf_eq hbd] at hr;refine ⟨_,go hr,?_⟩
      by_cases hml:m=l
      ·simp only [hml,if_true]
       exact .sliceX a a' _ _ (by omega) (by omega) (.inl (by omega))
      ·simp only [hml,if_false,Option.map_some]
       exact .sliceX _ _ _ _ (by omega) (by omega) (h3'.imp (by omega) (·.add _))
     | sliceU a a' _ _ cap' sz h0 _ _ _=>omega
   ·simp only [hc,if_false] at h
    by_cases hc2:cap=unk+size
    ·simp only [hc2,ne_eq,not_true_eq_false,if_false] at h
     cases hx with
     | snil=>exact absurd hc (by unfold unk; omega)
     | sliceX a a' _ _ h1' h2' h3'=>omega
     | sliceU a a' _ _ cap' sz h0 h1' h2' h3' =>
      obtain rfl:sz=size:=by omega
      cases mx with
      | some z =>
       simp only at h
       cases hbd:boundsA len len lo hi (some z) with
       | none=>simp [hbd] at h
       | some r =>
        obtain ⟨l,k,m⟩:=r;simp only [hbd,Option.some.injEq] at h;subst h;obtain ⟨hr,h1,h2,h3⟩:=run_sliceBounds (P:=P) (isSlice:=true) hl hh hm h2' (Nat.le_refl len) hbd w;simp only [maxOf] at hr;refine ⟨_,go hr,?_⟩
        by_cases hml:m=l
        ·simp only [hml,if_true]
         exact .sliceX a a' _ _ (by omega) (by omega) (.inl (by omega))
        ·simp only [hml,if_false,Option.map_some]
         refine .sliceX _ _ _ _ (by omega) (by omega) ?_
         rcases h3' with h3' | ⟨h3',_⟩
         ·exact .inl (by omega)
         ·exact .inr (h3'.add _)
      | none =>
       simp only at h
       cases hbd:boundsA len len lo hi none with
       | none=>simp [hbd] at h
       | some r =>
        obtain ⟨l,k,m⟩:=r;simp only [hbd,Option.some.injEq] at h;subst h;obtain ⟨hr,h1,h2,h3⟩:=run_sliceBounds (P:=P) (isSlice:=true) hl hh hm h2' (Nat.le_refl len) hbd w;simp only [maxOf] at hr;refine ⟨_,go hr,?_⟩;simp only [Option.map_some]
        by_cases hml:cap'=l
        ·simp only [hml,if_true]
         exact .sliceU _ a' _ _ _ sz rfl (by omega) (by omega) (.inl (by omega))
        ·simp only [hml,if_false]
         refine .sliceU _ _ _ _ _ sz rfl (by omega) (by omega) ?_
         rcases h3' with h3' | ⟨ha,hs',b,base,n,hb,hn⟩
         ·exact .inl (by omega)
         ·exact .inr ⟨ha.add _,hs',b,base,n,hb,mul_room hn (by omega)⟩
    ·simp [hc2] at h
 ·rename_i n e a hd
  cases hs:sizeA P e with
  | none=>simp [hs] at h
  | some size =>
   simp only [hs] at h;split at h
   ·rename_i hn
    cases hbd:boundsA n n lo hi mx with
    | none=>simp [hbd] at h
    | some r =>
     obtain ⟨l,k,m⟩:=r;simp only [hbd,Option.some.injEq] at h;subst h
     cases hx with
     | ptr _ a' ha =>
      obtain ⟨hr,h1,h2,h3⟩:=run_sliceBounds (P:=P) (isSlice:=false) hl hh hm (Nat.le_refl n) (Nat.le_refl n) hbd w;rw [maxOf_eq hbd] at hr
      refine ⟨.slice (some (if m=l then a' else a'.add (l*size))) (k-l) (m-l),by simp [Instr.sliceAt,run_underlying hd,Instr.sureAddr,hr,run_sizeOf' hs],?_⟩
      by_cases hml:m=l
      ·simp only [hml,if_true]
       exact .sliceX a a' _ _ (by omega) (by omega) (.inl (by omega))
      ·simp only [hml,if_false]
       exact .sliceX _ _ _ _ (by omega) (by omega) (.inr (ha.add _))
   ·cases h
 ·cases h
theorem indexAddrA_sound {t:TypeId}{x x' i i' v:Value}(hx:VR ρ x x') (hi:VR ρ i i') (h:indexAddrA P t x i=some v) (w:World) :
  ∃ v',(Instr.indexAt t x' i').run P w=.ok v' w/\VR ρ v v':=by
 unfold indexAddrA at h;split at h
 ·rename_i kd n
  cases hi with
  | int _ _ =>
  split at h
  ·rename_i len e a hd
   cases hx with
   | ptr _ a' ha =>
    cases hs:sizeA P e with
    | none=>simp [hs] at h
    | some size =>
     simp only [hs] at h;split at h
     ·rename_i hb;obtain rfl:=Option.some.inj h
      exact ⟨_,by simp [Instr.indexAt,asIntOf,run_underlying hd,Instr.sureAddr,hb,run_sizeOf' hs],.ptr _ _ (ha.add _)⟩
     ·cases h
  ·rename_i e a len cap hd
   cases hs:sizeA P e with
   | none=>simp [hs] at h
   | some size =>
    simp only [hs] at h;split at h
    ·rename_i hb;obtain rfl:=Option.some.inj h
     have go:∀ (a':Addr) (c:Nat),addrOk ρ a a'->∃ v',(Instr.indexAt t (.slice (some a') len c) (.int kd n)).run P w=.ok v' w/\VR ρ (.pointer (some (addA a (n.toNat*size)))) v':=by
      intro a' c ha
      exact ⟨_,by simp [Instr.indexAt,asIntOf,run_underlying hd,hb,run_sizeOf' hs],.ptr _ _ (ha.add _)⟩
     cases hx with
     | sliceX _ a' _ _ h1 h2 h3=>exact go a' cap (h3.resolve_left (by omega))
     | sliceU _ a' _ _ cap' sz h0 h1 h2 h3=>exact go a' cap' (h3.resolve_left (by omega)).1
    ·cases h
  ·cases h
 ·cases h
theorem fieldAddrA_sound {s:TypeId}{x x' v:Value}{f:Nat}(hx:VR ρ x x') (h:fieldAddrA P s x f=some v) (w:World) :
  ∃ v',(Instr.fieldAt s x' f).run P w=.ok v' w/\VR ρ v v':=by
 unfold fieldAddrA at h;split at h
 ·rename_i fields a hd
  cases hx with
  | ptr _ a' ha =>
   cases hf:fields[f]? with
   | none=>simp [hf] at h
   | some fd =>
    simp only [hf] at h;split at h
    ·rename_i n hs;obtain rfl:=Option.some.inj h
     exact ⟨_,by simp [Instr.fieldAt,run_underlying hd,hf,Instr.sureAddr,fieldPlace,run_sizeOf' hs],.ptr _ _ (ha.add _)⟩
    ·cases h
 ·cases h
theorem partA_sound {t:TypeId}{cs cs':Array Value}{off:Nat}{v:Value}(hc:VRA ρ cs cs') (h:partA P t cs off=some v) (w:World) :
  ∃ v',(part t cs' off).run P w=.ok v' w/\VR ρ v v':=by
 unfold partA at h;split at h
 ·rename_i d n hd hs;unfold part;simp only [Sem.run_bind,run_isAgg hd,Result.andThen_ok]
  cases hag:aggDesc d with
  | true =>
   simp only [hag,if_true,Option.some.injEq] at h ⊢;subst h
   refine ⟨.agg (cs'.extract off (off+n)),by simp [run_sizeOf' hs],.agg' (.of_list ?_)⟩
   have:=((VRL.of_array hc).take (off+n)).drop off
   have e:∀ x:Array Value,(x.extract off (off+n)).toList=(x.toList.take (off+n)).drop off:=by
    intro x;rw [Array.toList_extract,List.extract_eq_take_drop,List.drop_take]
   rw [e,e];exact this
  | false =>
   simp only [hag,Bool.false_eq_true,if_false] at h ⊢;obtain ⟨v',hv',hr⟩:=hc.get h
   exact ⟨v',by simp [hv'],hr⟩
 ·cases h
theorem fieldA_sound {t:TypeId}{x x' v:Value}{f:Nat}(hx:VR ρ x x') (h:fieldA P t x f=some v) (w:World) :
  ∃ v',(Instr.field t x' f).run P w=.ok v' w/\VR ρ v v':=by
 unfold fieldA at h;split at h
 ·rename_i fields cs hd
  cases hx with
  | agg _ cs' h1 h2 =>
   cases hf:fields[f]? with
   | none=>simp [hf] at h
   | some fd =>
    simp only [hf] at h;obtain ⟨v',hr,hv⟩:=partA_sound ⟨h1,h2⟩ h w
    exact ⟨v',by simp [Instr.field,run_underlying hd,hf,asAgg,hr],hv⟩
 ·cases h
theorem indexA_sound {t:TypeId}{x x' i i' v:Value}(hx:VR ρ x x') (hi:VR ρ i i') (h:indexA P t x i=some v) (w:World) :
  ∃ v',(Instr.index t x' i').run P w=.ok v' w/\VR ρ v v':=by
 unfold indexA at h;split at h
 ·rename_i kd n len e cs hd
  cases hi with
  | int _ _ =>
  cases hx with
  | agg _ cs' h1 h2 =>
   cases hs:sizeA P e with
   | none=>simp [hs] at h
   | some size =>
    simp only [hs] at h;split at h
    ·rename_i hb;obtain ⟨v',hr,hv⟩:=partA_sound ⟨h1,h2⟩ h w
     exact ⟨v',by simp [Instr.index,asIntOf,run_underlying hd,hb,run_sizeOf' hs,hr],hv⟩
    ·cases h
 ·cases h
end
end Go.AE
namespace Go.AE
open Go Go.RowKit
section
variable {P:Program}{w0:World}{ρ:Ren}{w:World}
theorem VRA.set {x x':Array Value}(h:VRA ρ x x') (i:Nat) {v v':Value}(hv:VR ρ v v'):VRA ρ (x.setIfInBounds i v) (x'.setIfInBounds i v'):=by
 refine ⟨by simp [h.1],fun k u u' hu hu'=>?_⟩
 rw [Array.getElem?_setIfInBounds] at hu hu'
 by_cases hk:i=k
 ·subst hk
  by_cases hi:i<x.size
  ·have hi':i<x'.size:=by rw [<- h.1]; exact hi
   simp [hi] at hu;simp [hi'] at hu'
   subst hu; subst hu'
   exact hv
  ·simp [hi] at hu
 ·rw [if_neg hk] at hu hu';exact h.2 k u u' hu hu'
theorem fill_step (off:Nat):∀ (l l':List Value) (k:Nat) (x x':Array Value),VRL ρ l l'->VRA ρ x x' ->
  VRA ρ ((l.zipIdx k).foldl (fun (cs:Array Value) (c,j)=>cs.setIfInBounds (off+j) c) x) ((l'.zipIdx k).foldl (fun (cs:Array Value) (c,j)=>cs.setIfInBounds (off+j) c) x')
 | [],l',k,x,x',hl,hx=>by rw [hl.nil_inv]; exact hx
 | v :: l,l',k,x,x',hl,hx=>by
  obtain ⟨v',m,rfl,hv,hm⟩:=hl.cons_inv;simp only [List.zipIdx_cons,List.foldl_cons];exact fill_step off l m (k+1) _ _ hm (hx.set _ hv)
def PartsR (ρ:Ren):List (Nat×Value)->List (Nat×Value)->Prop
 | [],[]=>True
 | (i,v) :: r,(j,u) :: s=>i=j/\VR ρ v u/\PartsR ρ r s
 | _,_=>False
theorem fill_sound (place:Nat->Option (Nat×Nat)):∀ (ps ps':List (Nat×Value)) (x x' out:Array Value),PartsR ρ ps ps'->VRA ρ x x'->Instr.fill place x ps=some out ->
  ∃ out',Instr.fill place x' ps'=some out'/\VRA ρ out out'
 | [],[],x,x',out,_,hx,h=>by
  simp only [Instr.fill,Option.some.injEq] at h ⊢;subst h;exact ⟨x',rfl,hx⟩
 | [],_ :: _,_,_,_,hp,_,_=>hp.elim
 | _ :: _,[],_,_,_,hp,_,_=>hp.elim
 | (i,v) :: r,(j,u) :: s,x,x',out,hp,hx,h=>by
  obtain ⟨rfl,hv,hr⟩:=hp;simp only [Instr.fill] at h ⊢
  cases hpl:place i with
  | none=>simp [hpl] at h
  | some os =>
   obtain ⟨off,size⟩:=os;simp only [hpl] at h ⊢;have hc:=hv.cells_any
   have hsz:u.cells.size=v.cells.size:=by have:=hc.1; simp at this; omega
   rw [hsz,<- hx.1];split at h
   ·cases h
   ·rename_i hn;rw [if_neg hn];refine fill_sound place r s _ _ out hr ?_ h
    have e:∀ (a:Array Value),a.zipIdx.foldl (fun (cs:Array Value) (c,j)=>cs.setIfInBounds (off+j) c)=fun x=>(a.toList.zipIdx 0).foldl (fun (cs:Array Value) (c,j)=>cs.setIfInBounds (off+j) c) x:=by
     intro a; funext x
     rw [<- Array.foldl_toList];simp
    have:=fill_step off v.cells.toList u.cells.toList 0 x x' hc hx;rw [<- Array.foldl_toList,<- Array.foldl_toList]
    simpa using this
theorem run_places (g:Field->Option Nat) (hg:∀ f n,g f=some n->∀ w,(sizeOf f.type).run P w=.ok n w):∀ (fs:List Field) (ps:List (Nat×Nat)) (w:World),
  fs.mapM (fun f=>(g f).map fun n=>(f.offset,n))=some ps->(fs.mapM (fun f=>do pure (f.offset,<- sizeOf f.type)):Sem _).run P w=.ok ps w
 | [],ps,w,h=>by
  simp only [List.mapM_nil] at h ⊢;cases h;rfl
 | f :: fs,ps,w,h=>by
  simp only [List.mapM_cons] at h ⊢
  cases hf:g f with
  | none=>simp [hf] at h
  | some n =>
   cases hr:fs.mapM (fun f=>(g f).map fun n=>(f.offset,n)) with
   | none=>simp [hf,hr] at h
   | some r =>
    simp [hf,hr] at h;subst h;have ih:=run_places g hg fs r w hr;simp only [Sem.run_bind,hg f n hf w,Result.andThen_ok,Sem.run_pure,ih]
theorem zeroA_cells {z:Value}(hf:flat z=true):VRA ρ z.cells z.cells:=.of_list (flat_VR ρ hf).cells_any
theorem buildA_sound {t:TypeId}{ps ps':Array (Nat×Value)}{v:Value}(hp:PartsR ρ ps.toList ps'.toList) (h:buildA P t ps.toList=some v) (w:World) :
  ∃ v',(Instr.build t ps').run P w=.ok v' w/\VR ρ v v':=by
 unfold buildA at h
 cases hz:zeroA P t with
 | none=>simp [hz] at h
 | some z =>
  simp only [hz] at h;obtain ⟨hzr,hzf⟩:=run_zeroValue hz w;have hzc:VRA ρ z.cells z.cells:=zeroA_cells hzf;unfold Instr.build;simp only [Sem.run_bind,hzr,Result.andThen_ok]
  cases hd:P.underlying t with
  | none=>simp [hd] at h
  | some d =>
   simp only [hd] at h;simp only [run_underlying hd,Result.andThen_ok]
   cases d<;>simp only at h<;>try cases h
   case array n e =>
    cases hs:sizeA P e with
    | none=>simp [hs] at h
    | some size =>
     simp only [hs,Option.map_eq_some_iff] at h;obtain ⟨cs,hcs,rfl⟩:=h;obtain ⟨cs',hcs',hv⟩:=fill_sound _ _ _ _ _ _ hp hzc hcs
     exact ⟨.agg cs',by simp [run_sizeOf' hs,hcs'],.agg' hv⟩
   case struct fields =>
    cases hm:fields.toList.mapM (fun f=>(sizeA P f.type).map fun n=>(f.offset,n)) with
    | none=>simp [hm] at h
    | some places =>
     simp only [hm,Option.map_eq_some_iff] at h;obtain ⟨cs,hcs,rfl⟩:=h;obtain ⟨cs',hcs',hv⟩:=fill_sound _ _ _ _ _ _ hp hzc hcs
     have hrun:=run_places (P:=P) (fun f=>sizeA P f.type) (fun f n hn w=>run_sizeOf' hn w) _ _ w hm
     refine ⟨.agg cs',?_,.agg' hv⟩
     have e:(fields.mapM (fun f=>do pure (f.offset,<- sizeOf f.type)):Sem (Array (Nat×Nat))).run P w=.ok places.toArray w:=by
      rw [<- Array.toArray_toList (xs:=fields),List.mapM_toArray];simp only [Sem.run_map,hrun,Result.andThen_ok]
     simp only [Sem.run_bind,e,Result.andThen_ok,hcs'];rfl
theorem zerosA_VRL {z:Value}(hf:flat z=true) (n:Nat):VRL ρ (zerosA z.cells n) (zerosA z.cells n):=by
 refine ⟨rfl,fun i v v' hv hv'=>?_⟩
 obtain rfl:=Option.some.inj (hv.symm.trans hv');unfold zerosA at hv;simp only [Array.toList_map,Array.toList_range,List.getElem?_map,Option.map_eq_some_iff] at hv;obtain ⟨k,_,rfl⟩:=hv
 by_cases hk:k % z.cells.size<z.cells.size
 ·rw [getElem!_pos z.cells (k % z.cells.size) hk];exact (zeroA_cells (ρ:=ρ) hf).2 _ _ _ (Array.getElem?_eq_getElem hk) (Array.getElem?_eq_getElem hk)
 ·rw [getElem!_neg z.cells (k % z.cells.size) hk];exact flat_VR ρ rfl
theorem buildSliceA_sound {σ σ':Heap}{t:TypeId}{len:Nat}{ps ps':Array (Nat×Value)}{v:Value}(hR:Rel w0 ρ (hp σ) w) (hfr:Fresh ρ σ.length σ'.length)
  (hp':PartsR ρ ps.toList ps'.toList) (h:buildSliceA P σ t len ps.toList=some (v,σ')):∃ v' w',(Instr.buildSlice t len ps').run P w=.ok v' w'/\OpOut w0 ρ σ w v σ' v' w':=by
 unfold buildSliceA at h;split at h
 ·rename_i e hd
  cases hs:sizeA P e with
  | none=>simp [hs] at h
  | some size =>
   simp only [hs] at h;split at h
   ·cases h
   ·rename_i hbig;split at h
    ·cases h
    ·rename_i zero hz
     have hzr:∃ zs:Array Value,(if len*size=0 then pure #[] else do pure (<- zeroValue e).cells:Sem (Array Value)).run P w=.ok zs w/\zs=zero/\VRL ρ (zerosA zero (len*size)) (zerosA zero (len*size)):=by
      by_cases h0:len*size=0
      ·simp only [h0,if_true,Option.some.injEq] at hz ⊢;subst hz
       exact ⟨#[],rfl,rfl,⟨rfl,fun i v v' hv=>by simp [zerosA] at hv⟩⟩
      ·simp only [h0,if_false,Option.map_eq_some_iff] at hz ⊢;obtain ⟨z,hz,rfl⟩:=hz;obtain ⟨hr,hf⟩:=run_zeroValue hz w
       exact ⟨z.cells,by simp [hr],rfl,zerosA_VRL hf _⟩
     obtain ⟨zs,hzrun,rfl,hzv⟩:=hzr;split at h
     ·cases h
     ·rename_i cells hc;simp only [Option.some.injEq,Prod.mk.injEq] at h;obtain ⟨rfl,rfl⟩:=h;obtain ⟨cells',hc',hv⟩:=fill_sound _ _ _ _ _ _ hp' (VRA.mk_list hzv) hc;obtain ⟨ρ',hn,ha,hle,_⟩:=newB_out (ty:=e) (l':=cells'.toList) hR hfr (.of_array hv)
      refine ⟨.slice (some ⟨w.heap.size,0,none⟩) len len,{ w with heap:=w.heap.push (.cells cells' e) },?_,ρ',by simpa using hn,.sliceX _ _ _ _ (by omega) (Nat.le_refl _) (.inr ha)⟩
      have hnb:¬ (16777216<len*size):=by omega
      have ez:((Array.range (len*size)).map (zs[· % zs.size]!))=(zerosA zs (len*size)).toArray:=by simp only [zerosA,Array.toArray_toList]
      by_cases h0:len*size=0
      ·simp only [h0,if_true,Option.some.injEq] at hz;subst hz;simp only [h0] at hc' ez
       have hn0:¬ (16777216<0):=by omega
       simp only [Instr.buildSlice,Sem.run_bind,run_underlying hd,Result.andThen_ok,run_sizeOf' hs,Nat.reducePow,gt_iff_lt,h0,hn0,if_false,if_true,Sem.run_pure,ez,hc',newRow,run_newObj]
      ·simp only [h0,if_false,Option.map_eq_some_iff] at hz;obtain ⟨z,hz,rfl⟩:=hz;obtain ⟨hr,hf⟩:=run_zeroValue hz w;simp only [Instr.buildSlice,Sem.run_bind,run_underlying hd,Result.andThen_ok,run_sizeOf' hs,Nat.reducePow,gt_iff_lt,hnb,if_false,h0,hr,Sem.run_pure,ez,hc',newRow,run_newObj]
 ·cases h
theorem makeSliceA_sound {σ σ':Heap}{t:TypeId}{l l' c c' v:Value}(hR:Rel w0 ρ (hp σ) w) (hfr:Fresh ρ σ.length σ'.length) (hl:VR ρ l l') (hc:VR ρ c c')
  (h:makeSliceA P σ t l c=some (v,σ')):∃ v' w',(Instr.makeSlice t l' c').run P w=.ok v' w'/\OpOut w0 ρ σ w v σ' v' w':=by
 unfold makeSliceA at h;split at h
 ·rename_i e kl n kc m hd
  cases hl with
  | int _ _ =>
  cases hc with
  | int _ _ =>
  cases hi:P.info? e with
  | none=>simp [hi] at h
  | some i =>
   simp only [hi] at h;split at h
   ·rename_i hb;obtain ⟨h0,h1,h2,h3⟩:=hb
    cases hz:zeroA P e with
    | none=>simp [hz] at h
    | some z =>
     simp only [hz,Option.some.injEq,Prod.mk.injEq] at h;obtain ⟨rfl,rfl⟩:=h;have hzf:=(run_zeroValue (P:=P) hz w).2
     have hzz:i.zero=some z:=by
      unfold zeroA at hz;simp only [hi] at hz
      cases hx:i.zero with
      | none=>simp [hx] at hz
      | some z' =>
       simp only [hx] at hz;split at hz
       ·simpa using hz
       ·cases hz
     obtain ⟨ρ',hn,ha,hle,_⟩:=newB_out (ty:=e) (l':=zerosA z.cells (m.toNat*i.size)) hR hfr (zerosA_VRL hzf _)
     have hrun:=run_make (P:=P) w t e i z hd hi hzz kl kc n m h0 h1 h3 (by omega)
     refine ⟨_,_,hrun,ρ',?_,.sliceX _ _ _ _ (by unfold unk; omega) (by omega) (.inr ha)⟩
     have ez:(madeCells z.cells (m.toNat*i.size))=(zerosA z.cells (m.toNat*i.size)).toArray:=by simp only [zerosA,Array.toArray_toList]; rfl
     rw [ez];exact hn
   ·cases h
 ·cases h
end
end Go.AE
namespace Go.AE
open Go Go.RowKit
section
variable {P:Program}{w:World}
def isIntD:TypeDesc->Bool
 | .int _=>true
 | _=>false
def appTail (i:TypeInfo) (e:TypeId) (base:Option Addr) (sLen sCap n:Nat) (news:List Value):Sem Value:=do
 if sLen+n<=sCap then
  if let some a:=base then storeCells (a.add (sLen*i.size)) news
  pure (.slice base (sLen+n) sCap)
 else
  let newCap <- choose (.appendCap (sLen+n) sCap e)
  let old <- Builtin.firstCells i.size sLen (.slice base sLen sCap)
  pure (.slice (some (<- newRow e (old++news.toArray++Builtin.zeroCells ((i.zero.map (·.cells)).getD #[]) (newCap-(sLen+n))))) (sLen+n) newCap)
set_option maxHeartbeats 4000000 in
theorem run_append_tail {argTypes:Array TypeId}{ty sT xT e:TypeId}{xd:TypeDesc}{args:Array Value}{base:Option Addr}{sLen sCap n:Nat}{x z:Value}{i:TypeInfo}{news old:List Value}
  (h0:argTypes[0]?=some sT) (h1:argTypes[1]?=some xT) (h2:args[0]?=some (.slice base sLen sCap)) (h3:args[1]?=some x)
  (hd:P.underlying sT=some (.slice e)) (hx:P.underlying xT=some xd) (hi:P.info? e=some i)
  (hn:(isIntD xd=false/\(Builtin.lenOf x).run P w=.ok n w/\∀ k,(Builtin.firstCells i.size n x).run P { w with drawn:=k }=.ok news.toArray { w with drawn:=k }) \/
   (isIntD xd=true/\∃ kd m,x=.int kd m/\0<=m/\m<9223372036854775808/\m*i.bytes<=281474976710656/\n=m.toNat /\
    ((n*i.size=0/\news=[])\/∃ z,i.zero=some z/\n*i.size≠0/\news=(Builtin.zeroCells z.cells n).toList)))
  (hold:sCap<sLen+n->∀ k,(Builtin.firstCells i.size sLen (.slice base sLen sCap)).run P { w with drawn:=k }=.ok old.toArray { w with drawn:=k })
  (hz:sCap<sLen+n->i.zero=some z) (hb:sCap<sLen+n->(sLen+n)*i.bytes<=140737488355328/\i.bytes≠0) :
  (Builtin.append_ argTypes ty args).run P w=(appTail i e base sLen sCap n news).run P w:=by
 have hgrow:sCap<sLen+n->¬ (9223372036854775807<((sLen:Int)+(n:Int)))/\¬ (281474976710656<Builtin.nextslicecap (sLen+n) sCap*i.bytes):=by
  intro h;obtain ⟨hb1,hb2⟩:=hb h;have h1:=growslice_fits h hb1
  have h2:sLen+n<=(sLen+n)*i.bytes:=Nat.le_mul_of_pos_right _ (by omega)
  exact ⟨by omega,by omega⟩
 rcases hn with ⟨hint,hlen,hcells⟩ | ⟨hint,kd,m,rfl,hm0,hm1,hm2,rfl,hnews⟩
 ·have hc0:=hcells w.drawn;cases xd
  case int=>simp [isIntD] at hint
  all_goals
   by_cases hle:sLen+n<=sCap
   ·cases base<;>simp [Builtin.append_,appTail,h0,h1,h2,h3,run_underlying hd,run_underlying hx,sizeOf,typeInfo,hi,hlen,hle,hc0]
   ·obtain ⟨g1,g2⟩:=hgrow (by omega)
    have q1:(Builtin.firstCells i.size n x).run P w.drew=.ok news.toArray w.drew:=hcells (w.drawn+1)
    have q2:(Builtin.firstCells i.size sLen (.slice base sLen sCap)).run P w.drew=.ok old.toArray w.drew:=hold (by omega) (w.drawn+1)
    simp [Builtin.append_,appTail,h0,h1,h2,h3,run_underlying hd,run_underlying hx,sizeOf,typeInfo,hi,hlen,hle,g1,g2,Question.forced,zeroValue,hz (by omega),q1,q2]
 ·cases xd<;>simp [isIntD] at hint
  have hwr:IntKind.i64.wrap m=m:=by rw [IntKind.wrap_i64]; omega
  have n1:¬ m<0:=by omega
  have n2:¬ (281474976710656<m*(i.bytes:Int)):=by omega
  by_cases hle:sLen+m.toNat<=sCap
  ·rcases hnews with ⟨hn0,rfl⟩ | ⟨z',hz',hn0,rfl⟩
   ·cases base<;>simp [Builtin.append_,appTail,h0,h1,h2,h3,run_underlying hd,run_underlying hx,sizeOf,typeInfo,hi,asInt,asIntOf,hwr,n1,n2,hle,hn0]
   ·cases base<;>simp [Builtin.append_,appTail,h0,h1,h2,h3,run_underlying hd,run_underlying hx,sizeOf,typeInfo,hi,asInt,asIntOf,hwr,n1,n2,hle,hn0,zeroValue,hz']
  ·obtain ⟨g1,g2⟩:=hgrow (by omega)
   have g1':¬ (9223372036854775807<(sLen:Int)+max m 0):=by omega
   rcases hnews with ⟨hn0,rfl⟩ | ⟨z',hz',hn0,rfl⟩
   ·simp [Builtin.append_,appTail,h0,h1,h2,h3,run_underlying hd,run_underlying hx,sizeOf,typeInfo,hi,asInt,asIntOf,hwr,n1,n2,hle,hn0,g1',g2,Question.forced,zeroValue,hz (by omega)]
   ·simp [Builtin.append_,appTail,h0,h1,h2,h3,run_underlying hd,run_underlying hx,sizeOf,typeInfo,hi,asInt,asIntOf,hwr,n1,n2,hle,hn0,g1',g2,Question.forced,zeroValue,hz']
end
end Go.AE
namespace Go.AE
open Go Go.RowKit
section
variable {P:Program}{w0:World}{ρ:Ren}{w:World}
theorem sourceA_sound {st:Stat}{σ:Heap}{size n:Nat}{x x':Value}{news:List Value}(hst:GoodSt w0 st) (hR:Rel w0 ρ (hp σ) w) (hx:VR ρ x x') (h:sourceA st σ size x=some (n,news)) :
  ∃ news',VRL ρ news news'/\(Builtin.lenOf x').run P w=.ok n w/\∀ k,(Builtin.firstCells size n x').run P { w with drawn:=k }=.ok news'.toArray { w with drawn:=k }:=by
 have go:∀ (a a':Addr) (len c:Nat),(len*size=0\/addrOk ρ a a')->(if len*size=0 then some (len,[]) else (loadN st σ a (len*size)).map fun l=>(len,l))=some (n,news) ->
   ∃ news',VRL ρ news news'/\(Builtin.lenOf (.slice (some a') len c)).run P w=.ok n w/\∀ k,(Builtin.firstCells size n (.slice (some a') len c)).run P { w with drawn:=k }=.ok news'.toArray { w with drawn:=k }:=by
  intro a a' len c ha h
  by_cases h0:len*size=0
  ·simp only [h0,if_true,Option.some.injEq,Prod.mk.injEq] at h;obtain ⟨rfl,rfl⟩:=h
   exact ⟨[],.nil ρ,rfl,fun k=>by simp [Builtin.firstCells,h0,loadCells,loadCellsFrom]⟩
  ·simp only [h0,if_false,Option.map_eq_some_iff,Prod.mk.injEq] at h;obtain ⟨l,hl,rfl,rfl⟩:=h;obtain ⟨l',hn,hv,hc⟩:=loadN_sound hst hR (ha.resolve_left h0) hl
   refine ⟨l',hv,rfl,fun k=>?_⟩
   have:=run_loadCells_list (P:=P) { w with drawn:=k } a' l' (fun j v hj=>hc j v hj)
   rw [hn] at this;exact this
 unfold sourceA at h;split at h
 ·simp only [Option.some.injEq,Prod.mk.injEq] at h;obtain ⟨rfl,rfl⟩:=h;cases hx
  exact ⟨[],.nil ρ,rfl,fun k=>rfl⟩
 ·rename_i a m c
  cases hx with
  | sliceX _ a' _ _ h1 h2 h3=>exact go a a' m c (h3.imp (fun e=>by have:m=0:=(by omega); simp [this]) id) h
  | sliceU _ a' _ _ cap' sz h0 h1 h2 h3=>exact go a a' m cap' (h3.imp (fun e=>by have:m=0:=(by omega); simp [this]) (·.1)) h
 ·rename_i s;simp only [Option.some.injEq,Prod.mk.injEq] at h;obtain ⟨rfl,rfl⟩:=h;cases hx
  refine ⟨_,⟨rfl,fun i v v' hv hv'=>?_⟩,rfl,fun k=>?_⟩
  ·obtain rfl:=Option.some.inj (hv.symm.trans hv');simp only [Array.toList_map,List.getElem?_map,Option.map_eq_some_iff] at hv;obtain ⟨b,_,rfl⟩:=hv;exact .int _ _
  ·have e:s.extract 0 s.size=s:=by simp
   simp only [Builtin.firstCells,e,Sem.run_pure,Array.toArray_toList]
 ·cases h
theorem growA_sound {st:Stat}{σ σ':Heap}{i:TypeInfo}{e:TypeId}{base base':Option Addr}{sLen sCap' need n:Nat}{news news':List Value}{v:Value}(hst:GoodSt w0 st) (hR:Rel w0 ρ (hp σ) w)
  (hfr:Fresh ρ σ.length σ'.length) (hbase:match base,base' with | none,none=>sLen=0 | some a,some a'=>sLen=0\/addrOk ρ a a' | _,_=>False) (hv:VRL ρ news news')
  (hneed:need=sLen+n) (hgt:sCap'<sLen+n) (hnl:news.length=n*i.size)
  (h:growA P st σ i base sLen need news=some (v,σ')) :
  ∃ v' w',(appTail i e base' sLen sCap' n news').run P w=.ok v' w'/\OpOut w0 ρ σ w v σ' v' w'/\(∃ z,i.zero=some z)/\(sLen+n)*i.bytes<=140737488355328/\i.bytes≠0 /\
   (∃ old:List Value,∀ k,(Builtin.firstCells i.size sLen (.slice base' sLen sCap')).run P { w with drawn:=k }=.ok old.toArray { w with drawn:=k }) /\
   (∃ ρ',Nxt w0 ρ σ w ρ' σ' w'/\VR ρ' v v'/\ρ.le ρ'/\∃ N,ρ' σ.length=some (w.heap.size,0,N))/\(∃ l,σ'=σ++[some (.cells l)]):=by
 subst hneed;unfold growA at h;split at h
 ·rename_i hb
  cases hz:i.zero with
  | none=>simp [hz] at h
  | some z =>
   simp only [hz] at h;split at h
   ·cases h
   ·rename_i hzs
    have hzs:z.cells.size=i.size:=by simpa using hzs
    split at h
    ·cases h
    ·rename_i old hold;simp only [Option.some.injEq,Prod.mk.injEq] at h;obtain ⟨rfl,rfl⟩:=h
     have hlo:old.length=sLen*i.size/\∃ old',VRL ρ old old'/\∀ k,(Builtin.firstCells i.size sLen (.slice base' sLen sCap')).run P { w with drawn:=k }=.ok old'.toArray { w with drawn:=k }:=by
      cases base with
      | none =>
       cases base' with
       | some _=>exact hbase.elim
       | none =>
        simp only [Option.some.injEq] at hold;subst hold;have:sLen=0:=hbase
        exact ⟨by simp [this],[],.nil ρ,fun k=>rfl⟩
      | some a =>
       cases base' with
       | none=>exact hbase.elim
       | some a' =>
        simp only at hold
        by_cases h0:sLen*i.size=0
        ·simp only [h0,if_true,Option.some.injEq] at hold;subst hold
         exact ⟨by simp [h0],[],.nil ρ,fun k=>by simp [Builtin.firstCells,h0,loadCells,loadCellsFrom]⟩
        ·simp only [h0,if_false] at hold;have hbase:sLen=0\/addrOk ρ a a':=hbase
         obtain ⟨l',hn,hvl,hc⟩:=loadN_sound hst hR (hbase.resolve_left (fun e=>h0 (by simp [e]))) hold
         refine ⟨by rw [hvl.1,hn],l',hvl,fun k=>?_⟩
         have:=run_loadCells_list (P:=P) { w with drawn:=k } a' l' (fun j v hj=>hc j v hj)
         rw [hn] at this;exact this
     obtain ⟨hlen,old',hvo,hro⟩:=hlo;have hge:=grownCap_ge w (sLen+n) sCap' e
     have hlt:grownCap w (sLen+n) sCap' e<unk:=by
      have:=grownCap_le_maxLen w (sLen+n) sCap' e (by
       have h2:sLen+n<=(sLen+n)*i.bytes:=Nat.le_mul_of_pos_right _ (by omega)
       unfold maxLen; omega)
      unfold maxLen at this;unfold unk;omega
     have hva:VRL ρ (old++news) (old'++news'):=hvo.append hv
     have hnx:=newB_sound (w:={ w with drawn:=w.drawn+1 }) (ty:=e) (σ:=σ) (l:=old++news)
      (cs:=old'.toArray++news'.toArray++Builtin.zeroCells z.cells (grownCap w (sLen+n) sCap' e-(sLen+n))) (hR.drew _) (hfr _ (Nat.le_refl _) (by simp [newB]))
      (by simp [hvo.1,hv.1])
      (fun j u hj=>by
       obtain ⟨u',h1,h2⟩:=hva.get hj;refine ⟨u',?_,h2⟩;have hj':j<(old'++news').length:=(List.getElem?_eq_some_iff.1 h1).1
       rw [Array.getElem?_append_left (by simpa using hj')]
       rw [<- h1];simp)
     have hN:(old'.toArray++news'.toArray++Builtin.zeroCells z.cells (grownCap w (sLen+n) sCap' e-(sLen+n))).size=grownCap w (sLen+n) sCap' e*i.size:=by
      have e1:old'.length=sLen*i.size:=by rw [<- hvo.1,hlen]
      have e2:news'.length=n*i.size:=by rw [<- hv.1,hnl]
      simp only [Array.size_append,List.size_toArray,size_zeroCells,hzs,e1,e2,<- Nat.add_mul]
      congr 1
      omega
     have hvr:VR (ρ.put σ.length (w.heap.size,0,(old'.toArray++news'.toArray++Builtin.zeroCells z.cells (grownCap w (sLen+n) sCap' e-(sLen+n))).size))
       (.slice (some (newB σ (old++news)).1) (sLen+n) (unk+i.size)) (.slice (some ⟨w.heap.size,0,none⟩) (sLen+n) (grownCap w (sLen+n) sCap' e)):=by
      have hput:(ρ.put σ.length (w.heap.size,0,(old'.toArray++news'.toArray++Builtin.zeroCells z.cells (grownCap w (sLen+n) sCap' e-(sLen+n))).size)) σ.length=some (w.heap.size,0,grownCap w (sLen+n) sCap' e*i.size):=by
       simp only [Ren.put,if_true];rw [hN]
      exact .sliceU _ _ _ _ _ i.size rfl hlt hge (.inr ⟨⟨rfl,.inr ⟨rfl,w.heap.size,0,_,hput,rfl,rfl⟩⟩,rfl,w.heap.size,0,_,hput,by simp [newB]⟩)
     have hfin:=(Nxt.drew hnx:Nxt w0 ρ σ w _ _ _)
     refine ⟨_,_,?_,⟨_,hfin,hvr⟩,⟨z,rfl⟩,hb.1,hb.2,⟨old',hro⟩,⟨_,hfin,hvr,Ren.le_put (hfr _ (Nat.le_refl _) (by simp [newB])),_,by simp [Ren.put]; rfl⟩,⟨_,rfl⟩⟩
     have hng:¬ (sLen+n<=sCap'):=by omega
     have hr1:=hro (w.drawn+1);simp only [appTail,hng,if_false,Sem.run_bind,run_choose,Question.forced,Bool.false_eq_true,Result.andThen_ok,hr1,hz,Option.map_some,Option.getD_some,newRow,run_newObj,Sem.run_pure];rfl
 ·cases h
end
end Go.AE
