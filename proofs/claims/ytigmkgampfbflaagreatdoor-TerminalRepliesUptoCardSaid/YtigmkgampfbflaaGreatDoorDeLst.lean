/-
 Lists of whole numbers,as callees and loops see them.
 Conditions: see the theorems.
-/
import Derived.Test.YtigmkgampfbflaaGreatDoorDeCon
import Derived.Test.YtigmkgampfbflaaGreatDoorAeMpg
import Derived.Deep.Slices
import Derived.ChangeArms
import Derived.OpenShut
import Derived.DataReads
namespace Go.DE
open Go Go.AE Go.RowKit
abbrev kv (q:IntKind) (x:Int):DV:=.v (.int q x)
abbrev iv (x:Int):DV:=.v (.int .i64 x)
abbrev sv (s:ByteArray):DV:=.v (.string s)
abbrev bv (b:Bool):DV:=.v (.bool b)
def rowI (q:IntKind) (z:Nat->Int):Nat->Nat->DV:=fun i _=>kv q (z i)
def rowOk (q:IntKind) (g:Nat->Nat->DV) (n:Nat):Prop:=∀ i,i<n->g i 0=kv q (numD (g i 0))
def lw (L:List Int):Nat->Int:=fun j=>L.getD j 0
noncomputable def rowK (q:IntKind) (d:DV) (k:(Nat->Int)->Nat->Option Unit):Option Unit :=
 match d with
 | .sl _ g 1 n=>bif holds (rowOk q g n) then k (fun i=>numD (g i 0)) n else none
 | .v (.slice none 0 0)=>k (fun _=>0) 0
 | _=>none
theorem rowK_some {q:IntKind}{d:DV}{k:(Nat->Int)->Nat->Option Unit}(h:rowK q d k=some ()):∃ t z n,k z n=some ()/\∀ C μ v,DR C μ d v->DR C μ (.sl t (rowI q z) 1 n) v:=by
 unfold rowK at h
 split at h<;>first | (cases h; done) | skip
 ·rename_i t g n;obtain ⟨h1,h2⟩:=bif_none h;have h1:=holds_eq.1 h1
  refine ⟨t,_,n,h2,fun C μ v hv=>?_⟩
  rcases hv.sl_inv with ⟨a,cap,w,rfl,hc,hk,q1,q2⟩ | ⟨rfl,rfl⟩
  ·refine .sl t _ 1 n a cap w hc hk q1 fun i f hi hf=>?_
   obtain rfl:f=0:=by omega
   have:=q2 i 0 hi hf;rw [h1 i hi] at this;exact this
  ·exact .slnil t _ 1
 ·refine ⟨true,_,0,h,fun C μ v hv=>?_⟩
  cases hv;exact .slnil true _ 1
def lstB (q:IntKind) (L:List Int):DBlk:=⟨1,.tab L.length (rowI q (lw L))⟩
def HasL (q:IntKind) (c:DC) (L:List Int):Prop:=L.length<=c.n/\c.good/\∀ j,j<L.length->c.get j 0=kv q (lw L j)
theorem HasL.sub {q:IntKind}{r:Nat->Option Nat}{c:DC}{L:List Int}(h:HasL q c L):SubC r (lstB q L) ⟨1,c⟩ :=
 ⟨rfl,h.1,trivial,fun i f hi hf=>by
  obtain rfl:f=0:=by
   have:f<1:=hf;omega
  rw [h.2.2 i hi];exact .v _⟩
theorem HasL.tab {q:IntKind}{L:List Int}:HasL q (.tab L.length (rowI q (lw L))) L:=⟨Nat.le_refl _,trivial,fun _ _=>rfl⟩
theorem HasL.nil {q:IntKind}{c:DC}(h:c.good):HasL q c []:=⟨Nat.zero_le _,h,fun j hj=>absurd hj (Nat.not_lt_zero _)⟩
theorem HasL.one {q:IntKind}{v w:Int}(h:v=w):HasL q (.lst [[kv q v]]) [w]:=⟨Nat.le_refl _,trivial,fun j hj=>by
 obtain rfl:j=0:=by simpa using hj
 subst h;rfl⟩
theorem HasL.lst {q:IntKind}(M:List Int):HasL q (.lst (M.map fun v=>[kv q v])) M:=⟨by show M.length<=(M.map fun v=>[kv q v]).length; simp,trivial,fun j hj=>by
 show ((M.map fun v=>[kv q v]).getD j []).getD 0 .any=kv q (lw M j)
 have e:(M.map fun v=>[kv q v]).getD j []=[kv q M[j]]:=by rw [List.getD_eq_getElem?_getD,List.getElem?_map,List.getElem?_eq_getElem hj]; rfl
 rw [e];simp [lw,List.getElem?_eq_getElem hj]⟩
theorem HasL.app {q:IntKind}{c d:DC}{L M:List Int}{n:Nat}(hn:n=L.length) (h:HasL q c L) (k:HasL q d M):HasL q (.app (.pre c n) d) (L++M):=by
 subst hn
 refine ⟨?_,⟨⟨h.2.1,h.1⟩,k.2.1⟩,fun j hj=>?_⟩
 ·show (L++M).length<=L.length+d.n;have:=k.1;simp only [List.length_append];omega
 ·have e:(DC.app (.pre c L.length) d).get j 0=if j<L.length then c.get j 0 else d.get (j-L.length) 0:=rfl
  rw [e]
  by_cases hjl:j<L.length
  ·rw [if_pos hjl,h.2.2 j hjl];simp [lw,List.getElem?_append_left hjl]
  ·rw [if_neg hjl,k.2.2 (j-L.length) (by simp at hj; omega)]
   simp [lw,List.getElem?_append_right (Nat.le_of_not_lt hjl)]
end Go.DE
namespace Go.DE
open Go Go.AE Go.RowKit
structure InE where
 f:FuncId
 fn:Func
 E:Env Unit
def inH (P:Program):List InE->List (FuncId×ConF)->CallD Unit
 | [],l=>tblD l
 | e :: r,l=>fun g args σ k=>match Nat.beq g e.f with
  | true=>bodyD P e.E e.fn args σ k
  | false=>inH P r l g args σ k
def notIn:List InE->FuncId->Bool
 | [],_=>true
 | e :: r,g=>match Nat.beq g e.f with
  | true=>false
  | false=>notIn r g
structure InOk (P:Program) (st:AE.Stat) (e:InE):Prop where
 hf:P.funcs[e.f]?=some e.fn
 hn:(e.fn.name== "runtime.NumGoroutine")=false
 hb:e.fn.body.isNone=false
 hxt:∀ a σ,st.ext e.f a σ=none
 hE:EnvOk P st e.E
 hgl:GlOk st e.E.gl
 hl:∀ x∈loopsOf e.fn,∀ g,e.E.lp x.1=some g->LoopSR e.E.gz P st e.E.gl x.2 g
 hz:e.E.gz=false
section
variable {P:Program}{st:AE.Stat}{l:List (FuncId×ConF)}
theorem inH_call {z:Bool}(hl:∀ x∈l,ConOkZ z P st x.1 x.2):∀ {hs:List InE},(∀ e∈hs,InOk P st e)->CallS z P st (inH P hs l)
 | [],_=>tblD_call hl
 | e :: r,h=>fun f args σd k x hx C μ σ vs hS ha=>by
  unfold inH at hx;split at hx
  ·rename_i he;obtain rfl:=Nat.eq_of_beq_eq_true he
   have ho:=h e (by simp)
   obtain ⟨v,σ',C',μ',d,σd',⟨N,hN⟩,h1,n1,h2,hk⟩:=bodyD_some ho.hE ho.hl hS ha (ho.hgl.2 _ _ _ _ hS) hx;rw [ho.hz] at n1;have n1:Nx1 false C μ σ σd C' μ' σ' σd':=n1
   refine ⟨v,σ',C',μ',d,σd',⟨N+1,fun n m hn' hm=>?_⟩,h1,⟨n1.toNx,fun _=>n1.one rfl⟩,h2,hk⟩
   obtain ⟨m,rfl⟩:∃ m',m=m'+1:=⟨m-1,by omega⟩
   show enterA P (runF P st n (m+1)) e.f vs σ=_;unfold enterA;rw [ho.hf];simp only [ho.hn,ho.hb,Bool.false_eq_true,if_false,runF,ho.hf,ho.hxt]
   exact hN n m (by omega) (by omega)
  ·exact inH_call hl (fun e he=>h e (by simp [he])) f args σd k x hx C μ σ vs hS ha
theorem inH_pure {z:Bool}(hl:∀ x∈l,ConOkZ z P st x.1 x.2):∀ {hs:List InE},PureS P st (inH P hs l) (notIn hs)
 | []=>fun f args σd k r _ hx C μ σ vs h ha=>tblD_pure hl f args σd k r rfl hx C μ σ vs h ha
 | e :: r=>fun f args σd k x hp hx C μ σ vs hS ha=>by
  unfold inH at hx;unfold notIn at hp;split at hx
  ·rename_i he;rw [he] at hp;cases hp
  ·rename_i he;rw [he] at hp;exact inH_pure hl (hs:=r) f args σd k x hp hx C μ σ vs hS ha
end
noncomputable def envH (P:Program) (gl:Gl) (hs:List InE) (l:List (FuncId×ConF)) (lp:Nat->Option (LoopD Unit)) (n:Nat) (mg:List (Nat×List (Nat×List Nat)):=[]) (z:Bool:=false):Env Unit:=⟨inH P hs l,notIn hs,gl,lp,n,joins P gl mg,z⟩
section
variable {P:Program}{st:AE.Stat}{gl:Gl}
theorem envH_ok {hs:List InE}{l:List (FuncId×ConF)}{lp:Nat->Option (LoopD Unit)}{n:Nat}{mg:List (Nat×List (Nat×List Nat))}{z:Bool}(h:∀ e∈hs,InOk P st e) (hl:∀ x∈l,ConOkZ z P st x.1 x.2):EnvOk P st (envH P gl hs l lp n mg z) :=
 ⟨inH_call hl h,inH_pure hl,fun _ _ h=>joins_ok h⟩
theorem con_flatE {E:Env Unit}{f:FuncId}{fn:Func}{F:ConF}(hst:GlOk st E.gl) (hE:EnvOk P st E) (hf:P.funcs[f]?=some fn)
  (hn:(fn.name== "runtime.NumGoroutine")=false) (hb:fn.body.isNone=false) (hxt:∀ a σ,st.ext f a σ=none) (hlp:∀ x∈loopsOf fn,∀ g,E.lp x.1=some g->LoopSR E.gz P st E.gl x.2 g)
  (h:∀ args k,F args k=some ()->∃ args' d0,CvL args args'/\(Clo d0/\Low d0)/\k (fun _=>(d0,[]))=some ()/\bodyD P E fn args' [] (fun d _=>isD d0 d)=some ()):ConOkZ E.gz P st f F:=by
 intro args k hk s C σ vs hS ha;obtain ⟨args',d0,hargs,⟨hc,hlo⟩,hR,hbody⟩:=h args k hk
 exact conOk_run (E:=E) (F:=fun a k=>bif holds (a=args') then k (fun _=>(d0,[])) else none) hf hn hb hxt hst hE hlp (fun a k' hk' s'=>by
  obtain ⟨h1,h2⟩:=bif_none hk';obtain rfl:=holds_eq.1 h1
  exact ⟨_,hbody,fun d σ hd=>⟨_,h2,lowR_flat hlo,finQ_flat hc (holds_eq.1 (bif_none hd).1)⟩⟩) args' k (hT rfl hR) s C σ vs hS (hargs.drl ha)
end
end Go.DE
namespace Go.DE
open Go Go.AE Go.RowKit
def FzQ (d0 d:DV) (σ:DHeap):Prop:=∃ zs:List Nat,SubZ (fun _=>none) (zf σ zs) d0 d/\∀ j∈zs,∀ blk,σ[j]?=some (some blk)->∀ i f,i<blk.c.n->f<blk.k->Clo (blk.c.get i f)
noncomputable def fzq (d0:DV):DV->DHeap->Option Unit:=fun d σ=>bif holds (FzQ d0 d σ) then some () else none
theorem fzq_of {d0 d:DV}{σ:DHeap}(h:FzQ d0 d σ):fzq d0 d σ=some ():=hT h rfl
section
variable {P:Program}{st:AE.Stat}
theorem con_frz {E:Env Unit}{f:FuncId}{fn:Func}{F:ConF}(hz:E.gz=true) (hgl:GlOk st E.gl) (hE:EnvOk P st E) (hf:P.funcs[f]?=some fn)
  (hn:(fn.name== "runtime.NumGoroutine")=false) (hb:fn.body.isNone=false) (hxt:∀ a σ,st.ext f a σ=none) (hlp:∀ x∈loopsOf fn,∀ g,E.lp x.1=some g->LoopSR E.gz P st E.gl x.2 g)
  (h:∀ args k,F args k=some ()->∃ args' d0,CvL args args'/\Low d0/\k (fun _=>(d0,[]))=some ()/\bodyD P E fn args' [] (fzq d0)=some ()):ConOkZ true P st f F:=by
 intro args k hk s C σ vs hS ha;obtain ⟨args',d0,hargs,hlo,hR,hbody⟩:=h args k hk;obtain ⟨v,σ',C',μ',d,σd',⟨N,hN⟩,h1,n1,h2,hx⟩:=bodyD_some hE hlp hS (hargs.drl ha) (hgl.2 _ _ _ _ hS) hbody;obtain ⟨zs,q1,q2⟩:FzQ d0 d σd':=holds_eq.1 (bif_none hx).1;have n0:=NRel.b_w n1
 have nolive:∀ b,¬ Live noMu ([]:DHeap) b:=by
  rintro b ⟨id,blk,x,hb,_⟩
  simp at hb
 have hw:WkZ (fun _=>none) (zf σd' zs) 0 [d] σd' [d0] (List.replicate s none++[]):=by
  refine ⟨.cons q1 .nil,fun j h=>(by omega),fun j i h=>(nomatch h),Nat.zero_le _,fun i j bi bj h=>(by have:=(repl_get.1 h).2; simp at this),fun j b h=>(by have:=(repl_get.1 h).2; simp at this),fun j blk hj=>?_,fun i j h=>nomatch h⟩
  unfold zf at hj;split at hj
  ·rename_i hm;have hb:=Option.join_eq_some_iff.1 hj;exact ⟨hb,q2 j hm blk hb⟩
  ·cases hj
 obtain ⟨C2,hle,hold,hrl⟩:=hw.rl (gl:=E.gl) (τ:=#[v]) hgl.1 ⟨h1,.cons h2 (.nil _ _),hgl.2 _ _ _ _ h1⟩;obtain ⟨x,ys,e,hd,-⟩:=hrl.T.cons_inv
 obtain ⟨rfl,-⟩:v=x/\[]=ys:=by simpa using e
 refine ⟨_,hR,lowR_flat hlo,v,σ',C2,via (fun _=>none) μ',⟨N+1,fun n m hn' hm=>?_⟩,hrl.S,hd,fun id x hx=>(by cases hx),n0.len,fun b hb=>n0.fr b hb (nolive b),fun b hl=>?_,fun b s' o v hv=>?_⟩
 ·obtain ⟨m,rfl⟩:∃ m',m=m'+1:=⟨m-1,by omega⟩
  show enterA P (runF P st n (m+1)) f vs σ=_;unfold enterA;rw [hf];simp only [hn,hb,Bool.false_eq_true,if_false,runF,hf,hxt]
  exact hN n m (by omega) (by omega)
 ·obtain ⟨id,blk,x,hb,hx⟩:=hl;cases hx
 ·rcases hold _ b s' o v hv with q | ⟨_,q3,q4,_⟩
  ·exact (NRel.b_old n1 _ b s' o v q).imp id fun q=>⟨rfl,q.2.2.1,q.2.2.2.elim id fun x=>(nolive b x).elim⟩
  ·refine .inr ⟨rfl,q3,?_⟩
   rcases Nat.lt_or_ge b σ.length with hlt | hge
   ·exact absurd (n0.img b q4 hlt) (nolive b)
   ·exact hge
theorem SubZ.fz0 {r:Nat->Option Nat}{zs:Nat->Option DBlk}{j n k:Nat}{c:DC}{g:Nat->Nat->DV}(h:zs j=some ⟨k,c⟩) (hn:n<=c.n) (hg:∀ i f,c.get i f=g i f):SubZ r zs (.sl false g k n) (.os j 0 n):=by
 have q:=SubZ.fz (r:=r) (a:=0) (n:=n) h (by simpa using hn)
 have e:(fun i f=>(⟨k,c⟩:DBlk).c.get (0+i) f)=g:=by
  funext i f
  rw [Nat.zero_add];exact hg i f
 rw [e] at q;exact q
theorem lp_in {z:Bool}{gl:Gl}{l:List (Nat×Code)}{q:Nat}{g0:LoopD Unit}{c0:Code}(h:(l.filter fun x=>Nat.beq x.1 q).map (·.2)=[c0]) (H:LoopSR z P st gl c0 g0) :
  ∀ x∈l,∀ g,lpOf [(q,g0)] x.1=some g->LoopSR z P st gl x.2 g:=fun x hx g hg=>by
 unfold lpOf at hg;split at hg
 ·rename_i e
  have hm:x.2∈(l.filter fun x=>Nat.beq x.1 q).map (·.2):=List.mem_map.2 ⟨x,List.mem_filter.2 ⟨hx,e⟩,rfl⟩
  rw [h,List.mem_singleton] at hm;rw [hm,<- Option.some.inj hg];exact H
 ·cases hg
end
end Go.DE
namespace Go.DE
open Go Go.AE Go.RowKit
section
variable {P:Program}{st:AE.Stat}{f:FuncId}{fn:Func}
end
end Go.DE
namespace Go.DE
open Go Go.AE Go.RowKit
def keptH:DHeap->DHeap->Bool
 | [],_=>true
 | some _ :: r,some _ :: r'=>keptH r r'
 | none :: r,_ :: r'=>keptH r r'
 | _,_=>false
theorem keptH_get:∀ {σ σ':DHeap},keptH σ σ'=true->∀ {id:Nat}{blk:DBlk},σ[id]?=some (some blk)->∃ blk',σ'[id]?=some (some blk')
 | [],_,_,id,blk,hb=>by simp at hb
 | some b :: r,some b' :: r',h,0,blk,hb=>⟨b',rfl⟩
 | some b :: r,some b' :: r',h,id+1,blk,hb=>keptH_get (σ:=r) (σ':=r') h (by simpa using hb)
 | none :: r,_ :: r',h,0,blk,hb=>by simp at hb
 | none :: r,_ :: r',h,id+1,blk,hb=>keptH_get (σ:=r) (σ':=r') h (by simpa using hb)
 | some b :: r,none :: r',h,_,_,_=>by simp [keptH] at h
 | some b :: r,[],h,_,_,_=>by simp [keptH] at h
 | none :: r,[],h,_,_,_=>by simp [keptH] at h
theorem kept_nx {st:AE.Stat}{C C':Cf}{μ μ':Mu}{σ σ':Heap}{σd σd':DHeap}(h:NxW C μ σ σd C' μ' σ' σd') (hS:St st C' μ' σ' σd') (hk:keptH σd σd'=true):Nx1 true C μ σ σd C' μ' σ' σd' :=
 ⟨⟨h.hC,h.hμ,h.len,h.lend,h.fr,h.img,fun t b s o v x=>by
  rcases h.old t b s o v x with q | ⟨q1,q2,q3 | ⟨id,blk,y,q4,q5⟩⟩
  ·exact .inl q
  ·exact .inr ⟨q1,q2,q3⟩
  ·obtain ⟨blk',hb'⟩:=keptH_get hk q4;have:=hS.sep id blk' b y hb' (h.hμ _ _ q5) t o;rw [q2] at x;rw [this] at x
   cases x⟩,fun e=>nomatch e⟩
def roOp (P:Program) (o:Oper):Bool:=convOk P o.op&&!(cls o.op==3)
def roC (P:Program):Code->Bool
 | .skip=>true
 | .label _=>true
 | .exit _=>true
 | .ret=>true
 | .region _ ops _=>ops.toList.all (roOp P)
 | .seq a b=>roC P a&&roC P b
 | .cond _ a b=>roC P a&&roC P b
 | .block _ a=>roC P a
 | .scope a=>roC P a
 | _=>false
def Pre (σ σ':Heap):Prop:=σ.length<=σ'.length/\∀ b,b<σ.length->σ'[b]?=σ[b]?
theorem Pre.refl (σ:Heap):Pre σ σ:=⟨Nat.le_refl _,fun _ _=>rfl⟩
theorem Pre.trans {a b c:Heap}(h:Pre a b) (k:Pre b c):Pre a c:=⟨Nat.le_trans h.1 k.1,fun i hi=>(k.2 i (Nat.lt_of_lt_of_le hi h.1)).trans (h.2 i hi)⟩
section
variable {P:Program}{st:AE.Stat}{call:CallA}{n:Nat}
theorem ro_step {ops:Array Oper}{o:Oper}{τ τ':Array Value}{σ σ':Heap}(ho:roOp P o=true) (h:stepA P st call ops o τ σ=some (τ',σ')):Pre σ σ':=by
 unfold roOp at ho;obtain ⟨hc,h3⟩:=Bool.and_eq_true_iff.1 ho
 have h3:cls o.op≠3:=by simpa using h3
 unfold stepA at h
 split at h<;>first | (cases h; done) | skip
 split at h
 ·split at h<;>first | (cases h; done) | skip
  rename_i v σ1 hop;simp only [Option.some.injEq,Prod.mk.injEq] at h;obtain ⟨-,rfl⟩:=h
  rcases opA_cls hc h3 hop with ⟨e,_⟩ | ⟨_,e,_⟩ | ⟨_,b,e,_⟩
  ·rw [e]; exact .refl _
  ·rw [e]; exact .refl _
  ·rw [e]
   exact ⟨by simp,fun b hb=>List.getElem?_append_left hb⟩
 ·simp only [Option.some.injEq,Prod.mk.injEq] at h;obtain ⟨-,rfl⟩:=h;exact .refl _
theorem ro_run {ops:Array Oper}:∀ {l:List Oper}{τ τ':Array Value}{σ σ':Heap},l.all (roOp P)=true->runA P st call ops l τ σ=some (τ',σ')->Pre σ σ'
 | [],τ,τ',σ,σ',_,h=>by
  simp only [runA,Option.some.injEq,Prod.mk.injEq] at h;obtain ⟨-,rfl⟩:=h;exact .refl _
 | o :: r,τ,τ',σ,σ',hl,h=>by
  simp only [List.all_cons,Bool.and_eq_true] at hl;unfold runA at h
  split at h<;>first | (cases h; done) | skip
  rename_i τ1 σ1 h1;exact (ro_step hl.1 h1).trans (ro_run hl.2 h)
theorem ro_trace {ops:Array Oper}:∀ {l:List Oper}{τ τ':Array Value}{σ σ':Heap}{tr:List (Array Value×Heap)},l.all (roOp P)=true->traceA P st call ops l τ σ=some tr->tr.getLast?=some (τ',σ')->Pre σ σ'
 | [],τ,τ',σ,σ',tr,_,h,hl=>by
  simp only [traceA,Option.some.injEq] at h;subst h;simp only [List.getLast?_singleton,Option.some.injEq,Prod.mk.injEq] at hl;obtain ⟨-,rfl⟩:=hl;exact .refl _
 | o :: r,τ,τ',σ,σ',tr,hall,h,hl=>by
  simp only [List.all_cons,Bool.and_eq_true] at hall;unfold traceA at h
  split at h<;>first | (cases h; done) | skip
  rename_i τ1 σ1 h1;obtain ⟨tr1,h2,rfl⟩:=Option.map_eq_some_iff.1 h;refine (ro_step hall.1 h1).trans (ro_trace hall.2 h2 (?_:tr1.getLast?=some (τ',σ')))
  cases tr1 with
  | nil =>
   cases r with
   | nil=>simp [traceA] at h2
   | cons o' r' =>
    unfold traceA at h2;split at h2
    ·obtain ⟨_,-,e⟩:=Option.map_eq_some_iff.1 h2;cases e
    ·cases h2
  | cons a l =>
   rw [List.getLast?_cons_cons] at hl;exact hl
theorem ro_exec:∀ (c:Code) {τ τ':Array Value}{σ σ':Heap}{e:Ex},roC P c=true->execA P st call n c τ σ=some (e,τ',σ')->Pre σ σ':=by
 intro c
 induction c with
 | region a ops d =>
  intro τ τ' σ σ' e hr h;simp only [roC] at hr;unfold execA at h
  split at h<;>first | (cases h; done) | skip
  rename_i τ1 σ1 h1;simp only [Option.some.injEq,Prod.mk.injEq] at h;obtain ⟨-,-,rfl⟩:=h;split at h1
  ·unfold drawA at h1
   split at h1<;>first | (cases h1; done) | skip
   split at h1<;>first | (cases h1; done) | skip
   rename_i tr ht
   split at h1<;>first | (cases h1; done) | skip
   exact ro_trace hr ht h1
  ·exact ro_run hr h1
 | seq a b iha ihb =>
  intro τ τ' σ σ' e hr h;simp only [roC,Bool.and_eq_true] at hr;unfold execA at h;split at h
  ·rename_i τ1 σ1 h1;exact (iha hr.1 h1).trans (ihb hr.2 h)
  ·exact iha hr.1 h
 | cond x a b iha ihb =>
  intro τ τ' σ σ' e hr h;simp only [roC,Bool.and_eq_true] at hr;unfold execA at h
  split at h<;>first | (cases h; done) | skip
  split at h
  ·exact iha hr.1 h
  ·exact ihb hr.2 h
 | block id a iha =>
  intro τ τ' σ σ' e hr h;simp only [roC] at hr;unfold execA at h;split at h
  ·rename_i k τ1 σ1 h1;split at h
   ·simp only [Option.some.injEq,Prod.mk.injEq] at h;obtain ⟨-,-,rfl⟩:=h;exact iha hr h1
   ·simp only [Option.some.injEq,Prod.mk.injEq] at h;obtain ⟨-,-,rfl⟩:=h;exact iha hr h1
  ·exact iha hr h
 | scope a iha =>
  intro τ τ' σ σ' e hr h;simp only [roC] at hr;unfold execA at h;exact iha hr h
 | skip =>
  intro τ τ' σ σ' e hr h;simp only [execA,Option.some.injEq,Prod.mk.injEq] at h;obtain ⟨-,-,rfl⟩:=h;exact .refl _
 | label l =>
  intro τ τ' σ σ' e hr h;simp only [execA,Option.some.injEq,Prod.mk.injEq] at h;obtain ⟨-,-,rfl⟩:=h;exact .refl _
 | exit i =>
  intro τ τ' σ σ' e hr h;simp only [execA,Option.some.injEq,Prod.mk.injEq] at h;obtain ⟨-,-,rfl⟩:=h;exact .refl _
 | ret =>
  intro τ τ' σ σ' e hr h;simp only [execA,Option.some.injEq,Prod.mk.injEq] at h;obtain ⟨-,-,rfl⟩:=h;exact .refl _
 | _=>intro τ τ' σ σ' e hr h; simp [roC] at hr
def roFn (P:Program) (fn:Func):Bool:=match fn.body with
 | none=>false
 | some c=>roC P c
theorem ro_body {fn:Func}{args:List Value}{σ σ':Heap}{v:Value}(hr:roFn P fn=true) (h:bodyA P st call n fn args σ=some (v,σ')):Pre σ σ':=by
 unfold roFn at hr;unfold bodyA at h
 split at hr<;>first | (cases hr; done) | skip
 rename_i c hb;rw [hb] at h
 dsimp only at h
 split at h
 ·rename_i τ1 σ1 h1;obtain ⟨x,-,e⟩:=Option.map_eq_some_iff.1 h;simp only [Prod.mk.injEq] at e;obtain ⟨-,rfl⟩:=e;exact ro_exec c hr h1
 ·rename_i τ1 σ1 h1;obtain ⟨x,-,e⟩:=Option.map_eq_some_iff.1 h;simp only [Prod.mk.injEq] at e;obtain ⟨-,rfl⟩:=e;exact ro_exec c hr h1
 ·cases h
end
structure InOkZ (P:Program) (st:AE.Stat) (e:InE):Prop where
 hf:P.funcs[e.f]?=some e.fn
 hn:(e.fn.name== "runtime.NumGoroutine")=false
 hb:e.fn.body.isNone=false
 hxt:∀ a σ,st.ext e.f a σ=none
 hE:EnvOk P st e.E
 hgl:GlOk st e.E.gl
 hl:∀ x∈loopsOf e.fn,∀ g,e.E.lp x.1=some g->LoopSR e.E.gz P st e.E.gl x.2 g
abbrev HcF:=List DV->DHeap->(DV->DHeap->Option Unit)->Option Unit
def HcOk (P:Program) (st:AE.Stat) (f:FuncId) (F:HcF):Prop :=
 ∀ args σd k,F args σd k=some ()->∀ C μ σ vs,St st C μ σ σd->DRL C μ args vs->OpRes true st C μ σ σd (fun n m=>enterA P (runF P st n m) f vs σ) k ()
def notInZ (P:Program):List InE->FuncId->Bool
 | [],_=>true
 | e :: r,g=>match Nat.beq g e.f with
  | true=>roFn P e.fn
  | false=>notInZ P r g
def inZ (P:Program):List InE->CallD Unit->CallD Unit
 | [],c=>c
 | e :: r,c=>fun g args σ k=>match Nat.beq g e.f with
  | true=>bodyD P e.E e.fn args σ fun d σ'=>match keptH σ σ' with
   | true=>k d σ'
   | false=>none
  | false=>inZ P r c g args σ k
def hcD:List (FuncId×HcF)->CallD Unit->CallD Unit
 | [],c=>c
 | e :: r,c=>fun g args σ k=>match Nat.beq g e.1 with
  | true=>e.2 args σ k
  | false=>hcD r c g args σ k
def notHc:List (FuncId×HcF)->FuncId->Bool
 | [],_=>true
 | e :: r,g=>match Nat.beq g e.1 with
  | true=>false
  | false=>notHc r g
section
variable {P:Program}{st:AE.Stat}{l:List (FuncId×ConF)}
theorem inZ_call {c:CallD Unit}(hc:CallS true P st c):∀ {hs:List InE},(∀ e∈hs,InOkZ P st e)->CallS true P st (inZ P hs c)
 | [],_=>hc
 | e :: r,h=>fun f args σd k x hx C μ σ vs hS ha=>by
  unfold inZ at hx;split at hx
  ·rename_i he;obtain rfl:=Nat.eq_of_beq_eq_true he
   have ho:=h e (by simp)
   obtain ⟨v,σ',C',μ',d,σd',⟨N,hN⟩,h1,n1,h2,hk⟩:=bodyD_some ho.hE ho.hl hS ha (ho.hgl.2 _ _ _ _ hS) hx;have nw:=NRel.b_w n1
   dsimp only at hk
   split at hk
   ·rename_i hkept
    refine ⟨v,σ',C',μ',d,σd',⟨N+1,fun n m hn' hm=>?_⟩,h1,kept_nx nw h1 hkept,h2,hk⟩
    obtain ⟨m,rfl⟩:∃ m',m=m'+1:=⟨m-1,by omega⟩
    show enterA P (runF P st n (m+1)) e.f vs σ=_;unfold enterA;rw [ho.hf];simp only [ho.hn,ho.hb,Bool.false_eq_true,if_false,runF,ho.hf,ho.hxt]
    exact hN n m (by omega) (by omega)
   ·cases hk
  ·exact inZ_call hc (fun e he=>h e (by simp [he])) f args σd k x hx C μ σ vs hS ha
theorem inZ_pure {c:CallD Unit}{p:FuncId->Bool}(hc:PureS P st c p):∀ {hs:List InE},(∀ e∈hs,InOkZ P st e)->PureS P st (inZ P hs c) (fun g=>notInZ P hs g&&(notIn hs g&&p g||!notIn hs g))
 | [],_=>fun f args σd k r hp hx=>hc f args σd k r (by simpa [notInZ,notIn] using hp) hx
 | e :: r,h=>fun f args σd k x hp hx C μ σ vs hS ha=>by
  unfold inZ at hx;simp only [notInZ,notIn] at hp;split at hx
  ·rename_i he;simp only [he] at hp
   have hr:roFn P e.fn=true:=by simpa using hp
   obtain rfl:=Nat.eq_of_beq_eq_true he
   have ho:=h e (by simp)
   obtain ⟨v,σ',C',μ',d,σd',⟨N,hN⟩,h1,n1,h2,hk⟩:=bodyD_some ho.hE ho.hl hS ha (ho.hgl.2 _ _ _ _ hS) hx
   refine ⟨v,σ',⟨N+1,fun n m hn' hm=>?_⟩,(ro_body hr (hN N N (Nat.le_refl _) (Nat.le_refl _))).2⟩
   obtain ⟨m,rfl⟩:∃ m',m=m'+1:=⟨m-1,by omega⟩
   show enterA P (runF P st n (m+1)) e.f vs σ=_;unfold enterA;rw [ho.hf];simp only [ho.hn,ho.hb,Bool.false_eq_true,if_false,runF,ho.hf,ho.hxt]
   exact hN n m (by omega) (by omega)
  ·rename_i he;simp only [he] at hp
   exact inZ_pure hc (hs:=r) (fun e he=>h e (by simp [he])) f args σd k x hp hx C μ σ vs hS ha
theorem hcD_call {c:CallD Unit}(hc:CallS true P st c):∀ {hs:List (FuncId×HcF)},(∀ e∈hs,HcOk P st e.1 e.2)->CallS true P st (hcD hs c)
 | [],_=>hc
 | e :: r,h=>fun f args σd k x hx C μ σ vs hS ha=>by
  unfold hcD at hx;split at hx
  ·rename_i he;obtain rfl:=Nat.eq_of_beq_eq_true he
   exact h e (by simp) args σd k hx C μ σ vs hS ha
  ·exact hcD_call hc (fun e he=>h e (by simp [he])) f args σd k x hx C μ σ vs hS ha
theorem hcD_pure {c:CallD Unit}{p:FuncId->Bool}(hc:PureS P st c p):∀ {hs:List (FuncId×HcF)},PureS P st (hcD hs c) (fun g=>notHc hs g&&p g)
 | []=>fun f args σd k r hp hx=>hc f args σd k r (by simpa [notHc] using hp) hx
 | e :: r=>fun f args σd k x hp hx C μ σ vs hS ha=>by
  unfold hcD at hx;simp only [notHc] at hp;split at hx
  ·rename_i he;simp only [he] at hp;cases hp
  ·rename_i he;simp only [he] at hp;exact hcD_pure hc (hs:=r) f args σd k x hp hx C μ σ vs hS ha
end
noncomputable def envG (P:Program) (gl:Gl) (hc:List (FuncId×HcF)) (hs:List InE) (l:List (FuncId×ConF)) (lp:Nat->Option (LoopD Unit)) (n:Nat) (mg:List (Nat×List (Nat×List Nat)):=[]):Env Unit :=
 ⟨hcD hc (inZ P hs (tblD l)),fun g=>notHc hc g&&(notInZ P hs g&&(notIn hs g&&true||!notIn hs g)),gl,lp,n,joins P gl mg,true⟩
section
variable {P:Program}{st:AE.Stat}{gl:Gl}
theorem envG_ok {hc:List (FuncId×HcF)}{hs:List InE}{l:List (FuncId×ConF)}{lp:Nat->Option (LoopD Unit)}{n:Nat}{mg:List (Nat×List (Nat×List Nat))}(h0:∀ e∈hc,HcOk P st e.1 e.2) (h:∀ e∈hs,InOkZ P st e) (hl:∀ x∈l,ConOkZ true P st x.1 x.2):EnvOk P st (envG P gl hc hs l lp n mg) :=
 ⟨hcD_call (inZ_call (tblD_call hl) h) h0,hcD_pure (inZ_pure (tblD_pure hl) h),fun _ _ h=>joins_ok h⟩
end
end Go.DE
namespace Go.DE
open Go Go.AE Go.RowKit
def FinZ (s:Nat) (R:DV×DHeap) (d:DV) (σ:DHeap):Prop:=∃ r zs,(∀ j i,r j=some i->s<=j)/\WkZ r zs 0 [d] σ [R.1] (List.replicate s none++R.2)
section
variable {P:Program}{st:AE.Stat}
end
end Go.DE
namespace Go.DE
open Go Go.AE
section
variable {α:Type}{st:AE.Stat}{gl:Gl}{C:Cf}{μ:Mu}{σ:Heap}{σd:DHeap}{P:Program}{r:α}{τ:Array Value}{τd:List DV}
def keepsE2 (gl:Gl) (x:Oper) (τi:List DV) (y:Oper) (τj:List DV) (σj:DHeap):Bool :=
 match x.op with
 | .load _ a=>match evalDT gl τi a with
  | .po id _ _=>match σj[id]? with
   | some (some _)=>match y.op with
    | .call c=>match c.callee,c.args[0]? with
     | .builtin .append,some s=>match evalDT gl τj s with
      | .os id' _ _=>match σj[id']? with
       | some (some _)=>id != id'
       | _=>false
      | _=>false
     | _,_=>false
    | _=>false
   | _=>false
  | _=>false
 | _=>false
def keepsE (pure:FuncId->Bool) (gl:Gl) (x:Oper) (τi:List DV) (y:Oper) (τj:List DV) (σj:DHeap) (ahead:Bool):Bool:=keepsD pure gl x τi y τj σj ahead||keepsE2 gl x τi y τj σj
def dynE (g:Bool) (pure:FuncId->Bool) (gl:Gl) (ops:Array Oper) (tr:List (List DV×DHeap)):Bool :=
 let c:=closeA ops.toList []
 ops.toList.zipIdx.all fun (x,i)=>match tr[i]? with
  | none=>false
  | some (τi,_)=>if (cls x.op==1||cls x.op==2)&&wantD ops x τi then
    ops.toList.zipIdx.all fun (y,j)=>match tr[j]? with
     | none=>false
     | some (τj,σj)=>if cls y.op==3&&wantD ops y τj&&!ordA c i j&&!ordA c j i then
       (if cls x.op==1 then keepsE pure gl x τi y τj σj (decide (i<j)||!g) else (decide (j<=i)||pureOp pure (evalDT gl τj) y)) else true
   else true
def drawE (g:Bool) (P:Program) (call:CallD α) (pure:FuncId->Bool) (gl:Gl) (ops:Array Oper) (τ:List DV) (σ:DHeap) (k:List DV->DHeap->Option α):Option α :=
 bif staticP P ops then traceD P call gl ops ops.toList τ σ [] fun tr τ' σ'=>bif dynE g pure gl ops tr then k τ' σ' else none else none
def segD (P:Program) (E:Env α) (p:Nat):Code->LoopD α
 | .seq (.region _ ops true) b=>fun τ σ k=>drawE E.gz P E.call E.pure E.gl ops τ σ fun τ' σ'=>execD P E b (2*p+1) τ' σ' k
 | _=>fun _ _ _=>none
def segB:Code->Code
 | .seq _ b=>b
 | _=>.skip
theorem loop_coreV {X:Type}{z:Bool}{E:X->Env Unit}(hE:∀ x,EnvOk P st (E x)) (hz:∀ x,(E x).gz=z) (hg:∀ x,(E x).gl=gl) (hgl:∀ g,Clo (gl g)) {c:Code}{p:Nat}(hl:∀ x,∀ y∈loopsL p c,∀ g,(E x).lp y.1=some g->LoopSR z P st gl y.2 g)
  {pre:X->Prop}{m:Nat}{S:X->List DV×DHeap}{out:X->Ex×List DV×DHeap}{meas:X->Nat}(body:∀ x,pre x->∃ κ:KD Unit,execD P (E x) c p (S x).1 (S x).2 κ=some ()/\∀ e τ σ,κ e τ σ=some ()->StepQ z pre m S out meas x e τ σ) :
  ∀ (k:Nat) (x:X),meas x<k->pre x->∀ {C0:Cf}{μ0:Mu}{σ0:Heap}{σd0:DHeap}{C:Cf}{μ:Mu}{τ:Array Value}{σ:Heap},Rl st gl C μ τ σ (S x).1 (S x).2->NxM z m C0 μ0 σ0 σd0 C μ σ (S x).2 ->
   ∃ τ' σ' C' μ',(∃ N,∀ n mm q,N<=n->N<=mm->N<=q->iterA (execA P st (runF P st n mm) n c) q τ σ=some ((out x).1,τ',σ'))/\Rl st gl C' μ' τ' σ' (out x).2.1 (out x).2.2/\NxM z m C0 μ0 σ0 σd0 C' μ' σ' (out x).2.2
 | 0,x,hk,_,_,_,_,_,_,_,_,_,_,_=>by omega
 | k+1,x,hk,hpre,C0,μ0,σ0,σd0,C,μ,τ,σ,h,hn=>by
  obtain ⟨κ,hb,hκ⟩:=body x hpre
  obtain ⟨e,τ1,σ1,C1,μ1,τd1,σd1,⟨N,hN⟩,h1,n1,hx⟩:=execD_some (hE x) c p (fun y hy g hg2=>by rw [hz,hg]; exact hl x y hy g hg2) (by rw [hg]; exact h) hb
  rw [hg] at h1;rw [hz] at n1;have hq:=hκ _ _ _ hx
  have step:∀ n mm q,N<=n->N<=mm->iterA (execA P st (runF P st n mm) n c) (q+1) τ σ=match e with
    | .normal=>iterA (execA P st (runF P st n mm) n c) q τ1 σ1
    | .exit i=>some (.exit i,τ1,σ1)
    | .ret=>some (.ret,τ1,σ1):=by
   intro n mm q hn hm;have hN':execA P st (runF P st n mm) n c τ σ=some (e,τ1,σ1):=hN n mm hn hm;simp only [iterA,hN']
   cases e<;>rfl
  have ends:∀ e',e'=(out x).1->WkG z m τd1 σd1 (out x).2.1 (out x).2.2->(∀ n mm q,N<=n->N<=mm->iterA (execA P st (runF P st n mm) n c) (q+1) τ σ=some (e',τ1,σ1)) ->
    ∃ τ' σ' C' μ',(∃ N,∀ n mm q,N<=n->N<=mm->N<=q->iterA (execA P st (runF P st n mm) n c) q τ σ=some ((out x).1,τ',σ'))/\Rl st gl C' μ' τ' σ' (out x).2.1 (out x).2.2/\NxM z m C0 μ0 σ0 σd0 C' μ' σ' (out x).2.2:=by
   intro e' he hw hs;obtain ⟨C2,μ2,h2,n2⟩:=hw.rl hgl h1 (hn.then n1)
   refine ⟨τ1,σ1,C2,μ2,⟨N+1,fun n mm q hn hm hq=>?_⟩,h2,n2⟩
   obtain ⟨q,rfl⟩:∃ q',q=q'+1:=⟨q-1,by omega⟩
   rw [hs n mm q (by omega) (by omega),he]
  cases e with
  | normal =>
   obtain ⟨y,hpy,hy,hm,hw⟩:=hq;obtain ⟨C1',μ1',h2,n2⟩:=hw.rl hgl h1 (hn.then n1)
   obtain ⟨τ2,σ2,C2,μ2,⟨M,hM⟩,h3,n3⟩:=loop_coreV hE hz hg hgl hl body k y (by omega) hpy h2 n2
   rw [hy] at hM h3 n3
   refine ⟨τ2,σ2,C2,μ2,⟨max N M+1,fun n mm q hn hm hq=>?_⟩,h3,n3⟩
   obtain ⟨q,rfl⟩:∃ q',q=q'+1:=⟨q-1,by omega⟩
   rw [step n mm q (by omega) (by omega)]
   exact hM n mm q (by omega) (by omega) (by omega)
  | exit i=>exact ends _ hq.1 hq.2 fun n mm q hn hm=>step n mm q hn hm
  | ret=>exact ends _ hq.1 hq.2 fun n mm q hn hm=>step n mm q hn hm
theorem LInv.okV {X:Type}{P:Program}{st:AE.Stat}{gl:Gl}{z:Bool}{E:X->Env Unit}(I:LInv X) (hE:∀ x,EnvOk P st (E x)) (hz:∀ x,(E x).gz=z) (hg:∀ x,(E x).gl=gl) (hgl:∀ g,Clo (gl g)) {c:Code}{p:Nat}
  (hl:∀ x,∀ y∈loopsL p c,∀ g,(E x).lp y.1=some g->LoopSR z P st gl y.2 g)
  (cps:∀ x k,I.cps x k=some ()->k (I.e x) (I.od x) (I.oh x)=some ())
  (body:∀ x,I.pre x->execD P (E x) c p (temps I.n I.ps (I.sd x)) (I.sh x) (fun e τ σ=>I.ask x e τ.length (pick I.ps τ) (pick I.qs τ) σ)=some ()):LoopSR z P st gl (.loop c) I.g:=by
 intro τd σd k r hx C μ τ σ h
 have step:∀ x,I.pre x->∃ κ:KD Unit,execD P (E x) c p (I.st x).1 (I.st x).2 κ=some ()/\∀ e τ σ,κ e τ σ=some ()->StepQ z I.pre I.m I.st I.out I.meas x e τ σ:=fun x hpx=>by
  refine ⟨_,body x hpx,fun e τ σ hx=>?_⟩
  obtain ⟨hn,hq⟩:I.Q x e τ.length (pick I.ps τ) (pick I.qs τ) σ:=holds_eq.1 (bif_none hx).1
  cases e with
  | normal =>
   obtain ⟨y,⟨h1,h2,h3,h5⟩,h4,ids,hw⟩:=hq
   exact ⟨y,h5,by simp only [LInv.out,h1,h2,h3],h4,(hw.wk hn).g⟩
  | exit i =>
   obtain ⟨h1,ids,hw⟩:=hq;exact ⟨h1,(hw.wk hn).g⟩
  | ret =>
   obtain ⟨h1,ids,hw⟩:=hq;exact ⟨h1,(hw.wk hn).g⟩
 obtain ⟨x,hpx,hm,⟨ρ,hw⟩,hk⟩:∃ x,I.pre x/\σd.length=I.m/\(∃ ρ,Wk ρ I.m τd σd (I.st x).1 (I.st x).2)/\k (I.out x).1 (I.out x).2.1 (I.out x).2.2=some r:=by
  unfold LInv.g at hx
  split at hx<;>first | (cases hx; done) | skip
  rename_i h1 h2;have h1:=Nat.eq_of_beq_eq_true h1;have h2:=Nat.eq_of_beq_eq_true h2
  split at hx<;>first | (cases hx; done) | skip
  rename_i x hf;obtain ⟨hw,hx⟩:=bif_none hx;obtain ⟨hpx,ids,hw⟩:=holds_eq.1 hw;exact ⟨x,hpx,h2,⟨_,hw.wk h1⟩,cps _ _ hx⟩
 rw [<- hm] at step hw;obtain ⟨τ',σ',C',μ',⟨N,hN⟩,h1,n1⟩:=loop_coreV hE hz hg hgl hl step (I.meas x+1) x (Nat.lt_succ_self _) hpx (hw.rl hgl h) (hw.nx (.refl (Nat.le_refl _)))
 exact ⟨_,τ',σ',C',μ',_,_,⟨N,fun n mm hn hm=>hN n mm n hn hm hn⟩,h1,n1.nx h.S,hk⟩
end
end Go.DE
namespace Go.DE
open Go Go.AE Go.RowKit
inductive Kd where
 | int (k:IntKind)
 | bool
 | str
 | sl (ks:List Kd)
inductive HasK (B:Nat):Kd->DV->Prop
 | int (k:IntKind) (z:Int):HasK B (.int k) (kv k z)
 | bool (b:Bool):HasK B .bool (bv b)
 | str (s:ByteArray) (h:s.size<=B):HasK B .str (sv s)
 | sl (ks:List Kd) (g:Nat->Nat->DV) (n:Nat) (hn:n<=B) (h:∀ i f k,i<n->ks[f]?=some k->HasK B k (g i f)):HasK B (.sl ks) (.sl false g ks.length n)
def kindsP (P:Program) (K:TypeId->Option (List Kd)):List (TypeId×Nat)->Nat->Option (List Kd)
 | [],_=>some []
 | (t,o') :: r,o=>if o'=o then (match K t,kindsP P K r (o+P.cellsOf t) with
  | some a,some b=>if a.length=P.cellsOf t then some (a++b) else none
  | _,_=>none) else none
def kinds (P:Program):Nat->TypeId->Option (List Kd)
 | 0,_=>none
 | n+1,t=>match P.underlying t with
  | some (.int k)=>some [.int k]
  | some .bool=>some [.bool]
  | some .string=>some [.str]
  | some (.struct fs)=>match kindsP P (kinds P n) (fs.toList.map fun f=>(f.type,f.offset)) 0 with
   | some ks=>if ks.length=P.cellsOf t then some ks else none
   | none=>none
  | some (.array len e)=>match kindsP P (kinds P n) ((List.range len).map fun i=>(e,i*P.cellsOf e)) 0 with
   | some ks=>if ks.length=P.cellsOf t then some ks else none
   | none=>none
  | some (.slice e)=>match kinds P n e with
   | some ks=>if ks.length=P.cellsOf e/\0<ks.length then some [.sl ks] else none
   | none=>none
  | _=>none
def stV:Value->Option Value
 | .bool b=>some (.bool b)
 | .int k n=>some (.int k n)
 | .string s=>some (.string s)
 | .slice none 0 0=>some (.slice none 0 0)
 | .slice (some a) len cap=>if len<=cap/\cap<unk/\(cap=0\/a.spot=none) then some (.slice (some ⟨a.block,a.off,some 0⟩) len cap) else none
 | _=>none
def stOf (W:World):Nat->Nat->Option Value:=fun b i=>(W.cell? ⟨b,i,none⟩).bind stV
theorem stV_vr {v u:Value}(h:stV v=some u) (ρ:Ren):VR ρ u v/\u.oneCell'=true:=by
 unfold stV at h
 split at h<;>first | (cases h; done) | skip
 ·obtain rfl:=Option.some.inj h; exact ⟨.bool _,rfl⟩
 ·obtain rfl:=Option.some.inj h; exact ⟨.int _ _,rfl⟩
 ·obtain rfl:=Option.some.inj h; exact ⟨.string _,rfl⟩
 ·obtain rfl:=Option.some.inj h; exact ⟨.snil,rfl⟩
 ·split at h<;>first | (cases h; done) | skip
  rename_i a len cap hc;obtain rfl:=Option.some.inj h;refine ⟨.sliceX _ _ len cap hc.2.1 hc.1 ?_,rfl⟩
  rcases hc.2.2 with h0 | h0
  ·exact .inl h0
  ·exact .inr ⟨h0,.inl ⟨0,rfl,rfl,rfl⟩⟩
theorem stOf_good (W:World) (ext:CallA):GoodSt W ⟨stOf W,ext⟩:=by
 intro b i v hv;obtain ⟨c,hc,hs⟩:=Option.bind_eq_some_iff.1 hv
 exact ⟨c,hc,fun ρ=>(stV_vr hs ρ).1⟩
def Opn (B:Nat) (C:Cf) (ks:List Kd) (cs:List Value):Prop :=
 ∃ (ds:List DV) (ws:List Value),ds.length=ks.length/\(∀ (i:Nat) k,ks[i]?=some k->∃ d,ds[i]?=some d/\HasK B k d)/\DRL C noMu ds ws/\cs.length=ks.length/\∀ (i:Nat) v,cs[i]?=some v->∃ u,ws[i]?=some u/\stV v=some u
section
variable {B:Nat}{C:Cf}
theorem Opn.nil:Opn B C [] []:=⟨[],[],rfl,fun i k h=>by simp at h,.nil _ _,rfl,fun i v h=>by simp at h⟩
theorem Opn.append {ks ls:List Kd}{cs es:List Value}(h:Opn B C ks cs) (k:Opn B C ls es):Opn B C (ks++ls) (cs++es):=by
 obtain ⟨ds,ws,a1,a2,a3,a4,a5⟩:=h;obtain ⟨ds',ws',b1,b2,b3,b4,b5⟩:=k;have hw:ws.length=ks.length:=a3.1.symm.trans a1
 refine ⟨ds++ds',ws++ws',by simp [a1,b1],fun i q hq=>?_,a3.append b3,by simp [a4,b4],fun i v hv=>?_⟩
 ·by_cases hi:i<ks.length
  ·rw [List.getElem?_append_left hi] at hq
   rw [List.getElem?_append_left (by omega)]
   exact a2 i q hq
  ·rw [List.getElem?_append_right (by omega)] at hq
   rw [List.getElem?_append_right (by omega),a1]
   exact b2 _ q hq
 ·by_cases hi:i<ks.length
  ·rw [List.getElem?_append_left (by omega)] at hv
   rw [List.getElem?_append_left (by omega)]
   exact a5 i v hv
  ·rw [List.getElem?_append_right (by omega),a4] at hv
   rw [List.getElem?_append_right (by omega),hw]
   exact b5 _ v hv
theorem Opn.one {k:Kd}{d:DV}{v u:Value}(hk:HasK B k d) (hd:DR C noMu d u) (hv:stV v=some u):Opn B C [k] [v] :=
 ⟨[d],[u],rfl,fun i q h=>by
  cases i with
  | zero=>obtain rfl:=Option.some.inj h; exact ⟨d,rfl,hk⟩
  | succ i=>simp at h,.cons hd (.nil _ _),rfl,fun i x h=>by
  cases i with
  | zero=>obtain rfl:=Option.some.inj h; exact ⟨u,rfl,hv⟩
  | succ i=>simp at h⟩
variable {H:Type}{enc:TypeId×Value->H}{P:Program}{W:World}{held:Bool}{bk:DataW H->Nat}
structure BkOk (bk:DataW H->Nat):Prop where
 str:∀ l,l.length<=bk (.lit (.string l))
 agg:∀ l d,d∈l->bk d<=bk (.agg l)
 sl:∀ l sp d,d∈l->bk d<=bk (.slice l sp)
 len:∀ l sp,l.length<=bk (.slice l sp)
theorem opn_parts {K:TypeId->Option (List Kd)}{m:Nat}{cs:List Value}(ih:∀ t ks,K t=some ks->∀ cs x,DataW.trod enc P W 0 (fun _=>true) held m t cs=some x->bk x.1<=B->Opn B C ks cs) :
  ∀ (ps:List (TypeId×Nat)) (o:Nat) (ks:List Kd) (xs:List (DataW H×List MemPlace)),kindsP P K ps o=some ks->(∀ (i:Nat) q,ps[i]?=some q->DataW.trod enc P W 0 (fun _=>true) held m q.1 ((cs.drop q.2).take (P.cellsOf q.1))=xs[i]?) ->
   xs.length=ps.length->(∀ x∈xs,bk x.1<=B)->Opn B C ks ((cs.drop o).take ks.length)
 | [],o,ks,xs,h,_,_,_=>by
  obtain rfl:=Option.some.inj h
  simpa using Opn.nil
 | (t,o') :: ps,o,ks,xs,h,hx,hl,hb=>by
  unfold kindsP at h
  split at h<;>first | (cases h; done) | skip
  rename_i ho;subst ho
  split at h<;>first | (cases h; done) | skip
  rename_i a b ha hbk
  split at h<;>first | (cases h; done) | skip
  rename_i hlen;obtain rfl:=Option.some.inj h
  cases xs with
  | nil=>simp at hl
  | cons x xs =>
   have h0:=hx 0 (t,o') rfl;simp only [List.getElem?_cons_zero] at h0
   have e:(cs.drop o').take (a++b).length=(cs.drop o').take (P.cellsOf t)++(cs.drop (o'+P.cellsOf t)).take b.length:=by
    rw [List.length_append,hlen,List.take_add,List.drop_drop]
   rw [e]
   exact (ih t a ha _ x h0 (hb x (by simp))).append (opn_parts ih ps _ b xs hbk (fun i q hq=>hx (i+1) q hq) (by simpa using hl) fun x hx=>hb x (by simp [hx]))
theorem add_none {a:Addr}(h:a.spot=none) (j:Nat):a.add j=⟨a.block,a.off+j,none⟩:=by
 cases a;simp only at h;subst h;unfold Addr.add;split
 ·rename_i h0; subst h0; rfl
 ·rfl
theorem opn (hbk:BkOk bk) (ext:CallA):∀ (n:Nat) (t:TypeId) (ks:List Kd),kinds P n t=some ks->∀ (fuel:Nat) (cs:List Value) (x:DataW H×List MemPlace),
  DataW.trod enc P W 0 (fun _=>true) held fuel t cs=some x->bk x.1<=B->Opn B (baseC ⟨stOf W,ext⟩) ks cs
 | 0,_,_,h,_,_,_,_,_=>by cases h
 | n+1,t,ks,h,fuel,cs,x,hx,hB=>by
  unfold kinds at h
  split at h<;>first | (cases h; done) | skip
  ·rename_i k hu;obtain rfl:=Option.some.inj h;obtain ⟨z,rfl,rfl,-⟩:=DataW.trod_int hu hx;exact .one (.int k z) (.v _ rfl) rfl
  ·rename_i hu;obtain rfl:=Option.some.inj h;obtain ⟨b,rfl,rfl⟩:=DataW.trod_bool hu hx;exact .one (.bool b) (.v _ rfl) rfl
  ·rename_i hu;obtain rfl:=Option.some.inj h;obtain ⟨s,rfl,rfl,-⟩:=DataW.trod_string hu hx;refine .one (.str s (Nat.le_trans ?_ (Nat.le_trans (hbk.str _) hB))) (.v _ rfl) rfl;simp
  ·rename_i fs hu
   split at h<;>first | (cases h; done) | skip
   rename_i ks' hk
   split at h<;>first | (cases h; done) | skip
   rename_i hlen;obtain rfl:=Option.some.inj h;obtain ⟨xs,m,rfl,rfl,hc,hl,hf⟩:=DataW.trod_struct hu hx
   have:=opn_parts (fun t ks hk cs x hx hb=>opn hbk ext n t ks hk m cs x hx hb) _ 0 _ xs hk (fun i q hq=>by
    rw [List.getElem?_map,Option.map_eq_some_iff] at hq;obtain ⟨f,hq,rfl⟩:=hq
    exact hf i f (by simpa using hq)) (by simpa using hl) fun y hy=>Nat.le_trans (hbk.agg _ _ (List.mem_map_of_mem hy)) hB
   rw [List.drop_zero,List.take_of_length_le (by omega)] at this
   exact this
  ·rename_i len e hu
   split at h<;>first | (cases h; done) | skip
   rename_i ks' hk
   split at h<;>first | (cases h; done) | skip
   rename_i hlen;obtain rfl:=Option.some.inj h;obtain ⟨xs,m,rfl,rfl,hc,hl,hf⟩:=DataW.trod_array hu hx
   have:=opn_parts (fun t ks hk cs x hx hb=>opn hbk ext n t ks hk m cs x hx hb) _ 0 _ xs hk (fun i q hq=>by
    rw [List.getElem?_map,Option.map_eq_some_iff] at hq;obtain ⟨j,hq,rfl⟩:=hq
    have hj:i<len/\j=i:=by
     rw [List.getElem?_eq_some_iff] at hq;obtain ⟨h1,h2⟩:=hq;simp at h1 h2;exact ⟨h1,h2.symm⟩
    obtain ⟨h1,rfl⟩:=hj
    exact hf _ h1) (by simpa using hl) fun y hy=>Nat.le_trans (hbk.agg _ _ (List.mem_map_of_mem hy)) hB
   rw [List.drop_zero,List.take_of_length_le (by omega)] at this
   exact this
  ·rename_i e hu
   split at h<;>first | (cases h; done) | skip
   rename_i ks' hk
   split at h<;>first | (cases h; done) | skip
   rename_i hlen;obtain ⟨hl1,hl2⟩:=hlen;obtain rfl:=Option.some.inj h
   rcases Go.Deep.open_slice hu hx with ⟨rfl,rfl⟩ | ⟨a,len,cap,m,q,D,Pl,rfl,-,hlc,hcm,hm,rfl,hel⟩
   ·exact .one (.sl ks' (fun _ _=>.any) 0 (Nat.zero_le _) fun i f k hi=>absurd hi (Nat.not_lt_zero _)) (.slnil _ _ _) rfl
   ·simp only [if_true] at hm;obtain rfl:=hm.symm
    have hunk:cap<unk:=Nat.lt_of_le_of_lt hcm (by decide)
    have hsp:0<cap->a.spot=none:=fun h0=>by
     obtain ⟨cs',h1,-⟩:=hel 0 h0
     have:=(World.cells?_some h1).2.2 0 (by omega)
     have hlen':=(World.cells?_some h1).2.1
     rw [List.getElem?_eq_getElem (by omega),Nat.zero_mul] at this
     exact World.cell?_spot (a:=a) (by simpa [Addr.add] using this)
    have one:∀ i,∃ y:List DV×List Value,i<len->y.1.length=ks'.length/\(∀ (f:Nat) k,ks'[f]?=some k->∃ d,y.1[f]?=some d/\HasK B k d)/\DRL (baseC ⟨stOf W,ext⟩) noMu y.1 y.2 /\
      ∀ f,f<ks'.length->∃ u,y.2[f]?=some u/\stOf W a.block (a.off+i*ks'.length+f)=some u/\u.oneCell'=true:=by
     intro i
     by_cases hi:i<len
     ·obtain ⟨cs',h1,h2⟩:=hel i (by omega)
      have hD:bk (D i)<=B:=Nat.le_trans (hbk.sl _ _ (D i) (List.mem_map.2 ⟨i,by simpa using hi,rfl⟩)) hB
      obtain ⟨ds,ws,a1,a2,a3,a4,a5⟩:=opn hbk ext n e ks' hk q cs' (D i,Pl i) h2 hD
      refine ⟨(ds,ws),fun _=>⟨a1,a2,a3,fun f hf=>?_⟩⟩
      have hcell:=(World.cells?_some h1).2.2 f (by omega)
      rw [List.getElem?_eq_getElem (by omega)] at hcell
      obtain ⟨u,hu1,hu2⟩:=a5 f _ (List.getElem?_eq_getElem (by omega))
      refine ⟨u,hu1,?_,(stV_vr hu2 fun _=>none).2⟩
      unfold stOf
      rw [Go.Deep.add_add,add_none (hsp (by omega)),<- hl1] at hcell
      rw [show a.off+i*ks'.length+f=a.off+(i*ks'.length+f) by omega,hcell]
      exact hu2
     ·exact ⟨([],[]),fun h=>absurd h hi⟩
    obtain ⟨Y,hY⟩:=Classical.axiomOfChoice one
    refine .one (d:=.sl false (fun i f=>(Y i).1.getD f .any) ks'.length len) (u:=.slice (some ⟨a.block,a.off,some 0⟩) len cap) (.sl ks' _ len ?_ fun i f k hi hf=>?_) ?_ ?_
    ·refine Nat.le_trans ?_ hB
     have:=hbk.len ((List.range len).map D) ((List.range (cap-len)).map fun j=>D (len+j))
     simpa using this
    ·obtain ⟨d,h1,h2⟩:=(hY i hi).2.1 f k hf;show HasK B k ((Y i).1.getD f .any);rw [List.getD_eq_getElem?_getD,h1];exact h2
    ·refine .sl false _ ks'.length len _ cap (fun i f=>(Y i).2.getD f undef) (.inl ⟨hunk,hlc⟩) hl2 (fun i f hi hf=>?_) fun i f hi hf=>(hY i hi).2.2.1.getD f undef
     obtain ⟨u,h1,h2,h3⟩:=(hY i hi).2.2.2 f hf;show stOf W a.block (a.off+i*ks'.length+f)=some ((Y i).2.getD f undef)/\((Y i).2.getD f undef).oneCell'=true;rw [List.getD_eq_getElem?_getD,h1];exact ⟨h2,h3⟩
    ·show (if len<=cap/\cap<unk/\(cap=0\/a.spot=none) then _ else none)=_
     refine if_pos ⟨hlc,hunk,?_⟩
     rcases Nat.eq_zero_or_pos cap with h0 | h0
     ·exact .inl h0
     ·exact .inr (hsp h0)
end
end Go.DE
