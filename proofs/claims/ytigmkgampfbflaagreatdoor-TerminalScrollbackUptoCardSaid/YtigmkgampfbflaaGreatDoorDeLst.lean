/-
 Lists of whole numbers,as callees and loops see them.
 Conditions: see the theorems.
-/
import Derived.Test.YtigmkgampfbflaaGreatDoorDeCon
namespace Go.DE
open Go Go.AE Go.RowKit
abbrev kv (q:IntKind) (x:Int):DV:=.v (.int q x)
abbrev iv (x:Int):DV:=.v (.int .i64 x)
abbrev sv (s:ByteArray):DV:=.v (.string s)
abbrev bv (b:Bool):DV:=.v (.bool b)
def rowI (q:IntKind) (z:Nat->Int):Nat->Nat->DV:=fun i _=>kv q (z i)
def rowOk (q:IntKind) (g:Nat->Nat->DV) (n:Nat):Prop:=∀ i,i<n->g i 0=kv q (numD (g i 0))
def lw (L:List Int):Nat->Int:=fun j=>L.getD j 0
noncomputable def rowK (q:IntKind) (d:DV) (k:(Nat->Int)->Nat->Option Unit):Option Unit :=
 match d with
 | .sl _ g 1 n=>bif holds (rowOk q g n) then k (fun i=>numD (g i 0)) n else none
 | .v (.slice none 0 0)=>k (fun _=>0) 0
 | _=>none
theorem rowK_some {q:IntKind}{d:DV}{k:(Nat->Int)->Nat->Option Unit}(h:rowK q d k=some ()):∃ t z n,k z n=some ()/\∀ C μ v,DR C μ d v->DR C μ (.sl t (rowI q z) 1 n) v:=by
 unfold rowK at h
 split at h<;>first | (cases h; done) | skip
 ·rename_i t g n;obtain ⟨h1,h2⟩:=bif_none h;have h1:=holds_eq.1 h1
  refine ⟨t,_,n,h2,fun C μ v hv=>?_⟩
  rcases hv.sl_inv with ⟨a,cap,w,rfl,hc,hk,q1,q2⟩ | ⟨rfl,rfl⟩
  ·refine .sl t _ 1 n a cap w hc hk q1 fun i f hi hf=>?_
   obtain rfl:f=0:=by omega
   have:=q2 i 0 hi hf;rw [h1 i hi] at this;exact this
  ·exact .slnil t _ 1
 ·refine ⟨true,_,0,h,fun C μ v hv=>?_⟩
  cases hv;exact .slnil true _ 1
def lstB (q:IntKind) (L:List Int):DBlk:=⟨1,.tab L.length (rowI q (lw L))⟩
def HasL (q:IntKind) (c:DC) (L:List Int):Prop:=L.length<=c.n/\c.good/\∀ j,j<L.length->c.get j 0=kv q (lw L j)
theorem HasL.sub {q:IntKind}{r:Nat->Option Nat}{c:DC}{L:List Int}(h:HasL q c L):SubC r (lstB q L) ⟨1,c⟩ :=
 ⟨rfl,h.1,trivial,fun i f hi hf=>by
  obtain rfl:f=0:=by
   have:f<1:=hf;omega
  rw [h.2.2 i hi];exact .v _⟩
theorem HasL.tab {q:IntKind}{L:List Int}:HasL q (.tab L.length (rowI q (lw L))) L:=⟨Nat.le_refl _,trivial,fun _ _=>rfl⟩
theorem HasL.nil {q:IntKind}{c:DC}(h:c.good):HasL q c []:=⟨Nat.zero_le _,h,fun j hj=>absurd hj (Nat.not_lt_zero _)⟩
theorem HasL.one {q:IntKind}{v w:Int}(h:v=w):HasL q (.lst [[kv q v]]) [w]:=⟨Nat.le_refl _,trivial,fun j hj=>by
 obtain rfl:j=0:=by simpa using hj
 subst h;rfl⟩
theorem HasL.lst {q:IntKind}(M:List Int):HasL q (.lst (M.map fun v=>[kv q v])) M:=⟨by show M.length<=(M.map fun v=>[kv q v]).length; simp,trivial,fun j hj=>by
 show ((M.map fun v=>[kv q v]).getD j []).getD 0 .any=kv q (lw M j)
 have e:(M.map fun v=>[kv q v]).getD j []=[kv q M[j]]:=by rw [List.getD_eq_getElem?_getD,List.getElem?_map,List.getElem?_eq_getElem hj]; rfl
 rw [e];simp [lw,List.getElem?_eq_getElem hj]⟩
theorem HasL.app {q:IntKind}{c d:DC}{L M:List Int}{n:Nat}(hn:n=L.length) (h:HasL q c L) (k:HasL q d M):HasL q (.app (.pre c n) d) (L++M):=by
 subst hn
 refine ⟨?_,⟨⟨h.2.1,h.1⟩,k.2.1⟩,fun j hj=>?_⟩
 ·show (L++M).length<=L.length+d.n;have:=k.1;simp only [List.length_append];omega
 ·have e:(DC.app (.pre c L.length) d).get j 0=if j<L.length then c.get j 0 else d.get (j-L.length) 0:=rfl
  rw [e]
  by_cases hjl:j<L.length
  ·rw [if_pos hjl,h.2.2 j hjl];simp [lw,List.getElem?_append_left hjl]
  ·rw [if_neg hjl,k.2.2 (j-L.length) (by simp at hj; omega)]
   simp [lw,List.getElem?_append_right (Nat.le_of_not_lt hjl)]
end Go.DE
namespace Go.DE
open Go Go.AE Go.RowKit
structure InE where
 f:FuncId
 fn:Func
 E:Env Unit
def inH (P:Program):List InE->List (FuncId×ConF)->CallD Unit
 | [],l=>tblD l
 | e :: r,l=>fun g args σ k=>match Nat.beq g e.f with
  | true=>bodyD P e.E e.fn args σ k
  | false=>inH P r l g args σ k
def notIn:List InE->FuncId->Bool
 | [],_=>true
 | e :: r,g=>match Nat.beq g e.f with
  | true=>false
  | false=>notIn r g
structure InOk (P:Program) (st:AE.Stat) (e:InE):Prop where
 hf:P.funcs[e.f]?=some e.fn
 hn:(e.fn.name== "runtime.NumGoroutine")=false
 hb:e.fn.body.isNone=false
 hxt:∀ a σ,st.ext e.f a σ=none
 hE:EnvOk P st e.E
 hgl:GlOk st e.E.gl
 hl:∀ x∈loopsOf e.fn,∀ g,e.E.lp x.1=some g->LoopSR e.E.gz P st e.E.gl x.2 g
 hz:e.E.gz=false
section
variable {P:Program}{st:AE.Stat}{l:List (FuncId×ConF)}
theorem inH_call {z:Bool}(hl:∀ x∈l,ConOkZ z P st x.1 x.2):∀ {hs:List InE},(∀ e∈hs,InOk P st e)->CallS z P st (inH P hs l)
 | [],_=>tblD_call hl
 | e :: r,h=>fun f args σd k x hx C μ σ vs hS ha=>by
  unfold inH at hx;split at hx
  ·rename_i he;obtain rfl:=Nat.eq_of_beq_eq_true he
   have ho:=h e (by simp)
   obtain ⟨v,σ',C',μ',d,σd',⟨N,hN⟩,h1,n1,h2,hk⟩:=bodyD_some ho.hE ho.hl hS ha (ho.hgl.2 _ _ _ _ hS) hx;rw [ho.hz] at n1;have n1:Nx1 false C μ σ σd C' μ' σ' σd':=n1
   refine ⟨v,σ',C',μ',d,σd',⟨N+1,fun n m hn' hm=>?_⟩,h1,⟨n1.toNx,fun _=>n1.one rfl⟩,h2,hk⟩
   obtain ⟨m,rfl⟩:∃ m',m=m'+1:=⟨m-1,by omega⟩
   show enterA P (runF P st n (m+1)) e.f vs σ=_;unfold enterA;rw [ho.hf];simp only [ho.hn,ho.hb,Bool.false_eq_true,if_false,runF,ho.hf,ho.hxt]
   exact hN n m (by omega) (by omega)
  ·exact inH_call hl (fun e he=>h e (by simp [he])) f args σd k x hx C μ σ vs hS ha
theorem inH_pure {z:Bool}(hl:∀ x∈l,ConOkZ z P st x.1 x.2):∀ {hs:List InE},PureS P st (inH P hs l) (notIn hs)
 | []=>fun f args σd k r _ hx C μ σ vs h ha=>tblD_pure hl f args σd k r rfl hx C μ σ vs h ha
 | e :: r=>fun f args σd k x hp hx C μ σ vs hS ha=>by
  unfold inH at hx;unfold notIn at hp;split at hx
  ·rename_i he;rw [he] at hp;cases hp
  ·rename_i he;rw [he] at hp;exact inH_pure hl (hs:=r) f args σd k x hp hx C μ σ vs hS ha
end
noncomputable def envH (P:Program) (gl:Gl) (hs:List InE) (l:List (FuncId×ConF)) (lp:Nat->Option (LoopD Unit)) (n:Nat) (mg:List (Nat×List (Nat×List Nat)):=[]) (z:Bool:=false):Env Unit:=⟨inH P hs l,notIn hs,gl,lp,n,joins P gl mg,z⟩
section
variable {P:Program}{st:AE.Stat}{gl:Gl}
theorem envH_ok {hs:List InE}{l:List (FuncId×ConF)}{lp:Nat->Option (LoopD Unit)}{n:Nat}{mg:List (Nat×List (Nat×List Nat))}{z:Bool}(h:∀ e∈hs,InOk P st e) (hl:∀ x∈l,ConOkZ z P st x.1 x.2):EnvOk P st (envH P gl hs l lp n mg z) :=
 ⟨inH_call hl h,inH_pure hl,fun _ _ h=>joins_ok h⟩
theorem con_flatE {E:Env Unit}{f:FuncId}{fn:Func}{F:ConF}(hst:GlOk st E.gl) (hE:EnvOk P st E) (hf:P.funcs[f]?=some fn)
  (hn:(fn.name== "runtime.NumGoroutine")=false) (hb:fn.body.isNone=false) (hxt:∀ a σ,st.ext f a σ=none) (hlp:∀ x∈loopsOf fn,∀ g,E.lp x.1=some g->LoopSR E.gz P st E.gl x.2 g)
  (h:∀ args k,F args k=some ()->∃ args' d0,CvL args args'/\(Clo d0/\Low d0)/\k (fun _=>(d0,[]))=some ()/\bodyD P E fn args' [] (fun d _=>isD d0 d)=some ()):ConOkZ E.gz P st f F:=by
 intro args k hk s C σ vs hS ha;obtain ⟨args',d0,hargs,⟨hc,hlo⟩,hR,hbody⟩:=h args k hk
 exact conOk_run (E:=E) (F:=fun a k=>bif holds (a=args') then k (fun _=>(d0,[])) else none) hf hn hb hxt hst hE hlp (fun a k' hk' s'=>by
  obtain ⟨h1,h2⟩:=bif_none hk';obtain rfl:=holds_eq.1 h1
  exact ⟨_,hbody,fun d σ hd=>⟨_,h2,lowR_flat hlo,finQ_flat hc (holds_eq.1 (bif_none hd).1)⟩⟩) args' k (hT rfl hR) s C σ vs hS (hargs.drl ha)
end
end Go.DE
namespace Go.DE
open Go Go.AE Go.RowKit
def FzQ (d0 d:DV) (σ:DHeap):Prop:=∃ zs:List Nat,SubZ (fun _=>none) (zf σ zs) d0 d/\∀ j∈zs,∀ blk,σ[j]?=some (some blk)->∀ i f,i<blk.c.n->f<blk.k->Clo (blk.c.get i f)
noncomputable def fzq (d0:DV):DV->DHeap->Option Unit:=fun d σ=>bif holds (FzQ d0 d σ) then some () else none
theorem fzq_of {d0 d:DV}{σ:DHeap}(h:FzQ d0 d σ):fzq d0 d σ=some ():=hT h rfl
section
variable {P:Program}{st:AE.Stat}
theorem con_frz {E:Env Unit}{f:FuncId}{fn:Func}{F:ConF}(hz:E.gz=true) (hgl:GlOk st E.gl) (hE:EnvOk P st E) (hf:P.funcs[f]?=some fn)
  (hn:(fn.name== "runtime.NumGoroutine")=false) (hb:fn.body.isNone=false) (hxt:∀ a σ,st.ext f a σ=none) (hlp:∀ x∈loopsOf fn,∀ g,E.lp x.1=some g->LoopSR E.gz P st E.gl x.2 g)
  (h:∀ args k,F args k=some ()->∃ args' d0,CvL args args'/\Low d0/\k (fun _=>(d0,[]))=some ()/\bodyD P E fn args' [] (fzq d0)=some ()):ConOkZ true P st f F:=by
 intro args k hk s C σ vs hS ha;obtain ⟨args',d0,hargs,hlo,hR,hbody⟩:=h args k hk;obtain ⟨v,σ',C',μ',d,σd',⟨N,hN⟩,h1,n1,h2,hx⟩:=bodyD_some hE hlp hS (hargs.drl ha) (hgl.2 _ _ _ _ hS) hbody;obtain ⟨zs,q1,q2⟩:FzQ d0 d σd':=holds_eq.1 (bif_none hx).1;have n0:=NRel.b_w n1
 have nolive:∀ b,¬ Live noMu ([]:DHeap) b:=by
  rintro b ⟨id,blk,x,hb,_⟩
  simp at hb
 have hw:WkZ (fun _=>none) (zf σd' zs) 0 [d] σd' [d0] (List.replicate s none++[]):=by
  refine ⟨.cons q1 .nil,fun j h=>(by omega),fun j i h=>(nomatch h),Nat.zero_le _,fun i j bi bj h=>(by have:=(repl_get.1 h).2; simp at this),fun j b h=>(by have:=(repl_get.1 h).2; simp at this),fun j blk hj=>?_,fun i j h=>nomatch h⟩
  unfold zf at hj;split at hj
  ·rename_i hm;have hb:=Option.join_eq_some_iff.1 hj;exact ⟨hb,q2 j hm blk hb⟩
  ·cases hj
 obtain ⟨C2,hle,hold,hrl⟩:=hw.rl (gl:=E.gl) (τ:=#[v]) hgl.1 ⟨h1,.cons h2 (.nil _ _),hgl.2 _ _ _ _ h1⟩;obtain ⟨x,ys,e,hd,-⟩:=hrl.T.cons_inv
 obtain ⟨rfl,-⟩:v=x/\[]=ys:=by simpa using e
 refine ⟨_,hR,lowR_flat hlo,v,σ',C2,via (fun _=>none) μ',⟨N+1,fun n m hn' hm=>?_⟩,hrl.S,hd,fun id x hx=>(by cases hx),n0.len,fun b hb=>n0.fr b hb (nolive b),fun b hl=>?_,fun b s' o v hv=>?_⟩
 ·obtain ⟨m,rfl⟩:∃ m',m=m'+1:=⟨m-1,by omega⟩
  show enterA P (runF P st n (m+1)) f vs σ=_;unfold enterA;rw [hf];simp only [hn,hb,Bool.false_eq_true,if_false,runF,hf,hxt]
  exact hN n m (by omega) (by omega)
 ·obtain ⟨id,blk,x,hb,hx⟩:=hl;cases hx
 ·rcases hold _ b s' o v hv with q | ⟨_,q3,q4,_⟩
  ·exact (NRel.b_old n1 _ b s' o v q).imp id fun q=>⟨rfl,q.2.2.1,q.2.2.2.elim id fun x=>(nolive b x).elim⟩
  ·refine .inr ⟨rfl,q3,?_⟩
   rcases Nat.lt_or_ge b σ.length with hlt | hge
   ·exact absurd (n0.img b q4 hlt) (nolive b)
   ·exact hge
theorem SubZ.fz0 {r:Nat->Option Nat}{zs:Nat->Option DBlk}{j n k:Nat}{c:DC}{g:Nat->Nat->DV}(h:zs j=some ⟨k,c⟩) (hn:n<=c.n) (hg:∀ i f,c.get i f=g i f):SubZ r zs (.sl false g k n) (.os j 0 n):=by
 have q:=SubZ.fz (r:=r) (a:=0) (n:=n) h (by simpa using hn)
 have e:(fun i f=>(⟨k,c⟩:DBlk).c.get (0+i) f)=g:=by
  funext i f
  rw [Nat.zero_add];exact hg i f
 rw [e] at q;exact q
theorem lp_in {z:Bool}{gl:Gl}{l:List (Nat×Code)}{q:Nat}{g0:LoopD Unit}{c0:Code}(h:(l.filter fun x=>Nat.beq x.1 q).map (·.2)=[c0]) (H:LoopSR z P st gl c0 g0) :
  ∀ x∈l,∀ g,lpOf [(q,g0)] x.1=some g->LoopSR z P st gl x.2 g:=fun x hx g hg=>by
 unfold lpOf at hg;split at hg
 ·rename_i e
  have hm:x.2∈(l.filter fun x=>Nat.beq x.1 q).map (·.2):=List.mem_map.2 ⟨x,List.mem_filter.2 ⟨hx,e⟩,rfl⟩
  rw [h,List.mem_singleton] at hm;rw [hm,<- Option.some.inj hg];exact H
 ·cases hg
end
end Go.DE
namespace Go.DE
open Go Go.AE Go.RowKit
section
variable {P:Program}{st:AE.Stat}{f:FuncId}{fn:Func}
theorem con_extZ {F:ConF}(hf:P.funcs[f]?=some fn) (hn:(fn.name== "runtime.NumGoroutine")=false) (hb:fn.body.isNone=false)
  (h:∀ args k,F args k=some ()->∃ (q n:Nat) (g:Nat->Nat->Value),0<q/\n<unk/\(∀ i j,j<q->fl1 (g i j)=true)/\k (fun _=>(.sl false (fun i j=>.v (g i j)) q n,[]))=some () /\
   ∀ C σ vs,St st C noMu σ []->DRL C noMu args vs->(n=0/\∃ a,st.ext f vs σ=some (.slice (some a) 0 0,σ)) \/
    ∃ l:List Value,(∀ i j,i<n->j<q->l[i*q+j]?=some (g i j))/\st.ext f vs σ=some (.slice (some ⟨σ.length,0,none⟩) n n,σ++[some (.cells l)])):ConOkZ true P st f F:=by
 intro args k hk s C σ vs hS ha;obtain ⟨q,n,g,hq,hnu,hg,hR,he⟩:=h args k hk
 have hlow:LowR ((fun _=>(DV.sl false (fun i j=>.v (g i j)) q n,([]:DHeap))) s):=⟨.sl fun i j _ _=>.v _,fun id blk hb=>by simp at hb⟩
 have hrep:(List.replicate s none++([]:DHeap))=List.replicate s none:=by simp
 have hno:∀ {id:Nat}{blk:DBlk},(List.replicate s none++([]:DHeap))[id]?=some (some blk)->False:=fun hb=>by
  have:=(repl_get.1 hb).2;simp at this
 rcases he C σ vs hS ha with ⟨rfl,a,he⟩ | ⟨l,hl,he⟩
 ·refine ⟨_,hR,hlow,_,σ,C,noMu,enter_ext hf hn hb he,?_,?_,fun id x hm=>(nomatch hm),Nat.le_refl _,fun _ _=>rfl,fun b hl=>?_,fun _ _ _ _ h=>.inl h⟩
  ·exact ⟨hS.frz,fun id blk hb=>(hno hb).elim,fun id blk b x hb=>(hno hb).elim,fun id id' blk blk' b x x' hb=>(hno hb).elim,fun id x hm=>(nomatch hm),hS.low,hS.sta⟩
  ·exact .sl false _ q 0 a 0 (fun i j=>g i j) (.inl ⟨by decide,Nat.le_refl _⟩) hq (fun i j hi=>absurd hi (Nat.not_lt_zero _)) (fun i j hi=>absurd hi (Nat.not_lt_zero _))
  ·obtain ⟨id,blk,x,hb,_⟩:=hl;exact (hno hb).elim
 ·let C':Cf:=fun t b s o=>if t=false/\b=σ.length/\s=none then l[o]? else C t b s o
  have hC:∀ t b s o v,C' t b s o=some v->(t=false/\b=σ.length/\s=none/\l[o]?=some v)\/C t b s o=some v:=fun t b s o v h=>by
   simp only [C'] at h;split at h
   ·rename_i hc; exact .inl ⟨hc.1,hc.2.1,hc.2.2,h⟩
   ·exact .inr h
  have hnew:∀ o,C' false σ.length none o=l[o]?:=fun o=>by simp [C']
  refine ⟨_,hR,hlow,_,_,C',noMu,enter_ext hf hn hb he,?_,?_,fun id x hm=>(nomatch hm),by simp,fun b hb=>by rw [List.getElem?_append_left hb],fun b hl=>?_,fun b s o v h=>?_⟩
  ·refine ⟨fun t b s o v h=>?_,fun id blk hb=>(hno hb).elim,fun id blk b x hb=>(hno hb).elim,fun id id' blk blk' b x x' hb=>(hno hb).elim,fun id x hm=>(nomatch hm),fun t b o v h=>?_,fun b s o v h=>?_⟩
   ·rcases hC t b s o v h with ⟨rfl,rfl,rfl,h2⟩ | h
    ·show (match (σ++[some (Blk.cells l)])[σ.length]? with | some (some (.cells l))=>l[o]? | _=>none)=some v
     rw [List.getElem?_concat_length];exact h2
    ·exact cellA_append (hS.frz t b s o v h)
   ·rcases hC t b none o v h with ⟨_,rfl,_,_⟩ | h
    ·simp
    ·have:=hS.low t b o v h;simp;omega
   ·simp only [C']
    rw [if_neg (by simp)]
    exact hS.sta b s o v h
  ·refine .sl false _ q n ⟨σ.length,0,none⟩ n (fun i j=>g i j) (.inl ⟨hnu,Nat.le_refl _⟩) hq (fun i j hi hj=>⟨?_,fl1_one (hg i j hj)⟩) (fun i j hi hj=>.v _ (hg i j hj))
   rw [hnew]
   simpa using hl i j hi hj
  ·obtain ⟨id,blk,x,hb,_⟩:=hl;exact (hno hb).elim
  ·rcases hC false b s o v h with ⟨_,rfl,rfl,_⟩ | h
   ·exact .inr ⟨rfl,rfl,Nat.le_refl _⟩
   ·exact .inl h
end
end Go.DE
namespace Go.DE
open Go Go.AE Go.RowKit
def keptH:DHeap->DHeap->Bool
 | [],_=>true
 | some _ :: r,some _ :: r'=>keptH r r'
 | none :: r,_ :: r'=>keptH r r'
 | _,_=>false
theorem keptH_get:∀ {σ σ':DHeap},keptH σ σ'=true->∀ {id:Nat}{blk:DBlk},σ[id]?=some (some blk)->∃ blk',σ'[id]?=some (some blk')
 | [],_,_,id,blk,hb=>by simp at hb
 | some b :: r,some b' :: r',h,0,blk,hb=>⟨b',rfl⟩
 | some b :: r,some b' :: r',h,id+1,blk,hb=>keptH_get (σ:=r) (σ':=r') h (by simpa using hb)
 | none :: r,_ :: r',h,0,blk,hb=>by simp at hb
 | none :: r,_ :: r',h,id+1,blk,hb=>keptH_get (σ:=r) (σ':=r') h (by simpa using hb)
 | some b :: r,none :: r',h,_,_,_=>by simp [keptH] at h
 | some b :: r,[],h,_,_,_=>by simp [keptH] at h
 | none :: r,[],h,_,_,_=>by simp [keptH] at h
theorem kept_nx {st:AE.Stat}{C C':Cf}{μ μ':Mu}{σ σ':Heap}{σd σd':DHeap}(h:NxW C μ σ σd C' μ' σ' σd') (hS:St st C' μ' σ' σd') (hk:keptH σd σd'=true):Nx1 true C μ σ σd C' μ' σ' σd' :=
 ⟨⟨h.hC,h.hμ,h.len,h.lend,h.fr,h.img,fun t b s o v x=>by
  rcases h.old t b s o v x with q | ⟨q1,q2,q3 | ⟨id,blk,y,q4,q5⟩⟩
  ·exact .inl q
  ·exact .inr ⟨q1,q2,q3⟩
  ·obtain ⟨blk',hb'⟩:=keptH_get hk q4;have:=hS.sep id blk' b y hb' (h.hμ _ _ q5) t o;rw [q2] at x;rw [this] at x
   cases x⟩,fun e=>nomatch e⟩
def roOp (P:Program) (o:Oper):Bool:=convOk P o.op&&!(cls o.op==3)
def roC (P:Program):Code->Bool
 | .skip=>true
 | .label _=>true
 | .exit _=>true
 | .ret=>true
 | .region _ ops _=>ops.toList.all (roOp P)
 | .seq a b=>roC P a&&roC P b
 | .cond _ a b=>roC P a&&roC P b
 | .block _ a=>roC P a
 | .scope a=>roC P a
 | _=>false
def Pre (σ σ':Heap):Prop:=σ.length<=σ'.length/\∀ b,b<σ.length->σ'[b]?=σ[b]?
theorem Pre.refl (σ:Heap):Pre σ σ:=⟨Nat.le_refl _,fun _ _=>rfl⟩
theorem Pre.trans {a b c:Heap}(h:Pre a b) (k:Pre b c):Pre a c:=⟨Nat.le_trans h.1 k.1,fun i hi=>(k.2 i (Nat.lt_of_lt_of_le hi h.1)).trans (h.2 i hi)⟩
section
variable {P:Program}{st:AE.Stat}{call:CallA}{n:Nat}
theorem ro_step {ops:Array Oper}{o:Oper}{τ τ':Array Value}{σ σ':Heap}(ho:roOp P o=true) (h:stepA P st call ops o τ σ=some (τ',σ')):Pre σ σ':=by
 unfold roOp at ho;obtain ⟨hc,h3⟩:=Bool.and_eq_true_iff.1 ho
 have h3:cls o.op≠3:=by simpa using h3
 unfold stepA at h
 split at h<;>first | (cases h; done) | skip
 split at h
 ·split at h<;>first | (cases h; done) | skip
  rename_i v σ1 hop;simp only [Option.some.injEq,Prod.mk.injEq] at h;obtain ⟨-,rfl⟩:=h
  rcases opA_cls hc h3 hop with ⟨e,_⟩ | ⟨_,e,_⟩ | ⟨_,b,e,_⟩
  ·rw [e]; exact .refl _
  ·rw [e]; exact .refl _
  ·rw [e]
   exact ⟨by simp,fun b hb=>List.getElem?_append_left hb⟩
 ·simp only [Option.some.injEq,Prod.mk.injEq] at h;obtain ⟨-,rfl⟩:=h;exact .refl _
theorem ro_run {ops:Array Oper}:∀ {l:List Oper}{τ τ':Array Value}{σ σ':Heap},l.all (roOp P)=true->runA P st call ops l τ σ=some (τ',σ')->Pre σ σ'
 | [],τ,τ',σ,σ',_,h=>by
  simp only [runA,Option.some.injEq,Prod.mk.injEq] at h;obtain ⟨-,rfl⟩:=h;exact .refl _
 | o :: r,τ,τ',σ,σ',hl,h=>by
  simp only [List.all_cons,Bool.and_eq_true] at hl;unfold runA at h
  split at h<;>first | (cases h; done) | skip
  rename_i τ1 σ1 h1;exact (ro_step hl.1 h1).trans (ro_run hl.2 h)
theorem ro_trace {ops:Array Oper}:∀ {l:List Oper}{τ τ':Array Value}{σ σ':Heap}{tr:List (Array Value×Heap)},l.all (roOp P)=true->traceA P st call ops l τ σ=some tr->tr.getLast?=some (τ',σ')->Pre σ σ'
 | [],τ,τ',σ,σ',tr,_,h,hl=>by
  simp only [traceA,Option.some.injEq] at h;subst h;simp only [List.getLast?_singleton,Option.some.injEq,Prod.mk.injEq] at hl;obtain ⟨-,rfl⟩:=hl;exact .refl _
 | o :: r,τ,τ',σ,σ',tr,hall,h,hl=>by
  simp only [List.all_cons,Bool.and_eq_true] at hall;unfold traceA at h
  split at h<;>first | (cases h; done) | skip
  rename_i τ1 σ1 h1;obtain ⟨tr1,h2,rfl⟩:=Option.map_eq_some_iff.1 h;refine (ro_step hall.1 h1).trans (ro_trace hall.2 h2 (?_:tr1.getLast?=some (τ',σ')))
  cases tr1 with
  | nil =>
   cases r with
   | nil=>simp [traceA] at h2
   | cons o' r' =>
    unfold traceA at h2;split at h2
    ·obtain ⟨_,-,e⟩:=Option.map_eq_some_iff.1 h2;cases e
    ·cases h2
  | cons a l =>
   rw [List.getLast?_cons_cons] at hl;exact hl
theorem ro_exec:∀ (c:Code) {τ τ':Array Value}{σ σ':Heap}{e:Ex},roC P c=true->execA P st call n c τ σ=some (e,τ',σ')->Pre σ σ':=by
 intro c
 induction c with
 | region a ops d =>
  intro τ τ' σ σ' e hr h;simp only [roC] at hr;unfold execA at h
  split at h<;>first | (cases h; done) | skip
  rename_i τ1 σ1 h1;simp only [Option.some.injEq,Prod.mk.injEq] at h;obtain ⟨-,-,rfl⟩:=h;split at h1
  ·unfold drawA at h1
   split at h1<;>first | (cases h1; done) | skip
   split at h1<;>first | (cases h1; done) | skip
   rename_i tr ht
   split at h1<;>first | (cases h1; done) | skip
   exact ro_trace hr ht h1
  ·exact ro_run hr h1
 | seq a b iha ihb =>
  intro τ τ' σ σ' e hr h;simp only [roC,Bool.and_eq_true] at hr;unfold execA at h;split at h
  ·rename_i τ1 σ1 h1;exact (iha hr.1 h1).trans (ihb hr.2 h)
  ·exact iha hr.1 h
 | cond x a b iha ihb =>
  intro τ τ' σ σ' e hr h;simp only [roC,Bool.and_eq_true] at hr;unfold execA at h
  split at h<;>first | (cases h; done) | skip
  split at h
  ·exact iha hr.1 h
  ·exact ihb hr.2 h
 | block id a iha =>
  intro τ τ' σ σ' e hr h;simp only [roC] at hr;unfold execA at h;split at h
  ·rename_i k τ1 σ1 h1;split at h
   ·simp only [Option.some.injEq,Prod.mk.injEq] at h;obtain ⟨-,-,rfl⟩:=h;exact iha hr h1
   ·simp only [Option.some.injEq,Prod.mk.injEq] at h;obtain ⟨-,-,rfl⟩:=h;exact iha hr h1
  ·exact iha hr h
 | scope a iha =>
  intro τ τ' σ σ' e hr h;simp only [roC] at hr;unfold execA at h;exact iha hr h
 | skip =>
  intro τ τ' σ σ' e hr h;simp only [execA,Option.some.injEq,Prod.mk.injEq] at h;obtain ⟨-,-,rfl⟩:=h;exact .refl _
 | label l =>
  intro τ τ' σ σ' e hr h;simp only [execA,Option.some.injEq,Prod.mk.injEq] at h;obtain ⟨-,-,rfl⟩:=h;exact .refl _
 | exit i =>
  intro τ τ' σ σ' e hr h;simp only [execA,Option.some.injEq,Prod.mk.injEq] at h;obtain ⟨-,-,rfl⟩:=h;exact .refl _
 | ret =>
  intro τ τ' σ σ' e hr h;simp only [execA,Option.some.injEq,Prod.mk.injEq] at h;obtain ⟨-,-,rfl⟩:=h;exact .refl _
 | _=>intro τ τ' σ σ' e hr h; simp [roC] at hr
def roFn (P:Program) (fn:Func):Bool:=match fn.body with
 | none=>false
 | some c=>roC P c
theorem ro_body {fn:Func}{args:List Value}{σ σ':Heap}{v:Value}(hr:roFn P fn=true) (h:bodyA P st call n fn args σ=some (v,σ')):Pre σ σ':=by
 unfold roFn at hr;unfold bodyA at h
 split at hr<;>first | (cases hr; done) | skip
 rename_i c hb;rw [hb] at h
 dsimp only at h
 split at h
 ·rename_i τ1 σ1 h1;obtain ⟨x,-,e⟩:=Option.map_eq_some_iff.1 h;simp only [Prod.mk.injEq] at e;obtain ⟨-,rfl⟩:=e;exact ro_exec c hr h1
 ·rename_i τ1 σ1 h1;obtain ⟨x,-,e⟩:=Option.map_eq_some_iff.1 h;simp only [Prod.mk.injEq] at e;obtain ⟨-,rfl⟩:=e;exact ro_exec c hr h1
 ·cases h
end
structure InOkZ (P:Program) (st:AE.Stat) (e:InE):Prop where
 hf:P.funcs[e.f]?=some e.fn
 hn:(e.fn.name== "runtime.NumGoroutine")=false
 hb:e.fn.body.isNone=false
 hxt:∀ a σ,st.ext e.f a σ=none
 hE:EnvOk P st e.E
 hgl:GlOk st e.E.gl
 hl:∀ x∈loopsOf e.fn,∀ g,e.E.lp x.1=some g->LoopSR e.E.gz P st e.E.gl x.2 g
abbrev HcF:=List DV->DHeap->(DV->DHeap->Option Unit)->Option Unit
def HcOk (P:Program) (st:AE.Stat) (f:FuncId) (F:HcF):Prop :=
 ∀ args σd k,F args σd k=some ()->∀ C μ σ vs,St st C μ σ σd->DRL C μ args vs->OpRes true st C μ σ σd (fun n m=>enterA P (runF P st n m) f vs σ) k ()
def notInZ (P:Program):List InE->FuncId->Bool
 | [],_=>true
 | e :: r,g=>match Nat.beq g e.f with
  | true=>roFn P e.fn
  | false=>notInZ P r g
def inZ (P:Program):List InE->CallD Unit->CallD Unit
 | [],c=>c
 | e :: r,c=>fun g args σ k=>match Nat.beq g e.f with
  | true=>bodyD P e.E e.fn args σ fun d σ'=>match keptH σ σ' with
   | true=>k d σ'
   | false=>none
  | false=>inZ P r c g args σ k
def hcD:List (FuncId×HcF)->CallD Unit->CallD Unit
 | [],c=>c
 | e :: r,c=>fun g args σ k=>match Nat.beq g e.1 with
  | true=>e.2 args σ k
  | false=>hcD r c g args σ k
def notHc:List (FuncId×HcF)->FuncId->Bool
 | [],_=>true
 | e :: r,g=>match Nat.beq g e.1 with
  | true=>false
  | false=>notHc r g
section
variable {P:Program}{st:AE.Stat}{l:List (FuncId×ConF)}
theorem inZ_call {c:CallD Unit}(hc:CallS true P st c):∀ {hs:List InE},(∀ e∈hs,InOkZ P st e)->CallS true P st (inZ P hs c)
 | [],_=>hc
 | e :: r,h=>fun f args σd k x hx C μ σ vs hS ha=>by
  unfold inZ at hx;split at hx
  ·rename_i he;obtain rfl:=Nat.eq_of_beq_eq_true he
   have ho:=h e (by simp)
   obtain ⟨v,σ',C',μ',d,σd',⟨N,hN⟩,h1,n1,h2,hk⟩:=bodyD_some ho.hE ho.hl hS ha (ho.hgl.2 _ _ _ _ hS) hx;have nw:=NRel.b_w n1
   dsimp only at hk
   split at hk
   ·rename_i hkept
    refine ⟨v,σ',C',μ',d,σd',⟨N+1,fun n m hn' hm=>?_⟩,h1,kept_nx nw h1 hkept,h2,hk⟩
    obtain ⟨m,rfl⟩:∃ m',m=m'+1:=⟨m-1,by omega⟩
    show enterA P (runF P st n (m+1)) e.f vs σ=_;unfold enterA;rw [ho.hf];simp only [ho.hn,ho.hb,Bool.false_eq_true,if_false,runF,ho.hf,ho.hxt]
    exact hN n m (by omega) (by omega)
   ·cases hk
  ·exact inZ_call hc (fun e he=>h e (by simp [he])) f args σd k x hx C μ σ vs hS ha
theorem inZ_pure {c:CallD Unit}{p:FuncId->Bool}(hc:PureS P st c p):∀ {hs:List InE},(∀ e∈hs,InOkZ P st e)->PureS P st (inZ P hs c) (fun g=>notInZ P hs g&&(notIn hs g&&p g||!notIn hs g))
 | [],_=>fun f args σd k r hp hx=>hc f args σd k r (by simpa [notInZ,notIn] using hp) hx
 | e :: r,h=>fun f args σd k x hp hx C μ σ vs hS ha=>by
  unfold inZ at hx;simp only [notInZ,notIn] at hp;split at hx
  ·rename_i he;simp only [he] at hp
   have hr:roFn P e.fn=true:=by simpa using hp
   obtain rfl:=Nat.eq_of_beq_eq_true he
   have ho:=h e (by simp)
   obtain ⟨v,σ',C',μ',d,σd',⟨N,hN⟩,h1,n1,h2,hk⟩:=bodyD_some ho.hE ho.hl hS ha (ho.hgl.2 _ _ _ _ hS) hx
   refine ⟨v,σ',⟨N+1,fun n m hn' hm=>?_⟩,(ro_body hr (hN N N (Nat.le_refl _) (Nat.le_refl _))).2⟩
   obtain ⟨m,rfl⟩:∃ m',m=m'+1:=⟨m-1,by omega⟩
   show enterA P (runF P st n (m+1)) e.f vs σ=_;unfold enterA;rw [ho.hf];simp only [ho.hn,ho.hb,Bool.false_eq_true,if_false,runF,ho.hf,ho.hxt]
   exact hN n m (by omega) (by omega)
  ·rename_i he;simp only [he] at hp
   exact inZ_pure hc (hs:=r) (fun e he=>h e (by simp [he])) f args σd k x hp hx C μ σ vs hS ha
theorem hcD_call {c:CallD Unit}(hc:CallS true P st c):∀ {hs:List (FuncId×HcF)},(∀ e∈hs,HcOk P st e.1 e.2)->CallS true P st (hcD hs c)
 | [],_=>hc
 | e :: r,h=>fun f args σd k x hx C μ σ vs hS ha=>by
  unfold hcD at hx;split at hx
  ·rename_i he;obtain rfl:=Nat.eq_of_beq_eq_true he
   exact h e (by simp) args σd k hx C μ σ vs hS ha
  ·exact hcD_call hc (fun e he=>h e (by simp [he])) f args σd k x hx C μ σ vs hS ha
theorem hcD_pure {c:CallD Unit}{p:FuncId->Bool}(hc:PureS P st c p):∀ {hs:List (FuncId×HcF)},PureS P st (hcD hs c) (fun g=>notHc hs g&&p g)
 | []=>fun f args σd k r hp hx=>hc f args σd k r (by simpa [notHc] using hp) hx
 | e :: r=>fun f args σd k x hp hx C μ σ vs hS ha=>by
  unfold hcD at hx;simp only [notHc] at hp;split at hx
  ·rename_i he;simp only [he] at hp;cases hp
  ·rename_i he;simp only [he] at hp;exact hcD_pure hc (hs:=r) f args σd k x hp hx C μ σ vs hS ha
end
noncomputable def envG (P:Program) (gl:Gl) (hc:List (FuncId×HcF)) (hs:List InE) (l:List (FuncId×ConF)) (lp:Nat->Option (LoopD Unit)) (n:Nat) (mg:List (Nat×List (Nat×List Nat)):=[]):Env Unit :=
 ⟨hcD hc (inZ P hs (tblD l)),fun g=>notHc hc g&&(notInZ P hs g&&(notIn hs g&&true||!notIn hs g)),gl,lp,n,joins P gl mg,true⟩
section
variable {P:Program}{st:AE.Stat}{gl:Gl}
theorem envG_ok {hc:List (FuncId×HcF)}{hs:List InE}{l:List (FuncId×ConF)}{lp:Nat->Option (LoopD Unit)}{n:Nat}{mg:List (Nat×List (Nat×List Nat))}(h0:∀ e∈hc,HcOk P st e.1 e.2) (h:∀ e∈hs,InOkZ P st e) (hl:∀ x∈l,ConOkZ true P st x.1 x.2):EnvOk P st (envG P gl hc hs l lp n mg) :=
 ⟨hcD_call (inZ_call (tblD_call hl) h) h0,hcD_pure (inZ_pure (tblD_pure hl) h),fun _ _ h=>joins_ok h⟩
end
end Go.DE
namespace Go.DE
open Go Go.AE Go.RowKit
def FinZ (s:Nat) (R:DV×DHeap) (d:DV) (σ:DHeap):Prop:=∃ r zs,(∀ j i,r j=some i->s<=j)/\WkZ r zs 0 [d] σ [R.1] (List.replicate s none++R.2)
noncomputable def finz (s:Nat) (R:DV×DHeap):DV->DHeap->Option Unit:=fun d σ=>bif holds (FinZ s R d σ) then some () else none
theorem finz_of {s:Nat}{R:DV×DHeap}{d:DV}{σ:DHeap}(h:FinZ s R d σ):finz s R d σ=some ():=hT h rfl
theorem finZ_one {s id:Nat}{c:DC}{k:Nat}{σ:DHeap}{blk:DBlk}{d2 d':DV}(l:List Nat) (e:SubZ (fun j=>if j=s then some id else none) (zf σ l) d2 d') (hi:id ∉ l) (hb:σ[id]?=some (some blk)) (hk:k=blk.k) (hn:c.n<=blk.c.n) (hg:c.good)
  (hc:∀ i f,i<c.n->f<k->Clo (c.get i f)/\blk.c.get i f=c.get i f) (hz:∀ j∈l,∀ blk,σ[j]?=some (some blk)->∀ i f,i<blk.c.n->f<blk.k->Clo (blk.c.get i f)):FinZ s (d2,[some ⟨k,c⟩]) d' σ:=by
 have at0:∀ {j:Nat}{b},(List.replicate s none++[some (⟨k,c⟩:DBlk)])[j]?=some (some b)->j=s/\b=⟨k,c⟩:=by
  intro j b hj;obtain ⟨h1,h2⟩:=repl_get.1 hj
  cases hx:j-s with
  | zero=>rw [hx] at h2; simp only [List.getElem?_cons_zero,Option.some.injEq] at h2; exact ⟨by omega,h2.symm⟩
  | succ m=>rw [hx] at h2; simp at h2
 have rj:∀ {j i:Nat},(if j=s then some id else none)=some i->j=s/\i=id:=by
  intro j i h;split at h
  ·rename_i h0;exact ⟨h0,(Option.some.inj h).symm⟩
  ·cases h
 refine ⟨fun j=>if j=s then some id else none,zf σ l,fun j i h=>by have:=(rj h).1; omega,⟨.cons e .nil,fun j h=>by omega,fun j i h=>?_,by simp,fun a b ba bb ha hb _=>by rw [(at0 ha).1,(at0 hb).1],fun j b hj=>?_,fun j blk hj=>?_,fun i j h=>?_⟩⟩
 ·have:=(rj h).1;simp only [List.length_append,List.length_replicate,List.length_cons,List.length_nil];omega
 ·obtain ⟨rfl,rfl⟩:=at0 hj
  refine ⟨id,blk,by simp,hb,hk,hn,hg,fun i f hi hf=>?_⟩
  obtain ⟨h1,h2⟩:=hc i f hi hf;show SubZ _ _ (c.get i f) (blk.c.get i f);rw [h2];exact (Sub.of_clo h1).z
 ·unfold zf at hj;split at hj
  ·rename_i hm;have hb:=Option.join_eq_some_iff.1 hj;exact ⟨hb,hz j hm blk hb⟩
  ·cases hj
 ·obtain ⟨_,rfl⟩:=rj h;unfold zf;rw [if_neg hi]
section
variable {P:Program}{st:AE.Stat}
theorem con_any {E:Env Unit}{f:FuncId}{fn:Func}{F:ConF}(hgl:GlOk st E.gl) (hE:EnvOk P st E) (hf:P.funcs[f]?=some fn)
  (hn:(fn.name== "runtime.NumGoroutine")=false) (hb:fn.body.isNone=false) (hxt:∀ a σ,st.ext f a σ=none) (hlp:∀ x∈loopsOf fn,∀ g,E.lp x.1=some g->LoopSR E.gz P st E.gl x.2 g)
  (h:∀ args k,F args k=some ()->∃ args' R,CvL args args'/\k R=some ()/\∀ s,LowR (R s)/\bodyD P E fn args' [] (finz s (R s))=some ()):ConOkZ true P st f F:=by
 intro args k hk s C σ vs hS ha;obtain ⟨args',R,hargs,hR,hs⟩:=h args k hk;obtain ⟨hlow,hbody⟩:=hs s;obtain ⟨v,σ',C',μ',d,σd',⟨N,hN⟩,h1,n1,h2,hx⟩:=bodyD_some hE hlp hS (hargs.drl ha) (hgl.2 _ _ _ _ hS) hbody;obtain ⟨r,zs,hr,hw⟩:FinZ s (R s) d σd':=holds_eq.1 (bif_none hx).1;have n0:=NRel.b_w n1
 have nolive:∀ b,¬ Live noMu ([]:DHeap) b:=by
  rintro b ⟨id,blk,x,hb,_⟩
  simp at hb
 obtain ⟨C2,hle,hold,hrl⟩:=hw.rl (gl:=E.gl) (τ:=#[v]) hgl.1 ⟨h1,.cons h2 (.nil _ _),hgl.2 _ _ _ _ h1⟩;obtain ⟨x,ys,e,hd,-⟩:=hrl.T.cons_inv
 obtain ⟨rfl,-⟩:v=x/\[]=ys:=by simpa using e
 refine ⟨_,hR,hlow,v,σ',C2,via r μ',⟨N+1,fun n m hn' hm=>?_⟩,hrl.S,hd,fun id x hx=>?_,n0.len,fun b hb=>n0.fr b hb (nolive b),fun b hl=>?_,fun b s' o v hv=>?_⟩
 ·obtain ⟨m,rfl⟩:∃ m',m=m'+1:=⟨m-1,by omega⟩
  show enterA P (runF P st n (m+1)) f vs σ=_;unfold enterA;rw [hf];simp only [hn,hb,Bool.false_eq_true,if_false,runF,hf,hxt]
  exact hN n m (by omega) (by omega)
 ·unfold via at hx;split at hx
  ·rename_i i hi;exact hr id i hi
  ·cases hx
 ·rcases Nat.lt_or_ge b σ.length with hlt | hge
  ·exact absurd (n0.img b (hw.live hl) hlt) (nolive b)
  ·exact hge
 ·rcases hold _ b s' o v hv with q | ⟨_,q3,q4,_⟩
  ·exact (NRel.b_old n1 _ b s' o v q).imp id fun q=>⟨rfl,q.2.2.1,q.2.2.2.elim id fun x=>(nolive b x).elim⟩
  ·refine .inr ⟨rfl,q3,?_⟩
   rcases Nat.lt_or_ge b σ.length with hlt | hge
   ·exact absurd (n0.img b q4 hlt) (nolive b)
   ·exact hge
end
end Go.DE
