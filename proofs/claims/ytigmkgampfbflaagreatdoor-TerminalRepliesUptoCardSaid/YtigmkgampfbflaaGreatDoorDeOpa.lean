/-
 What an operation of the evaluator comes to once its operands are known: helpers for the symbolic evaluator.
 Conditions: see the theorems.
-/
import Derived.Test.YtigmkgampfbflaaGreatDoorDeVal
namespace Go.DE
open Go Go.AE
def Lim {β:Type}(F:Nat->Nat->Option β) (b:β):Prop:=∃ N,∀ n d,N<=n->N<=d->F n d=some b
theorem Lim.const {β:Type}{F:Nat->Nat->Option β}{b:β}(h:∀ n d,F n d=some b):Lim F b:=⟨0,fun n d _ _=>h n d⟩
theorem peek_bind {α β:Type}{P:Program}(s:Sem α) (f:α->Sem β):peek P (s.bind f)=match peek P s with | some a=>peek P (f a) | none=>none:=by
 induction s with
 | pure a=>rfl
 | program k ih=>exact ih P
 | mark m k ih=>exact ih
 | _=>rfl
theorem peek_bind' {α β:Type}{P:Program}(s:Sem α) (f:α->Sem β):peek P (s >>= f)=match peek P s with | some a=>peek P (f a) | none=>none:=peek_bind s f
theorem peek_pure {α:Type}{P:Program}(a:α):peek P (pure a:Sem α)=some a:=rfl
theorem peek_new {P:Program}{t:TypeId}{cs:Array Value}:peek P (newRow t cs)=none:=rfl
section
variable {P:Program}{st:AE.Stat}{call:CallA}{ev:Operand->Value}{o:Oper}{σ:Heap}
theorem opA_none (hc:constsOk o.op=true) (h:peekA P ev o=none):opA P st call ev o σ=specA P st call ev o.op σ:=by
 unfold opA;rw [if_pos hc,h]
theorem peekA_nonflat {x:Operand}(hx:x∈o.op.operands) (h:flat (ev x)=false):peekA P ev o=none:=by
 unfold peekA;rw [if_neg];simp only [Bool.and_eq_true,not_and];intro hall
 have:=List.all_eq_true.1 hall x (by simpa using hx)
 rw [h] at this;cases this
theorem peekA_peek (h:∀ u,peek P (execOp ev o)=some (.value u)->flat u=false):peekA P ev o=none:=by
 unfold peekA;split
 ·split
  ·rename_i v hv
   rw [if_neg (by rw [h v hv]; simp)]
  ·rfl
 ·rfl
theorem opA_move {x:Operand}(hc:constsOk o.op=true) (ho:o.op=.move x\/o.op=.assign x):opA P st call ev o σ=some (ev x,σ):=by
 have hp:peek P (execOp ev o)=some (.value (ev x)):=by
  unfold execOp
  rcases ho with ho | ho<;>rw [ho]<;>rfl
 have hs:specA P st call ev o.op σ=some (ev x,σ):=by rcases ho with ho | ho<;>rw [ho]<;>rfl
 unfold opA;rw [if_pos hc];unfold peekA;rw [hp];split
 ·rename_i u hu;split at hu
  ·simp only at hu;split at hu
   ·obtain rfl:=Option.some.inj hu;rfl
   ·cases hu
  ·cases hu
 ·exact hs
theorem peek_alloc {e:TypeId}(ho:o.op=.alloc e) (u:Value):peek P (execOp ev o)≠some (.value u):=by
 unfold execOp;rw [ho];simp only [Instr.alloc,peek_bind',newVar,peek_new]
 cases peek P (zeroValue e)<;>simp
theorem peek_box {e:TypeId}{x:Operand}(ho:o.op=.box e x) (u:Value):peek P (execOp ev o)≠some (.value u):=by
 unfold execOp;rw [ho];simp only [Instr.box,peek_bind',newVar,peek_new];simp
theorem bind_none {α β:Type}{s:Sem α}{f:α->Sem β}(h:∀ a,peek P (f a)=none):peek P (s >>= f)=none:=by
 rw [peek_bind']; cases peek P s<;>simp [h]
theorem bind_left {α β:Type}{s:Sem α}{f:α->Sem β}(h:peek P s=none):peek P (s >>= f)=none:=by
 rw [peek_bind',h]
theorem peek_buildSlice {t:TypeId}{n:Nat}{ps:Array (Nat×Operand)}(ho:o.op=.buildSlice t n ps) (u:Value):peek P (execOp ev o)≠some (.value u):=by
 unfold execOp;rw [ho];simp only [Instr.buildSlice];rw [bind_left]
 ·simp
 ·repeat' first | rfl | (apply bind_none; intro _) | split
theorem peek_makeSlice {t:TypeId}{l c:Operand}(ho:o.op=.makeSlice t l c) (u:Value):peek P (execOp ev o)≠some (.value u):=by
 unfold execOp;rw [ho];simp only [Instr.makeSlice];rw [bind_left]
 ·simp
 ·repeat' first | rfl | (apply bind_none; intro _) | split
theorem peek_makeMap {t:TypeId}(ho:o.op=.makeMap t none) (u:Value):peek P (execOp ev o)≠some (.value u):=by
 unfold execOp;rw [ho];simp only [Instr.makeMap];rw [bind_left]
 ·simp
 ·repeat' first | rfl | (apply bind_none; intro _) | split
theorem peek_len_nil {c:Go.Call}{t:TypeId}{e:TypeId}(ho:o.op=.call c) (hc:c.callee=.builtin .len) (ht:c.argTypes[0]?=some t) (hd:P.underlying t=some (.slice e)) (ha:(c.args.map ev)[0]?=some (.slice none 0 0)) :
  peek P (execOp ev o)=some (.value (goInt 0)):=by
 have hu:peek P (underlying t)=some (.slice e):=by
  unfold underlying
  show peek P (match P.underlying t with | some d=>pure d | none=>stuck "no such type")=_
  rw [hd]; rfl
 unfold execOp;rw [ho];simp only [resolve,hc,invoke,builtin,Builtin.len_];simp only [peek_bind',peek_pure,ht,ha,hu];rfl
theorem peek_append_nil {c:Go.Call}{t t':TypeId}{e:TypeId}{d:TypeDesc}{i:TypeInfo}(ho:o.op=.call c) (hc:c.callee=.builtin .append) (ht:c.argTypes[0]?=some t) (hd:P.underlying t=some (.slice e))
  (ht':c.argTypes[1]?=some t') (hd':P.underlying t'=some d) (hnd:isIntD d=false) (hi:P.info? e=some i)
  (ha:(c.args.map ev)[0]?=some (.slice none 0 0)) (ha':(c.args.map ev)[1]?=some (.slice none 0 0)) :
  peek P (execOp ev o)=some (.value (.slice none 0 0)):=by
 have hu:peek P (underlying t)=some (.slice e):=by
  unfold underlying
  show peek P (match P.underlying t with | some d=>pure d | none=>stuck "no such type")=_
  rw [hd]; rfl
 have hu':peek P (underlying t')=some d:=by
  unfold underlying
  show peek P (match P.underlying t' with | some d=>pure d | none=>stuck "no such type")=_
  rw [hd']; rfl
 have hs:peek P (sizeOf e)=some i.size:=by
  unfold sizeOf typeInfo
  show peek P (((match P.info? e with | some i=>pure i | none=>stuck "no such type") >>= fun i=>pure i.size:Sem Nat))=_
  rw [hi]; rfl
 unfold execOp;rw [ho];simp only [resolve,hc,invoke,builtin,Builtin.append_];simp only [peek_bind',peek_pure,ht,ha,ht',ha',hu,hu',hs]
 cases d<;>first | (cases hnd; done) | rfl
theorem peek_append_str {c:Go.Call}{t t':TypeId}{e:TypeId}{i:TypeInfo}{s:ByteArray}(ho:o.op=.call c) (hc:c.callee=.builtin .append) (ht:c.argTypes[0]?=some t) (hd:P.underlying t=some (.slice e))
  (ht':c.argTypes[1]?=some t') (hd':P.underlying t'=some .string) (hi:P.info? e=some i)
  (ha:(c.args.map ev)[0]?=some (.slice none 0 0)) (ha':(c.args.map ev)[1]?=some (.string s)) (hs0:0<s.size) (u:Value) :
  peek P (execOp ev o)≠some (.value u):=by
 have hu:peek P (underlying t)=some (.slice e):=by
  unfold underlying
  show peek P (match P.underlying t with | some d=>pure d | none=>stuck "no such type")=_
  rw [hd]; rfl
 have hu':peek P (underlying t')=some .string:=by
  unfold underlying
  show peek P (match P.underlying t' with | some d=>pure d | none=>stuck "no such type")=_
  rw [hd']; rfl
 have hs:peek P (sizeOf e)=some i.size:=by
  unfold sizeOf typeInfo
  show peek P (((match P.info? e with | some i=>pure i | none=>stuck "no such type") >>= fun i=>pure i.size:Sem Nat))=_
  rw [hi]; rfl
 unfold execOp;rw [ho];simp only [resolve,hc,invoke,builtin,Builtin.append_];simp only [peek_bind',peek_pure,ht,ha,ht',ha',hu,hu',hs]
 have hn:∀ {x:Option Value}{a:Value},x=none->¬ x=some a:=fun h=>by rw [h]; simp
 intro hcon;split at hcon
 ·rename_i a h;revert h
  apply hn
  simp only [Bool.false_eq_true,if_false];rw [peek_bind',show peek P (Builtin.lenOf (.string s))=some s.size from rfl]
  dsimp only
  rw [if_neg (by omega)]
  repeat' first | rfl | (apply bind_none; intro _) | split
 ·cases hcon
end
end Go.DE
namespace Go.DE
open Go Go.AE
def chunk:Nat->Nat->List DV->List (List DV)
 | 0,_,_=>[]
 | m+1,k,l=>l.take k :: chunk m k (l.drop k)
theorem chunk_length:∀ (m k:Nat) (l:List DV),(chunk m k l).length=m
 | 0,_,_=>rfl
 | m+1,k,l=>by simp [chunk,chunk_length m]
theorem chunk_get:∀ (m k:Nat) (l:List DV) (i f:Nat),i<m->f<k->((chunk m k l).getD i []).getD f .any=l.getD (i*k+f) .any
 | 0,k,l,i,f,hi,hf=>by omega
 | m+1,k,l,0,f,hi,hf=>by
  simp only [chunk,List.getD_cons_zero,Nat.zero_mul,Nat.zero_add];rw [List.getD_eq_getElem?_getD,List.getD_eq_getElem?_getD,List.getElem?_take,if_pos hf]
 | m+1,k,l,i+1,f,hi,hf=>by
  simp only [chunk,List.getD_cons_succ]
  rw [chunk_get m k (l.drop k) i f (by omega) hf,List.getD_eq_getElem?_getD,List.getD_eq_getElem?_getD,List.getElem?_drop]
  congr 2
  rw [Nat.succ_mul];omega
def blockOf (k:Nat) (l:List DV):DBlk:=⟨k,.lst (chunk (l.length / k) k l)⟩
section
variable {st:AE.Stat}{C:Cf}{μ:Mu}{σ:Heap}{σd:DHeap}{P:Program}
theorem oneL {ds:List DV}{xs:List Value}(h:DRL C μ ds xs) (ho:ds.all oneD=true):∀ v∈xs,v.oneCell'=true:=by
 intro v hv;obtain ⟨j,hj⟩:=List.mem_iff_getElem?.1 hv
 have hjl:j<ds.length:=by have:=(List.getElem?_eq_some_iff.1 hj).1; rw [h.1]; exact this
 exact oneD_one (h.2 j _ v (List.getElem?_eq_getElem hjl) hj) (List.all_eq_true.1 ho _ (List.getElem_mem hjl))
theorem blockOf_cells {k:Nat}{ds:List DV}{xs:List Value}(h:DRL C μ ds xs) (ho:ds.all oneD=true) :
  (blockOf k ds).c.n*k<=xs.length/\∀ i f,i<(blockOf k ds).c.n->f<k->∃ v,xs[i*k+f]?=some v/\v.oneCell'=true/\DR C μ ((blockOf k ds).c.get i f) v:=by
 have hn:(blockOf k ds).c.n=ds.length / k:=by simp [blockOf,DC.n,chunk_length]
 have hle:ds.length / k*k<=xs.length:=by rw [<- h.1]; exact Nat.div_mul_le_self _ _
 refine ⟨by rw [hn]; exact hle,fun i f hi hf=>?_⟩
 rw [hn] at hi;have hlt:=pos_lt hi hf
 have hd:i*k+f<ds.length:=by rw [h.1]; omega
 obtain ⟨v,hv,hr⟩:=h.get (List.getElem?_eq_getElem hd);refine ⟨v,hv,oneL h ho v (List.mem_of_getElem? hv),?_⟩;show DR C μ (((chunk (ds.length / k) k ds).getD i []).getD f .any) v;rw [chunk_get _ _ _ _ _ hi hf,List.getD_eq_getElem?_getD,List.getElem?_eq_getElem hd];exact hr
theorem St.pushL (h:St st C μ σ σd) {k:Nat}{ds:List DV}{xs:List Value}(hk:0<k) (hr:DRL C μ ds xs) (ho:ds.all oneD=true) :
  St st C (μ.put σd.length (σ.length,k,xs.length)) (newB σ xs).2 (σd++[some (blockOf k ds)])/\Nx C μ σ σd C (μ.put σd.length (σ.length,k,xs.length)) (newB σ xs).2 (σd++[some (blockOf k ds)]) :=
 h.push hk (blockOf_cells hr ho).1 trivial (blockOf_cells hr ho).2
def fillD (place:Nat->Option (Nat×Nat)) (cells:List DV):List (Nat×DV)->Option (List DV)
 | []=>some cells
 | (i,d) :: rest =>
  match place i with
  | none=>none
  | some (off,size) =>
   match cellsD d with
   | none=>none
   | some cs=>bif cs.length != size||decide (cells.length<off+cs.length) then none else fillD place (cells.take off++cs++cells.drop (off+cs.length)) rest
theorem foldl_set (off:Nat):∀ (l:List Value) (k:Nat) (x:Array Value),off+k+l.length<=x.size ->
  ((l.zipIdx k).foldl (fun cs (p:Value×Nat)=>cs.setIfInBounds (off+p.2) p.1) x).toList=x.toList.take (off+k)++l++x.toList.drop (off+k+l.length)
 | [],k,x,h=>by simp
 | v :: l,k,x,h=>by
  simp only [List.length_cons] at h;simp only [List.zipIdx_cons,List.foldl_cons]
  rw [foldl_set off l (k+1) _ (by simp; omega)]
  apply List.ext_getElem?
  intro i
  have e1:(List.take (off+(k+1)) (x.setIfInBounds (off+k) v).toList).length=off+k+1:=by simp; omega
  have e2:(List.take (off+k) x.toList).length=off+k:=by simp; omega
  rw [List.append_assoc,List.append_assoc]
  by_cases hi:i<off+k
  ·rw [List.getElem?_append_left (by omega),List.getElem?_append_left (by omega),List.getElem?_take,List.getElem?_take,if_pos (by omega),if_pos hi,Array.toList_setIfInBounds,List.getElem?_set_ne (by omega)]
  ·rw [List.getElem?_append_right (l₁:=List.take (off+k) x.toList) (by omega),e2]
   by_cases hj:i=off+k
   ·subst hj
    rw [List.getElem?_append_left (by omega),List.getElem?_take,if_pos (by omega),Array.toList_setIfInBounds,List.getElem?_set_self (by simp; omega)]
    simp
   ·rw [List.getElem?_append_right (by omega),e1]
    have:i-(off+k)=(i-(off+k+1))+1:=by omega
    rw [this,List.cons_append,List.getElem?_cons_succ]
    by_cases hk:i-(off+k+1)<l.length
    ·rw [List.getElem?_append_left hk,List.getElem?_append_left hk]
    ·rw [List.getElem?_append_right (by omega),List.getElem?_append_right (by omega),List.getElem?_drop,List.getElem?_drop,Array.toList_setIfInBounds,List.getElem?_set_ne (by omega),List.length_cons]
     congr 1
     omega
theorem fillD_some (place:Nat->Option (Nat×Nat)):∀ (ps:List (Nat×DV)) (qs:List (Nat×Value)) (cs out:List DV) (vs:Array Value),ps.map (·.1)=qs.map (·.1)->DRL C μ (ps.map (·.2)) (qs.map (·.2))->DRL C μ cs vs.toList ->
  fillD place cs ps=some out->∃ out',Instr.fill place vs qs=some out'/\DRL C μ out out'.toList
 | [],[],cs,out,vs,_,_,hc,h=>by
  obtain rfl:=Option.some.inj h;exact ⟨vs,rfl,hc⟩
 | [],_ :: _,_,_,_,h,_,_,_=>by simp at h
 | _ :: _,[],_,_,_,h,_,_,_=>by simp at h
 | (i,d) :: ps,(j,v) :: qs,cs,out,vs,hi,hp,hc,h=>by
  simp only [List.map_cons,List.cons.injEq] at hi;obtain ⟨rfl,hi⟩:=hi;obtain ⟨x,xs,e,hd,hp⟩:=hp.cons_inv;simp only [List.map_cons,List.cons.injEq] at e;obtain ⟨rfl,rfl⟩:=e;unfold fillD at h;unfold Instr.fill
  cases hpl:place i with
  | none=>rw [hpl] at h; cases h
  | some p =>
   obtain ⟨off,size⟩:=p;rw [hpl] at h;simp only at h ⊢
   cases hcd:cellsD d with
   | none=>rw [hcd] at h; cases h
   | some c2 =>
    rw [hcd] at h;simp only at h
    rcases bif_some h with ⟨_,h⟩ | ⟨hb,h⟩
    ·cases h
    ·simp only [Bool.or_eq_false_iff,bne_eq_false_iff_eq,decide_eq_false_iff_not,Nat.not_lt] at hb;have hcells:=cellsD_some hd hcd
     have hl1:v.cells.size=size:=by rw [<- hb.1,hcells.1]; simp
     have hl2:off+v.cells.toList.length<=vs.size:=by
      have:=hc.1;have:=hcells.1;simp only [Array.length_toList] at *;omega
     rw [if_neg (by simp only [Bool.or_eq_true,decide_eq_true_eq,not_or]; exact ⟨fun x=>x hl1,by simp at hl2; omega⟩)]
     refine fillD_some place ps qs _ out _ hi hp ?_ h
     have hz:v.cells.zipIdx.foldl (fun cs (p:Value×Nat)=>cs.setIfInBounds (off+p.2) p.1) vs=(v.cells.toList.zipIdx 0).foldl (fun cs (p:Value×Nat)=>cs.setIfInBounds (off+p.2) p.1) vs:=by
      rw [<- Array.foldl_toList];simp
     show DRL C μ _ (v.cells.zipIdx.foldl (fun cs (p:Value×Nat)=>cs.setIfInBounds (off+p.2) p.1) vs).toList
     rw [hz,foldl_set off v.cells.toList 0 vs (by omega),Nat.add_zero]
     have htake:∀ n,DRL C μ (cs.take n) (vs.toList.take n):=fun n=>⟨by simp [hc.1],fun a e y he hy=>by
      rw [List.getElem?_take] at he hy;split at he
      ·rename_i hlt;rw [if_pos hlt] at hy;exact hc.2 a e y he hy
      ·cases he⟩
     have hdrop:∀ n,DRL C μ (cs.drop n) (vs.toList.drop n):=fun n=>⟨by simp [hc.1],fun a e y he hy=>by
      rw [List.getElem?_drop] at he hy;exact hc.2 _ e y he hy⟩
     rw [<- hcells.1];exact ((htake _).append hcells).append (hdrop _)
def zerosD (z:List DV) (n:Nat):List DV:=(List.range n).map fun i=>z.getD (i % z.length) .any
theorem zerosD_DRL {z:List DV}{zv:Array Value}(h:DRL C μ z zv.toList) {n:Nat}(h0:n=0\/0<z.length):DRL C μ (zerosD z n) (zerosA zv n):=by
 have hz:z.length=zv.size:=by simpa using h.1
 refine ⟨by simp [zerosD,zerosA],fun i d x hd hx=>?_⟩
 simp only [zerosD,zerosA,List.getElem?_map,Array.toList_map,Array.toList_range,Option.map_eq_some_iff] at hd hx;obtain ⟨a,ha,rfl⟩:=hd;obtain ⟨b,hb,rfl⟩:=hx;rw [ha] at hb;obtain rfl:=Option.some.inj hb
 have hlt:a % z.length<z.length:=by
  rcases h0 with rfl | h0
  ·simp at ha
  ·exact Nat.mod_lt _ h0
 have hlt':a % zv.size<zv.size:=by rw [<- hz]; exact hlt
 have e:zv[a % zv.size]! = zv[a % zv.size]:=getElem!_pos zv (a % zv.size) hlt';rw [e,List.getD_eq_getElem?_getD,List.getElem?_eq_getElem hlt];refine h.2 (a % z.length) _ _ (List.getElem?_eq_getElem hlt) ?_;simp only [hz];simp [hlt']
end
end Go.DE
namespace Go.DE
open Go Go.AE
def subC (c:DC) (i n:Nat):DC :=
 match c with
 | .lst l=>.lst ((l.drop i).take n)
 | c=>.tab n fun j f=>c.get (i+j) f
theorem subC_n {c:DC}{i n:Nat}(h:i+n<=c.n):(subC c i n).n=n:=by
 cases c<;>first | rfl | skip
 simp only [subC,DC.n,List.length_take,List.length_drop] at h ⊢;omega
theorem subC_good {c:DC}{i n:Nat}:(subC c i n).good:=by cases c<;>trivial
theorem subC_get {c:DC}{i n j f:Nat}(hj:j<n):(subC c i n).get j f=c.get (i+j) f:=by
 cases c<;>first | rfl | skip
 simp only [subC,DC.get,List.getD_eq_getElem?_getD,List.getElem?_take,if_pos hj,List.getElem?_drop]
def appC (c:DC) (len:Nat) (d:DC):DC :=
 match c,d with
 | .lst l,.lst m=>.lst (l.take len++m)
 | c,d=>.app (.pre c len) d
theorem appC_n {c d:DC}{len:Nat}(h:len<=c.n):(appC c len d).n=len+d.n:=by
 unfold appC;split
 ·simp only [DC.n,List.length_append,List.length_take] at h ⊢;omega
 ·rfl
theorem appC_good {c d:DC}{len:Nat}(h:len<=c.n) (hc:c.good) (hd:d.good):(appC c len d).good:=by
 unfold appC;split
 ·trivial
 ·exact ⟨⟨hc,h⟩,hd⟩
theorem appC_get {c d:DC}{len i f:Nat}(h:len<=c.n):(appC c len d).get i f=if i<len then c.get i f else d.get (i-len) f:=by
 unfold appC;split
 ·rename_i l m
  have hl:(l.take len).length=len:=by simp only [DC.n] at h; simp; omega
  simp only [DC.get,List.getD_eq_getElem?_getD];split
  ·rw [List.getElem?_append_left (by omega),List.getElem?_take,if_pos (by assumption)]
  ·rw [List.getElem?_append_right (by omega),hl]
 ·rfl
section
variable {α:Type}{st:AE.Stat}{C:Cf}{μ:Mu}{σ:Heap}{σd:DHeap}{P:Program}{r:α}
def srcD (σd:DHeap) (kk:Nat) (x:DV) (cont:Nat->DC->Option α):Option α :=
 match x with
 | .v (.slice none 0 0)=>cont 0 (.lst [])
 | .sl _ g k n=>bif k==kk then cont n (.tab n g) else none
 | .os id i n=>match σd[id]? with
  | some (some blk)=>bif blk.k==kk then (bif decide (i+n<=blk.c.n) then cont n (subC blk.c i n) else none) else none
  | _=>none
 | _=>none
theorem list_of_fn (m:Nat) (w:Nat->Value):∃ l:List Value,l.length=m/\∀ j,j<m->l[j]?=some (w j) :=
 ⟨(List.range m).map w,by simp,fun j hj=>by simp [List.getElem?_map,List.getElem?_range hj]⟩
theorem srcD_some {kk:Nat}{x:DV}{v:Value}{cont:Nat->DC->Option α}(h:St st C μ σ σd) (hkk:0<kk) (hx:DR C μ x v) (hs:srcD σd kk x cont=some r) :
  ∃ n c news,sourceA st σ kk v=some (n,news)/\news.length=n*kk/\(∀ u∈news,u.oneCell'=true)/\c.n=n/\c.good /\
   (∀ i f,i<n->f<kk->∃ u,news[i*kk+f]?=some u/\DR C μ (c.get i f) u)/\(flat v=true->v=.slice none 0 0/\n=0)/\cont n c=some r:=by
 have fin:∀ (n cap:Nat) (a:Addr) (w:Nat->Nat->Value) (c:DC),c.n=n->c.good->(∀ i f,i<n->f<kk->cellA st σ a (a.off+(i*kk+f))=some (w i f)/\(w i f).oneCell'=true/\DR C μ (c.get i f) (w i f))->cont n c=some r ->
   ∃ n' c news,sourceA st σ kk (.slice (some a) n cap)=some (n',news)/\news.length=n'*kk/\(∀ u∈news,u.oneCell'=true)/\c.n=n'/\c.good /\
   (∀ i f,i<n'->f<kk->∃ u,news[i*kk+f]?=some u/\DR C μ (c.get i f) u)/\(flat (.slice (some a) n cap)=true->(Value.slice (some a) n cap)=.slice none 0 0/\n'=0)/\cont n' c=some r:=by
  intro n cap a w c hcn hg hw hcont
  have hfl:flat (.slice (some a) n cap)=true->(Value.slice (some a) n cap)=.slice none 0 0/\n=0:=fun hf=>by cases hf
  by_cases h0:n=0
  ·subst h0
   exact ⟨0,c,[],by simp [sourceA],by simp,by simp,hcn,hg,fun i f hi=>by omega,hfl,hcont⟩
  ·obtain ⟨news,hl,hnews⟩:=list_of_fn (n*kk) fun j=>w (j / kk) (j % kk)
   have hpos:∀ i f,i<n->f<kk->news[i*kk+f]?=some (w i f):=by
    intro i f hi hf;rw [hnews _ (pos_lt hi hf)]
    have e1:(i*kk+f) / kk=i:=by rw [Nat.mul_comm,Nat.mul_add_div hkk,Nat.div_eq_of_lt hf]; rfl
    have e2:(i*kk+f) % kk=f:=by rw [Nat.mul_comm,Nat.mul_add_mod,Nat.mod_eq_of_lt hf]
    rw [e1,e2]
   have hdec:∀ j,j<n*kk->j / kk<n/\j % kk<kk/\j / kk*kk+j % kk=j:=by
    intro j hj;refine ⟨(Nat.div_lt_iff_lt_mul hkk).2 hj,Nat.mod_lt _ hkk,?_⟩;rw [Nat.mul_comm];exact Nat.div_add_mod j kk
   have hnz:¬ n*kk=0:=by
    intro e
    rcases Nat.mul_eq_zero.1 e with e | e<;>omega
   refine ⟨n,c,news,?_,hl,?_,hcn,hg,fun i f hi hf=>⟨_,hpos i f hi hf,(hw i f hi hf).2.2⟩,hfl,hcont⟩
   ·simp only [sourceA,if_neg hnz]
    rw [loadN_intro (by omega) hl]
    ·rfl
    ·intro j u hu
     have hj:j<n*kk:=by rw [<- hl]; exact (List.getElem?_eq_some_iff.1 hu).1
     obtain ⟨d1,d2,d3⟩:=hdec j hj;have:=hpos _ _ d1 d2;rw [d3,hu] at this;obtain rfl:=Option.some.inj this;have:=(hw _ _ d1 d2).1;rw [d3] at this;exact this
   ·intro u hu;obtain ⟨j,hj⟩:=List.mem_iff_getElem?.1 hu
    have hj':j<n*kk:=by rw [<- hl]; exact (List.getElem?_eq_some_iff.1 hj).1
    obtain ⟨d1,d2,d3⟩:=hdec j hj';have:=hpos _ _ d1 d2;rw [d3,hj] at this;obtain rfl:=Option.some.inj this;exact (hw _ _ d1 d2).2.1
 cases hx<;>first | (cases hs; done) | skip
 case v h1 =>
  unfold srcD at hs
  split at hs<;>first | (cases hs; done) | (rename_i e; cases e; done) | skip
  rename_i e;simp only [DV.v.injEq] at e;subst e
  exact ⟨0,.lst [],[],rfl,by simp,by simp,rfl,trivial,fun i f hi=>by omega,fun _=>⟨rfl,rfl⟩,hs⟩
 case sl t g k n a cap w hc hk h1 h2 =>
  obtain ⟨hkk',hs2⟩:=bif_none hs
  obtain rfl:k=kk:=by simpa using hkk'
  refine fin n cap a w (.tab n g) rfl trivial (fun i f hi hf=>⟨?_,(h1 i f hi hf).2,(h2 i f hi hf).bare⟩) hs2
  have:=h.frz _ _ _ _ _ (h1 i f hi hf).1;rw [Nat.add_assoc] at this;exact this
 case slnil t g k =>
  obtain ⟨hkk',hs⟩:=bif_none hs
  exact ⟨0,.tab 0 g,[],rfl,by simp,by simp,rfl,trivial,fun i f hi=>by omega,fun _=>⟨rfl,rfl⟩,hs⟩
 case os id i len b k L off cap hk hc hm =>
  unfold srcD at hs;simp only at hs;split at hs
  ·rename_i blk hb;obtain ⟨hkk',hs⟩:=bif_none hs;obtain ⟨hle,hs⟩:=dec_none hs;obtain ⟨b0,L0,l,h1,h2,h3,h4,h5,h6,h7⟩:=h.own id blk hb;rw [hm] at h1;simp only [Option.some.injEq,Prod.mk.injEq] at h1;obtain ⟨rfl,rfl,rfl⟩:=h1
   have hkk':blk.k=kk:=by simpa using hkk'
   have hcell:∀ j f,j<len->f<kk->∃ u,l[(i+j)*kk+f]?=some u/\u.oneCell'=true/\DR C μ (blk.c.get (i+j) f) u:=fun j f hj hf=>by
    have:=h7 (i+j) f (by omega) (by omega)
    rw [hkk'] at this;exact this
   refine fin len cap ⟨b,off,none⟩ (fun j f=>(l[(i+j)*kk+f]?).getD undef) (subC blk.c i len) (subC_n hle) subC_good (fun j f hj hf=>?_) hs
   obtain ⟨u,hu,ho,hr⟩:=hcell j f hj hf;simp only [hu,Option.getD_some]
   refine ⟨?_,ho,by rw [subC_get hj]; exact hr⟩
   have hoff:off=i*kk:=by
    rw [hkk'] at hc
    rcases hc with ⟨_,h8,h9 | h9⟩ | h9
    ·omega
    ·exact h9.1
    ·exact h9.2
   unfold cellA;simp only [h3];rw [<- hu,Nat.add_mul]
   congr 1
   omega
  ·cases hs
def byteAt (s:ByteArray) (i:Nat):Int:=((s.data.toList.getD i 0).toNat:Nat)
def srcE (σd:DHeap) (kk:Nat) (x:DV) (cont:Nat->DC->Option α):Option α :=
 match x with
 | .v (.string s)=>bif kk==1 then cont s.size (.tab s.size fun i _=>.v (.int .u8 (byteAt s i))) else none
 | _=>srcD σd kk x cont
def strB (s:ByteArray):List Value:=(s.data.map fun b=>Value.int .u8 b.toNat).toList
theorem strB_at {s:ByteArray}{i:Nat}(hi:i<s.size):(strB s)[i]?=some (.int .u8 (byteAt s i)):=by
 unfold strB byteAt;rw [Array.toList_map,List.getElem?_map,List.getD_eq_getElem?_getD]
 have:i<s.data.toList.length:=by rw [Array.length_toList]; exact hi
 rw [List.getElem?_eq_getElem this];rfl
theorem srcE_some {kk:Nat}{x:DV}{v:Value}{cont:Nat->DC->Option α}(h:St st C μ σ σd) (hkk:0<kk) (hx:DR C μ x v) (hs:srcE σd kk x cont=some r) :
  ∃ n c news,sourceA st σ kk v=some (n,news)/\news.length=n*kk/\(∀ u∈news,u.oneCell'=true)/\c.n=n/\c.good /\
   (∀ i f,i<n->f<kk->∃ u,news[i*kk+f]?=some u/\DR C μ (c.get i f) u)/\(flat v=true->(v=.slice none 0 0/\n=0)\/∃ s,x=.v (.string s)/\n=s.size)/\cont n c=some r:=by
 unfold srcE at hs;split at hs
 ·rename_i s;obtain ⟨hk,hs⟩:=bif_none hs
  obtain rfl:kk=1:=by simpa using hk
  cases hx
  refine ⟨s.size,.tab s.size fun i _=>.v (.int .u8 (byteAt s i)),strB s,rfl,?_,fun u hu=>?_,rfl,trivial,fun i f hi hf=>?_,fun _=>.inr ⟨s,rfl,rfl⟩,hs⟩
  ·unfold strB;rw [Array.length_toList,Array.size_map,Nat.mul_one];rfl
  ·unfold strB at hu;rw [Array.toList_map] at hu;obtain ⟨b,-,rfl⟩:=List.mem_map.1 hu;rfl
  ·obtain rfl:f=0:=by omega
   exact ⟨_,by rw [Nat.mul_one,Nat.add_zero]; exact strB_at hi,.v _ rfl⟩
 ·obtain ⟨n,c,news,h1,h2,h3,h4,h5,h6,h7,h8⟩:=srcD_some h hkk hx hs
  exact ⟨n,c,news,h1,h2,h3,h4,h5,h6,fun hf=>.inl (h7 hf),h8⟩
theorem St.rename (h:St st C μ σ σd) {id:Nat}{blk:DBlk}{b L:Nat}{c:DC}{σ':Heap}{l:List Value}(hb:σd[id]?=some (some blk)) (hm:μ id=some (b,blk.k,L)) (hlen:σ'.length=σ.length) (hσ:∀ b',b'≠b->σ'[b']?=σ[b']?)
  (hl:σ'[b]?=some (some (.cells l))) (hL:l.length=L) (hn:c.n*blk.k<=L) (hg:c.good) (hc:∀ i f,i<c.n->f<blk.k->∃ v,l[i*blk.k+f]?=some v/\v.oneCell'=true/\DR C μ (c.get i f) v) :
  St st C (μ.put σd.length (b,blk.k,L)) σ' (σd.set id none++[some ⟨blk.k,c⟩])/\Nx C μ σ σd C (μ.put σd.length (b,blk.k,L)) σ' (σd.set id none++[some ⟨blk.k,c⟩]):=by
 obtain ⟨_,_,_,_,hk,_⟩:=h.own id blk hb;obtain ⟨h1,n1⟩:=h.kill hb hm hlen hσ;have hidlt:=(List.getElem?_eq_some_iff.1 hb).1
 have hnl:¬ Live μ (σd.set id none) b:=by
  rintro ⟨j,bk,x,hj,hm'⟩
  by_cases e:id=j
  ·subst e;rw [List.getElem?_set_self hidlt] at hj;cases hj
  ·rw [List.getElem?_set_ne e] at hj;exact e (h.inj id j _ _ b _ _ hb hj hm hm')
 have h2:=h1.name hk hl hL hn hg hc (fun t o=>h.sep id blk b _ hb hm t o) hnl
 rw [List.length_set] at h2;have hf:=h.fresh (Nat.le_refl _)
 refine ⟨h2,⟨Cf.le_refl _,Mu.le_put hf,n1.len,by simp,n1.fr,?_,fun _ _ _ _ _ x=>.inl x⟩⟩
 rintro b' ⟨j,bk,x,hj,hm'⟩ hlt
 rcases Nat.lt_or_ge j σd.length with hj' | hj'
 ·rw [List.getElem?_append_left (by simpa using hj')] at hj
  unfold Mu.put at hm'
  rw [if_neg (by omega)] at hm'
  exact n1.img b' ⟨j,bk,x,hj,hm'⟩ hlt
 ·have:j=σd.length:=by
   rw [List.getElem?_append_right (by simpa using hj'),List.length_set] at hj
   cases hx:j-σd.length with
   | zero=>omega
   | succ n=>rw [hx] at hj; simp at hj
  subst this;simp only [Mu.put,if_true,Option.some.injEq,Prod.mk.injEq] at hm';rw [<- hm'.1];exact ⟨id,blk,_,hb,hm⟩
def srcT:TypeDesc->Bool
 | .slice _=>true
 | .string=>true
 | _=>false
def slT':TypeDesc->Bool
 | .slice _=>true
 | _=>false
def isStrD:DV->Bool
 | .v (.string _)=>true
 | _=>false
def appendD (P:Program) (σd:DHeap) (types:Array TypeId) (s x:DV) (k:DV->DHeap->Option α):Option α :=
 match types[0]?,types[1]? with
 | some sT,some xT=>match P.underlying sT,P.underlying xT with
  | some (.slice e),some xd=>match P.info? e with
   | some i=>match i.zero with
    | some z=>bif z.cells.size==i.size&&decide (0<i.size)&&decide (i.bytes≠0)&&srcT xd then
      srcE σd i.size x fun n c=>match s with
       | .os id 0 len=>match σd[id]? with
        | some (some blk)=>bif blk.k==i.size then (bif decide (len<=blk.c.n) then (bif decide ((len+n)*i.bytes<=140737488355328) then
          k (.os σd.length 0 (len+n)) (σd.set id none++[some ⟨blk.k,appC blk.c len c⟩]) else none) else none) else none
        | _=>none
       | .v (.slice none 0 0)=>bif (slT' xd&&!isStrD x)||(!slT' xd&&isStrD x&&!decide (n=0)) then (bif decide (n=0) then k (.v (.slice none 0 0)) σd else (bif decide (n*i.bytes<=140737488355328) then k (.os σd.length 0 n) (σd++[some ⟨i.size,c⟩]) else none)) else none
       | _=>none
     else none
    | none=>none
   | none=>none
  | _,_=>none
 | _,_=>none
theorem appendA_src {types:Array TypeId}{args:Array Value}{base:Option Addr}{sLen sCap:Nat}{xv:Value}{sT xT e:TypeId}{xd:TypeDesc}{i:TypeInfo}{n:Nat}{news:List Value}(ht0:types[0]?=some sT) (ht1:types[1]?=some xT) (ha0:args[0]?=some (.slice base sLen sCap)) (ha1:args[1]?=some xv)
  (hu0:P.underlying sT=some (.slice e)) (hu1:P.underlying xT=some xd) (hi:P.info? e=some i) (hT:srcT xd=true) (s1:sourceA st σ i.size xv=some (n,news)) :
  appendA P st σ types args=if news.length≠n*i.size\/news.all Value.oneCell'=false then none
     else if sCap<unk then
      if sLen+n<=sCap then
       match (generalizing:=false) base with
       | none=>some (.slice none 0 0,σ)
       | some a=>if news.isEmpty then some (.slice (some a) (sLen+n) sCap,σ) else (storeN σ (addA a (sLen*i.size)) news).map fun σ'=>(.slice (some a) (sLen+n) sCap,σ')
      else growA P st σ i base sLen (sLen+n) news
     else if n=0 then some (.slice base sLen sCap,σ)
     else if sCap≠unk+i.size then none
     else match (generalizing:=false) base with
      | none=>none
      | some a=>match (generalizing:=false) a.spot,σ[a.block]? with
       | none,some (some (.cells _))=>if news.isEmpty then none else (growA P st σ i base sLen (sLen+n) news).map fun (r:Value×Heap)=>(r.1,r.2.set a.block none)
       | _,_=>none:=by
 unfold appendA
 cases xd<;>first | (cases hT; done) | (simp only [ht0,ht1,ha0,ha1,hu0,hu1,hi,s1]; rfl)
theorem appendD_some {types:Array TypeId}{s x:DV}{sv xv:Value}{args:Array Value}{k:DV->DHeap->Option α}(h:St st C μ σ σd) (hs:DR C μ s sv) (hx:DR C μ x xv) (ha0:args[0]?=some sv) (ha1:args[1]?=some xv)
  (hd:appendD P σd types s x k=some r) :
  (∃ v σ' μ' d σd',appendA P st σ types args=some (v,σ')/\St st C μ' σ' σd'/\Nx C μ σ σd C μ' σ' σd'/\DR C μ' d v/\k d σd'=some r /\
   (sv=.slice none 0 0->xv=.slice none 0 0->v=.slice none 0 0/\σ'=σ))/\(flat sv=true->flat xv=true->(∃ sT xT e e' i,types[0]?=some sT/\types[1]?=some xT/\P.underlying sT=some (.slice e)/\P.underlying xT=some (.slice e')/\P.info? e=some i/\sv=.slice none 0 0/\xv=.slice none 0 0) \/
   ∃ sT xT e i q,types[0]?=some sT/\types[1]?=some xT/\P.underlying sT=some (.slice e)/\P.underlying xT=some .string/\P.info? e=some i/\sv=.slice none 0 0/\xv=.string q/\0<q.size):=by
 unfold appendD at hd
 split at hd<;>first | (cases hd; done) | skip
 rename_i sT xT ht0 ht1
 split at hd<;>first | (cases hd; done) | skip
 rename_i e xd hu0 hu1
 split at hd<;>first | (cases hd; done) | skip
 rename_i i hi
 split at hd<;>first | (cases hd; done) | skip
 rename_i z hz;obtain ⟨hb,hd1⟩:=bif_none hd;simp only [Bool.and_eq_true,beq_iff_eq,decide_eq_true_eq] at hb;obtain ⟨⟨⟨hzs,hk0⟩,hby⟩,hT⟩:=hb;obtain ⟨n,c,news,s1,s2,s3,s4,s5,s6,s7,hd2⟩:=srcE_some h hk0 hx hd1;clear hd hd1;have hd:=hd2;clear hd2;have hall:news.all Value.oneCell'=true:=List.all_eq_true.2 s3
 have hfl:flat sv=true->sv=.slice none 0 0:=by
  intro hf
  split at hd<;>first | (cases hd; done) | skip
  ·cases hs; cases hf
  ·cases hs; rfl
 have hsl:sv=.slice none 0 0->s=.v (.slice none 0 0):=by
  intro e1
  split at hd<;>first | (cases hd; done) | skip
  ·subst e1; cases hs
  ·rfl
 have s8:xv=.slice none 0 0->n=0:=fun e1=>by
  subst e1
  rcases s7 rfl with q | ⟨q,e2,-⟩
  ·exact q.2
  ·subst e2; cases hx
 refine ⟨?_,fun hf hf2=>?_⟩
 case refine_2 =>
  have e1:=hsl (hfl hf);subst e1;obtain ⟨hq,-⟩:=bif_none hd
  rcases Bool.or_eq_true_iff.1 hq with hq | hq
  ·rw [Bool.and_eq_true] at hq;have hq1:=hq.1
   obtain ⟨e',he'⟩:∃ e',xd=.slice e':=by cases xd<;>first | exact ⟨_,rfl⟩ | (exact Bool.noConfusion hq1)
   subst he';refine .inl ⟨sT,xT,e,e',i,ht0,ht1,hu0,hu1,hi,hfl hf,?_⟩
   rcases s7 hf2 with q | ⟨q,e2,-⟩
   ·exact q.1
   ·rw [e2] at hq;exact Bool.noConfusion hq.2
  ·rw [Bool.and_eq_true,Bool.and_eq_true] at hq;obtain ⟨⟨hq1,hq2⟩,hq3⟩:=hq
   have he':xd=.string:=by cases xd<;>first | rfl | (exact Bool.noConfusion hT) | (exact Bool.noConfusion hq1)
   subst he'
   have hn0:n≠0:=by simpa using hq3
   rcases s7 hf2 with q | ⟨q,e2,e3⟩
   ·exact absurd q.2 hn0
   ·subst e2;cases hx
    exact .inr ⟨sT,xT,e,i,q,ht0,ht1,hu0,hu1,hi,hfl hf,rfl,by omega⟩
 cases hs<;>first | (cases hd; done) | skip
 case v h1 =>
  split at hd<;>first | (cases hd; done) | skip
  ·rename_i e1; cases e1
  rename_i e1;simp only [DV.v.injEq] at e1;subst e1;obtain ⟨-,hd⟩:=bif_none hd
  rcases dec_some hd with ⟨h0,hd⟩ | ⟨h0,hd⟩
  ·subst h0
   refine ⟨.slice none 0 0,σ,μ,_,σd,?_,h,.refl _ _ _ _,.v _ rfl,hd,fun _ _=>⟨rfl,rfl⟩⟩
   rw [appendA_src ht0 ht1 ha0 ha1 hu0 hu1 hi hT s1]
   have:news=[]:=List.eq_nil_of_length_eq_zero (by rw [s2]; omega)
   subst this;simp [unk]
  ·obtain ⟨hle,hd⟩:=dec_none hd
   obtain ⟨g1,g2⟩:=h.push (c:=c) hk0 (l:=news) (by rw [s4,s2]; exact Nat.le_refl _) s5 fun a f ha hf=>by
    obtain ⟨u,hu,hr⟩:=s6 a f (by omega) hf
    exact ⟨u,hu,s3 u (List.mem_of_getElem? hu),hr⟩
   refine ⟨.slice (some ⟨σ.length,0,none⟩) n (unk+i.size),σ++[some (.cells news)],_,_,_,?_,g1,g2,?_,hd,fun _ hf=>absurd (s8 hf) h0⟩
   ·have hz2:¬ (z.cells.size≠i.size):=by omega
    rw [appendA_src ht0 ht1 ha0 ha1 hu0 hu1 hi hT s1]
    rw [if_neg (by rw [s2,hall]; simp),if_pos (by simp [unk]),if_neg (by omega)]
    unfold growA
    rw [if_pos ⟨by simpa using hle,hby⟩,hz]
    simp only;rw [if_neg hz2];simp [newB]
   ·exact .os _ _ _ σ.length i.size news.length 0 _ (by simp [Mu.put]) hk0 (.inr ⟨rfl,by simp⟩)
 case os id i0 len b k0 L off cap hk hc hm =>
  split at hd<;>first | (cases hd; done) | skip
  ·rename_i id' len' e1;simp only [DV.os.injEq] at e1;obtain ⟨rfl,rfl,rfl⟩:=e1
   split at hd<;>first | (cases hd; done) | skip
   rename_i blk hb;obtain ⟨hbk,hd⟩:=bif_none hd;obtain ⟨hlen,hd⟩:=dec_none hd;obtain ⟨hbig,hd⟩:=dec_none hd
   have hbk:blk.k=i.size:=by simpa using hbk
   obtain ⟨b0,L0,l,h1,h2,h3,h4,h5,h6,h7⟩:=h.own id blk hb;have hm0:=hm;rw [hm] at h1;simp only [Option.some.injEq,Prod.mk.injEq] at h1;obtain ⟨rfl,rfl,rfl⟩:=h1;subst h4
   have hcells:∀ (p:List Value),p.length=len*blk.k->(∀ j,j<len*blk.k->p[j]?=l[j]?)->∀ (q:List Value) a f,a<(appC blk.c len c).n->f<blk.k->∃ v,(p++news++q)[a*blk.k+f]?=some v/\v.oneCell'=true/\DR C μ ((appC blk.c len c).get a f) v:=by
    intro p hp1 hp2 q a f ha hf;rw [appC_n hlen] at ha;rw [appC_get hlen]
    by_cases ha':a<len
    ·rw [if_pos ha']
     obtain ⟨v,hv,ho,hr⟩:=h7 a f (by omega) hf
     have:=pos_lt ha' hf;refine ⟨v,?_,ho,hr⟩
     rw [List.append_assoc,List.getElem?_append_left (by omega),hp2 _ this]
     exact hv
    ·rw [if_neg ha']
     obtain ⟨u,hu,hr⟩:=s6 (a-len) f (by omega) (by omega)
     refine ⟨u,?_,s3 u (List.mem_of_getElem? hu),hr⟩;have hlt:=(List.getElem?_eq_some_iff.1 hu).1
     have e1:a*blk.k+f=len*blk.k+((a-len)*i.size+f):=by
      rw [<- hbk,<- Nat.add_assoc,<- Nat.add_mul]
      congr 2
      omega
     rw [List.append_assoc,List.getElem?_append_right (by omega),hp1,e1,Nat.add_sub_cancel_left,List.getElem?_append_left hlt]
     exact hu
   have hlenL:len*blk.k<=l.length:=Nat.le_trans (Nat.mul_le_mul_right _ hlen) h5
   have hnf:∀ {q:Prop},Value.slice (some ⟨b,off,none⟩) len cap=.slice none 0 0->q:=fun hf=>by cases hf
   have hblt:=(List.getElem?_eq_some_iff.1 h3).1
   have hoff:len=0\/off=0:=by
    rcases hc with ⟨_,h8,h9 | h9⟩ | h9
    ·left; omega
    ·right; have:=h9.1; omega
    ·right; have:=h9.2; omega
   have hload:(if len*i.size=0 then some [] else loadN st σ ⟨b,off,none⟩ (len*i.size))=some (l.take (len*blk.k)):=by
    rw [<- hbk]
    by_cases hz0:len*blk.k=0
    ·rw [if_pos hz0,hz0]; simp
    ·rw [if_neg hz0]
     have:off=0:=by
      rcases hoff with h8 | h8
      ·rw [h8] at hz0; simp at hz0
      ·exact h8
     subst this;unfold loadN;simp only [h3]
     rw [if_pos (by omega)]
     simp
   -- a new block
   have grown:∀ (σ1:Heap),σ1.length=σ.length->(∀ b',b'≠b->σ1[b']?=σ[b']?) ->
     ∃ μ',St st C μ' (σ1++[some (.cells (l.take (len*blk.k)++news))]) (σd.set id none++[some ⟨blk.k,appC blk.c len c⟩]) /\
      Nx C μ σ σd C μ' (σ1++[some (.cells (l.take (len*blk.k)++news))]) (σd.set id none++[some ⟨blk.k,appC blk.c len c⟩]) /\
      DR C μ' (.os σd.length 0 (len+n)) (.slice (some ⟨σ.length,0,none⟩) (len+n) (unk+i.size)):=by
    intro σ1 e1 e2;obtain ⟨k1,n1⟩:=h.kill hb hm e1 e2
    obtain ⟨k2,n2⟩:=k1.push (k:=blk.k) (c:=appC blk.c len c) (l:=l.take (len*blk.k)++news) h2 (by
      rw [appC_n hlen,s4,Nat.add_mul,List.length_append,List.length_take,s2,hbk];rw [hbk] at hlenL
      omega) (appC_good hlen h6 s5) fun a f ha hf=>by
     have:=hcells (l.take (len*blk.k)) (by simp; omega) (fun j hj=>by rw [List.getElem?_take,if_pos hj]) [] a f ha hf
     simpa using this
    rw [List.length_set,e1] at k2 n2
    exact ⟨_,k2,n1.trans n2,.os _ _ _ σ.length blk.k (l.take (len*blk.k)++news).length 0 _ (by simp [Mu.put]) h2 (.inr ⟨by rw [hbk],by simp⟩)⟩
   have hz2:¬ (z.cells.size≠i.size):=by omega
   have hgrow:growA P st σ i (some ⟨b,off,none⟩) len (len+n) news=some (.slice (some ⟨σ.length,0,none⟩) (len+n) (unk+i.size),σ++[some (.cells (l.take (len*blk.k)++news))]):=by
    unfold growA;rw [if_pos ⟨hbig,hby⟩,hz];simp only;rw [if_neg hz2,hload];rfl
   have happ:appendA P st σ types args=(if cap<unk then
      if len+n<=cap then if news.isEmpty then some (.slice (some ⟨b,off,none⟩) (len+n) cap,σ) else (storeN σ (addA ⟨b,off,none⟩ (len*i.size)) news).map fun σ'=>(.slice (some ⟨b,off,none⟩) (len+n) cap,σ')
      else growA P st σ i (some ⟨b,off,none⟩) len (len+n) news
     else if n=0 then some (.slice (some ⟨b,off,none⟩) len cap,σ)
     else if cap≠unk+i.size then none
     else if news.isEmpty then none else (growA P st σ i (some ⟨b,off,none⟩) len (len+n) news).map fun (r:Value×Heap)=>(r.1,r.2.set b none)):=by
    rw [appendA_src ht0 ht1 ha0 ha1 hu0 hu1 hi hT s1]
    rw [if_neg (by rw [s2,hall]; simp)]
    simp only [h3]
   -- in place
   have inplace:∀ (σ1:Heap) (l1:List Value),σ1.length=σ.length->(∀ b',b'≠b->σ1[b']?=σ[b']?)->σ1[b]?=some (some (.cells l1))->l1.length=l.length->l1=l.take (len*blk.k)++news++l.drop (len*blk.k+news.length)->(len+n)*blk.k<=l.length ->
     (cap<unk/\len+n<=cap/\(cap=0\/off=0*blk.k/\(0+cap)*blk.k<=l.length)\/cap=unk+blk.k/\off=0*blk.k) ->
     ∃ μ',St st C μ' σ1 (σd.set id none++[some ⟨blk.k,appC blk.c len c⟩])/\Nx C μ σ σd C μ' σ1 (σd.set id none++[some ⟨blk.k,appC blk.c len c⟩]) /\
      DR C μ' (.os σd.length 0 (len+n)) (.slice (some ⟨b,off,none⟩) (len+n) cap):=by
    intro σ1 l1 e1 e2 e3 e4 e5 e6 e7
    obtain ⟨k1,n1⟩:=h.rename (c:=appC blk.c len c) (l:=l1) hb hm e1 e2 e3 e4 (by rw [appC_n hlen,s4]; exact e6) (appC_good hlen h6 s5) fun a f ha hf=>by
     rw [e5]
     exact hcells (l.take (len*blk.k)) (by simp; omega) (fun j hj=>by rw [List.getElem?_take,if_pos hj]) _ a f ha hf
    exact ⟨_,k1,n1,.os _ _ _ b blk.k l.length off cap (by simp [Mu.put]) h2 e7⟩
   by_cases hcu:cap<unk
   ·by_cases hfit:len+n<=cap
    ·have hcap:cap=0\/(off=0/\cap*blk.k<=l.length):=by
      rcases hc with ⟨_,_,h9 | h9⟩ | h9
      ·exact .inl h9
      ·exact .inr ⟨by have:=h9.1; omega,by have:=h9.2; simpa using this⟩
      ·have:=h9.1; omega
     have hroom:(len+n)*blk.k<=l.length:=by
      rcases hcap with h8 | h8
      ·have:len+n=0:=by omega
       rw [this]; simp
      ·exact Nat.le_trans (Nat.mul_le_mul_right _ hfit) h8.2
     have hc':cap<unk/\len+n<=cap/\(cap=0\/off=0*blk.k/\(0+cap)*blk.k<=l.length)\/cap=unk+blk.k/\off=0*blk.k:=by
      rcases hcap with h8 | h8
      ·exact .inl ⟨hcu,hfit,.inl h8⟩
      ·exact .inl ⟨hcu,hfit,.inr ⟨by omega,by simpa using h8.2⟩⟩
     by_cases hemp:news=[]
     ·obtain ⟨μ',k1,k2,k3⟩:=inplace σ l rfl (fun _ _=>rfl) h3 rfl (by rw [hemp,List.append_nil,List.length_nil,Nat.add_zero,List.take_append_drop]) hroom hc'
      refine ⟨_,_,μ',_,_,?_,k1,k2,k3,hd,fun hf=>hnf hf⟩
      rw [happ,if_pos hcu,if_pos hfit,hemp];rfl
     ·have hn0:news.length≠0:=fun e=>hemp (List.eq_nil_of_length_eq_zero e)
      have hoff0:off=0:=by
       rcases hcap with h8 | h8
       ·have:n=0:=by omega
        rw [this] at s2;simp at s2;exact absurd s2 hemp
       ·exact h8.1
      subst hoff0
      have hfit2:len*blk.k+news.length<=l.length:=by rw [s2,<- hbk,<- Nat.add_mul]; exact hroom
      obtain ⟨μ',k1,k2,k3⟩:=inplace (σ.set b (some (.cells (l.take (len*blk.k)++news++l.drop (len*blk.k+news.length))))) _ (by simp) (fun b' hb'=>by rw [List.getElem?_set_ne (fun x=>hb' x.symm)])
       (List.getElem?_set_self hblt) (by simp; omega) rfl hroom hc'
      refine ⟨_,_,μ',_,_,?_,k1,k2,k3,hd,fun hf=>hnf hf⟩
      rw [happ,if_pos hcu,if_pos hfit]
      rw [if_neg (by simpa using hemp)]
      unfold storeN addA;simp only [h3]
      rw [<- hbk,Nat.zero_add,if_pos (by rw [hall]; simpa using hfit2)]
      rfl
    ·obtain ⟨μ',k1,k2,k3⟩:=grown σ rfl fun _ _=>rfl
     refine ⟨_,_,μ',_,_,?_,k1,k2,k3,hd,fun hf=>hnf hf⟩
     rw [happ,if_pos hcu,if_neg hfit,hgrow]
   ·have hc2:cap=unk+blk.k/\off=0*blk.k:=by
     rcases hc with h8 | h8
     ·omega
     ·exact h8
    by_cases hn0:n=0
    ·have hemp:news=[]:=List.eq_nil_of_length_eq_zero (by rw [s2,hn0]; simp)
     obtain ⟨μ',k1,k2,k3⟩:=inplace σ l rfl (fun _ _=>rfl) h3 rfl (by rw [hemp,List.append_nil,List.length_nil,Nat.add_zero,List.take_append_drop]) (by rw [hn0]; simpa using hlenL) (.inr hc2)
     refine ⟨_,_,μ',_,_,?_,k1,k2,k3,hd,fun hf=>hnf hf⟩
     rw [happ,if_neg hcu,if_pos hn0,hn0];rfl
    ·have hemp:news.isEmpty=false:=by
      cases hnn:news with
      | nil=>rw [hnn] at s2; simp only [List.length_nil] at s2; rcases Nat.mul_eq_zero.1 s2.symm with e | e<;>omega
      | cons=>rfl
     obtain ⟨μ',k1,k2,k3⟩:=grown (σ.set b none) (by simp) fun b' hb'=>by rw [List.getElem?_set_ne (fun x=>hb' x.symm)]
     refine ⟨_,_,μ',_,_,?_,k1,k2,k3,hd,fun hf=>hnf hf⟩
     rw [happ,if_neg hcu,if_neg hn0,if_neg (by rw [<- hbk]; simpa using hc2.1),hemp,hgrow]
     simp only [Bool.false_eq_true,if_false,Option.map_some];rw [List.set_append_left _ _ hblt]
  ·rename_i e1; cases e1
end
end Go.DE
