/-
 Equality of structs of numbers,booleans and strings,for the symbolic evaluator.
 Conditions: see the theorems.
-/
import Derived.Test.YtigmkgampfbflaaGreatDoorDeOp
import Derived.Test.YtigmkgampfbflaaGreatDoorDeOpa
namespace Go.DE
open Go Go.AE
def partV (P:Program) (t:TypeId) (cs:List Value) (off:Nat):Option Value :=
 match P.underlying t with
 | some d=>match aggDesc d with
  | true=>(sizeA P t).map fun n=>.agg ((cs.drop off).take n).toArray
  | false=>cs[off]?
 | none=>none
def eqFs (P:Program) (E:TypeId->Value->Value->Option Bool):List Field->List Value->List Value->Option Bool
 | [],_,_=>some true
 | f :: fs,xs,ys=>match decide (f.name = "_"),partV P f.type xs f.offset,partV P f.type ys f.offset with
  | false,some x,some y=>match E f.type x y,eqFs P E fs xs ys with
   | some a,some b=>some (bif a then b else false)
   | _,_=>none
  | _,_,_=>none
def eqAr (P:Program) (E:TypeId->Value->Value->Option Bool) (e:TypeId) (n:Nat) (xs ys:List Value):List Nat->Option Bool
 | []=>some true
 | i :: r=>match partV P e xs (i*n),partV P e ys (i*n) with
  | some x,some y=>match E e x y,eqAr P E e n xs ys r with
   | some a,some b=>some (bif a then b else false)
   | _,_=>none
  | _,_=>none
def eqN (P:Program):Nat->TypeId->Value->Value->Option Bool
 | 0,_,_,_=>none
 | q+1,t,x,y=>match P.underlying t,x,y with
  | some (.int _),.int k a,.int k' b=>match decide (k=k') with
   | true=>some (a==b)
   | false=>none
  | some .bool,.bool a,.bool b=>some (a==b)
  | some .string,.string a,.string b=>some (a==b)
  | some (.struct fields),.agg xs,.agg ys=>match P.stoodInHeld t with
   | true=>none
   | false=>eqFs P (eqN P q) fields.toList xs.toList ys.toList
  | some (.array len e),.agg xs,.agg ys=>match sizeA P e with
   | some n=>eqAr P (eqN P q) e n xs.toList ys.toList (List.range' 0 len 1)
   | none=>none
  | _,_,_=>none
def eqS (P:Program) (t:TypeId) (xs ys:List Value):Option Bool :=
 match P.underlying t with
 | some (.struct fields)=>match P.stoodInHeld t||P.eqGuardType P.depth t with
  | true=>none
  | false=>eqFs P (eqN P 6) fields.toList xs ys
 | some (.array len e)=>match P.eqGuardType P.depth t,sizeA P e with
  | false,some n=>eqAr P (eqN P 6) e n xs ys (List.range' 0 len 1)
  | _,_=>none
 | _=>none
def eqO (P:Program) (ev:Operand->DV) (op:Op):Option Bool :=
 match op with
 | .binOp .eql t x y _=>match ev x,ev y with
  | .agg l1,.agg l2=>match l1.all isV&&l2.all isV with
   | true=>eqS P t (l1.map val1) (l2.map val1)
   | false=>none
  | _,_=>none
 | .binOp .neq t x y _=>match ev x,ev y with
  | .agg l1,.agg l2=>match l1.all isV&&l2.all isV with
   | true=>(eqS P t (l1.map val1) (l2.map val1)).map (fun b=>!b)
   | false=>none
  | _,_=>none
 | _=>none
section
variable {P:Program}
theorem peek_underlying {t:TypeId}{d:TypeDesc}(h:P.underlying t=some d):peek P (underlying t)=some d:=by
 unfold underlying
 show peek P (match P.underlying t with | some d=>pure d | none=>stuck "no such type")=_
 rw [h]; rfl
theorem peek_program:peek P program=some P:=rfl
theorem peek_size {t:TypeId}{n:Nat}(h:sizeA P t=some n):peek P (sizeOf t)=some n:=by
 unfold sizeA at h;unfold sizeOf
 cases hi:P.info? t with
 | none=>rw [hi] at h; cases h
 | some i =>
  rw [hi] at h;obtain rfl:=Option.some.inj h
  have h1:peek P (typeInfo t)=some i:=by
   unfold typeInfo;rw [peek_bind',peek_program];simp only [hi];rfl
  rw [peek_bind',h1];rfl
theorem extract_list (cs:Array Value) (off n:Nat):cs.extract off (off+n)=((cs.toList.drop off).take n).toArray:=by
 apply Array.ext'
 rw [Array.toList_extract];simp [List.extract]
theorem partV_peek {t:TypeId}{cs:Array Value}{off:Nat}{v:Value}(h:partV P t cs.toList off=some v):peek P (part t cs off)=some v:=by
 unfold partV at h
 split at h<;>first | (cases h; done) | skip
 rename_i d hu
 have hi:peek P (isAgg t)=some (aggDesc d):=by
  unfold isAgg;rw [peek_bind',peek_underlying hu]
  cases d<;>rfl
 unfold part;rw [peek_bind',hi];split at h
 ·rename_i ha;simp only [Option.map_eq_some_iff] at h;obtain ⟨n,hn,rfl⟩:=h;rw [ha];simp only [if_true];rw [peek_bind',peek_size hn];simp only [extract_list];rfl
 ·rename_i ha
  have h':cs[off]?=some v:=by simpa using h
  rw [ha];simp only [Bool.false_eq_true,if_false,h'];rfl
section
variable {E:TypeId->Value->Value->Option Bool}{dd:Nat}
theorem eqFs_peek (hE:∀ t x y b,E t x y=some b->peek P (Op.equalIn dd t x y)=some b) {xs ys:Array Value}:∀ (fs:List Field) {b:Bool},eqFs P E fs xs.toList ys.toList=some b->∀ (r:Option Bool×PUnit),r.1=none ->
  ∃ s,peek P (forIn fs r fun f (_:Option Bool×PUnit)=>(do
   if f.name ≠ "_" then
    if !(<- Op.equalIn dd f.type (<- part f.type xs f.offset) (<- part f.type ys f.offset)) then pure (ForInStep.done (some false,PUnit.unit))
    else pure (ForInStep.yield (none,PUnit.unit))
   else pure (ForInStep.yield (none,PUnit.unit)):Sem (ForInStep (Option Bool×PUnit))))=some s/\s.1=if b then none else some false
 | [],b,h,r,hr=>by
  obtain rfl:=Option.some.inj h
  exact ⟨r,rfl,by simpa using hr⟩
 | f :: fs,b,h,r,hr=>by
  unfold eqFs at h
  split at h<;>first | (cases h; done) | skip
  rename_i x y hn hx hy
  split at h<;>first | (cases h; done) | skip
  rename_i a c ha hc;obtain rfl:=Option.some.inj h;have hn:=of_decide_eq_false hn;rw [List.forIn_cons,peek_bind'];simp only [ne_eq,hn,not_false_eq_true,if_true];rw [peek_bind',partV_peek hx];simp only;rw [peek_bind',partV_peek hy];simp only;rw [peek_bind',hE _ _ _ _ ha]
  cases a with
  | true =>
   obtain ⟨s,hs,he⟩:=eqFs_peek hE fs hc (none,PUnit.unit) rfl
   refine ⟨s,?_,by simpa using he⟩
   exact hs
  | false=>exact ⟨(some false,PUnit.unit),rfl,rfl⟩
theorem eqAr_peek (hE:∀ t x y b,E t x y=some b->peek P (Op.equalIn dd t x y)=some b) {e:TypeId}{n:Nat}{xs ys:Array Value}:∀ (l:List Nat) {b:Bool},eqAr P E e n xs.toList ys.toList l=some b->∀ (r:Option Bool×PUnit),r.1=none ->
  ∃ s,peek P (forIn l r fun i (_:Option Bool×PUnit)=>(do
   if !(<- Op.equalIn dd e (<- part e xs (i*n)) (<- part e ys (i*n))) then pure (ForInStep.done (some false,PUnit.unit))
   else pure (ForInStep.yield (none,PUnit.unit)):Sem (ForInStep (Option Bool×PUnit))))=some s/\s.1=if b then none else some false
 | [],b,h,r,hr=>by
  obtain rfl:=Option.some.inj h
  exact ⟨r,rfl,by simpa using hr⟩
 | i :: l,b,h,r,hr=>by
  unfold eqAr at h
  split at h<;>first | (cases h; done) | skip
  rename_i x y hx hy
  split at h<;>first | (cases h; done) | skip
  rename_i a c ha hc;obtain rfl:=Option.some.inj h;rw [List.forIn_cons,peek_bind',peek_bind',partV_peek hx];simp only;rw [peek_bind',partV_peek hy];simp only;rw [peek_bind',hE _ _ _ _ ha]
  cases a with
  | true =>
   obtain ⟨s,hs,he⟩:=eqAr_peek hE l hc (none,PUnit.unit) rfl
   refine ⟨s,?_,by simpa using he⟩
   exact hs
  | false=>exact ⟨(some false,PUnit.unit),rfl,rfl⟩
theorem eqStr_peek (hE:∀ t x y b,E t x y=some b->peek P (Op.equalIn dd t x y)=some b) {t:TypeId}{fields:Array Field}{xs ys:Array Value}{b:Bool}(hu:P.underlying t=some (.struct fields)) (hg:P.stoodInHeld t=false)
  (h:eqFs P E fields.toList xs.toList ys.toList=some b):peek P (Op.equalIn (dd+1) t (.agg xs) (.agg ys))=some b:=by
 unfold Op.equalIn;rw [peek_bind',peek_underlying hu];simp only;rw [peek_bind',peek_program];simp only [hg,Bool.false_eq_true,if_false];obtain ⟨s,hs,he⟩:=eqFs_peek hE fields.toList h (none,PUnit.unit) rfl;rw [peek_bind',<- Array.forIn_toList]
 have hs':peek P (forIn fields.toList ((none,()):Option Bool×Unit) fun f (_:Option Bool×Unit)=>(do
   if f.name ≠ "_" then
    if !(<- Op.equalIn dd f.type (<- part f.type xs f.offset) (<- part f.type ys f.offset)) then pure (ForInStep.done (some false,()))
    else pure (ForInStep.yield (none,()))
   else pure (ForInStep.yield (none,())):Sem (ForInStep (Option Bool×Unit))))=some s:=hs
 rw [hs'];simp only [he]
 cases b<;>rfl
theorem eqArr_peek (hE:∀ t x y b,E t x y=some b->peek P (Op.equalIn dd t x y)=some b) {t e:TypeId}{len n:Nat}{xs ys:Array Value}{b:Bool}(hu:P.underlying t=some (.array len e)) (hn:sizeA P e=some n)
  (h:eqAr P E e n xs.toList ys.toList (List.range' 0 len 1)=some b):peek P (Op.equalIn (dd+1) t (.agg xs) (.agg ys))=some b:=by
 unfold Op.equalIn;rw [peek_bind',peek_underlying hu];simp only;rw [peek_bind',peek_size hn];simp only;obtain ⟨s,hs,he⟩:=eqAr_peek hE _ h (none,PUnit.unit) rfl;rw [peek_bind',Std.Legacy.Range.forIn_eq_forIn_range']
 have hs':peek P (forIn (List.range' 0 len 1) ((none,()):Option Bool×Unit) fun i (_:Option Bool×Unit)=>(do
   if !(<- Op.equalIn dd e (<- part e xs (i*n)) (<- part e ys (i*n))) then pure (ForInStep.done (some false,()))
   else pure (ForInStep.yield (none,())):Sem (ForInStep (Option Bool×Unit))))=some s:=hs
 have hz:(Std.Legacy.Range.size { start:=0,stop:=len,step:=1,step_pos:=Nat.one_pos }:Nat)=len:=by simp [Std.Legacy.Range.size]
 simp only [hz];rw [hs'];simp only [he]
 cases b<;>rfl
end
theorem eqN_peek:∀ (q:Nat) {t:TypeId}{x y:Value}{b:Bool},eqN P q t x y=some b->∀ (d:Nat),q<=d->peek P (Op.equalIn d t x y)=some b
 | 0,t,x,y,b,h,d,hd=>by cases h
 | q+1,t,x,y,b,h,d,hd=>by
  obtain ⟨d,rfl⟩:∃ d',d=d'+1:=⟨d-1,by omega⟩
  unfold eqN at h
  split at h<;>first | (cases h; done) | skip
  ·rename_i hu;split at h
   ·rename_i hk;have hk:=of_decide_eq_true hk;subst hk;unfold Op.equalIn;rw [peek_bind',peek_underlying hu];simp only [if_true];exact h
   ·cases h
  ·rename_i hu;unfold Op.equalIn;rw [peek_bind',peek_underlying hu];exact h
  ·rename_i hu;unfold Op.equalIn;rw [peek_bind',peek_underlying hu];exact h
  ·rename_i hu
   split at h<;>first | (cases h; done) | skip
   rename_i hg
   exact eqStr_peek (fun t x y b hb=>eqN_peek q hb d (by omega)) hu hg h
  ·rename_i hu
   split at h<;>first | (cases h; done) | skip
   rename_i n hn
   exact eqArr_peek (fun t x y b hb=>eqN_peek q hb d (by omega)) hu hn h
theorem eqS_peek {t:TypeId}{xs ys:Array Value}{b:Bool}(h:eqS P t xs.toList ys.toList=some b):peek P (Op.equal t (.agg xs) (.agg ys))=some b/\P.eqGuardType P.depth t=false:=by
 have hE:∀ t x y b,eqN P 6 t x y=some b->peek P (Op.equalIn 9999 t x y)=some b:=fun t x y b hb=>eqN_peek 6 hb 9999 (by omega)
 unfold eqS at h
 split at h<;>first | (cases h; done) | skip
 ·rename_i fields hu
  split at h<;>first | (cases h; done) | skip
  rename_i hg;simp only [Bool.or_eq_false_iff] at hg;refine ⟨?_,hg.2⟩;unfold Op.equal Op.maxDepth;exact eqStr_peek hE hu hg.1 h
 ·rename_i len e hu
  split at h<;>first | (cases h; done) | skip
  rename_i n hg hn;refine ⟨?_,hg⟩;unfold Op.equal Op.maxDepth;exact eqArr_peek hE hu hn h
theorem eqGuard_peek {op:BinOp}(hop:op=.eql\/op=.neq) {t:TypeId}{x y:Operand}{xs ys:Array Value}(h:P.eqGuardType P.depth t=false):peek P (eqGuard op t x y (.agg xs) (.agg ys))=some ():=by
 unfold eqGuard
 rcases hop with rfl | rfl
 all_goals
  simp only [Bool.not_true,Bool.false_eq_true,if_false];rw [peek_bind',peek_program];simp only;rw [peek_bind',peek_program];simp only [h,Bool.not_false,if_true];rfl
theorem eqO_some {evd:Operand->DV}{op:Op}{b:Bool}(h:eqO P evd op=some b):(∀ x∈op.operands,flD (evd x)=true)/\isSelect op=false/\∀ o:Oper,o.op=op->peek P (execOp (fun x=>valD (evd x)) o)=some (.value (.bool b)):=by
 have key:∀ {x y:Operand}{l1 l2:List DV},evd x=.agg l1->evd y=.agg l2->(l1.all isV&&l2.all isV)=true->(∀ z∈#[x,y],flD (evd z)=true)/\valD (evd x)=.agg (l1.map val1).toArray/\valD (evd y)=.agg (l2.map val1).toArray:=by
  intro x y l1 l2 e1 e2 hv;simp only [Bool.and_eq_true] at hv
  refine ⟨fun z hz=>?_,by rw [e1]; rfl,by rw [e2]; rfl⟩
  simp only [List.mem_toArray,List.mem_cons,List.not_mem_nil,or_false] at hz
  rcases hz with rfl | rfl
  ·rw [e1]; exact hv.1
  ·rw [e2]; exact hv.2
 unfold eqO at h
 split at h<;>first | (cases h; done) | skip
 ·rename_i t x y z
  split at h<;>first | (cases h; done) | skip
  rename_i l1 l2 e1 e2
  split at h<;>first | (cases h; done) | skip
  rename_i hv;obtain ⟨k1,k2,k3⟩:=key e1 e2 hv
  refine ⟨fun w hw=>k1 w (by simpa [Op.operands] using hw),rfl,fun o ho=>?_⟩
  obtain ⟨p1,p2⟩:=eqS_peek (xs:=(l1.map val1).toArray) (ys:=(l2.map val1).toArray) (by simpa using h)
  unfold execOp;rw [ho];simp only [k2,k3];simp only [peek_bind',eqGuard_peek (.inl rfl) p2];unfold binOp;simp only [peek_bind',p1];rfl
 ·rename_i t x y z
  split at h<;>first | (cases h; done) | skip
  rename_i l1 l2 e1 e2
  split at h<;>first | (cases h; done) | skip
  rename_i hv;obtain ⟨k1,k2,k3⟩:=key e1 e2 hv
  refine ⟨fun w hw=>k1 w (by simpa [Op.operands] using hw),rfl,fun o ho=>?_⟩
  simp only [Option.map_eq_some_iff] at h;obtain ⟨c,h,rfl⟩:=h
  obtain ⟨p1,p2⟩:=eqS_peek (xs:=(l1.map val1).toArray) (ys:=(l2.map val1).toArray) (by simpa using h)
  unfold execOp;rw [ho];simp only [k2,k3];simp only [peek_bind',eqGuard_peek (.inr rfl) p2];unfold binOp;simp only [peek_bind',p1];rfl
end
end Go.DE
namespace Go.DE
open Go Go.AE
def isStr (P:Program) (t:TypeId):Bool:=match P.underlying t with
 | some .string=>true
 | _=>false
theorem isStr_some {P:Program}{t:TypeId}(h:isStr P t=true):P.underlying t=some .string:=by
 unfold isStr at h;split at h
 ·assumption
 ·cases h
def strO (P:Program) (ev:Operand->DV) (op:Op):Bool :=
 match op with
 | .slice t x _ _ mx=>match ev x,mx with
  | .v (.string _),none=>isStr P t
  | _,_=>false
 | .index t x ix=>match ev x,ev ix with
  | .v (.string _),.v (.int _ _)=>isStr P t
  | _,_=>false
 | .binOp .add _ x y _=>match ev x,ev y with
  | .v (.string _),.v (.string _)=>true
  | _,_=>false
 | .binOp .rem _ x y _=>match ev x,ev y with
  | .v (.int k _),.v (.int l _)=>decide (k=l)
  | _,_=>false
 | _=>false
section
variable {α:Type}
def strD (ev:Operand->DV) (op:Op) (k:DV->Option α):Option α :=
 match op with
 | .slice _ x lo hi _=>match ev x with
  | .v (.string s)=>highD (hi.map ev) s.size fun h=>lowD (lo.map ev) h fun l=>k (.v (.string (s.extract l h)))
  | _=>none
 | .index _ x ix=>match ev x,ev ix with
  | .v (.string s),.v (.int _ i)=>bif decide (0<=i) then (bif decide (i<(s.size:Int)) then k (.v (.int .u8 (byteAt s i.toNat))) else none) else none
  | _,_=>none
 | .binOp op _ x y _=>match ev x,ev y with
  | .v (.int q a),.v (.int _ b)=>match op with
   | .rem=>bif decide (b=0) then none else k (.v (.int q (a.tmod b)))
   | _=>none
  | .v (.string a),.v (.string b)=>bif decide (a.size+b.size<=9223372036854775807) then k (.v (.string (a++b))) else none
  | _,_=>none
 | _=>none
end
section
variable {P:Program}
theorem peek_sliceBound {v:Value}{y m:Nat}{c:BoundsCode}(h:boundA v y=some m):peek P (Instr.sliceBound v y c)=some m:=by
 unfold boundA at h
 split at h<;>first | (cases h; done) | skip
 rename_i k i
 split at h<;>first | (cases h; done) | skip
 rename_i hb;obtain rfl:=Option.some.inj h;unfold Instr.sliceBound;rw [peek_bind']
 show peek P (if 0<=i/\i<=(y:Int) then pure i.toNat else boundsPanic k i y c)=_
 rw [if_pos hb];rfl
theorem peek_sliceBounds {len l h m:Nat}{lo hi:Option Value}(e:boundsA len len lo hi none=some (l,h,m)):peek P (Instr.sliceBounds false len len lo hi none)=some (l,h,m):=by
 unfold boundsA at e;unfold Instr.sliceBounds
 cases hi with
 | none =>
  simp only at e ⊢
  cases lo with
  | none =>
   simp only [Option.some.injEq,Prod.mk.injEq] at e;obtain ⟨rfl,rfl,rfl⟩:=e;rfl
  | some v =>
   simp only at e
   cases hb:boundA v len with
   | none=>simp [hb] at e
   | some k =>
    simp only [hb,Option.some.injEq,Prod.mk.injEq] at e;obtain ⟨rfl,rfl,rfl⟩:=e;simp only [peek_bind',peek_pure,peek_sliceBound hb,Option.isSome_none,Bool.false_eq_true,if_false]
 | some u =>
  simp only at e ⊢
  cases hb:boundA u len with
  | none=>simp [hb] at e
  | some k =>
   simp only [hb] at e
   cases lo with
   | none =>
    simp only [Option.some.injEq,Prod.mk.injEq] at e;obtain ⟨rfl,rfl,rfl⟩:=e;simp only [peek_bind',peek_pure,Bool.false_eq_true,if_false,peek_sliceBound hb]
   | some v =>
    simp only at e
    cases hb2:boundA v k with
    | none=>simp [hb2] at e
    | some k2 =>
     simp only [hb2,Option.some.injEq,Prod.mk.injEq] at e;obtain ⟨rfl,rfl,rfl⟩:=e;simp only [peek_bind',peek_pure,Bool.false_eq_true,if_false,peek_sliceBound hb,Option.isSome_none,peek_sliceBound hb2]
variable {α:Type}{st:AE.Stat}{C:Cf}{μ:Mu}{σ:Heap}{σd:DHeap}{r:α}
theorem peekA_some {ev:Operand->Value}{o:Oper}{v:Value}(h1:∀ x∈o.op.operands,flat (ev x)=true) (h2:isSelect o.op=false) (h3:peek P (execOp ev o)=some (.value v)) (h4:flat v=true):peekA P ev o=some v:=by
 unfold peekA
 rw [if_pos (by
  simp only [Bool.and_eq_true,Bool.not_eq_true']
  exact ⟨List.all_eq_true.2 fun x hx=>h1 x (by simpa using hx),h2⟩),h3]
 simp only [h4,if_true]
theorem DR_v {x v:Value}(h:DR C μ (.v x) v):v=x/\flat v=true:=by
 cases h with
 | v _ hf=>exact ⟨rfl,fl1_flat hf⟩
theorem boundD_flat {d:DV}{v:Value}{y:Nat}{k:Nat->Option α}(hd:DR C μ d v) (h:boundD d y k=some r):flat v=true:=by
 unfold boundD at h;split at h
 ·exact (DR_v hd).2
 ·cases h
theorem strD_some {o:Oper}{ev:Operand->Value}{evd:Operand->DV}{k:DV->Option α}(hc:constsOk o.op=true) (hev:∀ x∈o.op.operands,DR C μ (evd x) (ev x)) (hs:strO P evd o.op=true) (hx:strD evd o.op k=some r) :
  ∃ d v,DR C μ d v/\(∀ n m,opA P st (runF P st n m) ev o σ=some (v,σ))/\k d=some r:=by
 have fin:∀ {v:Value},peekA P ev o=some v->∀ n m,opA P st (runF P st n m) ev o σ=some (v,σ):=fun h n m=>by
  unfold opA;rw [if_pos hc,h]
 cases hop:o.op
 all_goals rw [hop] at hs hx hev
 all_goals (first | (cases hs; done) | skip)
 case slice t x lo hi mx =>
  simp only [strO] at hs;simp only [strD] at hx
  cases mx with
  | some m=>split at hs<;>simp_all
  | none =>
   split at hx<;>first | (cases hx; done) | skip
   rename_i s he;rw [he] at hs;have ht:=isStr_some hs
   have hdx:=hev x (by simp [Op.operands])
   rw [he] at hdx;obtain ⟨e1,e2⟩:=DR_v hdx
   have hlo:DRO C μ (lo.map evd) (lo.map ev):=by
    cases lo with
    | none=>trivial
    | some y=>exact hev y (by simp [Op.operands])
   have hhi:DRO C μ (hi.map evd) (hi.map ev):=by
    cases hi with
    | none=>trivial
    | some y=>exact hev y (by simp [Op.operands])
   have hfl:∀ y∈o.op.operands,flat (ev y)=true:=by
    rw [hop];intro y hy;simp only [Op.operands,Option.toArray_none,Array.append_empty,Array.mem_append,List.mem_toArray,List.mem_singleton,Option.mem_toArray] at hy
    rcases hy with (rfl | hy) | hy
    ·exact e2
    ·subst hy
     have hd:=hev y (by simp [Op.operands])
     cases hi with
     | none =>
      simp only [highD,lowD,Option.map_none,Option.map_some] at hx;exact boundD_flat hd hx
     | some z =>
      simp only [highD,lowD,Option.map_some] at hx
      obtain ⟨m,_,_,hx⟩:=boundD_some (hev z (by simp [Op.operands])) hx
      exact boundD_flat hd hx
    ·subst hy;simp only [highD,Option.map_some] at hx
     exact boundD_flat (hev y (by simp [Op.operands])) hx
   obtain ⟨l,h,h1,h2,hk,hb⟩:=bounds_some (k:=fun l h=>k (.v (.string (s.extract l h)))) hlo hhi hx
   refine ⟨_,.string (s.extract l h),.v _ rfl,fin (peekA_some hfl (by rw [hop]; rfl) ?_ rfl),hk⟩
   have hpb:=peek_sliceBounds (P:=P) (hb s.size (Nat.le_refl _));unfold execOp;rw [hop];simp only [Option.map_none,Instr.sliceAt,e1];simp only [peek_bind',peek_underlying ht,Instr.slice,Option.isSome_none,Bool.false_eq_true,if_false,hpb,peek_pure]
 case binOp op t x y yt =>
  simp only [strD] at hx
  split at hx<;>first | (cases hx; done) | skip
  ·rename_i q a l b he1 he2
   split at hx<;>first | (cases hx; done) | skip
   simp only [strO,he1,he2,decide_eq_true_eq] at hs;subst hs
   have hb0:¬ b=0:=fun e=>by rw [decide_eq_true e] at hx; cases hx
   rw [decide_eq_false hb0,cond_false] at hx
   have hd1:=hev x (by simp [Op.operands])
   have hd2:=hev y (by simp [Op.operands])
   rw [he1] at hd1;rw [he2] at hd2;obtain ⟨e1,f1⟩:=DR_v hd1;obtain ⟨e2,f2⟩:=DR_v hd2
   have hfl:∀ z∈o.op.operands,flat (ev z)=true:=by
    rw [hop];intro z hz;simp only [Op.operands,List.mem_toArray,List.mem_cons,List.not_mem_nil,or_false] at hz
    rcases hz with rfl | rfl
    ·exact f1
    ·exact f2
   refine ⟨_,.int q (a.tmod b),.v _ rfl,fin (peekA_some hfl (by rw [hop]; rfl) ?_ rfl),hx⟩
   unfold execOp;rw [hop];simp only [e1,e2];have hg:peek P (eqGuard .rem t x y (.int q a) (.int q b))=some ():=rfl
   have hb:peek P (binOp .rem t (.int q a) (.int q b))=some (.int q (a.tmod b)):=by
    unfold binOp;simp only [ne_eq,not_true_eq_false,if_false];unfold Op.intDiv;rw [if_neg hb0];rfl
   simp only [peek_bind',hg,hb,peek_pure]
  rename_i a b he1 he2
  obtain rfl:op=.add:=by
   cases op<;>first | rfl | (simp [strO,he1,he2] at hs; done)
  obtain ⟨h1,hx⟩:=dec_none hx
  have hd1:=hev x (by simp [Op.operands])
  have hd2:=hev y (by simp [Op.operands])
  rw [he1] at hd1;rw [he2] at hd2;obtain ⟨e1,f1⟩:=DR_v hd1;obtain ⟨e2,f2⟩:=DR_v hd2
  have hfl:∀ z∈o.op.operands,flat (ev z)=true:=by
   rw [hop];intro z hz;simp only [Op.operands,List.mem_toArray,List.mem_cons,List.not_mem_nil,or_false] at hz
   rcases hz with rfl | rfl
   ·exact f1
   ·exact f2
  refine ⟨_,.string (a++b),.v _ rfl,fin (peekA_some hfl (by rw [hop]; rfl) ?_ rfl),hx⟩
  unfold execOp;rw [hop];simp only [e1,e2];have hg:peek P (eqGuard .add t x y (.string a) (.string b))=some ():=rfl
  have hb:peek P (binOp .add t (.string a) (.string b))=some (.string (a++b)):=by
   show peek P (Op.stringOp .add a b)=_;unfold Op.stringOp
   have:¬ (((a.size+b.size:Nat):Int) > IntKind.i64.max):=by
    show ¬ (((a.size+b.size:Nat):Int) > 9223372036854775807);omega
   simp only [this,if_false];rfl
  simp only [peek_bind',hg,hb,peek_pure]
 case index t x ix =>
  simp only [strO] at hs;simp only [strD] at hx
  split at hx<;>first | (cases hx; done) | skip
  rename_i s kd i he1 he2;rw [he1,he2] at hs;have ht:=isStr_some hs;obtain ⟨h1,hx⟩:=dec_none hx;obtain ⟨h2,hx⟩:=dec_none hx
  have hd1:=hev x (by simp [Op.operands])
  have hd2:=hev ix (by simp [Op.operands])
  rw [he1] at hd1;rw [he2] at hd2;obtain ⟨e1,f1⟩:=DR_v hd1;obtain ⟨e2,f2⟩:=DR_v hd2
  have hfl:∀ y∈o.op.operands,flat (ev y)=true:=by
   rw [hop];intro y hy;simp only [Op.operands,List.mem_toArray,List.mem_cons,List.not_mem_nil,or_false] at hy
   rcases hy with rfl | rfl
   ·exact f1
   ·exact f2
  refine ⟨_,.int .u8 (byteAt s i.toNat),.v _ rfl,fin (peekA_some hfl (by rw [hop]; rfl) ?_ rfl),hx⟩
  have hlt:i.toNat<s.size:=by omega
  have hb:(if 0<=i then s[i.toNat]? else none)=some s[i.toNat]:=by
   rw [if_pos h1];exact getElem?_pos s i.toNat hlt
  unfold execOp;rw [hop];simp only [e1,e2]
  have hpk:peek P (Instr.index t (.string s) (.int kd i))=some (.int .u8 (byteAt s i.toNat)):=by
   unfold Instr.index;rw [peek_bind']
   show (match (some (kd,i):Option (IntKind×Int)) with | some a=>_ | none=>none)=_
   simp only;rw [peek_bind',peek_underlying ht];simp only [hb]
   have hlt2:i.toNat<s.data.toList.length:=by simpa using hlt
   have:byteAt s i.toNat=(s[i.toNat].toNat:Int):=by
    unfold byteAt;rw [List.getD_eq_getElem?_getD,List.getElem?_eq_getElem hlt2];rfl
   rw [this];rfl
  simp only [peek_bind',hpk,peek_pure]
def numD:DV->Int
 | .v (.int _ x)=>x
 | _=>0
def bytesS (n:Nat) (f:Nat->Int):ByteArray:=((List.range n).map f).foldl (fun r n=>r.push (UInt8.ofNat n.toNat)) ByteArray.empty
def runesS (n:Nat) (f:Nat->Int):ByteArray:=((List.range n).map f).foldl (fun r n=>r++Utf8.encode n) ByteArray.empty
def intD (q:IntKind):DV->Bool
 | .v (.int k _)=>decide (k=q)
 | _=>false
def intsD (q:IntKind) (m:Nat) (c:DC):Bool:=(List.range m).all fun j=>intD q (c.get j 0)
theorem intD_iff {q:IntKind}{d:DV}:intD q d=true ↔ d=.v (.int q (numD d)):=by
 unfold intD;split
 ·rename_i k x;simp [numD]
 ·rename_i h
  constructor
  ·intro e; cases e
  ·intro e; exact absurd e (h q _)
theorem intsD_iff {q:IntKind}{m:Nat}{c:DC}:intsD q m c=true ↔ ∀ j,j<m->c.get j 0=.v (.int q (numD (c.get j 0))):=by
 unfold intsD;rw [List.all_eq_true]
 exact ⟨fun h j hj=>intD_iff.1 (h j (List.mem_range.2 hj)),fun h j hj=>intD_iff.2 (h j (List.mem_range.1 hj))⟩
theorem intsA_of {q:IntKind}{f:Nat->Int}:∀ {m:Nat}{l:List Value},l.length=m->(∀ j,j<m->l[j]?=some (.int q (f j)))->intsA q l=some ((List.range m).map f):=by
 have key:∀ (l:List Value) (k:Nat),(∀ j,j<l.length->l[j]?=some (.int q (f (k+j))))->intsA q l=some ((List.range l.length).map fun j=>f (k+j)):=by
  intro l
  induction l with
  | nil=>intro k _; rfl
  | cons v l ih =>
   intro k h
   have h0:v=.int q (f k):=by simpa using h 0 (by simp)
   subst h0
   have h1:=ih (k+1) fun j hj=>by
    have:=h (j+1) (by simpa using hj)
    rw [show k+1+j=k+(j+1) by omega]
    simpa using this
   simp only [intsA,if_true,h1,Option.map_some,List.length_cons,List.range_succ_eq_map,List.map_cons,List.map_map,Nat.add_zero]
   congr 2
   refine List.map_congr_left fun j _=>?_
   simp only [Function.comp,Nat.succ_eq_add_one]
   rw [show k+1+j=k+(j+1) by omega]
 intro m l hl h;subst hl
 have:=key l 0 fun j hj=>by rw [Nat.zero_add]; exact h j hj
 simpa using this
def runeN (s:ByteArray):Nat:=(Conv.runesFrom s s.size 0 #[]).size
def runeAt (s:ByteArray) (i:Nat):Int:=match (Conv.runesFrom s s.size 0 #[])[i]? with
 | some (.int _ n)=>n
 | _=>0
theorem runes_ints (s:ByteArray):∀ (b i:Nat) (acc:Array Value),(∀ v∈acc.toList,∃ k,v=Value.int .i32 k)->∀ v∈(Conv.runesFrom s b i acc).toList,∃ k,v=Value.int .i32 k
 | 0,i,acc,h,v,hv=>h v (by simpa [Conv.runesFrom] using hv)
 | b+1,i,acc,h,v,hv=>by
  unfold Conv.runesFrom at hv;split at hv
  ·refine runes_ints s b _ _ (fun u hu=>?_) v hv
   simp only [Array.toList_push,List.mem_append,List.mem_singleton] at hu
   rcases hu with hu | rfl
   ·exact h u hu
   ·exact ⟨_,rfl⟩
  ·exact h v hv
theorem runes_len (s:ByteArray):∀ (b i:Nat) (acc:Array Value),(Conv.runesFrom s b i acc).size<=acc.size+b
 | 0,_,acc=>by simp [Conv.runesFrom]
 | b+1,i,acc=>by
  unfold Conv.runesFrom;split
  ·have:=runes_len s b (i+(Utf8.decode s i).2) (acc.push (.int .i32 (Int.ofNat (Utf8.decode s i).1)));simp only [Array.size_push] at this;refine Nat.le_trans this ?_;omega
  ·omega
theorem runeN_le (s:ByteArray):runeN s<=s.size:=by
 have:=runes_len s s.size 0 #[];rw [show (#[]:Array Value).size=0 from rfl,Nat.zero_add] at this;exact this
theorem runeAt_eq (s:ByteArray) {i:Nat}(h:i<runeN s):(Conv.runesFrom s s.size 0 #[]).toList[i]?=some (.int .i32 (runeAt s i)):=by
 have h':i<(Conv.runesFrom s s.size 0 #[]).size:=h;have e:(Conv.runesFrom s s.size 0 #[])[i]?=some (Conv.runesFrom s s.size 0 #[])[i]:=Array.getElem?_eq_getElem h'
 obtain ⟨k,hk⟩:=runes_ints s s.size 0 #[] (fun v hv=>by simp at hv) (Conv.runesFrom s s.size 0 #[])[i] (Array.getElem_mem_toList h')
 rw [Array.getElem?_toList,e,hk];unfold runeAt;rw [e,hk]
def convD (P:Program) (σd:DHeap) (src dst:TypeId) (x:DV) (k:DV->DHeap->Option α):Option α :=
 match P.underlying src,P.underlying dst,x with
 | some .string,some (.slice e),.v (.string s)=>match P.underlying e with
  | some (.int .u8)=>bif decide (s.size<=140737488355328) then k (.os σd.length 0 s.size) (σd++[some ⟨1,.tab s.size fun i _=>.v (.int .u8 (byteAt s i))⟩]) else none
  | some (.int .i32)=>bif decide (s.size<=140737488355328) then k (.os σd.length 0 (runeN s)) (σd++[some ⟨1,.tab (runeN s) fun i _=>.v (.int .i32 (runeAt s i))⟩]) else none
  | _=>none
 | some (.slice e),some .string,.os id i n=>match P.underlying e with
  | some (.int .u8)=>srcD σd 1 (.os id i n) fun m c=>bif intsD .u8 m c then k (.v (.string (bytesS m fun j=>numD (c.get j 0)))) σd else none
  | some (.int .i32)=>srcD σd 1 (.os id i n) fun m c=>bif intsD .i32 m c then k (.v (.string (runesS m fun j=>numD (c.get j 0)))) σd else none
  | _=>none
 | _,_,_=>none
theorem src_ints {σ:Heap}{σd:DHeap}{id i n:Nat}{xv:Value}{q:IntKind}{cont:Nat->DC->Option α}(h:St st C μ σ σd) (hx:DR C μ (.os id i n) xv) (hs:(srcD σd 1 (.os id i n) fun m c=>bif intsD q m c then cont m c else none)=some r) :
  ∃ a m cap l c,xv=.slice (some a) m cap/\(if m=0 then some [] else loadN st σ a m)=some l/\intsA q l=some ((List.range m).map fun j=>numD (c.get j 0))/\cont m c=some r:=by
 obtain ⟨n',c,news,h1,h2,_,h4,h5,h6,_,hs2⟩:=srcD_some h (by decide) hx hs
 obtain ⟨hq,hs3⟩:=bif_none hs2;clear hs hs2;have hq:=intsD_iff.1 hq
 cases hx with
 | os _ _ _ b k L off cap hm hk hc =>
  have hsrc:n'=n/\(if n=0 then some [] else loadN st σ ⟨b,off,none⟩ n)=some news:=by
   unfold sourceA at h1;simp only [Nat.mul_one] at h1
   by_cases h0:n=0
   ·rw [if_pos h0] at h1 ⊢;simp only [Option.some.injEq,Prod.mk.injEq] at h1
    exact ⟨h1.1.symm,by rw [h1.2]⟩
   ·rw [if_neg h0] at h1 ⊢;simp only [Option.map_eq_some_iff,Prod.mk.injEq] at h1;obtain ⟨l,h7,h8,rfl⟩:=h1;exact ⟨h8.symm,h7⟩
  obtain ⟨rfl,hl⟩:=hsrc
  refine ⟨_,_,cap,news,c,rfl,hl,intsA_of (by simpa using h2) fun j hj=>?_,hs3⟩
  obtain ⟨u,hu,hr⟩:=h6 j 0 hj (by decide)
  rw [hq j hj] at hr;rw [Nat.mul_one,Nat.add_zero] at hu;rw [hu,(DR_v hr).1]
theorem convD_some {src dst:TypeId}{x:DV}{xv:Value}{k:DV->DHeap->Option α}(h:St st C μ σ σd) (hx:DR C μ x xv) (hs:convD P σd src dst x k=some r) :
  (∃ v σ' μ' d σd',convA P st σ src dst xv=some (v,σ')/\St st C μ' σ' σd'/\Nx C μ σ σd C μ' σ' σd'/\DR C μ' d v/\k d σd'=some r) /\
   ((∃ e s,P.underlying src=some .string/\P.underlying dst=some (.slice e)/\(P.underlying e=some (.int .u8)\/P.underlying e=some (.int .i32))/\xv=.string s)\/flat xv=false):=by
 unfold convD at hs
 split at hs<;>first | (cases hs; done) | skip
 ·rename_i e s h1 h2;obtain ⟨rfl,_⟩:=DR_v hx
  split at hs<;>first | (cases hs; done) | skip
  rotate_left
  ·rename_i h3;obtain ⟨hb,hs⟩:=dec_none hs
   have hlen:(Conv.runesFrom s s.size 0 #[]).toList.length=runeN s:=by simp [runeN]
   obtain ⟨g1,g2⟩:=h.push (k:=1) (c:=.tab (runeN s) fun i _=>.v (.int .i32 (runeAt s i))) (l:=(Conv.runesFrom s s.size 0 #[]).toList) (by decide) (by rw [hlen]; exact Nat.le_of_eq (Nat.mul_one _)) trivial fun i f hi hf=>by
    obtain rfl:f=0:=by omega
    refine ⟨.int .i32 (runeAt s i),?_,rfl,.v _ rfl⟩;simp only [Nat.mul_one,Nat.add_zero];exact runeAt_eq s hi
   refine ⟨⟨.slice (some (newB σ (Conv.runesFrom s s.size 0 #[]).toList).1) (runeN s) (unk+1),(newB σ (Conv.runesFrom s s.size 0 #[]).toList).2,_,_,_,?_,g1,g2,.os _ _ _ σ.length 1 (Conv.runesFrom s s.size 0 #[]).toList.length 0 _ (by simp [Mu.put]) (by decide) (.inr ⟨rfl,by simp [runeN]⟩),hs⟩,.inl ⟨e,s,h1,h2,.inr h3,rfl⟩⟩
   unfold convA;simp only [h1,h2,h3]
   rw [if_pos (by rw [hlen]; exact Nat.le_trans (runeN_le s) hb),hlen]
  rename_i h3;obtain ⟨hb,hs⟩:=dec_none hs
  have hlen:(bytesA s).length=s.size:=by simp [bytesA]
  obtain ⟨g1,g2⟩:=h.push (k:=1) (c:=.tab s.size fun i _=>.v (.int .u8 (byteAt s i))) (l:=bytesA s) (by decide) (by rw [hlen]; exact Nat.le_of_eq (Nat.mul_one _)) trivial fun i f hi hf=>by
   obtain rfl:f=0:=by omega
   have hi:i<s.data.toList.length:=by simpa using (show i<s.size from hi)
   refine ⟨.int .u8 (byteAt s i),?_,rfl,.v _ rfl⟩;simp only [bytesA,Nat.mul_one,Nat.add_zero,List.getElem?_map,List.getElem?_eq_getElem hi,Option.map_some,byteAt,List.getD_eq_getElem?_getD,Option.getD_some]
  refine ⟨⟨.slice (some (newB σ (bytesA s)).1) s.size (unk+1),(newB σ (bytesA s)).2,_,_,_,?_,g1,g2,.os _ _ _ σ.length 1 (bytesA s).length 0 _ (by simp [Mu.put]) (by decide) (.inr ⟨rfl,by simp⟩),hs⟩,.inl ⟨e,s,h1,h2,.inl h3,rfl⟩⟩
  unfold convA;simp only [h1,h2,h3];rw [if_pos hb]
 ·rename_i e id i n h1 h2
  split at hs<;>first | (cases hs; done) | skip
  ·rename_i h3;obtain ⟨a,m,cap,l,c,rfl,hl,hi,hs⟩:=src_ints h hx hs;refine ⟨⟨_,σ,μ,_,σd,?_,h,.refl _ _ _ _,.v _ rfl,hs⟩,.inr rfl⟩;unfold convA;simp only [h1,h2,h3];rw [hl];simp only [hi,Option.map_some];rfl
  ·rename_i h3;obtain ⟨a,m,cap,l,c,rfl,hl,hi,hs⟩:=src_ints h hx hs;refine ⟨⟨_,σ,μ,_,σd,?_,h,.refl _ _ _ _,.v _ rfl,hs⟩,.inr rfl⟩;unfold convA;simp only [h1,h2,h3];rw [hl];simp only [hi,Option.map_some];rfl
end
end Go.DE
namespace Go.DE
open Go Go.AE Go.RowKit
def copyC (c:DC) (a m:Nat) (d:DC):DC:=.tab c.n fun j f=>if a<=j/\j<a+m then d.get (j-a) f else c.get j f
variable {α:Type}
def copyD (P:Program) (σd:DHeap) (types:Array TypeId) (s x:DV) (k:DV->DHeap->Option α):Option α :=
 match s with
 | .os id a len=>match types[0]? with
  | some sT=>match P.underlying sT with
   | some (.slice e)=>match sizeA P e with
    | some q=>bif decide (0<q) then (match σd[id]? with
     | some (some blk)=>bif blk.k==q then (bif decide (a+len<=blk.c.n) then srcD σd q x fun n c=>k (.v (goInt (Nat.min n len))) (σd.set id (some ⟨blk.k,copyC blk.c a (Nat.min n len) c⟩)) else none) else none
     | _=>none) else none
    | none=>none
   | _=>none
  | none=>none
 | _=>none
section
variable {P:Program}{st:AE.Stat}{C:Cf}{μ:Mu}{σ:Heap}{σd:DHeap}{r:α}
theorem srcD_slice {kk:Nat}{x:DV}{v:Value}{cont:Nat->DC->Option α}(hx:DR C μ x v) (hs:srcD σd kk x cont=some r):v=.slice none 0 0\/∃ a n cap,v=.slice (some a) n cap:=by
 unfold srcD at hs;split at hs
 ·cases hx; exact .inl rfl
 ·cases hx with
  | sl=>exact .inr ⟨_,_,_,rfl⟩
  | slnil=>exact .inl rfl
 ·cases hx with
  | os=>exact .inr ⟨_,_,_,rfl⟩
 ·cases hs
def srcCopy (st:AE.Stat) (σ:Heap) (q len:Nat) (v:Value):Option (Nat×List Value) :=
 match v with
 | .slice none 0 0=>some (0,[])
 | .slice (some a) n _=>if Nat.min n len*q=0 then some (Nat.min n len,[]) else (loadN st σ a (Nat.min n len*q)).map fun l=>(Nat.min n len,l)
 | .string s=>some (Nat.min s.size len,((s.extract 0 (Nat.min s.size len)).data.map fun (b:UInt8)=>Value.int .u8 b.toNat).toList)
 | _=>none
theorem set_same {σ:Heap}{b:Nat}{x:Option Blk}(h:σ[b]?=some x):σ.set b x=σ:=by
 apply List.ext_getElem?
 intro i;rw [List.getElem?_set];split
 ·rename_i e;subst e;rw [if_pos (List.getElem?_eq_some_iff.1 h).1,h]
 ·rfl
theorem copyD_some {types:Array TypeId}{s x:DV}{sv xv:Value}{args:Array Value}{k:DV->DHeap->Option α}(h:St st C μ σ σd) (hs:DR C μ s sv) (hx:DR C μ x xv) (ha0:args[0]?=some sv) (ha1:args[1]?=some xv)
  (hd:copyD P σd types s x k=some r) :
  ∃ n σ' σd',copyA P st σ types args=some (goInt n,σ')/\St st C μ σ' σd'/\Nx C μ σ σd C μ σ' σd'/\k (.v (goInt n)) σd'=some r/\flat sv=false:=by
 unfold copyD at hd
 split at hd<;>first | (cases hd; done) | skip
 rename_i id a len
 split at hd<;>first | (cases hd; done) | skip
 rename_i sT ht
 split at hd<;>first | (cases hd; done) | skip
 rename_i e hu
 split at hd<;>first | (cases hd; done) | skip
 rename_i q hq;obtain ⟨hq0,hd⟩:=dec_none hd
 split at hd<;>first | (cases hd; done) | skip
 rename_i blk hb;obtain ⟨hkq,hd⟩:=bif_none hd;obtain ⟨hlen,hd⟩:=dec_none hd
 have hkq:blk.k=q:=by simpa using hkq
 subst hkq;have hsl:=srcD_slice hx hd;obtain ⟨n,c,news,s1,s2,s3,s4,s5,s6,s7,hk⟩:=srcD_some h hq0 hx hd
 cases hs with
 | os _ _ _ b k' L off cap hm hk' hc =>
  obtain ⟨b0,L0,l,h1,h2,h3,h4,h5,h6,h7⟩:=h.own id blk hb;rw [hm] at h1;simp only [Option.some.injEq,Prod.mk.injEq] at h1;obtain ⟨rfl,rfl,rfl⟩:=h1;have hml:Nat.min n len<=len:=Nat.min_le_right _ _;have hmn:Nat.min n len<=n:=Nat.min_le_left _ _
  -- what is read
  have hsrc:srcCopy st σ blk.k len xv=some (Nat.min n len,news.take (Nat.min n len*blk.k)):=by
   rcases hsl with rfl | ⟨a',n',cap',rfl⟩
   ·simp only [sourceA,Option.some.injEq,Prod.mk.injEq] at s1;obtain ⟨rfl,rfl⟩:=s1;simp [srcCopy]
   ·simp only [sourceA] at s1;unfold srcCopy
    by_cases h0:n'*blk.k=0
    ·rw [if_pos h0] at s1;simp only [Option.some.injEq,Prod.mk.injEq] at s1;obtain ⟨rfl,rfl⟩:=s1
     have:n'=0:=by
      rcases Nat.mul_eq_zero.1 h0 with e | e
      ·exact e
      ·omega
     subst this;simp
    ·rw [if_neg h0] at s1;simp only [Option.map_eq_some_iff,Prod.mk.injEq] at s1;obtain ⟨l',hl',rfl,rfl⟩:=s1
     by_cases h1:Nat.min n' len*blk.k=0
     ·simp only [if_pos h1];rw [h1,List.take_zero]
     ·simp only [if_neg h1];obtain ⟨e1,e2⟩:=loadN_at hl';have hle:Nat.min n' len*blk.k<=n'*blk.k:=Nat.mul_le_mul_right _ hmn
      have:loadN st σ a' (Nat.min n' len*blk.k)=some (l'.take (Nat.min n' len*blk.k)):=by
       refine loadN_intro (by omega) (by rw [List.length_take]; omega) fun j v hj=>?_
       rw [List.getElem?_take] at hj;split at hj
       ·rename_i hlt
        rw [<- e2 j (by omega)]
        exact hj
       ·cases hj
      rw [this];rfl
  generalize hmin:Nat.min n len=m at hml hmn hk hsrc
  have hcopy:copyA P st σ types args=(if (news.take (m*blk.k)).isEmpty then some (goInt m,σ) else (storeN σ ⟨b,off,none⟩ (news.take (m*blk.k))).map fun σ'=>(goInt m,σ')):=by
   unfold copyA;simp only [ht,ha0,ha1,hu,hq]
   show (match srcCopy st σ blk.k len xv with | none=>none | some (n,cells)=>_)=_
   rw [hsrc]
  have hlt:(news.take (m*blk.k)).length=m*blk.k:=by
   rw [List.length_take,s2];exact Nat.min_eq_left (Nat.mul_le_mul_right _ hmn)
  by_cases hm0:m=0
  ·subst hm0
   have hp:=h.put (c:=copyC blk.c a 0 c) (l':=l) hb hm h3 rfl rfl trivial fun i f hi hf=>by
    obtain ⟨v,q1,q2,q3⟩:=h7 i f hi hf;refine ⟨v,q1,q2,?_⟩
    show DR C μ (if a<=i/\i<a+0 then _ else blk.c.get i f) v
    rw [if_neg (by omega)]
    exact q3
   rw [set_same h3] at hp;refine ⟨0,σ,_,?_,hp.1,hp.2,hk,rfl⟩;rw [hcopy];simp
  ·have hcap:off=a*blk.k:=by
    rcases hc with ⟨_,c2,c3 | c3⟩ | c3
    ·omega
    ·exact c3.1
    ·exact c3.2
   have hend:off+m*blk.k<=l.length:=by
    have e1:(a+m)*blk.k<=blk.c.n*blk.k:=Nat.mul_le_mul_right _ (by omega)
    rw [Nat.add_mul] at e1;omega
   have hne:(news.take (m*blk.k)).isEmpty=false:=by
    have:0<m*blk.k:=Nat.mul_pos (by omega) hq0
    cases hx:news.take (m*blk.k) with
    | nil=>rw [hx] at hlt; simp at hlt; omega
    | cons _ _=>rfl
   have hall:(news.take (m*blk.k)).all Value.oneCell'=true:=List.all_eq_true.2 fun v hv=>s3 v (List.mem_of_mem_take hv)
   have hst:storeN σ ⟨b,off,none⟩ (news.take (m*blk.k))=some (σ.set b (some (.cells (l.take off++news.take (m*blk.k)++l.drop (off+m*blk.k))))):=by
    unfold storeN;simp only [h3,hlt,hall,Bool.and_true,decide_eq_true_eq,hend,if_true]
   have hp:=h.put (c:=copyC blk.c a m c) (l':=l.take off++news.take (m*blk.k)++l.drop (off+m*blk.k)) hb hm h3 (by simp only [List.length_append,List.length_take,List.length_drop,hlt] at *; omega) rfl trivial fun i f hi hf=>by
    have hi:i<blk.c.n:=hi
    have hpos:i*blk.k+f<l.length:=by
     have:=pos_lt hi hf;omega
    show ∃ v,_/\_/\DR C μ (if a<=i/\i<a+m then c.get (i-a) f else blk.c.get i f) v
    by_cases hin:a<=i/\i<a+m
    ·obtain ⟨u,q1,q2⟩:=s6 (i-a) f (by omega) hf
     have hge:off<=i*blk.k+f:=by
      have:a*blk.k<=i*blk.k:=Nat.mul_le_mul_right _ hin.1;omega
     have hsub:i*blk.k+f-off=(i-a)*blk.k+f:=by
      have e:i*blk.k=(i-a)*blk.k+a*blk.k:=by rw [<- Nat.add_mul]; congr 1; omega
      omega
     have hlt2:(i-a)*blk.k+f<m*blk.k:=pos_lt (by omega) hf
     refine ⟨u,?_,s3 u (List.mem_of_getElem? q1),by rw [if_pos hin]; exact q2⟩
     rw [List.append_assoc,List.getElem?_append_right (by simp only [List.length_take]; omega),List.length_take,Nat.min_eq_left (by omega),hsub,List.getElem?_append_left (by omega),List.getElem?_take,if_pos hlt2]
     exact q1
    ·obtain ⟨v,q1,q2,q3⟩:=h7 i f hi hf
     refine ⟨v,?_,q2,by rw [if_neg hin]; exact q3⟩
     by_cases hia:i<a
     ·have:i*blk.k+f<off:=by
       have:=pos_lt hia hf;omega
      rw [List.append_assoc,List.getElem?_append_left (by simp only [List.length_take]; omega),List.getElem?_take,if_pos this]
      exact q1
     ·have hge:off+m*blk.k<=i*blk.k+f:=by
       have:(a+m)*blk.k<=i*blk.k:=Nat.mul_le_mul_right _ (by omega)
       rw [Nat.add_mul] at this;omega
      rw [List.getElem?_append_right (by simp only [List.length_append,List.length_take,hlt]; omega),List.length_append,List.length_take,hlt,Nat.min_eq_left (by omega),List.getElem?_drop]
      rw [<- q1]
      congr 1
      omega
   refine ⟨m,_,_,?_,hp.1,hp.2,hk,rfl⟩;rw [hcopy,hne,hst];rfl
end
end Go.DE
