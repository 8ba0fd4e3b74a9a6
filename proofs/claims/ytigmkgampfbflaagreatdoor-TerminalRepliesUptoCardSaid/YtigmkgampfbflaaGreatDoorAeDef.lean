/-
 A deterministic evaluator over the model's code: its values name abstract blocks,capacities of grown slices are unknown,and the order of a region is that of the text (with a check that no other order differs).
 Conditions: see the theorems.
-/
import Derived.Orders
import Derived.Below
namespace Go.AE
open Go
def unk:Nat:=9223372036854775808
def flatD:Nat->Value->Bool
 | 0,_=>false
 | n+1,v =>
  match v with
  | .bool _=>true
  | .int _ _=>true
  | .float _ _=>true
  | .complex _ _ _=>true
  | .string _=>true
  | .pointer none=>true
  | .slice none 0 0=>true
  | .map none=>true
  | .nilFunc=>true
  | .nilIface=>true
  | .iface _ x=>flatD n x
  | .agg cs=>cs.toList.all (flatD n)
  | .tuple cs=>cs.toList.all (flatD n)
  | _=>false
def flat (v:Value):Bool:=flatD 4 v
def peek {α:Type}(P:Program):Sem α->Option α
 | .pure a=>some a
 | .program k=>peek P (k P)
 | .mark _ k=>peek P k
 | _=>none
inductive Blk where
 | cells (l:List Value)
 | map (es:List (Value×Value))
 | pmap (q:IntKind) (es:List (Value×Value))
 | iter (s:ByteArray) (pos:Nat)
 | loop (τ:Array Value) (ps:Array Tmp) (asg body:Code) (s:LoopState) (p:Option Code)
abbrev Heap:=List (Option Blk)
abbrev CallA:=FuncId->List Value->Heap->Option (Value×Heap)
structure Stat where
 cell:Nat->Nat->Option Value
 ext:CallA
instance:CoeFun Stat fun _=>Nat->Nat->Option Value:=⟨Stat.cell⟩
def readS (f:Nat->Option Value) (off:Nat):Nat->Option (List Value)
 | 0=>some []
 | n+1=>match f off with
  | some v=>match readS f (off+1) n with
   | some l=>some (v :: l)
   | none=>none
  | none=>none
def loadN (st:Stat) (σ:Heap) (a:Addr) (n:Nat):Option (List Value) :=
 match a.spot with
 | some _=>readS (st a.block) a.off n
 | none=>match σ[a.block]? with
  | some (some (.cells l))=>if a.off+n<=l.length then some ((l.drop a.off).take n) else none
  | _=>none
def storeN (σ:Heap) (a:Addr) (vs:List Value):Option Heap :=
 match a.spot with
 | some _=>none
 | none=>match σ[a.block]? with
  | some (some (.cells l)) =>
   if a.off+vs.length<=l.length&&vs.all Value.oneCell' then some (σ.set a.block (some (.cells (l.take a.off++vs++l.drop (a.off+vs.length))))) else none
  | _=>none
def addA (a:Addr) (k:Nat):Addr:=⟨a.block,a.off+k,a.spot⟩
def evalT (τ:Array Value):Operand->Value
 | .tmp t=>τ.getD t undef
 | .const v=>v
 | .global g=>.pointer (some ⟨g,0,some 0⟩)
 | .func f=>.func (.func f) #[] #[]
def putT (τ:Array Value) (dst:Option Tmp) (v:Value):Array Value :=
 match dst with
 | some d=>τ.setIfInBounds d v
 | none=>τ
def aggDesc:TypeDesc->Bool
 | .struct _=>true
 | .array _ _=>true
 | _=>false
def sizeA (P:Program) (t:TypeId):Option Nat:=(P.info? t).map (·.size)
def zeroA (P:Program) (t:TypeId):Option Value :=
 match P.info? t with
 | some i=>match i.zero with
  | some z=>if flat z then some z else none
  | none=>none
 | none=>none
def loadV (P:Program) (st:Stat) (σ:Heap) (t:TypeId) (a:Addr):Option Value :=
 match P.underlying t with
 | some d =>
  if aggDesc d then
   match sizeA P t with
   | some n=>(loadN st σ a n).map fun l=>.agg l.toArray
   | none=>none
  else match loadN st σ a 1 with
   | some [v]=>some v
   | _=>none
 | none=>none
def storeV (P:Program) (σ:Heap) (t:TypeId) (a:Addr) (v:Value):Option Heap :=
 match sizeA P t with
 | some n=>if v.cells.size=n then storeN σ a v.cells.toList else none
 | none=>none
def newB (σ:Heap) (l:List Value):Addr×Heap:=(⟨σ.length,0,none⟩,σ++[some (.cells l)])
def partA (P:Program) (t:TypeId) (cs:Array Value) (off:Nat):Option Value :=
 match P.underlying t,sizeA P t with
 | some d,some n=>if aggDesc d then some (.agg (cs.extract off (off+n))) else cs[off]?
 | _,_=>none
def boundA (x:Value) (y:Nat):Option Nat :=
 match x with
 | .int _ i=>if 0<=i/\i<=(y:Int) then some i.toNat else none
 | _=>none
def boundsA (len cap:Nat) (low high max:Option Value):Option (Nat×Nat×Nat) :=
 match (match max with | some v=>boundA v cap | none=>some cap) with
 | none=>none
 | some m =>
  match (match high,max with | some v,_=>boundA v m | none,none=>some len | none,some _=>none) with
  | none=>none
  | some h =>
   match (match low with | some v=>boundA v h | none=>some 0) with
   | none=>none
   | some l=>some (l,h,m)
def sliceA (P:Program) (t:TypeId) (x:Value) (low high max:Option Value):Option Value :=
 match P.underlying t,x with
 | some (.slice e),.slice base len cap =>
  match sizeA P e with
  | none=>none
  | some size =>
   if cap<unk then
    match boundsA len cap low high max with
    | some (l,h,m)=>some (.slice (if m=l then base else base.map (addA · (l*size))) (h-l) (m-l))
    | none=>none
   else if cap≠unk+size then none
   else match max with
    | some _ =>
     match boundsA len len low high max with
     | some (l,h,m)=>some (.slice (if m=l then base else base.map (addA · (l*size))) (h-l) (m-l))
     | none=>none
    | none =>
     match boundsA len len low high none with
     | some (l,h,_)=>some (.slice (base.map (addA · (l*size))) (h-l) cap)
     | none=>none
 | some (.array n e),.pointer (some a) =>
  match sizeA P e with
  | none=>none
  | some size =>
   if n<unk then
    match boundsA n n low high max with
    | some (l,h,m)=>some (.slice (some (if m=l then a else addA a (l*size))) (h-l) (m-l))
    | none=>none
   else none
 | _,_=>none
def indexAddrA (P:Program) (t:TypeId) (x ix:Value):Option Value :=
 match ix with
 | .int _ i =>
  match P.underlying t,x with
  | some (.array len e),.pointer (some a) =>
   match sizeA P e with
   | some size=>if 0<=i/\i<(len:Int) then some (.pointer (some (addA a (i.toNat*size)))) else none
   | none=>none
  | some (.slice e),.slice (some a) len _ =>
   match sizeA P e with
   | some size=>if 0<=i/\i<(len:Int) then some (.pointer (some (addA a (i.toNat*size)))) else none
   | none=>none
  | _,_=>none
 | _=>none
def fieldAddrA (P:Program) (s:TypeId) (x:Value) (f:Nat):Option Value :=
 match P.underlying s,x with
 | some (.struct fields),.pointer (some a) =>
  match fields[f]? with
  | some fd=>match sizeA P fd.type with
   | some (_+1)=>some (.pointer (some (addA a fd.offset)))
   | _=>none
  | none=>none
 | _,_=>none
def fieldA (P:Program) (t:TypeId) (x:Value) (f:Nat):Option Value :=
 match P.underlying t,x with
 | some (.struct fields),.agg cs=>match fields[f]? with
  | some fd=>partA P fd.type cs fd.offset
  | none=>none
 | _,_=>none
def indexA (P:Program) (t:TypeId) (x ix:Value):Option Value :=
 match ix,P.underlying t,x with
 | .int _ i,some (.array len e),.agg cs =>
  match sizeA P e with
  | some size=>if 0<=i/\i<(len:Int) then partA P e cs (i.toNat*size) else none
  | none=>none
 | _,_,_=>none
def buildA (P:Program) (t:TypeId) (parts:List (Nat×Value)):Option Value :=
 match zeroA P t with
 | none=>none
 | some z =>
  match P.underlying t with
  | some (.struct fields) =>
   match fields.toList.mapM (fun f=>(sizeA P f.type).map fun n=>(f.offset,n)) with
   | some places=>(Instr.fill (fun i=>places.toArray[i]?) z.cells parts).map .agg
   | none=>none
  | some (.array _ e)=>match sizeA P e with
   | some size=>(Instr.fill (fun i=>some (i*size,size)) z.cells parts).map .agg
   | none=>none
  | _=>none
def zerosA (z:Array Value) (n:Nat):List Value:=((Array.range n).map (z[· % z.size]!)).toList
def buildSliceA (P:Program) (σ:Heap) (t:TypeId) (len:Nat) (parts:List (Nat×Value)):Option (Value×Heap) :=
 match P.underlying t with
 | some (.slice e) =>
  match sizeA P e with
  | none=>none
  | some size =>
   if len*size > 2 ^ 24\/len >= unk then none else
   match (if len*size=0 then some #[] else (zeroA P e).map (·.cells)) with
   | none=>none
   | some zero =>
    match Instr.fill (fun i=>some (i*size,size)) (zerosA zero (len*size)).toArray parts with
    | none=>none
    | some cells=>some (.slice (some (newB σ cells.toList).1) len len,(newB σ cells.toList).2)
 | _=>none
def makeSliceA (P:Program) (σ:Heap) (t:TypeId) (len cap:Value):Option (Value×Heap) :=
 match P.underlying t,len,cap with
 | some (.slice e),.int _ l,.int _ c =>
  match P.info? e with
  | none=>none
  | some i =>
   if 0<=l/\l<=c/\c<9223372036854775808/\(i.bytes:Int)*c<=281474976710656 then
    match zeroA P e with
    | none=>none
    | some z =>
     some (.slice (some (newB σ (zerosA z.cells (c.toNat*i.size))).1) l.toNat c.toNat,(newB σ (zerosA z.cells (c.toNat*i.size))).2)
   else none
 | _,_,_=>none
def sourceA (st:Stat) (σ:Heap) (size:Nat) (x:Value):Option (Nat×List Value) :=
 match x with
 | .slice none 0 0=>some (0,[])
 | .slice (some a) n _=>if n*size=0 then some (n,[]) else (loadN st σ a (n*size)).map fun l=>(n,l)
 | .string s=>some (s.size,(s.data.map fun b=>Value.int .u8 b.toNat).toList)
 | _=>none
def growA (_P:Program) (st:Stat) (σ:Heap) (i:TypeInfo) (base:Option Addr) (sLen need:Nat) (news:List Value):Option (Value×Heap) :=
 if need*i.bytes<=140737488355328/\i.bytes≠0 then
  match i.zero with
  | none=>none
  | some z =>
   if z.cells.size≠i.size then none else
   match (match base with | none=>some [] | some a=>if sLen*i.size=0 then some [] else loadN st σ a (sLen*i.size)) with
   | none=>none
   | some old=>some (.slice (some (newB σ (old++news)).1) need (unk+i.size),(newB σ (old++news)).2)
 else none
def appendA (P:Program) (st:Stat) (σ:Heap) (argTypes:Array TypeId) (args:Array Value):Option (Value×Heap) :=
 match argTypes[0]?,argTypes[1]?,args[0]?,args[1]? with
 | some sT,some xT,some (Value.slice base sLen sCap),some x =>
  match P.underlying sT,P.underlying xT with
  | some (.slice e),some xd =>
   match P.info? e with
   | none=>none
   | some i =>
    match (match xd with
     | .int _=>match x with
      | .int _ m=>if 0<=m/\m<9223372036854775808/\m*i.bytes<=281474976710656 then
        (if m.toNat*i.size=0 then some (m.toNat,[]) else (zeroA P e).map fun (z:Value)=>(m.toNat,zerosA z.cells (m.toNat*z.cells.size))) else none
      | _=>none
     | _=>sourceA st σ i.size x) with
    | none=>none
    | some (n,news) =>
     if news.length≠n*i.size\/news.all Value.oneCell'=false then none
     else if sCap<unk then
      if sLen+n<=sCap then
       match base with
       | none=>some (.slice none 0 0,σ)
       | some a=>if news.isEmpty then some (.slice (some a) (sLen+n) sCap,σ) else (storeN σ (addA a (sLen*i.size)) news).map fun σ'=>(.slice (some a) (sLen+n) sCap,σ')
      else growA P st σ i base sLen (sLen+n) news
     else if n=0 then some (.slice base sLen sCap,σ)
     else if sCap≠unk+i.size then none
     else match base with
      | none=>none
      | some a=>match a.spot,σ[a.block]? with
       | none,some (some (.cells _))=>if news.isEmpty then none else (growA P st σ i base sLen (sLen+n) news).map fun (r:Value×Heap)=>(r.1,r.2.set a.block none)
       | _,_=>none
  | _,_=>none
 | _,_,_,_=>none
def copyA (P:Program) (st:Stat) (σ:Heap) (argTypes:Array TypeId) (args:Array Value):Option (Value×Heap) :=
 match argTypes[0]?,args[0]?,args[1]? with
 | some dT,some (Value.slice base dLen _),some src =>
  match P.underlying dT with
  | some (.slice e) =>
   match sizeA P e with
   | none=>none
   | some size =>
    match (match src with
     | .slice none 0 0=>some (0,[])
     | .slice (some a) n _=>if Nat.min n dLen*size=0 then some (Nat.min n dLen,[]) else (loadN st σ a (Nat.min n dLen*size)).map fun l=>(Nat.min n dLen,l)
     | .string s=>some (Nat.min s.size dLen,((s.extract 0 (Nat.min s.size dLen)).data.map fun (b:UInt8)=>Value.int .u8 b.toNat).toList)
     | _=>none) with
    | none=>none
    | some (n,cells) =>
     match base with
     | none=>some (goInt n,σ)
     | some a=>if cells.isEmpty then some (goInt n,σ) else (storeN σ a cells).map fun σ'=>(goInt n,σ')
  | _=>none
 | _,_,_=>none
def nilEqA (x y:Value):Option Bool :=
 match x,y with
 | .slice none 0 0,.slice b _ _=>some b.isNone
 | .slice b _ _,.slice none 0 0=>some b.isNone
 | .pointer none,.pointer b=>some b.isNone
 | .pointer b,.pointer none=>some b.isNone
 | .nilFunc,.func _ _ _=>some false
 | .func _ _ _,.nilFunc=>some false
 | .map none,.map b=>some b.isNone
 | .map b,.map none=>some b.isNone
 | _,_=>none
def descFits (d:TypeDesc) (x:Value):Bool :=
 match d,x with
 | .slice _,.slice _ _ _=>true
 | .pointer _,.pointer _=>true
 | .func _ _ _,.func _ _ _=>true
 | .func _ _ _,.nilFunc=>true
 | .map _ _,.map _=>true
 | _,_=>false
def binA (P:Program) (op:BinOp) (t:TypeId) (x y:Value):Option Value :=
 match P.underlying t with
 | some d =>
  if descFits d x&&descFits d y then
   match op,nilEqA x y with
   | .eql,some b=>some (.bool b)
   | .neq,some b=>some (.bool !b)
   | _,_=>none
  else none
 | none=>none
def plainKey:TypeDesc->Bool
 | .int _=>true
 | .string=>true
 | .bool=>true
 | _=>false
def findA (d:TypeDesc) (k:Value):List (Value×Value)->Nat->Option (Option (Nat×Value))
 | [],_=>some none
 | e :: es,i=>match Instr.sameNow d k e.1 with
  | some true=>some (some (i,e.2))
  | some false=>findA d k es (i+1)
  | none=>none
def mapA (P:Program) (σ:Heap) (t:TypeId) (m:Value):Option (TypeDesc×TypeId×List (Value×Value)) :=
 match P.underlying t with
 | some (.map kt et)=>match P.underlying kt with
  | some d=>if plainKey d then (match m with
   | .map none=>some (d,et,[])
   | .map (some r)=>match σ[r]? with
    | some (some (.map es))=>some (d,et,es)
    | _=>none
   | _=>none) else none
  | none=>none
 | _=>none
def pmapB (P:Program) (t:TypeId) (k:Value):Option Blk->Option Value
 | some (.pmap q es)=>match P.underlying t with
  | some (.map kt _)=>match P.underlying kt with
   | some (.int q')=>if q=q'/\flat k=true then (match findA (.int q) k es 0 with
    | some (some (_,v))=>some v
    | _=>none) else none
   | _=>none
  | _=>none
 | _=>none
def pmapA (P:Program) (σ:Heap) (t:TypeId) (m k:Value):Option Value :=
 match m with
 | .map (some r)=>pmapB P t k (σ[r]?).join
 | _=>none
def lookupA (P:Program) (σ:Heap) (t:TypeId) (m k:Value) (ok:Bool):Option Value :=
 match pmapA P σ t m k with
 | some v=>some (if ok then .tuple #[v,.bool true] else v)
 | none=>match mapA P σ t m with
  | some (d,et,es)=>if flat k=false then none else match findA d k es 0 with
   | some (some (_,v))=>some (if ok then .tuple #[v,.bool true] else v)
   | some none=>(zeroA P et).map fun z=>if ok then .tuple #[z,.bool false] else z
   | none=>none
  | none=>none
def mapPutA (P:Program) (σ:Heap) (t:TypeId) (m k v:Value):Option Heap :=
 match mapA P σ t m,m with
 | some (d,_,es),.map (some r)=>if flat k then (match findA d k es 0 with
  | some (some (i,_))=>some (σ.set r (some (.map (es.set i (k,v)))))
  | some none=>some (σ.set r (some (.map (es++[(k,v)]))))
  | none=>none) else none
 | _,_=>none
def bytesA (s:ByteArray):List Value:=s.data.toList.map fun b=>.int .u8 b.toNat
def intsA (q:IntKind):List Value->Option (List Int)
 | []=>some []
 | .int k n :: r=>if k=q then (intsA q r).map (n :: ·) else none
 | _ :: _=>none
def convA (P:Program) (st:Stat) (σ:Heap) (src dst:TypeId) (x:Value):Option (Value×Heap) :=
 match P.underlying src,P.underlying dst,x with
 | some .string,some (.slice e),.string s =>
  match P.underlying e with
  | some (.int .u8)=>if s.size<=140737488355328 then some (.slice (some (newB σ (bytesA s)).1) s.size (unk+1),(newB σ (bytesA s)).2) else none
  | some (.int .i32) =>
   let l:=(Conv.runesFrom s s.size 0 #[]).toList
   if l.length<=140737488355328 then some (.slice (some (newB σ l).1) l.length (unk+1),(newB σ l).2) else none
  | _=>none
 | some (.slice e),some .string,.slice (some a) n _ =>
  match P.underlying e with
  | some (.int .u8)=>match (if n=0 then some [] else loadN st σ a n) with
   | some l=>(intsA .u8 l).map fun ns=>(.string (ns.foldl (fun r n=>r.push (UInt8.ofNat n.toNat)) ByteArray.empty),σ)
   | none=>none
  | some (.int .i32)=>match (if n=0 then some [] else loadN st σ a n) with
   | some l=>(intsA .i32 l).map fun ns=>(.string (ns.foldl (fun r n=>r++Utf8.encode n) ByteArray.empty),σ)
   | none=>none
  | _=>none
 | _,_,_=>none
def rangeA (P:Program) (σ:Heap) (t:TypeId) (x:Value):Option (Value×Heap) :=
 match P.underlying t,x with
 | some .string,.string s=>some (.pointer (some ⟨σ.length,0,none⟩),σ++[some (.iter s 0)])
 | _,_=>none
def nextA (σ:Heap) (it:Value) (isString:Bool):Option (Value×Heap) :=
 match it,isString with
 | .pointer (some ⟨r,0,none⟩),true=>match σ[r]? with
  | some (some (.iter s pos)) =>
   if pos<s.size then
    some (.tuple #[.bool true,goInt pos,.int .i32 (Utf8.decode s pos).1],σ.set r (some (.iter s (pos+(Utf8.decode s pos).2))))
   else some (.tuple #[.bool false],σ)
  | _=>none
 | _,_=>none
def enterA (P:Program) (call:CallA) (g:FuncId) (args:List Value) (σ:Heap):Option (Value×Heap) :=
 match P.funcs[g]? with
 | none=>none
 | some fn =>
  if fn.name== "runtime.NumGoroutine" then none
  else if fn.body.isNone then
   if args.all flat then
    match peek P (callFunc g args.toArray) with
    | some (.value v)=>if flat v then some (v,σ) else none
    | _=>none
   else none
  else call g args σ
def callA (P:Program) (st:Stat) (call:CallA) (ev:Operand->Value) (c:Call) (σ:Heap):Option (Value×Heap) :=
 match c.callee with
 | .value f=>match ev f with
  | .func (.func g) first captured=>enterA P call g ((first++c.args.map ev)++captured).toList σ
  | .chan (some l)=>call (P.funcs.size+l) (c.args.map ev).toList σ
  | _=>none
 | .builtin .len=>match c.argTypes[0]?,(c.args.map ev)[0]? with
  | some t,some (Value.slice _ n _)=>match P.underlying t with
   | some (.slice _)=>some (goInt n,σ)
   | _=>none
  | _,_=>none
 | .builtin .cap=>match c.argTypes[0]?,(c.args.map ev)[0]? with
  | some t,some (Value.slice _ _ n)=>match P.underlying t with
   | some (.slice _)=>if n<unk then some (goInt n,σ) else none
   | _=>none
  | _,_=>none
 | .builtin .append=>appendA P st σ c.argTypes (c.args.map ev)
 | .builtin .copy=>copyA P st σ c.argTypes (c.args.map ev)
 | _=>none
def specA (P:Program) (st:Stat) (call:CallA) (ev:Operand->Value) (op:Op) (σ:Heap):Option (Value×Heap) :=
 match op with
 | .move x=>some (ev x,σ)
 | .assign x=>some (ev x,σ)
 | .pick c a b=>match ev c with
  | .bool t=>some (if t then ev a else ev b,σ)
  | _=>none
 | .alloc e=>(zeroA P e).map fun z=>(.pointer (some (newB σ z.cells.toList).1),(newB σ z.cells.toList).2)
 | .box _ x=>some (.pointer (some (newB σ (ev x).cells.toList).1),(newB σ (ev x).cells.toList).2)
 | .build t parts=>(buildA P t (parts.map fun p=>(p.1,ev p.2)).toList).map (·,σ)
 | .buildSlice t len parts=>buildSliceA P σ t len (parts.map fun p=>(p.1,ev p.2)).toList
 | .load t a=>match ev a with
  | .pointer (some a)=>(loadV P st σ t a).map (·,σ)
  | _=>none
 | .store t a x=>match ev a with
  | .pointer (some a)=>(storeV P σ t a (ev x)).map (undef,·)
  | _=>none
 | .nilCheck x=>match ev x with
  | .pointer (some a)=>some (.pointer (some a),σ)
  | .func (.func f) fi ca=>some (.func (.func f) fi ca,σ)
  | _=>none
 | .binOp op t x y _=>(binA P op t (ev x) (ev y)).map (·,σ)
 | .makeFunc fn first captured=>some (.func fn (first.map ev) (captured.map ev),σ)
 | .makeSlice t l c=>makeSliceA P σ t (ev l) (ev c)
 | .slice t x lo hi mx=>(sliceA P t (ev x) (lo.map ev) (hi.map ev) (mx.map ev)).map (·,σ)
 | .fieldAddr s x f=>(fieldAddrA P s (ev x) f).map (·,σ)
 | .field t x f=>(fieldA P t (ev x) f).map (·,σ)
 | .indexAddr t x ix=>(indexAddrA P t (ev x) (ev ix)).map (·,σ)
 | .index t x ix=>(indexA P t (ev x) (ev ix)).map (·,σ)
 | .extract x i=>match ev x with
  | .tuple vs=>(vs[i]?).map (·,σ)
  | _=>none
 | .makeMap _ r=>match r with
  | none=>some (.map (some σ.length),σ++[some (.map [])])
  | some _=>none
 | .lookup t m k ok=>(lookupA P σ t (ev m) (ev k) ok).map (·,σ)
 | .mapUpdate t m k x=>(mapPutA P σ t (ev m) (ev k) (ev x)).map (undef,·)
 | .insert t m k x=>(mapPutA P σ t (ev m) (ev k) (ev x)).map (undef,·)
 | .convert src dst x=>convA P st σ src dst (ev x)
 | .range t x=>rangeA P σ t (ev x)
 | .next it isString=>nextA σ (ev it) isString
 | .call c=>callA P st call ev c σ
 | _=>none
def constsOk (op:Op):Bool:=op.operands.toList.all fun | .const v=>flat v | _=>true
def isSelect:Op->Bool
 | .select _ _=>true
 | _=>false
def peekA (P:Program) (ev:Operand->Value) (o:Oper):Option Value :=
 if o.op.operands.toList.all (fun x=>flat (ev x))&&!isSelect o.op then
  match peek P (execOp ev o) with
  | some (.value v)=>if flat v then some v else none
  | _=>none
 else none
def opA (P:Program) (st:Stat) (call:CallA) (ev:Operand->Value) (o:Oper) (σ:Heap):Option (Value×Heap) :=
 if constsOk o.op then
  match peekA P ev o with
  | some v=>some (v,σ)
  | none=>specA P st call ev o.op σ
 else none
def guardOk (ops:Array Oper) (o:Oper) (τ:Array Value):Bool :=
 match o.guard with
 | none=>true
 | some (j,_)=>match ((ops[j]?).bind (·.dst)).bind (τ[·]?) with
  | some (.chan _)=>false
  | _=>true
def stepA (P:Program) (st:Stat) (call:CallA) (ops:Array Oper) (o:Oper) (τ:Array Value) (σ:Heap):Option (Array Value×Heap) :=
 if guardOk ops o τ then
  if Region.wanted o (yielded ops τ) then
   match opA P st call (evalT τ) o σ with
   | some (v,σ')=>some (putT τ o.dst v,σ')
   | none=>none
  else some (putT τ o.dst undef,σ)
 else none
def runA (P:Program) (st:Stat) (call:CallA) (ops:Array Oper):List Oper->Array Value->Heap->Option (Array Value×Heap)
 | [],τ,σ=>some (τ,σ)
 | o :: rest,τ,σ =>
  match stepA P st call ops o τ σ with
  | some (τ',σ')=>runA P st call ops rest τ' σ'
  | none=>none
end Go.AE
