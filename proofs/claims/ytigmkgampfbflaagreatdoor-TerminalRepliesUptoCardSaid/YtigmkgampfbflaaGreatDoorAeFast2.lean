/-
 The operations of the evaluator over a heap that is given as a function,with what they change told.
 Conditions: see the theorems.
-/
import Derived.Test.YtigmkgampfbflaaGreatDoorAeExec
namespace Go.AE
open Go Go.RowKit
inductive Ed where
 | keep
 | push (b:Blk)
 | set (i:Nat) (b:Blk)
 | grow (i:Nat) (b:Blk)
def Ed.app (σ:Heap):Ed->Heap
 | .keep=>σ
 | .push b=>σ++[some b]
 | .set i b=>σ.set i (some b)
 | .grow i b=>(σ++[some b]).set i none
abbrev RG:=Option (Value×Ed)
def RG.app (σ:Heap) (r:RG):Option (Value×Heap):=r.map fun x=>(x.1,x.2.app σ)
theorem join_cells {σ:Heap}{i:Nat}{b:Blk}:hp σ i=some b ↔ σ[i]?=some (some b):=by
 simp only [hp,Option.join_eq_some_iff]
theorem join_none {σ:Heap}{i:Nat}(h:hp σ i=none):∀ b,σ[i]?≠some (some b):=fun b e=>by rw [join_cells.2 e] at h; cases h
def loadG (st:AE.Stat) (g:HF) (a:Addr) (n:Nat):Option (List Value) :=
 match a.spot with
 | some _=>readS (st a.block) a.off n
 | none=>match g a.block with
  | some (.cells l)=>if a.off+n<=l.length then some ((l.drop a.off).take n) else none
  | _=>none
def loadVG (P:Program) (st:AE.Stat) (g:HF) (t:TypeId) (a:Addr):Option Value :=
 match P.underlying t with
 | some d =>
  if aggDesc d then
   match sizeA P t with
   | some n=>(loadG st g a n).map fun l=>.agg l.toArray
   | none=>none
  else match loadG st g a 1 with
   | some [v]=>some v
   | _=>none
 | none=>none
def storeG (g:HF) (a:Addr) (vs:List Value):Option Ed :=
 match a.spot with
 | some _=>none
 | none=>match g a.block with
  | some (.cells l)=>if a.off+vs.length<=l.length&&vs.all Value.oneCell' then some (.set a.block (.cells (l.take a.off++vs++l.drop (a.off+vs.length)))) else none
  | _=>none
def storeVG (P:Program) (g:HF) (t:TypeId) (a:Addr) (v:Value):Option Ed :=
 match sizeA P t with
 | some n=>if v.cells.size=n then storeG g a v.cells.toList else none
 | none=>none
def buildSliceG (P:Program) (n:Nat) (t:TypeId) (len:Nat) (parts:List (Nat×Value)):RG :=
 match P.underlying t with
 | some (.slice e) =>
  match sizeA P e with
  | none=>none
  | some size =>
   if len*size > 2 ^ 24\/len >= unk then none else
   match (if len*size=0 then some #[] else (zeroA P e).map (·.cells)) with
   | none=>none
   | some zero =>
    match Instr.fill (fun i=>some (i*size,size)) (zerosA zero (len*size)).toArray parts with
    | none=>none
    | some cells=>some (.slice (some ⟨n,0,none⟩) len len,.push (.cells cells.toList))
 | _=>none
def makeSliceG (P:Program) (n:Nat) (t:TypeId) (len cap:Value):RG :=
 match P.underlying t,len,cap with
 | some (.slice e),.int _ l,.int _ c =>
  match P.info? e with
  | none=>none
  | some i =>
   if 0<=l/\l<=c/\c<9223372036854775808/\(i.bytes:Int)*c<=281474976710656 then
    match zeroA P e with
    | none=>none
    | some z=>some (.slice (some ⟨n,0,none⟩) l.toNat c.toNat,.push (.cells (zerosA z.cells (c.toNat*i.size))))
   else none
 | _,_,_=>none
def sourceG (st:AE.Stat) (g:HF) (size:Nat) (x:Value):Option (Nat×List Value) :=
 match x with
 | .slice none 0 0=>some (0,[])
 | .slice (some a) n _=>if n*size=0 then some (n,[]) else (loadG st g a (n*size)).map fun l=>(n,l)
 | .string s=>some (s.size,(s.data.map fun b=>Value.int .u8 b.toNat).toList)
 | _=>none
def growG (st:AE.Stat) (g:HF) (n:Nat) (i:TypeInfo) (base:Option Addr) (sLen need:Nat) (news:List Value):Option (Value×Blk) :=
 if need*i.bytes<=140737488355328/\i.bytes≠0 then
  match i.zero with
  | none=>none
  | some z =>
   if z.cells.size≠i.size then none else
   match (match base with | none=>some [] | some a=>if sLen*i.size=0 then some [] else loadG st g a (sLen*i.size)) with
   | none=>none
   | some old=>some (.slice (some ⟨n,0,none⟩) need (unk+i.size),.cells (old++news))
 else none
def appendG (P:Program) (st:AE.Stat) (g:HF) (n0:Nat) (argTypes:Array TypeId) (args:Array Value):RG :=
 match argTypes[0]?,argTypes[1]?,args[0]?,args[1]? with
 | some sT,some xT,some (Value.slice base sLen sCap),some x =>
  match P.underlying sT,P.underlying xT with
  | some (.slice e),some xd =>
   match P.info? e with
   | none=>none
   | some i =>
    match (match xd with
     | .int _=>match x with
      | .int _ m=>if 0<=m/\m<9223372036854775808/\m*i.bytes<=281474976710656 then
        (if m.toNat*i.size=0 then some (m.toNat,[]) else (zeroA P e).map fun (z:Value)=>(m.toNat,zerosA z.cells (m.toNat*z.cells.size))) else none
      | _=>none
     | _=>sourceG st g i.size x) with
    | none=>none
    | some (n,news) =>
     if news.length≠n*i.size\/news.all Value.oneCell'=false then none
     else if sCap<unk then
      if sLen+n<=sCap then
       match base with
       | none=>some (.slice none 0 0,.keep)
       | some a=>if news.isEmpty then some (.slice (some a) (sLen+n) sCap,.keep) else (storeG g (addA a (sLen*i.size)) news).map fun ed=>(.slice (some a) (sLen+n) sCap,ed)
      else (growG st g n0 i base sLen (sLen+n) news).map fun r=>(r.1,.push r.2)
     else if n=0 then some (.slice base sLen sCap,.keep)
     else if sCap≠unk+i.size then none
     else match base with
      | none=>none
      | some a=>match a.spot,g a.block with
       | none,some (.cells _)=>if news.isEmpty then none else (growG st g n0 i base sLen (sLen+n) news).map fun r=>(r.1,.grow a.block r.2)
       | _,_=>none
  | _,_=>none
 | _,_,_,_=>none
def copyG (P:Program) (st:AE.Stat) (g:HF) (argTypes:Array TypeId) (args:Array Value):RG :=
 match argTypes[0]?,args[0]?,args[1]? with
 | some dT,some (Value.slice base dLen _),some src =>
  match P.underlying dT with
  | some (.slice e) =>
   match sizeA P e with
   | none=>none
   | some size =>
    match (match src with
     | .slice none 0 0=>some (0,[])
     | .slice (some a) n _=>if Nat.min n dLen*size=0 then some (Nat.min n dLen,[]) else (loadG st g a (Nat.min n dLen*size)).map fun l=>(Nat.min n dLen,l)
     | .string s=>some (Nat.min s.size dLen,((s.extract 0 (Nat.min s.size dLen)).data.map fun (b:UInt8)=>Value.int .u8 b.toNat).toList)
     | _=>none) with
    | none=>none
    | some (n,cells) =>
     match base with
     | none=>some (goInt n,.keep)
     | some a=>if cells.isEmpty then some (goInt n,.keep) else (storeG g a cells).map fun ed=>(goInt n,ed)
  | _=>none
 | _,_,_=>none
def mapG (P:Program) (g:HF) (t:TypeId) (m:Value):Option (TypeDesc×TypeId×List (Value×Value)) :=
 match P.underlying t with
 | some (.map kt et)=>match P.underlying kt with
  | some d=>if plainKey d then (match m with
   | .map none=>some (d,et,[])
   | .map (some r)=>match g r with
    | some (.map es)=>some (d,et,es)
    | _=>none
   | _=>none) else none
  | none=>none
 | _=>none
def pmapG (P:Program) (g:HF) (t:TypeId) (m k:Value):Option Value :=
 match m with
 | .map (some r)=>pmapB P t k (g r)
 | _=>none
def lookupG (P:Program) (g:HF) (t:TypeId) (m k:Value) (ok:Bool):Option Value :=
 match pmapG P g t m k with
 | some v=>some (if ok then .tuple #[v,.bool true] else v)
 | none=>match mapG P g t m with
  | some (d,et,es)=>if flat k=false then none else match findA d k es 0 with
   | some (some (_,v))=>some (if ok then .tuple #[v,.bool true] else v)
   | some none=>(zeroA P et).map fun z=>if ok then .tuple #[z,.bool false] else z
   | none=>none
  | none=>none
def mapPutG (P:Program) (g:HF) (t:TypeId) (m k v:Value):Option Ed :=
 match mapG P g t m,m with
 | some (d,_,es),.map (some r)=>if flat k then (match findA d k es 0 with
  | some (some (i,_))=>some (.set r (.map (es.set i (k,v))))
  | some none=>some (.set r (.map (es++[(k,v)])))
  | none=>none) else none
 | _,_=>none
def convG (P:Program) (st:AE.Stat) (g:HF) (n0:Nat) (src dst:TypeId) (x:Value):RG :=
 match P.underlying src,P.underlying dst,x with
 | some .string,some (.slice e),.string s =>
  match P.underlying e with
  | some (.int .u8)=>if s.size<=140737488355328 then some (.slice (some ⟨n0,0,none⟩) s.size (unk+1),.push (.cells (bytesA s))) else none
  | some (.int .i32) =>
   let l:=(Conv.runesFrom s s.size 0 #[]).toList
   if l.length<=140737488355328 then some (.slice (some ⟨n0,0,none⟩) l.length (unk+1),.push (.cells l)) else none
  | _=>none
 | some (.slice e),some .string,.slice (some a) n _ =>
  match P.underlying e with
  | some (.int .u8)=>match (if n=0 then some [] else loadG st g a n) with
   | some l=>(intsA .u8 l).map fun ns=>(.string (ns.foldl (fun r n=>r.push (UInt8.ofNat n.toNat)) ByteArray.empty),.keep)
   | none=>none
  | some (.int .i32)=>match (if n=0 then some [] else loadG st g a n) with
   | some l=>(intsA .i32 l).map fun ns=>(.string (ns.foldl (fun r n=>r++Utf8.encode n) ByteArray.empty),.keep)
   | none=>none
  | _=>none
 | _,_,_=>none
def rangeG (P:Program) (n:Nat) (t:TypeId) (x:Value):RG :=
 match P.underlying t,x with
 | some .string,.string s=>some (.pointer (some ⟨n,0,none⟩),.push (.iter s 0))
 | _,_=>none
def nextG (g:HF) (it:Value) (isString:Bool):RG :=
 match it,isString with
 | .pointer (some ⟨r,0,none⟩),true=>match g r with
  | some (.iter s pos) =>
   if pos<s.size then
    some (.tuple #[.bool true,goInt pos,.int .i32 (Utf8.decode s pos).1],.set r (.iter s (pos+(Utf8.decode s pos).2)))
   else some (.tuple #[.bool false],.keep)
  | _=>none
 | _,_=>none
def builtG (P:Program) (st:AE.Stat) (ev:Operand->Value) (c:Call) (g:HF) (n:Nat):RG :=
 match c.callee with
 | .builtin .len=>match c.argTypes[0]?,(c.args.map ev)[0]? with
  | some t,some (Value.slice _ n _)=>match P.underlying t with
   | some (.slice _)=>some (goInt n,.keep)
   | _=>none
  | _,_=>none
 | .builtin .cap=>match c.argTypes[0]?,(c.args.map ev)[0]? with
  | some t,some (Value.slice _ _ n)=>match P.underlying t with
   | some (.slice _)=>if n<unk then some (goInt n,.keep) else none
   | _=>none
  | _,_=>none
 | .builtin .append=>appendG P st g n c.argTypes (c.args.map ev)
 | .builtin .copy=>copyG P st g c.argTypes (c.args.map ev)
 | _=>none
def specG (P:Program) (st:AE.Stat) (ev:Operand->Value) (op:Op) (g:HF) (n:Nat):RG :=
 match op with
 | .move x=>some (ev x,.keep)
 | .assign x=>some (ev x,.keep)
 | .pick c a b=>match ev c with
  | .bool t=>some (if t then ev a else ev b,.keep)
  | _=>none
 | .alloc e=>(zeroA P e).map fun z=>(.pointer (some ⟨n,0,none⟩),.push (.cells z.cells.toList))
 | .box _ x=>some (.pointer (some ⟨n,0,none⟩),.push (.cells (ev x).cells.toList))
 | .build t parts=>(buildA P t (parts.map fun p=>(p.1,ev p.2)).toList).map (·,.keep)
 | .buildSlice t len parts=>buildSliceG P n t len (parts.map fun p=>(p.1,ev p.2)).toList
 | .load t a=>match ev a with
  | .pointer (some a)=>(loadVG P st g t a).map (·,.keep)
  | _=>none
 | .store t a x=>match ev a with
  | .pointer (some a)=>(storeVG P g t a (ev x)).map (undef,·)
  | _=>none
 | .nilCheck x=>match ev x with
  | .pointer (some a)=>some (.pointer (some a),.keep)
  | .func (.func f) fi ca=>some (.func (.func f) fi ca,.keep)
  | _=>none
 | .binOp op t x y _=>(binA P op t (ev x) (ev y)).map (·,.keep)
 | .makeFunc fn first captured=>some (.func fn (first.map ev) (captured.map ev),.keep)
 | .makeSlice t l c=>makeSliceG P n t (ev l) (ev c)
 | .slice t x lo hi mx=>(sliceA P t (ev x) (lo.map ev) (hi.map ev) (mx.map ev)).map (·,.keep)
 | .fieldAddr s x f=>(fieldAddrA P s (ev x) f).map (·,.keep)
 | .field t x f=>(fieldA P t (ev x) f).map (·,.keep)
 | .indexAddr t x ix=>(indexAddrA P t (ev x) (ev ix)).map (·,.keep)
 | .index t x ix=>(indexA P t (ev x) (ev ix)).map (·,.keep)
 | .extract x i=>match ev x with
  | .tuple vs=>(vs[i]?).map (·,.keep)
  | _=>none
 | .makeMap _ r=>match r with
  | none=>some (.map (some n),.push (.map []))
  | some _=>none
 | .lookup t m k ok=>(lookupG P g t (ev m) (ev k) ok).map (·,.keep)
 | .mapUpdate t m k x=>(mapPutG P g t (ev m) (ev k) (ev x)).map (undef,·)
 | .insert t m k x=>(mapPutG P g t (ev m) (ev k) (ev x)).map (undef,·)
 | .convert src dst x=>convG P st g n src dst (ev x)
 | .range t x=>rangeG P n t (ev x)
 | .next it isString=>nextG g (ev it) isString
 | .call c=>builtG P st ev c g n
 | _=>none
section
variable {P:Program}{st:AE.Stat}{σ:Heap}
theorem match_cells {β:Type}{i:Nat}(f:List Value->β) (d:β):(match hp σ i with | some (.cells l)=>f l | _=>d)=match σ[i]? with | some (some (.cells l))=>f l | _=>d:=by
 simp only [hp]
 cases σ[i]? with
 | none=>rfl
 | some o=>cases o with
  | none=>rfl
  | some b=>cases b<;>rfl
theorem loadG_eq {a:Addr}{n:Nat}:loadG st (hp σ) a n=loadN st σ a n:=by
 unfold loadG loadN
 cases a.spot with
 | some _=>rfl
 | none=>exact match_cells _ _
theorem loadVG_eq {t:TypeId}{a:Addr}:loadVG P st (hp σ) t a=loadV P st σ t a:=by
 unfold loadVG loadV;simp only [loadG_eq];rfl
theorem storeG_eq {a:Addr}{vs:List Value}:(storeG (hp σ) a vs).map (Ed.app σ)=storeN σ a vs:=by
 unfold storeG storeN
 cases a.spot with
 | some _=>rfl
 | none =>
  simp only [hp]
  cases σ[a.block]? with
  | none=>rfl
  | some o=>cases o with
   | none=>rfl
   | some b=>cases b with
    | cells l =>
     simp only [Option.join_some]
     split<;>rfl
    | map es=>rfl
    | pmap q es=>rfl
    | iter s p=>rfl
    | loop=>rfl
theorem storeVG_eq {t:TypeId}{a:Addr}{v:Value}:(storeVG P (hp σ) t a v).map (Ed.app σ)=storeV P σ t a v:=by
 unfold storeVG storeV
 cases sizeA P t with
 | none=>rfl
 | some n =>
  simp only;split
  ·exact storeG_eq
  ·rfl
theorem buildSliceG_eq {t:TypeId}{len:Nat}{ps:List (Nat×Value)}:RG.app σ (buildSliceG P σ.length t len ps)=buildSliceA P σ t len ps:=by
 unfold buildSliceG buildSliceA RG.app
 cases hd:P.underlying t with
 | none=>rfl
 | some d =>
  cases d
  case slice e =>
   simp only
   cases hs:sizeA P e with
   | none=>rfl
   | some size =>
    simp only
    by_cases hb:len*size > 2 ^ 24\/len >= unk
    ·simp only [if_pos hb]; rfl
    ·simp only [if_neg hb]
     cases hz:(if len*size=0 then some #[] else (zeroA P e).map (·.cells)) with
     | none=>rfl
     | some zero =>
      simp only
      cases hf:Instr.fill (fun i=>some (i*size,size)) (zerosA zero (len*size)).toArray ps with
      | none=>rfl
      | some cells=>rfl
  all_goals rfl
theorem makeSliceG_eq {t:TypeId}{l c:Value}:RG.app σ (makeSliceG P σ.length t l c)=makeSliceA P σ t l c:=by
 unfold makeSliceG makeSliceA RG.app
 cases hd:P.underlying t with
 | none=>rfl
 | some d =>
  cases d
  case slice e =>
   cases l
   case int ql l =>
    cases c
    case int qc c =>
     simp only
     cases hi:P.info? e with
     | none=>rfl
     | some i =>
      simp only
      by_cases hb:0<=l/\l<=c/\c<9223372036854775808/\(i.bytes:Int)*c<=281474976710656
      ·simp only [if_pos hb]
       cases hz:zeroA P e with
       | none=>rfl
       | some z=>rfl
      ·simp only [if_neg hb]; rfl
    all_goals rfl
   all_goals rfl
  all_goals rfl
theorem sourceG_eq {size:Nat}{x:Value}:sourceG st (hp σ) size x=sourceA st σ size x:=by
 unfold sourceG sourceA;simp only [loadG_eq];rfl
theorem growG_eq {i:TypeInfo}{base:Option Addr}{sLen need:Nat}{news:List Value} :
  (growG st (hp σ) σ.length i base sLen need news).map (fun r=>(r.1,σ++[some r.2]))=growA P st σ i base sLen need news:=by
 unfold growG growA
 by_cases hb:need*i.bytes<=140737488355328/\i.bytes≠0
 ·simp only [if_pos hb]
  cases hz:i.zero with
  | none=>rfl
  | some z =>
   simp only
   by_cases hs:z.cells.size≠i.size
   ·simp only [if_pos hs]; rfl
   ·simp only [if_neg hs,loadG_eq]
    cases base with
    | none=>rfl
    | some a =>
     simp only
     cases hl:(if sLen*i.size=0 then some [] else loadN st σ a (sLen*i.size)) with
     | none=>rfl
     | some old=>rfl
 ·simp only [if_neg hb]; rfl
theorem append_main {i:TypeInfo}{base:Option Addr}{sLen sCap:Nat}:∀ src:Option (Nat×List Value),RG.app σ (match src with
     | none=>none
     | some (n,news) =>
      if news.length≠n*i.size\/news.all Value.oneCell'=false then none
      else if sCap<unk then
       if sLen+n<=sCap then
        match base with
        | none=>some (.slice none 0 0,.keep)
        | some a=>if news.isEmpty then some (.slice (some a) (sLen+n) sCap,.keep) else (storeG (hp σ) (addA a (sLen*i.size)) news).map fun ed=>(.slice (some a) (sLen+n) sCap,ed)
       else (growG st (hp σ) σ.length i base sLen (sLen+n) news).map fun r=>(r.1,.push r.2)
      else if n=0 then some (.slice base sLen sCap,.keep)
      else if sCap≠unk+i.size then none
      else match base with
       | none=>none
       | some a=>match a.spot,hp σ a.block with
        | none,some (.cells _)=>if news.isEmpty then none else (growG st (hp σ) σ.length i base sLen (sLen+n) news).map fun r=>(r.1,.grow a.block r.2)
        | _,_=>none)=(match src with
     | none=>none
     | some (n,news) =>
      if news.length≠n*i.size\/news.all Value.oneCell'=false then none
      else if sCap<unk then
       if sLen+n<=sCap then
        match base with
        | none=>some (.slice none 0 0,σ)
        | some a=>if news.isEmpty then some (.slice (some a) (sLen+n) sCap,σ) else (storeN σ (addA a (sLen*i.size)) news).map fun σ'=>(.slice (some a) (sLen+n) sCap,σ')
       else growA P st σ i base sLen (sLen+n) news
      else if n=0 then some (.slice base sLen sCap,σ)
      else if sCap≠unk+i.size then none
      else match base with
       | none=>none
       | some a=>match a.spot,σ[a.block]? with
        | none,some (some (.cells _))=>if news.isEmpty then none else (growA P st σ i base sLen (sLen+n) news).map fun (r:Value×Heap)=>(r.1,r.2.set a.block none)
        | _,_=>none):=by
    intro src
    cases src with
    | none=>rfl
    | some x =>
    obtain ⟨n,news⟩:=x;simp only
    by_cases hb:news.length≠n*i.size\/news.all Value.oneCell'=false
    ·simp only [if_pos hb]; rfl
    simp only [if_neg hb]
    by_cases hc:sCap<unk
    ·simp only [if_pos hc]
     by_cases hle:sLen+n<=sCap
     ·simp only [if_pos hle]
      cases base with
      | none=>rfl
      | some a =>
       simp only
       by_cases he:news.isEmpty=true
       ·simp only [if_pos he]; rfl
       ·simp only [if_neg he,<- storeG_eq];unfold RG.app;rw [Option.map_map,Option.map_map];rfl
     ·simp only [if_neg hle,<- growG_eq];unfold RG.app;rw [Option.map_map];rfl
    ·simp only [if_neg hc]
     by_cases h0:n=0
     ·simp only [if_pos h0]; rfl
     ·simp only [if_neg h0]
      by_cases hs:sCap≠unk+i.size
      ·simp only [if_pos hs]; rfl
      ·simp only [if_neg hs]
       cases base with
       | none=>rfl
       | some a =>
        simp only
        cases a.spot with
        | some _=>rfl
        | none =>
         simp only [<- growG_eq,Option.map_map];simp only [hp]
         cases hb2:σ[a.block]? with
         | none=>rfl
         | some o=>cases o with
          | none=>rfl
          | some b=>cases b with
           | cells l =>
            simp only [Option.join_some]
            by_cases he:news.isEmpty=true
            ·simp only [if_pos he]; rfl
            ·simp only [if_neg he];unfold RG.app;rw [Option.map_map];rfl
           | map es=>rfl
           | pmap q es=>rfl
           | iter s p=>rfl
           | loop=>rfl
theorem appendG_eq {ats:Array TypeId}{args:Array Value}:RG.app σ (appendG P st (hp σ) σ.length ats args)=appendA P st σ ats args:=by
 unfold appendG appendA
 cases h0:ats[0]? with
 | none=>rfl
 | some sT =>
 cases h1:ats[1]? with
 | none=>rfl
 | some xT =>
 cases h2:args[0]? with
 | none=>rfl
 | some s =>
 cases s
 case slice base sLen sCap =>
  cases h3:args[1]? with
  | none=>rfl
  | some x =>
  simp only
  cases hd:P.underlying sT with
  | none=>rfl
  | some d =>
  cases d
  case slice e =>
   cases hx:P.underlying xT with
   | none=>rfl
   | some xd =>
   simp only
   cases hi:P.info? e with
   | none=>rfl
   | some i =>
   simp only [sourceG_eq];exact append_main _
  all_goals rfl
 all_goals rfl
theorem copy_main {base:Option Addr}:∀ src:Option (Nat×List Value),RG.app σ (match src with
    | none=>none
    | some (n,cells) =>
     match base with
     | none=>some (goInt n,.keep)
     | some a=>if cells.isEmpty then some (goInt n,.keep) else (storeG (hp σ) a cells).map fun ed=>(goInt n,ed))=(match src with
    | none=>none
    | some (n,cells) =>
     match base with
     | none=>some (goInt n,σ)
     | some a=>if cells.isEmpty then some (goInt n,σ) else (storeN σ a cells).map fun σ'=>(goInt n,σ')):=by
 intro src
 cases src with
 | none=>rfl
 | some x =>
  obtain ⟨n,cells⟩:=x
  cases base with
  | none=>rfl
  | some a =>
   simp only
   by_cases he:cells.isEmpty=true
   ·simp only [if_pos he]; rfl
   ·simp only [if_neg he,<- storeG_eq];unfold RG.app;rw [Option.map_map,Option.map_map];rfl
theorem copyG_eq {ats:Array TypeId}{args:Array Value}:RG.app σ (copyG P st (hp σ) ats args)=copyA P st σ ats args:=by
 unfold copyG copyA
 cases h0:ats[0]? with
 | none=>rfl
 | some dT =>
 cases h1:args[0]? with
 | none=>rfl
 | some s =>
 cases s
 case slice base dLen dCap =>
  cases h2:args[1]? with
  | none=>rfl
  | some src =>
  simp only
  cases hd:P.underlying dT with
  | none=>rfl
  | some d =>
  cases d
  case slice e =>
   simp only
   cases hs:sizeA P e with
   | none=>rfl
   | some size =>
    simp only [loadG_eq];exact copy_main _
  all_goals rfl
 all_goals rfl
theorem mapG_eq {t:TypeId}{m:Value}:mapG P (hp σ) t m=mapA P σ t m:=by
 unfold mapG mapA
 cases hd:P.underlying t with
 | none=>rfl
 | some d =>
 cases d
 case map kt et =>
  simp only
  cases hk:P.underlying kt with
  | none=>rfl
  | some d =>
   simp only
   by_cases hp':plainKey d=true
   ·simp only [if_pos hp'];cases m
    case map r =>
     cases r with
     | none=>rfl
     | some r =>
      simp only [hp]
      cases σ[r]? with
      | none=>rfl
      | some o=>cases o with
       | none=>rfl
       | some b=>cases b<;>rfl
    all_goals rfl
   ·simp only [if_neg hp']
 all_goals rfl
theorem lookupG_eq {t:TypeId}{m k:Value}{ok:Bool}:lookupG P (hp σ) t m k ok=lookupA P σ t m k ok:=by
 unfold lookupG lookupA;rw [mapG_eq]
 show (match pmapA P σ t m k with | some v=>_ | none=>_)=_
 rfl
theorem mapPutG_eq {t:TypeId}{m k v:Value}:(mapPutG P (hp σ) t m k v).map (Ed.app σ)=mapPutA P σ t m k v:=by
 unfold mapPutG mapPutA;rw [mapG_eq]
 cases hm:mapA P σ t m with
 | none=>rfl
 | some x =>
  obtain ⟨d,et,es⟩:=x;cases m
  case map r =>
   cases r with
   | none=>rfl
   | some r =>
    simp only
    by_cases hk:flat k=true
    ·simp only [if_pos hk]
     cases hf:findA d k es 0 with
     | none=>rfl
     | some o=>cases o with
      | none=>rfl
      | some y=>rfl
    ·simp only [if_neg hk]; rfl
  all_goals rfl
theorem conv_main {f:List Int->ByteArray}{q:IntKind}:∀ l:Option (List Value),RG.app σ (match l with
   | some l=>(intsA q l).map fun ns=>(.string (f ns),.keep)
   | none=>none)=(match l with
   | some l=>(intsA q l).map fun ns=>(.string (f ns),σ)
   | none=>none):=by
 intro l
 cases l with
 | none=>rfl
 | some l =>
  simp only;unfold RG.app;rw [Option.map_map];rfl
theorem convG_eq {src dst:TypeId}{x:Value}:RG.app σ (convG P st (hp σ) σ.length src dst x)=convA P st σ src dst x:=by
 unfold convG convA
 cases hs:P.underlying src with
 | none=>rfl
 | some ds =>
 cases hd:P.underlying dst with
 | none=>cases ds<;>rfl
 | some dd =>
 cases ds
 case string =>
  cases dd
  case slice e =>
   cases x
   case string s =>
    simp only
    cases he:P.underlying e with
    | none=>rfl
    | some de =>
     cases de
     case int q =>
      cases q
      case u8 =>
       simp only
       by_cases hb:s.size<=140737488355328
       ·simp only [if_pos hb]; rfl
       ·simp only [if_neg hb]; rfl
      case i32 =>
       simp only
       by_cases hb:(Conv.runesFrom s s.size 0 #[]).toList.length<=140737488355328
       ·simp only [if_pos hb]; rfl
       ·simp only [if_neg hb]; rfl
      all_goals rfl
     all_goals rfl
   all_goals rfl
  all_goals rfl
 case slice e =>
  cases dd
  case string =>
   cases x
   case slice a n c =>
    cases a with
    | none=>rfl
    | some a =>
     simp only [loadG_eq]
     cases he:P.underlying e with
     | none=>rfl
     | some de =>
      cases de
      case int q =>
       cases q
       case u8=>exact conv_main _
       case i32=>exact conv_main _
       all_goals rfl
      all_goals rfl
   all_goals rfl
  all_goals rfl
 all_goals cases dd<;>rfl
theorem rangeG_eq {t:TypeId}{x:Value}:RG.app σ (rangeG P σ.length t x)=rangeA P σ t x:=by
 unfold rangeG rangeA
 cases hd:P.underlying t with
 | none=>rfl
 | some d=>cases d<;>cases x<;>rfl
theorem nextG_eq {it:Value}{b:Bool}:RG.app σ (nextG (hp σ) it b)=nextA σ it b:=by
 unfold nextG nextA;cases it
 case pointer a =>
  cases a with
  | none=>rfl
  | some a =>
   obtain ⟨r,o,s⟩:=a
   cases o with
   | succ o=>rfl
   | zero =>
    cases s with
    | some s=>rfl
    | none =>
     cases b with
     | false=>rfl
     | true =>
      simp only [hp]
      cases hr:σ[r]? with
      | none=>rfl
      | some o=>cases o with
       | none=>rfl
       | some b=>cases b with
        | cells l=>rfl
        | map es=>rfl
        | pmap q es=>rfl
        | loop=>rfl
        | iter s pos =>
         simp only [Option.join_some]
         by_cases hlt:pos<s.size
         ·simp only [if_pos hlt]; rfl
         ·simp only [if_neg hlt]; rfl
 all_goals rfl
theorem keep_map {s:Option Value}:RG.app σ (s.map (·,.keep))=s.map (·,σ):=by cases s<;>rfl
theorem undef_map {s:Option Ed}:RG.app σ (s.map (undef,·))=(s.map (Ed.app σ)).map (undef,·):=by cases s<;>rfl
def isFnCall:Op->Bool
 | .call c=>match c.callee with
  | .builtin _=>false
  | _=>true
 | _=>false
theorem builtG_eq {call:CallA}{ev:Operand->Value}{c:Call}(h:isFnCall (.call c)=false):RG.app σ (builtG P st ev c (hp σ) σ.length)=callA P st call ev c σ:=by
 unfold builtG callA
 cases hc:c.callee with
 | value f=>simp [isFnCall,hc] at h
 | invoke r m=>simp [isFnCall,hc] at h
 | builtin b =>
  cases b
  case append=>exact appendG_eq
  case copy=>exact copyG_eq
  case len =>
   simp only
   cases h0:c.argTypes[0]? with
   | none=>rfl
   | some t =>
    cases h1:(c.args.map ev)[0]? with
    | none=>rfl
    | some x =>
     cases x
     case slice a n cp =>
      simp only
      cases hd:P.underlying t with
      | none=>rfl
      | some d=>cases d<;>rfl
     all_goals rfl
  case cap =>
   simp only
   cases h0:c.argTypes[0]? with
   | none=>rfl
   | some t =>
    cases h1:(c.args.map ev)[0]? with
    | none=>rfl
    | some x =>
     cases x
     case slice a n cp =>
      simp only
      cases hd:P.underlying t with
      | none=>rfl
      | some d =>
       cases d
       case slice e =>
        simp only
        by_cases hb:cp<unk
        ·simp only [if_pos hb]; rfl
        ·simp only [if_neg hb]; rfl
       all_goals rfl
     all_goals rfl
  all_goals rfl
theorem specG_eq {call:CallA}{ev:Operand->Value}{op:Op}(h:isFnCall op=false):RG.app σ (specG P st ev op (hp σ) σ.length)=specA P st call ev op σ:=by
 cases op<;>simp only [specG,specA]
 case move=>rfl
 case assign=>rfl
 case pick c a b=>cases ev c<;>rfl
 case alloc e=>cases zeroA P e<;>rfl
 case box=>rfl
 case build=>exact keep_map
 case buildSlice=>exact buildSliceG_eq
 case load t a =>
  cases ev a
  case pointer a =>
   cases a with
   | none=>rfl
   | some a=>simp only [loadVG_eq]; exact keep_map
  all_goals rfl
 case store t a x =>
  cases ev a
  case pointer a =>
   cases a with
   | none=>rfl
   | some a=>simp only [undef_map,storeVG_eq]
  all_goals rfl
 case nilCheck x =>
  cases ev x
  case pointer a=>cases a<;>rfl
  case func f a b=>cases f<;>rfl
  all_goals rfl
 case binOp=>exact keep_map
 case makeFunc=>rfl
 case makeSlice=>exact makeSliceG_eq
 case slice=>exact keep_map
 case fieldAddr=>exact keep_map
 case field=>exact keep_map
 case indexAddr=>exact keep_map
 case index=>exact keep_map
 case extract x i =>
  cases ev x
  case tuple vs=>exact keep_map
  all_goals rfl
 case makeMap t r=>cases r<;>rfl
 case lookup=>simp only [lookupG_eq]; exact keep_map
 case mapUpdate=>simp only [undef_map,mapPutG_eq]
 case insert=>simp only [undef_map,mapPutG_eq]
 case convert=>exact convG_eq
 case range=>exact rangeG_eq
 case next=>exact nextG_eq
 case call c=>exact builtG_eq h
 all_goals rfl
end
end Go.AE
namespace Go.AE
open Go Go.RowKit
abbrev TE:=Tr Value
abbrev TH:=Tr Blk
noncomputable def getT (m:Nat) (t:TE) (d:Nat):Option Value:=bif Nat.blt d m then some ((t.get d).getD undef) else none
noncomputable def evF (m:Nat) (t:TE):Operand->Value
 | .tmp d=>(getT m t d).getD undef
 | .const v=>v
 | .global g=>.pointer (some ⟨g,0,some 0⟩)
 | .func f=>.func (.func f) #[] #[]
def ERel (m:Nat) (t:TE) (τ:Array Value):Prop:=τ.size=m/\∀ d,d<m->(t.get d).getD undef=τ.getD d undef
def HRel (h:TH) (n:Nat) (σ:Heap):Prop:=σ.length=n/\∀ i,h.get i=hp σ i
section
variable {P:Program}{st:AE.Stat}{α:Type}{r:α}{m:Nat}{t:TE}{τ:Array Value}{h:TH}{n:Nat}{σ:Heap}
theorem blt_iff {a b:Nat}:Nat.blt a b=true ↔ a<b:=by
 unfold Nat.blt;rw [Nat.ble_eq];exact Iff.rfl
theorem getT_eq (hE:ERel m t τ) (d:Nat):getT m t d=τ[d]?:=by
 unfold getT
 cases hb:Nat.blt d m with
 | true =>
  have hlt:=blt_iff.1 hb;have:=hE.2 d hlt;have hs:=hE.1
  rw [Array.getElem?_eq_getElem (by omega)]
  rw [Array.getD_eq_getD_getElem?,Array.getElem?_eq_getElem (by omega)] at this
  exact congrArg some this
 | false =>
  have hge:¬ d<m:=fun x=>by rw [blt_iff.2 x] at hb; cases hb
  rw [Array.getElem?_eq_none (by have:=hE.1; omega)]
  rfl
theorem evF_eq (hE:ERel m t τ):evF m t=evalT τ:=by
 funext x
 cases x with
 | tmp d=>simp only [evF,evalT,getT_eq hE,Array.getD_eq_getD_getElem?]
 | const v=>rfl
 | global g=>rfl
 | func f=>rfl
noncomputable def putF (m:Nat) (t:TE) (dst:Option Tmp) (v:Value) (k:TE->Option α):Option α :=
 match dst with
 | none=>k t
 | some d=>bif Nat.blt d m then t.put (some v) d k else k t
theorem putF_some {dst:Option Tmp}{v:Value}{k:TE->Option α}(hE:ERel m t τ) (hx:putF m t dst v k=some r):∃ t',k t'=some r/\ERel m t' (putT τ dst v):=by
 unfold putF at hx;unfold putT
 cases dst with
 | none=>exact ⟨t,hx,hE⟩
 | some d =>
  simp only at hx ⊢
  cases hb:Nat.blt d m with
  | false =>
   rw [hb] at hx
   have hge:¬ d<m:=fun x=>by rw [blt_iff.2 x] at hb; cases hb
   refine ⟨t,hx,by simpa using hE.1,fun j hj=>?_⟩
   rw [Array.getD_eq_getD_getElem?,Array.getElem?_setIfInBounds,if_neg (fun e:d=j=>hge (e ▸ hj)),<- Array.getD_eq_getD_getElem?]
   exact hE.2 j hj
  | true =>
   rw [hb] at hx;have hlt:=blt_iff.1 hb;have hs:=hE.1;obtain ⟨t',h1,h2⟩:=Tr.put_some hx
   refine ⟨t',h1,by simpa using hE.1,fun j hj=>?_⟩
   rw [h2,Array.getD_eq_getD_getElem?,Array.getElem?_setIfInBounds]
   by_cases e:j=d
   ·subst e
    rw [if_pos rfl,if_pos rfl,if_pos (by omega)]
   ·rw [if_neg e,if_neg (Ne.symm e),<- Array.getD_eq_getD_getElem?];exact hE.2 j hj
noncomputable def edF (ed:Ed) (h:TH) (n:Nat) (k:TH->Nat->Option α):Option α :=
 match ed with
 | .keep=>k h n
 | .push b=>fNew b fun b=>h.put (some b) n fun h=>k h (Nat.succ n)
 | .set i b=>bif Nat.blt i n then fBlk b fun b=>fN i fun i=>h.put (some b) i fun h=>k h n else none
 | .grow i b=>fNew b fun b=>fN i fun i=>h.put (some b) n fun h=>h.put none i fun h=>k h (Nat.succ n)
theorem hp_push (σ:Heap) (b:Blk) (i:Nat):hp (σ++[some b]) i=if i=σ.length then some b else hp σ i:=by
 by_cases e:i=σ.length
 ·subst e; rw [if_pos rfl]; exact hp_new σ _
 ·rw [if_neg e]; exact hp_old σ _ e
theorem edF_some {ed:Ed}{k:TH->Nat->Option α}(hH:HRel h n σ) (hx:edF ed h n k=some r):∃ h' n',k h' n'=some r/\HRel h' n' (ed.app σ):=by
 unfold edF at hx
 cases ed with
 | keep=>exact ⟨h,n,hx,hH⟩
 | push b =>
  simp only [fNew_eq] at hx;obtain ⟨h',h1,h2⟩:=Tr.put_some hx
  refine ⟨h',_,h1,by simp [Ed.app,hH.1],fun i=>?_⟩
  rw [h2,show Ed.app σ (.push b)=σ++[some b] from rfl,hp_push,hH.1,hH.2]
 | set i b =>
  simp only at hx
  cases hb:Nat.blt i n with
  | false=>rw [hb] at hx; cases hx
  | true =>
   rw [hb] at hx;simp only [fBlk_eq,fN_eq,cond_true] at hx;have hlt:=blt_iff.1 hb;obtain ⟨h',h1,h2⟩:=Tr.put_some hx
   refine ⟨h',_,h1,by simp [Ed.app,hH.1],fun j=>?_⟩
   rw [h2,show Ed.app σ (.set i b)=σ.set i (some b) from rfl,hH.2];have:=hH.1
   by_cases e:j=i
   ·subst e;rw [if_pos rfl]
    simp [hp,List.getElem?_set_self (show j<σ.length by omega)]
   ·rw [if_neg e];simp [hp,List.getElem?_set_ne (Ne.symm e)]
 | grow i b =>
  simp only [fNew_eq,fN_eq] at hx;obtain ⟨h',h1,h2⟩:=Tr.put_some hx;obtain ⟨h3,h4,h5⟩:=Tr.put_some h1
  refine ⟨h3,_,h4,by simp [Ed.app,hH.1],fun j=>?_⟩
  rw [h5,h2,show Ed.app σ (.grow i b)=(σ++[some b]).set i none from rfl,hp_set_none,hp_push,hH.1,hH.2]
abbrev CallF' (α:Type):=FuncId->List Value->TH->Nat->(Value->TH->Nat->Option α)->Option α
def CallR (call:CallA) (cf:CallF' α):Prop :=
 ∀ f args h n σ k r,HRel h n σ->cf f args h n k=some r->∃ v σ' h' n',call f args σ=some (v,σ')/\HRel h' n' σ'/\k v h' n'=some r
noncomputable def enterF (P:Program) (cf:CallF' α) (g:FuncId) (args:List Value) (h:TH) (n:Nat) (k:Value->TH->Nat->Option α):Option α :=
 match P.funcs[g]? with
 | none=>none
 | some fn =>
  bif fn.name== "runtime.NumGoroutine" then none
  else bif fn.body.isNone then
   bif args.all flat then
    match peek P (callFunc g args.toArray) with
    | some (.value v)=>fV v fun v=>bif flat v then k v h n else none
    | _=>none
   else none
  else cf g args h n k
theorem enterF_some {call:CallA}{cf:CallF' α}{g:FuncId}{args:List Value}{k:Value->TH->Nat->Option α}(hc:CallR call cf) (hH:HRel h n σ) (hx:enterF P cf g args h n k=some r) :
  ∃ v σ' h' n',enterA P call g args σ=some (v,σ')/\HRel h' n' σ'/\k v h' n'=some r:=by
 unfold enterF at hx;unfold enterA
 cases hf:P.funcs[g]? with
 | none=>rw [hf] at hx; cases hx
 | some fn =>
  rw [hf] at hx;simp only at hx ⊢
  cases hn:fn.name== "runtime.NumGoroutine" with
  | true=>rw [hn] at hx; cases hx
  | false =>
   rw [hn] at hx;simp only [cond_false] at hx
   cases hb:fn.body.isNone with
   | false =>
    rw [hb] at hx;exact hc g args h n σ k r hH hx
   | true =>
    rw [hb] at hx;simp only [cond_true] at hx
    cases hfl:args.all flat with
    | false=>rw [hfl] at hx; cases hx
    | true =>
     rw [hfl] at hx;simp only [cond_true] at hx;split at hx
     ·rename_i v hv;simp only [fV_eq] at hx
      cases hfv:flat v with
      | false=>rw [hfv] at hx; cases hx
      | true =>
       rw [hfv] at hx
       exact ⟨v,σ,h,n,by simp [hv,hfv],hH,hx⟩
     ·cases hx
noncomputable def opF (P:Program) (st:AE.Stat) (cf:CallF' α) (ev:Operand->Value) (o:Oper) (h:TH) (n:Nat) (k:Value->TH->Nat->Option α):Option α :=
 bif constsOk o.op then
  match peekA P ev o with
  | some v=>fV v fun v=>k v h n
  | none=>match isFnCall o.op with
   | true=>match o.op with
    | .call c=>match c.callee with
     | .value f=>match ev f with
      | .func (.func g) first captured=>fL fV ((first++c.args.map ev)++captured).toList fun args=>enterF P cf g args h n k
      | .chan (some l)=>fL fV (c.args.map ev).toList fun args=>cf (P.funcs.size+l) args h n k
      | _=>none
     | _=>none
    | _=>none
   | false=>match specG P st ev o.op h.get n with
    | some (v,ed)=>fV v fun v=>edF ed h n fun h n=>k v h n
    | none=>none
 else none
theorem opF_some {call:CallA}{cf:CallF' α}{ev:Operand->Value}{o:Oper}{k:Value->TH->Nat->Option α}(hc:CallR call cf) (hH:HRel h n σ) (hx:opF P st cf ev o h n k=some r) :
  ∃ v σ' h' n',opA P st call ev o σ=some (v,σ')/\HRel h' n' σ'/\k v h' n'=some r:=by
 unfold opF at hx;unfold opA
 cases hk:constsOk o.op with
 | false=>rw [hk] at hx; cases hx
 | true =>
  rw [hk] at hx;simp only [cond_true,if_true] at hx ⊢
  cases hp:peekA P ev o with
  | some v =>
   rw [hp] at hx;simp only [fV_eq] at hx;exact ⟨v,σ,h,n,rfl,hH,hx⟩
  | none =>
   rw [hp] at hx;simp only at hx ⊢
   cases hf:isFnCall o.op with
   | true =>
    rw [hf] at hx;simp only at hx
    split at hx<;>first | (cases hx; done) | skip
    rename_i c hop
    split at hx<;>first | (cases hx; done) | skip
    rename_i f hcal
    split at hx<;>first | (cases hx; done) | skip
    ·rename_i g first captured hev;rw [fL_eq fV_eq] at hx;obtain ⟨v,σ',h',n',h1,h2,h3⟩:=enterF_some hc hH hx
     exact ⟨v,σ',h',n',by simp only [hop,specA,callA,hcal,hev]; exact h1,h2,h3⟩
    ·rename_i l hev;rw [fL_eq fV_eq] at hx;obtain ⟨v,σ',h',n',h1,h2,h3⟩:=hc _ _ h n σ k r hH hx
     exact ⟨v,σ',h',n',by simp only [hop,specA,callA,hcal,hev]; exact h1,h2,h3⟩
   | false =>
    rw [hf] at hx;simp only at hx;rw [show h.get=AE.hp σ from funext hH.2] at hx
    split at hx<;>first | (cases hx; done) | skip
    rename_i v ed hs;simp only [fV_eq] at hx;obtain ⟨h',n',h1,h2⟩:=edF_some hH hx;refine ⟨v,ed.app σ,h',n',?_,h2,h1⟩;have e:=hH.1;subst e;rw [<- specG_eq hf,hs];rfl
noncomputable def guardF (ops:Array Oper) (o:Oper) (m:Nat) (t:TE) (run skip:Option α):Option α :=
 match o.guard with
 | none=>run
 | some (j,want)=>match (ops[j]?).bind (·.dst) with
  | none=>skip
  | some d=>match getT m t d with
   | some (.bool b)=>bif b==want then run else skip
   | some (.chan _)=>none
   | _=>skip
theorem guardF_eq (hE:ERel m t τ) (ops:Array Oper) (o:Oper) (run skip:Option α):guardF ops o m t run skip=if guardOk ops o τ then (if Region.wanted o (yielded ops τ) then run else skip) else none:=by
 unfold guardF guardOk Region.wanted yielded
 cases o.guard with
 | none=>rfl
 | some p =>
  obtain ⟨j,want⟩:=p
  cases hd:(ops[j]?).bind (·.dst) with
  | none=>simp [hd]
  | some d =>
   simp only [hd,getT_eq hE,Option.bind_some]
   cases τ[d]? with
   | none=>rfl
   | some v =>
    cases v
    case bool b=>cases b<;>cases want<;>rfl
    all_goals rfl
noncomputable def stepF (P:Program) (st:AE.Stat) (cf:CallF' α) (ops:Array Oper) (o:Oper) (m:Nat) (t:TE) (h:TH) (n:Nat) (k:TE->TH->Nat->Option α):Option α :=
 guardF ops o m t (opF P st cf (evF m t) o h n fun v h n=>putF m t o.dst v fun t=>k t h n) (putF m t o.dst undef fun t=>k t h n)
theorem stepF_some {call:CallA}{cf:CallF' α}{ops:Array Oper}{o:Oper}{k:TE->TH->Nat->Option α}(hc:CallR call cf) (hE:ERel m t τ) (hH:HRel h n σ) (hx:stepF P st cf ops o m t h n k=some r) :
  ∃ τ' σ' t' h' n',stepA P st call ops o τ σ=some (τ',σ')/\ERel m t' τ'/\HRel h' n' σ'/\k t' h' n'=some r:=by
 unfold stepF at hx;rw [guardF_eq hE] at hx;unfold stepA;split at hx
 ·rename_i hg;rw [if_pos hg];split at hx
  ·rename_i hw;rw [if_pos hw];rw [evF_eq hE] at hx;obtain ⟨v,σ',h',n',h1,h2,hx⟩:=opF_some hc hH hx;obtain ⟨t',hx,h3⟩:=putF_some hE hx
   exact ⟨_,σ',t',h',n',by rw [h1],h3,h2,hx⟩
  ·rename_i hw;rw [if_neg hw];obtain ⟨t',hx,h3⟩:=putF_some hE hx;exact ⟨_,σ,t',h,n,rfl,h3,hH,hx⟩
 ·cases hx
noncomputable def runLF (P:Program) (st:AE.Stat) (cf:CallF' α) (ops:Array Oper) (m:Nat) (l:List Oper):TE->TH->Nat->(TE->TH->Nat->Option α)->Option α :=
 List.rec (fun t h n k=>k t h n) (fun o _ ih t h n k=>stepF P st cf ops o m t h n fun t h n=>ih t h n k) l
theorem runLF_some {call:CallA}{cf:CallF' α}{ops:Array Oper}(hc:CallR call cf):∀ {l:List Oper}{t:TE}{τ:Array Value}{h:TH}{n:Nat}{σ:Heap}{k:TE->TH->Nat->Option α},ERel m t τ->HRel h n σ->runLF P st cf ops m l t h n k=some r ->
  ∃ τ' σ' t' h' n',runA P st call ops l τ σ=some (τ',σ')/\ERel m t' τ'/\HRel h' n' σ'/\k t' h' n'=some r
 | [],t,τ,h,n,σ,k,hE,hH,hx=>⟨τ,σ,t,h,n,rfl,hE,hH,hx⟩
 | o :: l,t,τ,h,n,σ,k,hE,hH,hx=>by
  obtain ⟨τ1,σ1,t1,h1,n1,q1,q2,q3,hx⟩:=stepF_some (k:=fun t h n=>runLF P st cf ops m l t h n k) hc hE hH hx
  obtain ⟨τ2,σ2,t2,h2,n2,p1,p2,p3,hx⟩:=runLF_some hc q2 q3 hx
  exact ⟨τ2,σ2,t2,h2,n2,by simp only [runA,q1]; exact p1,p2,p3,hx⟩
end
end Go.AE
