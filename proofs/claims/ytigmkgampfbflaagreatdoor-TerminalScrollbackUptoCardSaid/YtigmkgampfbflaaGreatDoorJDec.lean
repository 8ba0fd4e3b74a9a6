/-
 The contracts of the reference's UTF-8 decoder: limits,value,Decode.
 Conditions: none beyond those of the contracts.
-/
import Derived.Test.YtigmkgampfbflaaGreatDoorDeLst
import Derived.Test.YtigmkgampfbflaaGreatDoorProg
import Derived.KernelRfl
import Derived.Lib.IndexMore
namespace Go.Proofs.YtigmkgampfbflaaGreatDoor
abbrev tN (i:Nat):Nat:=Int.toNat (↑i:Int)+0
open Go Go.AE Go.DE Go.RowKit
def exA (f:FuncId):Bool:=f==13||f==24||f==25||f==70||f==157
abbrev Hx (st:AE.Stat):Prop:=∀ f,exA f=false->∀ a σ,st.ext f a σ=none
def gl0:Gl:=fun _=>.any
theorem glOk (st:AE.Stat):GlOk st gl0:=⟨fun _=>.any,fun _ _ _ _ _ _=>.any _⟩
noncomputable def env (l:List (FuncId×ConF)) (lp:Nat->Option (LoopD Unit)) (n:Nat) (mg:List (Nat×List (Nat×List Nat)):=[]):Env Unit:=⟨tblD l,fun _=>true,gl0,lp,n,joins Tryz.prog gl0 mg,false⟩
noncomputable def envZ (l:List (FuncId×ConF)) (lp:Nat->Option (LoopD Unit)) (n:Nat) (mg:List (Nat×List (Nat×List Nat)):=[]):Env Unit:=⟨tblD l,fun _=>true,gl0,lp,n,joins Tryz.prog gl0 mg,true⟩
def szF (p:Int):Int :=
 bif decide (p >= 194) then (bif decide (p<=223) then 2 else bif decide (p >= 224) then (bif decide (p<=239) then 3 else bif decide (p >= 240) then (bif decide (p<=244) then 4 else 0) else 0) else bif decide (p >= 240) then (bif decide (p<=244) then 4 else 0) else 0)
 else bif decide (p >= 224) then (bif decide (p<=239) then 3 else bif decide (p >= 240) then (bif decide (p<=244) then 4 else 0) else 0) else bif decide (p >= 240) then (bif decide (p<=244) then 4 else 0) else 0
def loF (p:Int) (n:Nat):Int:=bif (n:Int)==1 then (bif p==224 then 160 else bif p==237 then 128 else bif p==240 then 144 else 128) else 128
def hiF (p:Int) (n:Nat):Int:=bif (n:Int)==1 then (bif p==224 then 191 else bif p==237 then 159 else bif p==240 then 191 else bif p==244 then 143 else 191) else 191
theorem tup_clo {l:List DV}(h:l.all isV=true):Clo (.tup l)/\Low (.tup l):=flR_clo (d:=.tup l) (List.all_eq_true.2 fun d hd=>by
 have:=List.all_eq_true.1 h d hd
 cases d<;>first | rfl | cases this)
end Go.Proofs.YtigmkgampfbflaaGreatDoor
namespace Go.Proofs.YtigmkgampfbflaaGreatDoor
open Go Go.AE Go.DE Go.RowKit
theorem W_in {x:Int}(h1:-9223372036854775808<=x) (h2:x<=9223372036854775807):IntKind.i64.wrap x=x:=by
 rw [IntKind.wrap_i64];omega
def stepV (a b:Int):Int:=IntKind.i32.wrap (IntKind.i32.wrap (IntKind.i32.wrap (a*64)+IntKind.i32.wrap b)-128)
def valR (z:Nat->Int):Nat->Nat->Int->Int
 | 0,_,a=>a
 | m+1,i,a=>valR z m (i+1) (stepV a (z i))
structure VX where
 t:Bool
 z:Nat->Int
 n:Nat
 i:Nat
 a:Int
def VX.r (x:VX):Int:=valR x.z (x.n-x.i) x.i x.a
theorem wk0 {ids:List Nat}{ds ds2:List DV}(tm:SubL (ren 0 ids) ds2 ds) (h:ids=[]):WkP 0 ids ds [] ds2 []:=by
 subst h
 exact .of (im:=[]) tm rfl trivial rfl (by decide)
def valA (z:Nat->Int) (n:Nat):Int :=
 bif (n:Int)==2 then IntKind.i32.wrap (IntKind.i32.wrap (z 0)-192) else bif (n:Int)==3 then IntKind.i32.wrap (IntKind.i32.wrap (z 0)-224) else bif (n:Int)==4 then IntKind.i32.wrap (IntKind.i32.wrap (z 0)-240) else 0
def valF (z:Nat->Int) (n:Nat):Int:=valR z (n-1) 1 (valA z n)
theorem v_clo (x:Value):Clo (.v x)/\Low (.v x):=⟨.v _,.v _⟩
end Go.Proofs.YtigmkgampfbflaaGreatDoor
namespace Go.Proofs.YtigmkgampfbflaaGreatDoor
open Go Go.AE Go.DE Go.RowKit
def dstep (s:ByteArray) (i:Nat) (o k:List Int):Nat×List Int×List Int :=
 if k=[] then (if byteAt s i<128 then (i+1,o++[IntKind.i32.wrap (byteAt s i)],[]) else if szF (byteAt s i) > 0 then (i+1,o,[byteAt s i]) else (i+1,o++[65533],[]))
 else if byteAt s i<loF (lw k 0) k.length then (i,o++[65533],[])
 else if byteAt s i > hiF (lw k 0) k.length then (i,o++[65533],[])
 else if ((k.length+1:Nat):Int)=szF (lw k 0) then (i+1,o++[valF (lw (k++[byteAt s i])) (k.length+1)],[]) else (i+1,o,k++[byteAt s i])
def decR (s:ByteArray):Nat->Nat->List Int->List Int->List Int×List Int
 | 0,_,o,k=>(o,k)
 | m+1,i,o,k=>if i<s.size then decR s m (dstep s i o k).1 (dstep s i o k).2.1 (dstep s i o k).2.2 else (o,k)
def dmeas (s:ByteArray) (i:Nat) (k:List Int):Nat:=2*(s.size-i)+(if k=[] then 0 else 1)
theorem dstep_meas {s:ByteArray}{i:Nat}(o k:List Int) (h:i<s.size):dmeas s (dstep s i o k).1 (dstep s i o k).2.2<dmeas s i k:=by
 unfold dstep dmeas
 by_cases hk:k=[]
 ·rw [if_pos hk,if_pos hk];split
  ·simp; omega
  ·split
   ·simp; omega
   ·simp; omega
 ·rw [if_neg hk,if_neg hk];split
  ·simp
  ·split
   ·simp
   ·split
    ·simp; omega
    ·simp; omega
theorem decR_fuel (s:ByteArray):∀ (m m' i:Nat) (o k:List Int),dmeas s i k<=m->dmeas s i k<=m'->decR s m i o k=decR s m' i o k
 | 0,0,i,o,k,_,_=>rfl
 | 0,m'+1,i,o,k,h,_=>by
  have:¬ i<s.size:=by unfold dmeas at h; omega
  rw [decR,decR,if_neg this]
 | m+1,0,i,o,k,_,h=>by
  have:¬ i<s.size:=by unfold dmeas at h; omega
  rw [decR,decR,if_neg this]
 | m+1,m'+1,i,o,k,h,h'=>by
  rw [decR,decR]
  by_cases hi:i<s.size
  ·rw [if_pos hi,if_pos hi];have:=dstep_meas o k hi
   exact decR_fuel s m m' _ _ _ (by omega) (by omega)
  ·rw [if_neg hi,if_neg hi]
structure DX where
 s:ByteArray
 i:Nat
 o:List Int
 k:List Int
def DX.r (x:DX):List Int×List Int:=decR x.s (dmeas x.s x.i x.k) x.i x.o x.k
theorem DX.step {s:ByteArray}{i i':Nat}{o k o' k':List Int}(h:i<s.size) (hs:dstep s i o k=(i',o',k')):DX.r ⟨s,i',o',k'⟩=DX.r ⟨s,i,o,k⟩/\dmeas s i' k'<dmeas s i k:=by
 have hm:=dstep_meas o k h;rw [hs] at hm;refine ⟨?_,hm⟩
 have h0:0<dmeas s i k:=by simp only at hm; omega
 obtain ⟨m,e⟩:∃ m,dmeas s i k=m+1:=⟨dmeas s i k-1,by omega⟩
 simp only [DX.r];rw [e,decR,if_pos h,hs]
 exact decR_fuel s _ _ _ _ _ (Nat.le_refl _) (by simp only at hm ⊢; omega)
def DX.ok (x:DX):Prop:=x.i<=x.s.size/\x.s.size<=9000000/\x.o.length+min 1 x.k.length<=x.i/\x.k.length<=x.i
end Go.Proofs.YtigmkgampfbflaaGreatDoor
namespace Go.Proofs.YtigmkgampfbflaaGreatDoor
open Go Go.AE Go.DE Go.RowKit
def decF (s:ByteArray):List Int×ByteArray:=((DX.r ⟨s,0,[],[]⟩).1,bytesS (DX.r ⟨s,0,[],[]⟩).2.length (lw (DX.r ⟨s,0,[],[]⟩).2))
end Go.Proofs.YtigmkgampfbflaaGreatDoor
namespace Go.Proofs.YtigmkgampfbflaaGreatDoor
open Go Go.AE Go.DE Go.RowKit
abbrev enc1 (v:Int):List Int:=[IntKind.u8.wrap v]
abbrev enc2 (v:Int):List Int:=[IntKind.u8.wrap (IntKind.i32.wrap (192+IntKind.i32.wrap (Int.tdiv v 64))),IntKind.u8.wrap (IntKind.i32.wrap (128+Int.tmod v 64))]
abbrev enc3 (v:Int):List Int:=[IntKind.u8.wrap (IntKind.i32.wrap (224+IntKind.i32.wrap (Int.tdiv v 4096))),IntKind.u8.wrap (IntKind.i32.wrap (128+Int.tmod (IntKind.i32.wrap (Int.tdiv v 64)) 64)),IntKind.u8.wrap (IntKind.i32.wrap (128+Int.tmod v 64))]
abbrev enc4 (v:Int):List Int:=[IntKind.u8.wrap (IntKind.i32.wrap (240+IntKind.i32.wrap (Int.tdiv v 262144))),IntKind.u8.wrap (IntKind.i32.wrap (128+Int.tmod (IntKind.i32.wrap (Int.tdiv v 4096)) 64)),IntKind.u8.wrap (IntKind.i32.wrap (128+Int.tmod (IntKind.i32.wrap (Int.tdiv v 64)) 64)),IntKind.u8.wrap (IntKind.i32.wrap (128+Int.tmod v 64))]
def enB (v:Int):List Int :=
 if v<0 then [239,191,189] else if v > 1114111 then [239,191,189] else if v >= 55296/\v<=57343 then [239,191,189]
 else if v<128 then enc1 v else if v<2048 then enc2 v else if v<65536 then enc3 v else enc4 v
def enR (z:Nat->Int):Nat->Nat->List Int->List Int
 | 0,_,b=>b
 | m+1,i,b=>enR z m (i+1) (b++enB (z i))
structure EX where
 t:Bool
 z:Nat->Int
 n:Nat
 i:Nat
 b:List Int
def EX.r (x:EX):List Int:=enR x.z (x.n-x.i) x.i x.b
def encF (z:Nat->Int) (n:Nat):ByteArray:=bytesS (enR z n 0 []).length (lw (enR z n 0 []))
end Go.Proofs.YtigmkgampfbflaaGreatDoor
namespace Go.Proofs.YtigmkgampfbflaaGreatDoor
open Go Go.AE Go.DE Go.RowKit
theorem bytes_ext {a b:ByteArray}(h:a.data.toList=b.data.toList):a=b:=by
 obtain ⟨⟨l⟩⟩:=a;obtain ⟨⟨m⟩⟩:=b
 exact congrArg (fun l=>(⟨⟨l⟩⟩:ByteArray)) h
theorem DX.next {s:ByteArray}{i:Nat}{o k:List Int}(h:DX.ok ⟨s,i,o,k⟩) (hi:i<s.size):DX.ok ⟨s,(dstep s i o k).1,(dstep s i o k).2.1,(dstep s i o k).2.2⟩:=by
 obtain ⟨h1,h2,h3,h4⟩:i<=s.size/\s.size<=9000000/\o.length+min 1 k.length<=i/\k.length<=i:=h;unfold dstep
 by_cases hk:k=[]
 ·subst hk;rw [if_pos rfl];simp only [List.length_nil] at h3;split
  ·exact ⟨hi,h2,by simp; omega,by simp⟩
  ·split
   ·exact ⟨hi,h2,by simp; omega,by simp⟩
   ·exact ⟨hi,h2,by simp; omega,by simp⟩
 ·have:0<k.length:=List.length_pos_iff.2 hk;rw [if_neg hk];split
  ·exact ⟨h1,h2,by simp; omega,by simp⟩
  ·split
   ·exact ⟨h1,h2,by simp; omega,by simp⟩
   ·split
    ·exact ⟨hi,h2,by simp; omega,by simp⟩
    ·exact ⟨hi,h2,by simp; omega,by simp; omega⟩
def validF (s:ByteArray):Bool:=bif ByteArray.toList (decF s).2==ByteArray.toList ⟨#[]⟩ then ByteArray.toList (encF (lw (decF s).1) (decF s).1.length)==ByteArray.toList s else false
theorem valid_ne {s:ByteArray}(h:validF s=true) (hs:s≠⟨#[]⟩):(decF s).1≠[]:=fun e=>by
 unfold validF at h
 cases hb:ByteArray.toList (decF s).2==ByteArray.toList ⟨#[]⟩ with
 | false=>rw [hb] at h; cases h
 | true =>
  rw [hb,cond_true,e,beq_iff_eq] at h
  have h1:ByteArray.toList (encF (lw []) ([]:List Int).length)=[]:=by kernel_rfl
  rw [h1,Lib.toList_data] at h;exact hs (bytes_ext h.symm)
end Go.Proofs.YtigmkgampfbflaaGreatDoor
namespace Go.Proofs.YtigmkgampfbflaaGreatDoor
open Go Go.AE Go.DE Go.RowKit
def pr (lo hi:Nat->Int) (i:Nat):Nat->Int
 | 0=>lo i
 | _=>hi i
def rowP (lo hi:Nat->Int):Nat->Nat->DV:=fun i f=>kv .i32 (pr lo hi i f)
structure PX where
 t:Bool
 lo:Nat->Int
 hi:Nat->Int
 n:Nat
 v:Int
 i:Nat
def inR (lo hi:Nat->Int) (v:Int):Nat->Nat->Bool
 | 0,_=>false
 | m+1,i=>if v >= pr lo hi i 0 then (if v<=pr lo hi i 1 then true else inR lo hi v m (i+1)) else inR lo hi v m (i+1)
def PX.r (x:PX):Bool:=inR x.lo x.hi x.v (x.n-x.i) x.i
theorem hF {p:Prop}{x y:Option Unit}(h:¬ p) (hy:y=some ()):(bif holds p then x else y)=some ():=by
 cases hb:holds p with
 | false=>exact hy
 | true=>exact (h (holds_eq.1 hb)).elim
def inF (lo hi:Nat->Int) (n:Nat) (v:Int):Bool:=inR lo hi v n 0
end Go.Proofs.YtigmkgampfbflaaGreatDoor
namespace Go.Proofs.YtigmkgampfbflaaGreatDoor
open Go Go.AE Go.DE Go.RowKit
def tabL (L:List (Int×Int)) (i:Nat):Int:=(L.getD i (0,0)).1
def tabH (L:List (Int×Int)) (i:Nat):Int:=(L.getD i (0,0)).2
def mkL:List (Int×Int):=[(768,879),(6832,6911),(7616,7679),(8203,8207),(8400,8447),(65024,65039),(65056,65071)]
def wdL:List (Int×Int):=[(4352,4447),(11904,12350),(12353,13311),(13312,19903),(19968,40959),(40960,42191),(44032,55203),(63744,64255),(65072,65135),(65280,65376),(65504,65510),(127744,128591),(129280,129535),(131072,262141)]
def markF (v:Int):Bool:=inF (tabL mkL) (tabH mkL) 7 v
def wideF (v:Int):Bool:=inF (tabL wdL) (tabH wdL) 14 v
noncomputable def inG (J:(Nat->Int)->(Nat->Int)->Nat->Int->Bool):ConF:=fun args k=>match args with
 | [.sl _ g 2 n,.v (.int .i32 v)]=>bif holds (n<=1000/\∀ i,i<n->g i 0=kv .i32 (numD (g i 0))/\g i 1=kv .i32 (numD (g i 1))) then k (fun _=>(bv (J (fun i=>numD (g i 0)) (fun i=>numD (g i 1)) n v),[])) else none
 | _=>none
noncomputable def tabC (L:List (Int×Int)):ConF:=fun args k=>match args with
 | []=>k (fun s=>(.os s 0 L.length,[some ⟨2,.tab L.length (rowP (tabL L) (tabH L))⟩]))
 | _=>none
theorem tab_low (L:List (Int×Int)) (s:Nat):LowR (.os s 0 L.length,[some (⟨2,.tab L.length (rowP (tabL L) (tabH L))⟩:DBlk)]):=⟨.os _ _ _,fun id blk hb i f hi hf=>by
 cases id with
 | zero =>
  obtain rfl:(⟨2,.tab L.length (rowP (tabL L) (tabH L))⟩:DBlk)=blk:=by simpa using hb
  exact .v _
 | succ id=>simp at hb⟩
noncomputable def markC (M:Int->Bool):ConF:=fun args k=>match args with
 | [.v (.int .i32 v)]=>k (fun _=>(bv (M v),[]))
 | _=>none
def widF (v:Int):Int:=bif decide (v<32) then -1 else bif decide (v >= 127)&&decide (v<=159) then -1 else bif markF v then 0 else bif wideF v then 2 else 1
noncomputable def widC (D:Int->Int):ConF:=fun args k=>match args with
 | [.v (.int .i32 v)]=>k (fun _=>(iv (D v),[]))
 | _=>none
end Go.Proofs.YtigmkgampfbflaaGreatDoor
namespace Go.Proofs.YtigmkgampfbflaaGreatDoor
open Go Go.AE Go.DE Go.RowKit
noncomputable def chC:ConF:=fun args k=>match args with
 | [.v (.string s)]=>bif decide (s.size<=9000000) then k (fun b=>(.os b 0 (decF s).1.length,[some (lstB .i32 (decF s).1)])) else none
 | _=>none
def marksF (z:Nat->Int):Nat->Nat->Bool
 | 0,_=>true
 | m+1,i=>bif markF (z i) then marksF z m (i+1) else false
structure MX where
 z:Nat->Int
 n:Nat
 i:Nat
def MX.r (x:MX):Bool:=marksF x.z (x.n-x.i) x.i
noncomputable def vaG (V:ByteArray->Bool):ConF:=fun args k=>match args with
 | [.v (.string s)]=>bif decide (s.size<=9000000) then k (fun _=>(bv (V s),[])) else none
 | _=>none
def check3 (s:ByteArray):Int :=
 bif ByteArray.toList s==ByteArray.toList ⟨#[]⟩ then 3 else bif validF s then
  bif markF (lw (decF s).1 0) then 9 else bif decide (widF (lw (decF s).1 0)<1) then 9 else
   bif marksF (lw (decF s).1) ((decF s).1.length-1) 1 then (bif decide (((decF s).1.length:Int) > 4) then 5 else 0) else 9
 else 3
end Go.Proofs.YtigmkgampfbflaaGreatDoor
namespace Go.Proofs.YtigmkgampfbflaaGreatDoor
open Go Go.AE Go.DE Go.RowKit
noncomputable def ckC (F:ByteArray->Int):ConF:=fun args k=>match args with
 | [.v (.string s)]=>bif decide (s.size<=9000000) then k (fun _=>(iv (F s),[])) else none
 | _=>none
def width3 (s:ByteArray):Int:=if check3 s=0 then widF (lw (decF s).1 0) else 0
theorem check3_ne {s:ByteArray}(h:check3 s=0):0<(decF s).1.length:=by
 unfold check3 at h
 cases h1:(ByteArray.toList s==ByteArray.toList ⟨#[]⟩) with
 | true=>rw [h1] at h; cases h
 | false =>
  cases h2:validF s with
  | false=>rw [h1,h2] at h; cases h
  | true=>exact List.length_pos_iff.2 (valid_ne h2 fun e=>by rw [e,beq_self_eq_true] at h1; cases h1)
noncomputable def cwC (F:ByteArray->Int):ConF:=fun args k=>match args with
 | [.v (.string s)]=>bif decide (s.size<=9000000) then k (fun _=>(iv (F s),[])) else none
 | _=>none
structure Row where
 n:Nat
 tx:Nat->ByteArray
 wd:Nat->Int
 fo:Nat->Int
 ba:Nat->Int
 fl:Nat->Int
def Row.cell (r:Row) (i:Nat):Nat->DV
 | 0=>sv (r.tx i)
 | 1=>iv (r.wd i)
 | 2=>iv (r.fo i)
 | 3=>iv (r.ba i)
 | _=>iv (r.fl i)
def Row.half (r:Row) (i j:Nat):Bool :=
 bif r.tx j==⟨#[]⟩ then (bif r.wd j==0 then (bif (bif r.fo j==r.fo i then (bif r.ba j==r.ba i then (bif r.fl j==r.fl i then true else false) else false) else false) then true else false) else false) else false
def c7s (r:Row) (i:Nat) (a b:Int):Int :=
 bif (r.wd i != 1)&&(r.wd i != 2) then 12 else bif check3 (r.tx i) != 0 then 3 else bif width3 (r.tx i) != r.wd i then 12 else
  bif r.wd i==1 then a else bif ((i+1:Nat):Int)==(r.n:Int) then 12 else bif r.half i (i+1) then b else 12
def c7 (r:Row):Nat->Nat->Int
 | 0,_=>0
 | m+1,i=>if i<r.n then c7s r i (c7 r m (i+1)) (c7 r m (i+2)) else 0
def Row.sized (r:Row):Prop:=r.n<=9000000/\∀ i,i<r.n->(r.tx i).size<=9000000
def qe (v:Int):Ex:=if v=0 then .exit 0 else .ret
def qo (v:Int):List DV:=if v=0 then [.any] else [iv v]
theorem q_cps {v:Int}{σ:DHeap}{k:Ex->List DV->DHeap->Option Unit}(h:(bif holds (v=0) then k (.exit 0) [.any] σ else k .ret [iv v] σ)=some ()):k (qe v) (qo v) σ=some ():=by
 rcases bif_some h with ⟨h1,h2⟩ | ⟨h1,h2⟩
 ·unfold qe qo; rw [if_pos (holds_eq.1 h1),if_pos (holds_eq.1 h1)]; exact h2
 ·have h1:¬ v=0:=fun e=>by rw [holds_eq.2 e] at h1; cases h1
  unfold qe qo; rw [if_neg h1,if_neg h1]; exact h2
def strD:DV->ByteArray
 | .v (.string s)=>s
 | _=>⟨#[]⟩
def rowOf (g:Nat->Nat->DV) (n:Nat):Row:=⟨n,fun i=>strD (g i 0),fun i=>numD (g i 1),fun i=>numD (g i 2),fun i=>numD (g i 3),fun i=>numD (g i 4)⟩
structure CX where
 t:Bool
 r:Row
 m:Nat
 i:Nat
def CX.q (x:CX):Int:=c7 x.r x.m x.i
end Go.Proofs.YtigmkgampfbflaaGreatDoor
namespace Go.Proofs.YtigmkgampfbflaaGreatDoor
open Go Go.AE Go.DE Go.RowKit
def Cv (a b:DV):Prop:=∀ C μ v,DR C μ a v->DR C μ b v
theorem Cv.rfl {a:DV}:Cv a a:=fun _ _ _ h=>h
theorem Cv.of {a b:DV}(h:a=b):Cv a b:=h ▸ Cv.rfl
theorem Cv.sl {t:Bool}{g g':Nat->Nat->DV}{k n:Nat}(h:∀ i f,i<n->f<k->Cv (g i f) (g' i f)):Cv (.sl t g k n) (.sl t g' k n):=fun C μ v hv=>by
 rcases hv.sl_inv with ⟨a,cap,w,rfl,hc,hk0,q1,q2⟩ | ⟨rfl,rfl⟩
 ·exact .sl t _ k n a cap w hc hk0 q1 fun i f hi hf=>h i f hi hf _ _ _ (q2 i f hi hf)
 ·exact .slnil t _ k
theorem Cv.agg:∀ {a b:List DV},CvL a b->Cv (.agg a) (.agg b):=fun {a b} h C μ v hv=>by
 cases hv with
 | agg _ vs h1 h2 =>
  have:=h.drl (C:=C) (μ:=μ) (vs:=vs.toList) ⟨by simpa using h1,fun i d x hd hx=>h2 i d x hd (by simpa using hx)⟩
  exact .agg _ _ (by simpa using this.1) fun i d x hd hx=>this.2 i d x hd (by simpa using hx)
def cellsOk (g:Nat->Nat->DV) (n:Nat):Prop:=n<=9000000/\∀ i,i<n->g i 0=sv (strD (g i 0))/\(strD (g i 0)).size<=9000000/\g i 1=iv (numD (g i 1))/\g i 2=iv (numD (g i 2))/\g i 3=iv (numD (g i 3))/\g i 4=iv (numD (g i 4))
theorem cellsOk.row {g:Nat->Nat->DV}{n:Nat}(h:cellsOk g n):(rowOf g n).sized:=⟨h.1,fun i hi=>(h.2 i hi).2.1⟩
theorem cellsOk.cv {g:Nat->Nat->DV}{n:Nat}(h:cellsOk g n) (t:Bool):Cv (.sl t g 5 n) (.sl t (rowOf g n).cell 5 n):=Cv.sl fun i f hi hf=>by
 obtain ⟨h0,_,h1,h2,h3,h4⟩:=h.2 i hi
 have:f=0\/f=1\/f=2\/f=3\/f=4:=by omega
 rcases this with rfl | rfl | rfl | rfl | rfl
 ·exact .of h0
 ·exact .of h1
 ·exact .of h2
 ·exact .of h3
 ·exact .of h4
theorem Row.ok {r:Row}(h:r.sized):cellsOk r.cell r.n:=⟨h.1,fun i hi=>⟨rfl,h.2 i hi,rfl,rfl,rfl,rfl⟩⟩
noncomputable def rcC (F:Row->Int):ConF:=fun args k=>match args with
 | [.sl _ g 5 n]=>bif holds (cellsOk g n) then k (fun _=>(iv (F ⟨n,fun i=>strD (g i 0),fun i=>numD (g i 1),fun i=>numD (g i 2),fun i=>numD (g i 3),fun i=>numD (g i 4)⟩),[])) else none
 | _=>none
def check7 (r:Row):Int:=bif decide ((r.n:Int)<1) then 5 else bif decide ((r.n:Int) > 132) then 5 else c7 r r.n 0
def rowsD (T:Nat->Bool) (R:Nat->Row):Nat->Nat->DV:=fun i _=>.sl (T i) (R i).cell 5 (R i).n
def g8s (w:Int) (r:Row) (a:Int):Int:=bif (r.n:Int) != w then 12 else bif check7 r != 0 then check7 r else a
def g8 (R:Nat->Row) (w:Int):Nat->Nat->Int
 | 0,_=>0
 | m+1,i=>g8s w (R i) (g8 R w m (i+1))
theorem wkN {b:Option DBlk}{ds ds2:List DV}(tm:SubL (ren 1 []) ds2 ds):WkP 1 [] ds [b] ds2 [none]:=.of (im:=[]) tm rfl trivial rfl (by decide)
structure GX where
 w:Int
 h:Int
 t:Bool
 T:Nat->Bool
 R:Nat->Row
 n:Nat
 i:Nat
def GX.q (x:GX):Int:=g8 x.R x.w (x.n-x.i) x.i
def slT:DV->Bool
 | .sl t _ _ _=>t
 | _=>false
def slG:DV->Nat->Nat->DV
 | .sl _ g _ _=>g
 | _=>fun _ _=>.any
def slN:DV->Nat
 | .sl _ _ _ n=>n
 | _=>0
def rowD (d:DV):Row:=rowOf (slG d) (slN d)
def check8 (w h:Int) (R:Nat->Row) (n:Nat):Int :=
 bif decide (w >= 1)&&decide (w<=132)&&decide (h >= 1)&&decide (h<=60) then (bif (n:Int) != h then 1 else g8 R w n 0) else 2
end Go.Proofs.YtigmkgampfbflaaGreatDoor
namespace Go.Proofs.YtigmkgampfbflaaGreatDoor
open Go Go.AE Go.DE Go.RowKit
def isRow (d:DV):Prop:=d=.sl (slT d) (slG d) 5 (slN d)/\cellsOk (slG d) (slN d)
noncomputable def gcC (F:Int->Int->(Nat->Row)->Nat->Int):ConF:=fun args k=>match args with
 | [.agg [.v (.int .i64 w),.v (.int .i64 h),.sl _ G 1 n]]=>bif holds (n<=9000000/\∀ i,i<n->isRow (G i 0)) then
   k (fun _=>(iv (F w h (fun i=>⟨slN (G i 0),fun j=>strD (slG (G i 0) j 0),fun j=>numD (slG (G i 0) j 1),fun j=>numD (slG (G i 0) j 2),fun j=>numD (slG (G i 0) j 3),fun j=>numD (slG (G i 0) j 4)⟩) n),[])) else none
 | _=>none
theorem rows_cv {t:Bool}{G:Nat->Nat->DV}{n:Nat}(h:∀ i,i<n->isRow (G i 0)):Cv (.sl t G 1 n) (.sl t (rowsD (fun i=>slT (G i 0)) fun i=>rowD (G i 0)) 1 n):=Cv.sl fun i f hi hf=>by
 obtain rfl:f=0:=by omega
 obtain ⟨h1,h2⟩:=h i hi;rw [h1];exact h2.cv _
structure Tm where
 I:Nat->Int
 B:Nat->Bool
 S:Nat->ByteArray
 gT:Nat->Bool
 gR:Nat->Row
 gn:Nat
 oT:Nat->Bool
 oR:Nat->Row
 on:Nat
 tb:Nat->Bool
 tn:Nat
 bT:Nat->Bool
 bR:Nat->Row
 bn:Nat
def tabsD (z:Nat->Bool):Nat->Nat->DV:=fun i _=>bv (z i)
def Tm.cells (x:Tm):List DV :=
 [iv (x.I 0),iv (x.I 1),.sl false (rowsD x.gT x.gR) 1 x.gn,iv (x.I 3),iv (x.I 4),.sl false (rowsD x.oT x.oR) 1 x.on,
  iv (x.I 6),iv (x.I 7),bv (x.B 8),iv (x.I 9),iv (x.I 10),bv (x.B 11),iv (x.I 12),iv (x.I 13),iv (x.I 14),bv (x.B 15),kv .u8 (x.I 16),kv .u8 (x.I 17),iv (x.I 18),
  iv (x.I 19),iv (x.I 20),iv (x.I 21),bv (x.B 22),bv (x.B 23),bv (x.B 24),bv (x.B 25),bv (x.B 26),bv (x.B 27),bv (x.B 28),bv (x.B 29),kv .u8 (x.I 30),kv .u8 (x.I 31),iv (x.I 32),
  iv (x.I 33),iv (x.I 34),.sl false (tabsD x.tb) 1 x.tn,.sl false (rowsD x.bT x.bR) 1 x.bn,iv (x.I 37),sv (x.S 38),sv (x.S 39),sv (x.S 40),sv (x.S 41)]
def rowsOk (R:Nat->Row) (n:Nat):Prop:=n<=9000000/\∀ i,i<n->(R i).sized
def Tm.ok (x:Tm):Prop:=rowsOk x.gR x.gn/\rowsOk x.oR x.on/\rowsOk x.bR x.bn/\x.tn<=9000000/\(x.S 40).size<=9000000/\(x.S 41).size<=9000000
theorem Tm.clo (x:Tm):∀ d∈x.cells,Clo d:=fun d hd=>by
 simp only [Tm.cells,List.mem_cons,List.not_mem_nil,or_false] at hd
 repeat (first | (rcases hd with rfl | hd; first | exact Clo.v _ | exact Clo.sl _ _ _ _) | (subst hd; exact Clo.v _))
theorem isRow_of {T:Bool}{r:Row}(h:r.sized):isRow (.sl T r.cell 5 r.n):=⟨rfl,Row.ok h⟩
def be (b:Bool):Ex:=match b with
 | true=>.exit 0
 | false=>.ret
def bo (v:Bool) (b:Bool):List DV:=match b with
 | true=>[.any]
 | false=>[bv v]
theorem b_cps {b v:Bool}{σ:DHeap}{k:Ex->List DV->DHeap->Option Unit}(h:(bif holds (b=true) then k (.exit 0) [.any] σ else k .ret [bv v] σ)=some ()):k (be b) (bo v b) σ=some ():=by
 rcases bif_some h with ⟨h1,h2⟩ | ⟨h1,h2⟩
 ·rw [holds_eq.1 h1]; exact h2
 ·cases b with
  | true=>rw [holds_eq.2 rfl] at h1; cases h1
  | false=>exact h2
def insF (r c:Int) (p:Bool) (w h:Int):Bool:=decide (r >= 0)&&decide (r<h)&&decide (c >= 0)&&decide (c<w)&&(!p||c==IntKind.i64.wrap (w-1))
def rgtF (a b c:Int):Int:=bif decide (a < -1)||decide (a > 255)||decide (b < -1)||decide (b > 255)||decide (c<0)||decide (c > 255) then 0 else 1
def setF (a b c:Int):Bool:=(a==66||a==48)&&(b==66||b==48)&&(c==0||c==1)
noncomputable def isC (F:Int->Int->Bool->Int->Int->Bool):ConF:=fun args k=>match args with
 | [.agg [.v (.int .i64 r),.v (.int .i64 c),.v (.bool p)],.agg [.v (.int .i64 w),.v (.int .i64 h),.sl _ _ 1 _]]=>k (fun _=>(bv (F r c p w h),[]))
 | _=>none
noncomputable def seC (F:Int->Int->Int->Bool):ConF:=fun args k=>match args with
 | [.agg [.v (.int .u8 a),.v (.int .u8 b)],.v (.int .i64 c)]=>k (fun _=>(bv (F a b c),[]))
 | _=>none
end Go.Proofs.YtigmkgampfbflaaGreatDoor
namespace Go.Proofs.YtigmkgampfbflaaGreatDoor
open Go Go.AE Go.DE Go.RowKit
end Go.Proofs.YtigmkgampfbflaaGreatDoor
namespace Go.Proofs.YtigmkgampfbflaaGreatDoor
open Go Go.AE Go.DE Go.RowKit
def bsR (hi:Nat->Int) (v:Int):Nat->Nat->Nat->Nat
 | 0,l,_=>l
 | m+1,l,h=>if l<h then (if v > hi ((l+h) / 2) then bsR hi v m ((l+h) / 2+1) h else bsR hi v m l ((l+h) / 2)) else l
structure BX where
 lo:Nat->Int
 hi:Nat->Int
 n:Nat
 v:Int
 l:Nat
 h:Nat
def bsQ (hi:Nat->Int) (v:Int) (l h:Nat):Nat:=bsR hi v (h-l) l h
def BX.r (x:BX):Nat:=bsQ x.hi x.v x.l x.h
theorem bsR_fuel (hi:Nat->Int) (v:Int):∀ (m k l h:Nat),h-l<=m->h-l<=k->bsR hi v m l h=bsR hi v k l h
 | 0,0,_,_,_,_=>rfl
 | 0,k+1,l,h,h1,_=>by
  rw [bsR,bsR,if_neg (by omega)]
 | m+1,0,l,h,_,h2=>by
  rw [bsR,bsR,if_neg (by omega)]
 | m+1,k+1,l,h,h1,h2=>by
  rw [bsR,bsR]
  by_cases hl:l<h
  ·rw [if_pos hl,if_pos hl,bsR_fuel hi v m k _ h (by omega) (by omega),bsR_fuel hi v m k l _ (by omega) (by omega)]
  ·rw [if_neg hl,if_neg hl]
theorem BX.step {x:BX}(h:x.l<x.h):x.r=if x.v > x.hi ((x.l+x.h) / 2) then BX.r { x with l:=(x.l+x.h) / 2+1 } else BX.r { x with h:=(x.l+x.h) / 2 }:=by
 unfold BX.r bsQ
 obtain ⟨m,e⟩:∃ m,x.h-x.l=m+1:=⟨x.h-x.l-1,by omega⟩
 rw [e,bsR,if_pos h]
 rw [bsR_fuel x.hi x.v m (x.h-((x.l+x.h) / 2+1)) _ x.h (by omega) (by omega),bsR_fuel x.hi x.v m ((x.l+x.h) / 2-x.l) x.l _ (by omega) (by omega)]
noncomputable def bsI (Q:(Nat->Int)->Int->Nat->Nat->Nat):LInv BX where
 pre x:=x.l<=x.h/\x.h<=x.n/\x.n<=1000
 m:=2
 n:=39
 ps:=[0,1,4,5]
 sd x:=[kv .i32 x.v,.po 1 0 0,iv x.l,iv x.h]
 sh x:=[some ⟨2,.tab x.n (rowP x.lo x.hi)⟩,some ⟨1,.lst [[.os 0 0 x.n]]⟩]
 meas x:=x.h-x.l
 e _:=.exit 0
 qs:=[0,1,4]
 od x:=[kv .i32 x.v,.po 1 0 0,iv (Q x.hi x.v x.l x.h)]
 oh x:=[some ⟨2,.tab x.n (rowP x.lo x.hi)⟩,some ⟨1,.lst [[.os 0 0 x.n]]⟩]
 guess ds σ:=match ds,σ with
  | [.v (.int _ v),_,_,.v (.int _ h)],[some ⟨2,.tab n g⟩,_]=>some ⟨fun i=>numD (g i 0),fun i=>numD (g i 1),n,v,0,h.toNat⟩
  | _,_=>none
 cps x k:=k (.exit 0) [kv .i32 x.v,.po 1 0 0,iv (Q x.hi x.v x.l x.h)] [some ⟨2,.tab x.n (rowP x.lo x.hi)⟩,some ⟨1,.lst [[.os 0 0 x.n]]⟩]
theorem bs_loop (lo hi:Nat->Int) (n:Nat) (v:Int) (l h:Nat) (K:Ex->Nat->List DV->List DV->DHeap->Option Unit):execD Tryz.prog (env [] noLp 0) (loopAt Tryz.f230 28) 500 (temps 39 [0,1,4,5] [kv .i32 v,.po 1 0 0,iv l,iv h]) [some ⟨2,.tab n (rowP lo hi)⟩,some ⟨1,.lst [[.os 0 0 n]]⟩] (fun e τ σ=>K e τ.length (pick [0,1,4,5] τ) (pick [0,1,4] τ) σ) =
  bif decide ((l:Int)<(h:Int)) then bif decide (0<=IntKind.wrap .i64 (Int.tdiv (IntKind.wrap .i64 ((l:Int)+(h:Int))) 2)) then bif decide (IntKind.wrap .i64 (Int.tdiv (IntKind.wrap .i64 ((l:Int)+(h:Int))) 2)<(n:Int))
  then bif decide (0+Int.toNat (IntKind.wrap .i64 (Int.tdiv (IntKind.wrap .i64 ((l:Int)+(h:Int))) 2))+0<n) then bif decide (v > pr lo hi (0+Int.toNat (IntKind.wrap .i64 (Int.tdiv (IntKind.wrap .i64 ((l:Int)+(h:Int))) 2))+0) 1)
  then K .normal 39 [kv .i32 v,.po 1 0 0,iv (IntKind.wrap .i64 (IntKind.wrap .i64 (Int.tdiv (IntKind.wrap .i64 ((l:Int)+(h:Int))) 2)+1)),iv (h:Int)] [kv .i32 v,.po 1 0 0,iv (IntKind.wrap .i64 (IntKind.wrap .i64 (Int.tdiv (IntKind.wrap .i64 ((l:Int)+(h:Int))) 2)+1))] [some ⟨2,.tab n fun a a_1=>kv .i32 ((pr lo hi a a_1))⟩,some ⟨1,.lst [[.os 0 0 n]]⟩]
  else K .normal 39 [kv .i32 v,.po 1 0 0,iv (l:Int),iv (IntKind.wrap .i64 (Int.tdiv (IntKind.wrap .i64 ((l:Int)+(h:Int))) 2))] [kv .i32 v,.po 1 0 0,iv (l:Int)] [some ⟨2,.tab n fun a a_1=>kv .i32 ((pr lo hi a a_1))⟩,some ⟨1,.lst [[.os 0 0 n]]⟩]
  else none else none else none else K (.exit 0) 39 [kv .i32 v,.po 1 0 0,iv (l:Int),iv (h:Int)] [kv .i32 v,.po 1 0 0,iv (l:Int)] [some ⟨2,.tab n fun a a_1=>kv .i32 ((pr lo hi a a_1))⟩,some ⟨1,.lst [[.os 0 0 n]]⟩]:=by
 kernel_rfl
theorem wkT {lo hi:Nat->Int}{n:Nat}{ds ds2:List DV}(tm:SubL (ren 2 []) ds2 ds):WkP 2 [] ds [some ⟨2,.tab n (rowP lo hi)⟩,some ⟨1,.lst [[.os 0 0 n]]⟩] ds2 [some ⟨2,.tab n (rowP lo hi)⟩,some ⟨1,.lst [[.os 0 0 n]]⟩] :=
 .of (im:=[some 0,some 1]) tm rfl ⟨⟨0,_,rfl,rfl,⟨rfl,Nat.le_refl _,trivial,fun _ _ _ _=>.v _⟩⟩,⟨1,_,rfl,rfl,⟨rfl,Nat.le_refl _,trivial,fun i f hi hf=>by
  obtain rfl:i=0:=by
   have:i<1:=hi;omega
  obtain rfl:f=0:=by
   have:f<1:=hf;omega
  exact .os rfl⟩⟩,trivial⟩ rfl (by decide)
theorem bs_ls {st:AE.Stat}:LoopS Tryz.prog st gl0 (.loop (loopAt Tryz.f230 28)) (bsI bsQ).g:=by
 refine (bsI bsQ).ok (E:=env [] noLp 0) (p:=500) (tblD_env (l:=[]) fun _ h=>nomatch h) (glOk st).1 (fun _ _ _ h=>nomatch h) (fun x k h=>h) fun x hx=>?_
 obtain ⟨lo,hi,n,v,l,h⟩:=x;obtain ⟨h1,h2,h3⟩:l<=h/\h<=n/\n<=1000:=hx;refine (bs_loop lo hi n v l h _).trans ?_
 have hW:IntKind.i64.wrap ((l:Int)+(h:Int))=((l+h:Nat):Int):=by rw [W_in (by omega) (by omega)]; omega
 have hD:(((l+h:Nat):Int)).tdiv 2=(((l+h) / 2:Nat):Int):=rfl
 have hM:IntKind.i64.wrap ((((l+h) / 2:Nat):Int))=(((l+h) / 2:Nat):Int):=W_in (by omega) (by omega)
 have hN:IntKind.i64.wrap ((((l+h) / 2:Nat):Int)+1)=(((l+h) / 2+1:Nat):Int):=by rw [W_in (by omega) (by omega)]; omega
 simp only [hW,hD,hM,hN,Int.toNat_natCast,Nat.add_zero,Nat.zero_add]
 refine dS (fun hlt=>?_) fun hge=>?_
 ·have hlt:l<h:=by omega
  have hs:=BX.step (x:=⟨lo,hi,n,v,l,h⟩) hlt
  refine dT (by omega) (dT (by omega) (dT (by omega) (dS (fun hv=>?_) fun hv=>?_)))
  ·rw [if_pos (show v > hi ((l+h) / 2) from hv)] at hs
   refine LInv.ask_of ⟨rfl,⟨lo,hi,n,v,(l+h) / 2+1,h⟩,⟨rfl,?_,rfl,?_⟩,?_,[],wkT (.cons (.v _) (.cons (.po rfl) (.cons (.v _) (.cons (.v _) .nil))))⟩
   ·exact congrArg (fun r:Nat=>[kv .i32 v,.po 1 0 0,iv (r:Int)]) hs.symm
   ·exact ⟨by show (l+h) / 2+1<=h; omega,h2,h3⟩
   ·show h-((l+h) / 2+1)<h-l; omega
  ·rw [if_neg (show ¬ v > hi ((l+h) / 2) from hv)] at hs
   refine LInv.ask_of ⟨rfl,⟨lo,hi,n,v,l,(l+h) / 2⟩,⟨rfl,?_,rfl,?_⟩,?_,[],wkT (.cons (.v _) (.cons (.po rfl) (.cons (.v _) (.cons (.v _) .nil))))⟩
   ·exact congrArg (fun r:Nat=>[kv .i32 v,.po 1 0 0,iv (r:Int)]) hs.symm
   ·exact ⟨by show l<=(l+h) / 2; omega,by show (l+h) / 2<=n; omega,h3⟩
   ·show (l+h) / 2-l<h-l; omega
 ·have hr:bsQ hi v l h=l:=by
   unfold bsQ
   rw [show h-l=0 by omega,bsR]
  refine LInv.ask_of ⟨rfl,rfl,[],?_⟩;show WkP 2 [] _ _ [kv .i32 v,.po 1 0 0,iv ((bsQ hi v l h:Nat):Int)] _;rw [hr];exact wkT (.cons (.v _) (.cons (.po rfl) (.cons (.v _) .nil)))
noncomputable def bsH (Q:(Nat->Int)->Int->Nat->Nat->Nat):List InE:=[⟨164,Tryz.f164,env [] noLp 0⟩,⟨230,Tryz.f230,env [] (lpOf [(28,(bsI Q).g)]) 0⟩]
theorem bsH_ok {st:AE.Stat}(hx:Hx st):∀ e∈bsH bsQ,InOk Tryz.prog st e:=fun e he=>by
 simp only [bsH,List.mem_cons,List.not_mem_nil,or_false] at he
 rcases he with rfl | rfl
 ·exact ⟨Tryz.func164,by kernel_rfl,by kernel_rfl,hx 164 rfl,tblD_env (l:=[]) (fun _ h=>nomatch h),glOk st,(fun _ _ _ h=>nomatch h),rfl⟩
 ·exact ⟨Tryz.func230,by kernel_rfl,by kernel_rfl,hx 230 rfl,tblD_env (l:=[]) (fun _ h=>nomatch h),glOk st,lp_one (by kernel_rfl) bs_ls,rfl⟩
theorem mks_tree (K:DV->DHeap->Option Unit):bodyD Tryz.prog (env [] noLp 0) Tryz.f229 [] [] (fun d σ=>K d σ) =
  K (.os 0 0 7) [some ⟨2,.lst [[kv .i32 768,kv .i32 879],[kv .i32 6832,kv .i32 6911],[kv .i32 7616,kv .i32 7679],[kv .i32 8203,kv .i32 8207],[kv .i32 8400,kv .i32 8447],[kv .i32 65024,kv .i32 65039],[kv .i32 65056,kv .i32 65071]]⟩]:=by
 kernel_rfl
theorem wds_tree (K:DV->DHeap->Option Unit):bodyD Tryz.prog (env [] noLp 0) Tryz.f165 [] [] (fun d σ=>K d σ) =
  K (.os 0 0 14) [some ⟨2,.lst [[kv .i32 4352,kv .i32 4447],[kv .i32 11904,kv .i32 12350],[kv .i32 12353,kv .i32 13311],[kv .i32 13312,kv .i32 19903],[kv .i32 19968,kv .i32 40959],[kv .i32 40960,kv .i32 42191],[kv .i32 44032,kv .i32 55203],[kv .i32 63744,kv .i32 64255],[kv .i32 65072,kv .i32 65135],[kv .i32 65280,kv .i32 65376],[kv .i32 65504,kv .i32 65510],[kv .i32 127744,kv .i32 128591],[kv .i32 129280,kv .i32 129535],[kv .i32 131072,kv .i32 262141]]⟩]:=by
 kernel_rfl
theorem mksC_ok {st:AE.Stat}(hx:Hx st):ConOk Tryz.prog st 229 (tabC mkL):=by
 refine con_of (mg:=[]) (l:=[]) (lp:=noLp) (n:=0) (glOk st) (fun _ h=>nomatch h) Tryz.func229 (by kernel_rfl) (by kernel_rfl) (hx 229 rfl) (fun _ _ _ h=>nomatch h) fun args k hk=>?_
 unfold tabC at hk
 split at hk<;>first | (cases hk; done) | skip
 refine ⟨[],_,.nil,hk,fun s=>⟨tab_low mkL s,(mks_tree _).trans (fin_of ?_)⟩⟩
 refine finQ_own (id:=0) rfl rfl rfl (Nat.le_refl 7) trivial fun i f hi hf=>⟨.v _,?_⟩
 have hf:f=0\/f=1:=by omega
 have hi:i=0\/i=1\/i=2\/i=3\/i=4\/i=5\/i=6:=by have:i<7:=hi; omega
 rcases hf with rfl | rfl<;>rcases hi with rfl | rfl | rfl | rfl | rfl | rfl | rfl<;>rfl
theorem wdsC_ok {st:AE.Stat}(hx:Hx st):ConOk Tryz.prog st 165 (tabC wdL):=by
 refine con_of (mg:=[]) (l:=[]) (lp:=noLp) (n:=0) (glOk st) (fun _ h=>nomatch h) Tryz.func165 (by kernel_rfl) (by kernel_rfl) (hx 165 rfl) (fun _ _ _ h=>nomatch h) fun args k hk=>?_
 unfold tabC at hk
 split at hk<;>first | (cases hk; done) | skip
 refine ⟨[],_,.nil,hk,fun s=>⟨tab_low wdL s,(wds_tree _).trans (fin_of ?_)⟩⟩
 refine finQ_own (id:=0) rfl rfl rfl (Nat.le_refl 14) trivial fun i f hi hf=>⟨.v _,?_⟩
 have hf:f=0\/f=1:=by omega
 have hi:i=0\/i=1\/i=2\/i=3\/i=4\/i=5\/i=6\/i=7\/i=8\/i=9\/i=10\/i=11\/i=12\/i=13:=by have:i<14:=hi; omega
 rcases hf with rfl | rfl<;>rcases hi with rfl | rfl | rfl | rfl | rfl | rfl | rfl | rfl | rfl | rfl | rfl | rfl | rfl | rfl<;>rfl
theorem cm_tree (Q:(Nat->Int)->Int->Nat->Nat->Nat) (v:Int) (k:DV->Option Unit):bodyD Tryz.prog (envH Tryz.prog gl0 (bsH Q) [(229,tabC mkL)] noLp 0) Tryz.f163 [kv .i32 v] [] (fun d _=>k d) =
  bif holds ((Nat.le 0 7/\Nat.le 7 7/\Nat.le 7 1000)/\∃ ids,WkP (LInv.m (bsI Q)) ids [kv .i32 v,.po 1 0 0,iv 0,iv 7] [some ⟨2,.tab 7 fun a a_1=>kv .i32 ((pr (tabL mkL) (tabH mkL) a a_1))⟩,some ⟨1,.lst [[.os 0 0 7]]⟩] [kv .i32 v,.po 1 0 0,iv 0,iv 7] [some ⟨2,.tab 7 fun a a_1=>kv .i32 ((pr (fun i=>numD (kv .i32 ((pr (tabL mkL) (tabH mkL) i 0)))) (fun i=>numD (kv .i32 ((pr (tabL mkL) (tabH mkL) i 1)))) a a_1))⟩,some ⟨1,.lst [[.os 0 0 7]]⟩])
  then bif decide ((↑(Q (fun i=>numD (kv .i32 ((pr (tabL mkL) (tabH mkL) i 1)))) v 0 7):Int)<7) then bif decide ((↑(Q (fun i=>numD (kv .i32 ((pr (tabL mkL) (tabH mkL) i 1)))) v 0 7):Int)<7)
  then bif decide (0+Int.toNat (↑(Q (fun i=>numD (kv .i32 ((pr (tabL mkL) (tabH mkL) i 1)))) v 0 7):Int)+0<7) then k (bv (decide (v >= pr (fun i=>numD (kv .i32 ((pr (tabL mkL) (tabH mkL) i 0)))) (fun i=>numD (kv .i32 ((pr (tabL mkL) (tabH mkL) i 1)))) (0+Int.toNat (↑(Q (fun i=>numD (kv .i32 ((pr (tabL mkL) (tabH mkL) i 1)))) v 0 7):Int)+0) 0)))
  else none else none else k (bv false) else none:=by
 kernel_rfl
def findF (L:List (Int×Int)) (v:Int):Bool:=bif decide (bsQ (tabH L) v 0 L.length<L.length) then decide (v >= tabL L (bsQ (tabH L) v 0 L.length)) else false
theorem cm_true (v:Int):bodyD Tryz.prog (envH Tryz.prog gl0 (bsH bsQ) [(229,tabC mkL)] noLp 0) Tryz.f163 [kv .i32 v] [] (fun d _=>isD (bv (findF mkL v)) d)=some ():=by
 refine (cm_tree bsQ v _).trans (hT ⟨⟨Nat.zero_le _,Nat.le_refl _,by show 7<=1000; decide⟩,[],wkT (.cons (.v _) (.cons (.po rfl) (.cons (.v _) (.cons (.v _) .nil))))⟩ ?_)
 show (bif decide (((bsQ (tabH mkL) v 0 7:Nat):Int)<7) then _ else _)=some ();unfold findF
 refine dS (fun h=>?_) fun h=>isD_of ?_
 ·have h':bsQ (tabH mkL) v 0 mkL.length<mkL.length:=by
   have h:((bsQ (tabH mkL) v 0 7:Nat):Int)<7:=h;show bsQ (tabH mkL) v 0 7<7;omega
  have e:0+(((bsQ (tabH mkL) v 0 7:Nat):Int)).toNat+0=bsQ (tabH mkL) v 0 7:=by omega
  refine dT h (dT ?_ (isD_of ?_))
  ·show 0+(((bsQ (tabH mkL) v 0 7:Nat):Int)).toNat+0<7
   rw [e]; exact h'
  ·rw [decide_eq_true h',cond_true];show DV.v (.bool (decide (v >= tabL mkL (0+(((bsQ (tabH mkL) v 0 7:Nat):Int)).toNat+0))))=_
   rw [e]; rfl
 ·have h':¬ bsQ (tabH mkL) v 0 mkL.length<mkL.length:=by
   have h:¬ ((bsQ (tabH mkL) v 0 7:Nat):Int)<7:=h;show ¬ bsQ (tabH mkL) v 0 7<7;omega
  rw [decide_eq_false h']; rfl
theorem cmC_ok {st:AE.Stat}(hx:Hx st):ConOk Tryz.prog st 163 (markC (findF mkL)):=by
 refine con_flatE (E:=envH Tryz.prog gl0 (bsH bsQ) [(229,tabC mkL)] noLp 0) (glOk st) (envH_ok (bsH_ok hx) fun x h=>?_) Tryz.func163 (by kernel_rfl) (by kernel_rfl) (hx 163 rfl) (fun _ _ _ h=>nomatch h) fun args k hk=>?_
 ·simp only [List.mem_cons,List.not_mem_nil,or_false] at h;subst h;exact mksC_ok hx
 unfold markC at hk
 split at hk<;>first | (cases hk; done) | skip
 rename_i v;exact ⟨[kv .i32 v],_,.self .nil,v_clo _,hk,cm_true v⟩
theorem cww_tree (Q:(Nat->Int)->Int->Nat->Nat->Nat) (M:Int->Bool) (v:Int) (k:DV->Option Unit):bodyD Tryz.prog (envH Tryz.prog gl0 (bsH Q) [(163,markC M),(165,tabC wdL)] noLp 0) Tryz.f110 [kv .i32 v] [] (fun d _=>k d) =
  bif decide (v<32) then k (iv (-1:Int)) else bif decide (v >= 127) then bif decide (v<=159) then k (iv (-1:Int)) else bif M v then k (iv 0) else bif holds ((Nat.le 0 14/\Nat.le 14 14/\Nat.le 14 1000)/\∃ ids,WkP (LInv.m (bsI Q)) ids [kv .i32 v,.po 1 0 0,iv 0,iv 14] [some ⟨2,.tab 14 fun a a_1=>kv .i32 ((pr (tabL wdL) (tabH wdL) a a_1))⟩,some ⟨1,.lst [[.os 0 0 14]]⟩] [kv .i32 v,.po 1 0 0,iv 0,iv 14] [some ⟨2,.tab 14 fun a a_1=>kv .i32 ((pr (fun i=>numD (kv .i32 ((pr (tabL wdL) (tabH wdL) i 0)))) (fun i=>numD (kv .i32 ((pr (tabL wdL) (tabH wdL) i 1)))) a a_1))⟩,some ⟨1,.lst [[.os 0 0 14]]⟩])
  then bif decide ((↑(Q (fun i=>numD (kv .i32 ((pr (tabL wdL) (tabH wdL) i 1)))) v 0 14):Int)<14) then bif decide ((↑(Q (fun i=>numD (kv .i32 ((pr (tabL wdL) (tabH wdL) i 1)))) v 0 14):Int)<14)
  then bif decide (0+Int.toNat (↑(Q (fun i=>numD (kv .i32 ((pr (tabL wdL) (tabH wdL) i 1)))) v 0 14):Int)+0<14) then bif decide (v >= pr (fun i=>numD (kv .i32 ((pr (tabL wdL) (tabH wdL) i 0)))) (fun i=>numD (kv .i32 ((pr (tabL wdL) (tabH wdL) i 1)))) (0+Int.toNat (↑(Q (fun i=>numD (kv .i32 ((pr (tabL wdL) (tabH wdL) i 1)))) v 0 14):Int)+0) 0)
  then k (iv 2) else k (iv 1) else none else none else k (iv 1) else none else bif M v then k (iv 0) else bif holds ((Nat.le 0 14/\Nat.le 14 14/\Nat.le 14 1000)/\∃ ids,WkP (LInv.m (bsI Q)) ids [kv .i32 v,.po 1 0 0,iv 0,iv 14] [some ⟨2,.tab 14 fun a a_1=>kv .i32 ((pr (tabL wdL) (tabH wdL) a a_1))⟩,some ⟨1,.lst [[.os 0 0 14]]⟩] [kv .i32 v,.po 1 0 0,iv 0,iv 14] [some ⟨2,.tab 14 fun a a_1=>kv .i32 ((pr (fun i=>numD (kv .i32 ((pr (tabL wdL) (tabH wdL) i 0)))) (fun i=>numD (kv .i32 ((pr (tabL wdL) (tabH wdL) i 1)))) a a_1))⟩,some ⟨1,.lst [[.os 0 0 14]]⟩])
  then bif decide ((↑(Q (fun i=>numD (kv .i32 ((pr (tabL wdL) (tabH wdL) i 1)))) v 0 14):Int)<14) then bif decide ((↑(Q (fun i=>numD (kv .i32 ((pr (tabL wdL) (tabH wdL) i 1)))) v 0 14):Int)<14)
  then bif decide (0+Int.toNat (↑(Q (fun i=>numD (kv .i32 ((pr (tabL wdL) (tabH wdL) i 1)))) v 0 14):Int)+0<14) then bif decide (v >= pr (fun i=>numD (kv .i32 ((pr (tabL wdL) (tabH wdL) i 0)))) (fun i=>numD (kv .i32 ((pr (tabL wdL) (tabH wdL) i 1)))) (0+Int.toNat (↑(Q (fun i=>numD (kv .i32 ((pr (tabL wdL) (tabH wdL) i 1)))) v 0 14):Int)+0) 0)
  then k (iv 2) else k (iv 1) else none else none else k (iv 1) else none:=by
 kernel_rfl
def cwF (v:Int):Int:=bif decide (v<32) then -1 else bif decide (v >= 127)&&decide (v<=159) then -1 else bif findF mkL v then 0 else bif findF wdL v then 2 else 1
theorem cww_true (v:Int):bodyD Tryz.prog (envH Tryz.prog gl0 (bsH bsQ) [(163,markC (findF mkL)),(165,tabC wdL)] noLp 0) Tryz.f110 [kv .i32 v] [] (fun d _=>isD (iv (cwF v)) d)=some ():=by
 refine (cww_tree bsQ (findF mkL) v _).trans ?_
 refine dS (fun a=>isD_of ?_) fun a=>dS (fun b=>dS (fun c=>isD_of ?_) fun c=>?_) fun b=>?_
 ·unfold cwF; rw [decide_eq_true a]; rfl
 ·unfold cwF; rw [decide_eq_false a,decide_eq_true b,decide_eq_true c]; rfl
 all_goals
  have hw:cwF v=bif findF mkL v then 0 else bif findF wdL v then 2 else 1:=by
   unfold cwF;rw [decide_eq_false a]
   first | rw [decide_eq_true b,decide_eq_false c]; rfl | rw [decide_eq_false b]; rfl
  rw [hw]
  refine cS (fun h=>isD_of ?_) fun h=>hT ⟨⟨Nat.zero_le _,Nat.le_refl _,by show 14<=1000; decide⟩,[],wkT (.cons (.v _) (.cons (.po rfl) (.cons (.v _) (.cons (.v _) .nil))))⟩ ?_
  ·rw [h]; rfl
  rw [h,cond_false];show (bif decide (((bsQ (tabH wdL) v 0 14:Nat):Int)<14) then _ else _)=some ();unfold findF
  refine dS (fun h=>?_) fun h=>isD_of ?_
  ·have h':bsQ (tabH wdL) v 0 wdL.length<wdL.length:=by
    have h:((bsQ (tabH wdL) v 0 14:Nat):Int)<14:=h;show bsQ (tabH wdL) v 0 14<14;omega
   have e:0+(((bsQ (tabH wdL) v 0 14:Nat):Int)).toNat+0=bsQ (tabH wdL) v 0 14:=by omega
   refine dT h (dT ?_ ?_)
   ·show 0+(((bsQ (tabH wdL) v 0 14:Nat):Int)).toNat+0<14
    rw [e]; exact h'
   ·rw [decide_eq_true h',cond_true];show (bif decide (v >= tabL wdL (0+(((bsQ (tabH wdL) v 0 14:Nat):Int)).toNat+0)) then _ else _)=some ();rw [e]
    refine dS (fun q=>isD_of ?_) fun q=>isD_of ?_
    ·rw [show decide (v >= tabL wdL (bsQ (tabH wdL) v 0 wdL.length))=true from decide_eq_true q]; rfl
    ·rw [show decide (v >= tabL wdL (bsQ (tabH wdL) v 0 wdL.length))=false from decide_eq_false q]; rfl
  ·have h':¬ bsQ (tabH wdL) v 0 wdL.length<wdL.length:=by
    have h:¬ ((bsQ (tabH wdL) v 0 14:Nat):Int)<14:=h;show ¬ bsQ (tabH wdL) v 0 14<14;omega
   rw [decide_eq_false h']; rfl
theorem cwwC_ok {st:AE.Stat}(hx:Hx st):ConOk Tryz.prog st 110 (widC cwF):=by
 refine con_flatE (E:=envH Tryz.prog gl0 (bsH bsQ) [(163,markC (findF mkL)),(165,tabC wdL)] noLp 0) (glOk st) (envH_ok (bsH_ok hx) fun x h=>?_) Tryz.func110 (by kernel_rfl) (by kernel_rfl) (hx 110 rfl) (fun _ _ _ h=>nomatch h) fun args k hk=>?_
 ·simp only [List.mem_cons,List.not_mem_nil,or_false] at h
  rcases h with rfl | rfl
  ·exact cmC_ok hx
  ·exact wdsC_ok hx
 unfold widC at hk
 split at hk<;>first | (cases hk; done) | skip
 rename_i v;exact ⟨[kv .i32 v],_,.self .nil,v_clo _,hk,cww_true v⟩
end Go.Proofs.YtigmkgampfbflaaGreatDoor
