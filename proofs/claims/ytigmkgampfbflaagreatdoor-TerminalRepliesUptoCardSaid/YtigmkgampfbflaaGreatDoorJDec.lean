/-
 The contracts of the reference's UTF-8 decoder: limits,value,Decode.
 Conditions: none beyond those of the contracts.
-/
import Derived.Test.YtigmkgampfbflaaGreatDoorDeLst
import Derived.Test.YtigmkgampfbflaaGreatDoorProg
import Derived.KernelRfl
import Derived.Lib.IndexMore
namespace Go.Proofs.YtigmkgampfbflaaGreatDoor
abbrev tN (i:Nat):Nat:=Int.toNat (↑i:Int)+0
open Go Go.AE Go.DE Go.RowKit
def exA (f:FuncId):Bool:=f==13||f==24||f==25||f==70||f==145||f==157||f==169||f==253||f==255
abbrev Hx (st:AE.Stat):Prop:=∀ f,exA f=false->∀ a σ,st.ext f a σ=none
def gl0:Gl:=fun _=>.any
theorem glOk (st:AE.Stat):GlOk st gl0:=⟨fun _=>.any,fun _ _ _ _ _ _=>.any _⟩
noncomputable def env (l:List (FuncId×ConF)) (lp:Nat->Option (LoopD Unit)) (n:Nat) (mg:List (Nat×List (Nat×List Nat)):=[]):Env Unit:=⟨tblD l,fun _=>true,gl0,lp,n,joins Tryz.prog gl0 mg,false⟩
noncomputable def envZ (l:List (FuncId×ConF)) (lp:Nat->Option (LoopD Unit)) (n:Nat) (mg:List (Nat×List (Nat×List Nat)):=[]):Env Unit:=⟨tblD l,fun _=>true,gl0,lp,n,joins Tryz.prog gl0 mg,true⟩
def szF (p:Int):Int :=
 bif decide (p >= 194) then (bif decide (p<=223) then 2 else bif decide (p >= 224) then (bif decide (p<=239) then 3 else bif decide (p >= 240) then (bif decide (p<=244) then 4 else 0) else 0) else bif decide (p >= 240) then (bif decide (p<=244) then 4 else 0) else 0)
 else bif decide (p >= 224) then (bif decide (p<=239) then 3 else bif decide (p >= 240) then (bif decide (p<=244) then 4 else 0) else 0) else bif decide (p >= 240) then (bif decide (p<=244) then 4 else 0) else 0
def loF (p:Int) (n:Nat):Int:=bif (n:Int)==1 then (bif p==224 then 160 else bif p==237 then 128 else bif p==240 then 144 else 128) else 128
def hiF (p:Int) (n:Nat):Int:=bif (n:Int)==1 then (bif p==224 then 191 else bif p==237 then 159 else bif p==240 then 191 else bif p==244 then 143 else 191) else 191
theorem tup_clo {l:List DV}(h:l.all isV=true):Clo (.tup l)/\Low (.tup l):=flR_clo (d:=.tup l) (List.all_eq_true.2 fun d hd=>by
 have:=List.all_eq_true.1 h d hd
 cases d<;>first | rfl | cases this)
end Go.Proofs.YtigmkgampfbflaaGreatDoor
namespace Go.Proofs.YtigmkgampfbflaaGreatDoor
open Go Go.AE Go.DE Go.RowKit
theorem W_in {x:Int}(h1:-9223372036854775808<=x) (h2:x<=9223372036854775807):IntKind.i64.wrap x=x:=by
 rw [IntKind.wrap_i64];omega
def stepV (a b:Int):Int:=IntKind.i32.wrap (IntKind.i32.wrap (IntKind.i32.wrap (a*64)+IntKind.i32.wrap b)-128)
def valR (z:Nat->Int):Nat->Nat->Int->Int
 | 0,_,a=>a
 | m+1,i,a=>valR z m (i+1) (stepV a (z i))
structure VX where
 t:Bool
 z:Nat->Int
 n:Nat
 i:Nat
 a:Int
def VX.r (x:VX):Int:=valR x.z (x.n-x.i) x.i x.a
theorem wk0 {ids:List Nat}{ds ds2:List DV}(tm:SubL (ren 0 ids) ds2 ds) (h:ids=[]):WkP 0 ids ds [] ds2 []:=by
 subst h
 exact .of (im:=[]) tm rfl trivial rfl (by decide)
def valA (z:Nat->Int) (n:Nat):Int :=
 bif (n:Int)==2 then IntKind.i32.wrap (IntKind.i32.wrap (z 0)-192) else bif (n:Int)==3 then IntKind.i32.wrap (IntKind.i32.wrap (z 0)-224) else bif (n:Int)==4 then IntKind.i32.wrap (IntKind.i32.wrap (z 0)-240) else 0
def valF (z:Nat->Int) (n:Nat):Int:=valR z (n-1) 1 (valA z n)
theorem v_clo (x:Value):Clo (.v x)/\Low (.v x):=⟨.v _,.v _⟩
end Go.Proofs.YtigmkgampfbflaaGreatDoor
namespace Go.Proofs.YtigmkgampfbflaaGreatDoor
open Go Go.AE Go.DE Go.RowKit
def dstep (s:ByteArray) (i:Nat) (o k:List Int):Nat×List Int×List Int :=
 if k=[] then (if byteAt s i<128 then (i+1,o++[IntKind.i32.wrap (byteAt s i)],[]) else if szF (byteAt s i) > 0 then (i+1,o,[byteAt s i]) else (i+1,o++[65533],[]))
 else if byteAt s i<loF (lw k 0) k.length then (i,o++[65533],[])
 else if byteAt s i > hiF (lw k 0) k.length then (i,o++[65533],[])
 else if ((k.length+1:Nat):Int)=szF (lw k 0) then (i+1,o++[valF (lw (k++[byteAt s i])) (k.length+1)],[]) else (i+1,o,k++[byteAt s i])
def decR (s:ByteArray):Nat->Nat->List Int->List Int->List Int×List Int
 | 0,_,o,k=>(o,k)
 | m+1,i,o,k=>if i<s.size then decR s m (dstep s i o k).1 (dstep s i o k).2.1 (dstep s i o k).2.2 else (o,k)
def dmeas (s:ByteArray) (i:Nat) (k:List Int):Nat:=2*(s.size-i)+(if k=[] then 0 else 1)
theorem dstep_meas {s:ByteArray}{i:Nat}(o k:List Int) (h:i<s.size):dmeas s (dstep s i o k).1 (dstep s i o k).2.2<dmeas s i k:=by
 unfold dstep dmeas
 by_cases hk:k=[]
 ·rw [if_pos hk,if_pos hk];split
  ·simp; omega
  ·split
   ·simp; omega
   ·simp; omega
 ·rw [if_neg hk,if_neg hk];split
  ·simp
  ·split
   ·simp
   ·split
    ·simp; omega
    ·simp; omega
theorem decR_fuel (s:ByteArray):∀ (m m' i:Nat) (o k:List Int),dmeas s i k<=m->dmeas s i k<=m'->decR s m i o k=decR s m' i o k
 | 0,0,i,o,k,_,_=>rfl
 | 0,m'+1,i,o,k,h,_=>by
  have:¬ i<s.size:=by unfold dmeas at h; omega
  rw [decR,decR,if_neg this]
 | m+1,0,i,o,k,_,h=>by
  have:¬ i<s.size:=by unfold dmeas at h; omega
  rw [decR,decR,if_neg this]
 | m+1,m'+1,i,o,k,h,h'=>by
  rw [decR,decR]
  by_cases hi:i<s.size
  ·rw [if_pos hi,if_pos hi];have:=dstep_meas o k hi
   exact decR_fuel s m m' _ _ _ (by omega) (by omega)
  ·rw [if_neg hi,if_neg hi]
structure DX where
 s:ByteArray
 i:Nat
 o:List Int
 k:List Int
def DX.r (x:DX):List Int×List Int:=decR x.s (dmeas x.s x.i x.k) x.i x.o x.k
theorem DX.step {s:ByteArray}{i i':Nat}{o k o' k':List Int}(h:i<s.size) (hs:dstep s i o k=(i',o',k')):DX.r ⟨s,i',o',k'⟩=DX.r ⟨s,i,o,k⟩/\dmeas s i' k'<dmeas s i k:=by
 have hm:=dstep_meas o k h;rw [hs] at hm;refine ⟨?_,hm⟩
 have h0:0<dmeas s i k:=by simp only at hm; omega
 obtain ⟨m,e⟩:∃ m,dmeas s i k=m+1:=⟨dmeas s i k-1,by omega⟩
 simp only [DX.r];rw [e,decR,if_pos h,hs]
 exact decR_fuel s _ _ _ _ _ (Nat.le_refl _) (by simp only at hm ⊢; omega)
def DX.ok (x:DX):Prop:=x.i<=x.s.size/\x.s.size<=9000000/\x.o.length+min 1 x.k.length<=x.i/\x.k.length<=x.i
end Go.Proofs.YtigmkgampfbflaaGreatDoor
namespace Go.Proofs.YtigmkgampfbflaaGreatDoor
open Go Go.AE Go.DE Go.RowKit
def decF (s:ByteArray):List Int×ByteArray:=((DX.r ⟨s,0,[],[]⟩).1,bytesS (DX.r ⟨s,0,[],[]⟩).2.length (lw (DX.r ⟨s,0,[],[]⟩).2))
end Go.Proofs.YtigmkgampfbflaaGreatDoor
namespace Go.Proofs.YtigmkgampfbflaaGreatDoor
open Go Go.AE Go.DE Go.RowKit
abbrev enc1 (v:Int):List Int:=[IntKind.u8.wrap v]
abbrev enc2 (v:Int):List Int:=[IntKind.u8.wrap (IntKind.i32.wrap (192+IntKind.i32.wrap (Int.tdiv v 64))),IntKind.u8.wrap (IntKind.i32.wrap (128+Int.tmod v 64))]
abbrev enc3 (v:Int):List Int:=[IntKind.u8.wrap (IntKind.i32.wrap (224+IntKind.i32.wrap (Int.tdiv v 4096))),IntKind.u8.wrap (IntKind.i32.wrap (128+Int.tmod (IntKind.i32.wrap (Int.tdiv v 64)) 64)),IntKind.u8.wrap (IntKind.i32.wrap (128+Int.tmod v 64))]
abbrev enc4 (v:Int):List Int:=[IntKind.u8.wrap (IntKind.i32.wrap (240+IntKind.i32.wrap (Int.tdiv v 262144))),IntKind.u8.wrap (IntKind.i32.wrap (128+Int.tmod (IntKind.i32.wrap (Int.tdiv v 4096)) 64)),IntKind.u8.wrap (IntKind.i32.wrap (128+Int.tmod (IntKind.i32.wrap (Int.tdiv v 64)) 64)),IntKind.u8.wrap (IntKind.i32.wrap (128+Int.tmod v 64))]
def enB (v:Int):List Int :=
 if v<0 then [239,191,189] else if v > 1114111 then [239,191,189] else if v >= 55296/\v<=57343 then [239,191,189]
 else if v<128 then enc1 v else if v<2048 then enc2 v else if v<65536 then enc3 v else enc4 v
def enR (z:Nat->Int):Nat->Nat->List Int->List Int
 | 0,_,b=>b
 | m+1,i,b=>enR z m (i+1) (b++enB (z i))
structure EX where
 t:Bool
 z:Nat->Int
 n:Nat
 i:Nat
 b:List Int
def EX.r (x:EX):List Int:=enR x.z (x.n-x.i) x.i x.b
def encF (z:Nat->Int) (n:Nat):ByteArray:=bytesS (enR z n 0 []).length (lw (enR z n 0 []))
end Go.Proofs.YtigmkgampfbflaaGreatDoor
namespace Go.Proofs.YtigmkgampfbflaaGreatDoor
open Go Go.AE Go.DE Go.RowKit
theorem bytes_ext {a b:ByteArray}(h:a.data.toList=b.data.toList):a=b:=by
 obtain ⟨⟨l⟩⟩:=a;obtain ⟨⟨m⟩⟩:=b
 exact congrArg (fun l=>(⟨⟨l⟩⟩:ByteArray)) h
theorem DX.next {s:ByteArray}{i:Nat}{o k:List Int}(h:DX.ok ⟨s,i,o,k⟩) (hi:i<s.size):DX.ok ⟨s,(dstep s i o k).1,(dstep s i o k).2.1,(dstep s i o k).2.2⟩:=by
 obtain ⟨h1,h2,h3,h4⟩:i<=s.size/\s.size<=9000000/\o.length+min 1 k.length<=i/\k.length<=i:=h;unfold dstep
 by_cases hk:k=[]
 ·subst hk;rw [if_pos rfl];simp only [List.length_nil] at h3;split
  ·exact ⟨hi,h2,by simp; omega,by simp⟩
  ·split
   ·exact ⟨hi,h2,by simp; omega,by simp⟩
   ·exact ⟨hi,h2,by simp; omega,by simp⟩
 ·have:0<k.length:=List.length_pos_iff.2 hk;rw [if_neg hk];split
  ·exact ⟨h1,h2,by simp; omega,by simp⟩
  ·split
   ·exact ⟨h1,h2,by simp; omega,by simp⟩
   ·split
    ·exact ⟨hi,h2,by simp; omega,by simp⟩
    ·exact ⟨hi,h2,by simp; omega,by simp; omega⟩
def validF (s:ByteArray):Bool:=bif ByteArray.toList (decF s).2==ByteArray.toList ⟨#[]⟩ then ByteArray.toList (encF (lw (decF s).1) (decF s).1.length)==ByteArray.toList s else false
theorem valid_ne {s:ByteArray}(h:validF s=true) (hs:s≠⟨#[]⟩):(decF s).1≠[]:=fun e=>by
 unfold validF at h
 cases hb:ByteArray.toList (decF s).2==ByteArray.toList ⟨#[]⟩ with
 | false=>rw [hb] at h; cases h
 | true =>
  rw [hb,cond_true,e,beq_iff_eq] at h
  have h1:ByteArray.toList (encF (lw []) ([]:List Int).length)=[]:=by kernel_rfl
  rw [h1,Lib.toList_data] at h;exact hs (bytes_ext h.symm)
end Go.Proofs.YtigmkgampfbflaaGreatDoor
namespace Go.Proofs.YtigmkgampfbflaaGreatDoor
open Go Go.AE Go.DE Go.RowKit
def pr (lo hi:Nat->Int) (i:Nat):Nat->Int
 | 0=>lo i
 | _=>hi i
def rowP (lo hi:Nat->Int):Nat->Nat->DV:=fun i f=>kv .i32 (pr lo hi i f)
structure PX where
 t:Bool
 lo:Nat->Int
 hi:Nat->Int
 n:Nat
 v:Int
 i:Nat
def inR (lo hi:Nat->Int) (v:Int):Nat->Nat->Bool
 | 0,_=>false
 | m+1,i=>if v >= pr lo hi i 0 then (if v<=pr lo hi i 1 then true else inR lo hi v m (i+1)) else inR lo hi v m (i+1)
def PX.r (x:PX):Bool:=inR x.lo x.hi x.v (x.n-x.i) x.i
theorem hF {p:Prop}{x y:Option Unit}(h:¬ p) (hy:y=some ()):(bif holds p then x else y)=some ():=by
 cases hb:holds p with
 | false=>exact hy
 | true=>exact (h (holds_eq.1 hb)).elim
def inF (lo hi:Nat->Int) (n:Nat) (v:Int):Bool:=inR lo hi v n 0
end Go.Proofs.YtigmkgampfbflaaGreatDoor
namespace Go.Proofs.YtigmkgampfbflaaGreatDoor
open Go Go.AE Go.DE Go.RowKit
def tabL (L:List (Int×Int)) (i:Nat):Int:=(L.getD i (0,0)).1
def tabH (L:List (Int×Int)) (i:Nat):Int:=(L.getD i (0,0)).2
def mkL:List (Int×Int):=[(768,879),(6832,6911),(7616,7679),(8203,8207),(8400,8447),(65024,65039),(65056,65071)]
def wdL:List (Int×Int):=[(4352,4447),(11904,12350),(12353,13311),(13312,19903),(19968,40959),(40960,42191),(44032,55203),(63744,64255),(65072,65135),(65280,65376),(65504,65510),(127744,128591),(129280,129535),(131072,262141)]
def markF (v:Int):Bool:=inF (tabL mkL) (tabH mkL) 7 v
def wideF (v:Int):Bool:=inF (tabL wdL) (tabH wdL) 14 v
noncomputable def inG (J:(Nat->Int)->(Nat->Int)->Nat->Int->Bool):ConF:=fun args k=>match args with
 | [.sl _ g 2 n,.v (.int .i32 v)]=>bif holds (n<=1000/\∀ i,i<n->g i 0=kv .i32 (numD (g i 0))/\g i 1=kv .i32 (numD (g i 1))) then k (fun _=>(bv (J (fun i=>numD (g i 0)) (fun i=>numD (g i 1)) n v),[])) else none
 | _=>none
noncomputable def tabC (L:List (Int×Int)):ConF:=fun args k=>match args with
 | []=>k (fun s=>(.os s 0 L.length,[some ⟨2,.tab L.length (rowP (tabL L) (tabH L))⟩]))
 | _=>none
theorem tab_low (L:List (Int×Int)) (s:Nat):LowR (.os s 0 L.length,[some (⟨2,.tab L.length (rowP (tabL L) (tabH L))⟩:DBlk)]):=⟨.os _ _ _,fun id blk hb i f hi hf=>by
 cases id with
 | zero =>
  obtain rfl:(⟨2,.tab L.length (rowP (tabL L) (tabH L))⟩:DBlk)=blk:=by simpa using hb
  exact .v _
 | succ id=>simp at hb⟩
noncomputable def markC (M:Int->Bool):ConF:=fun args k=>match args with
 | [.v (.int .i32 v)]=>k (fun _=>(bv (M v),[]))
 | _=>none
def widF (v:Int):Int:=bif decide (v<32) then -1 else bif decide (v >= 127)&&decide (v<=159) then -1 else bif markF v then 0 else bif wideF v then 2 else 1
noncomputable def widC (D:Int->Int):ConF:=fun args k=>match args with
 | [.v (.int .i32 v)]=>k (fun _=>(iv (D v),[]))
 | _=>none
end Go.Proofs.YtigmkgampfbflaaGreatDoor
namespace Go.Proofs.YtigmkgampfbflaaGreatDoor
open Go Go.AE Go.DE Go.RowKit
noncomputable def chC:ConF:=fun args k=>match args with
 | [.v (.string s)]=>bif decide (s.size<=9000000) then k (fun b=>(.os b 0 (decF s).1.length,[some (lstB .i32 (decF s).1)])) else none
 | _=>none
def marksF (z:Nat->Int):Nat->Nat->Bool
 | 0,_=>true
 | m+1,i=>bif markF (z i) then marksF z m (i+1) else false
structure MX where
 z:Nat->Int
 n:Nat
 i:Nat
def MX.r (x:MX):Bool:=marksF x.z (x.n-x.i) x.i
noncomputable def vaG (V:ByteArray->Bool):ConF:=fun args k=>match args with
 | [.v (.string s)]=>bif decide (s.size<=9000000) then k (fun _=>(bv (V s),[])) else none
 | _=>none
def check3 (s:ByteArray):Int :=
 bif ByteArray.toList s==ByteArray.toList ⟨#[]⟩ then 3 else bif validF s then
  bif markF (lw (decF s).1 0) then 9 else bif decide (widF (lw (decF s).1 0)<1) then 9 else
   bif marksF (lw (decF s).1) ((decF s).1.length-1) 1 then (bif decide (((decF s).1.length:Int) > 4) then 5 else 0) else 9
 else 3
end Go.Proofs.YtigmkgampfbflaaGreatDoor
namespace Go.Proofs.YtigmkgampfbflaaGreatDoor
open Go Go.AE Go.DE Go.RowKit
noncomputable def ckC (F:ByteArray->Int):ConF:=fun args k=>match args with
 | [.v (.string s)]=>bif decide (s.size<=9000000) then k (fun _=>(iv (F s),[])) else none
 | _=>none
def width3 (s:ByteArray):Int:=if check3 s=0 then widF (lw (decF s).1 0) else 0
theorem check3_ne {s:ByteArray}(h:check3 s=0):0<(decF s).1.length:=by
 unfold check3 at h
 cases h1:(ByteArray.toList s==ByteArray.toList ⟨#[]⟩) with
 | true=>rw [h1] at h; cases h
 | false =>
  cases h2:validF s with
  | false=>rw [h1,h2] at h; cases h
  | true=>exact List.length_pos_iff.2 (valid_ne h2 fun e=>by rw [e,beq_self_eq_true] at h1; cases h1)
noncomputable def cwC (F:ByteArray->Int):ConF:=fun args k=>match args with
 | [.v (.string s)]=>bif decide (s.size<=9000000) then k (fun _=>(iv (F s),[])) else none
 | _=>none
structure Row where
 n:Nat
 tx:Nat->ByteArray
 wd:Nat->Int
 fo:Nat->Int
 ba:Nat->Int
 fl:Nat->Int
def Row.cell (r:Row) (i:Nat):Nat->DV
 | 0=>sv (r.tx i)
 | 1=>iv (r.wd i)
 | 2=>iv (r.fo i)
 | 3=>iv (r.ba i)
 | _=>iv (r.fl i)
def Row.half (r:Row) (i j:Nat):Bool :=
 bif r.tx j==⟨#[]⟩ then (bif r.wd j==0 then (bif (bif r.fo j==r.fo i then (bif r.ba j==r.ba i then (bif r.fl j==r.fl i then true else false) else false) else false) then true else false) else false) else false
def c7s (r:Row) (i:Nat) (a b:Int):Int :=
 bif (r.wd i != 1)&&(r.wd i != 2) then 12 else bif check3 (r.tx i) != 0 then 3 else bif width3 (r.tx i) != r.wd i then 12 else
  bif r.wd i==1 then a else bif ((i+1:Nat):Int)==(r.n:Int) then 12 else bif r.half i (i+1) then b else 12
def c7 (r:Row):Nat->Nat->Int
 | 0,_=>0
 | m+1,i=>if i<r.n then c7s r i (c7 r m (i+1)) (c7 r m (i+2)) else 0
def Row.sized (r:Row):Prop:=r.n<=9000000/\∀ i,i<r.n->(r.tx i).size<=9000000
def qe (v:Int):Ex:=if v=0 then .exit 0 else .ret
def qo (v:Int):List DV:=if v=0 then [.any] else [iv v]
theorem q_cps {v:Int}{σ:DHeap}{k:Ex->List DV->DHeap->Option Unit}(h:(bif holds (v=0) then k (.exit 0) [.any] σ else k .ret [iv v] σ)=some ()):k (qe v) (qo v) σ=some ():=by
 rcases bif_some h with ⟨h1,h2⟩ | ⟨h1,h2⟩
 ·unfold qe qo; rw [if_pos (holds_eq.1 h1),if_pos (holds_eq.1 h1)]; exact h2
 ·have h1:¬ v=0:=fun e=>by rw [holds_eq.2 e] at h1; cases h1
  unfold qe qo; rw [if_neg h1,if_neg h1]; exact h2
def strD:DV->ByteArray
 | .v (.string s)=>s
 | _=>⟨#[]⟩
def rowOf (g:Nat->Nat->DV) (n:Nat):Row:=⟨n,fun i=>strD (g i 0),fun i=>numD (g i 1),fun i=>numD (g i 2),fun i=>numD (g i 3),fun i=>numD (g i 4)⟩
structure CX where
 t:Bool
 r:Row
 m:Nat
 i:Nat
def CX.q (x:CX):Int:=c7 x.r x.m x.i
end Go.Proofs.YtigmkgampfbflaaGreatDoor
namespace Go.Proofs.YtigmkgampfbflaaGreatDoor
open Go Go.AE Go.DE Go.RowKit
def Cv (a b:DV):Prop:=∀ C μ v,DR C μ a v->DR C μ b v
theorem Cv.rfl {a:DV}:Cv a a:=fun _ _ _ h=>h
theorem Cv.of {a b:DV}(h:a=b):Cv a b:=h ▸ Cv.rfl
theorem Cv.sl {t:Bool}{g g':Nat->Nat->DV}{k n:Nat}(h:∀ i f,i<n->f<k->Cv (g i f) (g' i f)):Cv (.sl t g k n) (.sl t g' k n):=fun C μ v hv=>by
 rcases hv.sl_inv with ⟨a,cap,w,rfl,hc,hk0,q1,q2⟩ | ⟨rfl,rfl⟩
 ·exact .sl t _ k n a cap w hc hk0 q1 fun i f hi hf=>h i f hi hf _ _ _ (q2 i f hi hf)
 ·exact .slnil t _ k
theorem Cv.agg:∀ {a b:List DV},CvL a b->Cv (.agg a) (.agg b):=fun {a b} h C μ v hv=>by
 cases hv with
 | agg _ vs h1 h2 =>
  have:=h.drl (C:=C) (μ:=μ) (vs:=vs.toList) ⟨by simpa using h1,fun i d x hd hx=>h2 i d x hd (by simpa using hx)⟩
  exact .agg _ _ (by simpa using this.1) fun i d x hd hx=>this.2 i d x hd (by simpa using hx)
def cellsOk (g:Nat->Nat->DV) (n:Nat):Prop:=n<=9000000/\∀ i,i<n->g i 0=sv (strD (g i 0))/\(strD (g i 0)).size<=9000000/\g i 1=iv (numD (g i 1))/\g i 2=iv (numD (g i 2))/\g i 3=iv (numD (g i 3))/\g i 4=iv (numD (g i 4))
theorem cellsOk.row {g:Nat->Nat->DV}{n:Nat}(h:cellsOk g n):(rowOf g n).sized:=⟨h.1,fun i hi=>(h.2 i hi).2.1⟩
theorem cellsOk.cv {g:Nat->Nat->DV}{n:Nat}(h:cellsOk g n) (t:Bool):Cv (.sl t g 5 n) (.sl t (rowOf g n).cell 5 n):=Cv.sl fun i f hi hf=>by
 obtain ⟨h0,_,h1,h2,h3,h4⟩:=h.2 i hi
 have:f=0\/f=1\/f=2\/f=3\/f=4:=by omega
 rcases this with rfl | rfl | rfl | rfl | rfl
 ·exact .of h0
 ·exact .of h1
 ·exact .of h2
 ·exact .of h3
 ·exact .of h4
theorem Row.ok {r:Row}(h:r.sized):cellsOk r.cell r.n:=⟨h.1,fun i hi=>⟨rfl,h.2 i hi,rfl,rfl,rfl,rfl⟩⟩
noncomputable def rcC (F:Row->Int):ConF:=fun args k=>match args with
 | [.sl _ g 5 n]=>bif holds (cellsOk g n) then k (fun _=>(iv (F ⟨n,fun i=>strD (g i 0),fun i=>numD (g i 1),fun i=>numD (g i 2),fun i=>numD (g i 3),fun i=>numD (g i 4)⟩),[])) else none
 | _=>none
def check7 (r:Row):Int:=bif decide ((r.n:Int)<1) then 5 else bif decide ((r.n:Int) > 132) then 5 else c7 r r.n 0
def rowsD (T:Nat->Bool) (R:Nat->Row):Nat->Nat->DV:=fun i _=>.sl (T i) (R i).cell 5 (R i).n
def g8s (w:Int) (r:Row) (a:Int):Int:=bif (r.n:Int) != w then 12 else bif check7 r != 0 then check7 r else a
def g8 (R:Nat->Row) (w:Int):Nat->Nat->Int
 | 0,_=>0
 | m+1,i=>g8s w (R i) (g8 R w m (i+1))
theorem wkS {k:Nat}{l:List DV}{ds ds2:List DV}(h:∀ d∈l,Clo d) (tm:SubL (ren 1 []) ds2 ds):WkP 1 [] ds [some ⟨k,.lst [l]⟩] ds2 [some ⟨k,.lst [l]⟩] :=
 .of (im:=[some 0]) tm rfl ⟨⟨0,_,rfl,rfl,⟨rfl,Nat.le_refl _,trivial,fun i f hi _=>.of_clo (by
  obtain rfl:i=0:=by
   have:i<1:=hi;omega
  show Clo (l.getD f .any);rw [List.getD_eq_getElem?_getD]
  cases hl:l[f]? with
  | none=>exact .any
  | some d=>exact h d (List.mem_of_getElem? hl))⟩⟩,trivial⟩ rfl (by decide)
theorem wkN {b:Option DBlk}{ds ds2:List DV}(tm:SubL (ren 1 []) ds2 ds):WkP 1 [] ds [b] ds2 [none]:=.of (im:=[]) tm rfl trivial rfl (by decide)
structure GX where
 w:Int
 h:Int
 t:Bool
 T:Nat->Bool
 R:Nat->Row
 n:Nat
 i:Nat
def GX.q (x:GX):Int:=g8 x.R x.w (x.n-x.i) x.i
def slT:DV->Bool
 | .sl t _ _ _=>t
 | _=>false
def slG:DV->Nat->Nat->DV
 | .sl _ g _ _=>g
 | _=>fun _ _=>.any
def slN:DV->Nat
 | .sl _ _ _ n=>n
 | _=>0
def rowD (d:DV):Row:=rowOf (slG d) (slN d)
def check8 (w h:Int) (R:Nat->Row) (n:Nat):Int :=
 bif decide (w >= 1)&&decide (w<=132)&&decide (h >= 1)&&decide (h<=60) then (bif (n:Int) != h then 1 else g8 R w n 0) else 2
end Go.Proofs.YtigmkgampfbflaaGreatDoor
namespace Go.Proofs.YtigmkgampfbflaaGreatDoor
open Go Go.AE Go.DE Go.RowKit
def isRow (d:DV):Prop:=d=.sl (slT d) (slG d) 5 (slN d)/\cellsOk (slG d) (slN d)
noncomputable def gcC (F:Int->Int->(Nat->Row)->Nat->Int):ConF:=fun args k=>match args with
 | [.agg [.v (.int .i64 w),.v (.int .i64 h),.sl _ G 1 n]]=>bif holds (n<=9000000/\∀ i,i<n->isRow (G i 0)) then
   k (fun _=>(iv (F w h (fun i=>⟨slN (G i 0),fun j=>strD (slG (G i 0) j 0),fun j=>numD (slG (G i 0) j 1),fun j=>numD (slG (G i 0) j 2),fun j=>numD (slG (G i 0) j 3),fun j=>numD (slG (G i 0) j 4)⟩) n),[])) else none
 | _=>none
theorem rows_cv {t:Bool}{G:Nat->Nat->DV}{n:Nat}(h:∀ i,i<n->isRow (G i 0)):Cv (.sl t G 1 n) (.sl t (rowsD (fun i=>slT (G i 0)) fun i=>rowD (G i 0)) 1 n):=Cv.sl fun i f hi hf=>by
 obtain rfl:f=0:=by omega
 obtain ⟨h1,h2⟩:=h i hi;rw [h1];exact h2.cv _
structure Tm where
 I:Nat->Int
 B:Nat->Bool
 S:Nat->ByteArray
 gT:Nat->Bool
 gR:Nat->Row
 gn:Nat
 oT:Nat->Bool
 oR:Nat->Row
 on:Nat
 tb:Nat->Bool
 tn:Nat
 bT:Nat->Bool
 bR:Nat->Row
 bn:Nat
def tabsD (z:Nat->Bool):Nat->Nat->DV:=fun i _=>bv (z i)
def Tm.cells (x:Tm):List DV :=
 [iv (x.I 0),iv (x.I 1),.sl false (rowsD x.gT x.gR) 1 x.gn,iv (x.I 3),iv (x.I 4),.sl false (rowsD x.oT x.oR) 1 x.on,
  iv (x.I 6),iv (x.I 7),bv (x.B 8),iv (x.I 9),iv (x.I 10),bv (x.B 11),iv (x.I 12),iv (x.I 13),iv (x.I 14),bv (x.B 15),kv .u8 (x.I 16),kv .u8 (x.I 17),iv (x.I 18),
  iv (x.I 19),iv (x.I 20),iv (x.I 21),bv (x.B 22),bv (x.B 23),bv (x.B 24),bv (x.B 25),bv (x.B 26),bv (x.B 27),bv (x.B 28),bv (x.B 29),kv .u8 (x.I 30),kv .u8 (x.I 31),iv (x.I 32),
  iv (x.I 33),iv (x.I 34),.sl false (tabsD x.tb) 1 x.tn,.sl false (rowsD x.bT x.bR) 1 x.bn,iv (x.I 37),sv (x.S 38),sv (x.S 39),sv (x.S 40),sv (x.S 41)]
def rowsOk (R:Nat->Row) (n:Nat):Prop:=n<=9000000/\∀ i,i<n->(R i).sized
def Tm.ok (x:Tm):Prop:=rowsOk x.gR x.gn/\rowsOk x.oR x.on/\rowsOk x.bR x.bn/\x.tn<=9000000/\(x.S 40).size<=9000000/\(x.S 41).size<=9000000
theorem Tm.clo (x:Tm):∀ d∈x.cells,Clo d:=fun d hd=>by
 simp only [Tm.cells,List.mem_cons,List.not_mem_nil,or_false] at hd
 repeat (first | (rcases hd with rfl | hd; first | exact Clo.v _ | exact Clo.sl _ _ _ _) | (subst hd; exact Clo.v _))
theorem isRow_of {T:Bool}{r:Row}(h:r.sized):isRow (.sl T r.cell 5 r.n):=⟨rfl,Row.ok h⟩
def be (b:Bool):Ex:=match b with
 | true=>.exit 0
 | false=>.ret
def bo (v:Bool) (b:Bool):List DV:=match b with
 | true=>[.any]
 | false=>[bv v]
theorem b_cps {b v:Bool}{σ:DHeap}{k:Ex->List DV->DHeap->Option Unit}(h:(bif holds (b=true) then k (.exit 0) [.any] σ else k .ret [bv v] σ)=some ()):k (be b) (bo v b) σ=some ():=by
 rcases bif_some h with ⟨h1,h2⟩ | ⟨h1,h2⟩
 ·rw [holds_eq.1 h1]; exact h2
 ·cases b with
  | true=>rw [holds_eq.2 rfl] at h1; cases h1
  | false=>exact h2
def insF (r c:Int) (p:Bool) (w h:Int):Bool:=decide (r >= 0)&&decide (r<h)&&decide (c >= 0)&&decide (c<w)&&(!p||c==IntKind.i64.wrap (w-1))
def rgtF (a b c:Int):Int:=bif decide (a < -1)||decide (a > 255)||decide (b < -1)||decide (b > 255)||decide (c<0)||decide (c > 255) then 0 else 1
def setF (a b c:Int):Bool:=(a==66||a==48)&&(b==66||b==48)&&(c==0||c==1)
noncomputable def isC (F:Int->Int->Bool->Int->Int->Bool):ConF:=fun args k=>match args with
 | [.agg [.v (.int .i64 r),.v (.int .i64 c),.v (.bool p)],.agg [.v (.int .i64 w),.v (.int .i64 h),.sl _ _ 1 _]]=>k (fun _=>(bv (F r c p w h),[]))
 | _=>none
noncomputable def seC (F:Int->Int->Int->Bool):ConF:=fun args k=>match args with
 | [.agg [.v (.int .u8 a),.v (.int .u8 b)],.v (.int .i64 c)]=>k (fun _=>(bv (F a b c),[]))
 | _=>none
end Go.Proofs.YtigmkgampfbflaaGreatDoor
namespace Go.Proofs.YtigmkgampfbflaaGreatDoor
open Go Go.AE Go.DE Go.RowKit
def longF (R:Nat->Row):Nat->Nat->Bool
 | 0,_=>true
 | m+1,i=>bif decide (((R i).n:Int) > 200) then false else longF R m (i+1)
noncomputable def gtI (x:Tm) (R:Nat->Row) (n tv ex:Nat):LInv Nat where
 pre i:=i<=n
 m:=1
 n:=112
 ps:=[1,tv]
 sd i:=[.po 0 0 0,iv (i:Int)]
 sh _:=[some ⟨42,.lst [x.cells]⟩]
 meas i:=n-i
 e i:=match longF R (n-i) i with
  | true=>.exit ex
  | false=>.ret
 qs:=[1,2]
 od i:=match longF R (n-i) i with
  | true=>[.po 0 0 0,.any]
  | false=>[.any,bv true]
 oh i:=match longF R (n-i) i with
  | true=>[some ⟨42,.lst [x.cells]⟩]
  | false=>[none]
 guess _ _:=some 0
 cps i k:=bif holds (longF R (n-i) i=true) then k (.exit ex) [.po 0 0 0,.any] [some ⟨42,.lst [x.cells]⟩] else k .ret [.any,bv true] [none]
theorem gt_cps {x:Tm}{R:Nat->Row}{n tv ex i:Nat}{k:Ex->List DV->DHeap->Option Unit}(h:(gtI x R n tv ex).cps i k=some ()):k ((gtI x R n tv ex).e i) ((gtI x R n tv ex).od i) ((gtI x R n tv ex).oh i)=some ():=by
 simp only [gtI] at h ⊢
 rcases bif_some h with ⟨h1,h2⟩ | ⟨h1,h2⟩
 ·rw [holds_eq.1 h1]; exact h2
 ·have h1:longF R (n-i) i=false:=by
   cases hb:longF R (n-i) i with
   | true=>rw [hb,holds_eq.2 rfl] at h1; cases h1
   | false=>rfl
  rw [h1]; exact h2
theorem gt_loop58 (x:Tm) (i:Nat) (K:Ex->Nat->List DV->List DV->DHeap->Option Unit):execD Tryz.prog (env [] noLp 0) (loopAt Tryz.f10 58) 500 (temps 112 [1,3] [.po 0 0 0,iv i]) [some ⟨42,.lst [x.cells]⟩] (fun e τ σ=>K e τ.length (pick [1,3] τ) (pick [1,2] τ) σ) =
  bif decide ((i:Int)<(x.bn:Int)) then bif decide ((i:Int)<(x.bn:Int)) then bif decide (tN i<x.bn) then bif decide ((↑(Row.n (x.bR (tN i))):Int) > 200) then K .ret 112 [.po 0 0 0,iv (i:Int)] [.po 0 0 0,bv true] [some ⟨42,.lst [x.cells]⟩]
  else K .normal 112 [.po 0 0 0,iv (IntKind.wrap .i64 ((i:Int)+1))] [.po 0 0 0,DV.any] [some ⟨42,.lst [x.cells]⟩] else none else none else K (.exit 0) 112 [.po 0 0 0,iv (i:Int)] [.po 0 0 0,DV.any] [some ⟨42,.lst [x.cells]⟩]:=by
 kernel_rfl
theorem gt_ls58 {st:AE.Stat}(x:Tm) (hn:x.bn<=9000000):LoopS Tryz.prog st gl0 (.loop (loopAt Tryz.f10 58)) (gtI x x.bR x.bn 3 0).g:=by
 refine (gtI x x.bR x.bn 3 0).ok (E:=env [] noLp 0) (p:=500) (tblD_env (l:=[]) fun _ h=>nomatch h) (glOk st).1 (fun _ _ _ h=>nomatch h) (fun i k h=>gt_cps h) fun i hi=>?_
 have hi:i<=x.bn:=hi;refine (gt_loop58 x i _).trans ?_;simp only [Int.toNat_natCast,Nat.add_zero]
 refine dS (fun hlt=>?_) fun hge=>?_
 ·have hlt:i<x.bn:=by omega
  have e:x.bn-i=(x.bn-(i+1))+1:=by omega
  have hW:IntKind.i64.wrap ((i:Int)+1)=((i+1:Nat):Int):=by rw [W_in (by omega) (by omega)]; omega
  rw [hW]
  have hq:longF x.bR (x.bn-i) i=bif decide (((x.bR i).n:Int) > 200) then false else longF x.bR (x.bn-(i+1)) (i+1):=by rw [e,longF]
  refine dT (by omega) (dT hlt (dS (fun h2=>?_) fun h2=>?_))
  ·rw [decide_eq_true h2,cond_true] at hq;refine LInv.ask_of ⟨rfl,?_,[],?_⟩
   ·simp only [gtI]; rw [hq]
   ·simp only [gtI]; rw [hq]; exact wkN (.cons (.any _) (.cons (.v _) .nil))
  ·rw [decide_eq_false h2,cond_false] at hq;refine LInv.ask_of ⟨rfl,i+1,⟨?_,?_,?_,hlt⟩,?_,[],wkS x.clo (.cons (.po rfl) (.cons (.v _) .nil))⟩
   ·simp only [gtI]; rw [hq]
   ·simp only [gtI]; rw [hq]
   ·simp only [gtI]; rw [hq]
   ·simp only [gtI]; omega
 ·have hr:longF x.bR (x.bn-i) i=true:=by
   have:x.bn-i=0:=by omega
   rw [this,longF]
  refine LInv.ask_of ⟨rfl,?_,[],?_⟩
  ·simp only [gtI]; rw [hr]
  ·simp only [gtI]; rw [hr]; exact wkS x.clo (.cons (.po rfl) (.cons (.any _) .nil))
theorem gt_loop122 (x:Tm) (i:Nat) (K:Ex->Nat->List DV->List DV->DHeap->Option Unit):execD Tryz.prog (env [] noLp 0) (loopAt Tryz.f10 122) 500 (temps 112 [1,4] [.po 0 0 0,iv i]) [some ⟨42,.lst [x.cells]⟩] (fun e τ σ=>K e τ.length (pick [1,4] τ) (pick [1,2] τ) σ) =
  bif decide ((i:Int)<(x.gn:Int)) then bif decide ((i:Int)<(x.gn:Int)) then bif decide (tN i<x.gn) then bif decide ((↑(Row.n (x.gR (tN i))):Int) > 200) then K .ret 112 [.po 0 0 0,iv (i:Int)] [.po 0 0 0,bv true] [some ⟨42,.lst [x.cells]⟩]
  else K .normal 112 [.po 0 0 0,iv (IntKind.wrap .i64 ((i:Int)+1))] [.po 0 0 0,DV.any] [some ⟨42,.lst [x.cells]⟩] else none else none else K (.exit 2) 112 [.po 0 0 0,iv (i:Int)] [.po 0 0 0,DV.any] [some ⟨42,.lst [x.cells]⟩]:=by
 kernel_rfl
theorem gt_ls122 {st:AE.Stat}(x:Tm) (hn:x.gn<=9000000):LoopS Tryz.prog st gl0 (.loop (loopAt Tryz.f10 122)) (gtI x x.gR x.gn 4 2).g:=by
 refine (gtI x x.gR x.gn 4 2).ok (E:=env [] noLp 0) (p:=500) (tblD_env (l:=[]) fun _ h=>nomatch h) (glOk st).1 (fun _ _ _ h=>nomatch h) (fun i k h=>gt_cps h) fun i hi=>?_
 have hi:i<=x.gn:=hi;refine (gt_loop122 x i _).trans ?_;simp only [Int.toNat_natCast,Nat.add_zero]
 refine dS (fun hlt=>?_) fun hge=>?_
 ·have hlt:i<x.gn:=by omega
  have e:x.gn-i=(x.gn-(i+1))+1:=by omega
  have hW:IntKind.i64.wrap ((i:Int)+1)=((i+1:Nat):Int):=by rw [W_in (by omega) (by omega)]; omega
  rw [hW]
  have hq:longF x.gR (x.gn-i) i=bif decide (((x.gR i).n:Int) > 200) then false else longF x.gR (x.gn-(i+1)) (i+1):=by rw [e,longF]
  refine dT (by omega) (dT hlt (dS (fun h2=>?_) fun h2=>?_))
  ·rw [decide_eq_true h2,cond_true] at hq;refine LInv.ask_of ⟨rfl,?_,[],?_⟩
   ·simp only [gtI]; rw [hq]
   ·simp only [gtI]; rw [hq]; exact wkN (.cons (.any _) (.cons (.v _) .nil))
  ·rw [decide_eq_false h2,cond_false] at hq;refine LInv.ask_of ⟨rfl,i+1,⟨?_,?_,?_,hlt⟩,?_,[],wkS x.clo (.cons (.po rfl) (.cons (.v _) .nil))⟩
   ·simp only [gtI]; rw [hq]
   ·simp only [gtI]; rw [hq]
   ·simp only [gtI]; rw [hq]
   ·simp only [gtI]; omega
 ·have hr:longF x.gR (x.gn-i) i=true:=by
   have:x.gn-i=0:=by omega
   rw [this,longF]
  refine LInv.ask_of ⟨rfl,?_,[],?_⟩
  ·simp only [gtI]; rw [hr]
  ·simp only [gtI]; rw [hr]; exact wkS x.clo (.cons (.po rfl) (.cons (.any _) .nil))
theorem gt_loop250 (x:Tm) (i:Nat) (K:Ex->Nat->List DV->List DV->DHeap->Option Unit):execD Tryz.prog (env [] noLp 0) (loopAt Tryz.f10 250) 500 (temps 112 [1,5] [.po 0 0 0,iv i]) [some ⟨42,.lst [x.cells]⟩] (fun e τ σ=>K e τ.length (pick [1,5] τ) (pick [1,2] τ) σ) =
  bif decide ((i:Int)<(x.on:Int)) then bif decide ((i:Int)<(x.on:Int)) then bif decide (tN i<x.on) then bif decide ((↑(Row.n (x.oR (tN i))):Int) > 200) then K .ret 112 [.po 0 0 0,iv (i:Int)] [.po 0 0 0,bv true] [some ⟨42,.lst [x.cells]⟩]
  else K .normal 112 [.po 0 0 0,iv (IntKind.wrap .i64 ((i:Int)+1))] [.po 0 0 0,DV.any] [some ⟨42,.lst [x.cells]⟩] else none else none else K (.exit 4) 112 [.po 0 0 0,iv (i:Int)] [.po 0 0 0,DV.any] [some ⟨42,.lst [x.cells]⟩]:=by
 kernel_rfl
theorem gt_ls250 {st:AE.Stat}(x:Tm) (hn:x.on<=9000000):LoopS Tryz.prog st gl0 (.loop (loopAt Tryz.f10 250)) (gtI x x.oR x.on 5 4).g:=by
 refine (gtI x x.oR x.on 5 4).ok (E:=env [] noLp 0) (p:=500) (tblD_env (l:=[]) fun _ h=>nomatch h) (glOk st).1 (fun _ _ _ h=>nomatch h) (fun i k h=>gt_cps h) fun i hi=>?_
 have hi:i<=x.on:=hi;refine (gt_loop250 x i _).trans ?_;simp only [Int.toNat_natCast,Nat.add_zero]
 refine dS (fun hlt=>?_) fun hge=>?_
 ·have hlt:i<x.on:=by omega
  have e:x.on-i=(x.on-(i+1))+1:=by omega
  have hW:IntKind.i64.wrap ((i:Int)+1)=((i+1:Nat):Int):=by rw [W_in (by omega) (by omega)]; omega
  rw [hW]
  have hq:longF x.oR (x.on-i) i=bif decide (((x.oR i).n:Int) > 200) then false else longF x.oR (x.on-(i+1)) (i+1):=by rw [e,longF]
  refine dT (by omega) (dT hlt (dS (fun h2=>?_) fun h2=>?_))
  ·rw [decide_eq_true h2,cond_true] at hq;refine LInv.ask_of ⟨rfl,?_,[],?_⟩
   ·simp only [gtI]; rw [hq]
   ·simp only [gtI]; rw [hq]; exact wkN (.cons (.any _) (.cons (.v _) .nil))
  ·rw [decide_eq_false h2,cond_false] at hq;refine LInv.ask_of ⟨rfl,i+1,⟨?_,?_,?_,hlt⟩,?_,[],wkS x.clo (.cons (.po rfl) (.cons (.v _) .nil))⟩
   ·simp only [gtI]; rw [hq]
   ·simp only [gtI]; rw [hq]
   ·simp only [gtI]; rw [hq]
   ·simp only [gtI]; omega
 ·have hr:longF x.oR (x.on-i) i=true:=by
   have:x.on-i=0:=by omega
   rw [this,longF]
  refine LInv.ask_of ⟨rfl,?_,[],?_⟩
  ·simp only [gtI]; rw [hr]
  ·simp only [gtI]; rw [hr]; exact wkS x.clo (.cons (.po rfl) (.cons (.any _) .nil))
theorem gt_tree (x:Tm) (k:DV->Option Unit):bodyD Tryz.prog (env [] (lpOf [(58,(gtI x x.bR x.bn 3 0).g),(122,(gtI x x.gR x.gn 4 2).g),(250,(gtI x x.oR x.on 5 4).g)]) 0) Tryz.f10 [.agg x.cells] [] (fun d _=>k d) =
  bif decide (x.I 0 > 20) then k (bv true) else bif decide (x.I 1 > 8) then k (bv true) else bif decide (x.I 3 > 20) then k (bv true) else bif decide (x.I 4 > 8) then k (bv true) else bif decide ((x.gn:Int) > 8)
  then k (bv true) else bif decide ((x.on:Int) > 8) then k (bv true) else bif decide ((x.bn:Int) > 30) then k (bv true) else bif decide ((x.tn:Int) > 200) then k (bv true) else bif decide ((↑(ByteArray.size (x.S 40)):Int) > 300)
  then k (bv true) else bif decide ((↑(ByteArray.size (x.S 41)):Int) > 1100) then k (bv true) else bif holds (Nat.le 0 x.bn/\∃ ids,WkP (LInv.m (gtI x x.bR x.bn 3 0)) ids [.po 0 0 0,iv 0] [some ⟨42,.lst [x.cells]⟩] [.po 0 0 0,iv 0] [some ⟨42,.lst [x.cells]⟩])
  then bif holds (longF x.bR (x.bn-0) 0=true) then bif holds (Nat.le 0 x.gn/\∃ ids,WkP (LInv.m (gtI x x.gR x.gn 4 2)) ids [.po 0 0 0,iv 0] [some ⟨42,.lst [x.cells]⟩] [.po 0 0 0,iv 0] [some ⟨42,.lst [x.cells]⟩])
  then bif holds (longF x.gR (x.gn-0) 0=true) then bif holds (Nat.le 0 x.on/\∃ ids,WkP (LInv.m (gtI x x.oR x.on 5 4)) ids [.po 0 0 0,iv 0] [some ⟨42,.lst [x.cells]⟩] [.po 0 0 0,iv 0] [some ⟨42,.lst [x.cells]⟩])
  then bif holds (longF x.oR (x.on-0) 0=true) then k (bv false) else k (bv true) else none else k (bv true) else none else k (bv true) else none:=by
 kernel_rfl
def greatF (x:Tm):Bool :=
 bif decide (x.I 0 > 20) then true else
 bif decide (x.I 1 > 8) then true else
 bif decide (x.I 3 > 20) then true else
 bif decide (x.I 4 > 8) then true else
 bif decide ((x.gn:Int) > 8) then true else
 bif decide ((x.on:Int) > 8) then true else
 bif decide ((x.bn:Int) > 30) then true else
 bif decide ((x.tn:Int) > 200) then true else
 bif decide (((x.S 40).size:Int) > 300) then true else
 bif decide (((x.S 41).size:Int) > 1100) then true else
 bif longF x.bR x.bn 0 then (bif longF x.gR x.gn 0 then (bif longF x.oR x.on 0 then false else true) else true) else true
theorem gt_true (x:Tm):bodyD Tryz.prog (env [] (lpOf [(58,(gtI x x.bR x.bn 3 0).g),(122,(gtI x x.gR x.gn 4 2).g),(250,(gtI x x.oR x.on 5 4).g)]) 0) Tryz.f10 [.agg x.cells] [] (fun d _=>isD (bv (greatF x)) d)=some ():=by
 refine (gt_tree x _).trans ?_;unfold greatF
 refine dS (fun h=>isD_of ?_) fun h0=>?_
 ·rw [decide_eq_true h]; rfl
 rw [decide_eq_false h0,cond_false]
 refine dS (fun h=>isD_of ?_) fun h1=>?_
 ·rw [decide_eq_true h]; rfl
 rw [decide_eq_false h1,cond_false]
 refine dS (fun h=>isD_of ?_) fun h2=>?_
 ·rw [decide_eq_true h]; rfl
 rw [decide_eq_false h2,cond_false]
 refine dS (fun h=>isD_of ?_) fun h3=>?_
 ·rw [decide_eq_true h]; rfl
 rw [decide_eq_false h3,cond_false]
 refine dS (fun h=>isD_of ?_) fun h4=>?_
 ·rw [decide_eq_true h]; rfl
 rw [decide_eq_false h4,cond_false]
 refine dS (fun h=>isD_of ?_) fun h5=>?_
 ·rw [decide_eq_true h]; rfl
 rw [decide_eq_false h5,cond_false]
 refine dS (fun h=>isD_of ?_) fun h6=>?_
 ·rw [decide_eq_true h]; rfl
 rw [decide_eq_false h6,cond_false]
 refine dS (fun h=>isD_of ?_) fun h7=>?_
 ·rw [decide_eq_true h]; rfl
 rw [decide_eq_false h7,cond_false]
 refine dS (fun h=>isD_of ?_) fun h8=>?_
 ·rw [decide_eq_true h]; rfl
 rw [decide_eq_false h8,cond_false]
 refine dS (fun h=>isD_of ?_) fun h9=>?_
 ·rw [decide_eq_true h]; rfl
 rw [decide_eq_false h9,cond_false];refine hT ⟨Nat.zero_le _,[],wkS x.clo (.cons (.po rfl) (.cons (.v _) .nil))⟩ ?_
 cases hb:longF x.bR x.bn 0 with
 | false=>exact hF (by decide) (isD_of rfl)
 | true =>
 refine hT rfl ?_;refine hT ⟨Nat.zero_le _,[],wkS x.clo (.cons (.po rfl) (.cons (.v _) .nil))⟩ ?_
 cases hg:longF x.gR x.gn 0 with
 | false=>exact hF (by decide) (isD_of rfl)
 | true =>
 refine hT rfl ?_;refine hT ⟨Nat.zero_le _,[],wkS x.clo (.cons (.po rfl) (.cons (.v _) .nil))⟩ ?_
 cases ho:longF x.oR x.on 0 with
 | false=>exact hF (by decide) (isD_of rfl)
 | true =>
 refine hT rfl ?_;exact isD_of rfl
noncomputable def tmC (x:Tm) (b:Bool):ConF:=fun args k=>match args with
 | [.agg l]=>bif holds (l=x.cells) then k (fun _=>(bv b,[])) else none
 | _=>none
theorem gtC_ok {st:AE.Stat}(hx:Hx st) (x:Tm) (hok:x.ok):ConOk Tryz.prog st 10 (tmC x (greatF x)):=by
 refine con_flat (mg:=[]) (l:=[]) (lp:=lpOf [(58,(gtI x x.bR x.bn 3 0).g),(122,(gtI x x.gR x.gn 4 2).g),(250,(gtI x x.oR x.on 5 4).g)]) (n:=0) (glOk st) (fun _ h=>nomatch h) Tryz.func10 (by kernel_rfl) (by kernel_rfl) (hx 10 rfl) (lp_table fun e he=>?_) fun args k hk=>?_
 ·simp only [List.mem_cons,List.not_mem_nil,or_false] at he
  rcases he with rfl | rfl | rfl
  ·exact ⟨_,by kernel_rfl,gt_ls58 x hok.2.2.1.1⟩
  ·exact ⟨_,by kernel_rfl,gt_ls122 x hok.1.1⟩
  ·exact ⟨_,by kernel_rfl,gt_ls250 x hok.2.1.1⟩
 unfold tmC at hk
 split at hk<;>first | (cases hk; done) | skip
 obtain ⟨hb,hk2⟩:=bif_none hk;obtain rfl:=holds_eq.1 hb;exact ⟨_,_,.self .nil,v_clo _,hk2,gt_true x⟩
end Go.Proofs.YtigmkgampfbflaaGreatDoor
