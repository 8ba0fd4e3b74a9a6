/-
 The contract of the reference's 'value': the character that a sequence of bytes spells.
 Conditions: none beyond those of the contracts.
-/
import Derived.Test.YtigmkgampfbflaaGreatDoorJShelf
namespace Go.Proofs.YtigmkgampfbflaaGreatDoor
open Go Go.AE Go.DE Go.RowKit
theorem W_in {x:Int}(h1:-9223372036854775808≤x) (h2:x≤9223372036854775807):IntKind.i64.wrap x=x:=by
 rw [IntKind.wrap_i64]
 omega
def stepV (a b:Int):Int:=IntKind.i32.wrap (IntKind.i32.wrap (IntKind.i32.wrap (a*64)+IntKind.i32.wrap b)-128)
def valR (z:Nat→Int):Nat→Nat→Int→Int
 | 0,_,a=>a
 | m+1,i,a=>valR z m (i+1) (stepV a (z i))
structure VX where
 t:Bool
 z:Nat→Int
 n:Nat
 i:Nat
 a:Int
def VX.r (x:VX):Int:=valR x.z (x.n-x.i) x.i x.a
def valI:LInv VX where
 pre x:=x.n≤9000000
 m:=0
 n:=44
 ps:=[0,3,4]
 sd x:=[.sl x.t (rowI .u8 x.z) 1 x.n,kv .i32 x.a,iv x.i]
 sh _:=[]
 meas x:=x.n-x.i
 e _:=.exit 1
 qs:=[3]
 od x:=[kv .i32 x.r]
 oh _:=[]
 guess ds _:=match ds with
  | [.sl t g 1 n,.v (.int _ a),_]=>some ⟨t,fun i=>numD (g i 0),n,1,a⟩
  | _=>none
 cps x k:=k (.exit 1) [kv .i32 x.r] []
theorem val_loop (t:Bool) (z:Nat→Int) (n i:Nat) (a:Int) (K:Ex→Nat→List DV→List DV→DHeap→Option Unit):execD Tryz.prog (env [] noLp 0) (loopAt Tryz.f149 122) 500 (temps 44 [0,3,4] [.sl t (rowI .u8 z) 1 n,kv .i32 a,iv i]) [] (fun e τ σ=>K e τ.length (pick [0,3,4] τ) (pick [3] τ) σ) =
  bif decide ((i:Int)<(n:Int)) then bif decide ((i:Int)<(n:Int)) then bif decide (tN i<n) then K .normal 44 [.sl t (fun a a_1=>kv .u8 ((z a))) 1 n,kv .i32 ((IntKind.wrap .i32 (IntKind.wrap .i32 (IntKind.wrap .i32 (a*64)+IntKind.wrap .i32 (z (tN i)))-128))),iv (IntKind.wrap .i64 ((i:Int)+1))] [kv .i32 ((IntKind.wrap .i32 (IntKind.wrap .i32 (IntKind.wrap .i32 (a*64)+IntKind.wrap .i32 (z (tN i)))-128)))] []
  else none else none else K (.exit 1) 44 [.sl t (fun a a_1=>kv .u8 ((z a))) 1 n,kv .i32 a,iv (i:Int)] [kv .i32 a] []:=by
 kernel_rfl
theorem wk0 {ids:List Nat}{ds ds2:List DV}(tm:SubL (ren 0 ids) ds2 ds) (h:ids=[]):WkP 0 ids ds [] ds2 []:=by
 subst h
 exact .of (im:=[]) tm rfl trivial rfl (by decide)
theorem val_ls {st:AE.Stat}:LoopS Tryz.prog st gl0 (.loop (loopAt Tryz.f149 122)) valI.g:=by
 refine valI.ok (E:=env [] noLp 0) (p:=500) (tblD_env (l:=[]) (fun _ h=>nomatch h)) (glOk st).1 (fun _ _ _ h=>nomatch h) (fun x k h=>h) fun x hx=>?_
 obtain ⟨t,z,n,i,a⟩:=x
 have hn:n≤9000000:=hx
 refine (val_loop t z n i a _).trans ?_
 simp only [Int.toNat_natCast,Nat.add_zero]
 refine dS (fun h=>?_) fun h=>?_
 ·have h:i<n:=by omega
  refine dT (by omega) (dT (by omega) (LInv.ask_of ⟨rfl,⟨t,z,n,i+1,stepV a (z i)⟩,⟨rfl,?_,rfl,hn⟩,?_,[],wk0 ?_ rfl⟩))
  ·have:n-i=(n-(i+1))+1:=by omega
   simp only [valI,VX.r,this,valR]
  ·simp only [valI]; omega
  ·rw [W_in (by omega) (by omega)]
   exact .cons (.sl _ _ _ _) (.cons (.v _) (.cons (.eq (by simp)) .nil))
 ·have h:n-i=0:=by omega
  refine LInv.ask_of ⟨rfl,rfl,[],wk0 ?_ rfl⟩
  simp only [valI,VX.r,h,valR]
  exact .cons (.v _) .nil
theorem val_tree (t:Bool) (z:Nat→Int) (n:Nat) (k:DV→Option Unit):bodyD Tryz.prog (env [] (lpOf [(122,valI.g)]) 0) Tryz.f149 [.sl t (rowI .u8 z) 1 n] [] (fun d _=>k d) =
  bif (n:Int)==2 then bif decide (0<(n:Int)) then bif decide (0<n) then bif holds (Nat.le n 9000000∧∃ ids,WkP 0 ids [.sl t (fun a a_1=>kv .u8 ((z a))) 1 n,kv .i32 ((IntKind.wrap .i32 (IntKind.wrap .i32 (z 0)-192))),iv 1] [] [.sl t (fun a a_1=>kv .u8 (((fun i=>numD (kv .u8 ((z i)))) a))) 1 n,kv .i32 ((IntKind.wrap .i32 (IntKind.wrap .i32 (z 0)-192))),iv 1] (LInv.sh valI { t:=t,z:=fun i=>numD (kv .u8 ((z i))),n:=n,i:=1,a:=IntKind.wrap .i32 (IntKind.wrap .i32 (z 0)-192) }))
  then k (kv .i32 ((VX.r { t:=t,z:=fun i=>numD (kv .u8 ((z i))),n:=n,i:=1,a:=IntKind.wrap .i32 (IntKind.wrap .i32 (z 0)-192) }))) else none else none else none else bif (n:Int)==3
  then bif decide (0<(n:Int)) then bif decide (0<n) then bif holds (Nat.le n 9000000∧∃ ids,WkP 0 ids [.sl t (fun a a_1=>kv .u8 ((z a))) 1 n,kv .i32 ((IntKind.wrap .i32 (IntKind.wrap .i32 (z 0)-224))),iv 1] [] [.sl t (fun a a_1=>kv .u8 (((fun i=>numD (kv .u8 ((z i)))) a))) 1 n,kv .i32 ((IntKind.wrap .i32 (IntKind.wrap .i32 (z 0)-224))),iv 1] (LInv.sh valI { t:=t,z:=fun i=>numD (kv .u8 ((z i))),n:=n,i:=1,a:=IntKind.wrap .i32 (IntKind.wrap .i32 (z 0)-224) }))
  then k (kv .i32 ((VX.r { t:=t,z:=fun i=>numD (kv .u8 ((z i))),n:=n,i:=1,a:=IntKind.wrap .i32 (IntKind.wrap .i32 (z 0)-224) }))) else none else none else none else bif (n:Int)==4
  then bif decide (0<(n:Int)) then bif decide (0<n) then bif holds (Nat.le n 9000000∧∃ ids,WkP 0 ids [.sl t (fun a a_1=>kv .u8 ((z a))) 1 n,kv .i32 ((IntKind.wrap .i32 (IntKind.wrap .i32 (z 0)-240))),iv 1] [] [.sl t (fun a a_1=>kv .u8 (((fun i=>numD (kv .u8 ((z i)))) a))) 1 n,kv .i32 ((IntKind.wrap .i32 (IntKind.wrap .i32 (z 0)-240))),iv 1] (LInv.sh valI { t:=t,z:=fun i=>numD (kv .u8 ((z i))),n:=n,i:=1,a:=IntKind.wrap .i32 (IntKind.wrap .i32 (z 0)-240) }))
  then k (kv .i32 ((VX.r { t:=t,z:=fun i=>numD (kv .u8 ((z i))),n:=n,i:=1,a:=IntKind.wrap .i32 (IntKind.wrap .i32 (z 0)-240) }))) else none else none else none else bif holds (Nat.le n 9000000∧∃ ids,WkP 0 ids [.sl t (fun a a_1=>kv .u8 ((z a))) 1 n,kv .i32 0,iv 1] [] [.sl t (fun a a_1=>kv .u8 (((fun i=>numD (kv .u8 ((z i)))) a))) 1 n,kv .i32 0,iv 1] (LInv.sh valI { t:=t,z:=fun i=>numD (kv .u8 ((z i))),n:=n,i:=1,a:=0 }))
  then k (kv .i32 ((VX.r { t:=t,z:=fun i=>numD (kv .u8 ((z i))),n:=n,i:=1,a:=0 }))) else none:=by
 kernel_rfl
def valA (z:Nat→Int) (n:Nat):Int :=
 bif (n:Int)==2 then IntKind.i32.wrap (IntKind.i32.wrap (z 0)-192) else bif (n:Int)==3 then IntKind.i32.wrap (IntKind.i32.wrap (z 0)-224) else bif (n:Int)==4 then IntKind.i32.wrap (IntKind.i32.wrap (z 0)-240) else 0
def valF (z:Nat→Int) (n:Nat):Int:=valR z (n-1) 1 (valA z n)
theorem val_true (t:Bool) (z:Nat→Int) (n:Nat) (hn:n≤9000000):bodyD Tryz.prog (env [] (lpOf [(122,valI.g)]) 0) Tryz.f149 [.sl t (rowI .u8 z) 1 n] [] (fun d _=>isD (kv .i32 (valF z n)) d)=some ():=by
 refine (val_tree t z n _).trans ?_
 unfold valF valA
 refine cS (fun h=>?_) fun h=>cS (fun h2=>?_) fun h2=>cS (fun h3=>?_) fun h3=>?_
 ·have hn2:(n:Int)=2:=beq_iff_eq.1 h
  refine dT (by omega) (dT (by omega) (hT ⟨hn,[],wk0 (.cons (.sl _ _ _ _) (.cons (.v _) (.cons (.v _) .nil))) rfl⟩ (isD_of ?_)))
  rw [h,cond_true]
  rfl
 ·have hn2:(n:Int)=3:=beq_iff_eq.1 h2
  refine dT (by omega) (dT (by omega) (hT ⟨hn,[],wk0 (.cons (.sl _ _ _ _) (.cons (.v _) (.cons (.v _) .nil))) rfl⟩ (isD_of ?_)))
  rw [h,h2,cond_true,cond_false]
  rfl
 ·have hn2:(n:Int)=4:=beq_iff_eq.1 h3
  refine dT (by omega) (dT (by omega) (hT ⟨hn,[],wk0 (.cons (.sl _ _ _ _) (.cons (.v _) (.cons (.v _) .nil))) rfl⟩ (isD_of ?_)))
  rw [h,h2,h3,cond_true,cond_false,cond_false]
  rfl
 ·refine hT ⟨hn,[],wk0 (.cons (.sl _ _ _ _) (.cons (.v _) (.cons (.v _) .nil))) rfl⟩ (isD_of ?_)
  rw [h,h2,h3,cond_false,cond_false,cond_false]
  rfl
noncomputable def valC:ConF:=fun args k=>match args with
 | [d]=>rowK .u8 d fun z n=>bif decide (n≤9000000) then k (fun _=>(kv .i32 (valF z n),[])) else none
 | _=>none
theorem v_clo (x:Value):Clo (.v x)∧Low (.v x):=⟨.v _,.v _⟩
theorem valC_ok {st:AE.Stat}(hx:∀ a σ,st.ext 149 a σ=none):ConOk Tryz.prog st 149 valC:=by
 refine con_flat (mg:=[]) (l:=[]) (lp:=lpOf [(122,valI.g)]) (n:=0) (glOk st) (fun _ h=>nomatch h) Tryz.func149 (by kernel_rfl) (by kernel_rfl) hx (lp_one (by kernel_rfl) val_ls) fun args k hk=>?_
 unfold valC at hk
 split at hk<;>first | (cases hk; done) | skip
 rename_i d
 obtain ⟨t,z,n,hk,hc⟩:=rowK_some hk
 obtain ⟨hn,hk⟩:=dec_none hk
 exact ⟨[.sl t (rowI .u8 z) 1 n],_,.cons hc .nil,v_clo _,hk,val_true t z n hn⟩
end Go.Proofs.YtigmkgampfbflaaGreatDoor
namespace Go.Proofs.YtigmkgampfbflaaGreatDoor
open Go Go.AE Go.DE Go.RowKit
noncomputable abbrev dcL:List (FuncId×ConF):=[(148,limC),(149,valC)]
def dstep (s:ByteArray) (i:Nat) (o k:List Int):Nat×List Int×List Int :=
 if k=[] then (if byteAt s i<128 then (i+1,o++[IntKind.i32.wrap (byteAt s i)],[]) else if szF (byteAt s i) > 0 then (i+1,o,[byteAt s i]) else (i+1,o++[65533],[]))
 else if byteAt s i<loF (lw k 0) k.length then (i,o++[65533],[])
 else if byteAt s i > hiF (lw k 0) k.length then (i,o++[65533],[])
 else if ((k.length+1:Nat):Int)=szF (lw k 0) then (i+1,o++[valF (lw (k++[byteAt s i])) (k.length+1)],[]) else (i+1,o,k++[byteAt s i])
def decR (s:ByteArray):Nat→Nat→List Int→List Int→List Int×List Int
 | 0,_,o,k=>(o,k)
 | m+1,i,o,k=>if i<s.size then decR s m (dstep s i o k).1 (dstep s i o k).2.1 (dstep s i o k).2.2 else (o,k)
def dmeas (s:ByteArray) (i:Nat) (k:List Int):Nat:=2*(s.size-i)+(if k=[] then 0 else 1)
theorem dstep_meas {s:ByteArray}{i:Nat}(o k:List Int) (h:i<s.size):dmeas s (dstep s i o k).1 (dstep s i o k).2.2<dmeas s i k:=by
 unfold dstep dmeas
 by_cases hk:k=[]
 ·rw [if_pos hk,if_pos hk]
  split
  ·simp; omega
  ·split
   ·simp; omega
   ·simp; omega
 ·rw [if_neg hk,if_neg hk]
  split
  ·simp
  ·split
   ·simp
   ·split
    ·simp; omega
    ·simp; omega
theorem decR_fuel (s:ByteArray):∀ (m m' i:Nat) (o k:List Int),dmeas s i k≤m→dmeas s i k≤m'→decR s m i o k=decR s m' i o k
 | 0,0,i,o,k,_,_=>rfl
 | 0,m'+1,i,o,k,h,_=>by
  have:¬ i<s.size:=by unfold dmeas at h; omega
  rw [decR,decR,if_neg this]
 | m+1,0,i,o,k,_,h=>by
  have:¬ i<s.size:=by unfold dmeas at h; omega
  rw [decR,decR,if_neg this]
 | m+1,m'+1,i,o,k,h,h'=>by
  rw [decR,decR]
  by_cases hi:i<s.size
  ·rw [if_pos hi,if_pos hi]
   have:=dstep_meas o k hi
   exact decR_fuel s m m' _ _ _ (by omega) (by omega)
  ·rw [if_neg hi,if_neg hi]
structure DX where
 s:ByteArray
 i:Nat
 o:List Int
 k:List Int
def DX.r (x:DX):List Int×List Int:=decR x.s (dmeas x.s x.i x.k) x.i x.o x.k
theorem DX.step {s:ByteArray}{i i':Nat}{o k o' k':List Int}(h:i<s.size) (hs:dstep s i o k=(i',o',k')):DX.r ⟨s,i',o',k'⟩=DX.r ⟨s,i,o,k⟩∧dmeas s i' k'<dmeas s i k:=by
 have hm:=dstep_meas o k h
 rw [hs] at hm
 refine ⟨?_,hm⟩
 have h0:0<dmeas s i k:=by simp only at hm; omega
 obtain ⟨m,e⟩:∃ m,dmeas s i k=m+1:=⟨dmeas s i k-1,by omega⟩
 simp only [DX.r]
 rw [e,decR,if_pos h,hs]
 exact decR_fuel s _ _ _ _ _ (Nat.le_refl _) (by simp only at hm ⊢; omega)
def DX.ok (x:DX):Prop:=x.i≤x.s.size∧x.s.size≤9000000∧x.o.length+min 1 x.k.length≤x.i∧x.k.length≤x.i
def dcI:LInv DX where
 pre:=DX.ok
 m:=2
 n:=96
 ps:=[6,7,8,9]
 sd x:=[sv x.s,.os 2 0 x.o.length,.os 3 0 x.k.length,iv x.i]
 sh x:=[none,none,some (lstB .i32 x.o),some (lstB .u8 x.k)]
 meas x:=dmeas x.s x.i x.k
 e _:=.exit 0
 qs:=[7,8]
 od x:=[.os 2 0 x.r.1.length,.os 3 0 x.r.2.length]
 oh x:=[none,none,some (lstB .i32 x.r.1),some (lstB .u8 x.r.2)]
 guess ds _:=match ds with
  | [.v (.string s),_,_,_]=>some ⟨s,0,[],[]⟩
  | _=>none
 cps x k:=k (.exit 0) [.os 2 0 x.r.1.length,.os 3 0 x.r.2.length] [none,none,some (lstB .i32 x.r.1),some (lstB .u8 x.r.2)]
theorem dcd_loop (s:ByteArray) (no nk i:Nat) (wo wk:Nat→Int) (K:Ex→Nat→List DV→List DV→DHeap→Option Unit):execD Tryz.prog (env dcL noLp 0) (loopAt Tryz.f89 250) 500 (temps 96 [6,7,8,9] [sv s,.os 2 0 no,.os 3 0 nk,iv i]) [none,none,some ⟨1,.tab no (rowI .i32 wo)⟩,some ⟨1,.tab nk (rowI .u8 wk)⟩] (fun e τ σ=>K e τ.length (pick [6,7,8,9] τ) (pick [7,8] τ) σ) =
  bif decide ((i:Int)<(↑(ByteArray.size s):Int)) then bif decide ((i:Int)<(↑(ByteArray.size s):Int)) then bif (nk:Int)==0 then bif holds (∀ (i_1:Nat),i_1<1→(fun j f=>lend1 (DC.get (DBlk.c (blockOf 1 [kv .u8 ((byteAt s (Int.toNat (i:Int))))])) (0+j) f)) i_1 0=kv .u8 ((numD ((fun j f=>lend1 (DC.get (DBlk.c (blockOf 1 [kv .u8 ((byteAt s (Int.toNat (i:Int))))])) (0+j) f)) i_1 0))))
  then bif decide (byteAt s (Int.toNat (i:Int))<128) then bif decide (no≤DC.n (.tab no (rowI IntKind.i32 wo))) then bif decide ((no+1)*(4:Nat)≤140737488355328) then K .normal 96 [sv s,.os 6 0 (no+1),.os 3 0 nk,iv (IntKind.wrap .i64 ((i:Int)+1))] [.os 6 0 (no+1),.os 3 0 nk] [none,none,none,some ⟨1,.tab nk fun a a_1=>kv .u8 ((wk a))⟩,some ⟨1,.lst [[kv .u8 ((byteAt s (Int.toNat (i:Int))))]]⟩,some ⟨1,.lst [[kv .i32 ((IntKind.wrap .i32 (byteAt s (Int.toNat (i:Int)))))]]⟩,some ⟨1,.app (.pre (.tab no fun a a_1=>kv .i32 ((wo a))) no) (.lst [[kv .i32 ((IntKind.wrap .i32 (byteAt s (Int.toNat (i:Int)))))]])⟩]
  else none else none else bif decide (szF ((fun i_1=>numD ((fun j f=>lend1 (DC.get (DBlk.c (blockOf 1 [kv .u8 ((byteAt s (Int.toNat (i:Int))))])) (0+j) f)) i_1 0)) 0) > 0) then bif decide (nk≤DC.n (.tab nk (rowI IntKind.u8 wk)))
  then bif decide ((nk+1)*(1:Nat)≤140737488355328) then K .normal 96 [sv s,.os 2 0 no,.os 6 0 (nk+1),iv (IntKind.wrap .i64 ((i:Int)+1))] [.os 2 0 no,.os 6 0 (nk+1)] [none,none,some ⟨1,.tab no fun a a_1=>kv .i32 ((wo a))⟩,none,some ⟨1,.lst [[kv .u8 ((byteAt s (Int.toNat (i:Int))))]]⟩,some ⟨1,.lst [[kv .u8 ((byteAt s (Int.toNat (i:Int))))]]⟩,some ⟨1,.app (.pre (.tab nk fun a a_1=>kv .u8 ((wk a))) nk) (.lst [[kv .u8 ((byteAt s (Int.toNat (i:Int))))]])⟩]
  else none else none else bif decide (no≤DC.n (.tab no (rowI IntKind.i32 wo))) then bif decide ((no+1)*(4:Nat)≤140737488355328) then K .normal 96 [sv s,.os 6 0 (no+1),.os 3 0 nk,iv (IntKind.wrap .i64 ((i:Int)+1))] [.os 6 0 (no+1),.os 3 0 nk] [none,none,none,some ⟨1,.tab nk fun a a_1=>kv .u8 ((wk a))⟩,some ⟨1,.lst [[kv .u8 ((byteAt s (Int.toNat (i:Int))))]]⟩,some ⟨1,.lst [[kv .i32 65533]]⟩,some ⟨1,.app (.pre (.tab no fun a a_1=>kv .i32 ((wo a))) no) (.lst [[kv .i32 65533]])⟩]
  else none else none else none else bif decide (0+nk≤DC.n (.tab nk (rowI IntKind.u8 wk))) then bif holds (∀ (i:Nat),i<nk→kv .u8 ((wk (0+i)))=kv .u8 ((numD (kv .u8 ((wk (0+i))))))) then
  bif decide (0<nk) then bif decide (byteAt s (Int.toNat (i:Int))<loF ((fun i=>numD (kv .u8 ((wk (0+i))))) 0) nk) then bif decide (no≤DC.n (.tab no (rowI IntKind.i32 wo))) then bif decide ((no+1)*(4:Nat)≤140737488355328)
  then K .normal 96 [sv s,.os 5 0 (no+1),.os 6 0 0,iv (i:Int)] [.os 5 0 (no+1),.os 6 0 0] [none,none,none,some ⟨1,.tab nk fun a a_1=>kv .u8 ((wk a))⟩,some ⟨1,.lst [[kv .i32 65533]]⟩,some ⟨1,.app (.pre (.tab no fun a a_1=>kv .i32 ((wo a))) no) (.lst [[kv .i32 65533]])⟩,some ⟨1,.lst []⟩]
  else none else none else bif decide (byteAt s (Int.toNat (i:Int)) > hiF ((fun i=>numD (kv .u8 ((wk (0+i))))) 0) nk) then bif decide (no≤DC.n (.tab no (rowI IntKind.i32 wo))) then bif decide ((no+1)*(4:Nat)≤140737488355328)
  then K .normal 96 [sv s,.os 5 0 (no+1),.os 6 0 0,iv (i:Int)] [.os 5 0 (no+1),.os 6 0 0] [none,none,none,some ⟨1,.tab nk fun a a_1=>kv .u8 ((wk a))⟩,some ⟨1,.lst [[kv .i32 65533]]⟩,some ⟨1,.app (.pre (.tab no fun a a_1=>kv .i32 ((wo a))) no) (.lst [[kv .i32 65533]])⟩,some ⟨1,.lst []⟩]
  else none else none else bif decide (nk≤DC.n (.tab nk (rowI IntKind.u8 wk))) then bif decide ((nk+1)*(1:Nat)≤140737488355328) then bif (↑(nk+1):Int)==szF ((fun i=>numD (kv .u8 ((wk (0+i))))) 0)
  then bif decide (0+(nk+1)≤DC.n (appC (.tab nk (rowI IntKind.u8 wk)) nk (subC (DBlk.c (blockOf 1 [kv .u8 ((byteAt s (Int.toNat (i:Int))))])) 0 1))) then bif holds (∀ (i_1:Nat),i_1<nk+1→(fun j f=>lend1 (DC.get (appC (.tab nk (rowI IntKind.u8 wk)) nk (subC (DBlk.c (blockOf 1 [kv .u8 ((byteAt s (Int.toNat (i:Int))))])) 0 1)) (0+j) f)) i_1 0=kv .u8 ((numD ((fun j f=>lend1 (DC.get (appC (.tab nk (rowI IntKind.u8 wk)) nk (subC (DBlk.c (blockOf 1 [kv .u8 ((byteAt s (Int.toNat (i:Int))))])) 0 1)) (0+j) f)) i_1 0))))
  then bif decide (nk+(1:Nat)≤9000000) then bif decide (no≤DC.n (.tab no (rowI IntKind.i32 wo))) then bif decide ((no+1)*(4:Nat)≤140737488355328) then K .normal 96 [sv s,.os 7 0 (no+1),.os 8 0 0,iv (IntKind.wrap .i64 ((i:Int)+1))] [.os 7 0 (no+1),.os 8 0 0] [none,none,none,none,some ⟨1,.lst [[kv .u8 ((byteAt s (Int.toNat (i:Int))))]]⟩,some ⟨1,.app (.pre (.tab nk fun a a_1=>kv .u8 ((wk a))) nk) (.lst [[kv .u8 ((byteAt s (Int.toNat (i:Int))))]])⟩,some ⟨1,.lst [[kv .i32 ((valF (fun i_1=>numD ((fun j f=>lend1 (DC.get (appC (.tab nk (rowI IntKind.u8 wk)) nk (subC (DBlk.c (blockOf 1 [kv .u8 ((byteAt s (Int.toNat (i:Int))))])) 0 1)) (0+j) f)) i_1 0)) (nk+1)))]]⟩,some ⟨1,.app (.pre (.tab no fun a a_1=>kv .i32 ((wo a))) no) (.lst [[kv .i32 ((valF (fun i_1=>numD ((fun j f=>lend1 (DC.get (appC (.tab nk (rowI IntKind.u8 wk)) nk (subC (DBlk.c (blockOf 1 [kv .u8 ((byteAt s (Int.toNat (i:Int))))])) 0 1)) (0+j) f)) i_1 0)) (nk+1)))]])⟩,some ⟨1,.lst []⟩]
  else none else none else none else none else none else K .normal 96 [sv s,.os 2 0 no,.os 5 0 (nk+1),iv (IntKind.wrap .i64 ((i:Int)+1))] [.os 2 0 no,.os 5 0 (nk+1)] [none,none,some ⟨1,.tab no fun a a_1=>kv .i32 ((wo a))⟩,none,some ⟨1,.lst [[kv .u8 ((byteAt s (Int.toNat (i:Int))))]]⟩,some ⟨1,.app (.pre (.tab nk fun a a_1=>kv .u8 ((wk a))) nk) (.lst [[kv .u8 ((byteAt s (Int.toNat (i:Int))))]])⟩]
  else none else none else none else none else none else none else K (.exit 0) 96 [sv s,.os 2 0 no,.os 3 0 nk,iv (i:Int)] [.os 2 0 no,.os 3 0 nk] [none,none,some ⟨1,.tab no fun a a_1=>kv .i32 ((wo a))⟩,some ⟨1,.tab nk fun a a_1=>kv .u8 ((wk a))⟩]:=by
 kernel_rfl
theorem valR_ext {z w:Nat→Int}:∀ (m i:Nat) (a:Int),(∀ j,i≤j→j<i+m→z j=w j)→valR z m i a=valR w m i a
 | 0,_,_,_=>rfl
 | m+1,i,a,h=>by
  rw [valR,valR,h i (Nat.le_refl _) (by omega),valR_ext m (i+1) _ fun j h1 h2=>h j (by omega) (by omega)]
theorem valF_ext {z w:Nat→Int}{n:Nat}(h0:0<n) (h:∀ j,j<n→z j=w j):valF z n=valF w n:=by
 unfold valF valA
 rw [h 0 h0,valR_ext (w:=w) (n-1) 1 _ fun j h1 h2=>h j (by omega)]
theorem one_get (v:Int):lend1 ((blockOf 1 [DV.v (Value.int IntKind.u8 v)]).c.get 0 0)=kv .u8 v:=by kernel_rfl
theorem sub_get (v:Int):(subC (blockOf 1 [DV.v (Value.int IntKind.u8 v)]).c 0 1).get 0 0=kv .u8 v:=by kernel_rfl
theorem sub_n (v:Int):(subC (blockOf 1 [DV.v (Value.int IntKind.u8 v)]).c 0 1).n=1:=by kernel_rfl
theorem app_n (k:List Int) (v:Int):(appC (DC.tab k.length (rowI IntKind.u8 (lw k))) k.length (subC (blockOf 1 [DV.v (Value.int IntKind.u8 v)]).c 0 1)).n=k.length+1:=by
 have h:k.length≤(DC.tab k.length (rowI IntKind.u8 (lw k))).n:=Nat.le_refl _
 rw [appC_n h,sub_n]
theorem app_at (k:List Int) (v:Int) {j:Nat}(hj:j<k.length+1):lend1 ((appC (DC.tab k.length (rowI IntKind.u8 (lw k))) k.length (subC (blockOf 1 [DV.v (Value.int IntKind.u8 v)]).c 0 1)).get j 0)=kv .u8 (lw (k++[v]) j):=by
 have h0:k.length≤(DC.tab k.length (rowI IntKind.u8 (lw k))).n:=Nat.le_refl _
 rw [appC_get h0]
 by_cases h:j<k.length
 ·rw [if_pos h]
  show kv .u8 (lw k j)=_
  simp [lw,List.getElem?_append_left h]
 ·rw [if_neg h]
  obtain rfl:j=k.length:=by omega
  rw [Nat.sub_self,sub_get]
  show kv .u8 v=_
  simp [lw]
theorem dcd_ls {st:AE.Stat}(h98:∀ a σ,st.ext 148 a σ=none) (h99:∀ a σ,st.ext 149 a σ=none):LoopS Tryz.prog st gl0 (.loop (loopAt Tryz.f89 250)) dcI.g:=by
 refine dcI.ok (E:=env dcL noLp 0) (p:=500) (tblD_env (l:=dcL) (fun x hx=>?_)) (glOk st).1 (fun _ _ _ h=>nomatch h) (fun x k h=>h) fun x hx=>?_
 ·simp only [dcL,List.mem_cons,List.not_mem_nil,or_false] at hx
  rcases hx with rfl | rfl
  ·exact limC_ok h98
  ·exact valC_ok h99
 obtain ⟨s,i,o,k⟩:=x
 obtain ⟨h1,h2,h3,h4⟩:i≤s.size∧s.size≤9000000∧o.length+min 1 k.length≤i∧k.length≤i:=hx
 refine (dcd_loop s o.length k.length i (lw o) (lw k) _).trans ?_
 simp only [Int.toNat_natCast,Nat.zero_add]
 refine dS (fun hlt=>?_) fun hge=>?_
 ·have hlt:i<s.size:=by omega
  have hW:IntKind.i64.wrap ((i:Int)+1)=((i+1:Nat):Int):=by rw [W_in (by omega) (by omega)]; omega
  rw [hW]
  have hn:o.length≤DC.n (DC.tab o.length (rowI IntKind.i32 (lw o))):=Nat.le_refl _
  have hn8:k.length≤DC.n (DC.tab k.length (rowI IntKind.u8 (lw k))):=Nat.le_refl _
  refine dT (by omega) (cS (fun hk=>?_) fun hk=>?_)
  ·obtain rfl:k=[]:=List.length_eq_zero_iff.1 (by have:=beq_iff_eq.1 hk; omega)
   refine hT (fun j hj=>by obtain rfl:j=0:=(by omega); rw [one_get]; rfl) (dS (fun hb=>?_) fun hb=>dS (fun hz=>?_) fun hz=>?_)
   ·have hst:dstep s i o []=(i+1,o++[IntKind.i32.wrap (byteAt s i)],[]):=by unfold dstep; rw [if_pos rfl,if_pos hb]
    obtain ⟨q1,q2⟩:=DX.step hlt hst
    refine dT hn (dT (by omega) (LInv.ask_of ⟨rfl,⟨s,i+1,o++[IntKind.i32.wrap (byteAt s i)],[]⟩,⟨rfl,by simp only [dcI,q1],by simp only [dcI,q1],?_⟩,q2,[6,3],?_⟩))
    ·refine ⟨hlt,h2,?_,Nat.zero_le _⟩
     simp at h3 ⊢; omega
    ·show WkP 2 [6,3] _ _ [sv s,.os 2 0 (o++[IntKind.i32.wrap (byteAt s i)]).length,.os 3 0 0,iv ((i+1:Nat):Int)] [none,none,some (lstB .i32 (o++[IntKind.i32.wrap (byteAt s i)])),some (lstB .u8 [])]
     rw [show (o++[IntKind.i32.wrap (byteAt s i)]).length=o.length+1 by simp]
     exact .of (im:=[some 6,some 3]) (.cons (.v _) (.cons (.os rfl) (.cons (.os rfl) (.cons (.v _) .nil)))) rfl ⟨⟨6,_,rfl,rfl,(HasL.app rfl .tab (.one rfl)).sub⟩,⟨3,_,rfl,rfl,HasL.tab.sub⟩,trivial⟩ rfl (by decide)
   ·have hz:szF (byteAt s i) > 0:=by rw [one_get] at hz; exact hz
    have hst:dstep s i o []=(i+1,o,[byteAt s i]):=by unfold dstep; rw [if_pos rfl,if_neg hb,if_pos hz]
    obtain ⟨q1,q2⟩:=DX.step hlt hst
    refine dT hn8 (dT (by simp) (LInv.ask_of ⟨rfl,⟨s,i+1,o,[byteAt s i]⟩,⟨rfl,by simp only [dcI,q1],by simp only [dcI,q1],?_⟩,q2,[2,6],?_⟩))
    ·refine ⟨hlt,h2,?_,?_⟩
     ·simp at h3 ⊢; omega
     ·simp
    ·show WkP 2 [2,6] _ _ [sv s,.os 2 0 o.length,.os 3 0 1,iv ((i+1:Nat):Int)] [none,none,some (lstB .i32 o),some (lstB .u8 [byteAt s i])]
     exact .of (im:=[some 2,some 6]) (.cons (.v _) (.cons (.os rfl) (.cons (.os rfl) (.cons (.v _) .nil)))) rfl ⟨⟨2,_,rfl,rfl,HasL.tab.sub⟩,⟨6,_,rfl,rfl,(HasL.app (L:=[]) rfl .tab (.one rfl)).sub⟩,trivial⟩ rfl (by decide)
   ·have hz:¬ szF (byteAt s i) > 0:=by rw [one_get] at hz; exact hz
    have hst:dstep s i o []=(i+1,o++[65533],[]):=by unfold dstep; rw [if_pos rfl,if_neg hb,if_neg hz]
    obtain ⟨q1,q2⟩:=DX.step hlt hst
    refine dT hn (dT (by omega) (LInv.ask_of ⟨rfl,⟨s,i+1,o++[65533],[]⟩,⟨rfl,by simp only [dcI,q1],by simp only [dcI,q1],?_⟩,q2,[6,3],?_⟩))
    ·refine ⟨hlt,h2,?_,Nat.zero_le _⟩
     simp at h3 ⊢; omega
    ·show WkP 2 [6,3] _ _ [sv s,.os 2 0 (o++[65533]).length,.os 3 0 0,iv ((i+1:Nat):Int)] [none,none,some (lstB .i32 (o++[65533])),some (lstB .u8 [])]
     rw [show (o++[(65533:Int)]).length=o.length+1 by simp]
     exact .of (im:=[some 6,some 3]) (.cons (.v _) (.cons (.os rfl) (.cons (.os rfl) (.cons (.v _) .nil)))) rfl ⟨⟨6,_,rfl,rfl,(HasL.app rfl .tab (.one rfl)).sub⟩,⟨3,_,rfl,rfl,HasL.tab.sub⟩,trivial⟩ rfl (by decide)
  ·have hk:k≠[]:=fun e=>by rw [e] at hk; exact absurd hk (by decide)
   have hk0:0<k.length:=List.length_pos_iff.2 hk
   have h3:o.length+1≤i:=by omega
   have fail:∀ hst:dstep s i o k=(i,o++[65533],[]),dcI.ask ⟨s,i,o,k⟩ .normal 96 [sv s,.os 5 0 (o.length+1),.os 6 0 0,iv (i:Int)] [.os 5 0 (o.length+1),.os 6 0 0]
     [none,none,none,some ⟨1,.tab k.length fun a _=>.v (.int .u8 (lw k a))⟩,some ⟨1,.lst [[.v (.int .i32 65533)]]⟩,some ⟨1,.app (.pre (.tab o.length fun a _=>.v (.int .i32 (lw o a))) o.length) (.lst [[.v (.int .i32 65533)]])⟩,some ⟨1,.lst []⟩]=some ():=fun hst=>by
    obtain ⟨q1,q2⟩:=DX.step hlt hst
    refine LInv.ask_of ⟨rfl,⟨s,i,o++[65533],[]⟩,⟨rfl,by simp only [dcI,q1],by simp only [dcI,q1],?_⟩,q2,[5,6],?_⟩
    ·refine ⟨h1,h2,?_,Nat.zero_le _⟩
     simp; omega
    ·show WkP 2 [5,6] _ _ [sv s,.os 2 0 (o++[65533]).length,.os 3 0 0,iv (i:Int)] [none,none,some (lstB .i32 (o++[65533])),some (lstB .u8 [])]
     rw [show (o++[(65533:Int)]).length=o.length+1 by simp]
     exact .of (im:=[some 5,some 6]) (.cons (.v _) (.cons (.os rfl) (.cons (.os rfl) (.cons (.v _) .nil)))) rfl ⟨⟨5,_,rfl,rfl,(HasL.app rfl .tab (.one rfl)).sub⟩,⟨6,_,rfl,rfl,(HasL.nil (c:=.lst []) trivial).sub⟩,trivial⟩ rfl (by decide)
   refine dT hn8 (hT (fun j hj=>rfl) (dT hk0 (dS (fun hlo=>?_) fun hlo=>dS (fun hhi=>?_) fun hhi=>?_)))
   ·have hlo:byteAt s i<loF (lw k 0) k.length:=hlo
    refine dT hn (dT (by omega) (fail ?_))
    unfold dstep
    rw [if_neg hk,if_pos hlo]
   ·have hlo:¬ byteAt s i<loF (lw k 0) k.length:=hlo
    have hhi:byteAt s i > hiF (lw k 0) k.length:=hhi
    refine dT hn (dT (by omega) (fail ?_))
    unfold dstep
    rw [if_neg hk,if_neg hlo,if_pos hhi]
   ·have hlo:¬ byteAt s i<loF (lw k 0) k.length:=hlo
    have hhi:¬ byteAt s i > hiF (lw k 0) k.length:=hhi
    refine dT hn8 (dT (by omega) (cS (fun hsz=>?_) fun hsz=>?_))
    ·have hsz:((k.length+1:Nat):Int)=szF (lw k 0):=beq_iff_eq.1 hsz
     have hvf:=valF_ext (z:=fun i_1=>numD (lend1 ((appC (DC.tab k.length (rowI IntKind.u8 (lw k))) k.length (subC (blockOf 1 [DV.v (Value.int IntKind.u8 (byteAt s i))]).c 0 1)).get i_1 0))) (w:=lw (k++[byteAt s i])) (n:=k.length+1) (Nat.succ_pos k.length) fun j hj=>by
      show numD (lend1 _)=_
      rw [app_at k _ hj]
      rfl
     have hst:dstep s i o k=(i+1,o++[valF (lw (k++[byteAt s i])) (k.length+1)],[]):=by unfold dstep; rw [if_neg hk,if_neg hlo,if_neg hhi,if_pos hsz]
     rw [← hvf] at hst
     obtain ⟨q1,q2⟩:=DX.step hlt hst
     rw [app_n]
     refine dT (Nat.le_refl _) (hT (fun j hj=>by rw [app_at k _ hj]; rfl) (dT (by omega) (dT hn (dT (by omega) ?_))))
     clear hst hvf
     generalize valF (fun i_1=>numD (lend1 ((appC (DC.tab k.length (rowI IntKind.u8 (lw k))) k.length (subC (blockOf 1 [DV.v (Value.int IntKind.u8 (byteAt s i))]).c 0 1)).get i_1 0))) (k.length+1)=u at q1 ⊢
     refine LInv.ask_of ⟨rfl,⟨s,i+1,o++[u],[]⟩,⟨rfl,by simp only [dcI,q1],by simp only [dcI,q1],?_⟩,q2,[7,8],?_⟩
     ·refine ⟨hlt,h2,?_,Nat.zero_le _⟩
      simp; omega
     ·show WkP 2 [7,8] _ _ [sv s,.os 2 0 (o++[u]).length,.os 3 0 0,iv ((i+1:Nat):Int)] [none,none,some (lstB .i32 (o++[u])),some (lstB .u8 [])]
      rw [show (o++[u]).length=o.length+1 by simp]
      exact .of (im:=[some 7,some 8]) (.cons (.v _) (.cons (.os rfl) (.cons (.os rfl) (.cons (.v _) .nil)))) rfl ⟨⟨7,_,rfl,rfl,(HasL.app rfl .tab (.one rfl)).sub⟩,⟨8,_,rfl,rfl,(HasL.nil (c:=.lst []) trivial).sub⟩,trivial⟩ rfl (by decide)
    ·have hsz:¬ ((k.length+1:Nat):Int)=szF (lw k 0):=beq_eq_false_iff_ne.1 hsz
     have hst:dstep s i o k=(i+1,o,k++[byteAt s i]):=by unfold dstep; rw [if_neg hk,if_neg hlo,if_neg hhi,if_neg hsz]
     obtain ⟨q1,q2⟩:=DX.step hlt hst
     refine LInv.ask_of ⟨rfl,⟨s,i+1,o,k++[byteAt s i]⟩,⟨rfl,by simp only [dcI,q1],by simp only [dcI,q1],?_⟩,q2,[2,5],?_⟩
     ·refine ⟨hlt,h2,?_,?_⟩
      ·simp; omega
      ·simp; omega
     ·show WkP 2 [2,5] _ _ [sv s,.os 2 0 o.length,.os 3 0 (k++[byteAt s i]).length,iv ((i+1:Nat):Int)] [none,none,some (lstB .i32 o),some (lstB .u8 (k++[byteAt s i]))]
      rw [show (k++[byteAt s i]).length=k.length+1 by simp]
      exact .of (im:=[some 2,some 5]) (.cons (.v _) (.cons (.os rfl) (.cons (.os rfl) (.cons (.v _) .nil)))) rfl ⟨⟨2,_,rfl,rfl,HasL.tab.sub⟩,⟨5,_,rfl,rfl,(HasL.app rfl .tab (.one rfl)).sub⟩,trivial⟩ rfl (by decide)
 ·have hge:i=s.size:=by omega
  subst hge
  have hr:DX.r ⟨s,s.size,o,k⟩=(o,k):=by
   simp only [DX.r]
   generalize dmeas s s.size k=m
   cases m with
   | zero=>rfl
   | succ m=>rw [decR,if_neg (by omega)]
  refine LInv.ask_of ⟨rfl,rfl,[2,3],?_⟩
  simp only [dcI,hr]
  exact .of (im:=[some 2,some 3]) (.cons (.os rfl) (.cons (.os rfl) .nil)) rfl ⟨⟨2,_,rfl,rfl,HasL.tab.sub⟩,⟨3,_,rfl,rfl,HasL.tab.sub⟩,trivial⟩ rfl (by decide)
end Go.Proofs.YtigmkgampfbflaaGreatDoor
namespace Go.Proofs.YtigmkgampfbflaaGreatDoor
open Go Go.AE Go.DE Go.RowKit
theorem dec_tree (a s:ByteArray) (K:DV→DHeap→Option Unit):bodyD Tryz.prog (env dcL (lpOf [(250,dcI.g)]) 0) Tryz.f89 [sv a,sv s] [] (fun d σ=>K d σ) =
  bif decide (ByteArray.size a+ByteArray.size s≤9223372036854775807) then bif holds ((Nat.le 0 (ByteArray.size (a++s))∧Nat.le (ByteArray.size (a++s)) 9000000∧Nat.le 0 0∧Nat.le 0 0)∧∃ ids,WkP 2 ids [sv (a++s),.os 0 0 0,.os 1 0 0,iv 0] [some ⟨1,.lst []⟩,some ⟨1,.lst []⟩] [sv (a++s),.os 2 0 0,.os 3 0 0,iv 0] [none,none,some ⟨1,.tab 0 fun a a_1=>kv .i32 ((lw [] a))⟩,some ⟨1,.tab 0 fun a a_1=>kv .u8 ((lw [] a))⟩])
  then bif decide (0+List.length (Prod.snd (DX.r { s:=a++s,i:=0,o:=[],k:=[] }))≤DC.n (DBlk.c (lstB IntKind.u8 (Prod.snd (DX.r { s:=a++s,i:=0,o:=[],k:=[] }))))) then bif intsD IntKind.u8 (List.length (Prod.snd (DX.r { s:=a++s,i:=0,o:=[],k:=[] }))) (subC (DBlk.c (lstB IntKind.u8 (Prod.snd (DX.r { s:=a++s,i:=0,o:=[],k:=[] })))) 0 (List.length (Prod.snd (DX.r { s:=a++s,i:=0,o:=[],k:=[] }))))
  then K (.tup [.os 2 0 (List.length (Prod.fst (DX.r { s:=a++s,i:=0,o:=[],k:=[] }))),sv (bytesS (List.length (Prod.snd (DX.r { s:=a++s,i:=0,o:=[],k:=[] }))) fun j=>numD (kv .u8 ((lw (Prod.snd (DX.r { s:=a++s,i:=0,o:=[],k:=[] })) (0+j)))))]) [none,none,some ⟨1,.tab (List.length (Prod.fst (DX.r { s:=a++s,i:=0,o:=[],k:=[] }))) fun a_1 a_2=>kv .i32 ((lw (Prod.fst (DX.r { s:=a++s,i:=0,o:=[],k:=[] })) a_1))⟩,some ⟨1,.tab (List.length (Prod.snd (DX.r { s:=a++s,i:=0,o:=[],k:=[] }))) fun a_1 a_2=>kv .u8 ((lw (Prod.snd (DX.r { s:=a++s,i:=0,o:=[],k:=[] })) a_1))⟩]
  else none else none else none else none:=by
 kernel_rfl
def decF (s:ByteArray):List Int×ByteArray:=((DX.r ⟨s,0,[],[]⟩).1,bytesS (DX.r ⟨s,0,[],[]⟩).2.length (lw (DX.r ⟨s,0,[],[]⟩).2))
noncomputable def decC:ConF:=fun args k=>match args with
 | [.v (.string a),.v (.string s)]=>bif decide (a.size+s.size≤9000000) then k (fun b=>(.tup [.os b 0 (decF (a++s)).1.length,sv (decF (a++s)).2],[some (lstB .i32 (decF (a++s)).1)])) else none
 | _=>none
theorem dcL_ok {st:AE.Stat}(hx:Hx st):∀ x∈dcL,ConOk Tryz.prog st x.1 x.2:=fun x h=>by
 simp only [dcL,List.mem_cons,List.not_mem_nil,or_false] at h
 rcases h with rfl | rfl
 ·exact limC_ok (hx 148 rfl)
 ·exact valC_ok (hx 149 rfl)
theorem decC_ok {st:AE.Stat}(hx:Hx st):ConOk Tryz.prog st 89 decC:=by
 refine con_of (mg:=[]) (l:=dcL) (lp:=lpOf [(250,dcI.g)]) (n:=0) (glOk st) (dcL_ok hx) Tryz.func89 (by kernel_rfl) (by kernel_rfl) (hx 89 rfl) (lp_one (by kernel_rfl) (dcd_ls (hx 148 rfl) (hx 149 rfl))) fun args k hk=>?_
 unfold decC at hk
 split at hk<;>first | (cases hk; done) | skip
 rename_i a s
 obtain ⟨hn,hk⟩:=dec_none hk
 refine ⟨[sv a,sv s],_,.self (.self .nil),hk,fun b=>⟨lowR_lst (.tup fun d hd=>?_),?_⟩⟩
 ·simp only [List.mem_cons,List.not_mem_nil,or_false] at hd
  rcases hd with rfl | rfl
  ·exact .os _ _ _
  ·exact .v _
 ·have hsz:(a++s).size=a.size+s.size:=ByteArray.size_append
  refine (dec_tree a s _).trans (dT (by omega) (hT ⟨⟨Nat.zero_le _,by show (a++s).size≤9000000; omega,Nat.le_refl _,Nat.le_refl _⟩,[0,1],?_⟩ (dT ?_ (cT ?_ (fin_of ?_)))))
  ·exact .of (im:=[some 0,some 1]) (.cons (.v _) (.cons (.os rfl) (.cons (.os rfl) (.cons (.v _) .nil)))) rfl ⟨⟨0,_,rfl,rfl,(HasL.nil (q:=.i32) (c:=.lst []) trivial).sub⟩,⟨1,_,rfl,rfl,(HasL.nil (q:=.u8) (c:=.lst []) trivial).sub⟩,trivial⟩ rfl (by decide)
  ·rw [Nat.zero_add]
   exact Nat.le_refl _
  ·refine intsD_iff.2 fun j hj=>?_
   rw [subC_get hj,Nat.zero_add]
   rfl
  ·refine finQ_tup (id:=2) (blk:=lstB .i32 (decF (a++s)).1) ?_ (fun d hd=>?_) rfl rfl (Nat.le_refl _) trivial fun i f hi hf=>⟨.v _,rfl⟩
   ·simp only [Nat.zero_add]
    rfl
   ·obtain rfl:d=_:=by simpa using hd
    exact .v _
end Go.Proofs.YtigmkgampfbflaaGreatDoor
namespace Go.Proofs.YtigmkgampfbflaaGreatDoor
open Go Go.AE Go.DE Go.RowKit
abbrev enc1 (v:Int):List Int:=[IntKind.u8.wrap v]
abbrev enc2 (v:Int):List Int:=[IntKind.u8.wrap (IntKind.i32.wrap (192+IntKind.i32.wrap (Int.tdiv v 64))),IntKind.u8.wrap (IntKind.i32.wrap (128+Int.tmod v 64))]
abbrev enc3 (v:Int):List Int:=[IntKind.u8.wrap (IntKind.i32.wrap (224+IntKind.i32.wrap (Int.tdiv v 4096))),IntKind.u8.wrap (IntKind.i32.wrap (128+Int.tmod (IntKind.i32.wrap (Int.tdiv v 64)) 64)),IntKind.u8.wrap (IntKind.i32.wrap (128+Int.tmod v 64))]
abbrev enc4 (v:Int):List Int:=[IntKind.u8.wrap (IntKind.i32.wrap (240+IntKind.i32.wrap (Int.tdiv v 262144))),IntKind.u8.wrap (IntKind.i32.wrap (128+Int.tmod (IntKind.i32.wrap (Int.tdiv v 4096)) 64)),IntKind.u8.wrap (IntKind.i32.wrap (128+Int.tmod (IntKind.i32.wrap (Int.tdiv v 64)) 64)),IntKind.u8.wrap (IntKind.i32.wrap (128+Int.tmod v 64))]
def enB (v:Int):List Int :=
 if v<0 then [239,191,189] else if v > 1114111 then [239,191,189] else if v ≥ 55296∧v≤57343 then [239,191,189]
 else if v<128 then enc1 v else if v<2048 then enc2 v else if v<65536 then enc3 v else enc4 v
def enR (z:Nat→Int):Nat→Nat→List Int→List Int
 | 0,_,b=>b
 | m+1,i,b=>enR z m (i+1) (b++enB (z i))
structure EX where
 t:Bool
 z:Nat→Int
 n:Nat
 i:Nat
 b:List Int
def EX.r (x:EX):List Int:=enR x.z (x.n-x.i) x.i x.b
def enI:LInv EX where
 pre x:=x.i≤x.n∧x.n≤9000000∧x.b.length≤4*x.i
 m:=1
 n:=95
 ps:=[0,3,4]
 sd x:=[.sl x.t (rowI .i32 x.z) 1 x.n,.os 1 0 x.b.length,iv x.i]
 sh x:=[none,some (lstB .u8 x.b)]
 meas x:=x.n-x.i
 e _:=.exit 0
 qs:=[3]
 od x:=[.os 1 0 x.r.length]
 oh x:=[none,some (lstB .u8 x.r)]
 guess ds _:=match ds with
  | [.sl t g 1 n,_,_]=>some ⟨t,fun i=>numD (g i 0),n,0,[]⟩
  | _=>none
 cps x k:=k (.exit 0) [.os 1 0 x.r.length] [none,some (lstB .u8 x.r)]
theorem enc_loop (t:Bool) (z:Nat→Int) (n i nb:Nat) (wb:Nat→Int) (K:Ex→Nat→List DV→List DV→DHeap→Option Unit):execD Tryz.prog (env [] noLp 0) (loopAt Tryz.f90 58) 500 (temps 95 [0,3,4] [.sl t (rowI .i32 z) 1 n,.os 1 0 nb,iv i]) [none,some ⟨1,.tab nb (rowI .u8 wb)⟩] (fun e τ σ=>K e τ.length (pick [0,3,4] τ) (pick [3] τ) σ) =
  bif decide ((i:Int)<(n:Int)) then bif decide ((i:Int)<(n:Int)) then bif decide (tN i<n) then bif decide (z (tN i)<0) then bif decide (nb≤DC.n (.tab nb (rowI IntKind.u8 wb))) then
  bif decide ((nb+3)*(1:Nat)≤140737488355328) then K .normal 95 [.sl t (fun a a_1=>kv .i32 ((z a))) 1 n,.os 3 0 (nb+3),iv (IntKind.wrap .i64 ((i:Int)+1))] [.os 3 0 (nb+3)] [none,none,some ⟨1,.lst [[kv .u8 239],[kv .u8 191],[kv .u8 189]]⟩,some ⟨1,.app (.pre (.tab nb fun a a_1=>kv .u8 ((wb a))) nb) (.lst [[kv .u8 239],[kv .u8 191],[kv .u8 189]])⟩]
  else none else none else bif decide (z (tN i) > 1114111) then bif decide (nb≤DC.n (.tab nb (rowI IntKind.u8 wb))) then bif decide ((nb+3)*(1:Nat)≤140737488355328) then K .normal 95 [.sl t (fun a a_1=>kv .i32 ((z a))) 1 n,.os 3 0 (nb+3),iv (IntKind.wrap .i64 ((i:Int)+1))] [.os 3 0 (nb+3)] [none,none,some ⟨1,.lst [[kv .u8 239],[kv .u8 191],[kv .u8 189]]⟩,some ⟨1,.app (.pre (.tab nb fun a a_1=>kv .u8 ((wb a))) nb) (.lst [[kv .u8 239],[kv .u8 191],[kv .u8 189]])⟩]
  else none else none else bif decide (z (tN i) ≥ 55296) then bif decide (z (tN i)≤57343) then bif decide (nb≤DC.n (.tab nb (rowI IntKind.u8 wb))) then bif decide ((nb+3)*(1:Nat)≤140737488355328)
  then K .normal 95 [.sl t (fun a a_1=>kv .i32 ((z a))) 1 n,.os 3 0 (nb+3),iv (IntKind.wrap .i64 ((i:Int)+1))] [.os 3 0 (nb+3)] [none,none,some ⟨1,.lst [[kv .u8 239],[kv .u8 191],[kv .u8 189]]⟩,some ⟨1,.app (.pre (.tab nb fun a a_1=>kv .u8 ((wb a))) nb) (.lst [[kv .u8 239],[kv .u8 191],[kv .u8 189]])⟩]
  else none else none else bif decide (z (tN i)<128) then bif decide (nb≤DC.n (.tab nb (rowI IntKind.u8 wb))) then bif decide ((nb+1)*(1:Nat)≤140737488355328) then K .normal 95 [.sl t (fun a a_1=>kv .i32 ((z a))) 1 n,.os 3 0 (nb+1),iv (IntKind.wrap .i64 ((i:Int)+1))] [.os 3 0 (nb+1)] [none,none,some ⟨1,.lst [[kv .u8 ((IntKind.wrap .u8 (z (tN i))))]]⟩,some ⟨1,.app (.pre (.tab nb fun a a_1=>kv .u8 ((wb a))) nb) (.lst [[kv .u8 ((IntKind.wrap .u8 (z (tN i))))]])⟩]
  else none else none else bif decide (z (tN i)<2048) then bif decide (nb≤DC.n (.tab nb (rowI IntKind.u8 wb))) then bif decide ((nb+2)*(1:Nat)≤140737488355328) then K .normal 95 [.sl t (fun a a_1=>kv .i32 ((z a))) 1 n,.os 3 0 (nb+2),iv (IntKind.wrap .i64 ((i:Int)+1))] [.os 3 0 (nb+2)] [none,none,some ⟨1,.lst [[kv .u8 ((IntKind.wrap .u8 (IntKind.wrap .i32 (192+IntKind.wrap .i32 (Int.tdiv (z (tN i)) 64)))))],[kv .u8 ((IntKind.wrap .u8 (IntKind.wrap .i32 (128+Int.tmod (z (tN i)) 64))))]]⟩,some ⟨1,.app (.pre (.tab nb fun a a_1=>kv .u8 ((wb a))) nb) (.lst [[kv .u8 ((IntKind.wrap .u8 (IntKind.wrap .i32 (192+IntKind.wrap .i32 (Int.tdiv (z (tN i)) 64)))))],[kv .u8 ((IntKind.wrap .u8 (IntKind.wrap .i32 (128+Int.tmod (z (tN i)) 64))))]])⟩]
  else none else none else bif decide (z (tN i)<65536) then bif decide (nb≤DC.n (.tab nb (rowI IntKind.u8 wb))) then bif decide ((nb+3)*(1:Nat)≤140737488355328) then K .normal 95 [.sl t (fun a a_1=>kv .i32 ((z a))) 1 n,.os 3 0 (nb+3),iv (IntKind.wrap .i64 ((i:Int)+1))] [.os 3 0 (nb+3)] [none,none,some ⟨1,.lst [[kv .u8 ((IntKind.wrap .u8 (IntKind.wrap .i32 (224+IntKind.wrap .i32 (Int.tdiv (z (tN i)) 4096)))))],[kv .u8 ((IntKind.wrap .u8 (IntKind.wrap .i32 (128+Int.tmod (IntKind.wrap .i32 (Int.tdiv (z (tN i)) 64)) 64))))],[kv .u8 ((IntKind.wrap .u8 (IntKind.wrap .i32 (128+Int.tmod (z (tN i)) 64))))]]⟩,some ⟨1,.app (.pre (.tab nb fun a a_1=>kv .u8 ((wb a))) nb) (.lst [[kv .u8 ((IntKind.wrap .u8 (IntKind.wrap .i32 (224+IntKind.wrap .i32 (Int.tdiv (z (tN i)) 4096)))))],[kv .u8 ((IntKind.wrap .u8 (IntKind.wrap .i32 (128+Int.tmod (IntKind.wrap .i32 (Int.tdiv (z (tN i)) 64)) 64))))],[kv .u8 ((IntKind.wrap .u8 (IntKind.wrap .i32 (128+Int.tmod (z (tN i)) 64))))]])⟩]
  else none else none else bif decide (nb≤DC.n (.tab nb (rowI IntKind.u8 wb))) then bif decide ((nb+4)*(1:Nat)≤140737488355328) then K .normal 95 [.sl t (fun a a_1=>kv .i32 ((z a))) 1 n,.os 3 0 (nb+4),iv (IntKind.wrap .i64 ((i:Int)+1))] [.os 3 0 (nb+4)] [none,none,some ⟨1,.lst [[kv .u8 ((IntKind.wrap .u8 (IntKind.wrap .i32 (240+IntKind.wrap .i32 (Int.tdiv (z (tN i)) 262144)))))],[kv .u8 ((IntKind.wrap .u8 (IntKind.wrap .i32 (128+Int.tmod (IntKind.wrap .i32 (Int.tdiv (z (tN i)) 4096)) 64))))],[kv .u8 ((IntKind.wrap .u8 (IntKind.wrap .i32 (128+Int.tmod (IntKind.wrap .i32 (Int.tdiv (z (tN i)) 64)) 64))))],[kv .u8 ((IntKind.wrap .u8 (IntKind.wrap .i32 (128+Int.tmod (z (tN i)) 64))))]]⟩,some ⟨1,.app (.pre (.tab nb fun a a_1=>kv .u8 ((wb a))) nb) (.lst [[kv .u8 ((IntKind.wrap .u8 (IntKind.wrap .i32 (240+IntKind.wrap .i32 (Int.tdiv (z (tN i)) 262144)))))],[kv .u8 ((IntKind.wrap .u8 (IntKind.wrap .i32 (128+Int.tmod (IntKind.wrap .i32 (Int.tdiv (z (tN i)) 4096)) 64))))],[kv .u8 ((IntKind.wrap .u8 (IntKind.wrap .i32 (128+Int.tmod (IntKind.wrap .i32 (Int.tdiv (z (tN i)) 64)) 64))))],[kv .u8 ((IntKind.wrap .u8 (IntKind.wrap .i32 (128+Int.tmod (z (tN i)) 64))))]])⟩]
  else none else none else bif decide (z (tN i)<128) then bif decide (nb≤DC.n (.tab nb (rowI IntKind.u8 wb))) then bif decide ((nb+1)*(1:Nat)≤140737488355328) then K .normal 95 [.sl t (fun a a_1=>kv .i32 ((z a))) 1 n,.os 3 0 (nb+1),iv (IntKind.wrap .i64 ((i:Int)+1))] [.os 3 0 (nb+1)] [none,none,some ⟨1,.lst [[kv .u8 ((IntKind.wrap .u8 (z (tN i))))]]⟩,some ⟨1,.app (.pre (.tab nb fun a a_1=>kv .u8 ((wb a))) nb) (.lst [[kv .u8 ((IntKind.wrap .u8 (z (tN i))))]])⟩]
  else none else none else bif decide (z (tN i)<2048) then bif decide (nb≤DC.n (.tab nb (rowI IntKind.u8 wb))) then bif decide ((nb+2)*(1:Nat)≤140737488355328) then K .normal 95 [.sl t (fun a a_1=>kv .i32 ((z a))) 1 n,.os 3 0 (nb+2),iv (IntKind.wrap .i64 ((i:Int)+1))] [.os 3 0 (nb+2)] [none,none,some ⟨1,.lst [[kv .u8 ((IntKind.wrap .u8 (IntKind.wrap .i32 (192+IntKind.wrap .i32 (Int.tdiv (z (tN i)) 64)))))],[kv .u8 ((IntKind.wrap .u8 (IntKind.wrap .i32 (128+Int.tmod (z (tN i)) 64))))]]⟩,some ⟨1,.app (.pre (.tab nb fun a a_1=>kv .u8 ((wb a))) nb) (.lst [[kv .u8 ((IntKind.wrap .u8 (IntKind.wrap .i32 (192+IntKind.wrap .i32 (Int.tdiv (z (tN i)) 64)))))],[kv .u8 ((IntKind.wrap .u8 (IntKind.wrap .i32 (128+Int.tmod (z (tN i)) 64))))]])⟩]
  else none else none else bif decide (z (tN i)<65536) then bif decide (nb≤DC.n (.tab nb (rowI IntKind.u8 wb))) then bif decide ((nb+3)*(1:Nat)≤140737488355328) then K .normal 95 [.sl t (fun a a_1=>kv .i32 ((z a))) 1 n,.os 3 0 (nb+3),iv (IntKind.wrap .i64 ((i:Int)+1))] [.os 3 0 (nb+3)] [none,none,some ⟨1,.lst [[kv .u8 ((IntKind.wrap .u8 (IntKind.wrap .i32 (224+IntKind.wrap .i32 (Int.tdiv (z (tN i)) 4096)))))],[kv .u8 ((IntKind.wrap .u8 (IntKind.wrap .i32 (128+Int.tmod (IntKind.wrap .i32 (Int.tdiv (z (tN i)) 64)) 64))))],[kv .u8 ((IntKind.wrap .u8 (IntKind.wrap .i32 (128+Int.tmod (z (tN i)) 64))))]]⟩,some ⟨1,.app (.pre (.tab nb fun a a_1=>kv .u8 ((wb a))) nb) (.lst [[kv .u8 ((IntKind.wrap .u8 (IntKind.wrap .i32 (224+IntKind.wrap .i32 (Int.tdiv (z (tN i)) 4096)))))],[kv .u8 ((IntKind.wrap .u8 (IntKind.wrap .i32 (128+Int.tmod (IntKind.wrap .i32 (Int.tdiv (z (tN i)) 64)) 64))))],[kv .u8 ((IntKind.wrap .u8 (IntKind.wrap .i32 (128+Int.tmod (z (tN i)) 64))))]])⟩]
  else none else none else bif decide (nb≤DC.n (.tab nb (rowI IntKind.u8 wb))) then bif decide ((nb+4)*(1:Nat)≤140737488355328) then K .normal 95 [.sl t (fun a a_1=>kv .i32 ((z a))) 1 n,.os 3 0 (nb+4),iv (IntKind.wrap .i64 ((i:Int)+1))] [.os 3 0 (nb+4)] [none,none,some ⟨1,.lst [[kv .u8 ((IntKind.wrap .u8 (IntKind.wrap .i32 (240+IntKind.wrap .i32 (Int.tdiv (z (tN i)) 262144)))))],[kv .u8 ((IntKind.wrap .u8 (IntKind.wrap .i32 (128+Int.tmod (IntKind.wrap .i32 (Int.tdiv (z (tN i)) 4096)) 64))))],[kv .u8 ((IntKind.wrap .u8 (IntKind.wrap .i32 (128+Int.tmod (IntKind.wrap .i32 (Int.tdiv (z (tN i)) 64)) 64))))],[kv .u8 ((IntKind.wrap .u8 (IntKind.wrap .i32 (128+Int.tmod (z (tN i)) 64))))]]⟩,some ⟨1,.app (.pre (.tab nb fun a a_1=>kv .u8 ((wb a))) nb) (.lst [[kv .u8 ((IntKind.wrap .u8 (IntKind.wrap .i32 (240+IntKind.wrap .i32 (Int.tdiv (z (tN i)) 262144)))))],[kv .u8 ((IntKind.wrap .u8 (IntKind.wrap .i32 (128+Int.tmod (IntKind.wrap .i32 (Int.tdiv (z (tN i)) 4096)) 64))))],[kv .u8 ((IntKind.wrap .u8 (IntKind.wrap .i32 (128+Int.tmod (IntKind.wrap .i32 (Int.tdiv (z (tN i)) 64)) 64))))],[kv .u8 ((IntKind.wrap .u8 (IntKind.wrap .i32 (128+Int.tmod (z (tN i)) 64))))]])⟩]
  else none else none else none else none else K (.exit 0) 95 [.sl t (fun a a_1=>kv .i32 ((z a))) 1 n,.os 1 0 nb,iv (i:Int)] [.os 1 0 nb] [none,some ⟨1,.tab nb fun a a_1=>kv .u8 ((wb a))⟩]:=by
 kernel_rfl
theorem en_ls {st:AE.Stat}:LoopS Tryz.prog st gl0 (.loop (loopAt Tryz.f90 58)) enI.g:=by
 refine enI.ok (E:=env [] noLp 0) (p:=500) (tblD_env (l:=[]) (fun _ h=>nomatch h)) (glOk st).1 (fun _ _ _ h=>nomatch h) (fun x k h=>h) fun x hx=>?_
 obtain ⟨t,z,n,i,b⟩:=x
 obtain ⟨h1,h2,h3⟩:i≤n∧n≤9000000∧b.length≤4*i:=hx
 refine (enc_loop t z n i b.length (lw b) _).trans ?_
 simp only [Int.toNat_natCast,Nat.add_zero]
 refine dS (fun hlt=>?_) fun hge=>?_
 ·have hlt:i<n:=by omega
  have hW:IntKind.i64.wrap ((i:Int)+1)=((i+1:Nat):Int):=by rw [W_in (by omega) (by omega)]; omega
  rw [hW]
  have hn:b.length≤DC.n (DC.tab b.length (rowI IntKind.u8 (lw b))):=Nat.le_refl _
  have next:∀ (M:List Int) (m:Nat) (x:DBlk),enB (z i)=M→M.length=m→m≤4→enI.ask ⟨t,z,n,i,b⟩ .normal 95 [.sl t (rowI .i32 z) 1 n,.os 3 0 (b.length+m),iv ((i+1:Nat):Int)] [.os 3 0 (b.length+m)]
    [none,none,some x,some ⟨1,.app (.pre (.tab b.length (rowI .u8 (lw b))) b.length) (.lst (M.map fun v=>[kv .u8 v]))⟩]=some ():=fun M m x hM hm hm4=>by
   subst hm
   have hr:EX.r ⟨t,z,n,i+1,b++M⟩=EX.r ⟨t,z,n,i,b⟩:=by
    have:n-i=(n-(i+1))+1:=by omega
    simp only [EX.r,this,enR,hM]
   refine LInv.ask_of ⟨rfl,⟨t,z,n,i+1,b++M⟩,⟨rfl,by simp only [enI,hr],by simp only [enI,hr],⟨hlt,h2,?_⟩⟩,?_,[3],?_⟩
   ·simp only [List.length_append]; omega
   ·simp only [enI]; omega
   ·show WkP 1 [3] _ _ [.sl t (rowI .i32 z) 1 n,.os 1 0 (b++M).length,iv ((i+1:Nat):Int)] [none,some (lstB .u8 (b++M))]
    rw [List.length_append]
    exact .of (im:=[some 3]) (.cons (.sl _ _ _ _) (.cons (.os rfl) (.cons (.v _) .nil))) rfl ⟨⟨3,_,rfl,rfl,(HasL.app rfl .tab (.lst M)).sub⟩,trivial⟩ rfl (by decide)
  refine dT (by omega) (dT hlt ?_)
  unfold enB at next
  refine dS (fun a1=>?_) fun a1=>dS (fun a2=>?_) fun a2=>dS (fun a3=>dS (fun a4=>?_) fun a4=>?_) fun a3=>?_
  ·exact dT hn (dT (by omega) (next [239,191,189] 3 _ (by rw [if_pos a1]) rfl (by decide)))
  ·exact dT hn (dT (by omega) (next [239,191,189] 3 _ (by rw [if_neg a1,if_pos a2]) rfl (by decide)))
  ·exact dT hn (dT (by omega) (next [239,191,189] 3 _ (by rw [if_neg a1,if_neg a2,if_pos ⟨a3,a4⟩]) rfl (by decide)))
  ·have a34:¬ (z i ≥ 55296∧z i≤57343):=fun h=>a4 h.2
   refine dS (fun a5=>?_) fun a5=>dS (fun a6=>?_) fun a6=>dS (fun a7=>?_) fun a7=>?_
   ·exact dT hn (dT (by omega) (next (enc1 (z i)) 1 _ (by rw [if_neg a1,if_neg a2,if_neg a34,if_pos a5]) rfl (by decide)))
   ·exact dT hn (dT (by omega) (next (enc2 (z i)) 2 _ (by rw [if_neg a1,if_neg a2,if_neg a34,if_neg a5,if_pos a6]) rfl (by decide)))
   ·exact dT hn (dT (by omega) (next (enc3 (z i)) 3 _ (by rw [if_neg a1,if_neg a2,if_neg a34,if_neg a5,if_neg a6,if_pos a7]) rfl (by decide)))
   ·exact dT hn (dT (by omega) (next (enc4 (z i)) 4 _ (by rw [if_neg a1,if_neg a2,if_neg a34,if_neg a5,if_neg a6,if_neg a7]) rfl (by decide)))
  ·have a34:¬ (z i ≥ 55296∧z i≤57343):=fun h=>a3 h.1
   refine dS (fun a5=>?_) fun a5=>dS (fun a6=>?_) fun a6=>dS (fun a7=>?_) fun a7=>?_
   ·exact dT hn (dT (by omega) (next (enc1 (z i)) 1 _ (by rw [if_neg a1,if_neg a2,if_neg a34,if_pos a5]) rfl (by decide)))
   ·exact dT hn (dT (by omega) (next (enc2 (z i)) 2 _ (by rw [if_neg a1,if_neg a2,if_neg a34,if_neg a5,if_pos a6]) rfl (by decide)))
   ·exact dT hn (dT (by omega) (next (enc3 (z i)) 3 _ (by rw [if_neg a1,if_neg a2,if_neg a34,if_neg a5,if_neg a6,if_pos a7]) rfl (by decide)))
   ·exact dT hn (dT (by omega) (next (enc4 (z i)) 4 _ (by rw [if_neg a1,if_neg a2,if_neg a34,if_neg a5,if_neg a6,if_neg a7]) rfl (by decide)))
 ·obtain rfl:i=n:=by omega
  have hr:EX.r ⟨t,z,i,i,b⟩=b:=by simp only [EX.r,Nat.sub_self,enR]
  refine LInv.ask_of ⟨rfl,rfl,[1],?_⟩
  simp only [enI,hr]
  exact .of (im:=[some 1]) (.cons (.os rfl) .nil) rfl ⟨⟨1,_,rfl,rfl,HasL.tab.sub⟩,trivial⟩ rfl (by decide)
theorem enc_tree (t:Bool) (z:Nat→Int) (n:Nat) (k:DV→Option Unit):bodyD Tryz.prog (env [] (lpOf [(58,enI.g)]) 0) Tryz.f90 [.sl t (rowI .i32 z) 1 n] [] (fun d _=>k d) =
  bif holds ((Nat.le 0 n∧Nat.le n 9000000∧Nat.le 0 0)∧∃ ids,WkP 1 ids [.sl t (fun a a_1=>kv .i32 ((z a))) 1 n,.os 0 0 0,iv 0] [some ⟨1,.lst []⟩] [.sl t (fun a a_1=>kv .i32 (((fun i=>numD (kv .i32 ((z i)))) a))) 1 n,.os 1 0 0,iv 0] [none,some ⟨1,.tab 0 fun a a_1=>kv .u8 ((lw [] a))⟩])
  then bif decide (0+List.length (EX.r { t:=t,z:=fun i=>numD (kv .i32 ((z i))),n:=n,i:=0,b:=[] })≤DC.n (DBlk.c (lstB IntKind.u8 (EX.r { t:=t,z:=fun i=>numD (kv .i32 ((z i))),n:=n,i:=0,b:=[] }))))
  then bif intsD IntKind.u8 (List.length (EX.r { t:=t,z:=fun i=>numD (kv .i32 ((z i))),n:=n,i:=0,b:=[] })) (subC (DBlk.c (lstB IntKind.u8 (EX.r { t:=t,z:=fun i=>numD (kv .i32 ((z i))),n:=n,i:=0,b:=[] }))) 0 (List.length (EX.r { t:=t,z:=fun i=>numD (kv .i32 ((z i))),n:=n,i:=0,b:=[] })))
  then k (sv (bytesS (List.length (EX.r { t:=t,z:=fun i=>numD (kv .i32 ((z i))),n:=n,i:=0,b:=[] })) fun j=>numD (kv .u8 ((lw (EX.r { t:=t,z:=fun i=>numD (kv .i32 ((z i))),n:=n,i:=0,b:=[] }) (0+j))))))
  else none else none else none:=by
 kernel_rfl
def encF (z:Nat→Int) (n:Nat):ByteArray:=bytesS (enR z n 0 []).length (lw (enR z n 0 []))
theorem enc_true (t:Bool) (z:Nat→Int) (n:Nat) (hn:n≤9000000):bodyD Tryz.prog (env [] (lpOf [(58,enI.g)]) 0) Tryz.f90 [.sl t (rowI .i32 z) 1 n] [] (fun d _=>isD (sv (encF z n)) d)=some ():=by
 refine (enc_tree t z n _).trans (hT ⟨⟨Nat.zero_le _,hn,Nat.le_refl _⟩,[0],?_⟩ (dT ?_ (cT ?_ (isD_of ?_))))
 ·exact .of (im:=[some 0]) (.cons (.sl _ _ _ _) (.cons (.os rfl) (.cons (.v _) .nil))) rfl ⟨⟨0,_,rfl,rfl,(HasL.nil (q:=.u8) (c:=.lst []) trivial).sub⟩,trivial⟩ rfl (by decide)
 ·rw [Nat.zero_add]
  exact Nat.le_refl _
 ·refine intsD_iff.2 fun j hj=>?_
  rw [subC_get hj,Nat.zero_add]
  rfl
 ·simp only [Nat.zero_add]
  rfl
noncomputable def encC:ConF:=fun args k=>match args with
 | [d]=>rowK .i32 d fun z n=>bif decide (n≤9000000) then k (fun _=>(sv (encF z n),[])) else none
 | _=>none
theorem encC_ok {st:AE.Stat}(hx:Hx st):ConOk Tryz.prog st 90 encC:=by
 refine con_flat (mg:=[]) (l:=[]) (lp:=lpOf [(58,enI.g)]) (n:=0) (glOk st) (fun _ h=>nomatch h) Tryz.func90 (by kernel_rfl) (by kernel_rfl) (hx 90 rfl) (lp_one (by kernel_rfl) en_ls) fun args k hk=>?_
 unfold encC at hk
 split at hk<;>first | (cases hk; done) | skip
 rename_i d
 obtain ⟨t,z,n,hk,hc⟩:=rowK_some hk
 obtain ⟨hn,hk⟩:=dec_none hk
 exact ⟨[.sl t (rowI .i32 z) 1 n],_,.cons hc .nil,v_clo _,hk,enc_true t z n hn⟩
end Go.Proofs.YtigmkgampfbflaaGreatDoor
