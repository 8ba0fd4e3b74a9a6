/-
 The contract of grid.Resize.
 Conditions: none beyond those of the contracts.
-/
import Derived.Test.YtigmkgampfbflaaGreatDoorJPgc
namespace Go.Proofs.YtigmkgampfbflaaGreatDoor
open Go Go.AE Go.DE Go.RowKit
noncomputable abbrev gzT (Q:(Nat→Nat→DV)→Nat→Prop) (M:Row→Nat→Row) (Q2:(Nat→Nat→DV)→(Nat→Nat→DV)→Prop) (B:Int→Nat→Nat→DV):List (FuncId×ConF):=[(97,fiC Q M),(153,bnC Q2 B)]
theorem gz0_loop (w h w2 h2 i:Int) (R:Nat→Row) (n:Nat) (Q:(Nat→Nat→DV)→Nat→Prop) (M:Row→Nat→Row) (Q2:(Nat→Nat→DV)→(Nat→Nat→DV)→Prop) (B:Int→Nat→Nat→DV) (b1:Option DBlk) (K:Ex→Nat→List DV→List DV→DHeap→Option Unit):execD Tryz.prog (envZ (gzT Q M Q2 B) noLp 0) (loopAt Tryz.f55 1018) 500 (temps 64 [1,3,6,10,11,35,36] [iv w2,.po 0 0 0,.po 1 0 0,.fn (.func 153) [] [.po 2 0 0,.po 3 0 0],.po 4 0 0,iv h2,iv i]) [some ⟨3,.lst [[iv w,iv h,.sl false (rowsD (fun _=>false) R) 1 n]]⟩,b1,some ⟨1,.lst [[iv w2]]⟩,some ⟨3,.lst [[iv (-1),iv (-1),iv 0]]⟩,some ⟨3,.lst [[iv w2,iv h2,.v (.slice none 0 0)]]⟩,none] (fun e τ σ=>K e τ.length (pick [1,3,6,10,11,35,36] τ) (pick [6,11] τ) σ) =
  bif decide (i<h2) then bif decide (i<h) then bif decide (0≤i) then bif decide (i<(n:Int)) then bif decide (Int.toNat i+0<n) then bif holds (Q (Row.cell (R (Int.toNat i+0))) (Row.n (R (Int.toNat i+0))))
  then bif bif decide (1≤w2) then decide (w2≤30) else false then K .normal 64 [iv w2,.po 0 0 0,.po 1 0 0,.fn (Fn.func 153) [] [.po 2 0 0,.po 3 0 0],.po 4 0 0,iv h2,iv (IntKind.wrap .i64 (i+1))] [.po 1 0 0,.po 4 0 0] [some ⟨3,.lst [[iv w,iv h,.sl false (fun a a_1=>DV.sl ((fun x=>false) a) (Row.cell (R a)) 5 (Row.n (R a))) 1 n]]⟩,b1,some ⟨1,.lst [[iv w2]]⟩,some ⟨3,.lst [[iv (-1:Int),iv (-1:Int),iv 0]]⟩,some ⟨3,.upd (.lst [[iv w2,iv h2,DV.v (Value.slice none 0 0)]]) 0 2 (.os 7 0 1)⟩,none,some ⟨1,.lst [[.sl false (Row.cell (M (rowOf (Row.cell (R (Int.toNat i+0))) (Row.n (R (Int.toNat i+0)))) (Int.toNat w2))) 5 (Int.toNat w2)]]⟩,some ⟨1,.lst [[.sl false (Row.cell (M (rowOf (Row.cell (R (Int.toNat i+0))) (Row.n (R (Int.toNat i+0)))) (Int.toNat w2))) 5 (Int.toNat w2)]]⟩]
  else none else none else none else none else none else bif holds (Q2 (fun j f=>lend1 (DC.get (.lst [[iv w2]]) j f)) fun j f=>lend1 (DC.get (.lst [[iv (-1:Int),iv (-1:Int),iv 0]]) j f)) then K .normal 64 [iv w2,.po 0 0 0,.po 1 0 0,.fn (Fn.func 153) [] [.po 2 0 0,.po 3 0 0],.po 4 0 0,iv h2,iv (IntKind.wrap .i64 (i+1))] [.po 1 0 0,.po 4 0 0] [some ⟨3,.lst [[iv w,iv h,.sl false (fun a a_1=>DV.sl ((fun x=>false) a) (Row.cell (R a)) 5 (Row.n (R a))) 1 n]]⟩,b1,some ⟨1,.lst [[iv w2]]⟩,some ⟨3,.lst [[iv (-1:Int),iv (-1:Int),iv 0]]⟩,some ⟨3,.upd (.lst [[iv w2,iv h2,DV.v (Value.slice none 0 0)]]) 0 2 (.os 7 0 1)⟩,none,some ⟨1,.lst [[.sl false (B (numD (iv w2))) 5 (Int.toNat (numD (iv w2)))]]⟩,some ⟨1,.lst [[.sl false (B (numD (iv w2))) 5 (Int.toNat (numD (iv w2)))]]⟩]
  else none else K (.exit 0) 64 [iv w2,.po 0 0 0,.po 1 0 0,.fn (Fn.func 153) [] [.po 2 0 0,.po 3 0 0],.po 4 0 0,iv h2,iv i] [.po 1 0 0,.po 4 0 0] [some ⟨3,.lst [[iv w,iv h,.sl false (fun a a_1=>DV.sl ((fun x=>false) a) (Row.cell (R a)) 5 (Row.n (R a))) 1 n]]⟩,b1,some ⟨1,.lst [[iv w2]]⟩,some ⟨3,.lst [[iv (-1:Int),iv (-1:Int),iv 0]]⟩,some ⟨3,.lst [[iv w2,iv h2,DV.v (Value.slice none 0 0)]]⟩,none]:=by
 kernel_rfl
theorem gz1_loop (w h w2 h2 i:Int) (R:Nat→Row) (n m:Nat) (g:Nat→Nat→DV) (Q:(Nat→Nat→DV)→Nat→Prop) (M:Row→Nat→Row) (Q2:(Nat→Nat→DV)→(Nat→Nat→DV)→Prop) (B:Int→Nat→Nat→DV) (b1:Option DBlk) (K:Ex→Nat→List DV→List DV→DHeap→Option Unit):execD Tryz.prog (envZ (gzT Q M Q2 B) noLp 0) (loopAt Tryz.f55 1018) 500 (temps 64 [1,3,6,10,11,35,36] [iv w2,.po 0 0 0,.po 1 0 0,.fn (.func 153) [] [.po 2 0 0,.po 3 0 0],.po 4 0 0,iv h2,iv i]) [some ⟨3,.lst [[iv w,iv h,.sl false (rowsD (fun _=>false) R) 1 n]]⟩,b1,some ⟨1,.lst [[iv w2]]⟩,some ⟨3,.lst [[iv (-1),iv (-1),iv 0]]⟩,some ⟨3,.lst [[iv w2,iv h2,.os 5 0 m]]⟩,some ⟨1,.tab m g⟩] (fun e τ σ=>K e τ.length (pick [1,3,6,10,11,35,36] τ) (pick [6,11] τ) σ) =
  bif decide (i<h2) then bif decide (i<h) then bif decide (0≤i) then bif decide (i<(n:Int)) then bif decide (Int.toNat i+0<n) then bif holds (Q (Row.cell (R (Int.toNat i+0))) (Row.n (R (Int.toNat i+0))))
  then bif bif decide (1≤w2) then decide (w2≤30) else false then bif decide (m≤DC.n (.tab m g)) then bif decide ((m+1)*(24:Nat)≤140737488355328) then K .normal 64 [iv w2,.po 0 0 0,.po 1 0 0,.fn (Fn.func 153) [] [.po 2 0 0,.po 3 0 0],.po 4 0 0,iv h2,iv (IntKind.wrap .i64 (i+1))] [.po 1 0 0,.po 4 0 0] [some ⟨3,.lst [[iv w,iv h,.sl false (fun a a_1=>DV.sl ((fun x=>false) a) (Row.cell (R a)) 5 (Row.n (R a))) 1 n]]⟩,b1,some ⟨1,.lst [[iv w2]]⟩,some ⟨3,.lst [[iv (-1:Int),iv (-1:Int),iv 0]]⟩,some ⟨3,.upd (.lst [[iv w2,iv h2,.os 5 0 m]]) 0 2 (.os 7 0 (m+1))⟩,none,some ⟨1,.lst [[.sl false (Row.cell (M (rowOf (Row.cell (R (Int.toNat i+0))) (Row.n (R (Int.toNat i+0)))) (Int.toNat w2))) 5 (Int.toNat w2)]]⟩,some ⟨1,.app (.pre (.tab m g) m) (.lst [[.sl false (Row.cell (M (rowOf (Row.cell (R (Int.toNat i+0))) (Row.n (R (Int.toNat i+0)))) (Int.toNat w2))) 5 (Int.toNat w2)]])⟩]
  else none else none else none else none else none else none else none else bif holds (Q2 (fun j f=>lend1 (DC.get (.lst [[iv w2]]) j f)) fun j f=>lend1 (DC.get (.lst [[iv (-1:Int),iv (-1:Int),iv 0]]) j f))
  then bif decide (m≤DC.n (.tab m g)) then bif decide ((m+1)*(24:Nat)≤140737488355328) then K .normal 64 [iv w2,.po 0 0 0,.po 1 0 0,.fn (Fn.func 153) [] [.po 2 0 0,.po 3 0 0],.po 4 0 0,iv h2,iv (IntKind.wrap .i64 (i+1))] [.po 1 0 0,.po 4 0 0] [some ⟨3,.lst [[iv w,iv h,.sl false (fun a a_1=>DV.sl ((fun x=>false) a) (Row.cell (R a)) 5 (Row.n (R a))) 1 n]]⟩,b1,some ⟨1,.lst [[iv w2]]⟩,some ⟨3,.lst [[iv (-1:Int),iv (-1:Int),iv 0]]⟩,some ⟨3,.upd (.lst [[iv w2,iv h2,.os 5 0 m]]) 0 2 (.os 7 0 (m+1))⟩,none,some ⟨1,.lst [[.sl false (B (numD (iv w2))) 5 (Int.toNat (numD (iv w2)))]]⟩,some ⟨1,.app (.pre (.tab m g) m) (.lst [[.sl false (B (numD (iv w2))) 5 (Int.toNat (numD (iv w2)))]])⟩]
  else none else none else none else K (.exit 0) 64 [iv w2,.po 0 0 0,.po 1 0 0,.fn (Fn.func 153) [] [.po 2 0 0,.po 3 0 0],.po 4 0 0,iv h2,iv i] [.po 1 0 0,.po 4 0 0] [some ⟨3,.lst [[iv w,iv h,.sl false (fun a a_1=>DV.sl ((fun x=>false) a) (Row.cell (R a)) 5 (Row.n (R a))) 1 n]]⟩,b1,some ⟨1,.lst [[iv w2]]⟩,some ⟨3,.lst [[iv (-1:Int),iv (-1:Int),iv 0]]⟩,some ⟨3,.lst [[iv w2,iv h2,.os 5 0 m]]⟩,some ⟨1,.tab m g⟩]:=by
 kernel_rfl
def rzR (R:Nat→Row) (n k:Nat):Nat→Row:=fun i=>⟨k,fun j=>(if i<n then fitR (R i) k else blkRow k).tx j,fun j=>(if i<n then fitR (R i) k else blkRow k).wd j,fun j=>(if i<n then fitR (R i) k else blkRow k).fo j,fun j=>(if i<n then fitR (R i) k else blkRow k).ba j,fun j=>(if i<n then fitR (R i) k else blkRow k).fl j⟩
theorem rzR_lt {R:Nat→Row}{n k i:Nat}(h:i<n):rzR R n k i=fitR (R i) k:=by
 unfold rzR
 simp only [if_pos h]
 rfl
theorem rzR_ge {R:Nat→Row}{n k i:Nat}(h:¬ i<n):rzR R n k i=blkRow k:=by
 unfold rzR
 simp only [if_neg h]
 rfl
abbrev rzD (R:Nat→Row) (n k:Nat):Nat→Nat→DV:=rowsD (fun _=>false) (rzR R n k)
structure GZX where
 w:Int
 w2:Int
 R:Nat→Row
 n:Nat
 h2:Nat
 i:Nat
def gzH (x:GZX) (d:DV):DHeap:=[some ⟨3,.lst [[iv x.w,iv x.n,.sl false (rowsD (fun _=>false) x.R) 1 x.n]]⟩,some gz0,some ⟨1,.lst [[iv x.w2]]⟩,some ⟨3,.lst [[iv (-1),iv (-1),iv 0]]⟩,some ⟨3,.lst [[iv x.w2,iv x.h2,d]]⟩]
def GZX.ok (x:GZX):Prop:=1≤x.w2∧x.w2≤30∧x.h2≤60∧1≤x.h2∧x.n≤60∧∀ j,j<x.n→(x.R j).sized∧rowF (x.R j)=0
noncomputable def gzI:LInv GZX where
 pre x:=x.i≤x.h2∧x.ok
 m:=5
 n:=64
 ps:=[1,3,6,10,11,35,36]
 sd x:=[iv x.w2,.po 0 0 0,.po 1 0 0,.fn (.func 153) [] [.po 2 0 0,.po 3 0 0],.po 4 0 0,iv x.h2,iv x.i]
 sh x:=gzH x (outD 5 x.i)++[outB (rzD x.R x.n x.w2.toNat) x.i]
 meas x:=x.h2-x.i
 e _:=.exit 0
 qs:=[6,11]
 od _:=[.po 1 0 0,.po 4 0 0]
 oh x:=gzH x (.os 5 0 x.h2)++[some ⟨1,.tab x.h2 (rzD x.R x.n x.w2.toNat)⟩]
 guess ds σ:=match ds,σ with
  | [.v (.int .i64 w2),_,_,_,_,.v (.int .i64 h2),_],[some b,_,_,_,_]=>match b.c.get 0 0,b.c.get 0 2 with
   | .v (.int .i64 w),.sl _ G _ n=>some ⟨w,w2,fun i=>rowD (G i 0),n,h2.toNat,0⟩
   | _,_=>none
  | _,_=>none
 cps x k:=k (.exit 0) [.po 1 0 0,.po 4 0 0] (gzH x (.os 5 0 x.h2)++[some ⟨1,.tab x.h2 (rzD x.R x.n x.w2.toNat)⟩])
theorem gone_sub {r:Nat→Option Nat}{g:Nat→Nat→DV}{d:DV}(h:g 0 0=d) (hc:Clo d):SubC r ⟨1,.tab 1 g⟩ ⟨1,.lst [[d]]⟩:=⟨rfl,Nat.le_refl _,trivial,fun j f hj hf=>by
 have hj:j<1:=hj
 have hf:f<1:=hf
 obtain rfl:j=0:=by omega
 obtain rfl:f=0:=by omega
 subst h
 exact .of_clo hc⟩
theorem gapp_sub {r:Nat→Option Nat}{g:Nat→Nat→DV}{m:Nat}{d:DV}(h:g m 0=d) (hc:∀ j f,Clo (g j f)):SubC r ⟨1,.tab (m+1) g⟩ ⟨1,.app (.pre (.tab m g) m) (.lst [[d]])⟩:=⟨rfl,Nat.le_refl _,trivial,fun j f hj hf=>by
 have hj:j<m+1:=hj
 have hf:f<1:=hf
 obtain rfl:f=0:=by omega
 subst h
 show Sub _ (g j 0) (if j<m then g j 0 else ([[g m 0]].getD (j-m) []).getD 0 .any)
 by_cases h:j<m
 ·rw [if_pos h]
  exact .of_clo (hc _ _)
 ·obtain rfl:j=m:=by omega
  rw [if_neg h,Nat.sub_self]
  exact .of_clo (hc _ _)⟩
theorem tm_gz {ids:List Nat}{w2:Int}{h2:Nat}{i:Nat}{z:Int}(hz:z=(i:Int)):SubL (ren 5 ids) [iv w2,.po 0 0 0,.po 1 0 0,.fn (.func 153) [] [.po 2 0 0,.po 3 0 0],.po 4 0 0,iv h2,iv i] [iv w2,.po 0 0 0,.po 1 0 0,.fn (.func 153) [] [.po 2 0 0,.po 3 0 0],.po 4 0 0,iv h2,iv z]:=by
 subst hz
 exact .cons (.v _) (.cons (.po rfl) (.cons (.po rfl) (.cons (fn2_sub (by decide) (by decide)) (.cons (.po rfl) (.cons (.v _) (.cons (.v _) .nil))))))
theorem rzD_clo (R:Nat→Row) (n k i f:Nat):Clo (rzD R n k i f):=.sl _ _ _ _
theorem gz_next {x:GZX}(hx:x.ok) (hlt:x.i<x.h2) {old:DV}{blk:DBlk}{b6:Option DBlk}{od:List DV}(hs:SubC (ren 5 [7]) ⟨1,.tab (x.i+1) (rzD x.R x.n x.w2.toNat)⟩ blk) :
  gzI.Q x .normal 64 [iv x.w2,.po 0 0 0,.po 1 0 0,.fn (.func 153) [] [.po 2 0 0,.po 3 0 0],.po 4 0 0,iv x.h2,iv (IntKind.i64.wrap ((x.i:Int)+1))] od
   [some ⟨3,.lst [[iv x.w,iv x.n,.sl false (rowsD (fun _=>false) x.R) 1 x.n]]⟩,some gz0,some ⟨1,.lst [[iv x.w2]]⟩,some ⟨3,.lst [[iv (-1),iv (-1),iv 0]]⟩,some ⟨3,.upd (.lst [[iv x.w2,iv x.h2,old]]) 0 2 (.os 7 0 (x.i+1))⟩,none,b6,some blk]:=by
 obtain ⟨w,w2,R,n,h2,i⟩:=x
 have q:=hx
 obtain ⟨q1,q2,q3,q4,q5,q6⟩:=hx
 have hlt:i<h2:=hlt
 have q3:h2≤60:=q3
 refine ⟨rfl,⟨w,w2,R,n,h2,i+1⟩,⟨rfl,rfl,rfl,hlt,q⟩,by simp only [gzI]; omega,[7],.of (im:=[some 0,some 1,some 2,some 3,some 4,some 7]) (tm_gz (i:=i+1) (by show IntKind.i64.wrap ((i:Int)+1)=((i+1:Nat):Int); rw [W_in (by omega) (by omega)]; omega)) rfl ?_ rfl (by decide)⟩
 exact ⟨⟨0,_,rfl,rfl,(KB.lst (lst3 (.v _) (.v _) (.sl _ _ _ _)) (Nat.le_refl _)).sub⟩,⟨1,_,rfl,rfl,gz0_kb.sub⟩,⟨2,_,rfl,rfl,(KB.lst (lst1 (.v _)) (Nat.le_refl _)).sub⟩,⟨3,_,rfl,rfl,(KB.lst (lst3 (.v _) (.v _) (.v _)) (Nat.le_refl _)).sub⟩,⟨4,_,rfl,rfl,g3_sub (.v _) (.v _) (.os rfl)⟩,⟨7,_,rfl,rfl,hs⟩,trivial⟩
theorem gz_ls {st:AE.Stat}(hx:Hx st) (hv:VdOk st) (hk:∀ a σ,st.ext 157 a σ=RL.app σ (blkX a σ.length)):LoopSR true Tryz.prog st gl0 (.loop (loopAt Tryz.f55 1018)) gzI.g:=by
 refine gzI.ok (E:=envZ (gzT fitQ fitR bnQ blkB) noLp 0) (p:=500) (tblD_env (l:=gzT fitQ fitR bnQ blkB) fun x h=>?_) (glOk st).1 (fun _ _ _ h=>nomatch h) (fun x k h=>h) fun x hx2=>?_
 ·simp only [gzT,List.mem_cons,List.not_mem_nil,or_false] at h
  rcases h with rfl | rfl
  ·exact fiC_ok hx hv hk
  ·dsimp only
   exact bnC_ok hx hk
 obtain ⟨w,w2,R,n,h2,i⟩:=x
 obtain ⟨hi,hok⟩:i≤h2∧GZX.ok ⟨w,w2,R,n,h2,i⟩:=hx2
 obtain ⟨q1,q2,q3,q4,q5,q6⟩:=id hok
 have q1:1≤w2:=q1
 have q2:w2≤30:=q2
 have q3:h2≤60:=q3
 have q4:1≤h2:=q4
 have q5:n≤60:=q5
 have fq:∀ j,j<n→fitQ (R j).cell (R j).n:=fun j hj=>⟨Row.ok (q6 j hj).1,(q6 j hj).2⟩
 have eL:∀ j,j<n→rzD R n w2.toNat j 0=.sl false (fitR (R j) w2.toNat).cell 5 w2.toNat:=fun j hj=>by
  show DV.sl false (rzR R n w2.toNat j).cell 5 w2.toNat=_
  rw [rzR_lt hj]
 have eG:∀ j,¬ j<n→rzD R n w2.toNat j 0=.sl false (blkB w2) 5 w2.toNat:=fun j hj=>by
  show DV.sl false (rzR R n w2.toNat j).cell 5 w2.toNat=_
  rw [rzR_ge hj]
  rfl
 cases i with
 | zero =>
  refine (gz0_loop w n w2 h2 ((0:Nat):Int) R n fitQ fitR bnQ blkB (some gz0) _).trans ?_
  simp only [Int.toNat_natCast,Nat.add_zero]
  refine dT (by omega) (dS (fun hlt=>?_) fun hge=>?_)
  ·have hlt:0<n:=by omega
   exact dT (by omega) (dT (by omega) (dT hlt (hT (fq 0 hlt) (dT2 q1 q2 (LInv.ask_of (gz_next (x:=⟨w,w2,R,n,h2,0⟩) hok q4 (gone_sub (eL 0 hlt) (.sl _ _ _ _))))))))
  ·have hge:¬ 0<n:=by omega
   exact hT (bnQ_of q1 q2) (LInv.ask_of (gz_next (x:=⟨w,w2,R,n,h2,0⟩) hok q4 (gone_sub (eG 0 hge) (.sl _ _ _ _))))
 | succ i =>
  refine (gz1_loop w n w2 h2 ((i+1:Nat):Int) R n (i+1) (rzD R n w2.toNat) fitQ fitR bnQ blkB (some gz0) _).trans ?_
  simp only [Int.toNat_natCast,Nat.add_zero]
  refine dS (fun hl=>?_) fun hg=>?_
  ·have hl:i+1<h2:=by omega
   refine dS (fun hlt=>?_) fun hge=>?_
   ·have hlt:i+1<n:=by omega
    exact dT (by omega) (dT (by omega) (dT hlt (hT (fq _ hlt) (dT2 q1 q2 (dT (Nat.le_refl _) (dT (by omega) (LInv.ask_of (gz_next (x:=⟨w,w2,R,n,h2,i+1⟩) hok hl (gapp_sub (eL _ hlt) (rzD_clo R n _))))))))))
   ·have hge:¬ i+1<n:=by omega
    exact hT (bnQ_of q1 q2) (dT (Nat.le_refl _) (dT (by omega) (LInv.ask_of (gz_next (x:=⟨w,w2,R,n,h2,i+1⟩) hok hl (gapp_sub (eG _ hge) (rzD_clo R n _))))))
  ·obtain rfl:h2=i+1:=by omega
   exact LInv.ask_of ⟨rfl,rfl,[5],.of (im:=[some 0,some 1,some 2,some 3,some 4,some 5]) (.cons (.po rfl) (.cons (.po rfl) .nil)) rfl ⟨⟨0,_,rfl,rfl,(KB.lst (lst3 (.v _) (.v _) (.sl _ _ _ _)) (Nat.le_refl _)).sub⟩,⟨1,_,rfl,rfl,gz0_kb.sub⟩,⟨2,_,rfl,rfl,(KB.lst (lst1 (.v _)) (Nat.le_refl _)).sub⟩,⟨3,_,rfl,rfl,(KB.lst (lst3 (.v _) (.v _) (.v _)) (Nat.le_refl _)).sub⟩,⟨4,_,rfl,rfl,g3_same (.v _) (.v _) (.os rfl)⟩,⟨5,_,rfl,rfl,rfl,Nat.le_refl _,trivial,fun j f hj hf=>.of_clo (rzD_clo R n _ j f)⟩,trivial⟩ rfl (by decide)⟩
theorem gz_tree (w w2 h2:Int) (t:Bool) (T:Nat→Bool) (R:Nat→Row) (n:Nat) (Q:Int→Int→(Nat→Nat→DV)→Nat→Prop) (K:DV→DHeap→Option Unit):bodyD Tryz.prog (envH Tryz.prog gl0 blH [(96,ryC Q),(67,szN),(94,sdC)] (lpOf [(1018,gzI.g)]) 0 [] true) Tryz.f55 [.agg [iv w,iv n,.sl t (rowsD T R) 1 n],iv w2,iv h2] [] (fun d σ=>K d σ) =
  bif holds (Q w (n:Int) (rowsD T R) n) then bif decide (0<n) then bif decide (0<n) then bif decide (w2<1) then K (.tup [.agg [iv 0,iv 0,DV.v (Value.slice none 0 0)],iv 2]) [some ⟨3,.upd (.upd (.upd (.lst [[iv w,iv (n:Int),.sl t (fun a a_1=>DV.sl (T a) (Row.cell (R a)) 5 (Row.n (R a))) 1 n]]) 0 0 (iv w)) 0 1 (iv (n:Int))) 0 2 (.sl false (fun a a_1=>DV.sl ((fun x=>false) a) (Row.cell ((fun i=>rowD (.sl (T i) (Row.cell (R i)) 5 (Row.n (R i)))) a)) 5 (Row.n ((fun i=>rowD (.sl (T i) (Row.cell (R i)) 5 (Row.n (R i)))) a))) 1 n)⟩,some ⟨3,.upd (.upd (.upd (.lst [[iv 0,iv 0,DV.v (Value.slice none 0 0)]]) 0 0 (iv 0)) 0 1 (iv 0)) 0 2 (DV.v (Value.slice none 0 0))⟩]
  else bif decide (w2 > 132) then K (.tup [.agg [iv 0,iv 0,DV.v (Value.slice none 0 0)],iv 2]) [some ⟨3,.upd (.upd (.upd (.lst [[iv w,iv (n:Int),.sl t (fun a a_1=>DV.sl (T a) (Row.cell (R a)) 5 (Row.n (R a))) 1 n]]) 0 0 (iv w)) 0 1 (iv (n:Int))) 0 2 (.sl false (fun a a_1=>DV.sl ((fun x=>false) a) (Row.cell ((fun i=>rowD (.sl (T i) (Row.cell (R i)) 5 (Row.n (R i)))) a)) 5 (Row.n ((fun i=>rowD (.sl (T i) (Row.cell (R i)) 5 (Row.n (R i)))) a))) 1 n)⟩,some ⟨3,.upd (.upd (.upd (.lst [[iv 0,iv 0,DV.v (Value.slice none 0 0)]]) 0 0 (iv 0)) 0 1 (iv 0)) 0 2 (DV.v (Value.slice none 0 0))⟩]
  else bif decide (h2<1) then K (.tup [.agg [iv 0,iv 0,DV.v (Value.slice none 0 0)],iv 2]) [some ⟨3,.upd (.upd (.upd (.lst [[iv w,iv (n:Int),.sl t (fun a a_1=>DV.sl (T a) (Row.cell (R a)) 5 (Row.n (R a))) 1 n]]) 0 0 (iv w)) 0 1 (iv (n:Int))) 0 2 (.sl false (fun a a_1=>DV.sl ((fun x=>false) a) (Row.cell ((fun i=>rowD (.sl (T i) (Row.cell (R i)) 5 (Row.n (R i)))) a)) 5 (Row.n ((fun i=>rowD (.sl (T i) (Row.cell (R i)) 5 (Row.n (R i)))) a))) 1 n)⟩,some ⟨3,.upd (.upd (.upd (.lst [[iv 0,iv 0,DV.v (Value.slice none 0 0)]]) 0 0 (iv 0)) 0 1 (iv 0)) 0 2 (DV.v (Value.slice none 0 0))⟩]
  else bif decide (h2 > 60) then K (.tup [.agg [iv 0,iv 0,DV.v (Value.slice none 0 0)],iv 2]) [some ⟨3,.upd (.upd (.upd (.lst [[iv w,iv (n:Int),.sl t (fun a a_1=>DV.sl (T a) (Row.cell (R a)) 5 (Row.n (R a))) 1 n]]) 0 0 (iv w)) 0 1 (iv (n:Int))) 0 2 (.sl false (fun a a_1=>DV.sl ((fun x=>false) a) (Row.cell ((fun i=>rowD (.sl (T i) (Row.cell (R i)) 5 (Row.n (R i)))) a)) 5 (Row.n ((fun i=>rowD (.sl (T i) (Row.cell (R i)) 5 (Row.n (R i)))) a))) 1 n)⟩,some ⟨3,.upd (.upd (.upd (.lst [[iv 0,iv 0,DV.v (Value.slice none 0 0)]]) 0 0 (iv 0)) 0 1 (iv 0)) 0 2 (DV.v (Value.slice none 0 0))⟩]
  else bif holds ((Nat.le 0 (Int.toNat h2)∧Int.NonNeg (w2-1)∧Int.NonNeg (30-w2)∧Nat.le (Int.toNat h2) 60∧Nat.le 1 (Int.toNat h2)∧Nat.le n 60∧∀ (j:Nat),j<n→(Nat.le (Row.n ((fun i=>rowD (.sl ((fun x=>false) i) (Row.cell ((fun i=>rowD (.sl (T i) (Row.cell (R i)) 5 (Row.n (R i)))) i)) 5 (Row.n ((fun i=>rowD (.sl (T i) (Row.cell (R i)) 5 (Row.n (R i)))) i)))) j)) 9000000∧∀ (i:Nat),i<Row.n ((fun i=>rowD (.sl ((fun x=>false) i) (Row.cell ((fun i=>rowD (.sl (T i) (Row.cell (R i)) 5 (Row.n (R i)))) i)) 5 (Row.n ((fun i=>rowD (.sl (T i) (Row.cell (R i)) 5 (Row.n (R i)))) i)))) j)→Nat.le (ByteArray.size (Row.tx ((fun i=>rowD (.sl ((fun x=>false) i) (Row.cell ((fun i=>rowD (.sl (T i) (Row.cell (R i)) 5 (Row.n (R i)))) i)) 5 (Row.n ((fun i=>rowD (.sl (T i) (Row.cell (R i)) 5 (Row.n (R i)))) i)))) j) i)) 9000000)∧rowF ((fun i=>rowD (.sl ((fun x=>false) i) (Row.cell ((fun i=>rowD (.sl (T i) (Row.cell (R i)) 5 (Row.n (R i)))) i)) 5 (Row.n ((fun i=>rowD (.sl (T i) (Row.cell (R i)) 5 (Row.n (R i)))) i)))) j)=0)∧∃ ids,WkP 5 ids [iv w2,.po 0 0 0,.po 1 0 0,.fn (Fn.func 153) [] [.po 2 0 0,.po 3 0 0],.po 4 0 0,iv h2,iv 0] [some ⟨3,.upd (.upd (.upd (.lst [[iv w,iv (n:Int),.sl t (fun a a_1=>DV.sl (T a) (Row.cell (R a)) 5 (Row.n (R a))) 1 n]]) 0 0 (iv w)) 0 1 (iv (n:Int))) 0 2 (.sl false (fun a a_1=>DV.sl ((fun x=>false) a) (Row.cell ((fun i=>rowD (.sl (T i) (Row.cell (R i)) 5 (Row.n (R i)))) a)) 5 (Row.n ((fun i=>rowD (.sl (T i) (Row.cell (R i)) 5 (Row.n (R i)))) a))) 1 n)⟩,some ⟨3,.lst [[iv 0,iv 0,DV.v (Value.slice none 0 0)]]⟩,some ⟨1,.lst [[iv w2]]⟩,some ⟨3,.lst [[iv (-1:Int),iv (-1:Int),iv 0]]⟩,some ⟨3,.upd (.upd (.upd (.lst [[iv 0,iv 0,DV.v (Value.slice none 0 0)]]) 0 0 (iv w2)) 0 1 (iv h2)) 0 2 (DV.v (Value.slice none 0 0))⟩] [iv w2,.po 0 0 0,.po 1 0 0,.fn (Fn.func 153) [] [.po 2 0 0,.po 3 0 0],.po 4 0 0,iv (↑(Int.toNat h2):Int),iv 0] [some ⟨3,.lst [[iv w,iv (n:Int),.sl false (fun a a_1=>DV.sl ((fun x=>false) a) (Row.cell ((fun i=>rowD (.sl ((fun x=>false) i) (Row.cell ((fun i=>rowD (.sl (T i) (Row.cell (R i)) 5 (Row.n (R i)))) i)) 5 (Row.n ((fun i=>rowD (.sl (T i) (Row.cell (R i)) 5 (Row.n (R i)))) i)))) a)) 5 (Row.n ((fun i=>rowD (.sl ((fun x=>false) i) (Row.cell ((fun i=>rowD (.sl (T i) (Row.cell (R i)) 5 (Row.n (R i)))) i)) 5 (Row.n ((fun i=>rowD (.sl (T i) (Row.cell (R i)) 5 (Row.n (R i)))) i)))) a))) 1 n]]⟩,some ⟨3,.lst [[iv 0,iv 0,DV.v (Value.slice none 0 0)]]⟩,some ⟨1,.lst [[iv w2]]⟩,some ⟨3,.lst [[iv (-1:Int),iv (-1:Int),iv 0]]⟩,some ⟨3,.lst [[iv w2,iv (↑(Int.toNat h2):Int),DV.v (Value.slice none 0 0)]]⟩,none])
  then K (.tup [.agg [iv w2,iv (↑(Int.toNat h2):Int),.os 5 0 (Int.toNat h2)],iv 0]) [some ⟨3,.lst [[iv w,iv (n:Int),.sl false (fun a a_1=>DV.sl ((fun x=>false) a) (Row.cell ((fun i=>rowD (.sl ((fun x=>false) i) (Row.cell ((fun i=>rowD (.sl (T i) (Row.cell (R i)) 5 (Row.n (R i)))) i)) 5 (Row.n ((fun i=>rowD (.sl (T i) (Row.cell (R i)) 5 (Row.n (R i)))) i)))) a)) 5 (Row.n ((fun i=>rowD (.sl ((fun x=>false) i) (Row.cell ((fun i=>rowD (.sl (T i) (Row.cell (R i)) 5 (Row.n (R i)))) i)) 5 (Row.n ((fun i=>rowD (.sl (T i) (Row.cell (R i)) 5 (Row.n (R i)))) i)))) a))) 1 n]]⟩,some ⟨3,.upd (.upd (.upd (.lst [[iv 0,iv 0,DV.v (Value.slice none 0 0)]]) 0 0 (iv w2)) 0 1 (iv (↑(Int.toNat h2):Int))) 0 2 (.os 5 0 (Int.toNat h2))⟩,some ⟨1,.lst [[iv w2]]⟩,some ⟨3,.lst [[iv (-1:Int),iv (-1:Int),iv 0]]⟩,some ⟨3,.lst [[iv w2,iv (↑(Int.toNat h2):Int),.os 5 0 (Int.toNat h2)]]⟩,some ⟨1,.tab (Int.toNat h2) fun a a_1=>DV.sl ((fun x=>false) a) (Row.cell (rzR (fun i=>rowD (.sl ((fun x=>false) i) (Row.cell ((fun i=>rowD (.sl (T i) (Row.cell (R i)) 5 (Row.n (R i)))) i)) 5 (Row.n ((fun i=>rowD (.sl (T i) (Row.cell (R i)) 5 (Row.n (R i)))) i)))) n (Int.toNat w2) a)) 5 (Row.n (rzR (fun i=>rowD (.sl ((fun x=>false) i) (Row.cell ((fun i=>rowD (.sl (T i) (Row.cell (R i)) 5 (Row.n (R i)))) i)) 5 (Row.n ((fun i=>rowD (.sl (T i) (Row.cell (R i)) 5 (Row.n (R i)))) i)))) n (Int.toNat w2) a))⟩]
  else none else none else none else none:=by
 kernel_rfl
noncomputable def gyC (Q:Int→Int→(Nat→Nat→DV)→Nat→Prop) (S:Int→Int→Bool) (M:(Nat→Row)→Nat→Nat→Nat→Row):ConF:=fun args k=>match args with
 | [.agg [.v (.int .i64 w),.v (.int .i64 h),.sl _ G 1 n],.v (.int .i64 w2),.v (.int .i64 h2)]=>bif holds (Q w h G n) then (bif decide (w2≤30) then (bif S w2 h2 then k (fun _=>(.tup [gridZ,iv 2],[]))
   else k (fun _=>(.tup [.agg [iv w2,iv h2,.sl false (rowsD (fun _=>false) (M (fun i=>rowD (G i 0)) n w2.toNat)) 1 h2.toNat],iv 0],[]))) else none) else none
 | _=>none
theorem g3_upd2 {r:Nat→Option Nat}{a b d a' b' d':DV}(ha:Clo a) (hb:Clo b) (hd:Clo d):SubC r ⟨3,.lst [[a,b,d]]⟩ ⟨3,.upd (.upd (.upd (.lst [[a',b',d']]) 0 0 a) 0 1 b) 0 2 d⟩:=g3_upd ha hb (.of_clo hd)
theorem gyC_ok {st:AE.Stat}(hx:Hx st) (hv:VdOk st) (hk:∀ a σ,st.ext 157 a σ=RL.app σ (blkX a σ.length)):ConOkZ true Tryz.prog st 55 (gyC gridGo szF2 rzR):=by
 refine con_frz (E:=envH Tryz.prog gl0 blH [(96,ryC gridGo),(67,szN),(94,sdC)] (lpOf [(1018,gzI.g)]) 0 [] true) rfl (glOk st) (envH_ok (fun e h=>?_) fun x h=>?_) Tryz.func55 (by kernel_rfl) (by kernel_rfl) (hx 55 rfl)
  (lp_in (c0:=.loop (loopAt Tryz.f55 1018)) (by kernel_rfl) (gz_ls hx hv hk)) fun args k hk=>?_
 ·simp only [blH,List.mem_cons,List.not_mem_nil,or_false] at h
  subst h
  exact ⟨Tryz.func93,by kernel_rfl,by kernel_rfl,hx 93 rfl,tblD_env (fun _ h=>nomatch h),glOk st,(fun _ _ _ h=>nomatch h),rfl⟩
 ·simp only [List.mem_cons,List.not_mem_nil,or_false] at h
  rcases h with rfl | rfl | rfl
  ·exact ryC_ok hx hv
  ·exact (szN_ok hx).z
  ·exact (sdC_ok hx).z
 unfold gyC at hk
 split at hk<;>first | (cases hk; done) | skip
 rename_i w h t G n w2 h2
 obtain ⟨hb,hk2⟩:=bif_none hk
 obtain ⟨hw,hk3⟩:=dec_none hk2
 clear hk hk2
 have q:=holds_eq.1 hb
 clear hb
 obtain ⟨p1,p2,p3,p4,p5,p6,p7⟩:=id q
 subst p5
 have hp:0<n:=by omega
 have q':gridGo w n (rowsD (fun i=>slT (G i 0)) fun i=>rowD (G i 0)) n:=⟨p1,p2,p3,p4,rfl,p6,fun i hi=>⟨isRow_of (p7 i hi).1.2.row,(p7 i hi).2⟩⟩
 have args:CvL [.agg [iv w,iv n,.sl t G 1 n],iv w2,iv h2] [.agg [iv w,iv n,.sl t (rowsD (fun i=>slT (G i 0)) fun i=>rowD (G i 0)) 1 n],iv w2,iv h2]:=.cons (Cv.agg (.cons (Cv.of rfl) (.cons (Cv.of rfl) (.cons (rows_cv fun i hi=>(p7 i hi).1) .nil)))) (.self (.self .nil))
 cases hS:szF2 w2 h2 with
 | true =>
  rw [hS,cond_true] at hk3
  refine ⟨_,_,args,(gz_clo 2).2,hk3,(gz_tree w w2 h2 t (fun i=>slT (G i 0)) (fun i=>rowD (G i 0)) n gridGo _).trans (hT q' (dT hp (dT hp ?_)))⟩
  exact dS (fun _=>fz_flat (gz_clo 2).1) fun h1=>dS (fun _=>fz_flat (gz_clo 2).1) fun h2=>dS (fun _=>fz_flat (gz_clo 2).1) fun h3=>dS (fun _=>fz_flat (gz_clo 2).1) fun h4=>(szF2_true hS h1 h2 h3 h4).elim
 | false =>
  rw [hS,cond_false] at hk3
  obtain ⟨h1,h2',h3,h4⟩:=szF2_false hS
  refine ⟨_,_,args,?_,hk3,(gz_tree w w2 h2 t (fun i=>slT (G i 0)) (fun i=>rowD (G i 0)) n gridGo _).trans (hT q' (dT hp (dT hp ?_)))⟩
  ·exact (tup2_flat ⟨grid_clo _ _ _ _,grid_low _ _ _ _⟩ _).2
  ·obtain ⟨m,rfl⟩:∃ m:Nat,h2=m:=⟨h2.toNat,by omega⟩
   refine dF (by omega) (dF (by omega) (dF (by omega) (dF (by omega) (hT ⟨⟨Nat.zero_le _,h1,hw,by show (m:Int).toNat≤60; omega,by show 1≤(m:Int).toNat; omega,by show n≤60; omega,fun j hj=>⟨(p7 j hj).1.2.row,(p7 j hj).2.2⟩⟩,[5],?_⟩ ?_))))
   ·simp only [Int.toNat_natCast]
    exact .of (im:=[some 0,some 1,some 2,some 3,some 4]) (tm_gz (i:=0) rfl) rfl ⟨⟨0,_,rfl,rfl,g3_upd2 (.v _) (.v _) (.sl _ _ _ _)⟩,⟨1,_,rfl,rfl,gz0_kb.sub⟩,⟨2,_,rfl,rfl,(KB.lst (lst1 (.v _)) (Nat.le_refl _)).sub⟩,⟨3,_,rfl,rfl,(KB.lst (lst3 (.v _) (.v _) (.v _)) (Nat.le_refl _)).sub⟩,⟨4,_,rfl,rfl,g3_upd2 (.v _) (.v _) (.v _)⟩,trivial⟩ rfl (by decide)
   ·simp only [Int.toNat_natCast]
    refine fzq_of ⟨[5],SubLZ.tup (.cons (SubLZ.agg (.cons (Sub.v _).z (.cons (Sub.v _).z (.cons (SubZ.fz0 (c:=.tab m (rzD (fun i=>rowD (G i 0)) n w2.toNat)) rfl (Nat.le_refl _) fun _ _=>rfl) .nil)))) (.cons (Sub.v _).z .nil)),fun j hj blk hb i f _ _=>?_⟩
    obtain rfl:j=5:=by simpa using hj
    obtain rfl:(⟨1,.tab m (rzD (fun i=>rowD (G i 0)) n w2.toNat)⟩:DBlk)=blk:=Option.some.inj (Option.some.inj hb)
    exact rzD_clo _ _ _ i f
end Go.Proofs.YtigmkgampfbflaaGreatDoor
namespace Go.Proofs.YtigmkgampfbflaaGreatDoor
open Go Go.AE Go.DE Go.RowKit
noncomputable def l9N:ConF:=inl2 Tryz.prog (env [] noLp 0) Tryz.f159
theorem l9N_ok {st:AE.Stat}(hx:Hx st):ConOk Tryz.prog st 159 l9N:=inl2_ok Tryz.func159 (by kernel_rfl) (by kernel_rfl) (hx 159 rfl) (glOk st) (tblD_env (l:=[]) fun _ h=>nomatch h) (fun _ _ _ h=>nomatch h)
theorem cui_tree (r c w h a b:Int) (p o:Bool) (k:DV→Option Unit):bodyD Tryz.prog (env [(159,l9N)] noLp 0) Tryz.f99 [.agg [iv r,iv c,bv p],.agg [iv w,iv h,iv a,iv b,bv o]] [] (fun d _=>k d) =
  k (.agg [iv (if (if IntKind.wrap .i64 (h-1)<r then IntKind.wrap .i64 (h-1) else r) > 0 then if IntKind.wrap .i64 (h-1)<r then IntKind.wrap .i64 (h-1) else r else 0),iv (if (if IntKind.wrap .i64 (w-1)<c
  then IntKind.wrap .i64 (w-1) else c) > 0 then if IntKind.wrap .i64 (w-1)<c then IntKind.wrap .i64 (w-1) else c else 0),bv p]):=by
 kernel_rfl
theorem cuk_tree (w h a b:Int) (o:Bool) (k:DV→Option Unit):bodyD Tryz.prog (env [] noLp 0) Tryz.f98 [.agg [iv w,iv h,iv a,iv b,bv o]] [] (fun d _=>k d) =
  bif decide (w<1) then k (iv 2) else bif decide (w > 132) then k (iv 2) else bif decide (h<1) then k (iv 2) else bif decide (h > 60) then k (iv 2) else bif decide (a<0) then k (iv 2) else bif decide (a ≥ b)
  then k (iv 2) else bif decide (b > h) then k (iv 2) else k (iv 0):=by
 kernel_rfl
noncomputable def l1N:ConF:=inl2 Tryz.prog (env [] noLp 0) Tryz.f101
theorem l1N_ok {st:AE.Stat}(hx:Hx st):ConOk Tryz.prog st 101 l1N:=inl2_ok Tryz.func101 (by kernel_rfl) (by kernel_rfl) (hx 101 rfl) (glOk st) (tblD_env (l:=[]) fun _ h=>nomatch h) (fun _ _ _ h=>nomatch h)
theorem clp_tree (r c w h:Int) (p:Bool) (k:DV→Option Unit):bodyD Tryz.prog (env [(101,l1N)] noLp 0) Tryz.f59 [.agg [iv r,iv c,bv p],iv w,iv h] [] (fun d _=>k d) =
  bif decide (r<IntKind.wrap .i64 (h-1)) then bif decide (c<IntKind.wrap .i64 (w-1)) then k (.agg [iv r,iv c,bv false]) else k (.agg [iv r,iv (IntKind.wrap .i64 (w-1)),bv false]) else bif decide (c<IntKind.wrap .i64 (w-1))
  then k (.agg [iv (IntKind.wrap .i64 (h-1)),iv c,bv false]) else k (.agg [iv (IntKind.wrap .i64 (h-1)),iv (IntKind.wrap .i64 (w-1)),bv false]):=by
 kernel_rfl
def lesF (a h:Int):Int:=if a<h-1 then a else h-1
def inOk (r c w h:Int):Prop:=0≤r∧0≤c∧1≤w∧w≤132∧1≤h∧h≤60
noncomputable def cuC (L:Int→Int→Int) (Q:Int→Int→Int→Int→Prop):ConF:=fun args k=>match args with
 | [.agg [.v (.int .i64 r),.v (.int .i64 c),.v (.bool p)],.agg [.v (.int .i64 w),.v (.int .i64 h),.v (.int .i64 _),.v (.int .i64 _),.v (.bool _)]]=>bif holds (Q r c w h) then k (fun _=>(.agg [iv (L r h),iv (L c w),bv p],[])) else none
 | _=>none
theorem cu3 (a b:Int) (p:Bool):Clo (.agg [iv a,iv b,bv p])∧Low (.agg [iv a,iv b,bv p]):=agg_clo rfl
theorem les_max {a h:Int}(h0:0≤a) (h1:1≤h) (h2:h≤132):(if (if IntKind.i64.wrap (h-1)<a then IntKind.i64.wrap (h-1) else a) > 0 then if IntKind.i64.wrap (h-1)<a then IntKind.i64.wrap (h-1) else a else 0)=lesF a h:=by
 rw [W_in (by omega) (by omega)]
 unfold lesF
 split<;>split<;>(try split)<;>omega
theorem insC_ok {st:AE.Stat}(hx:Hx st):ConOk Tryz.prog st 99 (cuC lesF inOk):=by
 refine con_flat (mg:=[]) (l:=[(159,l9N)]) (lp:=noLp) (n:=0) (glOk st) (fun x h=>?_) Tryz.func99 (by kernel_rfl) (by kernel_rfl) (hx 99 rfl) (fun _ _ _ h=>nomatch h) fun args k hk=>?_
 ·simp only [List.mem_cons,List.not_mem_nil,or_false] at h
  subst h
  dsimp only
  exact l9N_ok hx
 unfold cuC at hk
 split at hk<;>first | (cases hk; done) | skip
 rename_i r c p w h a b o
 obtain ⟨hb,hk⟩:=bif_none hk
 obtain ⟨r0,c0,w1,w2,h1,h2⟩:=holds_eq.1 hb
 refine ⟨[.agg [iv r,iv c,bv p],.agg [iv w,iv h,iv a,iv b,bv o]],_,.self (.self .nil),cu3 _ _ _,hk,(cui_tree r c w h a b p o _).trans ?_⟩
 rw [les_max r0 h1 (by omega),les_max c0 w1 w2]
 exact isD_of rfl
noncomputable def cukC:ConF:=fun args k=>match args with
 | [.agg [.v (.int .i64 w),.v (.int .i64 h),.v (.int .i64 a),.v (.int .i64 b),.v (.bool _)]]=>bif holds (1≤w∧w≤132∧1≤h∧h≤60∧a=0∧b=h) then k (fun _=>(iv 0,[])) else none
 | _=>none
theorem cukC_ok {st:AE.Stat}(hx:Hx st):ConOk Tryz.prog st 98 cukC:=by
 refine con_flat (mg:=[]) (l:=[]) (lp:=noLp) (n:=0) (glOk st) (fun _ h=>nomatch h) Tryz.func98 (by kernel_rfl) (by kernel_rfl) (hx 98 rfl) (fun _ _ _ h=>nomatch h) fun args k hk=>?_
 unfold cukC at hk
 split at hk<;>first | (cases hk; done) | skip
 rename_i w h a b o
 obtain ⟨hb,hk⟩:=bif_none hk
 obtain ⟨w1,w2,h1,h2,e1,e2⟩:=holds_eq.1 hb
 exact ⟨[.agg [iv w,iv h,iv a,iv b,bv o]],_,.self .nil,v_clo _,hk,(cuk_tree w h a b o _).trans (dF (by omega) (dF (by omega) (dF (by omega) (dF (by omega) (dF (by omega) (dF (by omega) (dF (by omega) (isD_of rfl))))))))⟩
theorem clm_tree (r c w h:Int) (p o:Bool) (L:Int→Int→Int) (Q:Int→Int→Int→Int→Prop) (k:DV→Option Unit):bodyD Tryz.prog (env [(98,cukC),(99,cuC L Q)] noLp 0) Tryz.f56 [.agg [iv r,iv c,bv p],.agg [iv w,iv h,iv 0,iv h,bv o]] [] (fun d _=>k d) =
  bif holds (Int.NonNeg (w-1)∧Int.NonNeg (132-w)∧Int.NonNeg (h-1)∧Int.NonNeg (60-h)∧(0:Int)=0∧h=h) then bif holds (Q r c w h) then bif p then k (.agg [iv (L r h),iv (L c w),bv (L c w==IntKind.wrap .i64 (w-1))])
  else k (.agg [iv (L r h),iv (L c w),bv false]) else none else none:=by
 kernel_rfl
noncomputable def clmC (L:Int→Int→Int) (Q:Int→Int→Int→Int→Prop):ConF:=fun args k=>match args with
 | [.agg [.v (.int .i64 r),.v (.int .i64 c),.v (.bool p)],.agg [.v (.int .i64 w),.v (.int .i64 h),.v (.int .i64 a),.v (.int .i64 b),.v (.bool _)]]=>bif holds (Q r c w h∧a=0∧b=h) then k (fun _=>(.agg [iv (L r h),iv (L c w),bv (bif p then L c w==w-1 else false)],[])) else none
 | _=>none
theorem clmC_ok {st:AE.Stat}(hx:Hx st):ConOk Tryz.prog st 56 (clmC lesF inOk):=by
 refine con_flat (mg:=[]) (l:=[(98,cukC),(99,cuC lesF inOk)]) (lp:=noLp) (n:=0) (glOk st) (fun x h=>?_) Tryz.func56 (by kernel_rfl) (by kernel_rfl) (hx 56 rfl) (fun _ _ _ h=>nomatch h) fun args k hk=>?_
 ·simp only [List.mem_cons,List.not_mem_nil,or_false] at h
  rcases h with rfl | rfl
  ·exact cukC_ok hx
  ·exact insC_ok hx
 unfold clmC at hk
 split at hk<;>first | (cases hk; done) | skip
 rename_i r c p w h a b o
 obtain ⟨hb,hk2⟩:=bif_none hk
 obtain ⟨q,e1,e2⟩:=holds_eq.1 hb
 clear hk hb
 subst e1
 subst e2
 obtain ⟨r0,c0,w1,w2,h1,h2⟩:=id q
 refine ⟨[.agg [iv r,iv c,bv p],.agg [iv w,iv b,iv 0,iv b,bv o]],_,.self (.self .nil),cu3 _ _ _,hk2,(clm_tree r c w b p o lesF inOk _).trans (hT ⟨w1,w2,h1,h2,rfl,rfl⟩ (hT q ?_))⟩
 rw [W_in (by omega) (by omega)]
 cases p<;>exact isD_of rfl
noncomputable def clpC (L:Int→Int→Int):ConF:=fun args k=>match args with
 | [.agg [.v (.int .i64 r),.v (.int .i64 c),.v (.bool _)],.v (.int .i64 w),.v (.int .i64 h)]=>bif holds (1≤w∧w≤132∧1≤h∧h≤60) then k (fun _=>(.agg [iv (L r h),iv (L c w),bv false],[])) else none
 | _=>none
theorem clpC_ok {st:AE.Stat}(hx:Hx st):ConOk Tryz.prog st 59 (clpC lesF):=by
 refine con_flat (mg:=[]) (l:=[(101,l1N)]) (lp:=noLp) (n:=0) (glOk st) (fun x h=>?_) Tryz.func59 (by kernel_rfl) (by kernel_rfl) (hx 59 rfl) (fun _ _ _ h=>nomatch h) fun args k hk=>?_
 ·simp only [List.mem_cons,List.not_mem_nil,or_false] at h
  subst h
  exact l1N_ok hx
 unfold clpC at hk
 split at hk<;>first | (cases hk; done) | skip
 rename_i r c p w h
 obtain ⟨hb,hk⟩:=bif_none hk
 obtain ⟨w1,w2,h1,h2⟩:=holds_eq.1 hb
 refine ⟨[.agg [iv r,iv c,bv p],iv w,iv h],_,.self (.self (.self .nil)),cu3 _ _ _,hk,(clp_tree r c w h p _).trans ?_⟩
 rw [W_in (by omega) (by omega),W_in (by omega) (by omega)]
 unfold lesF
 exact dS (fun a=>dS (fun b=>isD_of (by rw [if_pos a,if_pos b])) fun b=>isD_of (by rw [if_pos a,if_neg b])) fun a=>dS (fun b=>isD_of (by rw [if_neg a,if_pos b])) fun b=>isD_of (by rw [if_neg a,if_neg b])
noncomputable def trF (Q:(Nat→Nat→DV)→Nat→Prop) (T:Nat→Bool):ConF:=fun args k=>match args with
 | [.sl _ g 1 m,.v (.int .i64 w)]=>bif holds (Q g m) then (bif decide (1≤w)&&decide (w≤1000) then k (fun _=>(.sl false (tabsD (rsT (fun i=>boolD (g i 0)) m T)) 1 w.toNat,[])) else none) else none
 | _=>none
theorem trz_tree (T:Nat→Bool) (t:Bool) (z:Nat→Bool) (m:Nat) (w:Int) (K:DV→DHeap→Option Unit):bodyD Tryz.prog (envZ [(50,tnC T)] noLp 0) Tryz.f57 [.sl t (tabsD z) 1 m,iv w] [] (fun d σ=>K d σ) =
  bif bif decide (1≤w) then decide (w≤1000) else false then bif decide (0+Int.toNat w≤DC.n (.tab (Int.toNat w) (tabsD T))) then K (.os 0 0 (Int.toNat w)) [some ⟨1,.tab (DC.n (.tab (Int.toNat w) (tabsD T))) fun j f=>if 0≤j∧j<0+Nat.min m (Int.toNat w)
  then bv (z (j-0)) else bv (T j)⟩] else none else none:=by
 kernel_rfl
theorem r6z_tree (t:Bool) (z:Nat→Bool) (m:Nat) (w:Int) (K:DV→DHeap→Option Unit):bodyD Tryz.prog (envZ [(102,lmN)] (lpOf [(58,t6I.g)]) 0) Tryz.f60 [.sl t (tabsD z) 1 m,iv w] [] (fun d σ=>K d σ) =
  bif holds ((Nat.le 0 (Int.toNat w)∧Nat.le 1 (Int.toNat w)∧Nat.le (Int.toNat w) 1000)∧∃ ids,WkP 1 ids [.sl t (fun a a_1=>bv (z a)) 1 m,iv w,.os 0 0 0,iv 0] [some ⟨1,.lst []⟩] [.sl t (fun a a_1=>bv ((fun i=>boolD (bv (z i))) a)) 1 m,iv (↑(Int.toNat w):Int),.os 0 0 0,iv 0] [some ⟨1,.lst []⟩,none])
  then K (.os 1 0 (Int.toNat w)) [none,some ⟨1,.tab (Int.toNat w) fun a a_1=>bv (T6S.out (T6S.sl t (fun i=>boolD (bv (z i))) m) a)⟩] else none:=by
 kernel_rfl
theorem trF_ok {st:AE.Stat}(hx:Hx st):ConOkZ true Tryz.prog st 57 (trF tabsSo tab8):=by
 refine con_frz (E:=envZ [(50,tnC tab8)] noLp 0) rfl (glOk st) (tblD_env (l:=[(50,tnC tab8)]) fun x h=>?_) Tryz.func57 (by kernel_rfl) (by kernel_rfl) (hx 57 rfl) (fun _ _ _ h=>nomatch h) fun args k hk=>?_
 ·simp only [List.mem_cons,List.not_mem_nil,or_false] at h
  subst h
  exact (tnC_ok hx).z
 unfold trF at hk
 split at hk<;>first | (cases hk; done) | skip
 rename_i t g m w
 obtain ⟨hq,hk⟩:=bif_none hk
 obtain ⟨hb,hk⟩:=bif_none hk
 obtain ⟨h1,h2⟩:=and_dec hb
 have hq:=holds_eq.1 hq
 obtain ⟨n,rfl⟩:∃ n:Nat,w=n:=⟨w.toNat,by omega⟩
 refine ⟨[.sl t (tabsD fun i=>boolD (g i 0)) 1 m,iv n],_,.cons (hq.cv t) (.self .nil),tabs_low _ _,hk,(trz_tree tab8 t _ m n _).trans ?_⟩
 simp only [Int.toNat_natCast]
 refine dT2 (by omega) (by omega) (dT (by show 0+n≤n; omega) ?_)
 refine frz1 (id:=0) (c:=.tab n fun j f=>if (0:Nat)≤j∧j<(0:Nat)+Nat.min m n then DV.v (Value.bool (boolD (g (j-0) 0))) else DV.v (Value.bool (tab8 j))) rfl (Nat.le_refl _) (fun i f _ _=>?_) fun i f hi hf=>?_
 ·show Clo (if _ then DV.v _ else DV.v _)
  split
  ·exact .v _
  ·exact .v _
 ·show (if (0:Nat)≤i∧i<(0:Nat)+Nat.min m n then DV.v (Value.bool (boolD (g (i-0) 0))) else DV.v (Value.bool (tab8 i)))=bv (if i<m then boolD (g i 0) else tab8 i)
  by_cases h:i<m
  ·rw [if_pos ⟨Nat.zero_le _,by rw [Nat.zero_add]; exact Nat.lt_min.2 ⟨h,hi⟩⟩,if_pos h]
   rfl
  ·rw [if_neg (fun x=>h (Nat.lt_of_lt_of_le (by rw [Nat.zero_add] at x; exact x.2) (Nat.min_le_left _ _))),if_neg h]
theorem r6F_ok {st:AE.Stat}(hx:Hx st):ConOkZ true Tryz.prog st 60 (trF tabsSo tab8):=by
 refine con_frz (E:=envZ [(102,lmN)] (lpOf [(58,t6I.g)]) 0) rfl (glOk st) (tblD_env (l:=[(102,lmN)]) fun x h=>?_) Tryz.func60 (by kernel_rfl) (by kernel_rfl) (hx 60 rfl) (lp_in (c0:=.loop (loopAt Tryz.f60 58)) (by kernel_rfl) (t6_ls hx).z) fun args k hk=>?_
 ·simp only [List.mem_cons,List.not_mem_nil,or_false] at h
  subst h
  exact (lmN_ok hx).z
 unfold trF at hk
 split at hk<;>first | (cases hk; done) | skip
 rename_i t g m w
 obtain ⟨hq,hk⟩:=bif_none hk
 obtain ⟨hb,hk⟩:=bif_none hk
 obtain ⟨h1,h2⟩:=and_dec hb
 have hq:=holds_eq.1 hq
 obtain ⟨n,rfl⟩:∃ n:Nat,w=n:=⟨w.toNat,by omega⟩
 refine ⟨[.sl t (tabsD fun i=>boolD (g i 0)) 1 m,iv n],_,.cons (hq.cv t) (.self .nil),tabs_low _ _,hk,(r6z_tree t _ m n _).trans ?_⟩
 simp only [Int.toNat_natCast]
 refine hT ⟨⟨Nat.zero_le _,by show 1≤n; omega,by show n≤1000; omega⟩,[0],.of (im:=[some 0]) (tm_t6 (S:=.sl t _ m) (i:=0) (.os rfl) rfl) rfl ⟨⟨0,_,rfl,rfl,rfl,Nat.le_refl _,trivial,fun j f hj hf=>absurd hj (Nat.not_lt_zero _)⟩,trivial⟩ rfl (by decide)⟩ ?_
 exact frz1 (id:=1) (c:=.tab n (tabsD (rsT (fun i=>boolD (g i 0)) m tab8))) rfl (Nat.le_refl _) (fun i f _ _=>.v _) fun i f hi hf=>rfl
end Go.Proofs.YtigmkgampfbflaaGreatDoor
namespace Go.Proofs.YtigmkgampfbflaaGreatDoor
open Go Go.AE Go.DE Go.RowKit
def Tm.low (x:Tm):Prop:=(∀ i,i<x.gn→x.gT i=false)∧(∀ i,i<x.on→x.oT i=false)∧∀ i,i<x.bn→x.bT i=false
def tmPr (l:List DV):Prop:=l=(tmOf l).cells∧(tmOf l).ok∧Prp (tmOf l)∧(tmOf l).low
theorem go_of {T:Nat→Bool}{R:Nat→Row}{n:Nat}(h:rowsPos R n) (hT:∀ i,i<n→T i=false):rowsGo (rowsD T R) n:=⟨are_of h,hT⟩
theorem Tm.own_clo (x:Tm):Clo (.agg x.own.cells):=.agg x.own.clo
theorem Tm.low_cells {x:Tm}(h1:∀ i,i<x.gn→x.gT i=false) (h2:∀ i,i<x.on→x.oT i=false) (h3:∀ i,i<x.bn→x.bT i=false):∀ d∈x.cells,Low d:=by
 have rl:∀ {T:Nat→Bool}{R:Nat→Row}{n:Nat},(∀ i,i<n→T i=false)→Low (.sl false (rowsD T R) 1 n):=fun {T R n} hT=>.sl fun i f hi _=>by
  show Low (.sl (T i) _ _ _)
  rw [hT i hi]
  exact .sl fun j g _ _=>row_low _ _ _
 intro d hd
 simp only [Tm.cells,List.mem_cons,List.not_mem_nil,or_false] at hd
 repeat (first | (rcases hd with rfl | hd; first | exact Low.v _ | exact rl h1 | exact rl h2 | exact rl h3 | exact tabs_low _ _) | (subst hd; exact Low.v _))
theorem owC_ok {st:AE.Stat}(hx:Hx st):ConOkZ true Tryz.prog st 35 (owC tmPr fun x=>(Tm.own x).cells):=by
 refine con_flatZ (mg:=[]) (l:=[(76,roC rowsGo),(77,cbC tabsAre)]) (lp:=noLp) (n:=0) (glOk st) (fun x h=>?_) Tryz.func35 (by kernel_rfl) (by kernel_rfl) (hx 35 rfl) (fun _ _ _ h=>nomatch h) fun args k hk=>?_
 ·simp only [List.mem_cons,List.not_mem_nil,or_false] at h
  rcases h with rfl | rfl
  ·exact roC_ok hx
  ·exact cbC_ok hx
 unfold owC at hk
 split at hk<;>first | (cases hk; done) | skip
 rename_i l
 obtain ⟨hb,hk⟩:=bif_none hk
 obtain ⟨h1,h2,h3,h4,h5,h6⟩:=holds_eq.1 hb
 obtain ⟨q1,q2,q3,q4,q5⟩:=h3.pos h2
 exact ⟨[.agg (tmOf l).cells],_,.cons (Cv.of (by rw [← h1])) .nil,⟨Tm.own_clo _,.agg (Tm.low_cells (fun _ _=>rfl) (fun _ _=>rfl) fun _ _=>rfl)⟩,hk,(ow_tree rowsGo tabsAre (tmOf l) _).trans (hT (go_of q1 h4) (hT (go_of q2 h5) (hT (go_of q3 h6) (hT ⟨⟨q4,fun _ _=>rfl⟩,q5⟩ (isD_of rfl)))))⟩
def Tm.noR (x:Tm):Tm:={ x.own with S:=fun j=>if j=41 then ⟨#[]⟩ else x.S j }
theorem rpl_tree (Q:List DV→Prop) (x:Tm) (k:DV→Option Unit):bodyD Tryz.prog (envZ [(35,owC Q fun x=>(Tm.own x).cells)] noLp 0) Tryz.f22 [.agg x.cells] [] (fun d _=>k d) =
  bif holds (Q x.cells) then k (.tup [.agg [iv (Tm.I (Tm.own (tmOf x.cells)) 0),iv (Tm.I (Tm.own (tmOf x.cells)) 1),.sl false (fun a a_1=>DV.sl (Tm.gT (Tm.own (tmOf x.cells)) a) (Row.cell (Tm.gR (Tm.own (tmOf x.cells)) a)) 5 (Row.n (Tm.gR (Tm.own (tmOf x.cells)) a))) 1 (Tm.gn (Tm.own (tmOf x.cells))),iv (Tm.I (Tm.own (tmOf x.cells)) 3),iv (Tm.I (Tm.own (tmOf x.cells)) 4),.sl false (fun a a_1=>DV.sl (Tm.oT (Tm.own (tmOf x.cells)) a) (Row.cell (Tm.oR (Tm.own (tmOf x.cells)) a)) 5 (Row.n (Tm.oR (Tm.own (tmOf x.cells)) a))) 1 (Tm.on (Tm.own (tmOf x.cells))),iv (Tm.I (Tm.own (tmOf x.cells)) 6),iv (Tm.I (Tm.own (tmOf x.cells)) 7),bv (Tm.B (Tm.own (tmOf x.cells)) 8),iv (Tm.I (Tm.own (tmOf x.cells)) 9),iv (Tm.I (Tm.own (tmOf x.cells)) 10),bv (Tm.B (Tm.own (tmOf x.cells)) 11),iv (Tm.I (Tm.own (tmOf x.cells)) 12),iv (Tm.I (Tm.own (tmOf x.cells)) 13),iv (Tm.I (Tm.own (tmOf x.cells)) 14),bv (Tm.B (Tm.own (tmOf x.cells)) 15),kv .u8 ((Tm.I (Tm.own (tmOf x.cells)) 16)),kv .u8 ((Tm.I (Tm.own (tmOf x.cells)) 17)),iv (Tm.I (Tm.own (tmOf x.cells)) 18),iv (Tm.I (Tm.own (tmOf x.cells)) 19),iv (Tm.I (Tm.own (tmOf x.cells)) 20),iv (Tm.I (Tm.own (tmOf x.cells)) 21),bv (Tm.B (Tm.own (tmOf x.cells)) 22),bv (Tm.B (Tm.own (tmOf x.cells)) 23),bv (Tm.B (Tm.own (tmOf x.cells)) 24),bv (Tm.B (Tm.own (tmOf x.cells)) 25),bv (Tm.B (Tm.own (tmOf x.cells)) 26),bv (Tm.B (Tm.own (tmOf x.cells)) 27),bv (Tm.B (Tm.own (tmOf x.cells)) 28),bv (Tm.B (Tm.own (tmOf x.cells)) 29),kv .u8 ((Tm.I (Tm.own (tmOf x.cells)) 30)),kv .u8 ((Tm.I (Tm.own (tmOf x.cells)) 31)),iv (Tm.I (Tm.own (tmOf x.cells)) 32),iv (Tm.I (Tm.own (tmOf x.cells)) 33),iv (Tm.I (Tm.own (tmOf x.cells)) 34),.sl false (fun a a_1=>bv (Tm.tb (Tm.own (tmOf x.cells)) a)) 1 (Tm.tn (Tm.own (tmOf x.cells))),.sl false (fun a a_1=>DV.sl (Tm.bT (Tm.own (tmOf x.cells)) a) (Row.cell (Tm.bR (Tm.own (tmOf x.cells)) a)) 5 (Row.n (Tm.bR (Tm.own (tmOf x.cells)) a))) 1 (Tm.bn (Tm.own (tmOf x.cells))),iv (Tm.I (Tm.own (tmOf x.cells)) 37),sv (Tm.S (Tm.own (tmOf x.cells)) 38),sv (Tm.S (Tm.own (tmOf x.cells)) 39),sv (Tm.S (Tm.own (tmOf x.cells)) 40),sv ⟨#[]⟩],sv (x.S 41)])
  else none:=by
 kernel_rfl
noncomputable def rpC (Q:List DV→Prop) (O:Tm→Tm):ConF:=fun args k=>match args with
 | [.agg l]=>bif holds (Q l) then k (fun _=>(.tup [.agg (O (tmOf l)).cells,sv ((tmOf l).S 41)],[])) else none
 | _=>none
theorem rpC_ok {st:AE.Stat}(hx:Hx st):ConOkZ true Tryz.prog st 22 (rpC tmPr Tm.noR):=by
 refine con_flatZ (mg:=[]) (l:=[(35,owC tmPr fun x=>(Tm.own x).cells)]) (lp:=noLp) (n:=0) (glOk st) (fun x h=>?_) Tryz.func22 (by kernel_rfl) (by kernel_rfl) (hx 22 rfl) (fun _ _ _ h=>nomatch h) fun args k hk=>?_
 ·simp only [List.mem_cons,List.not_mem_nil,or_false] at h
  subst h
  exact owC_ok hx
 unfold rpC at hk
 split at hk<;>first | (cases hk; done) | skip
 rename_i l
 obtain ⟨hb,hk⟩:=bif_none hk
 have q:=holds_eq.1 hb
 have q2:tmPr (tmOf l).cells:=by rw [← q.1]; exact q
 exact ⟨[.agg (tmOf l).cells],_,.cons (Cv.of (by rw [← q.1])) .nil,tup_agg (Tm.noR (tmOf l)).clo (Tm.low_cells (fun _ _=>rfl) (fun _ _=>rfl) fun _ _=>rfl),hk,(rpl_tree tmPr (tmOf l) _).trans (hT q2 (isD_of rfl))⟩
def Tm.rsz (x:Tm) (w h:Int):Tm where
 I j:=if j=0 then w else if j=1 then h else if j=3 then w else if j=4 then h else if j=6 then lesF (x.I 6) h else if j=7 then lesF (x.I 7) w else if j=9 then lesF (x.I 9) h else if j=10 then lesF (x.I 10) w else if j=33 then 0 else if j=34 then h else x.I j
 B j:=if j=8 then false else if j=11 then false else x.B j
 S:=x.S
 gT _:=false
 gR:=rzR x.gR x.gn w.toNat
 gn:=h.toNat
 oT _:=false
 oR:=rzR x.oR x.on w.toNat
 on:=h.toNat
 tb:=rsT x.tb x.tn tab8
 tn:=w.toNat
 bT _:=false
 bR:=x.bR
 bn:=x.bn
theorem rt_tree (x:Tm) (w h:Int) (Q:Int→Int→(Nat→Nat→DV)→Nat→Prop) (S:Int→Int→Bool) (M:(Nat→Row)→Nat→Nat→Nat→Row) (QO:List DV→Prop) (L:Int→Int→Int) (QI:Int→Int→Int→Int→Prop) (QT:(Nat→Nat→DV)→Nat→Prop) (T:Nat→Bool) (k:DV→Option Unit):bodyD Tryz.prog (envZ [(55,gyC Q S M),(35,owC QO fun x=>(Tm.own x).cells),(56,clmC L QI),(57,trF QT T)] noLp 0) Tryz.f20 [.agg x.cells,iv w,iv h] [] (fun d _=>k d) =
  bif holds (Q (x.I 0) (x.I 1) (rowsD x.gT x.gR) x.gn) then bif decide (w≤30) then bif S w h then k (.tup [.agg [iv 0,iv 0,DV.v (Value.slice none 0 0),iv 0,iv 0,DV.v (Value.slice none 0 0),iv 0,iv 0,bv false,iv 0,iv 0,bv false,iv 0,iv 0,iv 0,bv false,kv .u8 0,kv .u8 0,iv 0,iv 0,iv 0,iv 0,bv false,bv false,bv false,bv false,bv false,bv false,bv false,bv false,kv .u8 0,kv .u8 0,iv 0,iv 0,iv 0,DV.v (Value.slice none 0 0),DV.v (Value.slice none 0 0),iv 0,sv ⟨#[]⟩,sv ⟨#[]⟩,sv ⟨#[]⟩,sv ⟨#[]⟩],iv 2])
  else bif decide (0<Int.toNat h) then bif decide (0<Int.toNat h) then bif holds (Q (x.I 3) (x.I 4) (rowsD x.oT x.oR) x.on) then bif decide (w≤30) then bif S w h then k (.tup [.agg [iv 0,iv 0,DV.v (Value.slice none 0 0),iv 0,iv 0,DV.v (Value.slice none 0 0),iv 0,iv 0,bv false,iv 0,iv 0,bv false,iv 0,iv 0,iv 0,bv false,kv .u8 0,kv .u8 0,iv 0,iv 0,iv 0,iv 0,bv false,bv false,bv false,bv false,bv false,bv false,bv false,bv false,kv .u8 0,kv .u8 0,iv 0,iv 0,iv 0,DV.v (Value.slice none 0 0),DV.v (Value.slice none 0 0),iv 0,sv ⟨#[]⟩,sv ⟨#[]⟩,sv ⟨#[]⟩,sv ⟨#[]⟩],iv 2])
  else bif decide (0<Int.toNat h) then bif decide (0<Int.toNat h) then bif holds (QO x.cells) then bif holds (QI (Tm.I (Tm.own (tmOf x.cells)) 6) (Tm.I (Tm.own (tmOf x.cells)) 7) w h∧(0:Int)=0∧h=h)
  then bif holds (QI (Tm.I (Tm.own (tmOf x.cells)) 9) (Tm.I (Tm.own (tmOf x.cells)) 10) w h∧(0:Int)=0∧h=h) then bif holds (QT (tabsD (Tm.tb (Tm.own (tmOf x.cells)))) (Tm.tn (Tm.own (tmOf x.cells))))
  then bif bif decide (1≤w) then decide (w≤1000) else false then k (.tup [.agg [iv w,iv h,.sl false (fun a a_1=>DV.sl ((fun x=>false) a) (Row.cell (M (fun i=>rowD (.sl (x.gT i) (Row.cell (x.gR i)) 5 (Row.n (x.gR i)))) x.gn (Int.toNat w) a)) 5 (Row.n (M (fun i=>rowD (.sl (x.gT i) (Row.cell (x.gR i)) 5 (Row.n (x.gR i)))) x.gn (Int.toNat w) a))) 1 (Int.toNat h),iv w,iv h,.sl false (fun a a_1=>DV.sl ((fun x=>false) a) (Row.cell (M (fun i=>rowD (.sl (x.oT i) (Row.cell (x.oR i)) 5 (Row.n (x.oR i)))) x.on (Int.toNat w) a)) 5 (Row.n (M (fun i=>rowD (.sl (x.oT i) (Row.cell (x.oR i)) 5 (Row.n (x.oR i)))) x.on (Int.toNat w) a))) 1 (Int.toNat h),iv (L (Tm.I (Tm.own (tmOf x.cells)) 6) h),iv (L (Tm.I (Tm.own (tmOf x.cells)) 7) w),bv false,iv (L (Tm.I (Tm.own (tmOf x.cells)) 9) h),iv (L (Tm.I (Tm.own (tmOf x.cells)) 10) w),bv false,iv (Tm.I (Tm.own (tmOf x.cells)) 12),iv (Tm.I (Tm.own (tmOf x.cells)) 13),iv (Tm.I (Tm.own (tmOf x.cells)) 14),bv (Tm.B (Tm.own (tmOf x.cells)) 15),kv .u8 ((Tm.I (Tm.own (tmOf x.cells)) 16)),kv .u8 ((Tm.I (Tm.own (tmOf x.cells)) 17)),iv (Tm.I (Tm.own (tmOf x.cells)) 18),iv (Tm.I (Tm.own (tmOf x.cells)) 19),iv (Tm.I (Tm.own (tmOf x.cells)) 20),iv (Tm.I (Tm.own (tmOf x.cells)) 21),bv (Tm.B (Tm.own (tmOf x.cells)) 22),bv (Tm.B (Tm.own (tmOf x.cells)) 23),bv (Tm.B (Tm.own (tmOf x.cells)) 24),bv (Tm.B (Tm.own (tmOf x.cells)) 25),bv (Tm.B (Tm.own (tmOf x.cells)) 26),bv (Tm.B (Tm.own (tmOf x.cells)) 27),bv (Tm.B (Tm.own (tmOf x.cells)) 28),bv (Tm.B (Tm.own (tmOf x.cells)) 29),kv .u8 ((Tm.I (Tm.own (tmOf x.cells)) 30)),kv .u8 ((Tm.I (Tm.own (tmOf x.cells)) 31)),iv (Tm.I (Tm.own (tmOf x.cells)) 32),iv 0,iv h,.sl false (fun a a_1=>bv (rsT (fun i=>boolD (bv (Tm.tb (Tm.own (tmOf x.cells)) i))) (Tm.tn (Tm.own (tmOf x.cells))) T a)) 1 (Int.toNat w),.sl false (fun a a_1=>DV.sl (Tm.bT (Tm.own (tmOf x.cells)) a) (Row.cell (Tm.bR (Tm.own (tmOf x.cells)) a)) 5 (Row.n (Tm.bR (Tm.own (tmOf x.cells)) a))) 1 (Tm.bn (Tm.own (tmOf x.cells))),iv (Tm.I (Tm.own (tmOf x.cells)) 37),sv (Tm.S (Tm.own (tmOf x.cells)) 38),sv (Tm.S (Tm.own (tmOf x.cells)) 39),sv (Tm.S (Tm.own (tmOf x.cells)) 40),sv (Tm.S (Tm.own (tmOf x.cells)) 41)],iv 0])
  else none else none else none else none else none else none else none else none else none else none else none else none else none:=by
 kernel_rfl
noncomputable def rtC (Q:List DV→Prop) (S:Int→Int→Bool) (Z:List DV) (O:Tm→Int→Int→Tm):ConF:=fun args k=>match args with
 | [.agg l,.v (.int .i64 w),.v (.int .i64 h)]=>bif holds (Q l) then (bif decide (w≤30) then (bif S w h then k (fun _=>(.tup [.agg Z,iv 2],[])) else k (fun _=>(.tup [.agg (O (tmOf l) w h).cells,iv 0],[]))) else none) else none
 | _=>none
theorem g_go {x:Tm}(ok:x.ok) (p:Prp x):gridGo (x.I 0) (x.I 1) (rowsD x.gT x.gR) x.gn:=by
 obtain ⟨a1,a2,a3,a4,a5,a6⟩:=check8_zero p.g
 exact ⟨a1,a2,a3,a4,a5,ok.1.1,fun i hi=>⟨isRow_of (ok.1.2 i hi),(a6 i hi).1,(check7_zero (a6 i hi).2).1⟩⟩
theorem o_go {x:Tm}(ok:x.ok) (p:Prp x):gridGo (x.I 3) (x.I 4) (rowsD x.oT x.oR) x.on:=by
 obtain ⟨a1,a2,a3,a4,a5,a6⟩:=check8_zero p.o
 exact ⟨a1,a2,a3,a4,a5,ok.2.1.1,fun i hi=>⟨isRow_of (ok.2.1.2 i hi),(a6 i hi).1,(check7_zero (a6 i hi).2).1⟩⟩
theorem ins_pos {r c w h:Int}{p:Bool}(h1:insF r c p w h=true):0≤r∧0≤c:=by
 unfold insF at h1
 simp only [Bool.and_eq_true,decide_eq_true_eq] at h1
 omega
theorem rtC_ok {st:AE.Stat}(hx:Hx st) (hv:VdOk st) (hk:∀ a σ,st.ext 157 a σ=RL.app σ (blkX a σ.length)):ConOkZ true Tryz.prog st 20 (rtC tmPr szF2 zeroL Tm.rsz):=by
 refine con_flatZ (mg:=[]) (l:=[(55,gyC gridGo szF2 rzR),(35,owC tmPr fun x=>(Tm.own x).cells),(56,clmC lesF inOk),(57,trF tabsSo tab8)]) (lp:=noLp) (n:=0) (glOk st) (fun x h=>?_) Tryz.func20 (by kernel_rfl) (by kernel_rfl) (hx 20 rfl) (fun _ _ _ h=>nomatch h) fun args k hk2=>?_
 ·simp only [List.mem_cons,List.not_mem_nil,or_false] at h
  rcases h with rfl | rfl | rfl | rfl
  ·exact gyC_ok hx hv hk
  ·exact owC_ok hx
  ·exact (clmC_ok hx).z
  ·exact trF_ok hx
 unfold rtC at hk2
 split at hk2<;>first | (cases hk2; done) | skip
 rename_i l w h
 obtain ⟨hb,hk3⟩:=bif_none hk2
 obtain ⟨hw,hk4⟩:=dec_none hk3
 have q:=holds_eq.1 hb
 clear hk2 hk3 hb
 have q2:tmPr (tmOf l).cells:=by rw [← q.1]; exact q
 obtain ⟨h1,ok,p,lo⟩:=q
 cases hS:szF2 w h with
 | true =>
  rw [hS,cond_true] at hk4
  refine ⟨[.agg (tmOf l).cells,iv w,iv h],_,.cons (Cv.of (by rw [← h1])) (.self (.self .nil)),tup_agg zeroL_flat.1 zeroL_flat.2,hk4,(rt_tree (tmOf l) w h gridGo szF2 rzR tmPr lesF inOk tabsSo tab8 _).trans (hT (g_go ok p) (dT hw ?_))⟩
  rw [hS]
  exact isD_of rfl
 | false =>
  rw [hS,cond_false] at hk4
  obtain ⟨w1,w2,h1',h2⟩:=szF2_false hS
  have hp:0<h.toNat:=by omega
  refine ⟨[.agg (tmOf l).cells,iv w,iv h],_,.cons (Cv.of (by rw [← h1])) (.self (.self .nil)),tup_agg (Tm.rsz (tmOf l) w h).clo (Tm.low_cells (fun _ _=>rfl) (fun _ _=>rfl) fun _ _=>rfl),hk4,(rt_tree (tmOf l) w h gridGo szF2 rzR tmPr lesF inOk tabsSo tab8 _).trans (hT (g_go ok p) (dT hw ?_))⟩
  rw [hS]
  refine dT hp (dT hp (hT (o_go ok p) (dT hw ?_)))
  have c1:=ins_pos p.c
  have c2:=ins_pos p.d
  exact dT hp (dT hp (hT q2 (hT ⟨⟨c1.1,c1.2,w1,w2,h1',h2⟩,rfl,rfl⟩ (hT ⟨⟨c2.1,c2.2,w1,w2,h1',h2⟩,rfl,rfl⟩ (hT ⟨ok.2.2.2.1,fun _ _=>rfl⟩ (dT2 w1 (by omega) (isD_of rfl)))))))
end Go.Proofs.YtigmkgampfbflaaGreatDoor
