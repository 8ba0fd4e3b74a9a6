/-
 The contract of the program's check of a terminal,at any terminal.
 Conditions: none beyond those of the contracts.
-/
import Derived.Test.YtigmkgampfbflaaGreatDoorJSq
import Derived.Test.YtigmkgampfbflaaGreatDoorJTx
import Derived.Shelf.Strings.Builder1
import Derived.Shelf.Strings.BuilderF
import Derived.Shelf.Strings.BuilderK
import Derived.Shelf.LaysM
import Derived.Ground.SlgnProg
import Derived.Test.YtigmkgampfbflaaGreatDoorProg
import Derived.Test.YtigmkgampfbflaaGreatDoorDeCon
import Derived.WalkKit
import Derived.BigCall
import Derived.LoopTactic
namespace Go.Proofs.YtigmkgampfbflaaGreatDoor
open Go Go.AE Go.DE Go.RowKit
def gA (R:Nat->Row) (w:Int):Nat->Nat->Int
 | 0,_=>0
 | m+1,i=>bif ((R i).n:Int) != w then 12 else bif rowF (R i) != 0 then rowF (R i) else gA R w m (i+1)
theorem gA_zero {R:Nat->Row}{w:Int}:∀ (m i:Nat),gA R w m i=0->∀ j,i<=j->j<i+m->((R j).n:Int)=w/\rowF (R j)=0
 | 0,i,_,j,h1,h2=>by omega
 | m+1,i,h,j,h1,h2=>by
  rw [gA] at h
  cases e1:((R i).n:Int) != w with
  | true=>rw [e1] at h; cases h
  | false =>
   cases e2:rowF (R i) != 0 with
   | true =>
    rw [e1,e2] at h;have h:rowF (R i)=0:=h;rw [h] at e2;cases e2
   | false =>
    rw [e1,e2] at h
    rcases Nat.eq_or_lt_of_le h1 with rfl | h3
    ·exact ⟨by simpa using e1,by simpa using e2⟩
    ·exact gA_zero m (i+1) h j h3 (by omega)
theorem gf_loop (F:Row->Int) (w h:Int) (t:Bool) (T:Nat->Bool) (R:Nat->Row) (n i:Nat) (K:Ex->Nat->List DV->List DV->DHeap->Option Unit):execD Tryz.prog (env [(33,rcC F)] noLp 0) (loopAt Tryz.f26 122) 500 (temps 39 [1,22,23,24] [.po 0 0 0,.sl t (rowsD T R) 1 n,iv n,iv i]) [some ⟨3,.lst [[iv w,iv h,.any]]⟩] (fun e τ σ=>K e τ.length (pick [1,22,23,24] τ) (pick [2] τ) σ) =
  bif decide ((i:Int)<(n:Int)) then bif decide ((i:Int)<(n:Int)) then bif decide (tN i<n) then bif (↑(Row.n (R (tN i))):Int) != w then K .ret 39 [.po 0 0 0,.sl t (rowsD T R) 1 n,iv (n:Int),iv (i:Int)] [iv 12] [some ⟨3,.lst [[iv w,iv h,DV.any]]⟩]
  else bif holds (Nat.le (Row.n (R (tN i))) 9000000/\∀ (i_1:Nat),i_1<Row.n (R (tN i))->sv (Row.tx (R (tN i)) i_1)=sv (strD (sv (Row.tx (R (tN i)) i_1)))/\Nat.le (ByteArray.size (strD (sv (Row.tx (R (tN i)) i_1)))) 9000000/\iv (Row.wd (R (tN i)) i_1)=iv (numD (iv (Row.wd (R (tN i)) i_1)))/\iv (Row.fo (R (tN i)) i_1)=iv (numD (iv (Row.fo (R (tN i)) i_1)))/\iv (Row.ba (R (tN i)) i_1)=iv (numD (iv (Row.ba (R (tN i)) i_1)))/\iv (Row.fl (R (tN i)) i_1)=iv (numD (iv (Row.fl (R (tN i)) i_1))))
  then bif F { n:=Row.n (R (tN i)),tx:=fun i_1=>strD (sv (Row.tx (R (tN i)) i_1)),wd:=fun i_1=>numD (iv (Row.wd (R (tN i)) i_1)),fo:=fun i_1=>numD (iv (Row.fo (R (tN i)) i_1)),ba:=fun i_1=>numD (iv (Row.ba (R (tN i)) i_1)),fl:=fun i_1=>numD (iv (Row.fl (R (tN i)) i_1)) } != 0
  then K .ret 39 [.po 0 0 0,.sl t (rowsD T R) 1 n,iv (n:Int),iv (i:Int)] [iv (F { n:=Row.n (R (tN i)),tx:=fun i_1=>strD (sv (Row.tx (R (tN i)) i_1)),wd:=fun i_1=>numD (iv (Row.wd (R (tN i)) i_1)),fo:=fun i_1=>numD (iv (Row.fo (R (tN i)) i_1)),ba:=fun i_1=>numD (iv (Row.ba (R (tN i)) i_1)),fl:=fun i_1=>numD (iv (Row.fl (R (tN i)) i_1)) })] [some ⟨3,.lst [[iv w,iv h,DV.any]]⟩]
  else K .normal 39 [.po 0 0 0,.sl t (rowsD T R) 1 n,iv (n:Int),iv (IntKind.wrap .i64 ((i:Int)+1))] [DV.any] [some ⟨3,.lst [[iv w,iv h,DV.any]]⟩] else none else none else none else K (.exit 0) 39 [.po 0 0 0,.sl t (rowsD T R) 1 n,iv (n:Int),iv (i:Int)] [DV.any] [some ⟨3,.lst [[iv w,iv h,DV.any]]⟩]:=by
 kernel_rfl
def ZK.q (x:ZK):Int:=gA x.R x.w (x.n-x.i) x.i
noncomputable def gfI:LInv ZK where
 pre x:=x.i<=x.n/\rowsOk x.R x.n
 m:=1
 n:=39
 ps:=[1,22,23,24]
 sd x:=[.po 0 0 0,.sl x.t (rowsD x.T x.R) 1 x.n,iv x.n,iv x.i]
 sh x:=[some ⟨3,.lst [[iv x.w,iv x.h,.any]]⟩]
 meas x:=x.n-x.i
 e x:=qe x.q
 qs:=[2]
 od x:=qo x.q
 oh _:=[none]
 guess ds σ:=match ds,σ with
  | [_,.sl t g 1 n,_,_],[some ⟨_,c⟩]=>(match c.get 0 0,c.get 0 1 with
   | .v (.int _ w),.v (.int _ h)=>some ⟨w,h,t,fun i=>slT (g i 0),fun i=>rowD (g i 0),n,0⟩
   | _,_=>none)
  | _,_=>none
 cps x k:=bif holds (x.q=0) then k (.exit 0) [.any] [none] else k .ret [iv x.q] [none]
theorem gf_ls {st:AE.Stat}(hx:Hx st) (hv:VdOk st):LoopS Tryz.prog st gl0 (.loop (loopAt Tryz.f26 122)) gfI.g:=by
 refine gfI.ok (E:=env [(33,rcC rowF)] noLp 0) (p:=500) (tblD_env (l:=[(33,rcC rowF)]) fun x h=>?_) (glOk st).1 (fun _ _ _ h=>nomatch h) (fun x k h=>q_cps h) fun x hx2=>?_
 ·simp only [List.mem_cons,List.not_mem_nil,or_false] at h;subst h;exact rrC_ok hx hv
 obtain ⟨w,h,t,T,R,n,i⟩:=x;obtain ⟨hi,hR⟩:i<=n/\rowsOk R n:=hx2;have hn:=hR.1;refine (gf_loop rowF w h t T R n i _).trans ?_;simp only [Int.toNat_natCast,Nat.add_zero]
 refine dS (fun hlt=>?_) fun hge=>?_
 ·have hlt:i<n:=by omega
  have e:n-i=(n-(i+1))+1:=by omega
  have hW:IntKind.i64.wrap ((i:Int)+1)=((i+1:Nat):Int):=by rw [W_in (by omega) (by omega)]; omega
  rw [hW]
  have hq:ZK.q ⟨w,h,t,T,R,n,i⟩=bif ((R i).n:Int) != w then 12 else bif rowF (R i) != 0 then rowF (R i) else gA R w (n-(i+1)) (i+1):=by simp only [ZK.q,e,gA]
  have stop:∀ (v:Int) (ds:List DV) (b:DBlk),v≠0->ZK.q ⟨w,h,t,T,R,n,i⟩=v->gfI.ask ⟨w,h,t,T,R,n,i⟩ .ret 39 ds [iv v] [some b]=some ():=fun v ds b hv hq=>by
   refine LInv.ask_of ⟨rfl,?_,[],?_⟩
   ·simp only [gfI]; rw [hq]; exact (if_neg hv).symm
   ·simp only [gfI]; rw [hq]; show WkP 1 [] _ _ (qo v) _; rw [show qo v=[iv v] from if_neg hv]; exact wkN (.cons (.v _) .nil)
  refine dT (by omega) (dT hlt (cS (fun h1=>stop 12 _ _ (by decide) (by rw [hq,h1]; rfl)) fun h1=>hT (Row.ok (hR.2 i hlt)) (cS (fun h2=>?_) fun h2=>?_)))
  ·have h2:(rowF (R i) != 0)=true:=h2
   exact stop (rowF (R i)) _ _ (by simpa using h2) (by rw [hq,h1,h2]; rfl)
  ·have h2:(rowF (R i) != 0)=false:=h2;rw [h1,h2,cond_false,cond_false] at hq;refine LInv.ask_of ⟨rfl,⟨w,h,t,T,R,n,i+1⟩,⟨?_,?_,rfl,hlt,hR⟩,?_,[],wkG (.cons (.po rfl) (.cons (.sl _ _ _ _) (.cons (.v _) (.cons (.v _) .nil)))) (Nat.le_refl _) rfl rfl⟩
   ·simp only [gfI]; rw [hq]; rfl
   ·simp only [gfI]; rw [hq]; rfl
   ·simp only [gfI]; omega
 ·have hr:ZK.q ⟨w,h,t,T,R,n,i⟩=0:=by
   have:n-i=0:=by omega
   simp only [ZK.q,this,gA]
  refine LInv.ask_of ⟨rfl,?_,[],?_⟩
  ·simp only [gfI]; rw [hr]; rfl
  ·simp only [gfI]; rw [hr]; exact wkN (.cons (.any _) .nil)
theorem gf_tree (w h:Int) (t:Bool) (T:Nat->Bool) (R:Nat->Row) (n:Nat) (k:DV->Option Unit):bodyD Tryz.prog (env [(67,szP)] (lpOf [(122,gfI.g)]) 0) Tryz.f26 [.agg [iv w,iv h,.sl t (rowsD T R) 1 n]] [] (fun d _=>k d) =
  bif decide (w<1) then k (iv 2) else bif decide (w > 132) then k (iv 2) else bif decide (h<1) then k (iv 2) else bif decide (h > 60) then k (iv 2) else bif (n:Int) != h then k (iv 1) else bif holds ((Nat.le 0 n/\Nat.le n 9000000/\∀ (i:Nat),i<n->Nat.le (Row.n (R i)) 9000000/\∀ (i_1:Nat),i_1<Row.n (R i)->Nat.le (ByteArray.size (Row.tx (R i) i_1)) 9000000)/\∃ ids,WkP 1 ids [.po 0 0 0,.sl t (rowsD T R) 1 n,iv (n:Int),iv 0] [some ⟨3,.lst [[iv w,iv h,.sl t (rowsD T R) 1 n]]⟩] [.po 0 0 0,.sl t (fun a _=>DV.sl (slT (.sl (T a) (Row.cell (R a)) 5 (Row.n (R a)))) (Row.cell (R a)) 5 (Row.n (R a))) 1 n,iv (n:Int),iv 0] [some ⟨3,.lst [[iv w,iv h,DV.any]]⟩])
  then bif holds (ZK.q { w:=w,h:=h,t:=t,T:=fun i=>slT (.sl (T i) (Row.cell (R i)) 5 (Row.n (R i))),R:=R,n:=n,i:=0 }=0) then k (iv 0) else k (iv (ZK.q { w:=w,h:=h,t:=t,T:=fun i=>slT (.sl (T i) (Row.cell (R i)) 5 (Row.n (R i))),R:=R,n:=n,i:=0 }))
  else none:=by
 kernel_rfl
def gkA (w h:Int) (R:Nat->Row) (n:Nat):Int :=
 bif decide (w<1) then 2 else bif decide (w > 132) then 2 else bif decide (h<1) then 2 else bif decide (h > 60) then 2 else bif (n:Int) != h then 1 else gA R w n 0
theorem gkA_zero {w h:Int}{R:Nat->Row}{n:Nat}(e:gkA w h R n=0):gridP w h R n:=by
 unfold gkA at e
 cases h1:decide (w<1) with
 | true=>rw [h1] at e; cases e
 | false =>
  cases h2:decide (w > 132) with
  | true=>rw [h1,h2] at e; cases e
  | false =>
   cases h3:decide (h<1) with
   | true=>rw [h1,h2,h3] at e; cases e
   | false =>
    cases h4:decide (h > 60) with
    | true=>rw [h1,h2,h3,h4] at e; cases e
    | false =>
     cases h5:(n:Int) != h with
     | true=>rw [h1,h2,h3,h4,h5] at e; cases e
     | false =>
      rw [h1,h2,h3,h4,h5] at e;have e:=gA_zero n 0 e;have h1:=of_decide_eq_false h1;have h2:=of_decide_eq_false h2;have h3:=of_decide_eq_false h3;have h4:=of_decide_eq_false h4
      exact ⟨by omega,by omega,by omega,by omega,by simpa using h5,fun j hj=>e j (Nat.zero_le _) (by omega)⟩
noncomputable def gkG (Q:(Nat->Nat->DV)->Nat->Prop) (F:Int->Int->(Nat->Row)->Nat->Int):ConF:=fun args k=>match args with
 | [.agg [.v (.int .i64 w),.v (.int .i64 h),.sl _ G 1 n]]=>bif holds (Q G n) then k (fun _=>(iv (F w h (fun i=>rowD (G i 0)) n),[])) else none
 | _=>none
theorem gkG_ok {st:AE.Stat}(hx:Hx st) (hv:VdOk st):ConOk Tryz.prog st 26 (gkG rowsSo gkA):=by
 refine con_flat (mg:=[]) (l:=[(67,szP)]) (lp:=lpOf [(122,gfI.g)]) (n:=0) (glOk st) (fun x h=>?_) Tryz.func26 (by kernel_rfl) (by kernel_rfl) (hx 26 rfl) (lp_one (by kernel_rfl) (gf_ls hx hv)) fun args k hk=>?_
 ·simp only [List.mem_cons,List.not_mem_nil,or_false] at h;subst h;exact szP_ok hx
 unfold gkG at hk
 split at hk<;>first | (cases hk; done) | skip
 rename_i w h t G n;obtain ⟨hb,hk⟩:=bif_none hk;obtain ⟨h6,h7⟩:=holds_eq.1 hb
 refine ⟨[.agg [iv w,iv h,.sl t (rowsD (fun i=>slT (G i 0)) fun i=>rowD (G i 0)) 1 n]],_,.cons (Cv.agg (.cons (Cv.of rfl) (.cons (Cv.of rfl) (.cons (rows_cv fun i hi=>h7 i hi) .nil)))) .nil,v_clo _,hk,(gf_tree w h t (fun i=>slT (G i 0)) (fun i=>rowD (G i 0)) n _).trans ?_⟩
 unfold gkA
 refine cS (fun e1=>isD_of (by rw [e1]; rfl)) fun e1=>cS (fun e2=>isD_of (by rw [e1,e2]; rfl)) fun e2=>cS (fun e3=>isD_of (by rw [e1,e2,e3]; rfl)) fun e3=>cS (fun e4=>isD_of (by rw [e1,e2,e3,e4]; rfl)) fun e4=>cS (fun e5=>isD_of (by rw [e1,e2,e3,e4,e5]; rfl)) fun e5=>?_
 refine hT ⟨⟨Nat.zero_le _,⟨h6,fun i hi=>(h7 i hi).2.row⟩⟩,[],wkG (.cons (.po rfl) (.cons (.sl _ _ _ _) (.cons (.v _) (.cons (.v _) .nil)))) (Nat.le_refl _) rfl rfl⟩ ?_
 rw [e1,e2,e3,e4,e5]
 by_cases hq:gA (fun i=>rowD (G i 0)) w n 0=0
 ·exact hT hq (isD_of (by rw [hq]; rfl))
 ·exact hF hq (isD_of rfl)
def ixA (R:Nat->Row):Nat->Nat->Int
 | 0,_=>0
 | m+1,i=>bif rowF (R i) != 0 then (i:Int)+1 else ixA R m (i+1)
theorem ixA_nn (R:Nat->Row):∀ m i,0<=ixA R m i
 | 0,_=>Int.le_refl 0
 | m+1,i=>by
  rw [ixA]
  cases rowF (R i) != 0 with
  | true=>show (0:Int)<=(i:Int)+1; omega
  | false=>exact ixA_nn R m (i+1)
theorem ixA_zero {R:Nat->Row}:∀ (m i:Nat),ixA R m i=0->∀ j,i<=j->j<i+m->rowF (R j)=0
 | 0,i,_,j,h1,h2=>by omega
 | m+1,i,h,j,h1,h2=>by
  rw [ixA] at h
  cases e2:rowF (R i) != 0 with
  | true =>
   rw [e2] at h;have h:(i:Int)+1=0:=h;omega
  | false =>
   rw [e2] at h
   rcases Nat.eq_or_lt_of_le h1 with rfl | h3
   ·simpa using e2
   ·exact ixA_zero m (i+1) h j h3 (by omega)
theorem ig_loop (F:Row->Int) (t:Bool) (T:Nat->Bool) (R:Nat->Row) (n i:Nat) (K:Ex->Nat->List DV->List DV->DHeap->Option Unit):execD Tryz.prog (env [(32,c1C F)] noLp 0) (loopAt Tryz.f71 26) 500 (temps 19 [0,1,7,8] [.sl t (rowsD T R) 1 n,chkFn,iv n,iv i]) [] (fun e τ σ=>K e τ.length (pick [0,1,7,8] τ) (pick [4] τ) σ) =
  bif decide ((i:Int)<(n:Int)) then bif decide ((i:Int)<(n:Int)) then bif decide (tN i<n) then bif holds (Nat.le (Row.n (R (tN i))) 9000000/\∀ (i_1:Nat),i_1<Row.n (R (tN i))->sv (Row.tx (R (tN i)) i_1)=sv (strD (sv (Row.tx (R (tN i)) i_1)))/\Nat.le (ByteArray.size (strD (sv (Row.tx (R (tN i)) i_1)))) 9000000/\iv (Row.wd (R (tN i)) i_1)=iv (numD (iv (Row.wd (R (tN i)) i_1)))/\iv (Row.fo (R (tN i)) i_1)=iv (numD (iv (Row.fo (R (tN i)) i_1)))/\iv (Row.ba (R (tN i)) i_1)=iv (numD (iv (Row.ba (R (tN i)) i_1)))/\iv (Row.fl (R (tN i)) i_1)=iv (numD (iv (Row.fl (R (tN i)) i_1))))
  then bif F (rowOf (Row.cell (R (tN i))) (Row.n (R (tN i)))) != 0 then K .ret 19 [.sl t (rowsD T R) 1 n,.fn (Fn.func 32) [] [],iv (n:Int),iv (i:Int)] [iv (i:Int)] [] else K .normal 19 [.sl t (rowsD T R) 1 n,.fn (Fn.func 32) [] [],iv (n:Int),iv (IntKind.wrap .i64 ((i:Int)+1))] [DV.any] []
  else none else none else none else K (.exit 0) 19 [.sl t (rowsD T R) 1 n,.fn (Fn.func 32) [] [],iv (n:Int),iv (i:Int)] [DV.any] []:=by
 kernel_rfl
def ZIf.q (x:ZIf):Int:=ixA x.R (x.n-x.i) x.i
def qo1 (v:Int):List DV:=if v=0 then [.any] else [iv (v-1)]
noncomputable def igI:LInv ZIf where
 pre x:=x.i<=x.n/\rowsOk x.R x.n
 m:=0
 n:=19
 ps:=[0,1,7,8]
 sd x:=[.sl x.t (rowsD x.T x.R) 1 x.n,chkFn,iv x.n,iv x.i]
 sh _:=[]
 meas x:=x.n-x.i
 e x:=qe x.q
 qs:=[4]
 od x:=qo1 x.q
 oh _:=[]
 guess ds _:=match ds with
  | [.sl t g 1 n,_,_,_]=>some ⟨t,fun i=>slT (g i 0),fun i=>rowD (g i 0),n,0⟩
  | _=>none
 cps x k:=bif holds (x.q=0) then k (.exit 0) [.any] [] else k .ret [iv (x.q-1)] []
theorem q1_cps {v:Int}{σ:DHeap}{k:Ex->List DV->DHeap->Option Unit}(h:(bif holds (v=0) then k (.exit 0) [.any] σ else k .ret [iv (v-1)] σ)=some ()):k (qe v) (qo1 v) σ=some ():=by
 rcases bif_some h with ⟨h1,h2⟩ | ⟨h1,h2⟩
 ·unfold qe qo1; rw [if_pos (holds_eq.1 h1),if_pos (holds_eq.1 h1)]; exact h2
 ·have h1:¬ v=0:=fun e=>by rw [holds_eq.2 e] at h1; cases h1
  unfold qe qo1; rw [if_neg h1,if_neg h1]; exact h2
theorem ig_ls {st:AE.Stat}(hx:Hx st) (hv:VdOk st):LoopS Tryz.prog st gl0 (.loop (loopAt Tryz.f71 26)) igI.g:=by
 refine igI.ok (E:=env [(32,c1C rowF)] noLp 0) (p:=500) (tblD_env (l:=[(32,c1C rowF)]) fun x h=>?_) (glOk st).1 (fun _ _ _ h=>nomatch h) (fun x k h=>q1_cps h) fun x hx2=>?_
 ·simp only [List.mem_cons,List.not_mem_nil,or_false] at h;subst h;exact c1C_ok hx hv
 obtain ⟨t,T,R,n,i⟩:=x;obtain ⟨hi,hR⟩:i<=n/\rowsOk R n:=hx2;have hn:=hR.1;refine (ig_loop rowF t T R n i _).trans ?_;simp only [Int.toNat_natCast,Nat.add_zero]
 refine dS (fun hlt=>?_) fun hge=>?_
 ·have hlt:i<n:=by omega
  have e:n-i=(n-(i+1))+1:=by omega
  have hW:IntKind.i64.wrap ((i:Int)+1)=((i+1:Nat):Int):=by rw [W_in (by omega) (by omega)]; omega
  rw [hW]
  have hq:ZIf.q ⟨t,T,R,n,i⟩=bif rowF (R i) != 0 then (i:Int)+1 else ixA R (n-(i+1)) (i+1):=by simp only [ZIf.q,e,ixA]
  refine dT (by omega) (dT hlt (hT (Row.ok (hR.2 i hlt)) (cS (fun h2=>?_) fun h2=>?_)))
  ·have h2:(rowF (R i) != 0)=true:=h2;rw [h2,cond_true] at hq
   have hne:¬ ((i:Int)+1=0):=by omega
   refine LInv.ask_of ⟨rfl,?_,[],?_⟩
   ·simp only [igI]; rw [hq]; exact (if_neg hne).symm
   ·simp only [igI]; rw [hq]; show WkP 0 [] _ _ (qo1 _) _; rw [show qo1 ((i:Int)+1)=[iv (i:Int)] by unfold qo1; rw [if_neg hne,show (i:Int)+1-1=i by omega]]; exact wk0 (.cons (.v _) .nil) rfl
  ·have h2:(rowF (R i) != 0)=false:=h2;rw [h2,cond_false] at hq;refine LInv.ask_of ⟨rfl,⟨t,T,R,n,i+1⟩,⟨?_,?_,rfl,hlt,hR⟩,?_,[],wk0 (.cons (.sl _ _ _ _) (.cons (.of_clo chkFn_clo) (.cons (.v _) (.cons (.v _) .nil)))) rfl⟩
   ·simp only [igI]; rw [hq]; rfl
   ·simp only [igI]; rw [hq]; rfl
   ·simp only [igI]; omega
 ·have hr:ZIf.q ⟨t,T,R,n,i⟩=0:=by
   have:n-i=0:=by omega
   simp only [ZIf.q,this,ixA]
  refine LInv.ask_of ⟨rfl,?_,[],?_⟩
  ·simp only [igI]; rw [hr]; rfl
  ·simp only [igI]; rw [hr]; exact wk0 (.cons (.any _) .nil) rfl
theorem ig_tree (t:Bool) (T:Nat->Bool) (R:Nat->Row) (n:Nat) (k:DV->Option Unit):bodyD Tryz.prog (env [] (lpOf [(26,igI.g)]) 0) Tryz.f71 [.sl t (rowsD T R) 1 n,chkFn] [] (fun d _=>k d) =
  bif holds ((Nat.le 0 n/\Nat.le n 9000000/\∀ (i:Nat),i<n->Nat.le (Row.n (R i)) 9000000/\∀ (i_1:Nat),i_1<Row.n (R i)->Nat.le (ByteArray.size (Row.tx (R i) i_1)) 9000000)/\∃ ids,WkP 0 ids [.sl t (rowsD T R) 1 n,.fn (Fn.func 32) [] [],iv (n:Int),iv 0] [] [.sl t (fun a _=>DV.sl (slT (.sl (T a) (Row.cell (R a)) 5 (Row.n (R a)))) (Row.cell (R a)) 5 (Row.n (R a))) 1 n,.fn (Fn.func 32) [] [],iv (n:Int),iv 0] (LInv.sh igI { t:=t,T:=fun i=>slT (.sl (T i) (Row.cell (R i)) 5 (Row.n (R i))),R:=R,n:=n,i:=0 }))
  then bif holds (ZIf.q { t:=t,T:=fun i=>slT (.sl (T i) (Row.cell (R i)) 5 (Row.n (R i))),R:=R,n:=n,i:=0 }=0) then k (iv (-1:Int)) else k (iv (ZIf.q { t:=t,T:=fun i=>slT (.sl (T i) (Row.cell (R i)) 5 (Row.n (R i))),R:=R,n:=n,i:=0 }-1))
  else none:=by
 kernel_rfl
noncomputable def igC (F:(Nat->Row)->Nat->Int):ConF:=fun args k=>match args with
 | [.sl _ G 1 n,.fn (.func 32) [] []]=>bif holds (rowsSo G n) then k (fun _=>(iv (F (fun i=>rowD (G i 0)) n),[])) else none
 | _=>none
theorem igC_ok {st:AE.Stat}(hx:Hx st) (hv:VdOk st):ConOk Tryz.prog st 71 (igC fun R n=>ixA R n 0-1):=by
 refine con_flat (mg:=[]) (l:=[]) (lp:=lpOf [(26,igI.g)]) (n:=0) (glOk st) (fun _ h=>nomatch h) Tryz.func71 (by kernel_rfl) (by kernel_rfl) (hx 71 rfl) (lp_one (by kernel_rfl) (ig_ls hx hv)) fun args k hk=>?_
 unfold igC at hk
 split at hk<;>first | (cases hk; done) | skip
 rename_i t G n;obtain ⟨hb,hk⟩:=bif_none hk;have hb:=holds_eq.1 hb
 refine ⟨[.sl t (rowsD (fun i=>slT (G i 0)) fun i=>rowD (G i 0)) 1 n,chkFn],_,.cons (rows_cv hb.2) (.self .nil),v_clo _,hk,(ig_tree t _ _ n _).trans (hT ⟨⟨Nat.zero_le _,⟨hb.1,fun i hi=>(hb.2 i hi).2.row⟩⟩,[],wk0 (.cons (.sl _ _ _ _) (.cons (.of_clo chkFn_clo) (.cons (.v _) (.cons (.v _) .nil)))) rfl⟩ ?_)⟩
 by_cases hq:ixA (fun i=>rowD (G i 0)) n 0=0
 ·exact hT hq (isD_of (by show iv (-1)=iv (ixA (fun i=>rowD (G i 0)) n 0-1); rw [hq]; rfl))
 ·exact hF hq (isD_of rfl)
theorem cg_tree (F:(Nat->Row)->Nat->Int) (t:Bool) (T:Nat->Bool) (R:Nat->Row) (n:Nat) (k:DV->Option Unit):bodyD Tryz.prog (env [(71,igC F)] noLp 0) Tryz.f31 [.sl t (rowsD T R) 1 n,chkFn] [] (fun d _=>k d) =
  bif holds (Nat.le n 9000000/\∀ (i:Nat),i<n->DV.sl (T i) (Row.cell (R i)) 5 (Row.n (R i))=DV.sl (slT (.sl (T i) (Row.cell (R i)) 5 (Row.n (R i)))) (slG (.sl (T i) (Row.cell (R i)) 5 (Row.n (R i)))) 5 (slN (.sl (T i) (Row.cell (R i)) 5 (Row.n (R i))))/\Nat.le (slN (.sl (T i) (Row.cell (R i)) 5 (Row.n (R i)))) 9000000/\∀ (i_1:Nat),i_1<slN (.sl (T i) (Row.cell (R i)) 5 (Row.n (R i)))->sv (Row.tx (R i) i_1)=sv (strD (sv (Row.tx (R i) i_1)))/\Nat.le (ByteArray.size (strD (sv (Row.tx (R i) i_1)))) 9000000/\iv (Row.wd (R i) i_1)=iv (numD (iv (Row.wd (R i) i_1)))/\iv (Row.fo (R i) i_1)=iv (numD (iv (Row.fo (R i) i_1)))/\iv (Row.ba (R i) i_1)=iv (numD (iv (Row.ba (R i) i_1)))/\iv (Row.fl (R i) i_1)=iv (numD (iv (Row.fl (R i) i_1))))
  then k (bv (decide (F (R) n >= 0))) else none:=by
 kernel_rfl
noncomputable def cgC (Q:(Nat->Nat->DV)->Nat->Prop) (F:(Nat->Row)->Nat->Bool):ConF:=fun args k=>match args with
 | [.sl _ G 1 n,.fn (.func 32) [] []]=>bif holds (Q G n) then k (fun _=>(bv (F (fun i=>rowD (G i 0)) n),[])) else none
 | _=>none
def badB (R:Nat->Row) (n:Nat):Bool:=decide (ixA R n 0-1 >= 0)
theorem badB_of {R:Nat->Row}{n:Nat}(h:badB R n=false):∀ j,j<n->rowF (R j)=0:=fun j hj=>by
 have h:=of_decide_eq_false h;have:=ixA_nn R n 0
 exact ixA_zero n 0 (by omega) j (Nat.zero_le _) (by omega)
theorem cgC_ok {st:AE.Stat}(hx:Hx st) (hv:VdOk st):ConOk Tryz.prog st 31 (cgC rowsSo badB):=by
 refine con_flat (mg:=[]) (l:=[(71,igC fun R n=>ixA R n 0-1)]) (lp:=noLp) (n:=0) (glOk st) (fun x h=>?_) Tryz.func31 (by kernel_rfl) (by kernel_rfl) (hx 31 rfl) (fun _ _ _ h=>nomatch h) fun args k hk=>?_
 ·simp only [List.mem_cons,List.not_mem_nil,or_false] at h;subst h;exact igC_ok hx hv
 unfold cgC at hk
 split at hk<;>first | (cases hk; done) | skip
 rename_i t G n;obtain ⟨hb,hk⟩:=bif_none hk;have hb:=holds_eq.1 hb
 exact ⟨[.sl t (rowsD (fun i=>slT (G i 0)) fun i=>rowD (G i 0)) 1 n,chkFn],_,.cons (rows_cv hb.2) (.self .nil),v_clo _,hk,(cg_tree (fun R n=>ixA R n 0-1) t _ _ n _).trans (hT ⟨hb.1,fun i hi=>isRow_of (hb.2 i hi).2.row⟩ (isD_of rfl))⟩
noncomputable abbrev tgL (Q:(Nat->Nat->DV)->Nat->Prop) (F:Int->Int->(Nat->Row)->Nat->Int) (I:Int->Int->Bool->Int->Int->Bool) (A:Int->Int->Int->Int) (S:Int->Int->Int->Bool) (V:ByteArray->Bool) (B:(Nat->Row)->Nat->Bool):List (FuncId×ConF):=[(26,gkG Q F),(27,isC I),(28,akC A),(29,seC S),(30,vaG V),(31,cgC Q B)]
theorem tg_tree (Q:(Nat->Nat->DV)->Nat->Prop) (F:Int->Int->(Nat->Row)->Nat->Int) (I:Int->Int->Bool->Int->Int->Bool) (A:Int->Int->Int->Int) (S:Int->Int->Int->Bool) (V:ByteArray->Bool) (B:(Nat->Row)->Nat->Bool) (x:Tm) (k:DV->Option Unit):bodyD Tryz.prog (env (tgL Q F I A S V B) noLp 0) Tryz.f11 [.agg x.cells] [] (fun d _=>k d) =
  bif holds (Q (rowsD x.gT x.gR) x.gn) then bif F (x.I 0) (x.I 1) x.gR x.gn==0 then bif holds (Q (rowsD x.oT x.oR) x.on) then bif F (x.I 3) (x.I 4) x.oR x.on==0 then bif x.I 0==x.I 3 then bif x.I 1==x.I 4
  then bif I (x.I 6) (x.I 7) (x.B 8) (x.I 0) (x.I 1) then bif I (x.I 9) (x.I 10) (x.B 11) (x.I 0) (x.I 1) then bif A (x.I 19) (x.I 20) (x.I 21)==0 then bif A (x.I 12) (x.I 13) (x.I 14)==0 then bif S (x.I 30) (x.I 31) (x.I 32)
  then bif S (x.I 16) (x.I 17) (x.I 18) then bif decide (x.I 33 >= 0) then bif decide (x.I 33<x.I 34) then bif decide (x.I 34<=x.I 1) then bif (x.tn:Int)==x.I 0 then bif decide ((x.bn:Int)<=500)
  then bif decide (ByteArray.size (x.S 40)<=9000000) then bif !V (x.S 40) then k (iv 1) else bif holds (Q (rowsD x.bT x.bR) x.bn) then bif B x.bR x.bn then k (iv 1) else k (iv 0) else none else none
  else k (iv 1) else k (iv 1) else k (iv 1) else k (iv 1) else k (iv 1) else k (iv 1) else k (iv 1) else k (iv 1) else k (iv 1) else k (iv 1) else k (iv 1) else k (iv 1) else k (iv 1) else k (iv 1) else none
  else k (iv 1) else none:=by
 kernel_rfl
theorem gA_of {R:Nat->Row}{w:Int}:∀ (m i:Nat),(∀ j,i<=j->j<i+m->((R j).n:Int)=w/\rowF (R j)=0)->gA R w m i=0
 | 0,_,_=>rfl
 | m+1,i,h=>by
  obtain ⟨h1,h2⟩:=h i (Nat.le_refl _) (by omega)
  rw [gA,h1,h2,bne_self_eq_false,cond_false,bne_self_eq_false,cond_false]
  exact gA_of m (i+1) fun j a b=>h j (by omega) (by omega)
theorem gkA_of {w h:Int}{R:Nat->Row}{n:Nat}(g:gridP w h R n):gkA w h R n=0:=by
 obtain ⟨g1,g2,g3,g4,g5,g6⟩:=g;unfold gkA
 rw [decide_eq_false (by omega),decide_eq_false (by omega),decide_eq_false (by omega),decide_eq_false (by omega),g5,bne_self_eq_false]
 exact gA_of n 0 fun j _ hj=>g6 j (by omega)
theorem ixA_of {R:Nat->Row}:∀ (m i:Nat),(∀ j,i<=j->j<i+m->rowF (R j)=0)->ixA R m i=0
 | 0,_,_=>rfl
 | m+1,i,h=>by
  rw [ixA,h i (Nat.le_refl _) (by omega),bne_self_eq_false,cond_false]
  exact ixA_of m (i+1) fun j a b=>h j (by omega) (by omega)
theorem of_bad {R:Nat->Row}{n:Nat}(h:∀ j,j<n->rowF (R j)=0):badB R n=false:=by
 unfold badB
 rw [ixA_of n 0 fun j _ hj=>h j (by omega)]
 rfl
noncomputable def tkV (x:Tm):Int:=@ite Int (PrpP x) (Classical.propDecidable _) 0 1
theorem tkV_yes {x:Tm}(h:PrpP x):tkV x=0:=@if_pos (PrpP x) (Classical.propDecidable _) h Int 0 1
theorem tkV_no {x:Tm}(h:¬ PrpP x):tkV x=1:=@if_neg (PrpP x) (Classical.propDecidable _) h Int 0 1
theorem tg_true (x:Tm) (hok:x.ok):bodyD Tryz.prog (env (tgL rowsSo gkA insF akF setF vdF badB) noLp 0) Tryz.f11 [.agg x.cells] [] (fun d _=>isD (iv (tkV x)) d)=some ():=by
 refine (tg_tree rowsSo gkA insF akF setF vdF badB x _).trans ?_
 have qr:∀ {T:Nat->Bool}{R:Nat->Row}{n:Nat},rowsOk R n->rowsSo (rowsD T R) n:=fun ok=>⟨ok.1,fun i hi=>isRow_of (ok.2 i hi)⟩
 have no:(¬ PrpP x)->isD (iv (tkV x)) (iv 1)=some ():=fun h=>isD_of (by rw [tkV_no h])
 have eq0:∀ {a b:Int},(a==b)=true->a=b:=fun h=>by simpa using h
 have ne0:∀ {a b:Int},(a==b)=false->a≠b:=fun h=>by simpa using h
 refine hT (qr hok.1) (cS (fun c1=>?_) fun c1=>no fun p=>ne0 c1 (gkA_of p.g))
 refine hT (qr hok.2.1) (cS (fun c2=>?_) fun c2=>no fun p=>ne0 c2 (gkA_of p.o))
 refine cS (fun c3=>?_) fun c3=>no fun p=>ne0 c3 p.w
 refine cS (fun c4=>?_) fun c4=>no fun p=>ne0 c4 p.h
 refine cS (fun c5=>?_) fun c5=>no fun p=>by rw [p.c] at c5; cases c5
 refine cS (fun c6=>?_) fun c6=>no fun p=>by rw [p.d] at c6; cases c6
 refine cS (fun c7=>?_) fun c7=>no fun p=>ne0 c7 p.a
 refine cS (fun c8=>?_) fun c8=>no fun p=>ne0 c8 p.a2
 refine cS (fun c9=>?_) fun c9=>no fun p=>by rw [p.s] at c9; cases c9
 refine cS (fun c10=>?_) fun c10=>no fun p=>by rw [p.s2] at c10; cases c10
 refine dS (fun c11=>?_) fun c11=>no fun p=>c11 p.t0
 refine dS (fun c12=>?_) fun c12=>no fun p=>c12 p.t1
 refine dS (fun c13=>?_) fun c13=>no fun p=>c13 p.t2
 refine cS (fun c14=>?_) fun c14=>no fun p=>ne0 c14 p.tn
 refine dS (fun c15=>?_) fun c15=>no fun p=>c15 p.bn
 refine dT hok.2.2.2.2.1 (cS (fun c16=>no fun p=>by rw [p.v] at c16; cases c16) fun c16=>hT (qr hok.2.2.1) (cS (fun c17=>no fun p=>?_) fun c17=>isD_of ?_))
 ·have c17:badB x.bR x.bn=true:=c17;rw [of_bad p.b] at c17;cases c17
 ·have hp:PrpP x:=⟨gkA_zero (eq0 c1),gkA_zero (eq0 c2),eq0 c3,eq0 c4,c5,c6,eq0 c7,eq0 c8,c9,c10,c11,c12,c13,eq0 c14,c15,by simpa using c16,badB_of c17⟩
  rw [tkV_yes hp]
noncomputable def tgC (F:Tm->Int):ConF:=fun args k=>match args with
 | [.agg l]=>bif holds (l=(tmOf l).cells/\(tmOf l).ok) then k (fun _=>(iv (F (tmOf l)),[])) else none
 | _=>none
theorem tgC_ok {st:AE.Stat}(hx:Hx st) (hv:VdOk st):ConOk Tryz.prog st 11 (tgC tkV):=by
 refine con_flat (mg:=[]) (l:=tgL rowsSo gkA insF akF setF vdF badB) (lp:=noLp) (n:=0) (glOk st) (fun x h=>?_) Tryz.func11 (by kernel_rfl) (by kernel_rfl) (hx 11 rfl) (fun _ _ _ h=>nomatch h) fun args k hk=>?_
 ·simp only [tgL,List.mem_cons,List.not_mem_nil,or_false] at h
  rcases h with rfl | rfl | rfl | rfl | rfl | rfl
  ·exact gkG_ok hx hv
  ·exact wiC_ok hx
  ·exact akC_ok hx
  ·exact stC_ok hx
  ·exact vdC_ok hx hv
  ·exact cgC_ok hx hv
 unfold tgC at hk
 split at hk<;>first | (cases hk; done) | skip
 rename_i l;obtain ⟨hb,hk⟩:=bif_none hk;obtain ⟨h1,h2⟩:=holds_eq.1 hb
 exact ⟨[.agg (tmOf l).cells],_,.cons (Cv.of (by rw [<- h1])) .nil,v_clo _,hk,tg_true (tmOf l) h2⟩
end Go.Proofs.YtigmkgampfbflaaGreatDoor
namespace Go.Proofs.YtigmkgampfbflaaGreatDoor
open Go Go.AE Go.DE Go.RowKit
theorem oz_ok {st:AE.Stat}(hx:Hx st) {x:Tm}(h:tmPP x.cells):ConOkZ true Tryz.prog st 35 (ozC (fun l=>l=x.cells) x.own):=fun args k hk=>by
 unfold ozC at hk
 split at hk<;>first | (cases hk; done) | skip
 rename_i l;obtain ⟨hb,hk2⟩:=bif_none hk;clear hk;obtain rfl:=holds_eq.1 hb;exact owP_ok hx _ k (hT h hk2)
theorem mcQ_own {x:Tm}(h:x.B 25=false):mcQ x.own (x.own.S 41)=x.own.cells:=by
 have key:∀ b,x.B 25=b->(x.own.cells.set 25 (bv b)).set 41 (sv (x.own.S 41))=x.own.cells:=by
  rintro _ rfl
  rfl
 exact key false h
theorem of_ok {st:AE.Stat}(hx:Hx st) {x:Tm}(h:tmPP x.cells) (h25:x.B 25=false):ConOkZ true Tryz.prog st 35 (ofC (fun l=>l=x.cells) x.own):=fun args k hk=>by
 unfold ofC at hk
 split at hk<;>first | (cases hk; done) | skip
 rename_i l;obtain ⟨hb,hk2⟩:=bif_none hk;clear hk;obtain rfl:=holds_eq.1 hb;rw [mcQ_own h25] at hk2;exact owP_ok hx _ k (hT h hk2)
theorem feM_ok {st:AE.Stat}(hx:Hx st):ConOkZ true Tryz.prog st 36 (feM (fqN 0)):=fun args k hk=>by
 unfold feM at hk
 split at hk<;>first | (cases hk; done) | skip
 rename_i v p s b;obtain ⟨hb,hk1⟩:=bif_none hk;clear hk;obtain ⟨rfl,rfl,rfl,rfl⟩:=holds_eq.1 hb;exact feN_ok hx _ k (hT ⟨⟨rfl,rfl⟩,rfl⟩ hk1)
theorem prs_sub {r0:Nat->Option Nat}:SubC r0 prs0 ⟨3,(((DC.lst [[iv 0,sv ⟨#[]⟩,sv ⟨#[]⟩]]).upd 0 0 (iv 0)).upd 0 1 (sv ⟨#[]⟩)).upd 0 2 (sv ⟨#[]⟩)⟩:=⟨rfl,Nat.le_refl _,trivial,fun i f hi hf=>by
 have hi:i<1:=hi
 obtain rfl:i=0:=by omega
 have hf:f<3:=hf
 match f,hf with
 | 0,_ | 1,_ | 2,_=>exact .v _⟩
theorem ins_cur {r c w h:Int}{p:Bool}(h1:insF r c p w h=true):curOk r c w h:=by
 unfold insF at h1;simp only [Bool.and_eq_true,decide_eq_true_eq] at h1
 exact ⟨by omega,by omega,by omega,by omega⟩
def Tm.w1 (x:Tm):Tm:={ x.own with
 I:=fun j=>if j=6 then toR 2 (x.I 1) else if j=7 then toR 3 (x.I 0) else if j=37 then 0 else x.I j
 B:=fun j=>if j=8 then false else if j=25 then false else x.B j
 S:=fun j=>if j=38 then ⟨#[]⟩ else if j=39 then ⟨#[]⟩ else x.S j }
def Tm.qs (x:Tm) (n:Nat):Tm:={ x.own with
 I:=fun j=>if j=37 then 0 else x.I j
 B:=fun j=>if j=25 then false else x.B j
 S:=fun j=>if j=38 then ⟨#[]⟩ else if j=39 then ⟨#[]⟩ else if j=41 then repN (oneR x) n (x.S 41) else x.S j }
theorem own_flat (x:Tm) (h1:∀ i,i<x.gn->x.gT i=false) (h2:∀ i,i<x.on->x.oT i=false) (h3:∀ i,i<x.bn->x.bT i=false):Clo (.agg x.cells)/\Low (.agg x.cells):=⟨.agg x.clo,.agg (Tm.low_cells h1 h2 h3)⟩
def wAQ (l:List DV):Prop:=tmPP l/\idlF ((tmOf l).I 37) ((tmOf l).S 38) ((tmOf l).S 39)=true/\((tmOf l).S 38).size<=9000000/\((tmOf l).S 39).size<=9000000
def wBQ (l:List DV):Prop:=tmPP l/\(tmOf l).B 25=false/\(tmOf l).I 37=0/\(tmOf l).S 38=⟨#[]⟩/\(tmOf l).S 39=⟨#[]⟩/\(tmOf l).S 41=⟨#[]⟩/\curQ (tmOf l)
theorem PrpP.bnd {x:Tm}(p:PrpP x):bndOk (x.I 0) (x.I 1) (x.I 33) (x.I 34):=by
 obtain ⟨g1,g2,g3,g4,-⟩:=p.g;exact ⟨g1,g2,g3,g4,p.t0,p.t1,p.t2⟩
theorem PrpP.gpos {x:Tm}(p:PrpP x):0<x.gn:=by
 obtain ⟨g1,g2,g3,g4,g5,-⟩:=p.g;omega
section
variable {st:AE.Stat}(K:RepOk st) (hv:VdOk st)
include K hv
theorem wA_at {l:List DV}{x:Tm}(hc:l=x.cells) (hP:tmPP x.cells) (p:PrpP x) (hi:idlF (x.I 37) (x.S 38) (x.S 39)=true) (hs1:(x.S 38).size<=9000000) (hs2:(x.S 39).size<=9000000) :
  ConOkZ true Tryz.prog st 14 (fun a k'=>bif holds (a=[.agg l,sv sqA]) then k' (fun _=>(.agg x.w1.cells,[])) else none):=by
 refine con_flatE (E:=envG Tryz.prog gl0 [] [e37q [e143 toQ toR,e197 toQ toR] evQ] [(35,ozC (fun l=>l=x.cells) x.own),(11,tcC tckQ),(36,fqC fqA 2 (.lst (qsA.map Seq.ev)))] noLp 3) (glOk st) (envG_ok (fun _ h=>nomatch h) (cons_inZ (in37q K (cons_inZ (in143 K) (cons_inZ (in197 K) nil_inZ))) nil_inZ) (cons_conZ (oz_ok K.x hP) (cons_conZ (tcC_ok K.x hv).z (cons_conZ (feA_ok K.x K.cs) nil_conZ)))) Tryz.func14 (by kernel_rfl) (by kernel_rfl) (K.x 14 rfl) (fun _ _ _ h=>nomatch h) fun args k hk=>?_
 obtain ⟨e,hk3⟩:=bif_none hk;obtain rfl:=holds_eq.1 e;have b:=p.bnd;obtain ⟨w1,w2,h1,h2,t0,t1,t2⟩:=b
 have c1:toR 1 (x.I 1)=0:=by unfold toR; rw [if_pos h1]; rfl
 have c2:toR 1 (x.I 0)=0:=by unfold toR; rw [if_pos w1]; rfl
 refine ⟨[.agg x.cells,sv sqA],_,.cons (Cv.of (by rw [hc])) (.self .nil),own_flat x.w1 (fun _ _=>rfl) (fun _ _=>rfl) (fun _ _=>rfl),hk3,(w1_tree x x.own (fun l=>l=x.cells) tckQ evQ fqA toQ toR _).trans (hT rfl (dT p.gpos (hT ⟨hP.1,hP.2.1,hP.2.2.1⟩ (hT ⟨rfl,hi,hs1,hs2⟩ (hT ⟨63,108,_,1,rfl,by decide,by decide,rfl,.inl ⟨rfl,rfl,rfl⟩⟩ (hT ⟨ins_cur p.c,p.bnd,by decide,by decide,by decide,by decide⟩ (hT ⟨0,72,_,2,rfl,by decide,by decide,rfl,.inr (.inl ⟨rfl,rfl,rfl,rfl⟩)⟩ (hT ⟨?_,p.bnd,by decide,by decide,by decide,by decide⟩ (isD_of rfl)))))))))⟩
 show curOk (toR 1 (x.I 1)) (toR 1 (x.I 0)) (x.I 0) (x.I 1);rw [c1,c2]
 exact ⟨by omega,by omega,by omega,by omega⟩
theorem wA_ok {l:List DV}(q:wAQ l):ConOkZ true Tryz.prog st 14 (fun a k'=>bif holds (a=[.agg l,sv sqA]) then k' (fun _=>(.agg (tmOf l).w1.cells,[])) else none) :=
 wA_at K hv q.1.1 (by rw [<- q.1.1]; exact q.1) q.1.2.2.1 q.2.1 q.2.2.1 q.2.2.2
theorem wB_at {l:List DV}{x:Tm}{n:Nat}(hc:l=x.cells) (hP:tmPP x.cells) (p:PrpP x) (h25:x.B 25=false) (h37:x.I 37=0) (h38:x.S 38=⟨#[]⟩) (h39:x.S 39=⟨#[]⟩) (h41:x.S 41=⟨#[]⟩) (hq:curQ x) (h9:n<=9) :
  ConOkZ true Tryz.prog st 14 (fun a k'=>bif holds (a=[.agg l,sv (sqB n)]) then k' (fun _=>(.agg (x.qs n).cells,[])) else none):=by
 rcases Nat.eq_zero_or_pos n with rfl | h1
 ·refine con_flatE (E:=envG Tryz.prog gl0 [] [] [(35,ofC (fun l=>l=x.cells) x.own),(11,tcC tckQ),(36,feM (fqN 0))] noLp 1) (glOk st) (envG_ok (fun _ h=>nomatch h) nil_inZ (cons_conZ (of_ok K.x hP h25) (cons_conZ (tcC_ok K.x hv).z (cons_conZ (feM_ok K.x) nil_conZ)))) Tryz.func14 (by kernel_rfl) (by kernel_rfl) (K.x 14 rfl) (fun _ _ _ h=>nomatch h) fun args k hk=>?_
  obtain ⟨e,hk3⟩:=bif_none hk;obtain rfl:=holds_eq.1 e
  exact ⟨[.agg x.cells,sv ⟨#[]⟩],_,.cons (Cv.of (by rw [hc])) (.self .nil),own_flat (x.qs 0) (fun _ _=>rfl) (fun _ _=>rfl) (fun _ _=>rfl),hk3,(wq0_tree x x.own (fun l=>l=x.cells) tckQ (fqN 0) _).trans (hT rfl (dT p.gpos (hT ⟨hP.1,hP.2.1,hP.2.2.1⟩ (hT ⟨h37,h38,h39,rfl⟩ (isD_of rfl)))))⟩
 ·refine con_flatE (E:=envG Tryz.prog gl0 [] [] [(35,ofC (fun l=>l=x.cells) x.own),(11,tcC tckQ),(36,fqC (fqN n) n (.tab n evU))] (lpOf [(250,(rpI x.own n).g)]) 0) (glOk st) (envG_ok (fun _ h=>nomatch h) nil_inZ (cons_conZ (of_ok K.x hP h25) (cons_conZ (tcC_ok K.x hv).z (cons_conZ (feB_ok K.x K.cs h1 h9) nil_conZ)))) Tryz.func14 (by kernel_rfl) (by kernel_rfl) (K.x 14 rfl) (lp_in (c0:=.loop (loopAt Tryz.f14 250)) (by kernel_rfl) (q_ls K x.own n)) fun args k hk=>?_
  obtain ⟨e,hk3⟩:=bif_none hk;obtain rfl:=holds_eq.1 e
  refine ⟨[.agg x.cells,sv (sqB n)],_,.cons (Cv.of (by rw [hc])) (.self .nil),own_flat (x.qs n) (fun _ _=>rfl) (fun _ _=>rfl) (fun _ _=>rfl),hk3,(wq_tree x x.own n (fun l=>l=x.cells) tckQ (fqN n) _).trans (hT rfl (dT p.gpos (hT ⟨hP.1,hP.2.1,hP.2.2.1⟩ (hT ⟨h37,h38,h39,rfl⟩ (hT ⟨⟨Nat.zero_le _,h9,hq,?_⟩,[],?_⟩ (isD_of rfl))))))⟩
  ·show (x.S 41).size+6*(n-0)<=60;rw [h41];show 0+6*(n-0)<=60;omega
  ·exact .of (im:=[some 1,some 2,some 3,some 4]) (.cons (.po rfl) (.cons (.po rfl) (.cons (.po rfl) (.cons (.os rfl) (.cons (.v _) (.cons (.v _) .nil)))))) rfl
    ⟨⟨1,_,rfl,rfl,zb1_kb.sub⟩,⟨2,_,rfl,rfl,mq_sub (r:=x.S 41) rfl (Nat.le_refl _) rfl fun f _=>rfl⟩,⟨3,_,rfl,rfl,rfl,Nat.le_refl _,trivial,fun i f hi hf=>.of_clo (evU_clo hf)⟩,⟨4,_,rfl,rfl,prs_sub⟩,trivial⟩ rfl (by decide)
theorem wB_ok {l:List DV}{n:Nat}(q:wBQ l) (h9:n<=9):ConOkZ true Tryz.prog st 14 (fun a k'=>bif holds (a=[.agg l,sv (sqB n)]) then k' (fun _=>(.agg ((tmOf l).qs n).cells,[])) else none) :=
 wB_at K hv q.1.1 (by rw [<- q.1.1]; exact q.1) q.1.2.2.1 q.2.1 q.2.2.1 q.2.2.2.1 q.2.2.2.2.1 q.2.2.2.2.2.1 q.2.2.2.2.2.2 h9
end
theorem sqL_len:∀ n,(sqL n).length=4*n
 | 0=>rfl
 | n+1=>by
  show (sqL n).length+1+1+1+1=_;rw [sqL_len n];omega
theorem sqB_size (n:Nat):(sqB n).size=4*n:=sqL_len n
end Go.Proofs.YtigmkgampfbflaaGreatDoor
namespace Go.Proofs
open Go.Shelf
def Tryz.lays166_ren:Go.Shelf.Ren:=⟨fun | 166=>61 | 240=>103 | 276=>161 | n=>n,fun | 0=>0 | 3=>3 | 4=>4 | 5=>5 | 9=>9 | 20=>20 | 37=>82 | 70=>99 | 72=>101 | 75=>105 | 80=>108 | 164=>197 | n=>n,fun | n=>n⟩
theorem Tryz.lays166:Go.Proofs.Lays.n166 Tryz.prog Tryz.lays166_ren:={
 mixed:=by kernel_rfl
 f166:=Tryz.func61.trans (congrArg some (by kernel_rfl))
 f240:=Tryz.func103.trans (congrArg some (by kernel_rfl))
 f276:=Tryz.func161.trans (congrArg some (by kernel_rfl))
 t0:=Tryz.underlying0
 a0:=Tryz.isAgg0
 z0:=Tryz.sizeOf0
 v0:=Tryz.zeroValue0
 t3:=Tryz.underlying3
 a3:=Tryz.isAgg3
 z3:=Tryz.sizeOf3
 v3:=Tryz.zeroValue3
 t4:=Tryz.underlying4
 a4:=Tryz.isAgg4
 z4:=Tryz.sizeOf4
 v4:=Tryz.zeroValue4
 t9:=Tryz.underlying9
 a9:=Tryz.isAgg9
 z9:=Tryz.sizeOf9
 v9:=Tryz.zeroValue9
 t20:=Tryz.underlying20
 a20:=Tryz.isAgg20
 z20:=Tryz.sizeOf20
 v20:=Tryz.zeroValue20
 t37:=Tryz.underlying82
 a37:=Tryz.isAgg82
 z37:=Tryz.sizeOf82
 v37:=Tryz.zeroValue82
 t70:=Tryz.underlying99
 a70:=Tryz.isAgg99
 z70:=Tryz.sizeOf99
 v70:=Tryz.zeroValue99
 t72:=Tryz.underlying101
 a72:=Tryz.isAgg101
 z72:=Tryz.sizeOf101
 v72:=Tryz.zeroValue101
 t75:=Tryz.underlying105
 a75:=Tryz.isAgg105
 z75:=Tryz.sizeOf105
 v75:=Tryz.zeroValue105
 t164:=Tryz.underlying197
 a164:=Tryz.isAgg197
 z164:=Tryz.sizeOf197
 v164:=Tryz.zeroValue197 }
theorem Tryz.Builder_Extra_166:Builder.Extra Tryz.prog Tryz.lays166_ren:={
 sizeBuilder:=by kernel_rfl
 liesBuilder:=by kernel_rfl
 t5:=Tryz.underlying5
 a5:=Tryz.isAgg5
 z5:=Tryz.sizeOf5
 v5:=Tryz.zeroValue5
 infoByte:=by kernel_rfl
 cellsByte:=by kernel_rfl
 sizeByte:=by kernel_rfl
 neB5:=by decide }
def Tryz.lays169_ren:Go.Shelf.Ren:=⟨fun | 169=>62 | n=>n,fun | 0=>0 | 3=>3 | 5=>5 | 9=>9 | 37=>82 | 70=>99 | 72=>101 | 127=>149 | n=>n,fun | n=>n⟩
theorem Tryz.lays169:Go.Proofs.Lays.n169 Tryz.prog Tryz.lays169_ren:={
 mixed:=by kernel_rfl
 f169:=Tryz.func62.trans (congrArg some (by kernel_rfl))
 t0:=Tryz.underlying0
 a0:=Tryz.isAgg0
 z0:=Tryz.sizeOf0
 v0:=Tryz.zeroValue0
 t3:=Tryz.underlying3
 a3:=Tryz.isAgg3
 z3:=Tryz.sizeOf3
 v3:=Tryz.zeroValue3
 t9:=Tryz.underlying9
 a9:=Tryz.isAgg9
 z9:=Tryz.sizeOf9
 v9:=Tryz.zeroValue9
 t37:=Tryz.underlying82
 a37:=Tryz.isAgg82
 z37:=Tryz.sizeOf82
 v37:=Tryz.zeroValue82
 t70:=Tryz.underlying99
 a70:=Tryz.isAgg99
 z70:=Tryz.sizeOf99
 v70:=Tryz.zeroValue99
 t72:=Tryz.underlying101
 a72:=Tryz.isAgg101
 z72:=Tryz.sizeOf101
 v72:=Tryz.zeroValue101
 t127:=Tryz.underlying149
 a127:=Tryz.isAgg149
 z127:=Tryz.sizeOf149
 v127:=Tryz.zeroValue149 }
theorem Tryz.Builder_Extra_169:Builder.Extra Tryz.prog Tryz.lays169_ren:={
 sizeBuilder:=by kernel_rfl
 liesBuilder:=by kernel_rfl
 t5:=Tryz.underlying5
 a5:=Tryz.isAgg5
 z5:=Tryz.sizeOf5
 v5:=Tryz.zeroValue5
 infoByte:=by kernel_rfl
 cellsByte:=by kernel_rfl
 sizeByte:=by kernel_rfl
 neB5:=by decide }
open Go.RowKit in
theorem Tryz.Builder_WriteString (B b:Nat) (bs:List Value) (s:ByteArray) (w:World) (h:Lib.IsBuilder 101 5 B b bs w) (hlen:bs.length+s.size<=140737488355328) (hBw:B<=w.heap.size) :
  Calls Tryz.prog 61 #[.pointer (some ⟨b,0,none⟩),.string s] w fun e w'=>e=.returned (.tuple #[.int .i64 s.size,.nilIface])/\(Lib.BuilderAt 101 5 B b (.pointer (some ⟨b,0,none⟩)) (bs++Lib.strCells s) w'/\Below B w w'):=Any.Builder_WriteString Tryz.lays166 Tryz.Builder_Extra_166 B b bs s w h hlen hBw
open Go.RowKit in
theorem Tryz.Builder_String_any (B b:Nat) (l:List UInt8) (w:World) (h:Lib.IsBuilder 101 5 B b (Lib.byteCells l) w) (hBw:B<=w.heap.size) :
  Calls Tryz.prog 62 #[.pointer (some ⟨b,0,none⟩)] w fun e w'=>e=.returned (.string ⟨l.toArray⟩)/\Below B w w':=Any.Builder_String_any Tryz.lays169 Tryz.Builder_Extra_169 B b l w h hBw
end Go.Proofs
namespace Go.Proofs.YtigmkgampfbflaaGreatDoor
open Go Go.AE Go.DE Go.RowKit
theorem bld_keep {B b:Nat}{bs:List Value}{w w':World}(h:Lib.IsBuilder 101 5 B b bs w) (hk:∀ k,k<w.heap.size->w'.heap[k]?=w.heap[k]?):Lib.IsBuilder 101 5 B b bs w':=by
 have key:∀ p,Lib.BuilderAt 101 5 B b p bs w->Lib.BuilderAt 101 5 B b p bs w':=by
  rintro p ⟨h1,v,h2,⟨h3,h4⟩,h5⟩
  refine ⟨h1,v,(hk b (Array.getElem?_eq_some_iff.1 h2).1).trans h2,⟨h3,h4.imp id ?_⟩,h5⟩
  rintro ⟨g,cap,cur,e,q1,q2,q3⟩
  exact ⟨g,cap,cur,e,q1,(hk g (Array.getElem?_eq_some_iff.1 q2).1).trans q2,q3⟩
 exact h.imp (key _) (key _)
def upTo (f:Nat->ByteArray):Nat->List UInt8
 | 0=>[]
 | k+1=>upTo f k++(f k).data.toList
theorem upTo_len {f:Nat->ByteArray}(h:∀ k,k<5->(f k).size<=1000):∀ {k:Nat},k<=5->(upTo f k).length<=1000*k
 | 0,_=>by simp [upTo]
 | k+1,hk=>by
  have h1:=upTo_len h (k:=k) (by omega)
  have h2:=h k (by omega)
  have h3:(f k).data.toList.length=(f k).size:=Array.length_toList;simp only [upTo,List.length_append,h3];omega
set_option maxRecDepth 100000 in
set_option maxHeartbeats 8000000 in
theorem text_calls (bk o c:Nat) (f:Nat->ByteArray) (w0 x0 y0 z0:Int) (w1 x1 y1 z1:Int) (w2 x2 y2 z2:Int) (w3 x3 y3 z3:Int) (w4 x4 y4 z4:Int) (w:World) (hs:∀ k,k<5->(f k).size<=1000) (h00:w.cell? ⟨bk,o,none⟩=some (.string (f 0))) (h01:w.cell? ⟨bk,o+1,none⟩=some (.int .i64 w0)) (h02:w.cell? ⟨bk,o+2,none⟩=some (.int .i64 x0)) (h03:w.cell? ⟨bk,o+3,none⟩=some (.int .i64 y0)) (h04:w.cell? ⟨bk,o+4,none⟩=some (.int .i64 z0)) (h10:w.cell? ⟨bk,o+5,none⟩=some (.string (f 1))) (h11:w.cell? ⟨bk,o+6,none⟩=some (.int .i64 w1)) (h12:w.cell? ⟨bk,o+7,none⟩=some (.int .i64 x1)) (h13:w.cell? ⟨bk,o+8,none⟩=some (.int .i64 y1)) (h14:w.cell? ⟨bk,o+9,none⟩=some (.int .i64 z1)) (h20:w.cell? ⟨bk,o+10,none⟩=some (.string (f 2))) (h21:w.cell? ⟨bk,o+11,none⟩=some (.int .i64 w2)) (h22:w.cell? ⟨bk,o+12,none⟩=some (.int .i64 x2)) (h23:w.cell? ⟨bk,o+13,none⟩=some (.int .i64 y2)) (h24:w.cell? ⟨bk,o+14,none⟩=some (.int .i64 z2)) (h30:w.cell? ⟨bk,o+15,none⟩=some (.string (f 3))) (h31:w.cell? ⟨bk,o+16,none⟩=some (.int .i64 w3)) (h32:w.cell? ⟨bk,o+17,none⟩=some (.int .i64 x3)) (h33:w.cell? ⟨bk,o+18,none⟩=some (.int .i64 y3)) (h34:w.cell? ⟨bk,o+19,none⟩=some (.int .i64 z3)) (h40:w.cell? ⟨bk,o+20,none⟩=some (.string (f 4))) (h41:w.cell? ⟨bk,o+21,none⟩=some (.int .i64 w4)) (h42:w.cell? ⟨bk,o+22,none⟩=some (.int .i64 x4)) (h43:w.cell? ⟨bk,o+23,none⟩=some (.int .i64 y4)) (h44:w.cell? ⟨bk,o+24,none⟩=some (.int .i64 z4)) :
  Calls Tryz.prog 24 #[.slice (some ⟨bk,o,none⟩) 5 c] w fun e w'=>e=.returned (.string ⟨(upTo f 5).toArray⟩)/\Below w.heap.size w w':=by
 have hB0:=Lib.fresh_isBuilder 101 5 w;have hlt:bk<w.heap.size:=World.block_lt_of_cell? _ _ h00
 go_enter Tryz.func24,Tryz.ntmps24
 go_wp2
 go_loopw [8] (fun i wr=>∃ (k:Nat),k<=5/\i=.int .i64 k/\Below w.heap.size w wr/\Lib.IsBuilder 101 5 w.heap.size w.heap.size (Lib.byteCells (upTo f k)) wr) (fun i _=>5-(intOf i).toNat)
 case atStart =>
  exact ⟨0,Nat.zero_le _,rfl,(Below.refl _ w).alloc (Nat.le_refl _) _,by simpa [upTo,Lib.byteCells] using hB0⟩
 case round =>
  obtain ⟨k,hk,rfl,hB,hI⟩:=hrel
  by_cases hkn:k<5
  case neg =>
   have hkn:k=5:=by omega
   subst hkn
   go_wp2_with fail
   refine (Tryz.Builder_String_any w.heap.size w.heap.size (upTo f 5) _ hI hB.size).mono ?_
   rintro e W1 ⟨rfl,hb1⟩
   go_wp2
   go_ret
   exact ⟨rfl,hB.trans hb1⟩
  by_cases hk0:k=0
  case pos =>
   subst hk0;have g0:=(hB.cell (p:=⟨bk,_,none⟩) hlt).trans h00;have g1:=(hB.cell (p:=⟨bk,_,none⟩) hlt).trans h01;have g2:=(hB.cell (p:=⟨bk,_,none⟩) hlt).trans h02;have g3:=(hB.cell (p:=⟨bk,_,none⟩) hlt).trans h03;have g4:=(hB.cell (p:=⟨bk,_,none⟩) hlt).trans h04
   have hw:=upTo_len hs (k:=0) (by decide)
   have hsi:=hs 0 (by decide)
   clear hB0 hs h00 h01 h02 h03 h04 h10 h11 h12 h13 h14 h20 h21 h22 h23 h24 h30 h31 h32 h33 h34 h40 h41 h42 h43 h44
   go_wp2_with fail
   have hI2:Lib.IsBuilder 101 5 w.heap.size w.heap.size (Lib.byteCells (upTo f 0)) (wr.alloc (Obj.cells #[Value.string (f 0),Value.int IntKind.i64 w0,Value.int IntKind.i64 x0,Value.int IntKind.i64 y0,Value.int IntKind.i64 z0] 103)):=bld_keep hI fun j hj=>Below.heap_alloc wr _ j hj
   have hB2:Below w.heap.size w (wr.alloc (Obj.cells #[Value.string (f 0),Value.int IntKind.i64 w0,Value.int IntKind.i64 x0,Value.int IntKind.i64 y0,Value.int IntKind.i64 z0] 103)):=hB.alloc hB.size _
   have hws:=Tryz.Builder_WriteString w.heap.size w.heap.size (Lib.byteCells (upTo f 0)) (f 0) _ hI2 (by simp only [Lib.byteCells,List.length_map]; omega) hB2.size
   refine hws.mono ?_;clear hws
   rintro e W3 ⟨rfl,h3,b3⟩
   have hB3:Below w.heap.size w W3:=hB2.trans b3
   have hI3:Lib.IsBuilder 101 5 w.heap.size w.heap.size (Lib.byteCells (upTo f (0+1))) W3:=by
    refine .inr ?_
    have e:Lib.byteCells (upTo f 0)++Lib.strCells (f 0)=Lib.byteCells (upTo f (0+1)):=by
     rw [Lib.strCells_eq];simp [upTo,Lib.byteCells]
    rw [e] at h3;exact h3
   clear h3 hI2 hI hB2 hB
   go_wp2
   go_roundw
   case rel=>exact ⟨0+1,by decide,by go_num,hB3,hI3⟩
   case measure=>simp [intOf]
  by_cases hk1:k=1
  case pos =>
   subst hk1;have g0:=(hB.cell (p:=⟨bk,_,none⟩) hlt).trans h10;have g1:=(hB.cell (p:=⟨bk,_,none⟩) hlt).trans h11;have g2:=(hB.cell (p:=⟨bk,_,none⟩) hlt).trans h12;have g3:=(hB.cell (p:=⟨bk,_,none⟩) hlt).trans h13;have g4:=(hB.cell (p:=⟨bk,_,none⟩) hlt).trans h14
   have hw:=upTo_len hs (k:=1) (by decide)
   have hsi:=hs 1 (by decide)
   clear hB0 hs h00 h01 h02 h03 h04 h10 h11 h12 h13 h14 h20 h21 h22 h23 h24 h30 h31 h32 h33 h34 h40 h41 h42 h43 h44
   go_wp2_with fail
   have hI2:Lib.IsBuilder 101 5 w.heap.size w.heap.size (Lib.byteCells (upTo f 1)) (wr.alloc (Obj.cells #[Value.string (f 1),Value.int IntKind.i64 w1,Value.int IntKind.i64 x1,Value.int IntKind.i64 y1,Value.int IntKind.i64 z1] 103)):=bld_keep hI fun j hj=>Below.heap_alloc wr _ j hj
   have hB2:Below w.heap.size w (wr.alloc (Obj.cells #[Value.string (f 1),Value.int IntKind.i64 w1,Value.int IntKind.i64 x1,Value.int IntKind.i64 y1,Value.int IntKind.i64 z1] 103)):=hB.alloc hB.size _
   have hws:=Tryz.Builder_WriteString w.heap.size w.heap.size (Lib.byteCells (upTo f 1)) (f 1) _ hI2 (by simp only [Lib.byteCells,List.length_map]; omega) hB2.size
   refine hws.mono ?_;clear hws
   rintro e W3 ⟨rfl,h3,b3⟩
   have hB3:Below w.heap.size w W3:=hB2.trans b3
   have hI3:Lib.IsBuilder 101 5 w.heap.size w.heap.size (Lib.byteCells (upTo f (1+1))) W3:=by
    refine .inr ?_
    have e:Lib.byteCells (upTo f 1)++Lib.strCells (f 1)=Lib.byteCells (upTo f (1+1)):=by
     rw [Lib.strCells_eq];simp [upTo,Lib.byteCells]
    rw [e] at h3;exact h3
   clear h3 hI2 hI hB2 hB
   go_wp2
   go_roundw
   case rel=>exact ⟨1+1,by decide,by go_num,hB3,hI3⟩
   case measure=>simp [intOf]
  by_cases hk2:k=2
  case pos =>
   subst hk2;have g0:=(hB.cell (p:=⟨bk,_,none⟩) hlt).trans h20;have g1:=(hB.cell (p:=⟨bk,_,none⟩) hlt).trans h21;have g2:=(hB.cell (p:=⟨bk,_,none⟩) hlt).trans h22;have g3:=(hB.cell (p:=⟨bk,_,none⟩) hlt).trans h23;have g4:=(hB.cell (p:=⟨bk,_,none⟩) hlt).trans h24
   have hw:=upTo_len hs (k:=2) (by decide)
   have hsi:=hs 2 (by decide)
   clear hB0 hs h00 h01 h02 h03 h04 h10 h11 h12 h13 h14 h20 h21 h22 h23 h24 h30 h31 h32 h33 h34 h40 h41 h42 h43 h44
   go_wp2_with fail
   have hI2:Lib.IsBuilder 101 5 w.heap.size w.heap.size (Lib.byteCells (upTo f 2)) (wr.alloc (Obj.cells #[Value.string (f 2),Value.int IntKind.i64 w2,Value.int IntKind.i64 x2,Value.int IntKind.i64 y2,Value.int IntKind.i64 z2] 103)):=bld_keep hI fun j hj=>Below.heap_alloc wr _ j hj
   have hB2:Below w.heap.size w (wr.alloc (Obj.cells #[Value.string (f 2),Value.int IntKind.i64 w2,Value.int IntKind.i64 x2,Value.int IntKind.i64 y2,Value.int IntKind.i64 z2] 103)):=hB.alloc hB.size _
   have hws:=Tryz.Builder_WriteString w.heap.size w.heap.size (Lib.byteCells (upTo f 2)) (f 2) _ hI2 (by simp only [Lib.byteCells,List.length_map]; omega) hB2.size
   refine hws.mono ?_;clear hws
   rintro e W3 ⟨rfl,h3,b3⟩
   have hB3:Below w.heap.size w W3:=hB2.trans b3
   have hI3:Lib.IsBuilder 101 5 w.heap.size w.heap.size (Lib.byteCells (upTo f (2+1))) W3:=by
    refine .inr ?_
    have e:Lib.byteCells (upTo f 2)++Lib.strCells (f 2)=Lib.byteCells (upTo f (2+1)):=by
     rw [Lib.strCells_eq];simp [upTo,Lib.byteCells]
    rw [e] at h3;exact h3
   clear h3 hI2 hI hB2 hB
   go_wp2
   go_roundw
   case rel=>exact ⟨2+1,by decide,by go_num,hB3,hI3⟩
   case measure=>simp [intOf]
  by_cases hk3:k=3
  case pos =>
   subst hk3;have g0:=(hB.cell (p:=⟨bk,_,none⟩) hlt).trans h30;have g1:=(hB.cell (p:=⟨bk,_,none⟩) hlt).trans h31;have g2:=(hB.cell (p:=⟨bk,_,none⟩) hlt).trans h32;have g3:=(hB.cell (p:=⟨bk,_,none⟩) hlt).trans h33;have g4:=(hB.cell (p:=⟨bk,_,none⟩) hlt).trans h34
   have hw:=upTo_len hs (k:=3) (by decide)
   have hsi:=hs 3 (by decide)
   clear hB0 hs h00 h01 h02 h03 h04 h10 h11 h12 h13 h14 h20 h21 h22 h23 h24 h30 h31 h32 h33 h34 h40 h41 h42 h43 h44
   go_wp2_with fail
   have hI2:Lib.IsBuilder 101 5 w.heap.size w.heap.size (Lib.byteCells (upTo f 3)) (wr.alloc (Obj.cells #[Value.string (f 3),Value.int IntKind.i64 w3,Value.int IntKind.i64 x3,Value.int IntKind.i64 y3,Value.int IntKind.i64 z3] 103)):=bld_keep hI fun j hj=>Below.heap_alloc wr _ j hj
   have hB2:Below w.heap.size w (wr.alloc (Obj.cells #[Value.string (f 3),Value.int IntKind.i64 w3,Value.int IntKind.i64 x3,Value.int IntKind.i64 y3,Value.int IntKind.i64 z3] 103)):=hB.alloc hB.size _
   have hws:=Tryz.Builder_WriteString w.heap.size w.heap.size (Lib.byteCells (upTo f 3)) (f 3) _ hI2 (by simp only [Lib.byteCells,List.length_map]; omega) hB2.size
   refine hws.mono ?_;clear hws
   rintro e W3 ⟨rfl,h3,b3⟩
   have hB3:Below w.heap.size w W3:=hB2.trans b3
   have hI3:Lib.IsBuilder 101 5 w.heap.size w.heap.size (Lib.byteCells (upTo f (3+1))) W3:=by
    refine .inr ?_
    have e:Lib.byteCells (upTo f 3)++Lib.strCells (f 3)=Lib.byteCells (upTo f (3+1)):=by
     rw [Lib.strCells_eq];simp [upTo,Lib.byteCells]
    rw [e] at h3;exact h3
   clear h3 hI2 hI hB2 hB
   go_wp2
   go_roundw
   case rel=>exact ⟨3+1,by decide,by go_num,hB3,hI3⟩
   case measure=>simp [intOf]
  have hk4:k=4:=by omega
  subst hk4;have g0:=(hB.cell (p:=⟨bk,_,none⟩) hlt).trans h40;have g1:=(hB.cell (p:=⟨bk,_,none⟩) hlt).trans h41;have g2:=(hB.cell (p:=⟨bk,_,none⟩) hlt).trans h42;have g3:=(hB.cell (p:=⟨bk,_,none⟩) hlt).trans h43;have g4:=(hB.cell (p:=⟨bk,_,none⟩) hlt).trans h44
  have hw:=upTo_len hs (k:=4) (by decide)
  have hsi:=hs 4 (by decide)
  clear hB0 hs h00 h01 h02 h03 h04 h10 h11 h12 h13 h14 h20 h21 h22 h23 h24 h30 h31 h32 h33 h34 h40 h41 h42 h43 h44
  go_wp2_with fail
  have hI2:Lib.IsBuilder 101 5 w.heap.size w.heap.size (Lib.byteCells (upTo f 4)) (wr.alloc (Obj.cells #[Value.string (f 4),Value.int IntKind.i64 w4,Value.int IntKind.i64 x4,Value.int IntKind.i64 y4,Value.int IntKind.i64 z4] 103)):=bld_keep hI fun j hj=>Below.heap_alloc wr _ j hj
  have hB2:Below w.heap.size w (wr.alloc (Obj.cells #[Value.string (f 4),Value.int IntKind.i64 w4,Value.int IntKind.i64 x4,Value.int IntKind.i64 y4,Value.int IntKind.i64 z4] 103)):=hB.alloc hB.size _
  have hws:=Tryz.Builder_WriteString w.heap.size w.heap.size (Lib.byteCells (upTo f 4)) (f 4) _ hI2 (by simp only [Lib.byteCells,List.length_map]; omega) hB2.size
  refine hws.mono ?_;clear hws
  rintro e W3 ⟨rfl,h3,b3⟩
  have hB3:Below w.heap.size w W3:=hB2.trans b3
  have hI3:Lib.IsBuilder 101 5 w.heap.size w.heap.size (Lib.byteCells (upTo f (4+1))) W3:=by
   refine .inr ?_
   have e:Lib.byteCells (upTo f 4)++Lib.strCells (f 4)=Lib.byteCells (upTo f (4+1)):=by
    rw [Lib.strCells_eq];simp [upTo,Lib.byteCells]
   rw [e] at h3;exact h3
  clear h3 hI2 hI hB2 hB
  go_wp2
  go_roundw
  case rel=>exact ⟨4+1,by decide,by go_num,hB3,hI3⟩
  case measure=>simp [intOf]
end Go.Proofs.YtigmkgampfbflaaGreatDoor
namespace Go.Proofs.YtigmkgampfbflaaGreatDoor
open Go Go.AE Go.DE Go.RowKit
end Go.Proofs.YtigmkgampfbflaaGreatDoor
