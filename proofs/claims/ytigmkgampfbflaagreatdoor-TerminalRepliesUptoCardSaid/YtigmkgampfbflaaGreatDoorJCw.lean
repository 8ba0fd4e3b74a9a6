/-
 The contracts of charwidth's Mark and Width.
 Conditions: none beyond those of the contracts.
-/
import Derived.Test.YtigmkgampfbflaaGreatDoorDeLst
import Derived.Test.YtigmkgampfbflaaGreatDoorJDec
import Derived.Test.YtigmkgampfbflaaGreatDoorDeCon
import Derived.Lib.ValidU
namespace Go.Proofs.YtigmkgampfbflaaGreatDoor
open Go Go.AE Go.DE Go.RowKit
def bsR (hi:Nat->Int) (v:Int):Nat->Nat->Nat->Nat
 | 0,l,_=>l
 | m+1,l,h=>if l<h then (if v > hi ((l+h) / 2) then bsR hi v m ((l+h) / 2+1) h else bsR hi v m l ((l+h) / 2)) else l
structure BX where
 lo:Nat->Int
 hi:Nat->Int
 n:Nat
 v:Int
 l:Nat
 h:Nat
def bsQ (hi:Nat->Int) (v:Int) (l h:Nat):Nat:=bsR hi v (h-l) l h
def BX.r (x:BX):Nat:=bsQ x.hi x.v x.l x.h
theorem bsR_fuel (hi:Nat->Int) (v:Int):∀ (m k l h:Nat),h-l<=m->h-l<=k->bsR hi v m l h=bsR hi v k l h
 | 0,0,_,_,_,_=>rfl
 | 0,k+1,l,h,h1,_=>by
  rw [bsR,bsR,if_neg (by omega)]
 | m+1,0,l,h,_,h2=>by
  rw [bsR,bsR,if_neg (by omega)]
 | m+1,k+1,l,h,h1,h2=>by
  rw [bsR,bsR]
  by_cases hl:l<h
  ·rw [if_pos hl,if_pos hl,bsR_fuel hi v m k _ h (by omega) (by omega),bsR_fuel hi v m k l _ (by omega) (by omega)]
  ·rw [if_neg hl,if_neg hl]
theorem BX.step {x:BX}(h:x.l<x.h):x.r=if x.v > x.hi ((x.l+x.h) / 2) then BX.r { x with l:=(x.l+x.h) / 2+1 } else BX.r { x with h:=(x.l+x.h) / 2 }:=by
 unfold BX.r bsQ
 obtain ⟨m,e⟩:∃ m,x.h-x.l=m+1:=⟨x.h-x.l-1,by omega⟩
 rw [e,bsR,if_pos h]
 rw [bsR_fuel x.hi x.v m (x.h-((x.l+x.h) / 2+1)) _ x.h (by omega) (by omega),bsR_fuel x.hi x.v m ((x.l+x.h) / 2-x.l) x.l _ (by omega) (by omega)]
noncomputable def bsI (Q:(Nat->Int)->Int->Nat->Nat->Nat):LInv BX where
 pre x:=x.l<=x.h/\x.h<=x.n/\x.n<=1000
 m:=2
 n:=39
 ps:=[0,1,4,5]
 sd x:=[kv .i32 x.v,.po 1 0 0,iv x.l,iv x.h]
 sh x:=[some ⟨2,.tab x.n (rowP x.lo x.hi)⟩,some ⟨1,.lst [[.os 0 0 x.n]]⟩]
 meas x:=x.h-x.l
 e _:=.exit 0
 qs:=[0,1,4]
 od x:=[kv .i32 x.v,.po 1 0 0,iv (Q x.hi x.v x.l x.h)]
 oh x:=[some ⟨2,.tab x.n (rowP x.lo x.hi)⟩,some ⟨1,.lst [[.os 0 0 x.n]]⟩]
 guess ds σ:=match ds,σ with
  | [.v (.int _ v),_,_,.v (.int _ h)],[some ⟨2,.tab n g⟩,_]=>some ⟨fun i=>numD (g i 0),fun i=>numD (g i 1),n,v,0,h.toNat⟩
  | _,_=>none
 cps x k:=k (.exit 0) [kv .i32 x.v,.po 1 0 0,iv (Q x.hi x.v x.l x.h)] [some ⟨2,.tab x.n (rowP x.lo x.hi)⟩,some ⟨1,.lst [[.os 0 0 x.n]]⟩]
theorem bs_loop (lo hi:Nat->Int) (n:Nat) (v:Int) (l h:Nat) (K:Ex->Nat->List DV->List DV->DHeap->Option Unit):execD Tryz.prog (env [] noLp 0) (loopAt Tryz.f230 28) 500 (temps 39 [0,1,4,5] [kv .i32 v,.po 1 0 0,iv l,iv h]) [some ⟨2,.tab n (rowP lo hi)⟩,some ⟨1,.lst [[.os 0 0 n]]⟩] (fun e τ σ=>K e τ.length (pick [0,1,4,5] τ) (pick [0,1,4] τ) σ) =
  bif decide ((l:Int)<(h:Int)) then bif decide (0<=IntKind.wrap .i64 (Int.tdiv (IntKind.wrap .i64 ((l:Int)+(h:Int))) 2)) then bif decide (IntKind.wrap .i64 (Int.tdiv (IntKind.wrap .i64 ((l:Int)+(h:Int))) 2)<(n:Int))
  then bif decide (0+Int.toNat (IntKind.wrap .i64 (Int.tdiv (IntKind.wrap .i64 ((l:Int)+(h:Int))) 2))+0<n) then bif decide (v > pr lo hi (0+Int.toNat (IntKind.wrap .i64 (Int.tdiv (IntKind.wrap .i64 ((l:Int)+(h:Int))) 2))+0) 1)
  then K .normal 39 [kv .i32 v,.po 1 0 0,iv (IntKind.wrap .i64 (IntKind.wrap .i64 (Int.tdiv (IntKind.wrap .i64 ((l:Int)+(h:Int))) 2)+1)),iv (h:Int)] [kv .i32 v,.po 1 0 0,iv (IntKind.wrap .i64 (IntKind.wrap .i64 (Int.tdiv (IntKind.wrap .i64 ((l:Int)+(h:Int))) 2)+1))] [some ⟨2,.tab n fun a a_1=>kv .i32 ((pr lo hi a a_1))⟩,some ⟨1,.lst [[.os 0 0 n]]⟩]
  else K .normal 39 [kv .i32 v,.po 1 0 0,iv (l:Int),iv (IntKind.wrap .i64 (Int.tdiv (IntKind.wrap .i64 ((l:Int)+(h:Int))) 2))] [kv .i32 v,.po 1 0 0,iv (l:Int)] [some ⟨2,.tab n fun a a_1=>kv .i32 ((pr lo hi a a_1))⟩,some ⟨1,.lst [[.os 0 0 n]]⟩]
  else none else none else none else K (.exit 0) 39 [kv .i32 v,.po 1 0 0,iv (l:Int),iv (h:Int)] [kv .i32 v,.po 1 0 0,iv (l:Int)] [some ⟨2,.tab n fun a a_1=>kv .i32 ((pr lo hi a a_1))⟩,some ⟨1,.lst [[.os 0 0 n]]⟩]:=by
 kernel_rfl
theorem wkT {lo hi:Nat->Int}{n:Nat}{ds ds2:List DV}(tm:SubL (ren 2 []) ds2 ds):WkP 2 [] ds [some ⟨2,.tab n (rowP lo hi)⟩,some ⟨1,.lst [[.os 0 0 n]]⟩] ds2 [some ⟨2,.tab n (rowP lo hi)⟩,some ⟨1,.lst [[.os 0 0 n]]⟩] :=
 .of (im:=[some 0,some 1]) tm rfl ⟨⟨0,_,rfl,rfl,⟨rfl,Nat.le_refl _,trivial,fun _ _ _ _=>.v _⟩⟩,⟨1,_,rfl,rfl,⟨rfl,Nat.le_refl _,trivial,fun i f hi hf=>by
  obtain rfl:i=0:=by
   have:i<1:=hi;omega
  obtain rfl:f=0:=by
   have:f<1:=hf;omega
  exact .os rfl⟩⟩,trivial⟩ rfl (by decide)
theorem bs_ls {st:AE.Stat}:LoopS Tryz.prog st gl0 (.loop (loopAt Tryz.f230 28)) (bsI bsQ).g:=by
 refine (bsI bsQ).ok (E:=env [] noLp 0) (p:=500) (tblD_env (l:=[]) fun _ h=>nomatch h) (glOk st).1 (fun _ _ _ h=>nomatch h) (fun x k h=>h) fun x hx=>?_
 obtain ⟨lo,hi,n,v,l,h⟩:=x;obtain ⟨h1,h2,h3⟩:l<=h/\h<=n/\n<=1000:=hx;refine (bs_loop lo hi n v l h _).trans ?_
 have hW:IntKind.i64.wrap ((l:Int)+(h:Int))=((l+h:Nat):Int):=by rw [W_in (by omega) (by omega)]; omega
 have hD:(((l+h:Nat):Int)).tdiv 2=(((l+h) / 2:Nat):Int):=rfl
 have hM:IntKind.i64.wrap ((((l+h) / 2:Nat):Int))=(((l+h) / 2:Nat):Int):=W_in (by omega) (by omega)
 have hN:IntKind.i64.wrap ((((l+h) / 2:Nat):Int)+1)=(((l+h) / 2+1:Nat):Int):=by rw [W_in (by omega) (by omega)]; omega
 simp only [hW,hD,hM,hN,Int.toNat_natCast,Nat.add_zero,Nat.zero_add]
 refine dS (fun hlt=>?_) fun hge=>?_
 ·have hlt:l<h:=by omega
  have hs:=BX.step (x:=⟨lo,hi,n,v,l,h⟩) hlt
  refine dT (by omega) (dT (by omega) (dT (by omega) (dS (fun hv=>?_) fun hv=>?_)))
  ·rw [if_pos (show v > hi ((l+h) / 2) from hv)] at hs
   refine LInv.ask_of ⟨rfl,⟨lo,hi,n,v,(l+h) / 2+1,h⟩,⟨rfl,?_,rfl,?_⟩,?_,[],wkT (.cons (.v _) (.cons (.po rfl) (.cons (.v _) (.cons (.v _) .nil))))⟩
   ·exact congrArg (fun r:Nat=>[kv .i32 v,.po 1 0 0,iv (r:Int)]) hs.symm
   ·exact ⟨by show (l+h) / 2+1<=h; omega,h2,h3⟩
   ·show h-((l+h) / 2+1)<h-l; omega
  ·rw [if_neg (show ¬ v > hi ((l+h) / 2) from hv)] at hs
   refine LInv.ask_of ⟨rfl,⟨lo,hi,n,v,l,(l+h) / 2⟩,⟨rfl,?_,rfl,?_⟩,?_,[],wkT (.cons (.v _) (.cons (.po rfl) (.cons (.v _) (.cons (.v _) .nil))))⟩
   ·exact congrArg (fun r:Nat=>[kv .i32 v,.po 1 0 0,iv (r:Int)]) hs.symm
   ·exact ⟨by show l<=(l+h) / 2; omega,by show (l+h) / 2<=n; omega,h3⟩
   ·show (l+h) / 2-l<h-l; omega
 ·have hr:bsQ hi v l h=l:=by
   unfold bsQ
   rw [show h-l=0 by omega,bsR]
  refine LInv.ask_of ⟨rfl,rfl,[],?_⟩;show WkP 2 [] _ _ [kv .i32 v,.po 1 0 0,iv ((bsQ hi v l h:Nat):Int)] _;rw [hr];exact wkT (.cons (.v _) (.cons (.po rfl) (.cons (.v _) .nil)))
noncomputable def bsH (Q:(Nat->Int)->Int->Nat->Nat->Nat):List InE:=[⟨164,Tryz.f164,env [] noLp 0⟩,⟨230,Tryz.f230,env [] (lpOf [(28,(bsI Q).g)]) 0⟩]
theorem bsH_ok {st:AE.Stat}(hx:Hx st):∀ e∈bsH bsQ,InOk Tryz.prog st e:=fun e he=>by
 simp only [bsH,List.mem_cons,List.not_mem_nil,or_false] at he
 rcases he with rfl | rfl
 ·exact ⟨Tryz.func164,by kernel_rfl,by kernel_rfl,hx 164 rfl,tblD_env (l:=[]) (fun _ h=>nomatch h),glOk st,(fun _ _ _ h=>nomatch h),rfl⟩
 ·exact ⟨Tryz.func230,by kernel_rfl,by kernel_rfl,hx 230 rfl,tblD_env (l:=[]) (fun _ h=>nomatch h),glOk st,lp_one (by kernel_rfl) bs_ls,rfl⟩
theorem mks_tree (K:DV->DHeap->Option Unit):bodyD Tryz.prog (env [] noLp 0) Tryz.f229 [] [] (fun d σ=>K d σ) =
  K (.os 0 0 7) [some ⟨2,.lst [[kv .i32 768,kv .i32 879],[kv .i32 6832,kv .i32 6911],[kv .i32 7616,kv .i32 7679],[kv .i32 8203,kv .i32 8207],[kv .i32 8400,kv .i32 8447],[kv .i32 65024,kv .i32 65039],[kv .i32 65056,kv .i32 65071]]⟩]:=by
 kernel_rfl
theorem wds_tree (K:DV->DHeap->Option Unit):bodyD Tryz.prog (env [] noLp 0) Tryz.f165 [] [] (fun d σ=>K d σ) =
  K (.os 0 0 14) [some ⟨2,.lst [[kv .i32 4352,kv .i32 4447],[kv .i32 11904,kv .i32 12350],[kv .i32 12353,kv .i32 13311],[kv .i32 13312,kv .i32 19903],[kv .i32 19968,kv .i32 40959],[kv .i32 40960,kv .i32 42191],[kv .i32 44032,kv .i32 55203],[kv .i32 63744,kv .i32 64255],[kv .i32 65072,kv .i32 65135],[kv .i32 65280,kv .i32 65376],[kv .i32 65504,kv .i32 65510],[kv .i32 127744,kv .i32 128591],[kv .i32 129280,kv .i32 129535],[kv .i32 131072,kv .i32 262141]]⟩]:=by
 kernel_rfl
theorem mksC_ok {st:AE.Stat}(hx:Hx st):ConOk Tryz.prog st 229 (tabC mkL):=by
 refine con_of (mg:=[]) (l:=[]) (lp:=noLp) (n:=0) (glOk st) (fun _ h=>nomatch h) Tryz.func229 (by kernel_rfl) (by kernel_rfl) (hx 229 rfl) (fun _ _ _ h=>nomatch h) fun args k hk=>?_
 unfold tabC at hk
 split at hk<;>first | (cases hk; done) | skip
 refine ⟨[],_,.nil,hk,fun s=>⟨tab_low mkL s,(mks_tree _).trans (fin_of ?_)⟩⟩
 refine finQ_own (id:=0) rfl rfl rfl (Nat.le_refl 7) trivial fun i f hi hf=>⟨.v _,?_⟩
 have hf:f=0\/f=1:=by omega
 have hi:i=0\/i=1\/i=2\/i=3\/i=4\/i=5\/i=6:=by have:i<7:=hi; omega
 rcases hf with rfl | rfl<;>rcases hi with rfl | rfl | rfl | rfl | rfl | rfl | rfl<;>rfl
theorem wdsC_ok {st:AE.Stat}(hx:Hx st):ConOk Tryz.prog st 165 (tabC wdL):=by
 refine con_of (mg:=[]) (l:=[]) (lp:=noLp) (n:=0) (glOk st) (fun _ h=>nomatch h) Tryz.func165 (by kernel_rfl) (by kernel_rfl) (hx 165 rfl) (fun _ _ _ h=>nomatch h) fun args k hk=>?_
 unfold tabC at hk
 split at hk<;>first | (cases hk; done) | skip
 refine ⟨[],_,.nil,hk,fun s=>⟨tab_low wdL s,(wds_tree _).trans (fin_of ?_)⟩⟩
 refine finQ_own (id:=0) rfl rfl rfl (Nat.le_refl 14) trivial fun i f hi hf=>⟨.v _,?_⟩
 have hf:f=0\/f=1:=by omega
 have hi:i=0\/i=1\/i=2\/i=3\/i=4\/i=5\/i=6\/i=7\/i=8\/i=9\/i=10\/i=11\/i=12\/i=13:=by have:i<14:=hi; omega
 rcases hf with rfl | rfl<;>rcases hi with rfl | rfl | rfl | rfl | rfl | rfl | rfl | rfl | rfl | rfl | rfl | rfl | rfl | rfl<;>rfl
theorem cm_tree (Q:(Nat->Int)->Int->Nat->Nat->Nat) (v:Int) (k:DV->Option Unit):bodyD Tryz.prog (envH Tryz.prog gl0 (bsH Q) [(229,tabC mkL)] noLp 0) Tryz.f163 [kv .i32 v] [] (fun d _=>k d) =
  bif holds ((Nat.le 0 7/\Nat.le 7 7/\Nat.le 7 1000)/\∃ ids,WkP (LInv.m (bsI Q)) ids [kv .i32 v,.po 1 0 0,iv 0,iv 7] [some ⟨2,.tab 7 fun a a_1=>kv .i32 ((pr (tabL mkL) (tabH mkL) a a_1))⟩,some ⟨1,.lst [[.os 0 0 7]]⟩] [kv .i32 v,.po 1 0 0,iv 0,iv 7] [some ⟨2,.tab 7 fun a a_1=>kv .i32 ((pr (fun i=>numD (kv .i32 ((pr (tabL mkL) (tabH mkL) i 0)))) (fun i=>numD (kv .i32 ((pr (tabL mkL) (tabH mkL) i 1)))) a a_1))⟩,some ⟨1,.lst [[.os 0 0 7]]⟩])
  then bif decide ((↑(Q (fun i=>numD (kv .i32 ((pr (tabL mkL) (tabH mkL) i 1)))) v 0 7):Int)<7) then bif decide ((↑(Q (fun i=>numD (kv .i32 ((pr (tabL mkL) (tabH mkL) i 1)))) v 0 7):Int)<7)
  then bif decide (0+Int.toNat (↑(Q (fun i=>numD (kv .i32 ((pr (tabL mkL) (tabH mkL) i 1)))) v 0 7):Int)+0<7) then k (bv (decide (v >= pr (fun i=>numD (kv .i32 ((pr (tabL mkL) (tabH mkL) i 0)))) (fun i=>numD (kv .i32 ((pr (tabL mkL) (tabH mkL) i 1)))) (0+Int.toNat (↑(Q (fun i=>numD (kv .i32 ((pr (tabL mkL) (tabH mkL) i 1)))) v 0 7):Int)+0) 0)))
  else none else none else k (bv false) else none:=by
 kernel_rfl
def findF (L:List (Int×Int)) (v:Int):Bool:=bif decide (bsQ (tabH L) v 0 L.length<L.length) then decide (v >= tabL L (bsQ (tabH L) v 0 L.length)) else false
theorem cm_true (v:Int):bodyD Tryz.prog (envH Tryz.prog gl0 (bsH bsQ) [(229,tabC mkL)] noLp 0) Tryz.f163 [kv .i32 v] [] (fun d _=>isD (bv (findF mkL v)) d)=some ():=by
 refine (cm_tree bsQ v _).trans (hT ⟨⟨Nat.zero_le _,Nat.le_refl _,by show 7<=1000; decide⟩,[],wkT (.cons (.v _) (.cons (.po rfl) (.cons (.v _) (.cons (.v _) .nil))))⟩ ?_)
 show (bif decide (((bsQ (tabH mkL) v 0 7:Nat):Int)<7) then _ else _)=some ();unfold findF
 refine dS (fun h=>?_) fun h=>isD_of ?_
 ·have h':bsQ (tabH mkL) v 0 mkL.length<mkL.length:=by
   have h:((bsQ (tabH mkL) v 0 7:Nat):Int)<7:=h;show bsQ (tabH mkL) v 0 7<7;omega
  have e:0+(((bsQ (tabH mkL) v 0 7:Nat):Int)).toNat+0=bsQ (tabH mkL) v 0 7:=by omega
  refine dT h (dT ?_ (isD_of ?_))
  ·show 0+(((bsQ (tabH mkL) v 0 7:Nat):Int)).toNat+0<7
   rw [e]; exact h'
  ·rw [decide_eq_true h',cond_true];show DV.v (.bool (decide (v >= tabL mkL (0+(((bsQ (tabH mkL) v 0 7:Nat):Int)).toNat+0))))=_
   rw [e]; rfl
 ·have h':¬ bsQ (tabH mkL) v 0 mkL.length<mkL.length:=by
   have h:¬ ((bsQ (tabH mkL) v 0 7:Nat):Int)<7:=h;show ¬ bsQ (tabH mkL) v 0 7<7;omega
  rw [decide_eq_false h']; rfl
theorem cmC_ok {st:AE.Stat}(hx:Hx st):ConOk Tryz.prog st 163 (markC (findF mkL)):=by
 refine con_flatE (E:=envH Tryz.prog gl0 (bsH bsQ) [(229,tabC mkL)] noLp 0) (glOk st) (envH_ok (bsH_ok hx) fun x h=>?_) Tryz.func163 (by kernel_rfl) (by kernel_rfl) (hx 163 rfl) (fun _ _ _ h=>nomatch h) fun args k hk=>?_
 ·simp only [List.mem_cons,List.not_mem_nil,or_false] at h;subst h;exact mksC_ok hx
 unfold markC at hk
 split at hk<;>first | (cases hk; done) | skip
 rename_i v;exact ⟨[kv .i32 v],_,.self .nil,v_clo _,hk,cm_true v⟩
theorem cww_tree (Q:(Nat->Int)->Int->Nat->Nat->Nat) (M:Int->Bool) (v:Int) (k:DV->Option Unit):bodyD Tryz.prog (envH Tryz.prog gl0 (bsH Q) [(163,markC M),(165,tabC wdL)] noLp 0) Tryz.f110 [kv .i32 v] [] (fun d _=>k d) =
  bif decide (v<32) then k (iv (-1:Int)) else bif decide (v >= 127) then bif decide (v<=159) then k (iv (-1:Int)) else bif M v then k (iv 0) else bif holds ((Nat.le 0 14/\Nat.le 14 14/\Nat.le 14 1000)/\∃ ids,WkP (LInv.m (bsI Q)) ids [kv .i32 v,.po 1 0 0,iv 0,iv 14] [some ⟨2,.tab 14 fun a a_1=>kv .i32 ((pr (tabL wdL) (tabH wdL) a a_1))⟩,some ⟨1,.lst [[.os 0 0 14]]⟩] [kv .i32 v,.po 1 0 0,iv 0,iv 14] [some ⟨2,.tab 14 fun a a_1=>kv .i32 ((pr (fun i=>numD (kv .i32 ((pr (tabL wdL) (tabH wdL) i 0)))) (fun i=>numD (kv .i32 ((pr (tabL wdL) (tabH wdL) i 1)))) a a_1))⟩,some ⟨1,.lst [[.os 0 0 14]]⟩])
  then bif decide ((↑(Q (fun i=>numD (kv .i32 ((pr (tabL wdL) (tabH wdL) i 1)))) v 0 14):Int)<14) then bif decide ((↑(Q (fun i=>numD (kv .i32 ((pr (tabL wdL) (tabH wdL) i 1)))) v 0 14):Int)<14)
  then bif decide (0+Int.toNat (↑(Q (fun i=>numD (kv .i32 ((pr (tabL wdL) (tabH wdL) i 1)))) v 0 14):Int)+0<14) then bif decide (v >= pr (fun i=>numD (kv .i32 ((pr (tabL wdL) (tabH wdL) i 0)))) (fun i=>numD (kv .i32 ((pr (tabL wdL) (tabH wdL) i 1)))) (0+Int.toNat (↑(Q (fun i=>numD (kv .i32 ((pr (tabL wdL) (tabH wdL) i 1)))) v 0 14):Int)+0) 0)
  then k (iv 2) else k (iv 1) else none else none else k (iv 1) else none else bif M v then k (iv 0) else bif holds ((Nat.le 0 14/\Nat.le 14 14/\Nat.le 14 1000)/\∃ ids,WkP (LInv.m (bsI Q)) ids [kv .i32 v,.po 1 0 0,iv 0,iv 14] [some ⟨2,.tab 14 fun a a_1=>kv .i32 ((pr (tabL wdL) (tabH wdL) a a_1))⟩,some ⟨1,.lst [[.os 0 0 14]]⟩] [kv .i32 v,.po 1 0 0,iv 0,iv 14] [some ⟨2,.tab 14 fun a a_1=>kv .i32 ((pr (fun i=>numD (kv .i32 ((pr (tabL wdL) (tabH wdL) i 0)))) (fun i=>numD (kv .i32 ((pr (tabL wdL) (tabH wdL) i 1)))) a a_1))⟩,some ⟨1,.lst [[.os 0 0 14]]⟩])
  then bif decide ((↑(Q (fun i=>numD (kv .i32 ((pr (tabL wdL) (tabH wdL) i 1)))) v 0 14):Int)<14) then bif decide ((↑(Q (fun i=>numD (kv .i32 ((pr (tabL wdL) (tabH wdL) i 1)))) v 0 14):Int)<14)
  then bif decide (0+Int.toNat (↑(Q (fun i=>numD (kv .i32 ((pr (tabL wdL) (tabH wdL) i 1)))) v 0 14):Int)+0<14) then bif decide (v >= pr (fun i=>numD (kv .i32 ((pr (tabL wdL) (tabH wdL) i 0)))) (fun i=>numD (kv .i32 ((pr (tabL wdL) (tabH wdL) i 1)))) (0+Int.toNat (↑(Q (fun i=>numD (kv .i32 ((pr (tabL wdL) (tabH wdL) i 1)))) v 0 14):Int)+0) 0)
  then k (iv 2) else k (iv 1) else none else none else k (iv 1) else none:=by
 kernel_rfl
def cwF (v:Int):Int:=bif decide (v<32) then -1 else bif decide (v >= 127)&&decide (v<=159) then -1 else bif findF mkL v then 0 else bif findF wdL v then 2 else 1
theorem cww_true (v:Int):bodyD Tryz.prog (envH Tryz.prog gl0 (bsH bsQ) [(163,markC (findF mkL)),(165,tabC wdL)] noLp 0) Tryz.f110 [kv .i32 v] [] (fun d _=>isD (iv (cwF v)) d)=some ():=by
 refine (cww_tree bsQ (findF mkL) v _).trans ?_
 refine dS (fun a=>isD_of ?_) fun a=>dS (fun b=>dS (fun c=>isD_of ?_) fun c=>?_) fun b=>?_
 ·unfold cwF; rw [decide_eq_true a]; rfl
 ·unfold cwF; rw [decide_eq_false a,decide_eq_true b,decide_eq_true c]; rfl
 all_goals
  have hw:cwF v=bif findF mkL v then 0 else bif findF wdL v then 2 else 1:=by
   unfold cwF;rw [decide_eq_false a]
   first | rw [decide_eq_true b,decide_eq_false c]; rfl | rw [decide_eq_false b]; rfl
  rw [hw]
  refine cS (fun h=>isD_of ?_) fun h=>hT ⟨⟨Nat.zero_le _,Nat.le_refl _,by show 14<=1000; decide⟩,[],wkT (.cons (.v _) (.cons (.po rfl) (.cons (.v _) (.cons (.v _) .nil))))⟩ ?_
  ·rw [h]; rfl
  rw [h,cond_false];show (bif decide (((bsQ (tabH wdL) v 0 14:Nat):Int)<14) then _ else _)=some ();unfold findF
  refine dS (fun h=>?_) fun h=>isD_of ?_
  ·have h':bsQ (tabH wdL) v 0 wdL.length<wdL.length:=by
    have h:((bsQ (tabH wdL) v 0 14:Nat):Int)<14:=h;show bsQ (tabH wdL) v 0 14<14;omega
   have e:0+(((bsQ (tabH wdL) v 0 14:Nat):Int)).toNat+0=bsQ (tabH wdL) v 0 14:=by omega
   refine dT h (dT ?_ ?_)
   ·show 0+(((bsQ (tabH wdL) v 0 14:Nat):Int)).toNat+0<14
    rw [e]; exact h'
   ·rw [decide_eq_true h',cond_true];show (bif decide (v >= tabL wdL (0+(((bsQ (tabH wdL) v 0 14:Nat):Int)).toNat+0)) then _ else _)=some ();rw [e]
    refine dS (fun q=>isD_of ?_) fun q=>isD_of ?_
    ·rw [show decide (v >= tabL wdL (bsQ (tabH wdL) v 0 wdL.length))=true from decide_eq_true q]; rfl
    ·rw [show decide (v >= tabL wdL (bsQ (tabH wdL) v 0 wdL.length))=false from decide_eq_false q]; rfl
  ·have h':¬ bsQ (tabH wdL) v 0 wdL.length<wdL.length:=by
    have h:¬ ((bsQ (tabH wdL) v 0 14:Nat):Int)<14:=h;show ¬ bsQ (tabH wdL) v 0 14<14;omega
   rw [decide_eq_false h']; rfl
theorem cwwC_ok {st:AE.Stat}(hx:Hx st):ConOk Tryz.prog st 110 (widC cwF):=by
 refine con_flatE (E:=envH Tryz.prog gl0 (bsH bsQ) [(163,markC (findF mkL)),(165,tabC wdL)] noLp 0) (glOk st) (envH_ok (bsH_ok hx) fun x h=>?_) Tryz.func110 (by kernel_rfl) (by kernel_rfl) (hx 110 rfl) (fun _ _ _ h=>nomatch h) fun args k hk=>?_
 ·simp only [List.mem_cons,List.not_mem_nil,or_false] at h
  rcases h with rfl | rfl
  ·exact cmC_ok hx
  ·exact wdsC_ok hx
 unfold widC at hk
 split at hk<;>first | (cases hk; done) | skip
 rename_i v;exact ⟨[kv .i32 v],_,.self .nil,v_clo _,hk,cww_true v⟩
end Go.Proofs.YtigmkgampfbflaaGreatDoor
namespace Go.Proofs.YtigmkgampfbflaaGreatDoor
open Go Go.AE Go.DE Go.RowKit
def mrkR (M:Int->Bool) (z:Nat->Int):Nat->Nat->Bool
 | 0,_=>true
 | m+1,i=>bif M (z i) then mrkR M z m (i+1) else false
structure QX where
 t:Bool
 z:Nat->Int
 n:Nat
 i:Nat
noncomputable def mqI (M:Int->Bool):LInv QX where
 pre x:=x.n<=9000000
 m:=0
 n:=15
 ps:=[5,6,7]
 sd x:=[.sl x.t (rowI .i32 x.z) 1 x.n,iv x.n,iv x.i]
 sh _:=[]
 meas x:=x.n-x.i
 e x:=be (mrkR M x.z (x.n-x.i) x.i)
 qs:=[2]
 od x:=bo false (mrkR M x.z (x.n-x.i) x.i)
 oh _:=[]
 guess ds _:=match ds with
  | [.sl t g 1 n,_,_]=>some ⟨t,fun i=>numD (g i 0),n,0⟩
  | _=>none
 cps x k:=bif holds (mrkR M x.z (x.n-x.i) x.i=true) then k (.exit 0) [.any] [] else k .ret [bv false] []
theorem mq_loop (M:Int->Bool) (t:Bool) (z:Nat->Int) (n i:Nat) (K:Ex->Nat->List DV->List DV->DHeap->Option Unit):execD Tryz.prog (env [(163,markC M)] noLp 0) (loopAt Tryz.f111 26) 500 (temps 15 [5,6,7] [.sl t (rowI .i32 z) 1 n,iv n,iv i]) [] (fun e τ σ=>K e τ.length (pick [5,6,7] τ) (pick [2] τ) σ) =
  bif decide ((i:Int)<(n:Int)) then bif decide ((i:Int)<(n:Int)) then bif decide (tN i<n) then bif !M (z (tN i)) then K .ret 15 [.sl t (fun a _=>kv .i32 ((z a))) 1 n,iv (n:Int),iv (i:Int)] [bv false] []
  else K .normal 15 [.sl t (fun a _=>kv .i32 ((z a))) 1 n,iv (n:Int),iv (IntKind.wrap .i64 ((i:Int)+1))] [DV.any] [] else none else none else K (.exit 0) 15 [.sl t (fun a _=>kv .i32 ((z a))) 1 n,iv (n:Int),iv (i:Int)] [DV.any] []:=by
 kernel_rfl
theorem mq_tree (M:Int->Bool) (t:Bool) (z:Nat->Int) (n:Nat) (k:DV->Option Unit):bodyD Tryz.prog (env [(163,markC M)] (lpOf [(26,(mqI M).g)]) 0) Tryz.f111 [.sl t (rowI .i32 z) 1 n] [] (fun d _=>k d) =
  bif holds (Nat.le n 9000000/\∃ ids,WkP (LInv.m (mqI M)) ids [.sl t (fun a _=>kv .i32 ((z a))) 1 n,iv (n:Int),iv 0] [] [.sl t (fun a _=>kv .i32 ((numD (kv .i32 ((z a)))))) 1 n,iv (n:Int),iv 0] (LInv.sh (mqI M) { t:=t,z:=fun i=>numD (kv .i32 ((z i))),n:=n,i:=0 }))
  then bif holds (mrkR M (fun i=>numD (kv .i32 ((z i)))) (n-0) 0=true) then k (bv true) else k (bv false) else none:=by
 kernel_rfl
theorem mq_ls {st:AE.Stat}(hx:Hx st):LoopS Tryz.prog st gl0 (.loop (loopAt Tryz.f111 26)) (mqI (findF mkL)).g:=by
 refine (mqI (findF mkL)).ok (E:=env [(163,markC (findF mkL))] noLp 0) (p:=500) (tblD_env (l:=[(163,markC (findF mkL))]) (fun x h=>?_)) (glOk st).1 (fun _ _ _ h=>nomatch h) (fun x k h=>b_cps h) fun x hx2=>?_
 ·simp only [List.mem_cons,List.not_mem_nil,or_false] at h;subst h;exact cmC_ok hx
 obtain ⟨t,z,n,i⟩:=x;have hn:n<=9000000:=hx2;refine (mq_loop (findF mkL) t z n i _).trans ?_;simp only [Int.toNat_natCast,Nat.add_zero,Nat.zero_add]
 refine dS (fun hlt=>?_) fun hge=>?_
 ·have hlt:i<n:=by omega
  have e:n-i=(n-(i+1))+1:=by omega
  have hW:IntKind.i64.wrap ((i:Int)+1)=((i+1:Nat):Int):=by rw [W_in (by omega) (by omega)]; omega
  rw [hW]
  have hq:mrkR (findF mkL) z (n-i) i=bif findF mkL (z i) then mrkR (findF mkL) z (n-(i+1)) (i+1) else false:=by rw [e,mrkR]
  refine dT (by omega) (dT hlt (cS (fun h=>?_) fun h=>?_))
  ·have h:findF mkL (z i)=false:=by simpa using h
   rw [h,cond_false] at hq;refine LInv.ask_of ⟨rfl,?_,[],?_⟩
   ·simp only [mqI]; rw [hq]; rfl
   ·simp only [mqI]; rw [hq]; exact wk0 (.cons (.v _) .nil) rfl
  ·have h:findF mkL (z i)=true:=by simpa using h
   rw [h,cond_true] at hq;refine LInv.ask_of ⟨rfl,⟨t,z,n,i+1⟩,⟨?_,?_,rfl,hn⟩,?_,[],wk0 (.cons (.sl _ _ _ _) (.cons (.v _) (.cons (.v _) .nil))) rfl⟩
   ·simp only [mqI]; rw [hq]
   ·simp only [mqI]; rw [hq]
   ·simp only [mqI]; omega
 ·have hr:mrkR (findF mkL) z (n-i) i=true:=by
   have:n-i=0:=by omega
   rw [this,mrkR]
  refine LInv.ask_of ⟨rfl,?_,[],?_⟩
  ·simp only [mqI]; rw [hr]; rfl
  ·simp only [mqI]; rw [hr]; exact wk0 (.cons (.any _) .nil) rfl
def mrkF (z:Nat->Int) (n:Nat):Bool:=mrkR (findF mkL) z n 0
theorem mq_true (t:Bool) (z:Nat->Int) (n:Nat) (hn:n<=9000000):bodyD Tryz.prog (env [(163,markC (findF mkL))] (lpOf [(26,(mqI (findF mkL)).g)]) 0) Tryz.f111 [.sl t (rowI .i32 z) 1 n] [] (fun d _=>isD (bv (mrkF z n)) d)=some ():=by
 refine (mq_tree (findF mkL) t z n _).trans (hT ⟨hn,[],wk0 (.cons (.sl _ _ _ _) (.cons (.v _) (.cons (.v _) .nil))) rfl⟩ ?_);show (bif holds (mrkR (findF mkL) z n 0=true) then _ else _)=some ()
 cases hb:mrkR (findF mkL) z n 0 with
 | true=>exact hT rfl (isD_of (by unfold mrkF; rw [hb]))
 | false=>exact hF (by decide) (isD_of (by unfold mrkF; rw [hb]))
noncomputable def mqC (A:(Nat->Int)->Nat->Bool):ConF:=fun args k=>match args with
 | [d]=>rowK .i32 d fun z n=>bif decide (n<=9000000) then k (fun _=>(bv (A z n),[])) else none
 | _=>none
theorem mqC_ok {st:AE.Stat}(hx:Hx st):ConOk Tryz.prog st 111 (mqC mrkF):=by
 refine con_flat (mg:=[]) (l:=[(163,markC (findF mkL))]) (lp:=lpOf [(26,(mqI (findF mkL)).g)]) (n:=0) (glOk st) (fun x h=>?_) Tryz.func111 (by kernel_rfl) (by kernel_rfl) (hx 111 rfl) (lp_one (by kernel_rfl) (mq_ls hx)) fun args k hk=>?_
 ·simp only [List.mem_cons,List.not_mem_nil,or_false] at h;subst h;exact cmC_ok hx
 unfold mqC at hk
 split at hk<;>first | (cases hk; done) | skip
 obtain ⟨t,z,n,hk,hc⟩:=rowK_some hk;obtain ⟨hn,hk⟩:=dec_none hk;exact ⟨[.sl t (rowI .i32 z) 1 n],_,.cons hc .nil,v_clo _,hk,mq_true t z n hn⟩
def vdF (s:ByteArray):Bool:=Lib.validD s.data.toList
def VdOk (st:AE.Stat):Prop:=∀ s σ,s.size<=9000000->st.ext 70 [.string s] σ=some (.bool (vdF s),σ)
theorem uvC_ok {st:AE.Stat}(hv:VdOk st):ConOk Tryz.prog st 70 (vaG vdF):=by
 refine con_ext Tryz.func70 (by kernel_rfl) (by kernel_rfl) fun args k hk=>?_
 unfold vaG at hk
 split at hk<;>first | (cases hk; done) | skip
 rename_i s;obtain ⟨hn,hk⟩:=dec_none hk
 refine ⟨.bool (vdF s),rfl,hk,fun C σ vs _ ha=>?_⟩
 obtain ⟨x,ys,rfl,h1,h2⟩:=ha.cons_inv;obtain rfl:=h2.nil_inv;obtain ⟨rfl,_⟩:=DR_v h1;exact hv s σ hn
theorem vdv_tree (V:ByteArray->Bool) (s:ByteArray) (k:DV->Option Unit):bodyD Tryz.prog (env [(70,vaG V)] noLp 0) Tryz.f30 [sv s] [] (fun d _=>k d) =
  bif decide (ByteArray.size s<=9000000) then k (bv (V s)) else none:=by
 kernel_rfl
theorem vdC_ok {st:AE.Stat}(hx:Hx st) (hv:VdOk st):ConOk Tryz.prog st 30 (vaG vdF):=by
 refine con_flat (mg:=[]) (l:=[(70,vaG vdF)]) (lp:=noLp) (n:=0) (glOk st) (fun x h=>?_) Tryz.func30 (by kernel_rfl) (by kernel_rfl) (hx 30 rfl) (fun _ _ _ h=>nomatch h) fun args k hk=>?_
 ·simp only [List.mem_cons,List.not_mem_nil,or_false] at h;subst h;exact uvC_ok hv
 unfold vaG at hk
 split at hk<;>first | (cases hk; done) | skip
 rename_i s;obtain ⟨hn,hk⟩:=dec_none hk;exact ⟨[sv s],_,.self .nil,v_clo _,hk,(vdv_tree vdF s _).trans (dT hn (isD_of rfl))⟩
theorem cc_tree (V:ByteArray->Bool) (W:Int->Int) (A:(Nat->Int)->Nat->Bool) (s:ByteArray) (k:DV->Option Unit):bodyD Tryz.prog (env [(30,vaG V),(110,widC W),(111,mqC A)] noLp 0) Tryz.f72 [sv s] [] (fun d _=>k d) =
  bif ByteArray.toList s==ByteArray.toList { data:=#[] } then k (iv 3) else bif decide (ByteArray.size s<=9000000) then bif !V s then k (iv 3) else bif decide (ByteArray.size s<=140737488355328)
  then bif decide (0<(↑(runeN s):Int)) then bif decide (0<runeN s) then bif decide (W (runeAt s 0)<1) then k (iv 9) else bif decide (1<=(↑(runeN s):Int)) then bif decide (1+(runeN s-1)<=DC.n (.tab (runeN s) fun i x=>kv .i32 ((runeAt s i))))
  then bif holds (∀ (i:Nat),i<runeN s-1->kv .i32 ((runeAt s (1+i)))=kv .i32 ((numD (kv .i32 ((runeAt s (1+i))))))) then bif decide (runeN s-(1:Nat)<=9000000) then bif !A (fun i=>numD (kv .i32 ((runeAt s (1+i))))) (runeN s-1)
  then k (iv 9) else bif decide (IntKind.wrap .i64 ((↑(runeN s):Int)-1) > 3) then k (iv 5) else k (iv 0) else none else none else none else none else none else none else none else none:=by
 kernel_rfl
def ccF (s:ByteArray):Int :=
 bif ByteArray.toList s==ByteArray.toList ⟨#[]⟩ then 3 else bif !vdF s then 3 else bif decide (cwF (runeAt s 0)<1) then 9 else
  bif !mrkF (fun i=>runeAt s (1+i)) (runeN s-1) then 9 else bif decide ((runeN s:Int)-1 > 3) then 5 else 0
theorem runeN_pos {s:ByteArray}(h:0<s.size):0<runeN s:=by
 have key:∀ (b i:Nat) (acc:Array Value),acc.size<=(Conv.runesFrom s b i acc).size:=by
  intro b
  induction b with
  | zero=>intro i acc; simp [Conv.runesFrom]
  | succ b ih =>
   intro i acc;unfold Conv.runesFrom;split
   ·have:=ih (i+(Utf8.decode s i).2) (acc.push (.int .i32 (Int.ofNat (Utf8.decode s i).1)));refine Nat.le_trans ?_ this;simp
   ·exact Nat.le_refl _
 unfold runeN
 obtain ⟨m,hm⟩:∃ m,s.size=m+1:=⟨s.size-1,by omega⟩
 rw [hm];unfold Conv.runesFrom;rw [if_pos h];have:=key m (0+(Utf8.decode s 0).2) ((#[]:Array Value).push (.int .i32 (Int.ofNat (Utf8.decode s 0).1)));refine Nat.lt_of_lt_of_le ?_ this;simp
theorem size_pos {s:ByteArray}(h:(ByteArray.toList s==ByteArray.toList ⟨#[]⟩)=false):0<s.size:=by
 rcases Nat.eq_zero_or_pos s.size with h0 | h0
 ·exfalso
  have:s=⟨#[]⟩:=by
   obtain ⟨d⟩:=s;have:d.size=0:=h0;obtain rfl:=Array.eq_empty_of_size_eq_zero this;rfl
  rw [this,beq_self_eq_true] at h;cases h
 ·exact h0
theorem cc_true (s:ByteArray) (hn:s.size<=9000000):bodyD Tryz.prog (env [(30,vaG vdF),(110,widC cwF),(111,mqC mrkF)] noLp 0) Tryz.f72 [sv s] [] (fun d _=>isD (iv (ccF s)) d)=some ():=by
 refine (cc_tree vdF cwF mrkF s _).trans ?_;unfold ccF
 refine cS (fun h=>isD_of (by rw [h]; rfl)) fun h=>?_
 rw [h,cond_false];have h0:=runeN_pos (size_pos h);have hle:=runeN_le s
 refine dT hn (cS (fun h2=>isD_of (by rw [h2]; rfl)) fun h2=>?_)
 rw [h2,cond_false]
 refine dT (by omega) (dT (by omega) (dT h0 (dS (fun h3=>isD_of (by rw [decide_eq_true h3]; rfl)) fun h3=>?_)))
 rw [decide_eq_false h3,cond_false]
 refine dT (by omega) (dT (by show 1+(runeN s-1)<=runeN s; omega) (hT (fun i _=>rfl) (dT (by omega) (cS (fun h4=>isD_of ?_) fun h4=>?_))))
 ·have h4:(!mrkF (fun i=>runeAt s (1+i)) (runeN s-1))=true:=h4
  rw [h4]; rfl
 have h4:(!mrkF (fun i=>runeAt s (1+i)) (runeN s-1))=false:=h4
 rw [h4,cond_false,W_in (by omega) (by omega)]
 refine dS (fun h5=>isD_of ?_) fun h5=>isD_of ?_
 ·rw [decide_eq_true h5]; rfl
 ·rw [decide_eq_false h5]; rfl
theorem ccC_ok {st:AE.Stat}(hx:Hx st) (hv:VdOk st):ConOk Tryz.prog st 72 (ckC ccF):=by
 refine con_flat (mg:=[]) (l:=[(30,vaG vdF),(110,widC cwF),(111,mqC mrkF)]) (lp:=noLp) (n:=0) (glOk st) (fun x h=>?_) Tryz.func72 (by kernel_rfl) (by kernel_rfl) (hx 72 rfl) (fun _ _ _ h=>nomatch h) fun args k hk=>?_
 ·simp only [List.mem_cons,List.not_mem_nil,or_false] at h
  rcases h with rfl | rfl | rfl
  ·exact vdC_ok hx hv
  ·exact cwwC_ok hx
  ·exact mqC_ok hx
 unfold ckC at hk
 split at hk<;>first | (cases hk; done) | skip
 rename_i s;obtain ⟨hn,hk⟩:=dec_none hk;exact ⟨[sv s],_,.self .nil,v_clo _,hk,cc_true s hn⟩
noncomputable def rsC (F:ByteArray->Int):ConF:=fun args k=>match args with
 | [.v (.string s)]=>bif decide (s.size<=9000000) then (bif F s != 0 then k (fun _=>(.v (.slice none 0 0),[])) else k (fun b=>(.os b 0 (runeN s),[some ⟨1,.tab (runeN s) (rowI .i32 (runeAt s))⟩]))) else none
 | _=>none
theorem lowR_tab {b n m:Nat}{q:IntKind}{z:Nat->Int}:LowR (.os b 0 n,[some ⟨1,.tab m (rowI q z)⟩]):=⟨.os _ _ _,fun id blk hb i f _ _=>by
 cases id with
 | succ id=>simp at hb
 | zero =>
  obtain rfl:(⟨1,.tab m (rowI q z)⟩:DBlk)=blk:=by simpa using hb
  exact .v _⟩
theorem rs_tree (F:ByteArray->Int) (s:ByteArray) (K:DV->DHeap->Option Unit):bodyD Tryz.prog (env [(72,ckC F)] noLp 0) Tryz.f112 [sv s] [] (fun d σ=>K d σ) =
  bif decide (ByteArray.size s<=9000000) then bif F s != 0 then K (DV.v (Value.slice none 0 0)) [] else bif decide (ByteArray.size s<=140737488355328) then K (.os 0 0 (runeN s)) [some ⟨1,.tab (runeN s) fun i x=>kv .i32 ((runeAt s i))⟩]
  else none else none:=by
 kernel_rfl
theorem rsC_ok {st:AE.Stat}(hx:Hx st) (hv:VdOk st):ConOk Tryz.prog st 112 (rsC ccF):=by
 refine con_of (mg:=[]) (l:=[(72,ckC ccF)]) (lp:=noLp) (n:=0) (glOk st) (fun x h=>?_) Tryz.func112 (by kernel_rfl) (by kernel_rfl) (hx 112 rfl) (fun _ _ _ h=>nomatch h) fun args k hk=>?_
 ·simp only [List.mem_cons,List.not_mem_nil,or_false] at h;subst h;exact ccC_ok hx hv
 unfold rsC at hk
 split at hk<;>first | (cases hk; done) | skip
 rename_i s;obtain ⟨hn,hk⟩:=dec_none hk
 rcases bif_some hk with ⟨h1,hk⟩ | ⟨h1,hk⟩
 ·refine ⟨[sv s],_,.self .nil,hk,fun b=>⟨lowR_flat (.v _),(rs_tree ccF s _).trans (dT hn ?_)⟩⟩
  rw [h1,cond_true];exact fin_of (finQ_flat (.v _) rfl)
 ·refine ⟨[sv s],_,.self .nil,hk,fun b=>⟨lowR_tab,(rs_tree ccF s _).trans (dT hn ?_)⟩⟩
  rw [h1,cond_false]
  refine dT (by omega) (fin_of ?_)
  exact finQ_own (id:=0) (blk:=⟨1,.tab (runeN s) (rowI .i32 (runeAt s))⟩) rfl rfl rfl (Nat.le_refl _) trivial fun i f hi hf=>⟨.v _,rfl⟩
theorem cd_tree (F:ByteArray->Int) (W:Int->Int) (s:ByteArray) (k:DV->Option Unit):bodyD Tryz.prog (env [(110,widC W),(112,rsC F)] noLp 0) Tryz.f73 [sv s] [] (fun d _=>k d) =
  bif decide (ByteArray.size s<=9000000) then bif F s != 0 then k (iv 0) else bif decide ((↑(runeN s):Int) > 0) then bif decide (0<(↑(runeN s):Int)) then bif decide (0<runeN s) then k (iv (W (runeAt s 0)))
  else none else none else k (iv 0) else none:=by
 kernel_rfl
def cdF (s:ByteArray):Int:=bif ccF s != 0 then 0 else cwF (runeAt s 0)
theorem ccF_pos {s:ByteArray}(h:(ccF s != 0)=false):0<runeN s:=by
 refine runeN_pos (size_pos ?_)
 cases h1:(ByteArray.toList s==ByteArray.toList ⟨#[]⟩) with
 | false=>rfl
 | true =>
  unfold ccF at h;rw [h1] at h;cases h
theorem cd_true (s:ByteArray) (hn:s.size<=9000000):bodyD Tryz.prog (env [(110,widC cwF),(112,rsC ccF)] noLp 0) Tryz.f73 [sv s] [] (fun d _=>isD (iv (cdF s)) d)=some ():=by
 refine (cd_tree ccF cwF s _).trans (dT hn ?_);unfold cdF
 refine cS (fun h=>isD_of (by rw [h]; rfl)) fun h=>?_
 have h0:=ccF_pos h;rw [h,cond_false]
 exact dT (by omega) (dT (by omega) (dT h0 (isD_of rfl)))
theorem cdC_ok {st:AE.Stat}(hx:Hx st) (hv:VdOk st):ConOk Tryz.prog st 73 (cwC cdF):=by
 refine con_flat (mg:=[]) (l:=[(110,widC cwF),(112,rsC ccF)]) (lp:=noLp) (n:=0) (glOk st) (fun x h=>?_) Tryz.func73 (by kernel_rfl) (by kernel_rfl) (hx 73 rfl) (fun _ _ _ h=>nomatch h) fun args k hk=>?_
 ·simp only [List.mem_cons,List.not_mem_nil,or_false] at h
  rcases h with rfl | rfl
  ·exact cwwC_ok hx
  ·exact rsC_ok hx hv
 unfold cwC at hk
 split at hk<;>first | (cases hk; done) | skip
 rename_i s;obtain ⟨hn,hk⟩:=dec_none hk;exact ⟨[sv s],_,.self .nil,v_clo _,hk,cd_true s hn⟩
end Go.Proofs.YtigmkgampfbflaaGreatDoor
namespace Go.Proofs.YtigmkgampfbflaaGreatDoor
open Go Go.AE Go.DE Go.RowKit
theorem inR_iff {lo hi:Nat->Int}{v:Int}:∀ {m i:Nat},inR lo hi v m i=true ↔ ∃ j,i<=j/\j<i+m/\lo j<=v/\v<=hi j
 | 0,i=>⟨(fun h=>nomatch h),fun ⟨j,h1,h2,_⟩=>by omega⟩
 | m+1,i=>by
  have e0:pr lo hi i 0=lo i:=rfl;have e1:pr lo hi i 1=hi i:=rfl;rw [inR,e0,e1]
  by_cases h:lo i<=v/\v<=hi i
  ·rw [if_pos h.1,if_pos h.2]
   exact ⟨fun _=>⟨i,Nat.le_refl _,by omega,h⟩,fun _=>rfl⟩
  ·have:(if v >= lo i then (if v<=hi i then true else inR lo hi v m (i+1)) else inR lo hi v m (i+1))=inR lo hi v m (i+1):=by
    by_cases h1:v >= lo i
    ·rw [if_pos h1,if_neg fun h2=>h ⟨h1,h2⟩]
    ·rw [if_neg h1]
   rw [this,inR_iff]
   constructor
   ·rintro ⟨j,h1,h2,h3⟩
    exact ⟨j,by omega,by omega,h3⟩
   ·rintro ⟨j,h1,h2,h3⟩
    have:j≠i:=fun e=>h (e ▸ h3)
    exact ⟨j,by omega,by omega,h3⟩
theorem bsR_spec {hi:Nat->Int}{v:Int}{n:Nat}(mono:∀ i j,i<=j->j<n->hi i<=hi j):∀ (m l h:Nat),l<=h->h<=n->h-l<=m->(∀ j,j<l->hi j<v)->(∀ j,h<=j->j<n->v<=hi j) ->
  bsR hi v m l h<=n/\(∀ j,j<bsR hi v m l h->hi j<v)/\∀ j,bsR hi v m l h<=j->j<n->v<=hi j
 | 0,l,h,h1,h2,h3,h4,h5=>by
  obtain rfl:l=h:=by omega
  exact ⟨h2,h4,h5⟩
 | m+1,l,h,h1,h2,h3,h4,h5=>by
  rw [bsR]
  by_cases hl:l<h
  ·rw [if_pos hl]
   have q1:(l+h) / 2<h:=by omega
   have q2:l<=(l+h) / 2:=by omega
   by_cases hv:v > hi ((l+h) / 2)
   ·rw [if_pos hv]
    refine bsR_spec mono m _ _ (by omega) h2 (by omega) (fun j hj=>?_) h5
    have:=mono j ((l+h) / 2) (by omega) (by omega)
    omega
   ·rw [if_neg hv]
    refine bsR_spec mono m _ _ q2 (by omega) (by omega) h4 fun j hj hn=>?_
    have:=mono ((l+h) / 2) j hj hn;omega
  ·rw [if_neg hl]
   obtain rfl:l=h:=by omega
   exact ⟨h2,h4,h5⟩
theorem findF_eq {L:List (Int×Int)}(mono:∀ i j,i<j->j<L.length->tabH L i<tabL L j) (le:∀ i,i<L.length->tabL L i<=tabH L i) (v:Int):findF L v=inF (tabL L) (tabH L) L.length v:=by
 have mh:∀ i j,i<=j->j<L.length->tabH L i<=tabH L j:=fun i j hij hj=>by
  by_cases e:i=j
  ·subst e; exact Int.le_refl _
  ·have:=mono i j (by omega) hj
   have:=le j hj;omega
 obtain ⟨b1,b2,b3⟩:=bsR_spec (v:=v) mh (L.length-0) 0 L.length (Nat.zero_le _) (Nat.le_refl _) (Nat.le_refl _) (fun j hj=>absurd hj (Nat.not_lt_zero _)) (fun j h1 h2=>by omega)
 rw [Bool.eq_iff_iff];unfold findF inF bsQ;rw [inR_iff];generalize bsR (tabH L) v (L.length-0) 0 L.length=k at b1 b2 b3 ⊢
 by_cases hk:k<L.length
 ·rw [decide_eq_true hk,cond_true,decide_eq_true_iff]
  constructor
  ·intro h
   exact ⟨k,Nat.zero_le _,by omega,h,b3 k (Nat.le_refl _) hk⟩
  ·rintro ⟨j,_,h2,h3,h4⟩
   have hj:k<=j:=by
    rcases Nat.lt_or_ge j k with q | q
    ·have:=b2 j q;omega
    ·exact q
   by_cases e:k=j
   ·subst e; exact h3
   ·have:=mono k j (by omega) (by omega)
    have:=b3 k (Nat.le_refl _) hk;omega
 ·rw [decide_eq_false hk,cond_false]
  refine ⟨(fun h=>nomatch h),?_⟩
  rintro ⟨j,_,h2,h3,h4⟩
  have:=b2 j (by omega)
  omega
theorem mk_same (v:Int):findF mkL v=markF v:=findF_eq (L:=mkL) (fun i j hij hj=>(by decide:∀ j,j<List.length mkL->∀ i,i<j->tabH mkL i<tabL mkL j) j hj i hij) (by decide) v
theorem wd_same (v:Int):findF wdL v=wideF v:=findF_eq (L:=wdL) (fun i j hij hj=>(by decide:∀ j,j<List.length wdL->∀ i,i<j->tabH wdL i<tabL wdL j) j hj i hij) (by decide) v
theorem cw_same (v:Int):cwF v=widF v:=by
 unfold cwF widF;rw [mk_same,wd_same]
end Go.Proofs.YtigmkgampfbflaaGreatDoor
