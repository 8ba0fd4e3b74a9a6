/-
 The contract of the program's check of grids,at what is proper.
 Conditions: none beyond those of the contracts.
-/
import Derived.Test.YtigmkgampfbflaaGreatDoorJRc
import Derived.Test.YtigmkgampfbflaaGreatDoorDeLst
import Derived.Test.YtigmkgampfbflaaGreatDoorJGn
namespace Go.Proofs.YtigmkgampfbflaaGreatDoor
open Go Go.AE Go.DE Go.RowKit
theorem gk_loop (F:Row->Int) (w h:Int) (t:Bool) (T:Nat->Bool) (R:Nat->Row) (n i:Nat) (K:Ex->Nat->List DV->List DV->DHeap->Option Unit):execD Tryz.prog (env [(33,rcC F)] noLp 0) (loopAt Tryz.f26 122) 500 (temps 39 [1,22,23,24] [.po 0 0 0,.sl t (rowsD T R) 1 n,iv n,iv i]) [some ⟨3,.lst [[iv w,iv h,.any]]⟩] (fun e τ σ=>K e τ.length (pick [1,22,23,24] τ) (pick [] τ) σ) =
  bif decide ((i:Int)<(n:Int)) then bif decide ((i:Int)<(n:Int)) then bif decide (tN i<n) then bif (↑(Row.n (R (tN i))):Int) != w then K .ret 39 [.po 0 0 0,.sl t (rowsD T R) 1 n,iv (n:Int),iv (i:Int)] [] [some ⟨3,.lst [[iv w,iv h,DV.any]]⟩]
  else bif holds (Nat.le (Row.n (R (tN i))) 9000000/\∀ (i_1:Nat),i_1<Row.n (R (tN i))->sv (Row.tx (R (tN i)) i_1)=sv (strD (sv (Row.tx (R (tN i)) i_1)))/\Nat.le (ByteArray.size (strD (sv (Row.tx (R (tN i)) i_1)))) 9000000/\iv (Row.wd (R (tN i)) i_1)=iv (numD (iv (Row.wd (R (tN i)) i_1)))/\iv (Row.fo (R (tN i)) i_1)=iv (numD (iv (Row.fo (R (tN i)) i_1)))/\iv (Row.ba (R (tN i)) i_1)=iv (numD (iv (Row.ba (R (tN i)) i_1)))/\iv (Row.fl (R (tN i)) i_1)=iv (numD (iv (Row.fl (R (tN i)) i_1))))
  then bif F { n:=Row.n (R (tN i)),tx:=fun i_1=>strD (sv (Row.tx (R (tN i)) i_1)),wd:=fun i_1=>numD (iv (Row.wd (R (tN i)) i_1)),fo:=fun i_1=>numD (iv (Row.fo (R (tN i)) i_1)),ba:=fun i_1=>numD (iv (Row.ba (R (tN i)) i_1)),fl:=fun i_1=>numD (iv (Row.fl (R (tN i)) i_1)) } != 0
  then K .ret 39 [.po 0 0 0,.sl t (rowsD T R) 1 n,iv (n:Int),iv (i:Int)] [] [some ⟨3,.lst [[iv w,iv h,DV.any]]⟩] else K .normal 39 [.po 0 0 0,.sl t (rowsD T R) 1 n,iv (n:Int),iv (IntKind.wrap .i64 ((i:Int)+1))] [] [some ⟨3,.lst [[iv w,iv h,DV.any]]⟩]
  else none else none else none else K (.exit 0) 39 [.po 0 0 0,.sl t (rowsD T R) 1 n,iv (n:Int),iv (i:Int)] [] [some ⟨3,.lst [[iv w,iv h,DV.any]]⟩]:=by
 kernel_rfl
structure ZK where
 w:Int
 h:Int
 t:Bool
 T:Nat->Bool
 R:Nat->Row
 n:Nat
 i:Nat
noncomputable def gkI:LInv ZK where
 pre x:=x.i<=x.n/\rowsOk x.R x.n/\∀ j,j<x.n->((x.R j).n:Int)=x.w/\rowF (x.R j)=0
 m:=1
 n:=39
 ps:=[1,22,23,24]
 sd x:=[.po 0 0 0,.sl x.t (rowsD x.T x.R) 1 x.n,iv x.n,iv x.i]
 sh x:=[some ⟨3,.lst [[iv x.w,iv x.h,.any]]⟩]
 meas x:=x.n-x.i
 e _:=.exit 0
 qs:=[]
 od _:=[]
 oh _:=[none]
 guess ds σ:=match ds,σ with
  | [_,.sl t g 1 n,_,_],[some ⟨_,c⟩]=>(match c.get 0 0,c.get 0 1 with
   | .v (.int _ w),.v (.int _ h)=>some ⟨w,h,t,fun i=>slT (g i 0),fun i=>rowD (g i 0),n,0⟩
   | _,_=>none)
  | _,_=>none
 cps _ k:=k (.exit 0) [] [none]
theorem wkG {c:DC}{w h:Int}{ds ds2:List DV}(tm:SubL (ren 1 []) ds2 ds) (hn:1<=c.n) (h0:c.get 0 0=iv w) (h1:c.get 0 1=iv h):WkP 1 [] ds [some ⟨3,c⟩] ds2 [some ⟨3,.lst [[iv w,iv h,.any]]⟩] :=
 ⟨tm,rfl,⟨⟨0,_,rfl,rfl,rfl,hn,trivial,fun i f hi hf=>by
  obtain rfl:i=0:=by
   have:i<1:=hi;omega
  have hf:f<3:=hf
  match f with
  | 0=>show Sub _ (iv w) (c.get 0 0); rw [h0]; exact .v _
  | 1=>show Sub _ (iv h) (c.get 0 1); rw [h1]; exact .v _
  | 2=>exact .any _
  | f+3=>omega⟩,trivial⟩,(by decide:([some 0]:List (Option Nat)).Nodup)⟩
theorem gk_ls {st:AE.Stat}(hx:Hx st) (hv:VdOk st):LoopS Tryz.prog st gl0 (.loop (loopAt Tryz.f26 122)) gkI.g:=by
 refine gkI.ok (E:=env [(33,rcC rowF)] noLp 0) (p:=500) (tblD_env (l:=[(33,rcC rowF)]) fun x h=>?_) (glOk st).1 (fun _ _ _ h=>nomatch h) (fun x k h=>h) fun x hx2=>?_
 ·simp only [List.mem_cons,List.not_mem_nil,or_false] at h;subst h;exact rrC_ok hx hv
 obtain ⟨w,h,t,T,R,n,i⟩:=x;obtain ⟨hi,hR,hz⟩:i<=n/\rowsOk R n/\∀ j,j<n->((R j).n:Int)=w/\rowF (R j)=0:=hx2;have hn:=hR.1;refine (gk_loop rowF w h t T R n i _).trans ?_;simp only [Int.toNat_natCast,Nat.add_zero]
 refine dS (fun hlt=>?_) fun hge=>?_
 ·have hlt:i<n:=by omega
  have hW:IntKind.i64.wrap ((i:Int)+1)=((i+1:Nat):Int):=by rw [W_in (by omega) (by omega)]; omega
  rw [hW];obtain ⟨z1,z2⟩:=hz i hlt
  have e1:(((R i).n:Int) != w)=false:=by rw [z1]; exact bne_self_eq_false _
  have e2:(rowF (R i) != 0)=false:=by rw [z2]; rfl
  refine dT (by omega) (dT hlt (cF e1 (hT (Row.ok (hR.2 i hlt)) (cF e2 ?_))))
  exact LInv.ask_of ⟨rfl,⟨w,h,t,T,R,n,i+1⟩,⟨rfl,rfl,rfl,hlt,hR,hz⟩,by simp only [gkI]; omega,[],wkG (.cons (.po rfl) (.cons (.sl _ _ _ _) (.cons (.v _) (.cons (.v _) .nil)))) (Nat.le_refl _) rfl rfl⟩
 ·exact LInv.ask_of ⟨rfl,rfl,[],wkN .nil⟩
noncomputable abbrev szP:ConF:=inl2 Tryz.prog (env [] noLp 0) Tryz.f67
theorem szP_ok {st:AE.Stat}(hx:Hx st):ConOk Tryz.prog st 67 szP:=inl2_ok Tryz.func67 (by kernel_rfl) (by kernel_rfl) (hx 67 rfl) (glOk st) (tblD_env (l:=[]) fun _ h=>nomatch h) (fun _ _ _ h=>nomatch h)
theorem gk_tree (w h:Int) (t:Bool) (T:Nat->Bool) (R:Nat->Row) (n:Nat) (k:DV->Option Unit):bodyD Tryz.prog (env [(67,szP)] (lpOf [(122,gkI.g)]) 0) Tryz.f26 [.agg [iv w,iv h,.sl t (rowsD T R) 1 n]] [] (fun d _=>k d) =
  bif decide (w<1) then k (iv 2) else bif decide (w > 132) then k (iv 2) else bif decide (h<1) then k (iv 2) else bif decide (h > 60) then k (iv 2) else bif (n:Int) != h then k (iv 1) else bif holds ((Nat.le 0 n/\(Nat.le n 9000000/\∀ (i:Nat),i<n->Nat.le (Row.n (R i)) 9000000/\∀ (i_1:Nat),i_1<Row.n (R i)->Nat.le (ByteArray.size (Row.tx (R i) i_1)) 9000000)/\∀ (j:Nat),j<n->(↑(Row.n (R j)):Int)=w/\rowF (R j)=0)/\∃ ids,WkP 1 ids [.po 0 0 0,.sl t (rowsD T R) 1 n,iv (n:Int),iv 0] [some ⟨3,.lst [[iv w,iv h,.sl t (rowsD T R) 1 n]]⟩] [.po 0 0 0,.sl t (fun a _=>DV.sl (slT (.sl (T a) (Row.cell (R a)) 5 (Row.n (R a)))) (Row.cell (R a)) 5 (Row.n (R a))) 1 n,iv (n:Int),iv 0] [some ⟨3,.lst [[iv w,iv h,DV.any]]⟩])
  then k (iv 0) else none:=by
 kernel_rfl
def gridQ (w h:Int) (G:Nat->Nat->DV) (n:Nat):Prop:=1<=w/\w<=132/\1<=h/\h<=60/\(n:Int)=h/\n<=9000000/\∀ i,i<n->isRow (G i 0)/\(slN (G i 0):Int)=w/\rowF (rowD (G i 0))=0
noncomputable def gkC (Q:Int->Int->(Nat->Nat->DV)->Nat->Prop):ConF:=fun args k=>match args with
 | [.agg [.v (.int .i64 w),.v (.int .i64 h),.sl _ G 1 n]]=>bif holds (Q w h G n) then k (fun _=>(iv 0,[])) else none
 | _=>none
theorem gkC_ok {st:AE.Stat}(hx:Hx st) (hv:VdOk st):ConOk Tryz.prog st 26 (gkC gridQ):=by
 refine con_flat (mg:=[]) (l:=[(67,szP)]) (lp:=lpOf [(122,gkI.g)]) (n:=0) (glOk st) (fun x h=>?_) Tryz.func26 (by kernel_rfl) (by kernel_rfl) (hx 26 rfl) (lp_one (by kernel_rfl) (gk_ls hx hv)) fun args k hk=>?_
 ·simp only [List.mem_cons,List.not_mem_nil,or_false] at h;subst h;exact szP_ok hx
 unfold gkC at hk
 split at hk<;>first | (cases hk; done) | skip
 rename_i w h t G n;obtain ⟨hb,hk⟩:=bif_none hk;obtain ⟨h1,h2,h3,h4,h5,h6,h7⟩:=holds_eq.1 hb
 have n1:∀ {p:Prop} [Decidable p],¬ p->decide p=false:=fun h=>decide_eq_false h
 refine ⟨[.agg [iv w,iv h,.sl t (rowsD (fun i=>slT (G i 0)) fun i=>rowD (G i 0)) 1 n]],_,.cons (Cv.agg (.cons (Cv.of rfl) (.cons (Cv.of rfl) (.cons (rows_cv fun i hi=>(h7 i hi).1) .nil)))) .nil,v_clo _,hk,(gk_tree w h t (fun i=>slT (G i 0)) (fun i=>rowD (G i 0)) n _).trans ?_⟩
 refine cF (n1 (by omega)) (cF (n1 (by omega)) (cF (n1 (by omega)) (cF (n1 (by omega)) (cF (by rw [h5]; exact bne_self_eq_false _) ?_))))
 exact hT ⟨⟨Nat.zero_le _,⟨h6,fun i hi=>(h7 i hi).1.2.row⟩,fun j hj=>⟨(h7 j hj).2.1,(h7 j hj).2.2⟩⟩,[],wkG (.cons (.po rfl) (.cons (.sl _ _ _ _) (.cons (.v _) (.cons (.v _) .nil)))) (Nat.le_refl _) rfl rfl⟩ (isD_of rfl)
end Go.Proofs.YtigmkgampfbflaaGreatDoor
namespace Go.Proofs.YtigmkgampfbflaaGreatDoor
open Go Go.AE Go.DE Go.RowKit
noncomputable def clO (Q:(Nat->Nat->DV)->Nat->Prop):ConF:=fun args k=>match args with
 | [.sl _ g 5 n]=>bif holds (Q g n) then k (fun b=>(.os b 0 n,[some ⟨5,.tab n (rowOf g n).cell⟩])) else none
 | _=>none
noncomputable def b8N:ConF:=inl2 Tryz.prog (env [] noLp 0) Tryz.f158
theorem b8N_ok {st:AE.Stat}(hx:Hx st):ConOk Tryz.prog st 158 b8N:=inl2_ok Tryz.func158 (by kernel_rfl) (by kernel_rfl) (hx 158 rfl) (glOk st) (tblD_env (l:=[]) fun _ h=>nomatch h) (fun _ _ _ h=>nomatch h)
theorem co_tree (t:Bool) (r:Row) (K:DV->DHeap->Option Unit):bodyD Tryz.prog (envZ [] noLp 0) Tryz.f116 [.sl t r.cell 5 r.n] [] (fun d σ=>K d σ) =
  bif decide (0<r.n) then bif decide ((0+r.n)*(48:Nat)<=140737488355328) then K (.os 1 0 (0+r.n)) [none,some ⟨5,.app (.pre (.lst []) 0) (.tab r.n r.cell)⟩] else none else none:=by
 kernel_rfl
theorem lowR_row {b n:Nat}{r:Row}:LowR (.os b 0 n,[some ⟨5,.tab n r.cell⟩]):=⟨.os _ _ _,fun id blk hb i f _ _=>by
 cases id with
 | succ id=>simp at hb
 | zero =>
  obtain rfl:(⟨5,.tab n r.cell⟩:DBlk)=blk:=by simpa using hb
  exact row_low r i f⟩
theorem clO_ok {st:AE.Stat}(hx:Hx st):ConOkZ true Tryz.prog st 116 (clO rowPos):=by
 refine con_ofZ (mg:=[]) (l:=[]) (lp:=noLp) (n:=0) (glOk st) (fun _ h=>nomatch h) Tryz.func116 (by kernel_rfl) (by kernel_rfl) (hx 116 rfl) (fun _ _ _ h=>nomatch h) fun args k hk=>?_
 unfold clO at hk
 split at hk<;>first | (cases hk; done) | skip
 rename_i t g n;obtain ⟨hb,hk⟩:=bif_none hk;obtain ⟨hb,hp⟩:=holds_eq.1 hb;have hn:=hb.1
 refine ⟨[.sl t (rowOf g n).cell 5 n],_,.cons (hb.cv t) .nil,hk,fun b=>⟨lowR_row,(co_tree t (rowOf g n) _).trans (dT hp ?_)⟩⟩
 have hz:0+(rowOf g n).n=n:=Nat.zero_add _;rw [hz]
 refine dT (by omega) (fin_of ?_)
 exact finQ_own (id:=1) (blk:=⟨5,.app (.pre (.lst []) 0) (.tab n (rowOf g n).cell)⟩) rfl rfl rfl (by show n<=0+n; omega) trivial fun i f hi hf=>⟨Row.clo _ _ _,by
  show (if i<0 then _ else (rowOf g n).cell (i-0) f)=_
  rw [if_neg (Nat.not_lt_zero _)]; rfl⟩
theorem upd5_at {c:DC}{p:Nat}{a0 a1 a2 a3 a4:DV}(i f:Nat) (hf:f<5):(DC.upd (.upd (.upd (.upd (.upd c p 0 a0) p 1 a1) p 2 a2) p 3 a3) p 4 a4).get i f=if i=p then [a0,a1,a2,a3,a4].getD f .any else c.get i f:=by
 show (if i=p/\f=4 then a4 else if i=p/\f=3 then a3 else if i=p/\f=2 then a2 else if i=p/\f=1 then a1 else if i=p/\f=0 then a0 else c.get i f)=_
 by_cases h:i=p
 ·match f,hf with
  | 0,_=>simp [h]
  | 1,_=>simp [h]
  | 2,_=>simp [h]
  | 3,_=>simp [h]
  | 4,_=>simp [h]
 ·simp [h]
theorem last_ne {F G:ByteArray->Int}{r:Row}:∀ (m i:Nat),r.n<=i+m->p7 F G r m i=0->∀ j,i<=j->j<r.n->r.wd j=2->j+1<r.n
 | 0,i,hm,_,j,h1,h2,_=>by omega
 | m+1,i,hm,h,j,h1,h2,h3=>by
  rw [p7,if_pos (by omega)] at h
  unfold p7s at h
  obtain ⟨q1,h⟩:=cond_n h (by decide)
  obtain ⟨q2,h⟩:=cond_n h (by decide)
  obtain ⟨q3,h⟩:=cond_n h (by decide)
  cases q4:r.wd i==1 with
  | true =>
   rw [q4,cond_true] at h
   by_cases e:i=j
   ·subst e;rw [h3] at q4;cases q4
   ·exact last_ne m (i+1) (by omega) h j (by omega) h2 h3
  | false =>
   rw [q4,cond_false] at h
   obtain ⟨q5,h⟩:=cond_n h (by decide)
   obtain ⟨q6,h⟩:=cond_y h (by decide)
   have q5:i+1≠r.n:=fun e=>by rw [e] at q5; simp at q5
   by_cases e:i=j
   ·omega
   by_cases e2:i+1=j
   ·subst e2;unfold Row.half at q6;rw [h3] at q6
    cases hx:r.tx (i+1)==(⟨#[]⟩:ByteArray)<;>rw [hx] at q6<;>cases q6
   ·exact last_ne m (i+2) (by omega) h j (by omega) h2 h3
theorem rowF_pos {r:Row}(h:rowF r=0):1<=r.n/\r.n<=132/\∀ j,j<r.n->r.wd j=2->j+1<r.n:=by
 unfold rowF at h
 obtain ⟨h1,h⟩:=cond_n h (by decide)
 obtain ⟨h2,h⟩:=cond_n h (by decide)
 have h1:=of_decide_eq_false h1;have h2:=of_decide_eq_false h2
 exact ⟨by omega,by omega,fun j hj h3=>last_ne r.n 0 (by omega) h j (Nat.zero_le _) hj h3⟩
end Go.Proofs.YtigmkgampfbflaaGreatDoor
namespace Go.Proofs.YtigmkgampfbflaaGreatDoor
open Go Go.AE Go.DE Go.RowKit
def gwD (R:Nat->Row) (i:Nat):Nat->Nat->DV:=fun j _=>if j<i then .sl false (R j).cell 5 (R j).n else nilS
theorem gwD_lt {R:Nat->Row}{i j f:Nat}(h:j<i):gwD R i j f=.sl false (R j).cell 5 (R j).n:=if_pos h
theorem gwD_ge {R:Nat->Row}{i j f:Nat}(h:¬ j<i):gwD R i j f=nilS:=if_neg h
theorem gwD_clo (R:Nat->Row) (i j f:Nat):Clo (gwD R i j f):=by
 by_cases h:j<i
 ·rw [gwD_lt h];exact .sl _ _ _ _
 ·rw [gwD_ge h];exact .v _
theorem gw_loop (t:Bool) (T:Nat->Bool) (R:Nat->Row) (n i:Nat) (Q:(Nat->Nat->DV)->Nat->Prop) (g:Nat->Nat->DV) (b0 b1:Option DBlk) (K:Ex->Nat->List DV->List DV->DHeap->Option Unit):execD Tryz.prog (envZ [(116,clC Q)] noLp 0) (loopAt Tryz.f156 58) 500 (temps 27 [1,2,3,11,12,13] [.po 0 0 0,.po 1 0 0,.os 2 0 n,.sl t (rowsD T R) 1 n,iv n,iv i]) [b0,b1,some ⟨1,.tab n g⟩] (fun e τ σ=>K e τ.length (pick [1,2,3,11,12,13] τ) (pick [1,2,3] τ) σ) =
  bif decide ((i:Int)<(n:Int)) then bif decide ((i:Int)<(n:Int)) then bif decide (tN i<n) then bif holds (Q (Row.cell (R (tN i))) (Row.n (R (tN i)))) then bif decide ((i:Int)<(n:Int))
  then bif decide (0+tN i<DC.n (.tab n g)) then K .normal 27 [.po 0 0 0,.po 1 0 0,.os 2 0 n,.sl t (rowsD T R) 1 n,iv (n:Int),iv (IntKind.wrap .i64 ((i:Int)+1))] [.po 0 0 0,.po 1 0 0,.os 2 0 n] [b0,b1,some ⟨1,.upd (.tab n g) (0+tN i) 0 (.sl false (Row.cell (rowOf (Row.cell (R (tN i))) (Row.n (R (tN i))))) 5 (Row.n (R (tN i))))⟩]
  else none else none else none else none else none else K (.exit 0) 27 [.po 0 0 0,.po 1 0 0,.os 2 0 n,.sl t (rowsD T R) 1 n,iv (n:Int),iv (i:Int)] [.po 0 0 0,.po 1 0 0,.os 2 0 n] [b0,b1,some ⟨1,.tab n g⟩]:=by
 kernel_rfl
structure GWX where
 w:Int
 h:Int
 t:Bool
 T:Nat->Bool
 R:Nat->Row
 n:Nat
 i:Nat
noncomputable def gwI:LInv GWX where
 pre x:=x.i<=x.n/\rowsPos x.R x.n
 m:=3
 n:=27
 ps:=[1,2,3,11,12,13]
 sd x:=[.po 0 0 0,.po 1 0 0,.os 2 0 x.n,.sl x.t (rowsD x.T x.R) 1 x.n,iv x.n,iv x.i]
 sh x:=[some ⟨3,.lst [[iv x.w,iv x.h,.sl x.t (rowsD x.T x.R) 1 x.n]]⟩,some gz0,some ⟨1,.tab x.n (gwD x.R x.i)⟩]
 meas x:=x.n-x.i
 e _:=.exit 0
 qs:=[1,2,3]
 od x:=[.po 0 0 0,.po 1 0 0,.os 2 0 x.n]
 oh x:=[some ⟨3,.lst [[iv x.w,iv x.h,.sl x.t (rowsD x.T x.R) 1 x.n]]⟩,some gz0,some ⟨1,.tab x.n (gwD x.R x.n)⟩]
 guess ds σ:=match ds,σ with
  | [_,_,_,.sl t G 1 n,_,_],[some b,_,_]=>match b.c.get 0 0,b.c.get 0 1 with
   | .v (.int .i64 w),.v (.int .i64 h)=>some ⟨w,h,t,fun i=>slT (G i 0),fun i=>rowD (G i 0),n,0⟩
   | _,_=>none
  | _,_=>none
 cps x k:=k (.exit 0) [.po 0 0 0,.po 1 0 0,.os 2 0 x.n] [some ⟨3,.lst [[iv x.w,iv x.h,.sl x.t (rowsD x.T x.R) 1 x.n]]⟩,some gz0,some ⟨1,.tab x.n (gwD x.R x.n)⟩]
theorem tm_gw {ids:List Nat}{n:Nat}{t:Bool}{G:Nat->Nat->DV}{i:Nat}{z:Int}(hz:z=(i:Int)):SubL (ren 3 ids) [.po 0 0 0,.po 1 0 0,.os 2 0 n,.sl t G 1 n,iv n,iv i] [.po 0 0 0,.po 1 0 0,.os 2 0 n,.sl t G 1 n,iv n,iv z]:=by
 subst hz;exact .cons (.po rfl) (.cons (.po rfl) (.cons (.os rfl) (.cons (.sl _ _ _ _) (.cons (.v _) (.cons (.v _) .nil)))))
theorem gw_ls {st:AE.Stat}(hx:Hx st):LoopSR true Tryz.prog st gl0 (.loop (loopAt Tryz.f156 58)) gwI.g:=by
 refine gwI.ok (E:=envZ [(116,clC rowPos)] noLp 0) (p:=500) (tblD_env (l:=[(116,clC rowPos)]) fun x h=>?_) (glOk st).1 (fun _ _ _ h=>nomatch h) (fun x k h=>h) fun x hx2=>?_
 ·simp only [List.mem_cons,List.not_mem_nil,or_false] at h;subst h;exact clC_ok hx
 obtain ⟨w,h,t,T,R,n,i⟩:=x;obtain ⟨hi,hR⟩:i<=n/\rowsPos R n:=hx2;have hn:=hR.1;have k0:KB ⟨3,.lst [[iv w,iv h,.sl t (rowsD T R) 1 n]]⟩:=.lst (lst3 (.v _) (.v _) (.sl _ _ _ _)) (Nat.le_refl _);refine (gw_loop t T R n i rowPos (gwD R i) (some ⟨3,.lst [[iv w,iv h,.sl t (rowsD T R) 1 n]]⟩) (some gz0) _).trans ?_;simp only [Int.toNat_natCast,Nat.add_zero,Nat.zero_add]
 refine dS (fun hlt=>?_) fun hge=>?_
 ·have hlt:i<n:=by omega
  refine dT (by omega) (dT hlt (hT (wpos hR hlt) (dT (by omega) (dT hlt (LInv.ask_of ⟨rfl,⟨w,h,t,T,R,n,i+1⟩,⟨rfl,rfl,rfl,hlt,hR⟩,by simp only [gwI]; omega,[],.of (im:=[some 0,some 1,some 2]) (tm_gw (i:=i+1) (by rw [W_in (by omega) (by omega)]; omega)) rfl ⟨⟨0,_,rfl,rfl,k0.sub⟩,⟨1,_,rfl,rfl,gz0_kb.sub⟩,⟨2,_,rfl,rfl,rfl,Nat.le_refl _,trivial,fun j f hj hf=>?_⟩,trivial⟩ rfl (by decide)⟩)))))
  have hf:f<1:=hf
  obtain rfl:f=0:=by omega
  show Sub _ (gwD R (i+1) j 0) (if j=i/\0=0 then .sl false (rowOf (R i).cell (R i).n).cell 5 (R i).n else gwD R i j 0)
  by_cases hji:j=i
  ·subst hji
   rw [if_pos ⟨rfl,rfl⟩,gwD_lt (by omega)]
   exact .of_clo (.sl _ _ _ _)
  ·rw [if_neg (fun h=>hji h.1)]
   by_cases h:j<i
   ·rw [gwD_lt h,gwD_lt (by omega)]
    exact .of_clo (.sl _ _ _ _)
   ·rw [gwD_ge h,gwD_ge (by omega)]
    exact .v _
 ·obtain rfl:n=i:=by omega
  exact LInv.ask_of ⟨rfl,rfl,[],.of (im:=[some 0,some 1,some 2]) (.cons (.po rfl) (.cons (.po rfl) (.cons (.os rfl) .nil))) rfl ⟨⟨0,_,rfl,rfl,k0.sub⟩,⟨1,_,rfl,rfl,gz0_kb.sub⟩,⟨2,_,rfl,rfl,rfl,Nat.le_refl _,trivial,fun j f hj hf=>.of_clo (gwD_clo _ _ _ _)⟩,trivial⟩ rfl (by decide)⟩
theorem gw_tree (w h:Int) (t:Bool) (T:Nat->Bool) (R:Nat->Row) (n:Nat) (K:DV->DHeap->Option Unit):bodyD Tryz.prog (envZ [] (lpOf [(58,gwI.g)]) 0) Tryz.f156 [.agg [iv w,iv h,.sl t (rowsD T R) 1 n]] [] (fun d σ=>K d σ) =
  bif decide ((n:Int)<=(n:Int)) then bif decide (Int.toNat (n:Int)<9223372036854775808) then bif decide (24*Int.toNat (n:Int)<=281474976710656) then bif holds ((Nat.le 0 n/\Nat.le n 9000000/\∀ (i:Nat),i<n->(Nat.le (Row.n (R i)) 9000000/\∀ (i_1:Nat),i_1<Row.n (R i)->Nat.le (ByteArray.size (Row.tx (R i) i_1)) 9000000)/\Nat.le 1 (Row.n (R i)))/\∃ ids,WkP 3 ids [.po 0 0 0,.po 1 0 0,.os 2 0 (Int.toNat (n:Int)),.sl t (rowsD T R) 1 n,iv (n:Int),iv 0] [some ⟨3,.lst [[iv w,iv h,.sl t (rowsD T R) 1 n]]⟩,some ⟨3,.lst [[iv 0,iv 0,DV.v (Value.slice none 0 0)]]⟩,some ⟨1,.tab (Int.toNat (n:Int)) fun a _=>DV.v (Value.slice none 0 0)⟩] [.po 0 0 0,.po 1 0 0,.os 2 0 n,.sl t (fun a _=>DV.sl (slT (.sl (T a) (Row.cell (R a)) 5 (Row.n (R a)))) (Row.cell (R a)) 5 (Row.n (R a))) 1 n,iv (n:Int),iv 0] [some ⟨3,.lst [[iv w,iv h,.sl t (fun a _=>DV.sl (slT (.sl (T a) (Row.cell (R a)) 5 (Row.n (R a)))) (Row.cell (R a)) 5 (Row.n (R a))) 1 n]]⟩,some ⟨3,.lst [[iv 0,iv 0,DV.v (Value.slice none 0 0)]]⟩,some ⟨1,.tab n fun a _=>DV.v (Value.slice none 0 0)⟩])
  then K (.agg [iv w,iv h,.os 2 0 n]) [some ⟨3,.upd (.lst [[iv w,iv h,.sl t (fun a _=>DV.sl (slT (.sl (T a) (Row.cell (R a)) 5 (Row.n (R a)))) (Row.cell (R a)) 5 (Row.n (R a))) 1 n]]) 0 2 (.os 2 0 n)⟩,some ⟨3,.upd (.upd (.upd (.lst [[iv 0,iv 0,DV.v (Value.slice none 0 0)]]) 0 0 (iv w)) 0 1 (iv h)) 0 2 (.os 2 0 n)⟩,some ⟨1,.tab n (gwD (R) n)⟩]
  else none else none else none else none:=by
 kernel_rfl
def gridGo (w h:Int) (G:Nat->Nat->DV) (n:Nat):Prop:=gridQ w h G n
theorem gridGo.are {w h:Int}{G:Nat->Nat->DV}{n:Nat}(q:gridGo w h G n):rowsAre G n:=⟨q.2.2.2.2.2.1,fun i hi=>⟨(q.2.2.2.2.2.2 i hi).1,by have:=(q.2.2.2.2.2.2 i hi).2.1; have:=q.1; omega⟩⟩
end Go.Proofs.YtigmkgampfbflaaGreatDoor
namespace Go.Proofs.YtigmkgampfbflaaGreatDoor
open Go Go.AE Go.DE Go.RowKit
structure GZX where
 w:Int
 w2:Int
 R:Nat->Row
 n:Nat
 h2:Nat
 i:Nat
def GZX.ok (x:GZX):Prop:=1<=x.w2/\x.w2<=30/\x.h2<=60/\1<=x.h2/\x.n<=60/\∀ j,j<x.n->(x.R j).sized/\rowF (x.R j)=0
end Go.Proofs.YtigmkgampfbflaaGreatDoor
namespace Go.Proofs.YtigmkgampfbflaaGreatDoor
open Go Go.AE Go.DE Go.RowKit
noncomputable def l9N:ConF:=inl2 Tryz.prog (env [] noLp 0) Tryz.f159
theorem l9N_ok {st:AE.Stat}(hx:Hx st):ConOk Tryz.prog st 159 l9N:=inl2_ok Tryz.func159 (by kernel_rfl) (by kernel_rfl) (hx 159 rfl) (glOk st) (tblD_env (l:=[]) fun _ h=>nomatch h) (fun _ _ _ h=>nomatch h)
theorem cui_tree (r c w h a b:Int) (p o:Bool) (k:DV->Option Unit):bodyD Tryz.prog (env [(159,l9N)] noLp 0) Tryz.f99 [.agg [iv r,iv c,bv p],.agg [iv w,iv h,iv a,iv b,bv o]] [] (fun d _=>k d) =
  k (.agg [iv (if (if IntKind.wrap .i64 (h-1)<r then IntKind.wrap .i64 (h-1) else r) > 0 then if IntKind.wrap .i64 (h-1)<r then IntKind.wrap .i64 (h-1) else r else 0),iv (if (if IntKind.wrap .i64 (w-1)<c
  then IntKind.wrap .i64 (w-1) else c) > 0 then if IntKind.wrap .i64 (w-1)<c then IntKind.wrap .i64 (w-1) else c else 0),bv p]):=by
 kernel_rfl
theorem cuk_tree (w h a b:Int) (o:Bool) (k:DV->Option Unit):bodyD Tryz.prog (env [] noLp 0) Tryz.f98 [.agg [iv w,iv h,iv a,iv b,bv o]] [] (fun d _=>k d) =
  bif decide (w<1) then k (iv 2) else bif decide (w > 132) then k (iv 2) else bif decide (h<1) then k (iv 2) else bif decide (h > 60) then k (iv 2) else bif decide (a<0) then k (iv 2) else bif decide (a >= b)
  then k (iv 2) else bif decide (b > h) then k (iv 2) else k (iv 0):=by
 kernel_rfl
def lesF (a h:Int):Int:=if a<h-1 then a else h-1
def inOk (r c w h:Int):Prop:=0<=r/\0<=c/\1<=w/\w<=132/\1<=h/\h<=60
noncomputable def cuC (L:Int->Int->Int) (Q:Int->Int->Int->Int->Prop):ConF:=fun args k=>match args with
 | [.agg [.v (.int .i64 r),.v (.int .i64 c),.v (.bool p)],.agg [.v (.int .i64 w),.v (.int .i64 h),.v (.int .i64 _),.v (.int .i64 _),.v (.bool _)]]=>bif holds (Q r c w h) then k (fun _=>(.agg [iv (L r h),iv (L c w),bv p],[])) else none
 | _=>none
theorem cu3 (a b:Int) (p:Bool):Clo (.agg [iv a,iv b,bv p])/\Low (.agg [iv a,iv b,bv p]):=agg_clo rfl
theorem les_max {a h:Int}(h0:0<=a) (h1:1<=h) (h2:h<=132):(if (if IntKind.i64.wrap (h-1)<a then IntKind.i64.wrap (h-1) else a) > 0 then if IntKind.i64.wrap (h-1)<a then IntKind.i64.wrap (h-1) else a else 0)=lesF a h:=by
 rw [W_in (by omega) (by omega)]
 unfold lesF
 split<;>split<;>(try split)<;>omega
theorem insC_ok {st:AE.Stat}(hx:Hx st):ConOk Tryz.prog st 99 (cuC lesF inOk):=by
 refine con_flat (mg:=[]) (l:=[(159,l9N)]) (lp:=noLp) (n:=0) (glOk st) (fun x h=>?_) Tryz.func99 (by kernel_rfl) (by kernel_rfl) (hx 99 rfl) (fun _ _ _ h=>nomatch h) fun args k hk=>?_
 ·simp only [List.mem_cons,List.not_mem_nil,or_false] at h;subst h
  dsimp only
  exact l9N_ok hx
 unfold cuC at hk
 split at hk<;>first | (cases hk; done) | skip
 rename_i r c p w h a b o;obtain ⟨hb,hk⟩:=bif_none hk;obtain ⟨r0,c0,w1,w2,h1,h2⟩:=holds_eq.1 hb;refine ⟨[.agg [iv r,iv c,bv p],.agg [iv w,iv h,iv a,iv b,bv o]],_,.self (.self .nil),cu3 _ _ _,hk,(cui_tree r c w h a b p o _).trans ?_⟩
 rw [les_max r0 h1 (by omega),les_max c0 w1 w2]
 exact isD_of rfl
noncomputable def trF (Q:(Nat->Nat->DV)->Nat->Prop) (T:Nat->Bool):ConF:=fun args k=>match args with
 | [.sl _ g 1 m,.v (.int .i64 w)]=>bif holds (Q g m) then (bif decide (1<=w)&&decide (w<=1000) then k (fun _=>(.sl false (tabsD (rsT (fun i=>boolD (g i 0)) m T)) 1 w.toNat,[])) else none) else none
 | _=>none
end Go.Proofs.YtigmkgampfbflaaGreatDoor
namespace Go.Proofs.YtigmkgampfbflaaGreatDoor
open Go Go.AE Go.DE Go.RowKit
def bndOk (w h a b:Int):Prop:=1<=w/\w<=132/\1<=h/\h<=60/\0<=a/\a<b/\b<=h
noncomputable def bdC (Q:Int->Int->Int->Int->Prop):ConF:=fun args k=>match args with
 | [.agg [.v (.int .i64 w),.v (.int .i64 h),.v (.int .i64 a),.v (.int .i64 b),.v (.bool _)]]=>bif holds (Q w h a b) then k (fun _=>(iv 0,[])) else none
 | _=>none
theorem bdC_ok {st:AE.Stat}(hx:Hx st):ConOk Tryz.prog st 98 (bdC bndOk):=by
 refine con_flat (mg:=[]) (l:=[]) (lp:=noLp) (n:=0) (glOk st) (fun _ h=>nomatch h) Tryz.func98 (by kernel_rfl) (by kernel_rfl) (hx 98 rfl) (fun _ _ _ h=>nomatch h) fun args k hk=>?_
 unfold bdC at hk
 split at hk<;>first | (cases hk; done) | skip
 rename_i w h a b o;obtain ⟨hb,hk⟩:=bif_none hk;obtain ⟨w1,w2,h1,h2,a0,ab,bh⟩:=holds_eq.1 hb
 exact ⟨[.agg [iv w,iv h,iv a,iv b,bv o]],_,.self .nil,v_clo _,hk,(cuk_tree w h a b o _).trans (dF (by omega) (dF (by omega) (dF (by omega) (dF (by omega) (dF (by omega) (dF (by omega) (dF (by omega) (isD_of rfl))))))))⟩
noncomputable def l244:ConF:=inl2 Tryz.prog (env [] noLp 0) Tryz.f244
theorem l244_ok {st:AE.Stat}(hx:Hx st):ConOk Tryz.prog st 244 l244:=inl2_ok Tryz.func244 (by kernel_rfl) (by kernel_rfl) (hx 244 rfl) (glOk st) (tblD_env (l:=[]) fun _ h=>nomatch h) (fun _ _ _ h=>nomatch h)
def lm3 (n lo hi:Int):Int:=if (if hi<n then hi else n) > lo then (if hi<n then hi else n) else lo
noncomputable def lmC (M:Int->Int->Int->Int):ConF:=fun args k=>match args with
 | [.v (.int .i64 n),.v (.int .i64 lo),.v (.int .i64 hi)]=>k (fun _=>(iv (M n lo hi),[]))
 | _=>none
theorem lm_tree (n lo hi:Int) (k:DV->Option Unit):bodyD Tryz.prog (env [] noLp 0) Tryz.f159 [iv n,iv lo,iv hi] [] (fun d _=>k d) =
  k (iv (if (if hi<n then hi else n) > lo then if hi<n then hi else n else lo)):=by
 kernel_rfl
theorem lmC_ok {st:AE.Stat}(hx:Hx st):ConOk Tryz.prog st 159 (lmC lm3):=by
 refine con_flat (mg:=[]) (l:=[]) (lp:=noLp) (n:=0) (glOk st) (fun _ h=>nomatch h) Tryz.func159 (by kernel_rfl) (by kernel_rfl) (hx 159 rfl) (fun _ _ _ h=>nomatch h) fun args k hk=>?_
 unfold lmC at hk
 split at hk<;>first | (cases hk; done) | skip
 rename_i n lo hi;exact ⟨[iv n,iv lo,iv hi],_,.self (.self (.self .nil)),v_clo _,hk,(lm_tree n lo hi _).trans (isD_of rfl)⟩
noncomputable abbrev fdL (Q:Int->Int->Int->Int->Prop) (L:Int->Int->Int) (Q2:Int->Int->Int->Int->Prop):List (FuncId×ConF):=[(98,bdC Q),(99,cuC L Q2)]
noncomputable abbrev e243 (M:Int->Int->Int->Int):InE:=⟨243,Tryz.f243,envH Tryz.prog gl0 [] [(159,lmC M),(244,l244)] noLp 0⟩
noncomputable abbrev e239:InE:=⟨239,Tryz.f239,envH Tryz.prog gl0 [] [] noLp 0⟩
noncomputable abbrev e178 (Q:Int->Int->Int->Int->Prop) (L:Int->Int->Int) (Q2:Int->Int->Int->Int->Prop) (hs:List InE):InE:=⟨178,Tryz.f178,envH Tryz.prog gl0 hs (fdL Q L Q2) noLp 0⟩
noncomputable abbrev e180 (Q:Int->Int->Int->Int->Prop) (L:Int->Int->Int) (Q2:Int->Int->Int->Int->Prop) (M:Int->Int->Int->Int):InE:=⟨180,Tryz.f180,envH Tryz.prog gl0 [e178 Q L Q2 [e243 M]] [] noLp 0⟩
noncomputable abbrev fdE (Q:Int->Int->Int->Int->Prop) (L:Int->Int->Int) (Q2:Int->Int->Int->Int->Prop) (M:Int->Int->Int->Int):Env Unit:=envH Tryz.prog gl0 [e178 Q L Q2 [e239],e180 Q L Q2 M] (fdL Q L Q2) noLp 0
theorem fd_tree (r c w h a b:Int) (p o:Bool) (Q:Int->Int->Int->Int->Prop) (L:Int->Int->Int) (Q2:Int->Int->Int->Int->Prop) (M:Int->Int->Int->Int) (k:DV->Option Unit):bodyD Tryz.prog (fdE Q L Q2 M) Tryz.f172 [.agg [iv r,iv c,bv p],.agg [iv w,iv h,iv a,iv b,bv o]] [] (fun d _=>k d) =
  bif holds (Q w h a b) then bif holds (Q2 r c w h) then bif holds (Q w h a b) then bif holds (Q2 (L r h) (L c w) w h) then bif decide (L (L r h) h >= a) then bif decide (L (L r h) h<b) then bif bif M (IntKind.wrap .i64 (L (L r h) h-M (-1:Int) (-1000:Int) 1000)) a (IntKind.wrap .i64 (b-1))==L r h
  then bif L (L c w) w==L c w then bif false==false then true else false else false else false then bif L r h==IntKind.wrap .i64 (b-1) then bif holds (Q w h a b) then k (.tup [.agg [iv (L r h),iv (L c w),bv false],iv 1])
  else none else k (.tup [.agg [iv (M (IntKind.wrap .i64 (L (L r h) h-M (-1:Int) (-1000:Int) 1000)) a (IntKind.wrap .i64 (b-1))),iv (L (L c w) w),bv false],iv 0]) else k (.tup [.agg [iv (M (IntKind.wrap .i64 (L (L r h) h-M (-1:Int) (-1000:Int) 1000)) a (IntKind.wrap .i64 (b-1))),iv (L (L c w) w),bv false],iv 0])
  else bif bif M (IntKind.wrap .i64 (L (L r h) h-M (-1:Int) (-1000:Int) 1000)) 0 (IntKind.wrap .i64 (h-1))==L r h then bif L (L c w) w==L c w then bif false==false then true else false
  else false else false then bif L r h==IntKind.wrap .i64 (b-1) then bif holds (Q w h a b) then k (.tup [.agg [iv (L r h),iv (L c w),bv false],iv 1]) else none else k (.tup [.agg [iv (M (IntKind.wrap .i64 (L (L r h) h-M (-1:Int) (-1000:Int) 1000)) 0 (IntKind.wrap .i64 (h-1))),iv (L (L c w) w),bv false],iv 0])
  else k (.tup [.agg [iv (M (IntKind.wrap .i64 (L (L r h) h-M (-1:Int) (-1000:Int) 1000)) 0 (IntKind.wrap .i64 (h-1))),iv (L (L c w) w),bv false],iv 0]) else bif bif M (IntKind.wrap .i64 (L (L r h) h-M (-1:Int) (-1000:Int) 1000)) 0 (IntKind.wrap .i64 (h-1))==L r h
  then bif L (L c w) w==L c w then bif false==false then true else false else false else false then bif L r h==IntKind.wrap .i64 (b-1) then bif holds (Q w h a b) then k (.tup [.agg [iv (L r h),iv (L c w),bv false],iv 1])
  else none else k (.tup [.agg [iv (M (IntKind.wrap .i64 (L (L r h) h-M (-1:Int) (-1000:Int) 1000)) 0 (IntKind.wrap .i64 (h-1))),iv (L (L c w) w),bv false],iv 0]) else k (.tup [.agg [iv (M (IntKind.wrap .i64 (L (L r h) h-M (-1:Int) (-1000:Int) 1000)) 0 (IntKind.wrap .i64 (h-1))),iv (L (L c w) w),bv false],iv 0])
  else none else none else none else none:=by
 kernel_rfl
def fdR (h b r:Int):Int:=if r=b-1 then r else if r+1<h then r+1 else r
def fdN (b r:Int):Int:=if r=b-1 then 1 else 0
def curOk (r c w h:Int):Prop:=0<=r/\r<h/\0<=c/\c<w
noncomputable def fdC (Q:Int->Int->Int->Int->Int->Int->Prop) (R:Int->Int->Int->Int) (N:Int->Int->Int):ConF:=fun args k=>match args with
 | [.agg [.v (.int .i64 r),.v (.int .i64 c),.v (.bool _)],.agg [.v (.int .i64 w),.v (.int .i64 h),.v (.int .i64 a),.v (.int .i64 b),.v (.bool _)]]=>bif holds (Q r c w h a b) then k (fun _=>(.tup [.agg [iv (R h b r),iv c,bv false],iv (N b r)],[])) else none
 | _=>none
theorem les_id {r h:Int}(hr:r<h):lesF r h=r:=by
 unfold lesF
 split<;>omega
theorem in243 {st:AE.Stat}(hx:Hx st):InOk Tryz.prog st (e243 lm3):=⟨Tryz.func243,by kernel_rfl,by kernel_rfl,hx 243 rfl,envH_ok (fun _ h=>nomatch h) (fun x h=>by
 simp only [List.mem_cons,List.not_mem_nil,or_false] at h
 rcases h with rfl | rfl
 ·exact lmC_ok hx
 ·exact l244_ok hx),glOk st,(fun _ _ _ h=>nomatch h),rfl⟩
theorem in239 {st:AE.Stat}(hx:Hx st):InOk Tryz.prog st e239:=⟨Tryz.func239,by kernel_rfl,by kernel_rfl,hx 239 rfl,envH_ok (fun _ h=>nomatch h) (fun _ h=>nomatch h),glOk st,(fun _ _ _ h=>nomatch h),rfl⟩
theorem fdL_ok {st:AE.Stat}(hx:Hx st):∀ x∈fdL bndOk lesF inOk,ConOk Tryz.prog st x.1 x.2:=fun x h=>by
 simp only [List.mem_cons,List.not_mem_nil,or_false] at h
 rcases h with rfl | rfl
 ·exact bdC_ok hx
 ·exact insC_ok hx
theorem in178 {st:AE.Stat}(hx:Hx st) {hs:List InE}(hh:∀ e∈hs,InOk Tryz.prog st e):InOk Tryz.prog st (e178 bndOk lesF inOk hs):=⟨Tryz.func178,by kernel_rfl,by kernel_rfl,hx 178 rfl,envH_ok hh (fdL_ok hx),glOk st,(fun _ _ _ h=>nomatch h),rfl⟩
theorem one_in {st:AE.Stat}{e:InE}(h:InOk Tryz.prog st e):∀ x∈[e],InOk Tryz.prog st x:=fun x hx=>by
 obtain rfl:=List.mem_singleton.1 hx;exact h
theorem in180 {st:AE.Stat}(hx:Hx st):InOk Tryz.prog st (e180 bndOk lesF inOk lm3):=⟨Tryz.func180,by kernel_rfl,by kernel_rfl,hx 180 rfl,envH_ok (one_in (in178 hx (one_in (in243 hx)))) (fun _ h=>nomatch h),glOk st,(fun _ _ _ h=>nomatch h),rfl⟩
theorem fdE_ok {st:AE.Stat}(hx:Hx st):EnvOk Tryz.prog st (fdE bndOk lesF inOk lm3):=envH_ok (fun e he=>by
 simp only [List.mem_cons,List.not_mem_nil,or_false] at he
 rcases he with rfl | rfl
 ·exact in178 hx (one_in (in239 hx))
 ·exact in180 hx) (fdL_ok hx)
def fdQ (r c w h a b:Int):Prop:=curOk r c w h/\bndOk w h a b
theorem lm3_in {r a b:Int}(h1:a<=r) (h2:r<b):lm3 (r+1) a (b-1)=if r=b-1 then r else r+1:=by
 unfold lm3
 split<;>split<;>split<;>omega
theorem tup_fd (r c n:Int):Clo (.tup [.agg [iv r,iv c,bv false],iv n])/\Low (.tup [.agg [iv r,iv c,bv false],iv n]):=flR_clo rfl
theorem fdC_ok {st:AE.Stat}(hx:Hx st):ConOk Tryz.prog st 172 (fdC fdQ fdR fdN):=by
 refine con_flatE (E:=fdE bndOk lesF inOk lm3) (glOk st) (fdE_ok hx) Tryz.func172 (by kernel_rfl) (by kernel_rfl) (hx 172 rfl) (fun _ _ _ h=>nomatch h) fun args k hk=>?_
 unfold fdC at hk
 split at hk<;>first | (cases hk; done) | skip
 rename_i r c p w h a b o;obtain ⟨hb,hk⟩:=bif_none hk;obtain ⟨⟨r0,rh,c0,cw⟩,bd⟩:=holds_eq.1 hb;have bd':=bd;obtain ⟨w1,w2,h1,h2,a0,ab,bh⟩:=bd';have q2:inOk r c w h:=⟨r0,c0,w1,w2,h1,h2⟩;refine ⟨[.agg [iv r,iv c,bv p],.agg [iv w,iv h,iv a,iv b,bv o]],_,.self (.self .nil),tup_fd _ _ _,hk,(fd_tree r c w h a b p o bndOk lesF inOk lm3 _).trans ?_⟩
 have m1:lm3 (-1) (-1000) 1000=-1:=by decide
 have e3:IntKind.i64.wrap (b-1)=b-1:=W_in (by omega) (by omega)
 have e4:IntKind.i64.wrap (h-1)=h-1:=W_in (by omega) (by omega)
 have e5:IntKind.i64.wrap (r - -1)=r+1:=by rw [W_in (by omega) (by omega)]; omega
 simp only [les_id rh,les_id cw,m1,e3,e4,e5,beq_self_eq_true,cond_true];refine hT bd (hT q2 (hT bd (hT q2 ?_)));have hin:0<=r:=r0
 have key:∀ x:Int,(x=fdR h b r)->(x=r->r=b-1\/r+1=h)->(r=b-1->x=r) ->
   (bif (bif x==r then true else false) then bif r==b-1 then bif holds (bndOk w h a b) then isD (DV.tup [.agg [iv (fdR h b r),iv c,bv false],iv (fdN b r)]) (DV.tup [.agg [iv r,iv c,bv false],iv 1]) else none else isD (DV.tup [.agg [iv (fdR h b r),iv c,bv false],iv (fdN b r)]) (DV.tup [.agg [iv x,iv c,bv false],iv 0])
    else isD (DV.tup [.agg [iv (fdR h b r),iv c,bv false],iv (fdN b r)]) (DV.tup [.agg [iv x,iv c,bv false],iv 0]))=some ():=fun x hx1 hx2 hx3=>by
  by_cases e:r=b-1
  ·have hxr:=hx3 e;have n1:fdN b r=1:=if_pos e;have r1:fdR h b r=r:=if_pos e;rw [n1,r1,hxr]
   refine cT (by simp) (cT (by simpa using e) (hT bd (isD_of rfl)))
  ·have n0:fdN b r=0:=if_neg e;rw [n0,hx1]
   refine cS (fun _=>cF (by simpa using e) (isD_of rfl)) fun _=>isD_of rfl
 refine dS (fun ha=>dS (fun hb=>?_) fun hb=>?_) fun ha=>?_
 ·rw [lm3_in ha hb]
  refine key _ ?_ ?_ fun e=>if_pos e
  ·unfold fdR
   split<;>first | rfl | (rw [if_pos (by omega)])
  ·intro hx; split at hx<;>omega
 ·rw [lm3_in r0 rh]
  refine key _ ?_ ?_ fun e=>by omega
  ·unfold fdR
   rw [if_neg (show ¬ r=b-1 by omega)]
   split<;>split<;>omega
  ·intro hx; split at hx<;>omega
 ·rw [lm3_in r0 rh]
  refine key _ ?_ ?_ fun e=>by omega
  ·unfold fdR
   rw [if_neg (show ¬ r=b-1 by omega)]
   split<;>split<;>omega
  ·intro hx; split at hx<;>omega
end Go.Proofs.YtigmkgampfbflaaGreatDoor
namespace Go.Proofs.YtigmkgampfbflaaGreatDoor
open Go Go.AE Go.DE Go.RowKit
noncomputable def mpC (Q:Int->Int->Int->Prop):ConF:=fun args k=>match args with
 | [.agg [.v (.bool _),.v (.bool _),.v (.bool _),.v (.bool _),.v (.bool _),.v (.bool _),.v (.bool _),.v (.bool _),.v (.int .u8 x),.v (.int .u8 y),.v (.int .i64 z)],.v (.int .i32 r)]=>bif holds (Q x y z) then k (fun _=>(kv .i32 r,[])) else none
 | _=>none
theorem mp_tree (b0 b1 b2 b3 b4 b5 b6 b7:Bool) (r:Int) (k:DV->Option Unit):bodyD Tryz.prog (env [] noLp 0) Tryz.f82 [.agg [bv b0,bv b1,bv b2,bv b3,bv b4,bv b5,bv b6,bv b7,kv .u8 66,kv .u8 66,iv 0],kv .i32 r] [] (fun d _=>k d) =
  k (kv .i32 r):=by
 kernel_rfl
def mpQ (x y z:Int):Prop:=x=66/\y=66/\z=0
theorem mpC_ok {st:AE.Stat}(hx:Hx st):ConOk Tryz.prog st 82 (mpC mpQ):=by
 refine con_flat (mg:=[]) (l:=[]) (lp:=noLp) (n:=0) (glOk st) (fun _ h=>nomatch h) Tryz.func82 (by kernel_rfl) (by kernel_rfl) (hx 82 rfl) (fun _ _ _ h=>nomatch h) fun args k hk=>?_
 unfold mpC at hk
 split at hk<;>first | (cases hk; done) | skip
 rename_i b0 b1 b2 b3 b4 b5 b6 b7 x y z r;obtain ⟨hb,hk2⟩:=bif_none hk;clear hk;obtain ⟨rfl,rfl,rfl⟩:=holds_eq.1 hb;exact ⟨_,_,.self (.self .nil),v_clo _,hk2,(mp_tree b0 b1 b2 b3 b4 b5 b6 b7 r _).trans (isD_of rfl)⟩
theorem nb {a b:Nat}(h:¬ a=b):Nat.beq a b=false:=by
 cases hb:Nat.beq a b with
 | false=>rfl
 | true=>exact absurd (Nat.eq_of_beq_eq_true hb) h
noncomputable def bsC:ConF:=fun args k=>match args with
 | [.pf _ G 42 1 0 0]=>match G 0 0,G 0 1,G 0 33,G 0 34,G 0 25 with
  | .v (.int .i64 w),.v (.int .i64 h),.v (.int .i64 a),.v (.int .i64 b),.v (.bool o)=>k (fun _=>(.agg [iv w,iv h,iv a,iv b,bv o],[]))
  | _,_,_,_,_=>none
 | _=>none
def g5 (w h a b:Int) (o:Bool):Nat->Nat->DV:=fun _ f=>bif Nat.beq f 0 then iv w else bif Nat.beq f 1 then iv h else bif Nat.beq f 33 then iv a else bif Nat.beq f 34 then iv b else bif Nat.beq f 25 then bv o else .any
theorem bs_tree (t:Bool) (w h a b:Int) (o:Bool) (k:DV->Option Unit):bodyD Tryz.prog (env [] noLp 0) Tryz.f140 [.pf t (g5 w h a b o) 42 1 0 0] [] (fun d _=>k d) =
  k (.agg [iv w,iv h,iv a,iv b,bv o]):=by
 kernel_rfl
theorem bsC_ok {st:AE.Stat}(hx:Hx st):ConOk Tryz.prog st 140 bsC:=by
 refine con_flat (mg:=[]) (l:=[]) (lp:=noLp) (n:=0) (glOk st) (fun _ h=>nomatch h) Tryz.func140 (by kernel_rfl) (by kernel_rfl) (hx 140 rfl) (fun _ _ _ h=>nomatch h) fun args k hk=>?_
 unfold bsC at hk
 split at hk<;>first | (cases hk; done) | skip
 rename_i t G
 split at hk<;>first | (cases hk; done) | skip
 rename_i w h a b o h0 h1 h2 h3 h4
 refine ⟨[.pf t (g5 w h a b o) 42 1 0 0],_,.cons (Cv.pf fun i f hi hf=>?_) .nil,agg_clo rfl,hk,(bs_tree t w h a b o _).trans (isD_of rfl)⟩
 obtain rfl:i=0:=by omega
 unfold g5
 by_cases e0:f=0
 ·subst e0; exact .of h0
 by_cases e1:f=1
 ·subst e1; exact .of h1
 by_cases e2:f=33
 ·subst e2; exact .of h2
 by_cases e3:f=34
 ·subst e3; exact .of h3
 by_cases e4:f=25
 ·subst e4; exact .of h4
 rw [nb e0,nb e1,nb e2,nb e3,nb e4]
 exact fun C μ v _=>.any v
end Go.Proofs.YtigmkgampfbflaaGreatDoor
namespace Go.Proofs.YtigmkgampfbflaaGreatDoor
open Go Go.AE Go.DE Go.RowKit
noncomputable def hvC (Q:(Nat->Nat->DV)->Nat->Int->Prop):ConF:=fun args k=>match args with
 | [.sl _ g 5 n,.v (.int .i64 c)]=>bif holds (Q g n c) then k (fun _=>(.tup [],[])) else none
 | _=>none
noncomputable def onC (P:ByteArray->Prop) (v:Int):ConF:=fun args k=>match args with
 | [.v (.string s)]=>bif holds (P s) then k (fun _=>(iv v,[])) else none
 | _=>none
theorem hv_tree (t:Bool) (r:Row) (c:Int) (k:DV->Option Unit):bodyD Tryz.prog (env [] noLp 0) Tryz.f174 [.sl t r.cell 5 r.n,iv c] [] (fun d _=>k d) =
  bif decide (c > 0) then bif decide (c<(r.n:Int)) then bif decide (0<=c) then bif decide (c<(r.n:Int)) then bif decide (Int.toNat c+0<r.n) then bif r.wd (Int.toNat c+0)==0 then bif decide (0<=c)
  then bif decide (c<(r.n:Int)) then bif decide (Int.toNat c+0<r.n) then none else none else none else none else k (.tup []) else none else none else none else k (.tup []) else k (.tup []):=by
 kernel_rfl
noncomputable abbrev e173 (F:Row->Int) (Q:(Nat->Nat->DV)->Nat->Prop):InE:=⟨173,Tryz.f173,envG Tryz.prog gl0 [] [] [(33,rcC F),(116,clO Q)] noLp 0⟩
noncomputable abbrev ptE (F:Row->Int) (Q:(Nat->Nat->DV)->Nat->Prop) (P:ByteArray->Prop) (H:(Nat->Nat->DV)->Nat->Int->Prop):Env Unit:=envG Tryz.prog gl0 [] [e173 F Q] [(72,onC P 0),(73,onC P 1),(174,hvC H)] noLp 4
theorem pt_tree (t:Bool) (r:Row) (c:Int) (s:ByteArray) (fo ba fl:Int) (F:Row->Int) (Q:(Nat->Nat->DV)->Nat->Prop) (P:ByteArray->Prop) (H:(Nat->Nat->DV)->Nat->Int->Prop) (K:DV->DHeap->Option Unit):bodyD Tryz.prog (ptE F Q P H) Tryz.f131 [.sl t r.cell 5 r.n,iv c,sv s,.agg [iv fo,iv ba,iv fl]] [] (fun d σ=>K d σ) =
  bif holds (Nat.le r.n 9000000/\∀ (i:Nat),i<r.n->sv (r.tx i)=sv (strD (sv (r.tx i)))/\Nat.le (ByteArray.size (strD (sv (r.tx i)))) 9000000/\iv (r.wd i)=iv (numD (iv (r.wd i)))/\iv (r.fo i)=iv (numD (iv (r.fo i)))/\iv (r.ba i)=iv (numD (iv (r.ba i)))/\iv (r.fl i)=iv (numD (iv (r.fl i))))
  then bif F { n:=r.n,tx:=fun i=>strD (sv (r.tx i)),wd:=fun i=>numD (iv (r.wd i)),fo:=fun i=>numD (iv (r.fo i)),ba:=fun i=>numD (iv (r.ba i)),fl:=fun i=>numD (iv (r.fl i)) } != 0
  then K (.tup [DV.v (Value.slice none 0 0),iv 1]) [some ⟨3,.lst [[iv fo,iv ba,iv fl]]⟩] else bif decide (c<0) then K (.tup [DV.v (Value.slice none 0 0),iv 2]) [some ⟨3,.lst [[iv fo,iv ba,iv fl]]⟩]
  else bif decide (c > IntKind.wrap .i64 ((r.n:Int)-1)) then K (.tup [DV.v (Value.slice none 0 0),iv 2]) [some ⟨3,.lst [[iv fo,iv ba,iv fl]]⟩] else bif holds (Q r.cell r.n) then bif holds (P s)
  then bif holds (P s) then bif decide (1 > IntKind.wrap .i64 ((r.n:Int)-c)) then K (.tup [DV.v (Value.slice none 0 0),iv 12]) [some ⟨3,.lst [[iv fo,iv ba,iv fl]]⟩,some ⟨5,.tab r.n (Row.cell (rowOf r.cell r.n))⟩]
  else bif decide (0+r.n<=DC.n (.tab r.n (Row.cell (rowOf r.cell r.n)))) then bif holds (H (fun j f=>lend1 (DC.get (.tab r.n (Row.cell (rowOf r.cell r.n))) (0+j) f)) r.n (IntKind.wrap .i64 (c+0)))
  then bif decide (0+r.n<=DC.n (.tab r.n (Row.cell (rowOf r.cell r.n)))) then bif holds (H (fun j f=>lend1 (DC.get (.tab r.n (Row.cell (rowOf r.cell r.n))) (0+j) f)) r.n (IntKind.wrap .i64 (c+1)))
  then bif decide (0<=c) then bif decide (c<(r.n:Int)) then bif decide (0+Int.toNat c+0<DC.n (.tab r.n (Row.cell (rowOf r.cell r.n)))) then K (.tup [.os 1 0 r.n,iv 0]) [some ⟨3,.lst [[iv fo,iv ba,iv fl]]⟩,some ⟨5,.upd (.upd (.upd (.upd (.upd (.tab r.n (Row.cell (rowOf r.cell r.n))) (0+Int.toNat c+0) 0 (sv s)) (0+Int.toNat c+0) 1 (iv 1)) (0+Int.toNat c+0) 2 (iv fo)) (0+Int.toNat c+0) 3 (iv ba)) (0+Int.toNat c+0) 4 (iv fl)⟩]
  else none else none else none else none else none else none else none else none else none else none else none:=by
 kernel_rfl
def hvQ (g:Nat->Nat->DV) (n:Nat) (_:Int):Prop:=cellsOk g n/\∀ i,i<n->numD (g i 1)≠0
theorem hvC_ok {st:AE.Stat}(hx:Hx st):ConOk Tryz.prog st 174 (hvC hvQ):=by
 refine con_flat (mg:=[]) (l:=[]) (lp:=noLp) (n:=0) (glOk st) (fun _ h=>nomatch h) Tryz.func174 (by kernel_rfl) (by kernel_rfl) (hx 174 rfl) (fun _ _ _ h=>nomatch h) fun args k hk=>?_
 unfold hvC at hk
 split at hk<;>first | (cases hk; done) | skip
 rename_i t g n c;obtain ⟨hb,hk⟩:=bif_none hk;obtain ⟨hb,hq⟩:=holds_eq.1 hb;refine ⟨[.sl t (rowOf g n).cell 5 n,iv c],_,.cons (hb.cv t) (.self .nil),flR_clo (d:=.tup []) rfl,hk,(hv_tree t (rowOf g n) c _).trans ?_⟩
 refine dS (fun h1=>dS (fun h2=>?_) fun _=>isD_of rfl) fun _=>isD_of rfl
 have h2:c<(n:Int):=h2
 have h3:c.toNat+0<n:=by omega
 refine dT (by omega) (dT h2 (dT h3 (cF ?_ (isD_of rfl))))
 show (numD (g (c.toNat+0) 1)==0)=false
 simpa using hq _ h3
theorem frzT {id k n:Nat}{c:DC}{g:Nat->Nat->DV}{σ:DHeap}{x:Value}(hb:σ[id]?=some (some ⟨k,c⟩)) (hn:n<=c.n) (hc:∀ i f,i<c.n->f<k->Clo (c.get i f)) (he:∀ i f,i<n->f<k->c.get i f=g i f):fzq (.tup [.sl false g k n,.v x]) (.tup [.os id 0 n,.v x]) σ=some ():=by
 refine fzq_of ⟨[id],SubLZ.tup (.cons (SubZ.cv (Cv.sl fun i f hi hf=>.of (he i f hi hf)) (SubZ.fz0 (c:=c) (by unfold zf; simp [hb]) hn fun _ _=>rfl)) (.cons (Sub.v x).z .nil)),fun j hj blk hb2 i f hi hf=>?_⟩
 obtain rfl:j=id:=by simpa using hj
 rw [hb] at hb2;obtain rfl:(⟨k,c⟩:DBlk)=blk:=Option.some.inj (Option.some.inj hb2);exact hc i f hi hf
def putR (r:Row) (c:Nat) (s:ByteArray) (fo ba fl:Int):Row :=
 ⟨r.n,fun i=>if i=c then s else r.tx i,fun i=>if i=c then 1 else r.wd i,fun i=>if i=c then fo else r.fo i,fun i=>if i=c then ba else r.ba i,fun i=>if i=c then fl else r.fl i⟩
def ptQ (g:Nat->Nat->DV) (n:Nat) (c:Int):Prop:=cellsOk g n/\rowF (rowOf g n)=0/\(∀ i,i<n->numD (g i 1)≠0)/\0<=c/\c<n
def oneC (s:ByteArray):Prop:=s.size<=9000000/\ccF s=0/\cdF s=1
noncomputable def ptC (Q:(Nat->Nat->DV)->Nat->Int->Prop) (P:ByteArray->Prop) (M:Row->Nat->ByteArray->Int->Int->Int->Row):ConF:=fun args k=>match args with
 | [.sl _ g 5 n,.v (.int .i64 c),.v (.string s),.agg [.v (.int .i64 fo),.v (.int .i64 ba),.v (.int .i64 fl)]]=>bif holds (Q g n c/\P s) then k (fun _=>(.tup [.sl false (M (rowOf g n) c.toNat s fo ba fl).cell 5 n,iv 0],[])) else none
 | _=>none
theorem on72_ok {st:AE.Stat}(hx:Hx st) (hv:VdOk st):ConOk Tryz.prog st 72 (onC oneC 0):=fun args k hk=>by
 unfold onC at hk
 split at hk<;>first | (cases hk; done) | skip
 rename_i s;obtain ⟨hb,hk⟩:=bif_none hk;obtain ⟨h1,h2,h3⟩:=holds_eq.1 hb;refine ccC_ok hx hv [sv s] k (dT h1 ?_);rw [h2];exact hk
theorem on73_ok {st:AE.Stat}(hx:Hx st) (hv:VdOk st):ConOk Tryz.prog st 73 (onC oneC 1):=fun args k hk=>by
 unfold onC at hk
 split at hk<;>first | (cases hk; done) | skip
 rename_i s;obtain ⟨hb,hk⟩:=bif_none hk;obtain ⟨h1,h2,h3⟩:=holds_eq.1 hb;refine cdC_ok hx hv [sv s] k (dT h1 ?_);rw [h3];exact hk
theorem in173 {st:AE.Stat}(hx:Hx st) (hv:VdOk st):InOkZ Tryz.prog st (e173 rowF rowPos):=⟨Tryz.func173,by kernel_rfl,by kernel_rfl,hx 173 rfl,envG_ok (fun _ h=>nomatch h) (fun _ h=>nomatch h) (fun x h=>by
 simp only [List.mem_cons,List.not_mem_nil,or_false] at h
 rcases h with rfl | rfl
 ·exact (rrC_ok hx hv).z
 ·exact clO_ok hx),glOk st,(fun _ _ _ h=>nomatch h)⟩
theorem one_inZ {st:AE.Stat}{e:InE}(h:InOkZ Tryz.prog st e):∀ x∈[e],InOkZ Tryz.prog st x:=fun x hx=>by
 obtain rfl:=List.mem_singleton.1 hx;exact h
theorem ptE_ok {st:AE.Stat}(hx:Hx st) (hv:VdOk st):EnvOk Tryz.prog st (ptE rowF rowPos oneC hvQ):=envG_ok (fun _ h=>nomatch h) (one_inZ (in173 hx hv)) fun x h=>by
 simp only [List.mem_cons,List.not_mem_nil,or_false] at h
 rcases h with rfl | rfl | rfl
 ·exact (on72_ok hx hv).z
 ·exact (on73_ok hx hv).z
 ·exact (hvC_ok hx).z
theorem put_cell (r:Row) (c:Nat) (s:ByteArray) (fo ba fl:Int) (i f:Nat) (hf:f<5):(DC.upd (.upd (.upd (.upd (.upd (.tab r.n r.cell) c 0 (sv s)) c 1 (iv 1)) c 2 (iv fo)) c 3 (iv ba)) c 4 (iv fl)).get i f=(putR r c s fo ba fl).cell i f:=by
 rw [upd5_at i f hf]
 by_cases h:i=c
 ·rw [if_pos h]
  match f,hf with
  | 0,_=>show sv s=sv (if i=c then s else r.tx i); rw [if_pos h]
  | 1,_=>show iv 1=iv (if i=c then 1 else r.wd i); rw [if_pos h]
  | 2,_=>show iv fo=iv (if i=c then fo else r.fo i); rw [if_pos h]
  | 3,_=>show iv ba=iv (if i=c then ba else r.ba i); rw [if_pos h]
  | 4,_=>show iv fl=iv (if i=c then fl else r.fl i); rw [if_pos h]
 ·rw [if_neg h]
  match f,hf with
  | 0,_=>show sv (r.tx i)=sv (if i=c then s else r.tx i); rw [if_neg h]
  | 1,_=>show iv (r.wd i)=iv (if i=c then 1 else r.wd i); rw [if_neg h]
  | 2,_=>show iv (r.fo i)=iv (if i=c then fo else r.fo i); rw [if_neg h]
  | 3,_=>show iv (r.ba i)=iv (if i=c then ba else r.ba i); rw [if_neg h]
  | 4,_=>show iv (r.fl i)=iv (if i=c then fl else r.fl i); rw [if_neg h]
theorem ptC_ok {st:AE.Stat}(hx:Hx st) (hv:VdOk st):ConOkZ true Tryz.prog st 131 (ptC ptQ oneC putR):=by
 refine con_frz (E:=ptE rowF rowPos oneC hvQ) rfl (glOk st) (ptE_ok hx hv) Tryz.func131 (by kernel_rfl) (by kernel_rfl) (hx 131 rfl) (fun _ _ _ h=>nomatch h) fun args k hk=>?_
 unfold ptC at hk
 split at hk<;>first | (cases hk; done) | skip
 rename_i t g n c s fo ba fl;obtain ⟨hb,hk⟩:=bif_none hk;obtain ⟨⟨hb,h0,hq,c0,cn⟩,hs⟩:=holds_eq.1 hb;obtain ⟨n1,n2,-⟩:=rowF_pos h0;have n1:1<=n:=n1;have n2:n<=132:=n2
 refine ⟨[.sl t (rowOf g n).cell 5 n,iv c,sv s,.agg [iv fo,iv ba,iv fl]],_,.cons (hb.cv t) (.self (.self (.self .nil))),.tup fun d hd=>?_,hk,(pt_tree t (rowOf g n) c s fo ba fl rowF rowPos oneC hvQ _).trans ?_⟩
 ·simp only [List.mem_cons,List.not_mem_nil,or_false] at hd
  rcases hd with rfl | rfl
  ·exact .sl fun i f _ _=>row_low _ _ _
  ·exact .v _
 have hok:cellsOk (rowOf g n).cell n:=Row.ok hb.row
 have e1:IntKind.i64.wrap ((n:Int)-1)=n-1:=W_in (by omega) (by omega)
 have e2:IntKind.i64.wrap ((n:Int)-c)=n-c:=W_in (by omega) (by omega)
 have hq2:∀ z,hvQ (fun j f=>lend1 (DC.get (DC.tab (rowOf g n).n (rowOf (rowOf g n).cell (rowOf g n).n).cell) (0+j) f)) (rowOf g n).n z:=fun z=>⟨⟨hb.1,fun i hi=>⟨rfl,by
  show (strD (g (0+i) 0)).size<=9000000;rw [Nat.zero_add]
  exact (hb.2 i hi).2.1,rfl,rfl,rfl,rfl⟩⟩,fun i hi=>by
  show numD (g (0+i) 1)≠0;rw [Nat.zero_add];exact hq i hi⟩
 refine hT hok (cF (show (rowF (rowOf g n) != 0)=false by rw [h0]; rfl) (dF (by omega) (dF ?_ (hT ⟨hok,n1⟩ (hT hs (hT hs (dF ?_ ?_)))))))
 ·show ¬ c > IntKind.i64.wrap ((n:Int)-1)
  rw [e1]; omega
 ·show ¬ (1:Int) > IntKind.i64.wrap ((n:Int)-c)
  rw [e2]; omega
 ·refine dT (by show 0+n<=n; omega) (hT (hq2 _) (dT (by show 0+n<=n; omega) (hT (hq2 _) (dT c0 (dT cn (dT (by show 0+c.toNat+0<n; omega) ?_))))))
  have hz:0+c.toNat+0=c.toNat:=by omega
  rw [hz]
  refine frzT (id:=1) rfl (by show n<=n; exact Nat.le_refl _) (fun i f _ hf=>?_) fun i f hi hf=>put_cell (rowOf g n) c.toNat s fo ba fl i f hf
  rw [show (DC.get (DC.upd (DC.upd (DC.upd (DC.upd (DC.upd (DC.tab (rowOf g n).n (rowOf (rowOf g n).cell (rowOf g n).n).cell) c.toNat 0 (sv s)) c.toNat 1 (iv 1)) c.toNat 2 (iv fo)) c.toNat 3 (iv ba)) c.toNat 4 (iv fl)) i f)=_ from put_cell (rowOf g n) c.toNat s fo ba fl i f hf];exact Row.clo _ _ _
end Go.Proofs.YtigmkgampfbflaaGreatDoor
