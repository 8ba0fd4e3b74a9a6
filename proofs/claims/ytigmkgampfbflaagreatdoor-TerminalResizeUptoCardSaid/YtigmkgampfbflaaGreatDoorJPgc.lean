/-
 The contract of the program's check of grids,at what is proper.
 Conditions: none beyond those of the contracts.
-/
import Derived.Test.YtigmkgampfbflaaGreatDoorJSme
namespace Go.Proofs.YtigmkgampfbflaaGreatDoor
open Go Go.AE Go.DE Go.RowKit
theorem gk_loop (F:Row→Int) (w h:Int) (t:Bool) (T:Nat→Bool) (R:Nat→Row) (n i:Nat) (K:Ex→Nat→List DV→List DV→DHeap→Option Unit):execD Tryz.prog (env [(33,rcC F)] noLp 0) (loopAt Tryz.f26 122) 500 (temps 39 [1,22,23,24] [.po 0 0 0,.sl t (rowsD T R) 1 n,iv n,iv i]) [some ⟨3,.lst [[iv w,iv h,.any]]⟩] (fun e τ σ=>K e τ.length (pick [1,22,23,24] τ) (pick [] τ) σ) =
  bif decide ((i:Int)<(n:Int)) then bif decide ((i:Int)<(n:Int)) then bif decide (tN i<n) then bif (↑(Row.n (R (tN i))):Int) != w then K .ret 39 [.po 0 0 0,.sl t (fun a a_1=>DV.sl (T a) (Row.cell (R a)) 5 (Row.n (R a))) 1 n,iv (n:Int),iv (i:Int)] [] [some ⟨3,.lst [[iv w,iv h,DV.any]]⟩]
  else bif holds (Nat.le (Row.n (R (tN i))) 9000000∧∀ (i_1:Nat),i_1<Row.n (R (tN i))→sv (Row.tx (R (tN i)) i_1)=sv (strD (sv (Row.tx (R (tN i)) i_1)))∧Nat.le (ByteArray.size (strD (sv (Row.tx (R (tN i)) i_1)))) 9000000∧iv (Row.wd (R (tN i)) i_1)=iv (numD (iv (Row.wd (R (tN i)) i_1)))∧iv (Row.fo (R (tN i)) i_1)=iv (numD (iv (Row.fo (R (tN i)) i_1)))∧iv (Row.ba (R (tN i)) i_1)=iv (numD (iv (Row.ba (R (tN i)) i_1)))∧iv (Row.fl (R (tN i)) i_1)=iv (numD (iv (Row.fl (R (tN i)) i_1))))
  then bif F { n:=Row.n (R (tN i)),tx:=fun i_1=>strD (sv (Row.tx (R (tN i)) i_1)),wd:=fun i_1=>numD (iv (Row.wd (R (tN i)) i_1)),fo:=fun i_1=>numD (iv (Row.fo (R (tN i)) i_1)),ba:=fun i_1=>numD (iv (Row.ba (R (tN i)) i_1)),fl:=fun i_1=>numD (iv (Row.fl (R (tN i)) i_1)) } != 0
  then K .ret 39 [.po 0 0 0,.sl t (fun a a_1=>DV.sl (T a) (Row.cell (R a)) 5 (Row.n (R a))) 1 n,iv (n:Int),iv (i:Int)] [] [some ⟨3,.lst [[iv w,iv h,DV.any]]⟩] else K .normal 39 [.po 0 0 0,.sl t (fun a a_1=>DV.sl (T a) (Row.cell (R a)) 5 (Row.n (R a))) 1 n,iv (n:Int),iv (IntKind.wrap .i64 ((i:Int)+1))] [] [some ⟨3,.lst [[iv w,iv h,DV.any]]⟩]
  else none else none else none else K (.exit 0) 39 [.po 0 0 0,.sl t (fun a a_1=>DV.sl (T a) (Row.cell (R a)) 5 (Row.n (R a))) 1 n,iv (n:Int),iv (i:Int)] [] [some ⟨3,.lst [[iv w,iv h,DV.any]]⟩]:=by
 kernel_rfl
structure ZK where
 w:Int
 h:Int
 t:Bool
 T:Nat→Bool
 R:Nat→Row
 n:Nat
 i:Nat
noncomputable def gkI:LInv ZK where
 pre x:=x.i≤x.n∧rowsOk x.R x.n∧∀ j,j<x.n→((x.R j).n:Int)=x.w∧rowF (x.R j)=0
 m:=1
 n:=39
 ps:=[1,22,23,24]
 sd x:=[.po 0 0 0,.sl x.t (rowsD x.T x.R) 1 x.n,iv x.n,iv x.i]
 sh x:=[some ⟨3,.lst [[iv x.w,iv x.h,.any]]⟩]
 meas x:=x.n-x.i
 e _:=.exit 0
 qs:=[]
 od _:=[]
 oh _:=[none]
 guess ds σ:=match ds,σ with
  | [_,.sl t g 1 n,_,_],[some ⟨_,c⟩]=>(match c.get 0 0,c.get 0 1 with
   | .v (.int _ w),.v (.int _ h)=>some ⟨w,h,t,fun i=>slT (g i 0),fun i=>rowD (g i 0),n,0⟩
   | _,_=>none)
  | _,_=>none
 cps _ k:=k (.exit 0) [] [none]
theorem wkG {c:DC}{w h:Int}{ds ds2:List DV}(tm:SubL (ren 1 []) ds2 ds) (hn:1≤c.n) (h0:c.get 0 0=iv w) (h1:c.get 0 1=iv h):WkP 1 [] ds [some ⟨3,c⟩] ds2 [some ⟨3,.lst [[iv w,iv h,.any]]⟩] :=
 ⟨tm,rfl,⟨⟨0,_,rfl,rfl,rfl,hn,trivial,fun i f hi hf=>by
  obtain rfl:i=0:=by
   have:i<1:=hi
   omega
  have hf:f<3:=hf
  match f with
  | 0=>show Sub _ (iv w) (c.get 0 0); rw [h0]; exact .v _
  | 1=>show Sub _ (iv h) (c.get 0 1); rw [h1]; exact .v _
  | 2=>exact .any _
  | f+3=>omega⟩,trivial⟩,(by decide:([some 0]:List (Option Nat)).Nodup)⟩
theorem gk_ls {st:AE.Stat}(hx:Hx st) (hv:VdOk st):LoopS Tryz.prog st gl0 (.loop (loopAt Tryz.f26 122)) gkI.g:=by
 refine gkI.ok (E:=env [(33,rcC rowF)] noLp 0) (p:=500) (tblD_env (l:=[(33,rcC rowF)]) fun x h=>?_) (glOk st).1 (fun _ _ _ h=>nomatch h) (fun x k h=>h) fun x hx2=>?_
 ·simp only [List.mem_cons,List.not_mem_nil,or_false] at h
  subst h
  exact rrC_ok hx hv
 obtain ⟨w,h,t,T,R,n,i⟩:=x
 obtain ⟨hi,hR,hz⟩:i≤n∧rowsOk R n∧∀ j,j<n→((R j).n:Int)=w∧rowF (R j)=0:=hx2
 have hn:=hR.1
 refine (gk_loop rowF w h t T R n i _).trans ?_
 simp only [Int.toNat_natCast,Nat.add_zero]
 refine dS (fun hlt=>?_) fun hge=>?_
 ·have hlt:i<n:=by omega
  have hW:IntKind.i64.wrap ((i:Int)+1)=((i+1:Nat):Int):=by rw [W_in (by omega) (by omega)]; omega
  rw [hW]
  obtain ⟨z1,z2⟩:=hz i hlt
  have e1:(((R i).n:Int) != w)=false:=by rw [z1]; exact bne_self_eq_false _
  have e2:(rowF (R i) != 0)=false:=by rw [z2]; rfl
  refine dT (by omega) (dT hlt (cF e1 (hT (Row.ok (hR.2 i hlt)) (cF e2 ?_))))
  exact LInv.ask_of ⟨rfl,⟨w,h,t,T,R,n,i+1⟩,⟨rfl,rfl,rfl,hlt,hR,hz⟩,by simp only [gkI]; omega,[],wkG (.cons (.po rfl) (.cons (.sl _ _ _ _) (.cons (.v _) (.cons (.v _) .nil)))) (Nat.le_refl _) rfl rfl⟩
 ·exact LInv.ask_of ⟨rfl,rfl,[],wkN .nil⟩
noncomputable abbrev szP:ConF:=inl2 Tryz.prog (env [] noLp 0) Tryz.f67
theorem szP_ok {st:AE.Stat}(hx:Hx st):ConOk Tryz.prog st 67 szP:=inl2_ok Tryz.func67 (by kernel_rfl) (by kernel_rfl) (hx 67 rfl) (glOk st) (tblD_env (l:=[]) fun _ h=>nomatch h) (fun _ _ _ h=>nomatch h)
theorem gk_tree (w h:Int) (t:Bool) (T:Nat→Bool) (R:Nat→Row) (n:Nat) (k:DV→Option Unit):bodyD Tryz.prog (env [(67,szP)] (lpOf [(122,gkI.g)]) 0) Tryz.f26 [.agg [iv w,iv h,.sl t (rowsD T R) 1 n]] [] (fun d _=>k d) =
  bif decide (w<1) then k (iv 2) else bif decide (w > 132) then k (iv 2) else bif decide (h<1) then k (iv 2) else bif decide (h > 60) then k (iv 2) else bif (n:Int) != h then k (iv 1) else bif holds ((Nat.le 0 n∧(Nat.le n 9000000∧∀ (i:Nat),i<n→Nat.le (Row.n ((fun i=>rowD (.sl (T i) (Row.cell (R i)) 5 (Row.n (R i)))) i)) 9000000∧∀ (i_1:Nat),i_1<Row.n ((fun i=>rowD (.sl (T i) (Row.cell (R i)) 5 (Row.n (R i)))) i)→Nat.le (ByteArray.size (Row.tx ((fun i=>rowD (.sl (T i) (Row.cell (R i)) 5 (Row.n (R i)))) i) i_1)) 9000000)∧∀ (j:Nat),j<n→(↑(Row.n ((fun i=>rowD (.sl (T i) (Row.cell (R i)) 5 (Row.n (R i)))) j)):Int)=w∧rowF ((fun i=>rowD (.sl (T i) (Row.cell (R i)) 5 (Row.n (R i)))) j)=0)∧∃ ids,WkP 1 ids [.po 0 0 0,.sl t (fun a a_1=>DV.sl (T a) (Row.cell (R a)) 5 (Row.n (R a))) 1 n,iv (n:Int),iv 0] [some ⟨3,.lst [[iv w,iv h,.sl t (fun a a_1=>DV.sl (T a) (Row.cell (R a)) 5 (Row.n (R a))) 1 n]]⟩] [.po 0 0 0,.sl t (fun a a_1=>DV.sl ((fun i=>slT (.sl (T i) (Row.cell (R i)) 5 (Row.n (R i)))) a) (Row.cell ((fun i=>rowD (.sl (T i) (Row.cell (R i)) 5 (Row.n (R i)))) a)) 5 (Row.n ((fun i=>rowD (.sl (T i) (Row.cell (R i)) 5 (Row.n (R i)))) a))) 1 n,iv (n:Int),iv 0] [some ⟨3,.lst [[iv w,iv h,DV.any]]⟩])
  then k (iv 0) else none:=by
 kernel_rfl
def gridQ (w h:Int) (G:Nat→Nat→DV) (n:Nat):Prop:=1≤w∧w≤132∧1≤h∧h≤60∧(n:Int)=h∧n≤9000000∧∀ i,i<n→isRow (G i 0)∧(slN (G i 0):Int)=w∧rowF (rowD (G i 0))=0
noncomputable def gkC (Q:Int→Int→(Nat→Nat→DV)→Nat→Prop):ConF:=fun args k=>match args with
 | [.agg [.v (.int .i64 w),.v (.int .i64 h),.sl _ G 1 n]]=>bif holds (Q w h G n) then k (fun _=>(iv 0,[])) else none
 | _=>none
theorem gkC_ok {st:AE.Stat}(hx:Hx st) (hv:VdOk st):ConOk Tryz.prog st 26 (gkC gridQ):=by
 refine con_flat (mg:=[]) (l:=[(67,szP)]) (lp:=lpOf [(122,gkI.g)]) (n:=0) (glOk st) (fun x h=>?_) Tryz.func26 (by kernel_rfl) (by kernel_rfl) (hx 26 rfl) (lp_one (by kernel_rfl) (gk_ls hx hv)) fun args k hk=>?_
 ·simp only [List.mem_cons,List.not_mem_nil,or_false] at h
  subst h
  exact szP_ok hx
 unfold gkC at hk
 split at hk<;>first | (cases hk; done) | skip
 rename_i w h t G n
 obtain ⟨hb,hk⟩:=bif_none hk
 obtain ⟨h1,h2,h3,h4,h5,h6,h7⟩:=holds_eq.1 hb
 have n1:∀ {p:Prop} [Decidable p],¬ p→decide p=false:=fun h=>decide_eq_false h
 refine ⟨[.agg [iv w,iv h,.sl t (rowsD (fun i=>slT (G i 0)) fun i=>rowD (G i 0)) 1 n]],_,.cons (Cv.agg (.cons (Cv.of rfl) (.cons (Cv.of rfl) (.cons (rows_cv fun i hi=>(h7 i hi).1) .nil)))) .nil,v_clo _,hk,(gk_tree w h t (fun i=>slT (G i 0)) (fun i=>rowD (G i 0)) n _).trans ?_⟩
 refine cF (n1 (by omega)) (cF (n1 (by omega)) (cF (n1 (by omega)) (cF (n1 (by omega)) (cF (by rw [h5]; exact bne_self_eq_false _) ?_))))
 exact hT ⟨⟨Nat.zero_le _,⟨h6,fun i hi=>(h7 i hi).1.2.row⟩,fun j hj=>⟨(h7 j hj).2.1,(h7 j hj).2.2⟩⟩,[],wkG (.cons (.po rfl) (.cons (.sl _ _ _ _) (.cons (.v _) (.cons (.v _) .nil)))) (Nat.le_refl _) rfl rfl⟩ (isD_of rfl)
end Go.Proofs.YtigmkgampfbflaaGreatDoor
namespace Go.Proofs.YtigmkgampfbflaaGreatDoor
open Go Go.AE Go.DE Go.RowKit
noncomputable def clO (Q:(Nat→Nat→DV)→Nat→Prop):ConF:=fun args k=>match args with
 | [.sl _ g 5 n]=>bif holds (Q g n) then k (fun b=>(.os b 0 n,[some ⟨5,.tab n (rowOf g n).cell⟩])) else none
 | _=>none
noncomputable def b8N:ConF:=inl2 Tryz.prog (env [] noLp 0) Tryz.f158
theorem fi_tree (t:Bool) (r:Row) (w:Int) (F:Row→Int) (Q:(Nat→Nat→DV)→Nat→Prop) (K:DV→DHeap→Option Unit):bodyD Tryz.prog (envZ [(33,rcC F),(116,clO Q),(157,bkC),(158,b8N)] noLp 0) Tryz.f97 [.sl t r.cell 5 r.n,iv w] [] (fun d σ=>K d σ) =
  bif holds (Nat.le r.n 9000000∧∀ (i:Nat),i<r.n→sv (r.tx i)=sv (strD (sv (r.tx i)))∧Nat.le (ByteArray.size (strD (sv (r.tx i)))) 9000000∧iv (r.wd i)=iv (numD (iv (r.wd i)))∧iv (r.fo i)=iv (numD (iv (r.fo i)))∧iv (r.ba i)=iv (numD (iv (r.ba i)))∧iv (r.fl i)=iv (numD (iv (r.fl i))))
  then bif F { n:=r.n,tx:=fun i=>strD (sv (r.tx i)),wd:=fun i=>numD (iv (r.wd i)),fo:=fun i=>numD (iv (r.fo i)),ba:=fun i=>numD (iv (r.ba i)),fl:=fun i=>numD (iv (r.fl i)) } != 0
  then K (DV.v (Value.slice none 0 0)) [] else bif decide (w<1) then K (DV.v (Value.slice none 0 0)) [] else bif decide (w > 132) then K (DV.v (Value.slice none 0 0)) [] else bif holds (Q r.cell r.n)
  then bif decide (w ≥ (r.n:Int)) then bif bif decide (0≤IntKind.wrap .i64 (w-(r.n:Int))) then decide (IntKind.wrap .i64 (w-(r.n:Int))≤30) else false then bif decide (r.n≤DC.n (.tab r.n (Row.cell (rowOf r.cell r.n))))
  then bif decide ((r.n+Int.toNat (IntKind.wrap .i64 (w-(r.n:Int))))*48≤140737488355328) then K (.os 1 0 (r.n+Int.toNat (IntKind.wrap .i64 (w-(r.n:Int))))) [none,some ⟨5,.app (.pre (.tab r.n (Row.cell (rowOf r.cell r.n))) r.n) (.tab (Int.toNat (IntKind.wrap .i64 (w-(r.n:Int)))) blankC)⟩]
  else none else none else none else bif decide (0≤w) then bif decide (w≤(r.n:Int)) then bif decide (0+Int.toNat w≤DC.n (.tab r.n (Row.cell (rowOf r.cell r.n)))) then bif decide (Int.toNat w<unk)
  then bif decide (0≤w) then bif decide (w≤(↑(Int.toNat w):Int)) then bif decide (0≤IntKind.wrap .i64 (w-1)) then bif decide (IntKind.wrap .i64 (w-1)<(↑(Int.toNat w):Int)) then bif decide (0+Int.toNat (IntKind.wrap .i64 (w-1))+0<r.n)
  then bif decide (0+Int.toNat (IntKind.wrap .i64 (w-1))+0<r.n) then bif decide (0+Int.toNat (IntKind.wrap .i64 (w-1))+0<r.n) then bif decide (0+Int.toNat (IntKind.wrap .i64 (w-1))+0<r.n)
  then bif decide (0+Int.toNat (IntKind.wrap .i64 (w-1))+0<r.n) then bif Row.wd (rowOf r.cell r.n) (0+Int.toNat (IntKind.wrap .i64 (w-1))+0)==2 then bif decide (0≤IntKind.wrap .i64 (w-1))
  then bif decide (IntKind.wrap .i64 (w-1)<(↑(Int.toNat w):Int)) then bif decide (0+Int.toNat (IntKind.wrap .i64 (w-1))+0<DC.n (.tab r.n (Row.cell (rowOf r.cell r.n)))) then K (.os 0 0 (Int.toNat w)) [some ⟨5,.upd (.upd (.upd (.upd (.upd (.tab r.n (Row.cell (rowOf r.cell r.n))) (0+Int.toNat (IntKind.wrap .i64 (w-1))+0) 0 (sv ({ data:=#[(32:UInt8)] }))) (0+Int.toNat (IntKind.wrap .i64 (w-1))+0) 1 (iv 1)) (0+Int.toNat (IntKind.wrap .i64 (w-1))+0) 2 (iv (-1:Int))) (0+Int.toNat (IntKind.wrap .i64 (w-1))+0) 3 (iv (Row.ba (rowOf r.cell r.n) (0+Int.toNat (IntKind.wrap .i64 (w-1))+0)))) (0+Int.toNat (IntKind.wrap .i64 (w-1))+0) 4 (iv 0)⟩,some ⟨5,.upd (.upd (.upd (.upd (.upd (.lst [[sv ⟨#[]⟩,iv 0,iv 0,iv 0,iv 0]]) 0 0 (sv (Row.tx (rowOf r.cell r.n) (0+Int.toNat (IntKind.wrap .i64 (w-1))+0)))) 0 1 (iv (Row.wd (rowOf r.cell r.n) (0+Int.toNat (IntKind.wrap .i64 (w-1))+0)))) 0 2 (iv (Row.fo (rowOf r.cell r.n) (0+Int.toNat (IntKind.wrap .i64 (w-1))+0)))) 0 3 (iv (Row.ba (rowOf r.cell r.n) (0+Int.toNat (IntKind.wrap .i64 (w-1))+0)))) 0 4 (iv (Row.fl (rowOf r.cell r.n) (0+Int.toNat (IntKind.wrap .i64 (w-1))+0)))⟩]
  else none else none else none else K (.os 0 0 (Int.toNat w)) [some ⟨5,.tab r.n (Row.cell (rowOf r.cell r.n))⟩,some ⟨5,.upd (.upd (.upd (.upd (.upd (.lst [[sv ⟨#[]⟩,iv 0,iv 0,iv 0,iv 0]]) 0 0 (sv (Row.tx (rowOf r.cell r.n) (0+Int.toNat (IntKind.wrap .i64 (w-1))+0)))) 0 1 (iv (Row.wd (rowOf r.cell r.n) (0+Int.toNat (IntKind.wrap .i64 (w-1))+0)))) 0 2 (iv (Row.fo (rowOf r.cell r.n) (0+Int.toNat (IntKind.wrap .i64 (w-1))+0)))) 0 3 (iv (Row.ba (rowOf r.cell r.n) (0+Int.toNat (IntKind.wrap .i64 (w-1))+0)))) 0 4 (iv (Row.fl (rowOf r.cell r.n) (0+Int.toNat (IntKind.wrap .i64 (w-1))+0)))⟩]
  else none else none else none else none else none else none else none else none else none else none else none else none else none else none else none:=by
 kernel_rfl
theorem b8N_ok {st:AE.Stat}(hx:Hx st):ConOk Tryz.prog st 158 b8N:=inl2_ok Tryz.func158 (by kernel_rfl) (by kernel_rfl) (hx 158 rfl) (glOk st) (tblD_env (l:=[]) fun _ h=>nomatch h) (fun _ _ _ h=>nomatch h)
theorem b8N_z {st:AE.Stat}(hx:Hx st):ConOkZ true Tryz.prog st 158 b8N:=(b8N_ok hx).z
theorem co_tree (t:Bool) (r:Row) (K:DV→DHeap→Option Unit):bodyD Tryz.prog (envZ [] noLp 0) Tryz.f116 [.sl t r.cell 5 r.n] [] (fun d σ=>K d σ) =
  bif decide (0<r.n) then bif decide ((0+r.n)*(48:Nat)≤140737488355328) then K (.os 1 0 (0+r.n)) [none,some ⟨5,.app (.pre (.lst []) 0) (.tab r.n r.cell)⟩] else none else none:=by
 kernel_rfl
theorem lowR_row {b n:Nat}{r:Row}:LowR (.os b 0 n,[some ⟨5,.tab n r.cell⟩]):=⟨.os _ _ _,fun id blk hb i f _ _=>by
 cases id with
 | succ id=>simp at hb
 | zero =>
  obtain rfl:(⟨5,.tab n r.cell⟩:DBlk)=blk:=by simpa using hb
  exact row_low r i f⟩
theorem clO_ok {st:AE.Stat}(hx:Hx st):ConOkZ true Tryz.prog st 116 (clO rowPos):=by
 refine con_ofZ (mg:=[]) (l:=[]) (lp:=noLp) (n:=0) (glOk st) (fun _ h=>nomatch h) Tryz.func116 (by kernel_rfl) (by kernel_rfl) (hx 116 rfl) (fun _ _ _ h=>nomatch h) fun args k hk=>?_
 unfold clO at hk
 split at hk<;>first | (cases hk; done) | skip
 rename_i t g n
 obtain ⟨hb,hk⟩:=bif_none hk
 obtain ⟨hb,hp⟩:=holds_eq.1 hb
 have hn:=hb.1
 refine ⟨[.sl t (rowOf g n).cell 5 n],_,.cons (hb.cv t) .nil,hk,fun b=>⟨lowR_row,(co_tree t (rowOf g n) _).trans (dT hp ?_)⟩⟩
 have hz:0+(rowOf g n).n=n:=Nat.zero_add _
 rw [hz]
 refine dT (by omega) (fin_of ?_)
 exact finQ_own (id:=1) (blk:=⟨5,.app (.pre (.lst []) 0) (.tab n (rowOf g n).cell)⟩) rfl rfl rfl (by show n≤0+n; omega) trivial fun i f hi hf=>⟨Row.clo _ _ _,by
  show (if i<0 then _ else (rowOf g n).cell (i-0) f)=_
  rw [if_neg (Nat.not_lt_zero _)]; rfl⟩
theorem frz1 {id k n:Nat}{c:DC}{g:Nat→Nat→DV}{σ:DHeap}(hb:σ[id]?=some (some ⟨k,c⟩)) (hn:n≤c.n) (hc:∀ i f,i<c.n→f<k→Clo (c.get i f)) (he:∀ i f,i<n→f<k→c.get i f=g i f):fzq (.sl false g k n) (.os id 0 n) σ=some ():=by
 refine fzq_of ⟨[id],SubZ.cv (Cv.sl fun i f hi hf=>.of (he i f hi hf)) (SubZ.fz0 (c:=c) (by unfold zf; simp [hb]) hn fun _ _=>rfl),fun j hj blk hb2 i f hi hf=>?_⟩
 obtain rfl:j=id:=by simpa using hj
 rw [hb] at hb2
 obtain rfl:(⟨k,c⟩:DBlk)=blk:=Option.some.inj (Option.some.inj hb2)
 exact hc i f hi hf
theorem upd5_at {c:DC}{p:Nat}{a0 a1 a2 a3 a4:DV}(i f:Nat) (hf:f<5):(DC.upd (.upd (.upd (.upd (.upd c p 0 a0) p 1 a1) p 2 a2) p 3 a3) p 4 a4).get i f=if i=p then [a0,a1,a2,a3,a4].getD f .any else c.get i f:=by
 show (if i=p∧f=4 then a4 else if i=p∧f=3 then a3 else if i=p∧f=2 then a2 else if i=p∧f=1 then a1 else if i=p∧f=0 then a0 else c.get i f)=_
 by_cases h:i=p
 ·match f,hf with
  | 0,_=>simp [h]
  | 1,_=>simp [h]
  | 2,_=>simp [h]
  | 3,_=>simp [h]
  | 4,_=>simp [h]
 ·simp [h]
theorem last_ne {F G:ByteArray→Int}{r:Row}:∀ (m i:Nat),r.n≤i+m→p7 F G r m i=0→∀ j,i≤j→j<r.n→r.wd j=2→j+1<r.n
 | 0,i,hm,_,j,h1,h2,_=>by omega
 | m+1,i,hm,h,j,h1,h2,h3=>by
  rw [p7,if_pos (by omega)] at h
  unfold p7s at h
  obtain ⟨q1,h⟩:=cond_n h (by decide)
  obtain ⟨q2,h⟩:=cond_n h (by decide)
  obtain ⟨q3,h⟩:=cond_n h (by decide)
  cases q4:r.wd i==1 with
  | true =>
   rw [q4,cond_true] at h
   by_cases e:i=j
   ·subst e
    rw [h3] at q4
    cases q4
   ·exact last_ne m (i+1) (by omega) h j (by omega) h2 h3
  | false =>
   rw [q4,cond_false] at h
   obtain ⟨q5,h⟩:=cond_n h (by decide)
   obtain ⟨q6,h⟩:=cond_y h (by decide)
   have q5:i+1≠r.n:=fun e=>by rw [e] at q5; simp at q5
   by_cases e:i=j
   ·omega
   by_cases e2:i+1=j
   ·subst e2
    unfold Row.half at q6
    rw [h3] at q6
    cases hx:r.tx (i+1)==(⟨#[]⟩:ByteArray)<;>rw [hx] at q6<;>cases q6
   ·exact last_ne m (i+2) (by omega) h j (by omega) h2 h3
theorem rowF_pos {r:Row}(h:rowF r=0):1≤r.n∧r.n≤132∧∀ j,j<r.n→r.wd j=2→j+1<r.n:=by
 unfold rowF at h
 obtain ⟨h1,h⟩:=cond_n h (by decide)
 obtain ⟨h2,h⟩:=cond_n h (by decide)
 have h1:=of_decide_eq_false h1
 have h2:=of_decide_eq_false h2
 exact ⟨by omega,by omega,fun j hj h3=>last_ne r.n 0 (by omega) h j (Nat.zero_le _) hj h3⟩
def fitK (r:Row) (k i:Nat):Bool:=decide (i<r.n)&&!(decide (i+1=k)&&r.wd i==2)
def fitR (r:Row) (k:Nat):Row:=⟨k,fun i=>bif fitK r k i then r.tx i else ⟨#[32]⟩,fun i=>bif fitK r k i then r.wd i else 1,fun i=>bif fitK r k i then r.fo i else -1,fun i=>bif decide (i<r.n) then r.ba i else -1,fun i=>bif fitK r k i then r.fl i else 0⟩
theorem fit_keep {r:Row}{k i:Nat}(h1:i<r.n) (h2:i+1=k→r.wd i≠2) (f:Nat):(fitR r k).cell i f=r.cell i f:=by
 have e:fitK r k i=true:=by
  unfold fitK
  rw [decide_eq_true h1]
  by_cases h:i+1=k
  ·have:(r.wd i==2)=false:=by simpa using h2 h
   rw [this]
   simp
  ·rw [decide_eq_false h]
   rfl
 have e2:=decide_eq_true h1
 match f with
 | 0=>show DV.v (.string (bif fitK r k i then _ else _))=_; rw [e]; rfl
 | 1=>show DV.v (.int .i64 (bif fitK r k i then _ else _))=_; rw [e]; rfl
 | 2=>show DV.v (.int .i64 (bif fitK r k i then _ else _))=_; rw [e]; rfl
 | 3=>show DV.v (.int .i64 (bif decide (i<r.n) then _ else _))=_; rw [e2]; rfl
 | f+4=>show DV.v (.int .i64 (bif fitK r k i then _ else _))=_; rw [e]; rfl
theorem fit_half {r:Row}{k i:Nat}(h1:i<r.n) (h2:i+1=k) (h3:r.wd i=2):fitK r k i=false:=by
 unfold fitK
 rw [decide_eq_true h1,decide_eq_true h2,h3]
 rfl
theorem fit_out {r:Row}{k i:Nat}(h1:¬ i<r.n) (j f:Nat):(fitR r k).cell i f=blankC j f:=by
 have e:fitK r k i=false:=by
  unfold fitK
  rw [decide_eq_false h1]
  rfl
 have e2:=decide_eq_false h1
 match f with
 | 0=>show DV.v (.string (bif fitK r k i then _ else _))=_; rw [e]; rfl
 | 1=>show DV.v (.int .i64 (bif fitK r k i then _ else _))=_; rw [e]; rfl
 | 2=>show DV.v (.int .i64 (bif fitK r k i then _ else _))=_; rw [e]; rfl
 | 3=>show DV.v (.int .i64 (bif decide (i<r.n) then _ else _))=_; rw [e2]; rfl
 | f+4=>show DV.v (.int .i64 (bif fitK r k i then _ else _))=_; rw [e]; rfl
def fitQ (g:Nat→Nat→DV) (n:Nat):Prop:=cellsOk g n∧rowF (rowOf g n)=0
noncomputable def fiC (Q:(Nat→Nat→DV)→Nat→Prop) (M:Row→Nat→Row):ConF:=fun args k=>match args with
 | [.sl _ g 5 n,.v (.int .i64 w)]=>bif holds (Q g n) then (bif decide (1≤w)&&decide (w≤30) then k (fun _=>(.sl false (M (rowOf g n) w.toNat).cell 5 w.toNat,[])) else none) else none
 | _=>none
theorem fiC_ok {st:AE.Stat}(hx:Hx st) (hv:VdOk st) (hk:∀ a σ,st.ext 157 a σ=RL.app σ (blkX a σ.length)):ConOkZ true Tryz.prog st 97 (fiC fitQ fitR):=by
 refine con_frz (E:=envZ [(33,rcC rowF),(116,clO rowPos),(157,bkC),(158,b8N)] noLp 0) rfl (glOk st) (tblD_env (l:=[(33,rcC rowF),(116,clO rowPos),(157,bkC),(158,b8N)]) fun x h=>?_) Tryz.func97 (by kernel_rfl) (by kernel_rfl) (hx 97 rfl) (fun _ _ _ h=>nomatch h) fun args k hk=>?_
 ·simp only [List.mem_cons,List.not_mem_nil,or_false] at h
  rcases h with rfl | rfl | rfl | rfl
  ·exact (rrC_ok hx hv).z
  ·exact clO_ok hx
  ·dsimp only
   exact bkC_ok ‹_›
  ·dsimp only
   exact b8N_z hx
 unfold fiC at hk
 split at hk<;>first | (cases hk; done) | skip
 rename_i t g n w
 obtain ⟨hb,hk⟩:=bif_none hk
 obtain ⟨hw,hk⟩:=bif_none hk
 obtain ⟨hb,h0⟩:=holds_eq.1 hb
 obtain ⟨w1,w2⟩:=and_dec hw
 obtain ⟨k0,rfl⟩:∃ k0:Nat,w=k0:=⟨w.toNat,by omega⟩
 obtain ⟨n1,n2,nl⟩:=rowF_pos h0
 have n1:1≤n:=n1
 have n2:n≤132:=n2
 refine ⟨[.sl t (rowOf g n).cell 5 n,iv k0],_,.cons (hb.cv t) (.self .nil),.sl fun i f _ _=>row_low _ _ _,hk,(fi_tree t (rowOf g n) k0 rowF rowPos _).trans ?_⟩
 refine hT (Row.ok hb.row) (cF (show (rowF (rowOf g n) != 0)=false by rw [h0]; rfl) (dF (by omega) (dF (by omega) (hT ⟨Row.ok hb.row,n1⟩ (dS (fun hge=>?_) fun hlt=>?_)))))
 ·have hge:n≤k0:=by have:((k0:Nat):Int) ≥ ((n:Nat):Int):=hge; omega
  have hW:IntKind.i64.wrap ((k0:Int)-((rowOf g n).n:Int))=((k0-n:Nat):Int):=by
   show IntKind.i64.wrap ((k0:Int)-(n:Int))=_
   rw [W_in (by omega) (by omega)]; omega
  rw [hW]
  have hz:(rowOf g n).n+Int.toNat ((k0-n:Nat):Int)=k0:=by
   show n+_=_
   rw [Int.toNat_natCast]; omega
  simp only [hz]
  refine dT2 (by omega) (by omega) (dT (Nat.le_refl _) (dT (by omega) ?_))
  rw [Int.toNat_natCast,Int.toNat_natCast]
  refine frz1 (id:=1) (c:=.app (.pre (.tab n (rowOf g n).cell) n) (.tab (k0-n) blankC)) rfl (by show k0≤n+(k0-n); omega) (fun i f _ _=>?_) fun i f hi hf=>?_
  ·show Clo (if i<n then (rowOf g n).cell i f else blankC (i-n) f)
   by_cases h:i<n
   ·rw [if_pos h]; exact Row.clo _ _ _
   ·rw [if_neg h,blankC_row 0]; exact blkB_clo _ _ _
  ·show (if i<n then (rowOf g n).cell i f else blankC (i-n) f)=(fitR (rowOf g n) k0).cell i f
   by_cases h:i<n
   ·rw [if_pos h,fit_keep h fun e e2=>?_]
    have:=nl i h e2
    have:i+1<n:=this
    omega
   ·rw [if_neg h,fit_out h]
 ·have hlt:k0<n:=by have:¬ ((k0:Nat):Int) ≥ ((n:Nat):Int):=hlt; omega
  have hW:IntKind.i64.wrap ((k0:Int)-1)=((k0-1:Nat):Int):=by
   rw [W_in (by omega) (by omega)]; omega
  rw [hW]
  simp only [Int.toNat_natCast,Nat.add_zero,Nat.zero_add]
  refine dT (by omega) (dT (by show (k0:Int)≤(n:Int); omega) (dT (by show k0≤n; omega) (dT (by unfold unk; omega) (dT (by omega) (dT (by omega) (dT (by omega) (dT (by omega) (dT (by show k0-1<n; omega) (dT (by show k0-1<n; omega) (dT (by show k0-1<n; omega) (dT (by show k0-1<n; omega) (dT (by show k0-1<n; omega) ?_))))))))))))
  have hk1:k0-1<n:=by omega
  cases hw2:(rowOf g n).wd (k0-1)==2 with
  | true =>
   have hw3:(rowOf g n).wd (k0-1)=2:=by simpa using hw2
   refine cT hw2 (dT (by omega) (dT (by omega) (dT hk1 ?_)))
   refine frz1 (id:=0) rfl (by show k0≤n; omega) (fun i f _ hf=>?_) fun i f hi hf=>?_
   ·rw [upd5_at i f hf]
    by_cases h:i=k0-1
    ·rw [if_pos h]
     match f,hf with
     | 0,_=>exact .v _
     | 1,_=>exact .v _
     | 2,_=>exact .v _
     | 3,_=>exact .v _
     | 4,_=>exact .v _
    ·rw [if_neg h]
     exact Row.clo _ _ _
   ·rw [upd5_at i f hf]
    by_cases h:i=k0-1
    ·rw [if_pos h]
     have h1:i<(rowOf g n).n:=by show i<n; omega
     have e:=fit_half (r:=rowOf g n) (k:=k0) (i:=i) h1 (by omega) (by rw [h]; exact hw3)
     have e2:=decide_eq_true h1
     match f,hf with
     | 0,_=>show _=DV.v (.string (bif fitK _ k0 i then _ else _)); rw [e]; rfl
     | 1,_=>show _=DV.v (.int .i64 (bif fitK _ k0 i then _ else _)); rw [e]; rfl
     | 2,_=>show _=DV.v (.int .i64 (bif fitK _ k0 i then _ else _)); rw [e]; rfl
     | 3,_=>show _=DV.v (.int .i64 (bif decide (i<(rowOf g n).n) then _ else _)); rw [e2,h]; rfl
     | 4,_=>show _=DV.v (.int .i64 (bif fitK _ k0 i then _ else _)); rw [e]; rfl
    ·rw [if_neg h,fit_keep (by show i<n; omega) fun e=>absurd e (by omega)]
     rfl
  | false =>
   have hw3:(rowOf g n).wd (k0-1)≠2:=by simpa using hw2
   refine cF hw2 (frz1 (id:=0) (c:=.tab n (rowOf g n).cell) rfl (by show k0≤n; omega) (fun i f _ _=>Row.clo _ _ _) fun i f hi hf=>?_)
   rw [fit_keep (by show i<n; omega) fun e=>?_]
   ·rfl
   ·have:i=k0-1:=by omega
    rw [this]
    exact hw3
end Go.Proofs.YtigmkgampfbflaaGreatDoor
namespace Go.Proofs.YtigmkgampfbflaaGreatDoor
open Go Go.AE Go.DE Go.RowKit
def gwD (R:Nat→Row) (i:Nat):Nat→Nat→DV:=fun j _=>if j<i then .sl false (R j).cell 5 (R j).n else nilS
theorem gwD_lt {R:Nat→Row}{i j f:Nat}(h:j<i):gwD R i j f=.sl false (R j).cell 5 (R j).n:=if_pos h
theorem gwD_ge {R:Nat→Row}{i j f:Nat}(h:¬ j<i):gwD R i j f=nilS:=if_neg h
theorem gwD_clo (R:Nat→Row) (i j f:Nat):Clo (gwD R i j f):=by
 by_cases h:j<i
 ·rw [gwD_lt h]
  exact .sl _ _ _ _
 ·rw [gwD_ge h]
  exact .v _
theorem gw_loop (t:Bool) (T:Nat→Bool) (R:Nat→Row) (n i:Nat) (Q:(Nat→Nat→DV)→Nat→Prop) (g:Nat→Nat→DV) (b0 b1:Option DBlk) (K:Ex→Nat→List DV→List DV→DHeap→Option Unit):execD Tryz.prog (envZ [(116,clC Q)] noLp 0) (loopAt Tryz.f156 58) 500 (temps 27 [1,2,3,11,12,13] [.po 0 0 0,.po 1 0 0,.os 2 0 n,.sl t (rowsD T R) 1 n,iv n,iv i]) [b0,b1,some ⟨1,.tab n g⟩] (fun e τ σ=>K e τ.length (pick [1,2,3,11,12,13] τ) (pick [1,2,3] τ) σ) =
  bif decide ((i:Int)<(n:Int)) then bif decide ((i:Int)<(n:Int)) then bif decide (tN i<n) then bif holds (Q (Row.cell (R (tN i))) (Row.n (R (tN i)))) then bif decide ((i:Int)<(n:Int))
  then bif decide (0+tN i<DC.n (.tab n g)) then K .normal 27 [.po 0 0 0,.po 1 0 0,.os 2 0 n,.sl t (fun a a_1=>DV.sl (T a) (Row.cell (R a)) 5 (Row.n (R a))) 1 n,iv (n:Int),iv (IntKind.wrap .i64 ((i:Int)+1))] [.po 0 0 0,.po 1 0 0,.os 2 0 n] [b0,b1,some ⟨1,.upd (.tab n g) (0+tN i) 0 (.sl false (Row.cell (rowOf (Row.cell (R (tN i))) (Row.n (R (tN i))))) 5 (Row.n (R (tN i))))⟩]
  else none else none else none else none else none else K (.exit 0) 27 [.po 0 0 0,.po 1 0 0,.os 2 0 n,.sl t (fun a a_1=>DV.sl (T a) (Row.cell (R a)) 5 (Row.n (R a))) 1 n,iv (n:Int),iv (i:Int)] [.po 0 0 0,.po 1 0 0,.os 2 0 n] [b0,b1,some ⟨1,.tab n g⟩]:=by
 kernel_rfl
structure GWX where
 w:Int
 h:Int
 t:Bool
 T:Nat→Bool
 R:Nat→Row
 n:Nat
 i:Nat
noncomputable def gwI:LInv GWX where
 pre x:=x.i≤x.n∧rowsPos x.R x.n
 m:=3
 n:=27
 ps:=[1,2,3,11,12,13]
 sd x:=[.po 0 0 0,.po 1 0 0,.os 2 0 x.n,.sl x.t (rowsD x.T x.R) 1 x.n,iv x.n,iv x.i]
 sh x:=[some ⟨3,.lst [[iv x.w,iv x.h,.sl x.t (rowsD x.T x.R) 1 x.n]]⟩,some gz0,some ⟨1,.tab x.n (gwD x.R x.i)⟩]
 meas x:=x.n-x.i
 e _:=.exit 0
 qs:=[1,2,3]
 od x:=[.po 0 0 0,.po 1 0 0,.os 2 0 x.n]
 oh x:=[some ⟨3,.lst [[iv x.w,iv x.h,.sl x.t (rowsD x.T x.R) 1 x.n]]⟩,some gz0,some ⟨1,.tab x.n (gwD x.R x.n)⟩]
 guess ds σ:=match ds,σ with
  | [_,_,_,.sl t G 1 n,_,_],[some b,_,_]=>match b.c.get 0 0,b.c.get 0 1 with
   | .v (.int .i64 w),.v (.int .i64 h)=>some ⟨w,h,t,fun i=>slT (G i 0),fun i=>rowD (G i 0),n,0⟩
   | _,_=>none
  | _,_=>none
 cps x k:=k (.exit 0) [.po 0 0 0,.po 1 0 0,.os 2 0 x.n] [some ⟨3,.lst [[iv x.w,iv x.h,.sl x.t (rowsD x.T x.R) 1 x.n]]⟩,some gz0,some ⟨1,.tab x.n (gwD x.R x.n)⟩]
theorem tm_gw {ids:List Nat}{n:Nat}{t:Bool}{G:Nat→Nat→DV}{i:Nat}{z:Int}(hz:z=(i:Int)):SubL (ren 3 ids) [.po 0 0 0,.po 1 0 0,.os 2 0 n,.sl t G 1 n,iv n,iv i] [.po 0 0 0,.po 1 0 0,.os 2 0 n,.sl t G 1 n,iv n,iv z]:=by
 subst hz
 exact .cons (.po rfl) (.cons (.po rfl) (.cons (.os rfl) (.cons (.sl _ _ _ _) (.cons (.v _) (.cons (.v _) .nil)))))
theorem gw_ls {st:AE.Stat}(hx:Hx st):LoopSR true Tryz.prog st gl0 (.loop (loopAt Tryz.f156 58)) gwI.g:=by
 refine gwI.ok (E:=envZ [(116,clC rowPos)] noLp 0) (p:=500) (tblD_env (l:=[(116,clC rowPos)]) fun x h=>?_) (glOk st).1 (fun _ _ _ h=>nomatch h) (fun x k h=>h) fun x hx2=>?_
 ·simp only [List.mem_cons,List.not_mem_nil,or_false] at h
  subst h
  exact clC_ok hx
 obtain ⟨w,h,t,T,R,n,i⟩:=x
 obtain ⟨hi,hR⟩:i≤n∧rowsPos R n:=hx2
 have hn:=hR.1
 have k0:KB ⟨3,.lst [[iv w,iv h,.sl t (rowsD T R) 1 n]]⟩:=.lst (lst3 (.v _) (.v _) (.sl _ _ _ _)) (Nat.le_refl _)
 refine (gw_loop t T R n i rowPos (gwD R i) (some ⟨3,.lst [[iv w,iv h,.sl t (rowsD T R) 1 n]]⟩) (some gz0) _).trans ?_
 simp only [Int.toNat_natCast,Nat.add_zero,Nat.zero_add]
 refine dS (fun hlt=>?_) fun hge=>?_
 ·have hlt:i<n:=by omega
  refine dT (by omega) (dT hlt (hT (wpos hR hlt) (dT (by omega) (dT hlt (LInv.ask_of ⟨rfl,⟨w,h,t,T,R,n,i+1⟩,⟨rfl,rfl,rfl,hlt,hR⟩,by simp only [gwI]; omega,[],.of (im:=[some 0,some 1,some 2]) (tm_gw (i:=i+1) (by rw [W_in (by omega) (by omega)]; omega)) rfl ⟨⟨0,_,rfl,rfl,k0.sub⟩,⟨1,_,rfl,rfl,gz0_kb.sub⟩,⟨2,_,rfl,rfl,rfl,Nat.le_refl _,trivial,fun j f hj hf=>?_⟩,trivial⟩ rfl (by decide)⟩)))))
  have hf:f<1:=hf
  obtain rfl:f=0:=by omega
  show Sub _ (gwD R (i+1) j 0) (if j=i∧0=0 then .sl false (rowOf (R i).cell (R i).n).cell 5 (R i).n else gwD R i j 0)
  by_cases hji:j=i
  ·subst hji
   rw [if_pos ⟨rfl,rfl⟩,gwD_lt (by omega)]
   exact .of_clo (.sl _ _ _ _)
  ·rw [if_neg (fun h=>hji h.1)]
   by_cases h:j<i
   ·rw [gwD_lt h,gwD_lt (by omega)]
    exact .of_clo (.sl _ _ _ _)
   ·rw [gwD_ge h,gwD_ge (by omega)]
    exact .v _
 ·obtain rfl:n=i:=by omega
  exact LInv.ask_of ⟨rfl,rfl,[],.of (im:=[some 0,some 1,some 2]) (.cons (.po rfl) (.cons (.po rfl) (.cons (.os rfl) .nil))) rfl ⟨⟨0,_,rfl,rfl,k0.sub⟩,⟨1,_,rfl,rfl,gz0_kb.sub⟩,⟨2,_,rfl,rfl,rfl,Nat.le_refl _,trivial,fun j f hj hf=>.of_clo (gwD_clo _ _ _ _)⟩,trivial⟩ rfl (by decide)⟩
theorem gw_tree (w h:Int) (t:Bool) (T:Nat→Bool) (R:Nat→Row) (n:Nat) (K:DV→DHeap→Option Unit):bodyD Tryz.prog (envZ [] (lpOf [(58,gwI.g)]) 0) Tryz.f156 [.agg [iv w,iv h,.sl t (rowsD T R) 1 n]] [] (fun d σ=>K d σ) =
  bif decide ((n:Int)≤(n:Int)) then bif decide (Int.toNat (n:Int)<9223372036854775808) then bif decide (24*Int.toNat (n:Int)≤281474976710656) then bif holds ((Nat.le 0 n∧Nat.le n 9000000∧∀ (i:Nat),i<n→(Nat.le (Row.n ((fun i=>rowD (.sl (T i) (Row.cell (R i)) 5 (Row.n (R i)))) i)) 9000000∧∀ (i_1:Nat),i_1<Row.n ((fun i=>rowD (.sl (T i) (Row.cell (R i)) 5 (Row.n (R i)))) i)→Nat.le (ByteArray.size (Row.tx ((fun i=>rowD (.sl (T i) (Row.cell (R i)) 5 (Row.n (R i)))) i) i_1)) 9000000)∧Nat.le 1 (Row.n ((fun i=>rowD (.sl (T i) (Row.cell (R i)) 5 (Row.n (R i)))) i)))∧∃ ids,WkP 3 ids [.po 0 0 0,.po 1 0 0,.os 2 0 (Int.toNat (n:Int)),.sl t (fun a a_1=>DV.sl (T a) (Row.cell (R a)) 5 (Row.n (R a))) 1 n,iv (n:Int),iv 0] [some ⟨3,.lst [[iv w,iv h,.sl t (fun a a_1=>DV.sl (T a) (Row.cell (R a)) 5 (Row.n (R a))) 1 n]]⟩,some ⟨3,.lst [[iv 0,iv 0,DV.v (Value.slice none 0 0)]]⟩,some ⟨1,.tab (Int.toNat (n:Int)) fun a a_1=>DV.v (Value.slice none 0 0)⟩] [.po 0 0 0,.po 1 0 0,.os 2 0 n,.sl t (fun a a_1=>DV.sl ((fun i=>slT (.sl (T i) (Row.cell (R i)) 5 (Row.n (R i)))) a) (Row.cell ((fun i=>rowD (.sl (T i) (Row.cell (R i)) 5 (Row.n (R i)))) a)) 5 (Row.n ((fun i=>rowD (.sl (T i) (Row.cell (R i)) 5 (Row.n (R i)))) a))) 1 n,iv (n:Int),iv 0] [some ⟨3,.lst [[iv w,iv h,.sl t (fun a a_1=>DV.sl ((fun i=>slT (.sl (T i) (Row.cell (R i)) 5 (Row.n (R i)))) a) (Row.cell ((fun i=>rowD (.sl (T i) (Row.cell (R i)) 5 (Row.n (R i)))) a)) 5 (Row.n ((fun i=>rowD (.sl (T i) (Row.cell (R i)) 5 (Row.n (R i)))) a))) 1 n]]⟩,some ⟨3,.lst [[iv 0,iv 0,DV.v (Value.slice none 0 0)]]⟩,some ⟨1,.tab n fun a a_1=>DV.v (Value.slice none 0 0)⟩])
  then K (.agg [iv w,iv h,.os 2 0 n]) [some ⟨3,.upd (.lst [[iv w,iv h,.sl t (fun a a_1=>DV.sl ((fun i=>slT (.sl (T i) (Row.cell (R i)) 5 (Row.n (R i)))) a) (Row.cell ((fun i=>rowD (.sl (T i) (Row.cell (R i)) 5 (Row.n (R i)))) a)) 5 (Row.n ((fun i=>rowD (.sl (T i) (Row.cell (R i)) 5 (Row.n (R i)))) a))) 1 n]]) 0 2 (.os 2 0 n)⟩,some ⟨3,.upd (.upd (.upd (.lst [[iv 0,iv 0,DV.v (Value.slice none 0 0)]]) 0 0 (iv w)) 0 1 (iv h)) 0 2 (.os 2 0 n)⟩,some ⟨1,.tab n (gwD (fun i=>rowD (.sl (T i) (Row.cell (R i)) 5 (Row.n (R i)))) n)⟩]
  else none else none else none else none:=by
 kernel_rfl
noncomputable def gwC (Q:(Nat→Nat→DV)→Nat→Prop):ConF:=fun args k=>match args with
 | [.agg [.v (.int .i64 w),.v (.int .i64 h),.sl _ G 1 n]]=>bif holds (Q G n) then k (fun _=>(.agg [iv w,iv h,.sl false (rowsD (fun _=>false) fun i=>rowD (G i 0)) 1 n],[])) else none
 | _=>none
theorem grid_low (w h:Int) (R:Nat→Row) (n:Nat):Low (.agg [iv w,iv h,.sl false (rowsD (fun _=>false) R) 1 n]):=.agg fun d hd=>by
 simp only [List.mem_cons,List.not_mem_nil,or_false] at hd
 rcases hd with rfl | rfl | rfl
 ·exact .v _
 ·exact .v _
 ·exact rows_low R n
theorem gwC_ok {st:AE.Stat}(hx:Hx st):ConOkZ true Tryz.prog st 156 (gwC rowsAre):=by
 refine con_frz (E:=envZ [] (lpOf [(58,gwI.g)]) 0) rfl (glOk st) (tblD_env (l:=[]) fun _ h=>nomatch h) Tryz.func156 (by kernel_rfl) (by kernel_rfl) (hx 156 rfl) (lp_in (c0:=.loop (loopAt Tryz.f156 58)) (by kernel_rfl) (gw_ls hx)) fun args k hk=>?_
 unfold gwC at hk
 split at hk<;>first | (cases hk; done) | skip
 rename_i w h t G n
 obtain ⟨hb,hk⟩:=bif_none hk
 obtain ⟨hn,hG⟩:=holds_eq.1 hb
 refine ⟨[.agg [iv w,iv h,.sl t (rowsD (fun i=>slT (G i 0)) fun i=>rowD (G i 0)) 1 n]],_,.cons (Cv.agg (.cons (Cv.of rfl) (.cons (Cv.of rfl) (.cons (rows_cv fun i hi=>(hG i hi).1) .nil)))) .nil,grid_low w h _ n,hk,(gw_tree w h t (fun i=>slT (G i 0)) (fun i=>rowD (G i 0)) n _).trans ?_⟩
 simp only [Int.toNat_natCast]
 refine dT (Int.le_refl _) (dT (by omega) (dT (by omega) (hT ⟨⟨Nat.zero_le _,hn,fun i hi=>⟨(hG i hi).1.2.row,(hG i hi).2⟩⟩,[],.of (im:=[some 0,some 1,some 2]) (tm_gw (i:=0) rfl) rfl ⟨⟨0,_,rfl,rfl,(KB.lst (lst3 (.v _) (.v _) (.sl _ _ _ _)) (Nat.le_refl _)).sub⟩,⟨1,_,rfl,rfl,gz0_kb.sub⟩,⟨2,_,rfl,rfl,rfl,Nat.le_refl _,trivial,fun j f hj hf=>.of_clo (.v _)⟩,trivial⟩ rfl (by decide)⟩ ?_)))
 refine fzq_of ⟨[2],SubLZ.agg (.cons (Sub.v _).z (.cons (Sub.v _).z (.cons (SubZ.cv (Cv.sl fun i f hi hf=>.of ?_) (SubZ.fz0 (c:=.tab n (gwD (fun i=>rowD (G i 0)) n)) rfl (Nat.le_refl _) fun _ _=>rfl)) .nil))),fun j hj blk hb i f hi _=>?_⟩
 ·exact (gwD_lt hi).trans rfl
 ·obtain rfl:j=2:=by simpa using hj
  obtain rfl:(⟨1,.tab n (gwD (fun i=>rowD (G i 0)) n)⟩:DBlk)=blk:=Option.some.inj (Option.some.inj hb)
  exact gwD_clo _ _ _ _
theorem ry_tree (w h:Int) (t:Bool) (G:Nat→Nat→DV) (n:Nat) (Q:Int→Int→(Nat→Nat→DV)→Nat→Prop) (Q2:(Nat→Nat→DV)→Nat→Prop) (k:DV→Option Unit):bodyD Tryz.prog (envZ [(26,gkC Q),(156,gwC Q2)] noLp 0) Tryz.f96 [.agg [iv w,iv h,.sl t G 1 n]] [] (fun d _=>k d) =
  bif holds (Q w h G n) then bif holds (Q2 G n) then k (.tup [.agg [iv w,iv h,.sl false (fun a a_1=>DV.sl ((fun x=>false) a) (Row.cell ((fun i=>rowD (G i 0)) a)) 5 (Row.n ((fun i=>rowD (G i 0)) a))) 1 n],iv 0])
  else none else none:=by
 kernel_rfl
noncomputable def ryC (Q:Int→Int→(Nat→Nat→DV)→Nat→Prop):ConF:=fun args k=>match args with
 | [.agg [.v (.int .i64 w),.v (.int .i64 h),.sl _ G 1 n]]=>bif holds (Q w h G n) then k (fun _=>(.tup [.agg [iv w,iv h,.sl false (rowsD (fun _=>false) fun i=>rowD (G i 0)) 1 n],iv 0],[])) else none
 | _=>none
def gridGo (w h:Int) (G:Nat→Nat→DV) (n:Nat):Prop:=gridQ w h G n
theorem gridGo.are {w h:Int}{G:Nat→Nat→DV}{n:Nat}(q:gridGo w h G n):rowsAre G n:=⟨q.2.2.2.2.2.1,fun i hi=>⟨(q.2.2.2.2.2.2 i hi).1,by have:=(q.2.2.2.2.2.2 i hi).2.1; have:=q.1; omega⟩⟩
theorem grid_clo (w h:Int) (g:Nat→Nat→DV) (n:Nat):Clo (.agg [iv w,iv h,.sl false g 1 n]):=.agg (lst3 (.v _) (.v _) (.sl _ _ _ _))
theorem tup2_flat {d:DV}(h:Clo d∧Low d) (z:Value):Clo (.tup [d,.v z])∧Low (.tup [d,.v z]):=⟨.tup fun e he=>by
 simp only [List.mem_cons,List.not_mem_nil,or_false] at he
 rcases he with rfl | rfl
 ·exact h.1
 ·exact .v _,.tup fun e he=>by
 simp only [List.mem_cons,List.not_mem_nil,or_false] at he
 rcases he with rfl | rfl
 ·exact h.2
 ·exact .v _⟩
theorem ryC_ok {st:AE.Stat}(hx:Hx st) (hv:VdOk st):ConOkZ true Tryz.prog st 96 (ryC gridGo):=by
 refine con_flatZ (mg:=[]) (l:=[(26,gkC gridQ),(156,gwC rowsAre)]) (lp:=noLp) (n:=0) (glOk st) (fun x h=>?_) Tryz.func96 (by kernel_rfl) (by kernel_rfl) (hx 96 rfl) (fun _ _ _ h=>nomatch h) fun args k hk=>?_
 ·simp only [List.mem_cons,List.not_mem_nil,or_false] at h
  rcases h with rfl | rfl
  ·exact (gkC_ok hx hv).z
  ·dsimp only
   exact gwC_ok hx
 unfold ryC at hk
 split at hk<;>first | (cases hk; done) | skip
 rename_i w h t G n
 obtain ⟨hb,hk⟩:=bif_none hk
 have hb:=holds_eq.1 hb
 exact ⟨[.agg [iv w,iv h,.sl t G 1 n]],_,.self .nil,tup2_flat ⟨grid_clo _ _ _ _,grid_low _ _ _ _⟩ _,hk,(ry_tree w h t G n gridQ rowsAre _).trans (hT hb (hT hb.are (isD_of rfl)))⟩
end Go.Proofs.YtigmkgampfbflaaGreatDoor
