/-
 The contract of the program's check of a terminal,at what is proper.
 Conditions: none beyond those of the contracts.
-/
import Derived.Test.YtigmkgampfbflaaGreatDoorJEt
import Derived.Test.YtigmkgampfbflaaGreatDoorJPgc
import Derived.Test.YtigmkgampfbflaaGreatDoorJRc
import Derived.Test.YtigmkgampfbflaaGreatDoorJCk
namespace Go.Proofs.YtigmkgampfbflaaGreatDoor
open Go Go.AE Go.DE Go.RowKit
theorem ak_tree (a b c:Int) (k:DV->Option Unit):bodyD Tryz.prog (env [] noLp 30) Tryz.f28 [.agg [iv a,iv b,iv c]] [] (fun d _=>k d) =
  bif decide (a<(-1:Int)) then k (iv 2) else bif decide (a > 255) then k (iv 2) else bif decide (b<(-1:Int)) then k (iv 2) else bif decide (b > 255) then k (iv 2) else bif decide (c<0) then k (iv 2)
  else bif decide (c > 255) then k (iv 2) else k (iv 0):=by
 kernel_rfl
def akF (a b c:Int):Int :=
 bif decide (a < -1) then 2 else bif decide (a > 255) then 2 else bif decide (b < -1) then 2 else bif decide (b > 255) then 2 else bif decide (c<0) then 2 else bif decide (c > 255) then 2 else 0
noncomputable def akC (F:Int->Int->Int->Int):ConF:=fun args k=>match args with
 | [.agg [.v (.int .i64 a),.v (.int .i64 b),.v (.int .i64 c)]]=>k (fun _=>(iv (F a b c),[]))
 | _=>none
theorem akC_ok {st:AE.Stat}(hx:Hx st):ConOk Tryz.prog st 28 (akC akF):=by
 refine con_flat (mg:=[]) (l:=[]) (lp:=noLp) (n:=30) (glOk st) (fun _ h=>nomatch h) Tryz.func28 (by kernel_rfl) (by kernel_rfl) (hx 28 rfl) (fun _ _ _ h=>nomatch h) fun args k hk=>?_
 unfold akC at hk
 split at hk<;>first | (cases hk; done) | skip
 rename_i a b c;refine ⟨[.agg [iv a,iv b,iv c]],_,.self .nil,v_clo _,hk,(ak_tree a b c _).trans ?_⟩;unfold akF
 refine cS (fun h=>isD_of (by rw [h]; rfl)) fun h=>cS (fun h2=>isD_of (by rw [h,h2]; rfl)) fun h2=>cS (fun h3=>isD_of (by rw [h,h2,h3]; rfl)) fun h3=>cS (fun h4=>isD_of (by rw [h,h2,h3,h4]; rfl)) fun h4=>cS (fun h5=>isD_of (by rw [h,h2,h3,h4,h5]; rfl)) fun h5=>cS (fun h6=>isD_of (by rw [h,h2,h3,h4,h5,h6]; rfl)) fun h6=>isD_of (by rw [h,h2,h3,h4,h5,h6]; rfl)
noncomputable abbrev tcL (Q:Int->Int->(Nat->Nat->DV)->Nat->Prop) (I:Int->Int->Bool->Int->Int->Bool) (A:Int->Int->Int->Int) (S:Int->Int->Int->Bool) (V:ByteArray->Bool) (Q2:(Nat->Nat->DV)->Nat->Prop):List (FuncId×ConF):=[(26,gkC Q),(27,isC I),(28,akC A),(29,seC S),(30,vaG V),(31,ifC Q2 (bv false))]
theorem tck_tree (Q:Int->Int->(Nat->Nat->DV)->Nat->Prop) (I:Int->Int->Bool->Int->Int->Bool) (A:Int->Int->Int->Int) (S:Int->Int->Int->Bool) (V:ByteArray->Bool) (Q2:(Nat->Nat->DV)->Nat->Prop) (x:Tm) (k:DV->Option Unit):bodyD Tryz.prog (env (tcL Q I A S V Q2) noLp 0) Tryz.f11 [.agg x.cells] [] (fun d _=>k d) =
  bif holds (Q (x.I 0) (x.I 1) (rowsD x.gT x.gR) x.gn) then bif holds (Q (x.I 3) (x.I 4) (rowsD x.oT x.oR) x.on) then bif x.I 0==x.I 3 then bif x.I 1==x.I 4 then bif I (x.I 6) (x.I 7) (x.B 8) (x.I 0) (x.I 1)
  then bif I (x.I 9) (x.I 10) (x.B 11) (x.I 0) (x.I 1) then bif A (x.I 19) (x.I 20) (x.I 21)==0 then bif A (x.I 12) (x.I 13) (x.I 14)==0 then bif S (x.I 30) (x.I 31) (x.I 32) then bif S (x.I 16) (x.I 17) (x.I 18)
  then bif decide (x.I 33 >= 0) then bif decide (x.I 33<x.I 34) then bif decide (x.I 34<=x.I 1) then bif (x.tn:Int)==x.I 0 then bif decide ((x.bn:Int)<=500) then bif decide (ByteArray.size (x.S 40)<=9000000)
  then bif !V (x.S 40) then k (iv 1) else bif holds (Q2 (rowsD x.bT x.bR) x.bn) then k (iv 0) else none else none else k (iv 1) else k (iv 1) else k (iv 1) else k (iv 1) else k (iv 1) else k (iv 1) else k (iv 1)
  else k (iv 1) else k (iv 1) else k (iv 1) else k (iv 1) else k (iv 1) else k (iv 1) else none else none:=by
 kernel_rfl
noncomputable def tcC (Q:List DV->Prop):ConF:=fun args k=>match args with
 | [.agg l]=>bif holds (Q l) then k (fun _=>(iv 0,[])) else none
 | _=>none
def gridP (w h:Int) (R:Nat->Row) (n:Nat):Prop:=1<=w/\w<=132/\1<=h/\h<=60/\(n:Int)=h/\∀ j,j<n->((R j).n:Int)=w/\rowF (R j)=0
structure PrpP (x:Tm):Prop where
 g:gridP (x.I 0) (x.I 1) x.gR x.gn
 o:gridP (x.I 3) (x.I 4) x.oR x.on
 w:x.I 0=x.I 3
 h:x.I 1=x.I 4
 c:insF (x.I 6) (x.I 7) (x.B 8) (x.I 0) (x.I 1)=true
 d:insF (x.I 9) (x.I 10) (x.B 11) (x.I 0) (x.I 1)=true
 a:akF (x.I 19) (x.I 20) (x.I 21)=0
 a2:akF (x.I 12) (x.I 13) (x.I 14)=0
 s:setF (x.I 30) (x.I 31) (x.I 32)=true
 s2:setF (x.I 16) (x.I 17) (x.I 18)=true
 t0:0<=x.I 33
 t1:x.I 33<x.I 34
 t2:x.I 34<=x.I 1
 tn:(x.tn:Int)=x.I 0
 bn:(x.bn:Int)<=500
 v:vdF (x.S 40)=true
 b:∀ j,j<x.bn->rowF (x.bR j)=0
def tckQ (l:List DV):Prop:=l=(tmOf l).cells/\(tmOf l).ok/\PrpP (tmOf l)
theorem tck_true (x:Tm) (hok:x.ok) (p:PrpP x):bodyD Tryz.prog (env (tcL gridQ insF akF setF vdF backQ) noLp 0) Tryz.f11 [.agg x.cells] [] (fun d _=>isD (iv 0) d)=some ():=by
 refine (tck_tree gridQ insF akF setF vdF backQ x _).trans ?_
 have qg:∀ {w h:Int}{T:Nat->Bool}{R:Nat->Row}{n:Nat},rowsOk R n->gridP w h R n->gridQ w h (rowsD T R) n:=fun ok p=>⟨p.1,p.2.1,p.2.2.1,p.2.2.2.1,p.2.2.2.2.1,ok.1,fun i hi=>⟨isRow_of (ok.2 i hi),(p.2.2.2.2.2 i hi).1,(p.2.2.2.2.2 i hi).2⟩⟩
 refine hT (qg hok.1 p.g) (hT (qg hok.2.1 p.o) (cT (by rw [p.w]; exact beq_self_eq_true _) (cT (by rw [p.h]; exact beq_self_eq_true _) (cT p.c (cT p.d (cT (by rw [p.a]; rfl) (cT (by rw [p.a2]; rfl) (cT p.s (cT p.s2 (cT (decide_eq_true p.t0) (cT (decide_eq_true p.t1) (cT (decide_eq_true p.t2) (cT (by rw [p.tn]; exact beq_self_eq_true _) (cT (decide_eq_true p.bn) (cT (decide_eq_true hok.2.2.2.2.1) (cF (by rw [p.v]; rfl) (hT ⟨⟨hok.2.2.1.1,fun i hi=>isRow_of (hok.2.2.1.2 i hi)⟩,p.b⟩ (isD_of rfl))))))))))))))))))
theorem tcC_ok {st:AE.Stat}(hx:Hx st) (hv:VdOk st):ConOk Tryz.prog st 11 (tcC tckQ):=by
 refine con_flat (mg:=[]) (l:=tcL gridQ insF akF setF vdF backQ) (lp:=noLp) (n:=0) (glOk st) (fun x h=>?_) Tryz.func11 (by kernel_rfl) (by kernel_rfl) (hx 11 rfl) (fun _ _ _ h=>nomatch h) fun args k hk=>?_
 ·simp only [tcL,List.mem_cons,List.not_mem_nil,or_false] at h
  rcases h with rfl | rfl | rfl | rfl | rfl | rfl
  ·exact gkC_ok hx hv
  ·exact wiC_ok hx
  ·exact akC_ok hx
  ·exact stC_ok hx
  ·exact vdC_ok hx hv
  ·exact cfC_ok hx hv
 unfold tcC at hk
 split at hk<;>first | (cases hk; done) | skip
 rename_i l;obtain ⟨hb,hk⟩:=bif_none hk;obtain ⟨h1,h2,h3⟩:=holds_eq.1 hb
 exact ⟨[.agg (tmOf l).cells],_,.cons (Cv.of (by rw [<- h1])) .nil,v_clo _,hk,tck_true (tmOf l) h2 h3⟩
end Go.Proofs.YtigmkgampfbflaaGreatDoor
namespace Go.Proofs.YtigmkgampfbflaaGreatDoor
open Go Go.AE Go.DE Go.RowKit
def mcL (w h:Nat) (r c:Int) (p:Bool) (T:Nat->Bool) (B:DV):List DV:=[iv w,iv h,.os 4 0 h,iv w,iv h,.os 5 0 h,iv r,iv c,bv p,iv 0,iv 0,bv false,iv (-1),iv (-1),iv 0,bv false,kv .u8 66,kv .u8 66,iv 0,iv (-1),iv (-1),iv 0,
 bv false,bv false,bv false,bv false,bv true,bv true,bv false,bv false,kv .u8 66,kv .u8 66,iv 0,iv 0,iv h,.sl false (tabsD T) 1 w,B,iv 0,evB,evB,evB,evB]
noncomputable def wonC (P:Int->Prop):ConF:=fun args k=>match args with
 | [.v (.int .i32 r)]=>bif holds (P r) then k (fun _=>(iv 1,[])) else none
 | _=>none
noncomputable abbrev e125:InE:=⟨125,Tryz.f125,envG Tryz.prog gl0 [] [] [] noLp 0⟩
noncomputable abbrev e130:InE:=⟨130,Tryz.f130,envG Tryz.prog gl0 [] [] [] noLp 0⟩
noncomputable abbrev e128:InE:=⟨128,Tryz.f128,envG Tryz.prog gl0 [] [] [] noLp 0⟩
noncomputable abbrev e126 (Q:Int->Int->Int->Int->Int->Int->Prop) (R:Int->Int->Int->Int) (N:Int->Int->Int):InE:=⟨126,Tryz.f126,envG Tryz.prog gl0 [] [] [(140,bsC),(172,fdC Q R N)] noLp 0⟩
noncomputable abbrev e81 (Q:Int->Int->Int->Int->Int->Int->Prop) (R:Int->Int->Int->Int) (N:Int->Int->Int) (W:Int->Prop) (Q2:(Nat->Nat->DV)->Nat->Int->Prop) (P:ByteArray->Prop) (M:Row->Nat->ByteArray->Int->Int->Int->Row):InE :=
 ⟨81,Tryz.f81,envG Tryz.prog gl0 [] [e125,e126 Q R N,e130,e128] [(110,wonC W),(131,ptC Q2 P M)] noLp 0⟩
noncomputable abbrev e37 (Q:Int->Int->Int->Int->Int->Int->Prop) (R:Int->Int->Int->Int) (N:Int->Int->Int) (W:Int->Prop) (Q2:(Nat->Nat->DV)->Nat->Int->Prop) (P:ByteArray->Prop) (M:Row->Nat->ByteArray->Int->Int->Int->Row) (Q3:List DV->Prop) (Q4:Int->Int->Int->Prop):InE :=
 ⟨37,Tryz.f37,envG Tryz.prog gl0 [] [e81 Q R N W Q2 P M] [(80,vkC Q3),(82,mpC Q4)] noLp 0⟩
theorem wp_loop (w h n:Nat) (r c:Int) (p:Bool) (T:Nat->Bool) (B:DV) (z:Nat->Int) (i:Nat) (Y:Nat->Row) (b1 b5 b7:DBlk) (Q:Int->Int->Int->Int->Int->Int->Prop) (R:Int->Int->Int->Int) (N:Int->Int->Int) (W:Int->Prop) (Q2:(Nat->Nat->DV)->Nat->Int->Prop) (P:ByteArray->Prop) (M:Row->Nat->ByteArray->Int->Int->Int->Row) (Q3:List DV->Prop) (Q4:Int->Int->Int->Prop) (K:Ex->Nat->List DV->List DV->DHeap->Option Unit):execD Tryz.prog (envG Tryz.prog gl0 [] [e37 Q R N W Q2 P M Q3 Q4] [] noLp 0) (loopAt Tryz.f14 250) 500 (temps 47 [4,5,6,28,29,30] [.po 1 0 0,.po 6 0 0,.po 7 0 0,.sl false (fun i f=>(evP (z i)).getD f .any) 7 n,iv n,iv i]) [none,some b1,none,none,some ⟨1,.tab h (rowsD (fun _=>false) Y)⟩,some b5,some ⟨42,.lst [mcL w h r c p T B]⟩,some b7] (fun e τ σ=>K e τ.length (pick [4,5,6,28,29,30] τ) (pick [4,5,6] τ) σ) =
  bif decide ((i:Int)<(n:Int)) then bif decide ((i:Int)<(n:Int)) then bif decide (tN i<n) then bif decide (tN i<n) then bif decide (tN i<n) then bif decide (tN i<n) then bif decide (tN i<n)
  then bif decide (tN i<n) then bif decide (tN i<n) then bif holds (Q3 (evP (z (tN i)))) then bif holds (Q4 66 66 0) then bif holds (W (z (tN i))) then bif decide (1 > (w:Int)) then K .normal 47 [.po 1 0 0,.po 6 0 0,.po 7 0 0,.sl false (fun i f=>List.getD (evP (z i)) f DV.any) 7 n,iv (n:Int),iv (IntKind.wrap .i64 ((i:Int)+1))] [.po 1 0 0,.po 6 0 0,.po 7 0 0] [none,some b1,none,none,some ⟨1,.tab h (rowsD (fun _=>false) Y)⟩,some b5,some ⟨42,.lst [(mcL w h r c p T B)]⟩,some b7,some ⟨7,updF (.lst [[iv 0,kv .i32 0,kv .u8 0,kv .u8 0,sv ⟨#[]⟩,DV.v (Value.slice none 0 0),sv ⟨#[]⟩]]) 0 (evP (z (tN i)))⟩,some ⟨7,.lst [(evP (z (tN i)))]⟩]
  else bif p then bif holds (Q r 0 (w:Int) (h:Int) 0 (h:Int)) then bif decide (N (h:Int) r > 0) then none else bif decide (1 > (w:Int)) then bif holds (Q (R (h:Int) (h:Int) r) 0 (w:Int) (h:Int) 0 (h:Int))
  then bif decide (N (h:Int) (R (h:Int) (h:Int) r) > 0) then none else bif decide (0<=R (h:Int) (h:Int) (R (h:Int) (h:Int) r)) then bif decide (R (h:Int) (h:Int) (R (h:Int) (h:Int) r)<(h:Int))
  then bif decide (0+Int.toNat (R (h:Int) (h:Int) (R (h:Int) (h:Int) r))+0<h) then bif holds (Q2 (Row.cell (Y (0+Int.toNat (R (h:Int) (h:Int) (R (h:Int) (h:Int) r))+0))) (Row.n (Y (0+Int.toNat (R (h:Int) (h:Int) (R (h:Int) (h:Int) r))+0))) 0/\P (Utf8.encode (z (tN i))))
  then bif decide (0<Row.n (Y (0+Int.toNat (R (h:Int) (h:Int) (R (h:Int) (h:Int) r))+0))) then bif decide (0<Row.n (Y (0+Int.toNat (R (h:Int) (h:Int) (R (h:Int) (h:Int) r))+0)))
  then bif decide (0<=R (h:Int) (h:Int) (R (h:Int) (h:Int) r)) then bif decide (R (h:Int) (h:Int) (R (h:Int) (h:Int) r)<(h:Int)) then bif decide (0+Int.toNat (R (h:Int) (h:Int) (R (h:Int) (h:Int) r))+0<DC.n (.tab h (rowsD (fun _=>false) Y)))
  then bif 1==(w:Int) then K .normal 47 [.po 1 0 0,.po 6 0 0,.po 7 0 0,.sl false (fun i f=>List.getD (evP (z i)) f DV.any) 7 n,iv (n:Int),iv (IntKind.wrap .i64 ((i:Int)+1))] [.po 1 0 0,.po 6 0 0,.po 7 0 0] [none,some b1,none,none,some ⟨1,.upd (.tab h (rowsD (fun _=>false) Y)) (0+Int.toNat (R (h:Int) (h:Int) (R (h:Int) (h:Int) r))+0) 0 (.sl false (Row.cell (M (rowOf (Row.cell (Y (0+Int.toNat (R (h:Int) (h:Int) (R (h:Int) (h:Int) r))+0))) (Row.n (Y (0+Int.toNat (R (h:Int) (h:Int) (R (h:Int) (h:Int) r))+0)))) 0 (Utf8.encode (z (tN i))) (-1:Int) (-1:Int) 0)) 5 (Row.n (Y (0+Int.toNat (R (h:Int) (h:Int) (R (h:Int) (h:Int) r))+0))))⟩,some b5,some ⟨42,.upd (.upd (.upd (.upd (.upd (.upd (.upd (.upd (.upd (.upd (.upd (.upd (.upd (.upd (.lst [(mcL w h r c p T B)]) 0 7 (iv 0)) 0 8 (bv false)) 0 6 (iv (R (h:Int) (h:Int) r))) 0 7 (iv 0)) 0 8 (bv false)) 0 8 (bv false)) 0 7 (iv 0)) 0 8 (bv false)) 0 6 (iv (R (h:Int) (h:Int) (R (h:Int) (h:Int) r)))) 0 7 (iv 0)) 0 8 (bv false)) 0 7 (iv 1)) 0 7 (iv (IntKind.wrap .i64 ((w:Int)-1)))) 0 8 (bv true)⟩,some b7,some ⟨7,updF (.lst [[iv 0,kv .i32 0,kv .u8 0,kv .u8 0,sv ⟨#[]⟩,DV.v (Value.slice none 0 0),sv ⟨#[]⟩]]) 0 (evP (z (tN i)))⟩,some ⟨7,.lst [(evP (z (tN i)))]⟩,some ⟨3,updF (.lst [[iv 0,iv 0,bv false]]) 0 [iv (R (h:Int) (h:Int) r),iv 0,bv false]⟩,some ⟨3,updF (.lst [[iv 0,iv 0,bv false]]) 0 [iv (R (h:Int) (h:Int) (R (h:Int) (h:Int) r)),iv 0,bv false]⟩]
  else K .normal 47 [.po 1 0 0,.po 6 0 0,.po 7 0 0,.sl false (fun i f=>List.getD (evP (z i)) f DV.any) 7 n,iv (n:Int),iv (IntKind.wrap .i64 ((i:Int)+1))] [.po 1 0 0,.po 6 0 0,.po 7 0 0] [none,some b1,none,none,some ⟨1,.upd (.tab h (rowsD (fun _=>false) Y)) (0+Int.toNat (R (h:Int) (h:Int) (R (h:Int) (h:Int) r))+0) 0 (.sl false (Row.cell (M (rowOf (Row.cell (Y (0+Int.toNat (R (h:Int) (h:Int) (R (h:Int) (h:Int) r))+0))) (Row.n (Y (0+Int.toNat (R (h:Int) (h:Int) (R (h:Int) (h:Int) r))+0)))) 0 (Utf8.encode (z (tN i))) (-1:Int) (-1:Int) 0)) 5 (Row.n (Y (0+Int.toNat (R (h:Int) (h:Int) (R (h:Int) (h:Int) r))+0))))⟩,some b5,some ⟨42,.upd (.upd (.upd (.upd (.upd (.upd (.upd (.upd (.upd (.upd (.upd (.upd (.lst [(mcL w h r c p T B)]) 0 7 (iv 0)) 0 8 (bv false)) 0 6 (iv (R (h:Int) (h:Int) r))) 0 7 (iv 0)) 0 8 (bv false)) 0 8 (bv false)) 0 7 (iv 0)) 0 8 (bv false)) 0 6 (iv (R (h:Int) (h:Int) (R (h:Int) (h:Int) r)))) 0 7 (iv 0)) 0 8 (bv false)) 0 7 (iv 1)⟩,some b7,some ⟨7,updF (.lst [[iv 0,kv .i32 0,kv .u8 0,kv .u8 0,sv ⟨#[]⟩,DV.v (Value.slice none 0 0),sv ⟨#[]⟩]]) 0 (evP (z (tN i)))⟩,some ⟨7,.lst [(evP (z (tN i)))]⟩,some ⟨3,updF (.lst [[iv 0,iv 0,bv false]]) 0 [iv (R (h:Int) (h:Int) r),iv 0,bv false]⟩,some ⟨3,updF (.lst [[iv 0,iv 0,bv false]]) 0 [iv (R (h:Int) (h:Int) (R (h:Int) (h:Int) r)),iv 0,bv false]⟩]
  else none else none else none else none else none else none else none else none else none else none else bif decide (0<=R (h:Int) (h:Int) r) then bif decide (R (h:Int) (h:Int) r<(h:Int))
  then bif decide (0+Int.toNat (R (h:Int) (h:Int) r)+0<h) then bif holds (Q2 (Row.cell (Y (0+Int.toNat (R (h:Int) (h:Int) r)+0))) (Row.n (Y (0+Int.toNat (R (h:Int) (h:Int) r)+0))) 0/\P (Utf8.encode (z (tN i))))
  then bif decide (0<Row.n (Y (0+Int.toNat (R (h:Int) (h:Int) r)+0))) then bif decide (0<Row.n (Y (0+Int.toNat (R (h:Int) (h:Int) r)+0))) then bif decide (0<=R (h:Int) (h:Int) r)
  then bif decide (R (h:Int) (h:Int) r<(h:Int)) then bif decide (0+Int.toNat (R (h:Int) (h:Int) r)+0<DC.n (.tab h (rowsD (fun _=>false) Y))) then bif 1==(w:Int) then K .normal 47 [.po 1 0 0,.po 6 0 0,.po 7 0 0,.sl false (fun i f=>List.getD (evP (z i)) f DV.any) 7 n,iv (n:Int),iv (IntKind.wrap .i64 ((i:Int)+1))] [.po 1 0 0,.po 6 0 0,.po 7 0 0] [none,some b1,none,none,some ⟨1,.upd (.tab h (rowsD (fun _=>false) Y)) (0+Int.toNat (R (h:Int) (h:Int) r)+0) 0 (.sl false (Row.cell (M (rowOf (Row.cell (Y (0+Int.toNat (R (h:Int) (h:Int) r)+0))) (Row.n (Y (0+Int.toNat (R (h:Int) (h:Int) r)+0)))) 0 (Utf8.encode (z (tN i))) (-1:Int) (-1:Int) 0)) 5 (Row.n (Y (0+Int.toNat (R (h:Int) (h:Int) r)+0))))⟩,some b5,some ⟨42,.upd (.upd (.upd (.upd (.upd (.upd (.upd (.upd (.upd (.lst [(mcL w h r c p T B)]) 0 7 (iv 0)) 0 8 (bv false)) 0 6 (iv (R (h:Int) (h:Int) r))) 0 7 (iv 0)) 0 8 (bv false)) 0 8 (bv false)) 0 7 (iv 1)) 0 7 (iv (IntKind.wrap .i64 ((w:Int)-1)))) 0 8 (bv true)⟩,some b7,some ⟨7,updF (.lst [[iv 0,kv .i32 0,kv .u8 0,kv .u8 0,sv ⟨#[]⟩,DV.v (Value.slice none 0 0),sv ⟨#[]⟩]]) 0 (evP (z (tN i)))⟩,some ⟨7,.lst [(evP (z (tN i)))]⟩,some ⟨3,updF (.lst [[iv 0,iv 0,bv false]]) 0 [iv (R (h:Int) (h:Int) r),iv 0,bv false]⟩]
  else K .normal 47 [.po 1 0 0,.po 6 0 0,.po 7 0 0,.sl false (fun i f=>List.getD (evP (z i)) f DV.any) 7 n,iv (n:Int),iv (IntKind.wrap .i64 ((i:Int)+1))] [.po 1 0 0,.po 6 0 0,.po 7 0 0] [none,some b1,none,none,some ⟨1,.upd (.tab h (rowsD (fun _=>false) Y)) (0+Int.toNat (R (h:Int) (h:Int) r)+0) 0 (.sl false (Row.cell (M (rowOf (Row.cell (Y (0+Int.toNat (R (h:Int) (h:Int) r)+0))) (Row.n (Y (0+Int.toNat (R (h:Int) (h:Int) r)+0)))) 0 (Utf8.encode (z (tN i))) (-1:Int) (-1:Int) 0)) 5 (Row.n (Y (0+Int.toNat (R (h:Int) (h:Int) r)+0))))⟩,some b5,some ⟨42,.upd (.upd (.upd (.upd (.upd (.upd (.upd (.lst [(mcL w h r c p T B)]) 0 7 (iv 0)) 0 8 (bv false)) 0 6 (iv (R (h:Int) (h:Int) r))) 0 7 (iv 0)) 0 8 (bv false)) 0 8 (bv false)) 0 7 (iv 1)⟩,some b7,some ⟨7,updF (.lst [[iv 0,kv .i32 0,kv .u8 0,kv .u8 0,sv ⟨#[]⟩,DV.v (Value.slice none 0 0),sv ⟨#[]⟩]]) 0 (evP (z (tN i)))⟩,some ⟨7,.lst [(evP (z (tN i)))]⟩,some ⟨3,updF (.lst [[iv 0,iv 0,bv false]]) 0 [iv (R (h:Int) (h:Int) r),iv 0,bv false]⟩]
  else none else none else none else none else none else none else none else none else none else none else bif decide (IntKind.wrap .i64 (c+1) > (w:Int)) then bif holds (Q r 0 (w:Int) (h:Int) 0 (h:Int))
  then bif decide (N (h:Int) r > 0) then none else bif decide (0<=R (h:Int) (h:Int) r) then bif decide (R (h:Int) (h:Int) r<(h:Int)) then bif decide (0+Int.toNat (R (h:Int) (h:Int) r)+0<h)
  then bif holds (Q2 (Row.cell (Y (0+Int.toNat (R (h:Int) (h:Int) r)+0))) (Row.n (Y (0+Int.toNat (R (h:Int) (h:Int) r)+0))) 0/\P (Utf8.encode (z (tN i)))) then bif decide (0<Row.n (Y (0+Int.toNat (R (h:Int) (h:Int) r)+0)))
  then bif decide (0<Row.n (Y (0+Int.toNat (R (h:Int) (h:Int) r)+0))) then bif decide (0<=R (h:Int) (h:Int) r) then bif decide (R (h:Int) (h:Int) r<(h:Int)) then bif decide (0+Int.toNat (R (h:Int) (h:Int) r)+0<DC.n (.tab h (rowsD (fun _=>false) Y)))
  then bif 1==(w:Int) then K .normal 47 [.po 1 0 0,.po 6 0 0,.po 7 0 0,.sl false (fun i f=>List.getD (evP (z i)) f DV.any) 7 n,iv (n:Int),iv (IntKind.wrap .i64 ((i:Int)+1))] [.po 1 0 0,.po 6 0 0,.po 7 0 0] [none,some b1,none,none,some ⟨1,.upd (.tab h (rowsD (fun _=>false) Y)) (0+Int.toNat (R (h:Int) (h:Int) r)+0) 0 (.sl false (Row.cell (M (rowOf (Row.cell (Y (0+Int.toNat (R (h:Int) (h:Int) r)+0))) (Row.n (Y (0+Int.toNat (R (h:Int) (h:Int) r)+0)))) 0 (Utf8.encode (z (tN i))) (-1:Int) (-1:Int) 0)) 5 (Row.n (Y (0+Int.toNat (R (h:Int) (h:Int) r)+0))))⟩,some b5,some ⟨42,.upd (.upd (.upd (.upd (.upd (.upd (.upd (.upd (.upd (.lst [(mcL w h r c p T B)]) 0 8 (bv false)) 0 7 (iv 0)) 0 8 (bv false)) 0 6 (iv (R (h:Int) (h:Int) r))) 0 7 (iv 0)) 0 8 (bv false)) 0 7 (iv 1)) 0 7 (iv (IntKind.wrap .i64 ((w:Int)-1)))) 0 8 (bv true)⟩,some b7,some ⟨7,updF (.lst [[iv 0,kv .i32 0,kv .u8 0,kv .u8 0,sv ⟨#[]⟩,DV.v (Value.slice none 0 0),sv ⟨#[]⟩]]) 0 (evP (z (tN i)))⟩,some ⟨7,.lst [(evP (z (tN i)))]⟩,some ⟨3,updF (.lst [[iv 0,iv 0,bv false]]) 0 [iv (R (h:Int) (h:Int) r),iv 0,bv false]⟩]
  else K .normal 47 [.po 1 0 0,.po 6 0 0,.po 7 0 0,.sl false (fun i f=>List.getD (evP (z i)) f DV.any) 7 n,iv (n:Int),iv (IntKind.wrap .i64 ((i:Int)+1))] [.po 1 0 0,.po 6 0 0,.po 7 0 0] [none,some b1,none,none,some ⟨1,.upd (.tab h (rowsD (fun _=>false) Y)) (0+Int.toNat (R (h:Int) (h:Int) r)+0) 0 (.sl false (Row.cell (M (rowOf (Row.cell (Y (0+Int.toNat (R (h:Int) (h:Int) r)+0))) (Row.n (Y (0+Int.toNat (R (h:Int) (h:Int) r)+0)))) 0 (Utf8.encode (z (tN i))) (-1:Int) (-1:Int) 0)) 5 (Row.n (Y (0+Int.toNat (R (h:Int) (h:Int) r)+0))))⟩,some b5,some ⟨42,.upd (.upd (.upd (.upd (.upd (.upd (.upd (.lst [(mcL w h r c p T B)]) 0 8 (bv false)) 0 7 (iv 0)) 0 8 (bv false)) 0 6 (iv (R (h:Int) (h:Int) r))) 0 7 (iv 0)) 0 8 (bv false)) 0 7 (iv 1)⟩,some b7,some ⟨7,updF (.lst [[iv 0,kv .i32 0,kv .u8 0,kv .u8 0,sv ⟨#[]⟩,DV.v (Value.slice none 0 0),sv ⟨#[]⟩]]) 0 (evP (z (tN i)))⟩,some ⟨7,.lst [(evP (z (tN i)))]⟩,some ⟨3,updF (.lst [[iv 0,iv 0,bv false]]) 0 [iv (R (h:Int) (h:Int) r),iv 0,bv false]⟩]
  else none else none else none else none else none else none else none else none else none else none else bif decide (0<=r) then bif decide (r<(h:Int)) then bif decide (0+Int.toNat r+0<h)
  then bif holds (Q2 (Row.cell (Y (0+Int.toNat r+0))) (Row.n (Y (0+Int.toNat r+0))) c/\P (Utf8.encode (z (tN i)))) then bif decide (0<Row.n (Y (0+Int.toNat r+0))) then bif decide (0<Row.n (Y (0+Int.toNat r+0)))
  then bif decide (0<=r) then bif decide (r<(h:Int)) then bif decide (0+Int.toNat r+0<DC.n (.tab h (rowsD (fun _=>false) Y))) then bif IntKind.wrap .i64 (c+1)==(w:Int) then K .normal 47 [.po 1 0 0,.po 6 0 0,.po 7 0 0,.sl false (fun i f=>List.getD (evP (z i)) f DV.any) 7 n,iv (n:Int),iv (IntKind.wrap .i64 ((i:Int)+1))] [.po 1 0 0,.po 6 0 0,.po 7 0 0] [none,some b1,none,none,some ⟨1,.upd (.tab h (rowsD (fun _=>false) Y)) (0+Int.toNat r+0) 0 (.sl false (Row.cell (M (rowOf (Row.cell (Y (0+Int.toNat r+0))) (Row.n (Y (0+Int.toNat r+0)))) (Int.toNat c) (Utf8.encode (z (tN i))) (-1:Int) (-1:Int) 0)) 5 (Row.n (Y (0+Int.toNat r+0))))⟩,some b5,some ⟨42,.upd (.upd (.upd (.upd (.lst [(mcL w h r c p T B)]) 0 8 (bv false)) 0 7 (iv (IntKind.wrap .i64 (c+1)))) 0 7 (iv (IntKind.wrap .i64 ((w:Int)-1)))) 0 8 (bv true)⟩,some b7,some ⟨7,updF (.lst [[iv 0,kv .i32 0,kv .u8 0,kv .u8 0,sv ⟨#[]⟩,DV.v (Value.slice none 0 0),sv ⟨#[]⟩]]) 0 (evP (z (tN i)))⟩,some ⟨7,.lst [(evP (z (tN i)))]⟩]
  else K .normal 47 [.po 1 0 0,.po 6 0 0,.po 7 0 0,.sl false (fun i f=>List.getD (evP (z i)) f DV.any) 7 n,iv (n:Int),iv (IntKind.wrap .i64 ((i:Int)+1))] [.po 1 0 0,.po 6 0 0,.po 7 0 0] [none,some b1,none,none,some ⟨1,.upd (.tab h (rowsD (fun _=>false) Y)) (0+Int.toNat r+0) 0 (.sl false (Row.cell (M (rowOf (Row.cell (Y (0+Int.toNat r+0))) (Row.n (Y (0+Int.toNat r+0)))) (Int.toNat c) (Utf8.encode (z (tN i))) (-1:Int) (-1:Int) 0)) 5 (Row.n (Y (0+Int.toNat r+0))))⟩,some b5,some ⟨42,.upd (.upd (.lst [(mcL w h r c p T B)]) 0 8 (bv false)) 0 7 (iv (IntKind.wrap .i64 (c+1)))⟩,some b7,some ⟨7,updF (.lst [[iv 0,kv .i32 0,kv .u8 0,kv .u8 0,sv ⟨#[]⟩,DV.v (Value.slice none 0 0),sv ⟨#[]⟩]]) 0 (evP (z (tN i)))⟩,some ⟨7,.lst [(evP (z (tN i)))]⟩]
  else none else none else none else none else none else none else none else none else none else none else none else none else none else none else none else none else none else none else none else none
  else K (.exit 0) 47 [.po 1 0 0,.po 6 0 0,.po 7 0 0,.sl false (fun i f=>List.getD (evP (z i)) f DV.any) 7 n,iv (n:Int),iv (i:Int)] [.po 1 0 0,.po 6 0 0,.po 7 0 0] [none,some b1,none,none,some ⟨1,.tab h (rowsD (fun _=>false) Y)⟩,some b5,some ⟨42,.lst [(mcL w h r c p T B)]⟩,some b7]:=by
 kernel_rfl
end Go.Proofs.YtigmkgampfbflaaGreatDoor
namespace Go.Proofs.YtigmkgampfbflaaGreatDoor
open Go Go.AE Go.DE Go.RowKit
def prnQ (b:Int):Prop:=32<=b/\b<127
def encOk (n:Nat):Bool:=decide (ccF (Utf8.encode ((n:Int)+32))=0)&&(decide (cdF (Utf8.encode ((n:Int)+32))=1)&&((Utf8.encode ((n:Int)+32)).data.toList==[UInt8.ofNat (n+32)]))
set_option maxRecDepth 100000 in
theorem enc_all:(List.range 95).all encOk=true:=by kernel_rfl
theorem enc_of {b:Int}(h:prnQ b):encOk (b-32).toNat=true:=List.all_eq_true.1 enc_all _ (List.mem_range.2 (by obtain ⟨h1,h2⟩:=h; omega))
theorem enc_list {b:Int}(h:prnQ b):(Utf8.encode b).data.toList=[UInt8.ofNat b.toNat]:=by
 have e:=enc_of h;unfold encOk at e;obtain ⟨h1,h2⟩:=h
 rw [show (((b-32).toNat:Nat):Int)+32=b by omega,show (b-32).toNat+32=b.toNat by omega] at e
 simp only [Bool.and_eq_true,decide_eq_true_eq,beq_iff_eq] at e;exact e.2.2
theorem enc_one {b:Int}(h:prnQ b):oneC (Utf8.encode b):=by
 have e:=enc_of h;have hl:=enc_list h;unfold encOk at e;obtain ⟨h1,h2⟩:=h
 rw [show (((b-32).toNat:Nat):Int)+32=b by omega] at e
 simp only [Bool.and_eq_true,decide_eq_true_eq] at e;refine ⟨?_,e.1,e.2.1⟩
 have:(Utf8.encode b).size=1:=by
  show (Utf8.encode b).data.size=1;rw [<- Array.length_toList,hl];rfl
 omega
def cwOk (n:Nat):Bool:=decide (cwF ((n:Int)+32)=1)
set_option maxRecDepth 100000 in
theorem cw_all:(List.range 95).all cwOk=true:=by kernel_rfl
theorem won_cw {b:Int}(h:prnQ b):cwF b=1:=by
 have e:cwOk (b-32).toNat=true:=List.all_eq_true.1 cw_all _ (List.mem_range.2 (by obtain ⟨h1,h2⟩:=h; omega))
 unfold cwOk at e;obtain ⟨h1,h2⟩:=h
 rw [show (((b-32).toNat:Nat):Int)+32=b by omega] at e
 exact of_decide_eq_true e
def gRow (w:Nat) (r:Row):Prop:=r.n=w/\∀ i,i<w->r.wd i=1/\oneC (r.tx i)
theorem gRow.p7 {w:Nat}{r:Row}(h:gRow w r):∀ (m i:Nat),p7 ccF cdF r m i=0
 | 0,_=>rfl
 | m+1,i=>by
  rw [p7.eq_def]
  dsimp only
  by_cases hi:i<r.n
  ·rw [if_pos hi];obtain ⟨h1,h2,h3,h4⟩:=h.2 i (h.1 ▸ hi);unfold p7s;rw [h1,h3,h4];exact h.p7 m (i+1)
  ·rw [if_neg hi]
theorem gRow.rowF {w:Nat}{r:Row}(h:gRow w r) (h1:1<=w) (h2:w<=132):rowF r=0:=by
 unfold Go.Proofs.YtigmkgampfbflaaGreatDoor.rowF;have e:=h.1
 rw [decide_eq_false (by omega),decide_eq_false (by omega)]
 exact h.p7 _ _
theorem gRow.sized {w:Nat}{r:Row}(h:gRow w r) (h2:w<=132):r.sized:=⟨by have:=h.1; omega,fun i hi=>(h.2 i (h.1 ▸ hi)).2.1⟩
theorem gRow.put {w:Nat}{r:Row}(h:gRow w r) {c:Nat}{s:ByteArray}(hs:oneC s) (fo ba fl:Int):gRow w (putR r c s fo ba fl):=⟨h.1,fun i hi=>by
 obtain ⟨h1,h2⟩:=h.2 i hi
 show (if i=c then 1 else r.wd i)=1/\oneC (if i=c then s else r.tx i)
 by_cases e:i=c
 ·rw [if_pos e,if_pos e]; exact ⟨rfl,hs⟩
 ·rw [if_neg e,if_neg e]; exact ⟨h1,h2⟩⟩
structure TS where
 R:Nat->Row
 r:Nat
 c:Nat
 p:Bool
def TS.row (x:TS):Nat:=bif x.p then x.r+1 else x.r
def TS.col (x:TS):Nat:=bif x.p then 0 else x.c
def stepT (w:Nat) (x:TS) (b:Int):TS :=
 ⟨fun j=>if j=x.row then putR (x.R x.row) x.col (Utf8.encode b) (-1) (-1) 0 else x.R j,x.row,if x.col+1=w then x.col else x.col+1,decide (x.col+1=w)⟩
def runT (w:Nat) (z:Nat->Int):Nat->TS->TS
 | 0,x=>x
 | i+1,x=>stepT w (runT w z i x) (z i)
structure TSok (w h:Nat) (x:TS):Prop where
 w1:1<=w
 w2:w<=30
 h1:1<=h
 h2:h<=30
 g:∀ j,j<h->gRow w (x.R j)
 r:x.r<h
 c:x.c<w
 q:x.p=true->x.c+1=w
def fits (h:Nat) (x:TS):Prop:=x.row<h
theorem TSok.col {w h:Nat}{x:TS}(k:TSok w h x):x.col<w:=by
 unfold TS.col
 cases x.p with
 | true=>exact k.w1
 | false=>exact k.c
theorem TSok.step {w h:Nat}{x:TS}(k:TSok w h x) (f:fits h x) {b:Int}(hb:prnQ b):TSok w h (stepT w x b):=by
 have hc:=k.col
 refine ⟨k.w1,k.w2,k.h1,k.h2,fun j hj=>?_,f,?_,fun e=>?_⟩
 ·show gRow w (if j=x.row then _ else _)
  by_cases e:j=x.row
  ·rw [if_pos e];exact (k.g _ f).put (enc_one hb) _ _ _
  ·rw [if_neg e];exact k.g j hj
 ·show (if x.col+1=w then x.col else x.col+1)<w
  split<;>omega
 ·have e:x.col+1=w:=of_decide_eq_true e
  show (if x.col+1=w then x.col else x.col+1)+1=w
  rw [if_pos e];exact e
theorem TSok.run {w h:Nat}{x:TS}(k:TSok w h x) {z:Nat->Int}:∀ {n:Nat},(∀ i,i<n->prnQ (z i))->(∀ i,i<n->fits h (runT w z i x))->TSok w h (runT w z n x)
 | 0,_,_=>k
 | n+1,hz,hf=>(k.run (n:=n) (fun i hi=>hz i (by omega)) fun i hi=>hf i (by omega)).step (hf n (by omega)) (hz n (by omega))
def TS.same (w h:Nat) (x y:TS):Prop:=x.r=y.r/\x.c=y.c/\x.p=y.p/\∀ j,j<h->(x.R j).n=(y.R j).n/\∀ k,k<w->(x.R j).tx k=(y.R j).tx k/\(x.R j).wd k=(y.R j).wd k/\(x.R j).fo k=(y.R j).fo k/\(x.R j).ba k=(y.R j).ba k/\(x.R j).fl k=(y.R j).fl k
end Go.Proofs.YtigmkgampfbflaaGreatDoor
namespace Go.Proofs.YtigmkgampfbflaaGreatDoor
open Go Go.AE Go.DE Go.RowKit
def finT (w:Nat) (z:Nat->Int):Nat->Nat->TS->TS
 | 0,_,x=>x
 | m+1,i,x=>finT w z m (i+1) (stepT w x (z i))
theorem fin_run {w:Nat}{z:Nat->Int}{x:TS}:∀ (m i:Nat),finT w z m i (runT w z i x)=runT w z (i+m) x
 | 0,_=>rfl
 | m+1,i=>by
  rw [finT,show stepT w (runT w z i x) (z i)=runT w z (i+1) x from rfl,fin_run m (i+1)]
  congr 1
  omega
structure WPX where
 w:Nat
 h:Nat
 n:Nat
 T:Nat->Bool
 B:DV
 O:Nat->Row
 z:Nat->Int
 i:Nat
 x:TS
def WPX.f (y:WPX):TS:=finT y.w y.z (y.n-y.i) y.i y.x
def zb1:DBlk:=⟨42,.lst [zeroL]⟩
def rwB (h:Nat) (R:Nat->Row):DBlk:=⟨1,.tab h (rowsD (fun _=>false) R)⟩
def mcB (w h:Nat) (x:TS) (T:Nat->Bool) (B:DV):DBlk:=⟨42,.lst [mcL w h x.r x.c x.p T B]⟩
def evZ (z:Nat->Int):Nat->Nat->DV:=fun i f=>(evP (z i)).getD f .any
structure WPX.ok (y:WPX):Prop where
 i:y.i<=y.n
 n:y.n<=9000000
 b:Clo y.B
 t:TSok y.w y.h y.x
 z:∀ j,j<y.n->prnQ (y.z j)
 f:∀ m,y.i+m<y.n->fits y.h (finT y.w y.z m y.i y.x)
def wpI:LInv WPX where
 pre:=WPX.ok
 m:=8
 n:=47
 ps:=[4,5,6,28,29,30]
 sd y:=[.po 1 0 0,.po 6 0 0,.po 7 0 0,.sl false (evZ y.z) 7 y.n,iv y.n,iv y.i]
 sh y:=[none,some zb1,none,none,some (rwB y.h y.x.R),some (rwB y.h y.O),some (mcB y.w y.h y.x y.T y.B),some prs0]
 meas y:=y.n-y.i
 e _:=.exit 0
 qs:=[4,5,6]
 od _:=[.po 1 0 0,.po 6 0 0,.po 7 0 0]
 oh y:=[none,some zb1,none,none,some (rwB y.h y.f.R),some (rwB y.h y.O),some (mcB y.w y.h y.f y.T y.B),some prs0]
 guess ds σ:=match ds,σ with
  | [_,_,_,.sl _ g 7 n,_,_],[_,_,_,_,some b4,some b5,some b6,_]=>match b6.c.get 0 0,b6.c.get 0 1,b6.c.get 0 6,b6.c.get 0 7,b6.c.get 0 8,b6.c.get 0 35 with
   | .v (.int .i64 w),.v (.int .i64 h),.v (.int .i64 r),.v (.int .i64 c),.v (.bool p),.sl _ t 1 _=>some ⟨w.toNat,h.toNat,n,fun i=>boolD (t i 0),b6.c.get 0 36,fun i=>rowD (b5.c.get i 0),fun i=>numD (g i 1),0,⟨fun i=>rowD (b4.c.get i 0),r.toNat,c.toNat,p⟩⟩
   | _,_,_,_,_,_=>none
  | _,_=>none
 cps y k:=k (.exit 0) [.po 1 0 0,.po 6 0 0,.po 7 0 0] [none,some zb1,none,none,some (rwB y.h y.f.R),some (rwB y.h y.O),some (mcB y.w y.h y.f y.T y.B),some prs0]
theorem zb1_kb:KB zb1:=.lst (fun d hd=>by
 simp only [zeroL,List.mem_cons,List.not_mem_nil,or_false] at hd
 rcases hd with rfl | rfl | rfl | rfl | rfl | rfl | rfl | rfl | rfl | rfl | rfl | rfl | rfl | rfl | rfl | rfl | rfl | rfl | rfl | rfl | rfl | rfl | rfl | rfl | rfl | rfl | rfl | rfl | rfl | rfl | rfl | rfl | rfl | rfl | rfl | rfl | rfl | rfl | rfl | rfl | rfl | rfl<;>exact .v _) (Nat.le_refl _)
theorem rwB_sub {r:Nat->Option Nat}(h:Nat) (R:Nat->Row):SubC r (rwB h R) (rwB h R):=⟨rfl,Nat.le_refl _,trivial,fun i f hi hf=>.of_clo (.sl _ _ _ _)⟩
theorem mc_get (w h:Nat) (r c r2 c2:Int) (p p2:Bool) (T:Nat->Bool) (B:DV) (f:Nat) (h6:f≠6) (h7:f≠7) (h8:f≠8):(mcL w h r c p T B).getD f .any=(mcL w h r2 c2 p2 T B).getD f .any:=by
 match f with
 | 0 | 1 | 2 | 3 | 4 | 5=>rfl
 | 6=>exact absurd rfl h6
 | 7=>exact absurd rfl h7
 | 8=>exact absurd rfl h8
 | _+9=>rfl
theorem mc_clo {w h:Nat}{r c:Int}{p:Bool}{T:Nat->Bool}{B:DV}(hB:Clo B) (f:Nat) (hf:f<42) (h2:f≠2) (h5:f≠5):Clo ((mcL w h r c p T B).getD f .any):=by
 match f,hf with
 | 0,_ | 1,_ | 3,_ | 4,_ | 6,_ | 7,_ | 8,_ | 9,_ | 10,_ | 11,_ | 12,_ | 13,_ | 14,_ | 15,_ | 16,_ | 17,_ | 18,_ | 19,_ | 20,_ | 21,_ | 22,_ | 23,_ | 24,_ | 25,_ | 26,_ | 27,_ | 28,_ | 29,_ | 30,_ | 31,_ | 32,_ | 33,_ | 34,_=>exact .v _
 | 2,_=>exact absurd rfl h2
 | 5,_=>exact absurd rfl h5
 | 35,_=>exact .sl _ _ _ _
 | 36,_=>exact hB
 | 37,_ | 38,_ | 39,_ | 40,_ | 41,_=>exact .v _
 | f+42,hf=>exact absurd hf (by omega)
theorem mc_sub {r0:Nat->Option Nat}(q4:r0 4=some 4) (q5:r0 5=some 5) {w h:Nat}{r c r2 c2:Int}{p p2:Bool}{T:Nat->Bool}{B:DV}(hB:Clo B) {blk:DBlk}(hk:blk.k=42) (hn:1<=blk.c.n) (h6:blk.c.get 0 6=iv r2) (h7:blk.c.get 0 7=iv c2) (h8:blk.c.get 0 8=bv p2)
  (ho:∀ f,f≠6->f≠7->f≠8->blk.c.get 0 f=(mcL w h r c p T B).getD f .any):SubC r0 ⟨42,.lst [mcL w h r2 c2 p2 T B]⟩ blk:=⟨hk.symm,hn,trivial,fun i f hi hf=>by
 have hi:i<1:=hi
 obtain rfl:i=0:=by omega
 show Sub r0 ((mcL w h r2 c2 p2 T B).getD f .any) (blk.c.get 0 f)
 by_cases e6:f=6
 ·subst e6; rw [h6]; exact .v _
 by_cases e7:f=7
 ·subst e7; rw [h7]; exact .v _
 by_cases e8:f=8
 ·subst e8; rw [h8]; exact .v _
 rw [ho f e6 e7 e8,mc_get w h r c r2 c2 p p2 T B f e6 e7 e8]
 by_cases e2:f=2
 ·subst e2; exact .os q4
 by_cases e5:f=5
 ·subst e5; exact .os q5
 exact .of_clo (mc_clo hB f hf e2 e5)⟩
theorem rw_sub {r0:Nat->Option Nat}{h:Nat}{x:TS}{w:Nat}{b:Int}:SubC r0 (rwB h (stepT w x b).R) ⟨1,.upd (.tab h fun a _=>.sl false (x.R a).cell 5 (x.R a).n) x.row 0 (.sl false (putR (rowOf (x.R x.row).cell (x.R x.row).n) x.col (Utf8.encode b) (-1) (-1) 0).cell 5 (x.R x.row).n)⟩:=⟨rfl,Nat.le_refl _,trivial,fun j f hj hf=>by
 have hf:f<1:=hf
 obtain rfl:f=0:=by omega
 show Sub r0 (.sl false ((stepT w x b).R j).cell 5 ((stepT w x b).R j).n) (if j=x.row/\0=0 then .sl false (putR (rowOf (x.R x.row).cell (x.R x.row).n) x.col (Utf8.encode b) (-1) (-1) 0).cell 5 (x.R x.row).n else .sl false (x.R j).cell 5 (x.R j).n)
 by_cases e:j=x.row
 ·rw [if_pos ⟨e,rfl⟩];have e2:(stepT w x b).R j=putR (x.R x.row) x.col (Utf8.encode b) (-1) (-1) 0:=if_pos e;rw [e2];exact .of_clo (.sl _ _ _ _)
 ·rw [if_neg fun q=>e q.1]
  have e2:(stepT w x b).R j=x.R j:=if_neg e;rw [e2];exact .of_clo (.sl _ _ _ _)⟩
end Go.Proofs.YtigmkgampfbflaaGreatDoor
namespace Go.Proofs.YtigmkgampfbflaaGreatDoor
open Go Go.AE Go.DE Go.RowKit
noncomputable abbrev wpE:Env Unit:=envG Tryz.prog gl0 [] [e37 fdQ fdR fdN prnQ ptQ oneC putR evOk mpQ] [] noLp 0
theorem wonC_ok {st:AE.Stat}(hx:Hx st):ConOk Tryz.prog st 110 (wonC prnQ):=fun args k hk=>by
 unfold wonC at hk
 split at hk<;>first | (cases hk; done) | skip
 rename_i r;obtain ⟨hb,hk⟩:=bif_none hk;obtain ⟨h1,h2⟩:=holds_eq.1 hb;refine cwwC_ok hx [kv .i32 r] k ?_
 have e:cwF r=1:=by
  have h:=(enc_one ⟨h1,h2⟩).2.2;exact won_cw ⟨h1,h2⟩
 show k (fun _=>(iv (cwF r),[]))=some ()
 rw [e];exact hk
theorem inZ0 {st:AE.Stat}(hx:Hx st) {f:FuncId}{fn:Func}(hf:Tryz.prog.funcs[f]?=some fn) (hn:(fn.name== "runtime.NumGoroutine")=false) (hb:fn.body.isNone=false) (he:exA f=false) {hs:List InE}{l:List (FuncId×ConF)}(h:∀ e∈hs,InOkZ Tryz.prog st e) (hl:∀ x∈l,ConOkZ true Tryz.prog st x.1 x.2) :
  InOkZ Tryz.prog st ⟨f,fn,envG Tryz.prog gl0 [] hs l noLp 0⟩:=⟨hf,hn,hb,hx f he,envG_ok (fun _ h=>nomatch h) h hl,glOk st,(fun _ _ _ h=>nomatch h)⟩
theorem in37 {st:AE.Stat}(hx:Hx st) (hv:VdOk st):InOkZ Tryz.prog st (e37 fdQ fdR fdN prnQ ptQ oneC putR evOk mpQ):=by
 refine inZ0 hx Tryz.func37 (by kernel_rfl) (by kernel_rfl) rfl (one_inZ (inZ0 hx Tryz.func81 (by kernel_rfl) (by kernel_rfl) rfl (fun e he=>?_) fun x h=>?_)) fun x h=>?_
 ·simp only [List.mem_cons,List.not_mem_nil,or_false] at he
  rcases he with rfl | rfl | rfl | rfl
  ·exact inZ0 hx Tryz.func125 (by kernel_rfl) (by kernel_rfl) rfl (fun _ h=>nomatch h) (fun _ h=>nomatch h)
  ·refine inZ0 hx Tryz.func126 (by kernel_rfl) (by kernel_rfl) rfl (fun _ h=>nomatch h) (fun x h=>?_)
   simp only [List.mem_cons,List.not_mem_nil,or_false] at h
   rcases h with rfl | rfl
   ·exact (bsC_ok hx).z
   ·exact (fdC_ok hx).z
  ·exact inZ0 hx Tryz.func130 (by kernel_rfl) (by kernel_rfl) rfl (fun _ h=>nomatch h) (fun _ h=>nomatch h)
  ·exact inZ0 hx Tryz.func128 (by kernel_rfl) (by kernel_rfl) rfl (fun _ h=>nomatch h) (fun _ h=>nomatch h)
 ·simp only [List.mem_cons,List.not_mem_nil,or_false] at h
  rcases h with rfl | rfl
  ·exact (wonC_ok hx).z
  ·exact ptC_ok hx hv
 ·simp only [List.mem_cons,List.not_mem_nil,or_false] at h
  rcases h with rfl | rfl
  ·exact vkC_ok hx
  ·exact (mpC_ok hx).z
theorem wpE_ok {st:AE.Stat}(hx:Hx st) (hv:VdOk st):EnvOk Tryz.prog st wpE:=envG_ok (fun _ h=>nomatch h) (one_inZ (in37 hx hv)) (fun _ h=>nomatch h)
theorem upd_get {c:DC}{p q i f:Nat}{d:DV}(h:f≠q):(DC.upd c p q d).get i f=c.get i f:=by
 show (if i=p/\f=q then d else c.get i f)=_
 rw [if_neg fun e=>h e.2]
theorem fd_next {h r:Nat}(hf:r+1<h):fdR h h r=((r+1:Nat):Int)/\fdN h r=0:=by
 unfold fdR fdN
 rw [if_neg (by omega),if_pos (by omega),if_neg (by omega)]
 exact ⟨by omega,rfl⟩
theorem wp_ls {st:AE.Stat}(hx:Hx st) (hv:VdOk st):LoopSR true Tryz.prog st gl0 (.loop (loopAt Tryz.f14 250)) wpI.g:=by
 refine wpI.ok (E:=wpE) (p:=500) (wpE_ok hx hv) (glOk st).1 (fun _ _ _ h=>nomatch h) (fun x k h=>h) fun y hy=>?_
 obtain ⟨w,h,n,T,B,O,z,i,x⟩:=y;have hy:WPX.ok ⟨w,h,n,T,B,O,z,i,x⟩:=hy;obtain ⟨hi,hn,hB,ht,hz,hf⟩:=hy;have hi:i<=n:=hi;have hn:n<=9000000:=hn;have hB:Clo B:=hB;have ht:TSok w h x:=ht;have hz:∀ j,j<n->prnQ (z j):=hz;have hf:∀ m,i+m<n->fits h (finT w z m i x):=hf;have w1:=ht.w1;have w2:=ht.w2;have h1:=ht.h1;have h2:=ht.h2;refine (wp_loop w h n x.r x.c x.p T B z i x.R zb1 (rwB h O) prs0 fdQ fdR fdN prnQ ptQ oneC putR evOk mpQ _).trans ?_
 refine dS (fun hlt=>?_) fun hge=>?_
 ·have hlt:i<n:=by omega
  have hb:=hz i hlt
  have hF:fits h x:=hf 0 (by omega)
  have hr:WPX.f ⟨w,h,n,T,B,O,z,i+1,stepT w x (z i)⟩=WPX.f ⟨w,h,n,T,B,O,z,i,x⟩:=by
   have:n-i=(n-(i+1))+1:=by omega
   simp only [WPX.f,this,finT]
  have hok:WPX.ok ⟨w,h,n,T,B,O,z,i+1,stepT w x (z i)⟩:=⟨hlt,hn,hB,ht.step hF hb,hz,fun m hm=>by
   have hm:i+1+m<n:=hm
   exact hf (m+1) (by omega)⟩
  have hW:IntKind.i64.wrap ((i:Int)+1)=((i+1:Nat):Int):=by rw [W_in (by omega) (by omega)]; omega
  have next:∀ (bR bM:DBlk) (ext:DHeap),SubC (ren 8 []) (rwB h (stepT w x (z i)).R) bR->SubC (ren 8 []) (mcB w h (stepT w x (z i)) T B) bM ->
    wpI.ask ⟨w,h,n,T,B,O,z,i,x⟩ .normal 47 [.po 1 0 0,.po 6 0 0,.po 7 0 0,.sl false (evZ z) 7 n,iv n,iv ((i+1:Nat):Int)] [.po 1 0 0,.po 6 0 0,.po 7 0 0] (none :: some zb1 :: none :: none :: some bR :: some (rwB h O) :: some bM :: some prs0 :: ext)=some ():=fun bR bM ext hR hM=>by
   refine LInv.ask_of ⟨rfl,⟨w,h,n,T,B,O,z,i+1,stepT w x (z i)⟩,⟨rfl,rfl,by simp only [wpI,hr],hok⟩,by simp only [wpI]; omega,[],?_⟩
   exact .of (im:=[some 1,some 4,some 5,some 6,some 7]) (.cons (.po rfl) (.cons (.po rfl) (.cons (.po rfl) (.cons (.sl _ _ _ _) (.cons (.v _) (.cons (.v _) .nil)))))) rfl
    ⟨⟨1,_,rfl,rfl,zb1_kb.sub⟩,⟨4,_,rfl,rfl,hR⟩,⟨5,_,rfl,rfl,rwB_sub h O⟩,⟨6,_,rfl,rfl,hM⟩,⟨7,_,rfl,rfl,prs0_kb.sub⟩,trivial⟩ rfl (by decide)
  rw [hW];simp only [Int.toNat_natCast,Nat.add_zero,Nat.zero_add]
  refine dT (by omega) (dT hlt (dT hlt (dT hlt (dT hlt (dT hlt (dT hlt (dT hlt (hT (.inl ⟨z i,rfl,hb.1,hb.2⟩) (hT ⟨rfl,rfl,rfl⟩ (hT hb (dF (by omega) ?_)))))))))))
  have gr:=ht.g x.row hF
  have hrow:ptQ (x.R x.row).cell (x.R x.row).n x.col:=⟨Row.ok (gr.sized (by omega)),gr.rowF w1 (by omega),fun j hj=>by
   show (x.R x.row).wd j≠0;rw [(gr.2 j (gr.1 ▸ hj)).1]
   decide,by omega,by have:=ht.col; have:=gr.1; omega⟩
  have henc:=enc_one hb
  have hpos:0<(x.R x.row).n:=by have:=gr.1; omega
  have hb1:((mcL w h x.r x.c x.p T B).getD 6 .any)=iv x.r:=rfl
  cases hp:x.p with
  | true =>
   have er:x.row=x.r+1:=by unfold TS.row; rw [hp]; rfl
   have ec:x.col=0:=by unfold TS.col; rw [hp]; rfl
   rw [cond_true];rw [er] at hrow hpos gr;rw [ec] at hrow
   obtain ⟨eR,eN⟩:=fd_next (h:=h) (r:=x.r) (by rw [<- er]; exact hF)
   rw [eN]
   have hF':x.r+1<h:=by rw [<- er]; exact hF
   refine hT ⟨⟨by omega,by omega,by omega,by omega⟩,by omega,by omega,by omega,by omega,by omega,by omega,by omega⟩ (dF (by omega) (dF (by omega) ?_))
   rw [eR];simp only [Int.toNat_natCast,Nat.add_zero,Nat.zero_add]
   refine dT (by omega) (dT (by omega) (dT hF' (hT ⟨hrow,henc⟩ (dT hpos (dT hpos (dT (by omega) (dT (by omega) (dT hF' ?_))))))))
   have hRs:=rw_sub (r0:=ren 8 []) (h:=h) (x:=x) (w:=w) (b:=z i);rw [er,ec] at hRs;have s6:(stepT w x (z i)).r=x.r+1:=er
   refine cS (fun e1=>next _ _ _ hRs (mc_sub (r:=x.r) (c:=x.c) (p:=true) (r0:=ren 8 []) rfl rfl hB rfl (Nat.le_refl _) ?_ ?_ ?_ fun f h6 h7 h8=>?_)) fun e1=>next _ _ _ hRs (mc_sub (r:=x.r) (c:=x.c) (p:=true) (r0:=ren 8 []) rfl rfl hB rfl (Nat.le_refl _) ?_ ?_ ?_ fun f h6 h7 h8=>?_)
   ·rw [s6]; rfl
   ·have e1:(1:Int)=w:=by simpa using e1
    have s7:(stepT w x (z i)).c=0:=by
     show (if x.col+1=w then x.col else x.col+1)=0
     rw [ec,if_pos (by omega)]
    rw [s7];show iv (IntKind.i64.wrap ((w:Int)-1))=iv ((0:Nat):Int)
    rw [W_in (by omega) (by omega),<- e1]
    rfl
   ·have e1:(1:Int)=w:=by simpa using e1
    have s8:(stepT w x (z i)).p=true:=by
     show decide (x.col+1=w)=true;rw [ec]
     exact decide_eq_true (by omega)
    rw [s8];rfl
   ·repeat (first | refine (upd_get h6).trans ?_ | refine (upd_get h7).trans ?_ | refine (upd_get h8).trans ?_)
    rfl
   ·rw [s6]; rfl
   ·have e1:(1:Int)≠w:=by simpa using e1
    have s7:(stepT w x (z i)).c=1:=by
     show (if x.col+1=w then x.col else x.col+1)=1
     rw [ec,if_neg (by omega)]
    rw [s7];rfl
   ·have e1:(1:Int)≠w:=by simpa using e1
    have s8:(stepT w x (z i)).p=false:=by
     show decide (x.col+1=w)=false;rw [ec]
     exact decide_eq_false (by omega)
    rw [s8];rfl
   ·repeat (first | refine (upd_get h6).trans ?_ | refine (upd_get h7).trans ?_ | refine (upd_get h8).trans ?_)
    rfl
  | false =>
   have er:x.row=x.r:=by unfold TS.row; rw [hp]; rfl
   have ec:x.col=x.c:=by unfold TS.col; rw [hp]; rfl
   rw [cond_false];rw [er] at hrow hpos gr;rw [ec] at hrow;have hF':x.r<h:=ht.r;have hc:=ht.c
   have eW:IntKind.i64.wrap ((x.c:Int)+1)=((x.c+1:Nat):Int):=by rw [W_in (by omega) (by omega)]; omega
   rw [eW]
   refine dF (by omega) (dT (by omega) (dT (by omega) (dT hF' (hT ⟨hrow,henc⟩ (dT hpos (dT hpos (dT (by omega) (dT (by omega) (dT hF' ?_)))))))))
   have hRs:=rw_sub (r0:=ren 8 []) (h:=h) (x:=x) (w:=w) (b:=z i);rw [er,ec] at hRs;have s6:(stepT w x (z i)).r=x.r:=er
   refine cS (fun e1=>next _ _ _ hRs (mc_sub (r:=x.r) (c:=x.c) (p:=false) (r0:=ren 8 []) rfl rfl hB rfl (Nat.le_refl _) ?_ ?_ ?_ fun f h6 h7 h8=>?_)) fun e1=>next _ _ _ hRs (mc_sub (r:=x.r) (c:=x.c) (p:=false) (r0:=ren 8 []) rfl rfl hB rfl (Nat.le_refl _) ?_ ?_ ?_ fun f h6 h7 h8=>?_)
   ·rw [s6]; rfl
   ·have e1:((x.c+1:Nat):Int)=w:=by simpa using e1
    have s7:(stepT w x (z i)).c=x.c:=by
     show (if x.col+1=w then x.col else x.col+1)=x.c
     rw [ec,if_pos (by omega)]
    rw [s7];show iv (IntKind.i64.wrap ((w:Int)-1))=iv (x.c:Int)
    rw [W_in (by omega) (by omega),show (w:Int)-1=x.c by omega]
   ·have e1:((x.c+1:Nat):Int)=w:=by simpa using e1
    have s8:(stepT w x (z i)).p=true:=by
     show decide (x.col+1=w)=true;rw [ec]
     exact decide_eq_true (by omega)
    rw [s8];rfl
   ·repeat (first | refine (upd_get h6).trans ?_ | refine (upd_get h7).trans ?_ | refine (upd_get h8).trans ?_)
    rfl
   ·rw [s6]; rfl
   ·have e1:((x.c+1:Nat):Int)≠w:=by simpa using e1
    have s7:(stepT w x (z i)).c=x.c+1:=by
     show (if x.col+1=w then x.col else x.col+1)=x.c+1
     rw [ec,if_neg (by omega)]
    rw [s7];rfl
   ·have e1:((x.c+1:Nat):Int)≠w:=by simpa using e1
    have s8:(stepT w x (z i)).p=false:=by
     show decide (x.col+1=w)=false;rw [ec]
     exact decide_eq_false (by omega)
    rw [s8];rfl
   ·repeat (first | refine (upd_get h6).trans ?_ | refine (upd_get h7).trans ?_ | refine (upd_get h8).trans ?_)
    rfl
 ·obtain rfl:n=i:=by omega
  have e0:WPX.f ⟨w,h,n,T,B,O,z,n,x⟩=x:=by simp only [WPX.f,Nat.sub_self,finT]
  refine LInv.ask_of ⟨rfl,rfl,[],?_⟩;simp only [wpI,e0]
  exact .of (im:=[some 1,some 4,some 5,some 6,some 7]) (.cons (.po rfl) (.cons (.po rfl) (.cons (.po rfl) .nil))) rfl
   ⟨⟨1,_,rfl,rfl,zb1_kb.sub⟩,⟨4,_,rfl,rfl,rwB_sub h x.R⟩,⟨5,_,rfl,rfl,rwB_sub h O⟩,⟨6,_,rfl,rfl,mc_sub (r:=x.r) (c:=x.c) (p:=x.p) (r0:=ren 8 []) rfl rfl hB rfl (Nat.le_refl _) rfl rfl rfl fun f _ _ _=>rfl⟩,⟨7,_,rfl,rfl,prs0_kb.sub⟩,trivial⟩ rfl (by decide)
end Go.Proofs.YtigmkgampfbflaaGreatDoor
namespace Go.Proofs.YtigmkgampfbflaaGreatDoor
open Go Go.AE Go.DE Go.RowKit
structure WS where
 w:Nat
 h:Nat
 x:TS
 O:Nat->Row
 T:Nat->Bool
def WS.cells (y:WS):List DV:=[iv y.w,iv y.h,.sl false (rowsD (fun _=>false) y.x.R) 1 y.h,iv y.w,iv y.h,.sl false (rowsD (fun _=>false) y.O) 1 y.h,iv y.x.r,iv y.x.c,bv y.x.p,iv 0,iv 0,bv false,iv (-1),iv (-1),iv 0,bv false,kv .u8 66,kv .u8 66,iv 0,iv (-1),iv (-1),iv 0,
 bv false,bv false,bv false,bv false,bv true,bv true,bv false,bv false,kv .u8 66,kv .u8 66,iv 0,iv 0,iv y.h,.sl false (tabsD y.T) 1 y.w,nilS,iv 0,evB,evB,evB,evB]
noncomputable def roO (Q:(Nat->Nat->DV)->Nat->Prop):ConF:=fun args k=>match args with
 | [.sl _ G 1 n]=>bif holds (Q G n) then k (fun b=>(.os b 0 n,[some ⟨1,.tab n (rowsD (fun _=>false) fun i=>rowD (G i 0))⟩])) else none
 | [.v (.slice none 0 0)]=>k (fun _=>(nilS,[]))
 | _=>none
theorem rn_tree (k:DV->Option Unit):bodyD Tryz.prog (envZ [(115,inl2 Tryz.prog (env [] noLp 0) Tryz.f115)] noLp 1) Tryz.f76 [nilS] [] (fun d _=>k d) =
  k (DV.v (Value.slice none 0 0)):=by
 kernel_rfl
noncomputable def feN (Q:ByteArray->ByteArray->ByteArray->Prop):ConF:=fun args k=>match args with
 | [.agg [.v (.int .i64 0),.v (.string p),.v (.string b)],.v (.string s)]=>bif holds (Q p b s) then k (fun _=>(.tup [.agg [iv 0,sv ⟨#[]⟩,sv ⟨#[]⟩],nilS],[])) else none
 | _=>none
end Go.Proofs.YtigmkgampfbflaaGreatDoor
