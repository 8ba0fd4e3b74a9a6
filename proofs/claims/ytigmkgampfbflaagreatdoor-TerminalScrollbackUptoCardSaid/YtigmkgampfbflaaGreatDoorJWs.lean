/-
 The contract of Write: characters of one column,while nothing is scrolled,from a terminal on that is as a new one but for cursor and rows.
 Conditions: none beyond those of the contracts.
-/
import Derived.Test.YtigmkgampfbflaaGreatDoorJTck
import Derived.Test.YtigmkgampfbflaaGreatDoorJPgc
import Derived.Test.YtigmkgampfbflaaGreatDoorJRc
import Derived.Test.YtigmkgampfbflaaGreatDoorDeLst
namespace Go.Proofs.YtigmkgampfbflaaGreatDoor
open Go Go.AE Go.DE Go.RowKit
theorem con_cvL {z:Bool}{P:Program}{st:AE.Stat}{f:FuncId}{F G:ConF}(h:ConOkZ z P st f G) (hl:∀ args k,F args k=some ()->∃ args',CvL args args'/\G args' k=some ()):ConOkZ z P st f F:=fun args k hk s C σ vs hS ha=>by
 obtain ⟨args',hc,hk2⟩:=hl args k hk;exact h args' k hk2 s C σ vs hS (hc.drl ha)
def rowsOn (G:Nat->Nat->DV) (n:Nat):Prop:=rowsGo G n/\0<n
theorem rn0_ok {st:AE.Stat}(hx:Hx st):ConOk Tryz.prog st 115 (inl2 Tryz.prog (env [] noLp 0) Tryz.f115):=inl2_ok Tryz.func115 (by kernel_rfl) (by kernel_rfl) (hx 115 rfl) (glOk st) (tblD_env (l:=[]) fun _ h=>nomatch h) (fun _ _ _ h=>nomatch h)
theorem roO_ok {st:AE.Stat}(hx:Hx st):ConOkZ true Tryz.prog st 76 (roO rowsOn):=by
 intro args k hk;unfold roO at hk
 split at hk<;>first | (cases hk; done) | skip
 ·rename_i t G n;obtain ⟨hb,hk0⟩:=bif_none hk;clear hk;obtain ⟨⟨⟨hn,hG⟩,hF⟩,hp⟩:=holds_eq.1 hb
  refine con_ofZ (F:=fun a k'=>bif holds (a=[.sl t G 1 n]) then k' (fun b=>(.os b 0 n,[some ⟨1,.tab n (rowsD (fun _=>false) fun i=>rowD (G i 0))⟩])) else none) (mg:=[]) (l:=[(115,crC rowsAreP)]) (lp:=lpOf [(58,roI.g)]) (n:=0) (glOk st) (fun x h=>?_) Tryz.func76 (by kernel_rfl) (by kernel_rfl) (hx 76 rfl) (lp_in (c0:=.loop (loopAt Tryz.f76 58)) (by kernel_rfl) (ro_ls hx)) (fun args k hk2=>?_) _ k (hT rfl hk0)
  ·simp only [List.mem_cons,List.not_mem_nil,or_false] at h;subst h;exact crC_ok hx
  obtain ⟨e,hk3⟩:=bif_none hk2;obtain rfl:=holds_eq.1 e
  have ha:rowsAreP (rowsD (fun i=>slT (G i 0)) fun i=>rowD (G i 0)) n:=⟨⟨hn,fun i hi=>isRow_of (hG i hi).1.2.row⟩,hp,hF⟩
  refine ⟨[.sl t (rowsD (fun i=>slT (G i 0)) fun i=>rowD (G i 0)) 1 n],_,.cons (rows_cv fun i hi=>(hG i hi).1) .nil,hk3,fun b=>⟨⟨.os _ _ _,fun id blk hb2 i f hi _=>?_⟩,(rb_tree t rowsAreP (fun i=>slT (G i 0)) (fun i=>rowD (G i 0)) n _).trans (hT ha (hT ⟨⟨Nat.zero_le _,hn,fun i hi=>⟨(hG i hi).1.2.row,(hG i hi).2⟩⟩,[],.of (im:=[some 0]) (.cons (.os rfl) (.cons (.v _) (.cons (.v _) .nil))) rfl ⟨⟨0,_,rfl,rfl,rfl,Nat.le_refl _,trivial,fun j f hj hf=>.of_clo (.sl _ _ _ _)⟩,trivial⟩ rfl (by decide)⟩ (fin_of ?_)))⟩⟩
  ·cases id with
   | succ id=>simp at hb2
   | zero =>
    obtain rfl:(⟨1,.tab n (rowsD (fun _=>false) fun i=>rowD (G i 0))⟩:DBlk)=blk:=Option.some.inj (Option.some.inj hb2)
    show Low (.sl false _ _ _)
    exact .sl fun j g _ _=>row_low _ _ _
  ·refine finQ_own (id:=0) (blk:=⟨1,.tab n (rowsD (upR (fun i=>slT (G i 0)) n) fun i=>rowD (G i 0))⟩) rfl rfl rfl (Nat.le_refl _) trivial fun i f hi hf=>⟨.sl _ _ _ _,?_⟩
   have hi:i<n:=hi;show DV.sl (upR _ n i) _ _ _=.sl false _ _ _;unfold upR;rw [if_pos hi]
 ·exact con_flatZ (F:=fun a k'=>bif holds (a=[nilS]) then k' (fun _=>(nilS,[])) else none) (mg:=[]) (l:=[(115,inl2 Tryz.prog (env [] noLp 0) Tryz.f115)]) (lp:=noLp) (n:=1) (glOk st) (fun x h=>by
   simp only [List.mem_cons,List.not_mem_nil,or_false] at h;subst h
   exact (rn0_ok hx).z) Tryz.func76 (by kernel_rfl) (by kernel_rfl) (hx 76 rfl) (fun _ _ _ h=>nomatch h) (fun args k hk2=>by
   obtain ⟨e,hk3⟩:=bif_none hk2;obtain rfl:=holds_eq.1 e;exact ⟨_,_,.self .nil,v_clo _,hk3,(rn_tree _).trans (isD_of rfl)⟩) _ k (hT rfl hk)
def tckW (l:List DV):Prop:=∃ l',CvL l l'/\tckQ l'
theorem tcW_ok {st:AE.Stat}(hx:Hx st) (hv:VdOk st):ConOk Tryz.prog st 11 (tcC tckW):=con_cvL (tcC_ok hx hv) fun args k hk=>by
 unfold tcC at hk
 split at hk<;>first | (cases hk; done) | skip
 rename_i l;obtain ⟨hb,hk⟩:=bif_none hk;obtain ⟨l',hc,hq⟩:=holds_eq.1 hb
 exact ⟨[.agg l'],.cons (fun C μ v hv=>by
  cases hv with
  | agg _ vs h1 h2 =>
   have:=hc.drl (C:=C) (μ:=μ) (vs:=vs.toList) ⟨by simpa using h1,fun i d x hd hx=>h2 i d x hd (by simpa using hx)⟩
   exact .agg _ vs (by simpa using this.1) fun i d x hd hx=>this.2 i d x hd (by simpa using hx)) .nil,hT hq hk⟩
theorem cvl_at:∀ {ds es:List DV},ds.length=es.length->(∀ i,i<es.length->Cv (ds.getD i .any) (es.getD i .any))->CvL ds es
 | [],[],_,_=>.nil
 | d :: ds,e :: es,hl,h=>.cons (h 0 (Nat.zero_lt_succ _)) (cvl_at (by simpa using hl) fun i hi=>h (i+1) (by simpa using hi))
structure WS.ok (y:WS):Prop where
 t:TSok y.w y.h y.x
 o:∀ j,j<y.h->gRow y.w (y.O j)
def WS.tm (y:WS):Tm:=tmOf ((y.cells.set 36 (.sl false (rowsD (fun _=>false) fun _=>blkRow 0) 1 0)))
theorem WS.cv (y:WS):CvL y.cells (y.cells.set 36 (.sl false (rowsD (fun _=>false) fun _=>blkRow 0) 1 0)):=cvl_at rfl fun i hi=>by
 have hi:i<42:=hi
 by_cases h:i=36
 ·subst h;exact nil_sl
 ·have e:(y.cells.set 36 (.sl false (rowsD (fun _=>false) fun _=>blkRow 0) 1 0)).getD i .any=y.cells.getD i .any:=by
   rw [List.getD_eq_getElem?_getD,List.getD_eq_getElem?_getD,List.getElem?_set]
   rw [if_neg (fun e=>h e.symm)]
  rw [e]
  exact fun _ _ _ h=>h
theorem WS.tck {y:WS}(k:y.ok):tckW y.cells:=by
 have t:=k.t;have hw:=t.w1;have hw2:=t.w2;have hh:=t.h1;have hh2:=t.h2;have hr:=t.r;have hc:=t.c
 refine ⟨_,y.cv,rfl,⟨⟨by show y.h<=9000000; omega,fun i hi=>(t.g i hi).sized (by omega)⟩,⟨by show y.h<=9000000; omega,fun i hi=>(k.o i hi).sized (by omega)⟩,⟨by show (0:Nat)<=9000000; omega,fun i hi=>absurd hi (Nat.not_lt_zero _)⟩,by show y.w<=9000000; omega,by show (0:Nat)<=9000000; omega,by show (0:Nat)<=9000000; omega⟩,?_⟩
 have gP:∀ {R:Nat->Row},(∀ j,j<y.h->gRow y.w (R j))->gridP (y.w:Int) (y.h:Int) R y.h:=fun g=>⟨by omega,by omega,by omega,by omega,rfl,fun j hj=>⟨by rw [(g j hj).1],(g j hj).rowF hw (by omega)⟩⟩
 refine ⟨gP t.g,gP k.o,rfl,rfl,?_,?_,(show akF (-1) (-1) 0=0 by decide),(show akF (-1) (-1) 0=0 by decide),(show setF 66 66 0=true by decide),(show setF 66 66 0=true by decide),(show (0:Int)<=0 by decide),?_,Int.le_refl _,rfl,(show ((0:Nat):Int)<=500 by decide),(show vdF ⟨#[]⟩=true by kernel_rfl),fun j hj=>absurd hj (Nat.not_lt_zero _)⟩
 ·show insF y.x.r y.x.c y.x.p y.w y.h=true;have q:=t.q
  have eW:IntKind.i64.wrap ((y.w:Int)-1)=y.w-1:=W_in (by omega) (by omega)
  unfold insF;rw [eW]
  cases e:y.x.p with
  | false=>simp; omega
  | true=>have:=q e; simp; omega
 ·show insF 0 0 false y.w y.h=true;unfold insF
  simp; omega
 ·show (0:Int)<y.h;omega
def WS.wr (y:WS) (s:ByteArray):WS:={ y with x:=runT y.w (fun i=>byteAt s i) s.size y.x }
def feQ0 (p b s:ByteArray):Prop:=nilQ p b/\s=⟨#[]⟩
theorem feN_ok {st:AE.Stat}(hx:Hx st):ConOkZ true Tryz.prog st 36 (feN feQ0):=by
 refine con_flatE (E:=envH Tryz.prog gl0 [e78] [(34,prpC nilQ)] noLp 1 [] true) (glOk st) (envH_ok (one_in (in78 hx)) fun x h=>?_) Tryz.func36 (by kernel_rfl) (by kernel_rfl) (hx 36 rfl) (fun _ _ _ h=>nomatch h) fun args k hk=>?_
 ·obtain rfl:=List.mem_singleton.1 h;exact (prpC_ok hx).z
 unfold feN at hk
 split at hk<;>first | (cases hk; done) | skip
 rename_i p b s;obtain ⟨hb,hk0⟩:=bif_none hk;clear hk;obtain ⟨⟨rfl,rfl⟩,rfl⟩:=holds_eq.1 hb;exact ⟨[prs,sv ⟨#[]⟩],_,.self (.self .nil),flR_clo rfl,hk0,(fee_tree nilQ _).trans (hT ⟨rfl,rfl⟩ (isD_of rfl))⟩
end Go.Proofs.YtigmkgampfbflaaGreatDoor
namespace Go.Proofs.YtigmkgampfbflaaGreatDoor
open Go Go.AE Go.DE Go.RowKit
def Tm.low (x:Tm):Prop:=(∀ i,i<x.gn->x.gT i=false)/\(∀ i,i<x.on->x.oT i=false)/\∀ i,i<x.bn->x.bT i=false
end Go.Proofs.YtigmkgampfbflaaGreatDoor
namespace Go.Proofs.YtigmkgampfbflaaGreatDoor
open Go Go.AE Go.DE Go.RowKit
structure RFX where
 r:Row
 w:Nat
 j:Nat
end Go.Proofs.YtigmkgampfbflaaGreatDoor
namespace Go.Proofs.YtigmkgampfbflaaGreatDoor
open Go Go.AE Go.DE Go.RowKit
theorem finQ_any {s id:Nat}{c:DC}{k:Nat}{σ:DHeap}{blk:DBlk}{d2 d':DV}(e:Sub (fun j=>if j=s then some id else none) d2 d') (hb:σ[id]?=some (some blk)) (hk:k=blk.k) (hn:c.n<=blk.c.n) (hg:c.good) (hc:∀ i f,i<c.n->f<k->Clo (c.get i f)/\blk.c.get i f=c.get i f) :
  FinQ s (d2,[some ⟨k,c⟩]) d' σ:=by
 have at0:∀ {j:Nat}{b},(List.replicate s none++[some (⟨k,c⟩:DBlk)])[j]?=some (some b)->j=s/\b=⟨k,c⟩:=by
  intro j b hj;obtain ⟨h1,h2⟩:=repl_get.1 hj
  cases hx:j-s with
  | zero=>rw [hx] at h2; simp only [List.getElem?_cons_zero,Option.some.injEq] at h2; exact ⟨by omega,h2.symm⟩
  | succ m=>rw [hx] at h2; simp at h2
 refine ⟨fun j=>if j=s then some id else none,fun j i h=>?_,⟨.cons e .nil,fun j h=>by omega,fun j i h=>?_,by simp,fun a b ba bb ha hb _=>by rw [(at0 ha).1,(at0 hb).1],fun j b hj=>?_⟩⟩
 ·have h:(if j=s then some id else none)=some i:=h
  split at h
  ·omega
  ·cases h
 ·have h:(if j=s then some id else none)=some i:=h
  split at h
  ·simp; omega
  ·cases h
 ·obtain ⟨rfl,rfl⟩:=at0 hj
  refine ⟨id,blk,by simp,hb,hk,hn,hg,fun i f hi hf=>?_⟩
  obtain ⟨h1,h2⟩:=hc i f hi hf;show Sub _ (c.get i f) (blk.c.get i f);rw [h2];exact .of_clo h1
structure RGX where
 w:Int
 w2:Int
 t:Bool
 T:Nat->Bool
 R:Nat->Row
 n:Nat
 h2:Nat
 i:Nat
end Go.Proofs.YtigmkgampfbflaaGreatDoor
namespace Go.Proofs.YtigmkgampfbflaaGreatDoor
open Go Go.AE Go.DE Go.RowKit
def rwT (R:Nat->Row) (n:Nat):DBlk:=⟨1,.tab n (rowsD (fun _=>false) R)⟩
noncomputable def gwO (Q:(Nat->Nat->DV)->Nat->Prop):ConF:=fun args k=>match args with
 | [.agg [.v (.int .i64 w),.v (.int .i64 h),.sl _ G 1 n]]=>bif holds (Q G n) then k (fun b=>(.agg [iv w,iv h,.os b 0 n],[some (rwT (fun i=>rowD (G i 0)) n)])) else none
 | _=>none
theorem rwT_low {R:Nat->Row}{n:Nat}{d:DV}(hd:Low d):LowR (d,[some (rwT R n)]):=⟨hd,fun id blk hb i f hi _=>by
 cases id with
 | succ id=>simp at hb
 | zero =>
  obtain rfl:rwT R n=blk:=Option.some.inj (Option.some.inj hb)
  exact .sl fun j g _ _=>row_low _ _ _⟩
theorem gridO_low (w h:Int) (b n:Nat):Low (.agg [iv w,iv h,.os b 0 n]):=.agg fun d hd=>by
 simp only [List.mem_cons,List.not_mem_nil,or_false] at hd
 rcases hd with rfl | rfl | rfl
 ·exact .v _
 ·exact .v _
 ·exact .os _ _ _
theorem gwO_ok {st:AE.Stat}(hx:Hx st):ConOkZ true Tryz.prog st 156 (gwO rowsAre):=by
 refine con_ofZ (mg:=[]) (l:=[]) (lp:=lpOf [(58,gwI.g)]) (n:=0) (glOk st) (fun _ h=>nomatch h) Tryz.func156 (by kernel_rfl) (by kernel_rfl) (hx 156 rfl) (lp_in (c0:=.loop (loopAt Tryz.f156 58)) (by kernel_rfl) (gw_ls hx)) fun args k hk=>?_
 unfold gwO at hk
 split at hk<;>first | (cases hk; done) | skip
 rename_i w h t G n;obtain ⟨hb,hk⟩:=bif_none hk;obtain ⟨hn,hG⟩:=holds_eq.1 hb
 refine ⟨[.agg [iv w,iv h,.sl t (rowsD (fun i=>slT (G i 0)) fun i=>rowD (G i 0)) 1 n]],_,.cons (Cv.agg (.cons (Cv.of rfl) (.cons (Cv.of rfl) (.cons (rows_cv fun i hi=>(hG i hi).1) .nil)))) .nil,hk,fun b=>⟨rwT_low (gridO_low _ _ _ _),(gw_tree w h t (fun i=>slT (G i 0)) (fun i=>rowD (G i 0)) n _).trans ?_⟩⟩
 simp only [Int.toNat_natCast]
 refine dT (Int.le_refl _) (dT (by omega) (dT (by omega) (hT ⟨⟨Nat.zero_le _,hn,fun i hi=>⟨(hG i hi).1.2.row,(hG i hi).2⟩⟩,[],.of (im:=[some 0,some 1,some 2]) (tm_gw (i:=0) rfl) rfl ⟨⟨0,_,rfl,rfl,(KB.lst (lst3 (.v _) (.v _) (.sl _ _ _ _)) (Nat.le_refl _)).sub⟩,⟨1,_,rfl,rfl,gz0_kb.sub⟩,⟨2,_,rfl,rfl,rfl,Nat.le_refl _,trivial,fun j f hj hf=>.of_clo (.v _)⟩,trivial⟩ rfl (by decide)⟩ ?_)))
 exact fin_of (finQ_any (id:=2) (blk:=⟨1,.tab n (gwD (fun i=>rowD (G i 0)) n)⟩) (SubL.agg (.cons (.v _) (.cons (.v _) (.cons (.os (if_pos rfl)) .nil)))) rfl rfl (Nat.le_refl _) trivial fun i f hi hf=>⟨.sl _ _ _ _,gwD_lt hi⟩)
theorem ryo_tree (w h:Int) (t:Bool) (G:Nat->Nat->DV) (n:Nat) (Q:Int->Int->(Nat->Nat->DV)->Nat->Prop) (Q2:(Nat->Nat->DV)->Nat->Prop) (K:DV->DHeap->Option Unit):bodyD Tryz.prog (envZ [(26,gkC Q),(156,gwO Q2)] noLp 0) Tryz.f96 [.agg [iv w,iv h,.sl t G 1 n]] [] (fun d σ=>K d σ) =
  bif holds (Q w h G n) then bif holds (Q2 G n) then K (.tup [.agg [iv w,iv h,.os 2 0 n],iv 0]) [some ⟨3,.lst [[iv w,iv h,.sl t G 1 n]]⟩,some ⟨3,updF (.lst [[iv 0,iv 0,DV.v (Value.slice none 0 0)]]) 0 [iv w,iv h,.os 2 0 n]⟩,some ⟨1,.tab n fun a _=>DV.sl false (Row.cell (rowD (G a 0))) 5 (Row.n (rowD (G a 0)))⟩]
  else none else none:=by
 kernel_rfl
noncomputable def ryO (Q:Int->Int->(Nat->Nat->DV)->Nat->Prop):ConF:=fun args k=>match args with
 | [.agg [.v (.int .i64 w),.v (.int .i64 h),.sl _ G 1 n]]=>bif holds (Q w h G n) then k (fun b=>(.tup [.agg [iv w,iv h,.os b 0 n],iv 0],[some (rwT (fun i=>rowD (G i 0)) n)])) else none
 | _=>none
theorem ryO_ok {st:AE.Stat}(hx:Hx st) (hv:VdOk st):ConOkZ true Tryz.prog st 96 (ryO gridGo):=by
 refine con_ofZ (mg:=[]) (l:=[(26,gkC gridQ),(156,gwO rowsAre)]) (lp:=noLp) (n:=0) (glOk st) (fun x h=>?_) Tryz.func96 (by kernel_rfl) (by kernel_rfl) (hx 96 rfl) (fun _ _ _ h=>nomatch h) fun args k hk=>?_
 ·simp only [List.mem_cons,List.not_mem_nil,or_false] at h
  rcases h with rfl | rfl
  ·exact (gkC_ok hx hv).z
  ·dsimp only
   exact gwO_ok hx
 unfold ryO at hk
 split at hk<;>first | (cases hk; done) | skip
 rename_i w h t G n;obtain ⟨hb,hk⟩:=bif_none hk;have hb:=holds_eq.1 hb
 refine ⟨[.agg [iv w,iv h,.sl t G 1 n]],_,.self .nil,hk,fun b=>⟨rwT_low (.tup fun d hd=>?_),(ryo_tree w h t G n gridQ rowsAre _).trans (hT hb (hT hb.are (fin_of ?_)))⟩⟩
 ·simp only [List.mem_cons,List.not_mem_nil,or_false] at hd
  rcases hd with rfl | rfl
  ·exact gridO_low _ _ _ _
  ·exact .v _
 ·exact finQ_any (id:=2) (blk:=rwT (fun i=>rowD (G i 0)) n) (SubL.tup (.cons (SubL.agg (.cons (.v _) (.cons (.v _) (.cons (.os (if_pos rfl)) .nil)))) (.cons (.v _) .nil))) rfl rfl (Nat.le_refl _) trivial fun i f hi hf=>⟨.sl _ _ _ _,rfl⟩
noncomputable abbrev scE (Q:Int->Int->(Nat->Nat->DV)->Nat->Prop) (Q3:(Nat->Nat->DV)->(Nat->Nat->DV)->Prop) (B:Int->Nat->Nat->DV):Env Unit:=envH Tryz.prog gl0 [⟨93,Tryz.f93,env [] noLp 0⟩,⟨115,Tryz.f115,env [] noLp 0⟩] [(96,ryO Q),(153,bnC Q3 B)] noLp 2 [] true
theorem sc1_tree (w:Int) (t:Bool) (T:Nat->Bool) (R:Nat->Row) (Q:Int->Int->(Nat->Nat->DV)->Nat->Prop) (Q3:(Nat->Nat->DV)->(Nat->Nat->DV)->Prop) (B:Int->Nat->Nat->DV) (K:DV->DHeap->Option Unit):bodyD Tryz.prog (scE Q Q3 B) Tryz.f181 [.agg [iv w,iv 1,.sl t (rowsD T R) 1 1],iv 0,iv 1,iv 1,.agg [iv (-1),iv (-1),iv 0]] [] (fun d σ=>K d σ) =
  bif holds (Q w 1 (rowsD T R) 1) then bif holds (Q3 (fun j f=>lend1 (DC.get (DBlk.c (blockOf (elemK Tryz.prog 3 (List.length [iv w])) [iv w])) j f)) fun j f=>lend1 (DC.get (DBlk.c (blockOf 3 [iv (-1:Int),iv (-1:Int),iv 0])) j f))
  then K (.tup [.agg [iv w,iv 1,.os 3 0 1],.os 7 0 1,iv 0]) [some ⟨3,updF (.lst [[iv w,iv 1,.sl t (rowsD T R) 1 1]]) 0 [iv w,iv 1,.os 3 0 1]⟩,some ⟨3,.lst [[iv (-1:Int),iv (-1:Int),iv 0]]⟩,some ⟨3,updF (.lst [[iv 0,iv 0,DV.v (Value.slice none 0 0)]]) 0 [iv w,iv 1,.os 3 0 1]⟩,some ⟨1,.tab 1 fun j f=>if 0<=j/\j<1
  then DC.get (subC (appC (appC (DBlk.c (blockOf 1 (zerosD [DV.v (Value.slice none 0 0)] 0))) 0 (subC (DBlk.c (rwT (R) 1)) 1 0)) 0 (subC (DBlk.c (blockOf 1 [.sl false (B (numD (iv w))) 5 (Int.toNat (numD (iv w)))])) 0 1)) 0 1) (j-0) f
  else DV.sl false (Row.cell (R j)) 5 (Row.n (R j))⟩,some ⟨1,.lst [[iv w]]⟩,some ⟨3,.lst [[iv (-1:Int),iv (-1:Int),iv 0]]⟩,none,some ⟨1,.app (.pre (.lst []) 0) (.tab 1 fun j f=>DV.sl false (Row.cell (R (0+j))) 5 (Row.n (R (0+j))))⟩,none,none,some ⟨1,.lst [[.sl false (B (numD (iv w))) 5 (Int.toNat (numD (iv w)))]]⟩,some ⟨1,.app (.pre (.app (.pre (.lst []) 0) (.tab 0 fun j f=>DV.sl false (Row.cell (R (1+j))) 5 (Row.n (R (1+j))))) 0) (.lst [[.sl false (B (numD (iv w))) 5 (Int.toNat (numD (iv w)))]])⟩]
  else none else none:=by
 kernel_rfl
theorem sc2_tree (w:Int) (t:Bool) (T:Nat->Bool) (R:Nat->Row) (Q:Int->Int->(Nat->Nat->DV)->Nat->Prop) (Q3:(Nat->Nat->DV)->(Nat->Nat->DV)->Prop) (B:Int->Nat->Nat->DV) (K:DV->DHeap->Option Unit):bodyD Tryz.prog (scE Q Q3 B) Tryz.f181 [.agg [iv w,iv 2,.sl t (rowsD T R) 1 2],iv 0,iv 2,iv 1,.agg [iv (-1),iv (-1),iv 0]] [] (fun d σ=>K d σ) =
  bif holds (Q w 2 (rowsD T R) 2) then bif holds (Q3 (fun j f=>lend1 (DC.get (DBlk.c (blockOf (elemK Tryz.prog 3 (List.length [iv w])) [iv w])) j f)) fun j f=>lend1 (DC.get (DBlk.c (blockOf 3 [iv (-1:Int),iv (-1:Int),iv 0])) j f))
  then K (.tup [.agg [iv w,iv 2,.os 3 0 2],.os 7 0 1,iv 0]) [some ⟨3,updF (.lst [[iv w,iv 2,.sl t (rowsD T R) 1 2]]) 0 [iv w,iv 2,.os 3 0 2]⟩,some ⟨3,.lst [[iv (-1:Int),iv (-1:Int),iv 0]]⟩,some ⟨3,updF (.lst [[iv 0,iv 0,DV.v (Value.slice none 0 0)]]) 0 [iv w,iv 2,.os 3 0 2]⟩,some ⟨1,.tab 2 fun j f=>if 0<=j/\j<2
  then DC.get (subC (appC (appC (DBlk.c (blockOf 1 (zerosD [DV.v (Value.slice none 0 0)] 0))) 0 (subC (DBlk.c (rwT (R) 2)) 1 1)) 1 (subC (DBlk.c (blockOf 1 [.sl false (B (numD (iv w))) 5 (Int.toNat (numD (iv w)))])) 0 1)) 0 2) (j-0) f
  else DV.sl false (Row.cell (R j)) 5 (Row.n (R j))⟩,some ⟨1,.lst [[iv w]]⟩,some ⟨3,.lst [[iv (-1:Int),iv (-1:Int),iv 0]]⟩,none,some ⟨1,.app (.pre (.lst []) 0) (.tab 1 fun j f=>DV.sl false (Row.cell (R (0+j))) 5 (Row.n (R (0+j))))⟩,none,none,some ⟨1,.lst [[.sl false (B (numD (iv w))) 5 (Int.toNat (numD (iv w)))]]⟩,some ⟨1,.app (.pre (.app (.pre (.lst []) 0) (.tab 1 fun j f=>DV.sl false (Row.cell (R (1+j))) 5 (Row.n (R (1+j))))) 1) (.lst [[.sl false (B (numD (iv w))) 5 (Int.toNat (numD (iv w)))]])⟩]
  else none else none:=by
 kernel_rfl
theorem sc3_tree (w:Int) (t:Bool) (T:Nat->Bool) (R:Nat->Row) (Q:Int->Int->(Nat->Nat->DV)->Nat->Prop) (Q3:(Nat->Nat->DV)->(Nat->Nat->DV)->Prop) (B:Int->Nat->Nat->DV) (K:DV->DHeap->Option Unit):bodyD Tryz.prog (scE Q Q3 B) Tryz.f181 [.agg [iv w,iv 3,.sl t (rowsD T R) 1 3],iv 0,iv 3,iv 1,.agg [iv (-1),iv (-1),iv 0]] [] (fun d σ=>K d σ) =
  bif holds (Q w 3 (rowsD T R) 3) then bif holds (Q3 (fun j f=>lend1 (DC.get (DBlk.c (blockOf (elemK Tryz.prog 3 (List.length [iv w])) [iv w])) j f)) fun j f=>lend1 (DC.get (DBlk.c (blockOf 3 [iv (-1:Int),iv (-1:Int),iv 0])) j f))
  then K (.tup [.agg [iv w,iv 3,.os 3 0 3],.os 7 0 1,iv 0]) [some ⟨3,updF (.lst [[iv w,iv 3,.sl t (rowsD T R) 1 3]]) 0 [iv w,iv 3,.os 3 0 3]⟩,some ⟨3,.lst [[iv (-1:Int),iv (-1:Int),iv 0]]⟩,some ⟨3,updF (.lst [[iv 0,iv 0,DV.v (Value.slice none 0 0)]]) 0 [iv w,iv 3,.os 3 0 3]⟩,some ⟨1,.tab 3 fun j f=>if 0<=j/\j<3
  then DC.get (subC (appC (appC (DBlk.c (blockOf 1 (zerosD [DV.v (Value.slice none 0 0)] 0))) 0 (subC (DBlk.c (rwT (R) 3)) 1 2)) 2 (subC (DBlk.c (blockOf 1 [.sl false (B (numD (iv w))) 5 (Int.toNat (numD (iv w)))])) 0 1)) 0 3) (j-0) f
  else DV.sl false (Row.cell (R j)) 5 (Row.n (R j))⟩,some ⟨1,.lst [[iv w]]⟩,some ⟨3,.lst [[iv (-1:Int),iv (-1:Int),iv 0]]⟩,none,some ⟨1,.app (.pre (.lst []) 0) (.tab 1 fun j f=>DV.sl false (Row.cell (R (0+j))) 5 (Row.n (R (0+j))))⟩,none,none,some ⟨1,.lst [[.sl false (B (numD (iv w))) 5 (Int.toNat (numD (iv w)))]]⟩,some ⟨1,.app (.pre (.app (.pre (.lst []) 0) (.tab 2 fun j f=>DV.sl false (Row.cell (R (1+j))) 5 (Row.n (R (1+j))))) 2) (.lst [[.sl false (B (numD (iv w))) 5 (Int.toNat (numD (iv w)))]])⟩]
  else none else none:=by
 kernel_rfl
theorem sc4_tree (w:Int) (t:Bool) (T:Nat->Bool) (R:Nat->Row) (Q:Int->Int->(Nat->Nat->DV)->Nat->Prop) (Q3:(Nat->Nat->DV)->(Nat->Nat->DV)->Prop) (B:Int->Nat->Nat->DV) (K:DV->DHeap->Option Unit):bodyD Tryz.prog (scE Q Q3 B) Tryz.f181 [.agg [iv w,iv 4,.sl t (rowsD T R) 1 4],iv 0,iv 4,iv 1,.agg [iv (-1),iv (-1),iv 0]] [] (fun d σ=>K d σ) =
  bif holds (Q w 4 (rowsD T R) 4) then bif holds (Q3 (fun j f=>lend1 (DC.get (DBlk.c (blockOf (elemK Tryz.prog 3 (List.length [iv w])) [iv w])) j f)) fun j f=>lend1 (DC.get (DBlk.c (blockOf 3 [iv (-1:Int),iv (-1:Int),iv 0])) j f))
  then K (.tup [.agg [iv w,iv 4,.os 3 0 4],.os 7 0 1,iv 0]) [some ⟨3,updF (.lst [[iv w,iv 4,.sl t (rowsD T R) 1 4]]) 0 [iv w,iv 4,.os 3 0 4]⟩,some ⟨3,.lst [[iv (-1:Int),iv (-1:Int),iv 0]]⟩,some ⟨3,updF (.lst [[iv 0,iv 0,DV.v (Value.slice none 0 0)]]) 0 [iv w,iv 4,.os 3 0 4]⟩,some ⟨1,.tab 4 fun j f=>if 0<=j/\j<4
  then DC.get (subC (appC (appC (DBlk.c (blockOf 1 (zerosD [DV.v (Value.slice none 0 0)] 0))) 0 (subC (DBlk.c (rwT (R) 4)) 1 3)) 3 (subC (DBlk.c (blockOf 1 [.sl false (B (numD (iv w))) 5 (Int.toNat (numD (iv w)))])) 0 1)) 0 4) (j-0) f
  else DV.sl false (Row.cell (R j)) 5 (Row.n (R j))⟩,some ⟨1,.lst [[iv w]]⟩,some ⟨3,.lst [[iv (-1:Int),iv (-1:Int),iv 0]]⟩,none,some ⟨1,.app (.pre (.lst []) 0) (.tab 1 fun j f=>DV.sl false (Row.cell (R (0+j))) 5 (Row.n (R (0+j))))⟩,none,none,some ⟨1,.lst [[.sl false (B (numD (iv w))) 5 (Int.toNat (numD (iv w)))]]⟩,some ⟨1,.app (.pre (.app (.pre (.lst []) 0) (.tab 3 fun j f=>DV.sl false (Row.cell (R (1+j))) 5 (Row.n (R (1+j))))) 3) (.lst [[.sl false (B (numD (iv w))) 5 (Int.toNat (numD (iv w)))]])⟩]
  else none else none:=by
 kernel_rfl
theorem sc5_tree (w:Int) (t:Bool) (T:Nat->Bool) (R:Nat->Row) (Q:Int->Int->(Nat->Nat->DV)->Nat->Prop) (Q3:(Nat->Nat->DV)->(Nat->Nat->DV)->Prop) (B:Int->Nat->Nat->DV) (K:DV->DHeap->Option Unit):bodyD Tryz.prog (scE Q Q3 B) Tryz.f181 [.agg [iv w,iv 5,.sl t (rowsD T R) 1 5],iv 0,iv 5,iv 1,.agg [iv (-1),iv (-1),iv 0]] [] (fun d σ=>K d σ) =
  bif holds (Q w 5 (rowsD T R) 5) then bif holds (Q3 (fun j f=>lend1 (DC.get (DBlk.c (blockOf (elemK Tryz.prog 3 (List.length [iv w])) [iv w])) j f)) fun j f=>lend1 (DC.get (DBlk.c (blockOf 3 [iv (-1:Int),iv (-1:Int),iv 0])) j f))
  then K (.tup [.agg [iv w,iv 5,.os 3 0 5],.os 7 0 1,iv 0]) [some ⟨3,updF (.lst [[iv w,iv 5,.sl t (rowsD T R) 1 5]]) 0 [iv w,iv 5,.os 3 0 5]⟩,some ⟨3,.lst [[iv (-1:Int),iv (-1:Int),iv 0]]⟩,some ⟨3,updF (.lst [[iv 0,iv 0,DV.v (Value.slice none 0 0)]]) 0 [iv w,iv 5,.os 3 0 5]⟩,some ⟨1,.tab 5 fun j f=>if 0<=j/\j<5
  then DC.get (subC (appC (appC (DBlk.c (blockOf 1 (zerosD [DV.v (Value.slice none 0 0)] 0))) 0 (subC (DBlk.c (rwT (R) 5)) 1 4)) 4 (subC (DBlk.c (blockOf 1 [.sl false (B (numD (iv w))) 5 (Int.toNat (numD (iv w)))])) 0 1)) 0 5) (j-0) f
  else DV.sl false (Row.cell (R j)) 5 (Row.n (R j))⟩,some ⟨1,.lst [[iv w]]⟩,some ⟨3,.lst [[iv (-1:Int),iv (-1:Int),iv 0]]⟩,none,some ⟨1,.app (.pre (.lst []) 0) (.tab 1 fun j f=>DV.sl false (Row.cell (R (0+j))) 5 (Row.n (R (0+j))))⟩,none,none,some ⟨1,.lst [[.sl false (B (numD (iv w))) 5 (Int.toNat (numD (iv w)))]]⟩,some ⟨1,.app (.pre (.app (.pre (.lst []) 0) (.tab 4 fun j f=>DV.sl false (Row.cell (R (1+j))) 5 (Row.n (R (1+j))))) 4) (.lst [[.sl false (B (numD (iv w))) 5 (Int.toNat (numD (iv w)))]])⟩]
  else none else none:=by
 kernel_rfl
theorem sc6_tree (w:Int) (t:Bool) (T:Nat->Bool) (R:Nat->Row) (Q:Int->Int->(Nat->Nat->DV)->Nat->Prop) (Q3:(Nat->Nat->DV)->(Nat->Nat->DV)->Prop) (B:Int->Nat->Nat->DV) (K:DV->DHeap->Option Unit):bodyD Tryz.prog (scE Q Q3 B) Tryz.f181 [.agg [iv w,iv 6,.sl t (rowsD T R) 1 6],iv 0,iv 6,iv 1,.agg [iv (-1),iv (-1),iv 0]] [] (fun d σ=>K d σ) =
  bif holds (Q w 6 (rowsD T R) 6) then bif holds (Q3 (fun j f=>lend1 (DC.get (DBlk.c (blockOf (elemK Tryz.prog 3 (List.length [iv w])) [iv w])) j f)) fun j f=>lend1 (DC.get (DBlk.c (blockOf 3 [iv (-1:Int),iv (-1:Int),iv 0])) j f))
  then K (.tup [.agg [iv w,iv 6,.os 3 0 6],.os 7 0 1,iv 0]) [some ⟨3,updF (.lst [[iv w,iv 6,.sl t (rowsD T R) 1 6]]) 0 [iv w,iv 6,.os 3 0 6]⟩,some ⟨3,.lst [[iv (-1:Int),iv (-1:Int),iv 0]]⟩,some ⟨3,updF (.lst [[iv 0,iv 0,DV.v (Value.slice none 0 0)]]) 0 [iv w,iv 6,.os 3 0 6]⟩,some ⟨1,.tab 6 fun j f=>if 0<=j/\j<6
  then DC.get (subC (appC (appC (DBlk.c (blockOf 1 (zerosD [DV.v (Value.slice none 0 0)] 0))) 0 (subC (DBlk.c (rwT (R) 6)) 1 5)) 5 (subC (DBlk.c (blockOf 1 [.sl false (B (numD (iv w))) 5 (Int.toNat (numD (iv w)))])) 0 1)) 0 6) (j-0) f
  else DV.sl false (Row.cell (R j)) 5 (Row.n (R j))⟩,some ⟨1,.lst [[iv w]]⟩,some ⟨3,.lst [[iv (-1:Int),iv (-1:Int),iv 0]]⟩,none,some ⟨1,.app (.pre (.lst []) 0) (.tab 1 fun j f=>DV.sl false (Row.cell (R (0+j))) 5 (Row.n (R (0+j))))⟩,none,none,some ⟨1,.lst [[.sl false (B (numD (iv w))) 5 (Int.toNat (numD (iv w)))]]⟩,some ⟨1,.app (.pre (.app (.pre (.lst []) 0) (.tab 5 fun j f=>DV.sl false (Row.cell (R (1+j))) 5 (Row.n (R (1+j))))) 5) (.lst [[.sl false (B (numD (iv w))) 5 (Int.toNat (numD (iv w)))]])⟩]
  else none else none:=by
 kernel_rfl
theorem sc7_tree (w:Int) (t:Bool) (T:Nat->Bool) (R:Nat->Row) (Q:Int->Int->(Nat->Nat->DV)->Nat->Prop) (Q3:(Nat->Nat->DV)->(Nat->Nat->DV)->Prop) (B:Int->Nat->Nat->DV) (K:DV->DHeap->Option Unit):bodyD Tryz.prog (scE Q Q3 B) Tryz.f181 [.agg [iv w,iv 7,.sl t (rowsD T R) 1 7],iv 0,iv 7,iv 1,.agg [iv (-1),iv (-1),iv 0]] [] (fun d σ=>K d σ) =
  bif holds (Q w 7 (rowsD T R) 7) then bif holds (Q3 (fun j f=>lend1 (DC.get (DBlk.c (blockOf (elemK Tryz.prog 3 (List.length [iv w])) [iv w])) j f)) fun j f=>lend1 (DC.get (DBlk.c (blockOf 3 [iv (-1:Int),iv (-1:Int),iv 0])) j f))
  then K (.tup [.agg [iv w,iv 7,.os 3 0 7],.os 7 0 1,iv 0]) [some ⟨3,updF (.lst [[iv w,iv 7,.sl t (rowsD T R) 1 7]]) 0 [iv w,iv 7,.os 3 0 7]⟩,some ⟨3,.lst [[iv (-1:Int),iv (-1:Int),iv 0]]⟩,some ⟨3,updF (.lst [[iv 0,iv 0,DV.v (Value.slice none 0 0)]]) 0 [iv w,iv 7,.os 3 0 7]⟩,some ⟨1,.tab 7 fun j f=>if 0<=j/\j<7
  then DC.get (subC (appC (appC (DBlk.c (blockOf 1 (zerosD [DV.v (Value.slice none 0 0)] 0))) 0 (subC (DBlk.c (rwT (R) 7)) 1 6)) 6 (subC (DBlk.c (blockOf 1 [.sl false (B (numD (iv w))) 5 (Int.toNat (numD (iv w)))])) 0 1)) 0 7) (j-0) f
  else DV.sl false (Row.cell (R j)) 5 (Row.n (R j))⟩,some ⟨1,.lst [[iv w]]⟩,some ⟨3,.lst [[iv (-1:Int),iv (-1:Int),iv 0]]⟩,none,some ⟨1,.app (.pre (.lst []) 0) (.tab 1 fun j f=>DV.sl false (Row.cell (R (0+j))) 5 (Row.n (R (0+j))))⟩,none,none,some ⟨1,.lst [[.sl false (B (numD (iv w))) 5 (Int.toNat (numD (iv w)))]]⟩,some ⟨1,.app (.pre (.app (.pre (.lst []) 0) (.tab 6 fun j f=>DV.sl false (Row.cell (R (1+j))) 5 (Row.n (R (1+j))))) 6) (.lst [[.sl false (B (numD (iv w))) 5 (Int.toNat (numD (iv w)))]])⟩]
  else none else none:=by
 kernel_rfl
theorem sc8_tree (w:Int) (t:Bool) (T:Nat->Bool) (R:Nat->Row) (Q:Int->Int->(Nat->Nat->DV)->Nat->Prop) (Q3:(Nat->Nat->DV)->(Nat->Nat->DV)->Prop) (B:Int->Nat->Nat->DV) (K:DV->DHeap->Option Unit):bodyD Tryz.prog (scE Q Q3 B) Tryz.f181 [.agg [iv w,iv 8,.sl t (rowsD T R) 1 8],iv 0,iv 8,iv 1,.agg [iv (-1),iv (-1),iv 0]] [] (fun d σ=>K d σ) =
  bif holds (Q w 8 (rowsD T R) 8) then bif holds (Q3 (fun j f=>lend1 (DC.get (DBlk.c (blockOf (elemK Tryz.prog 3 (List.length [iv w])) [iv w])) j f)) fun j f=>lend1 (DC.get (DBlk.c (blockOf 3 [iv (-1:Int),iv (-1:Int),iv 0])) j f))
  then K (.tup [.agg [iv w,iv 8,.os 3 0 8],.os 7 0 1,iv 0]) [some ⟨3,updF (.lst [[iv w,iv 8,.sl t (rowsD T R) 1 8]]) 0 [iv w,iv 8,.os 3 0 8]⟩,some ⟨3,.lst [[iv (-1:Int),iv (-1:Int),iv 0]]⟩,some ⟨3,updF (.lst [[iv 0,iv 0,DV.v (Value.slice none 0 0)]]) 0 [iv w,iv 8,.os 3 0 8]⟩,some ⟨1,.tab 8 fun j f=>if 0<=j/\j<8
  then DC.get (subC (appC (appC (DBlk.c (blockOf 1 (zerosD [DV.v (Value.slice none 0 0)] 0))) 0 (subC (DBlk.c (rwT (R) 8)) 1 7)) 7 (subC (DBlk.c (blockOf 1 [.sl false (B (numD (iv w))) 5 (Int.toNat (numD (iv w)))])) 0 1)) 0 8) (j-0) f
  else DV.sl false (Row.cell (R j)) 5 (Row.n (R j))⟩,some ⟨1,.lst [[iv w]]⟩,some ⟨3,.lst [[iv (-1:Int),iv (-1:Int),iv 0]]⟩,none,some ⟨1,.app (.pre (.lst []) 0) (.tab 1 fun j f=>DV.sl false (Row.cell (R (0+j))) 5 (Row.n (R (0+j))))⟩,none,none,some ⟨1,.lst [[.sl false (B (numD (iv w))) 5 (Int.toNat (numD (iv w)))]]⟩,some ⟨1,.app (.pre (.app (.pre (.lst []) 0) (.tab 7 fun j f=>DV.sl false (Row.cell (R (1+j))) 5 (Row.n (R (1+j))))) 7) (.lst [[.sl false (B (numD (iv w))) 5 (Int.toNat (numD (iv w)))]])⟩]
  else none else none:=by
 kernel_rfl
end Go.Proofs.YtigmkgampfbflaaGreatDoor
namespace Go.Proofs.YtigmkgampfbflaaGreatDoor
open Go Go.AE Go.DE Go.RowKit
def scR (R:Nat->Row) (n k:Nat):Nat->Row:=fun j=>if j+1<n then R (j+1) else blkRow k
noncomputable def scC (Q:Int->Int->(Nat->Nat->DV)->Nat->Prop):ConF:=fun args k=>match args with
 | [.agg [.v (.int .i64 w),.v (.int .i64 h),.sl _ G 1 n],.v (.int .i64 a),.v (.int .i64 b),.v (.int .i64 m),.agg [.v (.int .i64 f),.v (.int .i64 g),.v (.int .i64 l)]] =>
  bif holds (Q w h G n/\a=0/\b=h/\m=1/\f=-1/\g=-1/\l=0/\n<=8/\w<=30) then
   k (fun s=>(.tup [.agg [iv w,iv h,.os s 0 n],.sl false (rowsD (fun _=>false) fun i=>rowD (G i 0)) 1 1,iv 0],[some ⟨1,.tab n (rowsD (fun _=>false) (scR (fun i=>rowD (G i 0)) n w.toNat))⟩])) else none
 | _=>none
theorem sc_fin {s n:Nat}{w h:Int}{R:Nat->Row}{σ:DHeap}{g:Nat->Nat->DV}{c:DC}(h3:σ[3]?=some (some ⟨1,.tab n g⟩)) (h7:σ[7]?=some (some ⟨1,c⟩)) (hg:∀ j,j<n->g j 0=rowsD (fun _=>false) (scR R n w.toNat) j 0)
  (hn:c.n=1) (hc:c.get 0 0=rowsD (fun _=>false) R 0 0) :
  FinZ s (.tup [.agg [iv w,iv h,.os s 0 n],.sl false (rowsD (fun _=>false) R) 1 1,iv 0],[some ⟨1,.tab n (rowsD (fun _=>false) (scR R n w.toNat))⟩]) (.tup [.agg [iv w,iv h,.os 3 0 n],.os 7 0 1,iv 0]) σ:=by
 refine finZ_one [7] (SubLZ.tup (.cons (SubLZ.agg (.cons (Sub.v _).z (.cons (Sub.v _).z (.cons (Sub.os (if_pos rfl)).z .nil)))) (.cons (SubZ.cv (Cv.sl fun i f hi hf=>.of ?_) (SubZ.fz (a:=0) (n:=1) (blk:=⟨1,c⟩) (by unfold zf; simp [h7]) (by show 0+1<=c.n; omega))) (.cons (Sub.v _).z .nil)))) (by decide) h3 rfl (Nat.le_refl _) trivial (fun i f hi hf=>⟨.sl _ _ _ _,?_⟩) fun j hj blk hb i f hi hf=>?_
 ·have hf:f<1:=hf
  obtain rfl:f=0:=by omega
  obtain rfl:i=0:=by omega
  exact hc
 ·have hf:f<1:=hf
  obtain rfl:f=0:=by omega
  exact hg i hi
 ·obtain rfl:j=7:=by simpa using hj
  rw [h7] at hb;obtain rfl:(⟨1,c⟩:DBlk)=blk:=Option.some.inj (Option.some.inj hb);have hf:f<1:=hf;have hi:i<c.n:=hi
  obtain rfl:f=0:=by omega
  obtain rfl:i=0:=by omega
  show Clo (c.get 0 0);rw [hc];exact .sl _ _ _ _
theorem bnQ_at {G H:Nat->Nat->DV}{w:Int}(e:G 0 0=iv w) (e0:H 0 0=iv (-1)) (e1:H 0 1=iv (-1)) (e2:H 0 2=iv 0) (h1:1<=w) (h2:w<=30):bnQ G H:=by
 unfold bnQ;rw [e,e0,e1,e2];exact ⟨rfl,h1,h2,rfl,rfl,rfl⟩
theorem scC_ok {st:AE.Stat}(hx:Hx st) (hv:VdOk st) (hk:∀ a σ,st.ext 157 a σ=RL.app σ (blkX a σ.length)):ConOkZ true Tryz.prog st 181 (scC gridGo):=by
 refine con_any (E:=scE gridGo bnQ blkB) (glOk st) (envH_ok (fun e h=>?_) fun x h=>?_) Tryz.func181 (by kernel_rfl) (by kernel_rfl) (hx 181 rfl) (fun _ _ _ h=>nomatch h) fun args k hk2=>?_
 ·simp only [List.mem_cons,List.not_mem_nil,or_false] at h
  rcases h with rfl | rfl
  ·exact ⟨Tryz.func93,by kernel_rfl,by kernel_rfl,hx 93 rfl,tblD_env (fun _ h=>nomatch h),glOk st,(fun _ _ _ h=>nomatch h),rfl⟩
  ·exact ⟨Tryz.func115,by kernel_rfl,by kernel_rfl,hx 115 rfl,tblD_env (fun _ h=>nomatch h),glOk st,(fun _ _ _ h=>nomatch h),rfl⟩
 ·simp only [List.mem_cons,List.not_mem_nil,or_false] at h
  rcases h with rfl | rfl
  ·exact ryO_ok hx hv
  ·dsimp only
   exact bnC_ok hx hk
 unfold scC at hk2
 split at hk2<;>first | (cases hk2; done) | skip
 rename_i w h t G n a b m f g l;obtain ⟨hb,hk3⟩:=bif_none hk2;clear hk2;obtain ⟨q,rfl,rfl,rfl,rfl,rfl,rfl,hn,hw⟩:=holds_eq.1 hb;clear hb;obtain ⟨p1,p2,p3,p4,p5,p6,p7⟩:=id q;subst p5
 have hp:0<n:=by omega
 have q':gridGo w n (rowsD (fun i=>slT (G i 0)) fun i=>rowD (G i 0)) n:=⟨p1,p2,p3,p4,rfl,p6,fun i hi=>⟨isRow_of (p7 i hi).1.2.row,(p7 i hi).2⟩⟩
 refine ⟨[.agg [iv w,iv n,.sl t (rowsD (fun i=>slT (G i 0)) fun i=>rowD (G i 0)) 1 n],iv 0,iv n,iv 1,.agg [iv (-1),iv (-1),iv 0]],_,.cons (Cv.agg (.cons (Cv.of rfl) (.cons (Cv.of rfl) (.cons (rows_cv fun i hi=>(p7 i hi).1) .nil)))) (.self (.self (.self (.self .nil)))),hk3,fun s=>⟨⟨?_,fun id blk hb i f hi _=>?_⟩,?_⟩⟩
 ·exact Low.tup fun d hd=>by
   simp only [List.mem_cons,List.not_mem_nil,or_false] at hd
   rcases hd with rfl | rfl | rfl
   ·exact gridO_low _ _ _ _
   ·exact rows_low _ 1
   ·exact .v _
 ·cases id with
  | succ id=>simp at hb
  | zero =>
   obtain rfl:(⟨1,.tab n (rowsD (fun _=>false) (scR (fun i=>rowD (G i 0)) n w.toNat))⟩:DBlk)=blk:=Option.some.inj (Option.some.inj hb)
   exact .sl fun j g _ _=>row_low _ _ _
 ·clear hk3
  generalize hR:(fun i=>rowD (G i 0))=R at q' ⊢
  generalize (fun i=>slT (G i 0))=T at q' ⊢
  obtain rfl | rfl | rfl | rfl | rfl | rfl | rfl | rfl:n=1\/n=2\/n=3\/n=4\/n=5\/n=6\/n=7\/n=8:=by omega
  ·refine (sc1_tree w t T R gridGo bnQ blkB _).trans (hT q' (hT (bnQ_at (w:=w) (by kernel_rfl) (by kernel_rfl) (by kernel_rfl) (by kernel_rfl) (by omega) hw) (finz_of (sc_fin (R:=R) rfl rfl (fun j hj=>?_) rfl rfl))))
   obtain rfl:j=0:=by omega
   all_goals kernel_rfl
  ·refine (sc2_tree w t T R gridGo bnQ blkB _).trans (hT q' (hT (bnQ_at (w:=w) (by kernel_rfl) (by kernel_rfl) (by kernel_rfl) (by kernel_rfl) (by omega) hw) (finz_of (sc_fin (R:=R) rfl rfl (fun j hj=>?_) rfl rfl))))
   obtain rfl | rfl:j=0\/j=1:=by omega
   all_goals kernel_rfl
  ·refine (sc3_tree w t T R gridGo bnQ blkB _).trans (hT q' (hT (bnQ_at (w:=w) (by kernel_rfl) (by kernel_rfl) (by kernel_rfl) (by kernel_rfl) (by omega) hw) (finz_of (sc_fin (R:=R) rfl rfl (fun j hj=>?_) rfl rfl))))
   obtain rfl | rfl | rfl:j=0\/j=1\/j=2:=by omega
   all_goals kernel_rfl
  ·refine (sc4_tree w t T R gridGo bnQ blkB _).trans (hT q' (hT (bnQ_at (w:=w) (by kernel_rfl) (by kernel_rfl) (by kernel_rfl) (by kernel_rfl) (by omega) hw) (finz_of (sc_fin (R:=R) rfl rfl (fun j hj=>?_) rfl rfl))))
   obtain rfl | rfl | rfl | rfl:j=0\/j=1\/j=2\/j=3:=by omega
   all_goals kernel_rfl
  ·refine (sc5_tree w t T R gridGo bnQ blkB _).trans (hT q' (hT (bnQ_at (w:=w) (by kernel_rfl) (by kernel_rfl) (by kernel_rfl) (by kernel_rfl) (by omega) hw) (finz_of (sc_fin (R:=R) rfl rfl (fun j hj=>?_) rfl rfl))))
   obtain rfl | rfl | rfl | rfl | rfl:j=0\/j=1\/j=2\/j=3\/j=4:=by omega
   all_goals kernel_rfl
  ·refine (sc6_tree w t T R gridGo bnQ blkB _).trans (hT q' (hT (bnQ_at (w:=w) (by kernel_rfl) (by kernel_rfl) (by kernel_rfl) (by kernel_rfl) (by omega) hw) (finz_of (sc_fin (R:=R) rfl rfl (fun j hj=>?_) rfl rfl))))
   obtain rfl | rfl | rfl | rfl | rfl | rfl:j=0\/j=1\/j=2\/j=3\/j=4\/j=5:=by omega
   all_goals kernel_rfl
  ·refine (sc7_tree w t T R gridGo bnQ blkB _).trans (hT q' (hT (bnQ_at (w:=w) (by kernel_rfl) (by kernel_rfl) (by kernel_rfl) (by kernel_rfl) (by omega) hw) (finz_of (sc_fin (R:=R) rfl rfl (fun j hj=>?_) rfl rfl))))
   obtain rfl | rfl | rfl | rfl | rfl | rfl | rfl:j=0\/j=1\/j=2\/j=3\/j=4\/j=5\/j=6:=by omega
   all_goals kernel_rfl
  ·refine (sc8_tree w t T R gridGo bnQ blkB _).trans (hT q' (hT (bnQ_at (w:=w) (by kernel_rfl) (by kernel_rfl) (by kernel_rfl) (by kernel_rfl) (by omega) hw) (finz_of (sc_fin (R:=R) rfl rfl (fun j hj=>?_) rfl rfl))))
   obtain rfl | rfl | rfl | rfl | rfl | rfl | rfl | rfl:j=0\/j=1\/j=2\/j=3\/j=4\/j=5\/j=6\/j=7:=by omega
   all_goals kernel_rfl
end Go.Proofs.YtigmkgampfbflaaGreatDoor
namespace Go.Proofs.YtigmkgampfbflaaGreatDoor
open Go Go.AE Go.DE Go.RowKit
theorem grw1 (st:AE.Stat) (rf:CallA) (σ:Heap) (n:Nat):bodyA Tryz.prog st rf n Tryz.f260 [.slice none 0 0,.int .i64 1] σ=some (.slice (some ⟨σ.length,0,none⟩) 0 (unk+1),σ++[some (.cells (List.replicate 1 (.slice none 0 0)))]):=by kernel_rfl
theorem grw2 (st:AE.Stat) (rf:CallA) (σ:Heap) (n:Nat):bodyA Tryz.prog st rf n Tryz.f260 [.slice none 0 0,.int .i64 2] σ=some (.slice (some ⟨σ.length,0,none⟩) 0 (unk+1),σ++[some (.cells (List.replicate 2 (.slice none 0 0)))]):=by kernel_rfl
theorem grw3 (st:AE.Stat) (rf:CallA) (σ:Heap) (n:Nat):bodyA Tryz.prog st rf n Tryz.f260 [.slice none 0 0,.int .i64 3] σ=some (.slice (some ⟨σ.length,0,none⟩) 0 (unk+1),σ++[some (.cells (List.replicate 3 (.slice none 0 0)))]):=by kernel_rfl
theorem grw4 (st:AE.Stat) (rf:CallA) (σ:Heap) (n:Nat):bodyA Tryz.prog st rf n Tryz.f260 [.slice none 0 0,.int .i64 4] σ=some (.slice (some ⟨σ.length,0,none⟩) 0 (unk+1),σ++[some (.cells (List.replicate 4 (.slice none 0 0)))]):=by kernel_rfl
theorem grw5 (st:AE.Stat) (rf:CallA) (σ:Heap) (n:Nat):bodyA Tryz.prog st rf n Tryz.f260 [.slice none 0 0,.int .i64 5] σ=some (.slice (some ⟨σ.length,0,none⟩) 0 (unk+1),σ++[some (.cells (List.replicate 5 (.slice none 0 0)))]):=by kernel_rfl
theorem grw6 (st:AE.Stat) (rf:CallA) (σ:Heap) (n:Nat):bodyA Tryz.prog st rf n Tryz.f260 [.slice none 0 0,.int .i64 6] σ=some (.slice (some ⟨σ.length,0,none⟩) 0 (unk+1),σ++[some (.cells (List.replicate 6 (.slice none 0 0)))]):=by kernel_rfl
theorem grw7 (st:AE.Stat) (rf:CallA) (σ:Heap) (n:Nat):bodyA Tryz.prog st rf n Tryz.f260 [.slice none 0 0,.int .i64 7] σ=some (.slice (some ⟨σ.length,0,none⟩) 0 (unk+1),σ++[some (.cells (List.replicate 7 (.slice none 0 0)))]):=by kernel_rfl
theorem grw8 (st:AE.Stat) (rf:CallA) (σ:Heap) (n:Nat):bodyA Tryz.prog st rf n Tryz.f260 [.slice none 0 0,.int .i64 8] σ=some (.slice (some ⟨σ.length,0,none⟩) 0 (unk+1),σ++[some (.cells (List.replicate 8 (.slice none 0 0)))]):=by kernel_rfl
theorem grw9 (st:AE.Stat) (rf:CallA) (σ:Heap) (n:Nat):bodyA Tryz.prog st rf n Tryz.f260 [.slice none 0 0,.int .i64 9] σ=some (.slice (some ⟨σ.length,0,none⟩) 0 (unk+1),σ++[some (.cells (List.replicate 9 (.slice none 0 0)))]):=by kernel_rfl
theorem grw10 (st:AE.Stat) (rf:CallA) (σ:Heap) (n:Nat):bodyA Tryz.prog st rf n Tryz.f260 [.slice none 0 0,.int .i64 10] σ=some (.slice (some ⟨σ.length,0,none⟩) 0 (unk+1),σ++[some (.cells (List.replicate 10 (.slice none 0 0)))]):=by kernel_rfl
theorem grw11 (st:AE.Stat) (rf:CallA) (σ:Heap) (n:Nat):bodyA Tryz.prog st rf n Tryz.f260 [.slice none 0 0,.int .i64 11] σ=some (.slice (some ⟨σ.length,0,none⟩) 0 (unk+1),σ++[some (.cells (List.replicate 11 (.slice none 0 0)))]):=by kernel_rfl
theorem grw12 (st:AE.Stat) (rf:CallA) (σ:Heap) (n:Nat):bodyA Tryz.prog st rf n Tryz.f260 [.slice none 0 0,.int .i64 12] σ=some (.slice (some ⟨σ.length,0,none⟩) 0 (unk+1),σ++[some (.cells (List.replicate 12 (.slice none 0 0)))]):=by kernel_rfl
theorem grw (st:AE.Stat) (rf:CallA) (σ:Heap) (n:Nat) {m:Int}(h1:1<=m) (h2:m<=12):bodyA Tryz.prog st rf n Tryz.f260 [.slice none 0 0,.int .i64 m] σ=some (.slice (some ⟨σ.length,0,none⟩) 0 (unk+1),σ++[some (.cells (List.replicate m.toNat (.slice none 0 0)))]):=by
 obtain rfl | rfl | rfl | rfl | rfl | rfl | rfl | rfl | rfl | rfl | rfl | rfl:m=1\/m=2\/m=3\/m=4\/m=5\/m=6\/m=7\/m=8\/m=9\/m=10\/m=11\/m=12:=by omega
 ·exact grw1 st rf σ n
 ·exact grw2 st rf σ n
 ·exact grw3 st rf σ n
 ·exact grw4 st rf σ n
 ·exact grw5 st rf σ n
 ·exact grw6 st rf σ n
 ·exact grw7 st rf σ n
 ·exact grw8 st rf σ n
 ·exact grw9 st rf σ n
 ·exact grw10 st rf σ n
 ·exact grw11 st rf σ n
 ·exact grw12 st rf σ n
noncomputable def grwC:ConF:=fun args k=>match args with
 | [.v (.slice none 0 0),.v (.int .i64 m)]=>bif holds (1<=m/\m<=12) then k (fun b=>(.os b 0 0,[some ⟨1,.lst []⟩])) else none
 | _=>none
theorem grwC_ok {st:AE.Stat}(hx:Hx st) {z:Bool}:ConOkZ z Tryz.prog st 260 grwC:=by
 intro args k hk s C σ vs hS ha;unfold grwC at hk
 split at hk<;>first | (cases hk; done) | skip
 rename_i m;obtain ⟨hb,hk⟩:=bif_none hk;obtain ⟨m1,m2⟩:=holds_eq.1 hb;obtain ⟨v,ys,rfl,hv,hn⟩:=ha.cons_inv;obtain ⟨u,zs,rfl,hu,hz⟩:=hn.cons_inv;obtain rfl:=hz.nil_inv;cases hv;cases hu
 have ent:∀ n m',1<=m'->enterA Tryz.prog (runF Tryz.prog st n m') 260 [.slice none 0 0,.int .i64 m] σ=bodyA Tryz.prog st (runF Tryz.prog st n (m'-1)) n Tryz.f260 [.slice none 0 0,.int .i64 m] σ:=fun n m' hm=>by
  obtain ⟨m',rfl⟩:∃ q,m'=q+1:=⟨m'-1,by omega⟩
  have h1:(Tryz.f260.name== "runtime.NumGoroutine")=false:=by kernel_rfl
  have h2:Tryz.f260.body.isNone=false:=by kernel_rfl
  unfold enterA;rw [Tryz.func260];simp only [h1,h2,Bool.false_eq_true,if_false,runF,Tryz.func260,hx 260 rfl];rfl
 have h0:=st_more hS [] s;rw [List.append_nil,List.append_nil] at h0
 obtain ⟨p1,p2⟩:=h0.push (k:=1) (c:=.lst []) (l:=List.replicate m.toNat (.slice none 0 0)) (by decide) (by simp [DC.n]) trivial fun i f hi _=>absurd hi (Nat.not_lt_zero _)
 have nol:∀ id x,(noMu.put (List.replicate s (none:Option DBlk)).length (σ.length,1,(List.replicate m.toNat (Value.slice none 0 0)).length)) id=some x->s<=id/\x.1=σ.length:=fun id x hx=>by
  unfold Mu.put at hx;split at hx
  ·rename_i e;obtain rfl:=Option.some.inj hx;rw [List.length_replicate] at e
   exact ⟨by omega,rfl⟩
  ·cases hx
 refine ⟨_,hk,⟨.os _ _ _,fun id blk hb i f hi _=>?_⟩,_,_,C,_,⟨1,fun n m' _ hm=>(ent n m' hm).trans (grw st _ σ n m1 m2)⟩,p1,?_,fun id x hx=>(nol id x hx).1,by simp,fun b hb=>List.getElem?_append_left hb,fun b hl=>?_,fun b s o v hv=>.inl hv⟩
 ·cases id with
  | succ id=>simp at hb
  | zero =>
   obtain rfl:(⟨1,.lst []⟩:DBlk)=blk:=Option.some.inj (Option.some.inj hb);exact absurd hi (Nat.not_lt_zero _)
 ·refine .os _ _ _ σ.length 1 (List.replicate m.toNat (Value.slice none 0 0)).length 0 _ ?_ (by decide) (.inr ⟨rfl,by omega⟩)
  unfold Mu.put;rw [List.length_replicate,if_pos rfl]
 ·obtain ⟨id,blk,x,h1,h2⟩:=hl;have:=(nol id _ h2).2;exact Nat.le_of_eq this.symm
end Go.Proofs.YtigmkgampfbflaaGreatDoor
