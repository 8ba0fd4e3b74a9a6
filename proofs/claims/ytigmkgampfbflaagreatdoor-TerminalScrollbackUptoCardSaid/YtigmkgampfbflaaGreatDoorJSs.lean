/-
 The contracts of Write where rows have been scrolled out: printed characters that fit,and the end of a line.
 Conditions: none beyond those of the contracts.
-/
import Derived.Test.YtigmkgampfbflaaGreatDoorJSc4
import Derived.Test.YtigmkgampfbflaaGreatDoorJEt
import Derived.Shelf.Strings.Builder1
import Derived.Shelf.Strings.BuilderF
import Derived.Shelf.Strings.BuilderK
import Derived.Shelf.LaysM
import Derived.Ground.SlgnProg
import Derived.Test.YtigmkgampfbflaaGreatDoorProg
import Derived.Test.YtigmkgampfbflaaGreatDoorDeCon
import Derived.WalkKit
import Derived.BigCall
import Derived.LoopTactic
import Derived.Test.YtigmkgampfbflaaGreatDoorAeMpg
import Derived.Test.YtigmkgampfbflaaGreatDoorAeFast4
import Derived.Test.YtigmkgampfbflaaGreatDoorAeSub2
import Derived.KernelRfl
namespace Go.Proofs.YtigmkgampfbflaaGreatDoor
open Go Go.AE Go.DE Go.RowKit
theorem con_cvA {z:Bool}{P:Program}{st:AE.Stat}{f:FuncId}{F G:ConF}(h:ConOkZ z P st f G) (hl:∀ args k,F args k=some ()->∃ d d',Cv d' d/\Low d/\k (fun _=>(d,[]))=some ()/\G args (fun R=>bif holds (R=fun _=>(d',[])) then some () else none)=some ()):ConOkZ z P st f F:=fun args k hk s C σ vs hS ha=>by
 obtain ⟨d,d',hc,hlo,hk2,hG⟩:=hl args k hk;obtain ⟨R,hR,-,v,σ',C',μ',q1,q2,q3,q⟩:=h args _ hG s C σ vs hS ha;obtain rfl:=holds_eq.1 (bif_none hR).1;exact ⟨_,hk2,lowR_flat hlo,v,σ',C',μ',q1,q2,hc _ _ _ q3,q⟩
theorem back_low (R:Nat->Row) (n:Nat):Low (.sl false (backD R) 1 n):=.sl fun i f _ hf=>by
 obtain rfl:f=0:=by omega
 exact .sl fun j g _ _=>row_low _ _ _
theorem roT_ok {st:AE.Stat}(hx:Hx st):ConOkZ true Tryz.prog st 76 (roT rowsOn rowsGo):=by
 intro args k hk;unfold roT at hk
 split at hk<;>first | (cases hk; done) | skip
 rename_i t G n;split at hk
 ·obtain ⟨hb,hk0⟩:=bif_none hk
  refine con_cvA (F:=fun a k'=>bif holds (a=[.sl t G 1 n]) then k' (fun _=>(.sl false (backD fun i=>rowD (G i 0)) 1 n,[])) else none) (roC_ok hx) (fun a k' hk'=>?_) _ k (hT rfl hk0)
  obtain ⟨e,hk3⟩:=bif_none hk';obtain rfl:=holds_eq.1 e
  refine ⟨_,.sl false (rowsD (fun _=>false) fun i=>rowD (G i 0)) 1 n,Cv.sl fun i f hi hf=>.of ?_,back_low _ _,hk3,?_⟩
  ·obtain rfl:f=0:=by omega
   rfl
  ·exact hT (holds_eq.1 hb) (hT rfl rfl)
 ·refine roO_ok hx [.sl t G 1 n] k ?_;unfold roO;exact hk
theorem in35b {st:AE.Stat}(hx:Hx st):InOkZ Tryz.prog st (e35b rowsOn rowsGo tabsAre):=inZ0 hx Tryz.func35 (by kernel_rfl) (by kernel_rfl) rfl (fun _ h=>nomatch h) fun x h=>by
 simp only [List.mem_cons,List.not_mem_nil,or_false] at h
 rcases h with rfl | rfl
 ·exact roT_ok hx
 ·exact cbC_ok hx
structure WB.ok (y:WB):Prop where
 t:TSok y.w y.h y.x
 o:∀ j,j<y.h->gRow y.w (y.O j)
 n:y.n<=12
 b:∀ j,j<y.n->gRow y.w (y.B j)
theorem WB.cv (y:WB):CvL y.cells (y.cells.set 36 (.sl false (rowsD (fun _=>false) y.B) 1 y.n)):=cvl_at rfl fun i hi=>by
 have hi:i<42:=hi
 by_cases h:i=36
 ·subst h
  refine Cv.sl fun i f hi hf=>.of ?_
  obtain rfl:f=0:=by omega
  rfl
 ·have e:(y.cells.set 36 (.sl false (rowsD (fun _=>false) y.B) 1 y.n)).getD i .any=y.cells.getD i .any:=by
   rw [List.getD_eq_getElem?_getD,List.getD_eq_getElem?_getD,List.getElem?_set]
   rw [if_neg (fun e=>h e.symm)]
  rw [e]
  exact fun _ _ _ h=>h
theorem WB.tck {y:WB}(k:y.ok):tckW y.cells:=by
 have t:=k.t;have hw:=t.w1;have hw2:=t.w2;have hh:=t.h1;have hh2:=t.h2;have hr:=t.r;have hc:=t.c;have hn:=k.n
 refine ⟨_,y.cv,rfl,⟨⟨by show y.h<=9000000; omega,fun i hi=>(t.g i hi).sized (by omega)⟩,⟨by show y.h<=9000000; omega,fun i hi=>(k.o i hi).sized (by omega)⟩,⟨by show y.n<=9000000; omega,fun i hi=>(k.b i hi).sized (by omega)⟩,by show y.w<=9000000; omega,by show (0:Nat)<=9000000; omega,by show (0:Nat)<=9000000; omega⟩,?_⟩
 have gP:∀ {R:Nat->Row},(∀ j,j<y.h->gRow y.w (R j))->gridP (y.w:Int) (y.h:Int) R y.h:=fun g=>⟨by omega,by omega,by omega,by omega,rfl,fun j hj=>⟨by rw [(g j hj).1],(g j hj).rowF hw (by omega)⟩⟩
 refine ⟨gP t.g,gP k.o,rfl,rfl,?_,?_,(show akF (-1) (-1) 0=0 by decide),(show akF (-1) (-1) 0=0 by decide),(show setF 66 66 0=true by decide),(show setF 66 66 0=true by decide),(show (0:Int)<=0 by decide),?_,Int.le_refl _,rfl,(show ((y.n:Nat):Int)<=500 by omega),(show vdF ⟨#[]⟩=true by kernel_rfl),fun j hj=>(k.b j hj).rowF hw (by omega)⟩
 ·show insF y.x.r y.x.c y.x.p y.w y.h=true;have q:=t.q
  have eW:IntKind.i64.wrap ((y.w:Int)-1)=y.w-1:=W_in (by omega) (by omega)
  unfold insF;rw [eW]
  cases e:y.x.p with
  | false=>simp; omega
  | true=>have:=q e; simp; omega
 ·show insF 0 0 false y.w y.h=true;unfold insF
  simp; omega
 ·show (0:Int)<y.h;omega
def mcW (y:WB) (a b:Nat):List DV:=[iv y.w,iv y.h,.os a 0 y.h,iv y.w,iv y.h,.os b 0 y.h,iv y.x.r,iv y.x.c,bv y.x.p,iv 0,iv 0,bv false,iv (-1),iv (-1),iv 0,bv false,kv .u8 66,kv .u8 66,iv 0,iv (-1),iv (-1),iv 0,
 bv false,bv false,bv false,bv false,bv true,bv true,bv false,bv false,kv .u8 66,kv .u8 66,iv 0,iv 0,iv y.h,.sl false (tabsD y.T) 1 y.w,.sl false (backD y.B) 1 y.n,iv 0,evB,evB,evB,evB]
theorem wb_frz {y:WB}{σ:DHeap}{a b:Nat}(h4:σ[a]?=some (some (rwB y.h y.x.R))) (h5:σ[b]?=some (some (rwB y.h y.O))):fzq (.agg y.cells) (.agg (mcW y a b)) σ=some ():=by
 refine fzq_of ⟨[a,b],SubLZ.agg ?_,fun j hj blk hb i f hi hf=>?_⟩
 ·have z4:SubZ (fun _=>none) (zf σ [a,b]) (.sl false (rowsD (fun _=>false) y.x.R) 1 y.h) (.os a 0 y.h):=SubZ.fz0 (c:=.tab y.h (rowsD (fun _=>false) y.x.R)) (by unfold zf; simp [h4,rwB]) (Nat.le_refl _) fun _ _=>rfl
  have z5:SubZ (fun _=>none) (zf σ [a,b]) (.sl false (rowsD (fun _=>false) y.O) 1 y.h) (.os b 0 y.h):=SubZ.fz0 (c:=.tab y.h (rowsD (fun _=>false) y.O)) (by unfold zf; simp [h5,rwB]) (Nat.le_refl _) fun _ _=>rfl
  have v:∀ x,SubZ (fun _=>none) (zf σ [a,b]) (.v x) (.v x):=fun x=>(Sub.v x).z
  exact .cons (v _) (.cons (v _) (.cons z4 (.cons (v _) (.cons (v _) (.cons z5 (.cons (v _) (.cons (v _) (.cons (v _) (.cons (v _) (.cons (v _) (.cons (v _) (.cons (v _) (.cons (v _) (.cons (v _) (.cons (v _) (.cons (v _) (.cons (v _) (.cons (v _) (.cons (v _) (.cons (v _) (.cons (v _) (.cons (v _) (.cons (v _) (.cons (v _) (.cons (v _) (.cons (v _) (.cons (v _) (.cons (v _) (.cons (v _) (.cons (v _) (.cons (v _) (.cons (v _) (.cons (v _) (.cons (v _)
   (.cons (Sub.sl _ _ _ _).z (.cons (Sub.sl _ _ _ _).z (.cons (v _) (.cons (v _) (.cons (v _) (.cons (v _) (.cons (v _) .nil)))))))))))))))))))))))))))))))))))))))))
 ·have hj:j=a\/j=b:=by simpa using hj
  rcases hj with rfl | rfl
  ·rw [h4] at hb;obtain rfl:=Option.some.inj (Option.some.inj hb);exact .sl _ _ _ _
  ·rw [h5] at hb;obtain rfl:=Option.some.inj (Option.some.inj hb);exact .sl _ _ _ _
theorem wb_low (y:WB):Low (.agg y.cells):=.agg fun d hd=>by
 simp only [WB.cells,List.mem_cons,List.not_mem_nil,or_false] at hd
 rcases hd with rfl | rfl | rfl | rfl | rfl | rfl | rfl | rfl | rfl | rfl | rfl | rfl | rfl | rfl | rfl | rfl | rfl | rfl | rfl | rfl | rfl | rfl | rfl | rfl | rfl | rfl | rfl | rfl | rfl | rfl | rfl | rfl | rfl | rfl | rfl | rfl | rfl | rfl | rfl | rfl | rfl | rfl<;>first | exact .v _ | exact back_low _ _ | exact .sl fun i f _ _=>.sl fun j g _ _=>row_low _ _ _ | exact .sl fun i f _ _=>.v _
def wbOf (l:List DV):WB:=⟨(numD (l.getD 0 .any)).toNat,(numD (l.getD 1 .any)).toNat,⟨fun i=>rowD (slG (l.getD 2 .any) i 0),(numD (l.getD 6 .any)).toNat,(numD (l.getD 7 .any)).toNat,boolD (l.getD 8 .any)⟩,fun i=>rowD (slG (l.getD 5 .any) i 0),fun i=>boolD (slG (l.getD 35 .any) i 0),slN (l.getD 36 .any),fun i=>rowD (slG (l.getD 36 .any) i 0)⟩
theorem wb_of (y:WB):wbOf y.cells=y:=rfl
def WB.wr (y:WB) (s:ByteArray):WB:={ y with x:=runT y.w (fun i=>byteAt s i) s.size y.x }
def WB.nl (y:WB):WB:=if y.x.r+1<y.h then { y with x:=⟨y.x.R,y.x.r+1,0,false⟩ } else { y with x:=⟨scR y.x.R y.h y.w,y.x.r,0,false⟩,n:=y.n+1,B:=puR y.B y.n (y.x.R 0) }
def crlf:ByteArray:=⟨#[13,10]⟩
def WB.step (y:WB) (s:ByteArray):WB:=if s=crlf then y.nl else y.wr s
def wdQ (l:List DV) (s:ByteArray):Prop:=∃ y:WB,l=y.cells/\y.ok/\((s≠crlf/\s.size<=9000000/\prn s/\∀ m,m<s.size->fits y.h (runT y.w (fun i=>byteAt s i) m y.x))\/(s=crlf/\y.h<=8/\y.n<=11))
noncomputable def wdC (Q:List DV->ByteArray->Prop) (F:List DV->ByteArray->WB):ConF:=fun args k=>match args with
 | [.agg l,.v (.string s)]=>bif holds (Q l s) then k (fun _=>(.agg (F l s).cells,[])) else none
 | _=>none
theorem gon {w h:Nat}(w1:1<=w) (w2:w<=30) (h1:1<=h) (h2:h<=30) {R:Nat->Row}(g:∀ j,j<h->gRow w (R j)):rowsOn (rowsD (fun _=>false) R) h:=⟨⟨⟨by omega,fun i hi=>⟨isRow_of ((g i hi).sized (by omega)),by
  show 0<Row.n _;rw [(g i hi).1]
  omega⟩⟩,fun _ _=>rfl⟩,by omega⟩
theorem bon {w n:Nat}(w1:1<=w) (w2:w<=30) (h:n<=12) {B:Nat->Row}(g:∀ j,j<n->gRow w (B j)):rowsGo (backD B) n:=⟨⟨by omega,fun i hi=>⟨isRow_of ((g i hi).sized (by omega)),by
  show 0<Row.n _;rw [(g i hi).1]
  omega⟩⟩,fun _ _=>rfl⟩
theorem wrB_ok {st:AE.Stat}(hx:Hx st) (hv:VdOk st) (y:WB) (s:ByteArray) (hy:y.ok) (hs:s.size<=9000000) (hp:prn s) (hf:∀ m,m<s.size->fits y.h (runT y.w (fun i=>byteAt s i) m y.x)) :
  ConOkZ true Tryz.prog st 14 fun a k'=>bif holds (a=[.agg y.cells,sv s]) then k' (fun _=>(.agg (y.wr s).cells,[])) else none:=by
 have t:=hy.t;have hw:=t.w1;have hw2:=t.w2;have hh:=t.h1;have hh2:=t.h2;have hz:∀ j,j<s.size->prnQ (byteAt s j):=hp
 have fin:(WPX.f ⟨y.w,y.h,s.size,y.T,.sl false (backD y.B) 1 y.n,y.O,fun i=>byteAt s i,0,y.x⟩)=runT y.w (fun i=>byteAt s i) s.size y.x:=by
  show finT y.w (fun i=>byteAt s i) (s.size-0) 0 y.x=_
  have:=fin_run (w:=y.w) (z:=fun i=>byteAt s i) (x:=y.x) (s.size-0) 0
  rw [show runT y.w (fun i=>byteAt s i) 0 y.x=y.x from rfl] at this
  rw [this,Nat.zero_add,Nat.sub_zero]
 have okw:WPX.ok ⟨y.w,y.h,s.size,y.T,.sl false (backD y.B) 1 y.n,y.O,fun i=>byteAt s i,0,y.x⟩:=⟨Nat.zero_le _,hs,.sl _ _ _ _,t,hz,fun m hm=>by
  have hm:0+m<s.size:=hm
  have:=fin_run (w:=y.w) (z:=fun i=>byteAt s i) (x:=y.x) m 0
  rw [show runT y.w (fun i=>byteAt s i) 0 y.x=y.x from rfl] at this
  show fits y.h (finT y.w (fun i=>byteAt s i) m 0 y.x)
  rw [this,Nat.zero_add]
  exact hf m (by omega)⟩
 rcases Nat.eq_zero_or_pos s.size with h0 | h0
 ·have e:s=⟨#[]⟩:=by
   cases s with
   | mk d =>
    have:d.size=0:=h0;rw [Array.size_eq_zero_iff.1 this]
  subst e
  refine con_frz (E:=envG Tryz.prog gl0 [] [e35b rowsOn rowsGo tabsAre] [(11,tcC tckW),(36,feN feQ0)] noLp 1) rfl (glOk st) (envG_ok (fun _ h=>nomatch h) (one_inZ (in35b hx)) fun x h=>?_) Tryz.func14 (by kernel_rfl) (by kernel_rfl) (hx 14 rfl) (fun _ _ _ h=>nomatch h) fun args k hk=>?_
  ·simp only [List.mem_cons,List.not_mem_nil,or_false] at h
   rcases h with rfl | rfl
   ·exact (tcW_ok hx hv).z
   ·exact feN_ok hx
  obtain ⟨e,hk3⟩:=bif_none hk;obtain rfl:=holds_eq.1 e
  exact ⟨_,_,.self (.self .nil),wb_low y,hk3,(wb0_tree y rowsOn rowsGo tabsAre tckW feQ0 _).trans (hT (gon hw hw2 hh hh2 t.g) (hT (gon hw hw2 hh hh2 hy.o) (hT (bon hw hw2 hy.n hy.b) (hT ⟨⟨by omega,fun _ _=>rfl⟩,by omega⟩ (hT (WB.tck hy) (hT ⟨⟨rfl,rfl⟩,rfl⟩ (wb_frz (a:=4) (b:=5) rfl rfl)))))))⟩
 refine con_frz (E:=envG Tryz.prog gl0 [] [e35b rowsOn rowsGo tabsAre] [(11,tcC tckW),(36,feC feQ evG)] (lpOf [(250,wpI.g)]) 0) rfl (glOk st) (envG_ok (fun _ h=>nomatch h) (one_inZ (in35b hx)) fun x h=>?_) Tryz.func14 (by kernel_rfl) (by kernel_rfl) (hx 14 rfl) (lp_in (c0:=.loop (loopAt Tryz.f14 250)) (by kernel_rfl) (wp_ls hx hv)) fun args k hk=>?_
 ·simp only [List.mem_cons,List.not_mem_nil,or_false] at h
  rcases h with rfl | rfl
  ·exact (tcW_ok hx hv).z
  ·exact feC_ok hx
 obtain ⟨e,hk3⟩:=bif_none hk;obtain rfl:=holds_eq.1 e
 refine ⟨[.agg y.cells,sv s],_,.self (.self .nil),wb_low (y.wr s),hk3,(wb_tree y s rowsOn rowsGo tabsAre tckW feQ evG _).trans (hT (gon hw hw2 hh hh2 t.g) (hT (gon hw hw2 hh hh2 hy.o) (hT (bon hw hw2 hy.n hy.b) (hT ⟨⟨by omega,fun _ _=>rfl⟩,by omega⟩ (hT (WB.tck hy) (hT ⟨⟨rfl,rfl⟩,hs,hp⟩ (dT h0 (dT h0 (hT ⟨okw,[],?_⟩ ?_)))))))))⟩
 ·refine .of (im:=[some 1,some 4,some 5,some 6,some 7]) (.cons (.po rfl) (.cons (.po rfl) (.cons (.po rfl) (.cons (.sl _ _ _ _) (.cons (.v _) (.cons (.v _) .nil)))))) rfl
   ⟨⟨1,_,rfl,rfl,zb1_kb.sub⟩,⟨4,_,rfl,rfl,rwB_sub y.h y.x.R⟩,⟨5,_,rfl,rfl,rwB_sub y.h y.O⟩,⟨6,_,rfl,rfl,mc_sub (r:=y.x.r) (c:=y.x.c) (p:=y.x.p) (r0:=ren 8 []) rfl rfl (.sl _ _ _ _) rfl (Nat.le_refl _) rfl rfl rfl fun f _ _ _=>rfl⟩,⟨7,_,rfl,rfl,rfl,Nat.le_refl _,trivial,fun i f hi hf=>?_⟩,trivial⟩ rfl (by decide)
  have hi:i<1:=hi
  obtain rfl:i=0:=by omega
  have hf:f<3:=hf
  match f,hf with
  | 0,_=>exact .of_clo (.v _)
  | 1,_=>exact .of_clo (.v _)
  | 2,_=>exact .of_clo (.v _)
 ·have key:∀ (F:TS) (σ:DHeap),F=runT y.w (fun i=>byteAt s i) s.size y.x->σ[4]?=some (some (rwB y.h F.R))->σ[5]?=some (some (rwB y.h y.O))->fzq (.agg (y.wr s).cells) (.agg (mcL y.w y.h F.r F.c F.p y.T (.sl false (backD y.B) 1 y.n))) σ=some ():=fun F σ e h4 h5=>by
   subst e;exact wb_frz (y:=y.wr s) (a:=4) (b:=5) h4 h5
  exact key _ _ fin rfl rfl
end Go.Proofs.YtigmkgampfbflaaGreatDoor
namespace Go.Proofs.YtigmkgampfbflaaGreatDoor
open Go Go.AE Go.DE Go.RowKit
noncomputable abbrev e117:InE:=⟨117,Tryz.f117,envH Tryz.prog gl0 [e78] [] noLp 0⟩
noncomputable abbrev e79:InE:=⟨79,Tryz.f79,envH Tryz.prog gl0 [e117] [] noLp 0⟩
theorem fel_tree (Q:ByteArray->ByteArray->Prop) (K:DV->DHeap->Option Unit):bodyD Tryz.prog (envH Tryz.prog gl0 [e79] [(34,prpC Q)] noLp 4 [] true) Tryz.f36 [.agg [iv 0,sv ⟨#[]⟩,sv ⟨#[]⟩],sv ⟨#[13,10]⟩] [] (fun d σ=>K d σ) =
  bif holds (Q { data:=#[] } { data:=#[] }) then K (.tup [.agg [iv 0,sv ⟨#[]⟩,sv ⟨#[]⟩],.os 8 0 2]) [some ⟨3,.lst [[iv 0,sv ⟨#[]⟩,sv ⟨#[]⟩]]⟩,some ⟨3,updF (.lst [[iv 0,sv ⟨#[]⟩,sv ⟨#[]⟩]]) 0 [iv 0,sv ⟨#[]⟩,sv ⟨#[]⟩]⟩,some ⟨4,.upd (updF (.lst [[iv 0,sv ⟨#[]⟩,sv ⟨#[]⟩,DV.v (Value.slice none 0 0)]]) 0 [iv 0,sv ⟨#[]⟩,sv ⟨#[]⟩,.os 5 0 1]) 0 3 (.os 8 0 2)⟩,some ⟨7,.lst [[iv 2,kv .i32 0,kv .u8 13,kv .u8 0,sv ⟨#[]⟩,DV.v (Value.slice none 0 0),sv ⟨#[]⟩]]⟩,some ⟨7,.lst [[iv 2,kv .i32 0,kv .u8 13,kv .u8 0,sv ⟨#[]⟩,DV.v (Value.slice none 0 0),sv ⟨#[]⟩]]⟩,none,some ⟨7,.lst [[iv 2,kv .i32 0,kv .u8 10,kv .u8 0,sv ⟨#[]⟩,DV.v (Value.slice none 0 0),sv ⟨#[]⟩]]⟩,some ⟨7,.lst [[iv 2,kv .i32 0,kv .u8 10,kv .u8 0,sv ⟨#[]⟩,DV.v (Value.slice none 0 0),sv ⟨#[]⟩]]⟩,some ⟨7,.lst [[iv 2,kv .i32 0,kv .u8 13,kv .u8 0,sv ⟨#[]⟩,DV.v (Value.slice none 0 0),sv ⟨#[]⟩],[iv 2,kv .i32 0,kv .u8 10,kv .u8 0,sv ⟨#[]⟩,DV.v (Value.slice none 0 0),sv ⟨#[]⟩]]⟩]
  else none:=by
 kernel_rfl
end Go.Proofs.YtigmkgampfbflaaGreatDoor
namespace Go.Proofs.YtigmkgampfbflaaGreatDoor
open Go Go.AE Go.DE Go.RowKit
def flQ (p b s:ByteArray):Prop:=nilQ p b/\s=crlf
theorem in117 {st:AE.Stat}(hx:Hx st):InOk Tryz.prog st e117:=⟨Tryz.func117,by kernel_rfl,by kernel_rfl,hx 117 rfl,envH_ok (one_in (in78 hx)) (fun _ h=>nomatch h),glOk st,(fun _ _ _ h=>nomatch h),rfl⟩
theorem in79 {st:AE.Stat}(hx:Hx st):InOk Tryz.prog st e79:=⟨Tryz.func79,by kernel_rfl,by kernel_rfl,hx 79 rfl,envH_ok (one_in (in117 hx)) (fun _ h=>nomatch h),glOk st,(fun _ _ _ h=>nomatch h),rfl⟩
theorem evC_clo (c:Int) {f:Nat}(hf:f<7):Clo ((evC c).getD f .any):=by
 match f,hf with
 | 0,_ | 1,_ | 2,_ | 3,_ | 4,_ | 5,_ | 6,_=>exact .v _
theorem evC_low (c:Int) {f:Nat}(hf:f<7):Low ((evC c).getD f .any):=by
 match f,hf with
 | 0,_ | 1,_ | 2,_ | 3,_ | 4,_ | 5,_ | 6,_=>exact .v _
theorem evL_clo (i:Nat) {f:Nat}(hf:f<7):Clo (evL i f):=by
 match i with
 | 0=>exact evC_clo 13 hf
 | _+1=>exact evC_clo 10 hf
theorem evL_low (i:Nat) {f:Nat}(hf:f<7):Low (evL i f):=by
 match i with
 | 0=>exact evC_low 13 hf
 | _+1=>exact evC_low 10 hf
theorem flC_ok {st:AE.Stat}(hx:Hx st):ConOkZ true Tryz.prog st 36 (flC flQ):=by
 refine con_frz (E:=envH Tryz.prog gl0 [e79] [(34,prpC nilQ)] noLp 4 [] true) rfl (glOk st) (envH_ok (one_in (in79 hx)) fun x h=>?_) Tryz.func36 (by kernel_rfl) (by kernel_rfl) (hx 36 rfl) (fun _ _ _ h=>nomatch h) fun args k hk=>?_
 ·obtain rfl:=List.mem_singleton.1 h;exact (prpC_ok hx).z
 unfold flC at hk
 split at hk<;>first | (cases hk; done) | skip
 rename_i p b s;obtain ⟨hb,hk0⟩:=bif_none hk;clear hk;obtain ⟨⟨rfl,rfl⟩,rfl⟩:=holds_eq.1 hb
 refine ⟨[prs,sv crlf],_,.self (.self .nil),.tup fun d hd=>?_,hk0,(fel_tree nilQ _).trans (hT ⟨rfl,rfl⟩ (frzU prs_clo.1 (id:=8) rfl (by decide) (fun i f hi hf=>?_) fun i f hi hf=>?_))⟩
 ·simp only [List.mem_cons,List.not_mem_nil,or_false] at hd
  rcases hd with rfl | rfl
  ·exact prs_clo.2
  ·exact .sl fun i f _ hf=>evL_low i hf
 ·have hi:i<2:=hi
  match i,f,hi,hf with
  | 0,0,_,_ | 0,1,_,_ | 0,2,_,_ | 0,3,_,_ | 0,4,_,_ | 0,5,_,_ | 0,6,_,_=>exact .v _
  | 1,0,_,_ | 1,1,_,_ | 1,2,_,_ | 1,3,_,_ | 1,4,_,_ | 1,5,_,_ | 1,6,_,_=>exact .v _
 ·match i,f,hi,hf with
  | 0,0,_,_ | 0,1,_,_ | 0,2,_,_ | 0,3,_,_ | 0,4,_,_ | 0,5,_,_ | 0,6,_,_=>rfl
  | 1,0,_,_ | 1,1,_,_ | 1,2,_,_ | 1,3,_,_ | 1,4,_,_ | 1,5,_,_ | 1,6,_,_=>rfl
theorem in37c {st:AE.Stat}(hx:Hx st) (hv:VdOk st) (hk:∀ a σ,st.ext 157 a σ=RL.app σ (blkX a σ.length)):InOkZ Tryz.prog st (e37c fdQ fdR fdN gridGo rowsAre evOk):=by
 refine inZ0 hx Tryz.func37 (by kernel_rfl) (by kernel_rfl) rfl (one_inZ (inZ0 hx Tryz.func83 (by kernel_rfl) (by kernel_rfl) rfl (fun e he=>?_) fun _ h=>nomatch h)) fun x h=>?_
 ·simp only [List.mem_cons,List.not_mem_nil,or_false] at he
  rcases he with rfl | rfl
  ·exact inZ0 hx Tryz.func125 (by kernel_rfl) (by kernel_rfl) rfl (fun _ h=>nomatch h) (fun _ h=>nomatch h)
  ·refine inZ0 hx Tryz.func126 (by kernel_rfl) (by kernel_rfl) rfl (one_inZ (inZ0 hx Tryz.func141 (by kernel_rfl) (by kernel_rfl) rfl (fun _ h=>nomatch h) fun x h=>?_)) (fun x h=>?_)
   ·simp only [List.mem_cons,List.not_mem_nil,or_false] at h
    rcases h with rfl | rfl
    ·exact scC_ok hx hv hk
    ·exact puC_ok hx
   ·simp only [List.mem_cons,List.not_mem_nil,or_false] at h
    rcases h with rfl | rfl
    ·exact (bsC_ok hx).z
    ·exact (fdC_ok hx).z
 ·simp only [List.mem_cons,List.not_mem_nil,or_false] at h;subst h;exact vkC_ok hx
theorem fd_last {h r:Nat}(hf:r+1=h):fdR h h r=r/\fdN h r=1:=by
 unfold fdR fdN
 rw [if_pos (by omega),if_pos (by omega)]
 exact ⟨rfl,rfl⟩
theorem nlB_ok {st:AE.Stat}(hx:Hx st) (hv:VdOk st) (hk7:∀ a σ,st.ext 157 a σ=RL.app σ (blkX a σ.length)) (y:WB) (hy:y.ok) (h8:y.h<=8) (h11:y.n<=11) :
  ConOkZ true Tryz.prog st 14 fun a k'=>bif holds (a=[.agg y.cells,sv crlf]) then k' (fun _=>(.agg y.nl.cells,[])) else none:=by
 have t:=hy.t;have hw:=t.w1;have hw2:=t.w2;have hh:=t.h1;have hh2:=t.h2;have hr:=t.r
 refine con_frz (E:=envG Tryz.prog gl0 [] [e35b rowsOn rowsGo tabsAre,e37c fdQ fdR fdN gridGo rowsAre evOk] [(11,tcC tckW),(36,flC flQ)] noLp 4) rfl (glOk st) (envG_ok (fun _ h=>nomatch h) (fun e he=>?_) fun x h=>?_) Tryz.func14 (by kernel_rfl) (by kernel_rfl) (hx 14 rfl) (fun _ _ _ h=>nomatch h) fun args k hk=>?_
 ·simp only [List.mem_cons,List.not_mem_nil,or_false] at he
  rcases he with rfl | rfl
  ·exact in35b hx
  ·exact in37c hx hv hk7
 ·simp only [List.mem_cons,List.not_mem_nil,or_false] at h
  rcases h with rfl | rfl
  ·exact (tcW_ok hx hv).z
  ·exact flC_ok hx
 obtain ⟨e,hk3⟩:=bif_none hk;obtain rfl:=holds_eq.1 e
 refine ⟨_,_,.self (.self .nil),wb_low y.nl,hk3,(wl_tree y rowsOn rowsGo tabsAre tckW evOk flQ fdQ fdR fdN gridGo rowsAre _).trans (hT (gon hw hw2 hh hh2 t.g) (hT (gon hw hw2 hh hh2 hy.o) (hT (bon hw hw2 hy.n hy.b) (hT ⟨⟨by omega,fun _ _=>rfl⟩,by omega⟩ (hT (WB.tck hy) (hT ⟨⟨rfl,rfl⟩,rfl⟩ (hT (.inr ⟨13,rfl,by decide,by decide⟩) (hT (.inr ⟨10,rfl,by decide,by decide⟩) (hT ⟨⟨by omega,by omega,by omega,by omega⟩,by omega,by omega,by omega,by omega,by omega,by omega,by omega⟩ ?_)))))))))⟩
 by_cases hf:y.x.r+1<y.h
 ·have e2:y.nl={ y with x:=⟨y.x.R,y.x.r+1,0,false⟩ }:=if_pos hf
  obtain ⟨eR,eN⟩:=fd_next hf;rw [eN,e2]
  refine dF (by omega) ?_
  rw [eR]
  exact wb_frz (y:={ y with x:=⟨y.x.R,y.x.r+1,0,false⟩ }) (a:=4) (b:=5) rfl rfl
 ·have e2:y.nl={ y with x:=⟨scR y.x.R y.h y.w,y.x.r,0,false⟩,n:=y.n+1,B:=puR y.B y.n (y.x.R 0) }:=if_neg hf
  obtain ⟨eR,eN⟩:=fd_last (h:=y.h) (r:=y.x.r) (by omega)
  rw [eN,e2]
  have eH:IntKind.i64.wrap ((y.h:Int)-0)=y.h:=by rw [W_in (by omega) (by omega)]; omega
  have eH2:IntKind.i64.wrap (0-(y.h:Int))=-y.h:=by rw [W_in (by omega) (by omega)]; omega
  rw [eH,eH2]
  have q:gridGo y.w y.h (rowsD (fun _=>false) y.x.R) y.h:=⟨by omega,by omega,by omega,by omega,rfl,by omega,fun i hi=>⟨isRow_of ((t.g i hi).sized (by omega)),by show ((y.x.R i).n:Int)=y.w; rw [(t.g i hi).1],(t.g i hi).rowF hw (by omega)⟩⟩
  have hM:(if (if (y.h:Int)<1 then (y.h:Int) else 1) > -(y.h:Int) then (if (y.h:Int)<1 then (y.h:Int) else 1) else -(y.h:Int))=1:=by
   rw [if_neg (show ¬ (y.h:Int)<1 by omega),if_pos (by omega)]
  have b1:rowsAre (rowsD (fun _=>false) y.x.R) 1:=⟨by omega,fun i hi=>by
   obtain rfl:i=0:=by omega
   exact ⟨isRow_of ((t.g 0 hh).sized (by omega)),by
    show 0<(y.x.R 0).n;rw [(t.g 0 hh).1];omega⟩⟩
  simp only [Nat.zero_add]
  refine dT (by decide) (dT (Nat.le_refl _) (hT ⟨q,trivial,trivial,hM,trivial,trivial,trivial,h8,(show (y.w:Int)<=30 by omega)⟩ (hT ⟨(bon hw hw2 hy.n hy.b).1,b1,h11⟩ ?_)))
  rw [eR]
  exact wb_frz (y:={ y with x:=⟨scR y.x.R y.h y.w,y.x.r,0,false⟩,n:=y.n+1,B:=puR y.B y.n (y.x.R 0) }) (a:=13) (b:=5) rfl rfl
theorem wnC_ok {st:AE.Stat}(hx:Hx st) (hv:VdOk st) (hk7:∀ a σ,st.ext 157 a σ=RL.app σ (blkX a σ.length)):ConOkZ true Tryz.prog st 14 (wdC wdQ fun l s=>(wbOf l).step s):=by
 intro args k hk;unfold wdC at hk
 split at hk<;>first | (cases hk; done) | skip
 rename_i l s;obtain ⟨hb,hk0⟩:=bif_none hk;clear hk;obtain ⟨y,rfl,hy,h⟩:=holds_eq.1 hb
 dsimp only at hk0
 rw [wb_of] at hk0;unfold WB.step at hk0
 rcases h with ⟨hc,hs,hp,hf⟩ | ⟨rfl,h8,h11⟩
 ·rw [if_neg hc] at hk0;exact wrB_ok hx hv y s hy hs hp hf _ k (hT rfl hk0)
 ·rw [if_pos rfl] at hk0;exact nlB_ok hx hv hk7 y hy h8 h11 _ k (hT rfl hk0)
end Go.Proofs.YtigmkgampfbflaaGreatDoor
namespace Go.Proofs
open Go.Shelf
def Tryz.lays166_ren:Go.Shelf.Ren:=⟨fun | 166=>61 | 240=>103 | 276=>161 | n=>n,fun | 0=>0 | 3=>3 | 4=>4 | 5=>5 | 9=>9 | 20=>20 | 37=>82 | 70=>99 | 72=>101 | 75=>105 | 80=>108 | 164=>197 | n=>n,fun | n=>n⟩
theorem Tryz.lays166:Go.Proofs.Lays.n166 Tryz.prog Tryz.lays166_ren:={
 mixed:=by kernel_rfl
 f166:=Tryz.func61.trans (congrArg some (by kernel_rfl))
 f240:=Tryz.func103.trans (congrArg some (by kernel_rfl))
 f276:=Tryz.func161.trans (congrArg some (by kernel_rfl))
 t0:=Tryz.underlying0
 a0:=Tryz.isAgg0
 z0:=Tryz.sizeOf0
 v0:=Tryz.zeroValue0
 t3:=Tryz.underlying3
 a3:=Tryz.isAgg3
 z3:=Tryz.sizeOf3
 v3:=Tryz.zeroValue3
 t4:=Tryz.underlying4
 a4:=Tryz.isAgg4
 z4:=Tryz.sizeOf4
 v4:=Tryz.zeroValue4
 t9:=Tryz.underlying9
 a9:=Tryz.isAgg9
 z9:=Tryz.sizeOf9
 v9:=Tryz.zeroValue9
 t20:=Tryz.underlying20
 a20:=Tryz.isAgg20
 z20:=Tryz.sizeOf20
 v20:=Tryz.zeroValue20
 t37:=Tryz.underlying82
 a37:=Tryz.isAgg82
 z37:=Tryz.sizeOf82
 v37:=Tryz.zeroValue82
 t70:=Tryz.underlying99
 a70:=Tryz.isAgg99
 z70:=Tryz.sizeOf99
 v70:=Tryz.zeroValue99
 t72:=Tryz.underlying101
 a72:=Tryz.isAgg101
 z72:=Tryz.sizeOf101
 v72:=Tryz.zeroValue101
 t75:=Tryz.underlying105
 a75:=Tryz.isAgg105
 z75:=Tryz.sizeOf105
 v75:=Tryz.zeroValue105
 t164:=Tryz.underlying197
 a164:=Tryz.isAgg197
 z164:=Tryz.sizeOf197
 v164:=Tryz.zeroValue197 }
theorem Tryz.Builder_Extra_166:Builder.Extra Tryz.prog Tryz.lays166_ren:={
 sizeBuilder:=by kernel_rfl
 liesBuilder:=by kernel_rfl
 t5:=Tryz.underlying5
 a5:=Tryz.isAgg5
 z5:=Tryz.sizeOf5
 v5:=Tryz.zeroValue5
 infoByte:=by kernel_rfl
 cellsByte:=by kernel_rfl
 sizeByte:=by kernel_rfl
 neB5:=by decide }
def Tryz.lays169_ren:Go.Shelf.Ren:=⟨fun | 169=>62 | n=>n,fun | 0=>0 | 3=>3 | 5=>5 | 9=>9 | 37=>82 | 70=>99 | 72=>101 | 127=>149 | n=>n,fun | n=>n⟩
theorem Tryz.lays169:Go.Proofs.Lays.n169 Tryz.prog Tryz.lays169_ren:={
 mixed:=by kernel_rfl
 f169:=Tryz.func62.trans (congrArg some (by kernel_rfl))
 t0:=Tryz.underlying0
 a0:=Tryz.isAgg0
 z0:=Tryz.sizeOf0
 v0:=Tryz.zeroValue0
 t3:=Tryz.underlying3
 a3:=Tryz.isAgg3
 z3:=Tryz.sizeOf3
 v3:=Tryz.zeroValue3
 t9:=Tryz.underlying9
 a9:=Tryz.isAgg9
 z9:=Tryz.sizeOf9
 v9:=Tryz.zeroValue9
 t37:=Tryz.underlying82
 a37:=Tryz.isAgg82
 z37:=Tryz.sizeOf82
 v37:=Tryz.zeroValue82
 t70:=Tryz.underlying99
 a70:=Tryz.isAgg99
 z70:=Tryz.sizeOf99
 v70:=Tryz.zeroValue99
 t72:=Tryz.underlying101
 a72:=Tryz.isAgg101
 z72:=Tryz.sizeOf101
 v72:=Tryz.zeroValue101
 t127:=Tryz.underlying149
 a127:=Tryz.isAgg149
 z127:=Tryz.sizeOf149
 v127:=Tryz.zeroValue149 }
theorem Tryz.Builder_Extra_169:Builder.Extra Tryz.prog Tryz.lays169_ren:={
 sizeBuilder:=by kernel_rfl
 liesBuilder:=by kernel_rfl
 t5:=Tryz.underlying5
 a5:=Tryz.isAgg5
 z5:=Tryz.sizeOf5
 v5:=Tryz.zeroValue5
 infoByte:=by kernel_rfl
 cellsByte:=by kernel_rfl
 sizeByte:=by kernel_rfl
 neB5:=by decide }
open Go.RowKit in
theorem Tryz.Builder_WriteString (B b:Nat) (bs:List Value) (s:ByteArray) (w:World) (h:Lib.IsBuilder 101 5 B b bs w) (hlen:bs.length+s.size<=140737488355328) (hBw:B<=w.heap.size) :
  Calls Tryz.prog 61 #[.pointer (some ⟨b,0,none⟩),.string s] w fun e w'=>e=.returned (.tuple #[.int .i64 s.size,.nilIface])/\(Lib.BuilderAt 101 5 B b (.pointer (some ⟨b,0,none⟩)) (bs++Lib.strCells s) w'/\Below B w w'):=Any.Builder_WriteString Tryz.lays166 Tryz.Builder_Extra_166 B b bs s w h hlen hBw
open Go.RowKit in
theorem Tryz.Builder_String_any (B b:Nat) (l:List UInt8) (w:World) (h:Lib.IsBuilder 101 5 B b (Lib.byteCells l) w) (hBw:B<=w.heap.size) :
  Calls Tryz.prog 62 #[.pointer (some ⟨b,0,none⟩)] w fun e w'=>e=.returned (.string ⟨l.toArray⟩)/\Below B w w':=Any.Builder_String_any Tryz.lays169 Tryz.Builder_Extra_169 B b l w h hBw
end Go.Proofs
namespace Go.Proofs.YtigmkgampfbflaaGreatDoor
open Go Go.AE Go.DE Go.RowKit
theorem bld_keep {B b:Nat}{bs:List Value}{w w':World}(h:Lib.IsBuilder 101 5 B b bs w) (hk:∀ k,k<w.heap.size->w'.heap[k]?=w.heap[k]?):Lib.IsBuilder 101 5 B b bs w':=by
 have key:∀ p,Lib.BuilderAt 101 5 B b p bs w->Lib.BuilderAt 101 5 B b p bs w':=by
  rintro p ⟨h1,v,h2,⟨h3,h4⟩,h5⟩
  refine ⟨h1,v,(hk b (Array.getElem?_eq_some_iff.1 h2).1).trans h2,⟨h3,h4.imp id ?_⟩,h5⟩
  rintro ⟨g,cap,cur,e,q1,q2,q3⟩
  exact ⟨g,cap,cur,e,q1,(hk g (Array.getElem?_eq_some_iff.1 q2).1).trans q2,q3⟩
 exact h.imp (key _) (key _)
def upTo (f:Nat->ByteArray):Nat->List UInt8
 | 0=>[]
 | k+1=>upTo f k++(f k).data.toList
theorem upTo_len {f:Nat->ByteArray}(h:∀ k,k<5->(f k).size<=1000):∀ {k:Nat},k<=5->(upTo f k).length<=1000*k
 | 0,_=>by simp [upTo]
 | k+1,hk=>by
  have h1:=upTo_len h (k:=k) (by omega)
  have h2:=h k (by omega)
  have h3:(f k).data.toList.length=(f k).size:=Array.length_toList;simp only [upTo,List.length_append,h3];omega
set_option maxRecDepth 100000 in
set_option maxHeartbeats 8000000 in
theorem text_calls (bk o c:Nat) (f:Nat->ByteArray) (w0 x0 y0 z0:Int) (w1 x1 y1 z1:Int) (w2 x2 y2 z2:Int) (w3 x3 y3 z3:Int) (w4 x4 y4 z4:Int) (w:World) (hs:∀ k,k<5->(f k).size<=1000) (h00:w.cell? ⟨bk,o,none⟩=some (.string (f 0))) (h01:w.cell? ⟨bk,o+1,none⟩=some (.int .i64 w0)) (h02:w.cell? ⟨bk,o+2,none⟩=some (.int .i64 x0)) (h03:w.cell? ⟨bk,o+3,none⟩=some (.int .i64 y0)) (h04:w.cell? ⟨bk,o+4,none⟩=some (.int .i64 z0)) (h10:w.cell? ⟨bk,o+5,none⟩=some (.string (f 1))) (h11:w.cell? ⟨bk,o+6,none⟩=some (.int .i64 w1)) (h12:w.cell? ⟨bk,o+7,none⟩=some (.int .i64 x1)) (h13:w.cell? ⟨bk,o+8,none⟩=some (.int .i64 y1)) (h14:w.cell? ⟨bk,o+9,none⟩=some (.int .i64 z1)) (h20:w.cell? ⟨bk,o+10,none⟩=some (.string (f 2))) (h21:w.cell? ⟨bk,o+11,none⟩=some (.int .i64 w2)) (h22:w.cell? ⟨bk,o+12,none⟩=some (.int .i64 x2)) (h23:w.cell? ⟨bk,o+13,none⟩=some (.int .i64 y2)) (h24:w.cell? ⟨bk,o+14,none⟩=some (.int .i64 z2)) (h30:w.cell? ⟨bk,o+15,none⟩=some (.string (f 3))) (h31:w.cell? ⟨bk,o+16,none⟩=some (.int .i64 w3)) (h32:w.cell? ⟨bk,o+17,none⟩=some (.int .i64 x3)) (h33:w.cell? ⟨bk,o+18,none⟩=some (.int .i64 y3)) (h34:w.cell? ⟨bk,o+19,none⟩=some (.int .i64 z3)) (h40:w.cell? ⟨bk,o+20,none⟩=some (.string (f 4))) (h41:w.cell? ⟨bk,o+21,none⟩=some (.int .i64 w4)) (h42:w.cell? ⟨bk,o+22,none⟩=some (.int .i64 x4)) (h43:w.cell? ⟨bk,o+23,none⟩=some (.int .i64 y4)) (h44:w.cell? ⟨bk,o+24,none⟩=some (.int .i64 z4)) :
  Calls Tryz.prog 24 #[.slice (some ⟨bk,o,none⟩) 5 c] w fun e w'=>e=.returned (.string ⟨(upTo f 5).toArray⟩)/\Below w.heap.size w w':=by
 have hB0:=Lib.fresh_isBuilder 101 5 w;have hlt:bk<w.heap.size:=World.block_lt_of_cell? _ _ h00
 go_enter Tryz.func24,Tryz.ntmps24
 go_wp2
 go_loopw [8] (fun i wr=>∃ (k:Nat),k<=5/\i=.int .i64 k/\Below w.heap.size w wr/\Lib.IsBuilder 101 5 w.heap.size w.heap.size (Lib.byteCells (upTo f k)) wr) (fun i _=>5-(intOf i).toNat)
 case atStart =>
  exact ⟨0,Nat.zero_le _,rfl,(Below.refl _ w).alloc (Nat.le_refl _) _,by simpa [upTo,Lib.byteCells] using hB0⟩
 case round =>
  obtain ⟨k,hk,rfl,hB,hI⟩:=hrel
  by_cases hkn:k<5
  case neg =>
   have hkn:k=5:=by omega
   subst hkn
   go_wp2_with fail
   refine (Tryz.Builder_String_any w.heap.size w.heap.size (upTo f 5) _ hI hB.size).mono ?_
   rintro e W1 ⟨rfl,hb1⟩
   go_wp2
   go_ret
   exact ⟨rfl,hB.trans hb1⟩
  by_cases hk0:k=0
  case pos =>
   subst hk0;have g0:=(hB.cell (p:=⟨bk,_,none⟩) hlt).trans h00;have g1:=(hB.cell (p:=⟨bk,_,none⟩) hlt).trans h01;have g2:=(hB.cell (p:=⟨bk,_,none⟩) hlt).trans h02;have g3:=(hB.cell (p:=⟨bk,_,none⟩) hlt).trans h03;have g4:=(hB.cell (p:=⟨bk,_,none⟩) hlt).trans h04
   have hw:=upTo_len hs (k:=0) (by decide)
   have hsi:=hs 0 (by decide)
   clear hB0 hs h00 h01 h02 h03 h04 h10 h11 h12 h13 h14 h20 h21 h22 h23 h24 h30 h31 h32 h33 h34 h40 h41 h42 h43 h44
   go_wp2_with fail
   have hI2:Lib.IsBuilder 101 5 w.heap.size w.heap.size (Lib.byteCells (upTo f 0)) (wr.alloc (Obj.cells #[Value.string (f 0),Value.int IntKind.i64 w0,Value.int IntKind.i64 x0,Value.int IntKind.i64 y0,Value.int IntKind.i64 z0] 103)):=bld_keep hI fun j hj=>Below.heap_alloc wr _ j hj
   have hB2:Below w.heap.size w (wr.alloc (Obj.cells #[Value.string (f 0),Value.int IntKind.i64 w0,Value.int IntKind.i64 x0,Value.int IntKind.i64 y0,Value.int IntKind.i64 z0] 103)):=hB.alloc hB.size _
   have hws:=Tryz.Builder_WriteString w.heap.size w.heap.size (Lib.byteCells (upTo f 0)) (f 0) _ hI2 (by simp only [Lib.byteCells,List.length_map]; omega) hB2.size
   refine hws.mono ?_;clear hws
   rintro e W3 ⟨rfl,h3,b3⟩
   have hB3:Below w.heap.size w W3:=hB2.trans b3
   have hI3:Lib.IsBuilder 101 5 w.heap.size w.heap.size (Lib.byteCells (upTo f (0+1))) W3:=by
    refine .inr ?_
    have e:Lib.byteCells (upTo f 0)++Lib.strCells (f 0)=Lib.byteCells (upTo f (0+1)):=by
     rw [Lib.strCells_eq];simp [upTo,Lib.byteCells]
    rw [e] at h3;exact h3
   clear h3 hI2 hI hB2 hB
   go_wp2
   go_roundw
   case rel=>exact ⟨0+1,by decide,by go_num,hB3,hI3⟩
   case measure=>simp [intOf]
  by_cases hk1:k=1
  case pos =>
   subst hk1;have g0:=(hB.cell (p:=⟨bk,_,none⟩) hlt).trans h10;have g1:=(hB.cell (p:=⟨bk,_,none⟩) hlt).trans h11;have g2:=(hB.cell (p:=⟨bk,_,none⟩) hlt).trans h12;have g3:=(hB.cell (p:=⟨bk,_,none⟩) hlt).trans h13;have g4:=(hB.cell (p:=⟨bk,_,none⟩) hlt).trans h14
   have hw:=upTo_len hs (k:=1) (by decide)
   have hsi:=hs 1 (by decide)
   clear hB0 hs h00 h01 h02 h03 h04 h10 h11 h12 h13 h14 h20 h21 h22 h23 h24 h30 h31 h32 h33 h34 h40 h41 h42 h43 h44
   go_wp2_with fail
   have hI2:Lib.IsBuilder 101 5 w.heap.size w.heap.size (Lib.byteCells (upTo f 1)) (wr.alloc (Obj.cells #[Value.string (f 1),Value.int IntKind.i64 w1,Value.int IntKind.i64 x1,Value.int IntKind.i64 y1,Value.int IntKind.i64 z1] 103)):=bld_keep hI fun j hj=>Below.heap_alloc wr _ j hj
   have hB2:Below w.heap.size w (wr.alloc (Obj.cells #[Value.string (f 1),Value.int IntKind.i64 w1,Value.int IntKind.i64 x1,Value.int IntKind.i64 y1,Value.int IntKind.i64 z1] 103)):=hB.alloc hB.size _
   have hws:=Tryz.Builder_WriteString w.heap.size w.heap.size (Lib.byteCells (upTo f 1)) (f 1) _ hI2 (by simp only [Lib.byteCells,List.length_map]; omega) hB2.size
   refine hws.mono ?_;clear hws
   rintro e W3 ⟨rfl,h3,b3⟩
   have hB3:Below w.heap.size w W3:=hB2.trans b3
   have hI3:Lib.IsBuilder 101 5 w.heap.size w.heap.size (Lib.byteCells (upTo f (1+1))) W3:=by
    refine .inr ?_
    have e:Lib.byteCells (upTo f 1)++Lib.strCells (f 1)=Lib.byteCells (upTo f (1+1)):=by
     rw [Lib.strCells_eq];simp [upTo,Lib.byteCells]
    rw [e] at h3;exact h3
   clear h3 hI2 hI hB2 hB
   go_wp2
   go_roundw
   case rel=>exact ⟨1+1,by decide,by go_num,hB3,hI3⟩
   case measure=>simp [intOf]
  by_cases hk2:k=2
  case pos =>
   subst hk2;have g0:=(hB.cell (p:=⟨bk,_,none⟩) hlt).trans h20;have g1:=(hB.cell (p:=⟨bk,_,none⟩) hlt).trans h21;have g2:=(hB.cell (p:=⟨bk,_,none⟩) hlt).trans h22;have g3:=(hB.cell (p:=⟨bk,_,none⟩) hlt).trans h23;have g4:=(hB.cell (p:=⟨bk,_,none⟩) hlt).trans h24
   have hw:=upTo_len hs (k:=2) (by decide)
   have hsi:=hs 2 (by decide)
   clear hB0 hs h00 h01 h02 h03 h04 h10 h11 h12 h13 h14 h20 h21 h22 h23 h24 h30 h31 h32 h33 h34 h40 h41 h42 h43 h44
   go_wp2_with fail
   have hI2:Lib.IsBuilder 101 5 w.heap.size w.heap.size (Lib.byteCells (upTo f 2)) (wr.alloc (Obj.cells #[Value.string (f 2),Value.int IntKind.i64 w2,Value.int IntKind.i64 x2,Value.int IntKind.i64 y2,Value.int IntKind.i64 z2] 103)):=bld_keep hI fun j hj=>Below.heap_alloc wr _ j hj
   have hB2:Below w.heap.size w (wr.alloc (Obj.cells #[Value.string (f 2),Value.int IntKind.i64 w2,Value.int IntKind.i64 x2,Value.int IntKind.i64 y2,Value.int IntKind.i64 z2] 103)):=hB.alloc hB.size _
   have hws:=Tryz.Builder_WriteString w.heap.size w.heap.size (Lib.byteCells (upTo f 2)) (f 2) _ hI2 (by simp only [Lib.byteCells,List.length_map]; omega) hB2.size
   refine hws.mono ?_;clear hws
   rintro e W3 ⟨rfl,h3,b3⟩
   have hB3:Below w.heap.size w W3:=hB2.trans b3
   have hI3:Lib.IsBuilder 101 5 w.heap.size w.heap.size (Lib.byteCells (upTo f (2+1))) W3:=by
    refine .inr ?_
    have e:Lib.byteCells (upTo f 2)++Lib.strCells (f 2)=Lib.byteCells (upTo f (2+1)):=by
     rw [Lib.strCells_eq];simp [upTo,Lib.byteCells]
    rw [e] at h3;exact h3
   clear h3 hI2 hI hB2 hB
   go_wp2
   go_roundw
   case rel=>exact ⟨2+1,by decide,by go_num,hB3,hI3⟩
   case measure=>simp [intOf]
  by_cases hk3:k=3
  case pos =>
   subst hk3;have g0:=(hB.cell (p:=⟨bk,_,none⟩) hlt).trans h30;have g1:=(hB.cell (p:=⟨bk,_,none⟩) hlt).trans h31;have g2:=(hB.cell (p:=⟨bk,_,none⟩) hlt).trans h32;have g3:=(hB.cell (p:=⟨bk,_,none⟩) hlt).trans h33;have g4:=(hB.cell (p:=⟨bk,_,none⟩) hlt).trans h34
   have hw:=upTo_len hs (k:=3) (by decide)
   have hsi:=hs 3 (by decide)
   clear hB0 hs h00 h01 h02 h03 h04 h10 h11 h12 h13 h14 h20 h21 h22 h23 h24 h30 h31 h32 h33 h34 h40 h41 h42 h43 h44
   go_wp2_with fail
   have hI2:Lib.IsBuilder 101 5 w.heap.size w.heap.size (Lib.byteCells (upTo f 3)) (wr.alloc (Obj.cells #[Value.string (f 3),Value.int IntKind.i64 w3,Value.int IntKind.i64 x3,Value.int IntKind.i64 y3,Value.int IntKind.i64 z3] 103)):=bld_keep hI fun j hj=>Below.heap_alloc wr _ j hj
   have hB2:Below w.heap.size w (wr.alloc (Obj.cells #[Value.string (f 3),Value.int IntKind.i64 w3,Value.int IntKind.i64 x3,Value.int IntKind.i64 y3,Value.int IntKind.i64 z3] 103)):=hB.alloc hB.size _
   have hws:=Tryz.Builder_WriteString w.heap.size w.heap.size (Lib.byteCells (upTo f 3)) (f 3) _ hI2 (by simp only [Lib.byteCells,List.length_map]; omega) hB2.size
   refine hws.mono ?_;clear hws
   rintro e W3 ⟨rfl,h3,b3⟩
   have hB3:Below w.heap.size w W3:=hB2.trans b3
   have hI3:Lib.IsBuilder 101 5 w.heap.size w.heap.size (Lib.byteCells (upTo f (3+1))) W3:=by
    refine .inr ?_
    have e:Lib.byteCells (upTo f 3)++Lib.strCells (f 3)=Lib.byteCells (upTo f (3+1)):=by
     rw [Lib.strCells_eq];simp [upTo,Lib.byteCells]
    rw [e] at h3;exact h3
   clear h3 hI2 hI hB2 hB
   go_wp2
   go_roundw
   case rel=>exact ⟨3+1,by decide,by go_num,hB3,hI3⟩
   case measure=>simp [intOf]
  have hk4:k=4:=by omega
  subst hk4;have g0:=(hB.cell (p:=⟨bk,_,none⟩) hlt).trans h40;have g1:=(hB.cell (p:=⟨bk,_,none⟩) hlt).trans h41;have g2:=(hB.cell (p:=⟨bk,_,none⟩) hlt).trans h42;have g3:=(hB.cell (p:=⟨bk,_,none⟩) hlt).trans h43;have g4:=(hB.cell (p:=⟨bk,_,none⟩) hlt).trans h44
  have hw:=upTo_len hs (k:=4) (by decide)
  have hsi:=hs 4 (by decide)
  clear hB0 hs h00 h01 h02 h03 h04 h10 h11 h12 h13 h14 h20 h21 h22 h23 h24 h30 h31 h32 h33 h34 h40 h41 h42 h43 h44
  go_wp2_with fail
  have hI2:Lib.IsBuilder 101 5 w.heap.size w.heap.size (Lib.byteCells (upTo f 4)) (wr.alloc (Obj.cells #[Value.string (f 4),Value.int IntKind.i64 w4,Value.int IntKind.i64 x4,Value.int IntKind.i64 y4,Value.int IntKind.i64 z4] 103)):=bld_keep hI fun j hj=>Below.heap_alloc wr _ j hj
  have hB2:Below w.heap.size w (wr.alloc (Obj.cells #[Value.string (f 4),Value.int IntKind.i64 w4,Value.int IntKind.i64 x4,Value.int IntKind.i64 y4,Value.int IntKind.i64 z4] 103)):=hB.alloc hB.size _
  have hws:=Tryz.Builder_WriteString w.heap.size w.heap.size (Lib.byteCells (upTo f 4)) (f 4) _ hI2 (by simp only [Lib.byteCells,List.length_map]; omega) hB2.size
  refine hws.mono ?_;clear hws
  rintro e W3 ⟨rfl,h3,b3⟩
  have hB3:Below w.heap.size w W3:=hB2.trans b3
  have hI3:Lib.IsBuilder 101 5 w.heap.size w.heap.size (Lib.byteCells (upTo f (4+1))) W3:=by
   refine .inr ?_
   have e:Lib.byteCells (upTo f 4)++Lib.strCells (f 4)=Lib.byteCells (upTo f (4+1)):=by
    rw [Lib.strCells_eq];simp [upTo,Lib.byteCells]
   rw [e] at h3;exact h3
  clear h3 hI2 hI hB2 hB
  go_wp2
  go_roundw
  case rel=>exact ⟨4+1,by decide,by go_num,hB3,hI3⟩
  case measure=>simp [intOf]
end Go.Proofs.YtigmkgampfbflaaGreatDoor
namespace Go.Proofs.YtigmkgampfbflaaGreatDoor
open Go Go.AE Go.DE Go.RowKit
theorem upTo_le {f:Nat->ByteArray}{n:Nat}(h:∀ k,k<n->(f k).size<=1000):∀ {k:Nat},k<=n->(upTo f k).length<=1000*k
 | 0,_=>by simp [upTo]
 | k+1,hk=>by
  have h1:=upTo_le h (k:=k) (by omega)
  have h2:=h k (by omega)
  have h3:(f k).data.toList.length=(f k).size:=Array.length_toList;simp only [upTo,List.length_append,h3];omega
set_option maxRecDepth 100000 in
set_option maxHeartbeats 8000000 in
theorem text_row (bk o c n:Nat) (f:Nat->ByteArray) (a1 a2 a3 a4:Nat->Int) (w:World) (hn:n<=1000) (hp:0<n) (hs:∀ k,k<n->(f k).size<=1000)
  (hc:∀ k,k<n->w.cell? ⟨bk,o+k*5,none⟩=some (.string (f k))/\w.cell? ⟨bk,o+k*5+1,none⟩=some (.int .i64 (a1 k))/\w.cell? ⟨bk,o+k*5+2,none⟩=some (.int .i64 (a2 k))/\w.cell? ⟨bk,o+k*5+3,none⟩=some (.int .i64 (a3 k))/\w.cell? ⟨bk,o+k*5+4,none⟩=some (.int .i64 (a4 k))) :
  Calls Tryz.prog 24 #[.slice (some ⟨bk,o,none⟩) n c] w fun e w'=>e=.returned (.string ⟨(upTo f n).toArray⟩)/\Below w.heap.size w w':=by
 have hB0:=Lib.fresh_isBuilder 101 5 w;have hlt:bk<w.heap.size:=World.block_lt_of_cell? _ _ (hc 0 hp).1
 go_enter Tryz.func24,Tryz.ntmps24
 go_wp2
 go_loopw [8] (fun i wr=>∃ (k:Nat),k<=n/\i=.int .i64 k/\Below w.heap.size w wr/\Lib.IsBuilder 101 5 w.heap.size w.heap.size (Lib.byteCells (upTo f k)) wr) (fun i _=>n-(intOf i).toNat)
 case atStart =>
  exact ⟨0,Nat.zero_le _,rfl,(Below.refl _ w).alloc (Nat.le_refl _) _,by simpa [upTo,Lib.byteCells] using hB0⟩
 case round =>
  obtain ⟨k,hk,rfl,hB,hI⟩:=hrel
  by_cases hkn:k<n
  case neg =>
   have hkn:k=n:=by omega
   subst hkn
   go_wp2_with fail
   refine (Tryz.Builder_String_any w.heap.size w.heap.size (upTo f k) _ hI hB.size).mono ?_
   rintro e W1 ⟨rfl,hb1⟩
   go_wp2
   go_ret
   exact ⟨rfl,hB.trans hb1⟩
  have hlk:((k:Nat):Int)<n:=by omega
  have g0:=(hB.cell (p:=⟨bk,_,none⟩) hlt).trans (hc k hkn).1;have g1:=(hB.cell (p:=⟨bk,_,none⟩) hlt).trans (hc k hkn).2.1;have g2:=(hB.cell (p:=⟨bk,_,none⟩) hlt).trans (hc k hkn).2.2.1;have g3:=(hB.cell (p:=⟨bk,_,none⟩) hlt).trans (hc k hkn).2.2.2.1;have g4:=(hB.cell (p:=⟨bk,_,none⟩) hlt).trans (hc k hkn).2.2.2.2
  have hw:=upTo_le hs (k:=k) (by omega)
  have hsi:=hs k hkn;clear hB0 hs hc
  go_wp2_with fail
  have hI2:Lib.IsBuilder 101 5 w.heap.size w.heap.size (Lib.byteCells (upTo f k)) (wr.alloc (Obj.cells #[Value.string (f k),Value.int IntKind.i64 (a1 k),Value.int IntKind.i64 (a2 k),Value.int IntKind.i64 (a3 k),Value.int IntKind.i64 (a4 k)] 103)):=bld_keep hI fun j hj=>Below.heap_alloc wr _ j hj
  have hB2:Below w.heap.size w (wr.alloc (Obj.cells #[Value.string (f k),Value.int IntKind.i64 (a1 k),Value.int IntKind.i64 (a2 k),Value.int IntKind.i64 (a3 k),Value.int IntKind.i64 (a4 k)] 103)):=hB.alloc hB.size _
  have hws:=Tryz.Builder_WriteString w.heap.size w.heap.size (Lib.byteCells (upTo f k)) (f k) _ hI2 (by simp only [Lib.byteCells,List.length_map]; omega) hB2.size
  refine hws.mono ?_;clear hws
  rintro e W3 ⟨rfl,h3,b3⟩
  have hB3:Below w.heap.size w W3:=hB2.trans b3
  have hI3:Lib.IsBuilder 101 5 w.heap.size w.heap.size (Lib.byteCells (upTo f (k+1))) W3:=by
   refine .inr ?_
   have e:Lib.byteCells (upTo f k)++Lib.strCells (f k)=Lib.byteCells (upTo f (k+1)):=by
    rw [Lib.strCells_eq];simp [upTo,Lib.byteCells]
   rw [e] at h3;exact h3
  clear h3 hI2 hI hB2 hB
  go_wp2
  go_roundw
  case rel=>exact ⟨k+1,by omega,by go_num,hB3,hI3⟩
  case measure=>simp [intOf]; omega
end Go.Proofs.YtigmkgampfbflaaGreatDoor
namespace Go.Proofs.YtigmkgampfbflaaGreatDoor
open Go Go.AE Go.RowKit
def preOf:Code->List (Nat×Array Oper)
 | .seq (.region i o false) r=>(i,o) :: preOf r
 | _=>[]
def lastOf:Code->Array Oper
 | .seq (.region _ _ false) r=>lastOf r
 | .seq (.region _ o true) _=>o
 | _=>#[]
def effL:List (Option Blk):=[
 (none),
 (some (.cells [(.pointer (some ⟨0,0,none⟩))])),
 (some (.cells [(.func (.func 195) #[] #[(.pointer (some ⟨1,0,none⟩))])])),
 (some (.cells [(.func (.func 198) #[] #[(.pointer (some ⟨1,0,none⟩))])])),
 (some (.cells [(.func (.func 199) #[] #[(.pointer (some ⟨1,0,none⟩))])])),
 (some (.cells [(.func (.func 200) #[] #[(.pointer (some ⟨1,0,none⟩))])])),
 (some (.cells [(.func (.func 202) #[] #[(.pointer (some ⟨1,0,none⟩))])])),
 (some (.cells [(.func (.func 196) #[(.pointer (some ⟨0,0,none⟩))] #[])])),
 (some (.cells [(.func (.func 195) #[] #[(.pointer (some ⟨1,0,none⟩))])])),
 (some (.cells [(.func (.func 195) #[] #[(.pointer (some ⟨1,0,none⟩))])])),
 (some (.cells [(.func (.func 133) #[(.pointer (some ⟨0,0,none⟩))] #[])])),
 (some (.cells [(.func (.func 133) #[(.pointer (some ⟨0,0,none⟩))] #[])])),
 (some (.cells [(.func (.func 204) #[] #[(.pointer (some ⟨1,0,none⟩))])])),
 (some (.cells [(.func (.func 205) #[] #[(.pointer (some ⟨2,0,none⟩)),(.pointer (some ⟨1,0,none⟩))])])),
 (some (.cells [(.func (.func 206) #[] #[(.pointer (some ⟨1,0,none⟩))])])),
 (some (.cells [(.func (.func 207) #[] #[(.pointer (some ⟨1,0,none⟩))])])),
 (some (.cells [(.func (.func 208) #[] #[(.pointer (some ⟨1,0,none⟩))])])),
 (some (.cells [(.func (.func 210) #[] #[(.pointer (some ⟨1,0,none⟩))])])),
 (some (.cells [(.func (.func 212) #[(.pointer (some ⟨0,0,none⟩))] #[])])),
 (some (.cells [(.func (.func 213) #[(.pointer (some ⟨0,0,none⟩))] #[])])),
 (some (.cells [(.func (.func 214) #[] #[(.pointer (some ⟨4,0,none⟩))])])),
 (some (.cells [(.func (.func 199) #[] #[(.pointer (some ⟨1,0,none⟩))])])),
 (some (.cells [(.func (.func 215) #[] #[(.pointer (some ⟨1,0,none⟩))])])),
 (some (.cells [(.func (.func 216) #[] #[(.pointer (some ⟨1,0,none⟩))])])),
 (some (.cells [(.func (.func 217) #[] #[(.pointer (some ⟨1,0,none⟩))])])),
 (some (.cells [(.func (.func 219) #[(.pointer (some ⟨0,0,none⟩))] #[])])),
 (some (.cells [(.func (.func 220) #[(.pointer (some ⟨0,0,none⟩))] #[])])),
 (some (.pmap .u8 [((.int .u8 (.ofNat 64)),(.func (.func 191) #[] #[(.pointer (some ⟨5,0,none⟩))])),((.int .u8 (.ofNat 80)),(.func (.func 191) #[] #[(.pointer (some ⟨6,0,none⟩))])),((.int .u8 (.ofNat 65)),(.func (.func 191) #[] #[(.pointer (some ⟨7,0,none⟩))])),((.int .u8 (.ofNat 66)),(.func (.func 191) #[] #[(.pointer (some ⟨8,0,none⟩))])),((.int .u8 (.ofNat 101)),(.func (.func 191) #[] #[(.pointer (some ⟨9,0,none⟩))])),((.int .u8 (.ofNat 67)),(.func (.func 191) #[] #[(.pointer (some ⟨10,0,none⟩))])),((.int .u8 (.ofNat 97)),(.func (.func 191) #[] #[(.pointer (some ⟨11,0,none⟩))])),((.int .u8 (.ofNat 68)),(.func (.func 191) #[] #[(.pointer (some ⟨12,0,none⟩))])),((.int .u8 (.ofNat 69)),(.func (.func 191) #[] #[(.pointer (some ⟨13,0,none⟩))])),((.int .u8 (.ofNat 70)),(.func (.func 191) #[] #[(.pointer (some ⟨14,0,none⟩))])),((.int .u8 (.ofNat 71)),(.func (.func 191) #[] #[(.pointer (some ⟨3,0,none⟩))])),((.int .u8 (.ofNat 96)),(.func (.func 191) #[] #[(.pointer (some ⟨3,0,none⟩))])),((.int .u8 (.ofNat 72)),(.func (.func 197) #[] #[(.pointer (some ⟨1,0,none⟩))])),((.int .u8 (.ofNat 102)),(.func (.func 197) #[] #[(.pointer (some ⟨1,0,none⟩))])),((.int .u8 (.ofNat 100)),(.func (.func 191) #[] #[(.pointer (some ⟨15,0,none⟩))])),((.int .u8 (.ofNat 73)),(.func (.func 191) #[] #[(.pointer (some ⟨16,0,none⟩))])),((.int .u8 (.ofNat 90)),(.func (.func 191) #[] #[(.pointer (some ⟨17,0,none⟩))])),((.int .u8 (.ofNat 74)),(.func (.func 194) #[] #[(.pointer (some ⟨18,0,none⟩))])),((.int .u8 (.ofNat 75)),(.func (.func 194) #[] #[(.pointer (some ⟨19,0,none⟩))])),((.int .u8 (.ofNat 76)),(.func (.func 191) #[] #[(.pointer (some ⟨20,0,none⟩))])),((.int .u8 (.ofNat 77)),(.func (.func 191) #[] #[(.pointer (some ⟨21,0,none⟩))])),((.int .u8 (.ofNat 83)),(.func (.func 191) #[] #[(.pointer (some ⟨22,0,none⟩))])),((.int .u8 (.ofNat 84)),(.func (.func 191) #[] #[(.pointer (some ⟨23,0,none⟩))])),((.int .u8 (.ofNat 88)),(.func (.func 191) #[] #[(.pointer (some ⟨24,0,none⟩))])),((.int .u8 (.ofNat 103)),(.func (.func 194) #[] #[(.pointer (some ⟨25,0,none⟩))])),((.int .u8 (.ofNat 110)),(.func (.func 194) #[] #[(.pointer (some ⟨26,0,none⟩))])),((.int .u8 (.ofNat 114)),(.func (.func 221) #[(.pointer (some ⟨0,0,none⟩))] #[])),((.int .u8 (.ofNat 115)),(.func (.func 222) #[] #[(.pointer (some ⟨1,0,none⟩))])),((.int .u8 (.ofNat 117)),(.func (.func 223) #[] #[(.pointer (some ⟨1,0,none⟩))]))]))]
noncomputable def effD:Mpr:={ f:=145,fn:=Tryz.f145,pre:=(match Tryz.f145.body with | some c=>preOf c | none=>[]),id:=7,ops:=(match Tryz.f145.body with | some c=>lastOf c | none=>#[]),q:=.u8,p:=0,iM:=0,tM:=15,sp:=[15,97],t:=2,L1:=effL }
def stE:AE.Stat:=⟨fun _ _=>none,fun _ _ _=>none⟩
theorem effRun:effD.run Tryz.prog stE (runF Tryz.prog stE 10 2)=true:=by kernel_rfl
theorem goodE (w0:World):GoodSt w0 stE:=fun b i v h=>by cases h
theorem callE (w0:World):CallOk Tryz.prog w0 stE.ext:=fun f args σ v σ' h=>by cases h
theorem eff_ok (w0:World):FnOk Tryz.prog w0 145 fun args σ=>RL.app σ (effD.ans args (hp σ) σ.length) :=
 Mpr.ok (D:=effD) effRun Tryz.func145 (by kernel_rfl) rfl (runF_sound (goodE w0) (callE w0) (by kernel_rfl) 2) (goodE w0) (by kernel_rfl)
end Go.Proofs.YtigmkgampfbflaaGreatDoor
namespace Go.Proofs.YtigmkgampfbflaaGreatDoor
open Go Go.AE Go.DE Go.RowKit
def okN (n:Nat):Bool:=Nat.beq n 32||Nat.beq n 88||(Nat.ble 97 n&&Nat.ble n 103)
def cwV:List Value->Option Value
 | [.int .i32 (.ofNat n)]=>bif okN n then some (.int .i64 1) else none
 | _=>none
def oneS (s:ByteArray):Bool:=match s with
 | ⟨⟨[c]⟩⟩=>okN c.toNat
 | _=>false
def ccV:List Value->Option Value
 | [.string s]=>bif oneS s then some (.int .i64 0) else none
 | _=>none
def cdV:List Value->Option Value
 | [.string s]=>bif oneS s then some (.int .i64 1) else none
 | _=>none
def uvV:List Value->Option Value
 | [.string ⟨⟨[]⟩⟩]=>some (.bool true)
 | _=>none
def cellsV:Nat->List Value->Option (List (List UInt8))
 | 0,[]=>some []
 | k+1,.string ⟨⟨s⟩⟩ :: .int .i64 _ :: .int .i64 _ :: .int .i64 _ :: .int .i64 _ :: r=>if s.length<=1000 then (match cellsV k r with
  | some l=>some (s :: l)
  | none=>none) else none
 | _,_=>none
def joinU:List (List UInt8)->List UInt8
 | []=>[]
 | s :: r=>s++joinU r
def tnV (st:AE.Stat) (g:HF):List Value->RG
 | [.slice (some a) 5 _]=>match loadG st g a 25 with
  | some l=>(match cellsV 5 l with
   | some ss=>some (.string ⟨⟨joinU ss⟩⟩,.keep)
   | none=>none)
  | _=>none
 | _=>none
def codesV (i:Nat):Option Value:=match i with
 | 0=>some (.int .i64 1) | 1=>some (.int .i64 2) | 2=>some (.int .i64 3) | 3=>some (.int .i64 4) | 4=>some (.int .i64 5) | 5=>some (.int .i64 7) | 6=>some (.int .i64 8) | 7=>some (.int .i64 9) | _=>none
def stC:Nat->Nat->Option Value:=fun b i=>match b with
 | 3=>codesV i
 | _=>none
def stN0:AE.Stat:=⟨fun _ _=>none,fun _ _ _=>none⟩
def toL:RG->RL
 | some (v,.keep)=>some (v,[])
 | some (v,.push b)=>some (v,[.new (some b)])
 | _=>none
noncomputable def extA:ExtL:=fun f args g n=>match f with
 | 110=>toL (keepX cwV args)
 | 72=>toL (keepX ccV args)
 | 73=>toL (keepX cdV args)
 | 30=>toL (keepX uvV args)
 | 24=>toL (tnV stN0 g args)
 | 145=>effD.ans args g n
 | _=>none
noncomputable def stA:AE.Stat:=⟨stC,extOfL extA⟩
def dAw:Deep:=⟨13,[],[],.bool true,[]⟩
end Go.Proofs.YtigmkgampfbflaaGreatDoor
namespace Go.Proofs.YtigmkgampfbflaaGreatDoor
open Go Go.AE Go.DE Go.RowKit
set_option maxRecDepth 100000 in
theorem awake_run:dAw.run Tryz.prog stA extA 2000 60=true:=by kernel_rfl
end Go.Proofs.YtigmkgampfbflaaGreatDoor
