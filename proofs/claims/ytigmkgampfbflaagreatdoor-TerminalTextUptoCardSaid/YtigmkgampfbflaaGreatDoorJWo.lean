/-
 Write's loop: characters of one column,while nothing is scrolled: the loop's contract.
 Conditions: none beyond those of the contracts.
-/
import Derived.Test.YtigmkgampfbflaaGreatDoorJTck
namespace Go.Proofs.YtigmkgampfbflaaGreatDoor
open Go Go.AE Go.DE Go.RowKit
noncomputable abbrev wpE:Env Unit:=envG Tryz.prog gl0 [] [e37 fdQ fdR fdN prnQ ptQ oneC putR evOk mpQ] [] noLp 0
theorem wonC_ok {st:AE.Stat}(hx:Hx st):ConOk Tryz.prog st 110 (wonC prnQ):=fun args k hk=>by
 unfold wonC at hk
 split at hk<;>first | (cases hk; done) | skip
 rename_i r
 obtain ⟨hb,hk⟩:=bif_none hk
 obtain ⟨h1,h2⟩:=holds_eq.1 hb
 refine cwwC_ok hx [kv .i32 r] k ?_
 have e:cwF r=1:=by
  have h:=(enc_one ⟨h1,h2⟩).2.2
  exact won_cw ⟨h1,h2⟩
 show k (fun _=>(iv (cwF r),[]))=some ()
 rw [e]
 exact hk
theorem inZ0 {st:AE.Stat}(hx:Hx st) {f:FuncId}{fn:Func}(hf:Tryz.prog.funcs[f]?=some fn) (hn:(fn.name== "runtime.NumGoroutine")=false) (hb:fn.body.isNone=false) (he:exA f=false) {hs:List InE}{l:List (FuncId×ConF)}(h:∀ e∈hs,InOkZ Tryz.prog st e) (hl:∀ x∈l,ConOkZ true Tryz.prog st x.1 x.2) :
  InOkZ Tryz.prog st ⟨f,fn,envG Tryz.prog gl0 [] hs l noLp 0⟩:=⟨hf,hn,hb,hx f he,envG_ok (fun _ h=>nomatch h) h hl,glOk st,(fun _ _ _ h=>nomatch h)⟩
theorem in37 {st:AE.Stat}(hx:Hx st) (hv:VdOk st):InOkZ Tryz.prog st (e37 fdQ fdR fdN prnQ ptQ oneC putR evOk mpQ):=by
 refine inZ0 hx Tryz.func37 (by kernel_rfl) (by kernel_rfl) rfl (one_inZ (inZ0 hx Tryz.func81 (by kernel_rfl) (by kernel_rfl) rfl (fun e he=>?_) fun x h=>?_)) fun x h=>?_
 ·simp only [List.mem_cons,List.not_mem_nil,or_false] at he
  rcases he with rfl | rfl | rfl | rfl
  ·exact inZ0 hx Tryz.func125 (by kernel_rfl) (by kernel_rfl) rfl (fun _ h=>nomatch h) (fun _ h=>nomatch h)
  ·refine inZ0 hx Tryz.func126 (by kernel_rfl) (by kernel_rfl) rfl (fun _ h=>nomatch h) (fun x h=>?_)
   simp only [List.mem_cons,List.not_mem_nil,or_false] at h
   rcases h with rfl | rfl
   ·exact (bsC_ok hx).z
   ·exact (fdC_ok hx).z
  ·exact inZ0 hx Tryz.func130 (by kernel_rfl) (by kernel_rfl) rfl (fun _ h=>nomatch h) (fun _ h=>nomatch h)
  ·exact inZ0 hx Tryz.func128 (by kernel_rfl) (by kernel_rfl) rfl (fun _ h=>nomatch h) (fun _ h=>nomatch h)
 ·simp only [List.mem_cons,List.not_mem_nil,or_false] at h
  rcases h with rfl | rfl
  ·exact (wonC_ok hx).z
  ·exact ptC_ok hx hv
 ·simp only [List.mem_cons,List.not_mem_nil,or_false] at h
  rcases h with rfl | rfl
  ·exact vkC_ok hx
  ·exact (mpC_ok hx).z
theorem wpE_ok {st:AE.Stat}(hx:Hx st) (hv:VdOk st):EnvOk Tryz.prog st wpE:=envG_ok (fun _ h=>nomatch h) (one_inZ (in37 hx hv)) (fun _ h=>nomatch h)
theorem upd_get {c:DC}{p q i f:Nat}{d:DV}(h:f≠q):(DC.upd c p q d).get i f=c.get i f:=by
 show (if i=p∧f=q then d else c.get i f)=_
 rw [if_neg fun e=>h e.2]
theorem fd_next {h r:Nat}(hf:r+1<h):fdR h h r=((r+1:Nat):Int)∧fdN h r=0:=by
 unfold fdR fdN
 rw [if_neg (by omega),if_pos (by omega),if_neg (by omega)]
 exact ⟨by omega,rfl⟩
theorem wp_ls {st:AE.Stat}(hx:Hx st) (hv:VdOk st):LoopSR true Tryz.prog st gl0 (.loop (loopAt Tryz.f14 250)) wpI.g:=by
 refine wpI.ok (E:=wpE) (p:=500) (wpE_ok hx hv) (glOk st).1 (fun _ _ _ h=>nomatch h) (fun x k h=>h) fun y hy=>?_
 obtain ⟨w,h,n,T,B,O,z,i,x⟩:=y
 have hy:WPX.ok ⟨w,h,n,T,B,O,z,i,x⟩:=hy
 obtain ⟨hi,hn,hB,ht,hz,hf⟩:=hy
 have hi:i≤n:=hi
 have hn:n≤9000000:=hn
 have hB:Clo B:=hB
 have ht:TSok w h x:=ht
 have hz:∀ j,j<n→prnQ (z j):=hz
 have hf:∀ m,i+m<n→fits h (finT w z m i x):=hf
 have w1:=ht.w1
 have w2:=ht.w2
 have h1:=ht.h1
 have h2:=ht.h2
 refine (wp_loop w h n x.r x.c x.p T B z i x.R zb1 (rwB h O) prs0 fdQ fdR fdN prnQ ptQ oneC putR evOk mpQ _).trans ?_
 refine dS (fun hlt=>?_) fun hge=>?_
 ·have hlt:i<n:=by omega
  have hb:=hz i hlt
  have hF:fits h x:=hf 0 (by omega)
  have hr:WPX.f ⟨w,h,n,T,B,O,z,i+1,stepT w x (z i)⟩=WPX.f ⟨w,h,n,T,B,O,z,i,x⟩:=by
   have:n-i=(n-(i+1))+1:=by omega
   simp only [WPX.f,this,finT]
  have hok:WPX.ok ⟨w,h,n,T,B,O,z,i+1,stepT w x (z i)⟩:=⟨hlt,hn,hB,ht.step hF hb,hz,fun m hm=>by
   have hm:i+1+m<n:=hm
   exact hf (m+1) (by omega)⟩
  have hW:IntKind.i64.wrap ((i:Int)+1)=((i+1:Nat):Int):=by rw [W_in (by omega) (by omega)]; omega
  have next:∀ (bR bM:DBlk) (ext:DHeap),SubC (ren 8 []) (rwB h (stepT w x (z i)).R) bR→SubC (ren 8 []) (mcB w h (stepT w x (z i)) T B) bM →
    wpI.ask ⟨w,h,n,T,B,O,z,i,x⟩ .normal 47 [.po 1 0 0,.po 6 0 0,.po 7 0 0,.sl false (evZ z) 7 n,iv n,iv ((i+1:Nat):Int)] [.po 1 0 0,.po 6 0 0,.po 7 0 0] (none :: some zb1 :: none :: none :: some bR :: some (rwB h O) :: some bM :: some prs0 :: ext)=some ():=fun bR bM ext hR hM=>by
   refine LInv.ask_of ⟨rfl,⟨w,h,n,T,B,O,z,i+1,stepT w x (z i)⟩,⟨rfl,rfl,by simp only [wpI,hr],hok⟩,by simp only [wpI]; omega,[],?_⟩
   exact .of (im:=[some 1,some 4,some 5,some 6,some 7]) (.cons (.po rfl) (.cons (.po rfl) (.cons (.po rfl) (.cons (.sl _ _ _ _) (.cons (.v _) (.cons (.v _) .nil)))))) rfl
    ⟨⟨1,_,rfl,rfl,zb1_kb.sub⟩,⟨4,_,rfl,rfl,hR⟩,⟨5,_,rfl,rfl,rwB_sub h O⟩,⟨6,_,rfl,rfl,hM⟩,⟨7,_,rfl,rfl,prs0_kb.sub⟩,trivial⟩ rfl (by decide)
  rw [hW]
  simp only [Int.toNat_natCast,Nat.add_zero,Nat.zero_add]
  refine dT (by omega) (dT hlt (dT hlt (dT hlt (dT hlt (dT hlt (dT hlt (dT hlt (hT (.inl ⟨z i,rfl,hb.1,hb.2⟩) (hT ⟨rfl,rfl,rfl⟩ (hT hb (dF (by omega) ?_)))))))))))
  have gr:=ht.g x.row hF
  have hrow:ptQ (x.R x.row).cell (x.R x.row).n x.col:=⟨Row.ok (gr.sized (by omega)),gr.rowF w1 (by omega),fun j hj=>by
   show (x.R x.row).wd j≠0
   rw [(gr.2 j (gr.1 ▸ hj)).1]
   decide,by omega,by have:=ht.col; have:=gr.1; omega⟩
  have henc:=enc_one hb
  have hpos:0<(x.R x.row).n:=by have:=gr.1; omega
  have hb1:((mcL w h x.r x.c x.p T B).getD 6 .any)=iv x.r:=rfl
  cases hp:x.p with
  | true =>
   have er:x.row=x.r+1:=by unfold TS.row; rw [hp]; rfl
   have ec:x.col=0:=by unfold TS.col; rw [hp]; rfl
   rw [cond_true]
   rw [er] at hrow hpos gr
   rw [ec] at hrow
   obtain ⟨eR,eN⟩:=fd_next (h:=h) (r:=x.r) (by rw [← er]; exact hF)
   rw [eN]
   have hF':x.r+1<h:=by rw [← er]; exact hF
   refine hT ⟨⟨by omega,by omega,by omega,by omega⟩,by omega,by omega,by omega,by omega,by omega,by omega,by omega⟩ (dF (by omega) (dF (by omega) ?_))
   rw [eR]
   simp only [Int.toNat_natCast,Nat.add_zero,Nat.zero_add]
   refine dT (by omega) (dT (by omega) (dT hF' (hT ⟨hrow,henc⟩ (dT hpos (dT hpos (dT (by omega) (dT (by omega) (dT hF' ?_))))))))
   have hRs:=rw_sub (r0:=ren 8 []) (h:=h) (x:=x) (w:=w) (b:=z i)
   rw [er,ec] at hRs
   have s6:(stepT w x (z i)).r=x.r+1:=er
   refine cS (fun e1=>next _ _ _ hRs (mc_sub (r:=x.r) (c:=x.c) (p:=true) (r0:=ren 8 []) rfl rfl hB rfl (Nat.le_refl _) ?_ ?_ ?_ fun f h6 h7 h8=>?_)) fun e1=>next _ _ _ hRs (mc_sub (r:=x.r) (c:=x.c) (p:=true) (r0:=ren 8 []) rfl rfl hB rfl (Nat.le_refl _) ?_ ?_ ?_ fun f h6 h7 h8=>?_)
   ·rw [s6]; rfl
   ·have e1:(1:Int)=w:=by simpa using e1
    have s7:(stepT w x (z i)).c=0:=by
     show (if x.col+1=w then x.col else x.col+1)=0
     rw [ec,if_pos (by omega)]
    rw [s7]
    show iv (IntKind.i64.wrap ((w:Int)-1))=iv ((0:Nat):Int)
    rw [W_in (by omega) (by omega),← e1]
    rfl
   ·have e1:(1:Int)=w:=by simpa using e1
    have s8:(stepT w x (z i)).p=true:=by
     show decide (x.col+1=w)=true
     rw [ec]
     exact decide_eq_true (by omega)
    rw [s8]
    rfl
   ·repeat (first | refine (upd_get h6).trans ?_ | refine (upd_get h7).trans ?_ | refine (upd_get h8).trans ?_)
    rfl
   ·rw [s6]; rfl
   ·have e1:(1:Int)≠w:=by simpa using e1
    have s7:(stepT w x (z i)).c=1:=by
     show (if x.col+1=w then x.col else x.col+1)=1
     rw [ec,if_neg (by omega)]
    rw [s7]
    rfl
   ·have e1:(1:Int)≠w:=by simpa using e1
    have s8:(stepT w x (z i)).p=false:=by
     show decide (x.col+1=w)=false
     rw [ec]
     exact decide_eq_false (by omega)
    rw [s8]
    rfl
   ·repeat (first | refine (upd_get h6).trans ?_ | refine (upd_get h7).trans ?_ | refine (upd_get h8).trans ?_)
    rfl
  | false =>
   have er:x.row=x.r:=by unfold TS.row; rw [hp]; rfl
   have ec:x.col=x.c:=by unfold TS.col; rw [hp]; rfl
   rw [cond_false]
   rw [er] at hrow hpos gr
   rw [ec] at hrow
   have hF':x.r<h:=ht.r
   have hc:=ht.c
   have eW:IntKind.i64.wrap ((x.c:Int)+1)=((x.c+1:Nat):Int):=by rw [W_in (by omega) (by omega)]; omega
   rw [eW]
   refine dF (by omega) (dT (by omega) (dT (by omega) (dT hF' (hT ⟨hrow,henc⟩ (dT hpos (dT hpos (dT (by omega) (dT (by omega) (dT hF' ?_)))))))))
   have hRs:=rw_sub (r0:=ren 8 []) (h:=h) (x:=x) (w:=w) (b:=z i)
   rw [er,ec] at hRs
   have s6:(stepT w x (z i)).r=x.r:=er
   refine cS (fun e1=>next _ _ _ hRs (mc_sub (r:=x.r) (c:=x.c) (p:=false) (r0:=ren 8 []) rfl rfl hB rfl (Nat.le_refl _) ?_ ?_ ?_ fun f h6 h7 h8=>?_)) fun e1=>next _ _ _ hRs (mc_sub (r:=x.r) (c:=x.c) (p:=false) (r0:=ren 8 []) rfl rfl hB rfl (Nat.le_refl _) ?_ ?_ ?_ fun f h6 h7 h8=>?_)
   ·rw [s6]; rfl
   ·have e1:((x.c+1:Nat):Int)=w:=by simpa using e1
    have s7:(stepT w x (z i)).c=x.c:=by
     show (if x.col+1=w then x.col else x.col+1)=x.c
     rw [ec,if_pos (by omega)]
    rw [s7]
    show iv (IntKind.i64.wrap ((w:Int)-1))=iv (x.c:Int)
    rw [W_in (by omega) (by omega),show (w:Int)-1=x.c by omega]
   ·have e1:((x.c+1:Nat):Int)=w:=by simpa using e1
    have s8:(stepT w x (z i)).p=true:=by
     show decide (x.col+1=w)=true
     rw [ec]
     exact decide_eq_true (by omega)
    rw [s8]
    rfl
   ·repeat (first | refine (upd_get h6).trans ?_ | refine (upd_get h7).trans ?_ | refine (upd_get h8).trans ?_)
    rfl
   ·rw [s6]; rfl
   ·have e1:((x.c+1:Nat):Int)≠w:=by simpa using e1
    have s7:(stepT w x (z i)).c=x.c+1:=by
     show (if x.col+1=w then x.col else x.col+1)=x.c+1
     rw [ec,if_neg (by omega)]
    rw [s7]
    rfl
   ·have e1:((x.c+1:Nat):Int)≠w:=by simpa using e1
    have s8:(stepT w x (z i)).p=false:=by
     show decide (x.col+1=w)=false
     rw [ec]
     exact decide_eq_false (by omega)
    rw [s8]
    rfl
   ·repeat (first | refine (upd_get h6).trans ?_ | refine (upd_get h7).trans ?_ | refine (upd_get h8).trans ?_)
    rfl
 ·obtain rfl:n=i:=by omega
  have e0:WPX.f ⟨w,h,n,T,B,O,z,n,x⟩=x:=by simp only [WPX.f,Nat.sub_self,finT]
  refine LInv.ask_of ⟨rfl,rfl,[],?_⟩
  simp only [wpI,e0]
  exact .of (im:=[some 1,some 4,some 5,some 6,some 7]) (.cons (.po rfl) (.cons (.po rfl) (.cons (.po rfl) .nil))) rfl
   ⟨⟨1,_,rfl,rfl,zb1_kb.sub⟩,⟨4,_,rfl,rfl,rwB_sub h x.R⟩,⟨5,_,rfl,rfl,rwB_sub h O⟩,⟨6,_,rfl,rfl,mc_sub (r:=x.r) (c:=x.c) (p:=x.p) (r0:=ren 8 []) rfl rfl hB rfl (Nat.le_refl _) rfl rfl rfl fun f _ _ _=>rfl⟩,⟨7,_,rfl,rfl,prs0_kb.sub⟩,trivial⟩ rfl (by decide)
end Go.Proofs.YtigmkgampfbflaaGreatDoor
namespace Go.Proofs.YtigmkgampfbflaaGreatDoor
open Go Go.AE Go.DE Go.RowKit
structure WS where
 w:Nat
 h:Nat
 x:TS
 O:Nat→Row
 T:Nat→Bool
def WS.cells (y:WS):List DV:=[iv y.w,iv y.h,.sl false (rowsD (fun _=>false) y.x.R) 1 y.h,iv y.w,iv y.h,.sl false (rowsD (fun _=>false) y.O) 1 y.h,iv y.x.r,iv y.x.c,bv y.x.p,iv 0,iv 0,bv false,iv (-1),iv (-1),iv 0,bv false,kv .u8 66,kv .u8 66,iv 0,iv (-1),iv (-1),iv 0,
 bv false,bv false,bv false,bv false,bv true,bv true,bv false,bv false,kv .u8 66,kv .u8 66,iv 0,iv 0,iv y.h,.sl false (tabsD y.T) 1 y.w,nilS,iv 0,evB,evB,evB,evB]
noncomputable def roO (Q:(Nat→Nat→DV)→Nat→Prop):ConF:=fun args k=>match args with
 | [.sl _ G 1 n]=>bif holds (Q G n) then k (fun b=>(.os b 0 n,[some ⟨1,.tab n (rowsD (fun _=>false) fun i=>rowD (G i 0))⟩])) else none
 | [.v (.slice none 0 0)]=>k (fun _=>(nilS,[]))
 | _=>none
theorem rn_tree (k:DV→Option Unit):bodyD Tryz.prog (envZ [(115,inl2 Tryz.prog (env [] noLp 0) Tryz.f115)] noLp 1) Tryz.f76 [nilS] [] (fun d _=>k d) =
  k (DV.v (Value.slice none 0 0)):=by
 kernel_rfl
noncomputable abbrev e35 (Q:(Nat→Nat→DV)→Nat→Prop) (Q2:(Nat→Nat→DV)→Nat→Prop):InE:=⟨35,Tryz.f35,envG Tryz.prog gl0 [] [] [(76,roO Q),(77,cbC Q2)] noLp 0⟩
theorem wr_tree (y:WS) (s:ByteArray) (Q Q2:(Nat→Nat→DV)→Nat→Prop) (Q3:List DV→Prop) (Q4:ByteArray→ByteArray→ByteArray→Prop) (G:ByteArray→Nat→Nat→DV) (K:DV→DHeap→Option Unit):bodyD Tryz.prog (envG Tryz.prog gl0 [] [e35 Q Q2] [(11,tcC Q3),(36,feC Q4 G)] (lpOf [(250,wpI.g)]) 0) Tryz.f14 [.agg y.cells,sv s] [] (fun d σ=>K d σ) =
  bif holds (Q (rowsD (fun _=>false) (TS.R (WS.x y))) (WS.h y)) then bif holds (Q (rowsD (fun _=>false) (WS.O y)) (WS.h y)) then bif holds (Q2 (tabsD (WS.T y)) (WS.w y)) then bif holds (Q3 [iv (↑(WS.w y):Int),iv (↑(WS.h y):Int),.sl false (rowsD (fun _=>false) (TS.R (WS.x y))) 1 (WS.h y),iv (↑(WS.w y):Int),iv (↑(WS.h y):Int),.sl false (rowsD (fun _=>false) (WS.O y)) 1 (WS.h y),iv (↑(TS.r (WS.x y)):Int),iv (↑(TS.c (WS.x y)):Int),bv (TS.p (WS.x y)),iv 0,iv 0,bv false,iv (-1:Int),iv (-1:Int),iv 0,bv false,kv .u8 66,kv .u8 66,iv 0,iv (-1:Int),iv (-1:Int),iv 0,bv false,bv false,bv false,bv false,bv true,bv true,bv false,bv false,kv .u8 66,kv .u8 66,iv 0,iv 0,iv (↑(WS.h y):Int),.sl false (tabsD (WS.T y)) 1 (WS.w y),DV.v (Value.slice none 0 0),iv 0,sv ⟨#[]⟩,sv ⟨#[]⟩,sv ⟨#[]⟩,sv ⟨#[]⟩])
  then bif holds (Q4 { data:=#[] } { data:=#[] } s) then bif decide (0<ByteArray.size s) then bif decide (0<ByteArray.size s) then bif holds (WPX.ok { w:=Int.toNat (↑(WS.w y):Int),h:=Int.toNat (↑(WS.h y):Int),n:=ByteArray.size s,T:=fun i=>boolD (bv ((fun i=>boolD (bv (WS.T y i))) i)),B:=DV.v (Value.slice none 0 0),O:=fun i=>rowD (.sl ((fun _=>false) i) (Row.cell ((fun i=>rowD (.sl ((fun _=>false) i) (Row.cell (WS.O y i)) 5 (Row.n (WS.O y i)))) i)) 5 (Row.n ((fun i=>rowD (.sl ((fun _=>false) i) (Row.cell (WS.O y i)) 5 (Row.n (WS.O y i)))) i))),z:=fun i=>numD (G s i 1),i:=0,x:={ R:=fun i=>rowD (.sl ((fun _=>false) i) (Row.cell ((fun i=>rowD (.sl ((fun _=>false) i) (Row.cell (TS.R (WS.x y) i)) 5 (Row.n (TS.R (WS.x y) i)))) i)) 5 (Row.n ((fun i=>rowD (.sl ((fun _=>false) i) (Row.cell (TS.R (WS.x y) i)) 5 (Row.n (TS.R (WS.x y) i)))) i))),r:=Int.toNat (↑(TS.r (WS.x y)):Int),c:=Int.toNat (↑(TS.c (WS.x y)):Int),p:=TS.p (WS.x y) } }∧∃ ids,WkP 8 ids [.po 1 0 0,.po 6 0 0,.po 7 0 0,.sl false (G s) 7 (ByteArray.size s),iv (↑(ByteArray.size s):Int),iv 0] [some ⟨42,.lst [[iv (↑(WS.w y):Int),iv (↑(WS.h y):Int),.sl false (fun a _=>DV.sl ((fun _=>false) a) (Row.cell (TS.R (WS.x y) a)) 5 (Row.n (TS.R (WS.x y) a))) 1 (WS.h y),iv (↑(WS.w y):Int),iv (↑(WS.h y):Int),.sl false (fun a _=>DV.sl ((fun _=>false) a) (Row.cell (WS.O y a)) 5 (Row.n (WS.O y a))) 1 (WS.h y),iv (↑(TS.r (WS.x y)):Int),iv (↑(TS.c (WS.x y)):Int),bv (TS.p (WS.x y)),iv 0,iv 0,bv false,iv (-1:Int),iv (-1:Int),iv 0,bv false,kv .u8 66,kv .u8 66,iv 0,iv (-1:Int),iv (-1:Int),iv 0,bv false,bv false,bv false,bv false,bv true,bv true,bv false,bv false,kv .u8 66,kv .u8 66,iv 0,iv 0,iv (↑(WS.h y):Int),.sl false (fun a _=>bv (WS.T y a)) 1 (WS.w y),DV.v (Value.slice none 0 0),iv 0,sv ⟨#[]⟩,sv ⟨#[]⟩,sv ⟨#[]⟩,sv ⟨#[]⟩]]⟩,some ⟨42,.lst [[iv 0,iv 0,DV.v (Value.slice none 0 0),iv 0,iv 0,DV.v (Value.slice none 0 0),iv 0,iv 0,bv false,iv 0,iv 0,bv false,iv 0,iv 0,iv 0,bv false,kv .u8 0,kv .u8 0,iv 0,iv 0,iv 0,iv 0,bv false,bv false,bv false,bv false,bv false,bv false,bv false,bv false,kv .u8 0,kv .u8 0,iv 0,iv 0,iv 0,DV.v (Value.slice none 0 0),DV.v (Value.slice none 0 0),iv 0,sv ⟨#[]⟩,sv ⟨#[]⟩,sv ⟨#[]⟩,sv ⟨#[]⟩]]⟩,some ⟨42,.upd (.upd (.upd (.upd (.lst [[iv (↑(WS.w y):Int),iv (↑(WS.h y):Int),.sl false (fun a _=>DV.sl ((fun _=>false) a) (Row.cell (TS.R (WS.x y) a)) 5 (Row.n (TS.R (WS.x y) a))) 1 (WS.h y),iv (↑(WS.w y):Int),iv (↑(WS.h y):Int),.sl false (fun a _=>DV.sl ((fun _=>false) a) (Row.cell (WS.O y a)) 5 (Row.n (WS.O y a))) 1 (WS.h y),iv (↑(TS.r (WS.x y)):Int),iv (↑(TS.c (WS.x y)):Int),bv (TS.p (WS.x y)),iv 0,iv 0,bv false,iv (-1:Int),iv (-1:Int),iv 0,bv false,kv .u8 66,kv .u8 66,iv 0,iv (-1:Int),iv (-1:Int),iv 0,bv false,bv false,bv false,bv false,bv true,bv true,bv false,bv false,kv .u8 66,kv .u8 66,iv 0,iv 0,iv (↑(WS.h y):Int),.sl false (fun a _=>bv (WS.T y a)) 1 (WS.w y),DV.v (Value.slice none 0 0),iv 0,sv ⟨#[]⟩,sv ⟨#[]⟩,sv ⟨#[]⟩,sv ⟨#[]⟩]]) 0 2 (.os 4 0 (WS.h y))) 0 5 (.os 5 0 (WS.h y))) 0 36 (DV.v (Value.slice none 0 0))) 0 35 (.sl false (fun a _=>bv ((fun i=>boolD (bv (WS.T y i))) a)) 1 (WS.w y))⟩,some ⟨42,.upd (.upd (.upd (.upd (.upd (.upd (.upd (.upd (.upd (.upd (.upd (.upd (.upd (.upd (.upd (.upd (.upd (.upd (.upd (.upd (.upd (.upd (.upd (.upd (.upd (.upd (.upd (.upd (.upd (.upd (.upd (.upd (.upd (.upd (.upd (.upd (.upd (.upd (.upd (.upd (.upd (.upd (.lst [[iv 0,iv 0,DV.v (Value.slice none 0 0),iv 0,iv 0,DV.v (Value.slice none 0 0),iv 0,iv 0,bv false,iv 0,iv 0,bv false,iv 0,iv 0,iv 0,bv false,kv .u8 0,kv .u8 0,iv 0,iv 0,iv 0,iv 0,bv false,bv false,bv false,bv false,bv false,bv false,bv false,bv false,kv .u8 0,kv .u8 0,iv 0,iv 0,iv 0,DV.v (Value.slice none 0 0),DV.v (Value.slice none 0 0),iv 0,sv ⟨#[]⟩,sv ⟨#[]⟩,sv ⟨#[]⟩,sv ⟨#[]⟩]]) 0 0 (iv (↑(WS.w y):Int))) 0 1 (iv (↑(WS.h y):Int))) 0 2 (.os 4 0 (WS.h y))) 0 3 (iv (↑(WS.w y):Int))) 0 4 (iv (↑(WS.h y):Int))) 0 5 (.os 5 0 (WS.h y))) 0 6 (iv (↑(TS.r (WS.x y)):Int))) 0 7 (iv (↑(TS.c (WS.x y)):Int))) 0 8 (bv (TS.p (WS.x y)))) 0 9 (iv 0)) 0 10 (iv 0)) 0 11 (bv false)) 0 12 (iv (-1:Int))) 0 13 (iv (-1:Int))) 0 14 (iv 0)) 0 15 (bv false)) 0 16 (kv .u8 66)) 0 17 (kv .u8 66)) 0 18 (iv 0)) 0 19 (iv (-1:Int))) 0 20 (iv (-1:Int))) 0 21 (iv 0)) 0 22 (bv false)) 0 23 (bv false)) 0 24 (bv false)) 0 25 (bv false)) 0 26 (bv true)) 0 27 (bv true)) 0 28 (bv false)) 0 29 (bv false)) 0 30 (kv .u8 66)) 0 31 (kv .u8 66)) 0 32 (iv 0)) 0 33 (iv 0)) 0 34 (iv (↑(WS.h y):Int))) 0 35 (.sl false (fun a _=>bv ((fun i=>boolD (bv (WS.T y i))) a)) 1 (WS.w y))) 0 36 (DV.v (Value.slice none 0 0))) 0 37 (iv 0)) 0 38 (sv ⟨#[]⟩)) 0 39 (sv ⟨#[]⟩)) 0 40 (sv ⟨#[]⟩)) 0 41 (sv ⟨#[]⟩)⟩,some ⟨1,.tab (WS.h y) fun a _=>DV.sl ((fun _=>false) a) (Row.cell ((fun i=>rowD (.sl ((fun _=>false) i) (Row.cell (TS.R (WS.x y) i)) 5 (Row.n (TS.R (WS.x y) i)))) a)) 5 (Row.n ((fun i=>rowD (.sl ((fun _=>false) i) (Row.cell (TS.R (WS.x y) i)) 5 (Row.n (TS.R (WS.x y) i)))) a))⟩,some ⟨1,.tab (WS.h y) fun a _=>DV.sl ((fun _=>false) a) (Row.cell ((fun i=>rowD (.sl ((fun _=>false) i) (Row.cell (WS.O y i)) 5 (Row.n (WS.O y i)))) a)) 5 (Row.n ((fun i=>rowD (.sl ((fun _=>false) i) (Row.cell (WS.O y i)) 5 (Row.n (WS.O y i)))) a))⟩,some ⟨42,.lst [[iv (↑(WS.w y):Int),iv (↑(WS.h y):Int),.os 4 0 (WS.h y),iv (↑(WS.w y):Int),iv (↑(WS.h y):Int),.os 5 0 (WS.h y),iv (↑(TS.r (WS.x y)):Int),iv (↑(TS.c (WS.x y)):Int),bv (TS.p (WS.x y)),iv 0,iv 0,bv false,iv (-1:Int),iv (-1:Int),iv 0,bv false,kv .u8 66,kv .u8 66,iv 0,iv (-1:Int),iv (-1:Int),iv 0,bv false,bv false,bv false,bv false,bv true,bv true,bv false,bv false,kv .u8 66,kv .u8 66,iv 0,iv 0,iv (↑(WS.h y):Int),.sl false (fun a _=>bv ((fun i=>boolD (bv (WS.T y i))) a)) 1 (WS.w y),DV.v (Value.slice none 0 0),iv 0,sv ⟨#[]⟩,sv ⟨#[]⟩,sv ⟨#[]⟩,sv ⟨#[]⟩]]⟩,some ⟨3,.upd (.upd (.upd (.lst [[iv 0,sv ⟨#[]⟩,sv ⟨#[]⟩]]) 0 0 (iv 0)) 0 1 (sv ⟨#[]⟩)) 0 2 (sv ⟨#[]⟩)⟩] [.po 1 0 0,.po 6 0 0,.po 7 0 0,.sl false (evZ fun i=>numD (G s i 1)) 7 (ByteArray.size s),iv (↑(ByteArray.size s):Int),iv 0] [none,some ⟨42,.lst [[iv 0,iv 0,DV.v (Value.slice none 0 0),iv 0,iv 0,DV.v (Value.slice none 0 0),iv 0,iv 0,bv false,iv 0,iv 0,bv false,iv 0,iv 0,iv 0,bv false,kv .u8 0,kv .u8 0,iv 0,iv 0,iv 0,iv 0,bv false,bv false,bv false,bv false,bv false,bv false,bv false,bv false,kv .u8 0,kv .u8 0,iv 0,iv 0,iv 0,DV.v (Value.slice none 0 0),DV.v (Value.slice none 0 0),iv 0,sv ⟨#[]⟩,sv ⟨#[]⟩,sv ⟨#[]⟩,sv ⟨#[]⟩]]⟩,none,none,some ⟨1,.tab (Int.toNat (↑(WS.h y):Int)) fun a _=>DV.sl ((fun _=>false) a) (Row.cell ((fun i=>rowD (.sl ((fun _=>false) i) (Row.cell ((fun i=>rowD (.sl ((fun _=>false) i) (Row.cell (TS.R (WS.x y) i)) 5 (Row.n (TS.R (WS.x y) i)))) i)) 5 (Row.n ((fun i=>rowD (.sl ((fun _=>false) i) (Row.cell (TS.R (WS.x y) i)) 5 (Row.n (TS.R (WS.x y) i)))) i)))) a)) 5 (Row.n ((fun i=>rowD (.sl ((fun _=>false) i) (Row.cell ((fun i=>rowD (.sl ((fun _=>false) i) (Row.cell (TS.R (WS.x y) i)) 5 (Row.n (TS.R (WS.x y) i)))) i)) 5 (Row.n ((fun i=>rowD (.sl ((fun _=>false) i) (Row.cell (TS.R (WS.x y) i)) 5 (Row.n (TS.R (WS.x y) i)))) i)))) a))⟩,some ⟨1,.tab (Int.toNat (↑(WS.h y):Int)) fun a _=>DV.sl ((fun _=>false) a) (Row.cell ((fun i=>rowD (.sl ((fun _=>false) i) (Row.cell ((fun i=>rowD (.sl ((fun _=>false) i) (Row.cell (WS.O y i)) 5 (Row.n (WS.O y i)))) i)) 5 (Row.n ((fun i=>rowD (.sl ((fun _=>false) i) (Row.cell (WS.O y i)) 5 (Row.n (WS.O y i)))) i)))) a)) 5 (Row.n ((fun i=>rowD (.sl ((fun _=>false) i) (Row.cell ((fun i=>rowD (.sl ((fun _=>false) i) (Row.cell (WS.O y i)) 5 (Row.n (WS.O y i)))) i)) 5 (Row.n ((fun i=>rowD (.sl ((fun _=>false) i) (Row.cell (WS.O y i)) 5 (Row.n (WS.O y i)))) i)))) a))⟩,some ⟨42,.lst [[iv (↑(Int.toNat (↑(WS.w y):Int)):Int),iv (↑(Int.toNat (↑(WS.h y):Int)):Int),.os 4 0 (Int.toNat (↑(WS.h y):Int)),iv (↑(Int.toNat (↑(WS.w y):Int)):Int),iv (↑(Int.toNat (↑(WS.h y):Int)):Int),.os 5 0 (Int.toNat (↑(WS.h y):Int)),iv (↑(Int.toNat (↑(TS.r (WS.x y)):Int)):Int),iv (↑(Int.toNat (↑(TS.c (WS.x y)):Int)):Int),bv (TS.p (WS.x y)),iv 0,iv 0,bv false,iv (-1:Int),iv (-1:Int),iv 0,bv false,kv .u8 66,kv .u8 66,iv 0,iv (-1:Int),iv (-1:Int),iv 0,bv false,bv false,bv false,bv false,bv true,bv true,bv false,bv false,kv .u8 66,kv .u8 66,iv 0,iv 0,iv (↑(Int.toNat (↑(WS.h y):Int)):Int),.sl false (fun a _=>bv ((fun i=>boolD (bv ((fun i=>boolD (bv (WS.T y i))) i))) a)) 1 (Int.toNat (↑(WS.w y):Int)),DV.v (Value.slice none 0 0),iv 0,sv ⟨#[]⟩,sv ⟨#[]⟩,sv ⟨#[]⟩,sv ⟨#[]⟩]]⟩,some ⟨3,.lst [[iv 0,sv ⟨#[]⟩,sv ⟨#[]⟩]]⟩])
  then K (.agg [iv (↑(Int.toNat (↑(WS.w y):Int)):Int),iv (↑(Int.toNat (↑(WS.h y):Int)):Int),.os 4 0 (Int.toNat (↑(WS.h y):Int)),iv (↑(Int.toNat (↑(WS.w y):Int)):Int),iv (↑(Int.toNat (↑(WS.h y):Int)):Int),.os 5 0 (Int.toNat (↑(WS.h y):Int)),iv (↑(TS.r (WPX.f { w:=Int.toNat (↑(WS.w y):Int),h:=Int.toNat (↑(WS.h y):Int),n:=ByteArray.size s,T:=fun i=>boolD (bv ((fun i=>boolD (bv (WS.T y i))) i)),B:=DV.v (Value.slice none 0 0),O:=fun i=>rowD (.sl ((fun _=>false) i) (Row.cell ((fun i=>rowD (.sl ((fun _=>false) i) (Row.cell (WS.O y i)) 5 (Row.n (WS.O y i)))) i)) 5 (Row.n ((fun i=>rowD (.sl ((fun _=>false) i) (Row.cell (WS.O y i)) 5 (Row.n (WS.O y i)))) i))),z:=fun i=>numD (G s i 1),i:=0,x:={ R:=fun i=>rowD (.sl ((fun _=>false) i) (Row.cell ((fun i=>rowD (.sl ((fun _=>false) i) (Row.cell (TS.R (WS.x y) i)) 5 (Row.n (TS.R (WS.x y) i)))) i)) 5 (Row.n ((fun i=>rowD (.sl ((fun _=>false) i) (Row.cell (TS.R (WS.x y) i)) 5 (Row.n (TS.R (WS.x y) i)))) i))),r:=Int.toNat (↑(TS.r (WS.x y)):Int),c:=Int.toNat (↑(TS.c (WS.x y)):Int),p:=TS.p (WS.x y) } })):Int),iv (↑(TS.c (WPX.f { w:=Int.toNat (↑(WS.w y):Int),h:=Int.toNat (↑(WS.h y):Int),n:=ByteArray.size s,T:=fun i=>boolD (bv ((fun i=>boolD (bv (WS.T y i))) i)),B:=DV.v (Value.slice none 0 0),O:=fun i=>rowD (.sl ((fun _=>false) i) (Row.cell ((fun i=>rowD (.sl ((fun _=>false) i) (Row.cell (WS.O y i)) 5 (Row.n (WS.O y i)))) i)) 5 (Row.n ((fun i=>rowD (.sl ((fun _=>false) i) (Row.cell (WS.O y i)) 5 (Row.n (WS.O y i)))) i))),z:=fun i=>numD (G s i 1),i:=0,x:={ R:=fun i=>rowD (.sl ((fun _=>false) i) (Row.cell ((fun i=>rowD (.sl ((fun _=>false) i) (Row.cell (TS.R (WS.x y) i)) 5 (Row.n (TS.R (WS.x y) i)))) i)) 5 (Row.n ((fun i=>rowD (.sl ((fun _=>false) i) (Row.cell (TS.R (WS.x y) i)) 5 (Row.n (TS.R (WS.x y) i)))) i))),r:=Int.toNat (↑(TS.r (WS.x y)):Int),c:=Int.toNat (↑(TS.c (WS.x y)):Int),p:=TS.p (WS.x y) } })):Int),bv (TS.p (WPX.f { w:=Int.toNat (↑(WS.w y):Int),h:=Int.toNat (↑(WS.h y):Int),n:=ByteArray.size s,T:=fun i=>boolD (bv ((fun i=>boolD (bv (WS.T y i))) i)),B:=DV.v (Value.slice none 0 0),O:=fun i=>rowD (.sl ((fun _=>false) i) (Row.cell ((fun i=>rowD (.sl ((fun _=>false) i) (Row.cell (WS.O y i)) 5 (Row.n (WS.O y i)))) i)) 5 (Row.n ((fun i=>rowD (.sl ((fun _=>false) i) (Row.cell (WS.O y i)) 5 (Row.n (WS.O y i)))) i))),z:=fun i=>numD (G s i 1),i:=0,x:={ R:=fun i=>rowD (.sl ((fun _=>false) i) (Row.cell ((fun i=>rowD (.sl ((fun _=>false) i) (Row.cell (TS.R (WS.x y) i)) 5 (Row.n (TS.R (WS.x y) i)))) i)) 5 (Row.n ((fun i=>rowD (.sl ((fun _=>false) i) (Row.cell (TS.R (WS.x y) i)) 5 (Row.n (TS.R (WS.x y) i)))) i))),r:=Int.toNat (↑(TS.r (WS.x y)):Int),c:=Int.toNat (↑(TS.c (WS.x y)):Int),p:=TS.p (WS.x y) } })),iv 0,iv 0,bv false,iv (-1:Int),iv (-1:Int),iv 0,bv false,kv .u8 66,kv .u8 66,iv 0,iv (-1:Int),iv (-1:Int),iv 0,bv false,bv false,bv false,bv false,bv true,bv true,bv false,bv false,kv .u8 66,kv .u8 66,iv 0,iv 0,iv (↑(Int.toNat (↑(WS.h y):Int)):Int),.sl false (fun a _=>bv ((fun i=>boolD (bv ((fun i=>boolD (bv (WS.T y i))) i))) a)) 1 (Int.toNat (↑(WS.w y):Int)),DV.v (Value.slice none 0 0),iv 0,sv ⟨#[]⟩,sv ⟨#[]⟩,sv ⟨#[]⟩,sv ⟨#[]⟩]) [none,some ⟨42,.upd (.upd (.upd (.upd (.upd (.upd (.upd (.upd (.upd (.upd (.upd (.upd (.upd (.upd (.upd (.upd (.upd (.upd (.upd (.upd (.upd (.upd (.upd (.upd (.upd (.upd (.upd (.upd (.upd (.upd (.upd (.upd (.upd (.upd (.upd (.upd (.upd (.upd (.upd (.upd (.upd (.upd (.lst [[iv 0,iv 0,DV.v (Value.slice none 0 0),iv 0,iv 0,DV.v (Value.slice none 0 0),iv 0,iv 0,bv false,iv 0,iv 0,bv false,iv 0,iv 0,iv 0,bv false,kv .u8 0,kv .u8 0,iv 0,iv 0,iv 0,iv 0,bv false,bv false,bv false,bv false,bv false,bv false,bv false,bv false,kv .u8 0,kv .u8 0,iv 0,iv 0,iv 0,DV.v (Value.slice none 0 0),DV.v (Value.slice none 0 0),iv 0,sv ⟨#[]⟩,sv ⟨#[]⟩,sv ⟨#[]⟩,sv ⟨#[]⟩]]) 0 0 (iv (↑(Int.toNat (↑(WS.w y):Int)):Int))) 0 1 (iv (↑(Int.toNat (↑(WS.h y):Int)):Int))) 0 2 (.os 4 0 (Int.toNat (↑(WS.h y):Int)))) 0 3 (iv (↑(Int.toNat (↑(WS.w y):Int)):Int))) 0 4 (iv (↑(Int.toNat (↑(WS.h y):Int)):Int))) 0 5 (.os 5 0 (Int.toNat (↑(WS.h y):Int)))) 0 6 (iv (↑(TS.r (WPX.f { w:=Int.toNat (↑(WS.w y):Int),h:=Int.toNat (↑(WS.h y):Int),n:=ByteArray.size s,T:=fun i=>boolD (bv ((fun i=>boolD (bv (WS.T y i))) i)),B:=DV.v (Value.slice none 0 0),O:=fun i=>rowD (.sl ((fun _=>false) i) (Row.cell ((fun i=>rowD (.sl ((fun _=>false) i) (Row.cell (WS.O y i)) 5 (Row.n (WS.O y i)))) i)) 5 (Row.n ((fun i=>rowD (.sl ((fun _=>false) i) (Row.cell (WS.O y i)) 5 (Row.n (WS.O y i)))) i))),z:=fun i=>numD (G s i 1),i:=0,x:={ R:=fun i=>rowD (.sl ((fun _=>false) i) (Row.cell ((fun i=>rowD (.sl ((fun _=>false) i) (Row.cell (TS.R (WS.x y) i)) 5 (Row.n (TS.R (WS.x y) i)))) i)) 5 (Row.n ((fun i=>rowD (.sl ((fun _=>false) i) (Row.cell (TS.R (WS.x y) i)) 5 (Row.n (TS.R (WS.x y) i)))) i))),r:=Int.toNat (↑(TS.r (WS.x y)):Int),c:=Int.toNat (↑(TS.c (WS.x y)):Int),p:=TS.p (WS.x y) } })):Int))) 0 7 (iv (↑(TS.c (WPX.f { w:=Int.toNat (↑(WS.w y):Int),h:=Int.toNat (↑(WS.h y):Int),n:=ByteArray.size s,T:=fun i=>boolD (bv ((fun i=>boolD (bv (WS.T y i))) i)),B:=DV.v (Value.slice none 0 0),O:=fun i=>rowD (.sl ((fun _=>false) i) (Row.cell ((fun i=>rowD (.sl ((fun _=>false) i) (Row.cell (WS.O y i)) 5 (Row.n (WS.O y i)))) i)) 5 (Row.n ((fun i=>rowD (.sl ((fun _=>false) i) (Row.cell (WS.O y i)) 5 (Row.n (WS.O y i)))) i))),z:=fun i=>numD (G s i 1),i:=0,x:={ R:=fun i=>rowD (.sl ((fun _=>false) i) (Row.cell ((fun i=>rowD (.sl ((fun _=>false) i) (Row.cell (TS.R (WS.x y) i)) 5 (Row.n (TS.R (WS.x y) i)))) i)) 5 (Row.n ((fun i=>rowD (.sl ((fun _=>false) i) (Row.cell (TS.R (WS.x y) i)) 5 (Row.n (TS.R (WS.x y) i)))) i))),r:=Int.toNat (↑(TS.r (WS.x y)):Int),c:=Int.toNat (↑(TS.c (WS.x y)):Int),p:=TS.p (WS.x y) } })):Int))) 0 8 (bv (TS.p (WPX.f { w:=Int.toNat (↑(WS.w y):Int),h:=Int.toNat (↑(WS.h y):Int),n:=ByteArray.size s,T:=fun i=>boolD (bv ((fun i=>boolD (bv (WS.T y i))) i)),B:=DV.v (Value.slice none 0 0),O:=fun i=>rowD (.sl ((fun _=>false) i) (Row.cell ((fun i=>rowD (.sl ((fun _=>false) i) (Row.cell (WS.O y i)) 5 (Row.n (WS.O y i)))) i)) 5 (Row.n ((fun i=>rowD (.sl ((fun _=>false) i) (Row.cell (WS.O y i)) 5 (Row.n (WS.O y i)))) i))),z:=fun i=>numD (G s i 1),i:=0,x:={ R:=fun i=>rowD (.sl ((fun _=>false) i) (Row.cell ((fun i=>rowD (.sl ((fun _=>false) i) (Row.cell (TS.R (WS.x y) i)) 5 (Row.n (TS.R (WS.x y) i)))) i)) 5 (Row.n ((fun i=>rowD (.sl ((fun _=>false) i) (Row.cell (TS.R (WS.x y) i)) 5 (Row.n (TS.R (WS.x y) i)))) i))),r:=Int.toNat (↑(TS.r (WS.x y)):Int),c:=Int.toNat (↑(TS.c (WS.x y)):Int),p:=TS.p (WS.x y) } })))) 0 9 (iv 0)) 0 10 (iv 0)) 0 11 (bv false)) 0 12 (iv (-1:Int))) 0 13 (iv (-1:Int))) 0 14 (iv 0)) 0 15 (bv false)) 0 16 (kv .u8 66)) 0 17 (kv .u8 66)) 0 18 (iv 0)) 0 19 (iv (-1:Int))) 0 20 (iv (-1:Int))) 0 21 (iv 0)) 0 22 (bv false)) 0 23 (bv false)) 0 24 (bv false)) 0 25 (bv false)) 0 26 (bv true)) 0 27 (bv true)) 0 28 (bv false)) 0 29 (bv false)) 0 30 (kv .u8 66)) 0 31 (kv .u8 66)) 0 32 (iv 0)) 0 33 (iv 0)) 0 34 (iv (↑(Int.toNat (↑(WS.h y):Int)):Int))) 0 35 (.sl false (fun a _=>bv ((fun i=>boolD (bv ((fun i=>boolD (bv (WS.T y i))) i))) a)) 1 (Int.toNat (↑(WS.w y):Int)))) 0 36 (DV.v (Value.slice none 0 0))) 0 37 (iv 0)) 0 38 (sv ⟨#[]⟩)) 0 39 (sv ⟨#[]⟩)) 0 40 (sv ⟨#[]⟩)) 0 41 (sv ⟨#[]⟩)⟩,none,none,some ⟨1,.tab (Int.toNat (↑(WS.h y):Int)) fun a _=>DV.sl ((fun _=>false) a) (Row.cell (TS.R (WPX.f { w:=Int.toNat (↑(WS.w y):Int),h:=Int.toNat (↑(WS.h y):Int),n:=ByteArray.size s,T:=fun i=>boolD (bv ((fun i=>boolD (bv (WS.T y i))) i)),B:=DV.v (Value.slice none 0 0),O:=fun i=>rowD (.sl ((fun _=>false) i) (Row.cell ((fun i=>rowD (.sl ((fun _=>false) i) (Row.cell (WS.O y i)) 5 (Row.n (WS.O y i)))) i)) 5 (Row.n ((fun i=>rowD (.sl ((fun _=>false) i) (Row.cell (WS.O y i)) 5 (Row.n (WS.O y i)))) i))),z:=fun i=>numD (G s i 1),i:=0,x:={ R:=fun i=>rowD (.sl ((fun _=>false) i) (Row.cell ((fun i=>rowD (.sl ((fun _=>false) i) (Row.cell (TS.R (WS.x y) i)) 5 (Row.n (TS.R (WS.x y) i)))) i)) 5 (Row.n ((fun i=>rowD (.sl ((fun _=>false) i) (Row.cell (TS.R (WS.x y) i)) 5 (Row.n (TS.R (WS.x y) i)))) i))),r:=Int.toNat (↑(TS.r (WS.x y)):Int),c:=Int.toNat (↑(TS.c (WS.x y)):Int),p:=TS.p (WS.x y) } }) a)) 5 (Row.n (TS.R (WPX.f { w:=Int.toNat (↑(WS.w y):Int),h:=Int.toNat (↑(WS.h y):Int),n:=ByteArray.size s,T:=fun i=>boolD (bv ((fun i=>boolD (bv (WS.T y i))) i)),B:=DV.v (Value.slice none 0 0),O:=fun i=>rowD (.sl ((fun _=>false) i) (Row.cell ((fun i=>rowD (.sl ((fun _=>false) i) (Row.cell (WS.O y i)) 5 (Row.n (WS.O y i)))) i)) 5 (Row.n ((fun i=>rowD (.sl ((fun _=>false) i) (Row.cell (WS.O y i)) 5 (Row.n (WS.O y i)))) i))),z:=fun i=>numD (G s i 1),i:=0,x:={ R:=fun i=>rowD (.sl ((fun _=>false) i) (Row.cell ((fun i=>rowD (.sl ((fun _=>false) i) (Row.cell (TS.R (WS.x y) i)) 5 (Row.n (TS.R (WS.x y) i)))) i)) 5 (Row.n ((fun i=>rowD (.sl ((fun _=>false) i) (Row.cell (TS.R (WS.x y) i)) 5 (Row.n (TS.R (WS.x y) i)))) i))),r:=Int.toNat (↑(TS.r (WS.x y)):Int),c:=Int.toNat (↑(TS.c (WS.x y)):Int),p:=TS.p (WS.x y) } }) a))⟩,some ⟨1,.tab (Int.toNat (↑(WS.h y):Int)) fun a _=>DV.sl ((fun _=>false) a) (Row.cell ((fun i=>rowD (.sl ((fun _=>false) i) (Row.cell ((fun i=>rowD (.sl ((fun _=>false) i) (Row.cell (WS.O y i)) 5 (Row.n (WS.O y i)))) i)) 5 (Row.n ((fun i=>rowD (.sl ((fun _=>false) i) (Row.cell (WS.O y i)) 5 (Row.n (WS.O y i)))) i)))) a)) 5 (Row.n ((fun i=>rowD (.sl ((fun _=>false) i) (Row.cell ((fun i=>rowD (.sl ((fun _=>false) i) (Row.cell (WS.O y i)) 5 (Row.n (WS.O y i)))) i)) 5 (Row.n ((fun i=>rowD (.sl ((fun _=>false) i) (Row.cell (WS.O y i)) 5 (Row.n (WS.O y i)))) i)))) a))⟩,some ⟨42,.upd (.upd (.upd (.lst [[iv (↑(Int.toNat (↑(WS.w y):Int)):Int),iv (↑(Int.toNat (↑(WS.h y):Int)):Int),.os 4 0 (Int.toNat (↑(WS.h y):Int)),iv (↑(Int.toNat (↑(WS.w y):Int)):Int),iv (↑(Int.toNat (↑(WS.h y):Int)):Int),.os 5 0 (Int.toNat (↑(WS.h y):Int)),iv (↑(TS.r (WPX.f { w:=Int.toNat (↑(WS.w y):Int),h:=Int.toNat (↑(WS.h y):Int),n:=ByteArray.size s,T:=fun i=>boolD (bv ((fun i=>boolD (bv (WS.T y i))) i)),B:=DV.v (Value.slice none 0 0),O:=fun i=>rowD (.sl ((fun _=>false) i) (Row.cell ((fun i=>rowD (.sl ((fun _=>false) i) (Row.cell (WS.O y i)) 5 (Row.n (WS.O y i)))) i)) 5 (Row.n ((fun i=>rowD (.sl ((fun _=>false) i) (Row.cell (WS.O y i)) 5 (Row.n (WS.O y i)))) i))),z:=fun i=>numD (G s i 1),i:=0,x:={ R:=fun i=>rowD (.sl ((fun _=>false) i) (Row.cell ((fun i=>rowD (.sl ((fun _=>false) i) (Row.cell (TS.R (WS.x y) i)) 5 (Row.n (TS.R (WS.x y) i)))) i)) 5 (Row.n ((fun i=>rowD (.sl ((fun _=>false) i) (Row.cell (TS.R (WS.x y) i)) 5 (Row.n (TS.R (WS.x y) i)))) i))),r:=Int.toNat (↑(TS.r (WS.x y)):Int),c:=Int.toNat (↑(TS.c (WS.x y)):Int),p:=TS.p (WS.x y) } })):Int),iv (↑(TS.c (WPX.f { w:=Int.toNat (↑(WS.w y):Int),h:=Int.toNat (↑(WS.h y):Int),n:=ByteArray.size s,T:=fun i=>boolD (bv ((fun i=>boolD (bv (WS.T y i))) i)),B:=DV.v (Value.slice none 0 0),O:=fun i=>rowD (.sl ((fun _=>false) i) (Row.cell ((fun i=>rowD (.sl ((fun _=>false) i) (Row.cell (WS.O y i)) 5 (Row.n (WS.O y i)))) i)) 5 (Row.n ((fun i=>rowD (.sl ((fun _=>false) i) (Row.cell (WS.O y i)) 5 (Row.n (WS.O y i)))) i))),z:=fun i=>numD (G s i 1),i:=0,x:={ R:=fun i=>rowD (.sl ((fun _=>false) i) (Row.cell ((fun i=>rowD (.sl ((fun _=>false) i) (Row.cell (TS.R (WS.x y) i)) 5 (Row.n (TS.R (WS.x y) i)))) i)) 5 (Row.n ((fun i=>rowD (.sl ((fun _=>false) i) (Row.cell (TS.R (WS.x y) i)) 5 (Row.n (TS.R (WS.x y) i)))) i))),r:=Int.toNat (↑(TS.r (WS.x y)):Int),c:=Int.toNat (↑(TS.c (WS.x y)):Int),p:=TS.p (WS.x y) } })):Int),bv (TS.p (WPX.f { w:=Int.toNat (↑(WS.w y):Int),h:=Int.toNat (↑(WS.h y):Int),n:=ByteArray.size s,T:=fun i=>boolD (bv ((fun i=>boolD (bv (WS.T y i))) i)),B:=DV.v (Value.slice none 0 0),O:=fun i=>rowD (.sl ((fun _=>false) i) (Row.cell ((fun i=>rowD (.sl ((fun _=>false) i) (Row.cell (WS.O y i)) 5 (Row.n (WS.O y i)))) i)) 5 (Row.n ((fun i=>rowD (.sl ((fun _=>false) i) (Row.cell (WS.O y i)) 5 (Row.n (WS.O y i)))) i))),z:=fun i=>numD (G s i 1),i:=0,x:={ R:=fun i=>rowD (.sl ((fun _=>false) i) (Row.cell ((fun i=>rowD (.sl ((fun _=>false) i) (Row.cell (TS.R (WS.x y) i)) 5 (Row.n (TS.R (WS.x y) i)))) i)) 5 (Row.n ((fun i=>rowD (.sl ((fun _=>false) i) (Row.cell (TS.R (WS.x y) i)) 5 (Row.n (TS.R (WS.x y) i)))) i))),r:=Int.toNat (↑(TS.r (WS.x y)):Int),c:=Int.toNat (↑(TS.c (WS.x y)):Int),p:=TS.p (WS.x y) } })),iv 0,iv 0,bv false,iv (-1:Int),iv (-1:Int),iv 0,bv false,kv .u8 66,kv .u8 66,iv 0,iv (-1:Int),iv (-1:Int),iv 0,bv false,bv false,bv false,bv false,bv true,bv true,bv false,bv false,kv .u8 66,kv .u8 66,iv 0,iv 0,iv (↑(Int.toNat (↑(WS.h y):Int)):Int),.sl false (fun a _=>bv ((fun i=>boolD (bv ((fun i=>boolD (bv (WS.T y i))) i))) a)) 1 (Int.toNat (↑(WS.w y):Int)),DV.v (Value.slice none 0 0),iv 0,sv ⟨#[]⟩,sv ⟨#[]⟩,sv ⟨#[]⟩,sv ⟨#[]⟩]]) 0 37 (iv 0)) 0 38 (sv ⟨#[]⟩)) 0 39 (sv ⟨#[]⟩)⟩,some ⟨3,.lst [[iv 0,sv ⟨#[]⟩,sv ⟨#[]⟩]]⟩]
  else none else none else none else none else none else none else none else none:=by
 kernel_rfl
noncomputable def feN (Q:ByteArray→ByteArray→ByteArray→Prop):ConF:=fun args k=>match args with
 | [.agg [.v (.int .i64 0),.v (.string p),.v (.string b)],.v (.string s)]=>bif holds (Q p b s) then k (fun _=>(.tup [.agg [iv 0,sv ⟨#[]⟩,sv ⟨#[]⟩],nilS],[])) else none
 | _=>none
theorem wr0_tree (y:WS) (Q Q2:(Nat→Nat→DV)→Nat→Prop) (Q3:List DV→Prop) (Q4:ByteArray→ByteArray→ByteArray→Prop) (K:DV→DHeap→Option Unit):bodyD Tryz.prog (envG Tryz.prog gl0 [] [e35 Q Q2] [(11,tcC Q3),(36,feN Q4)] noLp 1) Tryz.f14 [.agg y.cells,sv ⟨#[]⟩] [] (fun d σ=>K d σ) =
  bif holds (Q (rowsD (fun _=>false) (TS.R (WS.x y))) (WS.h y)) then bif holds (Q (rowsD (fun _=>false) (WS.O y)) (WS.h y)) then bif holds (Q2 (tabsD (WS.T y)) (WS.w y)) then bif holds (Q3 [iv (↑(WS.w y):Int),iv (↑(WS.h y):Int),.sl false (rowsD (fun _=>false) (TS.R (WS.x y))) 1 (WS.h y),iv (↑(WS.w y):Int),iv (↑(WS.h y):Int),.sl false (rowsD (fun _=>false) (WS.O y)) 1 (WS.h y),iv (↑(TS.r (WS.x y)):Int),iv (↑(TS.c (WS.x y)):Int),bv (TS.p (WS.x y)),iv 0,iv 0,bv false,iv (-1:Int),iv (-1:Int),iv 0,bv false,kv .u8 66,kv .u8 66,iv 0,iv (-1:Int),iv (-1:Int),iv 0,bv false,bv false,bv false,bv false,bv true,bv true,bv false,bv false,kv .u8 66,kv .u8 66,iv 0,iv 0,iv (↑(WS.h y):Int),.sl false (tabsD (WS.T y)) 1 (WS.w y),DV.v (Value.slice none 0 0),iv 0,sv ⟨#[]⟩,sv ⟨#[]⟩,sv ⟨#[]⟩,sv ⟨#[]⟩])
  then bif holds (Q4 { data:=#[] } { data:=#[] } { data:=#[] }) then K (.agg [iv (↑(WS.w y):Int),iv (↑(WS.h y):Int),.os 4 0 (WS.h y),iv (↑(WS.w y):Int),iv (↑(WS.h y):Int),.os 5 0 (WS.h y),iv (↑(TS.r (WS.x y)):Int),iv (↑(TS.c (WS.x y)):Int),bv (TS.p (WS.x y)),iv 0,iv 0,bv false,iv (-1:Int),iv (-1:Int),iv 0,bv false,kv .u8 66,kv .u8 66,iv 0,iv (-1:Int),iv (-1:Int),iv 0,bv false,bv false,bv false,bv false,bv true,bv true,bv false,bv false,kv .u8 66,kv .u8 66,iv 0,iv 0,iv (↑(WS.h y):Int),.sl false (fun a _=>bv ((fun i=>boolD (bv (WS.T y i))) a)) 1 (WS.w y),DV.v (Value.slice none 0 0),iv 0,sv ⟨#[]⟩,sv ⟨#[]⟩,sv ⟨#[]⟩,sv ⟨#[]⟩]) [some ⟨42,.lst [[iv (↑(WS.w y):Int),iv (↑(WS.h y):Int),.sl false (fun a _=>DV.sl ((fun _=>false) a) (Row.cell (TS.R (WS.x y) a)) 5 (Row.n (TS.R (WS.x y) a))) 1 (WS.h y),iv (↑(WS.w y):Int),iv (↑(WS.h y):Int),.sl false (fun a _=>DV.sl ((fun _=>false) a) (Row.cell (WS.O y a)) 5 (Row.n (WS.O y a))) 1 (WS.h y),iv (↑(TS.r (WS.x y)):Int),iv (↑(TS.c (WS.x y)):Int),bv (TS.p (WS.x y)),iv 0,iv 0,bv false,iv (-1:Int),iv (-1:Int),iv 0,bv false,kv .u8 66,kv .u8 66,iv 0,iv (-1:Int),iv (-1:Int),iv 0,bv false,bv false,bv false,bv false,bv true,bv true,bv false,bv false,kv .u8 66,kv .u8 66,iv 0,iv 0,iv (↑(WS.h y):Int),.sl false (fun a _=>bv (WS.T y a)) 1 (WS.w y),DV.v (Value.slice none 0 0),iv 0,sv ⟨#[]⟩,sv ⟨#[]⟩,sv ⟨#[]⟩,sv ⟨#[]⟩]]⟩,some ⟨42,.upd (.upd (.upd (.upd (.upd (.upd (.upd (.upd (.upd (.upd (.upd (.upd (.upd (.upd (.upd (.upd (.upd (.upd (.upd (.upd (.upd (.upd (.upd (.upd (.upd (.upd (.upd (.upd (.upd (.upd (.upd (.upd (.upd (.upd (.upd (.upd (.upd (.upd (.upd (.upd (.upd (.upd (.lst [[iv 0,iv 0,DV.v (Value.slice none 0 0),iv 0,iv 0,DV.v (Value.slice none 0 0),iv 0,iv 0,bv false,iv 0,iv 0,bv false,iv 0,iv 0,iv 0,bv false,kv .u8 0,kv .u8 0,iv 0,iv 0,iv 0,iv 0,bv false,bv false,bv false,bv false,bv false,bv false,bv false,bv false,kv .u8 0,kv .u8 0,iv 0,iv 0,iv 0,DV.v (Value.slice none 0 0),DV.v (Value.slice none 0 0),iv 0,sv ⟨#[]⟩,sv ⟨#[]⟩,sv ⟨#[]⟩,sv ⟨#[]⟩]]) 0 0 (iv (↑(WS.w y):Int))) 0 1 (iv (↑(WS.h y):Int))) 0 2 (.os 4 0 (WS.h y))) 0 3 (iv (↑(WS.w y):Int))) 0 4 (iv (↑(WS.h y):Int))) 0 5 (.os 5 0 (WS.h y))) 0 6 (iv (↑(TS.r (WS.x y)):Int))) 0 7 (iv (↑(TS.c (WS.x y)):Int))) 0 8 (bv (TS.p (WS.x y)))) 0 9 (iv 0)) 0 10 (iv 0)) 0 11 (bv false)) 0 12 (iv (-1:Int))) 0 13 (iv (-1:Int))) 0 14 (iv 0)) 0 15 (bv false)) 0 16 (kv .u8 66)) 0 17 (kv .u8 66)) 0 18 (iv 0)) 0 19 (iv (-1:Int))) 0 20 (iv (-1:Int))) 0 21 (iv 0)) 0 22 (bv false)) 0 23 (bv false)) 0 24 (bv false)) 0 25 (bv false)) 0 26 (bv true)) 0 27 (bv true)) 0 28 (bv false)) 0 29 (bv false)) 0 30 (kv .u8 66)) 0 31 (kv .u8 66)) 0 32 (iv 0)) 0 33 (iv 0)) 0 34 (iv (↑(WS.h y):Int))) 0 35 (.sl false (fun a _=>bv ((fun i=>boolD (bv (WS.T y i))) a)) 1 (WS.w y))) 0 36 (DV.v (Value.slice none 0 0))) 0 37 (iv 0)) 0 38 (sv ⟨#[]⟩)) 0 39 (sv ⟨#[]⟩)) 0 40 (sv ⟨#[]⟩)) 0 41 (sv ⟨#[]⟩)⟩,some ⟨42,.upd (.upd (.upd (.upd (.lst [[iv (↑(WS.w y):Int),iv (↑(WS.h y):Int),.sl false (fun a _=>DV.sl ((fun _=>false) a) (Row.cell (TS.R (WS.x y) a)) 5 (Row.n (TS.R (WS.x y) a))) 1 (WS.h y),iv (↑(WS.w y):Int),iv (↑(WS.h y):Int),.sl false (fun a _=>DV.sl ((fun _=>false) a) (Row.cell (WS.O y a)) 5 (Row.n (WS.O y a))) 1 (WS.h y),iv (↑(TS.r (WS.x y)):Int),iv (↑(TS.c (WS.x y)):Int),bv (TS.p (WS.x y)),iv 0,iv 0,bv false,iv (-1:Int),iv (-1:Int),iv 0,bv false,kv .u8 66,kv .u8 66,iv 0,iv (-1:Int),iv (-1:Int),iv 0,bv false,bv false,bv false,bv false,bv true,bv true,bv false,bv false,kv .u8 66,kv .u8 66,iv 0,iv 0,iv (↑(WS.h y):Int),.sl false (fun a _=>bv (WS.T y a)) 1 (WS.w y),DV.v (Value.slice none 0 0),iv 0,sv ⟨#[]⟩,sv ⟨#[]⟩,sv ⟨#[]⟩,sv ⟨#[]⟩]]) 0 2 (.os 4 0 (WS.h y))) 0 5 (.os 5 0 (WS.h y))) 0 36 (DV.v (Value.slice none 0 0))) 0 35 (.sl false (fun a _=>bv ((fun i=>boolD (bv (WS.T y i))) a)) 1 (WS.w y))⟩,some ⟨42,.upd (.upd (.upd (.upd (.upd (.upd (.upd (.upd (.upd (.upd (.upd (.upd (.upd (.upd (.upd (.upd (.upd (.upd (.upd (.upd (.upd (.upd (.upd (.upd (.upd (.upd (.upd (.upd (.upd (.upd (.upd (.upd (.upd (.upd (.upd (.upd (.upd (.upd (.upd (.upd (.upd (.upd (.lst [[iv 0,iv 0,DV.v (Value.slice none 0 0),iv 0,iv 0,DV.v (Value.slice none 0 0),iv 0,iv 0,bv false,iv 0,iv 0,bv false,iv 0,iv 0,iv 0,bv false,kv .u8 0,kv .u8 0,iv 0,iv 0,iv 0,iv 0,bv false,bv false,bv false,bv false,bv false,bv false,bv false,bv false,kv .u8 0,kv .u8 0,iv 0,iv 0,iv 0,DV.v (Value.slice none 0 0),DV.v (Value.slice none 0 0),iv 0,sv ⟨#[]⟩,sv ⟨#[]⟩,sv ⟨#[]⟩,sv ⟨#[]⟩]]) 0 0 (iv (↑(WS.w y):Int))) 0 1 (iv (↑(WS.h y):Int))) 0 2 (.os 4 0 (WS.h y))) 0 3 (iv (↑(WS.w y):Int))) 0 4 (iv (↑(WS.h y):Int))) 0 5 (.os 5 0 (WS.h y))) 0 6 (iv (↑(TS.r (WS.x y)):Int))) 0 7 (iv (↑(TS.c (WS.x y)):Int))) 0 8 (bv (TS.p (WS.x y)))) 0 9 (iv 0)) 0 10 (iv 0)) 0 11 (bv false)) 0 12 (iv (-1:Int))) 0 13 (iv (-1:Int))) 0 14 (iv 0)) 0 15 (bv false)) 0 16 (kv .u8 66)) 0 17 (kv .u8 66)) 0 18 (iv 0)) 0 19 (iv (-1:Int))) 0 20 (iv (-1:Int))) 0 21 (iv 0)) 0 22 (bv false)) 0 23 (bv false)) 0 24 (bv false)) 0 25 (bv false)) 0 26 (bv true)) 0 27 (bv true)) 0 28 (bv false)) 0 29 (bv false)) 0 30 (kv .u8 66)) 0 31 (kv .u8 66)) 0 32 (iv 0)) 0 33 (iv 0)) 0 34 (iv (↑(WS.h y):Int))) 0 35 (.sl false (fun a _=>bv ((fun i=>boolD (bv (WS.T y i))) a)) 1 (WS.w y))) 0 36 (DV.v (Value.slice none 0 0))) 0 37 (iv 0)) 0 38 (sv ⟨#[]⟩)) 0 39 (sv ⟨#[]⟩)) 0 40 (sv ⟨#[]⟩)) 0 41 (sv ⟨#[]⟩)⟩,some ⟨1,.tab (WS.h y) fun a _=>DV.sl ((fun _=>false) a) (Row.cell ((fun i=>rowD (.sl ((fun _=>false) i) (Row.cell (TS.R (WS.x y) i)) 5 (Row.n (TS.R (WS.x y) i)))) a)) 5 (Row.n ((fun i=>rowD (.sl ((fun _=>false) i) (Row.cell (TS.R (WS.x y) i)) 5 (Row.n (TS.R (WS.x y) i)))) a))⟩,some ⟨1,.tab (WS.h y) fun a _=>DV.sl ((fun _=>false) a) (Row.cell ((fun i=>rowD (.sl ((fun _=>false) i) (Row.cell (WS.O y i)) 5 (Row.n (WS.O y i)))) a)) 5 (Row.n ((fun i=>rowD (.sl ((fun _=>false) i) (Row.cell (WS.O y i)) 5 (Row.n (WS.O y i)))) a))⟩,some ⟨42,.upd (.upd (.upd (.lst [[iv (↑(WS.w y):Int),iv (↑(WS.h y):Int),.os 4 0 (WS.h y),iv (↑(WS.w y):Int),iv (↑(WS.h y):Int),.os 5 0 (WS.h y),iv (↑(TS.r (WS.x y)):Int),iv (↑(TS.c (WS.x y)):Int),bv (TS.p (WS.x y)),iv 0,iv 0,bv false,iv (-1:Int),iv (-1:Int),iv 0,bv false,kv .u8 66,kv .u8 66,iv 0,iv (-1:Int),iv (-1:Int),iv 0,bv false,bv false,bv false,bv false,bv true,bv true,bv false,bv false,kv .u8 66,kv .u8 66,iv 0,iv 0,iv (↑(WS.h y):Int),.sl false (fun a _=>bv ((fun i=>boolD (bv (WS.T y i))) a)) 1 (WS.w y),DV.v (Value.slice none 0 0),iv 0,sv ⟨#[]⟩,sv ⟨#[]⟩,sv ⟨#[]⟩,sv ⟨#[]⟩]]) 0 37 (iv 0)) 0 38 (sv ⟨#[]⟩)) 0 39 (sv ⟨#[]⟩)⟩,some ⟨3,.upd (.upd (.upd (.lst [[iv 0,sv ⟨#[]⟩,sv ⟨#[]⟩]]) 0 0 (iv 0)) 0 1 (sv ⟨#[]⟩)) 0 2 (sv ⟨#[]⟩)⟩]
  else none else none else none else none else none:=by
 kernel_rfl
end Go.Proofs.YtigmkgampfbflaaGreatDoor
