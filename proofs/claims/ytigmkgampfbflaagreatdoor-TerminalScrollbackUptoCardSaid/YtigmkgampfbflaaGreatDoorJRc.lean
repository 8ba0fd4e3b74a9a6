/-
 The contract of the program's check of a row of cells.
 Conditions: none beyond those of the contracts.
-/
import Derived.Test.YtigmkgampfbflaaGreatDoorJCk
import Derived.Test.YtigmkgampfbflaaGreatDoorJGn
namespace Go.Proofs.YtigmkgampfbflaaGreatDoor
open Go Go.AE Go.DE Go.RowKit
def p7s (F G:ByteArray->Int) (r:Row) (i:Nat) (a b:Int):Int :=
 bif (r.wd i != 1)&&(r.wd i != 2) then 12 else bif F (r.tx i) != 0 then 3 else bif G (r.tx i) != r.wd i then 12 else
  bif r.wd i==1 then a else bif ((i+1:Nat):Int)==(r.n:Int) then 12 else bif r.half i (i+1) then b else 12
def p7 (F G:ByteArray->Int) (r:Row):Nat->Nat->Int
 | 0,_=>0
 | m+1,i=>if i<r.n then p7s F G r i (p7 F G r m (i+1)) (p7 F G r m (i+2)) else 0
theorem wkP_any {ids:List Nat}{ds ds2:List DV}{σ σ':DHeap}(h:WkP 0 ids ds σ ds2 []):WkP 0 ids ds σ' ds2 []:=⟨h.tm,h.len,trivial,h.nd⟩
theorem ask_any {X:Type}{I:LInv X}{x:X}{e:Ex}{n:Nat}{ds es:List DV}{σ:DHeap}(h1:I.m=0) (h2:∀ y,I.sh y=[]) (h3:∀ y,I.oh y=[]):I.ask x e n ds es σ=I.ask x e n ds es []:=by
 have key:∀ σ σ',I.Q x e n ds es σ->I.Q x e n ds es σ':=fun σ σ' hq=>by
  obtain ⟨q0,hq⟩:=hq;refine ⟨q0,?_⟩
  cases e with
  | normal =>
   obtain ⟨y,a,b,ids,w⟩:=hq;rw [h1,h2] at w
   exact ⟨y,a,b,ids,by rw [h1,h2]; exact wkP_any w⟩
  | exit j =>
   obtain ⟨a,ids,w⟩:=hq;rw [h1,h3] at w
   exact ⟨a,ids,by rw [h1,h3]; exact wkP_any w⟩
  | ret =>
   obtain ⟨a,ids,w⟩:=hq;rw [h1,h3] at w
   exact ⟨a,ids,by rw [h1,h3]; exact wkP_any w⟩
 unfold LInv.ask;rw [show I.Q x e n ds es σ=I.Q x e n ds es [] from propext ⟨key _ _,key _ _⟩]
noncomputable def rqI (F G:ByteArray->Int):LInv CX where
 pre x:=x.r.sized/\x.r.n<=x.m+x.i
 m:=0
 n:=64
 ps:=[0,3]
 sd x:=[.sl x.t x.r.cell 5 x.r.n,iv x.i]
 sh _:=[]
 meas x:=x.r.n-x.i
 e x:=qe (p7 F G x.r x.m x.i)
 qs:=[2]
 od x:=qo (p7 F G x.r x.m x.i)
 oh _:=[]
 guess ds _:=match ds with
  | [.sl t g 5 n,_]=>some ⟨t,rowOf g n,n,0⟩
  | _=>none
 cps x k:=bif holds (p7 F G x.r x.m x.i=0) then k (.exit 0) [.any] [] else k .ret [iv (p7 F G x.r x.m x.i)] []
theorem rq_loop (F G:ByteArray->Int) (t:Bool) (r:Row) (i:Nat) (K:Ex->Nat->List DV->List DV->Option Unit):execD Tryz.prog (env [(72,ckC F),(73,cwC G)] noLp 0) (loopAt Tryz.f33 58) 500 (temps 64 [0,3] [.sl t r.cell 5 r.n,iv i]) [] (fun e τ _=>K e τ.length (pick [0,3] τ) (pick [2] τ)) =
  bif decide ((i:Int)<(r.n:Int)) then bif decide ((i:Int)<(r.n:Int)) then bif decide (tN i<r.n) then bif decide (tN i<r.n) then bif decide (tN i<r.n) then bif decide (tN i<r.n) then
  bif decide (tN i<r.n) then bif r.wd (tN i) != 1 then bif r.wd (tN i) != 2 then K .ret 64 [.sl t r.cell 5 r.n,iv (i:Int)] [iv 12] else bif decide (ByteArray.size (r.tx (tN i))<=9000000) then bif F (r.tx (tN i)) != 0
  then K .ret 64 [.sl t r.cell 5 r.n,iv (i:Int)] [iv 3] else bif decide (ByteArray.size (r.tx (tN i))<=9000000) then bif G (r.tx (tN i)) != r.wd (tN i) then K .ret 64 [.sl t r.cell 5 r.n,iv (i:Int)] [iv 12]
  else bif r.wd (tN i)==2 then bif decide (IntKind.wrap .i64 ((i:Int)+1) >= (r.n:Int)) then K .ret 64 [.sl t r.cell 5 r.n,iv (i:Int)] [iv 12] else bif decide (0<=IntKind.wrap .i64 ((i:Int)+1))
  then bif decide (IntKind.wrap .i64 ((i:Int)+1)<(r.n:Int)) then bif decide (Int.toNat (IntKind.wrap .i64 ((i:Int)+1))+0<r.n) then bif decide (Int.toNat (IntKind.wrap .i64 ((i:Int)+1))+0<r.n)
  then bif decide (Int.toNat (IntKind.wrap .i64 ((i:Int)+1))+0<r.n) then bif decide (Int.toNat (IntKind.wrap .i64 ((i:Int)+1))+0<r.n) then bif decide (Int.toNat (IntKind.wrap .i64 ((i:Int)+1))+0<r.n)
  then bif !bif r.tx (Int.toNat (IntKind.wrap .i64 ((i:Int)+1))+0)=={ data:=#[] } then bif r.wd (Int.toNat (IntKind.wrap .i64 ((i:Int)+1))+0)==0 then bif bif r.fo (Int.toNat (IntKind.wrap .i64 ((i:Int)+1))+0)==r.fo (tN i)
  then bif r.ba (Int.toNat (IntKind.wrap .i64 ((i:Int)+1))+0)==r.ba (tN i) then bif r.fl (Int.toNat (IntKind.wrap .i64 ((i:Int)+1))+0)==r.fl (tN i) then true else false else false else false
  then true else false else false else false then K .ret 64 [.sl t r.cell 5 r.n,iv (i:Int)] [iv 12] else K .normal 64 [.sl t r.cell 5 r.n,iv (IntKind.wrap .i64 ((i:Int)+r.wd (tN i)))] [DV.any]
  else none else none else none else none else none else none else none else K .normal 64 [.sl t r.cell 5 r.n,iv (IntKind.wrap .i64 ((i:Int)+r.wd (tN i)))] [DV.any] else none else none else bif decide (ByteArray.size (r.tx (tN i))<=9000000)
  then bif F (r.tx (tN i)) != 0 then K .ret 64 [.sl t r.cell 5 r.n,iv (i:Int)] [iv 3] else bif decide (ByteArray.size (r.tx (tN i))<=9000000) then bif G (r.tx (tN i)) != r.wd (tN i) then K .ret 64 [.sl t r.cell 5 r.n,iv (i:Int)] [iv 12]
  else bif r.wd (tN i)==2 then bif decide (IntKind.wrap .i64 ((i:Int)+1) >= (r.n:Int)) then K .ret 64 [.sl t r.cell 5 r.n,iv (i:Int)] [iv 12] else bif decide (0<=IntKind.wrap .i64 ((i:Int)+1))
  then bif decide (IntKind.wrap .i64 ((i:Int)+1)<(r.n:Int)) then bif decide (Int.toNat (IntKind.wrap .i64 ((i:Int)+1))+0<r.n) then bif decide (Int.toNat (IntKind.wrap .i64 ((i:Int)+1))+0<r.n)
  then bif decide (Int.toNat (IntKind.wrap .i64 ((i:Int)+1))+0<r.n) then bif decide (Int.toNat (IntKind.wrap .i64 ((i:Int)+1))+0<r.n) then bif decide (Int.toNat (IntKind.wrap .i64 ((i:Int)+1))+0<r.n)
  then bif !bif r.tx (Int.toNat (IntKind.wrap .i64 ((i:Int)+1))+0)=={ data:=#[] } then bif r.wd (Int.toNat (IntKind.wrap .i64 ((i:Int)+1))+0)==0 then bif bif r.fo (Int.toNat (IntKind.wrap .i64 ((i:Int)+1))+0)==r.fo (tN i)
  then bif r.ba (Int.toNat (IntKind.wrap .i64 ((i:Int)+1))+0)==r.ba (tN i) then bif r.fl (Int.toNat (IntKind.wrap .i64 ((i:Int)+1))+0)==r.fl (tN i) then true else false else false else false
  then true else false else false else false then K .ret 64 [.sl t r.cell 5 r.n,iv (i:Int)] [iv 12] else K .normal 64 [.sl t r.cell 5 r.n,iv (IntKind.wrap .i64 ((i:Int)+r.wd (tN i)))] [DV.any]
  else none else none else none else none else none else none else none else K .normal 64 [.sl t r.cell 5 r.n,iv (IntKind.wrap .i64 ((i:Int)+r.wd (tN i)))] [DV.any] else none else none else none
  else none else none else none else none else none else K (.exit 0) 64 [.sl t r.cell 5 r.n,iv (i:Int)] [DV.any]:=by
 kernel_rfl
theorem rq_ls {st:AE.Stat}(hx:Hx st) (hv:VdOk st):LoopS Tryz.prog st gl0 (.loop (loopAt Tryz.f33 58)) (rqI ccF cdF).g:=by
 refine (rqI ccF cdF).ok (E:=env [(72,ckC ccF),(73,cwC cdF)] noLp 0) (p:=500) (tblD_env (l:=[(72,ckC ccF),(73,cwC cdF)]) (fun x h=>?_)) (glOk st).1 (fun _ _ _ h=>nomatch h) (fun x k h=>q_cps h) fun x hx2=>?_
 ·simp only [List.mem_cons,List.not_mem_nil,or_false] at h
  rcases h with rfl | rfl
  ·exact ccC_ok hx hv
  ·exact cdC_ok hx hv
 obtain ⟨t,r,m,i⟩:=x;obtain ⟨hn,hm⟩:r.sized/\r.n<=m+i:=hx2
 have ea:(fun e τ σ=>(rqI ccF cdF).ask ⟨t,r,m,i⟩ e τ.length (pick [0,3] τ) (pick [2] τ) σ:KD Unit)=fun e τ _=>(rqI ccF cdF).ask ⟨t,r,m,i⟩ e τ.length (pick [0,3] τ) (pick [2] τ) []:=by
  funext e τ σ
  exact ask_any rfl (fun _=>rfl) fun _=>rfl
 refine (congrArg (execD Tryz.prog (env [(72,ckC ccF),(73,cwC cdF)] noLp 0) (loopAt Tryz.f33 58) 500 (temps 64 [0,3] [.sl t r.cell 5 r.n,iv i]) []) ea).trans ?_
 refine (rq_loop ccF cdF t r i fun e n ds es=>(rqI ccF cdF).ask ⟨t,r,m,i⟩ e n ds es []).trans ?_
 simp only [Int.toNat_natCast,Nat.add_zero];have hsz:=hn.1
 refine dS (fun hlt=>?_) fun hge=>?_
 ·have hlt:i<r.n:=by omega
  have hts:=hn.2 i hlt
  obtain ⟨m,rfl⟩:∃ m',m=m'+1:=⟨m-1,by omega⟩
  have hW:IntKind.i64.wrap ((i:Int)+1)=((i+1:Nat):Int):=by rw [W_in (by omega) (by omega)]; omega
  simp only [hW,Int.toNat_natCast]
  have hq:p7 ccF cdF r (m+1) i=p7s ccF cdF r i (p7 ccF cdF r m (i+1)) (p7 ccF cdF r m (i+2)):=by simp only [p7,if_pos hlt]
  have stop:∀ (v:Int),v≠0->p7 ccF cdF r (m+1) i=v->(rqI ccF cdF).ask ⟨t,r,m+1,i⟩ .ret 64 [.sl t r.cell 5 r.n,iv i] [iv v] []=some ():=fun v hv hq=>by
   refine LInv.ask_of ⟨rfl,?_,[],?_⟩
   ·simp only [rqI]; rw [hq]; exact (if_neg hv).symm
   ·simp only [rqI]; rw [hq]; show WkP 0 [] _ _ (qo v) _; rw [show qo v=[iv v] from if_neg hv]; exact wk0 (.cons (.v _) .nil) rfl
  have go:∀ (j:Nat) (z:Int),z=((j:Nat):Int)->i<j->p7 ccF cdF r m j=p7 ccF cdF r (m+1) i->(rqI ccF cdF).ask ⟨t,r,m+1,i⟩ .normal 64 [.sl t r.cell 5 r.n,iv z] [.any] []=some ():=fun j z hz hj hq=>by
   subst hz
   exact LInv.ask_of ⟨rfl,⟨t,r,m,j⟩,⟨by simp only [rqI,hq],by simp only [rqI,hq],rfl,hn,by show r.n<=m+j; omega⟩,by simp only [rqI]; omega,[],wk0 (.cons (.sl _ _ _ _) (.cons (.v _) .nil)) rfl⟩
  rw [hq] at stop go;unfold p7s at stop go
  refine dT (by omega) (dT hlt (dT hlt (dT hlt (dT hlt (dT hlt (cS (fun h1=>cS (fun h2=>stop 12 (by decide) (by rw [h1,h2]; rfl)) fun h2=>?_) fun h1=>?_))))))
  ·have hw:r.wd i=2:=by simpa using h2
   have hh:((r.wd i != 1)&&(r.wd i != 2))=false:=by rw [hw]; rfl
   rw [hh,cond_false] at stop go
   refine dT hts (cS (fun h3=>stop 3 (by decide) (by rw [h3]; rfl)) fun h3=>?_)
   rw [h3,cond_false] at stop go
   refine dT hts (cS (fun h4=>stop 12 (by decide) (by rw [h4]; rfl)) fun h4=>?_)
   rw [h4,cond_false] at stop go
   have h5:(r.wd i==1)=false:=by rw [hw]; rfl
   rw [h5,cond_false] at stop go
   refine cS (fun _=>?_) fun h6=>by rw [hw] at h6; cases h6
   refine dS (fun h6=>stop 12 (by decide) ?_) fun h6=>?_
   ·have e:i+1=r.n:=by omega
    have:(((i+1:Nat):Int)==(r.n:Int))=true:=by rw [e]; exact beq_self_eq_true _
    rw [this]; rfl
   have h7:(((i+1:Nat):Int)==(r.n:Int))=false:=by rw [beq_eq_false_iff_ne]; omega
   rw [h7,cond_false] at stop go
   refine dT (by omega) (dT (by omega) (dT (by omega) (dT (by omega) (dT (by omega) (dT (by omega) (dT (by omega) (cS (fun h8=>?_) fun h8=>?_)))))))
   ·have h8:(!r.half i (i+1))=true:=h8
    have h8:r.half i (i+1)=false:=by simpa using h8
    exact stop 12 (by decide) (by rw [h8]; rfl)
   ·have h8:(!r.half i (i+1))=false:=h8
    have h8:r.half i (i+1)=true:=by simpa using h8
    exact go (i+2) _ (by rw [hw,W_in (by omega) (by omega)]; omega) (by omega) (by rw [h8,cond_true])
  ·have hw:r.wd i=1:=by simpa using h1
   have hh:((r.wd i != 1)&&(r.wd i != 2))=false:=by rw [hw]; rfl
   rw [hh,cond_false] at stop go
   refine dT hts (cS (fun h3=>stop 3 (by decide) (by rw [h3]; rfl)) fun h3=>?_)
   rw [h3,cond_false] at stop go
   refine dT hts (cS (fun h4=>stop 12 (by decide) (by rw [h4]; rfl)) fun h4=>?_)
   rw [h4,cond_false] at stop go
   have h5:(r.wd i==1)=true:=by rw [hw]; rfl
   rw [h5,cond_true] at go
   refine cS (fun h6=>by rw [hw] at h6; cases h6) fun _=>?_
   exact go (i+1) _ (by rw [hw,W_in (by omega) (by omega)]; omega) (by omega) rfl
 ·have hr:p7 ccF cdF r m i=0:=by
   cases m with
   | zero=>rfl
   | succ m=>simp only [p7]; rw [if_neg (by omega)]
  refine LInv.ask_of ⟨rfl,?_,[],?_⟩
  ·simp only [rqI]; rw [hr]; rfl
  ·simp only [rqI]; rw [hr]; exact wk0 (.cons (.any _) .nil) rfl
theorem rr_tree (F G:ByteArray->Int) (t:Bool) (r:Row) (k:DV->Option Unit):bodyD Tryz.prog (env [] (lpOf [(58,(rqI F G).g)]) 0) Tryz.f33 [.sl t r.cell 5 r.n] [] (fun d _=>k d) =
  bif decide ((r.n:Int)<1) then k (iv 5) else bif decide ((r.n:Int) > 132) then k (iv 5) else bif holds (((Nat.le (Row.n (rowOf r.cell r.n)) 9000000/\∀ (i:Nat),i<Row.n (rowOf r.cell r.n)->Nat.le (ByteArray.size (Row.tx (rowOf r.cell r.n) i)) 9000000)/\Nat.le (Row.n (rowOf r.cell r.n)) (r.n+0))/\∃ ids,WkP (LInv.m (rqI F G)) ids [.sl t r.cell 5 r.n,iv 0] [] [.sl t (Row.cell (rowOf r.cell r.n)) 5 (Row.n (rowOf r.cell r.n)),iv 0] (LInv.sh (rqI F G) { t:=t,r:=rowOf r.cell r.n,m:=r.n,i:=0 }))
  then bif holds (p7 F G (rowOf r.cell r.n) r.n 0=0) then k (iv 0) else k (iv (p7 F G (rowOf r.cell r.n) r.n 0)) else none:=by
 kernel_rfl
def rowF (r:Row):Int:=bif decide ((r.n:Int)<1) then 5 else bif decide ((r.n:Int) > 132) then 5 else p7 ccF cdF r r.n 0
theorem rr_true (t:Bool) (r:Row) (hr:r.sized):bodyD Tryz.prog (env [] (lpOf [(58,(rqI ccF cdF).g)]) 0) Tryz.f33 [.sl t r.cell 5 r.n] [] (fun d _=>isD (iv (rowF r)) d)=some ():=by
 refine (rr_tree ccF cdF t r _).trans ?_;unfold rowF
 refine dS (fun h=>isD_of ?_) fun h=>dS (fun h2=>isD_of ?_) fun h2=>hT ⟨⟨hr,Nat.le_refl _⟩,[],wk0 (.cons (.sl _ _ _ _) (.cons (.v _) .nil)) rfl⟩ ?_
 ·rw [decide_eq_true h]; rfl
 ·rw [decide_eq_false h,decide_eq_true h2]; rfl
 ·rw [decide_eq_false h,decide_eq_false h2,cond_false,cond_false]
  by_cases hq:p7 ccF cdF r r.n 0=0
  ·exact hT hq (isD_of (by rw [hq]))
  ·exact hF hq (isD_of rfl)
theorem rrC_ok {st:AE.Stat}(hx:Hx st) (hv:VdOk st):ConOk Tryz.prog st 33 (rcC rowF):=by
 refine con_flat (mg:=[]) (l:=[]) (lp:=lpOf [(58,(rqI ccF cdF).g)]) (n:=0) (glOk st) (fun _ h=>nomatch h) Tryz.func33 (by kernel_rfl) (by kernel_rfl) (hx 33 rfl) (lp_one (by kernel_rfl) (rq_ls hx hv)) fun args k hk=>?_
 unfold rcC at hk
 split at hk<;>first | (cases hk; done) | skip
 rename_i t g n;obtain ⟨hb,hk⟩:=bif_none hk;have hb:=holds_eq.1 hb;exact ⟨[.sl t (rowOf g n).cell 5 n],_,.cons (hb.cv t) .nil,v_clo _,hk,rr_true t (rowOf g n) hb.row⟩
end Go.Proofs.YtigmkgampfbflaaGreatDoor
namespace Go.Proofs.YtigmkgampfbflaaGreatDoor
open Go Go.AE Go.DE Go.RowKit
theorem marks_same {z y:Nat->Int}:∀ (m i:Nat),(∀ j,i<=j->j<i+m->y j=z (1+j))->mrkR (findF mkL) y m i=marksF z m (1+i)
 | 0,_,_=>rfl
 | m+1,i,h=>by
  rw [mrkR,marksF,mk_same,h i (Nat.le_refl _) (by omega),marks_same m (i+1) fun j h1 h2=>h j (by omega) (by omega),show 1+(i+1)=1+i+1 by omega]
theorem cond_n {b:Bool}{x y v:Int}(h:(bif b then x else y)=v) (hx:x≠v):b=false/\y=v:=by
 cases b with
 | true=>exact absurd h hx
 | false=>exact ⟨rfl,h⟩
theorem cond_y {b:Bool}{x y v:Int}(h:(bif b then x else y)=v) (hy:y≠v):b=true/\x=v:=by
 cases b with
 | true=>exact ⟨rfl,h⟩
 | false=>exact absurd h hy
theorem check3_zero {s:ByteArray}(h:check3 s=0):ccF s=0/\cdF s=width3 s:=by
 have h0:=h;unfold check3 at h
 obtain ⟨h1,h⟩:=cond_n h (by decide)
 obtain ⟨h2,h⟩:=cond_y h (by decide)
 obtain ⟨h3,h⟩:=cond_n h (by decide)
 obtain ⟨h4,h⟩:=cond_n h (by decide)
 obtain ⟨h5,h⟩:=cond_y h (by decide)
 obtain ⟨h6,_⟩:=cond_n h (by decide)
 have hp:=check3_ne h0;obtain ⟨r1,r2⟩:=valid_rune h2
 have hc:ccF s=0:=by
  have e4:decide (cwF (runeAt s 0)<1)=false:=by rw [cw_same,r2 0 hp]; exact h4
  have e5:mrkF (fun i=>runeAt s (1+i)) (runeN s-1)=true:=by
   unfold mrkF
   rw [marks_same (z:=lw (decF s).1) _ 0 fun j _ hj=>r2 (1+j) (by omega),r1]
   exact h5
  have e6:decide ((runeN s:Int)-1 > 3)=false:=by
   have h6:=of_decide_eq_false h6;rw [r1]
   exact decide_eq_false (by omega)
  unfold ccF;rw [h1,valid_vd h2,e4,e5,e6];rfl
 refine ⟨hc,?_⟩;unfold cdF width3;rw [hc,if_pos h0,cw_same,r2 0 hp];rfl
theorem c7_zero {r:Row}:∀ (m i:Nat),c7 r m i=0->p7 ccF cdF r m i=0
 | 0,_,_=>rfl
 | m+1,i,h=>by
  rw [c7] at h;rw [p7]
  by_cases hi:i<r.n
  ·rw [if_pos hi] at h ⊢;unfold c7s at h;unfold p7s
   obtain ⟨h1,h⟩:=cond_n h (by decide)
   obtain ⟨h2,h⟩:=cond_n h (by decide)
   obtain ⟨h3,h⟩:=cond_n h (by decide)
   obtain ⟨e1,e2⟩:=check3_zero (s:=r.tx i) (by simpa using h2)
   rw [h1,e1,e2,h3]
   cases h4:r.wd i==1 with
   | true =>
    rw [h4,cond_true] at h;exact c7_zero m _ h
   | false =>
    rw [h4,cond_false] at h
    obtain ⟨h5,h⟩:=cond_n h (by decide)
    obtain ⟨h6,h⟩:=cond_y h (by decide)
    rw [h5,h6];exact c7_zero m _ h
  ·rw [if_neg hi]
theorem check7_zero {r:Row}(h:check7 r=0):rowF r=0/\1<=r.n/\r.n<=132:=by
 unfold check7 at h
 obtain ⟨h1,h⟩:=cond_n h (by decide)
 obtain ⟨h2,h⟩:=cond_n h (by decide)
 refine ⟨?_,by have:=of_decide_eq_false h1; omega,by have:=of_decide_eq_false h2; omega⟩
 unfold rowF;rw [h1,h2];exact c7_zero _ _ h
theorem g8_zero {R:Nat->Row}{w:Int}:∀ (m i:Nat),g8 R w m i=0->∀ j,i<=j->j<i+m->((R j).n:Int)=w/\check7 (R j)=0
 | 0,i,_,j,h1,h2=>by omega
 | m+1,i,h,j,h1,h2=>by
  rw [g8] at h;unfold g8s at h
  obtain ⟨q1,h⟩:=cond_n h (by decide)
  cases q2:check7 (R i) != 0 with
  | true =>
   rw [q2,cond_true] at h;rw [h] at q2;cases q2
  | false =>
   rw [q2,cond_false] at h
   by_cases e:i=j
   ·subst e
    exact ⟨by simpa using q1,by simpa using q2⟩
   ·exact g8_zero m (i+1) h j (by omega) (by omega)
theorem check8_zero {w h:Int}{R:Nat->Row}{n:Nat}(hz:check8 w h R n=0):1<=w/\w<=132/\1<=h/\h<=60/\(n:Int)=h/\∀ j,j<n->((R j).n:Int)=w/\check7 (R j)=0:=by
 unfold check8 at hz
 obtain ⟨h1,hz⟩:=cond_y hz (by decide)
 obtain ⟨h2,hz⟩:=cond_n hz (by decide)
 simp only [Bool.and_eq_true,decide_eq_true_eq] at h1
 refine ⟨by omega,by omega,by omega,by omega,by simpa using h2,fun j hj=>g8_zero n 0 hz j (Nat.zero_le _) (by omega)⟩
structure Prp (x:Tm):Prop where
 g:check8 (x.I 0) (x.I 1) x.gR x.gn=0
 o:check8 (x.I 3) (x.I 4) x.oR x.on=0
 w:x.I 0=x.I 3
 h:x.I 1=x.I 4
 c:insF (x.I 6) (x.I 7) (x.B 8) (x.I 0) (x.I 1)=true
 d:insF (x.I 9) (x.I 10) (x.B 11) (x.I 0) (x.I 1)=true
 a:rgtF (x.I 19) (x.I 20) (x.I 21)≠0
 a2:rgtF (x.I 12) (x.I 13) (x.I 14)≠0
 s:setF (x.I 30) (x.I 31) (x.I 32)=true
 s2:setF (x.I 16) (x.I 17) (x.I 18)=true
 t0:0<=x.I 33
 t1:x.I 33<x.I 34
 t2:x.I 34<=x.I 1
 tn:(x.tn:Int)=x.I 0
 bn:(x.bn:Int)<=500
 v:validF (x.S 40)=true
 b:∀ j,j<x.bn->check7 (x.bR j)=0
theorem Prp.rows {x:Tm}(p:Prp x) {j:Nat}(hj:j<x.gn):((x.gR j).n:Int)=x.I 0/\rowF (x.gR j)=0:=by
 obtain ⟨_,_,_,_,_,h⟩:=check8_zero p.g;exact ⟨(h j hj).1,(check7_zero (h j hj).2).1⟩
def tmOf (ds:List DV):Tm where
 I j:=numD (ds.getD j .any)
 B j:=boolD (ds.getD j .any)
 S j:=strD (ds.getD j .any)
 gT i:=slT (slG (ds.getD 2 .any) i 0)
 gR i:=rowD (slG (ds.getD 2 .any) i 0)
 gn:=slN (ds.getD 2 .any)
 oT i:=slT (slG (ds.getD 5 .any) i 0)
 oR i:=rowD (slG (ds.getD 5 .any) i 0)
 on:=slN (ds.getD 5 .any)
 tb i:=boolD (slG (ds.getD 35 .any) i 0)
 tn:=slN (ds.getD 35 .any)
 bT i:=slT (slG (ds.getD 36 .any) i 0)
 bR i:=rowD (slG (ds.getD 36 .any) i 0)
 bn:=slN (ds.getD 36 .any)
def rowsPos (R:Nat->Row) (n:Nat):Prop:=n<=9000000/\∀ i,i<n->(R i).sized/\0<(R i).n
def rowsAre (G:Nat->Nat->DV) (n:Nat):Prop:=n<=9000000/\∀ i,i<n->isRow (G i 0)/\0<slN (G i 0)
def Tm.pos (x:Tm):Prop:=rowsPos x.gR x.gn/\rowsPos x.oR x.on/\rowsPos x.bR x.bn/\x.tn<=9000000/\0<x.tn
theorem Prp.pos {x:Tm}(p:Prp x) (ok:x.ok):x.pos:=by
 obtain ⟨a1,a2,a3,a4,a5,a6⟩:=check8_zero p.g;obtain ⟨b1,b2,b3,b4,b5,b6⟩:=check8_zero p.o;obtain ⟨o1,o2,o3,o4,o5,o6⟩:=ok;have tn:=p.tn
 refine ⟨⟨o1.1,fun i hi=>⟨o1.2 i hi,?_⟩⟩,⟨o2.1,fun i hi=>⟨o2.2 i hi,?_⟩⟩,⟨o3.1,fun i hi=>⟨o3.2 i hi,?_⟩⟩,o4,by omega⟩
 ·have:=(check7_zero (a6 i hi).2).2.1; omega
 ·have:=(check7_zero (b6 i hi).2).2.1; omega
 ·have:=(check7_zero (p.b i hi)).2.1; omega
end Go.Proofs.YtigmkgampfbflaaGreatDoor
namespace Go.Proofs.YtigmkgampfbflaaGreatDoor
open Go Go.AE Go.DE Go.RowKit
structure B9X where
 a:Int
 c:Int
 w:Nat
 i:Nat
end Go.Proofs.YtigmkgampfbflaaGreatDoor
namespace Go.Proofs.YtigmkgampfbflaaGreatDoor
open Go Go.AE Go.DE Go.RowKit
end Go.Proofs.YtigmkgampfbflaaGreatDoor
namespace Go.Proofs.YtigmkgampfbflaaGreatDoor
open Go Go.AE Go.DE Go.RowKit
noncomputable def noC (l:List DV):ConF:=fun args k=>match args with
 | []=>k (fun _=>(.agg l,[]))
 | _=>none
def atL:List DV:=[iv (-1),iv (-1),iv 0]
def moL:List DV:=[bv false,bv false,bv false,bv false,bv true,bv true,bv false,bv false,kv .u8 66,kv .u8 66,iv 0]
theorem ad_tree (k:DV->Option Unit):bodyD Tryz.prog (env [] noLp 0) Tryz.f48 [] [] (fun d _=>k d) =
  k (.agg [iv (-1:Int),iv (-1:Int),iv 0]):=by
 kernel_rfl
theorem adN_ok {st:AE.Stat}(hx:Hx st):ConOk Tryz.prog st 48 (noC atL):=by
 refine con_flat (mg:=[]) (l:=[]) (lp:=noLp) (n:=0) (glOk st) (fun _ h=>nomatch h) Tryz.func48 (by kernel_rfl) (by kernel_rfl) (hx 48 rfl) (fun _ _ _ h=>nomatch h) fun args k hk=>?_
 unfold noC at hk
 split at hk<;>first | (cases hk; done) | skip
 exact ⟨[],_,.nil,agg_clo rfl,hk,(ad_tree _).trans (isD_of rfl)⟩
theorem md_tree (k:DV->Option Unit):bodyD Tryz.prog (env [] noLp 0) Tryz.f49 [] [] (fun d _=>k d) =
  k (.agg [bv false,bv false,bv false,bv false,bv true,bv true,bv false,bv false,kv .u8 66,kv .u8 66,iv 0]):=by
 kernel_rfl
theorem mdN_ok {st:AE.Stat}(hx:Hx st):ConOk Tryz.prog st 49 (noC moL):=by
 refine con_flat (mg:=[]) (l:=[]) (lp:=noLp) (n:=0) (glOk st) (fun _ h=>nomatch h) Tryz.func49 (by kernel_rfl) (by kernel_rfl) (hx 49 rfl) (fun _ _ _ h=>nomatch h) fun args k hk=>?_
 unfold noC at hk
 split at hk<;>first | (cases hk; done) | skip
 exact ⟨[],_,.nil,agg_clo rfl,hk,(md_tree _).trans (isD_of rfl)⟩
noncomputable def tnF (T:Nat->Bool):ConF:=fun args k=>match args with
 | [.v (.int .i64 w)]=>bif decide (1<=w)&&decide (w<=1000) then k (fun _=>(.sl false (tabsD T) 1 w.toNat,[])) else none
 | _=>none
theorem tz_tree (w:Int) (K:DV->DHeap->Option Unit):bodyD Tryz.prog (envZ [] (lpOf [(58,tnI.g)]) 0) Tryz.f50 [iv w] [] (fun d σ=>K d σ) =
  bif decide (0<=if (if 1000<w then 1000 else w) > 0 then if 1000<w then 1000 else w else 0) then bif decide ((if (if 1000<w then 1000 else w) > 0 then if 1000<w then 1000 else w else 0)<=if (if 1000<w
  then 1000 else w) > 0 then if 1000<w then 1000 else w else 0) then bif decide (Int.toNat (if (if 1000<w then 1000 else w) > 0 then if 1000<w then 1000 else w else 0)<9223372036854775808) then
  bif decide (1*Int.toNat (if (if 1000<w then 1000 else w) > 0 then if 1000<w then 1000 else w else 0)<=281474976710656) then bif holds ((Nat.le 0 (Int.toNat (if (if 1000<w then 1000 else w) > 0
  then if 1000<w then 1000 else w else 0))/\Nat.le (Int.toNat (if (if 1000<w then 1000 else w) > 0 then if 1000<w then 1000 else w else 0)) 1000)/\∃ ids,WkP 1 ids [.os 0 0 (Int.toNat (if (if 1000<w
  then 1000 else w) > 0 then if 1000<w then 1000 else w else 0)),iv (↑(Int.toNat (if (if 1000<w then 1000 else w) > 0 then if 1000<w then 1000 else w else 0)):Int),iv 0] [some ⟨1,.tab (Int.toNat (if (if 1000<w
  then 1000 else w) > 0 then if 1000<w then 1000 else w else 0)) fun a _=>bv false⟩] [.os 0 0 (Int.toNat (if (if 1000<w then 1000 else w) > 0 then if 1000<w then 1000 else w else 0)),iv (↑(Int.toNat (if (if 1000<w
  then 1000 else w) > 0 then if 1000<w then 1000 else w else 0)):Int),iv 0] [some ⟨1,.tab (Int.toNat (if (if 1000<w then 1000 else w) > 0 then if 1000<w then 1000 else w else 0)) (tabsD (upT 0))⟩])
  then K (.os 0 0 (Int.toNat (if (if 1000<w then 1000 else w) > 0 then if 1000<w then 1000 else w else 0))) [some ⟨1,.tab (Int.toNat (if (if 1000<w then 1000 else w) > 0 then if 1000<w then 1000
  else w else 0)) (tabsD (upT (Int.toNat (if (if 1000<w then 1000 else w) > 0 then if 1000<w then 1000 else w else 0))))⟩] else none else none else none else none else none:=by
 kernel_rfl
theorem SubZ.cv {r:Nat->Option Nat}{zs:Nat->Option DBlk}{d d1 d2:DV}(h1:Cv d1 d2) (h:SubZ r zs d1 d):SubZ r zs d2 d:=fun C μ x hF hx=>h1 _ _ _ (h C μ x hF hx)
theorem tabs_low (T:Nat->Bool) (n:Nat):Low (.sl false (tabsD T) 1 n):=.sl fun _ _ _ _=>.v _
theorem tnF_ok {st:AE.Stat}(hx:Hx st):ConOkZ true Tryz.prog st 50 (tnF tab8):=by
 refine con_frz (E:=envZ [] (lpOf [(58,tnI.g)]) 0) rfl (glOk st) (tblD_env (l:=[]) fun _ h=>nomatch h) Tryz.func50 (by kernel_rfl) (by kernel_rfl) (hx 50 rfl) (lp_in (c0:=.loop (loopAt Tryz.f50 58)) (by kernel_rfl) tn_ls.z) fun args k hk=>?_
 unfold tnF at hk
 split at hk<;>first | (cases hk; done) | skip
 rename_i w;obtain ⟨hb,hk⟩:=bif_none hk;obtain ⟨h1,h2⟩:=and_dec hb
 obtain ⟨n,rfl⟩:∃ n:Nat,w=n:=⟨w.toNat,by omega⟩
 refine ⟨[iv n],_,.self .nil,tabs_low _ _,hk,(tz_tree n _).trans ?_⟩
 have e1:(if (1000:Int)<(n:Int) then (1000:Int) else (n:Int))=(n:Int):=if_neg (by omega)
 have e2:(if (n:Int) > (0:Int) then (n:Int) else (0:Int))=(n:Int):=if_pos (by omega)
 simp only [e1,e2,Int.toNat_natCast]
 refine dT (by omega) (dT (by omega) (dT (by omega) (dT (by omega) (hT ⟨⟨Nat.zero_le _,by show n<=1000; omega⟩,[],.of (im:=[some 0]) (.cons (.os rfl) (.cons (.v _) (.cons (.v _) .nil))) rfl ⟨⟨0,_,rfl,rfl,rfl,Nat.le_refl _,trivial,fun j f hj hf=>?_⟩,trivial⟩ rfl (by decide)⟩ (fzq_of ⟨[0],?_,fun j hj blk hb i f _ _=>?_⟩)))))
 ·have hf:f<1:=hf
  obtain rfl:f=0:=by omega
  exact .v _
 ·refine SubZ.cv (Cv.sl fun i f hi hf=>.of ?_) (SubZ.fz0 (c:=.tab n (tabsD (upT n))) rfl (Nat.le_refl _) fun _ _=>rfl)
  show bv (upT n i)=bv (tab8 i);unfold upT;rw [if_pos hi]
 ·obtain rfl:j=0:=by simpa using hj
  obtain rfl:(⟨1,.tab n (tabsD (upT n))⟩:DBlk)=blk:=Option.some.inj (Option.some.inj hb);exact .v _
theorem r54_tree (Q:(Nat->Nat->DV)->Nat->Prop) (w:Int) (T:Nat->Bool) (K:DV->DHeap->Option Unit):bodyD Tryz.prog (envZ [(60,r6C Q T)] noLp 0) Tryz.f54 [iv w] [] (fun d σ=>K d σ) =
  bif bif decide (1<=w) then decide (w<=1000) else false then K (.os 0 0 (Int.toNat w)) [some ⟨1,.tab (Int.toNat w) (tabsD T)⟩] else none:=by
 kernel_rfl
theorem t54_ok {st:AE.Stat}(hx:Hx st):ConOkZ true Tryz.prog st 54 (tnF tab8):=by
 refine con_frz (E:=envZ [(60,r6C tabsSo tab8)] noLp 0) rfl (glOk st) (tblD_env (l:=[(60,r6C tabsSo tab8)]) fun x h=>?_) Tryz.func54 (by kernel_rfl) (by kernel_rfl) (hx 54 rfl) (fun _ _ _ h=>nomatch h) fun args k hk=>?_
 ·simp only [List.mem_cons,List.not_mem_nil,or_false] at h;subst h;exact (r6C_ok hx).z
 unfold tnF at hk
 split at hk<;>first | (cases hk; done) | skip
 rename_i w;obtain ⟨hb,hk⟩:=bif_none hk;obtain ⟨h1,h2⟩:=and_dec hb
 refine ⟨[iv w],_,.self .nil,tabs_low _ _,hk,(r54_tree tabsSo w tab8 _).trans (dT2 h1 h2 (fzq_of ⟨[0],SubZ.fz0 (c:=.tab w.toNat (tabsD tab8)) rfl (Nat.le_refl _) fun _ _=>rfl,fun j hj blk hb i f _ _=>?_⟩))⟩
 obtain rfl:j=0:=by simpa using hj
 obtain rfl:(⟨1,.tab w.toNat (tabsD tab8)⟩:DBlk)=blk:=Option.some.inj (Option.some.inj hb);exact .v _
theorem nt_tree (w h:Int) (S:Int->Int->Bool) (R:Int->Nat->Nat->DV) (T:Nat->Bool) (K:DV->Option Unit):bodyD Tryz.prog (envZ [(47,grC S R),(48,noC atL),(49,noC moL),(50,tnF T)] noLp 0) Tryz.f18 [iv w,iv h] [] (fun d _=>K d) =
  bif decide (w<=30) then bif S w h then K (.tup [.agg [iv 0,iv 0,DV.v (Value.slice none 0 0),iv 0,iv 0,DV.v (Value.slice none 0 0),iv 0,iv 0,bv false,iv 0,iv 0,bv false,iv 0,iv 0,iv 0,bv false,kv .u8 0,kv .u8 0,iv 0,iv 0,iv 0,iv 0,bv false,bv false,bv false,bv false,bv false,bv false,bv false,bv false,kv .u8 0,kv .u8 0,iv 0,iv 0,iv 0,DV.v (Value.slice none 0 0),DV.v (Value.slice none 0 0),iv 0,sv ⟨#[]⟩,sv ⟨#[]⟩,sv ⟨#[]⟩,sv ⟨#[]⟩],iv 2])
  else bif decide (0<Int.toNat h) then bif decide (0<Int.toNat h) then bif decide (w<=30) then bif S w h then bif bif decide (1<=w) then decide (w<=1000) else false then bif decide (0<Int.toNat h)
  then K (.tup [.agg [iv w,iv h,.sl false (R w) 1 (Int.toNat h),iv 0,iv 0,DV.v (Value.slice none 0 0),iv 0,iv 0,bv false,iv 0,iv 0,bv false,iv (-1:Int),iv (-1:Int),iv 0,bv false,kv .u8 66,kv .u8 66,iv 0,iv (-1:Int),iv (-1:Int),iv 0,bv false,bv false,bv false,bv false,bv true,bv true,bv false,bv false,kv .u8 66,kv .u8 66,iv 0,iv 0,iv h,.sl false (tabsD T) 1 (Int.toNat w),DV.v (Value.slice none 0 0),iv 0,sv ⟨#[]⟩,sv ⟨#[]⟩,sv ⟨#[]⟩,sv ⟨#[]⟩],iv 0])
  else none else none else bif decide (0<Int.toNat h) then bif decide (0<Int.toNat h) then bif bif decide (1<=w) then decide (w<=1000) else false then bif decide (0<Int.toNat h) then K (.tup [.agg [iv w,iv h,.sl false (R w) 1 (Int.toNat h),iv w,iv h,.sl false (R w) 1 (Int.toNat h),iv 0,iv 0,bv false,iv 0,iv 0,bv false,iv (-1:Int),iv (-1:Int),iv 0,bv false,kv .u8 66,kv .u8 66,iv 0,iv (-1:Int),iv (-1:Int),iv 0,bv false,bv false,bv false,bv false,bv true,bv true,bv false,bv false,kv .u8 66,kv .u8 66,iv 0,iv 0,iv h,.sl false (tabsD T) 1 (Int.toNat w),DV.v (Value.slice none 0 0),iv 0,sv ⟨#[]⟩,sv ⟨#[]⟩,sv ⟨#[]⟩,sv ⟨#[]⟩],iv 0])
  else none else none else none else none else none else none else none else none:=by
 kernel_rfl
def evB:DV:=.v (.string ⟨#[]⟩)
def zeroL:List DV:=[iv 0,iv 0,nilS,iv 0,iv 0,nilS,iv 0,iv 0,bv false,iv 0,iv 0,bv false,iv 0,iv 0,iv 0,bv false,kv .u8 0,kv .u8 0,iv 0,iv 0,iv 0,iv 0,
 bv false,bv false,bv false,bv false,bv false,bv false,bv false,bv false,kv .u8 0,kv .u8 0,iv 0,iv 0,iv 0,nilS,nilS,iv 0,evB,evB,evB,evB]
def newL (w h:Int) (R:Int->Nat->Nat->DV) (T:Nat->Bool):List DV:=[iv w,iv h,.sl false (R w) 1 h.toNat,iv w,iv h,.sl false (R w) 1 h.toNat,iv 0,iv 0,bv false,iv 0,iv 0,bv false,iv (-1),iv (-1),iv 0,bv false,kv .u8 66,kv .u8 66,iv 0,iv (-1),iv (-1),iv 0,
 bv false,bv false,bv false,bv false,bv true,bv true,bv false,bv false,kv .u8 66,kv .u8 66,iv 0,iv 0,iv h,.sl false (tabsD T) 1 w.toNat,nilS,iv 0,evB,evB,evB,evB]
noncomputable def ntC (S:Int->Int->Bool) (Z:List DV) (N:Int->Int->List DV):ConF:=fun args k=>match args with
 | [.v (.int .i64 w),.v (.int .i64 h)]=>bif decide (w<=30) then (bif S w h then k (fun _=>(.tup [.agg Z,iv 2],[])) else k (fun _=>(.tup [.agg (N w h),iv 0],[]))) else none
 | _=>none
theorem tup_agg {l:List DV}{z:Value}(h:∀ d∈l,Clo d) (h2:∀ d∈l,Low d):Clo (.tup [.agg l,.v z])/\Low (.tup [.agg l,.v z]):=⟨.tup fun d hd=>by
 simp only [List.mem_cons,List.not_mem_nil,or_false] at hd
 rcases hd with rfl | rfl
 ·exact .agg h
 ·exact .v _,.tup fun d hd=>by
 simp only [List.mem_cons,List.not_mem_nil,or_false] at hd
 rcases hd with rfl | rfl
 ·exact .agg h2
 ·exact .v _⟩
theorem zeroL_flat:(∀ d∈zeroL,Clo d)/\∀ d∈zeroL,Low d:=by
 have h:∀ d∈zeroL,∃ z,d=.v z:=fun d hd=>by
  simp only [zeroL,List.mem_cons,List.not_mem_nil,or_false] at hd
  repeat (first | (rcases hd with rfl | hd; exact ⟨_,rfl⟩) | (subst hd; exact ⟨_,rfl⟩))
 exact ⟨fun d hd=>by obtain ⟨z,rfl⟩:=h d hd; exact .v z,fun d hd=>by obtain ⟨z,rfl⟩:=h d hd; exact .v z⟩
theorem newL_flat (w h:Int):(∀ d∈newL w h rwD tab8,Clo d)/\∀ d∈newL w h rwD tab8,Low d:=by
 constructor
 ·intro d hd;simp only [newL,List.mem_cons,List.not_mem_nil,or_false] at hd
  repeat (first | (rcases hd with rfl | hd; first | exact Clo.v _ | exact Clo.sl _ _ _ _) | (subst hd; exact Clo.v _))
 ·intro d hd;simp only [newL,List.mem_cons,List.not_mem_nil,or_false] at hd
  repeat (first | (rcases hd with rfl | hd; first | exact Low.v _ | exact .sl fun i f _ _=>rwD_low w i f | exact tabs_low _ _) | (subst hd; exact Low.v _))
theorem ntC_ok {st:AE.Stat}(hx:Hx st) (hk:∀ a σ,st.ext 157 a σ=RL.app σ (blkX a σ.length)):ConOkZ true Tryz.prog st 18 (ntC szF2 zeroL fun w h=>newL w h rwD tab8):=by
 refine con_flatZ (mg:=[]) (l:=[(47,grC szF2 rwD),(48,noC atL),(49,noC moL),(50,tnF tab8)]) (lp:=noLp) (n:=0) (glOk st) (fun x h=>?_) Tryz.func18 (by kernel_rfl) (by kernel_rfl) (hx 18 rfl) (fun _ _ _ h=>nomatch h) fun args k hk=>?_
 ·simp only [List.mem_cons,List.not_mem_nil,or_false] at h
  rcases h with rfl | rfl | rfl | rfl
  ·exact grC_ok hx hk
  ·exact (adN_ok hx).z
  ·exact (mdN_ok hx).z
  ·exact tnF_ok hx
 unfold ntC at hk
 split at hk<;>first | (cases hk; done) | skip
 rename_i w h;obtain ⟨hw,hk⟩:=dec_none hk
 cases hS:szF2 w h with
 | true =>
  rw [hS,cond_true] at hk;refine ⟨[iv w,iv h],_,.self (.self .nil),tup_agg zeroL_flat.1 zeroL_flat.2,hk,(nt_tree w h szF2 rwD tab8 _).trans (dT hw ?_)⟩;rw [hS];exact isD_of rfl
 | false =>
  rw [hS,cond_false] at hk;obtain ⟨h1,h2,h3,h4⟩:=szF2_false hS;refine ⟨[iv w,iv h],_,.self (.self .nil),tup_agg (newL_flat w h).1 (newL_flat w h).2,hk,(nt_tree w h szF2 rwD tab8 _).trans (dT hw ?_)⟩;rw [hS]
  have hp:0<h.toNat:=by omega
  exact dT hp (dT hp (dT hw (dT hp (dT hp (dT2 h1 (by omega) (dT hp (isD_of rfl)))))))
end Go.Proofs.YtigmkgampfbflaaGreatDoor
namespace Go.Proofs.YtigmkgampfbflaaGreatDoor
open Go Go.AE Go.DE Go.RowKit
structure ZS7 where
 t:Bool
 u:Bool
 r:Row
 i:Nat
theorem Cv.tr {a b c:DV}(h:Cv a b) (h2:Cv b c):Cv a c:=fun C μ v hv=>h2 C μ v (h C μ v hv)
def cellsSame (g h:Nat->Nat->DV) (n:Nat):Prop:=cellsOk g n/\∀ i,i<n->∀ f,f<5->h i f=g i f
theorem cellsSame.cv {g h:Nat->Nat->DV}{n:Nat}(e:cellsSame g h n) (u:Bool):Cv (.sl u h 5 n) (.sl u (rowOf g n).cell 5 n):=Cv.tr (Cv.sl fun i f hi hf=>.of (e.2 i hi f hf)) (e.1.cv u)
structure ZS8 where
 t:Bool
 u:Bool
 T:Nat->Bool
 U:Nat->Bool
 R:Nat->Row
 n:Nat
 i:Nat
def rowsSo (G:Nat->Nat->DV) (n:Nat):Prop:=n<=9000000/\∀ i,i<n->isRow (G i 0)
def rowsSame (G H:Nat->Nat->DV) (n:Nat):Prop:=rowsSo G n/\∀ i,i<n->isRow (H i 0)/\slN (H i 0)=slN (G i 0)/\∀ j,j<slN (G i 0)->∀ f,f<5->slG (H i 0) j f=slG (G i 0) j f
theorem rowsSame.cv {G H:Nat->Nat->DV}{n:Nat}(h:rowsSame G H n) (u:Bool):Cv (.sl u H 1 n) (.sl u (rowsD (fun i=>slT (H i 0)) fun i=>rowD (G i 0)) 1 n):=Cv.sl fun i f hi hf=>by
 obtain rfl:f=0:=by omega
 obtain ⟨h1,h2,h3⟩:=h.2 i hi;obtain ⟨g1,g2⟩:=h.1.2 i hi;refine Cv.tr (.of h1.1) ?_;rw [h2];exact cellsSame.cv (g:=slG (G i 0)) ⟨g2,h3⟩ _
structure ZS9 where
 t:Bool
 u:Bool
 z:Nat->Bool
 n:Nat
 i:Nat
end Go.Proofs.YtigmkgampfbflaaGreatDoor
namespace Go.Proofs.YtigmkgampfbflaaGreatDoor
open Go Go.AE Go.DE Go.RowKit
theorem cl_tree (t:Bool) (r:Row) (K:DV->DHeap->Option Unit):bodyD Tryz.prog (envZ [] noLp 0) Tryz.f116 [.sl t r.cell 5 r.n] [] (fun d σ=>K d σ) =
  bif decide (0<r.n) then bif decide ((0+r.n)*(48:Nat)<=140737488355328) then K (.os 1 0 (0+r.n)) [none,some ⟨5,.app (.pre (.lst []) 0) (.tab r.n r.cell)⟩] else none else none:=by
 kernel_rfl
theorem cr_tree (t:Bool) (T:Nat->Bool) (R:Nat->Row) (n:Nat) (K:DV->DHeap->Option Unit):bodyD Tryz.prog (envZ [] noLp 0) Tryz.f115 [.sl t (rowsD T R) 1 n] [] (fun d σ=>K d σ) =
  bif decide (0<n) then bif decide ((0+n)*(24:Nat)<=140737488355328) then K (.os 1 0 (0+n)) [none,some ⟨1,.app (.pre (.lst []) 0) (.tab n (rowsD T R))⟩] else none else none:=by
 kernel_rfl
theorem cb_tree (t:Bool) (z:Nat->Bool) (n:Nat) (K:DV->DHeap->Option Unit):bodyD Tryz.prog (envZ [] noLp 0) Tryz.f77 [.sl t (tabsD z) 1 n] [] (fun d σ=>K d σ) =
  bif decide (0<n) then bif decide ((0+n)*(1:Nat)<=140737488355328) then K (.os 1 0 (0+n)) [none,some ⟨1,.app (.pre (.lst []) 0) (.tab n (tabsD z))⟩] else none else none:=by
 kernel_rfl
theorem Row.clo (r:Row) (i f:Nat):Clo (r.cell i f):=by
 match f with
 | 0=>exact .v _
 | 1=>exact .v _
 | 2=>exact .v _
 | 3=>exact .v _
 | _+4=>exact .v _
def rowPos (g:Nat->Nat->DV) (n:Nat):Prop:=cellsOk g n/\0<n
noncomputable def clC (Q:(Nat->Nat->DV)->Nat->Prop):ConF:=fun args k=>match args with
 | [.sl _ g 5 n]=>bif holds (Q g n) then k (fun _=>(.sl false (rowOf g n).cell 5 n,[])) else none
 | _=>none
theorem app_frz {k n:Nat}{g:Nat->Nat->DV}(hc:∀ i f,Clo (g i f)) {σ:DHeap}(hb:σ[1]?=some (some ⟨k,.app (.pre (.lst []) 0) (.tab n g)⟩)):fzq (.sl false g k n) (.os 1 0 n) σ=some ():=by
 refine fzq_of ⟨[1],?_,fun j hj blk hb2 i f _ _=>?_⟩
 ·refine SubZ.fz0 (c:=.app (.pre (.lst []) 0) (.tab n g)) (by unfold zf; simp [hb]) (by show n<=0+n; omega) fun i f=>?_
  show (if i<0 then _ else g (i-0) f)=_
  rw [if_neg (Nat.not_lt_zero _)]; rfl
 ·obtain rfl:j=1:=by simpa using hj
  rw [hb] at hb2;obtain rfl:(⟨k,.app (.pre (.lst []) 0) (.tab n g)⟩:DBlk)=blk:=Option.some.inj (Option.some.inj hb2)
  show Clo (if i<0 then _ else g (i-0) f)
  rw [if_neg (Nat.not_lt_zero _)];exact hc _ _
theorem clC_ok {st:AE.Stat}(hx:Hx st):ConOkZ true Tryz.prog st 116 (clC rowPos):=by
 refine con_frz (E:=envZ [] noLp 0) rfl (glOk st) (tblD_env (l:=[]) fun _ h=>nomatch h) Tryz.func116 (by kernel_rfl) (by kernel_rfl) (hx 116 rfl) (fun _ _ _ h=>nomatch h) fun args k hk=>?_
 unfold clC at hk
 split at hk<;>first | (cases hk; done) | skip
 rename_i t g n;obtain ⟨hb,hk⟩:=bif_none hk;obtain ⟨hb,hp⟩:=holds_eq.1 hb;have hn:=hb.1
 refine ⟨[.sl t (rowOf g n).cell 5 n],_,.cons (hb.cv t) .nil,.sl fun i f _ _=>row_low _ _ _,hk,(cl_tree t (rowOf g n) _).trans (dT hp ?_)⟩
 have hz:0+(rowOf g n).n=n:=Nat.zero_add _;rw [hz]
 exact dT (by omega) (app_frz (fun i f=>Row.clo _ _ _) rfl)
def tabsAre (g:Nat->Nat->DV) (n:Nat):Prop:=tabsSo g n/\0<n
noncomputable def cbC (Q:(Nat->Nat->DV)->Nat->Prop):ConF:=fun args k=>match args with
 | [.sl _ g 1 n]=>bif holds (Q g n) then k (fun _=>(.sl false (tabsD fun i=>boolD (g i 0)) 1 n,[])) else none
 | _=>none
theorem cbC_ok {st:AE.Stat}(hx:Hx st):ConOkZ true Tryz.prog st 77 (cbC tabsAre):=by
 refine con_frz (E:=envZ [] noLp 0) rfl (glOk st) (tblD_env (l:=[]) fun _ h=>nomatch h) Tryz.func77 (by kernel_rfl) (by kernel_rfl) (hx 77 rfl) (fun _ _ _ h=>nomatch h) fun args k hk=>?_
 unfold cbC at hk
 split at hk<;>first | (cases hk; done) | skip
 rename_i t g n;obtain ⟨hb,hk⟩:=bif_none hk;obtain ⟨hb,hp⟩:=holds_eq.1 hb;have hn:=hb.1
 refine ⟨[.sl t (tabsD fun i=>boolD (g i 0)) 1 n],_,.cons (hb.cv t) .nil,tabs_low _ _,hk,(cb_tree t (fun i=>boolD (g i 0)) n _).trans (dT hp ?_)⟩
 have hz:0+n=n:=Nat.zero_add _;rw [hz]
 exact dT (by omega) (app_frz (fun i f=>.v _) rfl)
noncomputable def crC (Q:(Nat->Nat->DV)->Nat->Prop):ConF:=fun args k=>match args with
 | [.sl _ G 1 n]=>bif holds (Q G n) then k (fun b=>(.os b 0 n,[some ⟨1,.tab n (rowsD (fun i=>slT (G i 0)) fun i=>rowD (G i 0))⟩])) else none
 | _=>none
def rowsAreP (G:Nat->Nat->DV) (n:Nat):Prop:=rowsSo G n/\0<n/\∀ i,i<n->slT (G i 0)=false
theorem ro_loop (n i:Nat) (Q:(Nat->Nat->DV)->Nat->Prop) (T:Nat->Bool) (R:Nat->Row) (K:Ex->Nat->List DV->List DV->DHeap->Option Unit):execD Tryz.prog (envZ [(116,clC Q)] noLp 0) (loopAt Tryz.f76 58) 500 (temps 22 [3,8,9] [.os 0 0 n,iv n,iv i]) [some ⟨1,.tab n (rowsD T R)⟩] (fun e τ σ=>K e τ.length (pick [3,8,9] τ) (pick [3] τ) σ) =
  bif decide ((i:Int)<(n:Int)) then bif decide ((i:Int)<(n:Int)) then bif decide (0+tN i<n) then bif holds (Q (Row.cell (R (0+tN i))) (Row.n (R (0+tN i)))) then bif decide ((i:Int)<(n:Int))
  then bif decide (0+tN i<DC.n (.tab n (rowsD T R))) then K .normal 22 [.os 0 0 n,iv (n:Int),iv (IntKind.wrap .i64 ((i:Int)+1))] [.os 0 0 n] [some ⟨1,.upd (.tab n (rowsD T R)) (0+tN i) 0 (.sl false (Row.cell (rowOf (Row.cell (R (0+tN i))) (Row.n (R (0+tN i))))) 5 (Row.n (R (0+tN i))))⟩]
  else none else none else none else none else none else K (.exit 0) 22 [.os 0 0 n,iv (n:Int),iv (i:Int)] [.os 0 0 n] [some ⟨1,.tab n (rowsD T R)⟩]:=by
 kernel_rfl
structure ROX where
 T:Nat->Bool
 R:Nat->Row
 n:Nat
 i:Nat
def upR (T:Nat->Bool) (i j:Nat):Bool:=if j<i then false else T j
noncomputable def roI:LInv ROX where
 pre x:=x.i<=x.n/\rowsPos x.R x.n
 m:=1
 n:=22
 ps:=[3,8,9]
 sd x:=[.os 0 0 x.n,iv x.n,iv x.i]
 sh x:=[some ⟨1,.tab x.n (rowsD (upR x.T x.i) x.R)⟩]
 meas x:=x.n-x.i
 e _:=.exit 0
 qs:=[3]
 od x:=[.os 0 0 x.n]
 oh x:=[some ⟨1,.tab x.n (rowsD (upR x.T x.n) x.R)⟩]
 guess ds σ:=match ds,σ with
  | [.os 0 0 n,_,_],[some b]=>some ⟨fun i=>slT (b.c.get i 0),fun i=>rowD (b.c.get i 0),n,0⟩
  | _,_=>none
 cps x k:=k (.exit 0) [.os 0 0 x.n] [some ⟨1,.tab x.n (rowsD (upR x.T x.n) x.R)⟩]
theorem wpos {R:Nat->Row}{n i:Nat}(h:rowsPos R n) (hi:i<n):rowPos (R i).cell (R i).n:=⟨Row.ok (h.2 i hi).1,(h.2 i hi).2⟩
theorem ro_ls {st:AE.Stat}(hx:Hx st):LoopSR true Tryz.prog st gl0 (.loop (loopAt Tryz.f76 58)) roI.g:=by
 refine roI.ok (E:=envZ [(116,clC rowPos)] noLp 0) (p:=500) (tblD_env (l:=[(116,clC rowPos)]) fun x h=>?_) (glOk st).1 (fun _ _ _ h=>nomatch h) (fun x k h=>h) fun x hx2=>?_
 ·simp only [List.mem_cons,List.not_mem_nil,or_false] at h;subst h;exact clC_ok hx
 obtain ⟨T,R,n,i⟩:=x;obtain ⟨hi,hR⟩:i<=n/\rowsPos R n:=hx2;have hn:=hR.1;refine (ro_loop n i rowPos (upR T i) R _).trans ?_;simp only [Int.toNat_natCast,Nat.add_zero,Nat.zero_add]
 refine dS (fun hlt=>?_) fun hge=>?_
 ·have hlt:i<n:=by omega
  refine dT (by omega) (dT hlt (hT (wpos hR hlt) (dT (by omega) (dT hlt (LInv.ask_of ⟨rfl,⟨T,R,n,i+1⟩,⟨rfl,rfl,rfl,hlt,hR⟩,by simp only [roI]; omega,[],.of (im:=[some 0]) (.cons (.os rfl) (.cons (.v _) (.cons (by rw [W_in (by omega) (by omega)]; exact .v _) .nil))) rfl ⟨⟨0,_,rfl,rfl,rfl,Nat.le_refl _,trivial,fun j f hj hf=>?_⟩,trivial⟩ rfl (by decide)⟩)))))
  have hf:f<1:=hf
  obtain rfl:f=0:=by omega
  show Sub _ (.sl (upR T (i+1) j) (R j).cell 5 (R j).n) (if j=i/\0=0 then .sl false (rowOf (R i).cell (R i).n).cell 5 (R i).n else .sl (upR T i j) (R j).cell 5 (R j).n)
  by_cases hji:j=i
  ·subst hji
   have e:upR T (j+1) j=false:=by unfold upR; rw [if_pos (by omega)]
   rw [if_pos ⟨rfl,rfl⟩,e];exact .of_clo (.sl _ _ _ _)
  ·rw [if_neg (fun h=>hji h.1)]
   have e:upR T (i+1) j=upR T i j:=by
    unfold upR
    by_cases h:j<i
    ·rw [if_pos h,if_pos (by omega)]
    ·rw [if_neg h,if_neg (by omega)]
   rw [e];exact .of_clo (.sl _ _ _ _)
 ·obtain rfl:n=i:=by omega
  exact LInv.ask_of ⟨rfl,rfl,[],.of (im:=[some 0]) (.cons (.os rfl) .nil) rfl ⟨⟨0,_,rfl,rfl,rfl,Nat.le_refl _,trivial,fun j f hj hf=>.of_clo (.sl _ _ _ _)⟩,trivial⟩ rfl (by decide)⟩
theorem crC_ok {st:AE.Stat}(hx:Hx st):ConOkZ true Tryz.prog st 115 (crC rowsAreP):=by
 refine con_ofZ (mg:=[]) (l:=[]) (lp:=noLp) (n:=0) (glOk st) (fun _ h=>nomatch h) Tryz.func115 (by kernel_rfl) (by kernel_rfl) (hx 115 rfl) (fun _ _ _ h=>nomatch h) fun args k hk=>?_
 unfold crC at hk
 split at hk<;>first | (cases hk; done) | skip
 rename_i t G n;obtain ⟨hb,hk⟩:=bif_none hk;obtain ⟨⟨hn,hb⟩,hp,hT⟩:=holds_eq.1 hb
 refine ⟨[.sl t (rowsD (fun i=>slT (G i 0)) fun i=>rowD (G i 0)) 1 n],_,.cons (rows_cv hb) .nil,hk,fun b=>⟨⟨.os _ _ _,fun id blk hb2 i f hi _=>?_⟩,(cr_tree t _ _ n _).trans (dT hp ?_)⟩⟩
 ·cases id with
  | succ id=>simp at hb2
  | zero =>
   obtain rfl:(⟨1,.tab n (rowsD (fun i=>slT (G i 0)) fun i=>rowD (G i 0))⟩:DBlk)=blk:=Option.some.inj (Option.some.inj hb2)
   have hi:i<n:=hi;show Low (.sl (slT (G i 0)) _ _ _);rw [hT i hi]
   exact .sl fun j g _ _=>row_low _ _ _
 ·have hz:0+n=n:=Nat.zero_add _;rw [hz]
  refine dT (by omega) (fin_of ?_)
  exact finQ_own (id:=1) (blk:=⟨1,.app (.pre (.lst []) 0) (.tab n (rowsD (fun i=>slT (G i 0)) fun i=>rowD (G i 0)))⟩) rfl rfl rfl (by show n<=0+n; omega) trivial fun i f hi hf=>⟨.sl _ _ _ _,by
   show (if i<0 then _ else rowsD _ _ (i-0) f)=_
   rw [if_neg (Nat.not_lt_zero _)]; rfl⟩
theorem rb_tree (t:Bool) (Q:(Nat->Nat->DV)->Nat->Prop) (T:Nat->Bool) (R:Nat->Row) (n:Nat) (K:DV->DHeap->Option Unit):bodyD Tryz.prog (envZ [(115,crC Q)] (lpOf [(58,roI.g)]) 0) Tryz.f76 [.sl t (rowsD T R) 1 n] [] (fun d σ=>K d σ) =
  bif holds (Q (rowsD T R) n) then bif holds ((Nat.le 0 n/\Nat.le n 9000000/\∀ (i:Nat),i<n->(Nat.le (Row.n ((R) i)) 9000000/\∀ (i_1:Nat),i_1<Row.n ((R) i)->Nat.le (ByteArray.size (Row.tx ((R) i) i_1)) 9000000)/\Nat.le 1 (Row.n ((R) i)))/\∃ ids,WkP 1 ids [.os 0 0 n,iv (n:Int),iv 0] [some ⟨1,.tab n fun a _=>DV.sl (slT (.sl (T a) (Row.cell (R a)) 5 (Row.n (R a)))) (Row.cell (R a)) 5 (Row.n (R a))⟩] [.os 0 0 n,iv (n:Int),iv 0] [some ⟨1,.tab n (rowsD (upR (fun i=>slT (.sl (slT (.sl (T i) (Row.cell (R i)) 5 (Row.n (R i)))) (Row.cell (R i)) 5 (Row.n (R i)))) 0) (R))⟩])
  then K (.os 0 0 n) [some ⟨1,.tab n (rowsD (upR (fun i=>slT (.sl (slT (.sl (T i) (Row.cell (R i)) 5 (Row.n (R i)))) (Row.cell (R i)) 5 (Row.n (R i)))) n) (R))⟩] else none else none:=by
 kernel_rfl
def rowsGo (G:Nat->Nat->DV) (n:Nat):Prop:=rowsAre G n/\∀ i,i<n->slT (G i 0)=false
noncomputable def roC (Q:(Nat->Nat->DV)->Nat->Prop):ConF:=fun args k=>match args with
 | [.sl _ G 1 n]=>bif holds (Q G n) then k (fun _=>(.sl false (rowsD (fun _=>false) fun i=>rowD (G i 0)) 1 n,[])) else none
 | _=>none
theorem rows_low (R:Nat->Row) (n:Nat):Low (.sl false (rowsD (fun _=>false) R) 1 n):=.sl fun i f _ _=>.sl fun j g _ _=>row_low _ _ _
theorem ro1_ok {st:AE.Stat}(hx:Hx st):ConOkZ true Tryz.prog st 76 (roC fun G n=>rowsGo G n/\0<n):=by
 refine con_frz (E:=envZ [(115,crC rowsAreP)] (lpOf [(58,roI.g)]) 0) rfl (glOk st) (tblD_env (l:=[(115,crC rowsAreP)]) fun x h=>?_) Tryz.func76 (by kernel_rfl) (by kernel_rfl) (hx 76 rfl) (lp_in (c0:=.loop (loopAt Tryz.f76 58)) (by kernel_rfl) (ro_ls hx)) fun args k hk=>?_
 ·simp only [List.mem_cons,List.not_mem_nil,or_false] at h;subst h;exact crC_ok hx
 unfold roC at hk
 split at hk<;>first | (cases hk; done) | skip
 rename_i t G n;obtain ⟨hb,hk⟩:=bif_none hk;obtain ⟨⟨⟨hn,hG⟩,hF⟩,hp⟩:=holds_eq.1 hb
 have ha:rowsAreP (rowsD (fun i=>slT (G i 0)) fun i=>rowD (G i 0)) n:=⟨⟨hn,fun i hi=>isRow_of (hG i hi).1.2.row⟩,hp,hF⟩
 refine ⟨[.sl t (rowsD (fun i=>slT (G i 0)) fun i=>rowD (G i 0)) 1 n],_,.cons (rows_cv fun i hi=>(hG i hi).1) .nil,rows_low _ n,hk,(rb_tree t rowsAreP (fun i=>slT (G i 0)) (fun i=>rowD (G i 0)) n _).trans (hT ha (hT ⟨⟨Nat.zero_le _,hn,fun i hi=>⟨(hG i hi).1.2.row,(hG i hi).2⟩⟩,[],.of (im:=[some 0]) (.cons (.os rfl) (.cons (.v _) (.cons (.v _) .nil))) rfl ⟨⟨0,_,rfl,rfl,rfl,Nat.le_refl _,trivial,fun j f hj hf=>.of_clo (.sl _ _ _ _)⟩,trivial⟩ rfl (by decide)⟩ ?_))⟩
 refine fzq_of ⟨[0],SubZ.cv (Cv.sl fun i f hi hf=>.of ?_) (SubZ.fz0 (c:=.tab n (rowsD (upR (fun i=>slT (G i 0)) n) fun i=>rowD (G i 0))) rfl (Nat.le_refl _) fun _ _=>rfl),fun j hj blk hb i f _ _=>?_⟩
 ·show DV.sl (upR _ n i) _ _ _=.sl false _ _ _;unfold upR;rw [if_pos hi]
 ·obtain rfl:j=0:=by simpa using hj
  obtain rfl:(⟨1,.tab n (rowsD (upR (fun i=>slT (G i 0)) n) fun i=>rowD (G i 0))⟩:DBlk)=blk:=Option.some.inj (Option.some.inj hb)
  exact .sl _ _ _ _
theorem c0_nil (st:AE.Stat) (rf:CallA) (σ:Heap) (n:Nat):bodyA Tryz.prog st rf n Tryz.f115 [.slice none 0 0] σ=some (.slice none 0 0,σ):=by kernel_rfl
theorem c0_emp (st:AE.Stat) (rf:CallA) (σ:Heap) (a:Addr) (cap n:Nat):bodyA Tryz.prog st rf n Tryz.f115 [.slice (some a) 0 cap] σ=some (.slice (some ⟨σ.length,0,none⟩) 0 0,σ++[some (.cells [])]):=by kernel_rfl
theorem st_more {st:AE.Stat}{C:Cf}{σ:Heap}(h:St st C noMu σ []) (ex:List (Option Blk)) (s:Nat):St st C noMu (σ++ex) (List.replicate s none++[]) :=
 ⟨fun t b s o v q=>cellA_append (h.frz t b s o v q),fun id blk hb=>(by have:=(repl_get.1 hb).2; simp at this),fun id blk b x hb=>(by have:=(repl_get.1 hb).2; simp at this),fun id id' blk blk' b x x' hb=>(by have:=(repl_get.1 hb).2; simp at this),
  fun id x hx=>(by cases hx),fun t b o v q=>(by have:=h.low t b o v q; rw [List.length_append]; omega),h.sta⟩
noncomputable def c0C:ConF:=fun args k=>match args with
 | [.sl _ _ 1 0]=>k (fun _=>(.sl false (rowsD (fun _=>false) fun _=>blkRow 0) 1 0,[]))
 | _=>none
theorem c0C_ok {st:AE.Stat}(hx:Hx st):ConOkZ true Tryz.prog st 115 c0C:=by
 intro args k hk s C σ vs hS ha;unfold c0C at hk
 split at hk<;>first | (cases hk; done) | skip
 rename_i t g;obtain ⟨v,ys,rfl,hv,hn⟩:=ha.cons_inv;obtain rfl:=hn.nil_inv
 have ent:∀ n m,1<=m->enterA Tryz.prog (runF Tryz.prog st n m) 115 [v] σ=bodyA Tryz.prog st (runF Tryz.prog st n (m-1)) n Tryz.f115 [v] σ:=fun n m hm=>by
  obtain ⟨m,rfl⟩:∃ m',m=m'+1:=⟨m-1,by omega⟩
  have h1:(Tryz.f115.name== "runtime.NumGoroutine")=false:=by kernel_rfl
  have h2:Tryz.f115.body.isNone=false:=by kernel_rfl
  unfold enterA;rw [Tryz.func115];simp only [h1,h2,Bool.false_eq_true,if_false,runF,Tryz.func115,hx 115 rfl];rfl
 have nolive:∀ b,¬ Live noMu (List.replicate s none++([]:DHeap)) b:=by
  rintro b ⟨id,blk,x,hb,_⟩
  have:=(repl_get.1 hb).2;simp at this
 have low:LowR ((.sl false (rowsD (fun _=>false) fun _=>blkRow 0) 1 0:DV),([]:DHeap)):=lowR_flat (rows_low _ 0)
 rcases hv.sl_inv with ⟨a,cap,w,rfl,hc,hk0,q1,q2⟩ | ⟨_,rfl⟩
 ·refine ⟨_,hk,low,_,_,C,noMu,⟨1,fun n m _ hm=>(ent n m hm).trans (c0_emp st _ σ a cap n)⟩,st_more hS _ s,?_,fun id x hx=>(by cases hx),?_,fun b hb=>?_,fun b hl=>(nolive b hl).elim,fun b s o v hv=>.inl hv⟩
  ·exact .sl false _ 1 0 ⟨σ.length,0,none⟩ 0 (fun _ _=>undef) (.inl ⟨by decide,Nat.le_refl _⟩) (by decide) (fun i f hi _=>absurd hi (Nat.not_lt_zero _)) fun i f hi _=>absurd hi (Nat.not_lt_zero _)
  ·rw [List.length_append]; omega
  ·exact List.getElem?_append_left hb
 ·have h0:=st_more hS [] s;rw [List.append_nil] at h0
  exact ⟨_,hk,low,_,_,C,noMu,⟨1,fun n m _ hm=>(ent n m hm).trans (c0_nil st _ σ n)⟩,h0,.slnil _ _ _,fun id x hx=>(by cases hx),Nat.le_refl _,fun b hb=>rfl,fun b hl=>(nolive b hl).elim,fun b s o v hv=>.inl hv⟩
theorem rz_tree (t:Bool) (G:Nat->Nat->DV) (K:DV->DHeap->Option Unit):bodyD Tryz.prog (envZ [(115,c0C)] noLp 2) Tryz.f76 [.sl t G 1 0] [] (fun d σ=>K d σ) =
  K (.sl false (fun a _=>DV.sl false (Row.cell (blkRow 0)) 5 0) 1 0) []:=by
 kernel_rfl
theorem ro0_ok {st:AE.Stat}(hx:Hx st):ConOkZ true Tryz.prog st 76 (roC fun _ n=>n=0):=by
 refine con_frz (E:=envZ [(115,c0C)] noLp 2) rfl (glOk st) (tblD_env (l:=[(115,c0C)]) fun x h=>?_) Tryz.func76 (by kernel_rfl) (by kernel_rfl) (hx 76 rfl) (fun _ _ _ h=>nomatch h) fun args k hk=>?_
 ·simp only [List.mem_cons,List.not_mem_nil,or_false] at h;subst h;exact c0C_ok hx
 unfold roC at hk
 split at hk<;>first | (cases hk; done) | skip
 rename_i t G n;obtain ⟨hb,hk⟩:=bif_none hk;obtain rfl:=holds_eq.1 hb
 exact ⟨[.sl t G 1 0],.sl false (rowsD (fun _=>false) fun i=>rowD (G i 0)) 1 0,.self .nil,rows_low _ 0,hk,(rz_tree t G _).trans (fzq_of ⟨[],SubZ.cv (Cv.sl fun i f hi _=>absurd hi (Nat.not_lt_zero _)) (Sub.of_clo (.sl _ _ _ _)).z,fun j hj=>nomatch hj⟩)⟩
theorem roC_ok {st:AE.Stat}(hx:Hx st):ConOkZ true Tryz.prog st 76 (roC rowsGo):=fun args k hk=>by
 unfold roC at hk
 split at hk<;>first | (cases hk; done) | skip
 rename_i t G n;obtain ⟨hb,hk⟩:=bif_none hk;have hb:=holds_eq.1 hb
 rcases Nat.eq_zero_or_pos n with rfl | hp
 ·exact ro0_ok hx [.sl t G 1 0] k (hT rfl hk)
 ·exact ro1_ok hx [.sl t G 1 n] k (hT ⟨hb,hp⟩ hk)
def Tm.own (x:Tm):Tm:={ x with gT:=fun _=>false,oT:=fun _=>false,bT:=fun _=>false }
end Go.Proofs.YtigmkgampfbflaaGreatDoor
