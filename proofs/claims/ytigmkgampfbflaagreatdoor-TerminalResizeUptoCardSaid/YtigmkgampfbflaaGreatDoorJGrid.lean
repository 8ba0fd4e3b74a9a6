/-
 The contracts of the reference's checks of a row of cells and of a grid.
 Conditions: none beyond those of the contracts.
-/
import Derived.Test.YtigmkgampfbflaaGreatDoorJClu
namespace Go.Proofs.YtigmkgampfbflaaGreatDoor
open Go Go.AE Go.DE Go.RowKit
def Cv (a b:DV):Prop:=∀ C μ v,DR C μ a v→DR C μ b v
theorem Cv.rfl {a:DV}:Cv a a:=fun _ _ _ h=>h
theorem Cv.of {a b:DV}(h:a=b):Cv a b:=h ▸ Cv.rfl
theorem Cv.sl {t:Bool}{g g':Nat→Nat→DV}{k n:Nat}(h:∀ i f,i<n→f<k→Cv (g i f) (g' i f)):Cv (.sl t g k n) (.sl t g' k n):=fun C μ v hv=>by
 rcases hv.sl_inv with ⟨a,cap,w,rfl,hc,hk0,q1,q2⟩ | ⟨rfl,rfl⟩
 ·exact .sl t _ k n a cap w hc hk0 q1 fun i f hi hf=>h i f hi hf _ _ _ (q2 i f hi hf)
 ·exact .slnil t _ k
theorem Cv.agg:∀ {a b:List DV},CvL a b→Cv (.agg a) (.agg b):=fun {a b} h C μ v hv=>by
 cases hv with
 | agg _ vs h1 h2 =>
  have:=h.drl (C:=C) (μ:=μ) (vs:=vs.toList) ⟨by simpa using h1,fun i d x hd hx=>h2 i d x hd (by simpa using hx)⟩
  exact .agg _ _ (by simpa using this.1) fun i d x hd hx=>this.2 i d x hd (by simpa using hx)
def cellsOk (g:Nat→Nat→DV) (n:Nat):Prop:=n≤9000000∧∀ i,i<n→g i 0=sv (strD (g i 0))∧(strD (g i 0)).size≤9000000∧g i 1=iv (numD (g i 1))∧g i 2=iv (numD (g i 2))∧g i 3=iv (numD (g i 3))∧g i 4=iv (numD (g i 4))
theorem cellsOk.row {g:Nat→Nat→DV}{n:Nat}(h:cellsOk g n):(rowOf g n).sized:=⟨h.1,fun i hi=>(h.2 i hi).2.1⟩
theorem cellsOk.cv {g:Nat→Nat→DV}{n:Nat}(h:cellsOk g n) (t:Bool):Cv (.sl t g 5 n) (.sl t (rowOf g n).cell 5 n):=Cv.sl fun i f hi hf=>by
 obtain ⟨h0,_,h1,h2,h3,h4⟩:=h.2 i hi
 have:f=0∨f=1∨f=2∨f=3∨f=4:=by omega
 rcases this with rfl | rfl | rfl | rfl | rfl
 ·exact .of h0
 ·exact .of h1
 ·exact .of h2
 ·exact .of h3
 ·exact .of h4
theorem Row.ok {r:Row}(h:r.sized):cellsOk r.cell r.n:=⟨h.1,fun i hi=>⟨rfl,h.2 i hi,rfl,rfl,rfl,rfl⟩⟩
noncomputable def rcC (F:Row→Int):ConF:=fun args k=>match args with
 | [.sl _ g 5 n]=>bif holds (cellsOk g n) then k (fun _=>(iv (F ⟨n,fun i=>strD (g i 0),fun i=>numD (g i 1),fun i=>numD (g i 2),fun i=>numD (g i 3),fun i=>numD (g i 4)⟩),[])) else none
 | _=>none
theorem rc_tree (F G:ByteArray→Int) (t:Bool) (r:Row) (k:DV→Option Unit):bodyD Tryz.prog (env [(91,ckC F),(92,cwC G)] (lpOf [(58,rwI.g)]) 0) Tryz.f46 [.sl t r.cell 5 r.n] [] (fun d _=>k d) =
  bif decide ((r.n:Int)<1) then k (iv 5) else bif decide ((r.n:Int) > 132) then k (iv 5) else bif holds (((Nat.le (Row.n (rowOf r.cell r.n)) 9000000∧∀ (i:Nat),i<Row.n (rowOf r.cell r.n)→Nat.le (ByteArray.size (Row.tx (rowOf r.cell r.n) i)) 9000000)∧Nat.le (Row.n (rowOf r.cell r.n)) (r.n+0))∧∃ ids,WkP 0 ids [.sl t r.cell 5 r.n,iv 0] [] [.sl t (Row.cell (rowOf r.cell r.n)) 5 (Row.n (rowOf r.cell r.n)),iv 0] (LInv.sh rwI { t:=t,r:=rowOf r.cell r.n,m:=r.n,i:=0 }))
  then bif holds (CX.q { t:=t,r:=rowOf r.cell r.n,m:=r.n,i:=0 }=0) then k (iv 0) else k (iv (CX.q { t:=t,r:=rowOf r.cell r.n,m:=r.n,i:=0 })) else none:=by
 kernel_rfl
def check7 (r:Row):Int:=bif decide ((r.n:Int)<1) then 5 else bif decide ((r.n:Int) > 132) then 5 else c7 r r.n 0
theorem rc_true (t:Bool) (r:Row) (hr:r.sized):bodyD Tryz.prog (env [(91,ckC check3),(92,cwC width3)] (lpOf [(58,rwI.g)]) 0) Tryz.f46 [.sl t r.cell 5 r.n] [] (fun d _=>isD (iv (check7 r)) d)=some ():=by
 refine (rc_tree check3 width3 t r _).trans ?_
 unfold check7
 refine dS (fun h=>isD_of ?_) fun h=>dS (fun h2=>isD_of ?_) fun h2=>hT ⟨⟨hr,Nat.le_refl _⟩,[],wk0 (.cons (.sl _ _ _ _) (.cons (.v _) .nil)) rfl⟩ ?_
 ·rw [decide_eq_true h]; rfl
 ·rw [decide_eq_false h,decide_eq_true h2]; rfl
 ·rw [decide_eq_false h,decide_eq_false h2,cond_false,cond_false]
  by_cases hq:c7 r r.n 0=0
  ·exact hT hq (isD_of (by rw [hq]))
  ·exact hF hq (isD_of rfl)
theorem rcC_ok {st:AE.Stat}(hx:Hx st):ConOk Tryz.prog st 46 (rcC check7):=by
 refine con_flat (mg:=[]) (l:=[(91,ckC check3),(92,cwC width3)]) (lp:=lpOf [(58,rwI.g)]) (n:=0) (glOk st) (fun x h=>?_) Tryz.func46 (by kernel_rfl) (by kernel_rfl) (hx 46 rfl) (lp_one (by kernel_rfl) (rw_ls hx)) fun args k hk=>?_
 ·simp only [List.mem_cons,List.not_mem_nil,or_false] at h
  rcases h with rfl | rfl
  ·exact ckC_ok hx
  ·exact cwC_ok hx
 unfold rcC at hk
 split at hk<;>first | (cases hk; done) | skip
 rename_i t g n
 obtain ⟨hb,hk⟩:=bif_none hk
 have hb:=holds_eq.1 hb
 exact ⟨[.sl t (rowOf g n).cell 5 n],_,.cons (hb.cv t) .nil,v_clo _,hk,rc_true t (rowOf g n) hb.row⟩
def rowsD (T:Nat→Bool) (R:Nat→Row):Nat→Nat→DV:=fun i _=>.sl (T i) (R i).cell 5 (R i).n
def g8s (w:Int) (r:Row) (a:Int):Int:=bif (r.n:Int) != w then 12 else bif check7 r != 0 then check7 r else a
def g8 (R:Nat→Row) (w:Int):Nat→Nat→Int
 | 0,_=>0
 | m+1,i=>g8s w (R i) (g8 R w m (i+1))
theorem wkS {k:Nat}{l:List DV}{ds ds2:List DV}(h:∀ d∈l,Clo d) (tm:SubL (ren 1 []) ds2 ds):WkP 1 [] ds [some ⟨k,.lst [l]⟩] ds2 [some ⟨k,.lst [l]⟩] :=
 .of (im:=[some 0]) tm rfl ⟨⟨0,_,rfl,rfl,⟨rfl,Nat.le_refl _,trivial,fun i f hi _=>.of_clo (by
  obtain rfl:i=0:=by
   have:i<1:=hi
   omega
  show Clo (l.getD f .any)
  rw [List.getD_eq_getElem?_getD]
  cases hl:l[f]? with
  | none=>exact .any
  | some d=>exact h d (List.mem_of_getElem? hl))⟩⟩,trivial⟩ rfl (by decide)
theorem wkN {b:Option DBlk}{ds ds2:List DV}(tm:SubL (ren 1 []) ds2 ds):WkP 1 [] ds [b] ds2 [none]:=.of (im:=[]) tm rfl trivial rfl (by decide)
structure GX where
 w:Int
 h:Int
 t:Bool
 T:Nat→Bool
 R:Nat→Row
 n:Nat
 i:Nat
def GX.q (x:GX):Int:=g8 x.R x.w (x.n-x.i) x.i
def slT:DV→Bool
 | .sl t _ _ _=>t
 | _=>false
def slG:DV→Nat→Nat→DV
 | .sl _ g _ _=>g
 | _=>fun _ _=>.any
def slN:DV→Nat
 | .sl _ _ _ n=>n
 | _=>0
def rowD (d:DV):Row:=rowOf (slG d) (slN d)
noncomputable def gdI:LInv GX where
 pre x:=x.n≤9000000∧∀ i,i<x.n→(x.R i).sized
 m:=1
 n:=42
 ps:=[1,3]
 sd x:=[.po 0 0 0,iv x.i]
 sh x:=[some ⟨3,.lst [[iv x.w,iv x.h,.sl x.t (rowsD x.T x.R) 1 x.n]]⟩]
 meas x:=x.n-x.i
 e x:=qe x.q
 qs:=[2]
 od x:=qo x.q
 oh _:=[none]
 guess ds σ:=match ds,σ with
  | [.po 0 0 0,_],[some ⟨3,.lst [[.v (.int _ w),.v (.int _ h),.sl t G 1 n]]⟩]=>some ⟨w,h,t,fun i=>slT (G i 0),fun i=>rowD (G i 0),n,0⟩
  | _,_=>none
 cps x k:=bif holds (x.q=0) then k (.exit 0) [.any] [none] else k .ret [iv x.q] [none]
theorem gd_loop (F:Row→Int) (w h:Int) (t:Bool) (T:Nat→Bool) (R:Nat→Row) (n i:Nat) (K:Ex→Nat→List DV→List DV→DHeap→Option Unit):execD Tryz.prog (env [(46,rcC F)] noLp 0) (loopAt Tryz.f41 122) 500 (temps 42 [1,3] [.po 0 0 0,iv i]) [some ⟨3,.lst [[iv w,iv h,.sl t (rowsD T R) 1 n]]⟩] (fun e τ σ=>K e τ.length (pick [1,3] τ) (pick [2] τ) σ) =
  bif decide ((i:Int)<(n:Int)) then bif decide ((i:Int)<(n:Int)) then bif decide (tN i<n) then bif (↑(Row.n (R (tN i))):Int) != w then K .ret 42 [.po 0 0 0,iv (i:Int)] [iv 12] [some ⟨3,.lst [[iv w,iv h,.sl t (fun a a_1=>DV.sl (T a) (Row.cell (R a)) 5 (Row.n (R a))) 1 n]]⟩]
  else bif decide ((i:Int)<(n:Int)) then bif decide (tN i<n) then bif holds (Nat.le (Row.n (R (tN i))) 9000000∧∀ (i_1:Nat),i_1<Row.n (R (tN i))→sv (Row.tx (R (tN i)) i_1)=sv (strD (sv (Row.tx (R (tN i)) i_1)))∧Nat.le (ByteArray.size (strD (sv (Row.tx (R (tN i)) i_1)))) 9000000∧iv (Row.wd (R (tN i)) i_1)=iv (numD (iv (Row.wd (R (tN i)) i_1)))∧iv (Row.fo (R (tN i)) i_1)=iv (numD (iv (Row.fo (R (tN i)) i_1)))∧iv (Row.ba (R (tN i)) i_1)=iv (numD (iv (Row.ba (R (tN i)) i_1)))∧iv (Row.fl (R (tN i)) i_1)=iv (numD (iv (Row.fl (R (tN i)) i_1))))
  then bif F { n:=Row.n (R (tN i)),tx:=fun i_1=>strD (sv (Row.tx (R (tN i)) i_1)),wd:=fun i_1=>numD (iv (Row.wd (R (tN i)) i_1)),fo:=fun i_1=>numD (iv (Row.fo (R (tN i)) i_1)),ba:=fun i_1=>numD (iv (Row.ba (R (tN i)) i_1)),fl:=fun i_1=>numD (iv (Row.fl (R (tN i)) i_1)) } != 0
  then K .ret 42 [.po 0 0 0,iv (i:Int)] [iv (F { n:=Row.n (R (tN i)),tx:=fun i_1=>strD (sv (Row.tx (R (tN i)) i_1)),wd:=fun i_1=>numD (iv (Row.wd (R (tN i)) i_1)),fo:=fun i_1=>numD (iv (Row.fo (R (tN i)) i_1)),ba:=fun i_1=>numD (iv (Row.ba (R (tN i)) i_1)),fl:=fun i_1=>numD (iv (Row.fl (R (tN i)) i_1)) })] [some ⟨3,.lst [[iv w,iv h,.sl t (fun a a_1=>DV.sl (T a) (Row.cell (R a)) 5 (Row.n (R a))) 1 n]]⟩]
  else K .normal 42 [.po 0 0 0,iv (IntKind.wrap .i64 ((i:Int)+1))] [DV.any] [some ⟨3,.lst [[iv w,iv h,.sl t (fun a a_1=>DV.sl (T a) (Row.cell (R a)) 5 (Row.n (R a))) 1 n]]⟩] else none else none
  else none else none else none else K (.exit 0) 42 [.po 0 0 0,iv (i:Int)] [DV.any] [some ⟨3,.lst [[iv w,iv h,.sl t (fun a a_1=>DV.sl (T a) (Row.cell (R a)) 5 (Row.n (R a))) 1 n]]⟩]:=by
 kernel_rfl
theorem gd_ls {st:AE.Stat}(hx:Hx st):LoopS Tryz.prog st gl0 (.loop (loopAt Tryz.f41 122)) gdI.g:=by
 refine gdI.ok (E:=env [(46,rcC check7)] noLp 0) (p:=500) (tblD_env (l:=[(46,rcC check7)]) (fun x h=>?_)) (glOk st).1 (fun _ _ _ h=>nomatch h) (fun x k h=>q_cps h) fun x hx=>?_
 ·simp only [List.mem_cons,List.not_mem_nil,or_false] at h
  subst h
  exact rcC_ok hx
 obtain ⟨w,h,t,T,R,n,i⟩:=x
 obtain ⟨hn,hR⟩:n≤9000000∧∀ i,i<n→(R i).sized:=hx
 refine (gd_loop check7 w h t T R n i _).trans ?_
 simp only [Int.toNat_natCast,Nat.add_zero]
 refine dS (fun hlt=>?_) fun hge=>?_
 ·have hlt:i<n:=by omega
  have e:n-i=(n-(i+1))+1:=by omega
  have hW:IntKind.i64.wrap ((i:Int)+1)=((i+1:Nat):Int):=by rw [W_in (by omega) (by omega)]; omega
  rw [hW]
  have hq:GX.q ⟨w,h,t,T,R,n,i⟩=g8s w (R i) (g8 R w (n-(i+1)) (i+1)):=by simp only [GX.q,e,g8]
  unfold g8s at hq
  have stop:∀ (v:Int),v≠0→GX.q ⟨w,h,t,T,R,n,i⟩=v→gdI.ask ⟨w,h,t,T,R,n,i⟩ .ret 42 [.po 0 0 0,iv i] [iv v] [some ⟨3,.lst [[iv w,iv h,.sl t (rowsD T R) 1 n]]⟩]=some ():=fun v hv hq=>by
   refine LInv.ask_of ⟨rfl,?_,[],?_⟩
   ·simp only [gdI]; rw [hq]; exact (if_neg hv).symm
   ·simp only [gdI]; rw [hq]; show WkP 1 [] _ _ (qo v) _; rw [show qo v=[iv v] from if_neg hv]; exact wkN (.cons (.v _) .nil)
  refine dT (by omega) (dT hlt (cS (fun h1=>stop 12 (by decide) (by rw [hq,h1]; rfl)) fun h1=>dT (by omega) (dT hlt (hT (Row.ok (hR i hlt)) (cS (fun h2=>?_) fun h2=>?_)))))
  ·have h2:(check7 (R i) != 0)=true:=h2
   exact stop (check7 (R i)) (by simpa using h2) (by rw [hq,h1,h2]; rfl)
  ·have h2:(check7 (R i) != 0)=false:=h2
   rw [h1,h2,cond_false,cond_false] at hq
   refine LInv.ask_of ⟨rfl,⟨w,h,t,T,R,n,i+1⟩,⟨?_,?_,rfl,hn,hR⟩,?_,[],wkS (fun d hd=>?_) (.cons (.po rfl) (.cons (.v _) .nil))⟩
   ·simp only [gdI]; rw [hq]; rfl
   ·simp only [gdI]; rw [hq]; rfl
   ·simp only [gdI]; omega
   ·simp only [List.mem_cons,List.not_mem_nil,or_false] at hd
    rcases hd with rfl | rfl | rfl
    ·exact .v _
    ·exact .v _
    ·exact .sl _ _ _ _
 ·have hr:GX.q ⟨w,h,t,T,R,n,i⟩=0:=by
   have:n-i=0:=by omega
   simp only [GX.q,this,g8]
  refine LInv.ask_of ⟨rfl,?_,[],?_⟩
  ·simp only [gdI]; rw [hr]; rfl
  ·simp only [gdI]; rw [hr]; exact wkN (.cons (.any _) .nil)
noncomputable abbrev szC:ConF:=inl2 Tryz.prog (env [] noLp 0) Tryz.f88
theorem szC_ok {st:AE.Stat}(hx:Hx st):ConOk Tryz.prog st 88 szC:=inl2_ok Tryz.func88 (by kernel_rfl) (by kernel_rfl) (hx 88 rfl) (glOk st) (tblD_env (l:=[]) fun _ h=>nomatch h) (fun _ _ _ h=>nomatch h)
theorem gd_tree (F:Row→Int) (w h:Int) (t:Bool) (T:Nat→Bool) (R:Nat→Row) (n:Nat) (k:DV→Option Unit):bodyD Tryz.prog (env [(46,rcC F),(88,szC)] (lpOf [(122,gdI.g)]) 0) Tryz.f41 [.agg [iv w,iv h,.sl t (rowsD T R) 1 n]] [] (fun d _=>k d) =
  bif decide (w ≥ 1) then bif decide (w≤132) then bif decide (h ≥ 1) then bif !decide (h≤60) then k (iv 2) else bif (n:Int) != h then k (iv 1) else bif holds ((Nat.le n 9000000∧∀ (i:Nat),i<n→Nat.le (Row.n ((fun i=>rowD (.sl (T i) (Row.cell (R i)) 5 (Row.n (R i)))) i)) 9000000∧∀ (i_1:Nat),i_1<Row.n ((fun i=>rowD (.sl (T i) (Row.cell (R i)) 5 (Row.n (R i)))) i)→Nat.le (ByteArray.size (Row.tx ((fun i=>rowD (.sl (T i) (Row.cell (R i)) 5 (Row.n (R i)))) i) i_1)) 9000000)∧∃ ids,WkP 1 ids [.po 0 0 0,iv 0] [some ⟨3,.lst [[iv w,iv h,.sl t (fun a a_1=>DV.sl (T a) (Row.cell (R a)) 5 (Row.n (R a))) 1 n]]⟩] [.po 0 0 0,iv 0] [some ⟨3,.lst [[iv w,iv h,.sl t (fun a a_1=>DV.sl ((fun i=>slT (.sl (T i) (Row.cell (R i)) 5 (Row.n (R i)))) a) (Row.cell ((fun i=>rowD (.sl (T i) (Row.cell (R i)) 5 (Row.n (R i)))) a)) 5 (Row.n ((fun i=>rowD (.sl (T i) (Row.cell (R i)) 5 (Row.n (R i)))) a))) 1 n]]⟩])
  then bif holds (GX.q { w:=w,h:=h,t:=t,T:=fun i=>slT (.sl (T i) (Row.cell (R i)) 5 (Row.n (R i))),R:=fun i=>rowD (.sl (T i) (Row.cell (R i)) 5 (Row.n (R i))),n:=n,i:=0 }=0)
  then k (iv 0) else k (iv (GX.q { w:=w,h:=h,t:=t,T:=fun i=>slT (.sl (T i) (Row.cell (R i)) 5 (Row.n (R i))),R:=fun i=>rowD (.sl (T i) (Row.cell (R i)) 5 (Row.n (R i))),n:=n,i:=0 }))
  else none else k (iv 2) else k (iv 2) else k (iv 2):=by
 kernel_rfl
def check8 (w h:Int) (R:Nat→Row) (n:Nat):Int :=
 bif decide (w ≥ 1)&&decide (w≤132)&&decide (h ≥ 1)&&decide (h≤60) then (bif (n:Int) != h then 1 else g8 R w n 0) else 2
theorem gd_true (w h:Int) (t:Bool) (T:Nat→Bool) (R:Nat→Row) (n:Nat) (hn:n≤9000000) (hR:∀ i,i<n→(R i).sized):bodyD Tryz.prog (env [(46,rcC check7),(88,szC)] (lpOf [(122,gdI.g)]) 0) Tryz.f41 [.agg [iv w,iv h,.sl t (rowsD T R) 1 n]] [] (fun d _=>isD (iv (check8 w h R n)) d)=some ():=by
 refine (gd_tree check7 w h t T R n _).trans ?_
 unfold check8
 refine dS (fun h1=>dS (fun h2=>dS (fun h3=>cS (fun h4=>isD_of ?_) fun h4=>cS (fun h5=>isD_of ?_) fun h5=>hT ⟨⟨hn,hR⟩,[],wkS (fun d hd=>?_) (.cons (.po rfl) (.cons (.v _) .nil))⟩ ?_) fun h3=>isD_of ?_) fun h2=>isD_of ?_) fun h1=>isD_of ?_
 ·have h4:decide (h≤60)=false:=by simpa using h4
  rw [decide_eq_true h1,decide_eq_true h2,decide_eq_true h3,h4]; rfl
 ·have h4:decide (h≤60)=true:=by simpa using h4
  rw [decide_eq_true h1,decide_eq_true h2,decide_eq_true h3,h4,h5]; rfl
 ·simp only [List.mem_cons,List.not_mem_nil,or_false] at hd
  rcases hd with rfl | rfl | rfl
  ·exact .v _
  ·exact .v _
  ·exact .sl _ _ _ _
 ·have h4:decide (h≤60)=true:=by simpa using h4
  rw [decide_eq_true h1,decide_eq_true h2,decide_eq_true h3,h4,h5]
  by_cases hq:g8 R w n 0=0
  ·exact hT hq (isD_of (by rw [show (bif true&&true&&true&&true then (bif false then (1:Int) else g8 R w n 0) else 2)=g8 R w n 0 from rfl,hq]))
  ·exact hF hq (isD_of rfl)
 ·rw [decide_eq_true h1,decide_eq_true h2,decide_eq_false h3]; rfl
 ·rw [decide_eq_true h1,decide_eq_false h2]; rfl
 ·rw [decide_eq_false h1]; rfl
end Go.Proofs.YtigmkgampfbflaaGreatDoor
namespace Go.Proofs.YtigmkgampfbflaaGreatDoor
open Go Go.AE Go.DE Go.RowKit
def isRow (d:DV):Prop:=d=.sl (slT d) (slG d) 5 (slN d)∧cellsOk (slG d) (slN d)
noncomputable def gcC (F:Int→Int→(Nat→Row)→Nat→Int):ConF:=fun args k=>match args with
 | [.agg [.v (.int .i64 w),.v (.int .i64 h),.sl _ G 1 n]]=>bif holds (n≤9000000∧∀ i,i<n→isRow (G i 0)) then
   k (fun _=>(iv (F w h (fun i=>⟨slN (G i 0),fun j=>strD (slG (G i 0) j 0),fun j=>numD (slG (G i 0) j 1),fun j=>numD (slG (G i 0) j 2),fun j=>numD (slG (G i 0) j 3),fun j=>numD (slG (G i 0) j 4)⟩) n),[])) else none
 | _=>none
theorem rows_cv {t:Bool}{G:Nat→Nat→DV}{n:Nat}(h:∀ i,i<n→isRow (G i 0)):Cv (.sl t G 1 n) (.sl t (rowsD (fun i=>slT (G i 0)) fun i=>rowD (G i 0)) 1 n):=Cv.sl fun i f hi hf=>by
 obtain rfl:f=0:=by omega
 obtain ⟨h1,h2⟩:=h i hi
 rw [h1]
 exact h2.cv _
theorem gcC_ok {st:AE.Stat}(hx:Hx st):ConOk Tryz.prog st 41 (gcC check8):=by
 refine con_flat (mg:=[]) (l:=[(46,rcC check7),(88,szC)]) (lp:=lpOf [(122,gdI.g)]) (n:=0) (glOk st) (fun x h=>?_) Tryz.func41 (by kernel_rfl) (by kernel_rfl) (hx 41 rfl) (lp_one (by kernel_rfl) (gd_ls hx)) fun args k hk=>?_
 ·simp only [List.mem_cons,List.not_mem_nil,or_false] at h
  rcases h with rfl | rfl
  ·exact rcC_ok hx
  ·exact szC_ok hx
 unfold gcC at hk
 split at hk<;>first | (cases hk; done) | skip
 rename_i w h t G n
 obtain ⟨hb,hk⟩:=bif_none hk
 obtain ⟨hn,hG⟩:=holds_eq.1 hb
 exact ⟨[.agg [iv w,iv h,.sl t (rowsD (fun i=>slT (G i 0)) fun i=>rowD (G i 0)) 1 n]],_,.cons (Cv.agg (.self (.self (.cons (rows_cv hG) .nil)))) .nil,v_clo _,hk,gd_true w h t _ _ n hn fun i hi=>(hG i hi).2.row⟩
structure Tm where
 I:Nat→Int
 B:Nat→Bool
 S:Nat→ByteArray
 gT:Nat→Bool
 gR:Nat→Row
 gn:Nat
 oT:Nat→Bool
 oR:Nat→Row
 on:Nat
 tb:Nat→Bool
 tn:Nat
 bT:Nat→Bool
 bR:Nat→Row
 bn:Nat
def tabsD (z:Nat→Bool):Nat→Nat→DV:=fun i _=>bv (z i)
def Tm.cells (x:Tm):List DV :=
 [iv (x.I 0),iv (x.I 1),.sl false (rowsD x.gT x.gR) 1 x.gn,iv (x.I 3),iv (x.I 4),.sl false (rowsD x.oT x.oR) 1 x.on,
  iv (x.I 6),iv (x.I 7),bv (x.B 8),iv (x.I 9),iv (x.I 10),bv (x.B 11),iv (x.I 12),iv (x.I 13),iv (x.I 14),bv (x.B 15),kv .u8 (x.I 16),kv .u8 (x.I 17),iv (x.I 18),
  iv (x.I 19),iv (x.I 20),iv (x.I 21),bv (x.B 22),bv (x.B 23),bv (x.B 24),bv (x.B 25),bv (x.B 26),bv (x.B 27),bv (x.B 28),bv (x.B 29),kv .u8 (x.I 30),kv .u8 (x.I 31),iv (x.I 32),
  iv (x.I 33),iv (x.I 34),.sl false (tabsD x.tb) 1 x.tn,.sl false (rowsD x.bT x.bR) 1 x.bn,iv (x.I 37),sv (x.S 38),sv (x.S 39),sv (x.S 40),sv (x.S 41)]
def rowsOk (R:Nat→Row) (n:Nat):Prop:=n≤9000000∧∀ i,i<n→(R i).sized
def Tm.ok (x:Tm):Prop:=rowsOk x.gR x.gn∧rowsOk x.oR x.on∧rowsOk x.bR x.bn∧x.tn≤9000000∧(x.S 40).size≤9000000∧(x.S 41).size≤9000000
theorem Tm.clo (x:Tm):∀ d∈x.cells,Clo d:=fun d hd=>by
 simp only [Tm.cells,List.mem_cons,List.not_mem_nil,or_false] at hd
 repeat (first | (rcases hd with rfl | hd; first | exact Clo.v _ | exact Clo.sl _ _ _ _) | (subst hd; exact Clo.v _))
theorem isRow_of {T:Bool}{r:Row}(h:r.sized):isRow (.sl T r.cell 5 r.n):=⟨rfl,Row.ok h⟩
def backF (R:Nat→Row):Nat→Nat→Bool
 | 0,_=>true
 | m+1,i=>bif check7 (R i) != 0 then false else backF R m (i+1)
def be (b:Bool):Ex:=match b with
 | true=>.exit 0
 | false=>.ret
def bo (v:Bool) (b:Bool):List DV:=match b with
 | true=>[.any]
 | false=>[bv v]
theorem b_cps {b v:Bool}{σ:DHeap}{k:Ex→List DV→DHeap→Option Unit}(h:(bif holds (b=true) then k (.exit 0) [.any] σ else k .ret [bv v] σ)=some ()):k (be b) (bo v b) σ=some ():=by
 rcases bif_some h with ⟨h1,h2⟩ | ⟨h1,h2⟩
 ·rw [holds_eq.1 h1]; exact h2
 ·cases b with
  | true=>rw [holds_eq.2 rfl] at h1; cases h1
  | false=>exact h2
noncomputable def ppI (x:Tm):LInv Nat where
 pre i:=i≤x.bn
 m:=1
 n:=131
 ps:=[1,3]
 sd i:=[.po 0 0 0,iv (i:Int)]
 sh _:=[some ⟨42,.lst [x.cells]⟩]
 meas i:=x.bn-i
 e i:=be (backF x.bR (x.bn-i) i)
 qs:=[2]
 od i:=bo false (backF x.bR (x.bn-i) i)
 oh _:=[none]
 guess _ _:=some 0
 cps i k:=bif holds (backF x.bR (x.bn-i) i=true) then k (.exit 0) [.any] [none] else k .ret [bv false] [none]
theorem pp_loop (F:Row→Int) (x:Tm) (i:Nat) (K:Ex→Nat→List DV→List DV→DHeap→Option Unit):execD Tryz.prog (env [(46,rcC F)] noLp 0) (loopAt Tryz.f17 506) 500 (temps 131 [1,3] [.po 0 0 0,iv i]) [some ⟨42,.lst [x.cells]⟩] (fun e τ σ=>K e τ.length (pick [1,3] τ) (pick [2] τ) σ) =
  bif decide ((i:Int)<(x.bn:Int)) then bif decide ((i:Int)<(x.bn:Int)) then bif decide (tN i<x.bn) then bif holds (Nat.le (Row.n (x.bR (tN i))) 9000000∧∀ (i_1:Nat),i_1<Row.n (x.bR (tN i))→sv (Row.tx (x.bR (tN i)) i_1)=sv (strD (sv (Row.tx (x.bR (tN i)) i_1)))∧Nat.le (ByteArray.size (strD (sv (Row.tx (x.bR (tN i)) i_1)))) 9000000∧iv (Row.wd (x.bR (tN i)) i_1)=iv (numD (iv (Row.wd (x.bR (tN i)) i_1)))∧iv (Row.fo (x.bR (tN i)) i_1)=iv (numD (iv (Row.fo (x.bR (tN i)) i_1)))∧iv (Row.ba (x.bR (tN i)) i_1)=iv (numD (iv (Row.ba (x.bR (tN i)) i_1)))∧iv (Row.fl (x.bR (tN i)) i_1)=iv (numD (iv (Row.fl (x.bR (tN i)) i_1))))
  then bif F { n:=Row.n (x.bR (tN i)),tx:=fun i_1=>strD (sv (Row.tx (x.bR (tN i)) i_1)),wd:=fun i_1=>numD (iv (Row.wd (x.bR (tN i)) i_1)),fo:=fun i_1=>numD (iv (Row.fo (x.bR (tN i)) i_1)),ba:=fun i_1=>numD (iv (Row.ba (x.bR (tN i)) i_1)),fl:=fun i_1=>numD (iv (Row.fl (x.bR (tN i)) i_1)) } != 0
  then K .ret 131 [.po 0 0 0,iv (i:Int)] [bv false] [some ⟨42,.lst [x.cells]⟩] else K .normal 131 [.po 0 0 0,iv (IntKind.wrap .i64 ((i:Int)+1))] [DV.any] [some ⟨42,.lst [x.cells]⟩] else none
  else none else none else K (.exit 0) 131 [.po 0 0 0,iv (i:Int)] [DV.any] [some ⟨42,.lst [x.cells]⟩]:=by
 kernel_rfl
theorem pp_ls {st:AE.Stat}(hx:Hx st) (x:Tm) (hok:x.ok):LoopS Tryz.prog st gl0 (.loop (loopAt Tryz.f17 506)) (ppI x).g:=by
 refine (ppI x).ok (E:=env [(46,rcC check7)] noLp 0) (p:=500) (tblD_env (l:=[(46,rcC check7)]) (fun x h=>?_)) (glOk st).1 (fun _ _ _ h=>nomatch h) (fun i k h=>b_cps h) fun i hi=>?_
 ·simp only [List.mem_cons,List.not_mem_nil,or_false] at h
  subst h
  exact rcC_ok hx
 have hi:i≤x.bn:=hi
 obtain ⟨hn,hR⟩:=hok.2.2.1
 refine (pp_loop check7 x i _).trans ?_
 simp only [Int.toNat_natCast,Nat.add_zero]
 refine dS (fun hlt=>?_) fun hge=>?_
 ·have hlt:i<x.bn:=by omega
  have e:x.bn-i=(x.bn-(i+1))+1:=by omega
  have hW:IntKind.i64.wrap ((i:Int)+1)=((i+1:Nat):Int):=by rw [W_in (by omega) (by omega)]; omega
  rw [hW]
  have hq:backF x.bR (x.bn-i) i=bif check7 (x.bR i) != 0 then false else backF x.bR (x.bn-(i+1)) (i+1):=by rw [e,backF]
  refine dT (by omega) (dT hlt (hT (Row.ok (hR i hlt)) (cS (fun h2=>?_) fun h2=>?_)))
  ·have h2:(check7 (x.bR i) != 0)=true:=h2
   rw [h2,cond_true] at hq
   refine LInv.ask_of ⟨rfl,?_,[],?_⟩
   ·simp only [ppI]; rw [hq]; rfl
   ·simp only [ppI]; rw [hq]; exact wkN (.cons (.v _) .nil)
  ·have h2:(check7 (x.bR i) != 0)=false:=h2
   rw [h2,cond_false] at hq
   refine LInv.ask_of ⟨rfl,i+1,⟨?_,?_,rfl,hlt⟩,?_,[],wkS x.clo (.cons (.po rfl) (.cons (.v _) .nil))⟩
   ·simp only [ppI]; rw [hq]
   ·simp only [ppI]; rw [hq]
   ·simp only [ppI]; omega
 ·have hr:backF x.bR (x.bn-i) i=true:=by
   have:x.bn-i=0:=by omega
   rw [this,backF]
  refine LInv.ask_of ⟨rfl,?_,[],?_⟩
  ·simp only [ppI]; rw [hr]; rfl
  ·simp only [ppI]; rw [hr]; exact wkN (.cons (.any _) .nil)
theorem ins_tree (r c:Int) (p:Bool) (w h:Int) (t:Bool) (G:Nat→Nat→DV) (n:Nat) (k:DV→Option Unit):bodyD Tryz.prog (env [] noLp 0) Tryz.f42 [.agg [iv r,iv c,bv p],.agg [iv w,iv h,.sl t G 1 n]] [] (fun d _=>k d) =
  bif decide (r ≥ 0) then bif decide (r<h) then bif decide (c ≥ 0) then bif decide (c<w) then bif !p then k (bv true) else k (bv (c==IntKind.wrap .i64 (w-1))) else k (bv false) else k (bv false)
  else k (bv false) else k (bv false):=by
 kernel_rfl
theorem rgt_tree (a b c:Int) (k:DV→Option Unit):bodyD Tryz.prog (env [] noLp 0) Tryz.f43 [.agg [iv a,iv b,iv c]] [] (fun d _=>k d) =
  bif decide (a<(-1:Int)) then k (iv 0) else bif decide (a > 255) then k (iv 0) else bif decide (b<(-1:Int)) then k (iv 0) else bif decide (b > 255) then k (iv 0) else bif decide (c<0) then k (iv 0)
  else bif decide (c > 255) then k (iv 0) else k (iv 1):=by
 kernel_rfl
theorem set_tree (a b c:Int) (k:DV→Option Unit):bodyD Tryz.prog (env [] noLp 0) Tryz.f44 [.agg [kv .u8 a,kv .u8 b],iv c] [] (fun d _=>k d) =
  bif a==66 then bif b==66 then bif c==0 then k (bv true) else k (bv (c==1)) else bif b==48 then bif c==0 then k (bv true) else k (bv (c==1)) else k (bv false) else bif a==48 then bif b==66
  then bif c==0 then k (bv true) else k (bv (c==1)) else bif b==48 then bif c==0 then k (bv true) else k (bv (c==1)) else k (bv false) else k (bv false):=by
 kernel_rfl
def insF (r c:Int) (p:Bool) (w h:Int):Bool:=decide (r ≥ 0)&&decide (r<h)&&decide (c ≥ 0)&&decide (c<w)&&(!p||c==IntKind.i64.wrap (w-1))
def rgtF (a b c:Int):Int:=bif decide (a < -1)||decide (a > 255)||decide (b < -1)||decide (b > 255)||decide (c<0)||decide (c > 255) then 0 else 1
def setF (a b c:Int):Bool:=(a==66||a==48)&&(b==66||b==48)&&(c==0||c==1)
theorem ins_true (r c:Int) (p:Bool) (w h:Int) (t:Bool) (G:Nat→Nat→DV) (n:Nat):bodyD Tryz.prog (env [] noLp 0) Tryz.f42 [.agg [iv r,iv c,bv p],.agg [iv w,iv h,.sl t G 1 n]] [] (fun d _=>isD (bv (insF r c p w h)) d)=some ():=by
 refine (ins_tree r c p w h t G n _).trans ?_
 unfold insF
 repeat' (first | exact isD_of (by simp [*]) | refine dS (fun h=>?_) (fun h=>?_) | refine cS (fun h=>?_) (fun h=>?_))
theorem rgt_true (a b c:Int):bodyD Tryz.prog (env [] noLp 0) Tryz.f43 [.agg [iv a,iv b,iv c]] [] (fun d _=>isD (iv (rgtF a b c)) d)=some ():=by
 refine (rgt_tree a b c _).trans ?_
 unfold rgtF
 repeat' (first | exact isD_of (by simp [*]) | refine dS (fun h=>?_) (fun h=>?_) | refine cS (fun h=>?_) (fun h=>?_))
theorem set_true (a b c:Int):bodyD Tryz.prog (env [] noLp 0) Tryz.f44 [.agg [kv .u8 a,kv .u8 b],iv c] [] (fun d _=>isD (bv (setF a b c)) d)=some ():=by
 refine (set_tree a b c _).trans ?_
 unfold setF
 repeat' (first | exact isD_of (by simp [*]) | refine dS (fun h=>?_) (fun h=>?_) | refine cS (fun h=>?_) (fun h=>?_))
noncomputable def isC (F:Int→Int→Bool→Int→Int→Bool):ConF:=fun args k=>match args with
 | [.agg [.v (.int .i64 r),.v (.int .i64 c),.v (.bool p)],.agg [.v (.int .i64 w),.v (.int .i64 h),.sl _ _ 1 _]]=>k (fun _=>(bv (F r c p w h),[]))
 | _=>none
noncomputable def riC (F:Int→Int→Int→Int):ConF:=fun args k=>match args with
 | [.agg [.v (.int .i64 a),.v (.int .i64 b),.v (.int .i64 c)]]=>k (fun _=>(iv (F a b c),[]))
 | _=>none
noncomputable def seC (F:Int→Int→Int→Bool):ConF:=fun args k=>match args with
 | [.agg [.v (.int .u8 a),.v (.int .u8 b)],.v (.int .i64 c)]=>k (fun _=>(bv (F a b c),[]))
 | _=>none
theorem isC_ok {st:AE.Stat}(hx:Hx st):ConOk Tryz.prog st 42 (isC insF):=by
 refine con_flat (mg:=[]) (l:=[]) (lp:=noLp) (n:=0) (glOk st) (fun _ h=>nomatch h) Tryz.func42 (by kernel_rfl) (by kernel_rfl) (hx 42 rfl) (fun _ _ _ h=>nomatch h) fun args k hk=>?_
 unfold isC at hk
 split at hk<;>first | (cases hk; done) | skip
 exact ⟨_,_,.self (.self .nil),v_clo _,hk,ins_true _ _ _ _ _ _ _ _⟩
theorem riC_ok {st:AE.Stat}(hx:Hx st):ConOk Tryz.prog st 43 (riC rgtF):=by
 refine con_flat (mg:=[]) (l:=[]) (lp:=noLp) (n:=0) (glOk st) (fun _ h=>nomatch h) Tryz.func43 (by kernel_rfl) (by kernel_rfl) (hx 43 rfl) (fun _ _ _ h=>nomatch h) fun args k hk=>?_
 unfold riC at hk
 split at hk<;>first | (cases hk; done) | skip
 exact ⟨_,_,.self .nil,v_clo _,hk,rgt_true _ _ _⟩
theorem seC_ok {st:AE.Stat}(hx:Hx st):ConOk Tryz.prog st 44 (seC setF):=by
 refine con_flat (mg:=[]) (l:=[]) (lp:=noLp) (n:=0) (glOk st) (fun _ h=>nomatch h) Tryz.func44 (by kernel_rfl) (by kernel_rfl) (hx 44 rfl) (fun _ _ _ h=>nomatch h) fun args k hk=>?_
 unfold seC at hk
 split at hk<;>first | (cases hk; done) | skip
 exact ⟨_,_,.self (.self .nil),v_clo _,hk,set_true _ _ _⟩
end Go.Proofs.YtigmkgampfbflaaGreatDoor
namespace Go.Proofs.YtigmkgampfbflaaGreatDoor
open Go Go.AE Go.DE Go.RowKit
noncomputable abbrev prL (A:Int→Int→(Nat→Row)→Nat→Int) (N:Int→Int→Bool→Int→Int→Bool) (Q:Int→Int→Int→Int) (U:Int→Int→Int→Bool) (V:ByteArray→Bool):List (FuncId×ConF):=[(41,gcC A),(42,isC N),(43,riC Q),(44,seC U),(45,vaG V)]
theorem pp_tree (A:Int→Int→(Nat→Row)→Nat→Int) (N:Int→Int→Bool→Int→Int→Bool) (Q:Int→Int→Int→Int) (U:Int→Int→Int→Bool) (V:ByteArray→Bool) (x:Tm) (k:DV→Option Unit):bodyD Tryz.prog (env (prL A N Q U V) (lpOf [(506,(ppI x).g)]) 0) Tryz.f17 [.agg x.cells] [] (fun d _=>k d) =
  bif holds (Nat.le x.gn 9000000∧∀ (i:Nat),i<x.gn→DV.sl (x.gT i) (Row.cell (x.gR i)) 5 (Row.n (x.gR i))=DV.sl (slT (.sl (x.gT i) (Row.cell (x.gR i)) 5 (Row.n (x.gR i)))) (slG (.sl (x.gT i) (Row.cell (x.gR i)) 5 (Row.n (x.gR i)))) 5 (slN (.sl (x.gT i) (Row.cell (x.gR i)) 5 (Row.n (x.gR i))))∧Nat.le (slN (.sl (x.gT i) (Row.cell (x.gR i)) 5 (Row.n (x.gR i)))) 9000000∧∀ (i_1:Nat),i_1<slN (.sl (x.gT i) (Row.cell (x.gR i)) 5 (Row.n (x.gR i)))→sv (Row.tx (x.gR i) i_1)=sv (strD (sv (Row.tx (x.gR i) i_1)))∧Nat.le (ByteArray.size (strD (sv (Row.tx (x.gR i) i_1)))) 9000000∧iv (Row.wd (x.gR i) i_1)=iv (numD (iv (Row.wd (x.gR i) i_1)))∧iv (Row.fo (x.gR i) i_1)=iv (numD (iv (Row.fo (x.gR i) i_1)))∧iv (Row.ba (x.gR i) i_1)=iv (numD (iv (Row.ba (x.gR i) i_1)))∧iv (Row.fl (x.gR i) i_1)=iv (numD (iv (Row.fl (x.gR i) i_1))))
  then bif A (x.I 0) (x.I 1) (fun i=>{ n:=slN (.sl (x.gT i) (Row.cell (x.gR i)) 5 (Row.n (x.gR i))),tx:=fun j=>strD (sv (Row.tx (x.gR i) j)),wd:=fun j=>numD (iv (Row.wd (x.gR i) j)),fo:=fun j=>numD (iv (Row.fo (x.gR i) j)),ba:=fun j=>numD (iv (Row.ba (x.gR i) j)),fl:=fun j=>numD (iv (Row.fl (x.gR i) j)) }) x.gn != 0
  then k (bv false) else bif holds (Nat.le x.on 9000000∧∀ (i:Nat),i<x.on→DV.sl (x.oT i) (Row.cell (x.oR i)) 5 (Row.n (x.oR i))=DV.sl (slT (.sl (x.oT i) (Row.cell (x.oR i)) 5 (Row.n (x.oR i)))) (slG (.sl (x.oT i) (Row.cell (x.oR i)) 5 (Row.n (x.oR i)))) 5 (slN (.sl (x.oT i) (Row.cell (x.oR i)) 5 (Row.n (x.oR i))))∧Nat.le (slN (.sl (x.oT i) (Row.cell (x.oR i)) 5 (Row.n (x.oR i)))) 9000000∧∀ (i_1:Nat),i_1<slN (.sl (x.oT i) (Row.cell (x.oR i)) 5 (Row.n (x.oR i)))→sv (Row.tx (x.oR i) i_1)=sv (strD (sv (Row.tx (x.oR i) i_1)))∧Nat.le (ByteArray.size (strD (sv (Row.tx (x.oR i) i_1)))) 9000000∧iv (Row.wd (x.oR i) i_1)=iv (numD (iv (Row.wd (x.oR i) i_1)))∧iv (Row.fo (x.oR i) i_1)=iv (numD (iv (Row.fo (x.oR i) i_1)))∧iv (Row.ba (x.oR i) i_1)=iv (numD (iv (Row.ba (x.oR i) i_1)))∧iv (Row.fl (x.oR i) i_1)=iv (numD (iv (Row.fl (x.oR i) i_1))))
  then bif A (x.I 3) (x.I 4) (fun i=>{ n:=slN (.sl (x.oT i) (Row.cell (x.oR i)) 5 (Row.n (x.oR i))),tx:=fun j=>strD (sv (Row.tx (x.oR i) j)),wd:=fun j=>numD (iv (Row.wd (x.oR i) j)),fo:=fun j=>numD (iv (Row.fo (x.oR i) j)),ba:=fun j=>numD (iv (Row.ba (x.oR i) j)),fl:=fun j=>numD (iv (Row.fl (x.oR i) j)) }) x.on != 0
  then k (bv false) else bif x.I 0 != x.I 3 then k (bv false) else bif x.I 1 != x.I 4 then k (bv false) else bif !N (x.I 6) (x.I 7) (x.B 8) (x.I 0) (x.I 1) then k (bv false) else bif !N (x.I 9) (x.I 10) (x.B 11) (x.I 0) (x.I 1)
  then k (bv false) else bif Q (x.I 19) (x.I 20) (x.I 21)==0 then k (bv false) else bif Q (x.I 12) (x.I 13) (x.I 14)==0 then k (bv false) else bif !U (x.I 30) (x.I 31) (x.I 32) then k (bv false)
  else bif !U (x.I 16) (x.I 17) (x.I 18) then k (bv false) else bif decide (x.I 33<0) then k (bv false) else bif decide (x.I 33 ≥ x.I 34) then k (bv false) else bif decide (x.I 34 > x.I 1) then k (bv false)
  else bif (x.tn:Int) != x.I 0 then k (bv false) else bif decide ((x.bn:Int) > 500) then k (bv false) else bif decide (ByteArray.size (x.S 40)≤9000000) then bif !V (x.S 40) then k (bv false) else
  bif holds (Nat.le 0 x.bn∧∃ ids,WkP (LInv.m (ppI x)) ids [.po 0 0 0,iv 0] [some ⟨42,.lst [x.cells]⟩] [.po 0 0 0,iv 0] [some ⟨42,.lst [x.cells]⟩]) then bif holds (backF x.bR (x.bn-0) 0=true)
  then k (bv true) else k (bv false) else none else none else none else none:=by
 kernel_rfl
def properF (x:Tm):Bool :=
 bif check8 (x.I 0) (x.I 1) x.gR x.gn != 0 then false else
 bif check8 (x.I 3) (x.I 4) x.oR x.on != 0 then false else
 bif x.I 0 != x.I 3 then false else
 bif x.I 1 != x.I 4 then false else
 bif !insF (x.I 6) (x.I 7) (x.B 8) (x.I 0) (x.I 1) then false else
 bif !insF (x.I 9) (x.I 10) (x.B 11) (x.I 0) (x.I 1) then false else
 bif rgtF (x.I 19) (x.I 20) (x.I 21)==0 then false else
 bif rgtF (x.I 12) (x.I 13) (x.I 14)==0 then false else
 bif !setF (x.I 30) (x.I 31) (x.I 32) then false else
 bif !setF (x.I 16) (x.I 17) (x.I 18) then false else
 bif decide (x.I 33<0) then false else
 bif decide (x.I 33 ≥ x.I 34) then false else
 bif decide (x.I 34 > x.I 1) then false else
 bif (x.tn:Int) != x.I 0 then false else
 bif decide ((x.bn:Int) > 500) then false else
 bif !validF (x.S 40) then false else
 backF x.bR x.bn 0
theorem pp_true (x:Tm) (hok:x.ok):bodyD Tryz.prog (env (prL check8 insF rgtF setF validF) (lpOf [(506,(ppI x).g)]) 0) Tryz.f17 [.agg x.cells] [] (fun d _=>isD (bv (properF x)) d)=some ():=by
 refine (pp_tree check8 insF rgtF setF validF x _).trans ?_
 unfold properF
 refine hT ⟨hok.1.1,fun i hi=>isRow_of (hok.1.2 i hi)⟩ ?_
 refine cS (fun h=>isD_of ?_) fun h=>?_
 ·have h:(check8 (x.I 0) (x.I 1) x.gR x.gn != 0)=true:=h
  rw [h]; rfl
 have h0:(check8 (x.I 0) (x.I 1) x.gR x.gn != 0)=false:=h
 rw [h0,cond_false]
 clear h
 refine hT ⟨hok.2.1.1,fun i hi=>isRow_of (hok.2.1.2 i hi)⟩ ?_
 refine cS (fun h=>isD_of ?_) fun h=>?_
 ·have h:(check8 (x.I 3) (x.I 4) x.oR x.on != 0)=true:=h
  rw [h]; rfl
 have h1:(check8 (x.I 3) (x.I 4) x.oR x.on != 0)=false:=h
 rw [h1,cond_false]
 clear h
 refine cS (fun h=>isD_of ?_) fun h=>?_
 ·have h:(x.I 0 != x.I 3)=true:=h
  rw [h]; rfl
 have h2:(x.I 0 != x.I 3)=false:=h
 rw [h2,cond_false]
 clear h
 refine cS (fun h=>isD_of ?_) fun h=>?_
 ·have h:(x.I 1 != x.I 4)=true:=h
  rw [h]; rfl
 have h3:(x.I 1 != x.I 4)=false:=h
 rw [h3,cond_false]
 clear h
 refine cS (fun h=>isD_of ?_) fun h=>?_
 ·have h:(!insF (x.I 6) (x.I 7) (x.B 8) (x.I 0) (x.I 1))=true:=h
  rw [h]; rfl
 have h4:(!insF (x.I 6) (x.I 7) (x.B 8) (x.I 0) (x.I 1))=false:=h
 rw [h4,cond_false]
 clear h
 refine cS (fun h=>isD_of ?_) fun h=>?_
 ·have h:(!insF (x.I 9) (x.I 10) (x.B 11) (x.I 0) (x.I 1))=true:=h
  rw [h]; rfl
 have h5:(!insF (x.I 9) (x.I 10) (x.B 11) (x.I 0) (x.I 1))=false:=h
 rw [h5,cond_false]
 clear h
 refine cS (fun h=>isD_of ?_) fun h=>?_
 ·have h:(rgtF (x.I 19) (x.I 20) (x.I 21)==0)=true:=h
  rw [h]; rfl
 have h6:(rgtF (x.I 19) (x.I 20) (x.I 21)==0)=false:=h
 rw [h6,cond_false]
 clear h
 refine cS (fun h=>isD_of ?_) fun h=>?_
 ·have h:(rgtF (x.I 12) (x.I 13) (x.I 14)==0)=true:=h
  rw [h]; rfl
 have h7:(rgtF (x.I 12) (x.I 13) (x.I 14)==0)=false:=h
 rw [h7,cond_false]
 clear h
 refine cS (fun h=>isD_of ?_) fun h=>?_
 ·have h:(!setF (x.I 30) (x.I 31) (x.I 32))=true:=h
  rw [h]; rfl
 have h8:(!setF (x.I 30) (x.I 31) (x.I 32))=false:=h
 rw [h8,cond_false]
 clear h
 refine cS (fun h=>isD_of ?_) fun h=>?_
 ·have h:(!setF (x.I 16) (x.I 17) (x.I 18))=true:=h
  rw [h]; rfl
 have h9:(!setF (x.I 16) (x.I 17) (x.I 18))=false:=h
 rw [h9,cond_false]
 clear h
 refine dS (fun h=>isD_of ?_) fun h10=>?_
 ·rw [decide_eq_true h]; rfl
 rw [decide_eq_false h10,cond_false]
 refine dS (fun h=>isD_of ?_) fun h11=>?_
 ·rw [decide_eq_true h]; rfl
 rw [decide_eq_false h11,cond_false]
 refine dS (fun h=>isD_of ?_) fun h12=>?_
 ·rw [decide_eq_true h]; rfl
 rw [decide_eq_false h12,cond_false]
 refine cS (fun h=>isD_of ?_) fun h=>?_
 ·have h:((x.tn:Int) != x.I 0)=true:=h
  rw [h]; rfl
 have h13:((x.tn:Int) != x.I 0)=false:=h
 rw [h13,cond_false]
 clear h
 refine dS (fun h=>isD_of ?_) fun h14=>?_
 ·rw [decide_eq_true h]; rfl
 rw [decide_eq_false h14,cond_false]
 refine dT hok.2.2.2.2.1 ?_
 refine cS (fun h=>isD_of ?_) fun h=>?_
 ·have h:(!validF (x.S 40))=true:=h
  rw [h]; rfl
 have h15:(!validF (x.S 40))=false:=h
 rw [h15,cond_false]
 clear h
 refine hT ⟨Nat.zero_le _,[],wkS x.clo (.cons (.po rfl) (.cons (.v _) .nil))⟩ ?_
 cases hb:backF x.bR x.bn 0 with
 | true=>exact hT rfl (isD_of rfl)
 | false=>exact hF (by decide) (isD_of rfl)
def longF (R:Nat→Row):Nat→Nat→Bool
 | 0,_=>true
 | m+1,i=>bif decide (((R i).n:Int) > 200) then false else longF R m (i+1)
noncomputable def gtI (x:Tm) (R:Nat→Row) (n tv ex:Nat):LInv Nat where
 pre i:=i≤n
 m:=1
 n:=112
 ps:=[1,tv]
 sd i:=[.po 0 0 0,iv (i:Int)]
 sh _:=[some ⟨42,.lst [x.cells]⟩]
 meas i:=n-i
 e i:=match longF R (n-i) i with
  | true=>.exit ex
  | false=>.ret
 qs:=[1,2]
 od i:=match longF R (n-i) i with
  | true=>[.po 0 0 0,.any]
  | false=>[.any,bv true]
 oh i:=match longF R (n-i) i with
  | true=>[some ⟨42,.lst [x.cells]⟩]
  | false=>[none]
 guess _ _:=some 0
 cps i k:=bif holds (longF R (n-i) i=true) then k (.exit ex) [.po 0 0 0,.any] [some ⟨42,.lst [x.cells]⟩] else k .ret [.any,bv true] [none]
theorem gt_cps {x:Tm}{R:Nat→Row}{n tv ex i:Nat}{k:Ex→List DV→DHeap→Option Unit}(h:(gtI x R n tv ex).cps i k=some ()):k ((gtI x R n tv ex).e i) ((gtI x R n tv ex).od i) ((gtI x R n tv ex).oh i)=some ():=by
 simp only [gtI] at h ⊢
 rcases bif_some h with ⟨h1,h2⟩ | ⟨h1,h2⟩
 ·rw [holds_eq.1 h1]; exact h2
 ·have h1:longF R (n-i) i=false:=by
   cases hb:longF R (n-i) i with
   | true=>rw [hb,holds_eq.2 rfl] at h1; cases h1
   | false=>rfl
  rw [h1]; exact h2
theorem gt_loop58 (x:Tm) (i:Nat) (K:Ex→Nat→List DV→List DV→DHeap→Option Unit):execD Tryz.prog (env [] noLp 0) (loopAt Tryz.f10 58) 500 (temps 112 [1,3] [.po 0 0 0,iv i]) [some ⟨42,.lst [x.cells]⟩] (fun e τ σ=>K e τ.length (pick [1,3] τ) (pick [1,2] τ) σ) =
  bif decide ((i:Int)<(x.bn:Int)) then bif decide ((i:Int)<(x.bn:Int)) then bif decide (tN i<x.bn) then bif decide ((↑(Row.n (x.bR (tN i))):Int) > 200) then K .ret 112 [.po 0 0 0,iv (i:Int)] [.po 0 0 0,bv true] [some ⟨42,.lst [x.cells]⟩]
  else K .normal 112 [.po 0 0 0,iv (IntKind.wrap .i64 ((i:Int)+1))] [.po 0 0 0,DV.any] [some ⟨42,.lst [x.cells]⟩] else none else none else K (.exit 0) 112 [.po 0 0 0,iv (i:Int)] [.po 0 0 0,DV.any] [some ⟨42,.lst [x.cells]⟩]:=by
 kernel_rfl
theorem gt_ls58 {st:AE.Stat}(x:Tm) (hn:x.bn≤9000000):LoopS Tryz.prog st gl0 (.loop (loopAt Tryz.f10 58)) (gtI x x.bR x.bn 3 0).g:=by
 refine (gtI x x.bR x.bn 3 0).ok (E:=env [] noLp 0) (p:=500) (tblD_env (l:=[]) fun _ h=>nomatch h) (glOk st).1 (fun _ _ _ h=>nomatch h) (fun i k h=>gt_cps h) fun i hi=>?_
 have hi:i≤x.bn:=hi
 refine (gt_loop58 x i _).trans ?_
 simp only [Int.toNat_natCast,Nat.add_zero]
 refine dS (fun hlt=>?_) fun hge=>?_
 ·have hlt:i<x.bn:=by omega
  have e:x.bn-i=(x.bn-(i+1))+1:=by omega
  have hW:IntKind.i64.wrap ((i:Int)+1)=((i+1:Nat):Int):=by rw [W_in (by omega) (by omega)]; omega
  rw [hW]
  have hq:longF x.bR (x.bn-i) i=bif decide (((x.bR i).n:Int) > 200) then false else longF x.bR (x.bn-(i+1)) (i+1):=by rw [e,longF]
  refine dT (by omega) (dT hlt (dS (fun h2=>?_) fun h2=>?_))
  ·rw [decide_eq_true h2,cond_true] at hq
   refine LInv.ask_of ⟨rfl,?_,[],?_⟩
   ·simp only [gtI]; rw [hq]
   ·simp only [gtI]; rw [hq]; exact wkN (.cons (.any _) (.cons (.v _) .nil))
  ·rw [decide_eq_false h2,cond_false] at hq
   refine LInv.ask_of ⟨rfl,i+1,⟨?_,?_,?_,hlt⟩,?_,[],wkS x.clo (.cons (.po rfl) (.cons (.v _) .nil))⟩
   ·simp only [gtI]; rw [hq]
   ·simp only [gtI]; rw [hq]
   ·simp only [gtI]; rw [hq]
   ·simp only [gtI]; omega
 ·have hr:longF x.bR (x.bn-i) i=true:=by
   have:x.bn-i=0:=by omega
   rw [this,longF]
  refine LInv.ask_of ⟨rfl,?_,[],?_⟩
  ·simp only [gtI]; rw [hr]
  ·simp only [gtI]; rw [hr]; exact wkS x.clo (.cons (.po rfl) (.cons (.any _) .nil))
theorem gt_loop122 (x:Tm) (i:Nat) (K:Ex→Nat→List DV→List DV→DHeap→Option Unit):execD Tryz.prog (env [] noLp 0) (loopAt Tryz.f10 122) 500 (temps 112 [1,4] [.po 0 0 0,iv i]) [some ⟨42,.lst [x.cells]⟩] (fun e τ σ=>K e τ.length (pick [1,4] τ) (pick [1,2] τ) σ) =
  bif decide ((i:Int)<(x.gn:Int)) then bif decide ((i:Int)<(x.gn:Int)) then bif decide (tN i<x.gn) then bif decide ((↑(Row.n (x.gR (tN i))):Int) > 200) then K .ret 112 [.po 0 0 0,iv (i:Int)] [.po 0 0 0,bv true] [some ⟨42,.lst [x.cells]⟩]
  else K .normal 112 [.po 0 0 0,iv (IntKind.wrap .i64 ((i:Int)+1))] [.po 0 0 0,DV.any] [some ⟨42,.lst [x.cells]⟩] else none else none else K (.exit 2) 112 [.po 0 0 0,iv (i:Int)] [.po 0 0 0,DV.any] [some ⟨42,.lst [x.cells]⟩]:=by
 kernel_rfl
theorem gt_ls122 {st:AE.Stat}(x:Tm) (hn:x.gn≤9000000):LoopS Tryz.prog st gl0 (.loop (loopAt Tryz.f10 122)) (gtI x x.gR x.gn 4 2).g:=by
 refine (gtI x x.gR x.gn 4 2).ok (E:=env [] noLp 0) (p:=500) (tblD_env (l:=[]) fun _ h=>nomatch h) (glOk st).1 (fun _ _ _ h=>nomatch h) (fun i k h=>gt_cps h) fun i hi=>?_
 have hi:i≤x.gn:=hi
 refine (gt_loop122 x i _).trans ?_
 simp only [Int.toNat_natCast,Nat.add_zero]
 refine dS (fun hlt=>?_) fun hge=>?_
 ·have hlt:i<x.gn:=by omega
  have e:x.gn-i=(x.gn-(i+1))+1:=by omega
  have hW:IntKind.i64.wrap ((i:Int)+1)=((i+1:Nat):Int):=by rw [W_in (by omega) (by omega)]; omega
  rw [hW]
  have hq:longF x.gR (x.gn-i) i=bif decide (((x.gR i).n:Int) > 200) then false else longF x.gR (x.gn-(i+1)) (i+1):=by rw [e,longF]
  refine dT (by omega) (dT hlt (dS (fun h2=>?_) fun h2=>?_))
  ·rw [decide_eq_true h2,cond_true] at hq
   refine LInv.ask_of ⟨rfl,?_,[],?_⟩
   ·simp only [gtI]; rw [hq]
   ·simp only [gtI]; rw [hq]; exact wkN (.cons (.any _) (.cons (.v _) .nil))
  ·rw [decide_eq_false h2,cond_false] at hq
   refine LInv.ask_of ⟨rfl,i+1,⟨?_,?_,?_,hlt⟩,?_,[],wkS x.clo (.cons (.po rfl) (.cons (.v _) .nil))⟩
   ·simp only [gtI]; rw [hq]
   ·simp only [gtI]; rw [hq]
   ·simp only [gtI]; rw [hq]
   ·simp only [gtI]; omega
 ·have hr:longF x.gR (x.gn-i) i=true:=by
   have:x.gn-i=0:=by omega
   rw [this,longF]
  refine LInv.ask_of ⟨rfl,?_,[],?_⟩
  ·simp only [gtI]; rw [hr]
  ·simp only [gtI]; rw [hr]; exact wkS x.clo (.cons (.po rfl) (.cons (.any _) .nil))
theorem gt_loop250 (x:Tm) (i:Nat) (K:Ex→Nat→List DV→List DV→DHeap→Option Unit):execD Tryz.prog (env [] noLp 0) (loopAt Tryz.f10 250) 500 (temps 112 [1,5] [.po 0 0 0,iv i]) [some ⟨42,.lst [x.cells]⟩] (fun e τ σ=>K e τ.length (pick [1,5] τ) (pick [1,2] τ) σ) =
  bif decide ((i:Int)<(x.on:Int)) then bif decide ((i:Int)<(x.on:Int)) then bif decide (tN i<x.on) then bif decide ((↑(Row.n (x.oR (tN i))):Int) > 200) then K .ret 112 [.po 0 0 0,iv (i:Int)] [.po 0 0 0,bv true] [some ⟨42,.lst [x.cells]⟩]
  else K .normal 112 [.po 0 0 0,iv (IntKind.wrap .i64 ((i:Int)+1))] [.po 0 0 0,DV.any] [some ⟨42,.lst [x.cells]⟩] else none else none else K (.exit 4) 112 [.po 0 0 0,iv (i:Int)] [.po 0 0 0,DV.any] [some ⟨42,.lst [x.cells]⟩]:=by
 kernel_rfl
theorem gt_ls250 {st:AE.Stat}(x:Tm) (hn:x.on≤9000000):LoopS Tryz.prog st gl0 (.loop (loopAt Tryz.f10 250)) (gtI x x.oR x.on 5 4).g:=by
 refine (gtI x x.oR x.on 5 4).ok (E:=env [] noLp 0) (p:=500) (tblD_env (l:=[]) fun _ h=>nomatch h) (glOk st).1 (fun _ _ _ h=>nomatch h) (fun i k h=>gt_cps h) fun i hi=>?_
 have hi:i≤x.on:=hi
 refine (gt_loop250 x i _).trans ?_
 simp only [Int.toNat_natCast,Nat.add_zero]
 refine dS (fun hlt=>?_) fun hge=>?_
 ·have hlt:i<x.on:=by omega
  have e:x.on-i=(x.on-(i+1))+1:=by omega
  have hW:IntKind.i64.wrap ((i:Int)+1)=((i+1:Nat):Int):=by rw [W_in (by omega) (by omega)]; omega
  rw [hW]
  have hq:longF x.oR (x.on-i) i=bif decide (((x.oR i).n:Int) > 200) then false else longF x.oR (x.on-(i+1)) (i+1):=by rw [e,longF]
  refine dT (by omega) (dT hlt (dS (fun h2=>?_) fun h2=>?_))
  ·rw [decide_eq_true h2,cond_true] at hq
   refine LInv.ask_of ⟨rfl,?_,[],?_⟩
   ·simp only [gtI]; rw [hq]
   ·simp only [gtI]; rw [hq]; exact wkN (.cons (.any _) (.cons (.v _) .nil))
  ·rw [decide_eq_false h2,cond_false] at hq
   refine LInv.ask_of ⟨rfl,i+1,⟨?_,?_,?_,hlt⟩,?_,[],wkS x.clo (.cons (.po rfl) (.cons (.v _) .nil))⟩
   ·simp only [gtI]; rw [hq]
   ·simp only [gtI]; rw [hq]
   ·simp only [gtI]; rw [hq]
   ·simp only [gtI]; omega
 ·have hr:longF x.oR (x.on-i) i=true:=by
   have:x.on-i=0:=by omega
   rw [this,longF]
  refine LInv.ask_of ⟨rfl,?_,[],?_⟩
  ·simp only [gtI]; rw [hr]
  ·simp only [gtI]; rw [hr]; exact wkS x.clo (.cons (.po rfl) (.cons (.any _) .nil))
theorem gt_tree (x:Tm) (k:DV→Option Unit):bodyD Tryz.prog (env [] (lpOf [(58,(gtI x x.bR x.bn 3 0).g),(122,(gtI x x.gR x.gn 4 2).g),(250,(gtI x x.oR x.on 5 4).g)]) 0) Tryz.f10 [.agg x.cells] [] (fun d _=>k d) =
  bif decide (x.I 0 > 20) then k (bv true) else bif decide (x.I 1 > 8) then k (bv true) else bif decide (x.I 3 > 20) then k (bv true) else bif decide (x.I 4 > 8) then k (bv true) else bif decide ((x.gn:Int) > 8)
  then k (bv true) else bif decide ((x.on:Int) > 8) then k (bv true) else bif decide ((x.bn:Int) > 30) then k (bv true) else bif decide ((x.tn:Int) > 200) then k (bv true) else bif decide ((↑(ByteArray.size (x.S 40)):Int) > 300)
  then k (bv true) else bif decide ((↑(ByteArray.size (x.S 41)):Int) > 1100) then k (bv true) else bif holds (Nat.le 0 x.bn∧∃ ids,WkP (LInv.m (gtI x x.bR x.bn 3 0)) ids [.po 0 0 0,iv 0] [some ⟨42,.lst [x.cells]⟩] [.po 0 0 0,iv 0] [some ⟨42,.lst [x.cells]⟩])
  then bif holds (longF x.bR (x.bn-0) 0=true) then bif holds (Nat.le 0 x.gn∧∃ ids,WkP (LInv.m (gtI x x.gR x.gn 4 2)) ids [.po 0 0 0,iv 0] [some ⟨42,.lst [x.cells]⟩] [.po 0 0 0,iv 0] [some ⟨42,.lst [x.cells]⟩])
  then bif holds (longF x.gR (x.gn-0) 0=true) then bif holds (Nat.le 0 x.on∧∃ ids,WkP (LInv.m (gtI x x.oR x.on 5 4)) ids [.po 0 0 0,iv 0] [some ⟨42,.lst [x.cells]⟩] [.po 0 0 0,iv 0] [some ⟨42,.lst [x.cells]⟩])
  then bif holds (longF x.oR (x.on-0) 0=true) then k (bv false) else k (bv true) else none else k (bv true) else none else k (bv true) else none:=by
 kernel_rfl
def greatF (x:Tm):Bool :=
 bif decide (x.I 0 > 20) then true else
 bif decide (x.I 1 > 8) then true else
 bif decide (x.I 3 > 20) then true else
 bif decide (x.I 4 > 8) then true else
 bif decide ((x.gn:Int) > 8) then true else
 bif decide ((x.on:Int) > 8) then true else
 bif decide ((x.bn:Int) > 30) then true else
 bif decide ((x.tn:Int) > 200) then true else
 bif decide (((x.S 40).size:Int) > 300) then true else
 bif decide (((x.S 41).size:Int) > 1100) then true else
 bif longF x.bR x.bn 0 then (bif longF x.gR x.gn 0 then (bif longF x.oR x.on 0 then false else true) else true) else true
theorem gt_true (x:Tm):bodyD Tryz.prog (env [] (lpOf [(58,(gtI x x.bR x.bn 3 0).g),(122,(gtI x x.gR x.gn 4 2).g),(250,(gtI x x.oR x.on 5 4).g)]) 0) Tryz.f10 [.agg x.cells] [] (fun d _=>isD (bv (greatF x)) d)=some ():=by
 refine (gt_tree x _).trans ?_
 unfold greatF
 refine dS (fun h=>isD_of ?_) fun h0=>?_
 ·rw [decide_eq_true h]; rfl
 rw [decide_eq_false h0,cond_false]
 refine dS (fun h=>isD_of ?_) fun h1=>?_
 ·rw [decide_eq_true h]; rfl
 rw [decide_eq_false h1,cond_false]
 refine dS (fun h=>isD_of ?_) fun h2=>?_
 ·rw [decide_eq_true h]; rfl
 rw [decide_eq_false h2,cond_false]
 refine dS (fun h=>isD_of ?_) fun h3=>?_
 ·rw [decide_eq_true h]; rfl
 rw [decide_eq_false h3,cond_false]
 refine dS (fun h=>isD_of ?_) fun h4=>?_
 ·rw [decide_eq_true h]; rfl
 rw [decide_eq_false h4,cond_false]
 refine dS (fun h=>isD_of ?_) fun h5=>?_
 ·rw [decide_eq_true h]; rfl
 rw [decide_eq_false h5,cond_false]
 refine dS (fun h=>isD_of ?_) fun h6=>?_
 ·rw [decide_eq_true h]; rfl
 rw [decide_eq_false h6,cond_false]
 refine dS (fun h=>isD_of ?_) fun h7=>?_
 ·rw [decide_eq_true h]; rfl
 rw [decide_eq_false h7,cond_false]
 refine dS (fun h=>isD_of ?_) fun h8=>?_
 ·rw [decide_eq_true h]; rfl
 rw [decide_eq_false h8,cond_false]
 refine dS (fun h=>isD_of ?_) fun h9=>?_
 ·rw [decide_eq_true h]; rfl
 rw [decide_eq_false h9,cond_false]
 refine hT ⟨Nat.zero_le _,[],wkS x.clo (.cons (.po rfl) (.cons (.v _) .nil))⟩ ?_
 cases hb:longF x.bR x.bn 0 with
 | false=>exact hF (by decide) (isD_of rfl)
 | true =>
 refine hT rfl ?_
 refine hT ⟨Nat.zero_le _,[],wkS x.clo (.cons (.po rfl) (.cons (.v _) .nil))⟩ ?_
 cases hg:longF x.gR x.gn 0 with
 | false=>exact hF (by decide) (isD_of rfl)
 | true =>
 refine hT rfl ?_
 refine hT ⟨Nat.zero_le _,[],wkS x.clo (.cons (.po rfl) (.cons (.v _) .nil))⟩ ?_
 cases ho:longF x.oR x.on 0 with
 | false=>exact hF (by decide) (isD_of rfl)
 | true =>
 refine hT rfl ?_
 exact isD_of rfl
noncomputable def tmC (x:Tm) (b:Bool):ConF:=fun args k=>match args with
 | [.agg l]=>bif holds (l=x.cells) then k (fun _=>(bv b,[])) else none
 | _=>none
theorem ppC_ok {st:AE.Stat}(hx:Hx st) (x:Tm) (hok:x.ok):ConOk Tryz.prog st 17 (tmC x (properF x)):=by
 refine con_flat (mg:=[]) (l:=prL check8 insF rgtF setF validF) (lp:=lpOf [(506,(ppI x).g)]) (n:=0) (glOk st) (fun x h=>?_) Tryz.func17 (by kernel_rfl) (by kernel_rfl) (hx 17 rfl) (lp_one (by kernel_rfl) (pp_ls hx x hok)) fun args k hk=>?_
 ·simp only [prL,List.mem_cons,List.not_mem_nil,or_false] at h
  rcases h with rfl | rfl | rfl | rfl | rfl
  ·exact gcC_ok hx
  ·exact isC_ok hx
  ·exact riC_ok hx
  ·exact seC_ok hx
  ·exact vaC_ok hx
 unfold tmC at hk
 split at hk<;>first | (cases hk; done) | skip
 obtain ⟨hb,hk2⟩:=bif_none hk
 obtain rfl:=holds_eq.1 hb
 exact ⟨_,_,.self .nil,v_clo _,hk2,pp_true x hok⟩
theorem gtC_ok {st:AE.Stat}(hx:Hx st) (x:Tm) (hok:x.ok):ConOk Tryz.prog st 10 (tmC x (greatF x)):=by
 refine con_flat (mg:=[]) (l:=[]) (lp:=lpOf [(58,(gtI x x.bR x.bn 3 0).g),(122,(gtI x x.gR x.gn 4 2).g),(250,(gtI x x.oR x.on 5 4).g)]) (n:=0) (glOk st) (fun _ h=>nomatch h) Tryz.func10 (by kernel_rfl) (by kernel_rfl) (hx 10 rfl) (lp_table fun e he=>?_) fun args k hk=>?_
 ·simp only [List.mem_cons,List.not_mem_nil,or_false] at he
  rcases he with rfl | rfl | rfl
  ·exact ⟨_,by kernel_rfl,gt_ls58 x hok.2.2.1.1⟩
  ·exact ⟨_,by kernel_rfl,gt_ls122 x hok.1.1⟩
  ·exact ⟨_,by kernel_rfl,gt_ls250 x hok.2.1.1⟩
 unfold tmC at hk
 split at hk<;>first | (cases hk; done) | skip
 obtain ⟨hb,hk2⟩:=bif_none hk
 obtain rfl:=holds_eq.1 hb
 exact ⟨_,_,.self .nil,v_clo _,hk2,gt_true x⟩
end Go.Proofs.YtigmkgampfbflaaGreatDoor
