/-
 The contracts of the reference's comparisons,of terminals that are the same.
 Conditions: none beyond those of the contracts.
-/
import Derived.Test.YtigmkgampfbflaaGreatDoorJPrp
namespace Go.Proofs.YtigmkgampfbflaaGreatDoor
open Go Go.AE Go.DE Go.RowKit
theorem ba_eq {a b:ByteArray}:(a==b)=true ↔ a=b:=by
 constructor
 ·intro h
  have h:(a.data==b.data)=true:=h
  exact ByteArray.ext (beq_iff_eq.1 h)
 ·rintro rfl
  show (a.data==a.data)=true
  exact beq_self_eq_true _
theorem s7_loop (t u:Bool) (r:Row) (i:Nat) (K:Ex→Nat→List DV→List DV→Option Unit):execD Tryz.prog (env [] noLp 0) (loopAt Tryz.f87 58) 500 (temps 26 [0,1,5] [.sl t r.cell 5 r.n,.sl u r.cell 5 r.n,iv i]) [] (fun e τ _=>K e τ.length (pick [0,1,5] τ) (pick [] τ)) =
  bif decide ((i:Int)<(r.n:Int)) then bif decide ((i:Int)<(r.n:Int)) then bif decide (tN i<r.n) then bif decide (tN i<r.n) then bif decide (tN i<r.n) then bif decide (tN i<r.n) then
  bif decide (tN i<r.n) then bif decide ((i:Int)<(r.n:Int)) then bif decide (tN i<r.n) then bif decide (tN i<r.n) then bif decide (tN i<r.n) then bif decide (tN i<r.n) then bif decide (tN i<r.n)
  then bif bif bif r.tx (tN i)==r.tx (tN i) then bif r.wd (tN i)==r.wd (tN i) then bif bif r.fo (tN i)==r.fo (tN i) then bif r.ba (tN i)==r.ba (tN i) then bif r.fl (tN i)==r.fl (tN i) then true
  else false else false else false then true else false else false else false then false else true then K .ret 26 [.sl t r.cell 5 r.n,.sl u r.cell 5 r.n,iv (i:Int)] [] else K .normal 26 [.sl t r.cell 5 r.n,.sl u r.cell 5 r.n,iv (IntKind.wrap .i64 ((i:Int)+1))] []
  else none else none else none else none else none else none else none else none else none else none else none else none else K (.exit 0) 26 [.sl t r.cell 5 r.n,.sl u r.cell 5 r.n,iv (i:Int)] []:=by
 kernel_rfl
structure ZS7 where
 t:Bool
 u:Bool
 r:Row
 i:Nat
noncomputable def s7I:LInv ZS7 where
 pre x:=x.i≤x.r.n∧x.r.n≤9000000
 m:=0
 n:=26
 ps:=[0,1,5]
 sd x:=[.sl x.t x.r.cell 5 x.r.n,.sl x.u x.r.cell 5 x.r.n,iv x.i]
 sh _:=[]
 meas x:=x.r.n-x.i
 e _:=.exit 0
 qs:=[]
 od _:=[]
 oh _:=[]
 guess ds _:=match ds with
  | [.sl t g 5 n,.sl u _ _ _,_]=>some ⟨t,u,rowOf g n,0⟩
  | _=>none
 cps _ k:=k (.exit 0) [] []
theorem s7_ls {st:AE.Stat}:LoopS Tryz.prog st gl0 (.loop (loopAt Tryz.f87 58)) s7I.g:=by
 refine s7I.ok (E:=env [] noLp 0) (p:=500) (tblD_env (l:=[]) fun _ h=>nomatch h) (glOk st).1 (fun _ _ _ h=>nomatch h) (fun x k h=>h) fun x hx=>?_
 obtain ⟨t,u,r,i⟩:=x
 obtain ⟨hi,hn⟩:i≤r.n∧r.n≤9000000:=hx
 have ea:(fun e τ σ=>s7I.ask ⟨t,u,r,i⟩ e τ.length (pick [0,1,5] τ) (pick [] τ) σ:KD Unit)=fun e τ _=>s7I.ask ⟨t,u,r,i⟩ e τ.length (pick [0,1,5] τ) (pick [] τ) []:=by
  funext e τ σ
  exact ask_any rfl (fun _=>rfl) fun _=>rfl
 refine (congrArg (execD Tryz.prog (env [] noLp 0) (loopAt Tryz.f87 58) 500 (temps 26 [0,1,5] [.sl t r.cell 5 r.n,.sl u r.cell 5 r.n,iv i]) []) ea).trans ?_
 refine (s7_loop t u r i fun e n ds es=>s7I.ask ⟨t,u,r,i⟩ e n ds es []).trans ?_
 simp only [Int.toNat_natCast,Nat.add_zero]
 refine dS (fun hlt=>?_) fun hge=>?_
 ·have hlt:i<r.n:=by omega
  have hW:IntKind.i64.wrap ((i:Int)+1)=((i+1:Nat):Int):=by rw [W_in (by omega) (by omega)]; omega
  rw [hW]
  have go:s7I.ask ⟨t,u,r,i⟩ .normal 26 [.sl t r.cell 5 r.n,.sl u r.cell 5 r.n,iv ((i+1:Nat):Int)] [] []=some ():=LInv.ask_of ⟨rfl,⟨t,u,r,i+1⟩,⟨rfl,rfl,rfl,hlt,hn⟩,by simp only [s7I]; omega,[],wk0 (.cons (.sl _ _ _ _) (.cons (.sl _ _ _ _) (.cons (.v _) .nil))) rfl⟩
  have b1:(r.tx i==r.tx i)=true:=ba_eq.2 rfl
  simp only [b1,beq_self_eq_true,cond_true,Bool.not_true,cond_false,bne_self_eq_false]
  repeat (first | exact go | refine dT (by omega) ?_ | refine dT hlt ?_)
 ·exact LInv.ask_of ⟨rfl,rfl,[],wk0 .nil rfl⟩
theorem s7_tree (t u:Bool) (r:Row) (k:DV→Option Unit):bodyD Tryz.prog (env [] (lpOf [(58,s7I.g)]) 0) Tryz.f87 [.sl t r.cell 5 r.n,.sl u r.cell 5 r.n] [] (fun d _=>k d) =
  bif (r.n:Int) != (r.n:Int) then k (bv false) else bif holds ((Nat.le 0 (Row.n (rowOf r.cell r.n))∧Nat.le (Row.n (rowOf r.cell r.n)) 9000000)∧∃ ids,WkP 0 ids [.sl t r.cell 5 r.n,.sl u r.cell 5 r.n,iv 0] [] [.sl t (Row.cell (rowOf r.cell r.n)) 5 (Row.n (rowOf r.cell r.n)),.sl u (Row.cell (rowOf r.cell r.n)) 5 (Row.n (rowOf r.cell r.n)),iv 0] (LInv.sh s7I { t:=t,u:=u,r:=rowOf r.cell r.n,i:=0 }))
  then k (bv true) else none:=by
 kernel_rfl
theorem Cv.tr {a b c:DV}(h:Cv a b) (h2:Cv b c):Cv a c:=fun C μ v hv=>h2 C μ v (h C μ v hv)
def cellsSame (g h:Nat→Nat→DV) (n:Nat):Prop:=cellsOk g n∧∀ i,i<n→∀ f,f<5→h i f=g i f
theorem cellsSame.cv {g h:Nat→Nat→DV}{n:Nat}(e:cellsSame g h n) (u:Bool):Cv (.sl u h 5 n) (.sl u (rowOf g n).cell 5 n):=Cv.tr (Cv.sl fun i f hi hf=>.of (e.2 i hi f hf)) (e.1.cv u)
noncomputable def s7C (Q:(Nat→Nat→DV)→(Nat→Nat→DV)→Nat→Prop):ConF:=fun args k=>match args with
 | [.sl _ g 5 n,.sl _ h 5 m]=>bif holds (Q g h n∧n=m) then k (fun _=>(bv true,[])) else none
 | _=>none
theorem s7C_ok {st:AE.Stat}(hx:Hx st):ConOk Tryz.prog st 87 (s7C cellsSame):=by
 refine con_flat (mg:=[]) (l:=[]) (lp:=lpOf [(58,s7I.g)]) (n:=0) (glOk st) (fun _ h=>nomatch h) Tryz.func87 (by kernel_rfl) (by kernel_rfl) (hx 87 rfl) (lp_one (by kernel_rfl) s7_ls) fun args k hk=>?_
 unfold s7C at hk
 split at hk<;>first | (cases hk; done) | skip
 rename_i t g n u h m
 obtain ⟨h0,hk2⟩:=bif_none hk
 obtain ⟨hb,e2⟩:=holds_eq.1 h0
 clear hk h0
 subst e2
 refine ⟨[.sl t (rowOf g n).cell 5 n,.sl u (rowOf g n).cell 5 n],_,.cons (hb.1.cv t) (.cons (hb.cv u) .nil),v_clo _,hk2,(s7_tree t u (rowOf g n) _).trans (cF (bne_self_eq_false _) (hT ⟨⟨Nat.zero_le _,hb.1.1⟩,[],wk0 (.cons (.sl _ _ _ _) (.cons (.sl _ _ _ _) (.cons (.v _) .nil))) rfl⟩ (isD_of rfl)))⟩
theorem s8_loop (Q:(Nat→Nat→DV)→(Nat→Nat→DV)→Nat→Prop) (t u:Bool) (T U:Nat→Bool) (R:Nat→Row) (n i:Nat) (K:Ex→Nat→List DV→List DV→DHeap→Option Unit):execD Tryz.prog (env [(87,s7C Q)] noLp 0) (loopAt Tryz.f40 58) 500 (temps 27 [0,1,5] [.sl t (rowsD T R) 1 n,.sl u (rowsD U R) 1 n,iv i]) [] (fun e τ σ=>K e τ.length (pick [0,1,5] τ) (pick [] τ) σ) =
  bif decide ((i:Int)<(n:Int)) then bif decide ((i:Int)<(n:Int)) then bif decide (tN i<n) then bif decide ((i:Int)<(n:Int)) then bif decide (tN i<n) then bif holds (Q (Row.cell (R (tN i))) (Row.cell (R (tN i))) (Row.n (R (tN i)))∧Row.n (R (tN i))=Row.n (R (tN i)))
  then K .normal 27 [.sl t (fun a a_1=>DV.sl (T a) (Row.cell (R a)) 5 (Row.n (R a))) 1 n,.sl u (fun a a_1=>DV.sl (U a) (Row.cell (R a)) 5 (Row.n (R a))) 1 n,iv (IntKind.wrap .i64 ((i:Int)+1))] [] []
  else none else none else none else none else none else K (.exit 0) 27 [.sl t (fun a a_1=>DV.sl (T a) (Row.cell (R a)) 5 (Row.n (R a))) 1 n,.sl u (fun a a_1=>DV.sl (U a) (Row.cell (R a)) 5 (Row.n (R a))) 1 n,iv (i:Int)] [] []:=by
 kernel_rfl
theorem s9_loop (t u:Bool) (z:Nat→Bool) (n i:Nat) (K:Ex→Nat→List DV→List DV→DHeap→Option Unit):execD Tryz.prog (env [] noLp 0) (loopAt Tryz.f39 58) 500 (temps 26 [0,1,5] [.sl t (tabsD z) 1 n,.sl u (tabsD z) 1 n,iv i]) [] (fun e τ σ=>K e τ.length (pick [0,1,5] τ) (pick [] τ) σ) =
  bif decide ((i:Int)<(n:Int)) then bif decide ((i:Int)<(n:Int)) then bif decide (tN i<n) then bif decide ((i:Int)<(n:Int)) then bif decide (tN i<n) then bif !z (tN i)==z (tN i)
  then K .ret 26 [.sl t (fun a a_1=>bv (z a)) 1 n,.sl u (fun a a_1=>bv (z a)) 1 n,iv (i:Int)] [] [] else K .normal 26 [.sl t (fun a a_1=>bv (z a)) 1 n,.sl u (fun a a_1=>bv (z a)) 1 n,iv (IntKind.wrap .i64 ((i:Int)+1))] [] []
  else none else none else none else none else K (.exit 0) 26 [.sl t (fun a a_1=>bv (z a)) 1 n,.sl u (fun a a_1=>bv (z a)) 1 n,iv (i:Int)] [] []:=by
 kernel_rfl
structure ZS8 where
 t:Bool
 u:Bool
 T:Nat→Bool
 U:Nat→Bool
 R:Nat→Row
 n:Nat
 i:Nat
noncomputable def s8I:LInv ZS8 where
 pre x:=x.i≤x.n∧rowsOk x.R x.n
 m:=0
 n:=27
 ps:=[0,1,5]
 sd x:=[.sl x.t (rowsD x.T x.R) 1 x.n,.sl x.u (rowsD x.U x.R) 1 x.n,iv x.i]
 sh _:=[]
 meas x:=x.n-x.i
 e _:=.exit 0
 qs:=[]
 od _:=[]
 oh _:=[]
 guess ds _:=match ds with
  | [.sl t g 1 n,.sl u h _ _,_]=>some ⟨t,u,fun i=>slT (g i 0),fun i=>slT (h i 0),fun i=>rowD (g i 0),n,0⟩
  | _=>none
 cps _ k:=k (.exit 0) [] []
theorem s8_ls {st:AE.Stat}(hx:Hx st):LoopS Tryz.prog st gl0 (.loop (loopAt Tryz.f40 58)) s8I.g:=by
 refine s8I.ok (E:=env [(87,s7C cellsSame)] noLp 0) (p:=500) (tblD_env (l:=[(87,s7C cellsSame)]) fun x h=>?_) (glOk st).1 (fun _ _ _ h=>nomatch h) (fun x k h=>h) fun x hx2=>?_
 ·simp only [List.mem_cons,List.not_mem_nil,or_false] at h
  subst h
  exact s7C_ok hx
 obtain ⟨t,u,T,U,R,n,i⟩:=x
 obtain ⟨hi,hR⟩:i≤n∧rowsOk R n:=hx2
 have hn:=hR.1
 refine (s8_loop cellsSame t u T U R n i _).trans ?_
 simp only [Int.toNat_natCast,Nat.add_zero]
 refine dS (fun hlt=>?_) fun hge=>?_
 ·have hlt:i<n:=by omega
  have hW:IntKind.i64.wrap ((i:Int)+1)=((i+1:Nat):Int):=by rw [W_in (by omega) (by omega)]; omega
  rw [hW]
  refine dT (by omega) (dT hlt (dT (by omega) (dT hlt (hT ⟨⟨Row.ok (hR.2 i hlt),fun _ _ _ _=>rfl⟩,trivial⟩ ?_))))
  exact LInv.ask_of ⟨rfl,⟨t,u,T,U,R,n,i+1⟩,⟨rfl,rfl,rfl,hlt,hR⟩,by simp only [s8I]; omega,[],wk0 (.cons (.sl _ _ _ _) (.cons (.sl _ _ _ _) (.cons (.v _) .nil))) rfl⟩
 ·exact LInv.ask_of ⟨rfl,rfl,[],wk0 .nil rfl⟩
theorem s8_tree (t u:Bool) (T U:Nat→Bool) (R:Nat→Row) (n:Nat) (k:DV→Option Unit):bodyD Tryz.prog (env [] (lpOf [(58,s8I.g)]) 0) Tryz.f40 [.sl t (rowsD T R) 1 n,.sl u (rowsD U R) 1 n] [] (fun d _=>k d) =
  bif (n:Int) != (n:Int) then k (bv false) else bif holds ((Nat.le 0 n∧Nat.le n 9000000∧∀ (i:Nat),i<n→Nat.le (Row.n ((fun i=>rowD (.sl (T i) (Row.cell (R i)) 5 (Row.n (R i)))) i)) 9000000∧∀ (i_1:Nat),i_1<Row.n ((fun i=>rowD (.sl (T i) (Row.cell (R i)) 5 (Row.n (R i)))) i)→Nat.le (ByteArray.size (Row.tx ((fun i=>rowD (.sl (T i) (Row.cell (R i)) 5 (Row.n (R i)))) i) i_1)) 9000000)∧∃ ids,WkP 0 ids [.sl t (fun a a_1=>DV.sl (T a) (Row.cell (R a)) 5 (Row.n (R a))) 1 n,.sl u (fun a a_1=>DV.sl (U a) (Row.cell (R a)) 5 (Row.n (R a))) 1 n,iv 0] [] [.sl t (fun a a_1=>DV.sl ((fun i=>slT (.sl (T i) (Row.cell (R i)) 5 (Row.n (R i)))) a) (Row.cell ((fun i=>rowD (.sl (T i) (Row.cell (R i)) 5 (Row.n (R i)))) a)) 5 (Row.n ((fun i=>rowD (.sl (T i) (Row.cell (R i)) 5 (Row.n (R i)))) a))) 1 n,.sl u (fun a a_1=>DV.sl ((fun i=>slT (.sl (U i) (Row.cell (R i)) 5 (Row.n (R i)))) a) (Row.cell ((fun i=>rowD (.sl (T i) (Row.cell (R i)) 5 (Row.n (R i)))) a)) 5 (Row.n ((fun i=>rowD (.sl (T i) (Row.cell (R i)) 5 (Row.n (R i)))) a))) 1 n,iv 0] (LInv.sh s8I { t:=t,u:=u,T:=fun i=>slT (.sl (T i) (Row.cell (R i)) 5 (Row.n (R i))),U:=fun i=>slT (.sl (U i) (Row.cell (R i)) 5 (Row.n (R i))),R:=fun i=>rowD (.sl (T i) (Row.cell (R i)) 5 (Row.n (R i))),n:=n,i:=0 }))
  then k (bv true) else none:=by
 kernel_rfl
def rowsSo (G:Nat→Nat→DV) (n:Nat):Prop:=n≤9000000∧∀ i,i<n→isRow (G i 0)
def rowsSame (G H:Nat→Nat→DV) (n:Nat):Prop:=rowsSo G n∧∀ i,i<n→isRow (H i 0)∧slN (H i 0)=slN (G i 0)∧∀ j,j<slN (G i 0)→∀ f,f<5→slG (H i 0) j f=slG (G i 0) j f
theorem rowsSame.cv {G H:Nat→Nat→DV}{n:Nat}(h:rowsSame G H n) (u:Bool):Cv (.sl u H 1 n) (.sl u (rowsD (fun i=>slT (H i 0)) fun i=>rowD (G i 0)) 1 n):=Cv.sl fun i f hi hf=>by
 obtain rfl:f=0:=by omega
 obtain ⟨h1,h2,h3⟩:=h.2 i hi
 obtain ⟨g1,g2⟩:=h.1.2 i hi
 refine Cv.tr (.of h1.1) ?_
 rw [h2]
 exact cellsSame.cv (g:=slG (G i 0)) ⟨g2,h3⟩ _
noncomputable def s8C (Q:(Nat→Nat→DV)→(Nat→Nat→DV)→Nat→Prop):ConF:=fun args k=>match args with
 | [.sl _ G 1 n,.sl _ H 1 m]=>bif holds (Q G H n∧n=m) then k (fun _=>(bv true,[])) else none
 | _=>none
theorem s8C_ok {st:AE.Stat}(hx:Hx st):ConOk Tryz.prog st 40 (s8C rowsSame):=by
 refine con_flat (mg:=[]) (l:=[]) (lp:=lpOf [(58,s8I.g)]) (n:=0) (glOk st) (fun _ h=>nomatch h) Tryz.func40 (by kernel_rfl) (by kernel_rfl) (hx 40 rfl) (lp_one (by kernel_rfl) (s8_ls hx)) fun args k hk=>?_
 unfold s8C at hk
 split at hk<;>first | (cases hk; done) | skip
 rename_i t G n u H m
 obtain ⟨h0,hk2⟩:=bif_none hk
 obtain ⟨hb,e2⟩:=holds_eq.1 h0
 clear hk h0
 subst e2
 refine ⟨[.sl t (rowsD (fun i=>slT (G i 0)) fun i=>rowD (G i 0)) 1 n,.sl u (rowsD (fun i=>slT (H i 0)) fun i=>rowD (G i 0)) 1 n],_,.cons (rows_cv hb.1.2) (.cons (hb.cv u) .nil),v_clo _,hk2,(s8_tree t u _ _ _ n _).trans (cF (bne_self_eq_false _) (hT ⟨⟨Nat.zero_le _,hb.1.1,fun i hi=>(hb.1.2 i hi).2.row⟩,[],wk0 (.cons (.sl _ _ _ _) (.cons (.sl _ _ _ _) (.cons (.v _) .nil))) rfl⟩ (isD_of rfl)))⟩
structure ZS9 where
 t:Bool
 u:Bool
 z:Nat→Bool
 n:Nat
 i:Nat
noncomputable def s9I:LInv ZS9 where
 pre x:=x.i≤x.n∧x.n≤9000000
 m:=0
 n:=26
 ps:=[0,1,5]
 sd x:=[.sl x.t (tabsD x.z) 1 x.n,.sl x.u (tabsD x.z) 1 x.n,iv x.i]
 sh _:=[]
 meas x:=x.n-x.i
 e _:=.exit 0
 qs:=[]
 od _:=[]
 oh _:=[]
 guess ds _:=match ds with
  | [.sl t g 1 n,.sl u _ _ _,_]=>some ⟨t,u,fun i=>boolD (g i 0),n,0⟩
  | _=>none
 cps _ k:=k (.exit 0) [] []
theorem s9_ls {st:AE.Stat}:LoopS Tryz.prog st gl0 (.loop (loopAt Tryz.f39 58)) s9I.g:=by
 refine s9I.ok (E:=env [] noLp 0) (p:=500) (tblD_env (l:=[]) fun _ h=>nomatch h) (glOk st).1 (fun _ _ _ h=>nomatch h) (fun x k h=>h) fun x hx2=>?_
 obtain ⟨t,u,z,n,i⟩:=x
 obtain ⟨hi,hn⟩:i≤n∧n≤9000000:=hx2
 refine (s9_loop t u z n i _).trans ?_
 simp only [Int.toNat_natCast,Nat.add_zero]
 refine dS (fun hlt=>?_) fun hge=>?_
 ·have hlt:i<n:=by omega
  have hW:IntKind.i64.wrap ((i:Int)+1)=((i+1:Nat):Int):=by rw [W_in (by omega) (by omega)]; omega
  rw [hW]
  refine dT (by omega) (dT hlt (dT (by omega) (dT hlt (cF (by simp) ?_))))
  exact LInv.ask_of ⟨rfl,⟨t,u,z,n,i+1⟩,⟨rfl,rfl,rfl,hlt,hn⟩,by simp only [s9I]; omega,[],wk0 (.cons (.sl _ _ _ _) (.cons (.sl _ _ _ _) (.cons (.v _) .nil))) rfl⟩
 ·exact LInv.ask_of ⟨rfl,rfl,[],wk0 .nil rfl⟩
theorem s9_tree (t u:Bool) (z:Nat→Bool) (n:Nat) (k:DV→Option Unit):bodyD Tryz.prog (env [] (lpOf [(58,s9I.g)]) 0) Tryz.f39 [.sl t (tabsD z) 1 n,.sl u (tabsD z) 1 n] [] (fun d _=>k d) =
  bif (n:Int) != (n:Int) then k (bv false) else bif holds ((Nat.le 0 n∧Nat.le n 9000000)∧∃ ids,WkP 0 ids [.sl t (fun a a_1=>bv (z a)) 1 n,.sl u (fun a a_1=>bv (z a)) 1 n,iv 0] [] [.sl t (fun a a_1=>bv ((fun i=>boolD (bv (z i))) a)) 1 n,.sl u (fun a a_1=>bv ((fun i=>boolD (bv (z i))) a)) 1 n,iv 0] (LInv.sh s9I { t:=t,u:=u,z:=fun i=>boolD (bv (z i)),n:=n,i:=0 }))
  then k (bv true) else none:=by
 kernel_rfl
def tabsSame (G H:Nat→Nat→DV) (n:Nat):Prop:=tabsSo G n∧∀ i,i<n→H i 0=G i 0
theorem s9C_ok {st:AE.Stat}(hx:Hx st):ConOk Tryz.prog st 39 (s8C tabsSame):=by
 refine con_flat (mg:=[]) (l:=[]) (lp:=lpOf [(58,s9I.g)]) (n:=0) (glOk st) (fun _ h=>nomatch h) Tryz.func39 (by kernel_rfl) (by kernel_rfl) (hx 39 rfl) (lp_one (by kernel_rfl) s9_ls) fun args k hk=>?_
 unfold s8C at hk
 split at hk<;>first | (cases hk; done) | skip
 rename_i t G n u H m
 obtain ⟨h0,hk2⟩:=bif_none hk
 obtain ⟨hb,e2⟩:=holds_eq.1 h0
 clear hk h0
 subst e2
 have hc:Cv (.sl u H 1 n) (.sl u (tabsD fun i=>boolD (G i 0)) 1 n):=Cv.sl fun i f hi hf=>.of (by obtain rfl:f=0:=(by omega); exact (hb.2 i hi).trans (hb.1.2 i hi))
 exact ⟨[.sl t (tabsD fun i=>boolD (G i 0)) 1 n,.sl u (tabsD fun i=>boolD (G i 0)) 1 n],_,.cons (hb.1.cv t) (.cons hc .nil),v_clo _,hk2,(s9_tree t u _ n _).trans (cF (bne_self_eq_false _) (hT ⟨⟨Nat.zero_le _,hb.1.1⟩,[],wk0 (.cons (.sl _ _ _ _) (.cons (.sl _ _ _ _) (.cons (.v _) .nil))) rfl⟩ (isD_of rfl)))⟩
theorem s6_tree (Q:(Nat→Nat→DV)→(Nat→Nat→DV)→Nat→Prop) (w h:Int) (t u:Bool) (G H:Nat→Nat→DV) (n:Nat) (k:DV→Option Unit):bodyD Tryz.prog (env [(40,s8C Q)] noLp 0) Tryz.f38 [.agg [iv w,iv h,.sl t G 1 n],.agg [iv w,iv h,.sl u H 1 n]] [] (fun d _=>k d) =
  bif w==w then bif h==h then bif holds (Q G H n∧n=n) then k (bv true) else none else k (bv false) else k (bv false):=by
 kernel_rfl
noncomputable def s6C (Q:(Nat→Nat→DV)→(Nat→Nat→DV)→Nat→Prop):ConF:=fun args k=>match args with
 | [.agg [.v (.int .i64 w),.v (.int .i64 h),.sl _ G 1 n],.agg [.v (.int .i64 w'),.v (.int .i64 h'),.sl _ H 1 m]]=>bif holds (Q G H n∧w=w'∧h=h'∧n=m) then k (fun _=>(bv true,[])) else none
 | _=>none
theorem s6C_ok {st:AE.Stat}(hx:Hx st):ConOk Tryz.prog st 38 (s6C rowsSame):=by
 refine con_flat (mg:=[]) (l:=[(40,s8C rowsSame)]) (lp:=noLp) (n:=0) (glOk st) (fun x h=>?_) Tryz.func38 (by kernel_rfl) (by kernel_rfl) (hx 38 rfl) (fun _ _ _ h=>nomatch h) fun args k hk=>?_
 ·simp only [List.mem_cons,List.not_mem_nil,or_false] at h
  subst h
  exact s8C_ok hx
 unfold s6C at hk
 split at hk<;>first | (cases hk; done) | skip
 rename_i w h t G n w' h' u H m
 obtain ⟨h0,hk2⟩:=bif_none hk
 obtain ⟨hb,e1,e2,e5⟩:=holds_eq.1 h0
 clear hk h0
 subst e1
 subst e2
 subst e5
 exact ⟨[.agg [iv w,iv h,.sl t G 1 n],.agg [iv w,iv h,.sl u H 1 n]],_,.self (.self .nil),v_clo _,hk2,(s6_tree rowsSame w h t u G H n _).trans (cT (beq_self_eq_true _) (cT (beq_self_eq_true _) (hT ⟨hb,rfl⟩ (isD_of rfl))))⟩
noncomputable def nnC:ConF:=fun args k=>match args with
 | [.v (.slice none 0 0),.v (.slice none 0 0)]=>k (fun _=>(bv true,[]))
 | _=>none
noncomputable def gzC:ConF:=fun args k=>match args with
 | [.agg [.v (.int .i64 0),.v (.int .i64 0),.v (.slice none 0 0)],.agg [.v (.int .i64 0),.v (.int .i64 0),.v (.slice none 0 0)]]=>k (fun _=>(bv true,[]))
 | _=>none
def Tm.alt (x y:Tm):Tm:=⟨x.I,x.B,x.S,y.gT,y.gR,x.gn,y.oT,y.oR,x.on,y.tb,x.tn,y.bT,y.bR,x.bn⟩
theorem sm_tree (Q Q2:(Nat→Nat→DV)→(Nat→Nat→DV)→Nat→Prop) (x y:Tm) (k:DV→Option Unit):bodyD Tryz.prog (env [(38,s6C Q),(39,s8C Q2),(40,s8C Q)] noLp 0) Tryz.f16 [.agg x.cells,.agg (x.alt y).cells] [] (fun d _=>k d) =
  bif holds (Q (rowsD x.gT x.gR) (rowsD (Tm.gT (x.alt y)) (Tm.gR (x.alt y))) x.gn∧x.I 0=Tm.I (x.alt y) 0∧x.I 1=Tm.I (x.alt y) 1∧x.gn=Tm.gn (x.alt y)) then bif holds (Q (rowsD x.oT x.oR) (rowsD (Tm.oT (x.alt y)) (Tm.oR (x.alt y))) x.on∧x.I 3=Tm.I (x.alt y) 3∧x.I 4=Tm.I (x.alt y) 4∧x.on=Tm.on (x.alt y))
  then bif !bif x.I 6==Tm.I (x.alt y) 6 then bif x.I 7==Tm.I (x.alt y) 7 then bif x.B 8==Tm.B (x.alt y) 8 then true else false else false else false then k (bv false) else bif !bif bif x.I 9==Tm.I (x.alt y) 9
  then bif x.I 10==Tm.I (x.alt y) 10 then bif x.B 11==Tm.B (x.alt y) 11 then true else false else false else false then bif bif x.I 12==Tm.I (x.alt y) 12 then bif x.I 13==Tm.I (x.alt y) 13 then
  bif x.I 14==Tm.I (x.alt y) 14 then true else false else false else false then bif x.B 15==Tm.B (x.alt y) 15 then bif bif x.I 16==Tm.I (x.alt y) 16 then bif x.I 17==Tm.I (x.alt y) 17 then true
  else false else false then bif x.I 18==Tm.I (x.alt y) 18 then true else false else false else false else false else false then k (bv false) else bif !bif x.I 19==Tm.I (x.alt y) 19 then bif x.I 20==Tm.I (x.alt y) 20
  then bif x.I 21==Tm.I (x.alt y) 21 then true else false else false else false then k (bv false) else bif !bif x.B 22==Tm.B (x.alt y) 22 then bif x.B 23==Tm.B (x.alt y) 23 then bif x.B 24==Tm.B (x.alt y) 24
  then bif x.B 25==Tm.B (x.alt y) 25 then bif x.B 26==Tm.B (x.alt y) 26 then bif x.B 27==Tm.B (x.alt y) 27 then bif x.B 28==Tm.B (x.alt y) 28 then bif x.B 29==Tm.B (x.alt y) 29 then bif bif x.I 30==Tm.I (x.alt y) 30
  then bif x.I 31==Tm.I (x.alt y) 31 then true else false else false then bif x.I 32==Tm.I (x.alt y) 32 then true else false else false else false else false else false else false else false else false
  else false else false then k (bv false) else bif x.I 33==Tm.I (x.alt y) 33 then bif x.I 34==Tm.I (x.alt y) 34 then bif holds (Q2 (tabsD x.tb) (tabsD (Tm.tb (x.alt y))) x.tn∧x.tn=Tm.tn (x.alt y))
  then bif holds (Q (rowsD x.bT x.bR) (rowsD (Tm.bT (x.alt y)) (Tm.bR (x.alt y))) x.bn∧x.bn=Tm.bn (x.alt y)) then bif ByteArray.toList (x.S 40)==ByteArray.toList (Tm.S (x.alt y) 40) then k (bv (ByteArray.toList (x.S 41)==ByteArray.toList (Tm.S (x.alt y) 41)))
  else k (bv false) else none else none else k (bv false) else k (bv false) else none else none:=by
 kernel_rfl
theorem sn_tree (Q Q2:(Nat→Nat→DV)→(Nat→Nat→DV)→Nat→Prop) (w h:Int) (R:Int→Nat→Nat→DV) (T:Nat→Bool) (k:DV→Option Unit):bodyD Tryz.prog (env [(38,s6C Q),(39,s8C Q2),(40,nnC)] noLp 0) Tryz.f16 [.agg (newL w h R T),.agg (newL w h R T)] [] (fun d _=>k d) =
  bif holds (Q (R w) (R w) (Int.toNat h)∧w=w∧h=h∧Int.toNat h=Int.toNat h) then bif holds (Q (R w) (R w) (Int.toNat h)∧w=w∧h=h∧Int.toNat h=Int.toNat h) then bif h==h then bif holds (Q2 (tabsD T) (tabsD T) (Int.toNat w)∧Int.toNat w=Int.toNat w)
  then k (bv (ByteArray.toList { data:=#[] }==ByteArray.toList { data:=#[] })) else none else k (bv false) else none else none:=by
 kernel_rfl
theorem sz_tree (k:DV→Option Unit):bodyD Tryz.prog (env [(38,gzC),(39,nnC),(40,nnC)] noLp 0) Tryz.f16 [.agg zeroL,.agg zeroL] [] (fun d _=>k d) =
  k (bv (ByteArray.toList { data:=#[] }==ByteArray.toList { data:=#[] })):=by
 kernel_rfl
theorem n39_tree (k:DV→Option Unit):bodyD Tryz.prog (env [] noLp 2) Tryz.f39 [nilS,nilS] [] (fun d _=>k d) =
  k (bv true):=by
 kernel_rfl
theorem n40_tree (k:DV→Option Unit):bodyD Tryz.prog (env [] noLp 2) Tryz.f40 [nilS,nilS] [] (fun d _=>k d) =
  k (bv true):=by
 kernel_rfl
theorem n38_tree (k:DV→Option Unit):bodyD Tryz.prog (env [(40,nnC)] noLp 2) Tryz.f38 [.agg [iv 0,iv 0,nilS],.agg [iv 0,iv 0,nilS]] [] (fun d _=>k d) =
  k (bv true):=by
 kernel_rfl
theorem n39_ok {st:AE.Stat}(hx:Hx st):ConOk Tryz.prog st 39 nnC:=by
 refine con_flat (mg:=[]) (l:=[]) (lp:=noLp) (n:=2) (glOk st) (fun _ h=>nomatch h) Tryz.func39 (by kernel_rfl) (by kernel_rfl) (hx 39 rfl) (fun _ _ _ h=>nomatch h) fun args k hk=>?_
 unfold nnC at hk
 split at hk<;>first | (cases hk; done) | skip
 exact ⟨[nilS,nilS],_,.self (.self .nil),v_clo _,hk,(n39_tree _).trans (isD_of rfl)⟩
theorem n40_ok {st:AE.Stat}(hx:Hx st):ConOk Tryz.prog st 40 nnC:=by
 refine con_flat (mg:=[]) (l:=[]) (lp:=noLp) (n:=2) (glOk st) (fun _ h=>nomatch h) Tryz.func40 (by kernel_rfl) (by kernel_rfl) (hx 40 rfl) (fun _ _ _ h=>nomatch h) fun args k hk=>?_
 unfold nnC at hk
 split at hk<;>first | (cases hk; done) | skip
 exact ⟨[nilS,nilS],_,.self (.self .nil),v_clo _,hk,(n40_tree _).trans (isD_of rfl)⟩
theorem gzC_ok {st:AE.Stat}(hx:Hx st):ConOk Tryz.prog st 38 gzC:=by
 refine con_flat (mg:=[]) (l:=[(40,nnC)]) (lp:=noLp) (n:=2) (glOk st) (fun x h=>?_) Tryz.func38 (by kernel_rfl) (by kernel_rfl) (hx 38 rfl) (fun _ _ _ h=>nomatch h) fun args k hk=>?_
 ·simp only [List.mem_cons,List.not_mem_nil,or_false] at h
  subst h
  exact n40_ok hx
 unfold gzC at hk
 split at hk<;>first | (cases hk; done) | skip
 exact ⟨[.agg [iv 0,iv 0,nilS],.agg [iv 0,iv 0,nilS]],_,.self (.self .nil),v_clo _,hk,(n38_tree _).trans (isD_of rfl)⟩
def tmSame (l m:List DV):Prop:=tmOk l∧m=((tmOf l).alt (tmOf m)).cells∧rowsSame (rowsD (tmOf l).gT (tmOf l).gR) (rowsD (tmOf m).gT (tmOf m).gR) (tmOf l).gn∧rowsSame (rowsD (tmOf l).oT (tmOf l).oR) (rowsD (tmOf m).oT (tmOf m).oR) (tmOf l).on ∧
 rowsSame (rowsD (tmOf l).bT (tmOf l).bR) (rowsD (tmOf m).bT (tmOf m).bR) (tmOf l).bn∧tabsSame (tabsD (tmOf l).tb) (tabsD (tmOf m).tb) (tmOf l).tn
def newIs (l:List DV):Prop:=∃ w h:Int,1≤w∧w≤30∧1≤h∧h≤60∧l=newL w h rwD tab8
noncomputable def smC (Q:List DV→List DV→Prop):ConF:=fun args k=>match args with
 | [.agg l,.agg m]=>bif holds (Q l m) then k (fun _=>(bv true,[])) else none
 | _=>none
theorem blk_ok (w:Int) (hw:w≤30):cellsOk (blkB w) w.toNat:=⟨by omega,fun i _=>⟨rfl,by show (1:Nat)≤9000000; decide,rfl,rfl,rfl,rfl⟩⟩
theorem rwD_same {w h:Int}(hw:w≤30) (hh:h≤60):rowsSame (rwD w) (rwD w) h.toNat:=⟨⟨by omega,fun i _=>⟨rfl,blk_ok w hw⟩⟩,fun i _=>⟨⟨rfl,blk_ok w hw⟩,rfl,fun _ _ _ _=>rfl⟩⟩
theorem smT_ok {st:AE.Stat}(hx:Hx st):ConOk Tryz.prog st 16 (smC tmSame):=by
 refine con_flat (mg:=[]) (l:=[(38,s6C rowsSame),(39,s8C tabsSame),(40,s8C rowsSame)]) (lp:=noLp) (n:=0) (glOk st) (fun x h=>?_) Tryz.func16 (by kernel_rfl) (by kernel_rfl) (hx 16 rfl) (fun _ _ _ h=>nomatch h) fun args k hk=>?_
 ·simp only [List.mem_cons,List.not_mem_nil,or_false] at h
  rcases h with rfl | rfl | rfl
  ·exact s6C_ok hx
  ·exact s9C_ok hx
  ·exact s8C_ok hx
 unfold smC at hk
 split at hk<;>first | (cases hk; done) | skip
 rename_i l m
 obtain ⟨h0,hk2⟩:=bif_none hk
 obtain ⟨h1,h2,h3,h4,h5,h6⟩:=holds_eq.1 h0
 clear hk h0
 refine ⟨[.agg (tmOf l).cells,.agg ((tmOf l).alt (tmOf m)).cells],_,.cons (Cv.of (by rw [← h1.1])) (.cons (Cv.of (by rw [← h2])) .nil),v_clo _,hk2,(sm_tree rowsSame tabsSame (tmOf l) (tmOf m) _).trans ?_⟩
 simp only [Tm.alt,beq_self_eq_true,cond_true,Bool.not_true,cond_false]
 exact hT ⟨h3,trivial,trivial,trivial⟩ (hT ⟨h4,trivial,trivial,trivial⟩ (hT ⟨h6,trivial⟩ (hT ⟨h5,trivial⟩ (isD_of rfl))))
theorem smN_ok {st:AE.Stat}(hx:Hx st):ConOk Tryz.prog st 16 (smC fun l m=>newIs l∧m=l):=by
 refine con_flat (mg:=[]) (l:=[(38,s6C rowsSame),(39,s8C tabsSame),(40,nnC)]) (lp:=noLp) (n:=0) (glOk st) (fun x h=>?_) Tryz.func16 (by kernel_rfl) (by kernel_rfl) (hx 16 rfl) (fun _ _ _ h=>nomatch h) fun args k hk=>?_
 ·simp only [List.mem_cons,List.not_mem_nil,or_false] at h
  rcases h with rfl | rfl | rfl
  ·exact s6C_ok hx
  ·exact s9C_ok hx
  ·exact n40_ok hx
 unfold smC at hk
 split at hk<;>first | (cases hk; done) | skip
 rename_i l m
 obtain ⟨h0,hk2⟩:=bif_none hk
 obtain ⟨⟨w,h,w1,w2,h1,h2,rfl⟩,rfl⟩:=holds_eq.1 h0
 clear hk h0
 have q:=rwD_same w2 h2
 exact ⟨[.agg (newL w h rwD tab8),.agg (newL w h rwD tab8)],_,.self (.self .nil),v_clo _,hk2,(sn_tree rowsSame tabsSame w h rwD tab8 _).trans (hT ⟨q,rfl,rfl,rfl⟩ (hT ⟨q,rfl,rfl,rfl⟩ (cT (beq_self_eq_true _) (hT ⟨⟨⟨by omega,fun _ _=>rfl⟩,fun _ _=>rfl⟩,rfl⟩ (isD_of (by rw [beq_self_eq_true]))))))⟩
theorem smZ_ok {st:AE.Stat}(hx:Hx st):ConOk Tryz.prog st 16 (smC fun l m=>l=zeroL∧m=zeroL):=by
 refine con_flat (mg:=[]) (l:=[(38,gzC),(39,nnC),(40,nnC)]) (lp:=noLp) (n:=0) (glOk st) (fun x h=>?_) Tryz.func16 (by kernel_rfl) (by kernel_rfl) (hx 16 rfl) (fun _ _ _ h=>nomatch h) fun args k hk=>?_
 ·simp only [List.mem_cons,List.not_mem_nil,or_false] at h
  rcases h with rfl | rfl | rfl
  ·exact gzC_ok hx
  ·exact n39_ok hx
  ·exact n40_ok hx
 unfold smC at hk
 split at hk<;>first | (cases hk; done) | skip
 rename_i l m
 obtain ⟨h0,hk2⟩:=bif_none hk
 obtain ⟨rfl,rfl⟩:=holds_eq.1 h0
 exact ⟨[.agg zeroL,.agg zeroL],_,.self (.self .nil),v_clo _,hk2,(sz_tree _).trans (isD_of (by rw [beq_self_eq_true]))⟩
def smQ (l m:List DV):Prop:=tmSame l m∨(newIs l∧m=l)∨(l=zeroL∧m=zeroL)
theorem smC_ok {st:AE.Stat}(hx:Hx st):ConOk Tryz.prog st 16 (smC smQ):=fun args k hk=>by
 unfold smC at hk
 split at hk<;>first | (cases hk; done) | skip
 rename_i l m
 obtain ⟨h0,hk2⟩:=bif_none hk
 rcases holds_eq.1 h0 with h | h | h
 ·exact smT_ok hx [.agg l,.agg m] k (hT h hk2)
 ·exact smN_ok hx [.agg l,.agg m] k (hT h hk2)
 ·exact smZ_ok hx [.agg l,.agg m] k (hT h hk2)
end Go.Proofs.YtigmkgampfbflaaGreatDoor
namespace Go.Proofs.YtigmkgampfbflaaGreatDoor
open Go Go.AE Go.DE Go.RowKit
theorem cl_tree (t:Bool) (r:Row) (K:DV→DHeap→Option Unit):bodyD Tryz.prog (envZ [] noLp 0) Tryz.f116 [.sl t r.cell 5 r.n] [] (fun d σ=>K d σ) =
  bif decide (0<r.n) then bif decide ((0+r.n)*(48:Nat)≤140737488355328) then K (.os 1 0 (0+r.n)) [none,some ⟨5,.app (.pre (.lst []) 0) (.tab r.n r.cell)⟩] else none else none:=by
 kernel_rfl
theorem cr_tree (t:Bool) (T:Nat→Bool) (R:Nat→Row) (n:Nat) (K:DV→DHeap→Option Unit):bodyD Tryz.prog (envZ [] noLp 0) Tryz.f115 [.sl t (rowsD T R) 1 n] [] (fun d σ=>K d σ) =
  bif decide (0<n) then bif decide ((0+n)*(24:Nat)≤140737488355328) then K (.os 1 0 (0+n)) [none,some ⟨1,.app (.pre (.lst []) 0) (.tab n fun a a_1=>DV.sl (T a) (Row.cell (R a)) 5 (Row.n (R a)))⟩]
  else none else none:=by
 kernel_rfl
theorem cb_tree (t:Bool) (z:Nat→Bool) (n:Nat) (K:DV→DHeap→Option Unit):bodyD Tryz.prog (envZ [] noLp 0) Tryz.f77 [.sl t (tabsD z) 1 n] [] (fun d σ=>K d σ) =
  bif decide (0<n) then bif decide ((0+n)*(1:Nat)≤140737488355328) then K (.os 1 0 (0+n)) [none,some ⟨1,.app (.pre (.lst []) 0) (.tab n fun a a_1=>bv (z a))⟩] else none else none:=by
 kernel_rfl
theorem Row.clo (r:Row) (i f:Nat):Clo (r.cell i f):=by
 match f with
 | 0=>exact .v _
 | 1=>exact .v _
 | 2=>exact .v _
 | 3=>exact .v _
 | _+4=>exact .v _
def rowPos (g:Nat→Nat→DV) (n:Nat):Prop:=cellsOk g n∧0<n
noncomputable def clC (Q:(Nat→Nat→DV)→Nat→Prop):ConF:=fun args k=>match args with
 | [.sl _ g 5 n]=>bif holds (Q g n) then k (fun _=>(.sl false (rowOf g n).cell 5 n,[])) else none
 | _=>none
theorem app_frz {k n:Nat}{g:Nat→Nat→DV}(hc:∀ i f,Clo (g i f)) {σ:DHeap}(hb:σ[1]?=some (some ⟨k,.app (.pre (.lst []) 0) (.tab n g)⟩)):fzq (.sl false g k n) (.os 1 0 n) σ=some ():=by
 refine fzq_of ⟨[1],?_,fun j hj blk hb2 i f _ _=>?_⟩
 ·refine SubZ.fz0 (c:=.app (.pre (.lst []) 0) (.tab n g)) (by unfold zf; simp [hb]) (by show n≤0+n; omega) fun i f=>?_
  show (if i<0 then _ else g (i-0) f)=_
  rw [if_neg (Nat.not_lt_zero _)]; rfl
 ·obtain rfl:j=1:=by simpa using hj
  rw [hb] at hb2
  obtain rfl:(⟨k,.app (.pre (.lst []) 0) (.tab n g)⟩:DBlk)=blk:=Option.some.inj (Option.some.inj hb2)
  show Clo (if i<0 then _ else g (i-0) f)
  rw [if_neg (Nat.not_lt_zero _)]
  exact hc _ _
theorem clC_ok {st:AE.Stat}(hx:Hx st):ConOkZ true Tryz.prog st 116 (clC rowPos):=by
 refine con_frz (E:=envZ [] noLp 0) rfl (glOk st) (tblD_env (l:=[]) fun _ h=>nomatch h) Tryz.func116 (by kernel_rfl) (by kernel_rfl) (hx 116 rfl) (fun _ _ _ h=>nomatch h) fun args k hk=>?_
 unfold clC at hk
 split at hk<;>first | (cases hk; done) | skip
 rename_i t g n
 obtain ⟨hb,hk⟩:=bif_none hk
 obtain ⟨hb,hp⟩:=holds_eq.1 hb
 have hn:=hb.1
 refine ⟨[.sl t (rowOf g n).cell 5 n],_,.cons (hb.cv t) .nil,.sl fun i f _ _=>row_low _ _ _,hk,(cl_tree t (rowOf g n) _).trans (dT hp ?_)⟩
 have hz:0+(rowOf g n).n=n:=Nat.zero_add _
 rw [hz]
 exact dT (by omega) (app_frz (fun i f=>Row.clo _ _ _) rfl)
def tabsAre (g:Nat→Nat→DV) (n:Nat):Prop:=tabsSo g n∧0<n
noncomputable def cbC (Q:(Nat→Nat→DV)→Nat→Prop):ConF:=fun args k=>match args with
 | [.sl _ g 1 n]=>bif holds (Q g n) then k (fun _=>(.sl false (tabsD fun i=>boolD (g i 0)) 1 n,[])) else none
 | _=>none
theorem cbC_ok {st:AE.Stat}(hx:Hx st):ConOkZ true Tryz.prog st 77 (cbC tabsAre):=by
 refine con_frz (E:=envZ [] noLp 0) rfl (glOk st) (tblD_env (l:=[]) fun _ h=>nomatch h) Tryz.func77 (by kernel_rfl) (by kernel_rfl) (hx 77 rfl) (fun _ _ _ h=>nomatch h) fun args k hk=>?_
 unfold cbC at hk
 split at hk<;>first | (cases hk; done) | skip
 rename_i t g n
 obtain ⟨hb,hk⟩:=bif_none hk
 obtain ⟨hb,hp⟩:=holds_eq.1 hb
 have hn:=hb.1
 refine ⟨[.sl t (tabsD fun i=>boolD (g i 0)) 1 n],_,.cons (hb.cv t) .nil,tabs_low _ _,hk,(cb_tree t (fun i=>boolD (g i 0)) n _).trans (dT hp ?_)⟩
 have hz:0+n=n:=Nat.zero_add _
 rw [hz]
 exact dT (by omega) (app_frz (fun i f=>.v _) rfl)
noncomputable def crC (Q:(Nat→Nat→DV)→Nat→Prop):ConF:=fun args k=>match args with
 | [.sl _ G 1 n]=>bif holds (Q G n) then k (fun b=>(.os b 0 n,[some ⟨1,.tab n (rowsD (fun i=>slT (G i 0)) fun i=>rowD (G i 0))⟩])) else none
 | _=>none
def rowsAreP (G:Nat→Nat→DV) (n:Nat):Prop:=rowsSo G n∧0<n∧∀ i,i<n→slT (G i 0)=false
theorem ro_loop (n i:Nat) (Q:(Nat→Nat→DV)→Nat→Prop) (T:Nat→Bool) (R:Nat→Row) (K:Ex→Nat→List DV→List DV→DHeap→Option Unit):execD Tryz.prog (envZ [(116,clC Q)] noLp 0) (loopAt Tryz.f76 58) 500 (temps 22 [3,8,9] [.os 0 0 n,iv n,iv i]) [some ⟨1,.tab n (rowsD T R)⟩] (fun e τ σ=>K e τ.length (pick [3,8,9] τ) (pick [3] τ) σ) =
  bif decide ((i:Int)<(n:Int)) then bif decide ((i:Int)<(n:Int)) then bif decide (0+tN i<n) then bif holds (Q (Row.cell (R (0+tN i))) (Row.n (R (0+tN i)))) then bif decide ((i:Int)<(n:Int))
  then bif decide (0+tN i<DC.n (.tab n (rowsD T R))) then K .normal 22 [.os 0 0 n,iv (n:Int),iv (IntKind.wrap .i64 ((i:Int)+1))] [.os 0 0 n] [some ⟨1,.upd (.tab n fun a a_1=>DV.sl (T a) (Row.cell (R a)) 5 (Row.n (R a))) (0+tN i) 0 (.sl false (Row.cell (rowOf (Row.cell (R (0+tN i))) (Row.n (R (0+tN i))))) 5 (Row.n (R (0+tN i))))⟩]
  else none else none else none else none else none else K (.exit 0) 22 [.os 0 0 n,iv (n:Int),iv (i:Int)] [.os 0 0 n] [some ⟨1,.tab n fun a a_1=>DV.sl (T a) (Row.cell (R a)) 5 (Row.n (R a))⟩]:=by
 kernel_rfl
structure ROX where
 T:Nat→Bool
 R:Nat→Row
 n:Nat
 i:Nat
def upR (T:Nat→Bool) (i j:Nat):Bool:=if j<i then false else T j
noncomputable def roI:LInv ROX where
 pre x:=x.i≤x.n∧rowsPos x.R x.n
 m:=1
 n:=22
 ps:=[3,8,9]
 sd x:=[.os 0 0 x.n,iv x.n,iv x.i]
 sh x:=[some ⟨1,.tab x.n (rowsD (upR x.T x.i) x.R)⟩]
 meas x:=x.n-x.i
 e _:=.exit 0
 qs:=[3]
 od x:=[.os 0 0 x.n]
 oh x:=[some ⟨1,.tab x.n (rowsD (upR x.T x.n) x.R)⟩]
 guess ds σ:=match ds,σ with
  | [.os 0 0 n,_,_],[some b]=>some ⟨fun i=>slT (b.c.get i 0),fun i=>rowD (b.c.get i 0),n,0⟩
  | _,_=>none
 cps x k:=k (.exit 0) [.os 0 0 x.n] [some ⟨1,.tab x.n (rowsD (upR x.T x.n) x.R)⟩]
theorem wpos {R:Nat→Row}{n i:Nat}(h:rowsPos R n) (hi:i<n):rowPos (R i).cell (R i).n:=⟨Row.ok (h.2 i hi).1,(h.2 i hi).2⟩
theorem ro_ls {st:AE.Stat}(hx:Hx st):LoopSR true Tryz.prog st gl0 (.loop (loopAt Tryz.f76 58)) roI.g:=by
 refine roI.ok (E:=envZ [(116,clC rowPos)] noLp 0) (p:=500) (tblD_env (l:=[(116,clC rowPos)]) fun x h=>?_) (glOk st).1 (fun _ _ _ h=>nomatch h) (fun x k h=>h) fun x hx2=>?_
 ·simp only [List.mem_cons,List.not_mem_nil,or_false] at h
  subst h
  exact clC_ok hx
 obtain ⟨T,R,n,i⟩:=x
 obtain ⟨hi,hR⟩:i≤n∧rowsPos R n:=hx2
 have hn:=hR.1
 refine (ro_loop n i rowPos (upR T i) R _).trans ?_
 simp only [Int.toNat_natCast,Nat.add_zero,Nat.zero_add]
 refine dS (fun hlt=>?_) fun hge=>?_
 ·have hlt:i<n:=by omega
  refine dT (by omega) (dT hlt (hT (wpos hR hlt) (dT (by omega) (dT hlt (LInv.ask_of ⟨rfl,⟨T,R,n,i+1⟩,⟨rfl,rfl,rfl,hlt,hR⟩,by simp only [roI]; omega,[],.of (im:=[some 0]) (.cons (.os rfl) (.cons (.v _) (.cons (by rw [W_in (by omega) (by omega)]; exact .v _) .nil))) rfl ⟨⟨0,_,rfl,rfl,rfl,Nat.le_refl _,trivial,fun j f hj hf=>?_⟩,trivial⟩ rfl (by decide)⟩)))))
  have hf:f<1:=hf
  obtain rfl:f=0:=by omega
  show Sub _ (.sl (upR T (i+1) j) (R j).cell 5 (R j).n) (if j=i∧0=0 then .sl false (rowOf (R i).cell (R i).n).cell 5 (R i).n else .sl (upR T i j) (R j).cell 5 (R j).n)
  by_cases hji:j=i
  ·subst hji
   have e:upR T (j+1) j=false:=by unfold upR; rw [if_pos (by omega)]
   rw [if_pos ⟨rfl,rfl⟩,e]
   exact .of_clo (.sl _ _ _ _)
  ·rw [if_neg (fun h=>hji h.1)]
   have e:upR T (i+1) j=upR T i j:=by
    unfold upR
    by_cases h:j<i
    ·rw [if_pos h,if_pos (by omega)]
    ·rw [if_neg h,if_neg (by omega)]
   rw [e]
   exact .of_clo (.sl _ _ _ _)
 ·obtain rfl:n=i:=by omega
  exact LInv.ask_of ⟨rfl,rfl,[],.of (im:=[some 0]) (.cons (.os rfl) .nil) rfl ⟨⟨0,_,rfl,rfl,rfl,Nat.le_refl _,trivial,fun j f hj hf=>.of_clo (.sl _ _ _ _)⟩,trivial⟩ rfl (by decide)⟩
theorem crC_ok {st:AE.Stat}(hx:Hx st):ConOkZ true Tryz.prog st 115 (crC rowsAreP):=by
 refine con_ofZ (mg:=[]) (l:=[]) (lp:=noLp) (n:=0) (glOk st) (fun _ h=>nomatch h) Tryz.func115 (by kernel_rfl) (by kernel_rfl) (hx 115 rfl) (fun _ _ _ h=>nomatch h) fun args k hk=>?_
 unfold crC at hk
 split at hk<;>first | (cases hk; done) | skip
 rename_i t G n
 obtain ⟨hb,hk⟩:=bif_none hk
 obtain ⟨⟨hn,hb⟩,hp,hT⟩:=holds_eq.1 hb
 refine ⟨[.sl t (rowsD (fun i=>slT (G i 0)) fun i=>rowD (G i 0)) 1 n],_,.cons (rows_cv hb) .nil,hk,fun b=>⟨⟨.os _ _ _,fun id blk hb2 i f hi _=>?_⟩,(cr_tree t _ _ n _).trans (dT hp ?_)⟩⟩
 ·cases id with
  | succ id=>simp at hb2
  | zero =>
   obtain rfl:(⟨1,.tab n (rowsD (fun i=>slT (G i 0)) fun i=>rowD (G i 0))⟩:DBlk)=blk:=Option.some.inj (Option.some.inj hb2)
   have hi:i<n:=hi
   show Low (.sl (slT (G i 0)) _ _ _)
   rw [hT i hi]
   exact .sl fun j g _ _=>row_low _ _ _
 ·have hz:0+n=n:=Nat.zero_add _
  rw [hz]
  refine dT (by omega) (fin_of ?_)
  exact finQ_own (id:=1) (blk:=⟨1,.app (.pre (.lst []) 0) (.tab n (rowsD (fun i=>slT (G i 0)) fun i=>rowD (G i 0)))⟩) rfl rfl rfl (by show n≤0+n; omega) trivial fun i f hi hf=>⟨.sl _ _ _ _,by
   show (if i<0 then _ else rowsD _ _ (i-0) f)=_
   rw [if_neg (Nat.not_lt_zero _)]; rfl⟩
theorem rb_tree (t:Bool) (Q:(Nat→Nat→DV)→Nat→Prop) (T:Nat→Bool) (R:Nat→Row) (n:Nat) (K:DV→DHeap→Option Unit):bodyD Tryz.prog (envZ [(115,crC Q)] (lpOf [(58,roI.g)]) 0) Tryz.f76 [.sl t (rowsD T R) 1 n] [] (fun d σ=>K d σ) =
  bif holds (Q (rowsD T R) n) then bif holds ((Nat.le 0 n∧Nat.le n 9000000∧∀ (i:Nat),i<n→(Nat.le (Row.n ((fun i=>rowD (.sl ((fun i=>slT (.sl (T i) (Row.cell (R i)) 5 (Row.n (R i)))) i) (Row.cell ((fun i=>rowD (.sl (T i) (Row.cell (R i)) 5 (Row.n (R i)))) i)) 5 (Row.n ((fun i=>rowD (.sl (T i) (Row.cell (R i)) 5 (Row.n (R i)))) i)))) i)) 9000000∧∀ (i_1:Nat),i_1<Row.n ((fun i=>rowD (.sl ((fun i=>slT (.sl (T i) (Row.cell (R i)) 5 (Row.n (R i)))) i) (Row.cell ((fun i=>rowD (.sl (T i) (Row.cell (R i)) 5 (Row.n (R i)))) i)) 5 (Row.n ((fun i=>rowD (.sl (T i) (Row.cell (R i)) 5 (Row.n (R i)))) i)))) i)→Nat.le (ByteArray.size (Row.tx ((fun i=>rowD (.sl ((fun i=>slT (.sl (T i) (Row.cell (R i)) 5 (Row.n (R i)))) i) (Row.cell ((fun i=>rowD (.sl (T i) (Row.cell (R i)) 5 (Row.n (R i)))) i)) 5 (Row.n ((fun i=>rowD (.sl (T i) (Row.cell (R i)) 5 (Row.n (R i)))) i)))) i) i_1)) 9000000)∧Nat.le 1 (Row.n ((fun i=>rowD (.sl ((fun i=>slT (.sl (T i) (Row.cell (R i)) 5 (Row.n (R i)))) i) (Row.cell ((fun i=>rowD (.sl (T i) (Row.cell (R i)) 5 (Row.n (R i)))) i)) 5 (Row.n ((fun i=>rowD (.sl (T i) (Row.cell (R i)) 5 (Row.n (R i)))) i)))) i)))∧∃ ids,WkP 1 ids [.os 0 0 n,iv (n:Int),iv 0] [some ⟨1,.tab n fun a a_1=>DV.sl ((fun i=>slT (.sl (T i) (Row.cell (R i)) 5 (Row.n (R i)))) a) (Row.cell ((fun i=>rowD (.sl (T i) (Row.cell (R i)) 5 (Row.n (R i)))) a)) 5 (Row.n ((fun i=>rowD (.sl (T i) (Row.cell (R i)) 5 (Row.n (R i)))) a))⟩] [.os 0 0 n,iv (n:Int),iv 0] [some ⟨1,.tab n fun a a_1=>DV.sl (upR (fun i=>slT (.sl ((fun i=>slT (.sl (T i) (Row.cell (R i)) 5 (Row.n (R i)))) i) (Row.cell ((fun i=>rowD (.sl (T i) (Row.cell (R i)) 5 (Row.n (R i)))) i)) 5 (Row.n ((fun i=>rowD (.sl (T i) (Row.cell (R i)) 5 (Row.n (R i)))) i)))) 0 a) (Row.cell ((fun i=>rowD (.sl ((fun i=>slT (.sl (T i) (Row.cell (R i)) 5 (Row.n (R i)))) i) (Row.cell ((fun i=>rowD (.sl (T i) (Row.cell (R i)) 5 (Row.n (R i)))) i)) 5 (Row.n ((fun i=>rowD (.sl (T i) (Row.cell (R i)) 5 (Row.n (R i)))) i)))) a)) 5 (Row.n ((fun i=>rowD (.sl ((fun i=>slT (.sl (T i) (Row.cell (R i)) 5 (Row.n (R i)))) i) (Row.cell ((fun i=>rowD (.sl (T i) (Row.cell (R i)) 5 (Row.n (R i)))) i)) 5 (Row.n ((fun i=>rowD (.sl (T i) (Row.cell (R i)) 5 (Row.n (R i)))) i)))) a))⟩])
  then K (.os 0 0 n) [some ⟨1,.tab n fun a a_1=>DV.sl (upR (fun i=>slT (.sl ((fun i=>slT (.sl (T i) (Row.cell (R i)) 5 (Row.n (R i)))) i) (Row.cell ((fun i=>rowD (.sl (T i) (Row.cell (R i)) 5 (Row.n (R i)))) i)) 5 (Row.n ((fun i=>rowD (.sl (T i) (Row.cell (R i)) 5 (Row.n (R i)))) i)))) n a) (Row.cell ((fun i=>rowD (.sl ((fun i=>slT (.sl (T i) (Row.cell (R i)) 5 (Row.n (R i)))) i) (Row.cell ((fun i=>rowD (.sl (T i) (Row.cell (R i)) 5 (Row.n (R i)))) i)) 5 (Row.n ((fun i=>rowD (.sl (T i) (Row.cell (R i)) 5 (Row.n (R i)))) i)))) a)) 5 (Row.n ((fun i=>rowD (.sl ((fun i=>slT (.sl (T i) (Row.cell (R i)) 5 (Row.n (R i)))) i) (Row.cell ((fun i=>rowD (.sl (T i) (Row.cell (R i)) 5 (Row.n (R i)))) i)) 5 (Row.n ((fun i=>rowD (.sl (T i) (Row.cell (R i)) 5 (Row.n (R i)))) i)))) a))⟩]
  else none else none:=by
 kernel_rfl
def rowsGo (G:Nat→Nat→DV) (n:Nat):Prop:=rowsAre G n∧∀ i,i<n→slT (G i 0)=false
noncomputable def roC (Q:(Nat→Nat→DV)→Nat→Prop):ConF:=fun args k=>match args with
 | [.sl _ G 1 n]=>bif holds (Q G n) then k (fun _=>(.sl false (rowsD (fun _=>false) fun i=>rowD (G i 0)) 1 n,[])) else none
 | _=>none
theorem rows_low (R:Nat→Row) (n:Nat):Low (.sl false (rowsD (fun _=>false) R) 1 n):=.sl fun i f _ _=>.sl fun j g _ _=>row_low _ _ _
theorem ro1_ok {st:AE.Stat}(hx:Hx st):ConOkZ true Tryz.prog st 76 (roC fun G n=>rowsGo G n∧0<n):=by
 refine con_frz (E:=envZ [(115,crC rowsAreP)] (lpOf [(58,roI.g)]) 0) rfl (glOk st) (tblD_env (l:=[(115,crC rowsAreP)]) fun x h=>?_) Tryz.func76 (by kernel_rfl) (by kernel_rfl) (hx 76 rfl) (lp_in (c0:=.loop (loopAt Tryz.f76 58)) (by kernel_rfl) (ro_ls hx)) fun args k hk=>?_
 ·simp only [List.mem_cons,List.not_mem_nil,or_false] at h
  subst h
  exact crC_ok hx
 unfold roC at hk
 split at hk<;>first | (cases hk; done) | skip
 rename_i t G n
 obtain ⟨hb,hk⟩:=bif_none hk
 obtain ⟨⟨⟨hn,hG⟩,hF⟩,hp⟩:=holds_eq.1 hb
 have ha:rowsAreP (rowsD (fun i=>slT (G i 0)) fun i=>rowD (G i 0)) n:=⟨⟨hn,fun i hi=>isRow_of (hG i hi).1.2.row⟩,hp,hF⟩
 refine ⟨[.sl t (rowsD (fun i=>slT (G i 0)) fun i=>rowD (G i 0)) 1 n],_,.cons (rows_cv fun i hi=>(hG i hi).1) .nil,rows_low _ n,hk,(rb_tree t rowsAreP (fun i=>slT (G i 0)) (fun i=>rowD (G i 0)) n _).trans (hT ha (hT ⟨⟨Nat.zero_le _,hn,fun i hi=>⟨(hG i hi).1.2.row,(hG i hi).2⟩⟩,[],.of (im:=[some 0]) (.cons (.os rfl) (.cons (.v _) (.cons (.v _) .nil))) rfl ⟨⟨0,_,rfl,rfl,rfl,Nat.le_refl _,trivial,fun j f hj hf=>.of_clo (.sl _ _ _ _)⟩,trivial⟩ rfl (by decide)⟩ ?_))⟩
 refine fzq_of ⟨[0],SubZ.cv (Cv.sl fun i f hi hf=>.of ?_) (SubZ.fz0 (c:=.tab n (rowsD (upR (fun i=>slT (G i 0)) n) fun i=>rowD (G i 0))) rfl (Nat.le_refl _) fun _ _=>rfl),fun j hj blk hb i f _ _=>?_⟩
 ·show DV.sl (upR _ n i) _ _ _=.sl false _ _ _
  unfold upR
  rw [if_pos hi]
 ·obtain rfl:j=0:=by simpa using hj
  obtain rfl:(⟨1,.tab n (rowsD (upR (fun i=>slT (G i 0)) n) fun i=>rowD (G i 0))⟩:DBlk)=blk:=Option.some.inj (Option.some.inj hb)
  exact .sl _ _ _ _
theorem c0_nil (st:AE.Stat) (rf:CallA) (σ:Heap) (n:Nat):bodyA Tryz.prog st rf n Tryz.f115 [.slice none 0 0] σ=some (.slice none 0 0,σ):=by kernel_rfl
theorem c0_emp (st:AE.Stat) (rf:CallA) (σ:Heap) (a:Addr) (cap n:Nat):bodyA Tryz.prog st rf n Tryz.f115 [.slice (some a) 0 cap] σ=some (.slice (some ⟨σ.length,0,none⟩) 0 0,σ++[some (.cells [])]):=by kernel_rfl
theorem st_more {st:AE.Stat}{C:Cf}{σ:Heap}(h:St st C noMu σ []) (ex:List (Option Blk)) (s:Nat):St st C noMu (σ++ex) (List.replicate s none++[]) :=
 ⟨fun t b s o v q=>cellA_append (h.frz t b s o v q),fun id blk hb=>(by have:=(repl_get.1 hb).2; simp at this),fun id blk b x hb=>(by have:=(repl_get.1 hb).2; simp at this),fun id id' blk blk' b x x' hb=>(by have:=(repl_get.1 hb).2; simp at this),
  fun id x hx=>(by cases hx),fun t b o v q=>(by have:=h.low t b o v q; rw [List.length_append]; omega),h.sta⟩
noncomputable def c0C:ConF:=fun args k=>match args with
 | [.sl _ _ 1 0]=>k (fun _=>(.sl false (rowsD (fun _=>false) fun _=>blkRow 0) 1 0,[]))
 | _=>none
theorem c0C_ok {st:AE.Stat}(hx:Hx st):ConOkZ true Tryz.prog st 115 c0C:=by
 intro args k hk s C σ vs hS ha
 unfold c0C at hk
 split at hk<;>first | (cases hk; done) | skip
 rename_i t g
 obtain ⟨v,ys,rfl,hv,hn⟩:=ha.cons_inv
 obtain rfl:=hn.nil_inv
 have ent:∀ n m,1≤m→enterA Tryz.prog (runF Tryz.prog st n m) 115 [v] σ=bodyA Tryz.prog st (runF Tryz.prog st n (m-1)) n Tryz.f115 [v] σ:=fun n m hm=>by
  obtain ⟨m,rfl⟩:∃ m',m=m'+1:=⟨m-1,by omega⟩
  have h1:(Tryz.f115.name== "runtime.NumGoroutine")=false:=by kernel_rfl
  have h2:Tryz.f115.body.isNone=false:=by kernel_rfl
  unfold enterA
  rw [Tryz.func115]
  simp only [h1,h2,Bool.false_eq_true,if_false,runF,Tryz.func115,hx 115 rfl]
  rfl
 have nolive:∀ b,¬ Live noMu (List.replicate s none++([]:DHeap)) b:=by
  rintro b ⟨id,blk,x,hb,_⟩
  have:=(repl_get.1 hb).2
  simp at this
 have low:LowR ((.sl false (rowsD (fun _=>false) fun _=>blkRow 0) 1 0:DV),([]:DHeap)):=lowR_flat (rows_low _ 0)
 rcases hv.sl_inv with ⟨a,cap,w,rfl,hc,hk0,q1,q2⟩ | ⟨_,rfl⟩
 ·refine ⟨_,hk,low,_,_,C,noMu,⟨1,fun n m _ hm=>(ent n m hm).trans (c0_emp st _ σ a cap n)⟩,st_more hS _ s,?_,fun id x hx=>(by cases hx),?_,fun b hb=>?_,fun b hl=>(nolive b hl).elim,fun b s o v hv=>.inl hv⟩
  ·exact .sl false _ 1 0 ⟨σ.length,0,none⟩ 0 (fun _ _=>undef) (.inl ⟨by decide,Nat.le_refl _⟩) (by decide) (fun i f hi _=>absurd hi (Nat.not_lt_zero _)) fun i f hi _=>absurd hi (Nat.not_lt_zero _)
  ·rw [List.length_append]; omega
  ·exact List.getElem?_append_left hb
 ·have h0:=st_more hS [] s
  rw [List.append_nil] at h0
  exact ⟨_,hk,low,_,_,C,noMu,⟨1,fun n m _ hm=>(ent n m hm).trans (c0_nil st _ σ n)⟩,h0,.slnil _ _ _,fun id x hx=>(by cases hx),Nat.le_refl _,fun b hb=>rfl,fun b hl=>(nolive b hl).elim,fun b s o v hv=>.inl hv⟩
theorem rz_tree (t:Bool) (G:Nat→Nat→DV) (K:DV→DHeap→Option Unit):bodyD Tryz.prog (envZ [(115,c0C)] noLp 2) Tryz.f76 [.sl t G 1 0] [] (fun d σ=>K d σ) =
  K (.sl false (fun a a_1=>DV.sl ((fun x=>false) a) (Row.cell ((fun x=>blkRow 0) a)) 5 0) 1 0) []:=by
 kernel_rfl
theorem ro0_ok {st:AE.Stat}(hx:Hx st):ConOkZ true Tryz.prog st 76 (roC fun _ n=>n=0):=by
 refine con_frz (E:=envZ [(115,c0C)] noLp 2) rfl (glOk st) (tblD_env (l:=[(115,c0C)]) fun x h=>?_) Tryz.func76 (by kernel_rfl) (by kernel_rfl) (hx 76 rfl) (fun _ _ _ h=>nomatch h) fun args k hk=>?_
 ·simp only [List.mem_cons,List.not_mem_nil,or_false] at h
  subst h
  exact c0C_ok hx
 unfold roC at hk
 split at hk<;>first | (cases hk; done) | skip
 rename_i t G n
 obtain ⟨hb,hk⟩:=bif_none hk
 obtain rfl:=holds_eq.1 hb
 exact ⟨[.sl t G 1 0],.sl false (rowsD (fun _=>false) fun i=>rowD (G i 0)) 1 0,.self .nil,rows_low _ 0,hk,(rz_tree t G _).trans (fzq_of ⟨[],SubZ.cv (Cv.sl fun i f hi _=>absurd hi (Nat.not_lt_zero _)) (Sub.of_clo (.sl _ _ _ _)).z,fun j hj=>nomatch hj⟩)⟩
theorem roC_ok {st:AE.Stat}(hx:Hx st):ConOkZ true Tryz.prog st 76 (roC rowsGo):=fun args k hk=>by
 unfold roC at hk
 split at hk<;>first | (cases hk; done) | skip
 rename_i t G n
 obtain ⟨hb,hk⟩:=bif_none hk
 have hb:=holds_eq.1 hb
 rcases Nat.eq_zero_or_pos n with rfl | hp
 ·exact ro0_ok hx [.sl t G 1 0] k (hT rfl hk)
 ·exact ro1_ok hx [.sl t G 1 n] k (hT ⟨hb,hp⟩ hk)
def Tm.own (x:Tm):Tm:={ x with gT:=fun _=>false,oT:=fun _=>false,bT:=fun _=>false }
noncomputable def owC (Q:List DV→Prop) (O:Tm→List DV):ConF:=fun args k=>match args with
 | [.agg l]=>bif holds (Q l) then k (fun _=>(.agg (O (tmOf l)),[])) else none
 | _=>none
theorem ow_tree (Q Q2:(Nat→Nat→DV)→Nat→Prop) (x:Tm) (k:DV→Option Unit):bodyD Tryz.prog (envZ [(76,roC Q),(77,cbC Q2)] noLp 0) Tryz.f35 [.agg x.cells] [] (fun d _=>k d) =
  bif holds (Q (rowsD x.gT x.gR) x.gn) then bif holds (Q (rowsD x.oT x.oR) x.on) then bif holds (Q (rowsD x.bT x.bR) x.bn) then bif holds (Q2 (tabsD x.tb) x.tn) then k (.agg [iv (x.I 0),iv (x.I 1),.sl false (fun a a_1=>DV.sl ((fun x=>false) a) (Row.cell ((fun i=>rowD (.sl (x.gT i) (Row.cell (x.gR i)) 5 (Row.n (x.gR i)))) a)) 5 (Row.n ((fun i=>rowD (.sl (x.gT i) (Row.cell (x.gR i)) 5 (Row.n (x.gR i)))) a))) 1 x.gn,iv (x.I 3),iv (x.I 4),.sl false (fun a a_1=>DV.sl ((fun x=>false) a) (Row.cell ((fun i=>rowD (.sl (x.oT i) (Row.cell (x.oR i)) 5 (Row.n (x.oR i)))) a)) 5 (Row.n ((fun i=>rowD (.sl (x.oT i) (Row.cell (x.oR i)) 5 (Row.n (x.oR i)))) a))) 1 x.on,iv (x.I 6),iv (x.I 7),bv (x.B 8),iv (x.I 9),iv (x.I 10),bv (x.B 11),iv (x.I 12),iv (x.I 13),iv (x.I 14),bv (x.B 15),kv .u8 ((x.I 16)),kv .u8 ((x.I 17)),iv (x.I 18),iv (x.I 19),iv (x.I 20),iv (x.I 21),bv (x.B 22),bv (x.B 23),bv (x.B 24),bv (x.B 25),bv (x.B 26),bv (x.B 27),bv (x.B 28),bv (x.B 29),kv .u8 ((x.I 30)),kv .u8 ((x.I 31)),iv (x.I 32),iv (x.I 33),iv (x.I 34),.sl false (fun a a_1=>bv ((fun i=>boolD (bv (x.tb i))) a)) 1 x.tn,.sl false (fun a a_1=>DV.sl ((fun x=>false) a) (Row.cell ((fun i=>rowD (.sl (x.bT i) (Row.cell (x.bR i)) 5 (Row.n (x.bR i)))) a)) 5 (Row.n ((fun i=>rowD (.sl (x.bT i) (Row.cell (x.bR i)) 5 (Row.n (x.bR i)))) a))) 1 x.bn,iv (x.I 37),sv (x.S 38),sv (x.S 39),sv (x.S 40),sv (x.S 41)])
  else none else none else none else none:=by
 kernel_rfl
end Go.Proofs.YtigmkgampfbflaaGreatDoor
