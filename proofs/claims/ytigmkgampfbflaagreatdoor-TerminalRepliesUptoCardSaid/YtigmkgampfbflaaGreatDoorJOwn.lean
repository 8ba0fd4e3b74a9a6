/-
 The contracts of copies: of cells,of rows,of tab stops; of a terminal in memory of its own.
 Conditions: none beyond those of the contracts.
-/
import Derived.Test.YtigmkgampfbflaaGreatDoorJUtf
import Derived.Test.YtigmkgampfbflaaGreatDoorDeLst
namespace Go.Proofs.YtigmkgampfbflaaGreatDoor
open Go Go.AE Go.DE Go.RowKit
theorem cl_tree (t:Bool) (r:Row) (K:DV->DHeap->Option Unit):bodyD Tryz.prog (envZ [] noLp 0) Tryz.f116 [.sl t r.cell 5 r.n] [] (fun d σ=>K d σ) =
  bif decide (0<r.n) then bif decide ((0+r.n)*(48:Nat)<=140737488355328) then K (.os 1 0 (0+r.n)) [none,some ⟨5,.app (.pre (.lst []) 0) (.tab r.n r.cell)⟩] else none else none:=by
 kernel_rfl
theorem cr_tree (t:Bool) (T:Nat->Bool) (R:Nat->Row) (n:Nat) (K:DV->DHeap->Option Unit):bodyD Tryz.prog (envZ [] noLp 0) Tryz.f115 [.sl t (rowsD T R) 1 n] [] (fun d σ=>K d σ) =
  bif decide (0<n) then bif decide ((0+n)*(24:Nat)<=140737488355328) then K (.os 1 0 (0+n)) [none,some ⟨1,.app (.pre (.lst []) 0) (.tab n (rowsD T R))⟩] else none else none:=by
 kernel_rfl
theorem cb_tree (t:Bool) (z:Nat->Bool) (n:Nat) (K:DV->DHeap->Option Unit):bodyD Tryz.prog (envZ [] noLp 0) Tryz.f77 [.sl t (tabsD z) 1 n] [] (fun d σ=>K d σ) =
  bif decide (0<n) then bif decide ((0+n)*(1:Nat)<=140737488355328) then K (.os 1 0 (0+n)) [none,some ⟨1,.app (.pre (.lst []) 0) (.tab n (tabsD z))⟩] else none else none:=by
 kernel_rfl
theorem Row.clo (r:Row) (i f:Nat):Clo (r.cell i f):=by
 match f with
 | 0=>exact .v _
 | 1=>exact .v _
 | 2=>exact .v _
 | 3=>exact .v _
 | _+4=>exact .v _
def rowPos (g:Nat->Nat->DV) (n:Nat):Prop:=cellsOk g n/\0<n
noncomputable def clC (Q:(Nat->Nat->DV)->Nat->Prop):ConF:=fun args k=>match args with
 | [.sl _ g 5 n]=>bif holds (Q g n) then k (fun _=>(.sl false (rowOf g n).cell 5 n,[])) else none
 | _=>none
theorem app_frz {k n:Nat}{g:Nat->Nat->DV}(hc:∀ i f,Clo (g i f)) {σ:DHeap}(hb:σ[1]?=some (some ⟨k,.app (.pre (.lst []) 0) (.tab n g)⟩)):fzq (.sl false g k n) (.os 1 0 n) σ=some ():=by
 refine fzq_of ⟨[1],?_,fun j hj blk hb2 i f _ _=>?_⟩
 ·refine SubZ.fz0 (c:=.app (.pre (.lst []) 0) (.tab n g)) (by unfold zf; simp [hb]) (by show n<=0+n; omega) fun i f=>?_
  show (if i<0 then _ else g (i-0) f)=_
  rw [if_neg (Nat.not_lt_zero _)]; rfl
 ·obtain rfl:j=1:=by simpa using hj
  rw [hb] at hb2;obtain rfl:(⟨k,.app (.pre (.lst []) 0) (.tab n g)⟩:DBlk)=blk:=Option.some.inj (Option.some.inj hb2)
  show Clo (if i<0 then _ else g (i-0) f)
  rw [if_neg (Nat.not_lt_zero _)];exact hc _ _
theorem clC_ok {st:AE.Stat}(hx:Hx st):ConOkZ true Tryz.prog st 116 (clC rowPos):=by
 refine con_frz (E:=envZ [] noLp 0) rfl (glOk st) (tblD_env (l:=[]) fun _ h=>nomatch h) Tryz.func116 (by kernel_rfl) (by kernel_rfl) (hx 116 rfl) (fun _ _ _ h=>nomatch h) fun args k hk=>?_
 unfold clC at hk
 split at hk<;>first | (cases hk; done) | skip
 rename_i t g n;obtain ⟨hb,hk⟩:=bif_none hk;obtain ⟨hb,hp⟩:=holds_eq.1 hb;have hn:=hb.1
 refine ⟨[.sl t (rowOf g n).cell 5 n],_,.cons (hb.cv t) .nil,.sl fun i f _ _=>row_low _ _ _,hk,(cl_tree t (rowOf g n) _).trans (dT hp ?_)⟩
 have hz:0+(rowOf g n).n=n:=Nat.zero_add _;rw [hz]
 exact dT (by omega) (app_frz (fun i f=>Row.clo _ _ _) rfl)
def tabsAre (g:Nat->Nat->DV) (n:Nat):Prop:=tabsSo g n/\0<n
noncomputable def cbC (Q:(Nat->Nat->DV)->Nat->Prop):ConF:=fun args k=>match args with
 | [.sl _ g 1 n]=>bif holds (Q g n) then k (fun _=>(.sl false (tabsD fun i=>boolD (g i 0)) 1 n,[])) else none
 | _=>none
theorem cbC_ok {st:AE.Stat}(hx:Hx st):ConOkZ true Tryz.prog st 77 (cbC tabsAre):=by
 refine con_frz (E:=envZ [] noLp 0) rfl (glOk st) (tblD_env (l:=[]) fun _ h=>nomatch h) Tryz.func77 (by kernel_rfl) (by kernel_rfl) (hx 77 rfl) (fun _ _ _ h=>nomatch h) fun args k hk=>?_
 unfold cbC at hk
 split at hk<;>first | (cases hk; done) | skip
 rename_i t g n;obtain ⟨hb,hk⟩:=bif_none hk;obtain ⟨hb,hp⟩:=holds_eq.1 hb;have hn:=hb.1
 refine ⟨[.sl t (tabsD fun i=>boolD (g i 0)) 1 n],_,.cons (hb.cv t) .nil,tabs_low _ _,hk,(cb_tree t (fun i=>boolD (g i 0)) n _).trans (dT hp ?_)⟩
 have hz:0+n=n:=Nat.zero_add _;rw [hz]
 exact dT (by omega) (app_frz (fun i f=>.v _) rfl)
noncomputable def crC (Q:(Nat->Nat->DV)->Nat->Prop):ConF:=fun args k=>match args with
 | [.sl _ G 1 n]=>bif holds (Q G n) then k (fun b=>(.os b 0 n,[some ⟨1,.tab n (rowsD (fun i=>slT (G i 0)) fun i=>rowD (G i 0))⟩])) else none
 | _=>none
def rowsAreP (G:Nat->Nat->DV) (n:Nat):Prop:=rowsSo G n/\0<n/\∀ i,i<n->slT (G i 0)=false
theorem ro_loop (n i:Nat) (Q:(Nat->Nat->DV)->Nat->Prop) (T:Nat->Bool) (R:Nat->Row) (K:Ex->Nat->List DV->List DV->DHeap->Option Unit):execD Tryz.prog (envZ [(116,clC Q)] noLp 0) (loopAt Tryz.f76 58) 500 (temps 22 [3,8,9] [.os 0 0 n,iv n,iv i]) [some ⟨1,.tab n (rowsD T R)⟩] (fun e τ σ=>K e τ.length (pick [3,8,9] τ) (pick [3] τ) σ) =
  bif decide ((i:Int)<(n:Int)) then bif decide ((i:Int)<(n:Int)) then bif decide (0+tN i<n) then bif holds (Q (Row.cell (R (0+tN i))) (Row.n (R (0+tN i)))) then bif decide ((i:Int)<(n:Int))
  then bif decide (0+tN i<DC.n (.tab n (rowsD T R))) then K .normal 22 [.os 0 0 n,iv (n:Int),iv (IntKind.wrap .i64 ((i:Int)+1))] [.os 0 0 n] [some ⟨1,.upd (.tab n (rowsD T R)) (0+tN i) 0 (.sl false (Row.cell (rowOf (Row.cell (R (0+tN i))) (Row.n (R (0+tN i))))) 5 (Row.n (R (0+tN i))))⟩]
  else none else none else none else none else none else K (.exit 0) 22 [.os 0 0 n,iv (n:Int),iv (i:Int)] [.os 0 0 n] [some ⟨1,.tab n (rowsD T R)⟩]:=by
 kernel_rfl
structure ROX where
 T:Nat->Bool
 R:Nat->Row
 n:Nat
 i:Nat
def upR (T:Nat->Bool) (i j:Nat):Bool:=if j<i then false else T j
noncomputable def roI:LInv ROX where
 pre x:=x.i<=x.n/\rowsPos x.R x.n
 m:=1
 n:=22
 ps:=[3,8,9]
 sd x:=[.os 0 0 x.n,iv x.n,iv x.i]
 sh x:=[some ⟨1,.tab x.n (rowsD (upR x.T x.i) x.R)⟩]
 meas x:=x.n-x.i
 e _:=.exit 0
 qs:=[3]
 od x:=[.os 0 0 x.n]
 oh x:=[some ⟨1,.tab x.n (rowsD (upR x.T x.n) x.R)⟩]
 guess ds σ:=match ds,σ with
  | [.os 0 0 n,_,_],[some b]=>some ⟨fun i=>slT (b.c.get i 0),fun i=>rowD (b.c.get i 0),n,0⟩
  | _,_=>none
 cps x k:=k (.exit 0) [.os 0 0 x.n] [some ⟨1,.tab x.n (rowsD (upR x.T x.n) x.R)⟩]
theorem wpos {R:Nat->Row}{n i:Nat}(h:rowsPos R n) (hi:i<n):rowPos (R i).cell (R i).n:=⟨Row.ok (h.2 i hi).1,(h.2 i hi).2⟩
theorem ro_ls {st:AE.Stat}(hx:Hx st):LoopSR true Tryz.prog st gl0 (.loop (loopAt Tryz.f76 58)) roI.g:=by
 refine roI.ok (E:=envZ [(116,clC rowPos)] noLp 0) (p:=500) (tblD_env (l:=[(116,clC rowPos)]) fun x h=>?_) (glOk st).1 (fun _ _ _ h=>nomatch h) (fun x k h=>h) fun x hx2=>?_
 ·simp only [List.mem_cons,List.not_mem_nil,or_false] at h;subst h;exact clC_ok hx
 obtain ⟨T,R,n,i⟩:=x;obtain ⟨hi,hR⟩:i<=n/\rowsPos R n:=hx2;have hn:=hR.1;refine (ro_loop n i rowPos (upR T i) R _).trans ?_;simp only [Int.toNat_natCast,Nat.add_zero,Nat.zero_add]
 refine dS (fun hlt=>?_) fun hge=>?_
 ·have hlt:i<n:=by omega
  refine dT (by omega) (dT hlt (hT (wpos hR hlt) (dT (by omega) (dT hlt (LInv.ask_of ⟨rfl,⟨T,R,n,i+1⟩,⟨rfl,rfl,rfl,hlt,hR⟩,by simp only [roI]; omega,[],.of (im:=[some 0]) (.cons (.os rfl) (.cons (.v _) (.cons (by rw [W_in (by omega) (by omega)]; exact .v _) .nil))) rfl ⟨⟨0,_,rfl,rfl,rfl,Nat.le_refl _,trivial,fun j f hj hf=>?_⟩,trivial⟩ rfl (by decide)⟩)))))
  have hf:f<1:=hf
  obtain rfl:f=0:=by omega
  show Sub _ (.sl (upR T (i+1) j) (R j).cell 5 (R j).n) (if j=i/\0=0 then .sl false (rowOf (R i).cell (R i).n).cell 5 (R i).n else .sl (upR T i j) (R j).cell 5 (R j).n)
  by_cases hji:j=i
  ·subst hji
   have e:upR T (j+1) j=false:=by unfold upR; rw [if_pos (by omega)]
   rw [if_pos ⟨rfl,rfl⟩,e];exact .of_clo (.sl _ _ _ _)
  ·rw [if_neg (fun h=>hji h.1)]
   have e:upR T (i+1) j=upR T i j:=by
    unfold upR
    by_cases h:j<i
    ·rw [if_pos h,if_pos (by omega)]
    ·rw [if_neg h,if_neg (by omega)]
   rw [e];exact .of_clo (.sl _ _ _ _)
 ·obtain rfl:n=i:=by omega
  exact LInv.ask_of ⟨rfl,rfl,[],.of (im:=[some 0]) (.cons (.os rfl) .nil) rfl ⟨⟨0,_,rfl,rfl,rfl,Nat.le_refl _,trivial,fun j f hj hf=>.of_clo (.sl _ _ _ _)⟩,trivial⟩ rfl (by decide)⟩
theorem crC_ok {st:AE.Stat}(hx:Hx st):ConOkZ true Tryz.prog st 115 (crC rowsAreP):=by
 refine con_ofZ (mg:=[]) (l:=[]) (lp:=noLp) (n:=0) (glOk st) (fun _ h=>nomatch h) Tryz.func115 (by kernel_rfl) (by kernel_rfl) (hx 115 rfl) (fun _ _ _ h=>nomatch h) fun args k hk=>?_
 unfold crC at hk
 split at hk<;>first | (cases hk; done) | skip
 rename_i t G n;obtain ⟨hb,hk⟩:=bif_none hk;obtain ⟨⟨hn,hb⟩,hp,hT⟩:=holds_eq.1 hb
 refine ⟨[.sl t (rowsD (fun i=>slT (G i 0)) fun i=>rowD (G i 0)) 1 n],_,.cons (rows_cv hb) .nil,hk,fun b=>⟨⟨.os _ _ _,fun id blk hb2 i f hi _=>?_⟩,(cr_tree t _ _ n _).trans (dT hp ?_)⟩⟩
 ·cases id with
  | succ id=>simp at hb2
  | zero =>
   obtain rfl:(⟨1,.tab n (rowsD (fun i=>slT (G i 0)) fun i=>rowD (G i 0))⟩:DBlk)=blk:=Option.some.inj (Option.some.inj hb2)
   have hi:i<n:=hi;show Low (.sl (slT (G i 0)) _ _ _);rw [hT i hi]
   exact .sl fun j g _ _=>row_low _ _ _
 ·have hz:0+n=n:=Nat.zero_add _;rw [hz]
  refine dT (by omega) (fin_of ?_)
  exact finQ_own (id:=1) (blk:=⟨1,.app (.pre (.lst []) 0) (.tab n (rowsD (fun i=>slT (G i 0)) fun i=>rowD (G i 0)))⟩) rfl rfl rfl (by show n<=0+n; omega) trivial fun i f hi hf=>⟨.sl _ _ _ _,by
   show (if i<0 then _ else rowsD _ _ (i-0) f)=_
   rw [if_neg (Nat.not_lt_zero _)]; rfl⟩
theorem rb_tree (t:Bool) (Q:(Nat->Nat->DV)->Nat->Prop) (T:Nat->Bool) (R:Nat->Row) (n:Nat) (K:DV->DHeap->Option Unit):bodyD Tryz.prog (envZ [(115,crC Q)] (lpOf [(58,roI.g)]) 0) Tryz.f76 [.sl t (rowsD T R) 1 n] [] (fun d σ=>K d σ) =
  bif holds (Q (rowsD T R) n) then bif holds ((Nat.le 0 n/\Nat.le n 9000000/\∀ (i:Nat),i<n->(Nat.le (Row.n ((R) i)) 9000000/\∀ (i_1:Nat),i_1<Row.n ((R) i)->Nat.le (ByteArray.size (Row.tx ((R) i) i_1)) 9000000)/\Nat.le 1 (Row.n ((R) i)))/\∃ ids,WkP 1 ids [.os 0 0 n,iv (n:Int),iv 0] [some ⟨1,.tab n fun a _=>DV.sl (slT (.sl (T a) (Row.cell (R a)) 5 (Row.n (R a)))) (Row.cell (R a)) 5 (Row.n (R a))⟩] [.os 0 0 n,iv (n:Int),iv 0] [some ⟨1,.tab n (rowsD (upR (fun i=>slT (.sl (slT (.sl (T i) (Row.cell (R i)) 5 (Row.n (R i)))) (Row.cell (R i)) 5 (Row.n (R i)))) 0) (R))⟩])
  then K (.os 0 0 n) [some ⟨1,.tab n (rowsD (upR (fun i=>slT (.sl (slT (.sl (T i) (Row.cell (R i)) 5 (Row.n (R i)))) (Row.cell (R i)) 5 (Row.n (R i)))) n) (R))⟩] else none else none:=by
 kernel_rfl
def rowsGo (G:Nat->Nat->DV) (n:Nat):Prop:=rowsAre G n/\∀ i,i<n->slT (G i 0)=false
noncomputable def roC (Q:(Nat->Nat->DV)->Nat->Prop):ConF:=fun args k=>match args with
 | [.sl _ G 1 n]=>bif holds (Q G n) then k (fun _=>(.sl false (rowsD (fun _=>false) fun i=>rowD (G i 0)) 1 n,[])) else none
 | _=>none
theorem rows_low (R:Nat->Row) (n:Nat):Low (.sl false (rowsD (fun _=>false) R) 1 n):=.sl fun i f _ _=>.sl fun j g _ _=>row_low _ _ _
theorem ro1_ok {st:AE.Stat}(hx:Hx st):ConOkZ true Tryz.prog st 76 (roC fun G n=>rowsGo G n/\0<n):=by
 refine con_frz (E:=envZ [(115,crC rowsAreP)] (lpOf [(58,roI.g)]) 0) rfl (glOk st) (tblD_env (l:=[(115,crC rowsAreP)]) fun x h=>?_) Tryz.func76 (by kernel_rfl) (by kernel_rfl) (hx 76 rfl) (lp_in (c0:=.loop (loopAt Tryz.f76 58)) (by kernel_rfl) (ro_ls hx)) fun args k hk=>?_
 ·simp only [List.mem_cons,List.not_mem_nil,or_false] at h;subst h;exact crC_ok hx
 unfold roC at hk
 split at hk<;>first | (cases hk; done) | skip
 rename_i t G n;obtain ⟨hb,hk⟩:=bif_none hk;obtain ⟨⟨⟨hn,hG⟩,hF⟩,hp⟩:=holds_eq.1 hb
 have ha:rowsAreP (rowsD (fun i=>slT (G i 0)) fun i=>rowD (G i 0)) n:=⟨⟨hn,fun i hi=>isRow_of (hG i hi).1.2.row⟩,hp,hF⟩
 refine ⟨[.sl t (rowsD (fun i=>slT (G i 0)) fun i=>rowD (G i 0)) 1 n],_,.cons (rows_cv fun i hi=>(hG i hi).1) .nil,rows_low _ n,hk,(rb_tree t rowsAreP (fun i=>slT (G i 0)) (fun i=>rowD (G i 0)) n _).trans (hT ha (hT ⟨⟨Nat.zero_le _,hn,fun i hi=>⟨(hG i hi).1.2.row,(hG i hi).2⟩⟩,[],.of (im:=[some 0]) (.cons (.os rfl) (.cons (.v _) (.cons (.v _) .nil))) rfl ⟨⟨0,_,rfl,rfl,rfl,Nat.le_refl _,trivial,fun j f hj hf=>.of_clo (.sl _ _ _ _)⟩,trivial⟩ rfl (by decide)⟩ ?_))⟩
 refine fzq_of ⟨[0],SubZ.cv (Cv.sl fun i f hi hf=>.of ?_) (SubZ.fz0 (c:=.tab n (rowsD (upR (fun i=>slT (G i 0)) n) fun i=>rowD (G i 0))) rfl (Nat.le_refl _) fun _ _=>rfl),fun j hj blk hb i f _ _=>?_⟩
 ·show DV.sl (upR _ n i) _ _ _=.sl false _ _ _;unfold upR;rw [if_pos hi]
 ·obtain rfl:j=0:=by simpa using hj
  obtain rfl:(⟨1,.tab n (rowsD (upR (fun i=>slT (G i 0)) n) fun i=>rowD (G i 0))⟩:DBlk)=blk:=Option.some.inj (Option.some.inj hb)
  exact .sl _ _ _ _
theorem c0_nil (st:AE.Stat) (rf:CallA) (σ:Heap) (n:Nat):bodyA Tryz.prog st rf n Tryz.f115 [.slice none 0 0] σ=some (.slice none 0 0,σ):=by kernel_rfl
theorem c0_emp (st:AE.Stat) (rf:CallA) (σ:Heap) (a:Addr) (cap n:Nat):bodyA Tryz.prog st rf n Tryz.f115 [.slice (some a) 0 cap] σ=some (.slice (some ⟨σ.length,0,none⟩) 0 0,σ++[some (.cells [])]):=by kernel_rfl
theorem st_more {st:AE.Stat}{C:Cf}{σ:Heap}(h:St st C noMu σ []) (ex:List (Option Blk)) (s:Nat):St st C noMu (σ++ex) (List.replicate s none++[]) :=
 ⟨fun t b s o v q=>cellA_append (h.frz t b s o v q),fun id blk hb=>(by have:=(repl_get.1 hb).2; simp at this),fun id blk b x hb=>(by have:=(repl_get.1 hb).2; simp at this),fun id id' blk blk' b x x' hb=>(by have:=(repl_get.1 hb).2; simp at this),
  fun id x hx=>(by cases hx),fun t b o v q=>(by have:=h.low t b o v q; rw [List.length_append]; omega),h.sta⟩
noncomputable def c0C:ConF:=fun args k=>match args with
 | [.sl _ _ 1 0]=>k (fun _=>(.sl false (rowsD (fun _=>false) fun _=>blkRow 0) 1 0,[]))
 | _=>none
theorem c0C_ok {st:AE.Stat}(hx:Hx st):ConOkZ true Tryz.prog st 115 c0C:=by
 intro args k hk s C σ vs hS ha;unfold c0C at hk
 split at hk<;>first | (cases hk; done) | skip
 rename_i t g;obtain ⟨v,ys,rfl,hv,hn⟩:=ha.cons_inv;obtain rfl:=hn.nil_inv
 have ent:∀ n m,1<=m->enterA Tryz.prog (runF Tryz.prog st n m) 115 [v] σ=bodyA Tryz.prog st (runF Tryz.prog st n (m-1)) n Tryz.f115 [v] σ:=fun n m hm=>by
  obtain ⟨m,rfl⟩:∃ m',m=m'+1:=⟨m-1,by omega⟩
  have h1:(Tryz.f115.name== "runtime.NumGoroutine")=false:=by kernel_rfl
  have h2:Tryz.f115.body.isNone=false:=by kernel_rfl
  unfold enterA;rw [Tryz.func115];simp only [h1,h2,Bool.false_eq_true,if_false,runF,Tryz.func115,hx 115 rfl];rfl
 have nolive:∀ b,¬ Live noMu (List.replicate s none++([]:DHeap)) b:=by
  rintro b ⟨id,blk,x,hb,_⟩
  have:=(repl_get.1 hb).2;simp at this
 have low:LowR ((.sl false (rowsD (fun _=>false) fun _=>blkRow 0) 1 0:DV),([]:DHeap)):=lowR_flat (rows_low _ 0)
 rcases hv.sl_inv with ⟨a,cap,w,rfl,hc,hk0,q1,q2⟩ | ⟨_,rfl⟩
 ·refine ⟨_,hk,low,_,_,C,noMu,⟨1,fun n m _ hm=>(ent n m hm).trans (c0_emp st _ σ a cap n)⟩,st_more hS _ s,?_,fun id x hx=>(by cases hx),?_,fun b hb=>?_,fun b hl=>(nolive b hl).elim,fun b s o v hv=>.inl hv⟩
  ·exact .sl false _ 1 0 ⟨σ.length,0,none⟩ 0 (fun _ _=>undef) (.inl ⟨by decide,Nat.le_refl _⟩) (by decide) (fun i f hi _=>absurd hi (Nat.not_lt_zero _)) fun i f hi _=>absurd hi (Nat.not_lt_zero _)
  ·rw [List.length_append]; omega
  ·exact List.getElem?_append_left hb
 ·have h0:=st_more hS [] s;rw [List.append_nil] at h0
  exact ⟨_,hk,low,_,_,C,noMu,⟨1,fun n m _ hm=>(ent n m hm).trans (c0_nil st _ σ n)⟩,h0,.slnil _ _ _,fun id x hx=>(by cases hx),Nat.le_refl _,fun b hb=>rfl,fun b hl=>(nolive b hl).elim,fun b s o v hv=>.inl hv⟩
theorem rz_tree (t:Bool) (G:Nat->Nat->DV) (K:DV->DHeap->Option Unit):bodyD Tryz.prog (envZ [(115,c0C)] noLp 2) Tryz.f76 [.sl t G 1 0] [] (fun d σ=>K d σ) =
  K (.sl false (fun a _=>DV.sl false (Row.cell (blkRow 0)) 5 0) 1 0) []:=by
 kernel_rfl
theorem ro0_ok {st:AE.Stat}(hx:Hx st):ConOkZ true Tryz.prog st 76 (roC fun _ n=>n=0):=by
 refine con_frz (E:=envZ [(115,c0C)] noLp 2) rfl (glOk st) (tblD_env (l:=[(115,c0C)]) fun x h=>?_) Tryz.func76 (by kernel_rfl) (by kernel_rfl) (hx 76 rfl) (fun _ _ _ h=>nomatch h) fun args k hk=>?_
 ·simp only [List.mem_cons,List.not_mem_nil,or_false] at h;subst h;exact c0C_ok hx
 unfold roC at hk
 split at hk<;>first | (cases hk; done) | skip
 rename_i t G n;obtain ⟨hb,hk⟩:=bif_none hk;obtain rfl:=holds_eq.1 hb
 exact ⟨[.sl t G 1 0],.sl false (rowsD (fun _=>false) fun i=>rowD (G i 0)) 1 0,.self .nil,rows_low _ 0,hk,(rz_tree t G _).trans (fzq_of ⟨[],SubZ.cv (Cv.sl fun i f hi _=>absurd hi (Nat.not_lt_zero _)) (Sub.of_clo (.sl _ _ _ _)).z,fun j hj=>nomatch hj⟩)⟩
theorem roC_ok {st:AE.Stat}(hx:Hx st):ConOkZ true Tryz.prog st 76 (roC rowsGo):=fun args k hk=>by
 unfold roC at hk
 split at hk<;>first | (cases hk; done) | skip
 rename_i t G n;obtain ⟨hb,hk⟩:=bif_none hk;have hb:=holds_eq.1 hb
 rcases Nat.eq_zero_or_pos n with rfl | hp
 ·exact ro0_ok hx [.sl t G 1 0] k (hT rfl hk)
 ·exact ro1_ok hx [.sl t G 1 n] k (hT ⟨hb,hp⟩ hk)
def Tm.own (x:Tm):Tm:={ x with gT:=fun _=>false,oT:=fun _=>false,bT:=fun _=>false }
noncomputable def owC (Q:List DV->Prop) (O:Tm->List DV):ConF:=fun args k=>match args with
 | [.agg l]=>bif holds (Q l) then k (fun _=>(.agg (O (tmOf l)),[])) else none
 | _=>none
theorem ow_tree (Q Q2:(Nat->Nat->DV)->Nat->Prop) (x:Tm) (k:DV->Option Unit):bodyD Tryz.prog (envZ [(76,roC Q),(77,cbC Q2)] noLp 0) Tryz.f35 [.agg x.cells] [] (fun d _=>k d) =
  bif holds (Q (rowsD x.gT x.gR) x.gn) then bif holds (Q (rowsD x.oT x.oR) x.on) then bif holds (Q (rowsD x.bT x.bR) x.bn) then bif holds (Q2 (tabsD x.tb) x.tn) then k (.agg [iv (x.I 0),iv (x.I 1),.sl false (rowsD (fun _=>false) x.gR) 1 x.gn,iv (x.I 3),iv (x.I 4),.sl false (rowsD (fun _=>false) x.oR) 1 x.on,iv (x.I 6),iv (x.I 7),bv (x.B 8),iv (x.I 9),iv (x.I 10),bv (x.B 11),iv (x.I 12),iv (x.I 13),iv (x.I 14),bv (x.B 15),kv .u8 ((x.I 16)),kv .u8 ((x.I 17)),iv (x.I 18),iv (x.I 19),iv (x.I 20),iv (x.I 21),bv (x.B 22),bv (x.B 23),bv (x.B 24),bv (x.B 25),bv (x.B 26),bv (x.B 27),bv (x.B 28),bv (x.B 29),kv .u8 ((x.I 30)),kv .u8 ((x.I 31)),iv (x.I 32),iv (x.I 33),iv (x.I 34),.sl false (tabsD x.tb) 1 x.tn,.sl false (rowsD (fun _=>false) x.bR) 1 x.bn,iv (x.I 37),sv (x.S 38),sv (x.S 39),sv (x.S 40),sv (x.S 41)])
  else none else none else none else none:=by
 kernel_rfl
end Go.Proofs.YtigmkgampfbflaaGreatDoor
namespace Go.Proofs.YtigmkgampfbflaaGreatDoor
open Go Go.AE Go.DE Go.RowKit
theorem gk_loop (F:Row->Int) (w h:Int) (t:Bool) (T:Nat->Bool) (R:Nat->Row) (n i:Nat) (K:Ex->Nat->List DV->List DV->DHeap->Option Unit):execD Tryz.prog (env [(33,rcC F)] noLp 0) (loopAt Tryz.f26 122) 500 (temps 39 [1,22,23,24] [.po 0 0 0,.sl t (rowsD T R) 1 n,iv n,iv i]) [some ⟨3,.lst [[iv w,iv h,.any]]⟩] (fun e τ σ=>K e τ.length (pick [1,22,23,24] τ) (pick [] τ) σ) =
  bif decide ((i:Int)<(n:Int)) then bif decide ((i:Int)<(n:Int)) then bif decide (tN i<n) then bif (↑(Row.n (R (tN i))):Int) != w then K .ret 39 [.po 0 0 0,.sl t (rowsD T R) 1 n,iv (n:Int),iv (i:Int)] [] [some ⟨3,.lst [[iv w,iv h,DV.any]]⟩]
  else bif holds (Nat.le (Row.n (R (tN i))) 9000000/\∀ (i_1:Nat),i_1<Row.n (R (tN i))->sv (Row.tx (R (tN i)) i_1)=sv (strD (sv (Row.tx (R (tN i)) i_1)))/\Nat.le (ByteArray.size (strD (sv (Row.tx (R (tN i)) i_1)))) 9000000/\iv (Row.wd (R (tN i)) i_1)=iv (numD (iv (Row.wd (R (tN i)) i_1)))/\iv (Row.fo (R (tN i)) i_1)=iv (numD (iv (Row.fo (R (tN i)) i_1)))/\iv (Row.ba (R (tN i)) i_1)=iv (numD (iv (Row.ba (R (tN i)) i_1)))/\iv (Row.fl (R (tN i)) i_1)=iv (numD (iv (Row.fl (R (tN i)) i_1))))
  then bif F { n:=Row.n (R (tN i)),tx:=fun i_1=>strD (sv (Row.tx (R (tN i)) i_1)),wd:=fun i_1=>numD (iv (Row.wd (R (tN i)) i_1)),fo:=fun i_1=>numD (iv (Row.fo (R (tN i)) i_1)),ba:=fun i_1=>numD (iv (Row.ba (R (tN i)) i_1)),fl:=fun i_1=>numD (iv (Row.fl (R (tN i)) i_1)) } != 0
  then K .ret 39 [.po 0 0 0,.sl t (rowsD T R) 1 n,iv (n:Int),iv (i:Int)] [] [some ⟨3,.lst [[iv w,iv h,DV.any]]⟩] else K .normal 39 [.po 0 0 0,.sl t (rowsD T R) 1 n,iv (n:Int),iv (IntKind.wrap .i64 ((i:Int)+1))] [] [some ⟨3,.lst [[iv w,iv h,DV.any]]⟩]
  else none else none else none else K (.exit 0) 39 [.po 0 0 0,.sl t (rowsD T R) 1 n,iv (n:Int),iv (i:Int)] [] [some ⟨3,.lst [[iv w,iv h,DV.any]]⟩]:=by
 kernel_rfl
structure ZK where
 w:Int
 h:Int
 t:Bool
 T:Nat->Bool
 R:Nat->Row
 n:Nat
 i:Nat
noncomputable def gkI:LInv ZK where
 pre x:=x.i<=x.n/\rowsOk x.R x.n/\∀ j,j<x.n->((x.R j).n:Int)=x.w/\rowF (x.R j)=0
 m:=1
 n:=39
 ps:=[1,22,23,24]
 sd x:=[.po 0 0 0,.sl x.t (rowsD x.T x.R) 1 x.n,iv x.n,iv x.i]
 sh x:=[some ⟨3,.lst [[iv x.w,iv x.h,.any]]⟩]
 meas x:=x.n-x.i
 e _:=.exit 0
 qs:=[]
 od _:=[]
 oh _:=[none]
 guess ds σ:=match ds,σ with
  | [_,.sl t g 1 n,_,_],[some ⟨_,c⟩]=>(match c.get 0 0,c.get 0 1 with
   | .v (.int _ w),.v (.int _ h)=>some ⟨w,h,t,fun i=>slT (g i 0),fun i=>rowD (g i 0),n,0⟩
   | _,_=>none)
  | _,_=>none
 cps _ k:=k (.exit 0) [] [none]
theorem wkG {c:DC}{w h:Int}{ds ds2:List DV}(tm:SubL (ren 1 []) ds2 ds) (hn:1<=c.n) (h0:c.get 0 0=iv w) (h1:c.get 0 1=iv h):WkP 1 [] ds [some ⟨3,c⟩] ds2 [some ⟨3,.lst [[iv w,iv h,.any]]⟩] :=
 ⟨tm,rfl,⟨⟨0,_,rfl,rfl,rfl,hn,trivial,fun i f hi hf=>by
  obtain rfl:i=0:=by
   have:i<1:=hi;omega
  have hf:f<3:=hf
  match f with
  | 0=>show Sub _ (iv w) (c.get 0 0); rw [h0]; exact .v _
  | 1=>show Sub _ (iv h) (c.get 0 1); rw [h1]; exact .v _
  | 2=>exact .any _
  | f+3=>omega⟩,trivial⟩,(by decide:([some 0]:List (Option Nat)).Nodup)⟩
theorem gk_ls {st:AE.Stat}(hx:Hx st) (hv:VdOk st):LoopS Tryz.prog st gl0 (.loop (loopAt Tryz.f26 122)) gkI.g:=by
 refine gkI.ok (E:=env [(33,rcC rowF)] noLp 0) (p:=500) (tblD_env (l:=[(33,rcC rowF)]) fun x h=>?_) (glOk st).1 (fun _ _ _ h=>nomatch h) (fun x k h=>h) fun x hx2=>?_
 ·simp only [List.mem_cons,List.not_mem_nil,or_false] at h;subst h;exact rrC_ok hx hv
 obtain ⟨w,h,t,T,R,n,i⟩:=x;obtain ⟨hi,hR,hz⟩:i<=n/\rowsOk R n/\∀ j,j<n->((R j).n:Int)=w/\rowF (R j)=0:=hx2;have hn:=hR.1;refine (gk_loop rowF w h t T R n i _).trans ?_;simp only [Int.toNat_natCast,Nat.add_zero]
 refine dS (fun hlt=>?_) fun hge=>?_
 ·have hlt:i<n:=by omega
  have hW:IntKind.i64.wrap ((i:Int)+1)=((i+1:Nat):Int):=by rw [W_in (by omega) (by omega)]; omega
  rw [hW];obtain ⟨z1,z2⟩:=hz i hlt
  have e1:(((R i).n:Int) != w)=false:=by rw [z1]; exact bne_self_eq_false _
  have e2:(rowF (R i) != 0)=false:=by rw [z2]; rfl
  refine dT (by omega) (dT hlt (cF e1 (hT (Row.ok (hR.2 i hlt)) (cF e2 ?_))))
  exact LInv.ask_of ⟨rfl,⟨w,h,t,T,R,n,i+1⟩,⟨rfl,rfl,rfl,hlt,hR,hz⟩,by simp only [gkI]; omega,[],wkG (.cons (.po rfl) (.cons (.sl _ _ _ _) (.cons (.v _) (.cons (.v _) .nil)))) (Nat.le_refl _) rfl rfl⟩
 ·exact LInv.ask_of ⟨rfl,rfl,[],wkN .nil⟩
noncomputable abbrev szP:ConF:=inl2 Tryz.prog (env [] noLp 0) Tryz.f67
theorem szP_ok {st:AE.Stat}(hx:Hx st):ConOk Tryz.prog st 67 szP:=inl2_ok Tryz.func67 (by kernel_rfl) (by kernel_rfl) (hx 67 rfl) (glOk st) (tblD_env (l:=[]) fun _ h=>nomatch h) (fun _ _ _ h=>nomatch h)
theorem gk_tree (w h:Int) (t:Bool) (T:Nat->Bool) (R:Nat->Row) (n:Nat) (k:DV->Option Unit):bodyD Tryz.prog (env [(67,szP)] (lpOf [(122,gkI.g)]) 0) Tryz.f26 [.agg [iv w,iv h,.sl t (rowsD T R) 1 n]] [] (fun d _=>k d) =
  bif decide (w<1) then k (iv 2) else bif decide (w > 132) then k (iv 2) else bif decide (h<1) then k (iv 2) else bif decide (h > 60) then k (iv 2) else bif (n:Int) != h then k (iv 1) else bif holds ((Nat.le 0 n/\(Nat.le n 9000000/\∀ (i:Nat),i<n->Nat.le (Row.n (R i)) 9000000/\∀ (i_1:Nat),i_1<Row.n (R i)->Nat.le (ByteArray.size (Row.tx (R i) i_1)) 9000000)/\∀ (j:Nat),j<n->(↑(Row.n (R j)):Int)=w/\rowF (R j)=0)/\∃ ids,WkP 1 ids [.po 0 0 0,.sl t (rowsD T R) 1 n,iv (n:Int),iv 0] [some ⟨3,.lst [[iv w,iv h,.sl t (rowsD T R) 1 n]]⟩] [.po 0 0 0,.sl t (fun a _=>DV.sl (slT (.sl (T a) (Row.cell (R a)) 5 (Row.n (R a)))) (Row.cell (R a)) 5 (Row.n (R a))) 1 n,iv (n:Int),iv 0] [some ⟨3,.lst [[iv w,iv h,DV.any]]⟩])
  then k (iv 0) else none:=by
 kernel_rfl
def gridQ (w h:Int) (G:Nat->Nat->DV) (n:Nat):Prop:=1<=w/\w<=132/\1<=h/\h<=60/\(n:Int)=h/\n<=9000000/\∀ i,i<n->isRow (G i 0)/\(slN (G i 0):Int)=w/\rowF (rowD (G i 0))=0
noncomputable def gkC (Q:Int->Int->(Nat->Nat->DV)->Nat->Prop):ConF:=fun args k=>match args with
 | [.agg [.v (.int .i64 w),.v (.int .i64 h),.sl _ G 1 n]]=>bif holds (Q w h G n) then k (fun _=>(iv 0,[])) else none
 | _=>none
theorem gkC_ok {st:AE.Stat}(hx:Hx st) (hv:VdOk st):ConOk Tryz.prog st 26 (gkC gridQ):=by
 refine con_flat (mg:=[]) (l:=[(67,szP)]) (lp:=lpOf [(122,gkI.g)]) (n:=0) (glOk st) (fun x h=>?_) Tryz.func26 (by kernel_rfl) (by kernel_rfl) (hx 26 rfl) (lp_one (by kernel_rfl) (gk_ls hx hv)) fun args k hk=>?_
 ·simp only [List.mem_cons,List.not_mem_nil,or_false] at h;subst h;exact szP_ok hx
 unfold gkC at hk
 split at hk<;>first | (cases hk; done) | skip
 rename_i w h t G n;obtain ⟨hb,hk⟩:=bif_none hk;obtain ⟨h1,h2,h3,h4,h5,h6,h7⟩:=holds_eq.1 hb
 have n1:∀ {p:Prop} [Decidable p],¬ p->decide p=false:=fun h=>decide_eq_false h
 refine ⟨[.agg [iv w,iv h,.sl t (rowsD (fun i=>slT (G i 0)) fun i=>rowD (G i 0)) 1 n]],_,.cons (Cv.agg (.cons (Cv.of rfl) (.cons (Cv.of rfl) (.cons (rows_cv fun i hi=>(h7 i hi).1) .nil)))) .nil,v_clo _,hk,(gk_tree w h t (fun i=>slT (G i 0)) (fun i=>rowD (G i 0)) n _).trans ?_⟩
 refine cF (n1 (by omega)) (cF (n1 (by omega)) (cF (n1 (by omega)) (cF (n1 (by omega)) (cF (by rw [h5]; exact bne_self_eq_false _) ?_))))
 exact hT ⟨⟨Nat.zero_le _,⟨h6,fun i hi=>(h7 i hi).1.2.row⟩,fun j hj=>⟨(h7 j hj).2.1,(h7 j hj).2.2⟩⟩,[],wkG (.cons (.po rfl) (.cons (.sl _ _ _ _) (.cons (.v _) (.cons (.v _) .nil)))) (Nat.le_refl _) rfl rfl⟩ (isD_of rfl)
end Go.Proofs.YtigmkgampfbflaaGreatDoor
namespace Go.Proofs.YtigmkgampfbflaaGreatDoor
open Go Go.AE Go.DE Go.RowKit
theorem last_ne {F G:ByteArray->Int}{r:Row}:∀ (m i:Nat),r.n<=i+m->p7 F G r m i=0->∀ j,i<=j->j<r.n->r.wd j=2->j+1<r.n
 | 0,i,hm,_,j,h1,h2,_=>by omega
 | m+1,i,hm,h,j,h1,h2,h3=>by
  rw [p7,if_pos (by omega)] at h
  unfold p7s at h
  obtain ⟨q1,h⟩:=cond_n h (by decide)
  obtain ⟨q2,h⟩:=cond_n h (by decide)
  obtain ⟨q3,h⟩:=cond_n h (by decide)
  cases q4:r.wd i==1 with
  | true =>
   rw [q4,cond_true] at h
   by_cases e:i=j
   ·subst e;rw [h3] at q4;cases q4
   ·exact last_ne m (i+1) (by omega) h j (by omega) h2 h3
  | false =>
   rw [q4,cond_false] at h
   obtain ⟨q5,h⟩:=cond_n h (by decide)
   obtain ⟨q6,h⟩:=cond_y h (by decide)
   have q5:i+1≠r.n:=fun e=>by rw [e] at q5; simp at q5
   by_cases e:i=j
   ·omega
   by_cases e2:i+1=j
   ·subst e2;unfold Row.half at q6;rw [h3] at q6
    cases hx:r.tx (i+1)==(⟨#[]⟩:ByteArray)<;>rw [hx] at q6<;>cases q6
   ·exact last_ne m (i+2) (by omega) h j (by omega) h2 h3
theorem rowF_pos {r:Row}(h:rowF r=0):1<=r.n/\r.n<=132/\∀ j,j<r.n->r.wd j=2->j+1<r.n:=by
 unfold rowF at h
 obtain ⟨h1,h⟩:=cond_n h (by decide)
 obtain ⟨h2,h⟩:=cond_n h (by decide)
 have h1:=of_decide_eq_false h1;have h2:=of_decide_eq_false h2
 exact ⟨by omega,by omega,fun j hj h3=>last_ne r.n 0 (by omega) h j (Nat.zero_le _) hj h3⟩
end Go.Proofs.YtigmkgampfbflaaGreatDoor
namespace Go.Proofs.YtigmkgampfbflaaGreatDoor
open Go Go.AE Go.DE Go.RowKit
theorem frzT {id k n:Nat}{c:DC}{g:Nat->Nat->DV}{σ:DHeap}{x:Value}(hb:σ[id]?=some (some ⟨k,c⟩)) (hn:n<=c.n) (hc:∀ i f,i<c.n->f<k->Clo (c.get i f)) (he:∀ i f,i<n->f<k->c.get i f=g i f):fzq (.tup [.sl false g k n,.v x]) (.tup [.os id 0 n,.v x]) σ=some ():=by
 refine fzq_of ⟨[id],SubLZ.tup (.cons (SubZ.cv (Cv.sl fun i f hi hf=>.of (he i f hi hf)) (SubZ.fz0 (c:=c) (by unfold zf; simp [hb]) hn fun _ _=>rfl)) (.cons (Sub.v x).z .nil)),fun j hj blk hb2 i f hi hf=>?_⟩
 obtain rfl:j=id:=by simpa using hj
 rw [hb] at hb2;obtain rfl:(⟨k,c⟩:DBlk)=blk:=Option.some.inj (Option.some.inj hb2);exact hc i f hi hf
def putR (r:Row) (c:Nat) (s:ByteArray) (fo ba fl:Int):Row :=
 ⟨r.n,fun i=>if i=c then s else r.tx i,fun i=>if i=c then 1 else r.wd i,fun i=>if i=c then fo else r.fo i,fun i=>if i=c then ba else r.ba i,fun i=>if i=c then fl else r.fl i⟩
def oneC (s:ByteArray):Prop:=s.size<=9000000/\ccF s=0/\cdF s=1
end Go.Proofs.YtigmkgampfbflaaGreatDoor
