/-
 The contracts of the program's checks of clusters: marked,Check,Width.
 Conditions: none beyond those of the contracts.
-/
import Derived.Test.YtigmkgampfbflaaGreatDoorDeCon
import Derived.Test.YtigmkgampfbflaaGreatDoorJDec
import Derived.Lib.ValidU
import Derived.Lib.ValidLaws
import Derived.Test.YtigmkgampfbflaaGreatDoorAeSub2
import Derived.Test.YtigmkgampfbflaaGreatDoorAeFast4
import Derived.Test.YtigmkgampfbflaaGreatDoorDeLst
import Derived.Test.YtigmkgampfbflaaGreatDoorProg
import Derived.KernelRfl
namespace Go.Proofs.YtigmkgampfbflaaGreatDoor
open Go Go.AE Go.DE Go.RowKit
def mrkR (M:Int->Bool) (z:Nat->Int):Nat->Nat->Bool
 | 0,_=>true
 | m+1,i=>bif M (z i) then mrkR M z m (i+1) else false
structure QX where
 t:Bool
 z:Nat->Int
 n:Nat
 i:Nat
noncomputable def mqI (M:Int->Bool):LInv QX where
 pre x:=x.n<=9000000
 m:=0
 n:=15
 ps:=[5,6,7]
 sd x:=[.sl x.t (rowI .i32 x.z) 1 x.n,iv x.n,iv x.i]
 sh _:=[]
 meas x:=x.n-x.i
 e x:=be (mrkR M x.z (x.n-x.i) x.i)
 qs:=[2]
 od x:=bo false (mrkR M x.z (x.n-x.i) x.i)
 oh _:=[]
 guess ds _:=match ds with
  | [.sl t g 1 n,_,_]=>some ⟨t,fun i=>numD (g i 0),n,0⟩
  | _=>none
 cps x k:=bif holds (mrkR M x.z (x.n-x.i) x.i=true) then k (.exit 0) [.any] [] else k .ret [bv false] []
theorem mq_loop (M:Int->Bool) (t:Bool) (z:Nat->Int) (n i:Nat) (K:Ex->Nat->List DV->List DV->DHeap->Option Unit):execD Tryz.prog (env [(163,markC M)] noLp 0) (loopAt Tryz.f111 26) 500 (temps 15 [5,6,7] [.sl t (rowI .i32 z) 1 n,iv n,iv i]) [] (fun e τ σ=>K e τ.length (pick [5,6,7] τ) (pick [2] τ) σ) =
  bif decide ((i:Int)<(n:Int)) then bif decide ((i:Int)<(n:Int)) then bif decide (tN i<n) then bif !M (z (tN i)) then K .ret 15 [.sl t (fun a _=>kv .i32 ((z a))) 1 n,iv (n:Int),iv (i:Int)] [bv false] []
  else K .normal 15 [.sl t (fun a _=>kv .i32 ((z a))) 1 n,iv (n:Int),iv (IntKind.wrap .i64 ((i:Int)+1))] [DV.any] [] else none else none else K (.exit 0) 15 [.sl t (fun a _=>kv .i32 ((z a))) 1 n,iv (n:Int),iv (i:Int)] [DV.any] []:=by
 kernel_rfl
theorem mq_tree (M:Int->Bool) (t:Bool) (z:Nat->Int) (n:Nat) (k:DV->Option Unit):bodyD Tryz.prog (env [(163,markC M)] (lpOf [(26,(mqI M).g)]) 0) Tryz.f111 [.sl t (rowI .i32 z) 1 n] [] (fun d _=>k d) =
  bif holds (Nat.le n 9000000/\∃ ids,WkP (LInv.m (mqI M)) ids [.sl t (fun a _=>kv .i32 ((z a))) 1 n,iv (n:Int),iv 0] [] [.sl t (fun a _=>kv .i32 ((numD (kv .i32 ((z a)))))) 1 n,iv (n:Int),iv 0] (LInv.sh (mqI M) { t:=t,z:=fun i=>numD (kv .i32 ((z i))),n:=n,i:=0 }))
  then bif holds (mrkR M (fun i=>numD (kv .i32 ((z i)))) (n-0) 0=true) then k (bv true) else k (bv false) else none:=by
 kernel_rfl
theorem mq_ls {st:AE.Stat}(hx:Hx st):LoopS Tryz.prog st gl0 (.loop (loopAt Tryz.f111 26)) (mqI (findF mkL)).g:=by
 refine (mqI (findF mkL)).ok (E:=env [(163,markC (findF mkL))] noLp 0) (p:=500) (tblD_env (l:=[(163,markC (findF mkL))]) (fun x h=>?_)) (glOk st).1 (fun _ _ _ h=>nomatch h) (fun x k h=>b_cps h) fun x hx2=>?_
 ·simp only [List.mem_cons,List.not_mem_nil,or_false] at h;subst h;exact cmC_ok hx
 obtain ⟨t,z,n,i⟩:=x;have hn:n<=9000000:=hx2;refine (mq_loop (findF mkL) t z n i _).trans ?_;simp only [Int.toNat_natCast,Nat.add_zero,Nat.zero_add]
 refine dS (fun hlt=>?_) fun hge=>?_
 ·have hlt:i<n:=by omega
  have e:n-i=(n-(i+1))+1:=by omega
  have hW:IntKind.i64.wrap ((i:Int)+1)=((i+1:Nat):Int):=by rw [W_in (by omega) (by omega)]; omega
  rw [hW]
  have hq:mrkR (findF mkL) z (n-i) i=bif findF mkL (z i) then mrkR (findF mkL) z (n-(i+1)) (i+1) else false:=by rw [e,mrkR]
  refine dT (by omega) (dT hlt (cS (fun h=>?_) fun h=>?_))
  ·have h:findF mkL (z i)=false:=by simpa using h
   rw [h,cond_false] at hq;refine LInv.ask_of ⟨rfl,?_,[],?_⟩
   ·simp only [mqI]; rw [hq]; rfl
   ·simp only [mqI]; rw [hq]; exact wk0 (.cons (.v _) .nil) rfl
  ·have h:findF mkL (z i)=true:=by simpa using h
   rw [h,cond_true] at hq;refine LInv.ask_of ⟨rfl,⟨t,z,n,i+1⟩,⟨?_,?_,rfl,hn⟩,?_,[],wk0 (.cons (.sl _ _ _ _) (.cons (.v _) (.cons (.v _) .nil))) rfl⟩
   ·simp only [mqI]; rw [hq]
   ·simp only [mqI]; rw [hq]
   ·simp only [mqI]; omega
 ·have hr:mrkR (findF mkL) z (n-i) i=true:=by
   have:n-i=0:=by omega
   rw [this,mrkR]
  refine LInv.ask_of ⟨rfl,?_,[],?_⟩
  ·simp only [mqI]; rw [hr]; rfl
  ·simp only [mqI]; rw [hr]; exact wk0 (.cons (.any _) .nil) rfl
def mrkF (z:Nat->Int) (n:Nat):Bool:=mrkR (findF mkL) z n 0
theorem mq_true (t:Bool) (z:Nat->Int) (n:Nat) (hn:n<=9000000):bodyD Tryz.prog (env [(163,markC (findF mkL))] (lpOf [(26,(mqI (findF mkL)).g)]) 0) Tryz.f111 [.sl t (rowI .i32 z) 1 n] [] (fun d _=>isD (bv (mrkF z n)) d)=some ():=by
 refine (mq_tree (findF mkL) t z n _).trans (hT ⟨hn,[],wk0 (.cons (.sl _ _ _ _) (.cons (.v _) (.cons (.v _) .nil))) rfl⟩ ?_);show (bif holds (mrkR (findF mkL) z n 0=true) then _ else _)=some ()
 cases hb:mrkR (findF mkL) z n 0 with
 | true=>exact hT rfl (isD_of (by unfold mrkF; rw [hb]))
 | false=>exact hF (by decide) (isD_of (by unfold mrkF; rw [hb]))
noncomputable def mqC (A:(Nat->Int)->Nat->Bool):ConF:=fun args k=>match args with
 | [d]=>rowK .i32 d fun z n=>bif decide (n<=9000000) then k (fun _=>(bv (A z n),[])) else none
 | _=>none
theorem mqC_ok {st:AE.Stat}(hx:Hx st):ConOk Tryz.prog st 111 (mqC mrkF):=by
 refine con_flat (mg:=[]) (l:=[(163,markC (findF mkL))]) (lp:=lpOf [(26,(mqI (findF mkL)).g)]) (n:=0) (glOk st) (fun x h=>?_) Tryz.func111 (by kernel_rfl) (by kernel_rfl) (hx 111 rfl) (lp_one (by kernel_rfl) (mq_ls hx)) fun args k hk=>?_
 ·simp only [List.mem_cons,List.not_mem_nil,or_false] at h;subst h;exact cmC_ok hx
 unfold mqC at hk
 split at hk<;>first | (cases hk; done) | skip
 obtain ⟨t,z,n,hk,hc⟩:=rowK_some hk;obtain ⟨hn,hk⟩:=dec_none hk;exact ⟨[.sl t (rowI .i32 z) 1 n],_,.cons hc .nil,v_clo _,hk,mq_true t z n hn⟩
def vdF (s:ByteArray):Bool:=Lib.validD s.data.toList
def VdOk (st:AE.Stat):Prop:=∀ s σ,s.size<=9000000->st.ext 70 [.string s] σ=some (.bool (vdF s),σ)
theorem uvC_ok {st:AE.Stat}(hv:VdOk st):ConOk Tryz.prog st 70 (vaG vdF):=by
 refine con_ext Tryz.func70 (by kernel_rfl) (by kernel_rfl) fun args k hk=>?_
 unfold vaG at hk
 split at hk<;>first | (cases hk; done) | skip
 rename_i s;obtain ⟨hn,hk⟩:=dec_none hk
 refine ⟨.bool (vdF s),rfl,hk,fun C σ vs _ ha=>?_⟩
 obtain ⟨x,ys,rfl,h1,h2⟩:=ha.cons_inv;obtain rfl:=h2.nil_inv;obtain ⟨rfl,_⟩:=DR_v h1;exact hv s σ hn
theorem vdv_tree (V:ByteArray->Bool) (s:ByteArray) (k:DV->Option Unit):bodyD Tryz.prog (env [(70,vaG V)] noLp 0) Tryz.f30 [sv s] [] (fun d _=>k d) =
  bif decide (ByteArray.size s<=9000000) then k (bv (V s)) else none:=by
 kernel_rfl
theorem vdC_ok {st:AE.Stat}(hx:Hx st) (hv:VdOk st):ConOk Tryz.prog st 30 (vaG vdF):=by
 refine con_flat (mg:=[]) (l:=[(70,vaG vdF)]) (lp:=noLp) (n:=0) (glOk st) (fun x h=>?_) Tryz.func30 (by kernel_rfl) (by kernel_rfl) (hx 30 rfl) (fun _ _ _ h=>nomatch h) fun args k hk=>?_
 ·simp only [List.mem_cons,List.not_mem_nil,or_false] at h;subst h;exact uvC_ok hv
 unfold vaG at hk
 split at hk<;>first | (cases hk; done) | skip
 rename_i s;obtain ⟨hn,hk⟩:=dec_none hk;exact ⟨[sv s],_,.self .nil,v_clo _,hk,(vdv_tree vdF s _).trans (dT hn (isD_of rfl))⟩
theorem cc_tree (V:ByteArray->Bool) (W:Int->Int) (A:(Nat->Int)->Nat->Bool) (s:ByteArray) (k:DV->Option Unit):bodyD Tryz.prog (env [(30,vaG V),(110,widC W),(111,mqC A)] noLp 0) Tryz.f72 [sv s] [] (fun d _=>k d) =
  bif ByteArray.toList s==ByteArray.toList { data:=#[] } then k (iv 3) else bif decide (ByteArray.size s<=9000000) then bif !V s then k (iv 3) else bif decide (ByteArray.size s<=140737488355328)
  then bif decide (0<(↑(runeN s):Int)) then bif decide (0<runeN s) then bif decide (W (runeAt s 0)<1) then k (iv 9) else bif decide (1<=(↑(runeN s):Int)) then bif decide (1+(runeN s-1)<=DC.n (.tab (runeN s) fun i x=>kv .i32 ((runeAt s i))))
  then bif holds (∀ (i:Nat),i<runeN s-1->kv .i32 ((runeAt s (1+i)))=kv .i32 ((numD (kv .i32 ((runeAt s (1+i))))))) then bif decide (runeN s-(1:Nat)<=9000000) then bif !A (fun i=>numD (kv .i32 ((runeAt s (1+i))))) (runeN s-1)
  then k (iv 9) else bif decide (IntKind.wrap .i64 ((↑(runeN s):Int)-1) > 3) then k (iv 5) else k (iv 0) else none else none else none else none else none else none else none else none:=by
 kernel_rfl
def ccF (s:ByteArray):Int :=
 bif ByteArray.toList s==ByteArray.toList ⟨#[]⟩ then 3 else bif !vdF s then 3 else bif decide (cwF (runeAt s 0)<1) then 9 else
  bif !mrkF (fun i=>runeAt s (1+i)) (runeN s-1) then 9 else bif decide ((runeN s:Int)-1 > 3) then 5 else 0
theorem runeN_pos {s:ByteArray}(h:0<s.size):0<runeN s:=by
 have key:∀ (b i:Nat) (acc:Array Value),acc.size<=(Conv.runesFrom s b i acc).size:=by
  intro b
  induction b with
  | zero=>intro i acc; simp [Conv.runesFrom]
  | succ b ih =>
   intro i acc;unfold Conv.runesFrom;split
   ·have:=ih (i+(Utf8.decode s i).2) (acc.push (.int .i32 (Int.ofNat (Utf8.decode s i).1)));refine Nat.le_trans ?_ this;simp
   ·exact Nat.le_refl _
 unfold runeN
 obtain ⟨m,hm⟩:∃ m,s.size=m+1:=⟨s.size-1,by omega⟩
 rw [hm];unfold Conv.runesFrom;rw [if_pos h];have:=key m (0+(Utf8.decode s 0).2) ((#[]:Array Value).push (.int .i32 (Int.ofNat (Utf8.decode s 0).1)));refine Nat.lt_of_lt_of_le ?_ this;simp
theorem size_pos {s:ByteArray}(h:(ByteArray.toList s==ByteArray.toList ⟨#[]⟩)=false):0<s.size:=by
 rcases Nat.eq_zero_or_pos s.size with h0 | h0
 ·exfalso
  have:s=⟨#[]⟩:=by
   obtain ⟨d⟩:=s;have:d.size=0:=h0;obtain rfl:=Array.eq_empty_of_size_eq_zero this;rfl
  rw [this,beq_self_eq_true] at h;cases h
 ·exact h0
theorem cc_true (s:ByteArray) (hn:s.size<=9000000):bodyD Tryz.prog (env [(30,vaG vdF),(110,widC cwF),(111,mqC mrkF)] noLp 0) Tryz.f72 [sv s] [] (fun d _=>isD (iv (ccF s)) d)=some ():=by
 refine (cc_tree vdF cwF mrkF s _).trans ?_;unfold ccF
 refine cS (fun h=>isD_of (by rw [h]; rfl)) fun h=>?_
 rw [h,cond_false];have h0:=runeN_pos (size_pos h);have hle:=runeN_le s
 refine dT hn (cS (fun h2=>isD_of (by rw [h2]; rfl)) fun h2=>?_)
 rw [h2,cond_false]
 refine dT (by omega) (dT (by omega) (dT h0 (dS (fun h3=>isD_of (by rw [decide_eq_true h3]; rfl)) fun h3=>?_)))
 rw [decide_eq_false h3,cond_false]
 refine dT (by omega) (dT (by show 1+(runeN s-1)<=runeN s; omega) (hT (fun i _=>rfl) (dT (by omega) (cS (fun h4=>isD_of ?_) fun h4=>?_))))
 ·have h4:(!mrkF (fun i=>runeAt s (1+i)) (runeN s-1))=true:=h4
  rw [h4]; rfl
 have h4:(!mrkF (fun i=>runeAt s (1+i)) (runeN s-1))=false:=h4
 rw [h4,cond_false,W_in (by omega) (by omega)]
 refine dS (fun h5=>isD_of ?_) fun h5=>isD_of ?_
 ·rw [decide_eq_true h5]; rfl
 ·rw [decide_eq_false h5]; rfl
theorem ccC_ok {st:AE.Stat}(hx:Hx st) (hv:VdOk st):ConOk Tryz.prog st 72 (ckC ccF):=by
 refine con_flat (mg:=[]) (l:=[(30,vaG vdF),(110,widC cwF),(111,mqC mrkF)]) (lp:=noLp) (n:=0) (glOk st) (fun x h=>?_) Tryz.func72 (by kernel_rfl) (by kernel_rfl) (hx 72 rfl) (fun _ _ _ h=>nomatch h) fun args k hk=>?_
 ·simp only [List.mem_cons,List.not_mem_nil,or_false] at h
  rcases h with rfl | rfl | rfl
  ·exact vdC_ok hx hv
  ·exact cwwC_ok hx
  ·exact mqC_ok hx
 unfold ckC at hk
 split at hk<;>first | (cases hk; done) | skip
 rename_i s;obtain ⟨hn,hk⟩:=dec_none hk;exact ⟨[sv s],_,.self .nil,v_clo _,hk,cc_true s hn⟩
noncomputable def rsC (F:ByteArray->Int):ConF:=fun args k=>match args with
 | [.v (.string s)]=>bif decide (s.size<=9000000) then (bif F s != 0 then k (fun _=>(.v (.slice none 0 0),[])) else k (fun b=>(.os b 0 (runeN s),[some ⟨1,.tab (runeN s) (rowI .i32 (runeAt s))⟩]))) else none
 | _=>none
theorem lowR_tab {b n m:Nat}{q:IntKind}{z:Nat->Int}:LowR (.os b 0 n,[some ⟨1,.tab m (rowI q z)⟩]):=⟨.os _ _ _,fun id blk hb i f _ _=>by
 cases id with
 | succ id=>simp at hb
 | zero =>
  obtain rfl:(⟨1,.tab m (rowI q z)⟩:DBlk)=blk:=by simpa using hb
  exact .v _⟩
theorem rs_tree (F:ByteArray->Int) (s:ByteArray) (K:DV->DHeap->Option Unit):bodyD Tryz.prog (env [(72,ckC F)] noLp 0) Tryz.f112 [sv s] [] (fun d σ=>K d σ) =
  bif decide (ByteArray.size s<=9000000) then bif F s != 0 then K (DV.v (Value.slice none 0 0)) [] else bif decide (ByteArray.size s<=140737488355328) then K (.os 0 0 (runeN s)) [some ⟨1,.tab (runeN s) fun i x=>kv .i32 ((runeAt s i))⟩]
  else none else none:=by
 kernel_rfl
theorem rsC_ok {st:AE.Stat}(hx:Hx st) (hv:VdOk st):ConOk Tryz.prog st 112 (rsC ccF):=by
 refine con_of (mg:=[]) (l:=[(72,ckC ccF)]) (lp:=noLp) (n:=0) (glOk st) (fun x h=>?_) Tryz.func112 (by kernel_rfl) (by kernel_rfl) (hx 112 rfl) (fun _ _ _ h=>nomatch h) fun args k hk=>?_
 ·simp only [List.mem_cons,List.not_mem_nil,or_false] at h;subst h;exact ccC_ok hx hv
 unfold rsC at hk
 split at hk<;>first | (cases hk; done) | skip
 rename_i s;obtain ⟨hn,hk⟩:=dec_none hk
 rcases bif_some hk with ⟨h1,hk⟩ | ⟨h1,hk⟩
 ·refine ⟨[sv s],_,.self .nil,hk,fun b=>⟨lowR_flat (.v _),(rs_tree ccF s _).trans (dT hn ?_)⟩⟩
  rw [h1,cond_true];exact fin_of (finQ_flat (.v _) rfl)
 ·refine ⟨[sv s],_,.self .nil,hk,fun b=>⟨lowR_tab,(rs_tree ccF s _).trans (dT hn ?_)⟩⟩
  rw [h1,cond_false]
  refine dT (by omega) (fin_of ?_)
  exact finQ_own (id:=0) (blk:=⟨1,.tab (runeN s) (rowI .i32 (runeAt s))⟩) rfl rfl rfl (Nat.le_refl _) trivial fun i f hi hf=>⟨.v _,rfl⟩
theorem cd_tree (F:ByteArray->Int) (W:Int->Int) (s:ByteArray) (k:DV->Option Unit):bodyD Tryz.prog (env [(110,widC W),(112,rsC F)] noLp 0) Tryz.f73 [sv s] [] (fun d _=>k d) =
  bif decide (ByteArray.size s<=9000000) then bif F s != 0 then k (iv 0) else bif decide ((↑(runeN s):Int) > 0) then bif decide (0<(↑(runeN s):Int)) then bif decide (0<runeN s) then k (iv (W (runeAt s 0)))
  else none else none else k (iv 0) else none:=by
 kernel_rfl
def cdF (s:ByteArray):Int:=bif ccF s != 0 then 0 else cwF (runeAt s 0)
theorem ccF_pos {s:ByteArray}(h:(ccF s != 0)=false):0<runeN s:=by
 refine runeN_pos (size_pos ?_)
 cases h1:(ByteArray.toList s==ByteArray.toList ⟨#[]⟩) with
 | false=>rfl
 | true =>
  unfold ccF at h;rw [h1] at h;cases h
theorem cd_true (s:ByteArray) (hn:s.size<=9000000):bodyD Tryz.prog (env [(110,widC cwF),(112,rsC ccF)] noLp 0) Tryz.f73 [sv s] [] (fun d _=>isD (iv (cdF s)) d)=some ():=by
 refine (cd_tree ccF cwF s _).trans (dT hn ?_);unfold cdF
 refine cS (fun h=>isD_of (by rw [h]; rfl)) fun h=>?_
 have h0:=ccF_pos h;rw [h,cond_false]
 exact dT (by omega) (dT (by omega) (dT h0 (isD_of rfl)))
theorem cdC_ok {st:AE.Stat}(hx:Hx st) (hv:VdOk st):ConOk Tryz.prog st 73 (cwC cdF):=by
 refine con_flat (mg:=[]) (l:=[(110,widC cwF),(112,rsC ccF)]) (lp:=noLp) (n:=0) (glOk st) (fun x h=>?_) Tryz.func73 (by kernel_rfl) (by kernel_rfl) (hx 73 rfl) (fun _ _ _ h=>nomatch h) fun args k hk=>?_
 ·simp only [List.mem_cons,List.not_mem_nil,or_false] at h
  rcases h with rfl | rfl
  ·exact cwwC_ok hx
  ·exact rsC_ok hx hv
 unfold cwC at hk
 split at hk<;>first | (cases hk; done) | skip
 rename_i s;obtain ⟨hn,hk⟩:=dec_none hk;exact ⟨[sv s],_,.self .nil,v_clo _,hk,cd_true s hn⟩
end Go.Proofs.YtigmkgampfbflaaGreatDoor
namespace Go.Proofs.YtigmkgampfbflaaGreatDoor
open Go Go.AE Go.DE Go.RowKit
theorem inR_iff {lo hi:Nat->Int}{v:Int}:∀ {m i:Nat},inR lo hi v m i=true ↔ ∃ j,i<=j/\j<i+m/\lo j<=v/\v<=hi j
 | 0,i=>⟨(fun h=>nomatch h),fun ⟨j,h1,h2,_⟩=>by omega⟩
 | m+1,i=>by
  have e0:pr lo hi i 0=lo i:=rfl;have e1:pr lo hi i 1=hi i:=rfl;rw [inR,e0,e1]
  by_cases h:lo i<=v/\v<=hi i
  ·rw [if_pos h.1,if_pos h.2]
   exact ⟨fun _=>⟨i,Nat.le_refl _,by omega,h⟩,fun _=>rfl⟩
  ·have:(if v >= lo i then (if v<=hi i then true else inR lo hi v m (i+1)) else inR lo hi v m (i+1))=inR lo hi v m (i+1):=by
    by_cases h1:v >= lo i
    ·rw [if_pos h1,if_neg fun h2=>h ⟨h1,h2⟩]
    ·rw [if_neg h1]
   rw [this,inR_iff]
   constructor
   ·rintro ⟨j,h1,h2,h3⟩
    exact ⟨j,by omega,by omega,h3⟩
   ·rintro ⟨j,h1,h2,h3⟩
    have:j≠i:=fun e=>h (e ▸ h3)
    exact ⟨j,by omega,by omega,h3⟩
theorem bsR_spec {hi:Nat->Int}{v:Int}{n:Nat}(mono:∀ i j,i<=j->j<n->hi i<=hi j):∀ (m l h:Nat),l<=h->h<=n->h-l<=m->(∀ j,j<l->hi j<v)->(∀ j,h<=j->j<n->v<=hi j) ->
  bsR hi v m l h<=n/\(∀ j,j<bsR hi v m l h->hi j<v)/\∀ j,bsR hi v m l h<=j->j<n->v<=hi j
 | 0,l,h,h1,h2,h3,h4,h5=>by
  obtain rfl:l=h:=by omega
  exact ⟨h2,h4,h5⟩
 | m+1,l,h,h1,h2,h3,h4,h5=>by
  rw [bsR]
  by_cases hl:l<h
  ·rw [if_pos hl]
   have q1:(l+h) / 2<h:=by omega
   have q2:l<=(l+h) / 2:=by omega
   by_cases hv:v > hi ((l+h) / 2)
   ·rw [if_pos hv]
    refine bsR_spec mono m _ _ (by omega) h2 (by omega) (fun j hj=>?_) h5
    have:=mono j ((l+h) / 2) (by omega) (by omega)
    omega
   ·rw [if_neg hv]
    refine bsR_spec mono m _ _ q2 (by omega) (by omega) h4 fun j hj hn=>?_
    have:=mono ((l+h) / 2) j hj hn;omega
  ·rw [if_neg hl]
   obtain rfl:l=h:=by omega
   exact ⟨h2,h4,h5⟩
theorem findF_eq {L:List (Int×Int)}(mono:∀ i j,i<j->j<L.length->tabH L i<tabL L j) (le:∀ i,i<L.length->tabL L i<=tabH L i) (v:Int):findF L v=inF (tabL L) (tabH L) L.length v:=by
 have mh:∀ i j,i<=j->j<L.length->tabH L i<=tabH L j:=fun i j hij hj=>by
  by_cases e:i=j
  ·subst e; exact Int.le_refl _
  ·have:=mono i j (by omega) hj
   have:=le j hj;omega
 obtain ⟨b1,b2,b3⟩:=bsR_spec (v:=v) mh (L.length-0) 0 L.length (Nat.zero_le _) (Nat.le_refl _) (Nat.le_refl _) (fun j hj=>absurd hj (Nat.not_lt_zero _)) (fun j h1 h2=>by omega)
 rw [Bool.eq_iff_iff];unfold findF inF bsQ;rw [inR_iff];generalize bsR (tabH L) v (L.length-0) 0 L.length=k at b1 b2 b3 ⊢
 by_cases hk:k<L.length
 ·rw [decide_eq_true hk,cond_true,decide_eq_true_iff]
  constructor
  ·intro h
   exact ⟨k,Nat.zero_le _,by omega,h,b3 k (Nat.le_refl _) hk⟩
  ·rintro ⟨j,_,h2,h3,h4⟩
   have hj:k<=j:=by
    rcases Nat.lt_or_ge j k with q | q
    ·have:=b2 j q;omega
    ·exact q
   by_cases e:k=j
   ·subst e; exact h3
   ·have:=mono k j (by omega) (by omega)
    have:=b3 k (Nat.le_refl _) hk;omega
 ·rw [decide_eq_false hk,cond_false]
  refine ⟨(fun h=>nomatch h),?_⟩
  rintro ⟨j,_,h2,h3,h4⟩
  have:=b2 j (by omega)
  omega
theorem mk_same (v:Int):findF mkL v=markF v:=findF_eq (L:=mkL) (fun i j hij hj=>(by decide:∀ j,j<List.length mkL->∀ i,i<j->tabH mkL i<tabL mkL j) j hj i hij) (by decide) v
theorem wd_same (v:Int):findF wdL v=wideF v:=findF_eq (L:=wdL) (fun i j hij hj=>(by decide:∀ j,j<List.length wdL->∀ i,i<j->tabH wdL i<tabL wdL j) j hj i hij) (by decide) v
theorem cw_same (v:Int):cwF v=widF v:=by
 unfold cwF widF;rw [mk_same,wd_same]
end Go.Proofs.YtigmkgampfbflaaGreatDoor
namespace Go.Proofs.YtigmkgampfbflaaGreatDoor
open Go Go.AE Go.DE Go.RowKit
def Scal (v:Int):Prop:=(0<=v/\v<55296)\/(57344<=v/\v<=1114111)
def enN (c:Nat):List Nat :=
 if c<128 then [c] else if c<2048 then [192+c / 64,128+c % 64] else if c<65536 then [224+c / 4096,128+c / 64 % 64,128+c % 64]
 else [240+c / 262144,128+c / 4096 % 64,128+c / 64 % 64,128+c % 64]
theorem td (c n:Nat):Int.tdiv (c:Int) (n:Int)=((c / n:Nat):Int):=rfl
theorem tm (c n:Nat):Int.tmod (c:Int) (n:Int)=((c % n:Nat):Int):=rfl
theorem w32 {x:Int}(h1:0<=x) (h2:x<2147483648):IntKind.i32.wrap x=x:=by rw [IntKind.wrap_i32]; omega
theorem w8 {x:Int}(h1:0<=x) (h2:x<256):IntKind.u8.wrap x=x:=by rw [IntKind.wrap_u8]; omega
theorem enB_nat {c:Nat}(h:Scal c):enB (c:Int)=(enN c).map (fun n:Nat=>(n:Int)):=by
 have h:(c:Int)<55296\/(57344<=(c:Int)/\(c:Int)<=1114111):=by rcases h with h | h<;>omega
 unfold enB enN
 rw [if_neg (by omega),if_neg (by omega),if_neg (by omega)]
 by_cases h1:c<128
 ·rw [if_pos (by omega),if_pos h1]
  simp only [enc1,List.map_cons,List.map_nil,w8 (x:=(c:Int)) (by omega) (by omega)]
 rw [if_neg (by omega),if_neg h1]
 have e64:Int.tdiv (c:Int) 64=((c / 64:Nat):Int):=td c 64;have e4096:Int.tdiv (c:Int) 4096=((c / 4096:Nat):Int):=td c 4096;have e262144:Int.tdiv (c:Int) 262144=((c / 262144:Nat):Int):=td c 262144;have m64:Int.tmod (c:Int) 64=((c % 64:Nat):Int):=tm c 64;have m6464:Int.tmod ((c / 64:Nat):Int) 64=((c / 64 % 64:Nat):Int):=tm (c / 64) 64;have m4096:Int.tmod ((c / 4096:Nat):Int) 64=((c / 4096 % 64:Nat):Int):=tm (c / 4096) 64
 by_cases h2:c<2048
 ·rw [if_pos (by omega),if_pos h2]
  simp only [enc2,List.map_cons,List.map_nil,e64,m64]
  rw [w32 (x:=((c / 64:Nat):Int)) (by omega) (by omega),w32 (x:=192+((c / 64:Nat):Int)) (by omega) (by omega),w8 (x:=192+((c / 64:Nat):Int)) (by omega) (by omega),
   w32 (x:=128+((c % 64:Nat):Int)) (by omega) (by omega),w8 (x:=128+((c % 64:Nat):Int)) (by omega) (by omega)]
  simp only [Int.natCast_add];rfl
 rw [if_neg (by omega),if_neg h2]
 by_cases h3:c<65536
 ·rw [if_pos (by omega),if_pos h3]
  simp only [enc3,List.map_cons,List.map_nil,e64,m64,e4096]
  rw [w32 (x:=((c / 4096:Nat):Int)) (by omega) (by omega),w32 (x:=224+((c / 4096:Nat):Int)) (by omega) (by omega),w8 (x:=224+((c / 4096:Nat):Int)) (by omega) (by omega),
   w32 (x:=((c / 64:Nat):Int)) (by omega) (by omega),m6464,w32 (x:=128+((c / 64 % 64:Nat):Int)) (by omega) (by omega),w8 (x:=128+((c / 64 % 64:Nat):Int)) (by omega) (by omega),
   w32 (x:=128+((c % 64:Nat):Int)) (by omega) (by omega),w8 (x:=128+((c % 64:Nat):Int)) (by omega) (by omega)]
  simp only [Int.natCast_add];rfl
 ·rw [if_neg (by omega),if_neg h3]
  simp only [enc4,List.map_cons,List.map_nil,e64,m64,e4096,e262144]
  rw [w32 (x:=((c / 262144:Nat):Int)) (by omega) (by omega),w32 (x:=240+((c / 262144:Nat):Int)) (by omega) (by omega),w8 (x:=240+((c / 262144:Nat):Int)) (by omega) (by omega),
   w32 (x:=((c / 4096:Nat):Int)) (by omega) (by omega),m4096,w32 (x:=128+((c / 4096 % 64:Nat):Int)) (by omega) (by omega),w8 (x:=128+((c / 4096 % 64:Nat):Int)) (by omega) (by omega),
   w32 (x:=((c / 64:Nat):Int)) (by omega) (by omega),m6464,w32 (x:=128+((c / 64 % 64:Nat):Int)) (by omega) (by omega),w8 (x:=128+((c / 64 % 64:Nat):Int)) (by omega) (by omega),
   w32 (x:=128+((c % 64:Nat):Int)) (by omega) (by omega),w8 (x:=128+((c % 64:Nat):Int)) (by omega) (by omega)]
  simp only [Int.natCast_add];rfl
def byN (c:Nat):List UInt8:=(enN c).map UInt8.ofNat
def byL (zs:List Int):List UInt8:=zs.flatMap fun v=>byN v.toNat
theorem ofN {n:Nat}(h:n<256):(UInt8.ofNat n).toNat=n:=by rw [UInt8.toNat_ofNat']; omega
theorem dec_enc {c:Nat}(h:Scal c) (rest:List UInt8):Lib.decodeL (byN c++rest)=(c,(byN c).length):=by
 have h:(c:Int)<55296\/(57344<=(c:Int)/\(c:Int)<=1114111):=by rcases h with h | h<;>omega
 rw [Lib.decodeL_N];unfold byN enN
 by_cases h1:c<128
 ·rw [if_pos h1];simp only [List.map_cons,List.map_nil,List.cons_append,List.nil_append,List.getD_cons_zero,List.length_cons,List.length_nil]
  rw [ofN (by omega)]
  unfold Lib.decodeN;rw [if_pos h1]
 rw [if_neg h1]
 by_cases h2:c<2048
 ·rw [if_pos h2];simp only [List.map_cons,List.map_nil,List.cons_append,List.nil_append,List.getD_cons_zero,List.getD_cons_succ,List.length_cons,List.length_nil]
  rw [ofN (n:=192+c / 64) (by omega),ofN (n:=128+c % 64) (by omega)]
  unfold Lib.decodeN
  rw [if_neg (by omega),if_pos (by omega),if_pos (by omega)]
  exact Prod.ext (by show (192+c / 64) % 32*64+(128+c % 64) % 64=c; omega) rfl
 rw [if_neg h2]
 by_cases h3:c<65536
 ·rw [if_pos h3];simp only [List.map_cons,List.map_nil,List.cons_append,List.nil_append,List.getD_cons_zero,List.getD_cons_succ,List.length_cons,List.length_nil]
  rw [ofN (n:=224+c / 4096) (by omega),ofN (n:=128+c / 64 % 64) (by omega),ofN (n:=128+c % 64) (by omega)]
  have e:(224+c / 4096) % 16*4096+(128+c / 64 % 64) % 64*64+(128+c % 64) % 64=c:=by omega
  unfold Lib.decodeN
  rw [if_neg (by omega),if_neg (by omega),if_pos (by omega),e,if_pos (by omega)]
 ·rw [if_neg h3];simp only [List.map_cons,List.map_nil,List.cons_append,List.nil_append,List.getD_cons_zero,List.getD_cons_succ,List.length_cons,List.length_nil]
  rw [ofN (n:=240+c / 262144) (by omega),ofN (n:=128+c / 4096 % 64) (by omega),ofN (n:=128+c / 64 % 64) (by omega),ofN (n:=128+c % 64) (by omega)]
  have e:(240+c / 262144) % 8*262144+(128+c / 4096 % 64) % 64*4096+(128+c / 64 % 64) % 64*64+(128+c % 64) % 64=c:=by omega
  unfold Lib.decodeN
  rw [if_neg (by omega),if_neg (by omega),if_neg (by omega),if_pos (by omega),e,if_pos (by omega)]
theorem byN_len (c:Nat):1<=(byN c).length/\((byN c).length=1->c<128):=by
 unfold byN enN
 by_cases h1:c<128
 ·rw [if_pos h1]; simp; exact h1
 rw [if_neg h1]
 by_cases h2:c<2048
 ·rw [if_pos h2]; simp
 rw [if_neg h2]
 by_cases h3:c<65536
 ·rw [if_pos h3]; simp
 ·rw [if_neg h3]; simp
theorem scal_nat {v:Int}(h:Scal v):Scal ((v.toNat:Nat):Int)/\((v.toNat:Nat):Int)=v:=by
 have e:((v.toNat:Nat):Int)=v:=by rcases h with h | h<;>omega
 exact ⟨e.symm ▸ h,e⟩
theorem byL_cons (v:Int) (zs:List Int):byL (v :: zs)=byN v.toNat++byL zs:=rfl
theorem byN_ne (c:Nat) (r:List UInt8):byN c++r≠[]:=fun e=>by
 have:=(byN_len c).1;rw [List.append_eq_nil_iff] at e;rw [e.1] at this
 exact absurd this (by decide)
theorem valid_byL:∀ {zs:List Int},(∀ v∈zs,Scal v)->Lib.validD (byL zs)=true
 | [],_=>rfl
 | v :: zs,h=>by
  obtain ⟨h1,h2⟩:=scal_nat (h v (by simp))
  rw [byL_cons,Lib.validD_step _ (byN_ne _ _),dec_enc h1,List.drop_left,if_neg ?_]
  ·exact valid_byL fun u hu=>h u (by simp [hu])
  ·rintro ⟨q1,q2⟩
   have:=(byN_len v.toNat).2 q2;omega
theorem runes_byL (s:ByteArray):∀ (zs:List Int) (i b:Nat) (acc:Array Value),(∀ v∈zs,Scal v)->s.data.toList.drop i=byL zs->(byL zs).length<=b ->
  (Conv.runesFrom s b i acc).toList=acc.toList++zs.map fun v=>Value.int .i32 v
 | [],i,b,acc,_,hs,hb=>by
  have hi:s.size<=i:=by
   have:(s.data.toList.drop i).length=0:=by rw [hs]; rfl
   rw [List.length_drop] at this;have:s.size=s.data.toList.length:=rfl;omega
  cases b with
  | zero=>simp [Conv.runesFrom]
  | succ b=>unfold Conv.runesFrom; rw [if_neg (by omega)]; simp
 | v :: zs,i,b,acc,h,hs,hb=>by
  obtain ⟨h1,h2⟩:=scal_nat (h v (by simp))
  have hl:=(byN_len v.toNat).1;rw [byL_cons,List.length_append] at hb
  obtain ⟨b,rfl⟩:∃ b',b=b'+1:=⟨b-1,by omega⟩
  have hi:i<s.size:=by
   have e:(s.data.toList.drop i).length=(byL (v :: zs)).length:=by rw [hs]
   rw [List.length_drop,byL_cons,List.length_append] at e;have:s.size=s.data.toList.length:=rfl;omega
  have hd:Utf8.decode s i=(v.toNat,(byN v.toNat).length):=by rw [<- Lib.decodeL_drop,hs,byL_cons,dec_enc h1]
  unfold Conv.runesFrom;rw [if_pos hi,hd];simp only
  rw [runes_byL s zs _ b _ (fun u hu=>h u (by simp [hu])) ?_ (by omega)]
  ·simp only [Array.toList_push,List.append_assoc,List.map_cons,List.cons_append,List.nil_append];rw [show Int.ofNat v.toNat=v from h2]
  ·rw [<- List.drop_drop,hs,byL_cons,List.drop_left]
theorem rune_eq {s:ByteArray}{zs:List Int}(h:∀ v∈zs,Scal v) (hs:s.data.toList=byL zs):runeN s=zs.length/\∀ i,i<zs.length->runeAt s i=lw zs i:=by
 have e:=runes_byL s zs 0 s.size #[] h (by rw [List.drop_zero,hs]) (by rw [<- hs]; exact Nat.le_refl _)
 have e:(Conv.runesFrom s s.size 0 #[]).toList=zs.map fun v=>Value.int .i32 v:=e
 refine ⟨?_,fun i hi=>?_⟩
 ·unfold runeN;rw [<- Array.length_toList,e,List.length_map]
 ·unfold runeAt;rw [<- Array.getElem?_toList,e,List.getElem?_map,List.getElem?_eq_getElem hi,Option.map_some];simp only [lw,List.getD_eq_getElem?_getD,List.getElem?_eq_getElem hi,Option.getD_some]
theorem enR_app (z:Nat->Int):∀ (m i:Nat) (b:List Int),enR z m i b=b++(List.range m).flatMap fun j=>enB (z (i+j))
 | 0,i,b=>by simp [enR]
 | m+1,i,b=>by
  rw [enR,enR_app z m,List.range_succ_eq_map,List.flatMap_cons,List.append_assoc,List.flatMap_map]
  congr 3
  funext j
  rw [Nat.add_assoc,Nat.add_comm 1 j]
theorem range_flat {α:Type}(f:Int->List α):∀ (zs:List Int),((List.range zs.length).flatMap fun j=>f (lw zs (0+j)))=zs.flatMap f
 | []=>rfl
 | v :: zs=>by
  rw [List.length_cons,List.range_succ_eq_map,List.flatMap_cons,List.flatMap_map,List.flatMap_cons,<- range_flat f zs]
  congr 2
theorem fold_push:∀ (l:List Int) (r:ByteArray),(l.foldl (fun r n=>r.push (UInt8.ofNat n.toNat)) r).data.toList=r.data.toList++l.map fun n=>UInt8.ofNat n.toNat
 | [],r=>by simp
 | n :: l,r=>by
  rw [List.foldl_cons,fold_push l];simp [ByteArray.push]
theorem encF_bytes {zs:List Int}(h:∀ v∈zs,Scal v):(encF (lw zs) zs.length).data.toList=byL zs:=by
 unfold encF bytesS;rw [fold_push]
 have e:(List.range (enR (lw zs) zs.length 0 []).length).map (lw (enR (lw zs) zs.length 0 []))=enR (lw zs) zs.length 0 []:=by
  apply List.ext_getElem?
  intro i;rw [List.getElem?_map]
  by_cases hi:i<(enR (lw zs) zs.length 0 []).length
  ·rw [List.getElem?_range hi,Option.map_some];simp [lw,List.getElem?_eq_getElem hi]
  ·rw [List.getElem?_eq_none (by rw [List.length_range]; omega),List.getElem?_eq_none (by omega)]; rfl
 rw [e,enR_app,List.nil_append,range_flat,show ByteArray.empty.data.toList=[] from rfl,List.nil_append,List.map_flatMap];unfold byL;clear e
 induction zs with
 | nil=>rfl
 | cons v zs ih =>
  rw [List.flatMap_cons,List.flatMap_cons,ih fun u hu=>h u (by simp [hu])]
  obtain ⟨h1,h2⟩:=scal_nat (h v (by simp))
  have e:=enB_nat h1;rw [h2] at e;rw [e,List.map_map];rfl
def Pre (k:List Int):Prop :=
 k=[]\/(∃ p,k=[p]/\194<=p/\p<=244)\/(∃ p q,k=[p,q]/\224<=p/\p<=244/\128<=q/\q<=191/\(p=237->q<=159)/\(p=244->q<=143)/\(p=240->144<=q)) \/
  ∃ p q r,k=[p,q,r]/\240<=p/\p<=244/\128<=q/\q<=191/\(p=244->q<=143)/\(p=240->144<=q)/\128<=r/\r<=191
theorem szF_of (p:Int):(194<=p/\p<=223/\szF p=2)\/(224<=p/\p<=239/\szF p=3)\/(240<=p/\p<=244/\szF p=4)\/((p<194\/244<p)/\szF p=0):=by
 unfold szF
 by_cases a1:p >= 194
 ·by_cases a2:p<=223
  ·left; simp [a1,a2]
  ·by_cases a3:p<=239
   ·right; left
    have:p >= 224:=by omega
    simp [a1,a2,a3,this]
   ·by_cases a4:p<=244
    ·right; right; left
     have b1:p >= 224:=by omega
     have b2:p >= 240:=by omega
     simp [a1,a2,a3,a4,b1,b2]
    ·right; right; right
     have b1:p >= 224:=by omega
     have b2:p >= 240:=by omega
     simp [a1,a2,a3,a4,b1,b2];omega
 ·right; right; right
  have b1:¬ p >= 224:=by omega
  have b2:¬ p >= 240:=by omega
  simp [a1,b1,b2];omega
theorem byteAt_b (s:ByteArray) (i:Nat):0<=byteAt s i/\byteAt s i<256:=by
 unfold byteAt;have:=(s.data.toList.getD i 0).toNat_lt;omega
theorem lo1 (p:Int):128<=loF p 1/\(p=240->144<=loF p 1):=by
 unfold loF
 by_cases h1:p=224
 ·subst h1; simp
 by_cases h2:p=237
 ·subst h2; simp
 by_cases h3:p=240
 ·subst h3; simp
 have e1:(p==224)=false:=beq_eq_false_iff_ne.2 h1;have e2:(p==237)=false:=beq_eq_false_iff_ne.2 h2;have e3:(p==240)=false:=beq_eq_false_iff_ne.2 h3;rw [e1,e2,e3]
 exact ⟨by decide,fun e=>absurd e h3⟩
theorem hi1 (p:Int):hiF p 1<=191/\(p=237->hiF p 1<=159)/\(p=244->hiF p 1<=143):=by
 unfold hiF
 by_cases h1:p=224
 ·subst h1; simp
 by_cases h2:p=237
 ·subst h2; simp
 by_cases h3:p=240
 ·subst h3; simp
 by_cases h4:p=244
 ·subst h4; simp
 have e1:(p==224)=false:=beq_eq_false_iff_ne.2 h1;have e2:(p==237)=false:=beq_eq_false_iff_ne.2 h2;have e3:(p==240)=false:=beq_eq_false_iff_ne.2 h3;have e4:(p==244)=false:=beq_eq_false_iff_ne.2 h4;rw [e1,e2,e3,e4]
 exact ⟨by decide,fun e=>absurd e h2,fun e=>absurd e h4⟩
theorem lo2 (p:Int) {n:Nat}(h:n≠1):loF p n=128:=by
 unfold loF
 have:((n:Int)==1)=false:=by rw [beq_eq_false_iff_ne]; omega
 rw [this]; rfl
theorem hi2 (p:Int) {n:Nat}(h:n≠1):hiF p n=191:=by
 unfold hiF
 have:((n:Int)==1)=false:=by rw [beq_eq_false_iff_ne]; omega
 rw [this]; rfl
theorem stepV_eq {a b:Int}(h1:0<=a) (h2:a<30000) (h3:128<=b) (h4:b<256):stepV a b=a*64+(b-128):=by
 unfold stepV
 rw [w32 (x:=a*64) (by omega) (by omega),w32 (x:=b) (by omega) (by omega),w32 (x:=a*64+b) (by omega) (by omega),w32 (by omega) (by omega)]
 omega
theorem val2_eq {p b:Int}(h1:194<=p) (h2:p<=223) (h3:128<=b) (h4:b<=191):valF (lw [p,b]) 2=(p-192)*64+(b-128):=by
 show stepV (valA (lw [p,b]) 2) b=_;have e:valA (lw [p,b]) 2=IntKind.i32.wrap (IntKind.i32.wrap p-192):=rfl
 rw [e,w32 (x:=p) (by omega) (by omega),w32 (x:=p-192) (by omega) (by omega),stepV_eq (by omega) (by omega) h3 (by omega)]
theorem val3_eq {p q b:Int}(h1:224<=p) (h2:p<=239) (h3:128<=q) (h4:q<=191) (h5:128<=b) (h6:b<=191):valF (lw [p,q,b]) 3=((p-224)*64+(q-128))*64+(b-128):=by
 show stepV (stepV (valA (lw [p,q,b]) 3) q) b=_;have e:valA (lw [p,q,b]) 3=IntKind.i32.wrap (IntKind.i32.wrap p-224):=rfl
 rw [e,w32 (x:=p) (by omega) (by omega),w32 (x:=p-224) (by omega) (by omega),stepV_eq (a:=p-224) (by omega) (by omega) h3 (by omega),stepV_eq (by omega) (by omega) h5 (by omega)]
theorem val4_eq {p q r b:Int}(h1:240<=p) (h2:p<=244) (h3:128<=q) (h4:q<=191) (h5:128<=r) (h6:r<=191) (h7:128<=b) (h8:b<=191) :
  valF (lw [p,q,r,b]) 4=(((p-240)*64+(q-128))*64+(r-128))*64+(b-128):=by
 show stepV (stepV (stepV (valA (lw [p,q,r,b]) 4) q) r) b=_;have e:valA (lw [p,q,r,b]) 4=IntKind.i32.wrap (IntKind.i32.wrap p-240):=rfl
 rw [e,w32 (x:=p) (by omega) (by omega),w32 (x:=p-240) (by omega) (by omega),stepV_eq (a:=p-240) (by omega) (by omega) h3 (by omega),stepV_eq (a:=(p-240)*64+(q-128)) (by omega) (by omega) h5 (by omega),stepV_eq (by omega) (by omega) h7 (by omega)]
theorem dstep_scal {s:ByteArray}{i:Nat}{o k:List Int}(ho:∀ v∈o,Scal v) (hk:Pre k):(∀ v∈(dstep s i o k).2.1,Scal v)/\Pre (dstep s i o k).2.2:=by
 have app:∀ {x:Int},Scal x->∀ v∈o++[x],Scal v:=fun hx v hv=>by
  rw [List.mem_append,List.mem_singleton] at hv
  rcases hv with hv | rfl
  ·exact ho v hv
  ·exact hx
 have bad:∀ v∈o++[65533],Scal v:=app (.inr ⟨by decide,by decide⟩)
 obtain ⟨b0,b1⟩:=byteAt_b s i;generalize hb:byteAt s i=b at b0 b1;unfold dstep;rw [hb]
 rcases hk with rfl | ⟨p,rfl,p1,p2⟩ | ⟨p,q,rfl,p1,p2,q1,q2,q3,q4,q5⟩ | ⟨p,q,r,rfl,p1,p2,q1,q2,q4,q5,r1,r2⟩
 ·rw [if_pos rfl]
  by_cases h1:b<128
  ·rw [if_pos h1,w32 b0 (by omega)]
   exact ⟨app (.inl ⟨b0,by omega⟩),.inl rfl⟩
  rw [if_neg h1]
  by_cases h2:szF b > 0
  ·rw [if_pos h2];refine ⟨ho,.inr (.inl ⟨b,rfl,?_⟩)⟩
   rcases szF_of b with h | h | h | h<;>omega
  ·rw [if_neg h2];exact ⟨bad,.inl rfl⟩
 ·rw [if_neg (by simp)]
  simp only [List.length_cons,List.length_nil,Nat.zero_add,show lw [p] 0=p from rfl];obtain ⟨e1,e5⟩:=lo1 p;obtain ⟨e2,e3,e4⟩:=hi1 p
  by_cases h1:b<loF p 1
  ·rw [if_pos h1]; exact ⟨bad,.inl rfl⟩
  rw [if_neg h1]
  by_cases h2:b > hiF p 1
  ·rw [if_pos h2]; exact ⟨bad,.inl rfl⟩
  rw [if_neg h2]
  by_cases h3:((1+1:Nat):Int)=szF p
  ·rw [if_pos h3];refine ⟨app ?_,.inl rfl⟩;show Scal (valF (lw [p,b]) 2)
   rw [val2_eq (by omega) (by rcases szF_of p with h | h | h | h<;>omega) (by omega) (by omega)]
   rcases szF_of p with h | h | h | h
   ·exact .inl ⟨by omega,by omega⟩
   all_goals omega
  ·rw [if_neg h3]
   refine ⟨ho,.inr (.inr (.inl ⟨p,b,rfl,?_,p2,by omega,by omega,fun e=>by have:=e3 e; omega,fun e=>by have:=e4 e; omega,fun e=>by have:=e5 e; omega⟩))⟩
   rcases szF_of p with h | h | h | h<;>omega
 ·rw [if_neg (by simp)]
  simp only [List.length_cons,List.length_nil,Nat.zero_add,show lw [p,q] 0=p from rfl]
  rw [lo2 p (n:=1+1) (by decide),hi2 p (n:=1+1) (by decide)]
  by_cases h1:b<128
  ·rw [if_pos h1]; exact ⟨bad,.inl rfl⟩
  rw [if_neg h1]
  by_cases h2:b > 191
  ·rw [if_pos h2]; exact ⟨bad,.inl rfl⟩
  rw [if_neg h2]
  by_cases h3:((1+1+1:Nat):Int)=szF p
  ·rw [if_pos h3];refine ⟨app ?_,.inl rfl⟩;show Scal (valF (lw [p,q,b]) 3)
   have hp:p<=239:=by rcases szF_of p with h | h | h | h<;>omega
   rw [val3_eq p1 hp q1 q2 (by omega) (by omega)]
   by_cases hs:p<=237
   ·refine .inl ⟨by omega,?_⟩
    by_cases e:p=237
    ·have:=q3 e; omega
    ·omega
   ·exact .inr ⟨by omega,by omega⟩
  ·rw [if_neg h3]
   refine ⟨ho,.inr (.inr (.inr ⟨p,q,b,rfl,?_,p2,q1,q2,q4,q5,by omega,by omega⟩))⟩
   rcases szF_of p with h | h | h | h<;>omega
 ·rw [if_neg (by simp)]
  simp only [List.length_cons,List.length_nil,Nat.zero_add,show lw [p,q,r] 0=p from rfl]
  rw [lo2 p (n:=1+1+1) (by decide),hi2 p (n:=1+1+1) (by decide)]
  by_cases h1:b<128
  ·rw [if_pos h1]; exact ⟨bad,.inl rfl⟩
  rw [if_neg h1]
  by_cases h2:b > 191
  ·rw [if_pos h2]; exact ⟨bad,.inl rfl⟩
  rw [if_neg h2]
  have hsz:((1+1+1+1:Nat):Int)=szF p:=by rcases szF_of p with h | h | h | h<;>omega
  rw [if_pos hsz];refine ⟨app ?_,.inl rfl⟩;show Scal (valF (lw [p,q,r,b]) 4)
  rw [val4_eq p1 p2 q1 q2 r1 r2 (by omega) (by omega)]
  have h240:240<p\/144<=q:=by
   by_cases e:p=240
   ·exact .inr (q5 e)
   ·exact .inl (by omega)
  refine .inr ⟨by omega,?_⟩
  by_cases e:p=244
  ·have:=q4 e; omega
  ·omega
theorem decR_scal (s:ByteArray):∀ (m i:Nat) (o k:List Int),(∀ v∈o,Scal v)->Pre k->∀ v∈(decR s m i o k).1,Scal v
 | 0,i,o,k,ho,_=>ho
 | m+1,i,o,k,ho,hk=>by
  rw [decR];split
  ·have:=dstep_scal (s:=s) (i:=i) ho hk;exact decR_scal s m _ _ _ this.1 this.2
  ·exact ho
theorem decF_scal (s:ByteArray):∀ v∈(decF s).1,Scal v:=decR_scal s _ _ _ _ (fun v hv=>(by simp at hv)) (.inl rfl)
theorem valid_bytes {s:ByteArray}(h:validF s=true):s.data.toList=byL (decF s).1:=by
 unfold validF at h
 cases hb:ByteArray.toList (decF s).2==ByteArray.toList ⟨#[]⟩ with
 | false=>rw [hb] at h; cases h
 | true =>
  rw [hb,cond_true,beq_iff_eq,Lib.toList_data,Lib.toList_data,encF_bytes (decF_scal s)] at h;exact h.symm
theorem valid_vd {s:ByteArray}(h:validF s=true):vdF s=true:=by
 unfold vdF;rw [valid_bytes h];exact valid_byL (decF_scal s)
theorem valid_rune {s:ByteArray}(h:validF s=true):runeN s=(decF s).1.length/\∀ i,i<(decF s).1.length->runeAt s i=lw (decF s).1 i:=rune_eq (decF_scal s) (valid_bytes h)
end Go.Proofs.YtigmkgampfbflaaGreatDoor
namespace Go.Proofs.YtigmkgampfbflaaGreatDoor
open Go Go.AE Go.DE Go.RowKit
def blankV:List Value:=[.string ⟨⟨[32]⟩⟩,.int .i64 1,.int .i64 (-1),.int .i64 (-1),.int .i64 0]
def repV:Nat->List Value
 | 0=>[]
 | n+1=>blankV++repV n
theorem repV_at:∀ (n i j:Nat),i<n->j<5->(repV n)[i*5+j]?=blankV[j]?
 | 0,_,_,h,_=>absurd h (Nat.not_lt_zero _)
 | n+1,0,j,_,hj=>by
  show (blankV++repV n)[0*5+j]?=_
  rw [List.getElem?_append_left (by show 0*5+j<5; omega),Nat.zero_mul,Nat.zero_add]
 | n+1,i+1,j,hi,hj=>by
  show (blankV++repV n)[(i+1)*5+j]?=_
  rw [List.getElem?_append_right (by show 5<=(i+1)*5+j; omega),show (i+1)*5+j-blankV.length=i*5+j by show (i+1)*5+j-5=_; omega]
  exact repV_at n i j (by omega) hj
def blkD (n:Nat):Deep:=⟨157,[.int .i64 (.ofNat n),.int .i64 (.negSucc 0)],[],.slice (some ⟨0,0,none⟩) n n,[some (.cells (repV n))]⟩
def blkD0:Deep:=⟨157,[.int .i64 (.ofNat 0),.int .i64 (.negSucc 0)],[],.slice (some ⟨0,0,none⟩) 0 0,[]⟩
def extN:ExtL:=fun _ _ _ _=>none
def stB:AE.Stat:=⟨fun _ _=>none,extOfL extN⟩
theorem blk_run:((List.range 30).all fun n=>(blkD (n+1)).run Tryz.prog stB extN 60 20)=true:=by kernel_rfl
theorem blk_run0:blkD0.run Tryz.prog stB extN 60 20=true:=by kernel_rfl
theorem blk_ans0 {H:HF}{N:Nat}:(blkD 1).ans [.int .i64 (.ofNat 1),.int .i64 (.negSucc 0)] H N=some (.slice (some ⟨N,0,none⟩) 1 1,[.new (some (.cells (repV 1)))]):=by kernel_rfl
theorem blk_ans1 {H:HF}{N:Nat}:(blkD 2).ans [.int .i64 (.ofNat 2),.int .i64 (.negSucc 0)] H N=some (.slice (some ⟨N,0,none⟩) 2 2,[.new (some (.cells (repV 2)))]):=by kernel_rfl
theorem blk_ans2 {H:HF}{N:Nat}:(blkD 3).ans [.int .i64 (.ofNat 3),.int .i64 (.negSucc 0)] H N=some (.slice (some ⟨N,0,none⟩) 3 3,[.new (some (.cells (repV 3)))]):=by kernel_rfl
theorem blk_ans3 {H:HF}{N:Nat}:(blkD 4).ans [.int .i64 (.ofNat 4),.int .i64 (.negSucc 0)] H N=some (.slice (some ⟨N,0,none⟩) 4 4,[.new (some (.cells (repV 4)))]):=by kernel_rfl
theorem blk_ans4 {H:HF}{N:Nat}:(blkD 5).ans [.int .i64 (.ofNat 5),.int .i64 (.negSucc 0)] H N=some (.slice (some ⟨N,0,none⟩) 5 5,[.new (some (.cells (repV 5)))]):=by kernel_rfl
theorem blk_ans5 {H:HF}{N:Nat}:(blkD 6).ans [.int .i64 (.ofNat 6),.int .i64 (.negSucc 0)] H N=some (.slice (some ⟨N,0,none⟩) 6 6,[.new (some (.cells (repV 6)))]):=by kernel_rfl
theorem blk_ans6 {H:HF}{N:Nat}:(blkD 7).ans [.int .i64 (.ofNat 7),.int .i64 (.negSucc 0)] H N=some (.slice (some ⟨N,0,none⟩) 7 7,[.new (some (.cells (repV 7)))]):=by kernel_rfl
theorem blk_ans7 {H:HF}{N:Nat}:(blkD 8).ans [.int .i64 (.ofNat 8),.int .i64 (.negSucc 0)] H N=some (.slice (some ⟨N,0,none⟩) 8 8,[.new (some (.cells (repV 8)))]):=by kernel_rfl
theorem blk_ans8 {H:HF}{N:Nat}:(blkD 9).ans [.int .i64 (.ofNat 9),.int .i64 (.negSucc 0)] H N=some (.slice (some ⟨N,0,none⟩) 9 9,[.new (some (.cells (repV 9)))]):=by kernel_rfl
theorem blk_ans9 {H:HF}{N:Nat}:(blkD 10).ans [.int .i64 (.ofNat 10),.int .i64 (.negSucc 0)] H N=some (.slice (some ⟨N,0,none⟩) 10 10,[.new (some (.cells (repV 10)))]):=by kernel_rfl
theorem blk_ans10 {H:HF}{N:Nat}:(blkD 11).ans [.int .i64 (.ofNat 11),.int .i64 (.negSucc 0)] H N=some (.slice (some ⟨N,0,none⟩) 11 11,[.new (some (.cells (repV 11)))]):=by kernel_rfl
theorem blk_ans11 {H:HF}{N:Nat}:(blkD 12).ans [.int .i64 (.ofNat 12),.int .i64 (.negSucc 0)] H N=some (.slice (some ⟨N,0,none⟩) 12 12,[.new (some (.cells (repV 12)))]):=by kernel_rfl
theorem blk_ans12 {H:HF}{N:Nat}:(blkD 13).ans [.int .i64 (.ofNat 13),.int .i64 (.negSucc 0)] H N=some (.slice (some ⟨N,0,none⟩) 13 13,[.new (some (.cells (repV 13)))]):=by kernel_rfl
theorem blk_ans13 {H:HF}{N:Nat}:(blkD 14).ans [.int .i64 (.ofNat 14),.int .i64 (.negSucc 0)] H N=some (.slice (some ⟨N,0,none⟩) 14 14,[.new (some (.cells (repV 14)))]):=by kernel_rfl
theorem blk_ans14 {H:HF}{N:Nat}:(blkD 15).ans [.int .i64 (.ofNat 15),.int .i64 (.negSucc 0)] H N=some (.slice (some ⟨N,0,none⟩) 15 15,[.new (some (.cells (repV 15)))]):=by kernel_rfl
theorem blk_ans15 {H:HF}{N:Nat}:(blkD 16).ans [.int .i64 (.ofNat 16),.int .i64 (.negSucc 0)] H N=some (.slice (some ⟨N,0,none⟩) 16 16,[.new (some (.cells (repV 16)))]):=by kernel_rfl
theorem blk_ans16 {H:HF}{N:Nat}:(blkD 17).ans [.int .i64 (.ofNat 17),.int .i64 (.negSucc 0)] H N=some (.slice (some ⟨N,0,none⟩) 17 17,[.new (some (.cells (repV 17)))]):=by kernel_rfl
theorem blk_ans17 {H:HF}{N:Nat}:(blkD 18).ans [.int .i64 (.ofNat 18),.int .i64 (.negSucc 0)] H N=some (.slice (some ⟨N,0,none⟩) 18 18,[.new (some (.cells (repV 18)))]):=by kernel_rfl
theorem blk_ans18 {H:HF}{N:Nat}:(blkD 19).ans [.int .i64 (.ofNat 19),.int .i64 (.negSucc 0)] H N=some (.slice (some ⟨N,0,none⟩) 19 19,[.new (some (.cells (repV 19)))]):=by kernel_rfl
theorem blk_ans19 {H:HF}{N:Nat}:(blkD 20).ans [.int .i64 (.ofNat 20),.int .i64 (.negSucc 0)] H N=some (.slice (some ⟨N,0,none⟩) 20 20,[.new (some (.cells (repV 20)))]):=by kernel_rfl
theorem blk_ans20 {H:HF}{N:Nat}:(blkD 21).ans [.int .i64 (.ofNat 21),.int .i64 (.negSucc 0)] H N=some (.slice (some ⟨N,0,none⟩) 21 21,[.new (some (.cells (repV 21)))]):=by kernel_rfl
theorem blk_ans21 {H:HF}{N:Nat}:(blkD 22).ans [.int .i64 (.ofNat 22),.int .i64 (.negSucc 0)] H N=some (.slice (some ⟨N,0,none⟩) 22 22,[.new (some (.cells (repV 22)))]):=by kernel_rfl
theorem blk_ans22 {H:HF}{N:Nat}:(blkD 23).ans [.int .i64 (.ofNat 23),.int .i64 (.negSucc 0)] H N=some (.slice (some ⟨N,0,none⟩) 23 23,[.new (some (.cells (repV 23)))]):=by kernel_rfl
theorem blk_ans23 {H:HF}{N:Nat}:(blkD 24).ans [.int .i64 (.ofNat 24),.int .i64 (.negSucc 0)] H N=some (.slice (some ⟨N,0,none⟩) 24 24,[.new (some (.cells (repV 24)))]):=by kernel_rfl
theorem blk_ans24 {H:HF}{N:Nat}:(blkD 25).ans [.int .i64 (.ofNat 25),.int .i64 (.negSucc 0)] H N=some (.slice (some ⟨N,0,none⟩) 25 25,[.new (some (.cells (repV 25)))]):=by kernel_rfl
theorem blk_ans25 {H:HF}{N:Nat}:(blkD 26).ans [.int .i64 (.ofNat 26),.int .i64 (.negSucc 0)] H N=some (.slice (some ⟨N,0,none⟩) 26 26,[.new (some (.cells (repV 26)))]):=by kernel_rfl
theorem blk_ans26 {H:HF}{N:Nat}:(blkD 27).ans [.int .i64 (.ofNat 27),.int .i64 (.negSucc 0)] H N=some (.slice (some ⟨N,0,none⟩) 27 27,[.new (some (.cells (repV 27)))]):=by kernel_rfl
theorem blk_ans27 {H:HF}{N:Nat}:(blkD 28).ans [.int .i64 (.ofNat 28),.int .i64 (.negSucc 0)] H N=some (.slice (some ⟨N,0,none⟩) 28 28,[.new (some (.cells (repV 28)))]):=by kernel_rfl
theorem blk_ans28 {H:HF}{N:Nat}:(blkD 29).ans [.int .i64 (.ofNat 29),.int .i64 (.negSucc 0)] H N=some (.slice (some ⟨N,0,none⟩) 29 29,[.new (some (.cells (repV 29)))]):=by kernel_rfl
theorem blk_ans29 {H:HF}{N:Nat}:(blkD 30).ans [.int .i64 (.ofNat 30),.int .i64 (.negSucc 0)] H N=some (.slice (some ⟨N,0,none⟩) 30 30,[.new (some (.cells (repV 30)))]):=by kernel_rfl
theorem blk_ans {H:HF}{N:Nat}{n:Nat}(h:n<30):(blkD (n+1)).ans [.int .i64 (.ofNat (n+1)),.int .i64 (.negSucc 0)] H N=some (.slice (some ⟨N,0,none⟩) (n+1) (n+1),[.new (some (.cells (repV (n+1))))]):=by
 have:n=0\/n=1\/n=2\/n=3\/n=4\/n=5\/n=6\/n=7\/n=8\/n=9\/n=10\/n=11\/n=12\/n=13\/n=14\/n=15\/n=16\/n=17\/n=18\/n=19\/n=20\/n=21\/n=22\/n=23\/n=24\/n=25\/n=26\/n=27\/n=28\/n=29:=by omega
 rcases this with rfl | rfl | rfl | rfl | rfl | rfl | rfl | rfl | rfl | rfl | rfl | rfl | rfl | rfl | rfl | rfl | rfl | rfl | rfl | rfl | rfl | rfl | rfl | rfl | rfl | rfl | rfl | rfl | rfl | rfl
 ·exact blk_ans0
 ·exact blk_ans1
 ·exact blk_ans2
 ·exact blk_ans3
 ·exact blk_ans4
 ·exact blk_ans5
 ·exact blk_ans6
 ·exact blk_ans7
 ·exact blk_ans8
 ·exact blk_ans9
 ·exact blk_ans10
 ·exact blk_ans11
 ·exact blk_ans12
 ·exact blk_ans13
 ·exact blk_ans14
 ·exact blk_ans15
 ·exact blk_ans16
 ·exact blk_ans17
 ·exact blk_ans18
 ·exact blk_ans19
 ·exact blk_ans20
 ·exact blk_ans21
 ·exact blk_ans22
 ·exact blk_ans23
 ·exact blk_ans24
 ·exact blk_ans25
 ·exact blk_ans26
 ·exact blk_ans27
 ·exact blk_ans28
 ·exact blk_ans29
def blkX (args:List Value) (N:Nat):RL:=match args with
 | [.int .i64 (.ofNat 0),.int .i64 (.negSucc 0)]=>some (.slice (some ⟨0,0,none⟩) 0 0,[])
 | [.int .i64 (.ofNat (n+1)),.int .i64 (.negSucc 0)]=>if n<30 then some (.slice (some ⟨N,0,none⟩) (n+1) (n+1),[.new (some (.cells (repV (n+1))))]) else none
 | _=>none
theorem fnOk_blk {W:World}(hm:Tryz.prog.follows .mixedOrders=true):FnOk Tryz.prog W 157 (fun a σ=>RL.app σ (blkX a σ.length)):=by
 intro args σ v σ' hg
 dsimp only at hg
 have hst:GoodSt W stB:=fun b i v h=>nomatch h
 have hok:CallOk Tryz.prog W stB.ext:=fun f a s v s' h=>nomatch h
 have hf:(Tryz.prog.funcs[157]?).isSome=true:=by rw [Tryz.func157]; rfl
 unfold blkX at hg
 split at hg<;>first | (cases hg; done) | skip
 ·exact Deep.ok (D:=blkD0) blk_run0 rfl hst hok hm hf _ σ v σ' (by rw [<- hg]; kernel_rfl)
 ·rename_i n
  split at hg<;>first | (cases hg; done) | skip
  rename_i hn
  exact Deep.ok (D:=blkD (n+1)) (List.all_eq_true.1 blk_run n (by simpa using hn)) rfl hst hok hm hf _ σ v σ' (by rw [<- hg]; exact congrArg _ (blk_ans hn))
def blankC:Nat->Nat->DV:=fun _ f=>match f with
 | 0=>.v (.string ⟨⟨[32]⟩⟩)
 | 1=>.v (.int .i64 1)
 | 2=>.v (.int .i64 (-1))
 | 3=>.v (.int .i64 (-1))
 | _+4=>.v (.int .i64 0)
noncomputable def bkC:ConF:=fun args k=>match args with
 | [.v (.int .i64 z),.v (.int .i64 (.negSucc 0))]=>bif decide (0<=z)&&decide (z<=30) then k (fun _=>(.sl false blankC 5 z.toNat,[])) else none
 | _=>none
def blankW:Nat->Nat->Value:=fun _ f=>match f with
 | 0=>.string ⟨⟨[32]⟩⟩
 | 1=>.int .i64 1
 | 2=>.int .i64 (-1)
 | 3=>.int .i64 (-1)
 | _+4=>.int .i64 0
theorem blankC_eq:blankC=fun i j=>.v (blankW i j):=by
 funext i j
 match j with
 | 0=>rfl
 | 1=>rfl
 | 2=>rfl
 | 3=>rfl
 | _+4=>rfl
theorem bkC_ok {st:AE.Stat}(h:∀ a σ,st.ext 157 a σ=RL.app σ (blkX a σ.length)):ConOkZ true Tryz.prog st 157 bkC:=by
 refine con_extZ Tryz.func157 (by kernel_rfl) (by kernel_rfl) fun args k hk=>?_
 unfold bkC at hk
 split at hk<;>first | (cases hk; done) | skip
 rename_i z;obtain ⟨hz,hk⟩:=bif_none hk;simp only [Bool.and_eq_true,decide_eq_true_eq] at hz
 refine ⟨5,z.toNat,blankW,by decide,by unfold unk; omega,fun i j hj=>?_,by rw [<- blankC_eq]; exact hk,fun C σ vs _ ha=>?_⟩
 ·match j with
  | 0=>rfl
  | 1=>rfl
  | 2=>rfl
  | 3=>rfl
  | _+4=>rfl
 obtain ⟨x,r,rfl,h1,ha⟩:=ha.cons_inv;obtain ⟨y,r,rfl,h2,ha⟩:=ha.cons_inv;obtain rfl:=ha.nil_inv;cases h1;cases h2;rw [h]
 obtain ⟨n,rfl⟩:∃ n:Nat,z=n:=⟨z.toNat,by omega⟩
 cases n with
 | zero=>exact .inl ⟨rfl,_,rfl⟩
 | succ n =>
  refine .inr ⟨repV (n+1),fun i j hi hj=>?_,?_⟩
  ·rw [repV_at (n+1) i j (by simpa using hi) hj]
   match j,hj with
   | 0,_=>rfl
   | 1,_=>rfl
   | 2,_=>rfl
   | 3,_=>rfl
   | 4,_=>rfl
  ·have hn:n<30:=by omega
   show RL.app σ (if n<30 then _ else none)=_
   rw [if_pos hn];rfl
end Go.Proofs.YtigmkgampfbflaaGreatDoor
