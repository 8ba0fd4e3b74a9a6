/-
 The contracts of the reference's Valid and of its clusters' Check and Width.
 Conditions: none beyond those of the contracts.
-/
import Derived.Test.YtigmkgampfbflaaGreatDoorJVal
import Derived.Lib.IndexMore
namespace Go.Proofs.YtigmkgampfbflaaGreatDoor
open Go Go.AE Go.DE Go.RowKit
noncomputable abbrev vaL:List (FuncId×ConF):=[(89,decC),(90,encC)]
theorem va_tree (s:ByteArray) (k:DV→Option Unit):bodyD Tryz.prog (env vaL noLp 0) Tryz.f45 [sv s] [] (fun d _=>k d) =
  bif decide (0+ByteArray.size s≤9000000) then bif ByteArray.toList (Prod.snd (decF ({ data:=#[] }++s)))==ByteArray.toList { data:=#[] } then bif decide (0+List.length (Prod.fst (decF ({ data:=#[] }++s)))≤DC.n (DBlk.c (lstB IntKind.i32 (Prod.fst (decF ({ data:=#[] }++s))))))
  then bif holds (∀ (i:Nat),i<List.length (Prod.fst (decF ({ data:=#[] }++s)))→kv .i32 ((lw (Prod.fst (decF ({ data:=#[] }++s))) (0+i)))=kv .i32 ((numD (kv .i32 ((lw (Prod.fst (decF ({ data:=#[] }++s))) (0+i)))))))
  then bif decide (List.length (Prod.fst (decF ({ data:=#[] }++s)))≤9000000) then k (bv (ByteArray.toList (encF (fun i=>numD (kv .i32 ((lw (Prod.fst (decF ({ data:=#[] }++s))) (0+i))))) (List.length (Prod.fst (decF ({ data:=#[] }++s)))))==ByteArray.toList s))
  else none else none else none else k (bv false) else none:=by
 kernel_rfl
theorem bytes_ext {a b:ByteArray}(h:a.data.toList=b.data.toList):a=b:=by
 obtain ⟨⟨l⟩⟩:=a
 obtain ⟨⟨m⟩⟩:=b
 exact congrArg (fun l=>(⟨⟨l⟩⟩:ByteArray)) h
theorem nil_app (s:ByteArray):(⟨#[]⟩:ByteArray)++s=s:=bytes_ext (by rw [ByteArray.data_append,Array.toList_append]; rfl)
theorem DX.next {s:ByteArray}{i:Nat}{o k:List Int}(h:DX.ok ⟨s,i,o,k⟩) (hi:i<s.size):DX.ok ⟨s,(dstep s i o k).1,(dstep s i o k).2.1,(dstep s i o k).2.2⟩:=by
 obtain ⟨h1,h2,h3,h4⟩:i≤s.size∧s.size≤9000000∧o.length+min 1 k.length≤i∧k.length≤i:=h
 unfold dstep
 by_cases hk:k=[]
 ·subst hk
  rw [if_pos rfl]
  simp only [List.length_nil] at h3
  split
  ·exact ⟨hi,h2,by simp; omega,by simp⟩
  ·split
   ·exact ⟨hi,h2,by simp; omega,by simp⟩
   ·exact ⟨hi,h2,by simp; omega,by simp⟩
 ·have:0<k.length:=List.length_pos_iff.2 hk
  rw [if_neg hk]
  split
  ·exact ⟨h1,h2,by simp; omega,by simp⟩
  ·split
   ·exact ⟨h1,h2,by simp; omega,by simp⟩
   ·split
    ·exact ⟨hi,h2,by simp; omega,by simp⟩
    ·exact ⟨hi,h2,by simp; omega,by simp; omega⟩
theorem decR_len (s:ByteArray):∀ (m i:Nat) (o k:List Int),DX.ok ⟨s,i,o,k⟩→(decR s m i o k).1.length≤s.size
 | 0,i,o,k,h=>by
  obtain ⟨h1,h2,h3,h4⟩:i≤s.size∧s.size≤9000000∧o.length+min 1 k.length≤i∧k.length≤i:=h
  show o.length≤s.size
  omega
 | m+1,i,o,k,h=>by
  rw [decR]
  by_cases hi:i<s.size
  ·rw [if_pos hi]
   exact decR_len s m _ _ _ (DX.next h hi)
  ·rw [if_neg hi]
   exact decR_len s 0 i o k h
theorem decF_len {s:ByteArray}(h:s.size≤9000000):(decF s).1.length≤s.size:=decR_len s _ _ _ _ ⟨Nat.zero_le _,h,Nat.le_refl _,Nat.le_refl _⟩
def validF (s:ByteArray):Bool:=bif ByteArray.toList (decF s).2==ByteArray.toList ⟨#[]⟩ then ByteArray.toList (encF (lw (decF s).1) (decF s).1.length)==ByteArray.toList s else false
theorem va_true (s:ByteArray) (hn:s.size≤9000000):bodyD Tryz.prog (env vaL noLp 0) Tryz.f45 [sv s] [] (fun d _=>isD (bv (validF s)) d)=some ():=by
 refine (va_tree s _).trans ?_
 rw [nil_app]
 have hl:=decF_len hn
 unfold validF
 refine dT (by omega) (cS (fun h=>?_) fun h=>?_)
 ·refine dT ?_ (hT (fun j hj=>rfl) (dT (by omega) (isD_of ?_)))
  ·rw [Nat.zero_add]
   exact Nat.le_refl _
  ·rw [h,cond_true]
   simp only [Nat.zero_add,numD]
 ·refine isD_of ?_
  rw [h,cond_false]
noncomputable def vaC:ConF:=fun args k=>match args with
 | [.v (.string s)]=>bif decide (s.size≤9000000) then k (fun _=>(bv (validF s),[])) else none
 | _=>none
theorem vaL_ok {st:AE.Stat}(hx:Hx st):∀ x∈vaL,ConOk Tryz.prog st x.1 x.2:=fun x h=>by
 simp only [vaL,List.mem_cons,List.not_mem_nil,or_false] at h
 rcases h with rfl | rfl
 ·exact decC_ok hx
 ·exact encC_ok hx
theorem vaC_ok {st:AE.Stat}(hx:Hx st):ConOk Tryz.prog st 45 vaC:=by
 refine con_flat (mg:=[]) (l:=vaL) (lp:=noLp) (n:=0) (glOk st) (vaL_ok hx) Tryz.func45 (by kernel_rfl) (by kernel_rfl) (hx 45 rfl) (fun _ _ _ h=>nomatch h) fun args k hk=>?_
 unfold vaC at hk
 split at hk<;>first | (cases hk; done) | skip
 rename_i s
 obtain ⟨hn,hk⟩:=dec_none hk
 exact ⟨[sv s],_,.self .nil,v_clo _,hk,va_true s hn⟩
theorem valid_ne {s:ByteArray}(h:validF s=true) (hs:s≠⟨#[]⟩):(decF s).1≠[]:=fun e=>by
 unfold validF at h
 cases hb:ByteArray.toList (decF s).2==ByteArray.toList ⟨#[]⟩ with
 | false=>rw [hb] at h; cases h
 | true =>
  rw [hb,cond_true,e,beq_iff_eq] at h
  have h1:ByteArray.toList (encF (lw []) ([]:List Int).length)=[]:=by kernel_rfl
  rw [h1,Lib.toList_data] at h
  exact hs (bytes_ext h.symm)
end Go.Proofs.YtigmkgampfbflaaGreatDoor
namespace Go.Proofs.YtigmkgampfbflaaGreatDoor
open Go Go.AE Go.DE Go.RowKit
def pr (lo hi:Nat→Int) (i:Nat):Nat→Int
 | 0=>lo i
 | _=>hi i
def rowP (lo hi:Nat→Int):Nat→Nat→DV:=fun i f=>kv .i32 (pr lo hi i f)
structure PX where
 t:Bool
 lo:Nat→Int
 hi:Nat→Int
 n:Nat
 v:Int
 i:Nat
def inR (lo hi:Nat→Int) (v:Int):Nat→Nat→Bool
 | 0,_=>false
 | m+1,i=>if v ≥ pr lo hi i 0 then (if v≤pr lo hi i 1 then true else inR lo hi v m (i+1)) else inR lo hi v m (i+1)
def PX.r (x:PX):Bool:=inR x.lo x.hi x.v (x.n-x.i) x.i
noncomputable def inI:LInv PX where
 pre x:=x.n≤1000
 m:=0
 n:=28
 ps:=[0,1,5]
 sd x:=[.sl x.t (rowP x.lo x.hi) 2 x.n,kv .i32 x.v,iv x.i]
 sh _:=[]
 meas x:=x.n-x.i
 e x:=match x.r with
  | true=>.ret
  | false=>.exit 0
 qs:=[4]
 od x:=match x.r with
  | true=>[bv true]
  | false=>[.any]
 oh _:=[]
 guess ds _:=match ds with
  | [.sl t g 2 n,.v (.int _ v),_]=>some ⟨t,fun i=>numD (g i 0),fun i=>numD (g i 1),n,v,0⟩
  | _=>none
 cps x k:=bif holds (x.r=true) then k .ret [bv true] [] else k (.exit 0) [.any] []
theorem in_loop (t:Bool) (lo hi:Nat→Int) (n i:Nat) (v:Int) (K:Ex→Nat→List DV→List DV→DHeap→Option Unit):execD Tryz.prog (env [] noLp 0) (loopAt Tryz.f225 26) 500 (temps 28 [0,1,5] [.sl t (rowP lo hi) 2 n,kv .i32 v,iv i]) [] (fun e τ σ=>K e τ.length (pick [0,1,5] τ) (pick [4] τ) σ) =
  bif decide ((i:Int)<(n:Int)) then bif decide ((i:Int)<(n:Int)) then bif decide (tN i<n) then bif decide (v ≥ pr lo hi (tN i) 0) then bif decide ((i:Int)<(n:Int)) then bif decide (tN i<n)
  then bif decide (v≤pr lo hi (tN i) 1) then K .ret 28 [.sl t (fun a a_1=>kv .i32 ((pr lo hi a a_1))) 2 n,kv .i32 v,iv (i:Int)] [bv true] [] else K .normal 28 [.sl t (fun a a_1=>kv .i32 ((pr lo hi a a_1))) 2 n,kv .i32 v,iv (IntKind.wrap .i64 ((i:Int)+1))] [DV.any] []
  else none else none else K .normal 28 [.sl t (fun a a_1=>kv .i32 ((pr lo hi a a_1))) 2 n,kv .i32 v,iv (IntKind.wrap .i64 ((i:Int)+1))] [DV.any] [] else none else none else K (.exit 0) 28 [.sl t (fun a a_1=>kv .i32 ((pr lo hi a a_1))) 2 n,kv .i32 v,iv (i:Int)] [DV.any] []:=by
 kernel_rfl
theorem in_ls {st:AE.Stat}:LoopS Tryz.prog st gl0 (.loop (loopAt Tryz.f225 26)) inI.g:=by
 refine inI.ok (E:=env [] noLp 0) (p:=500) (tblD_env (l:=[]) (fun _ h=>nomatch h)) (glOk st).1 (fun _ _ _ h=>nomatch h) (fun x k h=>?_) fun x hx=>?_
 ·simp only [inI] at h ⊢
  cases hr:x.r with
  | true=>rw [hr,holds_eq.2 rfl] at h; exact h
  | false =>
   have hf:holds (false=true)=false:=by
    cases hb:holds (false=true) with
    | false=>rfl
    | true=>exact absurd (holds_eq.1 hb) (by decide)
   rw [hr,hf] at h; exact h
 obtain ⟨t,lo,hi,n,v,i⟩:=x
 have hn:n≤1000:=hx
 refine (in_loop t lo hi n i v _).trans ?_
 simp only [Int.toNat_natCast,Nat.add_zero]
 refine dS (fun hlt=>?_) fun hge=>?_
 ·have hlt:i<n:=by omega
  have hW:IntKind.i64.wrap ((i:Int)+1)=((i+1:Nat):Int):=by rw [W_in (by omega) (by omega)]; omega
  rw [hW]
  have e:n-i=(n-(i+1))+1:=by omega
  have go:PX.r ⟨t,lo,hi,n,v,i+1⟩=PX.r ⟨t,lo,hi,n,v,i⟩→inI.ask ⟨t,lo,hi,n,v,i⟩ .normal 28 [.sl t (rowP lo hi) 2 n,kv .i32 v,iv ((i+1:Nat):Int)] [.any] []=some ():=fun hr=>by
   refine LInv.ask_of ⟨rfl,⟨t,lo,hi,n,v,i+1⟩,⟨?_,?_,rfl,hn⟩,?_,[],wk0 (.cons (.sl _ _ _ _) (.cons (.v _) (.cons (.v _) .nil))) rfl⟩
   ·simp only [inI,hr]
   ·simp only [inI,hr]
   ·simp only [inI]; omega
  refine dT (by omega) (dT hlt (dS (fun h1=>dT (by omega) (dT hlt (dS (fun h2=>?_) fun h2=>go ?_))) fun h1=>go ?_))
  ·have hr:PX.r ⟨t,lo,hi,n,v,i⟩=true:=by simp only [PX.r,e,inR]; rw [if_pos h1,if_pos h2]
   refine LInv.ask_of ⟨rfl,?_,[],?_⟩
   ·simp only [inI,hr]
   ·simp only [inI,hr]
    exact wk0 (.cons (.v _) .nil) rfl
  ·simp only [PX.r,e,inR]
   rw [if_pos h1,if_neg h2]
  ·simp only [PX.r,e,inR]
   rw [if_neg h1]
 ·have hr:PX.r ⟨t,lo,hi,n,v,i⟩=false:=by
   have:n-i=0:=by omega
   simp only [PX.r,this,inR]
  refine LInv.ask_of ⟨rfl,?_,[],?_⟩
  ·simp only [inI,hr]
  ·simp only [inI,hr]
   exact wk0 (.cons (.any _) .nil) rfl
theorem in_tree (t:Bool) (lo hi:Nat→Int) (n:Nat) (v:Int) (k:DV→Option Unit):bodyD Tryz.prog (env [] (lpOf [(26,inI.g)]) 0) Tryz.f225 [.sl t (rowP lo hi) 2 n,kv .i32 v] [] (fun d _=>k d) =
  bif holds (Nat.le n 1000∧∃ ids,WkP 0 ids [.sl t (fun a a_1=>kv .i32 ((pr lo hi a a_1))) 2 n,kv .i32 v,iv 0] [] [.sl t (fun a a_1=>kv .i32 ((pr (fun i=>numD (kv .i32 ((pr lo hi i 0)))) (fun i=>numD (kv .i32 ((pr lo hi i 1)))) a a_1))) 2 n,kv .i32 v,iv 0] (LInv.sh inI { t:=t,lo:=fun i=>numD (kv .i32 ((pr lo hi i 0))),hi:=fun i=>numD (kv .i32 ((pr lo hi i 1))),n:=n,v:=v,i:=0 }))
  then bif holds (PX.r { t:=t,lo:=fun i=>numD (kv .i32 ((pr lo hi i 0))),hi:=fun i=>numD (kv .i32 ((pr lo hi i 1))),n:=n,v:=v,i:=0 }=true) then k (bv true) else k (bv false) else none:=by
 kernel_rfl
theorem hF {p:Prop}{x y:Option Unit}(h:¬ p) (hy:y=some ()):(bif holds p then x else y)=some ():=by
 cases hb:holds p with
 | false=>exact hy
 | true=>exact (h (holds_eq.1 hb)).elim
def inF (lo hi:Nat→Int) (n:Nat) (v:Int):Bool:=inR lo hi v n 0
theorem in_true (t:Bool) (lo hi:Nat→Int) (n:Nat) (v:Int) (hn:n≤1000):bodyD Tryz.prog (env [] (lpOf [(26,inI.g)]) 0) Tryz.f225 [.sl t (rowP lo hi) 2 n,kv .i32 v] [] (fun d _=>isD (bv (inF lo hi n v)) d)=some ():=by
 refine (in_tree t lo hi n v _).trans (hT ⟨hn,[],wk0 (.cons ?_ (.cons (.v _) (.cons (.v _) .nil))) rfl⟩ ?_)
 ·exact .sl t (rowP lo hi) 2 n
 ·cases hb:inF lo hi n v with
  | true=>exact hT hb (isD_of rfl)
  | false=>exact hF (fun h=>by rw [show inF lo hi n v=true from h] at hb; cases hb) (isD_of rfl)
noncomputable def inC:ConF:=fun args k=>match args with
 | [.sl _ g 2 n,.v (.int .i32 v)]=>bif holds (n≤1000∧∀ i,i<n→g i 0=kv .i32 (numD (g i 0))∧g i 1=kv .i32 (numD (g i 1))) then k (fun _=>(bv (inF (fun i=>numD (g i 0)) (fun i=>numD (g i 1)) n v),[])) else none
 | _=>none
theorem inC_ok {st:AE.Stat}(hx:Hx st):ConOk Tryz.prog st 225 inC:=by
 refine con_flat (mg:=[]) (l:=[]) (lp:=lpOf [(26,inI.g)]) (n:=0) (glOk st) (fun _ h=>nomatch h) Tryz.func225 (by kernel_rfl) (by kernel_rfl) (hx 225 rfl) (lp_one (by kernel_rfl) in_ls) fun args k hk=>?_
 unfold inC at hk
 split at hk<;>first | (cases hk; done) | skip
 rename_i t g n v
 obtain ⟨hb,hk⟩:=bif_none hk
 obtain ⟨hn,hg⟩:=holds_eq.1 hb
 refine ⟨[.sl t (rowP (fun i=>numD (g i 0)) (fun i=>numD (g i 1))) 2 n,kv .i32 v],_,.cons (fun C μ x hv=>?_) (.self .nil),v_clo _,hk,in_true t _ _ n v hn⟩
 rcases hv.sl_inv with ⟨a,cap,w,rfl,hc,hk0,q1,q2⟩ | ⟨rfl,rfl⟩
 ·refine .sl t _ 2 n a cap w hc hk0 q1 fun i f hi hf=>?_
  have h2:=q2 i f hi hf
  have:f=0∨f=1:=by omega
  rcases this with rfl | rfl
  ·rw [(hg i hi).1] at h2
   exact h2
  ·rw [(hg i hi).2] at h2
   exact h2
 ·exact .slnil t _ 2
end Go.Proofs.YtigmkgampfbflaaGreatDoor
namespace Go.Proofs.YtigmkgampfbflaaGreatDoor
open Go Go.AE Go.DE Go.RowKit
theorem inR_ext {lo lo' hi hi':Nat→Int}{v:Int}:∀ (m i:Nat),(∀ j,i≤j→j<i+m→lo j=lo' j∧hi j=hi' j)→inR lo hi v m i=inR lo' hi' v m i
 | 0,_,_=>rfl
 | m+1,i,h=>by
  have h0:=h i (Nat.le_refl _) (by omega)
  have e0:pr lo hi i 0=pr lo' hi' i 0:=h0.1
  have e1:pr lo hi i 1=pr lo' hi' i 1:=h0.2
  rw [inR,inR,e0,e1,inR_ext m (i+1) fun j h1 h2=>h j (by omega) (by omega)]
theorem inF_ext {lo lo' hi hi':Nat→Int}{v:Int}{n:Nat}(h:∀ j,j<n→lo j=lo' j∧hi j=hi' j):inF lo hi n v=inF lo' hi' n v:=inR_ext n 0 fun j _ h2=>h j (by omega)
def tabL (L:List (Int×Int)) (i:Nat):Int:=(L.getD i (0,0)).1
def tabH (L:List (Int×Int)) (i:Nat):Int:=(L.getD i (0,0)).2
def mkL:List (Int×Int):=[(768,879),(6832,6911),(7616,7679),(8203,8207),(8400,8447),(65024,65039),(65056,65071)]
def wdL:List (Int×Int):=[(4352,4447),(11904,12350),(12353,13311),(13312,19903),(19968,40959),(40960,42191),(44032,55203),(63744,64255),(65072,65135),(65280,65376),(65504,65510),(127744,128591),(129280,129535),(131072,262141)]
def markF (v:Int):Bool:=inF (tabL mkL) (tabH mkL) 7 v
def wideF (v:Int):Bool:=inF (tabL wdL) (tabH wdL) 14 v
noncomputable def inG (J:(Nat→Int)→(Nat→Int)→Nat→Int→Bool):ConF:=fun args k=>match args with
 | [.sl _ g 2 n,.v (.int .i32 v)]=>bif holds (n≤1000∧∀ i,i<n→g i 0=kv .i32 (numD (g i 0))∧g i 1=kv .i32 (numD (g i 1))) then k (fun _=>(bv (J (fun i=>numD (g i 0)) (fun i=>numD (g i 1)) n v),[])) else none
 | _=>none
noncomputable def tabC (L:List (Int×Int)):ConF:=fun args k=>match args with
 | []=>k (fun s=>(.os s 0 L.length,[some ⟨2,.tab L.length (rowP (tabL L) (tabH L))⟩]))
 | _=>none
theorem tab_low (L:List (Int×Int)) (s:Nat):LowR (.os s 0 L.length,[some (⟨2,.tab L.length (rowP (tabL L) (tabH L))⟩:DBlk)]):=⟨.os _ _ _,fun id blk hb i f hi hf=>by
 cases id with
 | zero =>
  obtain rfl:(⟨2,.tab L.length (rowP (tabL L) (tabH L))⟩:DBlk)=blk:=by simpa using hb
  exact .v _
 | succ id=>simp at hb⟩
theorem mkt_tree (K:DV→DHeap→Option Unit):bodyD Tryz.prog (env [] noLp 0) Tryz.f226 [] [] (fun d σ=>K d σ) =
  K (.os 0 0 7) [some ⟨2,.lst [[kv .i32 768,kv .i32 879],[kv .i32 6832,kv .i32 6911],[kv .i32 7616,kv .i32 7679],[kv .i32 8203,kv .i32 8207],[kv .i32 8400,kv .i32 8447],[kv .i32 65024,kv .i32 65039],[kv .i32 65056,kv .i32 65071]]⟩]:=by
 kernel_rfl
theorem wdt_tree (K:DV→DHeap→Option Unit):bodyD Tryz.prog (env [] noLp 0) Tryz.f227 [] [] (fun d σ=>K d σ) =
  K (.os 0 0 14) [some ⟨2,.lst [[kv .i32 4352,kv .i32 4447],[kv .i32 11904,kv .i32 12350],[kv .i32 12353,kv .i32 13311],[kv .i32 13312,kv .i32 19903],[kv .i32 19968,kv .i32 40959],[kv .i32 40960,kv .i32 42191],[kv .i32 44032,kv .i32 55203],[kv .i32 63744,kv .i32 64255],[kv .i32 65072,kv .i32 65135],[kv .i32 65280,kv .i32 65376],[kv .i32 65504,kv .i32 65510],[kv .i32 127744,kv .i32 128591],[kv .i32 129280,kv .i32 129535],[kv .i32 131072,kv .i32 262141]]⟩]:=by
 kernel_rfl
theorem mkC_ok {st:AE.Stat}(hx:Hx st):ConOk Tryz.prog st 226 (tabC mkL):=by
 refine con_of (mg:=[]) (l:=[]) (lp:=noLp) (n:=0) (glOk st) (fun _ h=>nomatch h) Tryz.func226 (by kernel_rfl) (by kernel_rfl) (hx 226 rfl) (fun _ _ _ h=>nomatch h) fun args k hk=>?_
 unfold tabC at hk
 split at hk<;>first | (cases hk; done) | skip
 refine ⟨[],_,.nil,hk,fun s=>⟨tab_low mkL s,(mkt_tree _).trans (fin_of ?_)⟩⟩
 refine finQ_own (id:=0) rfl rfl rfl (Nat.le_refl 7) trivial fun i f hi hf=>⟨.v _,?_⟩
 have hf:f=0∨f=1:=by omega
 have hi:i=0∨i=1∨i=2∨i=3∨i=4∨i=5∨i=6:=by have:i<7:=hi; omega
 rcases hf with rfl | rfl<;>rcases hi with rfl | rfl | rfl | rfl | rfl | rfl | rfl<;>rfl
theorem wdC_ok {st:AE.Stat}(hx:Hx st):ConOk Tryz.prog st 227 (tabC wdL):=by
 refine con_of (mg:=[]) (l:=[]) (lp:=noLp) (n:=0) (glOk st) (fun _ h=>nomatch h) Tryz.func227 (by kernel_rfl) (by kernel_rfl) (hx 227 rfl) (fun _ _ _ h=>nomatch h) fun args k hk=>?_
 unfold tabC at hk
 split at hk<;>first | (cases hk; done) | skip
 refine ⟨[],_,.nil,hk,fun s=>⟨tab_low wdL s,(wdt_tree _).trans (fin_of ?_)⟩⟩
 refine finQ_own (id:=0) rfl rfl rfl (Nat.le_refl 14) trivial fun i f hi hf=>⟨.v _,?_⟩
 have hf:f=0∨f=1:=by omega
 have hi:i=0∨i=1∨i=2∨i=3∨i=4∨i=5∨i=6∨i=7∨i=8∨i=9∨i=10∨i=11∨i=12∨i=13:=by have:i<14:=hi; omega
 rcases hf with rfl | rfl<;>rcases hi with rfl | rfl | rfl | rfl | rfl | rfl | rfl | rfl | rfl | rfl | rfl | rfl | rfl | rfl<;>rfl
theorem mark_tree (J:(Nat→Int)→(Nat→Int)→Nat→Int→Bool) (v:Int) (k:DV→Option Unit):bodyD Tryz.prog (env [(225,inG J),(226,tabC mkL)] noLp 0) Tryz.f151 [kv .i32 v] [] (fun d _=>k d) =
  bif holds (Nat.le 7 1000∧∀ (i:Nat),i<7→kv .i32 ((pr (tabL mkL) (tabH mkL) (0+i) 0))=kv .i32 ((numD (kv .i32 ((pr (tabL mkL) (tabH mkL) (0+i) 0)))))∧kv .i32 ((pr (tabL mkL) (tabH mkL) (0+i) 1))=kv .i32 ((numD (kv .i32 ((pr (tabL mkL) (tabH mkL) (0+i) 1))))))
  then k (bv (J (fun i=>numD (kv .i32 ((pr (tabL mkL) (tabH mkL) (0+i) 0)))) (fun i=>numD (kv .i32 ((pr (tabL mkL) (tabH mkL) (0+i) 1)))) 7 v)) else none:=by
 kernel_rfl
theorem mark_true (v:Int):bodyD Tryz.prog (env [(225,inG inF),(226,tabC mkL)] noLp 0) Tryz.f151 [kv .i32 v] [] (fun d _=>isD (bv (markF v)) d)=some ():=by
 refine (mark_tree inF v _).trans (hT ⟨by show 7≤1000; decide,fun i hi=>⟨rfl,rfl⟩⟩ (isD_of ?_))
 refine congrArg (fun b=>DV.v (.bool b)) (inF_ext fun i hi=>⟨?_,?_⟩)
 ·show tabL mkL (0+i)=_
  rw [Nat.zero_add]
 ·show tabH mkL (0+i)=_
  rw [Nat.zero_add]
noncomputable def markC (M:Int→Bool):ConF:=fun args k=>match args with
 | [.v (.int .i32 v)]=>k (fun _=>(bv (M v),[]))
 | _=>none
theorem markC_ok {st:AE.Stat}(hx:Hx st):ConOk Tryz.prog st 151 (markC markF):=by
 refine con_flat (mg:=[]) (l:=[(225,inG inF),(226,tabC mkL)]) (lp:=noLp) (n:=0) (glOk st) (fun x h=>?_) Tryz.func151 (by kernel_rfl) (by kernel_rfl) (hx 151 rfl) (fun _ _ _ h=>nomatch h) fun args k hk=>?_
 ·simp only [List.mem_cons,List.not_mem_nil,or_false] at h
  rcases h with rfl | rfl
  ·exact inC_ok hx
  ·exact mkC_ok hx
 unfold markC at hk
 split at hk<;>first | (cases hk; done) | skip
 rename_i v
 exact ⟨[kv .i32 v],_,.self .nil,v_clo _,hk,mark_true v⟩
noncomputable abbrev wiL (M:Int→Bool) (J:(Nat→Int)→(Nat→Int)→Nat→Int→Bool):List (FuncId×ConF):=[(151,markC M),(225,inG J),(227,tabC wdL)]
theorem wid_tree (M:Int→Bool) (J:(Nat→Int)→(Nat→Int)→Nat→Int→Bool) (v:Int) (k:DV→Option Unit):bodyD Tryz.prog (env (wiL M J) noLp 0) Tryz.f152 [kv .i32 v] [] (fun d _=>k d) =
  bif decide (v<32) then k (iv (-1:Int)) else bif decide (v ≥ 127) then bif decide (v≤159) then k (iv (-1:Int)) else bif M v then k (iv 0) else bif holds (Nat.le 14 1000∧∀ (i:Nat),i<14→kv .i32 ((pr (tabL wdL) (tabH wdL) (0+i) 0))=kv .i32 ((numD (kv .i32 ((pr (tabL wdL) (tabH wdL) (0+i) 0)))))∧kv .i32 ((pr (tabL wdL) (tabH wdL) (0+i) 1))=kv .i32 ((numD (kv .i32 ((pr (tabL wdL) (tabH wdL) (0+i) 1))))))
  then bif J (fun i=>numD (kv .i32 ((pr (tabL wdL) (tabH wdL) (0+i) 0)))) (fun i=>numD (kv .i32 ((pr (tabL wdL) (tabH wdL) (0+i) 1)))) 14 v then k (iv 2) else k (iv 1) else none else bif M v
  then k (iv 0) else bif holds (Nat.le 14 1000∧∀ (i:Nat),i<14→kv .i32 ((pr (tabL wdL) (tabH wdL) (0+i) 0))=kv .i32 ((numD (kv .i32 ((pr (tabL wdL) (tabH wdL) (0+i) 0)))))∧kv .i32 ((pr (tabL wdL) (tabH wdL) (0+i) 1))=kv .i32 ((numD (kv .i32 ((pr (tabL wdL) (tabH wdL) (0+i) 1))))))
  then bif J (fun i=>numD (kv .i32 ((pr (tabL wdL) (tabH wdL) (0+i) 0)))) (fun i=>numD (kv .i32 ((pr (tabL wdL) (tabH wdL) (0+i) 1)))) 14 v then k (iv 2) else k (iv 1) else none:=by
 kernel_rfl
def widF (v:Int):Int:=bif decide (v<32) then -1 else bif decide (v ≥ 127)&&decide (v≤159) then -1 else bif markF v then 0 else bif wideF v then 2 else 1
theorem wid_true (v:Int):bodyD Tryz.prog (env (wiL markF inF) noLp 0) Tryz.f152 [kv .i32 v] [] (fun d _=>isD (iv (widF v)) d)=some ():=by
 refine (wid_tree markF inF v _).trans ?_
 have hw:inF (fun i=>numD (DV.v (Value.int IntKind.i32 (pr (tabL wdL) (tabH wdL) (0+i) 0)))) (fun i=>numD (DV.v (Value.int IntKind.i32 (pr (tabL wdL) (tabH wdL) (0+i) 1)))) 14 v=wideF v :=
  inF_ext fun i hi=>⟨by show tabL wdL (0+i)=_; rw [Nat.zero_add],by show tabH wdL (0+i)=_; rw [Nat.zero_add]⟩
 rw [hw]
 refine dS (fun a=>isD_of ?_) fun a=>dS (fun b=>dS (fun c=>isD_of ?_) fun c=>?_) fun b=>?_
 ·unfold widF; rw [decide_eq_true a]; rfl
 ·unfold widF; rw [decide_eq_false a,decide_eq_true b,decide_eq_true c]; rfl
 all_goals
  refine cS (fun h=>isD_of ?_) fun h=>hT ⟨by show 14≤1000; decide,fun i hi=>⟨rfl,rfl⟩⟩ (cS (fun h2=>isD_of ?_) fun h2=>isD_of ?_)
 ·unfold widF; rw [decide_eq_false a,decide_eq_true b,decide_eq_false c,h]; rfl
 ·unfold widF; rw [decide_eq_false a,decide_eq_true b,decide_eq_false c,h,h2]; rfl
 ·unfold widF; rw [decide_eq_false a,decide_eq_true b,decide_eq_false c,h,h2]; rfl
 ·unfold widF; rw [decide_eq_false a,decide_eq_false b,h]; rfl
 ·unfold widF; rw [decide_eq_false a,decide_eq_false b,h,h2]; rfl
 ·unfold widF; rw [decide_eq_false a,decide_eq_false b,h,h2]; rfl
noncomputable def widC (D:Int→Int):ConF:=fun args k=>match args with
 | [.v (.int .i32 v)]=>k (fun _=>(iv (D v),[]))
 | _=>none
theorem widC_ok {st:AE.Stat}(hx:Hx st):ConOk Tryz.prog st 152 (widC widF):=by
 refine con_flat (mg:=[]) (l:=wiL markF inF) (lp:=noLp) (n:=0) (glOk st) (fun x h=>?_) Tryz.func152 (by kernel_rfl) (by kernel_rfl) (hx 152 rfl) (fun _ _ _ h=>nomatch h) fun args k hk=>?_
 ·simp only [wiL,List.mem_cons,List.not_mem_nil,or_false] at h
  rcases h with rfl | rfl | rfl
  ·exact markC_ok hx
  ·exact inC_ok hx
  ·exact wdC_ok hx
 unfold widC at hk
 split at hk<;>first | (cases hk; done) | skip
 rename_i v
 exact ⟨[kv .i32 v],_,.self .nil,v_clo _,hk,wid_true v⟩
end Go.Proofs.YtigmkgampfbflaaGreatDoor
namespace Go.Proofs.YtigmkgampfbflaaGreatDoor
open Go Go.AE Go.DE Go.RowKit
theorem ch_tree (s:ByteArray) (K:DV→DHeap→Option Unit):bodyD Tryz.prog (env [(89,decC)] noLp 0) Tryz.f150 [sv s] [] (fun d σ=>K d σ) =
  bif decide (0+ByteArray.size s≤9000000) then K (.os 0 0 (List.length (Prod.fst (decF ({ data:=#[] }++s))))) [some ⟨1,.tab (List.length (Prod.fst (decF ({ data:=#[] }++s)))) fun a a_1=>kv .i32 ((lw (Prod.fst (decF ({ data:=#[] }++s))) a))⟩]
  else none:=by
 kernel_rfl
noncomputable def chC:ConF:=fun args k=>match args with
 | [.v (.string s)]=>bif decide (s.size≤9000000) then k (fun b=>(.os b 0 (decF s).1.length,[some (lstB .i32 (decF s).1)])) else none
 | _=>none
theorem chC_ok {st:AE.Stat}(hx:Hx st):ConOk Tryz.prog st 150 chC:=by
 refine con_of (mg:=[]) (l:=[(89,decC)]) (lp:=noLp) (n:=0) (glOk st) (fun x h=>?_) Tryz.func150 (by kernel_rfl) (by kernel_rfl) (hx 150 rfl) (fun _ _ _ h=>nomatch h) fun args k hk=>?_
 ·simp only [List.mem_cons,List.not_mem_nil,or_false] at h
  subst h
  exact decC_ok hx
 unfold chC at hk
 split at hk<;>first | (cases hk; done) | skip
 rename_i s
 obtain ⟨hn,hk⟩:=dec_none hk
 refine ⟨[sv s],_,.self .nil,hk,fun b=>⟨lowR_lst (.os _ _ _),(ch_tree s _).trans ?_⟩⟩
 rw [nil_app]
 refine dT (by omega) (fin_of ?_)
 exact finQ_own (id:=0) (blk:=lstB .i32 (decF s).1) rfl rfl rfl (Nat.le_refl _) trivial fun i f hi hf=>⟨.v _,rfl⟩
def marksF (z:Nat→Int):Nat→Nat→Bool
 | 0,_=>true
 | m+1,i=>bif markF (z i) then marksF z m (i+1) else false
structure MX where
 z:Nat→Int
 n:Nat
 i:Nat
def MX.r (x:MX):Bool:=marksF x.z (x.n-x.i) x.i
noncomputable def mkI:LInv MX where
 pre x:=x.n≤9000000
 m:=1
 n:=40
 ps:=[3,4]
 sd x:=[.os 0 0 x.n,iv x.i]
 sh x:=[some ⟨1,.tab x.n (rowI .i32 x.z)⟩]
 meas x:=x.n-x.i
 e x:=match x.r with
  | true=>.exit 0
  | false=>.ret
 qs:=[2,3]
 od x:=match x.r with
  | true=>[.any,.os 0 0 x.n]
  | false=>[iv 9,.any]
 oh x:=[some ⟨1,.tab x.n (rowI .i32 x.z)⟩]
 guess ds σ:=match ds,σ with
  | [.os 0 0 n,_],[some ⟨1,.tab _ g⟩]=>some ⟨fun i=>numD (g i 0),n,1⟩
  | _,_=>none
 cps x k:=bif holds (x.r=true) then k (.exit 0) [.any,.os 0 0 x.n] [some ⟨1,.tab x.n (rowI .i32 x.z)⟩] else k .ret [iv 9,.any] [some ⟨1,.tab x.n (rowI .i32 x.z)⟩]
theorem mk_loop (M:Int→Bool) (z:Nat→Int) (n i:Nat) (K:Ex→Nat→List DV→List DV→DHeap→Option Unit):execD Tryz.prog (env [(151,markC M)] noLp 0) (loopAt Tryz.f91 250) 500 (temps 40 [3,4] [.os 0 0 n,iv i]) [some ⟨1,.tab n (rowI .i32 z)⟩] (fun e τ σ=>K e τ.length (pick [3,4] τ) (pick [2,3] τ) σ) =
  bif decide ((i:Int)<(n:Int)) then bif decide ((i:Int)<(n:Int)) then bif decide (0+tN i<n) then bif !M (z (0+tN i)) then K .ret 40 [.os 0 0 n,iv (i:Int)] [iv 9,.os 0 0 n] [some ⟨1,.tab n fun a a_1=>kv .i32 ((z a))⟩]
  else K .normal 40 [.os 0 0 n,iv (IntKind.wrap .i64 ((i:Int)+1))] [DV.any,.os 0 0 n] [some ⟨1,.tab n fun a a_1=>kv .i32 ((z a))⟩] else none else none else K (.exit 0) 40 [.os 0 0 n,iv (i:Int)] [DV.any,.os 0 0 n] [some ⟨1,.tab n fun a a_1=>kv .i32 ((z a))⟩]:=by
 kernel_rfl
theorem wkB {z:Nat→Int}{n:Nat}{ds ds2:List DV}(tm:SubL (ren 1 []) ds2 ds):WkP 1 [] ds [some ⟨1,.tab n (rowI .i32 z)⟩] ds2 [some ⟨1,.tab n (rowI .i32 z)⟩] :=
 .of (im:=[some 0]) tm rfl ⟨⟨0,_,rfl,rfl,⟨rfl,Nat.le_refl _,trivial,fun _ _ _ _=>.v _⟩⟩,trivial⟩ rfl (by decide)
theorem mk_ls {st:AE.Stat}(hx:Hx st):LoopS Tryz.prog st gl0 (.loop (loopAt Tryz.f91 250)) mkI.g:=by
 refine mkI.ok (E:=env [(151,markC markF)] noLp 0) (p:=500) (tblD_env (l:=[(151,markC markF)]) (fun x h=>?_)) (glOk st).1 (fun _ _ _ h=>nomatch h) (fun x k h=>?_) fun x hx=>?_
 ·simp only [List.mem_cons,List.not_mem_nil,or_false] at h
  subst h
  exact markC_ok hx
 ·simp only [mkI] at h ⊢
  cases hr:x.r with
  | true=>rw [hr,holds_eq.2 rfl] at h; exact h
  | false =>
   have hf:holds (false=true)=false:=by
    cases hb:holds (false=true) with
    | false=>rfl
    | true=>exact absurd (holds_eq.1 hb) (by decide)
   rw [hr,hf] at h; exact h
 obtain ⟨z,n,i⟩:=x
 have hn:n≤9000000:=hx
 refine (mk_loop markF z n i _).trans ?_
 simp only [Int.toNat_natCast,Nat.add_zero,Nat.zero_add]
 refine dS (fun hlt=>?_) fun hge=>?_
 ·have hlt:i<n:=by omega
  have e:n-i=(n-(i+1))+1:=by omega
  have hW:IntKind.i64.wrap ((i:Int)+1)=((i+1:Nat):Int):=by rw [W_in (by omega) (by omega)]; omega
  rw [hW]
  refine dT (by omega) (dT hlt (cS (fun h=>?_) fun h=>?_))
  ·have h:markF (z i)=false:=by simpa using h
   have hr:MX.r ⟨z,n,i⟩=false:=by simp only [MX.r,e,marksF,h,cond_false]
   refine LInv.ask_of ⟨rfl,?_,[],?_⟩
   ·simp only [mkI,hr]
   ·simp only [mkI,hr]
    exact wkB (.cons (.v _) (.cons (.any _) .nil))
  ·have h:markF (z i)=true:=by simpa using h
   have hr:MX.r ⟨z,n,i+1⟩=MX.r ⟨z,n,i⟩:=by simp only [MX.r,e,marksF,h,cond_true]
   refine LInv.ask_of ⟨rfl,⟨z,n,i+1⟩,⟨?_,?_,rfl,hn⟩,?_,[],?_⟩
   ·simp only [mkI,hr]
   ·simp only [mkI,hr]
   ·simp only [mkI]; omega
   ·exact wkB (.cons (.os rfl) (.cons (.v _) .nil))
 ·have hr:MX.r ⟨z,n,i⟩=true:=by
   have:n-i=0:=by omega
   simp only [MX.r,this,marksF]
  refine LInv.ask_of ⟨rfl,?_,[],?_⟩
  ·simp only [mkI,hr]
  ·simp only [mkI,hr]
   exact wkB (.cons (.any _) (.cons (.os rfl) .nil))
noncomputable def vaG (V:ByteArray→Bool):ConF:=fun args k=>match args with
 | [.v (.string s)]=>bif decide (s.size≤9000000) then k (fun _=>(bv (V s),[])) else none
 | _=>none
noncomputable def chG (A:ByteArray→List Int):ConF:=fun args k=>match args with
 | [.v (.string s)]=>bif decide (s.size≤9000000) then k (fun b=>(.os b 0 (A s).length,[some (lstB .i32 (A s))])) else none
 | _=>none
def chF (s:ByteArray):List Int:=(decF s).1
noncomputable abbrev ckL (V:ByteArray→Bool) (A:ByteArray→List Int) (M:Int→Bool) (D:Int→Int):List (FuncId×ConF):=[(45,vaG V),(150,chG A),(151,markC M),(152,widC D)]
theorem ck_tree (V:ByteArray→Bool) (A:ByteArray→List Int) (M:Int→Bool) (D:Int→Int) (s:ByteArray) (k:DV→Option Unit):bodyD Tryz.prog (env (ckL V A M D) (lpOf [(250,mkI.g)]) 0) Tryz.f91 [sv s] [] (fun d _=>k d) =
  bif ByteArray.toList s==ByteArray.toList { data:=#[] } then k (iv 3) else bif decide (ByteArray.size s≤9000000) then bif !V s then k (iv 3) else bif decide (ByteArray.size s≤9000000) then bif decide (0<(↑(List.length (A s)):Int))
  then bif decide (0+0 / DBlk.k (lstB IntKind.i32 (A s))<List.length (A s)) then bif M (lw (A s) (0+0 / DBlk.k (lstB IntKind.i32 (A s)))) then k (iv 9) else bif decide (0<(↑(List.length (A s)):Int))
  then bif decide (0+0 / DBlk.k (lstB IntKind.i32 (A s))<List.length (A s)) then bif decide (D (lw (A s) (0+0 / DBlk.k (lstB IntKind.i32 (A s))))<1) then k (iv 9) else bif holds (Nat.le (List.length (A s)) 9000000∧∃ ids,WkP 1 ids [.os 0 0 (List.length (A s)),iv 1] [some ⟨1,.tab (List.length (A s)) fun a a_1=>kv .i32 ((lw (A s) a))⟩] [.os 0 0 (List.length (A s)),iv 1] [some ⟨1,.tab (List.length (A s)) fun a a_1=>kv .i32 (((fun i=>numD (kv .i32 ((lw (A s) i)))) a))⟩])
  then bif holds (MX.r { z:=fun i=>numD (kv .i32 ((lw (A s) i))),n:=List.length (A s),i:=1 }=true) then bif decide ((↑(List.length (A s)):Int) > 4) then k (iv 5) else k (iv 0) else k (iv 9)
  else none else none else none else none else none else none else none:=by
 kernel_rfl
def check3 (s:ByteArray):Int :=
 bif ByteArray.toList s==ByteArray.toList ⟨#[]⟩ then 3 else bif validF s then
  bif markF (lw (decF s).1 0) then 9 else bif decide (widF (lw (decF s).1 0)<1) then 9 else
   bif marksF (lw (decF s).1) ((decF s).1.length-1) 1 then (bif decide (((decF s).1.length:Int) > 4) then 5 else 0) else 9
 else 3
theorem ck_true (s:ByteArray) (hn:s.size≤9000000):bodyD Tryz.prog (env (ckL validF chF markF widF) (lpOf [(250,mkI.g)]) 0) Tryz.f91 [sv s] [] (fun d _=>isD (iv (check3 s)) d)=some ():=by
 refine (ck_tree validF chF markF widF s _).trans ?_
 have hlen:(chF s).length≤s.size:=decF_len hn
 refine cS (fun h=>isD_of ?_) fun h=>dT hn (cS (fun hv=>isD_of ?_) fun hv=>?_)
 ·unfold check3; rw [h]; rfl
 ·have hv:validF s=false:=by simpa using hv
  unfold check3; rw [h,hv]; rfl
 have hv:validF s=true:=by simpa using hv
 have hne:0<(chF s).length:=List.length_pos_iff.2 (valid_ne hv fun e=>by rw [e,beq_self_eq_true] at h; cases h)
 have z0:0+0 / (lstB IntKind.i32 (chF s)).k=0:=by simp [lstB]
 simp only [z0]
 have hc:check3 s=bif markF (lw (chF s) 0) then 9 else bif decide (widF (lw (chF s) 0)<1) then 9 else
   bif marksF (lw (chF s)) ((chF s).length-1) 1 then (bif decide (((chF s).length:Int) > 4) then 5 else 0) else 9:=by unfold check3; rw [h,hv]; rfl
 rw [hc]
 refine dT hn (dT (by omega) (dT hne (cS (fun h1=>isD_of ?_) fun h1=>dT (by omega) (dT hne (dS (fun h2=>isD_of ?_) fun h2=>hT ⟨?_,[],wkB (.cons (.os rfl) (.cons (.v _) .nil))⟩ ?_)))))
 ·rw [h1]; rfl
 ·rw [h1,decide_eq_true h2]; rfl
 ·show (chF s).length≤9000000
  omega
 ·rw [h1,decide_eq_false h2]
  cases hm:marksF (lw (chF s)) ((chF s).length-1) 1 with
  | true=>exact hT hm (dS (fun h4=>isD_of (by rw [decide_eq_true h4]; rfl)) fun h4=>isD_of (by rw [decide_eq_false h4]; rfl))
  | false=>exact hF (fun e=>by rw [show marksF (lw (chF s)) ((chF s).length-1) 1=true from e] at hm; cases hm) (isD_of rfl)
end Go.Proofs.YtigmkgampfbflaaGreatDoor
namespace Go.Proofs.YtigmkgampfbflaaGreatDoor
open Go Go.AE Go.DE Go.RowKit
noncomputable def ckC (F:ByteArray→Int):ConF:=fun args k=>match args with
 | [.v (.string s)]=>bif decide (s.size≤9000000) then k (fun _=>(iv (F s),[])) else none
 | _=>none
theorem ckC_ok {st:AE.Stat}(hx:Hx st):ConOk Tryz.prog st 91 (ckC check3):=by
 refine con_flat (mg:=[]) (l:=ckL validF chF markF widF) (lp:=lpOf [(250,mkI.g)]) (n:=0) (glOk st) (fun x h=>?_) Tryz.func91 (by kernel_rfl) (by kernel_rfl) (hx 91 rfl) (lp_one (by kernel_rfl) (mk_ls hx)) fun args k hk=>?_
 ·simp only [ckL,List.mem_cons,List.not_mem_nil,or_false] at h
  rcases h with rfl | rfl | rfl | rfl
  ·exact vaC_ok hx
  ·exact chC_ok hx
  ·exact markC_ok hx
  ·exact widC_ok hx
 unfold ckC at hk
 split at hk<;>first | (cases hk; done) | skip
 rename_i s
 obtain ⟨hn,hk⟩:=dec_none hk
 exact ⟨[sv s],_,.self .nil,v_clo _,hk,ck_true s hn⟩
noncomputable abbrev cwL (F:ByteArray→Int) (A:ByteArray→List Int) (D:Int→Int):List (FuncId×ConF):=[(91,ckC F),(150,chG A),(152,widC D)]
theorem cw_tree (F:ByteArray→Int) (A:ByteArray→List Int) (D:Int→Int) (s:ByteArray) (k:DV→Option Unit):bodyD Tryz.prog (env (cwL F A D) noLp 0) Tryz.f92 [sv s] [] (fun d _=>k d) =
  bif decide (ByteArray.size s≤9000000) then bif F s != 0 then k (iv 0) else bif decide (ByteArray.size s≤9000000) then bif decide (0<(↑(List.length (A s)):Int)) then bif decide (0+0 / DBlk.k (lstB IntKind.i32 (A s))<List.length (A s))
  then k (iv (D (lw (A s) (0+0 / DBlk.k (lstB IntKind.i32 (A s)))))) else none else none else none else none:=by
 kernel_rfl
def width3 (s:ByteArray):Int:=if check3 s=0 then widF (lw (decF s).1 0) else 0
theorem check3_ne {s:ByteArray}(h:check3 s=0):0<(decF s).1.length:=by
 unfold check3 at h
 cases h1:(ByteArray.toList s==ByteArray.toList ⟨#[]⟩) with
 | true=>rw [h1] at h; cases h
 | false =>
  cases h2:validF s with
  | false=>rw [h1,h2] at h; cases h
  | true=>exact List.length_pos_iff.2 (valid_ne h2 fun e=>by rw [e,beq_self_eq_true] at h1; cases h1)
theorem cw_true (s:ByteArray) (hn:s.size≤9000000):bodyD Tryz.prog (env (cwL check3 chF widF) noLp 0) Tryz.f92 [sv s] [] (fun d _=>isD (iv (width3 s)) d)=some ():=by
 refine (cw_tree check3 chF widF s _).trans ?_
 have hlen:(chF s).length≤s.size:=decF_len hn
 have z0:0+0 / (lstB IntKind.i32 (chF s)).k=0:=by simp [lstB]
 simp only [z0]
 refine dT hn (cS (fun h=>isD_of ?_) fun h=>?_)
 ·have h:check3 s≠0:=by simpa using h
  unfold width3; rw [if_neg h]
 ·have h:check3 s=0:=by simpa using h
  have hne:=check3_ne h
  refine dT hn (dT (by have:0<(chF s).length:=hne; omega) (dT hne (isD_of ?_)))
  unfold width3; rw [if_pos h]
  rfl
noncomputable def cwC (F:ByteArray→Int):ConF:=fun args k=>match args with
 | [.v (.string s)]=>bif decide (s.size≤9000000) then k (fun _=>(iv (F s),[])) else none
 | _=>none
theorem cwC_ok {st:AE.Stat}(hx:Hx st):ConOk Tryz.prog st 92 (cwC width3):=by
 refine con_flat (mg:=[]) (l:=cwL check3 chF widF) (lp:=noLp) (n:=0) (glOk st) (fun x h=>?_) Tryz.func92 (by kernel_rfl) (by kernel_rfl) (hx 92 rfl) (fun _ _ _ h=>nomatch h) fun args k hk=>?_
 ·simp only [cwL,List.mem_cons,List.not_mem_nil,or_false] at h
  rcases h with rfl | rfl | rfl
  ·exact ckC_ok hx
  ·exact chC_ok hx
  ·exact widC_ok hx
 unfold cwC at hk
 split at hk<;>first | (cases hk; done) | skip
 rename_i s
 obtain ⟨hn,hk⟩:=dec_none hk
 exact ⟨[sv s],_,.self .nil,v_clo _,hk,cw_true s hn⟩
structure Row where
 n:Nat
 tx:Nat→ByteArray
 wd:Nat→Int
 fo:Nat→Int
 ba:Nat→Int
 fl:Nat→Int
def Row.cell (r:Row) (i:Nat):Nat→DV
 | 0=>sv (r.tx i)
 | 1=>iv (r.wd i)
 | 2=>iv (r.fo i)
 | 3=>iv (r.ba i)
 | _=>iv (r.fl i)
def Row.half (r:Row) (i j:Nat):Bool :=
 bif r.tx j==⟨#[]⟩ then (bif r.wd j==0 then (bif (bif r.fo j==r.fo i then (bif r.ba j==r.ba i then (bif r.fl j==r.fl i then true else false) else false) else false) then true else false) else false) else false
def c7s (r:Row) (i:Nat) (a b:Int):Int :=
 bif (r.wd i != 1)&&(r.wd i != 2) then 12 else bif check3 (r.tx i) != 0 then 3 else bif width3 (r.tx i) != r.wd i then 12 else
  bif r.wd i==1 then a else bif ((i+1:Nat):Int)==(r.n:Int) then 12 else bif r.half i (i+1) then b else 12
def c7 (r:Row):Nat→Nat→Int
 | 0,_=>0
 | m+1,i=>if i<r.n then c7s r i (c7 r m (i+1)) (c7 r m (i+2)) else 0
def Row.sized (r:Row):Prop:=r.n≤9000000∧∀ i,i<r.n→(r.tx i).size≤9000000
def qe (v:Int):Ex:=if v=0 then .exit 0 else .ret
def qo (v:Int):List DV:=if v=0 then [.any] else [iv v]
theorem q_cps {v:Int}{σ:DHeap}{k:Ex→List DV→DHeap→Option Unit}(h:(bif holds (v=0) then k (.exit 0) [.any] σ else k .ret [iv v] σ)=some ()):k (qe v) (qo v) σ=some ():=by
 rcases bif_some h with ⟨h1,h2⟩ | ⟨h1,h2⟩
 ·unfold qe qo; rw [if_pos (holds_eq.1 h1),if_pos (holds_eq.1 h1)]; exact h2
 ·have h1:¬ v=0:=fun e=>by rw [holds_eq.2 e] at h1; cases h1
  unfold qe qo; rw [if_neg h1,if_neg h1]; exact h2
def strD:DV→ByteArray
 | .v (.string s)=>s
 | _=>⟨#[]⟩
def rowOf (g:Nat→Nat→DV) (n:Nat):Row:=⟨n,fun i=>strD (g i 0),fun i=>numD (g i 1),fun i=>numD (g i 2),fun i=>numD (g i 3),fun i=>numD (g i 4)⟩
structure CX where
 t:Bool
 r:Row
 m:Nat
 i:Nat
def CX.q (x:CX):Int:=c7 x.r x.m x.i
noncomputable def rwI:LInv CX where
 pre x:=x.r.sized∧x.r.n≤x.m+x.i
 m:=0
 n:=68
 ps:=[0,3]
 sd x:=[.sl x.t x.r.cell 5 x.r.n,iv x.i]
 sh _:=[]
 meas x:=x.r.n-x.i
 e x:=qe x.q
 qs:=[2]
 od x:=qo x.q
 oh _:=[]
 guess ds _:=match ds with
  | [.sl t g 5 n,_]=>some ⟨t,rowOf g n,n,0⟩
  | _=>none
 cps x k:=bif holds (x.q=0) then k (.exit 0) [.any] [] else k .ret [iv x.q] []
theorem rw_loop (F G:ByteArray→Int) (t:Bool) (r:Row) (i:Nat) (K:Ex→Nat→List DV→List DV→DHeap→Option Unit):execD Tryz.prog (env [(91,ckC F),(92,cwC G)] noLp 0) (loopAt Tryz.f46 58) 500 (temps 68 [0,3] [.sl t r.cell 5 r.n,iv i]) [] (fun e τ σ=>K e τ.length (pick [0,3] τ) (pick [2] τ) σ) =
  bif decide ((i:Int)<(r.n:Int)) then bif decide ((i:Int)<(r.n:Int)) then bif decide (tN i<r.n) then bif r.wd (tN i) != 1 then bif r.wd (tN i) != 2 then K .ret 68 [.sl t r.cell 5 r.n,iv (i:Int)] [iv 12] []
  else bif decide ((i:Int)<(r.n:Int)) then bif decide (tN i<r.n) then bif decide (ByteArray.size (r.tx (tN i))≤9000000) then bif F (r.tx (tN i)) != 0 then K .ret 68 [.sl t r.cell 5 r.n,iv (i:Int)] [iv 3] []
  else bif decide ((i:Int)<(r.n:Int)) then bif decide (tN i<r.n) then bif decide (ByteArray.size (r.tx (tN i))≤9000000) then bif G (r.tx (tN i)) != r.wd (tN i) then K .ret 68 [.sl t r.cell 5 r.n,iv (i:Int)] [iv 12] []
  else bif r.wd (tN i)==1 then K .normal 68 [.sl t r.cell 5 r.n,iv (IntKind.wrap .i64 ((i:Int)+1))] [DV.any] [] else bif IntKind.wrap .i64 ((i:Int)+1)==(r.n:Int) then K .ret 68 [.sl t r.cell 5 r.n,iv (i:Int)] [iv 12] []
  else bif decide (0≤IntKind.wrap .i64 ((i:Int)+1)) then bif decide (IntKind.wrap .i64 ((i:Int)+1)<(r.n:Int)) then bif decide (Int.toNat (IntKind.wrap .i64 ((i:Int)+1))+0<r.n) then
  bif decide (Int.toNat (IntKind.wrap .i64 ((i:Int)+1))+0<r.n) then bif decide (Int.toNat (IntKind.wrap .i64 ((i:Int)+1))+0<r.n) then bif decide (Int.toNat (IntKind.wrap .i64 ((i:Int)+1))+0<r.n)
  then bif decide (Int.toNat (IntKind.wrap .i64 ((i:Int)+1))+0<r.n) then bif decide ((i:Int)<(r.n:Int)) then bif decide (tN i<r.n) then bif decide (tN i<r.n) then bif decide (tN i<r.n)
  then bif !bif r.tx (Int.toNat (IntKind.wrap .i64 ((i:Int)+1))+0)=={ data:=#[] } then bif r.wd (Int.toNat (IntKind.wrap .i64 ((i:Int)+1))+0)==0 then bif bif r.fo (Int.toNat (IntKind.wrap .i64 ((i:Int)+1))+0)==r.fo (tN i)
  then bif r.ba (Int.toNat (IntKind.wrap .i64 ((i:Int)+1))+0)==r.ba (tN i) then bif r.fl (Int.toNat (IntKind.wrap .i64 ((i:Int)+1))+0)==r.fl (tN i) then true else false else false else false
  then true else false else false else false then K .ret 68 [.sl t r.cell 5 r.n,iv (i:Int)] [iv 12] [] else K .normal 68 [.sl t r.cell 5 r.n,iv (IntKind.wrap .i64 (IntKind.wrap .i64 ((i:Int)+1)+1))] [DV.any] []
  else none else none else none else none else none else none else none else none else none else none else none else none else none else none else none else none else none else bif decide ((i:Int)<(r.n:Int))
  then bif decide (tN i<r.n) then bif decide (ByteArray.size (r.tx (tN i))≤9000000) then bif F (r.tx (tN i)) != 0 then K .ret 68 [.sl t r.cell 5 r.n,iv (i:Int)] [iv 3] [] else bif decide ((i:Int)<(r.n:Int))
  then bif decide (tN i<r.n) then bif decide (ByteArray.size (r.tx (tN i))≤9000000) then bif G (r.tx (tN i)) != r.wd (tN i) then K .ret 68 [.sl t r.cell 5 r.n,iv (i:Int)] [iv 12] [] else bif r.wd (tN i)==1
  then K .normal 68 [.sl t r.cell 5 r.n,iv (IntKind.wrap .i64 ((i:Int)+1))] [DV.any] [] else bif IntKind.wrap .i64 ((i:Int)+1)==(r.n:Int) then K .ret 68 [.sl t r.cell 5 r.n,iv (i:Int)] [iv 12] []
  else bif decide (0≤IntKind.wrap .i64 ((i:Int)+1)) then bif decide (IntKind.wrap .i64 ((i:Int)+1)<(r.n:Int)) then bif decide (Int.toNat (IntKind.wrap .i64 ((i:Int)+1))+0<r.n) then
  bif decide (Int.toNat (IntKind.wrap .i64 ((i:Int)+1))+0<r.n) then bif decide (Int.toNat (IntKind.wrap .i64 ((i:Int)+1))+0<r.n) then bif decide (Int.toNat (IntKind.wrap .i64 ((i:Int)+1))+0<r.n)
  then bif decide (Int.toNat (IntKind.wrap .i64 ((i:Int)+1))+0<r.n) then bif decide ((i:Int)<(r.n:Int)) then bif decide (tN i<r.n) then bif decide (tN i<r.n) then bif decide (tN i<r.n)
  then bif !bif r.tx (Int.toNat (IntKind.wrap .i64 ((i:Int)+1))+0)=={ data:=#[] } then bif r.wd (Int.toNat (IntKind.wrap .i64 ((i:Int)+1))+0)==0 then bif bif r.fo (Int.toNat (IntKind.wrap .i64 ((i:Int)+1))+0)==r.fo (tN i)
  then bif r.ba (Int.toNat (IntKind.wrap .i64 ((i:Int)+1))+0)==r.ba (tN i) then bif r.fl (Int.toNat (IntKind.wrap .i64 ((i:Int)+1))+0)==r.fl (tN i) then true else false else false else false
  then true else false else false else false then K .ret 68 [.sl t r.cell 5 r.n,iv (i:Int)] [iv 12] [] else K .normal 68 [.sl t r.cell 5 r.n,iv (IntKind.wrap .i64 (IntKind.wrap .i64 ((i:Int)+1)+1))] [DV.any] []
  else none else none else none else none else none else none else none else none else none else none else none else none else none else none else none else none else none else none else none else K (.exit 0) 68 [.sl t r.cell 5 r.n,iv (i:Int)] [DV.any] []:=by
 kernel_rfl
theorem rw_ls {st:AE.Stat}(hx:Hx st):LoopS Tryz.prog st gl0 (.loop (loopAt Tryz.f46 58)) rwI.g:=by
 refine rwI.ok (E:=env [(91,ckC check3),(92,cwC width3)] noLp 0) (p:=500) (tblD_env (l:=[(91,ckC check3),(92,cwC width3)]) (fun x h=>?_)) (glOk st).1 (fun _ _ _ h=>nomatch h) (fun x k h=>?_) fun x hx=>?_
 ·simp only [List.mem_cons,List.not_mem_nil,or_false] at h
  rcases h with rfl | rfl
  ·exact ckC_ok hx
  ·exact cwC_ok hx
 ·exact q_cps h
 obtain ⟨t,r,m,i⟩:=x
 obtain ⟨hn,hm⟩:r.sized∧r.n≤m+i:=hx
 refine (rw_loop check3 width3 t r i _).trans ?_
 simp only [Int.toNat_natCast,Nat.add_zero]
 have hsz:=hn.1
 refine dS (fun hlt=>?_) fun hge=>?_
 ·have hlt:i<r.n:=by omega
  have hts:=hn.2 i hlt
  obtain ⟨m,rfl⟩:∃ m',m=m'+1:=⟨m-1,by omega⟩
  have hW:IntKind.i64.wrap ((i:Int)+1)=((i+1:Nat):Int):=by rw [W_in (by omega) (by omega)]; omega
  have hW2:IntKind.i64.wrap (((i+1:Nat):Int)+1)=((i+2:Nat):Int):=by rw [W_in (by omega) (by omega)]; omega
  simp only [hW,hW2,Int.toNat_natCast]
  have hq:CX.q ⟨t,r,m+1,i⟩=c7s r i (c7 r m (i+1)) (c7 r m (i+2)):=by simp only [CX.q,c7,if_pos hlt]
  have stop:∀ (v:Int),v≠0→CX.q ⟨t,r,m+1,i⟩=v→rwI.ask ⟨t,r,m+1,i⟩ .ret 68 [.sl t r.cell 5 r.n,iv i] [iv v] []=some ():=fun v hv hq=>by
   refine LInv.ask_of ⟨rfl,?_,[],?_⟩
   ·simp only [rwI]; rw [hq]; exact (if_neg hv).symm
   ·simp only [rwI]; rw [hq]; show WkP 0 [] _ _ (qo v) _; rw [show qo v=[iv v] from if_neg hv]; exact wk0 (.cons (.v _) .nil) rfl
  have go:∀ (j:Nat),i<j→CX.q ⟨t,r,m,j⟩=CX.q ⟨t,r,m+1,i⟩→rwI.ask ⟨t,r,m+1,i⟩ .normal 68 [.sl t r.cell 5 r.n,iv j] [.any] []=some ():=fun j hj hq =>
   LInv.ask_of ⟨rfl,⟨t,r,m,j⟩,⟨by simp only [rwI,hq],by simp only [rwI,hq],rfl,hn,by show r.n≤m+j; omega⟩,by simp only [rwI]; omega,[],wk0 (.cons (.sl _ _ _ _) (.cons (.v _) .nil)) rfl⟩
  rw [hq] at stop go
  unfold c7s at stop go
  refine dT (by omega) (dT hlt (cS (fun h1=>cS (fun h2=>stop 12 (by decide) (by rw [h1,h2]; rfl)) fun h2=>?_) fun h1=>?_))
  all_goals
   have hh:((r.wd i != 1)&&(r.wd i != 2))=false:=by simp [h1]<;>simpa using h2
   rw [hh,cond_false] at stop go
   refine dT (by omega) (dT hlt (dT hts (cS (fun h3=>stop 3 (by decide) (by rw [h3]; rfl)) fun h3=>?_)))
   rw [h3,cond_false] at stop go
   refine dT (by omega) (dT hlt (dT hts (cS (fun h4=>stop 12 (by decide) (by rw [h4]; rfl)) fun h4=>?_)))
   rw [h4,cond_false] at stop go
   refine cS (fun h5=>go (i+1) (by omega) (by rw [h5,cond_true]; rfl)) fun h5=>?_
   rw [h5,cond_false] at stop go
   refine cS (fun h6=>stop 12 (by decide) (by rw [h6]; rfl)) fun h6=>?_
   rw [h6,cond_false] at stop go
   have h6:((i+1:Nat):Int)≠r.n:=by simpa using h6
   refine dT (by omega) (dT (by omega) (dT (by omega) (dT (by omega) (dT (by omega) (dT (by omega) (dT (by omega) (dT (by omega) (dT hlt (dT hlt (dT hlt (cS (fun h7=>?_) fun h7=>?_)))))))))))
   ·have h7:(!r.half i (i+1))=true:=h7
    have h7:r.half i (i+1)=false:=by simpa using h7
    exact stop 12 (by decide) (by rw [h7]; rfl)
   ·have h7:(!r.half i (i+1))=false:=h7
    have h7:r.half i (i+1)=true:=by simpa using h7
    exact go (i+2) (by omega) (by rw [h7,cond_true]; rfl)
 ·have hr:CX.q ⟨t,r,m,i⟩=0:=by
   cases m with
   | zero=>rfl
   | succ m=>simp only [CX.q,c7]; rw [if_neg (by omega)]
  refine LInv.ask_of ⟨rfl,?_,[],?_⟩
  ·simp only [rwI]; rw [hr]; rfl
  ·simp only [rwI]; rw [hr]; exact wk0 (.cons (.any _) .nil) rfl
end Go.Proofs.YtigmkgampfbflaaGreatDoor
