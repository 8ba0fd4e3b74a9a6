/-
 The parser's Feed as the evaluator runs it,at characters of ASCII that are printed and control characters.
 Conditions: none beyond those of the contracts.
-/
import Derived.Test.YtigmkgampfbflaaGreatDoorJPe
import Derived.Test.YtigmkgampfbflaaGreatDoorJOwn
import Derived.Test.YtigmkgampfbflaaGreatDoorDeLst
import Derived.Test.YtigmkgampfbflaaGreatDoorAeSub2
import Derived.Test.YtigmkgampfbflaaGreatDoorAeFast4
import Derived.Test.YtigmkgampfbflaaGreatDoorProg
import Derived.KernelRfl
import Derived.Test.YtigmkgampfbflaaGreatDoorJDec
namespace Go.Proofs.YtigmkgampfbflaaGreatDoor
open Go Go.AE Go.DE Go.RowKit
noncomputable def d0C (Q:ByteArray->ByteArray->Prop):ConF:=fun args k=>match args with
 | [.v (.string p),.v (.string s)]=>bif holds (Q p s) then k (fun _=>(.tup [nilS,sv ⟨#[]⟩],[])) else none
 | _=>none
theorem d0_tree (k:DV->Option Unit):bodyD Tryz.prog (env [(113,bgC ascii)] noLp 1) Tryz.f74 [sv ⟨#[]⟩,sv ⟨#[]⟩] [] (fun d _=>k d) =
  k (.tup [DV.v (Value.slice none 0 0),sv ⟨#[]⟩]):=by
 kernel_rfl
theorem prp_tree (Q:ByteArray->ByteArray->Prop) (k:DV->Option Unit):bodyD Tryz.prog (env [(74,d0C Q)] noLp 0) Tryz.f34 [.agg [iv 0,sv ⟨#[]⟩,sv ⟨#[]⟩]] [] (fun d _=>k d) =
  bif holds (Q { data:=#[] } { data:=#[] }) then k (bv (ByteArray.toList { data:=#[] }==ByteArray.toList { data:=#[] })) else none:=by
 kernel_rfl
noncomputable abbrev e78:InE:=⟨78,Tryz.f78,envH Tryz.prog gl0 [] [] noLp 0⟩
noncomputable def prpC (Q:ByteArray->ByteArray->Prop):ConF:=fun args k=>match args with
 | [.agg [.v (.int .i64 0),.v (.string p),.v (.string b)]]=>bif holds (Q p b) then k (fun _=>(bv true,[])) else none
 | _=>none
def prs0:DBlk:=⟨3,.lst [[iv 0,sv ⟨#[]⟩,sv ⟨#[]⟩]]⟩
structure FEX where
 s:ByteArray
 i:Nat
theorem fee_tree (Q:ByteArray->ByteArray->Prop) (K:DV->DHeap->Option Unit):bodyD Tryz.prog (envH Tryz.prog gl0 [e78] [(34,prpC Q)] noLp 1 [] true) Tryz.f36 [.agg [iv 0,sv ⟨#[]⟩,sv ⟨#[]⟩],sv ⟨#[]⟩] [] (fun d σ=>K d σ) =
  bif holds (Q { data:=#[] } { data:=#[] }) then K (.tup [.agg [iv 0,sv ⟨#[]⟩,sv ⟨#[]⟩],DV.v (Value.slice none 0 0)]) [some ⟨3,.lst [[iv 0,sv ⟨#[]⟩,sv ⟨#[]⟩]]⟩,some ⟨3,updF (.lst [[iv 0,sv ⟨#[]⟩,sv ⟨#[]⟩]]) 0 [iv 0,sv ⟨#[]⟩,sv ⟨#[]⟩]⟩,some ⟨4,updF (.lst [[iv 0,sv ⟨#[]⟩,sv ⟨#[]⟩,DV.v (Value.slice none 0 0)]]) 0 [iv 0,sv ⟨#[]⟩,sv ⟨#[]⟩]⟩]
  else none:=by
 kernel_rfl
end Go.Proofs.YtigmkgampfbflaaGreatDoor
namespace Go.Proofs.YtigmkgampfbflaaGreatDoor
open Go Go.AE Go.DE Go.RowKit
structure GWX where
 w:Int
 h:Int
 t:Bool
 T:Nat->Bool
 R:Nat->Row
 n:Nat
 i:Nat
def gridGo (w h:Int) (G:Nat->Nat->DV) (n:Nat):Prop:=gridQ w h G n
theorem gridGo.are {w h:Int}{G:Nat->Nat->DV}{n:Nat}(q:gridGo w h G n):rowsAre G n:=⟨q.2.2.2.2.2.1,fun i hi=>⟨(q.2.2.2.2.2.2 i hi).1,by have:=(q.2.2.2.2.2.2 i hi).2.1; have:=q.1; omega⟩⟩
end Go.Proofs.YtigmkgampfbflaaGreatDoor
namespace Go.Proofs.YtigmkgampfbflaaGreatDoor
open Go Go.AE Go.DE Go.RowKit
structure GZX where
 w:Int
 w2:Int
 R:Nat->Row
 n:Nat
 h2:Nat
 i:Nat
def GZX.ok (x:GZX):Prop:=1<=x.w2/\x.w2<=30/\x.h2<=60/\1<=x.h2/\x.n<=60/\∀ j,j<x.n->(x.R j).sized/\rowF (x.R j)=0
end Go.Proofs.YtigmkgampfbflaaGreatDoor
namespace Go.Proofs.YtigmkgampfbflaaGreatDoor
open Go Go.AE Go.DE Go.RowKit
noncomputable def l9N:ConF:=inl2 Tryz.prog (env [] noLp 0) Tryz.f159
theorem l9N_ok {st:AE.Stat}(hx:Hx st):ConOk Tryz.prog st 159 l9N:=inl2_ok Tryz.func159 (by kernel_rfl) (by kernel_rfl) (hx 159 rfl) (glOk st) (tblD_env (l:=[]) fun _ h=>nomatch h) (fun _ _ _ h=>nomatch h)
theorem cui_tree (r c w h a b:Int) (p o:Bool) (k:DV->Option Unit):bodyD Tryz.prog (env [(159,l9N)] noLp 0) Tryz.f99 [.agg [iv r,iv c,bv p],.agg [iv w,iv h,iv a,iv b,bv o]] [] (fun d _=>k d) =
  k (.agg [iv (if (if IntKind.wrap .i64 (h-1)<r then IntKind.wrap .i64 (h-1) else r) > 0 then if IntKind.wrap .i64 (h-1)<r then IntKind.wrap .i64 (h-1) else r else 0),iv (if (if IntKind.wrap .i64 (w-1)<c
  then IntKind.wrap .i64 (w-1) else c) > 0 then if IntKind.wrap .i64 (w-1)<c then IntKind.wrap .i64 (w-1) else c else 0),bv p]):=by
 kernel_rfl
theorem cuk_tree (w h a b:Int) (o:Bool) (k:DV->Option Unit):bodyD Tryz.prog (env [] noLp 0) Tryz.f98 [.agg [iv w,iv h,iv a,iv b,bv o]] [] (fun d _=>k d) =
  bif decide (w<1) then k (iv 2) else bif decide (w > 132) then k (iv 2) else bif decide (h<1) then k (iv 2) else bif decide (h > 60) then k (iv 2) else bif decide (a<0) then k (iv 2) else bif decide (a >= b)
  then k (iv 2) else bif decide (b > h) then k (iv 2) else k (iv 0):=by
 kernel_rfl
def lesF (a h:Int):Int:=if a<h-1 then a else h-1
def inOk (r c w h:Int):Prop:=0<=r/\0<=c/\1<=w/\w<=132/\1<=h/\h<=60
noncomputable def cuC (L:Int->Int->Int) (Q:Int->Int->Int->Int->Prop):ConF:=fun args k=>match args with
 | [.agg [.v (.int .i64 r),.v (.int .i64 c),.v (.bool p)],.agg [.v (.int .i64 w),.v (.int .i64 h),.v (.int .i64 _),.v (.int .i64 _),.v (.bool _)]]=>bif holds (Q r c w h) then k (fun _=>(.agg [iv (L r h),iv (L c w),bv p],[])) else none
 | _=>none
theorem cu3 (a b:Int) (p:Bool):Clo (.agg [iv a,iv b,bv p])/\Low (.agg [iv a,iv b,bv p]):=agg_clo rfl
theorem les_max {a h:Int}(h0:0<=a) (h1:1<=h) (h2:h<=132):(if (if IntKind.i64.wrap (h-1)<a then IntKind.i64.wrap (h-1) else a) > 0 then if IntKind.i64.wrap (h-1)<a then IntKind.i64.wrap (h-1) else a else 0)=lesF a h:=by
 rw [W_in (by omega) (by omega)]
 unfold lesF
 split<;>split<;>(try split)<;>omega
theorem insC_ok {st:AE.Stat}(hx:Hx st):ConOk Tryz.prog st 99 (cuC lesF inOk):=by
 refine con_flat (mg:=[]) (l:=[(159,l9N)]) (lp:=noLp) (n:=0) (glOk st) (fun x h=>?_) Tryz.func99 (by kernel_rfl) (by kernel_rfl) (hx 99 rfl) (fun _ _ _ h=>nomatch h) fun args k hk=>?_
 ·simp only [List.mem_cons,List.not_mem_nil,or_false] at h;subst h
  dsimp only
  exact l9N_ok hx
 unfold cuC at hk
 split at hk<;>first | (cases hk; done) | skip
 rename_i r c p w h a b o;obtain ⟨hb,hk⟩:=bif_none hk;obtain ⟨r0,c0,w1,w2,h1,h2⟩:=holds_eq.1 hb;refine ⟨[.agg [iv r,iv c,bv p],.agg [iv w,iv h,iv a,iv b,bv o]],_,.self (.self .nil),cu3 _ _ _,hk,(cui_tree r c w h a b p o _).trans ?_⟩
 rw [les_max r0 h1 (by omega),les_max c0 w1 w2]
 exact isD_of rfl
noncomputable def trF (Q:(Nat->Nat->DV)->Nat->Prop) (T:Nat->Bool):ConF:=fun args k=>match args with
 | [.sl _ g 1 m,.v (.int .i64 w)]=>bif holds (Q g m) then (bif decide (1<=w)&&decide (w<=1000) then k (fun _=>(.sl false (tabsD (rsT (fun i=>boolD (g i 0)) m T)) 1 w.toNat,[])) else none) else none
 | _=>none
end Go.Proofs.YtigmkgampfbflaaGreatDoor
namespace Go.Proofs.YtigmkgampfbflaaGreatDoor
open Go Go.AE Go.DE Go.RowKit
def bndOk (w h a b:Int):Prop:=1<=w/\w<=132/\1<=h/\h<=60/\0<=a/\a<b/\b<=h
noncomputable def bdC (Q:Int->Int->Int->Int->Prop):ConF:=fun args k=>match args with
 | [.agg [.v (.int .i64 w),.v (.int .i64 h),.v (.int .i64 a),.v (.int .i64 b),.v (.bool _)]]=>bif holds (Q w h a b) then k (fun _=>(iv 0,[])) else none
 | _=>none
theorem bdC_ok {st:AE.Stat}(hx:Hx st):ConOk Tryz.prog st 98 (bdC bndOk):=by
 refine con_flat (mg:=[]) (l:=[]) (lp:=noLp) (n:=0) (glOk st) (fun _ h=>nomatch h) Tryz.func98 (by kernel_rfl) (by kernel_rfl) (hx 98 rfl) (fun _ _ _ h=>nomatch h) fun args k hk=>?_
 unfold bdC at hk
 split at hk<;>first | (cases hk; done) | skip
 rename_i w h a b o;obtain ⟨hb,hk⟩:=bif_none hk;obtain ⟨w1,w2,h1,h2,a0,ab,bh⟩:=holds_eq.1 hb
 exact ⟨[.agg [iv w,iv h,iv a,iv b,bv o]],_,.self .nil,v_clo _,hk,(cuk_tree w h a b o _).trans (dF (by omega) (dF (by omega) (dF (by omega) (dF (by omega) (dF (by omega) (dF (by omega) (dF (by omega) (isD_of rfl))))))))⟩
def lm3 (n lo hi:Int):Int:=if (if hi<n then hi else n) > lo then (if hi<n then hi else n) else lo
noncomputable def lmC (M:Int->Int->Int->Int):ConF:=fun args k=>match args with
 | [.v (.int .i64 n),.v (.int .i64 lo),.v (.int .i64 hi)]=>k (fun _=>(iv (M n lo hi),[]))
 | _=>none
theorem lm_tree (n lo hi:Int) (k:DV->Option Unit):bodyD Tryz.prog (env [] noLp 0) Tryz.f159 [iv n,iv lo,iv hi] [] (fun d _=>k d) =
  k (iv (if (if hi<n then hi else n) > lo then if hi<n then hi else n else lo)):=by
 kernel_rfl
theorem lmC_ok {st:AE.Stat}(hx:Hx st):ConOk Tryz.prog st 159 (lmC lm3):=by
 refine con_flat (mg:=[]) (l:=[]) (lp:=noLp) (n:=0) (glOk st) (fun _ h=>nomatch h) Tryz.func159 (by kernel_rfl) (by kernel_rfl) (hx 159 rfl) (fun _ _ _ h=>nomatch h) fun args k hk=>?_
 unfold lmC at hk
 split at hk<;>first | (cases hk; done) | skip
 rename_i n lo hi;exact ⟨[iv n,iv lo,iv hi],_,.self (.self (.self .nil)),v_clo _,hk,(lm_tree n lo hi _).trans (isD_of rfl)⟩
noncomputable abbrev fdL (Q:Int->Int->Int->Int->Prop) (L:Int->Int->Int) (Q2:Int->Int->Int->Int->Prop):List (FuncId×ConF):=[(98,bdC Q),(99,cuC L Q2)]
noncomputable abbrev e178 (Q:Int->Int->Int->Int->Prop) (L:Int->Int->Int) (Q2:Int->Int->Int->Int->Prop) (hs:List InE):InE:=⟨178,Tryz.f178,envH Tryz.prog gl0 hs (fdL Q L Q2) noLp 0⟩
def curOk (r c w h:Int):Prop:=0<=r/\r<h/\0<=c/\c<w
theorem fdL_ok {st:AE.Stat}(hx:Hx st):∀ x∈fdL bndOk lesF inOk,ConOk Tryz.prog st x.1 x.2:=fun x h=>by
 simp only [List.mem_cons,List.not_mem_nil,or_false] at h
 rcases h with rfl | rfl
 ·exact bdC_ok hx
 ·exact insC_ok hx
theorem in178 {st:AE.Stat}(hx:Hx st) {hs:List InE}(hh:∀ e∈hs,InOk Tryz.prog st e):InOk Tryz.prog st (e178 bndOk lesF inOk hs):=⟨Tryz.func178,by kernel_rfl,by kernel_rfl,hx 178 rfl,envH_ok hh (fdL_ok hx),glOk st,(fun _ _ _ h=>nomatch h),rfl⟩
theorem one_in {st:AE.Stat}{e:InE}(h:InOk Tryz.prog st e):∀ x∈[e],InOk Tryz.prog st x:=fun x hx=>by
 obtain rfl:=List.mem_singleton.1 hx;exact h
end Go.Proofs.YtigmkgampfbflaaGreatDoor
namespace Go.Proofs.YtigmkgampfbflaaGreatDoor
open Go Go.AE Go.DE Go.RowKit
def nilQ (p s:ByteArray):Prop:=p=⟨#[]⟩/\s=⟨#[]⟩
theorem d0C_ok {st:AE.Stat}(hx:Hx st):ConOk Tryz.prog st 74 (d0C nilQ):=by
 refine con_flat (mg:=[]) (l:=[(113,bgC ascii)]) (lp:=noLp) (n:=1) (glOk st) (fun x h=>?_) Tryz.func74 (by kernel_rfl) (by kernel_rfl) (hx 74 rfl) (fun _ _ _ h=>nomatch h) fun args k hk=>?_
 ·obtain rfl:=List.mem_singleton.1 h;exact bgC_ok hx
 unfold d0C at hk
 split at hk<;>first | (cases hk; done) | skip
 rename_i p s;obtain ⟨hb,hk2⟩:=bif_none hk;clear hk;obtain ⟨rfl,rfl⟩:=holds_eq.1 hb;exact ⟨[sv ⟨#[]⟩,sv ⟨#[]⟩],_,.self (.self .nil),tup_clo rfl,hk2,(d0_tree _).trans (isD_of rfl)⟩
theorem prpC_ok {st:AE.Stat}(hx:Hx st):ConOk Tryz.prog st 34 (prpC nilQ):=by
 refine con_flat (mg:=[]) (l:=[(74,d0C nilQ)]) (lp:=noLp) (n:=0) (glOk st) (fun x h=>?_) Tryz.func34 (by kernel_rfl) (by kernel_rfl) (hx 34 rfl) (fun _ _ _ h=>nomatch h) fun args k hk=>?_
 ·obtain rfl:=List.mem_singleton.1 h;exact d0C_ok hx
 unfold prpC at hk
 split at hk<;>first | (cases hk; done) | skip
 rename_i p s;obtain ⟨hb,hk2⟩:=bif_none hk;clear hk;obtain ⟨rfl,rfl⟩:=holds_eq.1 hb
 exact ⟨[.agg [iv 0,sv ⟨#[]⟩,sv ⟨#[]⟩]],_,.self .nil,v_clo _,hk2,(prp_tree nilQ _).trans (hT ⟨rfl,rfl⟩ (isD_of (by rw [beq_self_eq_true])))⟩
theorem in78 {st:AE.Stat}(hx:Hx st):InOk Tryz.prog st e78:=⟨Tryz.func78,by kernel_rfl,by kernel_rfl,hx 78 rfl,envH_ok (fun _ h=>nomatch h) (fun _ h=>nomatch h),glOk st,(fun _ _ _ h=>nomatch h),rfl⟩
theorem prs0_kb:KB prs0:=.lst (fun d hd=>by
 simp only [List.mem_cons,List.not_mem_nil,or_false] at hd
 rcases hd with rfl | rfl | rfl<;>exact .v _) (Nat.le_refl _)
def prs:DV:=.agg [iv 0,sv ⟨#[]⟩,sv ⟨#[]⟩]
theorem nil_sl {g:Nat->Nat->DV}{k:Nat}:Cv nilS (.sl false g k 0):=fun C μ v hv=>by
 cases hv with
 | v x h=>exact .slnil _ _ _
end Go.Proofs.YtigmkgampfbflaaGreatDoor
namespace Go.Proofs.YtigmkgampfbflaaGreatDoor
open Go Go.AE Go.DE Go.RowKit
end Go.Proofs.YtigmkgampfbflaaGreatDoor
namespace Go.Proofs.YtigmkgampfbflaaGreatDoor
open Go Go.AE Go.DE Go.RowKit
def csA:ByteArray:=⟨⟨[63,54]⟩⟩
def csB:ByteArray:=⟨⟨[50,59,51]⟩⟩
def csC:ByteArray:=⟨⟨[54]⟩⟩
def csV (p:Int) (n:Nat) (b:Nat):Value:=.tuple #[.int .u8 p,.slice (some ⟨b,0,none⟩) n (unk+1),.string ⟨#[]⟩,.int .i64 0]
def csD (s:ByteArray) (p:Int) (l:List Value):Deep:=⟨169,[.string s],[],csV p l.length 0,[some (.cells l)]⟩
def csN:ExtL:=fun _ _ _ _=>none
def stN:AE.Stat:=⟨fun _ _=>none,extOfL csN⟩
theorem cs_runA:(csD csA 63 [.int .i64 6]).run Tryz.prog stN csN 60 20=true:=by kernel_rfl
theorem cs_runB:(csD csB 0 [.int .i64 2,.int .i64 3]).run Tryz.prog stN csN 60 20=true:=by kernel_rfl
theorem cs_runC:(csD csC 0 [.int .i64 6]).run Tryz.prog stN csN 60 20=true:=by kernel_rfl
def cfD:Deep:=⟨255,[.string ⟨#[]⟩,.func (.func 256) #[] #[]],[],.bool false,[]⟩
theorem cf_run:cfD.run Tryz.prog stN csN 60 20=true:=by kernel_rfl
def cfX (args:List Value):RL:=match args with
 | [.string s,.func (.func 256) a b]=>if s=⟨#[]⟩/\a.size=0/\b.size=0 then some (.bool false,[]) else none
 | _=>none
theorem cf_ans {H:HF}{N:Nat}:cfD.ans [.string ⟨#[]⟩,.func (.func 256) #[] #[]] H N=some (.bool false,[]):=by kernel_rfl
theorem fnOk_cf {W:World}(hm:Tryz.prog.follows .mixedOrders=true):FnOk Tryz.prog W 255 (fun a σ=>RL.app σ (cfX a)):=by
 intro args σ v σ' hg
 dsimp only at hg
 have hst:GoodSt W stN:=fun b i v h=>nomatch h
 have hok:CallOk Tryz.prog W stN.ext:=fun f a s v s' h=>nomatch h
 have hf:(Tryz.prog.funcs[255]?).isSome=true:=by rw [Tryz.func255]; rfl
 unfold cfX at hg
 split at hg<;>first | (cases hg; done) | skip
 rename_i s a b;split at hg
 ·rename_i e;obtain ⟨rfl,e1,e2⟩:=e;obtain rfl:=Array.eq_empty_of_size_eq_zero e1;obtain rfl:=Array.eq_empty_of_size_eq_zero e2
  exact Deep.ok (D:=cfD) cf_run rfl hst hok hm hf _ σ v σ' (by rw [<- hg]; exact congrArg _ cf_ans)
 ·cases hg
noncomputable def cfC1 (Q:ByteArray->Prop):ConF:=fun args k=>match args with
 | [.v (.string s),.fn (.func 256) [] []]=>bif holds (Q s) then k (fun _=>(.v (.bool false),[])) else none
 | _=>none
def emp (s:ByteArray):Prop:=s=⟨#[]⟩
theorem cfC1_ok {st:AE.Stat}(h:∀ a σ,st.ext 255 a σ=RL.app σ (cfX a)):ConOk Tryz.prog st 255 (cfC1 emp):=by
 refine con_ext Tryz.func255 (by kernel_rfl) (by kernel_rfl) fun args k hk=>?_
 unfold cfC1 at hk
 split at hk<;>first | (cases hk; done) | skip
 rename_i s;obtain ⟨hb,hk1⟩:=bif_none hk;obtain rfl:s=⟨#[]⟩:=holds_eq.1 hb
 refine ⟨.bool false,rfl,hk1,fun C σ vs _ ha=>?_⟩
 obtain ⟨x,r,rfl,hx,hr⟩:=ha.cons_inv;obtain ⟨y,r,rfl,hy,hr⟩:=hr.cons_inv;obtain rfl:=hr.nil_inv;cases hx
 cases hy with
 | fn _ _ _ u v h1 h2 h3 h4 =>
  have eu:u=#[]:=by
   have:u.size=0:=by simpa using h1.symm
   exact Array.eq_empty_of_size_eq_zero this
  have ev:v=#[]:=by
   have:v.size=0:=by simpa using h2.symm
   exact Array.eq_empty_of_size_eq_zero this
  subst eu;subst ev;rw [h]
  show RL.app σ (if (⟨#[]⟩:ByteArray)=⟨#[]⟩/\(#[]:Array Value).size=0/\(#[]:Array Value).size=0 then some (Value.bool false,[]) else none)=_
  rw [if_pos ⟨rfl,rfl,rfl⟩];rfl
def csX (args:List Value) (N:Nat):RL:=match args with
 | [.string s]=>if s=csA then some (csV 63 1 N,[.new (some (.cells [.int .i64 6]))]) else if s=csB then some (csV 0 2 N,[.new (some (.cells [.int .i64 2,.int .i64 3]))]) else if s=csC then some (csV 0 1 N,[.new (some (.cells [.int .i64 6]))]) else none
 | _=>none
theorem csX_str (s:ByteArray) (N:Nat):csX [.string s] N=if s=csA then some (csV 63 1 N,[.new (some (.cells [.int .i64 6]))]) else if s=csB then some (csV 0 2 N,[.new (some (.cells [.int .i64 2,.int .i64 3]))]) else if s=csC then some (csV 0 1 N,[.new (some (.cells [.int .i64 6]))]) else none:=rfl
theorem cs_ne:csB≠csA/\csC≠csA/\csC≠csB:=by
 refine ⟨fun e=>?_,fun e=>?_,fun e=>?_⟩<;>exact absurd (congrArg (fun s:ByteArray=>s.data.toList.map UInt8.toNat) e) (by decide)
theorem cs_eA {N:Nat}:csX [.string csA] N=some (csV 63 1 N,[.new (some (.cells [.int .i64 6]))]):=by rw [csX_str,if_pos rfl]
theorem cs_eB {N:Nat}:csX [.string csB] N=some (csV 0 2 N,[.new (some (.cells [.int .i64 2,.int .i64 3]))]):=by rw [csX_str,if_neg cs_ne.1,if_pos rfl]
theorem cs_eC {N:Nat}:csX [.string csC] N=some (csV 0 1 N,[.new (some (.cells [.int .i64 6]))]):=by rw [csX_str,if_neg cs_ne.2.1,if_neg cs_ne.2.2,if_pos rfl]
theorem cs_ansA {H:HF}{N:Nat}:(csD csA 63 [.int .i64 6]).ans [.string csA] H N=some (csV 63 1 N,[.new (some (.cells [.int .i64 6]))]):=by kernel_rfl
theorem cs_ansB {H:HF}{N:Nat}:(csD csB 0 [.int .i64 2,.int .i64 3]).ans [.string csB] H N=some (csV 0 2 N,[.new (some (.cells [.int .i64 2,.int .i64 3]))]):=by kernel_rfl
theorem cs_ansC {H:HF}{N:Nat}:(csD csC 0 [.int .i64 6]).ans [.string csC] H N=some (csV 0 1 N,[.new (some (.cells [.int .i64 6]))]):=by kernel_rfl
theorem fnOk_cs {W:World}(hm:Tryz.prog.follows .mixedOrders=true):FnOk Tryz.prog W 169 (fun a σ=>RL.app σ (csX a σ.length)):=by
 intro args σ v σ' hg
 dsimp only at hg
 have hst:GoodSt W stN:=fun b i v h=>nomatch h
 have hok:CallOk Tryz.prog W stN.ext:=fun f a s v s' h=>nomatch h
 have hf:(Tryz.prog.funcs[169]?).isSome=true:=by rw [Tryz.func169]; rfl
 unfold csX at hg
 split at hg<;>first | (cases hg; done) | skip
 rename_i s;split at hg
 ·rename_i e;subst e
  exact Deep.ok (D:=csD csA 63 [.int .i64 6]) cs_runA rfl hst hok hm hf _ σ v σ' (by rw [<- hg]; exact congrArg _ cs_ansA)
 split at hg
 ·rename_i e;subst e
  exact Deep.ok (D:=csD csB 0 [.int .i64 2,.int .i64 3]) cs_runB rfl hst hok hm hf _ σ v σ' (by rw [<- hg]; exact congrArg _ cs_ansB)
 split at hg
 ·rename_i e;subst e
  exact Deep.ok (D:=csD csC 0 [.int .i64 6]) cs_runC rfl hst hok hm hf _ σ v σ' (by rw [<- hg]; exact congrArg _ cs_ansC)
 ·cases hg
def csR (p:Int) (l:List Int):DE.Res:=fun b=>(.tup [.v (.int .u8 p),.os b 0 l.length,.v (.string ⟨#[]⟩),.v (.int .i64 0)],[some ⟨1,.lst (l.map fun x=>[.v (.int .i64 x)])⟩])
noncomputable def csC1 (Q:ByteArray->ByteArray->Prop):ConF:=fun args k=>match args with
 | [.v (.string s)]=>match byteAt s 0 with
  | .ofNat 63=>bif holds (Q s csA) then k (csR 63 [6]) else none
  | .ofNat 50=>bif holds (Q s csB) then k (csR 0 [2,3]) else none
  | .ofNat 54=>bif holds (Q s csC) then k (csR 0 [6]) else none
  | _=>none
 | _=>none
theorem lst_at (l:List Int) {i f:Nat}(hi:i<l.length) (hf:f<1):(DC.lst (l.map fun x=>[DV.v (.int .i64 x)])).get i f=.v (.int .i64 (l.getD i 0))/\(l.map fun x=>Value.int .i64 x)[i*1+f]?=some (.int .i64 (l.getD i 0)):=by
 obtain rfl:f=0:=by omega
 have e:l.getD i 0=l[i]:=by rw [List.getD_eq_getElem?_getD,List.getElem?_eq_getElem hi]; rfl
 refine ⟨?_,by rw [e]; simp [hi]⟩
 show ((l.map fun x=>[DV.v (.int .i64 x)]).getD i []).getD 0 .any=_
 have e2:(l.map fun x=>[DV.v (.int .i64 x)]).getD i []=[DV.v (.int .i64 l[i])]:=by
  rw [List.getD_eq_getElem?_getD,List.getElem?_map,List.getElem?_eq_getElem hi];rfl
 rw [e2,e];rfl
theorem cs_at {st:AE.Stat}{z:Bool}{s:ByteArray}{p:Int}{l:List Int}(hl:l.length<100) (h:∀ σ,st.ext 169 [.string s] σ=some (csV p l.length σ.length,σ++[some (.cells (l.map fun x=>Value.int .i64 x))])) :
  ConOkZ z Tryz.prog st 169 (fun args k=>bif holds (args=[.v (.string s)]) then k (csR p l) else none):=by
 intro args k hk s0 C σ vs hS ha;obtain ⟨hb,hk1⟩:=bif_none hk;obtain rfl:=holds_eq.1 hb;obtain ⟨v,ys,rfl,hv,hn⟩:=ha.cons_inv;obtain rfl:=hn.nil_inv;cases hv
 have h0:St st C noMu σ (List.replicate s0 none):=⟨hS.frz,fun id blk hb=>(by have:=(repl_get (l:=[]).1 (by simpa using hb)).2; simp at this),fun id blk b x hb=>(by have:=(repl_get (l:=[]).1 (by simpa using hb)).2; simp at this),fun id id' blk blk' b x x' hb=>(by have:=(repl_get (l:=[]).1 (by simpa using hb)).2; simp at this),
  fun id x hx=>(by cases hx),hS.low,hS.sta⟩
 obtain ⟨p1,p2⟩:=h0.push (k:=1) (c:=.lst (l.map fun x=>[.v (.int .i64 x)])) (l:=l.map fun x=>Value.int .i64 x) (by decide) (by simp [DC.n]) trivial fun i f hi hf=>by
  have hi:i<l.length:=by simpa [DC.n] using hi
  obtain ⟨e1,e2⟩:=lst_at l hi hf
  exact ⟨_,e2,rfl,by rw [e1]; exact .v _ rfl⟩
 rw [List.length_replicate] at p1 p2
 have nol:∀ id x,(noMu.put s0 (σ.length,1,(l.map fun x=>Value.int .i64 x).length)) id=some x->s0<=id/\x.1=σ.length:=fun id x hx=>by
  unfold Mu.put at hx;split at hx
  ·rename_i e;obtain rfl:=Option.some.inj hx
   exact ⟨by omega,rfl⟩
  ·cases hx
 refine ⟨csR p l,hk1,⟨.tup fun d hd=>?_,fun id blk hb i f hi hf=>?_⟩,_,_,C,_,enter_ext Tryz.func169 (by kernel_rfl) (by kernel_rfl) (h σ),p1,?_,fun id x hx=>(nol id x hx).1,by simp,fun b hb=>List.getElem?_append_left hb,fun b hl=>?_,fun b s o v hv=>.inl hv⟩
 ·simp only [List.mem_cons,List.not_mem_nil,or_false] at hd
  rcases hd with rfl | rfl | rfl | rfl
  ·exact .v _
  ·exact .os _ _ _
  ·exact .v _
  ·exact .v _
 ·cases id with
  | succ id=>simp [csR] at hb
  | zero =>
   obtain rfl:(⟨1,.lst (l.map fun x=>[.v (.int .i64 x)])⟩:DBlk)=blk:=Option.some.inj (Option.some.inj hb)
   have hi:i<l.length:=by simpa [DC.n] using hi
   rw [(lst_at l hi hf).1];exact .v _
 ·refine .tup _ _ rfl fun i d x hd hx=>?_
  match i,hd,hx with
  | 0,hd,hx=>cases hd; cases hx; exact .v _ rfl
  | 1,hd,hx =>
   cases hd; cases hx
   refine .os _ _ _ σ.length 1 (l.map fun x=>Value.int .i64 x).length 0 _ ?_ (by decide) (.inr ⟨rfl,by omega⟩)
   unfold Mu.put;rw [if_pos rfl]
  | 2,hd,hx=>cases hd; cases hx; exact .v _ rfl
  | 3,hd,hx=>cases hd; cases hx; exact .v _ rfl
  | i+4,hd,hx=>simp at hd
 ·obtain ⟨id,blk,x,h1,h2⟩:=hl;have:=(nol id _ h2).2;exact Nat.le_of_eq this.symm
def isS (s t:ByteArray):Prop:=s=t
theorem csC1_ok {st:AE.Stat}(h:∀ a σ,st.ext 169 a σ=RL.app σ (csX a σ.length)) {z:Bool}:ConOkZ z Tryz.prog st 169 (csC1 isS):=by
 have key:∀ {s:ByteArray}{p:Int}{l:List Int},csX [.string s]=(fun N=>some (csV p l.length N,[.new (some (.cells (l.map fun x=>Value.int .i64 x)))]))->∀ σ,st.ext 169 [.string s] σ=some (csV p l.length σ.length,σ++[some (.cells (l.map fun x=>Value.int .i64 x))]):=fun e σ=>by
  rw [h,e];rfl
 intro args k hk;unfold csC1 at hk
 split at hk<;>first | (cases hk; done) | skip
 rename_i s
 split at hk<;>first | (cases hk; done) | skip
 ·obtain ⟨hb,hk1⟩:=bif_none hk;obtain rfl:s=csA:=holds_eq.1 hb
  exact cs_at (s:=csA) (p:=63) (l:=[6]) (by decide) (key (by funext N; exact cs_eA)) _ k (hT rfl hk1)
 ·obtain ⟨hb,hk1⟩:=bif_none hk;obtain rfl:s=csB:=holds_eq.1 hb
  exact cs_at (s:=csB) (p:=0) (l:=[2,3]) (by decide) (key (by funext N; exact cs_eB)) _ k (hT rfl hk1)
 ·obtain ⟨hb,hk1⟩:=bif_none hk;obtain rfl:s=csC:=holds_eq.1 hb
  exact cs_at (s:=csC) (p:=0) (l:=[6]) (by decide) (key (by funext N; exact cs_eC)) _ k (hT rfl hk1)
end Go.Proofs.YtigmkgampfbflaaGreatDoor
namespace Go.Proofs.YtigmkgampfbflaaGreatDoor
open Go Go.AE Go.DE Go.RowKit
noncomputable abbrev e119:InE:=⟨119,Tryz.f119,envH Tryz.prog gl0 [] [] noLp 0⟩
noncomputable abbrev e167:InE:=⟨167,Tryz.f167,envH Tryz.prog gl0 [] [] noLp 0⟩
noncomputable abbrev e168:InE:=⟨168,Tryz.f168,envH Tryz.prog gl0 [] [] noLp 0⟩
noncomputable abbrev e120:InE:=⟨120,Tryz.f120,envH Tryz.prog gl0 [e167,e119] [] noLp 0⟩
noncomputable abbrev e121 (Q2:ByteArray->ByteArray->Prop):InE:=⟨121,Tryz.f121,envH Tryz.prog gl0 [e167,e168,e119,e78] [(169,csC1 Q2)] noLp 0⟩
noncomputable abbrev e117q:InE:=⟨117,Tryz.f117,envH Tryz.prog gl0 [e119] [] noLp 0⟩
noncomputable abbrev e79q (Q2:ByteArray->ByteArray->Prop):InE:=⟨79,Tryz.f79,envH Tryz.prog gl0 [e117q,e120,e121 Q2] [] noLp 0⟩
noncomputable def prkC (Q:Int->ByteArray->ByteArray->Prop) (b:Bool):ConF:=fun args k=>match args with
 | [.agg [.v (.int .i64 v),.v (.string p),.v (.string s)]]=>bif holds (Q v p s) then k (fun _=>(bv b,[])) else none
 | _=>none
def sqA:ByteArray:=⟨⟨[27,91,63,54,108,27,91,50,59,51,72]⟩⟩
def sqL:Nat->List UInt8
 | 0=>[]
 | n+1=>27 :: 91 :: 54 :: 110 :: sqL n
theorem fa0_tree (v:Int) (p s:ByteArray) (Q:Int->ByteArray->ByteArray->Prop) (Q2:ByteArray->ByteArray->Prop) (K:DV->DHeap->Option Unit):bodyD Tryz.prog (envH Tryz.prog gl0 [e79q Q2] [(34,prkC Q false)] noLp 12 [] true) Tryz.f36 [.agg [iv v,sv p,sv s],sv ⟨⟨[27,91,63,54,108,27,91,50,59,51,72]⟩⟩] [] (fun d σ=>K d σ) =
  bif holds (Q v p s) then bif holds (Q2 (({ data:=#[] }++bytesS 1 fun j=>numD (DC.get (subC (DBlk.c (blockOf 1 [kv .u8 63])) 0 1) j 0))++bytesS 1 fun j=>numD (DC.get (subC (DBlk.c (blockOf 1 [kv .u8 54])) 0 1) j 0)) csA)
  then bif holds (Q2 ((({ data:=#[] }++bytesS 1 fun j=>numD (DC.get (subC (DBlk.c (blockOf 1 [kv .u8 50])) 0 1) j 0))++bytesS 1 fun j=>numD (DC.get (subC (DBlk.c (blockOf 1 [kv .u8 59])) 0 1) j 0))++bytesS 1 fun j=>numD (DC.get (subC (DBlk.c (blockOf 1 [kv .u8 51])) 0 1) j 0)) csB)
  then K (.tup [.agg [iv 0,sv ⟨#[]⟩,sv ⟨#[]⟩],.os 15 0 2]) [some ⟨3,.lst [[iv v,sv p,sv s]]⟩,some ⟨3,updF (.lst [[iv 0,sv ⟨#[]⟩,sv ⟨#[]⟩]]) 0 [iv 0,sv ⟨#[]⟩,sv ⟨#[]⟩]⟩,some ⟨4,updF (.upd (.upd (.upd (updF (updF (updF (.upd (.upd (updF (updF (.lst [[iv 0,sv ⟨#[]⟩,sv ⟨#[]⟩,DV.v (Value.slice none 0 0)]]) 0 [iv 1,sv ⟨#[]⟩,sv ⟨#[]⟩]) 0 [iv 2,sv ⟨#[]⟩,sv ⟨#[]⟩]) 0 2 (sv ({ data:=#[] }++bytesS 1 fun j=>numD (DC.get (subC (DBlk.c (blockOf 1 [kv .u8 63])) 0 1) j 0)))) 0 2 (sv (({ data:=#[] }++bytesS 1 fun j=>numD (DC.get (subC (DBlk.c (blockOf 1 [kv .u8 63])) 0 1) j 0))++bytesS 1 fun j=>numD (DC.get (subC (DBlk.c (blockOf 1 [kv .u8 54])) 0 1) j 0)))) 0 [iv 0,sv ⟨#[]⟩,sv ⟨#[]⟩,.os 8 0 1]) 0 [iv 1,sv ⟨#[]⟩,sv ⟨#[]⟩]) 0 [iv 2,sv ⟨#[]⟩,sv ⟨#[]⟩]) 0 2 (sv ({ data:=#[] }++bytesS 1 fun j=>numD (DC.get (subC (DBlk.c (blockOf 1 [kv .u8 50])) 0 1) j 0)))) 0 2 (sv (({ data:=#[] }++bytesS 1 fun j=>numD (DC.get (subC (DBlk.c (blockOf 1 [kv .u8 50])) 0 1) j 0))++bytesS 1 fun j=>numD (DC.get (subC (DBlk.c (blockOf 1 [kv .u8 59])) 0 1) j 0)))) 0 2 (sv ((({ data:=#[] }++bytesS 1 fun j=>numD (DC.get (subC (DBlk.c (blockOf 1 [kv .u8 50])) 0 1) j 0))++bytesS 1 fun j=>numD (DC.get (subC (DBlk.c (blockOf 1 [kv .u8 59])) 0 1) j 0))++bytesS 1 fun j=>numD (DC.get (subC (DBlk.c (blockOf 1 [kv .u8 51])) 0 1) j 0)))) 0 [iv 0,sv ⟨#[]⟩,sv ⟨#[]⟩,.os 15 0 2]⟩,some ⟨1,.lst [[kv .u8 63]]⟩,some ⟨1,.lst [[kv .u8 54]]⟩,some ⟨1,.lst [[iv 6]]⟩,some ⟨7,.lst [[iv 4,kv .i32 0,kv .u8 108,kv .u8 63,sv ⟨#[]⟩,.os 5 0 1,sv ⟨#[]⟩]]⟩,some ⟨7,.lst [[iv 4,kv .i32 0,kv .u8 108,kv .u8 63,sv ⟨#[]⟩,.os 5 0 1,sv ⟨#[]⟩]]⟩,none,some ⟨1,.lst [[kv .u8 50]]⟩,some ⟨1,.lst [[kv .u8 59]]⟩,some ⟨1,.lst [[kv .u8 51]]⟩,some ⟨1,.lst [[iv 2],[iv 3]]⟩,some ⟨7,.lst [[iv 4,kv .i32 0,kv .u8 72,kv .u8 0,sv ⟨#[]⟩,.os 12 0 2,sv ⟨#[]⟩]]⟩,some ⟨7,.lst [[iv 4,kv .i32 0,kv .u8 72,kv .u8 0,sv ⟨#[]⟩,.os 12 0 2,sv ⟨#[]⟩]]⟩,some ⟨7,.lst [[iv 4,kv .i32 0,kv .u8 108,kv .u8 63,sv ⟨#[]⟩,.os 5 0 1,sv ⟨#[]⟩],[iv 4,kv .i32 0,kv .u8 72,kv .u8 0,sv ⟨#[]⟩,.os 12 0 2,sv ⟨#[]⟩]]⟩]
  else none else none else none:=by
 kernel_rfl
end Go.Proofs.YtigmkgampfbflaaGreatDoor
namespace Go.Proofs.YtigmkgampfbflaaGreatDoor
open Go Go.AE Go.DE Go.RowKit
noncomputable abbrev e231:InE:=⟨231,Tryz.f231,envH Tryz.prog gl0 [] [] noLp 0⟩
noncomputable abbrev e233 (Q:ByteArray->Prop):InE:=⟨233,Tryz.f233,envH Tryz.prog gl0 [] [(255,cfC1 Q)] noLp 0⟩
noncomputable abbrev e257:InE:=⟨257,Tryz.f257,envH Tryz.prog gl0 [] [] noLp 0⟩
noncomputable abbrev e236:InE:=⟨236,Tryz.f236,envH Tryz.prog gl0 [] [] noLp 0⟩
noncomputable abbrev e258:InE:=⟨258,Tryz.f258,envH Tryz.prog gl0 [e257,e236] [] noLp 4⟩
noncomputable abbrev e235:InE:=⟨235,Tryz.f235,envH Tryz.prog gl0 [e258] [] noLp 0⟩
noncomputable abbrev e234:InE:=⟨234,Tryz.f234,envH Tryz.prog gl0 [e235] [] noLp 0⟩
noncomputable abbrev e268:InE:=⟨268,Tryz.f268,envH Tryz.prog gl0 [] [] noLp 0⟩
noncomputable abbrev e265:InE:=⟨265,Tryz.f265,envH Tryz.prog gl0 [e268] [] noLp 0⟩
noncomputable abbrev e259:InE:=⟨259,Tryz.f259,envH Tryz.prog gl0 [e265] [] noLp 0⟩
noncomputable abbrev e237:InE:=⟨237,Tryz.f237,envH Tryz.prog gl0 [e259] [] noLp 0⟩
theorem fmA_tree (t:Bool) (Q:ByteArray->Prop) (K:DV->DHeap->Option Unit):bodyD Tryz.prog (envH Tryz.prog gl0 [e231,e233 Q,e235,e234,e237] [] noLp 3 [] true) Tryz.f170 [kv .u8 63,.sl t (fun _ _=>iv 6) 1 1,sv ⟨#[]⟩] [] (fun d σ=>K d σ) =
  bif holds (Q { data:=#[] }) then K (.tup [sv ((bytesS 2 fun j=>numD (DC.get (subC (appC (subC (DBlk.c (blockOf 1 [kv .u8 63])) 0 1) 1 (.tab 1 fun i x=>kv .u8 ((byteAt (ByteArray.extract { data:=#[(48:UInt8),(49:UInt8),(50:UInt8),(51:UInt8),(52:UInt8),(53:UInt8),(54:UInt8),(55:UInt8),(56:UInt8),(57:UInt8),(97:UInt8),(98:UInt8),(99:UInt8),(100:UInt8),(101:UInt8),(102:UInt8),(103:UInt8),(104:UInt8),(105:UInt8),(106:UInt8),(107:UInt8),(108:UInt8),(109:UInt8),(110:UInt8),(111:UInt8),(112:UInt8),(113:UInt8),(114:UInt8),(115:UInt8),(116:UInt8),(117:UInt8),(118:UInt8),(119:UInt8),(120:UInt8),(121:UInt8),(122:UInt8)] } 6 7) i)))) 0 2) j 0))++{ data:=#[] }),iv 0]) [some ⟨1,.lst [[kv .u8 63]]⟩,none,some ⟨1,.app (.pre (.lst [[kv .u8 63]]) 1) (.tab 1 fun i x=>kv .u8 ((byteAt (ByteArray.extract { data:=#[(48:UInt8),(49:UInt8),(50:UInt8),(51:UInt8),(52:UInt8),(53:UInt8),(54:UInt8),(55:UInt8),(56:UInt8),(57:UInt8),(97:UInt8),(98:UInt8),(99:UInt8),(100:UInt8),(101:UInt8),(102:UInt8),(103:UInt8),(104:UInt8),(105:UInt8),(106:UInt8),(107:UInt8),(108:UInt8),(109:UInt8),(110:UInt8),(111:UInt8),(112:UInt8),(113:UInt8),(114:UInt8),(115:UInt8),(116:UInt8),(117:UInt8),(118:UInt8),(119:UInt8),(120:UInt8),(121:UInt8),(122:UInt8)] } 6 7) i)))⟩]
  else none:=by
 kernel_rfl
def w23:Nat->Int
 | 0=>2
 | _=>3
theorem fmB_tree (t:Bool) (Q:ByteArray->Prop) (K:DV->DHeap->Option Unit):bodyD Tryz.prog (envH Tryz.prog gl0 [e231,e233 Q,e235,e234,e237] [] noLp 4 [] true) Tryz.f170 [kv .u8 0,.sl t (fun i _=>iv (w23 i)) 1 2,sv ⟨#[]⟩] [] (fun d σ=>K d σ) =
  bif holds (Q { data:=#[] }) then K (.tup [sv ((bytesS 3 fun j=>numD (DC.get (subC (appC (appC (.tab 1 fun i x=>kv .u8 ((byteAt (ByteArray.extract { data:=#[(48:UInt8),(49:UInt8),(50:UInt8),(51:UInt8),(52:UInt8),(53:UInt8),(54:UInt8),(55:UInt8),(56:UInt8),(57:UInt8),(97:UInt8),(98:UInt8),(99:UInt8),(100:UInt8),(101:UInt8),(102:UInt8),(103:UInt8),(104:UInt8),(105:UInt8),(106:UInt8),(107:UInt8),(108:UInt8),(109:UInt8),(110:UInt8),(111:UInt8),(112:UInt8),(113:UInt8),(114:UInt8),(115:UInt8),(116:UInt8),(117:UInt8),(118:UInt8),(119:UInt8),(120:UInt8),(121:UInt8),(122:UInt8)] } 2 3) i))) 1 (subC (DBlk.c (blockOf 1 [kv .u8 59])) 0 1)) 2 (.tab 1 fun i x=>kv .u8 ((byteAt (ByteArray.extract { data:=#[(48:UInt8),(49:UInt8),(50:UInt8),(51:UInt8),(52:UInt8),(53:UInt8),(54:UInt8),(55:UInt8),(56:UInt8),(57:UInt8),(97:UInt8),(98:UInt8),(99:UInt8),(100:UInt8),(101:UInt8),(102:UInt8),(103:UInt8),(104:UInt8),(105:UInt8),(106:UInt8),(107:UInt8),(108:UInt8),(109:UInt8),(110:UInt8),(111:UInt8),(112:UInt8),(113:UInt8),(114:UInt8),(115:UInt8),(116:UInt8),(117:UInt8),(118:UInt8),(119:UInt8),(120:UInt8),(121:UInt8),(122:UInt8)] } 3 4) i)))) 0 3) j 0))++{ data:=#[] }),iv 0]) [none,some ⟨1,.lst [[kv .u8 59]]⟩,none,some ⟨1,.app (.pre (.app (.pre (.tab 1 fun i x=>kv .u8 ((byteAt (ByteArray.extract { data:=#[(48:UInt8),(49:UInt8),(50:UInt8),(51:UInt8),(52:UInt8),(53:UInt8),(54:UInt8),(55:UInt8),(56:UInt8),(57:UInt8),(97:UInt8),(98:UInt8),(99:UInt8),(100:UInt8),(101:UInt8),(102:UInt8),(103:UInt8),(104:UInt8),(105:UInt8),(106:UInt8),(107:UInt8),(108:UInt8),(109:UInt8),(110:UInt8),(111:UInt8),(112:UInt8),(113:UInt8),(114:UInt8),(115:UInt8),(116:UInt8),(117:UInt8),(118:UInt8),(119:UInt8),(120:UInt8),(121:UInt8),(122:UInt8)] } 2 3) i))) 1) (.lst [[kv .u8 59]])) 2) (.tab 1 fun i x=>kv .u8 ((byteAt (ByteArray.extract { data:=#[(48:UInt8),(49:UInt8),(50:UInt8),(51:UInt8),(52:UInt8),(53:UInt8),(54:UInt8),(55:UInt8),(56:UInt8),(57:UInt8),(97:UInt8),(98:UInt8),(99:UInt8),(100:UInt8),(101:UInt8),(102:UInt8),(103:UInt8),(104:UInt8),(105:UInt8),(106:UInt8),(107:UInt8),(108:UInt8),(109:UInt8),(110:UInt8),(111:UInt8),(112:UInt8),(113:UInt8),(114:UInt8),(115:UInt8),(116:UInt8),(117:UInt8),(118:UInt8),(119:UInt8),(120:UInt8),(121:UInt8),(122:UInt8)] } 3 4) i)))⟩]
  else none:=by
 kernel_rfl
theorem fmC_tree (t:Bool) (Q:ByteArray->Prop) (K:DV->DHeap->Option Unit):bodyD Tryz.prog (envH Tryz.prog gl0 [e231,e233 Q,e235,e234,e237] [] noLp 3 [] true) Tryz.f170 [kv .u8 0,.sl t (fun _ _=>iv 6) 1 1,sv ⟨#[]⟩] [] (fun d σ=>K d σ) =
  bif holds (Q { data:=#[] }) then K (.tup [sv ((bytesS 1 fun j=>numD (kv .u8 ((byteAt (ByteArray.extract { data:=#[(48:UInt8),(49:UInt8),(50:UInt8),(51:UInt8),(52:UInt8),(53:UInt8),(54:UInt8),(55:UInt8),(56:UInt8),(57:UInt8),(97:UInt8),(98:UInt8),(99:UInt8),(100:UInt8),(101:UInt8),(102:UInt8),(103:UInt8),(104:UInt8),(105:UInt8),(106:UInt8),(107:UInt8),(108:UInt8),(109:UInt8),(110:UInt8),(111:UInt8),(112:UInt8),(113:UInt8),(114:UInt8),(115:UInt8),(116:UInt8),(117:UInt8),(118:UInt8),(119:UInt8),(120:UInt8),(121:UInt8),(122:UInt8)] } 6 7) (0+j)))))++{ data:=#[] }),iv 0]) [some ⟨1,.tab 1 fun i x=>kv .u8 ((byteAt (ByteArray.extract { data:=#[(48:UInt8),(49:UInt8),(50:UInt8),(51:UInt8),(52:UInt8),(53:UInt8),(54:UInt8),(55:UInt8),(56:UInt8),(57:UInt8),(97:UInt8),(98:UInt8),(99:UInt8),(100:UInt8),(101:UInt8),(102:UInt8),(103:UInt8),(104:UInt8),(105:UInt8),(106:UInt8),(107:UInt8),(108:UInt8),(109:UInt8),(110:UInt8),(111:UInt8),(112:UInt8),(113:UInt8),(114:UInt8),(115:UInt8),(116:UInt8),(117:UInt8),(118:UInt8),(119:UInt8),(120:UInt8),(121:UInt8),(122:UInt8)] } 6 7) i))⟩]
  else none:=by
 kernel_rfl
end Go.Proofs.YtigmkgampfbflaaGreatDoor
namespace Go.Proofs.YtigmkgampfbflaaGreatDoor
open Go Go.AE Go.DE Go.RowKit
noncomputable def fmC (Q:Int->(Nat->Nat->DV)->Nat->ByteArray->Prop) (S:Int->Nat->ByteArray):ConF:=fun args k=>match args with
 | [.v (.int .u8 p),.sl _ g 1 n,.v (.string s)]=>bif holds (Q p g n s) then k (fun _=>(.tup [sv (S p n),iv 0],[])) else none
 | _=>none
def evS (p cd:Int) (g:Nat->Nat->DV) (n:Nat):List DV:=[iv 4,kv .i32 0,kv .u8 cd,kv .u8 p,sv ⟨#[]⟩,.sl false g 1 n,sv ⟨#[]⟩]
theorem rg4_tree (cd p:Int) (g:Nat->Nat->DV) (n:Nat) (Q:Int->(Nat->Nat->DV)->Nat->ByteArray->Prop) (S:Int->Nat->ByteArray) (k:DV->Option Unit):bodyD Tryz.prog (envZ [(170,fmC Q S)] noLp 0) Tryz.f123 [.agg (evS p cd g n)] [] (fun d _=>k d) =
  bif holds (Q p g n { data:=#[] }) then bif decide (cd<64) then k (bv false) else bif decide (cd > 126) then k (bv false) else bif cd==cd then bif p==p then k (bv ((n:Int)==(n:Int))) else k (bv false)
  else k (bv false) else none:=by
 kernel_rfl
theorem vk4_tree (l:List DV) (Q:List DV->Prop) (cd p:Int) (g:Nat->Nat->DV) (n:Nat) (k:DV->Option Unit):bodyD Tryz.prog (envZ [(123,rgC Q)] noLp 0) Tryz.f80 [.agg (evS p cd g n)] [] (fun d _=>k d) =
  bif holds (Q [iv 4,kv .i32 0,kv .u8 cd,kv .u8 p,sv ⟨#[]⟩,.sl false g 1 n,sv ⟨#[]⟩]) then k (iv 0) else none:=by
 kernel_rfl
theorem in_of {st:AE.Stat}(hx:Hx st) {f:FuncId}{fn:Func}{hs:List InE}{l:List (FuncId×ConF)}{n:Nat}(h1:Tryz.prog.funcs[f]?=some fn) (h2:(fn.name== "runtime.NumGoroutine")=false) (h3:fn.body.isNone=false) (h4:exA f=false)
  (hh:∀ e∈hs,InOk Tryz.prog st e) (hl:∀ x∈l,ConOk Tryz.prog st x.1 x.2):InOk Tryz.prog st ⟨f,fn,envH Tryz.prog gl0 hs l noLp n⟩:=⟨h1,h2,h3,hx f h4,envH_ok hh hl,glOk st,(fun _ _ _ h=>nomatch h),rfl⟩
theorem no_in {st:AE.Stat}:∀ e∈([]:List InE),InOk Tryz.prog st e:=fun _ h=>nomatch h
theorem no_con {st:AE.Stat}:∀ x∈([]:List (FuncId×ConF)),ConOk Tryz.prog st x.1 x.2:=fun _ h=>nomatch h
theorem in_cons {st:AE.Stat}{e:InE}{hs:List InE}(h:InOk Tryz.prog st e) (t:∀ x∈hs,InOk Tryz.prog st x):∀ x∈e :: hs,InOk Tryz.prog st x:=fun x hx=>by
 rcases List.mem_cons.1 hx with rfl | hx
 ·exact h
 ·exact t x hx
theorem con_cons {st:AE.Stat}{e:FuncId×ConF}{l:List (FuncId×ConF)}(h:ConOk Tryz.prog st e.1 e.2) (t:∀ x∈l,ConOk Tryz.prog st x.1 x.2):∀ x∈e :: l,ConOk Tryz.prog st x.1 x.2:=fun x hx=>by
 rcases List.mem_cons.1 hx with rfl | hx
 ·exact h
 ·exact t x hx
def fmQ (p:Int) (g:Nat->Nat->DV) (n:Nat) (s:ByteArray):Prop:=s=⟨#[]⟩/\((p=63/\n=1/\g 0 0=iv 6)\/(p=0/\n=2/\g 0 0=iv 2/\g 1 0=iv 3)\/(p=0/\n=1/\g 0 0=iv 6))
noncomputable abbrev fmE (n:Nat):Env Unit:=envH Tryz.prog gl0 [e231,e233 emp,e235,e234,e237] [] noLp n [] true
theorem fm_A:∃ x:ByteArray,∀ (t:Bool) (K:DV->DHeap->Option Unit),(∀ σ,K (.tup [sv x,iv 0]) σ=some ())->bodyD Tryz.prog (fmE 3) Tryz.f170 [kv .u8 63,.sl t (fun _ _=>iv 6) 1 1,sv ⟨#[]⟩] [] (fun d σ=>K d σ)=some ():=⟨_,fun t K hK=>(fmA_tree t emp K).trans (hT rfl (hK _))⟩
theorem fm_B:∃ x:ByteArray,∀ (t:Bool) (K:DV->DHeap->Option Unit),(∀ σ,K (.tup [sv x,iv 0]) σ=some ())->bodyD Tryz.prog (fmE 4) Tryz.f170 [kv .u8 0,.sl t (fun i _=>iv (w23 i)) 1 2,sv ⟨#[]⟩] [] (fun d σ=>K d σ)=some ():=⟨_,fun t K hK=>(fmB_tree t emp K).trans (hT rfl (hK _))⟩
theorem fm_C:∃ x:ByteArray,∀ (t:Bool) (K:DV->DHeap->Option Unit),(∀ σ,K (.tup [sv x,iv 0]) σ=some ())->bodyD Tryz.prog (fmE 3) Tryz.f170 [kv .u8 0,.sl t (fun _ _=>iv 6) 1 1,sv ⟨#[]⟩] [] (fun d σ=>K d σ)=some ():=⟨_,fun t K hK=>(fmC_tree t emp K).trans (hT rfl (hK _))⟩
noncomputable def fmS (p:Int) (n:Nat):ByteArray:=if p=63 then fm_A.choose else if n=2 then fm_B.choose else fm_C.choose
section
variable {st:AE.Stat}(hx:Hx st) (hc:∀ a σ,st.ext 255 a σ=RL.app σ (cfX a))
include hx hc
theorem fmE_ok (n:Nat):EnvOk Tryz.prog st (fmE n):=by
 have i257:InOk Tryz.prog st e257:=in_of hx Tryz.func257 (by kernel_rfl) (by kernel_rfl) rfl no_in no_con
 have i236:InOk Tryz.prog st e236:=in_of hx Tryz.func236 (by kernel_rfl) (by kernel_rfl) rfl no_in no_con
 have i258:InOk Tryz.prog st e258:=in_of hx Tryz.func258 (by kernel_rfl) (by kernel_rfl) rfl (in_cons i257 (in_cons i236 no_in)) no_con
 have i235:InOk Tryz.prog st e235:=in_of hx Tryz.func235 (by kernel_rfl) (by kernel_rfl) rfl (in_cons i258 no_in) no_con
 have i234:InOk Tryz.prog st e234:=in_of hx Tryz.func234 (by kernel_rfl) (by kernel_rfl) rfl (in_cons i235 no_in) no_con
 have i231:InOk Tryz.prog st e231:=in_of hx Tryz.func231 (by kernel_rfl) (by kernel_rfl) rfl no_in no_con
 have i233:InOk Tryz.prog st (e233 emp):=in_of hx Tryz.func233 (by kernel_rfl) (by kernel_rfl) rfl no_in (con_cons (cfC1_ok hc) no_con)
 have i268:InOk Tryz.prog st e268:=in_of hx Tryz.func268 (by kernel_rfl) (by kernel_rfl) rfl no_in no_con
 have i265:InOk Tryz.prog st e265:=in_of hx Tryz.func265 (by kernel_rfl) (by kernel_rfl) rfl (in_cons i268 no_in) no_con
 have i259:InOk Tryz.prog st e259:=in_of hx Tryz.func259 (by kernel_rfl) (by kernel_rfl) rfl (in_cons i265 no_in) no_con
 have i237:InOk Tryz.prog st e237:=in_of hx Tryz.func237 (by kernel_rfl) (by kernel_rfl) rfl (in_cons i259 no_in) no_con
 exact envH_ok (in_cons i231 (in_cons i233 (in_cons i235 (in_cons i234 (in_cons i237 no_in))))) fun _ h=>nomatch h
theorem fm_at {p:Int}{n m:Nat}{g w:Nat->Nat->DV}(hg:∀ i f,i<n->f<1->g i f=w i f) {s:ByteArray}{x:ByteArray}(ht:∀ (t:Bool) (K:DV->DHeap->Option Unit),(∀ σ,K (.tup [sv x,iv 0]) σ=some ())->bodyD Tryz.prog (fmE m) Tryz.f170 [kv .u8 p,.sl t w 1 n,sv s] [] (fun d σ=>K d σ)=some ()) (t:Bool) :
  ConOkZ true Tryz.prog st 170 (fun a k=>bif holds (a=[kv .u8 p,.sl t g 1 n,sv s]) then k (fun _=>(.tup [sv x,iv 0],[])) else none):=by
 refine con_flatE (E:=fmE m) (glOk st) (fmE_ok hx hc m) Tryz.func170 (by kernel_rfl) (by kernel_rfl) (hx 170 rfl) (fun _ _ _ h=>nomatch h) fun args k hk=>?_
 obtain ⟨e,hk3⟩:=bif_none hk;obtain rfl:=holds_eq.1 e
 exact ⟨[kv .u8 p,.sl t w 1 n,sv s],_,.self (.cons (Cv.sl fun i f hi hf=>.of (hg i f hi hf)) (.self .nil)),flR_clo rfl,hk3,ht t _ fun _=>isD_of rfl⟩
theorem fmC_ok:ConOkZ true Tryz.prog st 170 (fmC fmQ fmS):=by
 intro args k hk;unfold fmC at hk
 split at hk<;>first | (cases hk; done) | skip
 rename_i p t g n s;obtain ⟨hb,hk1⟩:=bif_none hk;clear hk
 obtain ⟨rfl,⟨rfl,rfl,h0⟩ | ⟨rfl,rfl,h0,h1⟩ | ⟨rfl,rfl,h0⟩⟩:=holds_eq.1 hb
 ·refine fm_at hx hc (w:=fun _ _=>iv 6) (fun i f hi hf=>?_) fm_A.choose_spec t _ k (hT rfl (by simpa [fmS] using hk1))
  obtain rfl:i=0:=by omega
  obtain rfl:f=0:=by omega
  exact h0
 ·refine fm_at hx hc (w:=fun i _=>iv (w23 i)) (fun i f hi hf=>?_) fm_B.choose_spec t _ k (hT rfl (by simpa [fmS] using hk1))
  obtain rfl:f=0:=by omega
  obtain rfl | rfl:i=0\/i=1:=by omega
  ·exact h0
  ·exact h1
 ·refine fm_at hx hc (w:=fun _ _=>iv 6) (fun i f hi hf=>?_) fm_C.choose_spec t _ k (hT rfl (by simpa [fmS] using hk1))
  obtain rfl:i=0:=by omega
  obtain rfl:f=0:=by omega
  exact h0
def evQ (l:List DV):Prop:=∃ p cd g n,l=evS p cd g n/\64<=cd/\cd<=126/\fmQ p g n ⟨#[]⟩
theorem rgS_ok:ConOkZ true Tryz.prog st 123 (rgC evQ):=by
 intro args k hk;unfold rgC at hk
 split at hk<;>first | (cases hk; done) | skip
 rename_i l;obtain ⟨hb,hk0⟩:=bif_none hk;clear hk;obtain ⟨p,cd,g,n,rfl,h1,h2,hq⟩:=holds_eq.1 hb
 refine con_flatZ (F:=fun a k'=>bif holds (a=[.agg (evS p cd g n)]) then k' (fun _=>(bv true,[])) else none) (mg:=[]) (l:=[(170,fmC fmQ fmS)]) (lp:=noLp) (n:=0) (glOk st) (fun x h=>?_) Tryz.func123 (by kernel_rfl) (by kernel_rfl) (hx 123 rfl) (fun _ _ _ h=>nomatch h) (fun args k hk2=>?_) _ k (hT rfl hk0)
 ·obtain rfl:=List.mem_singleton.1 h;exact fmC_ok hx hc
 obtain ⟨e,hk3⟩:=bif_none hk2;obtain rfl:=holds_eq.1 e
 exact ⟨_,_,.self .nil,v_clo _,hk3,(rg4_tree cd p g n fmQ fmS _).trans (hT hq (dF (by omega) (dF (by omega) (cT (by simp) (cT (by simp) (isD_of (by simp)))))))⟩
theorem vkS_ok:ConOkZ true Tryz.prog st 80 (vkC evQ):=by
 intro args k hk;unfold vkC at hk
 split at hk<;>first | (cases hk; done) | skip
 rename_i l;obtain ⟨hb,hk0⟩:=bif_none hk;clear hk;have hq:=holds_eq.1 hb;obtain ⟨p,cd,g,n,rfl,h1,h2,hq2⟩:=hq
 refine con_flatZ (F:=fun a k'=>bif holds (a=[.agg (evS p cd g n)]) then k' (fun _=>(iv 0,[])) else none) (mg:=[]) (l:=[(123,rgC evQ)]) (lp:=noLp) (n:=0) (glOk st) (fun x h=>?_) Tryz.func80 (by kernel_rfl) (by kernel_rfl) (hx 80 rfl) (fun _ _ _ h=>nomatch h) (fun args k hk2=>?_) _ k (hT rfl hk0)
 ·obtain rfl:=List.mem_singleton.1 h;exact rgS_ok hx hc
 obtain ⟨e,hk3⟩:=bif_none hk2;obtain rfl:=holds_eq.1 e;exact ⟨_,_,.self .nil,v_clo _,hk3,(vk4_tree (evS p cd g n) evQ cd p g n _).trans (hT ⟨p,cd,g,n,rfl,h1,h2,hq2⟩ (isD_of rfl))⟩
end
end Go.Proofs.YtigmkgampfbflaaGreatDoor
namespace Go.Proofs.YtigmkgampfbflaaGreatDoor
open Go Go.AE Go.DE Go.RowKit
theorem finZ_gen {s id:Nat}{c:DC}{k:Nat}{σ:DHeap}{blk:DBlk}{d2 d':DV}(l:List Nat) (e:SubZ (fun j=>if j=s then some id else none) (zf σ l) d2 d') (hi:id ∉ l) (hb:σ[id]?=some (some blk)) (hk:k=blk.k) (hn:c.n<=blk.c.n) (hg:c.good)
  (hc:∀ i f,i<c.n->f<k->SubZ (fun j=>if j=s then some id else none) (zf σ l) (c.get i f) (blk.c.get i f)) (hz:∀ j∈l,∀ blk,σ[j]?=some (some blk)->∀ i f,i<blk.c.n->f<blk.k->Clo (blk.c.get i f)):FinZ s (d2,[some ⟨k,c⟩]) d' σ:=by
 have at0:∀ {j:Nat}{b},(List.replicate s none++[some (⟨k,c⟩:DBlk)])[j]?=some (some b)->j=s/\b=⟨k,c⟩:=by
  intro j b hj;obtain ⟨h1,h2⟩:=repl_get.1 hj
  cases hx:j-s with
  | zero=>rw [hx] at h2; simp only [List.getElem?_cons_zero,Option.some.injEq] at h2; exact ⟨by omega,h2.symm⟩
  | succ m=>rw [hx] at h2; simp at h2
 have rj:∀ {j i:Nat},(if j=s then some id else none)=some i->j=s/\i=id:=by
  intro j i h;split at h
  ·rename_i h0;exact ⟨h0,(Option.some.inj h).symm⟩
  ·cases h
 refine ⟨fun j=>if j=s then some id else none,zf σ l,fun j i h=>by have:=(rj h).1; omega,⟨.cons e .nil,fun j h=>by omega,fun j i h=>?_,by simp,fun a b ba bb ha hb _=>by rw [(at0 ha).1,(at0 hb).1],fun j b hj=>?_,fun j blk hj=>?_,fun i j h=>?_⟩⟩
 ·have:=(rj h).1;simp only [List.length_append,List.length_replicate,List.length_cons,List.length_nil];omega
 ·obtain ⟨rfl,rfl⟩:=at0 hj
  exact ⟨id,blk,by simp,hb,hk,hn,hg,fun i f hi hf=>hc i f hi hf⟩
 ·unfold zf at hj;split at hj
  ·rename_i hm;have hb:=Option.join_eq_some_iff.1 hj;exact ⟨hb,hz j hm blk hb⟩
  ·cases hj
 ·obtain ⟨_,rfl⟩:=rj h;unfold zf;rw [if_neg hi]
theorem con_anyK {P:Program}{st:AE.Stat}{E:Env Unit}{f:FuncId}{fn:Func}{F:ConF}(hgl:GlOk st E.gl) (hE:EnvOk P st E) (hf:P.funcs[f]?=some fn)
  (hn:(fn.name== "runtime.NumGoroutine")=false) (hb:fn.body.isNone=false) (hxt:∀ a σ,st.ext f a σ=none) (hlp:∀ x∈loopsOf fn,∀ g,E.lp x.1=some g->LoopSR E.gz P st E.gl x.2 g)
  (h:∀ args k,F args k=some ()->∃ (args':List DV) (R:DE.Res) (κ:DV->DHeap->Option Unit),CvL args args'/\k R=some ()/\(∀ s,LowR (R s))/\bodyD P E fn args' [] κ=some ()/\∀ s d σ,κ d σ=some ()->FinZ s (R s) d σ):ConOkZ true P st f F:=by
 intro args k hk s C σ vs hS ha;obtain ⟨args',R,κ,hargs,hR,hlow,hbody,hfin⟩:=h args k hk;obtain ⟨v,σ',C',μ',d,σd',⟨N,hN⟩,h1,n1,h2,hx⟩:=bodyD_some hE hlp hS (hargs.drl ha) (hgl.2 _ _ _ _ hS) hbody;obtain ⟨r,zs,hr,hw⟩:FinZ s (R s) d σd':=hfin s d σd' hx;have n0:=NRel.b_w n1
 have nolive:∀ b,¬ Live noMu ([]:DHeap) b:=by
  rintro b ⟨id,blk,x,hb,_⟩
  simp at hb
 obtain ⟨C2,hle,hold,hrl⟩:=hw.rl (gl:=E.gl) (τ:=#[v]) hgl.1 ⟨h1,.cons h2 (.nil _ _),hgl.2 _ _ _ _ h1⟩;obtain ⟨x,ys,e,hd,-⟩:=hrl.T.cons_inv
 obtain ⟨rfl,-⟩:v=x/\[]=ys:=by simpa using e
 refine ⟨_,hR,hlow s,v,σ',C2,via r μ',⟨N+1,fun n m hn' hm=>?_⟩,hrl.S,hd,fun id x hx=>?_,n0.len,fun b hb=>n0.fr b hb (nolive b),fun b hl=>?_,fun b s' o v hv=>?_⟩
 ·obtain ⟨m,rfl⟩:∃ m',m=m'+1:=⟨m-1,by omega⟩
  show enterA P (runF P st n (m+1)) f vs σ=_;unfold enterA;rw [hf];simp only [hn,hb,Bool.false_eq_true,if_false,runF,hf,hxt]
  exact hN n m (by omega) (by omega)
 ·unfold via at hx;split at hx
  ·rename_i i hi;exact hr id i hi
  ·cases hx
 ·rcases Nat.lt_or_ge b σ.length with hlt | hge
  ·exact absurd (n0.img b (hw.live hl) hlt) (nolive b)
  ·exact hge
 ·rcases hold _ b s' o v hv with q | ⟨_,q3,q4,_⟩
  ·exact (NRel.b_old n1 _ b s' o v q).imp id fun q=>⟨rfl,q.2.2.1,q.2.2.2.elim id fun x=>(nolive b x).elim⟩
  ·refine .inr ⟨rfl,q3,?_⟩
   rcases Nat.lt_or_ge b σ.length with hlt | hge
   ·exact absurd (n0.img b q4 hlt) (nolive b)
   ·exact hge
end Go.Proofs.YtigmkgampfbflaaGreatDoor
