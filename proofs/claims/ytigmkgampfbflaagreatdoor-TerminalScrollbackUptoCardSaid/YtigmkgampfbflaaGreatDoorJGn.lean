/-
 The contracts of rows of blanks and of new grids.
 Conditions: none beyond those of the contracts.
-/
import Derived.Test.YtigmkgampfbflaaGreatDoorJCk
import Derived.Test.YtigmkgampfbflaaGreatDoorJDec
import Derived.Test.YtigmkgampfbflaaGreatDoorDeLst
namespace Go.Proofs.YtigmkgampfbflaaGreatDoor
open Go Go.AE Go.DE Go.RowKit
def blkRow (w:Nat):Row:=⟨w,fun _=>⟨⟨[32]⟩⟩,fun _=>1,fun _=>-1,fun _=>-1,fun _=>0⟩
def blkB (w:Int):Nat->Nat->DV:=(blkRow w.toNat).cell
theorem blankC_row (w:Int):blankC=blkB w:=by
 funext i f
 match f with
 | 0=>rfl
 | 1=>rfl
 | 2=>rfl
 | 3=>rfl
 | _+4=>rfl
noncomputable def b4C (B:Int->Nat->Nat->DV):ConF:=fun args k=>match args with
 | [.v (.int .i64 w),.agg [.v (.int .i64 _),.v (.int .i64 (.negSucc 0)),.v (.int .i64 _)]]=>bif decide (1<=w)&&decide (w<=30) then k (fun _=>(.sl false (B w) 5 w.toNat,[])) else none
 | _=>none
theorem b4_tree (w a c:Int) (k:DV->Option Unit):bodyD Tryz.prog (envZ [(157,bkC)] noLp 0) Tryz.f154 [iv w,.agg [iv a,iv (-1),iv c]] [] (fun d _=>k d) =
  bif decide (w<1) then k (DV.v (Value.slice none 0 0)) else bif decide (w > 132) then k (DV.v (Value.slice none 0 0)) else bif bif decide (0<=w) then decide (w<=30) else false then k (.sl false blankC 5 (Int.toNat w))
  else none:=by
 kernel_rfl
theorem bn_tree (w a c:Int) (t u:Bool) (B:Int->Nat->Nat->DV) (k:DV->Option Unit):bodyD Tryz.prog (envZ [(154,b4C B)] noLp 0) Tryz.f153 [.pf t (fun _ _=>iv w) 1 1 0 0,.pf u (fun _ f=>match f with | 0=>iv a | 1=>iv (-1) | _+2=>iv c) 3 1 0 0] [] (fun d _=>k d) =
  bif bif decide (1<=w) then decide (w<=30) else false then k (.sl false (B w) 5 (Int.toNat w)) else none:=by
 kernel_rfl
noncomputable def bnC (Q:(Nat->Nat->DV)->(Nat->Nat->DV)->Prop) (B:Int->Nat->Nat->DV):ConF:=fun args k=>match args with
 | [.pf _ G 1 1 0 0,.pf _ H 3 1 0 0]=>bif holds (Q G H) then k (fun _=>(.sl false (B (numD (G 0 0))) 5 (numD (G 0 0)).toNat,[])) else none
 | _=>none
theorem gn0_loop (w h i:Int) (Q:(Nat->Nat->DV)->(Nat->Nat->DV)->Prop) (B:Int->Nat->Nat->DV) (b0:Option DBlk) (K:Ex->Nat->List DV->List DV->DHeap->Option Unit):execD Tryz.prog (envZ [(153,bnC Q B)] noLp 0) (loopAt Tryz.f47 250) 500 (temps 34 [4,7,8,22,23] [.po 0 0 0,.fn (.func 153) [] [.po 1 0 0,.po 2 0 0],.po 3 0 0,iv h,iv i]) [b0,some ⟨1,.lst [[iv w]]⟩,some ⟨3,.lst [[iv (-1),iv (-1),iv 0]]⟩,some ⟨3,.lst [[iv w,iv h,.v (.slice none 0 0)]]⟩,none] (fun e τ σ=>K e τ.length (pick [4,7,8,22,23] τ) (pick [4,8] τ) σ) =
  bif decide (i<h) then bif holds (Q (fun j f=>lend1 (DC.get (.lst [[iv w]]) j f)) fun j f=>lend1 (DC.get (.lst [[iv (-1:Int),iv (-1:Int),iv 0]]) j f)) then K .normal 34 [.po 0 0 0,.fn (Fn.func 153) [] [.po 1 0 0,.po 2 0 0],.po 3 0 0,iv h,iv (IntKind.wrap .i64 (i+1))] [.po 0 0 0,.po 3 0 0] [b0,some ⟨1,.lst [[iv w]]⟩,some ⟨3,.lst [[iv (-1:Int),iv (-1:Int),iv 0]]⟩,some ⟨3,.upd (.lst [[iv w,iv h,DV.v (Value.slice none 0 0)]]) 0 2 (.os 6 0 1)⟩,none,some ⟨1,.lst [[.sl false (B (numD (iv w))) 5 (Int.toNat (numD (iv w)))]]⟩,some ⟨1,.lst [[.sl false (B (numD (iv w))) 5 (Int.toNat (numD (iv w)))]]⟩]
  else none else K (.exit 0) 34 [.po 0 0 0,.fn (Fn.func 153) [] [.po 1 0 0,.po 2 0 0],.po 3 0 0,iv h,iv i] [.po 0 0 0,.po 3 0 0] [b0,some ⟨1,.lst [[iv w]]⟩,some ⟨3,.lst [[iv (-1:Int),iv (-1:Int),iv 0]]⟩,some ⟨3,.lst [[iv w,iv h,DV.v (Value.slice none 0 0)]]⟩,none]:=by
 kernel_rfl
theorem gn1_loop (w h i:Int) (m:Nat) (Q:(Nat->Nat->DV)->(Nat->Nat->DV)->Prop) (B:Int->Nat->Nat->DV) (R:Nat->Nat->DV) (b0:Option DBlk) (K:Ex->Nat->List DV->List DV->DHeap->Option Unit):execD Tryz.prog (envZ [(153,bnC Q B)] noLp 0) (loopAt Tryz.f47 250) 500 (temps 34 [4,7,8,22,23] [.po 0 0 0,.fn (.func 153) [] [.po 1 0 0,.po 2 0 0],.po 3 0 0,iv h,iv i]) [b0,some ⟨1,.lst [[iv w]]⟩,some ⟨3,.lst [[iv (-1),iv (-1),iv 0]]⟩,some ⟨3,.lst [[iv w,iv h,.os 4 0 m]]⟩,some ⟨1,.tab m R⟩] (fun e τ σ=>K e τ.length (pick [4,7,8,22,23] τ) (pick [4,8] τ) σ) =
  bif decide (i<h) then bif holds (Q (fun j f=>lend1 (DC.get (.lst [[iv w]]) j f)) fun j f=>lend1 (DC.get (.lst [[iv (-1:Int),iv (-1:Int),iv 0]]) j f)) then bif decide (m<=DC.n (.tab m R))
  then bif decide ((m+1)*(24:Nat)<=140737488355328) then K .normal 34 [.po 0 0 0,.fn (Fn.func 153) [] [.po 1 0 0,.po 2 0 0],.po 3 0 0,iv h,iv (IntKind.wrap .i64 (i+1))] [.po 0 0 0,.po 3 0 0] [b0,some ⟨1,.lst [[iv w]]⟩,some ⟨3,.lst [[iv (-1:Int),iv (-1:Int),iv 0]]⟩,some ⟨3,.upd (.lst [[iv w,iv h,.os 4 0 m]]) 0 2 (.os 6 0 (m+1))⟩,none,some ⟨1,.lst [[.sl false (B (numD (iv w))) 5 (Int.toNat (numD (iv w)))]]⟩,some ⟨1,.app (.pre (.tab m R) m) (.lst [[.sl false (B (numD (iv w))) 5 (Int.toNat (numD (iv w)))]])⟩]
  else none else none else none else K (.exit 0) 34 [.po 0 0 0,.fn (Fn.func 153) [] [.po 1 0 0,.po 2 0 0],.po 3 0 0,iv h,iv i] [.po 0 0 0,.po 3 0 0] [b0,some ⟨1,.lst [[iv w]]⟩,some ⟨3,.lst [[iv (-1:Int),iv (-1:Int),iv 0]]⟩,some ⟨3,.lst [[iv w,iv h,.os 4 0 m]]⟩,some ⟨1,.tab m R⟩]:=by
 kernel_rfl
theorem row_low (r:Row) (i f:Nat):Low (r.cell i f):=by
 match f with
 | 0=>exact .v _
 | 1=>exact .v _
 | 2=>exact .v _
 | 3=>exact .v _
 | _+4=>exact .v _
theorem and_dec {p q:Prop} [Decidable p] [Decidable q] (h:(decide p&&decide q)=true):p/\q:=by simpa using h
theorem dT2 {α:Type}{p q:Prop} [Decidable p] [Decidable q] {x y:Option α}{r:Option α}(hp:p) (hq:q) (h:x=r):(bif bif decide p then decide q else false then x else y)=r:=by
 rw [decide_eq_true hp,decide_eq_true hq];exact h
theorem b4C_ok {st:AE.Stat}(hx:Hx st) (hk:∀ a σ,st.ext 157 a σ=RL.app σ (blkX a σ.length)):ConOkZ true Tryz.prog st 154 (b4C blkB):=by
 refine con_flatZ (mg:=[]) (l:=[(157,bkC)]) (lp:=noLp) (n:=0) (glOk st) (fun x h=>?_) Tryz.func154 (by kernel_rfl) (by kernel_rfl) (hx 154 rfl) (fun _ _ _ h=>nomatch h) fun args k hk=>?_
 ·simp only [List.mem_cons,List.not_mem_nil,or_false] at h;subst h;exact bkC_ok ‹_›
 unfold b4C at hk
 split at hk<;>first | (cases hk; done) | skip
 rename_i w a c;obtain ⟨hb,hk⟩:=bif_none hk;obtain ⟨h1,h2⟩:=and_dec hb
 refine ⟨[iv w,.agg [iv a,iv (-1),iv c]],_,.self (.self .nil),⟨.sl _ _ _ _,.sl fun i f _ _=>row_low _ _ _⟩,hk,(b4_tree w a c _).trans ?_⟩
 refine dF (by omega) (dF (by omega) (dT2 (by omega) h2 ?_))
 rw [blankC_row w];exact isD_of rfl
def bnQ (G H:Nat->Nat->DV):Prop:=G 0 0=iv (numD (G 0 0))/\1<=numD (G 0 0)/\numD (G 0 0)<=30/\H 0 0=iv (numD (H 0 0))/\H 0 1=iv (-1)/\H 0 2=iv (numD (H 0 2))
theorem Cv.pf {t:Bool}{g g':Nat->Nat->DV}{k n i0 f0:Nat}(h:∀ i f,i<n->f<k->Cv (g i f) (g' i f)):Cv (.pf t g k n i0 f0) (.pf t g' k n i0 f0):=fun C μ v hv=>by
 obtain ⟨a,w,rfl,hk,hn,h1,h2⟩:=hv.pf_inv
 exact .pf t g' k n i0 f0 a _ w hk hn _root_.rfl h1 fun i f hi hf=>h i f hi hf _ _ _ (h2 i f hi hf)
theorem bnC_ok {st:AE.Stat}(hx:Hx st) (hk:∀ a σ,st.ext 157 a σ=RL.app σ (blkX a σ.length)):ConOkZ true Tryz.prog st 153 (bnC bnQ blkB):=by
 refine con_flatZ (mg:=[]) (l:=[(154,b4C blkB)]) (lp:=noLp) (n:=0) (glOk st) (fun x h=>?_) Tryz.func153 (by kernel_rfl) (by kernel_rfl) (hx 153 rfl) (fun _ _ _ h=>nomatch h) fun args k hk=>?_
 ·simp only [List.mem_cons,List.not_mem_nil,or_false] at h;subst h;exact b4C_ok hx ‹_›
 unfold bnC at hk
 split at hk<;>first | (cases hk; done) | skip
 rename_i t G u H;obtain ⟨hb,hk⟩:=bif_none hk;obtain ⟨g0,g1,g2,h0,h1,h2⟩:=holds_eq.1 hb
 refine ⟨[.pf t (fun _ _=>iv (numD (G 0 0))) 1 1 0 0,.pf u (fun _ f=>match f with | 0=>iv (numD (H 0 0)) | 1=>iv (-1) | _+2=>iv (numD (H 0 2))) 3 1 0 0],_,
  .cons (Cv.pf fun i f hi hf=>Cv.of ?_) (.cons (Cv.pf fun i f hi hf=>Cv.of ?_) .nil),⟨.sl _ _ _ _,.sl fun i f _ _=>row_low _ _ _⟩,hk,(bn_tree _ _ _ t u blkB _).trans (dT2 g1 g2 (isD_of rfl))⟩
 ·obtain rfl:i=0:=by omega
  obtain rfl:f=0:=by omega
  exact g0
 ·obtain rfl:i=0:=by omega
  match f,hf with
  | 0,_=>exact h0
  | 1,_=>exact h1
  | 2,_=>exact h2
def rwD (w:Int):Nat->Nat->DV:=fun _ _=>.sl false (blkB w) 5 w.toNat
def outD (b:Nat):Nat->DV
 | 0=>.v (.slice none 0 0)
 | n+1=>.os b 0 (n+1)
def outB (g:Nat->Nat->DV):Nat->Option DBlk
 | 0=>none
 | n+1=>some ⟨1,.tab (n+1) g⟩
def nilS:DV:=.v (.slice none 0 0)
structure GNX where
 w:Int
 h:Nat
 i:Nat
noncomputable def gnI (b0:DBlk):LInv GNX where
 pre x:=x.i<=x.h/\1<=x.w/\x.w<=30/\x.h<=60/\1<=x.h
 m:=4
 n:=34
 ps:=[4,7,8,22,23]
 sd x:=[.po 0 0 0,.fn (.func 153) [] [.po 1 0 0,.po 2 0 0],.po 3 0 0,iv x.h,iv x.i]
 sh x:=[some b0,some ⟨1,.lst [[iv x.w]]⟩,some ⟨3,.lst [[iv (-1),iv (-1),iv 0]]⟩,some ⟨3,.lst [[iv x.w,iv x.h,outD 4 x.i]]⟩,outB (rwD x.w) x.i]
 meas x:=x.h-x.i
 e _:=.exit 0
 qs:=[4,8]
 od _:=[.po 0 0 0,.po 3 0 0]
 oh x:=[some b0,some ⟨1,.lst [[iv x.w]]⟩,some ⟨3,.lst [[iv (-1),iv (-1),iv 0]]⟩,some ⟨3,.lst [[iv x.w,iv x.h,.os 4 0 x.h]]⟩,some ⟨1,.tab x.h (rwD x.w)⟩]
 guess _ σ:=match σ with
  | [_,some b,_,some c]=>match b.c.get 0 0,c.c.get 0 1 with
   | .v (.int .i64 w),.v (.int .i64 h)=>some ⟨w,h.toNat,0⟩
   | _,_=>none
  | _=>none
 cps x k:=k (.exit 0) [.po 0 0 0,.po 3 0 0] [some b0,some ⟨1,.lst [[iv x.w]]⟩,some ⟨3,.lst [[iv (-1),iv (-1),iv 0]]⟩,some ⟨3,.lst [[iv x.w,iv x.h,.os 4 0 x.h]]⟩,some ⟨1,.tab x.h (rwD x.w)⟩]
theorem bnQ_of {w:Int}(h1:1<=w) (h2:w<=30):bnQ (fun j f=>lend1 (DC.get (DC.lst [[DV.v (Value.int IntKind.i64 w)]]) j f)) fun j f=>lend1 (DC.get (DC.lst [[DV.v (Value.int IntKind.i64 (-1:Int)),DV.v (Value.int IntKind.i64 (-1:Int)),DV.v (Value.int IntKind.i64 (0:Int))]]) j f) :=
 ⟨rfl,h1,h2,rfl,rfl,rfl⟩
def KB (b:DBlk):Prop:=b.c.good/\∀ i f,i<b.c.n->f<b.k->Clo (b.c.get i f)
theorem KB.sub {b:DBlk}{r:Nat->Option Nat}(h:KB b):SubC r b b:=⟨rfl,Nat.le_refl _,h.1,fun i f hi hf=>.of_clo (h.2 i f hi hf)⟩
theorem KB.lst {k:Nat}{l:List DV}(h:∀ d∈l,Clo d) (hk:k<=l.length):KB ⟨k,.lst [l]⟩:=⟨trivial,fun i f hi hf=>by
 have hi:i<1:=hi
 obtain rfl:i=0:=by omega
 show Clo (l.getD f .any);have hf:f<k:=hf
 have hlt:f<l.length:=by omega
 rw [List.getD_eq_getElem?_getD,List.getElem?_eq_getElem hlt];exact h _ (List.getElem_mem hlt)⟩
theorem fn2_sub {f:FuncId}{m:Nat}{ids:List Nat}{a b:Nat}(ha:a<m) (hb:b<m):Sub (ren m ids) (.fn (.func f) [] [.po a 0 0,.po b 0 0]) (.fn (.func f) [] [.po a 0 0,.po b 0 0]):=fun C μ x hx=>by
 cases hx with
 | fn _ _ _ u v h1 h2 h3 h4 =>
  refine .fn _ _ _ u v h1 h2 (fun i d x' hd=>by simp at hd) fun i d x' hd hx'=>?_
  have h:=h4 i d x' hd hx'
  match i,hd with
  | 0,hd=>obtain rfl:=Option.some.inj hd; exact (Sub.po (if_pos ha):Sub (ren m ids) (.po a 0 0) (.po a 0 0)) C μ x' h
  | 1,hd=>obtain rfl:=Option.some.inj hd; exact (Sub.po (if_pos hb):Sub (ren m ids) (.po b 0 0) (.po b 0 0)) C μ x' h
  | _+2,hd=>simp at hd
theorem tm_gn {ids:List Nat}{h:Nat}{z:Int}{i:Nat}(hz:z=(i:Int)):SubL (ren 4 ids) [.po 0 0 0,.fn (.func 153) [] [.po 1 0 0,.po 2 0 0],.po 3 0 0,iv h,iv i] [.po 0 0 0,.fn (.func 153) [] [.po 1 0 0,.po 2 0 0],.po 3 0 0,iv h,iv z]:=by
 subst hz
 exact .cons (.po rfl) (.cons (fn2_sub (by decide) (by decide)) (.cons (.po rfl) (.cons (.v _) (.cons (.v _) .nil))))
theorem lst3 {a b c:DV}(ha:Clo a) (hb:Clo b) (hc:Clo c):∀ d∈[a,b,c],Clo d:=fun d hd=>by
 simp only [List.mem_cons,List.not_mem_nil,or_false] at hd
 rcases hd with rfl | rfl | rfl
 ·exact ha
 ·exact hb
 ·exact hc
theorem lst1 {a:DV}(ha:Clo a):∀ d∈[a],Clo d:=fun d hd=>by
 obtain rfl:=List.mem_singleton.1 hd;exact ha
theorem g3_sub {r:Nat->Option Nat}{a b d d2 old:DV}(ha:Clo a) (hb:Clo b) (h:Sub r d2 d):SubC r ⟨3,.lst [[a,b,d2]]⟩ ⟨3,.upd (.lst [[a,b,old]]) 0 2 d⟩:=⟨rfl,Nat.le_refl _,trivial,fun i f hi hf=>by
 have hi:i<1:=hi
 obtain rfl:i=0:=by omega
 have hf:f<3:=hf
 match f,hf with
 | 0,_=>exact .of_clo ha
 | 1,_=>exact .of_clo hb
 | 2,_=>exact h⟩
theorem g3_same {r:Nat->Option Nat}{a b d d2:DV}(ha:Clo a) (hb:Clo b) (h:Sub r d2 d):SubC r ⟨3,.lst [[a,b,d2]]⟩ ⟨3,.lst [[a,b,d]]⟩:=⟨rfl,Nat.le_refl _,trivial,fun i f hi hf=>by
 have hi:i<1:=hi
 obtain rfl:i=0:=by omega
 have hf:f<3:=hf
 match f,hf with
 | 0,_=>exact .of_clo ha
 | 1,_=>exact .of_clo hb
 | 2,_=>exact h⟩
theorem gn_ls {st:AE.Stat}(hx:Hx st) (hk:∀ a σ,st.ext 157 a σ=RL.app σ (blkX a σ.length)) (b0:DBlk) (h0:KB b0):LoopSR true Tryz.prog st gl0 (.loop (loopAt Tryz.f47 250)) (gnI b0).g:=by
 refine (gnI b0).ok (E:=envZ [(153,bnC bnQ blkB)] noLp 0) (p:=500) (tblD_env (l:=[(153,bnC bnQ blkB)]) fun x h=>?_) (glOk st).1 (fun _ _ _ h=>nomatch h) (fun x k h=>h) fun x hx2=>?_
 ·simp only [List.mem_cons,List.not_mem_nil,or_false] at h;subst h;exact bnC_ok hx hk
 obtain ⟨w,h,i⟩:=x;obtain ⟨hi,w1,w2,hh,hp⟩:i<=h/\1<=w/\w<=30/\h<=60/\1<=h:=hx2;have kw:KB ⟨1,.lst [[iv w]]⟩:=.lst (lst1 (.v _)) (Nat.le_refl _);have ka:KB ⟨3,.lst [[iv (-1),iv (-1),iv 0]]⟩:=.lst (lst3 (.v _) (.v _) (.v _)) (Nat.le_refl _)
 cases i with
 | zero =>
  refine (gn0_loop w h ((0:Nat):Int) bnQ blkB (some b0) _).trans ?_
  refine dS (fun hlt=>?_) fun hge=>?_
  ·have hlt:0<h:=by omega
   refine hT (bnQ_of w1 w2) (LInv.ask_of ⟨rfl,⟨w,h,1⟩,⟨rfl,rfl,rfl,hlt,w1,w2,hh,hp⟩,by simp only [gnI]; omega,[6],.of (im:=[some 0,some 1,some 2,some 3,some 6]) (tm_gn (by rw [W_in (by decide) (by decide)]; rfl)) rfl
    ⟨⟨0,_,rfl,rfl,h0.sub⟩,⟨1,_,rfl,rfl,kw.sub⟩,⟨2,_,rfl,rfl,ka.sub⟩,⟨3,_,rfl,rfl,g3_sub (.v _) (.v _) (.os rfl)⟩,⟨6,_,rfl,rfl,rfl,Nat.le_refl _,trivial,fun j f hj hf=>?_⟩,trivial⟩ rfl (by decide)⟩)
   have hj:j<1:=hj;have hf:f<1:=hf
   obtain rfl:j=0:=by omega
   obtain rfl:f=0:=by omega
   exact .of_clo (.sl _ _ _ _)
  ·exfalso
   omega
 | succ i =>
  refine (gn1_loop w h ((i+1:Nat):Int) (i+1) bnQ blkB (rwD w) (some b0) _).trans ?_
  refine dS (fun hlt=>?_) fun hge=>?_
  ·have hlt:i+1<h:=by omega
   refine hT (bnQ_of w1 w2) (dT (Nat.le_refl _) (dT (by omega) (LInv.ask_of ⟨rfl,⟨w,h,i+2⟩,⟨rfl,rfl,rfl,hlt,w1,w2,hh,hp⟩,by simp only [gnI]; omega,[6],.of (im:=[some 0,some 1,some 2,some 3,some 6]) (tm_gn (i:=i+2) (by rw [W_in (by omega) (by omega)]; omega)) rfl
    ⟨⟨0,_,rfl,rfl,h0.sub⟩,⟨1,_,rfl,rfl,kw.sub⟩,⟨2,_,rfl,rfl,ka.sub⟩,⟨3,_,rfl,rfl,g3_sub (.v _) (.v _) (.os rfl)⟩,⟨6,_,rfl,rfl,rfl,Nat.le_refl _,trivial,fun j f hj hf=>?_⟩,trivial⟩ rfl (by decide)⟩)))
   have hj:j<i+2:=hj;have hf:f<1:=hf
   obtain rfl:f=0:=by omega
   show Sub _ (rwD w j 0) (if j<i+1 then rwD w j 0 else ([[rwD w 0 0]].getD (j-(i+1)) []).getD 0 .any)
   by_cases h:j<i+1
   ·rw [if_pos h];exact .of_clo (.sl _ _ _ _)
   ·obtain rfl:j=i+1:=by omega
    rw [if_neg h,Nat.sub_self];exact .of_clo (.sl _ _ _ _)
  ·obtain rfl:h=i+1:=by omega
   exact LInv.ask_of ⟨rfl,rfl,[4],.of (im:=[some 0,some 1,some 2,some 3,some 4]) (.cons (.po rfl) (.cons (.po rfl) .nil)) rfl ⟨⟨0,_,rfl,rfl,h0.sub⟩,⟨1,_,rfl,rfl,kw.sub⟩,⟨2,_,rfl,rfl,ka.sub⟩,⟨3,_,rfl,rfl,g3_same (.v _) (.v _) (.os rfl)⟩,⟨4,_,rfl,rfl,rfl,Nat.le_refl _,trivial,fun j f hj hf=>.of_clo (.sl _ _ _ _)⟩,trivial⟩ rfl (by decide)⟩
end Go.Proofs.YtigmkgampfbflaaGreatDoor
namespace Go.Proofs.YtigmkgampfbflaaGreatDoor
open Go Go.AE Go.DE Go.RowKit
noncomputable abbrev szN:ConF:=inl2 Tryz.prog (env [] noLp 0) Tryz.f67
theorem szN_ok {st:AE.Stat}(hx:Hx st):ConOk Tryz.prog st 67 szN:=inl2_ok Tryz.func67 (by kernel_rfl) (by kernel_rfl) (hx 67 rfl) (glOk st) (tblD_env (l:=[]) fun _ h=>nomatch h) (fun _ _ _ h=>nomatch h)
noncomputable def sdC:ConF:=fun args k=>match args with
 | []=>k (fun _=>(.agg [iv (-1),iv (-1),iv 0],[]))
 | _=>none
theorem sd_tree (k:DV->Option Unit):bodyD Tryz.prog (env [] noLp 0) Tryz.f94 [] [] (fun d _=>k d) =
  k (.agg [iv (-1:Int),iv (-1:Int),iv 0]):=by
 kernel_rfl
theorem agg_clo {l:List DV}(h:l.all isV=true):Clo (.agg l)/\Low (.agg l):=flR_clo (d:=.agg l) (List.all_eq_true.2 fun d hd=>by
 have:=List.all_eq_true.1 h d hd
 cases d<;>first | rfl | cases this)
theorem sdC_ok {st:AE.Stat}(hx:Hx st):ConOk Tryz.prog st 94 sdC:=by
 refine con_flat (mg:=[]) (l:=[]) (lp:=noLp) (n:=0) (glOk st) (fun _ h=>nomatch h) Tryz.func94 (by kernel_rfl) (by kernel_rfl) (hx 94 rfl) (fun _ _ _ h=>nomatch h) fun args k hk=>?_
 unfold sdC at hk
 split at hk<;>first | (cases hk; done) | skip
 exact ⟨[],_,.nil,agg_clo rfl,hk,(sd_tree _).trans (isD_of rfl)⟩
noncomputable def blH:List InE:=[⟨93,Tryz.f93,env [] noLp 0⟩]
def gz0:DBlk:=⟨3,.lst [[iv 0,iv 0,nilS]]⟩
theorem gr_tree (w h:Int) (K:DV->DHeap->Option Unit):bodyD Tryz.prog (envH Tryz.prog gl0 blH [(67,szN),(94,sdC)] (lpOf [(250,(gnI gz0).g)]) 0 [] true) Tryz.f47 [iv w,iv h] [] (fun d σ=>K d σ) =
  bif decide (w<1) then K (.tup [.agg [iv 0,iv 0,DV.v (Value.slice none 0 0)],iv 2]) [some ⟨3,.upd (.upd (.upd (.lst [[iv 0,iv 0,DV.v (Value.slice none 0 0)]]) 0 0 (iv 0)) 0 1 (iv 0)) 0 2 (DV.v (Value.slice none 0 0))⟩]
  else bif decide (w > 132) then K (.tup [.agg [iv 0,iv 0,DV.v (Value.slice none 0 0)],iv 2]) [some ⟨3,.upd (.upd (.upd (.lst [[iv 0,iv 0,DV.v (Value.slice none 0 0)]]) 0 0 (iv 0)) 0 1 (iv 0)) 0 2 (DV.v (Value.slice none 0 0))⟩]
  else bif decide (h<1) then K (.tup [.agg [iv 0,iv 0,DV.v (Value.slice none 0 0)],iv 2]) [some ⟨3,.upd (.upd (.upd (.lst [[iv 0,iv 0,DV.v (Value.slice none 0 0)]]) 0 0 (iv 0)) 0 1 (iv 0)) 0 2 (DV.v (Value.slice none 0 0))⟩]
  else bif decide (h > 60) then K (.tup [.agg [iv 0,iv 0,DV.v (Value.slice none 0 0)],iv 2]) [some ⟨3,.upd (.upd (.upd (.lst [[iv 0,iv 0,DV.v (Value.slice none 0 0)]]) 0 0 (iv 0)) 0 1 (iv 0)) 0 2 (DV.v (Value.slice none 0 0))⟩]
  else bif holds ((Nat.le 0 (Int.toNat h)/\Int.NonNeg (w-1)/\Int.NonNeg (30-w)/\Nat.le (Int.toNat h) 60/\Nat.le 1 (Int.toNat h))/\∃ ids,WkP 4 ids [.po 0 0 0,.fn (Fn.func 153) [] [.po 1 0 0,.po 2 0 0],.po 3 0 0,iv h,iv 0] [some ⟨3,.lst [[iv 0,iv 0,DV.v (Value.slice none 0 0)]]⟩,some ⟨1,.lst [[iv w]]⟩,some ⟨3,.lst [[iv (-1:Int),iv (-1:Int),iv 0]]⟩,some ⟨3,.upd (.upd (.upd (.lst [[iv 0,iv 0,DV.v (Value.slice none 0 0)]]) 0 0 (iv w)) 0 1 (iv h)) 0 2 (DV.v (Value.slice none 0 0))⟩] [.po 0 0 0,.fn (Fn.func 153) [] [.po 1 0 0,.po 2 0 0],.po 3 0 0,iv (↑(Int.toNat h):Int),iv 0] [some ⟨3,.lst [[iv 0,iv 0,DV.v (Value.slice none 0 0)]]⟩,some ⟨1,.lst [[iv w]]⟩,some ⟨3,.lst [[iv (-1:Int),iv (-1:Int),iv 0]]⟩,some ⟨3,.lst [[iv w,iv (↑(Int.toNat h):Int),DV.v (Value.slice none 0 0)]]⟩,none])
  then K (.tup [.agg [iv w,iv (↑(Int.toNat h):Int),.os 4 0 (Int.toNat h)],iv 0]) [some ⟨3,.upd (.upd (.upd (.lst [[iv 0,iv 0,DV.v (Value.slice none 0 0)]]) 0 0 (iv w)) 0 1 (iv (↑(Int.toNat h):Int))) 0 2 (.os 4 0 (Int.toNat h))⟩,some ⟨1,.lst [[iv w]]⟩,some ⟨3,.lst [[iv (-1:Int),iv (-1:Int),iv 0]]⟩,some ⟨3,.lst [[iv w,iv (↑(Int.toNat h):Int),.os 4 0 (Int.toNat h)]]⟩,some ⟨1,.tab (Int.toNat h) fun a _=>DV.sl false (blkB w) 5 (Int.toNat w)⟩]
  else none:=by
 kernel_rfl
theorem SubLZ.tup {r:Nat->Option Nat}{zs:Nat->Option DBlk}{ds2 ds:List DV}(h:SubLZ r zs ds2 ds):SubZ r zs (.tup ds2) (.tup ds):=fun C μ x hF hx=>by
 cases hx with
 | tup _ vs h1 h2 =>
  have:=h.drl (C:=C) (μ:=μ) hF (xs:=vs.toList) ⟨by simpa using h1,fun i d x hd hx=>h2 i d x hd (by simpa using hx)⟩
  exact .tup _ _ (by simpa using this.1) fun i d x hd hx=>this.2 i d x hd (by simpa using hx)
def szF2 (w h:Int):Bool:=bif decide (w<1) then true else bif decide (w > 132) then true else bif decide (h<1) then true else decide (h > 60)
def gridZ:DV:=.agg [iv 0,iv 0,nilS]
noncomputable def grC (S:Int->Int->Bool) (R:Int->Nat->Nat->DV):ConF:=fun args k=>match args with
 | [.v (.int .i64 w),.v (.int .i64 h)]=>bif decide (w<=30) then (bif S w h then k (fun _=>(.tup [gridZ,iv 2],[])) else k (fun _=>(.tup [.agg [iv w,iv h,.sl false (R w) 1 h.toNat],iv 0],[]))) else none
 | _=>none
theorem fz_flat {d:DV}{σ:DHeap}(h:Clo d):fzq d d σ=some ():=fzq_of ⟨[],(Sub.of_clo h).z,fun j hj=>nomatch hj⟩
theorem gz_clo (n:Int):Clo (.tup [gridZ,iv n])/\Low (.tup [gridZ,iv n]):=by
 constructor
 ·exact Clo.tup (fun d hd=>by
   simp only [List.mem_cons,List.not_mem_nil,or_false] at hd
   rcases hd with rfl | rfl
   ·exact Clo.agg (lst3 (.v _) (.v _) (.v _))
   ·exact .v _)
 ·exact Low.tup (fun d hd=>by
   simp only [List.mem_cons,List.not_mem_nil,or_false] at hd
   rcases hd with rfl | rfl
   ·exact Low.agg (fun d hd=>by
     simp only [List.mem_cons,List.not_mem_nil,or_false] at hd
     rcases hd with rfl | rfl | rfl<;>exact .v _)
   ·exact .v _)
theorem gz0_kb:KB gz0:=.lst (lst3 (.v _) (.v _) (.v _)) (Nat.le_refl _)
theorem rwD_clo (w:Int) (i f:Nat):Clo (rwD w i f):=.sl _ _ _ _
theorem rwD_low (w:Int) (i f:Nat):Low (rwD w i f):=.sl fun _ _ _ _=>row_low _ _ _
theorem szF2_false {w h:Int}(e:szF2 w h=false):1<=w/\w<=132/\1<=h/\h<=60:=by
 unfold szF2 at e
 by_cases h1:w<1
 ·simp [h1] at e
 by_cases h2:w > 132
 ·simp [h1,h2] at e
 by_cases h3:h<1
 ·simp [h1,h2,h3] at e
 by_cases h4:h > 60
 ·simp [h1,h2,h3,h4] at e
 omega
theorem szF2_true {w h:Int}(e:szF2 w h=true) (h1:¬ w<1) (h2:¬ w > 132) (h3:¬ h<1) (h4:¬ h > 60):False:=by
 unfold szF2 at e;simp [h1,h2,h3,h4] at e
theorem grC_ok {st:AE.Stat}(hx:Hx st) (hk:∀ a σ,st.ext 157 a σ=RL.app σ (blkX a σ.length)):ConOkZ true Tryz.prog st 47 (grC szF2 rwD):=by
 refine con_frz (E:=envH Tryz.prog gl0 blH [(67,szN),(94,sdC)] (lpOf [(250,(gnI gz0).g)]) 0 [] true) rfl (glOk st) (envH_ok (fun e h=>?_) fun x h=>?_) Tryz.func47 (by kernel_rfl) (by kernel_rfl) (hx 47 rfl)
  (lp_in (c0:=.loop (loopAt Tryz.f47 250)) (by kernel_rfl) (gn_ls hx hk gz0 gz0_kb)) fun args k hk=>?_
 ·simp only [blH,List.mem_cons,List.not_mem_nil,or_false] at h;subst h
  exact ⟨Tryz.func93,by kernel_rfl,by kernel_rfl,hx 93 rfl,tblD_env (fun _ h=>nomatch h),glOk st,(fun _ _ _ h=>nomatch h),rfl⟩
 ·simp only [List.mem_cons,List.not_mem_nil,or_false] at h
  rcases h with rfl | rfl
  ·exact (szN_ok hx).z
  ·exact (sdC_ok hx).z
 unfold grC at hk
 split at hk<;>first | (cases hk; done) | skip
 rename_i w h;obtain ⟨hw,hk⟩:=dec_none hk
 cases hS:szF2 w h with
 | true =>
  rw [hS,cond_true] at hk;refine ⟨[iv w,iv h],_,.self (.self .nil),(gz_clo 2).2,hk,(gr_tree w h _).trans ?_⟩
  exact dS (fun _=>fz_flat (gz_clo 2).1) fun h1=>dS (fun _=>fz_flat (gz_clo 2).1) fun h2=>dS (fun _=>fz_flat (gz_clo 2).1) fun h3=>dS (fun _=>fz_flat (gz_clo 2).1) fun h4=>(szF2_true hS h1 h2 h3 h4).elim
 | false =>
  rw [hS,cond_false] at hk;obtain ⟨h1,h2,h3,h4⟩:=szF2_false hS;refine ⟨[iv w,iv h],_,.self (.self .nil),?_,hk,(gr_tree w h _).trans ?_⟩
  ·exact Low.tup (fun d hd=>by
    simp only [List.mem_cons,List.not_mem_nil,or_false] at hd
    rcases hd with rfl | rfl
    ·exact Low.agg (fun d hd=>by
      simp only [List.mem_cons,List.not_mem_nil,or_false] at hd
      rcases hd with rfl | rfl | rfl
      ·exact .v _
      ·exact .v _
      ·exact .sl fun i f _ _=>rwD_low w i f)
    ·exact .v _)
  ·obtain ⟨n,rfl⟩:∃ n:Nat,h=n:=⟨h.toNat,by omega⟩
   refine dF (by omega) (dF (by omega) (dF (by omega) (dF (by omega) (hT ⟨⟨Nat.zero_le _,h1,hw,by show (n:Int).toNat<=60; omega,by show 1<=(n:Int).toNat; omega⟩,[4],?_⟩ ?_))))
   ·simp only [Int.toNat_natCast]
    refine .of (im:=[some 0,some 1,some 2,some 3]) (tm_gn rfl) rfl
     ⟨⟨0,_,rfl,rfl,gz0_kb.sub⟩,⟨1,_,rfl,rfl,(KB.lst (lst1 (.v _)) (Nat.le_refl _)).sub⟩,⟨2,_,rfl,rfl,(KB.lst (lst3 (.v _) (.v _) (.v _)) (Nat.le_refl _)).sub⟩,⟨3,_,rfl,rfl,rfl,Nat.le_refl _,trivial,fun i f hi hf=>?_⟩,trivial⟩ rfl (by decide)
    have hi:i<1:=hi
    obtain rfl:i=0:=by omega
    have hf:f<3:=hf
    match f,hf with
    | 0,_=>exact .v _
    | 1,_=>exact .v _
    | 2,_=>exact .v _
   ·simp only [Int.toNat_natCast]
    refine fzq_of ⟨[4],SubLZ.tup (.cons (SubLZ.agg (.cons (Sub.v _).z (.cons (Sub.v _).z (.cons (SubZ.fz0 (c:=.tab n (rwD w)) rfl (Nat.le_refl _) fun _ _=>rfl) .nil)))) (.cons (Sub.v _).z .nil)),fun j hj blk hb i f _ _=>?_⟩
    obtain rfl:j=4:=by simpa using hj
    obtain rfl:(⟨1,.tab n (rwD w)⟩:DBlk)=blk:=Option.some.inj (Option.some.inj hb);exact rwD_clo w i f
end Go.Proofs.YtigmkgampfbflaaGreatDoor
namespace Go.Proofs.YtigmkgampfbflaaGreatDoor
open Go Go.AE Go.DE Go.RowKit
theorem tn_loop (n i:Nat) (z:Nat->Bool) (K:Ex->Nat->List DV->List DV->DHeap->Option Unit):execD Tryz.prog (env [] noLp 0) (loopAt Tryz.f50 58) 500 (temps 22 [3,10,11] [.os 0 0 n,iv n,iv i]) [some ⟨1,.tab n (tabsD z)⟩] (fun e τ σ=>K e τ.length (pick [3,10,11] τ) (pick [3] τ) σ) =
  bif decide ((i:Int)<(n:Int)) then bif decide ((i:Int)<(n:Int)) then bif decide (0+Int.toNat (i:Int)+0<DC.n (.tab n (tabsD z))) then K .normal 22 [.os 0 0 n,iv (n:Int),iv (IntKind.wrap .i64 ((i:Int)+1))] [.os 0 0 n] [some ⟨1,.upd (.tab n (tabsD z)) (0+Int.toNat (i:Int)+0) 0 (bv (Int.tmod (i:Int) (8:Int)==0))⟩]
  else none else none else K (.exit 0) 22 [.os 0 0 n,iv (n:Int),iv (i:Int)] [.os 0 0 n] [some ⟨1,.tab n (tabsD z)⟩]:=by
 kernel_rfl
def tab8 (i:Nat):Bool:=Int.tmod (i:Int) 8==0
def upT (i j:Nat):Bool:=if j<i then tab8 j else false
structure TNX where
 n:Nat
 i:Nat
noncomputable def tnI:LInv TNX where
 pre x:=x.i<=x.n/\x.n<=1000
 m:=1
 n:=22
 ps:=[3,10,11]
 sd x:=[.os 0 0 x.n,iv x.n,iv x.i]
 sh x:=[some ⟨1,.tab x.n (tabsD (upT x.i))⟩]
 meas x:=x.n-x.i
 e _:=.exit 0
 qs:=[3]
 od x:=[.os 0 0 x.n]
 oh x:=[some ⟨1,.tab x.n (tabsD (upT x.n))⟩]
 guess ds _:=match ds with
  | [.os 0 0 n,_,_]=>some ⟨n,0⟩
  | _=>none
 cps x k:=k (.exit 0) [.os 0 0 x.n] [some ⟨1,.tab x.n (tabsD (upT x.n))⟩]
theorem tn_ls {st:AE.Stat}:LoopS Tryz.prog st gl0 (.loop (loopAt Tryz.f50 58)) tnI.g:=by
 refine tnI.ok (E:=env [] noLp 0) (p:=500) (tblD_env (l:=[]) fun x h=>nomatch h) (glOk st).1 (fun _ _ _ h=>nomatch h) (fun x k h=>h) fun x hx2=>?_
 obtain ⟨n,i⟩:=x;obtain ⟨hi,hn⟩:i<=n/\n<=1000:=hx2;refine (tn_loop n i (upT i) _).trans ?_
 refine dS (fun hlt=>?_) fun hge=>?_
 ·have hlt:i<n:=by omega
  have e0:0+Int.toNat (i:Int)+0=i:=by simp
  rw [e0]
  refine dT (by omega) (dT hlt (LInv.ask_of ⟨rfl,⟨n,i+1⟩,⟨rfl,rfl,rfl,hlt,hn⟩,by simp only [tnI]; omega,[],.of (im:=[some 0]) (.cons (.os rfl) (.cons (.v _) (.cons (by rw [W_in (by omega) (by omega)]; exact .v _) .nil))) rfl ⟨⟨0,_,rfl,rfl,rfl,Nat.le_refl _,trivial,fun j f hj hf=>?_⟩,trivial⟩ rfl (by decide)⟩))
  have hf:f<1:=hf
  obtain rfl:f=0:=by omega
  show Sub _ (bv (upT (i+1) j)) (if j=i/\0=0 then bv (tab8 i) else bv (upT i j))
  by_cases hji:j=i
  ·subst hji;rw [if_pos ⟨rfl,rfl⟩];unfold upT
   rw [if_pos (by omega)]
   exact .v _
  ·rw [if_neg (fun h=>hji h.1)]
   have:upT (i+1) j=upT i j:=by
    unfold upT
    by_cases h:j<i
    ·rw [if_pos h,if_pos (by omega)]
    ·rw [if_neg h,if_neg (by omega)]
   rw [this];exact .v _
 ·obtain rfl:n=i:=by omega
  exact LInv.ask_of ⟨rfl,rfl,[],.of (im:=[some 0]) (.cons (.os rfl) .nil) rfl ⟨⟨0,_,rfl,rfl,rfl,Nat.le_refl _,trivial,fun j f hj hf=>.v _⟩,trivial⟩ rfl (by decide)⟩
theorem tnb_tree (w:Int) (K:DV->DHeap->Option Unit):bodyD Tryz.prog (env [] (lpOf [(58,tnI.g)]) 0) Tryz.f50 [iv w] [] (fun d σ=>K d σ) =
  bif decide (0<=if (if 1000<w then 1000 else w) > 0 then if 1000<w then 1000 else w else 0) then bif decide ((if (if 1000<w then 1000 else w) > 0 then if 1000<w then 1000 else w else 0)<=if (if 1000<w
  then 1000 else w) > 0 then if 1000<w then 1000 else w else 0) then bif decide (Int.toNat (if (if 1000<w then 1000 else w) > 0 then if 1000<w then 1000 else w else 0)<9223372036854775808) then
  bif decide (1*Int.toNat (if (if 1000<w then 1000 else w) > 0 then if 1000<w then 1000 else w else 0)<=281474976710656) then bif holds ((Nat.le 0 (Int.toNat (if (if 1000<w then 1000 else w) > 0
  then if 1000<w then 1000 else w else 0))/\Nat.le (Int.toNat (if (if 1000<w then 1000 else w) > 0 then if 1000<w then 1000 else w else 0)) 1000)/\∃ ids,WkP 1 ids [.os 0 0 (Int.toNat (if (if 1000<w
  then 1000 else w) > 0 then if 1000<w then 1000 else w else 0)),iv (↑(Int.toNat (if (if 1000<w then 1000 else w) > 0 then if 1000<w then 1000 else w else 0)):Int),iv 0] [some ⟨1,.tab (Int.toNat (if (if 1000<w
  then 1000 else w) > 0 then if 1000<w then 1000 else w else 0)) fun a _=>bv false⟩] [.os 0 0 (Int.toNat (if (if 1000<w then 1000 else w) > 0 then if 1000<w then 1000 else w else 0)),iv (↑(Int.toNat (if (if 1000<w
  then 1000 else w) > 0 then if 1000<w then 1000 else w else 0)):Int),iv 0] [some ⟨1,.tab (Int.toNat (if (if 1000<w then 1000 else w) > 0 then if 1000<w then 1000 else w else 0)) (tabsD (upT 0))⟩])
  then K (.os 0 0 (Int.toNat (if (if 1000<w then 1000 else w) > 0 then if 1000<w then 1000 else w else 0))) [some ⟨1,.tab (Int.toNat (if (if 1000<w then 1000 else w) > 0 then if 1000<w then 1000
  else w else 0)) (tabsD (upT (Int.toNat (if (if 1000<w then 1000 else w) > 0 then if 1000<w then 1000 else w else 0))))⟩] else none else none else none else none else none:=by
 kernel_rfl
noncomputable def tnC (T:Nat->Bool):ConF:=fun args k=>match args with
 | [.v (.int .i64 w)]=>bif decide (1<=w)&&decide (w<=1000) then k (fun b=>(.os b 0 w.toNat,[some ⟨1,.tab w.toNat (tabsD T)⟩])) else none
 | _=>none
theorem lowR_tbs {b n:Nat}{T:Nat->Bool}:LowR (.os b 0 n,[some ⟨1,.tab n (tabsD T)⟩]):=⟨.os _ _ _,fun id blk hb i f _ _=>by
 cases id with
 | succ id=>simp at hb
 | zero =>
  obtain rfl:(⟨1,.tab n (tabsD T)⟩:DBlk)=blk:=Option.some.inj (Option.some.inj hb);exact .v _⟩
theorem tnC_ok {st:AE.Stat}(hx:Hx st):ConOk Tryz.prog st 50 (tnC tab8):=by
 refine con_of (mg:=[]) (l:=[]) (lp:=lpOf [(58,tnI.g)]) (n:=0) (glOk st) (fun _ h=>nomatch h) Tryz.func50 (by kernel_rfl) (by kernel_rfl) (hx 50 rfl) (lp_one (by kernel_rfl) tn_ls) fun args k hk=>?_
 unfold tnC at hk
 split at hk<;>first | (cases hk; done) | skip
 rename_i w;obtain ⟨hb,hk⟩:=bif_none hk;obtain ⟨h1,h2⟩:=and_dec hb
 obtain ⟨n,rfl⟩:∃ n:Nat,w=n:=⟨w.toNat,by omega⟩
 refine ⟨[iv n],_,.self .nil,hk,fun b=>⟨lowR_tbs,(tnb_tree n _).trans ?_⟩⟩
 have e1:(if (1000:Int)<(n:Int) then (1000:Int) else (n:Int))=(n:Int):=if_neg (by omega)
 have e2:(if (n:Int) > (0:Int) then (n:Int) else (0:Int))=(n:Int):=if_pos (by omega)
 simp only [e1,e2,Int.toNat_natCast]
 refine dT (by omega) (dT (by omega) (dT (by omega) (dT (by omega) (hT ⟨⟨Nat.zero_le _,by show n<=1000; omega⟩,[],.of (im:=[some 0]) (.cons (.os rfl) (.cons (.v _) (.cons (.v _) .nil))) rfl ⟨⟨0,_,rfl,rfl,rfl,Nat.le_refl _,trivial,fun j f hj hf=>?_⟩,trivial⟩ rfl (by decide)⟩ (fin_of ?_)))))
 ·have hf:f<1:=hf
  obtain rfl:f=0:=by omega
  exact .v _
 ·refine finQ_own (id:=0) (blk:=⟨1,.tab n (tabsD (upT n))⟩) rfl rfl rfl (Nat.le_refl _) trivial fun i f hi hf=>⟨.v _,?_⟩
  have hi:i<n:=hi;show bv (upT n i)=bv (tab8 i);unfold upT;rw [if_pos hi]
theorem tr_tree (T:Nat->Bool) (t:Bool) (z:Nat->Bool) (m:Nat) (w:Int) (K:DV->DHeap->Option Unit):bodyD Tryz.prog (env [(50,tnC T)] noLp 0) Tryz.f57 [.sl t (tabsD z) 1 m,iv w] [] (fun d σ=>K d σ) =
  bif bif decide (1<=w) then decide (w<=1000) else false then bif decide (0+Int.toNat w<=DC.n (.tab (Int.toNat w) (tabsD T))) then K (.os 0 0 (Int.toNat w)) [some ⟨1,.tab (DC.n (.tab (Int.toNat w) (tabsD T))) fun j f=>if 0<=j/\j<0+Nat.min m (Int.toNat w)
  then bv (z (j-0)) else bv (T j)⟩] else none else none:=by
 kernel_rfl
def boolD:DV->Bool
 | .v (.bool b)=>b
 | _=>false
def tabsSo (G:Nat->Nat->DV) (n:Nat):Prop:=n<=9000000/\∀ i,i<n->G i 0=bv (boolD (G i 0))
theorem tabsSo.cv {G:Nat->Nat->DV}{n:Nat}(h:tabsSo G n) (t:Bool):Cv (.sl t G 1 n) (.sl t (tabsD fun i=>boolD (G i 0)) 1 n):=Cv.sl fun i f hi hf=>.of (by
 obtain rfl:f=0:=by omega
 exact h.2 i hi)
def rsT (z:Nat->Bool) (m:Nat) (T:Nat->Bool) (j:Nat):Bool:=if j<m then z j else T j
noncomputable def trC (Q:(Nat->Nat->DV)->Nat->Prop) (T:Nat->Bool):ConF:=fun args k=>match args with
 | [.sl _ g 1 m,.v (.int .i64 w)]=>bif holds (Q g m) then (bif decide (1<=w)&&decide (w<=1000) then k (fun b=>(.os b 0 w.toNat,[some ⟨1,.tab w.toNat (tabsD (rsT (fun i=>boolD (g i 0)) m T))⟩])) else none) else none
 | _=>none
theorem trC_ok {st:AE.Stat}(hx:Hx st):ConOk Tryz.prog st 57 (trC tabsSo tab8):=by
 refine con_of (mg:=[]) (l:=[(50,tnC tab8)]) (lp:=noLp) (n:=0) (glOk st) (fun x h=>?_) Tryz.func57 (by kernel_rfl) (by kernel_rfl) (hx 57 rfl) (fun _ _ _ h=>nomatch h) fun args k hk=>?_
 ·simp only [List.mem_cons,List.not_mem_nil,or_false] at h;subst h;exact tnC_ok hx
 unfold trC at hk
 split at hk<;>first | (cases hk; done) | skip
 rename_i t g m w;obtain ⟨hq,hk⟩:=bif_none hk;obtain ⟨hb,hk⟩:=bif_none hk;obtain ⟨h1,h2⟩:=and_dec hb;have hq:=holds_eq.1 hq
 obtain ⟨n,rfl⟩:∃ n:Nat,w=n:=⟨w.toNat,by omega⟩
 refine ⟨[.sl t (tabsD fun i=>boolD (g i 0)) 1 m,iv n],_,.cons (hq.cv t) (.self .nil),hk,fun b=>⟨lowR_tbs,(tr_tree tab8 t _ m n _).trans ?_⟩⟩
 simp only [Int.toNat_natCast]
 refine dT2 (by omega) (by omega) (dT (by show 0+n<=n; omega) (fin_of ?_))
 refine finQ_own (id:=0) (blk:=⟨1,.tab n fun j f=>if (0:Nat)<=j/\j<(0:Nat)+Nat.min m n then DV.v (Value.bool (boolD (g (j-0) 0))) else DV.v (Value.bool (tab8 j))⟩) rfl rfl rfl (Nat.le_refl _) trivial fun i f hi hf=>⟨.v _,?_⟩
 have hi:i<n:=hi
 show (if (0:Nat)<=i/\i<(0:Nat)+Nat.min m n then DV.v (Value.bool (boolD (g (i-0) 0))) else DV.v (Value.bool (tab8 i)))=bv (if i<m then boolD (g i 0) else tab8 i)
 by_cases h:i<m
 ·rw [if_pos ⟨Nat.zero_le _,by rw [Nat.zero_add]; exact Nat.lt_min.2 ⟨h,hi⟩⟩,if_pos h]
  rfl
 ·rw [if_neg (fun x=>h (Nat.lt_of_lt_of_le (by rw [Nat.zero_add] at x; exact x.2) (Nat.min_le_left _ _))),if_neg h]
noncomputable abbrev lmN:ConF:=inl2 Tryz.prog (env [] noLp 0) Tryz.f102
theorem lmN_ok {st:AE.Stat}(hx:Hx st):ConOk Tryz.prog st 102 lmN:=inl2_ok Tryz.func102 (by kernel_rfl) (by kernel_rfl) (hx 102 rfl) (glOk st) (tblD_env (l:=[]) fun _ h=>nomatch h) (fun _ _ _ h=>nomatch h)
theorem t60_loop (t:Bool) (z:Nat->Bool) (m:Nat) (w:Int) (i:Nat) (K:Ex->Nat->List DV->List DV->DHeap->Option Unit):execD Tryz.prog (env [(102,lmN)] noLp 0) (loopAt Tryz.f60 58) 500 (temps 32 [0,1,5,6] [.sl t (tabsD z) 1 m,iv w,.os 0 0 0,iv i]) [some ⟨1,.lst []⟩,none] (fun e τ σ=>K e τ.length (pick [0,1,5,6] τ) (pick [5] τ) σ) =
  bif decide (w<0) then K (.exit 0) 32 [.sl t (tabsD z) 1 m,iv w,.os 0 0 0,iv (i:Int)] [.os 0 0 0] [some ⟨1,.lst []⟩,none] else bif decide (w > 1000) then bif decide ((i:Int)<1000) then
  bif decide ((i:Int)<(m:Int)) then bif decide ((i:Int)<(m:Int)) then bif decide (Int.toNat (i:Int)+0<m) then K .normal 32 [.sl t (tabsD z) 1 m,iv w,.os 3 0 1,iv (IntKind.wrap .i64 ((i:Int)+1))] [.os 3 0 1] [none,none,some ⟨1,.lst [[bv (z (Int.toNat (i:Int)+0))]]⟩,some ⟨1,.lst [[bv (z (Int.toNat (i:Int)+0))]]⟩]
  else none else none else K .normal 32 [.sl t (tabsD z) 1 m,iv w,.os 3 0 1,iv (IntKind.wrap .i64 ((i:Int)+1))] [.os 3 0 1] [none,none,some ⟨1,.lst [[bv (Int.tmod (i:Int) (8:Int)==0)]]⟩,some ⟨1,.lst [[bv (Int.tmod (i:Int) (8:Int)==0)]]⟩]
  else K (.exit 0) 32 [.sl t (tabsD z) 1 m,iv w,.os 0 0 0,iv (i:Int)] [.os 0 0 0] [some ⟨1,.lst []⟩,none] else bif decide ((i:Int)<w) then bif decide ((i:Int)<(m:Int)) then bif decide ((i:Int)<(m:Int))
  then bif decide (Int.toNat (i:Int)+0<m) then K .normal 32 [.sl t (tabsD z) 1 m,iv w,.os 3 0 1,iv (IntKind.wrap .i64 ((i:Int)+1))] [.os 3 0 1] [none,none,some ⟨1,.lst [[bv (z (Int.toNat (i:Int)+0))]]⟩,some ⟨1,.lst [[bv (z (Int.toNat (i:Int)+0))]]⟩]
  else none else none else K .normal 32 [.sl t (tabsD z) 1 m,iv w,.os 3 0 1,iv (IntKind.wrap .i64 ((i:Int)+1))] [.os 3 0 1] [none,none,some ⟨1,.lst [[bv (Int.tmod (i:Int) (8:Int)==0)]]⟩,some ⟨1,.lst [[bv (Int.tmod (i:Int) (8:Int)==0)]]⟩]
  else K (.exit 0) 32 [.sl t (tabsD z) 1 m,iv w,.os 0 0 0,iv (i:Int)] [.os 0 0 0] [some ⟨1,.lst []⟩,none]:=by
 kernel_rfl
theorem t61_loop (t:Bool) (z:Nat->Bool) (m:Nat) (w:Int) (n i:Nat) (y:Nat->Bool) (K:Ex->Nat->List DV->List DV->DHeap->Option Unit):execD Tryz.prog (env [(102,lmN)] noLp 0) (loopAt Tryz.f60 58) 500 (temps 32 [0,1,5,6] [.sl t (tabsD z) 1 m,iv w,.os 1 0 n,iv i]) [none,some ⟨1,.tab n (tabsD y)⟩] (fun e τ σ=>K e τ.length (pick [0,1,5,6] τ) (pick [5] τ) σ) =
  bif decide (w<0) then K (.exit 0) 32 [.sl t (tabsD z) 1 m,iv w,.os 1 0 n,iv (i:Int)] [.os 1 0 n] [none,some ⟨1,.tab n (tabsD y)⟩] else bif decide (w > 1000) then bif decide ((i:Int)<1000)
  then bif decide ((i:Int)<(m:Int)) then bif decide ((i:Int)<(m:Int)) then bif decide (Int.toNat (i:Int)+0<m) then bif decide (n<=DC.n (.tab n (tabsD y))) then bif decide ((n+1)*(1:Nat)<=140737488355328)
  then K .normal 32 [.sl t (tabsD z) 1 m,iv w,.os 3 0 (n+1),iv (IntKind.wrap .i64 ((i:Int)+1))] [.os 3 0 (n+1)] [none,none,some ⟨1,.lst [[bv (z (Int.toNat (i:Int)+0))]]⟩,some ⟨1,.app (.pre (.tab n (tabsD y)) n) (.lst [[bv (z (Int.toNat (i:Int)+0))]])⟩]
  else none else none else none else none else bif decide (n<=DC.n (.tab n (tabsD y))) then bif decide ((n+1)*(1:Nat)<=140737488355328) then K .normal 32 [.sl t (tabsD z) 1 m,iv w,.os 3 0 (n+1),iv (IntKind.wrap .i64 ((i:Int)+1))] [.os 3 0 (n+1)] [none,none,some ⟨1,.lst [[bv (Int.tmod (i:Int) (8:Int)==0)]]⟩,some ⟨1,.app (.pre (.tab n (tabsD y)) n) (.lst [[bv (Int.tmod (i:Int) (8:Int)==0)]])⟩]
  else none else none else K (.exit 0) 32 [.sl t (tabsD z) 1 m,iv w,.os 1 0 n,iv (i:Int)] [.os 1 0 n] [none,some ⟨1,.tab n (tabsD y)⟩] else bif decide ((i:Int)<w) then bif decide ((i:Int)<(m:Int))
  then bif decide ((i:Int)<(m:Int)) then bif decide (Int.toNat (i:Int)+0<m) then bif decide (n<=DC.n (.tab n (tabsD y))) then bif decide ((n+1)*(1:Nat)<=140737488355328) then K .normal 32 [.sl t (tabsD z) 1 m,iv w,.os 3 0 (n+1),iv (IntKind.wrap .i64 ((i:Int)+1))] [.os 3 0 (n+1)] [none,none,some ⟨1,.lst [[bv (z (Int.toNat (i:Int)+0))]]⟩,some ⟨1,.app (.pre (.tab n (tabsD y)) n) (.lst [[bv (z (Int.toNat (i:Int)+0))]])⟩]
  else none else none else none else none else bif decide (n<=DC.n (.tab n (tabsD y))) then bif decide ((n+1)*(1:Nat)<=140737488355328) then K .normal 32 [.sl t (tabsD z) 1 m,iv w,.os 3 0 (n+1),iv (IntKind.wrap .i64 ((i:Int)+1))] [.os 3 0 (n+1)] [none,none,some ⟨1,.lst [[bv (Int.tmod (i:Int) (8:Int)==0)]]⟩,some ⟨1,.app (.pre (.tab n (tabsD y)) n) (.lst [[bv (Int.tmod (i:Int) (8:Int)==0)]])⟩]
  else none else none else K (.exit 0) 32 [.sl t (tabsD z) 1 m,iv w,.os 1 0 n,iv (i:Int)] [.os 1 0 n] [none,some ⟨1,.tab n (tabsD y)⟩]:=by
 kernel_rfl
theorem t62_loop (w:Int) (i:Nat) (K:Ex->Nat->List DV->List DV->DHeap->Option Unit):execD Tryz.prog (env [(102,lmN)] noLp 0) (loopAt Tryz.f60 58) 500 (temps 32 [0,1,5,6] [.v (.slice none 0 0),iv w,.os 0 0 0,iv i]) [some ⟨1,.lst []⟩,none] (fun e τ σ=>K e τ.length (pick [0,1,5,6] τ) (pick [5] τ) σ) =
  bif decide (w<0) then K (.exit 0) 32 [DV.v (Value.slice none 0 0),iv w,.os 0 0 0,iv (i:Int)] [.os 0 0 0] [some ⟨1,.lst []⟩,none] else bif decide (w > 1000) then bif decide ((i:Int)<1000)
  then K .normal 32 [DV.v (Value.slice none 0 0),iv w,.os 3 0 1,iv (IntKind.wrap .i64 ((i:Int)+1))] [.os 3 0 1] [none,none,some ⟨1,.lst [[bv (Int.tmod (i:Int) (8:Int)==0)]]⟩,some ⟨1,.lst [[bv (Int.tmod (i:Int) (8:Int)==0)]]⟩]
  else K (.exit 0) 32 [DV.v (Value.slice none 0 0),iv w,.os 0 0 0,iv (i:Int)] [.os 0 0 0] [some ⟨1,.lst []⟩,none] else bif decide ((i:Int)<w) then K .normal 32 [DV.v (Value.slice none 0 0),iv w,.os 3 0 1,iv (IntKind.wrap .i64 ((i:Int)+1))] [.os 3 0 1] [none,none,some ⟨1,.lst [[bv (Int.tmod (i:Int) (8:Int)==0)]]⟩,some ⟨1,.lst [[bv (Int.tmod (i:Int) (8:Int)==0)]]⟩]
  else K (.exit 0) 32 [DV.v (Value.slice none 0 0),iv w,.os 0 0 0,iv (i:Int)] [.os 0 0 0] [some ⟨1,.lst []⟩,none]:=by
 kernel_rfl
theorem t63_loop (w:Int) (n i:Nat) (y:Nat->Bool) (K:Ex->Nat->List DV->List DV->DHeap->Option Unit):execD Tryz.prog (env [(102,lmN)] noLp 0) (loopAt Tryz.f60 58) 500 (temps 32 [0,1,5,6] [.v (.slice none 0 0),iv w,.os 1 0 n,iv i]) [none,some ⟨1,.tab n (tabsD y)⟩] (fun e τ σ=>K e τ.length (pick [0,1,5,6] τ) (pick [5] τ) σ) =
  bif decide (w<0) then K (.exit 0) 32 [DV.v (Value.slice none 0 0),iv w,.os 1 0 n,iv (i:Int)] [.os 1 0 n] [none,some ⟨1,.tab n (tabsD y)⟩] else bif decide (w > 1000) then bif decide ((i:Int)<1000)
  then bif decide (n<=DC.n (.tab n (tabsD y))) then bif decide ((n+1)*(1:Nat)<=140737488355328) then K .normal 32 [DV.v (Value.slice none 0 0),iv w,.os 3 0 (n+1),iv (IntKind.wrap .i64 ((i:Int)+1))] [.os 3 0 (n+1)] [none,none,some ⟨1,.lst [[bv (Int.tmod (i:Int) (8:Int)==0)]]⟩,some ⟨1,.app (.pre (.tab n (tabsD y)) n) (.lst [[bv (Int.tmod (i:Int) (8:Int)==0)]])⟩]
  else none else none else K (.exit 0) 32 [DV.v (Value.slice none 0 0),iv w,.os 1 0 n,iv (i:Int)] [.os 1 0 n] [none,some ⟨1,.tab n (tabsD y)⟩] else bif decide ((i:Int)<w) then bif decide (n<=DC.n (.tab n (tabsD y)))
  then bif decide ((n+1)*(1:Nat)<=140737488355328) then K .normal 32 [DV.v (Value.slice none 0 0),iv w,.os 3 0 (n+1),iv (IntKind.wrap .i64 ((i:Int)+1))] [.os 3 0 (n+1)] [none,none,some ⟨1,.lst [[bv (Int.tmod (i:Int) (8:Int)==0)]]⟩,some ⟨1,.app (.pre (.tab n (tabsD y)) n) (.lst [[bv (Int.tmod (i:Int) (8:Int)==0)]])⟩]
  else none else none else K (.exit 0) 32 [DV.v (Value.slice none 0 0),iv w,.os 1 0 n,iv (i:Int)] [.os 1 0 n] [none,some ⟨1,.tab n (tabsD y)⟩]:=by
 kernel_rfl
inductive T6S where
 | no
 | sl (t:Bool) (z:Nat->Bool) (m:Nat)
def T6S.d:T6S->DV
 | .no=>.v (.slice none 0 0)
 | .sl t z m=>.sl t (tabsD z) 1 m
def T6S.out:T6S->Nat->Bool
 | .no=>tab8
 | .sl _ z m=>rsT z m tab8
structure T6X where
 s:T6S
 w:Nat
 i:Nat
def t6d:Nat->DV
 | 0=>.os 0 0 0
 | n+1=>.os 1 0 (n+1)
def t6h (y:Nat->Bool):Nat->DHeap
 | 0=>[some ⟨1,.lst []⟩,none]
 | n+1=>[none,some ⟨1,.tab (n+1) (tabsD y)⟩]
noncomputable def t6I:LInv T6X where
 pre x:=x.i<=x.w/\1<=x.w/\x.w<=1000
 m:=1
 n:=32
 ps:=[0,1,5,6]
 sd x:=[x.s.d,iv x.w,t6d x.i,iv x.i]
 sh x:=t6h x.s.out x.i
 meas x:=x.w-x.i
 e _:=.exit 0
 qs:=[5]
 od x:=[.os 1 0 x.w]
 oh x:=[none,some ⟨1,.tab x.w (tabsD x.s.out)⟩]
 guess ds _:=match ds with
  | [.sl t g 1 m,.v (.int .i64 w),_,_]=>some ⟨.sl t (fun i=>boolD (g i 0)) m,w.toNat,0⟩
  | [.v (.slice none 0 0),.v (.int .i64 w),_,_]=>some ⟨.no,w.toNat,0⟩
  | _=>none
 cps x k:=k (.exit 0) [.os 1 0 x.w] [none,some ⟨1,.tab x.w (tabsD x.s.out)⟩]
theorem tab1_sub {r:Nat->Option Nat}{y:Nat->Bool}{b:Bool}(h:y 0=b):SubC r ⟨1,.tab 1 (tabsD y)⟩ ⟨1,.lst [[bv b]]⟩:=⟨rfl,Nat.le_refl _,trivial,fun j f hj hf=>by
 have hj:j<1:=hj;have hf:f<1:=hf
 obtain rfl:j=0:=by omega
 obtain rfl:f=0:=by omega
 subst h;exact .v _⟩
theorem tabn_sub {r:Nat->Option Nat}{y:Nat->Bool}{n:Nat}{b:Bool}(h:y n=b):SubC r ⟨1,.tab (n+1) (tabsD y)⟩ ⟨1,.app (.pre (.tab n (tabsD y)) n) (.lst [[bv b]])⟩:=⟨rfl,Nat.le_refl _,trivial,fun j f hj hf=>by
 have hj:j<n+1:=hj;have hf:f<1:=hf
 obtain rfl:f=0:=by omega
 show Sub _ (bv (y j)) (if j<n then bv (y j) else ([[bv b]].getD (j-n) []).getD 0 .any)
 by_cases hjn:j<n
 ·rw [if_pos hjn];exact .v _
 ·obtain rfl:j=n:=by omega
  rw [if_neg hjn,Nat.sub_self];subst h;exact .v _⟩
theorem tm_t6 {S:T6S}{w:Nat}{ids:List Nat}{d d2:DV}{x:Int}{i:Nat}(hd:Sub (ren 1 ids) d2 d) (hx:x=(i:Int)):SubL (ren 1 ids) [S.d,iv w,d2,iv i] [S.d,iv w,d,iv x]:=by
 subst hx;refine .cons ?_ (.cons (.v _) (.cons hd (.cons (.v _) .nil)));cases S
 ·exact .v _
 ·exact .sl _ _ _ _
theorem t6_next {S:T6S}{w i:Nat}(hlt:i+1<=w) (h1:1<=w) (h2:w<=1000) {σ:DHeap}{blk:DBlk}{e:Ex}(he:e=.normal) (h3:σ[3]?=some (some blk)) (hl:σ.length=4) (hs:SubC (ren 1 [3]) ⟨1,.tab (i+1) (tabsD S.out)⟩ blk) {od:List DV} :
  t6I.Q ⟨S,w,i⟩ e 32 [S.d,iv w,.os 3 0 (i+1),iv (IntKind.i64.wrap ((i:Int)+1))] od σ:=by
 subst he
 refine ⟨rfl,⟨S,w,i+1⟩,⟨rfl,rfl,rfl,hlt,h1,h2⟩,by simp only [t6I]; omega,[3],.of (im:=[some 3]) (tm_t6 (i:=i+1) (.os rfl) (by rw [W_in (by omega) (by omega)]; omega)) rfl ⟨⟨3,_,rfl,h3,hs⟩,trivial⟩ rfl (by decide)⟩
theorem t6_ls {st:AE.Stat}(hx:Hx st):LoopS Tryz.prog st gl0 (.loop (loopAt Tryz.f60 58)) t6I.g:=by
 refine t6I.ok (E:=env [(102,lmN)] noLp 0) (p:=500) (tblD_env (l:=[(102,lmN)]) fun x h=>?_) (glOk st).1 (fun _ _ _ h=>nomatch h) (fun x k h=>h) fun x hx2=>?_
 ·simp only [List.mem_cons,List.not_mem_nil,or_false] at h;subst h;exact lmN_ok hx
 obtain ⟨S,w,i⟩:=x;obtain ⟨hi,h1,h2⟩:i<=w/\1<=w/\w<=1000:=hx2
 cases i with
 | zero =>
  cases S with
  | no =>
   refine (t62_loop w 0 _).trans ?_
   exact dF (by omega) (dF (by omega) (dT (by omega) (LInv.ask_of (t6_next (S:=.no) h1 h1 h2 rfl rfl rfl (tab1_sub rfl)))))
  | sl t z m =>
   refine (t60_loop t z m w 0 _).trans ?_
   refine dF (by omega) (dF (by omega) (dT (by omega) (dS (fun hm=>?_) fun hm=>?_)))
   ·have hm:0<m:=by omega
    exact dT (by omega) (dT (by simpa using hm) (LInv.ask_of (t6_next (S:=.sl t z m) h1 h1 h2 rfl rfl rfl (tab1_sub (by show rsT z m tab8 0=_; unfold rsT; rw [if_pos hm]; rfl)))))
   ·have hm:¬ 0<m:=by omega
    exact LInv.ask_of (t6_next (S:=.sl t z m) h1 h1 h2 rfl rfl rfl (tab1_sub (by show rsT z m tab8 0=_; unfold rsT; rw [if_neg hm]; rfl)))
 | succ i =>
  cases S with
  | no =>
   refine (t63_loop w (i+1) (i+1) tab8 _).trans ?_
   refine dF (by omega) (dF (by omega) (dS (fun hlt=>?_) fun hge=>?_))
   ·have hlt:i+1<w:=by omega
    exact dT (Nat.le_refl _) (dT (by omega) (LInv.ask_of (t6_next (S:=.no) hlt h1 h2 rfl rfl rfl (tabn_sub rfl))))
   ·obtain rfl:w=i+1:=by omega
    exact LInv.ask_of ⟨rfl,rfl,[1],.of (im:=[some 1]) (.cons (.os rfl) .nil) rfl ⟨⟨1,_,rfl,rfl,rfl,Nat.le_refl _,trivial,fun j f hj hf=>.v _⟩,trivial⟩ rfl (by decide)⟩
  | sl t z m =>
   refine (t61_loop t z m w (i+1) (i+1) (rsT z m tab8) _).trans ?_;simp only [Int.toNat_natCast,Nat.add_zero]
   refine dF (by omega) (dF (by omega) (dS (fun hlt=>?_) fun hge=>?_))
   ·have hlt:i+1<w:=by omega
    refine dS (fun hm=>?_) fun hm=>?_
    ·have hm:i+1<m:=by omega
     exact dT (by omega) (dT hm (dT (Nat.le_refl _) (dT (by omega) (LInv.ask_of (t6_next (S:=.sl t z m) hlt h1 h2 rfl rfl rfl (tabn_sub (by show rsT z m tab8 _=_; unfold rsT; rw [if_pos hm])))))))
    ·have hm:¬ i+1<m:=by omega
     exact dT (Nat.le_refl _) (dT (by omega) (LInv.ask_of (t6_next (S:=.sl t z m) hlt h1 h2 rfl rfl rfl (tabn_sub (by show rsT z m tab8 _=_; unfold rsT; rw [if_neg hm]; rfl)))))
   ·obtain rfl:w=i+1:=by omega
    exact LInv.ask_of ⟨rfl,rfl,[1],.of (im:=[some 1]) (.cons (.os rfl) .nil) rfl ⟨⟨1,_,rfl,rfl,rfl,Nat.le_refl _,trivial,fun j f hj hf=>.v _⟩,trivial⟩ rfl (by decide)⟩
theorem t6_tree (t:Bool) (z:Nat->Bool) (m:Nat) (w:Int) (K:DV->DHeap->Option Unit):bodyD Tryz.prog (env [(102,lmN)] (lpOf [(58,t6I.g)]) 0) Tryz.f60 [.sl t (tabsD z) 1 m,iv w] [] (fun d σ=>K d σ) =
  bif holds ((Nat.le 0 (Int.toNat w)/\Nat.le 1 (Int.toNat w)/\Nat.le (Int.toNat w) 1000)/\∃ ids,WkP 1 ids [.sl t (tabsD z) 1 m,iv w,.os 0 0 0,iv 0] [some ⟨1,.lst []⟩] [.sl t (tabsD z) 1 m,iv (↑(Int.toNat w):Int),.os 0 0 0,iv 0] [some ⟨1,.lst []⟩,none])
  then K (.os 1 0 (Int.toNat w)) [none,some ⟨1,.tab (Int.toNat w) (tabsD (T6S.out (T6S.sl t (z) m)))⟩] else none:=by
 kernel_rfl
theorem t6n_tree (w:Int) (K:DV->DHeap->Option Unit):bodyD Tryz.prog (env [(102,lmN)] (lpOf [(58,t6I.g)]) 0) Tryz.f60 [.v (.slice none 0 0),iv w] [] (fun d σ=>K d σ) =
  bif holds ((Nat.le 0 (Int.toNat w)/\Nat.le 1 (Int.toNat w)/\Nat.le (Int.toNat w) 1000)/\∃ ids,WkP 1 ids [DV.v (Value.slice none 0 0),iv w,.os 0 0 0,iv 0] [some ⟨1,.lst []⟩] [DV.v (Value.slice none 0 0),iv (↑(Int.toNat w):Int),.os 0 0 0,iv 0] [some ⟨1,.lst []⟩,none])
  then K (.os 1 0 (Int.toNat w)) [none,some ⟨1,.tab (Int.toNat w) (tabsD (T6S.out T6S.no))⟩] else none:=by
 kernel_rfl
noncomputable def r6C (Q:(Nat->Nat->DV)->Nat->Prop) (T:Nat->Bool):ConF:=fun args k=>match args with
 | [.sl _ g 1 m,.v (.int .i64 w)]=>bif holds (Q g m) then (bif decide (1<=w)&&decide (w<=1000) then k (fun b=>(.os b 0 w.toNat,[some ⟨1,.tab w.toNat (tabsD (rsT (fun i=>boolD (g i 0)) m T))⟩])) else none) else none
 | [.v (.slice none 0 0),.v (.int .i64 w)]=>bif decide (1<=w)&&decide (w<=1000) then k (fun b=>(.os b 0 w.toNat,[some ⟨1,.tab w.toNat (tabsD T)⟩])) else none
 | _=>none
theorem r6C_ok {st:AE.Stat}(hx:Hx st):ConOk Tryz.prog st 60 (r6C tabsSo tab8):=by
 refine con_of (mg:=[]) (l:=[(102,lmN)]) (lp:=lpOf [(58,t6I.g)]) (n:=0) (glOk st) (fun x h=>?_) Tryz.func60 (by kernel_rfl) (by kernel_rfl) (hx 60 rfl) (lp_one (by kernel_rfl) (t6_ls hx)) fun args k hk=>?_
 ·simp only [List.mem_cons,List.not_mem_nil,or_false] at h;subst h;exact lmN_ok hx
 unfold r6C at hk
 split at hk<;>first | (cases hk; done) | skip
 ·rename_i t g m w;obtain ⟨hq,hk⟩:=bif_none hk;obtain ⟨hb,hk⟩:=bif_none hk;obtain ⟨h1,h2⟩:=and_dec hb;have hq:=holds_eq.1 hq
  obtain ⟨n,rfl⟩:∃ n:Nat,w=n:=⟨w.toNat,by omega⟩
  refine ⟨[.sl t (tabsD fun i=>boolD (g i 0)) 1 m,iv n],_,.cons (hq.cv t) (.self .nil),hk,fun b=>⟨lowR_tbs,(t6_tree t _ m n _).trans ?_⟩⟩
  simp only [Int.toNat_natCast]
  refine hT ⟨⟨Nat.zero_le _,by show 1<=n; omega,by show n<=1000; omega⟩,[0],.of (im:=[some 0]) (tm_t6 (S:=.sl t _ m) (i:=0) (.os rfl) rfl) rfl ⟨⟨0,_,rfl,rfl,rfl,Nat.le_refl _,trivial,fun j f hj hf=>absurd hj (Nat.not_lt_zero _)⟩,trivial⟩ rfl (by decide)⟩ (fin_of ?_)
  exact finQ_own (id:=1) rfl rfl rfl (Nat.le_refl _) trivial fun i f hi hf=>⟨.v _,rfl⟩
 ·rename_i w;obtain ⟨hb,hk⟩:=bif_none hk;obtain ⟨h1,h2⟩:=and_dec hb
  obtain ⟨n,rfl⟩:∃ n:Nat,w=n:=⟨w.toNat,by omega⟩
  refine ⟨[.v (.slice none 0 0),iv n],_,.self (.self .nil),hk,fun b=>⟨lowR_tbs,(t6n_tree n _).trans ?_⟩⟩
  simp only [Int.toNat_natCast]
  refine hT ⟨⟨Nat.zero_le _,by show 1<=n; omega,by show n<=1000; omega⟩,[0],.of (im:=[some 0]) (tm_t6 (S:=.no) (i:=0) (.os rfl) rfl) rfl ⟨⟨0,_,rfl,rfl,rfl,Nat.le_refl _,trivial,fun j f hj hf=>absurd hj (Nat.not_lt_zero _)⟩,trivial⟩ rfl (by decide)⟩ (fin_of ?_)
  exact finQ_own (id:=1) rfl rfl rfl (Nat.le_refl _) trivial fun i f hi hf=>⟨.v _,rfl⟩
end Go.Proofs.YtigmkgampfbflaaGreatDoor
