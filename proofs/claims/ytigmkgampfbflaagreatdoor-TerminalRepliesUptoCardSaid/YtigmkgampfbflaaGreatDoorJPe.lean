/-
 The contract of the program's UTF-8 decoder at any string: how many characters,and what is left.
 Conditions: none beyond those of the contracts.
-/
import Derived.Test.YtigmkgampfbflaaGreatDoorJPd
import Derived.Test.YtigmkgampfbflaaGreatDoorJUtf
import Derived.Test.YtigmkgampfbflaaGreatDoorJDec
import Derived.Test.YtigmkgampfbflaaGreatDoorJOwn
namespace Go.Proofs.YtigmkgampfbflaaGreatDoor
open Go Go.AE Go.DE Go.RowKit
def bgU (d e c:Int):Int:=bif decide (c >= 240) then (bif decide (c<=244) then d else e) else e
def bgS (b d e c:Int):Int:=bif decide (c >= 224) then (bif decide (c<=239) then b else bgU d e c) else bgU d e c
def bgR (a b d e c:Int):Int:=bif decide (c >= 194) then (bif decide (c<=223) then a else bgS b d e c) else bgS b d e c
def mkF (c m:Int):Int:=IntKind.i32.wrap (IntKind.u8.wrap (((BitVec.ofInt 8 c &&& BitVec.ofInt 8 m).toNat:Nat):Int))
def bgV (c:Int):Int:=bgR (mkF c 31) (mkF c 15) (mkF c 7) 0 c
def bgK (c:Int):Int:=bgR 1 2 3 0 c
def bgL (c:Int):Int:=bif c==224 then 160 else bif c==237 then 128 else bif c==240 then 144 else 128
def bgH (c:Int):Int:=bif c==224 then 191 else bif c==237 then 159 else bif c==240 then 191 else bif c==244 then 143 else 191
theorem bgG_ok {st:AE.Stat}(hx:Hx st):ConOk Tryz.prog st 113 (bgG bgV bgK bgL bgH):=by
 refine con_flat (mg:=[]) (l:=[]) (lp:=noLp) (n:=0) (glOk st) (fun _ h=>nomatch h) Tryz.func113 (by kernel_rfl) (by kernel_rfl) (hx 113 rfl) (fun _ _ _ h=>nomatch h) fun args k hk=>?_
 unfold bgG at hk
 split at hk<;>first | (cases hk; done) | skip
 rename_i c;obtain ⟨hb,hk⟩:=bif_none hk;refine ⟨[kv .u8 c],_,.self .nil,agg_clo rfl,hk,(bgg_tree c _).trans ?_⟩;unfold bgV bgK bgL bgH bgR bgS bgU mkF
 repeat' (first | exact isD_of (by simp only [*,cond_true,cond_false]) | refine cS (fun h=>?_) (fun h=>?_))
theorem bgK_in (c:Int):0<=bgK c/\bgK c<=3:=by
 unfold bgK bgR bgS bgU
 cases decide (c >= 194)<;>cases decide (c<=223)<;>cases decide (c >= 224)<;>cases decide (c<=239)<;>cases decide (c >= 240)<;>cases decide (c<=244)<;>decide
structure PDX where
 s:ByteArray
 i:Nat
 v:Int
 k:Int
 lo:Int
 hi:Int
 m:Nat
 p:Nat
def pdM (c k:Int) (m:Nat):Nat:=(if k > 0 then m+1 else m)+if c<128 then 1 else if bgK c=0 then 1 else 0
def pdR (s:ByteArray):Nat->Nat->Int->Int->Int->Nat->Nat->Nat×Int×Nat
 | 0,_,k,_,_,m,p=>(m,k,p)
 | q+1,i,k,lo,hi,m,p=>if k > 0/\byteAt s i >= lo/\byteAt s i<=hi then pdR s q (i+1) (k-1) 128 191 (if k-1=0 then m+1 else m) p
  else pdR s q (i+1) (bgK (byteAt s i)) (bgL (byteAt s i)) (bgH (byteAt s i)) (pdM (byteAt s i) k m) i
theorem pdR_le {s:ByteArray}:∀ (q i:Nat) (k lo hi:Int) (m p:Nat),p<=i->i+q=s.size->m<=2*i->(pdR s q i k lo hi m p).2.2<=s.size/\(pdR s q i k lo hi m p).1<=2*s.size
 | 0,i,k,lo,hi,m,p,h1,h2,h3=>⟨by show p<=_; omega,by show m<=_; omega⟩
 | q+1,i,k,lo,hi,m,p,h1,h2,h3=>by
  unfold pdR;split
  ·exact pdR_le q (i+1) _ _ _ _ _ (by omega) (by omega) (by split<;>omega)
  ·refine pdR_le q (i+1) _ _ _ _ _ (by omega) (by omega) ?_
   unfold pdM
   repeat' split
   all_goals omega
def PDX.r (x:PDX):Nat×Int×Nat:=pdR x.s (x.s.size-x.i) x.i x.k x.lo x.hi x.m x.p
def nlD:Nat->DV
 | 0=>.v (.slice none 0 0)
 | n+1=>.os 1 0 (n+1)
def nlH:Nat->Option DBlk
 | 0=>none
 | n+1=>some ⟨1,.tab (n+1) fun _ _=>.any⟩
def celD (v k lo hi:Int):DBlk:=⟨4,.lst [[kv .i32 v,iv k,kv .u8 lo,kv .u8 hi]]⟩
noncomputable def pdI:LInv PDX where
 pre x:=x.i<=x.s.size/\x.s.size<=9000000/\0<=x.k/\x.k<=3/\x.m<=2*x.i/\x.p<=x.i
 m:=1
 n:=90
 ps:=[6,7,8,9,16,17]
 sd x:=[sv x.s,nlD x.m,.po 0 0 0,iv x.p,iv x.s.size,iv x.i]
 sh x:=[some (celD x.v x.k x.lo x.hi),nlH x.m]
 meas x:=x.s.size-x.i
 e _:=.exit 0
 qs:=[6,7,8,9]
 od x:=[sv x.s,nlD x.r.1,.po 0 0 0,iv x.r.2.2]
 oh x:=[some ⟨4,.lst [[.any,iv x.r.2.1,.any,.any]]⟩,nlH x.r.1]
 guess ds _:=match ds with
  | .v (.string s) :: _=>some ⟨s,0,0,0,0,0,0,0⟩
  | _=>none
 cps x k:=bif holds (x.r.1=0) then k (.exit 0) [sv x.s,.v (.slice none 0 0),.po 0 0 0,iv x.r.2.2] [some ⟨4,.lst [[.any,iv x.r.2.1,.any,.any]]⟩,none]
  else k (.exit 0) [sv x.s,.os 1 0 x.r.1,.po 0 0 0,iv x.r.2.2] [some ⟨4,.lst [[.any,iv x.r.2.1,.any,.any]]⟩,some ⟨1,.tab x.r.1 fun _ _=>.any⟩]
theorem pd_cps (x:PDX) (k:Ex->List DV->DHeap->Option Unit) (h:pdI.cps x k=some ()):k (pdI.e x) (pdI.od x) (pdI.oh x)=some ():=by
 rcases bif_some h with ⟨h1,h2⟩ | ⟨h1,h2⟩
 ·have e:=holds_eq.1 h1;simp only [pdI,e];exact h2
 ·have e:x.r.1≠0:=fun e=>by rw [holds_eq.2 e] at h1; cases h1
  obtain ⟨m,em⟩:∃ m,x.r.1=m+1:=⟨x.r.1-1,by omega⟩
  simp only [pdI,em];rw [em] at h2;exact h2
theorem cel_sub {r:Nat->Option Nat}{c:DC}{v k lo hi:Int}(hn:1<=c.n) (h0:c.get 0 0=kv .i32 v) (h1:c.get 0 1=iv k) (h2:c.get 0 2=kv .u8 lo) (h3:c.get 0 3=kv .u8 hi):SubC r (celD v k lo hi) ⟨4,c⟩:=⟨rfl,hn,trivial,fun j f hj hf=>by
 have hj:j<1:=hj;have hf:f<4:=hf
 obtain rfl:j=0:=by omega
 match f,hf with
 | 0,_=>show Sub _ (kv .i32 v) (c.get 0 0); rw [h0]; exact .v _
 | 1,_=>show Sub _ (iv k) (c.get 0 1); rw [h1]; exact .v _
 | 2,_=>show Sub _ (kv .u8 lo) (c.get 0 2); rw [h2]; exact .v _
 | 3,_=>show Sub _ (kv .u8 hi) (c.get 0 3); rw [h3]; exact .v _⟩
theorem any_sub {r:Nat->Option Nat}{c:DC}{n:Nat}(hn:n<=c.n):SubC r ⟨1,.tab n fun _ _=>.any⟩ ⟨1,c⟩:=⟨rfl,hn,trivial,fun _ _ _ _=>.any _⟩
theorem pd_ask {x y:PDX}{ds qs:List DV}{σ:DHeap}{ids:List Nat}(hp:pdI.pre y) (hs:y.s=x.s) (hi:y.i=x.i+1) (hr:y.r=x.r) (hl:x.i<x.s.size) (hw:WkP 1 ids ds σ (pdI.sd y) (pdI.sh y)):pdI.ask x .normal 90 ds qs σ=some () :=
 LInv.ask_of ⟨rfl,y,⟨rfl,by simp only [pdI,hr,hs],by simp only [pdI,hr],hp⟩,by simp only [pdI,hs,hi]; omega,ids,hw⟩
theorem pd_os {s:ByteArray}{i p id m:Nat}{v k lo hi:Int}{c c2:DC}{σ:DHeap}{x:Int}(hx:x=((i+1:Nat):Int)) (h0:σ[0]?=some (some ⟨4,c⟩)) (hid:σ[id]?=some (some ⟨1,c2⟩)) (hd:id≠0)
  (hc:∀ r,SubC r (celD v k lo hi) ⟨4,c⟩) (hn:m+1<=c2.n):WkP 1 [id] [sv s,.os id 0 (m+1),.po 0 0 0,iv p,iv s.size,iv x] σ [sv s,.os 1 0 (m+1),.po 0 0 0,iv p,iv s.size,iv ((i+1:Nat):Int)] [some (celD v k lo hi),some ⟨1,.tab (m+1) fun _ _=>.any⟩]:=by
 subst hx;refine .of (im:=[some 0,some id]) (.cons (.v _) (.cons (.os rfl) (.cons (.po rfl) (.cons (.v _) (.cons (.v _) (.cons (.v _) .nil)))))) rfl ⟨⟨0,_,rfl,h0,hc _⟩,⟨id,_,rfl,hid,any_sub hn⟩,trivial⟩ rfl ?_;simp only [List.nodup_cons,List.mem_singleton]
 exact ⟨fun e=>hd (by simpa using e.symm),by simp⟩
theorem pd_nl {s:ByteArray}{i p:Nat}{v k lo hi:Int}{c:DC}{σ:DHeap}{x:Int}(hx:x=((i+1:Nat):Int)) (h0:σ[0]?=some (some ⟨4,c⟩))
  (hc:∀ r,SubC r (celD v k lo hi) ⟨4,c⟩):WkP 1 [1] [sv s,.v (.slice none 0 0),.po 0 0 0,iv p,iv s.size,iv x] σ [sv s,.v (.slice none 0 0),.po 0 0 0,iv p,iv s.size,iv ((i+1:Nat):Int)] [some (celD v k lo hi),none]:=by
 subst hx
 exact .of (im:=[some 0]) (.cons (.v _) (.cons (.v _) (.cons (.po rfl) (.cons (.v _) (.cons (.v _) (.cons (.v _) .nil)))))) rfl ⟨⟨0,_,rfl,h0,hc _⟩,trivial⟩ rfl (by decide)
theorem pd_ls {st:AE.Stat}(hx:Hx st):LoopS Tryz.prog st gl0 (.loop (loopAt Tryz.f74 506)) pdI.g:=by
 refine pdI.ok (E:=env [(113,bgG bgV bgK bgL bgH)] noLp 0) (p:=500) (tblD_env (l:=[(113,bgG bgV bgK bgL bgH)]) fun x h=>?_) (glOk st).1 (fun _ _ _ h=>nomatch h) pd_cps fun x hx2=>?_
 ·obtain rfl:=List.mem_singleton.1 h;exact bgG_ok hx
 obtain ⟨s,i,v,k,lo,hi,m,p⟩:=x;obtain ⟨h1,h2,h3,h4,h5,h6⟩:i<=s.size/\s.size<=9000000/\0<=k/\k<=3/\m<=2*i/\p<=i:=hx2
 have hW:∀ _:i<s.size,IntKind.i64.wrap ((i:Int)+1)=((i+1:Nat):Int):=fun h=>by rw [W_in (by omega) (by omega)]; omega
 have hk1:IntKind.i64.wrap (k-1)=k-1:=W_in (by omega) (by omega)
 have er:∀ (_:i<s.size) {y:PDX},y.s=s->y.i=i+1->(k > 0/\byteAt s i >= lo/\byteAt s i<=hi)->y.k=k-1->y.lo=128->y.hi=191->y.m=(if k-1=0 then m+1 else m)->y.p=p->y.r=PDX.r ⟨s,i,v,k,lo,hi,m,p⟩:=fun hlt {y} e1 e2 hc e3 e4 e5 e6 e7=>by
  have:s.size-i=(s.size-(i+1))+1:=by omega
  simp only [PDX.r,e1,e2,e3,e4,e5,e6,e7,this,pdR];rw [if_pos hc]
 have en:∀ (_:i<s.size) {y:PDX},y.s=s->y.i=i+1->(¬ (k > 0/\byteAt s i >= lo/\byteAt s i<=hi))->y.k=bgK (byteAt s i)->y.lo=bgL (byteAt s i)->y.hi=bgH (byteAt s i)->y.m=pdM (byteAt s i) k m->y.p=i->y.r=PDX.r ⟨s,i,v,k,lo,hi,m,p⟩:=fun hlt {y} e1 e2 hc e3 e4 e5 e6 e7=>by
  have:s.size-i=(s.size-(i+1))+1:=by omega
  simp only [PDX.r,e1,e2,e3,e4,e5,e6,e7,this,pdR];rw [if_neg hc]
 have hb:∀ j,Int.NonNeg (byteAt s j-0)/\Int.NonNeg (255-byteAt s j):=fun j=>by
  obtain ⟨a,b⟩:=byteAt_b s j
  exact ⟨a,show byteAt s j<=255 by omega⟩
 have kin:=bgK_in (byteAt s i)
 have cs:∀ {r:Nat->Option Nat}(a:Int),SubC r (celD a (bgK (byteAt s i)) (bgL (byteAt s i)) (bgH (byteAt s i))) ⟨4,.upd (.upd (.upd (.upd (.lst [[kv .i32 v,iv k,kv .u8 lo,kv .u8 hi]]) 0 0 (kv .i32 a)) 0 1 (iv (bgK (byteAt s i)))) 0 2 (kv .u8 (bgL (byteAt s i)))) 0 3 (kv .u8 (bgH (byteAt s i)))⟩:=fun a=>cel_sub (Nat.le_refl _) rfl rfl rfl rfl
 have ct:∀ {r:Nat->Option Nat}(a:Int),SubC r (celD a (k-1) 128 191) ⟨4,.upd (.upd (.upd (.upd (.lst [[kv .i32 v,iv k,kv .u8 lo,kv .u8 hi]]) 0 0 (kv .i32 a)) 0 1 (iv (IntKind.i64.wrap (k-1)))) 0 2 (kv .u8 128)) 0 3 (kv .u8 191)⟩:=fun a=>cel_sub (Nat.le_refl _) rfl (by show iv _=iv _; rw [hk1]) rfl rfl
 have q0:∀ {a b c d:Int}{m:Nat},bgK (byteAt s i)=b->i<s.size->m<=2*(i+1)->pdI.pre ⟨s,i+1,a,b,c,d,m,i⟩:=fun e hlt hm=>⟨hlt,h2,by rw [<- e]; exact kin.1,by rw [<- e]; exact kin.2,hm,Nat.le_succ i⟩
 have qt:∀ {a:Int}{m:Nat},k > 0->i<s.size->m<=2*(i+1)->pdI.pre ⟨s,i+1,a,k-1,128,191,m,p⟩:=fun e hlt hm=>⟨hlt,h2,by show (0:Int)<=k-1; omega,by show k-1<=3; omega,hm,by show p<=i+1; omega⟩
 have e0:∀ {a:Int},(a==0)=true->a=0:=fun h=>by simpa using h
 have n0:∀ {a:Int},(a==0)=false->a≠0:=fun h=>by simpa using h
 cases m with
 | zero =>
  refine (pd0_loop s s.size i p v k lo hi bgV bgK bgL bgH _).trans ?_;simp only [Int.toNat_natCast]
  refine dS (fun hlt=>dT hlt ?_) fun hge=>?_
  ·have hlt:i<s.size:=by omega
   have hW:=hW hlt
   refine dS (fun a1=>dS (fun a2=>dS (fun a3=>?tk) fun a3=>?n1) fun a2=>?n2) fun a1=>?n3
   case tk =>
    refine cS (fun q=>?_) fun q=>?_
    ·rw [hk1] at q
     exact pd_ask (y:=⟨s,i+1,_,k-1,128,191,1,p⟩) (qt a1 hlt (by omega)) rfl rfl (er hlt rfl rfl ⟨a1,a2,a3⟩ rfl rfl rfl (by rw [if_pos (e0 q)]) rfl) hlt (pd_os hW rfl rfl (by decide) (fun _=>ct _) (Nat.le_refl _))
    ·rw [hk1] at q
     exact pd_ask (y:=⟨s,i+1,_,k-1,128,191,0,p⟩) (qt a1 hlt (by omega)) rfl rfl (er hlt rfl rfl ⟨a1,a2,a3⟩ rfl rfl rfl (by rw [if_neg (n0 q)]) rfl) hlt (pd_nl hW rfl (fun _=>ct _))
   all_goals
    have hn:¬ (k > 0/\byteAt s i >= lo/\byteAt s i<=hi):=fun q=>by first | exact a3 q.2.2 | exact a2 q.2.1 | exact a1 q.1
    refine dS (fun b=>hT (hb i) (dS (fun q=>?_) fun q=>cS (fun q2=>?_) fun q2=>?_)) fun b=>hT (hb i) (dS (fun q=>?_) fun q=>cS (fun q2=>?_) fun q2=>?_)
    ·exact pd_ask (y:=⟨s,i+1,bgV (byteAt s i),bgK (byteAt s i),bgL (byteAt s i),bgH (byteAt s i),2,i⟩) (q0 rfl hlt (by omega)) rfl rfl (en hlt rfl rfl hn rfl rfl rfl (by unfold pdM; rw [if_pos b,if_pos q]) rfl) hlt (pd_os hW rfl rfl (by decide) (fun _=>cs _) (Nat.le_refl _))
    ·exact pd_ask (y:=⟨s,i+1,bgV (byteAt s i),bgK (byteAt s i),bgL (byteAt s i),bgH (byteAt s i),2,i⟩) (q0 rfl hlt (by omega)) rfl rfl (en hlt rfl rfl hn rfl rfl rfl (by unfold pdM; rw [if_pos b,if_neg q,if_pos (e0 q2)]) rfl) hlt (pd_os hW rfl rfl (by decide) (fun _=>cs _) (Nat.le_refl _))
    ·exact pd_ask (y:=⟨s,i+1,bgV (byteAt s i),bgK (byteAt s i),bgL (byteAt s i),bgH (byteAt s i),1,i⟩) (q0 rfl hlt (by omega)) rfl rfl (en hlt rfl rfl hn rfl rfl rfl (by unfold pdM; rw [if_pos b,if_neg q,if_neg (n0 q2)]) rfl) hlt (pd_os hW rfl rfl (by decide) (fun _=>cs _) (Nat.le_refl _))
    ·exact pd_ask (y:=⟨s,i+1,bgV (byteAt s i),bgK (byteAt s i),bgL (byteAt s i),bgH (byteAt s i),1,i⟩) (q0 rfl hlt (by omega)) rfl rfl (en hlt rfl rfl hn rfl rfl rfl (by unfold pdM; rw [if_neg b,if_pos q]) rfl) hlt (pd_os hW rfl rfl (by decide) (fun _=>cs _) (Nat.le_refl _))
    ·exact pd_ask (y:=⟨s,i+1,bgV (byteAt s i),bgK (byteAt s i),bgL (byteAt s i),bgH (byteAt s i),1,i⟩) (q0 rfl hlt (by omega)) rfl rfl (en hlt rfl rfl hn rfl rfl rfl (by unfold pdM; rw [if_neg b,if_neg q,if_pos (e0 q2)]) rfl) hlt (pd_os hW rfl rfl (by decide) (fun _=>cs _) (Nat.le_refl _))
    ·exact pd_ask (y:=⟨s,i+1,bgV (byteAt s i),bgK (byteAt s i),bgL (byteAt s i),bgH (byteAt s i),0,i⟩) (q0 rfl hlt (by omega)) rfl rfl (en hlt rfl rfl hn rfl rfl rfl (by unfold pdM; rw [if_neg b,if_neg q,if_neg (n0 q2)]) rfl) hlt (pd_nl hW rfl (fun _=>cs _))
  ·obtain rfl:i=s.size:=by omega
   have hr:PDX.r ⟨s,s.size,v,k,lo,hi,0,p⟩=(0,k,p):=by simp only [PDX.r,Nat.sub_self,pdR]
   refine LInv.ask_of ⟨rfl,rfl,[1],?_⟩;simp only [pdI,hr]
   refine .of (im:=[some 0]) (.cons (.v _) (.cons (.v _) (.cons (.po rfl) (.cons (.v _) .nil)))) rfl ⟨⟨0,_,rfl,rfl,rfl,Nat.le_refl _,trivial,fun j f hj hf=>?_⟩,trivial⟩ rfl (by decide)
   have hj:j<1:=hj;have hf:f<4:=hf
   obtain rfl:j=0:=by omega
   match f,hf with
   | 0,_=>exact .any _
   | 1,_=>exact .v _
   | 2,_=>exact .any _
   | 3,_=>exact .any _
 | succ m =>
  refine (pd1_loop s s.size i p (m+1) v k lo hi bgV bgK bgL bgH (fun _ _=>.any) _).trans ?_
  simp only [Int.toNat_natCast]
  refine dS (fun hlt=>dT hlt ?_) fun hge=>?_
  ·have hlt:i<s.size:=by omega
   have hW:=hW hlt
   refine dS (fun a1=>dS (fun a2=>dS (fun a3=>?tkb) fun a3=>?n1b) fun a2=>?n2b) fun a1=>?n3b
   case tkb =>
    refine cS (fun q=>dT (Nat.le_refl _) (dT (by omega) ?_)) fun q=>?_
    ·rw [hk1] at q
     exact pd_ask (y:=⟨s,i+1,_,k-1,128,191,m+1+1,p⟩) (qt a1 hlt (by omega)) rfl rfl (er hlt rfl rfl ⟨a1,a2,a3⟩ rfl rfl rfl (by rw [if_pos (e0 q)]) rfl) hlt (pd_os hW rfl rfl (by decide) (fun _=>ct _) (Nat.le_refl _))
    ·rw [hk1] at q
     exact pd_ask (y:=⟨s,i+1,_,k-1,128,191,m+1,p⟩) (qt a1 hlt (by omega)) rfl rfl (er hlt rfl rfl ⟨a1,a2,a3⟩ rfl rfl rfl (by rw [if_neg (n0 q)]) rfl) hlt (pd_os hW rfl rfl (by decide) (fun _=>ct _) (Nat.le_refl _))
   all_goals
    have hn:¬ (k > 0/\byteAt s i >= lo/\byteAt s i<=hi):=fun q=>by first | exact a3 q.2.2 | exact a2 q.2.1 | exact a1 q.1
    refine dS (fun b=>dT (Nat.le_refl _) (dT (by omega) (hT (hb i) (dS (fun q=>dT (Nat.le_refl _) (dT (by omega) ?_)) fun q=>cS (fun q2=>dT (Nat.le_refl _) (dT (by omega) ?_)) fun q2=>?_)))) fun b=>hT (hb i) (dS (fun q=>dT (Nat.le_refl _) (dT (by omega) ?_)) fun q=>cS (fun q2=>dT (Nat.le_refl _) (dT (by omega) ?_)) fun q2=>?_)
    ·exact pd_ask (y:=⟨s,i+1,bgV (byteAt s i),bgK (byteAt s i),bgL (byteAt s i),bgH (byteAt s i),m+1+1+1,i⟩) (q0 rfl hlt (by omega)) rfl rfl (en hlt rfl rfl hn rfl rfl rfl (by unfold pdM; rw [if_pos b,if_pos q]) rfl) hlt (pd_os hW rfl rfl (by decide) (fun _=>cs _) (Nat.le_refl _))
    ·exact pd_ask (y:=⟨s,i+1,bgV (byteAt s i),bgK (byteAt s i),bgL (byteAt s i),bgH (byteAt s i),m+1+1+1,i⟩) (q0 rfl hlt (by omega)) rfl rfl (en hlt rfl rfl hn rfl rfl rfl (by unfold pdM; rw [if_pos b,if_neg q,if_pos (e0 q2)]) rfl) hlt (pd_os hW rfl rfl (by decide) (fun _=>cs _) (Nat.le_refl _))
    ·exact pd_ask (y:=⟨s,i+1,bgV (byteAt s i),bgK (byteAt s i),bgL (byteAt s i),bgH (byteAt s i),m+1+1,i⟩) (q0 rfl hlt (by omega)) rfl rfl (en hlt rfl rfl hn rfl rfl rfl (by unfold pdM; rw [if_pos b,if_neg q,if_neg (n0 q2)]) rfl) hlt (pd_os hW rfl rfl (by decide) (fun _=>cs _) (Nat.le_refl _))
    ·exact pd_ask (y:=⟨s,i+1,bgV (byteAt s i),bgK (byteAt s i),bgL (byteAt s i),bgH (byteAt s i),m+1+1,i⟩) (q0 rfl hlt (by omega)) rfl rfl (en hlt rfl rfl hn rfl rfl rfl (by unfold pdM; rw [if_neg b,if_pos q]) rfl) hlt (pd_os hW rfl rfl (by decide) (fun _=>cs _) (Nat.le_refl _))
    ·exact pd_ask (y:=⟨s,i+1,bgV (byteAt s i),bgK (byteAt s i),bgL (byteAt s i),bgH (byteAt s i),m+1+1,i⟩) (q0 rfl hlt (by omega)) rfl rfl (en hlt rfl rfl hn rfl rfl rfl (by unfold pdM; rw [if_neg b,if_neg q,if_pos (e0 q2)]) rfl) hlt (pd_os hW rfl rfl (by decide) (fun _=>cs _) (Nat.le_refl _))
    ·exact pd_ask (y:=⟨s,i+1,bgV (byteAt s i),bgK (byteAt s i),bgL (byteAt s i),bgH (byteAt s i),m+1,i⟩) (q0 rfl hlt (by omega)) rfl rfl (en hlt rfl rfl hn rfl rfl rfl (by unfold pdM; rw [if_neg b,if_neg q,if_neg (n0 q2)]) rfl) hlt (pd_os hW rfl rfl (by decide) (fun _=>cs _) (Nat.le_refl _))
  ·obtain rfl:i=s.size:=by omega
   have hr:PDX.r ⟨s,s.size,v,k,lo,hi,m+1,p⟩=(m+1,k,p):=by simp only [PDX.r,Nat.sub_self,pdR]
   refine LInv.ask_of ⟨rfl,rfl,[1],?_⟩;simp only [pdI,hr]
   exact .of (im:=[some 0,some 1]) (.cons (.v _) (.cons (.os rfl) (.cons (.po rfl) (.cons (.v _) .nil)))) rfl ⟨⟨0,_,rfl,rfl,rfl,Nat.le_refl _,trivial,fun j f hj hf=>by
    have hj:j<1:=hj;have hf:f<4:=hf
    obtain rfl:j=0:=by omega
    match f,hf with
    | 0,_=>exact .any _
    | 1,_=>exact .v _
    | 2,_=>exact .any _
    | 3,_=>exact .any _⟩,⟨1,_,rfl,rfl,any_sub (Nat.le_refl _)⟩,trivial⟩ rfl (by decide)
end Go.Proofs.YtigmkgampfbflaaGreatDoor
namespace Go.Proofs.YtigmkgampfbflaaGreatDoor
open Go Go.AE Go.DE Go.RowKit
theorem fn_sub {r:Nat->Option Nat}{f:Fn}{a2 a b2 b:List DV}(ha:SubL r a2 a) (hb:SubL r b2 b):Sub r (.fn f a2 b2) (.fn f a b):=fun C μ x hx=>by
 cases hx with
 | fn _ _ _ u v h1 h2 h3 h4 =>
  have p:=ha.drl (C:=C) (μ:=μ) (xs:=u.toList) ⟨by simpa using h1,fun i d x hd hx=>h3 i d x hd (by simpa using hx)⟩
  have q:=hb.drl (C:=C) (μ:=μ) (xs:=v.toList) ⟨by simpa using h2,fun i d x hd hx=>h4 i d x hd (by simpa using hx)⟩
  exact .fn _ _ _ _ _ (by simpa using p.1) (by simpa using q.1) (fun i d x hd hx=>p.2 i d x hd (by simpa using hx)) fun i d x hd hx=>q.2 i d x hd (by simpa using hx)
theorem dcg_tree (s:ByteArray) (K:DV->DHeap->Option Unit):bodyD Tryz.prog (envH Tryz.prog gl0 [] [] (lpOf [(506,pdI.g)]) 0 [] true) Tryz.f74 [sv ⟨#[]⟩,sv s] [] (fun d σ=>K d σ) =
  bif decide (0+ByteArray.size s<=9223372036854775807) then bif holds ((Nat.le 0 (ByteArray.size ({ data:=#[] }++s))/\Nat.le (ByteArray.size ({ data:=#[] }++s)) 9000000/\Int.NonNeg 0/\Int.NonNeg 3/\Nat.le 0 0/\Nat.le 0 0)/\∃ ids,WkP 1 ids [sv ({ data:=#[] }++s),DV.v (Value.slice none 0 0),.po 0 0 0,iv 0,iv (↑(ByteArray.size ({ data:=#[] }++s)):Int),iv 0] [some ⟨4,.lst [[kv .i32 0,iv 0,kv .u8 0,kv .u8 0]]⟩] [sv ({ data:=#[] }++s),DV.v (Value.slice none 0 0),.po 0 0 0,iv 0,iv (↑(ByteArray.size ({ data:=#[] }++s)):Int),iv 0] [some ⟨4,.lst [[kv .i32 0,iv 0,kv .u8 0,kv .u8 0]]⟩,none])
  then bif holds (Prod.fst (PDX.r { s:={ data:=#[] }++s,i:=0,v:=0,k:=0,lo:=0,hi:=0,m:=0,p:=0 })=0) then bif Prod.fst (Prod.snd (PDX.r { s:={ data:=#[] }++s,i:=0,v:=0,k:=0,lo:=0,hi:=0,m:=0,p:=0 }))==0
  then K (.tup [DV.v (Value.slice none 0 0),sv ⟨#[]⟩]) [some ⟨4,.lst [[DV.any,iv (Prod.fst (Prod.snd (PDX.r { s:={ data:=#[] }++s,i:=0,v:=0,k:=0,lo:=0,hi:=0,m:=0,p:=0 }))),DV.any,DV.any]]⟩,none]
  else bif decide ((↑(Prod.snd (Prod.snd (PDX.r { s:={ data:=#[] }++s,i:=0,v:=0,k:=0,lo:=0,hi:=0,m:=0,p:=0 }))):Int)<=(↑(ByteArray.size ({ data:=#[] }++s)):Int)) then K (.tup [DV.v (Value.slice none 0 0),sv (ByteArray.extract ({ data:=#[] }++s) (Int.toNat (↑(Prod.snd (Prod.snd (PDX.r { s:={ data:=#[] }++s,i:=0,v:=0,k:=0,lo:=0,hi:=0,m:=0,p:=0 }))):Int)) (ByteArray.size ({ data:=#[] }++s)))]) [some ⟨4,.lst [[DV.any,iv (Prod.fst (Prod.snd (PDX.r { s:={ data:=#[] }++s,i:=0,v:=0,k:=0,lo:=0,hi:=0,m:=0,p:=0 }))),DV.any,DV.any]]⟩,none]
  else none else bif Prod.fst (Prod.snd (PDX.r { s:={ data:=#[] }++s,i:=0,v:=0,k:=0,lo:=0,hi:=0,m:=0,p:=0 }))==0 then K (.tup [.os 1 0 (Prod.fst (PDX.r { s:={ data:=#[] }++s,i:=0,v:=0,k:=0,lo:=0,hi:=0,m:=0,p:=0 })),sv ⟨#[]⟩]) [some ⟨4,.lst [[DV.any,iv (Prod.fst (Prod.snd (PDX.r { s:={ data:=#[] }++s,i:=0,v:=0,k:=0,lo:=0,hi:=0,m:=0,p:=0 }))),DV.any,DV.any]]⟩,some ⟨1,.tab (Prod.fst (PDX.r { s:={ data:=#[] }++s,i:=0,v:=0,k:=0,lo:=0,hi:=0,m:=0,p:=0 })) fun x x_1=>DV.any⟩]
  else bif decide ((↑(Prod.snd (Prod.snd (PDX.r { s:={ data:=#[] }++s,i:=0,v:=0,k:=0,lo:=0,hi:=0,m:=0,p:=0 }))):Int)<=(↑(ByteArray.size ({ data:=#[] }++s)):Int)) then K (.tup [.os 1 0 (Prod.fst (PDX.r { s:={ data:=#[] }++s,i:=0,v:=0,k:=0,lo:=0,hi:=0,m:=0,p:=0 })),sv (ByteArray.extract ({ data:=#[] }++s) (Int.toNat (↑(Prod.snd (Prod.snd (PDX.r { s:={ data:=#[] }++s,i:=0,v:=0,k:=0,lo:=0,hi:=0,m:=0,p:=0 }))):Int)) (ByteArray.size ({ data:=#[] }++s)))]) [some ⟨4,.lst [[DV.any,iv (Prod.fst (Prod.snd (PDX.r { s:={ data:=#[] }++s,i:=0,v:=0,k:=0,lo:=0,hi:=0,m:=0,p:=0 }))),DV.any,DV.any]]⟩,some ⟨1,.tab (Prod.fst (PDX.r { s:={ data:=#[] }++s,i:=0,v:=0,k:=0,lo:=0,hi:=0,m:=0,p:=0 })) fun x x_1=>DV.any⟩]
  else none else none else none:=by
 kernel_rfl
def ixW (g:Nat->Int) (a b:Int):Nat->Nat->Int
 | 0,_=>0
 | m+1,i=>bif decide (g i<a) then (i:Int)+1 else bif decide (g i > b) then (i:Int)+1 else ixW g a b m (i+1)
structure WNX where
 g:Nat->Int
 n:Nat
 a:Int
 b:Int
 i:Nat
noncomputable abbrev e114:InE:=⟨114,Tryz.f114,envH Tryz.prog gl0 [] [] noLp 0⟩
def wnFn:DV:=.fn (.func 114) [] [.po 0 0 0,.po 1 0 0]
theorem wn_loop (g:Nat->Int) (n i:Nat) (a b:Int) (K:Ex->Nat->List DV->List DV->DHeap->Option Unit):execD Tryz.prog (envH Tryz.prog gl0 [e114] [] noLp 0) (loopAt Tryz.f108 26) 500 (temps 19 [0,1,7,8] [.os 2 0 n,wnFn,iv n,iv i]) [some ⟨1,.lst [[kv .u8 a]]⟩,some ⟨1,.lst [[kv .u8 b]]⟩,some ⟨1,.tab n (rowI .u8 g)⟩] (fun e τ σ=>K e τ.length (pick [0,1,7,8] τ) (pick [4] τ) σ) =
  bif decide ((i:Int)<(n:Int)) then bif decide ((i:Int)<(n:Int)) then bif decide (0+tN i<n) then bif decide (g (0+tN i)<a) then K .ret 19 [.os 2 0 n,.fn (Fn.func 114) [] [.po 0 0 0,.po 1 0 0],iv (n:Int),iv (i:Int)] [iv (i:Int)] [some ⟨1,.lst [[kv .u8 a]]⟩,some ⟨1,.lst [[kv .u8 b]]⟩,some ⟨1,.tab n fun a _=>kv .u8 ((g a))⟩]
  else bif decide (g (0+tN i) > b) then K .ret 19 [.os 2 0 n,.fn (Fn.func 114) [] [.po 0 0 0,.po 1 0 0],iv (n:Int),iv (i:Int)] [iv (i:Int)] [some ⟨1,.lst [[kv .u8 a]]⟩,some ⟨1,.lst [[kv .u8 b]]⟩,some ⟨1,.tab n fun a _=>kv .u8 ((g a))⟩]
  else K .normal 19 [.os 2 0 n,.fn (Fn.func 114) [] [.po 0 0 0,.po 1 0 0],iv (n:Int),iv (IntKind.wrap .i64 ((i:Int)+1))] [DV.any] [some ⟨1,.lst [[kv .u8 a]]⟩,some ⟨1,.lst [[kv .u8 b]]⟩,some ⟨1,.tab n fun a _=>kv .u8 ((g a))⟩]
  else none else none else K (.exit 0) 19 [.os 2 0 n,.fn (Fn.func 114) [] [.po 0 0 0,.po 1 0 0],iv (n:Int),iv (i:Int)] [DV.any] [some ⟨1,.lst [[kv .u8 a]]⟩,some ⟨1,.lst [[kv .u8 b]]⟩,some ⟨1,.tab n fun a _=>kv .u8 ((g a))⟩]:=by
 kernel_rfl
def WNX.q (x:WNX):Int:=ixW x.g x.a x.b (x.n-x.i) x.i
def qoW (v:Int):List DV:=if v=0 then [.any] else [iv (v-1)]
def qeW (v:Int):Ex:=if v=0 then .exit 0 else .ret
noncomputable def wnI:LInv WNX where
 pre x:=x.i<=x.n/\x.n<=9000000
 m:=3
 n:=19
 ps:=[0,1,7,8]
 sd x:=[.os 2 0 x.n,wnFn,iv x.n,iv x.i]
 sh x:=[some ⟨1,.lst [[kv .u8 x.a]]⟩,some ⟨1,.lst [[kv .u8 x.b]]⟩,some ⟨1,.tab x.n (rowI .u8 x.g)⟩]
 meas x:=x.n-x.i
 e x:=qeW x.q
 qs:=[4]
 od x:=qoW x.q
 oh _:=[none,none,none]
 guess ds σ:=match ds,σ with
  | [.os 2 0 n,_,_,_],[some A,some B,some T]=>match A.c.get 0 0,B.c.get 0 0 with
   | .v (.int _ a),.v (.int _ b)=>some ⟨fun i=>match T.c.get i 0 with
    | .v (.int _ c)=>c
    | _=>0,n,a,b,0⟩
   | _,_=>none
  | _,_=>none
 cps x k:=bif holds (x.q=0) then k (.exit 0) [.any] [none,none,none] else k .ret [iv (x.q-1)] [none,none,none]
theorem qW_cps {v:Int}{σ:DHeap}{k:Ex->List DV->DHeap->Option Unit}(h:(bif holds (v=0) then k (.exit 0) [.any] σ else k .ret [iv (v-1)] σ)=some ()):k (qeW v) (qoW v) σ=some ():=by
 rcases bif_some h with ⟨h1,h2⟩ | ⟨h1,h2⟩
 ·unfold qeW qoW; rw [if_pos (holds_eq.1 h1),if_pos (holds_eq.1 h1)]; exact h2
 ·have h1:¬ v=0:=fun e=>by rw [holds_eq.2 e] at h1; cases h1
  unfold qeW qoW; rw [if_neg h1,if_neg h1]; exact h2
noncomputable abbrev e108w:InE:=⟨108,Tryz.f108,envH Tryz.prog gl0 [] [] (lpOf [(26,wnI.g)]) 0⟩
noncomputable abbrev e68w:InE:=⟨68,Tryz.f68,envH Tryz.prog gl0 [e108w] [] noLp 0⟩
theorem wn_tree (s:ByteArray) (a b:Int) (k:DV->Option Unit):bodyD Tryz.prog (envH Tryz.prog gl0 [e68w] [] noLp 0) Tryz.f75 [sv s,kv .u8 a,kv .u8 b] [] (fun d _=>k d) =
  bif decide (ByteArray.size s<=140737488355328) then bif holds ((Nat.le 0 (ByteArray.size s)/\Nat.le (ByteArray.size s) 9000000)/\∃ ids,WkP 3 ids [.os 2 0 (ByteArray.size s),.fn (Fn.func 114) [] [.po 0 0 0,.po 1 0 0],iv (↑(ByteArray.size s):Int),iv 0] [some ⟨1,.lst [[kv .u8 a]]⟩,some ⟨1,.lst [[kv .u8 b]]⟩,some ⟨1,.tab (ByteArray.size s) fun i x=>kv .u8 ((byteAt s i))⟩] [.os 2 0 (ByteArray.size s),.fn (Fn.func 114) [] [.po 0 0 0,.po 1 0 0],iv (↑(ByteArray.size s):Int),iv 0] [some ⟨1,.lst [[kv .u8 a]]⟩,some ⟨1,.lst [[kv .u8 b]]⟩,some ⟨1,.tab (ByteArray.size s) fun a _=>kv .u8 ((match kv .u8 ((byteAt s a)) with | DV.v (Value.int k c)=>c | x=>0))⟩])
  then bif holds (WNX.q { g:=fun i=>match kv .u8 ((byteAt s i)) with | DV.v (Value.int k c)=>c | x=>0,n:=ByteArray.size s,a:=a,b:=b,i:=0 }=0) then k (bv (!decide ((-1:Int) >= 0)))
  else k (bv (!decide (WNX.q { g:=fun i=>match kv .u8 ((byteAt s i)) with | DV.v (Value.int k c)=>c | x=>0,n:=ByteArray.size s,a:=a,b:=b,i:=0 }-1 >= 0))) else none else none:=by
 kernel_rfl
noncomputable def wnC (F:ByteArray->Int->Int->Bool):ConF:=fun args k=>match args with
 | [.v (.string s),.v (.int .u8 a),.v (.int .u8 b)]=>bif decide (s.size<=9000000) then k (fun _=>(bv (F s a b),[])) else none
 | _=>none
noncomputable def dgC (Q:ByteArray->ByteArray->Prop) (N:ByteArray->Nat) (T:ByteArray->ByteArray):ConF:=fun args k=>match args with
 | [.v (.string p),.v (.string s)]=>bif holds (Q p s) then (bif holds (N s=0) then k (fun _=>(.tup [.v (.slice none 0 0),sv (T s)],[])) else k (fun _=>(.tup [.sl false (fun _ _=>.any) 1 (N s),sv (T s)],[]))) else none
 | _=>none
theorem pra_tree (Q:ByteArray->ByteArray->Prop) (N:ByteArray->Nat) (T:ByteArray->ByteArray) (F:ByteArray->Int->Int->Bool) (v:Int) (p s:ByteArray) (k:DV->Option Unit):bodyD Tryz.prog (envZ [(74,dgC Q N T),(75,wnC F)] noLp 0) Tryz.f34 [.agg [iv v,sv p,sv s]] [] (fun d _=>k d) =
  bif v==0 then bif holds (Q { data:=#[] } p) then bif holds (N p=0) then bif ByteArray.toList s==ByteArray.toList { data:=#[] } then k (bv (ByteArray.toList (T p)==ByteArray.toList p)) else k (bv false)
  else bif decide (0<N p) then bif decide (0<N p) then bif ByteArray.toList s==ByteArray.toList { data:=#[] } then bif (↑(N p):Int)==0 then k (bv (ByteArray.toList (T p)==ByteArray.toList p))
  else k (bv false) else k (bv false) else none else none else none else bif !ByteArray.toList p==ByteArray.toList { data:=#[] } then k (bv false) else bif v==1 then bif decide ((↑(ByteArray.size s):Int)<=3)
  then bif decide (ByteArray.size s<=9000000) then k (bv (F s 32 47)) else none else k (bv false) else bif v==2 then bif decide ((↑(ByteArray.size s):Int)<=257) then bif decide (ByteArray.size s<=9000000)
  then k (bv (F s 32 63)) else none else k (bv false) else bif v==3 then bif v==3 then bif decide ((↑(ByteArray.size s):Int)<=256) then bif decide (ByteArray.size s<=9000000) then k (bv (F s 32 255))
  else none else k (bv false) else k (bv false) else bif v==4 then bif decide ((↑(ByteArray.size s):Int)<=256) then bif decide (ByteArray.size s<=9000000) then k (bv (F s 32 255)) else none else k (bv false)
  else k (bv false):=by
 kernel_rfl
noncomputable def praC (F:Int->ByteArray->ByteArray->Bool):ConF:=fun args k=>match args with
 | [.agg [.v (.int .i64 v),.v (.string p),.v (.string s)]]=>bif decide (p.size<=9000000) then (bif decide (s.size<=9000000) then k (fun _=>(bv (F v p s),[])) else none) else none
 | _=>none
theorem idl_tree (F:Int->ByteArray->ByteArray->Bool) (v:Int) (p s:ByteArray) (k:DV->Option Unit):bodyD Tryz.prog (envZ [(34,praC F)] noLp 0) Tryz.f12 [.agg [iv v,sv p,sv s]] [] (fun d _=>k d) =
  bif bif v==0 then bif p=={ data:=#[] } then bif s=={ data:=#[] } then true else false else false else false then k (bv true) else bif decide (ByteArray.size p<=9000000) then bif decide (ByteArray.size s<=9000000)
  then k (bv (!F v p s)) else none else none:=by
 kernel_rfl
end Go.Proofs.YtigmkgampfbflaaGreatDoor
namespace Go.Proofs.YtigmkgampfbflaaGreatDoor
open Go Go.AE Go.DE Go.RowKit
def dgX (s:ByteArray):PDX:=⟨⟨#[]⟩++s,0,0,0,0,0,0,0⟩
def dgN (s:ByteArray):Nat:=(dgX s).r.1
def dgT (s:ByteArray):ByteArray:=if (dgX s).r.2.1=0 then ⟨#[]⟩ else ByteArray.extract (⟨#[]⟩++s) (Int.toNat ((dgX s).r.2.2:Int)) (⟨#[]⟩++s:ByteArray).size
def dgQ (p s:ByteArray):Prop:=p=⟨#[]⟩/\s.size<=9000000
theorem no_ap2 (s:ByteArray):(⟨#[]⟩:ByteArray)++s=s:=by
 show ByteArray.empty++s=s;simp
theorem dg_pre (s:ByteArray) (hs:s.size<=9000000):pdI.pre (dgX s):=by
 refine ⟨Nat.zero_le _,?_,Int.le_refl 0,(by decide:(0:Int)<=3),Nat.le_refl _,Nat.le_refl _⟩
 show (⟨#[]⟩++s:ByteArray).size<=_;rw [no_ap2];exact hs
theorem dg_in (s:ByteArray) (σ:DHeap) (h0:σ[0]?=some (some (celD 0 0 0 0))):WkP 1 [1] [sv (⟨#[]⟩++s),.v (.slice none 0 0),.po 0 0 0,iv 0,iv (⟨#[]⟩++s:ByteArray).size,iv 0] σ (pdI.sd (dgX s)) (pdI.sh (dgX s)) :=
 .of (im:=[some 0]) (.cons (.v _) (.cons (.v _) (.cons (.po rfl) (.cons (.v _) (.cons (.v _) (.cons (.v _) .nil)))))) rfl ⟨⟨0,_,rfl,h0,cel_sub (Nat.le_refl _) rfl rfl rfl rfl⟩,trivial⟩ rfl (by decide)
theorem dgC_ok {st:AE.Stat}(hx:Hx st):ConOkZ true Tryz.prog st 74 (dgC dgQ dgN dgT):=by
 refine con_frz (E:=envH Tryz.prog gl0 [] [] (lpOf [(506,pdI.g)]) 0 [] true) rfl (glOk st) (envH_ok (fun _ h=>nomatch h) fun _ h=>nomatch h) Tryz.func74 (by kernel_rfl) (by kernel_rfl) (hx 74 rfl)
  (lp_in (c0:=.loop (loopAt Tryz.f74 506)) (by kernel_rfl) (pd_ls hx).z) fun args k hk=>?_
 unfold dgC at hk
 split at hk<;>first | (cases hk; done) | skip
 rename_i p s;obtain ⟨hb,hk1⟩:=bif_none hk;clear hk;obtain ⟨rfl,hs⟩:=holds_eq.1 hb;have pin:=dg_pre s hs;have ple:=(pdR_le (s:=⟨#[]⟩++s) (⟨#[]⟩++s:ByteArray).size 0 0 0 0 0 0 (Nat.le_refl _) (Nat.zero_add _) (Nat.le_refl _)).1;have ple:(dgX s).r.2.2<=(⟨#[]⟩++s:ByteArray).size:=ple
 rcases bif_some hk1 with ⟨h1,hk2⟩ | ⟨h1,hk2⟩
 ·have h1:(dgX s).r.1=0:=holds_eq.1 h1
  refine ⟨[sv ⟨#[]⟩,sv s],_,.self (.self .nil),.tup fun d hd=>?_,hk2,(dcg_tree s _).trans (dT (by omega) (hT ⟨pin,[1],dg_in s _ rfl⟩ (hT h1 ?_)))⟩
  ·simp only [List.mem_cons,List.not_mem_nil,or_false] at hd
   rcases hd with rfl | rfl<;>exact .v _
  refine cS (fun q=>?_) fun q=>dT (by exact_mod_cast ple) ?_
  ·have e:dgT s=⟨#[]⟩:=if_pos (eq_of_beq q);rw [e]
   exact fzq_of ⟨[],SubL.tup (.cons (.v _) (.cons (.v _) .nil)) |>.z,fun j hj=>nomatch hj⟩
  ·have e:dgT s=_:=if_neg (beq_eq_false_iff_ne.1 q);rw [e]
   exact fzq_of ⟨[],SubL.tup (.cons (.v _) (.cons (.v _) .nil)) |>.z,fun j hj=>nomatch hj⟩
 ·have h1:¬ (dgX s).r.1=0:=fun e=>by rw [holds_eq.2 (show dgN s=0 from e)] at h1; cases h1
  refine ⟨[sv ⟨#[]⟩,sv s],_,.self (.self .nil),.tup fun d hd=>?_,hk2,(dcg_tree s _).trans (dT (by omega) (hT ⟨pin,[1],dg_in s _ rfl⟩ (hF h1 ?_)))⟩
  ·simp only [List.mem_cons,List.not_mem_nil,or_false] at hd
   rcases hd with rfl | rfl
   ·exact .sl fun _ _ _ _=>.any
   ·exact .v _
  refine cS (fun q=>?_) fun q=>dT (by exact_mod_cast ple) ?_
  ·have e:dgT s=⟨#[]⟩:=if_pos (eq_of_beq q);rw [e]
   exact frzT (id:=1) rfl (Nat.le_refl _) (fun _ _ _ _=>.any) fun _ _ _ _=>rfl
  ·have e:dgT s=_:=if_neg (beq_eq_false_iff_ne.1 q);rw [e]
   exact frzT (id:=1) rfl (Nat.le_refl _) (fun _ _ _ _=>.any) fun _ _ _ _=>rfl
noncomputable def wnF (s:ByteArray) (a b:Int):Bool:=bif holds (ixW (fun i=>byteAt s i) a b s.size 0=0) then true else !decide (ixW (fun i=>byteAt s i) a b s.size 0-1 >= 0)
theorem in114 {st:AE.Stat}(hx:Hx st):InOk Tryz.prog st e114:=⟨Tryz.func114,by kernel_rfl,by kernel_rfl,hx 114 rfl,envH_ok (fun _ h=>nomatch h) (fun _ h=>nomatch h),glOk st,(fun _ _ _ h=>nomatch h),rfl⟩
theorem wk3 {ds:List DV}{σ:DHeap}{ds2:List DV}(tm:SubL (ren 3 []) ds2 ds):WkP 3 [] ds σ ds2 [none,none,none]:=.of (im:=[]) tm rfl trivial rfl (by decide)
theorem lst1_sub {r:Nat->Option Nat}(q:IntKind) (a:Int):SubC r ⟨1,.lst [[kv q a]]⟩ ⟨1,.lst [[kv q a]]⟩:=⟨rfl,Nat.le_refl _,trivial,fun j f hj hf=>by
 have hj:j<1:=hj;have hf:f<1:=hf
 obtain rfl:j=0:=by omega
 obtain rfl:f=0:=by omega
 exact .v _⟩
theorem wn_ls {st:AE.Stat}(hx:Hx st):LoopS Tryz.prog st gl0 (.loop (loopAt Tryz.f108 26)) wnI.g:=by
 refine wnI.ok (E:=envH Tryz.prog gl0 [e114] [] noLp 0) (p:=500) (envH_ok (fun e h=>?_) (fun _ h=>nomatch h)) (glOk st).1 (fun _ _ _ h=>nomatch h) (fun x k h=>qW_cps h) fun x hx2=>?_
 ·obtain rfl:=List.mem_singleton.1 h;exact in114 hx
 obtain ⟨g,n,a,b,i⟩:=x;obtain ⟨hi,hn⟩:i<=n/\n<=9000000:=hx2;refine (wn_loop g n i a b _).trans ?_;simp only [Int.toNat_natCast,Nat.add_zero,Nat.zero_add]
 have stop:∀ {ds:List DV}{σ:DHeap},WNX.q ⟨g,n,a,b,i⟩=(i:Int)+1->wnI.ask ⟨g,n,a,b,i⟩ .ret 19 ds [iv i] σ=some ():=fun hq=>by
  have hne:¬ ((i:Int)+1=0):=by omega
  refine LInv.ask_of ⟨rfl,?_,[],?_⟩
  ·simp only [wnI]; rw [hq]; exact (if_neg hne).symm
  ·simp only [wnI]; rw [hq,show qoW ((i:Int)+1)=[iv (i:Int)] by unfold qoW; rw [if_neg hne,show (i:Int)+1-1=i by omega]]
   exact wk3 (.cons (.v _) .nil)
 refine dS (fun hlt=>?_) fun hge=>?_
 ·have hlt:i<n:=by omega
  have e:n-i=(n-(i+1))+1:=by omega
  have hW:IntKind.i64.wrap ((i:Int)+1)=((i+1:Nat):Int):=by rw [W_in (by omega) (by omega)]; omega
  rw [hW]
  have hq:WNX.q ⟨g,n,a,b,i⟩=bif decide (g i<a) then (i:Int)+1 else bif decide (g i > b) then (i:Int)+1 else ixW g a b (n-(i+1)) (i+1):=by simp only [WNX.q,e,ixW]
  refine dT (by omega) (dT hlt (dS (fun h2=>?_) fun h2=>dS (fun h3=>?_) fun h3=>?_))
  ·exact stop (by rw [hq,decide_eq_true h2]; rfl)
  ·exact stop (by rw [hq,decide_eq_false h2,decide_eq_true h3]; rfl)
  ·rw [decide_eq_false h2,decide_eq_false h3,cond_false,cond_false] at hq
   refine LInv.ask_of ⟨rfl,⟨g,n,a,b,i+1⟩,⟨?_,?_,rfl,hlt,hn⟩,?_,[],.of (im:=[some 0,some 1,some 2]) (.cons (.os rfl) (.cons (fn_sub .nil (.cons (.po rfl) (.cons (.po rfl) .nil))) (.cons (.v _) (.cons (.v _) .nil)))) rfl ⟨⟨0,_,rfl,rfl,?_⟩,⟨1,_,rfl,rfl,?_⟩,⟨2,_,rfl,rfl,?_⟩,trivial⟩ rfl (by decide)⟩
   ·simp only [wnI]; rw [hq]; rfl
   ·simp only [wnI]; rw [hq]; rfl
   ·simp only [wnI]; omega
   ·exact lst1_sub _ _
   ·exact lst1_sub _ _
   ·exact ⟨rfl,Nat.le_refl _,trivial,fun j f _ _=>.v _⟩
 ·have hr:WNX.q ⟨g,n,a,b,i⟩=0:=by
   have:n-i=0:=by omega
   simp only [WNX.q,this,ixW]
  refine LInv.ask_of ⟨rfl,?_,[],?_⟩
  ·simp only [wnI]; rw [hr]; rfl
  ·simp only [wnI]; rw [hr]; exact wk3 (.cons (.any _) .nil)
theorem in108w {st:AE.Stat}(hx:Hx st):InOk Tryz.prog st e108w:=⟨Tryz.func108,by kernel_rfl,by kernel_rfl,hx 108 rfl,envH_ok (fun _ h=>nomatch h) (fun _ h=>nomatch h),glOk st,lp_one (by kernel_rfl) (wn_ls hx),rfl⟩
theorem in68w {st:AE.Stat}(hx:Hx st):InOk Tryz.prog st e68w:=⟨Tryz.func68,by kernel_rfl,by kernel_rfl,hx 68 rfl,envH_ok (fun e h=>by obtain rfl:=List.mem_singleton.1 h; exact in108w hx) (fun _ h=>nomatch h),glOk st,(fun _ _ _ h=>nomatch h),rfl⟩
theorem wnC_ok {st:AE.Stat}(hx:Hx st):ConOk Tryz.prog st 75 (wnC wnF):=by
 refine con_flatE (E:=envH Tryz.prog gl0 [e68w] [] noLp 0) (glOk st) (envH_ok (fun e h=>by obtain rfl:=List.mem_singleton.1 h; exact in68w hx) fun _ h=>nomatch h) Tryz.func75 (by kernel_rfl) (by kernel_rfl) (hx 75 rfl) (fun _ _ _ h=>nomatch h) fun args k hk=>?_
 unfold wnC at hk
 split at hk<;>first | (cases hk; done) | skip
 rename_i s a b;obtain ⟨hs,hk⟩:=dec_none hk
 refine ⟨[sv s,kv .u8 a,kv .u8 b],_,.self (.self (.self .nil)),v_clo _,hk,(wn_tree s a b _).trans (dT (by omega) (hT ⟨⟨Nat.zero_le _,hs⟩,[],.of (im:=[some 0,some 1,some 2]) (.cons (.os rfl) (.cons (fn_sub .nil (.cons (.po rfl) (.cons (.po rfl) .nil))) (.cons (.v _) (.cons (.v _) .nil)))) rfl ⟨⟨0,_,rfl,rfl,lst1_sub _ _⟩,⟨1,_,rfl,rfl,lst1_sub _ _⟩,⟨2,_,rfl,rfl,rfl,Nat.le_refl _,trivial,fun j f _ _=>.v _⟩,trivial⟩ rfl (by decide)⟩ ?_))⟩
 by_cases hq:ixW (fun i=>byteAt s i) a b s.size 0=0
 ·refine hT hq (isD_of ?_);unfold wnF;rw [holds_eq.2 hq];rfl
 ·refine hF hq (isD_of ?_)
  have e:holds (ixW (fun i=>byteAt s i) a b s.size 0=0)=false:=Bool.eq_false_iff.2 fun e=>hq (holds_eq.1 e)
  unfold wnF;rw [e];rfl
noncomputable def prF (v:Int) (p s:ByteArray):Bool :=
 bif v==0 then (bif holds (dgN p=0) then (bif s.toList==(⟨#[]⟩:ByteArray).toList then (dgT p).toList==p.toList else false) else false)
 else bif !(p.toList==(⟨#[]⟩:ByteArray).toList) then false
 else bif v==1 then (bif decide ((s.size:Int)<=3) then wnF s 32 47 else false)
 else bif v==2 then (bif decide ((s.size:Int)<=257) then wnF s 32 63 else false)
 else bif v==3 then (bif decide ((s.size:Int)<=256) then wnF s 32 255 else false)
 else bif v==4 then (bif decide ((s.size:Int)<=256) then wnF s 32 255 else false) else false
theorem praC_ok {st:AE.Stat}(hx:Hx st):ConOkZ true Tryz.prog st 34 (praC prF):=by
 refine con_flatZ (mg:=[]) (l:=[(74,dgC dgQ dgN dgT),(75,wnC wnF)]) (lp:=noLp) (n:=0) (glOk st) (fun x h=>?_) Tryz.func34 (by kernel_rfl) (by kernel_rfl) (hx 34 rfl) (fun _ _ _ h=>nomatch h) fun args k hk=>?_
 ·simp only [List.mem_cons,List.not_mem_nil,or_false] at h
  rcases h with rfl | rfl
  ·exact dgC_ok hx
  ·exact (wnC_ok hx).z
 unfold praC at hk
 split at hk<;>first | (cases hk; done) | skip
 rename_i v p s;obtain ⟨hp,hk⟩:=dec_none hk;obtain ⟨hs,hk⟩:=dec_none hk;refine ⟨[.agg [iv v,sv p,sv s]],_,.self .nil,v_clo _,hk,(pra_tree dgQ dgN dgT wnF v p s _).trans ?_⟩;unfold prF
 refine cS (fun e=>hT ⟨rfl,hp⟩ ?_) fun e=>cS (fun e1=>isD_of (by simp only [e,e1,cond_true,cond_false])) fun e1=>?_
 ·by_cases hq:dgN p=0
  ·have e2:=holds_eq.2 hq
   refine hT hq (cS (fun q=>isD_of ?_) fun q=>isD_of ?_)<;>simp only [e,e2,q,cond_true,cond_false]
  ·have e2:holds (dgN p=0)=false:=Bool.eq_false_iff.2 fun e=>hq (holds_eq.1 e)
   have hz:(((dgN p:Nat):Int)==0)=false:=by rw [beq_eq_false_iff_ne]; omega
   refine hF hq (dT (by omega) (dT (by omega) (cS (fun q=>cF hz (isD_of ?_)) fun q=>isD_of ?_)))<;>simp only [e,e2,cond_true,cond_false]
 ·refine cS (fun a1=>cS (fun q=>dT hs (isD_of ?_)) fun q=>isD_of ?_) fun a1=>cS (fun a2=>cS (fun q=>dT hs (isD_of ?_)) fun q=>isD_of ?_) fun a2=>cS (fun a3=>cT a3 (cS (fun q=>dT hs (isD_of ?_)) fun q=>isD_of ?_)) fun a3=>cS (fun a4=>cS (fun q=>dT hs (isD_of ?_)) fun q=>isD_of ?_) fun a4=>isD_of ?_
  all_goals simp only [*,cond_true,cond_false]
noncomputable def idlF (v:Int) (p s:ByteArray):Bool:=bif (bif v==0 then (bif p==⟨#[]⟩ then (bif s==⟨#[]⟩ then true else false) else false) else false) then true else !prF v p s
theorem idC_ok {st:AE.Stat}(hx:Hx st):ConOkZ true Tryz.prog st 12 (praC idlF):=by
 refine con_flatZ (mg:=[]) (l:=[(34,praC prF)]) (lp:=noLp) (n:=0) (glOk st) (fun x h=>?_) Tryz.func12 (by kernel_rfl) (by kernel_rfl) (hx 12 rfl) (fun _ _ _ h=>nomatch h) fun args k hk=>?_
 ·obtain rfl:=List.mem_singleton.1 h;exact praC_ok hx
 unfold praC at hk
 split at hk<;>first | (cases hk; done) | skip
 rename_i v p s;obtain ⟨hp,hk⟩:=dec_none hk;obtain ⟨hs,hk⟩:=dec_none hk;refine ⟨[.agg [iv v,sv p,sv s]],_,.self .nil,v_clo _,hk,(idl_tree prF v p s _).trans ?_⟩;unfold idlF
 refine cS (fun e=>isD_of (by rw [e]; rfl)) fun e=>dT hp (dT hs (isD_of (by rw [e]; rfl)))
end Go.Proofs.YtigmkgampfbflaaGreatDoor
namespace Go.Proofs.YtigmkgampfbflaaGreatDoor
open Go Go.AE Go.DE Go.RowKit
def updF:DC->Nat->List DV->DC
 | c,_,[]=>c
 | c,i,d :: l=>updF (.upd c 0 i d) (i+1) l
end Go.Proofs.YtigmkgampfbflaaGreatDoor
namespace Go.Proofs.YtigmkgampfbflaaGreatDoor
open Go Go.AE Go.DE Go.RowKit
theorem bg_tree (c:Int) (k:DV->Option Unit):bodyD Tryz.prog (env [] noLp 0) Tryz.f113 [kv .u8 c] [] (fun d _=>k d) =
  bif decide (c >= 194) then bif decide (c<=223) then bif c==224 then k (.agg [kv .i32 ((IntKind.wrap .i32 (IntKind.wrap .u8 (↑(BitVec.toNat (BitVec.ofInt 8 c &&& BitVec.ofInt 8 31)):Int)))),iv 1,kv .u8 160,kv .u8 191])
  else bif c==237 then k (.agg [kv .i32 ((IntKind.wrap .i32 (IntKind.wrap .u8 (↑(BitVec.toNat (BitVec.ofInt 8 c &&& BitVec.ofInt 8 31)):Int)))),iv 1,kv .u8 128,kv .u8 159]) else bif c==240 then k (.agg [kv .i32 ((IntKind.wrap .i32 (IntKind.wrap .u8 (↑(BitVec.toNat (BitVec.ofInt 8 c &&& BitVec.ofInt 8 31)):Int)))),iv 1,kv .u8 144,kv .u8 191])
  else bif c==244 then k (.agg [kv .i32 ((IntKind.wrap .i32 (IntKind.wrap .u8 (↑(BitVec.toNat (BitVec.ofInt 8 c &&& BitVec.ofInt 8 31)):Int)))),iv 1,kv .u8 128,kv .u8 143]) else k (.agg [kv .i32 ((IntKind.wrap .i32 (IntKind.wrap .u8 (↑(BitVec.toNat (BitVec.ofInt 8 c &&& BitVec.ofInt 8 31)):Int)))),iv 1,kv .u8 128,kv .u8 191])
  else bif decide (c >= 224) then bif decide (c<=239) then bif c==224 then k (.agg [kv .i32 ((IntKind.wrap .i32 (IntKind.wrap .u8 (↑(BitVec.toNat (BitVec.ofInt 8 c &&& BitVec.ofInt 8 15)):Int)))),iv 2,kv .u8 160,kv .u8 191])
  else bif c==237 then k (.agg [kv .i32 ((IntKind.wrap .i32 (IntKind.wrap .u8 (↑(BitVec.toNat (BitVec.ofInt 8 c &&& BitVec.ofInt 8 15)):Int)))),iv 2,kv .u8 128,kv .u8 159]) else bif c==240 then k (.agg [kv .i32 ((IntKind.wrap .i32 (IntKind.wrap .u8 (↑(BitVec.toNat (BitVec.ofInt 8 c &&& BitVec.ofInt 8 15)):Int)))),iv 2,kv .u8 144,kv .u8 191])
  else bif c==244 then k (.agg [kv .i32 ((IntKind.wrap .i32 (IntKind.wrap .u8 (↑(BitVec.toNat (BitVec.ofInt 8 c &&& BitVec.ofInt 8 15)):Int)))),iv 2,kv .u8 128,kv .u8 143]) else k (.agg [kv .i32 ((IntKind.wrap .i32 (IntKind.wrap .u8 (↑(BitVec.toNat (BitVec.ofInt 8 c &&& BitVec.ofInt 8 15)):Int)))),iv 2,kv .u8 128,kv .u8 191])
  else bif decide (c >= 240) then bif decide (c<=244) then bif c==224 then k (.agg [kv .i32 ((IntKind.wrap .i32 (IntKind.wrap .u8 (↑(BitVec.toNat (BitVec.ofInt 8 c &&& BitVec.ofInt 8 7)):Int)))),iv 3,kv .u8 160,kv .u8 191])
  else bif c==237 then k (.agg [kv .i32 ((IntKind.wrap .i32 (IntKind.wrap .u8 (↑(BitVec.toNat (BitVec.ofInt 8 c &&& BitVec.ofInt 8 7)):Int)))),iv 3,kv .u8 128,kv .u8 159]) else bif c==240 then k (.agg [kv .i32 ((IntKind.wrap .i32 (IntKind.wrap .u8 (↑(BitVec.toNat (BitVec.ofInt 8 c &&& BitVec.ofInt 8 7)):Int)))),iv 3,kv .u8 144,kv .u8 191])
  else bif c==244 then k (.agg [kv .i32 ((IntKind.wrap .i32 (IntKind.wrap .u8 (↑(BitVec.toNat (BitVec.ofInt 8 c &&& BitVec.ofInt 8 7)):Int)))),iv 3,kv .u8 128,kv .u8 143]) else k (.agg [kv .i32 ((IntKind.wrap .i32 (IntKind.wrap .u8 (↑(BitVec.toNat (BitVec.ofInt 8 c &&& BitVec.ofInt 8 7)):Int)))),iv 3,kv .u8 128,kv .u8 191])
  else bif c==224 then k (.agg [kv .i32 0,iv 0,kv .u8 160,kv .u8 191]) else bif c==237 then k (.agg [kv .i32 0,iv 0,kv .u8 128,kv .u8 159]) else bif c==240 then k (.agg [kv .i32 0,iv 0,kv .u8 144,kv .u8 191])
  else bif c==244 then k (.agg [kv .i32 0,iv 0,kv .u8 128,kv .u8 143]) else k (.agg [kv .i32 0,iv 0,kv .u8 128,kv .u8 191]) else bif c==224 then k (.agg [kv .i32 0,iv 0,kv .u8 160,kv .u8 191])
  else bif c==237 then k (.agg [kv .i32 0,iv 0,kv .u8 128,kv .u8 159]) else bif c==240 then k (.agg [kv .i32 0,iv 0,kv .u8 144,kv .u8 191]) else bif c==244 then k (.agg [kv .i32 0,iv 0,kv .u8 128,kv .u8 143])
  else k (.agg [kv .i32 0,iv 0,kv .u8 128,kv .u8 191]) else bif decide (c >= 240) then bif decide (c<=244) then bif c==224 then k (.agg [kv .i32 ((IntKind.wrap .i32 (IntKind.wrap .u8 (↑(BitVec.toNat (BitVec.ofInt 8 c &&& BitVec.ofInt 8 7)):Int)))),iv 3,kv .u8 160,kv .u8 191])
  else bif c==237 then k (.agg [kv .i32 ((IntKind.wrap .i32 (IntKind.wrap .u8 (↑(BitVec.toNat (BitVec.ofInt 8 c &&& BitVec.ofInt 8 7)):Int)))),iv 3,kv .u8 128,kv .u8 159]) else bif c==240 then k (.agg [kv .i32 ((IntKind.wrap .i32 (IntKind.wrap .u8 (↑(BitVec.toNat (BitVec.ofInt 8 c &&& BitVec.ofInt 8 7)):Int)))),iv 3,kv .u8 144,kv .u8 191])
  else bif c==244 then k (.agg [kv .i32 ((IntKind.wrap .i32 (IntKind.wrap .u8 (↑(BitVec.toNat (BitVec.ofInt 8 c &&& BitVec.ofInt 8 7)):Int)))),iv 3,kv .u8 128,kv .u8 143]) else k (.agg [kv .i32 ((IntKind.wrap .i32 (IntKind.wrap .u8 (↑(BitVec.toNat (BitVec.ofInt 8 c &&& BitVec.ofInt 8 7)):Int)))),iv 3,kv .u8 128,kv .u8 191])
  else bif c==224 then k (.agg [kv .i32 0,iv 0,kv .u8 160,kv .u8 191]) else bif c==237 then k (.agg [kv .i32 0,iv 0,kv .u8 128,kv .u8 159]) else bif c==240 then k (.agg [kv .i32 0,iv 0,kv .u8 144,kv .u8 191])
  else bif c==244 then k (.agg [kv .i32 0,iv 0,kv .u8 128,kv .u8 143]) else k (.agg [kv .i32 0,iv 0,kv .u8 128,kv .u8 191]) else bif c==224 then k (.agg [kv .i32 0,iv 0,kv .u8 160,kv .u8 191])
  else bif c==237 then k (.agg [kv .i32 0,iv 0,kv .u8 128,kv .u8 159]) else bif c==240 then k (.agg [kv .i32 0,iv 0,kv .u8 144,kv .u8 191]) else bif c==244 then k (.agg [kv .i32 0,iv 0,kv .u8 128,kv .u8 143])
  else k (.agg [kv .i32 0,iv 0,kv .u8 128,kv .u8 191]) else bif decide (c >= 224) then bif decide (c<=239) then bif c==224 then k (.agg [kv .i32 ((IntKind.wrap .i32 (IntKind.wrap .u8 (↑(BitVec.toNat (BitVec.ofInt 8 c &&& BitVec.ofInt 8 15)):Int)))),iv 2,kv .u8 160,kv .u8 191])
  else bif c==237 then k (.agg [kv .i32 ((IntKind.wrap .i32 (IntKind.wrap .u8 (↑(BitVec.toNat (BitVec.ofInt 8 c &&& BitVec.ofInt 8 15)):Int)))),iv 2,kv .u8 128,kv .u8 159]) else bif c==240 then k (.agg [kv .i32 ((IntKind.wrap .i32 (IntKind.wrap .u8 (↑(BitVec.toNat (BitVec.ofInt 8 c &&& BitVec.ofInt 8 15)):Int)))),iv 2,kv .u8 144,kv .u8 191])
  else bif c==244 then k (.agg [kv .i32 ((IntKind.wrap .i32 (IntKind.wrap .u8 (↑(BitVec.toNat (BitVec.ofInt 8 c &&& BitVec.ofInt 8 15)):Int)))),iv 2,kv .u8 128,kv .u8 143]) else k (.agg [kv .i32 ((IntKind.wrap .i32 (IntKind.wrap .u8 (↑(BitVec.toNat (BitVec.ofInt 8 c &&& BitVec.ofInt 8 15)):Int)))),iv 2,kv .u8 128,kv .u8 191])
  else bif decide (c >= 240) then bif decide (c<=244) then bif c==224 then k (.agg [kv .i32 ((IntKind.wrap .i32 (IntKind.wrap .u8 (↑(BitVec.toNat (BitVec.ofInt 8 c &&& BitVec.ofInt 8 7)):Int)))),iv 3,kv .u8 160,kv .u8 191])
  else bif c==237 then k (.agg [kv .i32 ((IntKind.wrap .i32 (IntKind.wrap .u8 (↑(BitVec.toNat (BitVec.ofInt 8 c &&& BitVec.ofInt 8 7)):Int)))),iv 3,kv .u8 128,kv .u8 159]) else bif c==240 then k (.agg [kv .i32 ((IntKind.wrap .i32 (IntKind.wrap .u8 (↑(BitVec.toNat (BitVec.ofInt 8 c &&& BitVec.ofInt 8 7)):Int)))),iv 3,kv .u8 144,kv .u8 191])
  else bif c==244 then k (.agg [kv .i32 ((IntKind.wrap .i32 (IntKind.wrap .u8 (↑(BitVec.toNat (BitVec.ofInt 8 c &&& BitVec.ofInt 8 7)):Int)))),iv 3,kv .u8 128,kv .u8 143]) else k (.agg [kv .i32 ((IntKind.wrap .i32 (IntKind.wrap .u8 (↑(BitVec.toNat (BitVec.ofInt 8 c &&& BitVec.ofInt 8 7)):Int)))),iv 3,kv .u8 128,kv .u8 191])
  else bif c==224 then k (.agg [kv .i32 0,iv 0,kv .u8 160,kv .u8 191]) else bif c==237 then k (.agg [kv .i32 0,iv 0,kv .u8 128,kv .u8 159]) else bif c==240 then k (.agg [kv .i32 0,iv 0,kv .u8 144,kv .u8 191])
  else bif c==244 then k (.agg [kv .i32 0,iv 0,kv .u8 128,kv .u8 143]) else k (.agg [kv .i32 0,iv 0,kv .u8 128,kv .u8 191]) else bif c==224 then k (.agg [kv .i32 0,iv 0,kv .u8 160,kv .u8 191])
  else bif c==237 then k (.agg [kv .i32 0,iv 0,kv .u8 128,kv .u8 159]) else bif c==240 then k (.agg [kv .i32 0,iv 0,kv .u8 144,kv .u8 191]) else bif c==244 then k (.agg [kv .i32 0,iv 0,kv .u8 128,kv .u8 143])
  else k (.agg [kv .i32 0,iv 0,kv .u8 128,kv .u8 191]) else bif decide (c >= 240) then bif decide (c<=244) then bif c==224 then k (.agg [kv .i32 ((IntKind.wrap .i32 (IntKind.wrap .u8 (↑(BitVec.toNat (BitVec.ofInt 8 c &&& BitVec.ofInt 8 7)):Int)))),iv 3,kv .u8 160,kv .u8 191])
  else bif c==237 then k (.agg [kv .i32 ((IntKind.wrap .i32 (IntKind.wrap .u8 (↑(BitVec.toNat (BitVec.ofInt 8 c &&& BitVec.ofInt 8 7)):Int)))),iv 3,kv .u8 128,kv .u8 159]) else bif c==240 then k (.agg [kv .i32 ((IntKind.wrap .i32 (IntKind.wrap .u8 (↑(BitVec.toNat (BitVec.ofInt 8 c &&& BitVec.ofInt 8 7)):Int)))),iv 3,kv .u8 144,kv .u8 191])
  else bif c==244 then k (.agg [kv .i32 ((IntKind.wrap .i32 (IntKind.wrap .u8 (↑(BitVec.toNat (BitVec.ofInt 8 c &&& BitVec.ofInt 8 7)):Int)))),iv 3,kv .u8 128,kv .u8 143]) else k (.agg [kv .i32 ((IntKind.wrap .i32 (IntKind.wrap .u8 (↑(BitVec.toNat (BitVec.ofInt 8 c &&& BitVec.ofInt 8 7)):Int)))),iv 3,kv .u8 128,kv .u8 191])
  else bif c==224 then k (.agg [kv .i32 0,iv 0,kv .u8 160,kv .u8 191]) else bif c==237 then k (.agg [kv .i32 0,iv 0,kv .u8 128,kv .u8 159]) else bif c==240 then k (.agg [kv .i32 0,iv 0,kv .u8 144,kv .u8 191])
  else bif c==244 then k (.agg [kv .i32 0,iv 0,kv .u8 128,kv .u8 143]) else k (.agg [kv .i32 0,iv 0,kv .u8 128,kv .u8 191]) else bif c==224 then k (.agg [kv .i32 0,iv 0,kv .u8 160,kv .u8 191])
  else bif c==237 then k (.agg [kv .i32 0,iv 0,kv .u8 128,kv .u8 159]) else bif c==240 then k (.agg [kv .i32 0,iv 0,kv .u8 144,kv .u8 191]) else bif c==244 then k (.agg [kv .i32 0,iv 0,kv .u8 128,kv .u8 143])
  else k (.agg [kv .i32 0,iv 0,kv .u8 128,kv .u8 191]):=by
 kernel_rfl
noncomputable def bgC (Q:Int->Prop):ConF:=fun args k=>match args with
 | [.v (.int .u8 c)]=>bif holds (Q c) then k (fun _=>(.agg [kv .i32 0,iv 0,kv .u8 128,kv .u8 191],[])) else none
 | _=>none
noncomputable def rgC (Q:List DV->Prop):ConF:=fun args k=>match args with
 | [.agg l]=>bif holds (Q l) then k (fun _=>(bv true,[])) else none
 | _=>none
end Go.Proofs.YtigmkgampfbflaaGreatDoor
namespace Go.Proofs.YtigmkgampfbflaaGreatDoor
open Go Go.AE Go.DE Go.RowKit
def ascii (c:Int):Prop:=0<=c/\c<128
theorem bg_true (c:Int) (h0:0<=c) (h1:c<128):bodyD Tryz.prog (env [] noLp 0) Tryz.f113 [kv .u8 c] [] (fun d _=>isD (.agg [kv .i32 0,iv 0,kv .u8 128,kv .u8 191]) d)=some ():=by
 refine (bg_tree c _).trans ?_
 repeat' (first | exact isD_of rfl | refine dF (by omega) ?_ | refine cF (by simp; omega) ?_)
theorem bgC_ok {st:AE.Stat}(hx:Hx st):ConOk Tryz.prog st 113 (bgC ascii):=by
 refine con_flat (mg:=[]) (l:=[]) (lp:=noLp) (n:=0) (glOk st) (fun _ h=>nomatch h) Tryz.func113 (by kernel_rfl) (by kernel_rfl) (hx 113 rfl) (fun _ _ _ h=>nomatch h) fun args k hk=>?_
 unfold bgC at hk
 split at hk<;>first | (cases hk; done) | skip
 rename_i c;obtain ⟨hb,hk⟩:=bif_none hk;obtain ⟨h0,h1⟩:=holds_eq.1 hb;exact ⟨[kv .u8 c],_,.self .nil,agg_clo rfl,hk,bg_true c h0 h1⟩
noncomputable def vkC (Q:List DV->Prop):ConF:=fun args k=>match args with
 | [.agg l]=>bif holds (Q l) then k (fun _=>(iv 0,[])) else none
 | _=>none
end Go.Proofs.YtigmkgampfbflaaGreatDoor
