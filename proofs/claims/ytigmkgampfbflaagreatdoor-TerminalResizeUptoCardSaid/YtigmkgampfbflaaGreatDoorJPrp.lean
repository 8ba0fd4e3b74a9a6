/-
 Plain laws: what the reference takes for proper is proper for the program; a terminal out of its cells.
 Conditions: none beyond those of the contracts.
-/
import Derived.Test.YtigmkgampfbflaaGreatDoorJUtf
import Derived.Test.YtigmkgampfbflaaGreatDoorJGr
namespace Go.Proofs.YtigmkgampfbflaaGreatDoor
open Go Go.AE Go.DE Go.RowKit
theorem marks_same {z y:Nat→Int}:∀ (m i:Nat),(∀ j,i≤j→j<i+m→y j=z (1+j))→mrkR (findF mkL) y m i=marksF z m (1+i)
 | 0,_,_=>rfl
 | m+1,i,h=>by
  rw [mrkR,marksF,mk_same,h i (Nat.le_refl _) (by omega),marks_same m (i+1) fun j h1 h2=>h j (by omega) (by omega),show 1+(i+1)=1+i+1 by omega]
theorem cond_n {b:Bool}{x y v:Int}(h:(bif b then x else y)=v) (hx:x≠v):b=false∧y=v:=by
 cases b with
 | true=>exact absurd h hx
 | false=>exact ⟨rfl,h⟩
theorem cond_y {b:Bool}{x y v:Int}(h:(bif b then x else y)=v) (hy:y≠v):b=true∧x=v:=by
 cases b with
 | true=>exact ⟨rfl,h⟩
 | false=>exact absurd h hy
theorem check3_zero {s:ByteArray}(h:check3 s=0):ccF s=0∧cdF s=width3 s:=by
 have h0:=h
 unfold check3 at h
 obtain ⟨h1,h⟩:=cond_n h (by decide)
 obtain ⟨h2,h⟩:=cond_y h (by decide)
 obtain ⟨h3,h⟩:=cond_n h (by decide)
 obtain ⟨h4,h⟩:=cond_n h (by decide)
 obtain ⟨h5,h⟩:=cond_y h (by decide)
 obtain ⟨h6,_⟩:=cond_n h (by decide)
 have hp:=check3_ne h0
 obtain ⟨r1,r2⟩:=valid_rune h2
 have hc:ccF s=0:=by
  have e4:decide (cwF (runeAt s 0)<1)=false:=by rw [cw_same,r2 0 hp]; exact h4
  have e5:mrkF (fun i=>runeAt s (1+i)) (runeN s-1)=true:=by
   unfold mrkF
   rw [marks_same (z:=lw (decF s).1) _ 0 fun j _ hj=>r2 (1+j) (by omega),r1]
   exact h5
  have e6:decide ((runeN s:Int)-1 > 3)=false:=by
   have h6:=of_decide_eq_false h6
   rw [r1]
   exact decide_eq_false (by omega)
  unfold ccF
  rw [h1,valid_vd h2,e4,e5,e6]
  rfl
 refine ⟨hc,?_⟩
 unfold cdF width3
 rw [hc,if_pos h0,cw_same,r2 0 hp]
 rfl
theorem c7_zero {r:Row}:∀ (m i:Nat),c7 r m i=0→p7 ccF cdF r m i=0
 | 0,_,_=>rfl
 | m+1,i,h=>by
  rw [c7] at h
  rw [p7]
  by_cases hi:i<r.n
  ·rw [if_pos hi] at h ⊢
   unfold c7s at h
   unfold p7s
   obtain ⟨h1,h⟩:=cond_n h (by decide)
   obtain ⟨h2,h⟩:=cond_n h (by decide)
   obtain ⟨h3,h⟩:=cond_n h (by decide)
   obtain ⟨e1,e2⟩:=check3_zero (s:=r.tx i) (by simpa using h2)
   rw [h1,e1,e2,h3]
   cases h4:r.wd i==1 with
   | true =>
    rw [h4,cond_true] at h
    exact c7_zero m _ h
   | false =>
    rw [h4,cond_false] at h
    obtain ⟨h5,h⟩:=cond_n h (by decide)
    obtain ⟨h6,h⟩:=cond_y h (by decide)
    rw [h5,h6]
    exact c7_zero m _ h
  ·rw [if_neg hi]
theorem check7_zero {r:Row}(h:check7 r=0):rowF r=0∧1≤r.n∧r.n≤132:=by
 unfold check7 at h
 obtain ⟨h1,h⟩:=cond_n h (by decide)
 obtain ⟨h2,h⟩:=cond_n h (by decide)
 refine ⟨?_,by have:=of_decide_eq_false h1; omega,by have:=of_decide_eq_false h2; omega⟩
 unfold rowF
 rw [h1,h2]
 exact c7_zero _ _ h
theorem g8_zero {R:Nat→Row}{w:Int}:∀ (m i:Nat),g8 R w m i=0→∀ j,i≤j→j<i+m→((R j).n:Int)=w∧check7 (R j)=0
 | 0,i,_,j,h1,h2=>by omega
 | m+1,i,h,j,h1,h2=>by
  rw [g8] at h
  unfold g8s at h
  obtain ⟨q1,h⟩:=cond_n h (by decide)
  cases q2:check7 (R i) != 0 with
  | true =>
   rw [q2,cond_true] at h
   rw [h] at q2
   cases q2
  | false =>
   rw [q2,cond_false] at h
   by_cases e:i=j
   ·subst e
    exact ⟨by simpa using q1,by simpa using q2⟩
   ·exact g8_zero m (i+1) h j (by omega) (by omega)
theorem check8_zero {w h:Int}{R:Nat→Row}{n:Nat}(hz:check8 w h R n=0):1≤w∧w≤132∧1≤h∧h≤60∧(n:Int)=h∧∀ j,j<n→((R j).n:Int)=w∧check7 (R j)=0:=by
 unfold check8 at hz
 obtain ⟨h1,hz⟩:=cond_y hz (by decide)
 obtain ⟨h2,hz⟩:=cond_n hz (by decide)
 simp only [Bool.and_eq_true,decide_eq_true_eq] at h1
 refine ⟨by omega,by omega,by omega,by omega,by simpa using h2,fun j hj=>g8_zero n 0 hz j (Nat.zero_le _) (by omega)⟩
theorem backF_all {R:Nat→Row}:∀ (m i:Nat),backF R m i=true→∀ j,i≤j→j<i+m→check7 (R j)=0
 | 0,i,_,j,h1,h2=>by omega
 | m+1,i,h,j,h1,h2=>by
  rw [backF] at h
  cases q:check7 (R i) != 0 with
  | true=>rw [q] at h; cases h
  | false =>
   rw [q,cond_false] at h
   by_cases e:i=j
   ·subst e; simpa using q
   ·exact backF_all m (i+1) h j (by omega) (by omega)
theorem cond_ff {b c:Bool}:((bif b then false else c)=true) ↔ b=false∧c=true:=by cases b<;>simp
structure Prp (x:Tm):Prop where
 g:check8 (x.I 0) (x.I 1) x.gR x.gn=0
 o:check8 (x.I 3) (x.I 4) x.oR x.on=0
 w:x.I 0=x.I 3
 h:x.I 1=x.I 4
 c:insF (x.I 6) (x.I 7) (x.B 8) (x.I 0) (x.I 1)=true
 d:insF (x.I 9) (x.I 10) (x.B 11) (x.I 0) (x.I 1)=true
 a:rgtF (x.I 19) (x.I 20) (x.I 21)≠0
 a2:rgtF (x.I 12) (x.I 13) (x.I 14)≠0
 s:setF (x.I 30) (x.I 31) (x.I 32)=true
 s2:setF (x.I 16) (x.I 17) (x.I 18)=true
 t0:0≤x.I 33
 t1:x.I 33<x.I 34
 t2:x.I 34≤x.I 1
 tn:(x.tn:Int)=x.I 0
 bn:(x.bn:Int)≤500
 v:validF (x.S 40)=true
 b:∀ j,j<x.bn→check7 (x.bR j)=0
theorem proper_all {x:Tm}(h:properF x=true):Prp x:=by
 unfold properF at h
 simp only [cond_ff] at h
 obtain ⟨h1,h2,h3,h4,h5,h6,h7,h8,h9,h10,h11,h12,h13,h14,h15,h16,h17⟩:=h
 have n1:∀ {p:Prop} [Decidable p],decide p=false→¬ p:=fun h=>of_decide_eq_false h
 exact ⟨by simpa using h1,by simpa using h2,by simpa using h3,by simpa using h4,by simpa using h5,by simpa using h6,by simpa using h7,by simpa using h8,by simpa using h9,by simpa using h10,
  by have:=n1 h11; omega,by have:=n1 h12; omega,by have:=n1 h13; omega,by simpa using h14,by have:=n1 h15; omega,by simpa using h16,fun j hj=>backF_all _ _ h17 j (Nat.zero_le _) (by omega)⟩
theorem Prp.rows {x:Tm}(p:Prp x) {j:Nat}(hj:j<x.gn):((x.gR j).n:Int)=x.I 0∧rowF (x.gR j)=0:=by
 obtain ⟨_,_,_,_,_,h⟩:=check8_zero p.g
 exact ⟨(h j hj).1,(check7_zero (h j hj).2).1⟩
def tmOf (ds:List DV):Tm where
 I j:=numD (ds.getD j .any)
 B j:=boolD (ds.getD j .any)
 S j:=strD (ds.getD j .any)
 gT i:=slT (slG (ds.getD 2 .any) i 0)
 gR i:=rowD (slG (ds.getD 2 .any) i 0)
 gn:=slN (ds.getD 2 .any)
 oT i:=slT (slG (ds.getD 5 .any) i 0)
 oR i:=rowD (slG (ds.getD 5 .any) i 0)
 on:=slN (ds.getD 5 .any)
 tb i:=boolD (slG (ds.getD 35 .any) i 0)
 tn:=slN (ds.getD 35 .any)
 bT i:=slT (slG (ds.getD 36 .any) i 0)
 bR i:=rowD (slG (ds.getD 36 .any) i 0)
 bn:=slN (ds.getD 36 .any)
def rowsPos (R:Nat→Row) (n:Nat):Prop:=n≤9000000∧∀ i,i<n→(R i).sized∧0<(R i).n
def rowsAre (G:Nat→Nat→DV) (n:Nat):Prop:=n≤9000000∧∀ i,i<n→isRow (G i 0)∧0<slN (G i 0)
def Tm.pos (x:Tm):Prop:=rowsPos x.gR x.gn∧rowsPos x.oR x.on∧rowsPos x.bR x.bn∧x.tn≤9000000∧0<x.tn
theorem are_of {T:Nat→Bool}{R:Nat→Row}{n:Nat}(h:rowsPos R n):rowsAre (rowsD T R) n:=⟨h.1,fun i hi=>⟨isRow_of (h.2 i hi).1,(h.2 i hi).2⟩⟩
def tmOk (l:List DV):Prop:=l=(tmOf l).cells∧(tmOf l).ok
theorem Prp.pos {x:Tm}(p:Prp x) (ok:x.ok):x.pos:=by
 obtain ⟨a1,a2,a3,a4,a5,a6⟩:=check8_zero p.g
 obtain ⟨b1,b2,b3,b4,b5,b6⟩:=check8_zero p.o
 obtain ⟨o1,o2,o3,o4,o5,o6⟩:=ok
 have tn:=p.tn
 refine ⟨⟨o1.1,fun i hi=>⟨o1.2 i hi,?_⟩⟩,⟨o2.1,fun i hi=>⟨o2.2 i hi,?_⟩⟩,⟨o3.1,fun i hi=>⟨o3.2 i hi,?_⟩⟩,o4,by omega⟩
 ·have:=(check7_zero (a6 i hi).2).2.1; omega
 ·have:=(check7_zero (b6 i hi).2).2.1; omega
 ·have:=(check7_zero (p.b i hi)).2.1; omega
end Go.Proofs.YtigmkgampfbflaaGreatDoor
namespace Go.Proofs.YtigmkgampfbflaaGreatDoor
open Go Go.AE Go.DE Go.RowKit
noncomputable def b5N:ConF:=inl2 Tryz.prog (env [] noLp 0) Tryz.f155
theorem b5N_ok {st:AE.Stat}(hx:Hx st):ConOk Tryz.prog st 155 b5N:=inl2_ok Tryz.func155 (by kernel_rfl) (by kernel_rfl) (hx 155 rfl) (glOk st) (tblD_env (l:=[]) fun _ h=>nomatch h) (fun _ _ _ h=>nomatch h)
theorem b5N_z {st:AE.Stat}(hx:Hx st):ConOkZ true Tryz.prog st 155 b5N:=(b5N_ok hx).z
theorem b90_loop (w a c:Int) (i:Nat) (K:Ex→Nat→List DV→List DV→DHeap→Option Unit):execD Tryz.prog (envZ [(155,b5N)] noLp 0) (loopAt Tryz.f95 122) 500 (temps 25 [0,3,5,6] [iv w,.po 0 0 0,nilS,iv i]) [some ⟨3,.lst [[iv a,iv (-1),iv c]]⟩,none] (fun e τ σ=>K e τ.length (pick [0,3,5,6] τ) (pick [5] τ) σ) =
  bif decide ((i:Int)<w) then K .normal 25 [iv w,.po 0 0 0,.os 3 0 1,iv (IntKind.wrap .i64 ((i:Int)+1))] [.os 3 0 1] [some ⟨3,.lst [[iv a,iv (-1:Int),iv c]]⟩,none,some ⟨5,.lst [[sv ({ data:=#[(32:UInt8)] }),iv 1,iv (-1:Int),iv (-1:Int),iv 0]]⟩,some ⟨5,.lst [[sv ({ data:=#[(32:UInt8)] }),iv 1,iv (-1:Int),iv (-1:Int),iv 0]]⟩]
  else K (.exit 0) 25 [iv w,.po 0 0 0,DV.v (Value.slice none 0 0),iv (i:Int)] [DV.v (Value.slice none 0 0)] [some ⟨3,.lst [[iv a,iv (-1:Int),iv c]]⟩,none]:=by
 kernel_rfl
theorem b91_loop (w a c:Int) (n i:Nat) (g:Nat→Nat→DV) (K:Ex→Nat→List DV→List DV→DHeap→Option Unit):execD Tryz.prog (envZ [(155,b5N)] noLp 0) (loopAt Tryz.f95 122) 500 (temps 25 [0,3,5,6] [iv w,.po 0 0 0,.os 1 0 n,iv i]) [some ⟨3,.lst [[iv a,iv (-1),iv c]]⟩,some ⟨5,.tab n g⟩] (fun e τ σ=>K e τ.length (pick [0,3,5,6] τ) (pick [5] τ) σ) =
  bif decide ((i:Int)<w) then bif decide (n≤DC.n (.tab n g)) then bif decide ((n+1)*(48:Nat)≤140737488355328) then K .normal 25 [iv w,.po 0 0 0,.os 3 0 (n+1),iv (IntKind.wrap .i64 ((i:Int)+1))] [.os 3 0 (n+1)] [some ⟨3,.lst [[iv a,iv (-1:Int),iv c]]⟩,none,some ⟨5,.lst [[sv ({ data:=#[(32:UInt8)] }),iv 1,iv (-1:Int),iv (-1:Int),iv 0]]⟩,some ⟨5,.app (.pre (.tab n g) n) (.lst [[sv ({ data:=#[(32:UInt8)] }),iv 1,iv (-1:Int),iv (-1:Int),iv 0]])⟩]
  else none else none else K (.exit 0) 25 [iv w,.po 0 0 0,.os 1 0 n,iv (i:Int)] [.os 1 0 n] [some ⟨3,.lst [[iv a,iv (-1:Int),iv c]]⟩,some ⟨5,.tab n g⟩]:=by
 kernel_rfl
structure B9X where
 a:Int
 c:Int
 w:Nat
 i:Nat
def b9d:Nat→DV
 | 0=>nilS
 | n+1=>.os 1 0 (n+1)
def b9h (g:Nat→Nat→DV):Nat→Option DBlk
 | 0=>none
 | n+1=>some ⟨5,.tab (n+1) g⟩
noncomputable def b9I:LInv B9X where
 pre x:=x.i≤x.w∧1≤x.w∧x.w≤132
 m:=1
 n:=25
 ps:=[0,3,5,6]
 sd x:=[iv x.w,.po 0 0 0,b9d x.i,iv x.i]
 sh x:=[some ⟨3,.lst [[iv x.a,iv (-1),iv x.c]]⟩,b9h (blkB 0) x.i]
 meas x:=x.w-x.i
 e _:=.exit 0
 qs:=[5]
 od x:=[.os 1 0 x.w]
 oh x:=[none,some ⟨5,.tab x.w (blkB 0)⟩]
 guess ds σ:=match ds,σ with
  | [.v (.int .i64 w),_,_,_],[some b]=>match b.c.get 0 0,b.c.get 0 2 with
   | .v (.int .i64 a),.v (.int .i64 c)=>some ⟨a,c,w.toNat,0⟩
   | _,_=>none
  | _,_=>none
 cps x k:=k (.exit 0) [.os 1 0 x.w] [none,some ⟨5,.tab x.w (blkB 0)⟩]
def b9Z (a c:Int):DBlk:=⟨3,.lst [[iv a,iv (-1),iv c]]⟩
theorem b9Z_kb (a c:Int):KB (b9Z a c):=.lst (lst3 (.v _) (.v _) (.v _)) (Nat.le_refl _)
theorem b9_one {r:Nat→Option Nat}:SubC r ⟨5,.tab 1 (blkB 0)⟩ ⟨5,.lst [[.v (.string ⟨⟨[32]⟩⟩),iv 1,iv (-1),iv (-1),iv 0]]⟩:=⟨rfl,Nat.le_refl _,trivial,fun j f hj hf=>by
 have hj:j<1:=hj
 have hf:f<5:=hf
 obtain rfl:j=0:=by omega
 match f,hf with
 | 0,_=>exact .v _
 | 1,_=>exact .v _
 | 2,_=>exact .v _
 | 3,_=>exact .v _
 | 4,_=>exact .v _⟩
theorem blkB_clo (w:Int) (i f:Nat):Clo (blkB w i f):=by
 match f with
 | 0=>exact .v _
 | 1=>exact .v _
 | 2=>exact .v _
 | 3=>exact .v _
 | _+4=>exact .v _
theorem b9_app {r:Nat→Option Nat}{n:Nat}:SubC r ⟨5,.tab (n+1) (blkB 0)⟩ ⟨5,.app (.pre (.tab n (blkB 0)) n) (.lst [[.v (.string ⟨⟨[32]⟩⟩),iv 1,iv (-1),iv (-1),iv 0]])⟩:=⟨rfl,Nat.le_refl _,trivial,fun j f hj hf=>by
 have hj:j<n+1:=hj
 have hf:f<5:=hf
 show Sub _ (blkB 0 j f) (if j<n then blkB 0 j f else ([[.v (.string ⟨⟨[32]⟩⟩),iv 1,iv (-1),iv (-1),iv 0]].getD (j-n) []).getD f .any)
 by_cases hjn:j<n
 ·rw [if_pos hjn]
  exact .of_clo (blkB_clo _ _ _)
 ·obtain rfl:j=n:=by omega
  rw [if_neg hjn,Nat.sub_self]
  match f,hf with
  | 0,_=>exact .v _
  | 1,_=>exact .v _
  | 2,_=>exact .v _
  | 3,_=>exact .v _
  | 4,_=>exact .v _⟩
theorem tm_b9 {w:Nat}{ids:List Nat}{d d2:DV}{x:Int}{i:Nat}(hd:Sub (ren 1 ids) d2 d) (hx:x=(i:Int)):SubL (ren 1 ids) [iv w,.po 0 0 0,d2,iv i] [iv w,.po 0 0 0,d,iv x]:=by
 subst hx
 exact .cons (.v _) (.cons (.po rfl) (.cons hd (.cons (.v _) .nil)))
theorem b9_ls {st:AE.Stat}(hx:Hx st):LoopSR true Tryz.prog st gl0 (.loop (loopAt Tryz.f95 122)) b9I.g:=by
 refine b9I.ok (E:=envZ [(155,b5N)] noLp 0) (p:=500) (tblD_env (l:=[(155,b5N)]) fun x h=>?_) (glOk st).1 (fun _ _ _ h=>nomatch h) (fun x k h=>h) fun x hx2=>?_
 ·simp only [List.mem_cons,List.not_mem_nil,or_false] at h
  subst h
  dsimp only
  exact b5N_z hx
 obtain ⟨a,c,w,i⟩:=x
 obtain ⟨hi,h1,h2⟩:i≤w∧1≤w∧w≤132:=hx2
 cases i with
 | zero =>
  refine (b90_loop w a c 0 _).trans ?_
  exact dT (by omega) (LInv.ask_of ⟨rfl,⟨a,c,w,1⟩,⟨rfl,rfl,rfl,h1,h1,h2⟩,by simp only [b9I]; omega,[3],.of (im:=[some 0,some 3]) (tm_b9 (i:=1) (.os rfl) (by rw [W_in (by decide) (by decide)]; rfl)) rfl ⟨⟨0,_,rfl,rfl,(b9Z_kb a c).sub⟩,⟨3,_,rfl,rfl,b9_one⟩,trivial⟩ rfl (by decide)⟩)
 | succ i =>
  refine (b91_loop w a c (i+1) (i+1) (blkB 0) _).trans ?_
  refine dS (fun hlt=>?_) fun hge=>?_
  ·have hlt:i+1<w:=by omega
   exact dT (Nat.le_refl _) (dT (by omega) (LInv.ask_of ⟨rfl,⟨a,c,w,i+2⟩,⟨rfl,rfl,rfl,hlt,h1,h2⟩,by simp only [b9I]; omega,[3],.of (im:=[some 0,some 3]) (tm_b9 (i:=i+2) (.os rfl) (by rw [W_in (by omega) (by omega)]; omega)) rfl ⟨⟨0,_,rfl,rfl,(b9Z_kb a c).sub⟩,⟨3,_,rfl,rfl,b9_app⟩,trivial⟩ rfl (by decide)⟩))
  ·obtain rfl:w=i+1:=by omega
   exact LInv.ask_of ⟨rfl,rfl,[1],.of (im:=[some 1]) (.cons (.os rfl) .nil) rfl ⟨⟨1,_,rfl,rfl,rfl,Nat.le_refl _,trivial,fun j f hj hf=>.of_clo (blkB_clo _ _ _)⟩,trivial⟩ rfl (by decide)⟩
theorem b9_tree (w a c:Int) (K:DV→DHeap→Option Unit):bodyD Tryz.prog (envH Tryz.prog gl0 [] [(155,b5N)] (lpOf [(122,b9I.g)]) 0 [] true) Tryz.f95 [iv w,.agg [iv a,iv (-1),iv c]] [] (fun d σ=>K d σ) =
  bif decide (w<1) then K (DV.v (Value.slice none 0 0)) [some ⟨3,.lst [[iv a,iv (-1:Int),iv c]]⟩] else bif decide (w > 132) then K (DV.v (Value.slice none 0 0)) [some ⟨3,.lst [[iv a,iv (-1:Int),iv c]]⟩]
  else bif holds ((Nat.le 0 (Int.toNat w)∧Nat.le 1 (Int.toNat w)∧Nat.le (Int.toNat w) 132)∧∃ ids,WkP 1 ids [iv w,.po 0 0 0,DV.v (Value.slice none 0 0),iv 0] [some ⟨3,.lst [[iv a,iv (-1:Int),iv c]]⟩] [iv (↑(Int.toNat w):Int),.po 0 0 0,DV.v (Value.slice none 0 0),iv 0] [some ⟨3,.lst [[iv a,iv (-1:Int),iv c]]⟩,none])
  then K (.os 1 0 (Int.toNat w)) [none,some ⟨5,.tab (Int.toNat w) (blkB 0)⟩] else none:=by
 kernel_rfl
theorem b9C_ok {st:AE.Stat}(hx:Hx st):ConOkZ true Tryz.prog st 95 (b4C blkB):=by
 refine con_frz (E:=envH Tryz.prog gl0 [] [(155,b5N)] (lpOf [(122,b9I.g)]) 0 [] true) rfl (glOk st) (envH_ok (fun e h=>nomatch h) fun x h=>?_) Tryz.func95 (by kernel_rfl) (by kernel_rfl) (hx 95 rfl)
  (lp_in (c0:=.loop (loopAt Tryz.f95 122)) (by kernel_rfl) (b9_ls hx)) fun args k hk=>?_
 ·simp only [List.mem_cons,List.not_mem_nil,or_false] at h
  subst h
  dsimp only
  exact b5N_z hx
 unfold b4C at hk
 split at hk<;>first | (cases hk; done) | skip
 rename_i w a c
 obtain ⟨hb,hk⟩:=bif_none hk
 obtain ⟨h1,h2⟩:=and_dec hb
 obtain ⟨n,rfl⟩:∃ n:Nat,w=n:=⟨w.toNat,by omega⟩
 refine ⟨[iv n,.agg [iv a,iv (-1),iv c]],_,.self (.self .nil),.sl fun i f _ _=>row_low _ _ _,hk,(b9_tree n a c _).trans ?_⟩
 refine dF (by omega) (dF (by omega) (hT ⟨⟨Nat.zero_le _,by show 1≤(n:Int).toNat; omega,by show (n:Int).toNat≤132; omega⟩,[1],?_⟩ ?_))
 ·simp only [Int.toNat_natCast]
  exact .of (im:=[some 0]) (tm_b9 (i:=0) (.v _) rfl) rfl ⟨⟨0,_,rfl,rfl,(b9Z_kb a c).sub⟩,trivial⟩ rfl (by decide)
 ·simp only [Int.toNat_natCast]
  refine fzq_of ⟨[1],SubZ.fz0 (c:=.tab n (blkB 0)) rfl (Nat.le_refl _) fun _ _=>rfl,fun j hj blk hb i f _ _=>?_⟩
  obtain rfl:j=1:=by simpa using hj
  obtain rfl:(⟨5,.tab n (blkB 0)⟩:DBlk)=blk:=Option.some.inj (Option.some.inj hb)
  exact blkB_clo _ i f
end Go.Proofs.YtigmkgampfbflaaGreatDoor
namespace Go.Proofs.YtigmkgampfbflaaGreatDoor
open Go Go.AE Go.DE Go.RowKit
noncomputable abbrev s8N:ConF:=inl2 Tryz.prog (env [] noLp 0) Tryz.f88
theorem s8N_ok {st:AE.Stat}(hx:Hx st):ConOk Tryz.prog st 88 s8N:=inl2_ok Tryz.func88 (by kernel_rfl) (by kernel_rfl) (hx 88 rfl) (glOk st) (tblD_env (l:=[]) fun _ h=>nomatch h) (fun _ _ _ h=>nomatch h)
theorem n80_loop (w h:Int) (i:Int) (B:Int→Nat→Nat→DV) (b0:Option DBlk) (K:Ex→Nat→List DV→List DV→DHeap→Option Unit):execD Tryz.prog (envZ [(95,b4C B)] noLp 0) (loopAt Tryz.f51 122) 500 (temps 30 [0,1,4,6,7] [iv w,iv h,.po 0 0 0,.po 1 0 0,iv i]) [b0,some ⟨3,.lst [[iv w,iv h,.v (.slice none 0 0)]]⟩,none] (fun e τ σ=>K e τ.length (pick [0,1,4,6,7] τ) (pick [4,6] τ) σ) =
  bif decide (i<h) then bif bif decide (1≤w) then decide (w≤30) else false then K .normal 30 [iv w,iv h,.po 0 0 0,.po 1 0 0,iv (IntKind.wrap .i64 (i+1))] [.po 0 0 0,.po 1 0 0] [b0,some ⟨3,.upd (.lst [[iv w,iv h,DV.v (Value.slice none 0 0)]]) 0 2 (.os 4 0 1)⟩,none,some ⟨1,.lst [[.sl false (B w) 5 (Int.toNat w)]]⟩,some ⟨1,.lst [[.sl false (B w) 5 (Int.toNat w)]]⟩]
  else none else K (.exit 0) 30 [iv w,iv h,.po 0 0 0,.po 1 0 0,iv i] [.po 0 0 0,.po 1 0 0] [b0,some ⟨3,.lst [[iv w,iv h,DV.v (Value.slice none 0 0)]]⟩,none]:=by
 kernel_rfl
theorem n81_loop (w h:Int) (i:Int) (m:Nat) (B:Int→Nat→Nat→DV) (R:Nat→Nat→DV) (b0:Option DBlk) (K:Ex→Nat→List DV→List DV→DHeap→Option Unit):execD Tryz.prog (envZ [(95,b4C B)] noLp 0) (loopAt Tryz.f51 122) 500 (temps 30 [0,1,4,6,7] [iv w,iv h,.po 0 0 0,.po 1 0 0,iv i]) [b0,some ⟨3,.lst [[iv w,iv h,.os 2 0 m]]⟩,some ⟨1,.tab m R⟩] (fun e τ σ=>K e τ.length (pick [0,1,4,6,7] τ) (pick [4,6] τ) σ) =
  bif decide (i<h) then bif bif decide (1≤w) then decide (w≤30) else false then bif decide (m≤DC.n (.tab m R)) then bif decide ((m+1)*(24:Nat)≤140737488355328) then K .normal 30 [iv w,iv h,.po 0 0 0,.po 1 0 0,iv (IntKind.wrap .i64 (i+1))] [.po 0 0 0,.po 1 0 0] [b0,some ⟨3,.upd (.lst [[iv w,iv h,.os 2 0 m]]) 0 2 (.os 4 0 (m+1))⟩,none,some ⟨1,.lst [[.sl false (B w) 5 (Int.toNat w)]]⟩,some ⟨1,.app (.pre (.tab m R) m) (.lst [[.sl false (B w) 5 (Int.toNat w)]])⟩]
  else none else none else none else K (.exit 0) 30 [iv w,iv h,.po 0 0 0,.po 1 0 0,iv i] [.po 0 0 0,.po 1 0 0] [b0,some ⟨3,.lst [[iv w,iv h,.os 2 0 m]]⟩,some ⟨1,.tab m R⟩]:=by
 kernel_rfl
noncomputable def n8I (b0:DBlk):LInv GNX where
 pre x:=x.i≤x.h∧1≤x.w∧x.w≤30∧x.h≤60∧1≤x.h
 m:=2
 n:=30
 ps:=[0,1,4,6,7]
 sd x:=[iv x.w,iv x.h,.po 0 0 0,.po 1 0 0,iv x.i]
 sh x:=[some b0,some ⟨3,.lst [[iv x.w,iv x.h,outD 2 x.i]]⟩,outB (rwD x.w) x.i]
 meas x:=x.h-x.i
 e _:=.exit 0
 qs:=[4,6]
 od _:=[.po 0 0 0,.po 1 0 0]
 oh x:=[some b0,some ⟨3,.lst [[iv x.w,iv x.h,.os 2 0 x.h]]⟩,some ⟨1,.tab x.h (rwD x.w)⟩]
 guess ds _:=match ds with
  | [.v (.int .i64 w),.v (.int .i64 h),_,_,_]=>some ⟨w,h.toNat,0⟩
  | _=>none
 cps x k:=k (.exit 0) [.po 0 0 0,.po 1 0 0] [some b0,some ⟨3,.lst [[iv x.w,iv x.h,.os 2 0 x.h]]⟩,some ⟨1,.tab x.h (rwD x.w)⟩]
theorem tm_n8 {ids:List Nat}{w:Int}{h:Nat}{z:Int}{i:Nat}(hz:z=(i:Int)):SubL (ren 2 ids) [iv w,iv h,.po 0 0 0,.po 1 0 0,iv i] [iv w,iv h,.po 0 0 0,.po 1 0 0,iv z]:=by
 subst hz
 exact .cons (.v _) (.cons (.v _) (.cons (.po rfl) (.cons (.po rfl) (.cons (.v _) .nil))))
theorem n8_ls {st:AE.Stat}(hx:Hx st) (b0:DBlk) (h0:KB b0):LoopSR true Tryz.prog st gl0 (.loop (loopAt Tryz.f51 122)) (n8I b0).g:=by
 refine (n8I b0).ok (E:=envZ [(95,b4C blkB)] noLp 0) (p:=500) (tblD_env (l:=[(95,b4C blkB)]) fun x h=>?_) (glOk st).1 (fun _ _ _ h=>nomatch h) (fun x k h=>h) fun x hx2=>?_
 ·simp only [List.mem_cons,List.not_mem_nil,or_false] at h
  subst h
  exact b9C_ok hx
 obtain ⟨w,h,i⟩:=x
 obtain ⟨hi,w1,w2,hh,hp⟩:i≤h∧1≤w∧w≤30∧h≤60∧1≤h:=hx2
 cases i with
 | zero =>
  refine (n80_loop w h ((0:Nat):Int) blkB (some b0) _).trans ?_
  refine dT (by omega) (dT2 w1 w2 (LInv.ask_of ⟨rfl,⟨w,h,1⟩,⟨rfl,rfl,rfl,hp,w1,w2,hh,hp⟩,by simp only [n8I]; omega,[4],.of (im:=[some 0,some 1,some 4]) (tm_n8 (by rw [W_in (by decide) (by decide)]; rfl)) rfl
   ⟨⟨0,_,rfl,rfl,h0.sub⟩,⟨1,_,rfl,rfl,g3_sub (.v _) (.v _) (.os rfl)⟩,⟨4,_,rfl,rfl,rfl,Nat.le_refl _,trivial,fun j f hj hf=>?_⟩,trivial⟩ rfl (by decide)⟩))
  have hj:j<1:=hj
  have hf:f<1:=hf
  obtain rfl:j=0:=by omega
  obtain rfl:f=0:=by omega
  exact .of_clo (.sl _ _ _ _)
 | succ i =>
  refine (n81_loop w h ((i+1:Nat):Int) (i+1) blkB (rwD w) (some b0) _).trans ?_
  refine dS (fun hlt=>?_) fun hge=>?_
  ·have hlt:i+1<h:=by omega
   refine dT2 w1 w2 (dT (Nat.le_refl _) (dT (by omega) (LInv.ask_of ⟨rfl,⟨w,h,i+2⟩,⟨rfl,rfl,rfl,hlt,w1,w2,hh,hp⟩,by simp only [n8I]; omega,[4],.of (im:=[some 0,some 1,some 4]) (tm_n8 (i:=i+2) (by rw [W_in (by omega) (by omega)]; omega)) rfl
    ⟨⟨0,_,rfl,rfl,h0.sub⟩,⟨1,_,rfl,rfl,g3_sub (.v _) (.v _) (.os rfl)⟩,⟨4,_,rfl,rfl,rfl,Nat.le_refl _,trivial,fun j f hj hf=>?_⟩,trivial⟩ rfl (by decide)⟩)))
   have hj:j<i+2:=hj
   have hf:f<1:=hf
   obtain rfl:f=0:=by omega
   show Sub _ (rwD w j 0) (if j<i+1 then rwD w j 0 else ([[rwD w 0 0]].getD (j-(i+1)) []).getD 0 .any)
   by_cases h:j<i+1
   ·rw [if_pos h]
    exact .of_clo (.sl _ _ _ _)
   ·obtain rfl:j=i+1:=by omega
    rw [if_neg h,Nat.sub_self]
    exact .of_clo (.sl _ _ _ _)
  ·obtain rfl:h=i+1:=by omega
   exact LInv.ask_of ⟨rfl,rfl,[2],.of (im:=[some 0,some 1,some 2]) (.cons (.po rfl) (.cons (.po rfl) .nil)) rfl ⟨⟨0,_,rfl,rfl,h0.sub⟩,⟨1,_,rfl,rfl,g3_same (.v _) (.v _) (.os rfl)⟩,⟨2,_,rfl,rfl,rfl,Nat.le_refl _,trivial,fun j f hj hf=>.of_clo (.sl _ _ _ _)⟩,trivial⟩ rfl (by decide)⟩
theorem n8_tree (w h:Int) (K:DV→DHeap→Option Unit):bodyD Tryz.prog (envH Tryz.prog gl0 [] [(88,s8N)] (lpOf [(122,(n8I gz0).g)]) 0 [] true) Tryz.f51 [iv w,iv h] [] (fun d σ=>K d σ) =
  bif decide (w ≥ 1) then bif decide (w≤132) then bif decide (h ≥ 1) then bif !decide (h≤60) then K (.tup [.agg [iv 0,iv 0,DV.v (Value.slice none 0 0)],iv 2]) [some ⟨3,.upd (.upd (.upd (.lst [[iv 0,iv 0,DV.v (Value.slice none 0 0)]]) 0 0 (iv 0)) 0 1 (iv 0)) 0 2 (DV.v (Value.slice none 0 0))⟩]
  else bif holds ((Nat.le 0 (Int.toNat h)∧Int.NonNeg (w-1)∧Int.NonNeg (30-w)∧Nat.le (Int.toNat h) 60∧Nat.le 1 (Int.toNat h))∧∃ ids,WkP 2 ids [iv w,iv h,.po 0 0 0,.po 1 0 0,iv 0] [some ⟨3,.lst [[iv 0,iv 0,DV.v (Value.slice none 0 0)]]⟩,some ⟨3,.upd (.upd (.upd (.lst [[iv 0,iv 0,DV.v (Value.slice none 0 0)]]) 0 0 (iv w)) 0 1 (iv h)) 0 2 (DV.v (Value.slice none 0 0))⟩] [iv w,iv (↑(Int.toNat h):Int),.po 0 0 0,.po 1 0 0,iv 0] [some ⟨3,.lst [[iv 0,iv 0,DV.v (Value.slice none 0 0)]]⟩,some ⟨3,.lst [[iv w,iv (↑(Int.toNat h):Int),DV.v (Value.slice none 0 0)]]⟩,none])
  then K (.tup [.agg [iv w,iv (↑(Int.toNat h):Int),.os 2 0 (Int.toNat h)],iv 0]) [some ⟨3,.upd (.upd (.upd (.lst [[iv 0,iv 0,DV.v (Value.slice none 0 0)]]) 0 0 (iv w)) 0 1 (iv (↑(Int.toNat h):Int))) 0 2 (.os 2 0 (Int.toNat h))⟩,some ⟨3,.lst [[iv w,iv (↑(Int.toNat h):Int),.os 2 0 (Int.toNat h)]]⟩,some ⟨1,.tab (Int.toNat h) fun a a_1=>DV.sl false (blkB w) 5 (Int.toNat w)⟩]
  else none else K (.tup [.agg [iv 0,iv 0,DV.v (Value.slice none 0 0)],iv 2]) [some ⟨3,.upd (.upd (.upd (.lst [[iv 0,iv 0,DV.v (Value.slice none 0 0)]]) 0 0 (iv 0)) 0 1 (iv 0)) 0 2 (DV.v (Value.slice none 0 0))⟩]
  else K (.tup [.agg [iv 0,iv 0,DV.v (Value.slice none 0 0)],iv 2]) [some ⟨3,.upd (.upd (.upd (.lst [[iv 0,iv 0,DV.v (Value.slice none 0 0)]]) 0 0 (iv 0)) 0 1 (iv 0)) 0 2 (DV.v (Value.slice none 0 0))⟩]
  else K (.tup [.agg [iv 0,iv 0,DV.v (Value.slice none 0 0)],iv 2]) [some ⟨3,.upd (.upd (.upd (.lst [[iv 0,iv 0,DV.v (Value.slice none 0 0)]]) 0 0 (iv 0)) 0 1 (iv 0)) 0 2 (DV.v (Value.slice none 0 0))⟩]:=by
 kernel_rfl
theorem g3_upd {r:Nat→Option Nat}{a b d a' b' d' d2:DV}(ha:Clo a) (hb:Clo b) (h:Sub r d2 d):SubC r ⟨3,.lst [[a,b,d2]]⟩ ⟨3,.upd (.upd (.upd (.lst [[a',b',d']]) 0 0 a) 0 1 b) 0 2 d⟩:=⟨rfl,Nat.le_refl _,trivial,fun i f hi hf=>by
 have hi:i<1:=hi
 obtain rfl:i=0:=by omega
 have hf:f<3:=hf
 match f,hf with
 | 0,_=>exact .of_clo ha
 | 1,_=>exact .of_clo hb
 | 2,_=>exact h⟩
theorem n8C_ok {st:AE.Stat}(hx:Hx st):ConOkZ true Tryz.prog st 51 (grC szF2 rwD):=by
 refine con_frz (E:=envH Tryz.prog gl0 [] [(88,s8N)] (lpOf [(122,(n8I gz0).g)]) 0 [] true) rfl (glOk st) (envH_ok (fun e h=>nomatch h) fun x h=>?_) Tryz.func51 (by kernel_rfl) (by kernel_rfl) (hx 51 rfl)
  (lp_in (c0:=.loop (loopAt Tryz.f51 122)) (by kernel_rfl) (n8_ls hx gz0 gz0_kb)) fun args k hk=>?_
 ·simp only [List.mem_cons,List.not_mem_nil,or_false] at h
  subst h
  exact (s8N_ok hx).z
 unfold grC at hk
 split at hk<;>first | (cases hk; done) | skip
 rename_i w h
 obtain ⟨hw,hk⟩:=dec_none hk
 cases hS:szF2 w h with
 | true =>
  rw [hS,cond_true] at hk
  refine ⟨[iv w,iv h],_,.self (.self .nil),(gz_clo 2).2,hk,(n8_tree w h _).trans ?_⟩
  refine dS (fun h1=>dS (fun h2=>dS (fun h3=>?_) fun _=>fz_flat (gz_clo 2).1) fun _=>fz_flat (gz_clo 2).1) fun _=>fz_flat (gz_clo 2).1
  by_cases h4:h≤60
  ·exact (szF2_true hS (by omega) (by omega) (by omega) (by omega)).elim
  ·rw [decide_eq_false h4]
   exact fz_flat (gz_clo 2).1
 | false =>
  rw [hS,cond_false] at hk
  obtain ⟨h1,h2,h3,h4⟩:=szF2_false hS
  refine ⟨[iv w,iv h],_,.self (.self .nil),?_,hk,(n8_tree w h _).trans ?_⟩
  ·exact Low.tup (fun d hd=>by
    simp only [List.mem_cons,List.not_mem_nil,or_false] at hd
    rcases hd with rfl | rfl
    ·exact Low.agg (fun d hd=>by
      simp only [List.mem_cons,List.not_mem_nil,or_false] at hd
      rcases hd with rfl | rfl | rfl
      ·exact .v _
      ·exact .v _
      ·exact .sl fun i f _ _=>rwD_low w i f)
    ·exact .v _)
  ·obtain ⟨n,rfl⟩:∃ n:Nat,h=n:=⟨h.toNat,by omega⟩
   refine dT (by omega) (dT (by omega) (dT (by omega) ?_))
   rw [decide_eq_true h4]
   refine hT ⟨⟨Nat.zero_le _,h1,hw,by show (n:Int).toNat≤60; omega,by show 1≤(n:Int).toNat; omega⟩,[2],?_⟩ ?_
   ·simp only [Int.toNat_natCast]
    exact .of (im:=[some 0,some 1]) (tm_n8 rfl) rfl ⟨⟨0,_,rfl,rfl,gz0_kb.sub⟩,⟨1,_,rfl,rfl,g3_upd (.v _) (.v _) (.v _)⟩,trivial⟩ rfl (by decide)
   ·simp only [Int.toNat_natCast]
    refine fzq_of ⟨[2],SubLZ.tup (.cons (SubLZ.agg (.cons (Sub.v _).z (.cons (Sub.v _).z (.cons (SubZ.fz0 (c:=.tab n (rwD w)) rfl (Nat.le_refl _) fun _ _=>rfl) .nil)))) (.cons (Sub.v _).z .nil)),fun j hj blk hb i f _ _=>?_⟩
    obtain rfl:j=2:=by simpa using hj
    obtain rfl:(⟨1,.tab n (rwD w)⟩:DBlk)=blk:=Option.some.inj (Option.some.inj hb)
    exact rwD_clo w i f
end Go.Proofs.YtigmkgampfbflaaGreatDoor
namespace Go.Proofs.YtigmkgampfbflaaGreatDoor
open Go Go.AE Go.DE Go.RowKit
noncomputable def noC (l:List DV):ConF:=fun args k=>match args with
 | []=>k (fun _=>(.agg l,[]))
 | _=>none
def atL:List DV:=[iv (-1),iv (-1),iv 0]
def moL:List DV:=[bv false,bv false,bv false,bv false,bv true,bv true,bv false,bv false,kv .u8 66,kv .u8 66,iv 0]
theorem ad_tree (k:DV→Option Unit):bodyD Tryz.prog (env [] noLp 0) Tryz.f48 [] [] (fun d _=>k d) =
  k (.agg [iv (-1:Int),iv (-1:Int),iv 0]):=by
 kernel_rfl
theorem adN_ok {st:AE.Stat}(hx:Hx st):ConOk Tryz.prog st 48 (noC atL):=by
 refine con_flat (mg:=[]) (l:=[]) (lp:=noLp) (n:=0) (glOk st) (fun _ h=>nomatch h) Tryz.func48 (by kernel_rfl) (by kernel_rfl) (hx 48 rfl) (fun _ _ _ h=>nomatch h) fun args k hk=>?_
 unfold noC at hk
 split at hk<;>first | (cases hk; done) | skip
 exact ⟨[],_,.nil,agg_clo rfl,hk,(ad_tree _).trans (isD_of rfl)⟩
theorem md_tree (k:DV→Option Unit):bodyD Tryz.prog (env [] noLp 0) Tryz.f49 [] [] (fun d _=>k d) =
  k (.agg [bv false,bv false,bv false,bv false,bv true,bv true,bv false,bv false,kv .u8 66,kv .u8 66,iv 0]):=by
 kernel_rfl
theorem mdN_ok {st:AE.Stat}(hx:Hx st):ConOk Tryz.prog st 49 (noC moL):=by
 refine con_flat (mg:=[]) (l:=[]) (lp:=noLp) (n:=0) (glOk st) (fun _ h=>nomatch h) Tryz.func49 (by kernel_rfl) (by kernel_rfl) (hx 49 rfl) (fun _ _ _ h=>nomatch h) fun args k hk=>?_
 unfold noC at hk
 split at hk<;>first | (cases hk; done) | skip
 exact ⟨[],_,.nil,agg_clo rfl,hk,(md_tree _).trans (isD_of rfl)⟩
theorem rd_tree (k:DV→Option Unit):bodyD Tryz.prog (env [] noLp 0) Tryz.f52 [] [] (fun d _=>k d) =
  k (.agg [iv (-1:Int),iv (-1:Int),iv 0]):=by
 kernel_rfl
theorem rdN_ok {st:AE.Stat}(hx:Hx st):ConOk Tryz.prog st 52 (noC atL):=by
 refine con_flat (mg:=[]) (l:=[]) (lp:=noLp) (n:=0) (glOk st) (fun _ h=>nomatch h) Tryz.func52 (by kernel_rfl) (by kernel_rfl) (hx 52 rfl) (fun _ _ _ h=>nomatch h) fun args k hk=>?_
 unfold noC at hk
 split at hk<;>first | (cases hk; done) | skip
 exact ⟨[],_,.nil,agg_clo rfl,hk,(rd_tree _).trans (isD_of rfl)⟩
theorem rm_tree (k:DV→Option Unit):bodyD Tryz.prog (env [] noLp 0) Tryz.f53 [] [] (fun d _=>k d) =
  k (.agg [bv false,bv false,bv false,bv false,bv true,bv true,bv false,bv false,kv .u8 66,kv .u8 66,iv 0]):=by
 kernel_rfl
theorem rmN_ok {st:AE.Stat}(hx:Hx st):ConOk Tryz.prog st 53 (noC moL):=by
 refine con_flat (mg:=[]) (l:=[]) (lp:=noLp) (n:=0) (glOk st) (fun _ h=>nomatch h) Tryz.func53 (by kernel_rfl) (by kernel_rfl) (hx 53 rfl) (fun _ _ _ h=>nomatch h) fun args k hk=>?_
 unfold noC at hk
 split at hk<;>first | (cases hk; done) | skip
 exact ⟨[],_,.nil,agg_clo rfl,hk,(rm_tree _).trans (isD_of rfl)⟩
noncomputable def tnF (T:Nat→Bool):ConF:=fun args k=>match args with
 | [.v (.int .i64 w)]=>bif decide (1≤w)&&decide (w≤1000) then k (fun _=>(.sl false (tabsD T) 1 w.toNat,[])) else none
 | _=>none
theorem tz_tree (w:Int) (K:DV→DHeap→Option Unit):bodyD Tryz.prog (envZ [] (lpOf [(58,tnI.g)]) 0) Tryz.f50 [iv w] [] (fun d σ=>K d σ) =
  bif decide (0≤if (if 1000<w then 1000 else w) > 0 then if 1000<w then 1000 else w else 0) then bif decide ((if (if 1000<w then 1000 else w) > 0 then if 1000<w then 1000 else w else 0)≤if (if 1000<w
  then 1000 else w) > 0 then if 1000<w then 1000 else w else 0) then bif decide (Int.toNat (if (if 1000<w then 1000 else w) > 0 then if 1000<w then 1000 else w else 0)<9223372036854775808) then
  bif decide (1*Int.toNat (if (if 1000<w then 1000 else w) > 0 then if 1000<w then 1000 else w else 0)≤281474976710656) then bif holds ((Nat.le 0 (Int.toNat (if (if 1000<w then 1000 else w) > 0
  then if 1000<w then 1000 else w else 0))∧Nat.le (Int.toNat (if (if 1000<w then 1000 else w) > 0 then if 1000<w then 1000 else w else 0)) 1000)∧∃ ids,WkP 1 ids [.os 0 0 (Int.toNat (if (if 1000<w
  then 1000 else w) > 0 then if 1000<w then 1000 else w else 0)),iv (↑(Int.toNat (if (if 1000<w then 1000 else w) > 0 then if 1000<w then 1000 else w else 0)):Int),iv 0] [some ⟨1,.tab (Int.toNat (if (if 1000<w
  then 1000 else w) > 0 then if 1000<w then 1000 else w else 0)) fun a a_1=>bv false⟩] [.os 0 0 (Int.toNat (if (if 1000<w then 1000 else w) > 0 then if 1000<w then 1000 else w else 0)),iv (↑(Int.toNat (if (if 1000<w
  then 1000 else w) > 0 then if 1000<w then 1000 else w else 0)):Int),iv 0] [some ⟨1,.tab (Int.toNat (if (if 1000<w then 1000 else w) > 0 then if 1000<w then 1000 else w else 0)) fun a a_1=>bv (upT 0 a)⟩])
  then K (.os 0 0 (Int.toNat (if (if 1000<w then 1000 else w) > 0 then if 1000<w then 1000 else w else 0))) [some ⟨1,.tab (Int.toNat (if (if 1000<w then 1000 else w) > 0 then if 1000<w then 1000
  else w else 0)) fun a a_1=>bv (upT (Int.toNat (if (if 1000<w then 1000 else w) > 0 then if 1000<w then 1000 else w else 0)) a)⟩] else none else none else none else none else none:=by
 kernel_rfl
theorem SubZ.cv {r:Nat→Option Nat}{zs:Nat→Option DBlk}{d d1 d2:DV}(h1:Cv d1 d2) (h:SubZ r zs d1 d):SubZ r zs d2 d:=fun C μ x hF hx=>h1 _ _ _ (h C μ x hF hx)
theorem tabs_low (T:Nat→Bool) (n:Nat):Low (.sl false (tabsD T) 1 n):=.sl fun _ _ _ _=>.v _
theorem tnF_ok {st:AE.Stat}(hx:Hx st):ConOkZ true Tryz.prog st 50 (tnF tab8):=by
 refine con_frz (E:=envZ [] (lpOf [(58,tnI.g)]) 0) rfl (glOk st) (tblD_env (l:=[]) fun _ h=>nomatch h) Tryz.func50 (by kernel_rfl) (by kernel_rfl) (hx 50 rfl) (lp_in (c0:=.loop (loopAt Tryz.f50 58)) (by kernel_rfl) tn_ls.z) fun args k hk=>?_
 unfold tnF at hk
 split at hk<;>first | (cases hk; done) | skip
 rename_i w
 obtain ⟨hb,hk⟩:=bif_none hk
 obtain ⟨h1,h2⟩:=and_dec hb
 obtain ⟨n,rfl⟩:∃ n:Nat,w=n:=⟨w.toNat,by omega⟩
 refine ⟨[iv n],_,.self .nil,tabs_low _ _,hk,(tz_tree n _).trans ?_⟩
 have e1:(if (1000:Int)<(n:Int) then (1000:Int) else (n:Int))=(n:Int):=if_neg (by omega)
 have e2:(if (n:Int) > (0:Int) then (n:Int) else (0:Int))=(n:Int):=if_pos (by omega)
 simp only [e1,e2,Int.toNat_natCast]
 refine dT (by omega) (dT (by omega) (dT (by omega) (dT (by omega) (hT ⟨⟨Nat.zero_le _,by show n≤1000; omega⟩,[],.of (im:=[some 0]) (.cons (.os rfl) (.cons (.v _) (.cons (.v _) .nil))) rfl ⟨⟨0,_,rfl,rfl,rfl,Nat.le_refl _,trivial,fun j f hj hf=>?_⟩,trivial⟩ rfl (by decide)⟩ (fzq_of ⟨[0],?_,fun j hj blk hb i f _ _=>?_⟩)))))
 ·have hf:f<1:=hf
  obtain rfl:f=0:=by omega
  exact .v _
 ·refine SubZ.cv (Cv.sl fun i f hi hf=>.of ?_) (SubZ.fz0 (c:=.tab n (tabsD (upT n))) rfl (Nat.le_refl _) fun _ _=>rfl)
  show bv (upT n i)=bv (tab8 i)
  unfold upT
  rw [if_pos hi]
 ·obtain rfl:j=0:=by simpa using hj
  obtain rfl:(⟨1,.tab n (tabsD (upT n))⟩:DBlk)=blk:=Option.some.inj (Option.some.inj hb)
  exact .v _
theorem r54_tree (Q:(Nat→Nat→DV)→Nat→Prop) (w:Int) (T:Nat→Bool) (K:DV→DHeap→Option Unit):bodyD Tryz.prog (envZ [(60,r6C Q T)] noLp 0) Tryz.f54 [iv w] [] (fun d σ=>K d σ) =
  bif bif decide (1≤w) then decide (w≤1000) else false then K (.os 0 0 (Int.toNat w)) [some ⟨1,.tab (Int.toNat w) fun a a_1=>bv (T a)⟩] else none:=by
 kernel_rfl
theorem t54_ok {st:AE.Stat}(hx:Hx st):ConOkZ true Tryz.prog st 54 (tnF tab8):=by
 refine con_frz (E:=envZ [(60,r6C tabsSo tab8)] noLp 0) rfl (glOk st) (tblD_env (l:=[(60,r6C tabsSo tab8)]) fun x h=>?_) Tryz.func54 (by kernel_rfl) (by kernel_rfl) (hx 54 rfl) (fun _ _ _ h=>nomatch h) fun args k hk=>?_
 ·simp only [List.mem_cons,List.not_mem_nil,or_false] at h
  subst h
  exact (r6C_ok hx).z
 unfold tnF at hk
 split at hk<;>first | (cases hk; done) | skip
 rename_i w
 obtain ⟨hb,hk⟩:=bif_none hk
 obtain ⟨h1,h2⟩:=and_dec hb
 refine ⟨[iv w],_,.self .nil,tabs_low _ _,hk,(r54_tree tabsSo w tab8 _).trans (dT2 h1 h2 (fzq_of ⟨[0],SubZ.fz0 (c:=.tab w.toNat (tabsD tab8)) rfl (Nat.le_refl _) fun _ _=>rfl,fun j hj blk hb i f _ _=>?_⟩))⟩
 obtain rfl:j=0:=by simpa using hj
 obtain rfl:(⟨1,.tab w.toNat (tabsD tab8)⟩:DBlk)=blk:=Option.some.inj (Option.some.inj hb)
 exact .v _
theorem nt_tree (w h:Int) (S:Int→Int→Bool) (R:Int→Nat→Nat→DV) (T:Nat→Bool) (K:DV→Option Unit):bodyD Tryz.prog (envZ [(47,grC S R),(48,noC atL),(49,noC moL),(50,tnF T)] noLp 0) Tryz.f18 [iv w,iv h] [] (fun d _=>K d) =
  bif decide (w≤30) then bif S w h then K (.tup [.agg [iv 0,iv 0,DV.v (Value.slice none 0 0),iv 0,iv 0,DV.v (Value.slice none 0 0),iv 0,iv 0,bv false,iv 0,iv 0,bv false,iv 0,iv 0,iv 0,bv false,kv .u8 0,kv .u8 0,iv 0,iv 0,iv 0,iv 0,bv false,bv false,bv false,bv false,bv false,bv false,bv false,bv false,kv .u8 0,kv .u8 0,iv 0,iv 0,iv 0,DV.v (Value.slice none 0 0),DV.v (Value.slice none 0 0),iv 0,sv ⟨#[]⟩,sv ⟨#[]⟩,sv ⟨#[]⟩,sv ⟨#[]⟩],iv 2])
  else bif decide (0<Int.toNat h) then bif decide (0<Int.toNat h) then bif decide (w≤30) then bif S w h then bif bif decide (1≤w) then decide (w≤1000) else false then bif decide (0<Int.toNat h)
  then K (.tup [.agg [iv w,iv h,.sl false (R w) 1 (Int.toNat h),iv 0,iv 0,DV.v (Value.slice none 0 0),iv 0,iv 0,bv false,iv 0,iv 0,bv false,iv (-1:Int),iv (-1:Int),iv 0,bv false,kv .u8 66,kv .u8 66,iv 0,iv (-1:Int),iv (-1:Int),iv 0,bv false,bv false,bv false,bv false,bv true,bv true,bv false,bv false,kv .u8 66,kv .u8 66,iv 0,iv 0,iv h,.sl false (fun a a_1=>bv (T a)) 1 (Int.toNat w),DV.v (Value.slice none 0 0),iv 0,sv ⟨#[]⟩,sv ⟨#[]⟩,sv ⟨#[]⟩,sv ⟨#[]⟩],iv 0])
  else none else none else bif decide (0<Int.toNat h) then bif decide (0<Int.toNat h) then bif bif decide (1≤w) then decide (w≤1000) else false then bif decide (0<Int.toNat h) then K (.tup [.agg [iv w,iv h,.sl false (R w) 1 (Int.toNat h),iv w,iv h,.sl false (R w) 1 (Int.toNat h),iv 0,iv 0,bv false,iv 0,iv 0,bv false,iv (-1:Int),iv (-1:Int),iv 0,bv false,kv .u8 66,kv .u8 66,iv 0,iv (-1:Int),iv (-1:Int),iv 0,bv false,bv false,bv false,bv false,bv true,bv true,bv false,bv false,kv .u8 66,kv .u8 66,iv 0,iv 0,iv h,.sl false (fun a a_1=>bv (T a)) 1 (Int.toNat w),DV.v (Value.slice none 0 0),iv 0,sv ⟨#[]⟩,sv ⟨#[]⟩,sv ⟨#[]⟩,sv ⟨#[]⟩],iv 0])
  else none else none else none else none else none else none else none else none:=by
 kernel_rfl
theorem ru_tree (w h:Int) (S:Int→Int→Bool) (R:Int→Nat→Nat→DV) (T:Nat→Bool) (K:DV→Option Unit):bodyD Tryz.prog (envZ [(51,grC S R),(52,noC atL),(53,noC moL),(54,tnF T)] noLp 0) Tryz.f19 [iv w,iv h] [] (fun d _=>K d) =
  bif decide (w≤30) then bif S w h then K (.tup [.agg [iv 0,iv 0,DV.v (Value.slice none 0 0),iv 0,iv 0,DV.v (Value.slice none 0 0),iv 0,iv 0,bv false,iv 0,iv 0,bv false,iv 0,iv 0,iv 0,bv false,kv .u8 0,kv .u8 0,iv 0,iv 0,iv 0,iv 0,bv false,bv false,bv false,bv false,bv false,bv false,bv false,bv false,kv .u8 0,kv .u8 0,iv 0,iv 0,iv 0,DV.v (Value.slice none 0 0),DV.v (Value.slice none 0 0),iv 0,sv ⟨#[]⟩,sv ⟨#[]⟩,sv ⟨#[]⟩,sv ⟨#[]⟩],iv 2])
  else bif decide (0<Int.toNat h) then bif decide (0<Int.toNat h) then bif decide (w≤30) then bif S w h then bif bif decide (1≤w) then decide (w≤1000) else false then bif decide (0<Int.toNat h)
  then K (.tup [.agg [iv w,iv h,.sl false (R w) 1 (Int.toNat h),iv 0,iv 0,DV.v (Value.slice none 0 0),iv 0,iv 0,bv false,iv 0,iv 0,bv false,iv (-1:Int),iv (-1:Int),iv 0,bv false,kv .u8 66,kv .u8 66,iv 0,iv (-1:Int),iv (-1:Int),iv 0,bv false,bv false,bv false,bv false,bv true,bv true,bv false,bv false,kv .u8 66,kv .u8 66,iv 0,iv 0,iv h,.sl false (fun a a_1=>bv (T a)) 1 (Int.toNat w),DV.v (Value.slice none 0 0),iv 0,sv ⟨#[]⟩,sv ⟨#[]⟩,sv ⟨#[]⟩,sv ⟨#[]⟩],iv 0])
  else none else none else bif decide (0<Int.toNat h) then bif decide (0<Int.toNat h) then bif bif decide (1≤w) then decide (w≤1000) else false then bif decide (0<Int.toNat h) then K (.tup [.agg [iv w,iv h,.sl false (R w) 1 (Int.toNat h),iv w,iv h,.sl false (R w) 1 (Int.toNat h),iv 0,iv 0,bv false,iv 0,iv 0,bv false,iv (-1:Int),iv (-1:Int),iv 0,bv false,kv .u8 66,kv .u8 66,iv 0,iv (-1:Int),iv (-1:Int),iv 0,bv false,bv false,bv false,bv false,bv true,bv true,bv false,bv false,kv .u8 66,kv .u8 66,iv 0,iv 0,iv h,.sl false (fun a a_1=>bv (T a)) 1 (Int.toNat w),DV.v (Value.slice none 0 0),iv 0,sv ⟨#[]⟩,sv ⟨#[]⟩,sv ⟨#[]⟩,sv ⟨#[]⟩],iv 0])
  else none else none else none else none else none else none else none else none:=by
 kernel_rfl
def evB:DV:=.v (.string ⟨#[]⟩)
def zeroL:List DV:=[iv 0,iv 0,nilS,iv 0,iv 0,nilS,iv 0,iv 0,bv false,iv 0,iv 0,bv false,iv 0,iv 0,iv 0,bv false,kv .u8 0,kv .u8 0,iv 0,iv 0,iv 0,iv 0,
 bv false,bv false,bv false,bv false,bv false,bv false,bv false,bv false,kv .u8 0,kv .u8 0,iv 0,iv 0,iv 0,nilS,nilS,iv 0,evB,evB,evB,evB]
def newL (w h:Int) (R:Int→Nat→Nat→DV) (T:Nat→Bool):List DV:=[iv w,iv h,.sl false (R w) 1 h.toNat,iv w,iv h,.sl false (R w) 1 h.toNat,iv 0,iv 0,bv false,iv 0,iv 0,bv false,iv (-1),iv (-1),iv 0,bv false,kv .u8 66,kv .u8 66,iv 0,iv (-1),iv (-1),iv 0,
 bv false,bv false,bv false,bv false,bv true,bv true,bv false,bv false,kv .u8 66,kv .u8 66,iv 0,iv 0,iv h,.sl false (tabsD T) 1 w.toNat,nilS,iv 0,evB,evB,evB,evB]
noncomputable def ntC (S:Int→Int→Bool) (Z:List DV) (N:Int→Int→List DV):ConF:=fun args k=>match args with
 | [.v (.int .i64 w),.v (.int .i64 h)]=>bif decide (w≤30) then (bif S w h then k (fun _=>(.tup [.agg Z,iv 2],[])) else k (fun _=>(.tup [.agg (N w h),iv 0],[]))) else none
 | _=>none
theorem tup_agg {l:List DV}{z:Value}(h:∀ d∈l,Clo d) (h2:∀ d∈l,Low d):Clo (.tup [.agg l,.v z])∧Low (.tup [.agg l,.v z]):=⟨.tup fun d hd=>by
 simp only [List.mem_cons,List.not_mem_nil,or_false] at hd
 rcases hd with rfl | rfl
 ·exact .agg h
 ·exact .v _,.tup fun d hd=>by
 simp only [List.mem_cons,List.not_mem_nil,or_false] at hd
 rcases hd with rfl | rfl
 ·exact .agg h2
 ·exact .v _⟩
theorem zeroL_flat:(∀ d∈zeroL,Clo d)∧∀ d∈zeroL,Low d:=by
 have h:∀ d∈zeroL,∃ z,d=.v z:=fun d hd=>by
  simp only [zeroL,List.mem_cons,List.not_mem_nil,or_false] at hd
  repeat (first | (rcases hd with rfl | hd; exact ⟨_,rfl⟩) | (subst hd; exact ⟨_,rfl⟩))
 exact ⟨fun d hd=>by obtain ⟨z,rfl⟩:=h d hd; exact .v z,fun d hd=>by obtain ⟨z,rfl⟩:=h d hd; exact .v z⟩
theorem newL_flat (w h:Int):(∀ d∈newL w h rwD tab8,Clo d)∧∀ d∈newL w h rwD tab8,Low d:=by
 constructor
 ·intro d hd
  simp only [newL,List.mem_cons,List.not_mem_nil,or_false] at hd
  repeat (first | (rcases hd with rfl | hd; first | exact Clo.v _ | exact Clo.sl _ _ _ _) | (subst hd; exact Clo.v _))
 ·intro d hd
  simp only [newL,List.mem_cons,List.not_mem_nil,or_false] at hd
  repeat (first | (rcases hd with rfl | hd; first | exact Low.v _ | exact .sl fun i f _ _=>rwD_low w i f | exact tabs_low _ _) | (subst hd; exact Low.v _))
theorem ntC_ok {st:AE.Stat}(hx:Hx st) (hk:∀ a σ,st.ext 157 a σ=RL.app σ (blkX a σ.length)):ConOkZ true Tryz.prog st 18 (ntC szF2 zeroL fun w h=>newL w h rwD tab8):=by
 refine con_flatZ (mg:=[]) (l:=[(47,grC szF2 rwD),(48,noC atL),(49,noC moL),(50,tnF tab8)]) (lp:=noLp) (n:=0) (glOk st) (fun x h=>?_) Tryz.func18 (by kernel_rfl) (by kernel_rfl) (hx 18 rfl) (fun _ _ _ h=>nomatch h) fun args k hk=>?_
 ·simp only [List.mem_cons,List.not_mem_nil,or_false] at h
  rcases h with rfl | rfl | rfl | rfl
  ·exact grC_ok hx hk
  ·exact (adN_ok hx).z
  ·exact (mdN_ok hx).z
  ·exact tnF_ok hx
 unfold ntC at hk
 split at hk<;>first | (cases hk; done) | skip
 rename_i w h
 obtain ⟨hw,hk⟩:=dec_none hk
 cases hS:szF2 w h with
 | true =>
  rw [hS,cond_true] at hk
  refine ⟨[iv w,iv h],_,.self (.self .nil),tup_agg zeroL_flat.1 zeroL_flat.2,hk,(nt_tree w h szF2 rwD tab8 _).trans (dT hw ?_)⟩
  rw [hS]
  exact isD_of rfl
 | false =>
  rw [hS,cond_false] at hk
  obtain ⟨h1,h2,h3,h4⟩:=szF2_false hS
  refine ⟨[iv w,iv h],_,.self (.self .nil),tup_agg (newL_flat w h).1 (newL_flat w h).2,hk,(nt_tree w h szF2 rwD tab8 _).trans (dT hw ?_)⟩
  rw [hS]
  have hp:0<h.toNat:=by omega
  exact dT hp (dT hp (dT hw (dT hp (dT hp (dT2 h1 (by omega) (dT hp (isD_of rfl)))))))
theorem ruC_ok {st:AE.Stat}(hx:Hx st):ConOkZ true Tryz.prog st 19 (ntC szF2 zeroL fun w h=>newL w h rwD tab8):=by
 refine con_flatZ (mg:=[]) (l:=[(51,grC szF2 rwD),(52,noC atL),(53,noC moL),(54,tnF tab8)]) (lp:=noLp) (n:=0) (glOk st) (fun x h=>?_) Tryz.func19 (by kernel_rfl) (by kernel_rfl) (hx 19 rfl) (fun _ _ _ h=>nomatch h) fun args k hk=>?_
 ·simp only [List.mem_cons,List.not_mem_nil,or_false] at h
  rcases h with rfl | rfl | rfl | rfl
  ·exact n8C_ok hx
  ·exact (rdN_ok hx).z
  ·exact (rmN_ok hx).z
  ·exact t54_ok hx
 unfold ntC at hk
 split at hk<;>first | (cases hk; done) | skip
 rename_i w h
 obtain ⟨hw,hk⟩:=dec_none hk
 cases hS:szF2 w h with
 | true =>
  rw [hS,cond_true] at hk
  refine ⟨[iv w,iv h],_,.self (.self .nil),tup_agg zeroL_flat.1 zeroL_flat.2,hk,(ru_tree w h szF2 rwD tab8 _).trans (dT hw ?_)⟩
  rw [hS]
  exact isD_of rfl
 | false =>
  rw [hS,cond_false] at hk
  obtain ⟨h1,h2,h3,h4⟩:=szF2_false hS
  refine ⟨[iv w,iv h],_,.self (.self .nil),tup_agg (newL_flat w h).1 (newL_flat w h).2,hk,(ru_tree w h szF2 rwD tab8 _).trans (dT hw ?_)⟩
  rw [hS]
  have hp:0<h.toNat:=by omega
  exact dT hp (dT hp (dT hw (dT hp (dT hp (dT2 h1 (by omega) (dT hp (isD_of rfl)))))))
end Go.Proofs.YtigmkgampfbflaaGreatDoor
