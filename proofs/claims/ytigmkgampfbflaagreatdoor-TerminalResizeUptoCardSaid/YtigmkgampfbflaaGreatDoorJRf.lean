/-
 The contract of the reference's Fit.
 Conditions: none beyond those of the contracts.
-/
import Derived.Test.YtigmkgampfbflaaGreatDoorJGz
namespace Go.Proofs.YtigmkgampfbflaaGreatDoor
open Go Go.AE Go.DE Go.RowKit
theorem cop_tree (t:Bool) (r:Row) (K:DV→DHeap→Option Unit):bodyD Tryz.prog (envZ [] noLp 0) Tryz.f160 [.sl t r.cell 5 r.n] [] (fun d σ=>K d σ) =
  bif decide ((0+r.n)*(48:Nat)≤140737488355328) then K (.os 1 0 (0+r.n)) [none,some ⟨5,.app (.pre (.lst []) 0) (.tab r.n r.cell)⟩] else none:=by
 kernel_rfl
noncomputable abbrev rfT (F:Row→Int) (Q:(Nat→Nat→DV)→Nat→Prop):List (FuncId×ConF):=[(46,rcC F),(160,clO Q),(155,b5N)]
theorem rf0_loop (n:Nat) (w:Int) (g:Nat→Nat→DV) (K:Ex→Nat→List DV→List DV→DHeap→Option Unit):execD Tryz.prog (envZ [(155,b5N)] noLp 0) (loopAt Tryz.f100 60) 500 (temps 50 [1,5] [iv w,.os 0 0 n]) [some ⟨5,.tab n g⟩,none] (fun e τ σ=>K e τ.length (pick [1,5] τ) (pick [1,5] τ) σ) =
  bif decide ((n:Int)<w) then bif decide (n≤DC.n (.tab n g)) then bif decide ((n+1)*(48:Nat)≤140737488355328) then K .normal 50 [iv w,.os 3 0 (n+1)] [iv w,.os 3 0 (n+1)] [none,none,some ⟨5,.lst [[sv ({ data:=#[(32:UInt8)] }),iv 1,iv (-1:Int),iv (-1:Int),iv 0]]⟩,some ⟨5,.app (.pre (.tab n g) n) (.lst [[sv ({ data:=#[(32:UInt8)] }),iv 1,iv (-1:Int),iv (-1:Int),iv 0]])⟩]
  else none else none else K (.exit 0) 50 [iv w,.os 0 0 n] [iv w,.os 0 0 n] [some ⟨5,.tab n g⟩,none]:=by
 kernel_rfl
theorem rf1_loop (n:Nat) (w:Int) (g:Nat→Nat→DV) (K:Ex→Nat→List DV→List DV→DHeap→Option Unit):execD Tryz.prog (envZ [(155,b5N)] noLp 0) (loopAt Tryz.f100 60) 500 (temps 50 [1,5] [iv w,.os 1 0 n]) [none,some ⟨5,.tab n g⟩] (fun e τ σ=>K e τ.length (pick [1,5] τ) (pick [1,5] τ) σ) =
  bif decide ((n:Int)<w) then bif decide (n≤DC.n (.tab n g)) then bif decide ((n+1)*(48:Nat)≤140737488355328) then K .normal 50 [iv w,.os 3 0 (n+1)] [iv w,.os 3 0 (n+1)] [none,none,some ⟨5,.lst [[sv ({ data:=#[(32:UInt8)] }),iv 1,iv (-1:Int),iv (-1:Int),iv 0]]⟩,some ⟨5,.app (.pre (.tab n g) n) (.lst [[sv ({ data:=#[(32:UInt8)] }),iv 1,iv (-1:Int),iv (-1:Int),iv 0]])⟩]
  else none else none else K (.exit 0) 50 [iv w,.os 1 0 n] [iv w,.os 1 0 n] [none,some ⟨5,.tab n g⟩]:=by
 kernel_rfl
theorem rfA_tree (t:Bool) (r:Row) (w:Int) (F:Row→Int) (Q:(Nat→Nat→DV)→Nat→Prop) (K:DV→DHeap→Option Unit):bodyD Tryz.prog (envZ (rfT F Q) noLp 1) Tryz.f100 [.sl t r.cell 5 r.n,iv w] [] (fun d σ=>K d σ) =
  bif holds (Nat.le r.n 9000000∧∀ (i:Nat),i<r.n→sv (r.tx i)=sv (strD (sv (r.tx i)))∧Nat.le (ByteArray.size (strD (sv (r.tx i)))) 9000000∧iv (r.wd i)=iv (numD (iv (r.wd i)))∧iv (r.fo i)=iv (numD (iv (r.fo i)))∧iv (r.ba i)=iv (numD (iv (r.ba i)))∧iv (r.fl i)=iv (numD (iv (r.fl i))))
  then bif F { n:=r.n,tx:=fun i=>strD (sv (r.tx i)),wd:=fun i=>numD (iv (r.wd i)),fo:=fun i=>numD (iv (r.fo i)),ba:=fun i=>numD (iv (r.ba i)),fl:=fun i=>numD (iv (r.fl i)) } != 0
  then K (DV.v (Value.slice none 0 0)) [] else bif decide (w<1) then K (DV.v (Value.slice none 0 0)) [] else bif decide (w > 132) then K (DV.v (Value.slice none 0 0)) [] else bif holds (Q r.cell r.n)
  then bif decide ((r.n:Int)<w) then bif decide (r.n≤DC.n (.tab r.n (Row.cell (rowOf r.cell r.n)))) then bif decide ((r.n+1)*(48:Nat)≤140737488355328) then none else none else none else
  bif decide (0≤w) then bif decide (w≤(r.n:Int)) then bif decide (0≤IntKind.wrap .i64 (w-1)) then bif decide (IntKind.wrap .i64 (w-1)<(↑(Int.toNat w-0):Int)) then bif decide (0+Int.toNat (IntKind.wrap .i64 (w-1))+0<r.n)
  then bif Row.wd (rowOf r.cell r.n) (0+Int.toNat (IntKind.wrap .i64 (w-1))+0)==2 then bif decide (0≤IntKind.wrap .i64 (w-1)) then bif decide (IntKind.wrap .i64 (w-1)<(↑(Int.toNat w-0):Int))
  then bif decide (0+Int.toNat (IntKind.wrap .i64 (w-1))+0<r.n) then bif decide (0≤IntKind.wrap .i64 (w-1)) then bif decide (IntKind.wrap .i64 (w-1)<(↑(Int.toNat w-0):Int)) then bif decide (0+Int.toNat (IntKind.wrap .i64 (w-1))+0<DC.n (.tab r.n (Row.cell (rowOf r.cell r.n))))
  then K (.os 0 0 (Int.toNat w-0)) [some ⟨5,.upd (.upd (.upd (.upd (.upd (.tab r.n (Row.cell (rowOf r.cell r.n))) (0+Int.toNat (IntKind.wrap .i64 (w-1))+0) 0 (sv ({ data:=#[(32:UInt8)] }))) (0+Int.toNat (IntKind.wrap .i64 (w-1))+0) 1 (iv 1)) (0+Int.toNat (IntKind.wrap .i64 (w-1))+0) 2 (iv (-1:Int))) (0+Int.toNat (IntKind.wrap .i64 (w-1))+0) 3 (iv (Row.ba (rowOf r.cell r.n) (0+Int.toNat (IntKind.wrap .i64 (w-1))+0)))) (0+Int.toNat (IntKind.wrap .i64 (w-1))+0) 4 (iv 0)⟩]
  else none else none else none else none else none else none else K (.os 0 0 (Int.toNat w-0)) [some ⟨5,.tab r.n (Row.cell (rowOf r.cell r.n))⟩] else none else none else none else none else none else none
  else none:=by
 kernel_rfl
structure RFX where
 r:Row
 w:Nat
 j:Nat
def rfd (n:Nat):Nat→DV
 | 0=>.os 0 0 n
 | j+1=>.os 1 0 (n+(j+1))
def rfh (r:Row) (w:Nat):Nat→DHeap
 | 0=>[some ⟨5,.tab r.n r.cell⟩,none]
 | j+1=>[none,some ⟨5,.tab (r.n+(j+1)) (fitR r w).cell⟩]
noncomputable def rfI:LInv RFX where
 pre x:=x.r.n<x.w∧x.r.n+x.j≤x.w∧x.w≤132
 m:=1
 n:=50
 ps:=[1,5]
 sd x:=[iv x.w,rfd x.r.n x.j]
 sh x:=rfh x.r x.w x.j
 meas x:=x.w-x.j
 e _:=.exit 0
 qs:=[1,5]
 od x:=[iv x.w,.os 1 0 x.w]
 oh x:=[none,some ⟨5,.tab x.w (fitR x.r x.w).cell⟩]
 guess ds σ:=match ds,σ with
  | [.v (.int .i64 w),.os 0 0 n],[some b]=>some ⟨rowOf b.c.get n,w.toNat,0⟩
  | _,_=>none
 cps x k:=k (.exit 0) [iv x.w,.os 1 0 x.w] [none,some ⟨5,.tab x.w (fitR x.r x.w).cell⟩]
theorem fit_in {r:Row}{w i:Nat}(h:r.n<w) (hi:i<r.n) (f:Nat):(fitR r w).cell i f=r.cell i f:=fit_keep hi (fun e=>by omega) f
theorem rf_app {q:Nat→Option Nat}{r:Row}{w m:Nat}{g:Nat→Nat→DV}(hm:r.n≤m) (hg:∀ i f,i<m→g i f=(fitR r w).cell i f):SubC q ⟨5,.tab (m+1) (fitR r w).cell⟩ ⟨5,.app (.pre (.tab m g) m) (.lst [[.v (.string ⟨⟨[32]⟩⟩),iv 1,iv (-1),iv (-1),iv 0]])⟩:=⟨rfl,Nat.le_refl _,trivial,fun j f hj hf=>by
 have hj:j<m+1:=hj
 have hf:f<5:=hf
 show Sub _ ((fitR r w).cell j f) (if j<m then g j f else ([[.v (.string ⟨⟨[32]⟩⟩),iv 1,iv (-1),iv (-1),iv 0]].getD (j-m) []).getD f .any)
 by_cases hjm:j<m
 ·rw [if_pos hjm,hg j f hjm]
  exact .of_clo (Row.clo _ _ _)
 ·obtain rfl:j=m:=by omega
  rw [if_neg hjm,Nat.sub_self,fit_out (by omega) 0]
  match f,hf with
  | 0,_=>exact .v _
  | 1,_=>exact .v _
  | 2,_=>exact .v _
  | 3,_=>exact .v _
  | 4,_=>exact .v _⟩
theorem rf_next {x:RFX}(h:rfI.pre x) (hlt:x.r.n+x.j<x.w) {blk:DBlk}{b2:Option DBlk}{od:List DV}(hs:SubC (ren 1 [3]) ⟨5,.tab (x.r.n+x.j+1) (fitR x.r x.w).cell⟩ blk):rfI.Q x .normal 50 [iv x.w,.os 3 0 (x.r.n+x.j+1)] od [none,none,b2,some blk]:=by
 obtain ⟨r,w,j⟩:=x
 obtain ⟨h1,h2,h3⟩:=h
 have hlt:r.n+j<w:=hlt
 have h1:r.n<w:=h1
 refine ⟨rfl,⟨r,w,j+1⟩,⟨rfl,rfl,rfl,h1,by show r.n+(j+1)≤w; omega,h3⟩,by simp only [rfI]; omega,[3],.of (im:=[some 3]) (.cons (.v _) (.cons (.os rfl) .nil)) rfl ⟨⟨3,_,rfl,rfl,hs⟩,trivial⟩ rfl (by decide)⟩
theorem rf_ls {st:AE.Stat}(hx:Hx st):LoopSR true Tryz.prog st gl0 (.loop (loopAt Tryz.f100 60)) rfI.g:=by
 refine rfI.ok (E:=envZ [(155,b5N)] noLp 0) (p:=500) (tblD_env (l:=[(155,b5N)]) fun x h=>?_) (glOk st).1 (fun _ _ _ h=>nomatch h) (fun x k h=>h) fun x hx2=>?_
 ·simp only [List.mem_cons,List.not_mem_nil,or_false] at h
  subst h
  dsimp only
  exact b5N_z hx
 have hp:=hx2
 obtain ⟨r,w,j⟩:=x
 obtain ⟨h1,h2,h3⟩:r.n<w∧r.n+j≤w∧w≤132:=hx2
 cases j with
 | zero =>
  refine (rf0_loop r.n w r.cell _).trans ?_
  exact dT (by omega) (dT (Nat.le_refl _) (dT (by omega) (LInv.ask_of (rf_next (x:=⟨r,w,0⟩) hp h1 (rf_app (Nat.le_refl _) fun i f hi=>(fit_in h1 hi f).symm)))))
 | succ j =>
  refine (rf1_loop (r.n+(j+1)) w (fitR r w).cell _).trans ?_
  refine dS (fun hlt=>?_) fun hge=>?_
  ·have hlt:r.n+(j+1)<w:=by omega
   exact dT (Nat.le_refl _) (dT (by omega) (LInv.ask_of (rf_next (x:=⟨r,w,j+1⟩) hp hlt (rf_app (by omega) fun i f hi=>rfl))))
  ·obtain rfl:w=r.n+(j+1):=by omega
   exact LInv.ask_of ⟨rfl,rfl,[1],.of (im:=[some 1]) (.cons (.v _) (.cons (.os rfl) .nil)) rfl ⟨⟨1,_,rfl,rfl,rfl,Nat.le_refl _,trivial,fun i f hi hf=>.of_clo (Row.clo _ _ _)⟩,trivial⟩ rfl (by decide)⟩
theorem rfB_tree (t:Bool) (r:Row) (w:Int) (F:Row→Int) (Q:(Nat→Nat→DV)→Nat→Prop) (K:DV→DHeap→Option Unit):bodyD Tryz.prog (envZ (rfT F Q) (lpOf [(60,rfI.g)]) 0) Tryz.f100 [.sl t r.cell 5 r.n,iv w] [] (fun d σ=>K d σ) =
  bif holds (Nat.le r.n 9000000∧∀ (i:Nat),i<r.n→sv (r.tx i)=sv (strD (sv (r.tx i)))∧Nat.le (ByteArray.size (strD (sv (r.tx i)))) 9000000∧iv (r.wd i)=iv (numD (iv (r.wd i)))∧iv (r.fo i)=iv (numD (iv (r.fo i)))∧iv (r.ba i)=iv (numD (iv (r.ba i)))∧iv (r.fl i)=iv (numD (iv (r.fl i))))
  then bif F { n:=r.n,tx:=fun i=>strD (sv (r.tx i)),wd:=fun i=>numD (iv (r.wd i)),fo:=fun i=>numD (iv (r.fo i)),ba:=fun i=>numD (iv (r.ba i)),fl:=fun i=>numD (iv (r.fl i)) } != 0
  then K (DV.v (Value.slice none 0 0)) [] else bif decide (w<1) then K (DV.v (Value.slice none 0 0)) [] else bif decide (w > 132) then K (DV.v (Value.slice none 0 0)) [] else bif holds (Q r.cell r.n)
  then bif holds ((Nat.le (Nat.succ (Row.n (rowOf (DC.get (.tab r.n (Row.cell (rowOf r.cell r.n)))) r.n))) (Int.toNat w)∧Nat.le (Row.n (rowOf (DC.get (.tab r.n (Row.cell (rowOf r.cell r.n)))) r.n)+0) (Int.toNat w)∧Nat.le (Int.toNat w) 132)∧∃ ids,WkP 1 ids [iv w,.os 0 0 r.n] [some ⟨5,.tab r.n (Row.cell (rowOf r.cell r.n))⟩] [iv (↑(Int.toNat w):Int),.os 0 0 (Row.n (rowOf (DC.get (.tab r.n (Row.cell (rowOf r.cell r.n)))) r.n))] [some ⟨5,.tab (Row.n (rowOf (DC.get (.tab r.n (Row.cell (rowOf r.cell r.n)))) r.n)) (Row.cell (rowOf (DC.get (.tab r.n (Row.cell (rowOf r.cell r.n)))) r.n))⟩,none])
  then bif decide ((↑(Int.toNat w):Int)≤(↑(Int.toNat w):Int)) then bif decide (0≤IntKind.wrap .i64 ((↑(Int.toNat w):Int)-1)) then bif decide (IntKind.wrap .i64 ((↑(Int.toNat w):Int)-1)<(↑(Int.toNat (↑(Int.toNat w):Int)-0):Int))
  then bif decide (0+Int.toNat (IntKind.wrap .i64 ((↑(Int.toNat w):Int)-1))+0<Int.toNat w) then bif Row.wd (fitR (rowOf (DC.get (.tab r.n (Row.cell (rowOf r.cell r.n)))) r.n) (Int.toNat w)) (0+Int.toNat (IntKind.wrap .i64 ((↑(Int.toNat w):Int)-1))+0)==2
  then bif decide (0≤IntKind.wrap .i64 ((↑(Int.toNat w):Int)-1)) then bif decide (IntKind.wrap .i64 ((↑(Int.toNat w):Int)-1)<(↑(Int.toNat (↑(Int.toNat w):Int)-0):Int)) then bif decide (0+Int.toNat (IntKind.wrap .i64 ((↑(Int.toNat w):Int)-1))+0<Int.toNat w)
  then bif decide (0≤IntKind.wrap .i64 ((↑(Int.toNat w):Int)-1)) then bif decide (IntKind.wrap .i64 ((↑(Int.toNat w):Int)-1)<(↑(Int.toNat (↑(Int.toNat w):Int)-0):Int)) then bif decide (0+Int.toNat (IntKind.wrap .i64 ((↑(Int.toNat w):Int)-1))+0<DC.n (.tab (Int.toNat w) (Row.cell (fitR (rowOf (DC.get (.tab r.n (Row.cell (rowOf r.cell r.n)))) r.n) (Int.toNat w)))))
  then K (.os 1 0 (Int.toNat (↑(Int.toNat w):Int)-0)) [none,some ⟨5,.upd (.upd (.upd (.upd (.upd (.tab (Int.toNat w) (Row.cell (fitR (rowOf (DC.get (.tab r.n (Row.cell (rowOf r.cell r.n)))) r.n) (Int.toNat w)))) (0+Int.toNat (IntKind.wrap .i64 ((↑(Int.toNat w):Int)-1))+0) 0 (sv ({ data:=#[(32:UInt8)] }))) (0+Int.toNat (IntKind.wrap .i64 ((↑(Int.toNat w):Int)-1))+0) 1 (iv 1)) (0+Int.toNat (IntKind.wrap .i64 ((↑(Int.toNat w):Int)-1))+0) 2 (iv (-1:Int))) (0+Int.toNat (IntKind.wrap .i64 ((↑(Int.toNat w):Int)-1))+0) 3 (iv (Row.ba (fitR (rowOf (DC.get (.tab r.n (Row.cell (rowOf r.cell r.n)))) r.n) (Int.toNat w)) (0+Int.toNat (IntKind.wrap .i64 ((↑(Int.toNat w):Int)-1))+0)))) (0+Int.toNat (IntKind.wrap .i64 ((↑(Int.toNat w):Int)-1))+0) 4 (iv 0)⟩]
  else none else none else none else none else none else none else K (.os 1 0 (Int.toNat (↑(Int.toNat w):Int)-0)) [none,some ⟨5,.tab (Int.toNat w) (Row.cell (fitR (rowOf (DC.get (.tab r.n (Row.cell (rowOf r.cell r.n)))) r.n) (Int.toNat w)))⟩]
  else none else none else none else none else none else none else none:=by
 kernel_rfl
theorem coO_ok {st:AE.Stat}(hx:Hx st):ConOkZ true Tryz.prog st 160 (clO rowPos):=by
 refine con_ofZ (mg:=[]) (l:=[]) (lp:=noLp) (n:=0) (glOk st) (fun _ h=>nomatch h) Tryz.func160 (by kernel_rfl) (by kernel_rfl) (hx 160 rfl) (fun _ _ _ h=>nomatch h) fun args k hk=>?_
 unfold clO at hk
 split at hk<;>first | (cases hk; done) | skip
 rename_i t g n
 obtain ⟨hb,hk⟩:=bif_none hk
 obtain ⟨hb,hp⟩:=holds_eq.1 hb
 have hn:=hb.1
 refine ⟨[.sl t (rowOf g n).cell 5 n],_,.cons (hb.cv t) .nil,hk,fun b=>⟨lowR_row,(cop_tree t (rowOf g n) _).trans ?_⟩⟩
 have hz:0+(rowOf g n).n=n:=Nat.zero_add _
 rw [hz]
 refine dT (by omega) (fin_of ?_)
 exact finQ_own (id:=1) (blk:=⟨5,.app (.pre (.lst []) 0) (.tab n (rowOf g n).cell)⟩) rfl rfl rfl (by show n≤0+n; omega) trivial fun i f hi hf=>⟨Row.clo _ _ _,by
  show (if i<0 then _ else (rowOf g n).cell (i-0) f)=_
  rw [if_neg (Nat.not_lt_zero _)]; rfl⟩
def fit7 (g:Nat→Nat→DV) (n:Nat):Prop:=cellsOk g n∧check7 (rowOf g n)=0
theorem rfC_ok {st:AE.Stat}(hx:Hx st):ConOkZ true Tryz.prog st 100 (fiC fit7 fitR):=fun args k hk=>by
 unfold fiC at hk
 split at hk<;>first | (cases hk; done) | skip
 rename_i t g n w
 obtain ⟨hb,hk2⟩:=bif_none hk
 obtain ⟨hw,hk3⟩:=bif_none hk2
 have hq:=holds_eq.1 hb
 clear hk hk2 hb
 obtain ⟨hb,h7⟩:=hq
 have h0:=(check7_zero h7).1
 obtain ⟨w1,w2⟩:=and_dec hw
 obtain ⟨k0,rfl⟩:∃ k0:Nat,w=k0:=⟨w.toNat,by omega⟩
 obtain ⟨n1,n2,nl⟩:=rowF_pos h0
 have n1:1≤n:=n1
 have n2:n≤132:=n2
 have hW:IntKind.i64.wrap ((k0:Int)-1)=((k0-1:Nat):Int):=by
  rw [W_in (by omega) (by omega)]; omega
 have tb:∀ x∈rfT check7 rowPos,ConOkZ true Tryz.prog st x.1 x.2:=fun x h=>by
  simp only [rfT,List.mem_cons,List.not_mem_nil,or_false] at h
  rcases h with rfl | rfl | rfl
  ·exact (rcC_ok hx).z
  ·dsimp only
   exact coO_ok hx
  ·dsimp only
   exact b5N_z hx
 have F0:(bif holds (([.sl t g 5 n,iv k0]:List DV)=[.sl t g 5 n,iv k0]) then k (fun _=>(.sl false (fitR (rowOf g n) k0).cell 5 k0,[])) else none)=some ():=hT rfl hk3
 by_cases hlt:n<k0
 ·refine con_frz (F:=fun a k'=>bif holds (a=[.sl t g 5 n,iv k0]) then k' (fun _=>(.sl false (fitR (rowOf g n) k0).cell 5 k0,[])) else none) (E:=envZ (rfT check7 rowPos) (lpOf [(60,rfI.g)]) 0) rfl (glOk st) (tblD_env tb) Tryz.func100 (by kernel_rfl) (by kernel_rfl) (hx 100 rfl)
   (lp_in (c0:=.loop (loopAt Tryz.f100 60)) (by kernel_rfl) (rf_ls hx)) (fun args k hk=>?_) _ k F0
  obtain ⟨e,hk2⟩:=bif_none hk
  obtain rfl:=holds_eq.1 e
  refine ⟨[.sl t (rowOf g n).cell 5 n,iv k0],_,.cons (hb.cv t) (.self .nil),.sl fun i f _ _=>row_low _ _ _,hk2,(rfB_tree t (rowOf g n) k0 check7 rowPos _).trans ?_⟩
  refine hT (Row.ok hb.row) (cF (show (check7 (rowOf g n) != 0)=false by rw [h7]; rfl) (dF (by omega) (dF (by omega) (hT ⟨Row.ok hb.row,n1⟩ ?_))))
  have e2:=fit_out (r:=rowOf g n) (k:=k0) (i:=k0-1) (by show ¬ k0-1<n; omega) 0 1
  have hwd:((fitR (rowOf g n) k0).wd (k0-1)==2)=false:=by
   have e3:(fitR (rowOf g n) k0).wd (k0-1)=1:=by
    injection e2 with e2
    injection e2
   rw [e3]
   rfl
  simp only [Int.toNat_natCast,hW,Nat.add_zero,Nat.zero_add,Nat.sub_zero]
  refine hT ⟨⟨hlt,by show n+0≤k0; omega,by show k0≤132; omega⟩,[0],.of (im:=[some 0]) (.cons (.v _) (.cons (.os rfl) .nil)) rfl ⟨⟨0,_,rfl,rfl,rfl,Nat.le_refl _,trivial,fun i f hi hf=>.of_clo (Row.clo _ _ _)⟩,trivial⟩ rfl (by decide)⟩ ?_
  refine dT (by omega) (dT (by omega) (dT (by omega) (dT (by omega) (cF hwd ?_))))
  exact frz1 (id:=1) (c:=.tab k0 (fitR (rowOf g n) k0).cell) rfl (Nat.le_refl _) (fun i f _ _=>Row.clo _ _ _) fun i f hi hf=>rfl
 ·refine con_frz (F:=fun a k'=>bif holds (a=[.sl t g 5 n,iv k0]) then k' (fun _=>(.sl false (fitR (rowOf g n) k0).cell 5 k0,[])) else none) (E:=envZ (rfT check7 rowPos) noLp 1) rfl (glOk st) (tblD_env tb) Tryz.func100 (by kernel_rfl) (by kernel_rfl) (hx 100 rfl)
   (fun _ _ _ h=>nomatch h) (fun args k hk=>?_) _ k F0
  obtain ⟨e,hk2⟩:=bif_none hk
  obtain rfl:=holds_eq.1 e
  refine ⟨[.sl t (rowOf g n).cell 5 n,iv k0],_,.cons (hb.cv t) (.self .nil),.sl fun i f _ _=>row_low _ _ _,hk2,(rfA_tree t (rowOf g n) k0 check7 rowPos _).trans ?_⟩
  refine hT (Row.ok hb.row) (cF (show (check7 (rowOf g n) != 0)=false by rw [h7]; rfl) (dF (by omega) (dF (by omega) (hT ⟨Row.ok hb.row,n1⟩ (dF (by show ¬ ((n:Nat):Int)<(k0:Int); omega) ?_)))))
  simp only [Int.toNat_natCast,hW,Nat.add_zero,Nat.zero_add,Nat.sub_zero]
  have hk1:k0-1<n:=by omega
  refine dT (by omega) (dT (by show (k0:Int)≤(n:Int); omega) (dT (by omega) (dT (by omega) (dT hk1 ?_))))
  cases hw2:(rowOf g n).wd (k0-1)==2 with
  | true =>
   have hw3:(rowOf g n).wd (k0-1)=2:=by simpa using hw2
   refine cT hw2 (dT (by omega) (dT (by omega) (dT hk1 (dT (by omega) (dT (by omega) (dT hk1 ?_))))))
   refine frz1 (id:=0) rfl (by show k0≤n; omega) (fun i f _ hf=>?_) fun i f hi hf=>?_
   ·rw [upd5_at i f hf]
    by_cases h:i=k0-1
    ·rw [if_pos h]
     match f,hf with
     | 0,_=>exact .v _
     | 1,_=>exact .v _
     | 2,_=>exact .v _
     | 3,_=>exact .v _
     | 4,_=>exact .v _
    ·rw [if_neg h]
     exact Row.clo _ _ _
   ·rw [upd5_at i f hf]
    by_cases h:i=k0-1
    ·rw [if_pos h]
     have h1:i<(rowOf g n).n:=by show i<n; omega
     have e:=fit_half (r:=rowOf g n) (k:=k0) (i:=i) h1 (by omega) (by rw [h]; exact hw3)
     have e2:=decide_eq_true h1
     match f,hf with
     | 0,_=>show _=DV.v (.string (bif fitK _ k0 i then _ else _)); rw [e]; rfl
     | 1,_=>show _=DV.v (.int .i64 (bif fitK _ k0 i then _ else _)); rw [e]; rfl
     | 2,_=>show _=DV.v (.int .i64 (bif fitK _ k0 i then _ else _)); rw [e]; rfl
     | 3,_=>show _=DV.v (.int .i64 (bif decide (i<(rowOf g n).n) then _ else _)); rw [e2,h]; rfl
     | 4,_=>show _=DV.v (.int .i64 (bif fitK _ k0 i then _ else _)); rw [e]; rfl
    ·rw [if_neg h,fit_keep (by show i<n; omega) fun e=>absurd e (by omega)]
     rfl
  | false =>
   have hw3:(rowOf g n).wd (k0-1)≠2:=by simpa using hw2
   refine cF hw2 (frz1 (id:=0) (c:=.tab n (rowOf g n).cell) rfl (by show k0≤n; omega) (fun i f _ _=>Row.clo _ _ _) fun i f hi hf=>?_)
   rw [fit_keep (by show i<n; omega) fun e=>?_]
   ·rfl
   ·have:i=k0-1:=by omega
    rw [this]
    exact hw3
end Go.Proofs.YtigmkgampfbflaaGreatDoor
namespace Go.Proofs.YtigmkgampfbflaaGreatDoor
open Go Go.AE Go.DE Go.RowKit
theorem n8z_tree (w h:Int) (K:DV→DHeap→Option Unit):bodyD Tryz.prog (envZ [(88,s8N)] (lpOf [(122,(n8I gz0).g)]) 0) Tryz.f51 [iv w,iv h] [] (fun d σ=>K d σ) =
  bif decide (w ≥ 1) then bif decide (w≤132) then bif decide (h ≥ 1) then bif !decide (h≤60) then K (.tup [.agg [iv 0,iv 0,DV.v (Value.slice none 0 0)],iv 2]) [some ⟨3,.upd (.upd (.upd (.lst [[iv 0,iv 0,DV.v (Value.slice none 0 0)]]) 0 0 (iv 0)) 0 1 (iv 0)) 0 2 (DV.v (Value.slice none 0 0))⟩]
  else bif holds ((Nat.le 0 (Int.toNat h)∧Int.NonNeg (w-1)∧Int.NonNeg (30-w)∧Nat.le (Int.toNat h) 60∧Nat.le 1 (Int.toNat h))∧∃ ids,WkP 2 ids [iv w,iv h,.po 0 0 0,.po 1 0 0,iv 0] [some ⟨3,.lst [[iv 0,iv 0,DV.v (Value.slice none 0 0)]]⟩,some ⟨3,.upd (.upd (.upd (.lst [[iv 0,iv 0,DV.v (Value.slice none 0 0)]]) 0 0 (iv w)) 0 1 (iv h)) 0 2 (DV.v (Value.slice none 0 0))⟩] [iv w,iv (↑(Int.toNat h):Int),.po 0 0 0,.po 1 0 0,iv 0] [some ⟨3,.lst [[iv 0,iv 0,DV.v (Value.slice none 0 0)]]⟩,some ⟨3,.lst [[iv w,iv (↑(Int.toNat h):Int),DV.v (Value.slice none 0 0)]]⟩,none])
  then K (.tup [.agg [iv w,iv (↑(Int.toNat h):Int),.os 2 0 (Int.toNat h)],iv 0]) [some ⟨3,.upd (.upd (.upd (.lst [[iv 0,iv 0,DV.v (Value.slice none 0 0)]]) 0 0 (iv w)) 0 1 (iv (↑(Int.toNat h):Int))) 0 2 (.os 2 0 (Int.toNat h))⟩,some ⟨3,.lst [[iv w,iv (↑(Int.toNat h):Int),.os 2 0 (Int.toNat h)]]⟩,some ⟨1,.tab (Int.toNat h) fun a a_1=>DV.sl false (blkB w) 5 (Int.toNat w)⟩]
  else none else K (.tup [.agg [iv 0,iv 0,DV.v (Value.slice none 0 0)],iv 2]) [some ⟨3,.upd (.upd (.upd (.lst [[iv 0,iv 0,DV.v (Value.slice none 0 0)]]) 0 0 (iv 0)) 0 1 (iv 0)) 0 2 (DV.v (Value.slice none 0 0))⟩]
  else K (.tup [.agg [iv 0,iv 0,DV.v (Value.slice none 0 0)],iv 2]) [some ⟨3,.upd (.upd (.upd (.lst [[iv 0,iv 0,DV.v (Value.slice none 0 0)]]) 0 0 (iv 0)) 0 1 (iv 0)) 0 2 (DV.v (Value.slice none 0 0))⟩]
  else K (.tup [.agg [iv 0,iv 0,DV.v (Value.slice none 0 0)],iv 2]) [some ⟨3,.upd (.upd (.upd (.lst [[iv 0,iv 0,DV.v (Value.slice none 0 0)]]) 0 0 (iv 0)) 0 1 (iv 0)) 0 2 (DV.v (Value.slice none 0 0))⟩]:=by
 kernel_rfl
theorem finQ_any {s id:Nat}{c:DC}{k:Nat}{σ:DHeap}{blk:DBlk}{d2 d':DV}(e:Sub (fun j=>if j=s then some id else none) d2 d') (hb:σ[id]?=some (some blk)) (hk:k=blk.k) (hn:c.n≤blk.c.n) (hg:c.good) (hc:∀ i f,i<c.n→f<k→Clo (c.get i f)∧blk.c.get i f=c.get i f) :
  FinQ s (d2,[some ⟨k,c⟩]) d' σ:=by
 have at0:∀ {j:Nat}{b},(List.replicate s none++[some (⟨k,c⟩:DBlk)])[j]?=some (some b)→j=s∧b=⟨k,c⟩:=by
  intro j b hj
  obtain ⟨h1,h2⟩:=repl_get.1 hj
  cases hx:j-s with
  | zero=>rw [hx] at h2; simp only [List.getElem?_cons_zero,Option.some.injEq] at h2; exact ⟨by omega,h2.symm⟩
  | succ m=>rw [hx] at h2; simp at h2
 refine ⟨fun j=>if j=s then some id else none,fun j i h=>?_,⟨.cons e .nil,fun j h=>by omega,fun j i h=>?_,by simp,fun a b ba bb ha hb _=>by rw [(at0 ha).1,(at0 hb).1],fun j b hj=>?_⟩⟩
 ·have h:(if j=s then some id else none)=some i:=h
  split at h
  ·omega
  ·cases h
 ·have h:(if j=s then some id else none)=some i:=h
  split at h
  ·simp; omega
  ·cases h
 ·obtain ⟨rfl,rfl⟩:=at0 hj
  refine ⟨id,blk,by simp,hb,hk,hn,hg,fun i f hi hf=>?_⟩
  obtain ⟨h1,h2⟩:=hc i f hi hf
  show Sub _ (c.get i f) (blk.c.get i f)
  rw [h2]
  exact .of_clo h1
noncomputable def grO (S:Int→Int→Bool) (R:Int→Nat→Nat→DV):ConF:=fun args k=>match args with
 | [.v (.int .i64 w),.v (.int .i64 h)]=>bif decide (w≤30) then (bif S w h then k (fun _=>(.tup [gridZ,iv 2],[])) else k (fun b=>(.tup [.agg [iv w,iv h,.os b 0 h.toNat],iv 0],[some ⟨1,.tab h.toNat (R w)⟩]))) else none
 | _=>none
theorem rz_loop (w h w2:Int) (h2:Nat) (i:Nat) (t:Bool) (T:Nat→Bool) (R:Nat→Row) (n:Nat) (g:Nat→Nat→DV) (Q:(Nat→Nat→DV)→Nat→Prop) (M:Row→Nat→Row) (b1:Option DBlk) (K:Ex→Nat→List DV→List DV→DHeap→Option Unit):execD Tryz.prog (envZ [(100,fiC Q M)] noLp 0) (loopAt Tryz.f58 250) 500 (temps 48 [1,2,3,6,8,10] [iv w2,iv h2,.po 0 0 0,.po 1 0 0,.po 3 0 0,iv i]) [some ⟨3,.lst [[iv w,iv h,.sl t (rowsD T R) 1 n]]⟩,b1,some ⟨1,.tab h2 g⟩,some ⟨3,.lst [[iv w2,iv h2,.os 2 0 h2]]⟩] (fun e τ σ=>K e τ.length (pick [1,2,3,6,8,10] τ) (pick [6,8] τ) σ) =
  bif decide ((i:Int)<(h2:Int)) then bif decide ((i:Int)<h) then bif decide ((i:Int)<(n:Int)) then bif decide (tN i<n) then bif holds (Q (Row.cell (R (tN i))) (Row.n (R (tN i)))) then
  bif bif decide (1≤w2) then decide (w2≤30) else false then bif decide ((i:Int)<(h2:Int)) then bif decide (0+tN i<DC.n (.tab h2 g)) then K .normal 48 [iv w2,iv (h2:Int),.po 0 0 0,.po 1 0 0,.po 3 0 0,iv (IntKind.wrap .i64 ((i:Int)+1))] [.po 1 0 0,.po 3 0 0] [some ⟨3,.lst [[iv w,iv h,.sl t (fun a a_1=>DV.sl (T a) (Row.cell (R a)) 5 (Row.n (R a))) 1 n]]⟩,b1,some ⟨1,.upd (.tab h2 g) (0+tN i) 0 (.sl false (Row.cell (M (rowOf (Row.cell (R (tN i))) (Row.n (R (tN i)))) (Int.toNat w2))) 5 (Int.toNat w2))⟩,some ⟨3,.lst [[iv w2,iv (h2:Int),.os 2 0 h2]]⟩]
  else none else none else none else none else none else none else K (.exit 0) 48 [iv w2,iv (h2:Int),.po 0 0 0,.po 1 0 0,.po 3 0 0,iv (i:Int)] [.po 1 0 0,.po 3 0 0] [some ⟨3,.lst [[iv w,iv h,.sl t (fun a a_1=>DV.sl (T a) (Row.cell (R a)) 5 (Row.n (R a))) 1 n]]⟩,b1,some ⟨1,.tab h2 g⟩,some ⟨3,.lst [[iv w2,iv (h2:Int),.os 2 0 h2]]⟩]
  else K (.exit 0) 48 [iv w2,iv (h2:Int),.po 0 0 0,.po 1 0 0,.po 3 0 0,iv (i:Int)] [.po 1 0 0,.po 3 0 0] [some ⟨3,.lst [[iv w,iv h,.sl t (fun a a_1=>DV.sl (T a) (Row.cell (R a)) 5 (Row.n (R a))) 1 n]]⟩,b1,some ⟨1,.tab h2 g⟩,some ⟨3,.lst [[iv w2,iv (h2:Int),.os 2 0 h2]]⟩]:=by
 kernel_rfl
def upD (R:Nat→Row) (n:Nat) (w2:Int) (i:Nat):Nat→Nat→DV:=fun j f=>if j<i then rzD R n w2.toNat j f else rwD w2 j f
theorem upD_lt {R:Nat→Row}{n i j f:Nat}{w2:Int}(h:j<i):upD R n w2 i j f=rzD R n w2.toNat j f:=if_pos h
theorem upD_ge {R:Nat→Row}{n i j f:Nat}{w2:Int}(h:¬ j<i):upD R n w2 i j f=rwD w2 j f:=if_neg h
structure RGX where
 w:Int
 w2:Int
 t:Bool
 T:Nat→Bool
 R:Nat→Row
 n:Nat
 h2:Nat
 i:Nat
def rgH (x:RGX) (g:Nat→Nat→DV):DHeap:=[some ⟨3,.lst [[iv x.w,iv x.n,.sl x.t (rowsD x.T x.R) 1 x.n]]⟩,some gz0,some ⟨1,.tab x.h2 g⟩,some ⟨3,.lst [[iv x.w2,iv x.h2,.os 2 0 x.h2]]⟩]
noncomputable def rgI:LInv RGX where
 pre x:=x.i≤x.h2∧x.i≤x.n∧1≤x.w2∧x.w2≤30∧x.h2≤60∧x.n≤60∧∀ j,j<x.n→(x.R j).sized∧check7 (x.R j)=0
 m:=4
 n:=48
 ps:=[1,2,3,6,8,10]
 sd x:=[iv x.w2,iv x.h2,.po 0 0 0,.po 1 0 0,.po 3 0 0,iv x.i]
 sh x:=rgH x (upD x.R x.n x.w2 x.i)
 meas x:=x.h2-x.i
 e _:=.exit 0
 qs:=[6,8]
 od _:=[.po 1 0 0,.po 3 0 0]
 oh x:=rgH x (rzD x.R x.n x.w2.toNat)
 guess ds σ:=match ds,σ with
  | [.v (.int .i64 w2),.v (.int .i64 h2),_,_,_,_],[some b,_,_,_]=>match b.c.get 0 0,b.c.get 0 2 with
   | .v (.int .i64 w),.sl t G _ n=>some ⟨w,w2,t,fun i=>slT (G i 0),fun i=>rowD (G i 0),n,h2.toNat,0⟩
   | _,_=>none
  | _,_=>none
 cps x k:=k (.exit 0) [.po 1 0 0,.po 3 0 0] (rgH x (rzD x.R x.n x.w2.toNat))
theorem tm_rg {ids:List Nat}{w2:Int}{h2:Nat}{i:Nat}{z:Int}(hz:z=(i:Int)):SubL (ren 4 ids) [iv w2,iv h2,.po 0 0 0,.po 1 0 0,.po 3 0 0,iv i] [iv w2,iv h2,.po 0 0 0,.po 1 0 0,.po 3 0 0,iv z]:=by
 subst hz
 exact .cons (.v _) (.cons (.v _) (.cons (.po rfl) (.cons (.po rfl) (.cons (.po rfl) (.cons (.v _) .nil)))))
theorem rg_wk {x:RGX}{c:DC}{g:Nat→Nat→DV}{ds ds2:List DV}(tm:SubL (ren 4 []) ds2 ds) (hn:x.h2≤c.n) (hs:∀ j,j<x.h2→Sub (ren 4 []) (g j 0) (c.get j 0)) :
  WkP 4 [] ds [some ⟨3,.lst [[iv x.w,iv x.n,.sl x.t (rowsD x.T x.R) 1 x.n]]⟩,some gz0,some ⟨1,c⟩,some ⟨3,.lst [[iv x.w2,iv x.h2,.os 2 0 x.h2]]⟩] ds2 (rgH x g) :=
 .of (im:=[some 0,some 1,some 2,some 3]) tm rfl ⟨⟨0,_,rfl,rfl,(KB.lst (lst3 (.v _) (.v _) (.sl _ _ _ _)) (Nat.le_refl _)).sub⟩,⟨1,_,rfl,rfl,gz0_kb.sub⟩,⟨2,_,rfl,rfl,rfl,hn,trivial,fun j f hj hf=>by
  have hf:f<1:=hf
  obtain rfl:f=0:=by omega
  exact hs j hj⟩,⟨3,_,rfl,rfl,g3_same (.v _) (.v _) (.os rfl)⟩,trivial⟩ rfl (by decide)
theorem rg_ls {st:AE.Stat}(hx:Hx st):LoopSR true Tryz.prog st gl0 (.loop (loopAt Tryz.f58 250)) rgI.g:=by
 refine rgI.ok (E:=envZ [(100,fiC fit7 fitR)] noLp 0) (p:=500) (tblD_env (l:=[(100,fiC fit7 fitR)]) fun x h=>?_) (glOk st).1 (fun _ _ _ h=>nomatch h) (fun x k h=>h) fun x hx2=>?_
 ·simp only [List.mem_cons,List.not_mem_nil,or_false] at h
  subst h
  exact rfC_ok hx
 obtain ⟨w,w2,t,T,R,n,h2,i⟩:=x
 have hp:=hx2
 obtain ⟨hi,hn,q1,q2,q3,q4,q5⟩:i≤h2∧i≤n∧1≤w2∧w2≤30∧h2≤60∧n≤60∧∀ j,j<n→(R j).sized∧check7 (R j)=0:=hx2
 have done:∀ j,j<h2→(j<i∨¬ j<n)→Sub (ren 4 []) (rzD R n w2.toNat j 0) (upD R n w2 i j 0):=fun j _ hj=>by
  by_cases h:j<i
  ·rw [upD_lt h]
   exact .of_clo (.sl _ _ _ _)
  ·have hj:¬ j<n:=by omega
   rw [upD_ge h]
   have e:rzD R n w2.toNat j 0=rwD w2 j 0:=by
    show DV.sl false (rzR R n w2.toNat j).cell 5 w2.toNat=_
    rw [rzR_ge hj]
    rfl
   rw [e]
   exact .of_clo (.sl _ _ _ _)
 refine (rz_loop w n w2 h2 i t T R n (upD R n w2 i) fit7 fitR (some gz0) _).trans ?_
 simp only [Int.toNat_natCast,Nat.add_zero,Nat.zero_add]
 refine dS (fun hl=>?_) fun hg=>?_
 ·have hl:i<h2:=by omega
  refine dS (fun hlt=>?_) fun hge=>?_
  ·have hlt:i<n:=by omega
   refine dT (by omega) (dT hlt (hT ⟨Row.ok (q5 i hlt).1,(q5 i hlt).2⟩ (dT2 q1 q2 (dT (by omega) (dT hl (LInv.ask_of ⟨rfl,⟨w,w2,t,T,R,n,h2,i+1⟩,⟨rfl,rfl,rfl,hl,hlt,q1,q2,q3,q4,q5⟩,by simp only [rgI]; omega,[],rg_wk (x:=⟨w,w2,t,T,R,n,h2,i+1⟩) (tm_rg (i:=i+1) (by rw [W_in (by omega) (by omega)]; omega)) (Nat.le_refl _) fun j hj=>?_⟩))))))
   show Sub _ (upD R n w2 (i+1) j 0) (if j=i∧0=0 then .sl false (fitR (rowOf (R i).cell (R i).n) w2.toNat).cell 5 w2.toNat else upD R n w2 i j 0)
   by_cases hji:j=i
   ·subst hji
    have e:rzD R n w2.toNat j 0=.sl false (fitR (R j) w2.toNat).cell 5 w2.toNat:=by
     show DV.sl false (rzR R n w2.toNat j).cell 5 w2.toNat=_
     rw [rzR_lt hlt]
    rw [if_pos ⟨rfl,rfl⟩,upD_lt (by omega),e]
    exact .of_clo (.sl _ _ _ _)
   ·rw [if_neg (fun h=>hji h.1)]
    by_cases h:j<i
    ·rw [upD_lt h,upD_lt (by omega)]
     exact .of_clo (.sl _ _ _ _)
    ·rw [upD_ge h,upD_ge (by omega)]
     exact .of_clo (.sl _ _ _ _)
  ·have hge:¬ i<n:=by omega
   exact LInv.ask_of ⟨rfl,rfl,[],rg_wk (x:=⟨w,w2,t,T,R,n,h2,i⟩) (.cons (.po rfl) (.cons (.po rfl) .nil)) (Nat.le_refl _) fun j hj=>done j hj (by omega)⟩
 ·have hg:¬ i<h2:=by omega
  exact LInv.ask_of ⟨rfl,rfl,[],rg_wk (x:=⟨w,w2,t,T,R,n,h2,i⟩) (.cons (.po rfl) (.cons (.po rfl) .nil)) (Nat.le_refl _) fun j hj=>done j hj (by have:j<h2:=hj; omega)⟩
theorem grO_ok {st:AE.Stat}(hx:Hx st):ConOkZ true Tryz.prog st 51 (grO szF2 rwD):=by
 refine con_ofZ (mg:=[]) (l:=[(88,s8N)]) (lp:=lpOf [(122,(n8I gz0).g)]) (n:=0) (glOk st) (fun x h=>?_) Tryz.func51 (by kernel_rfl) (by kernel_rfl) (hx 51 rfl) (lp_in (c0:=.loop (loopAt Tryz.f51 122)) (by kernel_rfl) (n8_ls hx gz0 gz0_kb)) fun args k hk=>?_
 ·simp only [List.mem_cons,List.not_mem_nil,or_false] at h
  subst h
  exact (s8N_ok hx).z
 unfold grO at hk
 split at hk<;>first | (cases hk; done) | skip
 rename_i w h
 obtain ⟨hw,hk⟩:=dec_none hk
 cases hS:szF2 w h with
 | true =>
  rw [hS,cond_true] at hk
  refine ⟨[iv w,iv h],_,.self (.self .nil),hk,fun b=>⟨lowR_flat (gz_clo 2).2,(n8z_tree w h _).trans ?_⟩⟩
  refine dS (fun h1=>dS (fun h2=>dS (fun h3=>?_) fun _=>fin_of (finQ_flat (gz_clo 2).1 rfl)) fun _=>fin_of (finQ_flat (gz_clo 2).1 rfl)) fun _=>fin_of (finQ_flat (gz_clo 2).1 rfl)
  by_cases h4:h≤60
  ·exact (szF2_true hS (by omega) (by omega) (by omega) (by omega)).elim
  ·rw [decide_eq_false h4]
   exact fin_of (finQ_flat (gz_clo 2).1 rfl)
 | false =>
  rw [hS,cond_false] at hk
  obtain ⟨h1,h2,h3,h4⟩:=szF2_false hS
  obtain ⟨n,rfl⟩:∃ n:Nat,h=n:=⟨h.toNat,by omega⟩
  refine ⟨[iv w,iv n],_,.self (.self .nil),hk,fun b=>⟨⟨?_,fun id blk hb i f hi _=>?_⟩,(n8z_tree w n _).trans ?_⟩⟩
  ·exact Low.tup (fun d hd=>by
    simp only [List.mem_cons,List.not_mem_nil,or_false] at hd
    rcases hd with rfl | rfl
    ·exact Low.agg (fun d hd=>by
      simp only [List.mem_cons,List.not_mem_nil,or_false] at hd
      rcases hd with rfl | rfl | rfl
      ·exact .v _
      ·exact .v _
      ·exact .os _ _ _)
    ·exact .v _)
  ·cases id with
   | succ id=>simp at hb
   | zero =>
    obtain rfl:(⟨1,.tab (n:Int).toNat (rwD w)⟩:DBlk)=blk:=Option.some.inj (Option.some.inj hb)
    exact rwD_low w i f
  ·refine dT (by omega) (dT (by omega) (dT (by omega) ?_))
   rw [decide_eq_true h4]
   refine hT ⟨⟨Nat.zero_le _,h1,hw,by show (n:Int).toNat≤60; omega,by show 1≤(n:Int).toNat; omega⟩,[2],?_⟩ ?_
   ·simp only [Int.toNat_natCast]
    exact .of (im:=[some 0,some 1]) (tm_n8 rfl) rfl ⟨⟨0,_,rfl,rfl,gz0_kb.sub⟩,⟨1,_,rfl,rfl,g3_upd (.v _) (.v _) (.v _)⟩,trivial⟩ rfl (by decide)
   ·simp only [Int.toNat_natCast]
    exact fin_of (finQ_any (id:=2) (blk:=⟨1,.tab n (rwD w)⟩) (SubL.tup (.cons (SubL.agg (.cons (.v _) (.cons (.v _) (.cons (.os (if_pos rfl)) .nil)))) (.cons (.v _) .nil))) rfl rfl (Nat.le_refl _) trivial fun i f hi hf=>⟨rwD_clo w i f,rfl⟩)
def grid8 (w h:Int) (G:Nat→Nat→DV) (n:Nat):Prop:=(n≤9000000∧∀ i,i<n→isRow (G i 0))∧check8 w h (fun i=>rowD (G i 0)) n=0
theorem rg_tree (w w2 h2:Int) (t:Bool) (T:Nat→Bool) (R:Nat→Row) (n:Nat) (F:Int→Int→(Nat→Row)→Nat→Int) (S:Int→Int→Bool) (K:DV→DHeap→Option Unit):bodyD Tryz.prog (envZ [(41,gcC F),(51,grO S rwD)] (lpOf [(250,rgI.g)]) 0) Tryz.f58 [.agg [iv w,iv n,.sl t (rowsD T R) 1 n],iv w2,iv h2] [] (fun d σ=>K d σ) =
  bif holds (Nat.le n 9000000∧∀ (i:Nat),i<n→DV.sl (T i) (Row.cell (R i)) 5 (Row.n (R i))=DV.sl (slT (.sl (T i) (Row.cell (R i)) 5 (Row.n (R i)))) (slG (.sl (T i) (Row.cell (R i)) 5 (Row.n (R i)))) 5 (slN (.sl (T i) (Row.cell (R i)) 5 (Row.n (R i))))∧Nat.le (slN (.sl (T i) (Row.cell (R i)) 5 (Row.n (R i)))) 9000000∧∀ (i_1:Nat),i_1<slN (.sl (T i) (Row.cell (R i)) 5 (Row.n (R i)))→sv (Row.tx (R i) i_1)=sv (strD (sv (Row.tx (R i) i_1)))∧Nat.le (ByteArray.size (strD (sv (Row.tx (R i) i_1)))) 9000000∧iv (Row.wd (R i) i_1)=iv (numD (iv (Row.wd (R i) i_1)))∧iv (Row.fo (R i) i_1)=iv (numD (iv (Row.fo (R i) i_1)))∧iv (Row.ba (R i) i_1)=iv (numD (iv (Row.ba (R i) i_1)))∧iv (Row.fl (R i) i_1)=iv (numD (iv (Row.fl (R i) i_1))))
  then bif F w (n:Int) (fun i=>{ n:=slN (.sl (T i) (Row.cell (R i)) 5 (Row.n (R i))),tx:=fun j=>strD (sv (Row.tx (R i) j)),wd:=fun j=>numD (iv (Row.wd (R i) j)),fo:=fun j=>numD (iv (Row.fo (R i) j)),ba:=fun j=>numD (iv (Row.ba (R i) j)),fl:=fun j=>numD (iv (Row.fl (R i) j)) }) n != 0
  then K (.tup [.agg [iv 0,iv 0,DV.v (Value.slice none 0 0)],iv 1]) [some ⟨3,.lst [[iv w,iv (n:Int),.sl t (fun a a_1=>DV.sl (T a) (Row.cell (R a)) 5 (Row.n (R a))) 1 n]]⟩,some ⟨3,.upd (.upd (.upd (.lst [[iv 0,iv 0,DV.v (Value.slice none 0 0)]]) 0 0 (iv 0)) 0 1 (iv 0)) 0 2 (DV.v (Value.slice none 0 0))⟩]
  else bif decide (w2≤30) then bif S w2 h2 then K (.tup [.agg [iv 0,iv 0,DV.v (Value.slice none 0 0)],iv 2]) [some ⟨3,.lst [[iv w,iv (n:Int),.sl t (fun a a_1=>DV.sl (T a) (Row.cell (R a)) 5 (Row.n (R a))) 1 n]]⟩,some ⟨3,.upd (.upd (.upd (.lst [[iv 0,iv 0,DV.v (Value.slice none 0 0)]]) 0 0 (iv 0)) 0 1 (iv 0)) 0 2 (DV.v (Value.slice none 0 0))⟩,some ⟨3,.upd (.upd (.upd (.lst [[iv 0,iv 0,DV.v (Value.slice none 0 0)]]) 0 0 (iv 0)) 0 1 (iv 0)) 0 2 (DV.v (Value.slice none 0 0))⟩]
  else bif holds ((Nat.le 0 (Int.toNat h2)∧Nat.le 0 n∧Int.NonNeg (w2-1)∧Int.NonNeg (30-w2)∧Nat.le (Int.toNat h2) 60∧Nat.le n 60∧∀ (j:Nat),j<n→(Nat.le (Row.n ((fun i=>rowD (.sl (T i) (Row.cell (R i)) 5 (Row.n (R i)))) j)) 9000000∧∀ (i:Nat),i<Row.n ((fun i=>rowD (.sl (T i) (Row.cell (R i)) 5 (Row.n (R i)))) j)→Nat.le (ByteArray.size (Row.tx ((fun i=>rowD (.sl (T i) (Row.cell (R i)) 5 (Row.n (R i)))) j) i)) 9000000)∧check7 ((fun i=>rowD (.sl (T i) (Row.cell (R i)) 5 (Row.n (R i)))) j)=0)∧∃ ids,WkP 4 ids [iv w2,iv h2,.po 0 0 0,.po 1 0 0,.po 3 0 0,iv 0] [some ⟨3,.lst [[iv w,iv (n:Int),.sl t (fun a a_1=>DV.sl (T a) (Row.cell (R a)) 5 (Row.n (R a))) 1 n]]⟩,some ⟨3,.lst [[iv 0,iv 0,DV.v (Value.slice none 0 0)]]⟩,some ⟨1,.tab (Int.toNat h2) fun a a_1=>DV.sl false (blkB w2) 5 (Int.toNat w2)⟩,some ⟨3,.upd (.upd (.upd (.lst [[iv 0,iv 0,DV.v (Value.slice none 0 0)]]) 0 0 (iv w2)) 0 1 (iv h2)) 0 2 (.os 2 0 (Int.toNat h2))⟩] [iv w2,iv (↑(Int.toNat h2):Int),.po 0 0 0,.po 1 0 0,.po 3 0 0,iv 0] [some ⟨3,.lst [[iv w,iv (n:Int),.sl t (fun a a_1=>DV.sl ((fun i=>slT (.sl (T i) (Row.cell (R i)) 5 (Row.n (R i)))) a) (Row.cell ((fun i=>rowD (.sl (T i) (Row.cell (R i)) 5 (Row.n (R i)))) a)) 5 (Row.n ((fun i=>rowD (.sl (T i) (Row.cell (R i)) 5 (Row.n (R i)))) a))) 1 n]]⟩,some ⟨3,.lst [[iv 0,iv 0,DV.v (Value.slice none 0 0)]]⟩,some ⟨1,.tab (Int.toNat h2) fun a a_1=>DV.sl false (blkB w2) 5 (Int.toNat w2)⟩,some ⟨3,.lst [[iv w2,iv (↑(Int.toNat h2):Int),.os 2 0 (Int.toNat h2)]]⟩])
  then K (.tup [.agg [iv w2,iv (↑(Int.toNat h2):Int),.os 2 0 (Int.toNat h2)],iv 0]) [some ⟨3,.lst [[iv w,iv (n:Int),.sl t (fun a a_1=>DV.sl ((fun i=>slT (.sl (T i) (Row.cell (R i)) 5 (Row.n (R i)))) a) (Row.cell ((fun i=>rowD (.sl (T i) (Row.cell (R i)) 5 (Row.n (R i)))) a)) 5 (Row.n ((fun i=>rowD (.sl (T i) (Row.cell (R i)) 5 (Row.n (R i)))) a))) 1 n]]⟩,some ⟨3,.upd (.upd (.upd (.lst [[iv 0,iv 0,DV.v (Value.slice none 0 0)]]) 0 0 (iv w2)) 0 1 (iv (↑(Int.toNat h2):Int))) 0 2 (.os 2 0 (Int.toNat h2))⟩,some ⟨1,.tab (Int.toNat h2) fun a a_1=>DV.sl ((fun x=>false) a) (Row.cell (rzR (fun i=>rowD (.sl (T i) (Row.cell (R i)) 5 (Row.n (R i)))) n (Int.toNat w2) a)) 5 (Row.n (rzR (fun i=>rowD (.sl (T i) (Row.cell (R i)) 5 (Row.n (R i)))) n (Int.toNat w2) a))⟩,some ⟨3,.lst [[iv w2,iv (↑(Int.toNat h2):Int),.os 2 0 (Int.toNat h2)]]⟩]
  else none else none else none:=by
 kernel_rfl
theorem rgC_ok {st:AE.Stat}(hx:Hx st):ConOkZ true Tryz.prog st 58 (gyC grid8 szF2 rzR):=by
 refine con_frz (E:=envZ [(41,gcC check8),(51,grO szF2 rwD)] (lpOf [(250,rgI.g)]) 0) rfl (glOk st) (tblD_env (l:=[(41,gcC check8),(51,grO szF2 rwD)]) fun x h=>?_) Tryz.func58 (by kernel_rfl) (by kernel_rfl) (hx 58 rfl)
  (lp_in (c0:=.loop (loopAt Tryz.f58 250)) (by kernel_rfl) (rg_ls hx)) fun args k hk=>?_
 ·simp only [List.mem_cons,List.not_mem_nil,or_false] at h
  rcases h with rfl | rfl
  ·exact (gcC_ok hx).z
  ·exact grO_ok hx
 unfold gyC at hk
 split at hk<;>first | (cases hk; done) | skip
 rename_i w h t G n w2 h2
 obtain ⟨hb,hk2⟩:=bif_none hk
 obtain ⟨hw,hk3⟩:=dec_none hk2
 clear hk hk2
 obtain ⟨⟨p6,p7⟩,p8⟩:=holds_eq.1 hb
 clear hb
 obtain ⟨p1,p2,p3,p4,p5,p9⟩:=check8_zero p8
 subst p5
 have q':n≤9000000∧∀ i,i<n→isRow (rowsD (fun i=>slT (G i 0)) (fun i=>rowD (G i 0)) i 0):=⟨p6,fun i hi=>isRow_of (p7 i hi).2.row⟩
 have args:CvL [.agg [iv w,iv n,.sl t G 1 n],iv w2,iv h2] [.agg [iv w,iv n,.sl t (rowsD (fun i=>slT (G i 0)) fun i=>rowD (G i 0)) 1 n],iv w2,iv h2]:=.cons (Cv.agg (.cons (Cv.of rfl) (.cons (Cv.of rfl) (.cons (rows_cv p7) .nil)))) (.self (.self .nil))
 have c8:(check8 w n (fun i=>rowD (G i 0)) n != 0)=false:=by rw [p8]; rfl
 cases hS:szF2 w2 h2 with
 | true =>
  rw [hS,cond_true] at hk3
  refine ⟨_,_,args,(gz_clo 2).2,hk3,(rg_tree w w2 h2 t (fun i=>slT (G i 0)) (fun i=>rowD (G i 0)) n check8 szF2 _).trans (hT q' (cF c8 (dT hw ?_)))⟩
  rw [hS]
  exact fz_flat (gz_clo 2).1
 | false =>
  rw [hS,cond_false] at hk3
  obtain ⟨h1,h2',h3,h4⟩:=szF2_false hS
  refine ⟨_,_,args,(tup2_flat ⟨grid_clo _ _ _ _,grid_low _ _ _ _⟩ _).2,hk3,(rg_tree w w2 h2 t (fun i=>slT (G i 0)) (fun i=>rowD (G i 0)) n check8 szF2 _).trans (hT q' (cF c8 (dT hw ?_)))⟩
  rw [hS]
  obtain ⟨m,rfl⟩:∃ m:Nat,h2=m:=⟨h2.toNat,by omega⟩
  refine hT ⟨⟨Nat.zero_le _,Nat.zero_le _,h1,hw,by show (m:Int).toNat≤60; omega,by show n≤60; omega,fun j hj=>⟨(p7 j hj).2.row,(p9 j hj).2⟩⟩,[],?_⟩ ?_
  ·simp only [Int.toNat_natCast]
   exact .of (im:=[some 0,some 1,some 2,some 3]) (tm_rg (i:=0) rfl) rfl ⟨⟨0,_,rfl,rfl,(KB.lst (lst3 (.v _) (.v _) (.sl _ _ _ _)) (Nat.le_refl _)).sub⟩,⟨1,_,rfl,rfl,gz0_kb.sub⟩,⟨2,_,rfl,rfl,rfl,Nat.le_refl _,trivial,fun j f hj hf=>.of_clo (.sl _ _ _ _)⟩,⟨3,_,rfl,rfl,g3_upd (.v _) (.v _) (.os rfl)⟩,trivial⟩ rfl (by decide)
  ·simp only [Int.toNat_natCast]
   refine fzq_of ⟨[2],SubLZ.tup (.cons (SubLZ.agg (.cons (Sub.v _).z (.cons (Sub.v _).z (.cons (SubZ.fz0 (c:=.tab m (rzD (fun i=>rowD (G i 0)) n w2.toNat)) rfl (Nat.le_refl _) fun _ _=>rfl) .nil)))) (.cons (Sub.v _).z .nil)),fun j hj blk hb i f _ _=>?_⟩
   obtain rfl:j=2:=by simpa using hj
   obtain rfl:(⟨1,.tab m (rzD (fun i=>rowD (G i 0)) n w2.toNat)⟩:DBlk)=blk:=Option.some.inj (Option.some.inj hb)
   exact rzD_clo _ _ _ i f
end Go.Proofs.YtigmkgampfbflaaGreatDoor
namespace Go.Proofs.YtigmkgampfbflaaGreatDoor
open Go Go.AE Go.DE Go.RowKit
def Tm.rszR (x:Tm) (w h:Int):Tm:={ x.rsz w h with bT:=x.bT }
theorem rr13_tree (x:Tm) (w h:Int) (Q:Int→Int→(Nat→Nat→DV)→Nat→Prop) (S:Int→Int→Bool) (M:(Nat→Row)→Nat→Nat→Nat→Row) (L:Int→Int→Int) (QT:(Nat→Nat→DV)→Nat→Prop) (T:Nat→Bool) (k:DV→Option Unit):bodyD Tryz.prog (envZ [(58,gyC Q S M),(59,clpC L),(60,trF QT T)] noLp 0) Tryz.f21 [.agg x.cells,iv w,iv h] [] (fun d _=>k d) =
  bif holds (Q (x.I 0) (x.I 1) (rowsD x.gT x.gR) x.gn) then bif decide (w≤30) then bif S w h then k (.tup [.agg [iv 0,iv 0,DV.v (Value.slice none 0 0),iv 0,iv 0,DV.v (Value.slice none 0 0),iv 0,iv 0,bv false,iv 0,iv 0,bv false,iv 0,iv 0,iv 0,bv false,kv .u8 0,kv .u8 0,iv 0,iv 0,iv 0,iv 0,bv false,bv false,bv false,bv false,bv false,bv false,bv false,bv false,kv .u8 0,kv .u8 0,iv 0,iv 0,iv 0,DV.v (Value.slice none 0 0),DV.v (Value.slice none 0 0),iv 0,sv ⟨#[]⟩,sv ⟨#[]⟩,sv ⟨#[]⟩,sv ⟨#[]⟩],iv 2])
  else bif decide (0<Int.toNat h) then bif decide (0<Int.toNat h) then bif holds (Q (x.I 3) (x.I 4) (rowsD x.oT x.oR) x.on) then bif decide (w≤30) then bif S w h then bif holds (Int.NonNeg (w-1)∧Int.NonNeg (132-w)∧Int.NonNeg (h-1)∧Int.NonNeg (60-h))
  then bif holds (Int.NonNeg (w-1)∧Int.NonNeg (132-w)∧Int.NonNeg (h-1)∧Int.NonNeg (60-h)) then bif holds (QT (tabsD x.tb) x.tn) then bif bif decide (1≤w) then decide (w≤1000) else false
  then k (.tup [.agg [iv w,iv h,.sl false (fun a a_1=>DV.sl ((fun x=>false) a) (Row.cell (M (fun i=>rowD (.sl (x.gT i) (Row.cell (x.gR i)) 5 (Row.n (x.gR i)))) x.gn (Int.toNat w) a)) 5 (Row.n (M (fun i=>rowD (.sl (x.gT i) (Row.cell (x.gR i)) 5 (Row.n (x.gR i)))) x.gn (Int.toNat w) a))) 1 (Int.toNat h),iv 0,iv 0,DV.v (Value.slice none 0 0),iv (L (x.I 6) h),iv (L (x.I 7) w),bv false,iv (L (x.I 9) h),iv (L (x.I 10) w),bv false,iv (x.I 12),iv (x.I 13),iv (x.I 14),bv (x.B 15),kv .u8 ((x.I 16)),kv .u8 ((x.I 17)),iv (x.I 18),iv (x.I 19),iv (x.I 20),iv (x.I 21),bv (x.B 22),bv (x.B 23),bv (x.B 24),bv (x.B 25),bv (x.B 26),bv (x.B 27),bv (x.B 28),bv (x.B 29),kv .u8 ((x.I 30)),kv .u8 ((x.I 31)),iv (x.I 32),iv 0,iv h,.sl false (fun a a_1=>bv (rsT (fun i=>boolD (bv (x.tb i))) x.tn T a)) 1 (Int.toNat w),.sl false (fun a a_1=>DV.sl (x.bT a) (Row.cell (x.bR a)) 5 (Row.n (x.bR a))) 1 x.bn,iv (x.I 37),sv (x.S 38),sv (x.S 39),sv (x.S 40),sv (x.S 41)],iv 0])
  else none else none else none else none else bif decide (0<Int.toNat h) then bif decide (0<Int.toNat h) then bif holds (Int.NonNeg (w-1)∧Int.NonNeg (132-w)∧Int.NonNeg (h-1)∧Int.NonNeg (60-h))
  then bif holds (Int.NonNeg (w-1)∧Int.NonNeg (132-w)∧Int.NonNeg (h-1)∧Int.NonNeg (60-h)) then bif holds (QT (tabsD x.tb) x.tn) then bif bif decide (1≤w) then decide (w≤1000) else false
  then k (.tup [.agg [iv w,iv h,.sl false (fun a a_1=>DV.sl ((fun x=>false) a) (Row.cell (M (fun i=>rowD (.sl (x.gT i) (Row.cell (x.gR i)) 5 (Row.n (x.gR i)))) x.gn (Int.toNat w) a)) 5 (Row.n (M (fun i=>rowD (.sl (x.gT i) (Row.cell (x.gR i)) 5 (Row.n (x.gR i)))) x.gn (Int.toNat w) a))) 1 (Int.toNat h),iv w,iv h,.sl false (fun a a_1=>DV.sl ((fun x=>false) a) (Row.cell (M (fun i=>rowD (.sl (x.oT i) (Row.cell (x.oR i)) 5 (Row.n (x.oR i)))) x.on (Int.toNat w) a)) 5 (Row.n (M (fun i=>rowD (.sl (x.oT i) (Row.cell (x.oR i)) 5 (Row.n (x.oR i)))) x.on (Int.toNat w) a))) 1 (Int.toNat h),iv (L (x.I 6) h),iv (L (x.I 7) w),bv false,iv (L (x.I 9) h),iv (L (x.I 10) w),bv false,iv (x.I 12),iv (x.I 13),iv (x.I 14),bv (x.B 15),kv .u8 ((x.I 16)),kv .u8 ((x.I 17)),iv (x.I 18),iv (x.I 19),iv (x.I 20),iv (x.I 21),bv (x.B 22),bv (x.B 23),bv (x.B 24),bv (x.B 25),bv (x.B 26),bv (x.B 27),bv (x.B 28),bv (x.B 29),kv .u8 ((x.I 30)),kv .u8 ((x.I 31)),iv (x.I 32),iv 0,iv h,.sl false (fun a a_1=>bv (rsT (fun i=>boolD (bv (x.tb i))) x.tn T a)) 1 (Int.toNat w),.sl false (fun a a_1=>DV.sl (x.bT a) (Row.cell (x.bR a)) 5 (Row.n (x.bR a))) 1 x.bn,iv (x.I 37),sv (x.S 38),sv (x.S 39),sv (x.S 40),sv (x.S 41)],iv 0])
  else none else none else none else none else none else none else none else none else none else none else none else none:=by
 kernel_rfl
theorem g_8 {x:Tm}(ok:x.ok) (p:Prp x):grid8 (x.I 0) (x.I 1) (rowsD x.gT x.gR) x.gn:=⟨⟨ok.1.1,fun i hi=>isRow_of (ok.1.2 i hi)⟩,p.g⟩
theorem o_8 {x:Tm}(ok:x.ok) (p:Prp x):grid8 (x.I 3) (x.I 4) (rowsD x.oT x.oR) x.on:=⟨⟨ok.2.1.1,fun i hi=>isRow_of (ok.2.1.2 i hi)⟩,p.o⟩
theorem r13C_ok {st:AE.Stat}(hx:Hx st):ConOkZ true Tryz.prog st 21 (rtC tmPr szF2 zeroL Tm.rszR):=by
 refine con_flatZ (mg:=[]) (l:=[(58,gyC grid8 szF2 rzR),(59,clpC lesF),(60,trF tabsSo tab8)]) (lp:=noLp) (n:=0) (glOk st) (fun x h=>?_) Tryz.func21 (by kernel_rfl) (by kernel_rfl) (hx 21 rfl) (fun _ _ _ h=>nomatch h) fun args k hk2=>?_
 ·simp only [List.mem_cons,List.not_mem_nil,or_false] at h
  rcases h with rfl | rfl | rfl
  ·exact rgC_ok hx
  ·exact (clpC_ok hx).z
  ·exact r6F_ok hx
 unfold rtC at hk2
 split at hk2<;>first | (cases hk2; done) | skip
 rename_i l w h
 obtain ⟨hb,hk3⟩:=bif_none hk2
 obtain ⟨hw,hk4⟩:=dec_none hk3
 have q:=holds_eq.1 hb
 clear hk2 hk3 hb
 obtain ⟨h1,ok,p,lo⟩:=q
 cases hS:szF2 w h with
 | true =>
  rw [hS,cond_true] at hk4
  refine ⟨[.agg (tmOf l).cells,iv w,iv h],_,.cons (Cv.of (by rw [← h1])) (.self (.self .nil)),tup_agg zeroL_flat.1 zeroL_flat.2,hk4,(rr13_tree (tmOf l) w h grid8 szF2 rzR lesF tabsSo tab8 _).trans (hT (g_8 ok p) (dT hw ?_))⟩
  rw [hS]
  exact isD_of rfl
 | false =>
  rw [hS,cond_false] at hk4
  obtain ⟨w1,w2,h1',h2⟩:=szF2_false hS
  have hp:0<h.toNat:=by omega
  have c:1≤w∧w≤132∧1≤h∧h≤60:=⟨w1,w2,h1',h2⟩
  refine ⟨[.agg (tmOf l).cells,iv w,iv h],_,.cons (Cv.of (by rw [← h1])) (.self (.self .nil)),tup_agg (Tm.rszR (tmOf l) w h).clo (Tm.low_cells (fun _ _=>rfl) (fun _ _=>rfl) lo.2.2),hk4,(rr13_tree (tmOf l) w h grid8 szF2 rzR lesF tabsSo tab8 _).trans (hT (g_8 ok p) (dT hw ?_))⟩
  rw [hS]
  exact dT hp (dT hp (hT (o_8 ok p) (dT hw (dT hp (dT hp (hT c (hT c (hT ⟨ok.2.2.2.1,fun _ _=>rfl⟩ (dT2 w1 (by omega) (isD_of rfl))))))))))
end Go.Proofs.YtigmkgampfbflaaGreatDoor
