/-
 The chapter's examples (awake): what is told ahead of the closed run.
 Conditions: none beyond those of the contracts.
-/
import Derived.Test.YtigmkgampfbflaaGreatDoorDeCon
import Derived.Test.YtigmkgampfbflaaGreatDoorAeFast4
import Derived.Test.YtigmkgampfbflaaGreatDoorAeSub2
import Derived.Test.YtigmkgampfbflaaGreatDoorJOp
import Derived.KernelRfl
import Derived.Test.YtigmkgampfbflaaGreatDoorJGck
import Derived.Test.YtigmkgampfbflaaGreatDoorAeMpg
import Derived.Test.YtigmkgampfbflaaGreatDoorJDec
import Derived.Shelf.Strings.Repeat
import Derived.Shelf.LaysM
import Derived.Ground.SlgnProg
import Derived.Test.YtigmkgampfbflaaGreatDoorProg
import Derived.Test.YtigmkgampfbflaaGreatDoorJTx
import Derived.Lib.Repeat
import Derived.Test.YtigmkgampfbflaaGreatDoorJPe
namespace Go.Proofs.YtigmkgampfbflaaGreatDoor
open Go Go.AE Go.DE Go.RowKit
def okN (n:Nat):Bool:=Nat.beq n 32||Nat.beq n 88||(Nat.ble 97 n&&Nat.ble n 103)
def cwV:List Value->Option Value
 | [.int .i32 (.ofNat n)]=>bif okN n then some (.int .i64 1) else none
 | _=>none
def oneS (s:ByteArray):Bool:=match s with
 | ⟨⟨[c]⟩⟩=>okN c.toNat
 | _=>false
def ccV:List Value->Option Value
 | [.string s]=>bif oneS s then some (.int .i64 0) else none
 | _=>none
def cdV:List Value->Option Value
 | [.string s]=>bif oneS s then some (.int .i64 1) else none
 | _=>none
def uvV:List Value->Option Value
 | [.string ⟨⟨[]⟩⟩]=>some (.bool true)
 | _=>none
def cellsV:Nat->List Value->Option (List (List UInt8))
 | 0,[]=>some []
 | k+1,.string ⟨⟨s⟩⟩ :: .int .i64 _ :: .int .i64 _ :: .int .i64 _ :: .int .i64 _ :: r=>if s.length<=1000 then (match cellsV k r with
  | some l=>some (s :: l)
  | none=>none) else none
 | _,_=>none
def joinU:List (List UInt8)->List UInt8
 | []=>[]
 | s :: r=>s++joinU r
def tnV (st:AE.Stat) (g:HF):List Value->RG
 | [.slice (some a) 5 _]=>match loadG st g a 25 with
  | some l=>(match cellsV 5 l with
   | some ss=>some (.string ⟨⟨joinU ss⟩⟩,.keep)
   | none=>none)
  | _=>none
 | _=>none
def codesV (i:Nat):Option Value:=match i with
 | 0=>some (.int .i64 1) | 1=>some (.int .i64 2) | 2=>some (.int .i64 3) | 3=>some (.int .i64 4) | 4=>some (.int .i64 5) | 5=>some (.int .i64 7) | 6=>some (.int .i64 8) | 7=>some (.int .i64 9) | _=>none
def stC:Nat->Nat->Option Value:=fun b i=>match b with
 | 3=>codesV i
 | _=>none
def stN0:AE.Stat:=⟨fun _ _=>none,fun _ _ _=>none⟩
def toL:RG->RL
 | some (v,.keep)=>some (v,[])
 | some (v,.push b)=>some (v,[.new (some b)])
 | _=>none
noncomputable def extA:ExtL:=fun f args g n=>match f with
 | 110=>toL (keepX cwV args)
 | 72=>toL (keepX ccV args)
 | 73=>toL (keepX cdV args)
 | 30=>toL (keepX uvV args)
 | 24=>toL (tnV stN0 g args)
 | 145=>effD.ans args g n
 | _=>none
noncomputable def stA:AE.Stat:=⟨stC,extOfL extA⟩
def dAw:Deep:=⟨13,[],[],.bool true,[]⟩
end Go.Proofs.YtigmkgampfbflaaGreatDoor
namespace Go.Proofs.YtigmkgampfbflaaGreatDoor
open Go Go.AE Go.DE Go.RowKit
set_option maxRecDepth 100000 in
theorem awake_run:dAw.run Tryz.prog stA extA 2000 60=true:=by kernel_rfl
end Go.Proofs.YtigmkgampfbflaaGreatDoor
namespace Go.Proofs.YtigmkgampfbflaaGreatDoor
open Go Go.AE Go.DE Go.RowKit
theorem follows:Tryz.prog.follows .mixedOrders=true:=by kernel_rfl
theorem cellsV_succ {k:Nat}{l:List Value}{ss:List (List UInt8)}(h:cellsV (k+1) l=some ss) :
  ∃ s w x y z r l',l=.string ⟨⟨s⟩⟩ :: .int .i64 w :: .int .i64 x :: .int .i64 y :: .int .i64 z :: r/\s.length<=1000/\ss=s :: l'/\cellsV k r=some l':=by
 unfold cellsV at h;split at h
 ·exfalso; omega
 ·rename_i k' s w x y z r he
  obtain rfl:k'=k:=by omega
  split at h<;>first | (cases h; done) | skip
  rename_i hs
  split at h<;>first | (cases h; done) | skip
  rename_i l' hl;obtain rfl:=Option.some.inj h;exact ⟨s,w,x,y,z,r,l',rfl,hs,rfl,hl⟩
 ·cases h
theorem cellsV_zero {l:List Value}{ss:List (List UInt8)}(h:cellsV 0 l=some ss):l=[]/\ss=[]:=by
 unfold cellsV at h;split at h
 ·exact ⟨rfl,(Option.some.inj h).symm⟩
 ·exfalso; omega
 ·cases h
def nthB (ss:List (List UInt8)) (k:Nat):ByteArray:=⟨⟨ss.getD k []⟩⟩
theorem fnOk_text {W:World}:FnOk Tryz.prog W 24 (fun a σ=>RL.app σ (toL (tnV stN0 (hp σ) a))):=by
 intro args σ v σ' hg
 dsimp only at hg
 unfold tnV at hg
 split at hg<;>first | (cases hg; done) | skip
 rename_i a c
 split at hg<;>first | (cases hg; done) | skip
 rename_i l hl
 split at hg<;>first | (cases hg; done) | skip
 rename_i ss hc;simp only [RL.app,toL,Option.map_some,Option.some.injEq,Prod.mk.injEq,List.foldl_nil] at hg;obtain ⟨rfl,rfl⟩:=hg;show _<=σ.length/\_
 refine ⟨Nat.le_refl _,fun ρ w args' hR _ hargs=>?_⟩
 obtain ⟨x',r',rfl,hx,hr⟩:=hargs.cons_inv;obtain rfl:=hr.nil_inv
 obtain ⟨a',c',rfl,ha⟩:∃ a' c',x'=.slice (some a') 5 c'/\addrOk ρ a a':=by
  cases hx with
  | sliceX _ a' _ _ h1 h2 h3=>exact ⟨a',c,rfl,h3.resolve_left (by omega)⟩
  | sliceU _ a' _ _ cap' sz h0 h1 h2 h3=>exact ⟨a',cap',rfl,(h3.resolve_left (by omega)).1⟩
 rw [loadG_eq] at hl
 obtain ⟨l',hl1,hl2,hl3⟩:=loadN_sound (st:=stN0) (fun b i v h=>nomatch h) hR ha hl
 obtain ⟨s0,w0,x0,y0,z0,r0,t0,rfl,q0,rfl,hc0⟩:=cellsV_succ hc;obtain ⟨s1,w1,x1,y1,z1,r1,t1,rfl,q1,rfl,hc1⟩:=cellsV_succ hc0;obtain ⟨s2,w2,x2,y2,z2,r2,t2,rfl,q2,rfl,hc2⟩:=cellsV_succ hc1;obtain ⟨s3,w3,x3,y3,z3,r3,t3,rfl,q3,rfl,hc3⟩:=cellsV_succ hc2;obtain ⟨s4,w4,x4,y4,z4,r4,t4,rfl,q4,rfl,hc4⟩:=cellsV_succ hc3;obtain ⟨rfl,rfl⟩:=cellsV_zero hc4;obtain rfl:=flat_args rfl hl2
 have ea:a'=⟨a'.block,a'.off,none⟩:=by
  have:=ha.1;cases a'
  simp_all
 have hadd:∀ j,a'.add j=⟨a'.block,a'.off+j,none⟩:=by
  intro j;rw [ea];unfold Addr.add;split
  ·rename_i h0; subst h0; rfl
  ·rfl
 have hcl:∀ (j:Nat) v,([.string ⟨⟨s0⟩⟩,.int .i64 w0,.int .i64 x0,.int .i64 y0,.int .i64 z0,.string ⟨⟨s1⟩⟩,.int .i64 w1,.int .i64 x1,.int .i64 y1,.int .i64 z1,.string ⟨⟨s2⟩⟩,.int .i64 w2,.int .i64 x2,.int .i64 y2,.int .i64 z2,.string ⟨⟨s3⟩⟩,.int .i64 w3,.int .i64 x3,.int .i64 y3,.int .i64 z3,.string ⟨⟨s4⟩⟩,.int .i64 w4,.int .i64 x4,.int .i64 y4,.int .i64 z4]:List Value)[j]?=some v->w.cell? ⟨a'.block,a'.off+j,none⟩=some v:=fun j v h=>by
  rw [<- hadd];exact hl3 j v h
 rw [ea]
 have h:=text_calls a'.block a'.off c' (nthB [s0,s1,s2,s3,s4]) w0 x0 y0 z0 w1 x1 y1 z1 w2 x2 y2 z2 w3 x3 y3 z3 w4 x4 y4 z4 w (fun k hk=>by
   have:k=0\/k=1\/k=2\/k=3\/k=4:=by omega
   rcases this with rfl | rfl | rfl | rfl | rfl
   ·exact q0
   ·exact q1
   ·exact q2
   ·exact q3
   ·exact q4) (hcl 0 _ rfl) (hcl 1 _ rfl) (hcl 2 _ rfl) (hcl 3 _ rfl) (hcl 4 _ rfl) (hcl 5 _ rfl) (hcl 6 _ rfl) (hcl 7 _ rfl) (hcl 8 _ rfl) (hcl 9 _ rfl) (hcl 10 _ rfl) (hcl 11 _ rfl) (hcl 12 _ rfl) (hcl 13 _ rfl) (hcl 14 _ rfl)
   (hcl 15 _ rfl) (hcl 16 _ rfl) (hcl 17 _ rfl) (hcl 18 _ rfl) (hcl 19 _ rfl) (hcl 20 _ rfl) (hcl 21 _ rfl) (hcl 22 _ rfl) (hcl 23 _ rfl) (hcl 24 _ rfl)
 have e:upTo (nthB [s0,s1,s2,s3,s4]) 5=joinU [s0,s1,s2,s3,s4]:=by simp [upTo,nthB,joinU]
 rw [e] at h
 exact h.mono fun e w' ⟨he,hb⟩=>⟨_,he,ρ,.of_below hR hb,.string _⟩
def ext0:ExtG:=fun _ _ _ _=>none
def stE0:AE.Stat:=⟨fun _ _=>none,extOf ext0⟩
theorem ext0_ok {W:World}:CallOk Tryz.prog W stE0.ext:=fun f args σ v σ' h=>by simp [stE0,extOf,ext0,RG.app] at h
theorem okN_inv {n:Nat}(h:okN n=true):n=32\/n=88\/n=97\/n=98\/n=99\/n=100\/n=101\/n=102\/n=103:=by
 simp only [okN,Bool.or_eq_true,Bool.and_eq_true,Nat.beq_eq,Nat.ble_eq] at h;omega
theorem cw_run {n:Nat}(h:okN n=true):answerF Tryz.prog stE0 ext0 60 8 110 [.int .i32 (.ofNat n)] (.int .i64 1)=true:=by
 rcases okN_inv h with rfl | rfl | rfl | rfl | rfl | rfl | rfl | rfl | rfl<;>kernel_rfl
theorem fnOk_cw {W:World}:FnOk Tryz.prog W 110 (flatFn cwV):=by
 refine fnOk_of ((runF_sound (n:=60) (st:=stE0) (fun b i v h=>nomatch h) ext0_ok follows 8).fn 110 (by rw [Tryz.func110]; rfl)) fun args v hg=>?_
 unfold cwV at hg
 split at hg<;>first | (cases hg; done) | skip
 rename_i n
 cases hn:okN n with
 | false=>rw [hn] at hg; cases hg
 | true =>
  rw [hn] at hg;obtain rfl:=Option.some.inj hg;exact ⟨rfl,rfl,answerF_run rfl (cw_run hn)⟩
theorem keep_fn {W:World}{f:FuncId}{g:List Value->Option Value}(h:FnOk Tryz.prog W f (flatFn g)):FnOk Tryz.prog W f (fun a σ=>RG.app σ (keepX g a)):=fun args σ v σ' hx=>by
 refine h args σ v σ' ?_;obtain ⟨h1,rfl⟩:=keepX_app (g:=g) hx;simp [flatFn,h1]
theorem toL_app {σ:Heap}:∀ {r:RG},(∀ x,r≠none->r=some x->x.2=.keep)->RL.app σ (toL r)=RG.app σ r
 | none,_=>rfl
 | some (v,e),h=>by
  have:=h (v,e) (by simp) rfl
  simp only at this;subst this;rfl
theorem keepX_keep {g:List Value->Option Value}{args:List Value}:∀ x,keepX g args≠none->keepX g args=some x->x.2=.keep:=by
 intro x _ h;unfold keepX at h;simp only [Option.map_eq_some_iff] at h;obtain ⟨_,_,rfl⟩:=h;rfl
theorem keep_fnL {W:World}{f:FuncId}{g:List Value->Option Value}(h:FnOk Tryz.prog W f (flatFn g)):FnOk Tryz.prog W f (fun a σ=>RL.app σ (toL (keepX g a))):=fun args σ v σ' hx=>by
 dsimp only at hx
 rw [toL_app keepX_keep] at hx;exact keep_fn h args σ v σ' hx
def ext1:ExtG:=fun f args _ _=>match f with
 | 110=>keepX cwV args
 | _=>none
def stE1:AE.Stat:=⟨fun _ _=>none,extOf ext1⟩
theorem ext1_ok {W:World}:CallOk Tryz.prog W stE1.ext:=by
 intro f
 by_cases h1:f=110
 ·subst h1;exact keep_fn fnOk_cw
 ·intro args σ v σ' hx
  exfalso
  have:ext1 f args (hp σ) σ.length=none:=by
   unfold ext1
   split<;>first | contradiction | rfl
  simp [stE1,extOf,RG.app,this] at hx
theorem oneS_inv {s:ByteArray}(h:oneS s=true):s=⟨#[32]⟩\/s=⟨#[88]⟩\/s=⟨#[97]⟩\/s=⟨#[98]⟩\/s=⟨#[99]⟩\/s=⟨#[100]⟩\/s=⟨#[101]⟩\/s=⟨#[102]⟩\/s=⟨#[103]⟩:=by
 unfold oneS at h
 split at h<;>first | (cases h; done) | skip
 rename_i c
 have key:∀ n:UInt8,c.toNat=n.toNat->(⟨⟨[c]⟩⟩:ByteArray)=⟨#[n]⟩:=fun n e=>by
  obtain rfl:=UInt8.toNat_inj.1 e;rfl
 rcases okN_inv h with h | h | h | h | h | h | h | h | h
 ·exact .inl (key 32 h)
 ·exact .inr (.inl (key 88 h))
 ·exact .inr (.inr (.inl (key 97 h)))
 ·exact .inr (.inr (.inr (.inl (key 98 h))))
 ·exact .inr (.inr (.inr (.inr (.inl (key 99 h)))))
 ·exact .inr (.inr (.inr (.inr (.inr (.inl (key 100 h))))))
 ·exact .inr (.inr (.inr (.inr (.inr (.inr (.inl (key 101 h)))))))
 ·exact .inr (.inr (.inr (.inr (.inr (.inr (.inr (.inl (key 102 h))))))))
 ·exact .inr (.inr (.inr (.inr (.inr (.inr (.inr (.inr (key 103 h))))))))
theorem cc_run {s:ByteArray}(h:oneS s=true):answerF Tryz.prog stE1 ext1 60 8 72 [.string s] (.int .i64 0)=true:=by
 rcases oneS_inv h with rfl | rfl | rfl | rfl | rfl | rfl | rfl | rfl | rfl<;>kernel_rfl
theorem cd_run {s:ByteArray}(h:oneS s=true):answerF Tryz.prog stE1 ext1 60 8 73 [.string s] (.int .i64 1)=true:=by
 rcases oneS_inv h with rfl | rfl | rfl | rfl | rfl | rfl | rfl | rfl | rfl<;>kernel_rfl
theorem uv_run:answerF Tryz.prog stE1 ext1 60 8 30 [.string ⟨⟨[]⟩⟩] (.bool true)=true:=by kernel_rfl
theorem fnOk_cc {W:World}:FnOk Tryz.prog W 72 (flatFn ccV):=by
 refine fnOk_of ((runF_sound (n:=60) (st:=stE1) (fun b i v h=>nomatch h) ext1_ok follows 8).fn 72 (by rw [Tryz.func72]; rfl)) fun args v hg=>?_
 unfold ccV at hg
 split at hg<;>first | (cases hg; done) | skip
 rename_i s
 cases ho:oneS s with
 | false=>rw [ho] at hg; cases hg
 | true =>
  rw [ho] at hg;obtain rfl:=Option.some.inj hg;exact ⟨rfl,rfl,answerF_run rfl (cc_run ho)⟩
theorem fnOk_cd {W:World}:FnOk Tryz.prog W 73 (flatFn cdV):=by
 refine fnOk_of ((runF_sound (n:=60) (st:=stE1) (fun b i v h=>nomatch h) ext1_ok follows 8).fn 73 (by rw [Tryz.func73]; rfl)) fun args v hg=>?_
 unfold cdV at hg
 split at hg<;>first | (cases hg; done) | skip
 rename_i s
 cases ho:oneS s with
 | false=>rw [ho] at hg; cases hg
 | true =>
  rw [ho] at hg;obtain rfl:=Option.some.inj hg;exact ⟨rfl,rfl,answerF_run rfl (cd_run ho)⟩
theorem fnOk_uv {W:World}:FnOk Tryz.prog W 30 (flatFn uvV):=by
 refine fnOk_of ((runF_sound (n:=60) (st:=stE1) (fun b i v h=>nomatch h) ext1_ok follows 8).fn 30 (by rw [Tryz.func30]; rfl)) fun args v hg=>?_
 unfold uvV at hg
 split at hg<;>first | (cases hg; done) | skip
 obtain rfl:=Option.some.inj hg;exact ⟨rfl,rfl,answerF_run rfl uv_run⟩
theorem extA_ok {W:World}:CallOk Tryz.prog W stA.ext:=by
 intro f
 by_cases h1:f=110
 ·subst h1; exact keep_fnL fnOk_cw
 by_cases h2:f=72
 ·subst h2; exact keep_fnL fnOk_cc
 by_cases h3:f=73
 ·subst h3; exact keep_fnL fnOk_cd
 by_cases h4:f=30
 ·subst h4; exact keep_fnL fnOk_uv
 by_cases h5:f=24
 ·subst h5; exact fnOk_text
 by_cases h6:f=145
 ·subst h6; exact eff_ok W
 ·intro args σ v σ' hx
  exfalso
  have:extA f args (hp σ) σ.length=none:=by
   unfold extA
   split<;>first | contradiction | rfl
  simp [stA,extOfL,RL.app,this] at hx
def awV:List Value->Option Value
 | []=>some (.bool true)
 | _=>none
theorem awake_ok {W:World}(hst:GoodSt W stA):FnOk Tryz.prog W 13 (flatFn awV):=by
 refine fnOk_of (Deep.ok (D:=dAw) (st:=stA) (x:=extA) awake_run rfl hst extA_ok follows (by show (Tryz.prog.funcs[13]?).isSome=true; rw [Tryz.func13]; rfl)) fun args v hg=>?_
 unfold awV at hg
 split at hg<;>first | (cases hg; done) | skip
 obtain rfl:=Option.some.inj hg
 exact ⟨rfl,rfl,[],by kernel_rfl⟩
end Go.Proofs.YtigmkgampfbflaaGreatDoor
namespace Go.Proofs.YtigmkgampfbflaaGreatDoor
open Go Go.AE Go.DE Go.RowKit
end Go.Proofs.YtigmkgampfbflaaGreatDoor
namespace Go.Proofs.YtigmkgampfbflaaGreatDoor
open Go Go.AE Go.DE Go.RowKit
def pnB (v:Int):List Int:=if 32<=v/\v<127 then [v] else []
def pnR (s:ByteArray):Nat->Nat->List Int->List Int
 | 0,_,b=>b
 | m+1,i,b=>pnR s m (i+1) (b++pnB (byteAt s i))
structure PRX where
 s:ByteArray
 i:Nat
 b:List Int
def PRX.r (x:PRX):List Int:=pnR x.s (x.s.size-x.i) x.i x.b
end Go.Proofs.YtigmkgampfbflaaGreatDoor
namespace Go.Proofs
open Go.Shelf
def Tryz.lays105_ren:Go.Shelf.Ren:=⟨fun | 105=>25 | 212=>63 | 99=>64 | 165=>65 | 166=>61 | 170=>66 | 169=>62 | 263=>104 | 264=>105 | 206=>106 | 240=>103 | 241=>107 | 276=>161 | 277=>162 | n=>n,fun | 9=>9 | 3=>3 | 4=>4 | 20=>20 | 0=>0 | 46=>109 | 109=>110 | 5=>5 | 72=>101 | 76=>106 | 51=>150 | 146=>151 | 53=>153 | 148=>154 | 70=>99 | 37=>82 | 75=>105 | 127=>149 | 164=>197 | 80=>108 | n=>n,fun | n=>n⟩
theorem Tryz.lays105:Go.Proofs.Lays.n105 Tryz.prog Tryz.lays105_ren:={
 mixed:=by kernel_rfl
 f99:=Tryz.func64.trans (congrArg some (by kernel_rfl))
 f105:=Tryz.func25.trans (congrArg some (by kernel_rfl))
 f165:=Tryz.func65.trans (congrArg some (by kernel_rfl))
 f166:=Tryz.func61.trans (congrArg some (by kernel_rfl))
 f169:=Tryz.func62.trans (congrArg some (by kernel_rfl))
 f170:=Tryz.func66.trans (congrArg some (by kernel_rfl))
 f206:=Tryz.func106.trans (congrArg some (by kernel_rfl))
 f212:=Tryz.func63.trans (congrArg some (by kernel_rfl))
 f240:=Tryz.func103.trans (congrArg some (by kernel_rfl))
 f241:=Tryz.func107.trans (congrArg some (by kernel_rfl))
 f263:=Tryz.func104.trans (congrArg some (by kernel_rfl))
 f264:=Tryz.func105.trans (congrArg some (by kernel_rfl))
 f276:=Tryz.func161.trans (congrArg some (by kernel_rfl))
 f277:=Tryz.func162.trans (congrArg some (by kernel_rfl))
 t0:=Tryz.underlying0
 a0:=Tryz.isAgg0
 z0:=Tryz.sizeOf0
 v0:=Tryz.zeroValue0
 t3:=Tryz.underlying3
 a3:=Tryz.isAgg3
 z3:=Tryz.sizeOf3
 v3:=Tryz.zeroValue3
 t4:=Tryz.underlying4
 a4:=Tryz.isAgg4
 z4:=Tryz.sizeOf4
 v4:=Tryz.zeroValue4
 t5:=Tryz.underlying5
 a5:=Tryz.isAgg5
 z5:=Tryz.sizeOf5
 v5:=Tryz.zeroValue5
 t9:=Tryz.underlying9
 a9:=Tryz.isAgg9
 z9:=Tryz.sizeOf9
 v9:=Tryz.zeroValue9
 t20:=Tryz.underlying20
 a20:=Tryz.isAgg20
 z20:=Tryz.sizeOf20
 v20:=Tryz.zeroValue20
 t37:=Tryz.underlying82
 a37:=Tryz.isAgg82
 z37:=Tryz.sizeOf82
 v37:=Tryz.zeroValue82
 t46:=Tryz.underlying109
 a46:=Tryz.isAgg109
 z46:=Tryz.sizeOf109
 v46:=Tryz.zeroValue109
 t51:=Tryz.underlying150
 a51:=Tryz.isAgg150
 z51:=Tryz.sizeOf150
 v51:=Tryz.zeroValue150
 t53:=Tryz.underlying153
 a53:=Tryz.isAgg153
 z53:=Tryz.sizeOf153
 v53:=Tryz.zeroValue153
 t70:=Tryz.underlying99
 a70:=Tryz.isAgg99
 z70:=Tryz.sizeOf99
 v70:=Tryz.zeroValue99
 t72:=Tryz.underlying101
 a72:=Tryz.isAgg101
 z72:=Tryz.sizeOf101
 v72:=Tryz.zeroValue101
 t75:=Tryz.underlying105
 a75:=Tryz.isAgg105
 z75:=Tryz.sizeOf105
 v75:=Tryz.zeroValue105
 t76:=Tryz.underlying106
 a76:=Tryz.isAgg106
 z76:=Tryz.sizeOf106
 v76:=Tryz.zeroValue106
 t109:=Tryz.underlying110
 a109:=Tryz.isAgg110
 z109:=Tryz.sizeOf110
 v109:=Tryz.zeroValue110
 t127:=Tryz.underlying149
 a127:=Tryz.isAgg149
 z127:=Tryz.sizeOf149
 v127:=Tryz.zeroValue149
 t146:=Tryz.underlying151
 a146:=Tryz.isAgg151
 z146:=Tryz.sizeOf151
 v146:=Tryz.zeroValue151
 t148:=Tryz.underlying154
 a148:=Tryz.isAgg154
 z148:=Tryz.sizeOf154
 v148:=Tryz.zeroValue154
 t164:=Tryz.underlying197
 a164:=Tryz.isAgg197
 z164:=Tryz.sizeOf197
 v164:=Tryz.zeroValue197 }
theorem Tryz.Builder_Extra_105:Builder.Extra Tryz.prog Tryz.lays105_ren:={
 sizeBuilder:=by kernel_rfl
 liesBuilder:=by kernel_rfl
 t5:=Tryz.underlying5
 a5:=Tryz.isAgg5
 z5:=Tryz.sizeOf5
 v5:=Tryz.zeroValue5
 infoByte:=by kernel_rfl
 cellsByte:=by kernel_rfl
 sizeByte:=by kernel_rfl
 neB5:=by decide }
open Go.RowKit Go.Lib in
theorem Tryz.strings_Repeat (s:ByteArray) (c:Nat) (w:World) (hc:c<=9223372036854775807) (hlen:s.size*c<=140737488355328) :
  Calls Tryz.prog 25 #[.string s,.int .i64 c] w fun e w'=>e=.returned (.string ⟨(Lib.repeatL s.data.toList c).toArray⟩)/\Below w.heap.size w w':=Any.strings_Repeat Tryz.lays105 Tryz.Builder_Extra_105 s c w hc hlen
end Go.Proofs
namespace Go.Proofs.YtigmkgampfbflaaGreatDoor
open Go Go.AE Go.DE Go.RowKit
noncomputable def aw0C:ConF:=fun args k=>match args with
 | []=>k (fun _=>(bv true,[]))
 | _=>none
noncomputable def nwC (Q:Int->Int->Prop) (Y:Int->Int->WS):ConF:=fun args k=>match args with
 | [.v (.int .i64 w),.v (.int .i64 h)]=>bif holds (Q w h) then k (fun _=>(.tup [.agg (Y w h).cells,iv 0],[])) else none
 | _=>none
noncomputable def rpC (Q:ByteArray->Int->Prop) (F:ByteArray->Int->ByteArray):ConF:=fun args k=>match args with
 | [.v (.string s),.v (.int .i64 c)]=>bif holds (Q s c) then k (fun _=>(sv (F s c),[])) else none
 | _=>none
structure JX where
 R:Nat->Row
 n:Nat
 i:Nat
 a:ByteArray
 tx:ByteArray
 w:Int
 h:Int
end Go.Proofs.YtigmkgampfbflaaGreatDoor
namespace Go.Proofs.YtigmkgampfbflaaGreatDoor
open Go Go.AE Go.DE Go.RowKit
end Go.Proofs.YtigmkgampfbflaaGreatDoor
namespace Go.Proofs.YtigmkgampfbflaaGreatDoor
open Go Go.AE Go.DE Go.RowKit
def rpV:List Value->Option Value
 | [.string s,.int .i64 c]=>if 0<=c/\c<=1000/\s.size<=1000 then some (.string ⟨(Lib.repeatL s.data.toList c.toNat).toArray⟩) else none
 | _=>none
def rpF (s:ByteArray) (c:Int):ByteArray:=⟨(Lib.repeatL s.data.toList c.toNat).toArray⟩
def rpQ (s:ByteArray) (c:Int):Prop:=0<=c/\c<=1000/\s.size<=1000
theorem rpC_ok {st:AE.Stat}(hr:∀ a σ,st.ext 25 a σ=RL.app σ (toL (keepX rpV a))):ConOk Tryz.prog st 25 (rpC rpQ rpF):=by
 refine con_ext Tryz.func25 (by kernel_rfl) (by kernel_rfl) fun args k hk=>?_
 unfold rpC at hk
 split at hk<;>first | (cases hk; done) | skip
 rename_i s c;obtain ⟨hb,hk0⟩:=bif_none hk;have hq:0<=c/\c<=1000/\s.size<=1000:=holds_eq.1 hb
 refine ⟨.string (rpF s c),rfl,hk0,fun C σ vs _ ha=>?_⟩
 obtain ⟨v,ys,rfl,hv,hn⟩:=ha.cons_inv;obtain ⟨u,zs,rfl,hu,hn⟩:=hn.cons_inv;obtain rfl:=hn.nil_inv
 have dv:∀ {x y:Value},DR C noMu (.v x) y->y=x:=fun h=>by
  cases h;rfl
 obtain rfl:=dv hv;obtain rfl:=dv hu;have e:rpV [.string s,.int .i64 c]=some (.string (rpF s c)):=if_pos hq;rw [hr];unfold keepX;rw [e];rfl
theorem aw0C_ok {st:AE.Stat}(ha:∀ C σ vs,St st C noMu σ []->DRL C noMu [] vs->st.ext 13 vs σ=some (.bool true,σ)):ConOk Tryz.prog st 13 aw0C:=by
 refine con_ext Tryz.func13 (by kernel_rfl) (by kernel_rfl) fun args k hk=>?_
 unfold aw0C at hk
 split at hk<;>first | (cases hk; done) | skip
 exact ⟨.bool true,rfl,hk,ha⟩
end Go.Proofs.YtigmkgampfbflaaGreatDoor
namespace Go.Proofs.YtigmkgampfbflaaGreatDoor
open Go Go.AE Go.DE Go.RowKit
noncomputable def tiC (x:Tm) (c:Int):ConF:=fun args k=>match args with
 | [.agg l]=>bif holds (l=x.cells) then k (fun _=>(iv c,[])) else none
 | _=>none
noncomputable def idzC (Q:Int->ByteArray->ByteArray->Prop) (b:Bool):ConF:=fun args k=>match args with
 | [.agg [.v (.int .i64 v),.v (.string p),.v (.string s)]]=>bif holds (Q v p s) then k (fun _=>(bv b,[])) else none
 | _=>none
noncomputable def rpH (x y x2 y2:Tm):HcF:=fun args σ k=>match args,σ with
 | [.agg l],[_]=>bif holds (l=x.cells) then k (.tup [.agg y.cells,sv (x.S 41)]) σ else none
 | [.agg l],_=>bif holds (l=x2.cells) then k (.tup [.agg y2.cells,sv (x2.S 41)]) σ else none
 | _,_=>none
noncomputable def wsC (Q:List DV->ByteArray->Prop) (F:ByteArray->Tm):ConF:=fun args k=>match args with
 | [.agg l,.v (.string s)]=>bif holds (Q l s) then k (fun _=>(.agg (F s).cells,[])) else none
 | _=>none
theorem ra_tree (x:Tm) (a:Int) (k:DV->Option Unit):bodyD Tryz.prog (envG Tryz.prog gl0 [] [] [(10,tmC x true),(13,aw0C)] noLp 0) Tryz.f9 [.agg x.cells,kv .u8 a] [] (fun d _=>k d) =
  bif holds (x.cells=x.cells) then k (bv true) else none:=by
 kernel_rfl
theorem rb_tree9 (x:Tm) (a:Int) (k:DV->Option Unit):bodyD Tryz.prog (envG Tryz.prog gl0 [] [] [(10,tmC x false),(11,tiC x 1),(13,aw0C)] noLp 0) Tryz.f9 [.agg x.cells,kv .u8 a] [] (fun d _=>k d) =
  bif holds (x.cells=x.cells) then bif holds (x.cells=x.cells) then k (bv true) else none else none:=by
 kernel_rfl
theorem rid_tree (x:Tm) (a:Int) (Q:Int->ByteArray->ByteArray->Prop) (k:DV->Option Unit):bodyD Tryz.prog (envG Tryz.prog gl0 [] [] [(10,tmC x false),(11,tiC x 0),(12,idzC Q false),(13,aw0C)] noLp 0) Tryz.f9 [.agg x.cells,kv .u8 a] [] (fun d _=>k d) =
  bif holds (x.cells=x.cells) then bif holds (x.cells=x.cells) then bif holds (Q (x.I 37) (x.S 38) (x.S 39)) then k (bv true) else none else none else none:=by
 kernel_rfl
theorem rl_tree (x y x2 y2:Tm) (a:Int) (Q:Int->ByteArray->ByteArray->Prop) (Q1:List DV->ByteArray->Prop) (F:ByteArray->Tm) (Q4:ByteArray->Int->Prop) (R:ByteArray->Int->ByteArray) (k:DV->Option Unit):bodyD Tryz.prog (envG Tryz.prog gl0 [(22,rpH x y x2 y2)] [] [(10,tmC x false),(11,tiC x 0),(12,idzC Q true),(13,aw0C),(14,wsC Q1 F),(25,rpC Q4 R)] noLp 0) Tryz.f9 [.agg x.cells,kv .u8 a] [] (fun d _=>k d) =
  bif holds (x.cells=x.cells) then bif holds (x.cells=x.cells) then bif holds (Q (x.I 37) (x.S 38) (x.S 39)) then bif holds (x.cells=x.cells) then bif decide (0<y.gn) then bif decide (0<y.gn)
  then bif holds (Q1 y.cells { data:=#[(27:UInt8),(91:UInt8),(63:UInt8),(54:UInt8),(108:UInt8),(27:UInt8),(91:UInt8),(50:UInt8),(59:UInt8),(51:UInt8),(72:UInt8)] })
  then bif holds (Q4 { data:=#[(27:UInt8),(91:UInt8),(54:UInt8),(110:UInt8)] } (Int.tmod (IntKind.wrap .i64 a) 10)) then bif holds (Q1 (Tm.cells (F { data:=#[(27:UInt8),(91:UInt8),(63:UInt8),(54:UInt8),(108:UInt8),(27:UInt8),(91:UInt8),(50:UInt8),(59:UInt8),(51:UInt8),(72:UInt8)] })) (R { data:=#[(27:UInt8),(91:UInt8),(54:UInt8),(110:UInt8)] } (Int.tmod (IntKind.wrap .i64 a) 10)))
  then bif decide (0<=IntKind.wrap .i64 (Int.tmod (Tm.I (F (R { data:=#[(27:UInt8),(91:UInt8),(54:UInt8),(110:UInt8)] } (Int.tmod (IntKind.wrap .i64 a) 10))) 6) 9+2)) then bif decide (IntKind.wrap .i64 (Int.tmod (Tm.I (F (R { data:=#[(27:UInt8),(91:UInt8),(54:UInt8),(110:UInt8)] } (Int.tmod (IntKind.wrap .i64 a) 10))) 6) 9+2)<=10)
  then bif decide (0<=IntKind.wrap .i64 (Int.tmod (Tm.I (F (R { data:=#[(27:UInt8),(91:UInt8),(54:UInt8),(110:UInt8)] } (Int.tmod (IntKind.wrap .i64 a) 10))) 6) 9+1)) then bif decide (IntKind.wrap .i64 (Int.tmod (Tm.I (F (R { data:=#[(27:UInt8),(91:UInt8),(54:UInt8),(110:UInt8)] } (Int.tmod (IntKind.wrap .i64 a) 10))) 6) 9+1)<=(↑(Int.toNat (IntKind.wrap .i64 (Int.tmod (Tm.I (F (R { data:=#[(27:UInt8),(91:UInt8),(54:UInt8),(110:UInt8)] } (Int.tmod (IntKind.wrap .i64 a) 10))) 6) 9+2))):Int))
  then bif decide (2+ByteArray.size (ByteArray.extract { data:=#[(48:UInt8),(49:UInt8),(50:UInt8),(51:UInt8),(52:UInt8),(53:UInt8),(54:UInt8),(55:UInt8),(56:UInt8),(57:UInt8)] } (Int.toNat (IntKind.wrap .i64 (Int.tmod (Tm.I (F (R { data:=#[(27:UInt8),(91:UInt8),(54:UInt8),(110:UInt8)] } (Int.tmod (IntKind.wrap .i64 a) 10))) 6) 9+1))) (Int.toNat (IntKind.wrap .i64 (Int.tmod (Tm.I (F (R { data:=#[(27:UInt8),(91:UInt8),(54:UInt8),(110:UInt8)] } (Int.tmod (IntKind.wrap .i64 a) 10))) 6) 9+2))))<=9223372036854775807)
  then bif decide (ByteArray.size ({ data:=#[(27:UInt8),(91:UInt8)] }++ByteArray.extract { data:=#[(48:UInt8),(49:UInt8),(50:UInt8),(51:UInt8),(52:UInt8),(53:UInt8),(54:UInt8),(55:UInt8),(56:UInt8),(57:UInt8)] } (Int.toNat (IntKind.wrap .i64 (Int.tmod (Tm.I (F (R { data:=#[(27:UInt8),(91:UInt8),(54:UInt8),(110:UInt8)] } (Int.tmod (IntKind.wrap .i64 a) 10))) 6) 9+1))) (Int.toNat (IntKind.wrap .i64 (Int.tmod (Tm.I (F (R { data:=#[(27:UInt8),(91:UInt8),(54:UInt8),(110:UInt8)] } (Int.tmod (IntKind.wrap .i64 a) 10))) 6) 9+2))))+(1:Nat)<=9223372036854775807)
  then bif decide (0<=IntKind.wrap .i64 (Int.tmod (Tm.I (F (R { data:=#[(27:UInt8),(91:UInt8),(54:UInt8),(110:UInt8)] } (Int.tmod (IntKind.wrap .i64 a) 10))) 7) 9+2)) then bif decide (IntKind.wrap .i64 (Int.tmod (Tm.I (F (R { data:=#[(27:UInt8),(91:UInt8),(54:UInt8),(110:UInt8)] } (Int.tmod (IntKind.wrap .i64 a) 10))) 7) 9+2)<=10)
  then bif decide (0<=IntKind.wrap .i64 (Int.tmod (Tm.I (F (R { data:=#[(27:UInt8),(91:UInt8),(54:UInt8),(110:UInt8)] } (Int.tmod (IntKind.wrap .i64 a) 10))) 7) 9+1)) then bif decide (IntKind.wrap .i64 (Int.tmod (Tm.I (F (R { data:=#[(27:UInt8),(91:UInt8),(54:UInt8),(110:UInt8)] } (Int.tmod (IntKind.wrap .i64 a) 10))) 7) 9+1)<=(↑(Int.toNat (IntKind.wrap .i64 (Int.tmod (Tm.I (F (R { data:=#[(27:UInt8),(91:UInt8),(54:UInt8),(110:UInt8)] } (Int.tmod (IntKind.wrap .i64 a) 10))) 7) 9+2))):Int))
  then bif decide (ByteArray.size ({ data:=#[(27:UInt8),(91:UInt8)] }++ByteArray.extract { data:=#[(48:UInt8),(49:UInt8),(50:UInt8),(51:UInt8),(52:UInt8),(53:UInt8),(54:UInt8),(55:UInt8),(56:UInt8),(57:UInt8)] } (Int.toNat (IntKind.wrap .i64 (Int.tmod (Tm.I (F (R { data:=#[(27:UInt8),(91:UInt8),(54:UInt8),(110:UInt8)] } (Int.tmod (IntKind.wrap .i64 a) 10))) 6) 9+1))) (Int.toNat (IntKind.wrap .i64 (Int.tmod (Tm.I (F (R { data:=#[(27:UInt8),(91:UInt8),(54:UInt8),(110:UInt8)] } (Int.tmod (IntKind.wrap .i64 a) 10))) 6) 9+2)))++{ data:=#[(59:UInt8)] })+ByteArray.size (ByteArray.extract { data:=#[(48:UInt8),(49:UInt8),(50:UInt8),(51:UInt8),(52:UInt8),(53:UInt8),(54:UInt8),(55:UInt8),(56:UInt8),(57:UInt8)] } (Int.toNat (IntKind.wrap .i64 (Int.tmod (Tm.I (F (R { data:=#[(27:UInt8),(91:UInt8),(54:UInt8),(110:UInt8)] } (Int.tmod (IntKind.wrap .i64 a) 10))) 7) 9+1))) (Int.toNat (IntKind.wrap .i64 (Int.tmod (Tm.I (F (R { data:=#[(27:UInt8),(91:UInt8),(54:UInt8),(110:UInt8)] } (Int.tmod (IntKind.wrap .i64 a) 10))) 7) 9+2))))<=9223372036854775807)
  then bif decide (ByteArray.size ({ data:=#[(27:UInt8),(91:UInt8)] }++ByteArray.extract { data:=#[(48:UInt8),(49:UInt8),(50:UInt8),(51:UInt8),(52:UInt8),(53:UInt8),(54:UInt8),(55:UInt8),(56:UInt8),(57:UInt8)] } (Int.toNat (IntKind.wrap .i64 (Int.tmod (Tm.I (F (R { data:=#[(27:UInt8),(91:UInt8),(54:UInt8),(110:UInt8)] } (Int.tmod (IntKind.wrap .i64 a) 10))) 6) 9+1))) (Int.toNat (IntKind.wrap .i64 (Int.tmod (Tm.I (F (R { data:=#[(27:UInt8),(91:UInt8),(54:UInt8),(110:UInt8)] } (Int.tmod (IntKind.wrap .i64 a) 10))) 6) 9+2)))++{ data:=#[(59:UInt8)] }++ByteArray.extract { data:=#[(48:UInt8),(49:UInt8),(50:UInt8),(51:UInt8),(52:UInt8),(53:UInt8),(54:UInt8),(55:UInt8),(56:UInt8),(57:UInt8)] } (Int.toNat (IntKind.wrap .i64 (Int.tmod (Tm.I (F (R { data:=#[(27:UInt8),(91:UInt8),(54:UInt8),(110:UInt8)] } (Int.tmod (IntKind.wrap .i64 a) 10))) 7) 9+1))) (Int.toNat (IntKind.wrap .i64 (Int.tmod (Tm.I (F (R { data:=#[(27:UInt8),(91:UInt8),(54:UInt8),(110:UInt8)] } (Int.tmod (IntKind.wrap .i64 a) 10))) 7) 9+2))))+(1:Nat)<=9223372036854775807)
  then bif holds ([iv (Tm.I (F (R { data:=#[(27:UInt8),(91:UInt8),(54:UInt8),(110:UInt8)] } (Int.tmod (IntKind.wrap .i64 a) 10))) 0),iv (Tm.I (F (R { data:=#[(27:UInt8),(91:UInt8),(54:UInt8),(110:UInt8)] } (Int.tmod (IntKind.wrap .i64 a) 10))) 1),.sl false (rowsD (Tm.gT (F (R { data:=#[(27:UInt8),(91:UInt8),(54:UInt8),(110:UInt8)] } (Int.tmod (IntKind.wrap .i64 a) 10)))) (Tm.gR (F (R { data:=#[(27:UInt8),(91:UInt8),(54:UInt8),(110:UInt8)] } (Int.tmod (IntKind.wrap .i64 a) 10))))) 1 (Tm.gn (F (R { data:=#[(27:UInt8),(91:UInt8),(54:UInt8),(110:UInt8)] } (Int.tmod (IntKind.wrap .i64 a) 10)))),iv (Tm.I (F (R { data:=#[(27:UInt8),(91:UInt8),(54:UInt8),(110:UInt8)] } (Int.tmod (IntKind.wrap .i64 a) 10))) 3),iv (Tm.I (F (R { data:=#[(27:UInt8),(91:UInt8),(54:UInt8),(110:UInt8)] } (Int.tmod (IntKind.wrap .i64 a) 10))) 4),.sl false (rowsD (Tm.oT (F (R { data:=#[(27:UInt8),(91:UInt8),(54:UInt8),(110:UInt8)] } (Int.tmod (IntKind.wrap .i64 a) 10)))) (Tm.oR (F (R { data:=#[(27:UInt8),(91:UInt8),(54:UInt8),(110:UInt8)] } (Int.tmod (IntKind.wrap .i64 a) 10))))) 1 (Tm.on (F (R { data:=#[(27:UInt8),(91:UInt8),(54:UInt8),(110:UInt8)] } (Int.tmod (IntKind.wrap .i64 a) 10)))),iv (Tm.I (F (R { data:=#[(27:UInt8),(91:UInt8),(54:UInt8),(110:UInt8)] } (Int.tmod (IntKind.wrap .i64 a) 10))) 6),iv (Tm.I (F (R { data:=#[(27:UInt8),(91:UInt8),(54:UInt8),(110:UInt8)] } (Int.tmod (IntKind.wrap .i64 a) 10))) 7),bv (Tm.B (F (R { data:=#[(27:UInt8),(91:UInt8),(54:UInt8),(110:UInt8)] } (Int.tmod (IntKind.wrap .i64 a) 10))) 8),iv (Tm.I (F (R { data:=#[(27:UInt8),(91:UInt8),(54:UInt8),(110:UInt8)] } (Int.tmod (IntKind.wrap .i64 a) 10))) 9),iv (Tm.I (F (R { data:=#[(27:UInt8),(91:UInt8),(54:UInt8),(110:UInt8)] } (Int.tmod (IntKind.wrap .i64 a) 10))) 10),bv (Tm.B (F (R { data:=#[(27:UInt8),(91:UInt8),(54:UInt8),(110:UInt8)] } (Int.tmod (IntKind.wrap .i64 a) 10))) 11),iv (Tm.I (F (R { data:=#[(27:UInt8),(91:UInt8),(54:UInt8),(110:UInt8)] } (Int.tmod (IntKind.wrap .i64 a) 10))) 12),iv (Tm.I (F (R { data:=#[(27:UInt8),(91:UInt8),(54:UInt8),(110:UInt8)] } (Int.tmod (IntKind.wrap .i64 a) 10))) 13),iv (Tm.I (F (R { data:=#[(27:UInt8),(91:UInt8),(54:UInt8),(110:UInt8)] } (Int.tmod (IntKind.wrap .i64 a) 10))) 14),bv (Tm.B (F (R { data:=#[(27:UInt8),(91:UInt8),(54:UInt8),(110:UInt8)] } (Int.tmod (IntKind.wrap .i64 a) 10))) 15),kv .u8 ((Tm.I (F (R { data:=#[(27:UInt8),(91:UInt8),(54:UInt8),(110:UInt8)] } (Int.tmod (IntKind.wrap .i64 a) 10))) 16)),kv .u8 ((Tm.I (F (R { data:=#[(27:UInt8),(91:UInt8),(54:UInt8),(110:UInt8)] } (Int.tmod (IntKind.wrap .i64 a) 10))) 17)),iv (Tm.I (F (R { data:=#[(27:UInt8),(91:UInt8),(54:UInt8),(110:UInt8)] } (Int.tmod (IntKind.wrap .i64 a) 10))) 18),iv (Tm.I (F (R { data:=#[(27:UInt8),(91:UInt8),(54:UInt8),(110:UInt8)] } (Int.tmod (IntKind.wrap .i64 a) 10))) 19),iv (Tm.I (F (R { data:=#[(27:UInt8),(91:UInt8),(54:UInt8),(110:UInt8)] } (Int.tmod (IntKind.wrap .i64 a) 10))) 20),iv (Tm.I (F (R { data:=#[(27:UInt8),(91:UInt8),(54:UInt8),(110:UInt8)] } (Int.tmod (IntKind.wrap .i64 a) 10))) 21),bv (Tm.B (F (R { data:=#[(27:UInt8),(91:UInt8),(54:UInt8),(110:UInt8)] } (Int.tmod (IntKind.wrap .i64 a) 10))) 22),bv (Tm.B (F (R { data:=#[(27:UInt8),(91:UInt8),(54:UInt8),(110:UInt8)] } (Int.tmod (IntKind.wrap .i64 a) 10))) 23),bv (Tm.B (F (R { data:=#[(27:UInt8),(91:UInt8),(54:UInt8),(110:UInt8)] } (Int.tmod (IntKind.wrap .i64 a) 10))) 24),bv (Tm.B (F (R { data:=#[(27:UInt8),(91:UInt8),(54:UInt8),(110:UInt8)] } (Int.tmod (IntKind.wrap .i64 a) 10))) 25),bv (Tm.B (F (R { data:=#[(27:UInt8),(91:UInt8),(54:UInt8),(110:UInt8)] } (Int.tmod (IntKind.wrap .i64 a) 10))) 26),bv (Tm.B (F (R { data:=#[(27:UInt8),(91:UInt8),(54:UInt8),(110:UInt8)] } (Int.tmod (IntKind.wrap .i64 a) 10))) 27),bv (Tm.B (F (R { data:=#[(27:UInt8),(91:UInt8),(54:UInt8),(110:UInt8)] } (Int.tmod (IntKind.wrap .i64 a) 10))) 28),bv (Tm.B (F (R { data:=#[(27:UInt8),(91:UInt8),(54:UInt8),(110:UInt8)] } (Int.tmod (IntKind.wrap .i64 a) 10))) 29),kv .u8 ((Tm.I (F (R { data:=#[(27:UInt8),(91:UInt8),(54:UInt8),(110:UInt8)] } (Int.tmod (IntKind.wrap .i64 a) 10))) 30)),kv .u8 ((Tm.I (F (R { data:=#[(27:UInt8),(91:UInt8),(54:UInt8),(110:UInt8)] } (Int.tmod (IntKind.wrap .i64 a) 10))) 31)),iv (Tm.I (F (R { data:=#[(27:UInt8),(91:UInt8),(54:UInt8),(110:UInt8)] } (Int.tmod (IntKind.wrap .i64 a) 10))) 32),iv (Tm.I (F (R { data:=#[(27:UInt8),(91:UInt8),(54:UInt8),(110:UInt8)] } (Int.tmod (IntKind.wrap .i64 a) 10))) 33),iv (Tm.I (F (R { data:=#[(27:UInt8),(91:UInt8),(54:UInt8),(110:UInt8)] } (Int.tmod (IntKind.wrap .i64 a) 10))) 34),.sl false (tabsD (Tm.tb (F (R { data:=#[(27:UInt8),(91:UInt8),(54:UInt8),(110:UInt8)] } (Int.tmod (IntKind.wrap .i64 a) 10))))) 1 (Tm.tn (F (R { data:=#[(27:UInt8),(91:UInt8),(54:UInt8),(110:UInt8)] } (Int.tmod (IntKind.wrap .i64 a) 10)))),.sl false (rowsD (Tm.bT (F (R { data:=#[(27:UInt8),(91:UInt8),(54:UInt8),(110:UInt8)] } (Int.tmod (IntKind.wrap .i64 a) 10)))) (Tm.bR (F (R { data:=#[(27:UInt8),(91:UInt8),(54:UInt8),(110:UInt8)] } (Int.tmod (IntKind.wrap .i64 a) 10))))) 1 (Tm.bn (F (R { data:=#[(27:UInt8),(91:UInt8),(54:UInt8),(110:UInt8)] } (Int.tmod (IntKind.wrap .i64 a) 10)))),iv (Tm.I (F (R { data:=#[(27:UInt8),(91:UInt8),(54:UInt8),(110:UInt8)] } (Int.tmod (IntKind.wrap .i64 a) 10))) 37),sv (Tm.S (F (R { data:=#[(27:UInt8),(91:UInt8),(54:UInt8),(110:UInt8)] } (Int.tmod (IntKind.wrap .i64 a) 10))) 38),sv (Tm.S (F (R { data:=#[(27:UInt8),(91:UInt8),(54:UInt8),(110:UInt8)] } (Int.tmod (IntKind.wrap .i64 a) 10))) 39),sv (Tm.S (F (R { data:=#[(27:UInt8),(91:UInt8),(54:UInt8),(110:UInt8)] } (Int.tmod (IntKind.wrap .i64 a) 10))) 40),sv (Tm.S (F (R { data:=#[(27:UInt8),(91:UInt8),(54:UInt8),(110:UInt8)] } (Int.tmod (IntKind.wrap .i64 a) 10))) 41)]=x2.cells)
  then bif decide (0<y2.gn) then bif decide (0<y2.gn) then bif holds (Q4 ({ data:=#[(27:UInt8),(91:UInt8)] }++ByteArray.extract { data:=#[(48:UInt8),(49:UInt8),(50:UInt8),(51:UInt8),(52:UInt8),(53:UInt8),(54:UInt8),(55:UInt8),(56:UInt8),(57:UInt8)] } (Int.toNat (IntKind.wrap .i64 (Int.tmod (Tm.I (F (R { data:=#[(27:UInt8),(91:UInt8),(54:UInt8),(110:UInt8)] } (Int.tmod (IntKind.wrap .i64 a) 10))) 6) 9+1))) (Int.toNat (IntKind.wrap .i64 (Int.tmod (Tm.I (F (R { data:=#[(27:UInt8),(91:UInt8),(54:UInt8),(110:UInt8)] } (Int.tmod (IntKind.wrap .i64 a) 10))) 6) 9+2)))++{ data:=#[(59:UInt8)] }++ByteArray.extract { data:=#[(48:UInt8),(49:UInt8),(50:UInt8),(51:UInt8),(52:UInt8),(53:UInt8),(54:UInt8),(55:UInt8),(56:UInt8),(57:UInt8)] } (Int.toNat (IntKind.wrap .i64 (Int.tmod (Tm.I (F (R { data:=#[(27:UInt8),(91:UInt8),(54:UInt8),(110:UInt8)] } (Int.tmod (IntKind.wrap .i64 a) 10))) 7) 9+1))) (Int.toNat (IntKind.wrap .i64 (Int.tmod (Tm.I (F (R { data:=#[(27:UInt8),(91:UInt8),(54:UInt8),(110:UInt8)] } (Int.tmod (IntKind.wrap .i64 a) 10))) 7) 9+2)))++{ data:=#[(82:UInt8)] }) (Int.tmod (IntKind.wrap .i64 a) 10))
  then bif ByteArray.toList (x2.S 41)==ByteArray.toList (R ({ data:=#[(27:UInt8),(91:UInt8)] }++ByteArray.extract { data:=#[(48:UInt8),(49:UInt8),(50:UInt8),(51:UInt8),(52:UInt8),(53:UInt8),(54:UInt8),(55:UInt8),(56:UInt8),(57:UInt8)] } (Int.toNat (IntKind.wrap .i64 (Int.tmod (Tm.I (F (R { data:=#[(27:UInt8),(91:UInt8),(54:UInt8),(110:UInt8)] } (Int.tmod (IntKind.wrap .i64 a) 10))) 6) 9+1))) (Int.toNat (IntKind.wrap .i64 (Int.tmod (Tm.I (F (R { data:=#[(27:UInt8),(91:UInt8),(54:UInt8),(110:UInt8)] } (Int.tmod (IntKind.wrap .i64 a) 10))) 6) 9+2)))++{ data:=#[(59:UInt8)] }++ByteArray.extract { data:=#[(48:UInt8),(49:UInt8),(50:UInt8),(51:UInt8),(52:UInt8),(53:UInt8),(54:UInt8),(55:UInt8),(56:UInt8),(57:UInt8)] } (Int.toNat (IntKind.wrap .i64 (Int.tmod (Tm.I (F (R { data:=#[(27:UInt8),(91:UInt8),(54:UInt8),(110:UInt8)] } (Int.tmod (IntKind.wrap .i64 a) 10))) 7) 9+1))) (Int.toNat (IntKind.wrap .i64 (Int.tmod (Tm.I (F (R { data:=#[(27:UInt8),(91:UInt8),(54:UInt8),(110:UInt8)] } (Int.tmod (IntKind.wrap .i64 a) 10))) 7) 9+2)))++{ data:=#[(82:UInt8)] }) (Int.tmod (IntKind.wrap .i64 a) 10))
  then bif ByteArray.toList (y2.S 41)==ByteArray.toList { data:=#[] } then bif bif Tm.I (F (R { data:=#[(27:UInt8),(91:UInt8),(54:UInt8),(110:UInt8)] } (Int.tmod (IntKind.wrap .i64 a) 10))) 6==if IntKind.wrap .i64 (y.I 1-1)<1
  then IntKind.wrap .i64 (y.I 1-1) else 1 then bif Tm.I (F (R { data:=#[(27:UInt8),(91:UInt8),(54:UInt8),(110:UInt8)] } (Int.tmod (IntKind.wrap .i64 a) 10))) 7==if IntKind.wrap .i64 (y.I 0-1)<2
  then IntKind.wrap .i64 (y.I 0-1) else 2 then bif Tm.B (F (R { data:=#[(27:UInt8),(91:UInt8),(54:UInt8),(110:UInt8)] } (Int.tmod (IntKind.wrap .i64 a) 10))) 8==false then true else false
  else false else false then k (bv true) else k (bv false) else k (bv false) else k (bv false) else none else none else none else none else none else none else none else none else none else none else none
  else none else none else none else none else none else none else none else none else none else none else none else none else none else none:=by
 kernel_rfl
end Go.Proofs.YtigmkgampfbflaaGreatDoor
namespace Go.Proofs.YtigmkgampfbflaaGreatDoor
open Go Go.AE Go.DE Go.RowKit
theorem rep_repeat (V:ByteArray):∀ (n:Nat) (r:ByteArray),(repN V n r).data.toList=r.data.toList++Lib.repeatL V.data.toList n
 | 0,r=>by simp [repN,Lib.repeatL]
 | n+1,r=>by
  rw [repN,rep_repeat V n,ByteArray.data_append,Array.toList_append,Lib.repeatL,List.append_assoc]
theorem rep_rp (V:ByteArray) (n:Nat):repN V n ⟨#[]⟩=rpF V n:=bytes_ext (by
 rw [rep_repeat];show ([]:List UInt8)++_=(Lib.repeatL V.data.toList (Int.toNat (n:Int))).toArray.toList;simp)
theorem sq_repeat:∀ n,Lib.repeatL [27,91,54,110] n=sqL n
 | 0=>rfl
 | n+1=>by
  rw [Lib.repeatL,sq_repeat n];rfl
theorem sq_rp (n:Nat):rpF { data:=#[27,91,54,110] } n=sqB n:=bytes_ext (by
 show (Lib.repeatL [27,91,54,110] (Int.toNat (n:Int))).toArray.toList=(sqL n);simp [sq_repeat])
def digs (u:Tm):ByteArray:=({ data:=#[27,91] }:ByteArray)++ByteArray.extract { data:=#[48,49,50,51,52,53,54,55,56,57] } (Int.toNat (IntKind.wrap IntKind.i64 (Int.tmod (u.I 6) 9+1))) (Int.toNat (IntKind.wrap IntKind.i64 (Int.tmod (u.I 6) 9+2)))++{ data:=#[59] } ++
 ByteArray.extract { data:=#[48,49,50,51,52,53,54,55,56,57] } (Int.toNat (IntKind.wrap IntKind.i64 (Int.tmod (u.I 7) 9+1))) (Int.toNat (IntKind.wrap IntKind.i64 (Int.tmod (u.I 7) 9+2)))++{ data:=#[82] }
theorem one_eq {u:Tm}(c6:u.I 6=0\/u.I 6=1) (c7:u.I 7=0\/u.I 7=1\/u.I 7=2):oneR u=digs u:=by
 unfold oneR digs
 rcases c6 with e6 | e6<;>rcases c7 with e7 | e7 | e7<;>rw [e6,e7]<;>kernel_rfl
def idQ (b:Bool) (v:Int) (p s:ByteArray):Prop:=idlF v p s=b/\p.size<=9000000/\s.size<=9000000
def rzQ (y:Tm) (n:Nat) (l:List DV) (s:ByteArray):Prop:=(l=y.cells/\s=sqA)\/(l=y.w1.cells/\s=sqB n)
def rzF (y x2:Tm) (s:ByteArray):Tm:=if s.size=11 then y.w1 else x2
theorem rl_true (x y x2 y2:Tm) (a:Int) (n:Nat) (hn:Int.tmod (IntKind.wrap IntKind.i64 a) 10=n) (h9:n<=9) (hI:idQ true (x.I 37) (x.S 38) (x.S 39)) (gy:0<y.gn) (g2:0<y2.gn) (w1:1<=y.I 0) (w2:y.I 0<=132) (h1:1<=y.I 1) (h2:y.I 1<=60)
  (c6:x2.I 6=toR 2 (y.I 1)) (c7:x2.I 7=toR 3 (y.I 0)) (c8:x2.B 8=false) (r1:x2.S 41=repN (oneR x2) n ⟨#[]⟩) (r2:y2.S 41=⟨#[]⟩) :
  bodyD Tryz.prog (envG Tryz.prog gl0 [(22,rpH x y x2 y2)] [] [(10,tmC x false),(11,tiC x 0),(12,idzC (idQ true) true),(13,aw0C),(14,wsC (rzQ y n) (rzF y x2)),(25,rpC rpQ rpF)] noLp 0) Tryz.f9 [.agg x.cells,kv .u8 a] [] (fun d _=>isD (bv true) d)=some ():=by
 refine (rl_tree x y x2 y2 a (idQ true) (rzQ y n) (rzF y x2) rpQ rpF _).trans ?_
 have e6:x2.I 6=0\/x2.I 6=1:=by rw [c6]; unfold toR; split<;>omega
 have e7:x2.I 7=0\/x2.I 7=1\/x2.I 7=2:=by rw [c7]; unfold toR; split<;>omega
 have m6:(if IntKind.wrap IntKind.i64 (Tm.I y (1:Nat)-(1:Int))<(1:Int) then IntKind.wrap IntKind.i64 (Tm.I y (1:Nat)-(1:Int)) else (1:Int))=x2.I 6:=by
  rw [c6,W_in (by omega) (by omega)]
  unfold toR
  split<;>split<;>omega
 have m7:(if IntKind.wrap IntKind.i64 (Tm.I y (0:Nat)-(1:Int))<(2:Int) then IntKind.wrap IntKind.i64 (Tm.I y (0:Nat)-(1:Int)) else (2:Int))=x2.I 7:=by
  rw [c7,W_in (by omega) (by omega)]
  unfold toR
  split<;>split<;>omega
 have eF:rzF y x2 (sqB n)=x2:=by
  unfold rzF
  rw [sqB_size,if_neg (by omega)]
 have eA:rzF y x2 { data:=#[27,91,63,54,108,27,91,50,59,51,72] }=y.w1:=if_pos rfl;have hV:=one_eq e6 e7;unfold digs at hV;have sV:=oneR_size x2;rw [hn,sq_rp,eF,eA,m6,m7,<- hV]
 refine hT rfl (hT rfl (hT hI (hT rfl (dT gy (dT gy (hT (.inl ⟨rfl,rfl⟩) (hT ⟨by omega,by omega,by decide⟩ (hT (.inr ⟨rfl,rfl⟩) ?_))))))))
 have fin:(bif holds (Tm.cells x2=Tm.cells x2) then (bif decide ((0:Nat)<Tm.gn y2) then (bif decide ((0:Nat)<Tm.gn y2) then (bif holds (rpQ (oneR x2) n) then (bif ByteArray.toList (Tm.S x2 (41:Nat))==ByteArray.toList (rpF (oneR x2) n) then (bif ByteArray.toList (Tm.S y2 (41:Nat))==ByteArray.toList { data:=#[] } then
   (bif bif Tm.I x2 (6:Nat)==x2.I 6 then bif Tm.I x2 (7:Nat)==x2.I 7 then bif Tm.B x2 (8:Nat)==false then true else false else false else false then isD (bv true) (DV.v (Value.bool true)) else isD (bv true) (DV.v (Value.bool false))) else isD (bv true) (DV.v (Value.bool false))) else isD (bv true) (DV.v (Value.bool false))) else none) else none) else none) else none)=some ():=by
  refine hT rfl (dT g2 (dT g2 (hT ⟨by omega,by omega,by omega⟩ (cT ?_ (cT ?_ (cT ?_ (isD_of rfl)))))))
  ·rw [r1,rep_rp];exact beq_self_eq_true _
  ·rw [r2];exact beq_self_eq_true _
  ·rw [c8];simp
 refine cT ?_ (cT ?_ (cT ?_ (cT ?_ (cT ?_ (cT ?_ (cT ?_ (cT ?_ (cT ?_ (cT ?_ (cT ?_ (cT ?_ fin)))))))))))
 all_goals
  clear fin
  rcases e6 with e6 | e6<;>rcases e7 with e7 | e7 | e7<;>(try rw [e6])<;>(try rw [e7])<;>kernel_rfl
theorem hc_of {st:AE.Stat}{f:FuncId}{F:HcF}(h:∀ args σ k,F args σ k=some ()->∃ con,ConOkZ true Tryz.prog st f con/\tblD [(f,con)] f args σ k=some ()):HcOk Tryz.prog st f F:=fun args σd k hk=>by
 obtain ⟨con,hc,h2⟩:=h args σd k hk;exact tblD_call (l:=[(f,con)]) (cons_conZ hc nil_conZ) f args σd k () h2
theorem rp_at {st:AE.Stat}(hx:Hx st) {x:Tm}(h:tmPP x.cells):ConOkZ true Tryz.prog st 22 (fun a k=>bif holds (a=[.agg x.cells]) then k (fun _=>(.tup [.agg x.noR.cells,sv (x.S 41)],[])) else none):=fun args k hk=>by
 obtain ⟨e,hk2⟩:=bif_none hk;clear hk;obtain rfl:=holds_eq.1 e;exact rplP_ok hx [.agg x.cells] k (hT h hk2)
theorem rpH_ok {st:AE.Stat}(hx:Hx st) {x x2:Tm}(h1:tmPP x.cells) (h2:tmPP x2.cells):HcOk Tryz.prog st 22 (rpH x x.noR x2 x2.noR):=hc_of fun args σ k hk=>by
 unfold rpH at hk
 split at hk<;>first | (cases hk; done) | skip
 ·rename_i l b;obtain ⟨e,hk2⟩:=bif_none hk;clear hk;obtain rfl:=holds_eq.1 e;refine ⟨_,rp_at hx h1,?_⟩;show (bif holds ([DV.agg x.cells]=[DV.agg x.cells]) then k _ ([b]++[]) else none)=some ();exact hT rfl hk2
 ·rename_i l _;obtain ⟨e,hk2⟩:=bif_none hk;clear hk;obtain rfl:=holds_eq.1 e;refine ⟨_,rp_at hx h2,?_⟩;show (bif holds ([DV.agg x2.cells]=[DV.agg x2.cells]) then k _ (σ++[]) else none)=some ();rw [List.append_nil];exact hT rfl hk2
theorem ti_ok {st:AE.Stat}(hx:Hx st) (hv:VdOk st) {x:Tm}(ht:tmOf x.cells=x) (ok:x.ok) {c:Int}(hc:tkV x=c):ConOk Tryz.prog st 11 (tiC x c):=fun args k hk=>by
 unfold tiC at hk
 split at hk<;>first | (cases hk; done) | skip
 rename_i l;obtain ⟨e,hk2⟩:=bif_none hk;clear hk;obtain rfl:=holds_eq.1 e
 exact tgC_ok hx hv [.agg x.cells] k (hT ⟨by rw [ht],by rw [ht]; exact ok⟩ (by rw [ht,hc]; exact hk2))
theorem idz_ok {st:AE.Stat}(hx:Hx st) (b:Bool):ConOkZ true Tryz.prog st 12 (idzC (idQ b) b):=fun args k hk=>by
 unfold idzC at hk
 split at hk<;>first | (cases hk; done) | skip
 rename_i v p s;obtain ⟨e,hk2⟩:=bif_none hk;clear hk;obtain ⟨h1,h2,h3⟩:=holds_eq.1 e
 exact idC_ok hx _ k (dT h2 (dT h3 (by rw [h1]; exact hk2)))
theorem ws_ok {st:AE.Stat}(K:RepOk st) (hv:VdOk st) {y:Tm}{n:Nat}(qa:wAQ y.cells) (qb:wBQ y.w1.cells) (h9:n<=9):ConOkZ true Tryz.prog st 14 (wsC (rzQ y n) (rzF y (y.w1.qs n))):=fun args k hk=>by
 unfold wsC at hk
 split at hk<;>first | (cases hk; done) | skip
 rename_i l s;obtain ⟨e,hk2⟩:=bif_none hk;clear hk
 rcases holds_eq.1 e with ⟨rfl,rfl⟩ | ⟨rfl,rfl⟩
 ·have e2:rzF y (y.w1.qs n) sqA=y.w1:=if_pos rfl;rw [e2] at hk2;exact wA_ok K hv qa _ k (hT rfl hk2)
 ·have e2:rzF y (y.w1.qs n) (sqB n)=y.w1.qs n:=by
   unfold rzF
   rw [sqB_size,if_neg (by omega)]
  rw [e2] at hk2;exact wB_ok K hv qb h9 _ k (hT rfl hk2)
theorem rep_size (V:ByteArray):∀ (n:Nat) (r:ByteArray),(repN V n r).size=r.size+n*V.size
 | 0,r=>by simp [repN]
 | n+1,r=>by
  rw [repN,rep_size V n,ByteArray.size_append,Nat.add_mul];omega
theorem pp_of {x:Tm}(ok:x.ok) (p:PrpP x) (lo:x.low):tmPP x.cells:=⟨rfl,ok,⟨p.g,p.o,p.w,p.h,p.c,p.d,p.a,p.a2,p.s,p.s2,p.t0,p.t1,p.t2,p.tn,p.bn,p.v,p.b⟩,lo⟩
theorem own_low {x:Tm}(h1:∀ i,x.gT i=false) (h2:∀ i,x.oT i=false) (h3:∀ i,x.bT i=false):x.low:=⟨fun i _=>h1 i,fun i _=>h2 i,fun i _=>h3 i⟩
theorem noR_pp {x:Tm}(p:PrpP x):PrpP x.noR:=⟨p.g,p.o,p.w,p.h,p.c,p.d,p.a,p.a2,p.s,p.s2,p.t0,p.t1,p.t2,p.tn,p.bn,p.v,p.b⟩
theorem w1_pp {x:Tm}(p:PrpP x):PrpP x.w1:=⟨p.g,p.o,p.w,p.h,by
 obtain ⟨w1,w2,h1,h2,-⟩:=p.bnd;show insF (toR 2 (x.I 1)) (toR 3 (x.I 0)) false (x.I 0) (x.I 1)=true;unfold insF toR;simp only [Bool.not_false,Bool.true_or,Bool.and_true,Bool.and_eq_true,decide_eq_true_eq]
 refine ⟨⟨⟨?_,?_⟩,?_⟩,?_⟩<;>split<;>omega,p.d,p.a,p.a2,p.s,p.s2,p.t0,p.t1,p.t2,p.tn,p.bn,p.v,p.b⟩
theorem qs_pp {x:Tm}(n:Nat) (p:PrpP x):PrpP (x.qs n):=⟨p.g,p.o,p.w,p.h,p.c,p.d,p.a,p.a2,p.s,p.s2,p.t0,p.t1,p.t2,p.tn,p.bn,p.v,p.b⟩
def tmLz (l:List DV):Prop:=(l=(tmOf l).cells/\(tmOf l).ok)/\(tmOf l).low/\((tmOf l).S 38).size<=9000000/\((tmOf l).S 39).size<=9000000
noncomputable def la9C:ConF:=fun args k=>match args with
 | [.agg l,.v (.int .u8 a)]=>bif holds (tmLz l/\0<=a/\a<256) then k (fun _=>(bv true,[])) else none
 | _=>none
section
variable {st:AE.Stat}(K:RepOk st) (hv:VdOk st) (hr:∀ a σ,st.ext 25 a σ=RL.app σ (toL (keepX rpV a))) (ha:ConOk Tryz.prog st 13 aw0C)
include K hv hr ha
theorem la9_at {x:Tm}(ht:tmOf x.cells=x) (ok:x.ok) (lo:x.low) (s1:(x.S 38).size<=9000000) (s2:(x.S 39).size<=9000000) {a:Int}(a0:0<=a) (a1:a<256):ConOkZ true Tryz.prog st 9 (fun a' k'=>bif holds (a'=[.agg x.cells,kv .u8 a]) then k' (fun _=>(bv true,[])) else none):=by
 have run:∀ {E:Env Unit},EnvOk Tryz.prog st E->E.gz=true->E.gl=gl0->E.lp=noLp->bodyD Tryz.prog E Tryz.f9 [.agg x.cells,kv .u8 a] [] (fun d _=>isD (bv true) d)=some ()->ConOkZ true Tryz.prog st 9 (fun a' k'=>bif holds (a'=[.agg x.cells,kv .u8 a]) then k' (fun _=>(bv true,[])) else none):=fun {E} hE hz hg hl hb=>by
  have:=con_flatE (E:=E) (st:=st) (F:=fun a' k'=>bif holds (a'=[.agg x.cells,kv .u8 a]) then k' (fun _=>(bv true,[])) else none) (by rw [hg]; exact glOk st) hE Tryz.func9 (by kernel_rfl) (by kernel_rfl) (K.x 9 rfl) (fun x _ g hq=>by rw [hl] at hq; cases hq) fun args k hk=>by
   obtain ⟨e,hk2⟩:=bif_none hk;obtain rfl:=holds_eq.1 e;exact ⟨_,_,.self (.self .nil),v_clo _,hk2,hb⟩
  rw [hz] at this;exact this
 have gt:ConOkZ true Tryz.prog st 10 (tmC x (greatF x)):=(gtC_ok K.x x ok).z
 cases hg:greatF x with
 | true =>
  rw [hg] at gt
  exact run (E:=envG Tryz.prog gl0 [] [] [(10,tmC x true),(13,aw0C)] noLp 0) (envG_ok (fun _ h=>nomatch h) nil_inZ (cons_conZ gt (cons_conZ ha.z nil_conZ))) rfl rfl rfl ((ra_tree x a _).trans (hT rfl (isD_of rfl)))
 | false =>
 rw [hg] at gt
 by_cases p:PrpP x
 case neg=>exact run (E:=envG Tryz.prog gl0 [] [] [(10,tmC x false),(11,tiC x 1),(13,aw0C)] noLp 0) (envG_ok (fun _ h=>nomatch h) nil_inZ (cons_conZ gt (cons_conZ (ti_ok K.x hv ht ok (tkV_no p)).z (cons_conZ ha.z nil_conZ)))) rfl rfl rfl ((rb_tree9 x a _).trans (hT rfl (hT rfl (isD_of rfl))))
 have ti:=(ti_ok K.x hv ht ok (tkV_yes p)).z (z:=true)
 cases hi:idlF (x.I 37) (x.S 38) (x.S 39) with
 | false=>exact run (E:=envG Tryz.prog gl0 [] [] [(10,tmC x false),(11,tiC x 0),(12,idzC (idQ false) false),(13,aw0C)] noLp 0) (envG_ok (fun _ h=>nomatch h) nil_inZ (cons_conZ gt (cons_conZ ti (cons_conZ (idz_ok K.x false) (cons_conZ ha.z nil_conZ))))) rfl rfl rfl ((rid_tree x a (idQ false) _).trans (hT rfl (hT rfl (hT ⟨hi,s1,s2⟩ (isD_of rfl)))))
 | true =>
 obtain ⟨n,hn,h9⟩:∃ n:Nat,Int.tmod (IntKind.wrap IntKind.i64 a) 10=n/\n<=9:=⟨(a % 10).toNat,by
  rw [W_in (by omega) (by omega),Int.tmod_eq_emod_of_nonneg a0]
  omega,by omega⟩
 obtain ⟨w1,w2,h1,h2,-⟩:=p.bnd;have y0:x.noR.ok:=⟨ok.1,ok.2.1,ok.2.2.1,ok.2.2.2.1,ok.2.2.2.2.1,Nat.zero_le _⟩;have py:=noR_pp p
 have qa:wAQ x.noR.cells:=⟨pp_of y0 py (own_low (fun _=>rfl) (fun _=>rfl) fun _=>rfl),hi,s1,s2⟩
 have qb:wBQ x.noR.w1.cells:=⟨pp_of y0 (w1_pp py) (own_low (fun _=>rfl) (fun _=>rfl) fun _=>rfl),rfl,rfl,rfl,rfl,rfl,by
  show 0<=toR 2 (x.I 1)/\toR 2 (x.I 1)<=1/\0<=toR 3 (x.I 0)/\toR 3 (x.I 0)<=2;unfold toR
  refine ⟨?_,?_,?_,?_⟩<;>split<;>omega⟩
 have x2ok:(x.noR.w1.qs n).ok:=⟨ok.1,ok.2.1,ok.2.2.1,ok.2.2.2.1,ok.2.2.2.2.1,by
  show (repN (oneR x.noR.w1) n ⟨#[]⟩).size<=9000000;rw [rep_size,oneR_size];show 0+n*6<=9000000;omega⟩
 have q2:tmPP (x.noR.w1.qs n).cells:=pp_of x2ok (qs_pp n (w1_pp py)) (own_low (fun _=>rfl) (fun _=>rfl) fun _=>rfl)
 exact run (E:=envG Tryz.prog gl0 [(22,rpH x x.noR (x.noR.w1.qs n) (x.noR.w1.qs n).noR)] [] [(10,tmC x false),(11,tiC x 0),(12,idzC (idQ true) true),(13,aw0C),(14,wsC (rzQ x.noR n) (rzF x.noR (x.noR.w1.qs n))),(25,rpC rpQ rpF)] noLp 0)
  (envG_ok (fun e he=>by
   obtain rfl:=List.mem_singleton.1 he;exact rpH_ok K.x (pp_of ok p lo) q2) nil_inZ (cons_conZ gt (cons_conZ ti (cons_conZ (idz_ok K.x true) (cons_conZ ha.z (cons_conZ (ws_ok K hv qa qb h9) (cons_conZ (rpC_ok hr).z nil_conZ))))))) rfl rfl rfl
  (rl_true x x.noR (x.noR.w1.qs n) (x.noR.w1.qs n).noR a n hn h9 ⟨hi,s1,s2⟩ p.gpos p.gpos w1 w2 h1 h2 rfl rfl rfl rfl rfl)
theorem la9C_ok:ConOkZ true Tryz.prog st 9 la9C:=fun args k hk=>by
 unfold la9C at hk
 split at hk<;>first | (cases hk; done) | skip
 rename_i l a;obtain ⟨e,hk2⟩:=bif_none hk;clear hk;obtain ⟨⟨⟨l1,ok⟩,lo,s1,s2⟩,a0,a1⟩:=holds_eq.1 e
 have ht:tmOf (tmOf l).cells=tmOf l:=by rw [<- l1]
 have:=la9_at K hv hr ha ht ok lo s1 s2 a0 a1 [.agg l,kv .u8 a] k (hT (by rw [<- l1]) hk2)
 exact this
end
end Go.Proofs.YtigmkgampfbflaaGreatDoor
