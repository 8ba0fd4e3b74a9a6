/-
 The chapter's examples (awake) hold: what the closed run leans on.
 Conditions: none beyond those of the contracts.
-/
import Derived.Test.YtigmkgampfbflaaGreatDoorJSs
import Derived.Test.YtigmkgampfbflaaGreatDoorAeMpg
import Derived.Test.YtigmkgampfbflaaGreatDoorAeFast4
import Derived.KernelRfl
import Derived.Test.YtigmkgampfbflaaGreatDoorJDec
import Derived.Shelf.Strings.Repeat
import Derived.Shelf.LaysM
import Derived.Ground.SlgnProg
import Derived.Test.YtigmkgampfbflaaGreatDoorProg
import Derived.Test.YtigmkgampfbflaaGreatDoorJWs
import Derived.Lib.Repeat
namespace Go.Proofs.YtigmkgampfbflaaGreatDoor
open Go Go.AE Go.DE Go.RowKit
theorem follows:Tryz.prog.follows .mixedOrders=true:=by kernel_rfl
theorem cellsV_succ {k:Nat}{l:List Value}{ss:List (List UInt8)}(h:cellsV (k+1) l=some ss) :
  ∃ s w x y z r l',l=.string ⟨⟨s⟩⟩ :: .int .i64 w :: .int .i64 x :: .int .i64 y :: .int .i64 z :: r/\s.length<=1000/\ss=s :: l'/\cellsV k r=some l':=by
 unfold cellsV at h;split at h
 ·exfalso; omega
 ·rename_i k' s w x y z r he
  obtain rfl:k'=k:=by omega
  split at h<;>first | (cases h; done) | skip
  rename_i hs
  split at h<;>first | (cases h; done) | skip
  rename_i l' hl;obtain rfl:=Option.some.inj h;exact ⟨s,w,x,y,z,r,l',rfl,hs,rfl,hl⟩
 ·cases h
theorem cellsV_zero {l:List Value}{ss:List (List UInt8)}(h:cellsV 0 l=some ss):l=[]/\ss=[]:=by
 unfold cellsV at h;split at h
 ·exact ⟨rfl,(Option.some.inj h).symm⟩
 ·exfalso; omega
 ·cases h
def nthB (ss:List (List UInt8)) (k:Nat):ByteArray:=⟨⟨ss.getD k []⟩⟩
theorem fnOk_text {W:World}:FnOk Tryz.prog W 24 (fun a σ=>RL.app σ (toL (tnV stN0 (hp σ) a))):=by
 intro args σ v σ' hg
 dsimp only at hg
 unfold tnV at hg
 split at hg<;>first | (cases hg; done) | skip
 rename_i a c
 split at hg<;>first | (cases hg; done) | skip
 rename_i l hl
 split at hg<;>first | (cases hg; done) | skip
 rename_i ss hc;simp only [RL.app,toL,Option.map_some,Option.some.injEq,Prod.mk.injEq,List.foldl_nil] at hg;obtain ⟨rfl,rfl⟩:=hg;show _<=σ.length/\_
 refine ⟨Nat.le_refl _,fun ρ w args' hR _ hargs=>?_⟩
 obtain ⟨x',r',rfl,hx,hr⟩:=hargs.cons_inv;obtain rfl:=hr.nil_inv
 obtain ⟨a',c',rfl,ha⟩:∃ a' c',x'=.slice (some a') 5 c'/\addrOk ρ a a':=by
  cases hx with
  | sliceX _ a' _ _ h1 h2 h3=>exact ⟨a',c,rfl,h3.resolve_left (by omega)⟩
  | sliceU _ a' _ _ cap' sz h0 h1 h2 h3=>exact ⟨a',cap',rfl,(h3.resolve_left (by omega)).1⟩
 rw [loadG_eq] at hl
 obtain ⟨l',hl1,hl2,hl3⟩:=loadN_sound (st:=stN0) (fun b i v h=>nomatch h) hR ha hl
 obtain ⟨s0,w0,x0,y0,z0,r0,t0,rfl,q0,rfl,hc0⟩:=cellsV_succ hc;obtain ⟨s1,w1,x1,y1,z1,r1,t1,rfl,q1,rfl,hc1⟩:=cellsV_succ hc0;obtain ⟨s2,w2,x2,y2,z2,r2,t2,rfl,q2,rfl,hc2⟩:=cellsV_succ hc1;obtain ⟨s3,w3,x3,y3,z3,r3,t3,rfl,q3,rfl,hc3⟩:=cellsV_succ hc2;obtain ⟨s4,w4,x4,y4,z4,r4,t4,rfl,q4,rfl,hc4⟩:=cellsV_succ hc3;obtain ⟨rfl,rfl⟩:=cellsV_zero hc4;obtain rfl:=flat_args rfl hl2
 have ea:a'=⟨a'.block,a'.off,none⟩:=by
  have:=ha.1;cases a'
  simp_all
 have hadd:∀ j,a'.add j=⟨a'.block,a'.off+j,none⟩:=by
  intro j;rw [ea];unfold Addr.add;split
  ·rename_i h0; subst h0; rfl
  ·rfl
 have hcl:∀ (j:Nat) v,([.string ⟨⟨s0⟩⟩,.int .i64 w0,.int .i64 x0,.int .i64 y0,.int .i64 z0,.string ⟨⟨s1⟩⟩,.int .i64 w1,.int .i64 x1,.int .i64 y1,.int .i64 z1,.string ⟨⟨s2⟩⟩,.int .i64 w2,.int .i64 x2,.int .i64 y2,.int .i64 z2,.string ⟨⟨s3⟩⟩,.int .i64 w3,.int .i64 x3,.int .i64 y3,.int .i64 z3,.string ⟨⟨s4⟩⟩,.int .i64 w4,.int .i64 x4,.int .i64 y4,.int .i64 z4]:List Value)[j]?=some v->w.cell? ⟨a'.block,a'.off+j,none⟩=some v:=fun j v h=>by
  rw [<- hadd];exact hl3 j v h
 rw [ea]
 have h:=text_calls a'.block a'.off c' (nthB [s0,s1,s2,s3,s4]) w0 x0 y0 z0 w1 x1 y1 z1 w2 x2 y2 z2 w3 x3 y3 z3 w4 x4 y4 z4 w (fun k hk=>by
   have:k=0\/k=1\/k=2\/k=3\/k=4:=by omega
   rcases this with rfl | rfl | rfl | rfl | rfl
   ·exact q0
   ·exact q1
   ·exact q2
   ·exact q3
   ·exact q4) (hcl 0 _ rfl) (hcl 1 _ rfl) (hcl 2 _ rfl) (hcl 3 _ rfl) (hcl 4 _ rfl) (hcl 5 _ rfl) (hcl 6 _ rfl) (hcl 7 _ rfl) (hcl 8 _ rfl) (hcl 9 _ rfl) (hcl 10 _ rfl) (hcl 11 _ rfl) (hcl 12 _ rfl) (hcl 13 _ rfl) (hcl 14 _ rfl)
   (hcl 15 _ rfl) (hcl 16 _ rfl) (hcl 17 _ rfl) (hcl 18 _ rfl) (hcl 19 _ rfl) (hcl 20 _ rfl) (hcl 21 _ rfl) (hcl 22 _ rfl) (hcl 23 _ rfl) (hcl 24 _ rfl)
 have e:upTo (nthB [s0,s1,s2,s3,s4]) 5=joinU [s0,s1,s2,s3,s4]:=by simp [upTo,nthB,joinU]
 rw [e] at h
 exact h.mono fun e w' ⟨he,hb⟩=>⟨_,he,ρ,.of_below hR hb,.string _⟩
def ext0:ExtG:=fun _ _ _ _=>none
def stE0:AE.Stat:=⟨fun _ _=>none,extOf ext0⟩
theorem ext0_ok {W:World}:CallOk Tryz.prog W stE0.ext:=fun f args σ v σ' h=>by simp [stE0,extOf,ext0,RG.app] at h
theorem okN_inv {n:Nat}(h:okN n=true):n=32\/n=88\/n=97\/n=98\/n=99\/n=100\/n=101\/n=102\/n=103:=by
 simp only [okN,Bool.or_eq_true,Bool.and_eq_true,Nat.beq_eq,Nat.ble_eq] at h;omega
theorem cw_run {n:Nat}(h:okN n=true):answerF Tryz.prog stE0 ext0 60 8 110 [.int .i32 (.ofNat n)] (.int .i64 1)=true:=by
 rcases okN_inv h with rfl | rfl | rfl | rfl | rfl | rfl | rfl | rfl | rfl<;>kernel_rfl
theorem fnOk_cw {W:World}:FnOk Tryz.prog W 110 (flatFn cwV):=by
 refine fnOk_of ((runF_sound (n:=60) (st:=stE0) (fun b i v h=>nomatch h) ext0_ok follows 8).fn 110 (by rw [Tryz.func110]; rfl)) fun args v hg=>?_
 unfold cwV at hg
 split at hg<;>first | (cases hg; done) | skip
 rename_i n
 cases hn:okN n with
 | false=>rw [hn] at hg; cases hg
 | true =>
  rw [hn] at hg;obtain rfl:=Option.some.inj hg;exact ⟨rfl,rfl,answerF_run rfl (cw_run hn)⟩
theorem keep_fn {W:World}{f:FuncId}{g:List Value->Option Value}(h:FnOk Tryz.prog W f (flatFn g)):FnOk Tryz.prog W f (fun a σ=>RG.app σ (keepX g a)):=fun args σ v σ' hx=>by
 refine h args σ v σ' ?_;obtain ⟨h1,rfl⟩:=keepX_app (g:=g) hx;simp [flatFn,h1]
theorem toL_app {σ:Heap}:∀ {r:RG},(∀ x,r≠none->r=some x->x.2=.keep)->RL.app σ (toL r)=RG.app σ r
 | none,_=>rfl
 | some (v,e),h=>by
  have:=h (v,e) (by simp) rfl
  simp only at this;subst this;rfl
theorem keepX_keep {g:List Value->Option Value}{args:List Value}:∀ x,keepX g args≠none->keepX g args=some x->x.2=.keep:=by
 intro x _ h;unfold keepX at h;simp only [Option.map_eq_some_iff] at h;obtain ⟨_,_,rfl⟩:=h;rfl
theorem keep_fnL {W:World}{f:FuncId}{g:List Value->Option Value}(h:FnOk Tryz.prog W f (flatFn g)):FnOk Tryz.prog W f (fun a σ=>RL.app σ (toL (keepX g a))):=fun args σ v σ' hx=>by
 dsimp only at hx
 rw [toL_app keepX_keep] at hx;exact keep_fn h args σ v σ' hx
def ext1:ExtG:=fun f args _ _=>match f with
 | 110=>keepX cwV args
 | _=>none
def stE1:AE.Stat:=⟨fun _ _=>none,extOf ext1⟩
theorem ext1_ok {W:World}:CallOk Tryz.prog W stE1.ext:=by
 intro f
 by_cases h1:f=110
 ·subst h1;exact keep_fn fnOk_cw
 ·intro args σ v σ' hx
  exfalso
  have:ext1 f args (hp σ) σ.length=none:=by
   unfold ext1
   split<;>first | contradiction | rfl
  simp [stE1,extOf,RG.app,this] at hx
theorem oneS_inv {s:ByteArray}(h:oneS s=true):s=⟨#[32]⟩\/s=⟨#[88]⟩\/s=⟨#[97]⟩\/s=⟨#[98]⟩\/s=⟨#[99]⟩\/s=⟨#[100]⟩\/s=⟨#[101]⟩\/s=⟨#[102]⟩\/s=⟨#[103]⟩:=by
 unfold oneS at h
 split at h<;>first | (cases h; done) | skip
 rename_i c
 have key:∀ n:UInt8,c.toNat=n.toNat->(⟨⟨[c]⟩⟩:ByteArray)=⟨#[n]⟩:=fun n e=>by
  obtain rfl:=UInt8.toNat_inj.1 e;rfl
 rcases okN_inv h with h | h | h | h | h | h | h | h | h
 ·exact .inl (key 32 h)
 ·exact .inr (.inl (key 88 h))
 ·exact .inr (.inr (.inl (key 97 h)))
 ·exact .inr (.inr (.inr (.inl (key 98 h))))
 ·exact .inr (.inr (.inr (.inr (.inl (key 99 h)))))
 ·exact .inr (.inr (.inr (.inr (.inr (.inl (key 100 h))))))
 ·exact .inr (.inr (.inr (.inr (.inr (.inr (.inl (key 101 h)))))))
 ·exact .inr (.inr (.inr (.inr (.inr (.inr (.inr (.inl (key 102 h))))))))
 ·exact .inr (.inr (.inr (.inr (.inr (.inr (.inr (.inr (key 103 h))))))))
theorem cc_run {s:ByteArray}(h:oneS s=true):answerF Tryz.prog stE1 ext1 60 8 72 [.string s] (.int .i64 0)=true:=by
 rcases oneS_inv h with rfl | rfl | rfl | rfl | rfl | rfl | rfl | rfl | rfl<;>kernel_rfl
theorem cd_run {s:ByteArray}(h:oneS s=true):answerF Tryz.prog stE1 ext1 60 8 73 [.string s] (.int .i64 1)=true:=by
 rcases oneS_inv h with rfl | rfl | rfl | rfl | rfl | rfl | rfl | rfl | rfl<;>kernel_rfl
theorem uv_run:answerF Tryz.prog stE1 ext1 60 8 30 [.string ⟨⟨[]⟩⟩] (.bool true)=true:=by kernel_rfl
theorem fnOk_cc {W:World}:FnOk Tryz.prog W 72 (flatFn ccV):=by
 refine fnOk_of ((runF_sound (n:=60) (st:=stE1) (fun b i v h=>nomatch h) ext1_ok follows 8).fn 72 (by rw [Tryz.func72]; rfl)) fun args v hg=>?_
 unfold ccV at hg
 split at hg<;>first | (cases hg; done) | skip
 rename_i s
 cases ho:oneS s with
 | false=>rw [ho] at hg; cases hg
 | true =>
  rw [ho] at hg;obtain rfl:=Option.some.inj hg;exact ⟨rfl,rfl,answerF_run rfl (cc_run ho)⟩
theorem fnOk_cd {W:World}:FnOk Tryz.prog W 73 (flatFn cdV):=by
 refine fnOk_of ((runF_sound (n:=60) (st:=stE1) (fun b i v h=>nomatch h) ext1_ok follows 8).fn 73 (by rw [Tryz.func73]; rfl)) fun args v hg=>?_
 unfold cdV at hg
 split at hg<;>first | (cases hg; done) | skip
 rename_i s
 cases ho:oneS s with
 | false=>rw [ho] at hg; cases hg
 | true =>
  rw [ho] at hg;obtain rfl:=Option.some.inj hg;exact ⟨rfl,rfl,answerF_run rfl (cd_run ho)⟩
theorem fnOk_uv {W:World}:FnOk Tryz.prog W 30 (flatFn uvV):=by
 refine fnOk_of ((runF_sound (n:=60) (st:=stE1) (fun b i v h=>nomatch h) ext1_ok follows 8).fn 30 (by rw [Tryz.func30]; rfl)) fun args v hg=>?_
 unfold uvV at hg
 split at hg<;>first | (cases hg; done) | skip
 obtain rfl:=Option.some.inj hg;exact ⟨rfl,rfl,answerF_run rfl uv_run⟩
theorem extA_ok {W:World}:CallOk Tryz.prog W stA.ext:=by
 intro f
 by_cases h1:f=110
 ·subst h1; exact keep_fnL fnOk_cw
 by_cases h2:f=72
 ·subst h2; exact keep_fnL fnOk_cc
 by_cases h3:f=73
 ·subst h3; exact keep_fnL fnOk_cd
 by_cases h4:f=30
 ·subst h4; exact keep_fnL fnOk_uv
 by_cases h5:f=24
 ·subst h5; exact fnOk_text
 by_cases h6:f=145
 ·subst h6; exact eff_ok W
 ·intro args σ v σ' hx
  exfalso
  have:extA f args (hp σ) σ.length=none:=by
   unfold extA
   split<;>first | contradiction | rfl
  simp [stA,extOfL,RL.app,this] at hx
def awV:List Value->Option Value
 | []=>some (.bool true)
 | _=>none
theorem awake_ok {W:World}(hst:GoodSt W stA):FnOk Tryz.prog W 13 (flatFn awV):=by
 refine fnOk_of (Deep.ok (D:=dAw) (st:=stA) (x:=extA) awake_run rfl hst extA_ok follows (by show (Tryz.prog.funcs[13]?).isSome=true; rw [Tryz.func13]; rfl)) fun args v hg=>?_
 unfold awV at hg
 split at hg<;>first | (cases hg; done) | skip
 obtain rfl:=Option.some.inj hg
 exact ⟨rfl,rfl,[],by kernel_rfl⟩
end Go.Proofs.YtigmkgampfbflaaGreatDoor
namespace Go.Proofs.YtigmkgampfbflaaGreatDoor
open Go Go.AE Go.DE Go.RowKit
theorem cellsV_at:∀ {n:Nat}{l:List Value}{ss:List (List UInt8)},cellsV n l=some ss->ss.length=n/\l.all flat=true/\l.length=n*5 /\
  ∀ k,k<n->∃ w x y z:Int,(ss.getD k []).length<=1000/\l[k*5]?=some (.string ⟨⟨ss.getD k []⟩⟩)/\l[k*5+1]?=some (.int .i64 w)/\l[k*5+2]?=some (.int .i64 x)/\l[k*5+3]?=some (.int .i64 y)/\l[k*5+4]?=some (.int .i64 z)
 | 0,l,ss,h=>by
  obtain ⟨rfl,rfl⟩:=cellsV_zero h
  exact ⟨rfl,rfl,rfl,fun k hk=>absurd hk (Nat.not_lt_zero _)⟩
 | n+1,l,ss,h=>by
  obtain ⟨s,w,x,y,z,r,t,rfl,hs,rfl,hr⟩:=cellsV_succ h;obtain ⟨h1,h2,h3,h4⟩:=cellsV_at hr
  refine ⟨by simp [h1],?_,by simp only [List.length_cons,h3]; omega,fun k hk=>?_⟩
  ·simp only [List.all_cons,h2,Bool.and_true];rfl
  ·cases k with
   | zero=>exact ⟨w,x,y,z,hs,rfl,rfl,rfl,rfl,rfl⟩
   | succ k =>
    obtain ⟨w',x',y',z',q0,q1,q2,q3,q4,q5⟩:=h4 k (by omega)
    refine ⟨w',x',y',z',q0,?_,?_,?_,?_,?_⟩
    ·rw [show (k+1)*5=k*5+5 by omega]; exact q1
    ·rw [show (k+1)*5+1=k*5+1+5 by omega]; exact q2
    ·rw [show (k+1)*5+2=k*5+2+5 by omega]; exact q3
    ·rw [show (k+1)*5+3=k*5+3+5 by omega]; exact q4
    ·rw [show (k+1)*5+4=k*5+4+5 by omega]; exact q5
theorem upTo_join:∀ (ss:List (List UInt8)) (k:Nat),k<=ss.length->upTo (nthB ss) k++joinU (ss.drop k)=joinU ss
 | ss,0,_=>rfl
 | ss,k+1,h=>by
  have e:ss.drop k=ss.getD k [] :: ss.drop (k+1):=by
   rw [List.drop_eq_getElem_cons (by omega),List.getD_eq_getElem?_getD,List.getElem?_eq_getElem (by omega)]
   rfl
  have h1:=upTo_join ss k (by omega)
  rw [e] at h1;rw [<- h1];show (upTo (nthB ss) k++ss.getD k [])++joinU (ss.drop (k+1))=upTo (nthB ss) k++(ss.getD k []++joinU (ss.drop (k+1)));rw [List.append_assoc]
def tnX (st:AE.Stat) (g:HF):List Value->RG
 | [.slice (some a) n _]=>if 0<n/\n<=1000 then (match loadG st g a (n*5) with
  | some l=>(match cellsV n l with
   | some ss=>some (.string ⟨⟨joinU ss⟩⟩,.keep)
   | none=>none)
  | none=>none) else none
 | _=>none
theorem fnOk_textN {W:World}{st:AE.Stat}(hst:GoodSt W st):FnOk Tryz.prog W 24 (fun a σ=>RL.app σ (toL (tnX st (hp σ) a))):=by
 intro args σ v σ' hg
 dsimp only at hg
 unfold tnX at hg
 split at hg<;>first | (cases hg; done) | skip
 rename_i a n c
 split at hg<;>first | (cases hg; done) | skip
 rename_i hn
 split at hg<;>first | (cases hg; done) | skip
 rename_i l hl
 split at hg<;>first | (cases hg; done) | skip
 rename_i ss hc;simp only [RL.app,toL,Option.map_some,Option.some.injEq,Prod.mk.injEq,List.foldl_nil] at hg;obtain ⟨rfl,rfl⟩:=hg;show _<=σ.length/\_
 refine ⟨Nat.le_refl _,fun ρ w args' hR _ hargs=>?_⟩
 obtain ⟨x',r',rfl,hx,hr⟩:=hargs.cons_inv;obtain rfl:=hr.nil_inv
 obtain ⟨a',c',rfl,ha⟩:∃ a' c',x'=.slice (some a') n c'/\addrOk ρ a a':=by
  cases hx with
  | sliceX _ a' _ _ h1 h2 h3=>exact ⟨a',c,rfl,h3.resolve_left (by omega)⟩
  | sliceU _ a' _ _ cap' sz h0 h1 h2 h3=>exact ⟨a',cap',rfl,(h3.resolve_left (by omega)).1⟩
 rw [loadG_eq] at hl;obtain ⟨l',hl1,hl2,hl3⟩:=loadN_sound (st:=st) hst hR ha hl;obtain ⟨c1,c2,c3,c4⟩:=cellsV_at hc;have el:=flat_args c2 hl2;rw [el] at hl3
 have ea:a'=⟨a'.block,a'.off,none⟩:=by
  have:=ha.1;cases a'
  simp_all
 have hadd:∀ j,a'.add j=⟨a'.block,a'.off+j,none⟩:=by
  intro j;rw [ea];unfold Addr.add;split
  ·rename_i h0; subst h0; rfl
  ·rfl
 have hcl:∀ (j:Nat) v,l[j]?=some v->w.cell? ⟨a'.block,a'.off+j,none⟩=some v:=fun j v h=>by
  rw [<- hadd];exact hl3 j v h
 rw [ea]
 obtain ⟨W1,hW1⟩:∃ f:Nat->Int,∀ k,k<n->l[k*5+1]?=some (.int .i64 (f k)):=⟨fun k=>if h:k<n then (c4 k h).choose else 0,fun k hk=>by
  simp only [hk,dif_pos];exact ((c4 k hk).choose_spec.choose_spec.choose_spec.choose_spec).2.2.1⟩
 obtain ⟨W2,hW2⟩:∃ f:Nat->Int,∀ k,k<n->l[k*5+2]?=some (.int .i64 (f k)):=⟨fun k=>if h:k<n then (c4 k h).choose_spec.choose else 0,fun k hk=>by
  simp only [hk,dif_pos];exact ((c4 k hk).choose_spec.choose_spec.choose_spec.choose_spec).2.2.2.1⟩
 obtain ⟨W3,hW3⟩:∃ f:Nat->Int,∀ k,k<n->l[k*5+3]?=some (.int .i64 (f k)):=⟨fun k=>if h:k<n then (c4 k h).choose_spec.choose_spec.choose else 0,fun k hk=>by
  simp only [hk,dif_pos];exact ((c4 k hk).choose_spec.choose_spec.choose_spec.choose_spec).2.2.2.2.1⟩
 obtain ⟨W4,hW4⟩:∃ f:Nat->Int,∀ k,k<n->l[k*5+4]?=some (.int .i64 (f k)):=⟨fun k=>if h:k<n then (c4 k h).choose_spec.choose_spec.choose_spec.choose else 0,fun k hk=>by
  simp only [hk,dif_pos];exact ((c4 k hk).choose_spec.choose_spec.choose_spec.choose_spec).2.2.2.2.2⟩
 have h:=text_row a'.block a'.off c' n (nthB ss) W1 W2 W3 W4 w hn.2 hn.1 (fun k hk=>by
   obtain ⟨_,_,_,_,q,_⟩:=c4 k hk
   exact q) fun k hk=>by
   obtain ⟨_,_,_,_,_,q,_⟩:=c4 k hk;refine ⟨hcl _ _ q,?_,?_,?_,?_⟩
   ·rw [Nat.add_assoc]; exact hcl _ _ (hW1 k hk)
   ·rw [Nat.add_assoc]; exact hcl _ _ (hW2 k hk)
   ·rw [Nat.add_assoc]; exact hcl _ _ (hW3 k hk)
   ·rw [Nat.add_assoc]; exact hcl _ _ (hW4 k hk)
 have e:upTo (nthB ss) n=joinU ss:=by
  have:=upTo_join ss n (by omega)
  rw [<- c1,List.drop_length] at this;rw [<- c1,<- this];simp [joinU]
 rw [e] at h
 exact h.mono fun e w' ⟨he,hb⟩=>⟨_,he,ρ,.of_below hR hb,.string _⟩
def txL (r:Row):Nat->Nat->List (List UInt8)
 | 0,_=>[]
 | m+1,i=>(r.tx i).data.toList :: txL r m (i+1)
def rowL (r:Row):Nat->Nat->List Value
 | 0,_=>[]
 | m+1,i=>.string (r.tx i) :: .int .i64 (r.wd i) :: .int .i64 (r.fo i) :: .int .i64 (r.ba i) :: .int .i64 (r.fl i) :: rowL r m (i+1)
theorem rowL_len (r:Row):∀ m i,(rowL r m i).length=m*5
 | 0,_=>rfl
 | m+1,i=>by simp only [rowL,List.length_cons,rowL_len r m (i+1)]; omega
theorem rowL_cells (r:Row):∀ m i,(∀ j,i<=j->j<i+m->(r.tx j).size<=1000)->cellsV m (rowL r m i)=some (txL r m i)
 | 0,_,_=>rfl
 | m+1,i,h=>by
  have h0:=h i (Nat.le_refl _) (by omega)
  have ih:=rowL_cells r m (i+1) fun j h1 h2=>h j (by omega) (by omega)
  rw [rowL,txL]
  cases e:r.tx i with
  | mk d =>
   cases d with
   | mk s =>
    rw [e] at h0;have h0:s.length<=1000:=h0;rw [cellsV];simp only [h0,if_true,ih]
theorem rowL_at (r:Row):∀ m i j,j<m->∀ f,f<5->(rowL r m i)[j*5+f]?=some (match f with | 0=>.string (r.tx (i+j)) | 1=>.int .i64 (r.wd (i+j)) | 2=>.int .i64 (r.fo (i+j)) | 3=>.int .i64 (r.ba (i+j)) | _=>.int .i64 (r.fl (i+j)))
 | 0,_,j,h,_,_=>absurd h (Nat.not_lt_zero _)
 | m+1,i,0,_,f,hf=>by
  match f,hf with
  | 0,_=>rfl
  | 1,_=>rfl
  | 2,_=>rfl
  | 3,_=>rfl
  | 4,_=>rfl
 | m+1,i,j+1,h,f,hf=>by
  have ih:=rowL_at r m (i+1) j (by omega) f hf
  rw [show i+1+j=i+(j+1) by omega] at ih
  rw [show (j+1)*5+f=j*5+f+5 by omega]
  exact ih
def txF (r:Row):ByteArray:=⟨⟨joinU (txL r r.n 0)⟩⟩
def txQ (g:Nat->Nat->DV) (n:Nat):Prop:=cellsOk g n/\0<n/\n<=1000/\∀ i,i<n->(strD (g i 0)).size<=1000
noncomputable def txC (Q:(Nat->Nat->DV)->Nat->Prop) (F:Row->ByteArray):ConF:=fun args k=>match args with
 | [.sl _ g 5 n]=>bif holds (Q g n) then k (fun _=>(sv (F (rowOf g n)),[])) else none
 | _=>none
theorem txC_ok {st:AE.Stat}(ht:∀ a σ,st.ext 24 a σ=RL.app σ (toL (tnX st (hp σ) a))):ConOk Tryz.prog st 24 (txC txQ txF):=by
 refine con_ext Tryz.func24 (by kernel_rfl) (by kernel_rfl) fun args k hk=>?_
 unfold txC at hk
 split at hk<;>first | (cases hk; done) | skip
 rename_i t g n;obtain ⟨hb,hk0⟩:=bif_none hk;clear hk;obtain ⟨hg,hp0,hn,hs⟩:=holds_eq.1 hb
 refine ⟨.string (txF (rowOf g n)),rfl,hk0,fun C σ vs hS ha=>?_⟩
 obtain ⟨v,ys,rfl,hv,hn0⟩:=ha.cons_inv;obtain rfl:=hn0.nil_inv
 rcases hv.sl_inv with ⟨a,cap,w,rfl,hc,hk5,q1,q2⟩ | ⟨rfl,-⟩
 ·have hl:loadN st σ a (n*5)=some (rowL (rowOf g n) n 0):=by
   refine loadN_intro (by omega) (rowL_len _ _ _) fun j x hx=>?_
   have hj:j<n*5:=by
    have:=(List.getElem?_eq_some_iff.1 hx).1;rw [rowL_len] at this;exact this
   have hd:j=j / 5*5+j % 5:=by omega
   have hi:j / 5<n:=by omega
   have hf:j % 5<5:=Nat.mod_lt _ (by decide)
   have e:=rowL_at (rowOf g n) n 0 (j / 5) hi (j % 5) hf;rw [<- hd,hx] at e;have e:=Option.some.inj e;have c1:=hS.frz _ _ _ _ _ (q1 (j / 5) (j % 5) hi hf).1;have c2:=q2 (j / 5) (j % 5) hi hf
   rw [show a.off+j / 5*5+j % 5=a.off+j by omega] at c1
   rw [Nat.zero_add] at e
   have key:w (j / 5) (j % 5)=x:=by
    rw [e];obtain ⟨g0,_,g1,g2,g3,g4⟩:=hg.2 _ hi
    have dv:∀ {x y:Value},DR C noMu (.v x) y->y=x:=fun h=>by
     cases h;rfl
    generalize j % 5=f at c2 hf
    match f,hf with
    | 0,_=>rw [g0] at c2; exact dv c2
    | 1,_=>rw [g1] at c2; exact dv c2
    | 2,_=>rw [g2] at c2; exact dv c2
    | 3,_=>rw [g3] at c2; exact dv c2
    | 4,_=>rw [g4] at c2; exact dv c2
   rw [key] at c1;exact c1
  rw [ht];unfold tnX
  dsimp only
  rw [if_pos ⟨hp0,hn⟩,loadG_eq,hl]
  dsimp only
  rw [rowL_cells _ _ _ fun j _ h=>hs j (by omega)]
  rfl
 ·exact absurd hp0 (Nat.lt_irrefl _)
end Go.Proofs.YtigmkgampfbflaaGreatDoor
namespace Go.Proofs.YtigmkgampfbflaaGreatDoor
open Go Go.AE Go.DE Go.RowKit
def pnB (v:Int):List Int:=if 32<=v/\v<127 then [v] else []
def pnR (s:ByteArray):Nat->Nat->List Int->List Int
 | 0,_,b=>b
 | m+1,i,b=>pnR s m (i+1) (b++pnB (byteAt s i))
structure PRX where
 s:ByteArray
 i:Nat
 b:List Int
def PRX.r (x:PRX):List Int:=pnR x.s (x.s.size-x.i) x.i x.b
def pnI:LInv PRX where
 pre x:=x.i<=x.s.size/\x.s.size<=9000000/\x.b.length<=x.i
 m:=1
 n:=30
 ps:=[0,3,7,8]
 sd x:=[sv x.s,.os 1 0 x.b.length,iv x.s.size,iv x.i]
 sh x:=[none,some (lstB .u8 x.b)]
 meas x:=x.s.size-x.i
 e _:=.exit 0
 qs:=[3]
 od x:=[.os 1 0 x.r.length]
 oh x:=[none,some (lstB .u8 x.r)]
 guess ds _:=match ds with
  | [.v (.string s),_,_,_]=>some ⟨s,0,[]⟩
  | _=>none
 cps x k:=k (.exit 0) [.os 1 0 x.r.length] [none,some (lstB .u8 x.r)]
theorem pn_loop (s:ByteArray) (n i nb:Nat) (wb:Nat->Int) (K:Ex->Nat->List DV->List DV->DHeap->Option Unit):execD Tryz.prog (env [] noLp 0) (loopAt Tryz.f23 58) 500 (temps 30 [0,3,7,8] [sv s,.os 1 0 nb,iv n,iv i]) [none,some ⟨1,.tab nb (rowI .u8 wb)⟩] (fun e τ σ=>K e τ.length (pick [0,3,7,8] τ) (pick [3] τ) σ) =
  bif decide ((i:Int)<(n:Int)) then bif decide ((i:Int)<(↑(ByteArray.size s):Int)) then bif decide (byteAt s (Int.toNat (i:Int)) >= 32) then bif decide ((i:Int)<(↑(ByteArray.size s):Int))
  then bif decide (byteAt s (Int.toNat (i:Int))<127) then bif decide ((i:Int)<(↑(ByteArray.size s):Int)) then bif decide (nb<=DC.n (.tab nb (rowI IntKind.u8 wb))) then bif decide ((nb+1)*(1:Nat)<=140737488355328)
  then K .normal 30 [sv s,.os 3 0 (nb+1),iv (n:Int),iv (IntKind.wrap .i64 ((i:Int)+1))] [.os 3 0 (nb+1)] [none,none,some ⟨1,.lst [[kv .u8 ((byteAt s (Int.toNat (i:Int))))]]⟩,some ⟨1,.app (.pre (.tab nb fun a _=>kv .u8 ((wb a))) nb) (.lst [[kv .u8 ((byteAt s (Int.toNat (i:Int))))]])⟩]
  else none else none else none else K .normal 30 [sv s,.os 1 0 nb,iv (n:Int),iv (IntKind.wrap .i64 ((i:Int)+1))] [.os 1 0 nb] [none,some ⟨1,.tab nb fun a _=>kv .u8 ((wb a))⟩] else none
  else K .normal 30 [sv s,.os 1 0 nb,iv (n:Int),iv (IntKind.wrap .i64 ((i:Int)+1))] [.os 1 0 nb] [none,some ⟨1,.tab nb fun a _=>kv .u8 ((wb a))⟩] else none else K (.exit 0) 30 [sv s,.os 1 0 nb,iv (n:Int),iv (i:Int)] [.os 1 0 nb] [none,some ⟨1,.tab nb fun a _=>kv .u8 ((wb a))⟩]:=by
 kernel_rfl
theorem prn_tree (s:ByteArray) (k:DV->Option Unit):bodyD Tryz.prog (env [] (lpOf [(58,pnI.g)]) 0) Tryz.f23 [sv s] [] (fun d _=>k d) =
  bif holds ((Nat.le 0 (ByteArray.size s)/\Nat.le (ByteArray.size s) 9000000/\Nat.le 0 0)/\∃ ids,WkP 1 ids [sv s,.os 0 0 0,iv (↑(ByteArray.size s):Int),iv 0] [some ⟨1,.lst []⟩] [sv s,.os 1 0 0,iv (↑(ByteArray.size s):Int),iv 0] [none,some ⟨1,.tab 0 fun a _=>kv .u8 ((lw [] a))⟩])
  then bif decide (0+List.length (PRX.r { s:=s,i:=0,b:=[] })<=DC.n (DBlk.c (lstB IntKind.u8 (PRX.r { s:=s,i:=0,b:=[] })))) then bif intsD IntKind.u8 (List.length (PRX.r { s:=s,i:=0,b:=[] })) (subC (DBlk.c (lstB IntKind.u8 (PRX.r { s:=s,i:=0,b:=[] }))) 0 (List.length (PRX.r { s:=s,i:=0,b:=[] })))
  then k (sv (bytesS (List.length (PRX.r { s:=s,i:=0,b:=[] })) fun j=>numD (kv .u8 ((lw (PRX.r { s:=s,i:=0,b:=[] }) (0+j)))))) else none else none else none:=by
 kernel_rfl
theorem pn_ls {st:AE.Stat}:LoopS Tryz.prog st gl0 (.loop (loopAt Tryz.f23 58)) pnI.g:=by
 refine pnI.ok (E:=env [] noLp 0) (p:=500) (tblD_env (l:=[]) (fun _ h=>nomatch h)) (glOk st).1 (fun _ _ _ h=>nomatch h) (fun x k h=>h) fun x hx=>?_
 obtain ⟨s,i,b⟩:=x;obtain ⟨h1,h2,h3⟩:i<=s.size/\s.size<=9000000/\b.length<=i:=hx;refine (pn_loop s s.size i b.length (lw b) _).trans ?_;simp only [Int.toNat_natCast,Nat.add_zero]
 refine dS (fun hlt=>?_) fun hge=>?_
 ·have hlt:i<s.size:=by omega
  have hW:IntKind.i64.wrap ((i:Int)+1)=((i+1:Nat):Int):=by rw [W_in (by omega) (by omega)]; omega
  rw [hW];have hn:b.length<=DC.n (DC.tab b.length (rowI IntKind.u8 (lw b))):=Nat.le_refl _
  have hr:∀ M,pnB (byteAt s i)=M->PRX.r ⟨s,i+1,b++M⟩=PRX.r ⟨s,i,b⟩:=fun M hM=>by
   have:s.size-i=(s.size-(i+1))+1:=by omega
   simp only [PRX.r,this,pnR,hM]
  have skip:pnB (byteAt s i)=[]->pnI.ask ⟨s,i,b⟩ .normal 30 [sv s,.os 1 0 b.length,iv s.size,iv ((i+1:Nat):Int)] [.os 1 0 b.length] [none,some ⟨1,.tab b.length (rowI .u8 (lw b))⟩]=some ():=fun hM=>by
   have hr:=hr [] hM;rw [List.append_nil] at hr
   refine LInv.ask_of ⟨rfl,⟨s,i+1,b⟩,⟨rfl,by simp only [pnI,hr],by simp only [pnI,hr],⟨hlt,h2,Nat.le_succ_of_le h3⟩⟩,?_,[1],?_⟩
   ·simp only [pnI]; omega
   ·exact .of (im:=[some 1]) (.cons (.v _) (.cons (.os rfl) (.cons (.v _) (.cons (.v _) .nil)))) rfl ⟨⟨1,_,rfl,rfl,HasL.tab.sub⟩,trivial⟩ rfl (by decide)
  refine dT (by omega) (dS (fun a1=>dT (by omega) (dS (fun a2=>?_) fun a2=>?_)) fun a1=>?_)
  ·have hM:pnB (byteAt s i)=[byteAt s i]:=if_pos ⟨a1,a2⟩;have hr:=hr _ hM
   refine dT (by omega) (dT hn (dT (by omega) (LInv.ask_of ⟨rfl,⟨s,i+1,b++[byteAt s i]⟩,⟨rfl,by simp only [pnI,hr],by simp only [pnI,hr],⟨hlt,h2,?_⟩⟩,?_,[3],?_⟩)))
   ·simp only [List.length_append,List.length_singleton]; omega
   ·simp only [pnI]; omega
   ·show WkP 1 [3] _ _ [sv s,.os 1 0 (b++[byteAt s i]).length,iv s.size,iv ((i+1:Nat):Int)] [none,some (lstB .u8 (b++[byteAt s i]))];rw [List.length_append]
    exact .of (im:=[some 3]) (.cons (.v _) (.cons (.os rfl) (.cons (.v _) (.cons (.v _) .nil)))) rfl ⟨⟨3,_,rfl,rfl,(HasL.app rfl .tab (.lst [byteAt s i])).sub⟩,trivial⟩ rfl (by decide)
  ·exact skip (if_neg fun h=>a2 h.2)
  ·exact skip (if_neg fun h=>a1 h.1)
 ·obtain rfl:i=s.size:=by omega
  have hr:PRX.r ⟨s,s.size,b⟩=b:=by simp only [PRX.r,Nat.sub_self,pnR]
  refine LInv.ask_of ⟨rfl,rfl,[1],?_⟩;simp only [pnI,hr]
  exact .of (im:=[some 1]) (.cons (.os rfl) .nil) rfl ⟨⟨1,_,rfl,rfl,HasL.tab.sub⟩,trivial⟩ rfl (by decide)
def pnL (s:ByteArray):List Int:=pnR s s.size 0 []
def pnF (s:ByteArray):ByteArray:=bytesS (pnL s).length (lw (pnL s))
noncomputable def pnC (F:ByteArray->ByteArray):ConF:=fun args k=>match args with
 | [.v (.string s)]=>bif decide (s.size<=9000000) then k (fun _=>(sv (F s),[])) else none
 | _=>none
theorem pnC_ok {st:AE.Stat}(hx:Hx st):ConOk Tryz.prog st 23 (pnC pnF):=by
 refine con_flat (mg:=[]) (l:=[]) (lp:=lpOf [(58,pnI.g)]) (n:=0) (glOk st) (fun _ h=>nomatch h) Tryz.func23 (by kernel_rfl) (by kernel_rfl) (hx 23 rfl) (lp_one (by kernel_rfl) pn_ls) fun args k hk=>?_
 unfold pnC at hk
 split at hk<;>first | (cases hk; done) | skip
 rename_i s;obtain ⟨hn,hk⟩:=dec_none hk;refine ⟨[sv s],_,.self .nil,v_clo _,hk,(prn_tree s _).trans (hT ⟨⟨Nat.zero_le _,hn,Nat.le_refl _⟩,[0],?_⟩ (dT ?_ (cT ?_ (isD_of ?_))))⟩
 ·exact .of (im:=[some 0]) (.cons (.v _) (.cons (.os rfl) (.cons (.v _) (.cons (.v _) .nil)))) rfl ⟨⟨0,_,rfl,rfl,(HasL.nil (q:=.u8) (c:=.lst []) trivial).sub⟩,trivial⟩ rfl (by decide)
 ·rw [Nat.zero_add];exact Nat.le_refl _
 ·refine intsD_iff.2 fun j hj=>?_
  rw [subC_get hj,Nat.zero_add];rfl
 ·simp only [Nat.zero_add];rfl
theorem pnR_all (s:ByteArray):∀ (m i:Nat) (b:List Int),(∀ c∈b,32<=c/\c<127)->∀ c∈pnR s m i b,32<=c/\c<127
 | 0,_,_,h=>h
 | m+1,i,b,h=>pnR_all s m (i+1) _ fun c hc=>by
  rcases List.mem_append.1 hc with hc | hc
  ·exact h c hc
  ·unfold pnB at hc;split at hc
   ·rename_i hr;obtain rfl:=List.mem_singleton.1 hc;exact hr
   ·cases hc
theorem pnL_all (s:ByteArray):∀ c∈pnL s,32<=c/\c<127:=pnR_all s _ _ _ fun _ h=>nomatch h
end Go.Proofs.YtigmkgampfbflaaGreatDoor
namespace Go.Proofs
open Go.Shelf
def Tryz.lays105_ren:Go.Shelf.Ren:=⟨fun | 105=>25 | 212=>63 | 99=>64 | 165=>65 | 166=>61 | 170=>66 | 169=>62 | 263=>104 | 264=>105 | 206=>106 | 240=>103 | 241=>107 | 276=>161 | 277=>162 | n=>n,fun | 9=>9 | 3=>3 | 4=>4 | 20=>20 | 0=>0 | 46=>109 | 109=>110 | 5=>5 | 72=>101 | 76=>106 | 51=>150 | 146=>151 | 53=>153 | 148=>154 | 70=>99 | 37=>82 | 75=>105 | 127=>149 | 164=>197 | 80=>108 | n=>n,fun | n=>n⟩
theorem Tryz.lays105:Go.Proofs.Lays.n105 Tryz.prog Tryz.lays105_ren:={
 mixed:=by kernel_rfl
 f99:=Tryz.func64.trans (congrArg some (by kernel_rfl))
 f105:=Tryz.func25.trans (congrArg some (by kernel_rfl))
 f165:=Tryz.func65.trans (congrArg some (by kernel_rfl))
 f166:=Tryz.func61.trans (congrArg some (by kernel_rfl))
 f169:=Tryz.func62.trans (congrArg some (by kernel_rfl))
 f170:=Tryz.func66.trans (congrArg some (by kernel_rfl))
 f206:=Tryz.func106.trans (congrArg some (by kernel_rfl))
 f212:=Tryz.func63.trans (congrArg some (by kernel_rfl))
 f240:=Tryz.func103.trans (congrArg some (by kernel_rfl))
 f241:=Tryz.func107.trans (congrArg some (by kernel_rfl))
 f263:=Tryz.func104.trans (congrArg some (by kernel_rfl))
 f264:=Tryz.func105.trans (congrArg some (by kernel_rfl))
 f276:=Tryz.func161.trans (congrArg some (by kernel_rfl))
 f277:=Tryz.func162.trans (congrArg some (by kernel_rfl))
 t0:=Tryz.underlying0
 a0:=Tryz.isAgg0
 z0:=Tryz.sizeOf0
 v0:=Tryz.zeroValue0
 t3:=Tryz.underlying3
 a3:=Tryz.isAgg3
 z3:=Tryz.sizeOf3
 v3:=Tryz.zeroValue3
 t4:=Tryz.underlying4
 a4:=Tryz.isAgg4
 z4:=Tryz.sizeOf4
 v4:=Tryz.zeroValue4
 t5:=Tryz.underlying5
 a5:=Tryz.isAgg5
 z5:=Tryz.sizeOf5
 v5:=Tryz.zeroValue5
 t9:=Tryz.underlying9
 a9:=Tryz.isAgg9
 z9:=Tryz.sizeOf9
 v9:=Tryz.zeroValue9
 t20:=Tryz.underlying20
 a20:=Tryz.isAgg20
 z20:=Tryz.sizeOf20
 v20:=Tryz.zeroValue20
 t37:=Tryz.underlying82
 a37:=Tryz.isAgg82
 z37:=Tryz.sizeOf82
 v37:=Tryz.zeroValue82
 t46:=Tryz.underlying109
 a46:=Tryz.isAgg109
 z46:=Tryz.sizeOf109
 v46:=Tryz.zeroValue109
 t51:=Tryz.underlying150
 a51:=Tryz.isAgg150
 z51:=Tryz.sizeOf150
 v51:=Tryz.zeroValue150
 t53:=Tryz.underlying153
 a53:=Tryz.isAgg153
 z53:=Tryz.sizeOf153
 v53:=Tryz.zeroValue153
 t70:=Tryz.underlying99
 a70:=Tryz.isAgg99
 z70:=Tryz.sizeOf99
 v70:=Tryz.zeroValue99
 t72:=Tryz.underlying101
 a72:=Tryz.isAgg101
 z72:=Tryz.sizeOf101
 v72:=Tryz.zeroValue101
 t75:=Tryz.underlying105
 a75:=Tryz.isAgg105
 z75:=Tryz.sizeOf105
 v75:=Tryz.zeroValue105
 t76:=Tryz.underlying106
 a76:=Tryz.isAgg106
 z76:=Tryz.sizeOf106
 v76:=Tryz.zeroValue106
 t109:=Tryz.underlying110
 a109:=Tryz.isAgg110
 z109:=Tryz.sizeOf110
 v109:=Tryz.zeroValue110
 t127:=Tryz.underlying149
 a127:=Tryz.isAgg149
 z127:=Tryz.sizeOf149
 v127:=Tryz.zeroValue149
 t146:=Tryz.underlying151
 a146:=Tryz.isAgg151
 z146:=Tryz.sizeOf151
 v146:=Tryz.zeroValue151
 t148:=Tryz.underlying154
 a148:=Tryz.isAgg154
 z148:=Tryz.sizeOf154
 v148:=Tryz.zeroValue154
 t164:=Tryz.underlying197
 a164:=Tryz.isAgg197
 z164:=Tryz.sizeOf197
 v164:=Tryz.zeroValue197 }
theorem Tryz.Builder_Extra_105:Builder.Extra Tryz.prog Tryz.lays105_ren:={
 sizeBuilder:=by kernel_rfl
 liesBuilder:=by kernel_rfl
 t5:=Tryz.underlying5
 a5:=Tryz.isAgg5
 z5:=Tryz.sizeOf5
 v5:=Tryz.zeroValue5
 infoByte:=by kernel_rfl
 cellsByte:=by kernel_rfl
 sizeByte:=by kernel_rfl
 neB5:=by decide }
open Go.RowKit Go.Lib in
theorem Tryz.strings_Repeat (s:ByteArray) (c:Nat) (w:World) (hc:c<=9223372036854775807) (hlen:s.size*c<=140737488355328) :
  Calls Tryz.prog 25 #[.string s,.int .i64 c] w fun e w'=>e=.returned (.string ⟨(Lib.repeatL s.data.toList c).toArray⟩)/\Below w.heap.size w w':=Any.strings_Repeat Tryz.lays105 Tryz.Builder_Extra_105 s c w hc hlen
end Go.Proofs
namespace Go.Proofs.YtigmkgampfbflaaGreatDoor
open Go Go.AE Go.DE Go.RowKit
noncomputable def aw0C:ConF:=fun args k=>match args with
 | []=>k (fun _=>(bv true,[]))
 | _=>none
noncomputable def nwC (Q:Int->Int->Prop) (Y:Int->Int->WS):ConF:=fun args k=>match args with
 | [.v (.int .i64 w),.v (.int .i64 h)]=>bif holds (Q w h) then k (fun _=>(.tup [.agg (Y w h).cells,iv 0],[])) else none
 | _=>none
noncomputable def rpC (Q:ByteArray->Int->Prop) (F:ByteArray->Int->ByteArray):ConF:=fun args k=>match args with
 | [.v (.string s),.v (.int .i64 c)]=>bif holds (Q s c) then k (fun _=>(sv (F s c),[])) else none
 | _=>none
structure JX where
 R:Nat->Row
 n:Nat
 i:Nat
 a:ByteArray
 tx:ByteArray
 w:Int
 h:Int
end Go.Proofs.YtigmkgampfbflaaGreatDoor
namespace Go.Proofs.YtigmkgampfbflaaGreatDoor
open Go Go.AE Go.DE Go.RowKit
theorem fold_pus:∀ (l:List Int) (r:ByteArray),(l.foldl (fun r n=>r.push (UInt8.ofNat n.toNat)) r).data.toList=r.data.toList++l.map fun n=>UInt8.ofNat n.toNat
 | [],r=>by simp
 | x :: l,r=>by
  rw [List.foldl_cons,fold_pus l]
  have:(r.push (UInt8.ofNat x.toNat)).data.toList=r.data.toList++[UInt8.ofNat x.toNat]:=by
   show (r.data.push _).toList=_;simp
  rw [this];simp
theorem bytes_list (n:Nat) (f:Nat->Int):(bytesS n f).data.toList=(List.range n).map fun i=>UInt8.ofNat (f i).toNat:=by
 unfold bytesS;rw [fold_pus];rw [List.map_map];rfl
theorem ba_size (s:ByteArray):s.size=s.data.toList.length:=by
 show s.data.size=_;rw [Array.length_toList]
theorem bytes_size (n:Nat) (f:Nat->Int):(bytesS n f).size=n:=by rw [ba_size,bytes_list]; simp
theorem bytes_at {n:Nat}{f:Nat->Int}{j:Nat}(hj:j<n) (h0:0<=f j) (h1:f j<256):byteAt (bytesS n f) j=f j:=by
 unfold byteAt;rw [bytes_list,List.getD_eq_getElem?_getD,List.getElem?_map,List.getElem?_range hj];show (((UInt8.ofNat (f j).toNat).toNat:Nat):Int)=f j;rw [show (UInt8.ofNat (f j).toNat).toNat=(f j).toNat % 256 from rfl];omega
theorem pn_size (s:ByteArray):(pnF s).size=(pnL s).length:=bytes_size _ _
theorem pn_prn (s:ByteArray):prn (pnF s):=fun j hj=>by
 have hj:j<(pnL s).length:=by rw [<- pn_size]; exact hj
 have e:lw (pnL s) j=(pnL s)[j]:=by unfold lw; rw [List.getD_eq_getElem?_getD,List.getElem?_eq_getElem hj]; rfl
 obtain ⟨h1,h2⟩:=pnL_all s _ (List.getElem_mem hj);unfold pnF
 rw [bytes_at hj (by rw [e]; omega) (by rw [e]; omega),e]
 exact ⟨h1,h2⟩
def bt (t:ByteArray) (q:Nat):UInt8:=if q<t.size then t.data.toList.getD q 0 else 32
theorem join_row {r:Row}{g:Nat->UInt8}:∀ (m i:Nat),(∀ k,i<=k->k<i+m->(r.tx k).data.toList=[g k])->joinU (txL r m i)=(List.range' i m).map g
 | 0,_,_=>rfl
 | m+1,i,h=>by
  rw [txL,joinU,h i (Nat.le_refl _) (by omega),join_row m (i+1) fun k h1 h2=>h k (by omega) (by omega),List.range'_succ]
  rfl
theorem rep_list:∀ c,Lib.repeatL [32] c=List.replicate c 32
 | 0=>rfl
 | c+1=>by
  rw [Lib.repeatL,rep_list c,List.replicate_succ];rfl
theorem bt_list (t:ByteArray) {m:Nat}(h:t.size<=m):(List.range' 0 m).map (bt t)=t.data.toList++List.replicate (m-t.size) 32:=by
 have hs:=ba_size t
 apply List.ext_getElem
 ·simp only [List.length_map,List.length_range',List.length_append,List.length_replicate];omega
 ·intro i h1 h2;simp only [List.getElem_map,List.getElem_range',Nat.one_mul,Nat.zero_add];unfold bt
  by_cases hi:i<t.size
  ·rw [if_pos hi,List.getElem_append_left (by omega),List.getD_eq_getElem?_getD,List.getElem?_eq_getElem (by omega)]
   rfl
  ·rw [if_neg hi,List.getElem_append_right (by omega)]
   simp
def newY (w h:Int):WS:=⟨w.toNat,h.toNat,⟨fun _=>blkRow w.toNat,0,0,false⟩,fun _=>blkRow w.toNat,tab8⟩
theorem sp_one:oneC ⟨⟨[32]⟩⟩:=by
 have h:=enc_one (b:=32) ⟨by decide,by decide⟩
 rwa [show Utf8.encode 32=⟨⟨[32]⟩⟩ by kernel_rfl] at h
theorem blk_good (w:Nat):gRow w (blkRow w):=⟨rfl,fun _ _=>⟨rfl,sp_one⟩⟩
end Go.Proofs.YtigmkgampfbflaaGreatDoor
namespace Go.Proofs.YtigmkgampfbflaaGreatDoor
open Go Go.AE Go.DE Go.RowKit
theorem con_leZ {z:Bool}{P:Program}{st:AE.Stat}{f:FuncId}{F G:ConF}(h:ConOkZ z P st f G) (hl:∀ args k,F args k=some ()->G args k=some ()):ConOkZ z P st f F:=fun args k hk=>h args k (hl args k hk)
def nwQ (w h:Int):Prop:=1<=w/\w<=30/\1<=h/\h<=30
theorem nwC_ok {st:AE.Stat}(hx:Hx st) (hk:∀ a σ,st.ext 157 a σ=RL.app σ (blkX a σ.length)):ConOkZ true Tryz.prog st 18 (nwC nwQ newY):=con_leZ (ntC_ok hx hk) fun args k hk=>by
 unfold nwC at hk
 split at hk<;>first | (cases hk; done) | skip
 rename_i w h;obtain ⟨hb,hk0⟩:=bif_none hk;obtain ⟨w1,w2,h1,h2⟩:=holds_eq.1 hb
 obtain ⟨n,rfl⟩:∃ n:Nat,w=n:=⟨w.toNat,by omega⟩
 obtain ⟨m,rfl⟩:∃ n:Nat,h=n:=⟨h.toNat,by omega⟩
 refine dT w2 (cF ?_ hk0);unfold szF2
 rw [decide_eq_false (by omega),decide_eq_false (by omega),decide_eq_false (by omega),decide_eq_false (by omega)]
 rfl
def rpV:List Value->Option Value
 | [.string s,.int .i64 c]=>if 0<=c/\c<=1000/\s.size<=1000 then some (.string ⟨(Lib.repeatL s.data.toList c.toNat).toArray⟩) else none
 | _=>none
def rpF (s:ByteArray) (c:Int):ByteArray:=⟨(Lib.repeatL s.data.toList c.toNat).toArray⟩
def rpQ (s:ByteArray) (c:Int):Prop:=0<=c/\c<=1000/\s.size<=1000
theorem rpC_ok {st:AE.Stat}(hr:∀ a σ,st.ext 25 a σ=RL.app σ (toL (keepX rpV a))):ConOk Tryz.prog st 25 (rpC rpQ rpF):=by
 refine con_ext Tryz.func25 (by kernel_rfl) (by kernel_rfl) fun args k hk=>?_
 unfold rpC at hk
 split at hk<;>first | (cases hk; done) | skip
 rename_i s c;obtain ⟨hb,hk0⟩:=bif_none hk;have hq:0<=c/\c<=1000/\s.size<=1000:=holds_eq.1 hb
 refine ⟨.string (rpF s c),rfl,hk0,fun C σ vs _ ha=>?_⟩
 obtain ⟨v,ys,rfl,hv,hn⟩:=ha.cons_inv;obtain ⟨u,zs,rfl,hu,hn⟩:=hn.cons_inv;obtain rfl:=hn.nil_inv
 have dv:∀ {x y:Value},DR C noMu (.v x) y->y=x:=fun h=>by
  cases h;rfl
 obtain rfl:=dv hv;obtain rfl:=dv hu;have e:rpV [.string s,.int .i64 c]=some (.string (rpF s c)):=if_pos hq;rw [hr];unfold keepX;rw [e];rfl
theorem aw0C_ok {st:AE.Stat}(ha:∀ C σ vs,St st C noMu σ []->DRL C noMu [] vs->st.ext 13 vs σ=some (.bool true,σ)):ConOk Tryz.prog st 13 aw0C:=by
 refine con_ext Tryz.func13 (by kernel_rfl) (by kernel_rfl) fun args k hk=>?_
 unfold aw0C at hk
 split at hk<;>first | (cases hk; done) | skip
 exact ⟨.bool true,rfl,hk,ha⟩
end Go.Proofs.YtigmkgampfbflaaGreatDoor
namespace Go.Proofs.YtigmkgampfbflaaGreatDoor
open Go Go.AE Go.DE Go.RowKit
def linR (w:Nat) (s:ByteArray) (i:Nat):Row:=⟨w,fun k=>if k<i then Utf8.encode (byteAt s k) else ⟨⟨[32]⟩⟩,fun _=>1,fun _=>-1,fun _=>-1,fun _=>0⟩
theorem linR_zero (w:Nat) (s:ByteArray):linR w s 0=blkRow w:=by
 unfold linR blkRow
 congr 1
theorem put_lin (w:Nat) (s:ByteArray) (i:Nat):putR (linR w s i) i (Utf8.encode (byteAt s i)) (-1) (-1) 0=linR w s (i+1):=by
 have e1:(fun k=>if k=i then Utf8.encode (byteAt s i) else (linR w s i).tx k)=(linR w s (i+1)).tx:=by
  funext k
  show (if k=i then Utf8.encode (byteAt s i) else if k<i then Utf8.encode (byteAt s k) else ⟨⟨[32]⟩⟩)=if k<i+1 then Utf8.encode (byteAt s k) else ⟨⟨[32]⟩⟩
  by_cases h:k=i
  ·rw [if_pos h,if_pos (by omega),h]
  ·rw [if_neg h]
   by_cases h2:k<i
   ·rw [if_pos h2,if_pos (by omega)]
   ·rw [if_neg h2,if_neg (by omega)]
 have c:∀ v:Int,(fun k:Nat=>if k=i then v else v)=fun _=>v:=fun v=>by
  funext k
  split<;>rfl
 show Row.mk w (fun k=>if k=i then Utf8.encode (byteAt s i) else (linR w s i).tx k) (fun k=>if k=i then 1 else 1) (fun k=>if k=i then -1 else -1) (fun k=>if k=i then -1 else -1) (fun k=>if k=i then 0 else 0)=_
 rw [e1,c,c,c];rfl
theorem run_lin {w r:Nat}{s:ByteArray}{R:Nat->Row}(hR:R r=blkRow w):∀ i,i<w->runT w (fun i=>byteAt s i) i ⟨R,r,0,false⟩=⟨fun j=>if j=r then linR w s i else R j,r,i,false⟩
 | 0,_=>by
  have e:(fun j=>if j=r then linR w s 0 else R j)=R:=by
   funext j
   by_cases h:j=r
   ·rw [if_pos h,h,hR,linR_zero]
   ·rw [if_neg h]
  rw [e];rfl
 | i+1,hi=>by
  rw [runT,run_lin hR i (by omega)]
  have e:(fun j=>if j=r then putR ((fun j=>if j=r then linR w s i else R j) r) i (Utf8.encode (byteAt s i)) (-1) (-1) 0 else (fun j=>if j=r then linR w s i else R j) j)=fun j=>if j=r then linR w s (i+1) else R j:=by
   funext j
   by_cases h:j=r
   ·rw [if_pos h,if_pos h]
    dsimp only
    rw [if_pos rfl,put_lin]
   ·rw [if_neg h,if_neg h]
    dsimp only
    rw [if_neg h]
  show TS.mk (fun j=>if j=r then putR ((fun j=>if j=r then linR w s i else R j) r) i (Utf8.encode (byteAt s i)) (-1) (-1) 0 else (fun j=>if j=r then linR w s i else R j) j) r (if i+1=w then i else i+1) (decide (i+1=w))=_
  rw [e,if_neg (by omega),decide_eq_false (by omega)]
theorem lin_text {w:Nat}{s:ByteArray}(hp:prn s) (hs:s.size<=w):(txF (linR w s s.size)).data.toList=s.data.toList++List.replicate (w-s.size) 32:=by
 show joinU (txL (linR w s s.size) w 0)=_
 rw [join_row (g:=bt s) w 0 fun k _ hk=>?_,bt_list s hs]
 show (if k<s.size then Utf8.encode (byteAt s k) else ⟨⟨[32]⟩⟩:ByteArray).data.toList=[if k<s.size then s.data.toList.getD k 0 else 32]
 by_cases hq:k<s.size
 ·rw [if_pos hq,if_pos hq,enc_list (hp _ hq)];unfold byteAt;rw [Int.toNat_natCast];simp
 ·rw [if_neg hq,if_neg hq]
def linOf (p:Nat->ByteArray) (j:Nat):Row:=linR 20 (p j) (p j).size
structure LnOk (h i:Nat) (p:Nat->ByteArray) (y:WB):Prop where
 ok:y.ok
 qw:y.w=20
 qh:y.h=h
 qn:y.n=i-h
 qr:y.x.r=min i h-1
 qc:i=0->y.x.c=0
 qp:y.x.p=false
 qR:∀ j,j<h->y.x.R j=if i-h+j<i then linOf p (i-h+j) else blkRow 20
 qB:∀ j,j<i-h->y.B j=linOf p j
structure NlOk (h i:Nat) (p:Nat->ByteArray) (y:WB):Prop where
 ok:y.ok
 qw:y.w=20
 qh:y.h=h
 qn:y.n=i+1-h
 qr:y.x.r=min (i+1) h-1
 qc:y.x.c=0
 qp:y.x.p=false
 qR:∀ j,j<h->y.x.R j=if i+1-h+j<i then linOf p (i+1-h+j) else blkRow 20
 qB:∀ j,j<i+1-h->y.B j=linOf p j
def WB.nx (y:WB) (i:Nat):WB:=if 0<i then y.nl else y
theorem LnOk.nx {h i:Nat}{p:Nat->ByteArray}{y:WB}(k:LnOk h i p y) (h1:1<=h) (hi:i<12):NlOk h i p (y.nx i):=by
 have t:=k.ok.t;have hw:=k.qw;have hh:=k.qh;have hn:=k.qn;have hr:=k.qr
 rcases Nat.eq_zero_or_pos i with rfl | hp
 ·have e:y.nx 0=y:=if_neg (Nat.lt_irrefl 0);rw [e]
  refine ⟨k.ok,hw,hh,by omega,by omega,k.qc rfl,k.qp,fun j hj=>?_,fun j hj=>by omega⟩
  rw [k.qR j hj,if_neg (by omega),if_neg (by omega)]
 ·have e:y.nx i=y.nl:=if_pos hp;rw [e]
  by_cases hf:y.x.r+1<y.h
  ·have e2:y.nl={ y with x:=⟨y.x.R,y.x.r+1,0,false⟩ }:=if_pos hf
   rw [e2]
   refine ⟨⟨⟨t.w1,t.w2,t.h1,t.h2,t.g,hf,t.w1,fun e=>nomatch e⟩,k.ok.o,k.ok.n,k.ok.b⟩,hw,hh,?_,?_,rfl,rfl,fun j hj=>?_,fun j hj=>?_⟩
   ·show y.n=_;omega
   ·show y.x.r+1=_;omega
   ·show y.x.R j=_
    have e0:i-h=0:=by omega
    have e1:i+1-h=0:=by omega
    rw [k.qR j hj,e0,e1]
   ·omega
  ·have e2:y.nl={ y with x:=⟨scR y.x.R y.h y.w,y.x.r,0,false⟩,n:=y.n+1,B:=puR y.B y.n (y.x.R 0) }:=if_neg hf
   rw [e2];have hrw:=t.r
   have eb:i+1-h=i-h+1:=by omega
   refine ⟨⟨⟨t.w1,t.w2,t.h1,t.h2,fun j hj=>?_,t.r,t.w1,fun e=>nomatch e⟩,k.ok.o,?_,fun j hj=>?_⟩,hw,hh,?_,?_,rfl,rfl,fun j hj=>?_,fun j hj=>?_⟩
   ·show gRow y.w (if j+1<y.h then y.x.R (j+1) else blkRow y.w)
    split
    ·rename_i q;exact t.g _ q
    ·exact blk_good _
   ·show y.n+1<=12;omega
   ·show gRow y.w (if j<y.n then y.B j else y.x.R 0)
    split
    ·rename_i q;exact k.ok.b _ q
    ·exact t.g 0 t.h1
   ·show y.n+1=_;omega
   ·show y.x.r=_;omega
   ·show (if j+1<y.h then y.x.R (j+1) else blkRow y.w)=_
    by_cases q:j+1<y.h
    ·rw [if_pos q,k.qR (j+1) (by omega),eb]
     rw [show i-h+(j+1)=i-h+1+j by omega]
    ·rw [if_neg q,if_neg (by omega),hw]
   ·show (if j<y.n then y.B j else y.x.R 0)=_
    by_cases q:j<y.n
    ·rw [if_pos q,k.qB j (by omega)]
    ·rw [if_neg q,k.qR 0 (by omega),if_pos (by omega),show i-h+0=j by omega]
theorem NlOk.run {h i:Nat}{p:Nat->ByteArray}{y:WB}(k:NlOk h i p y) (m:Nat) (hm:m<20):runT y.w (fun j=>byteAt (p i) j) m y.x=⟨fun j=>if j=y.x.r then linR 20 (p i) m else y.x.R j,y.x.r,m,false⟩:=by
 have hx:y.x=⟨y.x.R,y.x.r,0,false⟩:=by
  have h1:=k.qc;have h2:=k.qp;generalize y.x=x at h1 h2;obtain ⟨R,r,c,p⟩:=x
  dsimp only at h1 h2
  rw [h1,h2]
 have hb:y.x.R y.x.r=blkRow 20:=by
  have hr:=k.ok.t.r;have:=k.qr
  rw [k.qR _ (by have:=k.qh; omega),if_neg (by have:=k.qh; omega)]
 have:=run_lin (s:=p i) (r:=y.x.r) (R:=y.x.R) hb m hm;rw [k.qw];rw [hx];exact this
theorem NlOk.fits {h i:Nat}{p:Nat->ByteArray}{y:WB}(k:NlOk h i p y) (hs:(p i).size<=19):∀ m,m<(p i).size->fits y.h (runT y.w (fun j=>byteAt (p i) j) m y.x):=fun m hm=>by
 rw [k.run m (by omega)]
 show y.x.r<y.h;exact k.ok.t.r
theorem NlOk.wr {h i:Nat}{p:Nat->ByteArray}{y:WB}(k:NlOk h i p y) (h1:1<=h) (hp:prn (p i)) (hs:(p i).size<=19):LnOk h (i+1) p (y.wr (p i)):=by
 have ok2:TSok y.w y.h (runT y.w (fun j=>byteAt (p i) j) (p i).size y.x):=k.ok.t.run (z:=fun j=>byteAt (p i) j) (n:=(p i).size) (fun j hj=>hp j hj) (k.fits hs)
 have e:=k.run (p i).size (by omega)
 have hr:=k.qr
 refine ⟨⟨ok2,k.ok.o,k.ok.n,k.ok.b⟩,k.qw,k.qh,k.qn,?_,fun h=>by omega,?_,fun j hj=>?_,fun j hj=>k.qB j hj⟩
 ·show (runT y.w (fun j=>byteAt (p i) j) (p i).size y.x).r=_
  rw [e];exact hr
 ·show (runT y.w (fun j=>byteAt (p i) j) (p i).size y.x).p=_
  rw [e]
 ·show (runT y.w (fun j=>byteAt (p i) j) (p i).size y.x).R j=_
  rw [e]
  show (if j=y.x.r then linR 20 (p i) (p i).size else y.x.R j)=_
  by_cases q:j=y.x.r
  ·have e2:i+1-h+j=i:=by omega
   rw [if_pos q,e2,if_pos (by omega)]
   rfl
  ·rw [if_neg q,k.qR j hj]
   by_cases q2:i+1-h+j<i
   ·rw [if_pos q2,if_pos (by omega)]
   ·rw [if_neg q2,if_neg (by omega)]
def finY (p:Nat->ByteArray):Nat->Nat->WB->WB
 | 0,_,y=>y
 | m+1,i,y=>finY p m (i+1) ((y.nx i).wr (p i))
theorem LnOk.fin {h:Nat}{p:Nat->ByteArray}(h1:1<=h):∀ (m i:Nat) (y:WB),LnOk h i p y->i+m<=12->(∀ j,i<=j->j<i+m->prn (p j)/\(p j).size<=19)->LnOk h (i+m) p (finY p m i y)
 | 0,_,_,k,_,_=>k
 | m+1,i,y,k,hm,hp=>by
  have:=LnOk.fin h1 m (i+1) _ ((k.nx h1 (by omega)).wr h1 (hp i (Nat.le_refl _) (by omega)).1 (hp i (Nat.le_refl _) (by omega)).2) (by omega) fun j a b=>hp j (by omega) (by omega)
  rw [show i+1+m=i+(m+1) by omega] at this
  exact this
def allR (y:WB) (j:Nat):Row:=if j<y.n then y.B j else y.x.R (j-y.n)
theorem LnOk.all {h i:Nat}{p:Nat->ByteArray}{y:WB}(k:LnOk h i p y) {j:Nat}(hj:j<i):allR y j=linOf p j:=by
 unfold allR;have hn:=k.qn
 by_cases q:j<y.n
 ·rw [if_pos q,k.qB j (by omega)]
 ·rw [if_neg q,k.qR _ (by omega),if_pos (by omega),show i-h+(j-y.n)=j by omega]
theorem LnOk.good {h i:Nat}{p:Nat->ByteArray}{y:WB}(k:LnOk h i p y) {j:Nat}(hj:j<y.n+h):gRow 20 (allR y j):=by
 unfold allR;rw [<- k.qw]
 by_cases q:j<y.n
 ·rw [if_pos q];exact k.ok.b j q
 ·rw [if_neg q]
  exact k.ok.t.g _ (by rw [k.qh]; omega)
def newB (w h:Int):WB:=⟨w.toNat,h.toNat,⟨fun _=>blkRow w.toNat,0,0,false⟩,fun _=>blkRow w.toNat,tab8,0,fun _=>blkRow 0⟩
theorem newB_ln {h:Nat}(h1:1<=h) (h2:h<=8) (p:Nat->ByteArray):LnOk h 0 p (newB 20 h) :=
 ⟨⟨⟨by show (1:Nat)<=20; decide,by show (20:Nat)<=30; decide,h1,by show h<=30; omega,fun _ _=>blk_good 20,h1,by show (0:Nat)<20; decide,fun e=>nomatch e⟩,fun _ _=>blk_good 20,Nat.zero_le _,fun j hj=>absurd hj (Nat.not_lt_zero _)⟩,rfl,rfl,(Nat.zero_sub h).symm,by show 0=min 0 h-1; omega,fun _=>rfl,rfl,fun j _=>by rw [if_neg (by omega)]; rfl,fun j hj=>by omega⟩
end Go.Proofs.YtigmkgampfbflaaGreatDoor
