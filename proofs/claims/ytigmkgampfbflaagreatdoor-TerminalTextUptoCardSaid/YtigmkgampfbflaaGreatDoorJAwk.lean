/-
 The chapter's examples (awake) hold: what the closed run leans on.
 Conditions: none beyond those of the contracts.
-/
import Derived.Test.YtigmkgampfbflaaGreatDoorJWs
import Derived.Test.YtigmkgampfbflaaGreatDoorAeMpg
import Derived.Test.YtigmkgampfbflaaGreatDoorAeFast4
import Derived.KernelRfl
import Derived.Test.YtigmkgampfbflaaGreatDoorJDec
import Derived.Shelf.Strings.Repeat
import Derived.Shelf.LaysM
import Derived.Ground.SlgnProg
import Derived.Test.YtigmkgampfbflaaGreatDoorProg
namespace Go.Proofs.YtigmkgampfbflaaGreatDoor
open Go Go.AE Go.DE Go.RowKit
theorem follows:Tryz.prog.follows .mixedOrders=true:=by kernel_rfl
theorem cellsV_succ {k:Nat}{l:List Value}{ss:List (List UInt8)}(h:cellsV (k+1) l=some ss) :
  ∃ s w x y z r l',l=.string ⟨⟨s⟩⟩ :: .int .i64 w :: .int .i64 x :: .int .i64 y :: .int .i64 z :: r∧s.length≤1000∧ss=s :: l'∧cellsV k r=some l':=by
 unfold cellsV at h
 split at h
 ·exfalso; omega
 ·rename_i k' s w x y z r he
  obtain rfl:k'=k:=by omega
  split at h<;>first | (cases h; done) | skip
  rename_i hs
  split at h<;>first | (cases h; done) | skip
  rename_i l' hl
  obtain rfl:=Option.some.inj h
  exact ⟨s,w,x,y,z,r,l',rfl,hs,rfl,hl⟩
 ·cases h
theorem cellsV_zero {l:List Value}{ss:List (List UInt8)}(h:cellsV 0 l=some ss):l=[]∧ss=[]:=by
 unfold cellsV at h
 split at h
 ·exact ⟨rfl,(Option.some.inj h).symm⟩
 ·exfalso; omega
 ·cases h
def nthB (ss:List (List UInt8)) (k:Nat):ByteArray:=⟨⟨ss.getD k []⟩⟩
theorem fnOk_text {W:World}:FnOk Tryz.prog W 24 (fun a σ=>RL.app σ (toL (tnV stN0 (hp σ) a))):=by
 intro args σ v σ' hg
 dsimp only at hg
 unfold tnV at hg
 split at hg<;>first | (cases hg; done) | skip
 rename_i a c
 split at hg<;>first | (cases hg; done) | skip
 rename_i l hl
 split at hg<;>first | (cases hg; done) | skip
 rename_i ss hc
 simp only [RL.app,toL,Option.map_some,Option.some.injEq,Prod.mk.injEq,List.foldl_nil] at hg
 obtain ⟨rfl,rfl⟩:=hg
 show _≤σ.length∧_
 refine ⟨Nat.le_refl _,fun ρ w args' hR _ hargs=>?_⟩
 obtain ⟨x',r',rfl,hx,hr⟩:=hargs.cons_inv
 obtain rfl:=hr.nil_inv
 obtain ⟨a',c',rfl,ha⟩:∃ a' c',x'=.slice (some a') 5 c'∧addrOk ρ a a':=by
  cases hx with
  | sliceX _ a' _ _ h1 h2 h3=>exact ⟨a',c,rfl,h3.resolve_left (by omega)⟩
  | sliceU _ a' _ _ cap' sz h0 h1 h2 h3=>exact ⟨a',cap',rfl,(h3.resolve_left (by omega)).1⟩
 rw [loadG_eq] at hl
 obtain ⟨l',hl1,hl2,hl3⟩:=loadN_sound (st:=stN0) (fun b i v h=>nomatch h) hR ha hl
 obtain ⟨s0,w0,x0,y0,z0,r0,t0,rfl,q0,rfl,hc0⟩:=cellsV_succ hc
 obtain ⟨s1,w1,x1,y1,z1,r1,t1,rfl,q1,rfl,hc1⟩:=cellsV_succ hc0
 obtain ⟨s2,w2,x2,y2,z2,r2,t2,rfl,q2,rfl,hc2⟩:=cellsV_succ hc1
 obtain ⟨s3,w3,x3,y3,z3,r3,t3,rfl,q3,rfl,hc3⟩:=cellsV_succ hc2
 obtain ⟨s4,w4,x4,y4,z4,r4,t4,rfl,q4,rfl,hc4⟩:=cellsV_succ hc3
 obtain ⟨rfl,rfl⟩:=cellsV_zero hc4
 obtain rfl:=flat_args rfl hl2
 have ea:a'=⟨a'.block,a'.off,none⟩:=by
  have:=ha.1
  cases a'
  simp_all
 have hadd:∀ j,a'.add j=⟨a'.block,a'.off+j,none⟩:=by
  intro j
  rw [ea]
  unfold Addr.add
  split
  ·rename_i h0; subst h0; rfl
  ·rfl
 have hcl:∀ (j:Nat) v,([.string ⟨⟨s0⟩⟩,.int .i64 w0,.int .i64 x0,.int .i64 y0,.int .i64 z0,.string ⟨⟨s1⟩⟩,.int .i64 w1,.int .i64 x1,.int .i64 y1,.int .i64 z1,.string ⟨⟨s2⟩⟩,.int .i64 w2,.int .i64 x2,.int .i64 y2,.int .i64 z2,.string ⟨⟨s3⟩⟩,.int .i64 w3,.int .i64 x3,.int .i64 y3,.int .i64 z3,.string ⟨⟨s4⟩⟩,.int .i64 w4,.int .i64 x4,.int .i64 y4,.int .i64 z4]:List Value)[j]?=some v→w.cell? ⟨a'.block,a'.off+j,none⟩=some v:=fun j v h=>by
  rw [← hadd]
  exact hl3 j v h
 rw [ea]
 have h:=text_calls a'.block a'.off c' (nthB [s0,s1,s2,s3,s4]) w0 x0 y0 z0 w1 x1 y1 z1 w2 x2 y2 z2 w3 x3 y3 z3 w4 x4 y4 z4 w (fun k hk=>by
   have:k=0∨k=1∨k=2∨k=3∨k=4:=by omega
   rcases this with rfl | rfl | rfl | rfl | rfl
   ·exact q0
   ·exact q1
   ·exact q2
   ·exact q3
   ·exact q4) (hcl 0 _ rfl) (hcl 1 _ rfl) (hcl 2 _ rfl) (hcl 3 _ rfl) (hcl 4 _ rfl) (hcl 5 _ rfl) (hcl 6 _ rfl) (hcl 7 _ rfl) (hcl 8 _ rfl) (hcl 9 _ rfl) (hcl 10 _ rfl) (hcl 11 _ rfl) (hcl 12 _ rfl) (hcl 13 _ rfl) (hcl 14 _ rfl)
   (hcl 15 _ rfl) (hcl 16 _ rfl) (hcl 17 _ rfl) (hcl 18 _ rfl) (hcl 19 _ rfl) (hcl 20 _ rfl) (hcl 21 _ rfl) (hcl 22 _ rfl) (hcl 23 _ rfl) (hcl 24 _ rfl)
 have e:upTo (nthB [s0,s1,s2,s3,s4]) 5=joinU [s0,s1,s2,s3,s4]:=by simp [upTo,nthB,joinU]
 rw [e] at h
 exact h.mono fun e w' ⟨he,hb⟩=>⟨_,he,ρ,.of_below hR hb,.string _⟩
def ext0:ExtG:=fun _ _ _ _=>none
def stE0:AE.Stat:=⟨fun _ _=>none,extOf ext0⟩
theorem ext0_ok {W:World}:CallOk Tryz.prog W stE0.ext:=fun f args σ v σ' h=>by simp [stE0,extOf,ext0,RG.app] at h
theorem okN_inv {n:Nat}(h:okN n=true):n=32∨n=88∨n=97∨n=98∨n=99∨n=100∨n=101∨n=102∨n=103:=by
 simp only [okN,Bool.or_eq_true,Bool.and_eq_true,Nat.beq_eq,Nat.ble_eq] at h
 omega
theorem cw_run {n:Nat}(h:okN n=true):answerF Tryz.prog stE0 ext0 60 8 110 [.int .i32 (.ofNat n)] (.int .i64 1)=true:=by
 rcases okN_inv h with rfl | rfl | rfl | rfl | rfl | rfl | rfl | rfl | rfl<;>kernel_rfl
theorem fnOk_cw {W:World}:FnOk Tryz.prog W 110 (flatFn cwV):=by
 refine fnOk_of ((runF_sound (n:=60) (st:=stE0) (fun b i v h=>nomatch h) ext0_ok follows 8).fn 110 (by rw [Tryz.func110]; rfl)) fun args v hg=>?_
 unfold cwV at hg
 split at hg<;>first | (cases hg; done) | skip
 rename_i n
 cases hn:okN n with
 | false=>rw [hn] at hg; cases hg
 | true =>
  rw [hn] at hg
  obtain rfl:=Option.some.inj hg
  exact ⟨rfl,rfl,answerF_run rfl (cw_run hn)⟩
theorem keep_fn {W:World}{f:FuncId}{g:List Value→Option Value}(h:FnOk Tryz.prog W f (flatFn g)):FnOk Tryz.prog W f (fun a σ=>RG.app σ (keepX g a)):=fun args σ v σ' hx=>by
 refine h args σ v σ' ?_
 obtain ⟨h1,rfl⟩:=keepX_app (g:=g) hx
 simp [flatFn,h1]
theorem toL_app {σ:Heap}:∀ {r:RG},(∀ x,r≠none→r=some x→x.2=.keep)→RL.app σ (toL r)=RG.app σ r
 | none,_=>rfl
 | some (v,e),h=>by
  have:=h (v,e) (by simp) rfl
  simp only at this
  subst this
  rfl
theorem keepX_keep {g:List Value→Option Value}{args:List Value}:∀ x,keepX g args≠none→keepX g args=some x→x.2=.keep:=by
 intro x _ h
 unfold keepX at h
 simp only [Option.map_eq_some_iff] at h
 obtain ⟨_,_,rfl⟩:=h
 rfl
theorem keep_fnL {W:World}{f:FuncId}{g:List Value→Option Value}(h:FnOk Tryz.prog W f (flatFn g)):FnOk Tryz.prog W f (fun a σ=>RL.app σ (toL (keepX g a))):=fun args σ v σ' hx=>by
 dsimp only at hx
 rw [toL_app keepX_keep] at hx
 exact keep_fn h args σ v σ' hx
def ext1:ExtG:=fun f args _ _=>match f with
 | 110=>keepX cwV args
 | _=>none
def stE1:AE.Stat:=⟨fun _ _=>none,extOf ext1⟩
theorem ext1_ok {W:World}:CallOk Tryz.prog W stE1.ext:=by
 intro f
 by_cases h1:f=110
 ·subst h1
  exact keep_fn fnOk_cw
 ·intro args σ v σ' hx
  exfalso
  have:ext1 f args (hp σ) σ.length=none:=by
   unfold ext1
   split<;>first | contradiction | rfl
  simp [stE1,extOf,RG.app,this] at hx
theorem oneS_inv {s:ByteArray}(h:oneS s=true):s=⟨#[32]⟩∨s=⟨#[88]⟩∨s=⟨#[97]⟩∨s=⟨#[98]⟩∨s=⟨#[99]⟩∨s=⟨#[100]⟩∨s=⟨#[101]⟩∨s=⟨#[102]⟩∨s=⟨#[103]⟩:=by
 unfold oneS at h
 split at h<;>first | (cases h; done) | skip
 rename_i c
 have key:∀ n:UInt8,c.toNat=n.toNat→(⟨⟨[c]⟩⟩:ByteArray)=⟨#[n]⟩:=fun n e=>by
  obtain rfl:=UInt8.toNat_inj.1 e
  rfl
 rcases okN_inv h with h | h | h | h | h | h | h | h | h
 ·exact .inl (key 32 h)
 ·exact .inr (.inl (key 88 h))
 ·exact .inr (.inr (.inl (key 97 h)))
 ·exact .inr (.inr (.inr (.inl (key 98 h))))
 ·exact .inr (.inr (.inr (.inr (.inl (key 99 h)))))
 ·exact .inr (.inr (.inr (.inr (.inr (.inl (key 100 h))))))
 ·exact .inr (.inr (.inr (.inr (.inr (.inr (.inl (key 101 h)))))))
 ·exact .inr (.inr (.inr (.inr (.inr (.inr (.inr (.inl (key 102 h))))))))
 ·exact .inr (.inr (.inr (.inr (.inr (.inr (.inr (.inr (key 103 h))))))))
theorem cc_run {s:ByteArray}(h:oneS s=true):answerF Tryz.prog stE1 ext1 60 8 72 [.string s] (.int .i64 0)=true:=by
 rcases oneS_inv h with rfl | rfl | rfl | rfl | rfl | rfl | rfl | rfl | rfl<;>kernel_rfl
theorem cd_run {s:ByteArray}(h:oneS s=true):answerF Tryz.prog stE1 ext1 60 8 73 [.string s] (.int .i64 1)=true:=by
 rcases oneS_inv h with rfl | rfl | rfl | rfl | rfl | rfl | rfl | rfl | rfl<;>kernel_rfl
theorem uv_run:answerF Tryz.prog stE1 ext1 60 8 30 [.string ⟨⟨[]⟩⟩] (.bool true)=true:=by kernel_rfl
theorem fnOk_cc {W:World}:FnOk Tryz.prog W 72 (flatFn ccV):=by
 refine fnOk_of ((runF_sound (n:=60) (st:=stE1) (fun b i v h=>nomatch h) ext1_ok follows 8).fn 72 (by rw [Tryz.func72]; rfl)) fun args v hg=>?_
 unfold ccV at hg
 split at hg<;>first | (cases hg; done) | skip
 rename_i s
 cases ho:oneS s with
 | false=>rw [ho] at hg; cases hg
 | true =>
  rw [ho] at hg
  obtain rfl:=Option.some.inj hg
  exact ⟨rfl,rfl,answerF_run rfl (cc_run ho)⟩
theorem fnOk_cd {W:World}:FnOk Tryz.prog W 73 (flatFn cdV):=by
 refine fnOk_of ((runF_sound (n:=60) (st:=stE1) (fun b i v h=>nomatch h) ext1_ok follows 8).fn 73 (by rw [Tryz.func73]; rfl)) fun args v hg=>?_
 unfold cdV at hg
 split at hg<;>first | (cases hg; done) | skip
 rename_i s
 cases ho:oneS s with
 | false=>rw [ho] at hg; cases hg
 | true =>
  rw [ho] at hg
  obtain rfl:=Option.some.inj hg
  exact ⟨rfl,rfl,answerF_run rfl (cd_run ho)⟩
theorem fnOk_uv {W:World}:FnOk Tryz.prog W 30 (flatFn uvV):=by
 refine fnOk_of ((runF_sound (n:=60) (st:=stE1) (fun b i v h=>nomatch h) ext1_ok follows 8).fn 30 (by rw [Tryz.func30]; rfl)) fun args v hg=>?_
 unfold uvV at hg
 split at hg<;>first | (cases hg; done) | skip
 obtain rfl:=Option.some.inj hg
 exact ⟨rfl,rfl,answerF_run rfl uv_run⟩
theorem extA_ok {W:World}:CallOk Tryz.prog W stA.ext:=by
 intro f
 by_cases h1:f=110
 ·subst h1; exact keep_fnL fnOk_cw
 by_cases h2:f=72
 ·subst h2; exact keep_fnL fnOk_cc
 by_cases h3:f=73
 ·subst h3; exact keep_fnL fnOk_cd
 by_cases h4:f=30
 ·subst h4; exact keep_fnL fnOk_uv
 by_cases h5:f=24
 ·subst h5; exact fnOk_text
 by_cases h6:f=145
 ·subst h6; exact eff_ok W
 ·intro args σ v σ' hx
  exfalso
  have:extA f args (hp σ) σ.length=none:=by
   unfold extA
   split<;>first | contradiction | rfl
  simp [stA,extOfL,RL.app,this] at hx
def awV:List Value→Option Value
 | []=>some (.bool true)
 | _=>none
theorem awake_ok {W:World}(hst:GoodSt W stA):FnOk Tryz.prog W 13 (flatFn awV):=by
 refine fnOk_of (Deep.ok (D:=dAw) (st:=stA) (x:=extA) awake_run rfl hst extA_ok follows (by show (Tryz.prog.funcs[13]?).isSome=true; rw [Tryz.func13]; rfl)) fun args v hg=>?_
 unfold awV at hg
 split at hg<;>first | (cases hg; done) | skip
 obtain rfl:=Option.some.inj hg
 exact ⟨rfl,rfl,[],by kernel_rfl⟩
end Go.Proofs.YtigmkgampfbflaaGreatDoor
namespace Go.Proofs.YtigmkgampfbflaaGreatDoor
open Go Go.AE Go.DE Go.RowKit
theorem cellsV_at:∀ {n:Nat}{l:List Value}{ss:List (List UInt8)},cellsV n l=some ss→ss.length=n∧l.all flat=true∧l.length=n*5 ∧
  ∀ k,k<n→∃ w x y z:Int,(ss.getD k []).length≤1000∧l[k*5]?=some (.string ⟨⟨ss.getD k []⟩⟩)∧l[k*5+1]?=some (.int .i64 w)∧l[k*5+2]?=some (.int .i64 x)∧l[k*5+3]?=some (.int .i64 y)∧l[k*5+4]?=some (.int .i64 z)
 | 0,l,ss,h=>by
  obtain ⟨rfl,rfl⟩:=cellsV_zero h
  exact ⟨rfl,rfl,rfl,fun k hk=>absurd hk (Nat.not_lt_zero _)⟩
 | n+1,l,ss,h=>by
  obtain ⟨s,w,x,y,z,r,t,rfl,hs,rfl,hr⟩:=cellsV_succ h
  obtain ⟨h1,h2,h3,h4⟩:=cellsV_at hr
  refine ⟨by simp [h1],?_,by simp only [List.length_cons,h3]; omega,fun k hk=>?_⟩
  ·simp only [List.all_cons,h2,Bool.and_true]
   rfl
  ·cases k with
   | zero=>exact ⟨w,x,y,z,hs,rfl,rfl,rfl,rfl,rfl⟩
   | succ k =>
    obtain ⟨w',x',y',z',q0,q1,q2,q3,q4,q5⟩:=h4 k (by omega)
    refine ⟨w',x',y',z',q0,?_,?_,?_,?_,?_⟩
    ·rw [show (k+1)*5=k*5+5 by omega]; exact q1
    ·rw [show (k+1)*5+1=k*5+1+5 by omega]; exact q2
    ·rw [show (k+1)*5+2=k*5+2+5 by omega]; exact q3
    ·rw [show (k+1)*5+3=k*5+3+5 by omega]; exact q4
    ·rw [show (k+1)*5+4=k*5+4+5 by omega]; exact q5
theorem upTo_join:∀ (ss:List (List UInt8)) (k:Nat),k≤ss.length→upTo (nthB ss) k++joinU (ss.drop k)=joinU ss
 | ss,0,_=>rfl
 | ss,k+1,h=>by
  have e:ss.drop k=ss.getD k [] :: ss.drop (k+1):=by
   rw [List.drop_eq_getElem_cons (by omega),List.getD_eq_getElem?_getD,List.getElem?_eq_getElem (by omega)]
   rfl
  have h1:=upTo_join ss k (by omega)
  rw [e] at h1
  rw [← h1]
  show (upTo (nthB ss) k++ss.getD k [])++joinU (ss.drop (k+1))=upTo (nthB ss) k++(ss.getD k []++joinU (ss.drop (k+1)))
  rw [List.append_assoc]
def tnX (st:AE.Stat) (g:HF):List Value→RG
 | [.slice (some a) n _]=>if 0<n∧n≤1000 then (match loadG st g a (n*5) with
  | some l=>(match cellsV n l with
   | some ss=>some (.string ⟨⟨joinU ss⟩⟩,.keep)
   | none=>none)
  | none=>none) else none
 | _=>none
theorem fnOk_textN {W:World}{st:AE.Stat}(hst:GoodSt W st):FnOk Tryz.prog W 24 (fun a σ=>RL.app σ (toL (tnX st (hp σ) a))):=by
 intro args σ v σ' hg
 dsimp only at hg
 unfold tnX at hg
 split at hg<;>first | (cases hg; done) | skip
 rename_i a n c
 split at hg<;>first | (cases hg; done) | skip
 rename_i hn
 split at hg<;>first | (cases hg; done) | skip
 rename_i l hl
 split at hg<;>first | (cases hg; done) | skip
 rename_i ss hc
 simp only [RL.app,toL,Option.map_some,Option.some.injEq,Prod.mk.injEq,List.foldl_nil] at hg
 obtain ⟨rfl,rfl⟩:=hg
 show _≤σ.length∧_
 refine ⟨Nat.le_refl _,fun ρ w args' hR _ hargs=>?_⟩
 obtain ⟨x',r',rfl,hx,hr⟩:=hargs.cons_inv
 obtain rfl:=hr.nil_inv
 obtain ⟨a',c',rfl,ha⟩:∃ a' c',x'=.slice (some a') n c'∧addrOk ρ a a':=by
  cases hx with
  | sliceX _ a' _ _ h1 h2 h3=>exact ⟨a',c,rfl,h3.resolve_left (by omega)⟩
  | sliceU _ a' _ _ cap' sz h0 h1 h2 h3=>exact ⟨a',cap',rfl,(h3.resolve_left (by omega)).1⟩
 rw [loadG_eq] at hl
 obtain ⟨l',hl1,hl2,hl3⟩:=loadN_sound (st:=st) hst hR ha hl
 obtain ⟨c1,c2,c3,c4⟩:=cellsV_at hc
 have el:=flat_args c2 hl2
 rw [el] at hl3
 have ea:a'=⟨a'.block,a'.off,none⟩:=by
  have:=ha.1
  cases a'
  simp_all
 have hadd:∀ j,a'.add j=⟨a'.block,a'.off+j,none⟩:=by
  intro j
  rw [ea]
  unfold Addr.add
  split
  ·rename_i h0; subst h0; rfl
  ·rfl
 have hcl:∀ (j:Nat) v,l[j]?=some v→w.cell? ⟨a'.block,a'.off+j,none⟩=some v:=fun j v h=>by
  rw [← hadd]
  exact hl3 j v h
 rw [ea]
 obtain ⟨W1,hW1⟩:∃ f:Nat→Int,∀ k,k<n→l[k*5+1]?=some (.int .i64 (f k)):=⟨fun k=>if h:k<n then (c4 k h).choose else 0,fun k hk=>by
  simp only [hk,dif_pos]
  exact ((c4 k hk).choose_spec.choose_spec.choose_spec.choose_spec).2.2.1⟩
 obtain ⟨W2,hW2⟩:∃ f:Nat→Int,∀ k,k<n→l[k*5+2]?=some (.int .i64 (f k)):=⟨fun k=>if h:k<n then (c4 k h).choose_spec.choose else 0,fun k hk=>by
  simp only [hk,dif_pos]
  exact ((c4 k hk).choose_spec.choose_spec.choose_spec.choose_spec).2.2.2.1⟩
 obtain ⟨W3,hW3⟩:∃ f:Nat→Int,∀ k,k<n→l[k*5+3]?=some (.int .i64 (f k)):=⟨fun k=>if h:k<n then (c4 k h).choose_spec.choose_spec.choose else 0,fun k hk=>by
  simp only [hk,dif_pos]
  exact ((c4 k hk).choose_spec.choose_spec.choose_spec.choose_spec).2.2.2.2.1⟩
 obtain ⟨W4,hW4⟩:∃ f:Nat→Int,∀ k,k<n→l[k*5+4]?=some (.int .i64 (f k)):=⟨fun k=>if h:k<n then (c4 k h).choose_spec.choose_spec.choose_spec.choose else 0,fun k hk=>by
  simp only [hk,dif_pos]
  exact ((c4 k hk).choose_spec.choose_spec.choose_spec.choose_spec).2.2.2.2.2⟩
 have h:=text_row a'.block a'.off c' n (nthB ss) W1 W2 W3 W4 w hn.2 hn.1 (fun k hk=>by
   obtain ⟨_,_,_,_,q,_⟩:=c4 k hk
   exact q) fun k hk=>by
   obtain ⟨_,_,_,_,_,q,_⟩:=c4 k hk
   refine ⟨hcl _ _ q,?_,?_,?_,?_⟩
   ·rw [Nat.add_assoc]; exact hcl _ _ (hW1 k hk)
   ·rw [Nat.add_assoc]; exact hcl _ _ (hW2 k hk)
   ·rw [Nat.add_assoc]; exact hcl _ _ (hW3 k hk)
   ·rw [Nat.add_assoc]; exact hcl _ _ (hW4 k hk)
 have e:upTo (nthB ss) n=joinU ss:=by
  have:=upTo_join ss n (by omega)
  rw [← c1,List.drop_length] at this
  rw [← c1,← this]
  simp [joinU]
 rw [e] at h
 exact h.mono fun e w' ⟨he,hb⟩=>⟨_,he,ρ,.of_below hR hb,.string _⟩
def txL (r:Row):Nat→Nat→List (List UInt8)
 | 0,_=>[]
 | m+1,i=>(r.tx i).data.toList :: txL r m (i+1)
def rowL (r:Row):Nat→Nat→List Value
 | 0,_=>[]
 | m+1,i=>.string (r.tx i) :: .int .i64 (r.wd i) :: .int .i64 (r.fo i) :: .int .i64 (r.ba i) :: .int .i64 (r.fl i) :: rowL r m (i+1)
theorem rowL_len (r:Row):∀ m i,(rowL r m i).length=m*5
 | 0,_=>rfl
 | m+1,i=>by simp only [rowL,List.length_cons,rowL_len r m (i+1)]; omega
theorem rowL_cells (r:Row):∀ m i,(∀ j,i≤j→j<i+m→(r.tx j).size≤1000)→cellsV m (rowL r m i)=some (txL r m i)
 | 0,_,_=>rfl
 | m+1,i,h=>by
  have h0:=h i (Nat.le_refl _) (by omega)
  have ih:=rowL_cells r m (i+1) fun j h1 h2=>h j (by omega) (by omega)
  rw [rowL,txL]
  cases e:r.tx i with
  | mk d =>
   cases d with
   | mk s =>
    rw [e] at h0
    have h0:s.length≤1000:=h0
    rw [cellsV]
    simp only [h0,if_true,ih]
theorem rowL_at (r:Row):∀ m i j,j<m→∀ f,f<5→(rowL r m i)[j*5+f]?=some (match f with | 0=>.string (r.tx (i+j)) | 1=>.int .i64 (r.wd (i+j)) | 2=>.int .i64 (r.fo (i+j)) | 3=>.int .i64 (r.ba (i+j)) | _=>.int .i64 (r.fl (i+j)))
 | 0,_,j,h,_,_=>absurd h (Nat.not_lt_zero _)
 | m+1,i,0,_,f,hf=>by
  match f,hf with
  | 0,_=>rfl
  | 1,_=>rfl
  | 2,_=>rfl
  | 3,_=>rfl
  | 4,_=>rfl
 | m+1,i,j+1,h,f,hf=>by
  have ih:=rowL_at r m (i+1) j (by omega) f hf
  rw [show i+1+j=i+(j+1) by omega] at ih
  rw [show (j+1)*5+f=j*5+f+5 by omega]
  exact ih
def txF (r:Row):ByteArray:=⟨⟨joinU (txL r r.n 0)⟩⟩
def txQ (g:Nat→Nat→DV) (n:Nat):Prop:=cellsOk g n∧0<n∧n≤1000∧∀ i,i<n→(strD (g i 0)).size≤1000
noncomputable def txC (Q:(Nat→Nat→DV)→Nat→Prop) (F:Row→ByteArray):ConF:=fun args k=>match args with
 | [.sl _ g 5 n]=>bif holds (Q g n) then k (fun _=>(sv (F (rowOf g n)),[])) else none
 | _=>none
theorem txC_ok {st:AE.Stat}(ht:∀ a σ,st.ext 24 a σ=RL.app σ (toL (tnX st (hp σ) a))):ConOk Tryz.prog st 24 (txC txQ txF):=by
 refine con_ext Tryz.func24 (by kernel_rfl) (by kernel_rfl) fun args k hk=>?_
 unfold txC at hk
 split at hk<;>first | (cases hk; done) | skip
 rename_i t g n
 obtain ⟨hb,hk0⟩:=bif_none hk
 clear hk
 obtain ⟨hg,hp0,hn,hs⟩:=holds_eq.1 hb
 refine ⟨.string (txF (rowOf g n)),rfl,hk0,fun C σ vs hS ha=>?_⟩
 obtain ⟨v,ys,rfl,hv,hn0⟩:=ha.cons_inv
 obtain rfl:=hn0.nil_inv
 rcases hv.sl_inv with ⟨a,cap,w,rfl,hc,hk5,q1,q2⟩ | ⟨rfl,-⟩
 ·have hl:loadN st σ a (n*5)=some (rowL (rowOf g n) n 0):=by
   refine loadN_intro (by omega) (rowL_len _ _ _) fun j x hx=>?_
   have hj:j<n*5:=by
    have:=(List.getElem?_eq_some_iff.1 hx).1
    rw [rowL_len] at this
    exact this
   have hd:j=j / 5*5+j % 5:=by omega
   have hi:j / 5<n:=by omega
   have hf:j % 5<5:=Nat.mod_lt _ (by decide)
   have e:=rowL_at (rowOf g n) n 0 (j / 5) hi (j % 5) hf
   rw [← hd,hx] at e
   have e:=Option.some.inj e
   have c1:=hS.frz _ _ _ _ _ (q1 (j / 5) (j % 5) hi hf).1
   have c2:=q2 (j / 5) (j % 5) hi hf
   rw [show a.off+j / 5*5+j % 5=a.off+j by omega] at c1
   rw [Nat.zero_add] at e
   have key:w (j / 5) (j % 5)=x:=by
    rw [e]
    obtain ⟨g0,_,g1,g2,g3,g4⟩:=hg.2 _ hi
    have dv:∀ {x y:Value},DR C noMu (.v x) y→y=x:=fun h=>by
     cases h
     rfl
    generalize j % 5=f at c2 hf
    match f,hf with
    | 0,_=>rw [g0] at c2; exact dv c2
    | 1,_=>rw [g1] at c2; exact dv c2
    | 2,_=>rw [g2] at c2; exact dv c2
    | 3,_=>rw [g3] at c2; exact dv c2
    | 4,_=>rw [g4] at c2; exact dv c2
   rw [key] at c1
   exact c1
  rw [ht]
  unfold tnX
  dsimp only
  rw [if_pos ⟨hp0,hn⟩,loadG_eq,hl]
  dsimp only
  rw [rowL_cells _ _ _ fun j _ h=>hs j (by omega)]
  rfl
 ·exact absurd hp0 (Nat.lt_irrefl _)
end Go.Proofs.YtigmkgampfbflaaGreatDoor
namespace Go.Proofs.YtigmkgampfbflaaGreatDoor
open Go Go.AE Go.DE Go.RowKit
def pnB (v:Int):List Int:=if 32≤v∧v<127 then [v] else []
def pnR (s:ByteArray):Nat→Nat→List Int→List Int
 | 0,_,b=>b
 | m+1,i,b=>pnR s m (i+1) (b++pnB (byteAt s i))
structure PRX where
 s:ByteArray
 i:Nat
 b:List Int
def PRX.r (x:PRX):List Int:=pnR x.s (x.s.size-x.i) x.i x.b
def pnI:LInv PRX where
 pre x:=x.i≤x.s.size∧x.s.size≤9000000∧x.b.length≤x.i
 m:=1
 n:=30
 ps:=[0,3,7,8]
 sd x:=[sv x.s,.os 1 0 x.b.length,iv x.s.size,iv x.i]
 sh x:=[none,some (lstB .u8 x.b)]
 meas x:=x.s.size-x.i
 e _:=.exit 0
 qs:=[3]
 od x:=[.os 1 0 x.r.length]
 oh x:=[none,some (lstB .u8 x.r)]
 guess ds _:=match ds with
  | [.v (.string s),_,_,_]=>some ⟨s,0,[]⟩
  | _=>none
 cps x k:=k (.exit 0) [.os 1 0 x.r.length] [none,some (lstB .u8 x.r)]
theorem pn_loop (s:ByteArray) (n i nb:Nat) (wb:Nat→Int) (K:Ex→Nat→List DV→List DV→DHeap→Option Unit):execD Tryz.prog (env [] noLp 0) (loopAt Tryz.f23 58) 500 (temps 30 [0,3,7,8] [sv s,.os 1 0 nb,iv n,iv i]) [none,some ⟨1,.tab nb (rowI .u8 wb)⟩] (fun e τ σ=>K e τ.length (pick [0,3,7,8] τ) (pick [3] τ) σ) =
  bif decide ((i:Int)<(n:Int)) then bif decide ((i:Int)<(↑(ByteArray.size s):Int)) then bif decide (byteAt s (Int.toNat (i:Int)) ≥ 32) then bif decide ((i:Int)<(↑(ByteArray.size s):Int))
  then bif decide (byteAt s (Int.toNat (i:Int))<127) then bif decide ((i:Int)<(↑(ByteArray.size s):Int)) then bif decide (nb≤DC.n (.tab nb (rowI IntKind.u8 wb))) then bif decide ((nb+1)*(1:Nat)≤140737488355328)
  then K .normal 30 [sv s,.os 3 0 (nb+1),iv (n:Int),iv (IntKind.wrap .i64 ((i:Int)+1))] [.os 3 0 (nb+1)] [none,none,some ⟨1,.lst [[kv .u8 ((byteAt s (Int.toNat (i:Int))))]]⟩,some ⟨1,.app (.pre (.tab nb fun a _=>kv .u8 ((wb a))) nb) (.lst [[kv .u8 ((byteAt s (Int.toNat (i:Int))))]])⟩]
  else none else none else none else K .normal 30 [sv s,.os 1 0 nb,iv (n:Int),iv (IntKind.wrap .i64 ((i:Int)+1))] [.os 1 0 nb] [none,some ⟨1,.tab nb fun a _=>kv .u8 ((wb a))⟩] else none
  else K .normal 30 [sv s,.os 1 0 nb,iv (n:Int),iv (IntKind.wrap .i64 ((i:Int)+1))] [.os 1 0 nb] [none,some ⟨1,.tab nb fun a _=>kv .u8 ((wb a))⟩] else none else K (.exit 0) 30 [sv s,.os 1 0 nb,iv (n:Int),iv (i:Int)] [.os 1 0 nb] [none,some ⟨1,.tab nb fun a _=>kv .u8 ((wb a))⟩]:=by
 kernel_rfl
theorem prn_tree (s:ByteArray) (k:DV→Option Unit):bodyD Tryz.prog (env [] (lpOf [(58,pnI.g)]) 0) Tryz.f23 [sv s] [] (fun d _=>k d) =
  bif holds ((Nat.le 0 (ByteArray.size s)∧Nat.le (ByteArray.size s) 9000000∧Nat.le 0 0)∧∃ ids,WkP 1 ids [sv s,.os 0 0 0,iv (↑(ByteArray.size s):Int),iv 0] [some ⟨1,.lst []⟩] [sv s,.os 1 0 0,iv (↑(ByteArray.size s):Int),iv 0] [none,some ⟨1,.tab 0 fun a _=>kv .u8 ((lw [] a))⟩])
  then bif decide (0+List.length (PRX.r { s:=s,i:=0,b:=[] })≤DC.n (DBlk.c (lstB IntKind.u8 (PRX.r { s:=s,i:=0,b:=[] })))) then bif intsD IntKind.u8 (List.length (PRX.r { s:=s,i:=0,b:=[] })) (subC (DBlk.c (lstB IntKind.u8 (PRX.r { s:=s,i:=0,b:=[] }))) 0 (List.length (PRX.r { s:=s,i:=0,b:=[] })))
  then k (sv (bytesS (List.length (PRX.r { s:=s,i:=0,b:=[] })) fun j=>numD (kv .u8 ((lw (PRX.r { s:=s,i:=0,b:=[] }) (0+j)))))) else none else none else none:=by
 kernel_rfl
theorem pn_ls {st:AE.Stat}:LoopS Tryz.prog st gl0 (.loop (loopAt Tryz.f23 58)) pnI.g:=by
 refine pnI.ok (E:=env [] noLp 0) (p:=500) (tblD_env (l:=[]) (fun _ h=>nomatch h)) (glOk st).1 (fun _ _ _ h=>nomatch h) (fun x k h=>h) fun x hx=>?_
 obtain ⟨s,i,b⟩:=x
 obtain ⟨h1,h2,h3⟩:i≤s.size∧s.size≤9000000∧b.length≤i:=hx
 refine (pn_loop s s.size i b.length (lw b) _).trans ?_
 simp only [Int.toNat_natCast,Nat.add_zero]
 refine dS (fun hlt=>?_) fun hge=>?_
 ·have hlt:i<s.size:=by omega
  have hW:IntKind.i64.wrap ((i:Int)+1)=((i+1:Nat):Int):=by rw [W_in (by omega) (by omega)]; omega
  rw [hW]
  have hn:b.length≤DC.n (DC.tab b.length (rowI IntKind.u8 (lw b))):=Nat.le_refl _
  have hr:∀ M,pnB (byteAt s i)=M→PRX.r ⟨s,i+1,b++M⟩=PRX.r ⟨s,i,b⟩:=fun M hM=>by
   have:s.size-i=(s.size-(i+1))+1:=by omega
   simp only [PRX.r,this,pnR,hM]
  have skip:pnB (byteAt s i)=[]→pnI.ask ⟨s,i,b⟩ .normal 30 [sv s,.os 1 0 b.length,iv s.size,iv ((i+1:Nat):Int)] [.os 1 0 b.length] [none,some ⟨1,.tab b.length (rowI .u8 (lw b))⟩]=some ():=fun hM=>by
   have hr:=hr [] hM
   rw [List.append_nil] at hr
   refine LInv.ask_of ⟨rfl,⟨s,i+1,b⟩,⟨rfl,by simp only [pnI,hr],by simp only [pnI,hr],⟨hlt,h2,Nat.le_succ_of_le h3⟩⟩,?_,[1],?_⟩
   ·simp only [pnI]; omega
   ·exact .of (im:=[some 1]) (.cons (.v _) (.cons (.os rfl) (.cons (.v _) (.cons (.v _) .nil)))) rfl ⟨⟨1,_,rfl,rfl,HasL.tab.sub⟩,trivial⟩ rfl (by decide)
  refine dT (by omega) (dS (fun a1=>dT (by omega) (dS (fun a2=>?_) fun a2=>?_)) fun a1=>?_)
  ·have hM:pnB (byteAt s i)=[byteAt s i]:=if_pos ⟨a1,a2⟩
   have hr:=hr _ hM
   refine dT (by omega) (dT hn (dT (by omega) (LInv.ask_of ⟨rfl,⟨s,i+1,b++[byteAt s i]⟩,⟨rfl,by simp only [pnI,hr],by simp only [pnI,hr],⟨hlt,h2,?_⟩⟩,?_,[3],?_⟩)))
   ·simp only [List.length_append,List.length_singleton]; omega
   ·simp only [pnI]; omega
   ·show WkP 1 [3] _ _ [sv s,.os 1 0 (b++[byteAt s i]).length,iv s.size,iv ((i+1:Nat):Int)] [none,some (lstB .u8 (b++[byteAt s i]))]
    rw [List.length_append]
    exact .of (im:=[some 3]) (.cons (.v _) (.cons (.os rfl) (.cons (.v _) (.cons (.v _) .nil)))) rfl ⟨⟨3,_,rfl,rfl,(HasL.app rfl .tab (.lst [byteAt s i])).sub⟩,trivial⟩ rfl (by decide)
  ·exact skip (if_neg fun h=>a2 h.2)
  ·exact skip (if_neg fun h=>a1 h.1)
 ·obtain rfl:i=s.size:=by omega
  have hr:PRX.r ⟨s,s.size,b⟩=b:=by simp only [PRX.r,Nat.sub_self,pnR]
  refine LInv.ask_of ⟨rfl,rfl,[1],?_⟩
  simp only [pnI,hr]
  exact .of (im:=[some 1]) (.cons (.os rfl) .nil) rfl ⟨⟨1,_,rfl,rfl,HasL.tab.sub⟩,trivial⟩ rfl (by decide)
def pnL (s:ByteArray):List Int:=pnR s s.size 0 []
def pnF (s:ByteArray):ByteArray:=bytesS (pnL s).length (lw (pnL s))
noncomputable def pnC (F:ByteArray→ByteArray):ConF:=fun args k=>match args with
 | [.v (.string s)]=>bif decide (s.size≤9000000) then k (fun _=>(sv (F s),[])) else none
 | _=>none
theorem pnC_ok {st:AE.Stat}(hx:Hx st):ConOk Tryz.prog st 23 (pnC pnF):=by
 refine con_flat (mg:=[]) (l:=[]) (lp:=lpOf [(58,pnI.g)]) (n:=0) (glOk st) (fun _ h=>nomatch h) Tryz.func23 (by kernel_rfl) (by kernel_rfl) (hx 23 rfl) (lp_one (by kernel_rfl) pn_ls) fun args k hk=>?_
 unfold pnC at hk
 split at hk<;>first | (cases hk; done) | skip
 rename_i s
 obtain ⟨hn,hk⟩:=dec_none hk
 refine ⟨[sv s],_,.self .nil,v_clo _,hk,(prn_tree s _).trans (hT ⟨⟨Nat.zero_le _,hn,Nat.le_refl _⟩,[0],?_⟩ (dT ?_ (cT ?_ (isD_of ?_))))⟩
 ·exact .of (im:=[some 0]) (.cons (.v _) (.cons (.os rfl) (.cons (.v _) (.cons (.v _) .nil)))) rfl ⟨⟨0,_,rfl,rfl,(HasL.nil (q:=.u8) (c:=.lst []) trivial).sub⟩,trivial⟩ rfl (by decide)
 ·rw [Nat.zero_add]
  exact Nat.le_refl _
 ·refine intsD_iff.2 fun j hj=>?_
  rw [subC_get hj,Nat.zero_add]
  rfl
 ·simp only [Nat.zero_add]
  rfl
theorem pnR_all (s:ByteArray):∀ (m i:Nat) (b:List Int),(∀ c∈b,32≤c∧c<127)→∀ c∈pnR s m i b,32≤c∧c<127
 | 0,_,_,h=>h
 | m+1,i,b,h=>pnR_all s m (i+1) _ fun c hc=>by
  rcases List.mem_append.1 hc with hc | hc
  ·exact h c hc
  ·unfold pnB at hc
   split at hc
   ·rename_i hr
    obtain rfl:=List.mem_singleton.1 hc
    exact hr
   ·cases hc
theorem pnR_len (s:ByteArray):∀ (m i:Nat) (b:List Int),(pnR s m i b).length≤b.length+m
 | 0,_,_=>Nat.le_refl _
 | m+1,i,b=>by
  rw [pnR]
  refine Nat.le_trans (pnR_len s m (i+1) _) ?_
  have:(pnB (byteAt s i)).length≤1:=by
   unfold pnB
   split<;>simp
  rw [List.length_append]
  omega
theorem pnL_all (s:ByteArray):∀ c∈pnL s,32≤c∧c<127:=pnR_all s _ _ _ fun _ h=>nomatch h
theorem pnL_len (s:ByteArray):(pnL s).length≤s.size:=by
 exact Nat.le_trans (pnR_len s s.size 0 []) (Nat.le_of_eq (Nat.zero_add _))
end Go.Proofs.YtigmkgampfbflaaGreatDoor
namespace Go.Proofs
open Go.Shelf
def Tryz.lays105_ren:Go.Shelf.Ren:=⟨fun | 105=>25 | 212=>63 | 99=>64 | 165=>65 | 166=>61 | 170=>66 | 169=>62 | 263=>104 | 264=>105 | 206=>106 | 240=>103 | 241=>107 | 276=>161 | 277=>162 | n=>n,fun | 9=>9 | 3=>3 | 4=>4 | 20=>20 | 0=>0 | 46=>109 | 109=>110 | 5=>5 | 72=>101 | 76=>106 | 51=>150 | 146=>151 | 53=>153 | 148=>154 | 70=>99 | 37=>82 | 75=>105 | 127=>149 | 164=>197 | 80=>108 | n=>n,fun | n=>n⟩
theorem Tryz.lays105:Go.Proofs.Lays.n105 Tryz.prog Tryz.lays105_ren:={
 mixed:=by kernel_rfl
 f99:=Tryz.func64.trans (congrArg some (by kernel_rfl))
 f105:=Tryz.func25.trans (congrArg some (by kernel_rfl))
 f165:=Tryz.func65.trans (congrArg some (by kernel_rfl))
 f166:=Tryz.func61.trans (congrArg some (by kernel_rfl))
 f169:=Tryz.func62.trans (congrArg some (by kernel_rfl))
 f170:=Tryz.func66.trans (congrArg some (by kernel_rfl))
 f206:=Tryz.func106.trans (congrArg some (by kernel_rfl))
 f212:=Tryz.func63.trans (congrArg some (by kernel_rfl))
 f240:=Tryz.func103.trans (congrArg some (by kernel_rfl))
 f241:=Tryz.func107.trans (congrArg some (by kernel_rfl))
 f263:=Tryz.func104.trans (congrArg some (by kernel_rfl))
 f264:=Tryz.func105.trans (congrArg some (by kernel_rfl))
 f276:=Tryz.func161.trans (congrArg some (by kernel_rfl))
 f277:=Tryz.func162.trans (congrArg some (by kernel_rfl))
 t0:=Tryz.underlying0
 a0:=Tryz.isAgg0
 z0:=Tryz.sizeOf0
 v0:=Tryz.zeroValue0
 t3:=Tryz.underlying3
 a3:=Tryz.isAgg3
 z3:=Tryz.sizeOf3
 v3:=Tryz.zeroValue3
 t4:=Tryz.underlying4
 a4:=Tryz.isAgg4
 z4:=Tryz.sizeOf4
 v4:=Tryz.zeroValue4
 t5:=Tryz.underlying5
 a5:=Tryz.isAgg5
 z5:=Tryz.sizeOf5
 v5:=Tryz.zeroValue5
 t9:=Tryz.underlying9
 a9:=Tryz.isAgg9
 z9:=Tryz.sizeOf9
 v9:=Tryz.zeroValue9
 t20:=Tryz.underlying20
 a20:=Tryz.isAgg20
 z20:=Tryz.sizeOf20
 v20:=Tryz.zeroValue20
 t37:=Tryz.underlying82
 a37:=Tryz.isAgg82
 z37:=Tryz.sizeOf82
 v37:=Tryz.zeroValue82
 t46:=Tryz.underlying109
 a46:=Tryz.isAgg109
 z46:=Tryz.sizeOf109
 v46:=Tryz.zeroValue109
 t51:=Tryz.underlying150
 a51:=Tryz.isAgg150
 z51:=Tryz.sizeOf150
 v51:=Tryz.zeroValue150
 t53:=Tryz.underlying153
 a53:=Tryz.isAgg153
 z53:=Tryz.sizeOf153
 v53:=Tryz.zeroValue153
 t70:=Tryz.underlying99
 a70:=Tryz.isAgg99
 z70:=Tryz.sizeOf99
 v70:=Tryz.zeroValue99
 t72:=Tryz.underlying101
 a72:=Tryz.isAgg101
 z72:=Tryz.sizeOf101
 v72:=Tryz.zeroValue101
 t75:=Tryz.underlying105
 a75:=Tryz.isAgg105
 z75:=Tryz.sizeOf105
 v75:=Tryz.zeroValue105
 t76:=Tryz.underlying106
 a76:=Tryz.isAgg106
 z76:=Tryz.sizeOf106
 v76:=Tryz.zeroValue106
 t109:=Tryz.underlying110
 a109:=Tryz.isAgg110
 z109:=Tryz.sizeOf110
 v109:=Tryz.zeroValue110
 t127:=Tryz.underlying149
 a127:=Tryz.isAgg149
 z127:=Tryz.sizeOf149
 v127:=Tryz.zeroValue149
 t146:=Tryz.underlying151
 a146:=Tryz.isAgg151
 z146:=Tryz.sizeOf151
 v146:=Tryz.zeroValue151
 t148:=Tryz.underlying154
 a148:=Tryz.isAgg154
 z148:=Tryz.sizeOf154
 v148:=Tryz.zeroValue154
 t164:=Tryz.underlying197
 a164:=Tryz.isAgg197
 z164:=Tryz.sizeOf197
 v164:=Tryz.zeroValue197 }
theorem Tryz.Builder_Extra_105:Builder.Extra Tryz.prog Tryz.lays105_ren:={
 sizeBuilder:=by kernel_rfl
 liesBuilder:=by kernel_rfl
 t5:=Tryz.underlying5
 a5:=Tryz.isAgg5
 z5:=Tryz.sizeOf5
 v5:=Tryz.zeroValue5
 infoByte:=by kernel_rfl
 cellsByte:=by kernel_rfl
 sizeByte:=by kernel_rfl
 neB5:=by decide }
open Go.RowKit Go.Lib in
theorem Tryz.strings_Repeat (s:ByteArray) (c:Nat) (w:World) (hc:c≤9223372036854775807) (hlen:s.size*c≤140737488355328) :
  Calls Tryz.prog 25 #[.string s,.int .i64 c] w fun e w'=>e=.returned (.string ⟨(Lib.repeatL s.data.toList c).toArray⟩)∧Below w.heap.size w w':=Any.strings_Repeat Tryz.lays105 Tryz.Builder_Extra_105 s c w hc hlen
end Go.Proofs
namespace Go.Proofs.YtigmkgampfbflaaGreatDoor
open Go Go.AE Go.DE Go.RowKit
noncomputable def aw0C:ConF:=fun args k=>match args with
 | []=>k (fun _=>(bv true,[]))
 | _=>none
noncomputable def nwC (Q:Int→Int→Prop) (Y:Int→Int→WS):ConF:=fun args k=>match args with
 | [.v (.int .i64 w),.v (.int .i64 h)]=>bif holds (Q w h) then k (fun _=>(.tup [.agg (Y w h).cells,iv 0],[])) else none
 | _=>none
noncomputable def rpC (Q:ByteArray→Int→Prop) (F:ByteArray→Int→ByteArray):ConF:=fun args k=>match args with
 | [.v (.string s),.v (.int .i64 c)]=>bif holds (Q s c) then k (fun _=>(sv (F s c),[])) else none
 | _=>none
def joinR (F:Row→ByteArray) (R:Nat→Row):Nat→Nat→ByteArray→ByteArray
 | 0,_,a=>a
 | m+1,i,a=>joinR F R m (i+1) (a++F (R i))
noncomputable def wr1C (Q:List DV→ByteArray→Prop) (Z:ByteArray→WS):ConF:=fun args k=>match args with
 | [.agg l,.v (.string s)]=>bif holds (Q l s) then k (fun _=>(.agg (Z s).cells,[])) else none
 | _=>none
structure JX where
 R:Nat→Row
 n:Nat
 i:Nat
 a:ByteArray
 tx:ByteArray
 w:Int
 h:Int
def backB:DBlk:=⟨42,.tab 1 fun _ f=>bif Nat.beq f 36 then nilS else .any⟩
noncomputable def jxI (F:Row→ByteArray) (Q:(Nat→Nat→DV)→Nat→Prop):LInv JX where
 pre x:=x.i≤x.n∧x.n≤9000000∧(∀ j,j<x.n→Q (x.R j).cell (x.R j).n∧(F (x.R j)).size≤1000000)∧x.a.size≤x.i*1000000
 m:=1
 n:=79
 ps:=[7,8,9,10,12,48,49,50]
 sd x:=[iv x.w,iv x.h,sv x.tx,.po 0 0 0,sv x.a,.sl false (rowsD (fun _=>false) x.R) 1 x.n,iv x.n,iv x.i]
 sh _:=[some backB]
 meas x:=x.n-x.i
 e _:=.exit 0
 qs:=[7,8,9,10,12]
 od x:=[iv x.w,iv x.h,sv x.tx,.po 0 0 0,sv (joinR F x.R (x.n-x.i) x.i x.a)]
 oh _:=[some backB]
 guess ds _:=match ds with
  | [.v (.int .i64 w),.v (.int .i64 h),.v (.string tx),_,.v (.string a),.sl _ g 1 n,_,_]=>some ⟨fun i=>rowD (g i 0),n,0,a,tx,w,h⟩
  | _=>none
 cps x k:=k (.exit 0) [iv x.w,iv x.h,sv x.tx,.po 0 0 0,sv (joinR F x.R (x.n-x.i) x.i x.a)] [some backB]
theorem jx_loop (R:Nat→Row) (n i:Nat) (a tx:ByteArray) (w h:Int) (F:Row→ByteArray) (Q:(Nat→Nat→DV)→Nat→Prop) (K:Ex→Nat→List DV→List DV→DHeap→Option Unit):execD Tryz.prog (envZ [(24,txC Q F)] noLp 0) (loopAt Tryz.f7 2042) 500 (temps 79 [7,8,9,10,12,48,49,50] [iv w,iv h,sv tx,.po 0 0 0,sv a,.sl false (rowsD (fun _=>false) R) 1 n,iv n,iv i]) [some backB] (fun e τ σ=>K e τ.length (pick [7,8,9,10,12,48,49,50] τ) (pick [7,8,9,10,12] τ) σ) =
  bif decide ((i:Int)<(n:Int)) then bif decide ((i:Int)<(n:Int)) then bif decide (tN i<n) then bif holds (Q (Row.cell (R (tN i))) (Row.n (R (tN i)))) then bif decide (ByteArray.size a+ByteArray.size (F (rowOf (Row.cell (R (tN i))) (Row.n (R (tN i)))))≤9223372036854775807)
  then K .normal 79 [iv w,iv h,sv tx,.po 0 0 0,sv (a++F (rowOf (Row.cell (R (tN i))) (Row.n (R (tN i))))),.sl false (fun a a_1=>DV.sl ((fun _=>false) a) (Row.cell (R a)) 5 (Row.n (R a))) 1 n,iv (n:Int),iv (IntKind.wrap .i64 ((i:Int)+1))] [iv w,iv h,sv tx,.po 0 0 0,sv (a++F (rowOf (Row.cell (R (tN i))) (Row.n (R (tN i)))))] [some ⟨42,.tab 1 fun x f =>
  bif Nat.beq f 36 then nilS else DV.any⟩] else none else none else none else none else K (.exit 0) 79 [iv w,iv h,sv tx,.po 0 0 0,sv a,.sl false (fun a a_1=>DV.sl ((fun _=>false) a) (Row.cell (R a)) 5 (Row.n (R a))) 1 n,iv (n:Int),iv (i:Int)] [iv w,iv h,sv tx,.po 0 0 0,sv a] [some ⟨42,.tab 1 fun x f =>
  bif Nat.beq f 36 then nilS else DV.any⟩]:=by
 kernel_rfl
theorem xl_tree (a b:Int) (s:ByteArray) (P:ByteArray→ByteArray) (Q1:Int→Int→Prop) (Y:Int→Int→WS) (Q2:List DV→ByteArray→Prop) (Z:ByteArray→WS) (Q3:(Nat→Nat→DV)→Nat→Prop) (T:Row→ByteArray) (Q4:ByteArray→Int→Prop) (R:ByteArray→Int→ByteArray) (k:DV→Option Unit):bodyD Tryz.prog (envZ [(23,pnC P),(13,aw0C),(18,nwC Q1 Y),(14,wr1C Q2 Z),(25,rpC Q4 R)] (lpOf [(2042,(jxI T Q3).g)]) 0) Tryz.f7 [kv .u8 a,kv .u8 b,sv s] [] (fun d _=>k d) =
  bif decide (ByteArray.size s≤9000000) then bif decide ((↑(ByteArray.size s):Int) > 200) then k (bv true) else bif decide ((↑(ByteArray.size (P s)):Int) > IntKind.wrap .i64 (IntKind.wrap .i64 (Int.tmod (IntKind.wrap .i64 a) 20+1)*IntKind.wrap .i64 (Int.tmod (IntKind.wrap .i64 b) 8+1)))
  then k (bv true) else bif holds (Q1 (IntKind.wrap .i64 (Int.tmod (IntKind.wrap .i64 a) 20+1)) (IntKind.wrap .i64 (Int.tmod (IntKind.wrap .i64 b) 8+1))) then bif decide (0<WS.h (Y (IntKind.wrap .i64 (Int.tmod (IntKind.wrap .i64 a) 20+1)) (IntKind.wrap .i64 (Int.tmod (IntKind.wrap .i64 b) 8+1))))
  then bif decide (0<WS.h (Y (IntKind.wrap .i64 (Int.tmod (IntKind.wrap .i64 a) 20+1)) (IntKind.wrap .i64 (Int.tmod (IntKind.wrap .i64 b) 8+1)))) then bif holds (Q2 [iv (↑(WS.w (Y (IntKind.wrap .i64 (Int.tmod (IntKind.wrap .i64 a) 20+1)) (IntKind.wrap .i64 (Int.tmod (IntKind.wrap .i64 b) 8+1)))):Int),iv (↑(WS.h (Y (IntKind.wrap .i64 (Int.tmod (IntKind.wrap .i64 a) 20+1)) (IntKind.wrap .i64 (Int.tmod (IntKind.wrap .i64 b) 8+1)))):Int),.sl false (rowsD (fun _=>false) (TS.R (WS.x (Y (IntKind.wrap .i64 (Int.tmod (IntKind.wrap .i64 a) 20+1)) (IntKind.wrap .i64 (Int.tmod (IntKind.wrap .i64 b) 8+1)))))) 1 (WS.h (Y (IntKind.wrap .i64 (Int.tmod (IntKind.wrap .i64 a) 20+1)) (IntKind.wrap .i64 (Int.tmod (IntKind.wrap .i64 b) 8+1)))),iv (↑(WS.w (Y (IntKind.wrap .i64 (Int.tmod (IntKind.wrap .i64 a) 20+1)) (IntKind.wrap .i64 (Int.tmod (IntKind.wrap .i64 b) 8+1)))):Int),iv (↑(WS.h (Y (IntKind.wrap .i64 (Int.tmod (IntKind.wrap .i64 a) 20+1)) (IntKind.wrap .i64 (Int.tmod (IntKind.wrap .i64 b) 8+1)))):Int),.sl false (rowsD (fun _=>false) (WS.O (Y (IntKind.wrap .i64 (Int.tmod (IntKind.wrap .i64 a) 20+1)) (IntKind.wrap .i64 (Int.tmod (IntKind.wrap .i64 b) 8+1))))) 1 (WS.h (Y (IntKind.wrap .i64 (Int.tmod (IntKind.wrap .i64 a) 20+1)) (IntKind.wrap .i64 (Int.tmod (IntKind.wrap .i64 b) 8+1)))),iv (↑(TS.r (WS.x (Y (IntKind.wrap .i64 (Int.tmod (IntKind.wrap .i64 a) 20+1)) (IntKind.wrap .i64 (Int.tmod (IntKind.wrap .i64 b) 8+1))))):Int),iv (↑(TS.c (WS.x (Y (IntKind.wrap .i64 (Int.tmod (IntKind.wrap .i64 a) 20+1)) (IntKind.wrap .i64 (Int.tmod (IntKind.wrap .i64 b) 8+1))))):Int),bv (TS.p (WS.x (Y (IntKind.wrap .i64 (Int.tmod (IntKind.wrap .i64 a) 20+1)) (IntKind.wrap .i64 (Int.tmod (IntKind.wrap .i64 b) 8+1))))),iv 0,iv 0,bv false,iv (-1:Int),iv (-1:Int),iv 0,bv false,kv .u8 66,kv .u8 66,iv 0,iv (-1:Int),iv (-1:Int),iv 0,bv false,bv false,bv false,bv false,bv true,bv true,bv false,bv false,kv .u8 66,kv .u8 66,iv 0,iv 0,iv (↑(WS.h (Y (IntKind.wrap .i64 (Int.tmod (IntKind.wrap .i64 a) 20+1)) (IntKind.wrap .i64 (Int.tmod (IntKind.wrap .i64 b) 8+1)))):Int),.sl false (tabsD (WS.T (Y (IntKind.wrap .i64 (Int.tmod (IntKind.wrap .i64 a) 20+1)) (IntKind.wrap .i64 (Int.tmod (IntKind.wrap .i64 b) 8+1))))) 1 (WS.w (Y (IntKind.wrap .i64 (Int.tmod (IntKind.wrap .i64 a) 20+1)) (IntKind.wrap .i64 (Int.tmod (IntKind.wrap .i64 b) 8+1)))),DV.v (Value.slice none 0 0),iv 0,sv ⟨#[]⟩,sv ⟨#[]⟩,sv ⟨#[]⟩,sv ⟨#[]⟩] (P s))
  then bif holds ((Nat.le 0 (WS.h (Z (P s)))∧Nat.le (WS.h (Z (P s))) 9000000∧(∀ (j:Nat),j<WS.h (Z (P s))→Q3 (Row.cell ((fun i=>rowD (.sl ((fun _=>false) i) (Row.cell (TS.R (WS.x (Z (P s))) i)) 5 (Row.n (TS.R (WS.x (Z (P s))) i)))) j)) (Row.n ((fun i=>rowD (.sl ((fun _=>false) i) (Row.cell (TS.R (WS.x (Z (P s))) i)) 5 (Row.n (TS.R (WS.x (Z (P s))) i)))) j))∧Nat.le (ByteArray.size (T ((fun i=>rowD (.sl ((fun _=>false) i) (Row.cell (TS.R (WS.x (Z (P s))) i)) 5 (Row.n (TS.R (WS.x (Z (P s))) i)))) j))) 1000000)∧Nat.le 0 0)∧∃ ids,WkP (LInv.m (jxI T Q3)) ids [iv (IntKind.wrap .i64 (Int.tmod (IntKind.wrap .i64 a) 20+1)),iv (IntKind.wrap .i64 (Int.tmod (IntKind.wrap .i64 b) 8+1)),sv (P s),.po 0 0 0,sv ⟨#[]⟩,.sl false (fun a a_1=>DV.sl ((fun _=>false) a) (Row.cell (TS.R (WS.x (Z (P s))) a)) 5 (Row.n (TS.R (WS.x (Z (P s))) a))) 1 (WS.h (Z (P s))),iv (↑(WS.h (Z (P s))):Int),iv 0] [some ⟨42,.upd (.upd (.upd (.upd (.upd (.upd (.upd (.upd (.upd (.upd (.upd (.upd (.upd (.upd (.upd (.upd (.upd (.upd (.upd (.upd (.upd (.upd (.upd (.upd (.upd (.upd (.upd (.upd (.upd (.upd (.upd (.upd (.upd (.upd (.upd (.upd (.upd (.upd (.upd (.upd (.upd (.upd (.upd (.upd (.upd (.upd (.upd (.upd (.upd (.upd (.upd (.upd (.upd (.upd (.upd (.upd (.upd (.upd (.upd (.upd (.upd (.upd (.upd (.upd (.upd (.upd (.upd (.upd (.upd (.upd (.upd (.upd (.upd (.upd (.upd (.upd (.upd (.upd (.upd (.upd (.upd (.upd (.upd (.upd (.lst [[iv 0,iv 0,DV.v (Value.slice none 0 0),iv 0,iv 0,DV.v (Value.slice none 0 0),iv 0,iv 0,bv false,iv 0,iv 0,bv false,iv 0,iv 0,iv 0,bv false,kv .u8 0,kv .u8 0,iv 0,iv 0,iv 0,iv 0,bv false,bv false,bv false,bv false,bv false,bv false,bv false,bv false,kv .u8 0,kv .u8 0,iv 0,iv 0,iv 0,DV.v (Value.slice none 0 0),DV.v (Value.slice none 0 0),iv 0,sv ⟨#[]⟩,sv ⟨#[]⟩,sv ⟨#[]⟩,sv ⟨#[]⟩]]) 0 0 (iv (↑(WS.w (Y (IntKind.wrap .i64 (Int.tmod (IntKind.wrap .i64 a) 20+1)) (IntKind.wrap .i64 (Int.tmod (IntKind.wrap .i64 b) 8+1)))):Int))) 0 1 (iv (↑(WS.h (Y (IntKind.wrap .i64 (Int.tmod (IntKind.wrap .i64 a) 20+1)) (IntKind.wrap .i64 (Int.tmod (IntKind.wrap .i64 b) 8+1)))):Int))) 0 2 (.sl false (fun a_1 a_2=>DV.sl ((fun _=>false) a_1) (Row.cell (TS.R (WS.x (Y (IntKind.wrap .i64 (Int.tmod (IntKind.wrap .i64 a) 20+1)) (IntKind.wrap .i64 (Int.tmod (IntKind.wrap .i64 b) 8+1)))) a_1)) 5 (Row.n (TS.R (WS.x (Y (IntKind.wrap .i64 (Int.tmod (IntKind.wrap .i64 a) 20+1)) (IntKind.wrap .i64 (Int.tmod (IntKind.wrap .i64 b) 8+1)))) a_1))) 1 (WS.h (Y (IntKind.wrap .i64 (Int.tmod (IntKind.wrap .i64 a) 20+1)) (IntKind.wrap .i64 (Int.tmod (IntKind.wrap .i64 b) 8+1)))))) 0 3 (iv (↑(WS.w (Y (IntKind.wrap .i64 (Int.tmod (IntKind.wrap .i64 a) 20+1)) (IntKind.wrap .i64 (Int.tmod (IntKind.wrap .i64 b) 8+1)))):Int))) 0 4 (iv (↑(WS.h (Y (IntKind.wrap .i64 (Int.tmod (IntKind.wrap .i64 a) 20+1)) (IntKind.wrap .i64 (Int.tmod (IntKind.wrap .i64 b) 8+1)))):Int))) 0 5 (.sl false (fun a_1 a_2=>DV.sl ((fun _=>false) a_1) (Row.cell (WS.O (Y (IntKind.wrap .i64 (Int.tmod (IntKind.wrap .i64 a) 20+1)) (IntKind.wrap .i64 (Int.tmod (IntKind.wrap .i64 b) 8+1))) a_1)) 5 (Row.n (WS.O (Y (IntKind.wrap .i64 (Int.tmod (IntKind.wrap .i64 a) 20+1)) (IntKind.wrap .i64 (Int.tmod (IntKind.wrap .i64 b) 8+1))) a_1))) 1 (WS.h (Y (IntKind.wrap .i64 (Int.tmod (IntKind.wrap .i64 a) 20+1)) (IntKind.wrap .i64 (Int.tmod (IntKind.wrap .i64 b) 8+1)))))) 0 6 (iv (↑(TS.r (WS.x (Y (IntKind.wrap .i64 (Int.tmod (IntKind.wrap .i64 a) 20+1)) (IntKind.wrap .i64 (Int.tmod (IntKind.wrap .i64 b) 8+1))))):Int))) 0 7 (iv (↑(TS.c (WS.x (Y (IntKind.wrap .i64 (Int.tmod (IntKind.wrap .i64 a) 20+1)) (IntKind.wrap .i64 (Int.tmod (IntKind.wrap .i64 b) 8+1))))):Int))) 0 8 (bv (TS.p (WS.x (Y (IntKind.wrap .i64 (Int.tmod (IntKind.wrap .i64 a) 20+1)) (IntKind.wrap .i64 (Int.tmod (IntKind.wrap .i64 b) 8+1))))))) 0 9 (iv 0)) 0 10 (iv 0)) 0 11 (bv false)) 0 12 (iv (-1:Int))) 0 13 (iv (-1:Int))) 0 14 (iv 0)) 0 15 (bv false)) 0 16 (kv .u8 66)) 0 17 (kv .u8 66)) 0 18 (iv 0)) 0 19 (iv (-1:Int))) 0 20 (iv (-1:Int))) 0 21 (iv 0)) 0 22 (bv false)) 0 23 (bv false)) 0 24 (bv false)) 0 25 (bv false)) 0 26 (bv true)) 0 27 (bv true)) 0 28 (bv false)) 0 29 (bv false)) 0 30 (kv .u8 66)) 0 31 (kv .u8 66)) 0 32 (iv 0)) 0 33 (iv 0)) 0 34 (iv (↑(WS.h (Y (IntKind.wrap .i64 (Int.tmod (IntKind.wrap .i64 a) 20+1)) (IntKind.wrap .i64 (Int.tmod (IntKind.wrap .i64 b) 8+1)))):Int))) 0 35 (.sl false (fun a_1 a_2=>bv (WS.T (Y (IntKind.wrap .i64 (Int.tmod (IntKind.wrap .i64 a) 20+1)) (IntKind.wrap .i64 (Int.tmod (IntKind.wrap .i64 b) 8+1))) a_1)) 1 (WS.w (Y (IntKind.wrap .i64 (Int.tmod (IntKind.wrap .i64 a) 20+1)) (IntKind.wrap .i64 (Int.tmod (IntKind.wrap .i64 b) 8+1)))))) 0 36 (DV.v (Value.slice none 0 0))) 0 37 (iv 0)) 0 38 (sv ⟨#[]⟩)) 0 39 (sv ⟨#[]⟩)) 0 40 (sv ⟨#[]⟩)) 0 41 (sv ⟨#[]⟩)) 0 0 (iv (↑(WS.w (Z (P s))):Int))) 0 1 (iv (↑(WS.h (Z (P s))):Int))) 0 2 (.sl false (fun a a_1=>DV.sl ((fun _=>false) a) (Row.cell (TS.R (WS.x (Z (P s))) a)) 5 (Row.n (TS.R (WS.x (Z (P s))) a))) 1 (WS.h (Z (P s))))) 0 3 (iv (↑(WS.w (Z (P s))):Int))) 0 4 (iv (↑(WS.h (Z (P s))):Int))) 0 5 (.sl false (fun a a_1=>DV.sl ((fun _=>false) a) (Row.cell (WS.O (Z (P s)) a)) 5 (Row.n (WS.O (Z (P s)) a))) 1 (WS.h (Z (P s))))) 0 6 (iv (↑(TS.r (WS.x (Z (P s)))):Int))) 0 7 (iv (↑(TS.c (WS.x (Z (P s)))):Int))) 0 8 (bv (TS.p (WS.x (Z (P s)))))) 0 9 (iv 0)) 0 10 (iv 0)) 0 11 (bv false)) 0 12 (iv (-1:Int))) 0 13 (iv (-1:Int))) 0 14 (iv 0)) 0 15 (bv false)) 0 16 (kv .u8 66)) 0 17 (kv .u8 66)) 0 18 (iv 0)) 0 19 (iv (-1:Int))) 0 20 (iv (-1:Int))) 0 21 (iv 0)) 0 22 (bv false)) 0 23 (bv false)) 0 24 (bv false)) 0 25 (bv false)) 0 26 (bv true)) 0 27 (bv true)) 0 28 (bv false)) 0 29 (bv false)) 0 30 (kv .u8 66)) 0 31 (kv .u8 66)) 0 32 (iv 0)) 0 33 (iv 0)) 0 34 (iv (↑(WS.h (Z (P s))):Int))) 0 35 (.sl false (fun a a_1=>bv (WS.T (Z (P s)) a)) 1 (WS.w (Z (P s))))) 0 36 (DV.v (Value.slice none 0 0))) 0 37 (iv 0)) 0 38 (sv ⟨#[]⟩)) 0 39 (sv ⟨#[]⟩)) 0 40 (sv ⟨#[]⟩)) 0 41 (sv ⟨#[]⟩)⟩] [iv (IntKind.wrap .i64 (Int.tmod (IntKind.wrap .i64 a) 20+1)),iv (IntKind.wrap .i64 (Int.tmod (IntKind.wrap .i64 b) 8+1)),sv (P s),.po 0 0 0,sv ⟨#[]⟩,.sl false (fun a a_1=>DV.sl ((fun _=>false) a) (Row.cell ((fun i=>rowD (.sl ((fun _=>false) i) (Row.cell (TS.R (WS.x (Z (P s))) i)) 5 (Row.n (TS.R (WS.x (Z (P s))) i)))) a)) 5 (Row.n ((fun i=>rowD (.sl ((fun _=>false) i) (Row.cell (TS.R (WS.x (Z (P s))) i)) 5 (Row.n (TS.R (WS.x (Z (P s))) i)))) a))) 1 (WS.h (Z (P s))),iv (↑(WS.h (Z (P s))):Int),iv 0] [some ⟨42,.tab 1 fun x f =>
  bif Nat.beq f 36 then nilS else DV.any⟩]) then bif holds (Q4 { data:=#[(32:UInt8)] } (IntKind.wrap .i64 (IntKind.wrap .i64 (IntKind.wrap .i64 (Int.tmod (IntKind.wrap .i64 a) 20+1)*IntKind.wrap .i64 (Int.tmod (IntKind.wrap .i64 b) 8+1))-(↑(ByteArray.size (P s)):Int))))
  then bif decide (ByteArray.size (P s)+ByteArray.size (R { data:=#[(32:UInt8)] } (IntKind.wrap .i64 (IntKind.wrap .i64 (IntKind.wrap .i64 (Int.tmod (IntKind.wrap .i64 a) 20+1)*IntKind.wrap .i64 (Int.tmod (IntKind.wrap .i64 b) 8+1))-(↑(ByteArray.size (P s)):Int))))≤9223372036854775807)
  then bif ByteArray.toList (joinR T (fun i=>rowD (.sl ((fun _=>false) i) (Row.cell (TS.R (WS.x (Z (P s))) i)) 5 (Row.n (TS.R (WS.x (Z (P s))) i)))) (WS.h (Z (P s))-0) 0 { data:=#[] })==ByteArray.toList (P s++R { data:=#[(32:UInt8)] } (IntKind.wrap .i64 (IntKind.wrap .i64 (IntKind.wrap .i64 (Int.tmod (IntKind.wrap .i64 a) 20+1)*IntKind.wrap .i64 (Int.tmod (IntKind.wrap .i64 b) 8+1))-(↑(ByteArray.size (P s)):Int))))
  then k (bv true) else k (bv false) else none else none else none else none else none else none else none else none:=by
 kernel_rfl
end Go.Proofs.YtigmkgampfbflaaGreatDoor
