/-
 Plain laws: a string that the reference takes for well formed is one for the program too,with the same characters.
 Conditions: none beyond those of the contracts.
-/
import Derived.Test.YtigmkgampfbflaaGreatDoorJCw
import Derived.Lib.ValidLaws
import Derived.Test.YtigmkgampfbflaaGreatDoorAeSub2
import Derived.Test.YtigmkgampfbflaaGreatDoorAeFast4
import Derived.Test.YtigmkgampfbflaaGreatDoorDeLst
import Derived.Test.YtigmkgampfbflaaGreatDoorProg
import Derived.KernelRfl
import Derived.Test.YtigmkgampfbflaaGreatDoorJDec
namespace Go.Proofs.YtigmkgampfbflaaGreatDoor
open Go Go.AE Go.DE Go.RowKit
def Scal (v:Int):Prop:=(0<=v/\v<55296)\/(57344<=v/\v<=1114111)
def enN (c:Nat):List Nat :=
 if c<128 then [c] else if c<2048 then [192+c / 64,128+c % 64] else if c<65536 then [224+c / 4096,128+c / 64 % 64,128+c % 64]
 else [240+c / 262144,128+c / 4096 % 64,128+c / 64 % 64,128+c % 64]
theorem td (c n:Nat):Int.tdiv (c:Int) (n:Int)=((c / n:Nat):Int):=rfl
theorem tm (c n:Nat):Int.tmod (c:Int) (n:Int)=((c % n:Nat):Int):=rfl
theorem w32 {x:Int}(h1:0<=x) (h2:x<2147483648):IntKind.i32.wrap x=x:=by rw [IntKind.wrap_i32]; omega
theorem w8 {x:Int}(h1:0<=x) (h2:x<256):IntKind.u8.wrap x=x:=by rw [IntKind.wrap_u8]; omega
theorem enB_nat {c:Nat}(h:Scal c):enB (c:Int)=(enN c).map (fun n:Nat=>(n:Int)):=by
 have h:(c:Int)<55296\/(57344<=(c:Int)/\(c:Int)<=1114111):=by rcases h with h | h<;>omega
 unfold enB enN
 rw [if_neg (by omega),if_neg (by omega),if_neg (by omega)]
 by_cases h1:c<128
 ·rw [if_pos (by omega),if_pos h1]
  simp only [enc1,List.map_cons,List.map_nil,w8 (x:=(c:Int)) (by omega) (by omega)]
 rw [if_neg (by omega),if_neg h1]
 have e64:Int.tdiv (c:Int) 64=((c / 64:Nat):Int):=td c 64;have e4096:Int.tdiv (c:Int) 4096=((c / 4096:Nat):Int):=td c 4096;have e262144:Int.tdiv (c:Int) 262144=((c / 262144:Nat):Int):=td c 262144;have m64:Int.tmod (c:Int) 64=((c % 64:Nat):Int):=tm c 64;have m6464:Int.tmod ((c / 64:Nat):Int) 64=((c / 64 % 64:Nat):Int):=tm (c / 64) 64;have m4096:Int.tmod ((c / 4096:Nat):Int) 64=((c / 4096 % 64:Nat):Int):=tm (c / 4096) 64
 by_cases h2:c<2048
 ·rw [if_pos (by omega),if_pos h2]
  simp only [enc2,List.map_cons,List.map_nil,e64,m64]
  rw [w32 (x:=((c / 64:Nat):Int)) (by omega) (by omega),w32 (x:=192+((c / 64:Nat):Int)) (by omega) (by omega),w8 (x:=192+((c / 64:Nat):Int)) (by omega) (by omega),
   w32 (x:=128+((c % 64:Nat):Int)) (by omega) (by omega),w8 (x:=128+((c % 64:Nat):Int)) (by omega) (by omega)]
  simp only [Int.natCast_add];rfl
 rw [if_neg (by omega),if_neg h2]
 by_cases h3:c<65536
 ·rw [if_pos (by omega),if_pos h3]
  simp only [enc3,List.map_cons,List.map_nil,e64,m64,e4096]
  rw [w32 (x:=((c / 4096:Nat):Int)) (by omega) (by omega),w32 (x:=224+((c / 4096:Nat):Int)) (by omega) (by omega),w8 (x:=224+((c / 4096:Nat):Int)) (by omega) (by omega),
   w32 (x:=((c / 64:Nat):Int)) (by omega) (by omega),m6464,w32 (x:=128+((c / 64 % 64:Nat):Int)) (by omega) (by omega),w8 (x:=128+((c / 64 % 64:Nat):Int)) (by omega) (by omega),
   w32 (x:=128+((c % 64:Nat):Int)) (by omega) (by omega),w8 (x:=128+((c % 64:Nat):Int)) (by omega) (by omega)]
  simp only [Int.natCast_add];rfl
 ·rw [if_neg (by omega),if_neg h3]
  simp only [enc4,List.map_cons,List.map_nil,e64,m64,e4096,e262144]
  rw [w32 (x:=((c / 262144:Nat):Int)) (by omega) (by omega),w32 (x:=240+((c / 262144:Nat):Int)) (by omega) (by omega),w8 (x:=240+((c / 262144:Nat):Int)) (by omega) (by omega),
   w32 (x:=((c / 4096:Nat):Int)) (by omega) (by omega),m4096,w32 (x:=128+((c / 4096 % 64:Nat):Int)) (by omega) (by omega),w8 (x:=128+((c / 4096 % 64:Nat):Int)) (by omega) (by omega),
   w32 (x:=((c / 64:Nat):Int)) (by omega) (by omega),m6464,w32 (x:=128+((c / 64 % 64:Nat):Int)) (by omega) (by omega),w8 (x:=128+((c / 64 % 64:Nat):Int)) (by omega) (by omega),
   w32 (x:=128+((c % 64:Nat):Int)) (by omega) (by omega),w8 (x:=128+((c % 64:Nat):Int)) (by omega) (by omega)]
  simp only [Int.natCast_add];rfl
def byN (c:Nat):List UInt8:=(enN c).map UInt8.ofNat
def byL (zs:List Int):List UInt8:=zs.flatMap fun v=>byN v.toNat
theorem ofN {n:Nat}(h:n<256):(UInt8.ofNat n).toNat=n:=by rw [UInt8.toNat_ofNat']; omega
theorem dec_enc {c:Nat}(h:Scal c) (rest:List UInt8):Lib.decodeL (byN c++rest)=(c,(byN c).length):=by
 have h:(c:Int)<55296\/(57344<=(c:Int)/\(c:Int)<=1114111):=by rcases h with h | h<;>omega
 rw [Lib.decodeL_N];unfold byN enN
 by_cases h1:c<128
 ·rw [if_pos h1];simp only [List.map_cons,List.map_nil,List.cons_append,List.nil_append,List.getD_cons_zero,List.length_cons,List.length_nil]
  rw [ofN (by omega)]
  unfold Lib.decodeN;rw [if_pos h1]
 rw [if_neg h1]
 by_cases h2:c<2048
 ·rw [if_pos h2];simp only [List.map_cons,List.map_nil,List.cons_append,List.nil_append,List.getD_cons_zero,List.getD_cons_succ,List.length_cons,List.length_nil]
  rw [ofN (n:=192+c / 64) (by omega),ofN (n:=128+c % 64) (by omega)]
  unfold Lib.decodeN
  rw [if_neg (by omega),if_pos (by omega),if_pos (by omega)]
  exact Prod.ext (by show (192+c / 64) % 32*64+(128+c % 64) % 64=c; omega) rfl
 rw [if_neg h2]
 by_cases h3:c<65536
 ·rw [if_pos h3];simp only [List.map_cons,List.map_nil,List.cons_append,List.nil_append,List.getD_cons_zero,List.getD_cons_succ,List.length_cons,List.length_nil]
  rw [ofN (n:=224+c / 4096) (by omega),ofN (n:=128+c / 64 % 64) (by omega),ofN (n:=128+c % 64) (by omega)]
  have e:(224+c / 4096) % 16*4096+(128+c / 64 % 64) % 64*64+(128+c % 64) % 64=c:=by omega
  unfold Lib.decodeN
  rw [if_neg (by omega),if_neg (by omega),if_pos (by omega),e,if_pos (by omega)]
 ·rw [if_neg h3];simp only [List.map_cons,List.map_nil,List.cons_append,List.nil_append,List.getD_cons_zero,List.getD_cons_succ,List.length_cons,List.length_nil]
  rw [ofN (n:=240+c / 262144) (by omega),ofN (n:=128+c / 4096 % 64) (by omega),ofN (n:=128+c / 64 % 64) (by omega),ofN (n:=128+c % 64) (by omega)]
  have e:(240+c / 262144) % 8*262144+(128+c / 4096 % 64) % 64*4096+(128+c / 64 % 64) % 64*64+(128+c % 64) % 64=c:=by omega
  unfold Lib.decodeN
  rw [if_neg (by omega),if_neg (by omega),if_neg (by omega),if_pos (by omega),e,if_pos (by omega)]
theorem byN_len (c:Nat):1<=(byN c).length/\((byN c).length=1->c<128):=by
 unfold byN enN
 by_cases h1:c<128
 ·rw [if_pos h1]; simp; exact h1
 rw [if_neg h1]
 by_cases h2:c<2048
 ·rw [if_pos h2]; simp
 rw [if_neg h2]
 by_cases h3:c<65536
 ·rw [if_pos h3]; simp
 ·rw [if_neg h3]; simp
theorem scal_nat {v:Int}(h:Scal v):Scal ((v.toNat:Nat):Int)/\((v.toNat:Nat):Int)=v:=by
 have e:((v.toNat:Nat):Int)=v:=by rcases h with h | h<;>omega
 exact ⟨e.symm ▸ h,e⟩
theorem byL_cons (v:Int) (zs:List Int):byL (v :: zs)=byN v.toNat++byL zs:=rfl
theorem byN_ne (c:Nat) (r:List UInt8):byN c++r≠[]:=fun e=>by
 have:=(byN_len c).1;rw [List.append_eq_nil_iff] at e;rw [e.1] at this
 exact absurd this (by decide)
theorem valid_byL:∀ {zs:List Int},(∀ v∈zs,Scal v)->Lib.validD (byL zs)=true
 | [],_=>rfl
 | v :: zs,h=>by
  obtain ⟨h1,h2⟩:=scal_nat (h v (by simp))
  rw [byL_cons,Lib.validD_step _ (byN_ne _ _),dec_enc h1,List.drop_left,if_neg ?_]
  ·exact valid_byL fun u hu=>h u (by simp [hu])
  ·rintro ⟨q1,q2⟩
   have:=(byN_len v.toNat).2 q2;omega
theorem runes_byL (s:ByteArray):∀ (zs:List Int) (i b:Nat) (acc:Array Value),(∀ v∈zs,Scal v)->s.data.toList.drop i=byL zs->(byL zs).length<=b ->
  (Conv.runesFrom s b i acc).toList=acc.toList++zs.map fun v=>Value.int .i32 v
 | [],i,b,acc,_,hs,hb=>by
  have hi:s.size<=i:=by
   have:(s.data.toList.drop i).length=0:=by rw [hs]; rfl
   rw [List.length_drop] at this;have:s.size=s.data.toList.length:=rfl;omega
  cases b with
  | zero=>simp [Conv.runesFrom]
  | succ b=>unfold Conv.runesFrom; rw [if_neg (by omega)]; simp
 | v :: zs,i,b,acc,h,hs,hb=>by
  obtain ⟨h1,h2⟩:=scal_nat (h v (by simp))
  have hl:=(byN_len v.toNat).1;rw [byL_cons,List.length_append] at hb
  obtain ⟨b,rfl⟩:∃ b',b=b'+1:=⟨b-1,by omega⟩
  have hi:i<s.size:=by
   have e:(s.data.toList.drop i).length=(byL (v :: zs)).length:=by rw [hs]
   rw [List.length_drop,byL_cons,List.length_append] at e;have:s.size=s.data.toList.length:=rfl;omega
  have hd:Utf8.decode s i=(v.toNat,(byN v.toNat).length):=by rw [<- Lib.decodeL_drop,hs,byL_cons,dec_enc h1]
  unfold Conv.runesFrom;rw [if_pos hi,hd];simp only
  rw [runes_byL s zs _ b _ (fun u hu=>h u (by simp [hu])) ?_ (by omega)]
  ·simp only [Array.toList_push,List.append_assoc,List.map_cons,List.cons_append,List.nil_append];rw [show Int.ofNat v.toNat=v from h2]
  ·rw [<- List.drop_drop,hs,byL_cons,List.drop_left]
theorem rune_eq {s:ByteArray}{zs:List Int}(h:∀ v∈zs,Scal v) (hs:s.data.toList=byL zs):runeN s=zs.length/\∀ i,i<zs.length->runeAt s i=lw zs i:=by
 have e:=runes_byL s zs 0 s.size #[] h (by rw [List.drop_zero,hs]) (by rw [<- hs]; exact Nat.le_refl _)
 have e:(Conv.runesFrom s s.size 0 #[]).toList=zs.map fun v=>Value.int .i32 v:=e
 refine ⟨?_,fun i hi=>?_⟩
 ·unfold runeN;rw [<- Array.length_toList,e,List.length_map]
 ·unfold runeAt;rw [<- Array.getElem?_toList,e,List.getElem?_map,List.getElem?_eq_getElem hi,Option.map_some];simp only [lw,List.getD_eq_getElem?_getD,List.getElem?_eq_getElem hi,Option.getD_some]
theorem enR_app (z:Nat->Int):∀ (m i:Nat) (b:List Int),enR z m i b=b++(List.range m).flatMap fun j=>enB (z (i+j))
 | 0,i,b=>by simp [enR]
 | m+1,i,b=>by
  rw [enR,enR_app z m,List.range_succ_eq_map,List.flatMap_cons,List.append_assoc,List.flatMap_map]
  congr 3
  funext j
  rw [Nat.add_assoc,Nat.add_comm 1 j]
theorem range_flat {α:Type}(f:Int->List α):∀ (zs:List Int),((List.range zs.length).flatMap fun j=>f (lw zs (0+j)))=zs.flatMap f
 | []=>rfl
 | v :: zs=>by
  rw [List.length_cons,List.range_succ_eq_map,List.flatMap_cons,List.flatMap_map,List.flatMap_cons,<- range_flat f zs]
  congr 2
theorem fold_push:∀ (l:List Int) (r:ByteArray),(l.foldl (fun r n=>r.push (UInt8.ofNat n.toNat)) r).data.toList=r.data.toList++l.map fun n=>UInt8.ofNat n.toNat
 | [],r=>by simp
 | n :: l,r=>by
  rw [List.foldl_cons,fold_push l];simp [ByteArray.push]
theorem encF_bytes {zs:List Int}(h:∀ v∈zs,Scal v):(encF (lw zs) zs.length).data.toList=byL zs:=by
 unfold encF bytesS;rw [fold_push]
 have e:(List.range (enR (lw zs) zs.length 0 []).length).map (lw (enR (lw zs) zs.length 0 []))=enR (lw zs) zs.length 0 []:=by
  apply List.ext_getElem?
  intro i;rw [List.getElem?_map]
  by_cases hi:i<(enR (lw zs) zs.length 0 []).length
  ·rw [List.getElem?_range hi,Option.map_some];simp [lw,List.getElem?_eq_getElem hi]
  ·rw [List.getElem?_eq_none (by rw [List.length_range]; omega),List.getElem?_eq_none (by omega)]; rfl
 rw [e,enR_app,List.nil_append,range_flat,show ByteArray.empty.data.toList=[] from rfl,List.nil_append,List.map_flatMap];unfold byL;clear e
 induction zs with
 | nil=>rfl
 | cons v zs ih =>
  rw [List.flatMap_cons,List.flatMap_cons,ih fun u hu=>h u (by simp [hu])]
  obtain ⟨h1,h2⟩:=scal_nat (h v (by simp))
  have e:=enB_nat h1;rw [h2] at e;rw [e,List.map_map];rfl
def Pre (k:List Int):Prop :=
 k=[]\/(∃ p,k=[p]/\194<=p/\p<=244)\/(∃ p q,k=[p,q]/\224<=p/\p<=244/\128<=q/\q<=191/\(p=237->q<=159)/\(p=244->q<=143)/\(p=240->144<=q)) \/
  ∃ p q r,k=[p,q,r]/\240<=p/\p<=244/\128<=q/\q<=191/\(p=244->q<=143)/\(p=240->144<=q)/\128<=r/\r<=191
theorem szF_of (p:Int):(194<=p/\p<=223/\szF p=2)\/(224<=p/\p<=239/\szF p=3)\/(240<=p/\p<=244/\szF p=4)\/((p<194\/244<p)/\szF p=0):=by
 unfold szF
 by_cases a1:p >= 194
 ·by_cases a2:p<=223
  ·left; simp [a1,a2]
  ·by_cases a3:p<=239
   ·right; left
    have:p >= 224:=by omega
    simp [a1,a2,a3,this]
   ·by_cases a4:p<=244
    ·right; right; left
     have b1:p >= 224:=by omega
     have b2:p >= 240:=by omega
     simp [a1,a2,a3,a4,b1,b2]
    ·right; right; right
     have b1:p >= 224:=by omega
     have b2:p >= 240:=by omega
     simp [a1,a2,a3,a4,b1,b2];omega
 ·right; right; right
  have b1:¬ p >= 224:=by omega
  have b2:¬ p >= 240:=by omega
  simp [a1,b1,b2];omega
theorem byteAt_b (s:ByteArray) (i:Nat):0<=byteAt s i/\byteAt s i<256:=by
 unfold byteAt;have:=(s.data.toList.getD i 0).toNat_lt;omega
theorem lo1 (p:Int):128<=loF p 1/\(p=240->144<=loF p 1):=by
 unfold loF
 by_cases h1:p=224
 ·subst h1; simp
 by_cases h2:p=237
 ·subst h2; simp
 by_cases h3:p=240
 ·subst h3; simp
 have e1:(p==224)=false:=beq_eq_false_iff_ne.2 h1;have e2:(p==237)=false:=beq_eq_false_iff_ne.2 h2;have e3:(p==240)=false:=beq_eq_false_iff_ne.2 h3;rw [e1,e2,e3]
 exact ⟨by decide,fun e=>absurd e h3⟩
theorem hi1 (p:Int):hiF p 1<=191/\(p=237->hiF p 1<=159)/\(p=244->hiF p 1<=143):=by
 unfold hiF
 by_cases h1:p=224
 ·subst h1; simp
 by_cases h2:p=237
 ·subst h2; simp
 by_cases h3:p=240
 ·subst h3; simp
 by_cases h4:p=244
 ·subst h4; simp
 have e1:(p==224)=false:=beq_eq_false_iff_ne.2 h1;have e2:(p==237)=false:=beq_eq_false_iff_ne.2 h2;have e3:(p==240)=false:=beq_eq_false_iff_ne.2 h3;have e4:(p==244)=false:=beq_eq_false_iff_ne.2 h4;rw [e1,e2,e3,e4]
 exact ⟨by decide,fun e=>absurd e h2,fun e=>absurd e h4⟩
theorem lo2 (p:Int) {n:Nat}(h:n≠1):loF p n=128:=by
 unfold loF
 have:((n:Int)==1)=false:=by rw [beq_eq_false_iff_ne]; omega
 rw [this]; rfl
theorem hi2 (p:Int) {n:Nat}(h:n≠1):hiF p n=191:=by
 unfold hiF
 have:((n:Int)==1)=false:=by rw [beq_eq_false_iff_ne]; omega
 rw [this]; rfl
theorem stepV_eq {a b:Int}(h1:0<=a) (h2:a<30000) (h3:128<=b) (h4:b<256):stepV a b=a*64+(b-128):=by
 unfold stepV
 rw [w32 (x:=a*64) (by omega) (by omega),w32 (x:=b) (by omega) (by omega),w32 (x:=a*64+b) (by omega) (by omega),w32 (by omega) (by omega)]
 omega
theorem val2_eq {p b:Int}(h1:194<=p) (h2:p<=223) (h3:128<=b) (h4:b<=191):valF (lw [p,b]) 2=(p-192)*64+(b-128):=by
 show stepV (valA (lw [p,b]) 2) b=_;have e:valA (lw [p,b]) 2=IntKind.i32.wrap (IntKind.i32.wrap p-192):=rfl
 rw [e,w32 (x:=p) (by omega) (by omega),w32 (x:=p-192) (by omega) (by omega),stepV_eq (by omega) (by omega) h3 (by omega)]
theorem val3_eq {p q b:Int}(h1:224<=p) (h2:p<=239) (h3:128<=q) (h4:q<=191) (h5:128<=b) (h6:b<=191):valF (lw [p,q,b]) 3=((p-224)*64+(q-128))*64+(b-128):=by
 show stepV (stepV (valA (lw [p,q,b]) 3) q) b=_;have e:valA (lw [p,q,b]) 3=IntKind.i32.wrap (IntKind.i32.wrap p-224):=rfl
 rw [e,w32 (x:=p) (by omega) (by omega),w32 (x:=p-224) (by omega) (by omega),stepV_eq (a:=p-224) (by omega) (by omega) h3 (by omega),stepV_eq (by omega) (by omega) h5 (by omega)]
theorem val4_eq {p q r b:Int}(h1:240<=p) (h2:p<=244) (h3:128<=q) (h4:q<=191) (h5:128<=r) (h6:r<=191) (h7:128<=b) (h8:b<=191) :
  valF (lw [p,q,r,b]) 4=(((p-240)*64+(q-128))*64+(r-128))*64+(b-128):=by
 show stepV (stepV (stepV (valA (lw [p,q,r,b]) 4) q) r) b=_;have e:valA (lw [p,q,r,b]) 4=IntKind.i32.wrap (IntKind.i32.wrap p-240):=rfl
 rw [e,w32 (x:=p) (by omega) (by omega),w32 (x:=p-240) (by omega) (by omega),stepV_eq (a:=p-240) (by omega) (by omega) h3 (by omega),stepV_eq (a:=(p-240)*64+(q-128)) (by omega) (by omega) h5 (by omega),stepV_eq (by omega) (by omega) h7 (by omega)]
theorem dstep_scal {s:ByteArray}{i:Nat}{o k:List Int}(ho:∀ v∈o,Scal v) (hk:Pre k):(∀ v∈(dstep s i o k).2.1,Scal v)/\Pre (dstep s i o k).2.2:=by
 have app:∀ {x:Int},Scal x->∀ v∈o++[x],Scal v:=fun hx v hv=>by
  rw [List.mem_append,List.mem_singleton] at hv
  rcases hv with hv | rfl
  ·exact ho v hv
  ·exact hx
 have bad:∀ v∈o++[65533],Scal v:=app (.inr ⟨by decide,by decide⟩)
 obtain ⟨b0,b1⟩:=byteAt_b s i;generalize hb:byteAt s i=b at b0 b1;unfold dstep;rw [hb]
 rcases hk with rfl | ⟨p,rfl,p1,p2⟩ | ⟨p,q,rfl,p1,p2,q1,q2,q3,q4,q5⟩ | ⟨p,q,r,rfl,p1,p2,q1,q2,q4,q5,r1,r2⟩
 ·rw [if_pos rfl]
  by_cases h1:b<128
  ·rw [if_pos h1,w32 b0 (by omega)]
   exact ⟨app (.inl ⟨b0,by omega⟩),.inl rfl⟩
  rw [if_neg h1]
  by_cases h2:szF b > 0
  ·rw [if_pos h2];refine ⟨ho,.inr (.inl ⟨b,rfl,?_⟩)⟩
   rcases szF_of b with h | h | h | h<;>omega
  ·rw [if_neg h2];exact ⟨bad,.inl rfl⟩
 ·rw [if_neg (by simp)]
  simp only [List.length_cons,List.length_nil,Nat.zero_add,show lw [p] 0=p from rfl];obtain ⟨e1,e5⟩:=lo1 p;obtain ⟨e2,e3,e4⟩:=hi1 p
  by_cases h1:b<loF p 1
  ·rw [if_pos h1]; exact ⟨bad,.inl rfl⟩
  rw [if_neg h1]
  by_cases h2:b > hiF p 1
  ·rw [if_pos h2]; exact ⟨bad,.inl rfl⟩
  rw [if_neg h2]
  by_cases h3:((1+1:Nat):Int)=szF p
  ·rw [if_pos h3];refine ⟨app ?_,.inl rfl⟩;show Scal (valF (lw [p,b]) 2)
   rw [val2_eq (by omega) (by rcases szF_of p with h | h | h | h<;>omega) (by omega) (by omega)]
   rcases szF_of p with h | h | h | h
   ·exact .inl ⟨by omega,by omega⟩
   all_goals omega
  ·rw [if_neg h3]
   refine ⟨ho,.inr (.inr (.inl ⟨p,b,rfl,?_,p2,by omega,by omega,fun e=>by have:=e3 e; omega,fun e=>by have:=e4 e; omega,fun e=>by have:=e5 e; omega⟩))⟩
   rcases szF_of p with h | h | h | h<;>omega
 ·rw [if_neg (by simp)]
  simp only [List.length_cons,List.length_nil,Nat.zero_add,show lw [p,q] 0=p from rfl]
  rw [lo2 p (n:=1+1) (by decide),hi2 p (n:=1+1) (by decide)]
  by_cases h1:b<128
  ·rw [if_pos h1]; exact ⟨bad,.inl rfl⟩
  rw [if_neg h1]
  by_cases h2:b > 191
  ·rw [if_pos h2]; exact ⟨bad,.inl rfl⟩
  rw [if_neg h2]
  by_cases h3:((1+1+1:Nat):Int)=szF p
  ·rw [if_pos h3];refine ⟨app ?_,.inl rfl⟩;show Scal (valF (lw [p,q,b]) 3)
   have hp:p<=239:=by rcases szF_of p with h | h | h | h<;>omega
   rw [val3_eq p1 hp q1 q2 (by omega) (by omega)]
   by_cases hs:p<=237
   ·refine .inl ⟨by omega,?_⟩
    by_cases e:p=237
    ·have:=q3 e; omega
    ·omega
   ·exact .inr ⟨by omega,by omega⟩
  ·rw [if_neg h3]
   refine ⟨ho,.inr (.inr (.inr ⟨p,q,b,rfl,?_,p2,q1,q2,q4,q5,by omega,by omega⟩))⟩
   rcases szF_of p with h | h | h | h<;>omega
 ·rw [if_neg (by simp)]
  simp only [List.length_cons,List.length_nil,Nat.zero_add,show lw [p,q,r] 0=p from rfl]
  rw [lo2 p (n:=1+1+1) (by decide),hi2 p (n:=1+1+1) (by decide)]
  by_cases h1:b<128
  ·rw [if_pos h1]; exact ⟨bad,.inl rfl⟩
  rw [if_neg h1]
  by_cases h2:b > 191
  ·rw [if_pos h2]; exact ⟨bad,.inl rfl⟩
  rw [if_neg h2]
  have hsz:((1+1+1+1:Nat):Int)=szF p:=by rcases szF_of p with h | h | h | h<;>omega
  rw [if_pos hsz];refine ⟨app ?_,.inl rfl⟩;show Scal (valF (lw [p,q,r,b]) 4)
  rw [val4_eq p1 p2 q1 q2 r1 r2 (by omega) (by omega)]
  have h240:240<p\/144<=q:=by
   by_cases e:p=240
   ·exact .inr (q5 e)
   ·exact .inl (by omega)
  refine .inr ⟨by omega,?_⟩
  by_cases e:p=244
  ·have:=q4 e; omega
  ·omega
theorem decR_scal (s:ByteArray):∀ (m i:Nat) (o k:List Int),(∀ v∈o,Scal v)->Pre k->∀ v∈(decR s m i o k).1,Scal v
 | 0,i,o,k,ho,_=>ho
 | m+1,i,o,k,ho,hk=>by
  rw [decR];split
  ·have:=dstep_scal (s:=s) (i:=i) ho hk;exact decR_scal s m _ _ _ this.1 this.2
  ·exact ho
theorem decF_scal (s:ByteArray):∀ v∈(decF s).1,Scal v:=decR_scal s _ _ _ _ (fun v hv=>(by simp at hv)) (.inl rfl)
theorem valid_bytes {s:ByteArray}(h:validF s=true):s.data.toList=byL (decF s).1:=by
 unfold validF at h
 cases hb:ByteArray.toList (decF s).2==ByteArray.toList ⟨#[]⟩ with
 | false=>rw [hb] at h; cases h
 | true =>
  rw [hb,cond_true,beq_iff_eq,Lib.toList_data,Lib.toList_data,encF_bytes (decF_scal s)] at h;exact h.symm
theorem valid_vd {s:ByteArray}(h:validF s=true):vdF s=true:=by
 unfold vdF;rw [valid_bytes h];exact valid_byL (decF_scal s)
theorem valid_rune {s:ByteArray}(h:validF s=true):runeN s=(decF s).1.length/\∀ i,i<(decF s).1.length->runeAt s i=lw (decF s).1 i:=rune_eq (decF_scal s) (valid_bytes h)
end Go.Proofs.YtigmkgampfbflaaGreatDoor
namespace Go.Proofs.YtigmkgampfbflaaGreatDoor
open Go Go.AE Go.DE Go.RowKit
end Go.Proofs.YtigmkgampfbflaaGreatDoor
namespace Go.Proofs.YtigmkgampfbflaaGreatDoor
open Go Go.AE Go.DE Go.RowKit
def blkRow (w:Nat):Row:=⟨w,fun _=>⟨⟨[32]⟩⟩,fun _=>1,fun _=>-1,fun _=>-1,fun _=>0⟩
theorem row_low (r:Row) (i f:Nat):Low (r.cell i f):=by
 match f with
 | 0=>exact .v _
 | 1=>exact .v _
 | 2=>exact .v _
 | 3=>exact .v _
 | _+4=>exact .v _
theorem Cv.pf {t:Bool}{g g':Nat->Nat->DV}{k n i0 f0:Nat}(h:∀ i f,i<n->f<k->Cv (g i f) (g' i f)):Cv (.pf t g k n i0 f0) (.pf t g' k n i0 f0):=fun C μ v hv=>by
 obtain ⟨a,w,rfl,hk,hn,h1,h2⟩:=hv.pf_inv
 exact .pf t g' k n i0 f0 a _ w hk hn _root_.rfl h1 fun i f hi hf=>h i f hi hf _ _ _ (h2 i f hi hf)
def nilS:DV:=.v (.slice none 0 0)
structure GNX where
 w:Int
 h:Nat
 i:Nat
def KB (b:DBlk):Prop:=b.c.good/\∀ i f,i<b.c.n->f<b.k->Clo (b.c.get i f)
theorem KB.sub {b:DBlk}{r:Nat->Option Nat}(h:KB b):SubC r b b:=⟨rfl,Nat.le_refl _,h.1,fun i f hi hf=>.of_clo (h.2 i f hi hf)⟩
theorem KB.lst {k:Nat}{l:List DV}(h:∀ d∈l,Clo d) (hk:k<=l.length):KB ⟨k,.lst [l]⟩:=⟨trivial,fun i f hi hf=>by
 have hi:i<1:=hi
 obtain rfl:i=0:=by omega
 show Clo (l.getD f .any);have hf:f<k:=hf
 have hlt:f<l.length:=by omega
 rw [List.getD_eq_getElem?_getD,List.getElem?_eq_getElem hlt];exact h _ (List.getElem_mem hlt)⟩
end Go.Proofs.YtigmkgampfbflaaGreatDoor
namespace Go.Proofs.YtigmkgampfbflaaGreatDoor
open Go Go.AE Go.DE Go.RowKit
theorem agg_clo {l:List DV}(h:l.all isV=true):Clo (.agg l)/\Low (.agg l):=flR_clo (d:=.agg l) (List.all_eq_true.2 fun d hd=>by
 have:=List.all_eq_true.1 h d hd
 cases d<;>first | rfl | cases this)
theorem SubLZ.tup {r:Nat->Option Nat}{zs:Nat->Option DBlk}{ds2 ds:List DV}(h:SubLZ r zs ds2 ds):SubZ r zs (.tup ds2) (.tup ds):=fun C μ x hF hx=>by
 cases hx with
 | tup _ vs h1 h2 =>
  have:=h.drl (C:=C) (μ:=μ) hF (xs:=vs.toList) ⟨by simpa using h1,fun i d x hd hx=>h2 i d x hd (by simpa using hx)⟩
  exact .tup _ _ (by simpa using this.1) fun i d x hd hx=>this.2 i d x hd (by simpa using hx)
end Go.Proofs.YtigmkgampfbflaaGreatDoor
namespace Go.Proofs.YtigmkgampfbflaaGreatDoor
open Go Go.AE Go.DE Go.RowKit
def tab8 (i:Nat):Bool:=Int.tmod (i:Int) 8==0
def upT (i j:Nat):Bool:=if j<i then tab8 j else false
structure TNX where
 n:Nat
 i:Nat
noncomputable def tnC (T:Nat->Bool):ConF:=fun args k=>match args with
 | [.v (.int .i64 w)]=>bif decide (1<=w)&&decide (w<=1000) then k (fun b=>(.os b 0 w.toNat,[some ⟨1,.tab w.toNat (tabsD T)⟩])) else none
 | _=>none
def boolD:DV->Bool
 | .v (.bool b)=>b
 | _=>false
def tabsSo (G:Nat->Nat->DV) (n:Nat):Prop:=n<=9000000/\∀ i,i<n->G i 0=bv (boolD (G i 0))
theorem tabsSo.cv {G:Nat->Nat->DV}{n:Nat}(h:tabsSo G n) (t:Bool):Cv (.sl t G 1 n) (.sl t (tabsD fun i=>boolD (G i 0)) 1 n):=Cv.sl fun i f hi hf=>.of (by
 obtain rfl:f=0:=by omega
 exact h.2 i hi)
def rsT (z:Nat->Bool) (m:Nat) (T:Nat->Bool) (j:Nat):Bool:=if j<m then z j else T j
inductive T6S where
 | no
 | sl (t:Bool) (z:Nat->Bool) (m:Nat)
def T6S.d:T6S->DV
 | .no=>.v (.slice none 0 0)
 | .sl t z m=>.sl t (tabsD z) 1 m
def T6S.out:T6S->Nat->Bool
 | .no=>tab8
 | .sl _ z m=>rsT z m tab8
structure T6X where
 s:T6S
 w:Nat
 i:Nat
end Go.Proofs.YtigmkgampfbflaaGreatDoor
namespace Go.Proofs.YtigmkgampfbflaaGreatDoor
open Go Go.AE Go.DE Go.RowKit
def p7s (F G:ByteArray->Int) (r:Row) (i:Nat) (a b:Int):Int :=
 bif (r.wd i != 1)&&(r.wd i != 2) then 12 else bif F (r.tx i) != 0 then 3 else bif G (r.tx i) != r.wd i then 12 else
  bif r.wd i==1 then a else bif ((i+1:Nat):Int)==(r.n:Int) then 12 else bif r.half i (i+1) then b else 12
def p7 (F G:ByteArray->Int) (r:Row):Nat->Nat->Int
 | 0,_=>0
 | m+1,i=>if i<r.n then p7s F G r i (p7 F G r m (i+1)) (p7 F G r m (i+2)) else 0
theorem wkP_any {ids:List Nat}{ds ds2:List DV}{σ σ':DHeap}(h:WkP 0 ids ds σ ds2 []):WkP 0 ids ds σ' ds2 []:=⟨h.tm,h.len,trivial,h.nd⟩
theorem ask_any {X:Type}{I:LInv X}{x:X}{e:Ex}{n:Nat}{ds es:List DV}{σ:DHeap}(h1:I.m=0) (h2:∀ y,I.sh y=[]) (h3:∀ y,I.oh y=[]):I.ask x e n ds es σ=I.ask x e n ds es []:=by
 have key:∀ σ σ',I.Q x e n ds es σ->I.Q x e n ds es σ':=fun σ σ' hq=>by
  obtain ⟨q0,hq⟩:=hq;refine ⟨q0,?_⟩
  cases e with
  | normal =>
   obtain ⟨y,a,b,ids,w⟩:=hq;rw [h1,h2] at w
   exact ⟨y,a,b,ids,by rw [h1,h2]; exact wkP_any w⟩
  | exit j =>
   obtain ⟨a,ids,w⟩:=hq;rw [h1,h3] at w
   exact ⟨a,ids,by rw [h1,h3]; exact wkP_any w⟩
  | ret =>
   obtain ⟨a,ids,w⟩:=hq;rw [h1,h3] at w
   exact ⟨a,ids,by rw [h1,h3]; exact wkP_any w⟩
 unfold LInv.ask;rw [show I.Q x e n ds es σ=I.Q x e n ds es [] from propext ⟨key _ _,key _ _⟩]
noncomputable def rqI (F G:ByteArray->Int):LInv CX where
 pre x:=x.r.sized/\x.r.n<=x.m+x.i
 m:=0
 n:=64
 ps:=[0,3]
 sd x:=[.sl x.t x.r.cell 5 x.r.n,iv x.i]
 sh _:=[]
 meas x:=x.r.n-x.i
 e x:=qe (p7 F G x.r x.m x.i)
 qs:=[2]
 od x:=qo (p7 F G x.r x.m x.i)
 oh _:=[]
 guess ds _:=match ds with
  | [.sl t g 5 n,_]=>some ⟨t,rowOf g n,n,0⟩
  | _=>none
 cps x k:=bif holds (p7 F G x.r x.m x.i=0) then k (.exit 0) [.any] [] else k .ret [iv (p7 F G x.r x.m x.i)] []
theorem rq_loop (F G:ByteArray->Int) (t:Bool) (r:Row) (i:Nat) (K:Ex->Nat->List DV->List DV->Option Unit):execD Tryz.prog (env [(72,ckC F),(73,cwC G)] noLp 0) (loopAt Tryz.f33 58) 500 (temps 64 [0,3] [.sl t r.cell 5 r.n,iv i]) [] (fun e τ _=>K e τ.length (pick [0,3] τ) (pick [2] τ)) =
  bif decide ((i:Int)<(r.n:Int)) then bif decide ((i:Int)<(r.n:Int)) then bif decide (tN i<r.n) then bif decide (tN i<r.n) then bif decide (tN i<r.n) then bif decide (tN i<r.n) then
  bif decide (tN i<r.n) then bif r.wd (tN i) != 1 then bif r.wd (tN i) != 2 then K .ret 64 [.sl t r.cell 5 r.n,iv (i:Int)] [iv 12] else bif decide (ByteArray.size (r.tx (tN i))<=9000000) then bif F (r.tx (tN i)) != 0
  then K .ret 64 [.sl t r.cell 5 r.n,iv (i:Int)] [iv 3] else bif decide (ByteArray.size (r.tx (tN i))<=9000000) then bif G (r.tx (tN i)) != r.wd (tN i) then K .ret 64 [.sl t r.cell 5 r.n,iv (i:Int)] [iv 12]
  else bif r.wd (tN i)==2 then bif decide (IntKind.wrap .i64 ((i:Int)+1) >= (r.n:Int)) then K .ret 64 [.sl t r.cell 5 r.n,iv (i:Int)] [iv 12] else bif decide (0<=IntKind.wrap .i64 ((i:Int)+1))
  then bif decide (IntKind.wrap .i64 ((i:Int)+1)<(r.n:Int)) then bif decide (Int.toNat (IntKind.wrap .i64 ((i:Int)+1))+0<r.n) then bif decide (Int.toNat (IntKind.wrap .i64 ((i:Int)+1))+0<r.n)
  then bif decide (Int.toNat (IntKind.wrap .i64 ((i:Int)+1))+0<r.n) then bif decide (Int.toNat (IntKind.wrap .i64 ((i:Int)+1))+0<r.n) then bif decide (Int.toNat (IntKind.wrap .i64 ((i:Int)+1))+0<r.n)
  then bif !bif r.tx (Int.toNat (IntKind.wrap .i64 ((i:Int)+1))+0)=={ data:=#[] } then bif r.wd (Int.toNat (IntKind.wrap .i64 ((i:Int)+1))+0)==0 then bif bif r.fo (Int.toNat (IntKind.wrap .i64 ((i:Int)+1))+0)==r.fo (tN i)
  then bif r.ba (Int.toNat (IntKind.wrap .i64 ((i:Int)+1))+0)==r.ba (tN i) then bif r.fl (Int.toNat (IntKind.wrap .i64 ((i:Int)+1))+0)==r.fl (tN i) then true else false else false else false
  then true else false else false else false then K .ret 64 [.sl t r.cell 5 r.n,iv (i:Int)] [iv 12] else K .normal 64 [.sl t r.cell 5 r.n,iv (IntKind.wrap .i64 ((i:Int)+r.wd (tN i)))] [DV.any]
  else none else none else none else none else none else none else none else K .normal 64 [.sl t r.cell 5 r.n,iv (IntKind.wrap .i64 ((i:Int)+r.wd (tN i)))] [DV.any] else none else none else bif decide (ByteArray.size (r.tx (tN i))<=9000000)
  then bif F (r.tx (tN i)) != 0 then K .ret 64 [.sl t r.cell 5 r.n,iv (i:Int)] [iv 3] else bif decide (ByteArray.size (r.tx (tN i))<=9000000) then bif G (r.tx (tN i)) != r.wd (tN i) then K .ret 64 [.sl t r.cell 5 r.n,iv (i:Int)] [iv 12]
  else bif r.wd (tN i)==2 then bif decide (IntKind.wrap .i64 ((i:Int)+1) >= (r.n:Int)) then K .ret 64 [.sl t r.cell 5 r.n,iv (i:Int)] [iv 12] else bif decide (0<=IntKind.wrap .i64 ((i:Int)+1))
  then bif decide (IntKind.wrap .i64 ((i:Int)+1)<(r.n:Int)) then bif decide (Int.toNat (IntKind.wrap .i64 ((i:Int)+1))+0<r.n) then bif decide (Int.toNat (IntKind.wrap .i64 ((i:Int)+1))+0<r.n)
  then bif decide (Int.toNat (IntKind.wrap .i64 ((i:Int)+1))+0<r.n) then bif decide (Int.toNat (IntKind.wrap .i64 ((i:Int)+1))+0<r.n) then bif decide (Int.toNat (IntKind.wrap .i64 ((i:Int)+1))+0<r.n)
  then bif !bif r.tx (Int.toNat (IntKind.wrap .i64 ((i:Int)+1))+0)=={ data:=#[] } then bif r.wd (Int.toNat (IntKind.wrap .i64 ((i:Int)+1))+0)==0 then bif bif r.fo (Int.toNat (IntKind.wrap .i64 ((i:Int)+1))+0)==r.fo (tN i)
  then bif r.ba (Int.toNat (IntKind.wrap .i64 ((i:Int)+1))+0)==r.ba (tN i) then bif r.fl (Int.toNat (IntKind.wrap .i64 ((i:Int)+1))+0)==r.fl (tN i) then true else false else false else false
  then true else false else false else false then K .ret 64 [.sl t r.cell 5 r.n,iv (i:Int)] [iv 12] else K .normal 64 [.sl t r.cell 5 r.n,iv (IntKind.wrap .i64 ((i:Int)+r.wd (tN i)))] [DV.any]
  else none else none else none else none else none else none else none else K .normal 64 [.sl t r.cell 5 r.n,iv (IntKind.wrap .i64 ((i:Int)+r.wd (tN i)))] [DV.any] else none else none else none
  else none else none else none else none else none else K (.exit 0) 64 [.sl t r.cell 5 r.n,iv (i:Int)] [DV.any]:=by
 kernel_rfl
theorem rq_ls {st:AE.Stat}(hx:Hx st) (hv:VdOk st):LoopS Tryz.prog st gl0 (.loop (loopAt Tryz.f33 58)) (rqI ccF cdF).g:=by
 refine (rqI ccF cdF).ok (E:=env [(72,ckC ccF),(73,cwC cdF)] noLp 0) (p:=500) (tblD_env (l:=[(72,ckC ccF),(73,cwC cdF)]) (fun x h=>?_)) (glOk st).1 (fun _ _ _ h=>nomatch h) (fun x k h=>q_cps h) fun x hx2=>?_
 ·simp only [List.mem_cons,List.not_mem_nil,or_false] at h
  rcases h with rfl | rfl
  ·exact ccC_ok hx hv
  ·exact cdC_ok hx hv
 obtain ⟨t,r,m,i⟩:=x;obtain ⟨hn,hm⟩:r.sized/\r.n<=m+i:=hx2
 have ea:(fun e τ σ=>(rqI ccF cdF).ask ⟨t,r,m,i⟩ e τ.length (pick [0,3] τ) (pick [2] τ) σ:KD Unit)=fun e τ _=>(rqI ccF cdF).ask ⟨t,r,m,i⟩ e τ.length (pick [0,3] τ) (pick [2] τ) []:=by
  funext e τ σ
  exact ask_any rfl (fun _=>rfl) fun _=>rfl
 refine (congrArg (execD Tryz.prog (env [(72,ckC ccF),(73,cwC cdF)] noLp 0) (loopAt Tryz.f33 58) 500 (temps 64 [0,3] [.sl t r.cell 5 r.n,iv i]) []) ea).trans ?_
 refine (rq_loop ccF cdF t r i fun e n ds es=>(rqI ccF cdF).ask ⟨t,r,m,i⟩ e n ds es []).trans ?_
 simp only [Int.toNat_natCast,Nat.add_zero];have hsz:=hn.1
 refine dS (fun hlt=>?_) fun hge=>?_
 ·have hlt:i<r.n:=by omega
  have hts:=hn.2 i hlt
  obtain ⟨m,rfl⟩:∃ m',m=m'+1:=⟨m-1,by omega⟩
  have hW:IntKind.i64.wrap ((i:Int)+1)=((i+1:Nat):Int):=by rw [W_in (by omega) (by omega)]; omega
  simp only [hW,Int.toNat_natCast]
  have hq:p7 ccF cdF r (m+1) i=p7s ccF cdF r i (p7 ccF cdF r m (i+1)) (p7 ccF cdF r m (i+2)):=by simp only [p7,if_pos hlt]
  have stop:∀ (v:Int),v≠0->p7 ccF cdF r (m+1) i=v->(rqI ccF cdF).ask ⟨t,r,m+1,i⟩ .ret 64 [.sl t r.cell 5 r.n,iv i] [iv v] []=some ():=fun v hv hq=>by
   refine LInv.ask_of ⟨rfl,?_,[],?_⟩
   ·simp only [rqI]; rw [hq]; exact (if_neg hv).symm
   ·simp only [rqI]; rw [hq]; show WkP 0 [] _ _ (qo v) _; rw [show qo v=[iv v] from if_neg hv]; exact wk0 (.cons (.v _) .nil) rfl
  have go:∀ (j:Nat) (z:Int),z=((j:Nat):Int)->i<j->p7 ccF cdF r m j=p7 ccF cdF r (m+1) i->(rqI ccF cdF).ask ⟨t,r,m+1,i⟩ .normal 64 [.sl t r.cell 5 r.n,iv z] [.any] []=some ():=fun j z hz hj hq=>by
   subst hz
   exact LInv.ask_of ⟨rfl,⟨t,r,m,j⟩,⟨by simp only [rqI,hq],by simp only [rqI,hq],rfl,hn,by show r.n<=m+j; omega⟩,by simp only [rqI]; omega,[],wk0 (.cons (.sl _ _ _ _) (.cons (.v _) .nil)) rfl⟩
  rw [hq] at stop go;unfold p7s at stop go
  refine dT (by omega) (dT hlt (dT hlt (dT hlt (dT hlt (dT hlt (cS (fun h1=>cS (fun h2=>stop 12 (by decide) (by rw [h1,h2]; rfl)) fun h2=>?_) fun h1=>?_))))))
  ·have hw:r.wd i=2:=by simpa using h2
   have hh:((r.wd i != 1)&&(r.wd i != 2))=false:=by rw [hw]; rfl
   rw [hh,cond_false] at stop go
   refine dT hts (cS (fun h3=>stop 3 (by decide) (by rw [h3]; rfl)) fun h3=>?_)
   rw [h3,cond_false] at stop go
   refine dT hts (cS (fun h4=>stop 12 (by decide) (by rw [h4]; rfl)) fun h4=>?_)
   rw [h4,cond_false] at stop go
   have h5:(r.wd i==1)=false:=by rw [hw]; rfl
   rw [h5,cond_false] at stop go
   refine cS (fun _=>?_) fun h6=>by rw [hw] at h6; cases h6
   refine dS (fun h6=>stop 12 (by decide) ?_) fun h6=>?_
   ·have e:i+1=r.n:=by omega
    have:(((i+1:Nat):Int)==(r.n:Int))=true:=by rw [e]; exact beq_self_eq_true _
    rw [this]; rfl
   have h7:(((i+1:Nat):Int)==(r.n:Int))=false:=by rw [beq_eq_false_iff_ne]; omega
   rw [h7,cond_false] at stop go
   refine dT (by omega) (dT (by omega) (dT (by omega) (dT (by omega) (dT (by omega) (dT (by omega) (dT (by omega) (cS (fun h8=>?_) fun h8=>?_)))))))
   ·have h8:(!r.half i (i+1))=true:=h8
    have h8:r.half i (i+1)=false:=by simpa using h8
    exact stop 12 (by decide) (by rw [h8]; rfl)
   ·have h8:(!r.half i (i+1))=false:=h8
    have h8:r.half i (i+1)=true:=by simpa using h8
    exact go (i+2) _ (by rw [hw,W_in (by omega) (by omega)]; omega) (by omega) (by rw [h8,cond_true])
  ·have hw:r.wd i=1:=by simpa using h1
   have hh:((r.wd i != 1)&&(r.wd i != 2))=false:=by rw [hw]; rfl
   rw [hh,cond_false] at stop go
   refine dT hts (cS (fun h3=>stop 3 (by decide) (by rw [h3]; rfl)) fun h3=>?_)
   rw [h3,cond_false] at stop go
   refine dT hts (cS (fun h4=>stop 12 (by decide) (by rw [h4]; rfl)) fun h4=>?_)
   rw [h4,cond_false] at stop go
   have h5:(r.wd i==1)=true:=by rw [hw]; rfl
   rw [h5,cond_true] at go
   refine cS (fun h6=>by rw [hw] at h6; cases h6) fun _=>?_
   exact go (i+1) _ (by rw [hw,W_in (by omega) (by omega)]; omega) (by omega) rfl
 ·have hr:p7 ccF cdF r m i=0:=by
   cases m with
   | zero=>rfl
   | succ m=>simp only [p7]; rw [if_neg (by omega)]
  refine LInv.ask_of ⟨rfl,?_,[],?_⟩
  ·simp only [rqI]; rw [hr]; rfl
  ·simp only [rqI]; rw [hr]; exact wk0 (.cons (.any _) .nil) rfl
theorem rr_tree (F G:ByteArray->Int) (t:Bool) (r:Row) (k:DV->Option Unit):bodyD Tryz.prog (env [] (lpOf [(58,(rqI F G).g)]) 0) Tryz.f33 [.sl t r.cell 5 r.n] [] (fun d _=>k d) =
  bif decide ((r.n:Int)<1) then k (iv 5) else bif decide ((r.n:Int) > 132) then k (iv 5) else bif holds (((Nat.le (Row.n (rowOf r.cell r.n)) 9000000/\∀ (i:Nat),i<Row.n (rowOf r.cell r.n)->Nat.le (ByteArray.size (Row.tx (rowOf r.cell r.n) i)) 9000000)/\Nat.le (Row.n (rowOf r.cell r.n)) (r.n+0))/\∃ ids,WkP (LInv.m (rqI F G)) ids [.sl t r.cell 5 r.n,iv 0] [] [.sl t (Row.cell (rowOf r.cell r.n)) 5 (Row.n (rowOf r.cell r.n)),iv 0] (LInv.sh (rqI F G) { t:=t,r:=rowOf r.cell r.n,m:=r.n,i:=0 }))
  then bif holds (p7 F G (rowOf r.cell r.n) r.n 0=0) then k (iv 0) else k (iv (p7 F G (rowOf r.cell r.n) r.n 0)) else none:=by
 kernel_rfl
def rowF (r:Row):Int:=bif decide ((r.n:Int)<1) then 5 else bif decide ((r.n:Int) > 132) then 5 else p7 ccF cdF r r.n 0
theorem rr_true (t:Bool) (r:Row) (hr:r.sized):bodyD Tryz.prog (env [] (lpOf [(58,(rqI ccF cdF).g)]) 0) Tryz.f33 [.sl t r.cell 5 r.n] [] (fun d _=>isD (iv (rowF r)) d)=some ():=by
 refine (rr_tree ccF cdF t r _).trans ?_;unfold rowF
 refine dS (fun h=>isD_of ?_) fun h=>dS (fun h2=>isD_of ?_) fun h2=>hT ⟨⟨hr,Nat.le_refl _⟩,[],wk0 (.cons (.sl _ _ _ _) (.cons (.v _) .nil)) rfl⟩ ?_
 ·rw [decide_eq_true h]; rfl
 ·rw [decide_eq_false h,decide_eq_true h2]; rfl
 ·rw [decide_eq_false h,decide_eq_false h2,cond_false,cond_false]
  by_cases hq:p7 ccF cdF r r.n 0=0
  ·exact hT hq (isD_of (by rw [hq]))
  ·exact hF hq (isD_of rfl)
theorem rrC_ok {st:AE.Stat}(hx:Hx st) (hv:VdOk st):ConOk Tryz.prog st 33 (rcC rowF):=by
 refine con_flat (mg:=[]) (l:=[]) (lp:=lpOf [(58,(rqI ccF cdF).g)]) (n:=0) (glOk st) (fun _ h=>nomatch h) Tryz.func33 (by kernel_rfl) (by kernel_rfl) (hx 33 rfl) (lp_one (by kernel_rfl) (rq_ls hx hv)) fun args k hk=>?_
 unfold rcC at hk
 split at hk<;>first | (cases hk; done) | skip
 rename_i t g n;obtain ⟨hb,hk⟩:=bif_none hk;have hb:=holds_eq.1 hb;exact ⟨[.sl t (rowOf g n).cell 5 n],_,.cons (hb.cv t) .nil,v_clo _,hk,rr_true t (rowOf g n) hb.row⟩
end Go.Proofs.YtigmkgampfbflaaGreatDoor
namespace Go.Proofs.YtigmkgampfbflaaGreatDoor
open Go Go.AE Go.DE Go.RowKit
theorem marks_same {z y:Nat->Int}:∀ (m i:Nat),(∀ j,i<=j->j<i+m->y j=z (1+j))->mrkR (findF mkL) y m i=marksF z m (1+i)
 | 0,_,_=>rfl
 | m+1,i,h=>by
  rw [mrkR,marksF,mk_same,h i (Nat.le_refl _) (by omega),marks_same m (i+1) fun j h1 h2=>h j (by omega) (by omega),show 1+(i+1)=1+i+1 by omega]
theorem cond_n {b:Bool}{x y v:Int}(h:(bif b then x else y)=v) (hx:x≠v):b=false/\y=v:=by
 cases b with
 | true=>exact absurd h hx
 | false=>exact ⟨rfl,h⟩
theorem cond_y {b:Bool}{x y v:Int}(h:(bif b then x else y)=v) (hy:y≠v):b=true/\x=v:=by
 cases b with
 | true=>exact ⟨rfl,h⟩
 | false=>exact absurd h hy
theorem check3_zero {s:ByteArray}(h:check3 s=0):ccF s=0/\cdF s=width3 s:=by
 have h0:=h;unfold check3 at h
 obtain ⟨h1,h⟩:=cond_n h (by decide)
 obtain ⟨h2,h⟩:=cond_y h (by decide)
 obtain ⟨h3,h⟩:=cond_n h (by decide)
 obtain ⟨h4,h⟩:=cond_n h (by decide)
 obtain ⟨h5,h⟩:=cond_y h (by decide)
 obtain ⟨h6,_⟩:=cond_n h (by decide)
 have hp:=check3_ne h0;obtain ⟨r1,r2⟩:=valid_rune h2
 have hc:ccF s=0:=by
  have e4:decide (cwF (runeAt s 0)<1)=false:=by rw [cw_same,r2 0 hp]; exact h4
  have e5:mrkF (fun i=>runeAt s (1+i)) (runeN s-1)=true:=by
   unfold mrkF
   rw [marks_same (z:=lw (decF s).1) _ 0 fun j _ hj=>r2 (1+j) (by omega),r1]
   exact h5
  have e6:decide ((runeN s:Int)-1 > 3)=false:=by
   have h6:=of_decide_eq_false h6;rw [r1]
   exact decide_eq_false (by omega)
  unfold ccF;rw [h1,valid_vd h2,e4,e5,e6];rfl
 refine ⟨hc,?_⟩;unfold cdF width3;rw [hc,if_pos h0,cw_same,r2 0 hp];rfl
theorem c7_zero {r:Row}:∀ (m i:Nat),c7 r m i=0->p7 ccF cdF r m i=0
 | 0,_,_=>rfl
 | m+1,i,h=>by
  rw [c7] at h;rw [p7]
  by_cases hi:i<r.n
  ·rw [if_pos hi] at h ⊢;unfold c7s at h;unfold p7s
   obtain ⟨h1,h⟩:=cond_n h (by decide)
   obtain ⟨h2,h⟩:=cond_n h (by decide)
   obtain ⟨h3,h⟩:=cond_n h (by decide)
   obtain ⟨e1,e2⟩:=check3_zero (s:=r.tx i) (by simpa using h2)
   rw [h1,e1,e2,h3]
   cases h4:r.wd i==1 with
   | true =>
    rw [h4,cond_true] at h;exact c7_zero m _ h
   | false =>
    rw [h4,cond_false] at h
    obtain ⟨h5,h⟩:=cond_n h (by decide)
    obtain ⟨h6,h⟩:=cond_y h (by decide)
    rw [h5,h6];exact c7_zero m _ h
  ·rw [if_neg hi]
theorem check7_zero {r:Row}(h:check7 r=0):rowF r=0/\1<=r.n/\r.n<=132:=by
 unfold check7 at h
 obtain ⟨h1,h⟩:=cond_n h (by decide)
 obtain ⟨h2,h⟩:=cond_n h (by decide)
 refine ⟨?_,by have:=of_decide_eq_false h1; omega,by have:=of_decide_eq_false h2; omega⟩
 unfold rowF;rw [h1,h2];exact c7_zero _ _ h
theorem g8_zero {R:Nat->Row}{w:Int}:∀ (m i:Nat),g8 R w m i=0->∀ j,i<=j->j<i+m->((R j).n:Int)=w/\check7 (R j)=0
 | 0,i,_,j,h1,h2=>by omega
 | m+1,i,h,j,h1,h2=>by
  rw [g8] at h;unfold g8s at h
  obtain ⟨q1,h⟩:=cond_n h (by decide)
  cases q2:check7 (R i) != 0 with
  | true =>
   rw [q2,cond_true] at h;rw [h] at q2;cases q2
  | false =>
   rw [q2,cond_false] at h
   by_cases e:i=j
   ·subst e
    exact ⟨by simpa using q1,by simpa using q2⟩
   ·exact g8_zero m (i+1) h j (by omega) (by omega)
theorem check8_zero {w h:Int}{R:Nat->Row}{n:Nat}(hz:check8 w h R n=0):1<=w/\w<=132/\1<=h/\h<=60/\(n:Int)=h/\∀ j,j<n->((R j).n:Int)=w/\check7 (R j)=0:=by
 unfold check8 at hz
 obtain ⟨h1,hz⟩:=cond_y hz (by decide)
 obtain ⟨h2,hz⟩:=cond_n hz (by decide)
 simp only [Bool.and_eq_true,decide_eq_true_eq] at h1
 refine ⟨by omega,by omega,by omega,by omega,by simpa using h2,fun j hj=>g8_zero n 0 hz j (Nat.zero_le _) (by omega)⟩
structure Prp (x:Tm):Prop where
 g:check8 (x.I 0) (x.I 1) x.gR x.gn=0
 o:check8 (x.I 3) (x.I 4) x.oR x.on=0
 w:x.I 0=x.I 3
 h:x.I 1=x.I 4
 c:insF (x.I 6) (x.I 7) (x.B 8) (x.I 0) (x.I 1)=true
 d:insF (x.I 9) (x.I 10) (x.B 11) (x.I 0) (x.I 1)=true
 a:rgtF (x.I 19) (x.I 20) (x.I 21)≠0
 a2:rgtF (x.I 12) (x.I 13) (x.I 14)≠0
 s:setF (x.I 30) (x.I 31) (x.I 32)=true
 s2:setF (x.I 16) (x.I 17) (x.I 18)=true
 t0:0<=x.I 33
 t1:x.I 33<x.I 34
 t2:x.I 34<=x.I 1
 tn:(x.tn:Int)=x.I 0
 bn:(x.bn:Int)<=500
 v:validF (x.S 40)=true
 b:∀ j,j<x.bn->check7 (x.bR j)=0
theorem Prp.rows {x:Tm}(p:Prp x) {j:Nat}(hj:j<x.gn):((x.gR j).n:Int)=x.I 0/\rowF (x.gR j)=0:=by
 obtain ⟨_,_,_,_,_,h⟩:=check8_zero p.g;exact ⟨(h j hj).1,(check7_zero (h j hj).2).1⟩
def tmOf (ds:List DV):Tm where
 I j:=numD (ds.getD j .any)
 B j:=boolD (ds.getD j .any)
 S j:=strD (ds.getD j .any)
 gT i:=slT (slG (ds.getD 2 .any) i 0)
 gR i:=rowD (slG (ds.getD 2 .any) i 0)
 gn:=slN (ds.getD 2 .any)
 oT i:=slT (slG (ds.getD 5 .any) i 0)
 oR i:=rowD (slG (ds.getD 5 .any) i 0)
 on:=slN (ds.getD 5 .any)
 tb i:=boolD (slG (ds.getD 35 .any) i 0)
 tn:=slN (ds.getD 35 .any)
 bT i:=slT (slG (ds.getD 36 .any) i 0)
 bR i:=rowD (slG (ds.getD 36 .any) i 0)
 bn:=slN (ds.getD 36 .any)
def rowsPos (R:Nat->Row) (n:Nat):Prop:=n<=9000000/\∀ i,i<n->(R i).sized/\0<(R i).n
def rowsAre (G:Nat->Nat->DV) (n:Nat):Prop:=n<=9000000/\∀ i,i<n->isRow (G i 0)/\0<slN (G i 0)
def Tm.pos (x:Tm):Prop:=rowsPos x.gR x.gn/\rowsPos x.oR x.on/\rowsPos x.bR x.bn/\x.tn<=9000000/\0<x.tn
theorem are_of {T:Nat->Bool}{R:Nat->Row}{n:Nat}(h:rowsPos R n):rowsAre (rowsD T R) n:=⟨h.1,fun i hi=>⟨isRow_of (h.2 i hi).1,(h.2 i hi).2⟩⟩
theorem Prp.pos {x:Tm}(p:Prp x) (ok:x.ok):x.pos:=by
 obtain ⟨a1,a2,a3,a4,a5,a6⟩:=check8_zero p.g;obtain ⟨b1,b2,b3,b4,b5,b6⟩:=check8_zero p.o;obtain ⟨o1,o2,o3,o4,o5,o6⟩:=ok;have tn:=p.tn
 refine ⟨⟨o1.1,fun i hi=>⟨o1.2 i hi,?_⟩⟩,⟨o2.1,fun i hi=>⟨o2.2 i hi,?_⟩⟩,⟨o3.1,fun i hi=>⟨o3.2 i hi,?_⟩⟩,o4,by omega⟩
 ·have:=(check7_zero (a6 i hi).2).2.1; omega
 ·have:=(check7_zero (b6 i hi).2).2.1; omega
 ·have:=(check7_zero (p.b i hi)).2.1; omega
end Go.Proofs.YtigmkgampfbflaaGreatDoor
namespace Go.Proofs.YtigmkgampfbflaaGreatDoor
open Go Go.AE Go.DE Go.RowKit
structure B9X where
 a:Int
 c:Int
 w:Nat
 i:Nat
end Go.Proofs.YtigmkgampfbflaaGreatDoor
namespace Go.Proofs.YtigmkgampfbflaaGreatDoor
open Go Go.AE Go.DE Go.RowKit
end Go.Proofs.YtigmkgampfbflaaGreatDoor
namespace Go.Proofs.YtigmkgampfbflaaGreatDoor
open Go Go.AE Go.DE Go.RowKit
theorem SubZ.cv {r:Nat->Option Nat}{zs:Nat->Option DBlk}{d d1 d2:DV}(h1:Cv d1 d2) (h:SubZ r zs d1 d):SubZ r zs d2 d:=fun C μ x hF hx=>h1 _ _ _ (h C μ x hF hx)
theorem tabs_low (T:Nat->Bool) (n:Nat):Low (.sl false (tabsD T) 1 n):=.sl fun _ _ _ _=>.v _
def evB:DV:=.v (.string ⟨#[]⟩)
def zeroL:List DV:=[iv 0,iv 0,nilS,iv 0,iv 0,nilS,iv 0,iv 0,bv false,iv 0,iv 0,bv false,iv 0,iv 0,iv 0,bv false,kv .u8 0,kv .u8 0,iv 0,iv 0,iv 0,iv 0,
 bv false,bv false,bv false,bv false,bv false,bv false,bv false,bv false,kv .u8 0,kv .u8 0,iv 0,iv 0,iv 0,nilS,nilS,iv 0,evB,evB,evB,evB]
theorem tup_agg {l:List DV}{z:Value}(h:∀ d∈l,Clo d) (h2:∀ d∈l,Low d):Clo (.tup [.agg l,.v z])/\Low (.tup [.agg l,.v z]):=⟨.tup fun d hd=>by
 simp only [List.mem_cons,List.not_mem_nil,or_false] at hd
 rcases hd with rfl | rfl
 ·exact .agg h
 ·exact .v _,.tup fun d hd=>by
 simp only [List.mem_cons,List.not_mem_nil,or_false] at hd
 rcases hd with rfl | rfl
 ·exact .agg h2
 ·exact .v _⟩
end Go.Proofs.YtigmkgampfbflaaGreatDoor
namespace Go.Proofs.YtigmkgampfbflaaGreatDoor
open Go Go.AE Go.DE Go.RowKit
structure ZS7 where
 t:Bool
 u:Bool
 r:Row
 i:Nat
theorem Cv.tr {a b c:DV}(h:Cv a b) (h2:Cv b c):Cv a c:=fun C μ v hv=>h2 C μ v (h C μ v hv)
def cellsSame (g h:Nat->Nat->DV) (n:Nat):Prop:=cellsOk g n/\∀ i,i<n->∀ f,f<5->h i f=g i f
theorem cellsSame.cv {g h:Nat->Nat->DV}{n:Nat}(e:cellsSame g h n) (u:Bool):Cv (.sl u h 5 n) (.sl u (rowOf g n).cell 5 n):=Cv.tr (Cv.sl fun i f hi hf=>.of (e.2 i hi f hf)) (e.1.cv u)
structure ZS8 where
 t:Bool
 u:Bool
 T:Nat->Bool
 U:Nat->Bool
 R:Nat->Row
 n:Nat
 i:Nat
def rowsSo (G:Nat->Nat->DV) (n:Nat):Prop:=n<=9000000/\∀ i,i<n->isRow (G i 0)
def rowsSame (G H:Nat->Nat->DV) (n:Nat):Prop:=rowsSo G n/\∀ i,i<n->isRow (H i 0)/\slN (H i 0)=slN (G i 0)/\∀ j,j<slN (G i 0)->∀ f,f<5->slG (H i 0) j f=slG (G i 0) j f
theorem rowsSame.cv {G H:Nat->Nat->DV}{n:Nat}(h:rowsSame G H n) (u:Bool):Cv (.sl u H 1 n) (.sl u (rowsD (fun i=>slT (H i 0)) fun i=>rowD (G i 0)) 1 n):=Cv.sl fun i f hi hf=>by
 obtain rfl:f=0:=by omega
 obtain ⟨h1,h2,h3⟩:=h.2 i hi;obtain ⟨g1,g2⟩:=h.1.2 i hi;refine Cv.tr (.of h1.1) ?_;rw [h2];exact cellsSame.cv (g:=slG (G i 0)) ⟨g2,h3⟩ _
structure ZS9 where
 t:Bool
 u:Bool
 z:Nat->Bool
 n:Nat
 i:Nat
end Go.Proofs.YtigmkgampfbflaaGreatDoor
