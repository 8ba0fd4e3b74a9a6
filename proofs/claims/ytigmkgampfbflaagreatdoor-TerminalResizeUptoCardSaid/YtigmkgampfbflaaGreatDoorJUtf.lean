/-
 Plain laws: a string that the reference takes for well formed is one for the program too,with the same characters.
 Conditions: none beyond those of the contracts.
-/
import Derived.Test.YtigmkgampfbflaaGreatDoorJCw
import Derived.Lib.ValidLaws
import Derived.Test.YtigmkgampfbflaaGreatDoorAeSub2
import Derived.Test.YtigmkgampfbflaaGreatDoorAeFast4
import Derived.Test.YtigmkgampfbflaaGreatDoorDeNd
import Derived.Test.YtigmkgampfbflaaGreatDoorProg
import Derived.KernelRfl
import Derived.Test.YtigmkgampfbflaaGreatDoorJGrid
namespace Go.Proofs.YtigmkgampfbflaaGreatDoor
open Go Go.AE Go.DE Go.RowKit
def Scal (v:Int):Prop:=(0≤v∧v<55296)∨(57344≤v∧v≤1114111)
def enN (c:Nat):List Nat :=
 if c<128 then [c] else if c<2048 then [192+c / 64,128+c % 64] else if c<65536 then [224+c / 4096,128+c / 64 % 64,128+c % 64]
 else [240+c / 262144,128+c / 4096 % 64,128+c / 64 % 64,128+c % 64]
theorem td (c n:Nat):Int.tdiv (c:Int) (n:Int)=((c / n:Nat):Int):=rfl
theorem tm (c n:Nat):Int.tmod (c:Int) (n:Int)=((c % n:Nat):Int):=rfl
theorem w32 {x:Int}(h1:0≤x) (h2:x<2147483648):IntKind.i32.wrap x=x:=by rw [IntKind.wrap_i32]; omega
theorem w8 {x:Int}(h1:0≤x) (h2:x<256):IntKind.u8.wrap x=x:=by rw [IntKind.wrap_u8]; omega
theorem enB_nat {c:Nat}(h:Scal c):enB (c:Int)=(enN c).map (fun n:Nat=>(n:Int)):=by
 have h:(c:Int)<55296∨(57344≤(c:Int)∧(c:Int)≤1114111):=by rcases h with h | h<;>omega
 unfold enB enN
 rw [if_neg (by omega),if_neg (by omega),if_neg (by omega)]
 by_cases h1:c<128
 ·rw [if_pos (by omega),if_pos h1]
  simp only [enc1,List.map_cons,List.map_nil,w8 (x:=(c:Int)) (by omega) (by omega)]
 rw [if_neg (by omega),if_neg h1]
 have e64:Int.tdiv (c:Int) 64=((c / 64:Nat):Int):=td c 64
 have e4096:Int.tdiv (c:Int) 4096=((c / 4096:Nat):Int):=td c 4096
 have e262144:Int.tdiv (c:Int) 262144=((c / 262144:Nat):Int):=td c 262144
 have m64:Int.tmod (c:Int) 64=((c % 64:Nat):Int):=tm c 64
 have m6464:Int.tmod ((c / 64:Nat):Int) 64=((c / 64 % 64:Nat):Int):=tm (c / 64) 64
 have m4096:Int.tmod ((c / 4096:Nat):Int) 64=((c / 4096 % 64:Nat):Int):=tm (c / 4096) 64
 by_cases h2:c<2048
 ·rw [if_pos (by omega),if_pos h2]
  simp only [enc2,List.map_cons,List.map_nil,e64,m64]
  rw [w32 (x:=((c / 64:Nat):Int)) (by omega) (by omega),w32 (x:=192+((c / 64:Nat):Int)) (by omega) (by omega),w8 (x:=192+((c / 64:Nat):Int)) (by omega) (by omega),
   w32 (x:=128+((c % 64:Nat):Int)) (by omega) (by omega),w8 (x:=128+((c % 64:Nat):Int)) (by omega) (by omega)]
  simp only [Int.natCast_add]
  rfl
 rw [if_neg (by omega),if_neg h2]
 by_cases h3:c<65536
 ·rw [if_pos (by omega),if_pos h3]
  simp only [enc3,List.map_cons,List.map_nil,e64,m64,e4096]
  rw [w32 (x:=((c / 4096:Nat):Int)) (by omega) (by omega),w32 (x:=224+((c / 4096:Nat):Int)) (by omega) (by omega),w8 (x:=224+((c / 4096:Nat):Int)) (by omega) (by omega),
   w32 (x:=((c / 64:Nat):Int)) (by omega) (by omega),m6464,w32 (x:=128+((c / 64 % 64:Nat):Int)) (by omega) (by omega),w8 (x:=128+((c / 64 % 64:Nat):Int)) (by omega) (by omega),
   w32 (x:=128+((c % 64:Nat):Int)) (by omega) (by omega),w8 (x:=128+((c % 64:Nat):Int)) (by omega) (by omega)]
  simp only [Int.natCast_add]
  rfl
 ·rw [if_neg (by omega),if_neg h3]
  simp only [enc4,List.map_cons,List.map_nil,e64,m64,e4096,e262144]
  rw [w32 (x:=((c / 262144:Nat):Int)) (by omega) (by omega),w32 (x:=240+((c / 262144:Nat):Int)) (by omega) (by omega),w8 (x:=240+((c / 262144:Nat):Int)) (by omega) (by omega),
   w32 (x:=((c / 4096:Nat):Int)) (by omega) (by omega),m4096,w32 (x:=128+((c / 4096 % 64:Nat):Int)) (by omega) (by omega),w8 (x:=128+((c / 4096 % 64:Nat):Int)) (by omega) (by omega),
   w32 (x:=((c / 64:Nat):Int)) (by omega) (by omega),m6464,w32 (x:=128+((c / 64 % 64:Nat):Int)) (by omega) (by omega),w8 (x:=128+((c / 64 % 64:Nat):Int)) (by omega) (by omega),
   w32 (x:=128+((c % 64:Nat):Int)) (by omega) (by omega),w8 (x:=128+((c % 64:Nat):Int)) (by omega) (by omega)]
  simp only [Int.natCast_add]
  rfl
def byN (c:Nat):List UInt8:=(enN c).map UInt8.ofNat
def byL (zs:List Int):List UInt8:=zs.flatMap fun v=>byN v.toNat
theorem ofN {n:Nat}(h:n<256):(UInt8.ofNat n).toNat=n:=by rw [UInt8.toNat_ofNat']; omega
theorem dec_enc {c:Nat}(h:Scal c) (rest:List UInt8):Lib.decodeL (byN c++rest)=(c,(byN c).length):=by
 have h:(c:Int)<55296∨(57344≤(c:Int)∧(c:Int)≤1114111):=by rcases h with h | h<;>omega
 rw [Lib.decodeL_N]
 unfold byN enN
 by_cases h1:c<128
 ·rw [if_pos h1]
  simp only [List.map_cons,List.map_nil,List.cons_append,List.nil_append,List.getD_cons_zero,List.length_cons,List.length_nil]
  rw [ofN (by omega)]
  unfold Lib.decodeN
  rw [if_pos h1]
 rw [if_neg h1]
 by_cases h2:c<2048
 ·rw [if_pos h2]
  simp only [List.map_cons,List.map_nil,List.cons_append,List.nil_append,List.getD_cons_zero,List.getD_cons_succ,List.length_cons,List.length_nil]
  rw [ofN (n:=192+c / 64) (by omega),ofN (n:=128+c % 64) (by omega)]
  unfold Lib.decodeN
  rw [if_neg (by omega),if_pos (by omega),if_pos (by omega)]
  exact Prod.ext (by show (192+c / 64) % 32*64+(128+c % 64) % 64=c; omega) rfl
 rw [if_neg h2]
 by_cases h3:c<65536
 ·rw [if_pos h3]
  simp only [List.map_cons,List.map_nil,List.cons_append,List.nil_append,List.getD_cons_zero,List.getD_cons_succ,List.length_cons,List.length_nil]
  rw [ofN (n:=224+c / 4096) (by omega),ofN (n:=128+c / 64 % 64) (by omega),ofN (n:=128+c % 64) (by omega)]
  have e:(224+c / 4096) % 16*4096+(128+c / 64 % 64) % 64*64+(128+c % 64) % 64=c:=by omega
  unfold Lib.decodeN
  rw [if_neg (by omega),if_neg (by omega),if_pos (by omega),e,if_pos (by omega)]
 ·rw [if_neg h3]
  simp only [List.map_cons,List.map_nil,List.cons_append,List.nil_append,List.getD_cons_zero,List.getD_cons_succ,List.length_cons,List.length_nil]
  rw [ofN (n:=240+c / 262144) (by omega),ofN (n:=128+c / 4096 % 64) (by omega),ofN (n:=128+c / 64 % 64) (by omega),ofN (n:=128+c % 64) (by omega)]
  have e:(240+c / 262144) % 8*262144+(128+c / 4096 % 64) % 64*4096+(128+c / 64 % 64) % 64*64+(128+c % 64) % 64=c:=by omega
  unfold Lib.decodeN
  rw [if_neg (by omega),if_neg (by omega),if_neg (by omega),if_pos (by omega),e,if_pos (by omega)]
theorem byN_len (c:Nat):1≤(byN c).length∧((byN c).length=1→c<128):=by
 unfold byN enN
 by_cases h1:c<128
 ·rw [if_pos h1]; simp; exact h1
 rw [if_neg h1]
 by_cases h2:c<2048
 ·rw [if_pos h2]; simp
 rw [if_neg h2]
 by_cases h3:c<65536
 ·rw [if_pos h3]; simp
 ·rw [if_neg h3]; simp
theorem scal_nat {v:Int}(h:Scal v):Scal ((v.toNat:Nat):Int)∧((v.toNat:Nat):Int)=v:=by
 have e:((v.toNat:Nat):Int)=v:=by rcases h with h | h<;>omega
 exact ⟨e.symm ▸ h,e⟩
theorem byL_cons (v:Int) (zs:List Int):byL (v :: zs)=byN v.toNat++byL zs:=rfl
theorem byN_ne (c:Nat) (r:List UInt8):byN c++r≠[]:=fun e=>by
 have:=(byN_len c).1
 rw [List.append_eq_nil_iff] at e
 rw [e.1] at this
 exact absurd this (by decide)
theorem valid_byL:∀ {zs:List Int},(∀ v∈zs,Scal v)→Lib.validD (byL zs)=true
 | [],_=>rfl
 | v :: zs,h=>by
  obtain ⟨h1,h2⟩:=scal_nat (h v (by simp))
  rw [byL_cons,Lib.validD_step _ (byN_ne _ _),dec_enc h1,List.drop_left,if_neg ?_]
  ·exact valid_byL fun u hu=>h u (by simp [hu])
  ·rintro ⟨q1,q2⟩
   have:=(byN_len v.toNat).2 q2
   omega
theorem runes_byL (s:ByteArray):∀ (zs:List Int) (i b:Nat) (acc:Array Value),(∀ v∈zs,Scal v)→s.data.toList.drop i=byL zs→(byL zs).length≤b →
  (Conv.runesFrom s b i acc).toList=acc.toList++zs.map fun v=>Value.int .i32 v
 | [],i,b,acc,_,hs,hb=>by
  have hi:s.size≤i:=by
   have:(s.data.toList.drop i).length=0:=by rw [hs]; rfl
   rw [List.length_drop] at this
   have:s.size=s.data.toList.length:=rfl
   omega
  cases b with
  | zero=>simp [Conv.runesFrom]
  | succ b=>unfold Conv.runesFrom; rw [if_neg (by omega)]; simp
 | v :: zs,i,b,acc,h,hs,hb=>by
  obtain ⟨h1,h2⟩:=scal_nat (h v (by simp))
  have hl:=(byN_len v.toNat).1
  rw [byL_cons,List.length_append] at hb
  obtain ⟨b,rfl⟩:∃ b',b=b'+1:=⟨b-1,by omega⟩
  have hi:i<s.size:=by
   have e:(s.data.toList.drop i).length=(byL (v :: zs)).length:=by rw [hs]
   rw [List.length_drop,byL_cons,List.length_append] at e
   have:s.size=s.data.toList.length:=rfl
   omega
  have hd:Utf8.decode s i=(v.toNat,(byN v.toNat).length):=by rw [← Lib.decodeL_drop,hs,byL_cons,dec_enc h1]
  unfold Conv.runesFrom
  rw [if_pos hi,hd]
  simp only
  rw [runes_byL s zs _ b _ (fun u hu=>h u (by simp [hu])) ?_ (by omega)]
  ·simp only [Array.toList_push,List.append_assoc,List.map_cons,List.cons_append,List.nil_append]
   rw [show Int.ofNat v.toNat=v from h2]
  ·rw [← List.drop_drop,hs,byL_cons,List.drop_left]
theorem rune_eq {s:ByteArray}{zs:List Int}(h:∀ v∈zs,Scal v) (hs:s.data.toList=byL zs):runeN s=zs.length∧∀ i,i<zs.length→runeAt s i=lw zs i:=by
 have e:=runes_byL s zs 0 s.size #[] h (by rw [List.drop_zero,hs]) (by rw [← hs]; exact Nat.le_refl _)
 have e:(Conv.runesFrom s s.size 0 #[]).toList=zs.map fun v=>Value.int .i32 v:=e
 refine ⟨?_,fun i hi=>?_⟩
 ·unfold runeN
  rw [← Array.length_toList,e,List.length_map]
 ·unfold runeAt
  rw [← Array.getElem?_toList,e,List.getElem?_map,List.getElem?_eq_getElem hi,Option.map_some]
  simp only [lw,List.getD_eq_getElem?_getD,List.getElem?_eq_getElem hi,Option.getD_some]
theorem enR_app (z:Nat→Int):∀ (m i:Nat) (b:List Int),enR z m i b=b++(List.range m).flatMap fun j=>enB (z (i+j))
 | 0,i,b=>by simp [enR]
 | m+1,i,b=>by
  rw [enR,enR_app z m,List.range_succ_eq_map,List.flatMap_cons,List.append_assoc,List.flatMap_map]
  congr 3
  funext j
  rw [Nat.add_assoc,Nat.add_comm 1 j]
theorem range_flat {α:Type}(f:Int→List α):∀ (zs:List Int),((List.range zs.length).flatMap fun j=>f (lw zs (0+j)))=zs.flatMap f
 | []=>rfl
 | v :: zs=>by
  rw [List.length_cons,List.range_succ_eq_map,List.flatMap_cons,List.flatMap_map,List.flatMap_cons,← range_flat f zs]
  congr 2
theorem fold_push:∀ (l:List Int) (r:ByteArray),(l.foldl (fun r n=>r.push (UInt8.ofNat n.toNat)) r).data.toList=r.data.toList++l.map fun n=>UInt8.ofNat n.toNat
 | [],r=>by simp
 | n :: l,r=>by
  rw [List.foldl_cons,fold_push l]
  simp [ByteArray.push]
theorem encF_bytes {zs:List Int}(h:∀ v∈zs,Scal v):(encF (lw zs) zs.length).data.toList=byL zs:=by
 unfold encF bytesS
 rw [fold_push]
 have e:(List.range (enR (lw zs) zs.length 0 []).length).map (lw (enR (lw zs) zs.length 0 []))=enR (lw zs) zs.length 0 []:=by
  apply List.ext_getElem?
  intro i
  rw [List.getElem?_map]
  by_cases hi:i<(enR (lw zs) zs.length 0 []).length
  ·rw [List.getElem?_range hi,Option.map_some]
   simp [lw,List.getElem?_eq_getElem hi]
  ·rw [List.getElem?_eq_none (by rw [List.length_range]; omega),List.getElem?_eq_none (by omega)]; rfl
 rw [e,enR_app,List.nil_append,range_flat,show ByteArray.empty.data.toList=[] from rfl,List.nil_append,List.map_flatMap]
 unfold byL
 clear e
 induction zs with
 | nil=>rfl
 | cons v zs ih =>
  rw [List.flatMap_cons,List.flatMap_cons,ih fun u hu=>h u (by simp [hu])]
  obtain ⟨h1,h2⟩:=scal_nat (h v (by simp))
  have e:=enB_nat h1
  rw [h2] at e
  rw [e,List.map_map]
  rfl
def Pre (k:List Int):Prop :=
 k=[]∨(∃ p,k=[p]∧194≤p∧p≤244)∨(∃ p q,k=[p,q]∧224≤p∧p≤244∧128≤q∧q≤191∧(p=237→q≤159)∧(p=244→q≤143)∧(p=240→144≤q)) ∨
  ∃ p q r,k=[p,q,r]∧240≤p∧p≤244∧128≤q∧q≤191∧(p=244→q≤143)∧(p=240→144≤q)∧128≤r∧r≤191
theorem szF_of (p:Int):(194≤p∧p≤223∧szF p=2)∨(224≤p∧p≤239∧szF p=3)∨(240≤p∧p≤244∧szF p=4)∨((p<194∨244<p)∧szF p=0):=by
 unfold szF
 by_cases a1:p ≥ 194
 ·by_cases a2:p≤223
  ·left; simp [a1,a2]
  ·by_cases a3:p≤239
   ·right; left
    have:p ≥ 224:=by omega
    simp [a1,a2,a3,this]
   ·by_cases a4:p≤244
    ·right; right; left
     have b1:p ≥ 224:=by omega
     have b2:p ≥ 240:=by omega
     simp [a1,a2,a3,a4,b1,b2]
    ·right; right; right
     have b1:p ≥ 224:=by omega
     have b2:p ≥ 240:=by omega
     simp [a1,a2,a3,a4,b1,b2]
     omega
 ·right; right; right
  have b1:¬ p ≥ 224:=by omega
  have b2:¬ p ≥ 240:=by omega
  simp [a1,b1,b2]
  omega
theorem byteAt_b (s:ByteArray) (i:Nat):0≤byteAt s i∧byteAt s i<256:=by
 unfold byteAt
 have:=(s.data.toList.getD i 0).toNat_lt
 omega
theorem lo1 (p:Int):128≤loF p 1∧(p=240→144≤loF p 1):=by
 unfold loF
 by_cases h1:p=224
 ·subst h1; simp
 by_cases h2:p=237
 ·subst h2; simp
 by_cases h3:p=240
 ·subst h3; simp
 have e1:(p==224)=false:=beq_eq_false_iff_ne.2 h1
 have e2:(p==237)=false:=beq_eq_false_iff_ne.2 h2
 have e3:(p==240)=false:=beq_eq_false_iff_ne.2 h3
 rw [e1,e2,e3]
 exact ⟨by decide,fun e=>absurd e h3⟩
theorem hi1 (p:Int):hiF p 1≤191∧(p=237→hiF p 1≤159)∧(p=244→hiF p 1≤143):=by
 unfold hiF
 by_cases h1:p=224
 ·subst h1; simp
 by_cases h2:p=237
 ·subst h2; simp
 by_cases h3:p=240
 ·subst h3; simp
 by_cases h4:p=244
 ·subst h4; simp
 have e1:(p==224)=false:=beq_eq_false_iff_ne.2 h1
 have e2:(p==237)=false:=beq_eq_false_iff_ne.2 h2
 have e3:(p==240)=false:=beq_eq_false_iff_ne.2 h3
 have e4:(p==244)=false:=beq_eq_false_iff_ne.2 h4
 rw [e1,e2,e3,e4]
 exact ⟨by decide,fun e=>absurd e h2,fun e=>absurd e h4⟩
theorem lo2 (p:Int) {n:Nat}(h:n≠1):loF p n=128:=by
 unfold loF
 have:((n:Int)==1)=false:=by rw [beq_eq_false_iff_ne]; omega
 rw [this]; rfl
theorem hi2 (p:Int) {n:Nat}(h:n≠1):hiF p n=191:=by
 unfold hiF
 have:((n:Int)==1)=false:=by rw [beq_eq_false_iff_ne]; omega
 rw [this]; rfl
theorem stepV_eq {a b:Int}(h1:0≤a) (h2:a<30000) (h3:128≤b) (h4:b<256):stepV a b=a*64+(b-128):=by
 unfold stepV
 rw [w32 (x:=a*64) (by omega) (by omega),w32 (x:=b) (by omega) (by omega),w32 (x:=a*64+b) (by omega) (by omega),w32 (by omega) (by omega)]
 omega
theorem val2_eq {p b:Int}(h1:194≤p) (h2:p≤223) (h3:128≤b) (h4:b≤191):valF (lw [p,b]) 2=(p-192)*64+(b-128):=by
 show stepV (valA (lw [p,b]) 2) b=_
 have e:valA (lw [p,b]) 2=IntKind.i32.wrap (IntKind.i32.wrap p-192):=rfl
 rw [e,w32 (x:=p) (by omega) (by omega),w32 (x:=p-192) (by omega) (by omega),stepV_eq (by omega) (by omega) h3 (by omega)]
theorem val3_eq {p q b:Int}(h1:224≤p) (h2:p≤239) (h3:128≤q) (h4:q≤191) (h5:128≤b) (h6:b≤191):valF (lw [p,q,b]) 3=((p-224)*64+(q-128))*64+(b-128):=by
 show stepV (stepV (valA (lw [p,q,b]) 3) q) b=_
 have e:valA (lw [p,q,b]) 3=IntKind.i32.wrap (IntKind.i32.wrap p-224):=rfl
 rw [e,w32 (x:=p) (by omega) (by omega),w32 (x:=p-224) (by omega) (by omega),stepV_eq (a:=p-224) (by omega) (by omega) h3 (by omega),stepV_eq (by omega) (by omega) h5 (by omega)]
theorem val4_eq {p q r b:Int}(h1:240≤p) (h2:p≤244) (h3:128≤q) (h4:q≤191) (h5:128≤r) (h6:r≤191) (h7:128≤b) (h8:b≤191) :
  valF (lw [p,q,r,b]) 4=(((p-240)*64+(q-128))*64+(r-128))*64+(b-128):=by
 show stepV (stepV (stepV (valA (lw [p,q,r,b]) 4) q) r) b=_
 have e:valA (lw [p,q,r,b]) 4=IntKind.i32.wrap (IntKind.i32.wrap p-240):=rfl
 rw [e,w32 (x:=p) (by omega) (by omega),w32 (x:=p-240) (by omega) (by omega),stepV_eq (a:=p-240) (by omega) (by omega) h3 (by omega),stepV_eq (a:=(p-240)*64+(q-128)) (by omega) (by omega) h5 (by omega),stepV_eq (by omega) (by omega) h7 (by omega)]
theorem dstep_scal {s:ByteArray}{i:Nat}{o k:List Int}(ho:∀ v∈o,Scal v) (hk:Pre k):(∀ v∈(dstep s i o k).2.1,Scal v)∧Pre (dstep s i o k).2.2:=by
 have app:∀ {x:Int},Scal x→∀ v∈o++[x],Scal v:=fun hx v hv=>by
  rw [List.mem_append,List.mem_singleton] at hv
  rcases hv with hv | rfl
  ·exact ho v hv
  ·exact hx
 have bad:∀ v∈o++[65533],Scal v:=app (.inr ⟨by decide,by decide⟩)
 obtain ⟨b0,b1⟩:=byteAt_b s i
 generalize hb:byteAt s i=b at b0 b1
 unfold dstep
 rw [hb]
 rcases hk with rfl | ⟨p,rfl,p1,p2⟩ | ⟨p,q,rfl,p1,p2,q1,q2,q3,q4,q5⟩ | ⟨p,q,r,rfl,p1,p2,q1,q2,q4,q5,r1,r2⟩
 ·rw [if_pos rfl]
  by_cases h1:b<128
  ·rw [if_pos h1,w32 b0 (by omega)]
   exact ⟨app (.inl ⟨b0,by omega⟩),.inl rfl⟩
  rw [if_neg h1]
  by_cases h2:szF b > 0
  ·rw [if_pos h2]
   refine ⟨ho,.inr (.inl ⟨b,rfl,?_⟩)⟩
   rcases szF_of b with h | h | h | h<;>omega
  ·rw [if_neg h2]
   exact ⟨bad,.inl rfl⟩
 ·rw [if_neg (by simp)]
  simp only [List.length_cons,List.length_nil,Nat.zero_add,show lw [p] 0=p from rfl]
  obtain ⟨e1,e5⟩:=lo1 p
  obtain ⟨e2,e3,e4⟩:=hi1 p
  by_cases h1:b<loF p 1
  ·rw [if_pos h1]; exact ⟨bad,.inl rfl⟩
  rw [if_neg h1]
  by_cases h2:b > hiF p 1
  ·rw [if_pos h2]; exact ⟨bad,.inl rfl⟩
  rw [if_neg h2]
  by_cases h3:((1+1:Nat):Int)=szF p
  ·rw [if_pos h3]
   refine ⟨app ?_,.inl rfl⟩
   show Scal (valF (lw [p,b]) 2)
   rw [val2_eq (by omega) (by rcases szF_of p with h | h | h | h<;>omega) (by omega) (by omega)]
   rcases szF_of p with h | h | h | h
   ·exact .inl ⟨by omega,by omega⟩
   all_goals omega
  ·rw [if_neg h3]
   refine ⟨ho,.inr (.inr (.inl ⟨p,b,rfl,?_,p2,by omega,by omega,fun e=>by have:=e3 e; omega,fun e=>by have:=e4 e; omega,fun e=>by have:=e5 e; omega⟩))⟩
   rcases szF_of p with h | h | h | h<;>omega
 ·rw [if_neg (by simp)]
  simp only [List.length_cons,List.length_nil,Nat.zero_add,show lw [p,q] 0=p from rfl]
  rw [lo2 p (n:=1+1) (by decide),hi2 p (n:=1+1) (by decide)]
  by_cases h1:b<128
  ·rw [if_pos h1]; exact ⟨bad,.inl rfl⟩
  rw [if_neg h1]
  by_cases h2:b > 191
  ·rw [if_pos h2]; exact ⟨bad,.inl rfl⟩
  rw [if_neg h2]
  by_cases h3:((1+1+1:Nat):Int)=szF p
  ·rw [if_pos h3]
   refine ⟨app ?_,.inl rfl⟩
   show Scal (valF (lw [p,q,b]) 3)
   have hp:p≤239:=by rcases szF_of p with h | h | h | h<;>omega
   rw [val3_eq p1 hp q1 q2 (by omega) (by omega)]
   by_cases hs:p≤237
   ·refine .inl ⟨by omega,?_⟩
    by_cases e:p=237
    ·have:=q3 e; omega
    ·omega
   ·exact .inr ⟨by omega,by omega⟩
  ·rw [if_neg h3]
   refine ⟨ho,.inr (.inr (.inr ⟨p,q,b,rfl,?_,p2,q1,q2,q4,q5,by omega,by omega⟩))⟩
   rcases szF_of p with h | h | h | h<;>omega
 ·rw [if_neg (by simp)]
  simp only [List.length_cons,List.length_nil,Nat.zero_add,show lw [p,q,r] 0=p from rfl]
  rw [lo2 p (n:=1+1+1) (by decide),hi2 p (n:=1+1+1) (by decide)]
  by_cases h1:b<128
  ·rw [if_pos h1]; exact ⟨bad,.inl rfl⟩
  rw [if_neg h1]
  by_cases h2:b > 191
  ·rw [if_pos h2]; exact ⟨bad,.inl rfl⟩
  rw [if_neg h2]
  have hsz:((1+1+1+1:Nat):Int)=szF p:=by rcases szF_of p with h | h | h | h<;>omega
  rw [if_pos hsz]
  refine ⟨app ?_,.inl rfl⟩
  show Scal (valF (lw [p,q,r,b]) 4)
  rw [val4_eq p1 p2 q1 q2 r1 r2 (by omega) (by omega)]
  have h240:240<p∨144≤q:=by
   by_cases e:p=240
   ·exact .inr (q5 e)
   ·exact .inl (by omega)
  refine .inr ⟨by omega,?_⟩
  by_cases e:p=244
  ·have:=q4 e; omega
  ·omega
theorem decR_scal (s:ByteArray):∀ (m i:Nat) (o k:List Int),(∀ v∈o,Scal v)→Pre k→∀ v∈(decR s m i o k).1,Scal v
 | 0,i,o,k,ho,_=>ho
 | m+1,i,o,k,ho,hk=>by
  rw [decR]
  split
  ·have:=dstep_scal (s:=s) (i:=i) ho hk
   exact decR_scal s m _ _ _ this.1 this.2
  ·exact ho
theorem decF_scal (s:ByteArray):∀ v∈(decF s).1,Scal v:=decR_scal s _ _ _ _ (fun v hv=>(by simp at hv)) (.inl rfl)
theorem valid_bytes {s:ByteArray}(h:validF s=true):s.data.toList=byL (decF s).1:=by
 unfold validF at h
 cases hb:ByteArray.toList (decF s).2==ByteArray.toList ⟨#[]⟩ with
 | false=>rw [hb] at h; cases h
 | true =>
  rw [hb,cond_true,beq_iff_eq,Lib.toList_data,Lib.toList_data,encF_bytes (decF_scal s)] at h
  exact h.symm
theorem valid_vd {s:ByteArray}(h:validF s=true):vdF s=true:=by
 unfold vdF
 rw [valid_bytes h]
 exact valid_byL (decF_scal s)
theorem valid_rune {s:ByteArray}(h:validF s=true):runeN s=(decF s).1.length∧∀ i,i<(decF s).1.length→runeAt s i=lw (decF s).1 i:=rune_eq (decF_scal s) (valid_bytes h)
end Go.Proofs.YtigmkgampfbflaaGreatDoor
namespace Go.Proofs.YtigmkgampfbflaaGreatDoor
open Go Go.AE Go.DE Go.RowKit
def blankV:List Value:=[.string ⟨⟨[32]⟩⟩,.int .i64 1,.int .i64 (-1),.int .i64 (-1),.int .i64 0]
def repV:Nat→List Value
 | 0=>[]
 | n+1=>blankV++repV n
theorem repV_at:∀ (n i j:Nat),i<n→j<5→(repV n)[i*5+j]?=blankV[j]?
 | 0,_,_,h,_=>absurd h (Nat.not_lt_zero _)
 | n+1,0,j,_,hj=>by
  show (blankV++repV n)[0*5+j]?=_
  rw [List.getElem?_append_left (by show 0*5+j<5; omega),Nat.zero_mul,Nat.zero_add]
 | n+1,i+1,j,hi,hj=>by
  show (blankV++repV n)[(i+1)*5+j]?=_
  rw [List.getElem?_append_right (by show 5≤(i+1)*5+j; omega),show (i+1)*5+j-blankV.length=i*5+j by show (i+1)*5+j-5=_; omega]
  exact repV_at n i j (by omega) hj
def blkD (n:Nat):Deep:=⟨157,[.int .i64 (.ofNat n),.int .i64 (.negSucc 0)],[],.slice (some ⟨0,0,none⟩) n n,[some (.cells (repV n))]⟩
def blkD0:Deep:=⟨157,[.int .i64 (.ofNat 0),.int .i64 (.negSucc 0)],[],.slice (some ⟨0,0,none⟩) 0 0,[]⟩
def extN:ExtL:=fun _ _ _ _=>none
def stB:AE.Stat:=⟨fun _ _=>none,extOfL extN⟩
theorem blk_run:((List.range 30).all fun n=>(blkD (n+1)).run Tryz.prog stB extN 60 20)=true:=by kernel_rfl
theorem blk_run0:blkD0.run Tryz.prog stB extN 60 20=true:=by kernel_rfl
theorem blk_ans0 {H:HF}{N:Nat}:(blkD 1).ans [.int .i64 (.ofNat 1),.int .i64 (.negSucc 0)] H N=some (.slice (some ⟨N,0,none⟩) 1 1,[.new (some (.cells (repV 1)))]):=by kernel_rfl
theorem blk_ans1 {H:HF}{N:Nat}:(blkD 2).ans [.int .i64 (.ofNat 2),.int .i64 (.negSucc 0)] H N=some (.slice (some ⟨N,0,none⟩) 2 2,[.new (some (.cells (repV 2)))]):=by kernel_rfl
theorem blk_ans2 {H:HF}{N:Nat}:(blkD 3).ans [.int .i64 (.ofNat 3),.int .i64 (.negSucc 0)] H N=some (.slice (some ⟨N,0,none⟩) 3 3,[.new (some (.cells (repV 3)))]):=by kernel_rfl
theorem blk_ans3 {H:HF}{N:Nat}:(blkD 4).ans [.int .i64 (.ofNat 4),.int .i64 (.negSucc 0)] H N=some (.slice (some ⟨N,0,none⟩) 4 4,[.new (some (.cells (repV 4)))]):=by kernel_rfl
theorem blk_ans4 {H:HF}{N:Nat}:(blkD 5).ans [.int .i64 (.ofNat 5),.int .i64 (.negSucc 0)] H N=some (.slice (some ⟨N,0,none⟩) 5 5,[.new (some (.cells (repV 5)))]):=by kernel_rfl
theorem blk_ans5 {H:HF}{N:Nat}:(blkD 6).ans [.int .i64 (.ofNat 6),.int .i64 (.negSucc 0)] H N=some (.slice (some ⟨N,0,none⟩) 6 6,[.new (some (.cells (repV 6)))]):=by kernel_rfl
theorem blk_ans6 {H:HF}{N:Nat}:(blkD 7).ans [.int .i64 (.ofNat 7),.int .i64 (.negSucc 0)] H N=some (.slice (some ⟨N,0,none⟩) 7 7,[.new (some (.cells (repV 7)))]):=by kernel_rfl
theorem blk_ans7 {H:HF}{N:Nat}:(blkD 8).ans [.int .i64 (.ofNat 8),.int .i64 (.negSucc 0)] H N=some (.slice (some ⟨N,0,none⟩) 8 8,[.new (some (.cells (repV 8)))]):=by kernel_rfl
theorem blk_ans8 {H:HF}{N:Nat}:(blkD 9).ans [.int .i64 (.ofNat 9),.int .i64 (.negSucc 0)] H N=some (.slice (some ⟨N,0,none⟩) 9 9,[.new (some (.cells (repV 9)))]):=by kernel_rfl
theorem blk_ans9 {H:HF}{N:Nat}:(blkD 10).ans [.int .i64 (.ofNat 10),.int .i64 (.negSucc 0)] H N=some (.slice (some ⟨N,0,none⟩) 10 10,[.new (some (.cells (repV 10)))]):=by kernel_rfl
theorem blk_ans10 {H:HF}{N:Nat}:(blkD 11).ans [.int .i64 (.ofNat 11),.int .i64 (.negSucc 0)] H N=some (.slice (some ⟨N,0,none⟩) 11 11,[.new (some (.cells (repV 11)))]):=by kernel_rfl
theorem blk_ans11 {H:HF}{N:Nat}:(blkD 12).ans [.int .i64 (.ofNat 12),.int .i64 (.negSucc 0)] H N=some (.slice (some ⟨N,0,none⟩) 12 12,[.new (some (.cells (repV 12)))]):=by kernel_rfl
theorem blk_ans12 {H:HF}{N:Nat}:(blkD 13).ans [.int .i64 (.ofNat 13),.int .i64 (.negSucc 0)] H N=some (.slice (some ⟨N,0,none⟩) 13 13,[.new (some (.cells (repV 13)))]):=by kernel_rfl
theorem blk_ans13 {H:HF}{N:Nat}:(blkD 14).ans [.int .i64 (.ofNat 14),.int .i64 (.negSucc 0)] H N=some (.slice (some ⟨N,0,none⟩) 14 14,[.new (some (.cells (repV 14)))]):=by kernel_rfl
theorem blk_ans14 {H:HF}{N:Nat}:(blkD 15).ans [.int .i64 (.ofNat 15),.int .i64 (.negSucc 0)] H N=some (.slice (some ⟨N,0,none⟩) 15 15,[.new (some (.cells (repV 15)))]):=by kernel_rfl
theorem blk_ans15 {H:HF}{N:Nat}:(blkD 16).ans [.int .i64 (.ofNat 16),.int .i64 (.negSucc 0)] H N=some (.slice (some ⟨N,0,none⟩) 16 16,[.new (some (.cells (repV 16)))]):=by kernel_rfl
theorem blk_ans16 {H:HF}{N:Nat}:(blkD 17).ans [.int .i64 (.ofNat 17),.int .i64 (.negSucc 0)] H N=some (.slice (some ⟨N,0,none⟩) 17 17,[.new (some (.cells (repV 17)))]):=by kernel_rfl
theorem blk_ans17 {H:HF}{N:Nat}:(blkD 18).ans [.int .i64 (.ofNat 18),.int .i64 (.negSucc 0)] H N=some (.slice (some ⟨N,0,none⟩) 18 18,[.new (some (.cells (repV 18)))]):=by kernel_rfl
theorem blk_ans18 {H:HF}{N:Nat}:(blkD 19).ans [.int .i64 (.ofNat 19),.int .i64 (.negSucc 0)] H N=some (.slice (some ⟨N,0,none⟩) 19 19,[.new (some (.cells (repV 19)))]):=by kernel_rfl
theorem blk_ans19 {H:HF}{N:Nat}:(blkD 20).ans [.int .i64 (.ofNat 20),.int .i64 (.negSucc 0)] H N=some (.slice (some ⟨N,0,none⟩) 20 20,[.new (some (.cells (repV 20)))]):=by kernel_rfl
theorem blk_ans20 {H:HF}{N:Nat}:(blkD 21).ans [.int .i64 (.ofNat 21),.int .i64 (.negSucc 0)] H N=some (.slice (some ⟨N,0,none⟩) 21 21,[.new (some (.cells (repV 21)))]):=by kernel_rfl
theorem blk_ans21 {H:HF}{N:Nat}:(blkD 22).ans [.int .i64 (.ofNat 22),.int .i64 (.negSucc 0)] H N=some (.slice (some ⟨N,0,none⟩) 22 22,[.new (some (.cells (repV 22)))]):=by kernel_rfl
theorem blk_ans22 {H:HF}{N:Nat}:(blkD 23).ans [.int .i64 (.ofNat 23),.int .i64 (.negSucc 0)] H N=some (.slice (some ⟨N,0,none⟩) 23 23,[.new (some (.cells (repV 23)))]):=by kernel_rfl
theorem blk_ans23 {H:HF}{N:Nat}:(blkD 24).ans [.int .i64 (.ofNat 24),.int .i64 (.negSucc 0)] H N=some (.slice (some ⟨N,0,none⟩) 24 24,[.new (some (.cells (repV 24)))]):=by kernel_rfl
theorem blk_ans24 {H:HF}{N:Nat}:(blkD 25).ans [.int .i64 (.ofNat 25),.int .i64 (.negSucc 0)] H N=some (.slice (some ⟨N,0,none⟩) 25 25,[.new (some (.cells (repV 25)))]):=by kernel_rfl
theorem blk_ans25 {H:HF}{N:Nat}:(blkD 26).ans [.int .i64 (.ofNat 26),.int .i64 (.negSucc 0)] H N=some (.slice (some ⟨N,0,none⟩) 26 26,[.new (some (.cells (repV 26)))]):=by kernel_rfl
theorem blk_ans26 {H:HF}{N:Nat}:(blkD 27).ans [.int .i64 (.ofNat 27),.int .i64 (.negSucc 0)] H N=some (.slice (some ⟨N,0,none⟩) 27 27,[.new (some (.cells (repV 27)))]):=by kernel_rfl
theorem blk_ans27 {H:HF}{N:Nat}:(blkD 28).ans [.int .i64 (.ofNat 28),.int .i64 (.negSucc 0)] H N=some (.slice (some ⟨N,0,none⟩) 28 28,[.new (some (.cells (repV 28)))]):=by kernel_rfl
theorem blk_ans28 {H:HF}{N:Nat}:(blkD 29).ans [.int .i64 (.ofNat 29),.int .i64 (.negSucc 0)] H N=some (.slice (some ⟨N,0,none⟩) 29 29,[.new (some (.cells (repV 29)))]):=by kernel_rfl
theorem blk_ans29 {H:HF}{N:Nat}:(blkD 30).ans [.int .i64 (.ofNat 30),.int .i64 (.negSucc 0)] H N=some (.slice (some ⟨N,0,none⟩) 30 30,[.new (some (.cells (repV 30)))]):=by kernel_rfl
theorem blk_ans {H:HF}{N:Nat}{n:Nat}(h:n<30):(blkD (n+1)).ans [.int .i64 (.ofNat (n+1)),.int .i64 (.negSucc 0)] H N=some (.slice (some ⟨N,0,none⟩) (n+1) (n+1),[.new (some (.cells (repV (n+1))))]):=by
 have:n=0∨n=1∨n=2∨n=3∨n=4∨n=5∨n=6∨n=7∨n=8∨n=9∨n=10∨n=11∨n=12∨n=13∨n=14∨n=15∨n=16∨n=17∨n=18∨n=19∨n=20∨n=21∨n=22∨n=23∨n=24∨n=25∨n=26∨n=27∨n=28∨n=29:=by omega
 rcases this with rfl | rfl | rfl | rfl | rfl | rfl | rfl | rfl | rfl | rfl | rfl | rfl | rfl | rfl | rfl | rfl | rfl | rfl | rfl | rfl | rfl | rfl | rfl | rfl | rfl | rfl | rfl | rfl | rfl | rfl
 ·exact blk_ans0
 ·exact blk_ans1
 ·exact blk_ans2
 ·exact blk_ans3
 ·exact blk_ans4
 ·exact blk_ans5
 ·exact blk_ans6
 ·exact blk_ans7
 ·exact blk_ans8
 ·exact blk_ans9
 ·exact blk_ans10
 ·exact blk_ans11
 ·exact blk_ans12
 ·exact blk_ans13
 ·exact blk_ans14
 ·exact blk_ans15
 ·exact blk_ans16
 ·exact blk_ans17
 ·exact blk_ans18
 ·exact blk_ans19
 ·exact blk_ans20
 ·exact blk_ans21
 ·exact blk_ans22
 ·exact blk_ans23
 ·exact blk_ans24
 ·exact blk_ans25
 ·exact blk_ans26
 ·exact blk_ans27
 ·exact blk_ans28
 ·exact blk_ans29
def blkX (args:List Value) (N:Nat):RL:=match args with
 | [.int .i64 (.ofNat 0),.int .i64 (.negSucc 0)]=>some (.slice (some ⟨0,0,none⟩) 0 0,[])
 | [.int .i64 (.ofNat (n+1)),.int .i64 (.negSucc 0)]=>if n<30 then some (.slice (some ⟨N,0,none⟩) (n+1) (n+1),[.new (some (.cells (repV (n+1))))]) else none
 | _=>none
theorem fnOk_blk {W:World}(hm:Tryz.prog.follows .mixedOrders=true):FnOk Tryz.prog W 157 (fun a σ=>RL.app σ (blkX a σ.length)):=by
 intro args σ v σ' hg
 dsimp only at hg
 have hst:GoodSt W stB:=fun b i v h=>nomatch h
 have hok:CallOk Tryz.prog W stB.ext:=fun f a s v s' h=>nomatch h
 have hf:(Tryz.prog.funcs[157]?).isSome=true:=by rw [Tryz.func157]; rfl
 unfold blkX at hg
 split at hg<;>first | (cases hg; done) | skip
 ·exact Deep.ok (D:=blkD0) blk_run0 rfl hst hok hm hf _ σ v σ' (by rw [← hg]; kernel_rfl)
 ·rename_i n
  split at hg<;>first | (cases hg; done) | skip
  rename_i hn
  exact Deep.ok (D:=blkD (n+1)) (List.all_eq_true.1 blk_run n (by simpa using hn)) rfl hst hok hm hf _ σ v σ' (by rw [← hg]; exact congrArg _ (blk_ans hn))
def blankC:Nat→Nat→DV:=fun _ f=>match f with
 | 0=>.v (.string ⟨⟨[32]⟩⟩)
 | 1=>.v (.int .i64 1)
 | 2=>.v (.int .i64 (-1))
 | 3=>.v (.int .i64 (-1))
 | _+4=>.v (.int .i64 0)
noncomputable def bkC:ConF:=fun args k=>match args with
 | [.v (.int .i64 z),.v (.int .i64 (.negSucc 0))]=>bif decide (0≤z)&&decide (z≤30) then k (fun _=>(.sl false blankC 5 z.toNat,[])) else none
 | _=>none
def blankW:Nat→Nat→Value:=fun _ f=>match f with
 | 0=>.string ⟨⟨[32]⟩⟩
 | 1=>.int .i64 1
 | 2=>.int .i64 (-1)
 | 3=>.int .i64 (-1)
 | _+4=>.int .i64 0
theorem blankC_eq:blankC=fun i j=>.v (blankW i j):=by
 funext i j
 match j with
 | 0=>rfl
 | 1=>rfl
 | 2=>rfl
 | 3=>rfl
 | _+4=>rfl
theorem bkC_ok {st:AE.Stat}(h:∀ a σ,st.ext 157 a σ=RL.app σ (blkX a σ.length)):ConOkZ true Tryz.prog st 157 bkC:=by
 refine con_extZ Tryz.func157 (by kernel_rfl) (by kernel_rfl) fun args k hk=>?_
 unfold bkC at hk
 split at hk<;>first | (cases hk; done) | skip
 rename_i z
 obtain ⟨hz,hk⟩:=bif_none hk
 simp only [Bool.and_eq_true,decide_eq_true_eq] at hz
 refine ⟨5,z.toNat,blankW,by decide,by unfold unk; omega,fun i j hj=>?_,by rw [← blankC_eq]; exact hk,fun C σ vs _ ha=>?_⟩
 ·match j with
  | 0=>rfl
  | 1=>rfl
  | 2=>rfl
  | 3=>rfl
  | _+4=>rfl
 obtain ⟨x,r,rfl,h1,ha⟩:=ha.cons_inv
 obtain ⟨y,r,rfl,h2,ha⟩:=ha.cons_inv
 obtain rfl:=ha.nil_inv
 cases h1
 cases h2
 rw [h]
 obtain ⟨n,rfl⟩:∃ n:Nat,z=n:=⟨z.toNat,by omega⟩
 cases n with
 | zero=>exact .inl ⟨rfl,_,rfl⟩
 | succ n =>
  refine .inr ⟨repV (n+1),fun i j hi hj=>?_,?_⟩
  ·rw [repV_at (n+1) i j (by simpa using hi) hj]
   match j,hj with
   | 0,_=>rfl
   | 1,_=>rfl
   | 2,_=>rfl
   | 3,_=>rfl
   | 4,_=>rfl
  ·have hn:n<30:=by omega
   show RL.app σ (if n<30 then _ else none)=_
   rw [if_pos hn]
   rfl
end Go.Proofs.YtigmkgampfbflaaGreatDoor
namespace Go.Proofs.YtigmkgampfbflaaGreatDoor
open Go Go.AE Go.DE Go.RowKit
def blkRow (w:Nat):Row:=⟨w,fun _=>⟨⟨[32]⟩⟩,fun _=>1,fun _=>-1,fun _=>-1,fun _=>0⟩
def blkB (w:Int):Nat→Nat→DV:=(blkRow w.toNat).cell
theorem blankC_row (w:Int):blankC=blkB w:=by
 funext i f
 match f with
 | 0=>rfl
 | 1=>rfl
 | 2=>rfl
 | 3=>rfl
 | _+4=>rfl
noncomputable def b4C (B:Int→Nat→Nat→DV):ConF:=fun args k=>match args with
 | [.v (.int .i64 w),.agg [.v (.int .i64 _),.v (.int .i64 (.negSucc 0)),.v (.int .i64 _)]]=>bif decide (1≤w)&&decide (w≤30) then k (fun _=>(.sl false (B w) 5 w.toNat,[])) else none
 | _=>none
theorem b4_tree (w a c:Int) (k:DV→Option Unit):bodyD Tryz.prog (envZ [(157,bkC)] noLp 0) Tryz.f154 [iv w,.agg [iv a,iv (-1),iv c]] [] (fun d _=>k d) =
  bif decide (w<1) then k (DV.v (Value.slice none 0 0)) else bif decide (w > 132) then k (DV.v (Value.slice none 0 0)) else bif bif decide (0≤w) then decide (w≤30) else false then k (.sl false blankC 5 (Int.toNat w))
  else none:=by
 kernel_rfl
theorem bn_tree (w a c:Int) (t u:Bool) (B:Int→Nat→Nat→DV) (k:DV→Option Unit):bodyD Tryz.prog (envZ [(154,b4C B)] noLp 0) Tryz.f153 [.pf t (fun _ _=>iv w) 1 1 0 0,.pf u (fun _ f=>match f with | 0=>iv a | 1=>iv (-1) | _+2=>iv c) 3 1 0 0] [] (fun d _=>k d) =
  bif bif decide (1≤w) then decide (w≤30) else false then k (.sl false (B w) 5 (Int.toNat w)) else none:=by
 kernel_rfl
noncomputable def bnC (Q:(Nat→Nat→DV)→(Nat→Nat→DV)→Prop) (B:Int→Nat→Nat→DV):ConF:=fun args k=>match args with
 | [.pf _ G 1 1 0 0,.pf _ H 3 1 0 0]=>bif holds (Q G H) then k (fun _=>(.sl false (B (numD (G 0 0))) 5 (numD (G 0 0)).toNat,[])) else none
 | _=>none
theorem gn0_loop (w h i:Int) (Q:(Nat→Nat→DV)→(Nat→Nat→DV)→Prop) (B:Int→Nat→Nat→DV) (b0:Option DBlk) (K:Ex→Nat→List DV→List DV→DHeap→Option Unit):execD Tryz.prog (envZ [(153,bnC Q B)] noLp 0) (loopAt Tryz.f47 250) 500 (temps 34 [4,7,8,22,23] [.po 0 0 0,.fn (.func 153) [] [.po 1 0 0,.po 2 0 0],.po 3 0 0,iv h,iv i]) [b0,some ⟨1,.lst [[iv w]]⟩,some ⟨3,.lst [[iv (-1),iv (-1),iv 0]]⟩,some ⟨3,.lst [[iv w,iv h,.v (.slice none 0 0)]]⟩,none] (fun e τ σ=>K e τ.length (pick [4,7,8,22,23] τ) (pick [4,8] τ) σ) =
  bif decide (i<h) then bif holds (Q (fun j f=>lend1 (DC.get (.lst [[iv w]]) j f)) fun j f=>lend1 (DC.get (.lst [[iv (-1:Int),iv (-1:Int),iv 0]]) j f)) then K .normal 34 [.po 0 0 0,.fn (Fn.func 153) [] [.po 1 0 0,.po 2 0 0],.po 3 0 0,iv h,iv (IntKind.wrap .i64 (i+1))] [.po 0 0 0,.po 3 0 0] [b0,some ⟨1,.lst [[iv w]]⟩,some ⟨3,.lst [[iv (-1:Int),iv (-1:Int),iv 0]]⟩,some ⟨3,.upd (.lst [[iv w,iv h,DV.v (Value.slice none 0 0)]]) 0 2 (.os 6 0 1)⟩,none,some ⟨1,.lst [[.sl false (B (numD (iv w))) 5 (Int.toNat (numD (iv w)))]]⟩,some ⟨1,.lst [[.sl false (B (numD (iv w))) 5 (Int.toNat (numD (iv w)))]]⟩]
  else none else K (.exit 0) 34 [.po 0 0 0,.fn (Fn.func 153) [] [.po 1 0 0,.po 2 0 0],.po 3 0 0,iv h,iv i] [.po 0 0 0,.po 3 0 0] [b0,some ⟨1,.lst [[iv w]]⟩,some ⟨3,.lst [[iv (-1:Int),iv (-1:Int),iv 0]]⟩,some ⟨3,.lst [[iv w,iv h,DV.v (Value.slice none 0 0)]]⟩,none]:=by
 kernel_rfl
theorem gn1_loop (w h i:Int) (m:Nat) (Q:(Nat→Nat→DV)→(Nat→Nat→DV)→Prop) (B:Int→Nat→Nat→DV) (R:Nat→Nat→DV) (b0:Option DBlk) (K:Ex→Nat→List DV→List DV→DHeap→Option Unit):execD Tryz.prog (envZ [(153,bnC Q B)] noLp 0) (loopAt Tryz.f47 250) 500 (temps 34 [4,7,8,22,23] [.po 0 0 0,.fn (.func 153) [] [.po 1 0 0,.po 2 0 0],.po 3 0 0,iv h,iv i]) [b0,some ⟨1,.lst [[iv w]]⟩,some ⟨3,.lst [[iv (-1),iv (-1),iv 0]]⟩,some ⟨3,.lst [[iv w,iv h,.os 4 0 m]]⟩,some ⟨1,.tab m R⟩] (fun e τ σ=>K e τ.length (pick [4,7,8,22,23] τ) (pick [4,8] τ) σ) =
  bif decide (i<h) then bif holds (Q (fun j f=>lend1 (DC.get (.lst [[iv w]]) j f)) fun j f=>lend1 (DC.get (.lst [[iv (-1:Int),iv (-1:Int),iv 0]]) j f)) then bif decide (m≤DC.n (.tab m R))
  then bif decide ((m+1)*(24:Nat)≤140737488355328) then K .normal 34 [.po 0 0 0,.fn (Fn.func 153) [] [.po 1 0 0,.po 2 0 0],.po 3 0 0,iv h,iv (IntKind.wrap .i64 (i+1))] [.po 0 0 0,.po 3 0 0] [b0,some ⟨1,.lst [[iv w]]⟩,some ⟨3,.lst [[iv (-1:Int),iv (-1:Int),iv 0]]⟩,some ⟨3,.upd (.lst [[iv w,iv h,.os 4 0 m]]) 0 2 (.os 6 0 (m+1))⟩,none,some ⟨1,.lst [[.sl false (B (numD (iv w))) 5 (Int.toNat (numD (iv w)))]]⟩,some ⟨1,.app (.pre (.tab m R) m) (.lst [[.sl false (B (numD (iv w))) 5 (Int.toNat (numD (iv w)))]])⟩]
  else none else none else none else K (.exit 0) 34 [.po 0 0 0,.fn (Fn.func 153) [] [.po 1 0 0,.po 2 0 0],.po 3 0 0,iv h,iv i] [.po 0 0 0,.po 3 0 0] [b0,some ⟨1,.lst [[iv w]]⟩,some ⟨3,.lst [[iv (-1:Int),iv (-1:Int),iv 0]]⟩,some ⟨3,.lst [[iv w,iv h,.os 4 0 m]]⟩,some ⟨1,.tab m R⟩]:=by
 kernel_rfl
theorem row_low (r:Row) (i f:Nat):Low (r.cell i f):=by
 match f with
 | 0=>exact .v _
 | 1=>exact .v _
 | 2=>exact .v _
 | 3=>exact .v _
 | _+4=>exact .v _
theorem and_dec {p q:Prop} [Decidable p] [Decidable q] (h:(decide p&&decide q)=true):p∧q:=by simpa using h
theorem dT2 {α:Type}{p q:Prop} [Decidable p] [Decidable q] {x y:Option α}{r:Option α}(hp:p) (hq:q) (h:x=r):(bif bif decide p then decide q else false then x else y)=r:=by
 rw [decide_eq_true hp,decide_eq_true hq]
 exact h
theorem b4C_ok {st:AE.Stat}(hx:Hx st) (hk:∀ a σ,st.ext 157 a σ=RL.app σ (blkX a σ.length)):ConOkZ true Tryz.prog st 154 (b4C blkB):=by
 refine con_flatZ (mg:=[]) (l:=[(157,bkC)]) (lp:=noLp) (n:=0) (glOk st) (fun x h=>?_) Tryz.func154 (by kernel_rfl) (by kernel_rfl) (hx 154 rfl) (fun _ _ _ h=>nomatch h) fun args k hk=>?_
 ·simp only [List.mem_cons,List.not_mem_nil,or_false] at h
  subst h
  exact bkC_ok ‹_›
 unfold b4C at hk
 split at hk<;>first | (cases hk; done) | skip
 rename_i w a c
 obtain ⟨hb,hk⟩:=bif_none hk
 obtain ⟨h1,h2⟩:=and_dec hb
 refine ⟨[iv w,.agg [iv a,iv (-1),iv c]],_,.self (.self .nil),⟨.sl _ _ _ _,.sl fun i f _ _=>row_low _ _ _⟩,hk,(b4_tree w a c _).trans ?_⟩
 refine dF (by omega) (dF (by omega) (dT2 (by omega) h2 ?_))
 rw [blankC_row w]
 exact isD_of rfl
def bnQ (G H:Nat→Nat→DV):Prop:=G 0 0=iv (numD (G 0 0))∧1≤numD (G 0 0)∧numD (G 0 0)≤30∧H 0 0=iv (numD (H 0 0))∧H 0 1=iv (-1)∧H 0 2=iv (numD (H 0 2))
theorem Cv.pf {t:Bool}{g g':Nat→Nat→DV}{k n i0 f0:Nat}(h:∀ i f,i<n→f<k→Cv (g i f) (g' i f)):Cv (.pf t g k n i0 f0) (.pf t g' k n i0 f0):=fun C μ v hv=>by
 obtain ⟨a,w,rfl,hk,hn,h1,h2⟩:=hv.pf_inv
 exact .pf t g' k n i0 f0 a _ w hk hn _root_.rfl h1 fun i f hi hf=>h i f hi hf _ _ _ (h2 i f hi hf)
theorem bnC_ok {st:AE.Stat}(hx:Hx st) (hk:∀ a σ,st.ext 157 a σ=RL.app σ (blkX a σ.length)):ConOkZ true Tryz.prog st 153 (bnC bnQ blkB):=by
 refine con_flatZ (mg:=[]) (l:=[(154,b4C blkB)]) (lp:=noLp) (n:=0) (glOk st) (fun x h=>?_) Tryz.func153 (by kernel_rfl) (by kernel_rfl) (hx 153 rfl) (fun _ _ _ h=>nomatch h) fun args k hk=>?_
 ·simp only [List.mem_cons,List.not_mem_nil,or_false] at h
  subst h
  exact b4C_ok hx ‹_›
 unfold bnC at hk
 split at hk<;>first | (cases hk; done) | skip
 rename_i t G u H
 obtain ⟨hb,hk⟩:=bif_none hk
 obtain ⟨g0,g1,g2,h0,h1,h2⟩:=holds_eq.1 hb
 refine ⟨[.pf t (fun _ _=>iv (numD (G 0 0))) 1 1 0 0,.pf u (fun _ f=>match f with | 0=>iv (numD (H 0 0)) | 1=>iv (-1) | _+2=>iv (numD (H 0 2))) 3 1 0 0],_,
  .cons (Cv.pf fun i f hi hf=>Cv.of ?_) (.cons (Cv.pf fun i f hi hf=>Cv.of ?_) .nil),⟨.sl _ _ _ _,.sl fun i f _ _=>row_low _ _ _⟩,hk,(bn_tree _ _ _ t u blkB _).trans (dT2 g1 g2 (isD_of rfl))⟩
 ·obtain rfl:i=0:=by omega
  obtain rfl:f=0:=by omega
  exact g0
 ·obtain rfl:i=0:=by omega
  match f,hf with
  | 0,_=>exact h0
  | 1,_=>exact h1
  | 2,_=>exact h2
def rwD (w:Int):Nat→Nat→DV:=fun _ _=>.sl false (blkB w) 5 w.toNat
def outD (b:Nat):Nat→DV
 | 0=>.v (.slice none 0 0)
 | n+1=>.os b 0 (n+1)
def outB (g:Nat→Nat→DV):Nat→Option DBlk
 | 0=>none
 | n+1=>some ⟨1,.tab (n+1) g⟩
def nilS:DV:=.v (.slice none 0 0)
structure GNX where
 w:Int
 h:Nat
 i:Nat
noncomputable def gnI (b0:DBlk):LInv GNX where
 pre x:=x.i≤x.h∧1≤x.w∧x.w≤30∧x.h≤60∧1≤x.h
 m:=4
 n:=34
 ps:=[4,7,8,22,23]
 sd x:=[.po 0 0 0,.fn (.func 153) [] [.po 1 0 0,.po 2 0 0],.po 3 0 0,iv x.h,iv x.i]
 sh x:=[some b0,some ⟨1,.lst [[iv x.w]]⟩,some ⟨3,.lst [[iv (-1),iv (-1),iv 0]]⟩,some ⟨3,.lst [[iv x.w,iv x.h,outD 4 x.i]]⟩,outB (rwD x.w) x.i]
 meas x:=x.h-x.i
 e _:=.exit 0
 qs:=[4,8]
 od _:=[.po 0 0 0,.po 3 0 0]
 oh x:=[some b0,some ⟨1,.lst [[iv x.w]]⟩,some ⟨3,.lst [[iv (-1),iv (-1),iv 0]]⟩,some ⟨3,.lst [[iv x.w,iv x.h,.os 4 0 x.h]]⟩,some ⟨1,.tab x.h (rwD x.w)⟩]
 guess _ σ:=match σ with
  | [_,some b,_,some c]=>match b.c.get 0 0,c.c.get 0 1 with
   | .v (.int .i64 w),.v (.int .i64 h)=>some ⟨w,h.toNat,0⟩
   | _,_=>none
  | _=>none
 cps x k:=k (.exit 0) [.po 0 0 0,.po 3 0 0] [some b0,some ⟨1,.lst [[iv x.w]]⟩,some ⟨3,.lst [[iv (-1),iv (-1),iv 0]]⟩,some ⟨3,.lst [[iv x.w,iv x.h,.os 4 0 x.h]]⟩,some ⟨1,.tab x.h (rwD x.w)⟩]
theorem bnQ_of {w:Int}(h1:1≤w) (h2:w≤30):bnQ (fun j f=>lend1 (DC.get (DC.lst [[DV.v (Value.int IntKind.i64 w)]]) j f)) fun j f=>lend1 (DC.get (DC.lst [[DV.v (Value.int IntKind.i64 (-1:Int)),DV.v (Value.int IntKind.i64 (-1:Int)),DV.v (Value.int IntKind.i64 (0:Int))]]) j f) :=
 ⟨rfl,h1,h2,rfl,rfl,rfl⟩
def KB (b:DBlk):Prop:=b.c.good∧∀ i f,i<b.c.n→f<b.k→Clo (b.c.get i f)
theorem KB.sub {b:DBlk}{r:Nat→Option Nat}(h:KB b):SubC r b b:=⟨rfl,Nat.le_refl _,h.1,fun i f hi hf=>.of_clo (h.2 i f hi hf)⟩
theorem KB.lst {k:Nat}{l:List DV}(h:∀ d∈l,Clo d) (hk:k≤l.length):KB ⟨k,.lst [l]⟩:=⟨trivial,fun i f hi hf=>by
 have hi:i<1:=hi
 obtain rfl:i=0:=by omega
 show Clo (l.getD f .any)
 have hf:f<k:=hf
 have hlt:f<l.length:=by omega
 rw [List.getD_eq_getElem?_getD,List.getElem?_eq_getElem hlt]
 exact h _ (List.getElem_mem hlt)⟩
theorem fn2_sub {f:FuncId}{m:Nat}{ids:List Nat}{a b:Nat}(ha:a<m) (hb:b<m):Sub (ren m ids) (.fn (.func f) [] [.po a 0 0,.po b 0 0]) (.fn (.func f) [] [.po a 0 0,.po b 0 0]):=fun C μ x hx=>by
 cases hx with
 | fn _ _ _ u v h1 h2 h3 h4 =>
  refine .fn _ _ _ u v h1 h2 (fun i d x' hd=>by simp at hd) fun i d x' hd hx'=>?_
  have h:=h4 i d x' hd hx'
  match i,hd with
  | 0,hd=>obtain rfl:=Option.some.inj hd; exact (Sub.po (if_pos ha):Sub (ren m ids) (.po a 0 0) (.po a 0 0)) C μ x' h
  | 1,hd=>obtain rfl:=Option.some.inj hd; exact (Sub.po (if_pos hb):Sub (ren m ids) (.po b 0 0) (.po b 0 0)) C μ x' h
  | _+2,hd=>simp at hd
theorem tm_gn {ids:List Nat}{h:Nat}{z:Int}{i:Nat}(hz:z=(i:Int)):SubL (ren 4 ids) [.po 0 0 0,.fn (.func 153) [] [.po 1 0 0,.po 2 0 0],.po 3 0 0,iv h,iv i] [.po 0 0 0,.fn (.func 153) [] [.po 1 0 0,.po 2 0 0],.po 3 0 0,iv h,iv z]:=by
 subst hz
 exact .cons (.po rfl) (.cons (fn2_sub (by decide) (by decide)) (.cons (.po rfl) (.cons (.v _) (.cons (.v _) .nil))))
theorem lst3 {a b c:DV}(ha:Clo a) (hb:Clo b) (hc:Clo c):∀ d∈[a,b,c],Clo d:=fun d hd=>by
 simp only [List.mem_cons,List.not_mem_nil,or_false] at hd
 rcases hd with rfl | rfl | rfl
 ·exact ha
 ·exact hb
 ·exact hc
theorem lst1 {a:DV}(ha:Clo a):∀ d∈[a],Clo d:=fun d hd=>by
 obtain rfl:=List.mem_singleton.1 hd
 exact ha
theorem g3_sub {r:Nat→Option Nat}{a b d d2 old:DV}(ha:Clo a) (hb:Clo b) (h:Sub r d2 d):SubC r ⟨3,.lst [[a,b,d2]]⟩ ⟨3,.upd (.lst [[a,b,old]]) 0 2 d⟩:=⟨rfl,Nat.le_refl _,trivial,fun i f hi hf=>by
 have hi:i<1:=hi
 obtain rfl:i=0:=by omega
 have hf:f<3:=hf
 match f,hf with
 | 0,_=>exact .of_clo ha
 | 1,_=>exact .of_clo hb
 | 2,_=>exact h⟩
theorem g3_same {r:Nat→Option Nat}{a b d d2:DV}(ha:Clo a) (hb:Clo b) (h:Sub r d2 d):SubC r ⟨3,.lst [[a,b,d2]]⟩ ⟨3,.lst [[a,b,d]]⟩:=⟨rfl,Nat.le_refl _,trivial,fun i f hi hf=>by
 have hi:i<1:=hi
 obtain rfl:i=0:=by omega
 have hf:f<3:=hf
 match f,hf with
 | 0,_=>exact .of_clo ha
 | 1,_=>exact .of_clo hb
 | 2,_=>exact h⟩
theorem gn_ls {st:AE.Stat}(hx:Hx st) (hk:∀ a σ,st.ext 157 a σ=RL.app σ (blkX a σ.length)) (b0:DBlk) (h0:KB b0):LoopSR true Tryz.prog st gl0 (.loop (loopAt Tryz.f47 250)) (gnI b0).g:=by
 refine (gnI b0).ok (E:=envZ [(153,bnC bnQ blkB)] noLp 0) (p:=500) (tblD_env (l:=[(153,bnC bnQ blkB)]) fun x h=>?_) (glOk st).1 (fun _ _ _ h=>nomatch h) (fun x k h=>h) fun x hx2=>?_
 ·simp only [List.mem_cons,List.not_mem_nil,or_false] at h
  subst h
  exact bnC_ok hx hk
 obtain ⟨w,h,i⟩:=x
 obtain ⟨hi,w1,w2,hh,hp⟩:i≤h∧1≤w∧w≤30∧h≤60∧1≤h:=hx2
 have kw:KB ⟨1,.lst [[iv w]]⟩:=.lst (lst1 (.v _)) (Nat.le_refl _)
 have ka:KB ⟨3,.lst [[iv (-1),iv (-1),iv 0]]⟩:=.lst (lst3 (.v _) (.v _) (.v _)) (Nat.le_refl _)
 cases i with
 | zero =>
  refine (gn0_loop w h ((0:Nat):Int) bnQ blkB (some b0) _).trans ?_
  refine dS (fun hlt=>?_) fun hge=>?_
  ·have hlt:0<h:=by omega
   refine hT (bnQ_of w1 w2) (LInv.ask_of ⟨rfl,⟨w,h,1⟩,⟨rfl,rfl,rfl,hlt,w1,w2,hh,hp⟩,by simp only [gnI]; omega,[6],.of (im:=[some 0,some 1,some 2,some 3,some 6]) (tm_gn (by rw [W_in (by decide) (by decide)]; rfl)) rfl
    ⟨⟨0,_,rfl,rfl,h0.sub⟩,⟨1,_,rfl,rfl,kw.sub⟩,⟨2,_,rfl,rfl,ka.sub⟩,⟨3,_,rfl,rfl,g3_sub (.v _) (.v _) (.os rfl)⟩,⟨6,_,rfl,rfl,rfl,Nat.le_refl _,trivial,fun j f hj hf=>?_⟩,trivial⟩ rfl (by decide)⟩)
   have hj:j<1:=hj
   have hf:f<1:=hf
   obtain rfl:j=0:=by omega
   obtain rfl:f=0:=by omega
   exact .of_clo (.sl _ _ _ _)
  ·exfalso
   omega
 | succ i =>
  refine (gn1_loop w h ((i+1:Nat):Int) (i+1) bnQ blkB (rwD w) (some b0) _).trans ?_
  refine dS (fun hlt=>?_) fun hge=>?_
  ·have hlt:i+1<h:=by omega
   refine hT (bnQ_of w1 w2) (dT (Nat.le_refl _) (dT (by omega) (LInv.ask_of ⟨rfl,⟨w,h,i+2⟩,⟨rfl,rfl,rfl,hlt,w1,w2,hh,hp⟩,by simp only [gnI]; omega,[6],.of (im:=[some 0,some 1,some 2,some 3,some 6]) (tm_gn (i:=i+2) (by rw [W_in (by omega) (by omega)]; omega)) rfl
    ⟨⟨0,_,rfl,rfl,h0.sub⟩,⟨1,_,rfl,rfl,kw.sub⟩,⟨2,_,rfl,rfl,ka.sub⟩,⟨3,_,rfl,rfl,g3_sub (.v _) (.v _) (.os rfl)⟩,⟨6,_,rfl,rfl,rfl,Nat.le_refl _,trivial,fun j f hj hf=>?_⟩,trivial⟩ rfl (by decide)⟩)))
   have hj:j<i+2:=hj
   have hf:f<1:=hf
   obtain rfl:f=0:=by omega
   show Sub _ (rwD w j 0) (if j<i+1 then rwD w j 0 else ([[rwD w 0 0]].getD (j-(i+1)) []).getD 0 .any)
   by_cases h:j<i+1
   ·rw [if_pos h]
    exact .of_clo (.sl _ _ _ _)
   ·obtain rfl:j=i+1:=by omega
    rw [if_neg h,Nat.sub_self]
    exact .of_clo (.sl _ _ _ _)
  ·obtain rfl:h=i+1:=by omega
   exact LInv.ask_of ⟨rfl,rfl,[4],.of (im:=[some 0,some 1,some 2,some 3,some 4]) (.cons (.po rfl) (.cons (.po rfl) .nil)) rfl ⟨⟨0,_,rfl,rfl,h0.sub⟩,⟨1,_,rfl,rfl,kw.sub⟩,⟨2,_,rfl,rfl,ka.sub⟩,⟨3,_,rfl,rfl,g3_same (.v _) (.v _) (.os rfl)⟩,⟨4,_,rfl,rfl,rfl,Nat.le_refl _,trivial,fun j f hj hf=>.of_clo (.sl _ _ _ _)⟩,trivial⟩ rfl (by decide)⟩
end Go.Proofs.YtigmkgampfbflaaGreatDoor
