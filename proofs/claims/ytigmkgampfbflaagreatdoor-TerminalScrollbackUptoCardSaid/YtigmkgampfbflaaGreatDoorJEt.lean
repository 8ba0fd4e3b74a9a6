/-
 The check of an event as the evaluator runs it: a character of ASCII that is printed,a control character.
 Conditions: none beyond those of the contracts.
-/
import Derived.Test.YtigmkgampfbflaaGreatDoorJPgc
namespace Go.Proofs.YtigmkgampfbflaaGreatDoor
open Go Go.AE Go.DE Go.RowKit
def updF:DC->Nat->List DV->DC
 | c,_,[]=>c
 | c,i,d :: l=>updF (.upd c 0 i d) (i+1) l
def evP (c:Int):List DV:=[iv 1,kv .i32 c,kv .u8 0,kv .u8 0,sv ⟨#[]⟩,nilS,sv ⟨#[]⟩]
def evC (c:Int):List DV:=[iv 2,kv .i32 0,kv .u8 c,kv .u8 0,sv ⟨#[]⟩,nilS,sv ⟨#[]⟩]
noncomputable abbrev e224:InE:=⟨224,Tryz.f224,envG Tryz.prog gl0 [] [] [] noLp 0⟩
theorem en1_tree (t:Bool) (g:Nat->Nat->DV) (c:Int) (k:DV->Option Unit):bodyD Tryz.prog (envG Tryz.prog gl0 [] [e224] [] noLp 3) Tryz.f146 [.sl t (fun _ _=>kv .i32 c) 1 1] [] (fun d _=>k d) =
  bif decide (IntKind.wrap .u32 c<=127) then k (sv (bytesS 1 fun j=>numD (DC.get (subC (subC (DBlk.c (blockOf 1 [kv .u8 ((IntKind.wrap .u8 c))])) 0 1) 0 1) j 0))) else none:=by
 kernel_rfl
theorem bg_tree (c:Int) (k:DV->Option Unit):bodyD Tryz.prog (env [] noLp 0) Tryz.f113 [kv .u8 c] [] (fun d _=>k d) =
  bif decide (c >= 194) then bif decide (c<=223) then bif c==224 then k (.agg [kv .i32 ((IntKind.wrap .i32 (IntKind.wrap .u8 (↑(BitVec.toNat (BitVec.ofInt 8 c &&& BitVec.ofInt 8 31)):Int)))),iv 1,kv .u8 160,kv .u8 191])
  else bif c==237 then k (.agg [kv .i32 ((IntKind.wrap .i32 (IntKind.wrap .u8 (↑(BitVec.toNat (BitVec.ofInt 8 c &&& BitVec.ofInt 8 31)):Int)))),iv 1,kv .u8 128,kv .u8 159]) else bif c==240 then k (.agg [kv .i32 ((IntKind.wrap .i32 (IntKind.wrap .u8 (↑(BitVec.toNat (BitVec.ofInt 8 c &&& BitVec.ofInt 8 31)):Int)))),iv 1,kv .u8 144,kv .u8 191])
  else bif c==244 then k (.agg [kv .i32 ((IntKind.wrap .i32 (IntKind.wrap .u8 (↑(BitVec.toNat (BitVec.ofInt 8 c &&& BitVec.ofInt 8 31)):Int)))),iv 1,kv .u8 128,kv .u8 143]) else k (.agg [kv .i32 ((IntKind.wrap .i32 (IntKind.wrap .u8 (↑(BitVec.toNat (BitVec.ofInt 8 c &&& BitVec.ofInt 8 31)):Int)))),iv 1,kv .u8 128,kv .u8 191])
  else bif decide (c >= 224) then bif decide (c<=239) then bif c==224 then k (.agg [kv .i32 ((IntKind.wrap .i32 (IntKind.wrap .u8 (↑(BitVec.toNat (BitVec.ofInt 8 c &&& BitVec.ofInt 8 15)):Int)))),iv 2,kv .u8 160,kv .u8 191])
  else bif c==237 then k (.agg [kv .i32 ((IntKind.wrap .i32 (IntKind.wrap .u8 (↑(BitVec.toNat (BitVec.ofInt 8 c &&& BitVec.ofInt 8 15)):Int)))),iv 2,kv .u8 128,kv .u8 159]) else bif c==240 then k (.agg [kv .i32 ((IntKind.wrap .i32 (IntKind.wrap .u8 (↑(BitVec.toNat (BitVec.ofInt 8 c &&& BitVec.ofInt 8 15)):Int)))),iv 2,kv .u8 144,kv .u8 191])
  else bif c==244 then k (.agg [kv .i32 ((IntKind.wrap .i32 (IntKind.wrap .u8 (↑(BitVec.toNat (BitVec.ofInt 8 c &&& BitVec.ofInt 8 15)):Int)))),iv 2,kv .u8 128,kv .u8 143]) else k (.agg [kv .i32 ((IntKind.wrap .i32 (IntKind.wrap .u8 (↑(BitVec.toNat (BitVec.ofInt 8 c &&& BitVec.ofInt 8 15)):Int)))),iv 2,kv .u8 128,kv .u8 191])
  else bif decide (c >= 240) then bif decide (c<=244) then bif c==224 then k (.agg [kv .i32 ((IntKind.wrap .i32 (IntKind.wrap .u8 (↑(BitVec.toNat (BitVec.ofInt 8 c &&& BitVec.ofInt 8 7)):Int)))),iv 3,kv .u8 160,kv .u8 191])
  else bif c==237 then k (.agg [kv .i32 ((IntKind.wrap .i32 (IntKind.wrap .u8 (↑(BitVec.toNat (BitVec.ofInt 8 c &&& BitVec.ofInt 8 7)):Int)))),iv 3,kv .u8 128,kv .u8 159]) else bif c==240 then k (.agg [kv .i32 ((IntKind.wrap .i32 (IntKind.wrap .u8 (↑(BitVec.toNat (BitVec.ofInt 8 c &&& BitVec.ofInt 8 7)):Int)))),iv 3,kv .u8 144,kv .u8 191])
  else bif c==244 then k (.agg [kv .i32 ((IntKind.wrap .i32 (IntKind.wrap .u8 (↑(BitVec.toNat (BitVec.ofInt 8 c &&& BitVec.ofInt 8 7)):Int)))),iv 3,kv .u8 128,kv .u8 143]) else k (.agg [kv .i32 ((IntKind.wrap .i32 (IntKind.wrap .u8 (↑(BitVec.toNat (BitVec.ofInt 8 c &&& BitVec.ofInt 8 7)):Int)))),iv 3,kv .u8 128,kv .u8 191])
  else bif c==224 then k (.agg [kv .i32 0,iv 0,kv .u8 160,kv .u8 191]) else bif c==237 then k (.agg [kv .i32 0,iv 0,kv .u8 128,kv .u8 159]) else bif c==240 then k (.agg [kv .i32 0,iv 0,kv .u8 144,kv .u8 191])
  else bif c==244 then k (.agg [kv .i32 0,iv 0,kv .u8 128,kv .u8 143]) else k (.agg [kv .i32 0,iv 0,kv .u8 128,kv .u8 191]) else bif c==224 then k (.agg [kv .i32 0,iv 0,kv .u8 160,kv .u8 191])
  else bif c==237 then k (.agg [kv .i32 0,iv 0,kv .u8 128,kv .u8 159]) else bif c==240 then k (.agg [kv .i32 0,iv 0,kv .u8 144,kv .u8 191]) else bif c==244 then k (.agg [kv .i32 0,iv 0,kv .u8 128,kv .u8 143])
  else k (.agg [kv .i32 0,iv 0,kv .u8 128,kv .u8 191]) else bif decide (c >= 240) then bif decide (c<=244) then bif c==224 then k (.agg [kv .i32 ((IntKind.wrap .i32 (IntKind.wrap .u8 (↑(BitVec.toNat (BitVec.ofInt 8 c &&& BitVec.ofInt 8 7)):Int)))),iv 3,kv .u8 160,kv .u8 191])
  else bif c==237 then k (.agg [kv .i32 ((IntKind.wrap .i32 (IntKind.wrap .u8 (↑(BitVec.toNat (BitVec.ofInt 8 c &&& BitVec.ofInt 8 7)):Int)))),iv 3,kv .u8 128,kv .u8 159]) else bif c==240 then k (.agg [kv .i32 ((IntKind.wrap .i32 (IntKind.wrap .u8 (↑(BitVec.toNat (BitVec.ofInt 8 c &&& BitVec.ofInt 8 7)):Int)))),iv 3,kv .u8 144,kv .u8 191])
  else bif c==244 then k (.agg [kv .i32 ((IntKind.wrap .i32 (IntKind.wrap .u8 (↑(BitVec.toNat (BitVec.ofInt 8 c &&& BitVec.ofInt 8 7)):Int)))),iv 3,kv .u8 128,kv .u8 143]) else k (.agg [kv .i32 ((IntKind.wrap .i32 (IntKind.wrap .u8 (↑(BitVec.toNat (BitVec.ofInt 8 c &&& BitVec.ofInt 8 7)):Int)))),iv 3,kv .u8 128,kv .u8 191])
  else bif c==224 then k (.agg [kv .i32 0,iv 0,kv .u8 160,kv .u8 191]) else bif c==237 then k (.agg [kv .i32 0,iv 0,kv .u8 128,kv .u8 159]) else bif c==240 then k (.agg [kv .i32 0,iv 0,kv .u8 144,kv .u8 191])
  else bif c==244 then k (.agg [kv .i32 0,iv 0,kv .u8 128,kv .u8 143]) else k (.agg [kv .i32 0,iv 0,kv .u8 128,kv .u8 191]) else bif c==224 then k (.agg [kv .i32 0,iv 0,kv .u8 160,kv .u8 191])
  else bif c==237 then k (.agg [kv .i32 0,iv 0,kv .u8 128,kv .u8 159]) else bif c==240 then k (.agg [kv .i32 0,iv 0,kv .u8 144,kv .u8 191]) else bif c==244 then k (.agg [kv .i32 0,iv 0,kv .u8 128,kv .u8 143])
  else k (.agg [kv .i32 0,iv 0,kv .u8 128,kv .u8 191]) else bif decide (c >= 224) then bif decide (c<=239) then bif c==224 then k (.agg [kv .i32 ((IntKind.wrap .i32 (IntKind.wrap .u8 (↑(BitVec.toNat (BitVec.ofInt 8 c &&& BitVec.ofInt 8 15)):Int)))),iv 2,kv .u8 160,kv .u8 191])
  else bif c==237 then k (.agg [kv .i32 ((IntKind.wrap .i32 (IntKind.wrap .u8 (↑(BitVec.toNat (BitVec.ofInt 8 c &&& BitVec.ofInt 8 15)):Int)))),iv 2,kv .u8 128,kv .u8 159]) else bif c==240 then k (.agg [kv .i32 ((IntKind.wrap .i32 (IntKind.wrap .u8 (↑(BitVec.toNat (BitVec.ofInt 8 c &&& BitVec.ofInt 8 15)):Int)))),iv 2,kv .u8 144,kv .u8 191])
  else bif c==244 then k (.agg [kv .i32 ((IntKind.wrap .i32 (IntKind.wrap .u8 (↑(BitVec.toNat (BitVec.ofInt 8 c &&& BitVec.ofInt 8 15)):Int)))),iv 2,kv .u8 128,kv .u8 143]) else k (.agg [kv .i32 ((IntKind.wrap .i32 (IntKind.wrap .u8 (↑(BitVec.toNat (BitVec.ofInt 8 c &&& BitVec.ofInt 8 15)):Int)))),iv 2,kv .u8 128,kv .u8 191])
  else bif decide (c >= 240) then bif decide (c<=244) then bif c==224 then k (.agg [kv .i32 ((IntKind.wrap .i32 (IntKind.wrap .u8 (↑(BitVec.toNat (BitVec.ofInt 8 c &&& BitVec.ofInt 8 7)):Int)))),iv 3,kv .u8 160,kv .u8 191])
  else bif c==237 then k (.agg [kv .i32 ((IntKind.wrap .i32 (IntKind.wrap .u8 (↑(BitVec.toNat (BitVec.ofInt 8 c &&& BitVec.ofInt 8 7)):Int)))),iv 3,kv .u8 128,kv .u8 159]) else bif c==240 then k (.agg [kv .i32 ((IntKind.wrap .i32 (IntKind.wrap .u8 (↑(BitVec.toNat (BitVec.ofInt 8 c &&& BitVec.ofInt 8 7)):Int)))),iv 3,kv .u8 144,kv .u8 191])
  else bif c==244 then k (.agg [kv .i32 ((IntKind.wrap .i32 (IntKind.wrap .u8 (↑(BitVec.toNat (BitVec.ofInt 8 c &&& BitVec.ofInt 8 7)):Int)))),iv 3,kv .u8 128,kv .u8 143]) else k (.agg [kv .i32 ((IntKind.wrap .i32 (IntKind.wrap .u8 (↑(BitVec.toNat (BitVec.ofInt 8 c &&& BitVec.ofInt 8 7)):Int)))),iv 3,kv .u8 128,kv .u8 191])
  else bif c==224 then k (.agg [kv .i32 0,iv 0,kv .u8 160,kv .u8 191]) else bif c==237 then k (.agg [kv .i32 0,iv 0,kv .u8 128,kv .u8 159]) else bif c==240 then k (.agg [kv .i32 0,iv 0,kv .u8 144,kv .u8 191])
  else bif c==244 then k (.agg [kv .i32 0,iv 0,kv .u8 128,kv .u8 143]) else k (.agg [kv .i32 0,iv 0,kv .u8 128,kv .u8 191]) else bif c==224 then k (.agg [kv .i32 0,iv 0,kv .u8 160,kv .u8 191])
  else bif c==237 then k (.agg [kv .i32 0,iv 0,kv .u8 128,kv .u8 159]) else bif c==240 then k (.agg [kv .i32 0,iv 0,kv .u8 144,kv .u8 191]) else bif c==244 then k (.agg [kv .i32 0,iv 0,kv .u8 128,kv .u8 143])
  else k (.agg [kv .i32 0,iv 0,kv .u8 128,kv .u8 191]) else bif decide (c >= 240) then bif decide (c<=244) then bif c==224 then k (.agg [kv .i32 ((IntKind.wrap .i32 (IntKind.wrap .u8 (↑(BitVec.toNat (BitVec.ofInt 8 c &&& BitVec.ofInt 8 7)):Int)))),iv 3,kv .u8 160,kv .u8 191])
  else bif c==237 then k (.agg [kv .i32 ((IntKind.wrap .i32 (IntKind.wrap .u8 (↑(BitVec.toNat (BitVec.ofInt 8 c &&& BitVec.ofInt 8 7)):Int)))),iv 3,kv .u8 128,kv .u8 159]) else bif c==240 then k (.agg [kv .i32 ((IntKind.wrap .i32 (IntKind.wrap .u8 (↑(BitVec.toNat (BitVec.ofInt 8 c &&& BitVec.ofInt 8 7)):Int)))),iv 3,kv .u8 144,kv .u8 191])
  else bif c==244 then k (.agg [kv .i32 ((IntKind.wrap .i32 (IntKind.wrap .u8 (↑(BitVec.toNat (BitVec.ofInt 8 c &&& BitVec.ofInt 8 7)):Int)))),iv 3,kv .u8 128,kv .u8 143]) else k (.agg [kv .i32 ((IntKind.wrap .i32 (IntKind.wrap .u8 (↑(BitVec.toNat (BitVec.ofInt 8 c &&& BitVec.ofInt 8 7)):Int)))),iv 3,kv .u8 128,kv .u8 191])
  else bif c==224 then k (.agg [kv .i32 0,iv 0,kv .u8 160,kv .u8 191]) else bif c==237 then k (.agg [kv .i32 0,iv 0,kv .u8 128,kv .u8 159]) else bif c==240 then k (.agg [kv .i32 0,iv 0,kv .u8 144,kv .u8 191])
  else bif c==244 then k (.agg [kv .i32 0,iv 0,kv .u8 128,kv .u8 143]) else k (.agg [kv .i32 0,iv 0,kv .u8 128,kv .u8 191]) else bif c==224 then k (.agg [kv .i32 0,iv 0,kv .u8 160,kv .u8 191])
  else bif c==237 then k (.agg [kv .i32 0,iv 0,kv .u8 128,kv .u8 159]) else bif c==240 then k (.agg [kv .i32 0,iv 0,kv .u8 144,kv .u8 191]) else bif c==244 then k (.agg [kv .i32 0,iv 0,kv .u8 128,kv .u8 143])
  else k (.agg [kv .i32 0,iv 0,kv .u8 128,kv .u8 191]):=by
 kernel_rfl
noncomputable def bgC (Q:Int->Prop):ConF:=fun args k=>match args with
 | [.v (.int .u8 c)]=>bif holds (Q c) then k (fun _=>(.agg [kv .i32 0,iv 0,kv .u8 128,kv .u8 191],[])) else none
 | _=>none
theorem dc1_tree (Q:Int->Prop) (u:UInt8) (K:DV->DHeap->Option Unit):bodyD Tryz.prog (envG Tryz.prog gl0 [] [] [(113,bgC Q)] noLp 2) Tryz.f74 [sv ⟨#[]⟩,sv ⟨⟨[u]⟩⟩] [] (fun d σ=>K d σ) =
  bif holds (Q (byteAt ({ data:=#[] }++{ data:={ toList:=[u] } }) 0)) then bif decide (byteAt ({ data:=#[] }++{ data:={ toList:=[u] } }) 0<128) then K (.tup [.os 2 0 1,sv ⟨#[]⟩]) [some ⟨4,updF (.lst [[kv .i32 0,iv 0,kv .u8 0,kv .u8 0]]) 0 [kv .i32 0,iv 0,kv .u8 128,kv .u8 191]⟩,some ⟨1,.lst [[kv .i32 ((IntKind.wrap .i32 (byteAt ({ data:=#[] }++{ data:={ toList:=[u] } }) 0)))]]⟩,some ⟨1,.lst [[kv .i32 ((IntKind.wrap .i32 (byteAt ({ data:=#[] }++{ data:={ toList:=[u] } }) 0)))]]⟩]
  else K (.tup [.os 2 0 1,sv ⟨#[]⟩]) [some ⟨4,updF (.lst [[kv .i32 0,iv 0,kv .u8 0,kv .u8 0]]) 0 [kv .i32 0,iv 0,kv .u8 128,kv .u8 191]⟩,some ⟨1,.lst [[kv .i32 65533]]⟩,some ⟨1,.lst [[kv .i32 65533]]⟩]
  else none:=by
 kernel_rfl
noncomputable def enC (Q:Int->Prop) (E:Int->ByteArray):ConF:=fun args k=>match args with
 | [.sl _ g 1 1]=>match g 0 0 with
  | .v (.int .i32 c)=>bif holds (Q c) then k (fun _=>(sv (E c),[])) else none
  | _=>none
 | _=>none
noncomputable def deC (Q:ByteArray->ByteArray->Prop) (D:ByteArray->Int):ConF:=fun args k=>match args with
 | [.v (.string p),.v (.string s)]=>bif holds (Q p s) then k (fun _=>(.tup [.sl false (fun _ _=>kv .i32 (D s)) 1 1,sv ⟨#[]⟩],[])) else none
 | _=>none
theorem rgp_tree (c:Int) (Q:Int->Prop) (E:Int->ByteArray) (Q2:ByteArray->ByteArray->Prop) (D:ByteArray->Int) (k:DV->Option Unit):bodyD Tryz.prog (envZ [(146,enC Q E),(74,deC Q2 D)] noLp 0) Tryz.f123 [.agg (evP c)] [] (fun d _=>k d) =
  bif holds (Q c) then bif holds (Q2 { data:=#[] } (E c)) then bif D (E c) != c then k (bv false) else bif decide (c<32) then k (bv false) else bif decide (c >= 127) then bif decide (c<=159) then k (bv false)
  else bif c==c then k (bv ((0:Int)==0)) else k (bv false) else bif c==c then k (bv ((0:Int)==0)) else k (bv false) else none else none:=by
 kernel_rfl
theorem rgc_tree (c:Int) (k:DV->Option Unit):bodyD Tryz.prog (envZ [] noLp 0) Tryz.f123 [.agg (evC c)] [] (fun d _=>k d) =
  bif decide (c >= 32) then k (bv false) else bif c==24 then k (bv false) else bif c==26 then k (bv false) else bif c==27 then k (bv false) else bif c==c then k (bv ((0:Int)==0)) else k (bv false):=by
 kernel_rfl
def evOk (l:List DV):Prop:=(∃ c,l=evP c/\32<=c/\c<127)\/(∃ c,l=evC c/\0<=c/\c<14)
noncomputable def rgC (Q:List DV->Prop):ConF:=fun args k=>match args with
 | [.agg l]=>bif holds (Q l) then k (fun _=>(bv true,[])) else none
 | _=>none
theorem vkp_tree (c:Int) (Q:List DV->Prop) (k:DV->Option Unit):bodyD Tryz.prog (envZ [(123,rgC Q)] noLp 0) Tryz.f80 [.agg (evP c)] [] (fun d _=>k d) =
  bif holds (Q (evP c)) then k (iv 0) else none:=by
 kernel_rfl
theorem vkc_tree (c:Int) (Q:List DV->Prop) (k:DV->Option Unit):bodyD Tryz.prog (envZ [(123,rgC Q)] noLp 0) Tryz.f80 [.agg (evC c)] [] (fun d _=>k d) =
  bif holds (Q [iv 2,kv .i32 0,kv .u8 c,kv .u8 0,sv ⟨#[]⟩,DV.v (Value.slice none 0 0),sv ⟨#[]⟩]) then k (iv 0) else none:=by
 kernel_rfl
end Go.Proofs.YtigmkgampfbflaaGreatDoor
namespace Go.Proofs.YtigmkgampfbflaaGreatDoor
open Go Go.AE Go.DE Go.RowKit
def ascii (c:Int):Prop:=0<=c/\c<128
def oneY (c:Int):ByteArray:=bytesS 1 fun _=>c
theorem one_at {c:Int}(h:ascii c):byteAt (oneY c) 0=c:=by
 show (((UInt8.ofNat c.toNat).toNat:Nat):Int)=c;obtain ⟨h0,h1⟩:=h;rw [show (UInt8.ofNat c.toNat).toNat=c.toNat % 256 from rfl];omega
theorem W32 {c:Int}(h:ascii c):IntKind.u32.wrap c=c:=by
 obtain ⟨h0,h1⟩:=h;show c % 4294967296=c;omega
theorem W8 {c:Int}(h:ascii c):IntKind.u8.wrap c=c:=by
 obtain ⟨h0,h1⟩:=h;show c % 256=c;omega
theorem in224 {st:AE.Stat}(hx:Hx st):InOkZ Tryz.prog st e224:=⟨Tryz.func224,by kernel_rfl,by kernel_rfl,hx 224 rfl,envG_ok (fun _ h=>nomatch h) (fun _ h=>nomatch h) (fun _ h=>nomatch h),glOk st,(fun _ _ _ h=>nomatch h)⟩
theorem enC_ok {st:AE.Stat}(hx:Hx st):ConOkZ true Tryz.prog st 146 (enC ascii oneY):=by
 refine con_flatE (E:=envG Tryz.prog gl0 [] [e224] [] noLp 3) (glOk st) (envG_ok (fun _ h=>nomatch h) (one_inZ (in224 hx)) (fun _ h=>nomatch h)) Tryz.func146 (by kernel_rfl) (by kernel_rfl) (hx 146 rfl) (fun _ _ _ h=>nomatch h) fun args k hk=>?_
 unfold enC at hk
 split at hk<;>first | (cases hk; done) | skip
 rename_i t g
 split at hk<;>first | (cases hk; done) | skip
 rename_i c hg;obtain ⟨hb,hk⟩:=bif_none hk;have hb:=holds_eq.1 hb
 refine ⟨[.sl t (fun _ _=>kv .i32 c) 1 1],_,.cons (Cv.sl fun i f hi hf=>.of ?_) .nil,v_clo _,hk,(en1_tree t g c _).trans (dT ?_ (isD_of ?_))⟩
 ·obtain rfl:i=0:=by omega
  obtain rfl:f=0:=by omega
  exact hg
 ·rw [W32 hb]; have:=hb.2; omega
 ·rw [W8 hb]
  kernel_rfl
theorem bg_true (c:Int) (h0:0<=c) (h1:c<128):bodyD Tryz.prog (env [] noLp 0) Tryz.f113 [kv .u8 c] [] (fun d _=>isD (.agg [kv .i32 0,iv 0,kv .u8 128,kv .u8 191]) d)=some ():=by
 refine (bg_tree c _).trans ?_
 repeat' (first | exact isD_of rfl | refine dF (by omega) ?_ | refine cF (by simp; omega) ?_)
theorem bgC_ok {st:AE.Stat}(hx:Hx st):ConOk Tryz.prog st 113 (bgC ascii):=by
 refine con_flat (mg:=[]) (l:=[]) (lp:=noLp) (n:=0) (glOk st) (fun _ h=>nomatch h) Tryz.func113 (by kernel_rfl) (by kernel_rfl) (hx 113 rfl) (fun _ _ _ h=>nomatch h) fun args k hk=>?_
 unfold bgC at hk
 split at hk<;>first | (cases hk; done) | skip
 rename_i c;obtain ⟨hb,hk⟩:=bif_none hk;obtain ⟨h0,h1⟩:=holds_eq.1 hb;exact ⟨[kv .u8 c],_,.self .nil,agg_clo rfl,hk,bg_true c h0 h1⟩
theorem W_i32 {x:Int}(h1:-2147483648<=x) (h2:x<=2147483647):IntKind.i32.wrap x=x:=by
 rw [IntKind.wrap_i32];omega
def deQ (p s:ByteArray):Prop:=p=⟨#[]⟩/\∃ c,ascii c/\s=oneY c
theorem no_app (s:ByteArray):(⟨#[]⟩:ByteArray)++s=s:=by
 show ByteArray.empty++s=s;simp
theorem deC_ok {st:AE.Stat}(hx:Hx st):ConOkZ true Tryz.prog st 74 (deC deQ (fun s=>byteAt s 0)):=by
 refine con_frz (E:=envG Tryz.prog gl0 [] [] [(113,bgC ascii)] noLp 2) rfl (glOk st) (envG_ok (fun _ h=>nomatch h) (fun _ h=>nomatch h) fun x h=>?_) Tryz.func74 (by kernel_rfl) (by kernel_rfl) (hx 74 rfl) (fun _ _ _ h=>nomatch h) fun args k hk=>?_
 ·obtain rfl:=List.mem_singleton.1 h;exact (bgC_ok hx).z
 unfold deC at hk
 split at hk<;>first | (cases hk; done) | skip
 rename_i p s;obtain ⟨hb,hk2⟩:=bif_none hk;obtain ⟨rfl,c,hc,rfl⟩:=holds_eq.1 hb
 refine ⟨[sv ⟨#[]⟩,sv (oneY c)],_,.self (.self .nil),.tup fun d hd=>?_,hk2,(dc1_tree ascii (UInt8.ofNat c.toNat) _).trans ?_⟩
 ·simp only [List.mem_cons,List.not_mem_nil,or_false] at hd
  rcases hd with rfl | rfl
  ·exact .sl fun i f _ _=>.v _
  ·exact .v _
 have e:byteAt ((⟨#[]⟩:ByteArray)++⟨⟨[UInt8.ofNat c.toNat]⟩⟩) 0=c:=by
  rw [no_app];exact one_at hc
 rw [e]
 dsimp only
 rw [one_at hc]
 have e2:IntKind.i32.wrap c=c:=by
  obtain ⟨h0,h1⟩:=hc
  exact W_i32 (by omega) (by omega)
 rw [e2]
 refine hT hc (dT hc.2 (frzT (id:=2) rfl (Nat.le_refl _) (fun i f hi hf=>?_) fun i f hi hf=>?_))
 ·obtain rfl:i=0:=by have:i<1:=hi; omega
  obtain rfl:f=0:=by omega
  exact .v _
 ·obtain rfl:i=0:=by omega
  obtain rfl:f=0:=by omega
  rfl
theorem rgC_ok {st:AE.Stat}(hx:Hx st):ConOkZ true Tryz.prog st 123 (rgC evOk):=by
 intro args k hk;unfold rgC at hk
 split at hk<;>first | (cases hk; done) | skip
 rename_i l;obtain ⟨hb,hk0⟩:=bif_none hk;clear hk
 rcases holds_eq.1 hb with ⟨c,rfl,h0,h1⟩ | ⟨c,rfl,h0,h1⟩
 ·refine con_flatZ (F:=fun a k'=>bif holds (a=[.agg (evP c)]) then k' (fun _=>(bv true,[])) else none) (mg:=[]) (l:=[(146,enC ascii oneY),(74,deC deQ fun s=>byteAt s 0)]) (lp:=noLp) (n:=0) (glOk st) (fun x h=>?_) Tryz.func123 (by kernel_rfl) (by kernel_rfl) (hx 123 rfl) (fun _ _ _ h=>nomatch h) (fun args k hk2=>?_) _ k (hT rfl hk0)
  ·simp only [List.mem_cons,List.not_mem_nil,or_false] at h
   rcases h with rfl | rfl
   ·exact enC_ok hx
   ·exact deC_ok hx
  obtain ⟨e,hk3⟩:=bif_none hk2;obtain rfl:=holds_eq.1 e
  have hc:ascii c:=⟨by omega,by omega⟩
  refine ⟨_,_,.self .nil,v_clo _,hk3,(rgp_tree c ascii oneY deQ (fun s=>byteAt s 0) _).trans (hT hc (hT ⟨rfl,c,hc,rfl⟩ (cF ?_ (dF (by omega) (dF (by omega) (cT (by simp) (isD_of rfl)))))))⟩
  rw [one_at hc];simp
 ·refine con_flatZ (F:=fun a k'=>bif holds (a=[.agg (evC c)]) then k' (fun _=>(bv true,[])) else none) (mg:=[]) (l:=[]) (lp:=noLp) (n:=0) (glOk st) (fun _ h=>nomatch h) Tryz.func123 (by kernel_rfl) (by kernel_rfl) (hx 123 rfl) (fun _ _ _ h=>nomatch h) (fun args k hk2=>?_) _ k (hT rfl hk0)
  obtain ⟨e,hk3⟩:=bif_none hk2;obtain rfl:=holds_eq.1 e
  exact ⟨_,_,.self .nil,v_clo _,hk3,(rgc_tree c _).trans (dF (by omega) (cF (by simp; omega) (cF (by simp; omega) (cF (by simp; omega) (cT (by simp) (isD_of rfl))))))⟩
noncomputable def vkC (Q:List DV->Prop):ConF:=fun args k=>match args with
 | [.agg l]=>bif holds (Q l) then k (fun _=>(iv 0,[])) else none
 | _=>none
theorem vkC_ok {st:AE.Stat}(hx:Hx st):ConOkZ true Tryz.prog st 80 (vkC evOk):=by
 intro args k hk;unfold vkC at hk
 split at hk<;>first | (cases hk; done) | skip
 rename_i l;obtain ⟨hb,hk⟩:=bif_none hk;have hq:=holds_eq.1 hb
 refine con_flatZ (F:=fun a k'=>bif holds (a=[.agg l]) then k' (fun _=>(iv 0,[])) else none) (mg:=[]) (l:=[(123,rgC evOk)]) (lp:=noLp) (n:=0) (glOk st) (fun x h=>?_) Tryz.func80 (by kernel_rfl) (by kernel_rfl) (hx 80 rfl) (fun _ _ _ h=>nomatch h) (fun args k hk2=>?_) _ k (hT rfl hk)
 ·obtain rfl:=List.mem_singleton.1 h;exact rgC_ok hx
 obtain ⟨e,hk3⟩:=bif_none hk2;obtain rfl:=holds_eq.1 e
 rcases hq with ⟨c,rfl,h0,h1⟩ | ⟨c,rfl,h0,h1⟩
 ·exact ⟨_,_,.self .nil,v_clo _,hk3,(vkp_tree c evOk _).trans (hT (.inl ⟨c,rfl,h0,h1⟩) (isD_of rfl))⟩
 ·exact ⟨_,_,.self .nil,v_clo _,hk3,(vkc_tree c evOk _).trans (hT (.inr ⟨c,rfl,h0,h1⟩) (isD_of rfl))⟩
end Go.Proofs.YtigmkgampfbflaaGreatDoor
namespace Go.Proofs.YtigmkgampfbflaaGreatDoor
open Go Go.AE Go.DE Go.RowKit
noncomputable def d0C (Q:ByteArray->ByteArray->Prop):ConF:=fun args k=>match args with
 | [.v (.string p),.v (.string s)]=>bif holds (Q p s) then k (fun _=>(.tup [nilS,sv ⟨#[]⟩],[])) else none
 | _=>none
theorem d0_tree (k:DV->Option Unit):bodyD Tryz.prog (env [(113,bgC ascii)] noLp 1) Tryz.f74 [sv ⟨#[]⟩,sv ⟨#[]⟩] [] (fun d _=>k d) =
  k (.tup [DV.v (Value.slice none 0 0),sv ⟨#[]⟩]):=by
 kernel_rfl
theorem prp_tree (Q:ByteArray->ByteArray->Prop) (k:DV->Option Unit):bodyD Tryz.prog (env [(74,d0C Q)] noLp 0) Tryz.f34 [.agg [iv 0,sv ⟨#[]⟩,sv ⟨#[]⟩]] [] (fun d _=>k d) =
  bif holds (Q { data:=#[] } { data:=#[] }) then k (bv (ByteArray.toList { data:=#[] }==ByteArray.toList { data:=#[] })) else none:=by
 kernel_rfl
noncomputable abbrev e78:InE:=⟨78,Tryz.f78,envH Tryz.prog gl0 [] [] noLp 0⟩
noncomputable abbrev feE:Env Unit:=envH Tryz.prog gl0 [e78] [] noLp 0 [] true
theorem fe0_loop (s:ByteArray) (i:Int) (b1:DBlk) (K:Ex->Nat->List DV->List DV->DHeap->Option Unit):execD Tryz.prog feE (loopAt Tryz.f36 250) 500 (temps 68 [1,4,6,7] [sv s,.po 1 0 0,.po 2 0 0,iv i]) [none,some b1,some ⟨4,.lst [[iv 0,sv ⟨#[]⟩,sv ⟨#[]⟩,nilS]]⟩,none] (fun e τ σ=>K e τ.length (pick [1,4,6,7] τ) (pick [4,6] τ) σ) =
  bif decide (i<(↑(ByteArray.size s):Int)) then bif decide (0<=i) then bif decide (i<(↑(ByteArray.size s):Int)) then bif decide (byteAt s (Int.toNat i) >= 32) then bif decide (0<=i) then bif decide (i<(↑(ByteArray.size s):Int))
  then bif decide (byteAt s (Int.toNat i)<127) then bif decide (0<=i) then bif decide (i<(↑(ByteArray.size s):Int)) then K .normal 68 [sv s,.po 1 0 0,.po 2 0 0,iv (IntKind.wrap .i64 (i+1))] [.po 1 0 0,.po 2 0 0] [none,some b1,some ⟨4,.upd (.lst [[iv 0,sv ⟨#[]⟩,sv ⟨#[]⟩,DV.v (Value.slice none 0 0)]]) 0 3 (.os 6 0 1)⟩,none,some ⟨7,.lst [(evP (IntKind.wrap .i32 (byteAt s (Int.toNat i))))]⟩,some ⟨7,.lst [(evP (IntKind.wrap .i32 (byteAt s (Int.toNat i))))]⟩,some ⟨7,.lst [(evP (IntKind.wrap .i32 (byteAt s (Int.toNat i))))]⟩]
  else none else none else bif decide (0<=i) then bif decide (i<(↑(ByteArray.size s):Int)) then none else none else none else none else none else bif decide (0<=i) then bif decide (i<(↑(ByteArray.size s):Int))
  then none else none else none else none else none else K (.exit 0) 68 [sv s,.po 1 0 0,.po 2 0 0,iv i] [.po 1 0 0,.po 2 0 0] [none,some b1,some ⟨4,.lst [[iv 0,sv ⟨#[]⟩,sv ⟨#[]⟩,DV.v (Value.slice none 0 0)]]⟩,none]:=by
 kernel_rfl
theorem fe1_loop (s:ByteArray) (i:Int) (n:Nat) (g:Nat->Nat->DV) (b1:DBlk) (K:Ex->Nat->List DV->List DV->DHeap->Option Unit):execD Tryz.prog feE (loopAt Tryz.f36 250) 500 (temps 68 [1,4,6,7] [sv s,.po 1 0 0,.po 2 0 0,iv i]) [none,some b1,some ⟨4,.lst [[iv 0,sv ⟨#[]⟩,sv ⟨#[]⟩,.os 3 0 n]]⟩,some ⟨7,.tab n g⟩] (fun e τ σ=>K e τ.length (pick [1,4,6,7] τ) (pick [4,6] τ) σ) =
  bif decide (i<(↑(ByteArray.size s):Int)) then bif decide (0<=i) then bif decide (i<(↑(ByteArray.size s):Int)) then bif decide (byteAt s (Int.toNat i) >= 32) then bif decide (0<=i) then bif decide (i<(↑(ByteArray.size s):Int))
  then bif decide (byteAt s (Int.toNat i)<127) then bif decide (0<=i) then bif decide (i<(↑(ByteArray.size s):Int)) then bif decide (n<=DC.n (.tab n g)) then bif decide ((n+1)*(72:Nat)<=140737488355328)
  then K .normal 68 [sv s,.po 1 0 0,.po 2 0 0,iv (IntKind.wrap .i64 (i+1))] [.po 1 0 0,.po 2 0 0] [none,some b1,some ⟨4,.upd (.lst [[iv 0,sv ⟨#[]⟩,sv ⟨#[]⟩,.os 3 0 n]]) 0 3 (.os 6 0 (n+1))⟩,none,some ⟨7,.lst [(evP (IntKind.wrap .i32 (byteAt s (Int.toNat i))))]⟩,some ⟨7,.lst [(evP (IntKind.wrap .i32 (byteAt s (Int.toNat i))))]⟩,some ⟨7,.app (.pre (.tab n g) n) (.lst [(evP (IntKind.wrap .i32 (byteAt s (Int.toNat i))))])⟩]
  else none else none else none else none else bif decide (0<=i) then bif decide (i<(↑(ByteArray.size s):Int)) then none else none else none else none else none else bif decide (0<=i) then bif decide (i<(↑(ByteArray.size s):Int))
  then none else none else none else none else none else K (.exit 0) 68 [sv s,.po 1 0 0,.po 2 0 0,iv i] [.po 1 0 0,.po 2 0 0] [none,some b1,some ⟨4,.lst [[iv 0,sv ⟨#[]⟩,sv ⟨#[]⟩,.os 3 0 n]]⟩,some ⟨7,.tab n g⟩]:=by
 kernel_rfl
noncomputable def prpC (Q:ByteArray->ByteArray->Prop):ConF:=fun args k=>match args with
 | [.agg [.v (.int .i64 0),.v (.string p),.v (.string b)]]=>bif holds (Q p b) then k (fun _=>(bv true,[])) else none
 | _=>none
def evG (s:ByteArray):Nat->Nat->DV:=fun i f=>(evP (byteAt s i)).getD f .any
def outB7 (g:Nat->Nat->DV):Nat->Option DBlk
 | 0=>none
 | n+1=>some ⟨7,.tab (n+1) g⟩
def prs0:DBlk:=⟨3,.lst [[iv 0,sv ⟨#[]⟩,sv ⟨#[]⟩]]⟩
def rdr (d:DV):DBlk:=⟨4,.lst [[iv 0,sv ⟨#[]⟩,sv ⟨#[]⟩,d]]⟩
structure FEX where
 s:ByteArray
 i:Nat
def prn (s:ByteArray):Prop:=∀ j,j<s.size->32<=byteAt s j/\byteAt s j<127
def feI:LInv FEX where
 pre x:=x.i<=x.s.size/\x.s.size<=9000000/\prn x.s/\1<=x.s.size
 m:=3
 n:=68
 ps:=[1,4,6,7]
 sd x:=[sv x.s,.po 1 0 0,.po 2 0 0,iv x.i]
 sh x:=[none,some prs0,some (rdr (outD 3 x.i)),outB7 (evG x.s) x.i]
 meas x:=x.s.size-x.i
 e _:=.exit 0
 qs:=[4,6]
 od _:=[.po 1 0 0,.po 2 0 0]
 oh x:=[none,some prs0,some (rdr (.os 3 0 x.s.size)),some ⟨7,.tab x.s.size (evG x.s)⟩]
 guess ds _:=match ds with
  | [.v (.string s),_,_,_]=>some ⟨s,0⟩
  | _=>none
 cps x k:=k (.exit 0) [.po 1 0 0,.po 2 0 0] [none,some prs0,some (rdr (.os 3 0 x.s.size)),some ⟨7,.tab x.s.size (evG x.s)⟩]
theorem fee_tree (Q:ByteArray->ByteArray->Prop) (K:DV->DHeap->Option Unit):bodyD Tryz.prog (envH Tryz.prog gl0 [e78] [(34,prpC Q)] noLp 1 [] true) Tryz.f36 [.agg [iv 0,sv ⟨#[]⟩,sv ⟨#[]⟩],sv ⟨#[]⟩] [] (fun d σ=>K d σ) =
  bif holds (Q { data:=#[] } { data:=#[] }) then K (.tup [.agg [iv 0,sv ⟨#[]⟩,sv ⟨#[]⟩],DV.v (Value.slice none 0 0)]) [some ⟨3,.lst [[iv 0,sv ⟨#[]⟩,sv ⟨#[]⟩]]⟩,some ⟨3,updF (.lst [[iv 0,sv ⟨#[]⟩,sv ⟨#[]⟩]]) 0 [iv 0,sv ⟨#[]⟩,sv ⟨#[]⟩]⟩,some ⟨4,updF (.lst [[iv 0,sv ⟨#[]⟩,sv ⟨#[]⟩,DV.v (Value.slice none 0 0)]]) 0 [iv 0,sv ⟨#[]⟩,sv ⟨#[]⟩]⟩]
  else none:=by
 kernel_rfl
theorem fe_tree (s:ByteArray) (Q:ByteArray->ByteArray->Prop) (K:DV->DHeap->Option Unit):bodyD Tryz.prog (envH Tryz.prog gl0 [e78] [(34,prpC Q)] (lpOf [(250,feI.g)]) 0 [] true) Tryz.f36 [.agg [iv 0,sv ⟨#[]⟩,sv ⟨#[]⟩],sv s] [] (fun d σ=>K d σ) =
  bif holds (Q { data:=#[] } { data:=#[] }) then bif holds ((Nat.le 0 (ByteArray.size s)/\Nat.le (ByteArray.size s) 9000000/\(∀ (j:Nat),j<ByteArray.size s->Int.NonNeg (byteAt s j-32)/\Int.NonNeg (127-(byteAt s j+1)))/\Nat.le 1 (ByteArray.size s))/\∃ ids,WkP 3 ids [sv s,.po 1 0 0,.po 2 0 0,iv 0] [some ⟨3,.lst [[iv 0,sv ⟨#[]⟩,sv ⟨#[]⟩]]⟩,some ⟨3,.lst [[iv 0,sv ⟨#[]⟩,sv ⟨#[]⟩]]⟩,some ⟨4,updF (.lst [[iv 0,sv ⟨#[]⟩,sv ⟨#[]⟩,DV.v (Value.slice none 0 0)]]) 0 [iv 0,sv ⟨#[]⟩,sv ⟨#[]⟩]⟩] [sv s,.po 1 0 0,.po 2 0 0,iv 0] [none,some ⟨3,.lst [[iv 0,sv ⟨#[]⟩,sv ⟨#[]⟩]]⟩,some ⟨4,.lst [[iv 0,sv ⟨#[]⟩,sv ⟨#[]⟩,DV.v (Value.slice none 0 0)]]⟩,none])
  then K (.tup [.agg [iv 0,sv ⟨#[]⟩,sv ⟨#[]⟩],.os 3 0 (ByteArray.size s)]) [none,some ⟨3,updF (.lst [[iv 0,sv ⟨#[]⟩,sv ⟨#[]⟩]]) 0 [iv 0,sv ⟨#[]⟩,sv ⟨#[]⟩]⟩,some ⟨4,.lst [[iv 0,sv ⟨#[]⟩,sv ⟨#[]⟩,.os 3 0 (ByteArray.size s)]]⟩,some ⟨7,.tab (ByteArray.size s) (evG s)⟩]
  else none else none:=by
 kernel_rfl
end Go.Proofs.YtigmkgampfbflaaGreatDoor
namespace Go.Proofs.YtigmkgampfbflaaGreatDoor
open Go Go.AE Go.DE Go.RowKit
def nilQ (p s:ByteArray):Prop:=p=⟨#[]⟩/\s=⟨#[]⟩
theorem d0C_ok {st:AE.Stat}(hx:Hx st):ConOk Tryz.prog st 74 (d0C nilQ):=by
 refine con_flat (mg:=[]) (l:=[(113,bgC ascii)]) (lp:=noLp) (n:=1) (glOk st) (fun x h=>?_) Tryz.func74 (by kernel_rfl) (by kernel_rfl) (hx 74 rfl) (fun _ _ _ h=>nomatch h) fun args k hk=>?_
 ·obtain rfl:=List.mem_singleton.1 h;exact bgC_ok hx
 unfold d0C at hk
 split at hk<;>first | (cases hk; done) | skip
 rename_i p s;obtain ⟨hb,hk2⟩:=bif_none hk;clear hk;obtain ⟨rfl,rfl⟩:=holds_eq.1 hb;exact ⟨[sv ⟨#[]⟩,sv ⟨#[]⟩],_,.self (.self .nil),tup_clo rfl,hk2,(d0_tree _).trans (isD_of rfl)⟩
theorem prpC_ok {st:AE.Stat}(hx:Hx st):ConOk Tryz.prog st 34 (prpC nilQ):=by
 refine con_flat (mg:=[]) (l:=[(74,d0C nilQ)]) (lp:=noLp) (n:=0) (glOk st) (fun x h=>?_) Tryz.func34 (by kernel_rfl) (by kernel_rfl) (hx 34 rfl) (fun _ _ _ h=>nomatch h) fun args k hk=>?_
 ·obtain rfl:=List.mem_singleton.1 h;exact d0C_ok hx
 unfold prpC at hk
 split at hk<;>first | (cases hk; done) | skip
 rename_i p s;obtain ⟨hb,hk2⟩:=bif_none hk;clear hk;obtain ⟨rfl,rfl⟩:=holds_eq.1 hb
 exact ⟨[.agg [iv 0,sv ⟨#[]⟩,sv ⟨#[]⟩]],_,.self .nil,v_clo _,hk2,(prp_tree nilQ _).trans (hT ⟨rfl,rfl⟩ (isD_of (by rw [beq_self_eq_true])))⟩
theorem in78 {st:AE.Stat}(hx:Hx st):InOk Tryz.prog st e78:=⟨Tryz.func78,by kernel_rfl,by kernel_rfl,hx 78 rfl,envH_ok (fun _ h=>nomatch h) (fun _ h=>nomatch h),glOk st,(fun _ _ _ h=>nomatch h),rfl⟩
theorem feE_ok {st:AE.Stat}(hx:Hx st):EnvOk Tryz.prog st feE:=envH_ok (one_in (in78 hx)) (fun _ h=>nomatch h)
theorem ev_v (c:Int) {f:Nat}(hf:f<7):∃ x,(evP c).getD f .any=.v x:=by
 match f,hf with
 | 0,_=>exact ⟨_,rfl⟩
 | 1,_=>exact ⟨_,rfl⟩
 | 2,_=>exact ⟨_,rfl⟩
 | 3,_=>exact ⟨_,rfl⟩
 | 4,_=>exact ⟨_,rfl⟩
 | 5,_=>exact ⟨_,rfl⟩
 | 6,_=>exact ⟨_,rfl⟩
theorem evG_clo (s:ByteArray) (i:Nat) {f:Nat}(hf:f<7):Clo (evG s i f):=by
 obtain ⟨x,e⟩:=ev_v (byteAt s i) hf;show Clo ((evP (byteAt s i)).getD f .any);rw [e];exact .v x
theorem evG_low (s:ByteArray) (i:Nat) {f:Nat}(hf:f<7):Low (evG s i f):=by
 obtain ⟨x,e⟩:=ev_v (byteAt s i) hf;show Low ((evP (byteAt s i)).getD f .any);rw [e];exact .v x
theorem prs0_kb:KB prs0:=.lst (fun d hd=>by
 simp only [List.mem_cons,List.not_mem_nil,or_false] at hd
 rcases hd with rfl | rfl | rfl<;>exact .v _) (Nat.le_refl _)
theorem rdr_sub {r:Nat->Option Nat}{d d2 old:DV}(h:Sub r d2 d):SubC r (rdr d2) ⟨4,.upd (rdr old).c 0 3 d⟩:=⟨rfl,Nat.le_refl _,trivial,fun i f hi hf=>by
 have hi:i<1:=hi
 obtain rfl:i=0:=by omega
 have hf:f<4:=hf
 match f,hf with
 | 0,_=>exact .of_clo (.v _)
 | 1,_=>exact .of_clo (.v _)
 | 2,_=>exact .of_clo (.v _)
 | 3,_=>exact h⟩
theorem rdr_same {r:Nat->Option Nat}{d d2:DV}(h:Sub r d2 d):SubC r (rdr d2) (rdr d):=⟨rfl,Nat.le_refl _,trivial,fun i f hi hf=>by
 have hi:i<1:=hi
 obtain rfl:i=0:=by omega
 have hf:f<4:=hf
 match f,hf with
 | 0,_=>exact .of_clo (.v _)
 | 1,_=>exact .of_clo (.v _)
 | 2,_=>exact .of_clo (.v _)
 | 3,_=>exact h⟩
theorem ev_at (s:ByteArray) {i:Nat}(h:32<=byteAt s i/\byteAt s i<127) (f:Nat):[iv 1,kv .i32 (IntKind.i32.wrap (byteAt s i)),kv .u8 0,kv .u8 0,sv ⟨#[]⟩,nilS,sv ⟨#[]⟩].getD f .any=evG s i f:=by
 rw [W_i32 (by omega) (by omega)]
 rfl
theorem fe_ls {st:AE.Stat}(hx:Hx st):LoopSR true Tryz.prog st gl0 (.loop (loopAt Tryz.f36 250)) feI.g:=by
 refine feI.ok (E:=feE) (p:=500) (feE_ok hx) (glOk st).1 (fun _ _ _ h=>nomatch h) (fun x k h=>h) fun x hx2=>?_
 obtain ⟨s,i⟩:=x;obtain ⟨hi,hs,hp,h1⟩:i<=s.size/\s.size<=9000000/\prn s/\1<=s.size:=hx2
 cases i with
 | zero =>
  refine (fe0_loop s ((0:Nat):Int) prs0 _).trans ?_;have hb:=hp 0 h1
  have hW:IntKind.i64.wrap (((0:Nat):Int)+1)=((1:Nat):Int):=by rw [W_in (by omega) (by omega)]; omega
  rw [hW,Int.toNat_natCast]
  refine dT (by omega) (dT (by omega) (dT (by omega) (dT (by omega) (dT (by omega) (dT (by omega) (dT (by omega) (dT (by omega) (dT (by omega) (LInv.ask_of ⟨rfl,⟨s,1⟩,⟨rfl,rfl,rfl,h1,hs,hp,h1⟩,by simp only [feI]; omega,[6],.of (im:=[some 1,some 2,some 6]) (.cons (.v _) (.cons (.po rfl) (.cons (.po rfl) (.cons (.v _) .nil)))) rfl
   ⟨⟨1,_,rfl,rfl,prs0_kb.sub⟩,⟨2,_,rfl,rfl,rdr_sub (.os rfl)⟩,⟨6,_,rfl,rfl,rfl,Nat.le_refl _,trivial,fun j f hj hf=>?_⟩,trivial⟩ rfl (by decide)⟩)))))))))
  have hj:j<1:=hj
  obtain rfl:j=0:=by omega
  have e:=ev_at s hb f;show Sub _ (evG s 0 f) ([iv 1,kv .i32 (IntKind.i32.wrap (byteAt s 0)),kv .u8 0,kv .u8 0,sv ⟨#[]⟩,nilS,sv ⟨#[]⟩].getD f .any);rw [e];exact .of_clo (evG_clo s 0 hf)
 | succ i =>
  refine (fe1_loop s ((i+1:Nat):Int) (i+1) (evG s) prs0 _).trans ?_
  refine dS (fun hlt=>?_) fun hge=>?_
  ·have hlt:i+1<s.size:=by omega
   have hb:=hp (i+1) hlt
   have hW:IntKind.i64.wrap (((i+1:Nat):Int)+1)=((i+2:Nat):Int):=by rw [W_in (by omega) (by omega)]; omega
   rw [hW,Int.toNat_natCast]
   refine dT (by omega) (dT (by omega) (dT (by omega) (dT (by omega) (dT (by omega) (dT (by omega) (dT (by omega) (dT (by omega) (dT (Nat.le_refl _) (dT (by omega) (LInv.ask_of ⟨rfl,⟨s,i+2⟩,⟨rfl,rfl,rfl,hlt,hs,hp,h1⟩,by simp only [feI]; omega,[6],.of (im:=[some 1,some 2,some 6]) (.cons (.v _) (.cons (.po rfl) (.cons (.po rfl) (.cons (.v _) .nil)))) rfl
    ⟨⟨1,_,rfl,rfl,prs0_kb.sub⟩,⟨2,_,rfl,rfl,rdr_sub (.os rfl)⟩,⟨6,_,rfl,rfl,rfl,Nat.le_refl _,trivial,fun j f hj hf=>?_⟩,trivial⟩ rfl (by decide)⟩))))))))))
   have hj:j<i+2:=hj
   show Sub _ (evG s j f) (if j<i+1 then evG s j f else ([[iv 1,kv .i32 (IntKind.i32.wrap (byteAt s (i+1))),kv .u8 0,kv .u8 0,sv ⟨#[]⟩,nilS,sv ⟨#[]⟩]].getD (j-(i+1)) []).getD f .any)
   by_cases h:j<i+1
   ·rw [if_pos h];exact .of_clo (evG_clo s j hf)
   ·obtain rfl:j=i+1:=by omega
    rw [if_neg h,Nat.sub_self];have e:=ev_at s hb f;show Sub _ (evG s (i+1) f) ([iv 1,kv .i32 (IntKind.i32.wrap (byteAt s (i+1))),kv .u8 0,kv .u8 0,sv ⟨#[]⟩,nilS,sv ⟨#[]⟩].getD f .any);rw [e];exact .of_clo (evG_clo s _ hf)
  ·obtain e:s.size=i+1:=by omega
   refine LInv.ask_of ⟨rfl,rfl,[3],?_⟩;show WkP 3 [3] _ _ [.po 1 0 0,.po 2 0 0] [none,some prs0,some (rdr (.os 3 0 s.size)),some ⟨7,.tab s.size (evG s)⟩];rw [e]
   exact .of (im:=[some 1,some 2,some 3]) (.cons (.po rfl) (.cons (.po rfl) .nil)) rfl ⟨⟨1,_,rfl,rfl,prs0_kb.sub⟩,⟨2,_,rfl,rfl,rdr_same (.os rfl)⟩,⟨3,_,rfl,rfl,rfl,Nat.le_refl _,trivial,fun j f hj hf=>.of_clo (evG_clo s j hf)⟩,trivial⟩ rfl (by decide)
def prs:DV:=.agg [iv 0,sv ⟨#[]⟩,sv ⟨#[]⟩]
noncomputable def feC (Q:ByteArray->ByteArray->ByteArray->Prop) (G:ByteArray->Nat->Nat->DV):ConF:=fun args k=>match args with
 | [.agg [.v (.int .i64 0),.v (.string p),.v (.string b)],.v (.string s)]=>bif holds (Q p b s) then k (fun _=>(.tup [prs,.sl false (G s) 7 s.size],[])) else none
 | _=>none
def feQ (p b s:ByteArray):Prop:=nilQ p b/\s.size<=9000000/\prn s
theorem frzU {id k n:Nat}{c:DC}{g:Nat->Nat->DV}{σ:DHeap}{d:DV}(hd:Clo d) (hb:σ[id]?=some (some ⟨k,c⟩)) (hn:n<=c.n) (hc:∀ i f,i<c.n->f<k->Clo (c.get i f)) (he:∀ i f,i<n->f<k->c.get i f=g i f):fzq (.tup [d,.sl false g k n]) (.tup [d,.os id 0 n]) σ=some ():=by
 refine fzq_of ⟨[id],SubLZ.tup (.cons (Sub.of_clo hd).z (.cons (SubZ.cv (Cv.sl fun i f hi hf=>.of (he i f hi hf)) (SubZ.fz0 (c:=c) (by unfold zf; simp [hb]) hn fun _ _=>rfl)) .nil)),fun j hj blk hb2 i f hi hf=>?_⟩
 obtain rfl:j=id:=by simpa using hj
 rw [hb] at hb2;obtain rfl:(⟨k,c⟩:DBlk)=blk:=Option.some.inj (Option.some.inj hb2);exact hc i f hi hf
theorem nil_sl {g:Nat->Nat->DV}{k:Nat}:Cv nilS (.sl false g k 0):=fun C μ v hv=>by
 cases hv with
 | v x h=>exact .slnil _ _ _
theorem prs_clo:Clo prs/\Low prs:=agg_clo rfl
theorem feC_ok {st:AE.Stat}(hx:Hx st):ConOkZ true Tryz.prog st 36 (feC feQ evG):=by
 intro args k hk;unfold feC at hk
 split at hk<;>first | (cases hk; done) | skip
 rename_i p b s;obtain ⟨hb,hk0⟩:=bif_none hk;clear hk;obtain ⟨⟨rfl,rfl⟩,hs,hp⟩:=holds_eq.1 hb
 have low:Low (.tup [prs,.sl false (evG s) 7 s.size]):=.tup fun d hd=>by
  simp only [List.mem_cons,List.not_mem_nil,or_false] at hd
  rcases hd with rfl | rfl
  ·exact prs_clo.2
  ·exact .sl fun i f _ hf=>evG_low s i hf
 have ho:∀ x∈[((34:FuncId),prpC nilQ)],ConOkZ true Tryz.prog st x.1 x.2:=fun x h=>by
  obtain rfl:=List.mem_singleton.1 h;exact (prpC_ok hx).z
 by_cases h1:1<=s.size
 ·refine con_frz (F:=fun a k'=>bif holds (a=[prs,sv s]) then k' (fun _=>(.tup [prs,.sl false (evG s) 7 s.size],[])) else none) (E:=envH Tryz.prog gl0 [e78] [(34,prpC nilQ)] (lpOf [(250,feI.g)]) 0 [] true) rfl (glOk st) (envH_ok (one_in (in78 hx)) ho) Tryz.func36 (by kernel_rfl) (by kernel_rfl) (hx 36 rfl) (lp_in (c0:=.loop (loopAt Tryz.f36 250)) (by kernel_rfl) (fe_ls hx)) (fun args k hk2=>?_) _ k (hT rfl hk0)
  obtain ⟨e,hk3⟩:=bif_none hk2;obtain rfl:=holds_eq.1 e;refine ⟨[prs,sv s],_,.self (.self .nil),low,hk3,(fe_tree s nilQ _).trans (hT ⟨rfl,rfl⟩ (hT ⟨⟨Nat.zero_le _,hs,hp,h1⟩,[3],?_⟩ ?_))⟩
  ·exact .of (im:=[some 1,some 2]) (.cons (.v _) (.cons (.po rfl) (.cons (.po rfl) (.cons (.v _) .nil)))) rfl ⟨⟨1,_,rfl,rfl,prs0_kb.sub⟩,⟨2,_,rfl,rfl,rfl,Nat.le_refl _,trivial,fun i f hi hf=>by
    have hi:i<1:=hi
    obtain rfl:i=0:=by omega
    have hf:f<4:=hf
    match f,hf with
    | 0,_=>exact .of_clo (.v _)
    | 1,_=>exact .of_clo (.v _)
    | 2,_=>exact .of_clo (.v _)
    | 3,_=>exact .of_clo (.v _)⟩,trivial⟩ rfl (by decide)
  ·exact frzU prs_clo.1 (id:=3) rfl (Nat.le_refl _) (fun i f _ hf=>evG_clo s i hf) fun i f _ _=>rfl
 ·have h0:s=⟨#[]⟩:=by
   have:s.size=0:=by omega
   cases s with
   | mk d =>
    have:d.size=0:=this;rw [Array.size_eq_zero_iff.1 this]
  subst h0
  refine con_frz (F:=fun a k'=>bif holds (a=[prs,sv ⟨#[]⟩]) then k' (fun _=>(.tup [prs,.sl false (evG ⟨#[]⟩) 7 0],[])) else none) (E:=envH Tryz.prog gl0 [e78] [(34,prpC nilQ)] noLp 1 [] true) rfl (glOk st) (envH_ok (one_in (in78 hx)) ho) Tryz.func36 (by kernel_rfl) (by kernel_rfl) (hx 36 rfl) (fun _ _ _ h=>nomatch h) (fun args k hk2=>?_) _ k (hT rfl hk0)
  obtain ⟨e,hk3⟩:=bif_none hk2;obtain rfl:=holds_eq.1 e
  refine ⟨[prs,sv ⟨#[]⟩],_,.self (.self .nil),low,hk3,(fee_tree nilQ _).trans (hT ⟨rfl,rfl⟩ (fzq_of ⟨[],SubLZ.tup (.cons (Sub.of_clo prs_clo.1).z (.cons (SubZ.cv nil_sl (Sub.v _).z) .nil)),fun j hj=>nomatch hj⟩))⟩
end Go.Proofs.YtigmkgampfbflaaGreatDoor
namespace Go.Proofs.YtigmkgampfbflaaGreatDoor
open Go Go.AE Go.DE Go.RowKit
theorem wi_tree (r c:Int) (p:Bool) (w h:Int) (t:Bool) (G:Nat->Nat->DV) (n:Nat) (k:DV->Option Unit):bodyD Tryz.prog (env [] noLp 0) Tryz.f27 [.agg [iv r,iv c,bv p],.agg [iv w,iv h,.sl t G 1 n]] [] (fun d _=>k d) =
  bif decide (r >= 0) then bif decide (r<h) then bif decide (c >= 0) then bif decide (c<w) then bif !p then k (bv true) else k (bv (c==IntKind.wrap .i64 (w-1))) else k (bv false) else k (bv false)
  else k (bv false) else k (bv false):=by
 kernel_rfl
theorem wiC_ok {st:AE.Stat}(hx:Hx st):ConOk Tryz.prog st 27 (isC insF):=by
 refine con_flat (mg:=[]) (l:=[]) (lp:=noLp) (n:=0) (glOk st) (fun _ h=>nomatch h) Tryz.func27 (by kernel_rfl) (by kernel_rfl) (hx 27 rfl) (fun _ _ _ h=>nomatch h) fun args k hk=>?_
 unfold isC at hk
 split at hk<;>first | (cases hk; done) | skip
 refine ⟨_,_,.self (.self .nil),v_clo _,hk,(wi_tree _ _ _ _ _ _ _ _ _).trans ?_⟩;unfold insF
 repeat' (first | exact isD_of (by simp [*]) | refine dS (fun h=>?_) (fun h=>?_) | refine cS (fun h=>?_) (fun h=>?_))
noncomputable abbrev s64:ConF:=inl2 Tryz.prog (env [] noLp 0) Tryz.f69
noncomputable abbrev s98:ConF:=inl2 Tryz.prog (env [(69,s64)] noLp 4) Tryz.f108
noncomputable abbrev s63:ConF:=inl2 Tryz.prog (env [(108,s98)] noLp 0) Tryz.f68
theorem st_tree (a b c:Int) (k:DV->Option Unit):bodyD Tryz.prog (env [(68,s63)] noLp 0) Tryz.f29 [.agg [kv .u8 a,kv .u8 b],iv c] [] (fun d _=>k d) =
  bif a != 66 then bif a != 48 then k (bv false) else bif b != 66 then bif b != 48 then k (bv false) else bif c==0 then k (bv true) else k (bv (c==1)) else bif c==0 then k (bv true) else k (bv (c==1))
  else bif b != 66 then bif b != 48 then k (bv false) else bif c==0 then k (bv true) else k (bv (c==1)) else bif c==0 then k (bv true) else k (bv (c==1)):=by
 kernel_rfl
theorem s64_ok {st:AE.Stat}(hx:Hx st):ConOk Tryz.prog st 69 s64:=inl2_ok Tryz.func69 (by kernel_rfl) (by kernel_rfl) (hx 69 rfl) (glOk st) (tblD_env (l:=[]) fun _ h=>nomatch h) (fun _ _ _ h=>nomatch h)
theorem s98_ok {st:AE.Stat}(hx:Hx st):ConOk Tryz.prog st 108 s98:=inl2_ok Tryz.func108 (by kernel_rfl) (by kernel_rfl) (hx 108 rfl) (glOk st) (tblD_env (l:=[(69,s64)]) fun x h=>by
 simp only [List.mem_cons,List.not_mem_nil,or_false] at h;subst h
 exact s64_ok hx) (fun _ _ _ h=>nomatch h)
theorem s63_ok {st:AE.Stat}(hx:Hx st):ConOk Tryz.prog st 68 s63:=inl2_ok Tryz.func68 (by kernel_rfl) (by kernel_rfl) (hx 68 rfl) (glOk st) (tblD_env (l:=[(108,s98)]) fun x h=>by
 simp only [List.mem_cons,List.not_mem_nil,or_false] at h;subst h
 exact s98_ok hx) (fun _ _ _ h=>nomatch h)
theorem stC_ok {st:AE.Stat}(hx:Hx st):ConOk Tryz.prog st 29 (seC setF):=by
 refine con_flat (mg:=[]) (l:=[(68,s63)]) (lp:=noLp) (n:=0) (glOk st) (fun x h=>?_) Tryz.func29 (by kernel_rfl) (by kernel_rfl) (hx 29 rfl) (fun _ _ _ h=>nomatch h) fun args k hk=>?_
 ·simp only [List.mem_cons,List.not_mem_nil,or_false] at h;subst h;exact s63_ok hx
 unfold seC at hk
 split at hk<;>first | (cases hk; done) | skip
 refine ⟨_,_,.self (.self .nil),v_clo _,hk,(st_tree _ _ _ _).trans ?_⟩;unfold setF
 repeat' (first | exact isD_of (by simp_all [bne]) | refine cS (fun h=>?_) (fun h=>?_))
def chkFn:DV:=.fn (.func 32) [] []
theorem c1_tree (F:Row->Int) (t:Bool) (r:Row) (k:DV->Option Unit):bodyD Tryz.prog (env [(33,rcC F)] noLp 0) Tryz.f32 [.sl t r.cell 5 r.n] [] (fun d _=>k d) =
  bif holds (Nat.le r.n 9000000/\∀ (i:Nat),i<r.n->sv (r.tx i)=sv (strD (sv (r.tx i)))/\Nat.le (ByteArray.size (strD (sv (r.tx i)))) 9000000/\iv (r.wd i)=iv (numD (iv (r.wd i)))/\iv (r.fo i)=iv (numD (iv (r.fo i)))/\iv (r.ba i)=iv (numD (iv (r.ba i)))/\iv (r.fl i)=iv (numD (iv (r.fl i))))
  then k (bv (F { n:=r.n,tx:=fun i=>strD (sv (r.tx i)),wd:=fun i=>numD (iv (r.wd i)),fo:=fun i=>numD (iv (r.fo i)),ba:=fun i=>numD (iv (r.ba i)),fl:=fun i=>numD (iv (r.fl i)) } != 0))
  else none:=by
 kernel_rfl
noncomputable def c1C (F:Row->Int):ConF:=fun args k=>match args with
 | [.sl _ g 5 n]=>bif holds (cellsOk g n) then k (fun _=>(bv (F (rowOf g n) != 0),[])) else none
 | _=>none
theorem c1C_ok {st:AE.Stat}(hx:Hx st) (hv:VdOk st):ConOk Tryz.prog st 32 (c1C rowF):=by
 refine con_flat (mg:=[]) (l:=[(33,rcC rowF)]) (lp:=noLp) (n:=0) (glOk st) (fun x h=>?_) Tryz.func32 (by kernel_rfl) (by kernel_rfl) (hx 32 rfl) (fun _ _ _ h=>nomatch h) fun args k hk=>?_
 ·simp only [List.mem_cons,List.not_mem_nil,or_false] at h;subst h;exact rrC_ok hx hv
 unfold c1C at hk
 split at hk<;>first | (cases hk; done) | skip
 rename_i t g n;obtain ⟨hb,hk⟩:=bif_none hk;have hb:=holds_eq.1 hb;exact ⟨[.sl t (rowOf g n).cell 5 n],_,.cons (hb.cv t) .nil,v_clo _,hk,(c1_tree rowF t (rowOf g n) _).trans (hT (Row.ok hb.row) (isD_of rfl))⟩
theorem chkFn_clo:Clo chkFn:=fun C μ μ' x hx=>by
 cases hx with
 | fn _ _ _ u v h1 h2 h3 h4=>exact .fn _ _ _ u v h1 h2 (fun i d x' hd=>by simp at hd) fun i d x' hd=>by simp at hd
theorem if_loop (F:Row->Int) (t:Bool) (T:Nat->Bool) (R:Nat->Row) (n i:Nat) (K:Ex->Nat->List DV->List DV->DHeap->Option Unit):execD Tryz.prog (env [(32,c1C F)] noLp 0) (loopAt Tryz.f71 26) 500 (temps 19 [0,1,7,8] [.sl t (rowsD T R) 1 n,chkFn,iv n,iv i]) [] (fun e τ σ=>K e τ.length (pick [0,1,7,8] τ) (pick [] τ) σ) =
  bif decide ((i:Int)<(n:Int)) then bif decide ((i:Int)<(n:Int)) then bif decide (tN i<n) then bif holds (Nat.le (Row.n (R (tN i))) 9000000/\∀ (i_1:Nat),i_1<Row.n (R (tN i))->sv (Row.tx (R (tN i)) i_1)=sv (strD (sv (Row.tx (R (tN i)) i_1)))/\Nat.le (ByteArray.size (strD (sv (Row.tx (R (tN i)) i_1)))) 9000000/\iv (Row.wd (R (tN i)) i_1)=iv (numD (iv (Row.wd (R (tN i)) i_1)))/\iv (Row.fo (R (tN i)) i_1)=iv (numD (iv (Row.fo (R (tN i)) i_1)))/\iv (Row.ba (R (tN i)) i_1)=iv (numD (iv (Row.ba (R (tN i)) i_1)))/\iv (Row.fl (R (tN i)) i_1)=iv (numD (iv (Row.fl (R (tN i)) i_1))))
  then bif F (rowOf (Row.cell (R (tN i))) (Row.n (R (tN i)))) != 0 then K .ret 19 [.sl t (rowsD T R) 1 n,.fn (Fn.func 32) [] [],iv (n:Int),iv (i:Int)] [] [] else K .normal 19 [.sl t (rowsD T R) 1 n,.fn (Fn.func 32) [] [],iv (n:Int),iv (IntKind.wrap .i64 ((i:Int)+1))] [] []
  else none else none else none else K (.exit 0) 19 [.sl t (rowsD T R) 1 n,.fn (Fn.func 32) [] [],iv (n:Int),iv (i:Int)] [] []:=by
 kernel_rfl
structure ZIf where
 t:Bool
 T:Nat->Bool
 R:Nat->Row
 n:Nat
 i:Nat
noncomputable def ifI:LInv ZIf where
 pre x:=x.i<=x.n/\rowsOk x.R x.n/\∀ j,j<x.n->rowF (x.R j)=0
 m:=0
 n:=19
 ps:=[0,1,7,8]
 sd x:=[.sl x.t (rowsD x.T x.R) 1 x.n,chkFn,iv x.n,iv x.i]
 sh _:=[]
 meas x:=x.n-x.i
 e _:=.exit 0
 qs:=[]
 od _:=[]
 oh _:=[]
 guess ds _:=match ds with
  | [.sl t g 1 n,_,_,_]=>some ⟨t,fun i=>slT (g i 0),fun i=>rowD (g i 0),n,0⟩
  | _=>none
 cps _ k:=k (.exit 0) [] []
theorem if_ls {st:AE.Stat}(hx:Hx st) (hv:VdOk st):LoopS Tryz.prog st gl0 (.loop (loopAt Tryz.f71 26)) ifI.g:=by
 refine ifI.ok (E:=env [(32,c1C rowF)] noLp 0) (p:=500) (tblD_env (l:=[(32,c1C rowF)]) fun x h=>?_) (glOk st).1 (fun _ _ _ h=>nomatch h) (fun x k h=>h) fun x hx2=>?_
 ·simp only [List.mem_cons,List.not_mem_nil,or_false] at h;subst h;exact c1C_ok hx hv
 obtain ⟨t,T,R,n,i⟩:=x;obtain ⟨hi,hR,hz⟩:i<=n/\rowsOk R n/\∀ j,j<n->rowF (R j)=0:=hx2;have hn:=hR.1;refine (if_loop rowF t T R n i _).trans ?_;simp only [Int.toNat_natCast,Nat.add_zero]
 refine dS (fun hlt=>?_) fun hge=>?_
 ·have hlt:i<n:=by omega
  have hW:IntKind.i64.wrap ((i:Int)+1)=((i+1:Nat):Int):=by rw [W_in (by omega) (by omega)]; omega
  rw [hW]
  have e2:(rowF (R i) != 0)=false:=by rw [hz i hlt]; rfl
  refine dT (by omega) (dT hlt (hT (Row.ok (hR.2 i hlt)) (cF e2 ?_)))
  exact LInv.ask_of ⟨rfl,⟨t,T,R,n,i+1⟩,⟨rfl,rfl,rfl,hlt,hR,hz⟩,by simp only [ifI]; omega,[],wk0 (.cons (.sl _ _ _ _) (.cons (.of_clo chkFn_clo) (.cons (.v _) (.cons (.v _) .nil)))) rfl⟩
 ·exact LInv.ask_of ⟨rfl,rfl,[],wk0 .nil rfl⟩
theorem if_tree (t:Bool) (T:Nat->Bool) (R:Nat->Row) (n:Nat) (k:DV->Option Unit):bodyD Tryz.prog (env [] (lpOf [(26,ifI.g)]) 0) Tryz.f71 [.sl t (rowsD T R) 1 n,chkFn] [] (fun d _=>k d) =
  bif holds ((Nat.le 0 n/\(Nat.le n 9000000/\∀ (i:Nat),i<n->Nat.le (Row.n (R i)) 9000000/\∀ (i_1:Nat),i_1<Row.n (R i)->Nat.le (ByteArray.size (Row.tx (R i) i_1)) 9000000)/\∀ (j:Nat),j<n->rowF (R j)=0)/\∃ ids,WkP 0 ids [.sl t (rowsD T R) 1 n,.fn (Fn.func 32) [] [],iv (n:Int),iv 0] [] [.sl t (fun a _=>DV.sl (slT (.sl (T a) (Row.cell (R a)) 5 (Row.n (R a)))) (Row.cell (R a)) 5 (Row.n (R a))) 1 n,.fn (Fn.func 32) [] [],iv (n:Int),iv 0] (LInv.sh ifI { t:=t,T:=fun i=>slT (.sl (T i) (Row.cell (R i)) 5 (Row.n (R i))),R:=R,n:=n,i:=0 }))
  then k (iv (-1:Int)) else none:=by
 kernel_rfl
def backQ (G:Nat->Nat->DV) (n:Nat):Prop:=rowsSo G n/\∀ i,i<n->rowF (rowD (G i 0))=0
noncomputable def ifC (Q:(Nat->Nat->DV)->Nat->Prop) (d:DV):ConF:=fun args k=>match args with
 | [.sl _ G 1 n,.fn (.func 32) [] []]=>bif holds (Q G n) then k (fun _=>(d,[])) else none
 | _=>none
theorem ifC_ok {st:AE.Stat}(hx:Hx st) (hv:VdOk st):ConOk Tryz.prog st 71 (ifC backQ (iv (-1))):=by
 refine con_flat (mg:=[]) (l:=[]) (lp:=lpOf [(26,ifI.g)]) (n:=0) (glOk st) (fun _ h=>nomatch h) Tryz.func71 (by kernel_rfl) (by kernel_rfl) (hx 71 rfl) (lp_one (by kernel_rfl) (if_ls hx hv)) fun args k hk=>?_
 unfold ifC at hk
 split at hk<;>first | (cases hk; done) | skip
 rename_i t G n;obtain ⟨hb,hk⟩:=bif_none hk;obtain ⟨hb,hz⟩:=holds_eq.1 hb
 exact ⟨[.sl t (rowsD (fun i=>slT (G i 0)) fun i=>rowD (G i 0)) 1 n,chkFn],_,.cons (rows_cv hb.2) (.self .nil),v_clo _,hk,(if_tree t _ _ n _).trans (hT ⟨⟨Nat.zero_le _,⟨hb.1,fun i hi=>(hb.2 i hi).2.row⟩,hz⟩,[],wk0 (.cons (.sl _ _ _ _) (.cons (.of_clo chkFn_clo) (.cons (.v _) (.cons (.v _) .nil)))) rfl⟩ (isD_of rfl))⟩
theorem cf_tree (Q:(Nat->Nat->DV)->Nat->Prop) (t:Bool) (G:Nat->Nat->DV) (n:Nat) (k:DV->Option Unit):bodyD Tryz.prog (env [(71,ifC Q (iv (-1)))] noLp 0) Tryz.f31 [.sl t G 1 n,chkFn] [] (fun d _=>k d) =
  bif holds (Q G n) then k (bv (decide ((-1:Int) >= 0))) else none:=by
 kernel_rfl
theorem cfC_ok {st:AE.Stat}(hx:Hx st) (hv:VdOk st):ConOk Tryz.prog st 31 (ifC backQ (bv false)):=by
 refine con_flat (mg:=[]) (l:=[(71,ifC backQ (iv (-1)))]) (lp:=noLp) (n:=0) (glOk st) (fun x h=>?_) Tryz.func31 (by kernel_rfl) (by kernel_rfl) (hx 31 rfl) (fun _ _ _ h=>nomatch h) fun args k hk=>?_
 ·simp only [List.mem_cons,List.not_mem_nil,or_false] at h;subst h;exact ifC_ok hx hv
 unfold ifC at hk
 split at hk<;>first | (cases hk; done) | skip
 rename_i t G n;obtain ⟨hb,hk⟩:=bif_none hk;exact ⟨[.sl t G 1 n,chkFn],_,.self (.self .nil),v_clo _,hk,(cf_tree backQ t G n _).trans (hT (holds_eq.1 hb) (isD_of rfl))⟩
end Go.Proofs.YtigmkgampfbflaaGreatDoor
