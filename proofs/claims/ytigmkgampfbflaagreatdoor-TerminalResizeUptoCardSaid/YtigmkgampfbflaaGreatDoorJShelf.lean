/-
 strings.Builder's WriteString and String at this dump: the kit's contracts,laid.
 Conditions: none beyond those of the contracts.
-/
import Derived.Shelf.Strings.Builder1
import Derived.Shelf.Strings.BuilderF
import Derived.Shelf.Strings.BuilderK
import Derived.Shelf.LaysM
import Derived.Ground.SlgnProg
import Derived.Test.YtigmkgampfbflaaGreatDoorProg
import Derived.Test.YtigmkgampfbflaaGreatDoorDeCon
import Derived.WalkKit
import Derived.BigCall
import Derived.LoopTactic
import Derived.Test.YtigmkgampfbflaaGreatDoorAeMpg
import Derived.Test.YtigmkgampfbflaaGreatDoorAeFast4
import Derived.Test.YtigmkgampfbflaaGreatDoorAeSub2
import Derived.KernelRfl
import Derived.Shelf.Unicode.ValidAny
import Derived.Test.YtigmkgampfbflaaGreatDoorDeNd
namespace Go.Proofs
open Go.Shelf
def Tryz.lays166_ren:Go.Shelf.Ren:=⟨fun | 166=>61 | 240=>103 | 276=>161 | n=>n,fun | 0=>0 | 3=>3 | 4=>4 | 5=>5 | 9=>9 | 20=>20 | 37=>82 | 70=>99 | 72=>101 | 75=>105 | 80=>108 | 164=>197 | n=>n,fun | n=>n⟩
theorem Tryz.lays166:Go.Proofs.Lays.n166 Tryz.prog Tryz.lays166_ren:={
 mixed:=by kernel_rfl
 f166:=Tryz.func61.trans (congrArg some (by kernel_rfl))
 f240:=Tryz.func103.trans (congrArg some (by kernel_rfl))
 f276:=Tryz.func161.trans (congrArg some (by kernel_rfl))
 t0:=Tryz.underlying0
 a0:=Tryz.isAgg0
 z0:=Tryz.sizeOf0
 v0:=Tryz.zeroValue0
 t3:=Tryz.underlying3
 a3:=Tryz.isAgg3
 z3:=Tryz.sizeOf3
 v3:=Tryz.zeroValue3
 t4:=Tryz.underlying4
 a4:=Tryz.isAgg4
 z4:=Tryz.sizeOf4
 v4:=Tryz.zeroValue4
 t9:=Tryz.underlying9
 a9:=Tryz.isAgg9
 z9:=Tryz.sizeOf9
 v9:=Tryz.zeroValue9
 t20:=Tryz.underlying20
 a20:=Tryz.isAgg20
 z20:=Tryz.sizeOf20
 v20:=Tryz.zeroValue20
 t37:=Tryz.underlying82
 a37:=Tryz.isAgg82
 z37:=Tryz.sizeOf82
 v37:=Tryz.zeroValue82
 t70:=Tryz.underlying99
 a70:=Tryz.isAgg99
 z70:=Tryz.sizeOf99
 v70:=Tryz.zeroValue99
 t72:=Tryz.underlying101
 a72:=Tryz.isAgg101
 z72:=Tryz.sizeOf101
 v72:=Tryz.zeroValue101
 t75:=Tryz.underlying105
 a75:=Tryz.isAgg105
 z75:=Tryz.sizeOf105
 v75:=Tryz.zeroValue105
 t164:=Tryz.underlying197
 a164:=Tryz.isAgg197
 z164:=Tryz.sizeOf197
 v164:=Tryz.zeroValue197 }
theorem Tryz.Builder_Extra_166:Builder.Extra Tryz.prog Tryz.lays166_ren:={
 sizeBuilder:=by kernel_rfl
 liesBuilder:=by kernel_rfl
 t5:=Tryz.underlying5
 a5:=Tryz.isAgg5
 z5:=Tryz.sizeOf5
 v5:=Tryz.zeroValue5
 infoByte:=by kernel_rfl
 cellsByte:=by kernel_rfl
 sizeByte:=by kernel_rfl
 neB5:=by decide }
def Tryz.lays169_ren:Go.Shelf.Ren:=⟨fun | 169=>62 | n=>n,fun | 0=>0 | 3=>3 | 5=>5 | 9=>9 | 37=>82 | 70=>99 | 72=>101 | 127=>149 | n=>n,fun | n=>n⟩
theorem Tryz.lays169:Go.Proofs.Lays.n169 Tryz.prog Tryz.lays169_ren:={
 mixed:=by kernel_rfl
 f169:=Tryz.func62.trans (congrArg some (by kernel_rfl))
 t0:=Tryz.underlying0
 a0:=Tryz.isAgg0
 z0:=Tryz.sizeOf0
 v0:=Tryz.zeroValue0
 t3:=Tryz.underlying3
 a3:=Tryz.isAgg3
 z3:=Tryz.sizeOf3
 v3:=Tryz.zeroValue3
 t9:=Tryz.underlying9
 a9:=Tryz.isAgg9
 z9:=Tryz.sizeOf9
 v9:=Tryz.zeroValue9
 t37:=Tryz.underlying82
 a37:=Tryz.isAgg82
 z37:=Tryz.sizeOf82
 v37:=Tryz.zeroValue82
 t70:=Tryz.underlying99
 a70:=Tryz.isAgg99
 z70:=Tryz.sizeOf99
 v70:=Tryz.zeroValue99
 t72:=Tryz.underlying101
 a72:=Tryz.isAgg101
 z72:=Tryz.sizeOf101
 v72:=Tryz.zeroValue101
 t127:=Tryz.underlying149
 a127:=Tryz.isAgg149
 z127:=Tryz.sizeOf149
 v127:=Tryz.zeroValue149 }
theorem Tryz.Builder_Extra_169:Builder.Extra Tryz.prog Tryz.lays169_ren:={
 sizeBuilder:=by kernel_rfl
 liesBuilder:=by kernel_rfl
 t5:=Tryz.underlying5
 a5:=Tryz.isAgg5
 z5:=Tryz.sizeOf5
 v5:=Tryz.zeroValue5
 infoByte:=by kernel_rfl
 cellsByte:=by kernel_rfl
 sizeByte:=by kernel_rfl
 neB5:=by decide }
open Go.RowKit in
theorem Tryz.Builder_WriteString (B b:Nat) (bs:List Value) (s:ByteArray) (w:World) (h:Lib.IsBuilder 101 5 B b bs w) (hlen:bs.length+s.size≤140737488355328) (hBw:B≤w.heap.size) :
  Calls Tryz.prog 61 #[.pointer (some ⟨b,0,none⟩),.string s] w fun e w'=>e=.returned (.tuple #[.int .i64 s.size,.nilIface])∧(Lib.BuilderAt 101 5 B b (.pointer (some ⟨b,0,none⟩)) (bs++Lib.strCells s) w'∧Below B w w'):=Any.Builder_WriteString Tryz.lays166 Tryz.Builder_Extra_166 B b bs s w h hlen hBw
open Go.RowKit in
theorem Tryz.Builder_String_any (B b:Nat) (l:List UInt8) (w:World) (h:Lib.IsBuilder 101 5 B b (Lib.byteCells l) w) (hBw:B≤w.heap.size) :
  Calls Tryz.prog 62 #[.pointer (some ⟨b,0,none⟩)] w fun e w'=>e=.returned (.string ⟨l.toArray⟩)∧Below B w w':=Any.Builder_String_any Tryz.lays169 Tryz.Builder_Extra_169 B b l w h hBw
end Go.Proofs
namespace Go.Proofs.YtigmkgampfbflaaGreatDoor
open Go Go.AE Go.DE Go.RowKit
theorem bld_keep {B b:Nat}{bs:List Value}{w w':World}(h:Lib.IsBuilder 101 5 B b bs w) (hk:∀ k,k<w.heap.size→w'.heap[k]?=w.heap[k]?):Lib.IsBuilder 101 5 B b bs w':=by
 have key:∀ p,Lib.BuilderAt 101 5 B b p bs w→Lib.BuilderAt 101 5 B b p bs w':=by
  rintro p ⟨h1,v,h2,⟨h3,h4⟩,h5⟩
  refine ⟨h1,v,(hk b (Array.getElem?_eq_some_iff.1 h2).1).trans h2,⟨h3,h4.imp id ?_⟩,h5⟩
  rintro ⟨g,cap,cur,e,q1,q2,q3⟩
  exact ⟨g,cap,cur,e,q1,(hk g (Array.getElem?_eq_some_iff.1 q2).1).trans q2,q3⟩
 exact h.imp (key _) (key _)
def upTo (f:Nat→ByteArray):Nat→List UInt8
 | 0=>[]
 | k+1=>upTo f k++(f k).data.toList
theorem upTo_len {f:Nat→ByteArray}(h:∀ k,k<5→(f k).size≤1000):∀ {k:Nat},k≤5→(upTo f k).length≤1000*k
 | 0,_=>by simp [upTo]
 | k+1,hk=>by
  have h1:=upTo_len h (k:=k) (by omega)
  have h2:=h k (by omega)
  have h3:(f k).data.toList.length=(f k).size:=Array.length_toList
  simp only [upTo,List.length_append,h3]
  omega
set_option maxRecDepth 100000 in
set_option maxHeartbeats 8000000 in
theorem text_calls (bk o c:Nat) (f:Nat→ByteArray) (w0 x0 y0 z0:Int) (w1 x1 y1 z1:Int) (w2 x2 y2 z2:Int) (w3 x3 y3 z3:Int) (w4 x4 y4 z4:Int) (w:World) (hs:∀ k,k<5→(f k).size≤1000) (h00:w.cell? ⟨bk,o,none⟩=some (.string (f 0))) (h01:w.cell? ⟨bk,o+1,none⟩=some (.int .i64 w0)) (h02:w.cell? ⟨bk,o+2,none⟩=some (.int .i64 x0)) (h03:w.cell? ⟨bk,o+3,none⟩=some (.int .i64 y0)) (h04:w.cell? ⟨bk,o+4,none⟩=some (.int .i64 z0)) (h10:w.cell? ⟨bk,o+5,none⟩=some (.string (f 1))) (h11:w.cell? ⟨bk,o+6,none⟩=some (.int .i64 w1)) (h12:w.cell? ⟨bk,o+7,none⟩=some (.int .i64 x1)) (h13:w.cell? ⟨bk,o+8,none⟩=some (.int .i64 y1)) (h14:w.cell? ⟨bk,o+9,none⟩=some (.int .i64 z1)) (h20:w.cell? ⟨bk,o+10,none⟩=some (.string (f 2))) (h21:w.cell? ⟨bk,o+11,none⟩=some (.int .i64 w2)) (h22:w.cell? ⟨bk,o+12,none⟩=some (.int .i64 x2)) (h23:w.cell? ⟨bk,o+13,none⟩=some (.int .i64 y2)) (h24:w.cell? ⟨bk,o+14,none⟩=some (.int .i64 z2)) (h30:w.cell? ⟨bk,o+15,none⟩=some (.string (f 3))) (h31:w.cell? ⟨bk,o+16,none⟩=some (.int .i64 w3)) (h32:w.cell? ⟨bk,o+17,none⟩=some (.int .i64 x3)) (h33:w.cell? ⟨bk,o+18,none⟩=some (.int .i64 y3)) (h34:w.cell? ⟨bk,o+19,none⟩=some (.int .i64 z3)) (h40:w.cell? ⟨bk,o+20,none⟩=some (.string (f 4))) (h41:w.cell? ⟨bk,o+21,none⟩=some (.int .i64 w4)) (h42:w.cell? ⟨bk,o+22,none⟩=some (.int .i64 x4)) (h43:w.cell? ⟨bk,o+23,none⟩=some (.int .i64 y4)) (h44:w.cell? ⟨bk,o+24,none⟩=some (.int .i64 z4)) :
  Calls Tryz.prog 24 #[.slice (some ⟨bk,o,none⟩) 5 c] w fun e w'=>e=.returned (.string ⟨(upTo f 5).toArray⟩)∧Below w.heap.size w w':=by
 have hB0:=Lib.fresh_isBuilder 101 5 w
 have hlt:bk<w.heap.size:=World.block_lt_of_cell? _ _ h00
 go_enter Tryz.func24,Tryz.ntmps24
 go_wp2
 go_loopw [8] (fun i wr=>∃ (k:Nat),k≤5∧i=.int .i64 k∧Below w.heap.size w wr∧Lib.IsBuilder 101 5 w.heap.size w.heap.size (Lib.byteCells (upTo f k)) wr) (fun i _=>5-(intOf i).toNat)
 case atStart =>
  exact ⟨0,Nat.zero_le _,rfl,(Below.refl _ w).alloc (Nat.le_refl _) _,by simpa [upTo,Lib.byteCells] using hB0⟩
 case round =>
  obtain ⟨k,hk,rfl,hB,hI⟩:=hrel
  by_cases hkn:k<5
  case neg =>
   have hkn:k=5:=by omega
   subst hkn
   go_wp2_with fail
   refine (Tryz.Builder_String_any w.heap.size w.heap.size (upTo f 5) _ hI hB.size).mono ?_
   rintro e W1 ⟨rfl,hb1⟩
   go_wp2
   go_ret
   exact ⟨rfl,hB.trans hb1⟩
  by_cases hk0:k=0
  case pos =>
   subst hk0
   have g0:=(hB.cell (p:=⟨bk,_,none⟩) hlt).trans h00
   have g1:=(hB.cell (p:=⟨bk,_,none⟩) hlt).trans h01
   have g2:=(hB.cell (p:=⟨bk,_,none⟩) hlt).trans h02
   have g3:=(hB.cell (p:=⟨bk,_,none⟩) hlt).trans h03
   have g4:=(hB.cell (p:=⟨bk,_,none⟩) hlt).trans h04
   have hw:=upTo_len hs (k:=0) (by decide)
   have hsi:=hs 0 (by decide)
   clear hB0 hs h00 h01 h02 h03 h04 h10 h11 h12 h13 h14 h20 h21 h22 h23 h24 h30 h31 h32 h33 h34 h40 h41 h42 h43 h44
   go_wp2_with fail
   have hI2:Lib.IsBuilder 101 5 w.heap.size w.heap.size (Lib.byteCells (upTo f 0)) (wr.alloc (Obj.cells #[Value.string (f 0),Value.int IntKind.i64 w0,Value.int IntKind.i64 x0,Value.int IntKind.i64 y0,Value.int IntKind.i64 z0] 103)):=bld_keep hI fun j hj=>Below.heap_alloc wr _ j hj
   have hB2:Below w.heap.size w (wr.alloc (Obj.cells #[Value.string (f 0),Value.int IntKind.i64 w0,Value.int IntKind.i64 x0,Value.int IntKind.i64 y0,Value.int IntKind.i64 z0] 103)):=hB.alloc hB.size _
   have hws:=Tryz.Builder_WriteString w.heap.size w.heap.size (Lib.byteCells (upTo f 0)) (f 0) _ hI2 (by simp only [Lib.byteCells,List.length_map]; omega) hB2.size
   refine hws.mono ?_
   clear hws
   rintro e W3 ⟨rfl,h3,b3⟩
   have hB3:Below w.heap.size w W3:=hB2.trans b3
   have hI3:Lib.IsBuilder 101 5 w.heap.size w.heap.size (Lib.byteCells (upTo f (0+1))) W3:=by
    refine .inr ?_
    have e:Lib.byteCells (upTo f 0)++Lib.strCells (f 0)=Lib.byteCells (upTo f (0+1)):=by
     rw [Lib.strCells_eq]
     simp [upTo,Lib.byteCells]
    rw [e] at h3
    exact h3
   clear h3 hI2 hI hB2 hB
   go_wp2
   go_roundw
   case rel=>exact ⟨0+1,by decide,by go_num,hB3,hI3⟩
   case measure=>simp [intOf]
  by_cases hk1:k=1
  case pos =>
   subst hk1
   have g0:=(hB.cell (p:=⟨bk,_,none⟩) hlt).trans h10
   have g1:=(hB.cell (p:=⟨bk,_,none⟩) hlt).trans h11
   have g2:=(hB.cell (p:=⟨bk,_,none⟩) hlt).trans h12
   have g3:=(hB.cell (p:=⟨bk,_,none⟩) hlt).trans h13
   have g4:=(hB.cell (p:=⟨bk,_,none⟩) hlt).trans h14
   have hw:=upTo_len hs (k:=1) (by decide)
   have hsi:=hs 1 (by decide)
   clear hB0 hs h00 h01 h02 h03 h04 h10 h11 h12 h13 h14 h20 h21 h22 h23 h24 h30 h31 h32 h33 h34 h40 h41 h42 h43 h44
   go_wp2_with fail
   have hI2:Lib.IsBuilder 101 5 w.heap.size w.heap.size (Lib.byteCells (upTo f 1)) (wr.alloc (Obj.cells #[Value.string (f 1),Value.int IntKind.i64 w1,Value.int IntKind.i64 x1,Value.int IntKind.i64 y1,Value.int IntKind.i64 z1] 103)):=bld_keep hI fun j hj=>Below.heap_alloc wr _ j hj
   have hB2:Below w.heap.size w (wr.alloc (Obj.cells #[Value.string (f 1),Value.int IntKind.i64 w1,Value.int IntKind.i64 x1,Value.int IntKind.i64 y1,Value.int IntKind.i64 z1] 103)):=hB.alloc hB.size _
   have hws:=Tryz.Builder_WriteString w.heap.size w.heap.size (Lib.byteCells (upTo f 1)) (f 1) _ hI2 (by simp only [Lib.byteCells,List.length_map]; omega) hB2.size
   refine hws.mono ?_
   clear hws
   rintro e W3 ⟨rfl,h3,b3⟩
   have hB3:Below w.heap.size w W3:=hB2.trans b3
   have hI3:Lib.IsBuilder 101 5 w.heap.size w.heap.size (Lib.byteCells (upTo f (1+1))) W3:=by
    refine .inr ?_
    have e:Lib.byteCells (upTo f 1)++Lib.strCells (f 1)=Lib.byteCells (upTo f (1+1)):=by
     rw [Lib.strCells_eq]
     simp [upTo,Lib.byteCells]
    rw [e] at h3
    exact h3
   clear h3 hI2 hI hB2 hB
   go_wp2
   go_roundw
   case rel=>exact ⟨1+1,by decide,by go_num,hB3,hI3⟩
   case measure=>simp [intOf]
  by_cases hk2:k=2
  case pos =>
   subst hk2
   have g0:=(hB.cell (p:=⟨bk,_,none⟩) hlt).trans h20
   have g1:=(hB.cell (p:=⟨bk,_,none⟩) hlt).trans h21
   have g2:=(hB.cell (p:=⟨bk,_,none⟩) hlt).trans h22
   have g3:=(hB.cell (p:=⟨bk,_,none⟩) hlt).trans h23
   have g4:=(hB.cell (p:=⟨bk,_,none⟩) hlt).trans h24
   have hw:=upTo_len hs (k:=2) (by decide)
   have hsi:=hs 2 (by decide)
   clear hB0 hs h00 h01 h02 h03 h04 h10 h11 h12 h13 h14 h20 h21 h22 h23 h24 h30 h31 h32 h33 h34 h40 h41 h42 h43 h44
   go_wp2_with fail
   have hI2:Lib.IsBuilder 101 5 w.heap.size w.heap.size (Lib.byteCells (upTo f 2)) (wr.alloc (Obj.cells #[Value.string (f 2),Value.int IntKind.i64 w2,Value.int IntKind.i64 x2,Value.int IntKind.i64 y2,Value.int IntKind.i64 z2] 103)):=bld_keep hI fun j hj=>Below.heap_alloc wr _ j hj
   have hB2:Below w.heap.size w (wr.alloc (Obj.cells #[Value.string (f 2),Value.int IntKind.i64 w2,Value.int IntKind.i64 x2,Value.int IntKind.i64 y2,Value.int IntKind.i64 z2] 103)):=hB.alloc hB.size _
   have hws:=Tryz.Builder_WriteString w.heap.size w.heap.size (Lib.byteCells (upTo f 2)) (f 2) _ hI2 (by simp only [Lib.byteCells,List.length_map]; omega) hB2.size
   refine hws.mono ?_
   clear hws
   rintro e W3 ⟨rfl,h3,b3⟩
   have hB3:Below w.heap.size w W3:=hB2.trans b3
   have hI3:Lib.IsBuilder 101 5 w.heap.size w.heap.size (Lib.byteCells (upTo f (2+1))) W3:=by
    refine .inr ?_
    have e:Lib.byteCells (upTo f 2)++Lib.strCells (f 2)=Lib.byteCells (upTo f (2+1)):=by
     rw [Lib.strCells_eq]
     simp [upTo,Lib.byteCells]
    rw [e] at h3
    exact h3
   clear h3 hI2 hI hB2 hB
   go_wp2
   go_roundw
   case rel=>exact ⟨2+1,by decide,by go_num,hB3,hI3⟩
   case measure=>simp [intOf]
  by_cases hk3:k=3
  case pos =>
   subst hk3
   have g0:=(hB.cell (p:=⟨bk,_,none⟩) hlt).trans h30
   have g1:=(hB.cell (p:=⟨bk,_,none⟩) hlt).trans h31
   have g2:=(hB.cell (p:=⟨bk,_,none⟩) hlt).trans h32
   have g3:=(hB.cell (p:=⟨bk,_,none⟩) hlt).trans h33
   have g4:=(hB.cell (p:=⟨bk,_,none⟩) hlt).trans h34
   have hw:=upTo_len hs (k:=3) (by decide)
   have hsi:=hs 3 (by decide)
   clear hB0 hs h00 h01 h02 h03 h04 h10 h11 h12 h13 h14 h20 h21 h22 h23 h24 h30 h31 h32 h33 h34 h40 h41 h42 h43 h44
   go_wp2_with fail
   have hI2:Lib.IsBuilder 101 5 w.heap.size w.heap.size (Lib.byteCells (upTo f 3)) (wr.alloc (Obj.cells #[Value.string (f 3),Value.int IntKind.i64 w3,Value.int IntKind.i64 x3,Value.int IntKind.i64 y3,Value.int IntKind.i64 z3] 103)):=bld_keep hI fun j hj=>Below.heap_alloc wr _ j hj
   have hB2:Below w.heap.size w (wr.alloc (Obj.cells #[Value.string (f 3),Value.int IntKind.i64 w3,Value.int IntKind.i64 x3,Value.int IntKind.i64 y3,Value.int IntKind.i64 z3] 103)):=hB.alloc hB.size _
   have hws:=Tryz.Builder_WriteString w.heap.size w.heap.size (Lib.byteCells (upTo f 3)) (f 3) _ hI2 (by simp only [Lib.byteCells,List.length_map]; omega) hB2.size
   refine hws.mono ?_
   clear hws
   rintro e W3 ⟨rfl,h3,b3⟩
   have hB3:Below w.heap.size w W3:=hB2.trans b3
   have hI3:Lib.IsBuilder 101 5 w.heap.size w.heap.size (Lib.byteCells (upTo f (3+1))) W3:=by
    refine .inr ?_
    have e:Lib.byteCells (upTo f 3)++Lib.strCells (f 3)=Lib.byteCells (upTo f (3+1)):=by
     rw [Lib.strCells_eq]
     simp [upTo,Lib.byteCells]
    rw [e] at h3
    exact h3
   clear h3 hI2 hI hB2 hB
   go_wp2
   go_roundw
   case rel=>exact ⟨3+1,by decide,by go_num,hB3,hI3⟩
   case measure=>simp [intOf]
  have hk4:k=4:=by omega
  subst hk4
  have g0:=(hB.cell (p:=⟨bk,_,none⟩) hlt).trans h40
  have g1:=(hB.cell (p:=⟨bk,_,none⟩) hlt).trans h41
  have g2:=(hB.cell (p:=⟨bk,_,none⟩) hlt).trans h42
  have g3:=(hB.cell (p:=⟨bk,_,none⟩) hlt).trans h43
  have g4:=(hB.cell (p:=⟨bk,_,none⟩) hlt).trans h44
  have hw:=upTo_len hs (k:=4) (by decide)
  have hsi:=hs 4 (by decide)
  clear hB0 hs h00 h01 h02 h03 h04 h10 h11 h12 h13 h14 h20 h21 h22 h23 h24 h30 h31 h32 h33 h34 h40 h41 h42 h43 h44
  go_wp2_with fail
  have hI2:Lib.IsBuilder 101 5 w.heap.size w.heap.size (Lib.byteCells (upTo f 4)) (wr.alloc (Obj.cells #[Value.string (f 4),Value.int IntKind.i64 w4,Value.int IntKind.i64 x4,Value.int IntKind.i64 y4,Value.int IntKind.i64 z4] 103)):=bld_keep hI fun j hj=>Below.heap_alloc wr _ j hj
  have hB2:Below w.heap.size w (wr.alloc (Obj.cells #[Value.string (f 4),Value.int IntKind.i64 w4,Value.int IntKind.i64 x4,Value.int IntKind.i64 y4,Value.int IntKind.i64 z4] 103)):=hB.alloc hB.size _
  have hws:=Tryz.Builder_WriteString w.heap.size w.heap.size (Lib.byteCells (upTo f 4)) (f 4) _ hI2 (by simp only [Lib.byteCells,List.length_map]; omega) hB2.size
  refine hws.mono ?_
  clear hws
  rintro e W3 ⟨rfl,h3,b3⟩
  have hB3:Below w.heap.size w W3:=hB2.trans b3
  have hI3:Lib.IsBuilder 101 5 w.heap.size w.heap.size (Lib.byteCells (upTo f (4+1))) W3:=by
   refine .inr ?_
   have e:Lib.byteCells (upTo f 4)++Lib.strCells (f 4)=Lib.byteCells (upTo f (4+1)):=by
    rw [Lib.strCells_eq]
    simp [upTo,Lib.byteCells]
   rw [e] at h3
   exact h3
  clear h3 hI2 hI hB2 hB
  go_wp2
  go_roundw
  case rel=>exact ⟨4+1,by decide,by go_num,hB3,hI3⟩
  case measure=>simp [intOf]
end Go.Proofs.YtigmkgampfbflaaGreatDoor
namespace Go.Proofs.YtigmkgampfbflaaGreatDoor
open Go Go.AE Go.RowKit
def preOf:Code→List (Nat×Array Oper)
 | .seq (.region i o false) r=>(i,o) :: preOf r
 | _=>[]
def lastOf:Code→Array Oper
 | .seq (.region _ _ false) r=>lastOf r
 | .seq (.region _ o true) _=>o
 | _=>#[]
def effL:List (Option Blk):=[
 (none),
 (some (.cells [(.pointer (some ⟨0,0,none⟩))])),
 (some (.cells [(.func (.func 195) #[] #[(.pointer (some ⟨1,0,none⟩))])])),
 (some (.cells [(.func (.func 198) #[] #[(.pointer (some ⟨1,0,none⟩))])])),
 (some (.cells [(.func (.func 199) #[] #[(.pointer (some ⟨1,0,none⟩))])])),
 (some (.cells [(.func (.func 200) #[] #[(.pointer (some ⟨1,0,none⟩))])])),
 (some (.cells [(.func (.func 202) #[] #[(.pointer (some ⟨1,0,none⟩))])])),
 (some (.cells [(.func (.func 196) #[(.pointer (some ⟨0,0,none⟩))] #[])])),
 (some (.cells [(.func (.func 195) #[] #[(.pointer (some ⟨1,0,none⟩))])])),
 (some (.cells [(.func (.func 195) #[] #[(.pointer (some ⟨1,0,none⟩))])])),
 (some (.cells [(.func (.func 133) #[(.pointer (some ⟨0,0,none⟩))] #[])])),
 (some (.cells [(.func (.func 133) #[(.pointer (some ⟨0,0,none⟩))] #[])])),
 (some (.cells [(.func (.func 204) #[] #[(.pointer (some ⟨1,0,none⟩))])])),
 (some (.cells [(.func (.func 205) #[] #[(.pointer (some ⟨2,0,none⟩)),(.pointer (some ⟨1,0,none⟩))])])),
 (some (.cells [(.func (.func 206) #[] #[(.pointer (some ⟨1,0,none⟩))])])),
 (some (.cells [(.func (.func 207) #[] #[(.pointer (some ⟨1,0,none⟩))])])),
 (some (.cells [(.func (.func 208) #[] #[(.pointer (some ⟨1,0,none⟩))])])),
 (some (.cells [(.func (.func 210) #[] #[(.pointer (some ⟨1,0,none⟩))])])),
 (some (.cells [(.func (.func 212) #[(.pointer (some ⟨0,0,none⟩))] #[])])),
 (some (.cells [(.func (.func 213) #[(.pointer (some ⟨0,0,none⟩))] #[])])),
 (some (.cells [(.func (.func 214) #[] #[(.pointer (some ⟨4,0,none⟩))])])),
 (some (.cells [(.func (.func 199) #[] #[(.pointer (some ⟨1,0,none⟩))])])),
 (some (.cells [(.func (.func 215) #[] #[(.pointer (some ⟨1,0,none⟩))])])),
 (some (.cells [(.func (.func 216) #[] #[(.pointer (some ⟨1,0,none⟩))])])),
 (some (.cells [(.func (.func 217) #[] #[(.pointer (some ⟨1,0,none⟩))])])),
 (some (.cells [(.func (.func 219) #[(.pointer (some ⟨0,0,none⟩))] #[])])),
 (some (.cells [(.func (.func 220) #[(.pointer (some ⟨0,0,none⟩))] #[])])),
 (some (.pmap .u8 [((.int .u8 (.ofNat 64)),(.func (.func 191) #[] #[(.pointer (some ⟨5,0,none⟩))])),((.int .u8 (.ofNat 80)),(.func (.func 191) #[] #[(.pointer (some ⟨6,0,none⟩))])),((.int .u8 (.ofNat 65)),(.func (.func 191) #[] #[(.pointer (some ⟨7,0,none⟩))])),((.int .u8 (.ofNat 66)),(.func (.func 191) #[] #[(.pointer (some ⟨8,0,none⟩))])),((.int .u8 (.ofNat 101)),(.func (.func 191) #[] #[(.pointer (some ⟨9,0,none⟩))])),((.int .u8 (.ofNat 67)),(.func (.func 191) #[] #[(.pointer (some ⟨10,0,none⟩))])),((.int .u8 (.ofNat 97)),(.func (.func 191) #[] #[(.pointer (some ⟨11,0,none⟩))])),((.int .u8 (.ofNat 68)),(.func (.func 191) #[] #[(.pointer (some ⟨12,0,none⟩))])),((.int .u8 (.ofNat 69)),(.func (.func 191) #[] #[(.pointer (some ⟨13,0,none⟩))])),((.int .u8 (.ofNat 70)),(.func (.func 191) #[] #[(.pointer (some ⟨14,0,none⟩))])),((.int .u8 (.ofNat 71)),(.func (.func 191) #[] #[(.pointer (some ⟨3,0,none⟩))])),((.int .u8 (.ofNat 96)),(.func (.func 191) #[] #[(.pointer (some ⟨3,0,none⟩))])),((.int .u8 (.ofNat 72)),(.func (.func 197) #[] #[(.pointer (some ⟨1,0,none⟩))])),((.int .u8 (.ofNat 102)),(.func (.func 197) #[] #[(.pointer (some ⟨1,0,none⟩))])),((.int .u8 (.ofNat 100)),(.func (.func 191) #[] #[(.pointer (some ⟨15,0,none⟩))])),((.int .u8 (.ofNat 73)),(.func (.func 191) #[] #[(.pointer (some ⟨16,0,none⟩))])),((.int .u8 (.ofNat 90)),(.func (.func 191) #[] #[(.pointer (some ⟨17,0,none⟩))])),((.int .u8 (.ofNat 74)),(.func (.func 194) #[] #[(.pointer (some ⟨18,0,none⟩))])),((.int .u8 (.ofNat 75)),(.func (.func 194) #[] #[(.pointer (some ⟨19,0,none⟩))])),((.int .u8 (.ofNat 76)),(.func (.func 191) #[] #[(.pointer (some ⟨20,0,none⟩))])),((.int .u8 (.ofNat 77)),(.func (.func 191) #[] #[(.pointer (some ⟨21,0,none⟩))])),((.int .u8 (.ofNat 83)),(.func (.func 191) #[] #[(.pointer (some ⟨22,0,none⟩))])),((.int .u8 (.ofNat 84)),(.func (.func 191) #[] #[(.pointer (some ⟨23,0,none⟩))])),((.int .u8 (.ofNat 88)),(.func (.func 191) #[] #[(.pointer (some ⟨24,0,none⟩))])),((.int .u8 (.ofNat 103)),(.func (.func 194) #[] #[(.pointer (some ⟨25,0,none⟩))])),((.int .u8 (.ofNat 110)),(.func (.func 194) #[] #[(.pointer (some ⟨26,0,none⟩))])),((.int .u8 (.ofNat 114)),(.func (.func 221) #[(.pointer (some ⟨0,0,none⟩))] #[])),((.int .u8 (.ofNat 115)),(.func (.func 222) #[] #[(.pointer (some ⟨1,0,none⟩))])),((.int .u8 (.ofNat 117)),(.func (.func 223) #[] #[(.pointer (some ⟨1,0,none⟩))]))]))]
noncomputable def effD:Mpr:={ f:=145,fn:=Tryz.f145,pre:=(match Tryz.f145.body with | some c=>preOf c | none=>[]),id:=7,ops:=(match Tryz.f145.body with | some c=>lastOf c | none=>#[]),q:=.u8,p:=0,iM:=0,tM:=15,sp:=[15,97],t:=2,L1:=effL }
def stE:AE.Stat:=⟨fun _ _=>none,fun _ _ _=>none⟩
theorem effRun:effD.run Tryz.prog stE (runF Tryz.prog stE 10 2)=true:=by kernel_rfl
theorem goodE (w0:World):GoodSt w0 stE:=fun b i v h=>by cases h
theorem callE (w0:World):CallOk Tryz.prog w0 stE.ext:=fun f args σ v σ' h=>by cases h
theorem eff_ok (w0:World):FnOk Tryz.prog w0 145 fun args σ=>RL.app σ (effD.ans args (hp σ) σ.length) :=
 Mpr.ok (D:=effD) effRun Tryz.func145 (by kernel_rfl) rfl (runF_sound (goodE w0) (callE w0) (by kernel_rfl) 2) (goodE w0) (by kernel_rfl)
end Go.Proofs.YtigmkgampfbflaaGreatDoor
namespace Go.Proofs.YtigmkgampfbflaaGreatDoor
open Go Go.AE Go.DE Go.RowKit
def okN (n:Nat):Bool:=Nat.beq n 32||Nat.beq n 88||(Nat.ble 97 n&&Nat.ble n 103)
def cwV:List Value→Option Value
 | [.int .i32 (.ofNat n)]=>bif okN n then some (.int .i64 1) else none
 | _=>none
def oneS (s:ByteArray):Bool:=match s with
 | ⟨⟨[c]⟩⟩=>okN c.toNat
 | _=>false
def ccV:List Value→Option Value
 | [.string s]=>bif oneS s then some (.int .i64 0) else none
 | _=>none
def cdV:List Value→Option Value
 | [.string s]=>bif oneS s then some (.int .i64 1) else none
 | _=>none
def uvV:List Value→Option Value
 | [.string ⟨⟨[]⟩⟩]=>some (.bool true)
 | _=>none
def cellsV:Nat→List Value→Option (List (List UInt8))
 | 0,[]=>some []
 | k+1,.string ⟨⟨s⟩⟩ :: .int .i64 _ :: .int .i64 _ :: .int .i64 _ :: .int .i64 _ :: r=>if s.length≤1000 then (match cellsV k r with
  | some l=>some (s :: l)
  | none=>none) else none
 | _,_=>none
def joinU:List (List UInt8)→List UInt8
 | []=>[]
 | s :: r=>s++joinU r
def tnV (st:AE.Stat) (g:HF):List Value→RG
 | [.slice (some a) 5 _]=>match loadG st g a 25 with
  | some l=>(match cellsV 5 l with
   | some ss=>some (.string ⟨⟨joinU ss⟩⟩,.keep)
   | none=>none)
  | _=>none
 | _=>none
def codesV (i:Nat):Option Value:=match i with
 | 0=>some (.int .i64 1) | 1=>some (.int .i64 2) | 2=>some (.int .i64 3) | 3=>some (.int .i64 4) | 4=>some (.int .i64 5) | 5=>some (.int .i64 7) | 6=>some (.int .i64 8) | 7=>some (.int .i64 9) | _=>none
def stC:Nat→Nat→Option Value:=fun b i=>match b with
 | 3=>codesV i
 | _=>none
def stN0:AE.Stat:=⟨fun _ _=>none,fun _ _ _=>none⟩
def toL:RG→RL
 | some (v,.keep)=>some (v,[])
 | some (v,.push b)=>some (v,[.new (some b)])
 | _=>none
noncomputable def extA:ExtL:=fun f args g n=>match f with
 | 110=>toL (keepX cwV args)
 | 72=>toL (keepX ccV args)
 | 73=>toL (keepX cdV args)
 | 30=>toL (keepX uvV args)
 | 24=>toL (tnV stN0 g args)
 | 145=>effD.ans args g n
 | _=>none
noncomputable def stA:AE.Stat:=⟨stC,extOfL extA⟩
def dAw:Deep:=⟨13,[],[],.bool true,[]⟩
end Go.Proofs.YtigmkgampfbflaaGreatDoor
namespace Go.Proofs.YtigmkgampfbflaaGreatDoor
open Go Go.AE Go.DE Go.RowKit
set_option maxRecDepth 100000 in
theorem awake_run:dAw.run Tryz.prog stA extA 2000 60=true:=by kernel_rfl
end Go.Proofs.YtigmkgampfbflaaGreatDoor
namespace Go.Proofs.YtigmkgampfbflaaGreatDoor
open Go Go.AE Go.DE Go.RowKit
theorem follows:Tryz.prog.follows .mixedOrders=true:=by kernel_rfl
theorem cellsV_succ {k:Nat}{l:List Value}{ss:List (List UInt8)}(h:cellsV (k+1) l=some ss) :
  ∃ s w x y z r l',l=.string ⟨⟨s⟩⟩ :: .int .i64 w :: .int .i64 x :: .int .i64 y :: .int .i64 z :: r∧s.length≤1000∧ss=s :: l'∧cellsV k r=some l':=by
 unfold cellsV at h
 split at h
 ·exfalso; omega
 ·rename_i k' s w x y z r he
  obtain rfl:k'=k:=by omega
  split at h<;>first | (cases h; done) | skip
  rename_i hs
  split at h<;>first | (cases h; done) | skip
  rename_i l' hl
  obtain rfl:=Option.some.inj h
  exact ⟨s,w,x,y,z,r,l',rfl,hs,rfl,hl⟩
 ·cases h
theorem cellsV_zero {l:List Value}{ss:List (List UInt8)}(h:cellsV 0 l=some ss):l=[]∧ss=[]:=by
 unfold cellsV at h
 split at h
 ·exact ⟨rfl,(Option.some.inj h).symm⟩
 ·exfalso; omega
 ·cases h
def nthB (ss:List (List UInt8)) (k:Nat):ByteArray:=⟨⟨ss.getD k []⟩⟩
theorem fnOk_text {W:World}:FnOk Tryz.prog W 24 (fun a σ=>RL.app σ (toL (tnV stN0 (hp σ) a))):=by
 intro args σ v σ' hg
 dsimp only at hg
 unfold tnV at hg
 split at hg<;>first | (cases hg; done) | skip
 rename_i a c
 split at hg<;>first | (cases hg; done) | skip
 rename_i l hl
 split at hg<;>first | (cases hg; done) | skip
 rename_i ss hc
 simp only [RL.app,toL,Option.map_some,Option.some.injEq,Prod.mk.injEq,List.foldl_nil] at hg
 obtain ⟨rfl,rfl⟩:=hg
 show _≤σ.length∧_
 refine ⟨Nat.le_refl _,fun ρ w args' hR _ hargs=>?_⟩
 obtain ⟨x',r',rfl,hx,hr⟩:=hargs.cons_inv
 obtain rfl:=hr.nil_inv
 obtain ⟨a',c',rfl,ha⟩:∃ a' c',x'=.slice (some a') 5 c'∧addrOk ρ a a':=by
  cases hx with
  | sliceX _ a' _ _ h1 h2 h3=>exact ⟨a',c,rfl,h3.resolve_left (by omega)⟩
  | sliceU _ a' _ _ cap' sz h0 h1 h2 h3=>exact ⟨a',cap',rfl,(h3.resolve_left (by omega)).1⟩
 rw [loadG_eq] at hl
 obtain ⟨l',hl1,hl2,hl3⟩:=loadN_sound (st:=stN0) (fun b i v h=>nomatch h) hR ha hl
 obtain ⟨s0,w0,x0,y0,z0,r0,t0,rfl,q0,rfl,hc0⟩:=cellsV_succ hc
 obtain ⟨s1,w1,x1,y1,z1,r1,t1,rfl,q1,rfl,hc1⟩:=cellsV_succ hc0
 obtain ⟨s2,w2,x2,y2,z2,r2,t2,rfl,q2,rfl,hc2⟩:=cellsV_succ hc1
 obtain ⟨s3,w3,x3,y3,z3,r3,t3,rfl,q3,rfl,hc3⟩:=cellsV_succ hc2
 obtain ⟨s4,w4,x4,y4,z4,r4,t4,rfl,q4,rfl,hc4⟩:=cellsV_succ hc3
 obtain ⟨rfl,rfl⟩:=cellsV_zero hc4
 obtain rfl:=flat_args rfl hl2
 have ea:a'=⟨a'.block,a'.off,none⟩:=by
  have:=ha.1
  cases a'
  simp_all
 have hadd:∀ j,a'.add j=⟨a'.block,a'.off+j,none⟩:=by
  intro j
  rw [ea]
  unfold Addr.add
  split
  ·rename_i h0; subst h0; rfl
  ·rfl
 have hcl:∀ (j:Nat) v,([.string ⟨⟨s0⟩⟩,.int .i64 w0,.int .i64 x0,.int .i64 y0,.int .i64 z0,.string ⟨⟨s1⟩⟩,.int .i64 w1,.int .i64 x1,.int .i64 y1,.int .i64 z1,.string ⟨⟨s2⟩⟩,.int .i64 w2,.int .i64 x2,.int .i64 y2,.int .i64 z2,.string ⟨⟨s3⟩⟩,.int .i64 w3,.int .i64 x3,.int .i64 y3,.int .i64 z3,.string ⟨⟨s4⟩⟩,.int .i64 w4,.int .i64 x4,.int .i64 y4,.int .i64 z4]:List Value)[j]?=some v→w.cell? ⟨a'.block,a'.off+j,none⟩=some v:=fun j v h=>by
  rw [← hadd]
  exact hl3 j v h
 rw [ea]
 have h:=text_calls a'.block a'.off c' (nthB [s0,s1,s2,s3,s4]) w0 x0 y0 z0 w1 x1 y1 z1 w2 x2 y2 z2 w3 x3 y3 z3 w4 x4 y4 z4 w (fun k hk=>by
   have:k=0∨k=1∨k=2∨k=3∨k=4:=by omega
   rcases this with rfl | rfl | rfl | rfl | rfl
   ·exact q0
   ·exact q1
   ·exact q2
   ·exact q3
   ·exact q4) (hcl 0 _ rfl) (hcl 1 _ rfl) (hcl 2 _ rfl) (hcl 3 _ rfl) (hcl 4 _ rfl) (hcl 5 _ rfl) (hcl 6 _ rfl) (hcl 7 _ rfl) (hcl 8 _ rfl) (hcl 9 _ rfl) (hcl 10 _ rfl) (hcl 11 _ rfl) (hcl 12 _ rfl) (hcl 13 _ rfl) (hcl 14 _ rfl)
   (hcl 15 _ rfl) (hcl 16 _ rfl) (hcl 17 _ rfl) (hcl 18 _ rfl) (hcl 19 _ rfl) (hcl 20 _ rfl) (hcl 21 _ rfl) (hcl 22 _ rfl) (hcl 23 _ rfl) (hcl 24 _ rfl)
 have e:upTo (nthB [s0,s1,s2,s3,s4]) 5=joinU [s0,s1,s2,s3,s4]:=by simp [upTo,nthB,joinU]
 rw [e] at h
 exact h.mono fun e w' ⟨he,hb⟩=>⟨_,he,ρ,.of_below hR hb,.string _⟩
def ext0:ExtG:=fun _ _ _ _=>none
def stE0:AE.Stat:=⟨fun _ _=>none,extOf ext0⟩
theorem ext0_ok {W:World}:CallOk Tryz.prog W stE0.ext:=fun f args σ v σ' h=>by simp [stE0,extOf,ext0,RG.app] at h
theorem okN_inv {n:Nat}(h:okN n=true):n=32∨n=88∨n=97∨n=98∨n=99∨n=100∨n=101∨n=102∨n=103:=by
 simp only [okN,Bool.or_eq_true,Bool.and_eq_true,Nat.beq_eq,Nat.ble_eq] at h
 omega
theorem cw_run {n:Nat}(h:okN n=true):answerF Tryz.prog stE0 ext0 60 8 110 [.int .i32 (.ofNat n)] (.int .i64 1)=true:=by
 rcases okN_inv h with rfl | rfl | rfl | rfl | rfl | rfl | rfl | rfl | rfl<;>kernel_rfl
theorem fnOk_cw {W:World}:FnOk Tryz.prog W 110 (flatFn cwV):=by
 refine fnOk_of ((runF_sound (n:=60) (st:=stE0) (fun b i v h=>nomatch h) ext0_ok follows 8).fn 110 (by rw [Tryz.func110]; rfl)) fun args v hg=>?_
 unfold cwV at hg
 split at hg<;>first | (cases hg; done) | skip
 rename_i n
 cases hn:okN n with
 | false=>rw [hn] at hg; cases hg
 | true =>
  rw [hn] at hg
  obtain rfl:=Option.some.inj hg
  exact ⟨rfl,rfl,answerF_run rfl (cw_run hn)⟩
theorem keep_fn {W:World}{f:FuncId}{g:List Value→Option Value}(h:FnOk Tryz.prog W f (flatFn g)):FnOk Tryz.prog W f (fun a σ=>RG.app σ (keepX g a)):=fun args σ v σ' hx=>by
 refine h args σ v σ' ?_
 obtain ⟨h1,rfl⟩:=keepX_app (g:=g) hx
 simp [flatFn,h1]
theorem toL_app {σ:Heap}:∀ {r:RG},(∀ x,r≠none→r=some x→x.2=.keep)→RL.app σ (toL r)=RG.app σ r
 | none,_=>rfl
 | some (v,e),h=>by
  have:=h (v,e) (by simp) rfl
  simp only at this
  subst this
  rfl
theorem keepX_keep {g:List Value→Option Value}{args:List Value}:∀ x,keepX g args≠none→keepX g args=some x→x.2=.keep:=by
 intro x _ h
 unfold keepX at h
 simp only [Option.map_eq_some_iff] at h
 obtain ⟨_,_,rfl⟩:=h
 rfl
theorem keep_fnL {W:World}{f:FuncId}{g:List Value→Option Value}(h:FnOk Tryz.prog W f (flatFn g)):FnOk Tryz.prog W f (fun a σ=>RL.app σ (toL (keepX g a))):=fun args σ v σ' hx=>by
 dsimp only at hx
 rw [toL_app keepX_keep] at hx
 exact keep_fn h args σ v σ' hx
def ext1:ExtG:=fun f args _ _=>match f with
 | 110=>keepX cwV args
 | _=>none
def stE1:AE.Stat:=⟨fun _ _=>none,extOf ext1⟩
theorem ext1_ok {W:World}:CallOk Tryz.prog W stE1.ext:=by
 intro f
 by_cases h1:f=110
 ·subst h1
  exact keep_fn fnOk_cw
 ·intro args σ v σ' hx
  exfalso
  have:ext1 f args (hp σ) σ.length=none:=by
   unfold ext1
   split<;>first | contradiction | rfl
  simp [stE1,extOf,RG.app,this] at hx
theorem oneS_inv {s:ByteArray}(h:oneS s=true):s=⟨#[32]⟩∨s=⟨#[88]⟩∨s=⟨#[97]⟩∨s=⟨#[98]⟩∨s=⟨#[99]⟩∨s=⟨#[100]⟩∨s=⟨#[101]⟩∨s=⟨#[102]⟩∨s=⟨#[103]⟩:=by
 unfold oneS at h
 split at h<;>first | (cases h; done) | skip
 rename_i c
 have key:∀ n:UInt8,c.toNat=n.toNat→(⟨⟨[c]⟩⟩:ByteArray)=⟨#[n]⟩:=fun n e=>by
  obtain rfl:=UInt8.toNat_inj.1 e
  rfl
 rcases okN_inv h with h | h | h | h | h | h | h | h | h
 ·exact .inl (key 32 h)
 ·exact .inr (.inl (key 88 h))
 ·exact .inr (.inr (.inl (key 97 h)))
 ·exact .inr (.inr (.inr (.inl (key 98 h))))
 ·exact .inr (.inr (.inr (.inr (.inl (key 99 h)))))
 ·exact .inr (.inr (.inr (.inr (.inr (.inl (key 100 h))))))
 ·exact .inr (.inr (.inr (.inr (.inr (.inr (.inl (key 101 h)))))))
 ·exact .inr (.inr (.inr (.inr (.inr (.inr (.inr (.inl (key 102 h))))))))
 ·exact .inr (.inr (.inr (.inr (.inr (.inr (.inr (.inr (key 103 h))))))))
theorem cc_run {s:ByteArray}(h:oneS s=true):answerF Tryz.prog stE1 ext1 60 8 72 [.string s] (.int .i64 0)=true:=by
 rcases oneS_inv h with rfl | rfl | rfl | rfl | rfl | rfl | rfl | rfl | rfl<;>kernel_rfl
theorem cd_run {s:ByteArray}(h:oneS s=true):answerF Tryz.prog stE1 ext1 60 8 73 [.string s] (.int .i64 1)=true:=by
 rcases oneS_inv h with rfl | rfl | rfl | rfl | rfl | rfl | rfl | rfl | rfl<;>kernel_rfl
theorem uv_run:answerF Tryz.prog stE1 ext1 60 8 30 [.string ⟨⟨[]⟩⟩] (.bool true)=true:=by kernel_rfl
theorem fnOk_cc {W:World}:FnOk Tryz.prog W 72 (flatFn ccV):=by
 refine fnOk_of ((runF_sound (n:=60) (st:=stE1) (fun b i v h=>nomatch h) ext1_ok follows 8).fn 72 (by rw [Tryz.func72]; rfl)) fun args v hg=>?_
 unfold ccV at hg
 split at hg<;>first | (cases hg; done) | skip
 rename_i s
 cases ho:oneS s with
 | false=>rw [ho] at hg; cases hg
 | true =>
  rw [ho] at hg
  obtain rfl:=Option.some.inj hg
  exact ⟨rfl,rfl,answerF_run rfl (cc_run ho)⟩
theorem fnOk_cd {W:World}:FnOk Tryz.prog W 73 (flatFn cdV):=by
 refine fnOk_of ((runF_sound (n:=60) (st:=stE1) (fun b i v h=>nomatch h) ext1_ok follows 8).fn 73 (by rw [Tryz.func73]; rfl)) fun args v hg=>?_
 unfold cdV at hg
 split at hg<;>first | (cases hg; done) | skip
 rename_i s
 cases ho:oneS s with
 | false=>rw [ho] at hg; cases hg
 | true =>
  rw [ho] at hg
  obtain rfl:=Option.some.inj hg
  exact ⟨rfl,rfl,answerF_run rfl (cd_run ho)⟩
theorem fnOk_uv {W:World}:FnOk Tryz.prog W 30 (flatFn uvV):=by
 refine fnOk_of ((runF_sound (n:=60) (st:=stE1) (fun b i v h=>nomatch h) ext1_ok follows 8).fn 30 (by rw [Tryz.func30]; rfl)) fun args v hg=>?_
 unfold uvV at hg
 split at hg<;>first | (cases hg; done) | skip
 obtain rfl:=Option.some.inj hg
 exact ⟨rfl,rfl,answerF_run rfl uv_run⟩
theorem extA_ok {W:World}:CallOk Tryz.prog W stA.ext:=by
 intro f
 by_cases h1:f=110
 ·subst h1; exact keep_fnL fnOk_cw
 by_cases h2:f=72
 ·subst h2; exact keep_fnL fnOk_cc
 by_cases h3:f=73
 ·subst h3; exact keep_fnL fnOk_cd
 by_cases h4:f=30
 ·subst h4; exact keep_fnL fnOk_uv
 by_cases h5:f=24
 ·subst h5; exact fnOk_text
 by_cases h6:f=145
 ·subst h6; exact eff_ok W
 ·intro args σ v σ' hx
  exfalso
  have:extA f args (hp σ) σ.length=none:=by
   unfold extA
   split<;>first | contradiction | rfl
  simp [stA,extOfL,RL.app,this] at hx
def awV:List Value→Option Value
 | []=>some (.bool true)
 | _=>none
theorem awake_ok {W:World}(hst:GoodSt W stA):FnOk Tryz.prog W 13 (flatFn awV):=by
 refine fnOk_of (Deep.ok (D:=dAw) (st:=stA) (x:=extA) awake_run rfl hst extA_ok follows (by show (Tryz.prog.funcs[13]?).isSome=true; rw [Tryz.func13]; rfl)) fun args v hg=>?_
 unfold awV at hg
 split at hg<;>first | (cases hg; done) | skip
 obtain rfl:=Option.some.inj hg
 exact ⟨rfl,rfl,[],by kernel_rfl⟩
end Go.Proofs.YtigmkgampfbflaaGreatDoor
namespace Go.Proofs
open Go.Shelf
def Tryz.lays196_ren:Go.Shelf.Ren:=⟨fun | 196=>70 | 259=>109 | n=>n,fun | 9=>9 | 4=>4 | 3=>3 | 5=>5 | 12=>12 | 119=>158 | 0=>0 | 46=>109 | 139=>161 | 138=>160 | 53=>153 | n=>n,fun | 3=>0 | 4=>1 | n=>n⟩
theorem Tryz.lays196:Go.Proofs.Lays.n196 Tryz.prog Tryz.lays196_ren:={
 mixed:=by kernel_rfl
 f196:=Tryz.func70.trans (congrArg some (by kernel_rfl))
 f259:=Tryz.func109.trans (congrArg some (by kernel_rfl))
 t0:=Tryz.underlying0
 a0:=Tryz.isAgg0
 z0:=Tryz.sizeOf0
 v0:=Tryz.zeroValue0
 t3:=Tryz.underlying3
 a3:=Tryz.isAgg3
 z3:=Tryz.sizeOf3
 v3:=Tryz.zeroValue3
 t4:=Tryz.underlying4
 a4:=Tryz.isAgg4
 z4:=Tryz.sizeOf4
 v4:=Tryz.zeroValue4
 t5:=Tryz.underlying5
 a5:=Tryz.isAgg5
 z5:=Tryz.sizeOf5
 v5:=Tryz.zeroValue5
 t9:=Tryz.underlying9
 a9:=Tryz.isAgg9
 z9:=Tryz.sizeOf9
 v9:=Tryz.zeroValue9
 t12:=Tryz.underlying12
 a12:=Tryz.isAgg12
 z12:=Tryz.sizeOf12
 v12:=Tryz.zeroValue12
 t46:=Tryz.underlying109
 a46:=Tryz.isAgg109
 z46:=Tryz.sizeOf109
 v46:=Tryz.zeroValue109
 t53:=Tryz.underlying153
 a53:=Tryz.isAgg153
 z53:=Tryz.sizeOf153
 v53:=Tryz.zeroValue153
 t119:=Tryz.underlying158
 a119:=Tryz.isAgg158
 z119:=Tryz.sizeOf158
 t138:=Tryz.underlying160
 a138:=Tryz.isAgg160
 z138:=Tryz.sizeOf160
 v138:=Tryz.zeroValue160
 t139:=Tryz.underlying161
 a139:=Tryz.isAgg161
 z139:=Tryz.sizeOf161
 v139:=Tryz.zeroValue161
 g3:=by kernel_rfl
 g4:=by kernel_rfl }
open Go.RowKit in
theorem Tryz.utf8_ValidString (s:ByteArray) (w:World) (hs:s.size≤9223372036854775807) (hT:Lib.Utf8Tabs (Tryz.lays196_ren.g 3) (Tryz.lays196_ren.g 4) w) :
  Calls Tryz.prog 70 #[.string s] w fun e w'=>e=.returned (.bool (Lib.validD s.data.toList))∧Below w.heap.size w w':=Any.utf8_ValidString Tryz.lays196 s w hs hT
end Go.Proofs
namespace Go.Proofs.YtigmkgampfbflaaGreatDoor
abbrev tN (i:Nat):Nat:=Int.toNat (↑i:Int)+0
open Go Go.AE Go.DE Go.RowKit
def exA (f:FuncId):Bool:=f==13||f==24||f==25||f==70||f==157
abbrev Hx (st:AE.Stat):Prop:=∀ f,exA f=false→∀ a σ,st.ext f a σ=none
def gl0:Gl:=fun _=>.any
theorem glOk (st:AE.Stat):GlOk st gl0:=⟨fun _=>.any,fun _ _ _ _ _ _=>.any _⟩
noncomputable def env (l:List (FuncId×ConF)) (lp:Nat→Option (LoopD Unit)) (n:Nat) (mg:List (Nat×List (Nat×List Nat)):=[]):Env Unit:=⟨tblD l,fun _=>true,gl0,lp,n,joins Tryz.prog gl0 mg,false⟩
noncomputable def envZ (l:List (FuncId×ConF)) (lp:Nat→Option (LoopD Unit)) (n:Nat) (mg:List (Nat×List (Nat×List Nat)):=[]):Env Unit:=⟨tblD l,fun _=>true,gl0,lp,n,joins Tryz.prog gl0 mg,true⟩
theorem lim_tree (t:Bool) (z:Nat→Int) (n:Nat) (k:DV→Option Unit):bodyD Tryz.prog (env [] noLp 0) Tryz.f148 [.sl t (rowI .u8 z) 1 n] [] (fun d _=>k d) =
  bif (n:Int)==0 then k (.tup [kv .u8 0,kv .u8 255,iv 0]) else bif decide (0<(n:Int)) then bif decide (0<n) then bif decide (z 0 ≥ 194) then bif decide (0<(n:Int)) then bif decide (0<n)
  then bif decide (z 0≤223) then bif (n:Int)==1 then bif decide (0<(n:Int)) then bif decide (0<n) then bif z 0==224 then k (.tup [kv .u8 160,kv .u8 191,iv 2]) else bif z 0==237 then k (.tup [kv .u8 128,kv .u8 159,iv 2])
  else bif z 0==240 then k (.tup [kv .u8 144,kv .u8 191,iv 2]) else bif z 0==244 then k (.tup [kv .u8 128,kv .u8 143,iv 2]) else k (.tup [kv .u8 128,kv .u8 191,iv 2]) else none else none else k (.tup [kv .u8 128,kv .u8 191,iv 2])
  else bif decide (0<(n:Int)) then bif decide (0<n) then bif decide (z 0 ≥ 224) then bif decide (0<(n:Int)) then bif decide (0<n) then bif decide (z 0≤239) then bif (n:Int)==1 then
  bif decide (0<(n:Int)) then bif decide (0<n) then bif z 0==224 then k (.tup [kv .u8 160,kv .u8 191,iv 3]) else bif z 0==237 then k (.tup [kv .u8 128,kv .u8 159,iv 3]) else bif z 0==240
  then k (.tup [kv .u8 144,kv .u8 191,iv 3]) else bif z 0==244 then k (.tup [kv .u8 128,kv .u8 143,iv 3]) else k (.tup [kv .u8 128,kv .u8 191,iv 3]) else none else none else k (.tup [kv .u8 128,kv .u8 191,iv 3])
  else bif decide (0<(n:Int)) then bif decide (0<n) then bif decide (z 0 ≥ 240) then bif decide (0<(n:Int)) then bif decide (0<n) then bif decide (z 0≤244) then bif (n:Int)==1 then
  bif decide (0<(n:Int)) then bif decide (0<n) then bif z 0==224 then k (.tup [kv .u8 160,kv .u8 191,iv 4]) else bif z 0==237 then k (.tup [kv .u8 128,kv .u8 159,iv 4]) else bif z 0==240
  then k (.tup [kv .u8 144,kv .u8 191,iv 4]) else bif z 0==244 then k (.tup [kv .u8 128,kv .u8 143,iv 4]) else k (.tup [kv .u8 128,kv .u8 191,iv 4]) else none else none else k (.tup [kv .u8 128,kv .u8 191,iv 4])
  else bif (n:Int)==1 then bif decide (0<(n:Int)) then bif decide (0<n) then bif z 0==224 then k (.tup [kv .u8 160,kv .u8 191,iv 0]) else bif z 0==237 then k (.tup [kv .u8 128,kv .u8 159,iv 0])
  else bif z 0==240 then k (.tup [kv .u8 144,kv .u8 191,iv 0]) else bif z 0==244 then k (.tup [kv .u8 128,kv .u8 143,iv 0]) else k (.tup [kv .u8 128,kv .u8 191,iv 0]) else none else none else k (.tup [kv .u8 128,kv .u8 191,iv 0])
  else none else none else bif (n:Int)==1 then bif decide (0<(n:Int)) then bif decide (0<n) then bif z 0==224 then k (.tup [kv .u8 160,kv .u8 191,iv 0]) else bif z 0==237 then k (.tup [kv .u8 128,kv .u8 159,iv 0])
  else bif z 0==240 then k (.tup [kv .u8 144,kv .u8 191,iv 0]) else bif z 0==244 then k (.tup [kv .u8 128,kv .u8 143,iv 0]) else k (.tup [kv .u8 128,kv .u8 191,iv 0]) else none else none else k (.tup [kv .u8 128,kv .u8 191,iv 0])
  else none else none else none else none else bif decide (0<(n:Int)) then bif decide (0<n) then bif decide (z 0 ≥ 240) then bif decide (0<(n:Int)) then bif decide (0<n) then bif decide (z 0≤244)
  then bif (n:Int)==1 then bif decide (0<(n:Int)) then bif decide (0<n) then bif z 0==224 then k (.tup [kv .u8 160,kv .u8 191,iv 4]) else bif z 0==237 then k (.tup [kv .u8 128,kv .u8 159,iv 4])
  else bif z 0==240 then k (.tup [kv .u8 144,kv .u8 191,iv 4]) else bif z 0==244 then k (.tup [kv .u8 128,kv .u8 143,iv 4]) else k (.tup [kv .u8 128,kv .u8 191,iv 4]) else none else none else k (.tup [kv .u8 128,kv .u8 191,iv 4])
  else bif (n:Int)==1 then bif decide (0<(n:Int)) then bif decide (0<n) then bif z 0==224 then k (.tup [kv .u8 160,kv .u8 191,iv 0]) else bif z 0==237 then k (.tup [kv .u8 128,kv .u8 159,iv 0])
  else bif z 0==240 then k (.tup [kv .u8 144,kv .u8 191,iv 0]) else bif z 0==244 then k (.tup [kv .u8 128,kv .u8 143,iv 0]) else k (.tup [kv .u8 128,kv .u8 191,iv 0]) else none else none else k (.tup [kv .u8 128,kv .u8 191,iv 0])
  else none else none else bif (n:Int)==1 then bif decide (0<(n:Int)) then bif decide (0<n) then bif z 0==224 then k (.tup [kv .u8 160,kv .u8 191,iv 0]) else bif z 0==237 then k (.tup [kv .u8 128,kv .u8 159,iv 0])
  else bif z 0==240 then k (.tup [kv .u8 144,kv .u8 191,iv 0]) else bif z 0==244 then k (.tup [kv .u8 128,kv .u8 143,iv 0]) else k (.tup [kv .u8 128,kv .u8 191,iv 0]) else none else none else k (.tup [kv .u8 128,kv .u8 191,iv 0])
  else none else none else none else none else none else none else bif decide (0<(n:Int)) then bif decide (0<n) then bif decide (z 0 ≥ 224) then bif decide (0<(n:Int)) then bif decide (0<n)
  then bif decide (z 0≤239) then bif (n:Int)==1 then bif decide (0<(n:Int)) then bif decide (0<n) then bif z 0==224 then k (.tup [kv .u8 160,kv .u8 191,iv 3]) else bif z 0==237 then k (.tup [kv .u8 128,kv .u8 159,iv 3])
  else bif z 0==240 then k (.tup [kv .u8 144,kv .u8 191,iv 3]) else bif z 0==244 then k (.tup [kv .u8 128,kv .u8 143,iv 3]) else k (.tup [kv .u8 128,kv .u8 191,iv 3]) else none else none else k (.tup [kv .u8 128,kv .u8 191,iv 3])
  else bif decide (0<(n:Int)) then bif decide (0<n) then bif decide (z 0 ≥ 240) then bif decide (0<(n:Int)) then bif decide (0<n) then bif decide (z 0≤244) then bif (n:Int)==1 then
  bif decide (0<(n:Int)) then bif decide (0<n) then bif z 0==224 then k (.tup [kv .u8 160,kv .u8 191,iv 4]) else bif z 0==237 then k (.tup [kv .u8 128,kv .u8 159,iv 4]) else bif z 0==240
  then k (.tup [kv .u8 144,kv .u8 191,iv 4]) else bif z 0==244 then k (.tup [kv .u8 128,kv .u8 143,iv 4]) else k (.tup [kv .u8 128,kv .u8 191,iv 4]) else none else none else k (.tup [kv .u8 128,kv .u8 191,iv 4])
  else bif (n:Int)==1 then bif decide (0<(n:Int)) then bif decide (0<n) then bif z 0==224 then k (.tup [kv .u8 160,kv .u8 191,iv 0]) else bif z 0==237 then k (.tup [kv .u8 128,kv .u8 159,iv 0])
  else bif z 0==240 then k (.tup [kv .u8 144,kv .u8 191,iv 0]) else bif z 0==244 then k (.tup [kv .u8 128,kv .u8 143,iv 0]) else k (.tup [kv .u8 128,kv .u8 191,iv 0]) else none else none else k (.tup [kv .u8 128,kv .u8 191,iv 0])
  else none else none else bif (n:Int)==1 then bif decide (0<(n:Int)) then bif decide (0<n) then bif z 0==224 then k (.tup [kv .u8 160,kv .u8 191,iv 0]) else bif z 0==237 then k (.tup [kv .u8 128,kv .u8 159,iv 0])
  else bif z 0==240 then k (.tup [kv .u8 144,kv .u8 191,iv 0]) else bif z 0==244 then k (.tup [kv .u8 128,kv .u8 143,iv 0]) else k (.tup [kv .u8 128,kv .u8 191,iv 0]) else none else none else k (.tup [kv .u8 128,kv .u8 191,iv 0])
  else none else none else none else none else bif decide (0<(n:Int)) then bif decide (0<n) then bif decide (z 0 ≥ 240) then bif decide (0<(n:Int)) then bif decide (0<n) then bif decide (z 0≤244)
  then bif (n:Int)==1 then bif decide (0<(n:Int)) then bif decide (0<n) then bif z 0==224 then k (.tup [kv .u8 160,kv .u8 191,iv 4]) else bif z 0==237 then k (.tup [kv .u8 128,kv .u8 159,iv 4])
  else bif z 0==240 then k (.tup [kv .u8 144,kv .u8 191,iv 4]) else bif z 0==244 then k (.tup [kv .u8 128,kv .u8 143,iv 4]) else k (.tup [kv .u8 128,kv .u8 191,iv 4]) else none else none else k (.tup [kv .u8 128,kv .u8 191,iv 4])
  else bif (n:Int)==1 then bif decide (0<(n:Int)) then bif decide (0<n) then bif z 0==224 then k (.tup [kv .u8 160,kv .u8 191,iv 0]) else bif z 0==237 then k (.tup [kv .u8 128,kv .u8 159,iv 0])
  else bif z 0==240 then k (.tup [kv .u8 144,kv .u8 191,iv 0]) else bif z 0==244 then k (.tup [kv .u8 128,kv .u8 143,iv 0]) else k (.tup [kv .u8 128,kv .u8 191,iv 0]) else none else none else k (.tup [kv .u8 128,kv .u8 191,iv 0])
  else none else none else bif (n:Int)==1 then bif decide (0<(n:Int)) then bif decide (0<n) then bif z 0==224 then k (.tup [kv .u8 160,kv .u8 191,iv 0]) else bif z 0==237 then k (.tup [kv .u8 128,kv .u8 159,iv 0])
  else bif z 0==240 then k (.tup [kv .u8 144,kv .u8 191,iv 0]) else bif z 0==244 then k (.tup [kv .u8 128,kv .u8 143,iv 0]) else k (.tup [kv .u8 128,kv .u8 191,iv 0]) else none else none else k (.tup [kv .u8 128,kv .u8 191,iv 0])
  else none else none else none else none else none else none:=by
 kernel_rfl
def szF (p:Int):Int :=
 bif decide (p ≥ 194) then (bif decide (p≤223) then 2 else bif decide (p ≥ 224) then (bif decide (p≤239) then 3 else bif decide (p ≥ 240) then (bif decide (p≤244) then 4 else 0) else 0) else bif decide (p ≥ 240) then (bif decide (p≤244) then 4 else 0) else 0)
 else bif decide (p ≥ 224) then (bif decide (p≤239) then 3 else bif decide (p ≥ 240) then (bif decide (p≤244) then 4 else 0) else 0) else bif decide (p ≥ 240) then (bif decide (p≤244) then 4 else 0) else 0
def loF (p:Int) (n:Nat):Int:=bif (n:Int)==1 then (bif p==224 then 160 else bif p==237 then 128 else bif p==240 then 144 else 128) else 128
def hiF (p:Int) (n:Nat):Int:=bif (n:Int)==1 then (bif p==224 then 191 else bif p==237 then 159 else bif p==240 then 191 else bif p==244 then 143 else 191) else 191
def limD (p:Int) (n:Nat):DV:=.tup [kv .u8 (loF p n),kv .u8 (hiF p n),iv (szF p)]
theorem lim_true (t:Bool) (z:Nat→Int) (n:Nat) (hn:0<n):bodyD Tryz.prog (env [] noLp 0) Tryz.f148 [.sl t (rowI .u8 z) 1 n] [] (fun d _=>isD (limD (z 0) n) d)=some ():=by
 refine (lim_tree t z n _).trans ?_
 have h0:((n:Int)==(0:Int))=false:=by rw [beq_eq_false_iff_ne]; omega
 have h1:decide ((0:Int)<(n:Int))=true:=decide_eq_true (by omega)
 have h2:decide (0<n)=true:=decide_eq_true hn
 simp only [h0,h1,h2,cond_true,cond_false]
 unfold limD loF hiF szF
 generalize z 0=p
 clear h0 h1 h2
 repeat' (first | exact isD_of (by simp only [*,cond_true,cond_false]) | refine cS (fun h=>?_) (fun h=>?_))
noncomputable def limC:ConF:=fun args k=>match args with
 | [d]=>rowK .u8 d fun z n=>bif decide (0<n) then k (fun _=>(limD (z 0) n,[])) else none
 | _=>none
theorem tup_clo {l:List DV}(h:l.all isV=true):Clo (.tup l)∧Low (.tup l):=flR_clo (d:=.tup l) (List.all_eq_true.2 fun d hd=>by
 have:=List.all_eq_true.1 h d hd
 cases d<;>first | rfl | cases this)
theorem limC_ok {st:AE.Stat}(hx:∀ a σ,st.ext 148 a σ=none):ConOk Tryz.prog st 148 limC:=by
 refine con_flat (mg:=[]) (l:=[]) (lp:=noLp) (n:=0) (glOk st) (fun _ h=>nomatch h) Tryz.func148 (by kernel_rfl) (by kernel_rfl) hx (fun _ _ _ h=>nomatch h) fun args k hk=>?_
 unfold limC at hk
 split at hk<;>first | (cases hk; done) | skip
 rename_i d
 obtain ⟨t,z,n,hk,hc⟩:=rowK_some hk
 obtain ⟨hn,hk⟩:=dec_none hk
 exact ⟨[.sl t (rowI .u8 z) 1 n],_,.cons hc .nil,tup_clo rfl,hk,lim_true t z n hn⟩
end Go.Proofs.YtigmkgampfbflaaGreatDoor
