/-
 'narratorlaw13.TerminalResize': for every terminal of bulk at most 1048576 and every size the law answers true and leaves the input as it was.
 Conditions: the row's own (what is read is of bulk at most 1048576),and that the listed tables hold what it lists.
-/
import Derived.Test.YtigmkgampfbflaaGreatDoorJRf
import Derived.Test.YtigmkgampfbflaaGreatDoorJShelf
import Derived.Test.YtigmkgampfbflaaGreatDoorDeNd
import Derived.Test.YtigmkgampfbflaaGreatDoorAeMpg
import Derived.Test.YtigmkgampfbflaaGreatDoorCards
import Derived.Test.YtigmkgampfbflaaGreatDoorTie
import Derived.Lay
import Derived.Lib.LaidTab
import Derived.Lib.SmallJoins
import Derived.WalkKit
import Derived.MakeChecks
import Derived.Deep.DeepHandedRow
import Derived.ChangeMaps5
import Derived.Lib.LaidU8T
namespace Go.Proofs.YtigmkgampfbflaaGreatDoor
open Go Go.AE Go.DE Go.RowKit
noncomputable def awC:ConF:=fun args k=>match args with
 | []=>k (fun _=>(bv true,[]))
 | _=>none
/-- A contract, at the arguments that are told. -/
noncomputable def atC (P:List DV→Prop) (F:ConF):ConF:=fun args k=>bif holds (P args) then F args k else none
noncomputable abbrev lawT (b g p:Bool) (P2 P3 P1:List DV→Prop) (x:Tm) (Q:List DV→List DV→Prop) (Q0:List DV→Prop) (R:Int→Nat→Nat→DV) (T:Nat→Bool) (O1 O2:Tm→Int→Int→Tm) (O3:Tm→Tm):List (FuncId×ConF) :=
 [(10,tmC x g),(17,tmC x p),(13,awC),(18,atC P2 (ntC (fun _ _=>b) zeroL fun w h=>newL w h R T)),(19,atC P2 (ntC (fun _ _=>b) zeroL fun w h=>newL w h R T)),(20,atC P3 (rtC Q0 (fun _ _=>b) zeroL O1)),(21,atC P3 (rtC Q0 (fun _ _=>b) zeroL O2)),(22,rpC Q0 O3),(16,smC Q)]
theorem lt_tree (g p:Bool) (P2 P3 P1:List DV→Prop) (x:Tm) (w h:Int) (Q:List DV→List DV→Prop) (Q0:List DV→Prop) (R:Int→Nat→Nat→DV) (T:Nat→Bool) (O1 O2:Tm→Int→Int→Tm) (O3:Tm→Tm) (k:DV→Option Unit):bodyD Tryz.prog (envZ (lawT true g p P2 P3 P1 x Q Q0 R T O1 O2 O3) noLp 0) Tryz.f5 [.agg x.cells,iv w,iv h] [] (fun d _=>k d) =
  bif holds (x.cells=x.cells) then bif g then k (bv true) else bif holds (x.cells=x.cells) then bif !p then k (bv true) else bif decide (w > 30) then k (bv true) else bif decide (h > 12) then k (bv true)
  else bif holds (P2 [iv w,iv h]) then bif decide (w≤30) then bif holds (P2 [iv w,iv h]) then bif decide (w≤30) then bif holds (P3 [.agg x.cells,iv w,iv h]) then bif holds (Q0 x.cells) then bif decide (w≤30)
  then bif holds (P3 [.agg x.cells,iv w,iv h]) then bif holds (Q0 x.cells) then bif decide (w≤30) then bif holds (Q0 x.cells) then bif decide (0<Tm.gn (O3 (tmOf x.cells))) then bif decide (0<Tm.gn (O3 (tmOf x.cells)))
  then bif holds (Q [iv 0,iv 0,DV.v (Value.slice none 0 0),iv 0,iv 0,DV.v (Value.slice none 0 0),iv 0,iv 0,bv false,iv 0,iv 0,bv false,iv 0,iv 0,iv 0,bv false,kv .u8 0,kv .u8 0,iv 0,iv 0,iv 0,iv 0,bv false,bv false,bv false,bv false,bv false,bv false,bv false,bv false,kv .u8 0,kv .u8 0,iv 0,iv 0,iv 0,DV.v (Value.slice none 0 0),DV.v (Value.slice none 0 0),iv 0,sv ⟨#[]⟩,sv ⟨#[]⟩,sv ⟨#[]⟩,sv ⟨#[]⟩] [iv 0,iv 0,DV.v (Value.slice none 0 0),iv 0,iv 0,DV.v (Value.slice none 0 0),iv 0,iv 0,bv false,iv 0,iv 0,bv false,iv 0,iv 0,iv 0,bv false,kv .u8 0,kv .u8 0,iv 0,iv 0,iv 0,iv 0,bv false,bv false,bv false,bv false,bv false,bv false,bv false,bv false,kv .u8 0,kv .u8 0,iv 0,iv 0,iv 0,DV.v (Value.slice none 0 0),DV.v (Value.slice none 0 0),iv 0,sv ⟨#[]⟩,sv ⟨#[]⟩,sv ⟨#[]⟩,sv ⟨#[]⟩])
  then bif holds (Q [iv 0,iv 0,DV.v (Value.slice none 0 0),iv 0,iv 0,DV.v (Value.slice none 0 0),iv 0,iv 0,bv false,iv 0,iv 0,bv false,iv 0,iv 0,iv 0,bv false,kv .u8 0,kv .u8 0,iv 0,iv 0,iv 0,iv 0,bv false,bv false,bv false,bv false,bv false,bv false,bv false,bv false,kv .u8 0,kv .u8 0,iv 0,iv 0,iv 0,DV.v (Value.slice none 0 0),DV.v (Value.slice none 0 0),iv 0,sv ⟨#[]⟩,sv ⟨#[]⟩,sv ⟨#[]⟩,sv ⟨#[]⟩] [iv 0,iv 0,DV.v (Value.slice none 0 0),iv 0,iv 0,DV.v (Value.slice none 0 0),iv 0,iv 0,bv false,iv 0,iv 0,bv false,iv 0,iv 0,iv 0,bv false,kv .u8 0,kv .u8 0,iv 0,iv 0,iv 0,iv 0,bv false,bv false,bv false,bv false,bv false,bv false,bv false,bv false,kv .u8 0,kv .u8 0,iv 0,iv 0,iv 0,DV.v (Value.slice none 0 0),DV.v (Value.slice none 0 0),iv 0,sv ⟨#[]⟩,sv ⟨#[]⟩,sv ⟨#[]⟩,sv ⟨#[]⟩])
  then bif holds (Q [iv (Tm.I (O3 (tmOf x.cells)) 0),iv (Tm.I (O3 (tmOf x.cells)) 1),.sl false (rowsD (Tm.gT (O3 (tmOf x.cells))) (Tm.gR (O3 (tmOf x.cells)))) 1 (Tm.gn (O3 (tmOf x.cells))),iv (Tm.I (O3 (tmOf x.cells)) 3),iv (Tm.I (O3 (tmOf x.cells)) 4),.sl false (rowsD (Tm.oT (O3 (tmOf x.cells))) (Tm.oR (O3 (tmOf x.cells)))) 1 (Tm.on (O3 (tmOf x.cells))),iv (Tm.I (O3 (tmOf x.cells)) 6),iv (Tm.I (O3 (tmOf x.cells)) 7),bv (Tm.B (O3 (tmOf x.cells)) 8),iv (Tm.I (O3 (tmOf x.cells)) 9),iv (Tm.I (O3 (tmOf x.cells)) 10),bv (Tm.B (O3 (tmOf x.cells)) 11),iv (Tm.I (O3 (tmOf x.cells)) 12),iv (Tm.I (O3 (tmOf x.cells)) 13),iv (Tm.I (O3 (tmOf x.cells)) 14),bv (Tm.B (O3 (tmOf x.cells)) 15),kv .u8 ((Tm.I (O3 (tmOf x.cells)) 16)),kv .u8 ((Tm.I (O3 (tmOf x.cells)) 17)),iv (Tm.I (O3 (tmOf x.cells)) 18),iv (Tm.I (O3 (tmOf x.cells)) 19),iv (Tm.I (O3 (tmOf x.cells)) 20),iv (Tm.I (O3 (tmOf x.cells)) 21),bv (Tm.B (O3 (tmOf x.cells)) 22),bv (Tm.B (O3 (tmOf x.cells)) 23),bv (Tm.B (O3 (tmOf x.cells)) 24),bv (Tm.B (O3 (tmOf x.cells)) 25),bv (Tm.B (O3 (tmOf x.cells)) 26),bv (Tm.B (O3 (tmOf x.cells)) 27),bv (Tm.B (O3 (tmOf x.cells)) 28),bv (Tm.B (O3 (tmOf x.cells)) 29),kv .u8 ((Tm.I (O3 (tmOf x.cells)) 30)),kv .u8 ((Tm.I (O3 (tmOf x.cells)) 31)),iv (Tm.I (O3 (tmOf x.cells)) 32),iv (Tm.I (O3 (tmOf x.cells)) 33),iv (Tm.I (O3 (tmOf x.cells)) 34),.sl false (tabsD (Tm.tb (O3 (tmOf x.cells)))) 1 (Tm.tn (O3 (tmOf x.cells))),.sl false (rowsD (Tm.bT (O3 (tmOf x.cells))) (Tm.bR (O3 (tmOf x.cells)))) 1 (Tm.bn (O3 (tmOf x.cells))),iv (Tm.I (O3 (tmOf x.cells)) 37),sv (Tm.S (O3 (tmOf x.cells)) 38),sv (Tm.S (O3 (tmOf x.cells)) 39),sv (Tm.S (O3 (tmOf x.cells)) 40),sv (Tm.S (O3 (tmOf x.cells)) 41)] [iv (x.I 0),iv (x.I 1),.sl false (rowsD x.gT x.gR) 1 x.gn,iv (x.I 3),iv (x.I 4),.sl false (rowsD x.oT x.oR) 1 x.on,iv (x.I 6),iv (x.I 7),bv (x.B 8),iv (x.I 9),iv (x.I 10),bv (x.B 11),iv (x.I 12),iv (x.I 13),iv (x.I 14),bv (x.B 15),kv .u8 ((x.I 16)),kv .u8 ((x.I 17)),iv (x.I 18),iv (x.I 19),iv (x.I 20),iv (x.I 21),bv (x.B 22),bv (x.B 23),bv (x.B 24),bv (x.B 25),bv (x.B 26),bv (x.B 27),bv (x.B 28),bv (x.B 29),kv .u8 ((x.I 30)),kv .u8 ((x.I 31)),iv (x.I 32),iv (x.I 33),iv (x.I 34),.sl false (tabsD x.tb) 1 x.tn,.sl false (rowsD x.bT x.bR) 1 x.bn,iv (x.I 37),sv (x.S 38),sv (x.S 39),sv (x.S 40),sv ⟨#[]⟩])
  then bif ByteArray.toList (Tm.S (tmOf x.cells) 41)==ByteArray.toList (x.S 41) then k (bv true) else k (bv false) else none else none else none else none else none else none else none else none else none
  else none else none else none else none else none else none else none else none else none:=by
 kernel_rfl
theorem lf_tree (g p:Bool) (P2 P3 P1:List DV→Prop) (x:Tm) (w h:Int) (Q:List DV→List DV→Prop) (Q0:List DV→Prop) (R:Int→Nat→Nat→DV) (T:Nat→Bool) (O1 O2:Tm→Int→Int→Tm) (O3:Tm→Tm) (k:DV→Option Unit):bodyD Tryz.prog (envZ (lawT false g p P2 P3 P1 x Q Q0 R T O1 O2 O3) noLp 0) Tryz.f5 [.agg x.cells,iv w,iv h] [] (fun d _=>k d) =
  bif holds (x.cells=x.cells) then bif g then k (bv true) else bif holds (x.cells=x.cells) then bif !p then k (bv true) else bif decide (w > 30) then k (bv true) else bif decide (h > 12) then k (bv true)
  else bif holds (P2 [iv w,iv h]) then bif decide (w≤30) then bif decide (0<Int.toNat h) then bif decide (0<Int.toNat h) then bif holds (P2 [iv w,iv h]) then bif decide (w≤30) then bif decide (0<Int.toNat h)
  then bif decide (0<Int.toNat h) then bif holds (P3 [.agg x.cells,iv w,iv h]) then bif holds (Q0 x.cells) then bif decide (w≤30) then bif decide (0<Tm.gn (O1 (tmOf x.cells) w h)) then bif decide (0<Tm.gn (O1 (tmOf x.cells) w h))
  then bif holds (P3 [.agg x.cells,iv w,iv h]) then bif holds (Q0 x.cells) then bif decide (w≤30) then bif decide (0<Tm.gn (O2 (tmOf x.cells) w h)) then bif decide (0<Tm.gn (O2 (tmOf x.cells) w h))
  then bif holds (Q0 x.cells) then bif decide (0<Tm.gn (O3 (tmOf x.cells))) then bif decide (0<Tm.gn (O3 (tmOf x.cells))) then bif holds (Q [iv w,iv h,.sl false (R w) 1 (Int.toNat h),iv w,iv h,.sl false (R w) 1 (Int.toNat h),iv 0,iv 0,bv false,iv 0,iv 0,bv false,iv (-1:Int),iv (-1:Int),iv 0,bv false,kv .u8 66,kv .u8 66,iv 0,iv (-1:Int),iv (-1:Int),iv 0,bv false,bv false,bv false,bv false,bv true,bv true,bv false,bv false,kv .u8 66,kv .u8 66,iv 0,iv 0,iv h,.sl false (tabsD T) 1 (Int.toNat w),DV.v (Value.slice none 0 0),iv 0,sv ⟨#[]⟩,sv ⟨#[]⟩,sv ⟨#[]⟩,sv ⟨#[]⟩] [iv w,iv h,.sl false (R w) 1 (Int.toNat h),iv w,iv h,.sl false (R w) 1 (Int.toNat h),iv 0,iv 0,bv false,iv 0,iv 0,bv false,iv (-1:Int),iv (-1:Int),iv 0,bv false,kv .u8 66,kv .u8 66,iv 0,iv (-1:Int),iv (-1:Int),iv 0,bv false,bv false,bv false,bv false,bv true,bv true,bv false,bv false,kv .u8 66,kv .u8 66,iv 0,iv 0,iv h,.sl false (tabsD T) 1 (Int.toNat w),DV.v (Value.slice none 0 0),iv 0,sv ⟨#[]⟩,sv ⟨#[]⟩,sv ⟨#[]⟩,sv ⟨#[]⟩])
  then bif holds (Q [iv (Tm.I (O1 (tmOf x.cells) w h) 0),iv (Tm.I (O1 (tmOf x.cells) w h) 1),.sl false (rowsD (Tm.gT (O1 (tmOf x.cells) w h)) (Tm.gR (O1 (tmOf x.cells) w h))) 1 (Tm.gn (O1 (tmOf x.cells) w h)),iv (Tm.I (O1 (tmOf x.cells) w h) 3),iv (Tm.I (O1 (tmOf x.cells) w h) 4),.sl false (rowsD (Tm.oT (O1 (tmOf x.cells) w h)) (Tm.oR (O1 (tmOf x.cells) w h))) 1 (Tm.on (O1 (tmOf x.cells) w h)),iv (Tm.I (O1 (tmOf x.cells) w h) 6),iv (Tm.I (O1 (tmOf x.cells) w h) 7),bv (Tm.B (O1 (tmOf x.cells) w h) 8),iv (Tm.I (O1 (tmOf x.cells) w h) 9),iv (Tm.I (O1 (tmOf x.cells) w h) 10),bv (Tm.B (O1 (tmOf x.cells) w h) 11),iv (Tm.I (O1 (tmOf x.cells) w h) 12),iv (Tm.I (O1 (tmOf x.cells) w h) 13),iv (Tm.I (O1 (tmOf x.cells) w h) 14),bv (Tm.B (O1 (tmOf x.cells) w h) 15),kv .u8 ((Tm.I (O1 (tmOf x.cells) w h) 16)),kv .u8 ((Tm.I (O1 (tmOf x.cells) w h) 17)),iv (Tm.I (O1 (tmOf x.cells) w h) 18),iv (Tm.I (O1 (tmOf x.cells) w h) 19),iv (Tm.I (O1 (tmOf x.cells) w h) 20),iv (Tm.I (O1 (tmOf x.cells) w h) 21),bv (Tm.B (O1 (tmOf x.cells) w h) 22),bv (Tm.B (O1 (tmOf x.cells) w h) 23),bv (Tm.B (O1 (tmOf x.cells) w h) 24),bv (Tm.B (O1 (tmOf x.cells) w h) 25),bv (Tm.B (O1 (tmOf x.cells) w h) 26),bv (Tm.B (O1 (tmOf x.cells) w h) 27),bv (Tm.B (O1 (tmOf x.cells) w h) 28),bv (Tm.B (O1 (tmOf x.cells) w h) 29),kv .u8 ((Tm.I (O1 (tmOf x.cells) w h) 30)),kv .u8 ((Tm.I (O1 (tmOf x.cells) w h) 31)),iv (Tm.I (O1 (tmOf x.cells) w h) 32),iv (Tm.I (O1 (tmOf x.cells) w h) 33),iv (Tm.I (O1 (tmOf x.cells) w h) 34),.sl false (tabsD (Tm.tb (O1 (tmOf x.cells) w h))) 1 (Tm.tn (O1 (tmOf x.cells) w h)),.sl false (rowsD (Tm.bT (O1 (tmOf x.cells) w h)) (Tm.bR (O1 (tmOf x.cells) w h))) 1 (Tm.bn (O1 (tmOf x.cells) w h)),iv (Tm.I (O1 (tmOf x.cells) w h) 37),sv (Tm.S (O1 (tmOf x.cells) w h) 38),sv (Tm.S (O1 (tmOf x.cells) w h) 39),sv (Tm.S (O1 (tmOf x.cells) w h) 40),sv (Tm.S (O1 (tmOf x.cells) w h) 41)] [iv (Tm.I (O2 (tmOf x.cells) w h) 0),iv (Tm.I (O2 (tmOf x.cells) w h) 1),.sl false (rowsD (Tm.gT (O2 (tmOf x.cells) w h)) (Tm.gR (O2 (tmOf x.cells) w h))) 1 (Tm.gn (O2 (tmOf x.cells) w h)),iv (Tm.I (O2 (tmOf x.cells) w h) 3),iv (Tm.I (O2 (tmOf x.cells) w h) 4),.sl false (rowsD (Tm.oT (O2 (tmOf x.cells) w h)) (Tm.oR (O2 (tmOf x.cells) w h))) 1 (Tm.on (O2 (tmOf x.cells) w h)),iv (Tm.I (O2 (tmOf x.cells) w h) 6),iv (Tm.I (O2 (tmOf x.cells) w h) 7),bv (Tm.B (O2 (tmOf x.cells) w h) 8),iv (Tm.I (O2 (tmOf x.cells) w h) 9),iv (Tm.I (O2 (tmOf x.cells) w h) 10),bv (Tm.B (O2 (tmOf x.cells) w h) 11),iv (Tm.I (O2 (tmOf x.cells) w h) 12),iv (Tm.I (O2 (tmOf x.cells) w h) 13),iv (Tm.I (O2 (tmOf x.cells) w h) 14),bv (Tm.B (O2 (tmOf x.cells) w h) 15),kv .u8 ((Tm.I (O2 (tmOf x.cells) w h) 16)),kv .u8 ((Tm.I (O2 (tmOf x.cells) w h) 17)),iv (Tm.I (O2 (tmOf x.cells) w h) 18),iv (Tm.I (O2 (tmOf x.cells) w h) 19),iv (Tm.I (O2 (tmOf x.cells) w h) 20),iv (Tm.I (O2 (tmOf x.cells) w h) 21),bv (Tm.B (O2 (tmOf x.cells) w h) 22),bv (Tm.B (O2 (tmOf x.cells) w h) 23),bv (Tm.B (O2 (tmOf x.cells) w h) 24),bv (Tm.B (O2 (tmOf x.cells) w h) 25),bv (Tm.B (O2 (tmOf x.cells) w h) 26),bv (Tm.B (O2 (tmOf x.cells) w h) 27),bv (Tm.B (O2 (tmOf x.cells) w h) 28),bv (Tm.B (O2 (tmOf x.cells) w h) 29),kv .u8 ((Tm.I (O2 (tmOf x.cells) w h) 30)),kv .u8 ((Tm.I (O2 (tmOf x.cells) w h) 31)),iv (Tm.I (O2 (tmOf x.cells) w h) 32),iv (Tm.I (O2 (tmOf x.cells) w h) 33),iv (Tm.I (O2 (tmOf x.cells) w h) 34),.sl false (tabsD (Tm.tb (O2 (tmOf x.cells) w h))) 1 (Tm.tn (O2 (tmOf x.cells) w h)),.sl false (rowsD (Tm.bT (O2 (tmOf x.cells) w h)) (Tm.bR (O2 (tmOf x.cells) w h))) 1 (Tm.bn (O2 (tmOf x.cells) w h)),iv (Tm.I (O2 (tmOf x.cells) w h) 37),sv (Tm.S (O2 (tmOf x.cells) w h) 38),sv (Tm.S (O2 (tmOf x.cells) w h) 39),sv (Tm.S (O2 (tmOf x.cells) w h) 40),sv (Tm.S (O2 (tmOf x.cells) w h) 41)])
  then bif holds (Q [iv (Tm.I (O3 (tmOf x.cells)) 0),iv (Tm.I (O3 (tmOf x.cells)) 1),.sl false (rowsD (Tm.gT (O3 (tmOf x.cells))) (Tm.gR (O3 (tmOf x.cells)))) 1 (Tm.gn (O3 (tmOf x.cells))),iv (Tm.I (O3 (tmOf x.cells)) 3),iv (Tm.I (O3 (tmOf x.cells)) 4),.sl false (rowsD (Tm.oT (O3 (tmOf x.cells))) (Tm.oR (O3 (tmOf x.cells)))) 1 (Tm.on (O3 (tmOf x.cells))),iv (Tm.I (O3 (tmOf x.cells)) 6),iv (Tm.I (O3 (tmOf x.cells)) 7),bv (Tm.B (O3 (tmOf x.cells)) 8),iv (Tm.I (O3 (tmOf x.cells)) 9),iv (Tm.I (O3 (tmOf x.cells)) 10),bv (Tm.B (O3 (tmOf x.cells)) 11),iv (Tm.I (O3 (tmOf x.cells)) 12),iv (Tm.I (O3 (tmOf x.cells)) 13),iv (Tm.I (O3 (tmOf x.cells)) 14),bv (Tm.B (O3 (tmOf x.cells)) 15),kv .u8 ((Tm.I (O3 (tmOf x.cells)) 16)),kv .u8 ((Tm.I (O3 (tmOf x.cells)) 17)),iv (Tm.I (O3 (tmOf x.cells)) 18),iv (Tm.I (O3 (tmOf x.cells)) 19),iv (Tm.I (O3 (tmOf x.cells)) 20),iv (Tm.I (O3 (tmOf x.cells)) 21),bv (Tm.B (O3 (tmOf x.cells)) 22),bv (Tm.B (O3 (tmOf x.cells)) 23),bv (Tm.B (O3 (tmOf x.cells)) 24),bv (Tm.B (O3 (tmOf x.cells)) 25),bv (Tm.B (O3 (tmOf x.cells)) 26),bv (Tm.B (O3 (tmOf x.cells)) 27),bv (Tm.B (O3 (tmOf x.cells)) 28),bv (Tm.B (O3 (tmOf x.cells)) 29),kv .u8 ((Tm.I (O3 (tmOf x.cells)) 30)),kv .u8 ((Tm.I (O3 (tmOf x.cells)) 31)),iv (Tm.I (O3 (tmOf x.cells)) 32),iv (Tm.I (O3 (tmOf x.cells)) 33),iv (Tm.I (O3 (tmOf x.cells)) 34),.sl false (tabsD (Tm.tb (O3 (tmOf x.cells)))) 1 (Tm.tn (O3 (tmOf x.cells))),.sl false (rowsD (Tm.bT (O3 (tmOf x.cells))) (Tm.bR (O3 (tmOf x.cells)))) 1 (Tm.bn (O3 (tmOf x.cells))),iv (Tm.I (O3 (tmOf x.cells)) 37),sv (Tm.S (O3 (tmOf x.cells)) 38),sv (Tm.S (O3 (tmOf x.cells)) 39),sv (Tm.S (O3 (tmOf x.cells)) 40),sv (Tm.S (O3 (tmOf x.cells)) 41)] [iv (x.I 0),iv (x.I 1),.sl false (rowsD x.gT x.gR) 1 x.gn,iv (x.I 3),iv (x.I 4),.sl false (rowsD x.oT x.oR) 1 x.on,iv (x.I 6),iv (x.I 7),bv (x.B 8),iv (x.I 9),iv (x.I 10),bv (x.B 11),iv (x.I 12),iv (x.I 13),iv (x.I 14),bv (x.B 15),kv .u8 ((x.I 16)),kv .u8 ((x.I 17)),iv (x.I 18),iv (x.I 19),iv (x.I 20),iv (x.I 21),bv (x.B 22),bv (x.B 23),bv (x.B 24),bv (x.B 25),bv (x.B 26),bv (x.B 27),bv (x.B 28),bv (x.B 29),kv .u8 ((x.I 30)),kv .u8 ((x.I 31)),iv (x.I 32),iv (x.I 33),iv (x.I 34),.sl false (tabsD x.tb) 1 x.tn,.sl false (rowsD x.bT x.bR) 1 x.bn,iv (x.I 37),sv (x.S 38),sv (x.S 39),sv (x.S 40),sv ⟨#[]⟩])
  then bif ByteArray.toList (Tm.S (tmOf x.cells) 41)==ByteArray.toList (x.S 41) then k (bv true) else k (bv false) else none else none else none else none else none else none else none else none else none
  else none else none else none else none else none else none else none else none else none else none else none else none else none else none else none else none else none:=by
 kernel_rfl
theorem con_le {z:Bool}{P:Program}{st:AE.Stat}{f:FuncId}{F G:ConF}(h:ConOkZ z P st f G) (hl:∀ args k,F args k=some ()→G args k=some ()):ConOkZ z P st f F:=fun args k hk=>h args k (hl args k hk)
theorem rowsSame_of {T U:Nat→Bool}{R:Nat→Row}{n:Nat}(h:rowsOk R n):rowsSame (rowsD T R) (rowsD U R) n:=⟨⟨h.1,fun i hi=>isRow_of (h.2 i hi)⟩,fun i hi=>⟨isRow_of (h.2 i hi),rfl,fun _ _ _ _=>rfl⟩⟩
theorem tabsSame_of {z:Nat→Bool}{n:Nat}(h:n≤9000000):tabsSame (tabsD z) (tabsD z) n:=⟨⟨h,fun _ _=>rfl⟩,fun _ _=>rfl⟩
theorem fit_sized {r:Row}(h:r.sized) {k:Nat}(hk:k≤9000000):(fitR r k).sized:=⟨hk,fun i hi=>by
 show (bif fitK r k i then r.tx i else ⟨#[32]⟩).size≤9000000
 cases e:fitK r k i with
 | true =>
  have:i<r.n:=by
   unfold fitK at e
   simp only [Bool.and_eq_true,decide_eq_true_eq] at e
   exact e.1
  exact h.2 i this
 | false=>show (1:Nat)≤9000000; decide⟩
theorem blk_sized {k:Nat}(hk:k≤9000000):(blkRow k).sized:=⟨hk,fun i hi=>by show (1:Nat)≤9000000; decide⟩
theorem rz_ok {R:Nat→Row}{n m k:Nat}(h:rowsOk R n) (hm:m≤9000000) (hk:k≤9000000):rowsOk (rzR R n k) m:=⟨hm,fun i hi=>by
 by_cases e:i<n
 ·rw [rzR_lt e]
  exact fit_sized (h.2 i e) hk
 ·rw [rzR_ge e]
  exact blk_sized hk⟩
theorem rsz_ok {x:Tm}(ok:x.ok) {w h:Int}(hw:w≤132) (hh:h≤60):(x.rsz w h).ok:=⟨rz_ok ok.1 (by show h.toNat≤9000000; omega) (by omega),rz_ok ok.2.1 (by show h.toNat≤9000000; omega) (by omega),ok.2.2.1,by show w.toNat≤9000000; omega,ok.2.2.2.2⟩
theorem rsz_same {x:Tm}(ok:x.ok) {w h:Int}(hw:w≤132) (hh:h≤60):smQ (x.rsz w h).cells (x.rszR w h).cells :=
 have q:=rsz_ok ok hw hh
 .inl ⟨⟨rfl,q⟩,rfl,rowsSame_of q.1,rowsSame_of q.2.1,rowsSame_of q.2.2.1,tabsSame_of q.2.2.2.1⟩
/-- The same terminal without its reply. -/
def Tm.noS (x:Tm):Tm:={ x with S:=fun j=>if j=41 then ⟨#[]⟩ else x.S j }
theorem noR_same {x:Tm}(ok:x.ok):smQ x.noR.cells x.noS.cells :=
 have q:x.noR.ok:=⟨ok.1,ok.2.1,ok.2.2.1,ok.2.2.2.1,ok.2.2.2.2.1,Nat.zero_le _⟩
 .inl ⟨⟨rfl,q⟩,rfl,rowsSame_of q.1,rowsSame_of q.2.1,rowsSame_of q.2.2.1,tabsSame_of q.2.2.2.1⟩
theorem pr_of {x:Tm}(ok:x.ok) (q:Prp x) (lo:x.low):tmPr x.cells:=⟨rfl,ok,⟨q.g,q.o,q.w,q.h,q.c,q.d,q.a,q.a2,q.s,q.s2,q.t0,q.t1,q.t2,q.tn,q.bn,q.v,q.b⟩,lo⟩
theorem beq_l (a:ByteArray):(a.toList==a.toList)=true:=beq_self_eq_true _
def at2 (w h:Int) (a:List DV):Prop:=a=[iv w,iv h]
def at3 (x:Tm) (w h:Int) (a:List DV):Prop:=a=[.agg x.cells,iv w,iv h]
theorem lt_true (x:Tm) (w h:Int) (ok:x.ok) (lo:x.low) (hS:szF2 w h=true):bodyD Tryz.prog (envZ (lawT true (greatF x) (properF x) (at2 w h) (at3 x w h) (fun _=>True) x smQ tmPr rwD tab8 Tm.rsz Tm.rszR Tm.noR) noLp 0) Tryz.f5 [.agg x.cells,iv w,iv h] [] (fun d _=>isD (bv true) d)=some ():=by
 refine (lt_tree (greatF x) (properF x) (at2 w h) (at3 x w h) (fun _=>True) x w h smQ tmPr rwD tab8 Tm.rsz Tm.rszR Tm.noR _).trans ?_
 refine hT rfl (cS (fun _=>isD_of rfl) fun _=>hT rfl (cS (fun _=>isD_of rfl) fun hp=>dS (fun _=>isD_of rfl) fun hw=>dS (fun _=>isD_of rfl) fun hh=>?_))
 have p:=proper_all (x:=x) (by simpa using hp)
 have pr:=pr_of ok p lo
 have hw:w≤30:=by omega
 obtain ⟨_,_,_,_,_,_⟩:=check8_zero p.g
 have hg:0<x.gn:=by omega
 have ho:0<x.on:=by
  obtain ⟨_,_,_,_,_,_⟩:=check8_zero p.o
  omega
 exact hT rfl (dT hw (hT rfl (dT hw (hT rfl (hT pr (dT hw (hT rfl (hT pr (dT hw (hT pr (dT hg (dT hg (hT (.inr (.inr ⟨rfl,rfl⟩)) (hT (.inr (.inr ⟨rfl,rfl⟩)) (hT (noR_same ok) (cT (beq_l _) (isD_of rfl)))))))))))))))))
theorem lf_true (x:Tm) (w h:Int) (ok:x.ok) (lo:x.low) (hS:szF2 w h=false):bodyD Tryz.prog (envZ (lawT false (greatF x) (properF x) (at2 w h) (at3 x w h) (fun _=>True) x smQ tmPr rwD tab8 Tm.rsz Tm.rszR Tm.noR) noLp 0) Tryz.f5 [.agg x.cells,iv w,iv h] [] (fun d _=>isD (bv true) d)=some ():=by
 refine (lf_tree (greatF x) (properF x) (at2 w h) (at3 x w h) (fun _=>True) x w h smQ tmPr rwD tab8 Tm.rsz Tm.rszR Tm.noR _).trans ?_
 refine hT rfl (cS (fun _=>isD_of rfl) fun _=>hT rfl (cS (fun _=>isD_of rfl) fun hp=>dS (fun _=>isD_of rfl) fun hw=>dS (fun _=>isD_of rfl) fun hh=>?_))
 have p:=proper_all (x:=x) (by simpa using hp)
 have pr:=pr_of ok p lo
 have hw:w≤30:=by omega
 obtain ⟨w1,w2,h1,h2⟩:=szF2_false hS
 have hz:0<h.toNat:=by omega
 have hg:0<x.gn:=by
  obtain ⟨_,_,_,_,_,_⟩:=check8_zero p.g
  omega
 exact hT rfl (dT hw (dT hz (dT hz (hT rfl (dT hw (dT hz (dT hz (hT rfl (hT pr (dT hw (dT hz (dT hz (hT rfl (hT pr (dT hw (dT hz (dT hz (hT pr (dT hg (dT hg (hT (.inr (.inl ⟨⟨w,h,w1,hw,h1,h2,rfl⟩,rfl⟩)) (hT (rsz_same ok w2 h2) (hT (noR_same ok) (cT (beq_l _) (isD_of rfl)))))))))))))))))))))))))
/-- A terminal none of whose rows is shared. -/
def tmLo (l:List DV):Prop:=tmOk l∧(tmOf l).low
noncomputable def la5C:ConF:=fun args k=>match args with
 | [.agg l,.v (.int .i64 _),.v (.int .i64 _)]=>bif holds (tmLo l) then k (fun _=>(bv true,[])) else none
 | _=>none
theorem at2_ok {st:AE.Stat}{f:FuncId}{w h:Int}{N:Int→Int→List DV}(H:ConOkZ true Tryz.prog st f (ntC szF2 zeroL N)):ConOkZ true Tryz.prog st f (atC (at2 w h) (ntC (fun _ _=>szF2 w h) zeroL N)):=con_le H fun args k hk=>by
 unfold atC at hk
 obtain ⟨e,hk2⟩:=bif_none hk
 have e:=holds_eq.1 e
 unfold at2 at e
 subst e
 exact hk2
theorem at3_ok {st:AE.Stat}{f:FuncId}{x:Tm}{w h:Int}{O:Tm→Int→Int→Tm}(H:ConOkZ true Tryz.prog st f (rtC tmPr szF2 zeroL O)):ConOkZ true Tryz.prog st f (atC (at3 x w h) (rtC tmPr (fun _ _=>szF2 w h) zeroL O)):=con_le H fun args k hk=>by
 unfold atC at hk
 obtain ⟨e,hk2⟩:=bif_none hk
 have e:=holds_eq.1 e
 unfold at3 at e
 subst e
 exact hk2
theorem lawT_ok {st:AE.Stat}(hx:Hx st) (hv:VdOk st) (hk:∀ a σ,st.ext 157 a σ=RL.app σ (blkX a σ.length)) (ha:ConOk Tryz.prog st 13 awC) (x:Tm) (ok:x.ok) (w h:Int) :
  ∀ e∈lawT (szF2 w h) (greatF x) (properF x) (at2 w h) (at3 x w h) (fun _=>True) x smQ tmPr rwD tab8 Tm.rsz Tm.rszR Tm.noR,ConOkZ true Tryz.prog st e.1 e.2:=fun e he=>by
 simp only [lawT,List.mem_cons,List.not_mem_nil,or_false] at he
 rcases he with rfl | rfl | rfl | rfl | rfl | rfl | rfl | rfl | rfl
 ·exact (gtC_ok hx x ok).z
 ·exact (ppC_ok hx x ok).z
 ·exact ha.z
 ·exact at2_ok (ntC_ok hx hk)
 ·exact at2_ok (ruC_ok hx)
 ·exact at3_ok (rtC_ok hx hv hk)
 ·exact at3_ok (r13C_ok hx)
 ·exact rpC_ok hx
 ·exact (smC_ok hx).z
theorem la5C_ok {st:AE.Stat}(hx:Hx st) (hv:VdOk st) (hk:∀ a σ,st.ext 157 a σ=RL.app σ (blkX a σ.length)) (ha:ConOk Tryz.prog st 13 awC):ConOkZ true Tryz.prog st 5 la5C:=fun args k hk2=>by
 unfold la5C at hk2
 split at hk2<;>first | (cases hk2; done) | skip
 rename_i l w h
 obtain ⟨hb,hk3⟩:=bif_none hk2
 obtain ⟨⟨l1,ok⟩,lo⟩:=holds_eq.1 hb
 clear hk2 hb
 refine con_flatZ (F:=fun a k'=>bif holds (a=[.agg l,iv w,iv h]) then k' (fun _=>(bv true,[])) else none) (mg:=[]) (l:=lawT (szF2 w h) (greatF (tmOf l)) (properF (tmOf l)) (at2 w h) (at3 (tmOf l) w h) (fun _=>True) (tmOf l) smQ tmPr rwD tab8 Tm.rsz Tm.rszR Tm.noR) (lp:=noLp) (n:=0) (glOk st)
  (lawT_ok hx hv hk ha (tmOf l) ok w h) Tryz.func5 (by kernel_rfl) (by kernel_rfl) (hx 5 rfl) (fun _ _ _ h=>nomatch h) (fun args k hk2=>?_) _ k (hT rfl hk3)
 obtain ⟨e,hk4⟩:=bif_none hk2
 obtain rfl:=holds_eq.1 e
 refine ⟨[.agg (tmOf l).cells,iv w,iv h],_,.cons (Cv.of (by rw [← l1])) (.self (.self .nil)),v_clo _,hk4,?_⟩
 cases hS:szF2 w h with
 | true=>exact lt_true (tmOf l) w h ok lo hS
 | false=>exact lf_true (tmOf l) w h ok lo hS
end Go.Proofs.YtigmkgampfbflaaGreatDoor
namespace Go.Proofs.YtigmkgampfbflaaGreatDoor
open Go Go.AE Go.DE Go.RowKit Go.ChangeShapes Go.Joins
def vdV:List Value→Option Value
 | [.string s]=>if s.size≤9000000 then some (.bool (vdF s)) else none
 | _=>none
theorem tabs_keep {W w:World}(h:Lib.Utf8Tabs 0 1 W) (hw:Below W.heap.size W w):Lib.Utf8Tabs 0 1 w:=by
 have key:∀ {g i:Nat}{v:Value},W.cell? ⟨g,i,none⟩=some v→w.cell? ⟨g,i,none⟩=some v:=fun hc=>(hw.cell (p:=⟨_,_,none⟩) (World.block_lt_of_cell? _ _ hc)).trans hc
 exact ⟨fun c hc=>key (h.1 c hc),fun i hi=>⟨key (h.2 i hi).1,key (h.2 i hi).2⟩⟩
theorem fnOk_vd {W:World}(h:Lib.Utf8Tabs 0 1 W):FnOk Tryz.prog W 70 (fun a σ=>RG.app σ (keepX vdV a)):=by
 refine fnOk_keep fun args v hg=>?_
 unfold vdV at hg
 split at hg<;>first | (cases hg; done) | skip
 rename_i s
 split at hg<;>first | (cases hg; done) | skip
 rename_i hs
 obtain rfl:=Option.some.inj hg
 exact ⟨rfl,rfl,fun w hw=>Tryz.utf8_ValidString s w (Nat.le_trans hs (by decide)) (tabs_keep h hw)⟩
noncomputable def extK:ExtL:=fun f args _ N=>match f with
 | 13=>toL (keepX awV args)
 | 70=>toL (keepX vdV args)
 | 157=>blkX args N
 | _=>none
noncomputable def stK (W:World):AE.Stat:=⟨stOf W,extOfL extK⟩
theorem stK_good (W:World):GoodSt W (stK W):=stOf_good W _
theorem hxK (W:World):∀ f,exA f=false→∀ a σ,(stK W).ext f a σ=none:=fun f h a σ=>by
 have h1:f≠13:=fun e=>by subst e; cases h
 have h2:f≠70:=fun e=>by subst e; cases h
 have h3:f≠157:=fun e=>by subst e; cases h
 have:extK f a (hp σ) σ.length=none:=by
  unfold extK
  split<;>first | contradiction | rfl
 simp [stK,extOfL,RL.app,this]
theorem hkK (W:World):∀ a σ,(stK W).ext 157 a σ=RL.app σ (blkX a σ.length):=fun _ _=>rfl
theorem awC_ok (W:World):ConOk Tryz.prog (stK W) 13 awC:=by
 refine con_ext Tryz.func13 (by kernel_rfl) (by kernel_rfl) fun args k hk=>?_
 unfold awC at hk
 split at hk<;>first | (cases hk; done) | skip
 refine ⟨.bool true,rfl,hk,fun C σ vs _ ha=>?_⟩
 obtain rfl:vs=[]:=ha.nil_inv
 rfl
theorem vdK (W:World):VdOk (stK W):=fun s σ hs=>by
 have e:vdV [.string s]=some (.bool (vdF s)):=if_pos hs
 show RL.app σ (toL (keepX vdV [.string s]))=_
 unfold keepX
 rw [e]
 rfl
theorem extK_ok {W:World}(hst:GoodSt W stA) (ht:Lib.Utf8Tabs 0 1 W):CallOk Tryz.prog W (stK W).ext:=by
 intro f
 by_cases h1:f=13
 ·subst h1; exact keep_fnL (awake_ok hst)
 by_cases h2:f=70
 ·subst h2
  intro args σ v σ' hx
  refine fnOk_vd ht args σ v σ' ?_
  have hx:RL.app σ (toL (keepX vdV args))=some (v,σ'):=hx
  rwa [toL_app keepX_keep] at hx
 by_cases h3:f=157
 ·subst h3; exact fnOk_blk follows
 ·intro args σ v σ' hx
  have h:extK f args (hp σ) σ.length=none:=by
   unfold extK
   split<;>first | contradiction | rfl
  have e:(stK W).ext f args σ=none:=by simp [stK,extOfL,RL.app,h]
  rw [e] at hx
  cases hx
def celK:List Kd:=[.str,.int .i64,.int .i64,.int .i64,.int .i64]
def rwsK:Kd:=.sl [.sl celK]
section
variable {d:DV}
theorem sc_int {k:IntKind}(h:HasK 1048576 (.int k) d):Cv d (kv k (numD d)):=by cases h; exact .of rfl
theorem sc_bool (h:HasK 1048576 .bool d):Cv d (bv (boolD d)):=by cases h; exact .of rfl
theorem sc_str (h:HasK 1048576 .str d):Cv d (sv (strD d)):=by cases h; exact .of rfl
theorem row_is (h:HasK 1048576 (.sl celK) d):isRow d:=by
 cases h with
 | sl ks g n hn h =>
  refine ⟨rfl,Nat.le_trans hn (by decide),fun i hi=>?_⟩
  have h0:=h i 0 _ hi rfl
  have h1:=h i 1 _ hi rfl
  have h2:=h i 2 _ hi rfl
  have h3:=h i 3 _ hi rfl
  have h4:=h i 4 _ hi rfl
  have e0:∀ {d:DV},HasK 1048576 .str d→d=sv (strD d)∧(strD d).size≤9000000:=fun h=>by
   cases h with
   | str s hs=>exact ⟨rfl,Nat.le_trans hs (by decide)⟩
  have e1:∀ {d:DV},HasK 1048576 (.int .i64) d→d=iv (numD d):=fun h=>by cases h; rfl
  exact ⟨(e0 h0).1,(e0 h0).2,e1 h1,e1 h2,e1 h3,e1 h4⟩
theorem rows_inv (h:HasK 1048576 rwsK d):∃ g n,d=.sl false g 1 n∧n≤1048576∧∀ i,i<n→isRow (g i 0):=by
 unfold rwsK at h
 cases h with
 | sl ks g n hn h=>exact ⟨g,n,rfl,hn,fun i hi=>row_is (h i 0 _ hi rfl)⟩
theorem sc_rows (h:HasK 1048576 rwsK d):Cv d (.sl false (rowsD (fun i=>slT (slG d i 0)) fun i=>rowD (slG d i 0)) 1 (slN d)):=by
 obtain ⟨g,n,rfl,-,hr⟩:=rows_inv h
 exact rows_cv hr
theorem rows_ok (h:HasK 1048576 rwsK d):rowsOk (fun i=>rowD (slG d i 0)) (slN d):=by
 obtain ⟨g,n,rfl,hn,hr⟩:=rows_inv h
 exact ⟨Nat.le_trans hn (by decide),fun i hi=>(hr i hi).2.row⟩
theorem sc_tabs (h:HasK 1048576 (.sl [.bool]) d):Cv d (.sl false (tabsD fun i=>boolD (slG d i 0)) 1 (slN d)):=by
 cases h with
 | sl ks g n hn h =>
  refine Cv.sl fun i f hi hf=>?_
  obtain rfl:f=0:=by
   have:f<1:=hf
   omega
  exact sc_bool (h i 0 _ hi rfl)
theorem tabs_ok (h:HasK 1048576 (.sl [.bool]) d):slN d≤9000000:=by
 cases h with
 | sl ks g n hn h=>exact Nat.le_trans hn (by decide)
theorem str_ok (h:HasK 1048576 .str d):(strD d).size≤9000000:=by
 cases h with
 | str s hs=>exact Nat.le_trans hs (by decide)
end
def trmK:List Kd:=[.int .i64,.int .i64,rwsK,.int .i64,.int .i64,rwsK,.int .i64,.int .i64,.bool,.int .i64,.int .i64,.bool,.int .i64,.int .i64,.int .i64,.bool,.int .u8,.int .u8,.int .i64,.int .i64,.int .i64,.int .i64,.bool,.bool,.bool,.bool,.bool,.bool,.bool,.bool,.int .u8,.int .u8,.int .i64,.int .i64,.int .i64,.sl [.bool],rwsK,.int .i64,.str,.str,.str,.str]
theorem cvl_of:∀ {ds es:List DV},ds.length=es.length→(∀ i,i<es.length→Cv (ds.getD i .any) (es.getD i .any))→CvL ds es
 | [],[],_,_=>.nil
 | d :: ds,e :: es,hl,h=>.cons (h 0 (Nat.zero_lt_succ _)) (cvl_of (by simpa using hl) fun i hi=>h (i+1) (by simpa using hi))
theorem has_getD {B:Nat}{ks:List Kd}{ds:List DV}(h:∀ (i:Nat) k,ks[i]?=some k→∃ d,ds[i]?=some d∧HasK B k d):∀ (i:Nat) k,ks[i]?=some k→HasK B k (ds.getD i .any):=fun i k hk=>by
 obtain ⟨d,h1,h2⟩:=h i k hk
 rw [List.getD_eq_getElem?_getD,h1]
 exact h2
theorem tm_cv {ds:List DV}(hl:ds.length=42) (hk:∀ (i:Nat) k,trmK[i]?=some k→HasK 1048576 k (ds.getD i .any)):CvL ds (tmOf ds).cells :=
 cvl_of hl fun i hi=>by
  have hi:i<42:=hi
  have hi:i=0∨i=1∨i=2∨i=3∨i=4∨i=5∨i=6∨i=7∨i=8∨i=9∨i=10∨i=11∨i=12∨i=13∨i=14∨i=15∨i=16∨i=17∨i=18∨i=19∨i=20∨i=21∨i=22∨i=23∨i=24∨i=25∨i=26∨i=27∨i=28∨i=29∨i=30∨i=31∨i=32∨i=33∨i=34∨i=35∨i=36∨i=37∨i=38∨i=39∨i=40∨i=41:=by omega
  rcases hi with rfl | rfl | rfl | rfl | rfl | rfl | rfl | rfl | rfl | rfl | rfl | rfl | rfl | rfl | rfl | rfl | rfl | rfl | rfl | rfl | rfl | rfl | rfl | rfl | rfl | rfl | rfl | rfl | rfl | rfl | rfl | rfl | rfl | rfl | rfl | rfl | rfl | rfl | rfl | rfl | rfl | rfl
  ·exact sc_int (hk 0 _ rfl)
  ·exact sc_int (hk 1 _ rfl)
  ·exact sc_rows (hk 2 _ rfl)
  ·exact sc_int (hk 3 _ rfl)
  ·exact sc_int (hk 4 _ rfl)
  ·exact sc_rows (hk 5 _ rfl)
  ·exact sc_int (hk 6 _ rfl)
  ·exact sc_int (hk 7 _ rfl)
  ·exact sc_bool (hk 8 _ rfl)
  ·exact sc_int (hk 9 _ rfl)
  ·exact sc_int (hk 10 _ rfl)
  ·exact sc_bool (hk 11 _ rfl)
  ·exact sc_int (hk 12 _ rfl)
  ·exact sc_int (hk 13 _ rfl)
  ·exact sc_int (hk 14 _ rfl)
  ·exact sc_bool (hk 15 _ rfl)
  ·exact sc_int (hk 16 _ rfl)
  ·exact sc_int (hk 17 _ rfl)
  ·exact sc_int (hk 18 _ rfl)
  ·exact sc_int (hk 19 _ rfl)
  ·exact sc_int (hk 20 _ rfl)
  ·exact sc_int (hk 21 _ rfl)
  ·exact sc_bool (hk 22 _ rfl)
  ·exact sc_bool (hk 23 _ rfl)
  ·exact sc_bool (hk 24 _ rfl)
  ·exact sc_bool (hk 25 _ rfl)
  ·exact sc_bool (hk 26 _ rfl)
  ·exact sc_bool (hk 27 _ rfl)
  ·exact sc_bool (hk 28 _ rfl)
  ·exact sc_bool (hk 29 _ rfl)
  ·exact sc_int (hk 30 _ rfl)
  ·exact sc_int (hk 31 _ rfl)
  ·exact sc_int (hk 32 _ rfl)
  ·exact sc_int (hk 33 _ rfl)
  ·exact sc_int (hk 34 _ rfl)
  ·exact sc_tabs (hk 35 _ rfl)
  ·exact sc_rows (hk 36 _ rfl)
  ·exact sc_int (hk 37 _ rfl)
  ·exact sc_str (hk 38 _ rfl)
  ·exact sc_str (hk 39 _ rfl)
  ·exact sc_str (hk 40 _ rfl)
  ·exact sc_str (hk 41 _ rfl)
theorem tm_ok {ds:List DV}(hk:∀ (i:Nat) k,trmK[i]?=some k→HasK 1048576 k (ds.getD i .any)):(tmOf ds).ok :=
 ⟨rows_ok (hk 2 _ rfl),rows_ok (hk 5 _ rfl),rows_ok (hk 36 _ rfl),tabs_ok (hk 35 _ rfl),str_ok (hk 40 _ rfl),str_ok (hk 41 _ rfl)⟩
theorem trm_kinds:kinds Tryz.prog 8 38=some trmK:=by kernel_rfl
theorem rows_flat {d:DV}(h:HasK 1048576 rwsK d):∀ i,i<slN d→slT (slG d i 0)=false:=fun i hi=>by
 unfold rwsK at h
 cases h with
 | sl ks g n hn h =>
  have:=h i 0 _ hi rfl
  show slT (g i 0)=false
  generalize g i 0=e at this
  cases this
  rfl
theorem tm_low {ds:List DV}(hk:∀ (i:Nat) k,trmK[i]?=some k→HasK 1048576 k (ds.getD i .any)):(tmOf ds).low:=⟨rows_flat (hk 2 _ rfl),rows_flat (hk 5 _ rfl),rows_flat (hk 36 _ rfl)⟩
theorem bulk_mem {H:Type}{d:DataW H}:∀ {l:List (DataW H)},d∈l→Rows.uptoBulk d≤Rows.uptoBulkAll l
 | x :: l,h=>by
  rw [Rows.uptoBulkAll]
  rcases List.mem_cons.1 h with rfl | h
  ·exact Nat.le_add_right _ _
  ·exact Nat.le_trans (bulk_mem h) (Nat.le_add_left _ _)
theorem bulk_pos {H:Type}(d:DataW H):1≤Rows.uptoBulk d:=by
 cases d<;>(try unfold Rows.uptoBulk)<;>first | exact Nat.le_refl 1 | exact Nat.le_add_left _ _ | skip
 rename_i l
 cases l<;>first | exact Nat.le_add_left _ _ | exact Nat.le_refl 1
theorem bulk_len {H:Type}:∀ (l:List (DataW H)),l.length≤Rows.uptoBulkAll l
 | []=>Nat.zero_le _
 | x :: l=>by
  rw [Rows.uptoBulkAll,List.length_cons]
  have:=bulk_len l
  have:=bulk_pos x
  omega
theorem bulkOk {H:Type}:BkOk (H:=H) Rows.uptoBulk :=
 ⟨fun l=>by unfold Rows.uptoBulk; exact Nat.le_add_right _ _,fun l d h=>by rw [Rows.uptoBulk]; exact Nat.le_trans (bulk_mem h) (Nat.le_add_right _ _),
  fun l sp d h=>by rw [Rows.uptoBulk]; have:=bulk_mem h; omega,fun l sp=>by rw [Rows.uptoBulk]; have:=bulk_len l; omega⟩
theorem bulk_le {H:Type}{d:DataW H}{p:List MemPlace}(hb:Rows.uptoBulk d≤1048576):Rows.uptoBulk (d,p).1≤1048576:=hb
set_option maxRecDepth 100000 in
theorem open_struct {H:Type}{enc:TypeId×Value→H}{W:World}{b0 n:Nat}{t:TypeId}{fs:Array Field}{ks:List Kd}{v:Value}{d:DataW H}{p:List MemPlace}{r:Reach}(ht:Tryz.prog.underlying t=some (.struct fs)) (hk:kinds Tryz.prog n t=some ks)
  (hv:Value.okWide Tryz.prog W r b0 t v) (h:DataW.Trod enc Tryz.prog W 0 (fun _=>true) true t v d p) (hb:Rows.uptoBulk d≤1048576) :
  ∃ ds w,ds.length=ks.length∧(∀ (i:Nat) k,ks[i]?=some k→HasK 1048576 k (ds.getD i .any))∧(∀ es,CvL ds es→DR (baseC (stK W)) noMu (.agg es) w)∧VR (fun _=>none) w v:=by
 obtain ⟨cs,rfl,-⟩:=Go.WideShapes.okWide_struct ht hv
 obtain ⟨fuel,hf⟩:=h
 obtain ⟨ds,ws,a1,a2,a3,a4,a5⟩:=opn (B:=1048576) (bk:=Rows.uptoBulk) bulkOk (extOfL extK) n t ks hk fuel (Value.agg cs).cells.toList (d,p) hf (bulk_le hb)
 have a4:cs.size=ks.length:=by simpa [Value.cells] using a4
 have hw:ws.length=cs.size:=by rw [← a3.1,a1,a4]
 refine ⟨ds,.agg ws.toArray,a1,has_getD a2,fun es he=>?_,?_⟩
 ·have hd:=he.drl a3
  exact .agg _ _ (by simpa using hd.1) fun i d x h1 h2=>hd.2 i d x h1 (by simpa using h2)
 ·refine .agg _ _ (by simpa using hw) fun i u v h1 h2=>?_
  obtain ⟨u',e1,e2⟩:=a5 i v (by simpa [Value.cells] using h2)
  have:u=u':=by
   rw [List.getElem?_toArray,e1] at h1
   exact (Option.some.inj h1).symm
  subst this
  exact (stV_vr e2 _).1
end Go.Proofs.YtigmkgampfbflaaGreatDoor
namespace Go.Proofs.YtigmkgampfbflaaGreatDoor
open Go Go.AE Go.DE Go.RowKit Go.ChangeShapes Go.Joins
theorem own:ownKnob Tryz.prog.godebug=none:=by kernel_rfl
theorem laidOut:laidOutB Tryz.prog=true:=by kernel_rfl
theorem laidVar_of_mem {P:Program}{W:World}{n:String}{d:DataW Unit}:∀ {l:List (String×DataW Unit)}{ps:List MemPlace},DataW.LaidVars P W l ps→(n,d)∈l →
  ∃ g t cs fuel p,P.globalNamed n=some g∧(P.globals[g]?).map (·.type)=some t∧W.var? P n=some cs∧DataW.trod (fun _=>()) P W 0 (fun _=>true) false fuel t cs.toList=some (d,p)
 | [],_,_,hm=>by cases hm
 | (n',d') :: l,ps,h,hm=>by
  obtain ⟨g,t,cs,fuel,p,q,hg,ht,hv,hd,hr,_⟩:=h
  rcases List.mem_cons.1 hm with e | hm
  ·cases e
   exact ⟨g,t,cs,fuel,p,hg,ht,hv,hd⟩
  ·exact laidVar_of_mem hr hm
theorem tabIs_of_mem {P:Program}{W:World}{name:String}{k:IntKind}{zs:List Int}{l:List (String×DataW Unit)}{g:Nat}{t e:TypeId}{n:Nat}(hm:(name,Lib.tabData k zs)∈l)
  (hg:P.globalNamed name=some g) (hty:(P.globals[g]?).map (·.type)=some t) (ht:P.underlying t=some (.array n e)) (he:P.underlying e=some (.int k)) (hce:P.cellsOf e=1) (hct:P.cellsOf t=n)
  (h:laidMet P l W):Lib.TabIs P W name k zs:=by
 obtain ⟨ps,hv,_⟩:=h
 obtain ⟨g',t',cs,fuel,p,hg',ht',hvar,hd⟩:=laidVar_of_mem hv hm
 obtain rfl:=Option.some.inj (hg.symm.trans hg')
 obtain rfl:=Option.some.inj (hty.symm.trans ht')
 have hc:=Lib.cells_of_tab ht he hce hct hd
 unfold Lib.TabIs
 rw [hvar]
 refine congrArg some ?_
 cases cs
 simp only at hc
 rw [hc]
theorem codes_data:Rows.laid_narrator_attr_codes=(Lib.tabData .i64 [1,2,3,4,5,7,8,9]:DataW Unit):=by kernel_rfl
theorem gCodes:Tryz.prog.globalNamed "narrator/attr.codes"=some 3:=by kernel_rfl
set_option maxRecDepth 100000 in
theorem plainL:(Rows.terminalResizeUptoRow.laid.all fun x=>x.2.handleName?.isNone)=true:=by kernel_rfl
set_option maxRecDepth 100000 in
theorem codesL:Rows.terminalResizeUptoRow.laid[3]?=some ("narrator/attr.codes",Rows.laid_narrator_attr_codes):=by kernel_rfl
theorem table {W:World}(h:laidMetH Tryz.prog Rows.terminalResizeUptoRow.laid W):Lib.TabIs Tryz.prog W "narrator/attr.codes" .i64 [1,2,3,4,5,7,8,9]:=by
 rw [MakeChecks.laidMetH_plain _ _ _ plainL] at h
 have hm:=List.mem_of_getElem? codesL
 rw [codes_data] at hm
 obtain ⟨t,ht⟩:∃ t,(Tryz.prog.globals[3]?).map (·.type)=some t∧(∃ e,Tryz.prog.underlying t=some (.array 8 e)∧Tryz.prog.underlying e=some (.int .i64)∧Tryz.prog.cellsOf e=1)∧Tryz.prog.cellsOf t=8:=by
  refine ⟨((Tryz.prog.globals[3]?).map (·.type)).getD 0,?_,⟨(match Tryz.prog.underlying (((Tryz.prog.globals[3]?).map (·.type)).getD 0) with | some (.array _ e)=>e | _=>0),?_,?_,?_⟩,?_⟩<;>kernel_rfl
 obtain ⟨e,he⟩:=ht.2.1
 exact tabIs_of_mem hm (g:=3) gCodes ht.1 he.1 he.2.1 he.2.2 ht.2.2 h
set_option maxRecDepth 100000 in
theorem accL:Rows.terminalResizeUptoRow.laid[4]?=some ("unicode/utf8.acceptRanges",Rows.laid_unicode_utf8_acceptRanges):=by kernel_rfl
set_option maxRecDepth 100000 in
theorem firL:Rows.terminalResizeUptoRow.laid[5]?=some ("unicode/utf8.first",Rows.laid_unicode_utf8_first):=by kernel_rfl
theorem acc_data:(Rows.laid_unicode_utf8_acceptRanges:DataW Unit)=Lib.acceptData:=by kernel_rfl
theorem fir_data:Rows.laid_unicode_utf8_first=Lib.firstData:=by kernel_rfl
theorem u8X:U8Extra Tryz.prog Tryz.lays196_ren where
 n3:=by kernel_rfl
 n4:=by kernel_rfl
 y3:=by kernel_rfl
 y4:=by kernel_rfl
 c5:=by kernel_rfl
 c119:=by kernel_rfl
 c138:=by kernel_rfl
theorem utf8_tabs {W:World}(h:laidMetH Tryz.prog Rows.terminalResizeUptoRow.laid W):Lib.Utf8Tabs 0 1 W:=by
 rw [MakeChecks.laidMetH_plain _ _ _ plainL] at h
 have m4:=List.mem_of_getElem? accL
 have m5:=List.mem_of_getElem? firL
 rw [acc_data] at m4
 rw [fir_data] at m5
 exact utf8Tabs_of_readsT (.of196 Tryz.lays196) u8X (Lib.laidMet.reads h m5) (Lib.laidMet.reads h m4)
theorem stA_good {W:World}(h:laidMetH Tryz.prog Rows.terminalResizeUptoRow.laid W):GoodSt W stA:=by
 intro b i v hb
 have ht:=table h
 unfold Lib.TabIs World.var? at ht
 rw [gCodes] at ht
 simp only [Option.bind_some] at ht
 split at ht
 ·rename_i cs ty fr hw
  obtain rfl:=Option.some.inj ht
  have hc:∀ (j:Nat) (u:Value),(#[Value.int .i64 1,.int .i64 2,.int .i64 3,.int .i64 4,.int .i64 5,.int .i64 7,.int .i64 8,.int .i64 9]:Array Value)[j]?=some u→W.cell? ⟨3,j,none⟩=some u:=fun j u hu=>by
   unfold World.cell?
   simp only [hw,Option.isSome_none,Bool.false_eq_true,if_false]
   exact hu
  have key:∃ n:Int,v=.int .i64 n∧W.cell? ⟨b,i,none⟩=some (.int .i64 n):=by
   have hb:stC b i=some v:=hb
   unfold stC at hb
   split at hb<;>first | (cases hb; done) | skip
   unfold codesV at hb
   split at hb<;>first | (cases hb; done) | skip
   all_goals
    obtain rfl:=Option.some.inj hb
    exact ⟨_,rfl,hc _ _ rfl⟩
  obtain ⟨n,rfl,h2⟩:=key
  exact ⟨_,h2,fun ρ=>.int _ _⟩
 ·cases ht
theorem low_of {x:Tm}(h:x.ok) (l:x.low):tmLo x.cells:=⟨⟨rfl,h⟩,l⟩
theorem law_calls {H:Type}{enc:TypeId×Value→H}{W:World}{f:FuncId}{fn:Func}{F:ConF}{s:ChangeSpec}{args:Array Value}{ds gs:List (DataW H)}{before:List MemPlace}{dv:List DV}{vs:List Value}
  (hf:Tryz.prog.funcs[f]?=some fn) (hn:(fn.name== "runtime.NumGoroutine")=false) (hb:fn.body.isNone=false) (hres:fn.resultTypes=#[4]) (hread:∀ t∈fn.params.toList,Tryz.prog.readableRec t=true∧t<Tryz.prog.types.size)
  (hW:DataW.Whole enc Tryz.prog fn.params.toList s.vars false W args.toList ds gs before) (hv:s.vars=[]) (hfn:s.fn H (ds++[])={ results:=[.lit (.bool true)],args:=ds })
  (hT:GoodSt W stA) (hU:Lib.Utf8Tabs 0 1 W) {z:Bool}(hF:ConOkZ z Tryz.prog (stK W) f F) (hx:∀ k,k (fun _=>(.v (.bool true),[]))=some ()→F dv k=some ()) (ha:DRL (baseC (stK W)) noMu dv vs) (hvs:VRL (fun _=>none) vs args.toList) :
  Calls Tryz.prog f args W fun e W'=>∃ v,e=.returned v∧s.post enc Tryz.prog fn false true false false W args v W':=by
 have hc:=calls_of_con (w:=W) (stK_good W) (extK_ok hT hU) follows hf hn hb hF hx ha hvs (.refl _ _)
 rw [show args.toList.toArray=args by simp] at hc
 exact hc.mono fun e W' ⟨he,hb'⟩=>⟨_,he,post_true laidOut hread hW hv hfn hres Tryz.underlying4 hb'⟩
set_option maxRecDepth 100000 in
theorem contract (H:Type) (enc:TypeId×Value→H) (W:World) (base:Nat) (args:Array Value) (ds gs:List (DataW H)) (before:List MemPlace)
  (hval:∀ (j:Nat) t v,Tryz.f5.params[j]?=some t→args[j]?=some v→Value.okWide Tryz.prog W .any base t v)
  (hW:DataW.Whole enc Tryz.prog Tryz.f5.params.toList Rows.terminalResizeSpec.vars false W args.toList ds gs before) (hL:laidMetH Tryz.prog Rows.terminalResizeUptoRow.laid W) (hB:Rows.uptoSmall H (ds++gs)=true) :
  Calls Tryz.prog 5 args W fun e W'=>∃ v,e=.returned v∧Rows.terminalResizeSpec.post enc Tryz.prog Tryz.f5 false true false false W args v W':=by
 have hW':=hW
 obtain ⟨p,q,hA,hV,rfl,hfz,hnd⟩:=hW
 rw [Tryz.params5] at hA hval
 obtain ⟨v0,vs0,d0,ds0,p0,q0,hargs,rfl,rfl,h0,r0⟩:=trodAll_cons hA
 obtain ⟨v1,vs1,d1,ds1,p1,q1,e1,rfl,rfl,h1,r1⟩:=trodAll_cons r0
 obtain ⟨v2,vs2,d2,ds2,p2,q2,e2,rfl,rfl,h2,r2⟩:=trodAll_cons r1
 subst e1
 subst e2
 obtain ⟨rfl,rfl,rfl⟩:=trodAll_nil r2
 obtain rfl:args=#[v0,v1,v2]:=by cases args; simp_all
 have hB':Rows.uptoBulkAll (([d0,d1,d2]:List (DataW H))++gs)≤1048576:=of_decide_eq_true hB
 obtain ⟨ds,w0,l0,k0,dr0,vr0⟩:=open_struct Tryz.underlying38 trm_kinds (hval 0 38 v0 rfl rfl) h0 (Nat.le_trans (bulk_mem (by simp)) hB')
 obtain ⟨n1,rfl⟩:=Go.WideShapes.okWide_int (k:=.i64) Tryz.underlying3 (hval 1 3 v1 rfl rfl)
 obtain ⟨n2,rfl⟩:=Go.WideShapes.okWide_int (k:=.i64) Tryz.underlying3 (hval 2 3 v2 rfl rfl)
 refine law_calls (dv:=[.agg (tmOf ds).cells,iv n1,iv n2]) Tryz.func5 rfl rfl (by kernel_rfl) ?_ hW' rfl rfl (stA_good hL) (utf8_tabs hL) (la5C_ok (hxK W) (vdK W) (hkK W) (awC_ok W))
  (fun k hk=>hT (low_of (tm_ok k0) (tm_low k0)) hk) (.cons (dr0 _ (tm_cv l0 k0)) (.cons (.v _ rfl) (.cons (.v _ rfl) (.nil _ _)))) (.cons vr0 (.cons (.int _ _) (.cons (.int _ _) (.nil _))))
 rw [Tryz.params5]
 intro t ht
 have ht:t=38∨t=3∨t=3:=by simpa using ht
 rcases ht with rfl | rfl | rfl
 ·exact ⟨by kernel_rfl,by decide +kernel⟩
 ·exact ⟨by kernel_rfl,by decide +kernel⟩
 ·exact ⟨by kernel_rfl,by decide +kernel⟩
theorem witness_laid {H:Type}{enc:TypeId×Value→H}{os:Os}{f:FuncId}{fn:Func}{s:OpenSpec}{conds:List PathCond}{laid:List (String×DataW Unit)}(args:Array Value)
  (hsh:((World.laidAll Tryz.prog os laid).forCall (fun _ _=>0) ⟨#[],args,[]⟩).Shaped Tryz.prog)
  (hok:Input.okWideB Tryz.prog ((World.laidAll Tryz.prog os laid).forCall (fun _ _=>0) ⟨#[],args,[]⟩) f ⟨#[],args,[]⟩=true)
  (hrow:s.preRow enc Tryz.prog fn conds false laid ((World.laidAll Tryz.prog os laid).forCall (fun _ _=>0) ⟨#[],args,[]⟩).memory args) :
  ∃ (w:World) (tape:Tape) (i:Input),w.os=os∧(w.forCall tape i).Shaped Tryz.prog∧i.vars=[]∧Input.okWide Tryz.prog (w.forCall tape i) .any w.heap.size f i ∧
   s.preRow enc Tryz.prog fn conds false laid (w.forCall tape i).memory i.args∧({ modest:=false }:Assume).holds Tryz.prog (lone (Frame.enter Tryz.prog f i.args .normal) [] (w.forCall tape i)) :=
 ⟨World.laidAll Tryz.prog os laid,fun _ _=>0,⟨#[],args,[]⟩,World.laidAll_os _ _ _,hsh,(Input.okWide_of_okWideB (base:=0) hok).1,(Input.okWide_of_okWideB hok).2,hrow,by
  simp only [Assume.holds]
  exact ⟨by simp,by simp,fun _=>Modest.zero,by simp,by simp⟩⟩
def wargs:Array Value:=#[.agg #[.int .i64 0,.int .i64 0,.slice none 0 0,.int .i64 0,.int .i64 0,.slice none 0 0,.int .i64 0,.int .i64 0,.bool false,.int .i64 0,.int .i64 0,.bool false,.int .i64 0,.int .i64 0,.int .i64 0,.bool false,.int .u8 0,.int .u8 0,.int .i64 0,.int .i64 0,.int .i64 0,.int .i64 0,.bool false,.bool false,.bool false,.bool false,.bool false,.bool false,.bool false,.bool false,.int .u8 0,.int .u8 0,.int .i64 0,.int .i64 0,.int .i64 0,.slice none 0 0,.slice none 0 0,.int .i64 0,.string ⟨#[]⟩,.string ⟨#[]⟩,.string ⟨#[]⟩,.string ⟨#[]⟩],.int .i64 0,.int .i64 0]
set_option maxRecDepth 100000 in
theorem laid_met (os:Os):laidMetH Tryz.prog Rows.terminalResizeUptoRow.laid ((World.laidAll Tryz.prog os Rows.terminalResizeUptoRow.laid).forCall (fun _ _=>0) ⟨#[],wargs,[]⟩).memory:=by
 rw [MakeChecks.laidMetH_plain _ _ _ plainL]
 exact laidMet_laidAll _ (by kernel_rfl) (by kernel_rfl)
set_option maxRecDepth 100000 in
theorem shaped (os:Os):((World.laidAll Tryz.prog os Rows.terminalResizeUptoRow.laid).forCall (fun _ _=>0) ⟨#[],wargs,[]⟩).Shaped Tryz.prog:=World.shaped_of_ZipB (by kernel_rfl) (by kernel_rfl)
set_option maxRecDepth 100000 in
theorem reads (os:Os) {H:Type}(enc:TypeId×Value→H):∃ places,DataW.whole enc Tryz.prog ((World.laidAll Tryz.prog os Rows.terminalResizeUptoRow.laid).forCall (fun _ _=>0) ⟨#[],wargs,[]⟩).memory Tryz.f5.params.toList Rows.terminalResizeSpec.vars false wargs.toList 8 =
  some ([.agg [.agg [.lit (.int .i64 0),.lit (.int .i64 0),.nil],.agg [.lit (.int .i64 0),.lit (.int .i64 0),.nil],.agg [.lit (.int .i64 0),.lit (.int .i64 0),.lit (.bool false)],.agg [.agg [.lit (.int .i64 0),.lit (.int .i64 0),.lit (.bool false)],.agg [.lit (.int .i64 0),.lit (.int .i64 0),.lit (.int .i64 0)],.lit (.bool false),.agg [.lit (.int .u8 0),.lit (.int .u8 0)],.lit (.int .i64 0)],.agg [.lit (.int .i64 0),.lit (.int .i64 0),.lit (.int .i64 0)],.agg [.lit (.bool false),.lit (.bool false),.lit (.bool false),.lit (.bool false),.lit (.bool false),.lit (.bool false),.lit (.bool false),.lit (.bool false),.agg [.lit (.int .u8 0),.lit (.int .u8 0)],.lit (.int .i64 0)],.lit (.int .i64 0),.lit (.int .i64 0),.nil,.nil,.agg [.lit (.int .i64 0),.lit (.string []),.lit (.string [])],.lit (.string []),.lit (.string [])],.lit (.int .i64 0),.lit (.int .i64 0)],[],places) :=
 ⟨[],by kernel_rfl⟩
set_option maxRecDepth 100000 in
theorem lifted (os:Os) (started:os.Started) (H:Type) (enc:TypeId×Value→H) (F:Stop.Interp) :
  ReturnsInHanded {} Tryz.checked os 5 .any ((Rows.OpenSpec.upto Rows.terminalResizeSpec).preRow enc Tryz.prog Tryz.f5 Rows.terminalResizeUptoRow.domain false Rows.terminalResizeUptoRow.laid) (((Rows.OpenSpec.upto Rows.terminalResizeSpec).at F).post enc Tryz.prog Tryz.f5 false true false false):=by
 obtain ⟨places,hx⟩:=reads os enc
 refine returnsInHanded_of_row (C:=Tryz.checked) (s:=Rows.OpenSpec.upto Rows.terminalResizeSpec) own started (by kernel_rfl) Tryz.func5
  (witness_laid (enc:=enc) wargs (shaped os) (by kernel_rfl) (OpenSpec.preRow_of_cond 8 hx (by kernel_rfl) (fun k hk=>by cases hk; kernel_rfl) (by kernel_rfl) (laid_met os))) ?_
 intro W base args ds gs before hval hW _ hcond _ hL _ _
 exact contract H enc W base args ds gs before hval hW hL (hcond _ rfl)
end Go.Proofs.YtigmkgampfbflaaGreatDoor
namespace Go.Proofs.YtigmkgampfbflaaGreatDoor
open Go Go.AE Go.DE Go.RowKit Go.ChangeShapes Go.Joins
theorem fact1:(Rows.terminalResizeUptoRow.inPlace==Tryz.pinned.checked.prog.inPlace 5)=true:=by kernel_rfl
theorem fact2:(Rows.terminalResizeUptoRow.unfollowed==Tryz.pinned.checked.prog.unfollowed 5)=true:=by kernel_rfl
theorem fact3:(Rows.terminalResizeUptoRow.recurses==Tryz.pinned.checked.prog.recurses 5)=true:=by kernel_rfl
theorem fact4:(Rows.terminalResizeUptoRow.named==Tryz.pinned.checked.prog.varsNamed 5)=true:=by kernel_rfl
theorem closed:joinedFacts Tryz.pinned.checked.prog 5 Tryz.f5 (Rows.OpenSpec.upto Rows.terminalResizeSpec).bare Rows.terminalResizeUptoRow=true:=by
 unfold joinedFacts
 rw [fact1,fact2,fact3,fact4]
 kernel_rfl
theorem said:Rows.TerminalResizeUptoSaid :=
 OpenClaim.holds_of_cond 5 Tryz.f5 rfl rfl rfl rfl rfl rfl rfl ⟨rfl,rfl,rfl,rfl,rfl⟩ rfl rfl rfl rfl rfl (by kernel_rfl) Tryz.func5 closed
  (of_decide_eq_true (by kernel_rfl)) (by unfold Func.isWrapper; first | (rw [if_pos (by decide +kernel)]; kernel_rfl) | (rw [if_neg (by decide +kernel)]; exact ⟨rfl,rfl⟩))
  (fun os started H enc _ F=>by rw [OpenClaim.pre_eq_preRow]; exact lifted os started H enc F)
theorem plain (f:FuncId) (fn:Func) (hf:Tryz.pinned.checked.prog.funcNamed "narrator/narratorlaw13.TerminalResize"=some f) (hfn:Tryz.pinned.checked.prog.funcs[f]?=some fn) :
  false=Tryz.pinned.checked.prog.looks []∧∀ (j:Nat) t,fn.params[j]?=some t→Tryz.pinned.checked.prog.wantsStandIn t=false:=by
 obtain rfl:f=5:=Option.some.inj ((show Tryz.prog.funcNamed "narrator/narratorlaw13.TerminalResize"=some 5 by kernel_rfl).symm.trans hf) |>.symm
 obtain rfl:fn=Tryz.f5:=(Option.some.inj (Tryz.func5.symm.trans hfn)).symm
 refine ⟨by kernel_rfl,fun j t ht=>?_⟩
 rw [Tryz.params5] at ht
 have ht:t=38∨t=3∨t=3:=by simpa using Array.mem_of_getElem? ht
 rcases ht with rfl | rfl | rfl
 ·show Tryz.prog.wantsStandIn _=false
  kernel_rfl
 ·show Tryz.prog.wantsStandIn _=false
  kernel_rfl
 ·show Tryz.prog.wantsStandIn _=false
  kernel_rfl
theorem card:Rows.TerminalResizeUptoCardSaid :=
 Claim7.holds_tied_plain_at .later [] _ _ _ _ said (fun _ h=>by cases h) (by kernel_rfl) (fun _ h=>by cases h) terminalResizeUpto_row_tie rfl ⟨rfl,rfl⟩ (by kernel_rfl) rfl plain (by kernel_rfl)
#print axioms card
end Go.Proofs.YtigmkgampfbflaaGreatDoor
