/-
 The rounds of TerminalScrollback's loops as the evaluator runs them.
 Conditions: none beyond those of the contracts.
-/
import Derived.Test.YtigmkgampfbflaaGreatDoorJSs
import Derived.Test.YtigmkgampfbflaaGreatDoorJAwk
import Derived.Test.YtigmkgampfbflaaGreatDoorDeDrw
import Derived.Shelf.LaysM
import Derived.Shelf.Unicode.ValidAny
import Derived.Ground.SlgnProg
import Derived.Test.YtigmkgampfbflaaGreatDoorProg
import Derived.Test.YtigmkgampfbflaaGreatDoorAeMpg
import Derived.Test.YtigmkgampfbflaaGreatDoorCards
import Derived.Test.YtigmkgampfbflaaGreatDoorTie
import Derived.Lay
import Derived.Lib.LaidTab
import Derived.Lib.SmallJoins
import Derived.WalkKit
import Derived.MakeChecks
import Derived.Deep.DeepHandedRow
import Derived.ChangeMaps5
namespace Go.Proofs.YtigmkgampfbflaaGreatDoor
open Go Go.AE Go.DE Go.RowKit
def strS (L:Nat->ByteArray):Nat->Nat->DV:=fun i _=>sv (L i)
noncomputable def nbC (Q:Int->Int->Prop) (y:WB):ConF:=fun args k=>match args with
 | [.v (.int .i64 w),.v (.int .i64 h)]=>bif holds (Q w h) then k (fun _=>(.tup [.agg y.cells,iv 0],[])) else none
 | _=>none
noncomputable def wzC (Q:List DV->ByteArray->Prop) (Z:ByteArray->WB):ConF:=fun args k=>match args with
 | [.agg l,.v (.string s)]=>bif holds (Q l s) then k (fun _=>(.agg (Z s).cells,[])) else none
 | _=>none
theorem ln_loop (t:Bool) (L W:Nat->ByteArray) (n i:Nat) (h:Nat) (y:WB) (P:ByteArray->ByteArray) (Q:List DV->ByteArray->Prop) (Z:ByteArray->WB) (Q4:ByteArray->Int->Prop) (Rp:ByteArray->Int->ByteArray) (K:Ex->Nat->List DV->List DV->DHeap->Option Unit):execD Tryz.prog (envZ [(23,pnC P),(13,aw0C),(14,wzC Q Z),(25,rpC Q4 Rp)] noLp 0) (loopAt Tryz.f8 506) 500 (temps 114 [1,5,6,8,30,31,32] [.sl t (strS L) 1 n,iv h,.po 0 0 0,.os 2 0 i,.sl t (strS L) 1 n,iv n,iv i]) [some ⟨42,.lst [y.cells]⟩,none,some ⟨1,.tab i (strS W)⟩] (fun e τ σ=>K e τ.length (pick [1,5,6,8,30,31,32] τ) (pick [1,4,5,6,8] τ) σ) =
  bif decide ((i:Int)<(n:Int)) then bif decide ((i:Int)<(n:Int)) then bif decide (tN i<n) then bif decide (ByteArray.size (L (tN i))<=9000000) then bif decide ((↑(ByteArray.size (P (L (tN i)))):Int) > 19)
  then K .ret 114 [.sl t (fun a _=>sv (L a)) 1 n,iv (h:Int),.po 0 0 0,.os 2 0 i,.sl t (fun a _=>sv (L a)) 1 n,iv (n:Int),iv (i:Int)] [.sl t (fun a _=>sv (L a)) 1 n,bv true,iv (h:Int),.po 0 0 0,.os 2 0 i] [some ⟨42,.lst [(WB.cells y)]⟩,none,some ⟨1,.tab i fun a _=>sv (W a)⟩]
  else bif decide ((i:Int) > 0) then bif holds (Q (WB.cells y) { data:=#[(13:UInt8),(10:UInt8)] }) then bif holds (Q (WB.cells (Z { data:=#[(13:UInt8),(10:UInt8)] })) (P (L (tN i))))
  then bif holds (Q4 { data:=#[(32:UInt8)] } (IntKind.wrap .i64 (20-(↑(ByteArray.size (P (L (tN i)))):Int)))) then bif decide (ByteArray.size (P (L (tN i)))+ByteArray.size (Rp { data:=#[(32:UInt8)] } (IntKind.wrap .i64 (20-(↑(ByteArray.size (P (L (tN i)))):Int))))<=9223372036854775807)
  then bif decide (i<=DC.n (.tab i (strS W))) then bif decide ((i+1)*(16:Nat)<=140737488355328) then K .normal 114 [.sl t (fun a _=>sv (L a)) 1 n,iv (h:Int),.po 0 0 0,.os 4 0 (i+1),.sl t (fun a _=>sv (L a)) 1 n,iv (n:Int),iv (IntKind.wrap .i64 ((i:Int)+1))] [.sl t (fun a _=>sv (L a)) 1 n,DV.any,iv (h:Int),.po 0 0 0,.os 4 0 (i+1)] [some ⟨42,updF (updF (.lst [(WB.cells y)]) 0 (WB.cells (Z { data:=#[(13:UInt8),(10:UInt8)] }))) 0 (WB.cells (Z (P (L (tN i)))))⟩,none,none,some ⟨1,.lst [[sv (P (L (tN i))++Rp { data:=#[(32:UInt8)] } (IntKind.wrap .i64 (20-(↑(ByteArray.size (P (L (tN i)))):Int))))]]⟩,some ⟨1,.app (.pre (.tab i fun a _=>sv (W a)) i) (.lst [[sv (P (L (tN i))++Rp { data:=#[(32:UInt8)] } (IntKind.wrap .i64 (20-(↑(ByteArray.size (P (L (tN i)))):Int))))]])⟩]
  else none else none else none else none else none else none else bif holds (Q (WB.cells y) (P (L (tN i)))) then bif holds (Q4 { data:=#[(32:UInt8)] } (IntKind.wrap .i64 (20-(↑(ByteArray.size (P (L (tN i)))):Int))))
  then bif decide (ByteArray.size (P (L (tN i)))+ByteArray.size (Rp { data:=#[(32:UInt8)] } (IntKind.wrap .i64 (20-(↑(ByteArray.size (P (L (tN i)))):Int))))<=9223372036854775807) then bif decide (i<=DC.n (.tab i (strS W)))
  then bif decide ((i+1)*(16:Nat)<=140737488355328) then K .normal 114 [.sl t (fun a _=>sv (L a)) 1 n,iv (h:Int),.po 0 0 0,.os 4 0 (i+1),.sl t (fun a _=>sv (L a)) 1 n,iv (n:Int),iv (IntKind.wrap .i64 ((i:Int)+1))] [.sl t (fun a _=>sv (L a)) 1 n,DV.any,iv (h:Int),.po 0 0 0,.os 4 0 (i+1)] [some ⟨42,updF (.lst [(WB.cells y)]) 0 (WB.cells (Z (P (L (tN i)))))⟩,none,none,some ⟨1,.lst [[sv (P (L (tN i))++Rp { data:=#[(32:UInt8)] } (IntKind.wrap .i64 (20-(↑(ByteArray.size (P (L (tN i)))):Int))))]]⟩,some ⟨1,.app (.pre (.tab i fun a _=>sv (W a)) i) (.lst [[sv (P (L (tN i))++Rp { data:=#[(32:UInt8)] } (IntKind.wrap .i64 (20-(↑(ByteArray.size (P (L (tN i)))):Int))))]])⟩]
  else none else none else none else none else none else none else none else none else K (.exit 0) 114 [.sl t (fun a _=>sv (L a)) 1 n,iv (h:Int),.po 0 0 0,.os 2 0 i,.sl t (fun a _=>sv (L a)) 1 n,iv (n:Int),iv (i:Int)] [.sl t (fun a _=>sv (L a)) 1 n,DV.any,iv (h:Int),.po 0 0 0,.os 2 0 i] [some ⟨42,.lst [(WB.cells y)]⟩,none,some ⟨1,.tab i fun a _=>sv (W a)⟩]:=by
 kernel_rfl
end Go.Proofs.YtigmkgampfbflaaGreatDoor
namespace Go.Proofs.YtigmkgampfbflaaGreatDoor
open Go Go.AE Go.DE Go.RowKit
def wantS (s:ByteArray):ByteArray:=pnF s++rpF ⟨#[32]⟩ (IntKind.i64.wrap (20-((pnF s).size:Int)))
def shortB (L:Nat->ByteArray):Nat->Nat->Bool
 | 0,_=>true
 | m+1,i=>bif decide (((pnF (L i)).size:Int) > 19) then false else shortB L m (i+1)
noncomputable def lnI (t:Bool) (L:Nat->ByteArray) (n h:Nat) (b:Bool) (y0 z:WB):LInv (Nat×WB) where
 pre x:=x.1<=n/\n<=12/\1<=h/\h<=8/\(∀ j,j<n->(L j).size<=9000000)/\LnOk h x.1 (fun j=>pnF (L j)) x.2/\(b=true->finY (fun j=>pnF (L j)) (n-x.1) x.1 x.2=z)/\shortB L (n-x.1) x.1=b
 m:=2
 n:=114
 ps:=[1,5,6,8,30,31,32]
 sd x:=[.sl t (strS L) 1 n,iv h,.po 0 0 0,.os 2 0 x.1,.sl t (strS L) 1 n,iv n,iv x.1]
 sh x:=[some ⟨42,.lst [x.2.cells]⟩,none,some ⟨1,.tab x.1 (strS fun j=>wantS (L j))⟩]
 meas x:=n-x.1
 e _:=be b
 qs:=[1,4,5,6,8]
 od _:=match b with
  | true=>[.sl t (strS L) 1 n,.any,iv h,.po 0 0 0,.os 2 0 n]
  | false=>[.any,bv true,.any,.any,.any]
 oh _:=match b with
  | true=>[some ⟨42,.lst [z.cells]⟩,none,some ⟨1,.tab n (strS fun j=>wantS (L j))⟩]
  | false=>[none,none]
 guess _ _:=some (0,y0)
 cps _ k:=bif holds (b=true) then k (.exit 0) [.sl t (strS L) 1 n,.any,iv h,.po 0 0 0,.os 2 0 n] [some ⟨42,.lst [z.cells]⟩,none,some ⟨1,.tab n (strS fun j=>wantS (L j))⟩] else k .ret [.any,bv true,.any,.any,.any] [none,none]
noncomputable def gaI (F:Row->ByteArray) (Q:(Nat->Nat->DV)->Nat->Prop) (t:Bool) (L:Nat->ByteArray) (n h:Nat) (z:WB) (A:Nat->Row) (m:Nat):LInv Nat where
 pre i:=i<=m/\m<=20/\∀ j,j<m->Q (A j).cell (A j).n
 m:=7
 n:=114
 ps:=[1,5,6,8,11,68,69,70]
 sd i:=[.sl t (strS L) 1 n,iv h,.po 0 0 0,.os 2 0 n,.os 7 0 i,.os 6 0 m,iv m,iv i]
 sh i:=[some ⟨42,.lst [z.cells]⟩,none,some ⟨1,.tab n (strS fun j=>wantS (L j))⟩,none,none,none,some ⟨1,.tab m (rowsD (fun _=>false) A)⟩,some ⟨1,.tab i (strS fun j=>F (A j))⟩]
 meas i:=m-i
 e _:=.exit 2
 qs:=[1,5,6,8,11]
 od _:=[.sl t (strS L) 1 n,iv h,.po 0 0 0,.os 2 0 n,.os 7 0 m]
 oh _:=[some ⟨42,.lst [z.cells]⟩,none,some ⟨1,.tab n (strS fun j=>wantS (L j))⟩,none,none,none,none,some ⟨1,.tab m (strS fun j=>F (A j))⟩]
 guess _ _:=some 0
 cps _ k:=k (.exit 2) [.sl t (strS L) 1 n,iv h,.po 0 0 0,.os 2 0 n,.os 7 0 m] [some ⟨42,.lst [z.cells]⟩,none,some ⟨1,.tab n (strS fun j=>wantS (L j))⟩,none,none,none,none,some ⟨1,.tab m (strS fun j=>F (A j))⟩]
theorem ga_loop (F:Row->ByteArray) (Q:(Nat->Nat->DV)->Nat->Prop) (t:Bool) (L:Nat->ByteArray) (n h:Nat) (b0 b1:DBlk) (A:Nat->Row) (m i:Nat) (K:Ex->Nat->List DV->List DV->DHeap->Option Unit):execD Tryz.prog (envZ [(24,txC Q F)] noLp 0) (loopAt Tryz.f8 2042) 500 (temps 114 [1,5,6,8,11,68,69,70] [.sl t (strS L) 1 n,iv h,.po 0 0 0,.os 2 0 n,.os 7 0 i,.os 6 0 m,iv m,iv i]) [some b0,none,some b1,none,none,none,some ⟨1,.tab m (rowsD (fun _=>false) A)⟩,some ⟨1,.tab i (strS fun j=>F (A j))⟩] (fun e τ σ=>K e τ.length (pick [1,5,6,8,11,68,69,70] τ) (pick [1,5,6,8,11] τ) σ) =
  bif decide ((i:Int)<(m:Int)) then bif decide ((i:Int)<(m:Int)) then bif decide (0+tN i<m) then bif holds (Q (Row.cell (A (0+tN i))) (Row.n (A (0+tN i)))) then bif decide (i<=DC.n (.tab i (strS fun j=>F (A j))))
  then bif decide ((i+1)*(16:Nat)<=140737488355328) then K .normal 114 [.sl t (fun a _=>sv (L a)) 1 n,iv (h:Int),.po 0 0 0,.os 2 0 n,.os 9 0 (i+1),.os 6 0 m,iv (m:Int),iv (IntKind.wrap .i64 ((i:Int)+1))] [.sl t (fun a _=>sv (L a)) 1 n,iv (h:Int),.po 0 0 0,.os 2 0 n,.os 9 0 (i+1)] [some b0,none,some b1,none,none,none,some ⟨1,.tab m (rowsD (fun _=>false) A)⟩,none,some ⟨1,.lst [[sv (F (rowOf (Row.cell (A (0+tN i))) (Row.n (A (0+tN i)))))]]⟩,some ⟨1,.app (.pre (.tab i fun a _=>sv (F (A a))) i) (.lst [[sv (F (rowOf (Row.cell (A (0+tN i))) (Row.n (A (0+tN i)))))]])⟩]
  else none else none else none else none else none else K (.exit 2) 114 [.sl t (fun a _=>sv (L a)) 1 n,iv (h:Int),.po 0 0 0,.os 2 0 n,.os 7 0 i,.os 6 0 m,iv (m:Int),iv (i:Int)] [.sl t (fun a _=>sv (L a)) 1 n,iv (h:Int),.po 0 0 0,.os 2 0 n,.os 7 0 i] [some b0,none,some b1,none,none,none,some ⟨1,.tab m (rowsD (fun _=>false) A)⟩,some ⟨1,.tab i fun a _=>sv (F (A a))⟩]:=by
 kernel_rfl
noncomputable def cmI (G W:Nat->ByteArray) (n m:Nat):LInv Nat where
 pre i:=i<=n/\n<=m/\m<=20/\∀ j,j<n->G j=W j
 m:=8
 n:=114
 ps:=[11,99,100,101]
 sd i:=[.os 7 0 m,.os 2 0 n,iv n,iv i]
 sh _:=[none,none,some ⟨1,.tab n (strS W)⟩,none,none,none,none,some ⟨1,.tab m (strS G)⟩]
 meas i:=n-i
 e _:=.exit 4
 qs:=[]
 od _:=[]
 oh _:=[none,none,none,none,none,none,none,none]
 guess _ _:=some 0
 cps _ k:=k (.exit 4) [] [none,none,none,none,none,none,none,none]
theorem cm_loop (G W:Nat->ByteArray) (n m i:Nat) (K:Ex->Nat->List DV->List DV->DHeap->Option Unit):execD Tryz.prog (envZ [] noLp 0) (loopAt Tryz.f8 8186) 500 (temps 114 [11,99,100,101] [.os 7 0 m,.os 2 0 n,iv n,iv i]) [none,none,some ⟨1,.tab n (strS W)⟩,none,none,none,none,some ⟨1,.tab m (strS G)⟩] (fun e τ σ=>K e τ.length (pick [11,99,100,101] τ) (pick [] τ) σ) =
  bif decide ((i:Int)<(n:Int)) then bif decide ((i:Int)<(n:Int)) then bif decide (0+tN i<n) then bif decide ((i:Int)<(m:Int)) then bif decide (0+tN i<m) then bif !ByteArray.toList (G (0+tN i))==ByteArray.toList (W (0+tN i))
  then K .ret 114 [.os 7 0 m,.os 2 0 n,iv (n:Int),iv (i:Int)] [] [none,none,some ⟨1,.tab n fun a _=>sv (W a)⟩,none,none,none,none,some ⟨1,.tab m fun a _=>sv (G a)⟩] else K .normal 114 [.os 7 0 m,.os 2 0 n,iv (n:Int),iv (IntKind.wrap .i64 ((i:Int)+1))] [] [none,none,some ⟨1,.tab n fun a _=>sv (W a)⟩,none,none,none,none,some ⟨1,.tab m fun a _=>sv (G a)⟩]
  else none else none else none else none else K (.exit 4) 114 [.os 7 0 m,.os 2 0 n,iv (n:Int),iv (i:Int)] [] [none,none,some ⟨1,.tab n fun a _=>sv (W a)⟩,none,none,none,none,some ⟨1,.tab m fun a _=>sv (G a)⟩]:=by
 kernel_rfl
noncomputable abbrev sgE (F:Row->ByteArray) (Q:(Nat->Nat->DV)->Nat->Prop) (t:Bool) (L:Nat->ByteArray) (n h:Nat) (z:WB) (A:Nat->Row) (m:Nat):Env Unit:=envZ [] (lpOf [(2042,(gaI F Q t L n h z A m).g)]) 0
theorem sl_tree (x:Int) (t:Bool) (L:Nat->ByteArray) (n h:Nat) (b:Bool) (y z:WB) (A:Nat->Row) (m:Nat) (F:Row->ByteArray) (Q:(Nat->Nat->DV)->Nat->Prop) (Q1:Int->Int->Prop) (k:DV->Option Unit):bodyD Tryz.prog (envZ [(13,aw0C),(18,nbC Q1 y)] (lpOf [(506,(lnI t L n h b y z).g),(510,segD Tryz.prog (sgE F Q t L n h z A m) 510 (pieceOf Tryz.f8 510)),(8186,(cmI (fun j=>F (A j)) (fun j=>wantS (L j)) n m).g)]) 0) Tryz.f8 [kv .u8 x,.sl t (strS L) 1 n] [] (fun d _=>k d) =
  bif decide ((n:Int) > 12) then k (bv true) else bif holds (Q1 20 (IntKind.wrap .i64 (Int.tmod (IntKind.wrap .i64 x) 8+1))) then bif decide (0<WB.h y) then bif decide (0<WB.h y) then bif holds ((Nat.le 0 n/\Nat.le n 12/\Nat.le 1 h/\Nat.le h 8/\(∀ (j:Nat),j<n->Nat.le (ByteArray.size (L j)) 9000000)/\LnOk h 0 (fun j=>pnF (L j)) y/\(b=true->finY (fun j=>pnF (L j)) (n-0) 0 y=z)/\shortB L (n-0) 0=b)/\∃ ids,WkP (LInv.m (lnI t L n h b y z)) ids [.sl t (fun a _=>sv (L a)) 1 n,iv (IntKind.wrap .i64 (Int.tmod (IntKind.wrap .i64 x) 8+1)),.po 0 0 0,.os 1 0 0,.sl t (fun a _=>sv (L a)) 1 n,iv (n:Int),iv 0] [some ⟨42,updF (.lst [zeroL]) 0 (WB.cells y)⟩,some ⟨1,.lst []⟩] [.sl t (fun a _=>sv (L a)) 1 n,iv (h:Int),.po 0 0 0,.os 2 0 0,.sl t (fun a _=>sv (L a)) 1 n,iv (n:Int),iv 0] [some ⟨42,.lst [(WB.cells y)]⟩,none,some ⟨1,.tab 0 fun a _=>sv (wantS (L a))⟩])
  then bif holds (b=true) then bif decide ((0+WB.n z)*(24:Nat)<=140737488355328) then bif decide (0+WB.n z<=DC.n (appC (DBlk.c (blockOf 1 (zerosD [DV.v (Value.slice none 0 0)] 0))) 0 (.tab (WB.n z) (backD (WB.B z)))))
  then bif decide ((0+WB.n z+WB.h z)*(24:Nat)<=140737488355328) then bif holds ((Nat.le 0 m/\Nat.le m 20/\∀ (j:Nat),j<m->Q (Row.cell (A j)) (Row.n (A j)))/\∃ ids,WkP (LInv.m (gaI F Q t L n h z A m)) ids [.sl t (fun a _=>sv (L a)) 1 n,iv (h:Int),.po 0 0 0,.os 2 0 n,.os 3 0 0,.os 6 0 (0+WB.n z+WB.h z),iv (↑(0+WB.n z+WB.h z):Int),iv 0] [some ⟨42,.lst [(WB.cells z)]⟩,none,some ⟨1,.tab n fun a _=>sv (wantS (L a))⟩,some ⟨1,.lst []⟩,none,none,some ⟨1,.app (.pre (.app (.pre (.lst []) 0) (.tab (WB.n z) (backD (WB.B z)))) (0+WB.n z)) (.tab (WB.h z) (rowsD (fun _=>false) (TS.R (WB.x z))))⟩] [.sl t (fun a _=>sv (L a)) 1 n,iv (h:Int),.po 0 0 0,.os 2 0 n,.os 7 0 0,.os 6 0 m,iv (m:Int),iv 0] [some ⟨42,.lst [(WB.cells z)]⟩,none,some ⟨1,.tab n fun a _=>sv (wantS (L a))⟩,none,none,none,some ⟨1,.tab m (rowsD (fun _=>false) A)⟩,some ⟨1,.tab 0 fun a _=>sv (F (A a))⟩])
  then bif (↑(WB.n z):Int) != if IntKind.wrap .i64 ((n:Int)-(h:Int)) > 0 then IntKind.wrap .i64 ((n:Int)-(h:Int)) else 0 then k (bv false) else bif (m:Int) != IntKind.wrap .i64 ((↑(WB.n z):Int)+(h:Int))
  then k (bv false) else bif holds ((Nat.le 0 n/\Nat.le n m/\Nat.le m 20/\∀ (j:Nat),j<n->(fun j=>F (A j)) j=(fun j=>wantS (L j)) j)/\∃ ids,WkP (LInv.m (cmI (fun j=>F (A j)) (fun j=>wantS (L j)) n m)) ids [.os 7 0 m,.os 2 0 n,iv (n:Int),iv 0] [some ⟨42,.lst [(WB.cells z)]⟩,none,some ⟨1,.tab n (strS fun j=>wantS (L j))⟩,none,none,none,none,some ⟨1,.tab m (strS fun j=>F (A j))⟩] [.os 7 0 m,.os 2 0 n,iv (n:Int),iv 0] [none,none,some ⟨1,.tab n fun a _=>sv (wantS (L a))⟩,none,none,none,none,some ⟨1,.tab m fun a _=>sv (F (A a))⟩])
  then k (bv true) else none else none else none else none else none else k (bv true) else none else none else none else none:=by
 kernel_rfl
end Go.Proofs.YtigmkgampfbflaaGreatDoor
namespace Go.Proofs.YtigmkgampfbflaaGreatDoor
open Go Go.AE Go.DE Go.RowKit
theorem lp_tabZ {P:Program}{st:AE.Stat}{gl:DE.Gl}{fn:Func}{z:Bool}:∀ {t:List (Nat×LoopD Unit)},(∀ e∈t,∃ c,pieces fn e.1=[c]/\LoopSR z P st gl c e.2)->∀ x∈loopsOf fn,∀ g,lpOf t x.1=some g->LoopSR z P st gl x.2 g
 | [],_,x,_,g,hg=>by cases hg
 | (p,g0) :: r,h,x,hx,g,hg=>by
  unfold lpOf at hg;split at hg
  ·rename_i e;have e:=Nat.eq_of_beq_eq_true e;obtain rfl:=Option.some.inj hg
   obtain ⟨c,h1,h2⟩:=h (p,g0) (by simp)
   have hm:=pieces_mem (fn:=fn) (p:=x.1) (c:=x.2) hx;rw [e,h1] at hm
   obtain rfl:x.2=c:=by simpa using hm
   exact h2
  ·exact lp_tabZ (fun e he=>h e (by simp [he])) x hx g hg
theorem hFn {p:Prop}{a b:Option Unit}(h:¬ p) (hb:b=some ()):(bif holds p then a else b)=some ():=by
 cases e:holds p with
 | true=>exact absurd (holds_eq.1 e) h
 | false=>exact hb
theorem cells_clo (y:WB) {f:Nat}(hf:f<42):Clo (y.cells.getD f .any):=by
 match f,hf with
 | 2,_ | 5,_ | 35,_ | 36,_=>exact .sl _ _ _ _
 | 0,_ | 1,_ | 3,_ | 4,_ | 6,_ | 7,_ | 8,_ | 9,_ | 10,_ | 11,_ | 12,_ | 13,_ | 14,_ | 15,_ | 16,_ | 17,_ | 18,_ | 19,_ | 20,_ | 21,_ | 22,_ | 23,_ | 24,_ | 25,_ | 26,_ | 27,_ | 28,_ | 29,_ | 30,_ | 31,_ | 32,_ | 33,_ | 34,_ | 37,_ | 38,_ | 39,_ | 40,_ | 41,_=>exact .v _
 | f+42,hf=>exact absurd hf (by omega)
theorem b0_sub {r:Nat->Option Nat}{y:WB}{c:DC}(hn:1<=c.n) (h:∀ f,f<42->c.get 0 f=y.cells.getD f .any):SubC r ⟨42,.lst [y.cells]⟩ ⟨42,c⟩:=⟨rfl,hn,trivial,fun i f hi hf=>by
 have hi:i<1:=hi
 obtain rfl:i=0:=by omega
 show Sub r (y.cells.getD f .any) (c.get 0 f);rw [h f hf];exact .of_clo (cells_clo y hf)⟩
theorem b0_same {r:Nat->Option Nat}(y:WB):SubC r ⟨42,.lst [y.cells]⟩ ⟨42,.lst [y.cells]⟩:=b0_sub (Nat.le_refl _) fun _ _=>rfl
theorem str_same {r:Nat->Option Nat}(n:Nat) (L:Nat->ByteArray):SubC r ⟨1,.tab n (strS L)⟩ ⟨1,.tab n (strS L)⟩:=⟨rfl,Nat.le_refl _,trivial,fun _ _ _ _=>.of_clo (.v _)⟩
theorem str_app {r:Nat->Option Nat}{i:Nat}{L:Nat->ByteArray}{s:ByteArray}(e:s=L i):SubC r ⟨1,.tab (i+1) (strS L)⟩ ⟨1,.app (.pre (.tab i (strS L)) i) (.lst [[sv s]])⟩:=⟨rfl,Nat.le_refl _,trivial,fun j f hj hf=>by
 have hf:f<1:=hf
 obtain rfl:f=0:=by omega
 have hj:j<i+1:=hj
 show Sub r (sv (L j)) (if j<i then sv (L j) else ([[sv s]].getD (j-i) []).getD 0 .any)
 by_cases h:j<i
 ·rw [if_pos h];exact .v _
 ·obtain rfl:j=i:=by omega
  rw [if_neg h,Nat.sub_self,e];exact .v _⟩
theorem str_zero {r:Nat->Option Nat}(L:Nat->ByteArray):SubC r ⟨1,.tab 0 (strS L)⟩ ⟨1,.lst []⟩:=⟨rfl,Nat.le_refl _,trivial,fun j f hj _=>absurd hj (Nat.not_lt_zero _)⟩
def wzZ (y:WB) (i:Nat) (s:ByteArray):WB:=if s=crlf then y.nl else (y.nx i).wr s
def wzQ (y:WB) (i:Nat) (l:List DV) (s:ByteArray):Prop:=∃ u:WB,l=u.cells/\wdQ l s/\u.step s=wzZ y i s
theorem wzC_ok {st:AE.Stat}(hx:Hx st) (hv:VdOk st) (hk7:∀ a σ,st.ext 157 a σ=RL.app σ (blkX a σ.length)) (y:WB) (i:Nat):ConOkZ true Tryz.prog st 14 (wzC (wzQ y i) (wzZ y i)):=con_leZ (wnC_ok hx hv hk7) fun args k hk=>by
 unfold wzC at hk
 split at hk<;>first | (cases hk; done) | skip
 rename_i l s;obtain ⟨hb,hk0⟩:=bif_none hk;obtain ⟨u,rfl,hq,e⟩:=holds_eq.1 hb;refine hT hq ?_
 show k (fun _=>(.agg ((wbOf u.cells).step s).cells,[]))=some ()
 rw [wb_of,e];exact hk0
theorem prn_ne {s:ByteArray}(h:prn s):s≠crlf:=fun e=>by
 subst e
 have:=(h 0 (by decide)).1
 revert this;decide
theorem rp_size {s:Nat}(h:s<=20):rpF ⟨#[32]⟩ (IntKind.i64.wrap (20-(s:Int)))=⟨(Lib.repeatL [32] (20-s)).toArray⟩:=by
 have e:IntKind.i64.wrap (20-(s:Int))=((20-s:Nat):Int):=by rw [W_in (by omega) (by omega)]; omega
 rw [e];unfold rpF;rw [Int.toNat_natCast]
theorem ln_ls {st:AE.Stat}(hx:Hx st) (hv:VdOk st) (hk7:∀ a σ,st.ext 157 a σ=RL.app σ (blkX a σ.length)) (hr:∀ a σ,st.ext 25 a σ=RL.app σ (toL (keepX rpV a))) (ha:ConOk Tryz.prog st 13 aw0C)
  (t:Bool) (L:Nat->ByteArray) (n h:Nat) (b:Bool) (y0 z:WB):LoopSR true Tryz.prog st gl0 (.loop (loopAt Tryz.f8 506)) (lnI t L n h b y0 z).g:=by
 refine (lnI t L n h b y0 z).okV (z:=true) (gl:=gl0) (E:=fun x=>envZ [(23,pnC pnF),(13,aw0C),(14,wzC (wzQ x.2 x.1) (wzZ x.2 x.1)),(25,rpC rpQ rpF)] noLp 0) (p:=500) (fun x=>tblD_env fun e he=>?_) (fun _=>rfl) (fun _=>rfl) (glOk st).1 (fun _ _ _ _ h=>nomatch h) (fun x k hk=>?_) fun x hx2=>?_
 ·simp only [List.mem_cons,List.not_mem_nil,or_false] at he
  rcases he with rfl | rfl | rfl | rfl
  ·exact (pnC_ok hx).z
  ·exact ha.z
  ·exact wzC_ok hx hv hk7 _ _
  ·exact (rpC_ok hr).z
 ·simp only [lnI] at hk ⊢
  rcases bif_some hk with ⟨q1,q2⟩ | ⟨q1,q2⟩
  ·obtain rfl:=holds_eq.1 q1;exact q2
  ·cases b with
   | true=>rw [holds_eq.2 rfl] at q1; cases q1
   | false=>exact q2
 obtain ⟨i,y⟩:=x
 obtain ⟨hi,hn,h1,h8,hL,hl,hz,hb⟩:i<=n/\n<=12/\1<=h/\h<=8/\(∀ j,j<n->(L j).size<=9000000)/\LnOk h i (fun j=>pnF (L j)) y/\(b=true->finY (fun j=>pnF (L j)) (n-i) i y=z)/\shortB L (n-i) i=b:=hx2
 refine (ln_loop t L (fun j=>wantS (L j)) n i h y pnF (wzQ y i) (wzZ y i) rpQ rpF _).trans ?_
 simp only [Int.toNat_natCast,Nat.add_zero,Nat.zero_add]
 refine dS (fun hlt=>?_) fun hge=>?_
 ·have hlt:i<n:=by omega
  have e:n-i=(n-(i+1))+1:=by omega
  have hq:shortB L (n-i) i=bif decide (((pnF (L i)).size:Int) > 19) then false else shortB L (n-(i+1)) (i+1):=by rw [e,shortB]
  refine dT (by omega) (dT hlt (dT (hL i hlt) (dS (fun hlong=>?_) fun hshort=>?_)))
  ·obtain rfl:b=false:=by
    rw [<- hb,hq,decide_eq_true hlong];rfl
   exact LInv.ask_of ⟨rfl,rfl,[],.of (im:=[]) (.cons (.any _) (.cons (.v _) (.cons (.any _) (.cons (.any _) (.cons (.any _) .nil))))) rfl trivial rfl (by decide)⟩
  ·have hs:(pnF (L i)).size<=19:=by omega
   rw [decide_eq_false hshort,cond_false,hb] at hq;have hp:prn (pnF (L i)):=pn_prn _
   have knx:=hl.nx h1 (by omega)
   have kw:=knx.wr h1 hp hs;have hnc:=prn_ne hp;have hZ:wzZ y i (pnF (L i))=(y.nx i).wr (pnF (L i)):=if_neg hnc;have hZc:wzZ y i ⟨#[13,10]⟩=y.nl:=if_pos rfl
   have q1:wzQ y i (y.nx i).cells (pnF (L i)):=⟨y.nx i,rfl,⟨y.nx i,rfl,knx.ok,.inl ⟨hnc,by omega,hp,knx.fits hs⟩⟩,by rw [hZ]; exact if_neg hnc⟩
   have hW:IntKind.i64.wrap ((i:Int)+1)=((i+1:Nat):Int):=by rw [W_in (by omega) (by omega)]; omega
   have hrq:rpQ ⟨#[32]⟩ (IntKind.i64.wrap (20-((pnF (L i)).size:Int))):=by
    have e:IntKind.i64.wrap (20-((pnF (L i)).size:Int))=((20-(pnF (L i)).size:Nat):Int):=by rw [W_in (by omega) (by omega)]; omega
    rw [e]
    exact ⟨by omega,by omega,by decide⟩
   have hsz:(pnF (L i)).size+(rpF ⟨#[32]⟩ (IntKind.i64.wrap (20-((pnF (L i)).size:Int)))).size<=9223372036854775807:=by
    rw [rp_size (by omega),ba_size ⟨(Lib.repeatL [32] (20-(pnF (L i)).size)).toArray⟩,rep_list]
    simp;omega
   have next:∀ (c:DC),1<=c.n->(∀ f,f<42->c.get 0 f=((y.nx i).wr (pnF (L i))).cells.getD f .any) ->
     (lnI t L n h b y0 z).ask (i,y) .normal 114 [.sl t (strS L) 1 n,iv h,.po 0 0 0,.os 4 0 (i+1),.sl t (strS L) 1 n,iv n,iv ((i+1:Nat):Int)] [.sl t (strS L) 1 n,.any,iv h,.po 0 0 0,.os 4 0 (i+1)]
      [some ⟨42,c⟩,none,none,some ⟨1,.lst [[sv (wantS (L i))]]⟩,some ⟨1,.app (.pre (.tab i (strS fun j=>wantS (L j))) i) (.lst [[sv (wantS (L i))]])⟩]=some ():=fun c hn1 hc=>by
    refine LInv.ask_of ⟨rfl,(i+1,(y.nx i).wr (pnF (L i))),⟨rfl,rfl,rfl,hlt,hn,h1,h8,hL,kw,fun q=>?_,hq.symm⟩,by simp only [lnI]; omega,[4],.of (im:=[some 0,some 4]) (.cons (.sl _ _ _ _) (.cons (.v _) (.cons (.po rfl) (.cons (.os rfl) (.cons (.sl _ _ _ _) (.cons (.v _) (.cons (.v _) .nil))))))) rfl ⟨⟨0,_,rfl,rfl,b0_sub hn1 hc⟩,⟨4,_,rfl,rfl,str_app rfl⟩,trivial⟩ rfl (by decide)⟩
    have hz:=hz q;rw [e,finY] at hz;exact hz
   rw [hW]
   refine dS (fun hp0=>?_) fun hp0=>?_
   ·have hp0:0<i:=by omega
    have enx:y.nx i=y.nl:=if_pos hp0;rw [hZ,hZc];rw [enx] at q1 next knx ⊢
    refine hT ⟨y,rfl,⟨y,rfl,hl.ok,.inr ⟨rfl,by rw [hl.qh]; exact h8,by have:=hl.qn; omega⟩⟩,by rw [hZc]; exact if_pos rfl⟩ (hT q1 (hT hrq (dT hsz (dT (Nat.le_refl _) (dT (by omega) (next _ (Nat.le_refl _) fun f hf=>?_))))))
    match f,hf with
    | 0,_ | 1,_ | 2,_ | 3,_ | 4,_ | 5,_ | 6,_ | 7,_ | 8,_ | 9,_ | 10,_ | 11,_ | 12,_ | 13,_ | 14,_ | 15,_ | 16,_ | 17,_ | 18,_ | 19,_ | 20,_ | 21,_ | 22,_ | 23,_ | 24,_ | 25,_ | 26,_ | 27,_ | 28,_ | 29,_ | 30,_ | 31,_ | 32,_ | 33,_ | 34,_ | 35,_ | 36,_ | 37,_ | 38,_ | 39,_ | 40,_ | 41,_=>rfl
    | f+42,hf=>exact absurd hf (by omega)
   ·have hp0:i=0:=by omega
    have enx:y.nx i=y:=if_neg (by omega)
    rw [hZ];rw [enx] at q1 next knx ⊢
    refine hT q1 (hT hrq (dT hsz (dT (Nat.le_refl _) (dT (by omega) (next _ (Nat.le_refl _) fun f hf=>?_)))))
    match f,hf with
    | 0,_ | 1,_ | 2,_ | 3,_ | 4,_ | 5,_ | 6,_ | 7,_ | 8,_ | 9,_ | 10,_ | 11,_ | 12,_ | 13,_ | 14,_ | 15,_ | 16,_ | 17,_ | 18,_ | 19,_ | 20,_ | 21,_ | 22,_ | 23,_ | 24,_ | 25,_ | 26,_ | 27,_ | 28,_ | 29,_ | 30,_ | 31,_ | 32,_ | 33,_ | 34,_ | 35,_ | 36,_ | 37,_ | 38,_ | 39,_ | 40,_ | 41,_=>rfl
    | f+42,hf=>exact absurd hf (by omega)
 ·obtain rfl:n=i:=by omega
  obtain rfl:b=true:=by
   rw [<- hb,Nat.sub_self];rfl
  have hz:=hz rfl;rw [Nat.sub_self] at hz;obtain rfl:y=z:=hz
  exact LInv.ask_of ⟨rfl,rfl,[2],.of (im:=[some 0,some 2]) (.cons (.sl _ _ _ _) (.cons (.any _) (.cons (.v _) (.cons (.po rfl) (.cons (.os rfl) .nil))))) rfl ⟨⟨0,_,rfl,rfl,b0_same y⟩,⟨2,_,rfl,rfl,str_same _ _⟩,trivial⟩ rfl (by decide)⟩
theorem ga_ls {st:AE.Stat}(ht:∀ a σ,st.ext 24 a σ=RL.app σ (toL (tnX st (hp σ) a))) (t:Bool) (L:Nat->ByteArray) (n h:Nat) (z:WB) (A:Nat->Row) (m:Nat):LoopSR true Tryz.prog st gl0 (.loop (loopAt Tryz.f8 2042)) (gaI txF txQ t L n h z A m).g:=by
 refine (gaI txF txQ t L n h z A m).ok (E:=envZ [(24,txC txQ txF)] noLp 0) (p:=500) (tblD_env (l:=[(24,txC txQ txF)]) fun x h=>?_) (glOk st).1 (fun _ _ _ h=>nomatch h) (fun x k h=>h) fun i hx2=>?_
 ·simp only [List.mem_cons,List.not_mem_nil,or_false] at h;subst h;exact (txC_ok ht).z
 obtain ⟨hi,hm,hq⟩:i<=m/\m<=20/\∀ j,j<m->txQ (A j).cell (A j).n:=hx2
 refine (ga_loop txF txQ t L n h ⟨42,.lst [z.cells]⟩ ⟨1,.tab n (strS fun j=>wantS (L j))⟩ A m i _).trans ?_
 simp only [Int.toNat_natCast,Nat.add_zero,Nat.zero_add]
 refine dS (fun hlt=>?_) fun hge=>?_
 ·have hlt:i<m:=by omega
  have hW:IntKind.i64.wrap ((i:Int)+1)=((i+1:Nat):Int):=by rw [W_in (by omega) (by omega)]; omega
  rw [hW]
  exact dT (by omega) (dT hlt (hT (hq i hlt) (dT (Nat.le_refl _) (dT (by omega) (LInv.ask_of ⟨rfl,i+1,⟨rfl,rfl,rfl,hlt,hm,hq⟩,by simp only [gaI]; omega,[9],.of (im:=[some 0,some 2,some 6,some 9]) (.cons (.sl _ _ _ _) (.cons (.v _) (.cons (.po rfl) (.cons (.os rfl) (.cons (.os rfl) (.cons (.os rfl) (.cons (.v _) (.cons (.v _) .nil)))))))) rfl
   ⟨⟨0,_,rfl,rfl,b0_same z⟩,⟨2,_,rfl,rfl,str_same _ _⟩,⟨6,_,rfl,rfl,rfl,Nat.le_refl _,trivial,fun j f hj hf=>.of_clo (.sl _ _ _ _)⟩,⟨9,_,rfl,rfl,str_app rfl⟩,trivial⟩ rfl (by decide)⟩)))))
 ·obtain rfl:m=i:=by omega
  exact LInv.ask_of ⟨rfl,rfl,[7],.of (im:=[some 0,some 2,some 7]) (.cons (.sl _ _ _ _) (.cons (.v _) (.cons (.po rfl) (.cons (.os rfl) (.cons (.os rfl) .nil))))) rfl
   ⟨⟨0,_,rfl,rfl,b0_same z⟩,⟨2,_,rfl,rfl,str_same _ _⟩,⟨7,_,rfl,rfl,str_same _ _⟩,trivial⟩ rfl (by decide)⟩
theorem cm_ls (st:AE.Stat) (G W:Nat->ByteArray) (n m:Nat):LoopSR true Tryz.prog st gl0 (.loop (loopAt Tryz.f8 8186)) (cmI G W n m).g:=by
 refine (cmI G W n m).ok (E:=envZ [] noLp 0) (p:=500) (tblD_env (l:=[]) fun _ h=>nomatch h) (glOk st).1 (fun _ _ _ h=>nomatch h) (fun x k h=>h) fun i hx2=>?_
 obtain ⟨hi,hn,hm,hq⟩:i<=n/\n<=m/\m<=20/\∀ j,j<n->G j=W j:=hx2;refine (cm_loop G W n m i _).trans ?_;simp only [Int.toNat_natCast,Nat.add_zero,Nat.zero_add]
 refine dS (fun hlt=>?_) fun hge=>?_
 ·have hlt:i<n:=by omega
  have hW:IntKind.i64.wrap ((i:Int)+1)=((i+1:Nat):Int):=by rw [W_in (by omega) (by omega)]; omega
  rw [hW,hq i hlt]
  exact dT (by omega) (dT hlt (dT (by omega) (dT (by omega) (cF (by rw [beq_self_eq_true]; rfl) (LInv.ask_of ⟨rfl,i+1,⟨rfl,rfl,rfl,hlt,hn,hm,hq⟩,by simp only [cmI]; omega,[],.of (im:=[some 2,some 7]) (.cons (.os rfl) (.cons (.os rfl) (.cons (.v _) (.cons (.v _) .nil)))) rfl ⟨⟨2,_,rfl,rfl,str_same _ _⟩,⟨7,_,rfl,rfl,str_same _ _⟩,trivial⟩ rfl (by decide)⟩)))))
 ·obtain rfl:n=i:=by omega
  exact LInv.ask_of ⟨rfl,rfl,[],.of (im:=[]) .nil rfl trivial rfl (by decide)⟩
theorem short_all {L:Nat->ByteArray}:∀ (m i:Nat),shortB L m i=true->∀ j,i<=j->j<i+m->(pnF (L j)).size<=19
 | 0,i,_,j,h1,h2=>by omega
 | m+1,i,h,j,h1,h2=>by
  rw [shortB] at h
  by_cases q:((pnF (L i)).size:Int) > 19
  ·rw [decide_eq_true q] at h;cases h
  ·rw [decide_eq_false q,cond_false] at h
   rcases Nat.eq_or_lt_of_le h1 with rfl | h3
   ·omega
   ·exact short_all m (i+1) h j h3 (by omega)
theorem lin_cell {w:Nat}{s:ByteArray}(hp:prn s) {i:Nat}(hi:i<=s.size) (k:Nat):((linR w s i).tx k).size<=1000:=by
 show (if k<i then Utf8.encode (byteAt s k) else ⟨⟨[32]⟩⟩:ByteArray).size<=1000
 split
 ·rename_i hq
  rw [ba_size,enc_list (hp k (by omega))]
  show (1:Nat)<=1000;decide
 ·decide
theorem LnOk.cell {h i:Nat}{p:Nat->ByteArray}{y:WB}(k:LnOk h i p y) (hp:∀ j,prn (p j)) {j:Nat}(hj:j<y.n+h) (q:Nat):((allR y j).tx q).size<=1000:=by
 have hn:=k.qn;unfold allR
 by_cases e:j<y.n
 ·rw [if_pos e,k.qB j (by omega)]
  exact lin_cell (hp j) (Nat.le_refl _) q
 ·rw [if_neg e,k.qR _ (by omega)]
  split
  ·exact lin_cell (hp _) (Nat.le_refl _) q
  ·show (1:Nat)<=1000;decide
theorem want_eq {s:ByteArray}(hs:(pnF s).size<=19):txF (linR 20 (pnF s) (pnF s).size)=wantS s:=by
 have e:∀ {x y:ByteArray},x.data.toList=y.data.toList->x=y:=fun {x y} h=>by
  cases x with
  | mk x =>
   cases y with
   | mk y =>
    congr 1
    cases x;cases y
    congr 1
 refine e ?_
 rw [lin_text (pn_prn s) (by omega)]
 unfold wantS
 rw [rp_size (by omega),ByteArray.data_append,Array.toList_append,rep_list]
def slQ (a:Int) (g:Nat->Nat->DV) (n:Nat):Prop:=0<=a/\a<256/\n<=9000000/\∀ i,i<n->g i 0=sv (strD (g i 0))/\(strD (g i 0)).size<=9000000
noncomputable def la8C:ConF:=fun args k=>match args with
 | [.v (.int .u8 a),.sl _ g 1 n]=>bif holds (slQ a g n) then k (fun _=>(bv true,[])) else none
 | _=>none
theorem Cv.tup:∀ {a b:List DV},CvL a b->Cv (.tup a) (.tup b):=fun {a b} h C μ v hv=>by
 cases hv with
 | tup _ vs h1 h2 =>
  have:=h.drl (C:=C) (μ:=μ) (vs:=vs.toList) ⟨by simpa using h1,fun i d x hd hx=>h2 i d x hd (by simpa using hx)⟩
  exact .tup _ vs (by simpa using this.1) fun i d x hd hx=>this.2 i d x hd (by simpa using hx)
theorem new_cv (h:Nat):CvL (newY 20 h).cells (newB 20 h).cells:=cvl_at rfl fun i hi=>by
 have hi:i<42:=hi
 by_cases h36:i=36
 ·subst h36;exact nil_sl
 ·have e:(newY 20 h).cells.getD i .any=(newB 20 h).cells.getD i .any:=by
   match i,hi with
   | 36,_=>exact absurd rfl h36
   | 0,_ | 1,_ | 2,_ | 3,_ | 4,_ | 5,_ | 6,_ | 7,_ | 8,_ | 9,_ | 10,_ | 11,_ | 12,_ | 13,_ | 14,_ | 15,_ | 16,_ | 17,_ | 18,_ | 19,_ | 20,_ | 21,_ | 22,_ | 23,_ | 24,_ | 25,_ | 26,_ | 27,_ | 28,_ | 29,_ | 30,_ | 31,_ | 32,_ | 33,_ | 34,_ | 35,_ | 37,_ | 38,_ | 39,_ | 40,_ | 41,_=>rfl
   | i+42,hi=>exact absurd hi (by omega)
  rw [e]
  exact fun _ _ _ h=>h
theorem nbC_ok {st:AE.Stat}(hx:Hx st) (hk:∀ a σ,st.ext 157 a σ=RL.app σ (blkX a σ.length)) {h:Nat}(h1:1<=h) (h8:h<=8):ConOkZ true Tryz.prog st 18 (nbC (fun w q=>w=20/\q=h) (newB 20 h)):=con_cvA (nwC_ok hx hk) fun args k hk2=>by
 unfold nbC at hk2
 split at hk2<;>first | (cases hk2; done) | skip
 rename_i w q;obtain ⟨hb,hk0⟩:=bif_none hk2;obtain ⟨rfl,rfl⟩:=holds_eq.1 hb
 refine ⟨_,.tup [.agg (newY 20 h).cells,iv 0],?_,?_,hk0,hT ⟨by decide,by decide,by omega,by omega⟩ (hT rfl rfl)⟩
 ·exact Cv.tup (.cons (Cv.agg (new_cv h)) (.self .nil))
 ·exact .tup fun d hd=>by
   simp only [List.mem_cons,List.not_mem_nil,or_false] at hd
   rcases hd with rfl | rfl
   ·exact wb_low _
   ·exact .v _
set_option maxRecDepth 100000 in
theorem la8C_ok {st:AE.Stat}(hx:Hx st) (hv:VdOk st) (hk:∀ a σ,st.ext 157 a σ=RL.app σ (blkX a σ.length)) (ht:∀ a σ,st.ext 24 a σ=RL.app σ (toL (tnX st (hp σ) a))) (hr:∀ a σ,st.ext 25 a σ=RL.app σ (toL (keepX rpV a)))
  (ha:ConOk Tryz.prog st 13 aw0C):ConOkZ true Tryz.prog st 8 la8C:=fun args k hk2=>by
 unfold la8C at hk2
 split at hk2<;>first | (cases hk2; done) | skip
 rename_i a t g n;obtain ⟨hb,hk3⟩:=bif_none hk2;clear hk2;obtain ⟨a0,a1,hn,hg⟩:=holds_eq.1 hb
 obtain ⟨h,hh⟩:∃ h:Nat,(h:Int)=Int.tmod a 8+1:=⟨(Int.tmod a 8+1).toNat,by have:=Int.tmod_nonneg 8 a0; omega⟩
 have h1:1<=h:=by have:=Int.tmod_nonneg 8 a0; omega
 have h8:h<=8:=by have:=Int.tmod_lt_of_pos a (show (0:Int)<8 by decide); omega
 have eH:IntKind.i64.wrap (Int.tmod (IntKind.i64.wrap a) 8+1)=(h:Int):=by
  rw [W_in (x:=a) (by omega) (by omega),W_in (by omega) (by omega),hh]
 generalize hL:(fun i=>strD (g i 0))=L
 have hgL:∀ i,i<n->g i 0=sv (L i)/\(L i).size<=9000000:=fun i hi=>by rw [<- hL]; exact hg i hi
 generalize hbq:shortB L (n-0) 0=b
 generalize hz:finY (fun j=>pnF (L j)) (n-0) 0 (newB 20 h)=z
 generalize hA:allR z=A;generalize hm:z.n+z.h=m
 refine con_flatZ (F:=fun args' k'=>bif holds (args'=[kv .u8 a,.sl t g 1 n]) then k' (fun _=>(bv true,[])) else none) (mg:=[]) (l:=[(13,aw0C),(18,nbC (fun w q=>w=20/\q=h) (newB 20 h))]) (lp:=lpOf [(506,(lnI t L n h b (newB 20 h) z).g),(510,segD Tryz.prog (sgE txF txQ t L n h z A m) 510 (pieceOf Tryz.f8 510)),(8186,(cmI (fun j=>txF (A j)) (fun j=>wantS (L j)) n m).g)]) (n:=0) (glOk st) (fun x hm=>?_) Tryz.func8 (by kernel_rfl) (by kernel_rfl) (hx 8 rfl) (lp_tabZ fun e he=>?_) (fun args k hk2=>?_) _ k (hT rfl hk3)
 ·simp only [List.mem_cons,List.not_mem_nil,or_false] at hm
  rcases hm with rfl | rfl
  ·exact ha.z
  ·exact nbC_ok hx hk h1 h8
 ·simp only [List.mem_cons,List.not_mem_nil,or_false] at he
  rcases he with rfl | rfl | rfl
  ·exact ⟨_,by kernel_rfl,ln_ls hx hv hk hr ha t L n h b (newB 20 h) z⟩
  ·exact ⟨pieceOf Tryz.f8 510,by kernel_rfl,segD_ok (E:=sgE txF txQ t L n h z A m) (tblD_env fun _ h=>nomatch h) (lp_in (c0:=.loop (loopAt Tryz.f8 2042)) (by kernel_rfl) (ga_ls ht t L n h z A m))⟩
  ·exact ⟨_,by kernel_rfl,cm_ls st _ _ n m⟩
 obtain ⟨e,hk4⟩:=bif_none hk2;obtain rfl:=holds_eq.1 e
 refine ⟨[kv .u8 a,.sl t (strS L) 1 n],_,.self (.cons (Cv.sl fun i f hi hf=>.of ?_) .nil),v_clo _,hk4,(sl_tree a t L n h b (newB 20 h) z A m txF txQ (fun w q=>w=20/\q=h) _).trans ?_⟩
 ·obtain rfl:f=0:=by omega
  exact (hgL i hi).1
 rw [eH]
 refine dS (fun _=>isD_of rfl) fun h12=>?_
 have hn12:n<=12:=by omega
 have k0:=newB_ln h1 h8 fun j=>pnF (L j)
 refine hT ⟨rfl,rfl⟩ (dT h1 (dT h1 (hT ⟨⟨Nat.zero_le _,hn12,h1,h8,fun j hj=>(hgL j hj).2,k0,fun _=>hz,hbq⟩,[1],?_⟩ ?_)))
 ·refine .of (im:=[some 0,some 1]) (.cons (.sl _ _ _ _) (.cons (.v _) (.cons (.po rfl) (.cons (.os rfl) (.cons (.sl _ _ _ _) (.cons (.v _) (.cons (.v _) .nil))))))) rfl ⟨⟨0,_,rfl,rfl,b0_sub (Nat.le_refl _) fun f hf=>?_⟩,⟨1,_,rfl,rfl,str_zero _⟩,trivial⟩ rfl (by decide)
  match f,hf with
  | 0,_ | 1,_ | 2,_ | 3,_ | 4,_ | 5,_ | 6,_ | 7,_ | 8,_ | 9,_ | 10,_ | 11,_ | 12,_ | 13,_ | 14,_ | 15,_ | 16,_ | 17,_ | 18,_ | 19,_ | 20,_ | 21,_ | 22,_ | 23,_ | 24,_ | 25,_ | 26,_ | 27,_ | 28,_ | 29,_ | 30,_ | 31,_ | 32,_ | 33,_ | 34,_ | 35,_ | 36,_ | 37,_ | 38,_ | 39,_ | 40,_ | 41,_=>rfl
  | f+42,hf=>exact absurd hf (by omega)
 cases b with
 | false=>exact hFn (fun e=>nomatch e) (isD_of rfl)
 | true =>
  have hsh:∀ j,j<n->(pnF (L j)).size<=19:=fun j hj=>short_all (n-0) 0 hbq j (Nat.zero_le _) (by omega)
  have kz:LnOk h n (fun j=>pnF (L j)) z:=by
   have:=k0.fin h1 (n-0) 0 _ (by omega) fun j _ hj=>⟨pn_prn _,hsh j (by omega)⟩
   rw [hz,show 0+(n-0)=n by omega] at this
   exact this
  have zn:=kz.qn;have zh:=kz.qh
  have hmn:m=z.n+h:=by rw [<- hm,zh]
  have hq:∀ j,j<m->txQ (A j).cell (A j).n:=fun j hj=>by
   rw [<- hA]
   have gr:=kz.good (j:=j) (by omega)
   have cl:=kz.cell (fun j=>pn_prn _) (j:=j) (by omega)
   exact ⟨Row.ok (gr.sized (by omega)),by rw [gr.1]; omega,by rw [gr.1]; omega,fun q _=>cl q⟩
  refine hT rfl (dT (by omega) (dT (Nat.le_refl _) (dT (by omega) (hT ⟨⟨Nat.zero_le _,(show m<=20 by omega),hq⟩,[3],?_⟩ (cF ?_ (cF ?_ (hT ⟨⟨Nat.zero_le _,(show n<=m by omega),(show m<=20 by omega),fun j hj=>?_⟩,[],?_⟩ (isD_of rfl))))))))
  ·refine .of (im:=[some 0,some 2,some 6,some 3]) (.cons (.sl _ _ _ _) (.cons (.v _) (.cons (.po rfl) (.cons (.os rfl) (.cons (.os rfl) (.cons ?_ (.cons ?_ (.cons (.v _) .nil)))))))) rfl
    ⟨⟨0,_,rfl,rfl,b0_same z⟩,⟨2,_,rfl,rfl,str_same _ _⟩,⟨6,_,rfl,rfl,rfl,?_,trivial,fun j f hj hf=>?_⟩,⟨3,_,rfl,rfl,str_zero _⟩,trivial⟩ rfl (by decide)
   ·rw [show 0+z.n+z.h=m by omega]
    exact .os rfl
   ·rw [show 0+z.n+z.h=m by omega]
    exact .v _
   ·show m<=(0+z.n)+z.h;omega
   ·have hf:f<1:=hf
    obtain rfl:f=0:=by omega
    show Sub _ (.sl false (A j).cell 5 (A j).n) (if j<0+z.n then (if j<0 then (([]:List (List DV)).getD j []).getD 0 .any else backD z.B (j-0) 0) else .sl false (z.x.R (j-(0+z.n))).cell 5 (z.x.R (j-(0+z.n))).n)
    rw [<- hA,Nat.zero_add,if_neg (Nat.not_lt_zero _),Nat.sub_zero];unfold allR
    by_cases q:j<z.n
    ·rw [if_pos q,if_pos q];exact .of_clo (.sl _ _ _ _)
    ·rw [if_neg q,if_neg q];exact .of_clo (.sl _ _ _ _)
  ·have e:IntKind.i64.wrap ((n:Int)-h)=(n:Int)-h:=W_in (by omega) (by omega)
   rw [e,zn]
   have:((n-h:Nat):Int)=if (n:Int)-h > 0 then (n:Int)-h else 0:=by
    split<;>omega
   rw [<- this];simp
  ·have e:IntKind.i64.wrap ((z.n:Int)+h)=(m:Int):=by rw [W_in (by omega) (by omega)]; omega
   rw [e];simp
  ·show txF (A j)=wantS (L j);rw [<- hA,kz.all hj];exact want_eq (hsh j hj)
  ·exact .of (im:=[some 2,some 7]) (.cons (.os rfl) (.cons (.os rfl) (.cons (.v _) (.cons (.v _) .nil)))) rfl ⟨⟨2,_,rfl,rfl,str_same _ _⟩,⟨7,_,rfl,rfl,str_same _ _⟩,trivial⟩ rfl (by decide)
end Go.Proofs.YtigmkgampfbflaaGreatDoor
namespace Go.Proofs
open Go.Shelf
def Tryz.lays196_ren:Go.Shelf.Ren:=⟨fun | 196=>70 | 259=>109 | n=>n,fun | 9=>9 | 4=>4 | 3=>3 | 5=>5 | 12=>12 | 119=>158 | 0=>0 | 46=>109 | 139=>161 | 138=>160 | 53=>153 | n=>n,fun | 3=>0 | 4=>1 | n=>n⟩
theorem Tryz.lays196:Go.Proofs.Lays.n196 Tryz.prog Tryz.lays196_ren:={
 mixed:=by kernel_rfl
 f196:=Tryz.func70.trans (congrArg some (by kernel_rfl))
 f259:=Tryz.func109.trans (congrArg some (by kernel_rfl))
 t0:=Tryz.underlying0
 a0:=Tryz.isAgg0
 z0:=Tryz.sizeOf0
 v0:=Tryz.zeroValue0
 t3:=Tryz.underlying3
 a3:=Tryz.isAgg3
 z3:=Tryz.sizeOf3
 v3:=Tryz.zeroValue3
 t4:=Tryz.underlying4
 a4:=Tryz.isAgg4
 z4:=Tryz.sizeOf4
 v4:=Tryz.zeroValue4
 t5:=Tryz.underlying5
 a5:=Tryz.isAgg5
 z5:=Tryz.sizeOf5
 v5:=Tryz.zeroValue5
 t9:=Tryz.underlying9
 a9:=Tryz.isAgg9
 z9:=Tryz.sizeOf9
 v9:=Tryz.zeroValue9
 t12:=Tryz.underlying12
 a12:=Tryz.isAgg12
 z12:=Tryz.sizeOf12
 v12:=Tryz.zeroValue12
 t46:=Tryz.underlying109
 a46:=Tryz.isAgg109
 z46:=Tryz.sizeOf109
 v46:=Tryz.zeroValue109
 t53:=Tryz.underlying153
 a53:=Tryz.isAgg153
 z53:=Tryz.sizeOf153
 v53:=Tryz.zeroValue153
 t119:=Tryz.underlying158
 a119:=Tryz.isAgg158
 z119:=Tryz.sizeOf158
 t138:=Tryz.underlying160
 a138:=Tryz.isAgg160
 z138:=Tryz.sizeOf160
 v138:=Tryz.zeroValue160
 t139:=Tryz.underlying161
 a139:=Tryz.isAgg161
 z139:=Tryz.sizeOf161
 v139:=Tryz.zeroValue161
 g3:=by kernel_rfl
 g4:=by kernel_rfl }
open Go.RowKit in
theorem Tryz.utf8_ValidString (s:ByteArray) (w:World) (hs:s.size<=9223372036854775807) (hT:Lib.Utf8Tabs (Tryz.lays196_ren.g 3) (Tryz.lays196_ren.g 4) w) :
  Calls Tryz.prog 70 #[.string s] w fun e w'=>e=.returned (.bool (Lib.validD s.data.toList))/\Below w.heap.size w w':=Any.utf8_ValidString Tryz.lays196 s w hs hT
end Go.Proofs
namespace Go.Proofs.YtigmkgampfbflaaGreatDoor
open Go Go.AE Go.DE Go.RowKit Go.ChangeShapes Go.Joins
def vdV:List Value->Option Value
 | [.string s]=>if s.size<=9000000 then some (.bool (vdF s)) else none
 | _=>none
theorem tabs_keep {W w:World}(h:Lib.Utf8Tabs 0 1 W) (hw:Below W.heap.size W w):Lib.Utf8Tabs 0 1 w:=by
 have key:∀ {g i:Nat}{v:Value},W.cell? ⟨g,i,none⟩=some v->w.cell? ⟨g,i,none⟩=some v:=fun hc=>(hw.cell (p:=⟨_,_,none⟩) (World.block_lt_of_cell? _ _ hc)).trans hc
 exact ⟨fun c hc=>key (h.1 c hc),fun i hi=>⟨key (h.2 i hi).1,key (h.2 i hi).2⟩⟩
theorem fnOk_vd {W:World}(h:Lib.Utf8Tabs 0 1 W):FnOk Tryz.prog W 70 (fun a σ=>RG.app σ (keepX vdV a)):=by
 refine fnOk_keep fun args v hg=>?_
 unfold vdV at hg
 split at hg<;>first | (cases hg; done) | skip
 rename_i s
 split at hg<;>first | (cases hg; done) | skip
 rename_i hs;obtain rfl:=Option.some.inj hg
 exact ⟨rfl,rfl,fun w hw=>Tryz.utf8_ValidString s w (Nat.le_trans hs (by decide)) (tabs_keep h hw)⟩
theorem fnOk_rp {W:World}:FnOk Tryz.prog W 25 (fun a σ=>RG.app σ (keepX rpV a)):=by
 refine fnOk_keep fun args v hg=>?_
 unfold rpV at hg
 split at hg<;>first | (cases hg; done) | skip
 rename_i s c
 split at hg<;>first | (cases hg; done) | skip
 rename_i hs;obtain ⟨h0,h1,h2⟩:=hs;obtain rfl:=Option.some.inj hg
 refine ⟨rfl,rfl,fun w hw=>?_⟩
 obtain ⟨n,rfl⟩:∃ n:Nat,c=n:=⟨c.toNat,by omega⟩
 have hm:s.size*n<=1000*1000:=Nat.mul_le_mul h2 (by omega)
 rw [Int.toNat_natCast]
 exact Tryz.strings_Repeat s n w (by omega) (by omega)
noncomputable def extX (W:World):ExtL:=fun f args g N=>match f with
 | 13=>toL (keepX awV args)
 | 24=>toL (tnX ⟨stOf W,fun _ _ _=>none⟩ g args)
 | 25=>toL (keepX rpV args)
 | 70=>toL (keepX vdV args)
 | 157=>blkX args N
 | _=>none
noncomputable def stX (W:World):AE.Stat:=⟨stOf W,extOfL (extX W)⟩
theorem stX_good (W:World):GoodSt W (stX W):=stOf_good W _
theorem hxX (W:World):∀ f,exA f=false->∀ a σ,(stX W).ext f a σ=none:=fun f h a σ=>by
 have h1:f≠13:=fun e=>by subst e; cases h
 have h2:f≠24:=fun e=>by subst e; cases h
 have h3:f≠25:=fun e=>by subst e; cases h
 have h4:f≠70:=fun e=>by subst e; cases h
 have h5:f≠157:=fun e=>by subst e; cases h
 have:extX W f a (hp σ) σ.length=none:=by
  unfold extX
  split<;>first | contradiction | rfl
 simp [stX,extOfL,RL.app,this]
theorem hkX (W:World):∀ a σ,(stX W).ext 157 a σ=RL.app σ (blkX a σ.length):=fun _ _=>rfl
theorem htX (W:World):∀ a σ,(stX W).ext 24 a σ=RL.app σ (toL (tnX (stX W) (hp σ) a)):=fun _ _=>rfl
theorem hrX (W:World):∀ a σ,(stX W).ext 25 a σ=RL.app σ (toL (keepX rpV a)):=fun _ _=>rfl
theorem awX_ok (W:World):ConOk Tryz.prog (stX W) 13 aw0C:=aw0C_ok fun C σ vs _ ha=>by
 obtain rfl:vs=[]:=ha.nil_inv;rfl
theorem vdX (W:World):VdOk (stX W):=fun s σ hs=>by
 have e:vdV [.string s]=some (.bool (vdF s)):=if_pos hs;show RL.app σ (toL (keepX vdV [.string s]))=_;unfold keepX;rw [e];rfl
theorem extX_ok {W:World}(hst:GoodSt W stA) (ht:Lib.Utf8Tabs 0 1 W):CallOk Tryz.prog W (stX W).ext:=by
 intro f
 by_cases h1:f=13
 ·subst h1; exact keep_fnL (awake_ok hst)
 by_cases h2:f=24
 ·subst h2; exact fnOk_textN (stOf_good W _)
 by_cases h3:f=25
 ·subst h3;intro args σ v σ' hx;refine fnOk_rp args σ v σ' ?_;have hx:RL.app σ (toL (keepX rpV args))=some (v,σ'):=hx
  rwa [toL_app keepX_keep] at hx
 by_cases h4:f=70
 ·subst h4;intro args σ v σ' hx;refine fnOk_vd ht args σ v σ' ?_;have hx:RL.app σ (toL (keepX vdV args))=some (v,σ'):=hx
  rwa [toL_app keepX_keep] at hx
 by_cases h5:f=157
 ·subst h5; exact fnOk_blk follows
 ·intro args σ v σ' hx
  have h:extX W f args (hp σ) σ.length=none:=by
   unfold extX
   split<;>first | contradiction | rfl
  have e:(stX W).ext f args σ=none:=by simp [stX,extOfL,RL.app,h]
  rw [e] at hx;cases hx
theorem bulk_mem {H:Type}{d:DataW H}:∀ {l:List (DataW H)},d∈l->Rows.uptoBulk d<=Rows.uptoBulkAll l
 | x :: l,h=>by
  rw [Rows.uptoBulkAll]
  rcases List.mem_cons.1 h with rfl | h
  ·exact Nat.le_add_right _ _
  ·exact Nat.le_trans (bulk_mem h) (Nat.le_add_left _ _)
theorem bulk_pos {H:Type}(d:DataW H):1<=Rows.uptoBulk d:=by
 cases d<;>(try unfold Rows.uptoBulk)<;>first | exact Nat.le_refl 1 | exact Nat.le_add_left _ _ | skip
 rename_i l
 cases l<;>first | exact Nat.le_add_left _ _ | exact Nat.le_refl 1
theorem bulk_len {H:Type}:∀ (l:List (DataW H)),l.length<=Rows.uptoBulkAll l
 | []=>Nat.zero_le _
 | x :: l=>by
  rw [Rows.uptoBulkAll,List.length_cons];have:=bulk_len l;have:=bulk_pos x;omega
theorem bulkOk {H:Type}:BkOk (H:=H) Rows.uptoBulk :=
 ⟨fun l=>by unfold Rows.uptoBulk; exact Nat.le_add_right _ _,fun l d h=>by rw [Rows.uptoBulk]; exact Nat.le_trans (bulk_mem h) (Nat.le_add_right _ _),
  fun l sp d h=>by rw [Rows.uptoBulk]; have:=bulk_mem h; omega,fun l sp=>by rw [Rows.uptoBulk]; have:=bulk_len l; omega⟩
theorem bulk_le {H:Type}{d:DataW H}{p:List MemPlace}(hb:Rows.uptoBulk d<=1048576):Rows.uptoBulk (d,p).1<=1048576:=hb
set_option maxRecDepth 100000 in
theorem open_slc {H:Type}{enc:TypeId×Value->H}{W:World}{b0 n:Nat}{t e:TypeId}{ks:List Kd}{v:Value}{d:DataW H}{p:List MemPlace}{r:Reach}(ht:Tryz.prog.underlying t=some (.slice e)) (hk:kinds Tryz.prog n t=some [.sl ks])
  (hv:Value.okWide Tryz.prog W r b0 t v) (h:DataW.Trod enc Tryz.prog W 0 (fun _=>true) true t v d p) (hb:Rows.uptoBulk d<=1048576) :
  ∃ g m w,HasK 1048576 (.sl ks) (.sl false g ks.length m)/\DR (baseC (stX W)) noMu (.sl false g ks.length m) w/\VR (fun _=>none) w v:=by
 obtain ⟨a,len,cap,rfl⟩:=Go.WideShapes.okWide_slice ht hv;obtain ⟨fuel,hf⟩:=h;obtain ⟨ds,ws,a1,a2,a3,a4,a5⟩:=opn (B:=1048576) (bk:=Rows.uptoBulk) bulkOk (extOfL (extX W)) n t [.sl ks] hk fuel (Value.slice a len cap).cells.toList (d,p) hf (bulk_le hb);obtain ⟨d0,hd0,hk0⟩:=a2 0 _ rfl;obtain ⟨u,hu,hs⟩:=a5 0 (.slice a len cap) rfl
 cases hk0 with
 | sl ks g m hn hh=>exact ⟨g,m,u,.sl ks g m hn hh,a3.2 0 _ _ hd0 hu,(stV_vr hs _).1⟩
end Go.Proofs.YtigmkgampfbflaaGreatDoor
