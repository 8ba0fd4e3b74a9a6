/-
 The chapter's examples (awake), run once.
 Conditions: the table of attr's codes holds its eight numbers.
-/
import Derived.Test.YtfdldnomelnbgaaGreatDoorDeExt
import Derived.Test.YtfdldnomelnbgaaGreatDoorAeFast4
import Derived.Test.YtfdldnomelnbgaaGreatDoorProg
import Derived.KernelRfl
namespace Go.Proofs.YtfdldnomelnbgaaGreatDoor
open Go Go.AE Go.DE Go.RowKit

def cwV : List Value → Option Value
 | [.int .i32 (.ofNat n)] => if n = 32 ∨ n = 42 ∨ n = 115 ∨ n = 120 then some (.int .i64 1) else none
 | _ => none
def oneS (s : ByteArray) : Bool := match s with
 | ⟨⟨[c]⟩⟩ => let n := c.toNat; Nat.beq n 32 || Nat.beq n 42 || Nat.beq n 115 || Nat.beq n 120
 | _ => false
def ccV : List Value → Option Value
 | [.string s] => bif oneS s then some (.int .i64 0) else none
 | _ => none
def cdV : List Value → Option Value
 | [.string s] => bif oneS s then some (.int .i64 1) else none
 | _ => none
def uvV : List Value → Option Value
 | [.string ⟨⟨[]⟩⟩] => some (.bool true)
 | _ => none
def tnV (st : AE.Stat) (g : HF) : List Value → RG
 | [.slice (some a) 1 _] => match loadG st g a 3 with
  | some [.string s, .bool _, .int .i64 _] => if s.size ≤ 1000 then some (.string s, .keep) else none
  | _ => none
 | _ => none
def codesV (i : Nat) : Option Value := match i with
 | 0 => some (.int .i64 1) | 1 => some (.int .i64 2) | 2 => some (.int .i64 3) | 3 => some (.int .i64 4) | 4 => some (.int .i64 5) | 5 => some (.int .i64 7) | 6 => some (.int .i64 8) | 7 => some (.int .i64 9) | _ => none
def stC : Nat → Nat → Option Value := fun b i => match b with
 | 2 => codesV i
 | _ => none
def stN0 : AE.Stat := ⟨fun _ _ => none, fun _ _ _ => none⟩
def extA : ExtG := fun f args g _ => match f with
 | 95 => keepX cwV args
 | 67 => keepX ccV args
 | 68 => keepX cdV args
 | 29 => keepX uvV args
 | 21 => tnV stN0 g args
 | _ => none
def stA : AE.Stat := ⟨stC, extOf extA⟩
theorem awake_run : answerF Tryz.prog stA extA 400 30 6 [] (.bool true) = true := by kernel_rfl
end Go.Proofs.YtfdldnomelnbgaaGreatDoor
