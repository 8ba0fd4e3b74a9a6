/-
 DERIVED: THE SHELF's CONTRACTS AT THIS DUMP, IN PLAIN WORDS (tools/lay-plain.mjs out of 'TryzShelf.lean', which tools/lay-shelf.mjs wrote): THE SAME DECLARATIONS UNDER THE SAME NAMES: 'import', 'namespace', 'open', 'def', 'theorem' AND NOTHING ELSE: no command of the shelf's: FOR A HAND-IN. Each laying: the table of numbers ('.._ren') and one theorem, a field a fact of the dump's own or the kernel's comparison; each contract: ONE APPLICATION.

 view.Text of one glyph answers the glyph's text.
 Conditions: the text has at most 1000 bytes.
-/
import Derived.Shelf.Strings.Builder1
import Derived.Shelf.Strings.BuilderF
import Derived.Shelf.Strings.BuilderK
import Derived.Shelf.LaysM
import Derived.Shelf.Unicode.ValidAny
import Derived.Ground.SlgnProg
import Derived.Test.YtfdldnomelnbgaaGreatDoorProg
import Derived.Test.YtfdldnomelnbgaaGreatDoorDeExt
import Derived.WalkKit
import Derived.BigCall
import Derived.LoopTactic
namespace Go.Proofs
open Go.Shelf
def Tryz.lays169_ren : Go.Shelf.Ren := ⟨fun | 169 => 60 | n => n, fun | 70 => 101 | 9 => 9 | 0 => 0 | 72 => 104 | 37 => 102 | 127 => 145 | 3 => 3 | 5 => 5 | n => n, fun | n => n⟩
theorem Tryz.lays169 : Go.Proofs.Lays.n169 Tryz.prog Tryz.lays169_ren := {
 mixed := by kernel_rfl
 f169 := Tryz.func60.trans (congrArg some (by kernel_rfl))
 t0 := Tryz.underlying0
 a0 := Tryz.isAgg0
 z0 := Tryz.sizeOf0
 v0 := Tryz.zeroValue0
 t3 := Tryz.underlying3
 a3 := Tryz.isAgg3
 z3 := Tryz.sizeOf3
 v3 := Tryz.zeroValue3
 t9 := Tryz.underlying9
 a9 := Tryz.isAgg9
 z9 := Tryz.sizeOf9
 v9 := Tryz.zeroValue9
 t37 := Tryz.underlying102
 a37 := Tryz.isAgg102
 z37 := Tryz.sizeOf102
 v37 := Tryz.zeroValue102
 t70 := Tryz.underlying101
 a70 := Tryz.isAgg101
 z70 := Tryz.sizeOf101
 v70 := Tryz.zeroValue101
 t72 := Tryz.underlying104
 a72 := Tryz.isAgg104
 z72 := Tryz.sizeOf104
 v72 := Tryz.zeroValue104
 t127 := Tryz.underlying145
 a127 := Tryz.isAgg145
 z127 := Tryz.sizeOf145
 v127 := Tryz.zeroValue145 }
theorem Tryz.Builder_Extra_169 : Builder.Extra Tryz.prog Tryz.lays169_ren := {
 sizeBuilder := by kernel_rfl
 liesBuilder := by kernel_rfl
 t5 := Tryz.underlying5
 a5 := Tryz.isAgg5
 z5 := Tryz.sizeOf5
 v5 := Tryz.zeroValue5
 infoByte := by kernel_rfl
 cellsByte := by kernel_rfl
 sizeByte := by kernel_rfl
 neB5 := by decide }
open Go.RowKit in
/-- (*strings.Builder).String: "String returns the accumulated string.": WHATEVER THE BUILDER HOLDS. (LAID: no walk: one application.) -/
theorem Tryz.Builder_String_any (B b : Nat) (l : List UInt8) (w : World) (h : Lib.IsBuilder 104 5 B b (Lib.byteCells l) w) (hBw : B ≤ w.heap.size) :
  Calls Tryz.prog 60 #[.pointer (some ⟨b, 0, none⟩)] w fun e w' => e = .returned (.string ⟨l.toArray⟩) ∧ Below B w w' := Any.Builder_String_any Tryz.lays169 Tryz.Builder_Extra_169 B b l w h hBw
def Tryz.lays166_ren : Go.Shelf.Ren := ⟨fun | 166 => 59 | 240 => 97 | 276 => 129 | n => n, fun | 70 => 101 | 72 => 104 | 37 => 102 | 75 => 106 | 80 => 109 | 164 => 179 | n => n, fun | n => n⟩
theorem Tryz.lays166 : Go.Proofs.Lays.n166 Tryz.prog Tryz.lays166_ren := {
 mixed := by kernel_rfl
 f166 := Tryz.func59.trans (congrArg some (by kernel_rfl))
 f240 := Tryz.func97.trans (congrArg some (by kernel_rfl))
 f276 := Tryz.func129.trans (congrArg some (by kernel_rfl))
 t0 := Tryz.underlying0
 a0 := Tryz.isAgg0
 z0 := Tryz.sizeOf0
 v0 := Tryz.zeroValue0
 t3 := Tryz.underlying3
 a3 := Tryz.isAgg3
 z3 := Tryz.sizeOf3
 v3 := Tryz.zeroValue3
 t4 := Tryz.underlying4
 a4 := Tryz.isAgg4
 z4 := Tryz.sizeOf4
 v4 := Tryz.zeroValue4
 t9 := Tryz.underlying9
 a9 := Tryz.isAgg9
 z9 := Tryz.sizeOf9
 v9 := Tryz.zeroValue9
 t20 := Tryz.underlying20
 a20 := Tryz.isAgg20
 z20 := Tryz.sizeOf20
 v20 := Tryz.zeroValue20
 t37 := Tryz.underlying102
 a37 := Tryz.isAgg102
 z37 := Tryz.sizeOf102
 v37 := Tryz.zeroValue102
 t70 := Tryz.underlying101
 a70 := Tryz.isAgg101
 z70 := Tryz.sizeOf101
 v70 := Tryz.zeroValue101
 t72 := Tryz.underlying104
 a72 := Tryz.isAgg104
 z72 := Tryz.sizeOf104
 v72 := Tryz.zeroValue104
 t75 := Tryz.underlying106
 a75 := Tryz.isAgg106
 z75 := Tryz.sizeOf106
 v75 := Tryz.zeroValue106
 t164 := Tryz.underlying179
 a164 := Tryz.isAgg179
 z164 := Tryz.sizeOf179
 v164 := Tryz.zeroValue179 }
theorem Tryz.Builder_Extra_166 : Builder.Extra Tryz.prog Tryz.lays166_ren := {
 sizeBuilder := by kernel_rfl
 liesBuilder := by kernel_rfl
 t5 := Tryz.underlying5
 a5 := Tryz.isAgg5
 z5 := Tryz.sizeOf5
 v5 := Tryz.zeroValue5
 infoByte := by kernel_rfl
 cellsByte := by kernel_rfl
 sizeByte := by kernel_rfl
 neB5 := by decide }
open Go.RowKit in
theorem Tryz.Builder_WriteString (B b : Nat) (bs : List Value) (s : ByteArray) (w : World) (h : Lib.IsBuilder 104 5 B b bs w) (hlen : bs.length + s.size ≤ 140737488355328) (hBw : B ≤ w.heap.size) :
  Calls Tryz.prog 59 #[.pointer (some ⟨b, 0, none⟩), .string s] w fun e w' => e = .returned (.tuple #[.int .i64 s.size, .nilIface]) ∧ (Lib.BuilderAt 104 5 B b (.pointer (some ⟨b, 0, none⟩)) (bs ++ Lib.strCells s) w' ∧ Below B w w') := Any.Builder_WriteString Tryz.lays166 Tryz.Builder_Extra_166 B b bs s w h hlen hBw
def Tryz.lays196_ren : Go.Shelf.Ren := ⟨fun | 196 => 65 | 259 => 99 | n => n, fun | 9 => 9 | 4 => 4 | 3 => 3 | 5 => 5 | 12 => 12 | 119 => 148 | 0 => 0 | 46 => 152 | 139 => 151 | 138 => 150 | 53 => 181 | n => n, fun | 3 => 0 | 4 => 1 | n => n⟩
theorem Tryz.lays196 : Go.Proofs.Lays.n196 Tryz.prog Tryz.lays196_ren := {
 mixed := by kernel_rfl
 f196 := Tryz.func65.trans (congrArg some (by kernel_rfl))
 f259 := Tryz.func99.trans (congrArg some (by kernel_rfl))
 t0 := Tryz.underlying0
 a0 := Tryz.isAgg0
 z0 := Tryz.sizeOf0
 v0 := Tryz.zeroValue0
 t3 := Tryz.underlying3
 a3 := Tryz.isAgg3
 z3 := Tryz.sizeOf3
 v3 := Tryz.zeroValue3
 t4 := Tryz.underlying4
 a4 := Tryz.isAgg4
 z4 := Tryz.sizeOf4
 v4 := Tryz.zeroValue4
 t5 := Tryz.underlying5
 a5 := Tryz.isAgg5
 z5 := Tryz.sizeOf5
 v5 := Tryz.zeroValue5
 t9 := Tryz.underlying9
 a9 := Tryz.isAgg9
 z9 := Tryz.sizeOf9
 v9 := Tryz.zeroValue9
 t12 := Tryz.underlying12
 a12 := Tryz.isAgg12
 z12 := Tryz.sizeOf12
 v12 := Tryz.zeroValue12
 t46 := Tryz.underlying152
 a46 := Tryz.isAgg152
 z46 := Tryz.sizeOf152
 v46 := Tryz.zeroValue152
 t53 := Tryz.underlying181
 a53 := Tryz.isAgg181
 z53 := Tryz.sizeOf181
 v53 := Tryz.zeroValue181
 t119 := Tryz.underlying148
 a119 := Tryz.isAgg148
 z119 := Tryz.sizeOf148
 t138 := Tryz.underlying150
 a138 := Tryz.isAgg150
 z138 := Tryz.sizeOf150
 v138 := Tryz.zeroValue150
 t139 := Tryz.underlying151
 a139 := Tryz.isAgg151
 z139 := Tryz.sizeOf151
 v139 := Tryz.zeroValue151
 g3 := by kernel_rfl
 g4 := by kernel_rfl }
open Go.RowKit in
/-- unicode/utf8.ValidString, at every string. -/
theorem Tryz.utf8_ValidString (s : ByteArray) (w : World) (hs : s.size ≤ 9223372036854775807) (hT : Lib.Utf8Tabs (Tryz.lays196_ren.g 3) (Tryz.lays196_ren.g 4) w) :
  Calls Tryz.prog 65 #[.string s] w fun e w' => e = .returned (.bool (Lib.validD s.data.toList)) ∧ Below w.heap.size w w' := Any.utf8_ValidString Tryz.lays196 s w hs hT
end Go.Proofs

namespace Go.Proofs.YtfdldnomelnbgaaGreatDoor
open Go Go.AE Go.DE Go.RowKit

theorem bld_keep {B b : Nat} {bs : List Value} {w w' : World} (h : Lib.IsBuilder 104 5 B b bs w) (hk : ∀ k, k < w.heap.size → w'.heap[k]? = w.heap[k]?) : Lib.IsBuilder 104 5 B b bs w' := by
 have key : ∀ p, Lib.BuilderAt 104 5 B b p bs w → Lib.BuilderAt 104 5 B b p bs w' := by
  rintro p ⟨h1, v, h2, ⟨h3, h4⟩, h5⟩
  refine ⟨h1, v, (hk b (Array.getElem?_eq_some_iff.1 h2).1).trans h2, ⟨h3, h4.imp id ?_⟩, h5⟩
  rintro ⟨g, cap, cur, e, q1, q2, q3⟩
  exact ⟨g, cap, cur, e, q1, (hk g (Array.getElem?_eq_some_iff.1 q2).1).trans q2, q3⟩
 exact h.imp (key _) (key _)
def upTo (k : Nat) (s : ByteArray) : List UInt8 := if k = 0 then [] else s.data.toList
set_option maxRecDepth 100000 in
set_option maxHeartbeats 4000000 in
theorem text_calls (bk o c : Nat) (s : ByteArray) (x : Bool) (y : Int) (w : World) (hs : s.size ≤ 1000) (h0 : w.cell? ⟨bk, o, none⟩ = some (.string s)) (h1 : w.cell? ⟨bk, o + 1, none⟩ = some (.bool x)) (h2 : w.cell? ⟨bk, o + 2, none⟩ = some (.int .i64 y)) :
  Calls Tryz.prog 21 #[.slice (some ⟨bk, o, none⟩) 1 c] w fun e w' => e = .returned (.string s) ∧ Below w.heap.size w w' := by
 have hB0 := Lib.fresh_isBuilder 104 5 w
 have hlt : bk < w.heap.size := World.block_lt_of_cell? _ _ h0
 go_enter Tryz.func21, Tryz.ntmps21
 go_wp2
 go_loopw [8] (fun i wr => ∃ (k : Nat), k ≤ 1 ∧ i = .int .i64 k ∧ Below w.heap.size w wr ∧ Lib.IsBuilder 104 5 w.heap.size w.heap.size (Lib.byteCells (upTo k s)) wr) (fun i _ => 1 - (intOf i).toNat)
 case atStart =>
  exact ⟨0, Nat.zero_le _, rfl, (Below.refl _ w).alloc (Nat.le_refl _) _, by simpa [upTo, Lib.byteCells] using hB0⟩
 case round =>
  obtain ⟨k, hk, rfl, hB, hI⟩ := hrel
  by_cases hkn : k < 1
  case neg =>
   have hkn : k = 1 := by omega
   subst hkn
   go_wp2_with fail
   refine (Tryz.Builder_String_any w.heap.size w.heap.size (upTo 1 s) _ hI hB.size).mono ?_
   rintro e W1 ⟨rfl, hb1⟩
   go_wp2
   go_ret
   exact ⟨rfl, hB.trans hb1⟩
  have hk0 : k = 0 := by omega
  subst hk0
  have g0 : wr.cell? ⟨bk, o, none⟩ = some (.string s) := (hB.cell (p := ⟨bk, _, none⟩) hlt).trans h0
  have g1 : wr.cell? ⟨bk, o + 1, none⟩ = some (.bool x) := (hB.cell (p := ⟨bk, _, none⟩) hlt).trans h1
  have g2 : wr.cell? ⟨bk, o + 2, none⟩ = some (.int .i64 y) := (hB.cell (p := ⟨bk, _, none⟩) hlt).trans h2
  clear hB0 h0 h1 h2
  go_wp2_with fail
  have hI2 : Lib.IsBuilder 104 5 w.heap.size w.heap.size (Lib.byteCells (upTo 0 s)) (wr.alloc (Obj.cells #[Value.string s, Value.bool x, Value.int IntKind.i64 y] 84)) := bld_keep hI fun j hj => Below.heap_alloc wr _ j hj
  have hB2 : Below w.heap.size w (wr.alloc (Obj.cells #[Value.string s, Value.bool x, Value.int IntKind.i64 y] 84)) := hB.alloc hB.size _
  have hws := Tryz.Builder_WriteString w.heap.size w.heap.size (Lib.byteCells (upTo 0 s)) s _ hI2 (by show 0 + s.size ≤ _; omega) hB2.size
  refine hws.mono ?_
  clear hws
  rintro e W3 ⟨rfl, h3, b3⟩
  have hB3 : Below w.heap.size w W3 := hB2.trans b3
  have hI3 : Lib.IsBuilder 104 5 w.heap.size w.heap.size (Lib.byteCells (upTo 1 s)) W3 := by
   refine .inr ?_
   have e : Lib.byteCells (upTo 0 s) ++ Lib.strCells s = Lib.byteCells (upTo 1 s) := by
    rw [Lib.strCells_eq]
    rfl
   rw [e] at h3
   exact h3
  clear h3 hI2 hI hB2 hB
  go_wp2
  go_roundw
  case rel => exact ⟨1, Nat.le_refl _, by go_num, hB3, hI3⟩
  case measure => simp [intOf]
end Go.Proofs.YtfdldnomelnbgaaGreatDoor
