/-
  view.Text of one glyph answers the glyph's text.
  Conditions: the text has at most 1000 bytes.
-/
import Derived.Test.YtabchbchopgnfaaGreatDoorJShelf
import Derived.Test.YtabchbchopgnfaaGreatDoorDeExt
import Derived.WalkKit
import Derived.BigCall
import Derived.LoopTactic
namespace Go.Proofs.YtabchbchopgnfaaGreatDoor
open Go Go.AE Go.DE Go.RowKit

theorem bld_keep {B b : Nat} {bs : List Value} {w w' : World} (h : Lib.IsBuilder 103 5 B b bs w) (hk : ∀ k, k < w.heap.size → w'.heap[k]? = w.heap[k]?) : Lib.IsBuilder 103 5 B b bs w' := by
  have key : ∀ p, Lib.BuilderAt 103 5 B b p bs w → Lib.BuilderAt 103 5 B b p bs w' := by
    rintro p ⟨h1, v, h2, ⟨h3, h4⟩, h5⟩
    refine ⟨h1, v, (hk b (Array.getElem?_eq_some_iff.1 h2).1).trans h2, ⟨h3, h4.imp id ?_⟩, h5⟩
    rintro ⟨g, cap, cur, e, q1, q2, q3⟩
    exact ⟨g, cap, cur, e, q1, (hk g (Array.getElem?_eq_some_iff.1 q2).1).trans q2, q3⟩
  exact h.imp (key _) (key _)
def upTo (k : Nat) (s : ByteArray) : List UInt8 := if k = 0 then [] else s.data.toList
set_option maxRecDepth 100000 in
set_option maxHeartbeats 4000000 in
theorem text_calls (bk o c : Nat) (s : ByteArray) (x : Bool) (y : Int) (w : World) (hs : s.size ≤ 1000) (h0 : w.cell? ⟨bk, o, none⟩ = some (.string s)) (h1 : w.cell? ⟨bk, o + 1, none⟩ = some (.bool x)) (h2 : w.cell? ⟨bk, o + 2, none⟩ = some (.int .i64 y)) :
    Calls Tryz.prog 18 #[.slice (some ⟨bk, o, none⟩) 1 c] w fun e w' => e = .returned (.string s) ∧ Below w.heap.size w w' := by
  have hB0 := Lib.fresh_isBuilder 103 5 w
  have hlt : bk < w.heap.size := World.block_lt_of_cell? _ _ h0
  go_enter Tryz.func18, Tryz.ntmps18
  go_wp2
  go_loopw [8] (fun i wr => ∃ (k : Nat), k ≤ 1 ∧ i = .int .i64 k ∧ Below w.heap.size w wr ∧ Lib.IsBuilder 103 5 w.heap.size w.heap.size (Lib.byteCells (upTo k s)) wr) (fun i _ => 1 - (intOf i).toNat)
  case atStart =>
    exact ⟨0, Nat.zero_le _, rfl, (Below.refl _ w).alloc (Nat.le_refl _) _, by simpa [upTo, Lib.byteCells] using hB0⟩
  case round =>
    obtain ⟨k, hk, rfl, hB, hI⟩ := hrel
    by_cases hkn : k < 1
    case neg =>
      have hkn : k = 1 := by omega
      subst hkn
      go_wp2_with fail
      refine (Tryz.Builder_String_any w.heap.size w.heap.size (upTo 1 s) _ hI hB.size).mono ?_
      rintro e W1 ⟨rfl, hb1⟩
      go_wp2
      go_ret
      exact ⟨rfl, hB.trans hb1⟩
    have hk0 : k = 0 := by omega
    subst hk0
    have g0 : wr.cell? ⟨bk, o, none⟩ = some (.string s) := (hB.cell (p := ⟨bk, _, none⟩) hlt).trans h0
    have g1 : wr.cell? ⟨bk, o + 1, none⟩ = some (.bool x) := (hB.cell (p := ⟨bk, _, none⟩) hlt).trans h1
    have g2 : wr.cell? ⟨bk, o + 2, none⟩ = some (.int .i64 y) := (hB.cell (p := ⟨bk, _, none⟩) hlt).trans h2
    clear hB0 h0 h1 h2
    go_wp2_with fail
    have hI2 : Lib.IsBuilder 103 5 w.heap.size w.heap.size (Lib.byteCells (upTo 0 s)) (wr.alloc (Obj.cells #[Value.string s, Value.bool x, Value.int IntKind.i64 y] 92)) := bld_keep hI fun j hj => Below.heap_alloc wr _ j hj
    have hB2 : Below w.heap.size w (wr.alloc (Obj.cells #[Value.string s, Value.bool x, Value.int IntKind.i64 y] 92)) := hB.alloc hB.size _
    have hws := Tryz.Builder_WriteString w.heap.size w.heap.size (Lib.byteCells (upTo 0 s)) s _ hI2 (by show 0 + s.size ≤ _; omega) hB2.size
    refine hws.mono ?_
    clear hws
    rintro e W3 ⟨rfl, h3, b3⟩
    have hB3 : Below w.heap.size w W3 := hB2.trans b3
    have hI3 : Lib.IsBuilder 103 5 w.heap.size w.heap.size (Lib.byteCells (upTo 1 s)) W3 := by
      refine .inr ?_
      have e : Lib.byteCells (upTo 0 s) ++ Lib.strCells s = Lib.byteCells (upTo 1 s) := by
        rw [Lib.strCells_eq]
        rfl
      rw [e] at h3
      exact h3
    clear h3 hI2 hI hB2 hB
    go_wp2
    go_roundw
    case rel => exact ⟨1, Nat.le_refl _, by go_num, hB3, hI3⟩
    case measure => simp [intOf]
end Go.Proofs.YtabchbchopgnfaaGreatDoor
