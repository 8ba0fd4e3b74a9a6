/-
  Text of a list of ticks answers their lines, or that a time decreases.
  Conditions: the list has at most ten ticks, whose times are in range; what the library's contracts ask of the memory.
-/
import Derived.Test.YtiphckeipbfbmaaGreatDoorJLib
import Derived.WalkKit
import Derived.BigCall
import Derived.LoopTactic
namespace Go.Proofs.YtiphckeipbfbmaaGreatDoor
open Go Go.AE Go.DE Go.RowKit

def NL : ByteArray := ⟨#[10]⟩
def textL : List Int → List UInt8
  | [] => []
  | t :: r => (tickS t).data.toList ++ 10 :: textL r
def textS (l : List Int) : ByteArray := ⟨(textL l).toArray⟩
theorem textL_snoc (l : List Int) (t : Int) : textL (l ++ [t]) = textL l ++ ((tickS t).data.toList ++ [10]) := by
  induction l with
  | nil => simp [textL]
  | cons x l ih => simp [textL, ih]
/-- Behind which record the time decreases (z: the time ahead; i: how many are ahead); 0: it does not. -/
def downAt : Int → Nat → List Int → Nat
  | _, _, [] => 0
  | z, i, t :: r => if t < z then i + 1 else downAt t (i + 1) r
def okT (t : Int) : Prop := 0 ≤ t ∧ t ≤ 1099511627776
theorem drop_at {ts : List Int} {k : Nat} (h : k < ts.length) : ts.drop k = ts.getD k 0 :: ts.drop (k + 1) := by
  rw [List.drop_eq_getElem_cons h, List.getD_eq_getElem?_getD, List.getElem?_eq_getElem h]
  rfl
theorem take_at {ts : List Int} {k : Nat} (h : k < ts.length) : ts.take (k + 1) = ts.take k ++ [ts.getD k 0] := by
  rw [List.take_succ_eq_append_getElem h, List.getD_eq_getElem?_getD, List.getElem?_eq_getElem h]
  rfl
theorem textL_len : ∀ (l : List Int), (∀ t ∈ l, okT t) → (textL l).length ≤ 40 * l.length
  | [], _ => Nat.le_refl _
  | t :: r, h => by
    have h0 := h t (List.mem_cons_self ..)
    have := textL_len r fun x hx => h x (List.mem_cons_of_mem _ hx)
    have hs := tick_size t
    rw [size_list] at hs
    have := itoa_len h0.1 h0.2
    simp only [textL, List.length_append, List.length_cons]
    omega
theorem bld_keep {B b : Nat} {bs : List Value} {w w' : World} (h : Lib.IsBuilder 86 5 B b bs w) (hk : ∀ k, k < w.heap.size → w'.heap[k]? = w.heap[k]?) : Lib.IsBuilder 86 5 B b bs w' := by
  have key : ∀ p, Lib.BuilderAt 86 5 B b p bs w → Lib.BuilderAt 86 5 B b p bs w' := by
    rintro p ⟨h1, v, h2, ⟨h3, h4⟩, h5⟩
    refine ⟨h1, v, (hk b (Array.getElem?_eq_some_iff.1 h2).1).trans h2, ⟨h3, h4.imp id ?_⟩, h5⟩
    rintro ⟨g, cap, cur, e, q1, q2, q3⟩
    exact ⟨g, cap, cur, e, q1, (hk g (Array.getElem?_eq_some_iff.1 q2).1).trans q2, q3⟩
  exact h.imp (key _) (key _)
theorem strCells_app (a b : ByteArray) : Lib.strCells (a ++ b) = Lib.strCells a ++ Lib.strCells b := by
  rw [Lib.strCells_eq, Lib.strCells_eq, Lib.strCells_eq, ByteArray.data_append, Array.toList_append]
  simp [Lib.byteCells]
/-- A tick in memory. -/
def recCells (w : World) (bk p : Nat) (t : Int) : Prop :=
  w.cell? ⟨bk, p, none⟩ = some (.int .i64 2) ∧ w.cell? ⟨bk, p + 1, none⟩ = some (.int .i64 t) ∧ w.cell? ⟨bk, p + 2, none⟩ = some (.slice none 0 0) ∧ w.cell? ⟨bk, p + 3, none⟩ = some (.string ⟨#[]⟩) ∧
  w.cell? ⟨bk, p + 4, none⟩ = some (.int .i64 0) ∧ w.cell? ⟨bk, p + 5, none⟩ = some (.bool false) ∧ w.cell? ⟨bk, p + 6, none⟩ = some (.bool false) ∧ w.cell? ⟨bk, p + 7, none⟩ = some (.int .i64 0) ∧
  w.cell? ⟨bk, p + 8, none⟩ = some (.bool false) ∧ w.cell? ⟨bk, p + 9, none⟩ = some (.int .i64 0)
theorem recCells.below {w w' : World} {bk p : Nat} {t : Int} (h : recCells w bk p t) (hb : Below w.heap.size w w') : recCells w' bk p t := by
  have hlt : bk < w.heap.size := World.block_lt_of_cell? _ _ h.1
  have key : ∀ {i : Nat} {v : Value}, w.cell? ⟨bk, i, none⟩ = some v → w'.cell? ⟨bk, i, none⟩ = some v := fun h => (hb.cell (p := ⟨bk, _, none⟩) hlt).trans h
  obtain ⟨a0, a1, a2, a3, a4, a5, a6, a7, a8, a9⟩ := h
  exact ⟨key a0, key a1, key a2, key a3, key a4, key a5, key a6, key a7, key a8, key a9⟩
def textV (ts : List Int) : Value := if downAt 0 0 ts = 0 then .tuple #[.string (textS ts), .int .i64 0] else .tuple #[.string ⟨#[]⟩, .int .i64 10]
set_option maxRecDepth 100000 in
set_option maxHeartbeats 4000000 in
theorem text_calls (bk o c : Nat) (ts : List Int) (w : World) (hn : ts.length ≤ 10) (hr : ∀ t ∈ ts, okT t) (hc : ∀ k, k < ts.length → recCells w bk (o + k * 10) (ts.getD k 0)) {W : World} (hT : Tabs W) (hW : Below W.heap.size W w) :
    Calls Tryz.prog 21 #[.slice (some ⟨bk, o, none⟩) ts.length c] w fun e w' => e = .returned (textV ts) ∧ Below w.heap.size w w' := by
  have hB0 := Lib.fresh_isBuilder 86 5 w
  generalize hnn : ts.length = n at *
  go_enter Tryz.func21, Tryz.ntmps21
  go_wp2
  go_loopw [5, 12] (fun l i wr => ∃ (k : Nat) (z : Int), k ≤ n ∧ i = .int .i64 k ∧ l = .int .i64 z ∧ downAt 0 0 ts = downAt z k (ts.drop k) ∧ Below w.heap.size w wr ∧ Lib.IsBuilder 86 5 w.heap.size w.heap.size (Lib.byteCells (textL (ts.take k))) wr) (fun _ i _ => n - (intOf i).toNat)
  case atStart =>
    exact ⟨0, 0, Nat.zero_le _, rfl, rfl, rfl, (Below.refl _ w).alloc (Nat.le_refl _) _, by simpa [textL, Lib.byteCells] using hB0⟩
  case round =>
    obtain ⟨k, z, hk, rfl, rfl, hd, hB, hI⟩ := hrel
    by_cases hkn : k < n
    case neg =>
      have hkn : k = n := by omega
      subst hkn
      have e1 : ts.drop k = [] := List.drop_eq_nil_of_le (by omega)
      have e2 : ts.take k = ts := List.take_of_length_le (by omega)
      rw [e2] at hI
      have hd0 : downAt 0 0 ts = 0 := by rw [hd, e1]; rfl
      have hv : textV ts = .tuple #[.string (textS ts), .int .i64 0] := by unfold textV; rw [if_pos hd0]
      clear hd e1 e2 hd0 hc
      go_wp2_with fail
      refine (Tryz.Builder_String_any w.heap.size w.heap.size (textL ts) _ hI hB.size).mono ?_
      rintro e W1 ⟨rfl, hb1⟩
      go_wp2
      go_ret2
      exact ⟨by rw [hv]; rfl, hB.trans hb1⟩
    obtain ⟨t, ht⟩ : ∃ t, t = ts.getD k 0 := ⟨_, rfl⟩
    have g : recCells wr bk (o + k * 10) t := by rw [ht]; exact (hc k hkn).below hB
    have hto : okT t := by
      rw [ht, List.getD_eq_getElem?_getD, List.getElem?_eq_getElem (by omega)]
      exact hr _ (List.getElem_mem _)
    have e1 : ts.drop k = t :: ts.drop (k + 1) := by rw [ht]; exact drop_at (by omega)
    have e2 : ts.take (k + 1) = ts.take k ++ [t] := by rw [ht]; exact take_at (by omega)
    have hlen : (textL (ts.take k)).length ≤ 40 * k := by
      have := textL_len (ts.take k) fun x hx => hr x (List.mem_of_mem_take hx)
      rw [List.length_take] at this
      have : min k ts.length ≤ k := Nat.min_le_left _ _
      omega
    have hd1 : downAt 0 0 ts = if t < z then k + 1 else downAt t (k + 1) (ts.drop (k + 1)) := by rw [hd, e1]; rfl
    clear hd ht hc
    obtain ⟨g0, g1, g2, g3, g4, g5, g6, g7, g8, g9⟩ := g
    go_wp2_with fail
    refine (enc_tick hT (hW.trans ((hB.mono hW.size).alloc (Nat.le_trans hW.size hB.size) _)) hto.1 hto.2).mono ?_
    rintro e W2 ⟨rfl, hb2⟩
    have hB2 : Below w.heap.size w W2 := (hB.alloc hB.size _).trans (hb2.mono (by simp; exact Nat.le_succ_of_le hB.size))
    have hI2 : Lib.IsBuilder 86 5 w.heap.size w.heap.size (Lib.byteCells (textL (ts.take k))) W2 := bld_keep (bld_keep hI fun j hj => Below.heap_alloc wr _ j hj) fun j hj => hb2.block j hj
    have hc1 : W2.cell? ⟨wr.heap.size, 1, none⟩ = some (.int .i64 t) := (hb2.cell (p := ⟨wr.heap.size, 1, none⟩) (by simp)).trans (by simp)
    have hts : (tickS t).size ≤ 26 := by
      have := itoa_len hto.1 hto.2
      rw [tick_size]
      omega
    clear e1 hB0
    go_wp2_with fail
    · have hlt : t < z := by assumption
      have hv : textV ts = .tuple #[.string ⟨#[]⟩, .int .i64 10] := by
        unfold textV
        rw [if_neg (by rw [hd1, if_pos hlt]; exact Nat.succ_ne_zero k)]
      go_ret2
      exact ⟨by rw [hv]; rfl, hB2⟩
    have hzt : z ≤ t := by assumption
    have hsz : (Lib.byteCells (textL (ts.take k))).length + (tickS t ++ (⟨#[10]⟩ : ByteArray)).size ≤ 140737488355328 := by
      rw [Lib.byteCells_length, ByteArray.size_append]
      have : (⟨#[10]⟩ : ByteArray).size = 1 := rfl
      omega
    have hws := writeString w.heap.size w.heap.size (Lib.byteCells (textL (ts.take k))) (tickS t ++ ⟨#[10]⟩) W2 hI2 hsz hB2.size
    clear hsz
    refine hws.mono ?_
    clear hws
    rintro e W3 ⟨rfl, h3, b3⟩
    have hB3 : Below w.heap.size w W3 := hB2.trans b3
    have hI3 : Lib.IsBuilder 86 5 w.heap.size w.heap.size (Lib.byteCells (textL (ts.take (k + 1)))) W3 := by
      rw [e2, textL_snoc, Lib.byteCells_append]
      refine .inr ?_
      rw [strCells_app] at h3
      simpa [Lib.strCells, Lib.byteCells] using h3
    have hd2 : downAt 0 0 ts = downAt t (k + 1) (ts.drop (k + 1)) := by rw [hd1, if_neg (by omega)]
    clear h3 hd1 hI2 hI
    go_wp2
    go_roundw
    case rel => exact ⟨k + 1, t, by omega, by go_num, rfl, hd2, hB3, hI3⟩
    case measure => simp [intOf]; omega
#print axioms text_calls
end Go.Proofs.YtiphckeipbfbmaaGreatDoor
