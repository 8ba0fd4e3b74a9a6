/-
  What the law JournalOrder computes is true.
  Conditions: what the library's contracts ask of the memory; the list's cells lie where its slice says.
-/
import Derived.Test.YtiphckeipbfbmaaGreatDoorJRead
namespace Go.Proofs.YtiphckeipbfbmaaGreatDoor
open Go Go.AE Go.DE Go.RowKit

def tickCells (t : Int) : List Value := [.int .i64 2, .int .i64 t, .slice none 0 0, .string ⟨#[]⟩, .int .i64 0, .bool false, .bool false, .int .i64 0, .bool false, .int .i64 0]
def cellsL : List Int → List Value
  | [] => []
  | t :: r => tickCells t ++ cellsL r
theorem cellsL_snoc (l : List Int) (t : Int) : cellsL (l ++ [t]) = cellsL l ++ tickCells t := by
  induction l with
  | nil => simp [cellsL]
  | cons x l ih => simp [cellsL, ih]
theorem cellsL_get : ∀ (l : List Int) (k f : Nat), k < l.length → f < 10 → (cellsL l)[k * 10 + f]? = (tickCells (l.getD k 0))[f]?
  | [], k, f, h, _ => by simp at h
  | t :: r, 0, f, _, hf => by
    have : f < (tickCells t).length := hf
    simp [cellsL, List.getElem?_append_left this]
  | t :: r, k + 1, f, h, hf => by
    have hl : (tickCells t).length = 10 := rfl
    rw [cellsL, List.getElem?_append_right (by rw [hl]; omega), hl, show (k + 1) * 10 + f - 10 = k * 10 + f by omega, cellsL_get r k f (by simpa using h) hf]
    simp
/-- The slice that the law makes. -/
theorem own_rec {w : World} {base B0 c : Nat} {l : List Int} (h : w.ownsRow base 26 10 (.slice (some ⟨B0, 0, none⟩) l.length c) l.length (cellsL l)) : ∀ k, k < l.length → recCells w B0 (0 + k * 10) (l.getD k 0) := by
  intro k hk
  obtain ⟨hl, ⟨e, _⟩ | ⟨g, cap, cur, e, hb, hg, h1, h2, h3, h4⟩⟩ := h
  · cases e
  cases e
  have key : ∀ f, f < 10 → w.cell? ⟨B0, 0 + k * 10 + f, none⟩ = (tickCells (l.getD k 0))[f]? := by
    intro f hf
    rw [← cellsL_get l k f hk hf, ← h4]
    have hlt : k * 10 + f < l.length * 10 := by omega
    rw [List.getElem?_take_of_lt hlt]
    simp only [World.cell?, hg]
    simp
  exact ⟨key 0 (by decide), key 1 (by decide), key 2 (by decide), key 3 (by decide), key 4 (by decide), key 5 (by decide), key 6 (by decide), key 7 (by decide), key 8 (by decide), key 9 (by decide)⟩
theorem downAt_snoc : ∀ (l : List Int) (z t : Int) (i : Nat), downAt z i (l ++ [t]) = if downAt z i l ≠ 0 then downAt z i l else if t < l.getLastD z then i + l.length + 1 else 0
  | [], z, t, i => by simp [downAt]
  | x :: l, z, t, i => by
    rw [List.cons_append, downAt, downAt]
    by_cases h : x < z
    · rw [if_pos h, if_pos h, if_pos (Nat.succ_ne_zero i)]
    · rw [if_neg h, if_neg h, downAt_snoc l x t (i + 1)]
      have e1 : (x :: l).getLastD z = l.getLastD x := by cases l <;> simp [List.getLastD]
      rw [e1, List.length_cons, show i + 1 + l.length + 1 = i + (l.length + 1) + 1 by omega]
theorem last_take {ts : List Int} {k : Nat} (h0 : 0 < k) (h : k ≤ ts.length) : (ts.take k).getLastD 0 = ts.getD (k - 1) 0 := by
  rw [List.getLastD_eq_getLast?, List.getLast?_eq_getElem?, List.length_take, Nat.min_eq_left h, List.getElem?_take_of_lt (by omega), List.getD_eq_getElem?_getD]
/-- What the law has in 'bad' behind k rounds. -/
def badK (ts : List Int) (k : Nat) : Nat := downAt 0 0 (ts.take k)
theorem badK_zero (ts : List Int) : badK ts 0 = 0 := rfl
theorem badK_step {ts : List Int} {k : Nat} (h : k < ts.length) (hr : 0 ≤ ts.getD k 0) :
    badK ts (k + 1) = if badK ts k ≠ 0 then badK ts k else if 0 < k ∧ ts.getD k 0 < ts.getD (k - 1) 0 then k + 1 else 0 := by
  unfold badK
  rw [take_at h, downAt_snoc]
  by_cases h1 : downAt 0 0 (ts.take k) ≠ 0
  · rw [if_pos h1, if_pos h1]
  · rw [if_neg h1, if_neg h1, List.length_take, Nat.min_eq_left (by omega), Nat.zero_add]
    by_cases h0 : 0 < k
    · rw [last_take h0 (by omega)]
      by_cases h2 : ts.getD k 0 < ts.getD (k - 1) 0
      · rw [if_pos h2, if_pos ⟨h0, h2⟩]
      · rw [if_neg h2, if_neg fun h => h2 h.2]
    · obtain rfl : k = 0 := by omega
      rw [List.take_zero]
      rw [if_neg (fun h' => by have : ts.getD 0 0 < 0 := h'; omega), if_neg (by omega)]
theorem badK_all (ts : List Int) : badK ts ts.length = downAt 0 0 ts := by unfold badK; rw [List.take_length]
theorem downAt_le : ∀ (l : List Int) (z : Int) (i : Nat), downAt z i l ≤ i + l.length
  | [], z, i => by simp [downAt]
  | x :: l, z, i => by
    rw [downAt]
    split
    · simp
    · have := downAt_le l x (i + 1); simp only [List.length_cons]; omega

theorem awake_calls {W w : World} (hT : Tabs W) (hw : Below W.heap.size W w) : Calls Tryz.prog 11 #[] w fun e w' => e = .returned (.bool true) ∧ Below w.heap.size w w' :=
  calls_of_flat (awake_ok hT) (args := []) (v := .bool true) rfl rfl rfl hw
theorem enc_bad {W w : World} (hB : Tabs W) (hw : Below W.heap.size W w) {t : Int} (h : ¬ okT t) :
    Calls Tryz.prog 12 #[tickV t] w fun e w' => e = .returned (.tuple #[.string ⟨#[]⟩, .int .i64 2]) ∧ Below w.heap.size w w' :=
  calls_of_con' (d := .tup [sv ⟨#[]⟩, iv 2]) (args := [tickD t]) (vs := [tickV t]) (args' := [tickV t]) (fun _ _ _ h => tup_dr h) rfl (stJ_good W) (ext_ok hB) follows Tryz.func12 (by kernel_rfl) (by kernel_rfl) tickC_ok (fun k hk =>
    hT ⟨rfl, rfl, rfl, rfl, rfl, rfl, rfl, rfl, rfl⟩ (cF (by cases hb : inT t <;> first | rfl | exact (h (inT_iff.1 hb)).elim) hk)) (.cons (tick_dr t) (.nil _ _)) (.cons (flat_VR _ rfl) (.nil _)) hw
theorem info26 : (Tryz.prog.info? 26).map (fun i => (i.zero, i.size, i.bytes)) = some (some (.agg #[.int .i64 0, .int .i64 0, .slice none 0 0, .string ⟨#[]⟩, .int .i64 0, .bool false, .bool false, .int .i64 0, .bool false, .int .i64 0]), 10, 96) := by kernel_rfl

theorem cell_below2 {w w' : World} {b i : Nat} {v : Value} (h : w.cell? ⟨b, i, none⟩ = some v) (hb : Below w.heap.size w w') : w'.cell? ⟨b, i, none⟩ = some v :=
  (hb.cell (p := ⟨b, i, none⟩) (World.block_lt_of_cell? _ _ h)).trans h
theorem own_keep {base e size n : Nat} {v : Value} {xs : List Value} {w w' : World} (h : w.ownsRow base e size v n xs) (hk : ∀ k, k < w.heap.size → w'.heap[k]? = w.heap[k]?) : w'.ownsRow base e size v n xs := by
  obtain ⟨hl, h | ⟨g, cap, cur, e0, hb, hg, h1⟩⟩ := h
  · exact ⟨hl, .inl h⟩
  · exact ⟨hl, .inr ⟨g, cap, cur, e0, hb, (hk g (Array.getElem?_eq_some_iff.1 hg).1).trans hg, h1⟩⟩
theorem own_some {base e size n : Nat} {v : Value} {xs : List Value} {w : World} (h : w.ownsRow base e size v n xs) (hv : v ≠ .slice none 0 0) : ∃ g c, v = .slice (some ⟨g, 0, none⟩) n c := by
  obtain ⟨hl, h | ⟨g, cap, cur, e0, _⟩⟩ := h
  · exact (hv h.1).elim
  · exact ⟨g, cap, e0⟩
theorem rec_at {w W2 : World} {t : Int} {cs : Array Value} (h : cs = (tickCells t).toArray) (hb : Below (w.alloc (.cells cs 26)).heap.size (w.alloc (.cells cs 26)) W2) :
    W2.cell? ⟨w.heap.size, 0, none⟩ = some (.int .i64 2) ∧ W2.cell? ⟨w.heap.size, 1, none⟩ = some (.int .i64 t) ∧ W2.cell? ⟨w.heap.size, 2, none⟩ = some (.slice none 0 0) ∧ W2.cell? ⟨w.heap.size, 3, none⟩ = some (.string ⟨#[]⟩) ∧
    W2.cell? ⟨w.heap.size, 4, none⟩ = some (.int .i64 0) ∧ W2.cell? ⟨w.heap.size, 5, none⟩ = some (.bool false) ∧ W2.cell? ⟨w.heap.size, 6, none⟩ = some (.bool false) ∧ W2.cell? ⟨w.heap.size, 7, none⟩ = some (.int .i64 0) ∧
    W2.cell? ⟨w.heap.size, 8, none⟩ = some (.bool false) ∧ W2.cell? ⟨w.heap.size, 9, none⟩ = some (.int .i64 0) := by
  subst h
  have key : ∀ f, f < 10 → W2.cell? ⟨w.heap.size, f, none⟩ = (tickCells t)[f]? := fun f hf => by
    rw [hb.cell (p := ⟨w.heap.size, f, none⟩) (by simp)]
    simp
  exact ⟨key 0 (by decide), key 1 (by decide), key 2 (by decide), key 3 (by decide), key 4 (by decide), key 5 (by decide), key 6 (by decide), key 7 (by decide), key 8 (by decide), key 9 (by decide)⟩
theorem textS_snoc (l : List Int) (t : Int) : textS (l ++ [t]) = textS l ++ tickS t ++ ⟨#[10]⟩ := by
  refine bytes_ext ?_
  rw [ByteArray.data_append, ByteArray.data_append, Array.toList_append, Array.toList_append]
  show textL (l ++ [t]) = _
  rw [textL_snoc, List.append_assoc]
  rfl
theorem new_cells {w : World} {cs : Array Value} {ty : TypeId} {l : List Value} (h : cs = l.toArray) : ∀ (j : Nat) (u : Value), l[j]? = some u → (w.alloc (.cells cs ty)).cell? ((⟨w.heap.size, 0, none⟩ : Addr).add j) = some u := by
  subst h
  intro j u hj
  unfold Addr.add
  split
  · rename_i h0
    subst h0
    simp [hj]
  · simp [hj]
theorem own_base {base e size n g c : Nat} {xs : List Value} {w : World} (h : w.ownsRow base e size (.slice (some ⟨g, 0, none⟩) n c) n xs) : base ≤ g := by
  obtain ⟨_, ⟨h, _⟩ | ⟨g', cap, cur, e0, hb, _⟩⟩ := h
  · cases h
  · cases e0; exact hb
theorem tick_one (t : Int) : ∀ u ∈ tickCells t, u.oneCell' = true := by
  intro u hu
  simp only [tickCells, List.mem_cons, List.not_mem_nil, or_false] at hu
  rcases hu with rfl | rfl | rfl | rfl | rfl | rfl | rfl | rfl | rfl | rfl <;> rfl
theorem len_ge (ts : List Int) {n : Nat} (h : ts.length = n) (hn : ¬ n ≤ 10) : ¬ (n : Int) ≤ 10 := by omega
set_option maxRecDepth 100000 in
set_option maxHeartbeats 4000000 in
theorem order_long (ao : Option Addr) (c n : Nat) (w : World) (hn : 10 < n) {W : World} (hT : Tabs2 W) (hW : Below W.heap.size W w) :
    Calls Tryz.prog 9 #[.slice ao n c] w fun e w' => e = .returned (.bool true) ∧ Below w.heap.size w w' := by
  go_enter Tryz.func9, Tryz.ntmps9
  go_wp2_with fail
  refine (awake_calls hT.tabs hW).mono ?_
  rintro e w1 ⟨rfl, hb⟩
  go_wp2
  go_ret
  exact ⟨rfl, hb⟩
set_option maxRecDepth 100000 in
set_option maxHeartbeats 4000000 in
theorem order_calls (bk o c : Nat) (ts : List Int) (w : World) (hn : ts.length ≤ 10) (hc : ∀ k, k < ts.length → w.cell? ⟨bk, o + k, none⟩ = some (.int .i64 (ts.getD k 0))) {W : World} (hT : Tabs2 W) (hW : Below W.heap.size W w) :
    Calls Tryz.prog 9 #[.slice (some ⟨bk, o, none⟩) ts.length c] w fun e w' => e = .returned (.bool true) ∧ Below w.heap.size w w' := by
  generalize hnn : ts.length = n at *
  go_enter Tryz.func9, Tryz.ntmps9
  go_wp2_with fail
  go_loopw [3, 4, 5, 23] (fun v s b i wr => ∃ (k : Nat), k ≤ n ∧ i = .int .i64 k ∧ b = .int .i64 (badK ts k) ∧ s = .string (textS (ts.take k)) ∧ (∀ t ∈ ts.take k, okT t) ∧ (∃ g c', v = .slice (some ⟨g, 0, none⟩) k c') ∧ wr.ownsRow w.heap.size 26 10 v k (cellsL (ts.take k)) ∧ Below w.heap.size w wr) (fun _ _ _ i _ => n - (intOf i).toNat)
  case atStart =>
    refine ⟨0, Nat.zero_le _, rfl, rfl, rfl, fun t ht => by simp at ht, ⟨_, _, rfl⟩, ⟨rfl, .inr ⟨w.heap.size, 0, #[], rfl, Nat.le_refl _, ?_, Nat.le_refl _, Nat.zero_le _, rfl, rfl⟩⟩, (Below.refl _ w).alloc (Nat.le_refl _) _⟩
    exact Array.getElem?_push_size
  case round =>
    obtain ⟨k, hk, rfl, rfl, rfl, hr, ⟨g, c', rfl⟩, hown, hB⟩ := hrel
    by_cases hkn : k < n
    case neg =>
      have hkn' : k = n := by omega
      subst hkn'
      have e2 : ts.take k = ts := List.take_of_length_le (by omega)
      have hbk : badK ts k = downAt 0 0 ts := by unfold badK; rw [e2]
      rw [e2] at hown hr ⊢
      rw [hbk]
      have hcl := own_rec (w := wr) (l := ts) (base := w.heap.size) (B0 := g) (c := c') (by rw [hnn]; exact hown)
      have htc := text_calls g 0 c' ts wr (by omega) hr hcl hT.tabs (hW.trans (hB.mono hW.size))
      rw [hnn] at htc
      have hle := downAt_le ts 0 0
      have hWr : Below W.heap.size W wr := hW.trans (hB.mono hW.size)
      clear hc hown hcl hbk e2 hkn
      by_cases hd : downAt 0 0 ts = 0
      · have hv : textV ts = .tuple #[.string (textS ts), .int .i64 0] := by unfold textV; rw [if_pos hd]
        have hrc : ∀ w1, Below W.heap.size W w1 → Calls Tryz.prog 23 #[.string (textS ts)] w1 fun e w' => (∃ p c, e = .returned (.tuple #[.slice p k c, .int .i64 0, .int .i64 0])) ∧ Below w1.heap.size w1 w' := fun w1 hw1 => by
          have h := read_calls hT hw1 ts (by omega) hr
          simp only [hd, if_true, hnn] at h
          exact h
        rw [hv] at htc
        rw [hd]
        clear hv hr hle hd
        go_wp2_with fail
        refine htc.mono ?_
        rintro e W1 ⟨rfl, hb1⟩
        clear htc
        have hB1 : Below w.heap.size w W1 := hB.trans (hb1.mono hB.size)
        have hW1 : Below W.heap.size W W1 := hWr.trans (hb1.mono hWr.size)
        go_wp2_with fail
        refine (hrc W1 hW1).mono ?_
        rintro e W2 ⟨⟨p, c2, rfl⟩, hb2⟩
        clear hrc
        have hB2 : Below w.heap.size w W2 := hB1.trans (hb2.mono hB1.size)
        have hW2 : Below W.heap.size W W2 := hW1.trans (hb2.mono hW1.size)
        go_wp2_with fail
        refine (awake_calls hT.tabs hW2).mono ?_
        rintro e W3 ⟨rfl, hb3⟩
        go_wp2
        go_ret
        exact ⟨rfl, hB2.trans (hb3.mono hB2.size)⟩
      · have hv : textV ts = .tuple #[.string ⟨#[]⟩, .int .i64 10] := by unfold textV; rw [if_neg hd]
        have hrc : ∀ w1, Below W.heap.size W w1 → Calls Tryz.prog 23 #[.string (textS ts)] w1 fun e w' => (∃ p c, e = .returned (.tuple #[.slice p 0 c, .int .i64 (downAt 0 0 ts), .int .i64 10])) ∧ Below w1.heap.size w1 w' := fun w1 hw1 => by
          have h := read_calls hT hw1 ts (by omega) hr
          simp only [hd, if_false] at h
          exact h
        rw [hv] at htc
        obtain ⟨D, hD⟩ : ∃ D, D = downAt 0 0 ts := ⟨_, rfl⟩
        rw [← hD] at hrc hd hle ⊢
        have hD0 : (0 : Int) < D := by omega
        clear hv hr hD
        go_wp2_with fail
        refine htc.mono ?_
        rintro e W1 ⟨rfl, hb1⟩
        clear htc
        have hB1 : Below w.heap.size w W1 := hB.trans (hb1.mono hB.size)
        have hW1 : Below W.heap.size W W1 := hWr.trans (hb1.mono hWr.size)
        go_wp2_with fail
        refine (hrc W1 hW1).mono ?_
        rintro e W2 ⟨⟨p, c2, rfl⟩, hb2⟩
        clear hrc
        have hB2 : Below w.heap.size w W2 := hB1.trans (hb2.mono hB1.size)
        have hW2 : Below W.heap.size W W2 := hW1.trans (hb2.mono hW1.size)
        go_wp2_with fail
        refine (awake_calls hT.tabs hW2).mono ?_
        rintro e W3 ⟨rfl, hb3⟩
        go_wp2
        go_ret
        exact ⟨rfl, hB2.trans (hb3.mono hB2.size)⟩
    obtain ⟨t, ht⟩ : ∃ t, t = ts.getD k 0 := ⟨_, rfl⟩
    have hcx : wr.cell? ⟨bk, o + k, none⟩ = some (.int .i64 t) := by rw [ht]; exact cell_below2 (hc k hkn) hB
    have hnot : ¬ okT t → t < 0 ∨ 1099511627776 < t := fun h => by unfold okT at h; omega
    by_cases hto : okT t
    case neg =>
      clear ht hc hown hr
      go_wp2_with fail
      refine (enc_bad hT.tabs (hW.trans ((hB.mono hW.size).alloc (Nat.le_trans hW.size hB.size) _)) hto).mono ?_
      rintro e W2 ⟨rfl, hb2⟩
      have hor := hnot hto
      clear hnot hcx
      have hB2 : Below w.heap.size w W2 := (hB.alloc hB.size _).trans (hb2.mono (by simp; exact Nat.le_succ_of_le hB.size))
      rcases hor with hor | hor
      · go_wp2_with fail
        refine (awake_calls hT.tabs (hW.trans (hB2.mono hW.size))).mono ?_
        rintro e W3 ⟨rfl, hb3⟩
        go_wp2
        go_ret
        exact ⟨rfl, hB2.trans (hb3.mono hB2.size)⟩
      · go_wp2_with fail
        refine (awake_calls hT.tabs (hW.trans (hB2.mono hW.size))).mono ?_
        rintro e W3 ⟨rfl, hb3⟩
        go_wp2
        go_ret
        exact ⟨rfl, hB2.trans (hb3.mono hB2.size)⟩
    obtain ⟨i0, hi, hz0, hz1, hz2⟩ := info_parts info26
    have hcp : 0 < k → wr.cell? ⟨bk, o + (k - 1), none⟩ = some (.int .i64 (ts.getD (k - 1) 0)) := fun h0 => cell_below2 (hc (k - 1) (by omega)) hB
    have hstep : badK ts (k + 1) = if badK ts k ≠ 0 then badK ts k else if 0 < k ∧ t < ts.getD (k - 1) 0 then k + 1 else 0 := by rw [ht]; exact badK_step (by omega) (by rw [← ht]; exact hto.1)
    have e2 : ts.take (k + 1) = ts.take k ++ [t] := by rw [ht]; exact take_at (by omega)
    have hlen : (textL (ts.take k)).length ≤ 40 * k := by
      have := textL_len (ts.take k) hr
      rw [List.length_take] at this
      have : min k ts.length ≤ k := Nat.min_le_left _ _
      omega
    obtain ⟨pr, hpr⟩ : ∃ pr, pr = ts.getD (k - 1) 0 := ⟨_, rfl⟩
    obtain ⟨b, hb⟩ : ∃ b, b = badK ts k := ⟨_, rfl⟩
    have hble : b ≤ 10 := by
      rw [hb]
      have := downAt_le (ts.take k) 0 0
      rw [List.length_take] at this
      unfold badK
      omega
    rw [← hpr] at hcp hstep
    have hb0 : k = 0 → b = 0 := fun h => by rw [hb, h]; rfl
    rw [← hb] at hstep ⊢
    clear hnot hpr hb ht hc
    go_wp2_with fail
    refine (enc_tick hT.tabs (hW.trans ((hB.mono hW.size).alloc (Nat.le_trans hW.size hB.size) _)) hto.1 hto.2).mono ?_
    rintro e W2 ⟨rfl, hb2⟩
    have hB2 : Below w.heap.size w W2 := (hB.alloc hB.size _).trans (hb2.mono (by simp; exact Nat.le_succ_of_le hB.size))
    have hc2 : 0 < k → W2.cell? ⟨bk, o + (k - 1), none⟩ = some (.int .i64 pr) := fun h0 => cell_below2 (hcp h0) ((Below.refl _ wr).alloc (Nat.le_refl _) _ |>.trans (hb2.mono (by simp)))
    have hown2 := own_keep (own_keep hown fun j hj => Below.heap_alloc wr _ j hj) fun j hj => hb2.block j hj
    obtain ⟨r0, r1, r2, r3, r4, r5, r6, r7, r8, r9⟩ := rec_at (t := t) rfl hb2
    clear hcp hcx
    have hsz1 : (textS (ts.take k)).size ≤ 400 := by
      rw [size_list]
      show (textL (ts.take k)).length ≤ 400
      omega
    have hsz2 : (tickS t).size ≤ 26 := by
      have := itoa_len hto.1 hto.2
      rw [tick_size]
      omega
    rcases Nat.eq_zero_or_pos k with h0 | h0
    · subst h0
      obtain rfl := hb0 rfl
      clear hb0 hc2
      have hsz0 : (textS []).size = 0 := rfl
      go_wp2_with (at_builtin; refine wpList_append_own _ rfl _ _ 28 rfl w.heap.size 26 i0 _ 10 96 Tryz.underlying28 hi hz0 hz1 hz2 rfl (by decide) _ _ _ rfl (hown2.alloc _) ⟨W2.heap.size, 0, none⟩ 1 1 (tickCells t) rfl rfl ?c1 ?c2 ?c3 ?c4 ?c5 ?_)
      case c1 => first | exact new_cells rfl | exact fun j u h => h
      case c2 => exact tick_one t
      case c3 => unfold maxLen; omega
      case c4 => omega
      case c5 => have := hB2.size; simp <;> omega
      intro v' w1 hown' hgrow hnil
      obtain ⟨g', cap', rfl⟩ := own_some hown' hnil
      have hown3 : w1.ownsRow w.heap.size 26 10 (.slice (some ⟨g', 0, none⟩) (0 + 1) cap') (0 + 1) (cellsL (ts.take (0 + 1))) := by rw [e2, cellsL_snoc]; exact hown'
      have hB3 : Below w.heap.size w w1 := (hB2.alloc hB2.size _).grown hgrow (hB2.alloc hB2.size _).size (fun j e => by cases e; exact own_base hown)
      have hr3 : ∀ u ∈ ts.take (0 + 1), okT u := by
        rw [e2]
        intro u hu
        rcases List.mem_append.1 hu with hu | hu
        · exact hr u hu
        · obtain rfl : u = t := by simpa using hu
          exact hto
      have hbad : badK ts (0 + 1) = 0 := by rw [hstep]; rw [if_neg (by omega), if_neg (by omega)]
      have htx : textS (ts.take (0 + 1)) = textS (ts.take 0) ++ tickS t ++ ⟨#[10]⟩ := by rw [e2, textS_snoc]
      clear hown' hgrow hnil hown hown2 hr hstep e2 hB2 hb2 hB r0 r1 r2 r3 r4 r5 r6 r7 r8 r9 hlen
      go_wp2
      go_roundw
      case rel => exact ⟨0 + 1, by omega, by go_num, by rw [hbad]; first | done | go_num, (congrArg Value.string htx).symm, hr3, ⟨_, _, rfl⟩, hown3, hB3⟩
      case measure => simp [intOf]; omega
    · have hc3 := hc2 h0
      clear hc2 hb0
      by_cases hlt : t < pr
      · by_cases hb0 : b = 0
        · subst hb0
          go_wp2_with (at_builtin; refine wpList_append_own _ rfl _ _ 28 rfl w.heap.size 26 i0 _ 10 96 Tryz.underlying28 hi hz0 hz1 hz2 rfl (by decide) _ _ _ rfl (hown2.alloc _) ⟨W2.heap.size, 0, none⟩ 1 1 (tickCells t) rfl rfl ?d1 ?d2 ?d3 ?d4 ?d5 ?_)
          case d1 => first | exact new_cells rfl | exact fun j u h => h
          case d2 => exact tick_one t
          case d3 => unfold maxLen; omega
          case d4 => omega
          case d5 => have := hB2.size; simp <;> omega
          intro v' w1 hown' hgrow hnil
          obtain ⟨g', cap', rfl⟩ := own_some hown' hnil
          have hown3 : w1.ownsRow w.heap.size 26 10 (.slice (some ⟨g', 0, none⟩) (k + 1) cap') (k + 1) (cellsL (ts.take (k + 1))) := by rw [e2, cellsL_snoc]; exact hown'
          have hB3 : Below w.heap.size w w1 := (hB2.alloc hB2.size _).grown hgrow (hB2.alloc hB2.size _).size (fun j e => by cases e; exact own_base hown)
          have hr3 : ∀ u ∈ ts.take (k + 1), okT u := by
            rw [e2]
            intro u hu
            rcases List.mem_append.1 hu with hu | hu
            · exact hr u hu
            · obtain rfl : u = t := by simpa using hu
              exact hto
          have hbad : badK ts (k + 1) = k + 1 := by rw [hstep]; rw [if_neg (by omega), if_pos ⟨h0, hlt⟩]
          have htx : textS (ts.take (k + 1)) = textS (ts.take k) ++ tickS t ++ ⟨#[10]⟩ := by rw [e2, textS_snoc]
          clear hown' hgrow hnil hown hown2 hr hstep e2 hB2 hb2 hB r0 r1 r2 r3 r4 r5 r6 r7 r8 r9 hlen
          go_wp2
          go_roundw
          case rel => exact ⟨k + 1, by omega, by go_num, by rw [hbad]; first | done | go_num, (congrArg Value.string htx).symm, hr3, ⟨_, _, rfl⟩, hown3, hB3⟩
          case measure => simp [intOf]; omega
        · have hb1 : ¬ (b : Int) = 0 := by omega
          go_wp2_with (at_builtin; refine wpList_append_own _ rfl _ _ 28 rfl w.heap.size 26 i0 _ 10 96 Tryz.underlying28 hi hz0 hz1 hz2 rfl (by decide) _ _ _ rfl (hown2.alloc _) ⟨W2.heap.size, 0, none⟩ 1 1 (tickCells t) rfl rfl ?e1 ?e2 ?e3 ?e4 ?e5 ?_)
          case e1 => first | exact new_cells rfl | exact fun j u h => h
          case e2 => exact tick_one t
          case e3 => unfold maxLen; omega
          case e4 => omega
          case e5 => have := hB2.size; simp <;> omega
          intro v' w1 hown' hgrow hnil
          obtain ⟨g', cap', rfl⟩ := own_some hown' hnil
          have hown3 : w1.ownsRow w.heap.size 26 10 (.slice (some ⟨g', 0, none⟩) (k + 1) cap') (k + 1) (cellsL (ts.take (k + 1))) := by rw [e2, cellsL_snoc]; exact hown'
          have hB3 : Below w.heap.size w w1 := (hB2.alloc hB2.size _).grown hgrow (hB2.alloc hB2.size _).size (fun j e => by cases e; exact own_base hown)
          have hr3 : ∀ u ∈ ts.take (k + 1), okT u := by
            rw [e2]
            intro u hu
            rcases List.mem_append.1 hu with hu | hu
            · exact hr u hu
            · obtain rfl : u = t := by simpa using hu
              exact hto
          have hbad : badK ts (k + 1) = b := by rw [hstep]; rw [if_pos hb0]
          have htx : textS (ts.take (k + 1)) = textS (ts.take k) ++ tickS t ++ ⟨#[10]⟩ := by rw [e2, textS_snoc]
          clear hown' hgrow hnil hown hown2 hr hstep e2 hB2 hb2 hB r0 r1 r2 r3 r4 r5 r6 r7 r8 r9 hlen
          go_wp2
          go_roundw
          case rel => exact ⟨k + 1, by omega, by go_num, by rw [hbad]; first | done | go_num, (congrArg Value.string htx).symm, hr3, ⟨_, _, rfl⟩, hown3, hB3⟩
          case measure => simp [intOf]; omega
      · skip
        go_wp2_with (at_builtin; refine wpList_append_own _ rfl _ _ 28 rfl w.heap.size 26 i0 _ 10 96 Tryz.underlying28 hi hz0 hz1 hz2 rfl (by decide) _ _ _ rfl (hown2.alloc _) ⟨W2.heap.size, 0, none⟩ 1 1 (tickCells t) rfl rfl ?f1 ?f2 ?f3 ?f4 ?f5 ?_)
        case f1 => first | exact new_cells rfl | exact fun j u h => h
        case f2 => exact tick_one t
        case f3 => unfold maxLen; omega
        case f4 => omega
        case f5 => have := hB2.size; simp <;> omega
        intro v' w1 hown' hgrow hnil
        obtain ⟨g', cap', rfl⟩ := own_some hown' hnil
        have hown3 : w1.ownsRow w.heap.size 26 10 (.slice (some ⟨g', 0, none⟩) (k + 1) cap') (k + 1) (cellsL (ts.take (k + 1))) := by rw [e2, cellsL_snoc]; exact hown'
        have hB3 : Below w.heap.size w w1 := (hB2.alloc hB2.size _).grown hgrow (hB2.alloc hB2.size _).size (fun j e => by cases e; exact own_base hown)
        have hr3 : ∀ u ∈ ts.take (k + 1), okT u := by
          rw [e2]
          intro u hu
          rcases List.mem_append.1 hu with hu | hu
          · exact hr u hu
          · obtain rfl : u = t := by simpa using hu
            exact hto
        have hbad : badK ts (k + 1) = b := by rw [hstep]; rw [if_neg (fun h : 0 < k ∧ t < pr => by have := h.2; omega)]; by_cases hb0 : b = 0 <;> simp [hb0]
        have htx : textS (ts.take (k + 1)) = textS (ts.take k) ++ tickS t ++ ⟨#[10]⟩ := by rw [e2, textS_snoc]
        clear hown' hgrow hnil hown hown2 hr hstep e2 hB2 hb2 hB r0 r1 r2 r3 r4 r5 r6 r7 r8 r9 hlen
        go_wp2
        go_roundw
        case rel => exact ⟨k + 1, by omega, by go_num, by rw [hbad]; first | done | go_num, (congrArg Value.string htx).symm, hr3, ⟨_, _, rfl⟩, hown3, hB3⟩
        case measure => simp [intOf]; omega
set_option maxRecDepth 100000 in
set_option maxHeartbeats 4000000 in
theorem order_zero (ao : Option Addr) (c : Nat) (w : World) {W : World} (hT : Tabs2 W) (hW : Below W.heap.size W w) :
    Calls Tryz.prog 9 #[.slice ao 0 c] w fun e w' => e = .returned (.bool true) ∧ Below w.heap.size w w' := by
  go_enter Tryz.func9, Tryz.ntmps9
  go_wp2_with fail
  go_loopw [3, 4, 5, 23] (fun v s b i wr => i = .int .i64 0 ∧ b = .int .i64 0 ∧ s = .string (textS []) ∧ (∃ g c', v = .slice (some ⟨g, 0, none⟩) 0 c') ∧ Below w.heap.size w wr) (fun _ _ _ _ _ => 0)
  case atStart =>
    exact ⟨rfl, rfl, rfl, ⟨_, _, rfl⟩, (Below.refl _ w).alloc (Nat.le_refl _) _⟩
  case round =>
    obtain ⟨rfl, rfl, rfl, ⟨g, c', rfl⟩, hB⟩ := hrel
    have htc : Calls Tryz.prog 21 #[.slice (some ⟨g, 0, none⟩) 0 c'] wr fun e w' => e = .returned (.tuple #[.string (textS []), .int .i64 0]) ∧ Below wr.heap.size wr w' :=
      text_calls g 0 c' [] wr (by decide) (fun _ h => by simp at h) (fun _ h => by simp at h) hT.tabs (hW.trans (hB.mono hW.size))
    have hWr : Below W.heap.size W wr := hW.trans (hB.mono hW.size)
    have hrc : ∀ w1, Below W.heap.size W w1 → Calls Tryz.prog 23 #[.string (textS [])] w1 fun e w' => (∃ p c, e = .returned (.tuple #[.slice p 0 c, .int .i64 0, .int .i64 0])) ∧ Below w1.heap.size w1 w' := fun w1 hw1 =>
      read_calls hT hw1 [] (by decide) (fun _ h => by simp at h)
    generalize textS [] = tx at *
    go_wp2_with fail
    refine htc.mono ?_
    rintro e W1 ⟨rfl, hb1⟩
    clear htc
    have hB1 : Below w.heap.size w W1 := hB.trans (hb1.mono hB.size)
    have hW1 : Below W.heap.size W W1 := hWr.trans (hb1.mono hWr.size)
    go_wp2_with fail
    refine (hrc W1 hW1).mono ?_
    rintro e W2 ⟨⟨p, c2, rfl⟩, hb2⟩
    clear hrc
    have hB2 : Below w.heap.size w W2 := hB1.trans (hb2.mono hB1.size)
    have hW2 : Below W.heap.size W W2 := hW1.trans (hb2.mono hW1.size)
    go_wp2_with fail
    refine (awake_calls hT.tabs hW2).mono ?_
    rintro e W3 ⟨rfl, hb3⟩
    go_wp2
    go_ret
    exact ⟨rfl, hB2.trans (hb3.mono hB2.size)⟩
#print axioms order_zero
#print axioms order_calls
end Go.Proofs.YtiphckeipbfbmaaGreatDoor
