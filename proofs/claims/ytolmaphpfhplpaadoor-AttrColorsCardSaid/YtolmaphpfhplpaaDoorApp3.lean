/-
  'AttrApply': what the law computes is true.
  Condition: none; a plain law, and the law's tree.
-/
import Derived.Test.YtolmaphpfhplpaaDoorRT
namespace Go.Proofs.YtolmaphpfhplpaaDoor
open Go Go.AE Go.DE Go.RowKit

/-- Numbers of 64 bits. -/
def In64 (v : Int) : Prop := -9223372036854775808 ≤ v ∧ v ≤ 9223372036854775807
theorem stepO_hi {m f : Int} (h : 30 ≤ m) {i : Nat} (hi : i < 8) : stepO m i f = f := by
  have hc : codeZ i ≤ 9 := by
    unfold codeZ
    split <;> omega
  unfold stepO
  rw [if_neg (by omega), if_neg (by omega)]
theorem oneR_hi {m : Int} (h : 30 ≤ m) : ∀ (n i : Nat) (f : Int), i + n ≤ 8 → oneR m n i f = f
  | 0, _, _, _ => rfl
  | n + 1, i, f, hi => by
    rw [oneR, stepO_hi h (by omega), oneR_hi h n (i + 1) f (by omega)]
theorem oneR_lo : ∀ v, v < 30 → v ≠ 0 → ∀ n, n < 256 → oneR (v : Nat) 8 0 (n : Nat) = flagsF (v : Nat) (n : Nat) := by decide +kernel
theorem oneR_eq {v : Int} (h : 0 < v) {n : Nat} (hn : n < 256) : oneR v 8 0 n = flagsF v n := by
  by_cases h3 : 30 ≤ v
  · rw [flags_hi h3 hn, oneR_hi h3 8 0 _ (by omega)]
  · obtain ⟨k, rfl⟩ : ∃ k : Nat, v = k := ⟨v.toNat, by omega⟩
    exact oneR_lo k (by omega) (by omega) n hn
theorem gs_eq (m : Int) (a : At) : g1022 m (g510 m (g254 m (g126 m (g62 m (g30 m a))))) = ⟨sxF m 30 a.x, sxF m 40 a.y, a.f⟩ := by
  have hc : (m = 49) ∨ (m = 39) ∨ (100 ≤ m ∧ m ≤ 107) ∨ (40 ≤ m ∧ m ≤ 47) ∨ (90 ≤ m ∧ m ≤ 97) ∨ (30 ≤ m ∧ m ≤ 37) ∨ (¬ (m = 49) ∧ ¬ (m = 39) ∧ ¬ (100 ≤ m ∧ m ≤ 107) ∧ ¬ (40 ≤ m ∧ m ≤ 47) ∧ ¬ (90 ≤ m ∧ m ≤ 97) ∧ ¬ (30 ≤ m ∧ m ≤ 37)) := by omega
  rcases hc with h | h | h | h | h | h | h
  · rw [g1022, if_pos h, g510, if_neg (show ¬ (m = 39) by omega), g254, if_neg (show ¬ (100 ≤ m ∧ m ≤ 107) by omega), g126, if_neg (show ¬ (40 ≤ m ∧ m ≤ 47) by omega), g62, if_neg (show ¬ (90 ≤ m ∧ m ≤ 97) by omega), g30, if_neg (show ¬ (30 ≤ m ∧ m ≤ 37) by omega)]
    unfold sxF
    rw [if_neg (show ¬ (30 ≤ m ∧ m ≤ 30 + 7) by omega), if_neg (show ¬ (30 + 60 ≤ m ∧ m ≤ 30 + 67) by omega), if_neg (show ¬ (m = 30 + 9) by omega), if_neg (show ¬ (40 ≤ m ∧ m ≤ 40 + 7) by omega), if_neg (show ¬ (40 + 60 ≤ m ∧ m ≤ 40 + 67) by omega), if_pos (show m = 40 + 9 by omega)]
  · rw [g1022, if_neg (show ¬ (m = 49) by omega), g510, if_pos h, g254, if_neg (show ¬ (100 ≤ m ∧ m ≤ 107) by omega), g126, if_neg (show ¬ (40 ≤ m ∧ m ≤ 47) by omega), g62, if_neg (show ¬ (90 ≤ m ∧ m ≤ 97) by omega), g30, if_neg (show ¬ (30 ≤ m ∧ m ≤ 37) by omega)]
    unfold sxF
    rw [if_neg (show ¬ (30 ≤ m ∧ m ≤ 30 + 7) by omega), if_neg (show ¬ (30 + 60 ≤ m ∧ m ≤ 30 + 67) by omega), if_pos (show m = 30 + 9 by omega), if_neg (show ¬ (40 ≤ m ∧ m ≤ 40 + 7) by omega), if_neg (show ¬ (40 + 60 ≤ m ∧ m ≤ 40 + 67) by omega), if_neg (show ¬ (m = 40 + 9) by omega)]
  · rw [g1022, if_neg (show ¬ (m = 49) by omega), g510, if_neg (show ¬ (m = 39) by omega), g254, if_pos h, g126, if_neg (show ¬ (40 ≤ m ∧ m ≤ 47) by omega), g62, if_neg (show ¬ (90 ≤ m ∧ m ≤ 97) by omega), g30, if_neg (show ¬ (30 ≤ m ∧ m ≤ 37) by omega)]
    unfold sxF
    rw [if_neg (show ¬ (30 ≤ m ∧ m ≤ 30 + 7) by omega), if_neg (show ¬ (30 + 60 ≤ m ∧ m ≤ 30 + 67) by omega), if_neg (show ¬ (m = 30 + 9) by omega), if_neg (show ¬ (40 ≤ m ∧ m ≤ 40 + 7) by omega), if_pos (show 40 + 60 ≤ m ∧ m ≤ 40 + 67 by omega), show m - 92 = m - 40 - 52 by omega]
  · rw [g1022, if_neg (show ¬ (m = 49) by omega), g510, if_neg (show ¬ (m = 39) by omega), g254, if_neg (show ¬ (100 ≤ m ∧ m ≤ 107) by omega), g126, if_pos h, g62, if_neg (show ¬ (90 ≤ m ∧ m ≤ 97) by omega), g30, if_neg (show ¬ (30 ≤ m ∧ m ≤ 37) by omega)]
    unfold sxF
    rw [if_neg (show ¬ (30 ≤ m ∧ m ≤ 30 + 7) by omega), if_neg (show ¬ (30 + 60 ≤ m ∧ m ≤ 30 + 67) by omega), if_neg (show ¬ (m = 30 + 9) by omega), if_pos (show 40 ≤ m ∧ m ≤ 40 + 7 by omega)]
  · rw [g1022, if_neg (show ¬ (m = 49) by omega), g510, if_neg (show ¬ (m = 39) by omega), g254, if_neg (show ¬ (100 ≤ m ∧ m ≤ 107) by omega), g126, if_neg (show ¬ (40 ≤ m ∧ m ≤ 47) by omega), g62, if_pos h, g30, if_neg (show ¬ (30 ≤ m ∧ m ≤ 37) by omega)]
    unfold sxF
    rw [if_neg (show ¬ (30 ≤ m ∧ m ≤ 30 + 7) by omega), if_pos (show 30 + 60 ≤ m ∧ m ≤ 30 + 67 by omega), if_neg (show ¬ (40 ≤ m ∧ m ≤ 40 + 7) by omega), if_neg (show ¬ (40 + 60 ≤ m ∧ m ≤ 40 + 67) by omega), if_neg (show ¬ (m = 40 + 9) by omega), show m - 82 = m - 30 - 52 by omega]
  · rw [g1022, if_neg (show ¬ (m = 49) by omega), g510, if_neg (show ¬ (m = 39) by omega), g254, if_neg (show ¬ (100 ≤ m ∧ m ≤ 107) by omega), g126, if_neg (show ¬ (40 ≤ m ∧ m ≤ 47) by omega), g62, if_neg (show ¬ (90 ≤ m ∧ m ≤ 97) by omega), g30, if_pos h]
    unfold sxF
    rw [if_pos (show 30 ≤ m ∧ m ≤ 30 + 7 by omega), if_neg (show ¬ (40 ≤ m ∧ m ≤ 40 + 7) by omega), if_neg (show ¬ (40 + 60 ≤ m ∧ m ≤ 40 + 67) by omega), if_neg (show ¬ (m = 40 + 9) by omega)]
  · rw [g1022, if_neg (show ¬ (m = 49) by omega), g510, if_neg (show ¬ (m = 39) by omega), g254, if_neg (show ¬ (100 ≤ m ∧ m ≤ 107) by omega), g126, if_neg (show ¬ (40 ≤ m ∧ m ≤ 47) by omega), g62, if_neg (show ¬ (90 ≤ m ∧ m ≤ 97) by omega), g30, if_neg (show ¬ (30 ≤ m ∧ m ≤ 37) by omega)]
    unfold sxF
    rw [if_neg (show ¬ (30 ≤ m ∧ m ≤ 30 + 7) by omega), if_neg (show ¬ (30 + 60 ≤ m ∧ m ≤ 30 + 67) by omega), if_neg (show ¬ (m = 30 + 9) by omega), if_neg (show ¬ (40 ≤ m ∧ m ≤ 40 + 7) by omega), if_neg (show ¬ (40 + 60 ≤ m ∧ m ≤ 40 + 67) by omega), if_neg (show ¬ (m = 40 + 9) by omega)]
theorem one_step {v : Int} {a : At} (h0 : 0 < v) (h1 : v ≤ 9223372036854775807) (ha : Fok a) : oneF a v = stepP v a := by
  obtain ⟨n, e, hn⟩ := ha.nat
  unfold oneF stepP
  rw [if_neg (by omega), gs_eq, simple_in a.x (by omega) h1 (by omega) (by omega), simple_in a.y (by omega) h1 (by omega) (by omega), e, oneR_eq h0 hn]
theorem mx_pos (z : Nat → Int) (j : Nat) : 0 ≤ mx z j := by
  unfold mx
  split <;> omega
theorem at_eq (z : Nat → Int) (n j : Nat) : atF z n (j : Int) = if j < n then mx z j else -1 := by
  unfold atF mx
  by_cases h : j < n
  · rw [if_neg (by omega), if_pos h, Int.toNat_natCast]
  · rw [if_pos (by omega), if_neg h]
theorem col_eq (z : Nat → Int) (n i : Nat) : rcolF z n ((i + 1 : Nat) : Int) = colF (fun j => mx z (i + 1 + j)) (n - (i + 1)) := by
  have a0 := at_eq z n (i + 1)
  have a1 : atF z n (((i + 1 : Nat) : Int) + 1) = _ := at_eq z n (i + 1 + 1)
  have a2 : atF z n (((i + 1 : Nat) : Int) + 2) = _ := at_eq z n (i + 1 + 2)
  have a3 : atF z n (((i + 1 : Nat) : Int) + 3) = _ := at_eq z n (i + 1 + 3)
  unfold rcolF colF
  rw [a0, a1, a2, a3]
  have p0 := mx_pos z (i + 1)
  have p1 := mx_pos z (i + 1 + 1)
  have p2 := mx_pos z (i + 1 + 2)
  have p3 := mx_pos z (i + 1 + 3)
  simp only [Nat.add_zero]
  generalize mx z (i + 1) = m0 at *
  generalize mx z (i + 1 + 1) = m1 at *
  generalize mx z (i + 1 + 2) = m2 at *
  generalize mx z (i + 1 + 3) = m3 at *
  have hN : n - (i + 1) = 0 ∨ n - (i + 1) = 1 ∨ n - (i + 1) = 2 ∨ n - (i + 1) = 3 ∨ 4 ≤ n - (i + 1) := by omega
  rcases hN with h | h | h | h | h
  · rw [if_neg (show ¬ i + 1 < n by omega), if_neg (show ¬ i + 1 + 1 < n by omega), if_neg (by omega), if_pos (by omega), if_neg (by omega), if_neg (by omega)]
  · rw [if_pos (show i + 1 < n by omega), if_neg (show ¬ i + 1 + 1 < n by omega), if_neg (by omega), if_pos (by omega), if_neg (by omega), if_neg (by omega)]
  · rw [if_pos (show i + 1 < n by omega), if_pos (show i + 1 + 1 < n by omega), if_neg (show ¬ i + 1 + 2 < n by omega)]
    by_cases c : m0 = 5 ∧ m1 ≤ 255
    · rw [if_pos (by omega), if_pos (by omega)]
    · rw [if_neg (by omega), if_pos (by omega), if_neg (by omega), if_neg (by omega)]
  · rw [if_pos (show i + 1 < n by omega), if_pos (show i + 1 + 1 < n by omega), if_pos (show i + 1 + 2 < n by omega), if_neg (show ¬ i + 1 + 3 < n by omega)]
    by_cases c : m0 = 5 ∧ m1 ≤ 255
    · rw [if_pos (by omega), if_pos (by omega)]
    · rw [if_neg (by omega), if_pos (by omega), if_neg (by omega), if_neg (by omega)]
  · rw [if_pos (show i + 1 < n by omega), if_pos (show i + 1 + 1 < n by omega), if_pos (show i + 1 + 2 < n by omega), if_pos (show i + 1 + 3 < n by omega)]
    by_cases c : m0 = 5 ∧ m1 ≤ 255
    · rw [if_pos (by omega), if_pos (by omega)]
    · rw [if_neg (by omega), if_neg (show ¬ (2 ≤ n - (i + 1) ∧ m0 = 5 ∧ m1 ≤ 255) by omega)]
      by_cases d : m0 = 2 ∧ m1 ≤ 255 ∧ m2 ≤ 255 ∧ m3 ≤ 255
      · rw [if_neg (by omega), if_pos (by omega)]
      · rw [if_pos (by omega), if_neg (by omega)]
theorem runR_eq {z : Nat → Int} {n : Nat} (hz : ∀ j, j < n → In64 (z j)) : ∀ (m i : Nat) (a : At), Fok a → runR z n m i a = runP (mx z) n m i a
  | 0, _, _, _ => rfl
  | m + 1, i, a, ha => by
    rw [runR, runP]
    by_cases hi : i < n
    · rw [if_pos hi, if_pos hi, col_eq]
      have e : atF z n i = mx z i := by rw [at_eq, if_pos hi]
      have hp := mx_pos z i
      have hle : mx z i ≤ 9223372036854775807 := by
        have := hz i hi
        unfold In64 at this
        unfold mx
        split <;> omega
      rw [e]
      by_cases h0 : mx z i = 0
      · rw [if_pos (by omega), if_pos h0, h0]
        exact runR_eq hz m (i + 1) dfl ⟨by decide, by decide⟩
      · by_cases h3 : mx z i = 38 ∨ mx z i = 48
        · rw [if_neg (by omega), if_neg h0, if_pos h3]
          by_cases hc : (colF (fun j => mx z (i + 1 + j)) (n - (i + 1))).2 = 0
          · rw [if_pos hc, if_pos hc]
          · rw [if_neg hc, if_neg hc, runR_eq hz m]
            split <;> exact ha
        · rw [if_pos (by omega), if_neg h0, if_neg h3, one_step (by omega) hle ha, runR_eq hz m _ _ ((Eff.stepP hp).ok a ha)]
    · rw [if_neg hi, if_neg hi]
theorem apply_eq {z : Nat → Int} {n : Nat} (hz : ∀ j, j < n → In64 (z j)) {a : At} (ha : Fok a) : applyF a z n = rapplyF a z n := by
  unfold applyF rapplyF
  by_cases h : n = 0
  · subst h
    rfl
  · have e1 : n1 n = n := if_neg h
    have e2 : w1 n (mx z) = mx z := if_neg h
    rw [e1, e2, if_neg h, runR_eq hz n 0 a ha]

/-- The result is proper. -/
def d5 (a : Int) : Int := IntKind.i64.wrap (Int.tdiv (IntKind.i64.wrap (a * 5)) 255)
theorem d5_nat : ∀ a, a < 256 → 0 ≤ d5 (a : Nat) ∧ d5 (a : Nat) ≤ 5 := by decide +kernel
theorem d5_in {a : Int} (h : 0 ≤ a ∧ a ≤ 255) : 0 ≤ d5 a ∧ d5 a ≤ 5 := by
  obtain ⟨k, rfl⟩ : ∃ k : Nat, a = k := ⟨a.toNat, by omega⟩
  exact d5_nat k (by omega)
theorem mix_eq {a b c : Int} (ha : 0 ≤ a ∧ a ≤ 255) (hb : 0 ≤ b ∧ b ≤ 255) (hc : 0 ≤ c ∧ c ≤ 255) : mix a b c = 16 + 36 * d5 a + 6 * d5 b + d5 c := by
  have h1 := d5_in ha
  have h2 := d5_in hb
  have h3 := d5_in hc
  show IntKind.i64.wrap (IntKind.i64.wrap (IntKind.i64.wrap (16 + IntKind.i64.wrap (36 * d5 a)) + IntKind.i64.wrap (6 * d5 b)) + d5 c) = _
  rw [W_in (n := 36 * d5 a) (by omega) (by omega), W_in (n := 16 + 36 * d5 a) (by omega) (by omega), W_in (n := 6 * d5 b) (by omega) (by omega), W_in (n := 16 + 36 * d5 a + 6 * d5 b) (by omega) (by omega), W_in (by omega) (by omega)]
theorem col_in {z : Nat → Int} {n : Nat} (hz : ∀ j, 0 ≤ z j) : 0 ≤ (colF z n).1 ∧ (colF z n).1 ≤ 255 := by
  unfold colF
  split
  · rename_i h
    exact ⟨hz 1, h.2.2⟩
  · split
    · rename_i h
      have h1 := d5_in ⟨hz 1, h.2.2.1⟩
      have h2 := d5_in ⟨hz 2, h.2.2.2.1⟩
      have h3 := d5_in ⟨hz 3, h.2.2.2.2⟩
      show 0 ≤ mix (z 1) (z 2) (z 3) ∧ mix (z 1) (z 2) (z 3) ≤ 255
      rw [mix_eq ⟨hz 1, h.2.2.1⟩ ⟨hz 2, h.2.2.2.1⟩ ⟨hz 3, h.2.2.2.2⟩]
      omega
    · exact ⟨by decide, by decide⟩
theorem lw_pos {l : List Int} (h : ∀ v ∈ l, 0 ≤ v) (j : Nat) : 0 ≤ lw l j := by
  unfold lw
  rw [List.getD_eq_getElem?_getD]
  cases e : l[j]? with
  | none => exact Int.le_refl 0
  | some v => exact h v (List.mem_of_getElem? e)
theorem sxF_in {v b x : Int} (hx : -1 ≤ x ∧ x ≤ 255) : -1 ≤ sxF v b x ∧ sxF v b x ≤ 255 := by
  unfold sxF
  split
  · omega
  · split
    · omega
    · split <;> omega
theorem runL_ok : ∀ (m : Nat) (l : List Int), (∀ v ∈ l, 0 ≤ v ∧ v ≤ 9223372036854775807) → ∀ a : At, a.Ok → (runL m l a).2.Ok
  | 0, _, _, _, h => h
  | m + 1, [], _, _, h => h
  | m + 1, v :: l, hl, a, h => by
    have hl' : ∀ w ∈ l, 0 ≤ w ∧ w ≤ 9223372036854775807 := fun w hw => hl w (by simp [hw])
    rw [runL]
    split
    · exact runL_ok m l hl' dfl (by decide)
    · split
      · split
        · exact h
        · refine runL_ok m _ (fun w hw => hl' w (List.mem_of_mem_drop hw)) _ ?_
          have hc := col_in (z := lw l) (n := l.length) (lw_pos fun w hw => (hl' w hw).1)
          unfold putC
          split
          · exact ⟨⟨by show -1 ≤ (colF (lw l) l.length).1; omega, hc.2⟩, h.2⟩
          · exact ⟨h.1, ⟨by show -1 ≤ (colF (lw l) l.length).1; omega, hc.2⟩, h.2.2⟩
      · refine runL_ok m l hl' _ ?_
        have hv := hl v (by simp)
        have hf : Fok (stepP v a) := (Eff.stepP hv.1).ok a h.2.2
        refine ⟨?_, ?_, hf⟩
        · show -1 ≤ (if (simpleF v 30).2 = true then (simpleF v 30).1 else a.x) ∧ (if (simpleF v 30).2 = true then (simpleF v 30).1 else a.x) ≤ 255
          rw [simple_in a.x hv.1 hv.2 (by omega) (by omega)]
          exact sxF_in h.1
        · show -1 ≤ (if (simpleF v 40).2 = true then (simpleF v 40).1 else a.y) ∧ (if (simpleF v 40).2 = true then (simpleF v 40).1 else a.y) ≤ 255
          rw [simple_in a.y hv.1 hv.2 (by omega) (by omega)]
          exact sxF_in h.2.1
theorem nums_in {z : Nat → Int} {n : Nat} (hz : ∀ j, j < n → In64 (z j)) : ∀ v ∈ nums z n, 0 ≤ v ∧ v ≤ 9223372036854775807 := by
  intro v hv
  refine ⟨nums_pos z n v hv, ?_⟩
  unfold nums at hv
  split at hv
  · simp at hv
    omega
  · obtain ⟨j, hj, rfl⟩ := List.mem_map.1 hv
    have := hz j (List.mem_range.1 hj)
    unfold In64 at this
    unfold mx
    split <;> omega
theorem apply_proper {z : Nat → Int} {n : Nat} (hz : ∀ j, j < n → In64 (z j)) {a : At} (ha : a.Ok) : (applyF a z n).Ok := by
  rw [apply_run]
  exact runL_ok _ _ (nums_in hz) a ha

theorem app_tree (x y f : Int) (t : Bool) (z : Nat → Int) (n : Nat) (k : DV → Option Unit) : bodyD Tryd.prog (env lawT noLp 0) Tryd.f3 [.agg [iv x, iv y, iv f], .sl t (ints z) 1 n] [] (fun d _ => k d) =
    bif rightF { x := x, y := y, f := f } == (0 : Int) then k (DV.v (Value.bool true))
    else
      bif decide ((↑n : Int) > (40 : Int)) then k (DV.v (Value.bool true))
      else
        bif holds (intsOk (fun i f => DV.v (Value.int IntKind.i64 (z i))) n) then
          bif holds (n ≤ (1000000 : Nat)) then
            bif holds (intsOk (fun i f => DV.v (Value.int IntKind.i64 (z i))) n) then
              bif holds (n ≤ (1000000 : Nat)) then
                bif
                    bif At.x (applyF { x := x, y := y, f := f } z n) == At.x (rapplyF { x := x, y := y, f := f } z n) then
                      bif At.y (applyF { x := x, y := y, f := f } z n) == At.y (rapplyF { x := x, y := y, f := f } z n) then
                        bif
                            At.f (applyF { x := x, y := y, f := f } z n) ==
                              At.f (rapplyF { x := x, y := y, f := f } z n) then
                          true
                        else false
                      else false
                    else false then
                  bif chkF (applyF { x := x, y := y, f := f } z n) == (0 : Int) then k (DV.v (Value.bool true))
                  else k (DV.v (Value.bool false))
                else k (DV.v (Value.bool false))
              else none
            else none
          else none
        else none := by
  kernel_rfl
theorem app_true (x y f : Int) (t : Bool) (z : Nat → Int) (n : Nat) (hz : ∀ j, j < n → In64 (z j)) : bodyD Tryd.prog (env lawT noLp 0) Tryd.f3 [.agg [iv x, iv y, iv f], .sl t (ints z) 1 n] [] (fun d _ => isD (.v (.bool true)) d) = some () := by
  refine (app_tree x y f t z n _).trans ?_
  by_cases h : At.Ok ⟨x, y, f⟩
  · have h1 : rightF ⟨x, y, f⟩ = 1 := if_pos h
    rw [h1]
    refine cF rfl (dS (fun _ => isD_of rfl) fun hn => ?_)
    have hn : n ≤ 40 := by omega
    have hle : n ≤ 1000000 := by omega
    refine hT intsOk_iv (hT hle (hT intsOk_iv (hT hle (cT ?_ (cT ?_ (isD_of rfl))))))
    · rw [apply_eq hz h.2.2]
      simp
    · have h2 : chkF (applyF ⟨x, y, f⟩ z n) = 0 := if_pos (apply_proper hz h)
      rw [h2]
      rfl
  · have h1 : rightF ⟨x, y, f⟩ = 0 := if_neg h
    rw [h1]
    exact cT rfl (isD_of rfl)
noncomputable def lawC3 : ConF := fun args k => match args with
  | [.agg [.v (.int .i64 _), .v (.int .i64 _), .v (.int .i64 _)], d] => intsK d fun z n => bif holds (∀ j, j < n → In64 (z j)) then k fun _ => (.v (.bool true), []) else none
  | _ => none
theorem lawC3_ask {x y f : Int} {t : Bool} {z : Nat → Int} {n : Nat} {k : (Nat → DV × List (Option DBlk)) → Option Unit} (hz : ∀ j, j < n → In64 (z j)) (hk : k (fun _ => (.v (.bool true), [])) = some ()) :
    lawC3 [.agg [iv x, iv y, iv f], .sl t (ints z) 1 n] k = some () := by
  show intsK (.sl t (ints z) 1 n) (fun z n => bif holds (∀ j, j < n → In64 (z j)) then k fun _ => (.v (.bool true), []) else none) = some ()
  exact intsK_ints (hT hz hk)
theorem app_law_ok {st : AE.Stat} (hst : CodesIn st) : ConOk Tryd.prog st 3 lawC3 := by
  refine con_flat (mg := []) (l := lawT) (lp := noLp) (n := 0) (glOk hst) (lawT_ok hst) Tryd.func3 (by kernel_rfl) (by kernel_rfl) (fun _ _ _ h => nomatch h) fun args k hk => ?_
  unfold lawC3 at hk
  split at hk <;> first | (cases hk; done) | skip
  rename_i x y f d
  obtain ⟨t, z, n, hk, hc⟩ := intsK_some hk
  obtain ⟨hn, hk⟩ := bif_none hk
  exact ⟨[.agg [iv x, iv y, iv f], .sl t (ints z) 1 n], _, .self (.cons hc .nil), flR_clo rfl, hk, app_true x y f t z n (holds_eq.1 hn)⟩

/-- 'AttrIdempotent' -/
theorem idem_tree (x y f : Int) (t : Bool) (z : Nat → Int) (n : Nat) (k : DV → Option Unit) : bodyD Tryd.prog (env lawT noLp 0) Tryd.f6 [.agg [iv x, iv y, iv f], .sl t (ints z) 1 n] [] (fun d _ => k d) =
    bif chkF { x := x, y := y, f := f } != (0 : Int) then k (DV.v (Value.bool true))
    else
      bif decide ((↑n : Int) > (40 : Int)) then k (DV.v (Value.bool true))
      else
        bif holds (intsOk (fun i f => DV.v (Value.int IntKind.i64 (z i))) n) then
          bif holds (n ≤ (1000000 : Nat)) then
            bif holds (intsOk (fun i f => DV.v (Value.int IntKind.i64 (z i))) n) then
              bif holds (n ≤ (1000000 : Nat)) then
                bif
                    bif
                        At.x (applyF (applyF { x := x, y := y, f := f } z n) z n) ==
                          At.x (applyF { x := x, y := y, f := f } z n) then
                      bif
                          At.y (applyF (applyF { x := x, y := y, f := f } z n) z n) ==
                            At.y (applyF { x := x, y := y, f := f } z n) then
                        bif
                            At.f (applyF (applyF { x := x, y := y, f := f } z n) z n) ==
                              At.f (applyF { x := x, y := y, f := f } z n) then
                          true
                        else false
                      else false
                    else false then
                  k (DV.v (Value.bool true))
                else k (DV.v (Value.bool false))
              else none
            else none
          else none
        else none := by
  kernel_rfl
theorem idem_true (x y f : Int) (t : Bool) (z : Nat → Int) (n : Nat) : bodyD Tryd.prog (env lawT noLp 0) Tryd.f6 [.agg [iv x, iv y, iv f], .sl t (ints z) 1 n] [] (fun d _ => isD (.v (.bool true)) d) = some () := by
  refine (idem_tree x y f t z n _).trans ?_
  by_cases h : At.Ok ⟨x, y, f⟩
  · refine cF (chk_eq h) (dS (fun _ => isD_of rfl) fun hn => ?_)
    have hn : n ≤ 40 := by omega
    have hle : n ≤ 1000000 := by omega
    refine hT intsOk_iv (hT hle (hT intsOk_iv (hT hle (cT ?_ (isD_of rfl)))))
    have e : applyF (applyF ⟨x, y, f⟩ z n) z n = applyF ⟨x, y, f⟩ z n := (apply_eff z n).twice h.2.2
    rw [e]
    simp
  · exact cT (chk_ne h) (isD_of rfl)
theorem idem_ok {st : AE.Stat} (hst : CodesIn st) : ConOk Tryd.prog st 6 lawC3 := by
  refine con_flat (mg := []) (l := lawT) (lp := noLp) (n := 0) (glOk hst) (lawT_ok hst) Tryd.func6 (by kernel_rfl) (by kernel_rfl) (fun _ _ _ h => nomatch h) fun args k hk => ?_
  unfold lawC3 at hk
  split at hk <;> first | (cases hk; done) | skip
  rename_i x y f d
  obtain ⟨t, z, n, hk, hc⟩ := intsK_some hk
  obtain ⟨hn, hk⟩ := bif_none hk
  exact ⟨[.agg [iv x, iv y, iv f], .sl t (ints z) 1 n], _, .self (.cons hc .nil), flR_clo rfl, hk, idem_true x y f t z n⟩
end Go.Proofs.YtolmaphpfhplpaaDoor
