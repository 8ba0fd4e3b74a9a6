/-
  Apply over lists: its equations; flags bit by bit; applying twice; applying in parts.
  Condition: none; plain laws.
-/
import Derived.Test.YtolmaphpfhplpaaDoorRes
namespace Go.Proofs.YtolmaphpfhplpaaDoor
open Go Go.AE Go.DE Go.RowKit

/-- The run over a list. -/
def colN (l : List Int) : Nat := (colF (lw l) l.length).2.toNat
def putC (v : Int) (l : List Int) (a : At) : At := if v = 38 then { a with x := (colF (lw l) l.length).1 } else { a with y := (colF (lw l) l.length).1 }
def runL : Nat → List Int → At → Bool × At
  | 0, _, a => (false, a)
  | _ + 1, [], a => (false, a)
  | m + 1, v :: l, a => if v = 0 then runL m l dfl else if v = 38 ∨ v = 48 then (if (colF (lw l) l.length).2 = 0 then (true, a) else runL m (l.drop (colN l)) (putC v l a)) else runL m l (stepP v a)
def run (l : List Int) (a : At) : Bool × At := runL l.length l a
theorem runL_nil (m : Nat) (a : At) : runL m [] a = (false, a) := by cases m <;> rfl
theorem lw_drop (L : List Int) (i : Nat) : (fun j => lw L (i + j)) = lw (L.drop i) := by
  funext j
  unfold lw
  simp only [List.getD_eq_getElem?_getD, List.getElem?_drop]
theorem runP_list (L : List Int) : ∀ (m i : Nat) (a : At), runP (lw L) L.length m i a = runL m (L.drop i) a
  | 0, i, a => rfl
  | m + 1, i, a => by
    by_cases h : i < L.length
    · have e : L.drop i = lw L i :: L.drop (i + 1) := by
        rw [List.drop_eq_getElem_cons h]
        simp [lw, List.getD_eq_getElem?_getD, h]
      have hc : colF (fun j => lw L (i + 1 + j)) (L.length - (i + 1)) = colF (lw (L.drop (i + 1))) (L.drop (i + 1)).length := by
        rw [lw_drop, List.length_drop]
      rw [e, runP, runL, if_pos h, hc, runP_list L m, runP_list L m, runP_list L m, List.drop_drop]
      rfl
    · rw [List.drop_eq_nil_of_le (by omega), runL_nil, runP, if_neg h]
theorem runL_fuel : ∀ (m m' : Nat) (l : List Int) (a : At), l.length ≤ m → l.length ≤ m' → runL m l a = runL m' l a
  | 0, m', l, a, h, _ => by
    obtain rfl : l = [] := List.eq_nil_of_length_eq_zero (by omega)
    rw [runL_nil, runL_nil]
  | m + 1, 0, l, a, _, h => by
    obtain rfl : l = [] := List.eq_nil_of_length_eq_zero (by omega)
    rw [runL_nil, runL_nil]
  | m + 1, m' + 1, [], a, _, _ => rfl
  | m + 1, m' + 1, v :: l, a, h, h' => by
    have h : l.length + 1 ≤ m + 1 := h
    have h' : l.length + 1 ≤ m' + 1 := h'
    have hd : (l.drop (colN l)).length ≤ l.length := by simp
    rw [runL, runL, runL_fuel m m' l dfl (by omega) (by omega), runL_fuel m m' l (stepP v a) (by omega) (by omega), runL_fuel m m' (l.drop (colN l)) (putC v l a) (by omega) (by omega)]
theorem run_nil (a : At) : run [] a = (false, a) := rfl
theorem run_zero (l : List Int) (a : At) : run (0 :: l) a = run l dfl := rfl
theorem run_col {v : Int} (l : List Int) (a : At) (h : v = 38 ∨ v = 48) : run (v :: l) a = if (colF (lw l) l.length).2 = 0 then (true, a) else run (l.drop (colN l)) (putC v l a) := by
  have h0 : ¬ v = 0 := by omega
  unfold run
  rw [List.length_cons, runL, if_neg h0, if_pos h, runL_fuel l.length (l.drop (colN l)).length _ _ (by simp) (Nat.le_refl _)]
theorem run_step {v : Int} (l : List Int) (a : At) (h0 : v ≠ 0) (h : ¬ (v = 38 ∨ v = 48)) : run (v :: l) a = run l (stepP v a) := by
  unfold run
  rw [List.length_cons, runL, if_neg h0, if_neg h]

/-- A list's numbers as Apply takes them. -/
def nums (z : Nat → Int) (n : Nat) : List Int := if n = 0 then [0] else (List.range n).map (mx z)
theorem nums_len (z : Nat → Int) (n : Nat) : (nums z n).length = n1 n := by
  unfold nums n1
  split <;> simp
theorem runP_ext {w w' : Nat → Int} {n : Nat} (h : ∀ j, j < n → w j = w' j) : ∀ (m i : Nat) (a : At), runP w n m i a = runP w' n m i a
  | 0, _, _ => rfl
  | m + 1, i, a => by
    rw [runP, runP]
    by_cases hi : i < n
    · have hc : colF (fun j => w (i + 1 + j)) (n - (i + 1)) = colF (fun j => w' (i + 1 + j)) (n - (i + 1)) := by
        unfold colF
        dsimp only
        by_cases h2 : 2 ≤ n - (i + 1)
        · simp only [h (i + 1 + 0) (by omega), h (i + 1 + 1) (by omega)]
          by_cases h4 : 4 ≤ n - (i + 1)
          · simp only [h (i + 1 + 2) (by omega), h (i + 1 + 3) (by omega)]
          · simp only [h4, false_and, if_false]
        · have h4 : ¬ 4 ≤ n - (i + 1) := by omega
          simp only [h2, h4, false_and, if_false]
      rw [if_pos hi, if_pos hi, h i hi, hc, runP_ext h m, runP_ext h m, runP_ext h m]
    · rw [if_neg hi, if_neg hi]
theorem apply_run (a : At) (z : Nat → Int) (n : Nat) : applyF a z n = (run (nums z n) a).2 := by
  unfold applyF run
  rw [nums_len]
  have h : ∀ j, j < n1 n → w1 n (mx z) j = lw (nums z n) j := by
    intro j hj
    unfold w1 n1 nums at *
    split
    · rename_i h
      rw [if_pos h] at hj
      obtain rfl : j = 0 := by omega
      rfl
    · rename_i h
      rw [if_neg h] at hj
      simp [lw, List.getD_eq_getElem?_getD, hj]
  have e := runP_list (nums z n) (n1 n) 0 a
  rw [nums_len] at e
  rw [runP_ext h, e, List.drop_zero]

/-- Flags bit by bit. -/
def flN (v : Int) (n : Nat) : Nat := (n ||| (flagF v).1.toNat) ^^^ ((n ||| (flagF v).1.toNat) &&& (flagF v).2.toNat)
theorem flags_lo : ∀ v, v < 30 → ∀ n, n < 256 → flagsF (v : Nat) (n : Nat) = flN (v : Nat) n ∧ flN (v : Nat) n < 256 := by decide +kernel
theorem codeN_le (i : Nat) : codeN i ≤ 9 := by
  by_cases h : i < 8
  · have h8 : i = 0 ∨ i = 1 ∨ i = 2 ∨ i = 3 ∨ i = 4 ∨ i = 5 ∨ i = 6 ∨ i = 7 := by omega
    rcases h8 with rfl | rfl | rfl | rfl | rfl | rfl | rfl | rfl <;> decide
  · unfold codeN
    rw [List.getD_eq_getElem?_getD, List.getElem?_eq_none (by simp; omega)]
    decide
theorem flR_hi {v : Int} (h : 30 ≤ v) : ∀ (m i : Nat) (c : Int), flR v m i c = (false, 0, c)
  | 0, _, _ => rfl
  | m + 1, i, c => by
    have := codeN_le i
    rw [flR, if_neg (by omega), if_neg (by omega), flR_hi h m]
theorem flagF_hi {v : Int} (h : 30 ≤ v) : flagF v = (0, 0) := by
  unfold flagF
  rw [flR_hi h, if_neg (by omega)]
  rfl
theorem flags_hi0 : ∀ n, n < 256 → IntKind.i64.wrap ↑(BitVec.toNat (BitVec.ofInt 64 (IntKind.i64.wrap ↑(BitVec.toNat (BitVec.ofInt 64 (n : Nat) ||| BitVec.ofInt 64 0))) &&& ~~~BitVec.ofInt 64 0)) = (n : Nat) := by decide +kernel
theorem flags_hi {v : Int} (h : 30 ≤ v) {n : Nat} (hn : n < 256) : flagsF v n = n := by
  unfold flagsF
  rw [flagF_hi h]
  exact flags_hi0 n hn
theorem flN_hi {v : Int} (h : 30 ≤ v) (n : Nat) : flN v n = n := by
  unfold flN
  rw [flagF_hi h]
  simp
theorem flags_nat {v : Int} (h : 0 ≤ v) {n : Nat} (hn : n < 256) : flagsF v n = flN v n ∧ flN v n < 256 := by
  by_cases h3 : 30 ≤ v
  · rw [flags_hi h3 hn, flN_hi h3]
    exact ⟨rfl, hn⟩
  · obtain ⟨k, rfl⟩ : ∃ k : Nat, v = k := ⟨v.toNat, by omega⟩
    exact flags_lo k (by omega) n hn

/-- What a function does to a field: nothing, or always the same. -/
def FixOrC (g : At → At) (p : At → Int) : Prop := (∀ a, p (g a) = p a) ∨ ∃ c, ∀ a, p (g a) = c
theorem FixOrC.comp {g h : At → At} {p : At → Int} (hg : FixOrC g p) (hh : FixOrC h p) : FixOrC (fun a => h (g a)) p := by
  rcases hh with hh | ⟨c, hh⟩
  · rcases hg with hg | ⟨c, hg⟩
    · exact .inl fun a => (hh _).trans (hg a)
    · exact .inr ⟨c, fun a => (hh _).trans (hg a)⟩
  · exact .inr ⟨c, fun a => hh _⟩
/-- Proper flags. -/
def Fok (a : At) : Prop := 0 ≤ a.f ∧ a.f ≤ 255
def bit (k : Nat) (a : At) : Bool := a.f.toNat.testBit k
def BitOrC (g : At → At) (k : Nat) : Prop := (∀ a, Fok a → bit k (g a) = bit k a) ∨ ∃ c, ∀ a, Fok a → bit k (g a) = c
structure Eff (g : At → At) : Prop where
  x : FixOrC g At.x
  y : FixOrC g At.y
  ok : ∀ a, Fok a → Fok (g a)
  b : ∀ k, BitOrC g k
theorem Eff.congr {g h : At → At} (hg : Eff g) (e : ∀ a, h a = g a) : Eff h := by
  obtain rfl : h = g := funext e
  exact hg
theorem Eff.id : Eff fun a => a := ⟨.inl fun _ => rfl, .inl fun _ => rfl, fun _ h => h, fun _ => .inl fun _ _ => rfl⟩
theorem Eff.comp {g h : At → At} (hg : Eff g) (hh : Eff h) : Eff fun a => h (g a) := by
  refine ⟨hg.x.comp hh.x, hg.y.comp hh.y, fun a ha => hh.ok _ (hg.ok a ha), fun k => ?_⟩
  rcases hh.b k with e | ⟨c, e⟩
  · rcases hg.b k with d | ⟨c, d⟩
    · exact .inl fun a ha => (e _ (hg.ok a ha)).trans (d a ha)
    · exact .inr ⟨c, fun a ha => (e _ (hg.ok a ha)).trans (d a ha)⟩
  · exact .inr ⟨c, fun a ha => e _ (hg.ok a ha)⟩
theorem bits_inj {m n : Nat} (h : ∀ k, m.testBit k = n.testBit k) : m = n := Nat.eq_of_testBit_eq h
theorem Eff.twice {g : At → At} (h : Eff g) {a : At} (ha : Fok a) : g (g a) = g a := by
  have hx : (g (g a)).x = (g a).x := by
    rcases h.x with e | ⟨c, e⟩
    · exact e _
    · exact (e _).trans (e _).symm
  have hy : (g (g a)).y = (g a).y := by
    rcases h.y with e | ⟨c, e⟩
    · exact e _
    · exact (e _).trans (e _).symm
  have hf : (g (g a)).f = (g a).f := by
    have h1 := h.ok _ ha
    have h2 := h.ok _ h1
    have : (g (g a)).f.toNat = (g a).f.toNat := bits_inj fun k => by
      rcases h.b k with e | ⟨c, e⟩
      · exact e _ h1
      · exact (e _ h1).trans (e _ ha).symm
    have := h1.1
    have := h2.1
    omega
  generalize g (g a) = u at *
  generalize g a = v at *
  cases u
  cases v
  simp only at hx hy hf
  subst hx hy hf
  rfl
theorem Eff.dfl : Eff fun _ => Go.Proofs.YtolmaphpfhplpaaDoor.dfl := ⟨.inr ⟨_, fun _ => rfl⟩, .inr ⟨_, fun _ => rfl⟩, fun _ _ => ⟨by decide, by decide⟩, fun _ => .inr ⟨_, fun _ _ => rfl⟩⟩
theorem Eff.putC (v : Int) (l : List Int) : Eff (putC v l) := by
  by_cases h : v = 38
  · refine ⟨.inr ⟨(colF (lw l) l.length).1, fun a => ?_⟩, .inl fun a => ?_, fun a ha => ?_, fun k => .inl fun a _ => ?_⟩ <;> unfold Go.Proofs.YtolmaphpfhplpaaDoor.putC <;> rw [if_pos h]
    · exact ha
    · rfl
  · refine ⟨.inl fun a => ?_, .inr ⟨(colF (lw l) l.length).1, fun a => ?_⟩, fun a ha => ?_, fun k => .inl fun a _ => ?_⟩ <;> unfold Go.Proofs.YtolmaphpfhplpaaDoor.putC <;> rw [if_neg h]
    · exact ha
    · rfl
theorem Fok.nat {a : At} (h : Fok a) : ∃ n : Nat, a.f = n ∧ n < 256 := ⟨a.f.toNat, by have := h.1; omega, by have := h.2; omega⟩
theorem Eff.stepP {v : Int} (hv : 0 ≤ v) : Eff (stepP v) := by
  refine ⟨?_, ?_, fun a ha => ?_, fun k => ?_⟩
  · unfold Go.Proofs.YtolmaphpfhplpaaDoor.stepP
    by_cases h : (simpleF v 30).2 = true
    · exact .inr ⟨_, fun a => if_pos h⟩
    · exact .inl fun a => if_neg h
  · unfold Go.Proofs.YtolmaphpfhplpaaDoor.stepP
    by_cases h : (simpleF v 40).2 = true
    · exact .inr ⟨_, fun a => if_pos h⟩
    · exact .inl fun a => if_neg h
  · obtain ⟨n, e, hn⟩ := ha.nat
    obtain ⟨e1, e2⟩ := flags_nat hv hn
    unfold Fok Go.Proofs.YtolmaphpfhplpaaDoor.stepP
    rw [e, e1]
    show 0 ≤ (flN v n : Int) ∧ (flN v n : Int) ≤ 255
    omega
  · have key : ∀ a, Fok a → bit k (Go.Proofs.YtolmaphpfhplpaaDoor.stepP v a) = ((bit k a || (flagF v).1.toNat.testBit k) ^^ ((bit k a || (flagF v).1.toNat.testBit k) && (flagF v).2.toNat.testBit k)) := fun a ha => by
      obtain ⟨n, e, hn⟩ := ha.nat
      obtain ⟨e1, e2⟩ := flags_nat hv hn
      unfold bit Go.Proofs.YtolmaphpfhplpaaDoor.stepP
      simp only [e, e1, Int.toNat_natCast, flN, Nat.testBit_xor, Nat.testBit_and, Nat.testBit_or]
    cases hs : (flagF v).1.toNat.testBit k <;> cases hc : (flagF v).2.toNat.testBit k <;> simp only [hs, hc, Bool.or_false, Bool.or_true, Bool.and_false, Bool.and_true, Bool.xor_false, Bool.xor_true, Bool.xor_self, Bool.not_true] at key
    · exact .inl key
    · exact .inr ⟨_, key⟩
    · exact .inr ⟨_, key⟩
    · exact .inr ⟨_, key⟩
theorem runL_eff : ∀ (m : Nat) (l : List Int), (∀ v ∈ l, 0 ≤ v) → Eff fun a => (runL m l a).2
  | 0, _, _ => .id
  | m + 1, [], _ => .id
  | m + 1, v :: l, h => by
    have hl : ∀ w ∈ l, 0 ≤ w := fun w hw => h w (by simp [hw])
    by_cases h0 : v = 0
    · refine (Eff.comp .dfl (runL_eff m l hl)).congr fun a => ?_
      rw [runL, if_pos h0]
    · by_cases h3 : v = 38 ∨ v = 48
      · by_cases hc : (colF (lw l) l.length).2 = 0
        · refine Eff.id.congr fun a => ?_
          rw [runL, if_neg h0, if_pos h3, if_pos hc]
        · refine (Eff.comp (.putC v l) (runL_eff m (l.drop (colN l)) fun w hw => hl w (List.mem_of_mem_drop hw))).congr fun a => ?_
          rw [runL, if_neg h0, if_pos h3, if_neg hc]
      · refine (Eff.comp (.stepP (h v (by simp))) (runL_eff m l hl)).congr fun a => ?_
        rw [runL, if_neg h0, if_neg h3]
theorem nums_pos (z : Nat → Int) (n : Nat) : ∀ v ∈ nums z n, 0 ≤ v := by
  intro v hv
  unfold nums at hv
  split at hv
  · simp at hv
    omega
  · obtain ⟨j, _, rfl⟩ := List.mem_map.1 hv
    unfold mx
    split <;> omega
theorem apply_eff (z : Nat → Int) (n : Nat) : Eff fun a => applyF a z n := (runL_eff _ _ (nums_pos z n)).congr fun a => apply_run a z n
end Go.Proofs.YtolmaphpfhplpaaDoor
