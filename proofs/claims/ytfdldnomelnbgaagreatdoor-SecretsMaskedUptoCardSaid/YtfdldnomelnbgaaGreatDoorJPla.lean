/-
 Plain laws: being alike is having the same key.
 Conditions: none.

 Plain laws: the program's tables answer as the reference's.
 Conditions: none.
-/
import Derived.Test.YtfdldnomelnbgaaGreatDoorJMas
import Derived.Test.YtfdldnomelnbgaaGreatDoorJCw
namespace Go.Proofs.YtfdldnomelnbgaaGreatDoor
open Go Go.AE Go.DE Go.RowKit

theorem cond_and {a b : Bool} : (bif a then b else false) = (a && b) := by cases a <;> rfl
theorem ba_eq {a b : ByteArray} : (a == b) = true ↔ a = b := by
 constructor
 ·intro h
  have h : (a.data == b.data) = true := h
  exact ByteArray.ext (beq_iff_eq.1 h)
 ·rintro rfl
  show (a.data == a.data) = true
  exact beq_self_eq_true _
def cellKey (r : Row) (i : Nat) : ByteArray × Int × Int × Int × Int := (r.tx i, r.wd i, r.fo i, r.ba i, r.fl i)
def rowKey (r : Row) : List (ByteArray × Int × Int × Int × Int) := (List.range r.n).map (cellKey r)
def rowsKey (R : Nat → Row) (n : Nat) : List (List (ByteArray × Int × Int × Int × Int)) := (List.range n).map fun i => rowKey (R i)
theorem map_range_eq {α : Type} {f g : Nat → α} {n m : Nat} : (List.range n).map f = (List.range m).map g ↔ n = m ∧ ∀ i, i < n → f i = g i := by
 constructor
 ·intro h
  have hn : n = m := by simpa using congrArg List.length h
  subst hn
  refine ⟨rfl, fun i hi => ?_⟩
  have := congrArg (fun l => l[i]?) h
  simpa [List.getElem?_map, List.getElem?_range, hi] using this
 ·rintro ⟨rfl, h⟩
  exact List.map_congr_left fun i hi => h i (List.mem_range.1 hi)
theorem cellB_iff {r s : Row} {i : Nat} : cellB r s i = true ↔ cellKey r i = cellKey s i := by
 unfold cellB cellKey
 simp only [cond_and, Bool.and_eq_true, beq_iff_eq, ba_eq, Prod.mk.injEq, and_true, Bool.and_true, and_assoc]
theorem rowEq_iff {r s : Row} : rowEq r s = true ↔ rowKey r = rowKey s := by
 unfold rowEq rowKey
 rw [map_range_eq]
 cases h : ((r.n : Int) != (s.n : Int)) with
 | true =>
  have h : ¬ r.n = s.n := fun e => by rw [e] at h; simp at h
  exact ⟨(fun e => nomatch e), fun e => absurd e.1 h⟩
 | false =>
  have h : r.n = s.n := by
   have : (r.n : Int) = (s.n : Int) := by simpa using h
   omega
  rw [cond_false, allF_iff]
  exact ⟨fun e => ⟨h, fun i hi => cellB_iff.1 (e i (Nat.zero_le _) (by omega))⟩, fun e i _ hi => cellB_iff.2 (e.2 i (by omega))⟩
theorem rowsEq_iff {R S : Nat → Row} {n m : Nat} : rowsEq R n S m = true ↔ rowsKey R n = rowsKey S m := by
 unfold rowsEq rowsKey
 rw [map_range_eq]
 cases h : ((n : Int) != (m : Int)) with
 | true =>
  have h : ¬ n = m := fun e => by rw [e] at h; simp at h
  exact ⟨(fun e => nomatch e), fun e => absurd e.1 h⟩
 | false =>
  have h : n = m := by
   have : (n : Int) = (m : Int) := by simpa using h
   omega
  rw [cond_false, allF_iff]
  exact ⟨fun e => ⟨h, fun i hi => rowEq_iff.1 (e i (Nat.zero_le _) (by omega))⟩, fun e i _ hi => rowEq_iff.2 (e.2 i (by omega))⟩
theorem tabsEq_iff {r s : Nat → Bool} {n m : Nat} : tabsEq r n s m = true ↔ (List.range n).map r = (List.range m).map s := by
 unfold tabsEq
 rw [map_range_eq]
 cases h : ((n : Int) != (m : Int)) with
 | true =>
  have h : ¬ n = m := fun e => by rw [e] at h; simp at h
  exact ⟨(fun e => nomatch e), fun e => absurd e.1 h⟩
 | false =>
  have h : n = m := by
   have : (n : Int) = (m : Int) := by simpa using h
   omega
  rw [cond_false, allF_iff]
  exact ⟨fun e => ⟨h, fun i hi => by simpa [tabB] using e i (Nat.zero_le _) (by omega)⟩, fun e i _ hi => by simpa [tabB] using e.2 i (by omega)⟩
/-- What alike terminals have in common. -/
structure Key where
 g : List (List (ByteArray × Int × Int × Int × Int))
 o : List (List (ByteArray × Int × Int × Int × Int))
 b : List (List (ByteArray × Int × Int × Int × Int))
 t : List Bool
 i : List Int
 l : List Bool
 s : List ByteArray
 u : List (List UInt8)
def Tm.key (x : Tm) : Key where
 g := rowsKey x.gR x.gn
 o := rowsKey x.oR x.on
 b := rowsKey x.bR x.bn
 t := (List.range x.tn).map x.tb
 i := [x.I 0, x.I 1, x.I 3, x.I 4, x.I 6, x.I 7, x.I 9, x.I 10, x.I 12, x.I 13, x.I 14, x.I 16, x.I 17, x.I 18, x.I 19, x.I 20, x.I 21, x.I 30, x.I 31, x.I 32, x.I 33, x.I 34, x.I 37]
 l := [x.B 8, x.B 11, x.B 15, x.B 22, x.B 23, x.B 24, x.B 25, x.B 26, x.B 27, x.B 28, x.B 29]
 s := [x.S 38, x.S 39]
 u := [(x.S 40).toList, (x.S 41).toList]
theorem alF_iff {x y : Tm} : alF x y = true ↔ x.key = y.key := by
 unfold alF Tm.key
 simp only [cond_and, Bool.and_eq_true, beq_iff_eq, ba_eq, Bool.and_true, rowsEq_iff, tabsEq_iff, Key.mk.injEq, List.cons.injEq, and_true, and_assoc]
 constructor
 ·rintro ⟨a1, a2, a3, a4, a5, a6, a7, a8, a9, a10, a11, a12, a13, a14, a15, a16, a17, a18, a19, a20, a21, a22, a23, a24, a25, a26, a27, a28, a29, a30, a31, a32, a33, a34, a35, a36, a37, a38, a39, a40, a41, a42⟩
  simp_all
 ·intro h
  simp_all
theorem alike_iff {l m : List DV} : alikeL l m = true ↔ (mskL l).key = (mskL m).key := alF_iff
theorem msk_tx {r : Row} {i : Nat} (h : i < r.n) : r.msk.tx i = mkT r i := if_pos h
theorem mkT_msk {r : Row} {i : Nat} (h : i < r.n) : mkT r.msk i = r.msk.tx i := by
 have e1 : r.msk.fl i = r.fl i := rfl
 have e2 : r.msk.wd i = r.wd i := rfl
 rw [msk_tx h]
 unfold mkT
 rw [e1, e2, msk_tx h]
 unfold mkT
 cases shown (r.fl i) <;> cases (r.wd i == 1) <;> cases (r.wd i == 2) <;> rfl
theorem msk_msk (r : Row) : r.msk.msk = r.msk := by
 show ({ r.msk with tx := fun j => if j < r.msk.n then mkT r.msk j else r.msk.tx j } : Row) = r.msk
 have : (fun j => if j < r.msk.n then mkT r.msk j else r.msk.tx j) = r.msk.tx := by
  funext j
  split
  ·rename_i h
   exact mkT_msk h
  ·rfl
 rw [this]
theorem Tm.msk_msk (x : Tm) : x.msk.msk = x.msk := by
 have e : ∀ R : Nat → Row, mskR (mskR R) = mskR R := fun R => funext fun i => Go.Proofs.YtfdldnomelnbgaaGreatDoor.msk_msk (R i)
 show ({ x.msk with gT := fun _ => false, gR := mskR (mskR x.gR), oT := fun _ => false, oR := mskR (mskR x.oR), bT := fun _ => false, bR := mskR (mskR x.bR) } : Tm) = x.msk
 rw [e, e, e]
 rfl
/-- A terminal out of its own cells: the numbers at other places are others. -/
theorem mskL_cells (x : Tm) : (mskL x.cells).cells = x.msk.cells := rfl
theorem mskL_key (x : Tm) : (mskL x.cells).key = x.msk.key := rfl
/-- A terminal is alike to itself, masked. -/
theorem alike_msk (x : Tm) : alikeL x.cells x.msk.cells = true := alike_iff.2 (by rw [mskL_key, mskL_key, Tm.msk_msk])
end Go.Proofs.YtfdldnomelnbgaaGreatDoor

namespace Go.Proofs.YtfdldnomelnbgaaGreatDoor
open Go Go.AE Go.DE Go.RowKit

theorem inR_iff {lo hi : Nat → Int} {v : Int} : ∀ {m i : Nat}, inR lo hi v m i = true ↔ ∃ j, i ≤ j ∧ j < i + m ∧ lo j ≤ v ∧ v ≤ hi j
 | 0, i => ⟨(fun h => nomatch h), fun ⟨j, h1, h2, _⟩ => by omega⟩
 | m + 1, i => by
  have e0 : pr lo hi i 0 = lo i := rfl
  have e1 : pr lo hi i 1 = hi i := rfl
  rw [inR, e0, e1]
  by_cases h : lo i ≤ v ∧ v ≤ hi i
  ·rw [if_pos h.1, if_pos h.2]
   exact ⟨fun _ => ⟨i, Nat.le_refl _, by omega, h⟩, fun _ => rfl⟩
  ·have : (if v ≥ lo i then (if v ≤ hi i then true else inR lo hi v m (i + 1)) else inR lo hi v m (i + 1)) = inR lo hi v m (i + 1) := by
    by_cases h1 : v ≥ lo i
    ·rw [if_pos h1, if_neg fun h2 => h ⟨h1, h2⟩]
    ·rw [if_neg h1]
   rw [this, inR_iff]
   constructor
   ·rintro ⟨j, h1, h2, h3⟩
    exact ⟨j, by omega, by omega, h3⟩
   ·rintro ⟨j, h1, h2, h3⟩
    have : j ≠ i := fun e => h (e ▸ h3)
    exact ⟨j, by omega, by omega, h3⟩
theorem bsR_spec {hi : Nat → Int} {v : Int} {n : Nat} (mono : ∀ i j, i ≤ j → j < n → hi i ≤ hi j) : ∀ (m l h : Nat), l ≤ h → h ≤ n → h - l ≤ m → (∀ j, j < l → hi j < v) → (∀ j, h ≤ j → j < n → v ≤ hi j) →
  bsR hi v m l h ≤ n ∧ (∀ j, j < bsR hi v m l h → hi j < v) ∧ ∀ j, bsR hi v m l h ≤ j → j < n → v ≤ hi j
 | 0, l, h, h1, h2, h3, h4, h5 => by
  obtain rfl : l = h := by omega
  exact ⟨h2, h4, h5⟩
 | m + 1, l, h, h1, h2, h3, h4, h5 => by
  rw [bsR]
  by_cases hl : l < h
  ·rw [if_pos hl]
   have q1 : (l + h) / 2 < h := by omega
   have q2 : l ≤ (l + h) / 2 := by omega
   by_cases hv : v > hi ((l + h) / 2)
   ·rw [if_pos hv]
    refine bsR_spec mono m _ _ (by omega) h2 (by omega) (fun j hj => ?_) h5
    have := mono j ((l + h) / 2) (by omega) (by omega)
    omega
   ·rw [if_neg hv]
    refine bsR_spec mono m _ _ q2 (by omega) (by omega) h4 fun j hj hn => ?_
    have := mono ((l + h) / 2) j hj hn
    omega
  ·rw [if_neg hl]
   obtain rfl : l = h := by omega
   exact ⟨h2, h4, h5⟩
theorem findF_eq {L : List (Int × Int)} (mono : ∀ i j, i < j → j < L.length → tabH L i < tabL L j) (le : ∀ i, i < L.length → tabL L i ≤ tabH L i) (v : Int) : findF L v = inF (tabL L) (tabH L) L.length v := by
 have mh : ∀ i j, i ≤ j → j < L.length → tabH L i ≤ tabH L j := fun i j hij hj => by
  by_cases e : i = j
  ·subst e; exact Int.le_refl _
  ·have := mono i j (by omega) hj
   have := le j hj
   omega
 obtain ⟨b1, b2, b3⟩ := bsR_spec (v := v) mh (L.length - 0) 0 L.length (Nat.zero_le _) (Nat.le_refl _) (Nat.le_refl _) (fun j hj => absurd hj (Nat.not_lt_zero _)) (fun j h1 h2 => by omega)
 rw [Bool.eq_iff_iff]
 unfold findF inF bsQ
 rw [inR_iff]
 generalize bsR (tabH L) v (L.length - 0) 0 L.length = k at b1 b2 b3 ⊢
 by_cases hk : k < L.length
 ·rw [decide_eq_true hk, cond_true, decide_eq_true_iff]
  constructor
  ·intro h
   exact ⟨k, Nat.zero_le _, by omega, h, b3 k (Nat.le_refl _) hk⟩
  ·rintro ⟨j, _, h2, h3, h4⟩
   have hj : k ≤ j := by
    rcases Nat.lt_or_ge j k with q | q
    ·have := b2 j q
     omega
    ·exact q
   by_cases e : k = j
   ·subst e; exact h3
   ·have := mono k j (by omega) (by omega)
    have := b3 k (Nat.le_refl _) hk
    omega
 ·rw [decide_eq_false hk, cond_false]
  refine ⟨(fun h => nomatch h), ?_⟩
  rintro ⟨j, _, h2, h3, h4⟩
  have := b2 j (by omega)
  omega
theorem mk_same (v : Int) : findF mkL v = markF v := findF_eq (L := mkL) (fun i j hij hj => (by decide : ∀ j, j < List.length mkL → ∀ i, i < j → tabH mkL i < tabL mkL j) j hj i hij) (by decide) v
theorem wd_same (v : Int) : findF wdL v = wideF v := findF_eq (L := wdL) (fun i j hij hj => (by decide : ∀ j, j < List.length wdL → ∀ i, i < j → tabH wdL i < tabL wdL j) j hj i hij) (by decide) v
/-- The width of a character. -/
theorem cw_same (v : Int) : cwF v = widF v := by
 unfold cwF widF
 rw [mk_same, wd_same]
end Go.Proofs.YtfdldnomelnbgaaGreatDoor
