/-
  Lists of numbers, arrays of bytes and booleans that a law is handed, as the evaluator sees them.
  Condition: none; lemmas.
-/
import Derived.Test.YtolmaphpfhplpaaDoorStat
import Derived.Test.YtolmaphpfhplpaaDoorApp3
import Derived.SizedLaws
namespace Go.Proofs.YtolmaphpfhplpaaDoor
open Go Go.AE Go.DE Go.RowKit Go.ChangeShapes Go.Joins

abbrev kv (k : IntKind) (x : Int) : DV := .v (.int k x)
abbrev knd (k : IntKind) (z : Nat → Int) : Nat → Nat → DV := fun i _ => kv k (z i)
theorem int_dr {C : Cf} {μ : Mu} (k : IntKind) (x : Int) : DR C μ (kv k x) (.int k x) := .v _ rfl
/-- How long a list of arguments can be. -/
def Sized {H : Type} (t e : TypeId) (n : Nat) (d : DataW H) : Prop :=
  ∀ (ts : List TypeId) (ds : List (DataW H)) (j : Nat), (DataW.weightsEach Tryd.prog ts ds).all (· ≤ reachBytes) = true → ts[j]? = some t → ds[j]? = some d → n * Tryd.prog.bytesOf e ≤ reachBytes
theorem open_sl {H : Type} {enc : TypeId × Value → H} {W : World} {b0 : Nat} {v : Value} {d : DataW H} {p : List MemPlace} {r : Reach} {t e : TypeId} {k : IntKind}
    (ht : Tryd.prog.underlying t = some (.slice e)) (he : Tryd.prog.underlying e = some (.int k)) (hc : Tryd.prog.cellsOf e = 1)
    (hv : Value.okWide Tryd.prog W r b0 t v) (h : DataW.Trod enc Tryd.prog W 0 (fun _ => true) true t v d p) :
    ∃ (z : Nat → Int) (n : Nat) (w : Value), (∀ j, j < n → k.min ≤ z j ∧ z j ≤ k.max) ∧ DR (baseC (stW W)) noMu (.sl false (knd k z) 1 n) w ∧ VR (fun _ => none) w v ∧ Sized t e n d := by
  obtain ⟨fuel, hf⟩ := h
  obtain ⟨a0, len0, cap0, rfl⟩ := Go.WideShapes.okWide_slice ht hv
  rcases open_ints ht he hc hf with ⟨hcs, hx⟩ | ⟨a, len, cap, zs, hcs, _, hl, hm, hz, hx, hcell, hwz⟩
  · simp [Value.cells] at hcs
    obtain ⟨rfl, rfl, rfl⟩ := hcs
    exact ⟨fun _ => 0, 0, _, fun j hj => absurd hj (by omega), .slnil false _ 1, .snil, fun _ _ _ _ _ _ => by rw [Nat.zero_mul]; exact Nat.zero_le _⟩
  · simp [Value.cells] at hcs
    obtain ⟨e1, e2, e3⟩ := hcs
    subst e1
    subst e2
    subst e3
    have hz : zs.length = cap0 := by simpa using hz
    have hunk : cap0 < unk := by
      have : maxLen < unk := by decide
      omega
    have hsp : 0 < cap0 → a.spot = none := fun h0 => by
      have := World.cell?_spot (hcell 0 (by omega))
      simpa [Addr.add] using this
    have hadd : ∀ i, 0 < cap0 → a.add i = ⟨a.block, a.off + i, none⟩ := fun i h0 => by
      have := hsp h0
      cases a
      simp only at this
      subst this
      unfold Addr.add
      split
      · rename_i h
        subst h
        rfl
      · rfl
    have hwf : ∀ j, j < len0 → k.min ≤ zs.getD j 0 ∧ zs.getD j 0 ≤ k.max := fun j hj => by
      have hj' : j < zs.length := by omega
      have h2 := hwz zs[j] (List.getElem_mem hj')
      rw [List.getD_eq_getElem?_getD, List.getElem?_eq_getElem hj', Option.getD_some]
      unfold Lit.wf at h2
      simpa using h2
    refine ⟨fun j => zs.getD j 0, len0, .slice (some ⟨a.block, a.off, some 0⟩) len0 cap0, hwf, ?_, ?_, fun ts ds j hs ht' hd => ?_⟩
    · refine .sl false _ 1 len0 _ cap0 (fun i _ => .int k (zs.getD i 0)) (.inl ⟨hunk, hl⟩) (by decide) (fun i f hi hf' => ⟨?_, rfl⟩) fun i f _ _ => int_dr k _
      obtain rfl : f = 0 := by omega
      have hci := hcell i (by omega)
      show stW W a.block (a.off + i * 1 + 0) = _
      refine stW_of ?_
      rw [show a.off + i * 1 + 0 = a.off + i by omega, ← hadd i (by omega)]
      exact hci
    · refine .sliceX _ _ len0 cap0 hunk hl ?_
      by_cases h0 : cap0 = 0
      · exact .inl h0
      · exact .inr ⟨hsp (by omega), .inl ⟨0, rfl, rfl, rfl⟩⟩
    · obtain ⟨rfl, -⟩ : d = _ ∧ p = _ := by simpa using hx
      have h1 := sized_slice hs ht' hd ht
      have h2 : (lits (H := H) k (zs.take len0)).length = len0 := by
        simp [lits]
        omega
      refine Nat.le_trans (Nat.mul_le_mul_right _ ?_) h1
      omega
theorem open_ints64 {H : Type} {enc : TypeId × Value → H} {W : World} {b0 : Nat} {v : Value} {d : DataW H} {p : List MemPlace} {r : Reach}
    (hv : Value.okWide Tryd.prog W r b0 24 v) (h : DataW.Trod enc Tryd.prog W 0 (fun _ => true) true 24 v d p) :
    ∃ (z : Nat → Int) (n : Nat) (w : Value), (∀ j, j < n → In64 (z j)) ∧ DR (baseC (stW W)) noMu (.sl false (ints z) 1 n) w ∧ VR (fun _ => none) w v ∧ Sized 24 3 n d :=
  open_sl Tryd.underlying24 Tryd.underlying3 cells3 hv h
theorem open_bytes8 {H : Type} {enc : TypeId × Value → H} {W : World} {b0 : Nat} {v : Value} {d : DataW H} {p : List MemPlace} {r : Reach}
    (hv : Value.okWide Tryd.prog W r b0 36 v) (h : DataW.Trod enc Tryd.prog W 0 (fun _ => true) true 36 v d p) :
    ∃ (z : Nat → Int) (n : Nat) (w : Value), (∀ j, j < n → 0 ≤ z j ∧ z j ≤ 255) ∧ DR (baseC (stW W)) noMu (.sl false (knd .u8 z) 1 n) w ∧ VR (fun _ => none) w v ∧ Sized 36 5 n d :=
  open_sl Tryd.underlying36 (show Tryd.prog.underlying 5 = some (.int .u8) by kernel_rfl) (show Tryd.prog.cellsOf 5 = 1 by kernel_rfl) hv h
theorem bytes3 : Tryd.prog.bytesOf 3 = 8 := by kernel_rfl
theorem bytes5 : Tryd.prog.bytesOf 5 = 1 := by kernel_rfl
end Go.Proofs.YtolmaphpfhplpaaDoor
