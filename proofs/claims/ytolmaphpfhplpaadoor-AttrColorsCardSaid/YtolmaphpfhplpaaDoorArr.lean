/-
  An array of six bytes that a law is handed, as the evaluator sees it.
  Condition: none; lemmas.
-/
import Derived.Test.YtolmaphpfhplpaaDoorOpen
import Derived.Test.YtolmaphpfhplpaaDoorCol
import Derived.OpenShut
namespace Go.Proofs.YtolmaphpfhplpaaDoor
open Go Go.AE Go.DE Go.RowKit Go.ChangeShapes Go.Joins

def arrV (c0 c1 c2 c3 c4 c5 : Int) : Value := .agg #[.int .u8 c0, .int .u8 c1, .int .u8 c2, .int .u8 c3, .int .u8 c4, .int .u8 c5]
def zeroA {H : Type} : DataW H := .agg [.lit (.int .u8 0), .lit (.int .u8 0), .lit (.int .u8 0), .lit (.int .u8 0), .lit (.int .u8 0), .lit (.int .u8 0)]
theorem cells39 : Tryd.prog.cellsOf 39 = 6 := by kernel_rfl
theorem cells5 : Tryd.prog.cellsOf 5 = 1 := by kernel_rfl
theorem under5 : Tryd.prog.underlying 5 = some (.int .u8) := by kernel_rfl
theorem six {l : List Value} (h : l.length = 6) : ∃ a b c d e f, l = [a, b, c, d, e, f] := by
  match l, h with
  | [a, b, c, d, e, f], _ => exact ⟨a, b, c, d, e, f, rfl⟩
theorem open_arr {H : Type} {enc : TypeId × Value → H} {W : World} {b0 base : Nat} {spare : Nat → Bool} {held : Bool} {v : Value} {d : DataW H} {p : List MemPlace} {r : Reach}
    (hv : Value.okWide Tryd.prog W r b0 39 v) (h : DataW.Trod enc Tryd.prog W base spare held 39 v d p) :
    ∃ c0 c1 c2 c3 c4 c5, v = arrV c0 c1 c2 c3 c4 c5 ∧ In8 c0 ∧ In8 c1 ∧ In8 c2 ∧ In8 c3 ∧ In8 c4 ∧ In8 c5 := by
  obtain ⟨fuel, hf⟩ := h
  simp only [Value.okWide, Tryd.underlying39] at hv
  obtain ⟨cs, rfl, hsz, -⟩ := hv
  rw [cells39] at hsz
  obtain ⟨xs, m, -, -, -, hxs, hel⟩ := DataW.trod_array Tryd.underlying39 hf
  have hcs : (Value.agg cs).cells.toList = cs.toList := rfl
  rw [hcs, cells5] at hel
  have el : ∀ (i : Nat) w, i < 6 → cs.toList[i]? = some w → ∃ n, w = .int .u8 n ∧ In8 n := fun i w hi hw => by
    have h1 := hel i hi
    have hlt : i < cs.toList.length := (List.getElem?_eq_some_iff.1 hw).1
    have hw' : cs.toList[i] = w := (List.getElem?_eq_some_iff.1 hw).2
    rw [List.getElem?_eq_getElem (by omega : i < xs.length), Nat.mul_one, List.drop_eq_getElem_cons hlt, hw'] at h1
    obtain ⟨n, hn, -, hwf⟩ := DataW.trod_int under5 (show DataW.trod enc Tryd.prog W base spare held m 5 [w] = some _ from h1)
    obtain ⟨rfl⟩ : w = _ := by simpa using hn
    unfold Lit.wf at hwf
    rw [Bool.and_eq_true, decide_eq_true_iff, decide_eq_true_iff] at hwf
    exact ⟨n, rfl, hwf⟩
  obtain ⟨a0, a1, a2, a3, a4, a5, hl⟩ := six (l := cs.toList) (by simpa using hsz)
  rw [hl] at el
  obtain ⟨n0, rfl, i0⟩ := el 0 _ (by omega) rfl
  obtain ⟨n1, rfl, i1⟩ := el 1 _ (by omega) rfl
  obtain ⟨n2, rfl, i2⟩ := el 2 _ (by omega) rfl
  obtain ⟨n3, rfl, i3⟩ := el 3 _ (by omega) rfl
  obtain ⟨n4, rfl, i4⟩ := el 4 _ (by omega) rfl
  obtain ⟨n5, rfl, i5⟩ := el 5 _ (by omega) rfl
  refine ⟨n0, n1, n2, n3, n4, n5, ?_, i0, i1, i2, i3, i4, i5⟩
  unfold arrV
  rw [← hl]
theorem arr_dr {C : Cf} {μ : Mu} (c0 c1 c2 c3 c4 c5 : Int) : DR C μ (.agg [bv c0, bv c1, bv c2, bv c3, bv c4, bv c5]) (arrV c0 c1 c2 c3 c4 c5) := by
  refine .agg _ _ rfl fun i d v hd hv => ?_
  have h6 : i = 0 ∨ i = 1 ∨ i = 2 ∨ i = 3 ∨ i = 4 ∨ i = 5 ∨ 6 ≤ i := by omega
  rcases h6 with rfl | rfl | rfl | rfl | rfl | rfl | h
  all_goals first
    | (obtain rfl := Option.some.inj hd
       obtain rfl := Option.some.inj hv
       exact .v _ rfl)
    | (rw [List.getElem?_eq_none (by simpa using h)] at hd
       cases hd)
theorem arr_vr {ρ : Ren} (c0 c1 c2 c3 c4 c5 : Int) : VR ρ (arrV c0 c1 c2 c3 c4 c5) (arrV c0 c1 c2 c3 c4 c5) := flat_VR ρ rfl
end Go.Proofs.YtolmaphpfhplpaaDoor
