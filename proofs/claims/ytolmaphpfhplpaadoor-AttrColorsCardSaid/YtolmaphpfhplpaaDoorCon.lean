/-
  Lists of whole numbers as a callee sees them; the surroundings of the laws of narratorlaw04.
  Conditions: none; definitions and lemmas.
-/
import Derived.Test.YtolmaphpfhplpaaDoorDeAuto
import Derived.Test.YtolmaphpfhplpaaDoorProg
namespace Go.Proofs.YtolmaphpfhplpaaDoor
open Go Go.AE Go.DE Go.RowKit

abbrev iv (x : Int) : DV := .v (.int .i64 x)
def ints (z : Nat → Int) : Nat → Nat → DV := fun i _ => iv (z i)
def num : DV → Int
  | .v (.int _ x) => x
  | _ => 0
def intsOk (g : Nat → Nat → DV) (n : Nat) : Prop := ∀ i, i < n → g i 0 = iv (num (g i 0))
noncomputable def intsK (d : DV) (k : (Nat → Int) → Nat → Option Unit) : Option Unit :=
  match d with
  | .sl _ g 1 n => bif holds (intsOk g n) then k (fun i => num (g i 0)) n else none
  | .v (.slice none 0 0) => k (fun _ => 0) 0
  | _ => none
theorem intsOk_ints (z : Nat → Int) (n : Nat) : intsOk (ints z) n := fun _ _ => rfl
theorem intsK_ints {t : Bool} {z : Nat → Int} {n : Nat} {k : (Nat → Int) → Nat → Option Unit} (h : k z n = some ()) : intsK (.sl t (ints z) 1 n) k = some () := hT (intsOk_ints z n) h
theorem intsK_some {d : DV} {k : (Nat → Int) → Nat → Option Unit} (h : intsK d k = some ()) : ∃ t z n, k z n = some () ∧ ∀ C μ v, DR C μ d v → DR C μ (.sl t (ints z) 1 n) v := by
  unfold intsK at h
  split at h <;> first | (cases h; done) | skip
  · rename_i t g n
    obtain ⟨h1, h2⟩ := bif_none h
    have h1 := holds_eq.1 h1
    refine ⟨t, _, n, h2, fun C μ v hv => ?_⟩
    rcases hv.sl_inv with ⟨a, cap, w, rfl, hc, hk, q1, q2⟩ | ⟨rfl, rfl⟩
    · refine .sl t _ 1 n a cap w hc hk q1 fun i f hi hf => ?_
      obtain rfl : f = 0 := by omega
      have := q2 i 0 hi hf
      rw [h1 i hi] at this
      exact this
    · exact .slnil t _ 1
  · refine ⟨true, _, 0, h, fun C μ v hv => ?_⟩
    cases hv
    exact .slnil true _ 1

/-- An attribute. -/
structure At where
  x : Int
  y : Int
  f : Int
  deriving DecidableEq
abbrev At.d (a : At) : DV := .agg [iv a.x, iv a.y, iv a.f]

def codeN (i : Nat) : Int := [1, 2, 3, 4, 5, 7, 8, 9].getD i 0
def gl0 : Gl := fun g => match Nat.beq g 0 with
  | true => .pf false (fun i _ => iv (codeN i)) 1 8 0 0
  | false => .any
def CodesIn (st : AE.Stat) : Prop := ∀ i, i < 8 → st 0 i = some (.int .i64 (codeN i))
theorem glOk {st : AE.Stat} (h : CodesIn st) : GlOk st gl0 := by
  constructor
  · intro g
    unfold gl0
    split
    · exact .pf _ _ _ _ _ _
    · exact .any
  · intro C μ σ σd hS g
    unfold gl0
    split
    · rename_i e
      obtain rfl := Nat.eq_of_beq_eq_true e
      refine .pf false _ 1 8 0 0 ⟨0, 0, some 0⟩ _ (fun i _ => .int .i64 (codeN i)) (by decide) (by decide) rfl (fun i f hi hf => ⟨?_, rfl⟩) fun i f _ _ => .v _ rfl
      obtain rfl : f = 0 := by omega
      exact hS.sta 0 0 _ _ (by simpa using h i hi)
    · exact .any _
noncomputable def env (l : List (FuncId × ConF)) (lp : Nat → Option (LoopD Unit)) (n : Nat) (mg : List (Nat × List (Nat × List Nat)) := []) : Env Unit := ⟨tblD l, fun _ => true, gl0, lp, n, joins Tryd.prog gl0 mg⟩
end Go.Proofs.YtolmaphpfhplpaaDoor
