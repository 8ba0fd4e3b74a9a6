/-
  Contracts of the small functions of attr and of its reference: at, color, flag, simple, code, with, one.
  Condition: the package-level table 'codes' holds its eight numbers (CodesIn).
-/
import Derived.Test.YtolmaphpfhplpaaDoorCon
import Derived.IntWalk
namespace Go.Proofs.YtolmaphpfhplpaaDoor
open Go Go.AE Go.DE Go.RowKit

theorem none_of {p : Prop} (h : ¬ p) (h' : p) : (none : Option Unit) = some () := absurd h' h
theorem W_in {n : Int} (h1 : -9223372036854775808 ≤ n) (h2 : n ≤ 9223372036854775807) : IntKind.i64.wrap n = n := IntWalk.i64_in n ⟨h1, h2⟩

/-- at -/
def atF (z : Nat → Int) (n : Nat) (i : Int) : Int := if i ≥ (n : Int) then -1 else if z i.toNat < 0 then 0 else z i.toNat
noncomputable def atC : ConF := fun args k => match args with
  | [d, .v (.int .i64 i)] => intsK d fun z n => bif holds (0 ≤ i) then k (fun _ => (iv (atF z n i), [])) else none
  | _ => none
theorem at_tree (t : Bool) (z : Nat → Int) (n : Nat) (i : Int) (k : DV → DHeap → Option Unit) : bodyD Tryd.prog (env [] noLp 20) Tryd.f27 [.sl t (ints z) 1 n, iv i] [] k =
    bif decide (i ≥ (↑n : Int)) then k (DV.v (Value.int IntKind.i64 (-1))) []
    else
      bif decide (0 ≤ i) then
        bif decide (i < (↑n : Int)) then
          bif decide (Int.toNat i + 0 < n) then
            bif decide (z (Int.toNat i + 0) < 0) then k (DV.v (Value.int IntKind.i64 0)) []
            else
              bif decide (0 ≤ i) then
                bif decide (i < (↑n : Int)) then
                  bif decide (Int.toNat i + 0 < n) then k (DV.v (Value.int IntKind.i64 (z (Int.toNat i + 0)))) [] else none
                else none
              else none
          else none
        else none
      else none := by
  kernel_rfl
theorem at_ok {st : AE.Stat} (hst : CodesIn st) : ConOk Tryd.prog st 27 atC := by
  refine con_of (mg := []) (l := []) (lp := noLp) (n := 20) (glOk hst) (fun _ h => nomatch h) Tryd.func27 (by kernel_rfl) (by kernel_rfl) (fun _ _ _ h => nomatch h) fun args k hk => ?_
  unfold atC at hk
  split at hk <;> first | (cases hk; done) | skip
  rename_i d i
  obtain ⟨t, z, n, hk, hc⟩ := intsK_some hk
  obtain ⟨h0, hk⟩ := bif_none hk
  have h0 : 0 ≤ i := holds_eq.1 h0
  refine ⟨[.sl t (ints z) 1 n, iv i], _, .cons hc (.self .nil), hk, fun s => ⟨lowR_flat (.v _), ?_⟩⟩
  refine (at_tree t z n i _).trans ?_
  refine dS (fun h => fin_of (finQ_flat (.v _) (by rw [atF, if_pos h]))) fun h => ?_
  refine dT h0 (dT (by omega) (dT (by omega) ?_))
  refine dS (fun h2 => fin_of (finQ_flat (.v _) (by rw [atF, if_neg h, if_pos (show z i.toNat < 0 from h2)]))) fun h2 => ?_
  exact dT h0 (dT (by omega) (dT (by omega) (fin_of (finQ_flat (.v _) (by rw [atF, if_neg h, if_neg (show ¬ z i.toNat < 0 from h2)]; rfl)))))

/-- color -/
def mix (a b c : Int) : Int := IntKind.i64.wrap (IntKind.i64.wrap (IntKind.i64.wrap (16 + IntKind.i64.wrap (36 * IntKind.i64.wrap (Int.tdiv (IntKind.i64.wrap (a * 5)) 255))) + IntKind.i64.wrap (6 * IntKind.i64.wrap (Int.tdiv (IntKind.i64.wrap (b * 5)) 255))) + IntKind.i64.wrap (Int.tdiv (IntKind.i64.wrap (c * 5)) 255))
def colF (z : Nat → Int) (n : Nat) : Int × Int :=
  if 2 ≤ n ∧ z 0 = 5 ∧ z 1 ≤ 255 then (z 1, 2)
  else if 4 ≤ n ∧ z 0 = 2 ∧ z 1 ≤ 255 ∧ z 2 ≤ 255 ∧ z 3 ≤ 255 then (mix (z 1) (z 2) (z 3), 4) else (0, 0)
noncomputable def colorC : ConF := fun args k => match args with
  | [d] => intsK d fun z n => k fun _ => (.tup [iv (colF z n).1, iv (colF z n).2], [])
  | _ => none
theorem max3 (a b c : Int) : ((if c > if b > a then b else a then c else if b > a then b else a) ≤ 255) ↔ a ≤ 255 ∧ b ≤ 255 ∧ c ≤ 255 := by
  repeat' split
  all_goals omega
theorem pairClo (x y : Int) : Clo (.tup [iv x, iv y]) ∧ Low (.tup [iv x, iv y]) := flR_clo rfl
theorem color_tree (t : Bool) (z : Nat → Int) (n : Nat) (k : DV → DHeap → Option Unit) : bodyD Tryd.prog (env [] noLp 20) Tryd.f24 [.sl t (ints z) 1 n] [] k =
    bif decide ((↑n : Int) ≥ 2) then
      bif decide (0 < (↑n : Int)) then
        bif decide (0 < n) then
          bif z 0 == 5 then
            bif decide (1 < (↑n : Int)) then
              bif decide (1 < n) then
                bif decide (z 1 ≤ 255) then
                  bif decide (1 < (↑n : Int)) then
                    bif decide (1 < n) then
                      k (DV.tup [DV.v (Value.int IntKind.i64 (z 1)), DV.v (Value.int IntKind.i64 2)]) []
                    else none
                  else none
                else
                  bif decide ((↑n : Int) ≥ 4) then
                    bif decide (0 < (↑n : Int)) then
                      bif decide (0 < n) then
                        bif z 0 == 2 then
                          bif decide (1 < (↑n : Int)) then
                            bif decide (1 < n) then
                              bif decide (2 < (↑n : Int)) then
                                bif decide (2 < n) then
                                  bif decide (3 < (↑n : Int)) then
                                    bif decide (3 < n) then
                                      bif
                                          decide
                                            ((if z 3 > if z 2 > z 1 then z 2 else z 1 then z 3
                                              else if z 2 > z 1 then z 2 else z 1) ≤
                                              255) then
                                        bif decide (1 < (↑n : Int)) then
                                          bif decide (1 < n) then
                                            bif decide (2 < (↑n : Int)) then
                                              bif decide (2 < n) then
                                                bif decide (3 < (↑n : Int)) then
                                                  bif decide (3 < n) then
                                                    k
                                                      (DV.tup
                                                        [DV.v
                                                            (Value.int IntKind.i64
                                                              (IntKind.wrap IntKind.i64
                                                                (IntKind.wrap IntKind.i64
                                                                    (IntKind.wrap IntKind.i64
                                                                        (16 +
                                                                          IntKind.wrap IntKind.i64
                                                                            (36 *
                                                                              IntKind.wrap IntKind.i64
                                                                                (Int.tdiv
                                                                                  (IntKind.wrap IntKind.i64 (z 1 * 5))
                                                                                  255))) +
                                                                      IntKind.wrap IntKind.i64
                                                                        (6 *
                                                                          IntKind.wrap IntKind.i64
                                                                            (Int.tdiv (IntKind.wrap IntKind.i64 (z 2 * 5))
                                                                              255))) +
                                                                  IntKind.wrap IntKind.i64
                                                                    (Int.tdiv (IntKind.wrap IntKind.i64 (z 3 * 5)) 255)))),
                                                          DV.v (Value.int IntKind.i64 4)])
                                                      []
                                                  else none
                                                else none
                                              else none
                                            else none
                                          else none
                                        else none
                                      else k (DV.tup [DV.v (Value.int IntKind.i64 0), DV.v (Value.int IntKind.i64 0)]) []
                                    else none
                                  else none
                                else none
                              else none
                            else none
                          else none
                        else k (DV.tup [DV.v (Value.int IntKind.i64 0), DV.v (Value.int IntKind.i64 0)]) []
                      else none
                    else none
                  else k (DV.tup [DV.v (Value.int IntKind.i64 0), DV.v (Value.int IntKind.i64 0)]) []
              else none
            else none
          else
            bif decide ((↑n : Int) ≥ 4) then
              bif decide (0 < (↑n : Int)) then
                bif decide (0 < n) then
                  bif z 0 == 2 then
                    bif decide (1 < (↑n : Int)) then
                      bif decide (1 < n) then
                        bif decide (2 < (↑n : Int)) then
                          bif decide (2 < n) then
                            bif decide (3 < (↑n : Int)) then
                              bif decide (3 < n) then
                                bif
                                    decide
                                      ((if z 3 > if z 2 > z 1 then z 2 else z 1 then z 3
                                        else if z 2 > z 1 then z 2 else z 1) ≤
                                        255) then
                                  bif decide (1 < (↑n : Int)) then
                                    bif decide (1 < n) then
                                      bif decide (2 < (↑n : Int)) then
                                        bif decide (2 < n) then
                                          bif decide (3 < (↑n : Int)) then
                                            bif decide (3 < n) then
                                              k
                                                (DV.tup
                                                  [DV.v
                                                      (Value.int IntKind.i64
                                                        (IntKind.wrap IntKind.i64
                                                          (IntKind.wrap IntKind.i64
                                                              (IntKind.wrap IntKind.i64
                                                                  (16 +
                                                                    IntKind.wrap IntKind.i64
                                                                      (36 *
                                                                        IntKind.wrap IntKind.i64
                                                                          (Int.tdiv (IntKind.wrap IntKind.i64 (z 1 * 5))
                                                                            255))) +
                                                                IntKind.wrap IntKind.i64
                                                                  (6 *
                                                                    IntKind.wrap IntKind.i64
                                                                      (Int.tdiv (IntKind.wrap IntKind.i64 (z 2 * 5))
                                                                        255))) +
                                                            IntKind.wrap IntKind.i64
                                                              (Int.tdiv (IntKind.wrap IntKind.i64 (z 3 * 5)) 255)))),
                                                    DV.v (Value.int IntKind.i64 4)])
                                                []
                                            else none
                                          else none
                                        else none
                                      else none
                                    else none
                                  else none
                                else k (DV.tup [DV.v (Value.int IntKind.i64 0), DV.v (Value.int IntKind.i64 0)]) []
                              else none
                            else none
                          else none
                        else none
                      else none
                    else none
                  else k (DV.tup [DV.v (Value.int IntKind.i64 0), DV.v (Value.int IntKind.i64 0)]) []
                else none
              else none
            else k (DV.tup [DV.v (Value.int IntKind.i64 0), DV.v (Value.int IntKind.i64 0)]) []
        else none
      else none
    else
      bif decide ((↑n : Int) ≥ 4) then
        bif decide (0 < (↑n : Int)) then
          bif decide (0 < n) then
            bif z 0 == 2 then
              bif decide (1 < (↑n : Int)) then
                bif decide (1 < n) then
                  bif decide (2 < (↑n : Int)) then
                    bif decide (2 < n) then
                      bif decide (3 < (↑n : Int)) then
                        bif decide (3 < n) then
                          bif
                              decide
                                ((if z 3 > if z 2 > z 1 then z 2 else z 1 then z 3 else if z 2 > z 1 then z 2 else z 1) ≤
                                  255) then
                            bif decide (1 < (↑n : Int)) then
                              bif decide (1 < n) then
                                bif decide (2 < (↑n : Int)) then
                                  bif decide (2 < n) then
                                    bif decide (3 < (↑n : Int)) then
                                      bif decide (3 < n) then
                                        k
                                          (DV.tup
                                            [DV.v
                                                (Value.int IntKind.i64
                                                  (IntKind.wrap IntKind.i64
                                                    (IntKind.wrap IntKind.i64
                                                        (IntKind.wrap IntKind.i64
                                                            (16 +
                                                              IntKind.wrap IntKind.i64
                                                                (36 *
                                                                  IntKind.wrap IntKind.i64
                                                                    (Int.tdiv (IntKind.wrap IntKind.i64 (z 1 * 5)) 255))) +
                                                          IntKind.wrap IntKind.i64
                                                            (6 *
                                                              IntKind.wrap IntKind.i64
                                                                (Int.tdiv (IntKind.wrap IntKind.i64 (z 2 * 5)) 255))) +
                                                      IntKind.wrap IntKind.i64
                                                        (Int.tdiv (IntKind.wrap IntKind.i64 (z 3 * 5)) 255)))),
                                              DV.v (Value.int IntKind.i64 4)])
                                          []
                                      else none
                                    else none
                                  else none
                                else none
                              else none
                            else none
                          else k (DV.tup [DV.v (Value.int IntKind.i64 0), DV.v (Value.int IntKind.i64 0)]) []
                        else none
                      else none
                    else none
                  else none
                else none
              else none
            else k (DV.tup [DV.v (Value.int IntKind.i64 0), DV.v (Value.int IntKind.i64 0)]) []
          else none
        else none
      else k (DV.tup [DV.v (Value.int IntKind.i64 0), DV.v (Value.int IntKind.i64 0)]) [] := by
  kernel_rfl
theorem color_ok {st : AE.Stat} (hst : CodesIn st) : ConOk Tryd.prog st 24 colorC := by
  refine con_of (mg := []) (l := []) (lp := noLp) (n := 20) (glOk hst) (fun _ h => nomatch h) Tryd.func24 (by kernel_rfl) (by kernel_rfl) (fun _ _ _ h => nomatch h) fun args k hk => ?_
  unfold colorC at hk
  split at hk <;> first | (cases hk; done) | skip
  rename_i d
  obtain ⟨t, z, n, hk, hc⟩ := intsK_some hk
  refine ⟨[.sl t (ints z) 1 n], _, .cons hc .nil, hk, fun s => ⟨lowR_flat (pairClo _ _).2, ?_⟩⟩
  refine (color_tree t z n _).trans ?_
  have leaf : ∀ {a b : Int}, (colF z n) = (a, b) → fin s (.tup [iv (colF z n).1, iv (colF z n).2], []) (.tup [iv a, iv b]) [] = some () := fun h => fin_of (finQ_flat (pairClo _ _).1 (by rw [h]))
  unfold colF at leaf
  repeat' (first | refine leaf ?_ | refine cS (fun h => ?_) (fun h => ?_))
  all_goals (simp only [max3, decide_eq_true_eq, decide_eq_false_iff_not, beq_iff_eq, beq_eq_false_iff_ne, ne_eq] at *)
  all_goals clear leaf
  all_goals first
    | (exfalso; omega)
    | ((repeat' split) <;> first | rfl | (exfalso; omega))

/-- simple -/
def simpleF (n b : Int) : Int × Bool :=
  if 0 ≤ IntKind.i64.wrap (n - b) ∧ IntKind.i64.wrap (n - b) ≤ 7 then (IntKind.i64.wrap (n - b), true)
  else if 60 ≤ IntKind.i64.wrap (n - b) ∧ IntKind.i64.wrap (n - b) ≤ 67 then (IntKind.i64.wrap (IntKind.i64.wrap (n - b) - 52), true)
  else if IntKind.i64.wrap (n - b) = 9 then (-1, true) else (0, false)
noncomputable def simpleC : ConF := fun args k => match args with
  | [.v (.int .i64 n), .v (.int .i64 b)] => k fun _ => (.tup [iv (simpleF n b).1, .v (.bool (simpleF n b).2)], [])
  | _ => none
theorem simple_tree (n b : Int) (k : DV → DHeap → Option Unit) : bodyD Tryd.prog (env [] noLp 20) Tryd.f26 [iv n, iv b] [] k =
    bif decide (IntKind.wrap IntKind.i64 (n - b) ≥ 0) then
      bif decide (IntKind.wrap IntKind.i64 (n - b) ≤ 7) then
        k (DV.tup [DV.v (Value.int IntKind.i64 (IntKind.wrap IntKind.i64 (n - b))), DV.v (Value.bool true)]) []
      else
        bif decide (IntKind.wrap IntKind.i64 (n - b) ≥ 60) then
          bif decide (IntKind.wrap IntKind.i64 (n - b) ≤ 67) then
            k
              (DV.tup
                [DV.v (Value.int IntKind.i64 (IntKind.wrap IntKind.i64 (IntKind.wrap IntKind.i64 (n - b) - 52))),
                  DV.v (Value.bool true)])
              []
          else
            bif IntKind.wrap IntKind.i64 (n - b) == 9 then
              k (DV.tup [DV.v (Value.int IntKind.i64 (-1)), DV.v (Value.bool true)]) []
            else k (DV.tup [DV.v (Value.int IntKind.i64 0), DV.v (Value.bool false)]) []
        else
          bif IntKind.wrap IntKind.i64 (n - b) == 9 then
            k (DV.tup [DV.v (Value.int IntKind.i64 (-1)), DV.v (Value.bool true)]) []
          else k (DV.tup [DV.v (Value.int IntKind.i64 0), DV.v (Value.bool false)]) []
    else
      bif decide (IntKind.wrap IntKind.i64 (n - b) ≥ 60) then
        bif decide (IntKind.wrap IntKind.i64 (n - b) ≤ 67) then
          k
            (DV.tup
              [DV.v (Value.int IntKind.i64 (IntKind.wrap IntKind.i64 (IntKind.wrap IntKind.i64 (n - b) - 52))),
                DV.v (Value.bool true)])
            []
        else
          bif IntKind.wrap IntKind.i64 (n - b) == 9 then
            k (DV.tup [DV.v (Value.int IntKind.i64 (-1)), DV.v (Value.bool true)]) []
          else k (DV.tup [DV.v (Value.int IntKind.i64 0), DV.v (Value.bool false)]) []
      else
        bif IntKind.wrap IntKind.i64 (n - b) == 9 then
          k (DV.tup [DV.v (Value.int IntKind.i64 (-1)), DV.v (Value.bool true)]) []
        else k (DV.tup [DV.v (Value.int IntKind.i64 0), DV.v (Value.bool false)]) [] := by
  kernel_rfl
theorem simple_ok {st : AE.Stat} (hst : CodesIn st) : ConOk Tryd.prog st 26 simpleC := by
  refine con_of (mg := []) (l := []) (lp := noLp) (n := 20) (glOk hst) (fun _ h => nomatch h) Tryd.func26 (by kernel_rfl) (by kernel_rfl) (fun _ _ _ h => nomatch h) fun args k hk => ?_
  unfold simpleC at hk
  split at hk <;> first | (cases hk; done) | skip
  rename_i n b
  refine ⟨[iv n, iv b], _, .self (.self .nil), hk, fun s => ⟨lowR_flat (flR_clo rfl).2, ?_⟩⟩
  refine (simple_tree n b _).trans ?_
  have leaf : ∀ {a : Int} {c : Bool}, (simpleF n b) = (a, c) → fin s (.tup [iv (simpleF n b).1, .v (.bool (simpleF n b).2)], []) (.tup [iv a, .v (.bool c)]) [] = some () := fun h => fin_of (finQ_flat (flR_clo rfl).1 (by rw [h]))
  unfold simpleF at leaf
  repeat' (first | refine leaf ?_ | refine cS (fun h => ?_) (fun h => ?_))
  all_goals (simp only [decide_eq_true_eq, decide_eq_false_iff_not, beq_iff_eq, beq_eq_false_iff_ne, ne_eq] at *)
  all_goals clear leaf
  all_goals ((repeat' split) <;> first | rfl | (exfalso; omega))
end Go.Proofs.YtolmaphpfhplpaaDoor
