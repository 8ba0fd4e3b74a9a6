/-
  The contracts of the reference's color and Apply.
  Condition: the package-level table 'codes' holds its eight numbers (CodesIn).
-/
import Derived.Test.YtolmaphpfhplpaaDoorApp
namespace Go.Proofs.YtolmaphpfhplpaaDoor
open Go Go.AE Go.DE Go.RowKit

def rcolF (z : Nat → Int) (n : Nat) (i : Int) : Int × Int :=
  if atF z n i = 5 ∧ 0 ≤ atF z n (i + 1) ∧ atF z n (i + 1) ≤ 255 then (atF z n (i + 1), 2)
  else if atF z n i ≠ 2 ∨ atF z n (i + 1) < 0 ∨ atF z n (i + 1) > 255 ∨ atF z n (i + 2) < 0 ∨ atF z n (i + 2) > 255 ∨ atF z n (i + 3) < 0 ∨ atF z n (i + 3) > 255 then (0, 0)
  else (mix (atF z n (i + 1)) (atF z n (i + 2)) (atF z n (i + 3)), 4)
noncomputable def rcolC : ConF := fun args k => match args with
  | [d, .v (.int .i64 i)] => intsK d fun z n => bif holds (0 ≤ i ∧ i ≤ 2000000) then k (fun _ => (.tup [iv (rcolF z n i).1, iv (rcolF z n i).2], [])) else none
  | _ => none
theorem rcol_tree (t : Bool) (z : Nat → Int) (n : Nat) (i : Int) (k : DV → Option Unit) : bodyD Tryd.prog (env [(27, atC)] noLp 0) Tryd.f29 [.sl t (ints z) 1 n, iv i] [] (fun d _ => k d) =
    bif holds (intsOk (fun i f => DV.v (Value.int IntKind.i64 (z i))) n) then
      bif holds (0 ≤ IntKind.wrap IntKind.i64 (i + 1)) then
        bif holds (intsOk (fun i f => DV.v (Value.int IntKind.i64 (z i))) n) then
          bif holds (0 ≤ i) then
            bif atF z n i == 5 then
              bif decide (atF z n (IntKind.wrap IntKind.i64 (i + 1)) ≥ 0) then
                bif decide (atF z n (IntKind.wrap IntKind.i64 (i + 1)) ≤ 255) then
                  k
                    (DV.tup
                      [DV.v (Value.int IntKind.i64 (atF z n (IntKind.wrap IntKind.i64 (i + 1)))),
                        DV.v (Value.int IntKind.i64 2)])
                else
                  bif holds (intsOk (fun i f => DV.v (Value.int IntKind.i64 (z i))) n) then
                    bif holds (0 ≤ IntKind.wrap IntKind.i64 (i + 2)) then
                      bif holds (intsOk (fun i f => DV.v (Value.int IntKind.i64 (z i))) n) then
                        bif holds (0 ≤ IntKind.wrap IntKind.i64 (i + 3)) then
                          bif holds (intsOk (fun i f => DV.v (Value.int IntKind.i64 (z i))) n) then
                            bif holds (0 ≤ i) then
                              bif atF z n i != 2 then
                                k (DV.tup [DV.v (Value.int IntKind.i64 0), DV.v (Value.int IntKind.i64 0)])
                              else
                                bif decide (atF z n (IntKind.wrap IntKind.i64 (i + 1)) < 0) then
                                  k (DV.tup [DV.v (Value.int IntKind.i64 0), DV.v (Value.int IntKind.i64 0)])
                                else
                                  bif decide (atF z n (IntKind.wrap IntKind.i64 (i + 1)) > 255) then
                                    k (DV.tup [DV.v (Value.int IntKind.i64 0), DV.v (Value.int IntKind.i64 0)])
                                  else
                                    bif decide (atF z n (IntKind.wrap IntKind.i64 (i + 2)) < 0) then
                                      k (DV.tup [DV.v (Value.int IntKind.i64 0), DV.v (Value.int IntKind.i64 0)])
                                    else
                                      bif decide (atF z n (IntKind.wrap IntKind.i64 (i + 2)) > 255) then
                                        k (DV.tup [DV.v (Value.int IntKind.i64 0), DV.v (Value.int IntKind.i64 0)])
                                      else
                                        bif decide (atF z n (IntKind.wrap IntKind.i64 (i + 3)) < 0) then
                                          k (DV.tup [DV.v (Value.int IntKind.i64 0), DV.v (Value.int IntKind.i64 0)])
                                        else
                                          bif decide (atF z n (IntKind.wrap IntKind.i64 (i + 3)) > 255) then
                                            k (DV.tup [DV.v (Value.int IntKind.i64 0), DV.v (Value.int IntKind.i64 0)])
                                          else
                                            k
                                              (DV.tup
                                                [DV.v
                                                    (Value.int IntKind.i64
                                                      (IntKind.wrap IntKind.i64
                                                        (IntKind.wrap IntKind.i64
                                                            (IntKind.wrap IntKind.i64
                                                                (16 +
                                                                  IntKind.wrap IntKind.i64
                                                                    (36 *
                                                                      IntKind.wrap IntKind.i64
                                                                        (Int.tdiv
                                                                          (IntKind.wrap IntKind.i64
                                                                            (atF z n (IntKind.wrap IntKind.i64 (i + 1)) *
                                                                              5))
                                                                          255))) +
                                                              IntKind.wrap IntKind.i64
                                                                (6 *
                                                                  IntKind.wrap IntKind.i64
                                                                    (Int.tdiv
                                                                      (IntKind.wrap IntKind.i64
                                                                        (atF z n (IntKind.wrap IntKind.i64 (i + 2)) * 5))
                                                                      255))) +
                                                          IntKind.wrap IntKind.i64
                                                            (Int.tdiv
                                                              (IntKind.wrap IntKind.i64
                                                                (atF z n (IntKind.wrap IntKind.i64 (i + 3)) * 5))
                                                              255)))),
                                                  DV.v (Value.int IntKind.i64 4)])
                            else none
                          else none
                        else none
                      else none
                    else none
                  else none
              else
                bif holds (intsOk (fun i f => DV.v (Value.int IntKind.i64 (z i))) n) then
                  bif holds (0 ≤ IntKind.wrap IntKind.i64 (i + 2)) then
                    bif holds (intsOk (fun i f => DV.v (Value.int IntKind.i64 (z i))) n) then
                      bif holds (0 ≤ IntKind.wrap IntKind.i64 (i + 3)) then
                        bif holds (intsOk (fun i f => DV.v (Value.int IntKind.i64 (z i))) n) then
                          bif holds (0 ≤ i) then
                            bif atF z n i != 2 then
                              k (DV.tup [DV.v (Value.int IntKind.i64 0), DV.v (Value.int IntKind.i64 0)])
                            else
                              bif decide (atF z n (IntKind.wrap IntKind.i64 (i + 1)) < 0) then
                                k (DV.tup [DV.v (Value.int IntKind.i64 0), DV.v (Value.int IntKind.i64 0)])
                              else
                                bif decide (atF z n (IntKind.wrap IntKind.i64 (i + 1)) > 255) then
                                  k (DV.tup [DV.v (Value.int IntKind.i64 0), DV.v (Value.int IntKind.i64 0)])
                                else
                                  bif decide (atF z n (IntKind.wrap IntKind.i64 (i + 2)) < 0) then
                                    k (DV.tup [DV.v (Value.int IntKind.i64 0), DV.v (Value.int IntKind.i64 0)])
                                  else
                                    bif decide (atF z n (IntKind.wrap IntKind.i64 (i + 2)) > 255) then
                                      k (DV.tup [DV.v (Value.int IntKind.i64 0), DV.v (Value.int IntKind.i64 0)])
                                    else
                                      bif decide (atF z n (IntKind.wrap IntKind.i64 (i + 3)) < 0) then
                                        k (DV.tup [DV.v (Value.int IntKind.i64 0), DV.v (Value.int IntKind.i64 0)])
                                      else
                                        bif decide (atF z n (IntKind.wrap IntKind.i64 (i + 3)) > 255) then
                                          k (DV.tup [DV.v (Value.int IntKind.i64 0), DV.v (Value.int IntKind.i64 0)])
                                        else
                                          k
                                            (DV.tup
                                              [DV.v
                                                  (Value.int IntKind.i64
                                                    (IntKind.wrap IntKind.i64
                                                      (IntKind.wrap IntKind.i64
                                                          (IntKind.wrap IntKind.i64
                                                              (16 +
                                                                IntKind.wrap IntKind.i64
                                                                  (36 *
                                                                    IntKind.wrap IntKind.i64
                                                                      (Int.tdiv
                                                                        (IntKind.wrap IntKind.i64
                                                                          (atF z n (IntKind.wrap IntKind.i64 (i + 1)) * 5))
                                                                        255))) +
                                                            IntKind.wrap IntKind.i64
                                                              (6 *
                                                                IntKind.wrap IntKind.i64
                                                                  (Int.tdiv
                                                                    (IntKind.wrap IntKind.i64
                                                                      (atF z n (IntKind.wrap IntKind.i64 (i + 2)) * 5))
                                                                    255))) +
                                                        IntKind.wrap IntKind.i64
                                                          (Int.tdiv
                                                            (IntKind.wrap IntKind.i64
                                                              (atF z n (IntKind.wrap IntKind.i64 (i + 3)) * 5))
                                                            255)))),
                                                DV.v (Value.int IntKind.i64 4)])
                          else none
                        else none
                      else none
                    else none
                  else none
                else none
            else
              bif holds (intsOk (fun i f => DV.v (Value.int IntKind.i64 (z i))) n) then
                bif holds (0 ≤ IntKind.wrap IntKind.i64 (i + 2)) then
                  bif holds (intsOk (fun i f => DV.v (Value.int IntKind.i64 (z i))) n) then
                    bif holds (0 ≤ IntKind.wrap IntKind.i64 (i + 3)) then
                      bif holds (intsOk (fun i f => DV.v (Value.int IntKind.i64 (z i))) n) then
                        bif holds (0 ≤ i) then
                          bif atF z n i != 2 then
                            k (DV.tup [DV.v (Value.int IntKind.i64 0), DV.v (Value.int IntKind.i64 0)])
                          else
                            bif decide (atF z n (IntKind.wrap IntKind.i64 (i + 1)) < 0) then
                              k (DV.tup [DV.v (Value.int IntKind.i64 0), DV.v (Value.int IntKind.i64 0)])
                            else
                              bif decide (atF z n (IntKind.wrap IntKind.i64 (i + 1)) > 255) then
                                k (DV.tup [DV.v (Value.int IntKind.i64 0), DV.v (Value.int IntKind.i64 0)])
                              else
                                bif decide (atF z n (IntKind.wrap IntKind.i64 (i + 2)) < 0) then
                                  k (DV.tup [DV.v (Value.int IntKind.i64 0), DV.v (Value.int IntKind.i64 0)])
                                else
                                  bif decide (atF z n (IntKind.wrap IntKind.i64 (i + 2)) > 255) then
                                    k (DV.tup [DV.v (Value.int IntKind.i64 0), DV.v (Value.int IntKind.i64 0)])
                                  else
                                    bif decide (atF z n (IntKind.wrap IntKind.i64 (i + 3)) < 0) then
                                      k (DV.tup [DV.v (Value.int IntKind.i64 0), DV.v (Value.int IntKind.i64 0)])
                                    else
                                      bif decide (atF z n (IntKind.wrap IntKind.i64 (i + 3)) > 255) then
                                        k (DV.tup [DV.v (Value.int IntKind.i64 0), DV.v (Value.int IntKind.i64 0)])
                                      else
                                        k
                                          (DV.tup
                                            [DV.v
                                                (Value.int IntKind.i64
                                                  (IntKind.wrap IntKind.i64
                                                    (IntKind.wrap IntKind.i64
                                                        (IntKind.wrap IntKind.i64
                                                            (16 +
                                                              IntKind.wrap IntKind.i64
                                                                (36 *
                                                                  IntKind.wrap IntKind.i64
                                                                    (Int.tdiv
                                                                      (IntKind.wrap IntKind.i64
                                                                        (atF z n (IntKind.wrap IntKind.i64 (i + 1)) * 5))
                                                                      255))) +
                                                          IntKind.wrap IntKind.i64
                                                            (6 *
                                                              IntKind.wrap IntKind.i64
                                                                (Int.tdiv
                                                                  (IntKind.wrap IntKind.i64
                                                                    (atF z n (IntKind.wrap IntKind.i64 (i + 2)) * 5))
                                                                  255))) +
                                                      IntKind.wrap IntKind.i64
                                                        (Int.tdiv
                                                          (IntKind.wrap IntKind.i64
                                                            (atF z n (IntKind.wrap IntKind.i64 (i + 3)) * 5))
                                                          255)))),
                                              DV.v (Value.int IntKind.i64 4)])
                        else none
                      else none
                    else none
                  else none
                else none
              else none
          else none
        else none
      else none
    else none := by
  kernel_rfl
theorem rcol_ok {st : AE.Stat} (hst : CodesIn st) : ConOk Tryd.prog st 29 rcolC := by
  refine con_flat (mg := []) (l := [(27, atC)]) (lp := noLp) (n := 0) (glOk hst) (fun x hx => ?_) Tryd.func29 (by kernel_rfl) (by kernel_rfl) (fun _ _ _ h => nomatch h) fun args k hk => ?_
  · obtain rfl : x = (27, atC) := by simpa using hx
    exact at_ok hst
  · unfold rcolC at hk
    split at hk <;> first | (cases hk; done) | skip
    rename_i d i
    obtain ⟨t, z, n, hk, hc⟩ := intsK_some hk
    obtain ⟨h0, hk⟩ := bif_none hk
    have h0 : 0 ≤ i ∧ i ≤ 2000000 := holds_eq.1 h0
    refine ⟨[.sl t (ints z) 1 n, iv i], _, .cons hc (.self .nil), flR_clo rfl, hk, (rcol_tree t z n i _).trans ?_⟩
    have w1 : IntKind.i64.wrap (i + 1) = i + 1 := W_in (by omega) (by omega)
    have w2 : IntKind.i64.wrap (i + 2) = i + 2 := W_in (by omega) (by omega)
    have w3 : IntKind.i64.wrap (i + 3) = i + 3 := W_in (by omega) (by omega)
    simp only [w1, w2, w3]
    have hR : rcolF z n i = rcolF z n i := rfl
    conv at hR => rhs; unfold rcolF
    generalize rcolF z n i = R at hR ⊢
    generalize atF z n i = p at hR ⊢
    generalize atF z n (i + 1) = p1 at hR ⊢
    generalize atF z n (i + 2) = p2 at hR ⊢
    generalize atF z n (i + 3) = p3 at hR ⊢
    have leaf : ∀ {a b : Int}, R = (a, b) → isD (.tup [iv R.1, iv R.2]) (.tup [iv a, iv b]) = some () := fun h => isD_of (by rw [h])
    repeat' (first | refine leaf ?_ | refine hT (intsOk_ints _ _) ?_ | refine hT (by omega) ?_ | refine cS (fun h => ?_) (fun h => ?_))
    all_goals clear leaf
    all_goals (simp only [decide_eq_true_eq, decide_eq_false_iff_not, beq_iff_eq, beq_eq_false_iff_ne, bne_iff_ne, bne_eq_false_iff_eq, ne_eq] at *)
    all_goals (rw [hR]; (repeat' split) <;> first | rfl | (exfalso; omega))

/-- The reference's Apply. -/
def runR (z : Nat → Int) (n : Nat) : Nat → Nat → At → Bool × At
  | 0, _, a => (false, a)
  | m + 1, i, a =>
    if i < n then
      if atF z n i ≠ 38 ∧ atF z n i ≠ 48 then runR z n m (i + 1) (oneF a (atF z n i))
      else if (rcolF z n ((i + 1 : Nat) : Int)).2 = 0 then (true, a)
      else runR z n m (i + 1 + (rcolF z n ((i + 1 : Nat) : Int)).2.toNat) (if atF z n i = 38 then { a with x := (rcolF z n ((i + 1 : Nat) : Int)).1 } else { a with y := (rcolF z n ((i + 1 : Nat) : Int)).1 })
    else (false, a)
def LX.q (x : LX) : Bool × At := runR x.z x.n (x.n - x.i) x.i x.a
def rapI : LInv LX where
  pre x := x.i ≤ x.n ∧ x.n ≤ 1000000
  m := 2
  n := 51
  ps := [1, 2, 4, 5]
  sd x := [.sl x.t (ints x.z) 1 x.n, .po 0 0 0, .po 1 0 0, iv x.i]
  sh x := [some x.a.b, some row0]
  meas x := x.n - x.i
  e x := bif x.q.1 then .ret else .exit 0
  qs := [2, 4]
  od _ := [.po 0 0 0, .po 1 0 0]
  oh x := bif x.q.1 then [some row0, some x.q.2.b] else [some x.q.2.b, some row0]
  guess ds σ := match ds, σ with
    | [.sl t g 1 n, _, _, _], some ⟨_, .lst [[.v (.int _ x), .v (.int _ y), .v (.int _ f)]]⟩ :: _ => some ⟨⟨x, y, f⟩, fun i => num (g i 0), t, n, 0⟩
    | _, _ => none
  cps x k := bif x.q.1 then k .ret [.po 0 0 0, .po 1 0 0] [some row0, some x.q.2.b] else k (.exit 0) [.po 0 0 0, .po 1 0 0] [some x.q.2.b, some row0]
noncomputable abbrev rapL : List (FuncId × ConF) := [(27, atC), (28, oneC), (29, rcolC), (22, dflC)]
theorem rap_tree (t : Bool) (a : At) (z : Nat → Int) (n i : Nat) (K : Ex → Nat → List DV → List DV → DHeap → Option Unit) : execD Tryd.prog (env rapL noLp 0) (loopAt Tryd.f14 58) 500 (temps 51 [1, 2, 4, 5] [.sl t (ints z) 1 n, .po 0 0 0, .po 1 0 0, iv i]) [some a.b, some row0] (fun e τ σ => K e τ.length (pick [1, 2, 4, 5] τ) (pick [2, 4] τ) σ) =
    bif decide ((↑i : Int) < (↑n : Int)) then
      bif holds (intsOk (fun i f => DV.v (Value.int IntKind.i64 (z i))) n) then
        bif holds (0 ≤ (↑i : Int)) then
          bif atF z n (↑i : Int) != 38 then
            bif atF z n (↑i : Int) != 48 then
              K Ex.normal 51
                [DV.sl t (fun a a_1 => DV.v (Value.int IntKind.i64 (z a))) 1 n, DV.po 0 0 0, DV.po 1 0 0,
                  DV.v (Value.int IntKind.i64 (IntKind.wrap IntKind.i64 ((↑i : Int) + 1)))]
                [DV.po 0 0 0, DV.po 1 0 0]
                [some
                    { k := 3,
                      c :=
                        DC.upd
                          (DC.upd
                            (DC.upd
                              (DC.lst
                                [[DV.v (Value.int IntKind.i64 (At.x a)), DV.v (Value.int IntKind.i64 (At.y a)),
                                    DV.v (Value.int IntKind.i64 (At.f a))]])
                              0 0 (DV.v (Value.int IntKind.i64 (At.x (oneF a (atF z n (↑i : Int)))))))
                            0 1 (DV.v (Value.int IntKind.i64 (At.y (oneF a (atF z n (↑i : Int)))))))
                          0 2 (DV.v (Value.int IntKind.i64 (At.f (oneF a (atF z n (↑i : Int)))))) },
                  some { k := 3, c := DC.lst [[DV.any, DV.any, DV.any]] }]
            else
              bif holds (intsOk (fun i f => DV.v (Value.int IntKind.i64 (z i))) n) then
                bif
                    holds
                      (0 ≤ IntKind.wrap IntKind.i64 ((↑i : Int) + 1) ∧
                        IntKind.wrap IntKind.i64 ((↑i : Int) + 1) ≤ 2000000) then
                  bif Prod.snd (rcolF z n (IntKind.wrap IntKind.i64 ((↑i : Int) + 1))) == 0 then
                    K Ex.ret 51
                      [DV.sl t (fun a a_1 => DV.v (Value.int IntKind.i64 (z a))) 1 n, DV.po 0 0 0, DV.po 1 0 0,
                        DV.v (Value.int IntKind.i64 (↑i : Int))]
                      [DV.po 0 0 0, DV.po 1 0 0]
                      [some
                          { k := 3,
                            c :=
                              DC.lst
                                [[DV.v (Value.int IntKind.i64 (At.x a)), DV.v (Value.int IntKind.i64 (At.y a)),
                                    DV.v (Value.int IntKind.i64 (At.f a))]] },
                        some
                          { k := 3,
                            c :=
                              DC.upd
                                (DC.upd
                                  (DC.upd (DC.lst [[DV.any, DV.any, DV.any]]) 0 0 (DV.v (Value.int IntKind.i64 (At.x a)))) 0
                                  1 (DV.v (Value.int IntKind.i64 (At.y a))))
                                0 2 (DV.v (Value.int IntKind.i64 (At.f a))) }]
                  else
                    bif atF z n (↑i : Int) == 38 then
                      K Ex.normal 51
                        [DV.sl t (fun a a_1 => DV.v (Value.int IntKind.i64 (z a))) 1 n, DV.po 0 0 0, DV.po 1 0 0,
                          DV.v
                            (Value.int IntKind.i64
                              (IntKind.wrap IntKind.i64
                                (IntKind.wrap IntKind.i64
                                    ((↑i : Int) + Prod.snd (rcolF z n (IntKind.wrap IntKind.i64 ((↑i : Int) + 1)))) +
                                  1)))]
                        [DV.po 0 0 0, DV.po 1 0 0]
                        [some
                            { k := 3,
                              c :=
                                DC.upd
                                  (DC.lst
                                    [[DV.v (Value.int IntKind.i64 (At.x a)), DV.v (Value.int IntKind.i64 (At.y a)),
                                        DV.v (Value.int IntKind.i64 (At.f a))]])
                                  0 0
                                  (DV.v
                                    (Value.int IntKind.i64
                                      (Prod.fst (rcolF z n (IntKind.wrap IntKind.i64 ((↑i : Int) + 1)))))) },
                          some { k := 3, c := DC.lst [[DV.any, DV.any, DV.any]] }]
                    else
                      K Ex.normal 51
                        [DV.sl t (fun a a_1 => DV.v (Value.int IntKind.i64 (z a))) 1 n, DV.po 0 0 0, DV.po 1 0 0,
                          DV.v
                            (Value.int IntKind.i64
                              (IntKind.wrap IntKind.i64
                                (IntKind.wrap IntKind.i64
                                    ((↑i : Int) + Prod.snd (rcolF z n (IntKind.wrap IntKind.i64 ((↑i : Int) + 1)))) +
                                  1)))]
                        [DV.po 0 0 0, DV.po 1 0 0]
                        [some
                            { k := 3,
                              c :=
                                DC.upd
                                  (DC.lst
                                    [[DV.v (Value.int IntKind.i64 (At.x a)), DV.v (Value.int IntKind.i64 (At.y a)),
                                        DV.v (Value.int IntKind.i64 (At.f a))]])
                                  0 1
                                  (DV.v
                                    (Value.int IntKind.i64
                                      (Prod.fst (rcolF z n (IntKind.wrap IntKind.i64 ((↑i : Int) + 1)))))) },
                          some { k := 3, c := DC.lst [[DV.any, DV.any, DV.any]] }]
                else none
              else none
          else
            bif holds (intsOk (fun i f => DV.v (Value.int IntKind.i64 (z i))) n) then
              bif
                  holds
                    (0 ≤ IntKind.wrap IntKind.i64 ((↑i : Int) + 1) ∧
                      IntKind.wrap IntKind.i64 ((↑i : Int) + 1) ≤ 2000000) then
                bif Prod.snd (rcolF z n (IntKind.wrap IntKind.i64 ((↑i : Int) + 1))) == 0 then
                  K Ex.ret 51
                    [DV.sl t (fun a a_1 => DV.v (Value.int IntKind.i64 (z a))) 1 n, DV.po 0 0 0, DV.po 1 0 0,
                      DV.v (Value.int IntKind.i64 (↑i : Int))]
                    [DV.po 0 0 0, DV.po 1 0 0]
                    [some
                        { k := 3,
                          c :=
                            DC.lst
                              [[DV.v (Value.int IntKind.i64 (At.x a)), DV.v (Value.int IntKind.i64 (At.y a)),
                                  DV.v (Value.int IntKind.i64 (At.f a))]] },
                      some
                        { k := 3,
                          c :=
                            DC.upd
                              (DC.upd
                                (DC.upd (DC.lst [[DV.any, DV.any, DV.any]]) 0 0 (DV.v (Value.int IntKind.i64 (At.x a)))) 0 1
                                (DV.v (Value.int IntKind.i64 (At.y a))))
                              0 2 (DV.v (Value.int IntKind.i64 (At.f a))) }]
                else
                  bif atF z n (↑i : Int) == 38 then
                    K Ex.normal 51
                      [DV.sl t (fun a a_1 => DV.v (Value.int IntKind.i64 (z a))) 1 n, DV.po 0 0 0, DV.po 1 0 0,
                        DV.v
                          (Value.int IntKind.i64
                            (IntKind.wrap IntKind.i64
                              (IntKind.wrap IntKind.i64
                                  ((↑i : Int) + Prod.snd (rcolF z n (IntKind.wrap IntKind.i64 ((↑i : Int) + 1)))) +
                                1)))]
                      [DV.po 0 0 0, DV.po 1 0 0]
                      [some
                          { k := 3,
                            c :=
                              DC.upd
                                (DC.lst
                                  [[DV.v (Value.int IntKind.i64 (At.x a)), DV.v (Value.int IntKind.i64 (At.y a)),
                                      DV.v (Value.int IntKind.i64 (At.f a))]])
                                0 0
                                (DV.v
                                  (Value.int IntKind.i64
                                    (Prod.fst (rcolF z n (IntKind.wrap IntKind.i64 ((↑i : Int) + 1)))))) },
                        some { k := 3, c := DC.lst [[DV.any, DV.any, DV.any]] }]
                  else
                    K Ex.normal 51
                      [DV.sl t (fun a a_1 => DV.v (Value.int IntKind.i64 (z a))) 1 n, DV.po 0 0 0, DV.po 1 0 0,
                        DV.v
                          (Value.int IntKind.i64
                            (IntKind.wrap IntKind.i64
                              (IntKind.wrap IntKind.i64
                                  ((↑i : Int) + Prod.snd (rcolF z n (IntKind.wrap IntKind.i64 ((↑i : Int) + 1)))) +
                                1)))]
                      [DV.po 0 0 0, DV.po 1 0 0]
                      [some
                          { k := 3,
                            c :=
                              DC.upd
                                (DC.lst
                                  [[DV.v (Value.int IntKind.i64 (At.x a)), DV.v (Value.int IntKind.i64 (At.y a)),
                                      DV.v (Value.int IntKind.i64 (At.f a))]])
                                0 1
                                (DV.v
                                  (Value.int IntKind.i64
                                    (Prod.fst (rcolF z n (IntKind.wrap IntKind.i64 ((↑i : Int) + 1)))))) },
                        some { k := 3, c := DC.lst [[DV.any, DV.any, DV.any]] }]
              else none
            else none
        else none
      else none
    else
      K (Ex.exit 0) 51
        [DV.sl t (fun a a_1 => DV.v (Value.int IntKind.i64 (z a))) 1 n, DV.po 0 0 0, DV.po 1 0 0,
          DV.v (Value.int IntKind.i64 (↑i : Int))]
        [DV.po 0 0 0, DV.po 1 0 0]
        [some
            { k := 3,
              c :=
                DC.lst
                  [[DV.v (Value.int IntKind.i64 (At.x a)), DV.v (Value.int IntKind.i64 (At.y a)),
                      DV.v (Value.int IntKind.i64 (At.f a))]] },
          some { k := 3, c := DC.lst [[DV.any, DV.any, DV.any]] }] := by
  kernel_rfl
theorem rap_fun (x y f : Int) (t : Bool) (z : Nat → Int) (n : Nat) (k : DV → Option Unit) : bodyD Tryd.prog (env [(22, dflC)] (lpOf [(58, rapI.g)]) 0) Tryd.f14 [.agg [iv x, iv y, iv f], .sl t (ints z) 1 n] [] (fun d _ => k d) =
    bif (↑n : Int) == 0 then
      k (DV.agg [DV.v (Value.int IntKind.i64 (-1)), DV.v (Value.int IntKind.i64 (-1)), DV.v (Value.int IntKind.i64 0)])
    else
      bif
          holds
            (LInv.pre rapI { a := { x := x, y := y, f := f }, z := z, t := t, n := n, i := 0 } ∧
              ∃ ids,
                WkP 2 ids
                  [DV.sl t (fun a a_1 => DV.v (Value.int IntKind.i64 (z a))) 1 n, DV.po 0 0 0, DV.po 1 0 0,
                    DV.v (Value.int IntKind.i64 0)]
                  [some
                      { k := 3,
                        c :=
                          DC.lst
                            [[DV.v (Value.int IntKind.i64 x), DV.v (Value.int IntKind.i64 y),
                                DV.v (Value.int IntKind.i64 f)]] },
                    some
                      { k := 3,
                        c :=
                          DC.lst
                            [[DV.v (Value.int IntKind.i64 0), DV.v (Value.int IntKind.i64 0),
                                DV.v (Value.int IntKind.i64 0)]] }]
                  [DV.sl t (fun a a_1 => DV.v (Value.int IntKind.i64 (z a))) 1 n, DV.po 0 0 0, DV.po 1 0 0,
                    DV.v (Value.int IntKind.i64 0)]
                  [some
                      { k := 3,
                        c :=
                          DC.lst
                            [[DV.v (Value.int IntKind.i64 x), DV.v (Value.int IntKind.i64 y),
                                DV.v (Value.int IntKind.i64 f)]] },
                    some { k := 3, c := DC.lst [[DV.any, DV.any, DV.any]] }]) then
        bif (LX.q { a := { x := x, y := y, f := f }, z := z, t := t, n := n, i := 0 }).1 then
          k
            (DV.agg
              [DV.v
                  (Value.int IntKind.i64
                    (At.x (Prod.snd (LX.q { a := { x := x, y := y, f := f }, z := z, t := t, n := n, i := 0 })))),
                DV.v
                  (Value.int IntKind.i64
                    (At.y (Prod.snd (LX.q { a := { x := x, y := y, f := f }, z := z, t := t, n := n, i := 0 })))),
                DV.v
                  (Value.int IntKind.i64
                    (At.f (Prod.snd (LX.q { a := { x := x, y := y, f := f }, z := z, t := t, n := n, i := 0 }))))])
        else
          k
            (DV.agg
              [DV.v
                  (Value.int IntKind.i64
                    (At.x (Prod.snd (LX.q { a := { x := x, y := y, f := f }, z := z, t := t, n := n, i := 0 })))),
                DV.v
                  (Value.int IntKind.i64
                    (At.y (Prod.snd (LX.q { a := { x := x, y := y, f := f }, z := z, t := t, n := n, i := 0 })))),
                DV.v
                  (Value.int IntKind.i64
                    (At.f (Prod.snd (LX.q { a := { x := x, y := y, f := f }, z := z, t := t, n := n, i := 0 }))))])
      else none := by
  kernel_rfl
theorem rcolF_snd (z : Nat → Int) (n : Nat) (i : Int) : (rcolF z n i).2 = 0 ∨ ((rcolF z n i).2 = 2 ∧ i + 1 < n) ∨ ((rcolF z n i).2 = 4 ∧ i + 3 < n) := by
  have at1 : ∀ j, 0 ≤ atF z n j → j < n := fun j h => by
    unfold atF at h
    split at h
    · omega
    · omega
  unfold rcolF
  split
  · rename_i h
    exact .inr (.inl ⟨rfl, at1 _ h.2.1⟩)
  · split
    · exact .inl rfl
    · rename_i h
      exact .inr (.inr ⟨rfl, at1 _ (by omega)⟩)
theorem runR_fuel {z : Nat → Int} {n : Nat} : ∀ (m m' i : Nat) (a : At), n - i ≤ m → n - i ≤ m' → runR z n m i a = runR z n m' i a := by
  intro m
  induction m with
  | zero =>
    intro m' i a h1 h2
    cases m' with
    | zero => rfl
    | succ m' =>
      have : ¬ i < n := by omega
      simp only [runR, if_neg this]
  | succ m ih =>
    intro m' i a h1 h2
    cases m' with
    | zero =>
      have : ¬ i < n := by omega
      simp only [runR, if_neg this]
    | succ m' =>
      unfold runR
      split
      · rw [ih m' (i + 1) (oneF a (atF z n i)) (by omega) (by omega), ih m' (i + 1 + _) _ (by omega) (by omega)]
      · rfl
theorem rap_ok {st : AE.Stat} (hst : CodesIn st) : LoopS Tryd.prog st gl0 (.loop (loopAt Tryd.f14 58)) rapI.g := by
  have hl : ∀ x ∈ rapL, ConOk Tryd.prog st x.1 x.2 := by
    intro x hx
    simp only [rapL, List.mem_cons, List.not_mem_nil, or_false] at hx
    rcases hx with rfl | rfl | rfl | rfl
    · exact at_ok hst
    · exact one_ok hst
    · exact rcol_ok hst
    · exact dfl22 hst
  refine rapI.ok (E := env rapL noLp 0) (p := 500) (tblD_env hl) (glOk hst).1 (fun _ _ _ h => nomatch h) (fun x k h => ?_) fun x hx => ?_
  · simp only [rapI] at h ⊢
    generalize x.q.1 = b at h ⊢
    cases b <;> exact h
  · obtain ⟨a, z, t, n, i⟩ := x
    obtain ⟨hi1, hi2⟩ : i ≤ n ∧ n ≤ 1000000 := hx
    refine (rap_tree t a z n i _).trans ?_
    have hW : IntKind.i64.wrap ((i : Int) + 1) = ((i + 1 : Nat) : Int) := by rw [W_in (by omega) (by omega)]; omega
    simp only [hW]
    refine dS (fun h => ?_) fun h => ?_
    · have h : i < n := by omega
      obtain ⟨m, hm⟩ : ∃ m, n - i = m + 1 := ⟨n - i - 1, by omega⟩
      have goOn : ∀ (c0 c1 : DC) (a' : At) (i' : Nat) (j : Int), j = (i' : Int) → i < i' → i' ≤ n → 1 ≤ c0.n → 1 ≤ c1.n → c0.get 0 0 = iv a'.x → c0.get 0 1 = iv a'.y → c0.get 0 2 = iv a'.f → runR z n (n - i') i' a' = runR z n (n - i) i a →
          rapI.ask ⟨a, z, t, n, i⟩ .normal 51 [.sl t (fun a _ => iv (z a)) 1 n, .po 0 0 0, .po 1 0 0, iv j] [.po 0 0 0, .po 1 0 0] [some ⟨3, c0⟩, some ⟨3, c1⟩] = some () := by
        intro c0 c1 a' i' j hj hlt hle n0 n1 e0 e1 e2 hr
        refine LInv.ask_of ⟨rfl, ⟨a', z, t, n, i'⟩, ⟨?_, ?_, ?_, hle, hi2⟩, ?_, [], wkA (.cons (.sl _ _ _ _) (.cons (.po rfl) (.cons (.po rfl) (.cons (.eq (by rw [hj])) .nil))))
          (subC3 n0 (by rw [e0]; exact .v _) (by rw [e1]; exact .v _) (by rw [e2]; exact .v _)) (subRow n1)⟩
        · simp only [rapI, LX.q, hr]
        · simp only [rapI]
        · simp only [rapI, LX.q, hr]
        · simp only [rapI]; omega
      have hst0 : runR z n (n - i) i a = if atF z n i ≠ 38 ∧ atF z n i ≠ 48 then runR z n m (i + 1) (oneF a (atF z n i))
          else if (rcolF z n ((i + 1 : Nat) : Int)).2 = 0 then (true, a)
          else runR z n m (i + 1 + (rcolF z n ((i + 1 : Nat) : Int)).2.toNat) (if atF z n i = 38 then { a with x := (rcolF z n ((i + 1 : Nat) : Int)).1 } else { a with y := (rcolF z n ((i + 1 : Nat) : Int)).1 }) := by
        rw [hm]
        simp only [runR, if_pos h]
      have hcol := rcolF_snd z n ((i + 1 : Nat) : Int)
      generalize hc : rcolF z n ((i + 1 : Nat) : Int) = c at hcol hst0 ⊢
      have hj : ¬ c.2 = 0 → IntKind.i64.wrap (IntKind.i64.wrap ((i : Int) + c.2) + 1) = ((i + 1 + c.2.toNat : Nat) : Int) := fun hu => by
        rw [W_in (n := (i : Int) + c.2) (by omega) (by omega), W_in (by omega) (by omega)]
        omega
      have back : ¬ (atF z n i ≠ 38 ∧ atF z n i ≠ 48) → c.2 = 0 → ∀ (c0 c1 : DC), 1 ≤ c1.n → c1.get 0 0 = iv a.x → c1.get 0 1 = iv a.y → c1.get 0 2 = iv a.f →
          1 ≤ c0.n → rapI.ask ⟨a, z, t, n, i⟩ .ret 51 [.sl t (fun a _ => iv (z a)) 1 n, .po 0 0 0, .po 1 0 0, iv i] [.po 0 0 0, .po 1 0 0] [some ⟨3, c0⟩, some ⟨3, c1⟩] = some () := by
        intro h3 hu c0 c1 n1 e0 e1 e2 n0
        have hr : LX.q ⟨a, z, t, n, i⟩ = (true, a) := by
          show runR z n (n - i) i a = _
          rw [hst0, if_neg h3, if_pos hu]
        refine LInv.ask_of ⟨rfl, ?_, [], ?_⟩
        · simp only [rapI, hr]; rfl
        · simp only [rapI, hr]
          exact wkA (.cons (.po rfl) (.cons (.po rfl) .nil)) (subRow n0) (subC3 n1 (by rw [e0]; exact .v _) (by rw [e1]; exact .v _) (by rw [e2]; exact .v _))
      refine hT (intsOk_ints _ _) (hT (by omega) ?_)
      refine cS (fun h38 => ?_) fun h38 => ?_
      · have e38 : atF z n i ≠ 38 := by simpa using h38
        refine cS (fun h48 => ?_) fun h48 => ?_
        · have e48 : atF z n i ≠ 48 := by simpa using h48
          refine goOn _ _ (oneF a (atF z n i)) (i + 1) _ rfl (by omega) (by omega) (Nat.le_refl _) (Nat.le_refl _) rfl rfl rfl ?_
          rw [hst0, if_pos ⟨e38, e48⟩]
          exact runR_fuel _ _ _ _ (by omega) (by omega)
        · have e48 : atF z n i = 48 := by simpa using h48
          refine hT (intsOk_ints _ _) (hT (by omega) ?_)
          refine cS (fun hu => ?_) fun hu => ?_
          · exact back (fun h => h.2 e48) (by simpa using hu) _ _ (Nat.le_refl _) rfl rfl rfl (Nat.le_refl _)
          · have hu : ¬ c.2 = 0 := by simpa using hu
            refine cF (by simpa using e38) (goOn _ _ { a with y := c.1 } (i + 1 + c.2.toNat) _ (hj hu) (by omega) (by omega) (Nat.le_refl _) (Nat.le_refl _) rfl rfl rfl ?_)
            rw [hst0, if_neg (fun h => h.2 e48), if_neg hu, if_neg e38]
            exact runR_fuel _ _ _ _ (by omega) (by omega)
      · have e38 : atF z n i = 38 := by simpa using h38
        refine hT (intsOk_ints _ _) (hT (by omega) ?_)
        refine cS (fun hu => ?_) fun hu => ?_
        · exact back (fun h => h.1 e38) (by simpa using hu) _ _ (Nat.le_refl _) rfl rfl rfl (Nat.le_refl _)
        · have hu : ¬ c.2 = 0 := by simpa using hu
          refine cT (by simpa using e38) (goOn _ _ { a with x := c.1 } (i + 1 + c.2.toNat) _ (hj hu) (by omega) (by omega) (Nat.le_refl _) (Nat.le_refl _) rfl rfl rfl ?_)
          rw [hst0, if_neg (fun h => h.1 e38), if_neg hu, if_pos e38]
          exact runR_fuel _ _ _ _ (by omega) (by omega)
    · obtain rfl : i = n := by omega
      have hr : LX.q ⟨a, z, t, i, i⟩ = (false, a) := by
        show runR z i (i - i) i a = _
        rw [Nat.sub_self]
        rfl
      refine LInv.ask_of ⟨rfl, ?_, [], ?_⟩
      · simp only [rapI, hr]; rfl
      · simp only [rapI, hr]
        exact wkA (.cons (.po rfl) (.cons (.po rfl) .nil)) subA (subRow (Nat.le_refl _))

def rapplyF (a : At) (z : Nat → Int) (n : Nat) : At := if n = 0 then dfl else (runR z n n 0 a).2
noncomputable def rapplyC : ConF := fun args k => match args with
  | [.agg [.v (.int .i64 x), .v (.int .i64 y), .v (.int .i64 f)], d] => intsK d fun z n => bif holds (n ≤ 1000000) then k (fun _ => (.agg [iv (rapplyF ⟨x, y, f⟩ z n).x, iv (rapplyF ⟨x, y, f⟩ z n).y, iv (rapplyF ⟨x, y, f⟩ z n).f], [])) else none
  | _ => none
theorem rapply_ok {st : AE.Stat} (hst : CodesIn st) : ConOk Tryd.prog st 14 rapplyC := by
  refine con_flat (mg := []) (l := [(22, dflC)]) (lp := lpOf [(58, rapI.g)]) (n := 0) (glOk hst) (fun x hx => ?_) Tryd.func14 (by kernel_rfl) (by kernel_rfl) (lp_one (by kernel_rfl) (rap_ok hst)) fun args k hk => ?_
  · obtain rfl : x = (22, dflC) := by simpa using hx
    exact dfl22 hst
  · unfold rapplyC at hk
    split at hk <;> first | (cases hk; done) | skip
    rename_i x y f d
    obtain ⟨t, z, n, hk, hc⟩ := intsK_some hk
    obtain ⟨hn, hk⟩ := bif_none hk
    have hn : n ≤ 1000000 := holds_eq.1 hn
    refine ⟨[.agg [iv x, iv y, iv f], .sl t (ints z) 1 n], _, .self (.cons hc .nil), flR_clo rfl, hk, (rap_fun x y f t z n _).trans ?_⟩
    refine cS (fun h => ?_) fun h => ?_
    · have h : n = 0 := by simpa using h
      refine isD_of ?_
      unfold rapplyF
      rw [if_pos h]
      rfl
    · have h : ¬ n = 0 := by simpa using h
      refine hT ⟨⟨Nat.zero_le _, hn⟩, [], wkA (.cons (.sl _ _ _ _) (.cons (.po rfl) (.cons (.po rfl) (.cons (.v _) .nil)))) subA (subRow (Nat.le_refl _))⟩ ?_
      have e : rapplyF ⟨x, y, f⟩ z n = (LX.q ⟨⟨x, y, f⟩, z, t, n, 0⟩).2 := by
        unfold rapplyF
        rw [if_neg h]
        rfl
      rw [e]
      exact cS (fun _ => isD_of rfl) fun _ => isD_of rfl
end Go.Proofs.YtolmaphpfhplpaaDoor
